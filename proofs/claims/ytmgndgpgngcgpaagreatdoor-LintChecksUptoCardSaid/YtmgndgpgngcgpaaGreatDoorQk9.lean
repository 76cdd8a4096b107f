import Derived.Test.YtmgndgpgngcgpaaGreatDoorQk8
set_option linter.unusedSectionVars false
set_option linter.unusedSimpArgs false
set_option linter.unusedVariables false
set_option maxHeartbeats 4000000
set_option maxRecDepth 100000
open Go.Value renaming int->O,string->ab,pointer->ae,agg->ah,tuple->ai,bool->aj
open Go.IntKind renaming i64->U,wrap->ar
open Go.Ending renaming returned->ak
open _root_.ByteArray renaming mk->ao
open _root_.Go.Proofs.Tryz renaming prog->aq
open Go.Instr renaming buildSlice->au
open Go renaming World->av,Value->aw,Calls->az
open Go.Kt renaming Only->ay,SliceF->aA,Cells->aB,OnlyP->aD,Blk->aF
open Go renaming World->av,Value->aw
namespace Go.Proofs.YtmgndgpgngcgpaaGreatDoor.Con
open Go Go.RowKit Go.Kt Go.Kt.V Go.Proofs.YtmgndgpgngcgpaaGreatDoor.Vc
section
variable {w w':av} {b m0 m1:Nat} {F G:aJ} {s:Sl} {xs:List gv} {vn:List (aH)} {f g:Ft}
theorem BX{l:List Nd}{j}{y}(h:l[j]? =some y):BR (l.take (j+1))=BR (l.take j)+if gK y.b.k=true then 0 else 1:=by
 unfold BR;rw[bn,h,lw,aN];simp[Option.toList,rz,eU];cases gK y.b.k<;>simp
theorem RF l:BR l<=l.length:=List.length_filter_le _ _
theorem RG{D:Nat}{bb}{ks}{cs}(hx:kj false (D+1) w G (.mk bb ks) cs)(hG:∀k,G k->k≠b)(h:Lx w b m0 m1 F s xs vn f){n:Nat}(hn:n<xs.length):
  az aq 36 #[ae (some ⟨b,0,none⟩),ah cs.toArray,O U (n:Int)] w λr w'=>r=ak (ai #[])/\Lx w' b m0 m1 F s xs vn (ix f (vD xs bb ks n))/\ay [b] w w':=by
 obtain⟨en,lv,mv,kids,iC,_,fO⟩:=hx;have hk:=fO.1;dsimp[Nd.kids,Nd.b]at hk iC;subst iC;refine ret (alP _ _ _ _ _ _ _ _ _ _ _ _ _ ?_);intro k0 w0 fO dQ cf;have z0:=cf.size;have CK:=h.lo.lt;have F7:=hk.len;have auL:=hk.cap;have auM:=hk.big;have wC:k0≠b:=aE
 refine⟨λkv c bg i u=>∃j:Nat,i=(j:Int)/\kv+j=ks.length/\j<=ks.length/\c=(BR (ks.take j):Nat)/\bg=xz bb.ini (ks.take j)/\ay [] w u/\w0.heap.size<=u.heap.size,ks.length,⟨0,rfl,aE,be _,rfl,rfl,cf,aY _⟩,?_⟩;rintro kv _ _ _ w1 ⟨j,rfl,tw,hj,rfl,rfl,cn,z1⟩;refine⟨λhc=>?_,λhc=>?_⟩
 ·have hc:=aR hc;obtain⟨ad,y,ds,a1,a2,a3,a4,a5,a6⟩:=(SliceF.only (bU false D) aL hk cn aM).get (aZ j) aE;rw[aX]at a2;obtain⟨D',rfl⟩:∃D',D=D'+1:=by
   cases D with
   | zero=>exact a6.elim
   | succ D'=>exact⟨D',rfl⟩
  obtain⟨qA,qB,nR,gj,rfl,_⟩:=a6;have kR:=RF (ks.take j);have pH:(ks.take j).length<=j:=by rw[cF];omega
  refine⟨ad,a1,_,_,_,_,qA,qB,nR,gj,_,a5,λk3 w2 yS vI cH=>?_⟩;have z2:=cH.size;refine⟨λc u=>c=(BR (ks.take (j+1)):Nat)/\ay [] w2 u,?_,(An w2 y.b.k).mono ?_⟩
  ·rintro _ w3 ⟨rfl,cT⟩;have z3:=cT.size;refine⟨kv-1,aE,j+1,aaa,aE,aE,rfl,?_,(cn.ca cH).ca cT,aE⟩;unfold xz;rw[bn,a2,AE,gU];simp
  rintro _ w4 ⟨rfl,hu⟩;obtain rfl:w2=w4:=hu.symm;refine⟨_,rfl,bS.refl _ _,λhh=>⟨?_,Only.refl _ _⟩,λhh=>⟨?_,Only.refl _ _⟩⟩
  ·rw[eY aE aE,BX a2,aQ (by intro e;rw[e]at hh;cases hh)];rfl
  rw[BX a2,aV adq];rfl
 have hc:=aU hc;have kF:j=ks.length:=aE
 subst kF;rw[bm (aY _)];have h1:=h.o0 cn;have q0:∀u,((T u).toList==(ao #[]).toList)=decide (u=[]):=λu=>gU u [];refine(An w1 bb.k).mono ?_;rintro _ w5 ⟨rfl,hu⟩;obtain rfl:w1=w5:=hu.symm;refine⟨_,rfl,bS.refl _ _,λhh w6 dK=>?_,λhh=>⟨λhp=>?_,λhp=>⟨λhs=>?_,λhs=>?_⟩⟩⟩
 ·have z6:=dK.size;have o6:=cn.ca dK;have h6:=h.o0 o6;have KJ:vD xs bb ks n=bad (FZ xs bb.dft&&xv xs (gf xs bb.dft) (Rq xs n)) 26 bb.a:=by unfold vD;rw[aV hh]
  refine⟨_,Blk.dN h6.lo.blk 0 rfl,(Fe h6 bb.dft).mono ?_⟩;rintro _ w7 ⟨rfl,hu⟩;obtain rfl:w6=w7:=hu.symm;refine⟨_,rfl,bS.refl _ _,λu=>Lx u b m0 m1 F s xs vn (ix f _)/\ay [b] w u,λu h=>⟨rfl,h.1,h.2⟩,λw9 fG=>?_⟩;have z9:=fG.size;have o9:=o6.ca fG;have h9:=h.o0 o9;refine⟨λk=>k=k0,rfl,(Hy h9 (by rcases Hx xs bb.dft with h | _<;>omega)).mono ?_⟩;rintro _ de ⟨rfl,hu⟩;obtain rfl:w9=de:=hu.symm;obtain⟨x,hx⟩:=lh hn;obtain⟨ad,a1,a2,a3,_⟩:=od h9.sp hx;refine⟨_,rfl,bS.refl _ _,bR.refl _ _,λhb=>⟨s,Blk.dN h9.lo.blk 1 rfl,s,Blk.dN h9.lo.blk 1 rfl,ad,a1,x.pa,a3,(N9 h9.sp h9.fo _ x.pa).mono ?_⟩,λhb=>(mj h9 false 26 bb.a).mono ?_⟩
  ·rintro _ dz ⟨rfl,hu⟩;obtain rfl:w9=dz:=hu.symm;refine⟨_,rfl,bS.refl _ _,bR.refl _ _,(mj h9 _ 26 bb.a).mono ?_⟩;rintro _ eu ⟨rfl,CX,eh⟩;refine⟨rfl,eh.same aaf,Ff eh wC,?_,uh (zJ o9) eh⟩;have e1:N8 xs (gf xs bb.dft) x.pa=xv xs (gf xs bb.dft) x.pa:=by rw[bH,BW,Ru]
   rw[KJ,uc hx,<-e1,show FZ xs bb.dft=true from hb,bZ];exact CX
  rintro _ eS ⟨rfl,sX,dU⟩;refine⟨rfl,dU.same aaf,Ff dU wC,?_,uh (zJ o9) dU⟩;rw[KJ,show FZ xs bb.dft=false from hb,cQ];exact sX
 ·have hp:=aek
  have KJ:vD xs bb ks n=bad (decide (bb.ini=[])&&decide (1<BR ks)) 25 bb.a:=by unfold vD;rw[aQ acW,aV hp]
  rw[q0,show decide ((BR ks:Int)>1)=decide (1<BR ks)from ry.2 aE];refine(mj h1 _ 25 bb.a).mono ?_;rintro _ fJ ⟨rfl,PC,ec⟩;exact⟨rfl,ec.same aaf,rfl,by rw[KJ];exact PC,uh (zJ cn) ec⟩
 ·have hp:=aek
  have hs:=aR hs;have KJ:vD xs bb ks n=bad (xz bb.ini ks) 25 bb.a:=by unfold vD;rw[aQ acW,aQ hp,aV aE]
  refine(mj h1 _ 25 bb.a).mono ?_;rintro _ fJ ⟨rfl,PC,ec⟩;exact⟨rfl,ec.same aaf,rfl,by rw[KJ];exact PC,uh (zJ cn) ec⟩
 have hp:=aek
 have hs:=aU hs;have KJ:vD xs bb ks n=bad (decide (bb.ini=[])) 25 bb.a++bad (decide (ks.length=0)) 26 bb.a:=by unfold vD;rw[aQ acW,aQ hp,aQ aE]
 rw[q0];refine(mj h1 _ 25 bb.a).mono ?_;rintro _ jm ⟨rfl,WQ,jo⟩;have z16:=jo.size;have e0:((kids.n:Int)==0)=decide (ks.length=0):=by rw[F7,bH];simp
 rw[e0];refine⟨rfl,jo.same aaf,(mj WQ _ 26 bb.a).mono ?_⟩;rintro _ jd ⟨rfl,Ng,iZ⟩;exact⟨rfl,iZ.same aaf,rfl,by rw[KJ,fD];exact Ng,uh (uh (zJ cn) jo) iZ⟩
theorem agv u l:∃y w1,(au 145 1 #[.mk 0 l.v]).run aq u=.ok (Sl.v y) w1/\ay [] u w1/\aA Hz 1 w1 (λ_=>True) y [l]:=by
 obtain⟨y,w1,k1,k2,k3,_⟩:=jZ (P:=aq) (t:=145) (e:=23) (i:=Tryz.t23) (z:=Sl.nil.v) (w:=u) (F:=λ_=>False) (vs:=[l.v]) (parts:=#[.mk 0 l.v]) (len:=1) (xs:=[l]) (r:=Hz) (size:=1) (by kernel_rfl) (by kernel_rfl) rfl rfl aL rfl rfl aL aL se ⟨⟨rfl,rfl⟩,trivial⟩;exact⟨y,w1,k1,k3,(k2.slice se).mono se λ_ _=>trivial⟩
theorem agw u l m:∃y w1,(au 145 2 #[.mk 0 l.v,.mk 1 m.v]).run aq u=.ok (Sl.v y) w1/\ay [] u w1/\aA Hz 1 w1 (λ_=>True) y [l,m]:=by
 obtain⟨y,w1,k1,k2,k3,_⟩:=jZ (P:=aq) (t:=145) (e:=23) (i:=Tryz.t23) (z:=Sl.nil.v) (w:=u) (F:=λ_=>False) (vs:=[l.v,m.v]) (parts:=#[.mk 0 l.v,.mk 1 m.v]) (len:=2) (xs:=[l,m]) (r:=Hz) (size:=1) (by kernel_rfl) (by kernel_rfl) rfl rfl aL rfl rfl aL aL se ⟨⟨rfl,rfl⟩,⟨rfl,rfl⟩,trivial⟩;exact⟨y,w1,k1,k3,(k2.slice se).mono se λ_ _=>trivial⟩
theorem RH:∀D {w:av} {x:Nd} {cs:aI} {f:Ft} {n:Nat},kj false D w G x cs->(∀k,G k->k≠b)->Lx w b m0 m1 F s xs vn f->n+jk x<=xs.length->lQ x<=8388608->
  az aq 18 #[ae (some ⟨b,0,none⟩),ah cs.toArray,O U n] w λr w'=>r=ak (O U ((n+jk x:Nat):Int))/\Lx w' b m0 m1 F s xs vn (ix f (Pb xs vn n x))/\ay [b] w w'
 | 0,_,_,_,_,_,h,_,_,_,_=>h.elim
 | D+1,w,.mk bb ks,cs,f,n,hx,hG,h,hn,hz=>by
  have TP:=hx;obtain⟨en,lv,mv,kids,iC,⟨zv,uD,oQ⟩,fO⟩:=hx;have hk:=fO.1;have zv:=zv.1;have uD:=uD.1;have oQ:=oQ.1;clear fO;dsimp only[Nd.kids,Nd.b]at hk iC zv uD oQ;subst iC;rw[jk]at hn;rw[lQ]at hz;have Wt:=hz;unfold BN at Wt;have hl1:=fT bb.en;have wz:=fT bb.lv;have F7:=hk.len;have Io:=oQ.len;have FT:=h.ln;have auN:=oQ.cap;have auO:=oQ.big;have auP:=rc ks;refine ret (alO _ _ _ _ _ _ _ _ _ _ _ _ _ ?_);intro k0 w0 fO dQ cf;have z0:=cf.size;have CK:=h.lo.lt;have wC:k0≠b:=aE
  have tr:∀{u v:av},ay [b] w u->ay [b] u v->ay [b] w v:=λh g=>uh h g;refine(RG ((bU false (D+1)).keep TP λk hk bT=>cf.block k bT aM) hG (h.o0 cf) (n:=n) aE).mono ?_;rintro _ w1 ⟨rfl,h1,cn⟩;have z1:=cn.size;have o1:=tr (zJ cf) cn;obtain⟨y,w2,p1,p2,p3⟩:=agw w1 en lv;have z2:=p2.size;have o2:=o1.ca p2;have row:∀{u:av} {sl:Sl} {l:List Ac},aA (mG false) 9 w G sl l->ay [b] w u->aA (mG false) 9 u G sl l:=λhs hO=>SliceF.only (cy false) aL hs hO λk hk _ hm=>hG k hk aa3;refine⟨rfl,cn.same aaf,y,w2,p1,p2.same aaf,(Ms (l:=[(en,bb.en),(lv,bb.lv)]) p3 (λp hp=>?_) ?_ hG (h1.o0 p2)).mono ?_⟩
  ·simp only[ba,bp,cb]at hp;rcases hp with rfl | rfl
   ·exact row zv o2
   exact row uD o2
  ·unfold nt;simp;omega
  rintro _ w3 ⟨rfl,h3,cT⟩;have z3:=cT.size;have o3:=tr o2 cT;have acr:nt [(en,bb.en),(lv,bb.lv)]=bb.en++bb.lv:=by unfold nt;simp
  rw[acr]at h3;refine⟨rfl,cT.same aaf,λkv i u=>∃j:Nat,i=(j:Int)/\kv+j=bb.mv.length/\j<=bb.mv.length/\Lx u b m0 m1 F s xs vn (ix f (vD xs bb ks n++(jV xs vn (bb.en++bb.lv)++(bb.mv.take j).flatMap (BQ xs vn))))/\ay [b] w u/\w0.heap.size<=u.heap.size,bb.mv.length,
   ⟨0,rfl,aE,be _,by rw[ci,rA,bD,fD];exact h3,o3,aE⟩,?_⟩
  rintro kv _ w4 ⟨j,rfl,tw,hj,h4,o4,z4⟩;refine⟨λhc=>?_,λhc=>?_⟩
  ·have hc:=aR hc;obtain⟨ad,m,ds,a1,a2,a3,a4,a5,a6⟩:=(SliceF.only (gW false) aL oQ o4 λk hk _ hm=>hG k hk aa3).get (aZ j) aE;rw[aX]at a2;obtain⟨gc,pO,tg,rfl,YX,Cn,pG⟩:=a6;obtain⟨gs,rfl⟩:=dX YX;have Cn:=Cn.1;have pG:=pG.1;have hmz:=pu (bh a2);unfold EX at hmz;have Y4:=fT m.acts;have Ia:=xq m.tg;have WG:=h4.lo.lt;refine⟨ad,a1,_,_,_,_,_,_,_,_,gs,_,pO,tg,_,a5,λk3 w5 yS vI dY=>?_⟩;have z5:=dY.size;have h5:=h4.o0 dY;have aoK:k3≠b:=aE
   refine(mj h5 (Hv m) 28 m.a).mono ?_;rintro _ w6 ⟨rfl,h6,dK⟩;have z6:=dK.size;obtain⟨d,hxd⟩:=YX;refine⟨rfl,dK.same aaf,(Fg d ((kw false d).keep hxd λk hk bT=>?_) hG h6).mono ?_⟩
   ·exact(dK.block k aE adj).trans (dY.block k bT aM)
   rintro _ w7 ⟨rfl,h7,fK⟩;have z7:=fK.size;obtain⟨y8,w8,q1,q2,q3⟩:=agv w7 pO;have z8:=q2.size;have s7:ay [b] w5 w7:=uh dK fK;have s8:ay [b] w4 w8:=(uh (zJ dY) s7).ca q2;refine⟨rfl,fK.same aaf,y8,w8,q1,q2.same aaf,(Ms (l:=[(pO,m.acts)]) q3 (λp hp=>?_) ?_ hG (h7.o0 q2)).mono ?_⟩
   ·simp only[aO]at hp;subst hp;exact SliceF.only (cy false) aL Cn s8 λk hk _ hm=>hG k hk aa3
   ·unfold nt;simp only[wJ,rA,bD];omega
   rintro _ w9 ⟨rfl,h9,fG⟩;have z9:=fG.size;have acr:nt [(pO,m.acts)]=m.acts:=by unfold nt;simp
   rw[acr]at h9;refine⟨rfl,fG.same aaf,λde dT=>⟨λk=>k=k3,rfl,?_⟩⟩;have Ih:=dT.size;have CM:ay [b] w4 de:=(uh s8 fG).ca dT;refine(JC (h9.o0 dT) (SliceF.only cX aL pG CM λk hk _ hm=>hG k hk aa3) aE).mono ?_;rintro _ dz ⟨rfl,dH⟩;have CR:=dH.size;refine⟨_,rfl,dH.same aaf,bR.only dH,(mj ((h9.o0 dT).o0 dH) _ 27 m.a).mono ?_⟩;rintro _ eu ⟨rfl,CX,eh⟩;have z12:=eh.size;refine⟨rfl,eh.same aaf,Ff eh aoK,kv-1,aE,j+1,aaa,aE,aE,?_,tr o4 (uh (CM.ca dH) eh),aE⟩;have e1:(bb.mv.take (j+1)).flatMap (BQ xs vn)=(bb.mv.take j).flatMap (BQ xs vn)++BQ xs vn m:=by
    rw[bn,a2,gR];simp
   have e2:vD xs bb ks n++(jV xs vn (bb.en++bb.lv)++((bb.mv.take j).flatMap (BQ xs vn)++BQ xs vn m))=(vD xs bb ks n++(jV xs vn (bb.en++bb.lv)++(bb.mv.take j).flatMap (BQ xs vn)))++BQ xs vn m:=by simp only[bf]
   rw[e1,e2,fD,BQ,fD,fD,fD];exact CX
  have hc:=aU hc;have kF:j=bb.mv.length:=aE
  subst kF;rw[bm (aY _)]at h4;refine⟨λkv a i u=>∃j:Nat,i=(j:Int)/\kv+j=ks.length/\j<=ks.length/\a=((n+1+dD (ks.take j):Nat):Int)/\Lx u b m0 m1 F s xs vn (ix f (vD xs bb ks n++(jV xs vn (bb.en++bb.lv)++(bb.mv.flatMap (BQ xs vn)++qt xs vn (n+1) (ks.take j)))))/\ay [b] w u/\w0.heap.size<=u.heap.size,ks.length,
   ⟨0,rfl,aE,be _,aaa,by rw[ci,qt,bD];exact h4,o4,z4⟩,?_⟩
  rintro kv _ _ eS ⟨j,rfl,tw,hj,rfl,sX,o13,Pu⟩;refine⟨λhc=>?_,λhc=>?_⟩
  ·have hc:=aR hc;obtain⟨ad,y,ds,a1,a2,a3,a4,a5,a6⟩:=(SliceF.only (bU false D) aL hk o13 λk hk _ hm=>hG k hk aa3).get (aZ j) aE;rw[aX]at a2;have Il:=a6;obtain⟨D',rfl⟩:∃D',D=D'+1:=by
    cases D with
    | zero=>exact a6.elim
    | succ D'=>exact⟨D',rfl⟩
   obtain⟨qA,qB,nR,gj,rfl,_⟩:=Il;have vW:=nq a2;have hzy:=mg (bh a2);refine⟨ad,a1,_,_,_,_,qA,qB,nR,gj,_,a5,λk7 fJ hk7 WX ec=>?_⟩;have YL:=ec.size;have auQ:=sX.lo.lt;refine(RH (D'+1) ((bU false (D'+1)).keep a6 λk _ bT=>ec.block k bT aM) hG (sX.o0 ec) (n:=n+1+dD (ks.take j)) aE aE).mono ?_;rintro _ gY ⟨rfl,Ay,je⟩;have z15:=je.size;have e:ks.take (j+1)=ks.take j++[y]:=by rw[bn,a2];rfl
   refine⟨_,rfl,je.same aaf,kv-1,aE,j+1,aaa,aE,aE,?_,?_,tr (o13.ca ec) je,aE⟩
   ·have:dD (ks.take (j+1))=dD (ks.take j)+jk y:=by rw[e,xu,dD,dD];omega
    omega
   have e2:vD xs bb ks n++(jV xs vn (bb.en++bb.lv)++(bb.mv.flatMap (BQ xs vn)++(qt xs vn (n+1) (ks.take j)++Pb xs vn (n+1+dD (ks.take j)) y)))=(vD xs bb ks n++(jV xs vn (bb.en++bb.lv)++(bb.mv.flatMap (BQ xs vn)++qt xs vn (n+1) (ks.take j))))++Pb xs vn (n+1+dD (ks.take j)) y:=by simp only[bf]
   rw[e,BS,qt,qt,bD,e2,fD];exact Ay
  have hc:=aU hc;have kF:j=ks.length:=aE
  subst kF;rw[bm (aY _)]at sX⊢;refine⟨?_,by rw[Pb];exact sX,o13⟩;rw[jk];congr 2;omega
end
def sJ(c:Ch):Ft:=if(gL c).2≠0 then((gL c).2, -1)else ix (0,0) (Dw c)
theorem HB{w}{F}{D}{c}{vs}{cs}(hx:ChR false (D+1) w F c vs cs)(hn:Ip c)(hs:mB c.vars+lQ c.root<=8388608)(hE:Er w)(hT:Tb w):
  az aq 7 #[ah (vs.v::cs).toArray] w λe w'=>e=ak (ah #[O U (sJ c).1,O U (sJ c).2])/\ay [] w w':=by
 have hxr:=hx.root;obtain⟨en,lv,mv,kids,iC,_⟩:=hx.root;subst iC;refine ret (alK _ _ _ _ _ _ _ _ _ _ _ _ ?_);intro k0 k1 w0 fO dQ kU jC cf;have z0:=cf.size;have keep:∀{u:av},ay [] w u->ChR false (D+1) u F c vs (mH c.root.b.k c.root.b.nm c.root.b.ini c.root.b.dft en lv mv kids c.root.b.a):=λhO=>⟨hx.vars.keep dF aL λk _ bT=>hO.block k bT aM,(bU false _).keep hx.root λk _ bT=>hO.block k bT aM⟩
 refine(aag (keep cf) hn hs (hE.only cf) (hT.only cf)).mono ?_;rintro _ w1 ⟨⟨t,rfl,ht,_⟩,cn⟩;have z1:=cn.size;have o1:=cf.ca cn;refine⟨_,_,rfl,cn.same aaf,λhc w2 cH=>?_,λhc=>?_⟩
 ·have hc:(gL c).2≠0:=aax
  unfold sJ;rw[aV hc];exact⟨rfl,o1.trans cH λk hk=>.inr abn⟩
 have hc:(gL c).2=0:=aax
 have elm:sJ c=ix (0,0) (Dw c):=by unfold sJ;rw[aQ (λh=>h hc)]
 rw[elm];have ht:=ht hc;have hnd:=uZ hc;obtain⟨r3,hM3,cT⟩:=MapV.make (P:=aq) (mty:=54) (kv:=kS) (g:=gS) w1;have hl3:=hM3.lt;refine⟨_,_,r3,cT.same aaf,?_⟩;generalize w1.alloc (.map #[] 0)=w3 at*
 obtain⟨r4,hM4,dw⟩:=MapV.make (P:=aq) (mty:=54) (kv:=kS) (g:=gS) w3;have WV:=hM4.lt;have z3:=cT.size;refine⟨_,_,r4,dw.same aaf,?_⟩;intro b w5 hb ol dY ux;have z5:=dY.size;have o5:=((o1.ca cT).ca dw).ca dY;have UB:Lo w5 b w1.heap.size w3.heap.size Sl.nil [] [] (0,0):=⟨ux,(((hM3.only dw aM).only dY aM).ext λk=>rfl).le (aY _),((hM4.only dY aM).ext λk=>rfl).le (aY _),aE,aE⟩
 have hxh:kj false (D+1) w (λk=>k<w.heap.size) c.root (mH c.root.b.k c.root.b.nm c.root.b.ini c.root.b.dft en lv mv kids c.root.b.a):=(bU false _).mono ((bU false _).inHeap hxr) λk hk=>hk.2;have hvh:aA xQ 3 w (λk=>k<w.heap.size) vs c.vars:=(hx.vars.1.inHeap dF aL).mono dF λk hk=>hk.2;refine(RC (D+1) ((bU false _).keep hxh λk hk bT=>o5.block k bT aM) (λk hk=>aE) UB (Own.nil _ _ _ _ _ _) aE acq).mono ?_;rintro _ w6 ⟨rfl,s6,Uz,hS6,m6⟩;have z6:=m6.1.size;rw[bP]at Uz;have enm:=(Me 0 (-1) 0 c.root).symm;rw[enm]at Uz;have p6:aD (λk=>w1.heap.size<=k) w w6:=(o5.p0).trans m6.1 λk hk=>.inl (hk.elim (λh=>aE) λh=>aaQ);have s56:bS [k0,k1] w5 w6:=m6.1.same λx hx=>by
  simp at hx;rcases hx with rfl | rfl
  ·exact⟨aE,λh=>h.elim aE λh=>aaQ⟩
  exact⟨aE,λh=>h.elim aE λh=>aaQ⟩
 have hvl:=hvh.len;have hvz:=uf c.vars;refine⟨rfl,s56,_,s6,_,_,_,Uz.blk,λkv i p l q x y u=>∃(j:Nat) (f:Ft),i=(j:Int)/\kv+j=c.vars.length/\j<=c.vars.length/\p=some w1.heap.size/\q=some w3.heap.size/\f=(x,y)/\Lo u b w1.heap.size w3.heap.size l ((lP c).map λx:gv=>x.nm) ((Mg c).take j) f/\f=ix (0,0) (tn [] (xT c.root)++tn [] ((c.vars.take j).map λv=>(v.n,v.a)))/\aD (λk=>w1.heap.size<=k) w u/\aD (λk=>k=b∨k=w3.heap.size) w6 u,c.vars.length,
  ⟨0,_,rfl,aE,be _,rfl,rfl,rfl,Uz,by rw[ci,fC,tn,bD],p6,OnlyP.refl _ _⟩,?_⟩
 rintro kv _ _ l2 _ _ _ w7 ⟨j,f,rfl,tw,hj,rfl,rfl,hf,UA,hfe,p7,p67⟩;have z7:=p67.size;refine⟨λbT=>?_,λlR=>?_⟩
 ·have bT:=aR bT;obtain⟨ad,v,ds,a1,a2,a3,a4,a5,a6⟩:=(SliceF.pA dF aL hvh p7 λk hk _=>aE).get (aZ j) aE;rw[aX]at a2;have a6:ds=[ab (T v.n),O U v.v,O U v.a]:=a6;subst a6;have xO:=ud (bh a2);have hgv:gS v.n:=by
   show v.n.length<=maxLen;have:maxLen=9223372036854775807:=rfl;omega
  have vm:((Mg c).take j).length=j:=by rw[cF];unfold Mg;rw[bN];omega
  refine⟨ad,a1,_,_,_,a5,λk5 w8 pQ FQ fj wB=>?_⟩;have z8:=fj.size;have YK:=UA.lt;have c9:=RB (UA.o0 fj) hgv v.a;rw[vm]at c9;refine c9.mono ?_;rintro _ w9 ⟨rfl,hL9,fG⟩;have z9:=fG.size;have ev:(Mg c).take (j+1)=(Mg c).take j++[v.n]:=by
   rw[bn];unfold Mg;rw[cA,a2];rfl
  refine⟨rfl,fG.same aaf,_,_,_,_,_,hL9.blk,kv-1,aE,j+1,_,aaa,aE,aE,rfl,rfl,rfl,by rw[ev];exact hL9,?_,(p7.ca fj).trans (fG.p (F:=λk=>w1.heap.size<=k) λk hk=>.inl (by simp at hk;omega)) λk hk=>.inl hk,(p67.ca fj).trans (fG.p (F:=λk=>k=b∨k=w3.heap.size) λk hk=>.inl aaU) λk hk=>.inl hk⟩;rw[hfe,<-fD];have ed:tn [] ((c.vars.take (j+1)).map λv=>(v.n,v.a))=tn [] ((c.vars.take j).map λv=>(v.n,v.a))++bad (!decide (v.n∈(Mg c).take j)) 24 v.a:=by
   rw[bn,a2,cN,xy,bP];simp only[Option.toList,bK,fC,tn,bD,iE];unfold Mg;rw[<-js];rfl
  rw[ed,bf]
 have lR:=aU lR;have kF:j=c.vars.length:=aE
 subst kF;intro de dT oy n0 n1;have Ih:=dT.size;have hvt:(Mg c).take c.vars.length=Mg c:=bm (by unfold Mg;rw[bN];exact aY _);rw[hvt]at UA;rw[bm (aY _)]at hfe;have aoO:Lo de b w1.heap.size w3.heap.size t ((lP c).map λx:gv=>x.nm) (Mg c) f:=UA.jX dT (by subst hf;exact oy);have p10:=p7.trans (dT.p (F:=λk=>w1.heap.size<=k) λk hk=>.inl abn) λk hk=>.inl hk;have WU:aA yw 5 de (λk=>k<w1.heap.size) t (lP c):=by
  have q5:ay [] w1 w5:=(cT.ca dw).ca dY;have h1:=SliceF.only gy aL ((ht.sl.inHeap gy aL).mono gy (G:=λk=>k<w1.heap.size) λk hk=>hk.2) q5 aM;have h3:=SliceF.pA gy aL (SliceF.pA gy aL h1 m6.1 λk hk _ h=>h.elim aE λh=>aaQ) p67 λk hk _ h=>aE
  exact SliceF.only gy aL h3 dT λk hk _ hm=>by simp at hm;omega
 have hX:Lx de b w1.heap.size w3.heap.size (λk=>k<w1.heap.size) t _ _ f:=⟨aoO,WU,Mc c,by unfold lP;rw[rZ];exact hnd,λk hk=>aE⟩
 refine(RH (n:=0) _ ((bU false _).keep hxh λk hk bT=>p10.block k bT aE) (λk hk=>aE) hX (by unfold lP;rw[rZ];omega) aE).mono ?_;rintro _ dz ⟨rfl,OW,dH⟩;have CR:=dH.size;have hg:ix f (Pb (lP c) (Mg c) 0 c.root)=ix (0,0) (Dw c):=by
  rw[hfe,<-fD,bf];rfl
 rw[hg]at OW;refine⟨_,rfl,dH.same aaf,_,_,_,_,_,OW.lo.blk,λeu eh _=>⟨rfl,?_⟩⟩;have p11:=(p10.mono λk _ hk=>aE).trans (dH.p (F:=λk=>w.heap.size<=k) λk hk=>.inl (by simp at hk;omega)) λk hk=>.inl hk;exact(p11.only λk hk=>hk).trans eh λk hk=>.inr (by simp at hk;omega)
def nu(l:aH):Ft:=if(fu l).2.1=0 then sJ (fu l).1 else(fu l).2
def yy(l:aH):Ch:=if(nu l).1=0 then(fu l).1 else ch0
theorem Fh{w:av}(l:aH)(hn:Ip (fu l).1)(hs:mB (fu l).1.vars+lQ (fu l).1.root<=8388608)(hE:Er w)(hT:Tb w):az aq 13 #[ab (T l)] w λe w'=>
  ∃(vs:Sl) (cs:aI),e=ak (ai #[ah (vs.v::cs).toArray,ah #[O U (nu l).1,O U (nu l).2]])/\ChR true 15 w' (Fr w.heap.size) (yy l) vs cs/\ay [] w w':=by
 refine(alJ (T l) (λv w'=>∃(vs:Sl) (cs:aI),v=(ai #[ah (vs.v::cs).toArray,ah #[O U (nu l).1,O U (nu l).2]])/\ChR true 15 w' (Fr w.heap.size) (yy l) vs cs/\ay [] w w') w ?_).mono (by
  rintro e w' ⟨v,rfl,vs,cs,rfl,h⟩;exact⟨vs,cs,rfl,h⟩)
 intro k0 k1 w0 fO dQ kU jC cf;have z0:=cf.size;refine(Hq l (hE.only cf)).mono ?_;rintro _ w1 ⟨vs,cs,rfl,hC,cn⟩;have z1:=cn.size;have o1:=cf.ca cn;obtain⟨xe,xl,xm,xk,rfl,_⟩:=hC.root;refine⟨vs,_,_,_,_,xe,xl,xm,xk,_,_,_,rfl,cn.same aaf,λk2 k3 w2 oT nC yS vI cH=>?_⟩;have z2:=cH.size;have o2:=o1.ca cH;have kC:∀{u:av},ay [] w1 u->ChR true 15 u (Fr w0.heap.size) (fu l).1 vs (mH (fu l).1.root.b.k (fu l).1.root.b.nm (fu l).1.root.b.ini (fu l).1.root.b.dft xe xl xm xk (fu l).1.root.b.a):=fun{u} hO=>
  ⟨hC.vars.keep dF aL λk _ bT=>hO.block k bT aM,(bU true 15).keep hC.root λk _ bT=>hO.block k bT aM⟩
 have fin:∀{u v:av},ay [] w u->ay [k1,k0] u v->ay [] w v:=λh1 h2=>h1.trans h2 λx hx=>.inr aaV;refine⟨λa b u=>(a,b)=nu l/\ay [] w1 u/\w2.heap.size<=u.heap.size,?_,λhc=>?_,λhc=>⟨?_,cH,aY _⟩⟩
 ·rintro a b w3 ⟨he,cT,z3⟩;have e1:(nu l).1=a:=by rw[<-he]
  have e2:(nu l).2=b:=by rw[<-he]
  refine⟨λhc w4 dw n1 n2 n3 n4 n5 n6=>⟨λk=>k=k3,rfl,?_,?_,λw5 dY=>⟨Sl.nil,_,by rw[e1,e2],?_,fin ((o1.ca cT).ca dw) dY⟩⟩,λhc w6 dK n1 n2 n3 n4 n5 n6=>⟨λk=>k=k3,rfl,?_,?_,λw7 fK=>⟨vs,_,by rw[e1,e2],?_,fin ((o1.ca cT).ca dK) fK⟩⟩⟩
  ·exact λh=>n3 h
  ·exact λh=>n5 h
  ·have hc:a≠0:=aax
   unfold yy;rw[e1,aQ hc];exact⟨jH.nil _ _ _ _ _ _,Q8 aL w5 _⟩
  ·exact λh=>n3 h
  ·exact λh=>n5 h
  have hc:a=0:=aax
  unfold yy;rw[e1,aV hc];have hC6:=kC (cT.ca dK);have ap:∀k,Fr w0.heap.size k->k∉[k1,k0]:=λk (hk:w0.heap.size<=k)=>aaf
  have lo:∀k,Fr w0.heap.size k->Fr w.heap.size k:=λk (hk:w0.heap.size<=k)=>(by omega:w.heap.size<=k)
  exact⟨(hC6.vars.keep dF aL λk hk bT=>fK.block k bT (ap k hk)).mono dF lo,(bU true 15).mono ((bU true 15).keep hC6.root λk hk bT=>fK.block k bT (ap k hk)) lo⟩
 ·have hc:(fu l).2.1=0:=aax
  refine(HB (D:=14) (kC cH).off hn hs (hE.only o2) (hT.only o2)).mono ?_;rintro _ w8 ⟨rfl,fj⟩;have z8:=fj.size;refine⟨_,_,rfl,fj.same aaf,λw9 fG=>⟨?_,?_,by have:=fG.size;omega⟩⟩
  ·unfold nu;rw[aV hc]
  exact(cH.ca fj).trans fG λx hx=>.inr aaL
 have hc:(fu l).2.1≠0:=aax
 unfold nu;rw[aQ hc]
def RI:aH:=[99,104,97,114,116,32,99,32,123,32,115,116,97,116,101,32,97,32,123,32,125,32,125]
def RJ:aH:=[99,104,97,114,116,32,99,32,123,32,105,110,105,116,105,97,108,32,97,59,32,115,116,97,116,101,32,97,32,123,32,111,110,32,120,32,45,62,32,99,59,32,125,32,125]
def HC:aH:=[99,104,97,114,116,32,99,32,123,32,105,110,105,116,105,97,108,32,97,59,32,115,116,97,116,101,32,97,32,123,32,111,110,32,120,32,45,62,32,97,59,32,125,32,125]
def RL(l:aH):Bool:=nCb (fu l).1&&amc (fu l).1
def agx:Bool:=decide (nu RI=(25,6))&&decide (nu RJ=(27,31))&&decide ((nu HC).1=0)&&decide ((fu HC).1.root.b.nm=[99])&&(RL RI&&RL RJ&&RL HC)
theorem V0:agx=true:=by kernel_rfl
theorem JD{l:aH}(h:RL l=true):Ip (fu l).1/\mB (fu l).1.vars+lQ (fu l).1.root<=8388608:=by
 unfold RL at h;rw[aP]at h;exact⟨amb h.1,aR h.2⟩
theorem RM(w:av)(hE:Er w)(hT:Tb w):az aq 5 #[] w λe w'=>e=ak (aj true)/\ay [] w w':=by
 refine ret (alI _ _ ?_);have oh:=V0;unfold agx at oh;simp only[aP]at oh;obtain⟨⟨⟨⟨h1,h2⟩,h3⟩,h4⟩,⟨h5,h6⟩,h7⟩:=oh;have h1:=aR h1;have h2:=aR h2;have h3:=aR h3;have h4:=aR h4;have h5:=JD h5;have h6:=JD h6;have h7:=JD h7;refine(Fh RI h5.1 h5.2 hE hT).mono ?_;rintro _ w0 ⟨vs,cs,rfl,hC,cf⟩;obtain⟨xe,xl,xm,xk,rfl,_⟩:=hC.root;have z0:=cf.size;refine⟨vs,_,_,_,_,xe,xl,xm,xk,_,_,_,rfl,λk0 k1 w1 fO dQ kU jC cn=>?_⟩;have z1:=cn.size;have o1:=cf.ca cn;refine(Fh RJ h6.1 h6.2 (hE.only o1) (hT.only o1)).mono ?_;rintro _ w2 ⟨vs2,cs2,rfl,hC2,cH⟩;obtain⟨ye,yl,ym,yk,rfl,_⟩:=hC2.root;have z2:=cH.size;refine⟨vs2,_,_,_,_,ye,yl,ym,yk,_,_,_,rfl,cH.same aaf,λk2 k3 w3 oT nC yS vI cT=>?_⟩;have z3:=cT.size;have o3:=(o1.ca cH).ca cT;refine(Fh HC h7.1 h7.2 (hE.only o3) (hT.only o3)).mono ?_;rintro _ w4 ⟨vs4,cs4,rfl,hC4,dw⟩;obtain⟨ue,ul,um,uk,rfl,_⟩:=hC4.root;have z4:=dw.size;refine⟨vs4,_,_,_,_,ue,ul,um,uk,_,_,_,rfl,dw.same aaf,λk4 k5 w5 uC CS pQ FQ dY=>⟨?_,(o3.ca dw).ca dY⟩⟩;have hn:(yy HC).root.b.nm=[99]:=by unfold yy;rw[aV h3];exact h4
 rw[hn,show ao #[99]=T [99]from rfl,gU,h1,h2,h3];rfl
def sh(t:Tk):Tk:=⟨t.k,t.t,t.n,t.a+1⟩
inductive Sim:Ex->Ex->Prop
 | leaf (k n:Int) (s:aH) (op a b:Int):Sim (.mk k n s op [] a) (.mk k n s op [] b)
 | one (k n:Int) (s:aH) (op a b:Int) (x y:Ex):Sim x y->Sim (.mk k n s op [x] a) (.mk k n s op [y] b)
 | two (k n:Int) (s:aH) (op a b:Int) (x y x' y':Ex):Sim x x'->Sim y y'->Sim (.mk k n s op [x,y] a) (.mk k n s op [x',y'] b)
structure Wr (ts nD:List Tk) (n:Nat):Prop where
 e:∀i,n<=i->(tk ts i).k=5
 s:∀i,i<n->(tk nD (i+1)).k=(tk ts i).k/\(tk nD (i+1)).t=(tk ts i).t/\(tk nD (i+1)).n=(tk ts i).n
 c:(tk nD (n+1)).k=4/\(tk nD (n+1)).t=[41]
def tj(n:Nat)(r r':Pr):Prop:=∀x j,r=.ok (x,j)->(∃x',r'=.ok (x',j+1)/\Sim x x'/\j<=n)∨∃a,r'=.error (21,a)
section
variable {ts nD:List Tk} {n:Nat}
theorem Wr.lt(h:Wr ts nD n){i:Nat}(hk:(tk ts i).k≠5):i<n:=by
 refine bL λhn=>hk (h.e i aE)
theorem Wr.M3(h:Wr ts nD n){i:Nat}(hi:i<n)(s:aH):sg nD (i+1) s=sg ts i s:=by
 unfold sg;obtain⟨h1,h2,_⟩:=h.s i hi;rw[h1,h2]
theorem tj.map{r r':Pr}(h:tj n r r'){g g':Ex->Ex}(hg:∀x x',Sim x x'->Sim (g x) (g' x')):tj n (G5 g r) (G5 g' r'):=by
 intro x j hx;obtain⟨y,h1,rfl⟩:=Ab hx;rcases h y j h1 with⟨x',h2,h3,h4⟩ | ⟨a,h2⟩
 ·exact .inl ⟨g' x',by rw[h2];rfl,hg _ _ h3,h4⟩
 exact .inr ⟨a,by rw[h2];rfl⟩
theorem tj.nest{r r':Pr}{d:Nat}{a a':Int}(h:d+1≠20->tj n r r'):tj n (jh d a r) (jh (d+1) a' r'):=by
 intro x j hx;obtain⟨h1,h2⟩:=qV hx;by_cases h3:d+1=20
 ·exact .inr ⟨a',by rw[jh,aV h3]⟩
 rw[jh,aQ h3];exact h h3 x j h1
theorem tj.par(hw:Wr ts nD n){r r':Pr}(h:tj n r r'):tj n (rU ts r) (rU nD r'):=by
 intro x j hx;obtain⟨j',h1,h2,rfl⟩:=Ad hx;rcases h x j' h1 with⟨x',h3,h4,h5⟩ | ⟨a,h3⟩
 ·have hl:=hw.lt (vq h2);exact .inl ⟨x',by rw[h3];simp only[rU];rw[aV (by rw[hw.M3 hl];exact h2)],h4,hl⟩
 exact .inr ⟨a,by rw[h3];rfl⟩
theorem tj.err{e:Int×Int}{r':Pr}:tj n (.error e) r':=λx j hx=>adn
theorem tj.in_(hw:Wr ts nD n)(i:Nat):tj n (Bm ts i) (Bm nD (i+1)):=by
 intro x j hx;have TP:=hx;obtain⟨rfl,rfl⟩:=Jj TP;unfold Bm at hx;split at hx
 ·rename_i h1;split at hx
  ·rename_i h2;split at hx
   ·rename_i h3;have hl:=hw.lt (vq h3);refine .inl ⟨.mk 3 0 (tk nD (i+1+2)).t 0 [] (tk nD (i+1)).a,?_,?_,hl⟩
    ·unfold Bm;rw[aV (by rw[hw.M3 (by omega:i+1<n)];exact h1),aV (by rw[(hw.s (i+2) aE).1];exact h2),aV (by rw[hw.M3 hl];exact h3)]
    have e:(tk nD (i+1+2)).t=(tk ts (i+2)).t:=(hw.s (i+2) aE).2.1;rw[e];exact .leaf ..
   cases hx
  cases hx
 cases hx
theorem tj.one(hw:Wr ts nD n){E0 One E0' TS:Nat->Pr}{d i:Nat}(hE:d+1≠20->∀i,i<=n->tj n (E0 i) (E0' (i+1)))(hO:d+1≠20->∀i,i<=n->tj n (One i) (TS (i+1)))(hi:i<=n):tj n (oL ts E0 One d i) (oL nD E0' TS (d+1) (i+1)):=by
 by_cases PD:i=n
 ·subst PD;have h5:=hw.e i (aY _);have hs:∀s,sg ts i s=false:=λs=>by
   unfold sg;rw[h5];rfl
  have:oL ts E0 One d i=.error (fA ts i):=by
   unfold oL;rw[hs,hs,hs,aQ aL,aQ aL,aQ agz,aQ agz,aQ (by rw[h5];rintro⟨h,_⟩;exact absurd h aL)]
  rw[this];exact tj.err
 have hl:i<n:=aE
 obtain⟨k1,k2,k3⟩:=hw.s i hl;unfold oL;rw[hw.M3 hl,hw.M3 hl,hw.M3 hl,k1,k2,k3];split
 ·exact tj.map (tj.nest λh=>hO h (i+1) hl) λx x' hx=>.one _ _ _ _ _ _ _ _ hx
 split
 ·exact tj.nest λh=>tj.par hw (hE h (i+1) hl)
 split
 ·intro x j hx;simp only[fp,fx]at hx;obtain⟨rfl,rfl⟩:=hx;exact .inl ⟨_,rfl,.leaf ..,hl⟩
 split
 ·intro x j hx;simp only[fp,fx]at hx;obtain⟨rfl,rfl⟩:=hx;exact .inl ⟨_,rfl,.leaf ..,hl⟩
 split
 ·exact tj.in_ hw i
 exact tj.err
end
theorem Ya{ts:List Tk}{E:Nat->Pr}{k:Int}{x:Ex}{j:Nat}(h:jL ts k j=0):∀g,iT ts E k g x j=.ok (x,j)
 | 0=>rfl
 | g+1=>by rw[iT,aV h]
theorem aak{ts:List Tk}{j:Nat}(h:(tk ts j).k=5)(k:Int):jL ts k j=0:=by
 refine bL λhn=>?_;exact oV _ _ hn h
theorem agy{ts:List Tk}{j:Nat}{t:aH}(h:(tk ts j).t=t)(hn:∀op,op<16->dL op≠t∨op=0∨14<=op)(k:Int):jL ts k j=0:=by
 have:∀(f op:Nat),1<=op->op+f<=14->jy ts k j f op=0:=by
  intro f
  induction f with
  | zero=>intro op _ _;rfl
  | succ f ih=>
   intro op h1 h2;rw[jy,aQ,ih (op+1) aE aE];rintro⟨_,hs⟩;simp only[sg,aP,bI]at hs;rcases hn op aE with e | e | e
   ·exact e (by rw[<-h,hs.2])
   ·omega
   omega
 exact this 13 1 aE aE
theorem Sim.same{x y:Ex}(h:Sim x y):∀d,mF false d x y=true:=by
 have hd:∀{k n:Int} {s:aH} {op:Int} {xs ys:List Ex} {a b:Int},xs.length=ys.length->BB false (.mk k n s op xs a) (.mk k n s op ys b)=false:=λh=>by
  simp[BB,Ex.k,Ex.n,Ex.s,Ex.op,Ex.dh,Ex.a,h]
 induction h with
 | leaf k n s op a b=>
  intro d;cases d with
  | zero=>rfl
  | succ d=>rw[mF,aQ (by rw[hd rfl];decide)];rfl
 | one k n s op a b x y h ih=>
  intro d;cases d with
  | zero=>rfl
  | succ d=>
   rw[mF,aQ (by rw[hd (xs:=[x]) (ys:=[y]) rfl];decide)];simp only[Ex.dh,BA,ih d,da]
 | two k n s op a b x y x' y' h1 h2 CO F6=>
  intro d;cases d with
  | zero=>rfl
  | succ d=>
   rw[mF,aQ (by rw[hd (xs:=[x,y]) (ys:=[x',y']) rfl];decide)];simp only[Ex.dh,BA,CO d,F6 d,da]
def kt(t:Tk):Int×aH:=(t.k,t.t)
theorem IA{c:UInt8}{r:aH}(h1:ot c=false)(h2:(c==47)=false):jT false (c::r)=0:=by
 rw[jT,aQ (by rw[h1];decide),aQ (by rw[h2,cQ];decide)]
theorem ml{c:UInt8}{r:aH}(h1:eZ c=false)(h2:cW c=false)(h3:ou.contains c=true)(h4:qT (c::r)=false):lK (c::r)=.ok (4,[c],0,1):=by
 have e:lK (c::r)=if eZ c then lZ (c::r)else if cW c then rT (c::r)else nY (c::r):=rfl
 have hn:iR (c::r)=1:=by
  unfold iR;rw[h4];dsimp only;rw[aQ aL,aV h3]
 rw[e,h1,h2,aQ aL,aQ aL,nY,hn];rfl
def soft(r:aH):Prop:=∀d,r.head? =some d->d≠61/\d≠62
theorem kz{c:UInt8}{r:aH}(hc:[38,124].contains c=false)(h:soft r):qT (c::r)=false:=by
 cases r with
 | nil=>rfl
 | cons d r=>
  obtain⟨h1,h2⟩:=h d rfl;have e1:(d==61)=false:=abv
  have e2:(d==62)=false:=ado
  show((d==61&&[60,62,61,33].contains c)||(d==c&&[38,124].contains c)||(c==45&&d==62))=false;rw[e1,e2,hc,cQ,fI,fI];rfl
structure De (ts:List Tk) (n m:Nat) (s:aH):Prop where
 a:∀i,i<n->(tk ts i).k=4/\(tk ts i).t=s
 b:∀i,n<=i->i<n+m->(tk ts i).k=4/\(tk ts i).t=[40]
 c:(tk ts (n+m)).k=1/\(tk ts (n+m)).t=[120]
 e:∀i,n+m<i->i<=n+m+m->(tk ts i).k=4/\(tk ts i).t=[41]
 z:(tk ts (n+m+m+1)).k=5
 l:ts.length=n+m+m+2
section
variable {ts:List Tk} {n m:Nat} {s:aH}
theorem RN{ts:List Tk}{i:Nat}{t s:aH}(h:(tk ts i).t=t)(ii:t≠s):sg ts i s=false:=by
 unfold sg;rw[h,bA ii,fI]
theorem JE{ts:List Tk}{i:Nat}{t:aH}(h:(tk ts i).k=4/\(tk ts i).t=t):sg ts i t=true:=by
 unfold sg;rw[h.1,h.2,bE rfl];rfl
end
abbrev K3:=Int×aH×Int
def k3(t:Tk):K3:=(t.k,t.t,t.n)
theorem RO{p:UInt8->Prop}(h:∀n:Fin 256,p (UInt8.ofNat n.val))(c:UInt8):p c:=by
 have:=h ⟨c.toNat,c.toNat_lt⟩;simpa using this
theorem yz{p:UInt8->Bool}{r:aH}(hr:∀c,r.head? =some c->p c=false):∀(l:aH),(∀c,c∈l->p c=true)->(l++r).takeWhile p=l
 | [],_=>by
  cases r with
  | nil=>rfl
  | cons c r=>rw[bP,dk,aQ (by rw[hr c rfl];decide)]
 | c::l,hl=>by rw[bX,dk,aV (hl c aM),yz hr l λx hx=>hl x acI]
theorem HD{a b:aH}(h:a≠[]):(a++b).head? =a.head? :=by
 cases a with
 | nil=>exact absurd rfl h
 | cons c a=>rfl
theorem oP{u:Nat}(h:u<10):Lib.decDigits u=[UInt8.ofNat (48+u)]:=by rw[Lib.decDigits,dif_pos h]
theorem rj{u:Nat}(h:¬u<10):Lib.decDigits u=Lib.decDigits (u/10)++[UInt8.ofNat (48+u % 10)]:=by rw[Lib.decDigits,dif_neg h]
theorem xC{u:Nat}(h:u<10):(UInt8.ofNat (48+u)).toNat=48+u:=by
 rw[UInt8.toNat_ofNat'];omega
theorem Yb{u:Nat}(h:u<10):cW (UInt8.ofNat (48+u))=true:=by
 unfold cW;rw[xC h];simp;omega
theorem Ao(u:Nat):∀c,c∈Lib.decDigits u->cW c=true:=by
 induction u using Nat.strongRecOn with
 | _ u ih=>
  intro c hc;by_cases h:u<10
  ·rw[oP h,aO]at hc;subst hc;exact Yb h
  rw[rj h,cu,aO]at hc;rcases hc with hc | rfl
  ·exact ih (u/10) aE c hc
  exact Yb (Nat.mod_lt _ aL)
theorem yA(u:Nat):Lib.decDigits u≠[]:=by
 by_cases h:u<10
 ·rw[oP h];simp
 rw[rj h];simp
theorem JF(a:Nat)(l:aH)(c:UInt8):kI a (l++[c])=kI a l*10+(c.toNat-48):=by
 simp[kI,pT]
theorem V1(u:Nat):kI 0 (Lib.decDigits u)=u:=by
 induction u using Nat.strongRecOn with
 | _ u ih=>
  by_cases h:u<10
  ·rw[oP h];have:=xC h;simp only[kI,List.foldl_cons,List.foldl_nil];omega
  rw[rj h,JF,ih (u/10) aE,xC (Nat.mod_lt _ aL)];omega
theorem RP(u:Nat)(h0:0<u):(Lib.decDigits u).head? ≠some 48:=by
 induction u using Nat.strongRecOn with
 | _ u ih=>
  by_cases h:u<10
  ·rw[oP h,gZ];intro e;injection e with e;have:=bO UInt8.toNat e;rw[xC h]at this;have h48:(48:UInt8).toNat=48:=rfl;omega
  rw[rj h,HD (yA _)];exact ih (u/10) aE aE
theorem RQ(u:Nat)(h:1<(Lib.decDigits u).length):0<u:=by
 refine bL λhn=>?_;have:u=0:=aE
 subst this;rw[oP aL]at h;simp at h
theorem JG{c:UInt8}(h:cW c=true):eF c=true:=by unfold eF;rw[h,nE]
theorem RR{c:UInt8}(h:cW c=true):eZ c=false:=by
 unfold cW at h;unfold eZ;simp only[aP,bI]at h;simp;omega
theorem pv{n:Int}(h:0<=n):Lib.itoa n=Lib.decDigits n.toNat:=by
 unfold Lib.itoa;rw[aQ aE]
theorem RS{n:Int}(h0:0<=n)(h1:n<=9223372036854775807){r:aH}(hr:∀c,r.head? =some c->eF c=false):lK (Lib.itoa n++r)=.ok (3,[],n,(Lib.itoa n).length):=by
 rw[pv h0];generalize hu:n.toNat=u;have hn:n=(u:Int):=aE
 have fX:=Ao u;have ii:=yA u;have hw:=yz (p:=eF) hr (Lib.decDigits u) λc hc=>JG (fX c hc);have hd:=yz (p:=cW) (λc h=>by
  have:=hr c h;unfold eF at this;exact(fg.1 this).2) (Lib.decDigits u) fX
 have hp:ft (Lib.decDigits u++r)=(u,(Lib.decDigits u).length,0):=by
  unfold ft;rw[hd,V1];rw[aQ (by simp[ii]),aQ,aV aE];rintro(h | ⟨h2,h3⟩)
  ·exact ii h
  rw[HD ii]at h3;exact RP u (RQ u h2) h3
 have aoP:rT (Lib.decDigits u++r)=.ok (3,[],n,(Lib.decDigits u).length):=by
  unfold rT;rw[hp,hw,aQ aM,aQ aM,hn]
 generalize hm:Lib.decDigits u=m at*
 cases m with
 | nil=>exact absurd rfl ii
 | cons c m=>
  have hc:=fX c aM;have e:lK (c::m++r)=if eZ c then lZ (c::m++r)else if cW c then rT (c::m++r)else nY (c::m++r):=rfl
  rw[e,RR hc,hc,aQ aL,aV rfl,aoP]
theorem ui{l:aH}{i:Nat}{p r:aH}{k:Int}{t:aH}{n:Int}{ts:List Tk}(h:l.drop i=p++r)(hp:p≠[])(hb:jT false (p++r)=0)(ht:lK (p++r)=.ok (k,t,n,p.length))(hr:kc l (i+p.length)=.ok ts):kc l i=.ok (⟨k,t,n,(i:Nat)⟩::ts):=by
 have WM:=th.2 hp;have hi:i<l.length:=by
  have:=bO List.length h;rw[cr,aN]at this;omega
 rw[j5 aE,h,hb,fk,aQ aE,h,ht];dsimp only;rw[hr]
theorem jW{l:aH}{i:Nat}{p r:aH}(h:l.drop i=p++r):l.drop (i+p.length)=r:=by
 rw[<-jG,h,List.drop_left]
theorem zh{l:aH}{i:Nat}{p r:aH}(hi:i<=l.length)(h:l.drop i=p++r):i+p.length<=l.length:=by
 have:=bO List.length h;rw[cr,aN]at this;omega
def lr:Nat->Ex->Bool->aH
 | 0,_,_=>[]
 | d+1,x,wr=>clo wr (opn wr []++(
  if x.k=1 then Lib.itoa x.n
  else if x.k=2 then x.s
  else if x.k=3 then[105,110,40]++x.s++[41]
  else if x.k=4 then(match x.dh with
   | [y]=>dL x.op.toNat++lr d y (decide (bW y<6))
   | _=>[])
  else(match x.dh with
   | [y,z]=>lr d y (decide (bW y<bW x))++([32]++dL x.op.toNat++[32])++lr d z (decide (bW z<=bW x))
   | _=>[])))
theorem ny(wr:Bool)(l:aH):opn wr l=l++opn wr []:=by cases wr<;>simp[opn]
theorem RT(wr:Bool)(l m:aH):clo wr (l++m)=l++clo wr m:=by cases wr<;>simp[clo]
theorem JH(wr:Bool)(l:aH):l.length<=(clo wr l).length:=by cases wr<;>simp[clo]
theorem aal(wr:Bool)(l:aH):l.length<=(opn wr l).length:=by cases wr<;>simp[opn]
theorem HE:∀(d:Nat) (x:Ex) (wr:Bool) (l:aH),l.length<=(oW d x wr l).length
 | 0,_,_,_=>aY _
 | d+1,x,wr,l=>by
  rw[oW];split
  ·exact aY _
  refine bB ?_ (JH _ _);have h1:=aal wr l;split
  ·rw[aN];omega
  split
  ·rw[aN];omega
  split
  ·rw[aN];omega
  split
  ·split
   ·rename_i y _;have:=HE d y (decide (bW y<6)) (opn wr l++dL x.op.toNat);rw[aN]at this;omega
   exact aY _
  split
  ·rename_i y z _;have a1:=HE d y (decide (bW y<bW x)) (opn wr l);have a2:=HE d z (decide (bW z<=bW x)) (oW d y (decide (bW y<bW x)) (opn wr l)++([32]++dL x.op.toNat++[32]));rw[aN]at a2;omega
  exact aY _
theorem Dy:∀(d:Nat) {x:Ex} (wr:Bool) (l:aH),cM d x=true->(oW d x wr l).length<=16384->oW d x wr l=l++lr d x wr
 | 0,x,wr,l,h,_=>aaQ
 | d+1,x,wr,l,h,hl=>by
  rw[cM,aP]at h;obtain⟨hh,ha⟩:=h;have h0:=HE (d+1) x wr l;have hc:¬16384<l.length:=aE
  rw[oW,aQ hc]at hl⊢;rw[lr,<-RT];have wz:=bB (JH wr _) hl;congr 1;by_cases k1:x.k=1
  ·rw[aV k1,aV k1,ny wr l,bf]
  by_cases k2:x.k=2
  ·rw[aQ k1,aQ k1,aV k2,aV k2,ny wr l,bf]
  by_cases k3:x.k=3
  ·rw[aQ k1,aQ k1,aQ k2,aQ k2,aV k3,aV k3,ny wr l,bf]
  by_cases k4:x.k=4
  ·obtain⟨y,hy,_⟩:=tV hh k4;rw[aQ k1,aQ k2,aQ k3,aV k4,hy]at wz;rw[aQ k1,aQ k1,aQ k2,aQ k2,aQ k3,aQ k3,aV k4,aV k4,hy];rw[hy]at ha;dsimp only at wz⊢;simp only[jM,da]at ha;rw[Dy d _ _ ha wz,ny wr l];simp only[bf]
  obtain⟨_,y,z,hy,_⟩:=po hh k1 k2 k3 k4;rw[aQ k1,aQ k2,aQ k3,aQ k4,hy]at wz;rw[aQ k1,aQ k1,aQ k2,aQ k2,aQ k3,aQ k3,aQ k4,aQ k4,hy];rw[hy]at ha;dsimp only at wz⊢;simp only[jM,da,aP]at ha;have h1:=HE d z (decide (bW z<=bW x)) (oW d y (decide (bW y<bW x)) (opn wr l)++([32]++dL x.op.toNat++[32]));rw[aN]at h1;rw[Dy d _ _ ha.2 wz,Dy d _ _ ha.1 aE,ny wr l];simp only[bf]
def opk(wr:Bool):List K3:=if wr then[(4,[40],0)]else[]
def clk(wr:Bool):List K3:=if wr then[(4,[41],0)]else[]
def oe:Nat->Ex->Bool->List K3
 | 0,_,_=>[]
 | d+1,x,wr=>opk wr++(
  if x.k=1 then[(3,[],x.n)]
  else if x.k=2 then[(1,x.s,0)]
  else if x.k=3 then[(2,[105,110],0),(4,[40],0),(1,x.s,0),(4,[41],0)]
  else if x.k=4 then(match x.dh with
   | [y]=>(4,dL x.op.toNat,0)::oe d y (decide (bW y<6))
   | _=>[])
  else(match x.dh with
   | [y,z]=>oe d y (decide (bW y<bW x))++(4,dL x.op.toNat,0)::oe d z (decide (bW z<=bW x))
   | _=>[]))++clk wr
def lM(c:UInt8):Bool:=eZ c||cW c||c==40||c==45||c==33
theorem Ob:∀n:Fin 256,lM (UInt8.ofNat n.val)=true->ot (UInt8.ofNat n.val)=false/\(UInt8.ofNat n.val==47)=false/\UInt8.ofNat n.val≠61/\UInt8.ofNat n.val≠62:=adx
theorem lu{c:UInt8}(h:lM c=true):ot c=false/\(c==47)=false/\c≠61/\c≠62:=RO (p:=λc=>lM c=true->ot c=false/\(c==47)=false/\c≠61/\c≠62) Ob c h
def RU(c:UInt8):Bool:=[32,41,59,93,44,10].contains c
def sP(r:aH):Prop:=∀c,r.head? =some c->RU c=true
theorem V2:∀n:Fin 256,RU (UInt8.ofNat n.val)=true->eF (UInt8.ofNat n.val)=false/\cW (UInt8.ofNat n.val)=false/\UInt8.ofNat n.val≠61/\UInt8.ofNat n.val≠62:=adx
theorem JI{c:UInt8}(h:RU c=true):eF c=false/\cW c=false/\c≠61/\c≠62:=RO (p:=λc=>RU c=true->eF c=false/\cW c=false/\c≠61/\c≠62) V2 c h
theorem sP.word{r:aH}(h:sP r):∀(l:aH),(∀c,c∈l->eF c=true)->(l++r).takeWhile eF=l
 | [],_=>by
  cases r with
  | nil=>rfl
  | cons c r=>
   rw[bP,dk,aQ (by rw[(JI (h c rfl)).1];decide)]
 | c::l,hl=>by
  rw[bX,dk,aV (hl c aM),h.word l λx hx=>hl x acI]
theorem Mx{n:Int}(h0:0<=n)(h1:n<=9223372036854775807){r:aH}(hr:sP r):lK (Lib.itoa n++r)=.ok (3,[],n,(Lib.itoa n).length):=RS h0 h1 λc h=>(JI (hr c h)).1
theorem HF{s r:aH}(hn:dj s=true)(hr:sP r):lK (s++r)=.ok (1,s,0,s.length):=by
 unfold dj at hn;simp only[aP]at hn;obtain⟨⟨⟨h1,h2⟩,h3⟩,h4⟩:=hn;obtain⟨h1,h5⟩:=aR h1;have h3:=aR h3;have h4:jb.contains s=false:=adp
 have hw:=hr.word s λc hc=>by rw[<-h3]at hc;exact yj c hc
 have hwr:lZ (s++r)=.ok (1,s,0,s.length):=by
  unfold lZ;rw[hw,aQ aE,h4];rfl
 cases s with
 | nil=>exact absurd rfl h1
 | cons c s=>
  have e:lK (c::s++r)=if eZ c then lZ (c::s++r)else if cW c then rT (c::s++r)else nY (c::s++r):=rfl
  have h2:eZ c=true:=h2;rw[e,h2,aV rfl,hwr]
theorem aam{op:Nat}(h1:1<=op)(h2:op<=13)(r:aH):lK (dL op++32::r)=.ok (4,dL op,0,(dL op).length)/\jT false (dL op++32::r)=0:=by
 match op,h1,h2 with
 | 1,_,_=>exact⟨rfl,rfl⟩
 | 2,_,_=>exact⟨rfl,rfl⟩
 | 3,_,_=>exact⟨rfl,rfl⟩
 | 4,_,_=>exact⟨rfl,rfl⟩
 | 5,_,_=>exact⟨rfl,rfl⟩
 | 6,_,_=>exact⟨rfl,rfl⟩
 | 7,_,_=>exact⟨rfl,rfl⟩
 | 8,_,_=>exact⟨rfl,rfl⟩
 | 9,_,_=>exact⟨rfl,rfl⟩
 | 10,_,_=>exact⟨rfl,rfl⟩
 | 11,_,_=>exact⟨rfl,rfl⟩
 | 12,_,_=>exact⟨rfl,rfl⟩
 | 13,_,_=>exact⟨rfl,rfl⟩
theorem u7:∀(d:Nat) {x:Ex} (wr:Bool),cM d x=true->kx d x->∃c t,lr d x wr=c::t/\lM c=true
 | 0,x,wr,h,_=>aaQ
 | d+1,x,true,h,_=>⟨40,_,rfl,aL⟩
 | d+1,x,false,h,⟨hn,hs⟩=>by
  rw[cM,aP]at h;obtain⟨hh,ha⟩:=h;have e:lr (d+1) x false=(
  if x.k=1 then Lib.itoa x.n
  else if x.k=2 then x.s
  else if x.k=3 then[105,110,40]++x.s++[41]
  else if x.k=4 then(match x.dh with
   | [y]=>dL x.op.toNat++lr d y (decide (bW y<6))
   | _=>[])
  else(match x.dh with
   | [y,z]=>lr d y (decide (bW y<bW x))++([32]++dL x.op.toNat++[32])++lr d z (decide (bW z<=bW x))
   | _=>[])):=rfl
  rw[e];by_cases k1:x.k=1
  ·rw[aV k1];have h0:0<=x.n:=by
    rw[gJ,aV k1]at hh;have:=(vS hh).1;split at this<;>omega
   rw[pv h0];cases hm:Lib.decDigits x.n.toNat with
   | nil=>exact absurd hm (yA _)
   | cons c m=>
    have:=Ao x.n.toNat c (by rw[hm];simp);exact⟨c,m,rfl,by unfold lM;rw[this];simp⟩
  have name:dj x.s=true->∃c t,x.s=c::t/\lM c=true:=λhn=>by
   unfold dj at hn;simp only[aP]at hn;obtain⟨⟨⟨h1,h2⟩,h3⟩,h4⟩:=hn;cases hs:x.s with
   | nil=>rw[hs]at h2;cases h2
   | cons c t=>
    rw[hs]at h2;have h2:eZ c=true:=h2;exact⟨c,t,rfl,by unfold lM;rw[h2];simp⟩
  by_cases k2:x.k=2
  ·rw[aQ k1,aV k2];exact name (jN hh (.inl k2))
  by_cases k3:x.k=3
  ·rw[aQ k1,aQ k2,aV k3];exact⟨105,_,rfl,aL⟩
  by_cases k4:x.k=4
  ·obtain⟨y,hy,ho⟩:=tV hh k4;rw[aQ k1,aQ k2,aQ k3,aV k4,hy];rcases ho with ho | ho
   ·rw[ho];exact⟨45,_,rfl,aL⟩
   rw[ho];exact⟨33,_,rfl,aL⟩
  obtain⟨_,y,z,hy,_⟩:=po hh k1 k2 k3 k4;rw[aQ k1,aQ k2,aQ k3,aQ k4,hy];rw[hy]at ha hs;simp only[jM,da,aP]at ha;obtain⟨c,t,h1,h2⟩:=u7 d (decide (bW y<bW x)) ha.1 (hs y aM);dsimp only;rw[h1];exact⟨c,_,rfl,h2⟩
theorem pw{r:aH}(h:∃c t,r=c::t/\lM c=true):soft r:=by
 obtain⟨c,t,rfl,hs⟩:=h;intro d hd;simp only[gZ,bq]at hd;subst hd;exact⟨(lu hs).2.2.1,(lu hs).2.2.2⟩
theorem sP.soft{r:aH}(h:sP r):soft r:=λd hd=>(JI (h d hd)).2.2
theorem u9{a b:aH}(h:∃c t,a=c::t/\lM c=true):∃c t,a++b=c::t/\lM c=true:=by
 obtain⟨c,t,rfl,hs⟩:=h;exact⟨c,t++b,rfl,hs⟩
theorem Yc{l:aH}{i:Nat}{r:aH}(h:l.drop i=32::r)(hr:jT false r=0):kc l i=kc l (i+1):=by
 have hi:i<=l.length:=by
  refine bL λhn=>?_;rw[dv aE]at h;cases h
 rw[mX hi,h,jT,aV aL,hr]
theorem vd{l:aH}:∀(d:Nat) {x:Ex} (wr:Bool) (i:Nat) {r:aH} {ts:List Tk},cM d x=true->kx d x->i<=l.length->l.drop i=lr d x wr++r->sP r->kc l (i+(lr d x wr).length)=.ok ts->∃us,kc l i=.ok (us++ts)/\us.map k3=oe d x wr
 | 0,x,wr,i,r,ts,h,_,_,_,_,_=>aaQ
 | d+1,x,wr,i,r,ts,h,⟨hn,hs⟩,hi,hl,hr,ht=>by
  have sL:=h;rw[cM,aP]at h;obtain⟨hh,ha⟩:=h;have core:∀(i:Nat) {r:aH} {ts:List Tk},i<=l.length->l.drop i=lr (d+1) x false++r->sP r->kc l (i+(lr (d+1) x false).length)=.ok ts->∃us,kc l i=.ok (us++ts)/\us.map k3=oe (d+1) x false:=by
   intro i r ts hi hl hr ht;have e:lr (d+1) x false=(
   if x.k=1 then Lib.itoa x.n
   else if x.k=2 then x.s
   else if x.k=3 then[105,110,40]++x.s++[41]
   else if x.k=4 then(match x.dh with
    | [y]=>dL x.op.toNat++lr d y (decide (bW y<6))
    | _=>[])
   else(match x.dh with
    | [y,z]=>lr d y (decide (bW y<bW x))++([32]++dL x.op.toNat++[32])++lr d z (decide (bW z<=bW x))
    | _=>[])):=rfl
   have e2:oe (d+1) x false=(
   if x.k=1 then[(3,[],x.n)]
   else if x.k=2 then[(1,x.s,0)]
   else if x.k=3 then[(2,[105,110],0),(4,[40],0),(1,x.s,0),(4,[41],0)]
   else if x.k=4 then(match x.dh with
    | [y]=>(4,dL x.op.toNat,0)::oe d y (decide (bW y<6))
    | _=>[])
   else(match x.dh with
    | [y,z]=>oe d y (decide (bW y<bW x))++(4,dL x.op.toNat,0)::oe d z (decide (bW z<=bW x))
    | _=>[]))++[]:=rfl
   rw[bD]at e2;obtain⟨c0,t0,PB,aiR⟩:=u7 (d+1) false sL ⟨hn,hs⟩;have hsk:jT false (lr (d+1) x false++r)=0:=by
    rw[PB,bX];exact IA (lu aiR).1 (lu aiR).2.1
   have ii:lr (d+1) x false≠[]:=by rw[PB];simp
   by_cases k1:x.k=1
   ·rw[aV k1]at e e2;have h0:0<=x.n:=by
     rw[gJ,aV k1]at hh;have:=(vS hh).1;split at this<;>omega
    rw[e2];exact⟨[⟨3,[],x.n,(i:Nat)⟩],ui hl ii hsk (by rw[e];exact Mx h0 hn.2 hr) ht,rfl⟩
   by_cases k2:x.k=2
   ·rw[aQ k1,aV k2]at e e2;rw[e2];exact⟨[⟨1,x.s,0,(i:Nat)⟩],ui hl ii hsk (by rw[e];exact HF (jN hh (.inl k2)) hr) ht,rfl⟩
   by_cases PE:x.k=3
   ·rw[aQ k1,aQ k2,aV PE]at e e2;have hnm:=jN hh (.inr PE);obtain⟨cs,tss,iC,acu⟩:∃c t,x.s=c::t/\lM c=true:=by
     have acw:=hnm;unfold dj at acw;simp only[aP]at acw;obtain⟨⟨⟨_,h2⟩,_⟩,_⟩:=acw;cases hs:x.s with
     | nil=>rw[hs]at h2;cases h2
     | cons c t=>
      rw[hs]at h2;have h2:eZ c=true:=h2;exact⟨c,t,rfl,by unfold lM;rw[h2];simp⟩
    have a0:l.drop i=[105,110]++([40]++(x.s++([41]++r))):=by rw[hl,e];simp
    have a1:=jW a0;have a2:=jW a1;have a3:=jW a2;have len:(lr (d+1) x false).length=2+1+x.s.length+1:=by rw[e];simp;omega
    have ht:kc l (i+([105,110]:aH).length+([40]:aH).length+x.s.length+([41]:aH).length)=.ok ts:=by
     rw[<-ht,len];congr 1;simp only[aW,bd];omega
    have b3:=ui (n:=0) a3 aM (IA aL aL) (ml aL aL aL (kz aL hr.soft)) ht;have b2:=ui (n:=0) (k:=1) (t:=x.s) a2 (by rw[iC];simp) (by rw[iC,bX];exact IA (lu acu).1 (lu acu).2.1) (HF hnm λc hc=>acn) b3;have b1:=ui (n:=0) a1 aM (IA aL aL) (ml aL aL aL (kz aL (pw (u9 (a:=x.s) (b:=[41]++r) ⟨cs,tss,iC,acu⟩)))) b2;have b0:=ui (n:=0) (k:=2) (t:=[105,110]) a0 aM (IA aL aL) rfl b1;rw[e2];exact⟨[_,_,_,_],b0,rfl⟩
   by_cases k4:x.k=4
   ·obtain⟨y,hy,ho⟩:=tV hh k4;rw[aQ k1,aQ k2,aQ PE,aV k4,hy]at e e2;dsimp only at e e2;rw[hy]at ha hs;simp only[jM,da]at ha;have CW:=hs y aM;have kR:=u7 d (decide (bW y<6)) ha CW;have a0:l.drop i=dL x.op.toNat++(lr d y (decide (bW y<6))++r):=by rw[hl,e,bf]
    have a1:=jW a0;have ht:kc l (i+(dL x.op.toNat).length+(lr d y (decide (bW y<6))).length)=.ok ts:=by
     rw[<-ht,e,aN,eo]
    obtain⟨us,u1,u2⟩:=vd d (decide (bW y<6)) _ ha CW (zh hi a0) a1 hr ht;have pF:lK (dL x.op.toNat++(lr d y (decide (bW y<6))++r))=.ok (4,dL x.op.toNat,0,(dL x.op.toNat).length)/\dL x.op.toNat≠[]/\jT false (dL x.op.toNat++(lr d y (decide (bW y<6))++r))=0:=by
     rcases ho with ho | ho
     ·rw[ho];exact⟨ml (c:=45) aL aL aL (kz aL (pw (u9 (a:=lr d y (decide (bW y<6))) (b:=r) kR))),aL,IA aL aL⟩
     rw[ho];exact⟨ml (c:=33) aL aL aL (kz aL (pw (u9 (a:=lr d y (decide (bW y<6))) (b:=r) kR))),aL,IA aL aL⟩
    rw[e2];exact⟨⟨4,dL x.op.toNat,0,(i:Nat)⟩::us,ui a0 pF.2.1 pF.2.2 pF.1 u1,by rw[bK,u2];rfl⟩
   obtain⟨_,y,z,hy,Tc,Kg⟩:=po hh k1 k2 PE k4;rw[aQ k1,aQ k2,aQ PE,aQ k4,hy]at e e2;dsimp only at e e2;rw[hy]at ha hs;simp only[jM,da,aP]at ha;have CW:=hs y aM;have Py:=hs z aM;obtain⟨cz,tz,hz1,FN⟩:=u7 d (decide (bW z<=bW x)) ha.2 Py;have FI:jT false (lr d z (decide (bW z<=bW x))++r)=0:=by
    rw[hz1,bX];exact IA (lu FN).1 (lu FN).2.1
   have pF:=aam (op:=x.op.toNat) aE aE (lr d z (decide (bW z<=bW x))++r);have Tt:dL x.op.toNat≠[]:=by
    have:∀q,q<14->1<=q->dL q≠[]:=aL
    exact this _ aE aE
   have a0:l.drop i=lr d y (decide (bW y<bW x))++([32]++(dL x.op.toNat++([32]++(lr d z (decide (bW z<=bW x))++r)))):=by rw[hl,e];simp only[bf]
   have a1:=jW a0;have a2:=jW a1;have a3:=jW a2;have a4:=jW a3;have i1:=zh hi a0;have i2:=zh i1 a1;have i3:=zh i2 a2;have i4:=zh i3 a3;have ht:kc l (i+(lr d y (decide (bW y<bW x))).length+([32]:aH).length+(dL x.op.toNat).length+([32]:aH).length+(lr d z (decide (bW z<=bW x))).length)=.ok ts:=by
    rw[<-ht,e];congr 1;simp only[aN,aW,bd];omega
   obtain⟨vs,v1,v2⟩:=vd d (decide (bW z<=bW x)) _ ha.2 Py i4 a4 hr ht;have b3:kc l (i+(lr d y (decide (bW y<bW x))).length+([32]:aH).length+(dL x.op.toNat).length)=.ok (vs++ts):=by
    exact(Yc a3 FI).trans v1
   have b2:=ui a2 Tt pF.2 pF.1 b3;have b1:=(Yc a1 pF.2).trans b2;obtain⟨us,u1,u2⟩:=vd d (decide (bW y<bW x)) i ha.1 CW hi a0 (λc hc=>acn) b1;rw[e2];exact⟨us++⟨4,dL x.op.toNat,0,_⟩::vs,by rw[u1,bf];rfl,by rw[cN,bK,u2,v2];rfl⟩
  cases wr with
  | false=>exact core i hi hl hr ht
  | true=>
   have e:lr (d+1) x true=[40]++(lr (d+1) x false++[41]):=by
    unfold lr;simp[clo,opn]
   have e2:oe (d+1) x true=(4,[40],0)::(oe (d+1) x false++[(4,[41],0)]):=by
    unfold oe;simp[opk,clk]
   have kR:=u7 (d+1) false sL ⟨hn,hs⟩;have a0:l.drop i=[40]++(lr (d+1) x false++([41]++r)):=by rw[hl,e];simp only[bf]
   have a1:=jW a0;have a2:=jW a1;have ht:kc l (i+([40]:aH).length+(lr (d+1) x false).length+([41]:aH).length)=.ok ts:=by
    rw[<-ht,e];congr 1;simp only[aN,aW,bd];omega
   have b2:=ui (n:=0) a2 aM (IA aL aL) (ml aL aL aL (kz aL hr.soft)) ht;obtain⟨us,u1,u2⟩:=core _ (zh hi a0) a1 (λc hc=>acn) b2;have b0:=ui (n:=0) a0 aM (IA aL aL) (ml aL aL aL (kz aL (pw (u9 (a:=lr (d+1) x false) (b:=[41]++r) kR)))) u1;rw[e2];refine⟨⟨4,[40],0,(i:Nat)⟩::(us++[⟨4,[41],0,((i+([40]:aH).length+(lr (d+1) x false).length:Nat):Int)⟩]),by rw[b0];simp only[bX,bf,bP,eM],?_⟩;rw[bK,cN,u2];rfl
def At(ts:List Tk)(i:Nat)(L:List K3):Prop:=∀j q,L[j]? =some q->k3 (tk ts (i+j))=q
section
variable {ts:List Tk} {i:Nat} {A B:List K3}
theorem At.left(h:At ts i (A++B)):At ts i A:=λj q hj=>h j q (by rw[bQ (bc.1 hj).1];exact hj)
theorem At.right(h:At ts i (A++B)):At ts (i+A.length) B:=λj q hj=>by
 have:=h (A.length+j) q (by rw[cw aE,dM];exact hj);rwa[<-eo]at this
theorem At.head{q:K3}(h:At ts i (q::A)):(tk ts i).k=q.1/\(tk ts i).t=q.2.1/\(tk ts i).n=q.2.2:=by
 have:=h 0 q rfl;rw[fk]at this;rw[<-this];exact⟨rfl,rfl,rfl⟩
theorem At.tail{q:K3}(h:At ts i (q::A)):At ts (i+1) A:=λj p hj=>by
 have:=h (j+1) p hj;rwa[eo,kf 1 j]
theorem RV{p q:Nat}(hp:1<=p)(Td:p<=13)(hq:1<=q)(hq2:q<=13)(h:dL p=dL q):p=q:=by
 have:∀p,p<14->∀q,q<14->1<=p->1<=q->dL p=dL q->p=q:=aL
 exact this p aE q aE hp hq h
theorem agB{op:Nat}(h1:1<=op)(h2:op<=13)(hk:(tk ts i).k=4)(ht:(tk ts i).t=dL op)(k:Int):jL ts k i=if fl (op:Int)=k then(op:Int)else 0:=by
 have:∀(f q:Nat),1<=q->q+f<=14->jy ts k i f q=if q<=op/\op<q+f/\fl (op:Int)=k then(op:Int)else 0:=by
  intro f
  induction f with
  | zero=>intro q _ _;rw[aQ aE];rfl
  | succ f ih=>
   intro q hq hf;rw[jy,ih (q+1) aE aE];by_cases he:q=op
   ·subst he;have hs:sg ts i (dL q)=true:=JE ⟨hk,ht⟩;by_cases hr:fl (q:Int)=k
    ·rw[aV ⟨hr,hs⟩,aV ⟨aY _,aE,hr⟩]
    rw[aQ (λh=>hr h.1),aQ aE,aQ (λh=>hr h.2.2)]
   have hs:¬sg ts i (dL q)=true:=λhs=>he (by
    simp only[sg,aP,bI]at hs;exact RV hq aE h1 h2 (by rw[<-ht,hs.2]))
   rw[aQ (λh=>hs h.2)];by_cases hc:q+1<=op/\op<q+1+f/\fl (op:Int)=k
   ·rw[aV hc,aV ⟨aE,aE,hc.2.2⟩]
   rw[aQ hc,aQ (λh=>hc ⟨aE,aE,h.2.2⟩)]
 rw[jL,this 13 1 aE aE];by_cases hr:fl (op:Int)=k
 ·rw[aV hr,aV ⟨h1,aE,hr⟩]
 rw[aQ hr,aQ (λh=>hr h.2.2)]
theorem Ap{op:Int}(h1:1<=op)(h2:op<=13):0<=fl op/\fl op<=5:=by
 unfold fl;split
 ·omega
 split
 ·omega
 split
 ·omega
 split
 ·omega
 split
 ·omega
 split
 ·omega
 omega
theorem My{f d k0:Nat}{x:Ex}{j:Nat}(h:dc ts f k0 d i=.ok (x,j))(h6:k0<=6):∀(m k:Nat),k+m=k0->(∀q:Int,(k:Int)<=q->q<(k0:Int)->jL ts q j=0)->dc ts (f+m) k d i=.ok (x,j)
 | 0,k,hk,_=>by
  have:k=k0:=aE
  subst this;exact h
 | m+1,k,hk,h0=>by
  rw[<-eo,dc,aQ aE,My h h6 m (k+1) aE λq h1 h2=>h0 q aE h2];simp only[Bl];exact Ya (h0 _ (jt _) aE) _
theorem HG{f d k0:Nat}{e:Int×Int}(h:dc ts f k0 d i=.error e)(h6:k0<=6):∀(m k:Nat),k+m=k0->dc ts (f+m) k d i=.error e
 | 0,k,hk=>by
  have:k=k0:=aE
  subst this;exact h
 | m+1,k,hk=>by
  rw[<-eo,dc,aQ aE,HG h h6 m (k+1) aE];rfl
end
def Yd(x:Ex)(j:Nat)(r:Pr):Prop:=(∃x',r=.ok (x',j)/\Sim x x')∨∃a,r=.error (21,a)
theorem Yd.down{ts:List Tk}{i f d k0 k:Nat}{x:Ex}{j:Nat}(h:Yd x j (dc ts (f-(k0-k)) k0 d i))(hf:k0-k<=f)(h6:k0<=6)(hk:k<=k0)(h0:∀q:Int,(k:Int)<=q->q<(k0:Int)->jL ts q j=0):Yd x j (dc ts f k d i):=by
 have e:f=(f-(k0-k))+(k0-k):=aE
 rcases h with⟨x',h1,h2⟩ | ⟨a,h1⟩
 ·exact .inl ⟨x',by rw[e];exact My h1 h6 _ k aE h0,h2⟩
 exact .inr ⟨a,by rw[e];exact HG h1 h6 _ k aE⟩
abbrev PP(ts:List Tk)(d:Nat):Prop:=∀{x:Ex} (wr:Bool) (k dd i f:Nat),cM d x=true->At ts i (oe d x wr)->k<=6->(wr=false->(k:Int)<=bW x)->dd<=20->fR k dd<=f->i+(oe d x wr).length<ts.length->(∀q:Int,(k:Int)<=q->q<=5->jL ts q (i+(oe d x wr).length)=0)->Yd x (i+(oe d x wr).length) (dc ts f k dd i)
abbrev QQ(ts:List Tk)(d:Nat):Prop:=∀{x:Ex} (k dd i f:Nat),cM d x=true->x.k=5->(k:Int)=bW x->At ts i (oe d x false)->dd<=20->fR k dd<=f+1->i+(oe d x false).length<ts.length->(∀q:Int,(k:Int)<q->q<=5->jL ts q (i+(oe d x false).length)=0)->
 (∃x' g,ts.length-(i+(oe d x false).length)<=g/\dc ts (f+1) k dd i=iT ts (dc ts f (k+1) dd) k g x' (i+(oe d x false).length)/\Sim x x')∨∃a,dc ts (f+1) k dd i=.error (21,a)
theorem BZ(x:Ex):x=.mk x.k x.n x.s x.op x.dh x.a:=by cases x;rfl
section
variable {ts:List Tk} {d:Nat}
theorem Mz(hP:PP ts d)(hQ:QQ ts d):QQ ts (d+1):=by
 intro x k dd i f sL pQ F7 cY S2 hf bT h0;rw[cM,aP]at sL;obtain⟨hh,ha⟩:=sL;obtain⟨_,y,z,hy,Tc,Kg⟩:=po hh aE aE aE aE;have hnx:x.n=0/\x.s=[]:=by
  rw[gJ,aQ aE,aQ aE,aQ aE,aV pQ,aP]at hh;have:=vS hh.2;exact⟨this.1,this.2.1⟩
 have hlx:bW x=fl x.op:=by rw[bW,aV pQ]
 obtain⟨r0,r5⟩:=Ap Tc Kg;have e2:oe (d+1) x false=(oe d y (decide (bW y<bW x))++(4,dL x.op.toNat,0)::oe d z (decide (bW z<=bW x))):=by
  rw[oe,aQ aE,aQ aE,aQ aE,aQ aE,hy];simp[opk,clk]
 rw[e2]at cY bT h0⊢;rw[hy]at ha;simp only[jM,da,aP]at ha;have acx:=cY.left;have aiS:=cY.right;have aoQ:=aiS.tail;obtain⟨t1,t2,_⟩:=aiS.head;rw[aN,aW]at bT h0⊢;generalize IC:i+(oe d y (decide (bW y<bW x))).length=j1 at*
 have hjz:i+((oe d y (decide (bW y<bW x))).length+((oe d z (decide (bW z<=bW x))).length+1))=j1+1+(oe d z (decide (bW z<=bW x))).length:=aE
 rw[hjz]at bT h0⊢;generalize Wv:j1+1+(oe d z (decide (bW z<=bW x))).length=j2 at*
 have pF:∀q:Int,jL ts q j1=if fl x.op=q then x.op else 0:=λq=>by
  have:=agB (ts:=ts) (i:=j1) (op:=x.op.toNat) aE aE t1 t2 q;rwa[fy aE]at this
 have hex:x=.mk 5 0 [] x.op [y,z] x.a:=by
  have:=BZ x;rw[pQ,hnx.1,hnx.2,hy]at this;exact this
 have Ns:fR (k+1) dd<=f:=by unfold fR at hf⊢;omega
 have aiT:(∃y' g,ts.length-j1<=g/\dc ts (f+1) k dd i=iT ts (dc ts f (k+1) dd) k g y' j1/\Sim y y')∨∃a,dc ts (f+1) k dd i=.error (21,a):=by
  by_cases hB:bW y=bW x
  ·have hwr:decide (bW y<bW x)=false:=bA aE;have hy5:y.k=5:=by
    refine bL λhn=>?_;have:bW y=6:=by rw[bW,aQ hn]
    omega
   rw[hwr]at acx IC;have:=hQ (x:=y) k dd i f ha.1 hy5 (by rw[hB];exact F7) acx S2 hf aE (λq h1 h2=>by rw[IC,pF,aQ aE]);rw[IC]at this;exact this
  have:=hP (x:=y) (decide (bW y<bW x)) (k+1) dd i f ha.1 acx aE (λhw=>by have:=aU hw;omega) S2 Ns aE (λq h1 h2=>by rw[IC,pF,aQ aE]);rw[IC]at this;rw[dc,aQ aE];rcases this with⟨y',h1,h2⟩ | ⟨a,h1⟩
  ·exact .inl ⟨y',ts.length-j1,aY _,agA,h2⟩
  exact .inr ⟨a,agA⟩
 refine aiT.elim (λ⟨y',g,hg,h1,h2⟩=>?_) .inr;obtain⟨g,rfl⟩:∃m,g=m+1:=⟨g-1,aE⟩
 have oh:jL ts (k:Int) j1=x.op:=by rw[pF,aV aE]
 have hz:=hP (x:=z) (decide (bW z<=bW x)) (k+1) dd (j1+1) f ha.2 aoQ aE (λhw=>by have:=aU hw;omega) S2 Ns aE (λq h1 h2=>by rw[Wv];exact h0 q aE h2);rw[Wv]at hz;rw[h1,iT,oh,aQ aE];rcases hz with⟨z',h3,h4⟩ | ⟨a,h3⟩
 ·refine .inl ⟨.mk 5 0 [] x.op [y',z'] y'.a,g,aE,by rw[h3];rfl,?_⟩;rw[hex];exact .two _ _ _ _ _ _ _ _ _ _ h2 h4
 exact .inr ⟨a,by rw[h3];rfl⟩
theorem V3(hP:PP ts d)(hQ:QQ ts d):PP ts (d+1):=by
 have plain:∀{x:Ex} (k dd i f:Nat),cM (d+1) x=true->At ts i (oe (d+1) x false)->k<=6->(k:Int)<=bW x->dd<=20->fR k dd<=f->i+(oe (d+1) x false).length<ts.length->(∀q:Int,(k:Int)<=q->q<=5->jL ts q (i+(oe (d+1) x false).length)=0)->Yd x (i+(oe (d+1) x false).length) (dc ts f k dd i):=by
  intro x k dd i f sL cY WL F7 S2 hf bT h0;have aoR:=sL;rw[cM,aP]at sL;obtain⟨hh,ha⟩:=sL;by_cases pQ:x.k=5
  ·obtain⟨_,y,z,hy,Tc,Kg⟩:=po hh aE aE aE aE;have hlx:bW x=fl x.op:=by rw[bW,aV pQ]
   obtain⟨r0,r5⟩:=Ap Tc Kg;obtain⟨k0,fO⟩:∃k0:Nat,(k0:Int)=bW x:=⟨(bW x).toNat,aE⟩
   refine Yd.down (k0:=k0) ?_ abZ aE aE λq h1 h2=>h0 q h1 aE;obtain⟨f',hf'⟩:∃m,f-(k0-k)=m+1:=⟨f-(k0-k)-1,abZ⟩
   rw[hf'];rcases Mz hP hQ k0 dd i f' aoR pQ fO cY S2 (by unfold fR at hf⊢;omega) bT (λq h1 h2=>h0 q aE h2)with⟨x',g,hg,h1,h2⟩ | h
   ·exact .inl ⟨x',by rw[h1];exact Ya (h0 _ aE aE) _,h2⟩
   exact .inr h
  have hlx:bW x=6:=by rw[bW,aQ pQ]
  refine Yd.down (k0:=6) ?_ abZ aE aE λq h1 h2=>h0 q h1 aE;obtain⟨f',hf'⟩:∃m,f-(6-k)=m+1:=⟨f-(6-k)-1,abZ⟩
  have Ns:(20-dd)*8<=f':=abZ
  rw[hf',dc,aV rfl];unfold oL;by_cases k1:x.k=1
  ·have e2:oe (d+1) x false=[(3,[],x.n)]:=by rw[oe,aV k1];rfl
   rw[e2]at cY⊢;obtain⟨t1,t2,t3⟩:=cY.head;dsimp only at t1 t2 t3;rw[RN t2 aL,RN t2 aL,RN t2 aL,aQ aL,aQ aL,aV t1,t3];refine .inl ⟨_,rfl,?_⟩;rw[gJ,aV k1]at hh;obtain⟨_,b2,b3,b4⟩:=vS hh;have hs:x.dh=[]:=bF aE;have:=BZ x;rw[k1,b2,b3,hs]at this;rw[this];exact .leaf ..
  by_cases k2:x.k=2
  ·have e2:oe (d+1) x false=[(1,x.s,0)]:=by rw[oe,aQ k1,aV k2];rfl
   rw[e2]at cY⊢;obtain⟨t1,t2,t3⟩:=cY.head;dsimp only at t1 t2 t3;have Cw:∀s,sg ts i s=false:=λs=>by unfold sg;rw[t1];rfl
   rw[Cw,Cw,Cw,aQ aL,aQ aL,aQ (by rw[t1];decide),aV t1,t2];refine .inl ⟨_,rfl,?_⟩;rw[gJ,aQ k1,aV (.inl k2),aP]at hh;obtain⟨b1,b2,b3,b4⟩:=vS hh.2;have hs:x.dh=[]:=bF aE;have:=BZ x;rw[k2,b1,b3,hs]at this;rw[this];exact .leaf ..
  by_cases PE:x.k=3
  ·have e2:oe (d+1) x false=[(2,[105,110],0),(4,[40],0),(1,x.s,0),(4,[41],0)]:=by rw[oe,aQ k1,aQ k2,aV PE];rfl
   rw[e2]at cY⊢;obtain⟨t1,t2,t3⟩:=cY.head;obtain⟨u1,u2,u3⟩:=cY.tail.head;obtain⟨v1,v2,v3⟩:=cY.tail.tail.head;obtain⟨p1,p2,p3⟩:=cY.tail.tail.tail.head;dsimp only at t1 t2 t3 u1 u2 u3 v1 v2 v3 p1 p2 p3;have Cw:∀s,sg ts i s=false:=λs=>by unfold sg;rw[t1];rfl
   rw[Cw,Cw,Cw,aQ aL,aQ aL,aQ (by rw[t1];decide),aQ (by rw[t1];decide),aV ⟨t1,t2⟩];unfold Bm;rw[aV (JE ⟨u1,u2⟩),aV v1,aV (JE ⟨p1,p2⟩)];refine .inl ⟨_,rfl,?_⟩;rw[gJ,aQ k1,aV (.inr PE),aP]at hh;obtain⟨b1,b2,b3,b4⟩:=vS hh.2;have hs:x.dh=[]:=bF aE;have:=BZ x;rw[PE,b1,b3,hs]at this;have v2:(tk ts (i+2)).t=x.s:=v2;rw[v2,this];exact .leaf ..
  have k4:x.k=4:=bL λk4=>pQ (po hh k1 k2 PE k4).1;obtain⟨y,hy,ho⟩:=tV hh k4;have e2:oe (d+1) x false=(4,dL x.op.toNat,0)::oe d y (decide (bW y<6)):=by
   rw[oe,aQ k1,aQ k2,aQ PE,aV k4,hy];simp[opk,clk]
  rw[e2]at cY bT⊢;rw[hy]at ha;simp only[jM,da]at ha;obtain⟨t1,t2,t3⟩:=cY.head;dsimp only at t1 t2 t3;have hor:(sg ts i [45]||sg ts i [33])=true:=by
   rcases ho with ho | ho
   ·have:sg ts i [45]=true:=JE ⟨t1,by rw[t2,ho];rfl⟩;rw[this,KM]
   have:sg ts i [33]=true:=JE ⟨t1,by rw[t2,ho];rfl⟩;rw[this,nE]
  rw[aV hor];by_cases Ax:dd=20
  ·exact .inr ⟨(tk ts i).a,by rw[jh,aV Ax];rfl⟩
  rw[jh,aQ Ax];rw[aW]at bT⊢;have hj:i+((oe d y (decide (bW y<6))).length+1)=i+1+(oe d y (decide (bW y<6))).length:=aE
  rw[hj]at bT⊢;have hy6:bW y<=6:=by
   unfold bW fl;split
   ·split
    ·omega
    split
    ·omega
    split
    ·omega
    split
    ·omega
    split
    ·omega
    split
    ·omega
    omega
   omega
  rcases hP (x:=y) (decide (bW y<6)) 6 (dd+1) (i+1) f' ha cY.tail (aY _) (λhw=>by have:=aU hw;omega) aE (by unfold fR;omega) bT (λq h1 h2=>aE)with⟨y',h1,h2⟩ | ⟨a,h1⟩
  ·refine .inl ⟨_,agA,?_⟩;rw[gJ,aQ k1,aQ aE,aV k4]at hh;obtain⟨b1,b2,b3,b4⟩:=vS hh;have pF:(if(tk ts i).t=[33]then(15:Int)else 14)=x.op:=by
    rcases ho with ho | ho
    ·rw[t2,ho];rfl
    rw[t2,ho];rfl
   have:=BZ x;rw[k4,b1,b2,hy]at this;rw[pF,this];exact .one _ _ _ _ _ _ _ _ h2
  exact .inr ⟨a,agA⟩
 intro x wr k dd i f sL cY WL F7 S2 hf bT h0;cases wr with
 | false=>exact plain k dd i f sL cY WL (F7 rfl) S2 hf bT h0
 | true=>
  have e2:oe (d+1) x true=(4,[40],0)::(oe (d+1) x false++[(4,[41],0)]):=by
   unfold oe;simp[opk,clk]
  refine Yd.down (k0:=6) ?_ abZ aE aE λq h1 h2=>h0 q h1 aE;rw[e2]at cY bT⊢;obtain⟨f',hf'⟩:∃m,f-(6-k)=m+1:=⟨f-(6-k)-1,abZ⟩
  have Ns:(20-dd)*8<=f':=abZ
  obtain⟨t1,t2,t3⟩:=cY.head;have PD:=cY.tail.left;obtain⟨p1,p2,p3⟩:=cY.tail.right.head;dsimp only at t1 t2 t3 p1 p2 p3;rw[hf',dc,aV rfl];unfold oL;rw[RN t2 aL,RN t2 aL,JE ⟨t1,t2⟩,aQ aL,aV rfl];by_cases Ax:dd=20
  ·exact .inr ⟨(tk ts i).a,by rw[jh,aV Ax]⟩
  rw[jh,aQ Ax];rw[aW,aN,br]at bT⊢;have hj:i+((oe (d+1) x false).length+1+1)=i+1+(oe (d+1) x false).length+1:=aE
  rw[hj]at bT⊢;have aoS:0<=bW x:=by
   unfold bW fl;split
   ·split
    ·omega
    split
    ·omega
    split
    ·omega
    split
    ·omega
    split
    ·omega
    split
    ·omega
    omega
   omega
  rcases plain 0 (dd+1) (i+1) f' sL PD aE aE aE (by unfold fR;omega) aE (λq h1 h2=>agy p2 aL q)with⟨x',h1,h2⟩ | ⟨a,h1⟩
  ·refine .inl ⟨x',?_,h2⟩;rw[h1];simp only[rU];rw[aV (JE ⟨p1,p2⟩)]
  exact .inr ⟨a,agA⟩
theorem HH(ts:List Tk):∀d,PP ts d/\QQ ts d
 | 0=>⟨(by intro x wr k dd i f h;cases h),(by intro x k dd i f h;cases h)⟩
 | d+1=>⟨V3 (HH ts d).1 (HH ts d).2,Mz (HH ts d).1 (HH ts d).2⟩
end
theorem HI{d:Nat}{x:Ex}(hs:cM d x=true)(hn:kx d x)(hr:(fP (oW d x false [])).2.1=0):(oW d x false []).length<=16384/\Sim x (fP (oW d x false [])).1:=by
 have fi:(oW d x false []).length<=16384:=by
  refine bL λhc=>?_;unfold fP at hr;have:cG (oW d x false [])=([],2, -1):=by rw[cG,aV aE]
  rw[this,aV aL]at hr;exact absurd hr (show ¬(2:Int)=0 by decide)
 refine⟨fi,?_⟩;have YR:=Dy d false [] hs fi;rw[bP]at YR;rw[YR]at hr fi⊢;generalize hL:lr d x false=L at*
 have TT:kc L (0+L.length)=.ok [⟨5,[],0,((L.length:Nat):Int)⟩]:=by
  have hd:L.drop L.length=[]:=dv (aY _);have h5:jT false []=0:=rfl;rw[bM,j5 (aY _),hd,h5,aV aE];rfl
 obtain⟨us,h1,h2⟩:=vd (l:=L) d (x:=x) false 0 (r:=[]) hs hn (be _) (by rw[fZ,bD,hL]) (λc hc=>by cases hc) (by rw[hL];exact TT);generalize UF:us++[(⟨5,[],0,((L.length:Nat):Int)⟩:Tk)]=ts at*
 have t1:cG L=(ts,0,0):=by
  rw[cG,aQ aE,h1]
 have hul:us.length=(oe d x false).length:=by rw[<-h2,bN]
 have Ia:ts.length=us.length+1:=by rw[<-UF,aN,br]
 have cY:At ts 0 (oe d x false):=λj q hj=>by
  rw[<-h2,cA,eE]at hj;obtain⟨t,g1,rfl⟩:=hj;have:tk ts (0+j)=t:=by
   unfold tk;rw[<-UF,bM,bQ (bc.1 g1).1,g1];rfl
  rw[this]
 have hke:(tk ts us.length).k=5:=by
  unfold tk;rw[<-UF,cw (aY _),nH];rfl
 have aoS:0<=bW x:=by
  unfold bW fl;split
  ·split
   ·omega
   split
   ·omega
   split
   ·omega
   split
   ·omega
   split
   ·omega
   split
   ·omega
   omega
  omega
 have hP:=(HH ts d).1 (x:=x) false 0 0 0 (fR 0 0) hs cY aL (λ_=>aE) aL (aY _) aE (λq _ _=>aak (by rw[bM,<-hul];exact hke) q);have hpr:qn ts 0=dc ts (fR 0 0) 0 0 0:=rfl;rw[<-hpr]at hP;have hrd:fP L=if(ck ts 0).2.2.1≠0 then(wF,(ck ts 0).2.2.1,(ck ts 0).2.2.2)else if(tk ts (ck ts 0).2.1.toNat).k≠5 then(wF,4,(tk ts (ck ts 0).2.1.toNat).a)else((ck ts 0).1,0,(ck ts 0).2.2.2):=by
  unfold fP;rw[t1];rfl
 rw[hrd]at hr⊢;have WH:ck ts 0=if 0<ts.length/\ku ts+1=ts.length then(match qn ts 0 with
  | .error (c,p)=>(wF,0,c,p)
  | .ok (x,j)=>(x,(j:Int),0,0))else(wF,0,1, -1):=by
  unfold ck;by_cases hc:0<ts.length/\ku ts+1=ts.length
  ·rw[aV hc,aV ⟨jt _,aE,hc.2⟩];rfl
  rw[aQ hc,aQ (λhh=>hc ⟨aE,hh.2.2⟩)]
 rw[WH]at hr⊢;have hc:0<ts.length/\ku ts+1=ts.length:=bL λhc=>by
  rw[aQ hc,aV aL]at hr;exact absurd hr (show ¬(1:Int)=0 by decide)
 rw[aV hc]at hr⊢;rcases hP with⟨x',g1,g2⟩ | ⟨a,g1⟩
 ·rw[g1]at hr⊢;dsimp only at hr⊢;rw[aQ aL,aX,bM,<-hul,hke,aQ aL];exact g2
 rw[g1]at hr;dsimp only at hr;rw[aV aL]at hr;exact absurd hr (show ¬(21:Int)=0 by decide)
structure Em (ts nD:List Tk) (n o:Nat):Prop where
 e:∀i,n<=i->(tk ts i).k=5
 s:∀i,i<n->(tk nD (o+i)).k=(tk ts i).k/\(tk nD (o+i)).t=(tk ts i).t/\(tk nD (o+i)).n=(tk ts i).n
 c:(tk nD (o+n)).k=4/\((tk nD (o+n)).t=[59]∨(tk nD (o+n)).t=[93])
def Rm(n o:Nat)(r r':Pr):Prop:=∀x j,r=.ok (x,j)->∃x',r'=.ok (x',o+j)/\Sim x x'/\j<=n
theorem HJ(op:Nat):dL op≠[59]/\dL op≠[93]:=by
 rcases nG op 16 with h | h
 ·have:∀q,q<16->dL q≠[59]/\dL q≠[93]:=aL
  exact this op h
 unfold dL;rw[di (by exact h)];decide
section
variable {ts nD:List Tk} {n o:Nat}
theorem Em.lt(h:Em ts nD n o){i:Nat}(hk:(tk ts i).k≠5):i<n:=bL λhn=>hk (h.e i aE)
theorem Em.M3(h:Em ts nD n o){i:Nat}(hi:i<n)(s:aH):sg nD (o+i) s=sg ts i s:=by
 unfold sg;obtain⟨h1,h2,_⟩:=h.s i hi;rw[h1,h2]
theorem Em.sgn(h:Em ts nD n o){i:Nat}(hi:i<=n){s:aH}(h1:s≠[59])(h2:s≠[93]):sg nD (o+i) s=sg ts i s:=by
 rcases nG i n with hl | hl
 ·exact h.M3 hl s
 have:i=n:=aE
 subst this;unfold sg;rw[h.e i (aY _)];have:decide ((tk nD (o+i)).t=s)=false:=bA λe=>by
  rcases h.c.2 with c | c
  ·exact h1 (by rw[<-e,c])
  exact h2 (by rw[<-e,c])
 rw[this,fI];rfl
theorem Em.opf(h:Em ts nD n o){i:Nat}(hi:i<=n)(k:Int):∀(f op:Nat),jy nD k (o+i) f op=jy ts k i f op
 | 0,_=>rfl
 | f+1,op=>by rw[jy,jy,h.sgn hi (HJ op).1 (HJ op).2,h.opf hi k f]
theorem Em.op(h:Em ts nD n o){i:Nat}(hi:i<=n)(k:Int):jL nD k (o+i)=jL ts k i:=h.opf hi k 13 1
theorem Rm.map{r r':Pr}(h:Rm n o r r'){g g':Ex->Ex}(hg:∀x x',Sim x x'->Sim (g x) (g' x')):Rm n o (G5 g r) (G5 g' r'):=by
 intro x j hx;obtain⟨y,h1,rfl⟩:=Ab hx;obtain⟨x',h2,h3,h4⟩:=h y j h1;exact⟨g' x',by rw[h2];rfl,hg _ _ h3,h4⟩
theorem Rm.and{r r':Pr}{f f':Ex->Nat->Pr}(h:Rm n o r r')(hf:∀x x' j,r=.ok (x,j)->j<=n->Sim x x'->Rm n o (f x j) (f' x' (o+j))):Rm n o (Bl r f) (Bl r' f'):=by
 intro x j hx;obtain⟨y,m,h1,h5⟩:=xa hx;obtain⟨x',h2,h3,h4⟩:=h y m h1;rw[h2];exact hf y x' m h1 h4 h3 x j h5
theorem Rm.nest{r r':Pr}{d:Nat}{a a':Int}(h:Rm n o r r'):Rm n o (jh d a r) (jh d a' r'):=by
 intro x j hx;obtain⟨h1,h2⟩:=qV hx;have:d≠20:=λe=>by rw[jh,aV e]at hx;cases hx
 rw[jh,aQ this];exact h x j h1
theorem Rm.par(hw:Em ts nD n o){r r':Pr}(h:Rm n o r r'):Rm n o (rU ts r) (rU nD r'):=by
 intro x j hx;obtain⟨j',h1,h2,rfl⟩:=Ad hx;obtain⟨x',h3,h4,h5⟩:=h x j' h1;have hl:=hw.lt (vq h2);exact⟨x',by rw[h3];simp only[rU];rw[aV (by rw[hw.M3 hl];exact h2)];rfl,h4,hl⟩
theorem Rm.err{e:Int×Int}{r':Pr}:Rm n o (.error e) r':=λx j hx=>adn
theorem Rm.in_(hw:Em ts nD n o)(i:Nat):Rm n o (Bm ts i) (Bm nD (o+i)):=by
 intro x j hx;have TP:=hx;obtain⟨rfl,rfl⟩:=Jj TP;unfold Bm at hx;split at hx
 ·rename_i h1;split at hx
  ·rename_i h2;split at hx
   ·rename_i h3;have hl:=hw.lt (vq h3);have e1:(tk nD (o+i+2)).k=(tk ts (i+2)).k/\(tk nD (o+i+2)).t=(tk ts (i+2)).t/\(tk nD (o+i+2)).n=(tk ts (i+2)).n:=hw.s (i+2) aE;refine⟨.mk 3 0 (tk nD (o+i+2)).t 0 [] (tk nD (o+i)).a,?_,?_,hl⟩
    ·unfold Bm;rw[aV (show sg nD (o+i+1) [40]=true from(hw.M3 (i:=i+1) aE _).trans h1),aV (by rw[e1.1];exact h2),aV (show sg nD (o+i+3) [41]=true from(hw.M3 (i:=i+3) hl _).trans h3)];rfl
    rw[e1.2.1];exact .leaf ..
   cases hx
  cases hx
 cases hx
theorem Rm.one(hw:Em ts nD n o){E0 One E0' TS:Nat->Pr}{d i:Nat}(hE:∀i,i<=n->Rm n o (E0 i) (E0' (o+i)))(hO:∀i,i<=n->Rm n o (One i) (TS (o+i)))(hi:i<=n):Rm n o (oL ts E0 One d i) (oL nD E0' TS d (o+i)):=by
 by_cases PD:i=n
 ·subst PD;have h5:=hw.e i (aY _);have hs:∀s,sg ts i s=false:=λs=>by
   unfold sg;rw[h5];rfl
  have:oL ts E0 One d i=.error (fA ts i):=by
   unfold oL;rw[hs,hs,hs,aQ aL,aQ aL,aQ agz,aQ agz,aQ (by rw[h5];rintro⟨h,_⟩;exact absurd h aL)]
  rw[this];exact Rm.err
 have hl:i<n:=aE
 obtain⟨k1,k2,k3⟩:=hw.s i hl;unfold oL;rw[hw.M3 hl,hw.M3 hl,hw.M3 hl,k1,k2,k3];split
 ·exact Rm.map (Rm.nest (hO (i+1) hl)) λx x' hx=>.one _ _ _ _ _ _ _ _ hx
 split
 ·exact Rm.nest (Rm.par hw (hE (i+1) hl))
 split
 ·intro x j hx;simp only[fp,fx]at hx;obtain⟨rfl,rfl⟩:=hx;exact⟨_,rfl,.leaf ..,hl⟩
 split
 ·intro x j hx;simp only[fp,fx]at hx;obtain⟨rfl,rfl⟩:=hx;exact⟨_,rfl,.leaf ..,hl⟩
 split
 ·exact Rm.in_ hw i
 exact Rm.err
theorem Rm.loop(hw:Em ts nD n o){E E':Nat->Pr}{k:Int}(hm:∀i x j,E i=.ok (x,j)->i<j)(hE:∀i,i<=n->Rm n o (E i) (E' (o+i))):∀(g g':Nat) (x x':Ex) (j:Nat),j<=n->n-j<g->n-j<g'->Sim x x'->Rm n o (iT ts E k g x j) (iT nD E' k g' x' (o+j))
 | 0,_,_,_,j,_,h,_,_=>aE
 | _,0,_,_,j,_,_,h,_=>aE
 | g+1,g'+1,x,x',j,hj,h1,h2,hs=>by
  rw[iT,iT,hw.op hj];split
  ·intro y m hy;simp only[fp,fx]at hy;obtain⟨rfl,rfl⟩:=hy;exact⟨_,rfl,hs,hj⟩
  rename_i h0;have hl:=hw.lt (oV _ _ h0);refine Rm.and (hE (j+1) hl) λy y' m hy hmn DS=>?_;have:=hm _ _ _ hy;exact Rm.loop hw hm hE g g' _ _ m hmn aE aE (.two _ _ _ _ _ _ _ _ _ _ hs DS)
theorem Rm.expr(hw:Em ts nD n o)(hl:ts.length=n+1)(hl':o+n<nD.length):∀(f k d i:Nat),i<=n->Rm n o (dc ts f k d i) (dc nD f k d (o+i))
 | 0,k,d,i,_=>Rm.err
 | f+1,k,d,i,hi=>by
  rw[dc,dc];split
  ·exact Rm.one hw (λi hi=>Rm.expr hw hl hl' f 0 (d+1) i hi) (λi hi=>Rm.expr hw hl hl' f 6 (d+1) i hi) hi
  have hR:∀i,i<=n->Rm n o (dc ts f (k+1) d i) (dc nD f (k+1) d (o+i)):=λi hi=>Rm.expr hw hl hl' f (k+1) d i hi;refine Rm.and (hR i hi) λx x' j hx hj hs=>?_;exact Rm.loop hw (λi x j h=>kq _ _ _ _ h) hR _ _ _ _ _ hj aE aE hs
end
theorem Sim.trans{x y:Ex}(h:Sim x y):∀{z:Ex},Sim y z->Sim x z:=by
 induction h with
 | leaf k n s op a b=>intro z hz;cases hz;exact .leaf ..
 | one k n s op a b x y h ih=>intro z hz;cases hz with | one _ _ _ _ _ c _ z h2=>exact .one _ _ _ _ _ _ _ _ (ih h2)
 | two k n s op a b x y x' y' h1 h2 i1 i2=>intro z hz;cases hz with | two _ _ _ _ _ c _ _ z1 z2 k1 k2=>exact .two _ _ _ _ _ _ _ _ _ _ (i1 k1) (i2 k2)
def Pk(E:aH->Prop)(p:aH)(ks:List K3):Prop:=∀(l:aH) (i:Nat) (r:aH) (ts:List Tk),i<=l.length->l.drop i=p++r->E r->kc l (i+p.length)=.ok ts->∃us,kc l i=.ok (us++ts)/\us.map k3=ks
abbrev Tr:aH->Prop:=λ_=>True
def Pc(q:aH):Prop:=∃c t,q=c::t/\RU c=true
section
variable {E E':aH->Prop} {p q:aH} {a b:List K3}
theorem Pk.nil(E:aH->Prop):Pk E [] []:=λ_ _ _ ts _ _ _ h=>⟨[],h,rfl⟩
theorem Pk.glue(h:Pk E p a)(k:Pk E' q b)(he:∀r,E' r->E (q++r)):Pk E' (p++q) (a++b):=by
 intro l i r ts hi hd hr ht;rw[bf]at hd;obtain⟨us,h1,h2⟩:=k _ _ _ _ (zh hi hd) (jW hd) hr (by rw[eo,<-aN];exact ht);obtain⟨vs,h3,h4⟩:=h _ _ _ _ hi hd (he r hr) h1;exact⟨vs++us,by rw[bf];exact h3,by rw[cN,h2,h4]⟩
theorem Pk.t(h:Pk Tr p a)(k:Pk E q b):Pk E (p++q) (a++b):=h.glue k λ_ _=>trivial
theorem Pc.Ct(h:Pc q)(r:aH):sP (q++r):=by
 obtain⟨c,t,rfl,hc⟩:=h;intro d hd;rw[bX,gZ,bq]at hd;subst hd;exact hc
theorem Pk.e(h:Pk sP p a)(k:Pk E q b)(hq:Pc q):Pk E (p++q) (a++b):=h.glue k λr _=>hq.Ct r
theorem RW{c:UInt8}(hc:ot c=true):Pk Tr [c] []:=by
 intro l i r ts hi hd _ ht;refine⟨[],?_,rfl⟩;have hd':l.drop i=c::r:=hd;have i1:i+1<=l.length:=zh hi hd;have d1:l.drop (i+1)=r:=jW hd;have e:jT false (c::r)=1+jT false r:=by rw[jT,aV hc]
 rw[mX hi,hd',e,<-eo];rw[br,mX i1,d1]at ht;exact ht
theorem Pk.sp(h:Pk E q b):Pk E (32::q) b:=(RW (c:=32) aL).t h
theorem Pk.nl(h:Pk Tr p a):Pk Tr (p++[10]) a:=by
 have:=h.t (RW (c:=10) aL);rwa[bD]at this
theorem yB{k:Int}{t:aH}{n:Int}(hp:p≠[])(h:∀r,E r->jT false (p++r)=0/\lK (p++r)=.ok (k,t,n,p.length)):Pk E p [(k,t,n)]:=λl i r ts hi hd hr ht=>
 ⟨[⟨k,t,n,(i:Nat)⟩],ui hd hp (h r hr).1 (h r hr).2 ht,rfl⟩
theorem amd{c:UInt8}(h0:eZ c=false)(h1:cW c=false)(h2:[60,62,61,33].contains c=false)(h3:[38,124].contains c=false)(h4:(c==45)=false)(h5:ou.contains c=true)(r:aH):lK (c::r)=.ok (4,[c],0,1):=by
 have hs:qT (c::r)=false:=by
  cases r with
  | nil=>rfl
  | cons d r=>
   show((d==61&&[60,62,61,33].contains c)||(d==c&&[38,124].contains c)||(c==45&&d==62))=false;rw[h2,h3,h4];simp
 exact ml h0 h1 h5 hs
def iH(c:UInt8):K3:=(4,[c],0)
def kTo:K3:=(4,[45,62],0)
theorem Pk.one(c:UInt8)(h0:eZ c=false)(h1:cW c=false)(h2:[60,62,61,33].contains c=false)(h3:[38,124].contains c=false)(h4:(c==45)=false)(h5:ou.contains c=true)(h6:ot c=false)(h7:(c==47)=false)(h:Pk E q b):Pk E (c::q) (iH c::b):=
 (yB (p:=[c]) (E:=Tr) aM λr _=>⟨IA h6 h7,amd h0 h1 h2 h3 h4 h5 r⟩).t h
theorem Pk.lb(h:Pk E q b):Pk E (123::q) (iH 123::b):=h.one 123 aL aL aL aL aL aL aL aL
theorem Pk.rb(h:Pk E q b):Pk E (125::q) (iH 125::b):=h.one 125 aL aL aL aL aL aL aL aL
theorem Pk.lk(h:Pk E q b):Pk E (91::q) (iH 91::b):=h.one 91 aL aL aL aL aL aL aL aL
theorem Pk.rk(h:Pk E q b):Pk E (93::q) (iH 93::b):=h.one 93 aL aL aL aL aL aL aL aL
theorem Pk.sc(h:Pk E q b):Pk E (59::q) (iH 59::b):=h.one 59 aL aL aL aL aL aL aL aL
theorem Pk.cm(h:Pk E q b):Pk E (44::q) (iH 44::b):=h.one 44 aL aL aL aL aL aL aL aL
theorem Pk.eq(h:Pk E q b)(hq:Pc q):Pk E (61::q) (iH 61::b):=
 (yB (p:=[61]) (E:=sP) aM λr hr=>⟨IA aL aL,ml aL aL aL (kz aL hr.soft)⟩).e h hq
theorem Pk.to(h:Pk E q b):Pk E (45::62::q) (kTo::b):=
 (yB (p:=[45,62]) (E:=Tr) aM λr _=>⟨IA aL aL,rfl⟩).t h
theorem wq:Pc (59::q):=⟨59,q,rfl,rfl⟩
theorem iJ:Pc (32::q):=⟨32,q,rfl,rfl⟩
theorem aao:Pc (93::q):=⟨93,q,rfl,rfl⟩
theorem aap:Pc (44::q):=⟨44,q,rfl,rfl⟩
theorem MA{s:aH}(h1:s≠[])(h2:s.length<=24)(h3:∃c t,s=c::t/\eZ c=true)(h4:∀c,c∈s->eF c=true):Pk sP s [(if jb.contains s then 2 else 1,s,0)]:=by
 obtain⟨c,t,rfl,hc⟩:=h3;refine yB h1 λr hr=>⟨?_,?_⟩
 ·have:=lu (c:=c) (by unfold lM;rw[hc];simp);exact IA this.1 this.2.1
 have e:lK (c::t++r)=if eZ c then lZ (c::t++r)else if cW c then rT (c::t++r)else nY (c::t++r):=rfl
 rw[e,hc,aV rfl];unfold lZ;rw[hr.word _ h4,aQ aE]
theorem mo{s:aH}(hn:dj s=true):Pk sP s [(1,s,0)]:=by
 unfold dj at hn;simp only[aP]at hn;obtain⟨⟨⟨h1,h2⟩,h3⟩,h4⟩:=hn;obtain⟨h1,h5⟩:=aR h1;have h3:=aR h3;have h4:jb.contains s=false:=adp
 have:=MA h1 h5 (by
  cases s with
  | nil=>exact absurd rfl h1
  | cons c t=>exact⟨c,t,rfl,h2⟩) (λc hc=>by rw[<-h3]at hc;exact yj c hc)
 rw[h4]at this;exact this
theorem pz{s:aH}(h:(decide (s≠[]/\s.length<=24)&&(match s with | c::_=>eZ c | []=>false)&&s.all eF&&jb.contains s)=true):Pk sP s [(2,s,0)]:=by
 simp only[aP]at h;obtain⟨⟨⟨h1,h2⟩,h3⟩,h4⟩:=h;obtain⟨h1,h5⟩:=aR h1;have:=MA h1 h5 (by
  cases s with
  | nil=>exact absurd rfl h1
  | cons c t=>exact⟨c,t,rfl,h2⟩) (λc hc=>(ey.1 h3) c hc)
 rw[h4]at this;exact this
theorem JJ{n:Int}(h0:0<=n)(h1:n<=9223372036854775807):Pk sP (Lib.itoa n) [(3,[],n)]:=by
 have ii:Lib.itoa n≠[]:=by rw[pv h0];exact yA _
 refine yB ii λr hr=>⟨?_,Mx h0 h1 hr⟩
 rw[pv h0];cases hm:Lib.decDigits n.toNat with
 | nil=>exact absurd hm (yA _)
 | cons c m=>
  have hd:=Ao n.toNat c (by rw[hm];simp);have:=lu (c:=c) (by unfold lM;rw[hd];simp);exact IA this.1 this.2.1
def zK(v:Int):List K3:=if v<0 then[iH 45,(3,[], -v)]else[(3,[],v)]
theorem aaq{v:Int}(hv:wE v)(hm:v≠ -9223372036854775808):Pk sP (Lib.itoa v) (zK v):=by
 obtain⟨h1,h2⟩:=hv;unfold zK;by_cases h:v<0
 ·rw[aV h];have e:Lib.itoa v=45::Lib.itoa (-v):=by
   unfold Lib.itoa;rw[aV h,aQ aE,show v.natAbs=(-v).toNat by omega]
  rw[e];have hp:=JJ (n:= -v) aE aE;refine(yB (p:=[45]) (E:=λr=>soft r) (k:=4) (t:=[45]) (n:=0) aM λr hr=>⟨IA aL aL,ml aL aL aL (kz aL hr)⟩).glue hp λr hr=>?_;show soft (Lib.itoa (-v)++r);rw[pv (n:= -v) aE];cases hm:Lib.decDigits (-v).toNat with
  | nil=>exact absurd hm (yA _)
  | cons c m=>
   have hd:=Ao (-v).toNat c (by rw[hm];simp);exact pw ⟨c,m++r,rfl,by unfold lM;rw[hd];simp⟩
 rw[aQ h];exact JJ aE aE
end
def Dz(x:Ex):List K3:=oe (BF x) x false
theorem Ye{x:Ex}(h:qs x=true)(hn:NY x):cM (BF x) x=true/\uS x=lr (BF x) x false/\(fP (uS x)).2.1=0/\(uS x).length<=16384/\Sim x (fP (uS x)).1:=by
 have h:=aR h;obtain⟨h1,h2,h3⟩:=Hl h;obtain⟨h4,h5⟩:=HI h1 (hn _) h3;have h6:=Dy _ false [] h1 h4;unfold uS;rw[h2];exact⟨h1,h6,h3,h4,h5⟩
theorem Yf{x:Ex}(h:qs x=true)(hn:NY x):Pk sP (uS x) (Dz x):=by
 obtain⟨h1,h2,_⟩:=Ye h hn;rw[h2];exact λl i r ts hi hd hr ht=>vd (BF x) false i h1 (hn _) hi hd hr ht
def IB(a:Ac):List K3:=
 if a.k=2 then(2,jz,0)::(1,a.n,0)::[iH 59]else(2,if a.k=1 then pK else kZ,0)::(1,a.n,0)::iH 61::(Dz a.x++[iH 59])
def zL:List Ac->List K3
 | []=>[]
 | a::l=>IB a++zL l
def xU(l:List Ac):List K3:=iH 123::(zL l++[iH 125])
theorem agC{a:Ac}(h:gF a=true)(hn:Dm a):Pk Tr (zd a) (IB a):=by
 unfold gF at h;simp only[aP]at h;obtain⟨⟨h1,h2⟩,h3⟩:=h;unfold zd IB;by_cases hk:a.k=2
 ·rw[aV hk,aV hk];exact(pz (s:=jz) aL).e (Pk.sp ((mo h2).e (Pk.sc (Pk.nil _)) wq)) iJ
 rw[aQ hk]at h3⊢;rw[aQ hk];have tail:=Pk.sp ((mo h2).e (Pk.sp (Pk.eq (Pk.sp ((Yf h3 hn).e (Pk.sc (Pk.nil Tr)) wq)) iJ)) iJ);by_cases h1k:a.k=1
 ·simp only[aV h1k];exact(pz (s:=pK) aL).e tail iJ
 simp only[aQ h1k];exact(pz (s:=kZ) aL).e tail iJ
theorem RY:∀{l:List Ac},l.all gF=true->(∀a,a∈l->Dm a)->Pk Tr (xi l) (zL l)
 | [],_,_=>Pk.nil _
 | a::l,h,hn=>by
  rw[kl,aP]at h;exact Pk.sp ((agC h.1 (hn a aM)).t (RY h.2 λb hb=>hn b (by simp[hb])))
theorem RZ{l:List Ac}(h:l.all gF=true)(hn:∀a,a∈l->Dm a):Pk Tr (vO l) (xU l):=
 Pk.lb ((RY h hn).t (Pk.sp (Pk.rb (Pk.nil _))))
def JK:List (aH)->List K3
 | []=>[]
 | s::l=>iH 44::(1,s,0)::JK l
def hdK(m:Mv):List K3:=if m.k=1 then[(2,zH,0),(1,m.ev,0)]else if m.k=3 then[(2,im,0),(3,[],m.wt)]else[(2,gD,0)]
def Yg(m:Mv):List K3:=if m.gd then iH 91::(Dz m.g++[iH 93])else[]
def JL(m:Mv):List K3:=match m.tg with
 | []=>[]
 | s::l=>kTo::(1,s,0)::JK l
def MB(m:Mv):List K3:=hdK m++(Yg m++((if m.acts=[]then[]else xU m.acts)++(JL m++[iH 59])))
theorem Yh:∀{l:List (aH)},l.all dj=true->Pk Tr (Dl l++[59]) (JK l++[iH 59])/\Pc (Dl l++[59])
 | [],_=>⟨Pk.sc (Pk.nil _),wq⟩
 | s::l,h=>by
  rw[kl,aP]at h;obtain⟨h1,h2⟩:=Yh h.2;refine⟨?_,aap⟩;have:=Pk.cm (Pk.sp ((mo h.1).e h1 h2));simpa[Dl,JK]using this
theorem agE{m:Mv}(h:kO m=true)(hn:PA m):Pk Tr (BH m) (MB m):=by
 unfold kO at h;simp only[aP]at h;obtain⟨⟨⟨⟨⟨h1,h2⟩,h3⟩,h4⟩,h5⟩,h6⟩:=h;have h1:=aR h1;have h6:=aR h6;unfold BH MB;have t1:Pk Tr ((match m.tg with
  | []=>[]
  | s::l=>32::45::62::32::(s++Dl l))++[59]) (JL m++[iH 59])/\Pc ((match m.tg with
  | []=>[]
  | s::l=>32::45::62::32::(s++Dl l))++[59]):=by
  unfold JL;cases hm:m.tg with
  | nil=>exact⟨Pk.sc (Pk.nil _),wq⟩
  | cons s l=>
   rw[hm,kl,aP]at h5;obtain⟨g1,g2⟩:=Yh h5.2;refine⟨?_,iJ⟩;have:=Pk.sp (Pk.to (Pk.sp ((mo h5.1).e g1 g2)));simpa using this
 generalize ((match m.tg with
  | []=>[]
  | s::l=>32::45::62::32::(s++Dl l))++[59]:aH)=R1 at*
 generalize JL m++[iH 59]=K1 at*
 have t2:Pk Tr ((if m.acts=[]then[]else 32::vO m.acts)++R1) ((if m.acts=[]then[]else xU m.acts)++K1)/\Pc ((if m.acts=[]then[]else 32::vO m.acts)++R1):=by
  by_cases ha:m.acts=[]
  ·rw[aV ha,aV ha];exact t1
  rw[aQ ha,aQ ha];exact⟨Pk.sp ((RZ h4 hn.a).t t1.1),iJ⟩
 generalize ((if m.acts=[]then[]else 32::vO m.acts)++R1:aH)=R2 at*
 generalize (if m.acts=[]then[]else xU m.acts)++K1=K2 at*
 have t3:Pk Tr (NZ m++R2) (Yg m++K2)/\Pc (NZ m++R2):=by
  unfold NZ Yg;cases hg:m.gd with
  | false=>exact t2
  | true=>
   rw[hg]at h3;refine⟨?_,iJ⟩;have:=Pk.sp (Pk.lk ((Yf h3 hn.g).e (Pk.rk t2.1) aao));simpa using this
 generalize (NZ m++R2:aH)=R3 at*
 generalize Yg m++K2=K3' at*
 unfold T8 hdK;by_cases k1:m.k=1
 ·rw[aV k1]at h2⊢;rw[aV k1,bf];exact(pz (s:=zH) aL).e (Pk.sp ((mo h2).e t3.1 t3.2)) iJ
 rw[aQ k1,aQ k1];by_cases k3:m.k=3
 ·rw[aV k3,aV k3,bf];exact(pz (s:=im) aL).e (Pk.sp ((JJ aE hn.w.2).e t3.1 t3.2)) iJ
 rw[aQ k3,aQ k3];exact(pz (s:=gD) aL).e t3.1 t3.2
theorem R0{p:aH}{a:List K3}(h:Pk Tr p a):∀d,Pk Tr (tW d++p) a
 | 0=>h
 | d+1=>Pk.sp (Pk.sp (R0 h d))
theorem agF{d:Nat}{p:aH}{a:List K3}(h:Pk Tr p a):Pk Tr (ZZ (d,p)) a:=R0 h.nl d
def Lq(L:List Ln)(ks:List K3):Prop:=Pk Tr (ze L) ks
theorem Lq.nil:Lq [] []:=Pk.nil _
theorem Lq.Ct{L M:List Ln}{a b:List K3}(h:Lq L a)(k:Lq M b):Lq (L++M) (a++b):=by
 unfold Lq ze;rw[gR];exact h.t k
theorem Lq.one{d:Nat}{p:aH}{a:List K3}(h:Pk Tr p a):Lq [(d,p)] a:=by
 unfold Lq ze;rw[wJ,rA,bD];exact agF h
theorem Lq.cons{d:Nat}{p:aH}{a:List K3}{L:List Ln}{b:List K3}(h:Pk Tr p a)(k:Lq L b):Lq ((d,p)::L) (a++b):=(Lq.one h).Ct k
def JM(b:Nb):List K3:=if b.ini=[]then[]else[(2,fb,0),(1,b.ini,0),iH 59]
def Uc(b:Nb):List K3:=if b.en=[]then[]else(2,io,0)::xU b.en
def Oc(b:Nb):List K3:=if b.lv=[]then[]else(2,iq,0)::xU b.lv
def wv:List Mv->List K3
 | []=>[]
 | m::l=>MB m++wv l
def yC(b:Nb):List K3:=JM b++(Uc b++(Oc b++wv b.mv))
mutual
def Od:Nd->List K3
 | .mk b l=>
  if gK b.k then(2,kW b.k,0)::(1,b.nm,0)::kTo::(1,b.dft,0)::[iH 59]
  else(2,kW b.k,0)::(1,b.nm,0)::iH 123::(yC b++(kQ l++[iH 125]))
def kQ:List Nd->List K3
 | []=>[]
 | x::l=>Od x++kQ l
end
structure nbS (b:Nb):Prop where
 nm:dj b.nm=true
 ini:b.ini=[]∨dj b.ini=true
 en:b.en.all gF=true
 lv:b.lv.all gF=true
 mv:b.mv.all kO=true
theorem R4{b:Nb}{n:Nat}(h:sO b n=true)(hh:gK b.k=false):(b.k=1∨b.k=2)/\b.dft=[]/\nbS b:=by
 unfold sO at h;rw[hh]at h;simp only[aP,iv,jf,cx,bI]at h;obtain⟨h0,⟨⟨⟨h1,h2⟩,h3⟩,h4⟩,h5⟩:=h;exact⟨h1.1,h1.2,h0,h2,h3,h4,h5⟩
theorem agG{b:Nb}{n:Nat}(h:sO b n=true)(hh:gK b.k=true):dj b.nm=true/\dj b.dft=true/\b.ini=[]/\b.en=[]/\b.lv=[]/\b.mv=[]/\n=0:=by
 unfold sO at h;rw[hh]at h;simp only[aP,wH,bI]at h;obtain⟨h0,h1,h2,h3,h4,h5,h6⟩:=h;exact⟨h0,h1,h2,h3,h4,bF h5,h6⟩
theorem Yi{d:Nat}{b:Nb}(h:nbS b)(hn:YO b):Lq (CI d b) (yC b):=by
 unfold CI yC;refine Lq.Ct ?_ (Lq.Ct ?_ (Lq.Ct ?_ ?_))
 ·unfold vA JM;by_cases hi:b.ini=[]
  ·rw[aV hi,aV hi];exact Lq.nil
  rw[aQ hi,aQ hi];exact Lq.one ((pz (s:=fb) aL).e (Pk.sp ((mo (h.ini.resolve_left hi)).e (Pk.sc (Pk.nil _)) wq)) iJ)
 ·unfold LR Uc;by_cases hi:b.en=[]
  ·rw[aV hi,aV hi];exact Lq.nil
  rw[aQ hi,aQ hi];exact Lq.one ((pz (s:=io) aL).e (Pk.sp (RZ h.en hn.en)) iJ)
 ·unfold N0 Oc;by_cases hi:b.lv=[]
  ·rw[aV hi,aV hi];exact Lq.nil
  rw[aQ hi,aQ hi];exact Lq.one ((pz (s:=iq) aL).e (Pk.sp (RZ h.lv hn.lv)) iJ)
 unfold mvL;have hm:=h.mv;have hk:=hn.mv;generalize b.mv=l at*
 induction l with
 | nil=>exact Lq.nil
 | cons m l ih=>
  rw[kl,aP]at hm;exact Lq.cons (agE hm.1 (hk m aM)) (ih hm.2 λx hx=>hk x acI)
theorem MC(k:Int):Pk sP (kW k) [(2,kW k,0)]:=by
 unfold kW;split
 ·exact pz aL
 split
 ·exact pz aL
 split
 ·exact pz aL
 exact pz aL
mutual
theorem agH:∀(d:Nat) (x:Nd),jU d x=true->zf x->Lq (Cs d x) (Od x)
 | d,.mk b l,h,hn=>by
  rw[jU]at h;rw[zf]at hn;rw[Cs,Od];simp only[aP]at h;obtain⟨⟨_,h1⟩,h2⟩:=h;cases hh:gK b.k with
  | true=>
   obtain⟨a1,a2,_⟩:=agG h1 hh;rw[aV rfl,aV rfl];exact Lq.one ((MC b.k).e (Pk.sp ((mo a1).e (Pk.sp (Pk.to (Pk.sp ((mo a2).e (Pk.sc (Pk.nil _)) wq)))) iJ)) iJ)
  | false=>
   obtain⟨_,_,hs⟩:=R4 h1 hh;rw[aQ aL,aQ aL];exact Lq.cons ((MC b.k).e (Pk.sp ((mo hs.nm).e (Pk.sp (Pk.lb (Pk.nil _))) iJ)) iJ) ((Yi hs hn.1).Ct ((JN (d+1) l h2 hn.2).Ct (Lq.one (Pk.rb (Pk.nil _)))))
theorem JN:∀(d:Nat) (l:List Nd),iB d l=true->vB l->Lq (ob d l) (kQ l)
 | d,[],_,_=>by
  rw[ob,kQ];exact Lq.nil
 | d,x::l,h,hn=>by
  rw[iB,aP]at h;rw[vB]at hn;rw[ob,kQ];exact(agH d x h.1 hn.1).Ct (JN d l h.2 hn.2)
end
def R5(v:Vr):List K3:=(2,vw,0)::(1,v.n,0)::iH 61::(zK v.v++[iH 59])
def vF:List Vr->List K3
 | []=>[]
 | v::l=>R5 v++vF l
def chK(c:Ch):List K3:=(2,fm,0)::(1,c.root.b.nm,0)::iH 123::(vF c.vars++(yC c.root.b++(kQ c.root.kids++[iH 125])))
theorem agI{c:Ch}(h:pq c=true)(hn:Ip c):Lq (Ak c) (chK c):=by
 unfold pq at h;simp only[aP]at h;obtain⟨⟨h1,h2⟩,h3⟩:=h;replace h3:=aR h3;obtain⟨vars,⟨b,l⟩⟩:=c;have hr:=hn.r;rw[zf]at hr;rw[jU]at h2;simp only[aP]at h2;obtain⟨⟨_,h4⟩,h5⟩:=h2;have hk:b.k=1:=h3.1;have hh:gK b.k=false:=adC
 obtain⟨_,_,hs⟩:=R4 h4 hh;unfold Ak chK;have hv:Lq (vars.map λv=>(1,T9 v)) (vF vars):=by
  have hv:=hn.v;dsimp only at h1 hv;clear h3 hn h4 h5 hr
  induction vars with
  | nil=>exact Lq.nil
  | cons v m ih=>
   rw[kl,aP,aP]at h1;refine Lq.cons ?_ (ih h1.2 λx hx=>hv x acI);exact(pz (s:=vw) aL).e (Pk.sp ((mo h1.1.1).e (Pk.sp (Pk.eq (Pk.sp ((aaq (hv v aM) (aR h1.1.2)).e (Pk.sc (Pk.nil _)) wq)) iJ)) iJ)) iJ
 exact Lq.cons ((pz (s:=fm) aL).e (Pk.sp ((mo hs.nm).e (Pk.sp (Pk.lb (Pk.nil _))) iJ)) iJ) (hv.Ct ((Yi hs hr.1).Ct ((JN 1 l h5 hr.2).Ct (Lq.one (Pk.rb (Pk.nil _))))))
theorem Fi{p:Prop}:false=true->p:=λh=>aaQ
theorem B0{α:Type}{R:α->α->Prop}:jE R [] []:=⟨rfl,λi x y hx _=>by simp at hx⟩
theorem V4{α:Type}{R:α->α->Prop}{x y:α}{xs ys:List α}(h:R x y)(k:jE R xs ys):jE R (x::xs) (y::ys):=⟨by rw[aW,aW,k.1],λi a b ha hb=>by
 cases i with
 | zero=>
  simp only[cD,bq]at ha hb;subst ha hb;exact h
 | succ i=>exact k.2 i a b (by simpa using ha) aa2⟩
def dE(s:Sx)(n:Nat)(a m k:Nat):Sx:={s with i:=s.i+n,a:=s.a-a,m:=s.m-m,n:=s.n-k}
theorem db(s:Sx)(n a m k n' a' m' k':Nat):dE (dE s n a m k) n' a' m' k'=dE s (n+n') (a+a') (m+m') (k+k'):=by
 unfold dE;simp only[Sx.mk.injEq,true_and];refine⟨aE,?_,?_,?_⟩<;>omega
theorem aar(s:Sx):dE s 0 0 0 0=s:=by
 unfold dE;cases s;simp
theorem iX(s:Sx):dq s=dE s 1 0 0 0:=by
 unfold dq dE;cases s;simp
theorem HK{ts:List Tk}(h:qm ts)(h0:0<ts.length):ku ts+1=ts.length:=by
 have h1:=Ae ts;have h2:ku ts<ts.length:=by
  refine bL λhn=>?_;have:=xb ts (ts.length-1) aE;exact this ((h _ aE).2 aE)
 exact(h _ h2).1 (xd ts h2)
theorem Yj{ts:List Tk}{i:Nat}(h:(tk ts i).k≠5):i<ts.length:=bL λhn=>h (by
 unfold tk;rw[di aE];rfl)
def Pe(q:K3)(l:List (aH)):Nat:=if q.1≠2/\q.1≠4 then 0 else if wh q.2.1 l<l.length then wh q.2.1 l+1 else 0
section
variable {ts:List Tk} {s:Sx} {q:K3} {A:List K3}
theorem dI(h0:s.fc=0)(h:At ts s.i (q::A))(l:List (aH)):cP ts s l=Pe q l:=by
 obtain⟨h1,h2,_⟩:=h.head;unfold cP Pe;rw[h1,h2];by_cases hc:q.1≠2/\q.1≠4
 ·rw[aV (.inr hc),aV hc]
 rw[aQ (λh=>h.elim (λe=>e h0) hc),aQ hc]
theorem jq(h0:s.fc=0){x:aH}(h:At ts s.i (q::A))(hq:Pe q [x]=1):eH ts s x=dE s 1 0 0 0:=by
 unfold eH;rw[dI h0 h,hq,aQ aL,iX]
theorem ve(h0:s.fc=0){k:Int}(h:At ts s.i (q::A))(hq:q.1=k):(ga ts s k).1.t=q.2.1/\(ga ts s k).1.n=q.2.2/\(ga ts s k).2=dE s 1 0 0 0:=by
 obtain⟨h1,h2,h3⟩:=h.head;unfold ga;rw[aQ (λhn=>hn.elim (λe=>e h0) λe=>e (by rw[h1,hq])),iX];exact⟨h2,h3,rfl⟩
theorem vf(h0:s.fc=0){x:aH}(h:At ts s.i ((1,x,0)::A)):ji ts s=(x,dE s 1 0 0 0):=by
 obtain⟨a,b,c⟩:=ve (k:=1) h0 h rfl;unfold ji;rw[a,c]
theorem xD{x:Int}(h1:1<=x)(h2:x<=1000):yp x=x-1:=by
 unfold yp;rw[eY aE aE]
end
theorem DA{x:Ex}(h:oa x=true):T7 false x wF:=by
 obtain⟨k,n,s,op,l,a⟩:=x;unfold oa at h;simp only[aP,du,bI]at h;obtain⟨⟨⟨⟨h1,h2⟩,h3⟩,h4⟩,h5⟩:=h;obtain rfl:k=0:=h1;obtain rfl:n=0:=h2;obtain rfl:s=[]:=h3;obtain rfl:op=0:=h4;have h6:(l.length:Int)=0:=h5;obtain rfl:l=[]:=bF aE;exact λd=>(Sim.leaf 0 0 [] 0 a 0).same d
section
variable {ts:List Tk} (hE:qm ts)
include hE
theorem R6{s:Sx}(h0:s.fc=0){x:Ex}(h:qs x=true)(hn:NY x){q:K3}{A:List K3}(cY:At ts s.i (Dz x++q::A))(hq:q.1=4/\(q.2.1=[59]∨q.2.1=[93])):
  T7 false x (nZ ts s).1/\(nZ ts s).2=dE s (Dz x).length 0 0 0:=by
 obtain⟨h1,h2,h3,h4,h5⟩:=Ye h hn;have hL:=h2;generalize uS x=L at*
 have TT:kc L (0+L.length)=.ok [⟨5,[],0,((L.length:Nat):Int)⟩]:=by
  have hd:L.drop L.length=[]:=dv (aY _);have h5:jT false []=0:=rfl;rw[bM,j5 (aY _),hd,h5,aV aE];rfl
 obtain⟨us,g1,g2⟩:=vd (l:=L) (BF x) (x:=x) false 0 (r:=[]) h1 (hn _) (be _) (by rw[fZ,bD,hL]) (λc hc=>by cases hc) (by rw[<-hL];exact TT);generalize hte:us++[(⟨5,[],0,((L.length:Nat):Int)⟩:Tk)]=te at*
 have t1:cG L=(te,0,0):=by rw[cG,aQ aE,g1]
 have hul:us.length=(Dz x).length:=by unfold Dz;rw[<-g2,bN]
 have Ia:te.length=us.length+1:=by rw[<-hte,aN,br]
 have hEt:qm te:=by
  have:=(wm (l:=L) (by rw[t1])).1;rw[t1]at this;exact this
 have hep:=HK hEt aE;unfold fP at h3 h5;rw[t1]at h3 h5;dsimp only at h3 h5;rw[aQ aL]at h3 h5;by_cases c1:(ck te 0).2.2.1≠0
 ·rw[aV c1]at h3;exact absurd h3 c1
 rw[aQ c1]at h3 h5;by_cases c2:(tk te (ck te 0).2.1.toNat).k≠5
 ·rw[aV c2]at h3;exact absurd h3 (show ¬(4:Int)=0 by decide)
 rw[aQ c2]at h5;have c1:=KN.1 c1;have c2:=KN.1 c2;dsimp only at h5;have hp:ck te 0=(match qn te 0 with
  | .error (c,p)=>(wF,0,c,p)
  | .ok (x,j)=>(x,(j:Int),0,0)):=by
  unfold ck;rw[aV ⟨jt 0,aE,hep⟩];rfl
 have hM:Em te ts us.length s.i:=by
  refine⟨λi hi=>?_,λi hi=>?_,?_⟩
  ·unfold tk;rw[<-hte];rcases Nat.eq_or_lt_of_le hi with e | e
   ·rw[<-e,cw (aY _),nH];rfl
   rw[di aba];rfl
  ·have Ce:i<(Dz x).length:=aE
   have e1:=cY.left i _ (bJ Ce);have e2:k3 (tk te i)=(Dz x)[i]:=by
    have:(us.map k3)[i]? =some (Dz x)[i]:=by
     rw[g2];exact bJ Ce
    rw[cA,eE]at this;obtain⟨t,w1,w2⟩:=this;rw[<-w2];unfold tk;rw[<-hte,bQ hi,w1];rfl
   have e3:=e1.trans e2.symm;unfold k3 at e3;simp only[fx]at e3;exact e3
  have:=cY.right.head;rw[<-hul]at this;rw[this.1,this.2.1];exact hq
 cases hr:qn te 0 with
 | error e=>
  obtain⟨c,p⟩:=e;rw[hr]at hp;exfalso;rw[hp]at c1 c2;have hc:c=0:=c1;subst hc;exact mY _ _ _ _ hr rfl
 | ok y=>
  obtain⟨x0,j⟩:=y;rw[hr]at hp;dsimp only at hp;rw[hp]at c2 h5;dsimp only at c2 h5;have bT:s.i+us.length<ts.length:=by
   refine Yj λe=>?_;have:=cY.right.head.1;rw[<-hul]at this;rw[this,hq.1]at e;exact absurd e aL
  obtain⟨x',k1,k2,PE⟩:=Rm.expr hM Ia bT (fR 0 0) 0 0 0 (be _) x0 j hr;have hj:j=us.length:=by
   rw[aX]at c2;have:=(hEt j aE).1 c2;omega
  subst hj;have IE:ck ts s.i=(x',((s.i+us.length:Nat):Int),0,0):=by
   unfold ck;rw[aV ⟨aZ _,aE,HK hE aE⟩,aX];unfold qn;rw[fk]at k1;rw[k1]
  unfold nZ;rw[aQ (λe=>e h0),IE];dsimp only;rw[aQ (λe=>e rfl)];refine⟨(h5.trans k2).same,?_⟩;rw[aX,hul];unfold dE;simp
theorem V5{s:Sx}(h0:s.fc=0)(ha:1<=s.a)(hb:s.a<=1000):tN ts s=dE s 0 1 0 0:=by
 unfold tN dE;rw[aQ aE,xD ha hb];simp
theorem agJ{s:Sx}(h0:s.fc=0)(ha:1<=s.a)(hb:s.a<=1000){a:Ac}(h:gF a=true)(hn:Dm a){A:List K3}(cY:At ts s.i (IB a++A)):AcE false a (ph ts s).1/\(ph ts s).2=dE s (IB a).length 1 0 0:=by
 unfold gF at h;simp only[aP]at h;obtain⟨⟨h1,h2⟩,h3⟩:=h;have h1:=aR h1;obtain⟨k,n,x,at_⟩:=a;dsimp only at h1 h2 h3;have aiV:∃w A',IB ⟨k,n,x,at_⟩++A=(2,w,0)::(1,n,0)::A'/\(Pe (2,w,0) [pK,jz,kZ]:Nat)=k.toNat:=by
  unfold IB;by_cases hk:k=2
  ·rw[aV hk];exact⟨_,_,rfl,by rw[hk];decide⟩
  rw[aQ hk];by_cases kU:k=1
  ·rw[aV kU];exact⟨_,_,rfl,by rw[kU];decide⟩
  rw[aQ kU];have:k=3:=aE
  exact⟨_,_,rfl,by rw[this];decide⟩
 obtain⟨w,A',e1,e2⟩:=aiV;have OZ:=cY;rw[e1]at OZ;have hw:=dI h0 OZ [pK,jz,kZ];rw[e2]at hw;have PF:(k.toNat:Int)=k:=fy aE;unfold ph;rw[hw,aQ aE,V5 (ts:=ts) hE h0 ha hb,aQ (λe=>e h0)];rw[iX,db,vf (s:=dE s (0+1) (1+0) (0+0) (0+0)) h0 OZ.tail];dsimp only;unfold Jl;by_cases hk:k=2
 ·subst hk;rw[aV (show Int.toNat 2=2 from rfl)];have h3:oa x=true:=by simpa using h3
  have ea:IB ⟨2,n,x,at_⟩=[(2,jz,0),(1,n,0),iH 59]:=rfl;rw[ea]at cY⊢;have h59:=cY.tail.tail;rw[jq (s:=dE (dE s (0+1) (1+0) (0+0) (0+0)) 1 0 0 0) h0 h59 aL,db,db];exact⟨⟨rfl,rfl,DA h3,Fi⟩,rfl⟩
 rw[aQ aE];rw[aQ hk]at h3;have ea:IB ⟨k,n,x,at_⟩=(2,if k=1 then pK else kZ,0)::(1,n,0)::iH 61::(Dz x++[iH 59]):=by
  unfold IB;rw[aQ hk]
 rw[ea]at cY⊢;have Nc:=cY.tail.tail;rw[jq (s:=dE (dE s (0+1) (1+0) (0+0) (0+0)) 1 0 0 0) h0 Nc aL,db,db];have hx:At ts (s.i+1+1+1) ((Dz x++[iH 59])++A):=Nc.tail;rw[bf]at hx;obtain⟨r1,r2⟩:=R6 hE (s:=dE s (0+1+1+1) (1+0+0+0) (0+0+0+0) (0+0+0+0)) h0 h3 hn (q:=iH 59) (A:=A) hx ⟨rfl,.inl rfl⟩;rw[r2];have h59:=hx.right;rw[jq (s:=dE (dE s (0+1+1+1) (1+0+0+0) (0+0+0+0) (0+0+0+0)) (Dz x).length 0 0 0) h0 h59 aL,db,db];refine⟨⟨PF.symm,rfl,r1,Fi⟩,?_⟩;simp only[aW,aN,bd];congr 1;omega
theorem Yk:∀(l:List Ac) (f:Nat) (acc:List Ac) {s:Sx},s.fc=0->l.length<f->(l.length:Int)<=s.a->s.a<=1000->l.all gF=true->(∀a,a∈l->Dm a)->∀{A:List K3},At ts s.i (zL l++iH 125::A)->
  ∃r,n8 ts f acc s=(acc++r,dE s ((zL l).length+1) l.length 0 0)/\jE (AcE false) l r
 | [],f,acc,s,h0,hf,ha,hb,h,hn,A,cY=>by
  obtain⟨f,rfl⟩:∃g,f=g+1:=⟨f-1,ac2⟩
  have cY:At ts s.i (iH 125::A):=cY;rw[n8,aQ (λe=>e h0),dI h0 cY,aV aL,iX];exact⟨[],by rw[bD];rfl,B0⟩
 | a::l,f,acc,s,h0,hf,ha,hb,h,hn,A,cY=>by
  rw[aW]at hf ha;obtain⟨f,rfl⟩:∃g,f=g+1:=⟨f-1,aE⟩
  rw[kl,aP]at h;have cY:At ts s.i ((IB a++zL l)++iH 125::A):=cY;rw[bf]at cY;have hw:cP ts s [[125]]=0:=by
   have:∃w B,IB a++(zL l++iH 125::A)=(2,w,0)::B/\Pe (2,w,0) [[125]]=0:=by
    unfold IB;split
    ·exact⟨_,_,rfl,aL⟩
    split
    ·exact⟨_,_,rfl,aL⟩
    exact⟨_,_,rfl,aL⟩
   obtain⟨w,B,e1,e2⟩:=this;have OZ:=cY;rw[e1]at OZ;rw[dI h0 OZ,e2]
  obtain⟨r1,r2⟩:=agJ hE h0 aE hb h.1 (hn a aM) cY;rw[n8,aQ (λe=>e h0),hw,aQ (λe=>e rfl),r2];obtain⟨r,e1,e2⟩:=Yk l f (acc++[(ph ts s).1]) (s:=dE s (IB a).length 1 0 0) h0 aE aan aan h.2 (λb hb=>hn b (by simp[hb])) cY.right;refine⟨(ph ts s).1::r,?_,V4 r1 e2⟩;rw[e1,db,bf];simp only[zL,aN,aW,eM];congr 2<;>omega
theorem HL:∀l:List Ac,l.length<=(zL l).length
 | []=>aY _
 | a::l=>by
  have h1:=HL l;have h2:1<=(IB a).length:=by
   unfold IB;split<;>simp
  rw[zL,aN,aW];omega
theorem At.inr{s:Sx}{L:List K3}{q:K3}{A:List K3}(cY:At ts s.i (L++q::A))(hq:q.1≠5):s.i+L.length<ts.length:=Yj (by rw[cY.right.head.1];exact hq)
theorem aas{s:Sx}(h0:s.fc=0){l:List Ac}(ha:(l.length:Int)<=s.a)(hb:s.a<=1000)(h:l.all gF=true)(hn:∀a,a∈l->Dm a){A:List K3}(cY:At ts s.i (xU l++A)):
  ∃r,ir ts s=(r,dE s (xU l).length l.length 0 0)/\jE (AcE false) l r:=by
 unfold ir;have cY:At ts s.i (iH 123::((zL l++[iH 125])++A)):=cY;rw[bf]at cY;have h1:=cY.tail;have bT:=At.inr hE (s:=dE s 1 0 0 0) (L:=zL l) h1 aL;rw[jq h0 cY aL];have:=HL (ts:=ts) hE l;obtain⟨r,e1,e2⟩:=Yk hE l (ts.length+1) [] (s:=dE s 1 0 0 0) h0 aE aan aan h hn h1;refine⟨r,?_,e2⟩;rw[e1,db,bP];unfold xU;simp only[aW,aN,bd];congr 2
 ·omega
 omega
theorem agK:∀(l:List (aH)) (f:Nat) (acc:List (aH)) {s:Sx},s.fc=0->l.length<f->∀{A:List K3},At ts s.i (JK l++iH 59::A)->qX ts f [44] acc s=(acc++l,dE s (JK l).length 0 0 0)
 | [],f,acc,s,h0,hf,A,cY=>by
  obtain⟨f,rfl⟩:∃g,f=g+1:=⟨f-1,ac2⟩
  have cY:At ts s.i (iH 59::A):=cY;rw[qX,dI h0 cY,aV aL,bD];show(acc,s)=(acc,dE s 0 0 0 0)
  rw[aar]
 | x::l,f,acc,s,h0,hf,A,cY=>by
  rw[aW]at hf;obtain⟨f,rfl⟩:∃g,f=g+1:=⟨f-1,aE⟩
  have cY:At ts s.i (iH 44::(1,x,0)::(JK l++iH 59::A)):=cY;rw[qX,dI h0 cY,aQ aL,iX,vf (s:=dE s 1 0 0 0) h0 cY.tail];dsimp only;rw[db,agK l f (acc++[x]) (s:=dE s (1+1) (0+0) (0+0) (0+0)) h0 aE cY.tail.tail,db,bf];simp only[JK,aW,eM];congr 2;omega
theorem MD:∀l:List (aH),l.length<=(JK l).length
 | []=>aY _
 | x::l=>by
  have:=MD l;rw[JK,aW,aW,aW];omega
theorem ME{s:Sx}(h0:s.fc=0)(m m0:Mv){A:List K3}(cY:At ts s.i ((JL m++[iH 59])++A))(h0t:m0.tg=[]):Bt ts m0 s=({m0 with tg:=m.tg},dE s (JL m++[iH 59]).length 0 0 0):=by
 unfold Bt;rw[bf]at cY;have qD:=cY;unfold JL at cY⊢;cases hm:m.tg with
 | nil=>
  rw[hm]at cY;have cY:At ts s.i (iH 59::A):=cY;rw[qX,dI h0 cY,aV aL];dsimp only;rw[jq h0 cY aL];rfl
 | cons x l=>
  rw[hm]at cY;have cY:At ts s.i (kTo::(1,x,0)::(JK l++iH 59::A)):=cY;have bT:=At.inr hE (s:=dE s 2 0 0 0) (L:=JK l) cY.tail.tail aL;have:=MD (ts:=ts) hE l;rw[qX,dI h0 cY,aQ aL,iX,vf (s:=dE s 1 0 0 0) h0 cY.tail];dsimp only;rw[db,agK hE l ts.length ([]++[x]) (s:=dE s (1+1) (0+0) (0+0) (0+0)) h0 aE cY.tail.tail,db];dsimp only;rw[jq (s:=dE s (1+1+(JK l).length) (0+0+0) (0+0+0) (0+0+0)) h0 (q:=iH 59) (A:=A) (by
   have:=cY.tail.tail.right;have e:s.i+1+1+(JK l).length=(dE s (1+1+(JK l).length) (0+0+0) (0+0+0) (0+0+0)).i:=aan
   rw[<-e];exact this) aL,db]
  simp only[aW,aN,bd,bP,eM];congr 2;omega
theorem MF{s:Sx}(h0:s.fc=0)(m m0:Mv)(ha:(m.acts.length:Int)<=s.a)(hb:s.a<=1000)(h:m.acts.all gF=true)(hn:∀x,x∈m.acts->Dm x){A:List K3}(cY:At ts s.i (((if m.acts=[]then[]else xU m.acts)++(JL m++[iH 59]))++A))(h0t:m0.tg=[])(h0a:m0.acts=[]):
  ∃r,za ts m0 s=({m0 with acts:=r,tg:=m.tg},dE s ((if m.acts=[]then[]else xU m.acts)++(JL m++[iH 59])).length m.acts.length 0 0)/\jE (AcE false) m.acts r:=by
 obtain⟨k0,v0,t0,d0,x0,ac0,g0,p0⟩:=m0;dsimp only at h0t h0a;subst h0t h0a;unfold za;by_cases he:m.acts=[]
 ·rw[aV he]at cY⊢;have hw:cP ts s [[123]]=0:=by
   have qD:=cY;unfold JL at qD;cases hm:m.tg with
   | nil=>
    rw[hm]at qD;rw[dI h0 (q:=iH 59) (A:=A) qD];decide
   | cons x l=>
    rw[hm]at qD;rw[dI h0 (q:=kTo) (A:=_) qD];decide
  rw[hw,aV rfl,ME hE h0 m _ cY rfl];refine⟨[],?_,by rw[he];exact B0⟩;rw[he];rfl
 rw[aQ he]at cY⊢;rw[bf]at cY;have hw:cP ts s [[123]]=1:=by
  rw[dI h0 (q:=iH 123) cY];decide
 obtain⟨r,e1,e2⟩:=aas hE h0 ha hb h hn cY;rw[hw,aQ aL,e1];dsimp only;rw[ME hE (s:=dE s (xU m.acts).length m.acts.length 0 0) h0 m _ cY.right rfl,db];refine⟨r,?_,e2⟩;simp only[aN,fk]
theorem Fj{s:Sx}(h0:s.fc=0)(m m0:Mv)(ha:(m.acts.length:Int)<=s.a)(hb:s.a<=1000)(h:kO m=true)(hn:PA m){A:List K3}(cY:At ts s.i ((Yg m++((if m.acts=[]then[]else xU m.acts)++(JL m++[iH 59])))++A))
  (h0t:m0.tg=[]) (h0a:m0.acts=[]) (h0g:m0.gd=false) (h0x:m0.g=wF):
  ∃g r,pi ts m0 s=({m0 with gd:=m.gd,g:=g,acts:=r,tg:=m.tg},dE s (Yg m++((if m.acts=[]then[]else xU m.acts)++(JL m++[iH 59]))).length m.acts.length 0 0)/\T7 false m.g g/\jE (AcE false) m.acts r:=by
 unfold kO at h;simp only[aP]at h;obtain⟨⟨⟨⟨⟨_,_⟩,h3⟩,h4⟩,_⟩,_⟩:=h;obtain⟨k0,v0,t0,d0,x0,ac0,g0,p0⟩:=m0;dsimp only at h0t h0a h0g h0x;subst h0t h0a h0g h0x;unfold pi;unfold Yg at cY⊢;cases hg:m.gd with
 | false=>
  rw[hg]at h3 cY;simp only[iv,jf,bP]at h3 cY⊢;have hw:cP ts s [[91]]=0:=by
   have qD:=cY;by_cases he:m.acts=[]
   ·rw[aV he]at qD;unfold JL at qD;cases hm:m.tg with
    | nil=>
     rw[hm]at qD;rw[dI h0 (q:=iH 59) (A:=A) qD];decide
    | cons x l=>
     rw[hm]at qD;rw[dI h0 (q:=kTo) (A:=_) qD];decide
   rw[aQ he]at qD;rw[dI h0 (q:=iH 123) (A:=_) qD];decide
  obtain⟨r,e1,e2⟩:=MF hE h0 m ⟨k0,v0,t0,false,wF,[],[],p0⟩ ha hb h4 hn.a cY rfl rfl;rw[hw,aV rfl,e1];exact⟨wF,r,rfl,DA h3,e2⟩
 | true=>
  rw[hg]at h3 cY;simp only[wH]at h3 cY⊢;have cY:At ts s.i (iH 91::(Dz m.g++iH 93::(((if m.acts=[]then[]else xU m.acts)++(JL m++[iH 59]))++A))):=by simpa using cY
  have hw:cP ts s [[91]]=1:=by
   rw[dI h0 cY];decide
  obtain⟨r1,r2⟩:=R6 hE (s:=dE s 1 0 0 0) h0 h3 hn.g (q:=iH 93) cY.tail ⟨rfl,.inr rfl⟩;rw[hw,aQ aL,iX,r2,db,jq (s:=dE s (1+(Dz m.g).length) (0+0) (0+0) (0+0)) h0 (q:=iH 93) (by
   have:=cY.tail.right;have e:s.i+1+(Dz m.g).length=(dE s (1+(Dz m.g).length) (0+0) (0+0) (0+0)).i:=aan
   rw[<-e];exact this) aL,db]
  obtain⟨r,e1,e2⟩:=MF hE (s:=dE s (1+(Dz m.g).length+1) (0+0+0) (0+0+0) (0+0+0)) h0 m ⟨k0,v0,t0,true,(nZ ts (dE s 1 0 0 0)).1,[],[],p0⟩ aan aan h4 hn.a (by
   have:=cY.tail.right.tail;have e:s.i+1+(Dz m.g).length+1=(dE s (1+(Dz m.g).length+1) (0+0+0) (0+0+0) (0+0+0)).i:=aan
   rw[<-e];exact this) rfl rfl
  rw[e1,db];refine⟨_,r,?_,r1,e2⟩;congr 2<;>(try simp only[aW,aN,bd])<;>omega
theorem V6{s:Sx}(h0:s.fc=0)(ha:1<=s.m)(hb:s.m<=1000):rV ts s=dE s 0 0 1 0:=by
 unfold rV dE;rw[aQ aE,xD ha hb];simp
theorem ame{s:Sx}(h0:s.fc=0){m:Mv}(ha:(m.acts.length:Int)<=s.a)(hb:s.a<=1000)(zM:1<=s.m)(vj:s.m<=1000)(h:kO m=true)(hn:PA m){A:List K3}(cY:At ts s.i (MB m++A)):
  cP ts s [zH,gD,im]=m.k.toNat/\1<=m.k/\MvE false m (mE ts m.k s).1/\(mE ts m.k s).2=dE s (MB m).length m.acts.length 1 0:=by
 have h':=h;unfold kO at h';simp only[aP]at h';obtain⟨⟨⟨⟨⟨h1,h2⟩,_⟩,_⟩,_⟩,h6⟩:=h';have h1:=aR h1;have h6:=aR h6;unfold MB at cY⊢;rw[bf]at cY;unfold mE;rw[V6 (ts:=ts) hE h0 zM vj,aQ (λe=>e h0)];generalize hR:Yg m++((if m.acts=[]then[]else xU m.acts)++(JL m++[iH 59]))=R at*
 unfold hdK at cY⊢;by_cases k1:m.k=1
 ·rw[aV k1]at cY h2⊢;rw[aV k1];have cY:At ts s.i ((2,zH,0)::(1,m.ev,0)::(R++A)):=cY;refine⟨by rw[dI h0 cY,k1];decide,aE,?_⟩;rw[iX,db,vf (s:=dE s (0+1) (0+0) (1+0) (0+0)) h0 cY.tail];dsimp only;rw[db];obtain⟨g,r,e1,e2,e3⟩:=Fj hE (s:=dE s (0+1+1) (0+0+0) (1+0+0) (0+0+0)) h0 m {QL m.k (tk ts s.i).a with ev:=m.ev} aan aan h hn (by rw[hR];exact cY.tail.tail) rfl rfl rfl rfl;rw[e1,hR,db];refine⟨⟨rfl,rfl,?_,rfl,e2,e3,rfl,Fi⟩,?_⟩
  ·show m.wt=0;omega
  dsimp only;congr 1<;>(try simp only[aW,aN,bd])<;>omega
 rw[aQ k1]at cY h2⊢;rw[aQ k1];have h2:=aR h2;by_cases k3:m.k=3
 ·rw[aV k3]at cY⊢;rw[aV k3];have cY:At ts s.i ((2,im,0)::(3,[],m.wt)::(R++A)):=cY;refine⟨by rw[dI h0 cY,k3];decide,aE,?_⟩;obtain⟨c1,c2,c3⟩:=ve (s:=dE s (0+1) (0+0) (1+0) (0+0)) (k:=3) h0 cY.tail rfl;rw[iX,db,c2,c3];dsimp only;rw[db];obtain⟨g,r,e1,e2,e3⟩:=Fj hE (s:=dE s (0+1+1) (0+0+0) (1+0+0) (0+0+0)) h0 m {QL m.k (tk ts s.i).a with wt:=m.wt} aan aan h hn (by rw[hR];exact cY.tail.tail) rfl rfl rfl rfl;rw[e1,hR,db];refine⟨⟨rfl,h2,rfl,rfl,e2,e3,rfl,Fi⟩,?_⟩;dsimp only;congr 1<;>(try simp only[aW,aN,bd])<;>omega
 rw[aQ k3]at cY⊢;rw[aQ k3];have cY:At ts s.i ((2,gD,0)::(R++A)):=cY;have k2:m.k=2:=aE
 refine⟨by rw[dI h0 cY,k2];decide,aE,?_⟩;rw[iX,db];obtain⟨g,r,e1,e2,e3⟩:=Fj hE (s:=dE s (0+1) (0+0) (1+0) (0+0)) h0 m (QL m.k (tk ts s.i).a) aan aan h hn (by rw[hR];exact cY.tail) rfl rfl rfl rfl;rw[e1,hR,db];refine⟨⟨rfl,h2,?_,rfl,e2,e3,rfl,Fi⟩,?_⟩
 ·show m.wt=0;omega
 dsimp only;congr 1<;>(try simp only[aW,aN,bd])<;>omega
end
def R7(x y:Nd):Prop:=∀d,XN false d x y
theorem Fk{b b':Nb}{l l':List Nd}(h:NbE false b b')(k:jE R7 l l'):R7 (.mk b l) (.mk b' l'):=λd=>by
 cases d with
 | zero=>trivial
 | succ d=>exact⟨h,k.1,λi x y hx hy=>k.2 i x y hx hy d⟩
def zi(q:K3):Prop:=Pe q [zH,gD,im]=0/\Pe q [fb,io,iq]=0/\q.1≠5
def uj(l:List Mv):Nat:=(l.map λm=>m.acts.length).sum
theorem aat(b:Nb):xR b=b.en.length+(b.lv.length+uj b.mv):=by unfold xR uj;omega
section
variable {ts:List Tk} (hE:qm ts)
include hE
theorem aau{s:Sx}(h0:s.fc=0)(n:Nb){h:Cv}(hi:h.i=false){x:aH}{A:List K3}(cY:At ts s.i ((2,fb,0)::(1,x,0)::iH 59::A)):dG ts n h s=(true,{n with ini:=x},{h with i:=true},dE s 3 0 0 0):=by
 unfold dG;have w1:cP ts s [zH,gD,im]=0:=acb
 have w2:cP ts s [fb,io,iq]=1:=acb
 rw[w1,aQ (λe=>e rfl),w2];show(if h.i=true then(false,n,h,jc ts s)else(true,{n with ini:=(ji ts (dq s)).1},{h with i:=true},eH ts (ji ts (dq s)).2 [59]))=_;rw[hi,aQ aL,iX,vf (s:=dE s 1 0 0 0) h0 cY.tail];dsimp only;rw[jq (s:=dE (dE s 1 0 0 0) 1 0 0 0) h0 cY.tail.tail aL,db,db]
theorem agL{s:Sx}(h0:s.fc=0)(n:Nb){h:Cv}(hi:h.e=false){l:List Ac}(ha:(l.length:Int)<=s.a)(hb:s.a<=1000)(hl:l.all gF=true)(hn:∀a,a∈l->Dm a){A:List K3}(cY:At ts s.i ((2,io,0)::(xU l++A))):
  ∃r,dG ts n h s=(true,{n with en:=r},{h with e:=true},dE s ((xU l).length+1) l.length 0 0)/\jE (AcE false) l r:=by
 unfold dG;have w1:cP ts s [zH,gD,im]=0:=acb
 have w2:cP ts s [fb,io,iq]=2:=acb
 rw[w1,aQ (λe=>e rfl),w2];obtain⟨r,e1,e2⟩:=aas hE (s:=dE s 1 0 0 0) h0 aan aan hl hn cY.tail
 suffices hh:(if h.e=true then(false,n,h,jc ts s)else(true,{n with en:=(ir ts (dq s)).1},{h with e:=true},(ir ts (dq s)).2))=(true,{n with en:=r},{h with e:=true},dE s ((xU l).length+1) l.length 0 0)from⟨r,hh,e2⟩
 rw[hi,aQ aL,iX,e1];dsimp only;rw[db];congr 4<;>omega
theorem agM{s:Sx}(h0:s.fc=0)(n:Nb){h:Cv}(hi:h.l=false){l:List Ac}(ha:(l.length:Int)<=s.a)(hb:s.a<=1000)(hl:l.all gF=true)(hn:∀a,a∈l->Dm a){A:List K3}(cY:At ts s.i ((2,iq,0)::(xU l++A))):
  ∃r,dG ts n h s=(true,{n with lv:=r},{h with l:=true},dE s ((xU l).length+1) l.length 0 0)/\jE (AcE false) l r:=by
 unfold dG;have w1:cP ts s [zH,gD,im]=0:=acb
 have w2:cP ts s [fb,io,iq]=3:=acb
 rw[w1,aQ (λe=>e rfl),w2];obtain⟨r,e1,e2⟩:=aas hE (s:=dE s 1 0 0 0) h0 aan aan hl hn cY.tail
 suffices hh:(if h.l=true then(false,n,h,jc ts s)else(true,{n with lv:=(ir ts (dq s)).1},{h with l:=true},(ir ts (dq s)).2))=(true,{n with lv:=r},{h with l:=true},dE s ((xU l).length+1) l.length 0 0)from⟨r,hh,e2⟩
 rw[hi,aQ aL,iX,e1];dsimp only;rw[db];congr 4<;>omega
theorem agN{s:Sx}(h0:s.fc=0)(n:Nb)(h:Cv){m:Mv}(ha:(m.acts.length:Int)<=s.a)(hb:s.a<=1000)(zM:1<=s.m)(vj:s.m<=1000)(hm:kO m=true)(hn:PA m){A:List K3}(cY:At ts s.i (MB m++A)):
  ∃r,dG ts n h s=(true,{n with mv:=n.mv++[r]},h,dE s (MB m).length m.acts.length 1 0)/\MvE false m r:=by
 obtain⟨h1,h2,h3,h4⟩:=ame hE h0 ha hb zM vj hm hn cY;unfold dG;rw[h1,aV aE,fy aE,h4];exact⟨_,rfl,h3⟩
theorem V7{s:Sx}(h0:s.fc=0)(n:Nb)(h:Cv){q:K3}{A:List K3}(hq:zi q)(cY:At ts s.i (q::A)):dG ts n h s=(false,n,h,s):=by
 unfold dG;rw[dI h0 cY,dI h0 cY,hq.1,hq.2.1,aQ (λe=>e rfl)];rfl
theorem xE{s:Sx}(h0:s.fc=0){f:Nat}{n n':Nb}{h h':Cv}{s':Sx}(hc:dG ts n h s=(true,n',h',s')):gq ts (f+1) n h s=gq ts f n' h' s':=by
 rw[gq,aQ (λe=>e h0),hc];rfl
theorem R8:∀(l:List Mv) (f:Nat) (n:Nb) (h:Cv) {s:Sx},s.fc=0->l.length<f->(uj l:Int)<=s.a->s.a<=1000->(l.length:Int)<=s.m->s.m<=1000->l.all kO=true->(∀m,m∈l->PA m)->∀{q:K3} {A:List K3},zi q->At ts s.i (wv l++q::A)->
  ∃r,gq ts f n h s=({n with mv:=n.mv++r},dE s (wv l).length (uj l) l.length 0)/\jE (MvE false) l r
 | [],f,n,h,s,h0,hf,ha,hb,zM,vj,hl,hn,q,A,hq,cY=>by
  obtain⟨f,rfl⟩:∃g,f=g+1:=⟨f-1,ac2⟩
  have cY:At ts s.i (q::A):=cY;rw[gq,aQ (λe=>e h0),V7 hE h0 n h hq cY];refine⟨[],?_,B0⟩;rw[bD];show(n,s)=(n,dE s 0 0 0 0)
  rw[aar]
 | m::l,f,n,h,s,h0,hf,ha,hb,zM,vj,hl,hn,q,A,hq,cY=>by
  rw[aW]at hf zM;obtain⟨f,rfl⟩:∃g,f=g+1:=⟨f-1,aE⟩
  rw[kl,aP]at hl;have es:uj (m::l)=m.acts.length+uj l:=by unfold uj;rw[bK,cE]
  rw[es]at ha;have cY:At ts s.i ((MB m++wv l)++q::A):=cY;rw[bf]at cY;obtain⟨x,e1,e2⟩:=agN hE h0 n h aE hb aE vj hl.1 (hn m aM) cY;rw[xE hE h0 e1];obtain⟨r,e3,e4⟩:=R8 l f {n with mv:=n.mv++[x]} h (s:=dE s (MB m).length m.acts.length 1 0) h0 aE aan aan aan aan hl.2 (λy hy=>hn y agD) hq cY.right;refine⟨x::r,?_,V4 e2 e4⟩;rw[e3,db,es];simp only[wv,aN,aW,bf,eM];congr 2;omega
theorem HM:∀l:List Mv,l.length<=(wv l).length
 | []=>aY _
 | m::l=>by
  have h1:=HM l;have h2:1<=(MB m).length:=by
   unfold MB hdK;rw[aN];split
   ·simp only[aW];omega
   split<;>(simp only[aW];omega)
  rw[wv,aN,aW];omega
theorem Yl{f:Nat}{n:Nb}{h:Cv}{s:Sx}{b:Nb}(h0:s.fc=0)(hf:(Oc b).length+b.mv.length<f)(ha:(b.lv.length+uj b.mv:Nat)<=s.a)(hb:s.a<=1000)(zM:(b.mv.length:Int)<=s.m)(vj:s.m<=1000)(hs:nbS b)(hn:YO b){q:K3}{A:List K3}(hq:zi q)(cY:At ts s.i (Oc b++(wv b.mv++q::A)))(hl:h.l=false)(uD:n.lv=[]):
  ∃r1 r2,gq ts f n h s=({n with lv:=r1,mv:=n.mv++r2},dE s ((Oc b).length+(wv b.mv).length) (b.lv.length+uj b.mv) b.mv.length 0)/\jE (AcE false) b.lv r1/\jE (MvE false) b.mv r2:=by
 obtain⟨nk,nn,ni,nd,ne,nl,nm,na⟩:=n;dsimp only at uD;subst uD;unfold Oc at cY hf⊢;by_cases he:b.lv=[]
 ·rw[aV he]at cY hf⊢;rw[bd]at hf;obtain⟨r,e1,e2⟩:=R8 hE b.mv f _ h h0 aE aE hb zM vj hs.mv hn.mv hq cY;refine⟨[],r,?_,by rw[he];exact B0,e2⟩;rw[e1,he];simp only[bd,bM]
 rw[aQ he]at cY hf⊢;simp only[aW]at hf;obtain⟨f,rfl⟩:∃g,f=g+1:=⟨f-1,aE⟩
 obtain⟨r1,e1,e2⟩:=agM hE h0 _ hl aE hb hs.lv hn.lv cY;rw[xE hE h0 e1];obtain⟨r2,e3,e4⟩:=R8 hE b.mv f _ _ (s:=dE s ((xU b.lv).length+1) b.lv.length 0 0) h0 aE aan aan aan aan hs.mv hn.mv hq (by
  have h5:=cY.tail.right;have e:s.i+1+(xU b.lv).length=(dE s ((xU b.lv).length+1) b.lv.length 0 0).i:=aan
  rw[<-e];exact h5)
 refine⟨r1,r2,?_,e2,e4⟩;rw[e3,db,aW];congr 2;omega
theorem Ym{f:Nat}{n:Nb}{h:Cv}{s:Sx}{b:Nb}(h0:s.fc=0)(hf:(Uc b).length+((Oc b).length+b.mv.length)<f)(ha:(b.en.length+(b.lv.length+uj b.mv):Nat)<=s.a)(hb:s.a<=1000)(zM:(b.mv.length:Int)<=s.m)(vj:s.m<=1000)(hs:nbS b)(hn:YO b){q:K3}{A:List K3}(hq:zi q)(cY:At ts s.i (Uc b++(Oc b++(wv b.mv++q::A))))(he0:h.e=false)(hl:h.l=false)(zv:n.en=[])(uD:n.lv=[]):
  ∃r0 r1 r2,gq ts f n h s=({n with en:=r0,lv:=r1,mv:=n.mv++r2},dE s ((Uc b).length+((Oc b).length+(wv b.mv).length)) (b.en.length+(b.lv.length+uj b.mv)) b.mv.length 0)/\jE (AcE false) b.en r0/\jE (AcE false) b.lv r1/\jE (MvE false) b.mv r2:=by
 obtain⟨nk,nn,ni,nd,ne,nl,nm,na⟩:=n;dsimp only at uD zv;subst uD zv;unfold Uc at cY hf⊢;by_cases he:b.en=[]
 ·rw[aV he]at cY hf⊢;rw[bd]at hf;obtain⟨r1,r2,e1,e2,e3⟩:=Yl hE (f:=f) (h:=h) (n:=⟨nk,nn,ni,nd,[],[],nm,na⟩) h0 aE aE hb zM vj hs hn hq cY hl rfl;refine⟨[],r1,r2,?_,by rw[he];exact B0,e2,e3⟩;rw[e1,he];simp only[bd,bM]
 rw[aQ he]at cY hf⊢;simp only[aW]at hf;obtain⟨f,rfl⟩:∃g,f=g+1:=⟨f-1,aE⟩
 obtain⟨r0,e1,e2⟩:=agL hE h0 _ he0 aE hb hs.en hn.en cY;rw[xE hE h0 e1];obtain⟨r1,r2,e3,e4,e5⟩:=Yl hE (n:=⟨nk,nn,ni,nd,r0,[],nm,na⟩) (h:={h with e:=true}) (s:=dE s ((xU b.en).length+1) b.en.length 0 0) h0 (f:=f) aE aan aan aan aan hs hn hq (by
  have h5:=cY.tail.right;have e:s.i+1+(xU b.en).length=(dE s ((xU b.en).length+1) b.en.length 0 0).i:=aan
  rw[<-e];exact h5) hl rfl
 refine⟨r0,r1,r2,?_,e2,e4,e5⟩;rw[e3,db,aW];congr 2<;>omega
theorem amf{f:Nat}{n:Nb}{s:Sx}{b:Nb}(h0:s.fc=0)(hf:(JM b).length+((Uc b).length+((Oc b).length+b.mv.length))<f)(ha:(xR b:Int)<=s.a)(hb:s.a<=1000)(zM:(b.mv.length:Int)<=s.m)(vj:s.m<=1000)(hs:nbS b)(hn:YO b){q:K3}{A:List K3}(hq:zi q)(cY:At ts s.i (yC b++q::A))(W6:n.ini=[])(zv:n.en=[])(uD:n.lv=[])(oQ:n.mv=[]):
  ∃r0 r1 r2,gq ts f n ⟨false,false,false⟩ s=({n with ini:=b.ini,en:=r0,lv:=r1,mv:=r2},dE s (yC b).length (xR b) b.mv.length 0)/\jE (AcE false) b.en r0/\jE (AcE false) b.lv r1/\jE (MvE false) b.mv r2:=by
 rw[aat]at ha⊢;obtain⟨nk,nn,ni,nd,ne,nl,nm,na⟩:=n;dsimp only at W6 uD zv oQ;subst W6 uD zv oQ;unfold yC at cY⊢;have cY:At ts s.i (JM b++(Uc b++(Oc b++(wv b.mv++q::A)))):=by simpa[bf]using cY
 simp only[aN];unfold JM at cY hf⊢;by_cases he:b.ini=[]
 ·rw[aV he]at cY hf⊢;rw[bd]at hf;obtain⟨r0,r1,r2,e1,e2⟩:=Ym hE (f:=f) (n:=⟨nk,nn,[],nd,[],[],[],na⟩) (h:=⟨false,false,false⟩) h0 aE ha hb zM vj hs hn hq cY rfl rfl rfl rfl;refine⟨r0,r1,r2,?_,e2⟩;rw[e1,he];simp only[bd,bM,bP]
 rw[aQ he]at cY hf⊢;simp only[aW]at hf;obtain⟨f,rfl⟩:∃g,f=g+1:=⟨f-1,aE⟩
 have e1:=aau hE h0 ⟨nk,nn,[],nd,[],[],[],na⟩ (h:=⟨false,false,false⟩) rfl cY;rw[xE hE h0 e1];obtain⟨r0,r1,r2,e3,e4⟩:=Ym hE (n:=⟨nk,nn,b.ini,nd,[],[],[],na⟩) (h:=⟨true,false,false⟩) (s:=dE s 3 0 0 0) h0 (f:=f) aE aan aan aan aan hs hn hq cY.tail.tail.tail rfl rfl rfl rfl;refine⟨r0,r1,r2,?_,e4⟩;rw[e3,db];simp only[aW,bd,bP];congr 2<;>omega
theorem B1{s:Sx}(h0:s.fc=0)(k:Int){nm:aH}{A:List K3}(cY:At ts s.i ((1,nm,0)::A))(hn1:1<=s.n)(hn2:s.n<=1000)(hd:s.d≠0):∃a,eX ts k s=({XK with k:=k,nm:=nm,a:=a},dE s 1 0 0 1):=by
 have hu:CG ts s=dE s 0 0 0 1:=by
  unfold CG dE;rw[aQ aE,xD hn1 hn2];simp
 have hr:pZ ts s=dE s 0 0 0 1:=by
  unfold pZ;rw[aV cY.head.1,hu,aQ (show ¬(dE s 0 0 0 1).d=0 from hd)]
 obtain⟨c1,c2,c3⟩:=ve (s:=dE s 0 0 0 1) (k:=1) h0 (q:=(1,nm,0)) (A:=A) cY rfl;refine⟨(ga ts (dE s 0 0 0 1) 1).1.a,?_⟩;unfold eX;rw[hr,c1,c3,db]
theorem aav{k:Int}(h1:1<=k)(h2:k<=4):Pe (2,kW k,0) pj=k.toNat:=by
 have:k=1∨k=2∨k=3∨k=4:=aE
 rcases this with rfl | rfl | rfl | rfl<;>decide
theorem Fl{d:Nat}{b:Nb}{l:List Nd}(h:jU d (.mk b l)=true):1<=b.k/\b.k<=4:=by
 rw[jU]at h;simp only[aP]at h;cases hh:gK b.k with
 | true=>
  have:=aR hh;omega
 | false=>
  have:=(R4 h.1.2 hh).1;omega
theorem xF(x:Nd):∃B,Od x=(2,kW x.b.k,0)::B:=by
 obtain⟨b,l⟩:=x;rw[Od];split
 ·exact⟨_,rfl⟩
 exact⟨_,rfl⟩
abbrev R9(ts:List Tk)(f:Nat):Prop:=∀(x:Nd) (deep:Nat) {s:Sx} {A:List K3},jU deep x=true->zf x->s.fc=0->s.d=12-(deep:Int)->13<=deep+f->(jk x:Int)<=s.n->s.n<=1000->(uU x:Int)<=s.a->s.a<=1000->(uT x:Int)<=s.m->s.m<=1000->At ts s.i ((Od x).tail++A)->
 ∃r,ki ts f x.b.k s=(r,dE s ((Od x).length-1) (uU x) (uT x) (jk x))/\R7 x r
theorem Sa{N:Nat}(hN:R9 ts N):∀(l:List Nd) (f:Nat) (acc:List Nd) (deep:Nat) {s:Sx},iB deep l=true->vB l->s.fc=0->s.d=12-(deep:Int)->13<=deep+N->l.length<f->(dD l:Int)<=s.n->s.n<=1000->(lg l:Int)<=s.a->s.a<=1000->(me l:Int)<=s.m->s.m<=1000->∀{A:List K3},At ts s.i (kQ l++iH 125::A)->
  ∃r,sH ts (ki ts N) f acc s=(acc++r,dE s (kQ l).length (lg l) (me l) (dD l))/\jE R7 l r
 | [],f,acc,deep,s,h,hn,h0,hd,S1,hf,n1,n2,a1,a2,m1,m2,A,cY=>by
  obtain⟨f,rfl⟩:∃g,f=g+1:=⟨f-1,ac2⟩
  rw[kQ]at cY⊢;have cY:At ts s.i (iH 125::A):=cY;rw[sH,dI h0 cY,aV aL,lg,me,dD];exact⟨[],by rw[bD,bd,aar],B0⟩
 | x::l,f,acc,deep,s,h,hn,h0,hd,S1,hf,n1,n2,a1,a2,m1,m2,A,cY=>by
  rw[aW]at hf;obtain⟨f,rfl⟩:∃g,f=g+1:=⟨f-1,aE⟩
  rw[iB,aP]at h;rw[vB]at hn;rw[dD]at n1⊢;rw[lg]at a1⊢;rw[me]at m1⊢;rw[kQ]at cY⊢;rw[bf]at cY;obtain⟨B,hB⟩:=xF (ts:=ts) hE x;have hk:=Fl (ts:=ts) hE (d:=deep) (b:=x.b) (l:=x.kids) (by obtain⟨b,k⟩:=x;exact h.1);have hw:cP ts s pj=x.b.k.toNat:=by
   have qD:=cY;rw[hB]at qD;rw[dI h0 qD];exact aav (ts:=ts) hE hk.1 hk.2
  have PF:(x.b.k.toNat:Int)=x.b.k:=fy aE;have h1:At ts (dE s 1 0 0 0).i ((Od x).tail++(kQ l++iH 125::A)):=by
   have qD:=cY;rw[hB]at qD⊢;exact qD.tail
  have fi:1<=(Od x).length:=by rw[hB,aW];omega
  obtain⟨r,e1,e2⟩:=hN x deep (s:=dE s 1 0 0 0) h.1 hn.1 h0 hd S1 aan aan aan aan aan aan h1;rw[sH,hw,aQ aE,PF,iX,e1];dsimp only;rw[db];obtain⟨r2,e3,e4⟩:=Sa hN l f (acc++[r]) deep (s:=dE s (1+((Od x).length-1)) (0+uU x) (0+uT x) (0+jk x)) h.2 hn.2 h0 hd S1 aE aan aan aan aan aan aan (by
   have h5:=cY.right;have e:s.i+(Od x).length=(dE s (1+((Od x).length-1)) (0+uU x) (0+uT x) (0+jk x)).i:=aan
   rw[<-e];exact h5)
  refine⟨r::r2,?_,V4 e2 e4⟩;rw[e3,db,bf,aN];simp only[eM];congr 2<;>omega
theorem HN:∀l:List Nd,l.length<=(kQ l).length
 | []=>be _
 | x::l=>by
  have:=HN l;obtain⟨B,hB⟩:=xF (ts:=ts) hE x;rw[kQ,hB,aN,aW,aW];omega
theorem HO(l:List Nd)(h:∀x,x∈l->1<=x.b.k/\x.b.k<=4)(A:List K3):∃q B,kQ l++iH 125::A=q::B/\zi q:=by
 cases l with
 | nil=>
  rw[kQ];exact⟨_,_,rfl,by unfold zi;decide⟩
 | cons x l=>
  obtain⟨B,hB⟩:=xF (ts:=ts) hE x;rw[kQ,hB];refine⟨_,_,rfl,?_⟩;obtain⟨h1,h2⟩:=h x aM;have:x.b.k=1∨x.b.k=2∨x.b.k=3∨x.b.k=4:=aE
  unfold zi;rcases this with e | e | e | e<;>rw[e]<;>decide
theorem xG{d:Nat}:∀{l:List Nd},iB d l=true->∀x,x∈l->1<=x.b.k/\x.b.k<=4
 | [],_,x,hx=>by simp at hx
 | y::l,h,x,hx=>by
  rw[iB,aP]at h;rcases ba.1 hx with rfl | hx
  ·obtain⟨b,k⟩:=x;exact Fl (ts:=ts) hE h.1
  exact xG h.2 x hx
theorem Sb{N:Nat}(hN:R9 ts N){b:Nb}{l:List Nd}{deep:Nat}{s:Sx}{n:Nb}(hl:iB (deep+1) l=true)(W7:vB l)(hs:nbS b)(hn:YO b)(h0:s.fc=0)(hd:s.d=12-(deep:Int))(hdp:deep<12)(S1:13<=deep+1+N)
  (n1:(dD l:Int)<=s.n) (n2:s.n<=1000) (a1:(xR b+lg l:Nat)<=s.a) (a2:s.a<=1000) (m1:(b.mv.length+me l:Nat)<=s.m) (m2:s.m<=1000) {A:List K3} (cY:At ts s.i ((yC b++(kQ l++[iH 125]))++A)) (W6:n.ini=[]) (zv:n.en=[]) (uD:n.lv=[]) (oQ:n.mv=[]):
  ∃r0 r1 r2 r,pY ts (ki ts N) n s=(.mk {n with ini:=b.ini,en:=r0,lv:=r1,mv:=r2} r,dE s (yC b++(kQ l++[iH 125])).length (xR b+lg l) (b.mv.length+me l) (dD l))/\jE (AcE false) b.en r0/\jE (AcE false) b.lv r1/\jE (MvE false) b.mv r2/\jE R7 l r:=by
 have cY:At ts s.i (yC b++(kQ l++iH 125::A)):=by simpa[bf]using cY
 obtain⟨q,B,hq1,hq2⟩:=HO hE l (xG hE hl) A;have PD:=At.inr hE (s:=s) (L:=yC b++kQ l) (q:=iH 125) (A:=A) (by simpa[bf]using cY) aL;rw[aN]at PD;have Io:=HM (ts:=ts) hE b.mv;have F7:=HN (ts:=ts) hE l;have au8:(JM b).length+((Uc b).length+((Oc b).length+(wv b.mv).length))=(yC b).length:=by unfold yC;simp only[aN]
 have TU:yp s.d=s.d-1:=xD aE aE;have hi1:ZR (s.d-1)=s.d:=by
  unfold ZR;rw[eY aE aE];omega
 have TV:=cY;rw[hq1]at TV;obtain⟨r0,r1,r2,e1,e2,e3,e4⟩:=amf hE (f:=ts.length+1) (n:=n) (s:={s with d:=s.d-1}) h0 aE aa1 a2 aa1 m2 hs hn hq2 TV W6 zv uD oQ;obtain⟨r,e5,e6⟩:=Sa hE hN l (ts.length+1) [] (deep+1) (s:=dE {s with d:=s.d-1} (yC b).length (xR b) b.mv.length 0) hl W7 h0 aan S1 aE aan aan aan aan aan aan cY.right;refine⟨r0,r1,r2,r,?_,e2,e3,e4,e6⟩;unfold pY;dsimp only;rw[TU,e1];dsimp only;rw[e5];dsimp only;have e7:({dE (dE {s with d:=s.d-1} (yC b).length (xR b) b.mv.length 0) (kQ l).length (lg l) (me l) (dD l)with d:=ZR (dE (dE {s with d:=s.d-1} (yC b).length (xR b) b.mv.length 0) (kQ l).length (lg l) (me l) (dD l)).d}:Sx)=dE s ((yC b).length+(kQ l).length) (xR b+lg l) (b.mv.length+me l) (0+dD l):=by
  rw[db];unfold dE;dsimp only;rw[hi1]
 rw[e7,jq (s:=dE s ((yC b).length+(kQ l).length) (xR b+lg l) (b.mv.length+me l) (0+dD l)) h0 (q:=iH 125) (A:=A) (by
  have h5:=cY.right.right;rw[eo]at h5;exact h5) aL,db,bP]
 simp only[aN,aW,bd];congr 2<;>omega
theorem Sc:∀f,R9 ts f
 | 0=>by
  intro x deep s A h hn h0 hd S1;obtain⟨b,l⟩:=x;rw[jU]at h;simp only[aP]at h;have:=aR h.1.1;omega
 | f+1=>by
  intro x deep s A h hn h0 hd S1 n1 n2 a1 a2 m1 m2 cY;obtain⟨b,l⟩:=x;have hk:=Fl (ts:=ts) hE h;rw[jU]at h;rw[zf]at hn;rw[jk]at n1⊢;rw[uU]at a1⊢;rw[uT]at m1⊢;simp only[aP]at h;obtain⟨⟨h1,h2⟩,h3⟩:=h;have h1:=aR h1;show ∃r,ki ts (f+1) b.k s=_/\_;rw[Od]at cY⊢;rw[ki];cases hh:gK b.k with
  | true=>
   obtain⟨g1,g2,g3,g4,g5,g6,g7⟩:=agG h2 hh;have h34:=aR hh;have hl:l=[]:=bF g7;subst hl;rw[hh,aV rfl]at cY;have cY:At ts s.i ((1,b.nm,0)::kTo::(1,b.dft,0)::iH 59::A):=cY;obtain⟨a,e1⟩:=B1 hE h0 b.k cY aE n2 aE;rw[aV aE,aV rfl,e1];dsimp only;rw[jq (s:=dE s 1 0 0 1) h0 cY.tail aL,db,vf (s:=dE s (1+1) (0+0) (0+0) (1+0)) h0 cY.tail.tail];dsimp only;rw[jq (s:=dE (dE s (1+1) (0+0) (0+0) (1+0)) 1 0 0 0) h0 cY.tail.tail.tail aL,db,db];refine⟨_,?_,Fk (b':={XK with k:=b.k,nm:=b.nm,a:=a,dft:=b.dft}) ⟨rfl,rfl,g3,rfl,by rw[g4];exact B0,by rw[g5];exact B0,by rw[g6];exact B0,Fi⟩ B0⟩;congr 1;rw[lg,me,dD];have:xR b=0:=by unfold xR;rw[g4,g5,g6];rfl
   rw[this,g6];rfl
  | false=>
   obtain⟨g1,g2,hs⟩:=R4 h2 hh;rw[hh,aQ aL]at cY;have cY:At ts s.i ((1,b.nm,0)::iH 123::((yC b++(kQ l++[iH 125]))++A)):=cY;obtain⟨a,e1⟩:=B1 hE h0 b.k cY aE n2 aE;rw[aQ aE,aQ aL,e1];dsimp only;rw[jq (s:=dE s 1 0 0 1) h0 cY.tail aL,db];obtain⟨r0,r1,r2,r,e2,e3,e4,e5,e6⟩:=Sb hE (Sc f) (deep:=deep) (s:=dE s (1+1) (0+0) (0+0) (1+0)) (n:={XK with k:=b.k,nm:=b.nm,a:=a}) h3 hn.2 hs hn.1 h0 hd h1 aE aan aan aan aan aan aan cY.tail.tail rfl rfl rfl rfl;rw[e2,db];refine⟨_,?_,Fk (b':={XK with k:=b.k,nm:=b.nm,a:=a,ini:=b.ini,en:=r0,lv:=r1,mv:=r2}) ⟨rfl,rfl,rfl,g2,e3,e4,e5,Fi⟩ e6⟩;congr 2<;>(try simp only[aW])<;>omega
theorem agO{s:Sx}(h0:s.fc=0){v:Int}(hv:wE v)(hm:v≠ -9223372036854775808){q:K3}{A:List K3}(cY:At ts s.i (zK v++q::A)):
  ∃g:Nat,cP ts s [[45]]=g/\(if g=0 then(ga ts (if g=0 then s else dq s) 3).1.n else ar U (-(ga ts (if g=0 then s else dq s) 3).1.n))=v/\(ga ts (if g=0 then s else dq s) 3).2=dE s (zK v).length 0 0 0:=by
 obtain⟨h1,h2⟩:=hv;unfold zK at cY⊢;by_cases hn:v<0
 ·rw[aV hn]at cY⊢;have cY:At ts s.i (iH 45::(3,[], -v)::q::A):=cY;obtain⟨c1,c2,c3⟩:=ve (s:=dE s 1 0 0 0) (k:=3) h0 cY.tail rfl;refine⟨1,acb,?_,?_⟩
  ·rw[aQ aL,aQ aL,iX,c2];dsimp only;rw[Int.neg_neg,eY h1 h2]
  rw[aQ aL,iX,c3,db];rfl
 rw[aQ hn]at cY⊢;have cY:At ts s.i ((3,[],v)::q::A):=cY;obtain⟨c1,c2,c3⟩:=ve (s:=s) (k:=3) h0 cY rfl;exact⟨0,by rw[dI h0 cY];rfl,by rw[aV rfl,aV rfl,c2],by rw[aV rfl,c3];rfl⟩
theorem agP{s:Sx}(h0:s.fc=0)(v1:1<=s.v)(v2:s.v<=1000){v:Vr}(hv:wE v.v)(hm:v.v≠ -9223372036854775808){A:List K3}(cY:At ts s.i ((R5 v).tail++A)):
  ∃r,tQ ts s=(r,dE {s with v:=s.v-1} (R5 v).tail.length 0 0 0)/\VrE false v r:=by
 have cY:At ts s.i ((1,v.n,0)::iH 61::((zK v.v++[iH 59])++A)):=cY;have hu:CH ts s={s with v:=s.v-1}:=by
  unfold CH;rw[aQ aE,xD v1 v2]
 unfold tQ;dsimp only;rw[aV cY.head.1,hu];generalize SY:({s with v:=s.v-1}:Sx)=s1;have e0:s1.fc=0:=by rw[<-SY];exact h0
 have cY:At ts s1.i ((1,v.n,0)::iH 61::((zK v.v++[iH 59])++A)):=by rw[<-SY];exact cY
 obtain⟨c1,c2,c3⟩:=ve (s:=s1) (k:=1) e0 cY rfl;rw[c1,c3,jq (s:=dE s1 1 0 0 0) e0 cY.tail aL,db];have h2:At ts (dE s1 (1+1) (0+0) (0+0) (0+0)).i (zK v.v++iH 59::A):=by
  have:=cY.tail.tail;rw[bf]at this;exact this
 obtain⟨g,g1,g2,g3⟩:=agO hE (s:=dE s1 (1+1) (0+0) (0+0) (0+0)) e0 hv hm h2;rw[g1,g2,g3,db,jq (s:=dE s1 (1+1+(zK v.v).length) (0+0+0) (0+0+0) (0+0+0)) e0 (q:=iH 59) (A:=A) (by
  have h5:=h2.right;have e:(dE s1 (1+1) (0+0) (0+0) (0+0)).i+(zK v.v).length=(dE s1 (1+1+(zK v.v).length) (0+0+0) (0+0+0) (0+0+0)).i:=aan
  rw[<-e];exact h5) aL,db]
 refine⟨⟨v.n,v.v,(ga ts s1 1).1.a⟩,?_,⟨rfl,rfl,Fi⟩⟩;unfold R5;simp only[List.tail_cons,aW,aN,bd];congr 2;omega
theorem Sd:∀(l:List Vr) (f:Nat) (acc:List Vr) {s:Sx},s.fc=0->l.length<f->(l.length:Int)<=s.v->s.v<=1000->(∀v,v∈l->wE v.v/\v.v≠ -9223372036854775808)->∀{q:K3} {A:List K3},Pe q [vw]=0->At ts s.i (vF l++q::A)->
  ∃r,tR ts f acc s=(acc++r,dE {s with v:=s.v-l.length} (vF l).length 0 0 0)/\jE (VrE false) l r
 | [],f,acc,s,h0,hf,v1,v2,hv,q,A,hq,cY=>by
  obtain⟨f,rfl⟩:∃g,f=g+1:=⟨f-1,ac2⟩
  have cY:At ts s.i (q::A):=cY;rw[tR,dI h0 cY,aV hq];refine⟨[],?_,B0⟩;rw[bD];unfold dE vF;simp
 | v::l,f,acc,s,h0,hf,v1,v2,hv,q,A,hq,cY=>by
  rw[aW]at hf v1;obtain⟨f,rfl⟩:∃g,f=g+1:=⟨f-1,aE⟩
  have cY:At ts s.i ((R5 v++vF l)++q::A):=cY;rw[bf]at cY;have TV:At ts s.i ((2,vw,0)::((R5 v).tail++(vF l++q::A))):=cY;obtain⟨r,e1,e2⟩:=agP hE (s:=dE s 1 0 0 0) h0 aan aan (hv v aM).1 (hv v aM).2 TV.tail;rw[tR,dI h0 TV,aQ aL,iX,e1];dsimp only;have e3:dE {dE s 1 0 0 0 with v:=(dE s 1 0 0 0).v-1} (R5 v).tail.length 0 0 0=dE {s with v:=s.v-1} (R5 v).length 0 0 0:=by
   unfold dE R5;simp only[List.tail_cons,aW,Sx.mk.injEq,true_and];refine⟨aE,?_,?_,?_⟩<;>omega
  rw[e3];obtain⟨r2,e4,e5⟩:=Sd l f (acc++[r]) (s:=dE {s with v:=s.v-1} (R5 v).length 0 0 0) h0 aE aan aan (λx hx=>hv x acI) hq cY.right;refine⟨r::r2,?_,V4 e2 e5⟩;rw[e4,bf,aW];simp only[eM];congr 1;unfold dE;simp only[vF,aN,Sx.mk.injEq,true_and];refine⟨aE,aE,?_,?_,?_⟩<;>omega
theorem HP:∀l:List Vr,l.length<=(vF l).length
 | []=>aY _
 | v::l=>by
  have:=HP l;rw[vF,aN,aW];unfold R5;rw[aW];omega
theorem V8{c:Ch}(h:pq c=true)(hn:Ip c)(cY:At ts 0 (chK c++[(5,[],0)])):(tS ts).2.fc=0/\∀d,ChE false d c (tS ts).1:=by
 unfold pq at h;simp only[aP]at h;obtain⟨⟨h1,h2⟩,h3⟩:=h;replace h3:=aR h3;obtain⟨vars,⟨b,l⟩⟩:=c;have hv:=hn.v;have hr:=hn.r;rw[zf]at hr;rw[jU]at h2;simp only[aP]at h2;obtain⟨⟨_,h4⟩,h5⟩:=h2;dsimp only at h1 h3 hv;obtain⟨q1,q2,q3,q4,q5⟩:=h3;have hk:b.k=1:=q1;rw[jk]at q3;rw[uT]at q4;rw[uU]at q5;have hh:gK b.k=false:=adC
 obtain⟨_,g2,hs⟩:=R4 h4 hh;have xO:∀v,v∈vars->wE v.v/\v.v≠ -9223372036854775808:=λv hx=>by
  have:=(ey.1 h1) v hx;simp only[aP,bI]at this;exact⟨hv v hx,this.2⟩
 unfold chK at cY;have cY:At ts vQ.i ((2,fm,0)::(1,b.nm,0)::iH 123::(vF vars++((yC b++(kQ l++[iH 125]))++[(5,[],0)]))):=by
  have e:(2,fm,0)::(1,b.nm,0)::iH 123::(vF vars++((yC b++(kQ l++[iH 125]))++[(5,[],0)]))=(2,fm,0)::(1,b.nm,0)::iH 123::(vF vars++(yC b++(kQ l++[iH 125])))++[(5,[],0)]:=by simp[bf]
  rw[e];exact cY
 have z0:vQ.fc=0:=rfl;unfold tS;dsimp only;rw[jq (s:=vQ) z0 cY aL];obtain⟨a,e1⟩:=B1 hE (s:=dE vQ 1 0 0 0) z0 1 cY.tail aL aL aL;rw[e1];dsimp only;rw[jq (s:=dE (dE vQ 1 0 0 0) 1 0 0 1) z0 cY.tail.tail aL,db,db];have acy:At ts (dE vQ (1+1+1) (0+0+0) (0+0+0) (0+1+0)).i (vF vars++((yC b++(kQ l++[iH 125]))++[(5,[],0)])):=cY.tail.tail.tail;obtain⟨q,B,hq,hqv⟩:∃q B,(yC b++(kQ l++[iH 125]))++[((5,[],0):K3)]=q::B/\Pe q [vw]=0/\q.1≠5:=by
  obtain⟨q,B,j1,j2⟩:=HO hE l (xG hE h5) [((5,[],0):K3)];have jv:Pe q [vw]=0:=by
   cases l with
   | nil=>
    rw[kQ]at j1;have:q=iH 125:=by injection j1 with j _;exact j.symm
    rw[this];decide
   | cons x l=>
    obtain⟨C,hC⟩:=xF (ts:=ts) hE x;rw[kQ,hC]at j1;have:q=(2,kW x.b.k,0):=by injection j1 with j _;exact j.symm
    obtain⟨x1,x2⟩:=xG (ts:=ts) hE h5 x aM;have x3:x.b.k=1∨x.b.k=2∨x.b.k=3∨x.b.k=4:=aE
    rw[this];rcases x3 with e | e | e | e<;>rw[e]<;>decide
  have e:(yC b++(kQ l++[iH 125]))++[((5,[],0):K3)]=yC b++(kQ l++iH 125::[(5,[],0)]):=by simp[bf]
  rw[e,j1];unfold yC JM Uc Oc;by_cases i1:b.ini=[]
  ·rw[aV i1];by_cases i2:b.en=[]
   ·rw[aV i2];by_cases i3:b.lv=[]
    ·rw[aV i3];cases oQ:b.mv with
     | nil=>exact⟨q,B,rfl,jv,j2.2.2⟩
     | cons m ms=>
      have:∃w C,MB m=(2,w,0)::C/\Pe (2,w,0) [vw]=0:=by
       unfold MB hdK;split
       ·exact⟨_,_,rfl,aL⟩
       split
       ·exact⟨_,_,rfl,aL⟩
       exact⟨_,_,rfl,aL⟩
      obtain⟨w,C,u1,u2⟩:=this;rw[wv,u1];exact⟨_,_,rfl,u2,(by decide:(2:Int)≠5)⟩
    rw[aQ i3];exact⟨_,_,rfl,aL,(by decide:(2:Int)≠5)⟩
   rw[aQ i2];exact⟨_,_,rfl,aL,(by decide:(2:Int)≠5)⟩
  rw[aQ i1];exact⟨_,_,rfl,aL,(by decide:(2:Int)≠5)⟩
 have acz:=acy;rw[hq]at acz;have fi:=HP (ts:=ts) hE vars;have PD:=At.inr hE acz hqv.2;obtain⟨rv,e2,e3⟩:=Sd hE vars (ts.length+1) [] (s:=dE vQ (1+1+1) (0+0+0) (0+0+0) (0+1+0)) z0 aE abc aL xO hqv.1 acz;rw[e2];dsimp only;obtain⟨r0,r1,r2,r,e4,e5,e6,e7,e8⟩:=Sb hE (Sc hE 14) (deep:=0) (s:=dE {dE vQ (1+1+1) (0+0+0) (0+0+0) (0+1+0)with v:=(dE vQ (1+1+1) (0+0+0) (0+0+0) (0+1+0)).v-vars.length} (vF vars).length 0 0 0) (n:={XK with k:=1,nm:=b.nm,a:=a}) h5 hr.2 hs hr.1 z0 rfl aL aL abc abc abc abc abc abc acy.right rfl rfl rfl rfl;rw[e4];dsimp only;rw[db];refine⟨?_,λd=>⟨by rw[bP];exact e3,Fk (b':={XK with k:=1,nm:=b.nm,a:=a,ini:=b.ini,en:=r0,lv:=r1,mv:=r2}) ⟨hk,rfl,rfl,g2,e5,e6,e7,Fi⟩ e8 d⟩⟩;unfold Jm;rw[aQ]
 ·exact z0
 rintro⟨_,ii⟩;refine ii ?_;have h6:=acy.right.right.head.1;rw[eo]at h6;exact h6
end
theorem Oe{c:Ch}(h:pq c=true)(hn:Ip c)(hl:(ze (Ak c)).length<=16384):(fu (ze (Ak c))).2.1=0/\∀d,ChE false d c (fu (ze (Ak c))).1:=by
 have hq:=agI h hn;unfold Lq at hq;generalize ze (Ak c)=L at*
 have TT:kc L (0+L.length)=.ok [⟨5,[],0,((L.length:Nat):Int)⟩]:=by
  have hd:L.drop L.length=[]:=dv (aY _);have h5:jT false []=0:=rfl;rw[bM,j5 (aY _),hd,h5,aV aE];rfl
 obtain⟨us,h1,h2⟩:=hq L 0 [] _ (be _) (by rw[fZ,bD]) trivial TT;generalize UF:us++[(⟨5,[],0,((L.length:Nat):Int)⟩:Tk)]=ts at*
 have t1:cG L=(ts,0,0):=by rw[cG,aQ aE,h1]
 have hE:qm ts:=by
  have:=(wm (l:=L) (by rw[t1])).1;rw[t1]at this;exact this
 have hm:ts.map k3=chK c++[(5,[],0)]:=by rw[<-UF,cN,h2];rfl
 have cY:At ts 0 (chK c++[(5,[],0)]):=λj q hj=>by
  rw[<-hm,cA,eE]at hj;obtain⟨t,g1,rfl⟩:=hj;have:tk ts (0+j)=t:=by
   unfold tk;rw[bM,g1];rfl
  rw[this]
 obtain⟨c1,c2⟩:=V8 hE h hn cY;unfold fu;rw[t1];dsimp only;rw[aQ aL,aQ (by rw[c1];decide)];exact⟨rfl,c2⟩
end Go.Proofs.YtmgndgpgngcgpaaGreatDoor.Con
namespace Go.Kt
open Go Go.RowKit Go.ChangeShapes Go.WideShapes
def oC{α β:Type}(r:Rp α)(q:Rp β):Rp (α×β):=λw F x cs=>∃c d,cs=c++d/\r w F x.1 c/\q w F x.2 d
def Se:Rp Unit:=λ_ _ _ cs=>cs=[]
def agQ:Rp Bool:=λ_ _ b cs=>cs=[.bool b]
section
variable {H:Type} {enc:TypeId×aw->H} {P:Program}
theorem vT(hl:laidOutB P=true){W W'}{sp}(hb:Below W.heap.size W W'):∀{ts:List TypeId} {vs:List aw} {ds:List _} {ps:List MemPlace},
  (∀t,t∈ts->P.readableRec t=true/\t<P.types.size)->DataW.TrodAll enc P W 0 (λ_=>true) true ts vs ds ps->(∀x,x∈ps->x.block<W.heap.size)->(∀x,x∈ps->sp x.block=true)->DataW.TrodAll enc P W' 0 sp true ts vs ds ps
 | [],vs,ds,ps,_,h,_,_=>by
  obtain⟨rfl,rfl,rfl⟩:=trodAll_nil h;exact trodAll_mk0
 | t::ts,vs,ds,ps,hr,h,bT,WU=>by
  obtain⟨v,Ni,d,ds',p,q,rfl,rfl,rfl,h1,h2⟩:=trodAll_cons h;obtain⟨r1,r2⟩:=hr t aM;exact trodAll_cons_mk (WideElems.Trod_stays hl r1 r2 h1 (λx hx=>hb.same (bT x acI)) λx hx=>WU x acI)
   (vT hl hb (λu hu=>hr u (by simp[hu])) h2 (λx hx=>bT x acI) λx hx=>WU x acI)
theorem law_post{f}{s:ChangeSpec}{fresh handsOn again}{W W'}{args}{ds gs}{before}{tb}
  (hW:DataW.Whole enc P f.params.toList s.vars false W args.toList ds gs before) (hv:s.vars=[])
  (ab1:(s.fn H (ds++gs)).results=[.lit (.bool true)]) (hargs:(s.fn H (ds++gs)).args=ds) (xO:(s.fn H (ds++gs)).vars=[])
  (ht:f.resultTypes=#[tb]) (hu:P.underlying tb=some .bool) (hl:laidOutB P=true) (acA:(f.params.toList.all λt=>P.readableRec t&&decide (t<P.types.size))=true) (hO:Only [] W W'):
  s.post enc P f false fresh handsOn again W args (.bool true) W':=by
 have hb:=hO.below (aY _) aM;have bT:=λp hp=>hW.lt p hp;obtain⟨p,q,hA,hV,rfl,hz,hn⟩:=id hW;rw[hv]at hV;obtain⟨rfl,rfl⟩:=trodVars_none hV;rw[bD]at*
 have hA':∀sp,_->DataW.TrodAll enc P W' 0 sp true f.params.toList args.toList (s.fn H ds).args p:=λsp WU=>by
  rw[hargs];exact vT hl hb (λt ht=>by simpa using ey.1 acA t ht) hA (λx hx=>by simpa using bT x hx) WU
 have hV':∀sp,DataW.TrodVars enc P W' sp s.vars (s.fn H ds).vars []:=λsp=>by
  rw[hv,xO];simp[DataW.TrodVars]
 have Y5:∀b sp hd,DataW.TrodAll enc P W' b sp hd f.resultTypes.toList ((Value.bool true).resultList f.resultTypes.size) (s.fn H ds).results []:=λb sp hd=>by
  rw[ab1,ht];exact trodAll_cons_mk (shut_bool hu true) trodAll_mk0
 have hold:∀x∈p,(λb=>decide _) x.block=true:=λx hx=>by simpa using bT x hx
 refine⟨ds,[],p,[],p,[],hW,by simpa using Y5 _ _ _,by simpa using hA' _ hold,by simpa using hV' _,World.keptBut_mono (λx hx=>⟨hx,aa9⟩) (hb.frame _),λ_=>?_⟩;refine⟨ok_one ht rfl (okWide_bool_mk hu true),_,_,_++[],⟨[]++p,[],trodAll_append (hA' _ (λ_ _=>rfl)) (Y5 _ _ _),hV' _,rfl,?_,?_⟩,?_⟩
 ·intro b off hp;have hp:=aek
  rw[hb.frozen (p:=_) (bT _ hp)];exact hz b off hp
 ·intro ha;cases ha
 intro x hp _;simpa using hp
variable {W:av} {base:Nat} {spare:Nat->Bool} {held:Bool} {α:Type}
def DB(enc:TypeId×aw->H)(P:Program)(W:av)(base:Nat)(spare:Nat->Bool)(held:Bool)(t:TypeId)(r:Rp α):Prop:=
 ∀fh cs x,DataW.trod enc P W base spare held fh t cs=some x->(∀n,n∈x.1.weights P t->n<=reachBytes)->∃a,r W (λ_=>True) a cs
theorem iu{t}(ht:P.underlying t=some (.int .i64)):DB enc P W base spare held t qk:=λfh cs x h _=>by
 obtain⟨n,rfl,rfl,hw⟩:=DataW.trod_int ht h;refine⟨n,rfl,?_⟩;simpa[Lit.wf,IntKind.min,IntKind.max,IntKind.signed,IntKind.bits,wE]using hw
def rSl(r:Rp α)(size bytes:Nat):Rp (List α):=λw F xs cs=>∃s,cs=[s.v]/\SliceF r size w F s xs/\xs.length*bytes<=140737488351232
theorem uo{e}:∀{l:List _} {d:DataW H},d∈l->∀n,n∈d.weights P e->n∈DataW.weightsAll P e l
 | d0::l,d,hd,n,hn=>by
  simp[DataW.weightsAll,cu];rcases ba.1 hd with rfl | hd
  ·exact .inl hn
  exact .inr (uo hd n hn)
 | [],d,hd,_,_=>by simp at hd
theorem zj{β:Type}{p:Nat->β->Prop}:∀n,(∀i,i<n->∃b,p i b)->∃l:List β,l.length=n/\∀i b,l[i]? =some b->p i b
 | 0,_=>⟨[],rfl,λi b h=>aa6⟩
 | n+1,h=>by
  obtain⟨l,h1,h2⟩:=zj n λi hi=>h i aE;obtain⟨b,hb⟩:=h n aE;refine⟨l++[b],ahb,λi c hc=>?_⟩;by_cases hi:i<l.length
  ·rw[bQ hi]at hc;exact h2 i c hc
  have:i=n:=by
   have:=(bc.1 hc).1;simp at this;omega
  subst this;simp[h1]at hc;rw[<-hc];exact hb
theorem DB.map{β}{t}{r}{q}(h:DB enc P W base spare held t r)(f:α->β)(hf:∀a cs,r W (λ_=>True) a cs->q W (λ_=>True) (f a) cs):DB enc P W base spare held t q:=λfh cs x hx hw=>by
 obtain⟨a,ha⟩:=h fh cs x hx hw;exact⟨f a,hf a cs ha⟩
theorem JO{t}(ht:P.underlying t=some .bool):DB enc P W base spare held t agQ:=λfh cs x h _=>by
 obtain⟨b,rfl,rfl⟩:=DataW.trod_bool ht h;exact⟨b,rfl⟩
theorem weights_of{ts}{ds}(h:(DataW.weightsEach P ts ds).all (· <=reachBytes)=true)(j:Nat){t}{d:DataW H}(ht:ts[j]? =some t)(hd:ds[j]? =some d):∀n,n∈d.weights P t->n<=reachBytes:=
 λn hn=>by simpa using ey.1 h n (DataW.weights_mem_each ht hd n hn)
end
structure IsBulk {H:Type} (B:DataW H->Nat):Prop where
 one:∀d,1<=B d
 sl:∀e s,(e.map B).sum+1<=B (.slice e s)
 str:∀b,b.length+1<=B (.lit (.string b))
 agg:∀p,(p.map B).sum+1<=B (.agg p)
 ptr:∀d,B d+1<=B (.ptr d)
 iface:∀t d,B d+1<=B (.iface t d)
section
variable {H:Type} {enc:TypeId×aw->H} {P:Program} {W:av} {base:Nat} {spare:Nat->Bool} {held:Bool} {α β:Type} {B:DataW H->Nat}
def Sf:Rp ByteArray:=λ_ _ s cs=>cs=[.string s]/\s.size<=140737488351232
def jP(B:DataW H->Nat)(enc:TypeId×aw->H)(P:Program)(W:av)(base:Nat)(spare:Nat->Bool)(held:Bool)(t:TypeId)(r:Rp α)(m:α->Nat):Prop:=
 ∀fh cs x,DataW.trod enc P W base spare held fh t cs=some x->(∀n,n∈x.1.weights P t->n<=reachBytes)->∃a,r W (λ_=>True) a cs/\m a<=B x.1
theorem gQ(hB:IsBulk B){t}{r:Rp α}(h:DB enc P W base spare held t r):jP B enc P W base spare held t r λ_=>1:=λfh cs x hx hw=>by
 obtain⟨a,ha⟩:=h fh cs x hx hw;exact⟨a,ha,hB.one _⟩
theorem kB(hB:IsBulk B){t}(ht:P.underlying t=some .string):jP B enc P W base spare held t Sf λs=>s.size+1:=λfh cs x h hw=>by
 obtain⟨s,rfl,rfl,hs⟩:=DataW.trod_string ht h;have h1:=hw _ (by simp;exact dZ);have e:s.data.toList.length=s.size:=rfl;simp[e,reachBytes]at h1;refine⟨s,⟨rfl,?_⟩,?_⟩
 ·omega
 have:=hB.str s.data.toList;exact this
theorem Sg{p}{g:Nat->Nat}:∀{l:List α} {o:Nat},(∀i b,l[i]? =some b->p b<=g (o+i))->(l.map p).sum<=((List.range l.length).map λi=>g (o+i)).sum
 | [],_,_=>aM
 | a::l,o,h=>by
  rw[aW,List.range_succ_eq_map,bK,bK,cE,cE,iE];have ih:=Sg (p:=p) (g:=g) (l:=l) (o:=o+1) λi b hb=>by
   have:=h (i+1) b hb;rw[show o+1+i=o+(i+1) by omega];exact this
  refine kY (h 0 a rfl) (bB ih (KL ?_));congr 1;refine tf λi _=>?_;congr 1;omega
theorem iY(hB:IsBulk B){t e}{r:Rp α}{m}{size}(ht:P.underlying t=some (.slice e))(hs:P.cellsOf e=size){bytes}(hb:P.bytesOf e=bytes)(he:jP B enc P W base spare held e r m):
  jP B enc P W base spare held t (rSl r size bytes) λxs=>(xs.map m).sum+1:=λfh cs x h hw=>by
 subst hs;rcases Deep.open_slice ht h with⟨rfl,rfl⟩ | ⟨a,len,cap,mm,n,D,Pl,rfl,_,hl,hm,YP,rfl,hel⟩
 ·exact⟨[],⟨Sl.nil,rfl,SliceF.nil _ _ _ _,aM⟩,hB.one _⟩
 have hlm:len<=mm:=by rw[YP];split<;>omega
 have hex:∀i,i<len->∃b,(∃yN,yN.length=P.cellsOf e/\Cells W _ yN/\r W _ b yN)/\m b<=B _:=λi hi=>by
  obtain⟨yN,g1,g2⟩:=hel i aE;obtain⟨_,g3,g4⟩:=World.cells?_some g1;obtain⟨b,g5,g6⟩:=he n yN _ g2 λk hk=>hw k (by
   simp[DataW.weights,ht,ba,cu];exact .inr (.inl (uo (gM.2 ⟨i,List.mem_range.2 hi,rfl⟩) k hk)))
  refine⟨b,⟨yN,g3,λj v hj=>?_,g5⟩,g6⟩;rw[g4 j (by have:=(bc.1 hj).1;omega)];exact hj
 obtain⟨l,h1,h2⟩:=zj len hex;refine⟨l,⟨⟨some a,len,cap⟩,rfl,⟨h1.symm,hl,λh=>aaQ,hm,λj x hj=>?_⟩,?_⟩,?_⟩
 ·obtain⟨⟨yN,g1,g2,g3⟩,_⟩:=h2 j x hj;exact⟨a,yN,rfl,trivial,g1,g2,g3⟩
 ·have:=hw _ (by simp only[DataW.weights,ht];exact dZ);rw[hb]at this;simp[bN,List.length_range,reachBytes]at this;rw[h1];have h3:len*bytes<=(len+(mm-len))*bytes:=ez _ aE;omega
 refine bB (O5 ?_) (hB.sl _ ((List.range _).map λj=>D _));have h4:=Sg (p:=m) (g:=λi=>B _) (l:=l) (o:=0) λi b hb=>by
  rw[bM];exact(h2 i b hb).2
 rw[h1]at h4;simpa[Function.comp_def]using h4
def Fm(B:DataW H->Nat)(enc:TypeId×aw->H)(P:Program)(W:av)(base:Nat)(spare:Nat->Bool)(held:Bool)(T off:Nat)(fs:List Field)(r:Rp α)(m:α->Nat):Prop:=
 ∀n (cs:List aw) (xs:List _),cs.length=T->xs.length=fs.length->
  (∀(i:Nat) f,fs[i]? =some f->DataW.trod enc P W base spare held n f.type ((cs.drop f.offset).take (P.cellsOf f.type))=xs[i]?)->
  (∀(i:Nat) f x,fs[i]? =some f->xs[i]? =some x->∀k,k∈x.1.weights P f.type->k<=reachBytes)->∃a,r W (λ_=>True) a (cs.drop off)/\m a<=(xs.map λx=>B x.1).sum
theorem vg{T off}(h:T=off):Fm B enc P W base spare held T off [] Se λ_=>0:=λn cs xs hl _ _ _=>⟨(),by
 exact List.drop_eq_nil_of_le aE,be _⟩
theorem dJ{T off s}{f}{fs}{r:Rp α}{q:Rp β}{m}{m'}(ho:f.offset=off)(hs:P.cellsOf f.type=s)(hr:jP B enc P W base spare held f.type r m)(hq:Fm B enc P W base spare held T (off+s) fs q m'):
  Fm B enc P W base spare held T off (f::fs) (oC r q) λx=>m x.1+m' x.2:=λn cs xs hl hx hf hw=>by
 cases xs with
 | nil=>simp at hx
 | cons x xs=>
  have h0:=hf 0 f rfl;rw[ho,hs]at h0;obtain⟨a,ha,Ic⟩:=hr n _ x h0 (hw 0 f x rfl rfl);obtain⟨b,hb,ol⟩:=hq n cs xs hl aa9 (λi g hg=>hf (i+1) g hg) (λi g y hg hy=>hw (i+1) g y hg hy);exact⟨(a,b),⟨_,_,by rw[<-jG,dP],ha,hb⟩,kY Ic ol⟩
theorem j6(hB:IsBulk B){t}{fs}{T}{r:Rp α}{m}(ht:P.underlying t=some (.struct fs))(hT:P.cellsOf t=T)(hF:Fm B enc P W base spare held T 0 fs.toList r m):jP B enc P W base spare held t r λx=>m x+1:=λfh cs x h hw=>by
 obtain⟨xs,n,rfl,rfl,hl,Kf,hf⟩:=DataW.trod_struct ht h;obtain⟨a,ha,Ic⟩:=hF n cs xs aE (by simpa using Kf) (λi f hi=>hf i f abS) (λi f x hi hx k hk=>hw k (by
  simp[DataW.weights,ht];refine DataW.weights_mem_each (j:=i) ?_ aet k hk;simp only[Array.toList_map,cA,hi];rfl))
 refine⟨a,by simpa using ha,bB (O5 Ic) ?_⟩;have:=hB.agg (xs.map (·.1));rwa[iE]at this
theorem jP.map{t}{r}{q}{m}{m'}(h:jP B enc P W base spare held t r m)(f:α->β)(hf:∀a cs,r W (λ_=>True) a cs->q W (λ_=>True) (f a) cs/\m' (f a)<=m a):jP B enc P W base spare held t q m':=λfh cs x hx hw=>by
 obtain⟨a,ha,Ic⟩:=h fh cs x hx hw;obtain⟨h1,h2⟩:=hf a cs ha;exact⟨f a,h1,bB h2 Ic⟩
theorem argB_struct{t}{fs}{r}{m}{b0}{v}{d}{p}(ht:P.underlying t=some (.struct fs))(oh:Value.okWide P W .any b0 t v)(h:DataW.Trod enc P W base spare held t v d p)
  (pF:jP B enc P W base spare held t r m) (hw:∀n,n∈d.weights P t->n<=reachBytes):∃(a:α) (cs:List aw),v=.agg cs.toArray/\r W (λ_=>True) a cs/\m a<=B d:=by
 obtain⟨cs,rfl,_⟩:=okWide_struct ht oh;obtain⟨fh,hf⟩:=h;obtain⟨a,ha,Ic⟩:=pF fh _ _ hf hw;exact⟨a,cs.toList,aM,ha,Ic⟩
theorem sum_one:∀l:List α,(l.map λ_=>1).sum=l.length
 | []=>rfl
 | _::l=>by rw[bK,cE,sum_one l,aW];omega
end
end Go.Kt
