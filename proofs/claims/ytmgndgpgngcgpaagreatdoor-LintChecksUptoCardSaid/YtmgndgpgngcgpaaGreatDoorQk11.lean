import Derived.Test.YtmgndgpgngcgpaaGreatDoorQk10
set_option linter.unusedSectionVars false
set_option linter.unusedSimpArgs false
set_option linter.unusedVariables false
set_option maxHeartbeats 1600000
set_option maxRecDepth 100000
open Go.Value renaming int->O,string->ab,pointer->ae,agg->ah,tuple->ai,bool->aj
open Go.IntKind renaming i64->U,wrap->ar
open Go.Ending renaming returned->ak
open _root_.ByteArray renaming mk->ao
open _root_.Go.Proofs.Tryz renaming prog->aq
open Go.Instr renaming buildSlice->au
open Go renaming World->av,Value->aw,Calls->az
open Go.Kt renaming Only->ay,SliceF->aA,Cells->aB,OnlyP->aD,Blk->aF
namespace Go.Proofs.YtmgndgpgngcgpaaGreatDoor.Con
open Go Go.RowKit Go.Kt Go.Kt.V Go.Proofs.YtmgndgpgngcgpaaGreatDoor.Vc
def jQ(l:List Mv):Nat:=(l.map λm=>m.acts.length).sum
theorem H0(l:List Mv)(m:Mv):jQ (l++[m])=jQ l+m.acts.length:=by
 unfold jQ;rw[cN,T4];simp
theorem yL:∀l:List Mv,jQ l<=yt l
 | []=>be _
 | m::l=>by
  have h1:=fT m.acts;have h2:=yL l;have h3:jQ (m::l)=m.acts.length+jQ l:=rfl;rw[yt,h3];unfold EX;omega
theorem H2(l:List Mv)(j:Nat):jQ (l.take j)<=jQ l:=by
 induction l generalizing j with
 | nil=>simp[jQ]
 | cons m l ih=>
  cases j with
  | zero=>exact be _
  | succ j=>
   have:=ih j;show m.acts.length+jQ (l.take j)<=m.acts.length+jQ l;omega
theorem SD(b:Nb):xR b<=BN b:=by
 have h1:=fT b.en;have h2:=fT b.lv;have h3:=yL b.mv;have h4:xR b=b.en.length+b.lv.length+jQ b.mv:=rfl;unfold BN;omega
mutual
theorem aaE:∀x:Nd,uU x<=lQ x
 | .mk b l=>by
  have h1:=SD b;have h2:=Fw l;rw[uU,lQ];omega
theorem Fw:∀l:List Nd,lg l<=jB l
 | []=>be _
 | x::l=>by
  have h1:=aaE x;have h2:=Fw l;rw[lg,jB];omega
end
theorem H3:∀(l:List Nd) (j:Nat) {y:Nd},l[j]? =some y->dD (l.take j)+jk y<=dD l
 | [],j,y,h=>aa6
 | x::l,0,y,h=>by
  simp only[cD,bq]at h;subst h;rw[ci,dD,dD];omega
 | x::l,j+1,y,h=>by
  have:=H3 l j (y:=y) abb;rw[fS,dD,dD];omega
theorem DI:∀(l:List Nd) (j:Nat) {y:Nd},l[j]? =some y->jB (l.take j)+lQ y<=jB l
 | [],j,y,h=>aa6
 | x::l,0,y,h=>by
  simp only[cD,bq]at h;subst h;rw[ci,jB,jB];omega
 | x::l,j+1,y,h=>by
  have:=DI l j (y:=y) abb;rw[fS,jB,jB];omega
theorem zm{d:Nat}{y:Nd}:∀{l:List Nd},y∈l->jU d y=false->iB d l=false
 | x::l,h,hy=>by
  rw[iB];rcases ba.1 h with rfl | h
  ·rw[hy,cQ]
  rw[zm h hy,fI]
def qu(d:Nat)(n:Int)(x:Nd):Bool:=jU d x&&decide (n+jk x<=64)
def NcO(b:Nat)(w':av)(n m a:Int)(r:Bool)(x:Nd):Prop:=∃n' m' a':Int,su w' b n' m' a'/\(r=true->n'=n+jk x/\m'=m+uT x/\a'=a+uU x)
theorem DJ{F:aJ}{b:Nat}(hF:∀k,F k->k≠b):∀(D:Nat) {w:av} {n m a:Int} {d:Nat} {x:Nd} {cs:aI},su w b n m a->kj false D w F x cs->zf x->lQ x<=8388608->0<=n->n<=64->d<=100->0<=m->m+lQ x<=1152921504606846976->0<=a->a+lQ x<=1152921504606846976->
  az aq 116 #[ae (some ⟨b,0,none⟩),ah cs.toArray,O U (d:Int)] w λe w'=>e=ak (aj (qu d n x))/\NcO b w' n m a (qu d n x) x/\ay [b] w w'
 | 0,_,_,_,_,_,_,_,_,h,_,_,_,_,_,_,_,_,_=>h.elim
 | D+1,w,n,m,a,d,.mk bb ks,cs,hc,⟨en,lv,mv,kids,iC,vH,fO⟩,hn,hs,Y3,avw,TU,Ww,zM,ha0,ha1=>by
  dsimp only[Nd.kids,Nd.b]at iC vH fO;subst iC;have hk:=fO.1;rw[zf]at hn;obtain⟨hbn,PF⟩:=hn;obtain⟨zr,wx,hb3⟩:=hbn;obtain⟨he,hl,oQ⟩:=vH;rw[lQ]at hs zM ha1;have hsb:=hs;have zu:xR bb=bb.en.length+bb.lv.length+jQ bb.mv:=rfl;have qF:=SD bb;unfold BN at hs;have CK:=hc.lt;refine ret (afH _ _ _ _ _ _ _ _ _ _ _ _ _ ?_);have eN:jk (.mk bb ks)=dD ks+1:=by rw[jk]
  have eO:jU d (.mk bb ks)=(decide (d<12)&&sO bb ks.length&&iB (d+1) ks):=by rw[jU]
  intro k0 w0 fO dQ cf;have z0:=cf.size;have ai3:=cf.blk hc aM;have sm:∀{u u':av},w0.heap.size<=u.heap.size->ay [b] u u'->bS [k0] u u':=λhz hO=>hO.same aaf;have bad:qu d n (.mk bb ks)=false->∀{u:av} {n' m' a':Int},ay [b] w u->su u b n' m' a'->Value.bool false=aj (qu d n (.mk bb ks))/\NcO b u n m a (qu d n (.mk bb ks)) (.mk bb ks)/\ay [b] w u:=λhr {_ _ _ _} hO hB=>⟨by rw[hr],⟨_,_,_,hB,λh=>by rw[hr]at h;cases h⟩,hO⟩
  have kA:∀{u:av} {s:Sl} {l:List Ac},jH false (mG false) 9 139 w F s l->ay [b] w u->jH false (mG false) 9 139 u F s l:=λh hO=>h.keep (cy false) aL λk hk bT=>hO.block k bT (by simpa using hF k hk);have eT:∀l:aH,((T l).toList==((ao #[]).toList))=decide (l=[]):=λl=>gU l [];rw[eT,eT];refine⟨n,Blk.dN ai3 0 rfl,b,0,_,_,rfl,ai3,aM,aE,λw1 cn Xc=>?_⟩;have o1:ay [b] w w1:=fW (only1 cf) cn;have z1:=cn.size;rw[eY aE aE]at Xc;have Xc:su w1 b (n+1) m a:=Xc;refine(qh w1 bb.nm aE).mono ?_;rintro _ w2 ⟨rfl,cH⟩;have o2:=fW o1 (only1 cH);have z2:=cH.size;have lS:su w2 b (n+1) m a:=cH.blk Xc aM;refine⟨_,rfl,sm aE (only1 cH),n+1,λ_=>Blk.dN lS 0 rfl,λhcond=>bad ?_ o2 lS,λhcond=>?_⟩
  ·unfold qu;rw[eO,eN];simp only[cx,cV,bI]at hcond;rcases hcond with(h | h) | h
   ·unfold sO;rw[h];simp
   ·rw[bA (p:=d<12) aE];rfl
   rw[bA (p:=n+((dD ks+1:Nat):Int)<=64) aE,fI]
  simp only[fg,gx]at hcond;have h64:n+1<=64:=by have:=aU hcond.2;omega
  have hdp:d<12:=by have:=aU hcond.1.2;omega
  have hnm:dj bb.nm=true:=hcond.1.1;have F7:=hk.len;have hel:=he.1.len;have FK:=hl.1.len;have Io:=oQ.1.len;have eO2:jU d (.mk bb ks)=(sO bb ks.length&&iB (d+1) ks):=by rw[eO,bE hdp,bZ]
  refine⟨λhh=>(qh w2 bb.dft aE).mono ?_,λhh=>?_⟩
  ·rintro _ w3 ⟨rfl,cT⟩;have hhi:gK bb.k=true:=by
    unfold gK;rw[cx,du,du]at hh;exact bE hh
   have er:(((((dj bb.dft&&decide (bb.ini=[]))&&((en.n:Int)==0))&&((lv.n:Int)==0))&&((mv.n:Int)==0))&&((kids.n:Int)==0))=qu d n (.mk bb ks):=by
    unfold qu;rw[eO2,eN];unfold sO;rw[hnm,hhi,aV rfl,bZ,hel,FK,Io,F7,bH];simp only[aP,bI,du];constructor
    ·rintro⟨⟨⟨⟨⟨h1,h2⟩,h3⟩,h4⟩,h5⟩,h6⟩;have hks:ks=[]:=bF aE;subst hks;refine⟨⟨⟨h1,h2,bF aE,bF aE,aE,rfl⟩,by rw[iB]⟩,by rw[dD];omega⟩
    rintro⟨⟨⟨h1,h2,h3,h4,h5,h6⟩,_⟩,_⟩;exact⟨⟨⟨⟨⟨h1,h2⟩,by rw[h3];rfl⟩,by rw[h4];rfl⟩,aE⟩,aE⟩
   refine⟨_,rfl,sm aE (only1 cT),by rw[er],⟨_,_,_,cT.blk lS aM,λhr=>?_⟩,fW o2 (only1 cT)⟩;rw[<-er]at hr;simp only[aP,du]at hr;obtain⟨⟨⟨⟨_,h3⟩,h4⟩,h5⟩,h6⟩:=hr;have hks:ks=[]:=bF aE;subst hks;have apd:bb.mv=[]:=bF aE;rw[eN,uT,uU,dD,me,lg,zu,apd];refine⟨aE,aM,?_⟩;have:jQ []=0:=rfl;rw[this];omega
  have hhi:gK bb.k=false:=by
   unfold gK;rw[fg,FW,FW]at hh;exact bA λe=>e.elim hh.1 hh.2
  have eB:sO bb ks.length=(decide ((bb.k=1∨bb.k=2)/\bb.dft=[])&&(decide (bb.ini=[])||dj bb.ini)&&bb.en.all gF&&bb.lv.all gF&&bb.mv.all kO):=by
   unfold sO;rw[hnm,hhi,bZ];rfl
  refine⟨λb2 u=>b2=(decide (bb.ini=[])||dj bb.ini)/\ay [b] w u/\w0.heap.size<=u.heap.size/\su u b (n+1) m a,λb2 w4 ⟨eb2,o4,z4,pN⟩=>?_,λhi=>(qh w2 bb.ini aE).mono ?_,λhi=>⟨?_,o2,aE,lS⟩⟩;rotate_left
  ·rintro _ dz ⟨rfl,dH⟩;have CR:=dH.size;refine⟨_,rfl,sm aE (only1 dH),?_,fW o2 (only1 dH),aE,dH.blk lS aM⟩;have:decide (bb.ini=[])=false:=abS
   rw[this,rF]
  ·have:decide (bb.ini=[])=true:=abS
   rw[this,KM]
  have avz:=fT bb.en;have avA:=fT bb.lv;refine(yK pN (kA he o4) hF zr aE ha0 aE).mono ?_;rintro _ w5 ⟨rfl,⟨a5,ux,hr5,ha5⟩,dY⟩;have o5:=fW o4 dY;have z5:=dY.size;refine⟨_,rfl,sm z4 dY,(yK ux (kA hl o5) hF wx aE aE aE).mono ?_⟩;rintro _ w6 ⟨rfl,⟨a6,Pv,hr6,ha6⟩,dK⟩;have o6:=fW o5 dK;have z6:=dK.size;have eC:((((((bb.k !=1)&&(bb.k !=2))||(!(decide (bb.dft=[]))))||(!b2))||(!bb.en.all gF))||(!bb.lv.all gF))=!(decide ((bb.k=1∨bb.k=2)/\bb.dft=[])&&(decide (bb.ini=[])||dj bb.ini)&&bb.en.all gF&&bb.lv.all gF):=by
   rw[eb2,zW,zW,zW];congr 3;rw[bH];simp only[cx,aP,bne_iff_ne,cV,eV,ne_eq];by_cases h1:bb.k=1<;>by_cases h2:bb.k=2<;>by_cases h3:bb.dft=[]<;>simp[h1,h2,h3]
  have kM:∀{u:av},ay [b] w u->aA (Af false) 13 u F mv bb.mv:=λhO=>SliceF.only (gW false) aL oQ.1 hO λk hk _ hm=>hF k hk aa3;have kK:∀{u:av},ay [b] w u->aA (kj false D) 9 u F kids ks:=λhO=>SliceF.only (bU false D) aL hk hO λk hk _ hm=>hF k hk aa3;have YP:=mf bb.mv;refine⟨_,rfl,sm aE dK,λuE=>bad ?_ o6 Pv,λuE=>?_⟩
  ·rw[eC,cV]at uE;unfold qu;rw[eO2,eB,uE];rfl
  rw[eC,gx]at uE;have eB2:sO bb ks.length=bb.mv.all kO:=by rw[eB,uE,bZ]
  simp only[aP]at uE;have ha5:=ha5 uE.1.2;have ha6:=ha6 uE.2;have vG:=yL bb.mv;have Iq:=mh ks;have sV:bb.mv.length<=BN bb:=by unfold BN;omega
  refine⟨λkv i u=>∃j:Nat,i=(j:Int)/\kv+j=bb.mv.length/\j<=bb.mv.length/\(bb.mv.take j).all kO=true/\ay [b] w u/\w0.heap.size<=u.heap.size/\su u b (n+1) (m+j) (a6+jQ (bb.mv.take j)),bb.mv.length,⟨0,rfl,aE,be _,rfl,o6,aE,by simpa[jQ]using Pv⟩,?_⟩;rintro kv _ w7 ⟨j,rfl,tw,hj,fX,o7,z7,TH⟩;have kR:=H2 bb.mv j;refine⟨λld=>?_,λld=>?_⟩
  ·have ld:=aR ld;obtain⟨ad,y,cs,g1,g2,g3,g4,g5,g6⟩:=(kM o7).get (aZ j) aE;rw[aX]at g2;have rD:=bh g2;have Np:=pu rD;have Cm:=g6;obtain⟨gc,pO,tg,rfl,hg,Cn,pG⟩:=g6;obtain⟨gs,rfl⟩:=dX hg;have oo:bb.mv.take (j+1)=bb.mv.take j++[y]:=by rw[bn,g2];rfl
   refine⟨ad,g1,_,_,_,_,_,_,_,_,_,_,_,_,_,g5,(Ox TH Cm hF (hb3 y rD) aE aE aE aE aE).mono ?_⟩;rintro _ w8 ⟨rfl,⟨m8,a8,wB,h8⟩,fj⟩;have o8:=fW o7 fj;have z8:=fj.size;refine⟨_,rfl,sm z7 fj,λhh=>bad ?_ o8 wB,λhh=>?_⟩
   ·have hh:kO y=false:=adq
    unfold qu;rw[eO2,eB2,show bb.mv.all kO=false by rw[wL];exact⟨y,rD,by rw[hh];simp⟩];rfl
   have hh:kO y=true:=adq
   obtain⟨rfl,rfl⟩:=h8 hh;refine⟨kv-1,aE,j+1,aaa,aE,aE,by rw[oo,ja,fX];simp[hh],o8,aE,?_⟩;rw[oo,H0,show m+((j+1:Nat):Int)=m+j+1 by omega,show a6+((jQ (bb.mv.take j)+y.acts.length:Nat):Int)=a6+jQ (bb.mv.take j)+y.acts.length by omega];exact wB
  have ld:=aU ld;have kF:j=bb.mv.length:=aE
  subst kF;rw[gA]at fX TH;have eO3:jU d (.mk bb ks)=iB (d+1) ks:=by rw[eO2,eB2,fX,bZ]
  have eA:a6+(jQ bb.mv:Int)=a+(xR bb:Int):=aE
  rw[eA]at TH;refine⟨λkv i u=>∃j:Nat,i=(j:Int)/\kv+j=ks.length/\j<=ks.length/\iB (d+1) (ks.take j)=true/\n+1+dD (ks.take j)<=64/\ay [b] w u/\w0.heap.size<=u.heap.size/\su u b (n+1+dD (ks.take j)) (m+bb.mv.length+me (ks.take j)) (a+xR bb+lg (ks.take j)),ks.length,⟨0,rfl,aE,be _,by rw[ci,iB],by rw[ci,dD];omega,o7,z7,by rw[ci,dD,me,lg];simpa using TH⟩,?_⟩;rintro O0 _ w9 ⟨i,rfl,Xd,hi,TZ,h9,o9,z9,TN⟩;refine⟨λT0=>?_,λT0=>?_⟩
  ·have T0:=aR T0;obtain⟨ad,y,cs,g1,g2,g3,g4,g5,g6⟩:=(kK o9).get (aZ i) aE;rw[aX]at g2;have rD:=bh g2;have Np:=mg rD;have Cm:=g6;obtain⟨D',rfl⟩:∃D',D=D'+1:=by
    cases D with
    | zero=>exact g6.elim
    | succ D'=>exact⟨D',rfl⟩
   obtain⟨qA,qB,nR,gj,rfl,_⟩:=g6;have oo:ks.take (i+1)=ks.take i++[y]:=by rw[bn,g2];rfl
   have q1:=H3 ks i g2;have q2:=DI ks i g2;have q3:=uX (ks.take i);have q4:=Fw (ks.take i);refine⟨ad,g1,_,_,_,_,qA,qB,nR,gj,_,g5,?_⟩;rw[eY (x:=(d:Int)+1) aE aE,show(d:Int)+1=((d+1:Nat):Int) by omega];refine(DJ hF (D'+1) (d:=d+1) TN Cm (xr PF rD) aE aE h9 aE aE aE aE aE).mono ?_;rintro _ de ⟨rfl,⟨n10,m10,a10,oy,hr⟩,dT⟩;have o10:=fW o9 dT;have Ih:=dT.size;refine⟨_,rfl,sm z9 dT,λDW=>bad ?_ o10 oy,λDW=>?_⟩
   ·have DW:qu (d+1) (n+1+dD (ks.take i)) y=false:=by simpa using DW
    unfold qu at DW⊢;rw[jI]at DW;rcases DW with h | h
    ·rw[eO3,zm rD h,cQ]
    have h:=aU h;rw[eN,bA (p:=n+((dD ks+1:Nat):Int)<=64) aE,fI]
   have DW:qu (d+1) (n+1+dD (ks.take i)) y=true:=by simpa using DW
   obtain⟨rfl,rfl,rfl⟩:=hr DW;unfold qu at DW;rw[aP]at DW;have avB:=aR DW.2;refine⟨O0-1,aE,i+1,aaa,aE,aE,by rw[oo,wo,TZ,DW.1];rfl,by rw[oo,re];omega,o10,aE,?_⟩;rw[oo,re,uY,yu,show n+1+((dD (ks.take i)+jk y:Nat):Int)=n+1+dD (ks.take i)+jk y by omega,show m+bb.mv.length+((me (ks.take i)+uT y:Nat):Int)=m+bb.mv.length+me (ks.take i)+uT y by omega,show a+xR bb+((lg (ks.take i)+uU y:Nat):Int)=a+xR bb+lg (ks.take i)+uU y by omega];exact oy
  have T0:=aU T0;have hie:i=ks.length:=aE
  subst hie;rw[gA]at h9 TZ TN;have er:qu d n (.mk bb ks)=true:=by
   unfold qu;rw[eO3,TZ,eN,bZ];exact bE aE
  rw[er];refine⟨rfl,⟨_,_,_,TN,λ_=>?_⟩,o9⟩;rw[eN,uT,uU];omega
theorem agV{w:av}{F:aJ}{D:Nat}{c:Ch}{vs:Sl}{cs:aI}(hx:ChR false (D+1) w F c vs cs)(hn:Ip c)(hs:mB c.vars+lQ c.root<=8388608):
  az aq 65 #[ah (vs.v::cs).toArray] w λe w'=>e=ak (aj (pq c))/\ay [] w w':=by
 obtain⟨en,lv,mv,kids,iC,_⟩:=hx.root;subst iC;refine ret (afG _ _ _ _ _ _ _ _ _ _ _ _ ?_);intro k0 w0 fO dQ cf;have z0:=cf.size;have hvl:=hx.vars.1.len;have xO:c.vars.length<=mB c.vars:=by
  have:∀l:List Vr,l.length<=mB l:=λl=>by induction l with
   | nil=>exact be _
   | cons a l ih=>rw[mB,aW];omega
  exact this _
 have kV:∀{u:av},ay [] w u->aA xQ 3 u F vs c.vars:=λhO=>SliceF.only dF aL hx.vars.1 hO aM;have sm:∀{u u':av},w0.heap.size<=u.heap.size->ay [] u u'->bS [k0] u u':=λhz hO=>hO.same aaf;refine⟨λkv i u=>∃j:Nat,i=(j:Int)/\kv+j=c.vars.length/\j<=c.vars.length/\(c.vars.take j).all vE=true/\ay [] w u/\w0.heap.size<=u.heap.size,c.vars.length,⟨0,rfl,aE,be _,rfl,cf,aY _⟩,?_⟩;rintro kv _ w1 ⟨j,rfl,tw,hj,fX,o1,z1⟩;refine⟨λld=>?_,λld k4 w3 uC CS cT sV=>?_⟩
 ·have ld:=aR ld;obtain⟨ad,y,cs,g1,g2,g3,g4,g5,g6⟩:=(kV o1).get (aZ j) aE;rw[aX]at g2;have rD:=bh g2;have Np:=ud rD;have g6:cs=[ab (T y.n),O U y.v,O U y.a]:=g6;subst g6;refine⟨ad,g1,_,g5.part 0 λi v hi=>rl hi rfl,(qh w1 y.n aE).mono ?_⟩;rintro _ w2 ⟨rfl,cH⟩;have o2:=o1.ca cH;have z2:=cH.size;obtain⟨Ke,y',yN,p1,p2,p3,p4,p5,p6⟩:=(kV o2).get (aZ j) aE;rw[aX,g2]at p2;injection p2 with p2;subst p2;have p6:yN=[ab (T y.n),O U y.v,O U y.a]:=p6;subst p6;have ev:((!dj y.n)||(y.v==(-9223372036854775808)))=!vE y:=by
   unfold vE;rw[zW];congr 1;rw[bH];simp
  refine⟨_,rfl,sm z1 cH,Ke,λ_=>p1,_,λ_=>p5.part 1 λi v hi=>rl hi rfl,λhh=>⟨?_,o2⟩,λhh=>⟨kv-1,aE,j+1,aaa,aE,aE,?_,o2,aE⟩⟩
  ·rw[ev,cV]at hh;have:c.vars.all vE=false:=by
    rw[wL];exact⟨y,rD,by rw[hh];simp⟩
   have e:pq c=false:=by
    unfold pq;rw[show(c.vars.all λv=>dj v.n&&decide (v.v≠ -9223372036854775808))=c.vars.all vE from rfl,this];rfl
   rw[e]
  rw[ev,gx]at hh;rw[bn,g2,ja,fX];simp[hh]
 have ld:=aU ld;have kF:j=c.vars.length:=aE
 subst kF;rw[gA]at fX;have o3:=o1.ca cT;have z3:=cT.size;have hr3:kj false (D+1) w3 (λk=>F k/\k<w.heap.size) c.root _:=(bU false _).keep ((bU false _).inHeap hx.root) λk _ bT=>o3.block k bT aM;refine(DJ (F:=λk=>F k/\k<w.heap.size) (b:=k4) (λk hk=>ab5) (D+1) (n:=0) (m:=0) (a:=0) (d:=0) sV hr3 hn.2 aE aE aE aE aE aE aE aE).mono ?_;rintro _ w4 ⟨rfl,⟨n',m',a',pN,hr⟩,dw⟩;have apf:ay [] w w4:=(o3.vV (dw.p (F:=λk=>w.heap.size<=k) λx hx=>ab4)).only λk hk=>hk;refine⟨_,rfl,dw.same aaf,n',m',a',pN,?_,apf⟩;congr 1;unfold pq;rw[show(c.vars.all λv=>dj v.n&&decide (v.v≠ -9223372036854775808))=c.vars.all vE from rfl,fX,bZ,hvl];cases DW:qu 0 0 c.root with
 | false=>
  have:(jU 0 c.root&&decide (jk c.root<=64))=false:=by
   unfold qu at DW;rw[<-DW];congr 1;rw[bH,bI,bI];omega
  rw[jI]at this;simp only[cQ];symm;rcases this with h | h
  ·rw[h,cQ]
  have h:=aU h;rw[bA (p:=c.root.b.k=1/\c.vars.length<=16/\jk c.root<=64/\uT c.root<=200/\uU c.root<=400) (λe=>h e.2.2.1),fI]
 | true=>
  obtain⟨e1,e2,e3⟩:=hr DW;unfold qu at DW;rw[aP,bI]at DW;rw[DW.1,bZ,bZ,e2,e3,bH];simp only[aP,bI,du];omega
theorem agW{n:Int}(h0:0<=n)(h1:n<=18446744073709551615):ar .u64 n=n:=by
 have e:ar .u64 n=n % 18446744073709551616:=rfl;rw[e];omega
theorem MO(w:av){n:Int}(h:wE n):az aq 67 #[O U n] w λe w'=>e=ak (ab (T (Lib.itoa n)))/\ay [] w w':=by
 obtain⟨h0,h1⟩:=h;by_cases hn:0<=n
 ·exact Sy w hn h1
 refine ret (afJ _ _ _ ?_);refine⟨λhc=>absurd hc aaf,λhc=>⟨λW5=>?_,λhp=>absurd (aU hp) aE⟩⟩;have hsz:az aq 118 #[O U n] w λe w'=>e=ak (.int .u64 (-n))/\w'=w:=by
  refine ret (afK _ _ _ ?_);refine⟨λ_=>⟨?_,rfl⟩,λhp=>absurd (aU hp) aE⟩;rw[eY (x:=n+1) aE aE,eY aE aE,agW (n:=0-(n+1)) aE aE,agW aE aE];congr 1;omega
 refine hsz.mono ?_;rintro _ u ⟨rfl,hu⟩;obtain rfl:w=u:=hu.symm;obtain⟨k,hk⟩:∃k:Nat, -n=(k:Int):=⟨(-n).toNat,aE⟩
 rw[hk];refine⟨_,rfl,(DG k w aE).mono ?_⟩;rintro _ w1 ⟨rfl,cn⟩;have fO:¬k=0:=aE
 have hl:=sf k aE;rw[aQ fO];refine⟨_,rfl,aaY,?_,cn⟩;rw[show(ao #[45])=T [45]from rfl,eI];unfold Lib.itoa;rw[aV aE,show n.natAbs=k by omega];rfl
theorem MP{n:Int}(h:wE n):(Lib.itoa n).length<=41:=by
 obtain⟨h0,h1⟩:=h;unfold Lib.itoa;split
 ·rw[aW];have:=sf n.natAbs aE;omega
 have:=sf n.toNat aE;omega
section
variable {w:av} {F:aJ}
theorem JY(x:Ex):(uS x).length<=16384:=EY x
theorem agX{y:Ac}(h:y.k=1):[115,101,116,32]++y.n++[32,61,32]++uS y.x++[59]=zd y:=by
 unfold zd;rw[aQ aE,aV h];simp[pK]
theorem agY{y:Ac}(h:y.k=2):[114,97,105,115,101,32]++y.n++[59]=zd y:=by
 unfold zd;rw[aV h];simp[jz]
theorem agZ{y:Ac}(h1:y.k≠1)(h2:y.k≠2):[101,109,105,116,32]++y.n++[32,61,32]++uS y.x++[59]=zd y:=by
 unfold zd;rw[aQ h2,aQ h1];simp[kZ]
theorem JZ(y:Ac):(zd y).length<=Du y+16500:=by
 have:=JY y.x;unfold Du;by_cases h1:y.k=1
 ·rw[<-agX h1];simp only[aN,aW,bd];omega
 by_cases h2:y.k=2
 ·rw[<-agY h2];simp only[aN,aW,bd];omega
 rw[<-agZ h1 h2];simp only[aN,aW,bd];omega
theorem DK(a:Ac):∀l:List Ac,xi (l++[a])=xi l++(32::zd a)
 | []=>by simp[xi]
 | b::l=>by rw[bX,xi,xi,DK a l];simp
theorem aaF{y:Ac}{cs:aI}(hx:mG false w F y cs)(hn:Dm y)(hs:Du y<=8388608):
  az aq 121 #[ah cs.toArray] w λe w'=>e=ak (ab (T (zd y)))/\ay [] w w':=by
 have Y4:=JZ y;obtain⟨xc,rfl,M6⟩:=hx;obtain⟨xs,rfl⟩:=dX M6;unfold Du at hs Y4;have Kf:=JY y.x;refine ret (alz _ _ _ _ _ _ _ _ _ _ _ ?_);have b1:(ao #[115,101,116,32])=T [115,101,116,32]:=rfl;have b2:(ao #[32,61,32])=T [32,61,32]:=rfl;have b3:(ao #[59])=T [59]:=rfl;have b4:(ao #[114,97,105,115,101,32])=T [114,97,105,115,101,32]:=rfl;have b5:(ao #[101,109,105,116,32])=T [101,109,105,116,32]:=rfl;simp only[b1,b2,b3,b4,b5,eI,cq];have kE:∀{u:av},ay [] w u->rE false u F y.x (lf y.x.k y.x.n y.x.s y.x.op xs y.x.a):=λhO=>(ic false).keep M6 λk _ bT=>hO.block k bT aM;have ln:∀{l m:aH},(l++m).length=l.length+m.length:=aN;refine⟨λh1 k0 w0 fO dQ cf=>⟨λk=>k=k0,rfl,aE,acZ,(Fu (kE cf) hn aE).mono ?_⟩,λh1=>⟨λh2=>⟨aE,acZ,λk1 w2 _ _ hO=>⟨by rw[agY ado],hO⟩⟩,λh2 k2 w3 oT nC cT=>⟨λk=>k=k2,rfl,aE,acZ,(Fu (kE cT) hn aE).mono ?_⟩⟩⟩
 ·rintro _ w1 ⟨rfl,cn⟩;refine⟨_,rfl,cn.same aaf,bR.only cn,?_,?_,by rw[eI,eI,agX abv],cf.ca cn⟩
  ·rw[cq];simp only[aN,aW,bd];omega
  rw[eI,cq];simp only[aN,aW,bd];omega
 rintro _ w1 ⟨rfl,cn⟩;refine⟨_,rfl,cn.same aaf,bR.only cn,?_,?_,by rw[eI,eI,agZ abv ado],cT.ca cn⟩
 ·rw[cq];simp only[aN,aW,bd];omega
 rw[eI,cq];simp only[aN,aW,bd];omega
theorem Fx:∀l:List Ac,iW l<=1048576->(xi l).length<=l.length*1065080
 | [],_=>be _
 | a::l,h=>by
  have h1:=JZ a;have h2:Du a<=iW (a::l):=pr aM;have h3:iW l<=iW (a::l):=by rw[iW];omega
  have h4:=Fx l aE;rw[xi,aW,aN,aW,eJ];omega
theorem B7{l:Sl}{om:List Ac}(hl:jH false (mG false) 9 139 w F l om)(hn:∀y,y∈om->Dm y)(hs:iW om<=1048576):
  az aq 70 #[l.v] w λe w'=>e=ak (ab (T (vO om)))/\ay [] w w':=by
 refine ret (aly _ _ _ ?_);have FT:=hl.1.len;have FK:=fT om;have kp:∀{u:av},ay [] w u->aA (mG false) 9 u F l om:=λhO=>SliceF.only (cy false) aL hl.1 hO aM;refine⟨λkv s i u=>∃(j:Nat) (t:aH),s=T t/\t=123::xi (om.take j)/\i=(j:Int)/\kv+j=om.length/\j<=om.length/\t.length<=1+j*1065080/\ay [] w u,om.length,⟨0,[123],rfl,rfl,rfl,aE,be _,aM,Only.refl _ _⟩,?_⟩;rintro kv _ _ w0 ⟨j,t,rfl,et,rfl,tw,hj,ht,hO⟩;refine⟨λld=>?_,λld=>?_⟩
 ·have ld:=aR ld;obtain⟨ad,y,cs,g1,g2,g3,g4,g5,g6⟩:=(kp hO).get (aZ j) aE;rw[aX]at g2;have rD:=bh g2;have Np:=pr rD;have Cm:=g6;obtain⟨xc,rfl,M6⟩:=g6;obtain⟨xs,rfl⟩:=dX M6;refine⟨aaY,ad,g1,_,_,_,_,_,_,_,_,_,g5,(aaF Cm (hn y rD) aE).mono ?_⟩;rintro _ w1 ⟨rfl,cn⟩;have hm:=JZ y;have Io:(t++[32]++zd y).length<=1+(j+1)*1065080:=by
   rw[aN,aN,br,eJ];omega
  refine⟨_,rfl,?_,kv-1,aE,j+1,t++[32]++zd y,?_,by rw[bn,g2,et];show _=123::xi (om.take j++[y]);rw[DK];simp,aaa,aE,aE,Io,hO.ca cn⟩
  ·rw[show(ao #[32])=T [32]from rfl,eI,cq,cq,aN,br];omega
  rw[show(ao #[32])=T [32]from rfl,eI,eI]
 have ld:=aU ld;have kF:j=om.length:=aE
 subst kF;refine⟨aaY,?_,hO⟩;rw[show(ao #[32,125])=T [32,125]from rfl,eI,et,gA];rfl
def Ud:List (aH)->aH
 | []=>[]
 | s::l=>32::45::62::32::(s++Dl l)
theorem H4(s:aH):∀l:List (aH),Dl (l++[s])=Dl l++[44,32]++s
 | []=>by simp[Dl]
 | b::l=>by rw[bX,Dl,Dl,H4 s l];simp
theorem SE(s:aH):∀l:List (aH),Ud (l++[s])=Ud l++(if l=[]then[32,45,62,32]else[44,32])++s
 | []=>by simp[Ud,Dl]
 | b::l=>by rw[bX,Ud,Ud,H4 s l,aQ aM];simp
theorem aaG(m:Mv):T8 m++NZ m++(if m.acts=[]then[]else 32::vO m.acts)++Ud m.tg++[59]=BH m:=by
 unfold BH;cases m.tg<;>simp[Ud]
theorem Wg{x:Mv}{cs:aI}(hx:Af false w F x cs)(hn:PA x)(hs:EX x<=1048576):
  az aq 30 #[ah cs.toArray] w λe w'=>e=ak (ab (T (BH x)))/\(BH x).length<=3000000000000/\ay [] w w':=by
 obtain⟨gc,pO,tg,rfl,hg,Cn,pG⟩:=hx;obtain⟨gs,rfl⟩:=dX hg;unfold EX at hs;have hwt:wE x.wt:=hn.w;refine((afQ x.k (T x.ev) x.wt x.gd x.g.k x.g.n (T x.g.s) x.g.op gs x.g.a pO tg x.a (λv w'=>v=ab (T (BH x))/\(BH x).length<=3000000000000/\ay [] w w') w ?_)).mono (by rintro _ w' ⟨v,rfl,rfl,h,h'⟩;exact⟨rfl,h,h'⟩);intro k0 w0 fO dQ cf;have z0:=cf.size;have sm:∀{u u':av},w0.heap.size<=u.heap.size->ay [] u u'->bS [k0] u u':=λhz hO=>hO.same aaf;have kT:∀{u:av},ay [] w u->aA kb 1 u F tg x.tg:=λhO=>SliceF.only cX aL pG.1 hO aM;have Kf:=JY x.g;have Y4:=fT x.acts;have Ia:=xq x.tg;have qv:=Cn.1.len;have htn:=pG.1.len;let St (K:Nat) (v:aH):aK->av->Prop:=λs u=>∃t:aH,s=T t/\t.length<=K/\ay [] w u/\w0.heap.size<=u.heap.size/\t=v
 refine⟨St 1048600 (if x.k=1 then zH++32::x.ev else gD),λs0 w1 ⟨t0,e0,h0,o0,y0,v0⟩=>⟨St 1048700 (T8 x),λs1 w2 ⟨t1,e1,h1,o1,y1,v1⟩=>⟨St 1066000 (T8 x++NZ x),λs2 w3 ⟨t2,e2,h2,o2,y2,v2⟩=>⟨St 1117000000000 (T8 x++NZ x++(if x.acts=[]then[]else 32::vO x.acts)),λs3 w4 ⟨t3,e3,h3,o3,y3,v3⟩=>?_,λhc=>?_,λhc=>⟨t2,e2,aE,o2,y2,?_⟩⟩,λhc=>?_,λhc=>⟨t1,e1,aE,o1,y1,?_⟩⟩,λhc=>?_,λhc=>⟨t0,e0,aE,o0,y0,?_⟩⟩,λhc=>?_,λhc=>⟨[97,108,119,97,121,115],rfl,aL,cf,aY _,by rw[aQ aax];rfl⟩⟩
 ·subst e3;refine⟨λkv s i u=>∃(j:Nat) (t:aH),s=T t/\t=t3++Ud (x.tg.take j)/\i=(j:Int)/\kv+j=x.tg.length/\j<=x.tg.length/\t.length<=1117000000000+j*1048590/\ay [] w u,x.tg.length,⟨0,t3,rfl,by rw[ci,Ud,bD],rfl,aE,be _,aE,o3⟩,?_⟩;rintro kv _ _ w5 ⟨j,t,rfl,et,rfl,tw,hj,ht,hO⟩;refine⟨λld=>⟨λs u=>∃t':aH,s=T t'/\t'.length<=t.length+4/\u=w5/\t'=t++(if j=0 then[32,45,62,32]else[44,32]),?_,λh0=>⟨aaY,t++[32,45,62,32],by rw[show(ao #[32,45,62,32])=T [32,45,62,32]from rfl,eI],aM,rfl,by rw[aV adQ]⟩,λh0=>⟨aaY,t++[44,32],by rw[show(ao #[44,32])=T [44,32]from rfl,eI],aM,rfl,by rw[aQ adQ]⟩⟩,λld=>?_⟩
  ·have ld:=aR ld;rintro _ w6 ⟨t',rfl,ht',hw,et'⟩;obtain rfl:w5=w6:=hw.symm;obtain⟨ad,s,cs,g1,g2,g3,g4,g5,g6⟩:=(kT hO).get (aZ j) aE;rw[aX]at g2;have pH:=E1 (bh g2);have g6:cs=[ab (T s)]:=g6;subst g6;refine⟨ad,g1,_,g5,by rw[cq,cq];omega,kv-1,aE,j+1,t'++s,by rw[eI],?_,aaa,aE,aE,?_,hO⟩
   ·rw[bn,g2,et',et];show _=t3++Ud (x.tg.take j++[s]);rw[SE];have e:(x.tg.take j=[])↔j=0:=by
     constructor
     ·intro h;have:=bO List.length h;rw[cF,bd]at this;omega
     intro h;rw[h,ci]
    simp only[e,bf]
   rw[aN,eJ];omega
  have ld:=aU ld;have kF:j=x.tg.length:=aE
  subst kF;rw[gA]at et;have em:t++[59]=BH x:=by rw[et,v3,aaG]
  refine⟨aaY,by rw[show(ao #[59])=T [59]from rfl,eI,em],?_,hO⟩;rw[<-em,aN,br];have:x.tg.length*1048590<=1048576*1048590:=ez _ aE;omega
 ·subst e2;have hbb:x.acts.length*1065080<=1048576*1065080:=ez _ aE;refine⟨aaY,(B7 (Cn.keep (cy false) aL λk _ bT=>o2.block k bT aM) hn.a aE).mono ?_⟩;rintro _ w7 ⟨rfl,fK⟩;have ht:(vO x.acts).length<=3+x.acts.length*1065080:=by
   have:=Fx x.acts aE;unfold vO;rw[aW,aN];simp only[aW,bd];omega
  have z7:=fK.size;refine⟨_,rfl,sm y2 fK,?_,t2++[32]++vO x.acts,by rw[show(ao #[32])=T [32]from rfl,eI,eI],?_,o2.ca fK,aE,?_⟩
  ·rw[show(ao #[32])=T [32]from rfl,eI,cq,cq,aN,br];omega
  ·rw[aN,aN,br];omega
  have hc:=aR hc;rw[v2,aQ (λe=>by rw[e]at qv;simp at qv;omega)];simp
 ·have hc:=aU hc;rw[v2,aV (bF aE),bD]
 ·subst e1;refine⟨aaY,(Fu ((ic false).keep hg λk _ bT=>o1.block k bT aM) hn.1 aE).mono ?_⟩;rintro _ w8 ⟨rfl,fj⟩;have z8:=fj.size;refine⟨_,rfl,sm y1 fj,?_,?_,t1++[32,91]++uS x.g++[93],by rw[show(ao #[32,91])=T [32,91]from rfl,show(ao #[93])=T [93]from rfl,eI,eI,eI],?_,o1.ca fj,aE,by rw[v1];unfold NZ;rw[hc,aV rfl];simp⟩
  ·rw[show(ao #[32,91])=T [32,91]from rfl,eI,cq,cq,aN];simp only[aW,bd];omega
  ·rw[show(ao #[32,91])=T [32,91]from rfl,eI,eI,cq,aN,aN];simp only[aW,bd];omega
  simp only[aN,aW,bd];omega
 ·rw[v1];unfold NZ;rw[hc,aQ aM,bD]
 ·refine(MO w1 hwt).mono ?_;rintro _ w9 ⟨rfl,fG⟩;have z9:=fG.size;have:=MP hwt;refine⟨_,rfl,sm y0 fG,aaY,[97,102,116,101,114,32]++Lib.itoa x.wt,by rw[show(ao #[97,102,116,101,114,32])=T [97,102,116,101,114,32]from rfl,eI],?_,o0.ca fG,aE,?_⟩
  ·rw[aN];simp only[aW,bd];omega
  have hc:x.k=3:=aax
  unfold T8;rw[aQ aE,aV hc];simp[im]
 ·have hc:¬x.k=3:=aax
  rw[v0];unfold T8;rw[aQ hc]
 refine⟨aaY,[111,110,32]++x.ev,by rw[show(ao #[111,110,32])=T [111,110,32]from rfl,eI],?_,cf,aY _,?_⟩
 ·rw[aN];simp only[aW,bd];omega
 rw[aV aax];simp[zH]
end
structure Prg (w:av) (b:Nat) (sl:Sl) (l:aH):Prop where
 blk:aF w b 134 [sl.v]
 buf:Bf w (b+1) sl l
section
variable {w w0 w1 w2 w':av} {b k0:Nat} {sl sl' OS:Sl} {l:aH}
theorem Prg.only(h:Prg w b sl l)(hO:ay [] w w'):Prg w' b sl l:=⟨hO.blk h.blk aM,h.buf.keep λg _ hl=>hO.block g hl aM⟩
theorem Prg.lb(h:Prg w b sl l):b<w.heap.size:=h.blk.lt
theorem Prg.SU(h:Prg w b sl l){k:Nat}(hk:k<b):¬(k=b∨sl.a=some ⟨k,0,none⟩):=by
 rintro(e | e)
 ·omega
 have:=(h.buf.lt e).1;omega
theorem Prg.put{s':Sl}{m:aH}{e:TypeId}(h:Prg w b sl l)(k2:Bf w1 (b+1) s' m)(k3:aD (λk=>sl.a=some ⟨k,0,none⟩) w w1)(k4:∀k,s'.a=some ⟨k,0,none⟩->sl.a=some ⟨k,0,none⟩∨w.heap.size<=k):
  aF w1 b 134 [sl.v]/\∀w2,ay [b] w1 w2->aF w2 b 134 [s'.v]->Prg w2 b s' m/\iL b sl w s' w2:=by
 have hb:=h.lb;refine⟨k3.blk h.blk λe=>by have:=(h.buf.lt e).1;omega,λw2 cH lS=>⟨⟨lS,k2.keep λg hg hl=>cH.block g hl (by have:=(k2.lt hg).1;simp;omega)⟩,(k3.mono λk _ hk=>.inr hk).trans (cH.p (F:=λk=>k=b) λx hx=>.inl aa9) λk hk=>.inl (.inl hk),k4⟩⟩
theorem ag0{B:Nat}(h:Bf w B sl l)(cs:aH){n:Nat}{parts:Array (Nat×aw)}(hp:parts=(((cs.map gC).zipIdx 0).map λx=>(x.2,x.1)).toArray)(hn:cs.length=n)(h0:0<n)(vG:n*1<=16777216)(hB:B<=w.heap.size)(hm:l.length+cs.length<=140737488355328):
  ∃y w1,(au 112 n parts).run aq w=.ok (Sl.v y) w1/\ay [] w w1/\∃s' w2,(Builtin.append_ #[112,112] 112 #[Sl.v sl,Sl.v y]).run aq w1=.ok (Sl.v s') w2/\Bf w2 B s' (l++cs)/\
   aD (λk=>sl.a=some ⟨k,0,none⟩) w w2/\∀k,s'.a=some ⟨k,0,none⟩->sl.a=some ⟨k,0,none⟩∨w.heap.size<=k:=by
 obtain⟨y,w1,k1,k2,k3,_⟩:=rS w cs hp hn h0 vG;have z1:=k3.size;have h1:Bf w1 B sl l:=h.keep λg hg hl=>k3.block g hl aM;obtain⟨s',w2,m1,m2,gs,m3,m4,m5⟩:=pU (P:=aq) (t:=112) (ty:=112) (e:=5) (i:=Tryz.t5) (bytes:=1) (size:=1) (r:=lj) BD ES rfl rfl rfl rfl qJ (h1.own λ_=>True) ((wY k2).mono qJ λk hk=>⟨trivial,λe=>by have:=(h.lt e).2;have:=hk.1;omega⟩) aE aE aL;refine⟨y,w1,k1,k3,s',w2,m1,Bf.of m2 abD,k3.vV (m3.p λx hx=>.inl (m4 x hx).1),λk hk=>?_⟩;rcases m5 with e | e
 ·rw[e]at hk;exact .inl hk
 rw[e]at hk;injection hk with hk;injection hk with hk;exact .inr aE
theorem DL:∀d,tW (d+1)=tW d++[32,32]
 | 0=>rfl
 | d+1=>by
  show 32::32::tW (d+1)=(32::32::tW d)++[32,32]
  rw[DL d];rfl
theorem Fy:∀d,(tW d).length=2*d
 | 0=>rfl
 | d+1=>by rw[tW,aW,aW,Fy d];omega
theorem MQ{l m:aH}{d:Nat}(hl:l.length<=4000000000000)(hd:d<=4194304)(hm:m.length<=3000000000010):(jl l (d,m)).length<=4000000000000:=by
 unfold jl;split
 ·exact hl
 unfold ZZ;rw[aN,aN,aN,Fy];simp only[aW,bd];omega
theorem MR(h:Prg w b sl l){d:Nat}(TU:d<=4194304)(m:aH)(hm:m.length<=3000000000010):
  az aq 66 #[ae (some ⟨b,0,none⟩),O U (d:Int),ab (T m)] w λe w'=>e=ak (ai #[])/\∃(sl':Sl),Prg w' b sl' (jl l (d,m))/\iL b sl w sl' w':=by
 refine ret (afN _ _ _ _ _ ?_);have hn:=h.buf.len;have hb:=h.lb;refine⟨sl,Blk.dN h.blk 0 rfl,λhc=>⟨rfl,sl,?_,iL.refl _ _ _⟩,λhc=>?_⟩
 ·have hc:=aR hc;unfold jl;rw[aV aE];exact h
 have hc:l.length<=16384:=aa0
 have ep:jl l (d,m)=l++tW d++m++[10]:=by
  unfold jl ZZ;rw[aQ aE];simp
 rw[ep];refine⟨λkv i u=>∃(j:Nat) (q:Sl),i=(j:Int)/\kv+j=d/\Prg u b q (l++tW j)/\iL b sl w q u,d,⟨0,sl,rfl,aE,by rw[tW,bD];exact h,iL.refl _ _ _⟩,?_⟩;rintro kv _ w0 ⟨j,q,rfl,tw,hP,hM⟩;have Aw:=hP.lb;have ht:(l++tW j).length<=16384+2*j:=by rw[aN,Fy];omega
 refine⟨λld=>?_,λld=>?_⟩
 ·have ld:=aR ld;obtain⟨y,w1,a1,a2,s',w2,a3,a4,a5,a6⟩:=ag0 hP.buf [32,32] (n:=2) (parts:=#[.mk 0 (.int .u8 32),.mk 1 (.int .u8 32)]) rfl rfl aL aL aE (by rw[aW,br];omega);obtain⟨c1,c2⟩:=hP.put (e:=0) a4 a5 a6;refine⟨q,Blk.dN hP.blk 0 rfl,y,w1,a1,s',w2,a3,b,0,_,_,rfl,c1,aY 1,λw3 cT sV=>?_⟩;obtain⟨c3,c4⟩:=c2 w3 cT sV;exact⟨kv-1,aE,j+1,s',aaa,aE,by rw[DL,<-bf];exact c3,hM.trans c4⟩
 have ld:=aU ld;have kF:j=d:=aE
 subst kF;obtain⟨s',w1,k1,k2,k3,k4⟩:=Ah hP.buf m aE aE;obtain⟨c1,c2⟩:=hP.put (e:=0) k2 k3 λk hk=>by
  rcases k4 with e | e
  ·rw[e]at hk;exact .inl hk
  rw[e]at hk;injection hk with hk;injection hk with hk;exact .inr aE
 refine⟨q,Blk.dN hP.blk 0 rfl,s',w1,k1,b,0,_,_,rfl,c1,aY 1,λw2 cH lS=>?_⟩;obtain⟨Y7,hM2⟩:=c2 w2 cH lS;have wx:=Y7.lb;obtain⟨y,w3,a1,a2,s5,w4,a3,a4,a5,a6⟩:=ag0 Y7.buf [10] (n:=1) (parts:=#[.mk 0 (.int .u8 10)]) rfl rfl aL aL aE aba;obtain⟨d1,d2⟩:=Y7.put (e:=0) a4 a5 a6;refine⟨s',Blk.dN Y7.blk 0 rfl,y,w3,a1,s5,w4,a3,b,0,_,_,rfl,d1,aY 1,λw5 dY ux=>?_⟩;obtain⟨d3,d4⟩:=d2 w5 dY ux;exact⟨rfl,s5,d3,(hM.trans hM2).trans d4⟩
end
mutual
def Ue:Nd->Prop
 | .mk b ks=>(1<=b.k/\b.k<=4)/\J8 ks
def J8:List Nd->Prop
 | []=>True
 | x::l=>Ue x/\J8 l
end
theorem H5{x:Nd}:∀{l:List Nd},J8 l->x∈l->Ue x
 | y::l,h,hx=>by
  rw[J8]at h;rcases ba.1 hx with rfl | hx
  ·exact h.1
  exact H5 h.2 hx
mutual
theorem SF:∀(d:Nat) (x:Nd),jU d x=true->Ue x
 | d,.mk b l,h=>by
  rw[jU,aP,aP]at h;rw[Ue];refine⟨?_,MS (d+1) l h.2⟩;have h1:=h.1.2;unfold sO at h1;rw[aP]at h1;have h2:=h1.2;by_cases hh:gK b.k=true
  ·unfold gK at hh;have:=aR hh;omega
  rw[aQ hh]at h2;simp only[aP,bI]at h2;omega
theorem MS:∀(d:Nat) (l:List Nd),iB d l=true->J8 l
 | _,[],_=>by rw[J8];trivial
 | d,x::l,h=>by
  rw[iB,aP]at h;rw[J8];exact⟨SF d x h.1,MS d l h.2⟩
end
def ow(w:av)(b:Nat)(sl:Sl)(w0:av)(s0:Sl)(l:aH):Prop:=(Prg w b sl l/\l.length<=4000000000000)/\iL b s0 w0 sl w
theorem ow.line{w w0:av}{b:Nat}{sl s0:Sl}{l:aH}(h:ow w b sl w0 s0 l){d:Nat}(TU:d<=4194304)(m:aH)(hm:m.length<=3000000000010){k0:Nat}(h1:k0≠b)(h2:s0.a≠some ⟨k0,0,none⟩)(h3:k0<w0.heap.size):
  az aq 66 #[ae (some ⟨b,0,none⟩),O U (d:Int),ab (T m)] w λe w'=>e=ak (ai #[])/\bS [k0] w w'/\∃sl',ow w' b sl' w0 s0 (jl l (d,m)):=by
 obtain⟨⟨hP,hl⟩,hM⟩:=h;refine(MR hP TU m hm).mono ?_;rintro _ w' ⟨rfl,sl',hP',hM'⟩;exact⟨rfl,hM.sm h1 h2 h3 hM',sl',⟨hP',MQ hl TU hm⟩,hM.trans hM'⟩
theorem ow.only{w w' w0:av}{b:Nat}{sl s0:Sl}{l:aH}(h:ow w b sl w0 s0 l)(hO:ay [] w w'):ow w' b sl w0 s0 l:=by
 obtain⟨⟨hP,hl⟩,hM⟩:=h;exact⟨⟨hP.only hO,hl⟩,hM.trans (iL.only hO)⟩
def NdC(D:Nat):Prop:=∀{F:aJ} {w:av} {b:Nat} {sl:Sl} {l:aH} {x:Nd} {cs:aI} {d:Nat},kj false D w F x cs->(∀k,F k->k<b)->Prg w b sl l->l.length<=4000000000000->zf x->Ue x->lQ x<=1048576->d+jk x<=4000000->
 az aq 119 #[ae (some ⟨b,0,none⟩),ah cs.toArray,O U (d:Int)] w λe w'=>e=ak (ai #[])/\∃(sl':Sl),Prg w' b sl' (dy l (Cs d x))/\(dy l (Cs d x)).length<=4000000000000/\iL b sl w sl' w'
theorem MT{D:Nat}(hD:NdC D){F:aJ}{w:av}{b:Nat}{sl:Sl}{l:aH}{x:Nd}{cs:aI}{d:Nat}(hx:kj false (D+1) w F x cs)(hF:∀k,F k->k<b)(hP:Prg w b sl l)(hl:l.length<=4000000000000)(hn:zf x)(Ir:Ue x)(hs:lQ x<=1048576)(TU:d+jk x<=4000001):
  az aq 68 #[ae (some ⟨b,0,none⟩),ah cs.toArray,O U (d:Int)] w λe w'=>e=ak (ai #[])/\∃(sl':Sl),Prg w' b sl' (dy l (CI d x.b++ob d x.kids))/\(dy l (CI d x.b++ob d x.kids)).length<=4000000000000/\iL b sl w sl' w':=by
 obtain⟨bb,ks⟩:=x;obtain⟨en,lv,mv,kids,iC,vH,fO⟩:=hx;dsimp only[Nd.kids,Nd.b]at iC vH fO;subst iC;have hk:=fO.1;rw[zf]at hn;rw[Ue]at Ir;obtain⟨⟨zr,wx,hb3⟩,PF⟩:=hn;obtain⟨he,uD,oQ⟩:=vH;rw[lQ]at hs;rw[jk]at TU;unfold BN at hs;have CK:=hP.lb;refine ret (afO _ _ _ _ _ _ _ _ _ _ _ _ _ ?_);intro k0 w0 dQ uF cf;have z0:=cf.size;have wC:k0≠b:=aE
 have qC:sl.a≠some ⟨k0,0,none⟩:=λe=>ab9
 have h0:ow w0 b sl w0 sl l:=⟨⟨hP.only cf,hl⟩,iL.refl _ _ _⟩
 have nF:∀k,F k->¬(k=b∨sl.a=some ⟨k,0,none⟩):=λk tu=>hP.SU (hF k tu);have fr:∀{u:av} {q:Sl} {L:aH},ow u b q w0 sl L->∀k,F k->k<w.heap.size->u.heap[k]? =w.heap[k]? :=fun{u q L} h k tu bT=>(h.2.1.block k aE (nF k tu)).trans (cf.block k bT aM);have sz:∀{u:av} {q:Sl} {L:aH},ow u b q w0 sl L->w0.heap.size<=u.heap.size:=λh=>h.2.1.size;have sm:∀{u u':av} {q:Sl} {L:aH},ow u b q w0 sl L->ay [] u u'->bS [k0] u u':=λh hO=>hO.same (by have:=sz h;simp;omega);have kA:∀{u:av} {q s:Sl} {la:List Ac} {L:aH},jH false (mG false) 9 139 w F s la->ow u b q w0 sl L->jH false (mG false) 9 139 u F s la:=λh hp=>h.keep (cy false) aL (fr hp);have kM:∀{u:av} {q:Sl} {L:aH},ow u b q w0 sl L->aA (Af false) 13 u F mv bb.mv:=λhp=>(oQ.keep (gW false) aL (fr hp)).1;have kK:∀{u:av} {q:Sl} {L:aH},ow u b q w0 sl L->aA (kj false D) 9 u F kids ks:=λhp=>(fO.keep (bU false D) aL (fr hp)).1;have Y4:=fT bb.en;have avE:=fT bb.lv;have Io:=oQ.1.len;have F7:=hk.len;have YP:=mf bb.mv;have Iq:=mh ks;have m1:bb.en.length*1065080<=1048576*1065080:=ez _ aE;have m2:bb.lv.length*1065080<=1048576*1065080:=ez _ aE;let St:aH->av->Prop:=λL u=>∃q,ow u b q w0 sl L
 have eT:((T bb.ini).toList==((ao #[]).toList))=decide (bb.ini=[]):=gU bb.ini [];rw[eT];have Y8:∀{la:List Ac},iW la<=1048576->(vO la).length<=3+la.length*1065080:=fun{la} h=>by
  have:=Fx la h;unfold vO;rw[aW,aN];simp only[aW,bd];omega
 have hel:=he.1.len;have FK:=uD.1.len;refine⟨St (dy l (vA d bb)),λw1 ⟨q1,h1⟩=>⟨St (dy l (vA d bb++LR d bb)),λw2 ⟨q2,h2⟩=>⟨St (dy l (vA d bb++LR d bb++N0 d bb)),λw3 ⟨q3,h3⟩=>?_,λhc=>?_,λhc=>⟨q2,by
  have hc:=aU hc;rw[show N0 d bb=[] by unfold N0;rw[aV (bF aE)],bD];exact h2⟩⟩,λhc=>?_,λhc=>⟨q1,by
  have hc:=aU hc;rw[show LR d bb=[] by unfold LR;rw[aV (bF aE)],bD];exact h1⟩⟩,λhc=>?_,λhc=>⟨sl,by
  have hc:bb.ini=[]:=aax
  rw[show vA d bb=[] by unfold vA;rw[aV hc]];exact h0⟩⟩
 ·refine⟨λkv i u=>∃j:Nat,i=(j:Int)/\kv+j=bb.mv.length/\j<=bb.mv.length/\St (dy l (vA d bb++LR d bb++N0 d bb++(bb.mv.take j).map λm=>(d,BH m))) u,bb.mv.length,⟨0,rfl,aE,be _,q3,by rw[ci,fC,bD];exact h3⟩,?_⟩;rintro kv _ w4 ⟨j,rfl,tw,hj,q4,h4⟩;obtain⟨⟨YV,WV⟩,hM4⟩:=id h4;have avF:=YV.buf.len;refine⟨q4,λ_=>Blk.dN YV.blk 0 rfl,λld=>?_,λld=>?_⟩
  ·rw[aP]at ld;have ld:=aR ld.1;obtain⟨ad,y,cs,g1,g2,g3,g4,g5,g6⟩:=(kM h4).get (aZ j) aE;rw[aX]at g2;have rD:=bh g2;have Np:=pu rD;have Cm:=g6;obtain⟨gc,pO,tg,rfl,hg,Cn,pG⟩:=g6;obtain⟨gs,rfl⟩:=dX hg;refine⟨ad,g1,_,_,_,_,_,_,_,_,_,_,_,_,_,g5,(Wg Cm (hb3 y rD) aE).mono ?_⟩;rintro _ w5 ⟨rfl,ht,dY⟩;refine⟨_,rfl,sm h4 dY,((h4.only dY).line (d:=d) aE (BH y) aE wC qC uF).mono ?_⟩;rintro _ w6 ⟨rfl,hs6,q6,h6⟩;exact⟨rfl,hs6,kv-1,aE,j+1,aaa,aE,aE,q6,by
    rw[bn,g2,cN,<-bf,fN];exact h6⟩
  have apg:dy l (vA d bb++LR d bb++N0 d bb++(bb.mv.take j).map λm=>(d,BH m))=dy l (CI d bb):=by
   have en:CI d bb=vA d bb++LR d bb++N0 d bb++mvL d bb:=by unfold CI;simp
   rw[en];unfold mvL;by_cases vm:j=bb.mv.length
   ·rw[vm,gA]
   have T1:16384<(dy l (vA d bb++LR d bb++N0 d bb++(bb.mv.take j).map λm=>(d,BH m))).length:=by
    rw[jI]at ld;rcases ld with h | h
    ·have:=aU h;omega
    have:=aU h;omega
   conv=>rhs;rw[<-dP j bb.mv,cN,<-bf,fN]
   rw[Hn _ _ T1]
  refine⟨λkv i u=>∃j:Nat,i=(j:Int)/\kv+j=ks.length/\j<=ks.length/\St (dy l (CI d bb++ob d (ks.take j))) u,ks.length,⟨0,rfl,aE,be _,q4,by rw[ci,ob,bD,<-apg];exact h4⟩,?_⟩;rintro O0 _ w7 ⟨i,rfl,Xd,hi,q7,h7⟩;obtain⟨⟨OX,Nn⟩,WY⟩:=id h7;refine⟨λT0=>?_,λT0=>?_⟩;rotate_left
  ·have T0:=aU T0;have hie:i=ks.length:=aE
   rw[hie,gA]at OX Nn;exact⟨rfl,q7,OX,Nn,(iL.only cf).trans WY⟩
  have T0:=aR T0;obtain⟨ad,y,cs,g1,g2,g3,g4,g5,g6⟩:=(kK h7).get (aZ i) aE;rw[aX]at g2;have rD:=bh g2;have Np:=mg rD;have Ws:=Hu rD;have Cm:=g6;obtain⟨D',rfl⟩:∃D',D=D'+1:=by
   cases D with
   | zero=>exact g6.elim
   | succ D'=>exact⟨D',rfl⟩
  obtain⟨qA,qB,nR,gj,rfl,_⟩:=g6;refine⟨ad,g1,_,_,_,_,qA,qB,nR,gj,_,g5,(hD Cm hF OX Nn (xr PF rD) (H5 Ir.2 rD) aE aE).mono ?_⟩;rintro _ w8 ⟨rfl,q8,hP8,YY,hM8⟩;have e8:dy (dy l (CI d bb++ob d (ks.take i))) (Cs d y)=dy l (CI d bb++ob d (ks.take (i+1))):=by
   rw[bn,g2];show _=dy l (CI d bb++ob d (ks.take i++[y]));rw[yv];simp only[fN]
  rw[e8]at hP8 YY;exact⟨rfl,WY.sm wC qC uF hM8,O0-1,aE,i+1,aaa,aE,aE,q8,⟨hP8,YY⟩,WY.trans hM8⟩
 ·refine(B7 (kA uD h2) wx aE).mono ?_;rintro _ w9 ⟨rfl,fG⟩;have ht:=Y8 (la:=bb.lv) aE;refine⟨_,rfl,sm h2 fG,aaY,?_⟩;rw[show(ao #[108,101,97,118,101,32])=T [108,101,97,118,101,32]from rfl,eI];refine((h2.only fG).line (d:=d) aE _ ac1 wC qC uF).mono ?_;rintro _ de ⟨rfl,TI,YI,tv⟩;refine⟨rfl,TI,YI,?_⟩;have hc:=aR hc;rw[show N0 d bb=[(d,iq++32::vO bb.lv)] by unfold N0;rw[aQ (λe=>by rw[e]at FK;simp at FK;omega)],fN];exact tv
 ·refine(B7 (kA he h1) zr aE).mono ?_;rintro _ w9 ⟨rfl,fG⟩;have ht:=Y8 (la:=bb.en) aE;refine⟨_,rfl,sm h1 fG,aaY,?_⟩;rw[show(ao #[101,110,116,101,114,32])=T [101,110,116,101,114,32]from rfl,eI];refine((h1.only fG).line (d:=d) aE _ ac1 wC qC uF).mono ?_;rintro _ de ⟨rfl,TI,YI,tv⟩;refine⟨rfl,TI,YI,?_⟩;have hc:=aR hc;rw[show LR d bb=[(d,io++32::vO bb.en)] by unfold LR;rw[aQ (λe=>by rw[e]at hel;simp at hel;omega)],fN];exact tv
 refine⟨aaY,by rw[show(ao #[105,110,105,116,105,97,108,32])=T [105,110,105,116,105,97,108,32]from rfl,eI,cq,aN];simp only[aW,bd];omega,?_⟩;rw[show(ao #[105,110,105,116,105,97,108,32])=T [105,110,105,116,105,97,108,32]from rfl,show(ao #[59])=T [59]from rfl,eI,eI];refine(h0.line (d:=d) aE _ abm wC qC uF).mono ?_;rintro _ eS ⟨rfl,aph,q13,sX⟩;refine⟨rfl,aph,q13,?_⟩;have hc:¬bb.ini=[]:=aax
 rw[show vA d bb=[(d,fb++32::(bb.ini++[59]))] by unfold vA;rw[aQ hc]];have e:([105,110,105,116,105,97,108,32]++bb.ini++[59]:aH)=fb++32::(bb.ini++[59]):=by simp[fb]
 rw[e]at sX;exact sX
theorem Wh{D:Nat}(hD:NdC D){F:aJ}{w:av}{b:Nat}{sl:Sl}{l:aH}{x:Nd}{cs:aI}{d:Nat}(hx:kj false (D+1) w F x cs)(hF:∀k,F k->k<b)(hP:Prg w b sl l)(hl:l.length<=4000000000000)(hn:zf x)(Ir:Ue x)(hs:lQ x<=1048576)(TU:d+jk x<=4000000):
 az aq 119 #[ae (some ⟨b,0,none⟩),ah cs.toArray,O U (d:Int)] w λe w'=>e=ak (ai #[])/\∃(sl':Sl),Prg w' b sl' (dy l (Cs d x))/\(dy l (Cs d x)).length<=4000000000000/\iL b sl w sl' w':=by
 obtain⟨bb,ks⟩:=x;have CU:=hx;obtain⟨en,lv,mv,kids,iC,vH,fO⟩:=hx;dsimp only[Nd.kids,Nd.b]at iC vH fO;subst iC;have DS:=hs;rw[lQ]at DS;unfold BN at DS;have CK:=hP.lb;have hnp:=E6 (.mk bb ks);refine ret (afR _ _ _ _ _ _ _ _ _ _ _ _ _ ?_);intro k0 w0 dQ uF cf;have z0:=cf.size;have wC:k0≠b:=aE
 have qC:sl.a≠some ⟨k0,0,none⟩:=λe=>ab9
 have h0:ow w0 b sl w0 sl l:=⟨⟨hP.only cf,hl⟩,iL.refl _ _ _⟩
 have hkb:1<=bb.k/\bb.k<=4:=by rw[Ue]at Ir;exact Ir.1
 have nF:∀k,F k->¬(k=b∨sl.a=some ⟨k,0,none⟩):=λk tu=>hP.SU (hF k tu);have fin:∀{u:av} {q:Sl} {L:aH},ow u b q w0 sl L->L=dy l (Cs d (.mk bb ks))->∃(sl':Sl),Prg u b sl' (dy l (Cs d (.mk bb ks)))/\(dy l (Cs d (.mk bb ks))).length<=4000000000000/\iL b sl w sl' u:=fun{u q L} h e=>by
  subst e;obtain⟨⟨h1,h2⟩,h3⟩:=h;exact⟨q,h1,h2,(iL.only cf).trans h3⟩
 have ap:∀(a c:aH),T a++T c=T (a++c):=eI;have e1:(ao #[104,105,115,116,111,114,121,32])=T [104,105,115,116,111,114,121,32]:=rfl;have e2:(ao #[32,45,62,32])=T [32,45,62,32]:=rfl;have e3:(ao #[59])=T [59]:=rfl;have e4:(ao #[100,101,101,112,32])=T [100,101,101,112,32]:=rfl;have e5:(ao #[115,116,97,116,101,32])=T [115,116,97,116,101,32]:=rfl;have e6:(ao #[32,123])=T [32,123]:=rfl;have e7:(ao #[112,97,114,97,108,108,101,108,32])=T [112,97,114,97,108,108,101,108,32]:=rfl;have e8:(ao #[125])=T [125]:=rfl;simp only[e1,e2,e3,e4,e5,e6,e7,e8,ap,cq];have go:∀(m:aH),m.length<=3000000000010->az aq 66 #[ae (some ⟨b,0,none⟩),O U (d:Int),ab (T m)] w0 λe w'=>e=ak (ai #[])/\bS [k0] w0 w'/\∃sl',ow w' b sl' w0 sl (jl l (d,m)):=λm hm=>h0.line (d:=d) aE m hm wC qC uF;refine⟨λu=>¬gK bb.k=true/\∃q,ow u b q w0 sl (jl l (d,kW bb.k++32::(bb.nm++[32,123]))),λw1 ⟨hh,q1,h1⟩=>?_,λk3=>?_,λk3=>⟨λk4=>?_,λk4=>⟨λk1=>?_,λk1=>?_⟩⟩⟩
 ·obtain⟨⟨hP1,hl1⟩,hM1⟩:=h1;have hr1:kj false (D+1) w1 F (.mk bb ks) (mH bb.k bb.nm bb.ini bb.dft en lv mv kids bb.a):=(bU false _).keep CU λk tu bT=>(hM1.1.block k aE (nF k tu)).trans (cf.block k bT aM);rw[eY (x:=(d:Int)+1) aE aE,show(d:Int)+1=((d+1:Nat):Int) by omega];refine(MT hD (d:=d+1) hr1 hF hP1 hl1 hn Ir hs aE).mono ?_;rintro _ w2 ⟨rfl,q2,Y7,wz,hM2⟩;have h2:ow w2 b q2 w0 sl _:=⟨⟨Y7,wz⟩,hM1.trans hM2⟩
  refine⟨rfl,hM1.sm wC qC uF hM2,(h2.line (d:=d) aE [125] aL wC qC uF).mono ?_⟩;rintro _ w3 ⟨rfl,hs3,q3,h3⟩;refine⟨rfl,hs3,adA,fin h3 ?_⟩;rw[Cs,aQ hh];simp only[rX,fN,Nd.b,Nd.kids];rfl
 ·have k3:bb.k=3:=ac6
  simp only[aN,aW,bd];refine⟨aE,aE,aE,aE,(go _ abm).mono ?_⟩;rintro _ w4 ⟨rfl,Cw,q4,h4⟩;refine⟨rfl,Cw,adA,fin h4 ?_⟩;rw[Cs,aV (by unfold gK;exact bE (.inl k3)),k3];show _=jl l _;congr 2;simp[kW,tP]
 ·have k4:bb.k=4:=ac7
  simp only[aN,aW,bd];refine⟨aE,aE,aE,aE,(go _ abm).mono ?_⟩;rintro _ w4 ⟨rfl,Cw,q4,h4⟩;refine⟨rfl,Cw,adA,fin h4 ?_⟩;rw[Cs,aV (by unfold gK;exact bE (.inr k4)),k4];show _=jl l _;congr 2;simp[kW,Hb]
 ·have k1:bb.k=1:=ac5
  simp only[aN,aW,bd];refine⟨aE,aE,(go _ abm).mono ?_⟩;rintro _ w4 ⟨rfl,Cw,q4,h4⟩;refine⟨rfl,Cw,by unfold gK;rw[k1];decide,q4,?_⟩;have e:([115,116,97,116,101,32]++bb.nm++[32,123]:aH)=kW bb.k++32::(bb.nm++[32,123]):=by rw[k1];simp[kW,Bs]
  rw[e]at h4;exact h4
 have k3:¬bb.k=3:=ac6
 have k4:¬bb.k=4:=ac7
 have k1:¬bb.k=1:=ac5
 have k2:bb.k=2:=aE
 simp only[aN,aW,bd];refine⟨aE,aE,(go _ abm).mono ?_⟩;rintro _ w4 ⟨rfl,Cw,q4,h4⟩;refine⟨rfl,Cw,by unfold gK;rw[k2];decide,q4,?_⟩;have e:([112,97,114,97,108,108,101,108,32]++bb.nm++[32,123]:aH)=kW bb.k++32::(bb.nm++[32,123]):=by rw[k2];simp[kW,qW]
 rw[e]at h4;exact h4
theorem MU:∀D,NdC D
 | 0=>λhx _ _ _ _ _ _ _=>hx.elim
 | D+1=>λhx hF hP hl hn Ir hs TU=>Wh (MU D) hx hF hP hl hn Ir hs TU
theorem SG{w:av}{F:aJ}{D:Nat}{c:Ch}{vs:Sl}{cs:aI}(hx:ChR false (D+1) w F c vs cs)(hn:Ip c)(hs:mB c.vars+lQ c.root<=1048576):
  az aq 29 #[ah (vs.v::cs).toArray] w λe w'=>e=ak (ai #[ab (T (iI c).1),O U (iI c).2])/\ay [] w w':=by
 have Nq:=hx.root;obtain⟨en,lv,mv,kids,iC,_⟩:=hx.root;subst iC;refine ret (ak0 _ _ _ _ _ _ _ _ _ _ _ _ ?_);intro k0 w0 fO dQ cf;have z0:=cf.size;have keep:∀{u:av},ay [] w u->ChR false (D+1) u F c vs (mH c.root.b.k c.root.b.nm c.root.b.ini c.root.b.dft en lv mv kids c.root.b.a):=λhO=>⟨hx.vars.keep dF aL λk _ bT=>hO.block k bT aM,(bU false _).keep hx.root λk _ bT=>hO.block k bT aM⟩
 have hnm:c.root.b.nm.length<=lQ c.root:=by
  obtain⟨vv,⟨bb,ks⟩⟩:=c;show bb.nm.length<=lQ (.mk bb ks);rw[lQ];unfold BN;omega
 refine(agV (keep cf) hn aE).mono ?_;rintro _ w1 ⟨rfl,cn⟩;have z1:=cn.size;have o1:=cf.ca cn;have ap:∀(a c:aH),T a++T c=T (a++c):=eI;have e1:(ao #[99,104,97,114,116,32])=T [99,104,97,114,116,32]:=rfl;have e2:(ao #[32,123])=T [32,123]:=rfl;have e3:(ao #[118,97,114,32])=T [118,97,114,32]:=rfl;have e4:(ao #[32,61,32])=T [32,61,32]:=rfl;have e5:(ao #[59])=T [59]:=rfl;have e6:(ao #[125])=T [125]:=rfl;refine⟨_,rfl,cn.same aaf,λO1=>⟨?_,o1⟩,λO1=>?_⟩
 ·have O1:pq c=false:=by simpa using O1
  unfold iI;rw[O1];rfl
 have O1:pq c=true:=by simpa using O1
 have Ir:Ue c.root:=by
  unfold pq at O1;simp only[aP]at O1;exact SF 0 c.root O1.1.2
 have T1:16384<(dy [] (Ak c)).length->iI c=([],2):=λh=>by unfold iI;rw[aV O1,aV h]
 have acE:¬16384<(dy [] (Ak c)).length->iI c=(dy [] (Ak c),0):=λh=>by unfold iI;rw[aV O1,aQ h]
 obtain⟨LL,hLL⟩:∃LL,LL=(0,fm++32::(c.root.b.nm++[32,123]))::(c.vars.map λv=>(1,T9 v)):=⟨_,rfl⟩
 have apk:Ak c=LL++(CI 1 c.root.b++ob 1 c.root.kids)++[(0,[125])]:=by rw[hLL];unfold Ak;simp
 rw[e1,e2,e6,ap,ap,cq,cq];refine⟨aE,ac1,λk1 w2 kU jC cH lS=>?_⟩;have z2:=cH.size;have o2:=o1.ca cH;have Y7:Prg w2 k1 Sl.nil []:=⟨lS,.inl ⟨rfl,rfl⟩⟩
 have Xe:k0≠k1:=aE
 have W7:(Sl.nil).a≠some ⟨k0,0,none⟩:=λe=>adg
 have fin:∀{u:av} {q:Sl} {L:aH},ow u k1 q w2 Sl.nil L->ay [] w u:=λh=>(o2.vV h.2.1).only λk hk=>hk.elim aE λe=>adg
 have h2:ow w2 k1 Sl.nil w2 Sl.nil []:=⟨⟨Y7,aL⟩,iL.refl _ _ _⟩
 have hvl:=hx.vars.1.len;have xO:c.vars.length<=mB c.vars:=by
  have:∀l:List Vr,l.length<=mB l:=λl=>by induction l with
   | nil=>exact be _
   | cons a l ih=>rw[mB,aW];omega
  exact this _
 refine(h2.line (d:=0) aL _ abm Xe W7 aE).mono ?_;rintro _ w3 ⟨rfl,hs3,q3,h3⟩;have e0:([99,104,97,114,116,32]++c.root.b.nm++[32,123]:aH)=fm++32::(c.root.b.nm++[32,123]):=by simp[fm]
 rw[e0]at h3;have h3:ow w3 k1 q3 w2 Sl.nil (dy [] ((0,fm++32::(c.root.b.nm++[32,123]))::((c.vars.take 0).map λv=>(1,T9 v)))):=h3;obtain⟨⟨hP3,hl3⟩,hM3⟩:=id h3;refine⟨rfl,hs3,q3,hP3.blk,λkv i q u=>∃j:Nat,i=(j:Int)/\kv+j=c.vars.length/\j<=c.vars.length/\ow u k1 q w2 Sl.nil (dy [] ((0,fm++32::(c.root.b.nm++[32,123]))::((c.vars.take j).map λv=>(1,T9 v)))),c.vars.length,⟨0,rfl,aE,be _,h3⟩,?_⟩;rintro kv _ q w4 ⟨j,rfl,tw,hj,h4⟩;obtain⟨⟨YV,WV⟩,hM4⟩:=id h4;refine⟨λld w5 dY ux=>?_,λld=>?_⟩
 ·have ld:=aR ld;have h5:=h4.only dY;obtain⟨⟨hP5,hl5⟩,hM5⟩:=id h5;have hv5:aA xQ 3 w5 (λk=>F k/\k<w.heap.size) vs c.vars:=SliceF.keep dF (SliceF.inHeap dF hx.vars.1 aL) aL λk hk bT=>(fin h5).block k bT aM;obtain⟨ad,y,cs,g1,g2,g3,g4,g5,g6⟩:=hv5.get (aZ j) aE;rw[aX]at g2;have rD:=bh g2;have Np:=ud rD;have hyi:=hn.1 y rD;have g6:cs=[ab (T y.n),O U y.v,O U y.a]:=g6;subst g6;have apl:ad.block<w.heap.size:=g3.2;have hit:=MP hyi;have kp:∀{u u':av} {qa qb:Sl} {L:aH},ow u k1 qa w2 Sl.nil L->iL k1 qa u qb u'->bR (λk=>k=k0∨k<w.heap.size) u u':=fun{u u' qa qb L} hp hm k hk bT=>hm.1.block k bT λhh=>by
   rcases hh with e | e
   ·omega
   rcases hp.2.2 k e with e' | e'
   ·cases e'
   omega
  rw[e3,e4,e5];refine⟨λk=>k=k0∨k<w.heap.size,.inl rfl,ad,g1,.inr (by rw[mN];exact apl),_,g5.part 0 λi v hi=>rl hi rfl,?_,?_,ad,g1,_,g5.part 1 λi v hi=>rl hi rfl,(MO w5 hyi).mono ?_⟩
  ·rw[cq];omega
  ·rw[ap,cq,aN];simp only[aW,bd];omega
  rintro _ w6 ⟨rfl,dK⟩;have h6:=h5.only dK;obtain⟨⟨hP6,hl6⟩,hM6⟩:=id h6;have z6:=hM6.1.size;have z5:=hM5.1.size;refine⟨_,rfl,dK.same aaf,q,hP6.blk,bR.only dK,?_,?_,?_⟩
  ·rw[ap,ap,cq,cq];simp only[aN,aW,bd];omega
  ·rw[ap,ap,ap,cq];simp only[aN,aW,bd];omega
  rw[ap,ap,ap,ap];refine(MR hP6 (d:=1) aL _ abm).mono ?_;rintro _ w7 ⟨rfl,q7,OX,WY⟩;have Nn:=MQ (d:=1) (m:=[118,97,114,32]++y.n++[32,61,32]++Lib.itoa y.v++[59]) hl6 aL abm;have ev:([118,97,114,32]++y.n++[32,61,32]++Lib.itoa y.v++[59]:aH)=T9 y:=by simp[T9,vw]
  have e7:jl (dy [] ((0,fm++32::(c.root.b.nm++[32,123]))::((c.vars.take j).map λv=>(1,T9 v)))) (1,[118,97,114,32]++y.n++[32,61,32]++Lib.itoa y.v++[59])=dy [] ((0,fm++32::(c.root.b.nm++[32,123]))::((c.vars.take (j+1)).map λv=>(1,T9 v))):=by
   rw[ev,bn,g2,cN];simp only[rX,fN];rfl
  rw[e7]at OX Nn;exact⟨rfl,hM6.sm Xe W7 aE WY,q7,OX.blk,kp h6 WY,kv-1,aE,j+1,aaa,aE,aE,⟨OX,Nn⟩,hM6.trans WY⟩
 have hr4:kj false (D+1) w4 (λk=>F k/\k<w.heap.size) c.root (mH c.root.b.k c.root.b.nm c.root.b.ini c.root.b.dft en lv mv kids c.root.b.a):=(bU false _).keep ((bU false _).inHeap Nq) λk _ bT=>(fin h4).block k bT aM;have hnn:=Rv c.root;have ld:=aU ld;have kF:j=c.vars.length:=aE
 subst kF;rw[gA,<-hLL]at YV WV;refine(MT (MU D) (d:=1) hr4 (λk hk=>ab5) YV WV hn.2 Ir aE aE).mono ?_;rintro _ w8 ⟨rfl,q8,hP8,YY,hM8⟩;have h8:ow w8 k1 q8 w2 Sl.nil _:=⟨⟨hP8,YY⟩,hM4.trans hM8⟩
 refine⟨rfl,hM4.sm Xe W7 aE hM8,q8,hP8.blk,(h8.line (d:=0) aL [125] aL Xe W7 aE).mono ?_⟩;rintro _ w9 ⟨rfl,hs9,q9,h9⟩;have e9:jl (dy (dy [] LL) (CI 1 c.root.b++ob 1 c.root.kids)) (0,[125])=dy [] (Ak c):=by
  rw[apk];simp only[fN];rfl
 rw[e9]at h9;obtain⟨⟨hP9,hl9⟩,hM9⟩:=id h9;have hb9:=hP9.buf.len;refine⟨rfl,hs9,q9,hP9.blk,λhh=>⟨?_,fin h9⟩,λhh=>⟨_,hP9.buf.bytes,?_,fin h9⟩⟩
 ·have hh:=aR hh;rw[T1 aE]
 have hh:=aU hh;rw[acE aE]
theorem SH{D:Nat}{u:av}{H:aJ}{x:Nd}{en lv mv kids:Sl}(h:kj false (D+1) u H x (mH x.b.k x.b.nm x.b.ini x.b.dft en lv mv kids x.b.a)):
  ∃y w1,(au 25 1 #[.mk 0 (ah #[O U x.b.k,ab (T x.b.nm),ab (T x.b.ini),ab (T x.b.dft),en.v,lv.v,mv.v,kids.v,O U x.b.a])]).run aq u=.ok (Sl.v y) w1/\ay [] u w1/\aA (kj false (D+1)) 9 w1 (λk=>H k∨(u.heap.size<=k/\k<w1.heap.size)) y [x]:=by
 obtain⟨y,w1,k1,k2,k3,_⟩:=jZ (P:=aq) (t:=25) (e:=27) (i:=Tryz.t27) (w:=u) (F:=H) (vs:=[ah #[O U x.b.k,ab (T x.b.nm),ab (T x.b.ini),ab (T x.b.dft),en.v,lv.v,mv.v,kids.v,O U x.b.a]]) (parts:=#[.mk 0 (ah #[O U x.b.k,ab (T x.b.nm),ab (T x.b.ini),ab (T x.b.dft),en.v,lv.v,mv.v,kids.v,O U x.b.a])]) (len:=1) (xs:=[x]) (r:=kj false (D+1)) (size:=9) (by kernel_rfl) (by kernel_rfl) rfl rfl aL rfl rfl aL aL (bU false (D+1)) ⟨⟨rfl,h⟩,trivial⟩;exact⟨y,w1,k1,k3,((k2.slice (bU false (D+1))).inHeap (bU false (D+1)) aL).mono (bU false (D+1)) λk hk=>hk.1.elim .inl λh=>.inr ⟨h.1,hk.2⟩⟩
theorem SI{B:Nat}{w:av}{F:aJ}{s:Sl}{xs:List Vr}(h:Own xQ 3 59 B w F s xs):aA xQ 3 w (λk=>B<=k) s xs:=by
 have h':Own xQ 3 59 B w (λ_=>False) s xs:=by
  rcases h with⟨rfl,rfl⟩ | ⟨g,css,tail,h1,h2,h4,h5,h6,h7,h9,h8⟩
  ·exact .inl ⟨rfl,rfl⟩
  exact .inr ⟨g,css,tail,h1,h2,h4,h5,h6,h7,h9,gI.OG (λx c _ hc=>hc) h8⟩
 exact(h'.slice dF).mono dF λk hk=>hk.elim (λh=>h.elim) λh=>h.1
theorem Oy{w:av}{F:aJ}{D:Nat}{c:Ch}{vs:Sl}{cs:aI}(hx:ChR false (D+1) w F c vs cs)(hs:mB c.vars+lQ c.root<=8388608):
  az aq 6 #[ah (vs.v::cs).toArray] w λe w'=>(∃(Ni:Sl) (ds:aI),e=ak (ah (Ni.v::ds).toArray)/\ChR false (D+1) w' (λ_=>True) c Ni ds)/\ay [] w w':=by
 have hxr:=hx.root;obtain⟨en,lv,mv,kids,iC,_⟩:=hx.root;subst iC;refine(akX vs c.root.b.k (T c.root.b.nm) (T c.root.b.ini) (T c.root.b.dft) en lv mv kids c.root.b.a (λv w'=>(∃(Ni:Sl) (ds:aI),v=(ah (Ni.v::ds).toArray)/\ChR false (D+1) w' (λ_=>True) c Ni ds)/\ay [] w w') w ?_).mono (by rintro _ w' ⟨v,rfl,⟨a,b,rfl,h⟩,h'⟩;exact⟨⟨a,b,rfl,h⟩,h'⟩);intro k0 k1 w0 fO dQ kU jC cf;have z0:=cf.size;have hvl:=uf c.vars;have hvh:=hx.vars.1.inHeap dF aL;have root:∀{u:av},ay [] w u->kj false (D+1) u F c.root (mH c.root.b.k c.root.b.nm c.root.b.ini c.root.b.dft en lv mv kids c.root.b.a):=λhO=>(bU false _).keep hxr λk _ bT=>hO.block k bT aM;refine⟨λa i s0 s1 s2 l1 l2 l3 l4 i1 u=>(∃ds,ds=[O U i,ab s0,ab s1,ab s2,l1.v,l2.v,l3.v,l4.v,O U i1]/\ChR false (D+1) u (λ_=>True) c a ds)/\ay [] w u,?_,λw2 cH=>?_⟩
 ·rintro a i s0 s1 s2 l1 l2 l3 l4 i1 u ⟨⟨ds,rfl,h⟩,hO⟩;exact⟨⟨a,_,rfl,h⟩,hO⟩
 have z2:=cH.size;have o2:=cf.ca cH;have vars:∀{u v:av} {y:Sl} {B:Nat},ay [] w u->w2.heap.size<=B->B<=u.heap.size->Own xQ 3 59 B u (λk=>F k/\k<w.heap.size) y []->∃z v,(Builtin.append_ #[22,22] 22 #[Sl.v y,Sl.v vs]).run aq u=.ok (Sl.v z) v/\aA xQ 3 v (λk=>w2.heap.size<=k) z c.vars/\aD (λk=>B<=k/\y.a=some ⟨k,0,none⟩) u v:=fun{u v y B} hO hz M9 hy=>by
  have hyv:aA xQ 3 u (λk=>(F k/\k<w.heap.size)/\y.a≠some ⟨k,0,none⟩) vs c.vars:=(hvh.keep dF aL λk _ bT=>hO.block k bT aM).mono dF λk hk=>⟨hk,λe=>by have:=(hy.blk e).1;dsimp only at this;omega⟩
  obtain⟨z,v,g1,g2,gs,g3,g4,_⟩:=pU (P:=aq) (t:=22) (ty:=22) (e:=59) (i:=Tryz.t59) (bytes:=32) (size:=3) (r:=xQ) (by kernel_rfl) (by kernel_rfl) rfl rfl rfl rfl dF hy hyv M9 acq aL;rw[bP]at g2;exact⟨z,v,g1,(SI g2).mono dF λk hk=>aE,g3.p λg hg=>.inl ⟨(g4 g hg).2.1,(g4 g hg).1⟩⟩
 have sm:∀{u v:av},w2.heap.size<=u.heap.size->ay [] u v->bS [k0,k1] u v/\bR (λk=>k=k0) u v:=λh hO=>⟨hO.same aaf,bR.only hO⟩
 have smP:∀{u v:av} {y:Sl} {B:Nat},w2.heap.size<=B->B<=u.heap.size->aD (λk=>B<=k/\y.a=some ⟨k,0,none⟩) u v->bS [k0,k1] u v/\bR (λk=>k=k0) u v:=λh h' hO=>⟨hO.same λx hx=>by simp only[ba,bp,cb]at hx;exact⟨aE,λh=>aE⟩,λk hk bT=>hO.block k bT λh=>aE⟩
 have emp:∀u:av,∃y v,(au 22 0 #[]).run aq u=.ok (Sl.v y) v/\Own xQ 3 59 u.heap.size v (λk=>F k/\k<w.heap.size) y []/\ay [] u v:=λu=>NA (P:=aq) (t:=22) (e:=59) (i:=Tryz.t59) (by kernel_rfl) (by kernel_rfl) xQ 3 u (λk=>F k/\k<w.heap.size);have tr1:∀{u v:av} {y:Sl} {B:Nat},ay [] w u->w2.heap.size<=B->aD (λk=>B<=k/\y.a=some ⟨k,0,none⟩) u v->ay [] w v:=λh hz g=>(h.vV g).only λk hk=>aE
 have Y9:∀{u:av},ay [] w u->kj false (D+1) u (λk=>F k/\k<w.heap.size) c.root (mH c.root.b.k c.root.b.nm c.root.b.ini c.root.b.dft en lv mv kids c.root.b.a):=λhO=>(bU false _).keep ((bU false _).inHeap hxr) λk _ bT=>hO.block k bT aM;have fin:∀{u v:av} {l z:Sl},ay [] w u->w2.heap.size<=u.heap.size->aA (kj false (D+1)) 9 u (λ_=>True) l [c.root]->aA xQ 3 u (λk=>w2.heap.size<=k) z c.vars->
   az aq 14 #[l.v] u λe0 w6=>∃l8:Sl,e0=(ak l8.v)/\bS [k0,k1] u w6/\bR (λk=>k=k0) u w6/\
    ∃p0:Addr,cR l8 0 9 p0/\∃i2:Int,∃s3 s4 s5:aK,∃l9 l10 sU uv:Sl,∃i3:Int,aB w6 p0 [O U i2,ab s3,ab s4,ab s5,l9.v,l10.v,sU.v,uv.v,O U i3]/\
     ∀w7:av,ay [k1] w6 w7->((∃ds,ds=[O U i2,ab s3,ab s4,ab s5,l9.v,l10.v,sU.v,uv.v,O U i3]/\ChR false (D+1) w7 (λ_=>True) c z ds)/\ay [] w w7):=fun{u v l z} hO hz hl hv=>by
  refine(Rn (D+1) hl (by rw[jB,jB];omega)).mono ?_;rintro _ w6 ⟨⟨t,rfl,hT⟩,dK⟩;have z6:=dK.size;obtain⟨s1,s2⟩:=sm hz dK;obtain⟨ad,y,ds,a1,a2,a3,a4,a5,a6⟩:=hT.get (i:=0) aE (by have:=hT.len;rw[br]at this;omega);have a2:some c.root=some y:=a2;injection a2 with a2;subst a2;have Il:=a6;obtain⟨qA,qB,nR,gj,rfl,_⟩:=a6;refine⟨t,rfl,s1,s2,ad,a1,_,_,_,_,qA,qB,nR,gj,_,a5,λw7 fK=>⟨⟨_,rfl,⟨?_,λh=>aaQ⟩,?_⟩,(hO.ca dK).trans fK λx hx=>.inr aaL⟩⟩
  ·exact(SliceF.only dF aL (SliceF.only dF aL hv dK aM) fK λk hk _ hm=>aaZ).mono dF λ_ _=>trivial
  refine(bU false (D+1)).mono ((bU false (D+1)).keep Il λk hk bT=>fK.block k bT ?_) λ_ _=>trivial;simp only[aO];omega
 have kp:∀{u v:av} {z:Sl},aA xQ 3 u (λk=>w2.heap.size<=k) z c.vars->ay [] u v->aA xQ 3 v (λk=>w2.heap.size<=k) z c.vars:=λh hO=>SliceF.only dF aL h hO aM;refine⟨λk=>k=k0,rfl,rfl,?_,?_⟩
 ·obtain⟨l5,w3,p1,p2,p3⟩:=emp w2;have z3:=p3.size;obtain⟨a1,a2⟩:=sm (aY _) p3;have o3:=o2.ca p3;refine⟨l5,w3,p1,a1,a2,?_,?_⟩
  ·obtain⟨l6,w4,q1,q2,q3⟩:=vars (v:=w3) o3 (aY _) z3 p2;have z4:=q3.size;obtain⟨b1,b2⟩:=smP (aY _) z3 q3;have o4:ay [] w w4:=tr1 o3 (aY _) q3;obtain⟨l7,w5,r1,r2,r3⟩:=SH (root o4);have z5:=r2.size;obtain⟨c1,c2⟩:=sm aE r2;exact⟨l6,w4,q1,b1,b2,l7,w5,r1,c1,c2,fin (v:=w5) (o4.ca r2) aE (r3.mono (bU false (D+1)) λ_ _=>trivial) (kp q2 r2)⟩
  obtain⟨l7,w8,r1,r2,r3⟩:=SH (Y9 o3);have z8:=r2.size;obtain⟨c1,c2⟩:=sm aE r2;have o8:=o3.ca r2;obtain⟨l6,w9,q1,q2,q3⟩:=vars (v:=w8) o8 (aY _) aE (p2.keep dF λk _ bT=>r2.block k bT aM);have z9:=q3.size;obtain⟨b1,b2⟩:=smP (aY _) aE q3;exact⟨l7,w8,r1,c1,c2,l6,w9,q1,b1,b2,fin (v:=w9) (tr1 o8 (aY _) q3) aE ((SliceF.pA (bU false (D+1)) aL r3 q3 λk hk _ h=>by
   have:=(p2.blk h.2).2;dsimp only at this;omega).mono (bU false (D+1)) λ_ _=>trivial) q2⟩
 obtain⟨l7,eu,r1,r2,r3⟩:=SH (Y9 o2);have z12:=r2.size;obtain⟨c1,c2⟩:=sm (aY _) r2;obtain⟨l5,eS,p1,p2,p3⟩:=emp eu;have Pu:=p3.size;obtain⟨a1,a2⟩:=sm aE p3;have o13:=(o2.ca r2).ca p3;obtain⟨l6,fJ,q1,q2,q3⟩:=vars (v:=eS) o13 aE Pu p2;have YL:=q3.size;obtain⟨b1,b2⟩:=smP aE Pu q3;exact⟨l7,eu,r1,c1,c2,l5,eS,p1,a1,a2,l6,fJ,q1,b1,b2,fin (v:=fJ) (tr1 o13 aE q3) aE ((SliceF.pA (bU false (D+1)) aL (SliceF.only (bU false (D+1)) aL r3 p3 aM) q3 λk hk _ h=>aE).mono (bU false (D+1)) λ_ _=>trivial) q2⟩
def Gr(s:Sl)(w:av)(s':Sl)(w':av):Prop:=aD (λk=>s.a=some ⟨k,0,none⟩) w w'/\∀k,s'.a=some ⟨k,0,none⟩->s.a=some ⟨k,0,none⟩∨w.heap.size<=k
theorem Gr.trans{s s' s'':Sl}{w w' sR:av}(h:Gr s w s' w')(k:Gr s' w' s'' sR):Gr s w s'' sR:=by
 have z:=h.1.size;refine⟨h.1.trans k.1 λx hx=>?_,λx hx=>?_⟩
 ·rcases h.2 x hx with e | e
  ·exact .inl e
  exact .inr e
 rcases k.2 x hx with e | e
 ·exact h.2 x e
 exact .inr aE
theorem Gr.only{s:Sl}{w w':av}(h:ay [] w w'):Gr s w s w':=⟨h.p0,λ_ h=>.inl h⟩
theorem SJ(t:Bool):∀(D:Nat) {w:av} {F:aJ} {x:Nd} {cs:aI} {B:Nat} {s:Sl} {xs:List gv} {pa dp:Int},kj t D w F x cs->(∀k,F k->k<B)->fQ B w s xs->B<=w.heap.size->
  xs.length+jk x<=1000000->0<=dp->dp+jk x<=1000000->
  az aq 82 #[s.v,ah cs.toArray,O U pa,O U dp] w λe w'=>∃s',e=ak (Sl.v s')/\fQ B w' s' (xs++Iy xs.length pa dp x)/\Gr s w s' w'
 | 0,_,_,_,_,_,_,_,_,_,h,_,_,_,_,_,_=>h.elim
 | D+1,w,F,.mk bb ks,cs,B,s,xs,pa,dp,⟨en,lv,mv,kids,iC,_,fO⟩,hF,hS,hBw,hn,h0,hd=>by
  have hk:=fO.1;clear fO;dsimp only[Nd.kids,Nd.b]at hk iC;subst iC;rw[jk]at hn hd;have F7:=hk.len;have hnn:=rc ks;refine(afU s bb.k (T bb.nm) (T bb.ini) (T bb.dft) en lv mv kids bb.a pa dp (λv w'=>∃s',v=Sl.v s'/\fQ B w' s' (xs++Iy xs.length pa dp (.mk bb ks))/\Gr s w s' w') w ?_).mono (by rintro _ w' ⟨v,rfl,s',rfl,h⟩;exact⟨s',rfl,h⟩);intro k0 w0 fO dQ cf;have z0:=cf.size;have FT:s.n=xs.length:=hS.len;have hS0:fQ B w0 s xs:=hS.xN cf.p0 λ_ _ _ h=>h;obtain⟨y,w2,k1,k3,s3,w3,g1,g2,⟨gs,g3,g4⟩,g5⟩:=lz (P:=aq) (t:=49) (ty:=49) (e:=70) (i:=Tryz.t70) (bytes:=48) (size:=5) (r:=yw) (G:=λ_=>False) (v:=ah #[O U bb.k,ab (T bb.nm),O U pa,O U dp,O U 0]) (x:=⟨bb.k,bb.nm,pa,dp,0⟩) (by kernel_rfl) (by kernel_rfl) rfl rfl rfl rfl aL aL aL gy hS0 aE rfl rfl (λ_ h=>h.elim) aE;have z2:=k3.size;have z3:=g3.size;have qC:s.a≠some ⟨k0,0,none⟩:=λe=>aa8
  have m3:Gr s w s3 w3:=by
   refine⟨(cf.ca k3).vV (g3.p (F:=λk=>s.a=some ⟨k,0,none⟩) λg hg=>.inl (g4 g hg).1),λk hk=>?_⟩;rcases g5 with e | ⟨g,e,h⟩
   ·exact .inl ab8
   rw[e]at hk;injection hk with hk;injection hk with hk;exact .inr aE
  have n3:∀k,s3.a=some ⟨k,0,none⟩->k≠k0:=λk hk e=>by
   subst e;rcases g5 with e | ⟨g,e,h⟩
   ·exact qC ab8
   rw[e]at hk;injection hk with hk;injection hk with hk;omega
  have UC:fQ B w3 s3 (xs++[⟨bb.k,bb.nm,pa,dp,0⟩]):=fQ.of g2;have tu:∀{u:av} {q:Sl},Gr s w q u->aA (kj t D) 9 u F kids ks:=λhm=>SliceF.pA (bU t D) aL hk hm.1 λk hFk _ h=>by
   have:=hF k hFk;have:=(hS.blk h).1;dsimp only at this;omega
  refine⟨y,w2,k1,k3.same aaf,s3,w3,g1,g3.same λx hx=>⟨aaL,λh=>by simp only[aO]at hx;subst hx;exact qC (g4 _ h).1⟩,λkv q i w'=>∃j:Nat,i=(j:Int)/\kv+j=ks.length/\j<=ks.length/\fQ B w' q (xs++⟨bb.k,bb.nm,pa,dp,0⟩::uV (xs.length+1) xs.length (dp+1) (ks.take j))/\Gr s w q w'/\w3.heap.size<=w'.heap.size/\∀k,q.a=some ⟨k,0,none⟩->k≠k0,ks.length,⟨0,rfl,aE,be _,by rw[ci,uV];exact UC,m3,aY _,n3⟩,?_⟩;rintro kv q _ w5 ⟨j,rfl,tw,vm,Co,m5,z5,n5⟩;constructor
  ·intro hc;have hj:j<ks.length:=aaX
   obtain⟨y,hy⟩:∃y,ks[j]? =some y:=⟨_,bJ hj⟩
   obtain⟨ad,y',ds,a1,a2,a3,a4,a5,a6⟩:=(tu m5).get (aZ j) aE;rw[aX,hy]at a2;injection a2 with a2;subst a2;have Il:=a6;obtain⟨D',rfl⟩:∃D',D=D'+1:=by
    cases D with
    | zero=>exact a6.elim
    | succ D'=>exact⟨D',rfl⟩
   obtain⟨qA,qB,nR,gj,rfl,_⟩:=Il;have vW:=nq hy;have WZ:(xs++⟨bb.k,bb.nm,pa,dp,0⟩::uV (xs.length+1) xs.length (dp+1) (ks.take j)).length=xs.length+1+dD (ks.take j):=by
    rw[aN,aW,sd];omega
   refine⟨ad,a1,_,_,_,_,qA,qB,nR,gj,_,a5,?_⟩;rw[eY aE aE,FT];refine(SJ t (D'+1) (pa:=((xs.length:Nat):Int)) a6 (s:=q) (xs:=xs++⟨bb.k,bb.nm,pa,dp,0⟩::uV (xs.length+1) xs.length (dp+1) (ks.take j)) (dp:=dp+1) hF Co (by have:=cf.size;omega) (by rw[WZ];omega) aE aE).mono ?_;rintro _ w7 ⟨q7,rfl,UD,m7⟩;have z7:=m7.1.size;refine⟨q7,rfl,m7.1.same λx hx=>?_,kv-1,aE,j+1,aaa,aE,aE,?_,m5.trans m7,aE,λk hk e=>?_⟩
   ·simp only[aO]at hx;subst hx;exact⟨aE,λh=>n5 _ h rfl⟩
   ·have e:ks.take (j+1)=ks.take j++[y]:=agi
    rw[e,E5,uV,uV,bD];rw[WZ,bf,bX]at UD;exact UD
   subst e;rcases m7.2 _ hk with h | h
   ·exact n5 _ h rfl
   omega
  intro hc;have kF:j=ks.length:=aa0
  subst kF;rw[bm (aY _)]at Co;have cY:(xs++⟨bb.k,bb.nm,pa,dp,0⟩::uV (xs.length+1) xs.length (dp+1) ks)[xs.length]? =some ⟨bb.k,bb.nm,pa,dp,0⟩:=by
   rw[cw (aY _),nH];rfl
  obtain⟨g,cells,yN,p1,p2,p3,p4,p5,p6,p7⟩:=Own.ag5 gy Co cY;have aco:yN=spv ⟨bb.k,bb.nm,pa,dp,0⟩:=p6;subst aco;have hql:q.n=xs.length+1+dD ks:=by rw[Co.len,aN,aW,sd];omega
  obtain⟨p8,p9⟩:=p7 4 (O U (q.n:Int)) ⟨bb.k,bb.nm,pa,dp,(q.n:Int)⟩ (λ_=>False) aL rfl λ_ h=>h.elim;rw[<-FT]at p2;refine⟨_,p2,g,xs.length*5+4,cells,_,by rw[gH,FT],p3,by rw[<-FT]at p8⊢;exact p8,λe=>n5 g p1 e.symm,λw9 fG TN=>⟨q,rfl,?_,?_⟩⟩
  ·have:=p9 w9 fG TN;rw[qG _ _ (aY _),nH,Iv]at this;rw[Iy];have e:(q.n:Int)=((xs.length+1+dD ks:Nat):Int):=by rw[hql]
   rw[e]at this;exact this
  refine m5.trans ⟨fG.p λk hk=>?_,λk hk=>.inl hk⟩;simp only[aO]at hk;subst hk;exact .inl p1
theorem aaH{w:av}{F:aJ}{D:Nat}{c:Ch}{vs:Sl}{cs:aI}(hx:ChR false (D+1) w F c vs cs)(hm:jk c.root<=64):
  az aq 42 #[ah (vs.v::cs).toArray] w λe w'=>(∃s,e=ak (Sl.v s)/\fQ w.heap.size w' s (lP c))/\ay [] w w':=by
 obtain⟨en,lv,mv,kids,iC,_⟩:=hx.root;subst iC;refine(afT vs c.root.b.k (T c.root.b.nm) (T c.root.b.ini) (T c.root.b.dft) en lv mv kids c.root.b.a (λv w'=>(∃s,v=Sl.v s/\fQ w.heap.size w' s (lP c))/\ay [] w w') w ?_).mono aa5;intro k0 w0 fO dQ cf;have z0:=cf.size;have hr0:kj false (D+1) w0 (λk=>k<w.heap.size) c.root (mH c.root.b.k c.root.b.nm c.root.b.ini c.root.b.dft en lv mv kids c.root.b.a):=
  (bU false _).keep ((bU false _).mono ((bU false _).inHeap hx.root) λk hk=>hk.2) λk _ bT=>cf.block k bT aM
 refine(SJ false (D+1) (B:=w.heap.size) (s:=Sl.nil) (xs:=[]) (pa:= -1) (dp:=0) hr0 (λk hk=>hk) (Own.nil _ _ _ _ _ _) z0 acq aL aE).mono ?_;rintro _ w1 ⟨s',rfl,hS,hG⟩;have cn:ay [] w0 w1:=hG.1.only λk hk=>adL
 exact⟨s',rfl,cn.same aaf,⟨s',rfl,by rw[bP]at hS;exact hS⟩,cf.ca cn⟩
theorem Wi{w:av}{F:aJ}{D:Nat}{c:Ch}{vs:Sl}{cs:aI}(hx:ChR false (D+1) w F c vs cs)(hn:Ip c)(hs:mB c.vars+lQ c.root<=1048576):
  az aq 20 #[ah (vs.v::cs).toArray] w λe w'=>(∃s:Sl,e=ak (ai #[Sl.v s,O U (iI c).2])/\((iI c).2=0->fQ w.heap.size w' s (lP c))/\((iI c).2≠0->s=Sl.nil))/\ay [] w w':=by
 obtain⟨en,lv,mv,kids,iC,_⟩:=hx.root;subst iC;refine(afS vs c.root.b.k (T c.root.b.nm) (T c.root.b.ini) (T c.root.b.dft) en lv mv kids c.root.b.a (λv w'=>(∃s:Sl,v=ai #[Sl.v s,O U (iI c).2]/\((iI c).2=0->fQ w.heap.size w' s (lP c))/\((iI c).2≠0->s=Sl.nil))/\ay [] w w') w ?_).mono aa5;intro k0 w0 fO dQ cf;have z0:=cf.size;have keep:∀{u:av},ay [] w u->ChR false (D+1) u F c vs (mH c.root.b.k c.root.b.nm c.root.b.ini c.root.b.dft en lv mv kids c.root.b.a):=λhO=>⟨hx.vars.keep dF aL λk _ bT=>hO.block k bT aM,(bU false _).keep hx.root λk _ bT=>hO.block k bT aM⟩
 refine(SG (keep cf) hn hs).mono ?_;rintro _ w1 ⟨rfl,cn⟩;have z1:=cn.size;have o1:=cf.ca cn;refine⟨_,_,rfl,cn.same aaf,λhc=>⟨⟨_,rfl,λh=>absurd h aax,λ_=>rfl⟩,o1⟩,λhc=>?_⟩;have hc:(iI c).2=0:=aax
 have hq:(gL c).2=0:=by rw[yE hn];exact hc
 refine(aaH (keep o1) (uZ hq)).mono ?_;rintro _ w2 ⟨⟨s2,rfl,hS⟩,cH⟩;exact⟨_,rfl,cH.same aaf,⟨s2,by rw[hc],λ_=>Own.low hS aE,λh=>absurd hc h⟩,o1.ca cH⟩
theorem Oz{c:Ch}(h:(gL c).2=0):pq c=true:=by
 unfold gL at h;by_cases h1:pq c=true
 ·exact h1
 rw[aQ h1]at h;exact absurd h aL
section
variable {w w':av} {F G:aJ} {s:Sl} {xs:List gv}
theorem B8{n:aH}{j:Nat}{x:gv}(hj:xs[j]? =some x)(h:∀y,y∈xs.take j->y.nm≠n)(e:x.nm=n):gf xs n=j:=by
 unfold gf;have hl:=tZ hj;have:wh n (xs.map λx:gv=>x.nm)=j:=by
  have e1:xs.map (λx:gv=>x.nm)=(xs.take j).map (λx:gv=>x.nm)++n::(xs.drop (j+1)).map λx:gv=>x.nm:=by
   rw[<-e,<-bK,<-cN];congr 1;rw[<-(bc.1 hj).2,zV,dP]
  rw[e1,Fa]
  ·rw[bN,cF];omega
  intro hm;obtain⟨y,hy,e'⟩:=gM.1 hm;exact h y hy e'
 rw[this,aV hl]
end
section
variable {xs:List gv}
theorem Fo.deep(F:Fo xs){n:Nat}:∀(j:Nat) {i:Nat} {x y:gv},i<j->xs[i]? =some x->xs[j]? =some y->(n:Int)<x.en->j<=n->x.dp<y.dp
 | j,i,x,y,wG,hx,hy,hn,hj=>by
  obtain⟨p,t,hp,ht,e1,e2,e3,e4,e5⟩:=F.pa j y aE hy;by_cases e:i=p
  ·subst e;rw[hx,bq]at ht;subst ht;omega
  have hip:i<p:=by
   refine Nat.lt_of_le_of_ne (yU λh=>?_) e;have:=e5 i x h wG hx;omega
  have:=Fo.deep F p hip hx ht hn aE;omega
def wD(xs:List gv)(a b:Int):Bool:=decide (b>=0)&&decide (b<(xs.length:Int))&&decide (a>b)&&decide (a<((xs[b.toNat]?).map (λs:gv=>s.en)).getD 0)
theorem Yn{m:Nat}{x:gv}(h:xs[m]? =some x)(n:Int):wD xs n m=decide ((m:Int)<n/\n<x.en):=by
 have:=tZ h;unfold wD;rw[aX,h,gp,iw,bH];simp only[aP,bI];omega
theorem vi{m:Nat}{x:gv}(h:xs[m]? =some x){n:Int}(hn:0<=n):nr xs m n=decide ((m:Int)<=n/\n<x.en):=by
 unfold nr VQ;rw[aX,h,bH];simp only[aP,bI];omega
theorem aaI(F:Fo xs)(a b:Int)(hb:b<xs.length):wD xs a b=xv xs a b:=by
 by_cases h0:0<=b
 ·obtain⟨m,rfl⟩:∃m:Nat,b=m:=⟨b.toNat,aE⟩
  obtain⟨x,hx⟩:=lh (xs:=xs) (i:=m) aE;rw[Yn hx];unfold xv;by_cases ha:0<=a
  ·rw[vi hx ha,bH];simp only[aP,bI];omega
  have:nr xs m a=false:=by unfold nr;rw[bA aE,cQ]
  rw[this,fI,bA aE]
 unfold wD xv nr;simp only[bA (by omega:¬b>=0),bA (by omega:¬(0<=b/\0<=a)),cQ,fI]
theorem aaJ(F:Fo xs){n:Int}(hn:0<=n){m:Nat}(hm:m<xs.length):(wD xs n m||(n==(m:Int)))=nr xs m n:=by
 obtain⟨x,hx⟩:=lh (xs:=xs) (i:=m) hm;have:=(F.up m x hx).1;rw[Yn hx,vi hx hn,bH];simp only[cx,bI,du];omega
theorem OA(F:Fo xs){a:Int}(ha:0<=a){j m:Nat}{x y:gv}(hj:xs[j]? =some x)(hm:xs[m]? =some y)(h:j<m)(c1:nr xs j a=true)(c2:nr xs m a=true):x.dp<y.dp:=by
 rw[vi hj ha,dR]at c1;rw[vi hm ha,dR]at c2;exact F.deep (n:=a.toNat) m h hj hm aE aE
end
section
variable {w w':av} {F G:aJ} {sl sN:Sl} {xs:List gv}
theorem ag1{B:Nat}{w:av}{s:Sl}{xs:List Int}(h:ug B w s xs):aA qk 1 w (λk=>B<=k) s xs:=(h.slice ly).mono ly λk hk=>hk.elim (λh=>h.elim) λh=>h.1
theorem MV{w:av}{F:aJ}{s:Sl}{l:List Int}(h:aA qk 1 w F s l){i:Nat}{x:Int}(hx:l[i]? =some x):∃ad,cR s (i:Int) 1 ad/\aB w ad [O U x]:=by
 have bT:=(bc.1 hx).1;have hl:=h.len;obtain⟨ad,y,cs,g1,g2,g3,g4,g5,g6⟩:=h.get (aZ i) aE;rw[aX,hx]at g2;injection g2 with g2;subst g2;obtain⟨rfl,_⟩:=g6;exact⟨ad,g1,g5⟩
theorem FA(w:av)(k:Int):az aq 83 #[O U k] w λe w'=>e=ak (aj (gK k))/\w'=w:=by
 refine ret (af4 _ _ _ ?_);exact⟨by unfold gK;congr 1;rw[bH];simp,rfl⟩
theorem Av(h:aA yw 5 w F sl xs)(n:aH):az aq 22 #[sl.v,ab (T n)] w λe w'=>e=ak (O U (gf xs n))/\w'=w:=by
 refine ret (af0 _ _ _ _ ?_);have hl:=h.len;have PB:=h.cap;have Aw:=h.big;refine⟨λkv i u=>∃j:Nat,i=(j:Int)/\kv+j=xs.length/\j<=xs.length/\(∀y,y∈xs.take j->y.nm≠n)/\w=u,xs.length,⟨0,rfl,aE,be _,aM,rfl⟩,?_⟩;rintro kv _ _ ⟨j,rfl,tw,hj,hh,rfl⟩;refine⟨λhc=>?_,λhc=>?_⟩
 ·have hc:=aR hc;obtain⟨x,hx⟩:=lh (xs:=xs) (i:=j) aE;obtain⟨ad,a1,a2,_⟩:=od h hx;refine⟨ad,a1,_,a2.dN 1 _ rfl,λhb=>?_,λhb=>⟨kv-1,aE,j+1,aaa,aE,aE,λy hy=>?_,rfl⟩⟩
  ·rw[gU]at hb;rw[B8 hx hh (aR hb)];exact⟨rfl,rfl⟩
  rw[gU]at hb;rw[bn,hx,cu]at hy;rcases hy with hy | hy
  ·exact hh y hy
  simp only[Option.toList,aO]at hy;subst hy;exact aU hb
 have hc:=aU hc;rw[bm aE]at hh;refine⟨?_,rfl⟩;rcases ky xs n with⟨e,_⟩ | ⟨i,x,_,hx,e⟩
 ·rw[e]
 exact absurd e (hh x (bh hx))
theorem SK(h:aA yw 5 w F sl xs)(a b:Int):az aq 84 #[sl.v,O U a,O U b] w λe w'=>e=ak (aj (wD xs a b))/\w'=w:=by
 refine ret (af5 _ _ _ _ _ ?_);unfold XH wD;rw[h.len];by_cases hc:((decide (b>=0)&&decide (b<(xs.length:Int)))&&decide (a>b))=true
 ·have sS:=hc;simp only[aP]at sS;have h1:=aR sS.1.1;have h2:=aR sS.1.2;obtain⟨i,rfl⟩:∃i:Nat,b=i:=⟨b.toNat,aE⟩
  obtain⟨y,hy⟩:=lh (xs:=xs) (i:=i) aE;obtain⟨ad,a1,_,_,_,a5⟩:=od h hy;refine⟨ad,λ_=>a1,y.en,λ_=>a5,?_,rfl⟩;rw[aX,hy];rfl
 refine⟨⟨0,0,none⟩,λh=>absurd h hc,0,λh=>absurd h hc,?_,rfl⟩;rw[nI]at hc;rw[hc,cQ,cQ]
theorem Wj(h:aA yw 5 w F sl xs)(hF:Fo xs)(hm:xs.length<=1000){a b:Int}(hN:aA qk 1 w G sN [a,b])(ha:xS xs a)(hb:xS xs b):
  az aq 128 #[sl.v,sN.v] w λe w'=>e=ak (O U (xx xs a b))/\ay [] w w':=by
 refine ret (agb _ _ _ _ ?_);have hl:=h.len;have W7:sN.n=2:=hN.len;have ha0:=ha.1;have Aw:=hb.1;have kL:∀{u:av},ay [] w u->aA yw 5 u F sl xs:=λhO=>SliceF.only gy aL h hO aM;have kN:∀{u:av},ay [] w u->aA qk 1 u G sN [a,b]:=λhO=>SliceF.only ly aL hN hO aM;refine⟨λkv apr i u=>∃m:Nat,i=(m:Int)/\kv+m=xs.length/\m<=xs.length/\ay [] w u/\apr=xw xs a b m,xs.length,⟨0,rfl,aE,be _,Only.refl _ _,rfl⟩,?_⟩;rintro kv _ _ w0 ⟨m,rfl,tw,Io,hO,rfl⟩;refine⟨λhc=>?_,λhc=>?_⟩
 ·rw[aP]at hc;have uE:=aR hc.1;obtain⟨x,hx⟩:=lh (xs:=xs) (i:=m) aE;refine⟨λb' u=>b'=xw xs a b (m+1)/\ay [] w u,λb' u ⟨h1,h2⟩=>⟨kv-1,aE,m+1,aaa,aE,aE,h2,h1⟩,λO0 al i u=>∃t:Nat,i=(t:Int)/\O0+t=2/\t<=2/\al=(([a,b].take t).all λn=>nr xs m n)/\w0=u,2,⟨0,rfl,aE,be _,rfl,rfl⟩,?_⟩;rintro O0 _ _ _ ⟨t,rfl,Xd,Ia,rfl,rfl⟩;refine⟨λvK=>?_,λvK=>?_⟩
  ·have vK:=aR vK;obtain⟨ad,y,cs,g1,g2,g3,g4,g5,g6⟩:=(kN hO).get (aZ t) aE;obtain⟨rfl,_⟩:=g6;rw[aX]at g2;have hy:0<=y:=by
    have:=bh g2;simp only[ba,bp,cb]at this;omega
   refine⟨ad,g1,y,g5,(SK (kL hO) y m).mono ?_⟩;rintro _ u ⟨rfl,hu⟩;obtain rfl:w0=u:=hu.symm;refine⟨_,rfl,ad,λ_ _=>g1,y,λ_ _=>g5,O0-1,aE,t+1,aaa,aE,aE,?_,rfl⟩;rw[bn,g2,ja,aaJ hF hy aE];simp
  have vK:=aU vK;have ht:t=2:=aE
  subst ht;have eal:([a,b].take 2).all (λn=>nr xs m n)=(nr xs m a&&nr xs m b):=aM
  rw[eal];have uG:xw xs a b (m+1)=if(nr xs m a&&nr xs m b)=true then(m:Int)else xw xs a b m:=rfl
  obtain⟨ad,a1,_,_,a4,_⟩:=od (kL hO) hx;rcases uW (xs:=xs) a b m with⟨e,_⟩ | ⟨j,e,hj,ld,_⟩
  ·rw[e]at uG⊢;refine⟨ad,λ_ h=>absurd h aL,0,λ_ h=>absurd h aL,ad,λ_ h=>absurd h aL,0,λ_ h=>absurd h aL,λhq w4 h4=>⟨?_,hO.ca h4⟩,λhq w5 h5=>⟨?_,hO.ca h5⟩⟩
   ·rw[uG,aV adP]
   rw[uG,aQ adP]
  obtain⟨z,hz⟩:=lh (xs:=xs) (i:=j) aE;obtain⟨KI,b1,_,_,b4,_⟩:=od (kL hO) hz;rw[e]at uG⊢;refine⟨ad,λ_ _=>a1,_,λ_ _=>a4,KI,λ_ _=>b1,_,λ_ _=>b4,λhq w4 h4=>⟨?_,hO.ca h4⟩,λhq w5 h5=>⟨?_,hO.ca h5⟩⟩
  ·rw[uG,aV];rw[aP]at hq;exact hq.1
  rw[uG,aQ];intro hcm;have:=OA hF ha0 hz hx hj (aP _ _▸ld).1 (aP _ _▸hcm).1;rw[hcm,bE (show x.dp>z.dp from this)]at hq;simp at hq
 refine⟨?_,hO⟩;have:m=xs.length:=by
  rw[jI]at hc;rcases hc with hc | hc
  ·have:=aU hc;omega
  have:=aU hc;omega
 rw[this];rfl
end
structure Lk (f:Ft) (w:av) (b:Nat) (F:aJ) (vs:Sl) (vars:List Vr) (nc:aI) (sl:Sl) (xs:List gv):Prop where
 blk:aF w b 65 (vs.v::(nc++[sl.v,O U f.1,O U f.2]))
 nc9:nc.length=9
 vr:aA xQ 3 w F vs vars
 sp:aA yw 5 w F sl xs
 nF:∀k,F k->k≠b
section
variable {f g:Ft} {w w':av} {b:Nat} {F G:aJ} {vs sl:Sl} {vars:List Vr} {nc:aI} {xs:List gv}
theorem Lk.only(h:Lk f w b F vs vars nc sl xs)(hO:ay [] w w'):Lk f w' b F vs vars nc sl xs:=
 ⟨hO.blk h.blk aM,h.nc9,SliceF.only dF aL h.vr hO aM,SliceF.only gy aL h.sp hO aM,h.nF⟩
theorem Lk.jX(h:Lk f w b F vs vars nc sl xs)(hO:ay [b] w w')(hB:aF w' b 65 (vs.v::(nc++[sl.v,O U g.1,O U g.2]))):Lk g w' b F vs vars nc sl xs:=
 ⟨hB,h.nc9,SliceF.only dF aL h.vr hO λk hk _ hm=>h.nF k hk aa3,SliceF.only gy aL h.sp hO λk hk _ hm=>h.nF k hk aa3,h.nF⟩
theorem Lk.lb(h:Lk f w b F vs vars nc sl xs):b<w.heap.size:=h.blk.lt
theorem Lk.row(h:Lk f w b F vs vars nc sl xs):aB w ((⟨b,0,none⟩:Addr).add 10) [sl.v]:=by
 have h9:=h.nc9;exact Blk.dN h.blk 10 (by rw[dm,cw aE,h9];rfl)
theorem rm(h:Lk f w b F vs vars nc sl xs)(e a:Int):az aq 23 #[ae (some ⟨b,0,none⟩),O U e,O U a] w λr w'=>r=ak (ai #[])/\Lk (ix f [(e,a)]) w' b F vs vars nc sl xs/\ay [b] w w':=by
 refine ret (af1 _ _ _ _ _ ?_);have h9:=h.nc9;have hg:(vs.v::(nc++[sl.v,O U f.1,O U f.2]))[11]? =some (.int U f.1):=by
  rw[dm,cw aE,h9];rfl
 refine⟨f.1,Blk.dN h.blk 11 hg,λhf=>⟨b,11,_,_,rfl,h.blk,aaf,λw0 hO Uk=>⟨rfl,?_,hO⟩⟩,λhf=>⟨rfl,?_,Only.refl _ _⟩⟩
 ·have e1:cj (vs.v::(nc++[sl.v,O U f.1,O U f.2])) 11 [O U e,O U a]=vs.v::(nc++[sl.v,O U e,O U a]):=by
   unfold cj;rw[fS,List.take_append,h9,bm aE];simp[h9]
  rw[e1]at Uk;have hf:f.1=0:=acp
  have:ix f [(e,a)]=(e,a):=by simp[ix,hf]
  rw[this];exact h.jX hO Uk
 have hf:f.1≠0:=acp
 rw[E7 hf];exact h
theorem MW(h:Lk f w b F vs vars nc sl xs){ok:Bool}(e a:Int)(oh:ok=false):az aq 23 #[ae (some ⟨b,0,none⟩),O U e,O U a] w λr w'=>r=ak (ai #[])/\Lk (ix f (bad ok e a)) w' b F vs vars nc sl xs/\ay [b] w w':=by
 subst oh;exact rm h e a
theorem MX(h:Lk f w b F vs vars nc sl xs)(hm:vars.length<=8388608)(s:aH):az aq 126 #[ae (some ⟨b,0,none⟩),ab (T s)] w λe w'=>e=ak (aj (decide (s∈vars.map λv=>v.n)))/\w'=w:=by
 refine ret (af7 _ _ _ _ ?_);have hl:=h.vr.len;refine⟨λkv i u=>∃j:Nat,i=(j:Int)/\kv+j=vars.length/\j<=vars.length/\s∉(vars.take j).map (λv=>v.n)/\w=u,vars.length,⟨0,rfl,aE,be _,aM,rfl⟩,?_⟩;rintro kv _ _ ⟨j,rfl,tw,hj,hh,rfl⟩;refine⟨vs,Blk.dN h.blk 0 rfl,λhc=>?_,λhc=>⟨?_,rfl⟩⟩
 ·have hc:=aR hc;obtain⟨ad,y,cs,g1,g2,g3,g4,g5,g6⟩:=h.vr.get (aZ j) aE;have g6:cs=[ab (T y.n),O U y.v,O U y.a]:=g6;subst g6;rw[aX]at g2;refine⟨vs,Blk.dN h.blk 0 rfl,ad,g1,_,g5.dN 0 _ rfl,λhb=>⟨?_,rfl⟩,λhb=>⟨kv-1,aE,j+1,aaa,aE,aE,?_,rfl⟩⟩
  ·rw[gU]at hb;have hb:=aR hb;rw[bE (gM.2 ⟨y,bh g2,hb⟩)]
  rw[gU]at hb;rw[bn,g2,cN,cu];rintro(h' | h')
  ·exact hh h'
  simp only[Option.toList,bK,fC,aO]at h';exact aU hb h'.symm
 have hc:=aU hc;rw[bm aE]at hh;rw[bA hh]
theorem OB(h:Lk f w b F vs vars nc sl xs)(hm:xs.length<=1000)(s:aH):az aq 127 #[ae (some ⟨b,0,none⟩),ab (T s)] w λe w'=>e=ak (aj (FZ xs s))/\w'=w:=by
 refine ret (af9 _ _ _ _ ?_);refine⟨sl,h.row,(Av h.sp s).mono ?_⟩;rintro _ u ⟨rfl,hu⟩;obtain rfl:w=u:=hu.symm;refine⟨_,rfl,λr u=>r=FZ xs s/\w=u,λr u ⟨h1,h2⟩=>⟨by rw[h1],h2.symm⟩,λhc=>?_,λhc=>⟨?_,rfl⟩⟩
 ·have hc:=aR hc;rcases ky xs s with⟨e,_⟩ | ⟨j,y,e,hy,_⟩
  ·omega
  obtain⟨ad,a1,a2,_⟩:=od h.sp hy;rw[e];refine⟨sl,h.row,ad,a1,_,a2.dN 0 _ rfl,(FA w y.k).mono ?_⟩;rintro _ u ⟨rfl,hu⟩;refine⟨_,rfl,?_,hu.symm⟩;unfold FZ;rw[e,jO hy,bE aE,bZ]
 unfold FZ;rw[show decide (0<=gf xs s)=false from hc,cQ]
theorem B9(hG:∀k,G k->k≠b)(hv:vars.length<=8388608)(hm:xs.length<=1000):∀(d:Nat) {f:Ft} {w:av} {x:Ex} {cs:aI},Lk f w b F vs vars nc sl xs->Jn false d w G x cs->Ai x<=8388608->
  az aq 86 #[ae (some ⟨b,0,none⟩),ah cs.toArray] w λe w'=>e=ak (ai #[])/\Lk (ix f (Pa xs (vars.map λv=>v.n) x)) w' b F vs vars nc sl xs/\ay [b] w w'
 | 0,_,_,_,_,_,h,_=>h.elim
 | d+1,f,w,x,cs,h,⟨s,iC,F1⟩,hz=>by
  subst iC;have hs:=F1.1;have pH:=hs.len;have hb:=h.lb;rw[yr]at hz;have hzl:x.dh.length<=Ix x.dh:=by
   have:∀l:List Ex,l.length<=Ix l:=λl=>by induction l with
    | nil=>exact be _
    | cons a l ih=>
     rw[Ix,aW];have:=yr a;omega
   exact this _
  generalize Nr:(vars.map λv=>v.n)=vn;refine ret (af8 _ _ _ _ _ _ _ _ _ ?_);intro k0 w0 fO dQ cf;have z0:=cf.size;have h0:=h.only cf;have sm:∀{u u':av},ay [b] w u->w0.heap.size<=u.heap.size->ay [b] u u'->bS [k0] u u':=λ_ hz hO=>hO.same aaf;let St:Ft->av->Prop:=λf u=>Lk f u b F vs vars nc sl xs/\ay [b] w u/\w0.heap.size<=u.heap.size
  have s0:St f w0:=⟨h0,only1 cf,aY _⟩
  refine⟨λr u=>r=(decide (x.k≠2)||decide (x.s∈vn))/\St f u,λb0 w1 ⟨e1,s1⟩=>⟨λr u=>r=(decide (x.k≠3)||FZ xs x.s)/\St f u,λb1 w2 ⟨e2,s2⟩=>⟨St (ix f (bad (Iz xs vn x.k x.s) 23 x.a)),λw3 s3=>?_,λhw=>?_,λhw=>?_⟩,λhk=>⟨?_,s1⟩,λhk=>?_⟩,λhk=>⟨?_,s0⟩,λhk=>?_⟩
  ·refine⟨λkv i u=>∃j:Nat,i=(j:Int)/\kv+j=x.dh.length/\j<=x.dh.length/\St (ix f (bad (Iz xs vn x.k x.s) 23 x.a++ub xs vn (x.dh.take j))) u,x.dh.length,⟨0,rfl,aE,be _,by rw[ci,ub,bD];exact s3⟩,?_⟩;rintro kv _ w4 ⟨j,rfl,tw,hj,h4,o4,z4⟩;refine⟨λhc=>?_,λhc=>?_⟩
   ·have hc:=aR hc;obtain⟨ad,y,ds,g1,g2,g3,g4,g5,g6⟩:=(SliceF.only (kw false d) aL hs o4 λk hk _ hm=>hG k hk aa3).get (aZ j) aE;rw[aX]at g2;have hyz:=EU (bh g2);have Cm:=g6;obtain⟨s',rfl⟩:=dX ⟨d,g6⟩;have zw:=B9 hG hv hm d h4 Cm aE;rw[Nr]at zw;refine⟨ad,g1,_,_,_,_,_,_,g5,zw.mono ?_⟩;rintro _ w5 ⟨rfl,h5,dY⟩;have z5:=dY.size;have oo:x.dh.take (j+1)=x.dh.take j++[y]:=by rw[bn,g2];rfl
    refine⟨rfl,sm o4 z4 dY,kv-1,aE,j+1,aaa,aE,aE,?_,fW o4 dY,aE⟩;rw[oo,BP,ub,ub,bD,<-bf,fD];exact h5
   have hc:=aU hc;have kF:j=x.dh.length:=aE
   subst kF;rw[bm (aY _),<-Rs]at h4;exact⟨rfl,h4,o4⟩
  ·obtain⟨h2,o2,z2⟩:=s2;have oh:Iz xs vn x.k x.s=false:=by
    unfold Iz;rw[<-e1,<-e2];cases b0<;>cases b1<;>simp at hw⊢
   refine(MW h2 23 x.a oh).mono ?_;rintro _ w6 ⟨rfl,h6,dK⟩;have z6:=dK.size;exact⟨rfl,sm o2 z2 dK,h6,fW o2 dK,aE⟩
  ·have oh:Iz xs vn x.k x.s=true:=by
    unfold Iz;rw[<-e1,<-e2];cases b0<;>cases b1<;>simp at hw⊢
   rw[oh];exact s2
  ·have hk:x.k≠3:=aaU
   rw[bE hk];rfl
  ·have hk:x.k=3:=aaU
   obtain⟨h1,o1,z1⟩:=s1;refine(OB h1 hm _).mono ?_;rintro _ u ⟨rfl,hu⟩;obtain rfl:w1=u:=hu.symm;exact⟨_,rfl,bS.refl _ _,adC,h1,o1,z1⟩
  ·have hk:x.k≠2:=aaU
   rw[bE hk];rfl
  have hk:x.k=2:=aaU
  refine(MX h0 hv _).mono ?_;rintro _ u ⟨rfl,hu⟩;obtain rfl:w0=u:=hu.symm;exact⟨_,rfl,bS.refl _ _,by rw[hk,Nr];rfl,s0⟩
theorem H6(hG:∀k,G k->k≠b)(hv:vars.length<=8388608)(hm:xs.length<=1000){l:Sl}{om:List Ac}(h:Lk f w b F vs vars nc sl xs)(hl:jH false (mG false) 9 139 w G l om)(hz:iW om<=8388608):
  az aq 85 #[ae (some ⟨b,0,none⟩),l.v] w λe w'=>e=ak (ai #[])/\Lk (ix f (jV xs (vars.map λv=>v.n) om)) w' b F vs vars nc sl xs/\ay [b] w w':=by
 generalize Nr:(vars.map λv=>v.n)=vn;refine ret (af6 _ _ _ _ ?_);have FT:=hl.1.len;have FK:=fT om;have kp:∀{u:av},ay [b] w u->aA (mG false) 9 u G l om:=λhO=>SliceF.only (cy false) aL hl.1 hO λk hk _ hm=>hG k hk aa3;let St:Ft->av->Prop:=λf u=>Lk f u b F vs vars nc sl xs/\ay [b] w u
 refine⟨λkv i u=>∃j:Nat,i=(j:Int)/\kv+j=om.length/\j<=om.length/\St (ix f (jV xs vn (om.take j))) u,om.length,⟨0,rfl,aE,be _,by rw[ci];exact h,Only.refl _ _⟩,?_⟩;rintro kv i u ⟨j,rfl,tw,hj,kR⟩;refine⟨λld=>?_,λld=>?_⟩
 ·have ld:=aR ld;obtain⟨y,hy⟩:∃y,om[j]? =some y:=⟨_,bJ (show j<om.length by omega)⟩
  have Np:=pr (bh hy);unfold Du at Np;have e1:jV xs vn (om.take (j+1))=jV xs vn (om.take j)++(bad (decide (y.k≠1)||decide (y.n∈vn)) 23 y.a++Pa xs vn y.x):=by
   rw[bn,hy];unfold jV;rw[gR];simp[acF]
  have at_:∀{v:av},ay [b] w v->∃ad s,cR l (j:Int) 9 ad/\aB v (ad.add 0) [O U y.k]/\aB v (ad.add 1) [ab (T y.n)]/\aB v (ad.add 2) (lf y.x.k y.x.n y.x.s y.x.op s y.x.a)/\aB v (ad.add 8) [O U y.a]/\rE false v G y.x (lf y.x.k y.x.n y.x.s y.x.op s y.x.a):=fun{v} hv=>by
   obtain⟨ad,y',cs,q1,q2,q3,q4,q5,q6⟩:=(kp hv).get (aZ j) aE;rw[aX,hy]at q2;injection q2 with q2;subst q2;obtain⟨xc,rfl,M6⟩:=q6;obtain⟨s,rfl⟩:=dX M6;exact⟨ad,s,q1,q5.dN 0 _ rfl,q5.dN 1 _ rfl,q5.part 2 λi v hi=>HZ hi,q5.dN 8 _ rfl,M6⟩
  obtain⟨ad,s,g1,g2,g3,g4,g5,g6⟩:=at_ kR.2;refine⟨λr v=>r=(decide (y.k≠1)||decide (y.n∈vn))/\St (ix f (jV xs vn (om.take j))) v,λb0 w1 ⟨e0,s1⟩=>⟨St (ix f (jV xs vn (om.take j)++bad (decide (y.k≠1)||decide (y.n∈vn)) 23 y.a)),λw2 s2=>?_,λhb=>?_,λhb=>?_⟩,ad,g1,_,g2,λhk=>⟨?_,kR⟩,λhk=>⟨ad,g1,_,g3,(MX kR.1 hv _).mono ?_⟩⟩
  ·obtain⟨KI,s2',p1,p2,p3,p4,p5,d,p6⟩:=at_ s2.2;have zw:=B9 hG hv hm d s2.1 p6 aE;rw[Nr]at zw;refine⟨KI,p1,_,_,_,_,_,_,p4,zw.mono ?_⟩;rintro _ w3 ⟨rfl,h3,cT⟩;refine⟨rfl,kv-1,aE,j+1,aaa,aE,aE,?_,fW s2.2 cT⟩;rw[e1,<-bf,fD];exact h3
  ·obtain⟨KI,s2',p1,p2,p3,p4,p5,p6⟩:=at_ s1.2;have oh:(decide (y.k≠1)||decide (y.n∈vn))=false:=by rw[<-e0];simpa using hb
   refine⟨KI,p1,_,p5,(MW s1.1 23 _ oh).mono ?_⟩;rintro _ w4 ⟨rfl,h4,dw⟩;refine⟨rfl,?_,fW s1.2 dw⟩;rw[fD];exact h4
  ·have oh:(decide (y.k≠1)||decide (y.n∈vn))=true:=by rw[<-e0];simpa using hb
   rw[oh];show St (ix f (_++[])) w1;rw[bD];exact s1
  ·have hk:y.k≠1:=aaU
   rw[bE hk];rfl
  have hk:y.k=1:=aaU
  rintro _ v ⟨rfl,hu⟩;obtain rfl:u=v:=hu.symm;exact⟨_,rfl,by rw[hk,Nr];rfl,kR⟩
 have ld:=aU ld;have kF:j=om.length:=aE
 subst kF;rw[bm (aY _)]at kR;exact⟨rfl,kR.1,kR.2⟩
end
section
variable {f:Ft} {w w':av} {b:Nat} {F G:aJ} {vs sl:Sl} {vars:List Vr} {nc:aI} {xs:List gv}
theorem Wk(F:Fo xs){a b:Int}(ha:xS xs a)(hb:xS xs b):∃(m:Nat) (x:gv),xx xs a b=m/\xs[m]? =some x:=by
 unfold xx;rcases uW (xs:=xs) a b xs.length with⟨_,h⟩ | ⟨m,e,hm,_⟩
 ·have h0:=h 0 F.ne;obtain⟨x,hx⟩:=lh (xs:=xs) (i:=0) F.ne;have hr:=(F.rt x hx).2.2;obtain⟨a1,a2⟩:=ha;obtain⟨b1,b2⟩:=hb;rw[vi hx a1,vi hx b1,bE aE,bE aE]at h0;cases h0
 obtain⟨x,hx⟩:=lh (xs:=xs) hm;exact⟨m,x,e,hx⟩
theorem H7(hF:Fo xs)(hm:xs.length<=64){l:Sl}{tg:List (aH)}(h:Lk f w b F vs vars nc sl xs)(hl:aA kb 1 w G l tg)(hz:tg.length<=1100000):
  az aq 87 #[ae (some ⟨b,0,none⟩),l.v] w λe w'=>e=ak (aj (Jz xs [] tg))/\ay [] w w':=by
 refine ret (aga _ _ _ _ ?_);have FT:=hl.len;have kT:∀{u:av},ay [] w u->aA kb 1 u G l tg:=λhO=>SliceF.only cX aL hl hO aM;have kX:∀{u:av},ay [] w u->aA yw 5 u F sl xs:=λhO=>(h.only hO).sp;refine⟨λkv q i u=>∃(j:Nat) (is:List Int),i=(j:Int)/\kv+j=tg.length/\j<=tg.length/\is.length=j/\(∀n,n∈is->xS xs n)/\ug w.heap.size u q is/\Jz xs [] tg=Jz xs is (tg.drop j)/\ay [] w u,tg.length,⟨0,[],rfl,aE,be _,rfl,λn hn=>by simp at hn,Own.nil _ _ _ _ _ _,rfl,Only.refl _ _⟩,?_⟩;rintro kv q _ w0 ⟨j,is,rfl,tw,hj,Uu,his,hI,pG,hO⟩;refine⟨λhc w1 cn=>?_,λhc=>⟨?_,hO⟩⟩
 ·have hc:=aR hc;have o1:=hO.ca cn;obtain⟨ad,s,cs,g1,g2,g3,g4,g5,g6⟩:=(kT o1).get (aZ j) aE;have g6:cs=[ab (T s)]:=g6;subst g6;rw[aX]at g2;have hdr:tg.drop j=s::tg.drop (j+1):=by
   obtain⟨bT,e⟩:=bc.1 g2;rw[<-e,zV]
  rw[hdr,HA]at pG;refine⟨sl,(h.only o1).row,ad,g1,_,g5,(Av (kX o1) s).mono ?_⟩;rintro _ u ⟨rfl,hu⟩;obtain rfl:w1=u:=hu.symm;refine⟨_,rfl,λuE=>⟨?_,o1⟩,λuE=>?_⟩
  ·rw[pG,aV (aR uE)]
  have uE:=aU uE;rw[aQ uE]at pG;have FU:=Mu hF uE;obtain⟨e,_⟩ | ⟨p,x,e,hx,_⟩:=ky xs s
  ·omega
  obtain⟨ad1,a1,a2,a3,_⟩:=od (kX o1) hx;have hI1:ug w.heap.size w1 q is:=hI.kp cn;have eN:Dv xs s=if gK x.k=true then x.pa else(p:Int):=by
   unfold Dv;rw[e,jO hx,uc hx]
  rw[e]at uE⊢;refine⟨sl,(h.only o1).row,ad1,a1,_,a2.dN 0 _ rfl,(FA w1 x.k).mono ?_⟩;rintro _ u ⟨rfl,hu⟩;obtain rfl:w1=u:=hu.symm;refine⟨_,rfl,λi3 u=>i3=Dv xs s/\w1=u,λi3 w4 ⟨h3,hw4⟩=>?_,λhh=>⟨sl,(h.only o1).row,ad1,a1,_,a3,?_,rfl⟩,λhh=>⟨?_,rfl⟩⟩
  ·subst hw4 h3;refine⟨λO0 i u=>∃t:Nat,i=(t:Int)/\O0+t=is.length/\t<=is.length/\((is.take t).any λo=>!Md xs (Dv xs s) o)=false/\ay [] w1 u,is.length,⟨0,rfl,aE,be _,rfl,Only.refl _ _⟩,?_⟩;rintro O0 _ w5 ⟨t,rfl,Xd,ht,acG,dY⟩;have hqn:=hI1.len;have o5:=o1.ca dY;have hI5:ug w.heap.size w5 q is:=hI1.kp dY;refine⟨λvK w6 dK=>?_,λvK=>?_⟩
   ·have vK:=aR vK;have o6:=o5.ca dK;have hI6:ug w.heap.size w6 q is:=hI5.kp dK;obtain⟨y,hy⟩:∃y,is[t]? =some y:=⟨_,bJ (show t<is.length by omega)⟩
    have hyh:=his y (bh hy);obtain⟨KI,b1,b2⟩:=MV (ag1 hI6) hy;obtain⟨y4,w7,k1,k2,k3⟩:=agu w6 (yx FU hm) (yx hyh hm);refine⟨λk=>k=b,rfl,sl,(h.only o6).row,KI,b1,y,b2,y4,w7,k1,bR.only k2,(Wj (kX (o6.ca k2)) hF aE k3 FU hyh).mono ?_⟩;rintro _ w8 ⟨rfl,fj⟩;have o8:=(o6.ca k2).ca fj;obtain⟨UE,c1,c2⟩:=MV (ag1 ((hI6.kp k2).kp fj)) hy;obtain⟨m,z,em,M9⟩:=Wk hF FU hyh;obtain⟨ad4,d1,d2,_⟩:=od (kX o8) M9;have eap:(!Md xs (Dv xs s) y)=(((m:Int)==Dv xs s||(m:Int)==y)||z.k !=2):=by
     unfold Md;rw[em,jO M9,bH];by_cases q1:(m:Int)=Dv xs s<;>by_cases q2:(m:Int)=y<;>by_cases q3:z.k=2<;>simp[q1,q2,q3]
    rw[em];refine⟨_,rfl,bR.only fj,UE,λ_=>c1,_,λ_=>c2,sl,λ_=>(h.only o8).row,ad4,λ_=>d1,_,λ_=>d2.dN 0 _ rfl,λhq=>⟨?_,o8⟩,λhq=>⟨O0-1,aE,t+1,aaa,aE,aE,?_,(dY.ca dK).ca (k2.ca fj)⟩⟩
    ·rw[pG,aV];exact List.any_eq_true.2 ⟨y,bh hy,eap.trans hq⟩
    rw[bn,hy,AE,acG,rF];simp only[Option.toList,List.any_cons,List.any_nil,F9];exact eap.trans hq
   have vK:=aU vK;rw[bm aE]at acG;rw[aQ (by rw[acG];decide)]at pG;obtain⟨y1,w9,k1,k3,s',de,g1,g2,g3,_⟩:=X9 w hI5 o5 (Dv xs s) (yx FU hm) aE;refine⟨y1,w9,k1,s',de,g1,kv-1,aE,j+1,is++[Dv xs s],aaa,aE,aE,by rw[aN,br,Uu],λn hn=>?_,g2,pG,g3⟩;rcases cu.1 hn with hn | hn
   ·exact his n hn
   simp only[aO]at hn;subst hn;exact FU
  ·rw[eN,aV hh]
  rw[eN,aQ acW]
 have hc:=aU hc;rw[dv aE]at pG;rw[pG];rfl
end
def Wl(k:Int)(n:Nat)(i:aH)(g:Bool):Bool:=decide (k=2/\(i≠[]∨n<2))||decide (k=1/\0<n/\g=false)||decide (k=1/\n=0/\i≠[])
theorem Yo(n:Nat)(i:aH)(g:Bool):Wl 2 n i g=true↔i≠[]∨n<2:=by unfold Wl;simp
theorem MY(n:Nat)(i:aH)(g:Bool):Wl 1 n i g=true↔(0<n/\g=false)∨(n=0/\i≠[]):=by unfold Wl;simp
theorem ag2{xs:List gv}{b:Nb}{l:List Nd}{n:Nat}(f:Ft)(hk:1<=b.k/\b.k<=4)(hh:gK b.k=false):ix f (vD xs b l n)=if Wl b.k (BR l) b.ini (xz b.ini l)=true then ix f [(25,b.a)]else if b.k=1/\BR l=0/\l.length≠0 then ix f [(26,b.a)]else f:=by
 have hh':¬(b.k=3∨b.k=4):=λh=>by unfold gK at hh;rw[bE h]at hh;cases hh
 unfold vD;rw[aQ acW];rcases(by omega:b.k=2∨b.k=1)with h2 | h1
 ·rw[aV h2,h2];by_cases c:b.ini≠[]∨BR l<2
  ·have:(decide (b.ini=[])&&decide (1<BR l))=false:=by
    rw[jI,eV,eV];rcases c with c | c
    ·exact .inl c
    exact .inr aE
   rw[aV ((Yo _ _ _).2 c),this];rfl
  have:(decide (b.ini=[])&&decide (1<BR l))=true:=by
   rw[aP,dR,dR];exact⟨KN.1 λh=>c (.inl h),Nat.lt_of_not_le λh=>c (.inr aE)⟩
  rw[aQ (λh=>c ((Yo _ _ _).1 h)),aQ (λh=>absurd h.1 aL),this];rfl
 rw[aQ aE,h1];by_cases hs:0<BR l
 ·rw[aV hs];cases hg:xz b.ini l
  ·rw[aV ((MY _ _ _).2 (.inl ⟨hs,rfl⟩))];rfl
  rw[aQ (λh=>((MY _ _ _).1 h).elim (λh=>(by cases h.2)) λh=>aE),aQ (λh=>aE)];rfl
 rw[aQ hs];have F1:BR l=0:=aE
 by_cases hi:b.ini=[]
 ·rw[aQ (λh=>((MY _ _ _).1 h).elim (λh=>aE) λh=>h.2 hi),bE hi];by_cases hl:l.length=0
  ·rw[aQ (λh=>h.2.2 hl),bE hl];rfl
  rw[aV ⟨rfl,F1,hl⟩,bA hl];rfl
 rw[aV ((MY _ _ _).2 (.inr ⟨F1,hi⟩)),bA hi,fD];show ix (ix f [(25,b.a)]) _=_;refine E7 ?_ _;rw[show ix f [(25,b.a)]=if f.1=0 then(25,b.a)else f from rfl];split
 ·show(25:Int)≠0;decide
 assumption
section
variable {f:Ft} {w w':av} {b:Nat} {F G:aJ} {vs sl:Sl} {vars:List Vr} {nc:aI} {xs:List gv}
theorem SL(hG:∀k,G k->k≠b)(hF:Fo xs)(hv:vars.length<=8388608)(hm:xs.length<=64){D:Nat}{bb:Nb}{ks:List Nd}{cs:aI}(h:Lk f w b F vs vars nc sl xs)(hx:kj false (D+1) w G (.mk bb ks) cs){a:Nat}(ha:a<xs.length)(hzt:lQ (.mk bb ks)<=1048576){dp:Nat}(oh:jU dp (.mk bb ks)=true):
  az aq 43 #[ae (some ⟨b,0,none⟩),ah cs.toArray,O U (a:Int)] w λe w'=>e=ak (ai #[])/\Lk (ix f (vD xs bb ks a++(jV xs (vars.map λv=>v.n) (bb.en++bb.lv)++bb.mv.flatMap (BQ xs (vars.map λv=>v.n))))) w' b F vs vars nc sl xs/\ay [b] w w':=by
 have Ir:1<=bb.k/\bb.k<=4:=by
  rw[jU,aP,aP]at oh;have hb:=oh.1.2;unfold sO at hb;rw[aP]at hb;have hb:=hb.2;split at hb
  ·rename_i hh;unfold gK at hh;have:=aR hh;omega
  simp only[aP]at hb;have:=(aR hb.1.1.1.1).1;omega
 have W3:∀m,m∈bb.mv->m.k=3->0<=m.wt:=λm hm' hk=>by
  rw[jU,aP,aP]at oh;have hb:=oh.1.2;unfold sO at hb;rw[aP]at hb;have hb:=hb.2;split at hb
  ·simp only[aP]at hb;have:=(aR hb.2).2.2.2.1;rw[List.length_eq_zero_iff.1 this]at hm';simp at hm'
  rw[aP]at hb;have:=ey.1 hb.2 m hm';unfold kO at this;rw[aP]at this;have:=aR this.2;omega
 obtain⟨en,lv,mv,kids,iC,⟨he,uD,oQ⟩,fO⟩:=hx;dsimp only[Nd.kids,Nd.b]at iC he uD oQ fO;subst iC;have hk:=fO.1;rw[lQ]at hzt;unfold BN at hzt;have Iq:=mh ks;have hb:=h.lb;generalize Nr:(vars.map λv=>v.n)=vn;let L:List Ft:=vD xs bb ks a
 refine ret (af3 _ _ _ _ _ _ _ _ _ _ _ _ _ ?_);intro k0 w0 dQ uF cf;have z0:=cf.size;let St:Ft->av->Prop:=λf u=>Lk f u b F vs vars nc sl xs/\ay [b] w u/\w0.heap.size<=u.heap.size
 have s0:St f w0:=⟨h.only cf,only1 cf,aY _⟩
 have sm:∀{g:Ft} {u u':av},St g u->ay [b] u u'->bS [k0] u u':=λhs hO=>hO.same (by have:=hs.2.2;simp;omega);have Vi:∀{g:Ft} {u u':av},St g u->ay [] u u'->St g u':=fun{g u u'} hs hO=>⟨hs.1.only hO,fW hs.2.1 (only1 hO),acS⟩
 have F3:∀{g g':Ft} {u u':av},St g u->Lk g' u' b F vs vars nc sl xs->ay [b] u u'->St g' u':=fun{g g' u u'} hs h' hO=>⟨h',fW hs.2.1 hO,acS⟩
 have jc:∀(e a':Int) {g:Ft} {u:av},St g u->az aq 23 #[ae (some ⟨b,0,none⟩),O U e,O U a'] u λr u'=>r=ak (ai #[])/\bS [k0] u u'/\St (ix g [(e,a')]) u':=λe a' {g u} hs=>(rm hs.1 e a').mono (by
  rintro _ u' ⟨rfl,h',hO⟩;exact⟨rfl,sm hs hO,F3 hs h' hO⟩)
 have T2:∀(k:Int) {u:av},az aq 83 #[O U k] u λr u'=>∃b':Bool,r=ak (aj b')/\u=u'/\b'=gK k:=λk {u}=>(FA u k).mono (by
  rintro _ u' ⟨rfl,hu⟩;exact⟨_,rfl,hu.symm,rfl⟩)
 have kA:∀{u:av} {q:Sl} {la:List Ac},jH false (mG false) 9 139 w G q la->∀{g:Ft},St g u->jH false (mG false) 9 139 u G q la:=fun{u q la} hq {g} hs=>hq.keep (cy false) aL λk hk bT=>hs.2.1.block k bT adj;have kK:∀{g:Ft} {u:av},St g u->aA (kj false D) 9 u G kids ks:=λhs=>SliceF.only (bU false D) aL hk hs.2.1 λk hk _ hm=>hG k hk aa3;have PF:=hk.len;refine⟨λkv i0 b0 i u=>∃j:Nat,i=(j:Int)/\kv+j=ks.length/\j<=ks.length/\i0=(BR (ks.take j):Nat)/\b0=xz bb.ini (ks.take j)/\St f u,ks.length,⟨0,rfl,aE,be _,rfl,rfl,s0⟩,?_⟩;rintro kv _ _ _ w1 ⟨j,rfl,tw,hj,rfl,rfl,s1⟩;refine⟨λld=>?_,λld=>(T2 bb.k).mono ?_⟩
 ·have ld:=aR ld;obtain⟨y,hy⟩:∃y,ks[j]? =some y:=⟨_,bJ (show j<ks.length by omega)⟩
  have at_:∀{g:Ft} {u:av},St g u->∃(ad:Addr),cR kids (j:Int) 9 ad/\aB u (ad.add 0) [O U y.b.k]/\aB u (ad.add 1) [ab (T y.b.nm)]:=fun{g u} hs=>by
   obtain⟨ad,y',ds,g1,g2,g3,g4,g5,g6⟩:=(kK hs).get (aZ j) aE;rw[aX,hy]at g2;injection g2 with g2;subst g2;cases D with
   | zero=>exact g6.elim
   | succ D'=>
    obtain⟨qA,qB,nR,gj,rfl,_⟩:=g6;exact⟨ad,g1,g5.dN 0 _ rfl,g5.dN 1 _ rfl⟩
  have est:=BX hy;have pH:=RF (ks.take j);rw[cF]at pH;have ebg:xz bb.ini (ks.take (j+1))=(xz bb.ini (ks.take j)||decide (y.b.nm=bb.ini)):=by
   unfold xz;rw[bn,hy,AE];simp
  obtain⟨ad,g1,g2,g3⟩:=at_ s1;refine⟨ad,g1,_,g2,(T2 y.b.k).mono ?_⟩;rintro _ u ⟨b1,rfl,rfl,rfl⟩;refine⟨_,rfl,bS.refl _ _,λi3 u=>i3=(BR (ks.take (j+1)):Nat)/\St f u,λi3 w3 ⟨e3,s3⟩=>?_,λhn=>⟨?_,s1⟩,λhn=>⟨?_,s1⟩⟩
  ·obtain⟨UE,p1,p2,p3⟩:=at_ s3;exact⟨UE,λ_=>p1,_,λ_=>p3,λw4 dw=>⟨kv-1,aE,j+1,aaa,aE,aE,e3,by rw[ebg,gU],Vi s3 dw⟩⟩
  ·rw[eY aE aE,est,aQ (by intro e;rw[e]at hn;cases hn)];rfl
  rw[est,aV acM];rfl
 have ld:=aU ld;have kF:j=ks.length:=aE
 subst kF;rw[bm (aY _)];rintro _ u ⟨b2,rfl,rfl,wx⟩;have n8:∀{q:Sl} {la:List Ac},jH false (mG false) 9 139 w G q la->iW la<=8388608->∀{g:Ft} {u:av},St g u->az aq 85 #[ae (some ⟨b,0,none⟩),q.v] u λr u'=>r=ak (ai #[])/\ay [b] u u'/\St (ix g (jV xs vn la)) u':=fun{q la} hq hz {g u} hs=>(H6 hG hv aE hs.1 (kA hq hs) hz).mono (by
  rw[Nr];rintro _ u' ⟨rfl,h',hO⟩;exact⟨rfl,hO,F3 hs h' hO⟩)
 refine⟨b2,rfl,bS.refl _ _,St (ix f (vD xs bb ks a)),λw6 s6=>?_,?_,?_⟩
 ·refine(n8 he aE s6).mono ?_;rintro _ w7 ⟨rfl,fK,s7⟩;refine⟨rfl,sm s6 fK,(n8 uD aE s7).mono ?_⟩;rintro _ w8 ⟨rfl,fj,s8⟩;have e8:ix (ix (ix f (vD xs bb ks a)) (jV xs vn bb.en)) (jV xs vn bb.lv)=ix f (vD xs bb ks a++jV xs vn (bb.en++bb.lv)):=by
   rw[<-fD,<-fD];unfold jV;rw[gR]
  rw[e8]at s8;have Io:=oQ.1.len;have YP:=mf bb.mv;refine⟨rfl,sm s7 fj,λkv i u=>∃j:Nat,i=(j:Int)/\kv+j=bb.mv.length/\j<=bb.mv.length/\St (ix f (vD xs bb ks a++(jV xs vn (bb.en++bb.lv)++(bb.mv.take j).flatMap (BQ xs vn)))) u,bb.mv.length,⟨0,rfl,aE,be _,by rw[ci,rA,bD];exact s8⟩,?_⟩;rintro kv3 _ w9 ⟨t,rfl,apu,ht,s9⟩;refine⟨λhct=>?_,λhct=>?_⟩
  ·have hct:=aR hct;obtain⟨ad,y,ds,g1,g2,g3,g4,g5,g6⟩:=(SliceF.only (gW false) aL oQ.1 s9.2.1 λk hk _ hm=>hG k hk aa3).get (aZ t) aE;rw[aX]at g2;have rD:=bh g2;have Np:=pu rD;have hyw:=W3 y rD;unfold EX at Np;obtain⟨gc,pO,tg,rfl,hg,Cn,pG⟩:=g6;obtain⟨gs,rfl⟩:=dX hg;have Ia:=xq y.tg;have e9:ix f (vD xs bb ks a++(jV xs vn (bb.en++bb.lv)++(bb.mv.take (t+1)).flatMap (BQ xs vn)))=ix (ix (ix (ix (ix f (vD xs bb ks a++(jV xs vn (bb.en++bb.lv)++(bb.mv.take t).flatMap (BQ xs vn)))) (bad (Hv y) 28 y.a)) (Pa xs vn y.g)) (jV xs vn y.acts)) (bad (Jz xs [] y.tg) 27 y.a):=by
    rw[bn,g2,gR];simp only[Option.toList,wJ,rA,bD,BQ,fD]
   refine⟨λu=>St (ix f (vD xs bb ks a++(jV xs vn (bb.en++bb.lv)++(bb.mv.take (t+1)).flatMap (BQ xs vn)))) u,λde CM=>⟨kv3-1,aE,t+1,aaa,aE,aE,CM⟩,ad,g1,_,_,_,_,_,_,_,_,_,_,_,_,_,g5,λk7 dz hk7 WX dH=>?_⟩;rw[e9];generalize ix f (vD xs bb ks a++(jV xs vn (bb.en++bb.lv)++(bb.mv.take t).flatMap (BQ xs vn)))=f9 at*
   have z9:=s9.2.2;have avU:k7≠b:=by have:=s9.1.lb;omega
   have sm2:∀{u u':av},dz.heap.size<=u.heap.size->ay [b] u u'->bS [k0,k7] u u':=λhz hO=>hO.same (by have:=dH.size;simp;omega);have Y1:ay [b] w9 dz:=only1 dH;have Cu:=Vi s9 dH;obtain⟨dg,YX⟩:=hg;let S5:Ft->av->Prop:=λg u=>St g u/\ay [b] w9 u/\dz.heap.size<=u.heap.size
   have up:∀{g g':Ft} {u u':av},S5 g u->Lk g' u' b F vs vars nc sl xs->ay [b] u u'->S5 g' u':=fun{g g' u u'} hs h' hO=>⟨F3 hs.1 h' hO,fW hs.2.1 hO,acS⟩
   refine⟨S5 (ix f9 (bad (Hv y) 28 y.a)),λeu F4=>?_,λhw=>?_,λhw=>?_⟩
   ·refine(B9 hG hv aE dg F4.1.1 ((kw false dg).keep YX λk hk bT=>F4.2.1.block k bT adj) aE).mono ?_;rw[Nr];rintro _ eS ⟨rfl,sX,dU⟩;have Kl:=up F4 sX dU;refine⟨rfl,sm2 F4.2.2 dU,(H6 hG hv aE sX (Cn.keep (cy false) aL λk hk bT=>Kl.2.1.block k bT adj) aE).mono ?_⟩;rw[Nr];rintro _ fJ ⟨rfl,PC,ec⟩;have Km:=up Kl PC ec;refine⟨rfl,sm2 Kl.2.2 ec,(H7 hF hm PC (SliceF.only cX aL pG.1 Km.2.1 λk hk _ hm'=>hG k hk (by simpa using hm')) aE).mono ?_⟩;rintro _ gY ⟨rfl,je⟩;have F5:=up Km (PC.only je) (only1 je);refine⟨_,rfl,sm2 Km.2.2 (only1 je),λhq=>(rm F5.1.1 27 _).mono ?_,λhq=>?_⟩
    ·rintro _ jm ⟨rfl,WQ,jo⟩;rw[show Jz xs [] y.tg=false by simpa using hq];exact⟨rfl,sm2 F5.2.2 jo,(up F5 WQ jo).1⟩
    rw[show Jz xs [] y.tg=true by simpa using hq];exact F5.1
   ·refine(rm Cu.1 28 _).mono ?_;rintro _ jd ⟨rfl,Ng,iZ⟩;have:Hv y=false:=by
     unfold Hv;simp at hw⊢;omega
    rw[this];exact⟨rfl,sm2 (aY _) iZ,up ⟨Cu,Y1,aY _⟩ Ng iZ⟩
   have:Hv y=true:=by
    unfold Hv;simp at hw⊢;omega
   rw[this];exact⟨Cu,Y1,aY _⟩
  have hct:=aU hct;rw[bm aE]at s9;exact⟨rfl,s9.1,s9.2.1⟩
 ·intro hh jR kD;have hh':gK bb.k=true:=by rw[<-wx];exact hh
  have S6:=Vi s1 kD;refine⟨sl,S6.1.row,(Av S6.1.sp bb.dft).mono ?_⟩;rintro _ u ⟨rfl,hu⟩;obtain rfl:jR=u:=hu.symm;refine⟨_,rfl,bS.refl _ _,λjD lN=>?_⟩;have Pm:=Vi S6 lN;obtain⟨y,hy⟩:=lh ha;obtain⟨ad,a1,_,a3,_⟩:=od Pm.1.sp hy;refine⟨sl,Pm.1.row,sl,Pm.1.row,ad,a1,_,a3,(SK Pm.1.sp _ _).mono ?_⟩;rintro _ u ⟨rfl,hu⟩;obtain rfl:jD=u:=hu.symm;have WM:y.pa<xs.length:=by
   by_cases h0:a=0
   ·subst h0;have:=(hF.rt y hy).1;omega
   obtain⟨p,t,hp,ht,e1,_⟩:=hF.pa a y aE hy;have:=tZ ht;omega
  rw[aaI hF _ _ WM];have KJ:vD xs bb ks a=bad (FZ xs bb.dft&&xv xs (gf xs bb.dft) y.pa) 26 bb.a:=by unfold vD;rw[aV hh',uc hy]
  refine⟨_,rfl,bS.refl _ _,λb6 u=>b6=(!(FZ xs bb.dft&&xv xs (gf xs bb.dft) y.pa))/\St f u,λb6 qw ⟨e22,s22⟩=>⟨λhq=>(jc 26 bb.a s22).mono ?_,λhq=>?_⟩,λhc=>⟨?_,Pm⟩,λhc=>?_⟩
  ·rintro _ u ⟨rfl,h1,h2⟩;rw[KJ,show(FZ xs bb.dft&&xv xs (gf xs bb.dft) y.pa)=false by rw[hq]at e22;exact(cV _).mp e22.symm];exact⟨rfl,h1,h2⟩
  ·rw[KJ,show(FZ xs bb.dft&&xv xs (gf xs bb.dft) y.pa)=true by rw[hq]at e22;exact(gx _).mp e22.symm];exact s22
  ·unfold FZ;rw[cx]at hc;rcases hc with hc | hc
   ·rw[bA (by have:=aR hc;omega:¬0<=gf xs bb.dft)];simp[hc]
   rw[show xv xs (gf xs bb.dft) y.pa=false by simpa using hc];simp
  rw[fg]at hc;have uE:=aU hc.1;have vK:xv xs (gf xs bb.dft) y.pa=true:=by simpa using hc.2
  rcases ky xs bb.dft with⟨e,_⟩ | ⟨q,z,e,M9,_⟩
  ·omega
  obtain⟨KI,d1,d2,_⟩:=od Pm.1.sp M9;rw[e];refine⟨sl,Pm.1.row,KI,d1,_,d2.dN 0 _ rfl,(T2 z.k).mono ?_⟩;rintro _ u ⟨b7,rfl,rfl,rfl⟩;refine⟨_,rfl,bS.refl _ _,?_,Pm⟩;rw[<-e,vK];unfold FZ;rw[e,jO M9,bE aE];simp
 intro hh;have hh':gK bb.k=false:=by rw[<-wx];exact hh
 have avV:(kids.n:Int)=ks.length:=aE
 have KJ:=ag2 (xs:=xs) (l:=ks) (n:=a) f Ir hh';have q0:((T bb.ini).toList==(ao #[]).toList)=decide (bb.ini=[]):=gU bb.ini [];refine⟨λb8 u=>b8=Wl bb.k (BR ks) bb.ini (xz bb.ini ks)/\St f u,λb8 oX ⟨e25,YJ⟩=>⟨λhq=>(jc 25 bb.a YJ).mono ?_,λhb8=>⟨λhq=>(jc 26 bb.a YJ).mono ?_,λhq=>?_⟩⟩,λhc=>⟨?_,s1⟩,λhc=>⟨λsS=>⟨?_,s1⟩,λsS=>⟨?_,s1⟩⟩⟩
 ·rintro _ u ⟨rfl,h1,h2⟩;rw[KJ,aV (by rw[<-e25];exact hq)];exact⟨rfl,h1,h2⟩
 ·rintro _ u ⟨rfl,h1,h2⟩;rw[aP,aP,du,du,dR]at hq;rw[KJ,aQ (by rw[<-e25,hb8];decide),aV ⟨hq.1.1,aE,aE⟩];exact⟨rfl,h1,h2⟩
 ·rw[KJ,aQ (by rw[<-e25,hb8];decide),aQ]
  ·exact YJ
  rintro⟨h1,h2,h3⟩;have e:((bb.k==1&&((BR ks:Nat):Int)==0)&&decide ((kids.n:Int)>0))=true:=by
   rw[aP,aP,du,du,dR];exact⟨⟨h1,aE⟩,aE⟩
  have hq:((bb.k==1&&((BR ks:Nat):Int)==0)&&decide ((kids.n:Int)>0))=false:=hq;rw[e]at hq;cases hq
 ·rw[q0]at hc⊢;unfold Wl;rw[bH];revert hc;generalize xz bb.ini ks=g;by_cases hi:bb.ini=[]<;>cases g<;>simp[hi]<;>omega
 ·rw[q0]at hc;unfold Wl;rw[bH];revert hc sS;generalize xz bb.ini ks=g;by_cases hi:bb.ini=[]<;>cases g<;>simp[hi]<;>omega
 rw[q0]at hc⊢;unfold Wl;rw[bH];revert hc sS;generalize xz bb.ini ks=g;by_cases hi:bb.ini=[]<;>cases g<;>simp[hi]<;>omega
end
theorem DM:∀{l:List Nd} {d:Nat} {y:Nd},iB d l=true->y∈l->jU d y=true
 | [],_,_,_,h=>aa6
 | x::l,d,y,h,hy=>by
  rw[iB,aP]at h;rcases ba.1 hy with rfl | hy
  ·exact h.1
  exact DM h.2 hy
section
variable {b:Nat} {F G:aJ} {vs sl:Sl} {vars:List Vr} {nc:aI} {xs:List gv}
theorem MZ(hG:∀k,G k->k≠b)(hF:Fo xs)(hv:vars.length<=8388608)(hm:xs.length<=64):∀(D:Nat) {f:Ft} {w:av} {x:Nd} {cs:aI} {a dp:Nat},Lk f w b F vs vars nc sl xs->kj false D w G x cs->lQ x<=1048576->a+jk x<=xs.length->jU dp x=true->
  az aq 24 #[ae (some ⟨b,0,none⟩),ah cs.toArray,O U (a:Int)] w λe w'=>e=ak (O U ((a+jk x:Nat):Int))/\Lk (ix f (Pb xs (vars.map λv=>v.n) a x)) w' b F vs vars nc sl xs/\ay [b] w w'
 | 0,_,_,_,_,_,_,_,h,_,_,_=>h.elim
 | D+1,f,w,.mk bb ks,cs,a,dp,h,hx,hz,ha,oh=>by
  have CU:=hx;obtain⟨en,lv,mv,kids,iC,_,fO⟩:=hx;dsimp only[Nd.kids,Nd.b]at iC fO;subst iC;have hk:=fO.1;have PF:=hk.len;have M9:=hz;rw[lQ]at M9;have Iq:=mh ks;have hb:=h.lb;rw[jk]at ha⊢;have ai7:=oh;rw[jU,aP]at ai7;refine ret (af2 _ _ _ _ _ _ _ _ _ _ _ _ _ ?_);intro k0 w0 dQ uF cf;have z0:=cf.size;refine(SL hG hF hv hm (h.only cf) ((bU false _).keep CU λk _ bT=>cf.block k bT aM) (a:=a) aE hz oh).mono ?_;rw[Pb];generalize Nr:(vars.map λv=>v.n)=vn at*
  generalize eL:vD xs bb ks a++(jV xs vn (bb.en++bb.lv)++bb.mv.flatMap (BQ xs vn))=L;have eL2:∀M,vD xs bb ks a++(jV xs vn (bb.en++bb.lv)++(bb.mv.flatMap (BQ xs vn)++M))=L++M:=λM=>by rw[<-eL,bf,bf]
  rw[eL2];rintro _ w1 ⟨rfl,h1,cn⟩;have z1:=cn.size;have o1:ay [b] w w1:=fW (only1 cf) cn;refine⟨rfl,cn.same aaf,λkv i i2 u=>∃j:Nat,i2=(j:Int)/\kv+j=ks.length/\j<=ks.length/\i=((a+1+dD (ks.take j):Nat):Int)/\Lk (ix f (L++qt xs vn (a+1) (ks.take j))) u b F vs vars nc sl xs/\ay [b] w u/\w0.heap.size<=u.heap.size,ks.length,⟨0,rfl,aE,be _,by rw[ci,dD,eY aE aE];rfl,by rw[ci,qt,bD];exact h1,o1,aE⟩,?_⟩;rintro kv _ _ w2 ⟨j,rfl,tw,hj,rfl,h2,o2,z2⟩;refine⟨λhc=>?_,λhc=>?_⟩
  ·have hc:=aR hc;obtain⟨ad,y,ds,g1,g2,g3,g4,g5,g6⟩:=(SliceF.only (bU false D) aL hk o2 λk hk _ hm=>hG k hk aa3).get (aZ j) aE;rw[aX]at g2;have rD:=bh g2;have hyz:=mg rD;have vW:=nq g2;have Cm:=g6;obtain⟨D',rfl⟩:∃D',D=D'+1:=by
    cases D with
    | zero=>exact g6.elim
    | succ D'=>exact⟨D',rfl⟩
   obtain⟨qA,qB,nR,gj,rfl,_⟩:=g6;have zw:=MZ hG hF hv hm (D'+1) (a:=a+1+dD (ks.take j)) h2 Cm aE aE (DM ai7.2 rD);rw[Nr]at zw;refine⟨ad,g1,_,_,_,_,qA,qB,nR,gj,_,g5,zw.mono ?_⟩;rintro _ w3 ⟨rfl,h3,cT⟩;have z3:=cT.size;have e:dD (ks.take (j+1))=dD (ks.take j)+jk y:=by
    rw[bn,g2,xu];show _+dD [y]=_;rw[dD,dD];omega
   have e2:qt xs vn (a+1) (ks.take (j+1))=qt xs vn (a+1) (ks.take j)++Pb xs vn (a+1+dD (ks.take j)) y:=by
    rw[bn,g2,BS];show _++qt xs vn _ [y]=_;rw[qt,qt,bD]
   refine⟨_,rfl,cT.same aaf,kv-1,aE,j+1,aaa,aE,aE,by rw[e];congr 1;omega,?_,fW o2 cT,aE⟩;rw[e2,<-bf,fD];exact h3
  have hc:=aU hc;have kF:j=ks.length:=aE
  subst kF;rw[bm (aY _)]at h2⊢;exact⟨by congr 2;omega,h2,o2⟩
end
abbrev SM:Rp Int:=λ_ _ (x:Int) cs=>cs=[Value.int U x]
theorem xK:Rp.Ok SM:=⟨λh _=>h,λh=>h,λh _=>h,λh=>by
 subst h;intro v hv;simp only[ba,bp,cb]at hv;subst hv;rfl⟩
abbrev OC(B:Nat)(w:av)(s:Sl)(is:List Int):Prop:=Own SM 1 3 B w (λ_=>False) s is
theorem Yp(t:Bool):∀(D:Nat) {w:av} {G:aJ} {x:Nd} {cs:aI} {B:Nat} {s:Sl} {is:List Int},kj t D w G x cs->(∀k,G k->k<B)->OC B w s is->B<=w.heap.size->is.length+jk x<=1000000->
  az aq 21 #[ah cs.toArray,s.v] w λe w'=>∃s',e=ak (Sl.v s')/\OC B w' s' (is++(xT x).map λp=>p.2)/\Gr s w s' w'
 | 0,_,_,_,_,_,_,_,h,_,_,_,_=>h.elim
 | D+1,w,G,.mk bb ks,cs,B,s,is,⟨en,lv,mv,kids,iC,_,fO⟩,hG,hS,hBw,hn=>by
  have hk:=fO.1;clear fO;dsimp only[Nd.kids,Nd.b]at hk iC;subst iC;rw[jk]at hn;rw[xT];have F7:=hk.len;have hnn:=rc ks;refine(afZ bb.k (T bb.nm) (T bb.ini) (T bb.dft) en lv mv kids bb.a s (λv w'=>∃s',v=Sl.v s'/\OC B w' s' (is++(((bb.nm,bb.a)::vC ks).map λp=>p.2))/\Gr s w s' w') w ?_).mono (by rintro _ w' ⟨v,rfl,s',rfl,h⟩;exact⟨s',rfl,h⟩);intro k0 w0 fO dQ cf;have z0:=cf.size;have hS0:OC B w0 s is:=hS.keep xK λk _ bT=>cf.block k bT aM;obtain⟨y,w2,k1,k3,s3,w3,g1,g2,⟨gs,g3,g4⟩,g5⟩:=lz (P:=aq) (t:=66) (ty:=66) (e:=3) (i:=Tryz.t3) (bytes:=8) (size:=1) (r:=SM) (G:=λ_=>False) (v:=O U bb.a) (x:=bb.a) (by kernel_rfl) (by kernel_rfl) rfl rfl rfl rfl aL aL aL xK hS0 aE rfl rfl (λ_ h=>h.elim) aE;have z2:=k3.size;have z3:=g3.size;have qC:s.a≠some ⟨k0,0,none⟩:=λe=>aa8
  have m3:Gr s w s3 w3:=by
   refine⟨(cf.ca k3).vV (g3.p (F:=λk=>s.a=some ⟨k,0,none⟩) λg hg=>.inl (g4 g hg).1),λk hk=>?_⟩;rcases g5 with e | ⟨g,e,h⟩
   ·exact .inl ab8
   rw[e]at hk;injection hk with hk;injection hk with hk;exact .inr aE
  have n3:∀k,s3.a=some ⟨k,0,none⟩->k≠k0:=λk hk e=>by
   subst e;rcases g5 with e | ⟨g,e,h⟩
   ·exact qC ab8
   rw[e]at hk;injection hk with hk;injection hk with hk;omega
  have UC:OC B w3 s3 (is++[bb.a]):=by
   rcases g2 with⟨e1,e2⟩ | ⟨g,css,tail,h1,h2,h4,h5,h6,h7,h9,h8⟩
   ·simp at e2
   exact .inr ⟨g,css,tail,h1,h2,h4,h5,h6,h7,h9,gI.OG (λx c _ hc=>hc) h8⟩
  have tu:∀{u:av} {q:Sl},Gr s w q u->aA (kj t D) 9 u G kids ks:=λhm=>SliceF.pA (bU t D) aL hk hm.1 λk hGk _ h=>by
   have:=hG k hGk;have:=(hS.blk h).1;dsimp only at this;omega
  refine⟨y,w2,k1,k3.same aaf,s3,w3,g1,g3.same λx hx=>⟨aaL,λh=>by simp only[aO]at hx;subst hx;exact qC (g4 _ h).1⟩,λkv q i w'=>∃j:Nat,i=(j:Int)/\kv+j=ks.length/\j<=ks.length/\OC B w' q (is++bb.a::(vC (ks.take j)).map λp=>p.2)/\Gr s w q w'/\w3.heap.size<=w'.heap.size/\∀k,q.a=some ⟨k,0,none⟩->k≠k0,ks.length,⟨0,rfl,aE,be _,by rw[ci,vC];exact UC,m3,aY _,n3⟩,?_⟩;rintro kv q _ w5 ⟨j,rfl,tw,vm,Co,m5,z5,n5⟩;refine⟨λhc=>?_,λhc=>?_⟩
  ·have hc:=aR hc;obtain⟨ad,y',ds,a1,a2,a3,a4,a5,a6⟩:=(tu m5).get (aZ j) aE;rw[aX]at a2;have Il:=a6;obtain⟨D',rfl⟩:∃D',D=D'+1:=by
    cases D with
    | zero=>exact a6.elim
    | succ D'=>exact⟨D',rfl⟩
   obtain⟨qA,qB,nR,gj,rfl,_⟩:=Il;have vW:=nq a2;refine⟨ad,a1,_,_,_,_,qA,qB,nR,gj,_,a5,(Yp t (D'+1) a6 hG Co aE (by rw[aN,aW,bN,Mf];omega)).mono ?_⟩;rintro _ w7 ⟨q7,rfl,UD,m7⟩;have z7:=m7.1.size;refine⟨q7,rfl,m7.1.same λx hx=>?_,kv-1,aE,j+1,aaa,aE,aE,?_,m5.trans m7,aE,λk hk e=>?_⟩
   ·simp only[aO]at hx;subst hx;exact⟨aE,λh=>n5 _ h rfl⟩
   ·have e:vC (ks.take (j+1))=vC (ks.take j)++xT y':=by
     rw[bn,a2,E8];show _++vC [y']=_;rw[vC,vC,bD]
    rw[e,cN,<-bX,<-bf];exact UD
   subst e;rcases m7.2 _ hk with h | h
   ·exact n5 _ h rfl
   omega
  have hc:=aU hc;have kF:j=ks.length:=aE
  subst kF;rw[bm (aY _)]at Co;exact⟨q,rfl,Co,m5⟩
theorem OD(f:Ft)(ok:Bool){e a:Int}(he:e≠0):ix (ix f (bad ok e a)) [(e,a)]=ix f [(e,a)]:=by
 cases ok
 ·show ix (ix f [(e,a)]) [(e,a)]=_;refine E7 ?_ _;rw[show ix f [(e,a)]=if f.1=0 then(e,a)else f from rfl];split
  ·exact he
  assumption
 rfl
theorem OE{xs:List gv}{s:aH}{j:Nat}(h:s∈(xs.take j).map λx:gv=>x.nm):gf xs s<j:=by
 have e1:xs.map (λx:gv=>x.nm)=(xs.take j).map (λx:gv=>x.nm)++(xs.drop j).map λx:gv=>x.nm:=by
  rw[<-cN,dP]
 have h1:=E9 ((xs.drop j).map λx:gv=>x.nm) h;have h2:=nP.2 h;rw[bN,cF]at h2;unfold gf;rw[e1,h1,aV aE];omega
def Ca(c:Ch):Ft:=if(iI c).2≠0 then((iI c).2, -1)else ix (0,0) (Dw c)
theorem SN{c:Ch}(hn:Ip c):Ca c=sJ c:=by unfold Ca sJ;rw[yE hn]
theorem fQ.sl'{B:Nat}{w:av}{s:Sl}{xs:List gv}(h:fQ B w s xs):aA yw 5 w (λk=>B<=k) s xs:=(h.slice gy).mono gy λk hk=>hk.elim (λh=>h.elim) λh=>h.1
theorem SO{w:av}{F:aJ}{D:Nat}{c:Ch}{vs:Sl}{cs:aI}(hx:ChR false (D+1) w F c vs cs)(hn:Ip c)(hs:mB c.vars+lQ c.root<=1048576):
  az aq 9 #[ah (vs.v::cs).toArray] w λe w'=>e=ak (ah #[O U (sJ c).1,O U (sJ c).2])/\ay [] w w':=by
 rw[<-SN hn];obtain⟨en,lv,mv,kids,iC,_⟩:=hx.root;subst iC;refine ret (afY _ _ _ _ _ _ _ _ _ _ _ _ ?_);intro k0 k1 w0 fO dQ kU jC cf;have z0:=cf.size;have keep:∀{u:av},ay [] w u->ChR false (D+1) u F c vs (mH c.root.b.k c.root.b.nm c.root.b.ini c.root.b.dft en lv mv kids c.root.b.a):=λhO=>⟨hx.vars.keep dF aL λk _ bT=>hO.block k bT aM,(bU false _).keep hx.root λk _ bT=>hO.block k bT aM⟩
 refine(Wi (keep cf) hn hs).mono ?_;rintro _ w1 ⟨⟨sl,rfl,M8,_⟩,cn⟩;have z1:=cn.size;have o1:=cf.ca cn;refine⟨sl,_,rfl,cn.same aaf,λhc w2 cH=>⟨?_,?_⟩,λhc k2 w3 oT nC cT=>?_⟩
 ·have hc:(iI c).2≠0:=aax
  unfold Ca;rw[aV hc]
 ·exact(o1.vV (cH.p (F:=λk=>w.heap.size<=k) λx hx=>ab4)).only λk hk=>hk
 have hc:(iI c).2=0:=aax
 have hS1:=M8 hc;have hP:(gL c).2=0:=by rw[yE hn];exact hc
 have h64:=uZ hP;have oh:=Oz hP;unfold pq at oh;simp only[aP]at oh;have elD:Ca c=ix (0,0) (Dw c):=by unfold Ca;rw[aQ (λh=>h hc)]
 rw[elD];have z3:=cT.size;have o3:=o1.ca cT;have hr3:kj false (D+1) w3 (λk=>k<w.heap.size) c.root (mH c.root.b.k c.root.b.nm c.root.b.ini c.root.b.dft en lv mv kids c.root.b.a):=
  (bU false _).keep ((bU false _).mono ((bU false _).inHeap hx.root) λk hk=>hk.2) λk _ bT=>o3.block k bT aM
 refine(Yp false (D+1) (B:=w3.heap.size) (s:=Sl.nil) (is:=[]) hr3 (λk hk=>aE) (Own.nil _ _ _ _ _ _) (aY _) acq).mono ?_;rintro _ w4 ⟨l1,rfl,hA,hG4⟩;rw[bP]at hA;have dw:ay [] w3 w4:=hG4.1.only λk hk=>adL
 have z4:=dw.size;have o4:=o3.ca dw;have hFo:=Mc c;have Uj:(lP c).length=jk c.root:=by unfold lP;rw[rZ]
 have W7:=VR c.root;have enm:(lP c).map (λs:gv=>s.nm)=(xT c.root).map λp=>p.1:=Me 0 (-1) 0 c.root;have hvl:=hx.vars.1.len;have xO:=uf c.vars;let VP:List (aH×Int):=c.vars.map λv=>(v.n,v.a)
 have eLL:Dw c=tn [] (xT c.root)++(tn [] VP++Pb (lP c) (c.vars.map λv=>v.n) 0 c.root):=rfl;rw[eLL];generalize hxs:lP c=xs at*
 have hv4:aA xQ 3 w4 (λk=>k<w1.heap.size) vs c.vars:=SliceF.mono dF (SliceF.keep dF (SliceF.inHeap dF hx.vars.1 aL) aL λk hk bT=>o4.block k bT aM) λk hk=>ab5
 have Cw:aA yw 5 w4 (λk=>k<w1.heap.size) sl xs:=SliceF.mono gy (SliceF.keep gy (SliceF.inHeap gy hS1.sl' aL) aL λk hk bT=>(cT.ca dw).block k bT aM) λk hk=>hk.2;have Ui:=Cw.len;let NC:aI:=mH c.root.b.k c.root.b.nm c.root.b.ini c.root.b.dft en lv mv kids c.root.b.a
 have ai8:∀{u:av} {f1 f2:Int},ay [k2] w4 u->aF u k2 65 (vs.v::(NC++[sl.v,O U f1,O U f2]))->Lk (f1,f2) u k2 (λk=>k<w1.heap.size) vs c.vars NC sl xs:=fun{u f1 f2} hO hB=>
  ⟨hB,rfl,SliceF.only dF aL hv4 hO λk hk _ hm=>aaZ,SliceF.only gy aL Cw hO λk hk _ hm=>aaZ,λk hk=>aE⟩
 let SC:Sl->Int->aK->aK->aK->Sl->Sl->Sl->Sl->Int->Sl->Prop:=λl2 i2 s0 s1 s2 l3 l4 l5 l6 i3 l7=>vs=l2/\c.root.b.k=i2/\T c.root.b.nm=s0/\T c.root.b.ini=s1/\T c.root.b.dft=s2/\en=l3/\lv=l4/\mv=l5/\kids=l6/\c.root.b.a=i3/\sl=l7
 have Za:SC vs c.root.b.k (T c.root.b.nm) (T c.root.b.ini) (T c.root.b.dft) en lv mv kids c.root.b.a sl:=⟨rfl,rfl,rfl,rfl,rfl,rfl,rfl,rfl,rfl,rfl,rfl⟩
 have on2:∀{u u':av},ay [k2] w4 u->ay [k2] u u'->ay [k2] w4 u':=λh k=>fW h k;have fin:∀{u:av},ay [k2] w4 u->ay [] w u:=λh=>(o4.vV (h.p (F:=λk=>w.heap.size<=k) λx hx=>ab4)).only λk hk=>hk;have sm:∀{u u':av},ay [k2] w4 u->k0≠k2->k1≠k2->ay [k2] u u'->bS [k0,k1] u u':=fun{u u'} hu h1 h2 hO=>hO.same (by have:=hu.size;simp;omega);refine⟨l1,rfl,dw.same aaf,λkv i l2 i2 s0 s1 s2 l3 l4 l5 l6 i3 l7 f1 f2 u=>∃j:Nat,i=(j:Int)/\kv+j=xs.length/\j<=xs.length/\SC l2 i2 s0 s1 s2 l3 l4 l5 l6 i3 l7/\(f1,f2)=ix (0,0) (tn [] ((xT c.root).take j))/\ay [k2] w4 u,xs.length,⟨0,rfl,aE,be _,Za,rfl,Only.refl _ _⟩,?_⟩;have hA4:aA SM 1 w4 (λk=>w3.heap.size<=k) l1 ((xT c.root).map λp=>p.2):=(hA.slice xK).mono xK λk hk=>hk.elim (λh=>h.elim) λh=>h.1;have av3:k2<w4.heap.size:=aE
 have kA:∀{u:av},ay [k2] w4 u->aA SM 1 u (λk=>w3.heap.size<=k) l1 ((xT c.root).map λp=>p.2):=λh=>SliceF.only xK aL hA4 h λk hk _ hm=>aaZ
 have kS:∀{u:av},ay [k2] w4 u->aA yw 5 u (λk=>k<w1.heap.size) sl xs:=λh=>SliceF.only gy aL Cw h λk hk _ hm=>aaZ
 have kV:∀{u:av},ay [k2] w4 u->aA xQ 3 u (λk=>k<w1.heap.size) vs c.vars:=λh=>SliceF.only dF aL hv4 h λk hk _ hm=>aaZ
 have wr2:∀{u:av} (e a f1 f2:Int),ay [k2] w4 u->k0≠k2->k1≠k2->aF u k2 65 (vs.v::(NC++[sl.v,O U f1,O U f2]))->
   az aq 23 #[ae (some ⟨k2,0,none⟩),O U e,O U a] u λr u'=>r=ak (ai #[])/\bS [k0,k1] u u'/\∃g1 g2:Int,aF u' k2 65 (vs.v::(NC++[sl.v,O U g1,O U g2]))/\(g1,g2)=ix (f1,f2) [(e,a)]/\ay [k2] w4 u':=fun{u} e a f1 f2 hu h1 h2 hB=>(rm (ai8 hu hB) e a).mono (by
  rintro _ u' ⟨rfl,h',hO⟩;exact⟨rfl,sm hu h1 h2 hO,_,_,h'.blk,rfl,on2 hu hO⟩)
 rintro kv _ _ _ _ _ _ _ _ _ _ _ _ i4 i5 w5 ⟨j,rfl,tw,hj,⟨rfl,rfl,rfl,rfl,rfl,rfl,rfl,rfl,rfl,rfl,rfl⟩,hf5,h5⟩;refine⟨λhc=>?_,λhc=>?_⟩
 ·have hc:=aR hc;obtain⟨y,hy⟩:=lh (xs:=xs) (i:=j) aE;obtain⟨ad,a1,a2,_⟩:=od (kS h5) hy;obtain⟨p,hp⟩:∃p,(xT c.root)[j]? =some p:=⟨_,bJ (show j<(xT c.root).length by omega)⟩
  have hpn:p.1=y.nm:=by
   have h1:(xs.map λs:gv=>s.nm)[j]? =some y.nm:=by rw[cA,hy];rfl
   rw[enm,cA,hp]at h1;exact AD h1
  have uG:tn [] ((xT c.root).take (j+1))=tn [] ((xT c.root).take j)++bad (!decide (y.nm∈(xs.take j).map λs:gv=>s.nm)) 24 p.2:=by
   rw[bn,hp,xy,bP,js,<-enm,<-js];simp only[Option.toList,tn,bD,hpn]
  have ai9:decide (y.nm∈(xs.take j).map λs:gv=>s.nm)=(gf xs y.nm !=(j:Int)):=by
   by_cases pE:y.nm∈(xs.take j).map λs:gv=>s.nm
   ·have:=OE pE;rw[bE pE];simp;omega
   rw[bA pE,B8 hy (λz hz e=>pE (gM.2 ⟨z,hz,e⟩)) rfl];simp
  refine⟨λl2 i2 s0 s1 s2 l3 l4 l5 l6 i3 l7 f1 f2 u=>SC l2 i2 s0 s1 s2 l3 l4 l5 l6 i3 l7/\(f1,f2)=ix (0,0) (tn [] ((xT c.root).take (j+1)))/\ay [k2] w4 u,?_,ad,a1,_,a2.dN 1 _ rfl,(Av (kS h5) _).mono ?_⟩
  ·rintro _ _ _ _ _ _ _ _ _ _ _ _ _ u ⟨hs,hf,hu⟩;exact⟨kv-1,aE,j+1,aaa,aE,aE,hs,hf,hu⟩
  rintro _ u ⟨rfl,hu⟩;obtain rfl:w5=u:=hu.symm;refine⟨_,rfl,bS.refl _ _,λhq=>?_,λhq=>⟨Za,?_,h5⟩⟩
  ·obtain⟨p1,z,cs1,q1,q2,q3,q4,q5,q6⟩:=(kA h5).get (i:=(j:Int)) (aZ j) (by have:=(kA h5).len;rw[bN]at this;omega);have q6:cs1=[Value.int U z]:=q6;subst q6;rw[aX,cA,hp]at q2;have q2:p.2=z:=AD q2;refine⟨p1,q1,_,q5,λhB h1 h2=>(wr2 24 z _ _ h5 h1 h2 hB).mono ?_⟩;rintro _ u ⟨rfl,hS,g1,g2,Uk,hg,hu⟩;refine⟨rfl,hS,vs,_,_,_,_,en,lv,mv,kids,_,sl,g1,g2,Uk,Za,?_,hu⟩;rw[hg,hf5,uG,fD,ai9,show(gf xs y.nm !=(j:Int))=true from hq,q2];rfl
  rw[hf5,uG,fD,ai9,show(gf xs y.nm !=(j:Int))=false from hq];rfl
 have hc:=aU hc;have kF:j=xs.length:=aE
 subst kF;rw[bm aE]at hf5;have hVl:VP.length=c.vars.length:=bN _;refine⟨λkv i l2 i2 s0 s1 s2 l3 l4 l5 l6 i3 l7 f1 f2 u=>∃j:Nat,i=(j:Int)/\kv+j=c.vars.length/\j<=c.vars.length/\SC l2 i2 s0 s1 s2 l3 l4 l5 l6 i3 l7/\(f1,f2)=ix (0,0) (tn [] (xT c.root)++tn [] (VP.take j))/\ay [k2] w4 u,c.vars.length,⟨0,rfl,aE,be _,Za,by rw[ci,tn,bD];exact hf5,h5⟩,?_⟩;rintro O0 _ _ _ _ _ _ _ _ _ _ _ _ i6 i7 w9 ⟨m,rfl,Xd,hm,⟨rfl,rfl,rfl,rfl,rfl,rfl,rfl,rfl,rfl,rfl,rfl⟩,hf9,h9⟩;refine⟨λvK=>?_,λvK hB h1 h2=>?_⟩
 ·have vK:=aR vK;obtain⟨v,hv⟩:∃v,c.vars[m]? =some v:=⟨_,bJ (show m<c.vars.length by omega)⟩
  have uG:tn [] (VP.take (m+1))=tn [] (VP.take m)++bad (!decide (v.n∈(c.vars.take m).map λv=>v.n)) 24 v.a:=by
   have hVm:VP[m]? =some (v.n,v.a):=by show(c.vars.map λv=>(v.n,v.a))[m]? =_;rw[cA,hv];rfl
   have e3:(VP.take m).map (λp=>p.1)=(c.vars.take m).map λv=>v.n:=by
    show((c.vars.map λv=>(v.n,v.a)).take m).map _=_;rw[<-js,iE];rfl
   rw[bn,hVm,xy,bP,e3];simp only[Option.toList,tn,bD]
  refine⟨λkv i l2 i2 s0 s1 s2 l3 l4 l5 l6 i3 l7 f1 f2 u=>∃j:Nat,i=(j:Int)/\kv+j=m/\j<=m/\SC l2 i2 s0 s1 s2 l3 l4 l5 l6 i3 l7/\(f1,f2)=ix (i6,i7) (bad (!decide (v.n∈(c.vars.take j).map λv=>v.n)) 24 v.a)/\ay [k2] w4 u,m,⟨0,rfl,aE,be _,Za,by rw[ci];rfl,h9⟩,?_⟩;rintro kv3 _ _ _ _ _ _ _ _ _ _ _ _ i8 i9 de ⟨q,rfl,apu,hq,⟨rfl,rfl,rfl,rfl,rfl,rfl,rfl,rfl,rfl,rfl,rfl⟩,acH,tv⟩;refine⟨λKH=>?_,λKH=>⟨O0-1,aE,m+1,aaa,aE,aE,Za,?_,tv⟩⟩
  ·have KH:=aR KH;obtain⟨v2,hv2⟩:∃v,c.vars[q]? =some v:=⟨_,bJ (show q<c.vars.length by omega)⟩
   have vat:∀{u:av} {q:Nat} {v:Vr},ay [k2] w4 u->c.vars[q]? =some v->∃(ad:Addr),cR vs (q:Int) 3 ad/\aB u (ad.add 0) [ab (T v.n)]/\aB u (ad.add 2) [O U v.a]:=fun{u q v} hu hq=>by
    have hql:=(bc.1 hq).1;obtain⟨ad,y,ds,g1,g2,g3,g4,g5,g6⟩:=(kV hu).get (i:=(q:Int)) (aZ q) aE;rw[aX,hq]at g2;injection g2 with g2;subst g2;have g6:ds=[ab (T v.n),O U v.v,O U v.a]:=g6;subst g6;exact⟨ad,g1,g5.dN 0 _ rfl,g5.dN 2 _ rfl⟩
   obtain⟨p2,e1,e2,_⟩:=vat tv hv2;obtain⟨p3,e3,e4,_⟩:=vat tv hv;have pE:∀z:aH,z∈(c.vars.take (q+1)).map (λv=>v.n)↔z∈(c.vars.take q).map (λv=>v.n)∨v2.n=z:=λz=>by
    rw[bn,hv2,cN,cu];simp[eq_comm]
   refine⟨λl2 i2 s0 s1 s2 l3 l4 l5 l6 i3 l7 f1 f2 u=>SC l2 i2 s0 s1 s2 l3 l4 l5 l6 i3 l7/\(f1,f2)=ix (i6,i7) (bad (!decide (v.n∈(c.vars.take (q+1)).map λv=>v.n)) 24 v.a)/\ay [k2] w4 u,?_,p2,e1,_,e2,p3,e3,_,e4,λhq=>⟨p3,e3,λeu eh=>?_⟩,λhq fJ ec=>⟨Za,?_,tv.ca ec⟩⟩
   ·rintro _ _ _ _ _ _ _ _ _ _ _ _ _ u ⟨hs,hf,hu⟩;exact⟨kv3-1,aE,q+1,aaa,aE,aE,hs,hf,hu⟩
   ·have CX:=tv.ca eh;obtain⟨p4,e5,_,e6⟩:=vat CX hv;obtain rfl:=cR.CJ e3 e5;refine⟨_,e6,λhB h1 h2=>(wr2 24 v.a _ _ CX h1 h2 hB).mono ?_⟩;rintro _ u ⟨rfl,hS,g1,g2,Uk,hg,hu⟩;refine⟨rfl,hS,vs,_,_,_,_,en,lv,mv,kids,_,sl,g1,g2,Uk,Za,?_,hu⟩;rw[gU]at hq;have hq:=aR hq;rw[hg,acH,OD _ _ aL,bE ((pE _).2 (.inr hq))];rfl
   rw[gU]at hq;have hq:=aU hq;rw[acH];congr 3;exact ry.2 ⟨λh=>(pE _).2 (.inl h),λh=>((pE _).1 h).resolve_right hq⟩
  have KH:=aU KH;have:q=m:=aE
  subst this;rw[acH,hf9,uG,<-fD,bf]
 have vK:=aU vK;have:m=c.vars.length:=aE
 subst this;rw[bm aE]at hf9;have O1:kj false (D+1) w9 (λk=>k<w.heap.size) c.root NC:=(bU false _).keep hr3 λk hk bT=>(h9.block k aE aaf).trans (dw.block k bT aM);refine(MZ (G:=λk=>k<w.heap.size) (λk hk=>aE) hFo aE aE (D+1) (ai8 h9 hB) O1 aE (a:=0) aE oh.1.2).mono ?_;rintro _ gY ⟨rfl,Ay,je⟩;rw[hf9,<-fD,bf]at Ay;exact⟨_,rfl,sm h9 h1 h2 je,vs,_,_,_,_,en,lv,mv,kids,_,sl,_,_,Ay.blk,λjm jo _=>⟨rfl,by
  have:=((fin (on2 h9 je)).vV (jo.p (F:=λk=>w.heap.size<=k) λx hx=>ab4))
  exact this.only λk hk=>hk⟩⟩
theorem lchecks_c{w:av}{x:Ch×Nat}{cs:aI}(hx:rChU w (λ_=>True) x cs)(hb:x.2<=1048576)(hE:Er w)(hT:Tb w):az aq 3 #[ah cs.toArray] w λe w'=>e=ak (aj true)/\ay [] w w':=by
 obtain⟨c,m⟩:=x;obtain⟨D,vs,cs,rfl,hC,hn,hs⟩:=hx;dsimp only at hC hn hs hb;have hC0:=hC;cases D with
 | zero=>exact hC.root.elim
 | succ D=>
 obtain⟨en,lv,mv,kids,rfl,_⟩:=hC0.root;refine ret (alH _ _ _ _ _ _ _ _ _ _ _ _ ?_);have keep:∀{w':av},ay [] w w'->ChR false (D+1) w' (λ_=>True) c vs (mH c.root.b.k c.root.b.nm c.root.b.ini c.root.b.dft en lv mv kids c.root.b.a):=λhO=>⟨hC.vars.keep dF aL λk _ bT=>hO.block k bT aM,(bU false _).keep hC.root λk _ bT=>hO.block k bT aM⟩
 intro k0 w0 fO dQ cf;have z0:=cf.size;refine(RM w0 (hE.only cf) (hT.only cf)).mono ?_;rintro _ w1 ⟨rfl,cn⟩;have z1:=cn.size;have o1:=cf.ca cn;refine⟨_,rfl,cn.same aaf,(Oy (keep o1) aE).mono ?_⟩;rintro _ w2 ⟨⟨Ni,ds,rfl,hC2⟩,cH⟩;have z2:=cH.size;have o2:=o1.ca cH;have aja:=hC2;obtain⟨qA,qB,nR,gj,rfl,_⟩:=hC2.root;refine⟨Ni,_,_,_,_,qA,qB,nR,gj,_,rfl,cH.same aaf,λk1 w3 kU jC cT=>?_⟩;have z3:=cT.size;have o3:=o2.ca cT;refine(HB (keep o3) hn aE (hE.only o3) (hT.only o3)).mono ?_;rintro _ w4 ⟨rfl,dw⟩;have z4:=dw.size;have o4:=o3.ca dw;refine⟨_,_,rfl,dw.same aaf,λk2 w5 oT nC dY=>?_⟩;have z5:=dY.size;have o5:=o4.ca dY;have oc:ay [] w2 w5:=(cT.ca dw).ca dY;have hC5:ChR false (D+1) w5 (λ_=>True) c Ni (mH c.root.b.k c.root.b.nm c.root.b.ini c.root.b.dft qA qB nR gj c.root.b.a):=⟨aja.vars.keep dF aL λk _ bT=>oc.block k bT aM,(bU false _).keep aja.root λk _ bT=>oc.block k bT aM⟩
 refine(QX (keep o5) hC5 (ChE.refl true (D+1) c)).mono ?_;rintro _ w6 ⟨rfl,dK⟩;have z6:=dK.size;have o6:=o5.ca dK;refine⟨_,rfl,dK.same aaf,λb u=>b=true/\ay [] w u,λb u ⟨h1,h2⟩=>⟨by rw[h1],h2⟩,λw7 fK=>⟨λk=>k=k2,λ_=>⟨λ_=>⟨rfl,(SO (keep (o6.ca fK)) hn aE).mono ?_⟩,λh=>aaQ⟩,λh=>aaQ⟩⟩;rintro _ w8 ⟨rfl,fj⟩;have z7:=fK.size;exact⟨_,_,rfl,fj.same aaf,bR.only fj,aM,(o6.ca fK).ca fj⟩
end Go.Proofs.YtmgndgpgngcgpaaGreatDoor.Con
