import Derived.Test.YtbkjcdocjfknfaaGreatDoorQc6
set_option linter.unusedSectionVars false
namespace Go.Proofs.YtbkjcdocjfknfaaGreatDoor.Con
open Go.Value renaming int->O,string->ab,pointer->ae,agg->ah,tuple->ai,bool->aj
open Go.IntKind renaming i64->U,wrap->ar
open Go.Ending renaming returned->ak
open _root_.ByteArray renaming mk->ao
open _root_.Go.Proofs.Tryz renaming prog->aq
open Go.Instr renaming buildSlice->au
open Go renaming World->av,Value->aw,Calls->az
open Go.Kt renaming Only->ay,SliceF->aA,Cells->aB,OnlyP->aD,Blk->aF
open Go Go.RowKit Go.Kt Go.Kt.V Go.Proofs.YtbkjcdocjfknfaaGreatDoor.Vc
set_option linter.unusedSimpArgs false
set_option linter.unusedVariables false
set_option maxHeartbeats 4000000
theorem sD(w:av)(p:Addr)(n:Nat)(a:Addr):(w.freeze p n).cell? a=w.cell? a:=by
 unfold World.freeze;split
 ·rfl
 ·unfold World.cell?;simp only[kP];by_cases PD:p.block=a.block
  ·rw[if_pos PD];cases h:w.heap[a.block]? with
   | none=>rfl
   | some o=>
    cases o with
    | cells c e f=>obtain⟨lo,hi⟩:=f;rfl
    | _=>rfl
  ·rw[if_neg PD]
theorem sE(w:av)(p:Addr)(n:Nat):aD (fun k=>k=p.block) w (w.freeze p n):=by
 unfold World.freeze;split
 ·exact OnlyP.refl _ _
 ·exact⟨rfl,rfl,rfl,by simp,fun k hk hn=>by
   simp only[kP];rw[if_neg fun e=>hn e.symm]⟩
theorem Z3{w:av}{F:aJ}{s:Sl}{g B:Nat}{l:aH}(ha:s.a=some ⟨g,0,none⟩)(h:Own jr 1 5 B w F s l)(bS:g<w.heap.size):
  ∃w',(convert 241 241 (Sl.v s)).run aq w=.ok (Sl.v s) w'/\aA jr 1 w' (fun _=>True) s l/\aD (fun k=>k=g) w w':=by
 have hs:=Cg h;obtain⟨g',css,tail,a1,a2,a4,_⟩:=h.resolve_left (fun e=>by rw[e.1]at ha;cases ha);rw[ha]at a1;injection a1 with a1;injection a1 with a1;subst a1;have FB:w.shape? g=some (5,(css.flatten++tail).toArray.size):=by
  unfold World.shape?;unfold aF at a4;rw[a4]
 have hu:Tryz.prog.underlying 241=some (.slice 5):=by kernel_rfl
 have hu2:Tryz.prog.underlying 5=some (.int .u8):=by kernel_rfl
 refine⟨w.freeze ⟨g,(css.flatten++tail).toArray.size,none⟩ 1,?_,⟨hs.len,hs.cap,hs.nil0,hs.big,fun j x hj=>?_⟩,sE w ⟨g,(css.flatten++tail).toArray.size,none⟩ 1⟩
 ·unfold Sl.v;rw[ha];simp[convert,run_underlying hu,run_underlying hu2,markStringish,FB,Result.andThen]
 ·obtain⟨base,cs,g1,g2,g3,g4,g5⟩:=hs.at_ j x hj;exact⟨base,cs,g1,trivial,g3,fun q v hq=>by rw[sD];exact g4 q v hq,g5⟩
theorem u8i{c d:UInt8}:((c.toNat:Int)==(d.toNat:Int))=(c==d):=by
 rw[bX];simp only[ey];constructor
 ·intro h;exact T7.1 (by omega)
 ·rintro rfl;rfl
theorem NR{m:aH}(h:Lm m=true):2<=m.length:=by
 match m,h with
 | _::_::_,_=>simp
theorem Af{m:aH}:nf m<=m.length:=by
 unfold nf;split
 ·exact NR (by assumption)
 ·split
  ·split
   ·simp
   ·exact bh _
  ·exact bh _
theorem Z4{w:av}{b:Nat}{l:aH}{i:Nat}{rs:Sl}{acc:List Tk}(h:Cut w b l i rs acc)(ha:acc.length<=16384)(ik:i<l.length):
  az aq 196 #[ae (some ⟨b,0,none⟩)] w fun e w'=>∃v,e=ak v/\aD (fun k=>b<=k) w w'/\Pb w' b l i acc (ur (l.drop i)) v:=by
 refine afb ⟨b,0,none⟩ (fun v w'=>aD (fun k=>b<=k) w w'/\Pb w' b l i acc (ur (l.drop i)) v) w ?_;obtain⟨ws,hb,hw⟩:=h.blk;have hll:=h.ll;have Bg:=h.il;refine(Ab hb h.il).mono ?_;rintro _ w0 ⟨rfl,cD⟩;have zf:(l.drop i).length=l.length-i:=cH;generalize hm:l.drop i=m at*
 obtain⟨c,r,rfl⟩:∃c r,m=c::r:=by
  cases m with
  | nil=>simp at zf;omega
  | cons c r=>exact⟨c,r,rfl⟩
 have g0:(0:Int)<=0/\(T (c::r))[0]? =some c:=⟨iB _,by rw[xO];rfl⟩
 refine⟨T (c::r),rfl,fun i0 w'=>i0=(if DP.contains c then 1 else 0:Int)/\ay [] w w',?_,c,g0,?_⟩
 ·rintro _ w1 ⟨rfl,cr⟩;refine⟨fun i1 w'=>i1=(nf (c::r):Int)/\ay [] w w',?_,fun b w'=>b=Lm (c::r)/\ay [] w w',?_,?_,?_⟩
  ·rintro _ w2 ⟨rfl,cR⟩;refine⟨fun hz=>⟨cR.p0,?_⟩,fun hz=>⟨nf (c::r),⟨rfl,by rw[dI];exact Af⟩,?_⟩⟩
   ·rw[ur,if_pos (by have:(nf (c::r):Int)=0:=(by simpa using hz);omega)];exact⟨rfl,rs,h.only cR⟩
   have hz:¬nf (c::r)=0:=by
    intro e;rw[e]at hz;simp at hz
   rw[ur,if_neg hz,zx,fV,oC];have hn:=Af (m:=c::r);refine(ret (XN (T _) (fun v w'=>v=ab (T ((c::r).take (nf (c::r))))/\ay [] w2 w') w2 ?_)).mono ?_
   ·refine(Tryz.stringslite_Clone (T _) w2 (by rw[dI,cT];omega)).mono ?_;rintro _ w3 ⟨rfl,hw⟩;exact⟨_,rfl,rfl,Only.qk hw⟩
   rintro _ w3 ⟨rfl,de⟩;refine⟨_,rfl,(Ll (h.only (cR.cf de)) 4 _ 0 0 (nf (c::r)) (by omega) ha).mono ?_⟩;rintro _ w4 ⟨rfl,dL,WY,hC⟩;exact⟨rfl,(cR.cf de).mL dL,rfl,WY,hC⟩
  ·rintro _ w5 ⟨rfl,eP⟩;refine⟨fun hs=>⟨by rw[nf,if_pos hs];rfl,eP⟩,fun hs=>⟨?_,eP⟩⟩;have e:nf (c::r)=if DP.contains c then 1 else 0:=by rw[nf,if_neg (by rw[hs];decide)]
   rw[e];split<;>rfl
  ·intro hc;rw[dI]at hc;obtain⟨d,r,rfl⟩:∃d r',r=d::r':=by
    cases r with
    | nil=>simp at hc
    | cons d r=>exact⟨d,r,rfl⟩
   have g1:(0:Int)<=1/\(T (c::d::r))[1]? =some d:=⟨by decide,by rw[xO];rfl⟩
   have ex:(T (c::d::r)).extract 0 2=T [c,d]:=by rw[zx];rfl
   have sz:2<=(T (c::d::r)).size:=by rw[dI];simp
   have lit:(ao #[45,62])=T [45,62]:=rfl;have eqx:((T [c,d]).toList==(T [45,62]).toList)=(c==45&&d==62):=by
    rw[mA,bX];simp
   have e61:((d.toNat:Int)==61)=(d==61):=u8i (d:=61);have hs2:Lm (c::d::r)=((d==61&&[60,62,61,33].contains c)||(d==c&&[38,124].contains c)||(c==45&&d==62)):=rfl;rw[hs2];generalize JY:([60,62,61,33]:aH).contains c=p1;generalize hp2:([38,124]:aH).contains c=p2;have Us:((((T (c::d::r)).extract 0 2).toList)==((ao #[45,62]).toList))=(c==45&&d==62):=by rw[ex,lit,eqx]
   refine⟨d,g1,fun Tp=>⟨c,g0,fun w6 eB=>?_⟩,fun Tp=>⟨d,g1,c,g0,fun OQ=>⟨c,g0,fun dC eu=>?_⟩,fun OQ=>⟨sz,fun fk ep=>⟨?_,cr.cf ep⟩⟩⟩⟩
   ·rw[e61]at Tp;obtain⟨s,w7,k1,k2,k3,_⟩:=wY w6 [60,62,61,33] (n:=4) (parts:=#[(0,.int .u8 60),(1,.int .u8 62),(2,.int .u8 61),(3,.int .u8 33)]) rfl rfl (by decide) (by decide);refine⟨s,w7,k1,(Gq (Cg k2) c).mono ?_⟩;rintro _ w8 ⟨rfl,fy⟩;have mV:=cr.cf (eB.cf (k3.cf fy));rw[JY];refine⟨_,rfl,fun hb=>⟨by rw[Tp,hb];rfl,mV⟩,fun hb=>⟨d,g1,c,g0,fun OQ=>⟨c,g0,?_⟩,fun OQ=>⟨sz,?_,mV⟩⟩⟩
    ·rw[u8i]at OQ;obtain⟨s,w9,k1,k2,k3,_⟩:=wY w8 [38,124] (n:=2) (parts:=#[(0,.int .u8 38),(1,.int .u8 124)]) rfl rfl (by decide) (by decide);refine⟨s,w9,k1,(Gq (Cg k2) c).mono ?_⟩;rintro _ du ⟨rfl,dM⟩;have hO:=mV.cf (k3.cf dM);rw[hp2];exact⟨_,rfl,fun ym=>⟨by rw[Tp,hb,OQ,ym];rfl,hO⟩,fun ym=>⟨sz,by rw[Us,Tp,hb,OQ,ym];rfl,hO⟩⟩
    ·rw[u8i]at OQ;rw[Us,Tp,hb,OQ];rfl
   ·rw[e61]at Tp;rw[u8i]at OQ;obtain⟨s,dN,k1,k2,k3,_⟩:=wY dC [38,124] (n:=2) (parts:=#[(0,.int .u8 38),(1,.int .u8 124)]) rfl rfl (by decide) (by decide);refine⟨s,dN,k1,(Gq (Cg k2) c).mono ?_⟩;rintro _ fb ⟨rfl,eH⟩;have hO:=cr.cf (eu.cf (k3.cf eH));rw[hp2];exact⟨_,rfl,fun ym=>⟨by rw[Tp,OQ,ym];rfl,hO⟩,fun ym=>⟨sz,by rw[Us,Tp,OQ,ym];rfl,hO⟩⟩
   ·rw[e61]at Tp;rw[u8i]at OQ;rw[Us,Tp,OQ];rfl
  ·intro hc fZ gL;rw[dI]at hc;have hr:r=[]:=by
    cases r with
    | nil=>rfl
    | cons d r=>exact absurd (aR hc) (by simp only[bf];omega)
   subst hr;exact⟨rfl,cr.cf gL⟩
 ·obtain⟨s,gI,k1,k2,k3,k4⟩:=wY w0 DP (n:=17) (parts:=#[(0,.int .u8 123),(1,.int .u8 125),(2,.int .u8 40),(3,.int .u8 41),(4,.int .u8 91),(5,.int .u8 93),(6,.int .u8 59),(7,.int .u8 44),(8,.int .u8 61),(9,.int .u8 43),(10,.int .u8 45),(11,.int .u8 42),(12,.int .u8 47),(13,.int .u8 37),(14,.int .u8 60),(15,.int .u8 62),(16,.int .u8 33)]) rfl rfl (by decide) (by decide);obtain⟨gf,c1,c2,c3⟩:=Z3 k4 k2 (k2.blk k4).2;have io:ay [] w0 gf:=((k3.p0 (F:=fun k=>w0.heap.size<=k)).trans c3 fun k hk=>.inl (by omega)).only fun k hk=>hk;refine⟨s,gI,k1,s,gf,c1,(Gq c2 c).mono ?_⟩;rintro _ iy ⟨rfl,mV⟩;have hO:=cD.cf (io.cf mV);exact⟨_,rfl,fun hb=>⟨by rw[if_pos hb],hO⟩,fun hb=>⟨by rw[hb];rfl,hO⟩⟩
theorem Pb.int{w':av}{b:Nat}{l:aH}{i:Nat}{acc:List Tk}{r:Except Int Tq}{v:aw}(h:Pb w' b l i acc r v):∃k:Int,v=O U k:=by
 unfold Pb at h;split at h
 ·exact⟨_,h.1⟩
 ·exact⟨_,h.1⟩
theorem VA{w:av}{b:Nat}{l:aH}{i:Nat}{rs:Sl}{acc:List Tk}(h:Cut w b l i rs acc)(ha:acc.length<=16384)(ik:i<l.length):
  az aq 154 #[ae (some ⟨b,0,none⟩)] w fun e w'=>∃v,e=ak v/\aD (fun k=>b<=k) w w'/\Pb w' b l i acc (vU (l.drop i)) v:=by
 refine ae3 ⟨b,0,none⟩ (fun v w'=>aD (fun k=>b<=k) w w'/\Pb w' b l i acc (vU (l.drop i)) v) w ?_;obtain⟨ws,hb,hw⟩:=h.blk;have hx:l[i]? =some l[i]:=aW ik;generalize l[i]=x at hx;have ht:vU (l.drop i)=if qN x then uq (l.drop i)else if ff x then Ae (l.drop i)else ur (l.drop i):=by
  rw[Ci hx];rfl
 rw[ht];refine⟨T l,Blk.dQ hb 0 rfl,i,Blk.dQ hb 1 rfl,x,⟨bA i,by rw[xO,aY,hx]⟩,fun w0 cD=>(Aa w0 x).mono ?_⟩;rintro _ w1 ⟨rfl,cr⟩;have jz:=cD.cf cr;refine⟨_,rfl,fun hl=>?_,fun hl=>(Lh w1 x).mono ?_⟩
 ·rw[if_pos hl];refine(Z2 (h.only jz) ha).mono ?_;rintro _ w2 ⟨v,rfl,cR,hd⟩;obtain⟨k,rfl⟩:=hd.int;exact⟨k,rfl,jz.mL cR,hd⟩
 rintro _ w3 ⟨rfl,de⟩;have Bh:=jz.cf de;rw[if_neg (by rw[hl];decide)];refine⟨_,rfl,fun hd=>?_,fun hd=>?_⟩
 ·rw[if_pos hd];refine(QU (h.only Bh) ha).mono ?_;rintro _ w2 ⟨v,rfl,cR,hd⟩;obtain⟨k,rfl⟩:=hd.int;exact⟨k,rfl,Bh.mL cR,hd⟩
 ·rw[if_neg (by rw[hd];decide)];refine(Z4 (h.only Bh) ha ik).mono ?_;rintro _ w2 ⟨v,rfl,cR,hd⟩;obtain⟨k,rfl⟩:=hd.int;exact⟨k,rfl,Bh.mL cR,hd⟩
theorem vV{m:aH}{q:Tq}(h:vU m=.ok q):1<=q.2.2.2:=by
 cases m with
 | nil=>cases h
 | cons c r=>
  simp only[vU]at h;split at h
  ·rename_i hc;unfold uq at h;split at h
   ·cases h
   ·injection h with h;subst h;have:iG c=true:=by unfold iG;rw[hc];rfl
    dsimp only;rw[eF,if_pos this,bf];omega
  ·split at h
   ·rename_i hc;unfold Ae at h;split at h
    ·cases h
    ·split at h
     ·cases h
     ·rename_i h1 h2;injection h with h;subst h;dsimp only;rw[eF,if_pos (by unfold iG;rw[hc,KE]),bf]at h2;omega
   ·unfold ur at h;split at h
    ·cases h
    ·injection h with h;subst h;dsimp only;omega
theorem Lp{m:aH}{e:Int}(h:vU m=.error e):e≠0:=by
 cases m with
 | nil=>injection h with h;omega
 | cons c r=>
  simp only[vU]at h;split at h
  ·unfold uq at h;split at h
   ·injection h with h;omega
   ·cases h
  ·split at h
   ·unfold Ae at h;split at h
    ·injection h with h;omega
    ·split at h
     ·injection h with h;omega
     ·cases h
   ·unfold ur at h;split at h
    ·injection h with h;omega
    ·cases h
def Ag(l:aH):Nat->Nat->Except (Int×Nat) (List Tk)
 | 0,_=>.ok []
 | f+1,i=>
  if l.length<=i+nc false (l.drop i)then .ok [⟨5,[],0,(i+nc false (l.drop i):Nat)⟩]
  else match vU (l.drop (i+nc false (l.drop i)))with
   | .error e=>.error (e,i+nc false (l.drop i))
   | .ok q=>match Ag l f (i+nc false (l.drop i)+q.2.2.2)with
    | .error x=>.error x
    | .ok r=>.ok (⟨q.1,q.2.1,q.2.2.1,(i+nc false (l.drop i):Nat)⟩::r)
theorem QV{l:aH}:(gR l).2.1<=l.length:=by
 have:=tH (p:=ff) (l:=l);unfold gR;split
 ·exact bh _
 ·split
  ·exact bh _
  ·split
   ·exact this
   ·exact bh _
theorem DQ{m:aH}{q:Tq}(h:vU m=.ok q):q.2.2.2<=m.length:=by
 cases m with
 | nil=>cases h
 | cons c r=>
  simp only[vU]at h;split at h
  ·unfold uq at h;split at h
   ·cases h
   ·injection h with h;subst h;exact tH
  ·split at h
   ·unfold Ae at h;split at h
    ·cases h
    ·split at h
     ·cases h
     ·injection h with h;subst h;exact QV
   ·unfold ur at h;split at h
    ·cases h
    ·injection h with h;subst h;exact Af
theorem QW{l:aH}{i:Nat}(hi:i<=l.length):i+nc false (l.drop i)<=l.length:=by
 have:=DN (b:=false) (l:=l.drop i);rw[cH]at this;omega
theorem Gv(l:aH):∀(f g i:Nat),i<=l.length->l.length<i+f->l.length<i+g->Ag l f i=Ag l g i
 | 0,_,i,hi,h,_=>by omega
 | _,0,i,hi,_,h=>by omega
 | f+1,g+1,i,hi,h1,h2=>by
  rw[Ag,Ag];split
  ·rfl
  ·split
   ·rfl
   ·rename_i q hq;have h3:=vV hq;have h4:=DQ hq;rw[cH]at h4;rw[Gv l f g _ (by omega) (by omega) (by omega)]
def vW(l:aH)(i:Nat):Except (Int×Nat) (List Tk):=Ag l (l.length+1) i
theorem pM{l:aH}{i:Nat}(hi:i<=l.length):vW l i=if l.length<=i+nc false (l.drop i)then .ok [⟨5,[],0,(i+nc false (l.drop i):Nat)⟩]
  else match vU (l.drop (i+nc false (l.drop i)))with
   | .error e=>.error (e,i+nc false (l.drop i))
   | .ok q=>match vW l (i+nc false (l.drop i)+q.2.2.2)with
    | .error x=>.error x
    | .ok r=>.ok (⟨q.1,q.2.1,q.2.2.1,(i+nc false (l.drop i):Nat)⟩::r):=by
 unfold vW;rw[Ag];split
 ·rfl
 ·split
  ·rfl
  ·rename_i q hq;have h3:=vV hq;have h4:=DQ hq;rw[cH]at h4;rw[Gv l l.length (l.length+1) _ (by omega) (by omega) (by omega)]
def dr(l:aH):List Tk×Int×Int:=if 16384<l.length then([],2, -1)else match vW l 0 with
 | .error x=>([],x.1,(x.2:Nat))
 | .ok r=>(r,0,0)
def iY(acc:List Tk):Except (Int×Nat) (List Tk)->Except (Int×Nat) (List Tk)
 | .error x=>.error x
 | .ok r=>.ok (acc++r)
theorem tI(b:Bool):∀(l:aH),nc false (l.drop (nc b l))=0
 | []=>by simp[nc]
 | c::r=>by
  cases b with
  | true=>
   rw[nc,fK,my];exact tI _ r
  | false=>
   rw[nc];split
   ·rw[fK,my];exact tI _ r
   ·split
    ·rw[fK,my];exact tI _ r
    ·rename_i h1 h2;rw[fV,nc,if_neg h1,if_neg h2]
theorem Cj{l:aH}{i:Nat}(hi:i<=l.length):vW l i=vW l (i+nc false (l.drop i)):=by
 have h1:=QW hi;have h2:nc false (l.drop (i+nc false (l.drop i)))=0:=by
  rw[<-oE];exact tI false (l.drop i)
 rw[pM hi,pM h1,h2,dG]
theorem VB{a b:List Tk}{x:Except (Int×Nat) (List Tk)}:iY a (iY b x)=iY (a++b) x:=by
 cases x with
 | error _=>rfl
 | ok r=>simp[iY]
theorem Gw{w:av}(l:aH)(hE:Er w):
  az aq 113 #[ab (T l)] w fun e w'=>∃rs:Sl,e=ak (ai #[rs.v,ah #[O U (dr l).2.1,O U (dr l).2.2]])/\mR w.heap.size w' rs (dr l).1/\ay [] w w':=by
 refine(aeT (T l) (fun v w'=>∃rs:Sl,v=(ai #[rs.v,ah #[O U (dr l).2.1,O U (dr l).2.2]])/\mR w.heap.size w' rs (dr l).1/\ay [] w w') w ?_).mono (by
  rintro e w' ⟨v,rfl,rs,rfl,h⟩;exact⟨rs,rfl,h⟩)
 rw[dI];refine⟨fun hc k0 w0 _ _ hO=>⟨Sl.nil,?_,?_,hO⟩,fun hc k1 w1 j5 iX cr=>(Lk w1).mono ?_⟩
 ·rw[dr,if_pos (by have:=aO hc;omega)]
 ·rw[dr,if_pos (by have:=aO hc;omega)];exact Own.nil _ _ _ _ _ _
 have hll:l.length<=16384:=by have:=aR hc;omega
 have htm:dr l=match vW l 0 with
  | .error x=>([],x.1,(x.2:Nat))
  | .ok r=>(r,0,0):=by rw[dr,if_neg (by omega)]
 rintro _ w2 ⟨ws,rfl,hws,cR⟩;refine⟨ws,rfl,cR.same (by simp;omega),fun b w3 hb j9 de Kk=>?_⟩;have eH:=cr.cf (cR.cf de);have z1:=cr.size;have z2:=cR.size;have z3:=de.size;have hC0:Cut w3 b l 0 Sl.nil []:=⟨⟨ws,Kk,(SliceF.only cP (by decide) ((vT hws).inHeap cP (by decide)) de (by simp)).mono cP fun k hk=>by omega⟩,Own.nil _ _ _ _ _ _,hE.only eH,by have:=hE.lt;omega,bh _,hll⟩
 have sm:∀{u u':av},w2.heap.size<=u.heap.size->aD (fun k=>b<=k) u u'->bU [k1] u u':=fun hu hO=>hO.same (by intro x hx;simp only[aN]at hx;subst hx;omega);refine(QS Kk (bh _) (by omega)).mono ?_;rintro _ w4 ⟨rfl,dL,WZ⟩;have p4:aD (fun k=>b<=k) w3 w4:=dL.p fun x hx=>.inl (by simp only[aN]at hx;omega);have hC4:Cut w4 b l (0+nc false (l.drop 0)) Sl.nil []:=hC0.move dL (QW (bh _)) fun OP h'=>by
  have:OP=ws:=by
   unfold aF at h' Kk;rw[h']at Kk;simp[Sl.v]at Kk;cases ws;cases OP;simp_all
  subst this;exact WZ
 refine⟨rfl,sm (by omega) p4,T l,_,ws,Sl.nil,WZ,fun nv e1 e2 s0 i0 l1 l2 w'=>e1=0/\e2=0/\s0=T l/\∃(i:Nat) (acc:List Tk),i0=(i:Int)/\Cut w' b l i l2 acc/\acc.length<=i/\nc false (l.drop i)=0/\vW l 0=iY acc (vW l i)/\nv=l.length-i/\aD (fun k=>b<=k) w3 w'/\aF w' b 226 [ab (T l),O U (i:Int),l1.v,l2.v],l.length-(0+nc false (l.drop 0)),?_,?_⟩
 ·refine⟨rfl,rfl,rfl,_,[],rfl,hC4,bh _,?_,?_,rfl,p4,WZ⟩
  ·rw[<-oE];exact tI false (l.drop 0)
  ·rw[<-Cj (bh _)];cases vW l 0<;>rfl
 rintro nv _ _ _ _ l1 rs w5 ⟨rfl,rfl,rfl,i,acc,rfl,hC,fi,hsk,nt,rfl,eP,Ni⟩;have z5:=eP.size;have Bg:=hC.il;refine(XU Ni).mono ?_;rintro _ w6 ⟨rfl,eB⟩;have hC6:=hC.only eB;have hb6:aF w6 b 226 [ab (T l),O U (i:Int),l1.v,rs.v]:=(eB.block b Ni.lt (by simp)).trans Ni;have z6:=eB.size;have ph:=pM hC.il;rw[hsk,dG]at ph;refine⟨_,rfl,eB.same (by simp;omega),T l,i,l1,rs,hb6,fun hc=>?_,fun hc=>?_⟩
 ·have bS:i<l.length:=by simpa using hc
  rw[if_neg (by omega)]at ph;refine(VA hC6 (by omega) bS).mono ?_;rintro _ w7 ⟨v,rfl,fE,hd⟩;have p7:aD (fun k=>b<=k) w3 w7:=(eP.cf eB).trans fE fun k hk=>.inl hk;have z7:=fE.size;unfold Pb at hd;cases hq:vU (l.drop i)with
  | error e=>
   rw[hq]at hd ph;obtain⟨rfl,rs7,hC7⟩:=hd;obtain⟨ws7,Tr,_⟩:=hC7.blk;refine⟨e,rfl,sm (by omega) fE,T l,i,ws7,rs7,Tr,fun _ w8 fy _=>⟨Sl.nil,?_,?_,?_⟩,fun he=>absurd (Lp hq) (by simpa using he)⟩
   ·rw[htm,nt,ph];rfl
   ·rw[htm,nt,ph];exact Own.nil _ _ _ _ _ _
   ·exact(((eH.p0 (F:=fun k=>w.heap.size<=k)).trans p7 fun k hk=>.inl (by omega)).trans (fy.p (F:=fun k=>k=k1) fun x hx=>.inl (by simpa using hx)) fun k hk=>.inl (by omega)).only fun k hk=>hk
  | ok q=>
   rw[hq]at hd ph;obtain⟨rfl,rs7,hC7⟩:=hd;obtain⟨ws7,Tr,_⟩:=hC7.blk;have hq1:=vV hq;have h7l:=hC7.il;refine⟨0,rfl,sm (by omega) fE,T l,(i+q.2.2.2:Nat),ws7,rs7,Tr,fun he=>(by simp at he),fun _=>(QS Tr h7l (by omega)).mono ?_⟩;rintro _ w9 ⟨rfl,fQ,hb9⟩;have p9:aD (fun k=>b<=k) w7 w9:=fQ.p fun x hx=>.inl (by simp only[aN]at hx;omega);have hC9:=hC7.move fQ (QW h7l) fun OP h'=>by
    have:OP=ws7:=by
     unfold aF at h' Tr;rw[h']at Tr;simp[Sl.v]at Tr;cases ws7;cases OP;simp_all
    subst this;exact hb9
   refine⟨rfl,sm (by omega) p9,T l,_,ws7,rs7,hb9,l.length-(i+q.2.2.2+nc false (l.drop (i+q.2.2.2))),by omega,rfl,rfl,rfl,_,_,rfl,hC9,?_,?_,?_,rfl,p7.trans p9 fun k hk=>.inl hk,hb9⟩
   ·rw[aP,bG];omega
   ·rw[<-oE];exact tI false _
   ·rw[nt,ph,<-Cj h7l,<-VB];dsimp only;cases vW l (i+q.2.2.2)<;>rfl
 ·have rl:l.length<=i:=by simpa using hc
  rw[if_pos rl]at ph;refine(Ll hC6 5 [] 0 0 0 (by omega) (by omega)).mono ?_;rintro _ du ⟨rfl,dM,abI,ahf⟩;obtain⟨anH,anI,_⟩:=ahf.blk;have UJ:aD (fun k=>b<=k) w3 du:=(eP.cf eB).trans dM fun k hk=>.inl hk;have htt:dr l=(acc++[⟨5,[],0,(i:Nat)⟩],0,0):=by
   rw[htm,nt,ph];rfl
  refine⟨rfl,sm (by omega) dM,T l,_,anH,abI,anI,fun dC eu _=>⟨abI,?_,?_,?_⟩⟩
  ·rw[htt]
  ·rw[htt];have:mR (b+1) dC abI _:=ahf.own.keep fun k hk bS=>eu.block k bS (by simp only[aN];omega);exact Own.low this (by omega)
  ·exact(((eH.p0 (F:=fun k=>w.heap.size<=k)).trans UJ fun k hk=>.inl (by omega)).trans (eu.p (F:=fun k=>k=k1) fun x hx=>.inl (by simpa using hx)) fun k hk=>.inl (by omega)).only fun k hk=>hk
inductive Ex where
 | mk (k n:Int) (s:aH) (op:Int) (subs:List Ex) (a:Int)
def Ex.k:Ex->Int | .mk k _ _ _ _ _=>k
def Ex.n:Ex->Int | .mk _ n _ _ _ _=>n
def Ex.s:Ex->aH | .mk _ _ s _ _ _=>s
def Ex.op:Ex->Int | .mk _ _ _ op _ _=>op
def Ex.fF:Ex->List Ex | .mk _ _ _ _ l _=>l
def Ex.a:Ex->Int | .mk _ _ _ _ _ a=>a
def tk0:Tk:=⟨5,[],0, -1⟩
def tk(ts:List Tk)(i:Nat):Tk:=(ts[i]?).getD tk0
def sg(ts:List Tk)(i:Nat)(s:aH):Bool:=(tk ts i).k==4&&decide ((tk ts i).t=s)
def im(ts:List Tk)(i:Nat):Int×Int:=(if(tk ts i).k=5 then 3 else 4,(tk ts i).a)
theorem Lq{ts:List Tk}{i:Nat}(h:i<ts.length):ts[i]? =some (tk ts i):=by
 unfold tk;rw[aW h];rfl
def xa(ts:List Tk):Prop:=∀i,i<ts.length->((tk ts i).k=5↔i+1=ts.length)
theorem xa.next{ts:List Tk}(h:xa ts){i:Nat}(hi:i<ts.length)(hk:(tk ts i).k≠5):i+1<ts.length:=by
 have h2:¬(i+1=ts.length):=fun e=>hk ((h i hi).2 e);omega
theorem DR{ts:List Tk}{i:Nat}{s:aH}(h:sg ts i s=true):(tk ts i).k≠5:=by
 simp only[sg,aQ,ey]at h;rw[h.1];decide
def BK:List (aH):=[[],[43],[45],[42],[47],[37],[60],[60,61],[62],[62,61],[61,61],[33,61],[38,38],[124,124],[45],[33]]
def kV(op:Int):Int:=if 3<=op/\op<=5 then 5 else if op=1∨op=2 then 4 else if 6<=op/\op<=9 then 3 else if op=10∨op=11 then 2 else if op=12 then 1 else if op=13 then 0 else 6
def lS(op:Nat):aH:=(BK[op]?).getD []
def xb(ts:List Tk)(k:Int)(i:Nat):Nat->Nat->Int
 | 0,_=>0
 | f+1,op=>if kV (op:Int)=k/\sg ts i (lS op)=true then(op:Int)else xb ts k i f (op+1)
def Ah(ts:List Tk)(k:Int)(i:Nat):Int:=xb ts k i 13 1
theorem xd{ts:List Tk}{k:Int}{i:Nat}:∀(f op:Nat),xb ts k i f op≠0->(tk ts i).k≠5
 | 0,_,h=>absurd rfl h
 | f+1,op,h=>by
  rw[xb]at h;split at h
  ·rename_i hc;exact DR hc.2
  ·exact xd f _ h
abbrev Pr:=Except (Int×Int) (Ex×Nat)
def VC(g:Ex->Ex):Pr->Pr
 | .error e=>.error e
 | .ok (x,j)=>.ok (g x,j)
def NS:Pr->(Ex->Nat->Pr)->Pr
 | .error e,_=>.error e
 | .ok (x,j),g=>g x j
def BL(ts:List Tk):Pr->Pr
 | .error e=>.error e
 | .ok (x,j)=>if sg ts j [41]then .ok (x,j+1)else .error (im ts j)
def ru(d:Nat)(a:Int)(r:Pr):Pr:=if d=20 then .error (21,a)else r
def VD(ts:List Tk)(i:Nat):Pr:=
 if sg ts (i+1) [40]then
  (if(tk ts (i+2)).k=1 then
   (if sg ts (i+3) [41]then .ok (.mk 3 0 (tk ts (i+2)).t 0 [] (tk ts i).a,i+4)else .error (im ts (i+3)))
  else .error (im ts (i+2)))
 else .error (im ts (i+1))
def DS(ts:List Tk)(E0 Pk:Nat->Pr)(d i:Nat):Pr:=
 if(sg ts i [45]||sg ts i [33])=true then VC (fun x=>.mk 4 0 [] (if(tk ts i).t=[33]then 15 else 14) [x] (tk ts i).a) (ru d (tk ts i).a (Pk (i+1)))
 else if sg ts i [40]=true then ru d (tk ts i).a (BL ts (E0 (i+1)))
 else if(tk ts i).k=3 then .ok (.mk 1 (tk ts i).n [] 0 [] (tk ts i).a,i+1)
 else if(tk ts i).k=1 then .ok (.mk 2 0 (tk ts i).t 0 [] (tk ts i).a,i+1)
 else if(tk ts i).k=2/\(tk ts i).t=[105,110]then VD ts i
 else .error (im ts i)
def ni(ts:List Tk)(E:Nat->Pr)(k:Int):Nat->Ex->Nat->Pr
 | 0,x,j=>.ok (x,j)
 | g+1,x,j=>if Ah ts k j=0 then .ok (x,j)else NS (E (j+1)) fun y j'=>ni ts E k g (.mk 5 0 [] (Ah ts k j) [x,y] x.a) j'
def fI(ts:List Tk):Nat->Nat->Nat->Nat->Pr
 | 0,_,_,_=>.error (1,0)
 | f+1,k,d,i=>if k=6 then DS ts (fI ts f 0 (d+1)) (fI ts f 6 (d+1)) d i else NS (fI ts f (k+1) d i) fun x j=>ni ts (fI ts f (k+1) d) (k:Int) (ts.length-j) x j
theorem Lr{g:Ex->Ex}{r:Pr}{x:Ex}{j:Nat}(h:VC g r=.ok (x,j)):∃y,r=.ok (y,j)/\x=g y:=by
 cases r with
 | error e=>cases h
 | ok q=>
  obtain⟨y,j'⟩:=q;simp only[VC,fp,fm]at h;obtain⟨rfl,rfl⟩:=h;exact⟨y,rfl,rfl⟩
theorem vX{d:Nat}{a:Int}{r:Pr}{q:Ex×Nat}(h:ru d a r=.ok q):r=.ok q/\d≠20:=by
 unfold ru at h;split at h
 ·cases h
 ·exact⟨h,by assumption⟩
theorem Ls{ts:List Tk}{r:Pr}{x:Ex}{j:Nat}(h:BL ts r=.ok (x,j)):∃j',r=.ok (x,j')/\sg ts j' [41]=true/\j=j'+1:=by
 cases r with
 | error e=>cases h
 | ok q=>
  obtain⟨y,j'⟩:=q;simp only[BL]at h;split at h
  ·simp only[fp,fm]at h;obtain⟨rfl,rfl⟩:=h;exact⟨j',rfl,by assumption,rfl⟩
  ·cases h
theorem yQ{r:Pr}{g:Ex->Nat->Pr}{q:Ex×Nat}(h:NS r g=.ok q):∃x j,r=.ok (x,j)/\g x j=.ok q:=by
 cases r with
 | error e=>cases h
 | ok p=>exact⟨p.1,p.2,rfl,h⟩
theorem Z5{ts:List Tk}{i:Nat}{x:Ex}{j:Nat}(h:VD ts i=.ok (x,j)):j=i+4/\x=.mk 3 0 (tk ts (i+2)).t 0 [] (tk ts i).a:=by
 unfold VD at h;split at h
 ·split at h
  ·split at h
   ·simp only[fp,fm]at h;exact⟨h.2.symm,h.1.symm⟩
   ·cases h
  ·cases h
 ·cases h
theorem NT{ts:List Tk}{E0 Pk:Nat->Pr}{d i:Nat}{x:Ex}{j:Nat}(hE:∀i x j,E0 i=.ok (x,j)->i<j)(hO:∀i x j,Pk i=.ok (x,j)->i<j)(h:DS ts E0 Pk d i=.ok (x,j)):i<j:=by
 unfold DS at h;split at h
 ·obtain⟨y,h1,_⟩:=Lr h;have:=hO _ _ _ (vX h1).1;omega
 ·split at h
  ·obtain⟨j',h1,_,rfl⟩:=Ls (vX h).1;have:=hE _ _ _ h1;omega
  ·split at h
   ·simp only[fp,fm]at h;omega
   ·split at h
    ·simp only[fp,fm]at h;omega
    ·split at h
     ·have:=(Z5 h).1;omega
     ·cases h
theorem Ai{ts:List Tk}{E:Nat->Pr}{k:Int}(hE:∀i x j,E i=.ok (x,j)->i<j):∀(g:Nat) (x:Ex) (j:Nat) {x':Ex} {j':Nat},ni ts E k g x j=.ok (x',j')->j<=j'
 | 0,x,j,x',j',h=>by
  simp only[ni,fp,fm]at h;omega
 | g+1,x,j,x',j',h=>by
  rw[ni]at h;split at h
  ·simp only[fp,fm]at h;omega
  ·obtain⟨y,m,h1,h2⟩:=yQ h;have:=hE _ _ _ h1;have:=Ai hE g _ _ h2;omega
theorem lU{ts:List Tk}:∀(f k d i:Nat) {x:Ex} {j:Nat},fI ts f k d i=.ok (x,j)->i<j
 | 0,_,_,_,_,_,h=>by cases h
 | f+1,k,d,i,x,j,h=>by
  rw[fI]at h;split at h
  ·exact NT (fun i x j h=>lU f _ _ i h) (fun i x j h=>lU f _ _ i h) h
  ·obtain⟨y,m,h1,h2⟩:=yQ h;have:=lU f _ _ _ h1;have:=Ai (fun i x j h=>lU f _ _ i h) _ _ _ h2;omega
def kX(k d:Nat):Nat:=(20-d)*8+(7-k)
def I9(ts:List Tk)(i:Nat):Pr:=fI ts (kX 0 0) 0 0 i
structure Rd (F G:aJ) (ts:List Tk) (w:av) (b:Nat) (l sn:Sl) (i:Nat) (fc fa d:Int):Prop where
 blk:aF w b 324 [l.v,O U (i:Int),O U fc,O U fa,O U d,sn.v]
 tok:aA Lj 4 w F l ts
 sig:aA ju 1 w G sn BK
 hF:∀k,F k->k<b
 hG:∀k,G k->k<b
 en:xa ts
 lt:i<ts.length
section
variable {F G:aJ} {ts:List Tk} {w w':av} {b:Nat} {l sn:Sl} {i:Nat} {fc fa d:Int}
theorem Rd.only(h:Rd F G ts w b l sn i fc fa d)(hO:ay [] w w'):Rd F G ts w' b l sn i fc fa d:=
 ⟨hO.blk h.blk (by simp),SliceF.only jB (by decide) h.tok hO (by simp),SliceF.only cP (by decide) h.sig hO (by simp),h.hF,h.hG,h.en,h.lt⟩
theorem Rd.nI(h:Rd F G ts w b l sn i fc fa d)(hO:ay [b] w w'){i':Nat}{fc' fa' d':Int}(hB:aF w' b 324 [l.v,O U (i':Int),O U fc',O U fa',O U d',sn.v])(hi:i'<ts.length):Rd F G ts w' b l sn i' fc' fa' d':=
 ⟨hB,SliceF.only jB (by decide) h.tok hO fun k hk _ hm=>by have:=h.hF k hk;simp only[aN]at hm;omega,SliceF.only cP (by decide) h.sig hO fun k hk _ hm=>by have:=h.hG k hk;simp only[aN]at hm;omega,h.hF,h.hG,h.en,hi⟩
theorem Rd.own(h:Rd F G ts w b l sn i fc fa d){bs:List Nat}(hO:ay bs w w')(hb:∀x,x∈bs->b<x):Rd F G ts w' b l sn i fc fa d:=
 ⟨hO.blk h.blk fun hm=>by have:=hb b hm;omega,SliceF.only jB (by decide) h.tok hO fun k hk _ hm=>(by have:=h.hF k hk;have:=hb k hm;omega),SliceF.only cP (by decide) h.sig hO fun k hk _ hm=>(by have:=h.hG k hk;have:=hb k hm;omega),h.hF,h.hG,h.en,h.lt⟩
theorem Rd.lb(h:Rd F G ts w b l sn i fc fa d):b<w.heap.size:=h.blk.lt
theorem Rd.big(h:Rd F G ts w b l sn i fc fa d):ts.length<=9223372036854775807:=by
 have h1:=h.tok.len;have h2:=h.tok.cap;have h3:=h.tok.big;omega
theorem Rd.now(h:Rd F G ts w b l sn i fc fa d):∃ad,cW l (i:Int) 4 ad/\aB w ad [O U (tk ts i).k,ab (T (tk ts i).t),O U (tk ts i).n,O U (tk ts i).a]:=by
 have hl:=h.tok.len;have bS:=h.lt;obtain⟨ad,x,cs,g1,g2,g3,g4,g5,g6⟩:=h.tok.get (bA i) (by omega);rw[aY,Lq h.lt]at g2;injection g2 with g2;subst g2;unfold Lj at g6;subst g6;exact⟨ad,g1,g5⟩
theorem Gx(h:Rd F G ts w b l sn i fc fa d):az aq 288 #[ae (some ⟨b,0,none⟩)] w fun e w'=>e=ak (tk ts i).v/\ay [] w w':=by
 refine ret (ak3 _ _ _ ?_);intro k0 w0 hk iM hO;have h0:=h.only hO;obtain⟨ad,g1,g2⟩:=h0.now;exact⟨l,Blk.dQ h0.blk 0 rfl,_,Blk.dQ h0.blk 1 rfl,ad,g1,_,_,_,_,g2,fun w1 cr=>⟨rfl,hO.new cr hk⟩⟩
theorem Ck(h:Rd F G ts w b l sn i fc fa d):az aq 258 #[ae (some ⟨b,0,none⟩)] w fun e w'=>e=ak (aj (fc !=0))/\ay [] w w':=by
 refine ret (ak4 _ _ _ ?_);exact⟨fc,Blk.dQ h.blk 2 rfl,rfl,Only.refl _ _⟩
theorem DT(h:Rd F G ts w b l sn i fc fa d)(c:Int):az aq 297 #[ae (some ⟨b,0,none⟩),O U c] w fun e w'=>e=ak (ai #[])/\ay [b] w w'/\
  Rd F G ts w' b l sn i (if fc=0 then c else fc) (if fc=0 then(tk ts i).a else fa) d:=by
 refine ret (ak7 _ _ _ _ ?_);refine(Ck h).mono ?_;rintro _ w0 ⟨rfl,cD⟩;have h0:=h.only cD;refine⟨_,rfl,fun hc=>(Gx h0).mono ?_,fun hc=>?_⟩
 ·have hc:fc=0:=by simpa using hc
  subst hc;rintro _ w1 ⟨rfl,cr⟩;have h1:=h0.only cr;refine⟨_,_,_,_,rfl,b,2,_,_,rfl,h1.blk,by simp,fun w2 cR po=>⟨rfl,(cD.cf cr).weaken (fun _ h=>(by cases h)) |>.trans cR (fun x hx=>.inl hx),?_⟩⟩;rw[if_pos rfl,if_pos rfl];exact h1.nI cR po h.lt
 ·have hc:fc≠0:=by simpa using hc
  rw[if_neg hc,if_neg hc];exact⟨rfl,cD.weaken fun _ h=>(by cases h),h0⟩
theorem DU(h:Rd F G ts w b l sn i fc fa d):az aq 294 #[ae (some ⟨b,0,none⟩)] w fun e w'=>e=ak (ai #[])/\ay [b] w w'/\
  Rd F G ts w' b l sn i (if fc=0 then(im ts i).1 else fc) (if fc=0 then(im ts i).2 else fa) d:=by
 refine ret (ala _ _ _ ?_);refine⟨fun w'=>ay [b] w w'/\((tk ts i).k=5->Rd F G ts w' b l sn i (if fc=0 then 3 else fc) (if fc=0 then(tk ts i).a else fa) d)/\((tk ts i).k≠5->Rd F G ts w' b l sn i fc fa d),?_,(Gx h).mono ?_⟩
 ·rintro w0 ⟨cD,h1,h2⟩;by_cases hk:(tk ts i).k=5
  ·refine(DT (h1 hk) 4).mono ?_;rintro _ w1 ⟨rfl,cr,hR⟩;refine⟨rfl,rfl,cD.trans cr (fun x hx=>.inl hx),?_⟩;unfold im;rw[if_pos hk];by_cases hc:fc=0
   ·rw[if_pos hc,if_pos hc,if_neg (by decide),if_neg (by decide)]at hR;rw[if_pos hc,if_pos hc];exact hR
   ·rw[if_neg hc,if_neg hc,if_neg hc,if_neg hc]at hR;rw[if_neg hc,if_neg hc];exact hR
  ·refine(DT (h2 hk) 4).mono ?_;rintro _ w1 ⟨rfl,cr,hR⟩;refine⟨rfl,rfl,cD.trans cr (fun x hx=>.inl hx),?_⟩;unfold im;rw[if_neg hk];exact hR
 ·rintro _ w2 ⟨rfl,cR⟩;have h2:=h.only cR;refine⟨_,_,_,_,rfl,fun hc=>(DT h2 3).mono ?_,fun hc=>⟨cR.weaken fun _ h=>(by cases h),fun e=>?_,fun _=>h2⟩⟩
  ·rintro _ w3 ⟨rfl,de,hR⟩;exact⟨rfl,cR.weaken (fun _ h=>(by cases h)) |>.trans de (fun x hx=>.inl hx),fun _=>hR,fun e=>absurd (by simpa using hc) e⟩
  ·rw[e]at hc;simp at hc
theorem af4(h:Rd F G ts w b l sn i fc fa d){H:aJ}{s:Sl}{ss:List (aH)}(hs:aA ju 1 w H s ss):az aq 289 #[ae (some ⟨b,0,none⟩),s.v] w fun e w'=>
  e=ak (aj (fc==0&&(tk ts i).k==4&&ss.contains (tk ts i).t))/\ay [] w w':=by
 refine ret (ak5 _ _ _ _ ?_);refine(Gx h).mono ?_;rintro _ w0 ⟨rfl,cD⟩;refine⟨_,_,_,_,rfl,fun k0 w1 hk iM cr=>⟨fun c w'=>c=(fc==0&&(tk ts i).k==4&&ss.contains (tk ts i).t)/\ay [] w w',fun c w2 h2=>⟨by rw[h2.1],h2.2⟩,?_⟩⟩;have jz:=cD.cf cr;refine(Ck (h.only jz)).mono ?_;rintro _ w3 ⟨rfl,de⟩;have e:(!(fc !=0))=(fc==0):=by cases h:(fc==0)<;>simp[bne,h]
 refine⟨_,rfl,de.same (by simp;omega),fun hc=>(sB (SliceF.only cP (by decide) hs (jz.cf de) (by simp)) _).mono ?_,fun hc=>⟨?_,jz.cf de⟩⟩
 ·rintro _ w4 ⟨rfl,dL⟩;rw[e]at hc;have hl:=h.lb;have z3:=de.size;exact⟨_,rfl,dL.same (by simp;omega),by rw[hc,cO],jz.cf (de.cf dL)⟩
 ·rw[e]at hc;rw[hc,dU]
theorem is1(h:Rd F G ts w b l sn i fc fa d)(s:aH):∃(s0:Sl) (w0:av),(au 31 1 #[.mk 0 (ab (T s))]).run aq w=.ok s0.v w0/\ay [] w w0/\
  az aq 289 #[ae (some ⟨b,0,none⟩),s0.v] w0 fun e w'=>e=ak (aj (fc==0&&sg ts i s))/\ay [] w0 w':=by
 obtain⟨s0,w0,k1,k2,k3⟩:=nU w [s] (n:=1) (parts:=#[(0,ab (T s))]) rfl rfl (by decide) (by decide);refine⟨s0,w0,k1,k3,(af4 (h.only k3) (vT k2)).mono ?_⟩;rintro _ w1 ⟨rfl,cr⟩;have e:[s].contains (tk ts i).t=decide ((tk ts i).t=s):=by
  by_cases e:(tk ts i).t=s
  ·rw[bL e,e];simp
  ·rw[bC e];simp[e]
 refine⟨?_,cr⟩;unfold sg;rw[BW,e]
theorem is2(h:Rd F G ts w b l sn i fc fa d):∃(s0:Sl) (w0:av),(au 31 2 #[.mk 0 (ab (ao #[45])),.mk 1 (ab (ao #[33]))]).run aq w=.ok s0.v w0/\ay [] w w0/\
  az aq 289 #[ae (some ⟨b,0,none⟩),s0.v] w0 fun e w'=>e=ak (aj (fc==0&&(sg ts i [45]||sg ts i [33])))/\ay [] w0 w':=by
 obtain⟨s0,w0,k1,k2,k3⟩:=nU w [[45],[33]] (n:=2) (parts:=#[(0,ab (T [45])),(1,ab (T [33]))]) rfl rfl (by decide) (by decide);refine⟨s0,w0,k1,k3,(af4 (h.only k3) (vT k2)).mono ?_⟩;rintro _ w1 ⟨rfl,cr⟩;have e:[[45],[33]].contains (tk ts i).t=(decide ((tk ts i).t=[45])||decide ((tk ts i).t=[33])):=by
  rw[bX];simp
 refine⟨?_,cr⟩;unfold sg;rw[BW,<-Bool.and_or_distrib_left,e]
theorem Aj(h:Rd F G ts w b l sn i fc fa d)(s:aH):az aq 292 #[ae (some ⟨b,0,none⟩),ab (T s)] w fun e w'=>e=ak (ai #[])/\ay [b] w w'/\
  (if fc==0&&sg ts i s then Rd F G ts w' b l sn (i+1) fc fa d else Rd F G ts w' b l sn i (if fc=0 then(im ts i).1 else fc) (if fc=0 then(im ts i).2 else fa) d):=by
 refine ret (ak9 _ _ _ _ ?_);obtain⟨s0,w0,k1,k2,k3⟩:=is1 h s;refine⟨s0,w0,k1,k3.mono ?_⟩;rintro _ w1 ⟨rfl,cr⟩;have h1:=h.only (k2.cf cr);have jz:ay [b] w w1:=(k2.cf cr).weaken fun _ h=>(by cases h)
 refine⟨_,rfl,fun hc=>(DU h1).mono ?_,fun hc=>?_⟩
 ·rintro _ w2 ⟨rfl,cR,hR⟩;have hc:(fc==0&&sg ts i s)=false:=by rwa[dS]at hc
  rw[hc];exact⟨rfl,rfl,jz.trans cR (fun x hx=>.inl hx),hR⟩
 ·have hc:(fc==0&&sg ts i s)=true:=by rwa[H5]at hc
  rw[hc];simp only[aQ]at hc;have hn:=h.en.next h.lt (DR hc.2);have hb:=h.big;refine⟨(i:Int),Blk.dQ h1.blk 1 rfl,b,1,_,_,rfl,h1.blk,by simp,fun w3 de wO=>⟨rfl,jz.trans de (fun x hx=>.inl hx),h1.nI de ?_ hn⟩⟩;rw[fR (by omega) (by omega)]at wO;exact wO
theorem Lu(h:Rd F G ts w b l sn i fc fa d):az aq 293 #[ae (some ⟨b,0,none⟩)] w fun e w'=>ay [b] w w'/\
  (if fc=0/\(tk ts i).k=1 then e=ak (ab (T (tk ts i).t))/\Rd F G ts w' b l sn (i+1) fc fa d else e=ak (ab (T []))/\Rd F G ts w' b l sn i (if fc=0 then(im ts i).1 else fc) (if fc=0 then(im ts i).2 else fa) d):=by
 refine(alb ⟨b,0,none⟩ (fun v w'=>ay [b] w w'/\(if fc=0/\(tk ts i).k=1 then v=(ab (T (tk ts i).t))/\Rd F G ts w' b l sn (i+1) fc fa d else v=(ab (T []))/\Rd F G ts w' b l sn i (if fc=0 then(im ts i).1 else fc) (if fc=0 then(im ts i).2 else fa) d)) w ?_).mono (by
  rintro e w' ⟨v,rfl,hO,hv⟩;refine⟨hO,?_⟩;split at hv
  ·rename_i hc;rw[if_pos hc];exact⟨by rw[hv.1],hv.2⟩
  ·rename_i hc;rw[if_neg hc];exact⟨by rw[hv.1],hv.2⟩)
 refine(Gx h).mono ?_;rintro _ w0 ⟨rfl,cD⟩;refine⟨_,_,_,_,rfl,fun k0 w1 hk iM cr=>?_⟩;have jz:=cD.cf cr;have z0:=cD.size;have hl:=h.lb;refine(Ck (h.only jz)).mono ?_;rintro _ w2 ⟨rfl,cR⟩;have z2:=cR.size;have h2:=h.only (jz.cf cR);have pj:ay [b] w w2:=(jz.cf cR).weaken fun _ h=>(by cases h)
 refine⟨_,rfl,cR.same (by simp;omega),fun hc=>(DU h2).mono ?_,fun hc=>?_⟩
 ·rintro _ w3 ⟨rfl,de,hR⟩;refine⟨rfl,de.same (by simp;omega),pj.trans de (fun x hx=>.inl hx),?_⟩;rw[if_neg (fun hh=>by rw[hh.1,hh.2]at hc;simp at hc)];exact⟨rfl,hR⟩
 ·have hc:fc=0/\(tk ts i).k=1:=by simpa using hc
  have hn:=h.en.next h.lt (by rw[hc.2];decide);have hb:=h.big;refine⟨(i:Int),Blk.dQ h2.blk 1 rfl,b,1,_,_,rfl,h2.blk,by simp,by omega,fun w3 de wO=>⟨pj.trans de (fun x hx=>.inl hx),?_⟩⟩;rw[if_pos hc];refine⟨rfl,h2.nI de ?_ hn⟩;rw[fR (by omega) (by omega)]at wO;exact wO
end
theorem Ja(w:av)(op:Int):az aq 280 #[O U op] w fun e w'=>e=ak (O U (kV op))/\w'=w:=by
 refine ret (ald _ _ _ ?_);have fin:∀{k:Int} {w1:av},kV op=k->(Value.int U k=O U (kV op)/\w1=w1):=fun e=>⟨by rw[e],rfl⟩
 refine⟨fun h=>fin ?_,fun h=>⟨fun b w'=>b=decide (op=1∨op=2)/\w'=w,?_,fun h1=>⟨?_,rfl⟩,fun h1=>⟨?_,rfl⟩⟩⟩
 ·simp only[aQ,bM]at h;unfold kV;rw[if_pos (by omega)]
 ·rintro _ w1 ⟨rfl,rfl⟩;have h:¬(3<=op/\op<=5):=fun hh=>by rw[bL hh.1,bL hh.2]at h;cases h
  refine⟨fun h1=>fin ?_,fun h1=>⟨fun h2=>fin ?_,fun h2=>⟨fun b w2=>b=decide (op=10∨op=11)/\w2=w1,?_,fun h3=>⟨?_,rfl⟩,fun h3=>⟨?_,rfl⟩⟩⟩⟩
  ·have h1:=aO h1;unfold kV;rw[if_neg h,if_pos h1]
  ·have h1:=aR h1;simp only[aQ,bM]at h2;unfold kV;rw[if_neg h,if_neg h1,if_pos (by omega)]
  ·rintro _ _ ⟨rfl,rfl⟩;have h1:=aR h1;have h2:¬(6<=op/\op<=9):=fun hh=>by rw[bL hh.1,bL hh.2]at h2;cases h2
   refine⟨fun h3=>fin ?_,fun h3=>⟨fun h4=>fin ?_,fun h4=>⟨fun h5=>fin ?_,fun h5=>fin ?_⟩⟩⟩
   ·have h3:=aO h3;unfold kV;rw[if_neg h,if_neg h1,if_neg h2,if_pos h3]
   ·have h3:=aR h3;have h4:op=12:=by simpa using h4
    unfold kV;rw[if_neg h,if_neg h1,if_neg h2,if_neg h3,if_pos h4]
   ·have h3:=aR h3;have h4:¬op=12:=by simpa using h4
    have h5:op=13:=by simpa using h5
    unfold kV;rw[if_neg h,if_neg h1,if_neg h2,if_neg h3,if_neg h4,if_pos h5]
   ·have h3:=aR h3;have h4:¬op=12:=by simpa using h4
    have h5:¬op=13:=by simpa using h5
    unfold kV;rw[if_neg h,if_neg h1,if_neg h2,if_neg h3,if_neg h4,if_neg h5]
  ·have h3:op=10:=by simpa using h3
   rw[h3];rfl
  ·have h3:¬op=10:=by simpa using h3
   rw[bX];simp[h3]
 ·have h1:op=1:=by simpa using h1
  rw[h1];rfl
 ·have h1:¬op=1:=by simpa using h1
  rw[bX];simp[h1]
section
variable {F G:aJ} {ts:List Tk} {w w':av} {b:Nat} {l sn:Sl} {i:Nat} {fc fa d:Int}
theorem Ak(h:Rd F G ts w b l sn i fc fa d)(k:Int):az aq 275 #[ae (some ⟨b,0,none⟩),O U k] w fun e w'=>e=ak (O U (if fc=0 then Ah ts k i else 0))/\ay [] w w':=by
 refine ret (alc _ _ _ _ ?_);refine⟨fun nv i0 w'=>∃op:Nat,1<=op/\op<=14/\i0=(op:Int)/\nv=14-op/\(if fc=0 then Ah ts k i else 0)=(if fc=0 then xb ts k i (14-op) op else 0)/\ay [] w w',13,⟨1,by decide,by decide,rfl,rfl,rfl,Only.refl _ _⟩,?_⟩;rintro nv _ w0 ⟨op,h1,h2,rfl,rfl,hV,cD⟩;refine⟨fun hc=>?_,fun hc=>?_⟩
 ·have hc:(op:Int)<=13:=aO hc;obtain⟨m,hm⟩:∃m,14-op=m+1:=⟨13-op,by omega⟩
  rw[hm,xb]at hV;refine⟨fun c w'=>c=(decide (kV (op:Int)=k)&&(fc==0&&sg ts i (lS op)))/\ay [] w w',?_,fun w2 cR=>(Ja w2 _).mono ?_⟩
  ·rintro _ w1 ⟨rfl,cr⟩;refine⟨fun hb=>⟨?_,cr⟩,fun hb=>⟨m,by omega,op+1,by omega,by omega,by rw[fR (by omega) (by omega)];rfl,by omega,?_,cr⟩⟩
   ·simp only[aQ,bM,ey]at hb;rw[hV,if_pos hb.2.1,if_pos ⟨hb.1,hb.2.2⟩]
   ·rw[hV,show 14-(op+1)=m by omega];by_cases h0:fc=0
    ·rw[if_pos h0,if_pos h0,if_neg];rintro⟨e1,e2⟩;rw[bL e1,e2,h0]at hb;simp at hb
    ·rw[if_neg h0,if_neg h0]
  ·rintro _ w3 ⟨rfl,rfl⟩;have h3:=h.only (cD.cf cR);refine⟨_,rfl,fun hk=>?_,fun hk=>?_⟩
   ·have hk:kV (op:Int)=k:=by simpa using hk
    have hn:=h3.sig.len;have hol:BK.length=16:=rfl;obtain⟨ad,x,cs,g1,g2,g3,g4,g5,g6⟩:=h3.sig.get (i:=(op:Int)) (by omega) (by omega);unfold ju at g6;subst g6;rw[aY]at g2;have hx:lS op=x:=by unfold lS;rw[g2];rfl
    subst hx;obtain⟨s0,w4,k1,k2,k3⟩:=is1 h3 (lS op);refine⟨sn,Blk.dQ h3.blk 5 rfl,ad,g1,_,g5,s0,w4,k1,k3.mono ?_⟩;rintro _ w5 ⟨rfl,eP⟩;exact⟨_,rfl,by rw[bL hk,cO],cD.cf (cR.cf (k2.cf eP))⟩
   ·have hk:¬kV (op:Int)=k:=by simpa using hk
    exact⟨by rw[bC hk,dU],cD.cf cR⟩
 ·have hc:¬(op:Int)<=13:=aR hc;have:op=14:=by omega
  subst this;rw[hV];refine⟨?_,cD⟩;split<;>rfl
end
abbrev qQ(k n:Int)(s:aH)(op:Int)(sl:Sl)(a:Int):aI:=[O U k,O U n,ab (T s),O U op,sl.v,O U a]
inductive RXN (w:av) (N:aJ):Nat->Nat->Ex->aI->Prop
 | leaf (lo hi:Nat) (k n:Int) (s:aH) (op a:Int):RXN w N lo hi (.mk k n s op [] a) (qQ k n s op Sl.nil a)
 | one (lo m g hi:Nat) (k n:Int) (s:aH) (op a:Int) (x:Ex) (cs:aI):RXN w N lo m x cs->lo<=g->m<=g->g<hi->¬N g->aF w g 64 cs->RXN w N lo hi (.mk k n s op [x] a) (qQ k n s op ⟨some ⟨g,0,none⟩,1,1⟩ a)
 | two (lo m m' m2 g hi:Nat) (k n:Int) (s:aH) (op a:Int) (x y:Ex) (cs ds:aI):RXN w N lo m x cs->m<=m'->RXN w N m' m2 y ds->lo<=m'->m<=g->m'<=g->m2<=g->g<hi->¬N g->aF w g 64 (cs++ds)->RXN w N lo hi (.mk k n s op [x,y] a) (qQ k n s op ⟨some ⟨g,0,none⟩,2,2⟩ a)
abbrev RX(w:av):Nat->Nat->Ex->aI->Prop:=RXN w fun _=>False
section
variable {w w':av} {N N':aJ} {lo hi:Nat} {x:Ex} {cs:aI}
theorem RXN.keep(h:RXN w N lo hi x cs):(∀k,lo<=k->k<hi->¬N k->k<w.heap.size->w'.heap[k]? =w.heap[k]?)->RXN w' N lo hi x cs:=by
 induction h with
 | leaf lo hi k n s op a=>exact fun _=>.leaf ..
 | one lo m g hi k n s op a x cs h1 h2 h3 h4 hn h5 ih=>
  intro hk;exact .one lo m g hi k n s op a x cs (ih fun j h6 h7 h8=>hk j h6 (by omega) h8) h2 h3 h4 hn ((hk g h2 h4 hn h5.lt).trans h5)
 | two lo m m' m2 g hi k n s op a x y cs ds h1 h2 h3 h4 h5 h6 h7 h8 hn h9 PE UK=>
  intro hk;exact .two lo m m' m2 g hi k n s op a x y cs ds (PE fun j a1 a2 a3=>hk j a1 (by omega) a3) h2 (UK fun j a1 a2 a3=>hk j (by omega) (by omega) a3) h4 h5 h6 h7 h8 hn ((hk g (by omega) h8 hn h9.lt).trans h9)
theorem RXN.wide(h:RXN w N lo hi x cs):∀{lo' Be:Nat},lo'<=lo->hi<=Be->RXN w N lo' Be x cs:=by
 induction h with
 | leaf lo hi k n s op a=>exact fun _ _=>.leaf ..
 | one lo m g hi k n s op a x cs h1 h2 h3 h4 hn h5 ih=>
  intro lo' Be a1 a2;exact .one lo' m g Be k n s op a x cs (ih a1 (aX _)) (by omega) h3 (by omega) hn h5
 | two lo m m' m2 g hi k n s op a x y cs ds h1 h2 h3 h4 h5 h6 h7 h8 hn h9 PE UK=>
  intro lo' Be a1 a2;exact .two lo' m m' m2 g Be k n s op a x y cs ds (PE a1 (aX _)) h2 h3 (by omega) h5 h6 h7 (by omega) hn h9
theorem RXN.S3(h:RXN w N lo hi x cs):(∀k,lo<=k->k<hi->¬N k->¬N' k)->RXN w N' lo hi x cs:=by
 induction h with
 | leaf lo hi k n s op a=>exact fun _=>.leaf ..
 | one lo m g hi k n s op a x cs h1 h2 h3 h4 hn h5 ih=>
  intro hk;exact .one lo m g hi k n s op a x cs (ih fun j h6 h7=>hk j h6 (by omega)) h2 h3 h4 (hk g h2 h4 hn) h5
 | two lo m m' m2 g hi k n s op a x y cs ds h1 h2 h3 h4 h5 h6 h7 h8 hn h9 PE UK=>
  intro hk;exact .two lo m m' m2 g hi k n s op a x y cs ds (PE fun j a1 a2=>hk j a1 (by omega)) h2 (UK fun j a1 a2=>hk j (by omega) (by omega)) h4 h5 h6 h7 h8 (hk g (by omega) h8 hn) h9
theorem RXN.cells(h:RXN w N lo hi x cs):∃sl:Sl,cs=qQ x.k x.n x.s x.op sl x.a/\(sl.n=x.fF.length):=by
 cases h with
 | leaf=>exact⟨_,rfl,rfl⟩
 | one=>exact⟨_,rfl,rfl⟩
 | two=>exact⟨_,rfl,rfl⟩
theorem RXN.only(h:RXN w N lo hi x cs){bs:List Nat}(hO:ay bs w w')(hb:∀k,k∈bs->k<lo∨hi<=k∨N k):RXN w' N lo hi x cs:=
 h.keep fun k h1 h2 hn h3=>hO.block k h3 fun hm=>by
  rcases hb k hm with e | e | e
  ·omega
  ·omega
  ·exact hn e
end
theorem QX(w:av)(vs:List (aI))(hv:∀v,v∈vs->v.length=6)(h0:0<vs.length)(hm:vs.length<=100){parts:Array (Nat×aw)}(hp:parts=(((vs.map fun v=>Value.agg v.toArray).zipIdx 0).map fun x=>(x.2,x.1)).toArray):
  ∃w',(au 62 vs.length parts).run aq w=.ok (Sl.v ⟨some ⟨w.heap.size,0,none⟩,vs.length,vs.length⟩) w'/\aF w' w.heap.size 64 vs.flatten/\ay [] w w':=by
 have hc:((vs.map fun v=>Value.agg v.toArray).flatMap fun v=>v.cells.toList)=vs.flatten:=by
  clear hv h0 hm hp
  induction vs with
  | nil=>rfl
  | cons v vs ih=>rw[bD,vB,ih,di];rfl
 have hs:Tryz.t64.size=6:=rfl;have tf:=run_buildSlice (P:=aq) w 62 64 vs.length parts ((vs.map fun v=>Value.agg v.toArray).flatMap fun v=>v.cells.toList).toArray Tryz.t64 _ (by kernel_rfl) (by kernel_rfl) rfl (by rw[hs];omega) (by rw[hs];omega)
  (by
   subst hp;rw[iq,hs];refine Go.Great.fill_whole (s:=6) (by decide) (vs.map fun v=>Value.agg v.toArray) _ (fun v hm=>?_) ?_
   ·obtain⟨x,hx,rfl⟩:=eE.1 hm;have:=hv x hx;simpa[Value.cells]using this
   ·simp)
 rw[hc]at tf;exact⟨_,tf,Blk.alloc w _ _,Only.alloc _ _⟩
def exT(v:aw):Prop:=∃(k n:Int) (s:aH) (op:Int) (sl:Sl) (a:Int),v=ah (qQ k n s op sl a).toArray
def nV(F G:aJ)(ts:List Tk)(w w':av)(b:Nat)(l sn:Sl)(d:Nat)(r:Pr)(v:aw):Prop:=ay [b] w w'/\match r with
 | .ok (x,j)=>∃cs,v=ah cs.toArray/\RX w' w.heap.size w'.heap.size x cs/\Rd F G ts w' b l sn j 0 0 (d:Int)
 | .error e=>e.1≠0/\exT v/\∃j,Rd F G ts w' b l sn j e.1 e.2 (d:Int)
section
variable {F G:aJ} {ts:List Tk} {w w':av} {b:Nat} {l sn:Sl} {i:Nat} {fc fa d:Int}
theorem iH:(im ts i).1≠0:=by
 unfold im;dsimp only;split<;>decide
theorem Gy{d:Nat}(hd:d<=20)(h:Rd F G ts w b l sn i 0 0 (d:Int))(hi:i+1<ts.length){g:Nat}{z1 z2:aI}(hg:∀(x:Array aw) (w:av),(callFunc g x).run aq w=.ok (.enter g x) w)(f:OV)(hf:f.v=.func (.func g) z1.toArray z2.toArray){r:Pr}
  (hr:d≠20->∀w1,ay [b] w w1->Rd F G ts w1 b l sn (i+1) 0 0 ((d+1:Nat):Int)->az aq g (z1++z2).toArray w1 fun e w'=>∃v,e=ak v/\nV F G ts w1 w' b l sn (d+1) r v):
  az aq 290 #[ae (some ⟨b,0,none⟩),f.v] w fun e w'=>∃v,e=ak v/\nV F G ts w w' b l sn d (ru d (tk ts i).a r) v:=by
 refine ak6 ⟨b,0,none⟩ f (fun v w'=>nV F G ts w w' b l sn d (ru d (tk ts i).a r) v) w ?_;intro k0 w0 hk iM cD;have hb:=h.lb;have h0:=h.only cD;refine⟨(d:Int),Blk.dQ h0.blk 4 rfl,fun hc=>(DT h0 21).mono ?_,fun hc=>?_⟩
 ·have hc:d=20:=by have:(d:Int)=20:=(by simpa using hc);omega
  rintro _ w1 ⟨rfl,cr,hR⟩;rw[if_pos rfl,if_pos rfl]at hR;have z1:=cr.size;refine⟨rfl,cr.same (by simp;omega),fun w2 cR=>⟨?_,?_⟩⟩
  ·exact((cD.weaken (bs':=[b]) fun _ h=>(by cases h)).trans cr fun x hx=>.inl hx).new cR hk
  ·rw[ru,if_pos hc];exact⟨(by decide:(21:Int)≠0),⟨0,0,[],0,Sl.nil,0,rfl⟩,i,hR.own cR (by simp;omega)⟩
 ·have hc:d≠20:=fun e=>by subst e;simp at hc
  have Ts:=h.big;refine⟨(i:Int),Blk.dQ h0.blk 1 rfl,b,1,_,_,rfl,h0.blk,by simp,by omega,fun w3 de wO=>?_⟩;rw[fR (by omega) (by omega)]at wO;have h3:Rd F G ts w3 b l sn (i+1) 0 0 (d:Int):=h0.nI de wO hi;have z3:=de.size;refine⟨(d:Int),Blk.dQ h3.blk 4 rfl,b,4,_,_,rfl,h3.blk,by simp,by omega,fun w4 dL uh=>?_⟩;rw[fR (by omega) (by omega)]at uh;have h4:Rd F G ts w4 b l sn (i+1) 0 0 ((d+1:Nat):Int):=h3.nI dL uh hi;have z4:=dL.size;have E6:ay [b] w w4:=((cD.weaken (bs':=[b]) fun _ h=>(by cases h)).trans de fun x hx=>.inl hx).trans dL fun x hx=>.inl hx;refine⟨g,z1,z2,hf,hg,?_⟩;have e:uJ (uJ z1 []) z2=z1++z2:=by unfold uJ;rw[bQ]
  rw[e];refine(hr hc w4 E6 h4).mono ?_;rintro _ w6 ⟨v,rfl,eB,hd⟩;have z6:=eB.size;rw[ru,if_neg hc];have hv:∃(k n:Int) (s:aH) (op:Int) (sl:Sl) (a:Int),v=ah (qQ k n s op sl a).toArray:=by
   cases r with
   | error e=>exact hd.2.1
   | ok q=>
    obtain⟨cs,rfl,hx,_⟩:=hd;obtain⟨sl,rfl,_⟩:=hx.cells;exact⟨_,_,_,_,_,_,rfl⟩
  obtain⟨vk,vn,vs,vo,vsl,va,rfl⟩:=hv;refine⟨_,_,_,_,_,_,rfl,eB.same (by simp;omega),fun k8 w7 hk8 Tt fE=>?_⟩;have z7:=fE.size;have key:∀{j:Nat} {fc fa:Int},Rd F G ts w6 b l sn j fc fa ((d+1:Nat):Int)->∃i7:Int,aB w7 (Addr.add ⟨b,0,none⟩ 4) [O U i7]/\∃k9 jd:Nat,∃z4:aI,∃mQ:Nat,(Addr.add ⟨b,0,none⟩ 4)=⟨k9,jd,none⟩/\aF w7 k9 mQ z4/\(jd+1)<=z4.length/\k0≠k9/\k8≠k9/\
    ∀w8:av,ay [k9] w7 w8->aF w8 k9 mQ (cj z4 jd [O U (ar U (i7-1))])->∀w9:av,ay [k0] w8 w9->ay [b] w w9/\ay [b,k0] w6 w9/\Rd F G ts w9 b l sn j fc fa (d:Int):=fun{j fc fa} h6=>by
   have h7:=h6.only fE;refine⟨((d+1:Nat):Int),Blk.dQ h7.blk 4 rfl,b,4,_,_,rfl,h7.blk,by simp,by omega,by omega,fun w8 fy vt w9 fQ=>?_⟩;have ed:((d+1:Nat):Int)-1=d:=by omega
   rw[ed,fR (by omega) (by omega)]at vt;have h8:Rd F G ts w8 b l sn j fc fa (d:Int):=h7.nI fy vt h7.lt;have ahg:ay [b,k0] w6 w9:=((fE.weaken (bs':=[b,k0]) fun _ h=>(by cases h)).trans fy fun x hx=>.inl (by simp only[aN]at hx;simp[hx])).trans fQ fun x hx=>.inl (by simp only[aN]at hx;simp[hx]);exact⟨(E6.trans eB fun x hx=>.inl hx).trans ahg (fun x hx=>by
    simp only[aU,ba,bW]at hx;rcases hx with rfl | rfl
    ·exact .inl (by simp)
    ·exact .inr hk),ahg,h8.own fQ (by simp;omega)⟩
  have hd2:=hd;cases r with
  | error e=>
   obtain⟨h1,h2,j,h3⟩:=hd2;obtain⟨i7,k1,k9,jd,z,mQ,k2,k3,k4,k5,k6,k7⟩:=key h3;refine⟨i7,k1,k9,jd,z,mQ,k2,k3,k4,k5,k6,fun w8 fy vt w9 fQ=>?_⟩;obtain⟨a1,a2,a3⟩:=k7 w8 fy vt w9 fQ;exact⟨a1,h1,h2,j,a3⟩
  | ok q=>
   obtain⟨x,j⟩:=q;obtain⟨cs,h1,h2,h3⟩:=hd2;obtain⟨i7,k1,k9,jd,z,mQ,k2,k3,k4,k5,k6,k7⟩:=key h3;refine⟨i7,k1,k9,jd,z,mQ,k2,k3,k4,k5,k6,fun w8 fy vt w9 fQ=>?_⟩;obtain⟨a1,a2,a3⟩:=k7 w8 fy vt w9 fQ;have z9:=a2.size;exact⟨a1,cs,h1,(h2.only a2 fun k hk=>.inl (by simp only[aU,ba,bW]at hk;omega)).wide (by omega) z9,a3⟩
end
section
variable {F G:aJ} {ts:List Tk} {w w':av} {b:Nat} {l sn:Sl} {i:Nat} {fc fa d:Int}
theorem nV.Bc{w w':av}{d:Nat}{r:Pr}{v:aw}(h:nV F G ts w w' b l sn d r v):exT v:=by
 obtain⟨_,h⟩:=h;cases r with
 | error e=>exact h.2.1
 | ok q=>
  obtain⟨cs,rfl,hx,_⟩:=h;obtain⟨sl,rfl,_⟩:=hx.cells;exact⟨_,_,_,_,_,_,rfl⟩
theorem nV.S4{w0 w1 w2 w3:av}{d:Nat}{r:Pr}{v:aw}(h:nV F G ts w1 w2 b l sn d r v)(cD:ay [b] w0 w1){bs:List Nat}(cR:ay bs w2 w3)(hb:∀x,x∈bs->b<x/\w0.heap.size<=x/\x<w1.heap.size):nV F G ts w0 w3 b l sn d r v:=by
 obtain⟨hO,h⟩:=h;have z0:=cD.size;have z1:=hO.size;have z2:=cR.size;refine⟨(cD.trans hO fun x hx=>.inl hx).trans cR fun x hx=>.inr (hb x hx).2.1,?_⟩;cases r with
 | error e=>
  obtain⟨h1,h2,j,h3⟩:=h;exact⟨h1,h2,j,h3.own cR fun x hx=>(hb x hx).1⟩
 | ok q=>
  obtain⟨cs,h1,h2,h3⟩:=h;exact⟨cs,h1,(h2.only cR fun x hx=>.inl (hb x hx).2.2).wide z0 z2,h3.own cR fun x hx=>(hb x hx).1⟩
theorem af5{d:Nat}{r:Pr}{k0:Nat}(h:Rd F G ts w b l sn i 0 0 (d:Int))(hk:b<k0)(hB:aF w k0 320 [ae (some ⟨b,0,none⟩)])
  (hE:∀w1,ay [] w w1->az aq 257 #[ae (some ⟨b,0,none⟩),O U 0] w1 fun e w'=>∃v,e=ak v/\nV F G ts w1 w' b l sn d r v):
  az aq 291 #[ae (some ⟨k0,0,none⟩)] w fun e w'=>∃v,e=ak v/\nV F G ts w w' b l sn d (BL ts r) v:=by
 refine ak8 ⟨k0,0,none⟩ (fun v w'=>nV F G ts w w' b l sn d (BL ts r) v) w ?_;intro k1 w0 j5 iX cD;have hb:=h.lb;have uD:aF w0 k0 320 [ae (some ⟨b,0,none⟩)]:=cD.blk hB (by simp);have Tu:=hB.lt;refine⟨_,Blk.dQ uD 0 rfl,(hE w0 cD).mono ?_⟩;rintro _ w1 ⟨v,rfl,hd⟩;obtain⟨k,n,s,op,sl,a,rfl⟩:=hd.Bc;have z1:=hd.1.size;refine⟨_,_,_,_,_,_,rfl,hd.1.same (by simp;omega),fun k2 w2 rm rn cR=>?_⟩;have z2:=cR.size;have po:aF w2 k0 320 [ae (some ⟨b,0,none⟩)]:=cR.blk (hd.1.blk uD (by simp;omega)) (by simp);refine⟨_,Blk.dQ po 0 rfl,_,rfl,?_⟩;obtain⟨cr,hd⟩:=hd;have pj:ay [b] w w2:=((cD.weaken fun _ h=>(by cases h)).trans cr fun x hx=>.inl hx).cf cR;cases r with
 | error e=>
  obtain⟨h1,h2,j,h3⟩:=hd;have h3:=h3.only cR;refine(Aj h3 [41]).mono ?_;rintro _ w3 ⟨rfl,de,hR⟩;rw[if_neg (by simp[h1]),if_neg h1,if_neg h1]at hR;refine⟨rfl,de.same (by simp;omega),fun w4 dL=>⟨((pj.trans de fun x hx=>.inl hx).new dL j5),h1,⟨_,_,_,_,_,_,rfl⟩,j,hR.own dL (by simp;omega)⟩⟩
 | ok q=>
  obtain⟨x,j⟩:=q;obtain⟨cs,h1,h2,h3⟩:=hd;have h3:=h3.only cR;refine(Aj h3 [41]).mono ?_;rintro _ w3 ⟨rfl,de,hR⟩;have z3:=de.size;refine⟨rfl,de.same (by simp;omega),fun w4 dL=>⟨((pj.trans de fun x hx=>.inl hx).new dL j5),?_⟩⟩;have z4:=dL.size;by_cases hs:sg ts j [41]=true
  ·rw[if_pos (by simp[hs])]at hR;simp only[BL,hs,if_true];exact⟨cs,h1,(((h2.only cR (by simp)).only de fun k hk=>.inl (by simp only[aN]at hk;omega)).only dL fun k hk=>.inl (by simp only[aN]at hk;omega)).wide (by omega) (by omega),hR.own dL (by simp;omega)⟩
  ·rw[if_neg (by simp[hs]),if_pos rfl,if_pos rfl]at hR;simp only[BL,hs,jQ];exact⟨iH,⟨_,_,_,_,_,_,rfl⟩,j,hR.own dL (by simp;omega)⟩
theorem Z6{f d:Nat}(hd:d<=20)(h:Rd F G ts w b l sn i 0 0 (d:Int))
  (hE:d≠20->∀w i,Rd F G ts w b l sn i 0 0 ((d+1:Nat):Int)->az aq 257 #[ae (some ⟨b,0,none⟩),O U 0] w fun e w'=>∃v,e=ak v/\nV F G ts w w' b l sn (d+1) (fI ts f 0 (d+1) i) v)
  (anJ:d≠20->∀w i,Rd F G ts w b l sn i 0 0 ((d+1:Nat):Int)->az aq 274 #[ae (some ⟨b,0,none⟩)] w fun e w'=>∃v,e=ak v/\nV F G ts w w' b l sn (d+1) (fI ts f 6 (d+1) i) v):
  az aq 274 #[ae (some ⟨b,0,none⟩)] w fun e w'=>∃v,e=ak v/\nV F G ts w w' b l sn d (fI ts (f+1) 6 d i) v:=by
 have eR:fI ts (f+1) 6 d i=DS ts (fI ts f 0 (d+1)) (fI ts f 6 (d+1)) d i:=by rw[fI,if_pos rfl]
 rw[eR];generalize hgE:fI ts f 0 (d+1)=E0 at*
 generalize hgO:fI ts f 6 (d+1)=Pk at*
 generalize hR:DS ts E0 Pk d i=R;rw[DS]at hR;refine ak2 ⟨b,0,none⟩ (fun v w'=>nV F G ts w w' b l sn d R v) w ?_;intro k0 k1 w0 gu fe j5 iX cD;have hb:=h.lb;refine(Gx (h.only cD)).mono ?_;rintro _ w1 ⟨rfl,cr⟩;have z1:=cr.size;have jz:=cD.cf cr;refine⟨_,_,_,_,rfl,cr.same (by simp;omega),fun k2 k3 w2 rm rn wG rL cR=>?_⟩;have z2:=cR.size;have z0:=cD.size;have pj:=jz.cf cR;have h2:=h.only pj;have Ts:=h.big;have sm:∀{u u':av},w2.heap.size<=u.heap.size->ay [b] u u'->bU [k0,k1,k2,k3] u u':=fun hu hO=>hO.same (by intro x hx;simp only[aU,ba,bW]at hx⊢;omega);have sm0:∀{u u':av},w2.heap.size<=u.heap.size->ay [] u u'->bU [k0,k1,k2,k3] u u':=fun hu hO=>hO.same (by intro x hx;simp only[aU,ba,bW]at hx;exact⟨by omega,by simp⟩);refine⟨fun q _ _ _ _ _ _ vk vn vs vo vl va w'=>q=some ⟨b,0,none⟩/\ay [] w w'/\(tk ts i).k≠5/\∃t,vs=T t/\vl=Sl.nil/\R=.ok (.mk vk vn t vo [] va,i+1),?_,?_⟩
 ·rintro _ _ _ _ _ _ _ vk vn _ vo _ va w3 ⟨rfl,de,ik,t,rfl,rfl,OS⟩;have h3:=h.only de;have hn:=h.en.next h.lt ik;refine⟨_,rfl,(i:Int),Blk.dQ h3.blk 1 rfl,_,rfl,b,1,_,_,rfl,h3.blk,by simp,by omega,by omega,by omega,by omega,fun w4 dL uh w5 eP=>?_⟩;rw[fR (by omega) (by omega)]at uh;have h4:Rd F G ts w4 b l sn (i+1) 0 0 (d:Int):=h3.nI dL uh hn;rw[OS];refine⟨((de.weaken (bs':=[b]) fun _ h=>(by cases h)).trans dL fun x hx=>.inl hx).new eP (by omega),_,rfl,.leaf ..,h4.own eP (by simp;omega)⟩
 refine(Ck h2).mono ?_;rintro _ w6 ⟨rfl,eB⟩;have z6:=eB.size;have h6:=h2.only eB;refine⟨_,rfl,sm0 (by omega) eB,fun hc=>(by simp at hc),fun _=>?_⟩;obtain⟨s8,w8,k8,fy,hc8⟩:=is2 h6;have z8:=fy.size;refine⟨s8,w8,k8,sm0 (by omega) fy,hc8.mono ?_⟩;rintro _ w9 ⟨rfl,fQ⟩;have z9:=fQ.size;have oh:=eB.cf (fy.cf fQ);have h9:=h2.only oh;rw[show((0:Int)==0)=true from rfl,cO];have abJ:=pj.cf oh;refine⟨_,rfl,sm0 (by omega) fQ,fun hc du dM=>?_,fun hc=>?_⟩
 ·rw[if_pos hc]at hR;have ik:(tk ts i).k≠5:=by
   rcases cn _ _▸hc with e | e<;>exact DR e
  have hn:=h.en.next h.lt ik;have key:∀op:Int,op=(if(tk ts i).t=[33]then 15 else 14)->∀dC,ay [] w dC->w2.heap.size<=dC.heap.size->_:=fun op E8 dC eu abK=>Gy hd (h.only eu) hn (g:=274) (z1:=[ae (some ⟨b,0,none⟩)]) (z2:=[]) (fu (by kernel_rfl)) ⟨.func (.func 274) #[ae (some ⟨b,0,none⟩)] #[],rfl⟩ rfl (r:=Pk (i+1)) fun abL w1 _ h1=>anJ abL w1 (i+1) h1;refine⟨fun k n s op sl a w'=>k=4/\n=0/\s=T []/\op=(if(tk ts i).t=[33]then 15 else 14)/\sl=Sl.nil/\a=(tk ts i).a/\ay [] w w'/\w2.heap.size<=w'.heap.size,?_,?_,?_⟩
  ·rintro _ _ _ _ _ _ dC ⟨rfl,rfl,rfl,E8,rfl,rfl,eu,abK⟩;refine(key _ E8 dC eu abK).mono ?_;rintro _ dN ⟨v,rfl,hD⟩;obtain⟨vk,vn,vs,vo,vl,va,rfl⟩:=hD.Bc;have z12:=hD.1.size;obtain⟨fb,vq,Bi,eH⟩:=QX dN [qQ vk vn vs vo vl va] (by simp) (by simp) (by simp) (parts:=#[(0,ah (qQ vk vn vs vo vl va).toArray)]) rfl;refine⟨_,_,_,_,_,_,rfl,sm abK hD.1,⟨some ⟨dN.heap.size,0,none⟩,1,1⟩,fb,vq,sm0 (by omega) eH,fun fk ep=>?_⟩;have PF:=eH.size;have W0:=ep.size;have hOf:ay [b] w fk:=(((eu.weaken (bs':=[b]) fun _ h=>(by cases h)).trans hD.1 fun x hx=>.inl hx).cf eH).trans ep fun x hx=>.inr (by simp only[aU,ba,bW]at hx;omega);have hob:∀x,x∈[k1,k3]->b<x:=by simp;omega
   have hoo:∀x,x∈[k1,k3]->x<dC.heap.size:=by simp;omega
   refine⟨hOf,?_⟩;obtain⟨_,hD⟩:=hD;rw[<-hR];cases hN:ru d (tk ts i).a (Pk (i+1))with
   | error e=>
    rw[hN]at hD;obtain⟨a1,a2,j,a3⟩:=hD;exact⟨a1,⟨_,_,_,_,_,_,rfl⟩,j,(a3.only eH).own ep hob⟩
   | ok q=>
    obtain⟨x,j⟩:=q;rw[hN]at hD;obtain⟨cs,a1,a2,a3⟩:=hD;refine⟨_,rfl,?_,(a3.only eH).own ep hob⟩;have nP:(qQ vk vn vs vo vl va)=cs:=bI Array.toList (Value.agg.inj a1);rw[E8];have anL:RX fk dC.heap.size dN.heap.size x cs:=(a2.only eH (by simp)).only ep fun k hk=>.inl (hoo k hk);have HY:aF fk dN.heap.size 64 cs:=by
     have:=ep.blk Bi fun hm=>by have:=hoo _ hm;omega
     rw[di,List.flatten_nil,bQ]at this;rw[<-nP];exact this
    exact .one w.heap.size dN.heap.size dN.heap.size _ _ _ _ _ _ x cs (anL.wide (by omega) (aX _)) (by omega) (aX _) (by have:=Bi.lt;omega) id HY
  ·rw[show(ao #[33])=T [33]from rfl,mA];intro he fZ gL;have he:=aO he;exact⟨rfl,rfl,rfl,by rw[if_pos he],rfl,rfl,(abJ.new dM (by omega)).new gL (by omega),by have:=gL.size;have:=dM.size;omega⟩
  ·rw[show(ao #[33])=T [33]from rfl,mA];intro he;have he:=aR he;exact⟨rfl,rfl,rfl,by rw[if_neg he],rfl,rfl,abJ.new dM (by omega),by have:=dM.size;omega⟩
 ·rw[if_neg (by rw[hc];decide)]at hR;obtain⟨Tg,gI,Bt,iR,anM⟩:=is1 h9 [40];have z16:=iR.size;refine⟨Tg,gI,Bt,sm0 (by omega) iR,anM.mono ?_⟩;rintro _ gf ⟨rfl,io⟩;have z17:=io.size;have Np:=abJ.cf (iR.cf io);have PG:=h.only Np;have Kl:ay [b] w gf:=Np.weaken fun _ h=>(by cases h)
  rw[show((0:Int)==0)=true from rfl,cO];refine⟨_,rfl,sm0 (by omega) io,fun hp hB _ _ _=>?_,fun hp=>?_⟩
  ·rw[if_pos hp]at hR;have hn:=h.en.next h.lt (DR hp);subst hR;refine(Gy hd PG hn (g:=291) (z1:=[]) (z2:=[ae (some ⟨k0,0,none⟩)]) (fu (by kernel_rfl)) ⟨.func (.func 291) #[] #[ae (some ⟨k0,0,none⟩)],rfl⟩ rfl (r:=BL ts (E0 (i+1))) fun abL w1 cr h1=>af5 h1 (by omega) (cr.blk hB (by simp;omega)) fun w1' anN=>hE abL w1' (i+1) (h1.only anN)).mono ?_;rintro _ iy ⟨v,rfl,hD⟩;obtain⟨vk,vn,vs,vo,vl,va,rfl⟩:=hD.Bc;have z18:=hD.1.size;refine⟨_,_,_,_,_,_,rfl,hD.1.same (by simp;omega),_,hD.1.blk hB (by simp;omega),fun jA j6 _=>?_⟩;exact hD.S4 Kl j6 (by simp;omega)
  rw[if_neg (by rw[hp];decide)]at hR;have hp':(tk ts i).k≠5->i+1<ts.length:=h.en.next h.lt;refine⟨fun hi iW nJ _ _ _ _ _ ik=>⟨fun k=>k=k2,rfl,fun e=>ik e.symm,fun e=>ik e.symm,fun lu kE=>?_⟩,fun hi=>⟨fun hv oT Bj _ _ _ _ _ ik=>⟨fun k=>k=k2,rfl,fun e=>ik e.symm,fun e=>ik e.symm,fun om qo=>?_⟩,fun hv=>⟨fun hw=>?_,fun hw=>?_⟩⟩⟩
  ·have hi:(tk ts i).k=3:=by simpa using hi
   rw[if_pos hi]at hR;exact⟨rfl,(Np.cf nJ).new kE (by omega),by rw[hi];decide,[],rfl,rfl,hR.symm⟩
  ·have hi:¬(tk ts i).k=3:=by simpa using hi
   have hv:(tk ts i).k=1:=by simpa using hv
   rw[if_neg hi,if_pos hv]at hR;exact⟨rfl,(Np.cf Bj).new qo (by omega),by rw[hv];decide,_,rfl,rfl,hR.symm⟩
  ·have hi:¬(tk ts i).k=3:=by simpa using hi
   have hv:¬(tk ts i).k=1:=by simpa using hv
   rw[show(ao #[105,110])=T [105,110]from rfl,mA]at hw;have hw:(tk ts i).k=2/\(tk ts i).t=[105,110]:=by simpa using hw
   rw[if_neg hi,if_neg hv,if_pos hw]at hR;have hn:=hp' (by rw[hw.1];decide);refine⟨(i:Int),Blk.dQ PG.blk 1 rfl,b,1,_,_,rfl,PG.blk,by simp,by omega,by omega,by omega,by omega,fun oU wH ahi=>?_⟩;rw[fR (by omega) (by omega)]at ahi;have h24:Rd F G ts oU b l sn (i+1) 0 0 (d:Int):=PG.nI wH ahi hn;have z24:=wH.size;refine(Aj h24 [40]).mono ?_;rintro _ mM ⟨rfl,tu,W1⟩;have z25:=tu.size;refine⟨rfl,sm (by omega) tu,?_⟩;have YV:ay [b] w mM:=(Kl.trans wH fun x hx=>.inl hx).trans tu fun x hx=>.inl hx;have bad:∀{j:Nat} {c a:Int},Rd F G ts mM b l sn j c a (d:Int)->c≠0->az aq 293 #[ae (some ⟨b,0,none⟩)] mM fun e w'=>e=ak (ab (T []))/\ay [b] mM w'/\Rd F G ts w' b l sn j c a (d:Int):=fun{j c a} W2 hc=>by
    refine(Lu W2).mono ?_;rintro e oo ⟨iO,hh⟩;rw[if_neg (fun hh=>hc hh.1),if_neg hc,if_neg hc]at hh;exact⟨hh.1,iO,hh.2⟩
   have ahk:∀{oo rP:av} {j:Nat} {c a:Int},ay [b] mM oo->ay [k3] oo rP->Rd F G ts oo b l sn j c a (d:Int)->c≠0->R=.error (c,a)->∀s6:aK,az aq 292 #[ae (some (Addr.add ⟨b,0,none⟩ 0)),ab (ao #[41])] rP fun e8 vp=>e8=(ak (ai #[]))/\bU [k0,k1,k2,k3] rP vp/\∀xF:av,ay [k1] vp xF->nV F G ts w xF b l sn d R (ah #[O U 3,O U 0,ab s6,O U 0,Sl.nil.v,O U (tk ts i).a]):=fun{oo rP j c a} iO qp h26 hc OS s6=>by
    have z26:=iO.size;have z27:=qp.size;refine(Aj (h26.own qp (by simp;omega)) [41]).mono ?_;rintro _ vp ⟨rfl,ui,Km⟩;rw[if_neg (by simp[hc]),if_neg hc,if_neg hc]at Km;refine⟨rfl,sm (by omega) ui,fun xF oh=>?_⟩;rw[OS];refine⟨((((YV.trans iO fun x hx=>.inl hx).new qp (by omega)).trans ui fun x hx=>.inl hx).new oh (by omega)),hc,⟨3,0,s6.data.toList,0,Sl.nil,_,by unfold qQ;rw[<-yu]⟩,j,Km.own oh (by simp;omega)⟩
   by_cases h1:sg ts (i+1) [40]=true
   ·rw[if_pos (by simp[h1])]at W1;rw[VD,if_pos h1]at hR;refine(Lu W1).mono ?_;rintro _ oo ⟨iO,hh⟩;have z26:=iO.size;by_cases h2:(tk ts (i+2)).k=1
    ·rw[if_pos ⟨rfl,h2⟩]at hh;obtain⟨rfl,Tv⟩:=hh;rw[if_pos h2]at hR;refine⟨_,rfl,sm (by omega) iO,fun rP qp=>?_⟩;have z27:=qp.size;have h27:=Tv.own qp (by simp;omega);refine(Aj h27 [41]).mono ?_;rintro _ vp ⟨rfl,ui,Km⟩;refine⟨rfl,sm (by omega) ui,fun xF oh=>?_⟩;have hOf:ay [b] w xF:=(((YV.trans iO fun x hx=>.inl hx).new qp (by omega)).trans ui fun x hx=>.inl hx).new oh (by omega);refine⟨hOf,?_⟩;by_cases h3:sg ts (i+3) [41]=true
     ·rw[if_pos (by simp[h3])]at Km;rw[if_pos h3]at hR;rw[<-hR];exact⟨_,rfl,.leaf ..,Km.own oh (by simp;omega)⟩
     ·rw[if_neg (by simp[h3]),if_pos rfl,if_pos rfl]at Km;rw[if_neg h3]at hR;rw[<-hR];exact⟨iH,⟨_,_,_,_,_,_,rfl⟩,_,Km.own oh (by simp;omega)⟩
    ·rw[if_neg (fun hh=>h2 hh.2),if_pos rfl,if_pos rfl]at hh;obtain⟨rfl,Tv⟩:=hh;rw[if_neg h2]at hR;exact⟨_,rfl,sm (by omega) iO,fun rP qp=>ahk iO qp Tv iH hR.symm _⟩
   ·rw[if_neg (by simp[h1]),if_pos rfl,if_pos rfl]at W1;rw[VD,if_neg h1]at hR;refine(bad W1 iH).mono ?_;rintro _ oo ⟨rfl,iO,Tv⟩;exact⟨_,rfl,sm (by omega) iO,fun rP qp=>ahk iO qp Tv iH hR.symm _⟩
  ·have hi:¬(tk ts i).k=3:=by simpa using hi
   have hv:¬(tk ts i).k=1:=by simpa using hv
   rw[show(ao #[105,110])=T [105,110]from rfl,mA]at hw;rw[if_neg hi,if_neg hv,if_neg (fun hh=>by rw[hh.1,hh.2]at hw;simp at hw)]at hR;refine(DU PG).mono ?_;rintro _ E5 ⟨rfl,Tw,ahn⟩;rw[if_pos rfl,if_pos rfl]at ahn;refine⟨rfl,sm (by omega) Tw,fun Ip Bk=>⟨(Kl.trans Tw fun x hx=>.inl hx).new Bk (by omega),?_⟩⟩;rw[<-hR];exact⟨iH,⟨0,0,[],0,Sl.nil,_,rfl⟩,i,ahn.own Bk (by simp;omega)⟩
end
section
variable {F G:aJ} {ts:List Tk} {w w':av} {b:Nat} {l sn:Sl} {i:Nat} {fc fa d:Int}
theorem NU{E:Nat->Pr}{k:Int}{g:Nat}{x:Ex}{j:Nat}(h:Ah ts k j=0):ni ts E k g x j=.ok (x,j):=by
 cases g with
 | zero=>rfl
 | succ g=>rw[ni,if_pos h]
def At5(F G:aJ)(ts:List Tk)(w:av)(b:Nat)(l sn:Sl)(d:Nat)(N:aJ)(E:Nat->Pr)(k:Int)(R:Pr)(nv:Nat)(op:Int)(cs:aI)(w':av):Prop:=ay [b] w w'/\
 ((∃(c a:Int) (j:Nat),op=0/\c≠0/\R=.error (c,a)/\Rd F G ts w' b l sn j c a (d:Int))∨
  (∃(x:Ex) (j:Nat),op=Ah ts k j/\RXN w' N w.heap.size w'.heap.size x cs/\Rd F G ts w' b l sn j 0 0 (d:Int)/\R=ni ts E k nv x j/\ts.length-j<=nv))
theorem NV{f k d:Nat}(hk6:k<6)(h:Rd F G ts w b l sn i 0 0 (d:Int))
  (hE:∀w i,Rd F G ts w b l sn i 0 0 (d:Int)->az aq 257 #[ae (some ⟨b,0,none⟩),O U ((k+1:Nat):Int)] w fun e w'=>∃v,e=ak v/\nV F G ts w w' b l sn d (fI ts f (k+1) d i) v):
  az aq 257 #[ae (some ⟨b,0,none⟩),O U (k:Int)] w fun e w'=>∃v,e=ak v/\nV F G ts w w' b l sn d (fI ts (f+1) k d i) v:=by
 have eR:fI ts (f+1) k d i=NS (fI ts f (k+1) d i) fun x j=>ni ts (fI ts f (k+1) d) (k:Int) (ts.length-j) x j:=by rw[fI,if_neg (by omega)]
 rw[eR];have aho:∀i x j,fI ts f (k+1) d i=.ok (x,j)->i<j:=fun i x j h=>lU f _ _ i h;generalize hgE:fI ts f (k+1) d=E at*
 generalize hR:(NS (E i) fun x j=>ni ts E (k:Int) (ts.length-j) x j)=R;refine afs ⟨b,0,none⟩ _ (fun v w'=>nV F G ts w w' b l sn d R v) w ?_;have ek:ar U ((k:Int)+1)=((k+1:Nat):Int):=by rw[fR (by omega) (by omega)];rfl
 refine⟨fun hc=>absurd (by simpa using hc) (by omega:¬(k:Int)=6),fun _ k1 w3 j5 iX de=>?_⟩;have hb:=h.lb;rw[ek];refine(hE w3 i (h.only de)).mono ?_;rintro _ w4 ⟨v,rfl,hD⟩;obtain⟨vk,vn,vs,vo,vl,va,rfl⟩:=hD.Bc;have z3:=de.size;have z4:=hD.1.size;refine⟨_,_,_,_,_,_,rfl,hD.1.same (by simp;omega),fun k2 w5 rm rn eP=>?_⟩;have z5:=eP.size;have abM:ay [b] w w5:=((de.weaken (bs':=[b]) fun _ h=>(by cases h)).trans hD.1 fun x hx=>.inl hx).cf eP;have sm:∀{u u':av},w5.heap.size<=u.heap.size->ay [b] u u'->bU [k1,k2] u u':=fun hu hO=>hO.same (by intro x hx;simp only[aU,ba,bW]at hx⊢;omega);have Ts:=h.big;have ph:∃(j:Nat) (c a:Int),Rd F G ts w4 b l sn j c a (d:Int)/\∀w6,ay [] w4 w6->∃nv,At5 F G ts w b l sn d (fun q=>q=k1∨q=k2) E (k:Int) R nv (if c=0 then Ah ts (k:Int) j else 0) (qQ vk vn vs vo vl va) w6:=by
  obtain⟨dL,W3⟩:=hD;have E6:ay [b] w w4:=(de.weaken (bs':=[b]) fun _ h=>(by cases h)).trans dL fun x hx=>.inl hx;cases Oz:E i with
  | error e=>
   rw[Oz]at W3 hR;obtain⟨c,a⟩:=e;obtain⟨a1,a2,j,a3⟩:=W3;exact⟨j,c,a,a3,fun w6 eB=>⟨0,E6.cf eB,.inl ⟨c,a,j,if_neg a1,a1,hR.symm,a3.only eB⟩⟩⟩
  | ok q=>
   obtain⟨x,j⟩:=q;rw[Oz]at W3 hR;obtain⟨cs,a1,a2,a3⟩:=W3;have nP:(qQ vk vn vs vo vl va)=cs:=bI Array.toList (Value.agg.inj a1);rw[nP];exact⟨j,0,0,a3,fun w6 eB=>⟨ts.length-j,E6.cf eB,.inr ⟨x,j,if_pos rfl,((a2.only eB (by simp)).S3 fun q h1 h2 _=>(by omega)).wide z3 eB.size,a3.only eB,hR.symm,aX _⟩⟩⟩
 obtain⟨j0,c0,a0,hR4,ph⟩:=ph;refine(Ak (hR4.only eP) (k:Int)).mono ?_;rintro _ w6 ⟨rfl,eB⟩;have z6:=eB.size;obtain⟨nv0,hA0⟩:=ph w6 (eP.cf eB);refine⟨_,rfl,eB.same (by simp;omega),fun nv op i10 i11 s2 i12 l2 i13 w'=>w5.heap.size<=w'.heap.size/\At5 F G ts w b l sn d (fun q=>q=k1∨q=k2) E (k:Int) R nv op [O U i10,O U i11,ab s2,O U i12,l2.v,O U i13] w',nv0,⟨z6,hA0⟩,?_⟩;rintro nv op i10 i11 s2 i12 l2 i13 w7 ⟨z7,fE,hA⟩;refine⟨fun E8=>?_,fun E8 fk ep=>?_⟩
 ·have E8:op≠0:=by simpa using E8
  rcases hA with⟨_,_,_,e,_⟩ | ⟨x,j,rfl,hX,Td,OS,hnv⟩
  ·exact absurd e E8
  have hn:=Td.en.next Td.lt (xd _ _ E8);obtain⟨g,rfl⟩:∃g,nv=g+1:=⟨nv-1,by omega⟩
  rw[ni,if_neg E8]at OS;refine⟨(j:Int),Blk.dQ Td.blk 1 rfl,b,1,_,_,rfl,Td.blk,by simp,by omega,by omega,fun w8 fy vt=>?_⟩;rw[fR (by omega) (by omega)]at vt;have h8:Rd F G ts w8 b l sn (j+1) 0 0 (d:Int):=Td.nI fy vt hn;have z8:=fy.size;refine(hE w8 (j+1) h8).mono ?_;rintro _ w9 ⟨v,rfl,hD9⟩;obtain⟨yk,yn,ys,yo,yl,ya,rfl⟩:=hD9.Bc;have z9:=hD9.1.size;refine⟨_,_,_,_,_,_,rfl,sm (by omega) hD9.1,fun k8 du hk8 Tt dM=>?_⟩;have PB:=dM.size;obtain⟨dC,mQ,HZ,eu⟩:=QX du [[O U i10,O U i11,ab s2,O U i12,l2.v,O U i13],qQ yk yn ys yo yl ya] (by simp) (by simp) (by simp) (parts:=#[(0,ah #[O U i10,O U i11,ab s2,O U i12,l2.v,O U i13]),(1,ah (qQ yk yn ys yo yl ya).toArray)]) rfl;have C6:=eu.size;refine⟨⟨some ⟨du.heap.size,0,none⟩,2,2⟩,dC,mQ,eu.same (by simp;omega),fun dN eS=>?_⟩;have z12:=eS.size;have YW:ay [b] w dN:=((((fE.trans fy fun x hx=>.inl hx).trans hD9.1 fun x hx=>.inl hx).cf dM).cf eu).new eS (by omega);have H0:ay [k2] w9 dN:=((dM.cf eu).weaken (bs':=[k2]) fun _ h=>(by cases h)).trans eS fun x hx=>.inl hx;have abN:∃(j':Nat) (c a:Int),Rd F G ts w9 b l sn j' c a (d:Int)/\∀fb,ay [] dN fb->∃nv,nv<g+1/\At5 F G ts w b l sn d (fun q=>q=k1∨q=k2) E (k:Int) R nv (if c=0 then Ah ts (k:Int) j' else 0) (qQ 5 0 [] (Ah ts (k:Int) j) ⟨some ⟨du.heap.size,0,none⟩,2,2⟩ i13) fb:=by
   obtain⟨fQ,W3⟩:=hD9;cases Oz:E (j+1)with
   | error e=>
    rw[Oz]at W3 OS;obtain⟨c,a⟩:=e;obtain⟨a1,a2,j',a3⟩:=W3;exact⟨j',c,a,a3,fun fb eH=>⟨0,by omega,YW.cf eH,.inl ⟨c,a,j',if_neg a1,a1,OS,(a3.own H0 (by simp;omega)).only eH⟩⟩⟩
   | ok q=>
    obtain⟨y,j'⟩:=q;rw[Oz]at W3 OS;obtain⟨cs,a1,a2,a3⟩:=W3;have nP:(qQ yk yn ys yo yl ya)=cs:=bI Array.toList (Value.agg.inj a1);have hjj:=aho _ _ _ Oz;obtain⟨xl,yH,_⟩:=hX.cells;have hxa:i13=x.a:=by
     simp only[qQ,rN,Value.int.injEq]at yH;exact yH.2.2.2.2.2.1.2
    refine⟨j',0,0,a3,fun fb eH=>⟨g,by omega,YW.cf eH,.inr ⟨.mk 5 0 [] (Ah ts (k:Int) j) [x,y] x.a,j',if_pos rfl,?_,(a3.own H0 (by simp;omega)).only eH,OS,?_⟩⟩⟩
    ·have PF:=eH.size;have ahq:ay [b,k2] w7 fb:=(((((fy.weaken (bs':=[b,k2]) fun x hx=>.inl (by simp only[aN]at hx;simp[hx])).trans fQ fun x hx=>.inl (by simp only[aN]at hx;simp[hx])).trans H0 fun x hx=>.inl (by simp only[aN]at hx;simp[hx])).cf eH))
     have ahr:ay [k2] w9 fb:=H0.cf eH;have Bi:aF fb du.heap.size 64 ([O U i10,O U i11,ab s2,O U i12,l2.v,O U i13]++cs):=by
      have:=eH.blk (eS.blk HZ (by simp;omega)) (by simp);rw[<-nP];simpa using this
     have anR:RXN fb (fun q=>q=k1∨q=k2) w.heap.size w7.heap.size x [O U i10,O U i11,ab s2,O U i12,l2.v,O U i13]:=by
      exact hX.only ahq fun q hq=>by
       simp only[aU,ba,bW]at hq;rcases hq with rfl | rfl
       ·exact .inl hb
       ·exact .inr (.inr (.inr rfl))
     have anS:RXN fb (fun q=>q=k1∨q=k2) w8.heap.size w9.heap.size y cs:=(a2.only ahr fun q hq=>.inl (by simp only[aN]at hq;omega)).S3 fun q h1 h2 _=>(by omega)
     rw[hxa];exact .two w.heap.size w7.heap.size w8.heap.size w9.heap.size du.heap.size _ _ _ _ _ _ x y _ cs anR z8 anS (by omega) (by omega) (by omega) (by omega) (by have:=Bi.lt;omega) (by omega) Bi
    ·omega
  obtain⟨j',c',a',hR9,abN⟩:=abN;refine(Ak (hR9.own H0 (by simp;omega)) (k:Int)).mono ?_;rintro _ fb ⟨rfl,eH⟩;obtain⟨nv',anT,W4⟩:=abN fb eH;exact⟨_,rfl,eH.same (by simp;omega),nv',anT,by have:=eH.size;omega,W4⟩
 ·have E8:op=0:=by simpa using E8
  refine⟨fE.new ep (by omega),?_⟩;rcases hA with⟨c,a,j,_,hc,OS,Td⟩ | ⟨x,j,YD,hX,Td,OS,hnv⟩
  ·rw[OS];exact⟨hc,⟨i10,i11,s2.data.toList,i12,l2,i13,by unfold qQ;rw[<-yu]⟩,j,Td.own ep (by simp;omega)⟩
  ·rw[OS,NU (by rw[<-YD,E8])];exact⟨_,rfl,((hX.only ep fun q hq=>.inr (.inr (.inl (by simpa using hq)))).S3 fun _ _ _ _ h=>h).wide (aX _) ep.size,Td.own ep (by simp;omega)⟩
theorem Gz : ∀ f : Nat, (∀ (k d i : Nat) (w : av), k <= 6 -> d <= 20 -> kX k d <= f -> Rd F G ts w b l sn i 0 0 (d : Int) ->
      az aq 257 #[ae (some ⟨b, 0, none⟩), O U (k : Int)] w fun e w' => ∃ v, e = ak v /\ nV F G ts w w' b l sn d (fI ts f k d i) v) /\
    (∀ (d i : Nat) (w : av), d <= 20 -> kX 6 d <= f -> Rd F G ts w b l sn i 0 0 (d : Int) ->
      az aq 274 #[ae (some ⟨b, 0, none⟩)] w fun e w' => ∃ v, e = ak v /\ nV F G ts w w' b l sn d (fI ts f 6 d i) v)
  | 0 => ⟨fun k d i w hk hd hn => by unfold kX at hn; omega, fun d i w hd hn => by unfold kX at hn; omega⟩
  | f + 1 => by
    obtain ⟨PE, UK⟩ := Gz f
    have one : ∀ (d i : Nat) (w : av), d <= 20 -> kX 6 d <= f + 1 -> Rd F G ts w b l sn i 0 0 (d : Int) ->
      az aq 274 #[ae (some ⟨b, 0, none⟩)] w fun e w' => ∃ v, e = ak v /\ nV F G ts w w' b l sn d (fI ts (f + 1) 6 d i) v := fun d i w hd hn h => by
      unfold kX at hn
      exact Z6 hd h (fun h20 w i h => PE 0 (d + 1) i w (by omega) (by omega) (by unfold kX; omega) h) (fun h20 w i h => UK (d + 1) i w (by omega) (by unfold kX; omega) h)
    refine ⟨fun k d i w hk hd hn h => ?_, one⟩
    by_cases h6 : k = 6
    · subst h6
      refine afs ⟨b, 0, none⟩ _ (fun v w' => nV F G ts w w' b l sn d (fI ts (f + 1) 6 d i) v) w ?_
      refine ⟨fun _ k0 w0 gu fe cD => ?_, fun hc => absurd hc (by decide)⟩
      refine (one d i w0 hd hn (h.only cD)).mono ?_
      rintro _ w1 ⟨v, rfl, hD⟩
      obtain ⟨vk, vn, vs, vo, vl, va, rfl⟩ := hD.Bc
      have hb := h.lb
      exact ⟨_, _, _, _, _, _, rfl, hD.1.same (by simp; omega), fun w2 cR => hD.S4 (cD.weaken fun _ h => (by cases h)) cR (by simp; omega)⟩
    · unfold kX at hn
      exact NV (by omega) h fun w i h => PE (k + 1) d i w (by omega) hd (by unfold kX; omega) h
end
theorem NW(w:av):∃(s:Sl) (w':av),(au 31 16 #[.mk 1 (ab (ao #[43])),.mk 2 (ab (ao #[45])),.mk 3 (ab (ao #[42])),.mk 4 (ab (ao #[47])),.mk 5 (ab (ao #[37])),.mk 6 (ab (ao #[60])),.mk 7 (ab (ao #[60,61])),.mk 8 (ab (ao #[62])),.mk 9 (ab (ao #[62,61])),.mk 10 (ab (ao #[61,61])),.mk 11 (ab (ao #[33,61])),.mk 12 (ab (ao #[38,38])),.mk 13 (ab (ao #[124,124])),.mk 14 (ab (ao #[45])),.mk 15 (ab (ao #[33]))]).run aq w=.ok (Sl.v s) w'/\
  aA ju 1 w' (fun k=>w.heap.size<=k/\k<w'.heap.size) s BK/\ay [] w w':=by
 have tf:=run_buildSlice (P:=aq) w 31 9 16 #[.mk 1 (ab (ao #[43])),.mk 2 (ab (ao #[45])),.mk 3 (ab (ao #[42])),.mk 4 (ab (ao #[47])),.mk 5 (ab (ao #[37])),.mk 6 (ab (ao #[60])),.mk 7 (ab (ao #[60,61])),.mk 8 (ab (ao #[62])),.mk 9 (ab (ao #[62,61])),.mk 10 (ab (ao #[61,61])),.mk 11 (ab (ao #[33,61])),.mk 12 (ab (ao #[38,38])),.mk 13 (ab (ao #[124,124])),.mk 14 (ab (ao #[45])),.mk 15 (ab (ao #[33]))]
  (BK.map fun x=>Value.string (T x)).toArray Tryz.t9 _ (by kernel_rfl) (by kernel_rfl) rfl (by decide) (by decide) (by kernel_rfl)
 refine⟨⟨some ⟨w.heap.size,0,none⟩,16,16⟩,_,tf,⟨rfl,aX _,fun h=>(by cases h),(by decide:(16:Nat)<=9223372036854775807),fun j x hx=>?_⟩,Only.alloc _ _⟩;have hB:=Blk.alloc w 9 (BK.map fun x=>Value.string (T x));have bS:=hB.lt;refine⟨⟨w.heap.size,0,none⟩,[ab (T x)],rfl,⟨aX _,bS⟩,rfl,?_,rfl⟩;rw[gj];exact Blk.dQ hB j (by rw[ch,hx];rfl)
theorem XV(w:av):az aq 256 #[] w fun e w'=>∃s:Sl,e=ak s.v/\aA ju 1 w' (fun k=>w.heap.size<=k/\k<w'.heap.size) s BK/\ay [] w w':=by
 refine(ak1 (fun v w'=>∃s:Sl,v=s.v/\aA ju 1 w' (fun k=>w.heap.size<=k/\k<w'.heap.size) s BK/\ay [] w w') w ?_).mono (by
  rintro e w' ⟨v,rfl,s,rfl,h⟩;exact⟨s,rfl,h⟩)
 obtain⟨s,w',h1,h2,h3⟩:=NW w;exact⟨s,w',h1,s,rfl,h2,h3⟩
def mG(ts:List Tk):Nat:=(ts.takeWhile fun t=>t.k !=5).length
theorem Lv(ts:List Tk):mG ts<=ts.length:=by
 unfold mG;exact(List.takeWhile_sublist _).length_le
theorem Cm{t:Tk}{ts:List Tk}{i:Nat}:tk (t::ts) (i+1)=tk ts i:=by unfold tk;rw[cu]
theorem Co{t:Tk}{ts:List Tk}:tk (t::ts) 0=t:=rfl
theorem DV:∀(ts:List Tk) (i:Nat),i<mG ts->(tk ts i).k≠5
 | [],_,h=>by simp[mG]at h
 | t::ts,i,h=>by
  unfold mG at h;rw[eF]at h;split at h
  ·rename_i ht;cases i with
   | zero=>rw[Co];simpa using ht
   | succ i=>rw[Cm];exact DV ts i (by simpa[mG]using h)
  ·simp at h
theorem DW:∀(ts:List Tk),mG ts<ts.length->(tk ts (mG ts)).k=5
 | [],h=>by simp at h
 | t::ts,h=>by
  unfold mG at h⊢;rw[eF]at h⊢;split
  ·rename_i ht;rw[if_pos ht]at h;rw[bf,Cm];exact DW ts (by simpa[mG]using h)
  ·rename_i ht;rw[cz,Co];simpa using ht
theorem QY{ts:List Tk}(h:mG ts+1=ts.length):xa ts:=fun i hi=>by
 constructor
 ·intro hk;refine cx fun hn=>DV ts i (by omega) hk
 ·intro hn;have:i=mG ts:=by omega
  rw[this];exact DW ts (by omega)
theorem VE(w:av)(t:Tk):az aq 255 #[t.v] w fun e w'=>e=ak (aj (t.k==5))/\ay [] w w':=by
 refine ret (ak0 t.k (T t.t) t.n t.a (fun v w'=>v=aj (t.k==5)/\ay [] w w') w ?_);exact fun k0 w0 _ _ hO=>⟨rfl,hO⟩
theorem QZ{w:av}{F:aJ}{l:Sl}{ts:List Tk}(h:aA Lj 4 w F l ts):az aq 254 #[l.v,.func (.func 255) #[] #[]] w fun e w'=>e=ak (O U (if mG ts<ts.length then(mG ts:Int)else -1))/\ay [] w w':=by
 refine ret (afr l ⟨.func (.func 255) #[] #[],rfl⟩ (fun v w'=>v=O U (if mG ts<ts.length then(mG ts:Int)else -1)/\ay [] w w') w ?_);have fi:=h.len;have rK:=h.big;have mU:=h.cap;refine⟨fun nv i w'=>∃n:Nat,n<=mG ts/\i=(n:Int)/\nv=ts.length-n/\ay [] w w',ts.length,⟨0,bh _,rfl,rfl,Only.refl _ _⟩,?_⟩;rintro nv _ w0 ⟨n,hn,rfl,rfl,cD⟩;have lC:=Lv ts;refine⟨fun hc=>?_,fun hc=>?_⟩
 ·have bS:(n:Int)<l.n:=aO hc;obtain⟨ad,x,cs,g1,g2,g3,g4,g5,g6⟩:=(SliceF.only jB (by decide) h cD (by simp)).get (bA n) bS;rw[aY,Lq (by omega)]at g2;injection g2 with g2;subst g2;unfold Lj at g6;subst g6;refine⟨ad,g1,_,_,_,_,g5,255,[],[],rfl,fu (by kernel_rfl),?_⟩;refine(VE w0 (tk ts n)).mono ?_;rintro _ w1 ⟨rfl,cr⟩;refine⟨_,rfl,fun hb=>⟨?_,cD.cf cr⟩,fun hb=>⟨ts.length-(n+1),by omega,n+1,?_,by rw[fR (by omega) (by omega)];rfl,rfl,cD.cf cr⟩⟩
  ·have hb:(tk ts n).k=5:=by simpa using hb
   have:n=mG ts:=by
    refine cx fun ik=>DV ts n (by omega) hb
   rw[if_pos (by omega),this]
  ·have hb:¬(tk ts n).k=5:=by simpa using hb
   refine cx fun ik=>hb ?_;have:n=mG ts:=by omega
   rw[this];exact DW ts (by omega)
 ·have rl:¬(n:Int)<l.n:=aR hc;rw[if_neg (by omega)];exact⟨rfl,cD⟩
def GA:Ex:=.mk 0 0 [] 0 [] 0
def dB(ts:List Tk)(a:Int):Ex×Int×Int×Int:=
 if 0<=a/\a<ts.length/\mG ts+1=ts.length then(match I9 ts a.toNat with
  | .error (c,p)=>(GA,0,c,p)
  | .ok (x,j)=>(x,(j:Int),0,0))
 else(GA,0,1, -1)
theorem rx0(w:av)(lo hi:Nat):RX w lo hi GA [O U 0,O U 0,ab (ao #[]),O U 0,Sl.nil.v,O U 0]:=.leaf ..
theorem Lw{w:av}{F:aJ}{l:Sl}{ts:List Tk}(h:aA Lj 4 w F l ts)(a:Int)(ha:rS a):az aq 240 #[l.v,O U a] w fun e w'=>
  ∃cs,e=ak (ai #[ah cs.toArray,O U (dB ts a).2.1,ah #[O U (dB ts a).2.2.1,O U (dB ts a).2.2.2]])/\RX w' w.heap.size w'.heap.size (dB ts a).1 cs/\((dB ts a).2.2.1=0->0<=(dB ts a).2.1/\(dB ts a).2.1<ts.length)/\ay [] w w':=by
 refine(akZ l a (fun v w'=>∃cs,v=(ai #[ah cs.toArray,O U (dB ts a).2.1,ah #[O U (dB ts a).2.2.1,O U (dB ts a).2.2.2]])/\RX w' w.heap.size w'.heap.size (dB ts a).1 cs/\((dB ts a).2.2.1=0->0<=(dB ts a).2.1/\(dB ts a).2.1<ts.length)/\ay [] w w') w ?_).mono (by
  rintro e w' ⟨v,rfl,cs,rfl,h⟩;exact⟨cs,rfl,h⟩)
 intro k0 k1 w0 gu fe j5 iX cD;have fi:=h.len;have mU:=h.cap;have rK:=h.big;have z0:=cD.size;have h:=(h.inHeap jB (by decide))
 refine(QZ (SliceF.only jB (by decide) h cD (by simp))).mono ?_;rintro _ w1 ⟨rfl,cr⟩;have z1:=cr.size;have jz:=cD.cf cr;have lC:=Lv ts;have hcond:(((decide (a<0))||(decide (a>=(l.n:Int))))||((if mG ts<ts.length then(mG ts:Int)else -1) !=(ar U ((l.n:Int)-1))))=!decide (0<=a/\a<ts.length/\mG ts+1=ts.length):=by
  rw[fR (by omega) (by omega),fi];by_cases h1:mG ts<ts.length
  ·rw[if_pos h1,bX];simp;omega
  ·rw[if_neg h1,bX];simp;omega
 refine⟨_,rfl,cr.same (by simp;omega),?_⟩;dsimp only;rw[hcond];refine⟨fun hc w2 cR=>?_,fun hc=>?_⟩
 ·have hc:¬(0<=a/\a<ts.length/\mG ts+1=ts.length):=by
   rw[dS,cY]at hc;exact hc
  rw[dB,if_neg hc];exact⟨_,rfl,rx0 _ _ _,fun h=>(by cases h),(jz.weaken (bs':=[]) fun _ h=>(by cases h)).trans cR fun x hx=>.inr (by simp only[aU,ba,bW]at hx;omega)⟩
 ·have hc:0<=a/\a<ts.length/\mG ts+1=ts.length:=by
   rw[H5,bM]at hc;exact hc
  rw[dB,if_pos hc];obtain⟨i,rfl⟩:∃i:Nat,a=(i:Int):=⟨a.toNat,by omega⟩
  refine(XV w1).mono ?_;rintro _ w3 ⟨sn,rfl,Uo,de⟩;have z3:=de.size;refine⟨sn,rfl,de.same (by simp;omega),fun b w4 hb j9 dL uh=>?_⟩;have z4:=dL.size;have Bh:=jz.cf de;have hR:Rd (fun k=>F k/\k<w.heap.size) (fun k=>w1.heap.size<=k/\k<w3.heap.size) ts w4 b l sn i 0 0 ((0:Nat):Int):=
   ⟨uh,SliceF.only jB (by decide) h (Bh.cf dL) (by simp),SliceF.only cP (by decide) Uo dL (by simp),fun k hk=>by have:=hk.2;omega,fun k hk=>by have:=hk.2;omega,QY hc.2.2,by omega⟩
  refine((Gz (kX 0 0)).1 0 0 i w4 (by decide) (by decide) (aX _) hR).mono ?_;rintro _ w5 ⟨v,rfl,hD⟩;obtain⟨vk,vn,vs,vo,vl,va,rfl⟩:=hD.Bc;have z5:=hD.1.size;obtain⟨eP,hD⟩:=hD;rw[aY];have hpr:I9 ts i=fI ts (kX 0 0) 0 0 i:=rfl;rw[hpr];have fin:∀{j:Nat} {c p:Int},Rd (fun k=>F k/\k<w.heap.size) (fun k=>w1.heap.size<=k/\k<w3.heap.size) ts w5 b l sn j c p ((0:Nat):Int)->∀w8,ay [] w5 w8->∀w9,ay [k1,k0] w8 w9->ay [] w w9:=fun hR w8 fy w9 fQ=>(((Bh.cf dL).trans eP fun x hx=>.inr (by simp only[aN]at hx;omega)).cf fy).trans fQ fun x hx=>.inr (by simp only[aU,ba,bW]at hx;omega);refine⟨_,_,_,_,_,_,rfl,eP.same (by simp;omega),?_⟩;cases hE:fI ts (kX 0 0) 0 0 i with
  | error e=>
   rw[hE]at hD;obtain⟨c,p⟩:=e;obtain⟨a1,a2,j,a3⟩:=hD;refine⟨_,_,_,_,_,_,a3.blk,fun k3 w6 wG rL eB Tx=>?_⟩;have z6:=eB.size;refine(Ck (a3.only eB)).mono ?_;rintro _ w7 ⟨rfl,fE⟩;have h7:=(a3.only eB).only fE;have ik:(c !=0)=true:=by simpa using a1
   refine⟨_,rfl,fE.same (by simp;omega),_,_,_,_,_,_,h7.blk,fun _ w8 fy vt n1 n2 n3 n4 n5 n6=>⟨fun k=>k=b,rfl,fun e=>n2 e,fun e=>n4 e,fun w9 fQ _=>⟨_,rfl,rx0 _ _ _,fun h=>absurd h a1,fin a3 w8 (eB.cf (fE.cf fy)) w9 fQ⟩⟩,fun hc=>by rw[ik]at hc;cases hc⟩
  | ok q=>
   rw[hE]at hD;obtain⟨x,j⟩:=q;obtain⟨cs,a1,a2,a3⟩:=hD;refine⟨_,_,_,_,_,_,a3.blk,fun k3 w6 wG rL eB Tx=>?_⟩;have z6:=eB.size;refine(Ck (a3.only eB)).mono ?_;rintro _ w7 ⟨rfl,fE⟩;have z7:=fE.size;have h7:=(a3.only eB).only fE;refine⟨_,rfl,fE.same (by simp;omega),_,_,_,_,_,_,h7.blk,fun hc=>(by simp at hc),fun _ du dM wF n1 n2 n3 n4 n5 n6=>⟨fun k=>k=b,rfl,fun e=>n2 e,fun e=>n4 e,fun dC eu _=>?_⟩⟩;have PB:=dM.size;have C6:=eu.size;have nP:(qQ vk vn vs vo vl va)=cs:=bI Array.toList (Value.agg.inj a1);refine⟨qQ vk vn vs vo vl va,rfl,?_,fun _=>⟨bA j,by have:=a3.lt;dsimp only;omega⟩,fin a3 du (eB.cf (fE.cf dM)) dC eu⟩;rw[nP];exact((a2.only (eB.cf (fE.cf dM)) (by simp)).only eu fun q hq=>.inl (by simp only[aU,ba,bW]at hq;omega)).wide (by omega) (by omega)
def oI(l:aH):Ex×Int×Int:=
 if(dr l).2.1≠0 then(GA,(dr l).2.1,(dr l).2.2)
 else if(dB (dr l).1 0).2.2.1≠0 then(GA,(dB (dr l).1 0).2.2.1,(dB (dr l).1 0).2.2.2)
 else if(tk (dr l).1 (dB (dr l).1 0).2.1.toNat).k≠5 then(GA,4,(tk (dr l).1 (dB (dr l).1 0).2.1.toNat).a)
 else((dB (dr l).1 0).1,0,(dB (dr l).1 0).2.2.2)
theorem Z7{w:av}(l:aH)(hE:Er w):az aq 266 #[ab (T l)] w fun e w'=>
  ∃cs,e=ak (ai #[ah cs.toArray,ah #[O U (oI l).2.1,O U (oI l).2.2]])/\RX w' w.heap.size w'.heap.size (oI l).1 cs/\ay [] w w':=by
 refine(alu (T l) (fun v w'=>∃cs,v=(ai #[ah cs.toArray,ah #[O U (oI l).2.1,O U (oI l).2.2]])/\RX w' w.heap.size w'.heap.size (oI l).1 cs/\ay [] w w') w ?_).mono (by
  rintro e w' ⟨v,rfl,cs,rfl,h⟩;exact⟨cs,rfl,h⟩)
 intro k0 k1 w0 gu fe j5 iX cD;have z0:=cD.size;refine(Gw l (hE.only cD)).mono ?_;rintro _ w1 ⟨l0,rfl,hT,cr⟩;have z1:=cr.size;have jz:=cD.cf cr;generalize nt:dr l=tm at*
 obtain⟨ts,c,p⟩:=tm;dsimp only at hT⊢;have hra:oI l=if c≠0 then(GA,c,p)else if(dB ts 0).2.2.1≠0 then(GA,(dB ts 0).2.2.1,(dB ts 0).2.2.2)else if(tk ts (dB ts 0).2.1.toNat).k≠5 then(GA,4,(tk ts (dB ts 0).2.1.toNat).a)else((dB ts 0).1,0,(dB ts 0).2.2.2):=by
  unfold oI;rw[nt]
 refine⟨l0,_,_,rfl,cr.same (by simp;omega),fun hc k2 w2 rm rn cR n1 n2 n3=>⟨fun k=>k=k2,rfl,fun e=>n2 e,fun e=>n3 e,fun w3 de=>?_⟩,fun hc k3 w4 wG rL dL=>?_⟩
 ·have hc:c≠0:=by simpa using hc
  rw[hra,if_pos hc];exact⟨_,rfl,rx0 _ _ _,((jz.cf cR).trans de fun x hx=>.inr (by simp only[aU,ba,bW]at hx;omega))⟩
 ·have hc:c=0:=by simpa using hc
  rw[if_neg (by simp[hc])]at hra;have z4:=dL.size;refine(Lw (hT.only dL).sl 0 ⟨by decide,by decide⟩).mono ?_;rintro _ w5 ⟨cs,rfl,hX,hj,eP⟩;have z5:=eP.size;generalize PD:dB ts 0=pa at*
  obtain⟨x,j,c',p'⟩:=pa;dsimp only at hX hj hra⊢;obtain⟨xl,rfl,_⟩:=hX.cells;refine⟨_,_,_,_,_,_,_,_,_,rfl,eP.same (by simp;omega),fun k4 w6 Bl E9 eB=>?_⟩;have z6:=eB.size;have h6:=((hT.only (dL.cf eP)).keep (w':=w6) fun k hk bS=>eB.block k bS (by
   have:=hT.blk hk.2;simp only[aN];dsimp only at this;omega))
  have hl6:=h6.len;have anU:ay [] w w6:=((jz.cf dL).cf eP).new eB (by omega);have fin:∀{w8 w9:av},ay [k3] w6 w8->ay [k1,k0] w8 w9->ay [] w w9:=fun h8 h9=>(anU.new h8 (by omega)).trans h9 fun x hx=>.inr (by simp only[aU,ba,bW]at hx;omega);refine⟨fun i9 i10 w7=>ay [k3] w6 w7/\((c'≠0/\i9=c'/\i10=p')∨(c'=0/\(tk ts j.toNat).k≠5/\i9=4/\i10=(tk ts j.toNat).a)∨(c'=0/\(tk ts j.toNat).k=5/\i9=0/\i10=p')),?_,?_⟩
  ·rintro i9 i10 w7 ⟨fE,YX⟩;have z7:=fE.size;refine⟨fun hi w8 fy n1 n2 n3 n4 n5 n6=>⟨fun k=>k=k3,rfl,?_,?_,fun w9 fQ=>?_⟩,fun hi du dM n1 n2 n3 n4 n5 n6=>⟨fun k=>k=k3,rfl,?_,?_,fun dC eu=>?_⟩⟩
   ·intro e;omega
   ·intro e;omega
   ·have hi:i9≠0:=by simpa using hi
    have hr:oI l=(GA,i9,i10):=by
     rw[hra];rcases YX with⟨a1,rfl,rfl⟩ | ⟨a1,a2,rfl,rfl⟩ | ⟨a1,a2,rfl,rfl⟩
     ·rw[if_pos a1]
     ·rw[if_neg (by simp[a1]),if_pos a2]
     ·exact absurd rfl hi
    rw[hr];exact⟨_,rfl,rx0 _ _ _,fin (fE.cf fy) fQ⟩
   ·intro e;omega
   ·intro e;omega
   ·have hi:i9=0:=by simpa using hi
    have hr:oI l=(x,i9,i10):=by
     rw[hra];rcases YX with⟨a1,rfl,rfl⟩ | ⟨a1,a2,rfl,rfl⟩ | ⟨a1,a2,rfl,rfl⟩
     ·exact absurd hi a1
     ·exact absurd hi (by decide)
     ·rw[if_neg (by simp[a1]),if_neg (by simp[a2])]
    rw[hr];have yJ:ay [k3,k1,k0] w5 dC:=(((eB.trans fE fun x hx=>.inl hx).cf dM).weaken (bs':=[k3,k1,k0]) fun x hx=>.inl (by simp only[aN]at hx;simp[hx])).trans eu fun x hx=>.inl (by simp only[aU,ba,bW]at hx⊢;omega);have C6:=yJ.size;exact⟨_,rfl,(hX.only yJ fun q hq=>.inl (by simp only[aU,ba,bW]at hq;omega)).wide (by omega) C6,fin (fE.cf dM) eu⟩
  ·by_cases BQ:c'=0
   ·obtain⟨W5,WM⟩:=hj BQ;obtain⟨n,rfl⟩:∃n:Nat,j=(n:Int):=⟨j.toNat,by omega⟩
    obtain⟨ad,t,cs,g1,g2,g3,g4,g5,g6⟩:=h6.sl.get W5 (by omega);rw[aY,Lq (by omega)]at g2;injection g2 with g2;subst g2;unfold Lj at g6;subst g6;rw[aY];refine⟨ad,fun _=>g1,(tk ts n).k,fun _=>g5.dQ 0 _ rfl,fun hh=>⟨ad,g1,(tk ts n).a,g5.dQ 3 _ rfl,fun dN eS=>⟨eS,.inr (.inl ⟨BQ,?_,rfl,rfl⟩)⟩⟩,fun hh=>⟨Only.refl _ _,.inr (.inr ⟨BQ,?_,BQ,rfl⟩)⟩⟩
    ·simpa[BQ]using hh
    ·simpa[BQ]using hh
   ·have hb:(c'==0)=false:=by simpa using BQ
    refine⟨⟨0,0,none⟩,fun hh=>(by rw[hb]at hh;cases hh),0,fun hh=>(by rw[hb]at hh;cases hh),fun hh=>(by rw[hb]at hh;cases hh),fun _=>⟨Only.refl _ _,.inl ⟨BQ,rfl,rfl⟩⟩⟩
def xf:Nat->Rp Ex
 | 0=>fun _ _ _ _=>False
 | d+1=>fun w F x cs=>∃sl:Sl,cs=qQ x.k x.n x.s x.op sl x.a/\aA (xf d) 6 w F sl x.fF
theorem jW:∀d,(xf d).Ok
 | 0=>⟨fun h _=>h.elim,fun h=>h.elim,fun h _=>h.elim,fun h=>h.elim⟩
 | d+1=>⟨fun⟨sl,h1,h2⟩ hk=>⟨sl,h1,SliceF.keep (jW d) h2 (by decide) hk⟩,fun⟨sl,h1,h2⟩=>⟨sl,h1,SliceF.inHeap (jW d) h2 (by decide)⟩,fun⟨sl,h1,h2⟩ hk=>⟨sl,h1,SliceF.mono (jW d) h2 hk⟩,fun⟨sl,h1,h2⟩=>by
  subst h1;intro v hv;simp only[aU,ba,bW]at hv;rcases hv with rfl | rfl | rfl | rfl | rfl | rfl<;>rfl⟩
theorem GB{α:Type}{r q:Rp α}{size:Nat}{w:av}{F:aJ}{s:Sl}{xs:List α}(h:aA r size w F s xs)(hi:∀x cs,x∈xs->r w F x cs->q w F x cs):aA q size w F s xs:=
 ⟨h.len,h.cap,h.nil0,h.big,fun j x hx=>by
  obtain⟨base,cs,h1,h2,h3,h4,h5⟩:=h.at_ j x hx;exact⟨base,cs,h1,h2,h3,h4,hi x cs (bF hx) h5⟩⟩
section
variable {w w':av} {F:aJ} {x y:Ex} {cs ds:aI}
theorem kY{d:Nat}(h:xf d w F x cs)(hO:ay [] w w'):xf d w' F x cs:=(jW d).only h hO (by simp)
end
theorem mA(l m:aH):((T l).toList==(T m).toList)=decide (l=m):=Xv l m
theorem tJ{d:Nat}{w:av}{F:aJ}{x:Ex}{cs:aI}(h:xf d w F x cs):∃sl:Sl,cs=qQ x.k x.n x.s x.op sl x.a:=by
 cases d with
 | zero=>exact h.elim
 | succ d=>obtain⟨l,nP,_⟩:=h;exact⟨l,nP⟩
def Al:Nat->Ex->Prop
 | 0,_=>True
 | d+1,x=>x.s.length<4611686018427387903/\∀y,y∈x.fF->Al d y
def nD(f:Ex->Nat):List Ex->Nat
 | []=>0
 | x::xs=>f x+nD f xs
def kZ:Nat->Ex->Nat
 | 0,_=>0
 | d+1,x=>1+nD (kZ d) x.fF
def rv:Nat->Ex->Prop
 | 0,_=>True
 | d+1,x=>rS x.n/\∀y,y∈x.fF->rv d y
theorem Ly{d:Nat}:∀{xs:List Ex},xs.length<=nD (kZ (d+1)) xs
 | []=>aX _
 | x::xs=>by
  rw[nD,bf];have:=Ly (d:=d) (xs:=xs);rw[kZ];omega
theorem Q0{d:Nat}:∀{xs:List Ex} {x:Ex},x∈xs->kZ d x<=nD (kZ d) xs
 | [],_,h=>by simp at h
 | y::xs,x,h=>by
  rw[nD];rcases aU.1 h with rfl | h
  ·omega
  ·have:=Q0 (d:=d) h;omega
def eM(l:aH):Bool:=decide (l≠[]/\l.length<=24)&&(match l with
 | c::_=>qN c
 | []=>false)&&decide (l.takeWhile iG=l)&&!sC.contains l
theorem Q1{w:av}(l:aH)(hl:l.length<9223372036854775807):
  az aq 205 #[ab (T l)] w fun e w'=>e=ak (aj (eM l))/\ay [] w w':=by
 refine ret (afB _ _ _ ?_);intro k0 w0 gu fe cD;have e0:(ao #[])=T []:=rfl;rw[dI,e0,mA];refine⟨fun b s i w'=>b=eM l/\ay [] w w',fun b s i w' h=>⟨by rw[h.1],h.2⟩,fun hc=>?_,fun hc=>⟨?_,cD⟩⟩
 ·simp only[aQ,dS,cY,bM]at hc;obtain⟨h1,h2⟩:=hc;have h2:l.length<=24:=by omega
  obtain⟨c,r,rfl⟩:∃c r,l=c::r:=by
   cases l with
   | nil=>exact absurd rfl h1
   | cons c r=>exact⟨c,r,rfl⟩
  have hn:eM (c::r)=(qN c&&decide ((c::r).takeWhile iG=c::r)&&!sC.contains (c::r)):=by
   unfold eM;rw[bL ⟨h1,h2⟩,cO]
  refine⟨c,⟨iB _,by rw[xO];rfl⟩,(Aa w0 c).mono ?_⟩;rintro _ w2 ⟨rfl,cR⟩;have pj:=cD.cf cR;refine⟨_,rfl,cR.same (by simp;omega),fun hb hB=>?_,fun hb=>⟨by rw[hn,hb];rfl,pj⟩⟩;refine(QP (i:=0) (r:=[]) hB (bh _) hl).mono ?_;rintro _ w3 ⟨rfl,de⟩;rw[fV];have wO:aF w3 k0 223 [ab (T (c::r)),O U 0]:=(de.block k0 hB.lt (by simp)).trans hB;refine⟨_,rfl,T (c::r),0,wO,?_⟩;rw[mA];refine⟨fun he=>(Lk w3).mono ?_,fun he=>⟨?_,pj.cf de⟩⟩
  ·rintro _ w4 ⟨s,rfl,hs,dL⟩;have uh:aF w4 k0 223 [ab (T (c::r)),O U 0]:=(dL.block k0 wO.lt (by simp)).trans wO;refine⟨s,rfl,T (c::r),0,uh,(sB (vT hs) (c::r)).mono ?_⟩;rintro _ w5 ⟨rfl,eP⟩;have u7:aF w5 k0 223 [ab (T (c::r)),O U 0]:=(eP.block k0 uh.lt (by simp)).trans uh;exact⟨_,rfl,_,_,u7,by rw[hn,hb,he];rfl,pj.cf (de.cf (dL.cf eP))⟩
  ·rw[hn,hb,he];rfl
 ·unfold eM;rw[bC]
  ·rfl
  ·rintro⟨h1,h2⟩;rw[bC h1,bL (by omega)]at hc;cases hc
def gU(x:Ex):Int:=if x.k=5 then kV x.op else 6
theorem oJ{w:av}{F:aJ}{x:Ex}{cs:aI}{d:Nat}(h:xf d w F x cs):az aq 284 #[ah cs.toArray] w fun e w'=>e=ak (O U (gU x))/\ay [] w w':=by
 cases d with
 | zero=>exact h.elim
 | succ d=>
  obtain⟨sl,rfl,h⟩:=h;refine ret (alt _ _ _ _ _ _ _ _ ?_);refine⟨fun hc k0 w0 _ _ hO=>?_,fun hc k1 w1 hk iM hO=>(Ja w1 x.op).mono ?_⟩
  ·have hc:x.k≠5:=by simpa using hc
   rw[gU,if_neg hc];exact⟨rfl,hO⟩
  ·rintro _ w2 ⟨rfl,rfl⟩;have hc:x.k=5:=by simpa using hc
   rw[gU,if_pos hc];exact⟨_,rfl,fun _ _=>rfl,rfl,hO⟩
def Z8(n:Int)(s:aH)(op len:Int)(x:Ex):Bool:=((((x.n==n)&&decide (x.s=s))&&(x.op==op))&&((x.fF.length:Int)==len))
def lG(x:Ex):Bool:=
 if x.k=1 then Z8 (if 0>x.n then 0 else x.n) [] 0 0 x
 else if x.k=2∨x.k=3 then eM x.s&&Z8 0 x.s 0 0 x
 else if x.k=4 then Z8 0 [] (if x.op=15 then 15 else 14) 1 x
 else if x.k=5 then !(kV x.op==6)&&Z8 0 [] x.op 2 x
 else false
def oy(f:Ex->Bool):List Ex->Bool
 | []=>true
 | x::xs=>f x&&oy f xs
def eK:Nat->Ex->Bool
 | 0,_=>false
 | d+1,x=>lG x&&oy (eK d) x.fF
theorem NX{f:Ex->Bool}{xs:List Ex}{n:Nat}{x:Ex}(hx:xs[n]? =some x):oy f (xs.drop n)=(f x&&oy f (xs.drop (n+1))):=by
 rw[dW (aV.1 hx).1,(aV.1 hx).2,oy]
abbrev ShD(d:Nat):Prop:=∀{w:av} {F:aJ} {x:Ex} {cs:aI},Al d x->xf d w F x cs->az aq 264 #[ah cs.toArray] w fun e w'=>e=ak (aj (eK d x))/\ay [] w w'
theorem Q2{d:Nat}(hS:ShD d){w:av}{F:aJ}{x:Ex}{cs:aI}(hl:Al d x)(h:xf d w F x cs):az aq 282 #[ah cs.toArray] w fun e w'=>e=ak (aj (!eK d x))/\ay [] w w':=by
 obtain⟨sl,rfl⟩:=tJ h;refine ret (alr _ _ _ _ _ _ _ _ ?_);intro k0 w0 hk iM hO;refine(hS hl (kY h hO)).mono ?_;rintro _ w1 ⟨rfl,cr⟩;exact⟨_,rfl,cr.same (by simp;omega),rfl,hO.cf cr⟩
theorem Q4{d:Nat}(hS:ShD d){w:av}{F:aJ}{l:Sl}{xs:List Ex}(hl:∀y,y∈xs->Al d y)(h:aA (xf d) 6 w F l xs):az aq 296 #[l.v,.func (.func 282) #[] #[]] w fun e w'=>∃i:Int,e=ak (O U i)/\decide (i>=0)=!oy (eK d) xs/\ay [] w w':=by
 refine(afG l ⟨.func (.func 282) #[] #[],rfl⟩ (fun v w'=>∃i:Int,v=O U i/\decide (i>=0)=!oy (eK d) xs/\ay [] w w') w ?_).mono (by
  rintro e w' ⟨v,rfl,i,rfl,h⟩;exact⟨i,rfl,h⟩)
 have fi:=h.len;have rK:=h.big;have mU:=h.cap;refine⟨fun nv i w'=>∃n:Nat,n<=xs.length/\i=(n:Int)/\nv=xs.length-n/\oy (eK d) xs=oy (eK d) (xs.drop n)/\ay [] w w',xs.length,⟨0,bh _,rfl,rfl,rfl,Only.refl _ _⟩,?_⟩;rintro nv _ w0 ⟨n,hn,rfl,rfl,mc,cD⟩;refine⟨fun hc=>?_,fun hc=>?_⟩
 ·have bS:(n:Int)<l.n:=aO hc;obtain⟨ad,x,cs,g1,g2,g3,g4,g5,g6⟩:=(SliceF.only (jW d) (by decide) h cD (by simp)).get (bA n) bS;rw[aY]at g2;obtain⟨sl,rfl⟩:=tJ g6;refine⟨ad,g1,_,_,_,_,_,_,g5,282,[],[],rfl,fu (by kernel_rfl),?_⟩;refine(Q2 hS (hl x (bF g2)) g6).mono ?_;rintro _ w1 ⟨rfl,cr⟩;have ph:=NX (f:=eK d) g2;refine⟨_,rfl,fun hb=>⟨_,rfl,?_,cD.cf cr⟩,fun hb=>⟨xs.length-(n+1),by omega,n+1,by omega,by rw[fR (by omega) (by omega)];rfl,rfl,?_,cD.cf cr⟩⟩
  ·have hb:eK d x=false:=by simpa using hb
   rw[mc,ph,hb,dU,Bool.not_false];exact bL (bA n)
  ·have hb:eK d x=true:=by simpa using hb
   rw[mc,ph,hb,cO]
 ·have rl:¬(n:Int)<l.n:=aR hc;refine⟨_,rfl,?_,cD⟩;rw[mc,ki (by omega)];rfl
theorem GC{d:Nat}(hS:ShD d){w:av}{F:aJ}{l:Sl}{xs:List Ex}(hl:∀y,y∈xs->Al d y)(h:aA (xf d) 6 w F l xs):az aq 281 #[l.v,.func (.func 282) #[] #[]] w fun e w'=>e=ak (aj (!oy (eK d) xs))/\ay [] w w':=by
 refine ret (afF l ⟨.func (.func 282) #[] #[],rfl⟩ (fun v w'=>v=aj (!oy (eK d) xs)/\ay [] w w') w ?_);refine(Q4 hS hl h).mono ?_;rintro _ w0 ⟨i,rfl,h1,h2⟩;exact⟨_,rfl,by rw[h1],h2⟩
theorem Lz:∀d,ShD d
 | 0,_,_,_,_,_,h=>h.elim
 | d+1,w,F,x,cs,⟨hl0,hl⟩,⟨sl,h1,h2⟩=>by
  subst h1;refine ret (alq _ _ _ _ _ _ _ _ ?_);intro k0 k1 w0 gu fe j5 iX cD;have z0:=cD.size;have hn:=h2.len;have hs:∀{b:Bool},lG x=b->eK (d+1) x=(b&&oy (eK d) x.fF):=fun e=>by rw[eK,e]
  have own:∀{w1 w2:av},ay [] w w1->ay [k1] w1 w2->ay [] w w2:=fun h1 h2=>h1.new h2 j5;refine⟨fun i0 i1 i2 s0 i3 l0 i4 w1=>∃s,s0=T s/\lG x=Z8 i2 s i3 i0 x/\ay [] w w1/\w0.heap.size<=w1.heap.size,?_,fun hk w4 dL=>⟨[],rfl,?_,own cD dL,dL.size⟩,fun hk=>?_⟩
  ·rintro i0 i1 i2 _ i3 l0 i4 w1 ⟨s,rfl,he,cr,z1⟩;have hc:((((x.n==i2)&&((T x.s).toList==(T s).toList))&&(x.op==i3))&&((sl.n:Int)==i0))=lG x:=by
    rw[he,mA,hn];rfl
   rw[hc];refine⟨fun b w'=>b=eK (d+1) x/\ay [] w w',?_,fun hh=>(GC (Lz d) hl (SliceF.only (jW d) (by decide) h2 cr (by simp))).mono ?_,fun hh=>⟨by rw[hs hh,dU],cr⟩⟩
   ·rintro _ w2 ⟨rfl,h⟩;exact⟨rfl,h⟩
   ·rintro _ w3 ⟨rfl,de⟩;exact⟨_,rfl,de.same (by simp;omega),by rw[hs hh,cO,KF],cr.cf de⟩
  ·have hk:x.k=1:=by simpa using hk
   rw[lG,if_pos hk]
  ·have j5:x.k≠1:=by simpa using hk
   refine⟨fun b w'=>b=decide (x.k=2∨x.k=3)/\w'=w0,?_,fun rm=>⟨?_,rfl⟩,fun rm=>⟨?_,rfl⟩⟩
   ·rintro _ _ ⟨rfl,rfl⟩;refine⟨fun hk=>(Q1 x.s (by omega)).mono ?_,fun hk=>⟨fun Bl=>⟨fun ho w8 fy=>⟨[],rfl,?_,own cD fy,fy.size⟩,fun ho w9 fQ=>⟨[],rfl,?_,own cD fQ,fQ.size⟩⟩,fun Bl=>⟨fun C7=>(Ja _ x.op).mono ?_,fun C7=>⟨?_,cD⟩⟩⟩⟩
    ·rintro _ w6 ⟨rfl,eB⟩;have z6:=eB.size;have hk:=aO hk;refine⟨_,rfl,eB.same (by simp;omega),fun hb=>⟨?_,cD.cf eB⟩,fun hb w7 fE=>⟨x.s,rfl,?_,own (cD.cf eB) fE,by have:=fE.size;omega⟩⟩
     ·have hb:eM x.s=false:=by simpa using hb
      rw[hs (b:=false) (by rw[lG,if_neg j5,if_pos hk,hb,dU]),dU]
     ·have hb:eM x.s=true:=by simpa using hb
      rw[lG,if_neg j5,if_pos hk,hb,cO]
    ·have hk:=aR hk;have Bl:x.k=4:=by simpa using Bl
     have ho:x.op=15:=by simpa using ho
     rw[lG,if_neg j5,if_neg hk,if_pos Bl,if_pos ho]
    ·have hk:=aR hk;have Bl:x.k=4:=by simpa using Bl
     have ho:x.op≠15:=by simpa using ho
     rw[lG,if_neg j5,if_neg hk,if_pos Bl,if_neg ho]
    ·rintro _ du ⟨rfl,rfl⟩;have hk:=aR hk;have Bl:x.k≠4:=by simpa using Bl
     have C7:x.k=5:=by simpa using C7
     refine⟨_,rfl,fun _ _=>rfl,fun hb=>⟨?_,cD⟩,fun hb dC eu=>⟨[],rfl,?_,own cD eu,eu.size⟩⟩
     ·rw[hs (b:=false) (by rw[lG,if_neg j5,if_neg hk,if_neg Bl,if_pos C7,hb,Bool.not_true,dU]),dU]
     ·rw[lG,if_neg j5,if_neg hk,if_neg Bl,if_pos C7,hb,Bool.not_false,cO]
    ·have hk:=aR hk;have Bl:x.k≠4:=by simpa using Bl
     have C7:x.k≠5:=by simpa using C7
     rw[hs (b:=false) (by rw[lG,if_neg j5,if_neg hk,if_neg Bl,if_neg C7]),dU]
   ·have rm:x.k=2:=by simpa using rm
    rw[rm];rfl
   ·have rm:x.k≠2:=by simpa using rm
    rw[bX];simp[rm]
def Tb(w:av):Prop:=Lib.TabIs aq w "internal/strconv.uint64pow10" .u64 Lib.pow10Tab
theorem tb_num:Tryz.prog.globalNamed "internal/strconv.uint64pow10" =some 2:=by kernel_rfl
theorem Tb.keep{w w':av}(h:Tb w)(hk:2<w.heap.size->w'.heap[2]? =w.heap[2]?):Tb w':=by
 unfold Tb Lib.TabIs World.var? at h⊢;rw[tb_num]at h⊢;simp only[mf]at h⊢;rw[hk]
 ·exact h
 ·refine cx fun hn=>?_;rw[eU (by omega)]at h;cases h
theorem Tb.lt{w:av}(h:Tb w):2<w.heap.size:=by
 unfold Tb Lib.TabIs World.var? at h;rw[tb_num]at h;simp only[mf]at h;refine cx fun hn=>?_;rw[eU (by omega)]at h;cases h
theorem Tb.only{w w':av}(h:Tb w)(hO:ay [] w w'):Tb w':=h.keep fun bS=>hO.block _ bS (by simp)
theorem Only.grown(w:av)(k:Nat)(os:Array Obj):ay [] w (Go.Sort.grow (w.drewN k) os):=⟨rfl,rfl,rfl,by simp[Go.Sort.grow],fun q hq _=>by
 simp only[Go.Sort.grow,World.heap_drewN];rw[Array.getElem?_append_left hq]⟩
theorem yR{w:av}(n:Int)(hn:rS n)(hT:Tb w):az aq 172 #[O U n] w fun e w'=>e=ak (ab (T (Lib.itoa n)))/\ay [] w w':=by
 refine ret (v1w _ _ _ ?_);refine(Tryz.strconv_Itoa n hn.1 hn.2 w hT).mono ?_;rintro _ w0 ⟨rfl,k,os,rfl⟩;exact⟨_,rfl,rfl,Only.grown _ _ _⟩
end Go.Proofs.YtbkjcdocjfknfaaGreatDoor.Con
