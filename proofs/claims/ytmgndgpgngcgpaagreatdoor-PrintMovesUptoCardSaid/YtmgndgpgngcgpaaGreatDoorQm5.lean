import Derived.Test.YtmgndgpgngcgpaaGreatDoorQm4
set_option linter.unusedSectionVars false
set_option linter.unusedSimpArgs false
set_option linter.unusedVariables false
set_option maxHeartbeats 4000000
open Go.Value renaming int->O,string->ab,pointer->ae,agg->ah,tuple->ai,bool->aj
open Go.IntKind renaming i64->U,wrap->ar
open Go.Ending renaming returned->ak
open _root_.ByteArray renaming mk->ao
open _root_.Go.Proofs.Tryz renaming prog->aq
open Go.Instr renaming buildSlice->au
open Go renaming World->av,Value->aw,Calls->az
open Go.Kt renaming Only->ay,SliceF->aA,Cells->aB,OnlyP->aD,Blk->aF
namespace Go.Proofs.YtmgndgpgngcgpaaGreatDoor.Con
open Go Go.RowKit Go.Kt Go.Kt.V Go.Proofs.YtmgndgpgngcgpaaGreatDoor.Vc
theorem L0(t:Bool):∀(d:Nat) {e:Nat} {w:av} {F G:aJ} {x y:Ex} {cs ds:aI},rX d w F x cs->rX e w G y ds->
  az aq 80 #[ah cs.toArray,ah ds.toArray,aj t] w λr w'=>r=ak (aj (nc t d x y))/\ay [] w w'
 | 0,_,_,_,_,_,_,_,_,h,_=>h.elim
 | d+1,0,_,_,_,_,_,_,_,_,h=>h.elim
 | d+1,e+1,w,F,G,x,y,cs,ds,⟨sl,h1,h2⟩,⟨gq,h3,h4⟩=>by
  subst h1 h3;refine ret (aee _ _ _ _ _ _ _ _ _ _ _ _ _ _ _ ?_);intro k0 k1 w0 iJ dV ku jK cw;have n1:=h2.len;have n2:=h4.len;have c1:=h2.cap;have b1:=h2.big;have hcond:((((((x.k !=y.k)||(x.n !=y.n))||(!((T x.s).toList==(T y.s).toList)))||(x.op !=y.op))||(t&&(x.a !=y.a)))||((sl.n:Int) !=(gq.n:Int)))=DD t x y:=by
   rw[ju,n1,n2];rfl
  rw[hcond];refine⟨λhc=>⟨by rw[nc,aR hc],cw⟩,λhc=>?_⟩;have eu:x.dq.length=y.dq.length:=by
   unfold DD at hc;rw[eZ]at hc;have:=hc.2;simp only[bne_eq_false_iff_eq]at this;omega
  rw[nc,aO (by rw[hc];decide)];refine⟨λnv i w'=>∃n:Nat,n<=x.dq.length/\i=(n:Int)/\nv=x.dq.length-n/\Bq (nc t d) x.dq y.dq=Bq (nc t d) (x.dq.drop n) (y.dq.drop n)/\ay [] w w'/\w0.heap.size<=w'.heap.size,x.dq.length,⟨0,bm _,rfl,rfl,rfl,cw,aY _⟩,?_⟩;rintro nv _ w1 ⟨n,hn,rfl,rfl,fm,cA,z1⟩;refine⟨λcd=>?_,λnE=>?_⟩
  ·have cd:(n:Int)<(sl.n:Int):=aV cd;obtain⟨p,x1,cs1,g1,g2,g3,g4,g5,g6⟩:=(SliceF.only (ig d) aL h2 cA aM).get (bc n) cd;obtain⟨p',y1,ds1,m1,m2,m3,m4,m5,m6⟩:=(SliceF.only (ig e) aL h4 cA aM).get (i:=(n:Int)) (bc n) aE;rw[ba]at g2 m2;refine⟨p,g1,λw2 cO=>?_⟩;have hOO:=cA.cn cO;have Ci:=fy g6 cO;have m6':=fy m6 cO;have tc:∃(k n:Int) (s:aH) (o:Int) (l:Sl) (a:Int),cs1=kD k n s o l a:=by
    cases d with
    | zero=>exact g6.elim
    | succ d=>obtain⟨l,mq,_⟩:=g6;exact⟨_,_,_,_,l,_,mq⟩
   have td:∃(k n:Int) (s:aH) (o:Int) (l:Sl) (a:Int),ds1=kD k n s o l a:=by
    cases e with
    | zero=>exact m6.elim
    | succ e=>obtain⟨l,mq,_⟩:=m6;exact⟨_,_,_,_,l,_,mq⟩
   obtain⟨a1,a2,a3,a4,a5,a6,rfl⟩:=tc;obtain⟨b1,b2,b3,b4,b5,b6,rfl⟩:=td;have g5':=g5.keep (cO.block _ g5.lt aM);have m5':=m5.keep (cO.block _ m5.lt aM);refine⟨_,_,_,_,_,_,g5',p',m1,_,_,_,_,_,_,m5',(L0 t d Ci m6').mono ?_⟩;rintro _ w3 ⟨rfl,da⟩;have z2:=cO.size;have z3:=da.size;have kP:=Jn (f:=nc t d) g2 m2;refine⟨_,rfl,da.same (by
    simp;omega),λhb=>⟨?_,hOO.cn da⟩,λhb=>⟨x.dq.length-(n+1),aE,n+1,aE,aad,rfl,?_,hOO.cn da,aE⟩⟩
   ·rw[fm,kP];have hb:nc t d x1 y1=false:=aap
    rw[hb,dk]
   have hb:nc t d x1 y1=true:=aap
   rw[fm,kP,hb,bS]
  have nE:¬(n:Int)<(sl.n:Int):=aW nE;have:n=x.dq.length:=aE
  subst this;rw[fm,dj (aY _)];exact⟨rfl,cA⟩
theorem jG{d:Nat}{w:av}{F:aJ}{x:Ex}{cs:aI}(h:rX d w F x cs):∃sl:Sl,cs=kD x.k x.n x.s x.op sl x.a:=by
 cases d with
 | zero=>exact h.elim
 | succ d=>obtain⟨l,mq,_⟩:=h;exact⟨l,mq⟩
def sZ:Nat->Ex->Prop
 | 0,_=>True
 | d+1,x=>x.s.length<4611686018427387903/\∀y,y∈x.dq->sZ d y
def sL(f:Ex->Nat):List Ex->Nat
 | []=>0
 | x::xs=>f x+sL f xs
def oh:Nat->Ex->Nat
 | 0,_=>0
 | d+1,x=>1+sL (oh d) x.dq
def jz:Nat->Ex->Prop
 | 0,_=>True
 | d+1,x=>wA x.n/\∀y,y∈x.dq->jz d y
def cN(l:aH):Bool:=decide (l≠[]/\l.length<=24)&&(match l with
 | c::_=>dZ c
 | []=>false)&&decide (l.takeWhile dM=l)&&!ic.contains l
theorem L1{w:av}(l:aH)(hl:l.length<9223372036854775807):
  az aq 102 #[ab (T l)] w λe w'=>e=ak (aj (cN l))/\ay [] w w':=by
 refine ret (adT _ _ _ ?_);intro k0 w0 iJ dV cw;have e0:(ao #[])=T []:=rfl;rw[bO,e0,ju];refine⟨λb s i w'=>b=cN l/\ay [] w w',λb s i w' h=>⟨by rw[h.1],h.2⟩,λhc=>?_,λhc=>⟨?_,cw⟩⟩
 ·simp only[aP,cP,fE,bC]at hc;obtain⟨h1,h2⟩:=hc;have h2:l.length<=24:=aE
  obtain⟨c,r,rfl⟩:∃c r,l=c::r:=by
   cases l with
   | nil=>exact absurd rfl h1
   | cons c r=>exact⟨c,r,rfl⟩
  have hn:cN (c::r)=(dZ c&&decide ((c::r).takeWhile dM=c::r)&&!ic.contains (c::r)):=by
   unfold cN;rw[bE ⟨h1,h2⟩,bS]
  refine⟨c,⟨ix _,aci⟩,(xY w0 c).mono ?_⟩;rintro _ w2 ⟨rfl,cO⟩;have j6:=cw.cn cO;refine⟨_,rfl,cO.same aae,λhb hB=>?_,λhb=>⟨by rw[hn,hb];rfl,j6⟩⟩;refine(LO (i:=0) (r:=[]) hB (bm _) hl).mono ?_;rintro _ w3 ⟨rfl,da⟩;rw[eY];have sT:aF w3 k0 155 [ab (T (c::r)),O U 0]:=(da.block k0 hB.lt aM).trans hB;refine⟨_,rfl,T (c::r),0,sT,?_⟩;rw[ju];refine⟨λhe=>(Hf w3).mono ?_,λhe=>⟨?_,j6.cn da⟩⟩
  ·rintro _ w4 ⟨s,rfl,hs,dR⟩;have rD:aF w4 k0 155 [ab (T (c::r)),O U 0]:=(dR.block k0 sT.lt aM).trans sT;refine⟨s,rfl,T (c::r),0,rD,(qR (qh hs) (c::r)).mono ?_⟩;rintro _ w5 ⟨rfl,fe⟩;have vd:aF w5 k0 155 [ab (T (c::r)),O U 0]:=(fe.block k0 rD.lt aM).trans rD;exact⟨_,rfl,_,_,vd,by rw[hn,hb,he];rfl,j6.cn (da.cn (dR.cn fe))⟩
  rw[hn,hb,he];rfl
 unfold cN;rw[bq]
 ·rfl
 rintro⟨h1,h2⟩;rw[bq h1,bE aE]at hc;cases hc
def bM(x:Ex):Int:=if x.k=5 then eE x.op else 6
theorem nT{w}{F}{x}{cs}{d}(h:rX d w F x cs):az aq 236 #[ah cs.toArray] w λe w'=>e=ak (O U (bM x))/\ay [] w w':=by
 cases d with
 | zero=>exact h.elim
 | succ d=>
  obtain⟨sl,rfl,h⟩:=h;refine ret (aeb _ _ _ _ _ _ _ _ ?_);refine⟨λhc k0 w0 _ _ hO=>?_,λhc k1 w1 hk wM hO=>(FE w1 x.op).mono ?_⟩
  ·have hc:=aaf
   rw[bM,aO hc];exact⟨rfl,hO⟩
  rintro _ w2 ⟨rfl,rfl⟩;rw[bM,aR aaf];exact⟨_,rfl,λ_ _=>rfl,rfl,hO⟩
def Jo(n:Int)(s:aH)(op len:Int)(x:Ex):Bool:=((((x.n==n)&&decide (x.s=s))&&(x.op==op))&&(x.dq.length==len))
def fH(x:Ex):Bool:=
 if x.k=1 then Jo (if 0>x.n then 0 else x.n) [] 0 0 x
 else if x.k=2∨x.k=3 then cN x.s&&Jo 0 x.s 0 0 x
 else if x.k=4 then Jo 0 [] (if x.op=15 then 15 else 14) 1 x
 else if x.k=5 then !(eE x.op==6)&&Jo 0 [] x.op 2 x
 else false
def iB(f:Ex->Bool):List Ex->Bool
 | []=>true
 | x::xs=>f x&&iB f xs
def cf:Nat->Ex->Bool
 | 0,_=>false
 | d+1,x=>fH x&&iB (cf d) x.dq
theorem zX{f}{xs:List Ex}{n}{x}(hx:xs[n]? =some x):iB f (xs.drop n)=(f x&&iB f (xs.drop (n+1))):=by
 rw[fU (bd.1 hx).1,(bd.1 hx).2,iB]
abbrev ShD(d:Nat):Prop:=∀{w:av} {F:aJ} {x:Ex} {cs:aI},sZ d x->rX d w F x cs->az aq 212 #[ah cs.toArray] w λe w'=>e=ak (aj (cf d x))/\ay [] w w'
theorem L2{d}(hS:ShD d){w}{F}{x}{cs}(hl:sZ d x)(h:rX d w F x cs):az aq 234 #[ah cs.toArray] w λe w'=>e=ak (aj (!cf d x))/\ay [] w w':=by
 obtain⟨sl,rfl⟩:=jG h;refine ret (ad9 _ _ _ _ _ _ _ _ ?_);intro k0 w0 hk wM hO;refine(hS hl (fy h hO)).mono ?_;rintro _ w1 ⟨rfl,cA⟩;exact⟨_,rfl,cA.same aae,rfl,hO.cn cA⟩
theorem L3{d:Nat}(hS:ShD d){w}{F}{l}{xs}(hl:∀y,y∈xs->sZ d y)(h:aA (rX d) 6 w F l xs):az aq 250 #[l.v,.func (.func 234) #[] #[]] w λe w'=>∃i,e=ak (O U i)/\decide (i>=0)=!iB (cf d) xs/\ay [] w w':=by
 refine(YS l ⟨.func (.func 234) #[] #[],rfl⟩ (λv w'=>∃i,v=O U i/\decide (i>=0)=!iB (cf d) xs/\ay [] w w') w ?_).mono (by
  rintro e w' ⟨v,rfl,i,rfl,h⟩;exact⟨i,rfl,h⟩)
 have eu:=h.len;have pq:=h.big;have nD:=h.cap;refine⟨λnv i w'=>∃n,n<=xs.length/\i=n/\nv=xs.length-n/\iB (cf d) xs=iB _ (xs.drop n)/\ay [] w w',xs.length,⟨0,bm _,rfl,rfl,rfl,Only.refl _ _⟩,?_⟩;rintro nv _ w0 ⟨n,hn,rfl,rfl,fm,cw⟩;refine⟨λhc=>?_,λhc=>?_⟩
 ·have cd:(n:Int)<l.n:=aV hc;obtain⟨ad,x,cs,g1,g2,g3,g4,g5,g6⟩:=(SliceF.only (ig d) aL h cw aM).get (bc n) cd;rw[ba]at g2;obtain⟨sl,rfl⟩:=jG g6;refine⟨ad,g1,_,_,_,_,_,_,g5,234,[],[],rfl,ky (by kernel_rfl),?_⟩;refine(L2 hS (hl x (bF g2)) g6).mono ?_;rintro _ w1 ⟨rfl,cA⟩;have kP:=zX (f:=cf d) g2;refine⟨_,rfl,λhb=>⟨_,rfl,?_,cw.cn cA⟩,λhb=>⟨xs.length-_,aE,n+1,aE,aad,rfl,?_,cw.cn cA⟩⟩
  ·have hb:cf d x=false:=aap
   rw[fm,kP,hb,dk,zG];exact bE (bc n)
  have hb:cf d x=true:=aap
  rw[fm,kP,hb,bS]
 have nE:=aW hc;refine⟨_,rfl,?_,cw⟩;rw[fm,dj aE];rfl
theorem DE{d}(hS:ShD d){w}{F}{l}{xs}(hl:∀y,y∈xs->sZ d y)(h:aA (rX d) 6 w F l xs):az aq 233 #[l.v,.func (.func 234) #[] #[]] w λe w'=>e=ak (aj (!iB (cf d) xs))/\ay [] w w':=by
 refine ret (YR l ⟨.func _ #[] #[],rfl⟩ _ w ?_);refine(L3 hS hl h).mono ?_;rintro _ w0 ⟨i,rfl,h1,h2⟩;exact⟨_,rfl,by rw[h1],h2⟩
theorem Hl:∀d,ShD d
 | 0,_,_,_,_,_,h=>h.elim
 | d+1,w,F,x,cs,⟨Z1,hl⟩,⟨sl,h1,h2⟩=>by
  subst h1;refine ret (ad7 _ _ _ _ _ _ _ _ ?_);intro k0 k1 w0 iJ dV ku jK cw;have hs:∀{b:Bool},fH x=b->cf (d+1) x=_:=λe=>by rw[cf,e]
  have own:∀{w1 w2:av},ay [] w w1->ay [k1] w1 w2->ay [] w w2:=λh1 h2=>h1.new h2 ku;refine⟨λi0 i1 i2 s0 i3 l0 i4 w1=>∃s,s0=T s/\fH x=Jo i2 s i3 i0 x/\ay [] w w1/\w0.heap.size<=w1.heap.size,?_,λhk w4 dR=>⟨[],rfl,?_,own cw dR,dR.size⟩,λhk=>?_⟩
  ·rintro i0 i1 i2 _ i3 l0 i4 w1 ⟨s,rfl,he,cA,z1⟩;have hc:((((x.n==i2)&&((T x.s).toList==(T s).toList))&&(x.op==i3))&&((sl.n:Int)==i0))=fH x:=by
    rw[he,ju,h2.len];rfl
   rw[hc];refine⟨λb w'=>b=cf _ x/\ay [] w w',?_,λhh=>(DE (Hl d) hl (SliceF.only (ig d) aL h2 cA aM)).mono ?_,λhh=>⟨by rw[hs hh,dk],cA⟩⟩
   ·rintro _ w2 ⟨rfl,h⟩;exact⟨rfl,h⟩
   rintro _ w3 ⟨rfl,da⟩;exact⟨_,rfl,da.same aae,by rw[hs hh,bS,Bool.not_not],cA.cn da⟩
  ·have hk:=aak
   rw[fH,aR hk]
  have ku:=aak
  refine⟨λb w'=>b=decide (x.k=2∨x.k=3)/\w'=w0,?_,λqw=>⟨?_,rfl⟩,λqw=>⟨?_,rfl⟩⟩
  ·rintro _ _ ⟨rfl,rfl⟩;refine⟨λhk=>(L1 x.s aE).mono ?_,λhk=>⟨λsV=>⟨λho w8 gp=>⟨[],rfl,?_,own cw gp,gp.size⟩,λho w9 gr=>⟨[],rfl,?_,own cw gr,gr.size⟩⟩,λsV=>⟨λoy=>(FE _ x.op).mono ?_,λoy=>⟨?_,cw⟩⟩⟩⟩
   ·rintro _ w6 ⟨rfl,ez⟩;have z6:=ez.size;have hk:=aV hk;refine⟨_,rfl,ez.same aae,λhb=>⟨?_,cw.cn ez⟩,λhb w7 gD=>⟨x.s,rfl,?_,own (cw.cn ez) gD,by have:=gD.size;omega⟩⟩
    ·have hb:=aap
     rw[hs (b:=false) (by rw[fH,aO ku,aR hk,hb,dk]),dk]
    have hb:=aap
    rw[fH,aO ku,aR hk,hb,bS]
   ·have hk:=aW hk;have sV:=aa7
    have ho:=acu
    rw[fH,aO ku,aO hk,aR sV,aR ho]
   ·have hk:=aW hk;have sV:=aa7
    rw[fH,aO ku,aO hk,aR sV,aO acu]
   ·rintro _ dz ⟨rfl,rfl⟩;have hk:=aW hk;have sV:=aa7
    have oy:=acw
    refine⟨_,rfl,λ_ _=>rfl,λhb=>⟨?_,cw⟩,λhb dJ dW=>⟨[],rfl,?_,own cw dW,dW.size⟩⟩
    ·rw[hs (b:=false) (by rw[fH,aO ku,aO hk,aO sV,aR oy,hb,Bool.not_true,dk]),dk]
    rw[fH,aO ku,aO hk,aO sV,aR oy,hb,zG,bS]
   have sV:=aa7
   have oy:=acw
   rw[hs (b:=false) (by rw[fH,aO ku,aO (aW hk),aO sV,aO oy]),dk]
  ·have qw:=acx
   rw[qw];rfl
  rw[bH];simp[by simpa using qw]
def Tb(w:av):Prop:=Lib.TabIs aq w "internal/strconv.uint64pow10" .u64 Lib.pow10Tab
theorem tb_num:Tryz.prog.globalNamed "internal/strconv.uint64pow10" =some 3:=by kernel_rfl
theorem Tb.keep{w w'}(h:Tb w)(hk:3<w.heap.size->w'.heap[3]? =w.heap[3]?):Tb w':=by
 unfold Tb Lib.TabIs World.var? at h⊢;rw[tb_num]at h⊢;simp at h⊢;rw[hk]
 ·exact h
 refine bD λhn=>?_;rw[fL aE]at h;cases h
theorem Tb.lt{w}(h:Tb w):3<w.heap.size:=by
 unfold Tb Lib.TabIs World.var? at h;rw[tb_num]at h;simp at h;refine bD λhn=>?_;rw[fL aE]at h;cases h
theorem Tb.only{w w'}(h:Tb w)(hO:ay [] w w'):Tb w':=h.keep λcd=>hO.block _ cd aM
theorem Only.grown w k os:ay [] w (Go.Sort.grow (w.drewN k) os):=⟨rfl,rfl,rfl,aM,λq hq _=>by
 simp[Go.Sort.grow,World.heap_drewN];rw[Array.getElem?_append_left hq]⟩
theorem xa{w} n (hn:wA n) (hT:Tb w):az aq 56 #[O U n] w λe w'=>e=ak (ab (T (Lib.itoa n)))/\ay [] w w':=by
 refine ret (v1w _ _ _ ?_);refine(Tryz.strconv_Itoa n hn.1 hn.2 w hT).mono ?_;rintro _ w0 ⟨rfl,k,os,rfl⟩;exact⟨_,rfl,rfl,Only.grown _ _ _⟩
def Bf(w:av)(B:Nat)(s:Sl)(l:aH):Prop:=
 (s=Sl.nil/\l=[])∨∃g tail,s.a=some ⟨g,0,none⟩/\B<=g/\aF w g 5 (l.map fG++tail)/\tail.length=s.c-s.n/\s.n=l.length/\s.n<=s.c/\s.c<=9223372036854775807/\0<s.c
theorem Bf.len{w:av}{B:Nat}{s:Sl}{l:aH}(h:Bf w B s l):s.n=l.length:=by
 rcases h with⟨rfl,rfl⟩ | ⟨g,tail,_,_,_,_,h,_⟩
 ·rfl
 exact h
theorem Bf.lt{w:av}{B:Nat}{s:Sl}{l:aH}(h:Bf w B s l){g:Nat}(hg:s.a=some ⟨g,0,none⟩):B<=g/\g<w.heap.size:=by
 rcases h with⟨rfl,rfl⟩ | ⟨g',tail,h1,h2,h3,_⟩
 ·cases hg
 rw[hg]at h1;injection h1 with h1;injection h1 with h1;subst h1;exact⟨h2,h3.lt⟩
theorem Bf.keep{w w':av}{B:Nat}{s:Sl}{l:aH}(h:Bf w B s l)(hk:∀g,s.a=some ⟨g,0,none⟩->g<w.heap.size->w'.heap[g]? =w.heap[g]?):Bf w' B s l:=by
 rcases h with h | ⟨g,tail,h1,h2,h3,h4⟩
 ·exact .inl h
 exact .inr ⟨g,tail,h1,h2,(hk g h1 h3.lt).trans h3,h4⟩
theorem Y3(l:aH):Lib.strCells (T l)=l.map fG:=rfl
theorem yq:Tryz.prog.underlying 112=some (.slice 5):=by kernel_rfl
theorem Ua:Tryz.prog.underlying 9=some .string:=by kernel_rfl
theorem Bs:Tryz.prog.info? 5=some Tryz.t5:=by kernel_rfl
theorem xb{w:av}{B:Nat}{s:Sl}{l:aH}(h:Bf w B s l)(m:aH)(hB:B<=w.heap.size)(hm:l.length+m.length<=140737488355328):
  ∃s' w',(Builtin.append_ #[112,9] 112 #[s.v,ab (T m)]).run aq w=.ok s'.v w'/\Bf w' B s' (l++m)/\aD (λk=>s.a=some ⟨k,0,none⟩) w w'/\(s'.a=s.a∨s'.a=some ⟨w.heap.size,0,none⟩):=by
 have ht:=yq;have hu:=Ua;have hi:=Bs;have NG:Tryz.t5.size=1:=rfl;have yZ:Tryz.t5.bytes=1:=rfl;have hz:Tryz.t5.zero=some (.int .u8 0):=rfl;have hsz:(T m).size=m.length:=bO m;have grown:∀(fj Ky:Nat),fj=l.length+m.length->0<l.length+m.length->∀cells:Array aw,cells=((l++m).map fG).toArray++Builtin.zeroCells (Value.int .u8 0).cells (grownCap w fj Ky 5-fj)->
   Bf (w.drew.alloc (.cells cells 5)) B ⟨some ⟨w.heap.size,0,none⟩,fj,grownCap w fj Ky 5⟩ (l++m)/\aD (λk=>s.a=some ⟨k,0,none⟩) w (w.drew.alloc (.cells cells 5)):=by
  rintro fj Ky rfl h0 cells rfl;have hO:ay [] w (w.drew.alloc (.cells (((l++m).map fG).toArray++Builtin.zeroCells (Value.int .u8 0).cells (grownCap w (l.length+m.length) Ky 5-(l.length+m.length))) 5)):=(Only.drew w).cn (Only.alloc _ _);refine⟨.inr ⟨w.heap.size,(Builtin.zeroCells (Value.int .u8 0).cells (grownCap w (l.length+m.length) Ky 5-(l.length+m.length))).toList,rfl,hB,?_,?_,aM,grownCap_ge _ _ _ _,grownCap_le_maxLen _ _ _ _ (by simp only[maxLen];omega),cj h0 (grownCap_ge _ _ _ _)⟩,hO.p0⟩
  ·have e:∀(x:aI) (z:Array aw),x.toArray++z=(x++z.toList).toArray:=λx z=>aM
   rw[e];exact Blk.alloc w.drew 5 _
  exact(CS w _ (size:=1) rfl).trans (tW _)
 rcases h with⟨rfl,rfl⟩ | ⟨g,tail,h1,h2,h3,h4,h5,h6,h7,h8⟩
 ·cases m with
  | nil=>
   refine⟨Sl.nil,w,?_,.inl ⟨rfl,rfl⟩,OnlyP.refl _ _,.inl rfl⟩;have hf:=Lib.run_firstCells_string (P:=aq) w 1 (T []);have h0:(T []).size=0:=rfl;rw[h0]at hf;simp[Sl.nil,Sl.v,Builtin.append_,run_underlying ht,run_underlying hu,sizeOf,typeInfo,hi,NG,Builtin.lenOf,h0,hf]
  | cons c m=>
   have hr:=run_append_nil_string (P:=aq) w 112 9 112 5 Tryz.t5 (.int .u8 0) ht hu hi hz (T (c::m)) (by rw[hsz];simp) acG (by rw[hsz,yZ];omega);rw[hsz]at hr;obtain⟨g1,g2⟩:=grown (c::m).length 0 aM aM _ rfl;have e1:(T (c::m)).data.map (λb=>Value.int .u8 b.toNat)=(List.map fG ([]++c::m)).toArray:=by
    apply Kl.1;rw[Array.toList_map,ij];rfl
   rw[e1]at hr;exact⟨_,_,hr,g1,g2,.inr rfl⟩
 obtain⟨sa,sn,sc⟩:=s;dsimp only at h1 h4 h5 h6 h7 h8;subst h1;by_cases po:sn+m.length<=sc
 ·have Vk:=h3;unfold aF at h3;have hr:=Lib.run_append_room_string (P:=aq) w 112 9 112 5 Tryz.t5 ht hu hi NG g sn sc _ h3 (T m) (by rw[hsz];exact po) (by
   rw[hsz,nN,aN,bX];omega)
  rw[hsz,Y3]at hr;refine⟨⟨some ⟨g,0,none⟩,sn+m.length,sc⟩,_,hr,.inr ⟨g,tail.drop m.length,rfl,h2,?_,?_,by dsimp only;rw[aN];omega,po,h7,h8⟩,(Only.setRow w g _).p λx hx=>.inl (by simp only[aQ]at hx;rw[hx]),.inl rfl⟩
  ·have:=Vk.setRow ((l++m).map fG++tail.drop m.length);have e:((l.map fG++tail).toArray.toList.take sn++m.map fG++(l.map fG++tail).toArray.toList.drop (sn+m.length))=(l++m).map fG++tail.drop m.length:=by
    rw[ij,KK abI,bU abI,Ki,dj abI,cp,bX,dx,h5,dI]
   rw[e];exact this
  rw[bW];dsimp only;omega
 have Oc:∀j v,(l.map fG)[j]? =some v->w.cell? ((⟨g,0,none⟩:Addr).add j)=some v:=λj v hj=>h3.cells 0 (l.map fG) (λj v hj=>aaV) j v hj;have hr:=Lib.run_append_grow_string (P:=aq) w 112 9 112 5 Tryz.t5 (.int .u8 0) ht hu hi hz ⟨g,0,none⟩ sn sc (l.map fG) (by rw[NG,bX];omega) Oc (T m) acG acG (growslice_fits acG (by rw[hsz,yZ];omega));rw[hsz,Y3]at hr;obtain⟨g1,g2⟩:=grown (sn+m.length) sc aE aE _ rfl;refine⟨_,_,hr.trans ?_,g1,g2,.inr rfl⟩;simp[dx]
theorem Si(w:av)(F:aJ):∀l:aH,nJ jT 1 w F l (l.map λb=>[fG b])
 | []=>trivial
 | c::l=>⟨⟨rfl,rfl⟩,Si w F l⟩
theorem L4:∀l:aH,(l.map λb=>[fG b]).flatten=l.map fG
 | []=>rfl
 | c::l=>by rw[bG,dw,L4 l];rfl
theorem DF{w:av}{F:aJ}:∀{l:aH} {css:List (aI)},nJ jT 1 w F l css->css.flatten=l.map fG
 | [],[],_=>rfl
 | c::l,d::css,h=>by
  obtain⟨⟨_,h1⟩,h2⟩:=h;unfold jT at h1;subst h1;rw[dw,DF h2];rfl
theorem Bf.own{w:av}{B:Nat}{s:Sl}{l:aH}(h:Bf w B s l)(F:aJ):Own jT 1 5 B w F s l:=by
 rcases h with h | ⟨g,tail,h1,h2,h3,h4,h5,h6,h7,_⟩
 ·exact .inl h
 exact .inr ⟨g,l.map λb=>[fG b],tail,h1,h2,by rw[L4];exact h3,by rw[tW];exact h4,h5,h6,h7,Si _ _ _⟩
theorem Bf.of{w:av}{B:Nat}{s:Sl}{l:aH}{F:aJ}(h:Own jT 1 5 B w F s l)(h0:0<l.length):Bf w B s l:=by
 rcases h with h | ⟨g,css,tail,h1,h2,h3,h4,h5,h6,h7,h8⟩
 ·exact .inl h
 exact .inr ⟨g,tail,h1,h2,by rw[<-DF h8];exact h3,by rw[h4,tW],h5,h6,h7,aE⟩
structure Pg (G:aJ) (w:av) (b:Nat) (sl sn:Sl) (l:aH):Prop where
 blk:∃q:Option Addr,(q=none∨q=some ⟨b,0,none⟩)/\aF w b 265 [ae q,sl.v,sn.v]
 buf:Bf w (b+1) sl l
 sig:aA jR 1 w G sn qp
 hG:∀k,G k->k<b
def iI(b:Nat)(sl:Sl)(w:av)(gq:Sl)(w':av):Prop:=aD (λk=>k=b∨sl.a=some ⟨k,0,none⟩) w w'/\∀k,gq.a=some ⟨k,0,none⟩->sl.a=some ⟨k,0,none⟩∨w.heap.size<=k
theorem iI.refl(b:Nat)(sl:Sl)(w:av):iI b sl w sl w:=⟨OnlyP.refl _ _,λ_ h=>.inl h⟩
theorem iI.trans{b:Nat}{sl gq Ka:Sl}{w w' sD:av}(h:iI b sl w gq w')(k:iI b gq w' Ka sD):iI b sl w Ka sD:=by
 have z:=h.1.size;refine⟨h.1.trans k.1 λx hx=>?_,λx hx=>?_⟩
 ·rcases hx with hx | hx
  ·exact .inl (.inl hx)
  rcases h.2 x hx with e | e
  ·exact .inl (.inr e)
  exact .inr e
 rcases k.2 x hx with e | e
 ·exact h.2 x e
 exact .inr aE
theorem iI.only{b:Nat}{sl:Sl}{w w':av}(h:ay [] w w'):iI b sl w sl w':=⟨h.p0,λ_ h=>.inl h⟩
theorem iI.same{b:Nat}{sl gq:Sl}{w w':av}(h:iI b sl w gq w'){k:Nat}(hk:k≠b)(hs:sl.a≠some ⟨k,0,none⟩)(hl:k<w.heap.size):cb [k] w w':=h.1.same (by
 intro x hx;simp only[aQ]at hx;subst hx;exact⟨hl,λe=>e.elim hk hs⟩)
theorem Pg.only{G:aJ}{w w':av}{b:Nat}{sl sn:Sl}{l:aH}(h:Pg G w b sl sn l)(hO:ay [] w w'):Pg G w' b sl sn l:=by
 obtain⟨q,hq,hB⟩:=h.blk;exact⟨⟨q,hq,hO.blk hB aM⟩,h.buf.keep λg _ hl=>hO.block g hl aM,SliceF.only db aL h.sig hO aM,h.hG⟩
theorem Pg.lb{G:aJ}{w:av}{b:Nat}{sl sn:Sl}{l:aH}(h:Pg G w b sl sn l):b<w.heap.size:=by
 obtain⟨q,hq,hB⟩:=h.blk;exact hB.lt
theorem Sj(v:aw)(w:av):(Jd 178 #[v]).run aq w=.ok v w:=by
 unfold Jd;rw[Sem.run_bind,run_callFunc_extern Tryz.func178 (by kernel_rfl) (by kernel_rfl) (by kernel_rfl) (e:=Extern.AbiNoEscape.same) (by kernel_rfl)];rw[Lib.run_noEscape];rfl
theorem Hm{w:av}{b:Nat}{q:Option Addr}{sl sn:Sl}(hq:q=none∨q=some ⟨b,0,none⟩)(h:aF w b 265 [ae q,sl.v,sn.v]):
  az aq 142 #[ae (some ⟨b,0,none⟩)] w λe w'=>e=ak (ai #[])/\ay [b] w w'/\aF w' b 265 [ae (some ⟨b,0,none⟩),sl.v,sn.v]:=by
 refine ret (Se _ _ _ ?_);have qm:w.shape? b=some (265,3):=by
  unfold World.shape?;unfold aF at h;rw[h];rfl
 refine⟨q,Blk.eo h 0 rfl,λhn=>?_,λhn=>⟨q,Blk.eo h 0 rfl,?_⟩⟩
 ·have hr1:=Lib.run_to_unsafe (P:=aq) (src:=111) (dst:=230) w ⟨b,0,none⟩ (t:=114) (j:=Tryz.t114) (by kernel_rfl) (by kernel_rfl) (by kernel_rfl) aL qm (by decide:(0:Nat)<3);have hr2:=Lib.run_from_unsafe (P:=aq) (src:=230) (dst:=111) w ⟨b,0,none⟩ (u:=114) (j:=Tryz.t114) (by kernel_rfl) (by kernel_rfl) (by kernel_rfl) qm (by kernel_rfl);exact⟨⟨ae (some ⟨b,0,none⟩),rfl⟩,w,hr1,⟨ae (some ⟨b,0,none⟩),rfl⟩,w,Sj _ w,some ⟨b,0,none⟩,w,hr2,b,0,_,_,rfl,h,aM,λw3 hO hB=>⟨rfl,hO,hB⟩⟩
 rcases hq with rfl | rfl
 ·cases hn
 exact⟨false,w,Lib.run_neq_ptr_same w _ (te:=114) (j:=Tryz.t114) (by kernel_rfl) (by kernel_rfl),λe=>abW,λ_=>⟨rfl,Only.refl _ _,h⟩⟩
section
variable {G:aJ} {w:av} {b:Nat} {sl sn:Sl} {l:aH}
theorem Ub(h:Pg G w b sl sn l):az aq 108 #[ae (some ⟨b,0,none⟩)] w λe w'=>e=ak (O U (l.length:Int))/\w'=w:=by
 refine ret (Sc _ _ _ ?_);obtain⟨q,hq,hB⟩:=h.blk;exact⟨sl,Blk.eo hB 1 rfl,by rw[h.buf.len],rfl⟩
theorem ol(h:Pg G w b sl sn l)(m:aH)(hm:l.length+m.length<=140737488355328):az aq 99 #[ae (some ⟨b,0,none⟩),ab (T m)] w λe w'=>
  ∃gq,e=ak (ai #[O U (m.length:Int),.nilIface])/\Pg G w' b gq sn (l++m)/\iI b sl w gq w':=by
 refine(Sd ⟨b,0,none⟩ (T m) (λv w'=>∃gq,v=ai #[O U (m.length:Int),.nilIface]/\Pg G w' b gq sn (l++m)/\iI b sl w gq w') w ?_).mono (by
  rintro e w' ⟨v,rfl,s,rfl,h⟩;exact⟨s,rfl,h⟩)
 obtain⟨q,hq,hB⟩:=h.blk;refine(Hm hq hB).mono ?_;rintro _ w0 ⟨rfl,cw,AB⟩;have z0:=cw.size;have hb:=hB.lt;have uV:Bf w0 (b+1) sl l:=h.buf.keep λg hg hl=>cw.block g hl (by have:=(h.buf.lt hg).1;simp;omega);obtain⟨s',w1,k1,k2,k3,k4⟩:=xb uV m aE hm;have z1:=k3.size;have pv:aF w1 b 265 [ae (some ⟨b,0,none⟩),sl.v,sn.v]:=k3.blk AB λe=>ab5
 have AA:∀g,s'.a=some ⟨g,0,none⟩->b<g:=λg hg=>by
  rcases k4 with e | e
  ·rw[e]at hg;exact(uV.lt hg).1
  rw[e]at hg;injection hg with hg;injection hg with hg;omega
 refine⟨rfl,sl,Blk.eo AB 1 rfl,s',w1,k1,b,1,_,_,rfl,pv,aM,λw2 cO kQ=>⟨s',by rw[bO],⟨⟨_,.inr rfl,kQ⟩,k2.keep λg hg hl=>cO.block g hl abh,?_,h.hG⟩,?_,?_⟩⟩
 ·have h0:=SliceF.only db aL h.sig cw λk hk _ hm=>aav
  have h1:=SliceF.Aw db aL h0 k3 λk hk _ hm=>by have:=h.hG k hk;have:=(uV.lt hm).1;omega
  exact SliceF.only db aL h1 cO λk hk _ hm=>aav
 ·refine((cw.p (F:=λk=>k=b∨sl.a=some ⟨k,0,none⟩) λx hx=>.inl (.inl aas)).trans k3 λk hk=>.inl (.inr hk)).trans (cO.p (F:=λk=>k=b) λx hx=>.inl aas) λk hk=>.inl (.inl hk)
 intro k hk;rcases k4 with e | e
 ·rw[e]at hk;exact .inl hk
 rw[e]at hk;injection hk with hk;injection hk with hk;exact .inr aE
theorem Sk(h:Pg G w b sl sn l)(c:UInt8)(hm:l.length+1<=140737488355328):Hc ⟨b,0,none⟩ (c.toNat:Int) (λv w'=>∃gq,v=.nilIface/\Pg G w' b gq sn (l++[c])/\iI b sl w gq w') w:=by
 unfold Hc;obtain⟨q,hq,hB⟩:=h.blk;refine(Hm hq hB).mono ?_;rintro _ w0 ⟨rfl,cw,AB⟩;have z0:=cw.size;have hb:=hB.lt;have uV:Bf w0 (b+1) sl l:=h.buf.keep λg hg hl=>cw.block g hl (by have:=(h.buf.lt hg).1;simp;omega);obtain⟨y,w1,k1,k2,k3,_⟩:=pL w0 [c] (n:=1) (parts:=#[(0,.int .u8 (c.toNat:Int))]) rfl rfl aL aL;have z1:=k3.size;have aaQ:Bf w1 (b+1) sl l:=uV.keep λg hg hl=>k3.block g hl aM;obtain⟨s',w2,m1,m2,gs,m3,m4,m5⟩:=wS (P:=aq) (t:=112) (ty:=112) (e:=5) (i:=Tryz.t5) (bytes:=1) (size:=1) (r:=jT) yq Bs rfl rfl rfl rfl oI (aaQ.own λ_=>True) ((um k2).mono oI λk hk=>⟨trivial,λe=>by have:=(uV.lt e).2;have:=hk.1;omega⟩) aE ack aL;have z2:=m3.size;have cO:aD (λk=>sl.a=some ⟨k,0,none⟩) w1 w2:=m3.p λx hx=>.inl (m4 x hx).1;have kQ:aF w2 b 265 [ae (some ⟨b,0,none⟩),sl.v,sn.v]:=cO.blk (k3.blk AB aM) λe=>ab5
 have AA:∀g,s'.a=some ⟨g,0,none⟩->b<g:=λg hg=>by
  rcases m5 with e | e
  ·rw[e]at hg;exact(uV.lt hg).1
  rw[e]at hg;injection hg with hg;injection hg with hg;omega
 refine⟨rfl,sl,Blk.eo AB 1 rfl,y,w1,k1,s',w2,m1,b,1,_,_,rfl,kQ,aM,λw3 da sT=>⟨s',rfl,⟨⟨_,.inr rfl,sT⟩,(Bf.of m2 aM).keep λg hg hl=>da.block g hl abh,?_,h.hG⟩,?_,?_⟩⟩
 ·have h0:=SliceF.only db aL h.sig (cw.cn k3) λk hk _ hm=>aav
  have h1:=SliceF.Aw db aL h0 cO λk hk _ hm=>by have:=h.hG k hk;have:=(uV.lt hm).1;omega
  exact SliceF.only db aL h1 da λk hk _ hm=>aav
 ·refine(((cw.cn k3).p (F:=λk=>k=b∨sl.a=some ⟨k,0,none⟩) λx hx=>.inl (.inl aas)).trans cO λk hk=>.inl (.inr hk)).trans (da.p (F:=λk=>k=b) λx hx=>.inl aas) λk hk=>.inl (.inl hk)
 intro k hk;rcases m5 with e | e
 ·rw[e]at hk;exact .inl hk
 rw[e]at hk;injection hk with hk;injection hk with hk;exact .inr aE
theorem Ql(h:Pg G w b sl sn l)(c:UInt8)(hm:l.length+1<=140737488355328):az aq 235 #[ae (some ⟨b,0,none⟩),.int .u8 (c.toNat:Int)] w λe w'=>
 ∃gq,e=ak .nilIface/\Pg G w' b gq sn (l++[c])/\iI b sl w gq w':=(YU _ _ _ w (Sk h c hm)).mono (by
 rintro e w' ⟨v,rfl,s,rfl,h⟩;exact⟨s,rfl,h⟩)
theorem Qm(h:Pg G w b sl sn l)(c:UInt8)(hm:l.length+1<=140737488355328):ke aq 235 #[ae (some ⟨b,0,none⟩),.int .u8 (c.toNat:Int)] w λv w'=>
 ∃gq,v=.nilIface/\Pg G w' b gq sn (l++[c])/\iI b sl w gq w':=mf _ _ _ w (Sk h c hm)
structure Pt (w:av) (b:Nat) (sl:Sl) (l:aH):Prop where
 blk:∃q sn:aw,aF w b 265 [q,sl.v,sn]
 len:sl.n=l.length
 some:l≠[]->∃g,sl.a=.some ⟨g,0,none⟩/\b<g/\sl.c≠0/\(∃n,w.shape? g=.some (5,n)/\l.length<=n)/\aB w ⟨g,0,none⟩ (l.map fG)
 cap:sl.a=none∨sl.c≠0
 big:l.length<=9223372036854775807
theorem yr{w w':av}{g:Nat}(h:w'.heap[g]? =w.heap[g]?):w'.shape? g=w.shape? g:=by
 unfold World.shape?;rw[h]
theorem Pt.only{w':av}(h:Pt w b sl l)(hO:ay [] w w'):Pt w' b sl l:=by
 obtain⟨⟨q,sn,h1⟩,h2,h3,h4,h5⟩:=h;refine⟨⟨q,sn,hO.blk h1 aM⟩,h2,λhl=>?_,h4,h5⟩;obtain⟨g,a1,a2,a3,⟨n,a4,a5⟩,a6⟩:=h3 hl;have hg:g<w.heap.size:=by
  refine bD λhn=>?_;unfold World.shape? at a4;rw[fL aE]at a4;cases a4
 have hk:=hO.block g hg aM;exact⟨g,a1,a2,a3,⟨n,(yr hk).trans a4,a5⟩,a6.keep hk⟩
theorem Pg.pt(h:Pg G w b sl sn l):Pt w b sl l:=by
 obtain⟨q,hq,hB⟩:=h.blk;refine⟨⟨_,_,hB⟩,h.buf.len,λhl=>?_,?_,?_⟩
 ·rcases h.buf with⟨_,e⟩ | ⟨g,tail,h1,h2,h3,h4,h5,h6,h7,h8⟩
  ·exact absurd e hl
  have h0:l.length≠0:=λe=>hl (bA e);refine⟨g,h1,h2,aE,⟨_,by unfold World.shape?;unfold aF at h3;rw[h3],aM⟩,h3.cells 0 (l.map fG) λj v hj=>aaV⟩
 ·rcases h.buf with⟨e,_⟩ | ⟨g,tail,h1,h2,h3,h4,h5,h6,h7,h8⟩
  ·exact .inl (by rw[e])
  exact .inr aE
 rcases h.buf with⟨_,e⟩ | ⟨g,tail,h1,h2,h3,h4,h5,h6,h7⟩
 ·subst e;simp
 omega
end
theorem uv(w:av)(p:Addr)(n:Nat)(a:Nat):(w.freeze p n).shape? a=w.shape? a:=by
 unfold World.freeze;split
 ·rfl
 unfold World.shape?;simp only[yT];by_cases Ru:p.block=a
 ·rw[aR Ru];cases h:w.heap[a]? with
  | none=>rfl
  | some o=>
   cases o with
   | cells c e f=>obtain⟨lo,hi⟩:=f;rfl
   | _=>rfl
 rw[aO Ru]
section
variable {w:av} {b:Nat} {sl:Sl} {l:aH}
theorem L5(h:Pt w b sl l):az aq 59 #[ae (some ⟨b,0,none⟩)] w λe w'=>e=ak (ab (T l))/\Pt w' b sl l/\aD (λk=>b<k/\sl.a=some ⟨k,0,none⟩) w w':=by
 refine ret (Sf _ _ _ ?_);intro w0 cw;have h0:=h.only cw;obtain⟨⟨q,sn,hB⟩,eu,EH,nD,pq⟩:=h0;refine⟨λk=>k=b,sl,Blk.eo hB 1 rfl,rfl,sl,Blk.eo hB 1 rfl,sl.a,w0,?_,λk _ _=>rfl,?_⟩
 ·obtain⟨sa,sn',sc⟩:=sl;cases sa with
  | none=>exact Lib.run_unsafeSliceData_nil _ _ _ _ _
  | some a=>
   rcases nD with e | e
   ·cases e
   exact Lib.run_unsafeSliceData_row _ _ _ _ _ _ e
 by_cases hl:l=[]
 ·subst hl;have hn:sl.n=0:=eu;refine⟨T [],w0,?_,λk _ _=>rfl,rfl,⟨⟨q,sn,hB⟩,eu,EH,nD,pq⟩,cw.p0⟩;rw[hn];exact Lib.run_unsafeString_none _ _ _ _ _
 obtain⟨g,ha,N1,hc,⟨m,qm,hm⟩,tR⟩:=EH hl;have hF:=qT w0 ⟨g,0,none⟩ l.length;have IH:b<w0.heap.size:=hB.lt;refine⟨T l,w0.freeze ⟨g,0,none⟩ l.length,?_,λk hk cd=>hF.block k cd aaq,rfl,⟨⟨q,sn,hF.blk hB aaq⟩,eu,λ_=>⟨g,ha,N1,hc,⟨m,(uv _ _ _ _).trans qm,hm⟩,λj v hj=>by rw[qS];exact tR j v hj⟩,nD,pq⟩,cw.CA (hF.mono λk _ hk=>by dsimp only at hk;subst hk;exact⟨N1,ha⟩)⟩;rw[ha,eu];exact Lib.run_unsafeString_row _ _ _ _ 5 (by kernel_rfl) (by kernel_rfl) g m qm l hl hm pq λj x hj=>tR j (fG x) (by rw[cR,hj];rfl)
end
def opn(wr:Bool)(l:aH):aH:=if wr then l++[40]else l
def clo(wr:Bool)(l:aH):aH:=if wr then l++[41]else l
def mF:Nat->Ex->Bool->aH->aH
 | 0,_,_,l=>l
 | d+1,x,wr,l=>if 16384<l.length then l else clo wr (
  if x.k=1 then opn wr l++Lib.itoa x.n
  else if x.k=2 then opn wr l++x.s
  else if x.k=3 then opn wr l++([105,110,40]++x.s++[41])
  else if x.k=4 then(match x.dq with
   | [y]=>mF d y (decide (bM y<6)) (opn wr l++dl x.op.toNat)
   | _=>l)
  else(match x.dq with
   | [y,z]=>mF d z (decide (bM z<=bM x)) (mF d y (decide (bM y<bM x)) (opn wr l)++([32]++dl x.op.toNat++[32]))
   | _=>l))
section
variable {x:Ex}
theorem qU{n}{s}{op len}(h:Jo n s op len x=true):x.n=n/\x.s=s/\x.op=op/\x.dq.length=len:=by
 simp[Jo,aP,dy,bC]at h;exact⟨h.1.1.1,h.1.1.2,h.1.2,h.2⟩
theorem iV(h:fH x=true)(hk:x.k=2∨x.k=3):cN x.s=true:=by
 have h1:x.k≠1:=aE
 rw[fH,aO h1,aR hk,aP]at h;exact h.1
theorem qV(h:fH x=true)(hk:x.k=4):∃y,x.dq=[y]/\(x.op=14∨x.op=15):=by
 rw[fH,aO aE,aO aE,aR hk]at h;obtain⟨_,_,h3,h4⟩:=qU h;obtain⟨y,hy⟩:=List.length_eq_one_iff.1 (show x.dq.length=1 by omega);refine⟨y,hy,?_⟩;by_cases Cj:x.op=15
 ·exact .inr Cj
 rw[aO Cj]at h3;exact .inl h3
theorem nf(h:fH x=true)(h1:x.k≠1)(h2:x.k≠2)(h3:x.k≠3)(h4:x.k≠4):x.k=5/\∃y z,x.dq=[y,z]/\1<=x.op/\x.op<=13:=by
 rw[fH,aO h1,aO aE,aO h4]at h;split at h
 ·rename_i h5;rw[aP]at h;obtain⟨h6,h7⟩:=h;obtain _:=qU h7;have h6:=by simpa using h6
  have h2l:x.dq.length=2:=aE
  obtain⟨y,z,hy⟩:∃y z,x.dq=[y,z]:=by
   match hm:x.dq,h2l with
   | [y,z],_=>exact⟨y,z,rfl⟩
  refine⟨h5,y,z,hy,?_⟩;unfold eE at h6;refine bD λhn=>h6 ?_;rw[aO aE,aO aE,aO aE,aO aE,aO aE,aO aE]
 cases h
theorem fT{s}(h:cN s=true):s.length<=24:=by
 unfold cN at h;simp only[aP]at h;exact(aV h.1.1.1).2
theorem jW n:(dl n).length<=2:=by
 rcases lP n 16 with h | h
 ·have:∀q,q<16->(dl q).length<=2:=aL
  exact this n h
 unfold dl;rw[cQ (h)];decide
theorem Hn wr l:(opn wr l).length<=l.length+1:=by
 unfold opn;cases wr<;>simp
theorem Qn wr l:(clo wr l).length<=l.length+1:=by
 unfold clo;cases wr<;>simp
theorem pO:∀d {x:Ex} wr l,cf d x=true->jz d x->(mF d x wr l).length<=l.length+40*oh d x
 | 0,x,wr,l,h,_=>aah
 | d+1,x,wr,l,h,⟨hn,hs⟩=>by
  rw[cf,aP]at h;obtain⟨hh,ha⟩:=h;have h1:=Hn wr l;rw[mF,oh];split
  ·omega
  refine bh (Qn _ _) ?_;split
  ·rw[aN];have:=Lib.itoa_length_le x.n hn.1 hn.2;omega
  split
  ·rename_i hk;rw[aN];have:=fT (iV hh (.inl hk));omega
  split
  ·rename_i hk;rw[aN,aN,aN];have:=fT (iV hh (.inr hk));simp;omega
  split
  ·rename_i hk;obtain⟨y,hy,_⟩:=qV hh hk;rw[hy]at ha hs⊢;dsimp only;simp[iB,cH,sL]at ha⊢;have:=pO d (decide (bM y<6)) (opn wr l++dl x.op.toNat) ha (hs y aM);rw[aN]at this;have:=jW x.op.toNat;omega
  rename_i k1 k2 k3 k4;obtain⟨hk,y,z,hy,_⟩:=nf hh k1 k2 k3 k4;rw[hy]at ha hs⊢;dsimp only;simp only[iB,cH,sL,aP]at ha⊢;have a1:=pO d (decide (bM y<bM x)) (opn wr l) ha.1 (hs y aM);have a2:=pO d (decide (bM z<=bM x)) (mF d y (decide (bM y<bM x)) (opn wr l)++([32]++dl x.op.toNat++[32])) ha.2 (hs z aM);rw[aN,aN,aN]at a2;have:=jW x.op.toNat;simp only[aU,aZ]at a2;omega
end
structure Pz (d:Nat) (F G:aJ) (k0 b:Nat) (sub sn:Sl) (subs:List Ex) (w:av) (sl:Sl) (l:aH):Prop where
 pg:Pg G w b sl sn l
 tb:Tb w
 own:k0≠b/\sl.a≠some ⟨k0,0,none⟩/\k0<w.heap.size
 sb:aA (rX d) 6 w F sub subs
 hF:∀k,F k->k<b
 hT:3<b
section
variable {d:Nat} {F G:aJ} {k0 b:Nat} {sx sn sl gq:Sl} {subs:List Ex} {w w' sD:av} {l l':aH}
theorem Pg.out(h:Pg G w b sl sn l){k}(hk:k<b):¬(k=b∨sl.a=some ⟨k,0,none⟩):=by
 rintro(e | e)
 ·omega
 have:=(h.buf.lt e).1;omega
theorem Pz.only(h:Pz d F G k0 b sx sn subs w sl l)(hO:ay [] w w'):Pz d F G k0 b sx sn subs w' sl l:=by
 have z:=hO.size;exact⟨h.pg.only hO,h.tb.only hO,⟨h.own.1,h.own.2.1,by have:=h.own.2.2;omega⟩,SliceF.only (ig d) aL h.sb hO aM,h.hF,h.hT⟩
theorem Pz.mv(h:Pz d F G k0 b sx sn subs w sl l)(hp:Pg G w' b gq sn l')(hm:iI b sl w gq w'):Pz d F G k0 b sx sn subs w' gq l'/\cb [k0] w w'/\bR (λk=>k<b∨k=k0) w w':=by
 have z:=hm.1.size;obtain⟨o1,o2,o3⟩:=h.own;refine⟨⟨hp,h.tb.keep λcd=>hm.1.block _ cd (h.pg.out h.hT),⟨o1,λe=>?_,aE⟩,SliceF.Aw (ig d) aL h.sb hm.1 λk hk _=>h.pg.out (h.hF k hk),h.hF,h.hT⟩,hm.same o1 o2 o3,λk hk cd=>hm.1.block k cd ?_⟩
 ·rcases hm.2 k0 e with e | e
  ·exact o2 e
  omega
 rcases hk with hk | rfl
 ·exact h.pg.out hk
 rintro(e | e)
 ·exact o1 e
 exact o2 e
theorem iI.after(h:iI b sl w' gq sD)(hO:ay [] w w'):iI b sl w gq sD:=(iI.only hO).trans h
theorem Pz.same(h:Pz d F G k0 b sx sn subs w sl l)(hO:ay [] w w'):cb [k0] w w':=hO.same (by have:=h.own.2.2;simp;omega)
theorem Pz.sig(h:Pz d F G k0 b sx sn subs w sl l){op}(h0:0<=op)(h1:op<16):∃ad,dN sn op 1 ad/\aB w ad [ab (T (dl op.toNat))]:=by
 have hn:=h.pg.sig.len;have hol:qp.length=16:=rfl;obtain⟨ad,x,cs,g1,g2,g3,g4,g5,g6⟩:=h.pg.sig.get h0 aE;subst g6;have hx:dl op.toNat=x:=by unfold dl;rw[g2];rfl
 subst hx;exact⟨ad,g1,g5⟩
theorem Pz.sub(h:Pz d F G k0 b sx sn subs w sl l){i:Nat}{y}(hy:subs[i]? =some y):∃ad sy,dN sx i 6 ad/\ad.block<b/\aB w ad (kD y.k y.n y.s y.op sy y.a)/\rX d w F y (kD y.k y.n y.s y.op sy y.a):=by
 have hn:=h.sb.len;have cd:=(bd.1 hy).1;obtain⟨ad,x,cs,g1,g2,g3,g4,g5,g6⟩:=h.sb.get (bc i) aE;rw[ba,hy]at g2;injection g2 with g2;subst g2;obtain⟨sy,rfl⟩:=jG g6;exact⟨ad,sy,g1,h.hF _ g3,g5,g6⟩
end
abbrev PgC(d:Nat):Prop:=∀{G F:aJ} {w:av} {b:Nat} {sl sn:Sl} {l:aH} {x:Ex} {cs:aI} wr,cf d x=true->jz d x->rX d w F x cs->(∀k,F k->k<b)->Tb w->3<b->Pg G w b sl sn l->l.length+40*oh d x<=70368744177664->
 az aq 214 #[ae (some ⟨b,0,none⟩),ah cs.toArray,aj wr] w λe w'=>∃gq,e=ak (ai #[])/\Pg G w' b gq sn (mF d x wr l)/\iI b sl w gq w'
theorem inb s:ao #[105,110,40]++T s++ao #[41]=T ([105,110,40]++s++[41]):=by
 rw[show ao #[105,110,40]=T [105,110,40]from rfl,show ao #[41]=T [41]from rfl,dQ,dQ]
theorem blb s:ao #[32]++T s++ao #[32]=T ([32]++s++[32]):=by
 rw[show ao #[32]=T [32]from rfl,dQ,dQ]
theorem WE c s:(c++T s).size=c.size+s.length:=by
 rw[show c=T c.data.toList from CU c,dQ,bO,bO,aN]
theorem ke.mono{P}{f}{a}{w}{Q Q'}(h:ke P f a w Q)(hq:∀v w',Q v w'->Q' v w'):ke P f a w Q':=λc cs hc=>by
 obtain⟨e,u',w',fr,⟨h1,v,h2,h3⟩,h4⟩:=h c cs hc;exact⟨e,u',w',fr,⟨h1,v,h2,hq _ _ h3⟩,h4⟩
theorem tF:∀d,PgC d
 | 0,_,_,_,_,_,_,_,_,_,_,_,_,h,_,_,_,_,_=>h.elim
 | d+1,G,F,w,b,sl,sG,l,x,cs,wr,qm,⟨Pn,Po⟩,⟨xs,h1,h2⟩,hF,hT,Vv,hP,eu=>by
  subst h1;refine(aea ⟨b,0,none⟩ x.k x.n (T x.s) x.op xs x.a wr (λv w'=>∃gq,v=ai #[]/\Pg G w' b gq sG (mF (d+1) x wr l)/\iI b sl w gq w') w ?_).mono (by
   rintro e w' ⟨v,rfl,s,rfl,h⟩;exact⟨s,rfl,h⟩)
  have hx:rX (d+1) w F x (kD x.k x.n x.s x.op xs x.a):=⟨xs,rfl,h2⟩
  rw[cf,aP]at qm;obtain⟨hh,ha⟩:=qm;rw[oh]at eu;intro k0 w0 iJ dV cw;have hb:=hP.lb;have U6:Pz d F G k0 b xs sG x.dq w0 sl l:=⟨hP.only cw,hT.only cw,⟨aE,λe=>aaJ,dV⟩,SliceF.only (ig d) aL h2 cw aM,hF,Vv⟩
  refine(Ub U6.pg).mono ?_;rintro _ w1 ⟨rfl,rfl⟩;refine⟨_,rfl,λ_ _=>rfl,λhc=>⟨sl,rfl,?_,(iI.only cw)⟩,λhc=>?_⟩
  ·rw[mF,aR aan];exact U6.pg
  have hc:¬16384<l.length:=aao
  have IT:mF (d+1) x wr l=clo wr (
  if x.k=1 then opn wr l++Lib.itoa x.n
  else if x.k=2 then opn wr l++x.s
  else if x.k=3 then opn wr l++([105,110,40]++x.s++[41])
  else if x.k=4 then(match x.dq with
   | [y]=>mF d y (decide (bM y<6)) (opn wr l++dl x.op.toNat)
   | _=>l)
  else(match x.dq with
   | [y,z]=>mF d z (decide (bM z<=bM x)) (mF d y (decide (bM y<bM x)) (opn wr l)++([32]++dl x.op.toNat++[32]))
   | _=>l)):=by rw[mF,aO hc]
  have hol:=Hn wr l;refine⟨λhw=>(Ql U6.pg 40 aE).mono ?_,λhw=>?_⟩
  ·rintro _ w2 ⟨Ob,rfl,NZ,tq⟩;obtain⟨Ck,J7,_⟩:=U6.mv NZ tq;have Od:l++[40]=opn wr l:=by unfold opn;rw[aR hw]
   rw[Od]at Ck;refine⟨⟨.nilIface,rfl⟩,rfl,J7,?_⟩;have fin:∀{CF:Sl} {w5:av} {m:aH},Pz d F G k0 b xs sG x.dq w5 CF m->iI b Ob w2 CF w5->mF (d+1) x wr l=clo wr m->m.length<=l.length+40*(1+sL (oh d) x.dq)->ke aq 235 #[ae (some ((⟨b,0,none⟩:Addr).add 0)),.int .u8 41] w5 λ_ w'=>∃gq,(Value.tuple #[])=ai #[]/\Pg G w' b gq sG (mF (d+1) x wr l)/\iI b sl w gq w':=by
    intro CF w5 m Gu zE he Oe;have hd:=Qm Gu.pg 41 aE;refine ke.mono hd ?_;rintro v w' ⟨gq,hv,hp',hm'⟩;refine⟨gq,rfl,?_,((tq.after cw).trans zE).trans hm'⟩;rw[he];unfold clo;rw[aR hw];exact hp'
   refine⟨λhk w3 da=>?_,λk1=>⟨λhk w7 gD=>?_,λk2=>⟨λhk=>⟨?_,?_,λdz dL=>?_⟩,λk3=>⟨λhk eW dD=>?_,λk4=>(nT (show rX (d+1) _ F x (kD x.k x.n x.s x.op xs x.a)from⟨xs,rfl,Ck.sb⟩)).mono ?_⟩⟩⟩⟩
   ·have hk:x.k=1:=aak
    have Vw:=Ck.only da;refine(xa x.n Pn Vw.tb).mono ?_;rintro _ w4 ⟨rfl,dR⟩;have hz4:=Vw.only dR;have hl:=Lib.itoa_length_le x.n Pn.1 Pn.2;refine⟨_,rfl,Vw.same dR,(ol hz4.pg (Lib.itoa x.n) aE).mono ?_⟩;rintro _ w5 ⟨CF,rfl,Og,zE⟩;obtain⟨Gu,IU,_⟩:=hz4.mv Og zE;exact⟨_,⟨.nilIface,rfl⟩,rfl,IU,fin Gu ((zE.after dR).after da) (by rw[IT,aR hk]) aaG⟩
   ·have hk:x.k=2:=aak
    have k1:x.k≠1:=aE
    have hz7:=Ck.only gD;have hl:=fT (iV hh (.inl hk));refine(ol hz7.pg x.s aE).mono ?_;rintro _ w8 ⟨CF,rfl,Og,zE⟩;obtain⟨Gu,IU,_⟩:=hz7.mv Og zE;exact⟨_,⟨.nilIface,rfl⟩,rfl,IU,fin Gu (zE.after gD) (by rw[IT,aO k1,aR hk]) aaG⟩
   ·have hk:x.k=3:=aak
    have hl:=fT (iV hh (.inr hk));rw[bO];omega
   ·have hk:x.k=3:=aak
    have hl:=fT (iV hh (.inr hk));rw[WE];have:(ao #[105,110,40]).size=3:=rfl;omega
   ·have hk:x.k=3:=aak
    have hl:=fT (iV hh (.inr hk));have Oh:=Ck.only dL;have tU:([105,110,40]++x.s++[41]:aH).length=x.s.length+4:=by
     rw[aN,aN];simp only[aU,aZ];omega
    rw[inb];refine(ol Oh.pg _ aE).mono ?_;rintro _ dJ ⟨CF,rfl,Og,zE⟩;obtain⟨Gu,IU,_⟩:=Oh.mv Og zE;exact⟨_,⟨.nilIface,rfl⟩,rfl,IU,fin Gu (zE.after dL) (by rw[IT,aO aE,aO aE,aR hk]) aaG⟩
   ·have hk:x.k=4:=aak
    obtain⟨y,hy,nI⟩:=qV hh hk;have Vx:sL (oh d) x.dq=oh d y:=acm
    have Vy:cf d y=true:=aaB
    have zF:jz d y:=Po y aaM;have Oi:=jW x.op.toNat;have Cm:=Ck.only dD;obtain⟨q,hq,hB⟩:=Cm.pg.blk;obtain⟨ad,g1,g2⟩:=Cm.sig (op:=x.op) aE aE;refine⟨sG,Blk.eo hB 2 rfl,ad,g1,_,g2,(ol Cm.pg (dl x.op.toNat) aE).mono ?_⟩;rintro _ fJ ⟨Kb,rfl,Vz,Oj⟩;obtain⟨VA,VB,_⟩:=Cm.mv Vz Oj;refine⟨_,⟨.nilIface,rfl⟩,rfl,VB,λir j7=>?_⟩;have Gv:=VA.only j7;obtain⟨p1,sy,e1,e2,e3,e4⟩:=Gv.sub (i:=0) (y:=y) aa6;refine⟨λk=>k<b∨k=k0,.inr rfl,p1,e1,.inl e2,_,_,_,_,_,_,e3,p1,e1,_,_,_,_,_,_,e3,(nT e4).mono ?_⟩;rintro _ jD ⟨rfl,jQ⟩;have Gw:=Gv.only jQ;have Xe:=pO d (decide (bM y<6)) (opn wr l++dl x.op.toNat) Vy zF;rw[aN]at Xe;refine⟨_,rfl,Gv.same jQ,bR.only jQ,(tF d (decide (bM y<6)) Vy zF (fy e4 jQ) hF Gw.tb Vv Gw.pg aaG).mono ?_⟩;rintro _ iK ⟨agw,rfl,VC,Ol⟩;obtain⟨VD,VE,VF⟩:=Gw.mv VC Ol;exact⟨rfl,VE,VF,fin VD ((Oj.after dD).trans ((Ol.after jQ).after j7)) (by rw[IT,aO aE,aO aE,aO aE,aR hk,hy]) aE⟩
   rintro _ jS ⟨rfl,kZ⟩;have k1:x.k≠1:=abL
   have k2:x.k≠2:=acy
   have k3:x.k≠3:=abM
   have k4:x.k≠4:=abP
   obtain⟨hk,y,z,hy,NY,Gf⟩:=nf hh k1 k2 k3 k4;have Vx:sL (oh d) x.dq=oh d y+oh d z:=acm
   have vT:cf d y=true/\cf d z=true:=aaB
   have zF:jz d y:=Po y aaM;have Ps:jz d z:=Po z aaM;have Oi:=jW x.op.toNat;have VG:=Ck.only kZ;refine⟨_,rfl,Ck.same kZ,λjs kO=>?_⟩;have Gx:=VG.only kO;obtain⟨p1,sy,e1,e2,e3,e4⟩:=Gx.sub (i:=0) (y:=y) aa6;refine⟨λk=>k<b∨k=k0,.inr rfl,p1,e1,.inl e2,_,_,_,_,_,_,e3,p1,e1,_,_,_,_,_,_,e3,(nT e4).mono ?_⟩;rintro _ mr ⟨rfl,iL⟩;have Gy:=Gx.only iL;have Xe:=pO d (decide (bM y<bM x)) (opn wr l) vT.1 zF;refine⟨_,rfl,Gx.same iL,bR.only iL,(tF d (decide (bM y<bM x)) vT.1 zF (fy e4 iL) hF Gy.tb Vv Gy.pg aE).mono ?_⟩;rintro _ qc ⟨agx,rfl,VH,Om⟩;obtain⟨VI,VJ,VK⟩:=Gy.mv VH Om;refine⟨rfl,VJ,VK,λql rH=>?_⟩;have Cn:=VI.only rH;obtain⟨q,hq,hB⟩:=Cn.pg.blk;obtain⟨ad,g1,g2⟩:=Cn.sig (op:=x.op) aE aE;have tU:([32]++dl x.op.toNat++[32]:aH).length=(dl x.op.toNat).length+2:=by
    rw[aN,aN];simp only[aU,aZ];omega
   have yZ:(ao #[32]).size=1:=rfl;refine⟨sG,Blk.eo hB 2 rfl,ad,g1,_,g2,aam,by rw[WE];omega,?_⟩;rw[blb];refine(ol Cn.pg _ aE).mono ?_;rintro _ sE ⟨agy,rfl,VL,Oo⟩;obtain⟨VM,VN,_⟩:=Cn.mv VL Oo;refine⟨_,⟨.nilIface,rfl⟩,rfl,VN,λow Cf=>?_⟩;have Gz:=VM.only Cf;obtain⟨p2,sz,f1,f2,f3,f4⟩:=Gz.sub (i:=1) (y:=z) aa6;refine⟨λk=>k<b∨k=k0,.inr rfl,p2,f1,.inl f2,_,_,_,_,_,_,f3,p2,f1,_,_,_,_,_,_,f3,(nT f4).mono ?_⟩;rintro _ qd ⟨rfl,jp⟩;have GA:=Gz.only jp;have VO:=pO d (decide (bM z<=bM x)) (mF d y (decide (bM y<bM x)) (opn wr l)++([32]++dl x.op.toNat++[32])) vT.2 Ps;rw[aN,tU]at VO;refine⟨_,rfl,Gz.same jp,bR.only jp,(tF d (decide (bM z<=bM x)) vT.2 Ps (fy f4 jp) hF GA.tb Vv GA.pg (by rw[aN,tU];omega)).mono ?_⟩;rintro _ sS ⟨agz,rfl,VP,Oq⟩;obtain⟨VQ,VR,VS⟩:=GA.mv VP Oq;exact⟨rfl,VR,VS,fin VQ (((Om.after iL).after kO).after kZ |>.trans ((Oo.after rH).trans ((Oq.after jp).after Cf))) (by rw[IT,aO k1,aO k2,aO k3,aO k4,hy]) aE⟩
  have Od:l=opn wr l:=by unfold opn;rw[hw];rfl
  have Ck:Pz d F G k0 b xs sG x.dq w1 sl (opn wr l):=by rw[<-Od];exact U6
  have fin:∀{CF:Sl} {w5:av} {m:aH},Pz d F G k0 b xs sG x.dq w5 CF m->iI b sl w1 CF w5->mF (d+1) x wr l=clo wr m->m.length<=l.length+40*(1+sL (oh d) x.dq)->∃gq,(Value.tuple #[])=ai #[]/\Pg G w5 b gq sG (mF (d+1) x wr l)/\iI b sl w gq w5:=by
   intro CF w5 m Gu zE he Oe;refine⟨CF,rfl,?_,zE.after cw⟩;rw[he];unfold clo;rw[hw];exact Gu.pg
  refine⟨λhk w3 da=>?_,λk1=>⟨λhk w7 gD=>?_,λk2=>⟨λhk=>⟨?_,?_,λdz dL=>?_⟩,λk3=>⟨λhk eW dD=>?_,λk4=>(nT (show rX (d+1) _ F x (kD x.k x.n x.s x.op xs x.a)from⟨xs,rfl,Ck.sb⟩)).mono ?_⟩⟩⟩⟩
  ·have hk:x.k=1:=aak
   have Vw:=Ck.only da;refine(xa x.n Pn Vw.tb).mono ?_;rintro _ w4 ⟨rfl,dR⟩;have hz4:=Vw.only dR;have hl:=Lib.itoa_length_le x.n Pn.1 Pn.2;refine⟨_,rfl,Vw.same dR,(ol hz4.pg (Lib.itoa x.n) aE).mono ?_⟩;rintro _ w5 ⟨CF,rfl,Og,zE⟩;obtain⟨Gu,IU,_⟩:=hz4.mv Og zE;exact⟨_,⟨.nilIface,rfl⟩,rfl,IU,fin Gu ((zE.after dR).after da) (by rw[IT,aR hk]) aaG⟩
  ·have hk:x.k=2:=aak
   have k1:x.k≠1:=aE
   have hz7:=Ck.only gD;have hl:=fT (iV hh (.inl hk));refine(ol hz7.pg x.s aE).mono ?_;rintro _ w8 ⟨CF,rfl,Og,zE⟩;obtain⟨Gu,IU,_⟩:=hz7.mv Og zE;exact⟨_,⟨.nilIface,rfl⟩,rfl,IU,fin Gu (zE.after gD) (by rw[IT,aO k1,aR hk]) aaG⟩
  ·have hk:x.k=3:=aak
   have hl:=fT (iV hh (.inr hk));rw[bO];omega
  ·have hk:x.k=3:=aak
   have hl:=fT (iV hh (.inr hk));rw[WE];have:(ao #[105,110,40]).size=3:=rfl;omega
  ·have hk:x.k=3:=aak
   have hl:=fT (iV hh (.inr hk));have Oh:=Ck.only dL;have tU:([105,110,40]++x.s++[41]:aH).length=x.s.length+4:=by
    rw[aN,aN];simp only[aU,aZ];omega
   rw[inb];refine(ol Oh.pg _ aE).mono ?_;rintro _ dJ ⟨CF,rfl,Og,zE⟩;obtain⟨Gu,IU,_⟩:=Oh.mv Og zE;exact⟨_,⟨.nilIface,rfl⟩,rfl,IU,fin Gu (zE.after dL) (by rw[IT,aO aE,aO aE,aR hk]) aaG⟩
  ·have hk:x.k=4:=aak
   obtain⟨y,hy,nI⟩:=qV hh hk;have Vx:sL (oh d) x.dq=oh d y:=acm
   have Vy:cf d y=true:=aaB
   have zF:jz d y:=Po y aaM;have Oi:=jW x.op.toNat;have Cm:=Ck.only dD;obtain⟨q,hq,hB⟩:=Cm.pg.blk;obtain⟨ad,g1,g2⟩:=Cm.sig (op:=x.op) aE aE;refine⟨sG,Blk.eo hB 2 rfl,ad,g1,_,g2,(ol Cm.pg (dl x.op.toNat) aE).mono ?_⟩;rintro _ fJ ⟨Kb,rfl,Vz,Oj⟩;obtain⟨VA,VB,_⟩:=Cm.mv Vz Oj;refine⟨_,⟨.nilIface,rfl⟩,rfl,VB,λir j7=>?_⟩;have Gv:=VA.only j7;obtain⟨p1,sy,e1,e2,e3,e4⟩:=Gv.sub (i:=0) (y:=y) aa6;refine⟨λk=>k<b∨k=k0,.inr rfl,p1,e1,.inl e2,_,_,_,_,_,_,e3,p1,e1,_,_,_,_,_,_,e3,(nT e4).mono ?_⟩;rintro _ jD ⟨rfl,jQ⟩;have Gw:=Gv.only jQ;have Xe:=pO d (decide (bM y<6)) (opn wr l++dl x.op.toNat) Vy zF;rw[aN]at Xe;refine⟨_,rfl,Gv.same jQ,bR.only jQ,(tF d (decide (bM y<6)) Vy zF (fy e4 jQ) hF Gw.tb Vv Gw.pg aaG).mono ?_⟩;rintro _ iK ⟨agw,rfl,VC,Ol⟩;obtain⟨VD,VE,VF⟩:=Gw.mv VC Ol;exact⟨rfl,VE,VF,fin VD ((Oj.after dD).trans ((Ol.after jQ).after j7)) (by rw[IT,aO aE,aO aE,aO aE,aR hk,hy]) aE⟩
  rintro _ jS ⟨rfl,kZ⟩;have k1:x.k≠1:=abL
  have k2:x.k≠2:=acy
  have k3:x.k≠3:=abM
  have k4:x.k≠4:=abP
  obtain⟨hk,y,z,hy,NY,Gf⟩:=nf hh k1 k2 k3 k4;have Vx:sL (oh d) x.dq=oh d y+oh d z:=acm
  have vT:cf d y=true/\cf d z=true:=aaB
  have zF:jz d y:=Po y aaM;have Ps:jz d z:=Po z aaM;have Oi:=jW x.op.toNat;have VG:=Ck.only kZ;refine⟨_,rfl,Ck.same kZ,λjs kO=>?_⟩;have Gx:=VG.only kO;obtain⟨p1,sy,e1,e2,e3,e4⟩:=Gx.sub (i:=0) (y:=y) aa6;refine⟨λk=>k<b∨k=k0,.inr rfl,p1,e1,.inl e2,_,_,_,_,_,_,e3,p1,e1,_,_,_,_,_,_,e3,(nT e4).mono ?_⟩;rintro _ mr ⟨rfl,iL⟩;have Gy:=Gx.only iL;have Xe:=pO d (decide (bM y<bM x)) (opn wr l) vT.1 zF;refine⟨_,rfl,Gx.same iL,bR.only iL,(tF d (decide (bM y<bM x)) vT.1 zF (fy e4 iL) hF Gy.tb Vv Gy.pg aE).mono ?_⟩;rintro _ qc ⟨agx,rfl,VH,Om⟩;obtain⟨VI,VJ,VK⟩:=Gy.mv VH Om;refine⟨rfl,VJ,VK,λql rH=>?_⟩;have Cn:=VI.only rH;obtain⟨q,hq,hB⟩:=Cn.pg.blk;obtain⟨ad,g1,g2⟩:=Cn.sig (op:=x.op) aE aE;have tU:([32]++dl x.op.toNat++[32]:aH).length=(dl x.op.toNat).length+2:=by
   rw[aN,aN];simp only[aU,aZ];omega
  have yZ:(ao #[32]).size=1:=rfl;refine⟨sG,Blk.eo hB 2 rfl,ad,g1,_,g2,aam,by rw[WE];omega,?_⟩;rw[blb];refine(ol Cn.pg _ aE).mono ?_;rintro _ sE ⟨agy,rfl,VL,Oo⟩;obtain⟨VM,VN,_⟩:=Cn.mv VL Oo;refine⟨_,⟨.nilIface,rfl⟩,rfl,VN,λow Cf=>?_⟩;have Gz:=VM.only Cf;obtain⟨p2,sz,f1,f2,f3,f4⟩:=Gz.sub (i:=1) (y:=z) aa6;refine⟨λk=>k<b∨k=k0,.inr rfl,p2,f1,.inl f2,_,_,_,_,_,_,f3,p2,f1,_,_,_,_,_,_,f3,(nT f4).mono ?_⟩;rintro _ qd ⟨rfl,jp⟩;have GA:=Gz.only jp;have VO:=pO d (decide (bM z<=bM x)) (mF d y (decide (bM y<bM x)) (opn wr l)++([32]++dl x.op.toNat++[32])) vT.2 Ps;rw[aN,tU]at VO;refine⟨_,rfl,Gz.same jp,bR.only jp,(tF d (decide (bM z<=bM x)) vT.2 Ps (fy f4 jp) hF GA.tb Vv GA.pg (by rw[aN,tU];omega)).mono ?_⟩;rintro _ sS ⟨agz,rfl,VP,Oq⟩;obtain⟨VQ,VR,VS⟩:=GA.mv VP Oq;exact⟨rfl,VR,VS,fin VQ (((Om.after iL).after kO).after kZ |>.trans ((Oo.after rH).trans ((Oq.after jp).after Cf))) (by rw[IT,aO k1,aO k2,aO k3,aO k4,hy]) aE⟩
def ld(d:Nat)(x:Ex):aH:=if cf d x=true then(if(fi (mF d x false [])).2.1≠0 then[]else mF d x false [])else[]
theorem Uc{d:Nat}{w:av}{F:aJ}{x:Ex}{cs:aI}(hx:rX d w F x cs)(hl:sZ d x)(hn:jz d x)(hE:Er w)(hT:Tb w)(hc:40*oh d x<=70368744177664):
  az aq 184 #[ah cs.toArray] w λe w'=>e=ak (ab (T (ld d x)))/\ay [] w w':=by
 obtain⟨xs,rfl⟩:=jG hx;refine ret (v6w _ _ _ _ _ _ _ _ ?_);intro k0 w0 iJ dV cw;have hxi:=(ig d).inHeap hx;refine(Hl d hl (fy hx cw)).mono ?_;rintro _ w1 ⟨rfl,cA⟩;have z0:=cw.size;have z1:=cA.size;have gK:=cw.cn cA;refine⟨_,rfl,cA.same aae,λhs=>?_,λhs=>(Sh w1).mono ?_⟩
 ·have hs:cf d x=false:=acz
  rw[ld,aO abn];exact⟨rfl,gK⟩
 have hs:cf d x=true:=acz
 rw[ld,aR hs];rintro _ w2 ⟨l0,rfl,U5,cO⟩;have z2:=cO.size;refine⟨l0,rfl,cO.same aae,λk1 w3 ku jK da sT=>?_⟩;have z3:=da.size;have nH:ay [] w w3:=(gK.cn cO).cn da;have IT:Pg (λk=>w1.heap.size<=k/\k<w2.heap.size) w3 k1 Sl.nil l0 []:=⟨⟨none,.inl rfl,sT⟩,.inl ⟨rfl,rfl⟩,SliceF.only db aL U5 da aM,λk hk=>aaP⟩
 have hT3:=hT.only nH;have Kz:=hT.lt;refine(tF d false hs hn (fy hxi nH) (λk hk=>aaP) hT3 aE IT (by rw[aZ];omega)).mono ?_;rintro _ w4 ⟨VT,rfl,hp4,Xf⟩;have z4:=Xf.1.size;have dR:ay [] w w4:=(nH.CA Xf.1).only λk hk=>by
  rcases hk with rfl | e
  ·omega
  cases e
 obtain⟨q,hq,rD⟩:=hp4.blk;refine⟨rfl,Xf.same aE (λe=>abW) aE,q,VT,l0,rD,(L5 hp4.pt).mono ?_⟩;rintro _ w5 ⟨rfl,ht5,fe⟩;have z5:=fe.size;have vd:=fe.blk rD aE;have wN:ay [] w w5:=(dR.CA fe).only λk hk=>abU
 refine⟨_,rfl,fe.same aae,q,VT,l0,vd,(T9 _ (hE.only wN)).mono ?_⟩;rintro _ w6 ⟨cs,rfl,hX,ez⟩;have z6:=ez.size;obtain⟨xl,rfl,_⟩:=hX.cells;have KG:=ez.blk vd aM;have aaT:=wN.cn ez;refine⟨_,_,_,_,_,_,_,_,rfl,ez.same aae,q,VT,l0,KG,λhr k2 k3 w7 _ _ _ _ gD _=>?_,λhr k4 k5 w8 sV EG oy GB gp wy=>?_⟩
 ·rw[aR aco];exact⟨rfl,aaT.cn gD⟩
 have z8:=gp.size;refine(L5 ((ht5.only ez).only gp)).mono ?_;rintro _ w9 ⟨rfl,ht9,gr⟩;rw[aO aco];have ia:∀k,VT.a=some ⟨k,0,none⟩->k<w4.heap.size:=λk hk=>(hp4.buf.lt hk).2;refine⟨_,rfl,gr.same λk hk=>?_,q,VT,l0,gr.blk wy aE,rfl,((aaT.cn gp).CA gr).only λk hk=>abU⟩;simp only[aX,be,ca]at hk;rcases hk with rfl | rfl | rfl
 ·exact⟨aE,λh=>by have:=h.1;omega⟩
 ·exact⟨EG,λh=>by have:=ia _ h.2;omega⟩
 exact⟨GB,λh=>by have:=ia _ h.2;omega⟩
theorem Qo{ts:List Tk}{i:Nat}{e:Int×Int}(h:yi ts i=.error e):e.1≠0:=by
 unfold yi at h;split at h
 ·split at h
  ·split at h
   ·cases h
   injection h with h;subst h;exact ff
  injection h with h;subst h;exact ff
 injection h with h;subst h;exact ff
theorem DG{r:Pr}{g:Ex->Nat->Pr}{e:Int×Int}(h:yh r g=.error e):r=.error e∨∃x j,r=.ok (x,j)/\g x j=.error e:=by
 cases r with
 | error e'=>exact .inl h
 | ok p=>exact .inr ⟨p.1,p.2,rfl,h⟩
theorem zY{d:Nat}{a:Int}{r:Pr}{e:Int×Int}(h:im d a r=.error e):r=.error e∨e.1=21:=by
 unfold im at h;split at h
 ·injection h with h;subst h;exact .inr rfl
 exact .inl h
theorem zZ{ts:List Tk}{E:Nat->Pr}{k:Int}{e:Int×Int}(hE:∀i,E i=.error e->e.1≠0):∀(g:Nat) (x:Ex) (j:Nat),gU ts E k g x j=.error e->e.1≠0
 | 0,x,j,h=>aah
 | g+1,x,j,h=>by
  rw[gU]at h;split at h
  ·cases h
  rcases DG h with h1 | ⟨y,m,h1,h2⟩
  ·exact hE _ h1
  exact zZ hE g _ _ h2
theorem lC{ts:List Tk}{e:Int×Int}:∀(f k d i:Nat),cK ts f k d i=.error e->e.1≠0
 | 0,k,d,i,h=>by
  rw[cK]at h;injection h with h;subst h;decide
 | f+1,k,d,i,h=>by
  rw[cK]at h;split at h
  ·unfold mP at h;split at h
   ·generalize hn:im d (tk ts i).a (cK ts f 6 (d+1) (i+1))=r at h;cases r with
    | ok q=>cases h
    | error e'=>
     simp only[Dx]at h;injection h with h;subst h;rcases zY hn with h1 | h1
     ·exact lC f _ _ _ h1
     rw[h1];decide
   split at h
   ·rcases zY h with h1 | h1
    ·cases hr:cK ts f 0 (d+1) (i+1)with
     | error e'=>
      rw[hr]at h1;simp only[pN]at h1;injection h1 with h1;subst h1;exact lC f _ _ _ hr
     | ok q=>
      rw[hr]at h1;simp only[pN]at h1;split at h1
      ·cases h1
      injection h1 with h1;subst h1;exact ff
    rw[h1];decide
   split at h
   ·cases h
   split at h
   ·cases h
   split at h
   ·exact Qo h
   injection h with h;subst h;exact ff
  rcases DG h with h1 | ⟨y,m,h1,h2⟩
  ·exact lC f _ _ _ h1
  exact zZ (λi hi=>lC f _ _ _ hi) _ _ _ h2
structure Ac where
 k:Int
 n:aH
 x:Ex
 a:Int
structure Mv where
 k:Int
 ev:aH
 wt:Int
 gd:Bool
 g:Ex
 acts:List Ac
 tg:List (aH)
 a:Int
structure Nb where
 k:Int
 nm:aH
 ini:aH
 dft:aH
 en:List Ac
 lv:List Ac
 mv:List Mv
 a:Int
inductive Nd where
 | mk (b:Nb) (kids:List Nd)
def Nd.b:Nd->Nb | .mk b _=>b
def Nd.kids:Nd->List Nd | .mk _ l=>l
structure Vr where
 n:aH
 v:Int
 a:Int
structure Ch where
 vars:List Vr
 root:Nd
def Sm:Nb:=⟨0,[],[],[],[],[],[],0⟩
def Jp:Nd:=.mk Sm []
def ch0:Ch:=⟨[],Jp⟩
def ac0:Ac:=⟨0,[],tT,0⟩
def tkZ:Tk:=⟨0,[],0,0⟩
structure Sx where
 i:Nat
 fc:Int
 fa:Int
 v:Int
 n:Int
 d:Int
 m:Int
 a:Int
section
variable (ts:List Tk)
def gV(s:Sx)(c:Int):Sx:=if s.fc=0 then{s with fc:=c,fa:=(tk ts s.i).a}else s
def jA(s:Sx):Sx:=if(tk ts s.i).k=5 then gV ts (gV ts s 3) 4 else gV ts s 4
def wF(c:aH):List (aH)->Nat
 | []=>0
 | x::l=>if c=x then 0 else wF c l+1
def cu(s:Sx)(l:List (aH)):Nat:=
 if s.fc≠0∨((tk ts s.i).k≠2/\(tk ts s.i).k≠4)then 0 else if wF (tk ts s.i).t l<l.length then wF (tk ts s.i).t l+1 else 0
def cX(s:Sx):Sx:={s with i:=s.i+1}
def dP(s:Sx)(x:aH):Sx:=if cu ts s [x]=0 then jA ts s else cX s
def fu(s:Sx)(k:Int):Tk×Sx:=if s.fc≠0∨(tk ts s.i).k≠k then(tkZ,jA ts s)else(tk ts s.i,cX s)
def io(s:Sx):aH×Sx:=((fu ts s 1).1.t,(fu ts s 1).2)
def mh(s:Sx):Ex×Sx:=
 if s.fc≠0 then(tT,s)
 else if(bQ ts s.i).2.2.1≠0 then((bQ ts s.i).1,{s with fc:=(bQ ts s.i).2.2.1,fa:=(bQ ts s.i).2.2.2})
 else((bQ ts s.i).1,{s with i:=(bQ ts s.i).2.1.toNat})
def vw(x:Int):Int:=ar U (x-1)
def Ud(x:Int):Int:=ar U (x+1)
def qW(s:Sx):Sx:=if s.a=0 then{gV ts s 2 with a:=vw s.a}else{s with a:=vw s.a}
def pQ(s:Sx):Sx:=if s.m=0 then{gV ts s 2 with m:=vw s.m}else{s with m:=vw s.m}
def zn(s:Sx):Sx:=if s.n=0 then{gV ts s 2 with n:=vw s.n}else{s with n:=vw s.n}
def zo(s:Sx):Sx:=if s.v=0 then{gV ts s 2 with v:=vw s.v}else{s with v:=vw s.v}
def nK:aH:=[115,101,116]
def iC:aH:=[114,97,105,115,101]
def jL:aH:=[101,109,105,116]
def wG:aH:=[111,110]
def fI:aH:=[97,108,119,97,121,115]
def fY:aH:=[97,102,116,101,114]
def ec:aH:=[105,110,105,116,105,97,108]
def fZ:aH:=[101,110,116,101,114]
def ga:aH:=[108,101,97,118,101]
def yt:aH:=[115,116,97,116,101]
def oX:aH:=[112,97,114,97,108,108,101,108]
def qX:aH:=[104,105,115,116,111,114,121]
def DH:aH:=[100,101,101,112]
def dX:aH:=[99,104,97,114,116]
def sM:aH:=[118,97,114]
def FF(s:Sx)(k:Nat)(n:aH)(a:Int):Ac×Sx:=
 if k=2 then(⟨k,n,tT,a⟩,dP ts s [59])
 else(⟨k,n,(mh ts (dP ts s [61])).1,a⟩,dP ts (mh ts (dP ts s [61])).2 [59])
def nj(s:Sx):Ac×Sx:=
 if cu ts s [nK,iC,jL]=0 then(⟨0,[],tT,(tk ts s.i).a⟩,jA ts s)
 else if(qW ts s).fc≠0 then(⟨(cu ts s [nK,iC,jL]),[],tT,(tk ts s.i).a⟩,qW ts s)
 else FF ts (io ts (cX (qW ts s))).2 (cu ts s [nK,iC,jL]) (io ts (cX (qW ts s))).1 (tk ts s.i).a
def nU:Nat->List Ac->Sx->List Ac×Sx
 | 0,acc,s=>(acc,s)
 | f+1,acc,s=>if s.fc≠0 then(acc,s)else if cu ts s [[125]]≠0 then(acc,cX s)else nU f (acc++[(nj ts s).1]) (nj ts s).2
def gf(s:Sx):List Ac×Sx:=nU ts (ts.length+1) [] (dP ts s [123])
def oY:Nat->aH->List (aH)->Sx->List (aH)×Sx
 | 0,_,acc,s=>(acc,s)
 | f+1,x,acc,s=>if cu ts s [x]=0 then(acc,s)else oY f [44] (acc++[(io ts (cX s)).1]) (io ts (cX s)).2
def yu(m:Mv)(s:Sx):Mv×Sx:=
 ({m with tg:=(oY ts (ts.length+1) [45,62] [] s).1},dP ts (oY ts (ts.length+1) [45,62] [] s).2 [59])
def wc(m:Mv)(s:Sx):Mv×Sx:=
 if cu ts s [[123]]=0 then yu ts m s else yu ts {m with acts:=(gf ts s).1} (gf ts s).2
def nq(m:Mv)(s:Sx):Mv×Sx:=
 if cu ts s [[91]]=0 then wc ts m s else wc ts {m with gd:=true,g:=(mh ts (cX s)).1} (dP ts (mh ts (cX s)).2 [93])
def L6(k a:Int):Mv:=⟨k,[],0,false,tT,[],[],a⟩
def lf(k:Int)(s:Sx):Mv×Sx:=
 if(pQ ts s).fc≠0 then(L6 k (tk ts s.i).a,pQ ts s)
 else if k=1 then nq ts {L6 k (tk ts s.i).a with ev:=(io ts (cX (pQ ts s))).1} (io ts (cX (pQ ts s))).2
 else if k=3 then nq ts {L6 k (tk ts s.i).a with wt:=(fu ts (cX (pQ ts s)) 3).1.n} (fu ts (cX (pQ ts s)) 3).2
 else nq ts (L6 k (tk ts s.i).a) (cX (pQ ts s))
structure y9 where
 i:Bool
 e:Bool
 l:Bool
def dm(n:Nb)(h:y9)(s:Sx):Bool×Nb×y9×Sx:=
 if cu ts s [wG,fI,fY]≠0 then(true,{n with mv:=n.mv++[(lf ts (cu ts s [wG,fI,fY]) s).1]},h,(lf ts (cu ts s [wG,fI,fY]) s).2)
 else match cu ts s [ec,fZ,ga]with
  | 0=>(false,n,h,s)
  | 1=>if h.i then(false,n,h,jA ts s)else(true,{n with ini:=(io ts (cX s)).1},{h with i:=true},dP ts (io ts (cX s)).2 [59])
  | 2=>if h.e then(false,n,h,jA ts s)else(true,{n with en:=(gf ts (cX s)).1},{h with e:=true},(gf ts (cX s)).2)
  | _=>if h.l then(false,n,h,jA ts s)else(true,{n with lv:=(gf ts (cX s)).1},{h with l:=true},(gf ts (cX s)).2)
def fz:Nat->Nb->y9->Sx->Nb×Sx
 | 0,n,_,s=>(n,s)
 | f+1,n,h,s=>if s.fc≠0 then(n,s)
  else if(dm ts n h s).1 then fz f (dm ts n h s).2.1 (dm ts n h s).2.2.1 (dm ts n h s).2.2.2 else((dm ts n h s).2.1,(dm ts n h s).2.2.2)
def nr:List (aH):=[yt,oX,qX,DH]
def qi(N:Int->Sx->Nd×Sx):Nat->List Nd->Sx->List Nd×Sx
 | 0,acc,s=>(acc,s)
 | f+1,acc,s=>if cu ts s nr=0 then(acc,s)else qi N f (acc++[(N (cu ts s nr) (cX s)).1]) (N (cu ts s nr) (cX s)).2
def nV(N:Int->Sx->Nd×Sx)(n:Nb)(s:Sx):Nd×Sx:=
 let c:=fz ts (ts.length+1) n ⟨false,false,false⟩ {s with d:=vw s.d}
 let k:=qi ts N (ts.length+1) [] c.2
 (.mk c.1 k.1,dP ts {k.2 with d:=Ud k.2.d} [125])
def nW(s:Sx):Sx:=if(tk ts s.i).k=1 then(if(zn ts s).d=0 then gV ts (zn ts s) 21 else zn ts s)else s
def dY(k:Int)(s:Sx):Nb×Sx:=({Sm with k:=k,nm:=(fu ts (nW ts s) 1).1.t,a:=(fu ts (nW ts s) 1).1.a},(fu ts (nW ts s) 1).2)
def jr:Nat->Int->Sx->Nd×Sx
 | 0,_,s=>(Jp,s)
 | f+1,k,s=>
  if 3<=k then(.mk {(dY ts k s).1 with dft:=(io ts (dP ts (dY ts k s).2 [45,62])).1} [],dP ts (io ts (dP ts (dY ts k s).2 [45,62])).2 [59])
  else nV ts (jr f) (dY ts k s).1 (dP ts (dY ts k s).2 [123])
def qY(s:Sx):Vr×Sx:=
 let s1:=if(tk ts s.i).k=1 then zo ts s else s
 let t:=fu ts s1 1
 let s2:=dP ts t.2 [61]
 let g:=cu ts s2 [[45]]
 let q:=fu ts (if g=0 then s2 else cX s2) 3
 (⟨t.1.t,if g=0 then q.1.n else ar U (-q.1.n),t.1.a⟩,dP ts q.2 [59])
def qZ:Nat->List Vr->Sx->List Vr×Sx
 | 0,acc,s=>(acc,s)
 | f+1,acc,s=>if cu ts s [sM]=0 then(acc,s)else qZ f (acc++[(qY ts (cX s)).1]) (qY ts (cX s)).2
def ta:Sx:=⟨0,0,0,16,64,12,200,400⟩
def FG(s:Sx):Sx:=if s.fc=0/\(tk ts s.i).k≠5 then jA ts s else s
def ra:Ch×Sx:=
 let n:=dY ts 1 (dP ts ta dX)
 let v:=qZ ts (ts.length+1) [] (dP ts n.2 [123])
 let b:=nV ts (jr ts 14) n.1 v.2
 (⟨v.1,b.1⟩,FG ts b.2)
end
def jm(l:aH):Ch×Int×Int:=
 if(ch l).2.1≠0 then(ch0,(ch l).2.1,(ch l).2.2)
 else if(ra (ch l).1).2.fc≠0 then(ch0,(ra (ch l).1).2.fc,(ra (ch l).1).2.fa)
 else((ra (ch l).1).1,0,0)
def mu(ts:List Tk)(s:Sx):Nat:=if s.fc=0 then ts.length-s.i else 0
structure On0 (ts:List Tk) (s s':Sx):Prop where
 lt:s.i<ts.length->s'.i<ts.length
 le:s'.fc=0->s.fc=0/\s.i<=s'.i
structure On (ts:List Tk) (s s':Sx):Prop extends On0 ts s s' where
 d:s'.d=s.d
section
variable {ts:List Tk} {s s' s'':Sx}
theorem On0.refl ts s:On0 ts s s:=⟨id,λh=>⟨h,aY _⟩⟩
theorem On.refl ts s:On ts s s:=⟨On0.refl ts s,rfl⟩
theorem On0.trans(h:On0 ts s s')(k:On0 ts s' s''):On0 ts s s'':=⟨λx=>k.lt (h.lt x),λe=>by
 obtain⟨a,b⟩:=k.le e;obtain⟨c,d⟩:=h.le a;exact⟨c,bh d b⟩⟩
theorem On.trans(h:On ts s s')(k:On ts s' s''):On ts s s'':=⟨h.toOn0.trans k.toOn0,k.d.trans h.d⟩
theorem On0.mu(h:On0 ts s s'):mu ts s'<=mu ts s:=by
 unfold Con.mu;by_cases e:s'.fc=0
 ·obtain⟨a,b⟩:=h.le e;rw[aR e,aR a];omega
 rw[aO e];exact bm _
theorem nX c:On ts s (gV ts s c):=by
 unfold gV;by_cases e:s.fc=0
 ·rw[aR e];exact⟨⟨id,λ_=>⟨e,aY _⟩⟩,rfl⟩
 rw[aO e];exact On.refl _ _
theorem Ho{c}(hc:c≠0):(gV ts s c).fc≠0:=by
 unfold gV;by_cases e:s.fc=0
 ·rw[aR e];exact hc
 rw[aO e];exact e
theorem Bt c:(gV ts s c).i=s.i:=by
 unfold gV;split<;>rfl
theorem oZ:(jA ts s).fc≠0:=by
 unfold jA;split<;>exact Ho aL
theorem pb:On ts s (jA ts s):=by
 unfold jA;split
 ·exact(nX 3).trans (nX 4)
 exact nX 4
theorem DI l:cu ts s l<=l.length:=by
 unfold cu;split
 ·exact bm _
 split<;>omega
theorem dc{l}(h:cu ts s l≠0):s.fc=0/\(tk ts s.i).k≠5:=by
 unfold cu at h;split at h
 ·exact absurd rfl h
 rename_i hc;by_cases e:s.fc=0
 ·refine⟨e,λe5=>hc (.inr ?_)⟩;rw[e5];exact⟨aL,aL⟩
 exact absurd (.inl e) hc
theorem kF(hE:od ts)(h0:s.fc=0)(hk:(tk ts s.i).k≠5):On ts s (cX s):=⟨⟨λh=>hE.next h hk,λ_=>⟨h0,iw _⟩⟩,rfl⟩
theorem gW(hE:od ts) x:On ts s (dP ts s x):=by
 unfold dP;by_cases h:cu ts s [x]=0
 ·rw[aR h];exact pb
 rw[aO h];exact kF hE (dc h).1 (dc h).2
theorem uw(hE:od ts){k}(hk:k≠5):On ts s (fu ts s k).2:=by
 unfold fu;by_cases h:s.fc≠0∨(tk ts s.i).k≠k
 ·rw[aR h];exact pb
 rw[aO h];simp at h;exact kF hE h.1 (by rw[h.2];exact hk)
theorem nY(hE:od ts):On ts s (io ts s).2:=uw hE aL
end
section
variable {ts:List Tk} (hE:od ts)
include hE
theorem Ue{i}{x}{j}(hi:i<ts.length)(hk:(tk ts i).k≠5)(h:yi ts i=.ok (x,j)):j<ts.length:=by
 unfold yi at h;split at h
 ·rename_i h1;split at h
  ·rename_i h2;split at h
   ·rename_i h3;have l4:=hE.next (hE.next (hE.next (hE.next hi hk) (sK h1)) (by rw[h2];decide)) (sK h3);simp at h;omega
   cases h
  cases h
 cases h
theorem Qp{E0 One}{d i}{x}{j}(hE0:∀i x j,i<ts.length->E0 i=.ok (x,j)->j<ts.length)(hO:∀i x j,i<ts.length->One i=.ok (x,j)->j<ts.length)(hi:i<ts.length)(h:mP ts E0 One d i=.ok (x,j)):j<ts.length:=by
 unfold mP at h;split at h
 ·rename_i hs;obtain⟨y,h1,_⟩:=wX h;refine hO _ _ _ (hE.next hi ?_) (oW h1).1;rcases ci _ _▸hs with hs | hs<;>exact sK hs
 split at h
 ·rename_i hs;obtain⟨j',h1,h2,rfl⟩:=wY (oW h).1;exact hE.next (hE0 _ _ _ (hE.next hi (sK hs)) h1) (sK h2)
 split at h
 ·rename_i hk;simp at h;have:=hE.next hi (by rw[hk];decide);omega
 split at h
 ·rename_i hk;simp at h;have:=hE.next hi (by rw[hk];decide);omega
 split at h
 ·rename_i hk;exact Ue hE hi (by rw[hk.1];decide) h
 cases h
theorem DJ{E}{k}(WR:∀i x j,i<ts.length->E i=.ok (x,j)->j<ts.length):∀g x j {x':Ex} {j':Nat},j<ts.length->gU ts E k g x j=.ok (x',j')->j'<ts.length
 | 0,x,j,x',j',hj,h=>by
  simp[gU,eG,eK]at h;omega
 | g+1,x,j,x',j',hj,h=>by
  rw[gU]at h;split at h
  ·simp at h;omega
  rename_i ho;obtain⟨y,m,h1,h2⟩:=uq h;exact DJ WR g _ _ (WR _ _ _ (hE.next hj (mT _ _ ho)) h1) h2
theorem rc:∀f k d i {x:Ex} {j:Nat},i<ts.length->cK ts f k d i=.ok (x,j)->j<ts.length
 | 0,_,_,_,_,_,_,h=>aah
 | f+1,k,d,i,x,j,hi,h=>by
  rw[cK]at h;split at h
  ·exact Qp hE (λi x j hi h=>rc f _ _ i hi h) (λi x j hi h=>rc f _ _ i hi h) hi h
  obtain⟨y,m,h1,h2⟩:=uq h;exact DJ hE (λi x j hi h=>rc f _ _ i hi h) _ _ _ (rc f _ _ _ hi h1) h2
theorem Jq{i:Nat}(h0:(bQ ts i).2.2.1=0):∃j:Nat,(bQ ts i).2.1=j/\i<j/\j<ts.length:=by
 unfold bQ at h0⊢;split at h0
 ·rename_i hc;rw[aR hc];have hi:i<ts.length:=by have:=hc.2.1;omega
  rw[ba]at h0⊢;unfold oe at h0⊢;cases he:cK ts _ 0 0 i with
  | error e=>
   rw[he]at h0;exact absurd h0 (lC _ _ _ _ he)
  | ok q=>
   obtain⟨x,j⟩:=q;exact⟨j,rfl,jx _ _ _ _ he,rc hE _ _ _ _ hi he⟩
 cases h0
theorem nZ{s s'}(h0:s.fc=0)(hi:s.i<ts.length)(hk:(tk ts s.i).k≠5)(h:On0 ts (cX s) s'):mu ts s'<mu ts s:=by
 have h1:=h.mu;have e1:mu ts s=ts.length-s.i:=by unfold mu;rw[aR h0]
 have e2:mu ts (cX s)=ts.length-(s.i+1):=by unfold mu cX;rw[aR h0]
 omega
set_option linter.unusedSectionVars false in
theorem vA {s s':Sx} (h0:s.fc=0) (hi:s.i<ts.length) (h:s'.fc≠0):mu ts s'<mu ts s:=by
 unfold mu;rw[aO h,aR h0];omega
theorem Hp s:On ts s (mh ts s).2:=by
 unfold mh;by_cases h0:s.fc≠0
 ·rw[aR h0];exact On.refl _ _
 rw[aO h0];by_cases h1:(bQ ts s.i).2.2.1≠0
 ·rw[aR h1];exact⟨⟨id,λh=>absurd h h1⟩,rfl⟩
 rw[aO h1];obtain⟨j,e,l1,l2⟩:=Jq hE (i:=s.i) aaz;rw[e,ba];exact⟨⟨λ_=>l2,λh=>⟨h,Nat.le_of_lt l1⟩⟩,rfl⟩
omit hE in
theorem Bw (s:Sx):On ts s (qW ts s):=by
 unfold qW;split
 ·have h:=nX (ts:=ts) (s:=s) 2;exact⟨⟨h.lt,h.le⟩,h.d⟩
 exact⟨⟨id,λh=>⟨h,aY _⟩⟩,rfl⟩
omit hE in
theorem Bx (s:Sx):On ts s (pQ ts s):=by
 unfold pQ;split
 ·have h:=nX (ts:=ts) (s:=s) 2;exact⟨⟨h.lt,h.le⟩,h.d⟩
 exact⟨⟨id,λh=>⟨h,aY _⟩⟩,rfl⟩
omit hE in
theorem Bz (s:Sx):On ts s (zn ts s):=by
 unfold zn;split
 ·have h:=nX (ts:=ts) (s:=s) 2;exact⟨⟨h.lt,h.le⟩,h.d⟩
 exact⟨⟨id,λh=>⟨h,aY _⟩⟩,rfl⟩
omit hE in
theorem Qq (s:Sx):On ts s (zo ts s):=by
 unfold zo;split
 ·have h:=nX (ts:=ts) (s:=s) 2;exact⟨⟨h.lt,h.le⟩,h.d⟩
 exact⟨⟨id,λh=>⟨h,aY _⟩⟩,rfl⟩
omit hE in
theorem BA (s:Sx):(qW ts s).i=s.i:=by
 unfold qW;split
 ·exact Bt 2
 rfl
omit hE in
theorem BB (s:Sx):(pQ ts s).i=s.i:=by
 unfold pQ;split
 ·exact Bt 2
 rfl
theorem Hq s k n a:On ts s (FF ts s k n a).2:=by
 unfold FF;split
 ·exact gW hE _
 exact((gW hE _).trans (Hp hE _)).trans (gW hE _)
theorem L7 s u (hu:On ts s u) (hi:u.i=s.i) (h0:u.fc=0) (hk:(tk ts s.i).k≠5):On ts s (cX u):=hu.trans (kF hE h0 (by rw[hi];exact hk))
theorem Uf s:On ts s (nj ts s).2:=by
 unfold nj;split
 ·exact pb
 rename_i h;split
 ·exact Bw s
 rename_i h0;exact(L7 hE s _ (Bw s) (BA s) acA (dc h).2).trans ((nY hE).trans (Hq hE _ _ _ _))
theorem Ug{s}(h0:s.fc=0)(hi:s.i<ts.length):mu ts (nj ts s).2<mu ts s:=by
 unfold nj;split
 ·exact vA hE h0 hi oZ
 rename_i h;split
 ·rename_i h1;exact vA hE h0 hi h1
 rename_i h1;have e:=BA (ts:=ts) s;exact cj (nZ hE aaz (by rw[e];exact hi) (by rw[e];exact(dc h).2) ((nY hE).trans (Hq hE _ _ _ _)).toOn0) (Bw (ts:=ts) s).mu
theorem Hr:∀f acc s,On ts s (nU ts f acc s).2
 | 0,_,s=>On.refl _ _
 | f+1,acc,s=>by
  rw[nU];split
  ·exact On.refl _ _
  split
  ·rename_i h;exact kF hE (dc h).1 (dc h).2
  exact(Uf hE s).trans (Hr f _ _)
theorem re s:On ts s (gf ts s).2:=(gW hE _).trans (Hr hE _ _ _)
theorem Hs:∀f x acc s,On ts s (oY ts f x acc s).2
 | 0,_,_,s=>On.refl _ _
 | f+1,x,acc,s=>by
  rw[oY];split
  ·exact On.refl _ _
  rename_i h;exact((kF hE (dc h).1 (dc h).2).trans (nY hE)).trans (Hs f _ _ _)
theorem DK m s:On ts s (yu ts m s).2:=(Hs hE _ _ _ _).trans (gW hE _)
theorem DL m s:On ts s (wc ts m s).2:=by
 unfold wc;split
 ·exact DK hE _ _
 exact(re hE _).trans (DK hE _ _)
theorem yv m s:On ts s (nq ts m s).2:=by
 unfold nq;split
 ·exact DL hE _ _
 rename_i h;exact(((kF hE (dc h).1 (dc h).2).trans (Hp hE _)).trans (gW hE _)).trans (DL hE _ _)
theorem DM(k:Int)(s u:Sx) m:On ts u (if k=1 then nq ts {m with ev:=(io ts u).1} (io ts u).2 else if k=3 then nq ts {m with wt:=(fu ts u 3).1.n} (fu ts u 3).2 else nq ts m u).2:=by
 split
 ·exact(nY hE).trans (yv hE _ _)
 split
 ·exact(uw hE aL).trans (yv hE _ _)
 exact yv hE _ _
theorem Qr k s (hk:(tk ts s.i).k≠5):On ts s (lf ts k s).2:=by
 unfold lf;split
 ·exact Bx s
 rename_i h1;exact(L7 hE s _ (Bx s) (BB s) aaz hk).trans (DM hE k s _ _)
theorem Qs k {s} (h0:s.fc=0) (hi:s.i<ts.length) (hk:(tk ts s.i).k≠5):mu ts (lf ts k s).2<mu ts s:=by
 unfold lf;split
 ·rename_i h1;exact vA hE h0 hi h1
 rename_i h1;have e:=BB (ts:=ts) s;exact cj (nZ hE aaz (by rw[e];exact hi) (by rw[e];exact hk) (DM hE k s _ _).toOn0) (Bx (ts:=ts) s).mu
theorem Aa n h s:On ts s (dm ts n h s).2.2.2:=by
 unfold dm;split
 ·rename_i hw;exact Qr hE _ s (dc hw).2
 split
 ·exact On.refl _ _
 ·rename_i hw;have hw:cu ts s [ec,fZ,ga]≠0:=acb
  split
  ·exact pb
  exact((kF hE (dc hw).1 (dc hw).2).trans (nY hE)).trans (gW hE _)
 ·rename_i hw;have hw:cu ts s [ec,fZ,ga]≠0:=acb
  split
  ·exact pb
  exact(kF hE (dc hw).1 (dc hw).2).trans (re hE _)
 rename_i h0 h1 h2;have hw:=h0;split
 ·exact pb
 exact(kF hE (dc hw).1 (dc hw).2).trans (re hE _)
theorem Jr n h {s} (h0:s.fc=0) (hi:s.i<ts.length) (ht:(dm ts n h s).1=true):mu ts (dm ts n h s).2.2.2<mu ts s:=by
 unfold dm at ht⊢;split
 ·rename_i hw;exact Qs hE _ h0 hi (dc hw).2
 rename_i hw0;rw[aO hw0]at ht;split
 ·rename_i hw;rw[hw]at ht;cases ht
 ·rename_i hw;have hw:cu ts s [ec,fZ,ga]≠0:=acb
  split
  ·exact vA hE h0 hi oZ
  exact nZ hE h0 hi (dc hw).2 ((nY hE).trans (gW hE _)).toOn0
 ·rename_i hw;have hw:cu ts s [ec,fZ,ga]≠0:=acb
  split
  ·exact vA hE h0 hi oZ
  exact nZ hE h0 hi (dc hw).2 (re hE _).toOn0
 rename_i h1 _ _;split
 ·exact vA hE h0 hi oZ
 exact nZ hE h0 hi (dc h1).2 (re hE _).toOn0
theorem tG:∀f n h s,On ts s (fz ts f n h s).2
 | 0,_,_,s=>On.refl _ _
 | f+1,n,h,s=>by
  rw[fz];split
  ·exact On.refl _ _
  split
  ·exact(Aa hE n h s).trans (tG f _ _ _)
  exact Aa hE n h s
theorem Ht{N} d (hN:∀k s,s.d=d->s.fc=0->On ts s (N k s).2):∀f acc s,s.d=d->On ts s (qi ts N f acc s).2
 | 0,_,s,_=>On.refl _ _
 | f+1,acc,s,hd=>by
  rw[qi];split
  ·exact On.refl _ _
  rename_i h;have h1:=(kF hE (dc h).1 (dc h).2).trans (hN (cu ts s nr) _ hd (dc h).1);exact h1.trans (Ht d hN f _ _ (h1.d.trans hd))
theorem Qt{N}{n}{s}(hd:wA s.d)(hN:∀k u,u.d=vw s.d->u.fc=0->On ts u (N k u).2):On ts s (nV ts N n s).2:=by
 unfold nV;have h1:=tG hE (ts.length+1) n ⟨false,false,false⟩ {s with d:=vw s.d};have h3:=h1.trans (Ht hE _ hN (ts.length+1) [] _ h1.d);have h4:=gW hE [125] (s:={(qi ts N (ts.length+1) [] (fz ts (ts.length+1) n ⟨false,false,false⟩ {s with d:=vw s.d}).2).2 with d:=Ud (qi ts N (ts.length+1) [] (fz ts (ts.length+1) n ⟨false,false,false⟩ {s with d:=vw s.d}).2).2.d});refine⟨⟨λh=>h4.lt (h3.lt h),λe=>?_⟩,h4.d.trans ?_⟩
 ·obtain⟨a,b⟩:=h4.le e;obtain⟨c,d⟩:=h3.le a;exact⟨c,bh d b⟩
 rw[h3.d];unfold Ud vw;have:=hd.1;have:=hd.2;simp[IntKind.wrap_i64];omega
omit hE in
theorem Qu (s:Sx):On ts s (nW ts s):=by
 unfold nW;split
 ·split
  ·exact(Bz s).trans (nX _)
  exact Bz s
 exact On.refl _ _
theorem yw k s:On ts s (dY ts k s).2:=(Qu s).trans (uw hE aL)
omit hE in
theorem Qv {k:Int} {s:Sx} (h:(dY ts k s).2.fc=0):s.d≠0:=λe=>by
 revert h;unfold dY fu;dsimp only;by_cases h1:(tk ts s.i).k=1
 ·have hf:(nW ts s).fc≠0:=by
   unfold nW;rw[aR h1,aR ((Bz s).d.trans e)];exact Ho aL
  rw[aR (.inl hf)];exact oZ
 have e2:nW ts s=s:=by unfold nW;rw[aO h1]
 rw[e2,aR (.inr h1)];exact oZ
theorem Hu:∀(f:Nat) (k:Int) (s:Sx),wA s.d->On ts s (jr ts f k s).2
 | 0,_,s,_=>On.refl _ _
 | f+1,k,s,hd=>by
  rw[jr];have h1:=yw hE k s;split
  ·exact((h1.trans (gW hE _)).trans (nY hE)).trans (gW hE _)
  have h2:=h1.trans (gW hE [123]);refine h2.trans (Qt hE (by rw[h2.d];exact hd) λk u hu _=>Hu f k u ?_);rw[hu];exact KT _
theorem L8(s:Sx):On ts s (qY ts s).2:=by
 unfold qY;dsimp only;have h1:On ts s (if(tk ts s.i).k=1 then zo ts s else s):=by
  split
  ·exact Qq s
  exact On.refl _ _
 have h2:∀u:Sx,On ts u (if cu ts u [[45]]=0 then u else cX u):=λu=>by
  split
  ·exact On.refl _ _
  rename_i h;exact kF hE (dc h).1 (dc h).2
 exact((((h1.trans (uw hE aL)).trans (gW hE _)).trans (h2 _)).trans (uw hE aL)).trans (gW hE _)
end
def Mk(w:av)(F:aJ)(e:TypeId)(size:Nat)(s:Sl):Prop:=s.n=0∨∃g cs,s.a=some ⟨g,0,none⟩/\F g/\aF w g e cs/\s.n*size<=cs.length
def ja{α:Type}(t:Bool)(r:Rp α)(size:Nat)(e:TypeId)(w:av)(F:aJ)(s:Sl)(xs:List α):Prop:=aA r size w F s xs/\(t=true->Mk w F e size s)
section
variable {α:Type} {t:Bool} {r q:Rp α} {size:Nat} {e:TypeId} {w w':av} {F G:aJ} {s:Sl} {xs:List α} {B:Nat}
theorem Mk.keep(h:Mk w F e size s)(hk:∀k,F k->k<w.heap.size->w'.heap[k]? =w.heap[k]?):Mk w' F e size s:=by
 rcases h with h | ⟨g,cs,h1,h2,h3,h4⟩
 ·exact .inl h
 exact .inr ⟨g,cs,h1,h2,(hk g h2 h3.lt).trans h3,h4⟩
theorem Mk.mono(h:Mk w F e size s)(hk:∀k,F k->k<w.heap.size->G k):Mk w G e size s:=by
 rcases h with h | ⟨g,cs,h1,h2,h3,h4⟩
 ·exact .inl h
 exact .inr ⟨g,cs,h1,hk g h2 h3.lt,h3,h4⟩
theorem ja.keep(hr:r.Ok)(h:ja t r size e w F s xs)(hs:0<size)(hk:∀k,F k->k<w.heap.size->w'.heap[k]? =w.heap[k]?):ja t r size e w' F s xs:=⟨h.1.keep hr hs hk,λx=>(h.2 x).keep hk⟩
theorem ja.inHeap(hr:r.Ok)(h:ja t r size e w F s xs)(hs:0<size):ja t r size e w (λk=>F k/\k<w.heap.size) s xs:=⟨h.1.inHeap hr hs,λx=>(h.2 x).mono λk a b=>⟨a,b⟩⟩
theorem ja.mono(hr:r.Ok)(h:ja t r size e w F s xs)(hk:∀k,F k->G k):ja t r size e w G s xs:=⟨h.1.mono hr hk,λx=>(h.2 x).mono λk a _=>hk k a⟩
theorem ja.nil(t:Bool)(r:Rp α)(size:Nat)(e:TypeId)(w:av)(F:aJ):ja t r size e w F Sl.nil []:=⟨SliceF.nil _ _ _ _,λ_=>.inl rfl⟩
theorem ja.imp(h:ja t r size e w F s xs)(hi:∀x cs,x∈xs->r w F x cs->q w F x cs):ja t q size e w F s xs:=⟨DC h.1 hi,h.2⟩
theorem ja.off(h:ja t r size e w F s xs)(hi:∀x cs,x∈xs->r w F x cs->q w F x cs):ja false q size e w F s xs:=⟨DC h.1 hi,λh=>aah⟩
theorem _root_.Go.Kt.Own.sl(hr:r.Ok)(h:Own r size e B w F s xs)(hF:∀k,B<=k->F k):ja true r size e w F s xs:=by
 refine⟨(h.slice hr).mono hr λk hk=>hk.elim id λx=>hF k x.1,λ_=>?_⟩;rcases h with⟨rfl,rfl⟩ | ⟨g,css,tail,h1,h2,h4,h5,h6,h7,h9,h8⟩
 ·exact .inl rfl
 exact .inr ⟨g,_,h1,hF g h2,h4,by rw[aN,nJ.Ga h8,<-h6];omega⟩
end
def Ks(t:Bool):Nat->Rp Ex
 | 0=>λ_ _ _ _=>False
 | d+1=>λw F x cs=>∃sl:Sl,cs=kD x.k x.n x.s x.op sl x.a/\ja t (Ks t d) 6 40 w F sl x.dq
theorem om(t:Bool):∀d,(Ks t d).Ok
 | 0=>⟨λh _=>h.elim,λh=>h.elim,λh _=>h.elim,λh=>h.elim⟩
 | d+1=>⟨λ⟨sl,h1,h2⟩ hk=>⟨sl,h1,ja.keep (om t d) h2 aL hk⟩,λ⟨sl,h1,h2⟩=>⟨sl,h1,ja.inHeap (om t d) h2 aL⟩,λ⟨sl,h1,h2⟩ hk=>⟨sl,h1,ja.mono (om t d) h2 hk⟩,λ⟨sl,h1,h2⟩=>by
  subst h1;intro v hv;simp only[aX,be,ca]at hv;rcases hv with rfl | rfl | rfl | rfl | rfl | rfl<;>rfl⟩
theorem L9{t:Bool}{w:av}{F:aJ}:∀{d:Nat} {x:Ex} {cs:aI},Ks t d w F x cs->Ks t (d+1) w F x cs
 | 0,_,_,h=>h.elim
 | d+1,x,cs,⟨sl,h1,h2⟩=>⟨sl,h1,h2.imp λx cs _ h=>L9 h⟩
theorem FH{t:Bool}{w:av}{F:aJ}{d e:Nat}{x:Ex}{cs:aI}(h:d<=e)(hx:Ks t d w F x cs):Ks t e w F x cs:=by
 induction e with
 | zero=>have:d=0:=aE;subst this;exact hx
 | succ e ih=>
  by_cases he:d=e+1
  ·subst he;exact hx
  exact L9 (ih aE)
theorem yx{t:Bool}{w:av}{F:aJ}:∀{d:Nat} {x:Ex} {cs:aI},Ks t d w F x cs->rX d w F x cs
 | 0,_,_,h=>h.elim
 | d+1,x,cs,⟨sl,h1,h2⟩=>⟨sl,h1,DC h2.1 λx cs _ h=>yx h⟩
theorem Ma{w:av}{F:aJ}:∀{d:Nat} {x:Ex} {cs:aI},rX d w F x cs->Ks false d w F x cs
 | 0,_,_,h=>h.elim
 | d+1,x,cs,⟨sl,h1,h2⟩=>⟨sl,h1,DC h2 λx cs _ h=>Ma h,λh=>aah⟩
theorem RXN.xg{w:av}{x:Ex}{cs:aI}{N:aJ}{lo hi:Nat}(h:RXN w N lo hi x cs):∃d,Ks true d w (λk=>lo<=k/\k<hi) x cs:=by
 induction h with
 | leaf lo hi k n s op a=>exact⟨1,Sl.nil,rfl,ja.nil _ _ _ _ _ _⟩
 | one lo m g hi k n s op a x cs h1 h2 h3 h4 hn h5 ih=>
  obtain⟨d,ih⟩:=ih;obtain⟨sl,mq,_⟩:=h1.cells;refine⟨d+1,_,rfl,⟨rfl,aY _,λh=>aah,(by decide:(1:Nat)<=9223372036854775807),λj y hj=>?_⟩,λ_=>.inr ⟨g,cs,rfl,⟨h2,h4⟩,h5,by rw[mq];exact aY _⟩⟩;have Pm:j=0:=by
   have:=(bd.1 hj).1;simp only[Ex.dq,bp]at this;omega
  subst Pm;simp only[Ex.dq,cW,bg]at hj;subst hj;exact⟨⟨g,0,none⟩,cs,rfl,⟨h2,h4⟩,by rw[mq];rfl,by rw[rK];exact h5.cells 0 cs λj v hv=>by rw[bI];exact hv,(om true d).mono ih λk hk=>⟨hk.1,aE⟩⟩
 | two lo m m' m2 g hi k n s op a x y cs ds h1 h2 h3 h4 h5 h6 h7 h8 hn h9 zy CE=>
  obtain⟨d1,zy⟩:=zy;obtain⟨d2,CE⟩:=CE;obtain⟨sl,mq,_⟩:=h1.cells;obtain⟨Ob,NX,_⟩:=h3.cells;have e1:cs.length=6:=by rw[mq];rfl
  have e2:ds.length=6:=by rw[NX];rfl
  refine⟨max d1 d2+1,_,rfl,⟨rfl,aY _,λh=>aah,(by decide:(2:Nat)<=9223372036854775807),λj y hj=>?_⟩,λ_=>.inr ⟨g,cs++ds,rfl,⟨aE,h8⟩,h9,by rw[aN,e1,e2];exact aY _⟩⟩;rcases j with _ | _ | j
  ·simp only[Ex.dq,cW,bg]at hj;subst hj;exact⟨⟨g,0,none⟩,cs,rfl,⟨aaq,h8⟩,e1,by rw[rK];exact h9.cells 0 cs λj v hv=>by rw[bI,bT (bd.1 hv).1];exact hv,(om true _).mono (FH (xv _ _) zy) λk hk=>⟨hk.1,aE⟩⟩
  ·simp only[Ex.dq,gL,cW,bg]at hj;subst hj;exact⟨⟨g,0,none⟩,ds,rfl,⟨aaq,h8⟩,e2,by
    rw[gM];exact h9.cells 6 ds λj v hv=>by rw[dE aE,e1,dI];exact hv,(om true _).mono (FH (vV _ _) CE) λk hk=>⟨aE,aE⟩⟩
  simp[Ex.dq]at hj
def rE(t:Bool):Rp Ex:=λw F x cs=>∃d,Ks t d w F x cs
theorem gF(t:Bool):(rE t).Ok:=⟨λ⟨d,h⟩ hk=>⟨d,(om t d).keep h hk⟩,λ⟨d,h⟩=>⟨d,(om t d).inHeap h⟩,λ⟨d,h⟩ hk=>⟨d,(om t d).mono h hk⟩,λ⟨d,h⟩=>(om t d).one h⟩
theorem eV{t:Bool}{w:av}{F:aJ}{x:Ex}{cs:aI}(h:rE t w F x cs):∃sl,cs=kD x.k x.n x.s x.op sl x.a:=by
 obtain⟨d,h⟩:=h;cases d with
 | zero=>exact h.elim
 | succ d=>obtain⟨sl,h,_⟩:=h;exact⟨sl,h⟩
theorem Mb{t:Bool}{w:av}{F:aJ}{x:Ex}{cs:aI}(h:rE t w F x cs):rE false w F x cs:=by
 obtain⟨d,h⟩:=h;exact⟨d,Ma (yx h)⟩
theorem WG(t:Bool)(w:av)(F:aJ):rE t w F tT (kD 0 0 [] 0 Sl.nil 0):=⟨1,Sl.nil,rfl,ja.nil _ _ _ _ _ _⟩
def acv(k:Int)(n:aH)(xc:aI)(a:Int):aI:=O U k::ab (T n)::(xc++[O U a])
def sN(t:Bool):Rp Ac:=λw F x cs=>∃xc,cs=acv x.k x.n xc x.a/\rE t w F x.x xc
theorem dH(t:Bool):(sN t).Ok:=⟨λ⟨c,h1,h2⟩ hk=>⟨c,h1,(gF t).keep h2 hk⟩,λ⟨c,h1,h2⟩=>⟨c,h1,(gF t).inHeap h2⟩,λ⟨c,h1,h2⟩ hk=>⟨c,h1,(gF t).mono h2 hk⟩,λ⟨c,h1,h2⟩=>by
 subst h1;intro v hv;simp only[acv,aX,cD,be,ca]at hv;rcases hv with rfl | rfl | h | rfl
 ·rfl
 ·rfl
 ·exact(gF t).one h2 v h
 rfl⟩
def mvv(k:Int)(ev:aH)(wt:Int)(gd:Bool)(gc:aI)(nM tg:Sl)(a:Int):aI:=O U k::ab (T ev)::O U wt::aj gd::(gc++[nM.v,tg.v,O U a])
def zq(t:Bool):Rp Mv:=λw F x cs=>∃gc nM tg,cs=mvv x.k x.ev x.wt x.gd gc nM tg x.a/\rE t w F x.g gc/\ja t (sN t) 9 139 w F nM x.acts/\ja t jR 1 9 w F tg x.tg
theorem gj(t:Bool):(zq t).Ok:=⟨λ⟨c,nM,tg,h1,h2,h3,h4⟩ hk=>⟨c,nM,tg,h1,(gF t).keep h2 hk,h3.keep (dH t) aL hk,h4.keep db aL hk⟩,
 λ⟨c,nM,tg,h1,h2,h3,h4⟩=>⟨c,nM,tg,h1,(gF t).inHeap h2,h3.inHeap (dH t) aL,h4.inHeap db aL⟩,
 λ⟨c,nM,tg,h1,h2,h3,h4⟩ hk=>⟨c,nM,tg,h1,(gF t).mono h2 hk,h3.mono (dH t) hk,h4.mono db hk⟩,
 λ⟨c,nM,tg,h1,h2,h3,h4⟩=>by
  subst h1;intro v hv;simp only[mvv,aX,cD,be,ca]at hv;rcases hv with rfl | rfl | rfl | rfl | h | rfl | rfl | rfl
  ·rfl
  ·rfl
  ·rfl
  ·rfl
  ·exact(gF t).one h2 v h
  ·rfl
  ·rfl
  rfl⟩
def OY:Rp Vr:=λ_ _ x cs=>cs=[ab (T x.n),O U x.v,O U x.a]
theorem iW:OY.Ok:=⟨λh _=>h,λh=>h,λh _=>h,λh=>by
 unfold OY at h;subst h;intro v hv;simp only[aX,be,ca]at hv;rcases hv with rfl | rfl | rfl<;>rfl⟩
abbrev oB(k:Int)(nm ini dft:aH)(en lv mv kids:Sl)(a:Int):aI:=[O U k,ab (T nm),ab (T ini),ab (T dft),en.v,lv.v,mv.v,kids.v,O U a]
def BC(t:Bool)(w:av)(F:aJ)(x:Nb)(en lv mv:Sl):Prop:=ja t (sN t) 9 139 w F en x.en/\ja t (sN t) 9 139 w F lv x.lv/\ja t (zq t) 13 43 w F mv x.mv
def rY(t:Bool):Nat->Rp Nd
 | 0=>λ_ _ _ _=>False
 | d+1=>λw F x cs=>∃en lv mv kids:Sl,cs=oB x.b.k x.b.nm x.b.ini x.b.dft en lv mv kids x.b.a/\BC t w F x.b en lv mv/\ja t (rY t d) 9 27 w F kids x.kids
section
variable {t:Bool} {w w':av} {F G:aJ} {x:Nb} {en lv mv:Sl}
theorem BC.keep(h:BC t w F x en lv mv)(hk:∀k,F k->k<w.heap.size->w'.heap[k]? =w.heap[k]?):BC t w' F x en lv mv:=⟨h.1.keep (dH t) aL hk,h.2.1.keep (dH t) aL hk,h.2.2.keep (gj t) aL hk⟩
theorem BC.inHeap(h:BC t w F x en lv mv):BC t w (λk=>F k/\k<w.heap.size) x en lv mv:=⟨h.1.inHeap (dH t) aL,h.2.1.inHeap (dH t) aL,h.2.2.inHeap (gj t) aL⟩
theorem BC.mono(h:BC t w F x en lv mv)(hk:∀k,F k->G k):BC t w G x en lv mv:=⟨h.1.mono (dH t) hk,h.2.1.mono (dH t) hk,h.2.2.mono (gj t) hk⟩
end
theorem du(t:Bool):∀d,(rY t d).Ok
 | 0=>⟨λh _=>h.elim,λh=>h.elim,λh _=>h.elim,λh=>h.elim⟩
 | d+1=>⟨λ⟨en,lv,mv,kids,h1,h2,h3⟩ hk=>⟨en,lv,mv,kids,h1,h2.keep hk,ja.keep (du t d) h3 aL hk⟩,
  λ⟨en,lv,mv,kids,h1,h2,h3⟩=>⟨en,lv,mv,kids,h1,h2.inHeap,ja.inHeap (du t d) h3 aL⟩,
  λ⟨en,lv,mv,kids,h1,h2,h3⟩ hk=>⟨en,lv,mv,kids,h1,h2.mono hk,ja.mono (du t d) h3 hk⟩,λ⟨en,lv,mv,kids,h1,h2,h3⟩=>by
  subst h1;intro v hv;simp only[aX,be,ca]at hv;rcases hv with rfl | rfl | rfl | rfl | rfl | rfl | rfl | rfl | rfl<;>rfl⟩
theorem BD{t:Bool}{w:av}{F:aJ}{x:Ac}{cs:aI}(h:sN t w F x cs):sN false w F x cs:=by
 obtain⟨c,h1,h2⟩:=h;exact⟨c,h1,Mb h2⟩
theorem Qw{t:Bool}{w:av}{F:aJ}{x:Mv}{cs:aI}(h:zq t w F x cs):zq false w F x cs:=by
 obtain⟨c,nM,tg,h1,h2,h3,h4⟩:=h;exact⟨c,nM,tg,h1,Mb h2,h3.off λ_ _ _ h=>BD h,h4.off λ_ _ _ h=>h⟩
theorem BC.off{t:Bool}{w:av}{F:aJ}{x:Nb}{en lv mv:Sl}(h:BC t w F x en lv mv):BC false w F x en lv mv:=⟨h.1.off λ_ _ _ h=>BD h,h.2.1.off λ_ _ _ h=>BD h,h.2.2.off λ_ _ _ h=>Qw h⟩
theorem Hv{t:Bool}{w:av}{F:aJ}:∀{d:Nat} {x:Nd} {cs:aI},rY t d w F x cs->rY false d w F x cs
 | 0,_,_,h=>h.elim
 | d+1,x,cs,⟨en,lv,mv,kids,h1,h2,h3⟩=>⟨en,lv,mv,kids,h1,h2.off,h3.off λx cs _ h=>Hv h⟩
structure ChR (t:Bool) (d:Nat) (w:av) (F:aJ) (c:Ch) (vs:Sl) (cs:aI):Prop where
 vars:ja t OY 3 59 w F vs c.vars
 root:rY t d w F c.root cs
abbrev Fr(B:Nat):aJ:=λk=>B<=k
section
variable {α:Type} {r:Rp α} {size:Nat} {e:TypeId} {w w':av} {s:Sl} {xs:List α} {B:Nat}
theorem _root_.Go.Kt.Own.stay(hr:r.Ok)(h:Own r size e B w (Fr B) s xs){bs:List Nat}(hO:ay bs w w')(hb:∀x,x∈bs->x<B∨w.heap.size<=x):Own r size e B w' (Fr B) s xs:=by
 refine((h.inHeap hr).keep hr λk hk cd=>hO.block k cd λhm=>?_).mono hr λk hk=>hk.1;have wM:B<=k/\k<w.heap.size:=by
  rcases hk with hk | hk
  ·exact hk
  exact⟨hk.1,cd⟩
 rcases hb k hm with h | h<;>omega
theorem _root_.Go.Kt.Own.new(h:Own r size e B w (Fr B) s xs){k:Nat}(hk:w.heap.size<=k):s.a≠some ⟨k,0,none⟩:=λe=>by
 have:=(h.blk e).2;dsimp only at this;omega
end
mutual
def yy:Ex->Nat
 | .mk _ _ _ _ l _=>Sn l+1
def Sn:List Ex->Nat
 | []=>0
 | x::l=>max (yy x) (Sn l)
end
mutual
def yV:Ex->Nat
 | .mk _ _ s _ l _=>OZ l+(s.length+1)
def OZ:List Ex->Nat
 | []=>0
 | x::l=>yV x+OZ l
end
theorem BE(x:Ex):yy x=Sn x.dq+1:=by cases x;rw[yy];rfl
theorem FI(x:Ex):yV x=OZ x.dq+(x.s.length+1):=by cases x;rw[yV];rfl
theorem xd{y:Ex}:∀{l:List Ex},y∈l->yy y<=Sn l
 | [],h=>aax
 | x::l,h=>by
  rw[Sn];rcases aX.1 h with rfl | h
  ·exact xv _ _
  exact bh (xd h) (vV _ _)
theorem Hw{y:Ex}:∀{l:List Ex},y∈l->yV y<=OZ l
 | [],h=>aax
 | x::l,h=>by
  rw[OZ];rcases aX.1 h with rfl | h
  ·omega
  have:=Hw h;omega
theorem Mc{d:Nat}:∀{l:List Ex},(∀y,y∈l->yy y<=d)->Sn l<=d
 | [],_=>by rw[Sn];omega
 | x::l,h=>by
  rw[Sn];exact Nat.max_le.2 ⟨h x aM,Mc λy hy=>h y (by simp[hy])⟩
theorem BF(x:Ex):1<=yy x:=by rw[BE];omega
theorem FJ{w:av}{F:aJ}:∀{d:Nat} {x:Ex} {cs:aI},rX d w F x cs->yy x<=d
 | 0,_,_,h=>h.elim
 | d+1,x,cs,⟨sl,h1,h2⟩=>by
  rw[BE];refine Kn (Mc λy hy=>?_);obtain⟨j,hj⟩:=lc hy;obtain⟨_,cs,_,_,_,_,h⟩:=h2.at_ j y hj;exact FJ h
theorem yz{f g:Ex->Bool}:∀{l:List Ex},(∀y,y∈l->f y=g y)->iB f l=iB g l
 | [],_=>rfl
 | x::l,h=>by rw[iB,iB,h x aM,yz λy hy=>h y (by simp[hy])]
theorem DN:∀(d e:Nat) (x:Ex),yy x<=d->yy x<=e->cf d x=cf e x
 | 0,_,x,h,_=>ace
 | _,0,x,_,h=>ace
 | d+1,e+1,x,h,k=>by
  rw[BE]at h k;rw[cf,cf,yz λy hy=>DN d e y (by have:=xd hy;omega) (by have:=xd hy;omega)]
theorem Hx:∀(d e:Nat) (x:Ex) (wr:Bool) (l:aH),yy x<=d->yy x<=e->mF d x wr l=mF e x wr l
 | 0,_,x,_,_,h,_=>ace
 | _,0,x,_,_,_,h=>ace
 | d+1,e+1,x,wr,l,h,k=>by
  rw[BE]at h k;have hm:∀y,y∈x.dq->yy y<=d/\yy y<=e:=λy hy=>by have:=xd hy;omega
  rw[mF,mF];cases hx:x.dq with
  | nil=>rfl
  | cons y m=>
   cases m with
   | nil=>
    have hy:=hm y (by rw[hx];simp);dsimp only;rw[Hx d e y _ _ hy.1 hy.2]
   | cons z m=>
    cases m with
    | nil=>
     have hy:=hm y (by rw[hx];simp);have hz:=hm z (by rw[hx];simp);dsimp only;rw[Hx d e y _ _ hy.1 hy.2,Hx d e z _ _ hz.1 hz.2]
    | cons _ _=>rfl
theorem Md:∀(d:Nat) (x:Ex),oh d x<=yV x
 | 0,x=>bm _
 | d+1,x=>by
  rw[oh,FI];have:∀l:List Ex,sL (oh d) l<=OZ l:=λl=>by
   induction l with
   | nil=>exact bm _
   | cons y l ih=>rw[sL,OZ];exact kX (Md d y) ih
  have:=this x.dq;omega
theorem FK:∀(d:Nat) (x:Ex),yV x<4611686018427387903->sZ d x
 | 0,x,_=>trivial
 | d+1,x,h=>by
  rw[FI]at h;exact⟨aE,λy hy=>FK d y (by have:=Hw hy;omega)⟩
def Js(x:Ex):Prop:=∀d,jz d x
def qD(x:Ex):aH:=ld (yy x) x
theorem Hy{d:Nat}{x:Ex}(h:yy x<=d):ld d x=qD x:=by
 unfold qD ld;rw[DN d (yy x) x h (aY _),Hx d (yy x) x false [] h (aY _)]
theorem DP{d:Nat}{x:Ex}(h:ld d x≠[]):cf d x=true/\ld d x=mF d x false []/\(fi (mF d x false [])).2.1=0:=by
 unfold ld at h⊢;by_cases hs:cf d x=true
 ·rw[aR hs]at h⊢;by_cases hr:(fi (mF d x false [])).2.1≠0
  ·rw[aR hr]at h;exact absurd rfl h
  rw[aO hr];exact⟨hs,rfl,aco⟩
 rw[aO hs]at h;exact absurd rfl h
theorem Qx{w:av}{F:aJ}{x:Ex}{cs:aI}(hx:rE false w F x cs)(hn:Js x)(hs:yV x<=1759218604441)(hE:Er w)(hT:Tb w):
  az aq 184 #[ah cs.toArray] w λe w'=>e=ak (ab (T (qD x)))/\ay [] w w':=by
 obtain⟨d,h⟩:=hx;have h:=yx h;rw[<-Hy (FJ h)];exact Uc h (FK d x aE) (hn d) hE hT (by have:=Md d x;omega)
def mj(x:Ex):Bool:=(((x.k==0&&x.n==0)&&decide (x.s=[]))&&x.op==0)&&((x.dq.length:Int)==0)
def oo(x:Ex):Bool:=decide (qD x≠[])
def fx(a:Ac):Bool:=decide (1<=a.k/\a.k<=3)&&cN a.n&&(if a.k=2 then mj a.x else oo a.x)
def jo(m:Mv):Bool:=
 decide (1<=m.k/\m.k<=3)&&(if m.k=1 then cN m.ev else decide (m.ev=[]))&&(if m.gd then oo m.g else mj m.g)&&m.acts.all fx&&m.tg.all cN&&decide (m.wt=0∨m.k=3/\0<m.wt)
def jX(k:Int):Bool:=decide (k=3∨k=4)
def rh(b:Nb)(kids:Nat):Bool:=
 cN b.nm&&(if jX b.k then cN b.dft&&decide (b.ini=[]/\b.en=[]/\b.lv=[]/\b.mv.length=0/\kids=0)
  else decide ((b.k=1∨b.k=2)/\b.dft=[])&&(decide (b.ini=[])||cN b.ini)&&b.en.all fx&&b.lv.all fx&&b.mv.all jo)
mutual
def jM:Nat->Nd->Bool
 | d,.mk b l=>decide (d<12)&&rh b l.length&&gX (d+1) l
def gX:Nat->List Nd->Bool
 | _,[]=>true
 | d,x::l=>jM d x&&gX d l
end
def uZ(b:Nb):Nat:=b.en.length+b.lv.length+(b.mv.map λm=>m.acts.length).sum
mutual
def n8:Nd->Nat
 | .mk _ l=>gH l+1
def gH:List Nd->Nat
 | []=>0
 | x::l=>n8 x+gH l
end
mutual
def rZ:Nd->Nat
 | .mk b l=>b.mv.length+kH l
def kH:List Nd->Nat
 | []=>0
 | x::l=>rZ x+kH l
end
mutual
def r9:Nd->Nat
 | .mk b l=>uZ b+jN l
def jN:List Nd->Nat
 | []=>0
 | x::l=>r9 x+jN l
end
def pR(c:Ch):Bool:=
 (c.vars.all λv=>cN v.n&&decide (v.v≠ -9223372036854775808))&&jM 0 c.root&&decide (c.root.b.k=1/\c.vars.length<=16/\n8 c.root<=64/\rZ c.root<=200/\r9 c.root<=400)
def u6(a:Ac):aH:=
 if a.k=2 then iC++32::(a.n++[59])else(if a.k=1 then nK else jL)++32::(a.n++32::61::32::(qD a.x++[59]))
def tH:List Ac->aH
 | []=>[]
 | a::l=>32::(u6 a++tH l)
def sI(l:List Ac):aH:=123::(tH l++[32,125])
def zr:List (aH)->aH
 | []=>[]
 | s::l=>44::32::(s++zr l)
def Jt(m:Mv):aH:=if m.k=1 then wG++32::m.ev else if m.k=3 then fY++32::Lib.itoa m.wt else fI
def Hz(m:Mv):aH:=if m.gd then 32::91::(qD m.g++[93])else[]
def sO(m:Mv):aH:=
 Jt m++(Hz m++((if m.acts=[]then[]else 32::sI m.acts)++((match m.tg with
  | []=>[]
  | s::l=>32::45::62::32::(s++zr l))++[59])))
def kW(k:Int):aH:=if k=1 then yt else if k=2 then oX else if k=3 then qX else DH
abbrev Ln:=Nat×aH
def ri(d:Nat)(b:Nb):List Ln:=if b.ini=[]then[]else[(d,ec++32::(b.ini++[59]))]
def FL(d:Nat)(b:Nb):List Ln:=if b.en=[]then[]else[(d,fZ++32::sI b.en)]
def HA(d:Nat)(b:Nb):List Ln:=if b.lv=[]then[]else[(d,ga++32::sI b.lv)]
def WH(d:Nat)(b:Nb):List Ln:=b.mv.map λm=>(d,sO m)
def yW(d:Nat)(b:Nb):List Ln:=ri d b++(FL d b++(HA d b++WH d b))
mutual
def yX:Nat->Nd->List Ln
 | d,.mk b l=>
  if jX b.k then[(d,kW b.k++32::(b.nm++32::45::62::32::(b.dft++[59])))]
  else(d,kW b.k++32::(b.nm++[32,123]))::(yW (d+1) b++(lD (d+1) l++[(d,[125])]))
def lD:Nat->List Nd->List Ln
 | _,[]=>[]
 | d,x::l=>yX d x++lD d l
end
def O0(v:Vr):aH:=sM++32::(v.n++32::61::32::(Lib.itoa v.v++[59]))
def we(c:Ch):List Ln:=
 (0,dX++32::(c.root.b.nm++[32,123]))::((c.vars.map λv=>(1,O0 v))++(yW 1 c.root.b++(lD 1 c.root.kids++[(0,[125])])))
def qs:Nat->aH
 | 0=>[]
 | d+1=>32::32::qs d
def So(p:Ln):aH:=qs p.1++(p.2++[10])
def iq(b:aH)(p:Ln):aH:=if 16384<b.length then b else b++So p
def cZ(b:aH)(L:List Ln):aH:=L.foldl iq b
def ux(L:List Ln):aH:=L.flatMap So
theorem HB(b:aH)(p:Ln):b.length<=(iq b p).length:=by
 unfold iq;split
 ·exact aY _
 rw[aN];omega
theorem DQ:∀(L:List Ln) (b:aH),b.length<=(cZ b L).length
 | [],_=>aY _
 | p::L,b=>bh (HB b p) (DQ L _)
theorem fg(b:aH)(L M:List Ln):cZ b (L++M)=cZ (cZ b L) M:=tX
theorem pS(b:aH)(p:Ln)(L:List Ln):cZ b (p::L)=cZ (iq b p) L:=rfl
theorem FM:∀(L:List Ln) (b:aH),(cZ b L).length<=16384->cZ b L=b++ux L
 | [],b,_=>(bL b).symm
 | p::L,b,h=>by
  rw[pS]at h⊢;have h1:=DQ L (iq b p);have h2:=HB b p;rw[FM L _ h];have:iq b p=b++So p:=by unfold iq;rw[aO aE]
  rw[this,bf];rfl
theorem DR:∀(L:List Ln) (b:aH),16384<b.length->cZ b L=b
 | [],_,_=>rfl
 | p::L,b,h=>by
  have:iq b p=b:=by unfold iq;rw[aR h]
  rw[pS,this,DR L b h]
def gn(c:Ch):aH×Int:=
 if pR c=true then(if 16384<(cZ [] (we c)).length then([],2)else(cZ [] (we c),0))else([],22)
def Ab(a:Ac):Prop:=Js a.x
structure IV (m:Mv):Prop where
 g:Js m.g
 a:∀x,x∈m.acts->Ab x
 w:wA m.wt
structure Tc (b:Nb):Prop where
 en:∀a,a∈b.en->Ab a
 lv:∀a,a∈b.lv->Ab a
 mv:∀m,m∈b.mv->IV m
mutual
def yY:Nd->Prop
 | .mk b l=>Tc b/\uy l
def uy:List Nd->Prop
 | []=>True
 | x::l=>yY x/\uy l
end
structure Ry (c:Ch):Prop where
 v:∀v,v∈c.vars->wA v.v
 r:yY c.root
structure GC where
 k:Int
 nm:aH
 pa:Int
 dp:Int
 en:Int
theorem Qy:∀x,1<=n8 x
 | .mk b l=>by rw[n8];omega
theorem DS{x:Nd}:∀{l:List Nd},x∈l->n8 x<=gH l
 | [],h=>aax
 | y::l,h=>by
  rw[gH];rcases aX.1 h with rfl | h
  ·omega
  have:=DS h;omega
def ae5(L:List GC)(a i:Nat)(s:GC):Prop:=∃p t,p<i/\L[p]? =some t/\s.pa=((a+p:Nat):Int)/\s.dp=t.dp+1/\((a+i:Nat):Int)<t.en/\s.en<=t.en/\∀j u,p<j->j<i->L[j]? =some u->u.en<=((a+i:Nat):Int)
structure Fo (xs:List GC):Prop where
 ne:0<xs.length
 rt:∀s:GC,xs[0]? =some s->s.pa= -1/\s.dp=0/\s.en=(xs.length:Int)
 up:∀(i:Nat) (s:GC),xs[i]? =some s->(i:Int)<s.en/\s.en<=(xs.length:Int)
 pa:∀(i:Nat) (s:GC),0<i->xs[i]? =some s->ae5 xs 0 i s
abbrev Ft:=Int×Int
def bad(ok:Bool)(e a:Int):List Ft:=if ok then[]else[(e,a)]
def Cd(L:List Ft):Prop:=∀p,p∈L->p.1≠0
theorem Cd.nil:Cd []:=λp h=>aax
theorem sd{s:aH}:∀{l:List (aH)},wF s l<l.length↔s∈l
 | []=>aM
 | x::l=>by
  rw[wF,aX,aU];split
  ·rename_i e;exact⟨λ_=>.inl e,λ_=>aE⟩
  rename_i e;have:=sd (s:=s) (l:=l);exact⟨λh=>.inr (this.1 aE),λh=>by have:=this.2 (h.resolve_left e);omega⟩
theorem HC{s:aH}(m:List (aH)):∀{l:List (aH)},s∈l->wF s (l++m)=wF s l
 | [],h=>aax
 | x::l,h=>by
  rw[cy,wF,wF];split
  ·rfl
  rename_i e;rw[HC m ((aX.1 h).resolve_left e)]
theorem HD{s:aH}(m:List (aH)):∀{l:List (aH)},s∉l->wF s (l++s::m)=l.length
 | [],_=>by rw[cp,wF,aR rfl];rfl
 | x::l,h=>by
  rw[cy,wF,aO (λe=>h (by rw[e];simp)),HD m (λhm=>h (cV _ hm))];rfl
def ne(l:aH):Bool:=!decide (l=[])
def fA(ws:List (aH)):aH:=Lib.join (ws.filter ne) [32]
theorem Only.below{w w':av}(h:Below w.heap.size w w'):ay [] w w':=⟨h.os,h.tape,h.output,h.size,λk hk _=>h.block k hk⟩
theorem FN{w:av}{F:aJ}:∀{l:List (aH)} {css:List (aI)},nJ jR 1 w F l css->css.flatten=l.map λx=>ab (T x)
 | [],[],_=>rfl
 | c::l,d::css,h=>by
  obtain⟨⟨_,h1⟩,h2⟩:=h;unfold jR at h1;subst h1;rw[dw,FN h2];rfl
theorem Ad(l:aH)(w:av):az aq 147 #[ab (T l)] w λe w'=>e=ak (aj (decide (l=[])))/\w'=w:=by
 refine ret (adX _ _ _ ?_);exact⟨by rw[show ao #[]=T []from rfl,ju],rfl⟩
section
variable {w:av} {B:Nat} {F:aJ} {s:Sl} {ws:List (aH)}
theorem Me(h:Own jR 1 9 B w F s ws):az aq 182 #[s.v,.func (.func 147) #[] #[]] w λe w'=>
  ∃i:Int,e=ak (O U i)/\w'=w/\((i= -1/\ws.filter ne=ws)∨∃n:Nat,i=n/\n<ws.length/\(ws.take (n+1)).filter ne=ws.take n):=by
 refine(YQ s ⟨.func (.func 147) #[] #[],rfl⟩ (λv w'=>∃i:Int,v=O U i/\w'=w/\((i= -1/\ws.filter ne=ws)∨∃n:Nat,i=n/\n<ws.length/\(ws.take (n+1)).filter ne=ws.take n)) w ?_).mono (by
  rintro e w' ⟨v,rfl,i,rfl,h⟩;exact⟨i,rfl,h⟩)
 have hs:=h.slice db;have eu:=hs.len;have pq:=hs.big;have nD:=hs.cap;refine⟨λnv i w'=>∃n:Nat,n<=ws.length/\i=(n:Int)/\nv=ws.length-n/\(ws.take n).filter ne=ws.take n/\w'=w,ws.length,⟨0,bm _,rfl,rfl,rfl,rfl⟩,?_⟩;rintro nv _ w0 ⟨n,hn,rfl,rfl,fm,rfl⟩;refine⟨λhc=>?_,λhc=>?_⟩
 ·have cd:(n:Int)<s.n:=aV hc;obtain⟨ad,x,cs,g1,g2,g3,g4,g5,g6⟩:=hs.get (bc n) cd;rw[ba]at g2;unfold jR at g6;subst g6;have ht:ws.take (n+1)=ws.take n++[x]:=by
   rw[bK,g2];rfl
  refine⟨ad,g1,_,g5,147,[],[],rfl,ky (by kernel_rfl),?_⟩;refine(Ad x w0).mono ?_;rintro _ w1 ⟨rfl,rfl⟩;refine⟨_,rfl,λhb=>⟨_,rfl,rfl,.inr ⟨n,rfl,aE,?_⟩⟩,λhb=>⟨ws.length-(n+1),aE,n+1,aE,aad,rfl,?_,rfl⟩⟩
  ·have hb:x=[]:=aV hb;rw[ht,mR,fm,hb];simp[ne]
  have hb:x≠[]:=aW hb;rw[ht,mR,fm];simp[ne,hb]
 have nE:¬(n:Int)<s.n:=aW hc;rw[bU aE]at fm;exact⟨_,rfl,rfl,.inl ⟨rfl,fm⟩⟩
theorem Ju(h:Own jR 1 9 B w F s ws):az aq 146 #[s.v,.func (.func 147) #[] #[]] w λe w'=>
  ∃s':Sl,e=ak s'.v/\Own jR 1 9 B w' F s' (ws.filter ne)/\aD (λk=>B<=k) w w':=by
 refine(YP s ⟨.func (.func 147) #[] #[],rfl⟩ (λv w'=>∃s':Sl,v=s'.v/\Own jR 1 9 B w' F s' (ws.filter ne)/\aD (λk=>B<=k) w w') w ?_).mono (by
  rintro e w' ⟨v,rfl,s',rfl,h⟩;exact⟨s',rfl,h⟩)
 have eu:=h.len;have nD:=h.cap;have pq:=(h.slice db).big;refine(Me h).mono ?_;rintro _ w0 ⟨i,rfl,rfl,hi⟩;refine⟨i,rfl,λhc=>?_,λhc=>?_⟩
 ·rcases hi with⟨_,hf⟩ | ⟨n,rfl,hn,hf⟩
  ·rw[hf];exact⟨s,rfl,h,OnlyP.refl _ _⟩
  have:(n:Int)= -1:=eq_of_beq hc;omega
 rcases hi with⟨rfl,_⟩ | ⟨n,rfl,hn,hf⟩
 ·exact absurd hc aL
 refine⟨λnv a b w'=>∃(L:List (aH)) (p q:Nat),a=p/\b=q/\p<q/\q<=ws.length/\nv=ws.length-q/\L.length=ws.length/\L.take p=(ws.take q).filter ne/\L.drop q=ws.drop q/\Own jR 1 9 B w' F s L/\aD (λk=>B<=k) w0 w',
  ws.length-(n+1),⟨ws,n,n+1,rfl,aad,aE,aE,rfl,rfl,hf.symm,rfl,h,OnlyP.refl _ _⟩,?_⟩
 rintro nv _ _ w1 ⟨L,p,q,rfl,rfl,hpq,hq,rfl,hL,ht,hd,hO,hP⟩;refine⟨λhc=>?_,λhc=>?_⟩
 ·have cd:(q:Int)<s.n:=aV hc;have hq':q<ws.length:=aE
  obtain⟨ad,x,cs,g1,g2,g3,g4,g5,g6⟩:=(hO.slice db).get (bc q) cd;rw[ba]at g2;unfold jR at g6;subst g6;have hx:ws[q]? =some x:=by
   rw[<-g2];have e1:=br (λl=>l[0]?) hd;simpa using e1.symm
  have hw:ws.take (q+1)=ws.take q++[x]:=by
   rw[bK,hx];rfl
  have hdn:∀M:List (aH),(∀j,q+1<=j->M[j]? =L[j]?)->M.drop (q+1)=ws.drop (q+1):=λM hM=>by
   apply nP;intro j;rw[iO,iO,hM _ aE];have e1:=br (λl=>l[1+j]?) hd;simp only[iO]at e1;rw[show q+1+j=q+(1+j) by omega];exact e1
  refine⟨λj w2=>∃(M:List (aH)) (p':Nat),j=p'/\p'<q+1/\M.length=ws.length/\M.take p'=(ws.take (q+1)).filter ne/\M.drop (q+1)=ws.drop (q+1)/\Own jR 1 9 B w2 F s M/\aD (λk=>B<=k) w0 w2,?_,ad,g1,_,g5,147,[],[],rfl,ky (by kernel_rfl),?_⟩
  ·rintro _ w2 ⟨M,p',rfl,m1,m2,m3,m4,m5,m6⟩;exact⟨ws.length-(q+1),aE,M,p',q+1,rfl,aad,m1,hq',rfl,m2,m3,m4,m5,m6⟩
  refine(Ad x w1).mono ?_;rintro _ w2 ⟨rfl,rfl⟩;refine⟨_,rfl,λhb=>?_,λhb=>?_⟩
  ·have hb:x≠[]:=aap
   obtain⟨g,cells,b1,b2,b3,b4,b5⟩:=hO.store db (n:=p) aE (x:=x) (vs:=[ab (T x)]) (G:=λ_=>False) rfl rfl (λk hk=>hk.elim) aL;refine⟨⟨g,p*1,none⟩,b2,g,p*1,cells,_,rfl,b3,b4,λw3 da sT=>⟨L.set p x,p+1,aad,aE,by rw[OS];exact hL,?_,hdn _ λj hj=>by rw[List.getElem?_set_ne aE],b5 w3 da sT,hP.trans (da.p (F:=λk=>B<=k) λk hk=>.inl ?_) λk hk=>.inl hk⟩⟩
   ·rw[hw,mR,<-ht,bK,List.getElem?_set_self aE,List.take_set_of_le aE];simp[ne,hb]
   simp only[aQ]at hk;subst hk;rcases hO with⟨rfl,_⟩ | ⟨g',_,_,a1,a2,_⟩
   ·cases b1
   rw[a1]at b1;injection b1 with b1;injection b1 with b1;omega
  have hb:x=[]:=aap
  refine⟨L,p,rfl,aE,hL,?_,hdn _ λj _=>rfl,hO,hP⟩;rw[hw,mR,<-ht,hb];simp[ne]
 have nE:¬(q:Int)<s.n:=aW hc;have hqe:q=ws.length:=aE
 subst hqe;rw[bU (aY _)]at ht;obtain⟨w2,g,c1,c2,c3,c4⟩:=Own.clear (P:=aq) (t:=41) (ty:=0) (i:=p) db aL (by kernel_rfl) (λw=>Tryz.zeroValue9 w) (by intro v hv;simp[Value.cells]at hv;subst hv;rfl) rfl hO aE;refine⟨p,⟨rfl,aE,nD⟩,w2,c1,p,⟨rfl,aE⟩,_,rfl,?_,hP.trans (c3.p (F:=λk=>B<=k) λk hk=>.inl ?_) λk hk=>.inl hk⟩
 ·rw[<-ht];exact c4
 simp only[aQ]at hk;subst hk;rcases hO with⟨rfl,_⟩ | ⟨g',_,_,a1,a2,_⟩
 ·cases c2
 rw[a1]at c2;injection c2 with c2;injection c2 with c2;omega
theorem yA(h:Own jR 1 9 B w F s ws)(hl:(fA ws).length<=140737488355328)(hn:ws.length<=140737488355328):az aq 101 #[s.v] w λe w'=>e=ak (ab (T (fA ws)))/\aD (λk=>B<=k) w w':=by
 refine ret (adW _ _ _ ?_);refine(Ju h).mono ?_;rintro _ w1 ⟨s',rfl,hO,hP⟩;refine⟨s',rfl,?_⟩;have eu:=hO.len;have IE:=List.length_filter_le ne ws;have Rz:∀{w2:av},ay [] w1 w2->aD (λk=>B<=k) w w2:=λh=>hP.trans h.p0 λk hk=>.inl hk;rcases hO with⟨rfl,he⟩ | ⟨g,css,tail,a1,a2,a4,a5,a6,a7,a9,a8⟩
 ·refine(Tryz.strings_Join_none none 0 (T [32]) w1).mono ?_;rintro _ w2 ⟨rfl,rfl⟩;refine⟨_,rfl,?_,hP⟩;unfold fA;rw[he];rfl
 obtain⟨sa,sn,sc⟩:=s';dsimp only at a1 a5 a6 a7 a9 eu;subst a1 eu;have S0:=FN a8;have:=Tryz.strings_Join g 0 sc ((ws.filter ne).map T) (T [32]) w1 (λj x hj=>by
  rw[cR,fM]at hj;obtain⟨y,hy,rfl⟩:=hj;have:=a4.cells 0 ((ws.filter ne).map λx=>Value.string (T x)) (λj v hj=>by rw[bI,S0,bT (bd.1 hj).1];exact hj) j (ab (T y)) (by rw[cR,hy];rfl);rw[gM]at this;exact this) a4.lt abI abI (by
  rw[j8];have:((λx:aK=>x.data.toList)∘T)=id:=rfl;rw[this,Kp];exact hl)
 rw[bX]at this;refine this.mono ?_;rintro _ w2 ⟨rfl,hB⟩;refine⟨_,rfl,?_,Rz (Only.below hB)⟩;rw[j8];have:((λx:aK=>x.data.toList)∘T)=id:=rfl;rw[this,Kp];rfl
end
theorem Ae(w:av)(ws:List (aH)){n:Nat}{parts:Array (Nat×aw)}(hp:parts=(((ws.map λx=>Value.string (T x)).zipIdx 0).map λx=>(x.2,x.1)).toArray)(hn:ws.length=n)(h0:0<n)(tP:n*1<=16777216)(hl:(fA ws).length<=140737488355328):
  ∃(q:Sl) (w0:av),(au 41 n parts).run aq w=.ok q.v w0/\ay [] w w0/\Own jR 1 9 w.heap.size w0 (λ_=>True) q ws/\az aq 101 #[q.v] w0 λe w'=>e=ak (ab (T (fA ws)))/\aD (λk=>w.heap.size<=k) w0 w':=by
 obtain⟨q,w0,k1,k2,k3⟩:=iR w ws hp hn h0 tP;exact⟨q,w0,k1,k3,k2,yA k2 hl aE⟩
theorem iE:∀(ws:List (aH)),(fA ws).length<=(ws.map λl=>l.length+1).sum:=by
 have h1:∀(r:List (aH)),(Lib.joinTail [32] r).length=(r.map λl=>l.length+1).sum:=λr=>by
  induction r with
  | nil=>rfl
  | cons x r ih=>
   unfold Lib.joinTail at ih⊢;rw[bG,dw,aN,ih,bG,cr];simp
 have h2:∀(r:List (aH)),(Lib.join r [32]).length<=(r.map λl=>l.length+1).sum:=λr=>by
  cases r with
  | nil=>exact bm _
  | cons x r=>
   rw[Lib.join_cons,aN,h1,bG,cr];omega
 have h3:∀(r:List (aH)),((r.filter ne).map λl=>l.length+1).sum<=(r.map λl=>l.length+1).sum:=λr=>by
  induction r with
  | nil=>exact aY _
  | cons x r ih=>
   rw[vW,bG,cr];split
   ·rw[bG,cr];omega
   omega
 exact λws=>bh (h2 _) (h3 ws)
structure Fz (bs:List Nat) (w w':av) (ks:List Nat):Prop where
 o:ay bs w w'
 k:∀x,x∈ks->w.heap.size<=x/\x<w'.heap.size
 lo:∀x,x∈bs->x<w.heap.size
section
variable {bs bs' ks ks':List Nat} {w w1 w2 w':av} {k0 b:Nat}
theorem Fz.start(lo:∀x,x∈bs->x<w.heap.size):Fz bs w w []:=⟨Only.refl _ _,λ_ h=>aah,lo⟩
theorem Fz.go(h:Fz bs w w1 ks)(k:ay bs' w1 w2)(hb:∀x,x∈bs'->x∈bs∨x∈ks):Fz bs w w2 ks:=
 ⟨h.o.trans k λx hx=>(hb x hx).imp id λhk=>(h.k x hk).1,λx hx=>⟨(h.k x hx).1,cj (h.k x hx).2 k.size⟩,h.lo⟩
theorem Fz.new(h:Fz bs w w1 ks)(k:ay bs' w1 w2)(hb:∀x,x∈bs'->x∈bs∨w.heap.size<=x):Fz bs w w2 ks:=
 ⟨h.o.trans k hb,λx hx=>⟨(h.k x hx).1,cj (h.k x hx).2 k.size⟩,h.lo⟩
theorem Fz.q(h:Fz bs w w1 ks)(k:ay [] w1 w2):Fz bs w w2 ks:=h.go k λx hx=>ab2
theorem Fz.c(h:Fz (b::bs) w w1 ks)(k:ay [b] w1 w2):Fz (b::bs) w w2 ks:=h.go k λx hx=>.inl (by simp at hx;simp[hx])
theorem Fz.f(h:Fz bs w w1 ks)(k:ay [k0] w1 w2)(hk:k0∈ks):Fz bs w w2 ks:=h.go k λx hx=>.inr (by simp at hx;rw[hx];exact hk)
theorem Fz.al(h:Fz bs w w1 ks)(k:ay [] w1 w2)(h1:w1.heap.size<=k0)(h2:k0<w2.heap.size):Fz bs w w2 (k0::ks):=
 ⟨(h.q k).o,λx hx=>by
  rcases aX.1 hx with rfl | hx
  ·exact⟨bh h.o.size h1,h2⟩
  exact(h.q k).k x hx,h.lo⟩
theorem Fz.sm(h:Fz bs w w1 ks)(k:ay bs' w1 w2)(hk:∀x,x∈ks'->x∈ks)(hb:∀x,x∈bs'->x∈bs∨∀y,y∈ks'->y≠x):cb ks' w1 w2:=k.same λx hx=>
 ⟨(h.k x (hk x hx)).2,λhm=>by
  rcases hb x hm with h1 | h1
  ·have:=(h.k x (hk x hx)).1;have:=h.lo x h1;omega
  exact h1 x hx rfl⟩
theorem Fz.sq(h:Fz bs w w1 ks)(k:ay [] w1 w2)(hk:∀x,x∈ks'->x∈ks):cb ks' w1 w2:=h.sm k hk λx hx=>ab2
theorem Fz.sc(h:Fz (b::bs) w w1 ks)(k:ay [b] w1 w2)(hk:∀x,x∈ks'->x∈ks):cb ks' w1 w2:=h.sm k hk λx hx=>.inl (by simp at hx;simp[hx])
theorem Fz.ne(h:Fz bs w w1 ks)(hk:k0∈ks)(hb:b∈bs):k0≠b:=λe=>by
 have:=(h.k k0 hk).1;have:=h.lo b hb;omega
end
section
variable {α:Type} {r:Rp α} {w w1 w':av} {x:α} {cs:aI} {B:Nat}
structure Stay (B:Nat) (w w':av):Prop where
 sz:w.heap.size<=w'.heap.size
 eq:∀k,B<=k->k<w.heap.size->w'.heap[k]? =w.heap[k]?
theorem Stay.refl B w:Stay B w w:=⟨aY _,λ_ _ _=>rfl⟩
theorem Stay.go{bs}(h:Stay B w w1)(k:ay bs w1 w')(hb:∀x,x∈bs->x<B∨w.heap.size<=x):Stay B w w':=
 ⟨bh h.sz k.size,λi h1 h2=>(k.block i (cj h2 h.sz) λhm=>by have:=hb i hm;omega).trans (h.eq i h1 h2)⟩
theorem Stay.of{bs}(k:ay bs w w')(hb:∀x,x∈bs->x<B∨w.heap.size<=x):Stay B w w':=(Stay.refl B w).go k hb
theorem _root_.Go.Kt.Rp.Ok.stay(hr:r.Ok)(h:r w (Fr B) x cs)(hs:Stay B w w'):r w' (Fr B) x cs:=
 hr.mono (hr.keep (hr.inHeap h) λk hk cd=>hs.eq k hk.1 cd) λk hk=>hk.1
theorem _root_.Go.Kt.Rp.Ok.low(hr:r.Ok)(h:r w (Fr B) x cs){A}(hA:A<=B):r w (Fr A) x cs:=hr.mono h λk hk=>bh hA hk
variable {size:Nat} {e:TypeId} {s:Sl} {xs:List α} {t:Bool}
theorem ja.stay(hr:r.Ok)(h:ja t r size e w (Fr B) s xs)(h0:0<size)(hs:Stay B w w'):ja t r size e w' (Fr B) s xs:=
 ((h.inHeap hr h0).keep hr h0 λk hk cd=>hs.eq k hk.1 cd).mono hr λk hk=>hk.1
theorem ja.low(hr:r.Ok)(h:ja t r size e w (Fr B) s xs){A}(hA:A<=B):ja t r size e w (Fr A) s xs:=h.mono hr λk hk=>bh hA hk
end
abbrev Sp(l:Sl)(s:Sx):aI:=[l.v,O U s.i,O U s.fc,O U s.fa,O U s.v,O U s.n,O U s.d,O U s.m,O U s.a]
structure Sr (F:aJ) (ts:List Tk) (w:av) (b:Nat) (l:Sl) (s:Sx):Prop where
 blk:aF w b 101 (Sp l s)
 tok:aA Bl 4 w F l ts
 hF:∀k,F k->k<b
 en:od ts
 lt:s.i<ts.length
 sm:ts.length<=16777216
abbrev rp(b:Nat):aw:=ae (some ⟨b,0,none⟩)
section
variable {F:aJ} {ts:List Tk} {w w':av} {b:Nat} {l:Sl} {s s':Sx}
theorem Sr.own(h:Sr F ts w b l s){bs}(hO:ay bs w w')(hb:∀x,x∈bs->b<x):Sr F ts w' b l s:=
 ⟨hO.blk h.blk λhm=>(by have:=hb b hm;omega),SliceF.only fX aL h.tok hO λk hk _ hm=>aaX,h.hF,h.en,h.lt,h.sm⟩
theorem Sr.NE(h:Sr F ts w b l s){bs}(hO:ay bs w w')(hb:∀x,x∈bs->x≠b/\¬F x):Sr F ts w' b l s:=
 ⟨hO.blk h.blk λhm=>(hb b hm).1 rfl,SliceF.only fX aL h.tok hO λk hk _ hm=>(hb k hm).2 hk,h.hF,h.en,h.lt,h.sm⟩
theorem Sr.U0(h:Sr F ts w b l s){k0}(hO:ay [k0] w w')(hk:k0≠b/\¬F k0):Sr F ts w' b l s:=h.NE hO λx hx=>(by simp at hx;subst hx;exact hk)
theorem Sr.gt(h:Sr F ts w b l s){x}(hx:b<x):x≠b/\¬F x:=⟨aE,λhF=>by have:=h.hF x hF;omega⟩
theorem Sr.only(h:Sr F ts w b l s)(hO:ay [] w w'):Sr F ts w' b l s:=h.own hO λx hx=>ab2
theorem Sr.one(h:Sr F ts w b l s){k0}(hO:ay [k0] w w')(hk:b<k0):Sr F ts w' b l s:=h.own hO λx hx=>(by simp at hx;omega)
theorem Sr.j5(h:Sr F ts w b l s)(hO:ay [b] w w')(hB:aF w' b 101 (Sp l s'))(hi:s'.i<ts.length):Sr F ts w' b l s':=
 ⟨hB,SliceF.only fX aL h.tok hO λk hk _ hm=>(by have:=h.hF k hk;simp at hm;omega),h.hF,h.en,hi,h.sm⟩
theorem Sr.lb(h:Sr F ts w b l s):b<w.heap.size:=h.blk.lt
theorem Sr.z(h:Sr F ts w b l s):Fz [b] w w []:=Fz.start λx hx=>(by simp at hx;rw[hx];exact h.lb)
theorem Sr.big(h:Sr F ts w b l s):ts.length<=9223372036854775807:=by
 have h1:=h.tok.len;have h2:=h.tok.cap;have h3:=h.tok.big;omega
theorem Sr.wr(h:Sr F ts w b l s):ar U (s.i+1)=((s.i+1:Nat)):=by
 have:=h.big;have:=h.lt;rw[fS aE aE];rfl
theorem Sr.now(h:Sr F ts w b l s):∃ad,dN l s.i 4 ad/\aB w ad [O U (tk ts s.i).k,ab (T (tk ts s.i).t),O U (tk ts s.i).n,O U (tk ts s.i).a]:=by
 have hl:=h.tok.len;have cd:=h.lt;obtain⟨ad,x,cs,g1,g2,g3,g4,g5,g6⟩:=h.tok.get (bc s.i) aE;rw[ba,yg h.lt]at g2;injection g2 with g2;subst g2;subst g6;exact⟨ad,g1,g5⟩
structure Dn (F:aJ) (ts:List Tk) (w w':av) (b:Nat) (l:Sl) (s:Sx):Prop where
 o:ay [b] w w'
 r:Sr F ts w' b l s
theorem Sr.dn(h:Sr F ts w b l s):Dn F ts w w b l s:=⟨Only.refl _ _,h⟩
theorem Dn.q(h:Dn F ts w w' b l s){w2}(k:ay [] w' w2):Dn F ts w w2 b l s:=⟨h.o.cn k,h.r.only k⟩
theorem Dn.nx(h:Dn F ts w w' b l s){w2}{s'}(k:Dn F ts w' w2 b l s'):Dn F ts w w2 b l s':=⟨h.o.trans k.o λx hx=>.inl hx,k.r⟩
theorem Dn.f(h:Dn F ts w w' b l s){w2}{k0}(k:ay [k0] w' w2)(hk:w.heap.size<=k0)(hb:b<w.heap.size):Dn F ts w w2 b l s:=⟨h.o.new k hk,h.r.one k aE⟩
theorem Sr.tk(h:Sr F ts w b l s){ad}(g:dN l s.i 4 ad):aB w ad [O U (tk ts s.i).k,ab (T (tk ts s.i).t),O U (tk ts s.i).n,O U (tk ts s.i).a]:=by
 obtain⟨Gd,g1,g2⟩:=h.now;rw[g.UZ g1];exact g2
structure Zt (F:aJ) (ts:List Tk) (w w':av) (b:Nat) (l:Sl) (s:Sx) (ks:List Nat):Prop where
 z:Fz [b] w w' ks
 r:Sr F ts w' b l s
section
variable {w2:av} {ks ks':List Nat} {k0:Nat}
theorem Sr.zt(h:Sr F ts w b l s):Zt F ts w w b l s []:=⟨h.z,h⟩
theorem Zt.q(h:Zt F ts w w' b l s ks)(k:ay [] w' w2):Zt F ts w w2 b l s ks:=⟨h.z.q k,h.r.only k⟩
theorem Zt.al(h:Zt F ts w w' b l s ks)(k:ay [] w' w2)(h1:w'.heap.size<=k0)(h2:k0<w2.heap.size):Zt F ts w w2 b l s (k0::ks):=⟨h.z.al k h1 h2,h.r.only k⟩
theorem Zt.ad(h:Zt F ts w w' b l s ks)(h1:w.heap.size<=k0)(h2:k0<w'.heap.size):Zt F ts w w' b l s (k0::ks):=⟨⟨h.z.o,λx hx=>by
 rcases aX.1 hx with rfl | hx
 ·exact⟨h1,h2⟩
 exact h.z.k x hx,h.z.lo⟩,h.r⟩
theorem Zt.lt(h:Zt F ts w w' b l s ks)(hk:k0∈ks):b<k0:=cj (h.z.lo b aM) (h.z.k k0 hk).1
theorem Zt.f(h:Zt F ts w w' b l s ks)(k:ay [k0] w' w2)(hk:k0∈ks):Zt F ts w w2 b l s ks:=⟨h.z.f k hk,h.r.one k (h.lt hk)⟩
theorem Zt.nx(h:Zt F ts w w' b l s ks)(k:Dn F ts w' w2 b l s'):Zt F ts w w2 b l s' ks:=⟨h.z.c k.o,k.r⟩
theorem Zt.dn(h:Zt F ts w w' b l s ks):Dn F ts w w' b l s:=⟨h.z.o,h.r⟩
theorem Zt.up(h:Zt F ts w w' b l s ks)(k:ay [b] w' w2)(hB:aF w2 b 101 (Sp l s'))(hi:s'.i<ts.length):Zt F ts w w2 b l s' ks:=⟨h.z.c k,h.r.j5 k hB hi⟩
theorem Zt.sq(h:Zt F ts w w' b l s ks)(k:ay [] w' w2)(hk:∀x,x∈ks'->x∈ks):cb ks' w' w2:=h.z.sq k hk
theorem Zt.sc(h:Zt F ts w w' b l s ks)(k:Dn F ts w' w2 b l s')(hk:∀x,x∈ks'->x∈ks):cb ks' w' w2:=h.z.sc k.o hk
theorem Zt.row{gs}(h:Zt F ts w w' b l s ks)(k:ay gs w' w2)(hg:∀x,x∈gs->w.heap.size<=x):Zt F ts w w2 b l s ks:=⟨h.z.new k λx hx=>.inr (hg x hx),h.r.own k λx hx=>cj (h.z.lo b aM) (hg x hx)⟩
theorem Zt.sr{gs}(h:Zt F ts w w' b l s ks)(k:ay gs w' w2)(hk:∀x,x∈ks'->x∈ks)(hg:∀x,x∈gs->∀y,y∈ks'->y<x):cb ks' w' w2:=h.z.sm k hk λx hx=>.inr λy hy e=>by have:=hg x hx y hy;omega
theorem Zt.ne(h:Zt F ts w w' b l s ks)(hk:k0∈ks):k0≠b:=h.z.ne hk aM
theorem Stay.q{B}(h:Stay B w w')(k:ay [] w' w2):Stay B w w2:=h.go k λx hx=>ab2
theorem Stay.d{B}(h:Stay B w w')(k:Dn F ts w' w2 b l s')(hb:b<B):Stay B w w2:=h.go k.o λx hx=>.inl (by simp at hx;omega)
theorem Stay.f{B}(h:Stay B w w')(k:ay [k0] w' w2)(hk:k0<B∨w.heap.size<=k0):Stay B w w2:=h.go k λx hx=>(by simp at hx;subst hx;exact hk)
end
theorem lV(h:Sr F ts w b l s):az aq 50 #[rp b] w λe w'=>e=ak (aj (s.fc==0))/\ay [] w w':=by
 exact ret (Yu _ _ w ⟨s.fc,Blk.eo h.blk 2 rfl,rfl,Only.refl _ _⟩)
theorem xf(h:Sr F ts w b l s) c:az aq 94 #[rp b,O U c] w λe w'=>e=ak (ai #[])/\Dn F ts w w' b l (gV ts s c):=by
 refine ret (Yw _ _ _ _ ?_);refine(lV h).mono ?_;rintro _ w0 ⟨rfl,cw⟩;refine⟨_,rfl,λhc w1 cA=>?_,λhc=>?_⟩
 ·have hc:=aaf
  have h1:=h.only (cw.cn cA);obtain⟨ad,g1,g2⟩:=h1.now;refine⟨l,Blk.eo h1.blk 0 rfl,_,Blk.eo h1.blk 1 rfl,ad,g1,_,g2.eo 3 _ rfl,b,2,_,_,rfl,h1.blk,aM,λw2 cO kQ=>⟨rfl,((cw.cn cA).weaken (bs':=[b]) λ_ h=>aah).trans cO λx hx=>.inl hx,?_⟩⟩;unfold gV;rw[aR hc];exact h1.j5 (s':={s with fc:=c,fa:=(tk ts s.i).a}) cO kQ h.lt
 unfold gV;rw[aO aaf];exact⟨rfl,h.dn.q cw⟩
theorem rj(h:Sr F ts w b l s):az aq 51 #[rp b] w λe w'=>e=ak (ai #[])/\Dn F ts w w' b l (jA ts s):=by
 refine ret (Yv _ _ _ ?_);obtain⟨ad,g1,g2⟩:=h.now;refine⟨λw'=>Dn F ts w w' b l (if(tk ts s.i).k=5 then gV ts s 3 else s),λw0 h0=>(xf h0.r 4).mono ?_,l,Blk.eo h.blk 0 rfl,_,Blk.eo h.blk 1 rfl,ad,g1,_,g2.eo 0 _ rfl,λhc w2 cO=>?_,λhc w2 cO=>?_⟩
 ·rintro _ w1 ⟨rfl,h1⟩;refine⟨rfl,rfl,h0.nx ?_⟩;unfold jA;split at h1
  ·rename_i e;rw[aR e];exact h1
  rename_i e;rw[aO e];exact h1
 ·refine(xf (h.only cO) 3).mono ?_;rintro _ w3 ⟨rfl,h3⟩;have hc:=aaf
  refine⟨rfl,?_⟩;rw[aR hc];exact(h.dn.q cO).nx h3
 rw[aO aaf];exact h.dn.q cO
theorem Y4{s}{w}{G}{l}(h:aA jR 1 w G s l) c:
  az aq 138 #[Sl.v s,ab (T c)] w λr w'=>r=ak (O U (if wF c l<l.length then wF c l else -1))/\w'=w:=by
 refine ret (Sa _ _ _ _ ?_);have eu:=h.len;have pq:=h.big;have nD:=h.cap;refine⟨λnv i w'=>∃n,n<=l.length/\i=n/\nv=l.length-n/\wF c l=n+wF c (l.drop n)/\w'=w,l.length,⟨0,bm _,rfl,rfl,by rw[eY,bI],rfl⟩,?_⟩;rintro nv _ _ ⟨n,hn,rfl,rfl,hp,rfl⟩;refine⟨λhc=>?_,λhc=>?_⟩
 ·have cd:=aV hc;obtain⟨ad,x,cs,g1,g2,g3,g4,g5,g6⟩:=h.get (bc n) cd;rw[ba]at g2;subst g6;have hd:l.drop n=x::l.drop (n+1):=by rw[fU (bd.1 g2).1,(bd.1 g2).2]
  rw[hd,wF]at hp;refine⟨ad,g1,_,g5,?_⟩;dsimp only;rw[ju];refine⟨λhe=>⟨?_,rfl⟩,λhe=>⟨l.length-_,aE,n+1,aE,aad,rfl,?_,rfl⟩⟩
  ·have he:=aV he;rw[aR he]at hp;rw[aR aE,hp,gz]
  rw[aO (aW he)]at hp;omega
 have nE:=aW hc;rw[aO aE];exact⟨rfl,rfl⟩
theorem yB(h:Sr F ts w b l s){G}{q}{ss}(hs:aA jR 1 w G q ss):az aq 96 #[rp b,q.v] w λe w'=>e=ak (O U (cu ts s ss))/\ay [] w w':=by
 refine ret (Yt _ _ _ _ ?_);intro w0 cw;have h0:=h.only cw;obtain⟨ad,g1,g2⟩:=h0.now;refine⟨λ_=>True,trivial,l,Blk.eo h0.blk 0 rfl,trivial,_,Blk.eo h0.blk 1 rfl,ad,g1,trivial,_,_,_,_,g2,λk0 w1 hk wM cA=>?_⟩;refine(lV (h0.only cA)).mono ?_;rintro _ w2 ⟨rfl,cO⟩;have j6:=(cw.cn cA).cn cO;have Xg:((!(s.fc==0))||(((tk ts s.i).k !=2)&&((tk ts s.i).k !=4)))=decide (s.fc≠0∨((tk ts s.i).k≠2/\(tk ts s.i).k≠4)):=by
  rw[bH];simp
 refine⟨_,rfl,cO.same aae,?_⟩;dsimp only;rw[Xg];refine⟨λhc=>?_,λhc=>?_⟩
 ·unfold cu;rw[aR (aV hc)];exact⟨rfl,j6⟩
 refine(Y4 (SliceF.only db aL hs j6 aM) (tk ts s.i).t).mono ?_;rintro _ w3 ⟨rfl,rfl⟩;refine⟨_,rfl,cb.refl _ _,?_,j6⟩;unfold cu;rw[aO (aW hc)];have hl:=hs.len;have hb:=hs.big;have hcp:=hs.cap;split
 ·rw[fS aE aE];rfl
 rfl
theorem HE(h:Sr F ts w b l s) ss {n} {parts} (hp:parts=(((ss.map λx=>Value.string (T x)).zipIdx 0).map λx=>(x.2,x.1)).toArray) (hn:ss.length=n) (h0:0<n) (tP:n*1<=16777216):
  ∃(q:Sl) (w0:av),(au 41 n parts).run aq w=.ok q.v w0/\ay [] w w0/\az aq 96 #[rp b,q.v] w0 λe w'=>e=ak (O U (cu ts s ss))/\ay [] w0 w':=by
 obtain⟨q,w0,k1,k2,k3⟩:=iR w ss hp hn h0 tP;exact⟨q,w0,k1,k3,yB (h.only k3) (qh k2)⟩
theorem QA(h:Sr F ts w b l s){G}{q}{ss}(hs:aA jR 1 w G q ss):az aq 47 #[rp b,q.v] w λe w'=>e=ak (O U (cu ts s ss))/\Dn F ts w w' b l (if cu ts s ss=0 then s else cX s):=by
 refine ret (Ys _ _ _ _ ?_);refine(yB h hs).mono ?_;rintro _ w0 ⟨rfl,cw⟩;have h0:=h.only cw;refine⟨_,rfl,λw'=>Dn F ts w w' b l _,λw1 h1=>⟨rfl,h1⟩,λhc=>?_,λhc=>?_⟩
 ·have hc:cu ts s ss≠0:=aan
  refine⟨_,Blk.eo h0.blk 1 rfl,b,1,_,_,rfl,h0.blk,aM,λw2 cO kQ=>?_⟩;rw[aO hc];rw[h.wr]at kQ;exact⟨(cw.weaken (bs':=[b]) λ_ h=>aah).trans cO λx hx=>.inl hx,h0.j5 (s':=cX s) cO kQ (h.en.next h.lt (dc hc).2)⟩
 have hc:cu ts s ss=0:=aao
 rw[aR hc];exact h.dn.q cw
theorem Af(h:Sr F ts w b l s) ss {n} {parts} (hp:parts=(((ss.map λx=>Value.string (T x)).zipIdx 0).map λx=>(x.2,x.1)).toArray) (hn:ss.length=n) (h0:0<n) (tP:n*1<=16777216):
  ∃(q:Sl) (w0:av),(au 41 n parts).run aq w=.ok q.v w0/\ay [] w w0/\az aq 47 #[rp b,q.v] w0 λe w'=>e=ak (O U (cu ts s ss))/\Dn F ts w0 w' b l (if cu ts s ss=0 then s else cX s):=by
 obtain⟨q,w0,k1,k2,k3⟩:=iR w ss hp hn h0 tP;exact⟨q,w0,k1,k3,QA (h.only k3) (qh k2)⟩
theorem HF(h:Sr F ts w b l s){G}{q}{x}(hs:aA jR 1 w G q [x])(hG:∀k,G k->k≠b):az aq 45 #[rp b,q.v] w λe w'=>e=ak (ai #[])/\Dn F ts w w' b l (dP ts s x):=by
 refine ret (Yr _ _ _ _ ?_);have hn:q.n=1:=hs.len;refine⟨λnv i w'=>(i=0/\nv=1/\w'=w)∨(i=1/\nv=0/\Dn F ts w w' b l (dP ts s x)),1,.inl ⟨rfl,rfl,rfl⟩,?_⟩;rintro nv i w0 (⟨rfl,rfl,rfl⟩ | ⟨rfl,rfl,hD⟩)
 ·refine⟨λ_=>?_,λhc=>absurd (aW hc) aE⟩;refine⟨λw'=>Dn F ts w0 w' b l _,λw1 h1=>⟨0,aL,.inr ⟨rfl,rfl,h1⟩⟩,?_⟩;obtain⟨ad,y,cs,g1,g2,g3,g4,g5,g6⟩:=hs.get (i:=0) aL aE;simp at g2;subst g2;subst g6;obtain⟨q0,w2,k1,k2,k3⟩:=Af h [x] (n:=1) (parts:=#[_]) rfl rfl aL aL;refine⟨ad,g1,_,g5,q0,w2,k1,k3.mono ?_⟩;rintro _ w3 ⟨rfl,h3⟩;have h03:=(h.dn.q k2).nx h3;refine⟨_,rfl,λhc=>?_,λhc=>?_⟩
  ·have hc:cu ts s [x]=0:=by have:=aaf;omega
   rw[aR hc]at h03;refine(rj h03.r).mono ?_;rintro _ w4 ⟨rfl,h4⟩;refine⟨rfl,?_⟩;unfold dP;rw[aR hc];exact h03.nx h4
  have hc:cu ts s [x]≠0:=λe=>by rw[e]at hc;simp at hc
  rw[aO hc]at h03;unfold dP;rw[aO hc];exact h03
 exact⟨λhc=>absurd (aV hc) aE,λ_=>⟨rfl,hD⟩⟩
theorem pc(h:Sr F ts w b l s) x:∃(q:Sl) (w0:av),(au 41 1 #[.mk 0 (ab (T x))]).run aq w=.ok q.v w0/\ay [] w w0/\az aq 45 #[rp b,q.v] w0 λe w'=>e=ak (ai #[])/\Dn F ts w0 w' b l (dP ts s x):=by
 obtain⟨q,w0,k1,k2,k3⟩:=iR w [x] (n:=1) (parts:=#[_]) rfl rfl aL aL;exact⟨q,w0,k1,k3,HF (h.only k3) (qh k2) λk hk e=>(by have:=hk.1;have:=h.lb;omega)⟩
theorem uz(h:Sr F ts w b l s){k}(oy:k≠5):az aq 95 #[rp b,O U k] w λe w'=>e=ak (fu ts s k).1.v/\Dn F ts w w' b l (fu ts s k).2:=by
 refine ret (Yz _ _ _ _ ?_);intro k0 w0 hk wM cw;have h0:=h.only cw;obtain⟨ad,g1,g2⟩:=h0.now;refine⟨λ_=>True,trivial,l,Blk.eo h0.blk 0 rfl,trivial,_,Blk.eo h0.blk 1 rfl,ad,g1,trivial,_,_,_,_,g2,λk1 w1 ku jK cA=>?_⟩;have z1:=(h.z.al cw hk wM).al cA ku jK;refine(lV (h0.only cA)).mono ?_;rintro _ w2 ⟨rfl,cO⟩;have z2:=z1.q cO;have hl:=h.lb;have d2:=h.dn.q ((cw.cn cA).cn cO);have Xg:((!(s.fc==0))||((tk ts s.i).k !=k))=decide (s.fc≠0∨(tk ts s.i).k≠k):=by
  rw[bH];simp
 refine⟨_,rfl,z1.sq cO aM,?_⟩;dsimp only;rw[Xg];refine⟨λhc=>(rj d2.r).mono ?_,λhc=>?_⟩
 ·rintro _ w3 ⟨rfl,h3⟩;refine⟨rfl,z2.sc h3.o aM,λw4 dR=>?_⟩;unfold fu;rw[aR (aV hc)];exact⟨rfl,(d2.nx h3).f dR hk hl⟩
 refine⟨_,Blk.eo d2.r.blk 1 rfl,b,1,_,_,rfl,d2.r.blk,aM,z2.ne aM aM,z2.ne aM aM,λw5 fe vd w6 ez=>?_⟩;have hc:=aW hc;unfold fu;rw[aO hc];simp at hc;rw[h.wr]at vd;have d5:Dn F ts w w5 b l (cX s):=⟨d2.o.trans fe λx hx=>.inl hx,d2.r.j5 fe vd (h.en.next h.lt (by rw[hc.2];exact oy))⟩
 exact⟨rfl,d5.f ez hk hl⟩
theorem uA(h:Sr F ts w b l s):az aq 140 #[rp b] w λe w'=>e=ak (ab (T (io ts s).1))/\Dn F ts w w' b l (io ts s).2:=by
 refine ret (YG _ _ _ ?_);refine(uz h (k:=1) aL).mono ?_;rintro _ w0 ⟨rfl,h0⟩;exact⟨_,_,_,_,rfl,rfl,h0⟩
theorem _root_.Go.Kt.Blk.SX{w}{b}{t}{cs}{v}(h:aF w b t cs) j (hx:cs[j]? =some v):aB w ⟨b,j,none⟩ [v]:=by
 have:=Blk.eo h j hx;rwa[gM,bI]at this
theorem BG(h:Sr F ts w b l s) j x c u (hx:(Sp l s)[j]? =some (.int U x)) (EI:(Sp l (gV ts s c))[j]? =some (.int U x)) (hui:u.i=s.i)
  (hu:Sp l u=bZ (Sp l (if x=0 then gV ts s c else s)) j [O U (vw x)]):az aq 93 #[rp b,ae (some ⟨b,j,none⟩),O U c] w λe w'=>e=ak (ai #[])/\Dn F ts w w' b l u:=by
 refine ret (Yy _ _ _ _ _ ?_);refine⟨λw'=>Dn F ts w w' b l (if x=0 then gV ts s c else s),λw0 h0=>?_,_,rfl,x,Blk.SX h.blk j hx,λhc=>?_,λhc=>?_⟩
 ·refine⟨_,rfl,x,Blk.SX h0.r.blk j (by split<;>assumption),_,rfl,b,j,_,_,rfl,h0.r.blk,(bd.1 hx).1,λw1 cA pv=>⟨rfl,h0.o.trans cA λx hx=>.inl hx,h0.r.j5 cA (s':=u) ?_ (by rw[hui];exact h.lt)⟩⟩;rw[hu];exact pv
 ·refine(xf h c).mono ?_;rintro _ w2 ⟨rfl,h2⟩;have hc:=aaf
  rw[aR hc];exact⟨rfl,h2⟩
 rw[aO aaf];exact h.dn
theorem Uh(h:Sr F ts w b l s):az aq 93 #[rp b,ae (some ⟨b,8,none⟩),O U 2] w λe w'=>e=ak (ai #[])/\Dn F ts w w' b l (qW ts s):=
 BG h 8 s.a 2 _ rfl abQ (BA s) (by unfold qW gV;split<;>(try split)<;>rfl)
theorem Ui(h:Sr F ts w b l s):az aq 93 #[rp b,ae (some ⟨b,7,none⟩),O U 2] w λe w'=>e=ak (ai #[])/\Dn F ts w w' b l (pQ ts s):=
 BG h 7 s.m 2 _ rfl abQ (BB s) (by unfold pQ gV;split<;>(try split)<;>rfl)
theorem Uj(h:Sr F ts w b l s):az aq 93 #[rp b,ae (some ⟨b,5,none⟩),O U 2] w λe w'=>e=ak (ai #[])/\Dn F ts w w' b l (zn ts s):=
 BG h 5 s.n 2 _ rfl abQ (by unfold zn;split;exact Bt 2;rfl) (by unfold zn gV;split<;>(try split)<;>rfl)
theorem Uk(h:Sr F ts w b l s):az aq 93 #[rp b,ae (some ⟨b,4,none⟩),O U 2] w λe w'=>e=ak (ai #[])/\Dn F ts w w' b l (zo ts s):=
 BG h 4 s.v 2 _ rfl abQ (by unfold zo;split;exact Bt 2;rfl) (by unfold zo gV;split<;>(try split)<;>rfl)
theorem HG(h:Sr F ts w b l s):az aq 174 #[rp b] w λe w'=>∃cs,e=ak (ah cs.toArray)/\rE true w' (Fr w.heap.size) (mh ts s).1 cs/\Dn F ts w w' b l (mh ts s).2:=by
 refine(YH ⟨b,0,none⟩ (λv w'=>∃cs,v=(ah cs.toArray)/\rE true w' (Fr w.heap.size) (mh ts s).1 cs/\Dn F ts w w' b l (mh ts s).2) w ?_).mono (by
  rintro e w' ⟨v,rfl,cs,rfl,h⟩;exact⟨cs,rfl,h⟩)
 intro k0 w0 hk wM cw;have hl:=h.lb;have z0:=h.z.al cw hk wM;refine(lV (h.only cw)).mono ?_;rintro _ w1 ⟨rfl,cA⟩;have z1:=z0.q cA;have d1:=h.dn.q (cw.cn cA);refine⟨_,rfl,z0.sq cA aM,λhc w2 cO=>?_,λhc w3 da=>?_⟩
 ·have hc:s.fc≠0:=aaf
  unfold mh;rw[aR hc];exact⟨_,rfl,WG _ _ _,d1.f cO hk hl⟩
 have hc:¬s.fc≠0:=aaf
 have z3:=z1.q da;have d3:=d1.q da;refine⟨λk=>k=b,λw4 dR=>⟨rfl,l,Blk.eo (d3.q dR).r.blk 0 rfl,λw5 fe=>⟨rfl,_,Blk.eo ((d3.q dR).q fe).r.blk 1 rfl,λw6 ez=>?_⟩⟩⟩;have z6:=((z3.q dR).q fe).q ez;have d6:=((d3.q dR).q fe).q ez;have hb6:=d6.r.big;have cd:=h.lt;refine(Hk d6.r.tok s.i ⟨aE,aE⟩).mono ?_;rintro _ w7 ⟨cs,rfl,hX,hj,gD⟩;have d7:=d6.q gD;obtain⟨sl,mq,_⟩:=hX.cells;have hsz:w3.heap.size<=w6.heap.size:=((dR.cn fe).cn ez).size;refine⟨_,_,_,_,sl,_,_,_,_,by rw[mq],z6.sq gD aM,mE.Iz gD,bR.only gD,λw8 gp k1 ku jK WT=>?_⟩;obtain⟨d,hX⟩:=hX.xg;have hx7:rE true w7 (λk=>w6.heap.size<=k/\k<w7.heap.size) (bQ ts s.i).1 cs:=⟨d,hX⟩
 have al9:=bh z3.o.size ku;have ama:=aE
 have d8:=d7.q gp;have zz6:=z6.o.size;have zz0:=z0.k k0 aM;have zw0:=((cA.cn da).cn ((dR.cn fe).cn ez)).size;have hx8:∀{bs:List Nat} {w9:av},ay bs w8 w9->(∀x,x∈bs->x=k1∨x=k0∨x=b)->rE true w9 (Fr w.heap.size) (bQ ts s.i).1 cs:=λgr W7=>
  (gF true).mono ((gF true).keep hx7 λk VU cd=>(gr.block k (cj cd gp.size) λhm=>by
   rcases W7 k hm with rfl | rfl | rfl
   ·have:=WT.one;omega
   ·omega
   omega).trans (gp.block k cd aM)) λk VU=>by have:=VU.1;show w.heap.size<=k;omega
 unfold mh;rw[aO hc];refine⟨λh1 w9 gr=>?_,λh1 eM eJ=>?_⟩
 ·have h1:(bQ ts s.i).2.2.1≠0:=aaz
  have d9:Dn F ts w w9 b l s:=⟨d8.o.trans gr λx hx=>.inr aaj,d8.r.own gr λx hx=>aaj⟩
  refine⟨b,2,_,_,rfl,d9.r.blk,aM,aE,aE,λdz dL nG dJ dW=>?_⟩;rw[aR h1];have d10:Dn F ts w dz b l {s with fc:=(bQ ts s.i).2.2.1,fa:=(bQ ts s.i).2.2.2}:=⟨d9.o.trans dL λx hx=>.inl hx,d9.r.j5 dL nG h.lt⟩
  refine⟨cs,by rw[mq],?_,d10.f dW hk hl⟩;exact hx8 (bs:=[k1,k0,b]) (((gr.weaken (bs':=[k1,k0,b]) λx hx=>.inl aaF).trans dL λx hx=>.inl (by simp at hx;simp[hx])).trans dW λx hx=>.inl aag) aM
 have h1:¬(bQ ts s.i).2.2.1≠0:=aaz
 have d12:Dn F ts w eM b l s:=⟨d8.o.trans eJ λx hx=>.inr aaj,d8.r.own eJ λx hx=>aaj⟩
 obtain⟨Pm,EV⟩:=hj aaz;have ej:((bQ ts s.i).2.1.toNat)=(bQ ts s.i).2.1:=fO Pm;refine⟨b,1,_,_,rfl,d12.r.blk,aM,aE,aE,λeW dD rG fJ eF=>?_⟩;rw[aO h1];have d13:Dn F ts w eW b l {s with i:=(bQ ts s.i).2.1.toNat}:=⟨d12.o.trans dD λx hx=>.inl hx,d12.r.j5 dD (by dsimp only[Sp];rw[ej];exact rG) aaq⟩
 refine⟨cs,by rw[mq],?_,d13.f eF hk hl⟩;exact hx8 (bs:=[k1,k0,b]) (((eJ.weaken (bs':=[k1,k0,b]) λx hx=>.inl (by simp at hx⊢;omega)).trans dD λx hx=>.inl (by simp[aQ]at hx;simp[hx])).trans eF λx hx=>.inl (by simp[aQ]at hx;simp[hx])) aM
end
theorem Y5{n:Nat}(h:((n:Int)==0)=true):n=0:=aat
theorem Y6{n:Nat}(h:((n:Int)==0)=false):n≠0:=λe=>by rw[e]at h;simp at h
theorem Jv{n:Nat}(h:decide ((n:Int)>0)=false):n=0:=by have:=aW h;omega
theorem Jw{n:Nat}(h:decide ((n:Int)>0)=true):n≠0:=abT
section
variable {F:aJ} {ts:List Tk} {w w':av} {b:Nat} {l:Sl} {s s':Sx}
theorem Ul(h:Sr F ts w b l s):az aq 177 #[rp b] w λe w'=>∃cs,e=ak (ah cs.toArray)/\sN true w' (Fr w.heap.size) (nj ts s).1 cs/\Dn F ts w w' b l (nj ts s).2:=by
 refine(YM ⟨b,0,none⟩ (λv w'=>∃cs,v=(ah cs.toArray)/\sN true w' (Fr w.heap.size) (nj ts s).1 cs/\Dn F ts w w' b l (nj ts s).2) w ?_).mono (by
  rintro e w' ⟨v,rfl,cs,rfl,h⟩;exact⟨cs,rfl,h⟩)
 intro k0 w0 hk wM cw;have t0:=h.zt.al cw hk wM;obtain⟨ad,g1,_⟩:=h.now;refine⟨λ_=>True,λw1 cA=>⟨trivial,l,Blk.eo (t0.q cA).r.blk 0 rfl,λw2 cO=>⟨trivial,_,Blk.eo ((t0.q cA).q cO).r.blk 1 rfl,ad,g1,λw3 da=>?_⟩⟩⟩;have t3:=((t0.q cA).q cO).q da;refine⟨trivial,_,(t3.r.tk g1).eo 3 _ rfl,λw4 dR=>?_⟩;have t4:=t3.q dR;obtain⟨q,w5,e1,qy,fe⟩:=iR w4 [nK,iC,jL] (n:=3) (parts:=#[(0,ab (T nK)),(1,ab (T iC)),(2,ab (T jL))]) rfl rfl aL aL;refine⟨q,w5,e1,t4.sq fe aM,mE.Iz fe,bR.only fe,λw6 ez=>?_⟩;have t6:=(t4.q fe).q ez;refine(yB t6.r (SliceF.only db aL (qh qy) ez aM)).mono ?_;rintro _ w7 ⟨rfl,gD⟩;have t7:=t6.q gD;refine⟨_,rfl,t6.sq gD aM,mE.Iz gD,bR.only gD,λw8 gp k1 ku jK WT=>?_⟩;have t8:=(t7.q gp).ad (bh t0.z.o.size ku) jK;refine⟨λhc w9 gr=>?_,λhc eM eJ=>?_⟩
 ·have t9:=t8.f gr aM;refine(rj t9.r).mono ?_;rintro _ dz ⟨rfl,tV⟩;refine⟨rfl,t9.sc tV aM,λdJ dW=>?_⟩;have hc:=Y5 hc;unfold nj;rw[aR hc,hc];exact⟨_,rfl,⟨kD 0 0 [] 0 Sl.nil 0,rfl,WG _ _ _⟩,((t9.nx tV).f dW aM).dn⟩
 have hc:=Y6 hc;have t12:=t8.f eJ aM;refine(Uh t12.r).mono ?_;rintro _ eW ⟨rfl,vU⟩;have t13:=t12.nx vU;refine⟨rfl,t12.sc vU aM,(lV t13.r).mono ?_⟩;rintro _ fJ ⟨rfl,eF⟩;have t14:=t13.q eF;unfold nj;rw[aO hc];refine⟨_,rfl,t13.sq eF aM,λhf ir j7=>?_,λhf=>?_⟩
 ·have hf:(qW ts s).fc≠0:=abR
  rw[aR hf];exact⟨_,rfl,⟨kD 0 0 [] 0 Sl.nil 0,rfl,WG _ _ _⟩,(t14.f j7 aM).dn⟩
 have hf:¬(qW ts s).fc≠0:=abR
 rw[aO hf];refine⟨_,Blk.eo t14.r.blk 1 rfl,b,1,_,_,rfl,t14.r.blk,aM,t14.ne aM,t14.ne aM,λjD jQ Ot=>?_⟩;rw[t14.r.wr]at Ot;have t16:Zt F ts w jD b l (cX (qW ts s)) [k1,k0]:=t14.up jQ Ot (h.en.next t14.r.lt (by rw[BA];exact(dc hc).2));refine(uA t16.r).mono ?_;rintro _ iK ⟨rfl,Pj⟩;have t17:=t16.nx Pj;refine⟨_,rfl,t16.sc Pj aM,λjt jP=>?_⟩;have t18:=t17.f jP aM;generalize (io ts (cX (qW ts s))).2=u at*
 generalize (io ts (cX (qW ts s))).1=nm at*
 generalize cu ts s [nK,iC,jL]=kk at*
 generalize (tk ts s.i).a=aa at*
 refine⟨λi4 s1 i5 i6 s2 i7 l2 i8 i9 w'=>∃(x:Ex) (u':Sx),i4=(kk:Int)/\s1=T nm/\i9=aa/\rE true w' (Fr jt.heap.size) x [O U i5,O U i6,ab s2,O U i7,l2.v,O U i8]/\Zt F ts w w' b l u' [k1,k0]/\FF ts u kk nm aa=(⟨kk,nm,x,aa⟩,dP ts u' [59])/\jt.heap.size<=w'.heap.size,?_,λqw=>?_,λqw=>?_⟩
 ·rintro i4 s1 i5 i6 s2 i7 l2 i8 i9 jS ⟨x,u',rfl,rfl,rfl,hx,t19,hT,hsz⟩;obtain⟨q,js,e1,kO,hm⟩:=pc t19.r [59];refine⟨q,js,e1,t19.sq kO aM,hm.mono ?_⟩;rintro _ mr ⟨rfl,VV⟩;have t20:=t19.q kO;refine⟨rfl,t20.sc VV aM,λqc qx=>?_⟩;rw[hT];have zk:=t18.z.k k0 aM;have zs:=t18.z.o.size;have zb:=t18.r.lb;refine⟨_,rfl,⟨[O U i5,O U i6,ab s2,O U i7,l2.v,O U i8],rfl,?_⟩,((t20.nx VV).f qx aM).dn⟩;exact(gF true).low ((gF true).stay hx ((((Stay.refl _ _).q kO).d VV zb).f qx (.inl zk.2))) zs
 ·have qw:¬kk=2:=λe=>by rw[e]at qw;simp at qw
  obtain⟨q,ql,e1,rH,hm⟩:=pc t18.r [61];refine⟨q,ql,e1,t18.sq rH aM,hm.mono ?_⟩;rintro _ sE ⟨rfl,h24⟩;have t23:=t18.q rH;have t24:=t23.nx h24;refine⟨rfl,t23.sc h24 aM,(HG t24.r).mono ?_⟩;rintro _ ow ⟨cs,rfl,hx,Rx⟩;obtain⟨sl,rfl⟩:=eV hx;have t25:=t24.nx Rx;refine⟨_,_,_,_,sl,_,rfl,t24.sc Rx aM,λqd jp=>?_⟩;have z24:jt.heap.size<=sE.heap.size:=bh rH.size h24.o.size;have zk:=t18.z.k k1 aM;refine⟨_,_,rfl,rfl,rfl,(gF true).low ((gF true).stay hx ((Stay.refl _ _).f jp (.inl aE))) z24,t25.f jp aM,?_,bh z24 (bh Rx.o.size jp.size)⟩;unfold FF;rw[aO qw]
 have qw:(kk:Int)=2:=acx
 have qw:kk=2:=aE
 refine⟨tT,u,rfl,rfl,rfl,WG _ _ _,t18,?_,aY _⟩;unfold FF;rw[aR qw]
abbrev AcO(B:Nat)(w:av)(la:Sl)(acc:List Ac):Prop:=Own (sN true) 9 139 B w (Fr B) la acc
structure Br (F:aJ) (ts:List Tk) (w w':av) (b:Nat) (l:Sl) (k0 k1 B:Nat) (s:Sx) (acc:List Ac) (la:Sl):Prop where
 r:Sr F ts w' b l s
 b0:aF w' k0 95 [rp b]
 b1:aF w' k1 23 [la.v]
 own:AcO B w' la acc
 o:∃gs,ay (b::k1::gs) w w'/\∀x,x∈gs->B<=x
 n0:b<k0
 n1:b<k1
 n01:k0≠k1
 l0:k0<B
 l1:k1<B
 lB:B<=w'.heap.size
section
variable {k0 k1 B:Nat} {acc:List Ac} {la:Sl} {w2:av}
theorem Br.nx(h:Br F ts w w' b l k0 k1 B s acc la)(k:Dn F ts w' w2 b l s'):Br F ts w w2 b l k0 k1 B s' acc la:=by
 have n0:=h.n0;have n1:=h.n1;have l0:=h.l0;obtain⟨gs,h1,h2⟩:=h.o;exact⟨k.r,k.o.blk h.b0 aal,k.o.blk h.b1 aal,h.own.stay (dH true) k.o λx hx=>.inl aai,
  ⟨gs,h1.trans k.o λx hx=>.inl aag,h2⟩,n0,n1,h.n01,l0,h.l1,bh h.lB k.o.size⟩
theorem Br.q(h:Br F ts w w' b l k0 k1 B s acc la)(k:ay [] w' w2):Br F ts w w2 b l k0 k1 B s acc la:=h.nx (h.r.dn.q k)
theorem Um(h:Br F ts w w' b l k0 k1 B s acc la)(hm:acc.length<ts.length):az aq 176 #[ae (some ⟨k1,0,none⟩),ae (some ⟨k0,0,none⟩)] w' λe w2=>e=ak (ai #[])/\∃AD,Br F ts w w2 b l k0 k1 B (nj ts s).2 (acc++[(nj ts s).1]) AD:=by
 refine ret (YL _ _ _ _ ?_);intro w0 cw;have h0:=h.q cw;have n1:=h.n1;have l1:=h.l1;refine⟨λk=>k=k1,rfl,la,h0.b1.SX 0 rfl,_,h0.b0.SX 0 rfl,(Ul h0.r).mono ?_⟩;rintro _ w1 ⟨cs,rfl,hx,h1⟩;have yZ:=h0.nx h1;generalize EZ:(nj ts s).1=ac at*
 generalize (nj ts s).2=s1 at*
 have EI:=hx;obtain⟨xc,rfl,NI⟩:=EI;obtain⟨sl,rfl⟩:=eV NI;have tP:=h.r.sm;have Z1:=h0.own.len;obtain⟨y,w2,e2,cO,AD,w3,e3,qy,⟨gs,da,tv⟩,_⟩:=rO (P:=aq) (t:=23) (ty:=23) (e:=139) (i:=Tryz.t139) (bytes:=104) (size:=9) (v:=ah (acv ac.k ac.n (kD ac.x.k ac.x.n ac.x.s ac.x.op sl ac.x.a) ac.a).toArray) (x:=ac) (G:=Fr w0.heap.size) (by kernel_rfl) (by kernel_rfl) rfl rfl rfl rfl aL aL aL (dH true) yZ.own yZ.lB rfl hx (λk hk _=>⟨bh h0.lB hk,h0.own.new hk⟩) aE;have Ou:ay gs w1 w3:=(cO.weaken (bs':=gs) λ_ h=>aah).trans da λx hx=>.inl hx;have pu:∀g,g∈gs->B<=g:=λg hg=>(tv g hg).2.1;refine⟨_,_,_,_,_,_,sl,_,_,rfl,λk hk cd=>(by subst hk;exact h1.o.block k cd aal),y,w2,e2,bR.only cO,AD,w3,e3,λk hk cd=>(by subst hk;exact da.block k cd λhm=>(by have:=pu k hm;omega)),k1,0,_,_,rfl,Ou.blk yZ.b1 (λhm=>by have:=pu k1 hm;omega),aM,λw4 dR rD=>⟨rfl,AD,?_⟩⟩;have n0:=h.n0;have n01:=h.n01;have l0:=h.l0;have z3:=Ou.size;have z4:=dR.size;have hlB:=yZ.lB;have hOb:∀{x:Nat},x<B->x≠k1->w4.heap[x]? =w1.heap[x]? :=λhx hn=>(dR.block _ aE acn).trans (Ou.block _ aE λhm=>(by have:=pu _ hm;omega));obtain⟨gs0,o1,o2⟩:=yZ.o;have hr3:Sr F ts w3 b l s1:=yZ.r.own Ou λx hx=>(by have:=pu x hx;omega)
 refine⟨hr3.one dR n1,(hOb l0 n01).trans yZ.b0,rD,?_,⟨gs++gs0,(((o1.weaken (bs':=b::k1::(gs++gs0)) λx hx=>.inl (by simp only[aX,cD]at hx⊢;rcases hx with hx | hx | hx<;>simp[hx])).trans Ou λx hx=>.inl aa4)).trans dR λx hx=>.inl aag,λx hx=>?_⟩,n0,n1,n01,l0,l1,aE⟩
 ·refine((qy.mono (dH true) λk hk=>?_).stay (dH true) dR λx hx=>.inl aai);rcases hk with hk | hk
  ·exact hk
  exact bh hlB hk
 rcases cD.1 hx with hx | hx
 ·exact pu x hx
 exact o2 x hx
theorem Mf(f:Nat)(h:Br F ts w w' b l k0 k1 B s acc la)(hf:mu ts s<f)(hm:acc.length+mu ts s<=ts.length):
  az aq 175 #[rp b,ab (ao #[125]),.func (.func 176) #[] #[ae (some ⟨k1,0,none⟩),ae (some ⟨k0,0,none⟩)]] w' λe w2=>e=ak (ai #[])/\∃AD,Br F ts w w2 b l k0 k1 B (nU ts f acc s).2 (nU ts f acc s).1 AD:=by
 refine ret (YN ⟨b,0,none⟩ _ ⟨.func (.func 176) #[] #[ae (some ⟨k1,0,none⟩),ae (some ⟨k0,0,none⟩)],rfl⟩ (λv w2=>v=(ai #[])/\∃AD,Br F ts w w2 b l k0 k1 B (nU ts f acc s).2 (nU ts f acc s).1 AD) w' ?_);generalize VW:nU ts f acc s=res;refine⟨λnv w2=>∃s' Ov AD,Br F ts w w2 b l k0 k1 B s' Ov AD/\nU ts nv Ov s'=res/\mu ts s'<nv/\Ov.length+mu ts s'<=ts.length,f,⟨s,acc,la,h,VW,hf,hm⟩,?_⟩;rintro nv w0 ⟨s',Ov,AD,h0,hR,hf0,NM⟩;obtain⟨m,rfl⟩:∃m,nv=m+1:=⟨nv-1,aE⟩
 rw[nU]at hR;refine⟨λbo w2=>(bo=true/\s'.fc=0/\cu ts s' [[125]]=0/\Br F ts w w2 b l k0 k1 B s' Ov AD)∨(bo=false/\Br F ts w w2 b l k0 k1 B res.2 res.1 AD),?_,(lV h0.r).mono ?_⟩
 ·rintro bo w1 (⟨rfl,hfc,hw,h1⟩ | ⟨rfl,h1⟩)
  ·refine⟨λ_=>⟨176,[],[_,_],rfl,ky (by kernel_rfl),?_⟩,λhh=>(by cases hh)⟩;rw[aO (by simp[hfc]),aO (by simp[hw])]at hR;have hmu:=Ug h0.r.en hfc h0.r.lt;have VX:mu ts s'<=ts.length:=ab6
   refine(Um h1 aE).mono ?_;rintro _ w3 ⟨rfl,la2,h3⟩;exact⟨rfl,m,aE,_,_,la2,h3,hR,aE,aay⟩
  exact⟨λhh=>(by cases hh),λ_=>⟨rfl,AD,h1⟩⟩
 rintro _ w4 ⟨rfl,dR⟩;have h4:=h0.q dR;refine⟨_,rfl,λhc=>?_,λhc=>?_⟩
 ·have hc:s'.fc=0:=aaf
  rw[aO (by simp[hc])]at hR;obtain⟨q,w5,e1,fe,hk⟩:=Af h4.r [[125]] (n:=1) (parts:=#[(0,ab (T [125]))]) rfl rfl aL aL;refine⟨q,w5,e1,hk.mono ?_⟩;rintro _ w6 ⟨rfl,h6⟩;have h6:=(h4.q fe).nx h6;refine⟨_,rfl,?_⟩;by_cases hw:cu ts s' [[125]]=0
  ·rw[aR hw]at h6;exact .inl ⟨by rw[hw];rfl,hc,hw,h6⟩
  rw[aO hw]at h6;rw[aR hw]at hR;subst hR;exact .inr ⟨by simpa using hw,h6⟩
 have hc:s'.fc≠0:=aaf
 rw[aR hc]at hR;subst hR;exact .inr ⟨rfl,h4⟩
end
theorem yC(h:Sr F ts w b l s):az aq 141 #[rp b] w λe w'=>∃la:Sl,e=ak la.v/\ja true (sN true) 9 139 w' (Fr w.heap.size) la (gf ts s).1/\Dn F ts w w' b l (gf ts s).2:=by
 refine(YK ⟨b,0,none⟩ (λv w'=>∃la:Sl,v=la.v/\ja true (sN true) 9 139 w' (Fr w.heap.size) la (gf ts s).1/\Dn F ts w w' b l (gf ts s).2) w ?_).mono (by
  rintro e w' ⟨v,rfl,cs,rfl,h⟩;exact⟨cs,rfl,h⟩)
 intro k0 k1 w0 iJ dV ku jK cw;have t0:=((h.zt.q cw).ad iJ dV).ad ku jK;obtain⟨q,w1,e1,cA,hm⟩:=pc t0.r [123];refine⟨q,w1,e1,t0.sq cA aM,hm.mono ?_⟩;rintro _ w2 ⟨rfl,h2⟩;have t1:=t0.q cA;have t2:=t1.nx h2;refine⟨rfl,t1.sc h2 aM,λAB pv=>?_⟩;have hb:=h.lb;have hB:Br F ts w2 w2 b l k0 k1 w2.heap.size (dP ts s [123]) [] Sl.nil:=
  ⟨t2.r,AB,pv,Own.nil _ _ _ _ _ _,⟨[],Only.refl _ _,λ_ h=>aah⟩,aE,aE,λe=>(by subst e;have:=AB.symm.trans pv;simp at this),AB.lt,pv.lt,aY _⟩
 refine(Mf (ts.length+1) hB ab6 (by rw[aZ,bI];unfold mu;split<;>omega)).mono ?_;rintro _ w3 ⟨rfl,la,h3⟩;have z2:=t2.z.o.size;obtain⟨gs,o1,o2⟩:=h3.o;refine⟨rfl,_,h3.b0,_,h3.b1,la,rfl,?_,?_,h3.r⟩
 ·exact(h3.own.sl (dH true) λk hk=>hk).low (dH true) z2
 exact t2.z.o.trans o1 λx hx=>by
  simp only[aX]at hx;rcases hx with rfl | rfl | hx
  ·exact .inl aM
  ·exact .inr ku
  exact .inr (bh z2 (o2 x hx))
end
section
variable {F:aJ} {ts:List Tk} {w w':av} {b:Nat} {l:Sl} {s s':Sx}
structure MvX (A:Nat) (w:av) (m:Mv) (k:Int) (ev:aK) (wt:Int) (gd:Bool) (gc:aI) (nM:Sl) (a:Int):Prop where
 e1:k=m.k
 e2:ev=T m.ev
 e3:wt=m.wt
 e4:gd=m.gd
 e5:a=m.a
 g:rE true w (Fr A) m.g gc
 x:ja true (sN true) 9 139 w (Fr A) nM m.acts
theorem MvX.stay{A:Nat}{m:Mv}{k:Int}{ev:aK}{wt:Int}{gd:Bool}{gc:aI}{nM:Sl}{a:Int}(h:MvX A w m k ev wt gd gc nM a)(hs:Stay A w w'):MvX A w' m k ev wt gd gc nM a:=
 ⟨h.e1,h.e2,h.e3,h.e4,h.e5,(gF true).stay h.g hs,h.x.stay (dH true) aL hs⟩
theorem qj(ts:List Tk)(s:Sx):mu ts s<=ts.length:=ab6
theorem yD(h:Sr F ts w b l s){ss:List (aH)}(hw:cu ts s ss≠0):s.i+1<ts.length:=h.en.next h.lt (dc hw).2
theorem QB(h:Sr F ts w b l s)(k:Int)(hk:(tk ts s.i).k≠5):az aq 139 #[rp b,O U k] w λe w'=>∃cs,e=ak (ah cs.toArray)/\zq true w' (Fr w.heap.size) (lf ts k s).1 cs/\Dn F ts w w' b l (lf ts k s).2:=by
 refine(YE ⟨b,0,none⟩ k (λv w'=>∃cs,v=(ah cs.toArray)/\zq true w' (Fr w.heap.size) (lf ts k s).1 cs/\Dn F ts w w' b l (lf ts k s).2) w ?_).mono (by
  rintro e w' ⟨v,rfl,cs,rfl,h⟩;exact⟨cs,rfl,h⟩)
 intro k0 w0 iJ dV cw;have t0:=h.zt.al cw iJ dV;obtain⟨ad,g1,g2⟩:=t0.r.now;refine⟨λ_=>True,trivial,l,Blk.eo t0.r.blk 0 rfl,trivial,_,Blk.eo t0.r.blk 1 rfl,ad,g1,trivial,_,g2.eo 3 _ rfl,λk1 w1 ku jK cA=>?_⟩;have t1:=t0.al cA ku jK;refine(Ui t1.r).mono ?_;rintro _ w2 ⟨rfl,h2⟩;have t2:=t1.nx h2;refine⟨rfl,t1.sc h2 aM,(lV t2.r).mono ?_⟩;rintro _ w3 ⟨rfl,da⟩;have t3:=t2.q da;unfold lf;refine⟨_,rfl,t2.sq da aM,λhf w4 dR=>?_,λhf=>?_⟩
 ·have hf:(pQ ts s).fc≠0:=abR
  rw[aR hf];exact⟨_,rfl,⟨kD 0 0 [] 0 Sl.nil 0,Sl.nil,Sl.nil,rfl,WG _ _ _,ja.nil _ _ _ _ _ _,ja.nil _ _ _ _ _ _⟩,(t3.f dR aM).dn⟩
 have hf:¬(pQ ts s).fc≠0:=abR
 rw[aO hf];refine⟨_,Blk.eo t3.r.blk 1 rfl,b,1,_,_,rfl,t3.r.blk,aM,t3.ne aM,t3.ne aM,λw5 fe vd=>?_⟩;rw[t3.r.wr]at vd;have t5:Zt F ts w w5 b l (cX (pQ ts s)) [k1,k0]:=t3.up fe vd (h.en.next t3.r.lt (by rw[BB];exact hk));have hA:=t5.z.o.size;have hA0:=(t5.z.k k0 aM).2;have hA1:=(t5.z.k k1 aM).2;have Xh:=t5.r.lb;generalize hAA:w5.heap.size=A at*
 generalize (tk ts s.i).a=aa at*
 generalize cX (pQ ts s)=u0 at*
 generalize hR:(if k=1 then nq ts {L6 k aa with ev:=(io ts u0).1} (io ts u0).2 else if k=3 then nq ts {L6 k aa with wt:=(fu ts u0 3).1.n} (fu ts u0 3).2 else nq ts (L6 k aa) u0)=R;have x0:∀{w':av} {ev:aH} {wt:Int},MvX A w' {L6 k aa with ev:=ev,wt:=wt} k (T ev) wt false (kD 0 0 [] 0 Sl.nil 0) Sl.nil aa:=⟨rfl,rfl,rfl,rfl,rfl,WG _ _ _,ja.nil _ _ _ _ _ _⟩
 refine⟨λi3 s0 i4 b1 i5 i6 s1 i7 l1 i8 l2 l3 i9 w'=>∃(m:Mv) (u:Sx),MvX A w' m i3 s0 i4 b1 [O U i5,O U i6,ab s1,O U i7,l1.v,O U i8] l2 i9/\m.gd=false/\m.tg=[]/\l3=Sl.nil/\Zt F ts w w' b l u [k1,k0]/\nq ts m u=R/\A<=w'.heap.size,?_,λhc=>?_,λhc=>⟨λKc=>?_,λKc=>?_⟩⟩;rotate_left
 ·have hc:k=1:=aaf
  refine(uA t5.r).mono ?_;rintro _ WZ ⟨rfl,h32⟩;have t32:=t5.nx h32;refine⟨_,rfl,t5.sc h32 aM,λW0 aaZ=>?_⟩;rw[aR hc]at hR;exact⟨_,_,x0,rfl,rfl,rfl,t32.f aaZ aM,hR,by rw[<-hAA];exact bh h32.o.size aaZ.size⟩
 ·have hc:¬k=1:=aaf
  have Kc:k=3:=acB
  refine(uz t5.r (k:=3) aL).mono ?_;rintro _ Vh ⟨rfl,h34⟩;have t34:=t5.nx h34;refine⟨_,_,_,_,rfl,t5.sc h34 aM,λW1 aa0=>?_⟩;rw[aO hc,aR Kc]at hR;exact⟨_,_,x0,rfl,rfl,rfl,t34.f aa0 aM,hR,by rw[<-hAA];exact bh h34.o.size aa0.size⟩
 ·have hc:¬k=1:=aaf
  have Kc:¬k=3:=acB
  rw[aO hc,aO Kc]at hR;exact⟨_,_,x0,rfl,rfl,rfl,t5,hR,GH hAA.symm⟩
 rintro i3 s0 i4 b1 i5 i6 s1 i7 l1 i8 l2 l3 i9 w6 ⟨m,u,hx,Pu,za,rfl,t6,hR,z6⟩;unfold nq at hR;obtain⟨q,sE,e1,zC,hm⟩:=Af t6.r [[91]] (n:=1) (parts:=#[(0,ab (T [91]))]) rfl rfl aL aL;have t24:=t6.q zC;refine⟨λi3 s0 i4 b1 i5 i6 s1 i7 l1 i8 l2 l3 i9 w'=>∃(m:Mv) (u:Sx),MvX A w' m i3 s0 i4 b1 [O U i5,O U i6,ab s1,O U i7,l1.v,O U i8] l2 i9/\m.tg=[]/\l3=Sl.nil/\Zt F ts w w' b l u [k1,k0]/\wc ts m u=R/\A<=w'.heap.size,?_,q,sE,e1,t6.sq zC aM,hm.mono ?_⟩;rotate_left
 ·rintro _ ow ⟨rfl,Rx⟩;have t25:=t24.nx Rx;have s25:Stay A w6 ow:=((Stay.refl A w6).q zC).d Rx Xh;refine⟨_,rfl,t24.sc Rx aM,λhc qd jp=>?_,λhc Pf N5=>?_⟩
  ·have xn:=Jw hc;rw[aO xn]at hR t25;have t26:=t25.f jp aM;have s26:=s25.f jp (.inl hA1);have z26:=s26.sz;refine(HG t26.r).mono ?_;rintro _ sS ⟨cs,rfl,hg,h27⟩;obtain⟨sl,rfl⟩:=eV hg;have t27:=t26.nx h27;refine⟨_,_,_,_,sl,_,rfl,t26.sc h27 aM,λvR sU=>?_⟩;have t28:=t27.f sU aM;obtain⟨q2,zx,e2,rF,tq⟩:=pc t28.r [93];have t29:=t28.q rF;refine⟨q2,zx,e2,t28.sq rF aM,tq.mono ?_⟩;rintro _ KE ⟨rfl,h30⟩;have t30:=t29.nx h30;have s30:=(((s26.d h27 Xh).f sU (.inl hA1)).q rF).d h30 Xh;refine⟨rfl,t29.sc h30 aM,{m with gd:=true,g:=(mh ts (cX u)).1},_,⟨hx.e1,hx.e2,hx.e3,hc,hx.e5,?_,hx.x.stay (dH true) aL s30⟩,za,rfl,t30,hR,bh z6 s30.sz⟩;exact(gF true).low ((gF true).stay hg ((((Stay.refl _ _).f sU (.inl aE)).q rF).d h30 aE)) aE
  have xn:=Jv hc;rw[aR xn]at hR t25;have s31:=s25.f N5 (.inl hA1);have Ke:=hx.stay s31;exact⟨m,u,⟨Ke.e1,Ke.e2,Ke.e3,by rw[hc,Pu],Ke.e5,Ke.g,Ke.x⟩,za,rfl,t25.f N5 aM,hR,bh z6 s31.sz⟩
 clear hx Pu za t6 hR z6 hm t24;rintro i3 s0 i4 b1 i5 i6 s1 i7 l1 i8 l2 l3 i9 w7 ⟨m,u,hx,za,rfl,t7,hR,z7⟩;unfold wc at hR;obtain⟨q,js,e1,kO,hm⟩:=HE t7.r [[123]] (n:=1) (parts:=#[(0,ab (T [123]))]) rfl rfl aL aL;have t20:=t7.q kO;refine⟨λi3 s0 i4 b1 i5 i6 s1 i7 l1 i8 l2 l3 i9 w'=>∃(m:Mv) (u:Sx),MvX A w' m i3 s0 i4 b1 [O U i5,O U i6,ab s1,O U i7,l1.v,O U i8] l2 i9/\l3=Sl.nil/\Zt F ts w w' b l u [k1,k0]/\yu ts m u=R/\A<=w'.heap.size,?_,q,js,e1,t7.sq kO aM,hm.mono ?_⟩;rotate_left
 ·rintro _ mr ⟨rfl,iL⟩;have t21:=t20.q iL;have s21:Stay A w7 mr:=((Stay.refl A w7).q kO).q iL;have z21:=s21.sz;refine⟨_,rfl,t20.sq iL aM,λhc=>(yC t21.r).mono ?_,λhc=>?_⟩
  ·rw[aO (Jw hc)]at hR;rintro _ qc ⟨la,rfl,hla,h22⟩;have t22:=t21.nx h22;refine⟨la,rfl,t21.sc h22 aM,λql rH=>?_⟩;have s23:=(s21.d h22 Xh).f rH (.inl hA1);refine⟨{m with acts:=(gf ts u).1},_,⟨hx.e1,hx.e2,hx.e3,hx.e4,hx.e5,(gF true).stay hx.g s23,?_⟩,rfl,t22.f rH aM,hR,bh z7 s23.sz⟩;exact(hla.stay (dH true) aL ((Stay.refl _ _).f rH (.inl aE))).low (dH true) aE
  rw[aR (Jv hc)]at hR;exact⟨m,u,hx.stay s21,rfl,t21,hR,bh z7 z21⟩
 clear hx za t7 hR z7 hm t20;rintro i17 s4 i18 b3 i19 i20 s5 i21 l7 i22 l8 l9 i23 w8 ⟨m,u,hx,rfl,t8,hR,z8⟩;unfold yu at hR;have hb8:b<w8.heap.size:=aE
 refine⟨λnv sg i24 s7 i25 b4 i26 i27 s8 i28 l10 i29 wL yQ i30 w'=>∃(x:aH) (acc:List (aH)) (u':Sx),sg=T x/\MvX A w8 m i24 s7 i25 b4 [O U i26,O U i27,ab s8,O U i28,l10.v,O U i29] wL i30/\Stay A w8 w'/\Own jR 1 9 w8.heap.size w' (Fr w8.heap.size) yQ acc/\Zt F ts w w' b l u' [k1,k0]/\oY ts nv x acc u'=oY ts (ts.length+1) [45,62] [] u/\mu ts u'<nv/\acc.length+mu ts u'<=ts.length,ts.length+1,⟨[45,62],[],u,rfl,hx,Stay.refl _ _,Own.nil _ _ _ _ _ _,t8,rfl,tY (qj _ _),ab8⟩,?_⟩;clear hx;rintro nv sg i24 s7 i25 b4 i26 i27 s8 i28 l10 i29 wL yQ i30 w9 ⟨x,acc,u',rfl,hx,hS,qy,t9,hT,U3,wK⟩;obtain⟨m',rfl⟩:∃m',nv=m'+1:=⟨nv-1,aE⟩
 rw[oY]at hT;obtain⟨q,dz,e1,dL,tq⟩:=Af t9.r [x] (n:=1) (parts:=#[(0,ab (T x))]) rfl rfl aL aL;have t10:=t9.q dL;refine⟨q,dz,e1,t9.sq dL aM,tq.mono ?_⟩;rintro _ dJ ⟨rfl,h11⟩;have t11:=t10.nx h11;refine⟨_,rfl,t10.sc h11 aM,λhc eM eJ=>?_,λhc=>?_⟩
 ·have hc:=Jw hc;rw[aO hc]at hT t11;have t12:=t11.q eJ;refine⟨λk=>k=k1,rfl,(uA t12.r).mono ?_⟩;rintro _ eW ⟨rfl,vU⟩;have t13:=t12.nx vU;have gr:ay [b] w9 eW:=(((dL.weaken (bs':=[b]) λ_ h=>aah).trans h11.o λx hx=>.inl hx).cn eJ).trans vU.o λx hx=>.inl hx;have zS:=hS.sz;have z9:=gr.size;have tP:=h.sm;have Oe:=qj ts u';have hmu:=nZ h.en (dc hc).1 t9.r.lt (dc hc).2 (nY h.en (s:=cX u')).toOn0;obtain⟨y,fJ,e2,eF,AD,ir,e3,aa3,⟨gs,j7,tv⟩,_⟩:=rO (P:=aq) (t:=41) (ty:=41) (e:=9) (i:=Tryz.t9) (bytes:=16) (size:=1) (v:=ab (T (io ts (cX u')).1)) (x:=(io ts (cX u')).1) (G:=λ_=>False) (by kernel_rfl) (by kernel_rfl) rfl rfl rfl rfl aL aL aL db (qy.stay db gr λx hx=>.inl aai) (bh zS z9) rfl rfl (λk hk _=>hk.elim) aE;have pu:∀g,g∈gs->w8.heap.size<=g:=λg hg=>(tv g hg).2.1;have z8w:=t8.z.o.size;have t14:=t13.q eF;have t15:=t14.row j7 λx hx=>bh z8w (pu x hx);have nk:=t8.ne (k0:=k1) aM;refine⟨_,rfl,t12.sc vU aM,λk hk cd=>(by subst hk;exact vU.o.block k cd (by simpa using nk)),y,fJ,e2,t13.sq eF aM,bR.only eF,AD,ir,e3,t14.sr j7 aM (λx hx y hy=>?_),λk hk cd=>(by subst hk;exact j7.block k cd λhm=>(by have:=pu k hm;omega)),λjD jQ=>⟨m',aE,[44],_,_,rfl,hx,?_,?_,t15.f jQ aM,hT,aE,?_⟩⟩
  ·have:=pu x hx;simp only[aX,be,ca]at hy;omega
  ·exact(((hS.go gr λx hx=>.inl aai).q eF).go j7 λx hx=>.inr (pu x hx)).f jQ (.inl hA1)
  ·refine((aa3.mono db λk hk=>?_).stay db jQ λx hx=>.inl aai);rcases hk with hk | hk
   ·exact hk
   exact bh (bh zS z9) hk
  rw[aN,bp];omega
 have hc:=Jv hc;rw[aR hc]at hT t11;obtain⟨q2,iK,e2,jf,JU⟩:=pc t11.r [59];have t17:=t11.q jf;refine⟨q2,iK,e2,t11.sq jf aM,JU.mono ?_⟩;rintro _ jt ⟨rfl,RA⟩;have t18:=t17.nx RA;refine⟨rfl,t17.sc RA aM,λjS kZ=>?_⟩;rw[<-hT]at hR;rw[<-hR];have s9:∀{B:Nat},b<B->k0<B->Stay B w9 jS:=λhb hk=>((((Stay.refl _ _).q dL).d h11 hb).q jf).d RA hb |>.f kZ (.inl hk);have s19:Stay A w8 jS:=(((((hS.q dL).d h11 Xh).q jf).d RA Xh).f kZ (.inl hA0))
 refine⟨mvv m.k m.ev m.wt m.gd [O U i26,O U i27,ab s8,O U i28,l10.v,O U i29] wL yQ m.a,by rw[hx.e1,hx.e2,hx.e3,hx.e4,hx.e5];rfl,⟨_,_,_,rfl,(gF true).low ((gF true).stay hx.g s19) hA,(hx.x.stay (dH true) aL s19).low (dH true) hA,?_⟩,(t18.f kZ aM).dn⟩;exact((qy.sl db λk hk=>hk).stay db aL (s9 hb8 aE)).low db aE
end
end Go.Proofs.YtmgndgpgngcgpaaGreatDoor.Con
