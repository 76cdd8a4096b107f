import Derived.Test.YtmgndgpgngcgpaaGreatDoorQm8
set_option linter.unusedSectionVars false
set_option linter.unusedSimpArgs false
set_option linter.unusedVariables false
set_option maxHeartbeats 1600000
set_option maxRecDepth 100000
open Go.Value renaming int->O,string->ab,pointer->ae,agg->ah,tuple->ai,bool->aj
open Go.IntKind renaming i64->U,wrap->ar
open Go.Ending renaming returned->ak
open _root_.ByteArray renaming mk->ao
open _root_.Go.Proofs.Tryz renaming prog->aq
open Go.Instr renaming buildSlice->au
open Go renaming World->av,Value->aw,Calls->az
open Go.Kt renaming Only->ay,SliceF->aA,Cells->aB,OnlyP->aD,Blk->aF
namespace Go.Proofs.YtmgndgpgngcgpaaGreatDoor.Con
open Go Go.RowKit Go.Kt Go.Kt.V Go.Proofs.YtmgndgpgngcgpaaGreatDoor.Vc
theorem ZJ{n:Int}(h0:0<=n)(h1:n<=18446744073709551615):ar .u64 n=n:=by
 have e:ar .u64 n=n % 18446744073709551616:=rfl;rw[e];omega
theorem Ip(w:av){n:Int}(h:wA n):az aq 67 #[O U n] w λe w'=>e=ak (ab (T (Lib.itoa n)))/\ay [] w w':=by
 obtain⟨h0,h1⟩:=h;by_cases hn:0<=n
 ·exact Nn w hn h1
 refine ret (YV _ _ _ ?_);refine⟨λhc=>absurd hc aae,λhc=>⟨λabK=>?_,λhp=>absurd (aW hp) aE⟩⟩;have hsz:az aq 118 #[O U n] w λe w'=>e=ak (.int .u64 (-n))/\w'=w:=by
  refine ret (YW _ _ _ ?_);refine⟨λ_=>⟨?_,rfl⟩,λhp=>absurd (aW hp) aE⟩;rw[fS (x:=n+1) aE aE,fS aE aE,ZJ (n:=0-(n+1)) aE aE,ZJ aE aE];congr 1;omega
 refine hsz.mono ?_;rintro _ u ⟨rfl,hu⟩;obtain rfl:w=u:=hu.symm;obtain⟨k,hk⟩:∃k:Nat, -n=(k:Int):=⟨(-n).toNat,aE⟩
 rw[hk];refine⟨_,rfl,(Ao k w aE).mono ?_⟩;rintro _ w1 ⟨rfl,cA⟩;have iJ:¬k=0:=aE
 have hl:=pX k aE;rw[aO iJ];refine⟨_,rfl,aam,?_,cA⟩;rw[show(ao #[45])=T [45]from rfl,dQ];unfold Lib.itoa;rw[aR aE,show n.natAbs=k by omega];rfl
theorem Iq{n:Int}(h:wA n):(Lib.itoa n).length<=41:=by
 obtain⟨h0,h1⟩:=h;unfold Lib.itoa;split
 ·rw[aU];have:=pX n.natAbs aE;omega
 have:=pX n.toNat aE;omega
section
variable {w:av} {F:aJ}
theorem F7(x:Ex):(qD x).length<=16384:=BH x
theorem ZK{y:Ac}(h:y.k=1):[115,101,116,32]++y.n++[32,61,32]++qD y.x++[59]=u6 y:=by
 unfold u6;rw[aO aE,aR h];simp[nK]
theorem ZL{y:Ac}(h:y.k=2):[114,97,105,115,101,32]++y.n++[59]=u6 y:=by
 unfold u6;rw[aR h];simp[iC]
theorem ZM{y:Ac}(h1:y.k≠1)(h2:y.k≠2):[101,109,105,116,32]++y.n++[32,61,32]++qD y.x++[59]=u6 y:=by
 unfold u6;rw[aO h2,aO h1];simp[jL]
theorem F8(y:Ac):(u6 y).length<=DX y+16500:=by
 have:=F7 y.x;unfold DX;by_cases h1:y.k=1
 ·rw[<-ZK h1];simp only[aN,aU,aZ];omega
 by_cases h2:y.k=2
 ·rw[<-ZL h2];simp only[aN,aU,aZ];omega
 rw[<-ZM h1 h2];simp only[aN,aU,aZ];omega
theorem Au(a:Ac):∀l:List Ac,tH (l++[a])=tH l++(32::u6 a)
 | []=>by simp[tH]
 | b::l=>by rw[cy,tH,tH,Au a l];simp
theorem UW{y:Ac}{cs:aI}(hx:sN false w F y cs)(hn:Ab y)(hs:DX y<=8388608):
  az aq 121 #[ah cs.toArray] w λe w'=>e=ak (ab (T (u6 y)))/\ay [] w w':=by
 have hal:=F8 y;obtain⟨xc,rfl,NI⟩:=hx;obtain⟨xs,rfl⟩:=eV NI;unfold DX at hs hal;have JR:=F7 y.x;refine ret (aeT _ _ _ _ _ _ _ _ _ _ _ ?_);have b1:(ao #[115,101,116,32])=T [115,101,116,32]:=rfl;have b2:(ao #[32,61,32])=T [32,61,32]:=rfl;have b3:(ao #[59])=T [59]:=rfl;have b4:(ao #[114,97,105,115,101,32])=T [114,97,105,115,101,32]:=rfl;have b5:(ao #[101,109,105,116,32])=T [101,109,105,116,32]:=rfl;simp only[b1,b2,b3,b4,b5,dQ,bO];have kE:∀{u:av},ay [] w u->rE false u F y.x (kD y.x.k y.x.n y.x.s y.x.op xs y.x.a):=λhO=>(gF false).keep NI λk _ cd=>hO.block k cd aM;have ln:∀{l m:aH},(l++m).length=l.length+m.length:=aN;refine⟨λh1 k0 w0 iJ dV cw=>⟨λk=>k=k0,rfl,aE,abq,(BX (kE cw) hn aE).mono ?_⟩,λh1=>⟨λh2=>⟨aE,abq,λk1 w2 _ _ hO=>⟨by rw[ZL ab3],hO⟩⟩,λh2 k2 w3 qw vS da=>⟨λk=>k=k2,rfl,aE,abq,(BX (kE da) hn aE).mono ?_⟩⟩⟩
 ·rintro _ w1 ⟨rfl,cA⟩;refine⟨_,rfl,cA.same aae,bR.only cA,?_,?_,by rw[dQ,dQ,ZK aaz],cw.cn cA⟩
  ·rw[bO];simp only[aN,aU,aZ];omega
  rw[dQ,bO];simp only[aN,aU,aZ];omega
 rintro _ w1 ⟨rfl,cA⟩;refine⟨_,rfl,cA.same aae,bR.only cA,?_,?_,by rw[dQ,dQ,ZM aaz ab3],da.cn cA⟩
 ·rw[bO];simp only[aN,aU,aZ];omega
 rw[dQ,bO];simp only[aN,aU,aZ];omega
theorem B1:∀l:List Ac,iG l<=1048576->(tH l).length<=l.length*1065080
 | [],_=>bm _
 | a::l,h=>by
  have h1:=F8 a;have h2:DX a<=iG (a::l):=rm aM;have h3:iG l<=iG (a::l):=by rw[iG];omega
  have h4:=B1 l aE;rw[tH,aU,aN,aU,fD];omega
theorem yN{l:Sl}{rJ:List Ac}(hl:ja false (sN false) 9 139 w F l rJ)(hn:∀y,y∈rJ->Ab y)(hs:iG rJ<=1048576):
  az aq 70 #[l.v] w λe w'=>e=ak (ab (T (sI rJ)))/\ay [] w w':=by
 refine ret (aeS _ _ _ ?_);have hln:=hl.1.len;have Gn:=gY rJ;have kp:∀{u:av},ay [] w u->aA (sN false) 9 u F l rJ:=λhO=>SliceF.only (dH false) aL hl.1 hO aM;refine⟨λkv s i u=>∃(j:Nat) (t:aH),s=T t/\t=123::tH (rJ.take j)/\i=(j:Int)/\kv+j=rJ.length/\j<=rJ.length/\t.length<=1+j*1065080/\ay [] w u,rJ.length,⟨0,[123],rfl,rfl,rfl,aE,bm _,aM,Only.refl _ _⟩,?_⟩;rintro kv _ _ w0 ⟨j,t,rfl,et,rfl,Tt,hj,ht,hO⟩;refine⟨λlY=>?_,λlY=>?_⟩
 ·have lY:=aV lY;obtain⟨ad,y,cs,g1,g2,g3,g4,g5,g6⟩:=(kp hO).get (bc j) aE;rw[ba]at g2;have tS:=bF g2;have Pw:=rm tS;have Ci:=g6;obtain⟨xc,rfl,NI⟩:=g6;obtain⟨xs,rfl⟩:=eV NI;refine⟨aam,ad,g1,_,_,_,_,_,_,_,_,_,g5,(UW Ci (hn y tS) aE).mono ?_⟩;rintro _ w1 ⟨rfl,cA⟩;have hm:=F8 y;have Oe:(t++[32]++u6 y).length<=1+(j+1)*1065080:=by
   rw[aN,aN,bp,fD];omega
  refine⟨_,rfl,?_,kv-1,aE,j+1,t++[32]++u6 y,?_,by rw[bK,g2,et];show _=123::tH (rJ.take j++[y]);rw[Au];simp,aad,aE,aE,Oe,hO.cn cA⟩
  ·rw[show(ao #[32])=T [32]from rfl,dQ,bO,bO,aN,bp];omega
  rw[show(ao #[32])=T [32]from rfl,dQ,dQ]
 have lY:=aW lY;have uW:j=rJ.length:=aE
 subst uW;refine⟨aam,?_,hO⟩;rw[show(ao #[32,125])=T [32,125]from rfl,dQ,et,fF];rfl
def O3:List (aH)->aH
 | []=>[]
 | s::l=>32::45::62::32::(s++zr l)
theorem Ep(s:aH):∀l:List (aH),zr (l++[s])=zr l++[44,32]++s
 | []=>by simp[zr]
 | b::l=>by rw[cy,zr,zr,Ep s l];simp
theorem Nu(s:aH):∀l:List (aH),O3 (l++[s])=O3 l++(if l=[]then[32,45,62,32]else[44,32])++s
 | []=>by simp[O3,zr]
 | b::l=>by rw[cy,O3,O3,Ep s l,aO aM];simp
theorem UX(m:Mv):Jt m++Hz m++(if m.acts=[]then[]else 32::sI m.acts)++O3 m.tg++[59]=sO m:=by
 unfold sO;cases m.tg<;>simp[O3]
theorem Ir{x:Mv}{cs:aI}(hx:zq false w F x cs)(hn:IV x)(hs:DY x<=1048576):
  az aq 30 #[ah cs.toArray] w λe w'=>e=ak (ab (T (sO x)))/\(sO x).length<=3000000000000/\ay [] w w':=by
 obtain⟨gc,nM,tg,rfl,hg,EZ,za⟩:=hx;obtain⟨gs,rfl⟩:=eV hg;unfold DY at hs;have hwt:wA x.wt:=hn.w;refine((aeV x.k (T x.ev) x.wt x.gd x.g.k x.g.n (T x.g.s) x.g.op gs x.g.a nM tg x.a (λv w'=>v=ab (T (sO x))/\(sO x).length<=3000000000000/\ay [] w w') w ?_)).mono (by rintro _ w' ⟨v,rfl,rfl,h,h'⟩;exact⟨rfl,h,h'⟩);intro k0 w0 iJ dV cw;have z0:=cw.size;have sm:∀{u u':av},w0.heap.size<=u.heap.size->ay [] u u'->cb [k0] u u':=λhz hO=>hO.same aae;have kT:∀{u:av},ay [] w u->aA jR 1 u F tg x.tg:=λhO=>SliceF.only db aL za.1 hO aM;have JR:=F7 x.g;have hal:=gY x.acts;have Kz:=HS x.tg;have pj:=EZ.1.len;have htn:=za.1.len;let St (K:Nat) (v:aH):aK->av->Prop:=λs u=>∃t:aH,s=T t/\t.length<=K/\ay [] w u/\w0.heap.size<=u.heap.size/\t=v
 refine⟨St 1048600 (if x.k=1 then wG++32::x.ev else fI),λs0 w1 ⟨t0,e0,h0,o0,y0,v0⟩=>⟨St 1048700 (Jt x),λs1 w2 ⟨t1,e1,h1,o1,y1,v1⟩=>⟨St 1066000 (Jt x++Hz x),λs2 w3 ⟨t2,e2,h2,o2,y2,v2⟩=>⟨St 1117000000000 (Jt x++Hz x++(if x.acts=[]then[]else 32::sI x.acts)),λs3 w4 ⟨t3,e3,h3,o3,y3,v3⟩=>?_,λhc=>?_,λhc=>⟨t2,e2,aE,o2,y2,?_⟩⟩,λhc=>?_,λhc=>⟨t1,e1,aE,o1,y1,?_⟩⟩,λhc=>?_,λhc=>⟨t0,e0,aE,o0,y0,?_⟩⟩,λhc=>?_,λhc=>⟨[97,108,119,97,121,115],rfl,aL,cw,aY _,by rw[aO aaf];rfl⟩⟩
 ·subst e3;refine⟨λkv s i u=>∃(j:Nat) (t:aH),s=T t/\t=t3++O3 (x.tg.take j)/\i=(j:Int)/\kv+j=x.tg.length/\j<=x.tg.length/\t.length<=1117000000000+j*1048590/\ay [] w u,x.tg.length,⟨0,t3,rfl,by rw[dF,O3,bL],rfl,aE,bm _,aE,o3⟩,?_⟩;rintro kv _ _ w5 ⟨j,t,rfl,et,rfl,Tt,hj,ht,hO⟩;refine⟨λlY=>⟨λs u=>∃t':aH,s=T t'/\t'.length<=t.length+4/\u=w5/\t'=t++(if j=0 then[32,45,62,32]else[44,32]),?_,λh0=>⟨aam,t++[32,45,62,32],by rw[show(ao #[32,45,62,32])=T [32,45,62,32]from rfl,dQ],aM,rfl,by rw[aR acA]⟩,λh0=>⟨aam,t++[44,32],by rw[show(ao #[44,32])=T [44,32]from rfl,dQ],aM,rfl,by rw[aO acA]⟩⟩,λlY=>?_⟩
  ·have lY:=aV lY;rintro _ w6 ⟨t',rfl,ht',hw,et'⟩;obtain rfl:w5=w6:=hw.symm;obtain⟨ad,s,cs,g1,g2,g3,g4,g5,g6⟩:=(kT hO).get (bc j) aE;rw[ba]at g2;have xo:=BJ (bF g2);have g6:cs=[ab (T s)]:=g6;subst g6;refine⟨ad,g1,_,g5,by rw[bO,bO];omega,kv-1,aE,j+1,t'++s,by rw[dQ],?_,aad,aE,aE,?_,hO⟩
   ·rw[bK,g2,et',et];show _=t3++O3 (x.tg.take j++[s]);rw[Nu];have e:(x.tg.take j=[])↔j=0:=by
     constructor
     ·intro h;have:=br List.length h;rw[dC,aZ]at this;omega
     intro h;rw[h,dF]
    simp only[e,bf]
   rw[aN,fD];omega
  have lY:=aW lY;have uW:j=x.tg.length:=aE
  subst uW;rw[fF]at et;have em:t++[59]=sO x:=by rw[et,v3,UX]
  refine⟨aam,by rw[show(ao #[59])=T [59]from rfl,dQ,em],?_,hO⟩;rw[<-em,aN,bp];have:x.tg.length*1048590<=1048576*1048590:=ey _ aE;omega
 ·subst e2;have hbb:x.acts.length*1065080<=1048576*1065080:=ey _ aE;refine⟨aam,(yN (EZ.keep (dH false) aL λk _ cd=>o2.block k cd aM) hn.a aE).mono ?_⟩;rintro _ w7 ⟨rfl,gD⟩;have ht:(sI x.acts).length<=3+x.acts.length*1065080:=by
   have:=B1 x.acts aE;unfold sI;rw[aU,aN];simp only[aU,aZ];omega
  have z7:=gD.size;refine⟨_,rfl,sm y2 gD,?_,t2++[32]++sI x.acts,by rw[show(ao #[32])=T [32]from rfl,dQ,dQ],?_,o2.cn gD,aE,?_⟩
  ·rw[show(ao #[32])=T [32]from rfl,dQ,bO,bO,aN,bp];omega
  ·rw[aN,aN,bp];omega
  have hc:=aV hc;rw[v2,aO (λe=>by rw[e]at pj;simp at pj;omega)];simp
 ·have hc:=aW hc;rw[v2,aR (bA aE),bL]
 ·subst e1;refine⟨aam,(BX ((gF false).keep hg λk _ cd=>o1.block k cd aM) hn.1 aE).mono ?_⟩;rintro _ w8 ⟨rfl,gp⟩;have z8:=gp.size;refine⟨_,rfl,sm y1 gp,?_,?_,t1++[32,91]++qD x.g++[93],by rw[show(ao #[32,91])=T [32,91]from rfl,show(ao #[93])=T [93]from rfl,dQ,dQ,dQ],?_,o1.cn gp,aE,by rw[v1];unfold Hz;rw[hc,aR rfl];simp⟩
  ·rw[show(ao #[32,91])=T [32,91]from rfl,dQ,bO,bO,aN];simp only[aU,aZ];omega
  ·rw[show(ao #[32,91])=T [32,91]from rfl,dQ,dQ,bO,aN,aN];simp only[aU,aZ];omega
  simp only[aN,aU,aZ];omega
 ·rw[v1];unfold Hz;rw[hc,aO aM,bL]
 ·refine(Ip w1 hwt).mono ?_;rintro _ w9 ⟨rfl,gr⟩;have z9:=gr.size;have:=Iq hwt;refine⟨_,rfl,sm y0 gr,aam,[97,102,116,101,114,32]++Lib.itoa x.wt,by rw[show(ao #[97,102,116,101,114,32])=T [97,102,116,101,114,32]from rfl,dQ],?_,o0.cn gr,aE,?_⟩
  ·rw[aN];simp only[aU,aZ];omega
  have hc:x.k=3:=aaf
  unfold Jt;rw[aO aE,aR hc];simp[fY]
 ·have hc:¬x.k=3:=aaf
  rw[v0];unfold Jt;rw[aO hc]
 refine⟨aam,[111,110,32]++x.ev,by rw[show(ao #[111,110,32])=T [111,110,32]from rfl,dQ],?_,cw,aY _,?_⟩
 ·rw[aN];simp only[aU,aZ];omega
 rw[aR aaf];simp[wG]
end
structure Prg (w:av) (b:Nat) (sl:Sl) (l:aH):Prop where
 blk:aF w b 134 [sl.v]
 buf:Bf w (b+1) sl l
section
variable {w w0 w1 w2 w':av} {b k0:Nat} {sl gq Ka:Sl} {l:aH}
theorem Prg.only(h:Prg w b sl l)(hO:ay [] w w'):Prg w' b sl l:=⟨hO.blk h.blk aM,h.buf.keep λg _ hl=>hO.block g hl aM⟩
theorem Prg.lb(h:Prg w b sl l):b<w.heap.size:=h.blk.lt
theorem Prg.NE(h:Prg w b sl l){k:Nat}(hk:k<b):¬(k=b∨sl.a=some ⟨k,0,none⟩):=by
 rintro(e | e)
 ·omega
 have:=(h.buf.lt e).1;omega
theorem Prg.put{s':Sl}{m:aH}{e:TypeId}(h:Prg w b sl l)(k2:Bf w1 (b+1) s' m)(k3:aD (λk=>sl.a=some ⟨k,0,none⟩) w w1)(k4:∀k,s'.a=some ⟨k,0,none⟩->sl.a=some ⟨k,0,none⟩∨w.heap.size<=k):
  aF w1 b 134 [sl.v]/\∀w2,ay [b] w1 w2->aF w2 b 134 [s'.v]->Prg w2 b s' m/\iI b sl w s' w2:=by
 have hb:=h.lb;refine⟨k3.blk h.blk λe=>by have:=(h.buf.lt e).1;omega,λw2 cO kQ=>⟨⟨kQ,k2.keep λg hg hl=>cO.block g hl (by have:=(k2.lt hg).1;simp;omega)⟩,(k3.mono λk _ hk=>.inr hk).trans (cO.p (F:=λk=>k=b) λx hx=>.inl aas) λk hk=>.inl (.inl hk),k4⟩⟩
theorem ZN{B:Nat}(h:Bf w B sl l)(cs:aH){n:Nat}{parts:Array (Nat×aw)}(hp:parts=(((cs.map fG).zipIdx 0).map λx=>(x.2,x.1)).toArray)(hn:cs.length=n)(h0:0<n)(tP:n*1<=16777216)(hB:B<=w.heap.size)(hm:l.length+cs.length<=140737488355328):
  ∃y w1,(au 112 n parts).run aq w=.ok (Sl.v y) w1/\ay [] w w1/\∃s' w2,(Builtin.append_ #[112,112] 112 #[Sl.v sl,Sl.v y]).run aq w1=.ok (Sl.v s') w2/\Bf w2 B s' (l++cs)/\
   aD (λk=>sl.a=some ⟨k,0,none⟩) w w2/\∀k,s'.a=some ⟨k,0,none⟩->sl.a=some ⟨k,0,none⟩∨w.heap.size<=k:=by
 obtain⟨y,w1,k1,k2,k3,_⟩:=pL w cs hp hn h0 tP;have z1:=k3.size;have h1:Bf w1 B sl l:=h.keep λg hg hl=>k3.block g hl aM;obtain⟨s',w2,m1,m2,gs,m3,m4,m5⟩:=wS (P:=aq) (t:=112) (ty:=112) (e:=5) (i:=Tryz.t5) (bytes:=1) (size:=1) (r:=jT) yq Bs rfl rfl rfl rfl oI (h1.own λ_=>True) ((um k2).mono oI λk hk=>⟨trivial,λe=>by have:=(h.lt e).2;have:=hk.1;omega⟩) aE aE aL;refine⟨y,w1,k1,k3,s',w2,m1,Bf.of m2 aaG,k3.CA (m3.p λx hx=>.inl (m4 x hx).1),λk hk=>?_⟩;rcases m5 with e | e
 ·rw[e]at hk;exact .inl hk
 rw[e]at hk;injection hk with hk;injection hk with hk;exact .inr aE
theorem Av:∀d,qs (d+1)=qs d++[32,32]
 | 0=>rfl
 | d+1=>by
  show 32::32::qs (d+1)=(32::32::qs d)++[32,32]
  rw[Av d];rfl
theorem B3:∀d,(qs d).length=2*d
 | 0=>rfl
 | d+1=>by rw[qs,aU,aU,B3 d];omega
theorem It{l m:aH}{d:Nat}(hl:l.length<=4000000000000)(hd:d<=4194304)(hm:m.length<=3000000000010):(iq l (d,m)).length<=4000000000000:=by
 unfold iq;split
 ·exact hl
 unfold So;rw[aN,aN,aN,B3];simp only[aU,aZ];omega
theorem Iu(h:Prg w b sl l){d:Nat}(OH:d<=4194304)(m:aH)(hm:m.length<=3000000000010):
  az aq 66 #[ae (some ⟨b,0,none⟩),O U (d:Int),ab (T m)] w λe w'=>e=ak (ai #[])/\∃(gq:Sl),Prg w' b gq (iq l (d,m))/\iI b sl w gq w':=by
 refine ret (aeQ _ _ _ _ _ ?_);have hn:=h.buf.len;have hb:=h.lb;refine⟨sl,Blk.eo h.blk 0 rfl,λhc=>⟨rfl,sl,?_,iI.refl _ _ _⟩,λhc=>?_⟩
 ·have hc:=aV hc;unfold iq;rw[aR aE];exact h
 have hc:l.length<=16384:=aao
 have ep:iq l (d,m)=l++qs d++m++[10]:=by
  unfold iq So;rw[aO aE];simp
 rw[ep];refine⟨λkv i u=>∃(j:Nat) (q:Sl),i=(j:Int)/\kv+j=d/\Prg u b q (l++qs j)/\iI b sl w q u,d,⟨0,sl,rfl,aE,by rw[qs,bL];exact h,iI.refl _ _ _⟩,?_⟩;rintro kv _ w0 ⟨j,q,rfl,Tt,hP,hM⟩;have JQ:=hP.lb;have ht:(l++qs j).length<=16384+2*j:=by rw[aN,B3];omega
 refine⟨λlY=>?_,λlY=>?_⟩
 ·have lY:=aV lY;obtain⟨y,w1,a1,a2,s',w2,a3,a4,a5,a6⟩:=ZN hP.buf [32,32] (n:=2) (parts:=#[.mk 0 (.int .u8 32),.mk 1 (.int .u8 32)]) rfl rfl aL aL aE (by rw[aU,bp];omega);obtain⟨c1,c2⟩:=hP.put (e:=0) a4 a5 a6;refine⟨q,Blk.eo hP.blk 0 rfl,y,w1,a1,s',w2,a3,b,0,_,_,rfl,c1,aY 1,λw3 da sT=>?_⟩;obtain⟨c3,c4⟩:=c2 w3 da sT;exact⟨kv-1,aE,j+1,s',aad,aE,by rw[Av,<-bf];exact c3,hM.trans c4⟩
 have lY:=aW lY;have uW:j=d:=aE
 subst uW;obtain⟨s',w1,k1,k2,k3,k4⟩:=xb hP.buf m aE aE;obtain⟨c1,c2⟩:=hP.put (e:=0) k2 k3 λk hk=>by
  rcases k4 with e | e
  ·rw[e]at hk;exact .inl hk
  rw[e]at hk;injection hk with hk;injection hk with hk;exact .inr aE
 refine⟨q,Blk.eo hP.blk 0 rfl,s',w1,k1,b,0,_,_,rfl,c1,aY 1,λw2 cO kQ=>?_⟩;obtain⟨Tu,hM2⟩:=c2 w2 cO kQ;have wx:=Tu.lb;obtain⟨y,w3,a1,a2,s5,w4,a3,a4,a5,a6⟩:=ZN Tu.buf [10] (n:=1) (parts:=#[.mk 0 (.int .u8 10)]) rfl rfl aL aL aE aay;obtain⟨d1,d2⟩:=Tu.put (e:=0) a4 a5 a6;refine⟨s',Blk.eo Tu.blk 0 rfl,y,w3,a1,s5,w4,a3,b,0,_,_,rfl,d1,aY 1,λw5 fe vd=>?_⟩;obtain⟨d3,d4⟩:=d2 w5 fe vd;exact⟨rfl,s5,d3,(hM.trans hM2).trans d4⟩
end
mutual
def O4:Nd->Prop
 | .mk b ks=>(1<=b.k/\b.k<=4)/\F9 ks
def F9:List Nd->Prop
 | []=>True
 | x::l=>O4 x/\F9 l
end
theorem Es{x:Nd}:∀{l:List Nd},F9 l->x∈l->O4 x
 | y::l,h,hx=>by
  rw[F9]at h;rcases aX.1 hx with rfl | hx
  ·exact h.1
  exact Es h.2 hx
mutual
theorem Nv:∀(d:Nat) (x:Nd),jM d x=true->O4 x
 | d,.mk b l,h=>by
  rw[jM,aP,aP]at h;rw[O4];refine⟨?_,Iv (d+1) l h.2⟩;have h1:=h.1.2;unfold rh at h1;rw[aP]at h1;have h2:=h1.2;by_cases hh:jX b.k=true
  ·unfold jX at hh;have:=aV hh;omega
  rw[aO hh]at h2;simp only[aP,bC]at h2;omega
theorem Iv:∀(d:Nat) (l:List Nd),gX d l=true->F9 l
 | _,[],_=>by rw[F9];trivial
 | d,x::l,h=>by
  rw[gX,aP]at h;rw[F9];exact⟨Nv d x h.1,Iv d l h.2⟩
end
def mD(w:av)(b:Nat)(sl:Sl)(w0:av)(s0:Sl)(l:aH):Prop:=(Prg w b sl l/\l.length<=4000000000000)/\iI b s0 w0 sl w
theorem mD.line{w w0:av}{b:Nat}{sl s0:Sl}{l:aH}(h:mD w b sl w0 s0 l){d:Nat}(OH:d<=4194304)(m:aH)(hm:m.length<=3000000000010){k0:Nat}(h1:k0≠b)(h2:s0.a≠some ⟨k0,0,none⟩)(h3:k0<w0.heap.size):
  az aq 66 #[ae (some ⟨b,0,none⟩),O U (d:Int),ab (T m)] w λe w'=>e=ak (ai #[])/\cb [k0] w w'/\∃gq,mD w' b gq w0 s0 (iq l (d,m)):=by
 obtain⟨⟨hP,hl⟩,hM⟩:=h;refine(Iu hP OH m hm).mono ?_;rintro _ w' ⟨rfl,gq,hP',hM'⟩;exact⟨rfl,hM.sm h1 h2 h3 hM',gq,⟨hP',It hl OH hm⟩,hM.trans hM'⟩
theorem mD.only{w w' w0:av}{b:Nat}{sl s0:Sl}{l:aH}(h:mD w b sl w0 s0 l)(hO:ay [] w w'):mD w' b sl w0 s0 l:=by
 obtain⟨⟨hP,hl⟩,hM⟩:=h;exact⟨⟨hP.only hO,hl⟩,hM.trans (iI.only hO)⟩
def NdC(D:Nat):Prop:=∀{F:aJ} {w:av} {b:Nat} {sl:Sl} {l:aH} {x:Nd} {cs:aI} {d:Nat},rY false D w F x cs->(∀k,F k->k<b)->Prg w b sl l->l.length<=4000000000000->yY x->O4 x->qt x<=1048576->d+n8 x<=4000000->
 az aq 119 #[ae (some ⟨b,0,none⟩),ah cs.toArray,O U (d:Int)] w λe w'=>e=ak (ai #[])/\∃(gq:Sl),Prg w' b gq (cZ l (yX d x))/\(cZ l (yX d x)).length<=4000000000000/\iI b sl w gq w'
theorem Iw{D:Nat}(hD:NdC D){F:aJ}{w:av}{b:Nat}{sl:Sl}{l:aH}{x:Nd}{cs:aI}{d:Nat}(hx:rY false (D+1) w F x cs)(hF:∀k,F k->k<b)(hP:Prg w b sl l)(hl:l.length<=4000000000000)(hn:yY x)(PA:O4 x)(hs:qt x<=1048576)(OH:d+n8 x<=4000001):
  az aq 68 #[ae (some ⟨b,0,none⟩),ah cs.toArray,O U (d:Int)] w λe w'=>e=ak (ai #[])/\∃(gq:Sl),Prg w' b gq (cZ l (yW d x.b++lD d x.kids))/\(cZ l (yW d x.b++lD d x.kids)).length<=4000000000000/\iI b sl w gq w':=by
 obtain⟨bb,ks⟩:=x;obtain⟨en,lv,mv,kids,mq,sR,iJ⟩:=hx;dsimp only[Nd.kids,Nd.b]at mq sR iJ;subst mq;have hk:=iJ.1;rw[yY]at hn;rw[O4]at PA;obtain⟨⟨yZ,wx,Vk⟩,Py⟩:=hn;obtain⟨he,Cq,tn⟩:=sR;rw[qt]at hs;rw[n8]at OH;unfold BL at hs;have IH:=hP.lb;refine ret (aeR _ _ _ _ _ _ _ _ _ _ _ _ _ ?_);intro k0 w0 dV uX cw;have z0:=cw.size;have Ct:k0≠b:=aE
 have Cu:sl.a≠some ⟨k0,0,none⟩:=λe=>aaJ
 have h0:mD w0 b sl w0 sl l:=⟨⟨hP.only cw,hl⟩,iI.refl _ _ _⟩
 have nF:∀k,F k->¬(k=b∨sl.a=some ⟨k,0,none⟩):=λk wM=>hP.NE (hF k wM);have fr:∀{u:av} {q:Sl} {L:aH},mD u b q w0 sl L->∀k,F k->k<w.heap.size->u.heap[k]? =w.heap[k]? :=fun{u q L} h k wM cd=>(h.2.1.block k aE (nF k wM)).trans (cw.block k cd aM);have sz:∀{u:av} {q:Sl} {L:aH},mD u b q w0 sl L->w0.heap.size<=u.heap.size:=λh=>h.2.1.size;have sm:∀{u u':av} {q:Sl} {L:aH},mD u b q w0 sl L->ay [] u u'->cb [k0] u u':=λh hO=>hO.same (by have:=sz h;simp;omega);have kA:∀{u:av} {q s:Sl} {la:List Ac} {L:aH},ja false (sN false) 9 139 w F s la->mD u b q w0 sl L->ja false (sN false) 9 139 u F s la:=λh hp=>h.keep (dH false) aL (fr hp);have kM:∀{u:av} {q:Sl} {L:aH},mD u b q w0 sl L->aA (zq false) 13 u F mv bb.mv:=λhp=>(tn.keep (gj false) aL (fr hp)).1;have kK:∀{u:av} {q:Sl} {L:aH},mD u b q w0 sl L->aA (rY false D) 9 u F kids ks:=λhp=>(iJ.keep (du false D) aL (fr hp)).1;have hal:=gY bb.en;have an4:=gY bb.lv;have Oe:=tn.1.len;have N2:=hk.len;have VX:=nt bb.mv;have VU:=pd ks;have m1:bb.en.length*1065080<=1048576*1065080:=ey _ aE;have m2:bb.lv.length*1065080<=1048576*1065080:=ey _ aE;let St:aH->av->Prop:=λL u=>∃q,mD u b q w0 sl L
 have eT:((T bb.ini).toList==((ao #[]).toList))=decide (bb.ini=[]):=ju bb.ini [];rw[eT];have Tv:∀{la:List Ac},iG la<=1048576->(sI la).length<=3+la.length*1065080:=fun{la} h=>by
  have:=B1 la h;unfold sI;rw[aU,aN];simp only[aU,aZ];omega
 have Xr:=he.1.len;have Gn:=Cq.1.len;refine⟨St (cZ l (ri d bb)),λw1 ⟨q1,h1⟩=>⟨St (cZ l (ri d bb++FL d bb)),λw2 ⟨q2,h2⟩=>⟨St (cZ l (ri d bb++FL d bb++HA d bb)),λw3 ⟨q3,h3⟩=>?_,λhc=>?_,λhc=>⟨q2,by
  have hc:=aW hc;rw[show HA d bb=[] by unfold HA;rw[aR (bA aE)],bL];exact h2⟩⟩,λhc=>?_,λhc=>⟨q1,by
  have hc:=aW hc;rw[show FL d bb=[] by unfold FL;rw[aR (bA aE)],bL];exact h1⟩⟩,λhc=>?_,λhc=>⟨sl,by
  have hc:bb.ini=[]:=aaf
  rw[show ri d bb=[] by unfold ri;rw[aR hc]];exact h0⟩⟩
 ·refine⟨λkv i u=>∃j:Nat,i=(j:Int)/\kv+j=bb.mv.length/\j<=bb.mv.length/\St (cZ l (ri d bb++FL d bb++HA d bb++(bb.mv.take j).map λm=>(d,sO m))) u,bb.mv.length,⟨0,rfl,aE,bm _,q3,by rw[dF,gA,bL];exact h3⟩,?_⟩;rintro kv _ w4 ⟨j,rfl,Tt,hj,q4,h4⟩;obtain⟨⟨Th,hl4⟩,hM4⟩:=id h4;have an5:=Th.buf.len;refine⟨q4,λ_=>Blk.eo Th.blk 0 rfl,λlY=>?_,λlY=>?_⟩
  ·rw[aP]at lY;have lY:=aV lY.1;obtain⟨ad,y,cs,g1,g2,g3,g4,g5,g6⟩:=(kM h4).get (bc j) aE;rw[ba]at g2;have tS:=bF g2;have Pw:=uD tS;have Ci:=g6;obtain⟨gc,nM,tg,rfl,hg,EZ,za⟩:=g6;obtain⟨gs,rfl⟩:=eV hg;refine⟨ad,g1,_,_,_,_,_,_,_,_,_,_,_,_,_,g5,(Ir Ci (Vk y tS) aE).mono ?_⟩;rintro _ w5 ⟨rfl,ht,fe⟩;refine⟨_,rfl,sm h4 fe,((h4.only fe).line (d:=d) aE (sO y) aE Ct Cu uX).mono ?_⟩;rintro _ w6 ⟨rfl,hs6,q6,h6⟩;exact⟨rfl,hs6,kv-1,aE,j+1,aad,aE,aE,q6,by
    rw[bK,g2,dx,<-bf,fg];exact h6⟩
  have ah8:cZ l (ri d bb++FL d bb++HA d bb++(bb.mv.take j).map λm=>(d,sO m))=cZ l (yW d bb):=by
   have en:yW d bb=ri d bb++FL d bb++HA d bb++WH d bb:=by unfold yW;simp
   rw[en];unfold WH;by_cases xr:j=bb.mv.length
   ·rw[xr,fF]
   have OP:16384<(cZ l (ri d bb++FL d bb++HA d bb++(bb.mv.take j).map λm=>(d,sO m))).length:=by
    rw[oH]at lY;rcases lY with h | h
    ·have:=aW h;omega
    have:=aW h;omega
   conv=>rhs;rw[<-eL j bb.mv,dx,<-bf,fg]
   rw[DR _ _ OP]
  refine⟨λkv i u=>∃j:Nat,i=(j:Int)/\kv+j=ks.length/\j<=ks.length/\St (cZ l (yW d bb++lD d (ks.take j))) u,ks.length,⟨0,rfl,aE,bm _,q4,by rw[dF,lD,bL,<-ah8];exact h4⟩,?_⟩;rintro kv2 _ w7 ⟨i,rfl,ah4,hi,q7,h7⟩;obtain⟨⟨Kg,IY⟩,Wv⟩:=id h7;refine⟨λOO=>?_,λOO=>?_⟩;rotate_left
  ·have OO:=aW OO;have hie:i=ks.length:=aE
   rw[hie,fF]at Kg IY;exact⟨rfl,q7,Kg,IY,(iI.only cw).trans Wv⟩
  have OO:=aV OO;obtain⟨ad,y,cs,g1,g2,g3,g4,g5,g6⟩:=(kK h7).get (bc i) aE;rw[ba]at g2;have tS:=bF g2;have Pw:=rn tS;have Rg:=DS tS;have Ci:=g6;obtain⟨D',rfl⟩:∃D',D=D'+1:=by
   cases D with
   | zero=>exact g6.elim
   | succ D'=>exact⟨D',rfl⟩
  obtain⟨Co,Cp,ve,qn,rfl,_⟩:=g6;refine⟨ad,g1,_,_,_,_,Co,Cp,ve,qn,_,g5,(hD Ci hF Kg IY (uE Py tS) (Es PA.2 tS) aE aE).mono ?_⟩;rintro _ w8 ⟨rfl,q8,hP8,Tj,hM8⟩;have e8:cZ (cZ l (yW d bb++lD d (ks.take i))) (yX d y)=cZ l (yW d bb++lD d (ks.take (i+1))):=by
   rw[bK,g2];show _=cZ l (yW d bb++lD d (ks.take i++[y]));rw[vC];simp only[fg]
  rw[e8]at hP8 Tj;exact⟨rfl,Wv.sm Ct Cu uX hM8,kv2-1,aE,i+1,aad,aE,aE,q8,⟨hP8,Tj⟩,Wv.trans hM8⟩
 ·refine(yN (kA Cq h2) wx aE).mono ?_;rintro _ w9 ⟨rfl,gr⟩;have ht:=Tv (la:=bb.lv) aE;refine⟨_,rfl,sm h2 gr,aam,?_⟩;rw[show(ao #[108,101,97,118,101,32])=T [108,101,97,118,101,32]from rfl,dQ];refine((h2.only gr).line (d:=d) aE _ abv Ct Cu uX).mono ?_;rintro _ dz ⟨rfl,Oy,S6,tV⟩;refine⟨rfl,Oy,S6,?_⟩;have hc:=aV hc;rw[show HA d bb=[(d,ga++32::sI bb.lv)] by unfold HA;rw[aO (λe=>by rw[e]at Gn;simp at Gn;omega)],fg];exact tV
 ·refine(yN (kA he h1) yZ aE).mono ?_;rintro _ w9 ⟨rfl,gr⟩;have ht:=Tv (la:=bb.en) aE;refine⟨_,rfl,sm h1 gr,aam,?_⟩;rw[show(ao #[101,110,116,101,114,32])=T [101,110,116,101,114,32]from rfl,dQ];refine((h1.only gr).line (d:=d) aE _ abv Ct Cu uX).mono ?_;rintro _ dz ⟨rfl,Oy,S6,tV⟩;refine⟨rfl,Oy,S6,?_⟩;have hc:=aV hc;rw[show FL d bb=[(d,fZ++32::sI bb.en)] by unfold FL;rw[aO (λe=>by rw[e]at Xr;simp at Xr;omega)],fg];exact tV
 refine⟨aam,by rw[show(ao #[105,110,105,116,105,97,108,32])=T [105,110,105,116,105,97,108,32]from rfl,dQ,bO,aN];simp only[aU,aZ];omega,?_⟩;rw[show(ao #[105,110,105,116,105,97,108,32])=T [105,110,105,116,105,97,108,32]from rfl,show(ao #[59])=T [59]from rfl,dQ,dQ];refine(h0.line (d:=d) aE _ aaw Ct Cu uX).mono ?_;rintro _ eW ⟨rfl,ah9,W3,vU⟩;refine⟨rfl,ah9,W3,?_⟩;have hc:¬bb.ini=[]:=aaf
 rw[show ri d bb=[(d,ec++32::(bb.ini++[59]))] by unfold ri;rw[aO hc]];have e:([105,110,105,116,105,97,108,32]++bb.ini++[59]:aH)=ec++32::(bb.ini++[59]):=by simp[ec]
 rw[e]at vU;exact vU
theorem Q8{D:Nat}(hD:NdC D){F:aJ}{w:av}{b:Nat}{sl:Sl}{l:aH}{x:Nd}{cs:aI}{d:Nat}(hx:rY false (D+1) w F x cs)(hF:∀k,F k->k<b)(hP:Prg w b sl l)(hl:l.length<=4000000000000)(hn:yY x)(PA:O4 x)(hs:qt x<=1048576)(OH:d+n8 x<=4000000):
 az aq 119 #[ae (some ⟨b,0,none⟩),ah cs.toArray,O U (d:Int)] w λe w'=>e=ak (ai #[])/\∃(gq:Sl),Prg w' b gq (cZ l (yX d x))/\(cZ l (yX d x)).length<=4000000000000/\iI b sl w gq w':=by
 obtain⟨bb,ks⟩:=x;have EI:=hx;obtain⟨en,lv,mv,kids,mq,sR,iJ⟩:=hx;dsimp only[Nd.kids,Nd.b]at mq sR iJ;subst mq;have AA:=hs;rw[qt]at AA;unfold BL at AA;have IH:=hP.lb;have hnp:=Qy (.mk bb ks);refine ret (aeW _ _ _ _ _ _ _ _ _ _ _ _ _ ?_);intro k0 w0 dV uX cw;have z0:=cw.size;have Ct:k0≠b:=aE
 have Cu:sl.a≠some ⟨k0,0,none⟩:=λe=>aaJ
 have h0:mD w0 b sl w0 sl l:=⟨⟨hP.only cw,hl⟩,iI.refl _ _ _⟩
 have Xj:1<=bb.k/\bb.k<=4:=by rw[O4]at PA;exact PA.1
 have nF:∀k,F k->¬(k=b∨sl.a=some ⟨k,0,none⟩):=λk wM=>hP.NE (hF k wM);have fin:∀{u:av} {q:Sl} {L:aH},mD u b q w0 sl L->L=cZ l (yX d (.mk bb ks))->∃(gq:Sl),Prg u b gq (cZ l (yX d (.mk bb ks)))/\(cZ l (yX d (.mk bb ks))).length<=4000000000000/\iI b sl w gq u:=fun{u q L} h e=>by
  subst e;obtain⟨⟨h1,h2⟩,h3⟩:=h;exact⟨q,h1,h2,(iI.only cw).trans h3⟩
 have ap:∀(a c:aH),T a++T c=T (a++c):=dQ;have e1:(ao #[104,105,115,116,111,114,121,32])=T [104,105,115,116,111,114,121,32]:=rfl;have e2:(ao #[32,45,62,32])=T [32,45,62,32]:=rfl;have e3:(ao #[59])=T [59]:=rfl;have e4:(ao #[100,101,101,112,32])=T [100,101,101,112,32]:=rfl;have e5:(ao #[115,116,97,116,101,32])=T [115,116,97,116,101,32]:=rfl;have e6:(ao #[32,123])=T [32,123]:=rfl;have e7:(ao #[112,97,114,97,108,108,101,108,32])=T [112,97,114,97,108,108,101,108,32]:=rfl;have e8:(ao #[125])=T [125]:=rfl;simp only[e1,e2,e3,e4,e5,e6,e7,e8,ap,bO];have go:∀(m:aH),m.length<=3000000000010->az aq 66 #[ae (some ⟨b,0,none⟩),O U (d:Int),ab (T m)] w0 λe w'=>e=ak (ai #[])/\cb [k0] w0 w'/\∃gq,mD w' b gq w0 sl (iq l (d,m)):=λm hm=>h0.line (d:=d) aE m hm Ct Cu uX;refine⟨λu=>¬jX bb.k=true/\∃q,mD u b q w0 sl (iq l (d,kW bb.k++32::(bb.nm++[32,123]))),λw1 ⟨hh,q1,h1⟩=>?_,λk3=>?_,λk3=>⟨λk4=>?_,λk4=>⟨λk1=>?_,λk1=>?_⟩⟩⟩
 ·obtain⟨⟨hP1,hl1⟩,hM1⟩:=h1;have hr1:rY false (D+1) w1 F (.mk bb ks) (oB bb.k bb.nm bb.ini bb.dft en lv mv kids bb.a):=(du false _).keep EI λk wM cd=>(hM1.1.block k aE (nF k wM)).trans (cw.block k cd aM);rw[fS (x:=(d:Int)+1) aE aE,show(d:Int)+1=((d+1:Nat):Int) by omega];refine(Iw hD (d:=d+1) hr1 hF hP1 hl1 hn PA hs aE).mono ?_;rintro _ w2 ⟨rfl,q2,Tu,tU,hM2⟩;have h2:mD w2 b q2 w0 sl _:=⟨⟨Tu,tU⟩,hM1.trans hM2⟩
  refine⟨rfl,hM1.sm Ct Cu uX hM2,(h2.line (d:=d) aE [125] aL Ct Cu uX).mono ?_⟩;rintro _ w3 ⟨rfl,hs3,q3,h3⟩;refine⟨rfl,hs3,acf,fin h3 ?_⟩;rw[yX,aO hh];simp only[pS,fg,Nd.b,Nd.kids];rfl
 ·have k3:bb.k=3:=abM
  simp only[aN,aU,aZ];refine⟨aE,aE,aE,aE,(go _ aaw).mono ?_⟩;rintro _ w4 ⟨rfl,CG,q4,h4⟩;refine⟨rfl,CG,acf,fin h4 ?_⟩;rw[yX,aR (by unfold jX;exact bE (.inl k3)),k3];show _=iq l _;congr 2;simp[kW,qX]
 ·have k4:bb.k=4:=abP
  simp only[aN,aU,aZ];refine⟨aE,aE,aE,aE,(go _ aaw).mono ?_⟩;rintro _ w4 ⟨rfl,CG,q4,h4⟩;refine⟨rfl,CG,acf,fin h4 ?_⟩;rw[yX,aR (by unfold jX;exact bE (.inr k4)),k4];show _=iq l _;congr 2;simp[kW,DH]
 ·have k1:bb.k=1:=abL
  simp only[aN,aU,aZ];refine⟨aE,aE,(go _ aaw).mono ?_⟩;rintro _ w4 ⟨rfl,CG,q4,h4⟩;refine⟨rfl,CG,by unfold jX;rw[k1];decide,q4,?_⟩;have e:([115,116,97,116,101,32]++bb.nm++[32,123]:aH)=kW bb.k++32::(bb.nm++[32,123]):=by rw[k1];simp[kW,yt]
  rw[e]at h4;exact h4
 have k3:¬bb.k=3:=abM
 have k4:¬bb.k=4:=abP
 have k1:¬bb.k=1:=abL
 have k2:bb.k=2:=aE
 simp only[aN,aU,aZ];refine⟨aE,aE,(go _ aaw).mono ?_⟩;rintro _ w4 ⟨rfl,CG,q4,h4⟩;refine⟨rfl,CG,by unfold jX;rw[k2];decide,q4,?_⟩;have e:([112,97,114,97,108,108,101,108,32]++bb.nm++[32,123]:aH)=kW bb.k++32::(bb.nm++[32,123]):=by rw[k2];simp[kW,oX]
 rw[e]at h4;exact h4
theorem Ix:∀D,NdC D
 | 0=>λhx _ _ _ _ _ _ _=>hx.elim
 | D+1=>λhx hF hP hl hn PA hs OH=>Q8 (Ix D) hx hF hP hl hn PA hs OH
theorem Nw{w:av}{F:aJ}{D:Nat}{c:Ch}{vs:Sl}{cs:aI}(hx:ChR false (D+1) w F c vs cs)(hn:Ry c)(hs:pU c.vars+qt c.root<=1048576):
  az aq 29 #[ah (vs.v::cs).toArray] w λe w'=>e=ak (ai #[ab (T (gn c).1),O U (gn c).2])/\ay [] w w':=by
 have IZ:=hx.root;obtain⟨en,lv,mv,kids,mq,_⟩:=hx.root;subst mq;refine ret (aef _ _ _ _ _ _ _ _ _ _ _ _ ?_);intro k0 w0 iJ dV cw;have z0:=cw.size;have keep:∀{u:av},ay [] w u->ChR false (D+1) u F c vs (oB c.root.b.k c.root.b.nm c.root.b.ini c.root.b.dft en lv mv kids c.root.b.a):=λhO=>⟨hx.vars.keep iW aL λk _ cd=>hO.block k cd aM,(du false _).keep hx.root λk _ cd=>hO.block k cd aM⟩
 have Xn:c.root.b.nm.length<=qt c.root:=by
  obtain⟨vv,⟨bb,ks⟩⟩:=c;show bb.nm.length<=qt (.mk bb ks);rw[qt];unfold BL;omega
 refine(ZI (keep cw) hn aE).mono ?_;rintro _ w1 ⟨rfl,cA⟩;have z1:=cA.size;have o1:=cw.cn cA;have ap:∀(a c:aH),T a++T c=T (a++c):=dQ;have e1:(ao #[99,104,97,114,116,32])=T [99,104,97,114,116,32]:=rfl;have e2:(ao #[32,123])=T [32,123]:=rfl;have e3:(ao #[118,97,114,32])=T [118,97,114,32]:=rfl;have e4:(ao #[32,61,32])=T [32,61,32]:=rfl;have e5:(ao #[59])=T [59]:=rfl;have e6:(ao #[125])=T [125]:=rfl;refine⟨_,rfl,cA.same aae,λOQ=>⟨?_,o1⟩,λOQ=>?_⟩
 ·have OQ:pR c=false:=by simpa using OQ
  unfold gn;rw[OQ];rfl
 have OQ:pR c=true:=by simpa using OQ
 have PA:O4 c.root:=by
  unfold pR at OQ;simp only[aP]at OQ;exact Nv 0 c.root OQ.1.2
 have OP:16384<(cZ [] (we c)).length->gn c=([],2):=λh=>by unfold gn;rw[aR OQ,aR h]
 have Ww:¬16384<(cZ [] (we c)).length->gn c=(cZ [] (we c),0):=λh=>by unfold gn;rw[aR OQ,aO h]
 obtain⟨LL,hLL⟩:∃LL,LL=(0,dX++32::(c.root.b.nm++[32,123]))::(c.vars.map λv=>(1,O0 v)):=⟨_,rfl⟩
 have aic:we c=LL++(yW 1 c.root.b++lD 1 c.root.kids)++[(0,[125])]:=by rw[hLL];unfold we;simp
 rw[e1,e2,e6,ap,ap,bO,bO];refine⟨aE,abv,λk1 w2 ku jK cO kQ=>?_⟩;have z2:=cO.size;have o2:=o1.cn cO;have Tu:Prg w2 k1 Sl.nil []:=⟨kQ,.inl ⟨rfl,rfl⟩⟩
 have RO:k0≠k1:=aE
 have Wm:(Sl.nil).a≠some ⟨k0,0,none⟩:=λe=>abW
 have fin:∀{u:av} {q:Sl} {L:aH},mD u k1 q w2 Sl.nil L->ay [] w u:=λh=>(o2.CA h.2.1).only λk hk=>hk.elim aE λe=>abW
 have h2:mD w2 k1 Sl.nil w2 Sl.nil []:=⟨⟨Tu,aL⟩,iI.refl _ _ _⟩
 have hvl:=hx.vars.1.len;have zv:c.vars.length<=pU c.vars:=by
  have:∀l:List Vr,l.length<=pU l:=λl=>by induction l with
   | nil=>exact bm _
   | cons a l ih=>rw[pU,aU];omega
  exact this _
 refine(h2.line (d:=0) aL _ aaw RO Wm aE).mono ?_;rintro _ w3 ⟨rfl,hs3,q3,h3⟩;have e0:([99,104,97,114,116,32]++c.root.b.nm++[32,123]:aH)=dX++32::(c.root.b.nm++[32,123]):=by simp[dX]
 rw[e0]at h3;have h3:mD w3 k1 q3 w2 Sl.nil (cZ [] ((0,dX++32::(c.root.b.nm++[32,123]))::((c.vars.take 0).map λv=>(1,O0 v)))):=h3;obtain⟨⟨hP3,hl3⟩,hM3⟩:=id h3;refine⟨rfl,hs3,q3,hP3.blk,λkv i q u=>∃j:Nat,i=(j:Int)/\kv+j=c.vars.length/\j<=c.vars.length/\mD u k1 q w2 Sl.nil (cZ [] ((0,dX++32::(c.root.b.nm++[32,123]))::((c.vars.take j).map λv=>(1,O0 v)))),c.vars.length,⟨0,rfl,aE,bm _,h3⟩,?_⟩;rintro kv _ q w4 ⟨j,rfl,Tt,hj,h4⟩;obtain⟨⟨Th,hl4⟩,hM4⟩:=id h4;refine⟨λlY w5 fe vd=>?_,λlY=>?_⟩
 ·have lY:=aV lY;have h5:=h4.only fe;obtain⟨⟨hP5,hl5⟩,hM5⟩:=id h5;have hv5:aA OY 3 w5 (λk=>F k/\k<w.heap.size) vs c.vars:=SliceF.keep iW (SliceF.inHeap iW hx.vars.1 aL) aL λk hk cd=>(fin h5).block k cd aM;obtain⟨ad,y,cs,g1,g2,g3,g4,g5,g6⟩:=hv5.get (bc j) aE;rw[ba]at g2;have tS:=bF g2;have Pw:=uH tS;have hyi:=hn.1 y tS;have g6:cs=[ab (T y.n),O U y.v,O U y.a]:=g6;subst g6;have aid:ad.block<w.heap.size:=g3.2;have hit:=Iq hyi;have kp:∀{u u':av} {qa qb:Sl} {L:aH},mD u k1 qa w2 Sl.nil L->iI k1 qa u qb u'->bR (λk=>k=k0∨k<w.heap.size) u u':=fun{u u' qa qb L} hp hm k hk cd=>hm.1.block k cd λhh=>by
   rcases hh with e | e
   ·omega
   rcases hp.2.2 k e with e' | e'
   ·cases e'
   omega
  rw[e3,e4,e5];refine⟨λk=>k=k0∨k<w.heap.size,.inl rfl,ad,g1,.inr (by rw[mW];exact aid),_,g5.part 0 λi v hi=>pi hi rfl,?_,?_,ad,g1,_,g5.part 1 λi v hi=>pi hi rfl,(Ip w5 hyi).mono ?_⟩
  ·rw[bO];omega
  ·rw[ap,bO,aN];simp only[aU,aZ];omega
  rintro _ w6 ⟨rfl,ez⟩;have h6:=h5.only ez;obtain⟨⟨hP6,Xd⟩,hM6⟩:=id h6;have z6:=hM6.1.size;have z5:=hM5.1.size;refine⟨_,rfl,ez.same aae,q,hP6.blk,bR.only ez,?_,?_,?_⟩
  ·rw[ap,ap,bO,bO];simp only[aN,aU,aZ];omega
  ·rw[ap,ap,ap,bO];simp only[aN,aU,aZ];omega
  rw[ap,ap,ap,ap];refine(Iu hP6 (d:=1) aL _ aaw).mono ?_;rintro _ w7 ⟨rfl,q7,Kg,Wv⟩;have IY:=It (d:=1) (m:=[118,97,114,32]++y.n++[32,61,32]++Lib.itoa y.v++[59]) Xd aL aaw;have ev:([118,97,114,32]++y.n++[32,61,32]++Lib.itoa y.v++[59]:aH)=O0 y:=by simp[O0,sM]
  have e7:iq (cZ [] ((0,dX++32::(c.root.b.nm++[32,123]))::((c.vars.take j).map λv=>(1,O0 v)))) (1,[118,97,114,32]++y.n++[32,61,32]++Lib.itoa y.v++[59])=cZ [] ((0,dX++32::(c.root.b.nm++[32,123]))::((c.vars.take (j+1)).map λv=>(1,O0 v))):=by
   rw[ev,bK,g2,dx];simp only[pS,fg];rfl
  rw[e7]at Kg IY;exact⟨rfl,hM6.sm RO Wm aE Wv,q7,Kg.blk,kp h6 Wv,kv-1,aE,j+1,aad,aE,aE,⟨Kg,IY⟩,hM6.trans Wv⟩
 have hr4:rY false (D+1) w4 (λk=>F k/\k<w.heap.size) c.root (oB c.root.b.k c.root.b.nm c.root.b.ini c.root.b.dft en lv mv kids c.root.b.a):=(du false _).keep ((du false _).inHeap IZ) λk _ cd=>(fin h4).block k cd aM;have hnn:=Ms c.root;have lY:=aW lY;have uW:j=c.vars.length:=aE
 subst uW;rw[fF,<-hLL]at Th hl4;refine(Iw (Ix D) (d:=1) hr4 (λk hk=>aaP) Th hl4 hn.2 PA aE aE).mono ?_;rintro _ w8 ⟨rfl,q8,hP8,Tj,hM8⟩;have h8:mD w8 k1 q8 w2 Sl.nil _:=⟨⟨hP8,Tj⟩,hM4.trans hM8⟩
 refine⟨rfl,hM4.sm RO Wm aE hM8,q8,hP8.blk,(h8.line (d:=0) aL [125] aL RO Wm aE).mono ?_⟩;rintro _ w9 ⟨rfl,hs9,q9,h9⟩;have e9:iq (cZ (cZ [] LL) (yW 1 c.root.b++lD 1 c.root.kids)) (0,[125])=cZ [] (we c):=by
  rw[aic];simp only[fg];rfl
 rw[e9]at h9;obtain⟨⟨hP9,hl9⟩,hM9⟩:=id h9;have W7:=hP9.buf.len;refine⟨rfl,hs9,q9,hP9.blk,λhh=>⟨?_,fin h9⟩,λhh=>⟨_,hP9.buf.bytes,?_,fin h9⟩⟩
 ·have hh:=aV hh;rw[OP aE]
 have hh:=aW hh;rw[Ww aE]
theorem wo{P:Program}{w w':av}(h:w.ShapedOpen P)(hO:ay [] w w'):w'.ShapedOpen P:=h.keptBut (may:=λ_=>False) ⟨hO.os,hO.output,λi hi=>by
 rw[hO.block i hi aM];generalize w.heap[i]? =o;rcases o with _ | o
 ·rfl
 cases o with
 | cells c t fr=>exact⟨rfl,rfl,rfl,λ_ _=>rfl⟩
 | map es clock=>exact .inr ⟨rfl,rfl⟩
 | _=>rfl⟩ λ_ h=>h.elim
theorem UY{m:Mv}(h:IV m):Ry (cM m):=by
 refine⟨λv hv=>by simp[cM]at hv,?_⟩;unfold cM;rw[yY,uy];refine⟨⟨λa ha=>by simp at ha,λa ha=>by simp at ha,λx hx=>?_⟩,trivial⟩;simp only[aQ]at hx;subst hx;exact h
theorem SW{m:Mv}(h:DY m<=1048574):pU (cM m).vars+qt (cM m).root<=1048576:=by
 unfold cM;show pU []+qt _<=_;rw[pU,qt,jB];unfold BL;simp only[iG,BK,aZ,aU];omega
theorem Nx(u:av){G:aJ}{m:Mv}{k:Int}{ev:aK}{wt:Int}{gd:Bool}{x0 x1:Int}{x2:aK}{x3:Int}{gs:Sl}{x4:Int}{nM tg:Sl}{a:Int}(hx:zq false u G m [O U k,ab ev,O U wt,aj gd,O U x0,O U x1,ab x2,O U x3,gs.v,O U x4,nM.v,tg.v,O U a]):
  ∃y w1,(au 24 1 #[.mk 0 (ah #[O U k,ab ev,O U wt,aj gd,O U x0,O U x1,ab x2,O U x3,gs.v,O U x4,nM.v,tg.v,O U a])]).run aq u=.ok (Sl.v y) w1/\ay [] u w1/\ChR false 1 w1 (λ_=>True) (cM m) Sl.nil (oB 1 [99] [] [] Sl.nil Sl.nil y Sl.nil 0):=by
 obtain⟨y,w2,p1,p2,p3,_⟩:=li (P:=aq) (t:=24) (e:=43) (i:=Tryz.t43) (w:=u) (F:=G) (vs:=[ah #[O U k,ab ev,O U wt,aj gd,O U x0,O U x1,ab x2,O U x3,gs.v,O U x4,nM.v,tg.v,O U a]]) (parts:=#[.mk 0 (ah #[O U k,ab ev,O U wt,aj gd,O U x0,O U x1,ab x2,O U x3,gs.v,O U x4,nM.v,tg.v,O U a])]) (len:=1) (xs:=[m]) (r:=zq false) (size:=13) (by kernel_rfl) (by kernel_rfl) rfl rfl aL rfl rfl aL aL (gj false) ⟨⟨rfl,hx⟩,trivial⟩;exact⟨y,w2,p1,p3,⟨ja.nil _ _ _ _ _ _,Sl.nil,Sl.nil,y,Sl.nil,rfl,⟨ja.nil _ _ _ _ _ _,ja.nil _ _ _ _ _ _,(p2.slice (gj false)).mono (gj false) (λ_ _=>trivial),λh=>aah⟩,ja.nil _ _ _ _ _ _⟩⟩
section
variable {w:av} {F:aJ} {m:Mv} {cs:aI}
theorem Q9(hx:zq false w F m cs)(hn:IV m)(hs:DY m<=1048574)(hE:Er w)(hT:Tb w)(hSh:w.ShapedOpen aq):
  az aq 11 #[ah cs.toArray] w λe w'=>e=ak (ab (T (wk m)))/\ay [] w w':=by
 have KH:=hx;obtain⟨gc,nM,tg,rfl,hg,EZ,za⟩:=hx;obtain⟨gs,rfl⟩:=eV hg;refine ret (aeY _ _ _ _ _ _ _ _ _ _ _ _ _ _ _ ?_);intro k0 w0 iJ dV cw;have z0:=cw.size;obtain⟨y,w1,p1,p3,hC⟩:=Nx w0 ((gj false).keep ((gj false).inHeap KH) λk _ cd=>cw.block k cd aM);have z1:=p3.size;have o1:=cw.cn p3;refine⟨y,w1,p1,p3.same aae,(H2 hC (UY hn) (bh (SW hs) aL) (hE.only o1) (hT.only o1)).mono ?_⟩;rw[JF (UY hn)];rintro _ w2 ⟨rfl,cO⟩;have z2:=cO.size;have o2:=o1.cn cO;refine⟨_,_,rfl,cO.same aae,λhc=>⟨?_,o2⟩,λhc=>?_⟩
 ·have hc:(gn (cM m)).2≠0:=aaf
  unfold wk;rw[aO hc]
 have hc:(gn (cM m)).2=0:=aaf
 have tn:=ZE hc;obtain⟨hN,_⟩:=M7 tn;have eu:(gn (cM m)).1.length<=16384:=by
  unfold gn at hc⊢;split
  ·rename_i h1;rw[aR h1]at hc;split
   ·exact bm _
   show(cZ [] (we (cM m))).length<=16384;omega
  exact bm _
 have OC:=QZ (l1:=dX++[32,99,32,123]) (l2:=32::32::sO m) (l3:=[125,10]) (iX (by kernel_rfl)) (.cons aL (.cons aL hN));rw[<-Q0 hc]at OC;generalize (gn (cM m)).1=S at eu OC⊢;obtain⟨q,Vb,Pb⟩:=OC;refine(Tryz.strings_Split_shaped (T S) (T [10]) w2 (wo hSh o2) aam aL).mono ?_;rw[Vb];generalize Lib.splitB (T [10]) 0 (q+2) (T S)=L at Pb⊢;rintro _ w3 ⟨rfl,hw3⟩;have hB:=Blk.alloc w2 9 (L.map Value.string);have da:=Only.alloc w2 (.cells (L.map Value.string).toArray 9);rw[<-hw3]at hB da;refine⟨⟨some ⟨w2.heap.size,0,none⟩,q+2+1,q+2+1⟩,rfl,da.same aae,_,⟨_,rfl,aL,by show(1:Int)<((q+2+1:Nat):Int);omega,rfl⟩,T (32::32::sO m),Blk.eo hB 1 (by rw[cR,Pb];rfl),(Tryz.strings_TrimLeft_one (T (32::32::sO m)) 32 aL w3).mono ?_⟩;rintro _ u ⟨rfl,hu⟩;obtain rfl:w3=u:=hu.symm;refine⟨_,rfl,cb.refl _ _,?_,o2.cn da⟩;unfold wk;rw[aR hc];congr 1;exact br T (Q1 tn)
theorem Ny(hx:zq false w F m cs)(hn:IV m)(hs:DY m<=1048574):
  az aq 12 #[ah cs.toArray] w λe w'=>e=ak (ab (T (wk m)))/\ay [] w w':=by
 have KH:=hx;obtain⟨gc,nM,tg,rfl,hg,EZ,za⟩:=hx;obtain⟨gs,rfl⟩:=eV hg;refine ret (aeZ _ _ _ _ _ _ _ _ _ _ _ _ _ _ _ ?_);intro k0 w0 iJ dV cw;have z0:=cw.size;obtain⟨y,w1,p1,p3,hC⟩:=Nx w0 ((gj false).keep ((gj false).inHeap KH) λk _ cd=>cw.block k cd aM);have z1:=p3.size;have o1:=cw.cn p3;refine⟨y,w1,p1,p3.same aae,λk1 w2 ku jK cO=>?_⟩;have z2:=cO.size;have o2:=o1.cn cO;have hC2:ChR false 1 w2 (λ_=>True) (cM m) Sl.nil (oB 1 [99] [] [] Sl.nil Sl.nil y Sl.nil 0):=⟨hC.vars.keep iW aL λk _ cd=>cO.block k cd aM,(du false _).keep hC.root λk _ cd=>cO.block k cd aM⟩
 refine(Nw (D:=0) hC2 (UY hn) (SW hs)).mono ?_;rintro _ w3 ⟨rfl,da⟩;have z3:=da.size;have o3:=o2.cn da;refine⟨_,_,rfl,da.same aae,λhc=>⟨?_,o3⟩,λhc=>?_⟩
 ·have hc:(gn (cM m)).2≠0:=aaf
  unfold wk;rw[aO hc]
 have hc:(gn (cM m)).2=0:=aaf
 refine(Ir ((gj false).keep ((gj false).inHeap KH) λk _ cd=>o3.block k cd aM) hn aE).mono ?_;rintro _ w4 ⟨rfl,_,dR⟩;refine⟨_,rfl,dR.same aae,?_,o3.cn dR⟩;unfold wk;rw[aR hc]
end
theorem pmoves_c{w:av}{x:Mv×Nat}{cs:aI}(hx:rMvU w (λ_=>True) x cs)(hb:x.2<=1048576)(hE:Er w)(hT:Tb w)(hSh:w.ShapedOpen aq):az aq 4 #[ah cs.toArray] w λe w'=>e=ak (aj true)/\ay [] w w':=by
 obtain⟨m,n⟩:=x;obtain⟨hm,hn,hs⟩:=hx;dsimp only at hm hn hs hb;have NM:=hm;obtain⟨gc,nM,tg,rfl,hg,EZ,za⟩:=hm;obtain⟨gs,rfl⟩:=eV hg;refine ret (aeX _ _ _ _ _ _ _ _ _ _ _ _ _ _ _ ?_);intro k0 w0 iJ dV cw;have z0:=cw.size;have keep:∀{u:av},ay [] w u->zq false u (λ_=>True) m [O U m.k,ab (T m.ev),O U m.wt,aj m.gd,O U m.g.k,O U m.g.n,ab (T m.g.s),O U m.g.op,gs.v,O U m.g.a,nM.v,tg.v,O U m.a]:=λhO=>(gj false).mono ((gj false).keep ((gj false).inHeap NM) λk _ cd=>hO.block k cd aM) λ_ _=>trivial;refine(Mx w0 (hE.only cw) (hT.only cw)).mono ?_;rintro _ w1 ⟨rfl,cA⟩;have z1:=cA.size;have o1:=cw.cn cA;refine⟨_,rfl,cA.same aae,λb u=>b=true/\ay [] w u,λb u ⟨h1,h2⟩=>⟨by rw[h1],h2⟩,λw2 cO=>⟨λk=>k=k0,λ_=>⟨rfl,?_⟩,λh=>aah⟩⟩;have z2:=cO.size;have o2:=o1.cn cO;refine(Q9 (keep o2) hn aE (hE.only o2) (hT.only o2) (wo hSh o2)).mono ?_;rintro _ w3 ⟨rfl,da⟩;have z3:=da.size;have o3:=o2.cn da;refine⟨_,rfl,da.same aae,bR.only da,(Ny (keep o3) hn aE).mono ?_⟩;rintro _ w4 ⟨rfl,dR⟩;exact⟨_,rfl,dR.same aae,bR.only dR,by rw[ju];simp,o3.cn dR⟩
end Go.Proofs.YtmgndgpgngcgpaaGreatDoor.Con
