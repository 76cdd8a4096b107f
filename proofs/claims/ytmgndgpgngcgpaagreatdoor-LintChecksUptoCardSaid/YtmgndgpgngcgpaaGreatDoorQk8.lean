import Derived.Test.YtmgndgpgngcgpaaGreatDoorQk7
set_option linter.unusedSectionVars false
set_option linter.unusedSimpArgs false
set_option linter.unusedVariables false
set_option maxHeartbeats 4000000
set_option maxRecDepth 100000
open Go.Value renaming int->O,string->ab,pointer->ae,agg->ah,tuple->ai,bool->aj
open Go.IntKind renaming i64->U,wrap->ar
open Go.Ending renaming returned->ak
open _root_.ByteArray renaming mk->ao
open _root_.Go.Proofs.Tryz renaming prog->aq
open Go.Instr renaming buildSlice->au
open Go renaming World->av,Value->aw,Calls->az
open Go.Kt renaming Only->ay,SliceF->aA,Cells->aB,OnlyP->aD,Blk->aF
open Go renaming World->av,Value->aw
namespace Go.Proofs.YtmgndgpgngcgpaaGreatDoor.Con
open Go Go.RowKit Go.Kt Go.Kt.V Go.Proofs.YtmgndgpgngcgpaaGreatDoor.Vc
theorem Rg{w:av}{b:Nat}{q:Option Addr}{v1 v2 v3:aw}(hq:q=none∨q=some ⟨b,0,none⟩)(h:aF w b 116 [ae q,v1,v2,v3]):
  az aq 142 #[ae (some ⟨b,0,none⟩)] w λe w'=>e=ak (ai #[])/\ay [b] w w'/\aF w' b 116 [ae (some ⟨b,0,none⟩),v1,v2,v3]:=by
 refine ret (XD _ _ _ ?_);have sL:w.shape? b=some (116,4):=by
  unfold World.shape?;unfold aF at h;rw[h];rfl
 refine⟨q,Blk.dN h 0 rfl,λhn=>?_,λhn=>⟨q,Blk.dN h 0 rfl,?_⟩⟩
 ·have hr1:=Lib.run_to_unsafe (P:=aq) (src:=111) (dst:=230) w ⟨b,0,none⟩ (t:=114) (j:=Tryz.t114) (by kernel_rfl) (by kernel_rfl) (by kernel_rfl) aL sL (by decide:(0:Nat)<4);have hr2:=Lib.run_from_unsafe (P:=aq) (src:=230) (dst:=111) w ⟨b,0,none⟩ (u:=114) (j:=Tryz.t114) (by kernel_rfl) (by kernel_rfl) (by kernel_rfl) sL (by kernel_rfl);exact⟨⟨ae (some ⟨b,0,none⟩),rfl⟩,w,hr1,⟨ae (some ⟨b,0,none⟩),rfl⟩,w,XQ _ w,some ⟨b,0,none⟩,w,hr2,b,0,_,_,rfl,h,aM,λw3 hO hB=>⟨rfl,hO,hB⟩⟩
 rcases hq with rfl | rfl
 ·cases hn
 exact⟨false,w,Lib.run_neq_ptr_same w _ (te:=114) (j:=Tryz.t114) (by kernel_rfl) (by kernel_rfl),λe=>adg,λ_=>⟨rfl,Only.refl _ _,h⟩⟩
section
variable {w0 w:av} {b:Nat} {l:aH} {st:St}
theorem VM(h:Qz w0 b w l st)(m:aH)(hm:l.length+m.length<=274877906944):az aq 99 #[ae (some ⟨b,0,none⟩),ab (T m)] w λe w'=>
  e=ak (ai #[O U (m.length:Int),.nilIface])/\Qz w0 b w' (l++m) st/\Mw false b w w':=by
 refine ret (XC _ _ _ _ ?_);obtain⟨q,sl,hq,hB,YW⟩:=h.ex;refine(Rg hq hB).mono ?_;rintro _ w1 ⟨rfl,cf,zu⟩;have z0:=cf.size;have hb:=hB.lt;have xP:Bf w1 (b+1) sl l:=YW.keep λg hg hl=>cf.block g hl (by have:=(YW.lt hg).1;simp;omega);obtain⟨s',w2,k1,k2,k3,k4⟩:=Ah xP m aE aE;have z1:=k3.size;have qF:aF w2 b 116 [ae (some ⟨b,0,none⟩),sl.v,aj st.1,O U st.2]:=k3.blk zu λe=>adr
 have DS:∀g,s'.a=some ⟨g,0,none⟩->b<g:=λg hg=>by
  rcases k4 with e | e
  ·rw[e]at hg;exact(xP.lt hg).1
  rw[e]at hg;injection hg with hg;injection hg with hg;omega
 refine⟨rfl,sl,Blk.dN zu 1 rfl,s',w2,k1,b,1,_,_,rfl,qF,aM,λw3 cH lS=>?_⟩;have lS:aF w3 b 116 [ae (some ⟨b,0,none⟩),s'.v,aj st.1,O U st.2]:=lS;have fX:aD (λk=>k=b∨(false=false/\Bu w b k)) w w3:=((cf.p (F:=λk=>k=b∨(false=false/\Bu w b k)) λx hx=>.inl (.inl aa9)).trans k3 λk hk=>.inl (.inr ⟨rfl,Hr hB hk⟩)).trans (cH.p (F:=λk=>k=b) λx hx=>.inl aa9) λk hk=>.inl (.inl hk);refine⟨by rw[cq],⟨?_,h.lo,⟨_,_,.inr rfl,lS,k2.keep λg hg hl=>cH.block g hl acQ⟩,h.i,by rw[aN];exact hm⟩,fX,λk hk=>?_⟩
 ·refine⟨fX.os.trans h.o.os,fX.tape.trans h.o.tape,fX.output.trans h.o.output,bB h.o.size fX.size,λk hk _=>(fX.block k (cJ hk h.o.size) ?_).trans (h.o.block k hk aM)⟩;rintro(e | ⟨_,e⟩)
  ·have:=h.lo;omega
  have:=(h.bu e).1;have:=h.lo;omega
 have e:=L2 lS hk;rcases k4 with e2 | e2
 ·exact .inl (Hr hB (e2▸e))
 rw[e2]at e;injection e with e;injection e with e;exact .inr ⟨rfl,aE⟩
theorem Zq.sl{f g:Bool}{ws w1 w':av}{ks ks':List Nat}(t:Zq f w0 ws b w l st ks)(hO:ay [] w w1)(m:Mw g b w w')(hk:∀k,k∈ks'->k∈ks):bS ks' w1 w':=λx hx=>
 (t.sm m hk x hx).trans (t.sq hO hk x hx).symm
theorem L9:∀d,Lib.repeatL [32,32] d=tW d
 | 0=>rfl
 | d+1=>by rw[Lib.repeatL,L9 d];rfl
theorem Ma:∀d,(tW d).length=2*d
 | 0=>rfl
 | d+1=>by rw[tW,aW,aW,Ma d];omega
theorem zg(h:Qz w0 b w l st)(ws:List (aH)){n:Nat}{parts:Array (Nat×aw)}(hp:parts=(((ws.map λx=>Value.string (T x)).zipIdx 0).map λx=>(x.2,x.1)).toArray)(hn:ws.length=n)(h0:0<n)(vG:n*1<=16777216)(d:Nat)(hd:d<=12)(hl:(gu ws).length<=274877889536):
  ∃(q:Sl) (w1:av),(au 41 n parts).run aq w=.ok q.v w1/\ay [] w w1/\az aq 54 #[rp b,O U (d:Int),q.v] w1 λe w'=>e=ak (ai #[])/\Qz w0 b w' (if st.1 then l else jl l (d,gu ws)) st/\Mw false b w w':=by
 obtain⟨q,w1,e1,aoe,cn⟩:=jJ w ws hp hn h0 vG;refine⟨q,w1,e1,cn,?_⟩;have t1:=(h.z true).q cn;have hb:=h.lb;have hbu:∀k,Bu w b k->k<w.heap.size:=λk hk=>(h.bu hk).2;refine ret (afm _ _ _ _ _ ?_);refine(L6 t1.toQz).mono ?_;rintro _ w2 ⟨rfl,rfl⟩;obtain⟨qq,sl,hB,_⟩:=t1.toQz.set;refine⟨_,rfl,st.1,λ_=>Blk.dN hB 2 rfl,λhc w3 cT=>?_,λhc=>?_⟩
 ·simp only[aP,cV,eV]at hc;obtain⟨uE,vK⟩:=hc;have t3:=t1.q cT;refine(Tryz.strings_Repeat (T [32,32]) d w3 aE (by show 2*d<=_;omega)).mono ?_;rintro _ w4 ⟨rfl,pN⟩;have dw:=Only.below pN;have t4:=t3.q dw;have aca:=aoe.keep cX (w':=w4) λk hk bT=>(cT.ca dw).block k bT aM;have xV:=Ma d;refine⟨T (tW d),by rw[show(T [32,32]).data.toList=[32,32]from rfl,L9],(BI aca aE aE).mono ?_⟩;rintro _ w5 ⟨rfl,hP5⟩;have t5:=t4.row hb hbu hP5;refine⟨_,rfl,by rw[cq,cq];omega,by rw[eI,cq,aN];omega,?_⟩;rw[show ao #[10]=T [10]from rfl,eI,eI,show(Addr.add ⟨b,0,none⟩ 0:Addr)=⟨b,0,none⟩from rfl];refine(VM t5.toQz _ ?_).mono ?_
  ·simp only[aN,aW,bd];omega
  rintro _ w6 ⟨rfl,h6,m6⟩;refine⟨_,⟨.nilIface,rfl⟩,rfl,rfl,?_,t5.m.up.trans m6⟩;rw[vK,aQ aL];unfold jl ZZ;rw[aQ uE];dsimp only;rw[bf]at h6;exact h6
 refine⟨rfl,?_,t1.m.up⟩;have:(if st.1 then l else jl l (d,gu ws))=l:=by
  cases e:st.1
  ·rw[e]at hc;have hc:16384<l.length:=aax
   rw[aQ aL];unfold jl;rw[aV hc]
  rfl
 rw[this];exact t1.toQz
theorem BM(h:Qz w0 b w l st)(d:Nat)(hd:d<=12)(word text:aH)(hw:word.length<=100)(hl:text.length<=274877880000):
  az aq 104 #[rp b,O U (d:Int),ab (T word),ab (T text)] w λe w'=>e=ak (ai #[])/\Qz w0 b w' (if st.1||decide (text=[])then l else jl l (d,gu [word,text])) st/\Mw false b w w':=by
 refine ret (aft _ _ _ _ _ _ ?_);rw[show ao #[]=T []from rfl,gU];refine⟨λhc=>?_,λhc=>?_⟩
 ·have hc:text≠[]:=aax
  have vm:=jA [word,text];simp only[bK,fC,cE,jp]at vm;obtain⟨q,w1,e1,cn,hj⟩:=zg h [word,text] (n:=2) (parts:=#[.mk 0 (ab (T word)),.mk 1 (ab (T text))]) rfl rfl aL aL d hd aE;refine⟨q,w1,e1,hj.mono ?_⟩;rintro _ w2 ⟨rfl,h2,m2⟩;refine⟨rfl,rfl,?_,m2⟩;rw[bA hc,F9];exact h2
 have hc:text=[]:=aax
 refine⟨rfl,?_,Mw.refl _ _ _⟩;rw[bE hc,nE,aV rfl];exact h
end
def yt:List Mv->Nat
 | []=>0
 | m::l=>EX m+yt l
def BN(b:Nb):Nat:=((b.nm.length+b.ini.length)+(b.dft.length+1))+((iW b.en+iW b.lv)+yt b.mv)
mutual
def lQ:Nd->Nat
 | .mk b l=>BN b+jB l
def jB:List Nd->Nat
 | []=>0
 | x::l=>lQ x+jB l
end
theorem pu{m:Mv}:∀{l:List Mv},m∈l->EX m<=yt l
 | [],h=>aa6
 | x::l,h=>by
  rw[yt];rcases ba.1 h with rfl | h
  ·omega
  have:=pu h;omega
theorem mf:∀(l:List Mv),l.length<=yt l
 | []=>be _
 | m::l=>by
  have:=mf l;rw[yt,aW];unfold EX;omega
theorem mg{x:Nd}:∀{l:List Nd},x∈l->lQ x<=jB l
 | [],h=>aa6
 | y::l,h=>by
  rw[jB];rcases ba.1 h with rfl | h
  ·omega
  have:=mg h;omega
theorem VN(x:Nd):1<=lQ x:=by
 obtain⟨b,l⟩:=x;rw[lQ];unfold BN;omega
theorem mh:∀(l:List Nd),l.length<=jB l
 | []=>be _
 | x::l=>by
  have:=mh l;have:=VN x;rw[jB,aW];omega
theorem xr{x:Nd}:∀{l:List Nd},vB l->x∈l->zf x
 | [],_,h=>aa6
 | y::l,hn,h=>by
  rw[vB]at hn;rcases ba.1 h with rfl | h
  ·exact hn.1
  exact xr hn.2 h
theorem wo(d:Nat)(x:Nd):∀l:List Nd,iB d (l++[x])=(iB d l&&jU d x)
 | []=>by simp[iB]
 | y::l=>by rw[bX,iB,iB,wo d x l,vN]
theorem yu(x:Nd):∀l:List Nd,lg (l++[x])=lg l+uU x
 | []=>by simp[lg]
 | y::l=>by rw[bX,lg,lg,yu x l];omega
theorem yv(d:Nat)(x:Nd):∀l:List Nd,ob d (l++[x])=ob d l++Cs d x
 | []=>by simp[ob]
 | y::l=>by rw[bX,ob,ob,yv d x l,bf]
def zI(x:Nb)(ks:List Nd)(d:Nat):Bool:=(decide (x.ini=[])||dj x.ini)&&(x.en.all gF&&(x.lv.all gF&&(x.mv.all kO&&iB d ks)))
theorem nj(l:aH)(p:Ln):dy l [p]=jl l p:=rfl
theorem Rh(l:List Ac):vO l≠[]:=by unfold vO;simp
theorem xt{cO:St}{l l1 l2:aH}{L M:List Ln}{F3:St}{c:Bool}{n:Nat}(hU:Up F3 c n cO)(h1:F3.1=false->l1=dy l L)(h2:cO.1=false->l2=dy l1 M):cO.1=false->l2=dy l (L++M):=λe=>by
 rw[h2 e,h1 (hU.ok e).1,fN]
def Ri(D:Nat):Prop:=∀(w0 w:av) (b:Nat) (l:aH) (st:St) (F:aJ) (x:Nd) (cs:aI) (d:Nat),Qz w0 b w l st->kj false D w F x cs->(∀k,F k->k<w0.heap.size)->zf x->lQ x<=8388608->d<=12->Er w0->Tb w0->
 az aq 107 #[rp b,ah cs.toArray,O U (d:Int)] w λe w'=>e=ak (ai #[])/\∃cO l',Up st (jU d x) (uU x) cO/\(cO.1=false->l'=dy l (Cs d x))/\Qz w0 b w' l' cO/\Mw false b w w'
section
variable {w0 w:av} {b:Nat} {l:aH} {st:St}
theorem Rj{D:Nat}(hN:Ri D)(h:Qz w0 b w l st){F:aJ}{x:Nb}{en lv mv kids:Sl}{ks:List Nd}(hb:EP false w F x en lv mv)(hk:jH false (kj false D) 9 27 w F kids ks)(hF:∀k,F k->k<w0.heap.size)(hn:YO x)(hnk:vB ks)(hs:BN x+jB ks<=8388608)(d:Nat)(hd:d<=12)(hE:Er w0)(hT:Tb w0):
  az aq 57 #[rp b,ah (mH x.k x.nm x.ini x.dft en lv mv kids x.a).toArray,O U (d:Int)] w λe w'=>e=ak (ai #[])/\∃cO l',Up st (zI x ks d) (xR x+lg ks) cO/\(cO.1=false->l'=dy l (CI d x++ob d ks))/\Qz w0 b w' l' cO/\Mw false b w w':=by
 have F1:=hs;unfold BN at F1;have Io:=mf x.mv;have F7:=mh ks;obtain⟨zv,uD,oQ⟩:=hb;have zv:=zv.1;have uD:=uD.1;have oQ:=oQ.1;have hk:=hk.1;refine ret (afs _ _ _ _ _ _ _ _ _ _ _ _ _ ?_);intro k0 w1 fO dQ cn;have t1:=(h.z false).al cn fO dQ;rw[show ao #[]=T []from rfl,gU];refine⟨λw'=>∃F3 l1,Up st (decide (x.ini=[])||dj x.ini) 0 F3/\(F3.1=false->l1=dy l (vA d x))/\Zq false w0 w b w' l1 F3 [k0],?_,λhc=>?_,λhc=>?_⟩
 ·rintro w2 ⟨zq,l2,hU2,wz,t2⟩;refine(EZ t2.toQz (SliceF.keep (cy false) zv aL λk hk _=>h.arg t2.toQz (hF k hk)) hF hn.en aE hE hT).mono ?_;rintro _ w3 ⟨tx3,st3,rfl,tl3,tt3,hU3,q3,m3⟩;have t3:=t2.nx q3 m3.up;refine⟨_,rfl,t2.sm m3 aM,(BM t3.toQz d hd io tx3 aL aE).mono ?_⟩;rintro _ w4 ⟨rfl,q4,m4⟩;have t4:=t3.nx q4 m4;have WV:st3.1=false->(if st3.1||decide (tx3=[])then l2 else jl l2 (d,gu [io,tx3]))=dy l2 (LR d x):=λe=>by
   rw[e,tt3 e];unfold LR;by_cases he:x.en=[]
   ·rw[aV he,aV he];rfl
   rw[aQ he,aQ he,bA (Rh _),aQ aL,nj,qg aL,fV (by rfl),eU,fU,nf,bD]
  generalize (if st3.1||decide (tx3=[])then l2 else jl l2 (d,gu [io,tx3]))=l4 at*
  refine⟨rfl,t3.sm m4 aM,(EZ t4.toQz (SliceF.keep (cy false) uD aL λk hk _=>h.arg t4.toQz (hF k hk)) hF hn.lv aE hE hT).mono ?_⟩;rintro _ w5 ⟨tx5,WS,rfl,tl5,tt5,hU5,q5,m5⟩;have t5:=t4.nx q5 m5.up;refine⟨_,rfl,t4.sm m5 aM,(BM t5.toQz d hd iq tx5 aL aE).mono ?_⟩;rintro _ w6 ⟨rfl,q6,m6⟩;have t6:=t5.nx q6 m6;have hl6:WS.1=false->(if WS.1||decide (tx5=[])then l4 else jl l4 (d,gu [iq,tx5]))=dy l4 (N0 d x):=λe=>by
   rw[e,tt5 e];unfold N0;by_cases he:x.lv=[]
   ·rw[aV he,aV he];rfl
   rw[aQ he,aQ he,bA (Rh _),aQ aL,nj,qg aL,fV (by rfl),eU,fU,nf,bD]
  generalize (if WS.1||decide (tx5=[])then l4 else jl l4 (d,gu [iq,tx5]))=l6 at*
  have hL4:=xt hU3 wz WV;have Uz:=xt hU5 hL4 hl6;refine⟨rfl,t5.sm m6 aM,λnv i w'=>∃(j:Nat) (cO:St) (l':aH),i=j/\j<=x.mv.length/\nv=x.mv.length-j/\Up WS ((x.mv.take j).all kO) ((x.mv.take j).map λm=>m.acts.length).sum cO/\(cO.1=false->l'=dy l6 ((x.mv.take j).map λm=>(d,BH m)))/\Zq false w0 w b w' l' cO [k0],
   x.mv.length,⟨0,WS,l6,rfl,be _,rfl,t6.toQz.up0,λ_=>rfl,t6⟩,?_⟩
  rintro nv _ w7 ⟨j,YS,l7,rfl,hj,rfl,Nl,Nn,t7⟩;have aqW:=oQ.len;have aof:aA (Af false) 13 w7 F mv x.mv:=SliceF.keep (gW false) oQ aL λk hk _=>h.arg t7.toQz (hF k hk);refine⟨λhc=>?_,λhc=>?_⟩
  ·have bT:(j:Int)<mv.n:=aR hc;obtain⟨ad,m,cs,g1,g2,g3,g4,g5,g6⟩:=aof.get (aZ j) bT;rw[aX]at g2;have YP:=bh g2;have hms:=pu YP;have oo:x.mv.take (j+1)=x.mv.take j++[m]:=by
    rw[bn,g2];rfl
   have Cm:=g6;obtain⟨gc,pO,tg,rfl,r1,r2,r3⟩:=Cm;obtain⟨gl,rfl⟩:=dX r1;refine⟨ad,g1,_,_,_,_,_,_,_,_,_,_,_,_,_,g5,λk3 w8 yS vI fj=>?_⟩;have t8:=t7.al fj yS vI;refine(aab t8.toQz ((gW false).keep g6 λk _ bT=>fj.block k bT aM) hF (hn.mv m YP) aE hE hT).mono ?_;rintro _ w9 ⟨tx9,st9,rfl,tl9,tt9,YU,q9,m9⟩;have t9:=t8.nx q9 m9.up;have vm:=jA [tx9];simp only[bK,fC,cE,jp]at vm;obtain⟨YI,de,e10,dT,acf⟩:=zg t9.toQz [tx9] (n:=1) (parts:=#[.mk 0 (ab (T tx9))]) rfl rfl aL aL d hd aE;refine⟨_,rfl,t8.sm m9 aM,YI,de,e10,t9.sq dT aM,acf.mono ?_⟩;rintro _ dz ⟨rfl,q11,m11⟩;have t11:=t9.nx q11 m11;refine⟨rfl,t9.sl dT m11 aM,x.mv.length-(j+1),aE,j+1,st9,_,aaa,aE,rfl,(Nl.tr YU).cg ?_ ?_,λe=>?_,⟨t11.toQz,t11.m,λk hk=>t11.k k adi⟩⟩
   ·rw[oo,ja];simp
   ·rw[oo,cN,T4];simp
   rw[e,aQ aL,Nn (YU.ok e).1,oo,cN,fN,tt9 e];show _=jl _ (d,BH m);have:ne (BH m)=true:=by
    have:BH m≠[]:=by unfold BH;simp
    unfold ne;rw[bA this];rfl
   rw[qg this,eU,nf,bD]
  have lR:¬(j:Int)<mv.n:=aU hc;have kF:j=x.mv.length:=aE
  subst kF;rw[bm (aY _)]at Nl Nn;have UA:=xt Nl Uz Nn;refine⟨λnv i w'=>∃(j:Nat) (cO:St) (l':aH),i=j/\j<=ks.length/\nv=ks.length-j/\Up YS (iB d (ks.take j)) (lg (ks.take j)) cO/\(cO.1=false->l'=dy l7 (ob d (ks.take j)))/\Zq false w0 w b w' l' cO [k0],
   ks.length,⟨0,YS,l7,rfl,be _,rfl,by rw[ci,iB,lg];exact t7.toQz.up0,λ_=>by rw[ci,ob];rfl,t7⟩,?_⟩
  rintro nv _ dz ⟨j,acg,sU,rfl,hj,rfl,WW,ach,t11⟩;have aqX:=hk.len;have aoh:aA (kj false D) 9 dz F kids ks:=SliceF.keep (bU false D) hk aL λk hk _=>h.arg t11.toQz (hF k hk);refine⟨λhc=>?_,λhc=>?_⟩
  ·have bT:(j:Int)<kids.n:=aR hc;obtain⟨ad,y,cs,g1,g2,g3,g4,g5,g6⟩:=aoh.get (aZ j) bT;rw[aX]at g2;have rD:=bh g2;have Np:=mg rD;have oo:ks.take (j+1)=ks.take j++[y]:=by
    rw[bn,g2];rfl
   have Cm:=g6;cases D with
   | zero=>exact Cm.elim
   | succ D=>
   obtain⟨qA,qB,nR,gj,rfl,_⟩:=Cm;refine⟨ad,g1,_,_,_,_,qA,qB,nR,gj,_,g5,λk7 eu hk7 WX eh=>?_⟩;have t12:=t11.al eh hk7 WX;refine(hN _ _ _ _ _ _ _ _ d t12.toQz ((bU false _).keep g6 λk _ bT=>eh.block k bT aM) hF (xr hnk rD) aE hd hE hT).mono ?_;rintro _ eS ⟨rfl,aci,zN,aiF,aoi,q13,m13⟩;have t13:=t12.nx q13 m13;refine⟨rfl,t12.sm m13 aM,ks.length-(j+1),aE,j+1,aci,zN,aaa,aE,rfl,(WW.tr aiF).cg ?_ ?_,λe=>?_,⟨t13.toQz,t13.m,λk hk=>t13.k k adi⟩⟩
   ·rw[oo,wo]
   ·rw[oo,yu]
   rw[aoi e,ach (aiF.ok e).1,oo,yv,fN]
  have lR:¬(j:Int)<kids.n:=aU hc;have kF:j=ks.length:=aE
  subst kF;rw[bm (aY _)]at WW ach;have aoj:=xt WW UA ach;refine⟨rfl,acg,sU,(hU2.tr (hU3.tr (hU5.tr (Nl.tr WW)))).cg rfl ?_,λe=>?_,t11.toQz,t11.m⟩
  ·unfold xR;omega
  rw[aoj e];unfold CI mvL;simp only[bf]
 ·have hc:x.ini≠[]:=aax
  refine(nN t1.toQz x.ini aE).mono ?_;rintro _ w2 ⟨rfl,zq,hU2,q2,m2⟩;have t2:=t1.nx q2 m2.up;refine⟨_,rfl,t1.sm m2 aM,aaY,?_⟩;rw[show ao #[59]=T [59]from rfl,eI];refine(BM t2.toQz d hd fb (x.ini++[59]) aL aba).mono ?_;rintro _ w3 ⟨rfl,q3,m3⟩;refine⟨rfl,t2.sm m3 aM,zq,_,hU2.cg (by rw[bA hc,rF]) rfl,λe=>?_,t2.nx q3 m3⟩;have ii:x.ini++[59]≠[]:=aM
  have TM:ne (x.ini++[59])=true:=by unfold ne;rw[bA ii];rfl
  rw[e,bA ii,aQ aL,qg aL,fV TM,eU,fU,nf,bD];unfold vA;rw[aQ hc];rfl
 have hc:x.ini=[]:=aax
 refine⟨st,l,h.up0.cg (by rw[bE hc];rfl) rfl,λ_=>by unfold vA;rw[aV hc];rfl,t1⟩
end
end Go.Proofs.YtmgndgpgngcgpaaGreatDoor.Con
namespace Go.Kt
open Go Go.RowKit
section
variable {P:Program} {w:av}
theorem N6{α:Type}{r:Rp α}{size bytes:Nat}{F:Nat->Prop}{y:Sl}{ys:List α}{e t ty:TypeId}{i:TypeInfo}{z:aw}(ht:P.underlying t=some (.slice e))(hi:P.info? e=some i)(hz:i.zero=some z)(og:i.size=size)(OI:i.bytes=bytes)(FI:z.cells.size=size)(h0:0<size)
  (hr:r.Ok) (hy:SliceF r size w F y ys) (hm:ys.length*bytes<=140737488355328) (Aw:0<bytes):
  ∃x1 w1,(Instr.buildSlice t 0 #[]).run P w=.ok (Sl.v x1) w1/\Only [] w w1/\∃x2 w2,(Builtin.append_ #[t,t] ty #[Sl.v x1,Sl.v y]).run P w1=.ok (Sl.v x2) w2/\Own r size e w.heap.size w2 F x2 ys/\OnlyP (λk=>w.heap.size<=k) w1 w2:=by
 have hO:Only [] w (w.alloc (.cells #[] e)):=Only.alloc _ _;have oz:Own r size e w.heap.size (w.alloc (.cells #[] e)) (λk=>F k/\k<w.heap.size) (⟨some ⟨w.heap.size,0,none⟩,0,0⟩:Sl) []:=
  .inr ⟨w.heap.size,[],[],rfl,aY _,Blk.alloc w e [],aM,rfl,aY _,be _,trivial⟩
 have hyk:SliceF r size (w.alloc (.cells #[] e)) (λk=>(F k/\k<w.heap.size)/\(⟨some ⟨w.heap.size,0,none⟩,0,0⟩:Sl).a≠some ⟨k,0,none⟩) y ys:=
  ((hy.inHeap hr h0).keep hr h0 λk _ bT=>hO.block k bT aM).mono hr λk hk=>⟨hk,λh=>by
   injection h with h;injection h with h;have:=hk.2;omega⟩
 refine⟨⟨some ⟨w.heap.size,0,none⟩,0,0⟩,_,AJ w ht hi,hO,?_⟩;obtain⟨s',w',g1,g2,gs,g3,g4,g5⟩:=pU (ty:=ty) ht hi hz og OI FI hr oz hyk hO.size aa3 Aw;exact⟨s',w',g1,(by simpa using g2.mono hr λk hk=>hk.1),g3.p λg hg=>.inl (g4 g hg).2.1⟩
end
end Go.Kt
namespace Go.Proofs.YtmgndgpgngcgpaaGreatDoor.Con
open Go Go.RowKit Go.Kt Go.Kt.V Go.Proofs.YtmgndgpgngcgpaaGreatDoor.Vc
theorem Mb{w:av}{F:aJ}{x:Ex}{cs:aI}(h:rE false w F x cs):∃sl d,cs=lf x.k x.n x.s x.op sl x.a/\aA (oM d) 6 w F sl x.dh:=by
 obtain⟨d,h⟩:=h;cases d with
 | zero=>exact h.elim
 | succ d=>
  obtain⟨sl,h,h2⟩:=h;exact⟨sl,d,h,Bz h2.1 λx cs _ h=>wj h⟩
theorem X2{w:av}{F:aJ}{x:Ex}{sl:Sl}{d:Nat}(h:aA (oM d) 6 w F sl x.dh):rE false w F x (lf x.k x.n x.s x.op sl x.a):=
 ⟨d+1,sl,rfl,Bz h λx cs _ h=>Jp h,λh=>aaQ⟩
theorem E2(d:Nat):∀l:List Ex,oO (mc d) l<=Ix l
 | []=>be _
 | y::l=>by rw[oO,Ix];exact kY (Jt d y) (E2 d l)
theorem Rk(x:Ex):Ix x.dh<=Ai x:=by rw[yr];omega
theorem E3{α:Type}{r:Rp α}{size bytes:Nat}{w u:av}{A:Nat}{s:Sl}{xs:List α}{e t ty:TypeId}{i:TypeInfo}{z v:aw}{x:α}{G:aJ}(ht:Tryz.prog.underlying t=some (.slice e))(hi:Tryz.prog.info? e=some i)(hz:i.zero=some z)(og:i.size=size)(OI:i.bytes=bytes)(FI:z.cells.size=size)(h0:0<size)(Aw:0<bytes)(vG:1*size<=16777216)
  (hr:r.Ok) (hs:Own r size e A w (λk=>A<=k) s xs) (hA:A<=w.heap.size) (hO:ay [] w u) (hv:v.cells.toList.length=size) (hx:r u G x v.cells.toList) (hG:∀k,G k->w.heap.size<=k) (hm:(xs.length+1)*bytes<=140737488355328):
  ∃y w1,(au t 1 #[(0,v)]).run aq u=.ok (Sl.v y) w1/\ay [] u w1/\∃s' w2,(Builtin.append_ #[t,t] ty #[Sl.v s,Sl.v y]).run aq w1=.ok (Sl.v s') w2/\
   Own r size e A w2 (λk=>A<=k) s' (xs++[x])/\aD (λk=>A<=k/\k<w.heap.size) w1 w2:=by
 have z:=hO.size;have hsb:∀k,s.a=some ⟨k,0,none⟩->k<w.heap.size:=λk e=>by have:=(hs.blk e).2;exact this
 obtain⟨y,w1,q1,q3,s',w2,g1,g2,⟨gg,g3,g4⟩,g5⟩:=lz (P:=aq) (w:=u) (ty:=ty) ht hi hz og OI FI h0 Aw vG hr (hs.keep hr λk _ bT=>hO.block k bT aM) aE hv hx (λk hk _=>⟨by have:=hG k hk;omega,λe=>by have:=hsb k e;have:=hG k hk;omega⟩) hm;exact⟨y,w1,q1,q3,s',w2,g1,g2.mono hr λk hk=>hk.elim id λh=>aE,g3.p λg hg=>.inl ⟨(g4 g hg).2.1,hsb g (g4 g hg).1⟩⟩
theorem E4{w:av}{H:aJ}{s:Sl}{l:List Ac}(h:aA (mG false) 9 w H s l)(hz:iW l<=8388608):
  az aq 31 #[s.v] w λe w'=>(∃t:Sl,e=ak t.v/\aA (mG false) 9 w' (λk=>w.heap.size<=k) t l)/\ay [] w w':=by
 refine(akY s (λv w'=>(∃t:Sl,v=t.v/\aA (mG false) 9 w' (λk=>w.heap.size<=k) t l)/\ay [] w w') w ?_).mono aa4;have hl:=h.len;have FK:=fT l;refine⟨λkv t i u=>∃j:Nat,i=(j:Int)/\kv+j=l.length/\j<=l.length/\Own (mG false) 9 139 w.heap.size u (λk=>w.heap.size<=k) t (l.take j)/\ay [] w u,l.length,⟨0,rfl,aE,be _,Own.nil _ _ _ _ _ _,Only.refl _ _⟩,?_⟩;rintro kv t _ w0 ⟨j,rfl,tw,hj,hT,cf⟩;have z0:=cf.size;refine⟨λhc=>?_,λhc=>?_⟩
 ·have hc:=aR hc;obtain⟨ad,y,ds,a1,a2,a3,a4,a5,a6⟩:=(SliceF.only (cy false) aL h cf aM).get (aZ j) aE;rw[aX]at a2;obtain⟨xc,rfl,hx⟩:=a6;obtain⟨sl,d,rfl,pH⟩:=Mb hx;have hyz:Du y<=iW l:=pr (bh a2);unfold Du at hyz;have:=Rk y.x;have:=E2 d y.x.dh;refine⟨ad,a1,_,_,_,_,_,_,sl,_,_,a5,λk2 w1 oT nC cn=>(Hh d (SliceF.only (eG d) aL pH cn aM) aE).mono ?_⟩;rintro _ w2 ⟨l2,rfl,hL2,cH⟩;have z1:=cn.size;have z2:=cH.size;refine⟨l2,rfl,cH.same aaf,λw3 cT=>?_⟩;have z3:=cT.size;have o3:ay [] w0 w3:=(cn.ca cH).trans cT λx hx=>.inr aaL;have hL3:aA (oM d) 6 w3 (λk=>w1.heap.size<=k/\k<w2.heap.size) l2 y.x.dh:=SliceF.only (eG d) aL hL2 cT λk hk _ hm=>aaZ
  obtain⟨y4,w4,q1,q2,t',w5,g1,g2,g3⟩:=E3 (w:=w0) (u:=w3) (t:=23) (ty:=23) (e:=139) (i:=Tryz.t139) (bytes:=104) (size:=9) (r:=mG false) (G:=λk=>w1.heap.size<=k/\k<w2.heap.size) (v:=ah #[O U y.k,ab (T y.n),O U y.x.k,O U y.x.n,ab (T y.x.s),O U y.x.op,l2.v,O U y.x.a,O U y.a]) (x:=y) (by kernel_rfl) (by kernel_rfl) rfl rfl rfl rfl aL aL aL (cy false) hT cf.size o3 rfl ⟨_,rfl,X2 hL3⟩ (λk hk=>aE) (by rw[cF];omega);have z4:=q2.size;refine⟨y4,w4,q1,q2.same aaf,t',w5,g1,g3.same λx hx=>?_,kv-1,aE,j+1,aaa,aE,aE,?_,((cf.ca o3).ca q2).vV (F:=λk=>w.heap.size<=k) (g3.mono λk _ hk=>hk.1) |>.only λk hk=>hk⟩
  ·simp only[aO]at hx;subst hx;exact⟨aE,λh=>aE⟩
  rw[bn,a2];exact g2
 have hc:=aU hc;have kF:j=l.length:=aE
 subst kF;rw[bm (aY _)]at hT;exact⟨⟨t,rfl,(hT.slice (cy false)).mono (cy false) λk hk=>hk.elim id λh=>h.1⟩,cf⟩
theorem Rl{w:av}{H:aJ}{s:Sl}{l:List Mv}(h:aA (Af false) 13 w H s l)(hz:yt l<=8388608):
  az aq 32 #[s.v] w λe w'=>(∃t:Sl,e=ak t.v/\aA (Af false) 13 w' (λk=>w.heap.size<=k) t l)/\ay [] w w':=by
 refine(akZ s (λv w'=>(∃t:Sl,v=t.v/\aA (Af false) 13 w' (λk=>w.heap.size<=k) t l)/\ay [] w w') w ?_).mono aa4;have hl:=h.len;have FK:=mf l;refine⟨λkv t i u=>∃j:Nat,i=(j:Int)/\kv+j=l.length/\j<=l.length/\Own (Af false) 13 43 w.heap.size u (λk=>w.heap.size<=k) t (l.take j)/\ay [] w u,l.length,⟨0,rfl,aE,be _,Own.nil _ _ _ _ _ _,Only.refl _ _⟩,?_⟩;rintro kv t _ w0 ⟨j,rfl,tw,hj,hT,cf⟩;have z0:=cf.size;refine⟨λhc=>?_,λhc=>?_⟩
 ·have hc:=aR hc;obtain⟨ad,m,ds,a1,a2,a3,a4,a5,a6⟩:=(SliceF.only (gW false) aL h cf aM).get (aZ j) aE;rw[aX]at a2;obtain⟨gc,pO,tg,rfl,YX,Cn,pG⟩:=a6;obtain⟨sl,d,rfl,pH⟩:=Mb YX;have Cn:=Cn.1;have pG:=pG.1;have hmz:EX m<=yt l:=pu (bh a2);unfold EX at hmz;have:=Rk m.g;have:=E2 d m.g.dh;have:=xq m.tg;refine⟨ad,a1,_,_,_,_,_,_,_,_,sl,_,pO,tg,_,a5,λk2 w1 oT nC cn=>(Hh d (SliceF.only (eG d) aL pH cn aM) aE).mono ?_⟩;rintro _ w2 ⟨l2,rfl,hL2,cH⟩;have z1:=cn.size;have z2:=cH.size;refine⟨l2,rfl,cH.same aaf,λw3 cT=>?_⟩;have z3:=cT.size;have o3:ay [] w0 w3:=(cn.ca cH).trans cT λx hx=>.inr aaL;have nk:∀{u v:av},w3.heap.size<=u.heap.size->ay [k2] u v->aA (oM d) 6 u (λk=>w1.heap.size<=k/\k<w2.heap.size) l2 m.g.dh->aA (oM d) 6 v (λk=>w1.heap.size<=k/\k<w2.heap.size) l2 m.g.dh:=λ_ hO hh=>SliceF.only (eG d) aL hh hO λk hk _ hm=>aaZ
  have hL3:=SliceF.only (eG d) aL hL2 cT λk hk _ hm=>aaZ
  refine(E4 (SliceF.only (cy false) aL Cn o3 aM) aE).mono ?_;rintro _ w4 ⟨⟨l5,rfl,UB⟩,dw⟩;have z4:=dw.size;refine⟨l5,rfl,dw.same aaf,λw5 dY=>?_⟩;have z5:=dY.size;have o5:ay [] w0 w5:=(o3.ca dw).trans dY λx hx=>.inr aaL;have aom:=nk aE dY (SliceF.only (eG d) aL hL3 dw aM);have hA5:aA (mG false) 9 w5 (λk=>w3.heap.size<=k) l5 m.acts:=SliceF.only (cy false) aL UB dY λk hk _ hm=>aaZ
  obtain⟨x1,w6,p1,p2,x2,w7,p3,p4,p5⟩:=N6 (P:=aq) (w:=w5) (t:=41) (ty:=41) (e:=9) (i:=Tryz.t9) (bytes:=16) (size:=1) (r:=kb) (by kernel_rfl) (by kernel_rfl) rfl rfl rfl rfl aL cX (SliceF.only cX aL pG o5 aM) aE aL;have z6:=p2.size;have z7:=p5.size;refine⟨x1,w6,p1,p2.same aaf,x2,w7,p3,p5.same λx hx=>?_,λw8 fj=>?_⟩
  ·simp only[aO]at hx;subst hx;exact⟨aE,aE⟩
  have z8:=fj.size;have p57:ay [] w5 w7:=(p2.vV p5).only λk hk=>hk;have o8:ay [] w0 w8:=(o5.ca p57).trans fj λx hx=>.inr aaL;have aop:=nk aE fj (SliceF.only (eG d) aL aom p57 aM);have hA8:aA (mG false) 9 w8 (λk=>w3.heap.size<=k) l5 m.acts:=SliceF.only (cy false) aL (SliceF.only (cy false) aL hA5 p57 aM) fj λk hk _ hm=>aaZ
  have hX8:aA kb 1 w8 (λk=>w5.heap.size<=k) x2 m.tg:=by
   have h0:aA kb 1 w7 (λk=>w5.heap.size<=k) x2 m.tg:=by
    obtain⟨b1,b2,b3,b4,b5⟩:=p4.slice cX;refine⟨b1,b2,b3,b4,λj x hx=>?_⟩;obtain⟨base,cs,c1,c2,c3,c4,c5⟩:=b5 j x hx;refine⟨base,cs,c1,?_,c3,c4,c5⟩;have:=(p4.blk c1).1;exact this
   exact SliceF.only cX aL h0 fj λk hk _ hm=>aaZ
  obtain⟨y9,w9,q1,q2,t',de,g1,g2,g3⟩:=E3 (w:=w0) (u:=w8) (t:=24) (ty:=24) (e:=43) (i:=Tryz.t43) (bytes:=168) (size:=13) (r:=Af false) (G:=λk=>w1.heap.size<=k) (v:=ah #[O U m.k,ab (T m.ev),O U m.wt,aj m.gd,O U m.g.k,O U m.g.n,ab (T m.g.s),O U m.g.op,l2.v,O U m.g.a,l5.v,x2.v,O U m.a]) (x:=m) (by kernel_rfl) (by kernel_rfl) rfl rfl rfl rfl aL aL aL (gW false) hT cf.size o8 rfl ⟨_,l5,x2,rfl,(ic false).mono (X2 aop) λk hk=>hk.1,⟨hA8.mono (cy false) λk hk=>aE,λh=>aaQ⟩,⟨hX8.mono cX λk hk=>aE,λh=>aaQ⟩⟩ (λk hk=>aE) (by rw[cF];omega);have z9:=q2.size;refine⟨y9,w9,q1,q2.same aaf,t',de,g1,g3.same λx hx=>?_,kv-1,aE,j+1,aaa,aE,aE,?_,((cf.ca o8).ca q2).vV (F:=λk=>w.heap.size<=k) (g3.mono λk _ hk=>hk.1) |>.only λk hk=>hk⟩
  ·simp only[aO]at hx;subst hx;exact⟨aE,λh=>aE⟩
  rw[bn,a2];exact g2
 have hc:=aU hc;have kF:j=l.length:=aE
 subst kF;rw[bm (aY _)]at hT;exact⟨⟨t,rfl,(hT.slice (gW false)).mono (gW false) λk hk=>hk.elim id λh=>h.1⟩,cf⟩
theorem Rn:∀(D:Nat) {w:av} {H:aJ} {s:Sl} {l:List Nd},aA (kj false D) 9 w H s l->jB l<=8388608->
  az aq 14 #[s.v] w λe w'=>(∃t:Sl,e=ak t.v/\aA (kj false D) 9 w' (λk=>w.heap.size<=k) t l)/\ay [] w w':=by
 intro D
 induction D with
 | zero=>
  intro w H s l h hz;have hx:l=[]:=by
   cases l with
   | nil=>rfl
   | cons x xs=>
    obtain⟨base,cs,_,_,_,_,h5⟩:=h.at_ 0 x rfl;exact h5.elim
  subst hx;have hn:s.n=0:=h.len;refine(afD s (λv w'=>(∃t:Sl,v=t.v/\aA (kj false 0) 9 w' (λk=>w.heap.size<=k) t [])/\ay [] w w') w ?_).mono aa4;refine⟨λnv s i w'=>s=Sl.nil/\i=0/\w'=w,0,⟨rfl,rfl,rfl⟩,?_⟩;rintro nv _ _ _ ⟨rfl,rfl,rfl⟩;exact⟨λbT=>absurd (aR bT) aE,λ_=>⟨⟨_,rfl,SliceF.nil _ _ _ _⟩,Only.refl _ _⟩⟩
 | succ D ih=>
  intro w H s l h hz;refine(afD s (λv w'=>(∃t:Sl,v=t.v/\aA (kj false (D+1)) 9 w' (λk=>w.heap.size<=k) t l)/\ay [] w w') w ?_).mono aa4;have hl:=h.len;have FK:=mh l;refine⟨λkv t i u=>∃j:Nat,i=(j:Int)/\kv+j=l.length/\j<=l.length/\Own (kj false (D+1)) 9 27 w.heap.size u (λk=>w.heap.size<=k) t (l.take j)/\ay [] w u,l.length,⟨0,rfl,aE,be _,Own.nil _ _ _ _ _ _,Only.refl _ _⟩,?_⟩;rintro kv t _ w0 ⟨j,rfl,tw,hj,hT,cf⟩;have z0:=cf.size;refine⟨λhc=>?_,λhc=>?_⟩
  ·have hc:=aR hc;obtain⟨ad,y,ds,a1,a2,a3,a4,a5,a6⟩:=(SliceF.only (bU false (D+1)) aL h cf aM).get (aZ j) aE;rw[aX]at a2;obtain⟨en,lv,mv,kids,rfl,⟨zv,uD,oQ⟩,Ir⟩:=a6;have zv:=zv.1;have uD:=uD.1;have oQ:=oQ.1;have Ir:=Ir.1;have hyz:lQ y<=jB l:=mg (bh a2);obtain⟨bb,ks⟩:=y;rw[lQ]at hyz;unfold BN at hyz;dsimp only[Nd.b,Nd.kids]at zv uD oQ Ir a5;have ap:∀{α:Type} {r:Rp α} {size:Nat} {u v:av} {k2 B:Nat} {q:Sl} {xs:List α},r.Ok->0<size->aA r size u (λk=>B<=k) q xs->ay [k2] u v->k2<B->aA r size v (λk=>B<=k) q xs:=λhr h0 hh hO hb=>SliceF.only hr h0 hh hO λk hk _ hm=>aaZ
   refine⟨ad,a1,_,_,_,_,en,lv,mv,kids,_,a5,λk2 w1 oT nC cn=>(E4 (SliceF.only (cy false) aL zv cn aM) aE).mono ?_⟩;rintro _ w2 ⟨⟨l5,rfl,UB⟩,cH⟩;have z1:=cn.size;have z2:=cH.size;refine⟨l5,rfl,cH.same aaf,λw3 cT=>?_⟩;have z3:=cT.size;have nw:∀{u v v':av},ay [] w0 u->ay [] u v->ay [k2] v v'->ay [] w0 v':=λh1 h2 h3=>(h1.ca h2).trans h3 λx hx=>.inr aaL;have o3:=nw cn cH cT;have hA3:=ap (cy false) aL UB cT nC;refine(E4 (SliceF.only (cy false) aL uD o3 aM) aE).mono ?_;rintro _ w4 ⟨⟨l6,rfl,Uz⟩,dw⟩;have z4:=dw.size;refine⟨l6,rfl,dw.same aaf,λw5 dY=>?_⟩;have z5:=dY.size;have o5:=nw o3 dw dY;have hA5:=ap (cy false) aL (SliceF.only (cy false) aL hA3 dw aM) dY nC;have ux:=ap (cy false) aL Uz dY aE;refine(Rl (SliceF.only (gW false) aL oQ o5 aM) aE).mono ?_;rintro _ w6 ⟨⟨l7,rfl,UA⟩,dK⟩;have z6:=dK.size;refine⟨l7,rfl,dK.same aaf,λw7 fK=>?_⟩;have z7:=fK.size;have o7:=nw o5 dK fK;have hA7:=ap (cy false) aL (SliceF.only (cy false) aL hA5 dK aM) fK nC;have TH:=ap (cy false) aL (SliceF.only (cy false) aL ux dK aM) fK aE;have WY:=ap (gW false) aL UA fK aE;refine(ih (SliceF.only (bU false D) aL Ir o7 aM) aE).mono ?_;rintro _ w8 ⟨⟨l8,rfl,hL8⟩,fj⟩;have z8:=fj.size;refine⟨l8,rfl,fj.same aaf,λw9 fG=>?_⟩;have z9:=fG.size;have o9:=nw o7 fj fG;have hA9:=ap (cy false) aL (SliceF.only (cy false) aL hA7 fj aM) fG nC;have TN:=ap (cy false) aL (SliceF.only (cy false) aL TH fj aM) fG aE;have hM9:=ap (gW false) aL (SliceF.only (gW false) aL WY fj aM) fG aE;have hK9:=ap (bU false D) aL hL8 fG aE;obtain⟨y9,de,q1,q2,t',dz,g1,g2,g3⟩:=E3 (w:=w0) (u:=w9) (t:=25) (ty:=25) (e:=27) (i:=Tryz.t27) (bytes:=160) (size:=9) (r:=kj false (D+1)) (G:=λk=>w1.heap.size<=k) (v:=ah (mH bb.k bb.nm bb.ini bb.dft l5 l6 l7 l8 bb.a).toArray) (x:=.mk bb ks) (by kernel_rfl) (by kernel_rfl) rfl rfl rfl rfl aL aL aL (bU false (D+1)) hT cf.size o9 rfl ⟨l5,l6,l7,l8,rfl,⟨⟨hA9,λh=>aaQ⟩,⟨TN.mono (cy false) λk hk=>aE,λh=>aaQ⟩,⟨hM9.mono (gW false) λk hk=>aE,λh=>aaQ⟩⟩,⟨hK9.mono (bU false D) λk hk=>aE,λh=>aaQ⟩⟩ (λk hk=>aE) (by rw[cF];omega);have Ih:=q2.size;refine⟨y9,de,q1,q2.same aaf,t',dz,g1,g3.same λx hx=>?_,kv-1,aE,j+1,aaa,aE,aE,?_,((cf.ca o9).ca q2).vV (F:=λk=>w.heap.size<=k) (g3.mono λk _ hk=>hk.1) |>.only λk hk=>hk⟩
   ·simp only[aO]at hx;subst hx;exact⟨aE,λh=>aE⟩
   rw[bn,a2];exact g2
  have hc:=aU hc;have kF:j=l.length:=aE
  subst kF;rw[bm (aY _)]at hT;exact⟨⟨t,rfl,(hT.slice (bU false (D+1))).mono (bU false (D+1)) λk hk=>hk.elim id λh=>h.1⟩,cf⟩
structure gv where
 k:Int
 nm:aH
 pa:Int
 dp:Int
 en:Int
mutual
def Iy(a:Nat)(pa dp:Int):Nd->List gv
 | .mk b l=>⟨b.k,b.nm,pa,dp,((a+1+dD l:Nat):Int)⟩::uV (a+1) a (dp+1) l
def uV(a:Nat)(pa dp:Int):List Nd->List gv
 | []=>[]
 | x::l=>Iy a pa dp x++uV (a+jk x) pa dp l
end
mutual
theorem rZ(a:Nat)(pa dp:Int):∀x,(Iy a pa dp x).length=jk x
 | .mk b l=>by rw[Iy,jk,aW,sd]
theorem sd(a:Nat)(pa dp:Int):∀l,(uV a pa dp l).length=dD l
 | []=>by rw[uV,dD];rfl
 | x::l=>by rw[uV,dD,aN,rZ,sd]
end
theorem xu:∀l m:List Nd,dD (l++m)=dD l+dD m
 | [],m=>by rw[dD,bP,bM]
 | x::l,m=>by rw[bX,dD,dD,xu l m,eo]
theorem E5(pa dp:Int):∀(l m:List Nd) (a:Nat),uV a pa dp (l++m)=uV a pa dp l++uV (a+dD l) pa dp m
 | [],m,a=>by rw[bP,uV,bP,dD,fk]
 | x::l,m,a=>by rw[bX,uV,uV,E5 pa dp l m,dD,bf,eo]
theorem E6:∀x,1<=jk x
 | .mk b l=>by rw[jk];omega
theorem Hu{x:Nd}:∀{l:List Nd},x∈l->jk x<=dD l
 | [],h=>aa6
 | y::l,h=>by
  rw[dD];rcases ba.1 h with rfl | h
  ·omega
  have:=Hu h;omega
theorem nq{y:Nd}:∀{l:List Nd} {j:Nat},l[j]? =some y->dD (l.take j)+jk y<=dD l
 | [],_,h=>aa6
 | x::l,0,h=>by
  rw[cD,bq]at h;subst h;rw[ci,dD,dD];omega
 | x::l,j+1,h=>by
  have:=nq (l:=l) (j:=j) (by rwa[dm]at h);rw[fS,dD,dD];omega
theorem rc:∀l:List Nd,l.length<=dD l
 | []=>be _
 | a::l=>by
  have:=rc l;have:=E6 a;rw[dD,aW];omega
def BO(L:List gv)(a i:Nat)(s:gv):Prop:=∃p t,p<i/\L[p]? =some t/\s.pa=((a+p:Nat):Int)/\s.dp=t.dp+1/\((a+i:Nat):Int)<t.en/\s.en<=t.en/\∀j u,p<j->j<i->L[j]? =some u->u.en<=((a+i:Nat):Int)
theorem BO.Ct{L M:List gv}{a i:Nat}{s:gv}(h:BO L a i s)(hi:i<L.length):BO (L++M) a i s:=by
 obtain⟨p,t,h1,h2,h3,h4,h5,h6,h7⟩:=h;refine⟨p,t,h1,?_,h3,h4,h5,h6,λj u g1 g2 g3=>h7 j u g1 g2 ?_⟩
 ·rw[bQ aE];exact h2
 rwa[bQ aE]at g3
theorem BO.shift{L M:List gv}{a i:Nat}{s:gv}(h:BO M (a+L.length) i s):BO (L++M) a (L.length+i) s:=by
 obtain⟨p,t,h1,h2,h3,h4,h5,h6,h7⟩:=h;refine⟨L.length+p,t,aE,?_,by rw[h3];omega,h4,aE,h6,λj u g1 g2 g3=>?_⟩
 ·rw[cw aE,dM];exact h2
 rw[cw aE]at g3;have:=h7 (j-L.length) u aE aE g3;omega
mutual
theorem Jy(a:Nat)(pa dp:Int):∀(x:Nd) (i:Nat) (s:gv),(Iy a pa dp x)[i]? =some s->((a+i:Nat):Int)<s.en/\s.en<=((a+jk x:Nat):Int)/\(i=0->s.pa=pa/\s.dp=dp/\s.en=((a+jk x:Nat):Int))/\(0<i->BO (Iy a pa dp x) a i s)
 | .mk b l,i,s,h=>by
  rw[Iy]at h⊢;rw[jk];cases i with
  | zero=>
   rw[cD,bq]at h;subst h;dsimp only;exact⟨aE,aE,λ_=>⟨rfl,rfl,aE⟩,λh=>aE⟩
  | succ i=>
   rw[dm]at h;obtain⟨h1,h2,h3⟩:=Ro (a+1) a (dp+1) l i s h;refine⟨aE,aE,λh=>aE,λ_=>?_⟩;rcases h3 with⟨g1,g2,g3⟩ | g
   ·refine⟨0,_,aE,cD,by rw[g1,fk],g2,aa1,aa1,λj u k1 k2 k3=>?_⟩;cases j with
    | zero=>omega
    | succ j=>
     rw[dm]at k3;have:=g3 j u aE k3;omega
   have:=BO.shift (L:=[⟨b.k,b.nm,pa,dp,((a+1+dD l:Nat):Int)⟩]) (M:=uV (a+1) a (dp+1) l) (a:=a) (i:=i) (s:=s) g;rw[br,kf 1 i]at this;exact this
theorem Ro(a:Nat)(pa dp:Int):∀(l:List Nd) (i:Nat) (s:gv),(uV a pa dp l)[i]? =some s->((a+i:Nat):Int)<s.en/\s.en<=((a+dD l:Nat):Int)/\
  ((s.pa=pa/\s.dp=dp/\∀j u,j<i->(uV a pa dp l)[j]? =some u->u.en<=((a+i:Nat):Int))∨BO (uV a pa dp l) a i s)
 | [],i,s,h=>by rw[uV]at h;simp at h
 | x::l,i,s,h=>by
  rw[uV]at h⊢;rw[dD];have hl:=rZ a pa dp x;by_cases hi:i<jk x
  ·rw[bQ aE]at h;obtain⟨h1,h2,h3,h4⟩:=Jy a pa dp x i s h;refine⟨h1,aE,?_⟩;by_cases h0:i=0
   ·obtain⟨g1,g2,g3⟩:=h3 h0;exact .inl ⟨g1,g2,λj u hj=>aE⟩
   exact .inr ((h4 aE).Ct aE)
  rw[cw aE,hl]at h;obtain⟨h1,h2,h3⟩:=Ro (a+jk x) pa dp l (i-jk x) s h;refine⟨aE,aE,?_⟩;rcases h3 with⟨g1,g2,g3⟩ | g
  ·refine .inl ⟨g1,g2,λj u hj hu=>?_⟩;by_cases Wq:j<jk x
   ·rw[bQ aE]at hu;have:=(Jy a pa dp x j u hu).2.1;omega
   rw[cw aE,hl]at hu;have:=g3 (j-jk x) u aE hu;omega
  refine .inr ?_;rw[<-hl]at g;have:=BO.shift (L:=Iy a pa dp x) g;rw[hl]at this;rwa[show jk x+(i-jk x)=i by omega]at this
end
structure Fo (xs:List gv):Prop where
 ne:0<xs.length
 rt:∀s:gv,xs[0]? =some s->s.pa= -1/\s.dp=0/\s.en=(xs.length:Int)
 up:∀(i:Nat) (s:gv),xs[i]? =some s->(i:Int)<s.en/\s.en<=(xs.length:Int)
 pa:∀(i:Nat) (s:gv),0<i->xs[i]? =some s->BO xs 0 i s
def lP(c:Ch):List gv:=Iy 0 (-1) 0 c.root
theorem Mc(c:Ch):Fo (lP c):=by
 unfold lP;have hl:=rZ 0 (-1) 0 c.root;have h:=Jy 0 (-1) 0 c.root;refine⟨by have:=E6 c.root;omega,λs hs=>?_,λi s hs=>?_,λi s hi hs=>(h i s hs).2.2.2 hi⟩
 ·obtain⟨h1,h2,h3⟩:=(h 0 s hs).2.2.1 rfl;exact⟨h1,h2,by rw[h3,hl];omega⟩
 obtain⟨h1,h2,_⟩:=h i s hs;exact⟨aE,aE⟩
section
variable {xs:List gv} (F:Fo xs) {i j k p:Nat} {s t u:gv}
include F
theorem Fo.lam:∀(k:Nat) {i:Nat} {s t:gv},xs[i]? =some s->xs[k]? =some t->i<k->(k:Int)<s.en->t.en<=s.en
 | k,i,s,t,hi,hk,bT,hs=>by
  obtain⟨p,v,h1,h2,h3,h4,h5,h6,h7⟩:=F.pa k t aE hk;by_cases hp:p<i
  ·have:=h7 i s hp bT hi;omega
  by_cases he:p=i
  ·subst he;rw[hi,bq]at h2;subst h2;exact h6
  have:=Fo.lam p hi h2 aE aE;omega
theorem Fo.par(hk:xs[k]? =some t)(h0:0<k):∃(p:Nat) (s:gv),p<k/\t.pa=(p:Int)/\xs[p]? =some s/\t.dp=s.dp+1/\(k:Int)<s.en/\∀(i:Nat) (u:gv),xs[i]? =some u->i<k->(k:Int)<u.en->i<=p:=by
 obtain⟨p,v,h1,h2,h3,h4,h5,h6,h7⟩:=F.pa k t h0 hk;refine⟨p,v,h1,by rw[h3];omega,h2,h4,aE,λi u hu hi tu=>?_⟩;by_cases hp:p<i
 ·have:=h7 i u hp hi hu;omega
 omega
omit F in
theorem tZ {xs:List gv} {i:Nat} {s:gv} (h:xs[i]? =some s):i<xs.length:=(bc.1 h).1
omit F in
theorem lh {xs:List gv} {i:Nat} (h:i<xs.length):∃s,xs[i]? =some s:=⟨_,bJ h⟩
end
def Am(xs:List gv)(b a:Nat):Prop:=∃s,xs[b]? =some s/\b<=a/\(a:Int)<s.en
section
variable {xs:List gv} (F:Fo xs) {i j k p:Nat}
include F
theorem Fo.aaM(h:Am xs i j):j<xs.length:=by
 obtain⟨s,h1,h2,h3⟩:=h;have:=(F.up i s h1).2;omega
theorem Fo.SW(h:i<xs.length):Am xs i i:=by
 obtain⟨s,hs⟩:=lh h;exact⟨s,hs,aY _,(F.up i s hs).1⟩
theorem Fo.SX(h:i<xs.length):Am xs 0 i:=by
 obtain⟨s,hs⟩:=lh F.ne;exact⟨s,hs,be _,by rw[(F.rt s hs).2.2];omega⟩
theorem Fo.aaN(h:Am xs i j)(g:Am xs j k):Am xs i k:=by
 obtain⟨s,h1,h2,h3⟩:=h;obtain⟨t,g1,g2,g3⟩:=g;refine⟨s,h1,aE,?_⟩;by_cases he:i=j
 ·subst he;rw[h1,bq]at g1;subst g1;exact g3
 have:=F.lam j h1 g1 aE h3;omega
theorem Fo.aaO(h:Am xs i k)(g:Am xs j k)(wG:i<=j):Am xs i j:=by
 obtain⟨s,h1,h2,h3⟩:=h;obtain⟨t,g1,g2,g3⟩:=g;exact⟨s,h1,wG,aE⟩
end
def Top(xs:List gv)(l:List Int)(r:Int):Prop:=∃m:Nat,r=m/\(∀n:Int,n∈l->∃k:Nat,n=k/\Am xs m k)/\∀j:Nat,(∀n:Int,n∈l->∃k:Nat,n=k/\Am xs j k)->j<=m
def xS(xs:List gv)(n:Int):Prop:=0<=n/\n<xs.length
def Mt(xs:List gv)(l:List Int)(r:Int):Prop:=((l=[]∨∃n,n∈l/\¬xS xs n)/\r= -1)∨((l≠[]/\∀n,n∈l->xS xs n)/\Top xs l r)
theorem Mt.aha{xs:List gv}{l:List Int}{r:Int}(h:Mt xs l r)(h1:l≠[])(h2:∀n,n∈l->xS xs n):Top xs l r:=by
 rcases h with⟨hb | ⟨n,hn,hh⟩,_⟩ | ⟨_,h⟩
 ·exact absurd hb h1
 ·exact absurd (h2 n hn) hh
 exact h
abbrev Ft:=Int×Int
def ix(f:Ft)(L:List Ft):Ft:=L.foldl (λf p=>if f.1=0 then p else f) f
def bad(ok:Bool)(e a:Int):List Ft:=if ok then[]else[(e,a)]
theorem fD(f:Ft)(L M:List Ft):ix f (L++M)=ix (ix f L) M:=pT
theorem E7{f:Ft}(h:f.1≠0):∀L,ix f L=f
 | []=>rfl
 | p::L=>by
  show ix (if f.1=0 then p else f) L=f;rw[aQ h];exact E7 h L
def Cd(L:List Ft):Prop:=∀p,p∈L->p.1≠0
theorem Cd.nil:Cd []:=λp h=>aa6
theorem VO(f:Ft)(ok:Bool)(e a:Int):ix f (bad ok e a)=if(!ok&&f.1==0)=true then(e,a)else f:=by
 unfold bad;cases ok
 ·by_cases h:f.1=0
  ·simp[ix,h]
  simp[ix,h]
 simp[ix]
def gf(xs:List gv)(s:aH):Int:=if wh s (xs.map λx:gv=>x.nm)<xs.length then(wh s (xs.map λx:gv=>x.nm):Nat)else -1
def ua(xs:List gv)(n:Int):Int:=match xs[n.toNat]? with
 | some x=>x.k
 | none=>0
def Rq(xs:List gv)(n:Int):Int:=match xs[n.toNat]? with
 | some x=>x.pa
 | none=>0
def FZ(xs:List gv)(s:aH):Bool:=decide (0<=gf xs s)&&!gK (ua xs (gf xs s))
def VQ(xs:List gv)(b a:Nat):Bool:=match xs[b]? with
 | some s=>decide (b<=a)&&decide ((a:Int)<s.en)
 | none=>false
def nr(xs:List gv)(b a:Int):Bool:=decide (0<=b/\0<=a)&&VQ xs b.toNat a.toNat
def xv(xs:List gv)(a b:Int):Bool:=decide (a≠b)&&nr xs b a
def xw(xs:List gv)(a b:Int):Nat->Int
 | 0=> -1
 | m+1=>if(nr xs m a&&nr xs m b)=true then m else xw xs a b m
def xx(xs:List gv)(a b:Int):Int:=xw xs a b xs.length
def Md(xs:List gv)(a b:Int):Bool:=decide (xx xs a b≠a/\xx xs a b≠b)&&decide (ua xs (xx xs a b)=2)
def Dv(xs:List gv)(s:aH):Int:=if gK (ua xs (gf xs s))then Rq xs (gf xs s)else gf xs s
def Jz(xs:List gv):List Int->List (aH)->Bool
 | _,[]=>true
 | l,s::r=>if gf xs s<1 then false else if(l.any λo=>!Md xs (Dv xs s) o)then false else Jz xs (l++[Dv xs s]) r
mutual
def xT:Nd->List (aH×Int)
 | .mk b l=>(b.nm,b.a)::vC l
def vC:List Nd->List (aH×Int)
 | []=>[]
 | x::l=>xT x++vC l
end
def tn:List (aH)->List (aH×Int)->List Ft
 | _,[]=>[]
 | l,p::r=>bad (!decide (p.1∈l)) 24 p.2++tn (l++[p.1]) r
theorem xy:∀(p q:List (aH×Int)) (l:List (aH)),tn l (p++q)=tn l p++tn (l++p.map λx=>x.1) q
 | [],q,l=>by rw[bP,tn,bP,fC,bD]
 | x::p,q,l=>by rw[bX,tn,tn,xy p q,bf,bK,bf];rfl
theorem E8:∀l m:List Nd,vC (l++m)=vC l++vC m
 | [],m=>by rw[bP,vC,bP]
 | x::l,m=>by rw[bX,vC,vC,E8 l m,bf]
mutual
theorem Me(a:Nat)(pa dp:Int):∀x,(Iy a pa dp x).map (λs:gv=>s.nm)=(xT x).map λp=>p.1
 | .mk b l=>by rw[Iy,xT,bK,bK,JA]
theorem JA(a:Nat)(pa dp:Int):∀l,(uV a pa dp l).map (λs:gv=>s.nm)=(vC l).map λp=>p.1
 | []=>by rw[uV,vC];rfl
 | x::l=>by rw[uV,vC,cN,cN,Me,JA]
end
theorem VR(x:Nd):(xT x).length=jk x:=by
 have:=bO List.length (Me 0 0 0 x);rw[bN,bN,rZ]at this;exact this.symm
theorem Mf(x:List Nd):(vC x).length=dD x:=by
 have:=bO List.length (JA 0 0 0 x);rw[bN,bN,sd]at this;exact this.symm
section
variable (xs:List gv) (vs:List (aH))
def Iz(k:Int)(s:aH):Bool:=(decide (k≠2)||decide (s∈vs))&&(decide (k≠3)||FZ xs s)
mutual
def Pa:Ex->List Ft
 | .mk k n s op l a=>bad (Iz xs vs k s) 23 a++ub l
def ub:List Ex->List Ft
 | []=>[]
 | x::l=>Pa x++ub l
end
theorem Rs(x:Ex):Pa xs vs x=bad (Iz xs vs x.k x.s) 23 x.a++ub xs vs x.dh:=by cases x;rw[Pa];rfl
theorem BP:∀l m:List Ex,ub xs vs (l++m)=ub xs vs l++ub xs vs m
 | [],m=>by rw[bP,ub,bP]
 | x::l,m=>by rw[bX,ub,ub,BP l m,bf]
def acF(a:Ac):List Ft:=bad (decide (a.k≠1)||decide (a.n∈vs)) 23 a.a++Pa xs vs a.x
def jV(l:List Ac):List Ft:=l.flatMap (acF xs vs)
def Hv(m:Mv):Bool:=(m.k !=3)||(decide (m.wt>0)&&decide (m.wt<=1099511627776))
def BQ(m:Mv):List Ft:=bad (Hv m) 28 m.a++(Pa xs vs m.g++(jV xs vs m.acts++bad (Jz xs [] m.tg) 27 m.a))
def BR(l:List Nd):Nat:=(l.filter λx=>!gK x.b.k).length
def xz(s:aH)(l:List Nd):Bool:=l.any λx=>decide (x.b.nm=s)
def vD(b:Nb)(l:List Nd)(at_:Nat):List Ft:=
 if gK b.k then bad (FZ xs b.dft&&xv xs (gf xs b.dft) (Rq xs at_)) 26 b.a
 else if b.k=2 then bad (decide (b.ini=[])&&decide (1<BR l)) 25 b.a
 else if 0<BR l then bad (xz b.ini l) 25 b.a
 else bad (decide (b.ini=[])) 25 b.a++bad (decide (l.length=0)) 26 b.a
mutual
def Pb:Nat->Nd->List Ft
 | n,.mk b l=>vD xs b l n++(jV xs vs (b.en++b.lv)++(b.mv.flatMap (BQ xs vs)++qt (n+1) l))
def qt:Nat->List Nd->List Ft
 | _,[]=>[]
 | n,x::l=>Pb n x++qt (n+jk x) l
end
theorem BS:∀(l m:List Nd) (n:Nat),qt xs vs n (l++m)=qt xs vs n l++qt xs vs (n+dD l) m
 | [],m,n=>by rw[bP,qt,bP,dD,fk]
 | x::l,m,n=>by rw[bX,qt,qt,BS l m,bf,dD,eo]
end
def Mg(c:Ch):List (aH):=c.vars.map λv=>v.n
def Dw(c:Ch):List Ft:=tn [] (xT c.root)++(tn [] (c.vars.map λv=>(v.n,v.a))++Pb (lP c) (Mg c) 0 c.root)
theorem Mh{s:aH}:∀{l:List (aH)},wh s l<l.length->l[wh s l]? =some s
 | [],h=>aa6
 | x::l,h=>by
  rw[wh]at h⊢;split
  ·rename_i e;rw[e];rfl
  rename_i e;rw[aQ e,aW]at h;rw[dm];exact Mh aE
theorem nP{s:aH}:∀{l:List (aH)},wh s l<l.length↔s∈l
 | []=>aM
 | x::l=>by
  rw[wh,ba,aW];split
  ·rename_i e;exact⟨λ_=>.inl e,λ_=>aE⟩
  rename_i e;have:=nP (s:=s) (l:=l);exact⟨λh=>.inr (this.1 aE),λh=>by have:=this.2 (h.resolve_left e);omega⟩
theorem E9{s:aH}(m:List (aH)):∀{l:List (aH)},s∈l->wh s (l++m)=wh s l
 | [],h=>aa6
 | x::l,h=>by
  rw[bX,wh,wh];split
  ·rfl
  rename_i e;rw[E9 m ((ba.1 h).resolve_left e)]
theorem Fa{s:aH}(m:List (aH)):∀{l:List (aH)},s∉l->wh s (l++s::m)=l.length
 | [],_=>by rw[bP,wh,aV rfl];rfl
 | x::l,h=>by
  rw[bX,wh,aQ (λe=>h (by rw[e];simp)),Fa m (λhm=>h (dl _ hm))];rfl
section
variable {xs:List gv} {s:aH}
theorem ky(xs:List gv)(s:aH):(gf xs s= -1/\∀x∈xs,x.nm≠s)∨∃(n:Nat) (x:gv),gf xs s=n/\xs[n]? =some x/\x.nm=s:=by
 unfold gf;split
 ·rename_i h;right;have:=Mh (l:=xs.map λx:gv=>x.nm) (s:=s) (by rw[bN];exact h);rw[cA,eE]at this;obtain⟨x,hx,e⟩:=this;exact⟨_,x,rfl,hx,e⟩
 rename_i h;refine .inl ⟨rfl,λx hx e=>h ?_⟩;have:=(nP (s:=s) (l:=xs.map λx:gv=>x.nm)).2 (gM.2 ⟨x,hx,e⟩);rwa[bN]at this
theorem jO{n:Nat}{x:gv}(h:xs[n]? =some x):ua xs n=x.k:=by unfold ua;rw[aX,h]
theorem uc{n:Nat}{x:gv}(h:xs[n]? =some x):Rq xs n=x.pa:=by unfold Rq;rw[aX,h]
theorem Rt{b a:Nat}:VQ xs b a=true↔Am xs b a:=by
 unfold VQ Am;cases h:xs[b]? with
 | none=>simp
 | some s=>simp
theorem BT{b a:Int}:nr xs b a=true↔∃i j:Nat,b=i/\a=j/\Am xs i j:=by
 unfold nr;rw[aP,dR,Rt];constructor
 ·rintro⟨⟨h1,h2⟩,h⟩;exact⟨_,_,(fy h1).symm,(fy h2).symm,h⟩
 rintro⟨i,j,rfl,rfl,h⟩;rw[aX,aX];exact⟨⟨aE,aE⟩,h⟩
theorem Ru{a b:Int}:xv xs a b=true↔∃i j:Nat,b=i/\a=j/\i<j/\Am xs i j:=by
 unfold xv;rw[aP,dR,BT];constructor
 ·rintro⟨hn,i,j,rfl,rfl,h⟩;have:=h;obtain⟨_,_,vW,_⟩:=this;exact⟨i,j,rfl,rfl,aE,h⟩
 rintro⟨i,j,rfl,rfl,h,hc⟩;exact⟨aE,i,j,rfl,rfl,hc⟩
theorem uW(a b:Int):∀n:Nat,(xw xs a b n= -1/\∀m,m<n->(nr xs m a&&nr xs m b)=false)∨∃m:Nat,xw xs a b n=m/\m<n/\(nr xs m a&&nr xs m b)=true/\∀j,m<j->j<n->(nr xs j a&&nr xs j b)=false
 | 0=>.inl ⟨rfl,λm h=>aE⟩
 | n+1=>by
  rw[xw];split
  ·rename_i h;exact .inr ⟨n,rfl,aE,h,λj h1 h2=>aE⟩
  rename_i h;rw[nI]at h;rcases uW a b n with⟨h1,h2⟩ | ⟨m,h1,h2,h3,h4⟩
  ·exact .inl ⟨h1,λm hm=>if e:m=n then by rw[e];exact h else h2 m aE⟩
  exact .inr ⟨m,h1,aE,h3,λj g1 g2=>if e:j=n then by rw[e];exact h else h4 j g1 aE⟩
theorem Fo.Wo(F:Fo xs){a b r:Int}(h:Mt xs [a,b] r)(ha:xS xs a)(hb:xS xs b):r=xx xs a b:=by
 have hg:∀n,n∈[a,b]->xS xs n:=λn hn=>by
  simp only[ba,bp,cb]at hn;rcases hn with rfl | rfl
  ·exact ha
  exact hb
 obtain⟨m,rfl,t1,t2⟩:=h.aha aM hg;have both:∀j:Nat,(nr xs j a&&nr xs j b)=true↔∀n:Int,n∈[a,b]->∃k:Nat,n=k/\Am xs j k:=λj=>by
  rw[aP,BT,BT];constructor
  ·rintro⟨⟨i,k,e,rfl,h1⟩,⟨i',k',e',rfl,h2⟩⟩ n hn;simp only[ba,bp,cb]at hn;have ei:j=i:=aE
   have ei':j=i':=aE
   subst ei ei';rcases hn with rfl | rfl
   ·exact⟨k,rfl,h1⟩
   exact⟨k',rfl,h2⟩
  intro h;obtain⟨k,e,h1⟩:=h a aM;obtain⟨k',e',h2⟩:=h b aM;exact⟨⟨j,k,rfl,e,h1⟩,⟨j,k',rfl,e',h2⟩⟩
 have hm:=(both m).2 t1;have Io:m<xs.length:=by
  obtain⟨k,_,s,hs,_⟩:=t1 a aM;exact tZ hs
 unfold xx;rcases uW (xs:=xs) a b xs.length with⟨_,h2⟩ | ⟨q,h1,h2,h3,h4⟩
 ·rw[h2 m Io]at hm;cases hm
 have:=t2 q ((both q).1 h3);by_cases e:q=m
 ·rw[h1,e]
 rw[h4 m aE Io]at hm;cases hm
end
theorem Up.more{st cO:St}{c:Bool}{n:Nat}(h:Up st c 0 cO)(hn:c=true->n=0):Up st c n cO:=by
 cases c with
 | true=>rw[hn rfl];exact h
 | false=>
  refine⟨?_,λe=>?_⟩
  ·rw[h.w];simp
  have:=h.w;rw[e]at this;simp at this
def X3:List (aH):=[[],Bs,qW,tP,Hb]
theorem agq{k:Int}(h1:1<=k)(h2:k<=4):X3[k.toNat]? =some (kW k):=by
 have:k=1∨k=2∨k=3∨k=4:=aE
 rcases this with rfl | rfl | rfl | rfl<;>rfl
theorem X4(k:Int):ne (kW k)=true:=by
 unfold kW;split
 ·rfl
 split
 ·rfl
 split
 ·rfl
 rfl
theorem aac(k:Int):(kW k).length<=8:=by
 unfold kW;split
 ·decide
 split
 ·decide
 split
 ·decide
 decide
theorem Mi{d:Nat}{b:Nb}{l:List Nd}(hk:b.k=1∨b.k=2)(hd:d<12):((decide (b.dft=[])&&dj b.nm)&&zI b l (d+1))=jU d (.mk b l):=by
 have hh:gK b.k=false:=acY
 rw[jU,bE hd,bZ];unfold sO zI;rw[hh,aQ aL];have:decide ((b.k=1∨b.k=2)/\b.dft=[])=decide (b.dft=[]):=by simp[hk]
 rw[this];generalize decide (b.dft=[])=A;generalize dj b.nm=B;generalize (decide (b.ini=[])||dj b.ini)=C;generalize b.en.all gF=D;generalize b.lv.all gF=E;generalize b.mv.all kO=G;generalize iB (d+1) l=H;cases A<;>cases B<;>cases C<;>cases D<;>cases E<;>cases G<;>cases H<;>rfl
theorem Mj{d:Nat}{b:Nb}{l:List Nd}(hk:b.k=3∨b.k=4)(hd:d<12):(((decide (b.ini=[])&&decide (b.en=[]/\b.lv=[]/\b.mv=[]/\l=[]))&&dj b.nm)&&dj b.dft)=jU d (.mk b l):=by
 have hh:gK b.k=true:=by unfold gK;exact bE hk
 rw[jU,bE hd,bZ];unfold sO;rw[hh,aV rfl];by_cases hl:l=[]
 ·subst hl;have:decide (b.ini=[]/\b.en=[]/\b.lv=[]/\b.mv.length=0/\([]:List Nd).length=0)=(decide (b.ini=[])&&decide (b.en=[]/\b.lv=[]/\b.mv=[]/\([]:List Nd)=[])):=by
   rw[bH];simp
  rw[this,iB];generalize decide (b.ini=[])=A;generalize decide (b.en=[]/\b.lv=[]/\b.mv=[]/\([]:List Nd)=[])=B;cases A<;>cases B<;>cases dj b.nm<;>cases dj b.dft<;>rfl
 have h1:decide (b.en=[]/\b.lv=[]/\b.mv=[]/\l=[])=false:=bA λh=>hl h.2.2.2;have h2:decide (b.ini=[]/\b.en=[]/\b.lv=[]/\b.mv.length=0/\l.length=0)=false:=bA λh=>hl (bF h.2.2.2.2);rw[h1,h2];simp
theorem Ml{d:Nat}{b:Nb}{l:List Nd}(h:¬(1<=b.k/\b.k<=4)∨12<=d):jU d (.mk b l)=false:=by
 rw[jU];rcases h with h | h
 ·have hh:gK b.k=false:=acY
  have:decide ((b.k=1∨b.k=2)/\b.dft=[])=false:=bA aE;unfold sO;rw[hh,aQ aL,this];simp
 rw[bA aE];rfl
theorem Mm:∀D,Ri D
 | 0=>by
  intro w0 w b l st F x cs d h hx;exact hx.elim
 | D+1=>by
  intro w0 w b l st F x cs d h hx hF hn hs hd hE hT;obtain⟨bb,ks⟩:=x;have TP:=hx;obtain⟨en,lv,mv,kids,rfl,vH,wa⟩:=hx;have vH:EP false w F bb en lv mv:=vH;have wa:jH false (kj false D) 9 27 w F kids ks:=wa;show az aq 107 #[rp b,ah (mH bb.k bb.nm bb.ini bb.dft en lv mv kids bb.a).toArray,O U (d:Int)] w _;rw[zf]at hn;rw[lQ]at hs;have F1:=hs;unfold BN at F1;refine ret (afC _ _ _ _ _ _ _ _ _ _ _ _ _ ?_);intro k0 w1 fO dQ cn;have t1:=(h.z false).al cn fO dQ;obtain⟨q,sl,hB,_⟩:=t1.toQz.set;have bad:∀{w':av} {cO:St} {lx:aH},cO.1=true->Zq false w0 w b w' lx cO [k0]->(st.1=true∨jU d (.mk bb ks)=false)->∃cO l',Up st (jU d (.mk bb ks)) (uU (.mk bb ks)) cO/\(cO.1=false->l'=dy l (Cs d (.mk bb ks)))/\Qz w0 b w' l' cO/\Mw false b w w':=by
   intro w' cO lx e t hc;refine⟨cO,lx,⟨?_,λe2=>absurd (e.symm.trans e2) aL⟩,λe2=>absurd (e.symm.trans e2) aL,t.toQz,t.m⟩;rw[e];rcases hc with hc | hc
   ·rw[hc];rfl
   rw[hc];simp
  refine⟨st.1,Blk.dN hB 2 rfl,λhc=>?_,λhc=>?_⟩
  ·refine(kP t1.toQz false).mono ?_;rintro _ w2 ⟨rfl,zq,u1,u2,u3⟩;refine⟨rfl,t1.sm u3 aM,rfl,bad (by rw[u1.w];simp) (t1.nx u2 u3.up) ?_⟩;rw[cx]at hc;rcases hc with hc | hc
   ·exact .inl hc
   exact .inr (Ml (.inr aaX))
  rw[fg]at hc;have acj:d<12:=by have:=aU hc.2;omega
  obtain⟨q2,w2,g,cs,e2,cH,hg1,hg2,lS,cY⟩:=Ra w1 X3 (n:=5) (parts:=#[.mk 0 (ab (ao #[])),.mk 1 (ab (ao #[115,116,97,116,101])),.mk 2 (ab (ao #[112,97,114,97,108,108,101,108])),.mk 3 (ab (ao #[104,105,115,116,111,114,121])),.mk 4 (ab (ao #[100,101,101,112]))]) rfl rfl aL aL;have t2:=t1.al cH hg1 hg2;have hwd:1<=bb.k/\bb.k<=4->cR q2 bb.k 1 ⟨g,bb.k.toNat,none⟩/\∀w',aF w' g 9 cs->aB w' ⟨g,bb.k.toNat,none⟩ [ab (T (kW bb.k))]:=λhk=>by
   have:=cY _ _ (agq hk.1 hk.2);rwa[fy aE]at this
  have F7:=aac bb.k;have z2:∀{w3:av},ay [] w2 w3->aF w3 g 9 cs:=λhO=>hO.blk lS aM;have z2m:∀{w3 w4:av} {lx:aH} {sx:St} {f:Bool},Zq false w0 w b w3 lx sx [g,k0]->Mw f b w3 w4->aF w3 g 9 cs->aF w4 g 9 cs:=λt m hB=>(t.sm (ks':=[g]) m aM g aM).trans hB;refine⟨q2,w2,e2,t1.sq cH aM,λb1 w3=>w2=w3/\b1=decide (bb.k=1∨bb.k=2),?_,λuE=>⟨rfl,?_⟩,λuE=>⟨rfl,?_⟩⟩
  ·rintro b1 _ ⟨rfl,rfl⟩;refine⟨λKH=>?_,λKH=>?_⟩
   ·have hk:=aR KH;have hkr:1<=bb.k/\bb.k<=4:=aE
    obtain⟨y1,y2⟩:=hwd hkr;rw[show ao #[]=T []from rfl,gU];refine(kP t2.toQz _).mono ?_;rintro _ w4 ⟨rfl,KG,u1,u2,u3⟩;have t4:=t2.nx u2 u3.up;refine⟨rfl,t2.sm u3 aM,λw5 dY=>⟨λk=>k∈[k0,g],aM,_,y1,aM,_,y2 w5 (dY.blk (z2m t2 u3 lS) aM),?_⟩⟩;have t5:=t4.q dY;refine(nN t5.toQz bb.nm aE).mono ?_;rintro _ w6 ⟨rfl,st6,v1,v2,v3⟩;have t6:=t5.nx v2 v3.up;have vm:=jA [kW bb.k,bb.nm,[123]];simp only[bK,fC,cE,jp,aW,bd]at vm;obtain⟨q7,w7,e7,fK,hj7⟩:=zg t6.toQz [kW bb.k,bb.nm,[123]] (n:=3) (parts:=#[.mk 0 (ab (T (kW bb.k))),.mk 1 (ab (T bb.nm)),.mk 2 (ab (T [123]))]) rfl rfl aL aL d hd aE;refine⟨_,rfl,t5.sm v3 aM,bR.of (t5.sm v3 aM),q7,w7,e7,t6.sq fK aM,bR.of (t6.sq fK aM),hj7.mono ?_⟩;rintro _ w8 ⟨rfl,x1,x2⟩;have t8:=t6.nx x1 x2;have YY:st6.1=false->(if st6.1 then l else jl l (d,gu [kW bb.k,bb.nm,[123]]))=dy l [(d,kW bb.k++32::(bb.nm++[32,123]))]:=λe=>by
     rw[e,aQ aL,nj,qg (X4 _),fV (rY (v1.ok e).2.1),fV (by rfl),eU,fU,fU,nf];rfl
    generalize (if st6.1 then l else jl l (d,gu [kW bb.k,bb.nm,[123]]))=l8 at*
    have ed:ar U ((d:Int)+1)=((d+1:Nat):Int):=aaa
    rw[ed];refine⟨rfl,t6.sl fK x2 aM,bR.of (t6.sl fK x2 aM),(Rj (Mm D) t8.toQz (vH.keep λk hk _=>h.arg t8.toQz (hF k hk)) (wa.keep (bU false D) aL λk hk _=>h.arg t8.toQz (hF k hk)) hF hn.1 hn.2 hs (d+1) aE hE hT).mono ?_⟩;rintro _ w9 ⟨rfl,st9,l9,YU,hl9,y3,y4⟩;have t9:=t8.nx y3 y4;obtain⟨YI,de,e10,dT,acf⟩:=zg t9.toQz [[125]] (n:=1) (parts:=#[.mk 0 (ab (T [125]))]) rfl rfl aL aL d hd aL;refine⟨rfl,t8.sm y4 aM,YI,de,e10,t9.sq dT aM,acf.mono ?_⟩;rintro _ dz ⟨rfl,x3,x4⟩;have t11:=t9.nx x3 x4;refine⟨rfl,t9.sl dT x4 aM,rfl,st9,_,((u1.tr v1).tr YU).cg (Mi hk acj) (by rw[uU];omega),λe=>?_,t11.toQz,t11.m⟩;have hh:gK bb.k=false:=acY
    rw[Cs,hh,e];simp only[iv,jf];rw[hl9 e,YY (YU.ok e).1,<-fN];have e1:gu [[125]]=[125]:=aL
    rw[e1,<-nj,<-fN];simp only[bf,bX,bP]
   have hnk:=aU KH;refine⟨λb2 eu=>w2=eu/\b2=decide (bb.k=3∨bb.k=4),?_,λhc4=>⟨rfl,?_⟩,λhc4=>⟨rfl,?_⟩⟩
   ·rintro b2 _ ⟨rfl,rfl⟩;refine⟨λhc5=>?_,λhc5=>?_⟩
    ·have hk:=aR hc5;have hkr:1<=bb.k/\bb.k<=4:=aE
     obtain⟨y1,y2⟩:=hwd hkr;have n4:=vH.1.1.len;have n5:=vH.2.1.1.len;have n6:=vH.2.2.1.len;have n7:=wa.1.len;have a4:=fT bb.en;have a5:=fT bb.lv;have a6:=mf bb.mv;have a7:=mh ks;have aor:(ar U ((ar U ((ar U ((en.n:Int)+(lv.n:Int)))+(mv.n:Int)))+(kids.n:Int))==0)=decide (bb.en=[]/\bb.lv=[]/\bb.mv=[]/\ks=[]):=by
      rw[eY (x:=(en.n:Int)+(lv.n:Int)) aE aE,eY (x:=(en.n:Int)+(lv.n:Int)+(mv.n:Int)) aE aE,eY aE aE,bH];simp only[du,bI];refine⟨λe=>?_,λ⟨e1,e2,e3,e4⟩=>?_⟩
      ·exact⟨bF aE,bF aE,bF aE,bF aE⟩
      rw[n4,n5,n6,n7,e1,e2,e3,e4];rfl
     rw[show ao #[]=T []from rfl,gU,aor];refine(kP t2.toQz _).mono ?_;rintro _ eS ⟨rfl,aci,u1,u2,u3⟩;have t13:=t2.nx u2 u3.up;refine⟨rfl,t2.sm u3 aM,λfJ ec=>⟨λk=>k∈[k0,g],aM,_,y1,aM,_,y2 fJ (ec.blk (z2m t2 u3 lS) aM),aM,?_⟩⟩;have t14:=t13.q ec;refine(nN t14.toQz bb.nm aE).mono ?_;rintro _ gY ⟨rfl,auf,v1,v2,v3⟩;have t15:=t14.nx v2 v3.up;refine⟨_,rfl,t14.sm v3 aM,bR.of (t14.sm v3 aM),(nN t15.toQz bb.dft aE).mono ?_⟩;rintro _ jm ⟨rfl,aos,x1,x2,x3⟩;have t16:=t15.nx x2 x3.up;have vm:=jA [kW bb.k,bb.nm,[45,62],bb.dft++[59]];simp only[bK,fC,cE,jp,aW,bd,aN]at vm;obtain⟨q17,jd,e17,iZ,aot⟩:=zg t16.toQz [kW bb.k,bb.nm,[45,62],bb.dft++[59]] (n:=4) (parts:=#[.mk 0 (ab (T (kW bb.k))),.mk 1 (ab (T bb.nm)),.mk 2 (ab (T [45,62])),.mk 3 (ab (T (bb.dft++[59])))]) rfl rfl aL aL d hd aE;refine⟨T bb.dft,rfl,t15.sm x3 aM,bR.of (t15.sm x3 aM),aaY,q17,jd,by rw[show ao #[59]=T [59]from rfl,eI];exact e17,t16.sq iZ aM,bR.of (t16.sq iZ aM),aot.mono ?_⟩;rintro _ jR ⟨rfl,y3,y4⟩;have t18:=t16.nx y3 y4;have hU:=((u1.tr v1).tr x1).cg (Mj hk acj) rfl;refine⟨rfl,t16.sl iZ y4 aM,bR.of (t16.sl iZ y4 aM),rfl,aos,_,hU.more λoh=>?_,λe=>?_,t18.toQz,t18.m⟩
     ·rw[<-Mj hk acj]at oh;simp only[aP,bI]at oh;obtain⟨⟨⟨_,e1,e2,e3,e4⟩,_⟩,_⟩:=oh;rw[uU,e4,lg];unfold xR;rw[e1,e2,e3];rfl
     have hh:gK bb.k=true:=by unfold gK;exact bE hk
     have TM:ne (bb.dft++[59])=true:=by
      have:bb.dft++[59]≠[]:=aM
      unfold ne;rw[bA this];rfl
     rw[Cs,hh,aV rfl,e,aQ aL,nj,qg (X4 _),fV (rY (v1.ok (x1.ok e).1).2.1),fV (by rfl),fV TM,eU,fU,fU,fU,nf,bD];rfl
    have auh:=aU hc5;refine(kP t2.toQz false).mono ?_;rintro _ eS ⟨rfl,aci,u1,u2,u3⟩;have t13:=t2.nx u2 u3.up;exact⟨rfl,t2.sm u3 aM,rfl,bad (by rw[u1.w];simp) ⟨t13.toQz,t13.m,λk hk=>t13.k k adi⟩ (.inr (Ml (.inl aE)))⟩
   ·have:bb.k=3:=by simpa using hc4
    rw[hc4,bE (.inl this)]
   have:bb.k≠3:=by simpa using hc4
   rw[bH];simp[this]
  ·have:bb.k=1:=by simpa using uE
   rw[uE,bE (.inl this)]
  have:bb.k≠1:=by simpa using uE
  rw[bH];simp[this]
mutual
theorem Rv:∀x:Nd,jk x<=lQ x
 | .mk b l=>by
  rw[jk,lQ];have:=xA l;unfold BN;omega
theorem xA:∀l:List Nd,dD l<=jB l
 | []=>by rw[dD];exact be _
 | x::l=>by
  rw[dD,jB];exact kY (Rv x) (xA l)
end
mutual
theorem aad:∀x:Nd,uT x<=lQ x
 | .mk b l=>by
  rw[uT,lQ];have:=uX l;have:=mf b.mv;unfold BN;omega
theorem uX:∀l:List Nd,me l<=jB l
 | []=>by rw[me];exact be _
 | x::l=>by
  rw[me,jB];exact kY (aad x) (uX l)
end
theorem re(x:Nd):∀l:List Nd,dD (l++[x])=dD l+jk x
 | []=>by simp[dD]
 | y::l=>by rw[bX,dD,dD,re x l];omega
theorem uY(x:Nd):∀l:List Nd,me (l++[x])=me l+uT x
 | []=>by simp[me]
 | y::l=>by rw[bX,me,me,uY x l];omega
theorem BU:∀l m:List Nd,jB (l++m)=jB l+jB m
 | [],m=>by rw[bP,jB];omega
 | y::l,m=>by rw[bX,jB,jB,BU l m];omega
theorem Mn:∀(D:Nat) (w:av) (F:aJ) (x:Nd) (cs:aI),kj false D w F x cs->lQ x<=8388608->az aq 52 #[ah cs.toArray] w λe w'=>e=ak (ai #[O U (jk x:Int),O U (uT x:Int)])/\ay [] w w'
 | 0,w,F,x,cs,hx,_=>hx.elim
 | D+1,w,F,x,cs,hx,hs=>by
  obtain⟨bb,ks⟩:=x;obtain⟨en,lv,mv,kids,rfl,vH,wa⟩:=hx;have oQ:=vH.2.2.1;have oQ:aA (Af false) 13 w F mv bb.mv:=oQ;have hk:aA (kj false D) 9 w F kids ks:=wa.1;show az aq 52 #[ah (mH bb.k bb.nm bb.ini bb.dft en lv mv kids bb.a).toArray] w _;refine ret (afi _ _ _ _ _ _ _ _ _ _ _ ?_);have z1:=xA ks;have z2:=uX ks;have z3:=mf bb.mv;rw[lQ]at hs;have F1:=hs;unfold BN at F1;have n6:=oQ.len;have n7:=hk.len;have z4:=mh ks;intro k0 w1 fO dQ cn w2 cH;refine⟨λnv a m i w'=>∃j:Nat,i=j/\j<=ks.length/\nv=ks.length-j/\a=(1+dD (ks.take j):Nat)/\m=(bb.mv.length+me (ks.take j):Nat)/\k0<w'.heap.size/\ay [] w w',ks.length,⟨0,rfl,be _,rfl,by rw[ci,dD];rfl,by rw[ci,me,n6];rfl,cJ dQ cH.size,cn.ca cH⟩,?_⟩;rintro nv _ _ _ w3 ⟨j,rfl,hj,rfl,rfl,rfl,yS,cT⟩;have aui:jB ks=jB (ks.take j)+jB (ks.drop j):=by rw[<-BU,dP]
  have y1:=xA (ks.take j);have y2:=uX (ks.take j);refine⟨λhc=>?_,λhc=>?_⟩
  ·have bT:(j:Int)<kids.n:=aR hc;obtain⟨ad,y,cs,g1,g2,g3,g4,g5,g6⟩:=(SliceF.only (bU false D) aL hk cT aM).get (aZ j) bT;rw[aX]at g2;have Np:=mg (bh g2);have oo:ks.take (j+1)=ks.take j++[y]:=by
    rw[bn,g2];rfl
   have aq0:jB ks=jB (ks.take (j+1))+jB (ks.drop (j+1)):=by rw[<-BU,dP]
   have y3:dD (ks.take j)+jk y<=jB (ks.take (j+1)):=by rw[<-re,<-oo];exact xA _
   have y4:me (ks.take j)+uT y<=jB (ks.take (j+1)):=by rw[<-uY,<-oo];exact uX _
   have Cm:=g6;cases D with
   | zero=>exact Cm.elim
   | succ D=>
   obtain⟨qA,qB,nR,gj,rfl,_⟩:=Cm;refine⟨ad,g1,_,_,_,_,qA,qB,nR,gj,_,g5,λk3 w4 vI aq1 dw=>?_⟩;refine(Mn (D+1) w4 F y _ ((bU false _).keep g6 λk _ bT=>dw.block k bT aM) aE).mono ?_;rintro _ w5 ⟨rfl,dY⟩;refine⟨_,_,rfl,dY.same (by have:=dw.size;simp;omega),ks.length-(j+1),aE,j+1,aaa,aE,rfl,?_,?_,?_,(cT.ca dw).ca dY⟩
   ·rw[oo,re,eY aE aE];omega
   ·rw[oo,uY,eY aE aE];omega
   have:=dw.size;have:=dY.size;omega
  have lR:¬(j:Int)<kids.n:=aU hc;have kF:j=ks.length:=aE
  subst kF;rw[bm (aY _)];refine⟨?_,cT⟩;rw[jk,uT,kf]
structure Pt4 (w:av) (b:Nat) (sl:Sl) (l:aH) (v2 v3:aw):Prop where
 blk:∃q:Option Addr,aF w b 116 [ae q,sl.v,v2,v3]
 len:sl.n=l.length
 some:l≠[]->∃g,sl.a=.some ⟨g,0,none⟩/\b<g/\sl.c≠0/\(∃n,w.shape? g=.some (5,n)/\l.length<=n)/\aB w ⟨g,0,none⟩ (l.map gC)
 cap:sl.a=none∨sl.c≠0
 big:l.length<=9223372036854775807
section
variable {w:av} {b:Nat} {sl:Sl} {l:aH} {v2 v3:aw}
theorem Pt4.only{w':av}(h:Pt4 w b sl l v2 v3)(hO:ay [] w w'):Pt4 w' b sl l v2 v3:=by
 obtain⟨⟨q,h1⟩,h2,h3,h4,h5⟩:=h;refine⟨⟨q,hO.blk h1 aM⟩,h2,λhl=>?_,h4,h5⟩;obtain⟨g,a1,a2,a3,⟨n,a4,a5⟩,a6⟩:=h3 hl;have hg:g<w.heap.size:=by
  refine bL λhn=>?_;unfold World.shape? at a4;rw[gP aE]at a4;cases a4
 have hk:=hO.block g hg aM;exact⟨g,a1,a2,a3,⟨n,(BE hk).trans a4,a5⟩,a6.keep hk⟩
theorem Qz.pt{w0:av}{st:St}(h:Qz w0 b w l st):∃sl,Pt4 w b sl l (aj st.1) (O U st.2)/\∀k,sl.a=some ⟨k,0,none⟩->Bu w b k:=by
 obtain⟨q,sl,hq,hB,hb⟩:=h.ex;refine⟨sl,⟨⟨_,hB⟩,hb.len,λhl=>?_,?_,?_⟩,λk hk=>Hr hB hk⟩
 ·rcases hb with⟨_,e⟩ | ⟨g,tail,h1,h2,h3,h4,h5,h6,h7,h8⟩
  ·exact absurd e hl
  have h0:l.length≠0:=λe=>hl (bF e);refine⟨g,h1,h2,aE,⟨_,by unfold World.shape?;unfold aF at h3;rw[h3],aM⟩,h3.cells 0 (l.map gC) λj v hj=>ack⟩
 ·rcases hb with⟨e,_⟩ | ⟨g,tail,h1,h2,h3,h4,h5,h6,h7,h8⟩
  ·exact .inl (by rw[e])
  exact .inr aE
 rcases hb with⟨_,e⟩ | ⟨g,tail,h1,h2,h3,h4,h5,h6,h7⟩
 ·subst e;simp
 omega
theorem Mo(h:Pt4 w b sl l v2 v3):az aq 59 #[ae (some ⟨b,0,none⟩)] w λe w'=>e=ak (ab (T l))/\Pt4 w' b sl l v2 v3/\aD (λk=>b<k/\sl.a=some ⟨k,0,none⟩) w w':=by
 refine ret (XE _ _ _ ?_);intro w0 cf;have h0:=h.only cf;obtain⟨⟨q,hB⟩,fi,Im,oS,qy⟩:=h0;refine⟨λk=>k=b,sl,Blk.dN hB 1 rfl,rfl,sl,Blk.dN hB 1 rfl,sl.a,w0,?_,λk _ _=>rfl,?_⟩
 ·obtain⟨sa,sn',sc⟩:=sl;cases sa with
  | none=>exact Lib.run_unsafeSliceData_nil _ _ _ _ _
  | some a=>
   rcases oS with e | e
   ·cases e
   exact Lib.run_unsafeSliceData_row _ _ _ _ _ _ e
 by_cases hl:l=[]
 ·subst hl;have hn:sl.n=0:=fi;refine⟨T [],w0,?_,λk _ _=>rfl,rfl,⟨⟨q,hB⟩,fi,Im,oS,qy⟩,cf.p0⟩;rw[hn];exact Lib.run_unsafeString_none _ _ _ _ _
 obtain⟨g,ha,OQ,hc,⟨m,sL,hm⟩,wA⟩:=Im hl;have hF:=tM w0 ⟨g,0,none⟩ l.length;have CK:b<w0.heap.size:=hB.lt;refine⟨T l,w0.freeze ⟨g,0,none⟩ l.length,?_,λk hk bT=>hF.block k bT aa1,rfl,⟨⟨q,hF.blk hB aa1⟩,fi,λ_=>⟨g,ha,OQ,hc,⟨m,(xh _ _ _ _).trans sL,hm⟩,λj v hj=>by rw[tL];exact wA j v hj⟩,oS,qy⟩,cf.vV (hF.mono λk _ hk=>by dsimp only at hk;exact⟨aE,by rw[hk];exact ha⟩)⟩;rw[ha,fi];exact Lib.run_unsafeString_row _ _ _ _ 5 (by kernel_rfl) (by kernel_rfl) g m sL l hl hm qy λj x hj=>wA j (gC x) (by rw[cA,hj];rfl)
end
def gL(c:Ch):aH×Int:=
 if pq c=true then(if 16384<(dy [] (Ak c)).length then([],2)else if(fu (dy [] (Ak c))).2.1≠0 then([],22)else(dy [] (Ak c),0))else([],22)
def mB:List Vr->Nat
 | []=>0
 | v::l=>(v.n.length+1)+mB l
theorem ud{v:Vr}:∀{l:List Vr},v∈l->v.n.length+1<=mB l
 | [],h=>aa6
 | x::l,h=>by
  rw[mB];rcases ba.1 h with rfl | h
  ·omega
  have:=ud h;omega
theorem uf:∀l:List Vr,l.length<=mB l
 | []=>be _
 | v::l=>by
  have:=uf l;rw[mB,aW];omega
def vE(v:Vr):Bool:=dj v.n&&decide (v.v≠ -9223372036854775808)
theorem VS(c:Ch):((((((decide (c.root.b.k=1)&&decide (c.root.b.dft=[]))&&decide (c.vars.length<=16))&&decide (jk c.root<=64))&&decide (uT c.root<=200))&&dj c.root.b.nm)&&(c.vars.all vE&&zI c.root.b c.root.kids 1)&&decide (uU c.root<=400))=pq c:=by
 obtain⟨vars,⟨b,l⟩⟩:=c;unfold pq;show((((((decide (b.k=1)&&decide (b.dft=[]))&&decide (vars.length<=16))&&decide (jk (.mk b l)<=64))&&decide (uT (.mk b l)<=200))&&dj b.nm)&&(vars.all vE&&zI b l 1)&&decide (uU (.mk b l)<=400))=(vars.all vE&&jU 0 (.mk b l)&&decide (b.k=1/\vars.length<=16/\jk (.mk b l)<=64/\uT (.mk b l)<=200/\uU (.mk b l)<=400))
 by_cases hk:b.k=1
 ·rw[<-Mi (d:=0) (.inl hk) aL];have:decide (b.k=1/\vars.length<=16/\jk (.mk b l)<=64/\uT (.mk b l)<=200/\uU (.mk b l)<=400)=(decide (vars.length<=16)&&decide (jk (.mk b l)<=64)&&decide (uT (.mk b l)<=200)&&decide (uU (.mk b l)<=400)):=by
   rw[bH];simp[hk,and_assoc]
  rw[this,bE hk];generalize decide (b.dft=[])=A;generalize decide (vars.length<=16)=B;generalize decide (jk (.mk b l)<=64)=C;generalize decide (uT (.mk b l)<=200)=D;generalize decide (uU (.mk b l)<=400)=E;generalize dj b.nm=G;generalize vars.all vE=H;show _=(H&&((A&&G)&&zI b l (0+1))&&(B&&C&&D&&E))
  generalize zI b l (0+1)=I;cases A<;>cases B<;>cases C<;>cases D<;>cases E<;>cases G<;>cases H<;>cases I<;>rfl
 have:decide (b.k=1/\vars.length<=16/\jk (.mk b l)<=64/\uT (.mk b l)<=200/\uU (.mk b l)<=400)=false:=bA λh=>hk h.1;rw[this,bA hk];simp
theorem VT{w:av}{F:aJ}{D:Nat}{c:Ch}{vs:Sl}{cs:aI}(hx:ChR false D w F c vs cs)(hn:Ip c)(hs:mB c.vars+lQ c.root<=8388608)(hE:Er w)(hT:Tb w):
  az aq 26 #[ah (vs.v::cs).toArray] w λe w'=>e=ak (ai #[ab (T (gL c).1),O U (gL c).2])/\ay [] w w':=by
 obtain⟨vars,⟨bb,ks⟩⟩:=c;cases D with
 | zero=>exact hx.root.elim
 | succ D=>
 have Nq:kj false (D+1) w F (.mk bb ks) cs:=hx.root;have acm:=(bU false _).inHeap Nq;have xO:aA xQ 3 w F vs vars:=hx.vars.1;obtain⟨en,lv,mv,kids,rfl,vH,wa⟩:=acm;have vH:EP false w (λk=>F k/\k<w.heap.size) bb en lv mv:=vH;have wa:jH false (kj false D) 9 27 w (λk=>F k/\k<w.heap.size) kids ks:=wa;have hr:=hn.r;have hr:zf (.mk bb ks):=hr;have Nr:∀v,v∈vars->wE v.v:=hn.v;rw[zf]at hr;have hs:mB vars+lQ (.mk bb ks)<=8388608:=hs;have hsN:lQ (.mk bb ks)=BN bb+jB ks:=by rw[lQ]
 have F1:=hs;rw[hsN]at F1;unfold BN at F1;have aiG:=VS ⟨vars,.mk bb ks⟩;generalize hP:gL ⟨vars,.mk bb ks⟩=P;unfold gL at hP;rw[<-aiG]at hP;clear aiG;have hP:(if((((((decide (bb.k=1)&&decide (bb.dft=[]))&&decide (vars.length<=16))&&decide (jk (.mk bb ks)<=64))&&decide (uT (.mk bb ks)<=200))&&dj bb.nm)&&(vars.all vE&&zI bb ks 1)&&decide (uU (.mk bb ks)<=400))=true then(if 16384<(dy [] (Ak ⟨vars,.mk bb ks⟩)).length then([],2)else if(fu (dy [] (Ak ⟨vars,.mk bb ks⟩))).2.1≠0 then([],22)else(dy [] (Ak ⟨vars,.mk bb ks⟩),0))else([],22))=P:=hP;show az aq 26 #[ah (vs.v::mH bb.k bb.nm bb.ini bb.dft en lv mv kids bb.a).toArray] w _;refine ret (afh _ _ _ _ _ _ _ _ _ _ _ _ ?_);intro k0 b w1 fO dQ hb ol cn;have hvl:=xO.len;have hvz:=uf vars;refine(Mn (D+1) w1 F (.mk bb ks) _ ((bU false _).keep Nq λk _ bT=>cn.block k bT aM) aE).mono ?_;rintro _ w2 ⟨rfl,cH⟩;have z2:=cH.size;refine⟨_,_,rfl,cH.same aaf,λlS ii=>?_⟩;have q2:Qz w b w2 [] (false,0):=⟨cn.ca cH,hb,⟨none,Sl.nil,.inl rfl,lS,.inl ⟨rfl,rfl⟩⟩,λ_=>⟨jt 0,aL⟩,be _⟩
 have t2:Zq false w w2 b w2 [] (false,0) [k0]:=⟨q2,Mw.refl _ _ _,λk hk=>by
  simp only[aO]at hk;subst hk;exact⟨aE,ii,λh=>by have:=L2 lS h;cases this⟩⟩
 have hF:∀k,(λk=>F k/\k<w.heap.size) k->k<w.heap.size:=λk hk=>hk.2;have hw:=q2.o;rw[show ao #[]=T []from rfl,gU,hvl];refine(kP t2.toQz _).mono ?_;rintro _ w3 ⟨rfl,st3,u1,u2,u3⟩;have t3:=t2.nx u2 u3.up;have KH:((((bb.k==1)&&decide (bb.dft=[]))&&decide ((vars.length:Int)<=16))&&decide ((jk (.mk bb ks):Int)<=64)&&decide ((uT (.mk bb ks):Int)<=200))=((((decide (bb.k=1)&&decide (bb.dft=[]))&&decide (vars.length<=16))&&decide (jk (.mk bb ks)<=64))&&decide (uT (.mk bb ks)<=200)):=by
  rw[bH];simp only[aP,du,bI];constructor
  ·rintro⟨⟨⟨⟨a1,a2⟩,a3⟩,a4⟩,a5⟩;exact⟨⟨⟨⟨a1,a2⟩,aE⟩,aE⟩,aE⟩
  rintro⟨⟨⟨⟨a1,a2⟩,a3⟩,a4⟩,a5⟩;exact⟨⟨⟨⟨a1,a2⟩,aE⟩,aE⟩,aE⟩
 rw[KH]at u1;obtain⟨q3a,q3b,_,sV,_⟩:=t3.ex;refine⟨rfl,t2.sm u3 aM,q3a,q3b,_,_,sV,(nN t3.toQz bb.nm aE).mono ?_⟩;rintro _ w4 ⟨rfl,KG,v1,v2,v3⟩;have t4:=t3.nx v2 v3.up;obtain⟨q4a,q4b,_,pN,_⟩:=t4.ex;have vm:=jA [fm,bb.nm,[123]];simp only[bK,fC,cE,jp,aW,bd]at vm;have hwc:fm.length=5:=rfl;obtain⟨q5,w5,e5,dY,hj5⟩:=zg t4.toQz [fm,bb.nm,[123]] (n:=3) (parts:=#[.mk 0 (ab (T fm)),.mk 1 (ab (T bb.nm)),.mk 2 (ab (T [123]))]) rfl rfl aL aL 0 aL aE;refine⟨_,rfl,t3.sm v3 aM,q4a,q4b,_,_,pN,q5,w5,e5,?_,hj5.mono ?_⟩
 ·refine dY.same λx hx=>⟨?_,aM⟩
  simp only[ba,bp,cb]at hx;rcases hx with rfl | rfl
  ·exact(t4.k x aM).1
  exact t4.toQz.lb
 rintro _ w6 ⟨rfl,x1,x2⟩;have t6:=t4.nx x1 x2;have hU6:=u1.tr v1;have hl6:KG.1=false->(if KG.1 then([]:aH)else jl [] (0,gu [fm,bb.nm,[123]]))=dy [] [(0,fm++32::(bb.nm++[32,123]))]:=λe=>by
  rw[e];simp only[iv,jf];rw[nj,qg aL,fV (rY (v1.ok e).2.1),fV (by rfl),eU,fU,fU,nf];rfl
 generalize (if KG.1 then([]:aH)else jl [] (0,gu [fm,bb.nm,[123]]))=l6 at*
 obtain⟨q6a,q6b,_,Pv,_⟩:=t6.ex;refine⟨rfl,t4.sl dY x2 aM,q6a,q6b,_,_,Pv,λnv i q l' wr ac w'=>∃(j:Nat) (cO:St) (l':aH),i=j/\j<=vars.length/\nv=vars.length-j/\Up KG ((vars.take j).all vE) 0 cO/\(cO.1=false->l'=dy l6 ((vars.take j).map λv=>(1,T9 v)))/\Zq false w w2 b w' l' cO [k0],
  vars.length,⟨0,KG,l6,rfl,be _,rfl,t6.toQz.up0,λ_=>rfl,t6⟩,?_⟩
 rintro nv _ qa la wr ac w7 ⟨j,YS,l7,rfl,hj,rfl,Nl,Nn,t7⟩;refine⟨λhc=>?_,λhc=>?_⟩
 ·have bT:(j:Int)<vars.length:=aR hc;obtain⟨ad,v,cs,g1,g2,g3,g4,g5,g6⟩:=(SliceF.only dF aL xO t7.o aM).get (aZ j) aE;rw[aX]at g2;have hvm:=bh g2;have hvz:=ud hvm;have oo:vars.take (j+1)=vars.take j++[v]:=by
   rw[bn,g2];rfl
  unfold xQ at g6;subst g6;refine⟨ad,g1,_,_,_,g5,λk4 w8 uC CS fj _=>?_⟩;have t8:=t7.al fj uC CS;refine(kP t8.toQz _).mono ?_;rintro _ w9 ⟨rfl,st9,y1,y2,y3⟩;have t9:=t8.nx y2 y3.up;obtain⟨q9a,q9b,_,TN,_⟩:=t9.ex;refine⟨rfl,t8.sm y3 aM,q9a,q9b,_,_,TN,λde dT _=>⟨λk=>k∈[k4],aM,?_⟩⟩;have t10:=t9.q dT;refine(nN t10.toQz v.n aE).mono ?_;rintro _ dz ⟨rfl,acg,y4,y5,y6⟩;have t11:=t10.nx y5 y6.up;obtain⟨aov,aow,_,CQ,_⟩:=t11.ex;refine⟨_,rfl,t10.sm y6 aM,aov,aow,_,_,CQ,bR.of (t10.sm y6 aM),(Ag v.v (Nr v hvm) (hT.only t11.o)).mono ?_⟩;rintro _ eu ⟨rfl,eh⟩;have t12:=t11.q eh;obtain⟨aox,aoy,_,FR,_⟩:=t12.ex;have Uu:=Ht (Nr v hvm);have vm:=jA [vw,v.n,[61],Lib.itoa v.v++[59]];simp only[bK,fC,cE,jp,aW,bd,aN]at vm;have hwv:vw.length=3:=rfl;obtain⟨q13,eS,e13,dU,aoz⟩:=zg t12.toQz [vw,v.n,[61],Lib.itoa v.v++[59]] (n:=4) (parts:=#[.mk 0 (ab (T vw)),.mk 1 (ab (T v.n)),.mk 2 (ab (T [61])),.mk 3 (ab (T (Lib.itoa v.v++[59])))]) rfl rfl aL aL 1 aL aE;refine⟨T (Lib.itoa v.v),rfl,t11.sq eh aM,aox,aoy,_,_,FR,bR.of (t11.sq eh aM),aaY,q13,eS,by rw[show ao #[59]=T [59]from rfl,eI];exact e13,?_,bR.of (t12.sq dU aM),aoz.mono ?_⟩
  ·refine dU.same λx hx=>⟨?_,aM⟩
   simp only[ba,bp,cb]at hx;rcases hx with rfl | rfl | rfl
   ·exact(t12.k x aM).1
   ·exact t12.toQz.lb
   exact(t12.k x aM).1
  rintro _ fJ ⟨rfl,y7,y8⟩;have t14:=t12.nx y7 y8;obtain⟨aoA,aoB,_,Ij,_⟩:=t14.ex;refine⟨rfl,t12.sl dU y8 aM,aoA,aoB,_,_,Ij,bR.of (t12.sl dU y8 aM),vars.length-(j+1),aE,j+1,acg,_,aaa,aE,rfl,((Nl.tr y1).tr y4).cg ?_ rfl,λe=>?_,⟨t14.toQz,t14.m,λk hk=>t14.k k adi⟩⟩
  ·rw[oo,ja];have:(v.v != -9223372036854775808)=decide (v.v≠ -9223372036854775808):=by rw[bH];simp
   rw[this];unfold vE;simp only[kl,List.all_nil,da];rw[vN,Bool.and_comm (decide _) (dj _)]
  have TM:ne (Lib.itoa v.v++[59])=true:=by
   have:Lib.itoa v.v++[59]≠[]:=aM
   unfold ne;rw[bA this];rfl
  rw[e];simp only[iv,jf];rw[Nn (y1.ok (y4.ok e).1).1,oo,cN,fN,qg aL,fV (rY (y4.ok e).2.1),fV (by rfl),fV TM,eU,fU,fU,fU,nf,bD];rfl
 have lR:¬(j:Int)<vars.length:=aU hc;have kF:j=vars.length:=aE
 subst kF;rw[bm (aY _)]at Nl Nn;refine(Rj (Mm D) t7.toQz (vH.keep λk hk _=>t7.o.block k hk.2 aM) (wa.keep (bU false D) aL λk hk _=>t7.o.block k hk.2 aM) hF hr.1 hr.2 aE 1 aL hE hT).mono ?_;rintro _ w8 ⟨rfl,st8,l8,hU8,YY,y1,y2⟩;have t8:=t7.nx y1 y2;obtain⟨q8a,q8b,_,wB,_⟩:=t8.ex;obtain⟨q9,w9,e9,fG,hj9⟩:=zg t8.toQz [[125]] (n:=1) (parts:=#[.mk 0 (ab (T [125]))]) rfl rfl aL aL 0 aL aL;refine⟨rfl,t7.sm y2 aM,q8a,q8b,_,_,wB,q9,w9,e9,?_,hj9.mono ?_⟩
 ·refine fG.same λx hx=>⟨?_,aM⟩
  simp only[ba,bp,cb]at hx;rcases hx with rfl | rfl
  ·exact(t8.k x aM).1
  exact t8.toQz.lb
 rintro _ de ⟨rfl,x3,x4⟩;have t10:=t8.nx x3 x4;have hU:=hU6.tr (Nl.tr hU8);have hlF:st8.1=false->(if st8.1 then l8 else jl l8 (0,gu [[125]]))=dy [] (Ak ⟨vars,.mk bb ks⟩):=λe=>by
  obtain⟨e7,_⟩:=hU8.ok e;obtain⟨e4,_⟩:=Nl.ok e7;rw[e];simp only[iv,jf];rw[YY e,Nn e7,hl6 e4];have e1:gu [[125]]=[125]:=aL
  rw[e1,<-nj,<-fN,<-fN,<-fN];unfold Ak;rw[bf (CI 1 bb)];exact rfl
 generalize (if st8.1 then l8 else jl l8 (0,gu [[125]]))=lF at*
 obtain⟨aiH,aiI,_,oy,_⟩:=t10.ex;have hcond:((((((decide (bb.k=1)&&decide (bb.dft=[]))&&decide (vars.length<=16))&&decide (jk (.mk bb ks)<=64))&&decide (uT (.mk bb ks)<=200))&&dj bb.nm)&&(vars.all vE&&zI bb ks 1)&&decide (uU (.mk bb ks)<=400))=!st8.1:=by
  have h1:=hU.w;have aoC:decide (400<(0:Int)+((0+0+(0+(xR bb+lg ks)):Nat):Int))=!decide (uU (.mk bb ks)<=400):=by
   rw[uU];by_cases h4:xR bb+lg ks<=400
   ·rw[bE h4,bA aE];rfl
   rw[bA h4,bE aE];rfl
  have h1:st8.1=((false||!((((((decide (bb.k=1)&&decide (bb.dft=[]))&&decide (vars.length<=16))&&decide (jk (.mk bb ks)<=64))&&decide (uT (.mk bb ks)<=200))&&dj bb.nm)&&(vars.all vE&&zI bb ks 1)))||decide (400<(0:Int)+((0+0+(0+(xR bb+lg ks)):Nat):Int))):=h1;rw[aoC]at h1;rw[h1];generalize ((((((decide (bb.k=1)&&decide (bb.dft=[]))&&decide (vars.length<=16))&&decide (jk (.mk bb ks)<=64))&&decide (uT (.mk bb ks)<=200))&&dj bb.nm)&&(vars.all vE&&zI bb ks 1))=A;generalize decide (uU (.mk bb ks)<=400)=B;cases A<;>cases B<;>rfl
 rw[hcond]at hP;have fin:∀{w':av},ay [] w2 w'->ay [] w w':=λh=>hw.ca h;have o10:ay [] w de:=t10.o;refine⟨rfl,t8.sl fG x4 aM,aiH,aiI,_,_,oy,λe=>?_,λe=>(L6 t10.toQz).mono ?_⟩
 ·rw[aQ (by rw[e];decide)]at hP;subst hP;exact⟨rfl,o10⟩
 rw[aV (by rw[e];rfl),<-hlF e]at hP;rintro _ _ ⟨rfl,rfl⟩;obtain⟨slP,hPt,hPb⟩:=t10.toQz.pt;have hbu:=λk hk=>t10.toQz.bu (hPb k hk);refine⟨_,rfl,λ_ _=>rfl,aiH,aiI,_,_,oy,λe2=>?_,λe2=>(Mo hPt).mono ?_⟩
 ·rw[aV (aR e2)]at hP;subst hP;exact⟨rfl,o10⟩
 rw[aQ (aU e2)]at hP;rintro _ dz ⟨rfl,YZ,dH⟩;have CR:=dH.size;have hlb:=t10.toQz.lb;have k0h:=t10.k k0 aM;have ko:∀k,(b<k/\slP.a=some ⟨k,0,none⟩)->w.heap.size<=k:=λk hk=>by have:=t10.lo;omega
 have Y1:ay [] w dz:=(o10.vV dH).only ko;obtain⟨q11,CQ⟩:=YZ.blk;refine⟨_,rfl,dH.same λx hx=>?_,q11,slP,_,_,CQ,(Hq _ (hE.only Y1)).mono ?_⟩
 ·simp only[aO]at hx;subst hx;exact⟨k0h.1,λh=>k0h.2.2 (hPb _ h.2)⟩
 rintro _ eu ⟨vsx,csx,rfl,hC,eh⟩;obtain⟨xe,xl,xm,xk,rfl,_⟩:=hC.root;have Y2:=YZ.only eh;obtain⟨q12,FR⟩:=Y2.blk;have o12:=Y1.ca eh;have z12:=eh.size;refine⟨vsx,_,_,_,_,xe,xl,xm,xk,_,_,_,rfl,eh.same aaf,q12,slP,_,_,FR,λe3 k6 k7 eS _ _ _ _ dU _=>?_,λe3 k8 k9 fJ hk8 WI hk9 aiJ ec _=>?_⟩
 ·rw[aV (by simpa using e3)]at hP;subst hP;exact⟨rfl,o12.ca dU⟩
 rw[aQ (by simpa using e3)]at hP;subst hP;refine(Mo (Y2.only ec)).mono ?_;rintro _ gY ⟨rfl,aiK,je⟩;obtain⟨q15,ab2⟩:=aiK.blk;have YL:=ec.size;refine⟨_,rfl,je.same λx hx=>?_,q15,slP,_,_,ab2,rfl,((o12.ca ec).vV je).only ko⟩;simp only[ba,bp,cb]at hx;rcases hx with rfl | rfl | rfl
 ·exact⟨aE,λh=>k0h.2.2 (hPb _ h.2)⟩
 ·exact⟨WI,λh=>by have:=(hbu _ h.2).2;omega⟩
 exact⟨aiJ,λh=>by have:=(hbu _ h.2).2;omega⟩
def inB(n:Int):Bool:=decide (-9223372036854775808<=n/\n<=9223372036854775807)
theorem Rw{n:Int}(h:inB n=true):wE n:=by
 have h:=aR h;exact⟨h.1,h.2⟩
mutual
def nXb:Ex->Bool
 | .mk _ n _ _ l _=>inB n&&VU l
def VU:List Ex->Bool
 | []=>true
 | x::l=>nXb x&&VU l
end
theorem Mp{y:Ex}:∀{l:List Ex},VU l=true->y∈l->nXb y=true
 | [],_,h=>aa6
 | x::l,h,hy=>by
  rw[VU,aP]at h;rcases ba.1 hy with rfl | hy
  ·exact h.1
  exact Mp h.2 hy
theorem aae:∀(d:Nat) {x:Ex},nXb x=true->kx d x
 | 0,_,_=>trivial
 | d+1,.mk k n s op l a,h=>by
  rw[nXb,aP]at h;exact⟨Rw h.1,λy hy=>aae d (Mp h.2 hy)⟩
def nAb(a:Ac):Bool:=nXb a.x
def nMb(m:Mv):Bool:=nXb m.g&&m.acts.all nAb&&inB m.wt
def nNb(b:Nb):Bool:=b.en.all nAb&&b.lv.all nAb&&b.mv.all nMb
mutual
def nDb:Nd->Bool
 | .mk b l=>nNb b&&VV l
def VV:List Nd->Bool
 | []=>true
 | x::l=>nDb x&&VV l
end
theorem Rx{l:List Ac}(h:l.all nAb=true):∀a,a∈l->Dm a:=λa ha d=>aae d ((ey.1 h) a ha)
theorem al8{m:Mv}(h:nMb m=true):PA m:=by
 unfold nMb at h;simp only[aP]at h;exact⟨λd=>aae d h.1.1,Rx h.1.2,Rw h.2⟩
theorem al9{b:Nb}(h:nNb b=true):YO b:=by
 unfold nNb at h;simp only[aP]at h;exact⟨Rx h.1.1,Rx h.1.2,λm hm=>al8 ((ey.1 h.2) m hm)⟩
mutual
theorem agr:∀(x:Nd),nDb x=true->zf x
 | .mk b l,h=>by
  rw[nDb,aP]at h;rw[zf];exact⟨al9 h.1,X5 l h.2⟩
theorem X5:∀(l:List Nd),VV l=true->vB l
 | [],_=>by rw[vB];trivial
 | x::l,h=>by
  rw[VV,aP]at h;rw[vB];exact⟨agr x h.1,X5 l h.2⟩
end
def nCb(c:Ch):Bool:=(c.vars.all λv=>inB v.v)&&nDb c.root
theorem amb{c:Ch}(h:nCb c=true):Ip c:=by
 unfold nCb at h;simp only[aP]at h;exact⟨λv hv=>Rw ((ey.1 h.1) v hv),agr _ h.2⟩
def amc(c:Ch):Bool:=decide (mB c.vars+lQ c.root<=8388608)
theorem ChR.off{d:Nat}{w:av}{F:aJ}{c:Ch}{vs:Sl}{cs:aI}(h:ChR true d w F c vs cs):ChR false d w F c vs cs:=⟨h.vars.off λ_ _ _ h=>h,LH h.root⟩
def spv(x:gv):aI:=[O U x.k,ab (T x.nm),O U x.pa,O U x.dp,O U x.en]
def yw:Rp gv:=λ_ _ x cs=>cs=spv x
theorem gy:yw.Ok:=⟨λh _=>h,λh=>h,λh _=>h,λh=>by
 unfold yw spv at h;subst h;intro v hv;simp only[ba,bp,cb]at hv;rcases hv with rfl | rfl | rfl | rfl | rfl<;>rfl⟩
abbrev fQ(B:Nat)(w:av)(s:Sl)(xs:List gv):Prop:=Own yw 5 70 B w (λ_=>False) s xs
theorem fQ.of{B:Nat}{w:av}{F:aJ}{s:Sl}{xs:List gv}(h:Own yw 5 70 B w F s xs):fQ B w s xs:=by
 rcases h with⟨rfl,rfl⟩ | ⟨g,css,tail,h1,h2,h4,h5,h6,h7,h9,h8⟩
 ·exact .inl ⟨rfl,rfl⟩
 exact .inr ⟨g,css,tail,h1,h2,h4,h5,h6,h7,h9,gI.OG (λx c _ hc=>hc) h8⟩
theorem fQ.xN{B:Nat}{w w':av}{G:aJ}{s:Sl}{xs:List gv}(h:fQ B w s xs)(hO:aD G w w')(hG:∀k,B<=k->s.a=some ⟨k,0,none⟩->¬G k):fQ B w' s xs:=
 h.keep gy λk hk bT=>hO.block k bT (hk.elim (λh=>h.elim) λh=>hG k h.1 h.2)
theorem X6(t:Bool):∀(D:Nat) {w:av} {F:aJ} {x:Nd} {cs:aI} {b:Nat} {s:Sl} {xs:List gv} {pa dp:Int},kj t D w F x cs->(∀k,F k->k<b)->aF w b 81 [s.v]->fQ (b+1) w s xs->
  xs.length+jk x<=1000000->0<=dp->dp+jk x<=1000000->
  az aq 34 #[ae (some ⟨b,0,none⟩),ah cs.toArray,O U pa,O U dp] w λe w'=>e=ak (ai #[])/\∃s',aF w' b 81 [s'.v]/\fQ (b+1) w' s' (xs++Iy xs.length pa dp x)/\iL b s w s' w'
 | 0,_,_,_,_,_,_,_,_,_,h,_,_,_,_,_,_=>h.elim
 | D+1,w,F,.mk bb ks,cs,b,s,xs,pa,dp,⟨en,lv,mv,kids,iC,_,fO⟩,hF,hB,hS,hn,h0,hd=>by
  have hk:=fO.1;clear fO;dsimp only[Nd.kids,Nd.b]at hk iC;subst iC;rw[jk]at hn hd;have F7:=hk.len;have hnn:=rc ks;refine ret (alB _ _ _ _ _ _ _ _ _ _ _ _ _ _ ?_);intro k0 w0 fO dQ cf;have z0:=cf.size;have CK:=hB.lt;have cell:∀{u:av} {q:Sl},aF u b 81 [q.v]->aB u ((⟨b,0,none⟩:Addr).add 0) [q.v]:=λh=>h.cells 0 [_] λj v hj=>adI
  have zu:=cf.blk hB aM;refine⟨s,cell zu,λw1 cn=>⟨λk=>k=b,rfl,s,cell (cn.blk zu aM),?_⟩⟩;have o1:=cf.ca cn;have z1:=cn.size;have hS1:fQ (b+1) w1 s xs:=hS.xN o1.p0 λ_ _ _ h=>h;have qF:=o1.blk hB aM;obtain⟨y,w2,k1,k3,s3,w3,g1,g2,⟨gs,g3,g4⟩,g5⟩:=lz (P:=aq) (t:=79) (ty:=79) (e:=70) (i:=Tryz.t70) (bytes:=48) (size:=5) (r:=yw) (G:=λ_=>False) (v:=ah #[O U bb.k,ab (T bb.nm),O U pa,O U dp,O U 0]) (x:=⟨bb.k,bb.nm,pa,dp,0⟩) (by kernel_rfl) (by kernel_rfl) rfl rfl rfl rfl aL aL aL gy hS1 aE rfl rfl (λ_ h=>h.elim) aE;have z2:=k3.size;have z3:=g3.size;have gb:∀g,g∈gs->g≠b/\g<w1.heap.size/\s.a=some ⟨g,0,none⟩:=λg hg=>⟨by have:=(g4 g hg).2.1;omega,(g4 g hg).2.2,(g4 g hg).1⟩
  have qC:s.a≠some ⟨k0,0,none⟩:=λe=>aa8
  have sV:aF w3 b 81 [s.v]:=g3.blk (k3.blk qF aM) λh=>(gb b h).1 rfl;refine⟨y,w2,k1,k3.same aaf,bR.only k3,s3,w3,g1,g3.same λx hx=>?_,λk hk bT=>?_,b,0,_,_,rfl,sV,aY 1,aE,λw4 dw pN=>?_⟩
  ·simp only[aO]at hx;subst hx;exact⟨aE,λh=>qC (gb _ h).2.2⟩
  ·subst hk;exact g3.block _ bT λh=>(gb _ h).1 rfl
  have z4:=dw.size;have UC:fQ (b+1) w3 s3 (xs++[⟨bb.k,bb.nm,pa,dp,0⟩]):=fQ.of g2;have hS4:fQ (b+1) w4 s3 (xs++[⟨bb.k,bb.nm,pa,dp,0⟩]):=UC.xN (G:=λk=>k=b) (dw.p aM) λk h _=>aE
  have m4:iL b s w s3 w4:=by
   refine⟨((o1.ca k3).vV (g3.p (F:=λk=>k=b∨s.a=some ⟨k,0,none⟩) λg hg=>.inl (.inr (gb g hg).2.2))).trans (dw.p (F:=λk=>k=b∨s.a=some ⟨k,0,none⟩) aM) λk hk=>.inl hk,λk hk=>?_⟩;rcases g5 with e | ⟨g,e,h⟩
   ·exact .inl ab8
   rw[e]at hk;injection hk with hk;injection hk with hk;exact .inr aE
  have n4:∀k,s3.a=some ⟨k,0,none⟩->k≠k0:=λk hk e=>by
   subst e;rcases g5 with e | ⟨g,e,h⟩
   ·exact qC ab8
   rw[e]at hk;injection hk with hk;injection hk with hk;omega
  have tu:∀{u:av} {q:Sl},iL b s w q u->aA (kj t D) 9 u F kids ks:=λhm=>SliceF.pA (bU t D) aL hk hm.1 λk hFk _=>by
   have:=hF k hFk;exact λh=>h.elim aE λh=>by have:=(hS.blk h).1;dsimp only at this;omega
  refine⟨λkv i w'=>∃(j:Nat) (q:Sl),i=(j:Int)/\kv+j=ks.length/\j<=ks.length/\aF w' b 81 [q.v]/\fQ (b+1) w' q (xs++⟨bb.k,bb.nm,pa,dp,0⟩::uV (xs.length+1) xs.length (dp+1) (ks.take j))/\iL b s w q w'/\w4.heap.size<=w'.heap.size/\∀k,q.a=some ⟨k,0,none⟩->k≠k0,ks.length,⟨0,s3,rfl,aE,be _,pN,by rw[ci,uV];exact hS4,m4,aY _,n4⟩,?_⟩;rintro kv _ w5 ⟨j,q,rfl,tw,vm,ux,Co,m5,z5,n5⟩;have FT:s.n=xs.length:=hS.len;constructor
  ·intro hc;have hj:j<ks.length:=aaX
   obtain⟨y,hy⟩:∃y,ks[j]? =some y:=⟨_,bJ hj⟩
   obtain⟨ad,y',ds,a1,a2,a3,a4,a5,a6⟩:=(tu m5).get (aZ j) aE;rw[aX,hy]at a2;injection a2 with a2;subst a2;have Il:=a6;obtain⟨D',rfl⟩:∃D',D=D'+1:=by
    cases D with
    | zero=>exact a6.elim
    | succ D'=>exact⟨D',rfl⟩
   obtain⟨qA,qB,nR,gj,rfl,_⟩:=Il;have vW:=nq hy;have WZ:(xs++⟨bb.k,bb.nm,pa,dp,0⟩::uV (xs.length+1) xs.length (dp+1) (ks.take j)).length=xs.length+1+dD (ks.take j):=by
    rw[aN,aW,sd];omega
   refine⟨ad,a1,_,_,_,_,qA,qB,nR,gj,_,a5,λk6 w6 WL W0 dK=>?_⟩;have z6:=dK.size;have m6:iL b s w q w6:=m5.trans (iL.only dK);rw[eY aE aE,FT];refine(X6 t (D'+1) (pa:=((xs.length:Nat):Int)) ((bU t (D'+1)).keep a6 λk _ bT=>dK.block k bT aM) (s:=q) (xs:=xs++⟨bb.k,bb.nm,pa,dp,0⟩::uV (xs.length+1) xs.length (dp+1) (ks.take j)) (b:=b) (dp:=dp+1) hF (dK.blk ux aM) (Co.xN dK.p0 λ_ _ _ h=>h) (by rw[WZ];omega) aE aE).mono ?_;rintro _ w7 ⟨rfl,q7,TH,UD,m7⟩;have z7:=m7.1.size;refine⟨rfl,m7.1.same λx hx=>?_,kv-1,aE,j+1,q7,aaa,aE,aE,TH,?_,m6.trans m7,aE,λk hk e=>?_⟩
   ·simp only[ba,bp,cb]at hx;rcases hx with rfl | rfl
    ·exact⟨aE,λh=>h.elim aE λh=>n5 _ h rfl⟩
    refine⟨W0,λh=>h.elim aE λh=>?_⟩;have:=(Co.blk h).2;dsimp only at this;omega
   ·have e:ks.take (j+1)=ks.take j++[y]:=agi
    rw[e,E5,uV,uV,bD];rw[WZ,bf,bX]at UD;exact UD
   subst e;rcases m7.2 _ hk with h | h
   ·exact n5 _ h rfl
   omega
  intro hc w8 fj;have kF:j=ks.length:=aa0
  subst kF;rw[bm (aY _)]at Co;have wB:=fj.blk ux aM;have hS8:fQ (b+1) w8 q _:=Co.xN fj.p0 λ_ _ _ h=>h;have z8:=fj.size;have cY:(xs++⟨bb.k,bb.nm,pa,dp,0⟩::uV (xs.length+1) xs.length (dp+1) ks)[xs.length]? =some ⟨bb.k,bb.nm,pa,dp,0⟩:=by
   rw[cw (aY _),nH];rfl
  obtain⟨g,cells,yN,p1,p2,p3,p4,p5,p6,p7⟩:=Own.ag5 gy hS8 cY;have aco:yN=spv ⟨bb.k,bb.nm,pa,dp,0⟩:=p6;subst aco;have hql:q.n=xs.length+1+dD ks:=by rw[Co.len,aN,aW,sd];omega
  obtain⟨p8,p9⟩:=p7 4 (O U (q.n:Int)) ⟨bb.k,bb.nm,pa,dp,(q.n:Int)⟩ (λ_=>False) aL rfl λ_ h=>h.elim;rw[<-FT]at p2;have hgb:=(Co.blk p1).1;dsimp only at hgb;refine⟨q,cell wB,q,cell wB,_,p2,g,xs.length*5+4,cells,_,by rw[gH,FT],p3,by rw[<-FT]at p8⊢;exact p8,λe=>n5 g p1 e.symm,λw9 fG TN=>⟨rfl,q,fG.blk wB aaf,?_,?_⟩⟩
  ·have:=p9 w9 fG TN;rw[qG _ _ (aY _),nH,Iv]at this;rw[Iy];have e:(q.n:Int)=((xs.length+1+dD ks:Nat):Int):=by rw[hql]
   rw[e]at this;exact this
  refine(m5.trans (iL.only fj)).trans ⟨fG.p λk hk=>?_,λk hk=>.inl hk⟩;simp only[aO]at hk;subst hk;exact .inl (.inr p1)
theorem VW{w:av}{F:aJ}{D:Nat}{c:Ch}{vs:Sl}{cs:aI}(hx:ChR false (D+1) w F c vs cs)(hn:Ip c)(hs:mB c.vars+lQ c.root<=8388608)(hE:Er w)(hT:Tb w):
  az aq 33 #[ah (vs.v::cs).toArray] w λe w'=>e=ak (O U (gL c).2)/\ay [] w w':=by
 obtain⟨en,lv,mv,kids,rfl,_⟩:=hx.root;refine ret (afF _ _ _ _ _ _ _ _ _ _ _ _ ?_);intro k0 w0 fO dQ cf;have TP:ChR false (D+1) w0 F c vs (mH c.root.b.k c.root.b.nm c.root.b.ini c.root.b.dft en lv mv kids c.root.b.a):=⟨hx.vars.keep dF aL λk _ bT=>cf.block k bT aM,(bU false _).keep hx.root λk _ bT=>cf.block k bT aM⟩
 refine(VT TP hn hs (hE.only cf) (hT.only cf)).mono ?_;rintro _ w1 ⟨rfl,cn⟩;exact⟨_,_,rfl,cn.same aaf,rfl,cf.ca cn⟩
theorem uZ{c:Ch}(h:(gL c).2=0):jk c.root<=64:=by
 unfold gL at h;by_cases h1:pq c=true
 ·unfold pq at h1;simp only[aP]at h1;exact(aR h1.2).2.2.1
 rw[aQ h1]at h;exact absurd h aL
theorem aag{w:av}{F:aJ}{D:Nat}{c:Ch}{vs:Sl}{cs:aI}(hx:ChR false (D+1) w F c vs cs)(hn:Ip c)(hs:mB c.vars+lQ c.root<=8388608)(hE:Er w)(hT:Tb w):
  az aq 15 #[ah (vs.v::cs).toArray] w λe w'=>(∃s,e=ak (ai #[Sl.v s,O U (gL c).2])/\((gL c).2=0->fQ w.heap.size w' s (lP c))/\((gL c).2≠0->s=Sl.nil))/\ay [] w w':=by
 obtain⟨en,lv,mv,kids,iC,_⟩:=hx.root;subst iC;refine(alA vs c.root.b.k (T c.root.b.nm) (T c.root.b.ini) (T c.root.b.dft) en lv mv kids c.root.b.a (λv w'=>(∃s,v=ai #[Sl.v s,O U (gL c).2]/\((gL c).2=0->fQ w.heap.size w' s (lP c))/\((gL c).2≠0->s=Sl.nil))/\ay [] w w') w ?_).mono ?_
 ·intro k0 w0 fO dQ cf;have z0:=cf.size;have keep:∀{u:av},ay [] w u->ChR false (D+1) u F c vs (mH c.root.b.k c.root.b.nm c.root.b.ini c.root.b.dft en lv mv kids c.root.b.a):=λhO=>⟨hx.vars.keep dF aL λk _ bT=>hO.block k bT aM,(bU false _).keep hx.root λk _ bT=>hO.block k bT aM⟩
  refine(VW (keep cf) hn hs (hE.only cf) (hT.only cf)).mono ?_;rintro _ w1 ⟨rfl,cn⟩;have z1:=cn.size;have o1:=cf.ca cn;refine⟨_,rfl,cn.same aaf,λhc=>?_,λhc k1 w2 kU jC cH lS=>?_⟩
  ·have hc:(gL c).2≠0:=aax
   exact⟨⟨Sl.nil,rfl,λh=>absurd h hc,λ_=>rfl⟩,o1⟩
  have hc:(gL c).2=0:=aax
  have hnd:=uZ hc;have o2:=o1.ca cH;have z2:=cH.size;have hr2:kj false (D+1) w2 (λk=>k<w.heap.size) c.root (mH c.root.b.k c.root.b.nm c.root.b.ini c.root.b.dft en lv mv kids c.root.b.a):=
   (bU false _).keep ((bU false _).mono ((bU false _).inHeap hx.root) λk hk=>hk.2) λk _ bT=>o2.block k bT aM
  refine(X6 false (D+1) (s:=Sl.nil) (xs:=[]) (pa:= -1) (dp:=0) hr2 (λk hk=>aE) lS (Own.nil _ _ _ _ _ _) acq aL aE).mono ?_;rintro _ w3 ⟨rfl,s',sV,UC,m3⟩;have z3:=m3.1.size;refine⟨rfl,m3.1.same λx hx=>?_,s',sV,⟨s',by rw[hc],λ_=>?_,λh=>absurd hc h⟩,?_⟩
  ·simp only[aO]at hx;subst hx;exact⟨aE,λh=>h.elim aE λh=>aaQ⟩
  ·rw[bP]at UC;exact Own.low UC aE
  exact(o2.vV m3.1).only λk hk=>hk.elim aE λh=>aaQ
 rintro _ w' ⟨v,rfl,⟨s,rfl,h1,h2⟩,h3⟩;exact⟨⟨s,rfl,h1,h2⟩,h3⟩
section
variable {w:av} {F:aJ} {l:Sl} {xs:List gv}
theorem od(h:aA yw 5 w F l xs){i:Nat}{x:gv}(hx:xs[i]? =some x):∃ad,cR l (i:Int) 5 ad/\aB w ad (spv x)/\aB w (ad.add 2) [O U x.pa]/\aB w (ad.add 3) [O U x.dp]/\aB w (ad.add 4) [O U x.en]:=by
 have bT:=(bc.1 hx).1;have hl:=h.len;obtain⟨ad,y,cs,g1,g2,g3,g4,g5,g6⟩:=h.get (aZ i) aE;rw[aX,hx]at g2;injection g2 with g2;subst g2;have g6:cs=spv x:=g6;subst g6;have one:∀(n:Nat) (v:aw),(spv x)[n]? =some v->aB w (ad.add n) [v]:=λn v hv j u hu=>by
  cases j with
  | zero=>
   rw[cD,bq]at hu;subst hu;have:=g5 n v hv;rw[oZ,fk];exact this
  | succ j=>simp at hu
 exact⟨ad,g1,g5,one 2 _ rfl,one 3 _ rfl,one 4 _ rfl⟩
def Fb(xs:List gv)(n:Int):Bool:=decide (n>=0)&&decide (n<(xs.length:Int))
theorem rh{n:Int}:Fb xs n=true↔xS xs n:=by
 unfold Fb xS;rw[aP,dR,dR]
theorem Ry(h:aA yw 5 w F l xs)(n:Int):az aq 167 #[l.v,O U n] w λe w'=>e=ak (aj (Fb xs n))/\w'=w:=by
 refine ret (alE _ _ _ _ ?_);rw[h.len];exact⟨rfl,rfl⟩
noncomputable def N7(xs:List gv)(b a:Int):Bool:=open Classical in decide (∃i j:Nat,b=i/\a=j/\Am xs i j)
theorem ri{b a:Int}:N7 xs b a=true↔∃i j:Nat,b=i/\a=j/\Am xs i j:=by
 unfold N7;exact @dR _ (Classical.propDecidable _)
theorem Hw(h:aA yw 5 w F l xs)(hF:Fo xs)(b a:Int):az aq 122 #[l.v,O U b,O U a] w λe w'=>e=ak (aj (N7 xs b a))/\w'=w:=by
 refine ret (alF _ _ _ _ _ ?_);refine⟨λr w'=>r=N7 xs b a/\w'=w,λr w' ⟨h1,h2⟩=>⟨by rw[h1],h2⟩,(Ry h a).mono ?_⟩;rintro _ _ ⟨rfl,rfl⟩;refine⟨_,rfl,λha=>(Ry h b).mono ?_,λha=>⟨?_,rfl⟩⟩
 ·rintro _ _ ⟨rfl,rfl⟩;have ha:=rh.1 ha;by_cases hb:(Fb xs b&&decide (b<=a))=true
  ·rw[aP]at hb;have zr:=rh.1 hb.1;have wx:=aR hb.2;obtain⟨i,rfl⟩:∃i:Nat,b=i:=⟨b.toNat,by have:=zr.1;omega⟩
   obtain⟨j,rfl⟩:∃j:Nat,a=j:=⟨a.toNat,by have:=ha.1;omega⟩
   obtain⟨x,hx⟩:=lh (xs:=xs) (i:=i) (by have:=zr.2;omega);obtain⟨ad,g1,g2,_,_,g5⟩:=od h hx;refine⟨_,rfl,ad,λ_=>g1,x.en,λ_=>g5,?_,rfl⟩;rw[hb.1,hb.2,bZ,bZ,bH,ri,dR];constructor
   ·exact λh=>⟨i,j,rfl,rfl,x,hx,aE,h⟩
   rintro⟨i',j',e1,e2,y,hy,h1,h2⟩;have e1:i=i':=aE
   subst e1;rw[hx,bq]at hy;subst hy;omega
  rw[nI]at hb;refine⟨_,rfl,⟨0,0,none⟩,λh=>(by rw[hb]at h;cases h),0,λh=>(by rw[hb]at h;cases h),?_,rfl⟩;rw[hb,cQ,eq_comm,<-nI,ri];rintro⟨i,j,rfl,rfl,y,hy,h1,h2⟩;have:=tZ hy;rw[show Fb xs (i:Int)=true from rh.2 ⟨aE,aE⟩,show decide ((i:Int)<=(j:Int))=true from bE aE]at hb;cases hb
 rw[eq_comm,<-nI,ri];rintro⟨i,j,rfl,rfl,hc⟩;have:=hF.aaM hc;rw[show Fb xs (j:Int)=true from rh.2 ⟨aE,aE⟩]at ha;cases ha
noncomputable def N8(xs:List gv)(a b:Int):Bool:=open Classical in decide (∃i j:Nat,b=i/\a=j/\i<j/\Am xs i j)
theorem BW{a b:Int}:N8 xs a b=true↔∃i j:Nat,b=i/\a=j/\i<j/\Am xs i j:=by
 unfold N8;exact @dR _ (Classical.propDecidable _)
theorem N9(h:aA yw 5 w F l xs)(hF:Fo xs)(a b:Int):az aq 75 #[l.v,O U a,O U b] w λe w'=>e=ak (aj (N8 xs a b))/\w'=w:=by
 refine ret (alG _ _ _ _ _ ?_);refine⟨λr w'=>r=N8 xs a b/\w'=w,λr w' ⟨h1,h2⟩=>⟨by rw[h1],h2⟩,λhc=>(Hw h hF b a).mono ?_,λhc=>⟨?_,rfl⟩⟩
 ·rintro _ _ ⟨rfl,rfl⟩;have hc:a≠b:=aax
  refine⟨_,rfl,?_,rfl⟩;rw[bH,ri,BW];refine⟨λ⟨i,j,e1,e2,sS⟩=>⟨i,j,e1,e2,?_,sS⟩,λ⟨i,j,e1,e2,_,sS⟩=>⟨i,j,e1,e2,sS⟩⟩;obtain⟨s,_,vW,_⟩:=sS;omega
 have hc:a=b:=aax
 subst hc;rw[eq_comm,<-nI,BW];rintro⟨i,j,e1,e2,hl,_⟩;omega
abbrev ug(B:Nat)(w:av)(s:Sl)(l:List Int):Prop:=Own qk 1 3 B w (λ_=>False) s l
theorem ug.of{B:Nat}{w:av}{F:aJ}{s:Sl}{l:List Int}(h:Own qk 1 3 B w F s l):ug B w s l:=by
 rcases h with⟨rfl,rfl⟩ | ⟨g,css,tail,h1,h2,h4,h5,h6,h7,h9,h8⟩
 ·exact .inl ⟨rfl,rfl⟩
 exact .inr ⟨g,css,tail,h1,h2,h4,h5,h6,h7,h9,gI.OG (λx c _ hc=>hc) h8⟩
end
section
variable {w:av} {F G:aJ} {l sN:Sl} {xs:List gv} {ns:List Int}
theorem VX{k0:Nat}(h:aA yw 5 w F l xs)(hB:aF w k0 49 [l.v])(n:Int):az aq 168 #[O U n,ae (some ⟨k0,0,none⟩)] w λe w'=>e=ak (aj (!Fb xs n))/\w'=w:=by
 refine ret (alD _ _ _ _ ?_);refine⟨l,hB.cells 0 [_] λj v hj=>adI,(Ry h n).mono ?_⟩;rintro _ _ ⟨rfl,rfl⟩;exact⟨_,rfl,rfl,rfl⟩
theorem Rz{k0:Nat}(h:aA yw 5 w F l xs)(hB:aF w k0 49 [l.v])(hN:aA qk 1 w G sN ns):az aq 124 #[sN.v,.func (.func 168) #[] #[ae (some ⟨k0,0,none⟩)]] w λe w'=>(∃i:Int,e=ak (O U i)/\(i>=0↔∃n,n∈ns/\¬xS xs n))/\w'=w:=by
 refine(XG sN ⟨.func (.func 168) #[] #[ae (some ⟨k0,0,none⟩)],rfl⟩ (λv w'=>(∃i:Int,v=O U i/\(i>=0↔∃n,n∈ns/\¬xS xs n))/\w'=w) w ?_).mono ?_
 ·have hl:=hN.len;have PB:=hN.cap;have Aw:=hN.big;refine⟨λkv i w'=>∃j:Nat,i=(j:Int)/\kv+j=ns.length/\j<=ns.length/\(∀n,n∈ns.take j->xS xs n)/\w'=w,ns.length,⟨0,rfl,aE,be _,λn hn=>by simp at hn,rfl⟩,?_⟩;rintro kv _ u ⟨j,rfl,tw,hj,hh,hu⟩;obtain rfl:w=u:=hu.symm;refine⟨λhc=>?_,λhc=>⟨⟨-1,rfl,λh=>absurd h aL,λ⟨n,hn,hb⟩=>absurd (hh n ?_) hb⟩,rfl⟩⟩
  ·have hc:=aR hc;obtain⟨ad,y,cs,g1,g2,g3,g4,g5,g6⟩:=hN.get (aZ j) aE;rw[aX]at g2;obtain⟨rfl,hy⟩:=g6;refine⟨ad,g1,y,g5,168,[],[ae (some ⟨k0,0,none⟩)],rfl,kn (by kernel_rfl),(VX h hB y).mono ?_⟩;rintro _ u ⟨rfl,hu⟩;obtain rfl:w=u:=hu.symm;refine⟨_,rfl,λhb=>⟨⟨j,rfl,λ_=>⟨y,bh g2,λhh'=>?_⟩,λ_=>aE⟩,rfl⟩,λhb=>⟨kv-1,aE,j+1,aaa,aE,aE,λn hn=>?_,rfl⟩⟩
   ·rw[rh.2 hh']at hb;cases hb
   rw[bn,g2,cu]at hn;rcases hn with hn | hn
   ·exact hh n hn
   simp only[Option.toList,aO]at hn;subst hn;exact rh.1 aa2
  have hc:=aU hc;rwa[bm aE]
 rintro _ w' ⟨v,rfl,⟨i,rfl,h1⟩,h2⟩;exact⟨⟨i,rfl,h1⟩,h2⟩
def ags(xs:List gv)(ns:List Int):Prop:=ns=[]∨∃n,n∈ns/\¬xS xs n
theorem aah(h:aA yw 5 w F l xs)(hF:Fo xs)(hN:aA qk 1 w G sN ns):az aq 125 #[l.v,sN.v] w λe w'=>(∃r:Int,e=ak (O U r)/\Mt xs ns r)/\ay [] w w':=by
 refine(alC l sN (λv w'=>(∃r:Int,v=O U r/\Mt xs ns r)/\ay [] w w') w ?_).mono ?_
 ·intro k0 w0 fO dQ cf;have hl:=hN.len;have PB:=hN.cap;have Aw:=hN.big;have Kf:=h.len;have kL:∀{u:av},ay [] w u->aA yw 5 u F l xs:=λhO=>SliceF.only gy aL h hO aM;have kN:∀{u:av},ay [] w u->aA qk 1 u G sN ns:=λhO=>SliceF.only ly aL hN hO aM;refine⟨λb q u=>(b=true↔ags xs ns)/\l=q/\ay [] w u,?_,λhc=>?_,λhc hB=>?_⟩
  ·rintro b _ u ⟨hb,rfl,hO⟩;refine⟨λhbt=>⟨⟨-1,rfl,.inl ⟨hb.1 hbt,rfl⟩⟩,hO⟩,λhbf=>?_⟩;have hg:¬ags xs ns:=λhh=>by rw[hb.2 hh]at hbf;cases hbf
   have ii:ns≠[]:=λe=>hg (.inl e);have hh:∀n,n∈ns->xS xs n:=λn hn=>Classical.byContradiction λhx=>hg (.inr ⟨n,hn,hx⟩);have hlp:0<ns.length:=th.2 ii;obtain⟨ad,n0,cs,g1,g2,g3,g4,g5,g6⟩:=(kN hO).get (i:=0) aE aE;obtain⟨rfl,_⟩:=g6;have g2:ns[0]? =some n0:=g2;have Y3:=hh n0 (bh g2);obtain⟨m0,rfl⟩:∃m:Nat,n0=m:=⟨n0.toNat,by have:=Y3.1;omega⟩
   have ht1:ns.take 1=[(m0:Int)]:=by
    cases ns with
    | nil=>exact absurd rfl ii
    | cons a ns=>
     rw[cD,bq]at g2;subst g2;rfl
   refine⟨ad,g1,_,g5,⟨aE,PB⟩,λkv i1 i2 q u=>∃m j:Nat,i1=(m:Int)/\i2=(j:Int)/\kv+j=ns.length-1/\j<=ns.length-1/\l=q/\ay [] w u/\Top xs (ns.take (j+1)) m,ns.length-1,⟨m0,0,rfl,rfl,aE,aE,rfl,hO,?_⟩,?_⟩
   ·rw[ht1];refine⟨m0,rfl,λn hn=>?_,λj hj=>?_⟩
    ·simp only[aO]at hn;subst hn;exact⟨m0,rfl,hF.SW (by have:=Y3.2;omega)⟩
    obtain⟨k,e,s,_,vW,_⟩:=hj m0 aM;omega
   rintro kv _ _ _ u1 ⟨m,j,rfl,rfl,tw,hj,rfl,cn,TQ⟩;have SZ:=SliceF.cut (kN cn) (lo:=1) (hi:=sN.n) (m:=sN.c) aE PB (aY _) (aY _);have qv:(sN.cut 1 sN.n sN.c 1).n=ns.length-1:=by
    rw[SZ.len,cF,cr];omega
   refine⟨λhc=>?_,λhc=>?_⟩
   ·have hc:=aR hc;obtain⟨ad1,n3,cs,p1,p2,p3,p4,p5,p6⟩:=SZ.get (aZ j) aE;obtain⟨rfl,_⟩:=p6;rw[aX,List.getElem?_take_of_lt aE,gw]at p2;have p2:ns[j+1]? =some n3:=by rw[<-p2];congr 1;omega
    have hn3:=hh n3 (bh p2);obtain⟨t,rfl⟩:∃m:Nat,n3=m:=⟨n3.toNat,by have:=hn3.1;omega⟩
    have oo:ns.take (j+1+1)=ns.take (j+1)++[(t:Int)]:=by rw[bn,p2];rfl
    obtain⟨m',em,t1,t2⟩:=TQ;have em:m=m':=aE
    subst em;refine⟨ad1,p1,_,p5,λkv' i4 q u=>∃m:Nat,i4=(m:Int)/\m=kv'/\l=q/\ay [] w u/\(∀n,n∈ns.take (j+1)->∃k:Nat,n=k/\Am xs m k)/\∀j':Nat,(∀n,n∈ns.take (j+1+1)->∃k:Nat,n=k/\Am xs j' k)->j'<=m,m,⟨m,rfl,rfl,rfl,cn,t1,λj' Wq=>t2 j' λn hn=>Wq n ?_⟩,?_⟩
    ·rw[oo];exact List.mem_append_left _ hn
    rintro kv' _ _ u2 ⟨m2,rfl,rfl,rfl,cH,q1,q2⟩;refine(Hw (kL cH) hF m2 t).mono ?_;rintro _ u3 ⟨rfl,hu⟩;obtain rfl:u2=u3:=hu.symm;refine⟨_,rfl,bS.refl _ _,λW1=>?_,λW1=>?_⟩
    ·have W1:¬∃i j:Nat,(m2:Int)=i/\(t:Int)=j/\Am xs i j:=λe=>by rw[ri.2 e]at W1;cases W1
     have Ia:t<xs.length:=by have:=hn3.2;omega
     have vj:0<m2:=Nat.pos_of_ne_zero λe=>W1 ⟨0,t,aE,rfl,hF.SX Ia⟩;have TR:(m0:Int)∈ns.take (j+1):=by
      rw[List.mem_iff_getElem?];exact⟨0,by rw[List.getElem?_take_of_lt aE];exact g2⟩
     have aoF:m2<xs.length:=by
      obtain⟨k,_,s,e,_⟩:=q1 _ TR;exact tZ e
     obtain⟨y,hy⟩:=lh aoF;obtain⟨p,s,r1,r2,r3,r4,r5,r6⟩:=hF.par hy vj;obtain⟨KI,b1,_,b3,_,_⟩:=od (kL cH) hy;have cpm:Am xs p m2:=⟨s,r3,aE,r5⟩
     refine⟨KI,b1,y.pa,b3,p,r1,p,r2,rfl,rfl,cH,λn hn=>?_,λj' Wq=>?_⟩
     ·obtain⟨k,e,hk⟩:=q1 n hn;exact⟨k,e,hF.aaN cpm hk⟩
     have vW:=q2 j' Wq;have auH:j'≠m2:=λe=>by
      subst e;obtain⟨k,e,hk⟩:=Wq t (by rw[oo];simp);exact W1 ⟨j',k,rfl,e,hk⟩
     obtain⟨k,e,hk⟩:=Wq m0 (by rw[oo];exact List.mem_append_left _ TR);obtain⟨k',e',tu⟩:=q1 m0 TR;have:k=k':=aE
     subst this;obtain⟨s',v1,v2,v3⟩:=hF.aaO hk tu vW;exact r6 j' s' v1 aE v3
    have W1:N7 xs m2 t=true:=by simpa using W1
    obtain⟨i',t',e1,e2,hct⟩:=ri.1 W1;have e1:m2=i':=aE
    have e2:t=t':=aE
    subst e1 e2;refine⟨kv-1,aE,m2,j+1,rfl,aaa,aE,aE,rfl,cH,m2,rfl,λn hn=>?_,q2⟩;rw[oo,cu]at hn;rcases hn with hn | hn
    ·exact q1 n hn
    simp only[aO]at hn;subst hn;exact⟨t,rfl,hct⟩
   have hc:=aU hc;rw[bm aE]at TQ;exact⟨⟨m,rfl,.inr ⟨⟨ii,hh⟩,TQ⟩⟩,cn⟩
  ·have hc:(sN.n:Int)=0:=aax
   exact⟨⟨λ_=>.inl (bF aE),λ_=>rfl⟩,rfl,cf⟩
  have hc:¬(sN.n:Int)=0:=aax
  refine(XF sN ⟨.func (.func 168) #[] #[ae (some ⟨k0,0,none⟩)],rfl⟩ (λv w'=>(∃b:Bool,v=aj b/\(b=true↔∃n,n∈ns/\¬xS xs n))/\w'=w0) w0 ?_).mono ?_
  ·refine(Rz (kL cf) hB (kN cf)).mono ?_;rintro _ u ⟨⟨i,rfl,hi⟩,hu⟩;obtain rfl:w0=u:=hu.symm;exact⟨i,rfl,⟨_,rfl,by rw[dR];exact hi⟩,rfl⟩
  rintro _ u ⟨v,rfl,⟨b,rfl,hb⟩,hu⟩;obtain rfl:w0=u:=hu.symm;refine⟨b,rfl,l,hB,⟨λh=>.inr (hb.1 h),λh=>?_⟩,rfl,cf⟩;rcases h with h | h
  ·subst h;exact absurd (by rw[hl];rfl) hc
  exact hb.2 h
 rintro _ w' ⟨v,rfl,⟨r,rfl,h1⟩,h2⟩;exact⟨⟨r,rfl,h1⟩,h2⟩
end
end Go.Proofs.YtmgndgpgngcgpaaGreatDoor.Con
namespace Go.Kt
open Go Go.RowKit Go.MapKept
structure W2 {κ:Type} (d:TypeDesc) (kv:κ->aw) (g:κ->Prop):Prop where
 is:∀k,IsKey d (kv k)
 inj:∀{k l},kv k=kv l->k=l
structure MapV {κ:Type} (kv:κ->aw) (g:κ->Prop) (w:av) (r:Nat) (m:κ->Option aw) (n:Nat):Prop where
 mem:∃es clock,w.heap[r]? =some (.map es clock)/\Stamped es clock/\es.size<=n/\(∀x,x∈es.toList->∃k,x.key=kv k/\g k)/\
  ∀k v,m k=some v↔∃x,x∈es.toList/\x.key=kv k/\x.val=v
section
variable {κ:Type} {d:TypeDesc} {kv:κ->aw} {g:κ->Prop} {P:Program} {w w':av} {r n:Nat} {m:κ->Option aw} {mty kt et:TypeId}
theorem MapV.keep(h:MapV kv g w r m n)(hk:w'.heap[r]? =w.heap[r]?):MapV kv g w' r m n:=by
 obtain⟨es,c,h1,h2⟩:=h.mem;exact⟨es,c,hk.trans h1,h2⟩
theorem MapV.le(h:MapV kv g w r m n){n'}(hn:n<=n'):MapV kv g w r m n':=by
 obtain⟨es,c,h1,h2,h3,h4⟩:=h.mem;exact⟨es,c,h1,h2,bB h3 hn,h4⟩
theorem MapV.lt(h:MapV kv g w r m n):r<w.heap.size:=by
 obtain⟨es,c,h1,h2⟩:=h.mem;exact(mz.1 h1).1
theorem MapV.only(h:MapV kv g w r m n){bs}(hO:Only bs w w')(hn:r∉bs):MapV kv g w' r m n:=h.keep (hO.block r h.lt hn)
theorem MapV.ext(h:MapV kv g w r m n){m'}(he:∀k,m' k=m k):MapV kv g w r m' n:=by
 obtain⟨es,c,h1,h2,h3,h4,h5⟩:=h.mem;exact⟨es,c,h1,h2,h3,h4,λk v=>by rw[he,h5]⟩
theorem MapV.make w:(Instr.makeMap mty none).run P w=.ok (.map (some w.heap.size)) (w.alloc (.map #[] 0))/\MapV kv g (w.alloc (.map #[] 0)) w.heap.size (λ_=>none) 0/\Only [] w (w.alloc (.map #[] 0)):=
 ⟨rfl,⟨#[],0,heap_alloc_new w _,stamped_empty 0,aM,aM,aM⟩,Only.alloc _ _⟩
theorem X7(K:W2 d kv g){es:Array MapEntry}(h:∀x,x∈es.toList->∃k,x.key=kv k/\g k):∀x∈es.toList,IsKey d x.key:=λx hx=>by
 obtain⟨k,e,_⟩:=h x hx;rw[e];exact K.is k
variable [DecidableEq κ]
theorem MapV.update(K:W2 d kv g)(hm:P.underlying mty=some (.map kt et))(hd:P.underlying kt=some d)(h:MapV kv g w r m n){k}(hg:g k) v:
  ∃w',(Instr.mapUpdate mty (.map (some r)) (kv k) v).run P w=.ok () w'/\MapV kv g w' r (λx=>if x=k then some v else m x) (if m k=none then n+1 else n)/\Only [r] w w':=by
 obtain⟨es,c,h1,h0,hn,h2,h4⟩:=h.mem;have fin:∀{es':Array MapEntry} {c' n':Nat},Stamped es' c'->es'.size<=n'->(∀x,x∈es'.toList->∃k,x.key=kv k/\g k)->
   (∀k' v',(∃x,x∈es'.toList/\x.key=kv k'/\x.val=v')↔(k'=k/\v'=v)∨(k'≠k/\m k'=some v'))->∀w',w'.heap[r]? =some (.map es' c')->MapV kv g w' r (λx=>if x=k then some v else m x) n':=by
  intro es' c' n' e0 en e1 e3 w' hw;refine⟨es',c',hw,e0,en,e1,λk' v'=>?_⟩;rw[e3];by_cases Iq:k'=k
  ·simp[Iq,wH,bq,true_and,ne_eq,not_true_eq_false,false_and,cb];exact⟨λh=>h.symm,λh=>h.symm⟩
  simp[aQ Iq,Iq,false_and,false_or,ne_eq,not_false_eq_true,true_and,jf]
 rcases findNow_spec (K.is k) es.toList 0 (X7 K h2)with⟨g1,g2⟩ | ⟨j,e,g1,g2,g3⟩
 ·have W3:m k=none:=by
   cases hq:m k with
   | none=>rfl
   | some v=>
    obtain⟨x,hx,hk,_⟩:=(h4 k v).1 hq;exact absurd hk (g2 x hx)
  rw[aV W3];refine⟨{w with heap:=w.heap.setIfInBounds r (.map (es.push {key:=kv k,val:=v,born:=c}) _)},?_,fin (stamped_push h0 g2) aaf ?_ ?_ _ (heap_set h1).1,Gp h1⟩
  ·simp[Instr.mapUpdate,run_underlying hm,MapKept.run_getObj_map h1,MapKept.run_checkKey hd (K.is k),MapKept.run_findKey hd g1,MapKept.run_setObj_map _ h1,Result.andThen]
  ·intro x hx;simp only[Array.toList_push,cu,aO]at hx;rcases hx with hx | rfl
   ·exact h2 x hx
   exact⟨k,rfl,hg⟩
  intro k' v';simp only[Array.toList_push,cu,aO];constructor
  ·rintro⟨x,hx | rfl,e1,e2⟩
   ·exact .inr ⟨λh=>g2 x hx (by rw[e1,h]),(h4 k' v').2 ⟨x,hx,e1,e2⟩⟩
   exact .inl ⟨(K.inj e1).symm,e2.symm⟩
  rintro(⟨rfl,rfl⟩ | ⟨hn,h⟩)
  ·exact⟨_,.inr rfl,rfl,rfl⟩
  obtain⟨x,hx,e1,e2⟩:=(h4 k' v').1 h;exact⟨x,.inl hx,e1,e2⟩
 have hj:=by simpa using g2
 have vm:=(bc.1 g2).1;have W3:m k≠none:=by rw[(h4 k e.val).2 ⟨e,bh g2,g3,rfl⟩];simp
 rw[aQ W3];refine⟨{w with heap:=w.heap.setIfInBounds r _},?_,
  fin (stamped_modify h0 j (λe=>{e with key:=kv k,val:=v}) (λ_ _=>rfl) (λe' _ he=>by rw[hj]at he;injection he with he;rw[<-he];exact g3.symm)) acM ?_ ?_ _ (heap_set h1).1,Gp h1⟩
 ·simp[Instr.mapUpdate,run_underlying hm,MapKept.run_getObj_map h1,MapKept.run_checkKey hd (K.is k),MapKept.run_findKey hd g1,hj,g3,MapKept.run_keyThatStays (K.is k),MapKept.run_setObj_map _ h1,Result.andThen]
 all_goals rw[Array.toList_modify,I1 g2]
 ·intro x hx;rcases List.mem_or_eq_of_mem_set hx with hx | rfl
  ·exact h2 x hx
  exact⟨k,rfl,hg⟩
 intro k' v';constructor
 ·rintro⟨x,hx,e1,e2⟩;obtain⟨i,hi⟩:=gz hx;rw[KK]at hi;split at hi
  ·injection hi with hi;rw[<-hi]at e1 e2;exact .inl ⟨(K.inj e1).symm,e2.symm⟩
  rename_i wG;by_cases Iq:k'=k
  ·have Uu:=(bc.1 hi).1;have ii:=List.pairwise_iff_getElem.1 ((stamped_iff _ _).1 h0).2.2;have ex:=(bc.1 hi).2;have ee:=(bc.1 g2).2;exfalso;rcases Nat.lt_or_gt_of_ne wG with bT | W4
   ·exact ii j i vm Uu bT (by rw[ee,ex,g3,e1,Iq])
   exact ii i j Uu vm W4 (by rw[ee,ex,g3,e1,Iq])
  exact .inr ⟨Iq,(h4 k' v').2 ⟨x,bh hi,e1,e2⟩⟩
 rintro(⟨rfl,rfl⟩ | ⟨hn,h⟩)
 ·exact⟨_,List.mem_set vm _,rfl,rfl⟩
 obtain⟨x,hx,e1,e2⟩:=(h4 k' v').1 h;obtain⟨i,hi⟩:=gz hx;refine⟨x,bh (i:=i) ?_,e1,e2⟩;rw[List.getElem?_set_ne]
 ·exact hi
 rintro rfl;rw[g2]at hi;injection hi with hi;rw[<-hi,g3]at e1;exact hn (K.inj e1).symm
end
abbrev kS(s:List UInt8):aw:=.string ⟨s.toArray⟩
abbrev gS(s:List UInt8):Prop:=s.length<=maxLen
theorem agt:W2 .string kS gS:=⟨λ_=>trivial,λh=>abb⟩
abbrev kN(k:Int):aw:=.int .i64 k
section
variable {κ:Type} {d:TypeDesc} {kv:κ->aw} {g:κ->Prop} {P:Program} {w w':av} {r n:Nat} {m:κ->Option aw} {mty kt et:TypeId}
theorem MapV.Wp(K:W2 d kv g)(hm:P.underlying mty=some (.map kt et))(hd:P.underlying kt=some d){z:aw}(hz:∀w,(zeroValue et).run P w=.ok z w)(h:MapV kv g w r m n)(k:κ):
  (Instr.lookup mty (.map (some r)) (kv k) true).run P w=.ok (.tuple #[(m k).getD z,.bool (m k).isSome]) w:=by
 obtain⟨es,c,h1,h0,hn,h2,h4⟩:=h.mem;rcases findNow_spec (K.is k) es.toList 0 (X7 K h2)with⟨g1,g2⟩ | ⟨j,e,g1,g2,g3⟩
 ·have hn:m k=none:=by
   cases W3:m k with
   | none=>rfl
   | some v=>
    obtain⟨x,hx,hk,_⟩:=(h4 k v).1 W3;exact absurd hk (g2 x hx)
  simp[Instr.lookup,run_underlying hm,MapKept.run_getObj_map h1,MapKept.run_checkKey hd (K.is k),MapKept.run_findKey hd g1,Result.andThen,hz,hn]
 have he:=bh g2;have W3:m k=some e.val:=(h4 k e.val).2 ⟨e,he,g3,rfl⟩;simp[Instr.lookup,run_underlying hm,MapKept.run_getObj_map h1,MapKept.run_checkKey hd (K.is k),MapKept.run_findKey hd g1,Result.andThen,W3]
end
end Go.Kt
namespace Go.Proofs.YtmgndgpgngcgpaaGreatDoor.Con
open Go Go.RowKit Go.Kt Go.Kt.V Go.Proofs.YtmgndgpgngcgpaaGreatDoor.Vc
def mI(l:List (aH)):aH->Option aw:=λk=>if wh k l<l.length then some (.int U (wh k l:Nat))else none
theorem Mq(l:List (aH))(x k:aH):mI (l++[x]) k=if x∈l then mI l k else if k=x then some (.int U (l.length:Nat))else mI l k:=by
 unfold mI;rw[aN,br];by_cases hk:k∈l
 ·have h1:=nP.2 hk;rw[E9 [x] hk,aV aE,aV h1];by_cases hx:x∈l
  ·rw[aV hx]
  rw[aQ hx,aQ λe=>hx ab8]
 have h1:¬wh k l<l.length:=λh=>hk (nP.1 h);rw[aQ h1];by_cases e:k=x
 ·subst e;rw[aQ hk,aV rfl,Fa [] hk,aV aE]
 have:¬wh k (l++[x])<(l++[x]).length:=λh=>by
  have:=nP.1 h;rw[cu,aO]at this;exact this.elim hk e
 rw[aN,br]at this;rw[aQ this,aQ e];split<;>rfl
theorem VY(l:List (aH))(k:aH):(mI l k).isSome=decide (k∈l):=by
 unfold mI;by_cases hk:k∈l
 ·rw[aV (nP.2 hk),bE hk];rfl
 rw[aQ λh=>hk (nP.1 h),bA hk];rfl
abbrev Ub(w:av)(r:Nat)(l:List (aH)):Prop:=MapV kS gS w r (mI l) l.length
theorem Ub.at{w:av}{r:Nat}{l:List (aH)}(h:Ub w r l)(k:aH):(Instr.lookup 54 (.map (some r)) (ab (T k)) true).run aq w=.ok (ai #[O U (if wh k l<l.length then(wh k l:Nat)else 0:Int),aj (decide (k∈l))]) w:=by
 have:=h.Wp (P:=aq) (mty:=54) (kt:=9) (et:=3) (z:=O U 0) agt (by kernel_rfl) (by kernel_rfl) (λw=>Tryz.zeroValue3 w) k;rw[VY]at this;rw[this];unfold mI;split<;>rfl
theorem Ub.add{w:av}{r:Nat}{l:List (aH)}(h:Ub w r l){x:aH}(hx:gS x)(hn:x∉l):
  ∃w',(Instr.mapUpdate 54 (.map (some r)) (ab (T x)) (O U (l.length:Nat))).run aq w=.ok () w'/\Ub w' r (l++[x])/\ay [r] w w':=by
 obtain⟨w',h1,h2,h3⟩:=h.update (P:=aq) (mty:=54) (kt:=9) (et:=3) agt (by kernel_rfl) (by kernel_rfl) hx (O U (l.length:Nat));refine⟨w',h1,(h2.ext λk=>?_).le ?_,h3⟩
 ·rw[Mq,aQ hn]
 rw[aN,br];split<;>omega
theorem Ub.has{w:av}{r:Nat}{l:List (aH)}(h:Ub w r l){x:aH}(hx:x∈l):Ub w r (l++[x]):=by
 refine(h.ext λk=>?_).le abD;rw[Mq,aV hx]
structure Lo (w:av) (b m0 m1:Nat) (s:Sl) (nn vn:List (aH)) (f:Ft):Prop where
 blk:aF w b 56 [.map (some m0),s.v,.map (some m1),O U f.1,O U f.2]
 nm:Ub w m0 nn
 vr:Ub w m1 vn
 n0:m0<m1
 n1:m1<b
section
variable {w w':av} {b m0 m1:Nat} {s:Sl} {nn vn:List (aH)} {f:Ft}
theorem Lo.only(h:Lo w b m0 m1 s nn vn f){bs:List Nat}(hO:ay bs w w')(h0:b∉bs)(h1:m0∉bs)(h2:m1∉bs):Lo w' b m0 m1 s nn vn f:=⟨hO.blk h.blk h0,h.nm.only hO h1,h.vr.only hO h2,h.n0,h.n1⟩
theorem Lo.o0(h:Lo w b m0 m1 s nn vn f)(hO:ay [] w w'):Lo w' b m0 m1 s nn vn f:=h.only hO aM aM aM
theorem Lo.jX(h:Lo w b m0 m1 s nn vn f)(hO:ay [b] w w'){s':Sl}{f':Ft}(hB:aF w' b 56 [.map (some m0),s'.v,.map (some m1),O U f'.1,O U f'.2]):Lo w' b m0 m1 s' nn vn f':=
 ⟨hB,h.nm.only hO (by have:=h.n0;have:=h.n1;simp;omega),h.vr.only hO (by have:=h.n1;simp;omega),h.n0,h.n1⟩
theorem Lo.lt(h:Lo w b m0 m1 s nn vn f):b<w.heap.size:=h.blk.lt
theorem An(w:av)(k:Int):az aq 72 #[O U k] w λe w'=>e=ak (aj (gK k))/\w'=w:=by
 refine ret (alQ _ _ _ ?_);refine⟨?_,rfl⟩;unfold gK;rw[show((k==3)||(k==4))=decide (k=3∨k=4) by rw[bH];simp]
theorem Fc(h:Lo w b m0 m1 s nn vn f)(ok:Bool)(e a:Int):az aq 35 #[ae (some ⟨b,0,none⟩),aj ok,O U e,O U a] w λr w'=>r=ak (ai #[])/\Lo w' b m0 m1 s nn vn (ix f (bad ok e a))/\ay [b] w w':=by
 refine ret (alN _ _ _ _ _ _ ?_);rw[VO];refine⟨f.1,λ_=>Blk.dN h.blk 3 rfl,λhc=>⟨b,3,_,_,rfl,h.blk,aM,λw0 hO hB=>⟨rfl,?_,hO⟩⟩,λhc=>⟨rfl,?_,Only.refl _ _⟩⟩
 ·rw[aV hc];exact h.jX hO hB
 rw[aQ (by rw[hc];decide)];exact h
theorem RA(h:Lo w b m0 m1 s nn vn f){x:aH}(hx:gS x)(a:Int):az aq 17 #[ae (some ⟨b,0,none⟩),.map (some m0),ab (T x),O U (nn.length:Nat),O U a] w λr w'=>r=ak (ai #[])/\Lo w' b m0 m1 s (nn++[x]) vn (ix f (bad (!decide (x∈nn)) 24 a))/\ay [b,m0] w w':=by
 refine ret (afV _ _ _ _ _ _ _ ?_);refine⟨_,_,w,h.nm.at x,(Fc h _ 24 a).mono ?_⟩;rintro _ w1 ⟨rfl,h1,cn⟩;refine⟨rfl,λhc=>?_,λhc=>?_⟩
 ·obtain⟨w2,u1,u2,u3⟩:=h1.nm.add hx aax;refine⟨w2,u1,rfl,⟨u3.blk h1.blk (by have:=h.n0;have:=h.n1;simp;omega),u2,h1.vr.only u3 (by have:=h.n0;simp;omega),h.n0,h.n1⟩,(cn.weaken (bs':=[b,m0]) (λx hx=>.inl abB)).trans u3 λx hx=>.inl abB⟩
 exact⟨rfl,⟨h1.blk,h1.nm.has aax,h1.vr,h.n0,h.n1⟩,cn.weaken λx hx=>.inl abB⟩
theorem RB(h:Lo w b m0 m1 s nn vn f){x:aH}(hx:gS x)(a:Int):az aq 17 #[ae (some ⟨b,0,none⟩),.map (some m1),ab (T x),O U (vn.length:Nat),O U a] w λr w'=>r=ak (ai #[])/\Lo w' b m0 m1 s nn (vn++[x]) (ix f (bad (!decide (x∈vn)) 24 a))/\ay [b,m1] w w':=by
 refine ret (afV _ _ _ _ _ _ _ ?_);refine⟨_,_,w,h.vr.at x,(Fc h _ 24 a).mono ?_⟩;rintro _ w1 ⟨rfl,h1,cn⟩;refine⟨rfl,λhc=>?_,λhc=>?_⟩
 ·obtain⟨w2,u1,u2,u3⟩:=h1.vr.add hx aax;refine⟨w2,u1,rfl,⟨u3.blk h1.blk (by have:=h.n1;simp;omega),h1.nm.only u3 (by have:=h.n0;simp;omega),u2,h.n0,h.n1⟩,(cn.weaken (bs':=[b,m1]) (λx hx=>.inl abB)).trans u3 λx hx=>.inl abB⟩
 exact⟨rfl,⟨h1.blk,h1.nm,h1.vr.has aax,h.n0,h.n1⟩,cn.weaken λx hx=>.inl abB⟩
end
def JB(P:aJ)(s:Sl)(w:av)(s':Sl)(w':av):Prop:=aD (λk=>P k∨s.a=some ⟨k,0,none⟩) w w'/\∀k,s'.a=some ⟨k,0,none⟩->s.a=some ⟨k,0,none⟩∨w.heap.size<=k
theorem JB.trans{P:aJ}{s t u:Sl}{w w' sR:av}(h:JB P s w t w')(g:JB P t w' u sR):JB P s w u sR:=by
 refine⟨h.1.trans g.1 λk hk=>?_,λk hk=>?_⟩
 ·rcases hk with hk | hk
  ·exact .inl (.inl hk)
  exact(h.2 k hk).elim (λh=>.inl (.inr h)) .inr
 rcases g.2 k hk with hk | hk
 ·exact h.2 k hk
 exact .inr (bB h.1.size hk)
theorem JB.of{P:aJ}{s:Sl}{w w':av}{bs:List Nat}(hO:ay bs w w')(hb:∀k,k∈bs->P k):JB P s w s w':=⟨hO.p λk hk=>.inl (.inl (hb k hk)),λk hk=>.inl hk⟩
def X8:gv:=⟨0,[],0,0,0⟩
theorem RC:∀(D:Nat) {w:av} {F:aJ} {x:Nd} {cs:aI} {b m0 m1:Nat} {s:Sl} {nn vn:List (aH)} {f:Ft},kj false D w F x cs->(∀k,F k->k<m0)->Lo w b m0 m1 s nn vn f->fQ (b+1) w s (List.replicate nn.length X8)->
  lQ x<=8388608->nn.length+jk x<=1000000->
  az aq 16 #[ae (some ⟨b,0,none⟩),ah cs.toArray] w λe w'=>e=ak (ai #[])/\∃s',Lo w' b m0 m1 s' (nn++(xT x).map λp=>p.1) vn (ix f (tn nn (xT x)))/\fQ (b+1) w' s' (List.replicate (nn.length+jk x) X8)/\JB (λk=>k=b∨k=m0) s w s' w'
 | 0,_,_,_,_,_,_,_,_,_,_,_,h,_,_,_,_,_=>h.elim
 | D+1,w,F,.mk bb ks,cs,b,m0,m1,s,nn,vn,f,⟨en,lv,mv,kids,iC,_,fO⟩,hF,hL,hS,hz,hn=>by
  have hk:=fO.1;clear fO;dsimp only[Nd.kids,Nd.b]at hk iC;subst iC;rw[jk]at hn;rw[lQ]at hz;have F7:=hk.len;have hnn:=rc ks;have n0:=hL.n0;have n1:=hL.n1;have YX:gS bb.nm:=by
   show bb.nm.length<=maxLen;have:maxLen=9223372036854775807:=rfl;unfold BN at hz;omega
  refine ret (alM _ _ _ _ _ _ _ _ _ _ _ _ ?_);intro k0 w0 fO dQ cf;have z0:=cf.size;have CK:=hL.lt;have hL0:=hL.o0 cf;have hS0:fQ (b+1) w0 s _:=hS.xN cf.p0 λ_ _ _ h=>h;have Ui:s.n=nn.length:=by rw[hS.len,List.length_replicate]
  have qC:s.a≠some ⟨k0,0,none⟩:=λe=>aa8
  refine⟨_,Blk.dN hL0.blk 0 rfl,s,Blk.dN hL0.blk 1 rfl,?_⟩;dsimp only;rw[Ui];refine(RA hL0 YX bb.a).mono ?_;rintro _ w1 ⟨rfl,hL1,cn⟩;have z1:=cn.size;have hS1:fQ (b+1) w1 s (List.replicate nn.length X8):=hS0.xN (G:=λk=>k=b∨k=m0) (cn.p λk hk=>.inl aaU) λk h _=>aE
  have m1':JB (λk=>k=b∨k=m0) s w s w1:=(JB.of cf aM).trans (JB.of cn aM);obtain⟨y,w2,k1,k3,s3,w3,g1,g2,⟨gs,g3,g4⟩,g5⟩:=lz (P:=aq) (t:=49) (ty:=49) (e:=70) (i:=Tryz.t70) (bytes:=48) (size:=5) (r:=yw) (G:=λ_=>False) (v:=ah #[O U 0,ab (ao #[]),O U 0,O U 0,O U 0]) (x:=X8) (by kernel_rfl) (by kernel_rfl) rfl rfl rfl rfl aL aL aL gy hS1 aE rfl rfl (λ_ h=>h.elim) (by rw[List.length_replicate];omega);have z2:=k3.size;have z3:=g3.size;have gb:∀g,g∈gs->b<g/\g<w1.heap.size/\s.a=some ⟨g,0,none⟩:=λg hg=>⟨by have:=(g4 g hg).2.1;omega,(g4 g hg).2.2,(g4 g hg).1⟩
  have hL3:Lo w3 b m0 m1 s (nn++[bb.nm]) vn _:=(hL1.o0 k3).only g3 (λh=>by have:=gb _ h;omega) (λh=>by have:=gb _ h;omega) (λh=>by have:=gb _ h;omega);refine⟨rfl,cn.same aaf,s,Blk.dN hL1.blk 1 rfl,y,w2,k1,k3.same aaf,s3,w3,g1,g3.same λx hx=>?_,b,1,_,_,rfl,hL3.blk,aM,aE,λw4 dw pN=>?_⟩
  ·simp only[aO]at hx;subst hx;exact⟨aE,λh=>qC (gb _ h).2.2⟩
  have z4:=dw.size;have hL4:Lo w4 b m0 m1 s3 (nn++[bb.nm]) vn (ix f (bad (!decide (bb.nm∈nn)) 24 bb.a)):=hL3.jX dw pN;have UC:fQ (b+1) w3 s3 (List.replicate (nn.length+1) X8):=by
   have:=fQ.of g2;rwa[<-List.replicate_succ']at this
  have hS4:fQ (b+1) w4 s3 (List.replicate (nn.length+1) X8):=UC.xN (G:=λk=>k=b) (dw.p aM) λk h _=>aE
  have m4:JB (λk=>k=b∨k=m0) s w s3 w4:=by
   refine m1'.trans ⟨((k3.vV (g3.p (F:=λk=>(k=b∨k=m0)∨s.a=some ⟨k,0,none⟩) λg hg=>.inl (.inr (gb g hg).2.2))).trans (dw.p (F:=λk=>k=b) aM) λk hk=>.inl (.inl (.inl hk))),λk hk=>?_⟩;rcases g5 with e | ⟨g,e,h⟩
   ·exact .inl ab8
   rw[e]at hk;injection hk with hk;injection hk with hk;exact .inr aE
  have n4:∀k,s3.a=some ⟨k,0,none⟩->k≠k0:=λk hk e=>by
   subst e;rcases g5 with e | ⟨g,e,h⟩
   ·exact qC ab8
   rw[e]at hk;injection hk with hk;injection hk with hk;omega
  have tu:∀{u:av} {q:Sl},JB (λk=>k=b∨k=m0) s w q u->aA (kj false D) 9 u F kids ks:=λhm=>SliceF.pA (bU false D) aL hk hm.1 λk hFk _=>by
   have:=hF k hFk;exact λh=>h.elim aE λh=>by have:=(hS.blk h).1;dsimp only at this;omega
  refine⟨λkv i w'=>∃(j:Nat) (q:Sl),i=(j:Int)/\kv+j=ks.length/\j<=ks.length/\Lo w' b m0 m1 q (nn++bb.nm::(vC (ks.take j)).map λp=>p.1) vn (ix f (tn nn ((bb.nm,bb.a)::vC (ks.take j))))/\fQ (b+1) w' q (List.replicate (nn.length+1+dD (ks.take j)) X8)/\JB (λk=>k=b∨k=m0) s w q w'/\w4.heap.size<=w'.heap.size/\∀k,q.a=some ⟨k,0,none⟩->k≠k0,ks.length,⟨0,s3,rfl,aE,be _,by
   rw[ci,vC,tn,tn,bD];exact hL4,by rw[ci,dD,fk];exact hS4,m4,aY _,n4⟩,?_⟩
  rintro kv _ w5 ⟨j,q,rfl,tw,vm,UB,Co,m5,z5,n5⟩;constructor
  ·intro hc;have hj:j<ks.length:=aaX
   obtain⟨y,hy⟩:∃y,ks[j]? =some y:=⟨_,bJ hj⟩
   obtain⟨ad,y',ds,a1,a2,a3,a4,a5,a6⟩:=(tu m5).get (aZ j) aE;rw[aX,hy]at a2;injection a2 with a2;subst a2;have Il:=a6;obtain⟨D',rfl⟩:∃D',D=D'+1:=by
    cases D with
    | zero=>exact a6.elim
    | succ D'=>exact⟨D',rfl⟩
   obtain⟨qA,qB,nR,gj,rfl,_⟩:=Il;have vW:=nq hy;have hzy:=mg (bh hy);have FT:(nn++bb.nm::(vC (ks.take j)).map λp=>p.1).length=nn.length+1+dD (ks.take j):=by
    rw[aN,aW,bN,Mf];omega
   refine⟨ad,a1,_,_,_,_,qA,qB,nR,gj,_,a5,λk6 w6 WL W0 dK=>?_⟩;have z6:=dK.size;have Uz:=UB.o0 dK;have M7:=UB.lt;refine(RC (D'+1) ((bU false (D'+1)).keep a6 λk _ bT=>dK.block k bT aM) hF Uz (by rw[FT];exact Co.xN dK.p0 λ_ _ _ h=>h) aE (by rw[FT];omega)).mono ?_;rintro _ w7 ⟨rfl,q7,UA,UD,m7⟩;have z7:=m7.1.size;have e:ks.take (j+1)=ks.take j++[y]:=agi
   have en1:vC (ks.take (j+1))=vC (ks.take j)++xT y:=by rw[e,E8,vC,vC,bD]
   refine⟨rfl,m7.1.same λx hx=>?_,kv-1,aE,j+1,q7,aaa,aE,aE,?_,?_,(m5.trans (JB.of dK aM)).trans m7,aE,λk hk e=>?_⟩
   ·simp only[ba,bp,cb]at hx;rcases hx with rfl | rfl
    ·exact⟨aE,λh=>h.elim aE λh=>n5 _ h rfl⟩
    refine⟨W0,λh=>h.elim aE λh=>?_⟩;have:=(Co.blk h).2;dsimp only at this;omega
   ·have e1:nn++bb.nm::(vC (ks.take (j+1))).map (λp=>p.1)=(nn++bb.nm::(vC (ks.take j)).map λp=>p.1)++(xT y).map λp=>p.1:=by
     rw[en1,cN,bf,bX]
    have e2:tn nn ((bb.nm,bb.a)::vC (ks.take (j+1)))=tn nn ((bb.nm,bb.a)::vC (ks.take j))++tn (nn++bb.nm::(vC (ks.take j)).map λp=>p.1) (xT y):=by
     rw[en1,<-bX,xy];rfl
    rw[e1,e2,fD];exact UA
   ·rw[FT]at UD;rw[e,xu,dD,dD,fk,<-eo];exact UD
   subst e;rcases m7.2 _ hk with h | h
   ·exact n5 _ h rfl
   omega
  intro hc;have kF:j=ks.length:=aa0
  subst kF;rw[bm (aY _)]at Co UB;refine⟨rfl,q,?_,?_,m5⟩
  ·rw[xT];exact UB
  rw[jk,show nn.length+(dD ks+1)=nn.length+1+dD ks by omega];exact Co
end Go.Proofs.YtmgndgpgngcgpaaGreatDoor.Con
namespace Go.Kt
open Go Go.RowKit
section
variable {P:Program} {w:av}
set_option maxRecDepth 20000 in
theorem xB {t it ty e:TypeId} {i:TypeInfo} {z:Value} (ht:P.underlying t=some (.slice e)) (hit:P.underlying it=some (.int .i64)) (hi:P.info? e=some i) (hz:i.zero=some z)
  {n:Nat} (Y3:0<n) (F1:0<i.size) (h63:n<=9223372036854775807) (OI:n*i.bytes<=281474976710656) (Kc:Builtin.nextslicecap n 0*i.bytes<=281474976710656):
  (Builtin.append_ #[t,it] ty #[.slice none 0 0,.int .i64 n]).run P w=
   .ok (.slice (some ⟨w.heap.size,0,none⟩) n (grownCap w n 0 e))
    (w.drew.alloc (.cells (Builtin.zeroCells z.cells n++Builtin.zeroCells z.cells (grownCap w n 0 e-n)) e)):=by
 have hn:¬(n<=0):=aE
 have aoG:¬(9223372036854775807<(n:Int)):=aE
 have aoH:¬(281474976710656<Builtin.nextslicecap n 0*i.bytes):=aE
 have hwr:IntKind.i64.wrap (n:Int)=n:=eY aE aE;have ol:¬(281474976710656<(n:Int)*(i.bytes:Int)):=by
  have:((n*i.bytes:Nat):Int)<=281474976710656:=Int.ofNat_le.2 OI;rw[Int.natCast_mul]at this;omega
 have W5:¬((n:Int)<0):=aE
 have ii:n≠0:=aE
 have Py:n*i.size≠0:=by have:=Nat.mul_pos Y3 F1;omega
 simp[Builtin.append_,run_underlying ht,run_underlying hit,sizeOf,typeInfo,zeroValue,hi,hz,asInt,asIntOf,hwr,W5,ol,ii,Py,aoG,aoH,Question.forced,run_firstCells_none,newRow,grownCap]
theorem RD{α:Type}{r:Rp α}{F:Nat->Prop}{size bytes:Nat}{t it ty e:TypeId}{i:TypeInfo}{z:aw}(ht:P.underlying t=some (.slice e))(hit:P.underlying it=some (.int .i64))(hi:P.info? e=some i)(hz:i.zero=some z)(og:i.size=size)(OI:i.bytes=bytes)(FI:z.cells.size=size)
  {n:Nat} (Y3:0<n) (h0:0<size) (hm:n*bytes<=140737488355328) (Aw:0<bytes):
  ∃s w',(Builtin.append_ #[t,it] ty #[.slice none 0 0,.int .i64 n]).run P w=.ok (Sl.v s) w'/\Own r size e w.heap.size w' F (s.cut 0 0 s.c size) []/\Only [] w w'/\s.a=some ⟨w.heap.size,0,none⟩:=by
 subst og;subst OI;have h63:n<=140737488355328:=bB (by have:=Nat.mul_le_mul_left n Aw;omega) hm;have hf:=(growslice_fits Y3 hm:Builtin.nextslicecap n 0*i.bytes<=281474976710656)
 refine⟨⟨some ⟨w.heap.size,0,none⟩,n,grownCap w n 0 e⟩,_,xB ht hit hi hz Y3 h0 aE aE hf,?_,(Only.drew w).ca (Only.alloc _ _),rfl⟩;have lR:=grownCap_ge w n 0 e;have vW:=grownCap_le_maxLen w n 0 e (by simp only[maxLen];omega);refine .inr ⟨w.heap.size,([]:List (List aw)),(Builtin.zeroCells z.cells n++Builtin.zeroCells z.cells (grownCap w n 0 e-n)).toList,?_,aY _,?_,?_,rfl,?_,?_,trivial⟩
 ·simp[Sl.cut,Addr.add]
 ·have:=Blk.alloc w.drew e (Builtin.zeroCells z.cells n++Builtin.zeroCells z.cells (grownCap w n 0 e-n)).toList;rw[Array.toArray_toList]at this;exact this
 ·rw[Array.toList_append,aN,wN w _ FI,wN w _ FI,<-eJ];simp only[Sl.cut];congr 1;omega
 ·simp[Sl.cut]
 simp only[Sl.cut];simp only[maxLen]at vW;omega
end
end Go.Kt
namespace Go.Proofs.YtmgndgpgngcgpaaGreatDoor.Con
open Go Go.RowKit Go.Kt Go.Kt.V Go.Proofs.YtmgndgpgngcgpaaGreatDoor.Vc
structure Lx (w:av) (b m0 m1:Nat) (F:aJ) (s:Sl) (xs:List gv) (vn:List (aH)) (f:Ft):Prop where
 lo:Lo w b m0 m1 s (xs.map λx:gv=>x.nm) vn f
 sp:aA yw 5 w F s xs
 fo:Fo xs
 ln:xs.length<=64
 nF:∀k,F k->k≠b
section
variable {w w':av} {b m0 m1:Nat} {F G:aJ} {s:Sl} {xs:List gv} {vn:List (aH)} {f g:Ft}
theorem Lx.o0(h:Lx w b m0 m1 F s xs vn f)(hO:ay [] w w'):Lx w' b m0 m1 F s xs vn f:=⟨h.lo.o0 hO,SliceF.only gy aL h.sp hO aM,h.fo,h.ln,h.nF⟩
theorem Lx.to(h:Lx w b m0 m1 F s xs vn f)(hO:ay [b] w w')(hl:Lo w' b m0 m1 s (xs.map λx:gv=>x.nm) vn g):Lx w' b m0 m1 F s xs vn g:=
 ⟨hl,SliceF.only gy aL h.sp hO λk hk _ hm=>h.nF k hk aa3,h.fo,h.ln,h.nF⟩
theorem mj(h:Lx w b m0 m1 F s xs vn f)(ok:Bool)(e a:Int):az aq 35 #[ae (some ⟨b,0,none⟩),aj ok,O U e,O U a] w λr w'=>r=ak (ai #[])/\Lx w' b m0 m1 F s xs vn (ix f (bad ok e a))/\ay [b] w w':=by
 refine(Fc h.lo ok e a).mono ?_;rintro _ w' ⟨rfl,h1,hO⟩;exact⟨rfl,h.to hO h1,hO⟩
theorem Hx(xs:List gv)(n:aH):gf xs n= -1∨∃j:Nat,gf xs n=j/\j<xs.length:=by
 rcases ky xs n with⟨h,_⟩ | ⟨j,x,h,hx,_⟩
 ·exact .inl h
 exact .inr ⟨j,h,tZ hx⟩
theorem Fe(h:Lx w b m0 m1 F s xs vn f)(n:aH):az aq 73 #[.map (some m0),ab (T n)] w λr w'=>r=ak (O U (gf xs n))/\w'=w:=by
 refine ret (alR _ _ _ _ ?_);refine⟨_,_,w,h.lo.nm.at n,λhb=>⟨?_,rfl⟩,λhb=>⟨?_,rfl⟩⟩
 ·have hl:=nP.2 (aR hb);unfold gf;rw[aV hl,aV (by rwa[bN]at hl)]
 have hl:¬_:=λh=>aU hb (nP.1 h);unfold gf;rw[aQ (by rwa[bN]at hl)]
theorem Hy(h:Lx w b m0 m1 F s xs vn f){n:Int}(hn:n<xs.length):az aq 74 #[ae (some ⟨b,0,none⟩),O U n] w λr w'=>r=ak (aj (decide (0<=n)&&!gK (ua xs n)))/\w'=w:=by
 refine ret (alS _ _ _ _ ?_);refine⟨λr w'=>r=(decide (0<=n)&&!gK (ua xs n))/\w'=w,λr w' ⟨h1,h2⟩=>⟨by rw[h1],h2⟩,λhc=>?_,λhc=>⟨?_,rfl⟩⟩
 ·have hc:0<=n:=aR hc;obtain⟨j,rfl⟩:∃j:Nat,n=j:=⟨n.toNat,aE⟩
  obtain⟨x,hx⟩:=lh (xs:=xs) (i:=j) aE;obtain⟨ad,a1,a2,_⟩:=od h.sp hx;refine⟨s,Blk.dN h.lo.blk 1 rfl,ad,a1,x.k,a2.dN 0 _ rfl,(An w x.k).mono ?_⟩;rintro _ w1 ⟨rfl,hu⟩;refine⟨_,rfl,?_,hu⟩;rw[jO hx,bE hc];rfl
 rw[show decide (0<=n)=false from hc];rfl
theorem Ff{b k0:Nat}(hO:ay [b] w w')(h:k0≠b):bR (λk=>k=k0) w w':=λk hk bT=>hO.block k bT (by subst hk;simp[h])
theorem uh{b:Nat}{u v:av}(h:ay [b] w u)(g:ay [b] u v):ay [b] w v:=h.trans g λx hx=>.inl hx
theorem zJ{b:Nat}(h:ay [] w w'):ay [b] w w':=h.weaken λx hx=>(by simp at hx)
theorem Fg:∀(d:Nat) {w:av} {x:Ex} {cs:aI} {f:Ft},Jn false d w G x cs->(∀k,G k->k≠b)->Lx w b m0 m1 F s xs vn f->
  az aq 38 #[ae (some ⟨b,0,none⟩),ah cs.toArray] w λr w'=>r=ak (ai #[])/\Lx w' b m0 m1 F s xs vn (ix f (Pa xs vn x))/\ay [b] w w'
 | 0,_,_,_,_,h,_,_=>h.elim
 | d+1,w,x,cs,f,⟨sl,iC,pH⟩,hG,h=>by
  subst iC;have pH:=pH.1;refine ret (alU _ _ _ _ _ _ _ _ _ ?_);intro k0 w0 fO dQ cf;have z0:=cf.size;have CK:=h.lo.lt;have h0:=h.o0 cf;have FT:=pH.len;have hcp:=pH.cap;have OQ:=pH.big;have wC:k0≠b:=aE
  refine⟨λu=>Lx u b m0 m1 F s xs vn (ix f (bad (Iz xs vn x.k x.s) 23 x.a))/\ay [b] w u/\w0.heap.size<=u.heap.size,?_,λhk=>?_,λhk=>⟨λyS=>?_,λyS=>?_⟩⟩
  ·rintro w1 ⟨h1,o1,z1⟩;refine⟨λkv i u=>∃j:Nat,i=(j:Int)/\kv+j=x.dh.length/\j<=x.dh.length/\Lx u b m0 m1 F s xs vn (ix f (bad (Iz xs vn x.k x.s) 23 x.a++ub xs vn (x.dh.take j)))/\ay [b] w u/\w0.heap.size<=u.heap.size,x.dh.length,⟨0,rfl,rfl,be _,by rw[ci,ub,bD];exact h1,o1,z1⟩,?_⟩;rintro kv _ w2 ⟨j,rfl,tw,hj,h2,o2,z2⟩;refine⟨λhc=>?_,λhc=>?_⟩
   ·have hc:=aR hc;have Ku:aA (Jn false d) 6 w2 G sl x.dh:=SliceF.only (kw false d) aL pH o2 λk hk _ hm=>hG k hk aa3;obtain⟨ad,y,ds,a1,a2,a3,a4,a5,a6⟩:=Ku.get (aZ j) aE;rw[aX]at a2;have Il:=a6;obtain⟨d',rfl⟩:∃e,d=e+1:=by
     cases d with
     | zero=>exact a6.elim
     | succ e=>exact⟨e,rfl⟩
    obtain⟨sl',rfl,_⟩:=Il;refine⟨ad,a1,_,_,_,_,_,_,a5,λk3 w3 yS vI cT=>?_⟩;have z3:=cT.size;refine(Fg (d'+1) ((kw false (d'+1)).keep a6 λk hk bT=>cT.block k bT aM) hG (h2.o0 cT)).mono ?_;rintro _ w4 ⟨rfl,h4,dw⟩;have z4:=dw.size;have oo:x.dh.take (j+1)=x.dh.take j++[y]:=by rw[bn,a2];rfl
    have wx:=h2.lo.lt;refine⟨rfl,dw.same aaf,kv-1,aE,j+1,aaa,aE,aE,?_,(o2.ca cT).trans dw λx hx=>.inl hx,aE⟩;rw[oo,BP,ub,ub,bD,<-bf,fD];exact h4
   have hc:=aU hc;have kF:j=x.dh.length:=aE
   subst kF;rw[bm (aY _),<-Rs]at h2;exact⟨rfl,h2,o2⟩
  ·have hk:x.k=2:=aaU
   intro w5 dY;have z5:=dY.size;have h5:=h0.o0 dY;refine⟨_,Blk.dN h5.lo.blk 2 rfl,_,_,w5,h5.lo.vr.at x.s,bS.refl _ _,(mj h5 _ 23 x.a).mono ?_⟩;rintro _ w7 ⟨rfl,h7,fK⟩;have z7:=fK.size;refine⟨rfl,fK.same aaf,?_,uh (zJ (cf.ca dY)) fK,aE⟩;have:Iz xs vn x.k x.s=decide (x.s∈vn):=by unfold Iz;rw[hk];simp
   rw[this];exact h7
  ·have yS:x.k=3:=by simpa using yS
   intro w8 fj;have z8:=fj.size;have h8:=h0.o0 fj;refine⟨λk=>k=k0,_,Blk.dN h8.lo.blk 0 rfl,rfl,(Fe h8 x.s).mono ?_⟩;rintro _ w9 ⟨rfl,hu⟩;obtain rfl:w8=w9:=hu.symm;refine⟨_,rfl,bS.refl _ _,bR.refl _ _,(Hy h8 (by rcases Hx xs x.s with h | ⟨j,h,hl⟩<;>omega)).mono ?_⟩;rintro _ de ⟨rfl,hu⟩;obtain rfl:w8=de:=hu.symm;refine⟨_,rfl,bS.refl _ _,bR.refl _ _,(mj h8 _ 23 x.a).mono ?_⟩;rintro _ dz ⟨rfl,OW,dH⟩;have CR:=dH.size;refine⟨rfl,dH.same aaf,Ff dH wC,?_,uh (zJ (cf.ca fj)) dH,aE⟩;have:Iz xs vn x.k x.s=FZ xs x.s:=by unfold Iz;rw[yS];simp
   rw[this];exact OW
  have oT:x.k≠2:=aaU
  have yS:x.k≠3:=by simpa using yS
  have:Iz xs vn x.k x.s=true:=by unfold Iz;simp[oT,yS]
  rw[this];exact⟨h0,zJ cf,aY _⟩
end
def Hz:Rp Sl:=λ_ _ x cs=>cs=[x.v]
theorem se:Hz.Ok:=⟨λh _=>h,λh=>h,λh _=>h,λh=>by
 unfold Hz at h;subst h;intro v hv;simp only[aO]at hv;subst hv;rfl⟩
abbrev Dx(B:Nat)(w:av)(G:aJ)(s:Sl)(l:List Ac):Prop:=Own (mG false) 9 139 B w G s l
theorem VZ(w:av)(G:aJ){n:Nat}(hn:n<=20000000):az aq 123 #[Sl.nil.v,O U (n:Int)] w λe w'=>(∃s:Sl,e=ak s.v/\Dx w.heap.size w' G s [])/\ay [] w w':=by
 refine(afX Sl.nil n (λv w'=>(∃s:Sl,v=s.v/\Dx w.heap.size w' G s [])/\ay [] w w') w ?_).mono aa5;have e0:ar U ((n:Int)-(ar U ((Sl.nil.c:Int)-(Sl.nil.n:Int))))=n:=by
  show ar U ((n:Int)-(ar U (((0:Nat):Int)-((0:Nat):Int))))=n;rw[eY (x:=((0:Nat):Int)-((0:Nat):Int)) aE aE,eY aE aE];omega
 refine⟨λu=>w=u,?_,λhc=>?_,λ_=>rfl⟩
 ·rintro _ rfl;rw[e0];refine⟨λl u=>Dx w.heap.size u G l []/\ay [] w u,λl u h=>⟨⟨l,rfl,h.1⟩,h.2⟩,λhc=>?_,λhc=>⟨Own.nil _ _ _ _ _ _,Only.refl _ _⟩⟩;have hc:=aR hc;obtain⟨s,w2,g1,g2,g3,_⟩:=RD (P:=aq) (w:=w) (r:=mG false) (F:=G) (size:=9) (bytes:=104) (t:=23) (it:=3) (ty:=23) (e:=139) (i:=Tryz.t139) (n:=n) (by kernel_rfl) (by kernel_rfl) (by kernel_rfl) rfl rfl rfl rfl aE aL aE aL;exact⟨0,⟨rfl,aY _⟩,s,w2,g1,0,⟨rfl,be _⟩,g2,g3⟩
 have:=aR hc;omega
def nt(l:List (Sl×List Ac)):List Ac:=l.flatMap λp=>p.2
theorem u6{l:List (Sl×List Ac)}{j:Nat}{p:Sl×List Ac}(h:l[j]? =some p):nt (l.take (j+1))=nt (l.take j)++p.2:=by
 rw[bn,h];unfold nt;rw[gR];simp
theorem Mr{l:List (Sl×List Ac)}(j:Nat):(nt (l.take j)).length<=(nt l).length:=by
 have:nt l=nt (l.take j)++nt (l.drop j):=by
  unfold nt;rw[<-gR,dP]
 rw[this,aN];omega
theorem Oa{w:av}{rows:Sl}{F G:aJ}{l:List (Sl×List Ac)}(hR:aA Hz 1 w F rows (l.map λp=>p.1))(hA:∀p,p∈l->aA (mG false) 9 w G p.1 p.2)(hm:(nt l).length<=20000000):
  az aq 76 #[rows.v] w λe w'=>(∃s:Sl,e=ak s.v/\Dx w.heap.size w' (λk=>G k/\k<w.heap.size) s (nt l))/\ay [] w w':=by
 refine(afW rows (λv w'=>(∃s:Sl,v=s.v/\Dx w.heap.size w' (λk=>G k/\k<w.heap.size) s (nt l))/\ay [] w w') w ?_).mono aa5;have hrl:=hR.len;have hcp:=hR.cap;have OQ:=hR.big;rw[bN]at hrl;have row:∀{u:av} {j:Nat},ay [] w u->j<l.length->∃ad p,cR rows (j:Int) 1 ad/\l[j]? =some p/\aB u ad [p.1.v]/\aA (mG false) 9 u (λk=>G k/\k<w.heap.size) p.1 p.2:=fun{u j} hO hj=>by
  obtain⟨ad,y,ds,a1,a2,a3,a4,a5,a6⟩:=(SliceF.only se aL hR hO aM).get (aZ j) aE;rw[aX,cA,eE]at a2;obtain⟨p,hp,rfl⟩:=a2;have a6:ds=[p.1.v]:=a6;subst a6;exact⟨ad,p,a1,hp,a5,((hA p (bh hp)).inHeap (cy false) aL).keep (cy false) aL λk _ bT=>hO.block k bT aM⟩
 refine⟨λkv n i u=>∃j:Nat,i=(j:Int)/\n=((nt (l.take j)).length:Nat)/\kv+j=l.length/\j<=l.length/\w=u,l.length,⟨0,rfl,rfl,rfl,be _,rfl⟩,?_⟩;rintro kv _ _ _ ⟨j,rfl,rfl,tw,hj,rfl⟩;refine⟨λhc=>?_,λhc=>?_⟩
 ·have hc:=aR hc;obtain⟨ad,p,a1,a2,a3,a4⟩:=row (Only.refl _ _) (j:=j) aE;have WM:=a4.len;have vW:=Mr (l:=l) (j+1);rw[u6 a2,aN]at vW;have hw:ar U (((nt (l.take j)).length:Nat)+(p.1.n:Int))=((nt (l.take (j+1))).length:Nat):=by
   rw[eY aE aE,u6 a2,aN];omega
  refine⟨λn u=>n=((nt (l.take (j+1))).length:Nat)/\w=u,?_,ad,a1,p.1,a3,λhb=>?_,λ_=>⟨hw,rfl⟩⟩
  ·rintro _ _ ⟨rfl,rfl⟩;exact⟨kv-1,aE,j+1,aaa,rfl,aE,aE,rfl⟩
  have:=aR hb;rw[hw]at this;omega
 have hc:=aU hc;have kF:j=l.length:=aE
 subst kF;rw[bm (aY _)];refine(VZ w (λk=>G k/\k<w.heap.size) hm).mono ?_;rintro _ w2 ⟨⟨s,rfl,hS⟩,cH⟩;refine⟨s,rfl,λkv t i u=>∃j:Nat,i=(j:Int)/\kv+j=l.length/\j<=l.length/\Dx w.heap.size u (λk=>G k/\k<w.heap.size) t (nt (l.take j))/\ay [] w u,l.length,⟨0,rfl,rfl,be _,by rw[ci];exact hS,cH⟩,?_⟩;rintro kv t _ w3 ⟨j,rfl,tw,hj,hT,cT⟩;refine⟨λhc=>?_,λhc=>?_⟩
 ·have hc:=aR hc;obtain⟨ad,p,a1,a2,a3,a4⟩:=row cT (j:=j) aE;have vW:=Mr (l:=l) (j+1);rw[u6 a2,aN]at vW;obtain⟨t',w4,g1,g2,gs,g3,g4,_⟩:=pU (P:=aq) (t:=23) (ty:=23) (e:=139) (i:=Tryz.t139) (bytes:=104) (size:=9) (r:=mG false) (by kernel_rfl) (by kernel_rfl) rfl rfl rfl rfl (cy false) hT (a4.mono (cy false) λk hk=>⟨hk,λe=>by have:=(hT.blk e).1;dsimp only at this;omega⟩) cT.size aE aL;refine⟨ad,a1,p.1,a3,t',w4,g1,kv-1,aE,j+1,aaa,aE,aE,by rw[u6 a2];exact g2,cT.trans g3 λg hg=>.inr (g4 g hg).2.1⟩
 have hc:=aU hc;have kF:j=l.length:=aE
 subst kF;rw[bm (aY _)]at hT;exact⟨⟨t,rfl,hT⟩,cT⟩
section
variable {w w':av} {b m0 m1:Nat} {F G H:aJ} {s:Sl} {xs:List gv} {vn:List (aH)} {f g:Ft}
theorem Ms{rows:Sl}{l:List (Sl×List Ac)}(hR:aA Hz 1 w H rows (l.map λp=>p.1))(hA:∀p,p∈l->aA (mG false) 9 w G p.1 p.2)(hm:(nt l).length<=20000000)(hG:∀k,G k->k≠b)(h:Lx w b m0 m1 F s xs vn f):
  az aq 37 #[ae (some ⟨b,0,none⟩),rows.v] w λr w'=>r=ak (ai #[])/\Lx w' b m0 m1 F s xs vn (ix f (jV xs vn (nt l)))/\ay [b] w w':=by
 refine ret (alT _ _ _ _ ?_);refine(Oa hR hA hm).mono ?_;rintro _ w0 ⟨⟨t,rfl,hT⟩,cf⟩;have CK:=h.lo.lt;have z0:=cf.size;generalize nt l=al at*
 have htn:=hT.len;refine⟨t,rfl,λkv i u=>∃j:Nat,i=(j:Int)/\kv+j=al.length/\j<=al.length/\Lx u b m0 m1 F s xs vn (ix f (jV xs vn (al.take j)))/\ay [b] w0 u,al.length,⟨0,rfl,rfl,be _,by rw[ci];exact h.o0 cf,Only.refl _ _⟩,?_⟩;rintro kv _ w1 ⟨j,rfl,tw,hj,h1,cn⟩;have z1:=cn.size;refine⟨λhc=>?_,λhc=>?_⟩
 ·have hc:=aR hc;have hT1:aA (mG false) 9 w1 _ t al:=SliceF.only (cy false) aL (hT.slice (cy false)) cn λk hk _ hm=>by
   simp only[aO]at hm;rcases hk with hk | hk
   ·exact hG k hk.1 hm
   omega
  obtain⟨ad,y,ds,a1,a2,a3,a4,a5,a6⟩:=hT1.get (aZ j) aE;rw[aX]at a2;obtain⟨xc,rfl,hx⟩:=a6;obtain⟨sl,rfl⟩:=dX hx;have zr:=h1.lo.lt;refine⟨ad,a1,_,_,_,_,_,_,sl,_,_,a5,λk2 w2 oT nC cH=>?_⟩;have z2:=cH.size;have h2:=h1.o0 cH;have e1:jV xs vn (al.take (j+1))=jV xs vn (al.take j)++(bad (decide (y.k≠1)||decide (y.n∈vn)) 23 y.a++Pa xs vn y.x):=by
   rw[bn,a2];unfold jV;rw[gR];simp[acF]
  refine⟨λu=>Lx u b m0 m1 F s xs vn (ix f (jV xs vn (al.take j)++bad (decide (y.k≠1)||decide (y.n∈vn)) 23 y.a))/\ay [b] w2 u,?_,λhk w5 dY=>?_,λhk=>?_⟩
  ·rintro w3 ⟨h3,cT⟩;have z3:=cT.size;obtain⟨d,hxd⟩:=hx;have hfp:∀k,((G k/\k<w.heap.size)∨(w.heap.size<=k/\t.a=some ⟨k,0,none⟩))->k≠b:=λk hk=>hk.elim (λh=>hG k h.1) λh=>aE
   refine(Fg d ((kw false d).keep ((kw false d).keep hxd λk _ bT=>cH.block k bT aM) λk hk bT=>cT.block k bT (by simp;exact hfp k hk)) hfp h3).mono ?_;rintro _ w4 ⟨rfl,h4,dw⟩;have z4:=dw.size;refine⟨rfl,dw.same aaf,kv-1,aE,j+1,aaa,aE,aE,?_,uh (uh (cn.ca cH) cT) dw⟩;rw[e1,<-bf,fD];exact h4
  ·have hk:y.k=1:=aaU
   have z5:=dY.size;have h5:=h2.o0 dY;refine⟨_,Blk.dN h5.lo.blk 2 rfl,_,_,w5,h5.lo.vr.at y.n,bS.refl _ _,(mj h5 _ 23 y.a).mono ?_⟩;rintro _ w7 ⟨rfl,h7,fK⟩;have z7:=fK.size;refine⟨rfl,fK.same aaf,?_,uh (zJ dY) fK⟩;rw[fD,hk];exact h7
  have hk:y.k≠1:=aaU
  refine⟨?_,Only.refl _ _⟩;rw[fD,bE hk];exact h2
 have hc:=aU hc;have kF:j=al.length:=aE
 subst kF;rw[bm (aY _)]at h1;exact⟨rfl,h1,uh (zJ cf) cn⟩
end
theorem agu(u:av){a b:Int}(ha:wE a)(hb:wE b):∃y w1,(au 66 2 #[.mk 0 (O U a),.mk 1 (O U b)]).run aq u=.ok (Sl.v y) w1/\ay [] u w1/\aA qk 1 w1 (λ_=>True) y [a,b]:=by
 obtain⟨y,w1,k1,k2,k3,_⟩:=jZ (P:=aq) (t:=66) (e:=3) (i:=Tryz.t3) (z:=O U 0) (w:=u) (F:=λ_=>False) (vs:=[O U a,O U b]) (parts:=#[.mk 0 (O U a),.mk 1 (O U b)]) (len:=2) (xs:=[a,b]) (r:=qk) (size:=1) (by kernel_rfl) (by kernel_rfl) rfl rfl aL rfl rfl aL aL ly ⟨⟨rfl,rfl,ha⟩,⟨rfl,rfl,hb⟩,trivial⟩;exact⟨y,w1,k1,k3,(k2.slice ly).mono ly λ_ _=>trivial⟩
theorem fQ.sl{B:Nat}{w:av}{s:Sl}{xs:List gv}(h:fQ B w s xs):aA yw 5 w (λk=>B<=k) s xs:=(h.slice gy).mono gy λk hk=>hk.elim (λh=>h.elim) λh=>h.1
def tup(x:gv):Int×aH×Int×Int×Int:=(x.k,x.nm,x.pa,x.dp,x.en)
section
variable {w w':av} {b m0 m1:Nat} {F G:aJ} {s:Sl} {xs:List gv} {vn:List (aH)} {f g:Ft}
theorem yx{n:Int}(h:xS xs n)(hl:xs.length<=64):wE n:=⟨by have:=h.1;omega,by have:=h.2;omega⟩
theorem RE(h:Lx w b m0 m1 F s xs vn f){n o:Int}(hn:xS xs n)(ho:xS xs o):az aq 79 #[ae (some ⟨b,0,none⟩),O U n,O U o] w λr w'=>r=ak (aj (Md xs n o))/\ay [] w w':=by
 refine ret (alX _ _ _ _ _ ?_);obtain⟨y,w1,k1,k2,k3⟩:=agu w (yx hn h.ln) (yx ho h.ln);have h1:=h.o0 k2;refine⟨s,Blk.dN h.lo.blk 1 rfl,y,w1,k1,(aah h1.sp h.fo k3).mono ?_⟩;rintro _ w2 ⟨⟨r,rfl,hr⟩,cH⟩;have h2:=h1.o0 cH;have er:=h.fo.Wo hr hn ho;have TQ:=hr.aha aM λi hi=>by
  simp only[ba,bp,cb]at hi;rcases hi with rfl | rfl
  ·exact hn
  exact ho
 obtain⟨m,e,t1,_⟩:=TQ;obtain⟨k,_,x,hx,_⟩:=t1 n aM;obtain⟨ad,a1,a2,_⟩:=od h2.sp hx;subst e;refine⟨_,rfl,s,λ_=>Blk.dN h2.lo.blk 1 rfl,ad,λ_=>a1,x.k,λ_=>a2.dN 0 _ rfl,?_,k2.ca cH⟩;unfold Md;rw[<-er,jO hx];congr 1;rw[bH];simp
theorem aai{k0 k4:Nat}(h:Lx w b m0 m1 F s xs vn f){n o:Int}(hn:xS xs n)(ho:xS xs o)(h0:aF w k0 52 [ae (some ⟨b,0,none⟩)])(h4:aF w k4 3 [O U n]):
  az aq 78 #[O U o,ae (some ⟨k0,0,none⟩),ae (some ⟨k4,0,none⟩)] w λr w'=>r=ak (aj (!Md xs n o))/\ay [] w w':=by
 refine ret (alW _ _ _ _ _ ?_);refine⟨_,h0.cells 0 [_] λj v hj=>adI,_,h4.cells 0 [_] λj v hj=>adI,(RE h hn ho).mono ?_⟩;rintro _ w1 ⟨rfl,hO⟩;exact⟨_,rfl,rfl,hO⟩
theorem aaj{k0 k4:Nat}(h:Lx w b m0 m1 F s xs vn f){n:Int}(hn:xS xs n){sN:Sl}{ns:List Int}(hN:aA qk 1 w G sN ns)(Px:∀o,o∈ns->xS xs o)(h0:aF w k0 52 [ae (some ⟨b,0,none⟩)])(h4:aF w k4 3 [O U n]):
  az aq 77 #[sN.v,.func (.func 78) #[] #[ae (some ⟨k0,0,none⟩),ae (some ⟨k4,0,none⟩)]] w λr w'=>r=ak (aj (ns.any λo=>!Md xs n o))/\ay [] w w':=by
 refine ret (XF sN ⟨.func (.func 78) #[] #[ae (some ⟨k0,0,none⟩),ae (some ⟨k4,0,none⟩)],rfl⟩ (λv w'=>v=aj (ns.any λo=>!Md xs n o)/\ay [] w w') w ?_);refine(XG sN ⟨.func (.func 78) #[] #[ae (some ⟨k0,0,none⟩),ae (some ⟨k4,0,none⟩)],rfl⟩ (λv w'=>(∃i:Int,v=O U i/\decide (i>=0)=ns.any λo=>!Md xs n o)/\ay [] w w') w ?_).mono (by
  rintro _ w' ⟨v,rfl,⟨i,rfl,hi⟩,hO⟩;exact⟨i,rfl,by rw[hi],hO⟩)
 have hl:=hN.len;have PB:=hN.cap;have Aw:=hN.big;refine⟨λkv i u=>∃j:Nat,i=(j:Int)/\kv+j=ns.length/\j<=ns.length/\((ns.take j).any λo=>!Md xs n o)=false/\ay [] w u,ns.length,⟨0,rfl,aE,be _,rfl,Only.refl _ _⟩,?_⟩;rintro kv _ u ⟨j,rfl,tw,hj,hh,hO⟩;refine⟨λhc=>?_,λhc=>?_⟩
 ·have hc:=aR hc;obtain⟨ad,y,cs,g1,g2,g3,g4,g5,g6⟩:=(SliceF.only ly aL hN hO aM).get (aZ j) aE;rw[aX]at g2;obtain⟨rfl,hy⟩:=g6;have rD:=bh g2;refine⟨ad,g1,y,g5,78,[],[ae (some ⟨k0,0,none⟩),ae (some ⟨k4,0,none⟩)],rfl,kn (by kernel_rfl),(aai (h.o0 hO) hn (Px y rD) (hO.blk h0 aM) (hO.blk h4 aM)).mono ?_⟩;rintro _ u1 ⟨rfl,cn⟩;refine⟨_,rfl,λhb=>⟨⟨j,rfl,?_⟩,hO.ca cn⟩,λhb=>⟨kv-1,aE,j+1,aaa,aE,aE,?_,hO.ca cn⟩⟩
  ·rw[bE (by omega:(j:Int)>=0)];exact(List.any_eq_true.2 ⟨y,rD,hb⟩).symm
  rw[bn,g2,AE,hh];simpa using hb
 have hc:=aU hc;rw[bm aE]at hh;exact⟨⟨-1,rfl,by rw[hh];rfl⟩,hO⟩
theorem Mu(hF:Fo xs){n:aH}(h:¬gf xs n<1):xS xs (Dv xs n):=by
 rcases ky xs n with⟨e,_⟩ | ⟨j,x,e,hx,_⟩
 ·omega
 have hl:=tZ hx;unfold Dv;rw[e,jO hx,uc hx];split
 ·obtain⟨p,_,h1,h2,_⟩:=hF.par hx aE;exact⟨aE,aE⟩
 exact⟨aE,aE⟩
theorem ug.kp{B:Nat}{w w':av}{s:Sl}{l:List Int}(h:ug B w s l)(hO:ay [] w w'):ug B w' s l:=Own.keep ly h λk _ bT=>hO.block k bT aM
theorem X9(w0:av){u:av}{s:Sl}{is:List Int}(h:ug w0.heap.size u s is)(hO:ay [] w0 u)(n:Int)(hn:wE n)(hm:is.length<=20000000):
  ∃y w1,(au 66 1 #[.mk 0 (O U n)]).run aq u=.ok (Sl.v y) w1/\ay [] u w1/\∃s' w2,(Builtin.append_ #[66,66] 66 #[Sl.v s,Sl.v y]).run aq w1=.ok (Sl.v s') w2/\ug w0.heap.size w2 s' (is++[n])/\ay [] w0 w2/\w1.heap.size<=w2.heap.size/\
   (∀k,k<u.heap.size->s.a≠some ⟨k,0,none⟩->w2.heap[k]? =w1.heap[k]?)/\∀k,k<u.heap.size->s.a≠some ⟨k,0,none⟩->s'.a≠some ⟨k,0,none⟩:=by
 obtain⟨y,w1,k1,k3,s',w2,g1,g2,⟨gs,g3,g4⟩,g5⟩:=lz (P:=aq) (t:=66) (ty:=66) (e:=3) (i:=Tryz.t3) (bytes:=8) (size:=1) (r:=qk) (G:=λ_=>False) (v:=O U n) (x:=n) (by kernel_rfl) (by kernel_rfl) rfl rfl rfl rfl aL aL aL ly h hO.size rfl ⟨rfl,hn⟩ (λ_ h=>h.elim) aE;have z3:=k3.size;refine⟨y,w1,k1,k3,s',w2,g1,ug.of g2,((hO.ca k3).vV (g3.p (F:=λk=>w0.heap.size<=k) λg hg=>.inl (g4 g hg).2.1)).only λk hk=>hk,g3.size,λk hk hs=>g3.block k aE λhg=>hs (g4 k hg).1,λk hk hs e=>?_⟩;rcases g5 with e' | ⟨g,e',h⟩
 ·exact hs (by rw[<-e',e])
 rw[e']at e;injection e with e;injection e with e;omega
theorem HA(l:List Int)(n:aH)(r:List (aH)):Jz xs l (n::r)=if gf xs n<1 then false else if(l.any λo=>!Md xs (Dv xs n) o)=true then false else Jz xs (l++[Dv xs n]) r:=rfl
theorem JC(h:Lx w b m0 m1 F s xs vn f){sT:Sl}{tg:List (aH)}(hT:aA kb 1 w G sT tg)(hm:tg.length<=20000000):az aq 39 #[ae (some ⟨b,0,none⟩),sT.v] w λr w'=>r=ak (aj (Jz xs [] tg))/\ay [] w w':=by
 refine ret (alV _ _ _ _ ?_);intro k0 w0 fO dQ cf;have z0:=cf.size;have CK:=h.lo.lt;have htn:=hT.len;refine⟨λkv l i q u=>∃(j:Nat) (al:List Int),i=(j:Int)/\kv+j=tg.length/\j<=tg.length/\q=some ⟨b,0,none⟩/\ug w.heap.size u l al/\(∀o,o∈al->xS xs o)/\al.length<=j/\Jz xs [] tg=Jz xs al (tg.drop j)/\ay [] w u/\w0.heap.size<=u.heap.size/\l.a≠some ⟨k0,0,none⟩,tg.length,
  ⟨0,[],rfl,rfl,be _,rfl,Own.nil _ _ _ _ _ _,aM,aY _,rfl,cf,aY _,by intro e;cases e⟩,?_⟩
 rintro kv l _ _ w1 ⟨j,al,rfl,tw,hj,rfl,hS,Y4,fX,pG,cn,z1,Yt⟩;refine⟨λhc=>?_,λhc=>?_⟩
 ·have hc:=aR hc;obtain⟨ad,y,cs,g1,g2,g3,g4,g5,g6⟩:=(SliceF.only cX aL hT cn aM).get (aZ j) aE;rw[aX]at g2;have g6:cs=[ab (T y)]:=g6;subst g6;have h1:=h.o0 cn;have hdr:tg.drop j=y::tg.drop (j+1):=by
   obtain⟨bT,e⟩:=bc.1 g2;rw[<-e,zV]
  rw[hdr,HA]at pG;refine⟨ad,g1,_,g5,_,rfl,_,Blk.dN h1.lo.blk 0 rfl,(Fe h1 y).mono ?_⟩;rintro _ w2 ⟨rfl,hu⟩;obtain rfl:w1=w2:=hu.symm;refine⟨_,rfl,bS.refl _ _,λhb k3 w3 _ _ cT=>⟨?_,cn.ca cT⟩,λhb k4 w4 uC CS dw=>?_⟩
  ·have hb:=aR hb;rw[pG,aV hb]
  have hb:=aU hb;rw[aQ hb]at pG;have FU:=Mu h.fo hb;have z4:=dw.size;have o4:=cn.ca dw;have hS4:ug w.heap.size w4 l al:=hS.kp dw;have WV:l.a≠some ⟨k4,0,none⟩:=λe=>aa8
  refine⟨λq i u=>q=some ⟨b,0,none⟩/\i=Dv xs y/\ay [] w u/\ug w.heap.size u l al/\w4.heap.size<=u.heap.size,?_,_,rfl,λw9 fG=>?_⟩
  ·rintro _ _ w5 ⟨rfl,rfl,o5,Co,z5⟩ zu pN;have h5:=h.o0 o5;refine(aaj h5 FU (Co.slice ly) Y4 zu pN).mono ?_;rintro _ w6 ⟨rfl,dK⟩;have z6:=dK.size;have o6:=o5.ca dK;refine⟨_,rfl,_,dK.blk zu aM,_,dK.blk pN aM,λha=>⟨?_,o6⟩,λha=>?_⟩
   ·rw[pG,aV ha]
   rw[aQ (by rw[ha];decide)]at pG;have hS6:ug w.heap.size w6 l al:=Co.kp dK;obtain⟨y1,w7,p1,p3,s',w8,q1,q2,q3,z8,q4,q5⟩:=X9 w hS6 o6 (Dv xs y) (yx FU h.ln) aE;have z7:=p3.size;refine⟨y1,w7,p1,p3.same aaf,s',w8,q1,λk hk=>?_,kv-1,aE,j+1,al++[Dv xs y],aaa,aE,aE,rfl,q2,λo ho=>?_,aba,pG,q3,aE,q5 k0 aE Yt⟩
   ·simp only[ba,bp,cb]at hk;rcases hk with rfl | rfl
    ·exact q4 _ aE Yt
    exact q4 _ aE WV
   rcases cu.1 ho with ho | ho
   ·exact Y4 o ho
   simp only[aO]at ho;subst ho;exact FU
  have z9:=fG.size;have o9:=o4.ca fG;have h9:=h.o0 o9;obtain⟨e,_⟩ | ⟨jx,x,e,hx,_⟩:=ky xs y
  ·omega
  obtain⟨KI,b1,b2,b3,_⟩:=od h9.sp hx;rw[e]at hb⊢;refine⟨_,Blk.dN h9.lo.blk 1 rfl,KI,b1,x.k,b2.dN 0 _ rfl,(An w9 x.k).mono ?_⟩;rintro _ de ⟨rfl,hu⟩;obtain rfl:w9=de:=hu.symm;refine⟨_,rfl,bS.refl _ _,λhh=>⟨_,rfl,λdz dH=>?_⟩,λhh=>⟨rfl,?_,o9,hS4.kp fG,aE⟩⟩
  ·have CR:=dH.size;have Y1:=o9.ca dH;have OW:=h.o0 Y1;obtain⟨UE,c1,_,c3,_⟩:=od OW.sp hx;refine⟨_,Blk.dN OW.lo.blk 1 rfl,UE,c1,x.pa,c3,λeu eh=>⟨rfl,?_,Y1.trans eh λk hk=>.inr abn,?_,by have:=eh.size;omega⟩⟩
   ·unfold Dv;rw[e,jO hx,uc hx,aV hh]
   refine Own.keep ly ((hS4.kp fG).kp dH) λk hk bT=>eh.block k bT ?_;simp only[aO];rintro rfl;exact hk.elim (λh=>h) λh=>WV h.2
  unfold Dv;rw[e,jO hx,aQ acW]
 have hc:=aU hc;have kF:j=tg.length:=aE
 subst kF;rw[dv (aY _)]at pG;exact⟨by rw[pG];rfl,cn⟩
end
end Go.Proofs.YtmgndgpgngcgpaaGreatDoor.Con
