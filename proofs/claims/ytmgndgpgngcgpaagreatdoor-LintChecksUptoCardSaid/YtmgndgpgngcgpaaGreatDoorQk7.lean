import Derived.Test.YtmgndgpgngcgpaaGreatDoorQk6
set_option linter.unusedSectionVars false
set_option linter.unusedSimpArgs false
set_option linter.unusedVariables false
set_option maxHeartbeats 4000000
open Go.Value renaming int->O,string->ab,pointer->ae,agg->ah,tuple->ai,bool->aj
open Go.IntKind renaming i64->U,wrap->ar
open Go.Ending renaming returned->ak
open _root_.ByteArray renaming mk->ao
open _root_.Go.Proofs.Tryz renaming prog->aq
open Go.Instr renaming buildSlice->au
open Go renaming World->av,Value->aw,Calls->az
open Go.Kt renaming Only->ay,SliceF->aA,Cells->aB,OnlyP->aD,Blk->aF
namespace Go.Proofs.YtmgndgpgngcgpaaGreatDoor.Con
open Go Go.RowKit Go.Kt Go.Kt.V Go.Proofs.YtmgndgpgngcgpaaGreatDoor.Vc
def ne(l:aH):Bool:=!decide (l=[])
def gu(ws:List (aH)):aH:=Lib.join (ws.filter ne) [32]
theorem Only.below{w w':av}(h:Below w.heap.size w w'):ay [] w w':=⟨h.os,h.tape,h.output,h.size,λk hk _=>h.block k hk⟩
theorem Jv{w:av}{F:aJ}:∀{l:List (aH)} {css:List (aI)},pb kb 1 w F l css->css.flatten=l.map λx=>ab (T x)
 | [],[],_=>rfl
 | c::l,d::css,h=>by
  obtain⟨⟨_,h1⟩,h2⟩:=h;unfold kb at h1;subst h1;rw[dC,Jv h2];rfl
theorem Dp(l:aH)(w:av):az aq 147 #[ab (T l)] w λe w'=>e=ak (aj (decide (l=[])))/\w'=w:=by
 refine ret (afr _ _ _ ?_);exact⟨by rw[show ao #[]=T []from rfl,gU],rfl⟩
section
variable {w:av} {B:Nat} {F:aJ} {s:Sl} {ws:List (aH)}
theorem Q5(h:Own kb 1 9 B w F s ws):az aq 182 #[s.v,.func (.func 147) #[] #[]] w λe w'=>
  ∃i:Int,e=ak (O U i)/\w'=w/\((i= -1/\ws.filter ne=ws)∨∃n:Nat,i=n/\n<ws.length/\(ws.take (n+1)).filter ne=ws.take n):=by
 refine(afq s ⟨.func (.func 147) #[] #[],rfl⟩ (λv w'=>∃i:Int,v=O U i/\w'=w/\((i= -1/\ws.filter ne=ws)∨∃n:Nat,i=n/\n<ws.length/\(ws.take (n+1)).filter ne=ws.take n)) w ?_).mono (by
  rintro e w' ⟨v,rfl,i,rfl,h⟩;exact⟨i,rfl,h⟩)
 have hs:=h.slice cX;have fi:=hs.len;have qy:=hs.big;have oS:=hs.cap;refine⟨λnv i w'=>∃n:Nat,n<=ws.length/\i=(n:Int)/\nv=ws.length-n/\(ws.take n).filter ne=ws.take n/\w'=w,ws.length,⟨0,be _,rfl,rfl,rfl,rfl⟩,?_⟩;rintro nv _ w0 ⟨n,hn,rfl,rfl,fX,rfl⟩;refine⟨λhc=>?_,λhc=>?_⟩
 ·have bT:(n:Int)<s.n:=aR hc;obtain⟨ad,x,cs,g1,g2,g3,g4,g5,g6⟩:=hs.get (aZ n) bT;rw[aX]at g2;unfold kb at g6;subst g6;have ht:ws.take (n+1)=ws.take n++[x]:=by
   rw[bn,g2];rfl
  refine⟨ad,g1,_,g5,147,[],[],rfl,kn (by kernel_rfl),?_⟩;refine(Dp x w0).mono ?_;rintro _ w1 ⟨rfl,rfl⟩;refine⟨_,rfl,λhb=>⟨_,rfl,rfl,.inr ⟨n,rfl,aE,?_⟩⟩,λhb=>⟨ws.length-(n+1),aE,n+1,aE,aaa,rfl,?_,rfl⟩⟩
  ·have hb:x=[]:=aR hb;rw[ht,lw,fX,hb];simp[ne]
  have hb:x≠[]:=aU hb;rw[ht,lw,fX];simp[ne,hb]
 have lR:¬(n:Int)<s.n:=aU hc;rw[bm aE]at fX;exact⟨_,rfl,rfl,.inl ⟨rfl,fX⟩⟩
theorem N1(h:Own kb 1 9 B w F s ws):az aq 146 #[s.v,.func (.func 147) #[] #[]] w λe w'=>
  ∃s':Sl,e=ak s'.v/\Own kb 1 9 B w' F s' (ws.filter ne)/\aD (λk=>B<=k) w w':=by
 refine(afp s ⟨.func (.func 147) #[] #[],rfl⟩ (λv w'=>∃s':Sl,v=s'.v/\Own kb 1 9 B w' F s' (ws.filter ne)/\aD (λk=>B<=k) w w') w ?_).mono (by
  rintro e w' ⟨v,rfl,s',rfl,h⟩;exact⟨s',rfl,h⟩)
 have fi:=h.len;have oS:=h.cap;have qy:=(h.slice cX).big;refine(Q5 h).mono ?_;rintro _ w0 ⟨i,rfl,rfl,hi⟩;refine⟨i,rfl,λhc=>?_,λhc=>?_⟩
 ·rcases hi with⟨_,hf⟩ | ⟨n,rfl,hn,hf⟩
  ·rw[hf];exact⟨s,rfl,h,OnlyP.refl _ _⟩
  have:(n:Int)= -1:=eq_of_beq hc;omega
 rcases hi with⟨rfl,_⟩ | ⟨n,rfl,hn,hf⟩
 ·exact absurd hc aL
 refine⟨λnv a b w'=>∃(L:List (aH)) (p q:Nat),a=p/\b=q/\p<q/\q<=ws.length/\nv=ws.length-q/\L.length=ws.length/\L.take p=(ws.take q).filter ne/\L.drop q=ws.drop q/\Own kb 1 9 B w' F s L/\aD (λk=>B<=k) w0 w',
  ws.length-(n+1),⟨ws,n,n+1,rfl,aaa,aE,aE,rfl,rfl,hf.symm,rfl,h,OnlyP.refl _ _⟩,?_⟩
 rintro nv _ _ w1 ⟨L,p,q,rfl,rfl,hpq,hq,rfl,hL,ht,hd,hO,hP⟩;refine⟨λhc=>?_,λhc=>?_⟩
 ·have bT:(q:Int)<s.n:=aR hc;have hq':q<ws.length:=aE
  obtain⟨ad,x,cs,g1,g2,g3,g4,g5,g6⟩:=(hO.slice cX).get (aZ q) bT;rw[aX]at g2;unfold kb at g6;subst g6;have hx:ws[q]? =some x:=by
   rw[<-g2];have e1:=bO (λl=>l[0]?) hd;simpa using e1.symm
  have hw:ws.take (q+1)=ws.take q++[x]:=by
   rw[bn,hx];rfl
  have hdn:∀M:List (aH),(∀j,q+1<=j->M[j]? =L[j]?)->M.drop (q+1)=ws.drop (q+1):=λM hM=>by
   apply lU;intro j;rw[gw,gw,hM _ aE];have e1:=bO (λl=>l[1+j]?) hd;simp only[gw]at e1;rw[show q+1+j=q+(1+j) by omega];exact e1
  refine⟨λj w2=>∃(M:List (aH)) (p':Nat),j=p'/\p'<q+1/\M.length=ws.length/\M.take p'=(ws.take (q+1)).filter ne/\M.drop (q+1)=ws.drop (q+1)/\Own kb 1 9 B w2 F s M/\aD (λk=>B<=k) w0 w2,?_,ad,g1,_,g5,147,[],[],rfl,kn (by kernel_rfl),?_⟩
  ·rintro _ w2 ⟨M,p',rfl,m1,m2,m3,m4,m5,m6⟩;exact⟨ws.length-(q+1),aE,M,p',q+1,rfl,aaa,m1,hq',rfl,m2,m3,m4,m5,m6⟩
  refine(Dp x w1).mono ?_;rintro _ w2 ⟨rfl,rfl⟩;refine⟨_,rfl,λhb=>?_,λhb=>?_⟩
  ·have hb:x≠[]:=aa2
   obtain⟨g,cells,b1,b2,b3,b4,b5⟩:=hO.store cX (n:=p) aE (x:=x) (vs:=[ab (T x)]) (G:=λ_=>False) rfl rfl (λk hk=>hk.elim) aL;refine⟨⟨g,p*1,none⟩,b2,g,p*1,cells,_,rfl,b3,b4,λw3 cT sV=>⟨L.set p x,p+1,aaa,aE,by rw[sY];exact hL,?_,hdn _ λj hj=>by rw[List.getElem?_set_ne aE],b5 w3 cT sV,hP.trans (cT.p (F:=λk=>B<=k) λk hk=>.inl ?_) λk hk=>.inl hk⟩⟩
   ·rw[hw,lw,<-ht,bn,List.getElem?_set_self aE,List.take_set_of_le aE];simp[ne,hb]
   simp only[aO]at hk;subst hk;rcases hO with⟨rfl,_⟩ | ⟨g',_,_,a1,a2,_⟩
   ·cases b1
   rw[a1]at b1;injection b1 with b1;injection b1 with b1;omega
  have hb:x=[]:=aa2
  refine⟨L,p,rfl,aE,hL,?_,hdn _ λj _=>rfl,hO,hP⟩;rw[hw,lw,<-ht,hb];simp[ne]
 have lR:¬(q:Int)<s.n:=aU hc;have hqe:q=ws.length:=aE
 subst hqe;rw[bm (aY _)]at ht;obtain⟨w2,g,c1,c2,c3,c4⟩:=Own.clear (P:=aq) (t:=41) (ty:=0) (i:=p) cX aL (by kernel_rfl) (λw=>Tryz.zeroValue9 w) (by intro v hv;simp[Value.cells]at hv;subst hv;rfl) rfl hO aE;refine⟨p,⟨rfl,aE,oS⟩,w2,c1,p,⟨rfl,aE⟩,_,rfl,?_,hP.trans (c3.p (F:=λk=>B<=k) λk hk=>.inl ?_) λk hk=>.inl hk⟩
 ·rw[<-ht];exact c4
 simp only[aO]at hk;subst hk;rcases hO with⟨rfl,_⟩ | ⟨g',_,_,a1,a2,_⟩
 ·cases c2
 rw[a1]at c2;injection c2 with c2;injection c2 with c2;omega
theorem BI(h:Own kb 1 9 B w F s ws)(hl:(gu ws).length<=140737488355328)(hn:ws.length<=140737488355328):az aq 101 #[s.v] w λe w'=>e=ak (ab (T (gu ws)))/\aD (λk=>B<=k) w w':=by
 refine ret (afo _ _ _ ?_);refine(N1 h).mono ?_;rintro _ w1 ⟨s',rfl,hO,hP⟩;refine⟨s',rfl,?_⟩;have fi:=hO.len;have vW:=List.length_filter_le ne ws;have WN:∀{w2:av},ay [] w1 w2->aD (λk=>B<=k) w w2:=λh=>hP.trans h.p0 λk hk=>.inl hk;rcases hO with⟨rfl,he⟩ | ⟨g,css,tail,a1,a2,a4,a5,a6,a7,a9,a8⟩
 ·refine(Tryz.strings_Join_none none 0 (T [32]) w1).mono ?_;rintro _ w2 ⟨rfl,rfl⟩;refine⟨_,rfl,?_,hP⟩;unfold gu;rw[he];rfl
 obtain⟨sa,sn,sc⟩:=s';dsimp only at a1 a5 a6 a7 a9 fi;subst a1 fi;have Uj:=Jv a8;have:=Tryz.strings_Join g 0 sc ((ws.filter ne).map T) (T [32]) w1 (λj x hj=>by
  rw[cA,eE]at hj;obtain⟨y,hy,rfl⟩:=hj;have:=a4.cells 0 ((ws.filter ne).map λx=>Value.string (T x)) (λj v hj=>by rw[bM,Uj,bQ (bc.1 hj).1];exact hj) j (ab (T y)) (by rw[cA,hy];rfl);rw[gH]at this;exact this) a4.lt ac4 ac4 (by
  rw[iE];have:((λx:aK=>x.data.toList)∘T)=id:=rfl;rw[this,O7];exact hl)
 rw[bN]at this;refine this.mono ?_;rintro _ w2 ⟨rfl,hB⟩;refine⟨_,rfl,?_,WN (Only.below hB)⟩;rw[iE];have:((λx:aK=>x.data.toList)∘T)=id:=rfl;rw[this,O7];rfl
end
theorem Dr(w:av)(ws:List (aH)){n:Nat}{parts:Array (Nat×aw)}(hp:parts=(((ws.map λx=>Value.string (T x)).zipIdx 0).map λx=>(x.2,x.1)).toArray)(hn:ws.length=n)(h0:0<n)(vG:n*1<=16777216)(hl:(gu ws).length<=140737488355328):
  ∃(q:Sl) (w0:av),(au 41 n parts).run aq w=.ok q.v w0/\ay [] w w0/\Own kb 1 9 w.heap.size w0 (λ_=>True) q ws/\az aq 101 #[q.v] w0 λe w'=>e=ak (ab (T (gu ws)))/\aD (λk=>w.heap.size<=k) w0 w':=by
 obtain⟨q,w0,k1,k2,k3⟩:=jJ w ws hp hn h0 vG;exact⟨q,w0,k1,k3,k2,BI k2 hl aE⟩
theorem jA:∀(ws:List (aH)),(gu ws).length<=(ws.map λl=>l.length+1).sum:=by
 have h1:∀(r:List (aH)),(Lib.joinTail [32] r).length=(r.map λl=>l.length+1).sum:=λr=>by
  induction r with
  | nil=>rfl
  | cons x r ih=>
   unfold Lib.joinTail at ih⊢;rw[bK,dC,aN,ih,bK,cE];simp
 have h2:∀(r:List (aH)),(Lib.join r [32]).length<=(r.map λl=>l.length+1).sum:=λr=>by
  cases r with
  | nil=>exact be _
  | cons x r=>
   rw[Lib.join_cons,aN,h1,bK,cE];omega
 have h3:∀(r:List (aH)),((r.filter ne).map λl=>l.length+1).sum<=(r.map λl=>l.length+1).sum:=λr=>by
  induction r with
  | nil=>exact aY _
  | cons x r ih=>
   rw[rz,bK,cE];split
   ·rw[bK,cE];omega
   omega
 exact λws=>bB (h2 _) (h3 ws)
structure Fz (bs:List Nat) (w w':av) (ks:List Nat):Prop where
 o:ay bs w w'
 k:∀x,x∈ks->w.heap.size<=x/\x<w'.heap.size
 lo:∀x,x∈bs->x<w.heap.size
section
variable {bs bs' ks ks':List Nat} {w w1 w2 w':av} {k0 b:Nat}
theorem Fz.start(lo:∀x,x∈bs->x<w.heap.size):Fz bs w w []:=⟨Only.refl _ _,λ_ h=>aaQ,lo⟩
theorem Fz.go(h:Fz bs w w1 ks)(k:ay bs' w1 w2)(hb:∀x,x∈bs'->x∈bs∨x∈ks):Fz bs w w2 ks:=
 ⟨h.o.trans k λx hx=>(hb x hx).imp id λhk=>(h.k x hk).1,λx hx=>⟨(h.k x hx).1,cJ (h.k x hx).2 k.size⟩,h.lo⟩
theorem Fz.new(h:Fz bs w w1 ks)(k:ay bs' w1 w2)(hb:∀x,x∈bs'->x∈bs∨w.heap.size<=x):Fz bs w w2 ks:=
 ⟨h.o.trans k hb,λx hx=>⟨(h.k x hx).1,cJ (h.k x hx).2 k.size⟩,h.lo⟩
theorem Fz.q(h:Fz bs w w1 ks)(k:ay [] w1 w2):Fz bs w w2 ks:=h.go k λx hx=>adn
theorem Fz.c(h:Fz (b::bs) w w1 ks)(k:ay [b] w1 w2):Fz (b::bs) w w2 ks:=h.go k λx hx=>.inl abB
theorem Fz.f(h:Fz bs w w1 ks)(k:ay [k0] w1 w2)(hk:k0∈ks):Fz bs w w2 ks:=h.go k λx hx=>.inr (by simp at hx;rw[hx];exact hk)
theorem Fz.al(h:Fz bs w w1 ks)(k:ay [] w1 w2)(h1:w1.heap.size<=k0)(h2:k0<w2.heap.size):Fz bs w w2 (k0::ks):=
 ⟨(h.q k).o,λx hx=>by
  rcases ba.1 hx with rfl | hx
  ·exact⟨bB h.o.size h1,h2⟩
  exact(h.q k).k x hx,h.lo⟩
theorem Fz.sm(h:Fz bs w w1 ks)(k:ay bs' w1 w2)(hk:∀x,x∈ks'->x∈ks)(hb:∀x,x∈bs'->x∈bs∨∀y,y∈ks'->y≠x):bS ks' w1 w2:=k.same λx hx=>
 ⟨(h.k x (hk x hx)).2,λhm=>by
  rcases hb x hm with h1 | h1
  ·have:=(h.k x (hk x hx)).1;have:=h.lo x h1;omega
  exact h1 x hx rfl⟩
theorem Fz.sq(h:Fz bs w w1 ks)(k:ay [] w1 w2)(hk:∀x,x∈ks'->x∈ks):bS ks' w1 w2:=h.sm k hk λx hx=>adn
theorem Fz.sc(h:Fz (b::bs) w w1 ks)(k:ay [b] w1 w2)(hk:∀x,x∈ks'->x∈ks):bS ks' w1 w2:=h.sm k hk λx hx=>.inl abB
theorem Fz.ne(h:Fz bs w w1 ks)(hk:k0∈ks)(hb:b∈bs):k0≠b:=λe=>by
 have:=(h.k k0 hk).1;have:=h.lo b hb;omega
end
section
variable {α:Type} {r:Rp α} {w w1 w':av} {x:α} {cs:aI} {B:Nat}
structure Stay (B:Nat) (w w':av):Prop where
 sz:w.heap.size<=w'.heap.size
 eq:∀k,B<=k->k<w.heap.size->w'.heap[k]? =w.heap[k]?
theorem Stay.refl B w:Stay B w w:=⟨aY _,λ_ _ _=>rfl⟩
theorem Stay.go{bs}(h:Stay B w w1)(k:ay bs w1 w')(hb:∀x,x∈bs->x<B∨w.heap.size<=x):Stay B w w':=
 ⟨bB h.sz k.size,λi h1 h2=>(k.block i (cJ h2 h.sz) λhm=>by have:=hb i hm;omega).trans (h.eq i h1 h2)⟩
theorem Stay.of{bs}(k:ay bs w w')(hb:∀x,x∈bs->x<B∨w.heap.size<=x):Stay B w w':=(Stay.refl B w).go k hb
theorem _root_.Go.Kt.Rp.Ok.stay(hr:r.Ok)(h:r w (Fr B) x cs)(hs:Stay B w w'):r w' (Fr B) x cs:=
 hr.mono (hr.keep (hr.inHeap h) λk hk bT=>hs.eq k hk.1 bT) λk hk=>hk.1
theorem _root_.Go.Kt.Rp.Ok.low(hr:r.Ok)(h:r w (Fr B) x cs){A}(hA:A<=B):r w (Fr A) x cs:=hr.mono h λk hk=>bB hA hk
variable {size:Nat} {e:TypeId} {s:Sl} {xs:List α} {t:Bool}
theorem jH.stay(hr:r.Ok)(h:jH t r size e w (Fr B) s xs)(h0:0<size)(hs:Stay B w w'):jH t r size e w' (Fr B) s xs:=
 ((h.inHeap hr h0).keep hr h0 λk hk bT=>hs.eq k hk.1 bT).mono hr λk hk=>hk.1
theorem jH.low(hr:r.Ok)(h:jH t r size e w (Fr B) s xs){A}(hA:A<=B):jH t r size e w (Fr A) s xs:=h.mono hr λk hk=>bB hA hk
end
abbrev XU(l:Sl)(s:Sx):aI:=[l.v,O U s.i,O U s.fc,O U s.fa,O U s.v,O U s.n,O U s.d,O U s.m,O U s.a]
structure Sr (F:aJ) (ts:List Tk) (w:av) (b:Nat) (l:Sl) (s:Sx):Prop where
 blk:aF w b 101 (XU l s)
 tok:aA ED 4 w F l ts
 hF:∀k,F k->k<b
 en:qm ts
 lt:s.i<ts.length
 sm:ts.length<=16777216
abbrev rp(b:Nat):aw:=ae (some ⟨b,0,none⟩)
section
variable {F:aJ} {ts:List Tk} {w w':av} {b:Nat} {l:Sl} {s s':Sx}
theorem Sr.own(h:Sr F ts w b l s){bs}(hO:ay bs w w')(hb:∀x,x∈bs->b<x):Sr F ts w' b l s:=
 ⟨hO.blk h.blk λhm=>(by have:=hb b hm;omega),SliceF.only ik aL h.tok hO λk hk _ hm=>acs,h.hF,h.en,h.lt,h.sm⟩
theorem Sr.SU(h:Sr F ts w b l s){bs}(hO:ay bs w w')(hb:∀x,x∈bs->x≠b/\¬F x):Sr F ts w' b l s:=
 ⟨hO.blk h.blk λhm=>(hb b hm).1 rfl,SliceF.only ik aL h.tok hO λk hk _ hm=>(hb k hm).2 hk,h.hF,h.en,h.lt,h.sm⟩
theorem Sr.aaK(h:Sr F ts w b l s){k0}(hO:ay [k0] w w')(hk:k0≠b/\¬F k0):Sr F ts w' b l s:=h.SU hO λx hx=>(by simp at hx;subst hx;exact hk)
theorem Sr.gt(h:Sr F ts w b l s){x}(hx:b<x):x≠b/\¬F x:=⟨aE,λhF=>by have:=h.hF x hF;omega⟩
theorem Sr.only(h:Sr F ts w b l s)(hO:ay [] w w'):Sr F ts w' b l s:=h.own hO λx hx=>adn
theorem Sr.one(h:Sr F ts w b l s){k0}(hO:ay [k0] w w')(hk:b<k0):Sr F ts w' b l s:=h.own hO λx hx=>(by simp at hx;omega)
theorem Sr.jX(h:Sr F ts w b l s)(hO:ay [b] w w')(hB:aF w' b 101 (XU l s'))(hi:s'.i<ts.length):Sr F ts w' b l s':=
 ⟨hB,SliceF.only ik aL h.tok hO λk hk _ hm=>(by have:=h.hF k hk;simp at hm;omega),h.hF,h.en,hi,h.sm⟩
theorem Sr.lb(h:Sr F ts w b l s):b<w.heap.size:=h.blk.lt
theorem Sr.z(h:Sr F ts w b l s):Fz [b] w w []:=Fz.start λx hx=>(by simp at hx;rw[hx];exact h.lb)
theorem Sr.big(h:Sr F ts w b l s):ts.length<=9223372036854775807:=by
 have h1:=h.tok.len;have h2:=h.tok.cap;have h3:=h.tok.big;omega
theorem Sr.wr(h:Sr F ts w b l s):ar U (s.i+1)=((s.i+1:Nat)):=by
 have:=h.big;have:=h.lt;rw[eY aE aE];rfl
theorem Sr.now(h:Sr F ts w b l s):∃ad,cR l s.i 4 ad/\aB w ad [O U (tk ts s.i).k,ab (T (tk ts s.i).t),O U (tk ts s.i).n,O U (tk ts s.i).a]:=by
 have hl:=h.tok.len;have bT:=h.lt;obtain⟨ad,x,cs,g1,g2,g3,g4,g5,g6⟩:=h.tok.get (aZ s.i) aE;rw[aX,Bk h.lt]at g2;injection g2 with g2;subst g2;subst g6;exact⟨ad,g1,g5⟩
structure Dn (F:aJ) (ts:List Tk) (w w':av) (b:Nat) (l:Sl) (s:Sx):Prop where
 o:ay [b] w w'
 r:Sr F ts w' b l s
theorem Sr.dn(h:Sr F ts w b l s):Dn F ts w w b l s:=⟨Only.refl _ _,h⟩
theorem Dn.q(h:Dn F ts w w' b l s){w2}(k:ay [] w' w2):Dn F ts w w2 b l s:=⟨h.o.ca k,h.r.only k⟩
theorem Dn.nx(h:Dn F ts w w' b l s){w2}{s'}(k:Dn F ts w' w2 b l s'):Dn F ts w w2 b l s':=⟨h.o.trans k.o λx hx=>.inl hx,k.r⟩
theorem Dn.f(h:Dn F ts w w' b l s){w2}{k0}(k:ay [k0] w' w2)(hk:w.heap.size<=k0)(hb:b<w.heap.size):Dn F ts w w2 b l s:=⟨h.o.new k hk,h.r.one k aE⟩
theorem Sr.tk(h:Sr F ts w b l s){ad}(g:cR l s.i 4 ad):aB w ad [O U (tk ts s.i).k,ab (T (tk ts s.i).t),O U (tk ts s.i).n,O U (tk ts s.i).a]:=by
 obtain⟨Ke,g1,g2⟩:=h.now;rw[g.CJ g1];exact g2
structure Zt (F:aJ) (ts:List Tk) (w w':av) (b:Nat) (l:Sl) (s:Sx) (ks:List Nat):Prop where
 z:Fz [b] w w' ks
 r:Sr F ts w' b l s
section
variable {w2:av} {ks ks':List Nat} {k0:Nat}
theorem Sr.zt(h:Sr F ts w b l s):Zt F ts w w b l s []:=⟨h.z,h⟩
theorem Zt.q(h:Zt F ts w w' b l s ks)(k:ay [] w' w2):Zt F ts w w2 b l s ks:=⟨h.z.q k,h.r.only k⟩
theorem Zt.al(h:Zt F ts w w' b l s ks)(k:ay [] w' w2)(h1:w'.heap.size<=k0)(h2:k0<w2.heap.size):Zt F ts w w2 b l s (k0::ks):=⟨h.z.al k h1 h2,h.r.only k⟩
theorem Zt.ad(h:Zt F ts w w' b l s ks)(h1:w.heap.size<=k0)(h2:k0<w'.heap.size):Zt F ts w w' b l s (k0::ks):=⟨⟨h.z.o,λx hx=>by
 rcases ba.1 hx with rfl | hx
 ·exact⟨h1,h2⟩
 exact h.z.k x hx,h.z.lo⟩,h.r⟩
theorem Zt.lt(h:Zt F ts w w' b l s ks)(hk:k0∈ks):b<k0:=cJ (h.z.lo b aM) (h.z.k k0 hk).1
theorem Zt.f(h:Zt F ts w w' b l s ks)(k:ay [k0] w' w2)(hk:k0∈ks):Zt F ts w w2 b l s ks:=⟨h.z.f k hk,h.r.one k (h.lt hk)⟩
theorem Zt.nx(h:Zt F ts w w' b l s ks)(k:Dn F ts w' w2 b l s'):Zt F ts w w2 b l s' ks:=⟨h.z.c k.o,k.r⟩
theorem Zt.dn(h:Zt F ts w w' b l s ks):Dn F ts w w' b l s:=⟨h.z.o,h.r⟩
theorem Zt.up(h:Zt F ts w w' b l s ks)(k:ay [b] w' w2)(hB:aF w2 b 101 (XU l s'))(hi:s'.i<ts.length):Zt F ts w w2 b l s' ks:=⟨h.z.c k,h.r.jX k hB hi⟩
theorem Zt.sq(h:Zt F ts w w' b l s ks)(k:ay [] w' w2)(hk:∀x,x∈ks'->x∈ks):bS ks' w' w2:=h.z.sq k hk
theorem Zt.sc(h:Zt F ts w w' b l s ks)(k:Dn F ts w' w2 b l s')(hk:∀x,x∈ks'->x∈ks):bS ks' w' w2:=h.z.sc k.o hk
theorem Zt.row{gs}(h:Zt F ts w w' b l s ks)(k:ay gs w' w2)(hg:∀x,x∈gs->w.heap.size<=x):Zt F ts w w2 b l s ks:=⟨h.z.new k λx hx=>.inr (hg x hx),h.r.own k λx hx=>cJ (h.z.lo b aM) (hg x hx)⟩
theorem Zt.sr{gs}(h:Zt F ts w w' b l s ks)(k:ay gs w' w2)(hk:∀x,x∈ks'->x∈ks)(hg:∀x,x∈gs->∀y,y∈ks'->y<x):bS ks' w' w2:=h.z.sm k hk λx hx=>.inr λy hy e=>by have:=hg x hx y hy;omega
theorem Zt.ne(h:Zt F ts w w' b l s ks)(hk:k0∈ks):k0≠b:=h.z.ne hk aM
theorem Stay.q{B}(h:Stay B w w')(k:ay [] w' w2):Stay B w w2:=h.go k λx hx=>adn
theorem Stay.d{B}(h:Stay B w w')(k:Dn F ts w' w2 b l s')(hb:b<B):Stay B w w2:=h.go k.o λx hx=>.inl (by simp at hx;omega)
theorem Stay.f{B}(h:Stay B w w')(k:ay [k0] w' w2)(hk:k0<B∨w.heap.size<=k0):Stay B w w2:=h.go k λx hx=>(by simp at hx;subst hx;exact hk)
end
theorem nM(h:Sr F ts w b l s):az aq 50 #[rp b] w λe w'=>e=ak (aj (s.fc==0))/\ay [] w w':=by
 exact ret (aeY _ _ w ⟨s.fc,Blk.dN h.blk 2 rfl,rfl,Only.refl _ _⟩)
theorem Al(h:Sr F ts w b l s) c:az aq 94 #[rp b,O U c] w λe w'=>e=ak (ai #[])/\Dn F ts w w' b l (iU ts s c):=by
 refine ret (ae0 _ _ _ _ ?_);refine(nM h).mono ?_;rintro _ w0 ⟨rfl,cf⟩;refine⟨_,rfl,λhc w1 cn=>?_,λhc=>?_⟩
 ·have hc:=aax
  have h1:=h.only (cf.ca cn);obtain⟨ad,g1,g2⟩:=h1.now;refine⟨l,Blk.dN h1.blk 0 rfl,_,Blk.dN h1.blk 1 rfl,ad,g1,_,g2.dN 3 _ rfl,b,2,_,_,rfl,h1.blk,aM,λw2 cH lS=>⟨rfl,((cf.ca cn).weaken (bs':=[b]) λ_ h=>aaQ).trans cH λx hx=>.inl hx,?_⟩⟩;unfold iU;rw[aV hc];exact h1.jX (s':={s with fc:=c,fa:=(tk ts s.i).a}) cH lS h.lt
 unfold iU;rw[aQ aax];exact⟨rfl,h.dn.q cf⟩
theorem tX(h:Sr F ts w b l s):az aq 51 #[rp b] w λe w'=>e=ak (ai #[])/\Dn F ts w w' b l (jc ts s):=by
 refine ret (aeZ _ _ _ ?_);obtain⟨ad,g1,g2⟩:=h.now;refine⟨λw'=>Dn F ts w w' b l (if(tk ts s.i).k=5 then iU ts s 3 else s),λw0 h0=>(Al h0.r 4).mono ?_,l,Blk.dN h.blk 0 rfl,_,Blk.dN h.blk 1 rfl,ad,g1,_,g2.dN 0 _ rfl,λhc w2 cH=>?_,λhc w2 cH=>?_⟩
 ·rintro _ w1 ⟨rfl,h1⟩;refine⟨rfl,rfl,h0.nx ?_⟩;unfold jc;split at h1
  ·rename_i e;rw[aV e];exact h1
  rename_i e;rw[aQ e];exact h1
 ·refine(Al (h.only cH) 3).mono ?_;rintro _ w3 ⟨rfl,h3⟩;have hc:=aax
  refine⟨rfl,?_⟩;rw[aV hc];exact(h.dn.q cH).nx h3
 rw[aQ aax];exact h.dn.q cH
theorem agj{s}{w}{G}{l}(h:aA kb 1 w G s l) c:
  az aq 138 #[Sl.v s,ab (T c)] w λr w'=>r=ak (O U (if wh c l<l.length then wh c l else -1))/\w'=w:=by
 refine ret (Xy _ _ _ _ ?_);have fi:=h.len;have qy:=h.big;have oS:=h.cap;refine⟨λnv i w'=>∃n,n<=l.length/\i=n/\nv=l.length-n/\wh c l=n+wh c (l.drop n)/\w'=w,l.length,⟨0,be _,rfl,rfl,by rw[fZ,bM],rfl⟩,?_⟩;rintro nv _ _ ⟨n,hn,rfl,rfl,hp,rfl⟩;refine⟨λhc=>?_,λhc=>?_⟩
 ·have bT:=aR hc;obtain⟨ad,x,cs,g1,g2,g3,g4,g5,g6⟩:=h.get (aZ n) bT;rw[aX]at g2;subst g6;have hd:l.drop n=x::l.drop (n+1):=by rw[ij (bc.1 g2).1,(bc.1 g2).2]
  rw[hd,wh]at hp;refine⟨ad,g1,_,g5,?_⟩;dsimp only;rw[gU];refine⟨λhe=>⟨?_,rfl⟩,λhe=>⟨l.length-_,aE,n+1,aE,aaa,rfl,?_,rfl⟩⟩
  ·have he:=aR he;rw[aV he]at hp;rw[aV aE,hp,fk]
  rw[aQ (aU he)]at hp;omega
 have lR:=aU hc;rw[aQ aE];exact⟨rfl,rfl⟩
theorem BJ(h:Sr F ts w b l s){G}{q}{ss}(hs:aA kb 1 w G q ss):az aq 96 #[rp b,q.v] w λe w'=>e=ak (O U (cP ts s ss))/\ay [] w w':=by
 refine ret (aeX _ _ _ _ ?_);intro w0 cf;have h0:=h.only cf;obtain⟨ad,g1,g2⟩:=h0.now;refine⟨λ_=>True,trivial,l,Blk.dN h0.blk 0 rfl,trivial,_,Blk.dN h0.blk 1 rfl,ad,g1,trivial,_,_,_,_,g2,λk0 w1 hk tu cn=>?_⟩;refine(nM (h0.only cn)).mono ?_;rintro _ w2 ⟨rfl,cH⟩;have jY:=(cf.ca cn).ca cH;have PB:((!(s.fc==0))||(((tk ts s.i).k !=2)&&((tk ts s.i).k !=4)))=decide (s.fc≠0∨((tk ts s.i).k≠2/\(tk ts s.i).k≠4)):=by
  rw[bH];simp
 refine⟨_,rfl,cH.same aaf,?_⟩;dsimp only;rw[PB];refine⟨λhc=>?_,λhc=>?_⟩
 ·unfold cP;rw[aV (aR hc)];exact⟨rfl,jY⟩
 refine(agj (SliceF.only cX aL hs jY aM) (tk ts s.i).t).mono ?_;rintro _ w3 ⟨rfl,rfl⟩;refine⟨_,rfl,bS.refl _ _,?_,jY⟩;unfold cP;rw[aQ (aU hc)];have hl:=hs.len;have hb:=hs.big;have hcp:=hs.cap;split
 ·rw[eY aE aE];rfl
 rfl
theorem LU(h:Sr F ts w b l s) ss {n} {parts} (hp:parts=(((ss.map λx=>Value.string (T x)).zipIdx 0).map λx=>(x.2,x.1)).toArray) (hn:ss.length=n) (h0:0<n) (vG:n*1<=16777216):
  ∃(q:Sl) (w0:av),(au 41 n parts).run aq w=.ok q.v w0/\ay [] w w0/\az aq 96 #[rp b,q.v] w0 λe w'=>e=ak (O U (cP ts s ss))/\ay [] w0 w':=by
 obtain⟨q,w0,k1,k2,k3⟩:=jJ w ss hp hn h0 vG;exact⟨q,w0,k1,k3,BJ (h.only k3) (sF k2)⟩
theorem VH(h:Sr F ts w b l s){G}{q}{ss}(hs:aA kb 1 w G q ss):az aq 47 #[rp b,q.v] w λe w'=>e=ak (O U (cP ts s ss))/\Dn F ts w w' b l (if cP ts s ss=0 then s else dq s):=by
 refine ret (aeW _ _ _ _ ?_);refine(BJ h hs).mono ?_;rintro _ w0 ⟨rfl,cf⟩;have h0:=h.only cf;refine⟨_,rfl,λw'=>Dn F ts w w' b l _,λw1 h1=>⟨rfl,h1⟩,λhc=>?_,λhc=>?_⟩
 ·have hc:cP ts s ss≠0:=aaX
  refine⟨_,Blk.dN h0.blk 1 rfl,b,1,_,_,rfl,h0.blk,aM,λw2 cH lS=>?_⟩;rw[aQ hc];rw[h.wr]at lS;exact⟨(cf.weaken (bs':=[b]) λ_ h=>aaQ).trans cH λx hx=>.inl hx,h0.jX (s':=dq s) cH lS (h.en.next h.lt (dx hc).2)⟩
 have hc:cP ts s ss=0:=aa0
 rw[aV hc];exact h.dn.q cf
theorem Ds(h:Sr F ts w b l s) ss {n} {parts} (hp:parts=(((ss.map λx=>Value.string (T x)).zipIdx 0).map λx=>(x.2,x.1)).toArray) (hn:ss.length=n) (h0:0<n) (vG:n*1<=16777216):
  ∃(q:Sl) (w0:av),(au 41 n parts).run aq w=.ok q.v w0/\ay [] w w0/\az aq 47 #[rp b,q.v] w0 λe w'=>e=ak (O U (cP ts s ss))/\Dn F ts w0 w' b l (if cP ts s ss=0 then s else dq s):=by
 obtain⟨q,w0,k1,k2,k3⟩:=jJ w ss hp hn h0 vG;exact⟨q,w0,k1,k3,VH (h.only k3) (sF k2)⟩
theorem LV(h:Sr F ts w b l s){G}{q}{x}(hs:aA kb 1 w G q [x])(hG:∀k,G k->k≠b):az aq 45 #[rp b,q.v] w λe w'=>e=ak (ai #[])/\Dn F ts w w' b l (eH ts s x):=by
 refine ret (aeV _ _ _ _ ?_);have hn:q.n=1:=hs.len;refine⟨λnv i w'=>(i=0/\nv=1/\w'=w)∨(i=1/\nv=0/\Dn F ts w w' b l (eH ts s x)),1,.inl ⟨rfl,rfl,rfl⟩,?_⟩;rintro nv i w0 (⟨rfl,rfl,rfl⟩ | ⟨rfl,rfl,hD⟩)
 ·refine⟨λ_=>?_,λhc=>absurd (aU hc) aE⟩;refine⟨λw'=>Dn F ts w0 w' b l _,λw1 h1=>⟨0,aL,.inr ⟨rfl,rfl,h1⟩⟩,?_⟩;obtain⟨ad,y,cs,g1,g2,g3,g4,g5,g6⟩:=hs.get (i:=0) aL aE;simp at g2;subst g2;subst g6;obtain⟨q0,w2,k1,k2,k3⟩:=Ds h [x] (n:=1) (parts:=#[_]) rfl rfl aL aL;refine⟨ad,g1,_,g5,q0,w2,k1,k3.mono ?_⟩;rintro _ w3 ⟨rfl,h3⟩;have h03:=(h.dn.q k2).nx h3;refine⟨_,rfl,λhc=>?_,λhc=>?_⟩
  ·have hc:cP ts s [x]=0:=by have:=aax;omega
   rw[aV hc]at h03;refine(tX h03.r).mono ?_;rintro _ w4 ⟨rfl,h4⟩;refine⟨rfl,?_⟩;unfold eH;rw[aV hc];exact h03.nx h4
  have hc:cP ts s [x]≠0:=λe=>by rw[e]at hc;simp at hc
  rw[aQ hc]at h03;unfold eH;rw[aQ hc];exact h03
 exact⟨λhc=>absurd (aR hc) aE,λ_=>⟨rfl,hD⟩⟩
theorem ra(h:Sr F ts w b l s) x:∃(q:Sl) (w0:av),(au 41 1 #[.mk 0 (ab (T x))]).run aq w=.ok q.v w0/\ay [] w w0/\az aq 45 #[rp b,q.v] w0 λe w'=>e=ak (ai #[])/\Dn F ts w0 w' b l (eH ts s x):=by
 obtain⟨q,w0,k1,k2,k3⟩:=jJ w [x] (n:=1) (parts:=#[_]) rfl rfl aL aL;exact⟨q,w0,k1,k3,LV (h.only k3) (sF k2) λk hk e=>(by have:=hk.1;have:=h.lb;omega)⟩
theorem xj(h:Sr F ts w b l s){k}(pQ:k≠5):az aq 95 #[rp b,O U k] w λe w'=>e=ak (ga ts s k).1.v/\Dn F ts w w' b l (ga ts s k).2:=by
 refine ret (ae3 _ _ _ _ ?_);intro k0 w0 hk tu cf;have h0:=h.only cf;obtain⟨ad,g1,g2⟩:=h0.now;refine⟨λ_=>True,trivial,l,Blk.dN h0.blk 0 rfl,trivial,_,Blk.dN h0.blk 1 rfl,ad,g1,trivial,_,_,_,_,g2,λk1 w1 kU jC cn=>?_⟩;have z1:=(h.z.al cf hk tu).al cn kU jC;refine(nM (h0.only cn)).mono ?_;rintro _ w2 ⟨rfl,cH⟩;have z2:=z1.q cH;have hl:=h.lb;have d2:=h.dn.q ((cf.ca cn).ca cH);have PB:((!(s.fc==0))||((tk ts s.i).k !=k))=decide (s.fc≠0∨(tk ts s.i).k≠k):=by
  rw[bH];simp
 refine⟨_,rfl,z1.sq cH aM,?_⟩;dsimp only;rw[PB];refine⟨λhc=>(tX d2.r).mono ?_,λhc=>?_⟩
 ·rintro _ w3 ⟨rfl,h3⟩;refine⟨rfl,z2.sc h3.o aM,λw4 dw=>?_⟩;unfold ga;rw[aV (aR hc)];exact⟨rfl,(d2.nx h3).f dw hk hl⟩
 refine⟨_,Blk.dN d2.r.blk 1 rfl,b,1,_,_,rfl,d2.r.blk,aM,z2.ne aM aM,z2.ne aM aM,λw5 dY ux w6 dK=>?_⟩;have hc:=aU hc;unfold ga;rw[aQ hc];simp at hc;rw[h.wr]at ux;have d5:Dn F ts w w5 b l (dq s):=⟨d2.o.trans dY λx hx=>.inl hx,d2.r.jX dY ux (h.en.next h.lt (by rw[hc.2];exact pQ))⟩
 exact⟨rfl,d5.f dK hk hl⟩
theorem xn(h:Sr F ts w b l s):az aq 140 #[rp b] w λe w'=>e=ak (ab (T (ji ts s).1))/\Dn F ts w w' b l (ji ts s).2:=by
 refine ret (ae8 _ _ _ ?_);refine(xj h (k:=1) aL).mono ?_;rintro _ w0 ⟨rfl,h0⟩;exact⟨_,_,_,_,rfl,rfl,h0⟩
theorem _root_.Go.Kt.Blk.Yq{w}{b}{t}{cs}{v}(h:aF w b t cs) j (hx:cs[j]? =some v):aB w ⟨b,j,none⟩ [v]:=by
 have:=Blk.dN h j hx;rwa[gH,bM]at this
theorem EW(h:Sr F ts w b l s) j x c u (hx:(XU l s)[j]? =some (.int U x)) (CU:(XU l (iU ts s c))[j]? =some (.int U x)) (hui:u.i=s.i)
  (hu:XU l u=cj (XU l (if x=0 then iU ts s c else s)) j [O U (yp x)]):az aq 93 #[rp b,ae (some ⟨b,j,none⟩),O U c] w λe w'=>e=ak (ai #[])/\Dn F ts w w' b l u:=by
 refine ret (ae2 _ _ _ _ _ ?_);refine⟨λw'=>Dn F ts w w' b l (if x=0 then iU ts s c else s),λw0 h0=>?_,_,rfl,x,Blk.Yq h.blk j hx,λhc=>?_,λhc=>?_⟩
 ·refine⟨_,rfl,x,Blk.Yq h0.r.blk j (by split<;>assumption),_,rfl,b,j,_,_,rfl,h0.r.blk,(bc.1 hx).1,λw1 cn qF=>⟨rfl,h0.o.trans cn λx hx=>.inl hx,h0.r.jX cn (s':=u) ?_ (by rw[hui];exact h.lt)⟩⟩;rw[hu];exact qF
 ·refine(Al h c).mono ?_;rintro _ w2 ⟨rfl,h2⟩;have hc:=aax
  rw[aV hc];exact⟨rfl,h2⟩
 rw[aQ aax];exact h.dn
theorem Z0(h:Sr F ts w b l s):az aq 93 #[rp b,ae (some ⟨b,8,none⟩),O U 2] w λe w'=>e=ak (ai #[])/\Dn F ts w w' b l (tN ts s):=
 EW h 8 s.a 2 _ rfl ac8 (EN s) (by unfold tN iU;split<;>(try split)<;>rfl)
theorem Z1(h:Sr F ts w b l s):az aq 93 #[rp b,ae (some ⟨b,7,none⟩),O U 2] w λe w'=>e=ak (ai #[])/\Dn F ts w w' b l (rV ts s):=
 EW h 7 s.m 2 _ rfl ac8 (EO s) (by unfold rV iU;split<;>(try split)<;>rfl)
theorem Z2(h:Sr F ts w b l s):az aq 93 #[rp b,ae (some ⟨b,5,none⟩),O U 2] w λe w'=>e=ak (ai #[])/\Dn F ts w w' b l (CG ts s):=
 EW h 5 s.n 2 _ rfl ac8 (by unfold CG;split;exact EI 2;rfl) (by unfold CG iU;split<;>(try split)<;>rfl)
theorem Z3(h:Sr F ts w b l s):az aq 93 #[rp b,ae (some ⟨b,4,none⟩),O U 2] w λe w'=>e=ak (ai #[])/\Dn F ts w w' b l (CH ts s):=
 EW h 4 s.v 2 _ rfl ac8 (by unfold CH;split;exact EI 2;rfl) (by unfold CH iU;split<;>(try split)<;>rfl)
theorem LW(h:Sr F ts w b l s):az aq 174 #[rp b] w λe w'=>∃cs,e=ak (ah cs.toArray)/\rE true w' (Fr w.heap.size) (nZ ts s).1 cs/\Dn F ts w w' b l (nZ ts s).2:=by
 refine(ae9 ⟨b,0,none⟩ (λv w'=>∃cs,v=(ah cs.toArray)/\rE true w' (Fr w.heap.size) (nZ ts s).1 cs/\Dn F ts w w' b l (nZ ts s).2) w ?_).mono (by
  rintro e w' ⟨v,rfl,cs,rfl,h⟩;exact⟨cs,rfl,h⟩)
 intro k0 w0 hk tu cf;have hl:=h.lb;have z0:=h.z.al cf hk tu;refine(nM (h.only cf)).mono ?_;rintro _ w1 ⟨rfl,cn⟩;have z1:=z0.q cn;have d1:=h.dn.q (cf.ca cn);refine⟨_,rfl,z0.sq cn aM,λhc w2 cH=>?_,λhc w3 cT=>?_⟩
 ·have hc:s.fc≠0:=aax
  unfold nZ;rw[aV hc];exact⟨_,rfl,rE0 _ _ _,d1.f cH hk hl⟩
 have hc:¬s.fc≠0:=aax
 have z3:=z1.q cT;have d3:=d1.q cT;refine⟨λk=>k=b,λw4 dw=>⟨rfl,l,Blk.dN (d3.q dw).r.blk 0 rfl,λw5 dY=>⟨rfl,_,Blk.dN ((d3.q dw).q dY).r.blk 1 rfl,λw6 dK=>?_⟩⟩⟩;have z6:=((z3.q dw).q dY).q dK;have d6:=((d3.q dw).q dY).q dK;have hb6:=d6.r.big;have bT:=h.lt;refine(Ly d6.r.tok s.i ⟨aE,aE⟩).mono ?_;rintro _ w7 ⟨cs,rfl,hX,hj,fK⟩;have d7:=d6.q fK;obtain⟨sl,iC,_⟩:=hX.cells;have hsz:w3.heap.size<=w6.heap.size:=((dw.ca dY).ca dK).size;refine⟨_,_,_,_,sl,_,_,_,_,by rw[iC],z6.sq fK aM,oA.M1 fK,bR.only fK,λw8 fj k1 kU jC hap=>?_⟩;obtain⟨d,hX⟩:=hX.xg;have hx7:rE true w7 (λk=>w6.heap.size<=k/\k<w7.heap.size) (ck ts s.i).1 cs:=⟨d,hX⟩
 have ato:=bB z3.o.size kU;have atp:=aE
 have d8:=d7.q fj;have zz6:=z6.o.size;have zz0:=z0.k k0 aM;have zw0:=((cn.ca cT).ca ((dw.ca dY).ca dK)).size;have hx8:∀{bs:List Nat} {w9:av},ay bs w8 w9->(∀x,x∈bs->x=k1∨x=k0∨x=b)->rE true w9 (Fr w.heap.size) (ck ts s.i).1 cs:=λfG hb9=>
  (ic true).mono ((ic true).keep hx7 λk Iq bT=>(fG.block k (cJ bT fj.size) λhm=>by
   rcases hb9 k hm with rfl | rfl | rfl
   ·have:=hap.one;omega
   ·omega
   omega).trans (fj.block k bT aM)) λk Iq=>by have:=Iq.1;show w.heap.size<=k;omega
 unfold nZ;rw[aQ hc];refine⟨λh1 w9 fG=>?_,λh1 eu eh=>?_⟩
 ·have h1:(ck ts s.i).2.2.1≠0:=abv
  have d9:Dn F ts w w9 b l s:=⟨d8.o.trans fG λx hx=>.inr aaV,d8.r.own fG λx hx=>aaV⟩
  refine⟨b,2,_,_,rfl,d9.r.blk,aM,aE,aE,λde dT oy dz dH=>?_⟩;rw[aV h1];have d10:Dn F ts w de b l {s with fc:=(ck ts s.i).2.2.1,fa:=(ck ts s.i).2.2.2}:=⟨d9.o.trans dT λx hx=>.inl hx,d9.r.jX dT oy h.lt⟩
  refine⟨cs,by rw[iC],?_,d10.f dH hk hl⟩;exact hx8 (bs:=[k1,k0,b]) (((fG.weaken (bs':=[k1,k0,b]) λx hx=>.inl ab0).trans dT λx hx=>.inl abB).trans dH λx hx=>.inl aaT) aM
 have h1:¬(ck ts s.i).2.2.1≠0:=abv
 have d12:Dn F ts w eu b l s:=⟨d8.o.trans eh λx hx=>.inr aaV,d8.r.own eh λx hx=>aaV⟩
 obtain⟨Pw,IC⟩:=hj abv;have ej:((ck ts s.i).2.1.toNat)=(ck ts s.i).2.1:=fy Pw;refine⟨b,1,_,_,rfl,d12.r.blk,aM,aE,aE,λeS dU uz fJ ec=>?_⟩;rw[aQ h1];have d13:Dn F ts w eS b l {s with i:=(ck ts s.i).2.1.toNat}:=⟨d12.o.trans dU λx hx=>.inl hx,d12.r.jX dU (by dsimp only[XU];rw[ej];exact uz) aa1⟩
 refine⟨cs,by rw[iC],?_,d13.f ec hk hl⟩;exact hx8 (bs:=[k1,k0,b]) (((eh.weaken (bs':=[k1,k0,b]) λx hx=>.inl (by simp at hx⊢;omega)).trans dU λx hx=>.inl (by simp[aO]at hx;simp[hx])).trans ec λx hx=>.inl (by simp[aO]at hx;simp[hx])) aM
end
theorem agk{n:Nat}(h:((n:Int)==0)=true):n=0:=abb
theorem agl{n:Nat}(h:((n:Int)==0)=false):n≠0:=λe=>by rw[e]at h;simp at h
theorem N2{n:Nat}(h:decide ((n:Int)>0)=false):n=0:=by have:=aU h;omega
theorem N3{n:Nat}(h:decide ((n:Int)>0)=true):n≠0:=adb
section
variable {F:aJ} {ts:List Tk} {w w':av} {b:Nat} {l:Sl} {s s':Sx}
theorem Z4(h:Sr F ts w b l s):az aq 177 #[rp b] w λe w'=>∃cs,e=ak (ah cs.toArray)/\mG true w' (Fr w.heap.size) (ph ts s).1 cs/\Dn F ts w w' b l (ph ts s).2:=by
 refine(afe ⟨b,0,none⟩ (λv w'=>∃cs,v=(ah cs.toArray)/\mG true w' (Fr w.heap.size) (ph ts s).1 cs/\Dn F ts w w' b l (ph ts s).2) w ?_).mono (by
  rintro e w' ⟨v,rfl,cs,rfl,h⟩;exact⟨cs,rfl,h⟩)
 intro k0 w0 hk tu cf;have t0:=h.zt.al cf hk tu;obtain⟨ad,g1,_⟩:=h.now;refine⟨λ_=>True,λw1 cn=>⟨trivial,l,Blk.dN (t0.q cn).r.blk 0 rfl,λw2 cH=>⟨trivial,_,Blk.dN ((t0.q cn).q cH).r.blk 1 rfl,ad,g1,λw3 cT=>?_⟩⟩⟩;have t3:=((t0.q cn).q cH).q cT;refine⟨trivial,_,(t3.r.tk g1).dN 3 _ rfl,λw4 dw=>?_⟩;have t4:=t3.q dw;obtain⟨q,w5,e1,oz,dY⟩:=jJ w4 [pK,jz,kZ] (n:=3) (parts:=#[(0,ab (T pK)),(1,ab (T jz)),(2,ab (T kZ))]) rfl rfl aL aL;refine⟨q,w5,e1,t4.sq dY aM,oA.M1 dY,bR.only dY,λw6 dK=>?_⟩;have t6:=(t4.q dY).q dK;refine(BJ t6.r (SliceF.only cX aL (sF oz) dK aM)).mono ?_;rintro _ w7 ⟨rfl,fK⟩;have t7:=t6.q fK;refine⟨_,rfl,t6.sq fK aM,oA.M1 fK,bR.only fK,λw8 fj k1 kU jC hap=>?_⟩;have t8:=(t7.q fj).ad (bB t0.z.o.size kU) jC;refine⟨λhc w9 fG=>?_,λhc eu eh=>?_⟩
 ·have t9:=t8.f fG aM;refine(tX t9.r).mono ?_;rintro _ de ⟨rfl,tv⟩;refine⟨rfl,t9.sc tv aM,λdz dH=>?_⟩;have hc:=agk hc;unfold ph;rw[aV hc,hc];exact⟨_,rfl,⟨lf 0 0 [] 0 Sl.nil 0,rfl,rE0 _ _ _⟩,((t9.nx tv).f dH aM).dn⟩
 have hc:=agl hc;have t12:=t8.f eh aM;refine(Z0 t12.r).mono ?_;rintro _ eS ⟨rfl,sX⟩;have t13:=t12.nx sX;refine⟨rfl,t12.sc sX aM,(nM t13.r).mono ?_⟩;rintro _ fJ ⟨rfl,ec⟩;have t14:=t13.q ec;unfold ph;rw[aQ hc];refine⟨_,rfl,t13.sq ec aM,λhf gY je=>?_,λhf=>?_⟩
 ·have hf:(tN ts s).fc≠0:=acp
  rw[aV hf];exact⟨_,rfl,⟨lf 0 0 [] 0 Sl.nil 0,rfl,rE0 _ _ _⟩,(t14.f je aM).dn⟩
 have hf:¬(tN ts s).fc≠0:=acp
 rw[aQ hf];refine⟨_,Blk.dN t14.r.blk 1 rfl,b,1,_,_,rfl,t14.r.blk,aM,t14.ne aM,t14.ne aM,λjm jo TC=>?_⟩;rw[t14.r.wr]at TC;have t16:Zt F ts w jm b l (dq (tN ts s)) [k1,k0]:=t14.up jo TC (h.en.next t14.r.lt (by rw[EN];exact(dx hc).2));refine(xn t16.r).mono ?_;rintro _ jd ⟨rfl,Ng⟩;have t17:=t16.nx Ng;refine⟨_,rfl,t16.sc Ng aM,λjR kD=>?_⟩;have t18:=t17.f kD aM;generalize (ji ts (dq (tN ts s))).2=u at*
 generalize (ji ts (dq (tN ts s))).1=nm at*
 generalize cP ts s [pK,jz,kZ]=kk at*
 generalize (tk ts s.i).a=aa at*
 refine⟨λi4 s1 i5 i6 s2 i7 l2 i8 i9 w'=>∃(x:Ex) (u':Sx),i4=(kk:Int)/\s1=T nm/\i9=aa/\rE true w' (Fr jR.heap.size) x [O U i5,O U i6,ab s2,O U i7,l2.v,O U i8]/\Zt F ts w w' b l u' [k1,k0]/\Jl ts u kk nm aa=(⟨kk,nm,x,aa⟩,eH ts u' [59])/\jR.heap.size<=w'.heap.size,?_,λoT=>?_,λoT=>?_⟩
 ·rintro i4 s1 i5 i6 s2 i7 l2 i8 i9 lc ⟨x,u',rfl,rfl,rfl,hx,t19,hT,hsz⟩;obtain⟨q,jD,e1,lN,hm⟩:=ra t19.r [59];refine⟨q,jD,e1,t19.sq lN aM,hm.mono ?_⟩;rintro _ my ⟨rfl,h21⟩;have t20:=t19.q lN;refine⟨rfl,t20.sc h21 aM,λqw sW=>?_⟩;rw[hT];have zk:=t18.z.k k0 aM;have zs:=t18.z.o.size;have zb:=t18.r.lb;refine⟨_,rfl,⟨[O U i5,O U i6,ab s2,O U i7,l2.v,O U i8],rfl,?_⟩,((t20.nx h21).f sW aM).dn⟩;exact(ic true).low ((ic true).stay hx ((((Stay.refl _ _).q lN).d h21 zb).f sW (.inl zk.2))) zs
 ·have oT:¬kk=2:=λe=>by rw[e]at oT;simp at oT
  obtain⟨q,rB,e1,uA,hm⟩:=ra t18.r [61];refine⟨q,rB,e1,t18.sq uA aM,hm.mono ?_⟩;rintro _ tq ⟨rfl,h24⟩;have t23:=t18.q uA;have t24:=t23.nx h24;refine⟨rfl,t23.sc h24 aM,(LW t24.r).mono ?_⟩;rintro _ oX ⟨cs,rfl,hx,WK⟩;obtain⟨sl,rfl⟩:=dX hx;have t25:=t24.nx WK;refine⟨_,_,_,_,sl,_,rfl,t24.sc WK aM,λrq ke=>?_⟩;have z24:jR.heap.size<=tq.heap.size:=bB uA.size h24.o.size;have zk:=t18.z.k k1 aM;refine⟨_,_,rfl,rfl,rfl,(ic true).low ((ic true).stay hx ((Stay.refl _ _).f ke (.inl aE))) z24,t25.f ke aM,?_,bB z24 (bB WK.o.size ke.size)⟩;unfold Jl;rw[aQ oT]
 have oT:(kk:Int)=2:=adU
 have oT:kk=2:=aE
 refine⟨wF,u,rfl,rfl,rfl,rE0 _ _ _,t18,?_,aY _⟩;unfold Jl;rw[aV oT]
abbrev AcO(B:Nat)(w:av)(la:Sl)(acc:List Ac):Prop:=Own (mG true) 9 139 B w (Fr B) la acc
structure Br (F:aJ) (ts:List Tk) (w w':av) (b:Nat) (l:Sl) (k0 k1 B:Nat) (s:Sx) (acc:List Ac) (la:Sl):Prop where
 r:Sr F ts w' b l s
 b0:aF w' k0 95 [rp b]
 b1:aF w' k1 23 [la.v]
 own:AcO B w' la acc
 o:∃gs,ay (b::k1::gs) w w'/\∀x,x∈gs->B<=x
 n0:b<k0
 n1:b<k1
 n01:k0≠k1
 l0:k0<B
 l1:k1<B
 lB:B<=w'.heap.size
section
variable {k0 k1 B:Nat} {acc:List Ac} {la:Sl} {w2:av}
theorem Br.nx(h:Br F ts w w' b l k0 k1 B s acc la)(k:Dn F ts w' w2 b l s'):Br F ts w w2 b l k0 k1 B s' acc la:=by
 have n0:=h.n0;have n1:=h.n1;have l0:=h.l0;obtain⟨gs,h1,h2⟩:=h.o;exact⟨k.r,k.o.blk h.b0 aaW,k.o.blk h.b1 aaW,h.own.stay (cy true) k.o λx hx=>.inl aaL,
  ⟨gs,h1.trans k.o λx hx=>.inl aaT,h2⟩,n0,n1,h.n01,l0,h.l1,bB h.lB k.o.size⟩
theorem Br.q(h:Br F ts w w' b l k0 k1 B s acc la)(k:ay [] w' w2):Br F ts w w2 b l k0 k1 B s acc la:=h.nx (h.r.dn.q k)
theorem Z5(h:Br F ts w w' b l k0 k1 B s acc la)(hm:acc.length<ts.length):az aq 176 #[ae (some ⟨k1,0,none⟩),ae (some ⟨k0,0,none⟩)] w' λe w2=>e=ak (ai #[])/\∃DT,Br F ts w w2 b l k0 k1 B (ph ts s).2 (acc++[(ph ts s).1]) DT:=by
 refine ret (afd _ _ _ _ ?_);intro w0 cf;have h0:=h.q cf;have n1:=h.n1;have l1:=h.l1;refine⟨λk=>k=k1,rfl,la,h0.b1.Yq 0 rfl,_,h0.b0.Yq 0 rfl,(Z4 h0.r).mono ?_⟩;rintro _ w1 ⟨cs,rfl,hx,h1⟩;have zr:=h0.nx h1;generalize Cn:(ph ts s).1=ac at*
 generalize (ph ts s).2=s1 at*
 have CU:=hx;obtain⟨xc,rfl,M6⟩:=CU;obtain⟨sl,rfl⟩:=dX M6;have vG:=h.r.sm;have Yt:=h0.own.len;obtain⟨y,w2,e2,cH,DT,w3,e3,oz,⟨gs,cT,vZ⟩,_⟩:=lz (P:=aq) (t:=23) (ty:=23) (e:=139) (i:=Tryz.t139) (bytes:=104) (size:=9) (v:=ah (XM ac.k ac.n (lf ac.x.k ac.x.n ac.x.s ac.x.op sl ac.x.a) ac.a).toArray) (x:=ac) (G:=Fr w0.heap.size) (by kernel_rfl) (by kernel_rfl) rfl rfl rfl rfl aL aL aL (cy true) zr.own zr.lB rfl hx (λk hk _=>⟨bB h0.lB hk,h0.own.new hk⟩) aE;have TD:ay gs w1 w3:=(cH.weaken (bs':=gs) λ_ h=>aaQ).trans cT λx hx=>.inl hx;have ru:∀g,g∈gs->B<=g:=λg hg=>(vZ g hg).2.1;refine⟨_,_,_,_,_,_,sl,_,_,rfl,λk hk bT=>(by subst hk;exact h1.o.block k bT aaW),y,w2,e2,bR.only cH,DT,w3,e3,λk hk bT=>(by subst hk;exact cT.block k bT λhm=>(by have:=ru k hm;omega)),k1,0,_,_,rfl,TD.blk zr.b1 (λhm=>by have:=ru k1 hm;omega),aM,λw4 dw pN=>⟨rfl,DT,?_⟩⟩;have n0:=h.n0;have n01:=h.n01;have l0:=h.l0;have z3:=TD.size;have z4:=dw.size;have hlB:=zr.lB;have hOb:∀{x:Nat},x<B->x≠k1->w4.heap[x]? =w1.heap[x]? :=λhx hn=>(dw.block _ aE acM).trans (TD.block _ aE λhm=>(by have:=ru _ hm;omega));obtain⟨gs0,o1,o2⟩:=zr.o;have hr3:Sr F ts w3 b l s1:=zr.r.own TD λx hx=>(by have:=ru x hx;omega)
 refine⟨hr3.one dw n1,(hOb l0 n01).trans zr.b0,pN,?_,⟨gs++gs0,(((o1.weaken (bs':=b::k1::(gs++gs0)) λx hx=>.inl (by simp only[ba,cu]at hx⊢;rcases hx with hx | hx | hx<;>simp[hx])).trans TD λx hx=>.inl acI)).trans dw λx hx=>.inl aaT,λx hx=>?_⟩,n0,n1,n01,l0,l1,aE⟩
 ·refine((oz.mono (cy true) λk hk=>?_).stay (cy true) dw λx hx=>.inl aaL);rcases hk with hk | hk
  ·exact hk
  exact bB hlB hk
 rcases cu.1 hx with hx | hx
 ·exact ru x hx
 exact o2 x hx
theorem Q6(f:Nat)(h:Br F ts w w' b l k0 k1 B s acc la)(hf:mu ts s<f)(hm:acc.length+mu ts s<=ts.length):
  az aq 175 #[rp b,ab (ao #[125]),.func (.func 176) #[] #[ae (some ⟨k1,0,none⟩),ae (some ⟨k0,0,none⟩)]] w' λe w2=>e=ak (ai #[])/\∃DT,Br F ts w w2 b l k0 k1 B (n8 ts f acc s).2 (n8 ts f acc s).1 DT:=by
 refine ret (aff ⟨b,0,none⟩ _ ⟨.func (.func 176) #[] #[ae (some ⟨k1,0,none⟩),ae (some ⟨k0,0,none⟩)],rfl⟩ (λv w2=>v=(ai #[])/\∃DT,Br F ts w w2 b l k0 k1 B (n8 ts f acc s).2 (n8 ts f acc s).1 DT) w' ?_);generalize ab1:n8 ts f acc s=res;refine⟨λnv w2=>∃s' TE DT,Br F ts w w2 b l k0 k1 B s' TE DT/\n8 ts nv TE s'=res/\mu ts s'<nv/\TE.length+mu ts s'<=ts.length,f,⟨s,acc,la,h,ab1,hf,hm⟩,?_⟩;rintro nv w0 ⟨s',TE,DT,h0,hR,hf0,Ww⟩;obtain⟨m,rfl⟩:∃m,nv=m+1:=⟨nv-1,aE⟩
 rw[n8]at hR;refine⟨λbo w2=>(bo=true/\s'.fc=0/\cP ts s' [[125]]=0/\Br F ts w w2 b l k0 k1 B s' TE DT)∨(bo=false/\Br F ts w w2 b l k0 k1 B res.2 res.1 DT),?_,(nM h0.r).mono ?_⟩
 ·rintro bo w1 (⟨rfl,hfc,hw,h1⟩ | ⟨rfl,h1⟩)
  ·refine⟨λ_=>⟨176,[],[_,_],rfl,kn (by kernel_rfl),?_⟩,λhh=>adR⟩;rw[aQ (by simp[hfc]),aQ (by simp[hw])]at hR;have hmu:=ZU h0.r.en hfc h0.r.lt;have YP:mu ts s'<=ts.length:=ads
   refine(Z5 h1 aE).mono ?_;rintro _ w3 ⟨rfl,la2,h3⟩;exact⟨rfl,m,aE,_,_,la2,h3,hR,aE,aba⟩
  exact⟨λhh=>adR,λ_=>⟨rfl,DT,h1⟩⟩
 rintro _ w4 ⟨rfl,dw⟩;have h4:=h0.q dw;refine⟨_,rfl,λhc=>?_,λhc=>?_⟩
 ·have hc:s'.fc=0:=aax
  rw[aQ (by simp[hc])]at hR;obtain⟨q,w5,e1,dY,hk⟩:=Ds h4.r [[125]] (n:=1) (parts:=#[(0,ab (T [125]))]) rfl rfl aL aL;refine⟨q,w5,e1,hk.mono ?_⟩;rintro _ w6 ⟨rfl,h6⟩;have h6:=(h4.q dY).nx h6;refine⟨_,rfl,?_⟩;by_cases hw:cP ts s' [[125]]=0
  ·rw[aV hw]at h6;exact .inl ⟨by rw[hw];rfl,hc,hw,h6⟩
  rw[aQ hw]at h6;rw[aV hw]at hR;subst hR;exact .inr ⟨by simpa using hw,h6⟩
 have hc:s'.fc≠0:=aax
 rw[aV hc]at hR;subst hR;exact .inr ⟨rfl,h4⟩
end
theorem BK(h:Sr F ts w b l s):az aq 141 #[rp b] w λe w'=>∃la:Sl,e=ak la.v/\jH true (mG true) 9 139 w' (Fr w.heap.size) la (ir ts s).1/\Dn F ts w w' b l (ir ts s).2:=by
 refine(afc ⟨b,0,none⟩ (λv w'=>∃la:Sl,v=la.v/\jH true (mG true) 9 139 w' (Fr w.heap.size) la (ir ts s).1/\Dn F ts w w' b l (ir ts s).2) w ?_).mono (by
  rintro e w' ⟨v,rfl,cs,rfl,h⟩;exact⟨cs,rfl,h⟩)
 intro k0 k1 w0 fO dQ kU jC cf;have t0:=((h.zt.q cf).ad fO dQ).ad kU jC;obtain⟨q,w1,e1,cn,hm⟩:=ra t0.r [123];refine⟨q,w1,e1,t0.sq cn aM,hm.mono ?_⟩;rintro _ w2 ⟨rfl,h2⟩;have t1:=t0.q cn;have t2:=t1.nx h2;refine⟨rfl,t1.sc h2 aM,λzu qF=>?_⟩;have hb:=h.lb;have hB:Br F ts w2 w2 b l k0 k1 w2.heap.size (eH ts s [123]) [] Sl.nil:=
  ⟨t2.r,zu,qF,Own.nil _ _ _ _ _ _,⟨[],Only.refl _ _,λ_ h=>aaQ⟩,aE,aE,λe=>(by subst e;have:=zu.symm.trans qF;simp at this),zu.lt,qF.lt,aY _⟩
 refine(Q6 (ts.length+1) hB ads (by rw[bd,bM];unfold mu;split<;>omega)).mono ?_;rintro _ w3 ⟨rfl,la,h3⟩;have z2:=t2.z.o.size;obtain⟨gs,o1,o2⟩:=h3.o;refine⟨rfl,_,h3.b0,_,h3.b1,la,rfl,?_,?_,h3.r⟩
 ·exact(h3.own.sl (cy true) λk hk=>hk).low (cy true) z2
 exact t2.z.o.trans o1 λx hx=>by
  simp only[ba]at hx;rcases hx with rfl | rfl | hx
  ·exact .inl aM
  ·exact .inr kU
  exact .inr (bB z2 (o2 x hx))
end
section
variable {F:aJ} {ts:List Tk} {w w':av} {b:Nat} {l:Sl} {s s':Sx}
structure MvX (A:Nat) (w:av) (m:Mv) (k:Int) (ev:aK) (wt:Int) (gd:Bool) (gc:aI) (pO:Sl) (a:Int):Prop where
 e1:k=m.k
 e2:ev=T m.ev
 e3:wt=m.wt
 e4:gd=m.gd
 e5:a=m.a
 g:rE true w (Fr A) m.g gc
 x:jH true (mG true) 9 139 w (Fr A) pO m.acts
theorem MvX.stay{A:Nat}{m:Mv}{k:Int}{ev:aK}{wt:Int}{gd:Bool}{gc:aI}{pO:Sl}{a:Int}(h:MvX A w m k ev wt gd gc pO a)(hs:Stay A w w'):MvX A w' m k ev wt gd gc pO a:=
 ⟨h.e1,h.e2,h.e3,h.e4,h.e5,(ic true).stay h.g hs,h.x.stay (cy true) aL hs⟩
theorem sI(ts:List Tk)(s:Sx):mu ts s<=ts.length:=ads
theorem BL(h:Sr F ts w b l s){ss:List (aH)}(hw:cP ts s ss≠0):s.i+1<ts.length:=h.en.next h.lt (dx hw).2
theorem VI(h:Sr F ts w b l s)(k:Int)(hk:(tk ts s.i).k≠5):az aq 139 #[rp b,O U k] w λe w'=>∃cs,e=ak (ah cs.toArray)/\Af true w' (Fr w.heap.size) (mE ts k s).1 cs/\Dn F ts w w' b l (mE ts k s).2:=by
 refine(ae7 ⟨b,0,none⟩ k (λv w'=>∃cs,v=(ah cs.toArray)/\Af true w' (Fr w.heap.size) (mE ts k s).1 cs/\Dn F ts w w' b l (mE ts k s).2) w ?_).mono (by
  rintro e w' ⟨v,rfl,cs,rfl,h⟩;exact⟨cs,rfl,h⟩)
 intro k0 w0 fO dQ cf;have t0:=h.zt.al cf fO dQ;obtain⟨ad,g1,g2⟩:=t0.r.now;refine⟨λ_=>True,trivial,l,Blk.dN t0.r.blk 0 rfl,trivial,_,Blk.dN t0.r.blk 1 rfl,ad,g1,trivial,_,g2.dN 3 _ rfl,λk1 w1 kU jC cn=>?_⟩;have t1:=t0.al cn kU jC;refine(Z1 t1.r).mono ?_;rintro _ w2 ⟨rfl,h2⟩;have t2:=t1.nx h2;refine⟨rfl,t1.sc h2 aM,(nM t2.r).mono ?_⟩;rintro _ w3 ⟨rfl,cT⟩;have t3:=t2.q cT;unfold mE;refine⟨_,rfl,t2.sq cT aM,λhf w4 dw=>?_,λhf=>?_⟩
 ·have hf:(rV ts s).fc≠0:=acp
  rw[aV hf];exact⟨_,rfl,⟨lf 0 0 [] 0 Sl.nil 0,Sl.nil,Sl.nil,rfl,rE0 _ _ _,jH.nil _ _ _ _ _ _,jH.nil _ _ _ _ _ _⟩,(t3.f dw aM).dn⟩
 have hf:¬(rV ts s).fc≠0:=acp
 rw[aQ hf];refine⟨_,Blk.dN t3.r.blk 1 rfl,b,1,_,_,rfl,t3.r.blk,aM,t3.ne aM,t3.ne aM,λw5 dY ux=>?_⟩;rw[t3.r.wr]at ux;have t5:Zt F ts w w5 b l (dq (rV ts s)) [k1,k0]:=t3.up dY ux (h.en.next t3.r.lt (by rw[EO];exact hk));have hA:=t5.z.o.size;have hA0:=(t5.z.k k0 aM).2;have hA1:=(t5.z.k k1 aM).2;have hAb:=t5.r.lb;generalize hAA:w5.heap.size=A at*
 generalize (tk ts s.i).a=aa at*
 generalize dq (rV ts s)=u0 at*
 generalize hR:(if k=1 then pi ts {QL k aa with ev:=(ji ts u0).1} (ji ts u0).2 else if k=3 then pi ts {QL k aa with wt:=(ga ts u0 3).1.n} (ga ts u0 3).2 else pi ts (QL k aa) u0)=R;have x0:∀{w':av} {ev:aH} {wt:Int},MvX A w' {QL k aa with ev:=ev,wt:=wt} k (T ev) wt false (lf 0 0 [] 0 Sl.nil 0) Sl.nil aa:=⟨rfl,rfl,rfl,rfl,rfl,rE0 _ _ _,jH.nil _ _ _ _ _ _⟩
 refine⟨λi3 s0 i4 b1 i5 i6 s1 i7 l1 i8 l2 l3 i9 w'=>∃(m:Mv) (u:Sx),MvX A w' m i3 s0 i4 b1 [O U i5,O U i6,ab s1,O U i7,l1.v,O U i8] l2 i9/\m.gd=false/\m.tg=[]/\l3=Sl.nil/\Zt F ts w w' b l u [k1,k0]/\pi ts m u=R/\A<=w'.heap.size,?_,λhc=>?_,λhc=>⟨λvK=>?_,λvK=>?_⟩⟩;rotate_left
 ·have hc:k=1:=aax
  refine(xn t5.r).mono ?_;rintro _ w32 ⟨rfl,h32⟩;have t32:=t5.nx h32;refine⟨_,rfl,t5.sc h32 aM,λw33 aig=>?_⟩;rw[aV hc]at hR;exact⟨_,_,x0,rfl,rfl,rfl,t32.f aig aM,hR,by rw[<-hAA];exact bB h32.o.size aig.size⟩
 ·have hc:¬k=1:=aax
  have vK:k=3:=aeh
  refine(xj t5.r (k:=3) aL).mono ?_;rintro _ w34 ⟨rfl,h34⟩;have t34:=t5.nx h34;refine⟨_,_,_,_,rfl,t5.sc h34 aM,λw35 aih=>?_⟩;rw[aQ hc,aV vK]at hR;exact⟨_,_,x0,rfl,rfl,rfl,t34.f aih aM,hR,by rw[<-hAA];exact bB h34.o.size aih.size⟩
 ·have hc:¬k=1:=aax
  have vK:¬k=3:=aeh
  rw[aQ hc,aQ vK]at hR;exact⟨_,_,x0,rfl,rfl,rfl,t5,hR,KL hAA.symm⟩
 rintro i3 s0 i4 b1 i5 i6 s1 i7 l1 i8 l2 l3 i9 w6 ⟨m,u,hx,Ux,pG,rfl,t6,hR,z6⟩;unfold pi at hR;obtain⟨q,tq,e1,CP,hm⟩:=Ds t6.r [[91]] (n:=1) (parts:=#[(0,ab (T [91]))]) rfl rfl aL aL;have t24:=t6.q CP;refine⟨λi3 s0 i4 b1 i5 i6 s1 i7 l1 i8 l2 l3 i9 w'=>∃(m:Mv) (u:Sx),MvX A w' m i3 s0 i4 b1 [O U i5,O U i6,ab s1,O U i7,l1.v,O U i8] l2 i9/\m.tg=[]/\l3=Sl.nil/\Zt F ts w w' b l u [k1,k0]/\za ts m u=R/\A<=w'.heap.size,?_,q,tq,e1,t6.sq CP aM,hm.mono ?_⟩;rotate_left
 ·rintro _ oX ⟨rfl,WK⟩;have t25:=t24.nx WK;have YJ:Stay A w6 oX:=((Stay.refl A w6).q CP).d WK hAb;refine⟨_,rfl,t24.sc WK aM,λhc rq ke=>?_,λhc Ut Th=>?_⟩
  ·have sS:=N3 hc;rw[aQ sS]at hR t25;have t26:=t25.f ke aM;have s26:=YJ.f ke (.inl hA1);have z26:=s26.sz;refine(LW t26.r).mono ?_;rintro _ uw ⟨cs,rfl,hg,h27⟩;obtain⟨sl,rfl⟩:=dX hg;have t27:=t26.nx h27;refine⟨_,_,_,_,sl,_,rfl,t26.sc h27 aM,λyP vJ=>?_⟩;have t28:=t27.f vJ aM;obtain⟨q2,CN,e2,uy,vj⟩:=ra t28.r [93];have t29:=t28.q uy;refine⟨q2,CN,e2,t28.sq uy aM,vj.mono ?_⟩;rintro _ Pn ⟨rfl,h30⟩;have t30:=t29.nx h30;have s30:=(((s26.d h27 hAb).f vJ (.inl hA1)).q uy).d h30 hAb;refine⟨rfl,t29.sc h30 aM,{m with gd:=true,g:=(nZ ts (dq u)).1},_,⟨hx.e1,hx.e2,hx.e3,hc,hx.e5,?_,hx.x.stay (cy true) aL s30⟩,pG,rfl,t30,hR,bB z6 s30.sz⟩;exact(ic true).low ((ic true).stay hg ((((Stay.refl _ _).f vJ (.inl aE)).q uy).d h30 aE)) aE
  have sS:=N2 hc;rw[aV sS]at hR t25;have s31:=YJ.f Th (.inl hA1);have OU:=hx.stay s31;exact⟨m,u,⟨OU.e1,OU.e2,OU.e3,by rw[hc,Ux],OU.e5,OU.g,OU.x⟩,pG,rfl,t25.f Th aM,hR,bB z6 s31.sz⟩
 clear hx Ux pG t6 hR z6 hm t24;rintro i3 s0 i4 b1 i5 i6 s1 i7 l1 i8 l2 l3 i9 w7 ⟨m,u,hx,pG,rfl,t7,hR,z7⟩;unfold za at hR;obtain⟨q,jD,e1,lN,hm⟩:=LU t7.r [[123]] (n:=1) (parts:=#[(0,ab (T [123]))]) rfl rfl aL aL;have t20:=t7.q lN;refine⟨λi3 s0 i4 b1 i5 i6 s1 i7 l1 i8 l2 l3 i9 w'=>∃(m:Mv) (u:Sx),MvX A w' m i3 s0 i4 b1 [O U i5,O U i6,ab s1,O U i7,l1.v,O U i8] l2 i9/\l3=Sl.nil/\Zt F ts w w' b l u [k1,k0]/\Bt ts m u=R/\A<=w'.heap.size,?_,q,jD,e1,t7.sq lN aM,hm.mono ?_⟩;rotate_left
 ·rintro _ my ⟨rfl,jF⟩;have t21:=t20.q jF;have s21:Stay A w7 my:=((Stay.refl A w7).q lN).q jF;have z21:=s21.sz;refine⟨_,rfl,t20.sq jF aM,λhc=>(BK t21.r).mono ?_,λhc=>?_⟩
  ·rw[aQ (N3 hc)]at hR;rintro _ qw ⟨la,rfl,hla,h22⟩;have t22:=t21.nx h22;refine⟨la,rfl,t21.sc h22 aM,λrB uA=>?_⟩;have s23:=(s21.d h22 hAb).f uA (.inl hA1);refine⟨{m with acts:=(ir ts u).1},_,⟨hx.e1,hx.e2,hx.e3,hx.e4,hx.e5,(ic true).stay hx.g s23,?_⟩,rfl,t22.f uA aM,hR,bB z7 s23.sz⟩;exact(hla.stay (cy true) aL ((Stay.refl _ _).f uA (.inl aE))).low (cy true) aE
  rw[aV (N2 hc)]at hR;exact⟨m,u,hx.stay s21,rfl,t21,hR,bB z7 z21⟩
 clear hx pG t7 hR z7 hm t20;rintro i17 s4 i18 b3 i19 i20 s5 i21 l7 i22 l8 l9 i23 w8 ⟨m,u,hx,rfl,t8,hR,z8⟩;unfold Bt at hR;have hb8:b<w8.heap.size:=aE
 refine⟨λnv sg i24 s7 i25 b4 i26 i27 s8 i28 l10 i29 sU uv i30 w'=>∃(x:aH) (acc:List (aH)) (u':Sx),sg=T x/\MvX A w8 m i24 s7 i25 b4 [O U i26,O U i27,ab s8,O U i28,l10.v,O U i29] sU i30/\Stay A w8 w'/\Own kb 1 9 w8.heap.size w' (Fr w8.heap.size) uv acc/\Zt F ts w w' b l u' [k1,k0]/\qX ts nv x acc u'=qX ts (ts.length+1) [45,62] [] u/\mu ts u'<nv/\acc.length+mu ts u'<=ts.length,ts.length+1,⟨[45,62],[],u,rfl,hx,Stay.refl _ _,Own.nil _ _ _ _ _ _,t8,rfl,wK (sI _ _),adv⟩,?_⟩;clear hx;rintro nv sg i24 s7 i25 b4 i26 i27 s8 i28 l10 i29 sU uv i30 w9 ⟨x,acc,u',rfl,hx,hS,oz,t9,hT,hf1,zM⟩;obtain⟨m',rfl⟩:∃m',nv=m'+1:=⟨nv-1,aE⟩
 rw[qX]at hT;obtain⟨q,de,e1,dT,vj⟩:=Ds t9.r [x] (n:=1) (parts:=#[(0,ab (T x))]) rfl rfl aL aL;have t10:=t9.q dT;refine⟨q,de,e1,t9.sq dT aM,vj.mono ?_⟩;rintro _ dz ⟨rfl,OW⟩;have t11:=t10.nx OW;refine⟨_,rfl,t10.sc OW aM,λhc eu eh=>?_,λhc=>?_⟩
 ·have hc:=N3 hc;rw[aQ hc]at hT t11;have t12:=t11.q eh;refine⟨λk=>k=k1,rfl,(xn t12.r).mono ?_⟩;rintro _ eS ⟨rfl,sX⟩;have t13:=t12.nx sX;have fG:ay [b] w9 eS:=(((dT.weaken (bs':=[b]) λ_ h=>aaQ).trans OW.o λx hx=>.inl hx).ca eh).trans sX.o λx hx=>.inl hx;have zS:=hS.sz;have z9:=fG.size;have vG:=h.sm;have Io:=sI ts u';have hmu:=qe h.en (dx hc).1 t9.r.lt (dx hc).2 (qd h.en (s:=dq u')).toOn0;obtain⟨y,fJ,e2,ec,DT,gY,e3,aij,⟨gs,je,vZ⟩,_⟩:=lz (P:=aq) (t:=41) (ty:=41) (e:=9) (i:=Tryz.t9) (bytes:=16) (size:=1) (v:=ab (T (ji ts (dq u')).1)) (x:=(ji ts (dq u')).1) (G:=λ_=>False) (by kernel_rfl) (by kernel_rfl) rfl rfl rfl rfl aL aL aL cX (oz.stay cX fG λx hx=>.inl aaL) (bB zS z9) rfl rfl (λk hk _=>hk.elim) aE;have ru:∀g,g∈gs->w8.heap.size<=g:=λg hg=>(vZ g hg).2.1;have z8w:=t8.z.o.size;have t14:=t13.q ec;have t15:=t14.row je λx hx=>bB z8w (ru x hx);have nk:=t8.ne (k0:=k1) aM;refine⟨_,rfl,t12.sc sX aM,λk hk bT=>(by subst hk;exact sX.o.block k bT (by simpa using nk)),y,fJ,e2,t13.sq ec aM,bR.only ec,DT,gY,e3,t14.sr je aM (λx hx y hy=>?_),λk hk bT=>(by subst hk;exact je.block k bT λhm=>(by have:=ru k hm;omega)),λjm jo=>⟨m',aE,[44],_,_,rfl,hx,?_,?_,t15.f jo aM,hT,aE,?_⟩⟩
  ·have:=ru x hx;simp only[ba,bp,cb]at hy;omega
  ·exact(((hS.go fG λx hx=>.inl aaL).q ec).go je λx hx=>.inr (ru x hx)).f jo (.inl hA1)
  ·refine((aij.mono cX λk hk=>?_).stay cX jo λx hx=>.inl aaL);rcases hk with hk | hk
   ·exact hk
   exact bB (bB zS z9) hk
  rw[aN,br];omega
 have hc:=N2 hc;rw[aV hc]at hT t11;obtain⟨q2,jd,e2,iZ,OJ⟩:=ra t11.r [59];have t17:=t11.q iZ;refine⟨q2,jd,e2,t11.sq iZ aM,OJ.mono ?_⟩;rintro _ jR ⟨rfl,WO⟩;have t18:=t17.nx WO;refine⟨rfl,t17.sc WO aM,λlc mD=>?_⟩;rw[<-hT]at hR;rw[<-hR];have s9:∀{B:Nat},b<B->k0<B->Stay B w9 lc:=λhb hk=>((((Stay.refl _ _).q dT).d OW hb).q iZ).d WO hb |>.f mD (.inl hk);have s19:Stay A w8 lc:=(((((hS.q dT).d OW hAb).q iZ).d WO hAb).f mD (.inl hA0))
 refine⟨mvv m.k m.ev m.wt m.gd [O U i26,O U i27,ab s8,O U i28,l10.v,O U i29] sU uv m.a,by rw[hx.e1,hx.e2,hx.e3,hx.e4,hx.e5];rfl,⟨_,_,_,rfl,(ic true).low ((ic true).stay hx.g s19) hA,(hx.x.stay (cy true) aL s19).low (cy true) hA,?_⟩,(t18.f mD aM).dn⟩;exact((oz.sl cX λk hk=>hk).stay cX aL (s9 hb8 aE)).low cX aE
end
theorem LX{jK xs:aI}{j:Nat}{v:aw}(h:xs[j]? =some v):(jK++xs)[jK.length+j]? =some v:=by
 rw[cw aE,dM];exact h
theorem mZ(jK xs vs:aI)(j:Nat):cj (jK++xs) (jK.length+j) vs=jK++cj xs j vs:=by
 unfold cj;rw[UG,eo,UH];simp only[bf]
structure NbO (B:Nat) (w:av) (n:Nb) (en lv mv:Sl):Prop where
 en:jH true (mG true) 9 139 w (λk=>B<=k/\mv.a≠some ⟨k,0,none⟩) en n.en
 lv:jH true (mG true) 9 139 w (λk=>B<=k/\mv.a≠some ⟨k,0,none⟩) lv n.lv
 mv:Own (Af true) 13 43 B w (Fr B) mv n.mv
section
variable {B:Nat} {w w':av} {n:Nb} {en lv mv:Sl}
theorem NbO.go(h:NbO B w n en lv mv){bs:List Nat}(k:ay bs w w')(hb:∀x,x∈bs->x<B):NbO B w' n en lv mv:=
 ⟨h.en.keep (cy true) aL λi hi bT=>k.block i bT λhm=>(by have:=hb i hm;omega),h.lv.keep (cy true) aL λi hi bT=>k.block i bT λhm=>(by have:=hb i hm;omega),h.mv.stay (gW true) k λx hx=>.inl (hb x hx)⟩
theorem NbO.Ct(h:NbO B w n en lv mv){gs:List Nat}{nR:Sl}{m:Mv}(oz:Own (Af true) 13 43 B w' (λk=>Fr B k∨w.heap.size<=k) nR (n.mv++[m]))(k:ay gs w w')(vZ:∀g,g∈gs->mv.a=some ⟨g,0,none⟩)(ha:nR.a=mv.a∨∃g,nR.a=some ⟨g,0,none⟩/\w.heap.size<=g)(hB:B<=w.heap.size):NbO B w' {n with mv:=n.mv++[m]} en lv nR:=by
 have go:∀{la:Sl} {xs:List Ac},jH true (mG true) 9 139 w (λk=>B<=k/\mv.a≠some ⟨k,0,none⟩) la xs->jH true (mG true) 9 139 w' (λk=>B<=k/\nR.a≠some ⟨k,0,none⟩) la xs:=λhx=>
  ((hx.inHeap (cy true) aL).keep (cy true) aL λi hi bT=>k.block i bT λhm=>hi.1.2 (vZ i hm)).mono (cy true) λi hi=>⟨hi.1.1,by
   rcases ha with ha | ⟨g,ha,hg⟩
   ·rw[ha];exact hi.1.2
   rw[ha];intro e;injection e with e;injection e with e;have:=hi.2;omega⟩
 exact⟨go h.en,go h.lv,oz.mono (gW true) λi hi=>hi.elim id λhi=>bB hB hi⟩
theorem NbO.ag8(h:NbO B w n en lv mv){A:Nat}{la:Sl}{xs:List Ac}(hx:jH true (mG true) 9 139 w (Fr A) la xs)(hA:B<=A)(hm:∀k,A<=k->mv.a≠some ⟨k,0,none⟩):NbO B w {n with en:=xs} la lv mv:=
 ⟨hx.mono (cy true) λk hk=>⟨bB hA hk,hm k hk⟩,h.lv,h.mv⟩
theorem NbO.ag9(h:NbO B w n en lv mv){A:Nat}{la:Sl}{xs:List Ac}(hx:jH true (mG true) 9 139 w (Fr A) la xs)(hA:B<=A)(hm:∀k,A<=k->mv.a≠some ⟨k,0,none⟩):NbO B w {n with lv:=xs} en la mv:=
 ⟨h.en,hx.mono (cy true) λk hk=>⟨bB hA hk,hm k hk⟩,h.mv⟩
end
abbrev N4(h:Cv):aI:=[aj false,aj h.i,aj h.e,aj h.l]
structure Cl (F:aJ) (ts:List Tk) (w w':av) (b:Nat) (l:Sl) (g t:Nat) (jK:aI) (kh B:Nat) (s:Sx) (n:Nb) (h:Cv) (en lv mv:Sl):Prop where
 r:Sr F ts w' b l s
 nb:aF w' g t (jK++mH n.k n.nm n.ini n.dft en lv mv Sl.nil n.a)
 hb:aF w' kh 166 (N4 h)
 no:NbO B w' n en lv mv
 o:∃gs,ay (b::g::kh::gs) w w'/\∀x,x∈gs->B<=x
 ng:g≠b/\¬F g
 nh:b<kh
 gh:g≠kh
 gB:g<B
 hB:kh<B
 lB:B<=w'.heap.size
section
variable {F:aJ} {ts:List Tk} {w w' w2:av} {b:Nat} {l:Sl} {g t:Nat} {jK:aI} {kh B:Nat} {s s':Sx} {n n':Nb} {h h':Cv} {en lv mv qA qB nR:Sl}
theorem Cl.nx(c:Cl F ts w w' b l g t jK kh B s n h en lv mv)(k:Dn F ts w' w2 b l s'):Cl F ts w w2 b l g t jK kh B s' n h en lv mv:=by
 have ng:=c.ng;have nh:=c.nh;have gB:=c.gB;have hBl:=c.hB;obtain⟨gs,h1,h2⟩:=c.o;exact⟨k.r,k.o.blk c.nb aaW,k.o.blk c.hb aaW,c.no.go k.o λx hx=>aaL,
  ⟨gs,h1.trans k.o λx hx=>.inl aaT,h2⟩,ng,nh,c.gh,gB,c.hB,bB c.lB k.o.size⟩
theorem Cl.q(c:Cl F ts w w' b l g t jK kh B s n h en lv mv)(k:ay [] w' w2):Cl F ts w w2 b l g t jK kh B s n h en lv mv:=c.nx (c.r.dn.q k)
theorem Cl.st(c:Cl F ts w w' b l g t jK kh B s n h en lv mv)(k:ay [g] w' w2)(hB:aF w2 g t (jK++mH n'.k n'.nm n'.ini n'.dft qA qB nR Sl.nil n'.a))(no:NbO B w' n' qA qB nR):Cl F ts w w2 b l g t jK kh B s n' h qA qB nR:=by
 obtain⟨gs,h1,h2⟩:=c.o;have gB:=c.gB;exact⟨c.r.aaK k c.ng,hB,k.blk c.hb (by simpa using λe=>c.gh e.symm),no.go k λx hx=>aaL,⟨gs,h1.trans k λx hx=>.inl aaT,h2⟩,c.ng,c.nh,c.gh,gB,c.hB,bB c.lB k.size⟩
theorem Cl.hd(c:Cl F ts w w' b l g t jK kh B s n h en lv mv)(k:ay [kh] w' w2)(hB:aF w2 kh 166 (N4 h')):Cl F ts w w2 b l g t jK kh B s n h' en lv mv:=by
 obtain⟨gs,h1,h2⟩:=c.o;have Uk:=c.hB;exact⟨c.r.one k c.nh,k.blk c.nb (by simpa using c.gh),hB,c.no.go k λx hx=>aaL,⟨gs,h1.trans k λx hx=>.inl aaT,h2⟩,c.ng,c.nh,c.gh,c.gB,Uk,bB c.lB k.size⟩
def agm(h:Cv)(j:Nat):Bool:=if j=1 then h.i else if j=2 then h.e else h.l
def Q7(h:Cv)(j:Nat):Cv:=if j=1 then{h with i:=true}else if j=2 then{h with e:=true}else{h with l:=true}
theorem j3{j:Nat}(h0:j≠0)(h3:j<=3):j=1∨j=2∨j=3:=aE
theorem N5(c:Cl F ts w w' b l g t jK kh B s n h en lv mv)(hm:n.mv.length<ts.length):az aq 97 #[rp b,ae (some ⟨g,jK.length,none⟩),ae (some ⟨kh,0,none⟩)] w' λe w2=>e=ak (aj (dG ts n h s).1)/\
  ∃qA qB nR,Cl F ts w w2 b l g t jK kh B (dG ts n h s).2.2.2 (dG ts n h s).2.1 (dG ts n h s).2.2.1 qA qB nR:=by
 refine ret (ae6 _ _ _ _ _ ?_);have vG:=c.r.sm;obtain⟨q,w0,e1,cf,Ww⟩:=LU c.r [zH,gD,im] (n:=3) (parts:=#[(0,ab (T zH)),(1,ab (T gD)),(2,ab (T im))]) rfl rfl aL aL;refine⟨q,w0,e1,Ww.mono ?_⟩;rintro _ w1 ⟨rfl,cn⟩;have c1:=(c.q cf).q cn;refine⟨_,rfl,λhc w2 cH=>?_,λhc=>?_⟩
 ·have hc:=N3 hc;have c2:=c1.q cH;have qv:dG ts n h s=(true,{n with mv:=n.mv++[(mE ts (cP ts s [zH,gD,im]:Nat) s).1]},h,(mE ts (cP ts s [zH,gD,im]:Nat) s).2):=by
   unfold dG;rw[aV hc]
  rw[qv];refine⟨λk=>k=g,_,rfl,rfl,mv,c2.nb.Yq (jK.length+6) (LX rfl),(VI c2.r _ (dx hc).2).mono ?_⟩;rintro _ w3 ⟨cs,rfl,hx,h3⟩;have c3:=c2.nx h3;generalize (mE ts (cP ts s [zH,gD,im]:Nat) s).1=m at*
  generalize (mE ts (cP ts s [zH,gD,im]:Nat) s).2=u at*
  have CU:=hx;obtain⟨gc,pO,tg,rfl,hg,_,_⟩:=CU;obtain⟨sl,rfl⟩:=dX hg;have ng:=c.ng;have gB:=c.gB;obtain⟨y,w4,e2,dw,nR,w5,e3,oz,⟨gs,dY,vZ⟩,ha⟩:=lz (P:=aq) (t:=24) (ty:=24) (e:=43) (i:=Tryz.t43) (bytes:=168) (size:=13) (v:=ah (mvv m.k m.ev m.wt m.gd (lf m.g.k m.g.n m.g.s m.g.op sl m.g.a) pO tg m.a).toArray) (x:=m) (G:=Fr w2.heap.size) (by kernel_rfl) (by kernel_rfl) rfl rfl rfl rfl aL aL aL (gW true) c3.no.mv c3.lB rfl hx (λk hk _=>⟨bB c2.lB hk,c2.no.mv.new hk⟩) aE;have zR:ay gs w3 w5:=(dw.weaken (bs':=gs) λ_ h=>aaQ).trans dY λx hx=>.inl hx;have ru:∀x,x∈gs->B<=x:=λx hx=>(vZ x hx).2.1;have hn:g∉gs:=λhm=>by have:=ru g hm;omega
  have ux:=zR.blk c3.nb hn;refine⟨_,_,_,_,_,_,_,_,sl,_,pO,tg,_,rfl,λk hk bT=>(by subst hk;exact h3.o.block k bT aaW),y,w4,e2,bR.only dw,nR,w5,e3,λk hk bT=>(by subst hk;exact dY.block k bT hn),_,rfl,g,_,_,_,rfl,ux,aM,λw6 dK Pv=>⟨rfl,en,lv,nR,?_⟩⟩;rw[mZ]at Pv;have no5:=c3.no.Ct oz zR (λx hx=>(vZ x hx).1) ha c3.lB;obtain⟨gs0,o1,o2⟩:=c3.o;have nh:=c.nh;have hBB:=c.hB;have lB:=c3.lB;have hgh:=c.gh;have z5:=zR.size;have z6:=dK.size;exact⟨(c3.r.own zR λx hx=>(by have:=ru x hx;omega)).aaK dK ng,Pv,(dK.block kh (by have:=c3.hb.lt;omega) aaW).trans (zR.blk c3.hb λhm=>(by have:=ru kh hm;omega)),
   no5.go dK λx hx=>aaL,⟨gs++gs0,((o1.weaken (bs':=b::g::kh::(gs++gs0)) λx hx=>.inl (by simp only[ba,cu]at hx⊢;rcases hx with hx | hx | hx | hx<;>simp[hx])).trans zR λx hx=>.inl acI).trans dK λx hx=>.inl aaT,λx hx=>(cu.1 hx).elim (ru x) (o2 x)⟩,ng,nh,hgh,gB,hBB,aE⟩
 have hc:=N2 hc;obtain⟨q,w7,e1,fK,Ww⟩:=LU c1.r [fb,io,iq] (n:=3) (parts:=#[(0,ab (T fb)),(1,ab (T io)),(2,ab (T iq))]) rfl rfl aL aL;refine⟨q,w7,e1,Ww.mono ?_⟩;rintro _ w8 ⟨rfl,fj⟩;have c8:=(c1.q fK).q fj;have vW:cP ts s [fb,io,iq]<=3:=Hc _;refine⟨_,rfl,λhj=>?_,λhj=>?_⟩
 ·have hj:=agk hj;have qv:dG ts n h s=(false,n,h,s):=by unfold dG;rw[aQ aax,hj];rfl
  rw[qv];exact⟨rfl,_,_,_,c8⟩
 have hj:=agl hj;have hnx:=BL c.r hj;have qv:dG ts n h s=(if agm h (cP ts s [fb,io,iq])then(false,n,h,jc ts s)else if cP ts s [fb,io,iq]=1 then(true,{n with ini:=(ji ts (dq s)).1},Q7 h 1,eH ts (ji ts (dq s)).2 [59])else if cP ts s [fb,io,iq]=2 then(true,{n with en:=(ir ts (dq s)).1},Q7 h 2,(ir ts (dq s)).2)else(true,{n with lv:=(ir ts (dq s)).1},Q7 h 3,(ir ts (dq s)).2)):=by
  unfold dG;rw[aQ aax];rcases j3 hj vW with e | e | e<;>rw[e]<;>rfl
 rw[qv];generalize cP ts s [fb,io,iq]=j at*
 have Ts:(N4 h)[j]? =some (aj (agm h j)):=by rcases j3 hj vW with e | e | e<;>rw[e]<;>rfl
 have hp:KV ⟨kh,0,none⟩ (j:Int) 4 1 ⟨kh,j,none⟩:=⟨aE,aE,by rw[gH,aX];simp⟩
 refine⟨_,rfl,⟨kh,j,none⟩,hp,_,c8.hb.Yq j Ts,λhh=>?_,λhh=>?_⟩
 ·rw[aV hh];refine(tX c8.r).mono ?_;rintro _ w9 ⟨rfl,h9⟩;exact⟨rfl,rfl,_,_,_,c8.nx h9⟩
 rw[aQ acW];refine⟨_,rfl,⟨kh,j,none⟩,hp,kh,j,_,_,rfl,c8.hb,by show j+1<=4;omega,λde dT oy=>?_⟩;have c10:Cl F ts w de b l g t jK kh B s n (Q7 h j) en lv mv:=c8.hd dT (by
  have e:cj (N4 h) j [aj true]=N4 (Q7 h j):=by rcases j3 hj vW with e | e | e<;>rw[e]<;>rfl
  rwa[e]at oy)
 refine⟨_,Blk.dN c10.r.blk 1 rfl,b,1,_,_,rfl,c10.r.blk,aM,λdz dH CQ=>?_⟩;rw[c.r.wr]at CQ;have Uy:=c10.nx (s':=dq s) ⟨dH,c10.r.jX dH CQ hnx⟩;refine⟨λw'=>∃qA qB nR,Cl F ts w w' b l g t jK kh B _ _ _ qA qB nR,λeu CX=>⟨by split<;>(try split)<;>rfl,CX⟩,λIC=>?_,λIC=>⟨λWv=>?_,λWv=>?_⟩⟩
 ·have e1:j=1:=by have:(j:Int)=1:=(by simpa using IC);omega
  subst e1;rw[aV rfl];refine(xn Uy.r).mono ?_;rintro _ eS ⟨rfl,sX⟩;have c13:=Uy.nx sX;refine⟨_,rfl,_,rfl,g,_,_,_,rfl,c13.nb,aM,λfJ ec Ij=>?_⟩;rw[mZ]at Ij;have c14:=c13.st (n':={n with ini:=(ji ts (dq s)).1}) ec Ij ⟨c13.no.en,c13.no.lv,c13.no.mv⟩;obtain⟨q,gY,e1,je,Ww⟩:=ra c14.r [59];refine⟨q,gY,e1,Ww.mono ?_⟩;rintro _ jm ⟨rfl,WQ⟩;exact⟨rfl,_,_,_,(c14.q je).nx WQ⟩
 ·have e1:j=2:=by have:(j:Int)=2:=(by simpa using Wv);omega
  subst e1;rw[aQ aL,aV rfl];refine(BK Uy.r).mono ?_;rintro _ jd ⟨la,rfl,hla,Ng⟩;have c17:=Uy.nx Ng;refine⟨la,rfl,_,rfl,g,_,_,_,rfl,c17.nb,aM,λjR kD TF=>?_⟩;rw[mZ]at TF;exact⟨_,_,_,c17.st (n':={n with en:=(ir ts (dq s)).1}) kD TF (c17.no.ag8 hla Uy.lB λk hk=>Uy.no.mv.new hk)⟩
 have e0:j≠1:=λe=>by rw[e]at IC;simp at IC
 have e1:j=3:=by have:¬(j:Int)=2:=(by simpa using Wv);omega
 subst e1;rw[aQ aL,aQ aL];refine(BK Uy.r).mono ?_;rintro _ lc ⟨la,rfl,hla,h19⟩;have c19:=Uy.nx h19;refine⟨la,rfl,_,rfl,g,_,_,_,rfl,c19.nb,aM,λjD lN ain=>?_⟩;rw[mZ]at ain;exact⟨_,_,_,c19.st (n':={n with lv:=(ir ts (dq s)).1}) lN ain (c19.no.ag9 hla Uy.lB λk hk=>Uy.no.mv.new hk)⟩
end
section
variable {F:aJ} {ts:List Tk} {w w' w2:av} {b:Nat} {l:Sl} {s s':Sx}
theorem Ho(h:Sr F ts w b l s)(k:Int):az aq 46 #[rp b,O U k] w λe w'=>e=ak (ah (mH (eX ts k s).1.k (eX ts k s).1.nm [] [] Sl.nil Sl.nil Sl.nil Sl.nil (eX ts k s).1.a).toArray)/\Dn F ts w w' b l (eX ts k s).2:=by
 refine ret (ae1 _ _ _ _ ?_);intro k0 k1 w0 fO dQ kU jC cf;have t0:=((h.zt.q cf).ad fO dQ).ad kU jC;obtain⟨ad,g1,g2⟩:=t0.r.now;refine⟨λw'=>Zt F ts w w' b l (pZ ts s) [k1,k0],λw1 t1=>(xj t1.r (k:=1) aL).mono ?_,l,Blk.dN t0.r.blk 0 rfl,_,Blk.dN t0.r.blk 1 rfl,ad,g1,_,g2.dN 0 _ rfl,λhc w5 dY=>?_,λhc w8 fj=>?_⟩
 ·rintro _ w2 ⟨rfl,h2⟩;have t2:=t1.nx h2;refine⟨_,_,_,_,rfl,t1.sc h2 aM,λk2 w3 oT nC cT n1 n2 n3=>⟨λk=>k=k2,rfl,λe=>n3 e,λe=>n3 e,λw4 dw=>⟨rfl,?_⟩⟩⟩;have t3:=t2.q cT;have z3:=t3.z.go dw λx hx=>.inr ab0;exact⟨z3.o,t3.r.own dw λx hx=>t3.lt ab0⟩
 ·have hc:(tk ts s.i).k=1:=aax
  have t5:=t0.q dY;unfold pZ;rw[aV hc];refine(Z2 t5.r).mono ?_;rintro _ w6 ⟨rfl,h6⟩;have t6:=t5.nx h6;refine⟨rfl,t5.sc h6 aM,_,Blk.dN t6.r.blk 6 rfl,λhd=>?_,λhd=>?_⟩
  ·rw[aV (by simpa using hd)];refine(Al t6.r 21).mono ?_;rintro _ w7 ⟨rfl,h7⟩;exact⟨rfl,t6.sc h7 aM,t6.nx h7⟩
  rw[aQ (by simpa using hd)];exact t6
 have hc:¬(tk ts s.i).k=1:=aax
 unfold pZ;rw[aQ hc];exact t0.q fj
def XV(F:aJ)(ts:List Tk)(b:Nat)(l:Sl)(f:Nat)(d:Int):Prop:=∀(k:Int) (u:Sx) (w:av),Sr F ts w b l u->u.d=d->az aq 98 #[rp b,O U k] w λe w'=>∃cs,e=ak (ah cs.toArray)/\kj true f w' (Fr w.heap.size) (ki ts f k u).1 cs/\Dn F ts w w' b l (ki ts f k u).2
theorem Q8{f:Nat}(hf:0<f)(w:av)(G:aJ):kj true f w G NS (mH 0 [] [] [] Sl.nil Sl.nil Sl.nil Sl.nil 0):=by
 obtain⟨m,rfl⟩:∃m,f=m+1:=⟨f-1,aE⟩
 exact⟨_,_,_,_,rfl,⟨jH.nil _ _ _ _ _ _,jH.nil _ _ _ _ _ _,jH.nil _ _ _ _ _ _⟩,jH.nil _ _ _ _ _ _⟩
abbrev XW(f B:Nat)(w:av)(s:Sl)(xs:List Nd):Prop:=Own (kj true f) 9 27 B w (Fr B) s xs
theorem Dt{f B g t:Nat}{jK:aI}{n1:Nb}{en lv mv l2 l8:Sl}{acc:List Nd}{x:Nd}{k:Int}{nm ini dft:aH}{a b1 b2 b3:Sl}{at_:Int}{k0:Nat}{Q:av->Prop}{H:aJ}
  (hx:kj true f w H x (mH k nm ini dft a b1 b2 b3 at_)) (hH:∀i,H i->i<w.heap.size->Fr B i/\l8.a≠some ⟨i,0,none⟩) (hH':∀i,H i->B<=i) (oz:XW f B w l8 (acc++[NS])) (hn:l2.n=acc.length)
  (vH:aF w g t (jK++mH n1.k n1.nm n1.ini n1.dft en lv mv l2 n1.a)) (hg:g<B) (fO:k0<B) (hgk:k0≠g)
  (hQ:∀w',aF w' g t (jK++mH n1.k n1.nm n1.ini n1.dft en lv mv l8 n1.a)->XW f B w' l8 (acc++[x])->(∃gk,B<=gk/\ay [g,gk] w w')->Q w'):
  ∃p1:Addr,cR l8 (l2.n:Int) 9 p1/\∃p2:Addr,(some (⟨g,jK.length,none⟩:Addr))=(some p2)/\
   (∃vY Na:Nat,∃z2:aI,∃OL:Nat,p1=⟨vY,Na,none⟩/\aF w vY OL z2/\(Na+9)<=z2.length/\k0≠vY/\
    ∀gY:av,ay [vY] w gY->aF gY vY OL (cj z2 Na [O U k,ab (T nm),ab (T ini),ab (T dft),a.v,b1.v,b2.v,b3.v,O U at_])->∃Ig Us:Nat,∃z3:aI,∃k18:Nat,(p2.add 7)=⟨Ig,Us,none⟩/\
    aF gY Ig k18 z3/\(Us+1)<=z3.length/\k0≠Ig/\∀jm:av,ay [Ig] gY jm->aF jm Ig k18 (cj z3 Us [l8.v])->Q jm)/\
   ∃Kn Ko:Nat,∃z4:aI,∃k21:Nat,(p2.add 7)=⟨Kn,Ko,none⟩/\aF w Kn k21 z4/\(Ko+1)<=z4.length/\k0≠Kn/\
    ∀jd:av,ay [Kn] w jd->aF jd Kn k21 (cj z4 Ko [l8.v])->∃S7 k23:Nat,∃z5:aI,∃k24:Nat,p1=⟨S7,k23,none⟩/\
    aF jd S7 k24 z5/\(k23+9)<=z5.length/\k0≠S7/\∀jR:av,ay [S7] jd jR->aF jR S7 k24 (cj z5 k23 [O U k,ab (T nm),ab (T ini),ab (T dft),a.v,b1.v,b2.v,b3.v,O U at_])->Q jR:=by
 have bT:l2.n<(acc++[NS]).length:=aba
 have Ib:(acc++[NS]).set l2.n x=acc++[x]:=by rw[hn,qG _ _ (aY _),nH];rfl
 obtain⟨gk,cells,a1,a2,a3,a4,a5⟩:=Own.store (bU true f) oz bT (vs:=mH k nm ini dft a b1 b2 b3 at_) rfl hx hH aL;have hgB:=(oz.blk a1).1;dsimp only at hgB;refine⟨_,a2,_,rfl,⟨gk,l2.n*9,cells,_,rfl,a3,a4,aE,λgY je ab2=>⟨g,jK.length+7,_,t,rfl,je.blk vH aaW,aM,hgk,λjm jo TC=>?_⟩⟩,g,jK.length+7,_,t,rfl,vH,aM,hgk,λjd iZ aip=>?_⟩
 ·rw[mZ]at TC;have o15:=a5 gY je ab2;rw[Ib]at o15;exact hQ jm TC (o15.stay (bU true f) jo λx hx=>.inl aaL) ⟨gk,hgB,(je.weaken (bs':=[g,gk]) λx hx=>.inl aaT).trans jo λx hx=>.inl aaT⟩
 rw[mZ]at aip;have z17:=iZ.size;have aiq:XW f B jd l8 (acc++[NS]):=oz.stay (bU true f) iZ λx hx=>.inl aaL;have anG:kj true f jd (λi=>H i/\i<w.heap.size) x (mH k nm ini dft a b1 b2 b3 at_):=(bU true f).keep ((bU true f).inHeap hx) λi hi bT=>iZ.block i bT (by have:=hH' i hi.1;simp only[aO];omega);obtain⟨gk',ab3,c1,c2,c3,c4,c5⟩:=Own.store (bU true f) aiq bT (vs:=mH k nm ini dft a b1 b2 b3 at_) rfl anG (λi hi _=>hH i hi.1 hi.2) aL;have e:gk'=gk:=by
  rw[a1]at c1;injection c1 with c1;injection c1 with c1;exact c1.symm
 subst e;refine⟨gk',l2.n*9,ab3,_,rfl,c3,c4,aE,λjR kD TF=>?_⟩;have o18:=c5 jR kD TF;rw[Ib]at o18;exact hQ jR (kD.blk aip aaW) o18 ⟨gk',hgB,(iZ.weaken (bs':=[g,gk']) λx hx=>.inl aaT).trans kD λx hx=>.inl aaT⟩
structure Kd (F:aJ) (ts:List Tk) (w w':av) (b:Nat) (l:Sl) (g t:Nat) (jK:aI) (f B B2:Nat) (n:Nb) (en lv mv:Sl) (s:Sx) (acc:List Nd) (kids:Sl):Prop where
 r:Sr F ts w' b l s
 nb:aF w' g t (jK++mH n.k n.nm n.ini n.dft en lv mv kids n.a)
 no:EP true w' (λk=>B<=k/\k<B2) n en lv mv
 kd:XW f B2 w' kids acc
 o:ay [b,g] w w'
 lB:B2<=w'.heap.size
section
variable {g t:Nat} {jK:aI} {f B B2:Nat} {n:Nb} {en lv mv kids:Sl} {acc:List Nd}
theorem Kd.nx(h:Kd F ts w w' b l g t jK f B B2 n en lv mv s acc kids)(OQ:g≠b)(hb:b<B)(hB:B<=B2)(k:Dn F ts w' w2 b l s'):Kd F ts w w2 b l g t jK f B B2 n en lv mv s' acc kids:=
 ⟨k.r,k.o.blk h.nb aaW,h.no.keep λi hi bT=>k.o.block i bT aaW,h.kd.stay (bU true f) k.o λx hx=>.inl aaL,
  h.o.trans k.o λx hx=>.inl aaT,bB h.lB k.o.size⟩
end
end
section
variable {F:aJ} {ts:List Tk} {w w' w2:av} {b:Nat} {l:Sl} {s s':Sx}
structure Cl0 (F:aJ) (ts:List Tk) (w w':av) (b:Nat) (l:Sl) (g t:Nat) (jK:aI) (kh B:Nat) (s:Sx) (n:Nb) (en lv mv:Sl):Prop where
 r:Sr F ts w' b l s
 nb:aF w' g t (jK++mH n.k n.nm n.ini n.dft en lv mv Sl.nil n.a)
 no:NbO B w' n en lv mv
 o:∃gs,ay (b::g::kh::gs) w w'/\∀x,x∈gs->B<=x
 ng:g≠b/\¬F g
 nh:b<kh
 gh:g≠kh
 gB:g<B
 hB:kh<B
 lB:B<=w'.heap.size
section
variable {g t:Nat} {jK:aI} {kh B:Nat} {n:Nb} {h:Cv} {en lv mv:Sl}
theorem Cl.c0(c:Cl F ts w w' b l g t jK kh B s n h en lv mv):Cl0 F ts w w' b l g t jK kh B s n en lv mv:=⟨c.r,c.nb,c.no,c.o,c.ng,c.nh,c.gh,c.gB,c.hB,c.lB⟩
theorem Cl0.cl(c:Cl0 F ts w w' b l g t jK kh B s n en lv mv)(hb:aF w' kh 166 (N4 h)):Cl F ts w w' b l g t jK kh B s n h en lv mv:=⟨c.r,c.nb,hb,c.no,c.o,c.ng,c.nh,c.gh,c.gB,c.hB,c.lB⟩
theorem Cl0.nx(c:Cl0 F ts w w' b l g t jK kh B s n en lv mv)(k:Dn F ts w' w2 b l s'):Cl0 F ts w w2 b l g t jK kh B s' n en lv mv:=by
 have ng:=c.ng;have gB:=c.gB;have nh:=c.nh;have hBl:=c.hB;obtain⟨gs,h1,h2⟩:=c.o;exact⟨k.r,k.o.blk c.nb aaW,c.no.go k.o λx hx=>aaL,
  ⟨gs,h1.trans k.o λx hx=>.inl aaT,h2⟩,ng,c.nh,c.gh,gB,c.hB,bB c.lB k.o.size⟩
theorem Cl0.q(c:Cl0 F ts w w' b l g t jK kh B s n en lv mv)(k:ay [] w' w2):Cl0 F ts w w2 b l g t jK kh B s n en lv mv:=c.nx (c.r.dn.q k)
theorem Cl0.sc(c:Cl0 F ts w w' b l g t jK kh B s n en lv mv)(k:Dn F ts w' w2 b l s'):bS [kh] w' w2:=k.o.same λx hx=>by
 have:=c.nh;have:=c.hB;have:=c.lB;simp only[aO]at hx⊢;omega
theorem Cl0.sq(c:Cl0 F ts w w' b l g t jK kh B s n en lv mv)(k:ay [] w' w2):bS [kh] w' w2:=c.sc (c.r.dn.q k)
end
theorem Jw(n:Nb)(h:Cv)(s:Sx):(dG ts n h s).2.1.mv.length<=n.mv.length+1:=by
 unfold dG;split
 ·dsimp only;rw[aN,br];omega
 split
 ·exact jr _
 ·split<;>exact jr _
 ·split<;>exact jr _
 split<;>exact jr _
theorem LY{f:Nat}(h:Sr F ts w b l s){g t:Nat}{jK:aI}{n:Nb}(zv:n.en=[])(uD:n.lv=[])(oQ:n.mv=[])(hB:aF w g t (jK++mH n.k n.nm n.ini n.dft Sl.nil Sl.nil Sl.nil Sl.nil n.a))(hg:g≠b/\¬F g)(hd:wE s.d)(hN:s.fc=0->0<f/\XV F ts b l f (yp s.d)):
  az aq 49 #[rp b,ae (some ⟨g,jK.length,none⟩)] w λe w'=>e=ak (ai #[])/\∃cs,aF w' g t (jK++cs)/\kj true (f+1) w' (Fr w.heap.size) (pY ts (ki ts f) n s).1 cs/\ay [b,g] w w'/\Sr F ts w' b l (pY ts (ki ts f) n s).2:=by
 refine ret (ae5 _ _ _ _ ?_);intro k0 w0 fO dQ cf;have t0:=h.zt.al cf fO dQ;have hgw:=hB.lt;have hbw:=h.lb;refine⟨_,Blk.dN t0.r.blk 6 rfl,b,6,_,_,rfl,t0.r.blk,aM,t0.ne aM,λw1 cn qF=>?_⟩;have t1:Zt F ts w w1 b l {s with d:=yp s.d} [k0]:=t0.up cn qF h.lt;have nb1:aF w1 g t (jK++mH n.k n.nm n.ini n.dft Sl.nil Sl.nil Sl.nil Sl.nil n.a):=cn.blk (cf.blk hB aM) aaW;have zw1:=t1.z.o.size;have zk:=(t1.z.k k0 aM).2;generalize hBB:w1.heap.size=B at*
 have hgB:g<B:=aE
 have c1:Cl0 F ts w w1 b l g t jK k0 B {s with d:=yp s.d} n Sl.nil Sl.nil Sl.nil:=⟨t1.r,nb1,⟨by rw[zv];exact jH.nil _ _ _ _ _ _,by rw[uD];exact jH.nil _ _ _ _ _ _,by rw[oQ];exact Own.nil _ _ _ _ _ _⟩,
  ⟨[],t1.z.o.weaken λx hx=>.inl aaT,λx hx=>adn⟩,hg,aE,aE,hgB,zk,KL hBB.symm⟩
 have hbB:b<B:=aE
 unfold pY;dsimp only;generalize hC:gq ts (ts.length+1) n ⟨false,false,false⟩ {s with d:=yp s.d}=C;have air:On ts {s with d:=yp s.d} C.2:=by rw[<-hC];exact wi h.en _ _ _ _
 refine⟨λnv b0 b1 b2 b3 w'=>∃(n':Nb) (hd:Cv) (s':Sx) (en lv mv:Sl),b0=false/\b1=hd.i/\b2=hd.e/\b3=hd.l/\Cl0 F ts w w' b l g t jK k0 B s' n' en lv mv/\gq ts nv n' hd s'=C/\mu ts s'<nv/\n'.mv.length+mu ts s'<=ts.length,ts.length+1,
  ⟨n,⟨false,false,false⟩,_,_,_,_,rfl,rfl,rfl,rfl,c1,hC,wK (sI _ _),by rw[oQ,bd,bM];exact sI _ _⟩,?_⟩
 rintro nv _ _ _ _ w2 ⟨n',hd',s',en,lv,mv,rfl,rfl,rfl,rfl,c2,hR,hf1,zM⟩;obtain⟨m,rfl⟩:∃m,nv=m+1:=⟨nv-1,aE⟩
 rw[gq]at hR;refine⟨λb4 b5 b6 b7 b8 w'=>(b4=true/\∃(n':Nb) (hd:Cv) (s':Sx) (en lv mv:Sl),b5=false/\b6=hd.i/\b7=hd.e/\b8=hd.l/\Cl0 F ts w w' b l g t jK k0 B s' n' en lv mv/\gq ts m n' hd s'=C/\mu ts s'<m/\n'.mv.length+mu ts s'<=ts.length)∨
  (b4=false/\∃(en lv mv:Sl),Cl0 F ts w w' b l g t jK k0 B C.2 C.1 en lv mv),?_,(nM c2.r).mono ?_⟩
 rotate_left
 ·rintro _ CN ⟨rfl,uy⟩;have c29:=c2.q uy;refine⟨_,rfl,c2.sq uy,λhc hBk=>?_,λhc=>?_⟩
  ·have hc:s'.fc=0:=aax
   rw[aQ (by simp[hc])]at hR;have Io:=sI ts s';have bT:=c2.r.lt;have atA:0<mu ts s':=by unfold mu;rw[aV hc];omega
   have fi:=Jw (ts:=ts) n' hd' s';refine(N5 (c29.cl (h:=hd') hBk) aE).mono ?_;rintro _ Pn ⟨rfl,qA,qB,nR,c30⟩;refine⟨_,rfl,_,_,_,_,c30.hb,?_⟩;cases qv:(dG ts n' hd' s').1 with
   | true=>
    rw[aV qv]at hR;have hmu:=NU h.en n' hd' hc bT qv;exact .inl ⟨rfl,_,_,_,_,_,_,rfl,rfl,rfl,rfl,c30.c0,hR,aE,aE⟩
   | false=>
    rw[aQ (by rw[qv];decide)]at hR;refine .inr ⟨rfl,qA,qB,nR,?_⟩;rw[<-hR];exact c30.c0
  have hc:s'.fc≠0:=aax
  rw[aV hc]at hR;refine .inr ⟨rfl,en,lv,mv,?_⟩;rw[<-hR];exact c29
 clear hR hf1 zM c2;rintro b4 b5 b6 b7 b8 w3 (⟨rfl,hh⟩ | ⟨rfl,en,lv,mv,c3⟩)
 ·exact⟨λ_=>⟨m,O6 _,hh⟩,λhh=>adR⟩
 refine⟨λhh=>adR,λ_=>?_⟩;generalize C.1=n1 at*
 generalize C.2=s1 at*
 have hsB:B<=w3.heap.size:=c3.lB;have no3:EP true w3 (λk=>B<=k/\k<w3.heap.size) n1 en lv mv:=
  ⟨(c3.no.en.inHeap (cy true) aL).mono (cy true) λk hk=>⟨hk.1.1,hk.2⟩,(c3.no.lv.inHeap (cy true) aL).mono (cy true) λk hk=>⟨hk.1.1,hk.2⟩,(c3.no.mv.sl (gW true) λk hk=>hk).inHeap (gW true) aL⟩
 obtain⟨gs3,o3,o3'⟩:=c3.o;have o3:ay [b,g] w w3:=o3.weaken λx hx=>by
  simp only[ba]at hx;rcases hx with rfl | rfl | rfl | hx
  ·exact .inl aM
  ·exact .inl aM
  ·exact .inr fO
  exact .inr (bB zw1 (o3' x hx))
 have k3:Kd F ts w w3 b l g t jK f B w3.heap.size n1 en lv mv s1 [] Sl.nil:=⟨c3.r,c3.nb,no3,Own.nil _ _ _ _ _ _,o3,aY _⟩
 generalize lS:w3.heap.size=B2 at*
 clear c3 no3 o3 o3' hC;generalize hK:sH ts (ki ts f) (ts.length+1) [] s1=K;have sk:∀{u u':av} {x y:Sx},B2<=u.heap.size->Dn F ts u u' b l y->bS [k0] u u':=λhz k=>k.o.same λx hx=>by
  simp only[aO]at hx⊢;omega
 have TG:∀{u u':av} {x y:Sx} {acc:List Nd} {kids:Sl},Kd F ts w u b l g t jK f B B2 n1 en lv mv x acc kids->Dn F ts u u' b l y->Kd F ts w u' b l g t jK f B B2 n1 en lv mv y acc kids:=λa k=>a.nx hg.1 hbB hsB k;have go:∀{u:av} {x:Sx} {acc:List Nd} {kids:Sl},Kd F ts w u b l g t jK f B B2 n1 en lv mv x acc kids->∃(q:Sl) (u2:av),(au 41 4 #[.mk 0 (ab (ao #[115,116,97,116,101])),.mk 1 (ab (ao #[112,97,114,97,108,108,101,108])),.mk 2 (ab (ao #[104,105,115,116,111,114,121])),.mk 3 (ab (ao #[100,101,101,112]))]).run aq u=.ok q.v u2/\bS [k0] u u2/\az aq 96 #[rp b,q.v] u2 λe u3=>e=ak (O U (cP ts x pj:Nat))/\bS [k0] u2 u3/\Kd F ts w u3 b l g t jK f B B2 n1 en lv mv x acc kids:=fun{u x acc kids} a=>by
  obtain⟨q,u2,e1,hO,hm⟩:=LU a.r pj (n:=4) (parts:=#[(0,ab (T Bs)),(1,ab (T qW)),(2,ab (T tP)),(3,ab (T Hb))]) rfl rfl aL aL;have a2:=TG a (a.r.dn.q hO);refine⟨q,u2,e1,sk (x:=x) a.lB (a.r.dn.q hO),hm.mono ?_⟩;rintro _ u3 ⟨rfl,cT⟩;exact⟨rfl,sk (x:=x) a2.lB (a2.r.dn.q cT),TG a2 (a2.r.dn.q cT)⟩
 obtain⟨q,w4,e1,Cw,hm4⟩:=go k3;refine⟨q,w4,e1,Cw,hm4.mono ?_⟩;rintro _ w5 ⟨rfl,Nk,k5⟩;refine⟨_,rfl,Nk,λnv i2 _ _ _ _ w'=>∃(s':Sx) (acc:List Nd) (kids:Sl),i2=((cP ts s' pj:Nat):Int)/\Kd F ts w w' b l g t jK f B B2 n1 en lv mv s' acc kids/\sH ts (ki ts f) nv acc s'=K/\mu ts s'<nv/\acc.length+mu ts s'<=ts.length/\s'.d=yp s.d/\(s'.fc=0->s.fc=0),ts.length+1,
  ⟨s1,[],Sl.nil,rfl,k5,hK,wK (sI _ _),adv,air.d,λe=>(air.le e).1⟩,?_⟩
 clear Nk k5 hm4 Cw e1 k3 hK;rintro nv _ b9 YH b11 b12 w6 ⟨s',acc,kids,rfl,k6,hR,hf1,zM,hd6,hz6⟩;obtain⟨m',rfl⟩:∃m',nv=m'+1:=⟨nv-1,aE⟩
 rw[sH]at hR;have hkb:k0≠b:=t0.ne aM;have hkg:k0≠g:=aE
 refine⟨λhc=>?_,λhc=>?_⟩
 ·have hc:=N3 hc;rw[aQ hc]at hR;obtain⟨hfc,pQ⟩:=dx hc;obtain⟨hf0,hNC⟩:=hN (hz6 hfc);have bT:=k6.r.lt;refine⟨_,Blk.dN k6.r.blk 1 rfl,b,1,_,_,rfl,k6.r.blk,aM,hkb,λw7 fK TH=>?_⟩;rw[k6.r.wr]at TH;have k7:=TG k6 (y:=dq s') ⟨fK,k6.r.jX fK TH (BL k6.r hc)⟩;have vG:=h.sm;have hmul:=sI ts s';have hon:=LG h.en f (cP ts s' pj:Nat) (dq s') (by show wE s'.d;rw[hd6];exact PR _);have hmu:=qe h.en hfc bT pQ hon.toOn0;generalize cP ts s' pj=kk at*
  generalize hNx:ki ts f (kk:Int) (dq s')=N at*
  have anJ:N.2.d=yp s.d:=hon.d.trans hd6;have anK:N.2.fc=0->s.fc=0:=λe=>hz6 (hon.le e).1;refine⟨λ_ _ _ _ w'=>∃gj,Kd F ts w w' b l g t jK f B B2 n1 en lv mv N.2 (acc++[N.1]) gj,λb13 b14 b15 b16 w8 h8=>?_,λdz dH=>?_⟩
  ·obtain⟨gj,k8⟩:=h8;obtain⟨q,w9,e1,hs9,hm9⟩:=go k8;refine⟨q,w9,e1,hs9,hm9.mono ?_⟩;rintro _ de ⟨rfl,TI,sw⟩;exact⟨_,rfl,TI,m',O6 _,_,_,_,rfl,sw,hR,aE,aba,anJ,anK⟩
  have qj:=TG k7 (k7.r.dn.q dH);have CR:=qj.lB;have ww:∀{u:av},Sr F ts u b l (dq s')->az aq 98 #[rp b,O U (kk:Int)] u λe w'=>∃cs,e=ak (ah cs.toArray)/\kj true f w' (Fr u.heap.size) N.1 cs/\Dn F ts u w' b l N.2:=λhu=>by
   have:=hNC (kk:Int) (dq s') _ hu hd6;rw[hNx]at this;exact this
  have DU:∀{u u':av} {bs:List Nat},ay bs u u'->(∀x,x∈bs->x≠g)->bR (λk=>k=g) u u':=λhO hb k hk bT=>by subst hk;exact hO.block k bT λhm=>hb k hm rfl
  have zc:Value.cells (ah (mH 0 [] [] [] Sl.nil Sl.nil Sl.nil Sl.nil 0).toArray)=(mH 0 [] [] [] Sl.nil Sl.nil Sl.nil Sl.nil 0).toArray:=rfl;have hz:∀(u:av),∃(y:Sl) (u2:av),(au 25 1 #[.mk 0 (ah (mH 0 [] [] [] Sl.nil Sl.nil Sl.nil Sl.nil 0).toArray)]).run aq u=.ok y.v u2/\Own (kj true f) 9 27 u.heap.size u2 (λ_=>False) y [NS]/\ay [] u u2:=λu=>by
   obtain⟨y,u2,a1,a2,a3,_⟩:=jZ (P:=aq) (t:=25) (e:=27) (i:=Tryz.t27) (w:=u) (F:=λ_=>False) (r:=kj true f) (size:=9) (vs:=[ah (mH 0 [] [] [] Sl.nil Sl.nil Sl.nil Sl.nil 0).toArray]) (xs:=[NS]) (len:=1) (parts:=#[(0,ah (mH 0 [] [] [] Sl.nil Sl.nil Sl.nil Sl.nil 0).toArray)]) (by kernel_rfl) (by kernel_rfl) rfl rfl aL rfl rfl aL aL (bU true f) ⟨⟨rfl,Q8 hf0 _ _⟩,trivial⟩;exact⟨y,u2,a1,a2,a3⟩
  have ais:∀{u:av} {y:Sl} {A:Nat},B2<=A->XW f B2 u kids acc->(∀k,A<=k->kids.a≠some ⟨k,0,none⟩)->aA (kj true f) 9 u (Fr A) y [NS]->A<=u.heap.size->∃(s8:Sl) (u2:av),(Builtin.append_ #[25,25] 25 #[kids.v,y.v]).run aq u=.ok s8.v u2/\XW f B2 u2 s8 (acc++[NS])/\(∃gs,ay gs u u2/\∀x,x∈gs->B2<=x/\x<A)/\(∀k,A<=k->k<u.heap.size->s8.a≠some ⟨k,0,none⟩):=fun{u y A} hA ho hk hy hAu=>by
   obtain⟨s8,u2,a1,a2,gs,a3,a4,a5⟩:=pU (P:=aq) (t:=25) (ty:=25) (e:=27) (i:=Tryz.t27) (bytes:=160) (size:=9) (y:=y) (ys:=[NS]) (by kernel_rfl) (by kernel_rfl) rfl rfl rfl rfl (bU true f) ho (hy.mono (bU true f) λk tu=>⟨bB hA tu,hk k tu⟩) (bB hA hAu) adG aL;refine⟨s8,u2,a1,a2,⟨gs,a3,λx hx=>⟨(a4 x hx).2.1,?_⟩⟩,λk h1 h2=>?_⟩
   ·exact Nat.lt_of_not_le λvW=>hk x vW (a4 x hx).1
   rcases a5 with a5 | a5
   ·rw[a5];exact hk k h1
   rw[a5];intro e;injection e with e;injection e with e;omega
  have WN:∀{u:av} {s8:Sl},Sr F ts u b l N.2->aF u g t (jK++mH n1.k n1.nm n1.ini n1.dft en lv mv kids n1.a)->EP true u (λk=>B<=k/\k<B2) n1 en lv mv->ay [b,g] w u->B2<=u.heap.size->XW f B2 u s8 (acc++[NS])->∀w',aF w' g t (jK++mH n1.k n1.nm n1.ini n1.dft en lv mv s8 n1.a)->XW f B2 w' s8 (acc++[N.1])->(∃gk,B2<=gk/\ay [g,gk] u w')->∃gj,Kd F ts w w' b l g t jK f B B2 n1 en lv mv N.2 (acc++[N.1]) gj:=λhr vH hno ho hz _ w' h1 h2 ⟨gk,h3,h4⟩=>
   ⟨_,hr.SU h4 λx hx=>(by
    simp only[ba,bp,cb]at hx;rcases hx with rfl | rfl
    ·exact hg
    ·exact hr.gt aE),h1,hno.keep λi hi bT=>h4.block i bT (by simp only[ba,bp,cb];omega),h2,ho.trans h4 λx hx=>by
    simp only[ba,bp,cb]at hx⊢;omega,bB hz h4.size⟩
  refine⟨λk=>k=g,_,rfl,rfl,kids,qj.nb.Yq (jK.length+7) (LX rfl),(ww qj.r).mono ?_,?_⟩
  ·rintro _ eu ⟨cs,rfl,hx,CX⟩;have IG:=TG qj CX;have CU:=hx;obtain⟨f',rfl⟩:∃f',f=f'+1:=⟨f-1,aE⟩
   obtain⟨xe,xl,xm,xk,rfl,_⟩:=CU;obtain⟨y,eS,e2,hy,dU⟩:=hz eu;have vY:=TG IG (IG.r.dn.q dU);obtain⟨s8,fJ,e3,KF,⟨gs,ec,vZ⟩,hs8⟩:=ais (u:=eS) (y:=y) (A:=dz.heap.size) CR vY.kd (λk hk=>qj.kd.new hk) ((hy.slice (bU true _)).mono (bU true _) λk hk=>(by
    rcases hk with hk | hk
    ·exact hk.elim
    exact bB CX.o.size hk.1)) (bB CX.o.size dU.size)
   have hgn:∀x,x∈gs->x≠g:=λx hx=>acU
   have YL:=ec.size;have Pu:=vY.lB;have z12:=CX.o.size;refine⟨_,_,_,_,xe,xl,xm,xk,_,rfl,sk (x:=s') qj.lB CX,DU CX.o aaW,y,eS,e2,sk (x:=s') IG.lB (IG.r.dn.q dU),DU dU aM,s8,fJ,e3,ec.same (λx hx=>?_),DU ec hgn,?_⟩
   ·simp only[aO]at hx;subst hx;exact⟨aE,λhm=>by have:=(vZ x hm).1;omega⟩
   refine Dt (H:=λk=>dz.heap.size<=k/\k<eu.heap.size) (acc:=acc) ?_ (λk hk _=>⟨bB CR hk.1,hs8 k hk.1 (cJ hk.2 dU.size)⟩) (λk hk=>bB CR hk.1) KF qj.kd.len (ec.blk vY.nb λhm=>hgn g hm rfl) aE aE hkg (WN (vY.r.own ec λx hx=>acU) (ec.blk vY.nb λhm=>hgn g hm rfl) (vY.no.keep λi hi bT=>ec.block i bT λhm=>(by have:=(vZ i hm).1;omega)) (vY.o.trans ec λx hx=>.inr (by have:=(vZ x hx).1;have:=qj.o.size;omega)) (bB Pu YL) KF);refine(bU true _).keep ((bU true _).inHeap hx) λk hk bT=>?_;exact(ec.block k (cJ bT dU.size) λhm=>by have:=(vZ k hm).2;have:=hk.1;omega).trans (dU.block k bT aM)
  obtain⟨y,lc,e2,hy,mD⟩:=hz dz;have Kn:=TG qj (qj.r.dn.q mD);refine⟨y,lc,e2,sk (x:=s') qj.lB (qj.r.dn.q mD),DU mD aM,(ww Kn.r).mono ?_⟩;rintro _ jD ⟨cs,rfl,hx,Ax⟩;have Ko:=TG Kn Ax;have CU:=hx;obtain⟨f',rfl⟩:∃f',f=f'+1:=⟨f-1,aE⟩
  obtain⟨xe,xl,xm,xk,rfl,_⟩:=CU;have anN:=(((hy.slice (bU true _)).inHeap (bU true _) aL).keep (bU true _) aL (w':=jD) λk hk bT=>Ax.o.block k bT (by
   rcases hk.1 with hk | hk
   ·exact hk.elim
   ·have:=hk.1;simp only[aO];omega)).mono (bU true _) (G:=Fr dz.heap.size) λk hk=>(by
   rcases hk.1 with hk | hk
   ·exact hk.elim
   exact hk.1)
  obtain⟨s8,my,e3,KF,⟨gs,jF,vZ⟩,hs8⟩:=ais (u:=jD) (y:=y) (A:=dz.heap.size) CR Ko.kd (λk hk=>qj.kd.new hk) anN (bB mD.size Ax.o.size);have hgn:∀x,x∈gs->x≠g:=λx hx=>acU
  have z21:=jF.size;have z20:=Ko.lB;have z19:=mD.size;refine⟨_,_,_,_,xe,xl,xm,xk,_,rfl,sk (x:=s') Kn.lB Ax,DU Ax.o aaW,s8,my,e3,jF.same (λx hx=>?_),DU jF hgn,?_⟩
  ·simp only[aO]at hx;subst hx;exact⟨aE,λhm=>by have:=(vZ x hm).1;omega⟩
  refine Dt (H:=λk=>lc.heap.size<=k/\k<jD.heap.size) (acc:=acc) ?_ (λk hk _=>⟨by show B2<=k;omega,hs8 k aE hk.2⟩) (λk hk=>aE) KF qj.kd.len (jF.blk Ko.nb λhm=>hgn g hm rfl) aE aE hkg (WN (Ko.r.own jF λx hx=>acU) (jF.blk Ko.nb λhm=>hgn g hm rfl) (Ko.no.keep λi hi bT=>jF.block i bT λhm=>(by have:=(vZ i hm).1;omega)) (Ko.o.trans jF λx hx=>.inr (by have:=(vZ x hx).1;have:=qj.o.size;omega)) (bB z20 z21) KF);refine(bU true _).keep ((bU true _).inHeap hx) λk hk bT=>?_;exact jF.block k bT λhm=>by have:=(vZ k hm).2;have:=hk.1;omega
 have hc:=N2 hc;rw[aV hc]at hR;refine⟨_,Blk.dN k6.r.blk 6 rfl,b,6,_,_,rfl,k6.r.blk,aM,hkb,λrq ke anO=>?_⟩;have WB:=TG k6 (y:={s' with d:=ZR s'.d}) ⟨ke,k6.r.jX ke anO k6.r.lt⟩;obtain⟨q,uw,e1,rr,hm⟩:=ra WB.r [125];have k27:=TG WB (WB.r.dn.q rr);refine⟨q,uw,e1,sk (x:=s') WB.lB (WB.r.dn.q rr),hm.mono ?_⟩;rintro _ yP ⟨rfl,h28⟩;have S8:=TG k27 h28;refine⟨rfl,sk (x:=s') k27.lB h28,rfl,_,S8.nb,?_,S8.o,?_⟩
 ·rw[<-hR];refine⟨en,lv,mv,kids,rfl,S8.no.mono λk hk=>bB zw1 hk.1,(S8.kd.sl (bU true f) λk hk=>hk).low (bU true f) aE⟩
 rw[<-hR];exact S8.r
end
def Tk.Good(t:Tk):Prop:=(t.k=2->∃c r,t.t=c::r/\eF c=true)/\(t.k=4->∃c r,t.t=c::r/\eF c=false)/\0<=t.n/\t.n<=9223372036854775807
theorem Q9{m:aH}{q:Tq}(h:lK m=.ok q):q.1≠5/\∀a,Tk.Good ⟨q.1,q.2.1,q.2.2.1,a⟩:=by
 cases m with
 | nil=>cases h
 | cons c r=>
  simp only[lK]at h;split at h
  ·rename_i hc;unfold lZ at h;split at h
   ·cases h
   injection h with h;subst h;have hw:eF c=true:=by unfold eF;rw[hc];rfl
   refine⟨by dsimp only;split<;>decide,λa=>⟨λ_=>?_,λh4=>?_,aa7,aa7⟩⟩
   ·dsimp only;rw[dk,aV hw];exact⟨c,_,rfl,hw⟩
   dsimp only at h4;split at h4<;>exact absurd h4 aL
  rename_i hl;split at h
  ·rename_i hc;unfold rT at h;split at h
   ·cases h
   split at h
   ·cases h
   injection h with h;subst h;refine⟨aa7,λa=>⟨λh=>absurd h aa7,λh=>absurd h aa7,aa1,?_⟩⟩;dsimp only;unfold ft;split
   ·dsimp only;decide
   split
   ·dsimp only;decide
   split
   ·dsimp only;omega
   dsimp only;decide
  rename_i hd;unfold nY at h;split at h
  ·cases h
  rename_i hs;injection h with h;subst h;refine⟨aa7,λa=>⟨λh=>absurd h aa7,λ_=>?_,aa7,aa7⟩⟩;obtain⟨n,hn⟩:∃n,iR (c::r)=n+1:=⟨iR (c::r)-1,aE⟩
  dsimp only;rw[hn,fS];refine⟨c,_,rfl,?_⟩;unfold eF;rw[fg];exact⟨adK,by simpa using hd⟩
theorem Hp{l:aH}:∀(n i:Nat),i<=l.length->l.length-i<=n->∀r,kc l i=.ok r->∃(fr:List Tk) (a:Int),r=fr++[⟨5,[],0,a⟩]/\(∀t,t∈fr->t.k≠5/\t.Good)/\r.length<=l.length-i+1
 | n,i,hi,hn,r,h=>by
  rw[j5 hi]at h;split at h
  ·injection h with h;exact⟨[],_,h.symm,λt ht=>(by cases ht),by rw[<-h,br];omega⟩
  split at h
  ·cases h
  rename_i q hq;have q1:=uR hq;have q2:=Bj hq;rw[cr]at q2;split at h
  ·cases h
  rename_i r' hr';injection h with h;subst h
  match n,hn with
  | 0,hn=>omega
  | n+1,hn=>
   obtain⟨fr,a,e,hf,hl⟩:=Hp n _ aE aE _ hr';have hg:=Q9 hq;refine⟨_::fr,a,by rw[e];rfl,λt ht=>?_,by rw[aW];omega⟩;rcases ba.1 ht with rfl | ht
   ·exact⟨hg.1,hg.2 _⟩
   exact hf t ht
theorem VJ{fr:List Tk}{a:Int}(h:∀t,t∈fr->t.k≠5):qm (fr++[⟨5,[],0,a⟩]):=λi hi=>by
 rw[aN,br]at hi;unfold tk;by_cases hl:i<fr.length
 ·rw[bQ hl,bJ hl,iw,aN,br];exact⟨λe=>absurd e (h _ (List.getElem_mem hl)),λe=>aE⟩
 have e:i=fr.length:=aE
 subst e;rw[cw (aY _),nH,aN,br];exact⟨λ_=>rfl,λ_=>rfl⟩
theorem L0{l:aH}:∀(n i:Nat),i<=l.length->l.length-i<=n->∀x,kc l i=.error x->x.1≠0
 | n,i,hi,hn,x,h=>by
  rw[j5 hi]at h;split at h
  ·cases h
  split at h
  ·rename_i e hq;injection h with h;subst h;exact EF hq
  rename_i q hq;have q1:=uR hq;have q2:=Bj hq;rw[cr]at q2;split at h
  ·rename_i y hy;injection h with h;subst h
   match n,hn with
   | 0,hn=>omega
   | n+1,hn=>exact L0 n _ aE aE _ hy
  cases h
theorem wm{l:aH}(h:(cG l).2.1=0):qm (cG l).1/\(∀t,t∈(cG l).1->t.Good)/\0<(cG l).1.length/\(cG l).1.length<=16385:=by
 unfold cG at h⊢;split at h
 ·cases h
 rename_i hl;rw[aQ hl];cases hr:kc l 0 with
 | error x=>
  rw[hr]at h;exact absurd h (L0 l.length 0 (be _) aE _ hr)
 | ok r=>
  obtain⟨fr,a,e,hf,hn⟩:=Hp l.length 0 (be _) aE r hr;dsimp only;subst e;refine⟨VJ λt ht=>(hf t ht).1,λt ht=>?_,aba,aE⟩;rcases cu.1 ht with ht | ht
  ·exact(hf t ht).2
  simp only[aO]at ht;subst ht;exact⟨λh=>absurd h aa7,λh=>absurd h aa7,aa7,aa7⟩
section
variable {F:aJ} {ts:List Tk} {w w' w2:av} {b:Nat} {l:Sl} {s s':Sx}
theorem L1:∀(f:Nat) (d:Int),0<=d->d<f->d<=9223372036854775807->XV F ts b l f d
 | 0,d,h0,h1,_=>aE
 | f+1,d,h0,h1,h2=>by
  intro k u w h hd;refine(afg ⟨b,0,none⟩ k (λv w'=>∃cs,v=(ah cs.toArray)/\kj true (f+1) w' (Fr w.heap.size) (ki ts (f+1) k u).1 cs/\Dn F ts w w' b l (ki ts (f+1) k u).2) w ?_).mono (by
   rintro e w' ⟨v,rfl,cs,rfl,h⟩;exact⟨cs,rfl,h⟩)
  intro k0 w0 fO dQ cf;have t0:=h.zt.al cf fO dQ;refine(Ho t0.r k).mono ?_;rintro _ w1 ⟨rfl,h1'⟩;have t1:=t0.nx h1';have hon:=Bx h.en k u;have hnd:=VA (ts:=ts) (k:=k) (s:=u);rw[ki];have vH:(eX ts k u).1.ini=[]/\(eX ts k u).1.dft=[]/\(eX ts k u).1.en=[]/\(eX ts k u).1.lv=[]/\(eX ts k u).1.mv=[]:=⟨rfl,rfl,rfl,rfl,rfl⟩
  generalize eX ts k u=N at*
  obtain⟨nb,u1⟩:=N;dsimp only at*
  obtain⟨i1,i2,i3,i4,i5⟩:=vH;obtain⟨nk,nnm,anP,anQ,nen,nlv,nmv,na⟩:=nb;dsimp only at i1 i2 i3 i4 i5;subst i1 i2 i3 i4 i5;dsimp only at*
  refine⟨_,_,_,_,Sl.nil,Sl.nil,Sl.nil,Sl.nil,_,rfl,t0.sc h1' aM,λhc k1 w2 kU jC cH=>?_,λhc k2 de oT nC dT=>?_⟩
  ·rw[aV aaX];have t2:=t1.al cH kU jC;obtain⟨q,w3,e1,cT,hm⟩:=ra t2.r [45,62];have t3:=t2.q cT;refine⟨q,w3,e1,t2.sq cT aM,hm.mono ?_⟩;rintro _ w4 ⟨rfl,h4⟩;have t4:=t3.nx h4;refine⟨rfl,t3.sc h4 aM,(xn t4.r).mono ?_⟩;rintro _ w5 ⟨rfl,h5⟩;have t5:=t4.nx h5;refine⟨_,rfl,t4.sc h5 aM,λw6 dK=>?_⟩;have t6:=t5.f dK aM;obtain⟨q,w7,e1,fK,hm⟩:=ra t6.r [59];have t7:=t6.q fK;refine⟨q,w7,e1,t6.sq fK aM,hm.mono ?_⟩;rintro _ w8 ⟨rfl,h8⟩;have t8:=t7.nx h8;refine⟨rfl,t7.sc h8 aM,λw9 fG=>⟨_,rfl,⟨Sl.nil,Sl.nil,Sl.nil,Sl.nil,rfl,⟨jH.nil _ _ _ _ _ _,jH.nil _ _ _ _ _ _,jH.nil _ _ _ _ _ _⟩,jH.nil _ _ _ _ _ _⟩,(t8.f fG aM).dn⟩⟩
  rw[aQ aa0];have t10:=t1.al dT oT nC;obtain⟨q,dz,e1,dH,hm⟩:=ra t10.r [123];have t11:=t10.q dH;refine⟨q,dz,e1,t10.sq dH aM,hm.mono ?_⟩;rintro _ eu ⟨rfl,CX⟩;have t12:=t11.nx CX;have hms:=iV (s:=u1) h.en [123];refine⟨rfl,t11.sc CX aM,λhB _=>?_⟩;have hsd:(eH ts u1 [123]).d=d:=hms.d.trans (hon.d.trans hd);refine(LY (f:=f) t12.r (jK:=[]) (n:=⟨nk,nnm,[],[],[],[],[],na⟩) rfl rfl rfl hB (t12.r.gt (t12.lt aM)) (by rw[hsd];exact⟨aE,h2⟩) (λhf=>?_)).mono ?_
  ·have hd0:=hnd (hms.le hf).1;rw[hd]at hd0;have S2:yp d=d-1:=by unfold yp;rw[eY aE aE]
   rw[hsd,S2];exact⟨aE,L1 f (d-1) aE aE aE⟩
  rintro _ eS ⟨rfl,cs,uz,hx,dU,anS⟩;have CU:=hx;obtain⟨xe,xl,xm,xk,rfl,_⟩:=CU;have Pu:Fz [b] w eS [k2,k0]:=t12.z.go dU λx hx=>ab0
  have l2:=t12.lt (k0:=k2) aM;have l0:=t12.lt (k0:=k0) aM;have k0l:=(t1.z.k k0 aM).2;refine⟨rfl,t12.z.sm dU aM (λx hx=>?_),_,_,_,_,xe,xl,xm,xk,_,uz,λfJ ec Ij=>⟨_,rfl,?_,?_⟩⟩
  ·simp only[ba,bp,cb]at hx;rcases hx with rfl | rfl
   ·exact .inl aM
   exact .inr λy hy=>acR
  ·refine(bU true _).low ((bU true _).stay hx ((Stay.refl _ _).f ec (.inl ?_))) t12.z.o.size;have:=(t12.z.k k0 aM).2;exact this
  exact⟨(Pu.f ec aM).o,anS.one ec l0⟩
theorem Z6(h:Sr F ts w b l s)(hg:∀t,t∈ts->t.Good):az aq 48 #[rp b] w λe w'=>e=ak (ah #[ab (T (tQ ts s).1.n),O U (tQ ts s).1.v,O U (tQ ts s).1.a])/\Dn F ts w w' b l (tQ ts s).2:=by
 refine ret (ae4 _ _ _ ?_);intro k0 w0 fO dQ cf;have t0:=h.zt.al cf fO dQ;obtain⟨ad,g1,g2⟩:=t0.r.now;unfold tQ;dsimp only;generalize SY:(if(tk ts s.i).k=1 then CH ts s else s)=s1;refine⟨λw'=>Zt F ts w w' b l s1 [k0],λw1 t1=>(xj t1.r (k:=1) aL).mono ?_,l,Blk.dN t0.r.blk 0 rfl,_,Blk.dN t0.r.blk 1 rfl,ad,g1,_,g2.dN 0 _ rfl,λhc eu eh=>?_,λhc fJ ec=>?_⟩
 ·rintro _ w2 ⟨rfl,h2⟩;have t2:=t1.nx h2;refine⟨_,_,_,_,rfl,t1.sc h2 aM,λk1 w3 kU jC cT=>?_⟩;have t3:=t2.al cT kU jC;obtain⟨q,w4,e1,dw,hm⟩:=ra t3.r [61];have t4:=t3.q dw;refine⟨q,w4,e1,t3.sq dw aM,hm.mono ?_⟩;rintro _ w5 ⟨rfl,h5⟩;have t5:=t4.nx h5;refine⟨rfl,t4.sc h5 aM,?_⟩;obtain⟨q,w6,e1,dK,hm⟩:=Ds t5.r [[45]] (n:=1) (parts:=#[(0,ab (T [45]))]) rfl rfl aL aL;have t6:=t5.q dK;refine⟨q,w6,e1,t5.sq dK aM,hm.mono ?_⟩;rintro _ w7 ⟨rfl,h7⟩;have t7:=t6.nx h7;generalize hgg:cP ts (eH ts (ga ts s1 1).2 [61]) [[45]]=gg at*
  have hgl:gg<=1:=by rw[<-hgg];exact Hc _
  refine⟨_,rfl,t6.sc h7 aM,(xj t7.r (k:=3) aL).mono ?_⟩;rintro _ w8 ⟨rfl,h8⟩;have t8:=t7.nx h8;refine⟨_,_,_,_,rfl,t7.sc h8 aM,?_⟩;obtain⟨q,w9,e1,fG,hm⟩:=ra t8.r [59];have t9:=t8.q fG;refine⟨q,w9,e1,t8.sq fG aM,hm.mono ?_⟩;rintro _ de ⟨rfl,tv⟩;refine⟨rfl,t9.sc tv aM,λdz dH=>⟨?_,((t9.nx tv).f dH aM).dn⟩⟩;have hn:∀u:Sx,0<=(ga ts u 3).1.n/\(ga ts u 3).1.n<=9223372036854775807:=λu=>by
   unfold ga;split
   ·exact⟨jt 0,(by decide:(0:Int)<=9223372036854775807)⟩
   unfold tk;cases hx:ts[u.i]? with
   | none=>exact⟨jt 0,(by decide:(0:Int)<=9223372036854775807)⟩
   | some t=>exact(hg t (bh hx)).2.2
  obtain⟨n0,n1⟩:=hn (if gg=0 then eH ts (ga ts s1 1).2 [61]else dq (eH ts (ga ts s1 1).2 [61]));generalize (ga ts (if gg=0 then eH ts (ga ts s1 1).2 [61]else dq (eH ts (ga ts s1 1).2 [61])) 3).1.n=x at*
  have e:ar U ((ar U (1-(ar U (2*(gg:Int)))))*x)=if gg=0 then x else ar U (-x):=by
   rcases(by omega:gg=0∨gg=1)with rfl | rfl
   ·rw[aV rfl];show ar U (1*x)=x;rw[Int.one_mul,eY aE aE]
   rw[aQ aL];show ar U (-1*x)=_;rw[Int.neg_one_mul]
  rw[e]
 ·refine(Z3 (t0.q eh).r).mono ?_;rintro _ eS ⟨rfl,sX⟩;refine⟨rfl,(t0.q eh).sc sX aM,?_⟩;rw[<-SY,aV aax];exact(t0.q eh).nx sX
 rw[<-SY,aQ aax];exact t0.q ec
end
theorem XX(w:av)(F:aJ):ChR true 15 w F ch0 Sl.nil (mH 0 [] [] [] Sl.nil Sl.nil Sl.nil Sl.nil 0):=⟨jH.nil _ _ _ _ _ _,Q8 aL _ _⟩
theorem ChR.stay{d:Nat}{w w':av}{B:Nat}{c:Ch}{vs:Sl}{cs:aI}(h:ChR true d w (Fr B) c vs cs)(hs:Stay B w w'):ChR true d w' (Fr B) c vs cs:=⟨h.vars.stay dF aL hs,(bU true d).stay h.root hs⟩
theorem ChR.low{d:Nat}{w:av}{A B:Nat}{c:Ch}{vs:Sl}{cs:aI}(h:ChR true d w (Fr B) c vs cs)(hA:A<=B):ChR true d w (Fr A) c vs cs:=⟨h.vars.low dF hA,(bU true d).low h.root hA⟩
theorem Z7{ts:List Tk}(hE:qm ts){s:Sx}{ss:List (aH)}(hi:s.i<ts.length)(hw:cP ts s ss≠0):mu ts (tQ ts (dq s)).2<mu ts s:=
 qe hE (dx hw).1 hi (dx hw).2 (QN hE (dq s)).toOn0
theorem Hq{w:av}(l:aH)(hE:Er w):az aq 25 #[ab (T l)] w λe w'=>
  ∃(vs:Sl) (cs:aI),e=ak (ai #[ah (vs.v::cs).toArray,ah #[O U (fu l).2.1,O U (fu l).2.2]])/\ChR true 15 w' (Fr w.heap.size) (fu l).1 vs cs/\ay [] w w':=by
 refine(aeB (T l) (λv w'=>∃(vs:Sl) (cs:aI),v=(ai #[ah (vs.v::cs).toArray,ah #[O U (fu l).2.1,O U (fu l).2.2]])/\ChR true 15 w' (Fr w.heap.size) (fu l).1 vs cs/\ay [] w w') w ?_).mono (by
  rintro e w' ⟨v,rfl,vs,cs,rfl,h⟩;exact⟨vs,cs,rfl,h⟩)
 generalize hP:fu l=P;unfold fu at hP;intro k0 k1 w0 fO dQ kU jC cf;have z0:=cf.size;refine(G4 l (hE.only cf)).mono ?_;rintro _ w1 ⟨rs,rfl,hT,cn⟩;have z1:=cn.size;have gn:=cf.ca cn;have tOk:=wm (l:=l);have anT:∀{w2 w3:av},ay [] w1 w2->ay [k1,k0] w2 w3->ay [] w w3:=λcH cT=>((gn.ca cH).trans cT λx hx=>.inr aaV)
 refine⟨rs,_,_,rfl,cn.same aaf,λhc k2 w2 oT nC cH n1 n2 n3=>⟨λk=>k=k2,rfl,λe=>n2 e,λe=>n3 e,λw3 cT=>?_⟩,λhc k3 k4 k5 w4 yS vI uC CS pQ FQ dw=>?_⟩
 ·have hc:(cG l).2.1≠0:=aax
  rw[aV hc]at hP;subst hP;exact⟨Sl.nil,_,rfl,XX _ _,anT cH cT⟩
 have hc:(cG l).2.1=0:=aax
 obtain⟨WR,Ux,aiu,fi⟩:=tOk hc;rw[aQ aax]at hP;have anU:=((hT.sl.inHeap ik aL).mono ik (G:=λk=>w0.heap.size<=k/\k<w1.heap.size) λk hk=>⟨hk.1.1,hk.2⟩)
 generalize (cG l).1=ts at*
 clear tOk hT;have z4:=dw.size;obtain⟨q,w5,e1,hq,dY⟩:=jJ w4 [fm] (n:=1) (parts:=#[(0,ab (T fm))]) rfl rfl aL aL;have z5:=dY.size;refine⟨q,w5,e1,dY.same aaf,λux n04 n14 n34 n54=>?_⟩;have r5:Sr (λk=>w0.heap.size<=k/\k<w1.heap.size) ts w5 k4 rs vQ:=⟨ux,SliceF.only ik aL anU (dw.ca dY) aM,λk hk=>ab5,WR,aiu,aE⟩
 have M8:∀k,(λk=>w0.heap.size<=k/\k<w1.heap.size) k->k<w1.heap.size:=λk hk=>hk.2;generalize (λk=>w0.heap.size<=k/\k<w1.heap.size)=F at*
 have w5w:ay [] w w5:=(gn.ca dw).ca dY;have sm:∀{u u':av} {x:Sx},w5.heap.size<=u.heap.size->Dn F ts u u' k4 rs x->bS [k0,k1,k3,k5] u u':=λhz d=>d.o.same (by
  intro x hx;simp only[ba,bp,cb]at hx⊢;omega)
 have sq:∀{u u':av},w5.heap.size<=u.heap.size->ay [] u u'->bS [k0,k1,k3,k4,k5] u u':=λhz o=>o.same λx hx=>⟨by
  simp only[ba,bp,cb]at hx;omega,aM⟩
 have oD:∀{u u':av} {x:Sx},ay [] w u->Dn F ts u u' k4 rs x->ay [] w u':=λo d=>o.trans d.o λx hx=>.inr aaL;have o5:∀{u u':av},ay [] w u->ay [k5] u u'->ay [] w u':=λo d=>o.trans d λx hx=>.inr aaL;have r55:∀{u u':av} {x:Sx},Sr F ts u k4 rs x->ay [k5] u u'->Sr F ts u' k4 rs x:=λr o=>r.aaK o ⟨n54,λhF=>by have:=M8 _ hF;omega⟩;have M7:=ux.lt;refine(LV r5 (sF hq) λk hk e=>ade).mono ?_;rintro _ w6 ⟨rfl,h6⟩;have z6:=h6.o.size;refine⟨rfl,sm (aY _) h6,rs,_,_,_,_,_,_,_,_,h6.r.blk,(Ho h6.r 1).mono ?_⟩;rintro _ w7 ⟨rfl,h7⟩;have z7:=h7.o.size;have hC:tS ts=(⟨(tR ts (ts.length+1) [] (eH ts (eX ts 1 (eH ts vQ fm)).2 [123])).1,(pY ts (ki ts 14) (eX ts 1 (eH ts vQ fm)).1 (tR ts (ts.length+1) [] (eH ts (eX ts 1 (eH ts vQ fm)).2 [123])).2).1⟩,Jm ts (pY ts (ki ts 14) (eX ts 1 (eH ts vQ fm)).1 (tR ts (ts.length+1) [] (eH ts (eX ts 1 (eH ts vQ fm)).2 [123])).2).2):=rfl;have vH:(eX ts 1 (eH ts vQ fm)).1.ini=[]/\(eX ts 1 (eH ts vQ fm)).1.dft=[]/\(eX ts 1 (eH ts vQ fm)).1.en=[]/\(eX ts 1 (eH ts vQ fm)).1.lv=[]/\(eX ts 1 (eH ts vQ fm)).1.mv=[]:=⟨rfl,rfl,rfl,rfl,rfl⟩
 have on7:On ts vQ (eX ts 1 (eH ts vQ fm)).2:=(iV WR _).trans (Bx WR _ _);generalize eX ts 1 (eH ts vQ fm)=N at*
 obtain⟨⟨nk,nnm,anP,anQ,nen,nlv,nmv,na⟩,u1⟩:=N;dsimp only at*
 obtain⟨i1,i2,i3,i4,i5⟩:=vH;subst i1 i2 i3 i4 i5;refine⟨_,_,_,_,Sl.nil,Sl.nil,Sl.nil,Sl.nil,_,rfl,sm z6 h7,rs,_,_,_,_,_,_,_,_,h7.r.blk,λw8 fj wB=>?_⟩;have z8:=fj.size;have r8:=r55 h7.r fj;have w8w:=o5 (oD (oD w5w h6) h7) fj;obtain⟨q,w9,e1,fG,hm⟩:=ra r8 [123];have z9:=fG.size;refine⟨q,w9,e1,sq aE fG,hm.mono ?_⟩;rintro _ de ⟨rfl,tv⟩;have Ih:=tv.o.size;have anV:=oD (w8w.ca fG) tv;have anW:On ts vQ (eH ts u1 [123]):=on7.trans (iV WR _);clear hm;generalize eH ts u1 [123]=u2 at*
 generalize hV:tR ts (ts.length+1) [] u2=V at*
 generalize hB:de.heap.size=B at*
 refine⟨rfl,sm aE tv,rs,_,_,_,_,_,_,_,_,tv.r.blk,λnv l10 i28 s3 s4 s5 sU uv zN DR i29 Kk i30 i31 i32 i33 i34 i35 i36 i37 w'=>∃(u:Sx) (acc:List Vr),i28=nk/\s3=T nnm/\s4=T []/\s5=T []/\sU=Sl.nil/\uv=Sl.nil/\zN=Sl.nil/\DR=Sl.nil/\i29=na/\Sr F ts w' k4 rs u/\Own xQ 3 59 B w' (Fr B) l10 acc/\tR ts nv acc u=V/\mu ts u<nv/\acc.length+mu ts u<=ts.length/\ay [] w w'/\B<=w'.heap.size/\u.d=12,
  ts.length+1,⟨u2,[],rfl,rfl,rfl,rfl,rfl,rfl,rfl,rfl,rfl,tv.r,Own.nil _ _ _ _ _ _,hV,wK (sI _ _),adv,anV,KL hB.symm,anW.d⟩,?_⟩
 clear hV;rintro nv l10 nk2 _ _ _ _ _ _ _ na2 Kk i30 i31 i32 i33 i34 i35 i36 i37 dz ⟨u,acc,rfl,rfl,rfl,rfl,rfl,rfl,rfl,rfl,rfl,r11,TJ,hR,hf1,zM,anX,zB,hud⟩;obtain⟨m,rfl⟩:∃m,nv=m+1:=⟨nv-1,aE⟩
 rw[tR]at hR;obtain⟨q,eu,e1,eh,hm⟩:=Ds r11 [vw] (n:=1) (parts:=#[(0,ab (T vw))]) rfl rfl aL aL;have z12:=eh.size;refine⟨q,eu,e1,sq aE eh,hm.mono ?_⟩;rintro _ eS ⟨rfl,sX⟩;have Pu:=sX.o.size;have ab6:=oD (anX.ca eh) sX;have YQ:Own xQ 3 59 B eS (Fr B) l10 acc:=(TJ.stay dF eh λx hx=>adn).stay dF sX.o λx hx=>.inl aaL;refine⟨_,rfl,sm aE sX,rs,_,_,_,_,_,_,_,_,sX.r.blk,λuE fJ ec Ij=>?_,λuE uz m05 m15 m35=>?_⟩
 ·have uE:=N3 uE;rw[aQ uE]at hR sX;have YL:=ec.size;have r14:=sX.r.only ec;refine⟨λk=>k=k5,rfl,(Z6 r14 Ux).mono ?_⟩;rintro _ gY ⟨rfl,Ay⟩;have z15:=Ay.o.size;have hmu:=Z7 WR r11.lt uE;have hon:=QN WR (dq u);generalize tQ ts (dq u)=X at*
  obtain⟨x,u'⟩:=X;dsimp only at*
  have Io:=sI ts u;have aiv:Own xQ 3 59 B gY (Fr B) l10 acc:=(YQ.stay dF ec λx hx=>adn).stay dF Ay.o λx hx=>.inl aaL;obtain⟨y,jm,e2,jo,DT,jd,e3,oz,⟨gs,iZ,vZ⟩,_⟩:=lz (P:=aq) (t:=22) (ty:=22) (e:=59) (i:=Tryz.t59) (bytes:=32) (size:=3) (v:=ah #[ab (T x.n),O U x.v,O U x.a]) (x:=x) (G:=λ_=>False) (by kernel_rfl) (by kernel_rfl) rfl rfl rfl rfl aL aL aL dF aiv aE rfl rfl (λk hk _=>hk.elim) aE;have ru:∀g,g∈gs->B<=g:=λg hg=>(vZ g hg).2.1;have z16:=jo.size;have z17:=iZ.size;refine⟨_,_,_,rfl,sm aE Ay,rs,_,_,_,_,_,_,_,_,Ay.r.blk,λk hk bT=>(by subst hk;exact Ay.o.block k bT aaW),y,jm,e2,sq aE jo,bR.only jo,DT,jd,e3,iZ.same (λx hx=>?_),λk hk bT=>(by subst hk;exact iZ.block k bT λhm=>(by have:=ru k hm;omega)),λjR kD TF=>?_⟩
  ·simp only[ba,bp,cb]at hx;exact⟨aE,λhm=>by have:=ru x hm;omega⟩
  have z18:=kD.size;have r17:Sr F ts jd k4 rs u':=(Ay.r.only jo).own iZ λx hx=>(by have:=ru x hx;omega)
  refine⟨m,O6 _,u',acc++[x],rfl,rfl,rfl,rfl,rfl,rfl,rfl,rfl,rfl,r55 r17 kD,?_,hR,aE,aba,o5 (((oD (ab6.ca ec) Ay).ca jo).trans iZ λx hx=>.inr (by have:=ru x hx;have:=ab6.size;omega)) kD,aE,hon.d.trans hud⟩;refine(oz.mono dF λk hk=>?_).stay dF kD λx hx=>.inl aaL;rcases hk with hk | hk
  ·exact hk
  show B<=k;omega
 have uE:=N2 uE;rw[aV uE]at hR sX;subst hR;dsimp only at hC;have r13:=sX.r;refine(LY (f:=14) r13 (jK:=[l10.v]) (n:=⟨nk2,nnm,[],[],[],[],[],na2⟩) rfl rfl rfl uz ⟨n54,λhF=>(by have:=M8 _ hF;omega)⟩ (by rw[hud];exact⟨aL,aL⟩) (λ_=>by
  rw[hud];exact⟨aL,L1 14 11 aL aL aL⟩)).mono ?_
 generalize pY ts (ki ts 14) ⟨nk2,nnm,[],[],[],[],[],na2⟩ u=D at*
 obtain⟨root,s1⟩:=D;dsimp only at hC;rw[hC]at hP;dsimp only at hP;rintro _ lc ⟨rfl,cs,TK,hx,mD,r19⟩;dsimp only at*
 have z19:=mD.size;have an1:ay [] w lc:=ab6.trans mD λx hx=>.inr aaV;have an2:Stay B eS lc:=Stay.of mD λx hx=>.inl aaV;have c19:ChR true 15 lc (Fr w5.heap.size) ⟨acc,root⟩ l10 cs:=⟨((YQ.sl dF λk hk=>hk).stay dF aL an2).low dF aE,(bU true 15).low hx aE⟩
 have CU:=hx;obtain⟨xe,xl,xm,xk,rfl,_⟩:=CU;have sm3:∀{u u':av} {bs:List Nat},w5.heap.size<=u.heap.size->ay bs u u'->(∀x,x∈bs->x=k4∨x=k5)->bS [k0,k1,k3] u u':=λhz o hb=>o.same λx hx=>⟨aaV,λhm=>by have:=hb x hm;simp only[ba,bp,cb]at hx;omega⟩
 refine⟨rfl,sm3 aE mD aM,rs,_,_,_,_,_,_,_,_,r19.blk,l10,_,_,_,_,xe,xl,xm,xk,_,TK,?_⟩;have st:∀{u u':av} {x:Sx},Sr F ts u k4 rs x->aF u k5 29 (l10.v::mH root.b.k root.b.nm root.b.ini root.b.dft xe xl xm xk root.b.a)->ay [] w u->ChR true 15 u (Fr w5.heap.size) ⟨acc,root⟩ l10 (mH root.b.k root.b.nm root.b.ini root.b.dft xe xl xm xk root.b.a)->∀{y:Sx},Dn F ts u u' k4 rs y->Sr F ts u' k4 rs y/\aF u' k5 29 (l10.v::mH root.b.k root.b.nm root.b.ini root.b.dft xe xl xm xk root.b.a)/\ay [] w u'/\ChR true 15 u' (Fr w5.heap.size) ⟨acc,root⟩ l10 (mH root.b.k root.b.nm root.b.ini root.b.dft xe xl xm xk root.b.a):=fun{u u' x} a1 a2 a3 a4 {y} d=>
  ⟨d.r,d.o.blk a2 aaW,oD a3 d,a4.stay (Stay.of d.o λx hx=>.inl aaL)⟩
 refine⟨λUr i67 CM Cu F4 YC YD YE YG i68 l32 i69 i70 i71 i72 i73 i74 i75 i76 jD=>w5.heap.size<=jD.heap.size/\Sr F ts jD k4 rs (Jm ts s1)/\aF jD k5 29 (l10.v::mH root.b.k root.b.nm root.b.ini root.b.dft xe xl xm xk root.b.a)/\ay [] w jD/\ChR true 15 jD (Fr w5.heap.size) ⟨acc,root⟩ l10 (mH root.b.k root.b.nm root.b.ini root.b.dft xe xl xm xk root.b.a),?_,?_⟩
 ·rintro Ur i67 CM Cu F4 YC YD YE YG i68 l32 i69 i70 i71 i72 i73 i74 i75 i76 jD ⟨z20,a1,a2,a3,a4⟩;refine(nM a1).mono ?_;rintro _ my ⟨rfl,jF⟩;obtain⟨b1,b2,b3,b4⟩:=st a1 a2 a3 a4 (a1.dn.q jF);have z21:=jF.size;refine⟨_,rfl,sm3 z20 jF aM,rs,_,_,_,_,_,_,_,_,b1.blk,l10,_,_,_,_,xe,xl,xm,xk,_,b2,λhf qw sW _ _ p01 p03 p04 p05 p13 p14 p15 p34 p35 p45=>⟨λk=>k=k4,rfl,λe=>p04 e,λe=>p14 e,λrB uA _ _=>?_⟩,λhf tq CP _ _=>?_⟩
  ·have hf:(Jm ts s1).fc≠0:=acp
   rw[aV hf]at hP;subst hP;exact⟨Sl.nil,_,rfl,XX _ _,(b3.ca sW).trans uA λx hx=>.inr aaV⟩
  have hf:¬(Jm ts s1).fc≠0:=acp
  rw[aQ hf]at hP;subst hP;refine⟨l10,_,rfl,(b4.stay (Stay.of CP λx hx=>.inl aaV)).low w5w.size,b3.trans CP λx hx=>.inr aaV⟩
 refine⟨λb1 l39 i87 S4 WA S6 l40 l41 l42 l43 i88 l44 i89 i90 i91 i92 i93 i94 i95 i96 oX=>b1=decide (s1.fc=0/\(tk ts s1.i).k≠5)/\w5.heap.size<=oX.heap.size/\Sr F ts oX k4 rs s1/\aF oX k5 29 (l10.v::mH root.b.k root.b.nm root.b.ini root.b.dft xe xl xm xk root.b.a)/\ay [] w oX/\ChR true 15 oX (Fr w5.heap.size) ⟨acc,root⟩ l10 (mH root.b.k root.b.nm root.b.ini root.b.dft xe xl xm xk root.b.a),?_,λuw rr _ _=>?_⟩
 ·rintro b1 l39 i87 S4 WA S6 l40 l41 l42 l43 i88 l44 i89 i90 i91 i92 i93 i94 i95 i96 oX ⟨rfl,z25,a1,a2,a3,a4⟩;unfold Jm;refine⟨λhb=>(tX a1).mono ?_,λhb=>?_⟩
  ·rw[aV (aR hb)];rintro _ rq ⟨rfl,h26⟩;obtain⟨b1,b2,b3,b4⟩:=st a1 a2 a3 a4 h26;have z26:=h26.o.size;exact⟨rfl,sm3 z25 h26.o aM,rs,_,_,_,_,_,_,_,_,b1.blk,l10,_,_,_,_,xe,xl,xm,xk,_,b2,aE,b1,b2,b3,b4⟩
  rw[aQ (aU hb)];exact⟨z25,a1,a2,a3,a4⟩
 have z27:=rr.size;obtain⟨a1,a2,a3,a4⟩:=st r19 TK an1 c19 (r19.dn.q rr);refine(nM a1).mono ?_;rintro _ yP ⟨rfl,vJ⟩;obtain⟨b1,b2,b3,b4⟩:=st a1 a2 a3 a4 (a1.dn.q vJ);have z28:=vJ.size;obtain⟨ad,g1,g2⟩:=b1.now;refine⟨_,rfl,sm3 aE vJ aM,rs,_,_,_,_,_,_,_,_,b1.blk,l10,_,_,_,_,xe,xl,xm,xk,_,b2,λhb=>⟨ad,g1,_,g2.dN 0 _ rfl,?_,aE,b1,b2,b3,b4⟩,λhb=>⟨?_,aE,b1,b2,b3,b4⟩⟩
 ·have hb:s1.fc=0:=aa2
  rw[bH];simp[hb]
 have hb:¬s1.fc=0:=aa2
 simp[hb]
def Bu(w:av)(b k:Nat):Prop:=∃n c,w.cell? ⟨b,1,none⟩=some (.slice (some ⟨k,0,none⟩) n c)
structure Mw (f:Bool) (b:Nat) (w w':av):Prop where
 o:aD (λk=>k=b∨(f=false/\Bu w b k)) w w'
 u:∀k,Bu w' b k->Bu w b k∨(f=false/\w.heap.size<=k)
abbrev St:=Bool×Int
structure Qz (w0:av) (b:Nat) (w:av) (l:aH) (st:St):Prop where
 o:ay [] w0 w
 lo:w0.heap.size<=b
 ex:∃(q:Option Addr) (sl:Sl),(q=none∨q=some ⟨b,0,none⟩)/\aF w b 116 [ae q,sl.v,aj st.1,O U st.2]/\Bf w (b+1) sl l
 i:st.1=false->0<=st.2/\st.2<=400
 big:l.length<=274877906944
structure Up (st:St) (c:Bool) (n:Nat) (cO:St):Prop where
 w:cO.1=((st.1||!c)||decide (400<st.2+n))
 a:cO.1=false->cO.2=st.2+n
theorem or3{a b c:Bool}(h:false=((a||!b)||c)):a=false/\b=true/\c=false:=by
 revert h;cases a<;>cases b<;>cases c<;>decide
theorem Up.ok{st cO:St}{c:Bool}{n:Nat}(h:Up st c n cO)(e:cO.1=false):st.1=false/\c=true/\cO.2=st.2+n/\¬400<st.2+(n:Int):=by
 obtain⟨a,b,d⟩:=or3 (e.symm.trans h.w);exact⟨a,b,h.a e,aU d⟩
theorem Up.tr{st cO ab7:St}{c c':Bool}{n n':Nat}(h:Up st c n cO)(k:Up cO c' n' ab7):Up st (c&&c') (n+n') ab7:=by
 cases e:ab7.1 with
 | false=>
  obtain⟨k1,k2,k3,k4⟩:=k.ok e;obtain⟨h1,h2,h3,h4⟩:=h.ok k1;have h5:¬400<st.2+((n+n':Nat):Int):=aE
  refine⟨?_,λ_=>aE⟩;rw[e,h1,h2,k2,bA h5];rfl
 | true=>
  refine⟨?_,λe2=>by rw[e]at e2;cases e2⟩;rw[e];refine Eq.symm (bL λhn=>?_);obtain⟨a1,a2,a3⟩:=or3 (gN.2 hn).symm;rw[aP]at a2;have a3:=aU a3;have h5:¬400<st.2+(n:Int):=aE
  have e1:cO.1=false:=by rw[h.w,a1,a2.1,bA h5];rfl
  have e2:=h.a e1;have h6:¬400<cO.2+(n':Int):=aE
  have:=k.w;rw[e,e1,a2.2,bA h6]at this;cases this
theorem Up.cg{st cO:St}{c c':Bool}{n n':Nat}(h:Up st c n cO)(e:c=c')(en:n=n'):Up st c' n' cO:=by subst e en;exact h
theorem Up.le{st cO:St}{c:Bool}{n:Nat}(h:Up st c n cO)(h0:st.1=false->0<=st.2)(e:cO.1=false):0<=cO.2/\cO.2<=400:=by
 obtain⟨a,b,d,h2⟩:=h.ok e;have:=h0 a;omega
section
variable {f g:Bool} {w0 ws w w' w1 sR:av} {b k:Nat} {l l':aH} {st cO:St} {ks ks':List Nat}
theorem Mw.refl(f:Bool)(b:Nat)(w:av):Mw f b w w:=⟨OnlyP.refl _ _,λ_ h=>.inl h⟩
theorem Mw.trans(h:Mw f b w w')(k:Mw f b w' sR):Mw f b w sR:=by
 have z:=h.o.size;refine⟨h.o.trans k.o λx hx=>?_,λx hx=>?_⟩
 ·rcases hx with hx | ⟨ef,hx⟩
  ·exact .inl (.inl hx)
  rcases h.u x hx with e | ⟨_,e⟩
  ·exact .inl (.inr ⟨ef,e⟩)
  exact .inr e
 rcases k.u x hx with e | ⟨ef,e⟩
 ·exact h.u x e
 exact .inr ⟨ef,aE⟩
theorem Mw.up(h:Mw f b w w'):Mw false b w w':=⟨h.o.mono λk _ hk=>hk.elim .inl λe=>.inr ⟨rfl,e.2⟩,λk hk=>(h.u k hk).elim .inl λe=>.inr ⟨rfl,e.2⟩⟩
theorem Mw.only1(h:Mw true b w w'):ay [b] w w':=h.o.ag4 λk hk=>hk.elim (λe=>.inl (by rw[e];simp)) λe=>(by cases e.1)
theorem xo(h:w'.heap[b]? =w.heap[b]?){k:Nat}(hb:Bu w' b k):Bu w b k:=by
 obtain⟨n,c,hc⟩:=hb;refine⟨n,c,?_⟩;unfold World.cell? at hc⊢;rw[h]at hc;exact hc
theorem Qz.lb(h:Qz w0 b w l st):b<w.heap.size:=by
 obtain⟨q,sl,_,hB,_⟩:=h.ex;exact hB.lt
theorem Qz.arg(h:Qz w0 b w l st)(h':Qz w0 b w' l' cO){k:Nat}(hk:k<w0.heap.size):w'.heap[k]? =w.heap[k]? :=(h'.o.block k hk aM).trans (h.o.block k hk aM).symm
theorem Mw.only(hb:b<w.heap.size)(h:ay [] w w'):Mw f b w w':=⟨h.p0,λk hk=>.inl (xo (h.block b hb aM) hk)⟩
theorem L2{q v2 v3:aw}{t:TypeId}{sl:Sl}(hB:aF w b t [q,sl.v,v2,v3]){k:Nat}(h:Bu w b k):sl.a=some ⟨k,0,none⟩:=by
 obtain⟨n,c,hc⟩:=h;have:=Blk.dN hB 1 rfl 0 sl.v rfl;have e:(Addr.add ⟨b,0,none⟩ 1).add 0=⟨b,1,none⟩:=aei
 rw[e,hc]at this;have:(Value.slice (some ⟨k,0,none⟩) n c)=.slice sl.a sl.n sl.c:=AD this;injection this with e1 _ _;exact e1.symm
theorem Hr{q v2 v3:aw}{t:TypeId}{sl:Sl}(hB:aF w b t [q,sl.v,v2,v3]){k:Nat}(h:sl.a=some ⟨k,0,none⟩):Bu w b k:=by
 have:=Blk.dN hB 1 rfl 0 sl.v rfl;have e:(Addr.add ⟨b,0,none⟩ 1).add 0=⟨b,1,none⟩:=aei
 rw[e]at this;refine⟨sl.n,sl.c,?_⟩;rw[this,<-h]
theorem Qz.bu(h:Qz w0 b w l st){k:Nat}(hk:Bu w b k):b<k/\k<w.heap.size:=by
 obtain⟨q,sl,_,hB,hb⟩:=h.ex;have:=hb.lt (L2 hB hk);omega
theorem Qz.only(h:Qz w0 b w l st)(hO:ay [] w w'):Qz w0 b w' l st:=by
 obtain⟨q,sl,hq,hB,hb⟩:=h.ex;exact⟨h.o.ca hO,h.lo,⟨q,sl,hq,hO.blk hB aM,hb.keep λg _ hl=>hO.block g hl aM⟩,h.i,h.big⟩
structure Zq (f:Bool) (w0 ws:av) (b:Nat) (w:av) (l:aH) (st:St) (ks:List Nat):Prop extends Qz w0 b w l st where
 m:Mw f b ws w
 k:∀k,k∈ks->k<w.heap.size/\k≠b/\¬Bu w b k
theorem Qz.z(f:Bool)(h:Qz w0 b w l st):Zq f w0 w b w l st []:=⟨h,Mw.refl f b w,λk hk=>adL⟩
theorem Zq.q(t:Zq f w0 ws b w l st ks)(hO:ay [] w w'):Zq f w0 ws b w' l st ks:=by
 have hb:=t.toQz.lb;refine⟨t.toQz.only hO,t.m.trans (Mw.only hb hO),λk hk=>?_⟩;obtain⟨h1,h2,h3⟩:=t.k k hk;exact⟨cJ h1 hO.size,h2,λh=>h3 (xo (hO.block b hb aM) h)⟩
theorem Zq.al(t:Zq f w0 ws b w l st ks)(hO:ay [] w w')(h1:w.heap.size<=k)(h2:k<w'.heap.size):Zq f w0 ws b w' l st (k::ks):=by
 have hb:=t.toQz.lb;have t':=t.q hO;refine⟨t'.toQz,t'.m,λx hx=>?_⟩;rcases ba.1 hx with rfl | hx
 ·exact⟨h2,aE,λh=>by have:=(t.toQz.bu (xo (hO.block b hb aM) h)).2;omega⟩
 exact t'.k x hx
theorem Zq.nx(t:Zq f w0 ws b w l st ks)(p:Qz w0 b w' l' cO)(m:Mw f b w w'):Zq f w0 ws b w' l' cO ks:=by
 refine⟨p,t.m.trans m,λk hk=>?_⟩;obtain⟨h1,h2,h3⟩:=t.k k hk;exact⟨cJ h1 m.o.size,h2,λh=>(m.u k h).elim h3 λe=>by have:=e.2;omega⟩
theorem Zq.sq(t:Zq f w0 ws b w l st ks)(hO:ay [] w w')(hk:∀k,k∈ks'->k∈ks):bS ks' w w':=hO.same λx hx=>⟨(t.k x (hk x hx)).1,aM⟩
theorem Zq.sm(t:Zq f w0 ws b w l st ks)(m:Mw g b w w')(hk:∀k,k∈ks'->k∈ks):bS ks' w w':=m.o.same λx hx=>⟨(t.k x (hk x hx)).1,λh=>h.elim (t.k x (hk x hx)).2.1 λe=>(t.k x (hk x hx)).2.2 e.2⟩
theorem Zq.sj(t:Zq f w0 ws b w l st ks)(hz:w.heap.size<=w1.heap.size)(h:aD (λk=>w.heap.size<=k) w1 w')(hk:∀k,k∈ks'->k∈ks):bS ks' w1 w':=h.same λx hx=>by
 have:=(t.k x (hk x hx)).1;exact⟨aE,aE⟩
theorem Zq.row(t:Zq true w0 ws b w l st ks)(hb:b<ws.heap.size)(hu:∀k,Bu ws b k->k<ws.heap.size)(hO:aD (λk=>ws.heap.size<=k) w w'):Zq true w0 ws b w' l st ks:=by
 have hB:=t.toQz.lb;have hlo:=t.lo;have hkb:∀k,Bu w b k->Bu ws b k:=λk hk=>(t.m.u k hk).elim id λe=>(by cases e.1)
 have Ph:=hO.block b hB aE;obtain⟨q,sl,hq,hBl,hbf⟩:=t.ex;refine⟨⟨⟨hO.os.trans t.o.os,hO.tape.trans t.o.tape,hO.output.trans t.o.output,bB t.o.size hO.size,λk hk _=>(hO.block k (cJ hk t.o.size) aE).trans (t.o.block k hk aM)⟩,hlo,⟨q,sl,hq,Ph.trans hBl,hbf.keep λg hg hl=>hO.block g hl λe=>(by have:=hu g (hkb g (Hr hBl hg));omega)⟩,t.i,t.big⟩,⟨t.m.o.trans hO λk hk=>.inr hk,λk hk=>.inl (hkb k (xo Ph hk))⟩,λk hk=>?_⟩;obtain⟨h1,h2,h3⟩:=t.k k hk;exact⟨cJ h1 hO.size,h2,λh=>h3 (xo Ph h)⟩
theorem bR.of{ks:List Nat}(h:bS ks w w'):bR (λk=>k∈ks) w w':=λk hk _=>h k hk
theorem tY{w2:av}(h1:ay [] w w1)(h2:aD (λk=>w.heap.size<=k) w1 w2):ay [] w w2:=(h1.vV h2).only λ_ h=>h
end
theorem Ra(w:av)(ws:List (aH)){n:Nat}{parts:Array (Nat×aw)}(hp:parts=(((ws.map λx=>Value.string (T x)).zipIdx 0).map λx=>(x.2,x.1)).toArray)(hn:ws.length=n)(h0:0<n)(vG:n*1<=16777216):
  ∃(q:Sl) (w1:av) (g:Nat) (cs:aI),(au 41 n parts).run aq w=.ok q.v w1/\ay [] w w1/\w.heap.size<=g/\g<w1.heap.size/\aF w1 g 9 cs/\
   ∀(i:Nat) x,ws[i]? =some x->cR q (i:Int) 1 ⟨g,i,none⟩/\∀w',aF w' g 9 cs->aB w' ⟨g,i,none⟩ [ab (T x)]:=by
 obtain⟨q,w1,k1,k2,k3⟩:=jJ w ws hp hn h0 vG;rcases k2 with⟨_,e⟩ | ⟨g,css,tail,a1,a2,a4,a5,a6,a7,a9,a8⟩
 ·subst e;simp at hn;omega
 have Uj:=Jv a8;refine⟨q,w1,g,_,k1,k3,a2,a4.lt,a4,λi x hx=>⟨⟨⟨g,0,none⟩,a1,aZ i,?_,?_⟩,λw' hB=>Blk.Yq hB i ?_⟩⟩
 ·have:=(bc.1 hx).1;omega
 ·rw[gH,aX,wI,bM]
 have:(ws.map λx=>Value.string (T x))[i]? =some (ab (T x)):=aet
 rw[Uj,bQ (bc.1 this).1,this]
section
variable {w0 w:av} {b:Nat} {l:aH} {st:St}
theorem Jx(b j:Nat):(Addr.add ⟨b,0,none⟩ j:Addr)=⟨b,j,none⟩:=by rw[gH,bM]
theorem Qz.set(h:Qz w0 b w l st):∃(q:Option Addr) (sl:Sl),aF w b 116 [ae q,sl.v,aj st.1,O U st.2]/\
  ∀(w':av) (cO:St),ay [b] w w'->aF w' b 116 [ae q,sl.v,aj cO.1,O U cO.2]->(cO.1=false->0<=cO.2/\cO.2<=400)->Qz w0 b w' l cO/\Mw true b w w':=by
 obtain⟨q,sl,hq,hB,hb⟩:=h.ex;refine⟨q,sl,hB,λw1 F3 cn qF hi=>⟨⟨⟨cn.os.trans h.o.os,cn.tape.trans h.o.tape,cn.output.trans h.o.output,bB h.o.size cn.size,λk hk _=>(cn.block k (cJ hk h.o.size) (by have:=h.lo;simp;omega)).trans (h.o.block k hk aM)⟩,h.lo,⟨q,sl,hq,qF,hb.keep λg hg hl=>cn.block g hl (by have:=(hb.lt hg).1;simp;omega)⟩,hi,h.big⟩,?_⟩⟩;exact⟨cn.p λx hx=>.inl (.inl aa9),λk hk=>.inl (Hr hB (L2 qF hk))⟩
theorem Qz.up0(h:Qz w0 b w l st):Up st true 0 st:=by
 refine⟨?_,λ_=>aM⟩;cases e:st.1
 ·have:=(h.i e).2;have h2:¬400<st.2+((0:Nat):Int):=aE
  rw[bA h2];rfl
 rfl
theorem L3{q:Option Addr}{sl:Sl}{wr:Bool}{ac:Int}(hB:aF w b 116 [ae q,sl.v,aj wr,O U ac])(ok:Bool):az aq 53 #[rp b,aj ok] w λe w'=>
  e=ak (ai #[])/\ay [b] w w'/\aF w' b 116 [ae q,sl.v,aj (wr||!ok),O U ac]:=by
 refine ret (afj _ _ _ _ ?_);exact⟨wr,Blk.dN hB 2 rfl,b,2,_,_,Jx b 2,hB,aM,λw1 cn qF=>⟨rfl,cn,qF⟩⟩
theorem kP(h:Qz w0 b w l st)(ok:Bool):az aq 53 #[rp b,aj ok] w λe w'=>e=ak (ai #[])/\∃cO,Up st ok 0 cO/\Qz w0 b w' l cO/\Mw true b w w':=by
 obtain⟨q,sl,hB,Ib⟩:=h.set;refine(L3 hB ok).mono ?_;rintro _ w1 ⟨rfl,cn,qF⟩;have hu:Up st ok 0 (st.1||!ok,st.2):=by
  refine⟨?_,λe=>aM⟩;cases e:st.1
  ·have:=(h.i e).2;have h2:¬400<st.2+((0:Nat):Int):=aE
   rw[bA h2,F9]
  simp
 exact⟨rfl,_,hu,Ib w1 _ cn qF λe=>hu.le (λe=>(h.i e).1) e⟩
theorem nN(h:Qz w0 b w l st)(s:aH)(hs:s.length<9223372036854775807):az aq 55 #[rp b,ab (T s)] w λe w'=>e=ak (ab (T s))/\∃cO,Up st (dj s) 0 cO/\Qz w0 b w' l cO/\Mw true b w w':=by
 refine ret (afk _ _ _ _ ?_);refine(QY s hs).mono ?_;rintro _ w1 ⟨rfl,cn⟩;refine⟨_,rfl,(kP (h.only cn) _).mono ?_⟩;rintro _ w2 ⟨rfl,cO,h1,h2,h3⟩;exact⟨rfl,rfl,cO,h1,h2,(Mw.only h.lb cn).trans h3⟩
theorem L4(h:Qz w0 b w l st){F:aJ}{x:Ex}{cs:aI}(hx:rE false w F x cs)(hn:NY x)(hs:Ai x<=1759218604441)(hE:Er w0)(hT:Tb w0):
  az aq 152 #[rp b,ah cs.toArray] w λe w'=>e=ak (ab (T (uS x)))/\∃cO,Up st (qs x) 0 cO/\Qz w0 b w' l cO/\Mw true b w w':=by
 obtain⟨xs,rfl⟩:=dX hx;refine ret (afx _ _ _ _ _ _ _ _ _ ?_);intro k0 w1 fO dQ cn;have t1:=(h.z true).al cn fO dQ;refine(VG ((ic false).keep hx λk _ bT=>cn.block k bT aM) hn hs (hE.only t1.o) (hT.only t1.o)).mono ?_;rintro _ w2 ⟨rfl,cH⟩;have t2:=t1.q cH;refine⟨_,rfl,t1.sq cH aM,(kP t2.toQz _).mono ?_⟩;rintro _ w3 ⟨rfl,cO,h1,h2,h3⟩;rw[show ao #[]=T []from rfl,gU]at h1;have e:(!decide (uS x=[]))=qs x:=by unfold qs;rw[decide_not]
 rw[e]at h1;exact⟨rfl,t2.sm h3 aM,rfl,cO,h1,h2,(t2.nx h2 h3).m⟩
theorem L5(h:Qz w0 b w l st){F:aJ}{x:Ex}{cs:aI}(hx:rE false w F x cs):
  az aq 153 #[rp b,ah cs.toArray] w λe w'=>e=ak (ai #[])/\∃cO,Up st (oa x) 0 cO/\Qz w0 b w' l cO/\Mw true b w w':=by
 have fi:∃xs:Sl,cs=lf x.k x.n x.s x.op xs x.a/\xs.n=x.dh.length:=by
  obtain⟨d,hx⟩:=hx;cases d with
  | zero=>exact hx.elim
  | succ d=>
   obtain⟨sl,h1,h2,_⟩:=hx;exact⟨sl,h1,h2.len⟩
 obtain⟨xs,rfl,hl⟩:=fi;refine ret (afw _ _ _ _ _ _ _ _ _ ?_);intro k0 w1 fO dQ cn;have t1:=(h.z true).al cn fO dQ;refine(kP t1.toQz _).mono ?_;rintro _ w3 ⟨rfl,cO,h1,h2,h3⟩;rw[show ao #[]=T []from rfl,gU,hl]at h1;exact⟨rfl,t1.sm h3 aM,rfl,cO,h1,h2,(t1.nx h2 h3).m⟩
theorem L6(h:Qz w0 b w l st):az aq 58 #[rp b] w λe w'=>e=ak (aj (decide (16384<l.length)))/\w'=w:=by
 refine ret (afn _ _ _ ?_);obtain⟨q,sl,hq,hB,hb⟩:=h.ex;refine(XA _ (λv w'=>v=O U (l.length:Int)/\w'=w) w ?_).mono ?_
 ·rw[Jx];exact⟨sl,Blk.dN hB 1 rfl,by rw[hb.len],rfl⟩
 rintro _ w1 ⟨v,rfl,rfl,rfl⟩;refine⟨_,rfl,?_,rfl⟩;congr 1;rw[bH];simp;omega
end
def Du(a:Ac):Nat:=Ai a.x+(a.n.length+1)
def iW:List Ac->Nat
 | []=>0
 | a::l=>Du a+iW l
theorem pr{a:Ac}:∀{l:List Ac},a∈l->Du a<=iW l
 | [],h=>aa6
 | x::l,h=>by
  rw[iW];rcases ba.1 h with rfl | h
  ·omega
  have:=pr h;omega
theorem fT:∀(l:List Ac),l.length<=iW l
 | []=>be _
 | a::l=>by
  have:=fT l;rw[iW,aW];unfold Du;omega
def FY(l:List (aH)):Nat:=(l.map λs=>s.length+1).sum
def EX(m:Mv):Nat:=(iW m.acts+Ai m.g)+(FY m.tg+(m.ev.length+1))
theorem EY(x:Ex):(uS x).length<=16384:=by
 by_cases h:uS x=[]
 ·rw[h];exact be _
 obtain⟨h1,h2,h3⟩:=Hl h;refine bL λhc=>?_;have e:uS x=oW (BF x) x false []:=h2;rw[<-e]at h3;unfold fP at h3;have:cG (uS x)=([],2, -1):=by rw[cG,aV aE]
 rw[this,aV aL]at h3;exact absurd h3 (show ¬(2:Int)=0 by decide)
theorem rY{s:aH}(h:dj s=true):ne s=true:=by
 unfold dj at h;simp only[aP]at h;have:=(aR h.1.1.1).1;unfold ne;rw[bA this];rfl
theorem agn{x:Ex}(h:qs x=true):ne (uS x)=true:=by
 unfold ne;rw[bA (aR h)];rfl
theorem qg{x:aH}(h:ne x=true)(ws:List (aH)):gu (x::ws)=x++Lib.joinTail [32] (ws.filter ne):=by
 unfold gu;rw[rz,h,aV rfl,Lib.join_cons]
theorem fU(x:aH)(r:List (aH)):Lib.joinTail [32] (x::r)=32::(x++Lib.joinTail [32] r):=by
 unfold Lib.joinTail;rw[bK,dC];rfl
theorem nf:Lib.joinTail [32] []=[]:=rfl
theorem fV{x:aH}(h:ne x=true)(ws:List (aH)):(x::ws).filter ne=x::ws.filter ne:=by rw[rz,h,aV rfl]
theorem Rb(ws:List (aH)):([]::ws).filter ne=ws.filter ne:=by rw[rz,aQ aL]
def Ua(a:Ac):List (aH):=if a.k=2 then[jz,a.n]else[if a.k=1 then pK else kZ,a.n,[61],uS a.x]
theorem XY{a:Ac}(h:gF a=true):gu (Ua a)++[59]=zd a:=by
 unfold gF at h;simp only[aP]at h;obtain⟨⟨h1,h2⟩,h3⟩:=h;unfold Ua zd;by_cases hk:a.k=2
 ·rw[aV hk,aV hk,qg aL,fV (rY h2),eU,fU,nf];simp
 rw[aQ hk]at h3;have hw:ne (if a.k=1 then pK else kZ)=true:=by split<;>decide
 rw[aQ hk,aQ hk,qg hw,fV (rY h2),fV aL,fV (agn h3),eU,fU,fU,fU,nf];simp
theorem VK(a:Ac):(gu (Ua a)).length<=16398+a.n.length:=by
 refine bB (jA _) ?_;have:=EY a.x;unfold Ua;split
 ·simp only[bK,fC,cE,jp];show 5+1+(a.n.length+1+0)<=_;omega
 simp only[bK,fC,cE,jp];have:(if a.k=1 then pK else kZ).length<=4:=by split<;>decide
 show _+1+(a.n.length+1+(1+1+(_+1+0)))<=_;omega
section
variable {w0 w:av} {b:Nat} {l:aH} {st:St}
theorem ago(h:Qz w0 b w l st){F:aJ}{a:Ac}{cs:aI}(hx:mG false w F a cs)(hF:∀k,F k->k<w0.heap.size)(hn:Dm a)(hs:Du a<=1759218604441)(hE:Er w0)(hT:Tb w0):
  az aq 151 #[rp b,ah cs.toArray] w λe w'=>∃s cO,e=ak (ab (T s))/\s.length<=16400+a.n.length/\(gF a=true->s=zd a)/\Up st (gF a) 0 cO/\Qz w0 b w' l cO/\Mw true b w w':=by
 obtain⟨xc,rfl,hx⟩:=hx;obtain⟨xs,rfl⟩:=dX hx;unfold Du at hs;refine(afv ⟨b,0,none⟩ a.k (T a.n) a.x.k a.x.n (T a.x.s) a.x.op xs a.x.a a.a (λv w'=>∃s cO,v=ab (T s)/\s.length<=16400+a.n.length/\(gF a=true->s=zd a)/\Up st (gF a) 0 cO/\Qz w0 b w' l cO/\Mw true b w w') w ?_).mono (by
  rintro e w' ⟨v,rfl,s,cO,rfl,h⟩;exact⟨s,cO,rfl,h⟩)
 intro k0 w1 fO dQ cn;have t1:=(h.z true).al cn fO dQ;obtain⟨q,w2,g,cs,e1,cH,hg1,hg2,lS,cY⟩:=Ra w1 [[],pK,jz,kZ] (n:=4) (parts:=#[.mk 0 (ab (ao #[])),.mk 1 (ab (ao #[115,101,116])),.mk 2 (ab (ao #[114,97,105,115,101])),.mk 3 (ab (ao #[101,109,105,116]))]) rfl rfl aL aL;have t2:=t1.al cH hg1 hg2;have tail:=VK a;refine⟨q,w2,e1,t1.sq cH aM,λhc=>?_,λhc=>?_⟩
 ·refine(kP t2.toQz false).mono ?_;rintro _ w3 ⟨rfl,cO,u1,u2,u3⟩;have hk:gF a=false:=by
   unfold gF;have:¬(1<=a.k/\a.k<=3):=by
    simp only[cx,bI]at hc;omega
   rw[bA this];rfl
  exact⟨rfl,t2.sm u3 aM,[],cO,rfl,be _,λe=>(by rw[hk]at e;cases e),by rw[hk];exact u1,u2,(t2.nx u2 u3).m⟩
 have Iq:1<=a.k/\a.k<=3:=by
  simp only[fg,eV]at hc;omega
 have hwd:∀x,[[],pK,jz,kZ][a.k.toNat]? =some x->cR q a.k 1 ⟨g,a.k.toNat,none⟩/\∀w',aF w' g 9 cs->aB w' ⟨g,a.k.toNat,none⟩ [ab (T x)]:=λx hx=>by
  have:=cY _ x hx;rwa[fy aE]at this
 refine⟨λvK=>?_,λvK w8 fj=>?_⟩
 ·have hk:a.k=2:=aeh
  have hW:Ua a=[jz,a.n]:=by unfold Ua;rw[aV hk]
  refine(L5 t2.toQz ((ic false).keep hx λk hk _=>h.arg t2.toQz (hF k hk))).mono ?_;rintro _ w3 ⟨rfl,st3,u1,u2,u3⟩;have t3:=t2.nx u2 u3;refine⟨rfl,t2.sm u3 aM,λw4 dw=>⟨λk=>k∈[k0,g],aM,?_⟩⟩;have t4:=t3.q dw;obtain⟨y1,y2⟩:=hwd jz adC;have pN:aF w4 g 9 cs:=(t3.sq (ks':=[g]) dw aM g aM).trans ((t2.sm (ks':=[g]) u3 aM g aM).trans lS);refine⟨_,y1,aM,_,y2 w4 pN,(nN t4.toQz a.n aE).mono ?_⟩;rintro _ w5 ⟨rfl,WS,v1,v2,v3⟩;have t5:=t4.nx v2 v3;obtain⟨q6,w6,e6,dK,_,hj⟩:=Dr w5 [jz,a.n] (n:=2) (parts:=#[.mk 0 (ab (T jz)),.mk 1 (ab (T a.n))]) rfl rfl aL aL (by rw[<-hW];omega);have z6:=dK.size;refine⟨_,rfl,t4.sm v3 aM,bR.of (t4.sm v3 aM),q6,w6,e6,t5.sq dK aM,bR.of (t5.sq dK aM),hj.mono ?_⟩;rintro _ w7 ⟨rfl,OX⟩;have fK:=tY dK OX;have t7:=t5.q fK;have hU:=u1.tr v1;have oh:gF a=(oa a.x&&dj a.n):=by
   unfold gF;rw[aV hk,bE Iq,bZ,Bool.and_comm]
  rw[<-oh]at hU;rw[<-hW];refine⟨_,rfl,t5.sj z6 OX aM,bR.of (t5.sj z6 OX aM),aaY,gu (Ua a)++[59],WS,acv,aba,λoh=>XY oh,hU,t7.toQz,t7.m⟩
 have hk:a.k≠2:=aeh
 have hW:Ua a=[if a.k=1 then pK else kZ,a.n,[61],uS a.x]:=by unfold Ua;rw[aQ hk]
 have t8:=t2.q fj;obtain⟨y1,y2⟩:=hwd (if a.k=1 then pK else kZ) (by
  by_cases h1:a.k=1
  ·rw[aV h1,h1];rfl
  rw[aQ h1,show a.k=3 by omega];rfl)
 have wB:aF w8 g 9 cs:=(t2.sq (ks':=[g]) fj aM g aM).trans lS;refine⟨λk=>k∈[k0,g],aM,_,y1,aM,_,y2 w8 wB,aM,(nN t8.toQz a.n aE).mono ?_⟩;rintro _ w9 ⟨rfl,st9,u1,u2,u3⟩;have t9:=t8.nx u2 u3;refine⟨_,rfl,t8.sm u3 aM,bR.of (t8.sm u3 aM),(L4 t9.toQz ((ic false).keep hx λk hk _=>h.arg t9.toQz (hF k hk)) hn aE hE hT).mono ?_⟩;rintro _ de ⟨rfl,an5,v1,v2,v3⟩;have t10:=t9.nx v2 v3;obtain⟨q11,dz,e11,dH,_,hj⟩:=Dr de [if a.k=1 then pK else kZ,a.n,[61],uS a.x] (n:=4) (parts:=#[.mk 0 (ab (T (if a.k=1 then pK else kZ))),.mk 1 (ab (T a.n)),.mk 2 (ab (T [61])),.mk 3 (ab (T (uS a.x)))]) rfl rfl aL aL (by rw[<-hW];omega);have CR:=dH.size;refine⟨_,rfl,t9.sm v3 aM,bR.of (t9.sm v3 aM),q11,dz,e11,t10.sq dH aM,bR.of (t10.sq dH aM),hj.mono ?_⟩;rintro _ eu ⟨rfl,TL⟩;have eh:=tY dH TL;have t12:=t10.q eh;have hU:=u1.tr v1;have oh:gF a=(dj a.n&&qs a.x):=by
  unfold gF;rw[aQ hk,bE Iq,bZ]
 rw[<-oh]at hU;rw[<-hW];refine⟨_,rfl,t10.sj CR TL aM,bR.of (t10.sj CR TL aM),aaY,gu (Ua a)++[59],an5,acv,aba,λoh=>XY oh,hU,t12.toQz,t12.m⟩
end
theorem Up.bad{st cO:St}{c c':Bool}{n n':Nat}(h:Up st c n cO)(e:cO.1=true)(hc:c'=true->c=true)(hn:n<=n'):Up st c' n' cO:=by
 refine⟨?_,λe2=>by rw[e]at e2;cases e2⟩;rw[e];refine Eq.symm (bL λhk=>?_);obtain⟨a1,a2,a3⟩:=or3 (gN.2 hk).symm;have a3:=aU a3;have:=h.w;rw[e,a1,hc a2,bA (show ¬400<st.2+(n:Int) by omega)]at this;cases this
theorem xp:∀(l m:List Ac),iW (l++m)=iW l+iW m
 | [],m=>by rw[bP];show _=0+_;omega
 | a::l,m=>by rw[bX,iW,iW,xp l m];omega
theorem Z8(a:Ac):ne (zd a)=true:=by
 have:zd a≠[]:=by unfold zd;split<;>simp
 unfold ne;rw[bA this];rfl
theorem Rc:∀l:List Ac,Lib.joinTail [32] ((l.map zd).filter ne)=xi l
 | []=>rfl
 | a::l=>by rw[bK,fV (Z8 a),fU,Rc l,xi]
theorem Z9(x y:List (aH)):Lib.joinTail [32] (x++y)=Lib.joinTail [32] x++Lib.joinTail [32] y:=by
 unfold Lib.joinTail;rw[cN,FV]
theorem agp(l:List Ac):gu ([123]::(l.map zd++[[125]]))=vO l:=by
 rw[qg aL,lw,Z9,Rc];rfl
theorem XZ{w:av}{B:Nat}{s:Sl}{ws:List (aH)}(h:Own kb 1 9 B w (λ_=>True) s ws)(x:aH)(hB:B<=w.heap.size)(hm:ws.length<=1073741824):
  ∃y w1,(au 41 1 #[.mk 0 (ab (T x))]).run aq w=.ok (Sl.v y) w1/\ay [] w w1/\∃s' w2,(Builtin.append_ #[41,41] 41 #[Sl.v s,Sl.v y]).run aq w1=.ok (Sl.v s') w2/\
   Own kb 1 9 B w2 (λ_=>True) s' (ws++[x])/\∃gs,ay gs w1 w2/\∀g,g∈gs->s.a=some ⟨g,0,none⟩/\B<=g:=by
 obtain⟨y,w1,e1,cn,s',w2,e2,oz,⟨gs,cH,vZ⟩,_⟩:=lz (P:=aq) (t:=41) (ty:=41) (e:=9) (i:=Tryz.t9) (bytes:=16) (size:=1) (v:=ab (T x)) (x:=x) (G:=λ_=>False) (by kernel_rfl) (by kernel_rfl) rfl rfl rfl rfl aL aL aL cX h hB rfl rfl (λk hk _=>hk.elim) aE;exact⟨y,w1,e1,cn,s',w2,e2,oz.mono cX λk _=>trivial,gs,cH,λg hg=>⟨(vZ g hg).1,(vZ g hg).2.1⟩⟩
theorem _root_.Go.Kt.Own.SU{w w':av}{B b:Nat}{s:Sl}{ws:List (aH)}(h:Own kb 1 9 B w (λ_=>True) s ws)(hO:ay [b] w w')(hb:b<B):Own kb 1 9 B w' (λ_=>True) s ws:=by
 rcases h with⟨rfl,rfl⟩ | ⟨g,css,tail,h1,h2,h4,h5,h6,h7,h9,h8⟩
 ·exact .inl ⟨rfl,rfl⟩
 have e:∀{l:List (aH)} {css:List (aI)},pb kb 1 w (λk=>True/\k≠g) l css->pb kb 1 w' (λk=>True/\k≠g) l css:=fun{l}=>by
  induction l with
  | nil=>intro css h;cases css with | nil=>trivial | cons _ _=>exact h
  | cons x l ih=>intro css h;cases css with | nil=>exact h | cons c css=>exact⟨h.1,ih h.2⟩
 exact .inr ⟨g,css,tail,h1,h2,hO.blk h4 aaf,h5,h6,h7,h9,e h8⟩
theorem Re{α:Type}{p:α->Bool}{xs:List α}{j:Nat}(h:xs.all p=true):(xs.take j).all p=true:=by
 rw[ey]at h⊢;exact λx hx=>h x (List.mem_of_mem_take hx)
theorem Hs(ws:List (aH))(x:aH):((ws++[x]).map λl=>l.length+1).sum=(ws.map λl=>l.length+1).sum+(x.length+1):=by
 rw[cN,T4];simp
section
variable {w0 w:av} {b:Nat} {l:aH} {st:St}
theorem EZ(h:Qz w0 b w l st){F:aJ}{s:Sl}{xs:List Ac}(hx:aA (mG false) 9 w F s xs)(hF:∀k,F k->k<w0.heap.size)(hn:∀a,a∈xs->Dm a)(hs:iW xs<=16777216)(hE:Er w0)(hT:Tb w0):
  az aq 105 #[rp b,s.v] w λe w'=>∃t cO,e=ak (ab (T t))/\t.length<=16405*iW xs/\(cO.1=false->t=if xs=[]then[]else vO xs)/\Up st (xs.all gF) xs.length cO/\Qz w0 b w' l cO/\Mw true b w w':=by
 refine(afu ⟨b,0,none⟩ s (λv w'=>∃t cO,v=ab (T t)/\t.length<=16405*iW xs/\(cO.1=false->t=if xs=[]then[]else vO xs)/\Up st (xs.all gF) xs.length cO/\Qz w0 b w' l cO/\Mw true b w w') w ?_).mono (by
  rintro e w' ⟨v,rfl,s,cO,rfl,h⟩;exact⟨s,cO,rfl,h⟩)
 have fi:=hx.len;have hlz:=fT xs;refine⟨λhc=>?_,λhc=>?_⟩
 ·have hc:s.n=0:=by have:((s.n:Int))=0:=aax;omega
  have:xs=[]:=bF aE;subst this;exact⟨[],st,rfl,be _,λ_=>(aV rfl).symm,h.up0,h,Mw.refl _ _ _⟩
 have ii:xs≠[]:=λe=>by
  subst e;have:s.n=0:=fi;rw[this]at hc;exact absurd hc aL
 obtain⟨q,sl,hB,Ib⟩:=h.set;refine⟨st.2,Blk.dN hB 3 rfl,b,3,_,_,Jx b 3,hB,aM,λw1 cn qF=>⟨_,Blk.dN qF 3 rfl,(L3 (q:=q) (sl:=sl) (wr:=st.1) (ac:=ar U (st.2+(s.n:Int))) qF _).mono ?_⟩⟩;rintro _ w2 ⟨rfl,cH,lS⟩;have hU1:Up st true xs.length (st.1||!decide (ar U (st.2+(s.n:Int))<=400),ar U (st.2+(s.n:Int))):=by
  cases e:st.1
  ·have:=h.i e;have ew:ar U (st.2+(s.n:Int))=st.2+xs.length:=by rw[fi];exact eY aE aE
   rw[ew];refine⟨?_,λ_=>rfl⟩;rw[e];by_cases h4:st.2+(xs.length:Int)<=400
   ·rw[bE h4,bA aE];rfl
   rw[bA h4,bE aE];rfl
  exact⟨by rw[e];rfl,λe2=>by cases e2⟩
 obtain⟨h2,vj⟩:=Ib w2 _ (cn.trans cH λx hx=>.inl hx) lS λe=>hU1.le (λe=>(h.i e).1) e;generalize (st.1||!decide (ar U (st.2+(s.n:Int))<=400),ar U (st.2+(s.n:Int)))=F3 at*
 have b2:=h2.lb;have hu2:∀k,Bu w2 b k->k<w2.heap.size:=λk hk=>(h2.bu hk).2;obtain⟨q3,w3,e3,cT,an6,_⟩:=Dr w2 [[123]] (n:=1) (parts:=#[.mk 0 (ab (T [123]))]) rfl rfl aL aL aL;have t3:=(h2.z true).q cT;refine⟨rfl,q3,w3,e3,λl1 w'=>∃ws cO,Own kb 1 9 w2.heap.size w' (λ_=>True) l1 ws/\ws.length<=16777217/\(ws.map λl=>l.length+1).sum<=2+16401*iW xs/\(cO.1=false->ws=[123]::xs.map zd)/\Up F3 (xs.all gF) 0 cO/\Zq true w0 w2 b w' l cO [],?_,?_⟩
 ·rintro l1 w4 ⟨ws,KG,aca,hwl,hws,YR,hU4,t4⟩;have z4:=t4.m.o.size;obtain⟨y,w5,e5,dY,s6,w6,e6,an7,gs,dK,vZ⟩:=XZ aca [125] z4 aE;refine⟨y,w5,e5,s6,w6,e6,?_⟩;have t6:=(t4.q dY).row b2 hu2 (dK.p (F:=λk=>w2.heap.size<=k) λx hx=>.inl (vZ x hx).2);have OY:=Hs ws [125];have vm:=jA (ws++[[125]]);have hl1:([125]:aH).length=1:=rfl;refine(BI an7 aE aba).mono ?_;rintro _ w7 ⟨rfl,OX⟩;have t7:=t6.row b2 hu2 OX;have hsz:1<=iW xs:=by
   have:1<=xs.length:=th.2 ii;omega
  refine⟨_,rfl,gu (ws++[[125]]),KG,rfl,aE,λe=>?_,(hU1.tr hU4).cg aM aM,t7.toQz,vj.trans t7.m⟩;rw[aQ ii,YR e];exact agp xs
 refine⟨λnv l1 i w'=>∃(j:Nat) (ws:List (aH)) (cO:St),i=j/\j<=xs.length/\nv=xs.length-j/\Own kb 1 9 w2.heap.size w' (λ_=>True) l1 ws/\ws.length<=j+1/\(ws.map λl=>l.length+1).sum<=2+16401*iW (xs.take j)/\(cO.1=false->ws=[123]::(xs.take j).map zd)/\Up F3 ((xs.take j).all gF) 0 cO/\Zq true w0 w2 b w' l cO [],
  xs.length,⟨0,[[123]],F3,rfl,be _,rfl,an6,aY _,aY _,λ_=>rfl,h2.up0,t3⟩,?_⟩
 rintro nv l4 _ w7 ⟨j,ws,YS,rfl,hj,rfl,WT,hwl,hws,YR,Nl,t7⟩;have z7:=t7.m.o.size;have SZ:iW xs=iW (xs.take j)+iW (xs.drop j):=by rw[<-xp,dP]
 refine⟨λhc=>?_,λhc=>?_⟩
 ·have bT:(j:Int)<s.n:=aR hc;have hx7:aA (mG false) 9 w7 F s xs:=SliceF.keep (cy false) hx aL λk hk _=>h.arg t7.toQz (hF k hk);obtain⟨ad,a,cs,g1,g2,g3,g4,g5,g6⟩:=hx7.get (aZ j) bT;rw[aX]at g2;have ha:=bh g2;have oo:xs.take (j+1)=xs.take j++[a]:=by
   rw[bn,g2];rfl
  have hsa:iW (xs.take (j+1))=iW (xs.take j)+Du a:=by
   rw[oo,xp];show _+(Du a+0)=_;omega
  have aqT:iW xs=iW (xs.take (j+1))+iW (xs.drop (j+1)):=by rw[<-xp,dP]
  obtain⟨xc,rfl,hxc⟩:=g6;obtain⟨xl,rfl⟩:=dX hxc;refine⟨ad,g1,_,_,_,_,_,_,_,_,_,g5,λk5 w8 pQ FQ fj=>?_⟩;have t8:=t7.al fj pQ FQ;obtain⟨q8,sl8,wB,_⟩:=t8.toQz.set;refine⟨YS.1,Blk.dN wB 2 rfl,λhw=>?_,λhw=>?_⟩
  ·have t8':Zq true w0 w2 b w8 l YS []:=⟨t8.toQz,t8.m,λk hk=>adL⟩
   have KF:=WT.keep cX λk hk bT=>fj.block k bT aM;exact⟨ws,YS,KF,aE,aE,λe=>absurd (hw.symm.trans e) aL,Nl.bad hw Re (aY _),t8'⟩
  refine(ago t8.toQz ((cy false).keep ⟨_,rfl,hxc⟩ λk _ bT=>fj.block k bT aM) hF (hn a ha) (by have:=pr ha;omega) hE hT).mono ?_;rintro _ w9 ⟨tx,st9,rfl,hl9,an9,YU,h9,hm9⟩;have t9:=t8.nx h9 hm9;have aoa:∀g,l4.a=some ⟨g,0,none⟩->w2.heap.size<=g/\g<w7.heap.size:=λg hg=>by
   rcases WT with⟨rfl,_⟩ | ⟨g',css,tl,a1,a2,a4,_⟩
   ·cases hg
   rw[a1]at hg;injection hg with hg;injection hg with hg;subst hg;exact⟨a2,a4.lt⟩
  have aob:Own kb 1 9 w2.heap.size w9 (λ_=>True) l4 ws:=by
   have o1:=WT.keep cX (w':=w8) λk hk bT=>fj.block k bT aM;refine(o1.mono (G:=λ_=>True) cX λ_ _=>trivial).SU hm9.only1 b2
  obtain⟨y,de,e10,dT,Cu,dz,e11,TJ,gs,dH,vZ⟩:=XZ aob tx (bB z7 (bB fj.size hm9.o.size)) aE;have t10:=t9.q dT;have t11:=t10.row b2 hu2 (dH.p (F:=λk=>w2.heap.size<=k) λx hx=>.inl (vZ x hx).2);have Cu:bS [k5] de dz:=dH.same λx hx=>by
   have:=(t10.k x aa9).1;refine⟨this,λhm=>?_⟩;have:=(aoa x (vZ x hm).1).2;simp only[aO]at hx;omega
  have OY:=Hs ws tx;refine⟨_,rfl,t8.sm hm9 aM,y,de,e10,t9.sq dT aM,_,dz,e11,Cu,xs.length-(j+1),aE,j+1,ws++[tx],st9,aaa,aE,rfl,TJ,aba,?_,λe=>?_,(Nl.tr YU).cg ?_ rfl,⟨t11.toQz,t11.m,λk hk=>adL⟩⟩
  ·rw[OY,hsa];have:16400+a.n.length+1<=16401*Du a:=by unfold Du;omega
   omega
  ·obtain⟨e1,e2,_⟩:=YU.ok e;rw[YR e1,an9 e2,oo,cN];rfl
  rw[oo,ja];simp
 have lR:¬(j:Int)<s.n:=aU hc;have kF:j=xs.length:=aE
 subst kF;rw[bm (aY _)]at hws YR Nl;exact⟨ws,YS,WT,aE,hws,YR,Nl,t7⟩
end
theorem al3{w:av}{F:aJ}{s:Sl}{xs:List (aH)}(h:aA kb 1 w F s xs)(sep:aH)(hl:(Lib.join xs sep).length<=140737488355328)(hn:xs.length<=140737488355328):
  az aq 145 #[s.v,ab (T sep)] w λe w'=>e=ak (ab (T (Lib.join xs sep)))/\ay [] w w':=by
 have fi:=h.len;have oS:=h.cap;obtain⟨sa,sn,sc⟩:=s;dsimp only at fi oS;subst fi;cases xs with
 | nil=>
  refine(Tryz.strings_Join_none sa sc (T sep) w).mono ?_;rintro _ w2 ⟨rfl,rfl⟩;exact⟨rfl,Only.refl _ _⟩
 | cons x xs=>
  obtain⟨base,cs,g1,g2,g3,g4,g5⟩:=h.at_ 0 x rfl;have g1:sa=some base:=g1;unfold kb at g5;subst g5 g1;have h0:=g4 0 _ rfl;have WU:base.spot=none:=by
   unfold World.cell? at h0;split at h0
   ·split at h0
    ·cases h0
    rename_i hs;have e:((base.add (0*1)).add 0).spot=base.spot:=rfl;rw[e]at hs;cases hb:base.spot with
    | none=>rfl
    | some v=>rw[hb]at hs;simp at hs
   cases h0
  obtain⟨bk,o,sp⟩:=base;dsimp only at WU;subst WU;have bT:bk<w.heap.size:=by
   have e:((Addr.add ⟨bk,o,none⟩ (0*1)).add 0:Addr)=⟨bk,o,none⟩:=aei
   rw[e]at h0;refine bL λhn=>?_;unfold World.cell? at h0;rw[gP aa1]at h0;cases h0
  have:=Tryz.strings_Join bk o sc ((x::xs).map T) (T sep) w (λj y hj=>by
   rw[cA,eE]at hj;obtain⟨z,hz,rfl⟩:=hj;obtain⟨base,cs,g1,g2,g3,g4,g5⟩:=h.at_ j z hz;unfold kb at g5;subst g5;cases g1;have:=g4 0 _ rfl;have e:((Addr.add ⟨bk,o,none⟩ (j*1)).add 0:Addr)=⟨bk,o+j,none⟩:=aei
   rw[e]at this;exact this) bT ac4 ac4 (by
   rw[iE];have:((λx:aK=>x.data.toList)∘T)=id:=rfl;rw[this,O7];exact hl)
  rw[bN]at this;refine this.mono ?_;rintro _ w2 ⟨rfl,hB⟩;refine⟨?_,Only.below hB⟩;rw[iE];have:((λx:aK=>x.data.toList)∘T)=id:=rfl;rw[this,O7]
theorem L7:∀l:List (aH),Lib.joinTail [44,32] l=Dl l
 | []=>rfl
 | s::l=>by
  unfold Lib.joinTail;rw[bK,dC];show[44,32]++s++Lib.joinTail [44,32] l=_;rw[L7 l];rfl
theorem L8(s:aH)(l:List (aH)):(Lib.join (s::l) [44,32]).length<=2*FY (s::l):=by
 have h1:∀l:List (aH),(Dl l).length<=2*FY l:=λl=>by
  induction l with
  | nil=>exact be _
  | cons s l ih=>
   unfold FY at ih⊢;rw[bK,cE,Dl,aW,aW,aN];omega
 rw[Lib.join_cons,L7,aN];have:=h1 l;have e:FY (s::l)=(s.length+1)+FY l:=by unfold FY;rw[bK,cE]
 omega
theorem xq(l:List (aH)):l.length<=FY l:=by
 unfold FY
 induction l with
 | nil=>exact be _
 | cons s l ih=>rw[bK,cE,aW];omega
theorem E1{s:aH}{l:List (aH)}(h:s∈l):s.length+1<=FY l:=by
 unfold FY
 induction l with
 | nil=>simp at h
 | cons x l ih=>
  rw[bK,cE];rcases ba.1 h with rfl | h
  ·omega
  have:=ih h;omega
def X1(m:Mv):aH:=if m.k=1 then gu [zH,m.ev]else if m.k=3 then gu [im,Lib.itoa m.wt]else gD
def gdM(m:Mv):aH:=if m.gd then 91::(uS m.g++[93])else[]
def O9(m:Mv):aH:=match m.tg with
 | []=>[]
 | s::l=>45::62::32::(s++Dl l)
theorem Ht{n:Int}(h:wE n):(Lib.itoa n).length<=21:=Lib.itoa_length_le n h.1 h.2
theorem VL(n:Int):ne (Lib.itoa n)=true:=by
 have:Lib.itoa n≠[]:=by
  unfold Lib.itoa;split
  ·simp
  rw[Lib.decDigits];split<;>simp
 unfold ne;rw[bA this];rfl
theorem Rf{m:Mv}(h:kO m=true):gu [X1 m,gdM m,(if m.acts=[]then[]else vO m.acts),O9 m]++[59]=BH m:=by
 unfold kO at h;simp only[aP]at h;obtain⟨⟨⟨⟨⟨h1,h2⟩,h3⟩,h4⟩,h5⟩,h6⟩:=h;have hh:X1 m=T8 m/\ne (X1 m)=true:=by
  unfold X1 T8;by_cases k1:m.k=1
  ·rw[aV k1]at h2;rw[aV k1,aV k1,qg aL,fV (rY h2),eU,fU,nf,bD];exact⟨rfl,rfl⟩
  rw[aQ k1,aQ k1];by_cases k3:m.k=3
  ·rw[aV k3,aV k3,qg aL,fV (VL _),eU,fU,nf,bD];exact⟨rfl,rfl⟩
  rw[aQ k3,aQ k3];exact⟨rfl,aL⟩
 rw[qg hh.2,hh.1];unfold BH;rw[bf];congr 1;have e1:Lib.joinTail [32] ([gdM m,(if m.acts=[]then[]else vO m.acts),O9 m].filter ne)=NZ m++((if m.acts=[]then[]else 32::vO m.acts)++(match m.tg with
  | []=>[]
  | s::l=>32::45::62::32::(s++Dl l))):=by
  have eg:∀ws:List (aH),Lib.joinTail [32] ((gdM m::ws).filter ne)=NZ m++Lib.joinTail [32] (ws.filter ne):=λws=>by
   unfold gdM NZ;cases m.gd
   ·simp only[iv,jf];rw[Rb];rfl
   simp only[wH];rw[fV (by rfl),fU];rfl
  have ea:∀ws:List (aH),Lib.joinTail [32] (((if m.acts=[]then[]else vO m.acts)::ws).filter ne)=(if m.acts=[]then[]else 32::vO m.acts)++Lib.joinTail [32] (ws.filter ne):=λws=>by
   by_cases ha:m.acts=[]
   ·rw[aV ha,aV ha,Rb];rfl
   rw[aQ ha,aQ ha,fV (by rfl),fU];rfl
  rw[eg,ea];congr 2;unfold O9;cases m.tg with
  | nil=>rfl
  | cons s l=>
   rw[fV (by rfl),fU,eU,nf,bD]
 rw[e1];simp only[bf]
 all_goals rfl
theorem mvB(m:Mv):((((if m.k=1 then dj m.ev else if m.k=3 then decide (0<=m.wt)else decide (m.k=2))&&((decide (m.ev=[])||(m.k==1))&&((m.wt==0)||(m.k==3))))&&(if m.gd then qs m.g else oa m.g))&&(m.tg.all dj&&m.acts.all gF))=kO m:=by
 unfold kO;generalize (if m.gd then qs m.g else oa m.g)=A;generalize m.tg.all dj=B;generalize m.acts.all gF=C;generalize dj m.ev=D;by_cases k1:m.k=1
 ·rw[aV k1,aV k1,k1];cases D<;>cases A<;>cases B<;>cases C<;>by_cases hw:m.wt=0<;>simp[hw]
 rw[aQ k1,aQ k1];by_cases k3:m.k=3
 ·rw[aV k3,k3];cases A<;>cases B<;>cases C<;>by_cases he:m.ev=[]<;>by_cases hw:m.wt=0<;>by_cases hp:0<m.wt<;>simp[hw,he,hp]<;>omega
 rw[aQ k3];by_cases k2:m.k=2
 ·rw[k2];cases A<;>cases B<;>cases C<;>by_cases he:m.ev=[]<;>by_cases hw:m.wt=0<;>simp[hw,he]
 have:¬(1<=m.k/\m.k<=3):=aE
 rw[bA this,bA k2];simp
section
variable {w0 w:av} {b:Nat} {l:aH} {st:St}
theorem aab(h:Qz w0 b w l st){F:aJ}{m:Mv}{cs:aI}(hx:Af false w F m cs)(hF:∀k,F k->k<w0.heap.size)(hn:PA m)(hs:EX m<=16777216)(hE:Er w0)(hT:Tb w0):
  az aq 106 #[rp b,ah cs.toArray] w λe w'=>∃t cO,e=ak (ab (T t))/\t.length<=16450*EX m/\(cO.1=false->t=BH m)/\Up st (kO m) m.acts.length cO/\Qz w0 b w' l cO/\Mw true b w w':=by
 obtain⟨gc,pO,tg,rfl,hg,Cn,pG⟩:=hx;obtain⟨gl,rfl⟩:=dX hg;have Cn:=Cn.1;have pG:=pG.1;have hsz:=hs;unfold EX at hsz;refine(afB ⟨b,0,none⟩ m.k (T m.ev) m.wt m.gd m.g.k m.g.n (T m.g.s) m.g.op gl m.g.a pO tg m.a (λv w'=>∃t cO,v=ab (T t)/\t.length<=16450*EX m/\(cO.1=false->t=BH m)/\Up st (kO m) m.acts.length cO/\Qz w0 b w' l cO/\Mw true b w w') w ?_).mono (by
  rintro e w' ⟨v,rfl,s,cO,rfl,h⟩;exact⟨s,cO,rfl,h⟩)
 intro k0 w1 fO dQ cn;have t1:=(h.z true).al cn fO dQ;have Ia:=pG.len;have htn:=xq m.tg;refine⟨λs0 w'=>∃hd cO,s0=T hd/\hd.length<=30+m.ev.length/\(cO.1=false->hd=X1 m)/\Up st (if m.k=1 then dj m.ev else if m.k=3 then decide (0<=m.wt)else decide (m.k=2)) 0 cO/\Zq true w0 w b w' l cO [k0],?_,λhc=>?_,λhc=>⟨λKH=>?_,λKH=>?_⟩⟩
 ·rintro _ w2 ⟨hd,zq,rfl,xV,hdt,hU2,t2⟩;refine(kP t2.toQz _).mono ?_;rintro _ w3 ⟨rfl,st3,u1,u2,u3⟩;have t3:=t2.nx u2 u3;have hU3:=hU2.tr u1;rw[show ao #[]=T []from rfl,gU]at hU3;refine⟨rfl,t2.sm u3 aM,λs1 w'=>∃gt cO,s1=T gt/\gt.length<=16386/\(cO.1=false->gt=gdM m)/\Up st3 (if m.gd then qs m.g else oa m.g) 0 cO/\Zq true w0 w b w' l cO [k0],?_,λUx=>?_,λUx=>?_⟩
  ·rintro _ w4 ⟨gt,KG,rfl,gtl,gtt,hU4,t4⟩;refine⟨λnv i w'=>∃(j:Nat) (cO:St),i=j/\j<=m.tg.length/\nv=m.tg.length-j/\Up KG ((m.tg.take j).all dj) 0 cO/\Zq true w0 w b w' l cO [k0],m.tg.length,⟨0,KG,rfl,be _,rfl,t4.toQz.up0,t4⟩,?_⟩;rintro nv _ w5 ⟨j,WS,rfl,hj,rfl,hU5,t5⟩;have aiy:aA kb 1 w5 F tg m.tg:=SliceF.keep cX pG aL λk hk _=>h.arg t5.toQz (hF k hk);refine⟨λhc=>?_,λhc=>?_⟩
   ·have bT:(j:Int)<tg.n:=aR hc;obtain⟨ad,x,cs,g1,g2,g3,g4,g5,g6⟩:=aiy.get (aZ j) bT;rw[aX]at g2;unfold kb at g6;subst g6;have hxm:=E1 (bh g2);refine⟨ad,g1,_,g5,(nN t5.toQz x aE).mono ?_⟩;rintro _ w6 ⟨rfl,st6,v1,v2,v3⟩;refine⟨_,rfl,t5.sm v3 aM,m.tg.length-(j+1),aE,j+1,st6,aaa,aE,rfl,(hU5.tr v1).cg ?_ rfl,t5.nx v2 v3⟩;rw[bn,g2,ja];simp
   have lR:¬(j:Int)<tg.n:=aU hc;have kF:j=m.tg.length:=aE
   subst kF;rw[bm (aY _)]at hU5;refine⟨λs4 w'=>s4=T (O9 m)/\Zq true w0 w b w' l WS [k0],?_,λhc=>?_,λhc=>?_⟩
   ·rintro _ w7 ⟨rfl,t7⟩;refine(EZ t7.toQz (SliceF.keep (cy false) Cn aL λk hk _=>h.arg t7.toQz (hF k hk)) hF hn.a aE hE hT).mono ?_;rintro _ w8 ⟨bt,st8,rfl,btl,btt,hU8,v2,v3⟩;have t8:=t7.nx v2 v3;have atY:(O9 m).length<=3+2*FY m.tg:=by
     unfold O9;cases hm:m.tg with
     | nil=>exact be _
     | cons s l=>
      have:=L8 s l;rw[Lib.join_cons,L7]at this;rw[aW,aW,aW];omega
    have vm:=jA [hd,gt,bt,O9 m];simp only[bK,fC,cE,jp]at vm;have M5:EX m=(iW m.acts+Ai m.g)+(FY m.tg+(m.ev.length+1)):=rfl;obtain⟨q9,w9,e9,fG,_,hj9⟩:=Dr w8 [hd,gt,bt,O9 m] (n:=4) (parts:=#[.mk 0 (ab (T hd)),.mk 1 (ab (T gt)),.mk 2 (ab (T bt)),.mk 3 (ab (T (O9 m)))]) rfl rfl aL aL aE;have z9:=fG.size;refine⟨_,rfl,t7.sm v3 aM,q9,w9,e9,t8.sq fG aM,hj9.mono ?_⟩;rintro _ de ⟨rfl,aiB⟩;have t10:=t8.q (tY fG aiB);have hU:=(hU3.tr hU4).tr (hU5.tr hU8);refine⟨_,rfl,t8.sj z9 aiB aM,aaY,gu [hd,gt,bt,O9 m]++[59],st8,acv,aba,λe=>?_,hU.cg ?_ aE,t10.toQz,t10.m⟩
    ·obtain⟨x5,x8,_⟩:=hU8.ok e;obtain⟨x4,x5',_⟩:=hU5.ok x5;obtain⟨x3,x4',_⟩:=hU4.ok x4;obtain⟨x2,x3',_⟩:=u1.ok x3;obtain⟨x1,x2',_⟩:=hU2.ok x2;rw[hdt x2,gtt x4,btt e];refine Rf ?_;obtain⟨_,y,_⟩:=hU.ok e;exact(mvB m).symm.trans y
    exact mvB m
   ·have WD:m.tg≠[]:=λe=>by
     rw[e]at Ia;have:tg.n=0:=Ia;rw[this]at hc;exact absurd hc aL
    have vm:(Lib.join m.tg [44,32]).length<=2*FY m.tg:=by
     cases hm:m.tg with
     | nil=>exact absurd hm WD
     | cons s l=>exact L8 s l
    refine(al3 aiy [44,32] aE aE).mono ?_;rintro _ w7 ⟨rfl,fK⟩;refine⟨_,rfl,t5.sq fK aM,aaY,?_,t5.q fK⟩;rw[show ao #[45,62,32]=T [45,62,32]from rfl,eI];congr 1;unfold O9;cases hm:m.tg with
    | nil=>exact absurd hm WD
    | cons s l=>
     rw[Lib.join_cons,L7];rfl
   have hz:m.tg=[]:=bF aa0;refine⟨?_,t5⟩;unfold O9;rw[hz]
  ·refine(L4 t3.toQz ((ic false).keep hg λk hk _=>h.arg t3.toQz (hF k hk)) hn.g aE hE hT).mono ?_;rintro _ w4 ⟨rfl,KG,v1,v2,v3⟩;have t4:=t3.nx v2 v3;have:=EY m.g;refine⟨_,rfl,t3.sm v3 aM,aaY,?_,91::(uS m.g++[93]),KG,?_,aaf,λ_=>by unfold gdM;rw[aV Ux],by rw[aV Ux];exact v1,t4⟩
   ·rw[show ao #[91]=T [91]from rfl,eI,cq,aN,br];omega
   rw[show ao #[91]=T [91]from rfl,show ao #[93]=T [93]from rfl,eI,eI];rfl
  refine(L5 t3.toQz ((ic false).keep hg λk hk _=>h.arg t3.toQz (hF k hk))).mono ?_;rintro _ w4 ⟨rfl,KG,v1,v2,v3⟩;exact⟨rfl,t3.sm v3 aM,[],KG,rfl,be _,λ_=>by unfold gdM;rw[aQ (by rw[Ux];decide)],by rw[aQ (by rw[Ux];decide)];exact v1,t3.nx v2 v3⟩
 ·have hk:m.k=1:=aax
  refine(nN t1.toQz m.ev aE).mono ?_;rintro _ w2 ⟨rfl,zq,v1,v2,v3⟩;have t2:=t1.nx v2 v3;have vm:=jA [zH,m.ev];simp only[bK,fC,cE,jp]at vm;have hw:zH.length=2:=rfl;obtain⟨q3,w3,e3,cT,_,Ul⟩:=Dr w2 [zH,m.ev] (n:=2) (parts:=#[.mk 0 (ab (T zH)),.mk 1 (ab (T m.ev))]) rfl rfl aL aL aE;have z3:=cT.size;refine⟨_,rfl,t1.sm v3 aM,q3,w3,e3,t2.sq cT aM,Ul.mono ?_⟩;rintro _ w4 ⟨rfl,YV⟩;exact⟨_,rfl,t2.sj z3 YV aM,_,zq,rfl,aE,λ_=>by unfold X1;rw[aV hk],by rw[aV hk];exact v1,t2.q (tY cT YV)⟩
 ·have kU:m.k≠1:=aax
  have hk:m.k=3:=by simpa using KH
  refine(kP t1.toQz _).mono ?_;rintro _ w2 ⟨rfl,zq,v1,v2,v3⟩;have t2:=t1.nx v2 v3;refine⟨rfl,t1.sm v3 aM,(Ag m.wt hn.w (hT.only t2.o)).mono ?_⟩;rintro _ w3 ⟨rfl,cT⟩;have t3:=t2.q cT;have vm:=jA [im,Lib.itoa m.wt];simp only[bK,fC,cE,jp]at vm;have hw:im.length=5:=rfl;have Uu:=Ht hn.w;obtain⟨q4,w4,e4,dw,_,hj4⟩:=Dr w3 [im,Lib.itoa m.wt] (n:=2) (parts:=#[.mk 0 (ab (T im)),.mk 1 (ab (T (Lib.itoa m.wt)))]) rfl rfl aL aL aE;have z4:=dw.size;refine⟨_,rfl,t2.sq cT aM,q4,w4,e4,t3.sq dw aM,hj4.mono ?_⟩;rintro _ w5 ⟨rfl,hP5⟩;exact⟨_,rfl,t3.sj z4 hP5 aM,_,zq,rfl,aE,λ_=>by unfold X1;rw[aQ kU,aV hk],by rw[aQ kU,aV hk];exact v1,t3.q (tY dw hP5)⟩
 have kU:m.k≠1:=aax
 have yS:m.k≠3:=by simpa using KH
 refine(kP t1.toQz _).mono ?_;rintro _ w2 ⟨rfl,zq,v1,v2,v3⟩;have t2:=t1.nx v2 v3;refine⟨rfl,t1.sm v3 aM,gD,zq,rfl,by show 6<=_;omega,λ_=>by unfold X1;rw[aQ kU,aQ yS],by rw[aQ kU,aQ yS];exact v1,t2⟩
end
end Go.Proofs.YtmgndgpgngcgpaaGreatDoor.Con
