import Derived.Test.YtbkjcdocjfknfaaGreatDoorQc8
set_option linter.unusedSectionVars false
namespace Go.Proofs.YtbkjcdocjfknfaaGreatDoor.Con
open Go.Value renaming int->O,string->ab,pointer->ae,agg->ah,tuple->ai,bool->aj
open Go.IntKind renaming i64->U,wrap->ar
open Go.Ending renaming returned->ak
open _root_.ByteArray renaming mk->ao
open _root_.Go.Proofs.Tryz renaming prog->aq
open Go.Instr renaming buildSlice->au
open Go renaming World->av,Value->aw,Calls->az
open Go.Kt renaming Only->ay,SliceF->aA,Cells->aB,OnlyP->aD,Blk->aF
open Go Go.RowKit Go.Kt Go.Kt.V Go.Proofs.YtbkjcdocjfknfaaGreatDoor.Vc
set_option linter.unusedSimpArgs false
set_option linter.unusedVariables false
set_option maxHeartbeats 4000000
def ne(l:aH):Bool:=!decide (l=[])
def fM(ws:List (aH)):aH:=Lib.join (ws.filter ne) [32]
theorem Only.below{w w':av}(h:Below w.heap.size w w'):ay [] w w':=⟨h.os,h.tape,h.output,h.size,fun k hk _=>h.block k hk⟩
theorem Jk{w:av}{F:aJ}:∀{l:List (aH)} {css:List (aI)},mN ju 1 w F l css->css.flatten=l.map fun x=>ab (T x)
 | [],[],_=>rfl
 | c::l,d::css,h=>by
  obtain⟨⟨_,h1⟩,h2⟩:=h;unfold ju at h1;subst h1;rw[di,Jk h2];rfl
theorem Cz(l:aH)(w:av):az aq 230 #[ab (T l)] w fun e w'=>e=ak (aj (decide (l=[])))/\w'=w:=by
 refine ret (alh _ _ _ ?_);exact⟨by rw[show ao #[]=T []from rfl,mA],rfl⟩
section
variable {w:av} {B:Nat} {F:aJ} {s:Sl} {ws:List (aH)}
theorem Ru(h:Own ju 1 9 B w F s ws):az aq 245 #[s.v,.func (.func 230) #[] #[]] w fun e w'=>
  ∃i:Int,e=ak (O U i)/\w'=w/\((i= -1/\ws.filter ne=ws)∨∃n:Nat,i=n/\n<ws.length/\(ws.take (n+1)).filter ne=ws.take n):=by
 refine(afE s ⟨.func (.func 230) #[] #[],rfl⟩ (fun v w'=>∃i:Int,v=O U i/\w'=w/\((i= -1/\ws.filter ne=ws)∨∃n:Nat,i=n/\n<ws.length/\(ws.take (n+1)).filter ne=ws.take n)) w ?_).mono (by
  rintro e w' ⟨v,rfl,i,rfl,h⟩;exact⟨i,rfl,h⟩)
 have hs:=h.slice cP;have fi:=hs.len;have rK:=hs.big;have mU:=hs.cap;refine⟨fun nv i w'=>∃n:Nat,n<=ws.length/\i=(n:Int)/\nv=ws.length-n/\(ws.take n).filter ne=ws.take n/\w'=w,ws.length,⟨0,bh _,rfl,rfl,rfl,rfl⟩,?_⟩;rintro nv _ w0 ⟨n,hn,rfl,rfl,mc,rfl⟩;refine⟨fun hc=>?_,fun hc=>?_⟩
 ·have bS:(n:Int)<s.n:=aO hc;obtain⟨ad,x,cs,g1,g2,g3,g4,g5,g6⟩:=hs.get (bA n) bS;rw[aY]at g2;unfold ju at g6;subst g6;have ht:ws.take (n+1)=ws.take n++[x]:=by
   rw[bJ,g2];rfl
  refine⟨ad,g1,_,g5,230,[],[],rfl,fu (by kernel_rfl),?_⟩;refine(Cz x w0).mono ?_;rintro _ w1 ⟨rfl,rfl⟩;refine⟨_,rfl,fun hb=>⟨_,rfl,rfl,.inr ⟨n,rfl,by omega,?_⟩⟩,fun hb=>⟨ws.length-(n+1),by omega,n+1,by omega,by rw[fR (by omega) (by omega)];rfl,rfl,?_,rfl⟩⟩
  ·have hb:x=[]:=aO hb;rw[ht,fj,mc,hb];simp[ne]
  ·have hb:x≠[]:=aR hb;rw[ht,fj,mc];simp[ne,hb]
 ·have rl:¬(n:Int)<s.n:=aR hc;rw[bq (by omega)]at mc;exact⟨_,rfl,rfl,.inl ⟨rfl,mc⟩⟩
theorem N7(h:Own ju 1 9 B w F s ws):az aq 229 #[s.v,.func (.func 230) #[] #[]] w fun e w'=>
  ∃s':Sl,e=ak s'.v/\Own ju 1 9 B w' F s' (ws.filter ne)/\aD (fun k=>B<=k) w w':=by
 refine(afD s ⟨.func (.func 230) #[] #[],rfl⟩ (fun v w'=>∃s':Sl,v=s'.v/\Own ju 1 9 B w' F s' (ws.filter ne)/\aD (fun k=>B<=k) w w') w ?_).mono (by
  rintro e w' ⟨v,rfl,s',rfl,h⟩;exact⟨s',rfl,h⟩)
 have fi:=h.len;have mU:=h.cap;have rK:=(h.slice cP).big;refine(Ru h).mono ?_;rintro _ w0 ⟨i,rfl,rfl,hi⟩;refine⟨i,rfl,fun hc=>?_,fun hc=>?_⟩
 ·rcases hi with⟨_,hf⟩ | ⟨n,rfl,hn,hf⟩
  ·rw[hf];exact⟨s,rfl,h,OnlyP.refl _ _⟩
  ·have:(n:Int)= -1:=eq_of_beq hc;omega
 rcases hi with⟨rfl,_⟩ | ⟨n,rfl,hn,hf⟩
 ·exact absurd hc (by decide)
 refine⟨fun nv a b w'=>∃(L:List (aH)) (p q:Nat),a=p/\b=q/\p<q/\q<=ws.length/\nv=ws.length-q/\L.length=ws.length/\L.take p=(ws.take q).filter ne/\L.drop q=ws.drop q/\Own ju 1 9 B w' F s L/\aD (fun k=>B<=k) w0 w',
  ws.length-(n+1),⟨ws,n,n+1,rfl,by rw[fR (by omega) (by omega)];rfl,by omega,by omega,rfl,rfl,hf.symm,rfl,h,OnlyP.refl _ _⟩,?_⟩
 rintro nv _ _ w1 ⟨L,p,q,rfl,rfl,hpq,hq,rfl,hL,ht,hd,hO,hP⟩;refine⟨fun hc=>?_,fun hc=>?_⟩
 ·have bS:(q:Int)<s.n:=aO hc;have hq':q<ws.length:=by omega
  obtain⟨ad,x,cs,g1,g2,g3,g4,g5,g6⟩:=(hO.slice cP).get (bA q) bS;rw[aY]at g2;unfold ju at g6;subst g6;have hx:ws[q]? =some x:=by
   rw[<-g2];have e1:=bI (fun l=>l[0]?) hd;simpa using e1.symm
  have hw:ws.take (q+1)=ws.take q++[x]:=by
   rw[bJ,hx];rfl
  have hdn:∀M:List (aH),(∀j,q+1<=j->M[j]? =L[j]?)->M.drop (q+1)=ws.drop (q+1):=fun M hM=>by
   apply jp;intro j;rw[kg,kg,hM _ (by omega)];have e1:=bI (fun l=>l[1+j]?) hd;simp only[kg]at e1;rw[show q+1+j=q+(1+j) by omega];exact e1
  refine⟨fun j w2=>∃(M:List (aH)) (p':Nat),j=p'/\p'<q+1/\M.length=ws.length/\M.take p'=(ws.take (q+1)).filter ne/\M.drop (q+1)=ws.drop (q+1)/\Own ju 1 9 B w2 F s M/\aD (fun k=>B<=k) w0 w2,?_,ad,g1,_,g5,230,[],[],rfl,fu (by kernel_rfl),?_⟩
  ·rintro _ w2 ⟨M,p',rfl,m1,m2,m3,m4,m5,m6⟩;exact⟨ws.length-(q+1),by omega,M,p',q+1,rfl,by rw[fR (by omega) (by omega)];rfl,m1,hq',rfl,m2,m3,m4,m5,m6⟩
  refine(Cz x w1).mono ?_;rintro _ w2 ⟨rfl,rfl⟩;refine⟨_,rfl,fun hb=>?_,fun hb=>?_⟩
  ·have hb:x≠[]:=by simpa using hb
   obtain⟨g,cells,b1,b2,b3,b4,b5⟩:=hO.store cP (n:=p) (by omega) (x:=x) (vs:=[ab (T x)]) (G:=fun _=>False) rfl rfl (fun k hk=>hk.elim) (by decide);refine⟨⟨g,p*1,none⟩,b2,g,p*1,cells,_,rfl,b3,b4,fun w3 de wO=>⟨L.set p x,p+1,by rw[fR (by omega) (by omega)];rfl,by omega,by rw[ij];exact hL,?_,hdn _ fun j hj=>by rw[BX (by omega)],b5 w3 de wO,hP.trans (de.p (F:=fun k=>B<=k) fun k hk=>.inl ?_) fun k hk=>.inl hk⟩⟩
   ·rw[hw,fj,<-ht,bJ,oB (by omega),Fm (by omega)];simp[ne,hb]
   ·simp only[aN]at hk;subst hk;rcases hO with⟨rfl,_⟩ | ⟨g',_,_,a1,a2,_⟩
    ·cases b1
    ·rw[a1]at b1;injection b1 with b1;injection b1 with b1;omega
  ·have hb:x=[]:=by simpa using hb
   refine⟨L,p,rfl,by omega,hL,?_,hdn _ fun j _=>rfl,hO,hP⟩;rw[hw,fj,<-ht,hb];simp[ne]
 ·have rl:¬(q:Int)<s.n:=aR hc;have hqe:q=ws.length:=by omega
  subst hqe;rw[bq (aX _)]at ht;obtain⟨w2,g,c1,c2,c3,c4⟩:=Own.clear (P:=aq) (t:=31) (ty:=0) (i:=p) cP (by decide) (by kernel_rfl) (fun w=>Tryz.zeroValue9 w) (by intro v hv;simp[Value.cells]at hv;subst hv;rfl) rfl hO (by omega);refine⟨p,⟨rfl,by omega,mU⟩,w2,c1,p,⟨rfl,by omega⟩,_,rfl,?_,hP.trans (c3.p (F:=fun k=>B<=k) fun k hk=>.inl ?_) fun k hk=>.inl hk⟩
  ·rw[<-ht];exact c4
  ·simp only[aN]at hk;subst hk;rcases hO with⟨rfl,_⟩ | ⟨g',_,_,a1,a2,_⟩
   ·cases c2
   ·rw[a1]at c2;injection c2 with c2;injection c2 with c2;omega
theorem Az(h:Own ju 1 9 B w F s ws)(hl:(fM ws).length<=140737488355328)(hn:ws.length<=140737488355328):az aq 204 #[s.v] w fun e w'=>e=ak (ab (T (fM ws)))/\aD (fun k=>B<=k) w w':=by
 refine ret (alg _ _ _ ?_);refine(N7 h).mono ?_;rintro _ w1 ⟨s',rfl,hO,hP⟩;refine⟨s',rfl,?_⟩;have fi:=hO.len;have lC:=da ne ws;have W7:∀{w2:av},ay [] w1 w2->aD (fun k=>B<=k) w w2:=fun h=>hP.trans h.p0 fun k hk=>.inl hk;rcases hO with⟨rfl,he⟩ | ⟨g,css,tail,a1,a2,a4,a5,a6,a7,a9,a8⟩
 ·refine(Tryz.strings_Join_none none 0 (T [32]) w1).mono ?_;rintro _ w2 ⟨rfl,rfl⟩;refine⟨_,rfl,?_,hP⟩;unfold fM;rw[he];rfl
 ·obtain⟨sa,sn,sc⟩:=s';dsimp only at a1 a5 a6 a7 a9 fi;subst a1 fi;have Pu:=Jk a8;have:=Tryz.strings_Join g 0 sc ((ws.filter ne).map T) (T [32]) w1 (fun j x hj=>by
   rw[ch,fW]at hj;obtain⟨y,hy,rfl⟩:=hj;have:=a4.cells 0 ((ws.filter ne).map fun x=>Value.string (T x)) (fun j v hj=>by rw[bO,Pu,bK (aV.1 hj).1];exact hj) j (ab (T y)) (by rw[ch,hy];rfl);rw[fL]at this;exact this) a4.lt (by rw[bm];omega) (by rw[bm];omega) (by
   rw[gD];have:((fun x:aK=>x.data.toList)∘T)=id:=rfl;rw[this,O9];exact hl)
  rw[bm]at this;refine this.mono ?_;rintro _ w2 ⟨rfl,hB⟩;refine⟨_,rfl,?_,W7 (Only.below hB)⟩;rw[gD];have:((fun x:aK=>x.data.toList)∘T)=id:=rfl;rw[this,O9];rfl
end
theorem CA(w:av)(ws:List (aH)){n:Nat}{parts:Array (Nat×aw)}(hp:parts=(((ws.map fun x=>Value.string (T x)).zipIdx 0).map fun x=>(x.2,x.1)).toArray)(hn:ws.length=n)(h0:0<n)(zg:n*1<=16777216)(hl:(fM ws).length<=140737488355328):
  ∃(q:Sl) (w0:av),(au 31 n parts).run aq w=.ok q.v w0/\ay [] w w0/\Own ju 1 9 w.heap.size w0 (fun _=>True) q ws/\az aq 204 #[q.v] w0 fun e w'=>e=ak (ab (T (fM ws)))/\aD (fun k=>w.heap.size<=k) w0 w':=by
 obtain⟨q,w0,k1,k2,k3⟩:=nU w ws hp hn h0 zg;exact⟨q,w0,k1,k3,k2,Az k2 hl (by omega)⟩
theorem iJ:∀(ws:List (aH)),(fM ws).length<=(ws.map fun l=>l.length+1).sum:=by
 have h1:∀(r:List (aH)),(Lib.joinTail [32] r).length=(r.map fun l=>l.length+1).sum:=fun r=>by
  induction r with
  | nil=>rfl
  | cons x r ih=>
   unfold Lib.joinTail at ih⊢;rw[bD,di,aP,ih,bD,cp];simp
 have h2:∀(r:List (aH)),(Lib.join r [32]).length<=(r.map fun l=>l.length+1).sum:=fun r=>by
  cases r with
  | nil=>exact bh _
  | cons x r=>
   rw[Lib.join_cons,aP,h1,bD,cp];omega
 have h3:∀(r:List (aH)),((r.filter ne).map fun l=>l.length+1).sum<=(r.map fun l=>l.length+1).sum:=fun r=>by
  induction r with
  | nil=>exact aX _
  | cons x r ih=>
   rw[qw,bD,cp];split
   ·rw[bD,cp];omega
   ·omega
 exact fun ws=>bp (h2 _) (h3 ws)
structure Fz (bs:List Nat) (w w':av) (ks:List Nat):Prop where
 o:ay bs w w'
 k:∀x,x∈ks->w.heap.size<=x/\x<w'.heap.size
 lo:∀x,x∈bs->x<w.heap.size
section
variable {bs bs' ks ks':List Nat} {w w1 w2 w':av} {k0 b:Nat}
theorem Fz.start(lo:∀x,x∈bs->x<w.heap.size):Fz bs w w []:=⟨Only.refl _ _,fun _ h=>(by cases h),lo⟩
theorem Fz.go(h:Fz bs w w1 ks)(k:ay bs' w1 w2)(hb:∀x,x∈bs'->x∈bs∨x∈ks):Fz bs w w2 ks:=
 ⟨h.o.trans k fun x hx=>(hb x hx).imp id fun hk=>(h.k x hk).1,fun x hx=>⟨(h.k x hx).1,cm (h.k x hx).2 k.size⟩,h.lo⟩
theorem Fz.new(h:Fz bs w w1 ks)(k:ay bs' w1 w2)(hb:∀x,x∈bs'->x∈bs∨w.heap.size<=x):Fz bs w w2 ks:=
 ⟨h.o.trans k hb,fun x hx=>⟨(h.k x hx).1,cm (h.k x hx).2 k.size⟩,h.lo⟩
theorem Fz.q(h:Fz bs w w1 ks)(k:ay [] w1 w2):Fz bs w w2 ks:=h.go k fun x hx=>(by cases hx)
theorem Fz.c(h:Fz (b::bs) w w1 ks)(k:ay [b] w1 w2):Fz (b::bs) w w2 ks:=h.go k fun x hx=>.inl (by simp only[aN]at hx;simp[hx])
theorem Fz.f(h:Fz bs w w1 ks)(k:ay [k0] w1 w2)(hk:k0∈ks):Fz bs w w2 ks:=h.go k fun x hx=>.inr (by simp only[aN]at hx;rw[hx];exact hk)
theorem Fz.al(h:Fz bs w w1 ks)(k:ay [] w1 w2)(h1:w1.heap.size<=k0)(h2:k0<w2.heap.size):Fz bs w w2 (k0::ks):=
 ⟨(h.q k).o,fun x hx=>by
  rcases aU.1 hx with rfl | hx
  ·exact⟨bp h.o.size h1,h2⟩
  ·exact(h.q k).k x hx,h.lo⟩
theorem Fz.sm(h:Fz bs w w1 ks)(k:ay bs' w1 w2)(hk:∀x,x∈ks'->x∈ks)(hb:∀x,x∈bs'->x∈bs∨∀y,y∈ks'->y≠x):bU ks' w1 w2:=k.same fun x hx=>
 ⟨(h.k x (hk x hx)).2,fun hm=>by
  rcases hb x hm with h1 | h1
  ·have:=(h.k x (hk x hx)).1;have:=h.lo x h1;omega
  ·exact h1 x hx rfl⟩
theorem Fz.sq(h:Fz bs w w1 ks)(k:ay [] w1 w2)(hk:∀x,x∈ks'->x∈ks):bU ks' w1 w2:=h.sm k hk fun x hx=>(by cases hx)
theorem Fz.sc(h:Fz (b::bs) w w1 ks)(k:ay [b] w1 w2)(hk:∀x,x∈ks'->x∈ks):bU ks' w1 w2:=h.sm k hk fun x hx=>.inl (by simp only[aN]at hx;simp[hx])
theorem Fz.ne(h:Fz bs w w1 ks)(hk:k0∈ks)(hb:b∈bs):k0≠b:=fun e=>by
 have:=(h.k k0 hk).1;have:=h.lo b hb;omega
end
section
variable {α:Type} {r:Rp α} {w w1 w':av} {x:α} {cs:aI} {B:Nat}
structure Stay (B:Nat) (w w':av):Prop where
 sz:w.heap.size<=w'.heap.size
 eq:∀k,B<=k->k<w.heap.size->w'.heap[k]? =w.heap[k]?
theorem Stay.refl(B:Nat)(w:av):Stay B w w:=⟨aX _,fun _ _ _=>rfl⟩
theorem Stay.go{bs:List Nat}(h:Stay B w w1)(k:ay bs w1 w')(hb:∀x,x∈bs->x<B∨w.heap.size<=x):Stay B w w':=
 ⟨bp h.sz k.size,fun i h1 h2=>(k.block i (cm h2 h.sz) fun hm=>by have:=hb i hm;omega).trans (h.eq i h1 h2)⟩
theorem Stay.of{bs:List Nat}(k:ay bs w w')(hb:∀x,x∈bs->x<B∨w.heap.size<=x):Stay B w w':=(Stay.refl B w).go k hb
theorem _root_.Go.Kt.Rp.Ok.stay(hr:r.Ok)(h:r w (Fr B) x cs)(hs:Stay B w w'):r w' (Fr B) x cs:=
 hr.mono (hr.keep (hr.inHeap h) fun k hk bS=>hs.eq k hk.1 bS) fun k hk=>hk.1
theorem _root_.Go.Kt.Rp.Ok.low(hr:r.Ok)(h:r w (Fr B) x cs){A:Nat}(hA:A<=B):r w (Fr A) x cs:=hr.mono h fun k hk=>bp hA hk
variable {size:Nat} {e:TypeId} {s:Sl} {xs:List α} {t:Bool}
theorem jM.stay(hr:r.Ok)(h:jM t r size e w (Fr B) s xs)(h0:0<size)(hs:Stay B w w'):jM t r size e w' (Fr B) s xs:=
 ((h.inHeap hr h0).keep hr h0 fun k hk bS=>hs.eq k hk.1 bS).mono hr fun k hk=>hk.1
theorem jM.low(hr:r.Ok)(h:jM t r size e w (Fr B) s xs){A:Nat}(hA:A<=B):jM t r size e w (Fr A) s xs:=h.mono hr fun k hk=>bp hA hk
end
abbrev Ya(l:Sl)(s:Sx):aI:=[l.v,O U (s.i:Int),O U s.fc,O U s.fa,O U s.v,O U s.n,O U s.d,O U s.m,O U s.a]
structure Sr (F:aJ) (ts:List Tk) (w:av) (b:Nat) (l:Sl) (s:Sx):Prop where
 blk:aF w b 186 (Ya l s)
 tok:aA Lj 4 w F l ts
 hF:∀k,F k->k<b
 en:xa ts
 lt:s.i<ts.length
 sm:ts.length<=16777216
abbrev rp(b:Nat):aw:=ae (some ⟨b,0,none⟩)
section
variable {F:aJ} {ts:List Tk} {w w':av} {b:Nat} {l:Sl} {s s':Sx}
theorem Sr.own(h:Sr F ts w b l s){bs:List Nat}(hO:ay bs w w')(hb:∀x,x∈bs->b<x):Sr F ts w' b l s:=
 ⟨hO.blk h.blk fun hm=>(by have:=hb b hm;omega),SliceF.only jB (by decide) h.tok hO fun k hk _ hm=>(by have:=h.hF k hk;have:=hb k hm;omega),h.hF,h.en,h.lt,h.sm⟩
theorem Sr.far(h:Sr F ts w b l s){bs:List Nat}(hO:ay bs w w')(hb:∀x,x∈bs->x≠b/\¬F x):Sr F ts w' b l s:=
 ⟨hO.blk h.blk fun hm=>(hb b hm).1 rfl,SliceF.only jB (by decide) h.tok hO fun k hk _ hm=>(hb k hm).2 hk,h.hF,h.en,h.lt,h.sm⟩
theorem Sr.aa7(h:Sr F ts w b l s){k0:Nat}(hO:ay [k0] w w')(hk:k0≠b/\¬F k0):Sr F ts w' b l s:=h.far hO fun x hx=>(by simp only[aN]at hx;subst hx;exact hk)
theorem Sr.gt(h:Sr F ts w b l s){x:Nat}(hx:b<x):x≠b/\¬F x:=⟨by omega,fun hF=>by have:=h.hF x hF;omega⟩
theorem Sr.only(h:Sr F ts w b l s)(hO:ay [] w w'):Sr F ts w' b l s:=h.own hO fun x hx=>(by cases hx)
theorem Sr.one(h:Sr F ts w b l s){k0:Nat}(hO:ay [k0] w w')(hk:b<k0):Sr F ts w' b l s:=h.own hO fun x hx=>(by simp only[aN]at hx;omega)
theorem Sr.nI(h:Sr F ts w b l s)(hO:ay [b] w w')(hB:aF w' b 186 (Ya l s'))(hi:s'.i<ts.length):Sr F ts w' b l s':=
 ⟨hB,SliceF.only jB (by decide) h.tok hO fun k hk _ hm=>(by have:=h.hF k hk;simp only[aN]at hm;omega),h.hF,h.en,hi,h.sm⟩
theorem Sr.lb(h:Sr F ts w b l s):b<w.heap.size:=h.blk.lt
theorem Sr.z(h:Sr F ts w b l s):Fz [b] w w []:=Fz.start fun x hx=>(by simp only[aN]at hx;rw[hx];exact h.lb)
theorem Sr.big(h:Sr F ts w b l s):ts.length<=9223372036854775807:=by
 have h1:=h.tok.len;have h2:=h.tok.cap;have h3:=h.tok.big;omega
theorem Sr.wr(h:Sr F ts w b l s):ar U ((s.i:Int)+1)=((s.i+1:Nat):Int):=by
 have:=h.big;have:=h.lt;rw[fR (by omega) (by omega)];rfl
theorem Sr.now(h:Sr F ts w b l s):∃ad,cW l (s.i:Int) 4 ad/\aB w ad [O U (tk ts s.i).k,ab (T (tk ts s.i).t),O U (tk ts s.i).n,O U (tk ts s.i).a]:=by
 have hl:=h.tok.len;have bS:=h.lt;obtain⟨ad,x,cs,g1,g2,g3,g4,g5,g6⟩:=h.tok.get (bA s.i) (by omega);rw[aY,Lq h.lt]at g2;injection g2 with g2;subst g2;unfold Lj at g6;subst g6;exact⟨ad,g1,g5⟩
structure Dn (F:aJ) (ts:List Tk) (w w':av) (b:Nat) (l:Sl) (s:Sx):Prop where
 o:ay [b] w w'
 r:Sr F ts w' b l s
theorem Sr.dn(h:Sr F ts w b l s):Dn F ts w w b l s:=⟨Only.refl _ _,h⟩
theorem Dn.q(h:Dn F ts w w' b l s){w2:av}(k:ay [] w' w2):Dn F ts w w2 b l s:=⟨h.o.cf k,h.r.only k⟩
theorem Dn.nx(h:Dn F ts w w' b l s){w2:av}{s':Sx}(k:Dn F ts w' w2 b l s'):Dn F ts w w2 b l s':=⟨h.o.trans k.o fun x hx=>.inl hx,k.r⟩
theorem Dn.f(h:Dn F ts w w' b l s){w2:av}{k0:Nat}(k:ay [k0] w' w2)(hk:w.heap.size<=k0)(hb:b<w.heap.size):Dn F ts w w2 b l s:=⟨h.o.new k hk,h.r.one k (by omega)⟩
theorem Sr.tk(h:Sr F ts w b l s){ad:Addr}(g:cW l (s.i:Int) 4 ad):aB w ad [O U (tk ts s.i).k,ab (T (tk ts s.i).t),O U (tk ts s.i).n,O U (tk ts s.i).a]:=by
 obtain⟨EZ,g1,g2⟩:=h.now;rw[g.amU g1];exact g2
structure Zt (F:aJ) (ts:List Tk) (w w':av) (b:Nat) (l:Sl) (s:Sx) (ks:List Nat):Prop where
 z:Fz [b] w w' ks
 r:Sr F ts w' b l s
section
variable {w2:av} {ks ks':List Nat} {k0:Nat}
theorem Sr.zt(h:Sr F ts w b l s):Zt F ts w w b l s []:=⟨h.z,h⟩
theorem Zt.q(h:Zt F ts w w' b l s ks)(k:ay [] w' w2):Zt F ts w w2 b l s ks:=⟨h.z.q k,h.r.only k⟩
theorem Zt.al(h:Zt F ts w w' b l s ks)(k:ay [] w' w2)(h1:w'.heap.size<=k0)(h2:k0<w2.heap.size):Zt F ts w w2 b l s (k0::ks):=⟨h.z.al k h1 h2,h.r.only k⟩
theorem Zt.ad(h:Zt F ts w w' b l s ks)(h1:w.heap.size<=k0)(h2:k0<w'.heap.size):Zt F ts w w' b l s (k0::ks):=⟨⟨h.z.o,fun x hx=>by
 rcases aU.1 hx with rfl | hx
 ·exact⟨h1,h2⟩
 ·exact h.z.k x hx,h.z.lo⟩,h.r⟩
theorem Zt.lt(h:Zt F ts w w' b l s ks)(hk:k0∈ks):b<k0:=cm (h.z.lo b (by simp)) (h.z.k k0 hk).1
theorem Zt.f(h:Zt F ts w w' b l s ks)(k:ay [k0] w' w2)(hk:k0∈ks):Zt F ts w w2 b l s ks:=⟨h.z.f k hk,h.r.one k (h.lt hk)⟩
theorem Zt.nx(h:Zt F ts w w' b l s ks)(k:Dn F ts w' w2 b l s'):Zt F ts w w2 b l s' ks:=⟨h.z.c k.o,k.r⟩
theorem Zt.dn(h:Zt F ts w w' b l s ks):Dn F ts w w' b l s:=⟨h.z.o,h.r⟩
theorem Zt.up(h:Zt F ts w w' b l s ks)(k:ay [b] w' w2)(hB:aF w2 b 186 (Ya l s'))(hi:s'.i<ts.length):Zt F ts w w2 b l s' ks:=⟨h.z.c k,h.r.nI k hB hi⟩
theorem Zt.sq(h:Zt F ts w w' b l s ks)(k:ay [] w' w2)(hk:∀x,x∈ks'->x∈ks):bU ks' w' w2:=h.z.sq k hk
theorem Zt.sc(h:Zt F ts w w' b l s ks)(k:Dn F ts w' w2 b l s')(hk:∀x,x∈ks'->x∈ks):bU ks' w' w2:=h.z.sc k.o hk
theorem Zt.row{gs:List Nat}(h:Zt F ts w w' b l s ks)(k:ay gs w' w2)(hg:∀x,x∈gs->w.heap.size<=x):Zt F ts w w2 b l s ks:=⟨h.z.new k fun x hx=>.inr (hg x hx),h.r.own k fun x hx=>cm (h.z.lo b (by simp)) (hg x hx)⟩
theorem Zt.sr{gs:List Nat}(h:Zt F ts w w' b l s ks)(k:ay gs w' w2)(hk:∀x,x∈ks'->x∈ks)(hg:∀x,x∈gs->∀y,y∈ks'->y<x):bU ks' w' w2:=h.z.sm k hk fun x hx=>.inr fun y hy e=>by have:=hg x hx y hy;omega
theorem Zt.ne(h:Zt F ts w w' b l s ks)(hk:k0∈ks):k0≠b:=h.z.ne hk (by simp)
theorem Stay.q{B:Nat}(h:Stay B w w')(k:ay [] w' w2):Stay B w w2:=h.go k fun x hx=>(by cases hx)
theorem Stay.d{B:Nat}(h:Stay B w w')(k:Dn F ts w' w2 b l s')(hb:b<B):Stay B w w2:=h.go k.o fun x hx=>.inl (by simp only[aN]at hx;omega)
theorem Stay.f{B:Nat}(h:Stay B w w')(k:ay [k0] w' w2)(hk:k0<B∨w.heap.size<=k0):Stay B w w2:=h.go k fun x hx=>(by simp only[aN]at hx;subst hx;exact hk)
end
theorem ml(h:Sr F ts w b l s):az aq 119 #[rp b] w fun e w'=>e=ak (aj (s.fc==0))/\ay [] w w':=by
 refine ret (aff _ _ _ ?_);exact⟨s.fc,Blk.dQ h.blk 2 rfl,rfl,Only.refl _ _⟩
theorem yU(h:Sr F ts w b l s)(c:Int):az aq 157 #[rp b,O U c] w fun e w'=>e=ak (ai #[])/\Dn F ts w w' b l (gP ts s c):=by
 refine ret (afh _ _ _ _ ?_);refine(ml h).mono ?_;rintro _ w0 ⟨rfl,cD⟩;refine⟨_,rfl,fun hc w1 cr=>?_,fun hc=>?_⟩
 ·have hc:s.fc=0:=by simpa using hc
  have h1:=h.only (cD.cf cr);obtain⟨ad,g1,g2⟩:=h1.now;refine⟨l,Blk.dQ h1.blk 0 rfl,_,Blk.dQ h1.blk 1 rfl,ad,g1,_,g2.dQ 3 _ rfl,b,2,_,_,rfl,h1.blk,by simp,fun w2 cR po=>⟨rfl,((cD.cf cr).weaken (bs':=[b]) fun _ h=>(by cases h)).trans cR fun x hx=>.inl hx,?_⟩⟩;unfold gP;rw[if_pos hc];exact h1.nI (s':={s with fc:=c,fa:=(tk ts s.i).a}) cR po h.lt
 ·have hc:s.fc≠0:=by simpa using hc
  unfold gP;rw[if_neg hc];exact⟨rfl,h.dn.q cD⟩
theorem sO(h:Sr F ts w b l s):az aq 120 #[rp b] w fun e w'=>e=ak (ai #[])/\Dn F ts w w' b l (ky ts s):=by
 refine ret (afg _ _ _ ?_);obtain⟨ad,g1,g2⟩:=h.now;refine⟨fun w'=>Dn F ts w w' b l (if(tk ts s.i).k=5 then gP ts s 3 else s),fun w0 h0=>(yU h0.r 4).mono ?_,l,Blk.dQ h.blk 0 rfl,_,Blk.dQ h.blk 1 rfl,ad,g1,_,g2.dQ 0 _ rfl,fun hc w2 cR=>?_,fun hc w2 cR=>?_⟩
 ·rintro _ w1 ⟨rfl,h1⟩;refine⟨rfl,rfl,h0.nx ?_⟩;unfold ky;split at h1
  ·rename_i e;rw[if_pos e];exact h1
  ·rename_i e;rw[if_neg e];exact h1
 ·refine(yU (h.only cR) 3).mono ?_;rintro _ w3 ⟨rfl,h3⟩;have hc:(tk ts s.i).k=5:=by simpa using hc
  refine⟨rfl,?_⟩;rw[if_pos hc];exact(h.dn.q cR).nx h3
 ·have hc:¬(tk ts s.i).k=5:=by simpa using hc
  rw[if_neg hc];exact h.dn.q cR
theorem af9{s:Sl}{w:av}{G:aJ}{l:List (aH)}(h:aA ju 1 w G s l)(c:aH):
  az aq 197 #[Sl.v s,ab (T c)] w fun r w'=>r=ak (O U (if uv c l<l.length then(uv c l:Int)else -1))/\w'=w:=by
 refine ret (XM _ _ _ _ ?_);have fi:=h.len;have rK:=h.big;have mU:=h.cap;refine⟨fun nv i w'=>∃n:Nat,n<=l.length/\i=(n:Int)/\nv=l.length-n/\uv c l=n+uv c (l.drop n)/\w'=w,l.length,⟨0,bh _,rfl,rfl,by rw[fV,bO],rfl⟩,?_⟩;rintro nv _ _ ⟨n,hn,rfl,rfl,hp,rfl⟩;refine⟨fun hc=>?_,fun hc=>?_⟩
 ·have bS:(n:Int)<s.n:=aO hc;obtain⟨ad,x,cs,g1,g2,g3,g4,g5,g6⟩:=h.get (bA n) bS;rw[aY]at g2;unfold ju at g6;subst g6;have hd:l.drop n=x::l.drop (n+1):=by rw[dW (aV.1 g2).1,(aV.1 g2).2]
  rw[hd,uv]at hp;refine⟨ad,g1,_,g5,?_⟩;dsimp only;rw[mA];refine⟨fun he=>⟨?_,rfl⟩,fun he=>⟨l.length-(n+1),by omega,n+1,by omega,by rw[fR (by omega) (by omega)];rfl,rfl,?_,rfl⟩⟩
  ·have he:c=x:=aO he;rw[if_pos he]at hp;rw[if_pos (by omega),hp,dG]
  ·have he:c≠x:=aR he;rw[if_neg he]at hp;omega
 ·have rl:¬((n:Int)<s.n):=aR hc;rw[ki (by omega),uv]at hp;rw[if_neg (by omega)];exact⟨rfl,rfl⟩
theorem AA(h:Sr F ts w b l s){G:aJ}{q:Sl}{ss:List (aH)}(hs:aA ju 1 w G q ss):az aq 159 #[rp b,q.v] w fun e w'=>e=ak (O U (cQ ts s ss:Nat))/\ay [] w w':=by
 refine ret (afe _ _ _ _ ?_);intro w0 cD;have h0:=h.only cD;obtain⟨ad,g1,g2⟩:=h0.now;refine⟨fun _=>True,trivial,l,Blk.dQ h0.blk 0 rfl,trivial,_,Blk.dQ h0.blk 1 rfl,ad,g1,trivial,_,_,_,_,g2,fun k0 w1 hk iM cr=>?_⟩;have jz:=cD.cf cr;refine(ml (h0.only cr)).mono ?_;rintro _ w2 ⟨rfl,cR⟩;have pj:=jz.cf cR;have OT:((!(s.fc==0))||(((tk ts s.i).k !=2)&&((tk ts s.i).k !=4)))=decide (s.fc≠0∨((tk ts s.i).k≠2/\(tk ts s.i).k≠4)):=by
  rw[bX];simp
 refine⟨_,rfl,cR.same (by simp;omega),?_⟩;dsimp only;rw[OT];refine⟨fun hc=>?_,fun hc=>?_⟩
 ·unfold cQ;rw[if_pos (aO hc)];exact⟨rfl,pj⟩
 ·refine(af9 (SliceF.only cP (by decide) hs pj (by simp)) (tk ts s.i).t).mono ?_;rintro _ w3 ⟨rfl,rfl⟩;refine⟨_,rfl,bU.refl _ _,?_,pj⟩;unfold cQ;rw[if_neg (aR hc)];have hl:=hs.len;have hb:=hs.big;have hcp:=hs.cap;split
  ·rw[fR (by omega) (by omega)];rfl
  ·rfl
theorem L4(h:Sr F ts w b l s)(ss:List (aH)){n:Nat}{parts:Array (Nat×aw)}(hp:parts=(((ss.map fun x=>Value.string (T x)).zipIdx 0).map fun x=>(x.2,x.1)).toArray)(hn:ss.length=n)(h0:0<n)(zg:n*1<=16777216):
  ∃(q:Sl) (w0:av),(au 31 n parts).run aq w=.ok q.v w0/\ay [] w w0/\az aq 159 #[rp b,q.v] w0 fun e w'=>e=ak (O U (cQ ts s ss:Nat))/\ay [] w0 w':=by
 obtain⟨q,w0,k1,k2,k3⟩:=nU w ss hp hn h0 zg;exact⟨q,w0,k1,k3,AA (h.only k3) (vT k2)⟩
theorem VY(h:Sr F ts w b l s){G:aJ}{q:Sl}{ss:List (aH)}(hs:aA ju 1 w G q ss):az aq 116 #[rp b,q.v] w fun e w'=>e=ak (O U (cQ ts s ss:Nat))/\Dn F ts w w' b l (if cQ ts s ss=0 then s else dy s):=by
 refine ret (afd _ _ _ _ ?_);refine(AA h hs).mono ?_;rintro _ w0 ⟨rfl,cD⟩;have h0:=h.only cD;refine⟨_,rfl,fun w'=>Dn F ts w w' b l (if cQ ts s ss=0 then s else dy s),fun w1 h1=>⟨rfl,h1⟩,fun hc=>?_,fun hc=>?_⟩
 ·have hc:cQ ts s ss≠0:=by have:=aO hc;omega
  refine⟨_,Blk.dQ h0.blk 1 rfl,b,1,_,_,rfl,h0.blk,by simp,fun w2 cR po=>?_⟩;rw[if_neg hc];rw[h.wr]at po;exact⟨(cD.weaken (bs':=[b]) fun _ h=>(by cases h)).trans cR fun x hx=>.inl hx,h0.nI (s':=dy s) cR po (h.en.next h.lt (dl hc).2)⟩
 ·have hc:cQ ts s ss=0:=by have:=aR hc;omega
  rw[if_pos hc];exact h.dn.q cD
theorem CB(h:Sr F ts w b l s)(ss:List (aH)){n:Nat}{parts:Array (Nat×aw)}(hp:parts=(((ss.map fun x=>Value.string (T x)).zipIdx 0).map fun x=>(x.2,x.1)).toArray)(hn:ss.length=n)(h0:0<n)(zg:n*1<=16777216):
  ∃(q:Sl) (w0:av),(au 31 n parts).run aq w=.ok q.v w0/\ay [] w w0/\az aq 116 #[rp b,q.v] w0 fun e w'=>e=ak (O U (cQ ts s ss:Nat))/\Dn F ts w0 w' b l (if cQ ts s ss=0 then s else dy s):=by
 obtain⟨q,w0,k1,k2,k3⟩:=nU w ss hp hn h0 zg;exact⟨q,w0,k1,k3,VY (h.only k3) (vT k2)⟩
theorem L5(h:Sr F ts w b l s){G:aJ}{q:Sl}{x:aH}(hs:aA ju 1 w G q [x])(hG:∀k,G k->k≠b):az aq 114 #[rp b,q.v] w fun e w'=>e=ak (ai #[])/\Dn F ts w w' b l (eA ts s x):=by
 refine ret (afc _ _ _ _ ?_);have hn:q.n=1:=hs.len;refine⟨fun nv i w'=>(i=0/\nv=1/\w'=w)∨(i=1/\nv=0/\Dn F ts w w' b l (eA ts s x)),1,.inl ⟨rfl,rfl,rfl⟩,?_⟩;rintro nv i w0 (⟨rfl,rfl,rfl⟩ | ⟨rfl,rfl,hD⟩)
 ·refine⟨fun _=>?_,fun hc=>absurd (aR hc) (by omega)⟩;refine⟨fun w'=>Dn F ts w0 w' b l (eA ts s x),fun w1 h1=>⟨0,by decide,.inr ⟨rfl,rfl,h1⟩⟩,?_⟩;obtain⟨ad,y,cs,g1,g2,g3,g4,g5,g6⟩:=hs.get (i:=0) (by decide) (by omega);simp only[Int.toNat_zero,ci,aZ]at g2;subst g2;unfold ju at g6;subst g6;obtain⟨q0,w2,k1,k2,k3⟩:=CB h [x] (n:=1) (parts:=#[(0,ab (T x))]) rfl rfl (by decide) (by decide);refine⟨ad,g1,_,g5,q0,w2,k1,k3.mono ?_⟩;rintro _ w3 ⟨rfl,h3⟩;have h03:=(h.dn.q k2).nx h3;refine⟨_,rfl,fun hc=>?_,fun hc=>?_⟩
  ·have hc:cQ ts s [x]=0:=by have:((cQ ts s [x]:Nat):Int)=0:=(by simpa using hc);omega
   rw[if_pos hc]at h03;refine(sO h03.r).mono ?_;rintro _ w4 ⟨rfl,h4⟩;refine⟨rfl,?_⟩;unfold eA;rw[if_pos hc];exact h03.nx h4
  ·have hc:cQ ts s [x]≠0:=fun e=>by rw[e]at hc;simp at hc
   rw[if_neg hc]at h03;unfold eA;rw[if_neg hc];exact h03
 ·exact⟨fun hc=>absurd (aO hc) (by omega),fun _=>⟨rfl,hD⟩⟩
theorem pZ(h:Sr F ts w b l s)(x:aH):∃(q:Sl) (w0:av),(au 31 1 #[.mk 0 (ab (T x))]).run aq w=.ok q.v w0/\ay [] w w0/\az aq 114 #[rp b,q.v] w0 fun e w'=>e=ak (ai #[])/\Dn F ts w0 w' b l (eA ts s x):=by
 obtain⟨q,w0,k1,k2,k3⟩:=nU w [x] (n:=1) (parts:=#[(0,ab (T x))]) rfl rfl (by decide) (by decide);exact⟨q,w0,k1,k3,L5 (h.only k3) (vT k2) fun k hk e=>(by have:=hk.1;have:=h.lb;omega)⟩
theorem we(h:Sr F ts w b l s){k:Int}(C7:k≠5):az aq 158 #[rp b,O U k] w fun e w'=>e=ak (gz ts s k).1.v/\Dn F ts w w' b l (gz ts s k).2:=by
 refine ret (afk _ _ _ _ ?_);intro k0 w0 hk iM cD;have z0:=h.z.al cD hk iM;have h0:=h.only cD;obtain⟨ad,g1,g2⟩:=h0.now;refine⟨fun _=>True,trivial,l,Blk.dQ h0.blk 0 rfl,trivial,_,Blk.dQ h0.blk 1 rfl,ad,g1,trivial,_,_,_,_,g2,fun k1 w1 j5 iX cr=>?_⟩;have z1:=z0.al cr j5 iX;refine(ml (h0.only cr)).mono ?_;rintro _ w2 ⟨rfl,cR⟩;have z2:=z1.q cR;have hl:=h.lb;have d2:Dn F ts w w2 b l s:=h.dn.q ((cD.cf cr).cf cR);have OT:((!(s.fc==0))||((tk ts s.i).k !=k))=decide (s.fc≠0∨(tk ts s.i).k≠k):=by
  rw[bX];simp
 refine⟨_,rfl,z1.sq cR (by simp),?_⟩;dsimp only;rw[OT];refine⟨fun hc=>(sO d2.r).mono ?_,fun hc=>?_⟩
 ·rintro _ w3 ⟨rfl,h3⟩;refine⟨rfl,z2.sc h3.o (by simp),fun w4 dL=>?_⟩;unfold gz;rw[if_pos (aO hc)];exact⟨rfl,(d2.nx h3).f dL hk hl⟩
 ·refine⟨_,Blk.dQ d2.r.blk 1 rfl,b,1,_,_,rfl,d2.r.blk,by simp,z2.ne (by simp) (by simp),z2.ne (by simp) (by simp),fun w5 eP u7 w6 eB=>?_⟩;have hc:=aR hc;unfold gz;rw[if_neg hc];simp only[not_or,KG]at hc;rw[h.wr]at u7;have d5:Dn F ts w w5 b l (dy s):=⟨d2.o.trans eP fun x hx=>.inl hx,d2.r.nI eP u7 (h.en.next h.lt (by rw[hc.2];exact C7))⟩
  exact⟨rfl,d5.f eB hk hl⟩
theorem wg(h:Sr F ts w b l s):az aq 199 #[rp b] w fun e w'=>e=ak (ab (T (iV ts s).1))/\Dn F ts w w' b l (iV ts s).2:=by
 refine ret (afp _ _ _ ?_);refine(we h (k:=1) (by decide)).mono ?_;rintro _ w0 ⟨rfl,h0⟩;exact⟨_,_,_,_,rfl,rfl,h0⟩
theorem _root_.Go.Kt.Blk.Yy{w:av}{b:Nat}{t:TypeId}{cs:aI}{v:aw}(h:aF w b t cs)(j:Nat)(hx:cs[j]? =some v):aB w ⟨b,j,none⟩ [v]:=by
 have:=Blk.dQ h j hx;rwa[fL,bO]at this
theorem Ec(h:Sr F ts w b l s)(j:Nat)(x:Int)(c:Int)(u:Sx)(hx:(Ya l s)[j]? =some (.int U x))(Kv:(Ya l (gP ts s c))[j]? =some (.int U x))(hui:u.i=s.i)
  (hu:Ya l u=cj (Ya l (if x=0 then gP ts s c else s)) j [O U (yA x)]):az aq 156 #[rp b,ae (some ⟨b,j,none⟩),O U c] w fun e w'=>e=ak (ai #[])/\Dn F ts w w' b l u:=by
 refine ret (afj _ _ _ _ _ ?_);have hj:j+1<=9:=(aV.1 hx).1;refine⟨fun w'=>Dn F ts w w' b l (if x=0 then gP ts s c else s),fun w0 h0=>?_,_,rfl,x,Blk.Yy h.blk j hx,fun hc=>?_,fun hc=>?_⟩
 ·refine⟨_,rfl,x,Blk.Yy h0.r.blk j (by split<;>assumption),_,rfl,b,j,_,_,rfl,h0.r.blk,hj,fun w1 cr wD=>⟨rfl,h0.o.trans cr fun x hx=>.inl hx,h0.r.nI cr (s':=u) ?_ (by rw[hui];exact h.lt)⟩⟩;rw[hu];exact wD
 ·refine(yU h c).mono ?_;rintro _ w2 ⟨rfl,h2⟩;have hc:x=0:=by simpa using hc
  rw[if_pos hc];exact⟨rfl,h2⟩
 ·have hc:¬x=0:=by simpa using hc
  rw[if_neg hc];exact h.dn
theorem aan(h:Sr F ts w b l s):az aq 156 #[rp b,ae (some ⟨b,8,none⟩),O U 2] w fun e w'=>e=ak (ai #[])/\Dn F ts w w' b l (uQ ts s):=
 Ec h 8 s.a 2 _ rfl (by unfold gP;split<;>rfl) (D2 s) (by unfold uQ gP;split<;>(try split)<;>rfl)
theorem aao(h:Sr F ts w b l s):az aq 156 #[rp b,ae (some ⟨b,7,none⟩),O U 2] w fun e w'=>e=ak (ai #[])/\Dn F ts w w' b l (sF ts s):=
 Ec h 7 s.m 2 _ rfl (by unfold gP;split<;>rfl) (D3 s) (by unfold sF gP;split<;>(try split)<;>rfl)
theorem aap(h:Sr F ts w b l s):az aq 156 #[rp b,ae (some ⟨b,5,none⟩),O U 2] w fun e w'=>e=ak (ai #[])/\Dn F ts w w' b l (GI ts s):=
 Ec h 5 s.n 2 _ rfl (by unfold gP;split<;>rfl) (by unfold GI;split;exact DY 2;rfl) (by unfold GI gP;split<;>(try split)<;>rfl)
theorem aaq(h:Sr F ts w b l s):az aq 156 #[rp b,ae (some ⟨b,4,none⟩),O U 2] w fun e w'=>e=ak (ai #[])/\Dn F ts w w' b l (GJ ts s):=
 Ec h 4 s.v 2 _ rfl (by unfold gP;split<;>rfl) (by unfold GJ;split;exact DY 2;rfl) (by unfold GJ gP;split<;>(try split)<;>rfl)
theorem L6(h:Sr F ts w b l s):az aq 221 #[rp b] w fun e w'=>∃cs,e=ak (ah cs.toArray)/\rE true w' (Fr w.heap.size) (pQ ts s).1 cs/\Dn F ts w w' b l (pQ ts s).2:=by
 refine(afq ⟨b,0,none⟩ (fun v w'=>∃cs,v=(ah cs.toArray)/\rE true w' (Fr w.heap.size) (pQ ts s).1 cs/\Dn F ts w w' b l (pQ ts s).2) w ?_).mono (by
  rintro e w' ⟨v,rfl,cs,rfl,h⟩;exact⟨cs,rfl,h⟩)
 intro k0 w0 hk iM cD;have hl:=h.lb;have z0:=h.z.al cD hk iM;refine(ml (h.only cD)).mono ?_;rintro _ w1 ⟨rfl,cr⟩;have z1:=z0.q cr;have d1:Dn F ts w w1 b l s:=h.dn.q (cD.cf cr);refine⟨_,rfl,z0.sq cr (by simp),fun hc w2 cR=>?_,fun hc w3 de=>?_⟩
 ·have hc:s.fc≠0:=by simpa using hc
  unfold pQ;rw[if_pos hc];exact⟨_,rfl,rE0 _ _ _,d1.f cR hk hl⟩
 ·have hc:¬s.fc≠0:=by simpa using hc
  have z3:=z1.q de;have d3:=d1.q de;refine⟨fun k=>k=b,fun w4 dL=>⟨rfl,l,Blk.dQ (d3.q dL).r.blk 0 rfl,fun w5 eP=>⟨rfl,_,Blk.dQ ((d3.q dL).q eP).r.blk 1 rfl,fun w6 eB=>?_⟩⟩⟩;have z6:=((z3.q dL).q eP).q eB;have d6:=((d3.q dL).q eP).q eB;have hb6:=d6.r.big;have bS:=h.lt;refine(Lw d6.r.tok (s.i:Int) ⟨by omega,by omega⟩).mono ?_;rintro _ w7 ⟨cs,rfl,hX,hj,fE⟩;have z7:=z6.q fE;have d7:=d6.q fE;obtain⟨sl,nP,_⟩:=hX.cells;have hsz:w3.heap.size<=w6.heap.size:=((dL.cf eP).cf eB).size;refine⟨_,_,_,_,sl,_,_,_,_,by rw[nP],z6.sq fE (by simp),jt.yd fE,bP.only fE,fun w8 fy k1 j5 iX Ii=>?_⟩;obtain⟨d,hX⟩:=hX.xg;have hx7:rE true w7 (fun k=>w6.heap.size<=k/\k<w7.heap.size) (dB ts s.i).1 cs:=⟨d,hX⟩
  have avg:w.heap.size<=k1:=bp z3.o.size j5;have avh:b<k1:=by omega
  have d8:=d7.q fy;have zz6:=z6.o.size;have zz0:=z0.k k0 (by simp);have zw0:=((cr.cf de).cf ((dL.cf eP).cf eB)).size;have hx8:∀{bs:List Nat} {w9:av},ay bs w8 w9->(∀x,x∈bs->x=k1∨x=k0∨x=b)->rE true w9 (Fr w.heap.size) (dB ts s.i).1 cs:=fun fQ hb9=>
   (ja true).mono ((ja true).keep hx7 fun k Fe bS=>(fQ.block k (cm bS fy.size) fun hm=>by
    rcases hb9 k hm with rfl | rfl | rfl
    ·have:=Ii.one;omega
    ·omega
    ·omega).trans (fy.block k bS (by simp))) fun k Fe=>by have:=Fe.1;show w.heap.size<=k;omega
  unfold pQ;rw[if_neg hc];refine⟨fun h1 w9 fQ=>?_,fun h1 dN eS=>?_⟩
  ·have h1:(dB ts s.i).2.2.1≠0:=by simpa using h1
   have d9:Dn F ts w w9 b l s:=⟨d8.o.trans fQ fun x hx=>.inr (by simp only[aU,ba,bW]at hx;omega),d8.r.own fQ fun x hx=>(by simp only[aU,ba,bW]at hx;omega)⟩
   refine⟨b,2,_,_,rfl,d9.r.blk,by simp,by omega,by omega,fun du dM wF dC eu=>?_⟩;rw[if_pos h1];have d10:Dn F ts w du b l {s with fc:=(dB ts s.i).2.2.1,fa:=(dB ts s.i).2.2.2}:=⟨d9.o.trans dM fun x hx=>.inl hx,d9.r.nI dM wF h.lt⟩
   refine⟨cs,by rw[nP],?_,d10.f eu hk hl⟩;exact hx8 (bs:=[k1,k0,b]) (((fQ.weaken (bs':=[k1,k0,b]) fun x hx=>.inl (by simp only[aU,ba,bW]at hx⊢;omega)).trans dM fun x hx=>.inl (by simp only[aN]at hx;simp[hx])).trans eu fun x hx=>.inl (by simp only[aN]at hx;simp[hx])) (by simp)
  ·have h1:¬(dB ts s.i).2.2.1≠0:=by simpa using h1
   have d12:Dn F ts w dN b l s:=⟨d8.o.trans eS fun x hx=>.inr (by simp only[aU,ba,bW]at hx;omega),d8.r.own eS fun x hx=>(by simp only[aU,ba,bW]at hx;omega)⟩
   obtain⟨W5,WM⟩:=hj (by simpa using h1);have ej:((dB ts s.i).2.1.toNat:Int)=(dB ts s.i).2.1:=mz W5;refine⟨b,1,_,_,rfl,d12.r.blk,by simp,by omega,by omega,fun fb eH Bi fk ep=>?_⟩;rw[if_neg h1];have d13:Dn F ts w fb b l {s with i:=(dB ts s.i).2.1.toNat}:=⟨d12.o.trans eH fun x hx=>.inl hx,d12.r.nI eH (by dsimp only[Ya];rw[ej];exact Bi) (by dsimp only;omega)⟩
   refine⟨cs,by rw[nP],?_,d13.f ep hk hl⟩;exact hx8 (bs:=[k1,k0,b]) (((eS.weaken (bs':=[k1,k0,b]) fun x hx=>.inl (by simp only[aU,ba,bW]at hx⊢;omega)).trans eH fun x hx=>.inl (by simp only[aN]at hx;simp[hx])).trans ep fun x hx=>.inl (by simp only[aN]at hx;simp[hx])) (by simp)
end
theorem aga{n:Nat}(h:((n:Int)==0)=true):n=0:=by simpa using h
theorem agb{n:Nat}(h:((n:Int)==0)=false):n≠0:=fun e=>by rw[e]at h;simp at h
theorem N8{n:Nat}(h:decide ((n:Int)>0)=false):n=0:=by have:=aR h;omega
theorem N9{n:Nat}(h:decide ((n:Int)>0)=true):n≠0:=by have:=aO h;omega
section
variable {F:aJ} {ts:List Tk} {w w':av} {b:Nat} {l:Sl} {s s':Sx}
theorem aar(h:Sr F ts w b l s):az aq 224 #[rp b] w fun e w'=>∃cs,e=ak (ah cs.toArray)/\rA true w' (Fr w.heap.size) (rH ts s).1 cs/\Dn F ts w w' b l (rH ts s).2:=by
 refine(afv ⟨b,0,none⟩ (fun v w'=>∃cs,v=(ah cs.toArray)/\rA true w' (Fr w.heap.size) (rH ts s).1 cs/\Dn F ts w w' b l (rH ts s).2) w ?_).mono (by
  rintro e w' ⟨v,rfl,cs,rfl,h⟩;exact⟨cs,rfl,h⟩)
 intro k0 w0 hk iM cD;have t0:=h.zt.al cD hk iM;obtain⟨ad,g1,_⟩:=h.now;refine⟨fun _=>True,fun w1 cr=>⟨trivial,l,Blk.dQ (t0.q cr).r.blk 0 rfl,fun w2 cR=>⟨trivial,_,Blk.dQ ((t0.q cr).q cR).r.blk 1 rfl,ad,g1,fun w3 de=>?_⟩⟩⟩;have t3:=((t0.q cr).q cR).q de;refine⟨trivial,_,(t3.r.tk g1).dQ 3 _ rfl,fun w4 dL=>?_⟩;have t4:=t3.q dL;obtain⟨q,w5,e1,mW,eP⟩:=nU w4 [uc,lc,nj] (n:=3) (parts:=#[(0,ab (T uc)),(1,ab (T lc)),(2,ab (T nj))]) rfl rfl (by decide) (by decide);refine⟨q,w5,e1,t4.sq eP (by simp),jt.yd eP,bP.only eP,fun w6 eB=>?_⟩;have t6:=(t4.q eP).q eB;refine(AA t6.r (SliceF.only cP (by decide) (vT mW) eB (by simp))).mono ?_;rintro _ w7 ⟨rfl,fE⟩;have t7:=t6.q fE;refine⟨_,rfl,t6.sq fE (by simp),jt.yd fE,bP.only fE,fun w8 fy k1 j5 iX Ii=>?_⟩;have t8:=(t7.q fy).ad (bp t0.z.o.size j5) iX;refine⟨fun hc w9 fQ=>?_,fun hc dN eS=>?_⟩
 ·have t9:=t8.f fQ (by simp);refine(sO t9.r).mono ?_;rintro _ du ⟨rfl,TI⟩;refine⟨rfl,t9.sc TI (by simp),fun dC eu=>?_⟩;have hc:=aga hc;unfold rH;rw[if_pos hc,hc];exact⟨_,rfl,⟨qQ 0 0 [] 0 Sl.nil 0,rfl,rE0 _ _ _⟩,((t9.nx TI).f eu (by simp)).dn⟩
 ·have hc:=agb hc;have t12:=t8.f eS (by simp);refine(aan t12.r).mono ?_;rintro _ fb ⟨rfl,u9⟩;have t13:=t12.nx u9;refine⟨rfl,t12.sc u9 (by simp),(ml t13.r).mono ?_⟩;rintro _ fk ⟨rfl,ep⟩;have t14:=t13.q ep;unfold rH;rw[if_neg hc];refine⟨_,rfl,t13.sq ep (by simp),fun hf fZ gL=>?_,fun hf=>?_⟩
  ·have hf:(uQ ts s).fc≠0:=by simpa using hf
   rw[if_pos hf];exact⟨_,rfl,⟨qQ 0 0 [] 0 Sl.nil 0,rfl,rE0 _ _ _⟩,(t14.f gL (by simp)).dn⟩
  ·have hf:¬(uQ ts s).fc≠0:=by simpa using hf
   rw[if_neg hf];refine⟨_,Blk.dQ t14.r.blk 1 rfl,b,1,_,_,rfl,t14.r.blk,by simp,t14.ne (by simp),t14.ne (by simp),fun gI iR TJ=>?_⟩;rw[t14.r.wr]at TJ;have t16:Zt F ts w gI b l (dy (uQ ts s)) [k1,k0]:=t14.up iR TJ (h.en.next t14.r.lt (by rw[D2];exact(dl hc).2));refine(wg t16.r).mono ?_;rintro _ gf ⟨rfl,PG⟩;have t17:=t16.nx PG;refine⟨_,rfl,t16.sc PG (by simp),fun iy mV=>?_⟩;have t18:=t17.f mV (by simp);generalize (iV ts (dy (uQ ts s))).2=u at*
   generalize (iV ts (dy (uQ ts s))).1=nm at*
   generalize cQ ts s [uc,lc,nj]=kk at*
   generalize (tk ts s.i).a=aa at*
   refine⟨fun i4 s1 i5 i6 s2 i7 l2 i8 i9 w'=>∃(x:Ex) (u':Sx),i4=(kk:Int)/\s1=T nm/\i9=aa/\rE true w' (Fr iy.heap.size) x [O U i5,O U i6,ab s2,O U i7,l2.v,O U i8]/\Zt F ts w w' b l u' [k1,k0]/\NZ ts u kk nm aa=(⟨kk,nm,x,aa⟩,eA ts u' [59])/\iy.heap.size<=w'.heap.size,?_,fun rm=>?_,fun rm=>?_⟩
   ·rintro i4 s1 i5 i6 s2 i7 l2 i8 i9 jA ⟨x,u',rfl,rfl,rfl,hx,t19,hT,hsz⟩;obtain⟨q,iW,e1,nJ,hm⟩:=pZ t19.r [59];refine⟨q,iW,e1,t19.sq nJ (by simp),hm.mono ?_⟩;rintro _ lu ⟨rfl,h21⟩;have t20:=t19.q nJ;refine⟨rfl,t20.sc h21 (by simp),fun oT Bj=>?_⟩;rw[hT];have zk:=t18.z.k k0 (by simp);have zs:=t18.z.o.size;have zb:=t18.r.lb;refine⟨_,rfl,⟨[O U i5,O U i6,ab s2,O U i7,l2.v,O U i8],rfl,?_⟩,((t20.nx h21).f Bj (by simp)).dn⟩;exact(ja true).low ((ja true).stay hx ((((Stay.refl _ _).q nJ).d h21 zb).f Bj (.inl zk.2))) zs
   ·have rm:¬kk=2:=fun e=>by rw[e]at rm;simp at rm
    obtain⟨q,om,e1,qo,hm⟩:=pZ t18.r [61];refine⟨q,om,e1,t18.sq qo (by simp),hm.mono ?_⟩;rintro _ oU ⟨rfl,h24⟩;have t23:=t18.q qo;have t24:=t23.nx h24;refine⟨rfl,t23.sc h24 (by simp),(L6 t24.r).mono ?_⟩;rintro _ mM ⟨cs,rfl,hx,W2⟩;obtain⟨sl,rfl⟩:=jc hx;have t25:=t24.nx W2;refine⟨_,_,_,_,sl,_,rfl,t24.sc W2 (by simp),fun oo iO=>?_⟩;have z24:iy.heap.size<=oU.heap.size:=bp qo.size h24.o.size;have zk:=t18.z.k k1 (by simp);refine⟨_,_,rfl,rfl,rfl,(ja true).low ((ja true).stay hx ((Stay.refl _ _).f iO (.inl (by omega)))) z24,t25.f iO (by simp),?_,bp z24 (bp W2.o.size iO.size)⟩;unfold NZ;rw[if_neg rm]
   ·have rm:(kk:Int)=2:=by simpa using rm
    have rm:kk=2:=by omega
    refine⟨GA,u,rfl,rfl,rfl,rE0 _ _ _,t18,?_,aX _⟩;unfold NZ;rw[if_pos rm]
abbrev AcO(B:Nat)(w:av)(la:Sl)(acc:List Ac):Prop:=Own (rA true) 9 196 B w (Fr B) la acc
structure Br (F:aJ) (ts:List Tk) (w w':av) (b:Nat) (l:Sl) (k0 k1 B:Nat) (s:Sx) (acc:List Ac) (la:Sl):Prop where
 r:Sr F ts w' b l s
 b0:aF w' k0 180 [rp b]
 b1:aF w' k1 23 [la.v]
 own:AcO B w' la acc
 o:∃gs,ay (b::k1::gs) w w'/\∀x,x∈gs->B<=x
 n0:b<k0
 n1:b<k1
 n01:k0≠k1
 l0:k0<B
 l1:k1<B
 lB:B<=w'.heap.size
section
variable {k0 k1 B:Nat} {acc:List Ac} {la:Sl} {w2:av}
theorem Br.nx(h:Br F ts w w' b l k0 k1 B s acc la)(k:Dn F ts w' w2 b l s'):Br F ts w w2 b l k0 k1 B s' acc la:=by
 have n0:=h.n0;have n1:=h.n1;have l0:=h.l0;obtain⟨gs,h1,h2⟩:=h.o;exact⟨k.r,k.o.blk h.b0 (by simp only[aN];omega),k.o.blk h.b1 (by simp only[aN];omega),h.own.stay (dq true) k.o fun x hx=>.inl (by simp only[aN]at hx;omega),
  ⟨gs,h1.trans k.o fun x hx=>.inl (by simp only[aN]at hx;simp[hx]),h2⟩,n0,n1,h.n01,l0,h.l1,bp h.lB k.o.size⟩
theorem Br.q(h:Br F ts w w' b l k0 k1 B s acc la)(k:ay [] w' w2):Br F ts w w2 b l k0 k1 B s acc la:=h.nx (h.r.dn.q k)
theorem aas(h:Br F ts w w' b l k0 k1 B s acc la)(hm:acc.length<ts.length):az aq 223 #[ae (some ⟨k1,0,none⟩),ae (some ⟨k0,0,none⟩)] w' fun e w2=>e=ak (ai #[])/\∃C9,Br F ts w w2 b l k0 k1 B (rH ts s).2 (acc++[(rH ts s).1]) C9:=by
 refine ret (afu _ _ _ _ ?_);intro w0 cD;have h0:=h.q cD;have n1:=h.n1;have l1:=h.l1;refine⟨fun k=>k=k1,rfl,la,h0.b1.Yy 0 rfl,_,h0.b0.Yy 0 rfl,(aar h0.r).mono ?_⟩;rintro _ w1 ⟨cs,rfl,hx,h1⟩;have zh:=h0.nx h1;generalize yr:(rH ts s).1=ac at*
 generalize (rH ts s).2=s1 at*
 have Kv:=hx;obtain⟨xc,rfl,YI⟩:=Kv;obtain⟨sl,rfl⟩:=jc YI;have zg:=h.r.sm;have hl0:=h0.own.len;obtain⟨y,w2,e2,cR,C9,w3,e3,mW,⟨gs,de,uE⟩,_⟩:=jK (P:=aq) (t:=23) (ty:=23) (e:=196) (i:=Tryz.t196) (bytes:=104) (size:=9) (v:=ah (acv ac.k ac.n (qQ ac.x.k ac.x.n ac.x.s ac.x.op sl ac.x.a) ac.a).toArray) (x:=ac) (G:=Fr w0.heap.size) (by kernel_rfl) (by kernel_rfl) rfl rfl rfl rfl (by decide) (by decide) (by decide) (dq true) zh.own zh.lB rfl hx (fun k hk _=>⟨bp h0.lB hk,h0.own.new hk⟩) (by omega);have TK:ay gs w1 w3:=(cR.weaken (bs':=gs) fun _ h=>(by cases h)).trans de fun x hx=>.inl hx;have qs:∀g,g∈gs->B<=g:=fun g hg=>(uE g hg).2.1;refine⟨_,_,_,_,_,_,sl,_,_,rfl,fun k hk bS=>(by subst hk;exact h1.o.block k bS (by simp only[aN];omega)),y,w2,e2,bP.only cR,C9,w3,e3,fun k hk bS=>(by subst hk;exact de.block k bS fun hm=>(by have:=qs k hm;omega)),k1,0,_,_,rfl,TK.blk zh.b1 (fun hm=>by have:=qs k1 hm;omega),by simp,fun w4 dL uh=>⟨rfl,C9,?_⟩⟩;have n0:=h.n0;have n01:=h.n01;have l0:=h.l0;have z3:=TK.size;have z4:=dL.size;have hlB:=zh.lB;have hOb:∀{x:Nat},x<B->x≠k1->w4.heap[x]? =w1.heap[x]? :=fun hx hn=>(dL.block _ (by omega) (by simpa using hn)).trans (TK.block _ (by omega) fun hm=>(by have:=qs _ hm;omega));obtain⟨gs0,o1,o2⟩:=zh.o;have hr3:Sr F ts w3 b l s1:=zh.r.own TK fun x hx=>(by have:=qs x hx;omega)
 refine⟨hr3.one dL n1,(hOb l0 n01).trans zh.b0,uh,?_,⟨gs++gs0,(((o1.weaken (bs':=b::k1::(gs++gs0)) fun x hx=>.inl (by simp only[aU,bR]at hx⊢;rcases hx with hx | hx | hx<;>simp[hx])).trans TK fun x hx=>.inl (by simp[hx]))).trans dL fun x hx=>.inl (by simp only[aN]at hx;simp[hx]),fun x hx=>?_⟩,n0,n1,n01,l0,l1,by omega⟩
 ·refine((mW.mono (dq true) fun k hk=>?_).stay (dq true) dL fun x hx=>.inl (by simp only[aN]at hx;omega));rcases hk with hk | hk
  ·exact hk
  ·exact bp hlB hk
 ·rcases bR.1 hx with hx | hx
  ·exact qs x hx
  ·exact o2 x hx
theorem Rv(f:Nat)(h:Br F ts w w' b l k0 k1 B s acc la)(hf:mu ts s<f)(hm:acc.length+mu ts s<=ts.length):
  az aq 222 #[rp b,ab (ao #[125]),.func (.func 223) #[] #[ae (some ⟨k1,0,none⟩),ae (some ⟨k0,0,none⟩)]] w' fun e w2=>e=ak (ai #[])/\∃C9,Br F ts w w2 b l k0 k1 B (sH ts f acc s).2 (sH ts f acc s).1 C9:=by
 refine ret (afw ⟨b,0,none⟩ _ ⟨.func (.func 223) #[] #[ae (some ⟨k1,0,none⟩),ae (some ⟨k0,0,none⟩)],rfl⟩ (fun v w2=>v=(ai #[])/\∃C9,Br F ts w w2 b l k0 k1 B (sH ts f acc s).2 (sH ts f acc s).1 C9) w' ?_);generalize acj:sH ts f acc s=res;refine⟨fun nv w2=>∃s' TL C9,Br F ts w w2 b l k0 k1 B s' TL C9/\sH ts nv TL s'=res/\mu ts s'<nv/\TL.length+mu ts s'<=ts.length,f,⟨s,acc,la,h,acj,hf,hm⟩,?_⟩;rintro nv w0 ⟨s',TL,C9,h0,hR,hf0,Fy⟩;obtain⟨m,rfl⟩:∃m,nv=m+1:=⟨nv-1,by omega⟩
 rw[sH]at hR;refine⟨fun bo w2=>(bo=true/\s'.fc=0/\cQ ts s' [[125]]=0/\Br F ts w w2 b l k0 k1 B s' TL C9)∨(bo=false/\Br F ts w w2 b l k0 k1 B res.2 res.1 C9),?_,(ml h0.r).mono ?_⟩
 ·rintro bo w1 (⟨rfl,hfc,hw,h1⟩ | ⟨rfl,h1⟩)
  ·refine⟨fun _=>⟨223,[],[_,_],rfl,fu (by kernel_rfl),?_⟩,fun hh=>(by cases hh)⟩;rw[if_neg (by simp[hfc]),if_neg (by simp[hw])]at hR;have hmu:=aae h0.r.en hfc h0.r.lt;have hmm:mu ts s'<=ts.length:=by unfold mu;split<;>omega
   refine(aas h1 (by omega)).mono ?_;rintro _ w3 ⟨rfl,la2,h3⟩;exact⟨rfl,m,by omega,_,_,la2,h3,hR,by omega,by rw[aP,bG];omega⟩
  ·exact⟨fun hh=>(by cases hh),fun _=>⟨rfl,C9,h1⟩⟩
 ·rintro _ w4 ⟨rfl,dL⟩;have h4:=h0.q dL;refine⟨_,rfl,fun hc=>?_,fun hc=>?_⟩
  ·have hc:s'.fc=0:=by simpa using hc
   rw[if_neg (by simp[hc])]at hR;obtain⟨q,w5,e1,eP,hk⟩:=CB h4.r [[125]] (n:=1) (parts:=#[(0,ab (T [125]))]) rfl rfl (by decide) (by decide);refine⟨q,w5,e1,hk.mono ?_⟩;rintro _ w6 ⟨rfl,h6⟩;have h6:=(h4.q eP).nx h6;refine⟨_,rfl,?_⟩;by_cases hw:cQ ts s' [[125]]=0
   ·rw[if_pos hw]at h6;exact .inl ⟨by rw[hw];rfl,hc,hw,h6⟩
   ·rw[if_neg hw]at h6;rw[if_pos hw]at hR;subst hR;exact .inr ⟨by simpa using hw,h6⟩
  ·have hc:s'.fc≠0:=by simpa using hc
   rw[if_pos hc]at hR;subst hR;exact .inr ⟨rfl,h4⟩
end
theorem AB(h:Sr F ts w b l s):az aq 200 #[rp b] w fun e w'=>∃la:Sl,e=ak la.v/\jM true (rA true) 9 196 w' (Fr w.heap.size) la (jj ts s).1/\Dn F ts w w' b l (jj ts s).2:=by
 refine(aft ⟨b,0,none⟩ (fun v w'=>∃la:Sl,v=la.v/\jM true (rA true) 9 196 w' (Fr w.heap.size) la (jj ts s).1/\Dn F ts w w' b l (jj ts s).2) w ?_).mono (by
  rintro e w' ⟨v,rfl,cs,rfl,h⟩;exact⟨cs,rfl,h⟩)
 intro k0 k1 w0 gu fe j5 iX cD;have t0:=((h.zt.q cD).ad gu fe).ad j5 iX;obtain⟨q,w1,e1,cr,hm⟩:=pZ t0.r [123];refine⟨q,w1,e1,t0.sq cr (by simp),hm.mono ?_⟩;rintro _ w2 ⟨rfl,h2⟩;have t1:=t0.q cr;have t2:=t1.nx h2;refine⟨rfl,t1.sc h2 (by simp),fun uD wD=>?_⟩;have hb:=h.lb;have hB:Br F ts w2 w2 b l k0 k1 w2.heap.size (eA ts s [123]) [] Sl.nil:=
  ⟨t2.r,uD,wD,Own.nil _ _ _ _ _ _,⟨[],Only.refl _ _,fun _ h=>(by cases h)⟩,by omega,by omega,fun e=>(by subst e;have:=uD.symm.trans wD;simp at this),uD.lt,wD.lt,aX _⟩
 refine(Rv (ts.length+1) hB (by unfold mu;split<;>omega) (by rw[cz,bO];unfold mu;split<;>omega)).mono ?_;rintro _ w3 ⟨rfl,la,h3⟩;have z2:=t2.z.o.size;obtain⟨gs,o1,o2⟩:=h3.o;refine⟨rfl,_,h3.b0,_,h3.b1,la,rfl,?_,?_,h3.r⟩
 ·exact(h3.own.sl (dq true) fun k hk=>hk).low (dq true) z2
 ·exact t2.z.o.trans o1 fun x hx=>by
   simp only[aU]at hx;rcases hx with rfl | rfl | hx
   ·exact .inl (by simp)
   ·exact .inr j5
   ·exact .inr (bp z2 (o2 x hx))
end
section
variable {F:aJ} {ts:List Tk} {w w':av} {b:Nat} {l:Sl} {s s':Sx}
structure MvX (A:Nat) (w:av) (m:Mv) (k:Int) (ev:aK) (wt:Int) (gd:Bool) (gc:aI) (tv:Sl) (a:Int):Prop where
 e1:k=m.k
 e2:ev=T m.ev
 e3:wt=m.wt
 e4:gd=m.gd
 e5:a=m.a
 g:rE true w (Fr A) m.g gc
 x:jM true (rA true) 9 196 w (Fr A) tv m.acts
theorem MvX.stay{A:Nat}{m:Mv}{k:Int}{ev:aK}{wt:Int}{gd:Bool}{gc:aI}{tv:Sl}{a:Int}(h:MvX A w m k ev wt gd gc tv a)(hs:Stay A w w'):MvX A w' m k ev wt gd gc tv a:=
 ⟨h.e1,h.e2,h.e3,h.e4,h.e5,(ja true).stay h.g hs,h.x.stay (dq true) (by decide) hs⟩
theorem rB(ts:List Tk)(s:Sx):mu ts s<=ts.length:=by unfold mu;split<;>omega
theorem AD(h:Sr F ts w b l s){ss:List (aH)}(hw:cQ ts s ss≠0):s.i+1<ts.length:=h.en.next h.lt (dl hw).2
theorem VZ(h:Sr F ts w b l s)(k:Int)(hk:(tk ts s.i).k≠5):az aq 198 #[rp b,O U k] w fun e w'=>∃cs,e=ak (ah cs.toArray)/\Jd true w' (Fr w.heap.size) (nW ts k s).1 cs/\Dn F ts w w' b l (nW ts k s).2:=by
 refine(afo ⟨b,0,none⟩ k (fun v w'=>∃cs,v=(ah cs.toArray)/\Jd true w' (Fr w.heap.size) (nW ts k s).1 cs/\Dn F ts w w' b l (nW ts k s).2) w ?_).mono (by
  rintro e w' ⟨v,rfl,cs,rfl,h⟩;exact⟨cs,rfl,h⟩)
 intro k0 w0 gu fe cD;have t0:=h.zt.al cD gu fe;obtain⟨ad,g1,g2⟩:=t0.r.now;refine⟨fun _=>True,trivial,l,Blk.dQ t0.r.blk 0 rfl,trivial,_,Blk.dQ t0.r.blk 1 rfl,ad,g1,trivial,_,g2.dQ 3 _ rfl,fun k1 w1 j5 iX cr=>?_⟩;have t1:=t0.al cr j5 iX;refine(aao t1.r).mono ?_;rintro _ w2 ⟨rfl,h2⟩;have t2:=t1.nx h2;refine⟨rfl,t1.sc h2 (by simp),(ml t2.r).mono ?_⟩;rintro _ w3 ⟨rfl,de⟩;have t3:=t2.q de;unfold nW;refine⟨_,rfl,t2.sq de (by simp),fun hf w4 dL=>?_,fun hf=>?_⟩
 ·have hf:(sF ts s).fc≠0:=by simpa using hf
  rw[if_pos hf];exact⟨_,rfl,⟨qQ 0 0 [] 0 Sl.nil 0,Sl.nil,Sl.nil,rfl,rE0 _ _ _,jM.nil _ _ _ _ _ _,jM.nil _ _ _ _ _ _⟩,(t3.f dL (by simp)).dn⟩
 have hf:¬(sF ts s).fc≠0:=by simpa using hf
 rw[if_neg hf];refine⟨_,Blk.dQ t3.r.blk 1 rfl,b,1,_,_,rfl,t3.r.blk,by simp,t3.ne (by simp),t3.ne (by simp),fun w5 eP u7=>?_⟩;rw[t3.r.wr]at u7;have t5:Zt F ts w w5 b l (dy (sF ts s)) [k1,k0]:=t3.up eP u7 (h.en.next t3.r.lt (by rw[D3];exact hk));have hA:=t5.z.o.size;have hA0:=(t5.z.k k0 (by simp)).2;have hA1:=(t5.z.k k1 (by simp)).2;have hAb:=t5.r.lb;generalize hAA:w5.heap.size=A at*
 generalize (tk ts s.i).a=aa at*
 generalize dy (sF ts s)=u0 at*
 generalize hR:(if k=1 then pR ts {X2 k aa with ev:=(iV ts u0).1} (iV ts u0).2 else if k=3 then pR ts {X2 k aa with wt:=(gz ts u0 3).1.n} (gz ts u0 3).2 else pR ts (X2 k aa) u0)=R;have x0:∀{w':av} {ev:aH} {wt:Int},MvX A w' {X2 k aa with ev:=ev,wt:=wt} k (T ev) wt false (qQ 0 0 [] 0 Sl.nil 0) Sl.nil aa:=⟨rfl,rfl,rfl,rfl,rfl,rE0 _ _ _,jM.nil _ _ _ _ _ _⟩
 refine⟨fun i3 s0 i4 b1 i5 i6 s1 i7 l1 i8 l2 l3 i9 w'=>∃(m:Mv) (u:Sx),MvX A w' m i3 s0 i4 b1 [O U i5,O U i6,ab s1,O U i7,l1.v,O U i8] l2 i9/\m.gd=false/\m.tg=[]/\l3=Sl.nil/\Zt F ts w w' b l u [k1,k0]/\pR ts m u=R/\A<=w'.heap.size,?_,fun hc=>?_,fun hc=>⟨fun lw=>?_,fun lw=>?_⟩⟩;rotate_left
 ·have hc:k=1:=by simpa using hc
  refine(wg t5.r).mono ?_;rintro _ Ti ⟨rfl,h32⟩;have t32:=t5.nx h32;refine⟨_,rfl,t5.sc h32 (by simp),fun Tj TM=>?_⟩;rw[if_pos hc]at hR;exact⟨_,_,x0,rfl,rfl,rfl,t32.f TM (by simp),hR,by rw[<-hAA];exact bp h32.o.size TM.size⟩
 ·have hc:¬k=1:=by simpa using hc
  have lw:k=3:=by simpa using lw
  refine(we t5.r (k:=3) (by decide)).mono ?_;rintro _ UE ⟨rfl,h34⟩;have t34:=t5.nx h34;refine⟨_,_,_,_,rfl,t5.sc h34 (by simp),fun OO TN=>?_⟩;rw[if_neg hc,if_pos lw]at hR;exact⟨_,_,x0,rfl,rfl,rfl,t34.f TN (by simp),hR,by rw[<-hAA];exact bp h34.o.size TN.size⟩
 ·have hc:¬k=1:=by simpa using hc
  have lw:¬k=3:=by simpa using lw
  rw[if_neg hc,if_neg lw]at hR;exact⟨_,_,x0,rfl,rfl,rfl,t5,hR,KH hAA.symm⟩
 rintro i3 s0 i4 b1 i5 i6 s1 i7 l1 i8 l2 l3 i9 w6 ⟨m,u,hx,UM,vd,rfl,t6,hR,z6⟩;unfold pR at hR;obtain⟨q,oU,e1,wH,hm⟩:=CB t6.r [[91]] (n:=1) (parts:=#[(0,ab (T [91]))]) rfl rfl (by decide) (by decide);have t24:=t6.q wH;refine⟨fun i3 s0 i4 b1 i5 i6 s1 i7 l1 i8 l2 l3 i9 w'=>∃(m:Mv) (u:Sx),MvX A w' m i3 s0 i4 b1 [O U i5,O U i6,ab s1,O U i7,l1.v,O U i8] l2 i9/\m.tg=[]/\l3=Sl.nil/\Zt F ts w w' b l u [k1,k0]/\Cs ts m u=R/\A<=w'.heap.size,?_,q,oU,e1,t6.sq wH (by simp),hm.mono ?_⟩;rotate_left
 ·rintro _ mM ⟨rfl,W2⟩;have t25:=t24.nx W2;have s25:Stay A w6 mM:=((Stay.refl A w6).q wH).d W2 hAb;refine⟨_,rfl,t24.sc W2 (by simp),fun hc oo iO=>?_,fun hc Ip Bk=>?_⟩
  ·have BQ:=N9 hc;rw[if_neg BQ]at hR t25;have t26:=t25.f iO (by simp);have s26:=s25.f iO (.inl hA1);have z26:=s26.sz;refine(L6 t26.r).mono ?_;rintro _ rP ⟨cs,rfl,hg,h27⟩;obtain⟨sl,rfl⟩:=jc hg;have t27:=t26.nx h27;refine⟨_,_,_,_,sl,_,rfl,t26.sc h27 (by simp),fun vp ui=>?_⟩;have t28:=t27.f ui (by simp);obtain⟨q2,xF,e2,oh,Nj⟩:=pZ t28.r [93];have t29:=t28.q oh;refine⟨q2,xF,e2,t28.sq oh (by simp),Nj.mono ?_⟩;rintro _ E5 ⟨rfl,h30⟩;have t30:=t29.nx h30;have s30:=(((s26.d h27 hAb).f ui (.inl hA1)).q oh).d h30 hAb;refine⟨rfl,t29.sc h30 (by simp),{m with gd:=true,g:=(pQ ts (dy u)).1},_,⟨hx.e1,hx.e2,hx.e3,hc,hx.e5,?_,hx.x.stay (dq true) (by decide) s30⟩,vd,rfl,t30,hR,bp z6 s30.sz⟩;exact(ja true).low ((ja true).stay hg ((((Stay.refl _ _).f ui (.inl (by omega))).q oh).d h30 (by omega))) (by omega)
  ·have BQ:=N8 hc;rw[if_pos BQ]at hR t25;have s31:=s25.f Bk (.inl hA1);have OU:=hx.stay s31;exact⟨m,u,⟨OU.e1,OU.e2,OU.e3,by rw[hc,UM],OU.e5,OU.g,OU.x⟩,vd,rfl,t25.f Bk (by simp),hR,bp z6 s31.sz⟩
 clear hx UM vd t6 hR z6 hm t24;rintro i3 s0 i4 b1 i5 i6 s1 i7 l1 i8 l2 l3 i9 w7 ⟨m,u,hx,vd,rfl,t7,hR,z7⟩;unfold Cs at hR;obtain⟨q,iW,e1,nJ,hm⟩:=L4 t7.r [[123]] (n:=1) (parts:=#[(0,ab (T [123]))]) rfl rfl (by decide) (by decide);have t20:=t7.q nJ;refine⟨fun i3 s0 i4 b1 i5 i6 s1 i7 l1 i8 l2 l3 i9 w'=>∃(m:Mv) (u:Sx),MvX A w' m i3 s0 i4 b1 [O U i5,O U i6,ab s1,O U i7,l1.v,O U i8] l2 i9/\l3=Sl.nil/\Zt F ts w w' b l u [k1,k0]/\GL ts m u=R/\A<=w'.heap.size,?_,q,iW,e1,t7.sq nJ (by simp),hm.mono ?_⟩;rotate_left
 ·rintro _ lu ⟨rfl,kE⟩;have t21:=t20.q kE;have YN:Stay A w7 lu:=((Stay.refl A w7).q nJ).q kE;have z21:=YN.sz;refine⟨_,rfl,t20.sq kE (by simp),fun hc=>(AB t21.r).mono ?_,fun hc=>?_⟩
  ·rw[if_neg (N9 hc)]at hR;rintro _ oT ⟨la,rfl,hla,h22⟩;have t22:=t21.nx h22;refine⟨la,rfl,t21.sc h22 (by simp),fun om qo=>?_⟩;have s23:=(YN.d h22 hAb).f qo (.inl hA1);refine⟨{m with acts:=(jj ts u).1},_,⟨hx.e1,hx.e2,hx.e3,hx.e4,hx.e5,(ja true).stay hx.g s23,?_⟩,rfl,t22.f qo (by simp),hR,bp z7 s23.sz⟩;exact(hla.stay (dq true) (by decide) ((Stay.refl _ _).f qo (.inl (by omega)))).low (dq true) (by omega)
  ·rw[if_pos (N8 hc)]at hR;exact⟨m,u,hx.stay YN,rfl,t21,hR,bp z7 z21⟩
 clear hx vd t7 hR z7 hm t20;rintro i17 s4 i18 b3 i19 i20 s5 i21 l7 i22 l8 l9 i23 w8 ⟨m,u,hx,rfl,t8,hR,z8⟩;unfold GL at hR;have hb8:b<w8.heap.size:=by omega
 refine⟨fun nv sg i24 s7 i25 b4 i26 i27 s8 i28 l10 i29 mP qm i30 w'=>∃(x:aH) (acc:List (aH)) (u':Sx),sg=T x/\MvX A w8 m i24 s7 i25 b4 [O U i26,O U i27,ab s8,O U i28,l10.v,O U i29] mP i30/\Stay A w8 w'/\Own ju 1 9 w8.heap.size w' (Fr w8.heap.size) qm acc/\Zt F ts w w' b l u' [k1,k0]/\xS ts nv x acc u'=xS ts (ts.length+1) [45,62] [] u/\mu ts u'<nv/\acc.length+mu ts u'<=ts.length,ts.length+1,⟨[45,62],[],u,rfl,hx,Stay.refl _ _,Own.nil _ _ _ _ _ _,t8,rfl,vD (rB _ _),by rw[cz,bO];exact rB _ _⟩,?_⟩;clear hx;rintro nv sg i24 s7 i25 b4 i26 i27 s8 i28 l10 i29 mP qm i30 w9 ⟨x,acc,u',rfl,hx,hS,mW,t9,hT,hf1,Ih⟩;obtain⟨m',rfl⟩:∃m',nv=m'+1:=⟨nv-1,by omega⟩
 rw[xS]at hT;obtain⟨q,du,e1,dM,Nj⟩:=CB t9.r [x] (n:=1) (parts:=#[(0,ab (T x))]) rfl rfl (by decide) (by decide);have t10:=t9.q dM;refine⟨q,du,e1,t9.sq dM (by simp),Nj.mono ?_⟩;rintro _ dC ⟨rfl,It⟩;have t11:=t10.nx It;refine⟨_,rfl,t10.sc It (by simp),fun hc dN eS=>?_,fun hc=>?_⟩
 ·have hc:=N9 hc;rw[if_neg hc]at hT t11;have t12:=t11.q eS;refine⟨fun k=>k=k1,rfl,(wg t12.r).mono ?_⟩;rintro _ fb ⟨rfl,u9⟩;have t13:=t12.nx u9;have fQ:ay [b] w9 fb:=(((dM.weaken (bs':=[b]) fun _ h=>(by cases h)).trans It.o fun x hx=>.inl hx).cf eS).trans u9.o fun x hx=>.inl hx;have zS:=hS.sz;have z9:=fQ.size;have zg:=h.sm;have Bx:=rB ts u';have hmu:=oM h.en (dl hc).1 t9.r.lt (dl hc).2 (oL h.en (s:=dy u')).toOn0;obtain⟨y,fk,e2,ep,C9,fZ,e3,ahI,⟨gs,gL,uE⟩,_⟩:=jK (P:=aq) (t:=31) (ty:=31) (e:=9) (i:=Tryz.t9) (bytes:=16) (size:=1) (v:=ab (T (iV ts (dy u')).1)) (x:=(iV ts (dy u')).1) (G:=fun _=>False) (by kernel_rfl) (by kernel_rfl) rfl rfl rfl rfl (by decide) (by decide) (by decide) cP (mW.stay cP fQ fun x hx=>.inl (by simp only[aN]at hx;omega)) (bp zS z9) rfl rfl (fun k hk _=>hk.elim) (by omega);have qs:∀g,g∈gs->w8.heap.size<=g:=fun g hg=>(uE g hg).2.1;have z8w:=t8.z.o.size;have t14:=t13.q ep;have t15:=t14.row gL fun x hx=>bp z8w (qs x hx);have nk:=t8.ne (k0:=k1) (by simp);refine⟨_,rfl,t12.sc u9 (by simp),fun k hk bS=>(by subst hk;exact u9.o.block k bS (by simpa using nk)),y,fk,e2,t13.sq ep (by simp),bP.only ep,C9,fZ,e3,t14.sr gL (by simp) (fun x hx y hy=>?_),fun k hk bS=>(by subst hk;exact gL.block k bS fun hm=>(by have:=qs k hm;omega)),fun gI iR=>⟨m',by omega,[44],_,_,rfl,hx,?_,?_,t15.f iR (by simp),hT,by omega,?_⟩⟩
  ·have:=qs x hx;simp only[aU,ba,bW]at hy;omega
  ·exact(((hS.go fQ fun x hx=>.inl (by simp only[aN]at hx;omega)).q ep).go gL fun x hx=>.inr (qs x hx)).f iR (.inl hA1)
  ·refine((ahI.mono cP fun k hk=>?_).stay cP iR fun x hx=>.inl (by simp only[aN]at hx;omega));rcases hk with hk | hk
   ·exact hk
   ·exact bp (bp zS z9) hk
  ·rw[aP,bG];omega
 ·have hc:=N8 hc;rw[if_pos hc]at hT t11;obtain⟨q2,gf,e2,io,WQ⟩:=pZ t11.r [59];have t17:=t11.q io;refine⟨q2,gf,e2,t11.sq io (by simp),WQ.mono ?_⟩;rintro _ iy ⟨rfl,h18⟩;have t18:=t17.nx h18;refine⟨rfl,t17.sc h18 (by simp),fun jA j6=>?_⟩;rw[<-hT]at hR;rw[<-hR];have s9:∀{B:Nat},b<B->k0<B->Stay B w9 jA:=fun hb hk=>((((Stay.refl _ _).q dM).d It hb).q io).d h18 hb |>.f j6 (.inl hk);have s19:Stay A w8 jA:=(((((hS.q dM).d It hAb).q io).d h18 hAb).f j6 (.inl hA0))
  refine⟨mvv m.k m.ev m.wt m.gd [O U i26,O U i27,ab s8,O U i28,l10.v,O U i29] mP qm m.a,by rw[hx.e1,hx.e2,hx.e3,hx.e4,hx.e5];rfl,⟨_,_,_,rfl,(ja true).low ((ja true).stay hx.g s19) hA,(hx.x.stay (dq true) (by decide) s19).low (dq true) hA,?_⟩,(t18.f j6 (by simp)).dn⟩;exact((mW.sl cP fun k hk=>hk).stay cP (by decide) (s9 hb8 (by omega))).low cP (by omega)
end
theorem L7{iY xs:aI}{j:Nat}{v:aw}(h:xs[j]? =some v):(iY++xs)[iY.length+j]? =some v:=by
 rw[bT (by omega),dF];exact h
theorem lW(iY xs vs:aI)(j:Nat):cj (iY++xs) (iY.length+j) vs=iY++cj xs j vs:=by
 unfold cj;rw[UW,dA,UX];simp only[bH]
structure NbO (B:Nat) (w:av) (n:Nb) (en lv mv:Sl):Prop where
 en:jM true (rA true) 9 196 w (fun k=>B<=k/\mv.a≠some ⟨k,0,none⟩) en n.en
 lv:jM true (rA true) 9 196 w (fun k=>B<=k/\mv.a≠some ⟨k,0,none⟩) lv n.lv
 mv:Own (Jd true) 13 147 B w (Fr B) mv n.mv
section
variable {B:Nat} {w w':av} {n:Nb} {en lv mv:Sl}
theorem NbO.go(h:NbO B w n en lv mv){bs:List Nat}(k:ay bs w w')(hb:∀x,x∈bs->x<B):NbO B w' n en lv mv:=
 ⟨h.en.keep (dq true) (by decide) fun i hi bS=>k.block i bS fun hm=>(by have:=hb i hm;omega),h.lv.keep (dq true) (by decide) fun i hi bS=>k.block i bS fun hm=>(by have:=hb i hm;omega),h.mv.stay (lV true) k fun x hx=>.inl (hb x hx)⟩
theorem NbO.ze(h:NbO B w n en lv mv){gs:List Nat}{rQ:Sl}{m:Mv}(mW:Own (Jd true) 13 147 B w' (fun k=>Fr B k∨w.heap.size<=k) rQ (n.mv++[m]))(k:ay gs w w')(uE:∀g,g∈gs->mv.a=some ⟨g,0,none⟩)(ha:rQ.a=mv.a∨∃g,rQ.a=some ⟨g,0,none⟩/\w.heap.size<=g)(hB:B<=w.heap.size):NbO B w' {n with mv:=n.mv++[m]} en lv rQ:=by
 have go:∀{la:Sl} {xs:List Ac},jM true (rA true) 9 196 w (fun k=>B<=k/\mv.a≠some ⟨k,0,none⟩) la xs->jM true (rA true) 9 196 w' (fun k=>B<=k/\rQ.a≠some ⟨k,0,none⟩) la xs:=fun hx=>
  ((hx.inHeap (dq true) (by decide)).keep (dq true) (by decide) fun i hi bS=>k.block i bS fun hm=>hi.1.2 (uE i hm)).mono (dq true) fun i hi=>⟨hi.1.1,by
   rcases ha with ha | ⟨g,ha,hg⟩
   ·rw[ha];exact hi.1.2
   ·rw[ha];intro e;injection e with e;injection e with e;have:=hi.2;omega⟩
 exact⟨go h.en,go h.lv,mW.mono (lV true) fun i hi=>hi.elim id fun hi=>bp hB hi⟩
theorem NbO.agB(h:NbO B w n en lv mv){A:Nat}{la:Sl}{xs:List Ac}(hx:jM true (rA true) 9 196 w (Fr A) la xs)(hA:B<=A)(hm:∀k,A<=k->mv.a≠some ⟨k,0,none⟩):NbO B w {n with en:=xs} la lv mv:=
 ⟨hx.mono (dq true) fun k hk=>⟨bp hA hk,hm k hk⟩,h.lv,h.mv⟩
theorem NbO.agC(h:NbO B w n en lv mv){A:Nat}{la:Sl}{xs:List Ac}(hx:jM true (rA true) 9 196 w (Fr A) la xs)(hA:B<=A)(hm:∀k,A<=k->mv.a≠some ⟨k,0,none⟩):NbO B w {n with lv:=xs} en la mv:=
 ⟨h.en,hx.mono (dq true) fun k hk=>⟨bp hA hk,hm k hk⟩,h.mv⟩
end
abbrev Oa(h:Ir):aI:=[aj false,aj h.i,aj h.e,aj h.l]
structure Cl (F:aJ) (ts:List Tk) (w w':av) (b:Nat) (l:Sl) (g t:Nat) (iY:aI) (kh B:Nat) (s:Sx) (n:Nb) (h:Ir) (en lv mv:Sl):Prop where
 r:Sr F ts w' b l s
 nb:aF w' g t (iY++nE n.k n.nm n.ini n.dft en lv mv Sl.nil n.a)
 hb:aF w' kh 234 (Oa h)
 no:NbO B w' n en lv mv
 o:∃gs,ay (b::g::kh::gs) w w'/\∀x,x∈gs->B<=x
 ng:g≠b/\¬F g
 nh:b<kh
 gh:g≠kh
 gB:g<B
 hB:kh<B
 lB:B<=w'.heap.size
section
variable {F:aJ} {ts:List Tk} {w w' w2:av} {b:Nat} {l:Sl} {g t:Nat} {iY:aI} {kh B:Nat} {s s':Sx} {n n':Nb} {h h':Ir} {en lv mv vu xH rQ:Sl}
theorem Cl.nx(c:Cl F ts w w' b l g t iY kh B s n h en lv mv)(k:Dn F ts w' w2 b l s'):Cl F ts w w2 b l g t iY kh B s' n h en lv mv:=by
 have ng:=c.ng;have nh:=c.nh;have gB:=c.gB;have hBl:=c.hB;obtain⟨gs,h1,h2⟩:=c.o;exact⟨k.r,k.o.blk c.nb (by simp only[aN];omega),k.o.blk c.hb (by simp only[aN];omega),c.no.go k.o fun x hx=>(by simp only[aN]at hx;omega),
  ⟨gs,h1.trans k.o fun x hx=>.inl (by simp only[aN]at hx;simp[hx]),h2⟩,ng,nh,c.gh,gB,c.hB,bp c.lB k.o.size⟩
theorem Cl.q(c:Cl F ts w w' b l g t iY kh B s n h en lv mv)(k:ay [] w' w2):Cl F ts w w2 b l g t iY kh B s n h en lv mv:=c.nx (c.r.dn.q k)
theorem Cl.st(c:Cl F ts w w' b l g t iY kh B s n h en lv mv)(k:ay [g] w' w2)(hB:aF w2 g t (iY++nE n'.k n'.nm n'.ini n'.dft vu xH rQ Sl.nil n'.a))(no:NbO B w' n' vu xH rQ):Cl F ts w w2 b l g t iY kh B s n' h vu xH rQ:=by
 obtain⟨gs,h1,h2⟩:=c.o;have gB:=c.gB;exact⟨c.r.aa7 k c.ng,hB,k.blk c.hb (by simpa using fun e=>c.gh e.symm),no.go k fun x hx=>(by simp only[aN]at hx;omega),⟨gs,h1.trans k fun x hx=>.inl (by simp only[aN]at hx;simp[hx]),h2⟩,c.ng,c.nh,c.gh,gB,c.hB,bp c.lB k.size⟩
theorem Cl.hd(c:Cl F ts w w' b l g t iY kh B s n h en lv mv)(k:ay [kh] w' w2)(hB:aF w2 kh 234 (Oa h')):Cl F ts w w2 b l g t iY kh B s n h' en lv mv:=by
 obtain⟨gs,h1,h2⟩:=c.o;have hB':=c.hB;exact⟨c.r.one k c.nh,k.blk c.nb (by simpa using c.gh),hB,c.no.go k fun x hx=>(by simp only[aN]at hx;omega),⟨gs,h1.trans k fun x hx=>.inl (by simp only[aN]at hx;simp[hx]),h2⟩,c.ng,c.nh,c.gh,c.gB,hB',bp c.lB k.size⟩
def agc(h:Ir)(j:Nat):Bool:=if j=1 then h.i else if j=2 then h.e else h.l
def Rw(h:Ir)(j:Nat):Ir:=if j=1 then{h with i:=true}else if j=2 then{h with e:=true}else{h with l:=true}
theorem j3{j:Nat}(h0:j≠0)(h3:j<=3):j=1∨j=2∨j=3:=by omega
theorem Ob(c:Cl F ts w w' b l g t iY kh B s n h en lv mv)(hm:n.mv.length<ts.length):az aq 160 #[rp b,ae (some ⟨g,iY.length,none⟩),ae (some ⟨kh,0,none⟩)] w' fun e w2=>e=ak (aj (eX ts n h s).1)/\
  ∃vu xH rQ,Cl F ts w w2 b l g t iY kh B (eX ts n h s).2.2.2 (eX ts n h s).2.1 (eX ts n h s).2.2.1 vu xH rQ:=by
 refine ret (afn _ _ _ _ _ ?_);have zg:=c.r.sm;obtain⟨q,w0,e1,cD,Fy⟩:=L4 c.r [Jb,ku,kz] (n:=3) (parts:=#[(0,ab (T Jb)),(1,ab (T ku)),(2,ab (T kz))]) rfl rfl (by decide) (by decide);refine⟨q,w0,e1,Fy.mono ?_⟩;rintro _ w1 ⟨rfl,cr⟩;have c1:=(c.q cD).q cr;refine⟨_,rfl,fun hc w2 cR=>?_,fun hc=>?_⟩
 ·have hc:=N9 hc;have c2:=c1.q cR;have mT:eX ts n h s=(true,{n with mv:=n.mv++[(nW ts (cQ ts s [Jb,ku,kz]:Nat) s).1]},h,(nW ts (cQ ts s [Jb,ku,kz]:Nat) s).2):=by
   unfold eX;rw[if_pos hc]
  rw[mT];refine⟨fun k=>k=g,_,rfl,rfl,mv,c2.nb.Yy (iY.length+6) (L7 rfl),(VZ c2.r _ (dl hc).2).mono ?_⟩;rintro _ w3 ⟨cs,rfl,hx,h3⟩;have c3:=c2.nx h3;generalize (nW ts (cQ ts s [Jb,ku,kz]:Nat) s).1=m at*
  generalize (nW ts (cQ ts s [Jb,ku,kz]:Nat) s).2=u at*
  have Kv:=hx;obtain⟨gc,tv,tg,rfl,hg,_,_⟩:=Kv;obtain⟨sl,rfl⟩:=jc hg;have ng:=c.ng;have gB:=c.gB;obtain⟨y,w4,e2,dL,rQ,w5,e3,mW,⟨gs,eP,uE⟩,ha⟩:=jK (P:=aq) (t:=24) (ty:=24) (e:=147) (i:=Tryz.t147) (bytes:=168) (size:=13) (v:=ah (mvv m.k m.ev m.wt m.gd (qQ m.g.k m.g.n m.g.s m.g.op sl m.g.a) tv tg m.a).toArray) (x:=m) (G:=Fr w2.heap.size) (by kernel_rfl) (by kernel_rfl) rfl rfl rfl rfl (by decide) (by decide) (by decide) (lV true) c3.no.mv c3.lB rfl hx (fun k hk _=>⟨bp c2.lB hk,c2.no.mv.new hk⟩) (by omega);have yJ:ay gs w3 w5:=(dL.weaken (bs':=gs) fun _ h=>(by cases h)).trans eP fun x hx=>.inl hx;have qs:∀x,x∈gs->B<=x:=fun x hx=>(uE x hx).2.1;have hn:g∉gs:=fun hm=>by have:=qs g hm;omega
  have u7:=yJ.blk c3.nb hn;refine⟨_,_,_,_,_,_,_,_,sl,_,tv,tg,_,rfl,fun k hk bS=>(by subst hk;exact h3.o.block k bS (by simp only[aN];omega)),y,w4,e2,bP.only dL,rQ,w5,e3,fun k hk bS=>(by subst hk;exact eP.block k bS hn),_,rfl,g,_,_,_,rfl,u7,by simp,fun w6 eB Tx=>⟨rfl,en,lv,rQ,?_⟩⟩;rw[lW]at Tx;have no5:=c3.no.ze mW yJ (fun x hx=>(uE x hx).1) ha c3.lB;obtain⟨gs0,o1,o2⟩:=c3.o;have nh:=c.nh;have hBB:=c.hB;have lB:=c3.lB;have hgh:=c.gh;have z5:=yJ.size;have z6:=eB.size;exact⟨(c3.r.own yJ fun x hx=>(by have:=qs x hx;omega)).aa7 eB ng,Tx,(eB.block kh (by have:=c3.hb.lt;omega) (by simp only[aN];omega)).trans (yJ.blk c3.hb fun hm=>(by have:=qs kh hm;omega)),
   no5.go eB fun x hx=>(by simp only[aN]at hx;omega),⟨gs++gs0,((o1.weaken (bs':=b::g::kh::(gs++gs0)) fun x hx=>.inl (by simp only[aU,bR]at hx⊢;rcases hx with hx | hx | hx | hx<;>simp[hx])).trans yJ fun x hx=>.inl (by simp[hx])).trans eB fun x hx=>.inl (by simp only[aN]at hx;simp[hx]),fun x hx=>(bR.1 hx).elim (qs x) (o2 x)⟩,ng,nh,hgh,gB,hBB,by omega⟩
 ·have hc:=N8 hc;obtain⟨q,w7,e1,fE,Fy⟩:=L4 c1.r [gn,jh,ji] (n:=3) (parts:=#[(0,ab (T gn)),(1,ab (T jh)),(2,ab (T ji))]) rfl rfl (by decide) (by decide);refine⟨q,w7,e1,Fy.mono ?_⟩;rintro _ w8 ⟨rfl,fy⟩;have c8:=(c1.q fE).q fy;have lC:cQ ts s [gn,jh,ji]<=3:=GM _;refine⟨_,rfl,fun hj=>?_,fun hj=>?_⟩
  ·have hj:=aga hj;have mT:eX ts n h s=(false,n,h,s):=by unfold eX;rw[if_neg (by simpa using hc),hj];rfl
   rw[mT];exact⟨rfl,_,_,_,c8⟩
  have hj:=agb hj;have hnx:=AD c.r hj;have mT:eX ts n h s=(if agc h (cQ ts s [gn,jh,ji])then(false,n,h,ky ts s)else if cQ ts s [gn,jh,ji]=1 then(true,{n with ini:=(iV ts (dy s)).1},Rw h 1,eA ts (iV ts (dy s)).2 [59])else if cQ ts s [gn,jh,ji]=2 then(true,{n with en:=(jj ts (dy s)).1},Rw h 2,(jj ts (dy s)).2)else(true,{n with lv:=(jj ts (dy s)).1},Rw h 3,(jj ts (dy s)).2)):=by
   unfold eX;rw[if_neg (by simpa using hc)];rcases j3 hj lC with e | e | e<;>rw[e]<;>rfl
  rw[mT];generalize cQ ts s [gn,jh,ji]=j at*
  have yq:(Oa h)[j]? =some (aj (agc h j)):=by rcases j3 hj lC with e | e | e<;>rw[e]<;>rfl
  have hp:F1 ⟨kh,0,none⟩ (j:Int) 4 1 ⟨kh,j,none⟩:=⟨by omega,by omega,by rw[fL,aY];simp⟩
  refine⟨_,rfl,⟨kh,j,none⟩,hp,_,c8.hb.Yy j yq,fun hh=>?_,fun hh=>?_⟩
  ·rw[if_pos hh];refine(sO c8.r).mono ?_;rintro _ w9 ⟨rfl,h9⟩;exact⟨rfl,rfl,_,_,_,c8.nx h9⟩
  ·rw[if_neg (by rw[hh];decide)];refine⟨_,rfl,⟨kh,j,none⟩,hp,kh,j,_,_,rfl,c8.hb,by show j+1<=4;omega,fun du dM wF=>?_⟩;have c10:Cl F ts w du b l g t iY kh B s n (Rw h j) en lv mv:=c8.hd dM (by
    have e:cj (Oa h) j [aj true]=Oa (Rw h j):=by rcases j3 hj lC with e | e | e<;>rw[e]<;>rfl
    rwa[e]at wF)
   refine⟨_,Blk.dQ c10.r.blk 1 rfl,b,1,_,_,rfl,c10.r.blk,by simp,fun dC eu HZ=>?_⟩;rw[c.r.wr]at HZ;have UN:=c10.nx (s':=dy s) ⟨eu,c10.r.nI eu HZ hnx⟩;refine⟨fun w'=>∃vu xH rQ,Cl F ts w w' b l g t iY kh B _ _ _ vu xH rQ,fun dN Kw=>⟨by split<;>(try split)<;>rfl,Kw⟩,fun WM=>?_,fun WM=>⟨fun hj2=>?_,fun hj2=>?_⟩⟩
   ·have e1:j=1:=by have:(j:Int)=1:=(by simpa using WM);omega
    subst e1;rw[if_pos rfl];refine(wg UN.r).mono ?_;rintro _ fb ⟨rfl,u9⟩;have c13:=UN.nx u9;refine⟨_,rfl,_,rfl,g,_,_,_,rfl,c13.nb,by simp,fun fk ep HY=>?_⟩;rw[lW]at HY;have c14:=c13.st (n':={n with ini:=(iV ts (dy s)).1}) ep HY ⟨c13.no.en,c13.no.lv,c13.no.mv⟩;obtain⟨q,fZ,e1,gL,Fy⟩:=pZ c14.r [59];refine⟨q,fZ,e1,Fy.mono ?_⟩;rintro _ gI ⟨rfl,h16⟩;exact⟨rfl,_,_,_,(c14.q gL).nx h16⟩
   ·have e1:j=2:=by have:(j:Int)=2:=(by simpa using hj2);omega
    subst e1;rw[if_neg (by decide),if_pos rfl];refine(AB UN.r).mono ?_;rintro _ gf ⟨la,rfl,hla,PG⟩;have c17:=UN.nx PG;refine⟨la,rfl,_,rfl,g,_,_,_,rfl,c17.nb,by simp,fun iy mV TP=>?_⟩;rw[lW]at TP;exact⟨_,_,_,c17.st (n':={n with en:=(jj ts (dy s)).1}) mV TP (c17.no.agB hla UN.lB fun k hk=>UN.no.mv.new hk)⟩
   ·have e0:j≠1:=fun e=>by rw[e]at WM;simp at WM
    have e1:j=3:=by have:¬(j:Int)=2:=(by simpa using hj2);omega
    subst e1;rw[if_neg (by decide),if_neg (by decide)];refine(AB UN.r).mono ?_;rintro _ jA ⟨la,rfl,hla,h19⟩;have c19:=UN.nx h19;refine⟨la,rfl,_,rfl,g,_,_,_,rfl,c19.nb,by simp,fun iW nJ ahL=>?_⟩;rw[lW]at ahL;exact⟨_,_,_,c19.st (n':={n with lv:=(jj ts (dy s)).1}) nJ ahL (c19.no.agC hla UN.lB fun k hk=>UN.no.mv.new hk)⟩
end
section
variable {F:aJ} {ts:List Tk} {w w' w2:av} {b:Nat} {l:Sl} {s s':Sx}
theorem G3(h:Sr F ts w b l s)(k:Int):az aq 115 #[rp b,O U k] w fun e w'=>e=ak (ah (nE (eZ ts k s).1.k (eZ ts k s).1.nm [] [] Sl.nil Sl.nil Sl.nil Sl.nil (eZ ts k s).1.a).toArray)/\Dn F ts w w' b l (eZ ts k s).2:=by
 refine ret (afi _ _ _ _ ?_);intro k0 k1 w0 gu fe j5 iX cD;have t0:=((h.zt.q cD).ad gu fe).ad j5 iX;obtain⟨ad,g1,g2⟩:=t0.r.now;refine⟨fun w'=>Zt F ts w w' b l (rz ts s) [k1,k0],fun w1 t1=>(we t1.r (k:=1) (by decide)).mono ?_,l,Blk.dQ t0.r.blk 0 rfl,_,Blk.dQ t0.r.blk 1 rfl,ad,g1,_,g2.dQ 0 _ rfl,fun hc w5 eP=>?_,fun hc w8 fy=>?_⟩
 ·rintro _ w2 ⟨rfl,h2⟩;have t2:=t1.nx h2;refine⟨_,_,_,_,rfl,t1.sc h2 (by simp),fun k2 w3 rm rn de n1 n2 n3=>⟨fun k=>k=k2,rfl,fun e=>n3 e,fun e=>n3 e,fun w4 dL=>⟨rfl,?_⟩⟩⟩;have t3:=t2.q de;have z3:=t3.z.go dL fun x hx=>.inr (by simp only[aU,ba,bW]at hx⊢;omega);exact⟨z3.o,t3.r.own dL fun x hx=>t3.lt (by simp only[aU,ba,bW]at hx⊢;omega)⟩
 ·have hc:(tk ts s.i).k=1:=by simpa using hc
  have t5:=t0.q eP;unfold rz;rw[if_pos hc];refine(aap t5.r).mono ?_;rintro _ w6 ⟨rfl,h6⟩;have t6:=t5.nx h6;refine⟨rfl,t5.sc h6 (by simp),_,Blk.dQ t6.r.blk 6 rfl,fun hd=>?_,fun hd=>?_⟩
  ·rw[if_pos (by simpa using hd)];refine(yU t6.r 21).mono ?_;rintro _ w7 ⟨rfl,h7⟩;exact⟨rfl,t6.sc h7 (by simp),t6.nx h7⟩
  ·rw[if_neg (by simpa using hd)];exact t6
 ·have hc:¬(tk ts s.i).k=1:=by simpa using hc
  unfold rz;rw[if_neg hc];exact t0.q fy
def Yb(F:aJ)(ts:List Tk)(b:Nat)(l:Sl)(f:Nat)(d:Int):Prop:=∀(k:Int) (u:Sx) (w:av),Sr F ts w b l u->u.d=d->az aq 161 #[rp b,O U k] w fun e w'=>∃cs,e=ak (ah cs.toArray)/\ol true f w' (Fr w.heap.size) (ld ts f k u).1 cs/\Dn F ts w w' b l (ld ts f k u).2
theorem Rx{f:Nat}(hf:0<f)(w:av)(G:aJ):ol true f w G NY (nE 0 [] [] [] Sl.nil Sl.nil Sl.nil Sl.nil 0):=by
 obtain⟨m,rfl⟩:∃m,f=m+1:=⟨f-1,by omega⟩
 exact⟨_,_,_,_,rfl,⟨jM.nil _ _ _ _ _ _,jM.nil _ _ _ _ _ _,jM.nil _ _ _ _ _ _⟩,jM.nil _ _ _ _ _ _⟩
abbrev Yc(f B:Nat)(w:av)(s:Sl)(xs:List Nd):Prop:=Own (ol true f) 9 27 B w (Fr B) s xs
theorem CD{f B g t:Nat}{iY:aI}{n1:Nb}{en lv mv l2 l8:Sl}{acc:List Nd}{x:Nd}{k:Int}{nm ini dft:aH}{a b1 b2 b3:Sl}{at_:Int}{k0:Nat}{Q:av->Prop}{H:aJ}
  (hx:ol true f w H x (nE k nm ini dft a b1 b2 b3 at_)) (hH:∀i,H i->i<w.heap.size->Fr B i/\l8.a≠some ⟨i,0,none⟩) (hH':∀i,H i->B<=i) (mW:Yc f B w l8 (acc++[NY])) (hn:l2.n=acc.length)
  (yI:aF w g t (iY++nE n1.k n1.nm n1.ini n1.dft en lv mv l2 n1.a)) (hg:g<B) (gu:k0<B) (hgk:k0≠g)
  (hQ:∀w',aF w' g t (iY++nE n1.k n1.nm n1.ini n1.dft en lv mv l8 n1.a)->Yc f B w' l8 (acc++[x])->(∃gk,B<=gk/\ay [g,gk] w w')->Q w'):
  ∃p1:Addr,cW l8 (l2.n:Int) 9 p1/\∃p2:Addr,(some (⟨g,iY.length,none⟩:Addr))=(some p2)/\
   (∃vq C5:Nat,∃z2:aI,∃Nn:Nat,p1=⟨vq,C5,none⟩/\aF w vq Nn z2/\(C5+9)<=z2.length/\k0≠vq/\
    ∀fZ:av,ay [vq] w fZ->aF fZ vq Nn (cj z2 C5 [O U k,ab (T nm),ab (T ini),ab (T dft),a.v,b1.v,b2.v,b3.v,O U at_])->∃Bt Kg:Nat,∃z3:aI,∃k18:Nat,(p2.add 7)=⟨Bt,Kg,none⟩/\
    aF fZ Bt k18 z3/\(Kg+1)<=z3.length/\k0≠Bt/\∀gI:av,ay [Bt] fZ gI->aF gI Bt k18 (cj z3 Kg [l8.v])->Q gI)/\
   ∃uf yp:Nat,∃z4:aI,∃Kh:Nat,(p2.add 7)=⟨uf,yp,none⟩/\aF w uf Kh z4/\(yp+1)<=z4.length/\k0≠uf/\
    ∀gf:av,ay [uf] w gf->aF gf uf Kh (cj z4 yp [l8.v])->∃xE Ki:Nat,∃z5:aI,∃Th:Nat,p1=⟨xE,Ki,none⟩/\
    aF gf xE Th z5/\(Ki+9)<=z5.length/\k0≠xE/\∀iy:av,ay [xE] gf iy->aF iy xE Th (cj z5 Ki [O U k,ab (T nm),ab (T ini),ab (T dft),a.v,b1.v,b2.v,b3.v,O U at_])->Q iy:=by
 have bS:l2.n<(acc++[NY]).length:=by rw[aP,bG];omega
 have HU:(acc++[NY]).set l2.n x=acc++[x]:=by rw[hn,pw _ _ (aX _),oG];rfl
 obtain⟨gk,cells,a1,a2,a3,a4,a5⟩:=Own.store (cG true f) mW bS (vs:=nE k nm ini dft a b1 b2 b3 at_) rfl hx hH (by decide);have W8:=(mW.blk a1).1;dsimp only at W8;refine⟨_,a2,_,rfl,⟨gk,l2.n*9,cells,_,rfl,a3,a4,by omega,fun fZ gL ack=>⟨g,iY.length+7,_,t,rfl,gL.blk yI (by simp only[aN];omega),by simp,hgk,fun gI iR TJ=>?_⟩⟩,g,iY.length+7,_,t,rfl,yI,by simp,hgk,fun gf io ahM=>?_⟩
 ·rw[lW]at TJ;have o15:=a5 fZ gL ack;rw[HU]at o15;exact hQ gI TJ (o15.stay (cG true f) iR fun x hx=>.inl (by simp only[aN]at hx;omega)) ⟨gk,W8,(gL.weaken (bs':=[g,gk]) fun x hx=>.inl (by simp only[aN]at hx;simp[hx])).trans iR fun x hx=>.inl (by simp only[aN]at hx;simp[hx])⟩
 ·rw[lW]at ahM;have z17:=io.size;have ahN:Yc f B gf l8 (acc++[NY]):=mW.stay (cG true f) io fun x hx=>.inl (by simp only[aN]at hx;omega);have aod:ol true f gf (fun i=>H i/\i<w.heap.size) x (nE k nm ini dft a b1 b2 b3 at_):=(cG true f).keep ((cG true f).inHeap hx) fun i hi bS=>io.block i bS (by have:=hH' i hi.1;simp only[aN];omega);obtain⟨gk',acm,c1,c2,c3,c4,c5⟩:=Own.store (cG true f) ahN bS (vs:=nE k nm ini dft a b1 b2 b3 at_) rfl aod (fun i hi _=>hH i hi.1 hi.2) (by decide);have e:gk'=gk:=by
   rw[a1]at c1;injection c1 with c1;injection c1 with c1;exact c1.symm
  subst e;refine⟨gk',l2.n*9,acm,_,rfl,c3,c4,by omega,fun iy mV TP=>?_⟩;have o18:=c5 iy mV TP;rw[HU]at o18;exact hQ iy (mV.blk ahM (by simp only[aN];omega)) o18 ⟨gk',W8,(io.weaken (bs':=[g,gk']) fun x hx=>.inl (by simp only[aN]at hx;simp[hx])).trans mV fun x hx=>.inl (by simp only[aN]at hx;simp[hx])⟩
structure Kd (F:aJ) (ts:List Tk) (w w':av) (b:Nat) (l:Sl) (g t:Nat) (iY:aI) (f B B2:Nat) (n:Nb) (en lv mv:Sl) (s:Sx) (acc:List Nd) (kids:Sl):Prop where
 r:Sr F ts w' b l s
 nb:aF w' g t (iY++nE n.k n.nm n.ini n.dft en lv mv kids n.a)
 no:D5 true w' (fun k=>B<=k/\k<B2) n en lv mv
 kd:Yc f B2 w' kids acc
 o:ay [b,g] w w'
 lB:B2<=w'.heap.size
section
variable {g t:Nat} {iY:aI} {f B B2:Nat} {n:Nb} {en lv mv kids:Sl} {acc:List Nd}
theorem Kd.nx(h:Kd F ts w w' b l g t iY f B B2 n en lv mv s acc kids)(Ts:g≠b)(hb:b<B)(hB:B<=B2)(k:Dn F ts w' w2 b l s'):Kd F ts w w2 b l g t iY f B B2 n en lv mv s' acc kids:=
 ⟨k.r,k.o.blk h.nb (by simp only[aN];omega),h.no.keep fun i hi bS=>k.o.block i bS (by simp only[aN];omega),h.kd.stay (cG true f) k.o fun x hx=>.inl (by simp only[aN]at hx;omega),
  h.o.trans k.o fun x hx=>.inl (by simp only[aN]at hx;simp[hx]),bp h.lB k.o.size⟩
end
end
section
variable {F:aJ} {ts:List Tk} {w w' w2:av} {b:Nat} {l:Sl} {s s':Sx}
structure Cl0 (F:aJ) (ts:List Tk) (w w':av) (b:Nat) (l:Sl) (g t:Nat) (iY:aI) (kh B:Nat) (s:Sx) (n:Nb) (en lv mv:Sl):Prop where
 r:Sr F ts w' b l s
 nb:aF w' g t (iY++nE n.k n.nm n.ini n.dft en lv mv Sl.nil n.a)
 no:NbO B w' n en lv mv
 o:∃gs,ay (b::g::kh::gs) w w'/\∀x,x∈gs->B<=x
 ng:g≠b/\¬F g
 nh:b<kh
 gh:g≠kh
 gB:g<B
 hB:kh<B
 lB:B<=w'.heap.size
section
variable {g t:Nat} {iY:aI} {kh B:Nat} {n:Nb} {h:Ir} {en lv mv:Sl}
theorem Cl.c0(c:Cl F ts w w' b l g t iY kh B s n h en lv mv):Cl0 F ts w w' b l g t iY kh B s n en lv mv:=⟨c.r,c.nb,c.no,c.o,c.ng,c.nh,c.gh,c.gB,c.hB,c.lB⟩
theorem Cl0.cl(c:Cl0 F ts w w' b l g t iY kh B s n en lv mv)(hb:aF w' kh 234 (Oa h)):Cl F ts w w' b l g t iY kh B s n h en lv mv:=⟨c.r,c.nb,hb,c.no,c.o,c.ng,c.nh,c.gh,c.gB,c.hB,c.lB⟩
theorem Cl0.nx(c:Cl0 F ts w w' b l g t iY kh B s n en lv mv)(k:Dn F ts w' w2 b l s'):Cl0 F ts w w2 b l g t iY kh B s' n en lv mv:=by
 have ng:=c.ng;have gB:=c.gB;have nh:=c.nh;have hBl:=c.hB;obtain⟨gs,h1,h2⟩:=c.o;exact⟨k.r,k.o.blk c.nb (by simp only[aN];omega),c.no.go k.o fun x hx=>(by simp only[aN]at hx;omega),
  ⟨gs,h1.trans k.o fun x hx=>.inl (by simp only[aN]at hx;simp[hx]),h2⟩,ng,c.nh,c.gh,gB,c.hB,bp c.lB k.o.size⟩
theorem Cl0.q(c:Cl0 F ts w w' b l g t iY kh B s n en lv mv)(k:ay [] w' w2):Cl0 F ts w w2 b l g t iY kh B s n en lv mv:=c.nx (c.r.dn.q k)
theorem Cl0.sc(c:Cl0 F ts w w' b l g t iY kh B s n en lv mv)(k:Dn F ts w' w2 b l s'):bU [kh] w' w2:=k.o.same fun x hx=>by
 have:=c.nh;have:=c.hB;have:=c.lB;simp only[aN]at hx⊢;omega
theorem Cl0.sq(c:Cl0 F ts w w' b l g t iY kh B s n en lv mv)(k:ay [] w' w2):bU [kh] w' w2:=c.sc (c.r.dn.q k)
end
theorem Jl(n:Nb)(h:Ir)(s:Sx):(eX ts n h s).2.1.mv.length<=n.mv.length+1:=by
 unfold eX;split
 ·dsimp only;rw[aP,bG];omega
 ·split
  ·exact iA _
  ·split<;>exact iA _
  ·split<;>exact iA _
  ·split<;>exact iA _
theorem L8{f:Nat}(h:Sr F ts w b l s){g t:Nat}{iY:aI}{n:Nb}(BU:n.en=[])(FC:n.lv=[])(qy:n.mv=[])(hB:aF w g t (iY++nE n.k n.nm n.ini n.dft Sl.nil Sl.nil Sl.nil Sl.nil n.a))(hg:g≠b/\¬F g)(hd:rS s.d)(hN:s.fc=0->0<f/\Yb F ts b l f (yA s.d)):
  az aq 118 #[rp b,ae (some ⟨g,iY.length,none⟩)] w fun e w'=>e=ak (ai #[])/\∃cs,aF w' g t (iY++cs)/\ol true (f+1) w' (Fr w.heap.size) (ry ts (ld ts f) n s).1 cs/\ay [b,g] w w'/\Sr F ts w' b l (ry ts (ld ts f) n s).2:=by
 refine ret (afm _ _ _ _ ?_);intro k0 w0 gu fe cD;have t0:=h.zt.al cD gu fe;have hgw:=hB.lt;have hbw:=h.lb;refine⟨_,Blk.dQ t0.r.blk 6 rfl,b,6,_,_,rfl,t0.r.blk,by simp,t0.ne (by simp),fun w1 cr wD=>?_⟩;have t1:Zt F ts w w1 b l {s with d:=yA s.d} [k0]:=t0.up cr wD h.lt;have nb1:aF w1 g t (iY++nE n.k n.nm n.ini n.dft Sl.nil Sl.nil Sl.nil Sl.nil n.a):=cr.blk (cD.blk hB (by simp)) (by simp only[aN];omega);have zw1:=t1.z.o.size;have zk:=(t1.z.k k0 (by simp)).2;generalize hBB:w1.heap.size=B at*
 have W8:g<B:=by omega
 have c1:Cl0 F ts w w1 b l g t iY k0 B {s with d:=yA s.d} n Sl.nil Sl.nil Sl.nil:=⟨t1.r,nb1,⟨by rw[BU];exact jM.nil _ _ _ _ _ _,by rw[FC];exact jM.nil _ _ _ _ _ _,by rw[qy];exact Own.nil _ _ _ _ _ _⟩,
  ⟨[],t1.z.o.weaken fun x hx=>.inl (by simp only[aN]at hx;simp[hx]),fun x hx=>(by cases hx)⟩,hg,by omega,by omega,W8,zk,KH hBB.symm⟩
 have hbB:b<B:=by omega
 unfold ry;dsimp only;generalize hC:ke ts (ts.length+1) n ⟨false,false,false⟩ {s with d:=yA s.d}=C;have ahO:On ts {s with d:=yA s.d} C.2:=by rw[<-hC];exact uS h.en _ _ _ _
 refine⟨fun nv b0 b1 b2 b3 w'=>∃(n':Nb) (hd:Ir) (s':Sx) (en lv mv:Sl),b0=false/\b1=hd.i/\b2=hd.e/\b3=hd.l/\Cl0 F ts w w' b l g t iY k0 B s' n' en lv mv/\ke ts nv n' hd s'=C/\mu ts s'<nv/\n'.mv.length+mu ts s'<=ts.length,ts.length+1,
  ⟨n,⟨false,false,false⟩,_,_,_,_,rfl,rfl,rfl,rfl,c1,hC,vD (rB _ _),by rw[qy,cz,bO];exact rB _ _⟩,?_⟩
 rintro nv _ _ _ _ w2 ⟨n',hd',s',en,lv,mv,rfl,rfl,rfl,rfl,c2,hR,hf1,Ih⟩;obtain⟨m,rfl⟩:∃m,nv=m+1:=⟨nv-1,by omega⟩
 rw[ke]at hR;refine⟨fun b4 b5 b6 b7 b8 w'=>(b4=true/\∃(n':Nb) (hd:Ir) (s':Sx) (en lv mv:Sl),b5=false/\b6=hd.i/\b7=hd.e/\b8=hd.l/\Cl0 F ts w w' b l g t iY k0 B s' n' en lv mv/\ke ts m n' hd s'=C/\mu ts s'<m/\n'.mv.length+mu ts s'<=ts.length)∨
  (b4=false/\∃(en lv mv:Sl),Cl0 F ts w w' b l g t iY k0 B C.2 C.1 en lv mv),?_,(ml c2.r).mono ?_⟩
 rotate_left
 ·rintro _ xF ⟨rfl,oh⟩;have c29:=c2.q oh;refine⟨_,rfl,c2.sq oh,fun hc hBk=>?_,fun hc=>?_⟩
  ·have hc:s'.fc=0:=by simpa using hc
   rw[if_neg (by simp[hc])]at hR;have Bx:=rB ts s';have bS:=c2.r.lt;have avu:0<mu ts s':=by unfold mu;rw[if_pos hc];omega
   have fi:=Jl (ts:=ts) n' hd' s';refine(Ob (c29.cl (h:=hd') hBk) (by omega)).mono ?_;rintro _ E5 ⟨rfl,vu,xH,rQ,c30⟩;refine⟨_,rfl,_,_,_,_,c30.hb,?_⟩;cases mT:(eX ts n' hd' s').1 with
   | true=>
    rw[if_pos mT]at hR;have hmu:=N2 h.en n' hd' hc bS mT;exact .inl ⟨rfl,_,_,_,_,_,_,rfl,rfl,rfl,rfl,c30.c0,hR,by omega,by omega⟩
   | false=>
    rw[if_neg (by rw[mT];decide)]at hR;refine .inr ⟨rfl,vu,xH,rQ,?_⟩;rw[<-hR];exact c30.c0
  ·have hc:s'.fc≠0:=by simpa using hc
   rw[if_pos hc]at hR;refine .inr ⟨rfl,en,lv,mv,?_⟩;rw[<-hR];exact c29
 clear hR hf1 Ih c2;rintro b4 b5 b6 b7 b8 w3 (⟨rfl,hh⟩ | ⟨rfl,en,lv,mv,c3⟩)
 ·exact⟨fun _=>⟨m,O6 _,hh⟩,fun hh=>(by cases hh)⟩
 refine⟨fun hh=>(by cases hh),fun _=>?_⟩;generalize C.1=n1 at*
 generalize C.2=s1 at*
 have hsB:B<=w3.heap.size:=c3.lB;have no3:D5 true w3 (fun k=>B<=k/\k<w3.heap.size) n1 en lv mv:=
  ⟨(c3.no.en.inHeap (dq true) (by decide)).mono (dq true) fun k hk=>⟨hk.1.1,hk.2⟩,(c3.no.lv.inHeap (dq true) (by decide)).mono (dq true) fun k hk=>⟨hk.1.1,hk.2⟩,(c3.no.mv.sl (lV true) fun k hk=>hk).inHeap (lV true) (by decide)⟩
 obtain⟨gs3,o3,o3'⟩:=c3.o;have o3:ay [b,g] w w3:=o3.weaken fun x hx=>by
  simp only[aU]at hx;rcases hx with rfl | rfl | rfl | hx
  ·exact .inl (by simp)
  ·exact .inl (by simp)
  ·exact .inr gu
  ·exact .inr (bp zw1 (o3' x hx))
 have k3:Kd F ts w w3 b l g t iY f B w3.heap.size n1 en lv mv s1 [] Sl.nil:=⟨c3.r,c3.nb,no3,Own.nil _ _ _ _ _ _,o3,aX _⟩
 generalize po:w3.heap.size=B2 at*
 clear c3 no3 o3 o3' hC;generalize hK:wa ts (ld ts f) (ts.length+1) [] s1=K;have sk:∀{u u':av} {x y:Sx},B2<=u.heap.size->Dn F ts u u' b l y->bU [k0] u u':=fun hz k=>k.o.same fun x hx=>by
  simp only[aN]at hx⊢;omega
 have TQ:∀{u u':av} {x y:Sx} {acc:List Nd} {kids:Sl},Kd F ts w u b l g t iY f B B2 n1 en lv mv x acc kids->Dn F ts u u' b l y->Kd F ts w u' b l g t iY f B B2 n1 en lv mv y acc kids:=fun a k=>a.nx hg.1 hbB hsB k;have go:∀{u:av} {x:Sx} {acc:List Nd} {kids:Sl},Kd F ts w u b l g t iY f B B2 n1 en lv mv x acc kids->∃(q:Sl) (u2:av),(au 31 4 #[.mk 0 (ab (ao #[115,116,97,116,101])),.mk 1 (ab (ao #[112,97,114,97,108,108,101,108])),.mk 2 (ab (ao #[104,105,115,116,111,114,121])),.mk 3 (ab (ao #[100,101,101,112]))]).run aq u=.ok q.v u2/\bU [k0] u u2/\az aq 159 #[rp b,q.v] u2 fun e u3=>e=ak (O U (cQ ts x qS:Nat))/\bU [k0] u2 u3/\Kd F ts w u3 b l g t iY f B B2 n1 en lv mv x acc kids:=fun{u x acc kids} a=>by
  obtain⟨q,u2,e1,hO,hm⟩:=L4 a.r qS (n:=4) (parts:=#[(0,ab (T DX)),(1,ab (T tK)),(2,ab (T vZ)),(3,ab (T LF))]) rfl rfl (by decide) (by decide);have a2:=TQ a (a.r.dn.q hO);refine⟨q,u2,e1,sk (x:=x) a.lB (a.r.dn.q hO),hm.mono ?_⟩;rintro _ u3 ⟨rfl,de⟩;exact⟨rfl,sk (x:=x) a2.lB (a2.r.dn.q de),TQ a2 (a2.r.dn.q de)⟩
 obtain⟨q,w4,e1,hs4,hm4⟩:=go k3;refine⟨q,w4,e1,hs4,hm4.mono ?_⟩;rintro _ w5 ⟨rfl,Nr,k5⟩;refine⟨_,rfl,Nr,fun nv i2 _ _ _ _ w'=>∃(s':Sx) (acc:List Nd) (kids:Sl),i2=((cQ ts s' qS:Nat):Int)/\Kd F ts w w' b l g t iY f B B2 n1 en lv mv s' acc kids/\wa ts (ld ts f) nv acc s'=K/\mu ts s'<nv/\acc.length+mu ts s'<=ts.length/\s'.d=yA s.d/\(s'.fc=0->s.fc=0),ts.length+1,
  ⟨s1,[],Sl.nil,rfl,k5,hK,vD (rB _ _),by rw[cz,bO];exact rB _ _,ahO.d,fun e=>(ahO.le e).1⟩,?_⟩
 clear Nr k5 hm4 hs4 e1 k3 hK;rintro nv _ b9 YO b11 b12 w6 ⟨s',acc,kids,rfl,k6,hR,hf1,Ih,hd6,hz6⟩;obtain⟨m',rfl⟩:∃m',nv=m'+1:=⟨nv-1,by omega⟩
 rw[wa]at hR;have hkb:k0≠b:=t0.ne (by simp);have hkg:k0≠g:=by omega
 refine⟨fun hc=>?_,fun hc=>?_⟩
 ·have hc:=N9 hc;rw[if_neg hc]at hR;obtain⟨hfc,C7⟩:=dl hc;obtain⟨hf0,hNC⟩:=hN (hz6 hfc);have bS:=k6.r.lt;refine⟨_,Blk.dQ k6.r.blk 1 rfl,b,1,_,_,rfl,k6.r.blk,by simp,hkb,fun w7 fE hB7=>?_⟩;rw[k6.r.wr]at hB7;have k7:=TQ k6 (y:=dy s') ⟨fE,k6.r.nI fE hB7 (AD k6.r hc)⟩;have zg:=h.sm;have hmul:=rB ts s';have Ff:=LN h.en f (cQ ts s' qS:Nat) (dy s') (by show rS s'.d;rw[hd6];exact PY _);have hmu:=oM h.en hfc bS C7 Ff.toOn0;generalize cQ ts s' qS=kk at*
  generalize hNx:ld ts f (kk:Int) (dy s')=N at*
  have aog:N.2.d=yA s.d:=Ff.d.trans hd6;have aoh:N.2.fc=0->s.fc=0:=fun e=>hz6 (Ff.le e).1;refine⟨fun _ _ _ _ w'=>∃kK,Kd F ts w w' b l g t iY f B B2 n1 en lv mv N.2 (acc++[N.1]) kK,fun b13 b14 b15 b16 w8 h8=>?_,fun dC eu=>?_⟩
  ·obtain⟨kK,k8⟩:=h8;obtain⟨q,w9,e1,hs9,hm9⟩:=go k8;refine⟨q,w9,e1,hs9,hm9.mono ?_⟩;rintro _ du ⟨rfl,aoi,jd⟩;exact⟨_,rfl,aoi,m',O6 _,_,_,_,rfl,jd,hR,by omega,by rw[aP,bG];omega,aog,aoh⟩
  ·have mQ:=TQ k7 (k7.r.dn.q eu);have C6:=mQ.lB;have tf:∀{u:av},Sr F ts u b l (dy s')->az aq 161 #[rp b,O U (kk:Int)] u fun e w'=>∃cs,e=ak (ah cs.toArray)/\ol true f w' (Fr u.heap.size) N.1 cs/\Dn F ts u w' b l N.2:=fun hu=>by
    have:=hNC (kk:Int) (dy s') _ hu hd6;rw[hNx]at this;exact this
   have Da:∀{u u':av} {bs:List Nat},ay bs u u'->(∀x,x∈bs->x≠g)->bP (fun k=>k=g) u u':=fun hO hb k hk bS=>by subst hk;exact hO.block k bS fun hm=>hb k hm rfl
   have zc:Value.cells (ah (nE 0 [] [] [] Sl.nil Sl.nil Sl.nil Sl.nil 0).toArray)=(nE 0 [] [] [] Sl.nil Sl.nil Sl.nil Sl.nil 0).toArray:=rfl;have hz:∀(u:av),∃(y:Sl) (u2:av),(au 25 1 #[.mk 0 (ah (nE 0 [] [] [] Sl.nil Sl.nil Sl.nil Sl.nil 0).toArray)]).run aq u=.ok y.v u2/\Own (ol true f) 9 27 u.heap.size u2 (fun _=>False) y [NY]/\ay [] u u2:=fun u=>by
    obtain⟨y,u2,a1,a2,a3,_⟩:=gY (P:=aq) (t:=25) (e:=27) (i:=Tryz.t27) (w:=u) (F:=fun _=>False) (r:=ol true f) (size:=9) (vs:=[ah (nE 0 [] [] [] Sl.nil Sl.nil Sl.nil Sl.nil 0).toArray]) (xs:=[NY]) (len:=1) (parts:=#[(0,ah (nE 0 [] [] [] Sl.nil Sl.nil Sl.nil Sl.nil 0).toArray)]) (by kernel_rfl) (by kernel_rfl) rfl rfl (by decide) rfl rfl (by decide) (by decide) (cG true f) ⟨⟨rfl,Rx hf0 _ _⟩,trivial⟩;exact⟨y,u2,a1,a2,a3⟩
   have ahQ:∀{u:av} {y:Sl} {A:Nat},B2<=A->Yc f B2 u kids acc->(∀k,A<=k->kids.a≠some ⟨k,0,none⟩)->aA (ol true f) 9 u (Fr A) y [NY]->A<=u.heap.size->∃(s8:Sl) (u2:av),(Builtin.append_ #[25,25] 25 #[kids.v,y.v]).run aq u=.ok s8.v u2/\Yc f B2 u2 s8 (acc++[NY])/\(∃gs,ay gs u u2/\∀x,x∈gs->B2<=x/\x<A)/\(∀k,A<=k->k<u.heap.size->s8.a≠some ⟨k,0,none⟩):=fun{u y A} hA ho hk hy hAu=>by
    obtain⟨s8,u2,a1,a2,gs,a3,a4,a5⟩:=qE (P:=aq) (t:=25) (ty:=25) (e:=27) (i:=Tryz.t27) (bytes:=160) (size:=9) (y:=y) (ys:=[NY]) (by kernel_rfl) (by kernel_rfl) rfl rfl rfl rfl (cG true f) ho (hy.mono (cG true f) fun k iM=>⟨bp hA iM,hk k iM⟩) (bp hA hAu) (by rw[bG];omega) (by decide);refine⟨s8,u2,a1,a2,⟨gs,a3,fun x hx=>⟨(a4 x hx).2.1,?_⟩⟩,fun k h1 h2=>?_⟩
    ·exact Nat.lt_of_not_le fun lC=>hk x lC (a4 x hx).1
    ·rcases a5 with a5 | a5
     ·rw[a5];exact hk k h1
     ·rw[a5];intro e;injection e with e;injection e with e;omega
   have W7:∀{u:av} {s8:Sl},Sr F ts u b l N.2->aF u g t (iY++nE n1.k n1.nm n1.ini n1.dft en lv mv kids n1.a)->D5 true u (fun k=>B<=k/\k<B2) n1 en lv mv->ay [b,g] w u->B2<=u.heap.size->Yc f B2 u s8 (acc++[NY])->∀w',aF w' g t (iY++nE n1.k n1.nm n1.ini n1.dft en lv mv s8 n1.a)->Yc f B2 w' s8 (acc++[N.1])->(∃gk,B2<=gk/\ay [g,gk] u w')->∃kK,Kd F ts w w' b l g t iY f B B2 n1 en lv mv N.2 (acc++[N.1]) kK:=fun hr yI hno ho hz _ w' h1 h2 ⟨gk,h3,h4⟩=>
    ⟨_,hr.far h4 fun x hx=>(by
     simp only[aU,ba,bW]at hx;rcases hx with rfl | rfl
     ·exact hg
     ·exact hr.gt (by omega)),h1,hno.keep fun i hi bS=>h4.block i bS (by simp only[aU,ba,bW];omega),h2,ho.trans h4 fun x hx=>by
     simp only[aU,ba,bW]at hx⊢;omega,bp hz h4.size⟩
   refine⟨fun k=>k=g,_,rfl,rfl,kids,mQ.nb.Yy (iY.length+7) (L7 rfl),(tf mQ.r).mono ?_,?_⟩
   ·rintro _ dN ⟨cs,rfl,hx,Kw⟩;have FA:=TQ mQ Kw;have Kv:=hx;obtain⟨f',rfl⟩:∃f',f=f'+1:=⟨f-1,by omega⟩
    obtain⟨xe,xl,xm,xk,rfl,_⟩:=Kv;obtain⟨y,fb,e2,hy,eH⟩:=hz dN;have vq:=TQ FA (FA.r.dn.q eH);obtain⟨s8,fk,e3,Kx,⟨gs,ep,uE⟩,hs8⟩:=ahQ (u:=fb) (y:=y) (A:=dC.heap.size) C6 vq.kd (fun k hk=>mQ.kd.new hk) ((hy.slice (cG true _)).mono (cG true _) fun k hk=>(by
     rcases hk with hk | hk
     ·exact hk.elim
     ·exact bp Kw.o.size hk.1)) (bp Kw.o.size eH.size)
    have hgn:∀x,x∈gs->x≠g:=fun x hx=>by have:=(uE x hx).1;omega
    have W0:=ep.size;have PF:=vq.lB;have z12:=Kw.o.size;refine⟨_,_,_,_,xe,xl,xm,xk,_,rfl,sk (x:=s') mQ.lB Kw,Da Kw.o (by simp only[aN];omega),y,fb,e2,sk (x:=s') FA.lB (FA.r.dn.q eH),Da eH (by simp),s8,fk,e3,ep.same (fun x hx=>?_),Da ep hgn,?_⟩
    ·simp only[aN]at hx;subst hx;exact⟨by omega,fun hm=>by have:=(uE x hm).1;omega⟩
    ·refine CD (H:=fun k=>dC.heap.size<=k/\k<dN.heap.size) (acc:=acc) ?_ (fun k hk _=>⟨bp C6 hk.1,hs8 k hk.1 (cm hk.2 eH.size)⟩) (fun k hk=>bp C6 hk.1) Kx mQ.kd.len (ep.blk vq.nb fun hm=>hgn g hm rfl) (by omega) (by omega) hkg (W7 (vq.r.own ep fun x hx=>(by have:=(uE x hx).1;omega)) (ep.blk vq.nb fun hm=>hgn g hm rfl) (vq.no.keep fun i hi bS=>ep.block i bS fun hm=>(by have:=(uE i hm).1;omega)) (vq.o.trans ep fun x hx=>.inr (by have:=(uE x hx).1;have:=mQ.o.size;omega)) (bp PF W0) Kx);refine(cG true _).keep ((cG true _).inHeap hx) fun k hk bS=>?_;exact(ep.block k (cm bS eH.size) fun hm=>by have:=(uE k hm).2;have:=hk.1;omega).trans (eH.block k bS (by simp))
   ·obtain⟨y,jA,e2,hy,j6⟩:=hz dC;have uf:=TQ mQ (mQ.r.dn.q j6);refine⟨y,jA,e2,sk (x:=s') mQ.lB (mQ.r.dn.q j6),Da j6 (by simp),(tf uf.r).mono ?_⟩;rintro _ iW ⟨cs,rfl,hx,h20⟩;have yp:=TQ uf h20;have Kv:=hx;obtain⟨f',rfl⟩:∃f',f=f'+1:=⟨f-1,by omega⟩
    obtain⟨xe,xl,xm,xk,rfl,_⟩:=Kv;have aok:=(((hy.slice (cG true _)).inHeap (cG true _) (by decide)).keep (cG true _) (by decide) (w':=iW) fun k hk bS=>h20.o.block k bS (by
     rcases hk.1 with hk | hk
     ·exact hk.elim
     ·have:=hk.1;simp only[aN];omega)).mono (cG true _) (G:=Fr dC.heap.size) fun k hk=>(by
     rcases hk.1 with hk | hk
     ·exact hk.elim
     ·exact hk.1)
    obtain⟨s8,lu,e3,Kx,⟨gs,kE,uE⟩,hs8⟩:=ahQ (u:=iW) (y:=y) (A:=dC.heap.size) C6 yp.kd (fun k hk=>mQ.kd.new hk) aok (bp j6.size h20.o.size);have hgn:∀x,x∈gs->x≠g:=fun x hx=>by have:=(uE x hx).1;omega
    have z21:=kE.size;have z20:=yp.lB;have z19:=j6.size;refine⟨_,_,_,_,xe,xl,xm,xk,_,rfl,sk (x:=s') uf.lB h20,Da h20.o (by simp only[aN];omega),s8,lu,e3,kE.same (fun x hx=>?_),Da kE hgn,?_⟩
    ·simp only[aN]at hx;subst hx;exact⟨by omega,fun hm=>by have:=(uE x hm).1;omega⟩
    ·refine CD (H:=fun k=>jA.heap.size<=k/\k<iW.heap.size) (acc:=acc) ?_ (fun k hk _=>⟨by show B2<=k;omega,hs8 k (by omega) hk.2⟩) (fun k hk=>by omega) Kx mQ.kd.len (kE.blk yp.nb fun hm=>hgn g hm rfl) (by omega) (by omega) hkg (W7 (yp.r.own kE fun x hx=>(by have:=(uE x hx).1;omega)) (kE.blk yp.nb fun hm=>hgn g hm rfl) (yp.no.keep fun i hi bS=>kE.block i bS fun hm=>(by have:=(uE i hm).1;omega)) (yp.o.trans kE fun x hx=>.inr (by have:=(uE x hx).1;have:=mQ.o.size;omega)) (bp z20 z21) Kx);refine(cG true _).keep ((cG true _).inHeap hx) fun k hk bS=>?_;exact kE.block k bS fun hm=>by have:=(uE k hm).2;have:=hk.1;omega
 ·have hc:=N8 hc;rw[if_pos hc]at hR;refine⟨_,Blk.dQ k6.r.blk 6 rfl,b,6,_,_,rfl,k6.r.blk,by simp,hkb,fun oo iO aol=>?_⟩;have OK:=TQ k6 (y:={s' with d:=inc s'.d}) ⟨iO,k6.r.nI iO aol k6.r.lt⟩;obtain⟨q,rP,e1,qp,hm⟩:=pZ OK.r [125];have YP:=TQ OK (OK.r.dn.q qp);refine⟨q,rP,e1,sk (x:=s') OK.lB (OK.r.dn.q qp),hm.mono ?_⟩;rintro _ vp ⟨rfl,h28⟩;have E4:=TQ YP h28;refine⟨rfl,sk (x:=s') YP.lB h28,rfl,_,E4.nb,?_,E4.o,?_⟩
  ·rw[<-hR];refine⟨en,lv,mv,kids,rfl,E4.no.mono fun k hk=>bp zw1 hk.1,(E4.kd.sl (cG true f) fun k hk=>hk).low (cG true f) (by omega)⟩
  ·rw[<-hR];exact E4.r
end
def Tk.Good(t:Tk):Prop:=(t.k=2->∃c r,t.t=c::r/\iG c=true)/\(t.k=4->∃c r,t.t=c::r/\iG c=false)/\0<=t.n/\t.n<=9223372036854775807
theorem Ry{m:aH}{q:Tq}(h:vU m=.ok q):q.1≠5/\∀a,Tk.Good ⟨q.1,q.2.1,q.2.2.1,a⟩:=by
 cases m with
 | nil=>cases h
 | cons c r=>
  simp only[vU]at h;split at h
  ·rename_i hc;unfold uq at h;split at h
   ·cases h
   ·injection h with h;subst h;have hw:iG c=true:=by unfold iG;rw[hc];rfl
    refine⟨by dsimp only;split<;>decide,fun a=>⟨fun _=>?_,fun h4=>?_,by dsimp only;decide,by dsimp only;decide⟩⟩
    ·dsimp only;rw[eF,if_pos hw];exact⟨c,_,rfl,hw⟩
    ·dsimp only at h4;split at h4<;>exact absurd h4 (by decide)
  ·rename_i hl;split at h
   ·rename_i hc;unfold Ae at h;split at h
    ·cases h
    ·split at h
     ·cases h
     ·injection h with h;subst h;refine⟨by dsimp only;decide,fun a=>⟨fun h=>absurd h (by dsimp only;decide),fun h=>absurd h (by dsimp only;decide),by dsimp only;omega,?_⟩⟩;dsimp only;unfold gR;split
      ·dsimp only;decide
      ·split
       ·dsimp only;decide
       ·split
        ·dsimp only;omega
        ·dsimp only;decide
   ·rename_i hd;unfold ur at h;split at h
    ·cases h
    ·rename_i hs;injection h with h;subst h;refine⟨by dsimp only;decide,fun a=>⟨fun h=>absurd h (by dsimp only;decide),fun _=>?_,by dsimp only;decide,by dsimp only;decide⟩⟩;obtain⟨n,hn⟩:∃n,nf (c::r)=n+1:=⟨nf (c::r)-1,by omega⟩
     dsimp only;rw[hn,dV];refine⟨c,_,rfl,?_⟩;unfold iG;rw[eb];exact⟨by simpa using hl,by simpa using hd⟩
theorem G4{l:aH}:∀(n i:Nat),i<=l.length->l.length-i<=n->∀r,vW l i=.ok r->∃(fr:List Tk) (a:Int),r=fr++[⟨5,[],0,a⟩]/\(∀t,t∈fr->t.k≠5/\t.Good)/\r.length<=l.length-i+1
 | n,i,hi,hn,r,h=>by
  rw[pM hi]at h;split at h
  ·injection h with h;exact⟨[],_,h.symm,fun t ht=>(by cases ht),by rw[<-h,bG];omega⟩
  ·split at h
   ·cases h
   ·rename_i q hq;have q1:=vV hq;have q2:=DQ hq;rw[cH]at q2;split at h
    ·cases h
    ·rename_i r' UO;injection h with h;subst h
     match n,hn with
     | 0,hn=>omega
     | n+1,hn=>
      obtain⟨fr,a,e,hf,hl⟩:=G4 n _ (by omega) (by omega) _ UO;have hg:=Ry hq;refine⟨_::fr,a,by rw[e];rfl,fun t ht=>?_,by rw[bf];omega⟩;rcases aU.1 ht with rfl | ht
      ·exact⟨hg.1,hg.2 _⟩
      ·exact hf t ht
theorem V0{fr:List Tk}{a:Int}(h:∀t,t∈fr->t.k≠5):xa (fr++[⟨5,[],0,a⟩]):=fun i hi=>by
 rw[aP,bG]at hi;unfold tk;by_cases hl:i<fr.length
 ·rw[bK hl,aW hl,me,aP,bG];exact⟨fun e=>absurd e (h _ (dZ hl)),fun e=>by omega⟩
 ·have e:i=fr.length:=by omega
  subst e;rw[bT (aX _),oG,aP,bG];exact⟨fun _=>rfl,fun _=>rfl⟩
theorem L9{l:aH}:∀(n i:Nat),i<=l.length->l.length-i<=n->∀x,vW l i=.error x->x.1≠0
 | n,i,hi,hn,x,h=>by
  rw[pM hi]at h;split at h
  ·cases h
  ·split at h
   ·rename_i e hq;injection h with h;subst h;exact Lp hq
   ·rename_i q hq;have q1:=vV hq;have q2:=DQ hq;rw[cH]at q2;split at h
    ·rename_i y hy;injection h with h;subst h
     match n,hn with
     | 0,hn=>omega
     | n+1,hn=>exact L9 n _ (by omega) (by omega) _ hy
    ·cases h
theorem Jm{l:aH}(h:(dr l).2.1=0):xa (dr l).1/\(∀t,t∈(dr l).1->t.Good)/\0<(dr l).1.length/\(dr l).1.length<=16385:=by
 unfold dr at h⊢;split at h
 ·cases h
 ·rename_i hl;rw[if_neg hl];cases hr:vW l 0 with
  | error x=>
   rw[hr]at h;exact absurd h (L9 l.length 0 (bh _) (by omega) _ hr)
  | ok r=>
   obtain⟨fr,a,e,hf,hn⟩:=G4 l.length 0 (bh _) (by omega) r hr;dsimp only;subst e;refine⟨V0 fun t ht=>(hf t ht).1,fun t ht=>?_,by rw[aP,bG];omega,by omega⟩;rcases bR.1 ht with ht | ht
   ·exact(hf t ht).2
   ·simp only[aN]at ht;subst ht;exact⟨fun h=>absurd h (by dsimp only;decide),fun h=>absurd h (by dsimp only;decide),by dsimp only;decide,by dsimp only;decide⟩
section
variable {F:aJ} {ts:List Tk} {w w' w2:av} {b:Nat} {l:Sl} {s s':Sx}
theorem Mb:∀(f:Nat) (d:Int),0<=d->d<f->d<=9223372036854775807->Yb F ts b l f d
 | 0,d,h0,h1,_=>by omega
 | f+1,d,h0,h1,h2=>by
  intro k u w h hd;refine(afx ⟨b,0,none⟩ k (fun v w'=>∃cs,v=(ah cs.toArray)/\ol true (f+1) w' (Fr w.heap.size) (ld ts (f+1) k u).1 cs/\Dn F ts w w' b l (ld ts (f+1) k u).2) w ?_).mono (by
   rintro e w' ⟨v,rfl,cs,rfl,h⟩;exact⟨cs,rfl,h⟩)
  intro k0 w0 gu fe cD;have t0:=h.zt.al cD gu fe;refine(G3 t0.r k).mono ?_;rintro _ w1 ⟨rfl,h1'⟩;have t1:=t0.nx h1';have Ff:=Ap h.en k u;have hnd:=VP (ts:=ts) (k:=k) (s:=u);rw[ld];have yI:(eZ ts k u).1.ini=[]/\(eZ ts k u).1.dft=[]/\(eZ ts k u).1.en=[]/\(eZ ts k u).1.lv=[]/\(eZ ts k u).1.mv=[]:=⟨rfl,rfl,rfl,rfl,rfl⟩
  generalize eZ ts k u=N at*
  obtain⟨nb,u1⟩:=N;dsimp only at*
  obtain⟨i1,i2,i3,i4,i5⟩:=yI;obtain⟨nk,nnm,aom,aon,nen,nlv,nmv,na⟩:=nb;dsimp only at i1 i2 i3 i4 i5;subst i1 i2 i3 i4 i5;dsimp only at*
  refine⟨_,_,_,_,Sl.nil,Sl.nil,Sl.nil,Sl.nil,_,rfl,t0.sc h1' (by simp),fun hc k1 w2 j5 iX cR=>?_,fun hc k2 du rm rn dM=>?_⟩
  ·rw[if_pos (by have:=aO hc;omega)];have t2:=t1.al cR j5 iX;obtain⟨q,w3,e1,de,hm⟩:=pZ t2.r [45,62];have t3:=t2.q de;refine⟨q,w3,e1,t2.sq de (by simp),hm.mono ?_⟩;rintro _ w4 ⟨rfl,h4⟩;have t4:=t3.nx h4;refine⟨rfl,t3.sc h4 (by simp),(wg t4.r).mono ?_⟩;rintro _ w5 ⟨rfl,h5⟩;have t5:=t4.nx h5;refine⟨_,rfl,t4.sc h5 (by simp),fun w6 eB=>?_⟩;have t6:=t5.f eB (by simp);obtain⟨q,w7,e1,fE,hm⟩:=pZ t6.r [59];have t7:=t6.q fE;refine⟨q,w7,e1,t6.sq fE (by simp),hm.mono ?_⟩;rintro _ w8 ⟨rfl,h8⟩;have t8:=t7.nx h8;refine⟨rfl,t7.sc h8 (by simp),fun w9 fQ=>⟨_,rfl,⟨Sl.nil,Sl.nil,Sl.nil,Sl.nil,rfl,⟨jM.nil _ _ _ _ _ _,jM.nil _ _ _ _ _ _,jM.nil _ _ _ _ _ _⟩,jM.nil _ _ _ _ _ _⟩,(t8.f fQ (by simp)).dn⟩⟩
  ·rw[if_neg (by have:=aR hc;omega)];have t10:=t1.al dM rm rn;obtain⟨q,dC,e1,eu,hm⟩:=pZ t10.r [123];have t11:=t10.q eu;refine⟨q,dC,e1,t10.sq eu (by simp),hm.mono ?_⟩;rintro _ dN ⟨rfl,Kw⟩;have t12:=t11.nx Kw;have hms:=ii (s:=u1) h.en [123];refine⟨rfl,t11.sc Kw (by simp),fun hB _=>?_⟩;have hsd:(eA ts u1 [123]).d=d:=hms.d.trans (Ff.d.trans hd);refine(L8 (f:=f) t12.r (iY:=[]) (n:=⟨nk,nnm,[],[],[],[],[],na⟩) rfl rfl rfl hB (t12.r.gt (t12.lt (by simp))) (by rw[hsd];exact⟨by omega,h2⟩) (fun hf=>?_)).mono ?_
   ·have hd0:=hnd (hms.le hf).1;rw[hd]at hd0;have Py:yA d=d-1:=by unfold yA;rw[fR (by omega) (by omega)]
    rw[hsd,Py];exact⟨by omega,Mb f (d-1) (by omega) (by omega) (by omega)⟩
   ·rintro _ fb ⟨rfl,cs,Bi,hx,eH,aoo⟩;have Kv:=hx;obtain⟨xe,xl,xm,xk,rfl,_⟩:=Kv;have PF:Fz [b] w fb [k2,k0]:=t12.z.go eH fun x hx=>(by simp only[aU,ba,bW]at hx⊢;omega)
    have l2:=t12.lt (k0:=k2) (by simp);have l0:=t12.lt (k0:=k0) (by simp);have k0l:=(t1.z.k k0 (by simp)).2;refine⟨rfl,t12.z.sm eH (by simp) (fun x hx=>?_),_,_,_,_,xe,xl,xm,xk,_,Bi,fun fk ep HY=>⟨_,rfl,?_,?_⟩⟩
    ·simp only[aU,ba,bW]at hx;rcases hx with rfl | rfl
     ·exact .inl (by simp)
     ·exact .inr fun y hy=>by simp only[aN]at hy;omega
    ·refine(cG true _).low ((cG true _).stay hx ((Stay.refl _ _).f ep (.inl ?_))) t12.z.o.size;have:=(t12.z.k k0 (by simp)).2;exact this
    ·exact⟨(PF.f ep (by simp)).o,aoo.one ep l0⟩
theorem aat(h:Sr F ts w b l s)(hg:∀t,t∈ts->t.Good):az aq 117 #[rp b] w fun e w'=>e=ak (ah #[ab (T (uR ts s).1.n),O U (uR ts s).1.v,O U (uR ts s).1.a])/\Dn F ts w w' b l (uR ts s).2:=by
 refine ret (afl _ _ _ ?_);intro k0 w0 gu fe cD;have t0:=h.zt.al cD gu fe;obtain⟨ad,g1,g2⟩:=t0.r.now;unfold uR;dsimp only;generalize C3:(if(tk ts s.i).k=1 then GJ ts s else s)=s1;refine⟨fun w'=>Zt F ts w w' b l s1 [k0],fun w1 t1=>(we t1.r (k:=1) (by decide)).mono ?_,l,Blk.dQ t0.r.blk 0 rfl,_,Blk.dQ t0.r.blk 1 rfl,ad,g1,_,g2.dQ 0 _ rfl,fun hc dN eS=>?_,fun hc fk ep=>?_⟩
 ·rintro _ w2 ⟨rfl,h2⟩;have t2:=t1.nx h2;refine⟨_,_,_,_,rfl,t1.sc h2 (by simp),fun k1 w3 j5 iX de=>?_⟩;have t3:=t2.al de j5 iX;obtain⟨q,w4,e1,dL,hm⟩:=pZ t3.r [61];have t4:=t3.q dL;refine⟨q,w4,e1,t3.sq dL (by simp),hm.mono ?_⟩;rintro _ w5 ⟨rfl,h5⟩;have t5:=t4.nx h5;refine⟨rfl,t4.sc h5 (by simp),?_⟩;obtain⟨q,w6,e1,eB,hm⟩:=CB t5.r [[45]] (n:=1) (parts:=#[(0,ab (T [45]))]) rfl rfl (by decide) (by decide);have t6:=t5.q eB;refine⟨q,w6,e1,t5.sq eB (by simp),hm.mono ?_⟩;rintro _ w7 ⟨rfl,h7⟩;have t7:=t6.nx h7;generalize hgg:cQ ts (eA ts (gz ts s1 1).2 [61]) [[45]]=gg at*
  have hgl:gg<=1:=by rw[<-hgg];exact GM _
  refine⟨_,rfl,t6.sc h7 (by simp),(we t7.r (k:=3) (by decide)).mono ?_⟩;rintro _ w8 ⟨rfl,h8⟩;have t8:=t7.nx h8;refine⟨_,_,_,_,rfl,t7.sc h8 (by simp),?_⟩;obtain⟨q,w9,e1,fQ,hm⟩:=pZ t8.r [59];have t9:=t8.q fQ;refine⟨q,w9,e1,t8.sq fQ (by simp),hm.mono ?_⟩;rintro _ du ⟨rfl,TI⟩;refine⟨rfl,t9.sc TI (by simp),fun dC eu=>⟨?_,((t9.nx TI).f eu (by simp)).dn⟩⟩;have hn:∀u:Sx,0<=(gz ts u 3).1.n/\(gz ts u 3).1.n<=9223372036854775807:=fun u=>by
   unfold gz;split
   ·exact⟨iB 0,(by decide:(0:Int)<=9223372036854775807)⟩
   ·unfold tk;cases hx:ts[u.i]? with
    | none=>exact⟨iB 0,(by decide:(0:Int)<=9223372036854775807)⟩
    | some t=>exact(hg t (bF hx)).2.2
  obtain⟨n0,n1⟩:=hn (if gg=0 then eA ts (gz ts s1 1).2 [61]else dy (eA ts (gz ts s1 1).2 [61]));generalize (gz ts (if gg=0 then eA ts (gz ts s1 1).2 [61]else dy (eA ts (gz ts s1 1).2 [61])) 3).1.n=x at*
  have e:ar U ((ar U (1-(ar U (2*(gg:Int)))))*x)=if gg=0 then x else ar U (-x):=by
   rcases(by omega:gg=0∨gg=1)with rfl | rfl
   ·rw[if_pos rfl];show ar U (1*x)=x;rw[Int.one_mul,fR (by omega) (by omega)]
   ·rw[if_neg (by decide)];show ar U (-1*x)=_;rw[Int.neg_one_mul]
  rw[e]
 ·refine(aaq (t0.q eS).r).mono ?_;rintro _ fb ⟨rfl,u9⟩;refine⟨rfl,(t0.q eS).sc u9 (by simp),?_⟩;rw[<-C3,if_pos (by simpa using hc)];exact(t0.q eS).nx u9
 ·rw[<-C3,if_neg (by simpa using hc)];exact t0.q ep
end
end Go.Proofs.YtbkjcdocjfknfaaGreatDoor.Con
