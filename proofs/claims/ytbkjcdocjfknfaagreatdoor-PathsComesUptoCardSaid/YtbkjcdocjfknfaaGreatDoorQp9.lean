import Derived.Test.YtbkjcdocjfknfaaGreatDoorQp8
set_option linter.unusedSectionVars false
namespace Go.Proofs.YtbkjcdocjfknfaaGreatDoor.Con
open Go.Value renaming int->O,string->ah,pointer->ai,agg->aj,tuple->ak,bool->ao
open Go.IntKind renaming i64->ae,wrap->av
open Go.Ending renaming returned->aq
open _root_.ByteArray renaming mk->ar
open _root_.Go.Proofs.Tryz renaming prog->au
open Go.Instr renaming buildSlice->aw
open Go renaming World->ay,Value->az,Calls->aB
open Go.Kt renaming Only->aA,SliceF->aD,Cells->aE,OnlyP->aF,Blk->aH
open Go Go.RowKit Go.Kt Go.Kt.V Go.Proofs.YtbkjcdocjfknfaaGreatDoor.Vc
set_option linter.unusedSimpArgs false
set_option linter.unusedVariables false
set_option maxHeartbeats 4000000
def ne(l:aJ):Bool:=!decide (l=[])
def fN(ws:List (aJ)):aJ:=Lib.join (ws.filter ne) [32]
theorem Only.below{w w':ay}(h:Below w.heap.size w w'):aA [] w w':=⟨h.os,h.tape,h.output,h.size,fun k hk _=>h.block k hk⟩
theorem H3{w:ay}{F:aL}:∀{l:List (aJ)} {css:List (aK)},lm kz 1 w F l css->css.flatten=l.map fun x=>ah (T x)
 | [],[],_=>rfl
 | c::l,d::css,h=>by
  obtain⟨⟨_,h1⟩,h2⟩:=h;unfold kz at h1;subst h1;rw[dj,H3 h2];rfl
theorem BK(l:aJ)(w:ay):aB au 230 #[ah (T l)] w fun e w'=>e=aq (ao (decide (l=[])))/\w'=w:=by
 refine ret (ai1 _ _ _ ?_);exact⟨by rw[show ar #[]=T []from rfl,mf],rfl⟩
section
variable {w:ay} {B:Nat} {F:aL} {s:Sl} {ws:List (aJ)}
theorem PR(h:Own kz 1 9 B w F s ws):aB au 245 #[s.v,.func (.func 230) #[] #[]] w fun e w'=>
  ∃i:Int,e=aq (O ae i)/\w'=w/\((i= -1/\ws.filter ne=ws)∨∃n:Nat,i=n/\n<ws.length/\(ws.take (n+1)).filter ne=ws.take n):=by
 refine(ado s ⟨.func (.func 230) #[] #[],rfl⟩ (fun v w'=>∃i:Int,v=O ae i/\w'=w/\((i= -1/\ws.filter ne=ws)∨∃n:Nat,i=n/\n<ws.length/\(ws.take (n+1)).filter ne=ws.take n)) w ?_).mono (by
  rintro e w' ⟨v,rfl,i,rfl,h⟩;exact⟨i,rfl,h⟩)
 have hs:=h.slice dD;have fu:=hs.len;have rl:=hs.big;have mJ:=hs.cap;refine⟨fun nv i w'=>∃n:Nat,n<=ws.length/\i=(n:Int)/\nv=ws.length-n/\(ws.take n).filter ne=ws.take n/\w'=w,ws.length,⟨0,bA _,rfl,rfl,rfl,rfl⟩,?_⟩;rintro nv _ w0 ⟨n,hn,rfl,rfl,jw,rfl⟩;refine⟨fun hc=>?_,fun hc=>?_⟩
 ·have bX:(n:Int)<s.n:=aP hc;obtain⟨ad,x,cs,g1,g2,g3,g4,g5,g6⟩:=hs.get (bE n) bX;rw[aX]at g2;unfold kz at g6;subst g6;have ht:ws.take (n+1)=ws.take n++[x]:=by
   rw[bI,g2];rfl
  refine⟨ad,g1,_,g5,230,[],[],rfl,fF (by kernel_rfl),?_⟩;refine(BK x w0).mono ?_;rintro _ w1 ⟨rfl,rfl⟩;refine⟨_,rfl,fun hb=>⟨_,rfl,rfl,.inr ⟨n,rfl,by omega,?_⟩⟩,fun hb=>⟨ws.length-(n+1),by omega,n+1,by omega,by rw[gD (by omega) (by omega)];rfl,rfl,?_,rfl⟩⟩
  ·have hb:x=[]:=aP hb;rw[ht,fm,jw,hb];simp[ne]
  ·have hb:x≠[]:=aW hb;rw[ht,fm,jw];simp[ne,hb]
 ·have mz:¬(n:Int)<s.n:=aW hc;rw[bC (by omega)]at jw;exact⟨_,rfl,rfl,.inl ⟨rfl,jw⟩⟩
theorem My(h:Own kz 1 9 B w F s ws):aB au 229 #[s.v,.func (.func 230) #[] #[]] w fun e w'=>
  ∃s':Sl,e=aq s'.v/\Own kz 1 9 B w' F s' (ws.filter ne)/\aF (fun k=>B<=k) w w':=by
 refine(adn s ⟨.func (.func 230) #[] #[],rfl⟩ (fun v w'=>∃s':Sl,v=s'.v/\Own kz 1 9 B w' F s' (ws.filter ne)/\aF (fun k=>B<=k) w w') w ?_).mono (by
  rintro e w' ⟨v,rfl,s',rfl,h⟩;exact⟨s',rfl,h⟩)
 have fu:=h.len;have mJ:=h.cap;have rl:=(h.slice dD).big;refine(PR h).mono ?_;rintro _ w0 ⟨i,rfl,rfl,hi⟩;refine⟨i,rfl,fun hc=>?_,fun hc=>?_⟩
 ·rcases hi with⟨_,hf⟩ | ⟨n,rfl,hn,hf⟩
  ·rw[hf];exact⟨s,rfl,h,OnlyP.refl _ _⟩
  ·have:(n:Int)= -1:=eq_of_beq hc;omega
 rcases hi with⟨rfl,_⟩ | ⟨n,rfl,hn,hf⟩
 ·exact absurd hc (by decide)
 refine⟨fun nv a b w'=>∃(L:List (aJ)) (p q:Nat),a=p/\b=q/\p<q/\q<=ws.length/\nv=ws.length-q/\L.length=ws.length/\L.take p=(ws.take q).filter ne/\L.drop q=ws.drop q/\Own kz 1 9 B w' F s L/\aF (fun k=>B<=k) w0 w',
  ws.length-(n+1),⟨ws,n,n+1,rfl,by rw[gD (by omega) (by omega)];rfl,by omega,by omega,rfl,rfl,hf.symm,rfl,h,OnlyP.refl _ _⟩,?_⟩
 rintro nv _ _ w1 ⟨L,p,q,rfl,rfl,hpq,hq,rfl,hL,ht,hd,hO,hP⟩;refine⟨fun hc=>?_,fun hc=>?_⟩
 ·have bX:(q:Int)<s.n:=aP hc;have hq':q<ws.length:=by omega
  obtain⟨ad,x,cs,g1,g2,g3,g4,g5,g6⟩:=(hO.slice dD).get (bE q) bX;rw[aX]at g2;unfold kz at g6;subst g6;have hx:ws[q]? =some x:=by
   rw[<-g2];have e1:=bm (fun l=>l[0]?) hd;simpa using e1.symm
  have hw:ws.take (q+1)=ws.take q++[x]:=by
   rw[bI,hx];rfl
  have hdn:∀M:List (aJ),(∀j,q+1<=j->M[j]? =L[j]?)->M.drop (q+1)=ws.drop (q+1):=fun M hM=>by
   apply jh;intro j;rw[jZ,jZ,hM _ (by omega)];have e1:=bm (fun l=>l[1+j]?) hd;simp only[jZ]at e1;rw[show q+1+j=q+(1+j) by omega];exact e1
  refine⟨fun j w2=>∃(M:List (aJ)) (p':Nat),j=p'/\p'<q+1/\M.length=ws.length/\M.take p'=(ws.take (q+1)).filter ne/\M.drop (q+1)=ws.drop (q+1)/\Own kz 1 9 B w2 F s M/\aF (fun k=>B<=k) w0 w2,?_,ad,g1,_,g5,230,[],[],rfl,fF (by kernel_rfl),?_⟩
  ·rintro _ w2 ⟨M,p',rfl,m1,m2,m3,m4,m5,m6⟩;exact⟨ws.length-(q+1),by omega,M,p',q+1,rfl,by rw[gD (by omega) (by omega)];rfl,m1,hq',rfl,m2,m3,m4,m5,m6⟩
  refine(BK x w1).mono ?_;rintro _ w2 ⟨rfl,rfl⟩;refine⟨_,rfl,fun hb=>?_,fun hb=>?_⟩
  ·have hb:x≠[]:=by simpa using hb
   obtain⟨g,cells,b1,b2,b3,b4,b5⟩:=hO.store dD (n:=p) (by omega) (x:=x) (vs:=[ah (T x)]) (G:=fun _=>False) rfl rfl (fun k hk=>hk.elim) (by decide);refine⟨⟨g,p*1,none⟩,b2,g,p*1,cells,_,rfl,b3,b4,fun w3 dx xy=>⟨L.set p x,p+1,by rw[gD (by omega) (by omega)];rfl,by omega,by rw[ii];exact hL,?_,hdn _ fun j hj=>by rw[Bc (by omega)],b5 w3 dx xy,hP.trans (dx.p (F:=fun k=>B<=k) fun k hk=>.inl ?_) fun k hk=>.inl hk⟩⟩
   ·rw[hw,fm,<-ht,bI,oz (by omega),Eo (by omega)];simp[ne,hb]
   ·simp only[aO]at hk;subst hk;rcases hO with⟨rfl,_⟩ | ⟨g',_,_,a1,a2,_⟩
    ·cases b1
    ·rw[a1]at b1;injection b1 with b1;injection b1 with b1;omega
  ·have hb:x=[]:=by simpa using hb
   refine⟨L,p,rfl,by omega,hL,?_,hdn _ fun j _=>rfl,hO,hP⟩;rw[hw,fm,<-ht,hb];simp[ne]
 ·have mz:¬(q:Int)<s.n:=aW hc;have hqe:q=ws.length:=by omega
  subst hqe;rw[bC (aY _)]at ht;obtain⟨w2,g,c1,c2,c3,c4⟩:=Own.clear (P:=au) (t:=31) (ty:=0) (i:=p) dD (by decide) (by kernel_rfl) (fun w=>Tryz.zeroValue9 w) (by intro v hv;simp[Value.cells]at hv;subst hv;rfl) rfl hO (by omega);refine⟨p,⟨rfl,by omega,mJ⟩,w2,c1,p,⟨rfl,by omega⟩,_,rfl,?_,hP.trans (c3.p (F:=fun k=>B<=k) fun k hk=>.inl ?_) fun k hk=>.inl hk⟩
  ·rw[<-ht];exact c4
  ·simp only[aO]at hk;subst hk;rcases hO with⟨rfl,_⟩ | ⟨g',_,_,a1,a2,_⟩
   ·cases c2
   ·rw[a1]at c2;injection c2 with c2;injection c2 with c2;omega
theorem zK(h:Own kz 1 9 B w F s ws)(hl:(fN ws).length<=140737488355328)(hn:ws.length<=140737488355328):aB au 204 #[s.v] w fun e w'=>e=aq (ah (T (fN ws)))/\aF (fun k=>B<=k) w w':=by
 refine ret (ai0 _ _ _ ?_);refine(My h).mono ?_;rintro _ w1 ⟨s',rfl,hO,hP⟩;refine⟨s',rfl,?_⟩;have fu:=hO.len;have ma:=cQ ne ws;have U9:∀{w2:ay},aA [] w1 w2->aF (fun k=>B<=k) w w2:=fun h=>hP.trans h.p0 fun k hk=>.inl hk;rcases hO with⟨rfl,he⟩ | ⟨g,css,tail,a1,a2,a4,a5,a6,a7,a9,a8⟩
 ·refine(Tryz.strings_Join_none none 0 (T [32]) w1).mono ?_;rintro _ w2 ⟨rfl,rfl⟩;refine⟨_,rfl,?_,hP⟩;unfold fN;rw[he];rfl
 ·obtain⟨sa,sn,sc⟩:=s';dsimp only at a1 a5 a6 a7 a9 fu;subst a1 fu;have LB:=H3 a8;have:=Tryz.strings_Join g 0 sc ((ws.filter ne).map T) (T [32]) w1 (fun j x hj=>by
   rw[bZ,fZ]at hj;obtain⟨y,hy,rfl⟩:=hj;have:=a4.cells 0 ((ws.filter ne).map fun x=>Value.string (T x)) (fun j v hj=>by rw[bM,LB,bJ (aZ.1 hj).1];exact hj) j (ah (T y)) (by rw[bZ,hy];rfl);rw[fV]at this;exact this) a4.lt (by rw[bq];omega) (by rw[bq];omega) (by
   rw[iw];have:((fun x:aM=>x.data.toList)∘T)=id:=rfl;rw[this,Ns];exact hl)
  rw[bq]at this;refine this.mono ?_;rintro _ w2 ⟨rfl,hB⟩;refine⟨_,rfl,?_,U9 (Only.below hB)⟩;rw[iw];have:((fun x:aM=>x.data.toList)∘T)=id:=rfl;rw[this,Ns];rfl
end
theorem BL(w:ay)(ws:List (aJ)){n:Nat}{parts:Array (Nat×az)}(hp:parts=(((ws.map fun x=>Value.string (T x)).zipIdx 0).map fun x=>(x.2,x.1)).toArray)(hn:ws.length=n)(h0:0<n)(A4:n*1<=16777216)(hl:(fN ws).length<=140737488355328):
  ∃(q:Sl) (w0:ay),(aw 31 n parts).run au w=.ok q.v w0/\aA [] w w0/\Own kz 1 9 w.heap.size w0 (fun _=>True) q ws/\aB au 204 #[q.v] w0 fun e w'=>e=aq (ah (T (fN ws)))/\aF (fun k=>w.heap.size<=k) w0 w':=by
 obtain⟨q,w0,k1,k2,k3⟩:=nP w ws hp hn h0 A4;exact⟨q,w0,k1,k3,k2,zK k2 hl (by omega)⟩
theorem iG:∀(ws:List (aJ)),(fN ws).length<=(ws.map fun l=>l.length+1).sum:=by
 have h1:∀(r:List (aJ)),(Lib.joinTail [32] r).length=(r.map fun l=>l.length+1).sum:=fun r=>by
  induction r with
  | nil=>rfl
  | cons x r ih=>
   unfold Lib.joinTail at ih⊢;rw[bF,dj,aU,ih,bF,cy];simp
 have h2:∀(r:List (aJ)),(Lib.join r [32]).length<=(r.map fun l=>l.length+1).sum:=fun r=>by
  cases r with
  | nil=>exact bA _
  | cons x r=>
   rw[Lib.join_cons,aU,h1,bF,cy];omega
 have h3:∀(r:List (aJ)),((r.filter ne).map fun l=>l.length+1).sum<=(r.map fun l=>l.length+1).sum:=fun r=>by
  induction r with
  | nil=>exact aY _
  | cons x r ih=>
   rw[qs,bF,cy];split
   ·rw[bF,cy];omega
   ·omega
 exact fun ws=>bh (h2 _) (h3 ws)
structure Fz (bs:List Nat) (w w':ay) (ks:List Nat):Prop where
 o:aA bs w w'
 k:∀x,x∈ks->w.heap.size<=x/\x<w'.heap.size
 lo:∀x,x∈bs->x<w.heap.size
section
variable {bs bs' ks ks':List Nat} {w w1 w2 w':ay} {k0 b:Nat}
theorem Fz.start(lo:∀x,x∈bs->x<w.heap.size):Fz bs w w []:=⟨Only.refl _ _,fun _ h=>(by cases h),lo⟩
theorem Fz.go(h:Fz bs w w1 ks)(k:aA bs' w1 w2)(hb:∀x,x∈bs'->x∈bs∨x∈ks):Fz bs w w2 ks:=
 ⟨h.o.trans k fun x hx=>(hb x hx).imp id fun hk=>(h.k x hk).1,fun x hx=>⟨(h.k x hx).1,cx (h.k x hx).2 k.size⟩,h.lo⟩
theorem Fz.new(h:Fz bs w w1 ks)(k:aA bs' w1 w2)(hb:∀x,x∈bs'->x∈bs∨w.heap.size<=x):Fz bs w w2 ks:=
 ⟨h.o.trans k hb,fun x hx=>⟨(h.k x hx).1,cx (h.k x hx).2 k.size⟩,h.lo⟩
theorem Fz.q(h:Fz bs w w1 ks)(k:aA [] w1 w2):Fz bs w w2 ks:=h.go k fun x hx=>(by cases hx)
theorem Fz.c(h:Fz (b::bs) w w1 ks)(k:aA [b] w1 w2):Fz (b::bs) w w2 ks:=h.go k fun x hx=>.inl (by simp only[aO]at hx;simp[hx])
theorem Fz.f(h:Fz bs w w1 ks)(k:aA [k0] w1 w2)(hk:k0∈ks):Fz bs w w2 ks:=h.go k fun x hx=>.inr (by simp only[aO]at hx;rw[hx];exact hk)
theorem Fz.al(h:Fz bs w w1 ks)(k:aA [] w1 w2)(h1:w1.heap.size<=k0)(h2:k0<w2.heap.size):Fz bs w w2 (k0::ks):=
 ⟨(h.q k).o,fun x hx=>by
  rcases aR.1 hx with rfl | hx
  ·exact⟨bh h.o.size h1,h2⟩
  ·exact(h.q k).k x hx,h.lo⟩
theorem Fz.sm(h:Fz bs w w1 ks)(k:aA bs' w1 w2)(hk:∀x,x∈ks'->x∈ks)(hb:∀x,x∈bs'->x∈bs∨∀y,y∈ks'->y≠x):ci ks' w1 w2:=k.same fun x hx=>
 ⟨(h.k x (hk x hx)).2,fun hm=>by
  rcases hb x hm with h1 | h1
  ·have:=(h.k x (hk x hx)).1;have:=h.lo x h1;omega
  ·exact h1 x hx rfl⟩
theorem Fz.sq(h:Fz bs w w1 ks)(k:aA [] w1 w2)(hk:∀x,x∈ks'->x∈ks):ci ks' w1 w2:=h.sm k hk fun x hx=>(by cases hx)
theorem Fz.sc(h:Fz (b::bs) w w1 ks)(k:aA [b] w1 w2)(hk:∀x,x∈ks'->x∈ks):ci ks' w1 w2:=h.sm k hk fun x hx=>.inl (by simp only[aO]at hx;simp[hx])
theorem Fz.ne(h:Fz bs w w1 ks)(hk:k0∈ks)(hb:b∈bs):k0≠b:=fun e=>by
 have:=(h.k k0 hk).1;have:=h.lo b hb;omega
end
section
variable {α:Type} {r:Rp α} {w w1 w':ay} {x:α} {cs:aK} {B:Nat}
structure Stay (B:Nat) (w w':ay):Prop where
 sz:w.heap.size<=w'.heap.size
 eq:∀k,B<=k->k<w.heap.size->w'.heap[k]? =w.heap[k]?
theorem Stay.refl(B:Nat)(w:ay):Stay B w w:=⟨aY _,fun _ _ _=>rfl⟩
theorem Stay.go{bs:List Nat}(h:Stay B w w1)(k:aA bs w1 w')(hb:∀x,x∈bs->x<B∨w.heap.size<=x):Stay B w w':=
 ⟨bh h.sz k.size,fun i h1 h2=>(k.block i (cx h2 h.sz) fun hm=>by have:=hb i hm;omega).trans (h.eq i h1 h2)⟩
theorem Stay.of{bs:List Nat}(k:aA bs w w')(hb:∀x,x∈bs->x<B∨w.heap.size<=x):Stay B w w':=(Stay.refl B w).go k hb
theorem _root_.Go.Kt.Rp.Ok.stay(hr:r.Ok)(h:r w (Fr B) x cs)(hs:Stay B w w'):r w' (Fr B) x cs:=
 hr.mono (hr.keep (hr.inHeap h) fun k hk bX=>hs.eq k hk.1 bX) fun k hk=>hk.1
theorem _root_.Go.Kt.Rp.Ok.low(hr:r.Ok)(h:r w (Fr B) x cs){A:Nat}(hA:A<=B):r w (Fr A) x cs:=hr.mono h fun k hk=>bh hA hk
variable {size:Nat} {e:TypeId} {s:Sl} {xs:List α} {t:Bool}
theorem jE.stay(hr:r.Ok)(h:jE t r size e w (Fr B) s xs)(h0:0<size)(hs:Stay B w w'):jE t r size e w' (Fr B) s xs:=
 ((h.inHeap hr h0).keep hr h0 fun k hk bX=>hs.eq k hk.1 bX).mono hr fun k hk=>hk.1
theorem jE.low(hr:r.Ok)(h:jE t r size e w (Fr B) s xs){A:Nat}(hA:A<=B):jE t r size e w (Fr A) s xs:=h.mono hr fun k hk=>bh hA hk
end
abbrev V5(l:Sl)(s:Sx):aK:=[l.v,O ae (s.i:Int),O ae s.fc,O ae s.fa,O ae s.v,O ae s.n,O ae s.d,O ae s.m,O ae s.a]
structure Sr (F:aL) (ts:List Tk) (w:ay) (b:Nat) (l:Sl) (s:Sx):Prop where
 blk:aH w b 186 (V5 l s)
 tok:aD JF 4 w F l ts
 hF:∀k,F k->k<b
 en:wa ts
 lt:s.i<ts.length
 sm:ts.length<=16777216
abbrev rp(b:Nat):az:=ai (some ⟨b,0,none⟩)
section
variable {F:aL} {ts:List Tk} {w w':ay} {b:Nat} {l:Sl} {s s':Sx}
theorem Sr.own(h:Sr F ts w b l s){bs:List Nat}(hO:aA bs w w')(hb:∀x,x∈bs->b<x):Sr F ts w' b l s:=
 ⟨hO.blk h.blk fun hm=>(by have:=hb b hm;omega),SliceF.only ju (by decide) h.tok hO fun k hk _ hm=>(by have:=h.hF k hk;have:=hb k hm;omega),h.hF,h.en,h.lt,h.sm⟩
theorem Sr.far(h:Sr F ts w b l s){bs:List Nat}(hO:aA bs w w')(hb:∀x,x∈bs->x≠b/\¬F x):Sr F ts w' b l s:=
 ⟨hO.blk h.blk fun hm=>(hb b hm).1 rfl,SliceF.only ju (by decide) h.tok hO fun k hk _ hm=>(hb k hm).2 hk,h.hF,h.en,h.lt,h.sm⟩
theorem Sr.Za(h:Sr F ts w b l s){k0:Nat}(hO:aA [k0] w w')(hk:k0≠b/\¬F k0):Sr F ts w' b l s:=h.far hO fun x hx=>(by simp only[aO]at hx;subst hx;exact hk)
theorem Sr.gt(h:Sr F ts w b l s){x:Nat}(hx:b<x):x≠b/\¬F x:=⟨by omega,fun hF=>by have:=h.hF x hF;omega⟩
theorem Sr.only(h:Sr F ts w b l s)(hO:aA [] w w'):Sr F ts w' b l s:=h.own hO fun x hx=>(by cases hx)
theorem Sr.one(h:Sr F ts w b l s){k0:Nat}(hO:aA [k0] w w')(hk:b<k0):Sr F ts w' b l s:=h.own hO fun x hx=>(by simp only[aO]at hx;omega)
theorem Sr.nu(h:Sr F ts w b l s)(hO:aA [b] w w')(hB:aH w' b 186 (V5 l s'))(hi:s'.i<ts.length):Sr F ts w' b l s':=
 ⟨hB,SliceF.only ju (by decide) h.tok hO fun k hk _ hm=>(by have:=h.hF k hk;simp only[aO]at hm;omega),h.hF,h.en,hi,h.sm⟩
theorem Sr.lb(h:Sr F ts w b l s):b<w.heap.size:=h.blk.lt
theorem Sr.z(h:Sr F ts w b l s):Fz [b] w w []:=Fz.start fun x hx=>(by simp only[aO]at hx;rw[hx];exact h.lb)
theorem Sr.big(h:Sr F ts w b l s):ts.length<=9223372036854775807:=by
 have h1:=h.tok.len;have h2:=h.tok.cap;have h3:=h.tok.big;omega
theorem Sr.wr(h:Sr F ts w b l s):av ae ((s.i:Int)+1)=((s.i+1:Nat):Int):=by
 have:=h.big;have:=h.lt;rw[gD (by omega) (by omega)];rfl
theorem Sr.now(h:Sr F ts w b l s):∃ad,dL l (s.i:Int) 4 ad/\aE w ad [O ae (tk ts s.i).k,ah (T (tk ts s.i).t),O ae (tk ts s.i).n,O ae (tk ts s.i).a]:=by
 have hl:=h.tok.len;have bX:=h.lt;obtain⟨ad,x,cs,g1,g2,g3,g4,g5,g6⟩:=h.tok.get (bE s.i) (by omega);rw[aX,JK h.lt]at g2;injection g2 with g2;subst g2;unfold JF at g6;subst g6;exact⟨ad,g1,g5⟩
structure Dn (F:aL) (ts:List Tk) (w w':ay) (b:Nat) (l:Sl) (s:Sx):Prop where
 o:aA [b] w w'
 r:Sr F ts w' b l s
theorem Sr.dn(h:Sr F ts w b l s):Dn F ts w w b l s:=⟨Only.refl _ _,h⟩
theorem Dn.q(h:Dn F ts w w' b l s){w2:ay}(k:aA [] w' w2):Dn F ts w w2 b l s:=⟨h.o.cz k,h.r.only k⟩
theorem Dn.nx(h:Dn F ts w w' b l s){w2:ay}{s':Sx}(k:Dn F ts w' w2 b l s'):Dn F ts w w2 b l s':=⟨h.o.trans k.o fun x hx=>.inl hx,k.r⟩
theorem Dn.f(h:Dn F ts w w' b l s){w2:ay}{k0:Nat}(k:aA [k0] w' w2)(hk:w.heap.size<=k0)(hb:b<w.heap.size):Dn F ts w w2 b l s:=⟨h.o.new k hk,h.r.one k (by omega)⟩
theorem Sr.tk(h:Sr F ts w b l s){ad:Addr}(g:dL l (s.i:Int) 4 ad):aE w ad [O ae (tk ts s.i).k,ah (T (tk ts s.i).t),O ae (tk ts s.i).n,O ae (tk ts s.i).a]:=by
 obtain⟨M4,g1,g2⟩:=h.now;rw[g.akC g1];exact g2
structure Zt (F:aL) (ts:List Tk) (w w':ay) (b:Nat) (l:Sl) (s:Sx) (ks:List Nat):Prop where
 z:Fz [b] w w' ks
 r:Sr F ts w' b l s
section
variable {w2:ay} {ks ks':List Nat} {k0:Nat}
theorem Sr.zt(h:Sr F ts w b l s):Zt F ts w w b l s []:=⟨h.z,h⟩
theorem Zt.q(h:Zt F ts w w' b l s ks)(k:aA [] w' w2):Zt F ts w w2 b l s ks:=⟨h.z.q k,h.r.only k⟩
theorem Zt.al(h:Zt F ts w w' b l s ks)(k:aA [] w' w2)(h1:w'.heap.size<=k0)(h2:k0<w2.heap.size):Zt F ts w w2 b l s (k0::ks):=⟨h.z.al k h1 h2,h.r.only k⟩
theorem Zt.ad(h:Zt F ts w w' b l s ks)(h1:w.heap.size<=k0)(h2:k0<w'.heap.size):Zt F ts w w' b l s (k0::ks):=⟨⟨h.z.o,fun x hx=>by
 rcases aR.1 hx with rfl | hx
 ·exact⟨h1,h2⟩
 ·exact h.z.k x hx,h.z.lo⟩,h.r⟩
theorem Zt.lt(h:Zt F ts w w' b l s ks)(hk:k0∈ks):b<k0:=cx (h.z.lo b (by simp)) (h.z.k k0 hk).1
theorem Zt.f(h:Zt F ts w w' b l s ks)(k:aA [k0] w' w2)(hk:k0∈ks):Zt F ts w w2 b l s ks:=⟨h.z.f k hk,h.r.one k (h.lt hk)⟩
theorem Zt.nx(h:Zt F ts w w' b l s ks)(k:Dn F ts w' w2 b l s'):Zt F ts w w2 b l s' ks:=⟨h.z.c k.o,k.r⟩
theorem Zt.dn(h:Zt F ts w w' b l s ks):Dn F ts w w' b l s:=⟨h.z.o,h.r⟩
theorem Zt.up(h:Zt F ts w w' b l s ks)(k:aA [b] w' w2)(hB:aH w2 b 186 (V5 l s'))(hi:s'.i<ts.length):Zt F ts w w2 b l s' ks:=⟨h.z.c k,h.r.nu k hB hi⟩
theorem Zt.sq(h:Zt F ts w w' b l s ks)(k:aA [] w' w2)(hk:∀x,x∈ks'->x∈ks):ci ks' w' w2:=h.z.sq k hk
theorem Zt.sc(h:Zt F ts w w' b l s ks)(k:Dn F ts w' w2 b l s')(hk:∀x,x∈ks'->x∈ks):ci ks' w' w2:=h.z.sc k.o hk
theorem Zt.row{gs:List Nat}(h:Zt F ts w w' b l s ks)(k:aA gs w' w2)(hg:∀x,x∈gs->w.heap.size<=x):Zt F ts w w2 b l s ks:=⟨h.z.new k fun x hx=>.inr (hg x hx),h.r.own k fun x hx=>cx (h.z.lo b (by simp)) (hg x hx)⟩
theorem Zt.sr{gs:List Nat}(h:Zt F ts w w' b l s ks)(k:aA gs w' w2)(hk:∀x,x∈ks'->x∈ks)(hg:∀x,x∈gs->∀y,y∈ks'->y<x):ci ks' w' w2:=h.z.sm k hk fun x hx=>.inr fun y hy e=>by have:=hg x hx y hy;omega
theorem Zt.ne(h:Zt F ts w w' b l s ks)(hk:k0∈ks):k0≠b:=h.z.ne hk (by simp)
theorem Stay.q{B:Nat}(h:Stay B w w')(k:aA [] w' w2):Stay B w w2:=h.go k fun x hx=>(by cases hx)
theorem Stay.d{B:Nat}(h:Stay B w w')(k:Dn F ts w' w2 b l s')(hb:b<B):Stay B w w2:=h.go k.o fun x hx=>.inl (by simp only[aO]at hx;omega)
theorem Stay.f{B:Nat}(h:Stay B w w')(k:aA [k0] w' w2)(hk:k0<B∨w.heap.size<=k0):Stay B w w2:=h.go k fun x hx=>(by simp only[aO]at hx;subst hx;exact hk)
end
theorem lY(h:Sr F ts w b l s):aB au 119 #[rp b] w fun e w'=>e=aq (ao (s.fc==0))/\aA [] w w':=by
 refine ret (acV _ _ _ ?_);exact⟨s.fc,Blk.dZ h.blk 2 rfl,rfl,Only.refl _ _⟩
theorem ym(h:Sr F ts w b l s)(c:Int):aB au 157 #[rp b,O ae c] w fun e w'=>e=aq (ak #[])/\Dn F ts w w' b l (gR ts s c):=by
 refine ret (acY _ _ _ _ ?_);refine(lY h).mono ?_;rintro _ w0 ⟨rfl,cK⟩;refine⟨_,rfl,fun hc w1 cF=>?_,fun hc=>?_⟩
 ·have hc:s.fc=0:=by simpa using hc
  have h1:=h.only (cK.cz cF);obtain⟨ad,g1,g2⟩:=h1.now;refine⟨l,Blk.dZ h1.blk 0 rfl,_,Blk.dZ h1.blk 1 rfl,ad,g1,_,g2.dZ 3 _ rfl,b,2,_,_,rfl,h1.blk,by simp,fun w2 dh re=>⟨rfl,((cK.cz cF).weaken (bs':=[b]) fun _ h=>(by cases h)).trans dh fun x hx=>.inl hx,?_⟩⟩;unfold gR;rw[if_pos hc];exact h1.nu (s':={s with fc:=c,fa:=(tk ts s.i).a}) dh re h.lt
 ·have hc:s.fc≠0:=by simpa using hc
  unfold gR;rw[if_neg hc];exact⟨rfl,h.dn.q cK⟩
theorem rX(h:Sr F ts w b l s):aB au 120 #[rp b] w fun e w'=>e=aq (ak #[])/\Dn F ts w w' b l (ki ts s):=by
 refine ret (acX _ _ _ ?_);obtain⟨ad,g1,g2⟩:=h.now;refine⟨fun w'=>Dn F ts w w' b l (if(tk ts s.i).k=5 then gR ts s 3 else s),fun w0 h0=>(ym h0.r 4).mono ?_,l,Blk.dZ h.blk 0 rfl,_,Blk.dZ h.blk 1 rfl,ad,g1,_,g2.dZ 0 _ rfl,fun hc w2 dh=>?_,fun hc w2 dh=>?_⟩
 ·rintro _ w1 ⟨rfl,h1⟩;refine⟨rfl,rfl,h0.nx ?_⟩;unfold ki;split at h1
  ·rename_i e;rw[if_pos e];exact h1
  ·rename_i e;rw[if_neg e];exact h1
 ·refine(ym (h.only dh) 3).mono ?_;rintro _ w3 ⟨rfl,h3⟩;have hc:(tk ts s.i).k=5:=by simpa using hc
  refine⟨rfl,?_⟩;rw[if_pos hc];exact(h.dn.q dh).nx h3
 ·have hc:¬(tk ts s.i).k=5:=by simpa using hc
  rw[if_neg hc];exact h.dn.q dh
theorem adM{s:Sl}{w:ay}{G:aL}{l:List (aJ)}(h:aD kz 1 w G s l)(c:aJ):
  aB au 197 #[Sl.v s,ah (T c)] w fun r w'=>r=aq (O ae (if rQ c l<l.length then(rQ c l:Int)else -1))/\w'=w:=by
 refine ret (VN _ _ _ _ ?_);have fu:=h.len;have rl:=h.big;have mJ:=h.cap;refine⟨fun nv i w'=>∃n:Nat,n<=l.length/\i=(n:Int)/\nv=l.length-n/\rQ c l=n+rQ c (l.drop n)/\w'=w,l.length,⟨0,bA _,rfl,rfl,by rw[fY,bM],rfl⟩,?_⟩;rintro nv _ _ ⟨n,hn,rfl,rfl,hp,rfl⟩;refine⟨fun hc=>?_,fun hc=>?_⟩
 ·have bX:(n:Int)<s.n:=aP hc;obtain⟨ad,x,cs,g1,g2,g3,g4,g5,g6⟩:=h.get (bE n) bX;rw[aX]at g2;unfold kz at g6;subst g6;have hd:l.drop n=x::l.drop (n+1):=by rw[gx (aZ.1 g2).1,(aZ.1 g2).2]
  rw[hd,rQ]at hp;refine⟨ad,g1,_,g5,?_⟩;dsimp only;rw[mf];refine⟨fun he=>⟨?_,rfl⟩,fun he=>⟨l.length-(n+1),by omega,n+1,by omega,by rw[gD (by omega) (by omega)];rfl,rfl,?_,rfl⟩⟩
  ·have he:c=x:=aP he;rw[if_pos he]at hp;rw[if_pos (by omega),hp,fx]
  ·have he:c≠x:=aW he;rw[if_neg he]at hp;omega
 ·have mz:¬((n:Int)<s.n):=aW hc;rw[j5 (by omega),rQ]at hp;rw[if_neg (by omega)];exact⟨rfl,rfl⟩
theorem zL(h:Sr F ts w b l s){G:aL}{q:Sl}{ss:List (aJ)}(hs:aD kz 1 w G q ss):aB au 159 #[rp b,q.v] w fun e w'=>e=aq (O ae (cT ts s ss:Nat))/\aA [] w w':=by
 refine ret (acU _ _ _ _ ?_);intro w0 cK;have h0:=h.only cK;obtain⟨ad,g1,g2⟩:=h0.now;refine⟨fun _=>True,trivial,l,Blk.dZ h0.blk 0 rfl,trivial,_,Blk.dZ h0.blk 1 rfl,ad,g1,trivial,_,_,_,_,g2,fun k0 w1 hk iv cF=>?_⟩;have jp:=cK.cz cF;refine(lY (h0.only cF)).mono ?_;rintro _ w2 ⟨rfl,dh⟩;have pf:=jp.cz dh;have NX:((!(s.fc==0))||(((tk ts s.i).k !=2)&&((tk ts s.i).k !=4)))=decide (s.fc≠0∨((tk ts s.i).k≠2/\(tk ts s.i).k≠4)):=by
  rw[bT];simp
 refine⟨_,rfl,dh.same (by simp;omega),?_⟩;dsimp only;rw[NX];refine⟨fun hc=>?_,fun hc=>?_⟩
 ·unfold cT;rw[if_pos (aP hc)];exact⟨rfl,pf⟩
 ·refine(adM (SliceF.only dD (by decide) hs pf (by simp)) (tk ts s.i).t).mono ?_;rintro _ w3 ⟨rfl,rfl⟩;refine⟨_,rfl,ci.refl _ _,?_,pf⟩;unfold cT;rw[if_neg (aW hc)];have hl:=hs.len;have hb:=hs.big;have hcp:=hs.cap;split
  ·rw[gD (by omega) (by omega)];rfl
  ·rfl
theorem Ks(h:Sr F ts w b l s)(ss:List (aJ)){n:Nat}{parts:Array (Nat×az)}(hp:parts=(((ss.map fun x=>Value.string (T x)).zipIdx 0).map fun x=>(x.2,x.1)).toArray)(hn:ss.length=n)(h0:0<n)(A4:n*1<=16777216):
  ∃(q:Sl) (w0:ay),(aw 31 n parts).run au w=.ok q.v w0/\aA [] w w0/\aB au 159 #[rp b,q.v] w0 fun e w'=>e=aq (O ae (cT ts s ss:Nat))/\aA [] w0 w':=by
 obtain⟨q,w0,k1,k2,k3⟩:=nP w ss hp hn h0 A4;exact⟨q,w0,k1,k3,zL (h.only k3) (uT k2)⟩
theorem TX(h:Sr F ts w b l s){G:aL}{q:Sl}{ss:List (aJ)}(hs:aD kz 1 w G q ss):aB au 116 #[rp b,q.v] w fun e w'=>e=aq (O ae (cT ts s ss:Nat))/\Dn F ts w w' b l (if cT ts s ss=0 then s else dA s):=by
 refine ret (acS _ _ _ _ ?_);refine(zL h hs).mono ?_;rintro _ w0 ⟨rfl,cK⟩;have h0:=h.only cK;refine⟨_,rfl,fun w'=>Dn F ts w w' b l (if cT ts s ss=0 then s else dA s),fun w1 h1=>⟨rfl,h1⟩,fun hc=>?_,fun hc=>?_⟩
 ·have hc:cT ts s ss≠0:=by have:=aP hc;omega
  refine⟨_,Blk.dZ h0.blk 1 rfl,b,1,_,_,rfl,h0.blk,by simp,fun w2 dh re=>?_⟩;rw[if_neg hc];rw[h.wr]at re;exact⟨(cK.weaken (bs':=[b]) fun _ h=>(by cases h)).trans dh fun x hx=>.inl hx,h0.nu (s':=dA s) dh re (h.en.next h.lt (dl hc).2)⟩
 ·have hc:cT ts s ss=0:=by have:=aW hc;omega
  rw[if_pos hc];exact h.dn.q cK
theorem BM(h:Sr F ts w b l s)(ss:List (aJ)){n:Nat}{parts:Array (Nat×az)}(hp:parts=(((ss.map fun x=>Value.string (T x)).zipIdx 0).map fun x=>(x.2,x.1)).toArray)(hn:ss.length=n)(h0:0<n)(A4:n*1<=16777216):
  ∃(q:Sl) (w0:ay),(aw 31 n parts).run au w=.ok q.v w0/\aA [] w w0/\aB au 116 #[rp b,q.v] w0 fun e w'=>e=aq (O ae (cT ts s ss:Nat))/\Dn F ts w0 w' b l (if cT ts s ss=0 then s else dA s):=by
 obtain⟨q,w0,k1,k2,k3⟩:=nP w ss hp hn h0 A4;exact⟨q,w0,k1,k3,TX (h.only k3) (uT k2)⟩
theorem Ku(h:Sr F ts w b l s){G:aL}{q:Sl}{x:aJ}(hs:aD kz 1 w G q [x])(hG:∀k,G k->k≠b):aB au 114 #[rp b,q.v] w fun e w'=>e=aq (ak #[])/\Dn F ts w w' b l (eB ts s x):=by
 refine ret (acR _ _ _ _ ?_);have hn:q.n=1:=hs.len;refine⟨fun nv i w'=>(i=0/\nv=1/\w'=w)∨(i=1/\nv=0/\Dn F ts w w' b l (eB ts s x)),1,.inl ⟨rfl,rfl,rfl⟩,?_⟩;rintro nv i w0 (⟨rfl,rfl,rfl⟩ | ⟨rfl,rfl,hD⟩)
 ·refine⟨fun _=>?_,fun hc=>absurd (aW hc) (by omega)⟩;refine⟨fun w'=>Dn F ts w0 w' b l (eB ts s x),fun w1 h1=>⟨0,by decide,.inr ⟨rfl,rfl,h1⟩⟩,?_⟩;obtain⟨ad,y,cs,g1,g2,g3,g4,g5,g6⟩:=hs.get (i:=0) (by decide) (by omega);simp only[Int.toNat_zero,cE,ba]at g2;subst g2;unfold kz at g6;subst g6;obtain⟨q0,w2,k1,k2,k3⟩:=BM h [x] (n:=1) (parts:=#[(0,ah (T x))]) rfl rfl (by decide) (by decide);refine⟨ad,g1,_,g5,q0,w2,k1,k3.mono ?_⟩;rintro _ w3 ⟨rfl,h3⟩;have h03:=(h.dn.q k2).nx h3;refine⟨_,rfl,fun hc=>?_,fun hc=>?_⟩
  ·have hc:cT ts s [x]=0:=by have:((cT ts s [x]:Nat):Int)=0:=(by simpa using hc);omega
   rw[if_pos hc]at h03;refine(rX h03.r).mono ?_;rintro _ w4 ⟨rfl,h4⟩;refine⟨rfl,?_⟩;unfold eB;rw[if_pos hc];exact h03.nx h4
  ·have hc:cT ts s [x]≠0:=fun e=>by rw[e]at hc;simp at hc
   rw[if_neg hc]at h03;unfold eB;rw[if_neg hc];exact h03
 ·exact⟨fun hc=>absurd (aP hc) (by omega),fun _=>⟨rfl,hD⟩⟩
theorem pW(h:Sr F ts w b l s)(x:aJ):∃(q:Sl) (w0:ay),(aw 31 1 #[.mk 0 (ah (T x))]).run au w=.ok q.v w0/\aA [] w w0/\aB au 114 #[rp b,q.v] w0 fun e w'=>e=aq (ak #[])/\Dn F ts w0 w' b l (eB ts s x):=by
 obtain⟨q,w0,k1,k2,k3⟩:=nP w [x] (n:=1) (parts:=#[(0,ah (T x))]) rfl rfl (by decide) (by decide);exact⟨q,w0,k1,k3,Ku (h.only k3) (uT k2) fun k hk e=>(by have:=hk.1;have:=h.lb;omega)⟩
theorem u6(h:Sr F ts w b l s){k:Int}(Cp:k≠5):aB au 158 #[rp b,O ae k] w fun e w'=>e=aq (gK ts s k).1.v/\Dn F ts w w' b l (gK ts s k).2:=by
 refine ret (ac1 _ _ _ _ ?_);intro k0 w0 hk iv cK;have z0:=h.z.al cK hk iv;have h0:=h.only cK;obtain⟨ad,g1,g2⟩:=h0.now;refine⟨fun _=>True,trivial,l,Blk.dZ h0.blk 0 rfl,trivial,_,Blk.dZ h0.blk 1 rfl,ad,g1,trivial,_,_,_,_,g2,fun k1 w1 ke jH cF=>?_⟩;have z1:=z0.al cF ke jH;refine(lY (h0.only cF)).mono ?_;rintro _ w2 ⟨rfl,dh⟩;have z2:=z1.q dh;have hl:=h.lb;have d2:Dn F ts w w2 b l s:=h.dn.q ((cK.cz cF).cz dh);have NX:((!(s.fc==0))||((tk ts s.i).k !=k))=decide (s.fc≠0∨(tk ts s.i).k≠k):=by
  rw[bT];simp
 refine⟨_,rfl,z1.sq dh (by simp),?_⟩;dsimp only;rw[NX];refine⟨fun hc=>(rX d2.r).mono ?_,fun hc=>?_⟩
 ·rintro _ w3 ⟨rfl,h3⟩;refine⟨rfl,z2.sc h3.o (by simp),fun w4 dP=>?_⟩;unfold gK;rw[if_pos (aP hc)];exact⟨rfl,(d2.nx h3).f dP hk hl⟩
 ·refine⟨_,Blk.dZ d2.r.blk 1 rfl,b,1,_,_,rfl,d2.r.blk,by simp,z2.ne (by simp) (by simp),z2.ne (by simp) (by simp),fun w5 eE wL w6 ez=>?_⟩;have hc:=aW hc;unfold gK;rw[if_neg hc];simp only[not_or,uB]at hc;rw[h.wr]at wL;have d5:Dn F ts w w5 b l (dA s):=⟨d2.o.trans eE fun x hx=>.inl hx,d2.r.nu eE wL (h.en.next h.lt (by rw[hc.2];exact Cp))⟩
  exact⟨rfl,d5.f ez hk hl⟩
theorem u7(h:Sr F ts w b l s):aB au 199 #[rp b] w fun e w'=>e=aq (ah (T (iK ts s).1))/\Dn F ts w w' b l (iK ts s).2:=by
 refine ret (ac6 _ _ _ ?_);refine(u6 h (k:=1) (by decide)).mono ?_;rintro _ w0 ⟨rfl,h0⟩;exact⟨_,_,_,_,rfl,rfl,h0⟩
theorem _root_.Go.Kt.Blk.ND{w:ay}{b:Nat}{t:TypeId}{cs:aK}{v:az}(h:aH w b t cs)(j:Nat)(hx:cs[j]? =some v):aE w ⟨b,j,none⟩ [v]:=by
 have:=Blk.dZ h j hx;rwa[fV,bM]at this
theorem DD(h:Sr F ts w b l s)(j:Nat)(x:Int)(c:Int)(u:Sx)(hx:(V5 l s)[j]? =some (.int ae x))(AA:(V5 l (gR ts s c))[j]? =some (.int ae x))(hui:u.i=s.i)
  (hu:V5 l u=cD (V5 l (if x=0 then gR ts s c else s)) j [O ae (xH x)]):aB au 156 #[rp b,ai (some ⟨b,j,none⟩),O ae c] w fun e w'=>e=aq (ak #[])/\Dn F ts w w' b l u:=by
 refine ret (ac0 _ _ _ _ _ ?_);have hj:j+1<=9:=(aZ.1 hx).1;refine⟨fun w'=>Dn F ts w w' b l (if x=0 then gR ts s c else s),fun w0 h0=>?_,_,rfl,x,Blk.ND h.blk j hx,fun hc=>?_,fun hc=>?_⟩
 ·refine⟨_,rfl,x,Blk.ND h0.r.blk j (by split<;>assumption),_,rfl,b,j,_,_,rfl,h0.r.blk,hj,fun w1 cF vJ=>⟨rfl,h0.o.trans cF fun x hx=>.inl hx,h0.r.nu cF (s':=u) ?_ (by rw[hui];exact h.lt)⟩⟩;rw[hu];exact vJ
 ·refine(ym h c).mono ?_;rintro _ w2 ⟨rfl,h2⟩;have hc:x=0:=by simpa using hc
  rw[if_pos hc];exact⟨rfl,h2⟩
 ·have hc:¬x=0:=by simpa using hc
  rw[if_neg hc];exact h.dn
theorem Yf(h:Sr F ts w b l s):aB au 156 #[rp b,ai (some ⟨b,8,none⟩),O ae 2] w fun e w'=>e=aq (ak #[])/\Dn F ts w w' b l (ue ts s):=
 DD h 8 s.a 2 _ rfl (by unfold gR;split<;>rfl) (Dp s) (by unfold ue gR;split<;>(try split)<;>rfl)
theorem Yg(h:Sr F ts w b l s):aB au 156 #[rp b,ai (some ⟨b,7,none⟩),O ae 2] w fun e w'=>e=aq (ak #[])/\Dn F ts w w' b l (rR ts s):=
 DD h 7 s.m 2 _ rfl (by unfold gR;split<;>rfl) (Dr s) (by unfold rR gR;split<;>(try split)<;>rfl)
theorem Yh(h:Sr F ts w b l s):aB au 156 #[rp b,ai (some ⟨b,5,none⟩),O ae 2] w fun e w'=>e=aq (ak #[])/\Dn F ts w w' b l (FH ts s):=
 DD h 5 s.n 2 _ rfl (by unfold gR;split<;>rfl) (by unfold FH;split;exact Di 2;rfl) (by unfold FH gR;split<;>(try split)<;>rfl)
theorem Yi(h:Sr F ts w b l s):aB au 156 #[rp b,ai (some ⟨b,4,none⟩),O ae 2] w fun e w'=>e=aq (ak #[])/\Dn F ts w w' b l (FI ts s):=
 DD h 4 s.v 2 _ rfl (by unfold gR;split<;>rfl) (by unfold FI;split;exact Di 2;rfl) (by unfold FI gR;split<;>(try split)<;>rfl)
theorem Kv(h:Sr F ts w b l s):aB au 221 #[rp b] w fun e w'=>∃cs,e=aq (aj cs.toArray)/\rE true w' (Fr w.heap.size) (pN ts s).1 cs/\Dn F ts w w' b l (pN ts s).2:=by
 refine(ac7 ⟨b,0,none⟩ (fun v w'=>∃cs,v=(aj cs.toArray)/\rE true w' (Fr w.heap.size) (pN ts s).1 cs/\Dn F ts w w' b l (pN ts s).2) w ?_).mono (by
  rintro e w' ⟨v,rfl,cs,rfl,h⟩;exact⟨cs,rfl,h⟩)
 intro k0 w0 hk iv cK;have hl:=h.lb;have z0:=h.z.al cK hk iv;refine(lY (h.only cK)).mono ?_;rintro _ w1 ⟨rfl,cF⟩;have z1:=z0.q cF;have d1:Dn F ts w w1 b l s:=h.dn.q (cK.cz cF);refine⟨_,rfl,z0.sq cF (by simp),fun hc w2 dh=>?_,fun hc w3 dx=>?_⟩
 ·have hc:s.fc≠0:=by simpa using hc
  unfold pN;rw[if_pos hc];exact⟨_,rfl,rE0 _ _ _,d1.f dh hk hl⟩
 ·have hc:¬s.fc≠0:=by simpa using hc
  have z3:=z1.q dx;have d3:=d1.q dx;refine⟨fun k=>k=b,fun w4 dP=>⟨rfl,l,Blk.dZ (d3.q dP).r.blk 0 rfl,fun w5 eE=>⟨rfl,_,Blk.dZ ((d3.q dP).q eE).r.blk 1 rfl,fun w6 ez=>?_⟩⟩⟩;have z6:=((z3.q dP).q eE).q ez;have d6:=((d3.q dP).q eE).q ez;have hb6:=d6.r.big;have bX:=h.lt;refine(JP d6.r.tok (s.i:Int) ⟨by omega,by omega⟩).mono ?_;rintro _ w7 ⟨cs,rfl,hX,hj,fI⟩;have z7:=z6.q fI;have d7:=d6.q fI;obtain⟨sl,pe,_⟩:=hX.cells;have hsz:w3.heap.size<=w6.heap.size:=((dP.cz eE).cz ez).size;refine⟨_,_,_,_,sl,_,_,_,_,by rw[pe],z6.sq fI (by simp),mR.Lq fI,bS.only fI,fun w8 gn k1 ke jH SA=>?_⟩;obtain⟨d,hX⟩:=hX.xg;have hx7:rE true w7 (fun k=>w6.heap.size<=k/\k<w7.heap.size) (dC ts s.i).1 cs:=⟨d,hX⟩
  have asN:w.heap.size<=k1:=bh z3.o.size ke;have asO:b<k1:=by omega
  have d8:=d7.q gn;have zz6:=z6.o.size;have zz0:=z0.k k0 (by simp);have zw0:=((cF.cz dx).cz ((dP.cz eE).cz ez)).size;have hx8:∀{bs:List Nat} {w9:ay},aA bs w8 w9->(∀x,x∈bs->x=k1∨x=k0∨x=b)->rE true w9 (Fr w.heap.size) (dC ts s.i).1 cs:=fun gv hb9=>
   (iV true).mono ((iV true).keep hx7 fun k LO bX=>(gv.block k (cx bX gn.size) fun hm=>by
    rcases hb9 k hm with rfl | rfl | rfl
    ·have:=SA.one;omega
    ·omega
    ·omega).trans (gn.block k bX (by simp))) fun k LO=>by have:=LO.1;show w.heap.size<=k;omega
  unfold pN;rw[if_neg hc];refine⟨fun h1 w9 gv=>?_,fun h1 fg fj=>?_⟩
  ·have h1:(dC ts s.i).2.2.1≠0:=by simpa using h1
   have d9:Dn F ts w w9 b l s:=⟨d8.o.trans gv fun x hx=>.inr (by simp only[aR,bf,bU]at hx;omega),d8.r.own gv fun x hx=>(by simp only[aR,bf,bU]at hx;omega)⟩
   refine⟨b,2,_,_,rfl,d9.r.blk,by simp,by omega,by omega,fun dI eH tE dJ dT=>?_⟩;rw[if_pos h1];have d10:Dn F ts w dI b l {s with fc:=(dC ts s.i).2.2.1,fa:=(dC ts s.i).2.2.2}:=⟨d9.o.trans eH fun x hx=>.inl hx,d9.r.nu eH tE h.lt⟩
   refine⟨cs,by rw[pe],?_,d10.f dT hk hl⟩;exact hx8 (bs:=[k1,k0,b]) (((gv.weaken (bs':=[k1,k0,b]) fun x hx=>.inl (by simp only[aR,bf,bU]at hx⊢;omega)).trans eH fun x hx=>.inl (by simp only[aO]at hx;simp[hx])).trans dT fun x hx=>.inl (by simp only[aO]at hx;simp[hx])) (by simp)
  ·have h1:¬(dC ts s.i).2.2.1≠0:=by simpa using h1
   have d12:Dn F ts w fg b l s:=⟨d8.o.trans fj fun x hx=>.inr (by simp only[aR,bf,bU]at hx;omega),d8.r.own fj fun x hx=>(by simp only[aR,bf,bU]at hx;omega)⟩
   obtain⟨hj0,NG⟩:=hj (by simpa using h1);have ej:((dC ts s.i).2.1.toNat:Int)=(dC ts s.i).2.1:=iq hj0;refine⟨b,1,_,_,rfl,d12.r.blk,by simp,by omega,by omega,fun fC eS Ay fT dU=>?_⟩;rw[if_neg h1];have d13:Dn F ts w fC b l {s with i:=(dC ts s.i).2.1.toNat}:=⟨d12.o.trans eS fun x hx=>.inl hx,d12.r.nu eS (by dsimp only[V5];rw[ej];exact Ay) (by dsimp only;omega)⟩
   refine⟨cs,by rw[pe],?_,d13.f dU hk hl⟩;exact hx8 (bs:=[k1,k0,b]) (((fj.weaken (bs':=[k1,k0,b]) fun x hx=>.inl (by simp only[aR,bf,bU]at hx⊢;omega)).trans eS fun x hx=>.inl (by simp only[aO]at hx;simp[hx])).trans dU fun x hx=>.inl (by simp only[aO]at hx;simp[hx])) (by simp)
end
theorem adN{n:Nat}(h:((n:Int)==0)=true):n=0:=by simpa using h
theorem adO{n:Nat}(h:((n:Int)==0)=false):n≠0:=fun e=>by rw[e]at h;simp at h
theorem Mz{n:Nat}(h:decide ((n:Int)>0)=false):n=0:=by have:=aW h;omega
theorem MA{n:Nat}(h:decide ((n:Int)>0)=true):n≠0:=by have:=aP h;omega
section
variable {F:aL} {ts:List Tk} {w w':ay} {b:Nat} {l:Sl} {s s':Sx}
theorem Yj(h:Sr F ts w b l s):aB au 224 #[rp b] w fun e w'=>∃cs,e=aq (aj cs.toArray)/\tN true w' (Fr w.heap.size) (ri ts s).1 cs/\Dn F ts w w' b l (ri ts s).2:=by
 refine(ade ⟨b,0,none⟩ (fun v w'=>∃cs,v=(aj cs.toArray)/\tN true w' (Fr w.heap.size) (ri ts s).1 cs/\Dn F ts w w' b l (ri ts s).2) w ?_).mono (by
  rintro e w' ⟨v,rfl,cs,rfl,h⟩;exact⟨cs,rfl,h⟩)
 intro k0 w0 hk iv cK;have t0:=h.zt.al cK hk iv;obtain⟨ad,g1,_⟩:=h.now;refine⟨fun _=>True,fun w1 cF=>⟨trivial,l,Blk.dZ (t0.q cF).r.blk 0 rfl,fun w2 dh=>⟨trivial,_,Blk.dZ ((t0.q cF).q dh).r.blk 1 rfl,ad,g1,fun w3 dx=>?_⟩⟩⟩;have t3:=((t0.q cF).q dh).q dx;refine⟨trivial,_,(t3.r.tk g1).dZ 3 _ rfl,fun w4 dP=>?_⟩;have t4:=t3.q dP;obtain⟨q,w5,e1,mM,eE⟩:=nP w4 [tw,kK,mV] (n:=3) (parts:=#[(0,ah (T tw)),(1,ah (T kK)),(2,ah (T mV))]) rfl rfl (by decide) (by decide);refine⟨q,w5,e1,t4.sq eE (by simp),mR.Lq eE,bS.only eE,fun w6 ez=>?_⟩;have t6:=(t4.q eE).q ez;refine(zL t6.r (SliceF.only dD (by decide) (uT mM) ez (by simp))).mono ?_;rintro _ w7 ⟨rfl,fI⟩;have t7:=t6.q fI;refine⟨_,rfl,t6.sq fI (by simp),mR.Lq fI,bS.only fI,fun w8 gn k1 ke jH SA=>?_⟩;have t8:=(t7.q gn).ad (bh t0.z.o.size ke) jH;refine⟨fun hc w9 gv=>?_,fun hc fg fj=>?_⟩
 ·have t9:=t8.f gv (by simp);refine(rX t9.r).mono ?_;rintro _ dI ⟨rfl,RI⟩;refine⟨rfl,t9.sc RI (by simp),fun dJ dT=>?_⟩;have hc:=adN hc;unfold ri;rw[if_pos hc,hc];exact⟨_,rfl,⟨qU 0 0 [] 0 Sl.nil 0,rfl,rE0 _ _ _⟩,((t9.nx RI).f dT (by simp)).dn⟩
 ·have hc:=adO hc;have t12:=t8.f fj (by simp);refine(Yf t12.r).mono ?_;rintro _ fC ⟨rfl,tj⟩;have t13:=t12.nx tj;refine⟨rfl,t12.sc tj (by simp),(lY t13.r).mono ?_⟩;rintro _ fT ⟨rfl,dU⟩;have t14:=t13.q dU;unfold ri;rw[if_neg hc];refine⟨_,rfl,t13.sq dU (by simp),fun hf iJ iu=>?_,fun hf=>?_⟩
  ·have hf:(ue ts s).fc≠0:=by simpa using hf
   rw[if_pos hf];exact⟨_,rfl,⟨qU 0 0 [] 0 Sl.nil 0,rfl,rE0 _ _ _⟩,(t14.f iu (by simp)).dn⟩
  ·have hf:¬(ue ts s).fc≠0:=by simpa using hf
   rw[if_neg hf];refine⟨_,Blk.dZ t14.r.blk 1 rfl,b,1,_,_,rfl,t14.r.blk,by simp,t14.ne (by simp),t14.ne (by simp),fun iX ig RJ=>?_⟩;rw[t14.r.wr]at RJ;have t16:Zt F ts w iX b l (dA (ue ts s)) [k1,k0]:=t14.up ig RJ (h.en.next t14.r.lt (by rw[Dp];exact(dl hc).2));refine(u7 t16.r).mono ?_;rintro _ fR ⟨rfl,NT⟩;have t17:=t16.nx NT;refine⟨_,rfl,t16.sc NT (by simp),fun jA lO=>?_⟩;have t18:=t17.f lO (by simp);generalize (iK ts (dA (ue ts s))).2=u at*
   generalize (iK ts (dA (ue ts s))).1=nm at*
   generalize cT ts s [tw,kK,mV]=kk at*
   generalize (tk ts s.i).a=aa at*
   refine⟨fun i4 s1 i5 i6 s2 i7 l2 i8 i9 w'=>∃(x:Ex) (u':Sx),i4=(kk:Int)/\s1=T nm/\i9=aa/\rE true w' (Fr jA.heap.size) x [O ae i5,O ae i6,ah s2,O ae i7,l2.v,O ae i8]/\Zt F ts w w' b l u' [k1,k0]/\Mq ts u kk nm aa=(⟨kk,nm,x,aa⟩,eB ts u' [59])/\jA.heap.size<=w'.heap.size,?_,fun tF=>?_,fun tF=>?_⟩
   ·rintro i4 s1 i5 i6 s2 i7 l2 i8 i9 jO ⟨x,u',rfl,rfl,rfl,hx,t19,hT,hsz⟩;obtain⟨q,jm,e1,mL,hm⟩:=pW t19.r [59];refine⟨q,jm,e1,t19.sq mL (by simp),hm.mono ?_⟩;rintro _ kV ⟨rfl,h21⟩;have t20:=t19.q mL;refine⟨rfl,t20.sc h21 (by simp),fun oS Az=>?_⟩;rw[hT];have zk:=t18.z.k k0 (by simp);have zs:=t18.z.o.size;have zb:=t18.r.lb;refine⟨_,rfl,⟨[O ae i5,O ae i6,ah s2,O ae i7,l2.v,O ae i8],rfl,?_⟩,((t20.nx h21).f Az (by simp)).dn⟩;exact(iV true).low ((iV true).stay hx ((((Stay.refl _ _).q mL).d h21 zb).f Az (.inl zk.2))) zs
   ·have tF:¬kk=2:=fun e=>by rw[e]at tF;simp at tF
    obtain⟨q,nH,e1,jX,hm⟩:=pW t18.r [61];refine⟨q,nH,e1,t18.sq jX (by simp),hm.mono ?_⟩;rintro _ ot ⟨rfl,h24⟩;have t23:=t18.q jX;have t24:=t23.nx h24;refine⟨rfl,t23.sc h24 (by simp),(Kv t24.r).mono ?_⟩;rintro _ nB ⟨cs,rfl,hx,U6⟩;obtain⟨sl,rfl⟩:=iW hx;have t25:=t24.nx U6;refine⟨_,_,_,_,sl,_,rfl,t24.sc U6 (by simp),fun rb jy=>?_⟩;have z24:jA.heap.size<=ot.heap.size:=bh jX.size h24.o.size;have zk:=t18.z.k k1 (by simp);refine⟨_,_,rfl,rfl,rfl,(iV true).low ((iV true).stay hx ((Stay.refl _ _).f jy (.inl (by omega)))) z24,t25.f jy (by simp),?_,bh z24 (bh U6.o.size jy.size)⟩;unfold Mq;rw[if_neg tF]
   ·have tF:(kk:Int)=2:=by simpa using tF
    have tF:kk=2:=by omega
    refine⟨FC,u,rfl,rfl,rfl,rE0 _ _ _,t18,?_,aY _⟩;unfold Mq;rw[if_pos tF]
abbrev AcO(B:Nat)(w:ay)(la:Sl)(acc:List Ac):Prop:=Own (tN true) 9 196 B w (Fr B) la acc
structure Br (F:aL) (ts:List Tk) (w w':ay) (b:Nat) (l:Sl) (k0 k1 B:Nat) (s:Sx) (acc:List Ac) (la:Sl):Prop where
 r:Sr F ts w' b l s
 b0:aH w' k0 180 [rp b]
 b1:aH w' k1 23 [la.v]
 own:AcO B w' la acc
 o:∃gs,aA (b::k1::gs) w w'/\∀x,x∈gs->B<=x
 n0:b<k0
 n1:b<k1
 n01:k0≠k1
 l0:k0<B
 l1:k1<B
 lB:B<=w'.heap.size
section
variable {k0 k1 B:Nat} {acc:List Ac} {la:Sl} {w2:ay}
theorem Br.nx(h:Br F ts w w' b l k0 k1 B s acc la)(k:Dn F ts w' w2 b l s'):Br F ts w w2 b l k0 k1 B s' acc la:=by
 have n0:=h.n0;have n1:=h.n1;have l0:=h.l0;obtain⟨gs,h1,h2⟩:=h.o;exact⟨k.r,k.o.blk h.b0 (by simp only[aO];omega),k.o.blk h.b1 (by simp only[aO];omega),h.own.stay (dN true) k.o fun x hx=>.inl (by simp only[aO]at hx;omega),
  ⟨gs,h1.trans k.o fun x hx=>.inl (by simp only[aO]at hx;simp[hx]),h2⟩,n0,n1,h.n01,l0,h.l1,bh h.lB k.o.size⟩
theorem Br.q(h:Br F ts w w' b l k0 k1 B s acc la)(k:aA [] w' w2):Br F ts w w2 b l k0 k1 B s acc la:=h.nx (h.r.dn.q k)
theorem Yk(h:Br F ts w w' b l k0 k1 B s acc la)(hm:acc.length<ts.length):aB au 223 #[ai (some ⟨k1,0,none⟩),ai (some ⟨k0,0,none⟩)] w' fun e w2=>e=aq (ak #[])/\∃Ct,Br F ts w w2 b l k0 k1 B (ri ts s).2 (acc++[(ri ts s).1]) Ct:=by
 refine ret (adb _ _ _ _ ?_);intro w0 cK;have h0:=h.q cK;have n1:=h.n1;have l1:=h.l1;refine⟨fun k=>k=k1,rfl,la,h0.b1.ND 0 rfl,_,h0.b0.ND 0 rfl,(Yj h0.r).mono ?_⟩;rintro _ w1 ⟨cs,rfl,hx,h1⟩;have tB:=h0.nx h1;generalize RL:(ri ts s).1=ac at*
 generalize (ri ts s).2=s1 at*
 have AA:=hx;obtain⟨xc,rfl,M7⟩:=AA;obtain⟨sl,rfl⟩:=iW M7;have A4:=h.r.sm;have hl0:=h0.own.len;obtain⟨y,w2,e2,dh,Ct,w3,e3,mM,⟨gs,dx,rm⟩,_⟩:=jj (P:=au) (t:=23) (ty:=23) (e:=196) (i:=Tryz.t196) (bytes:=104) (size:=9) (v:=aj (acv ac.k ac.n (qU ac.x.k ac.x.n ac.x.s ac.x.op sl ac.x.a) ac.a).toArray) (x:=ac) (G:=Fr w0.heap.size) (by kernel_rfl) (by kernel_rfl) rfl rfl rfl rfl (by decide) (by decide) (by decide) (dN true) tB.own tB.lB rfl hx (fun k hk _=>⟨bh h0.lB hk,h0.own.new hk⟩) (by omega);have RM:aA gs w1 w3:=(dh.weaken (bs':=gs) fun _ h=>(by cases h)).trans dx fun x hx=>.inl hx;have qn:∀g,g∈gs->B<=g:=fun g hg=>(rm g hg).2.1;refine⟨_,_,_,_,_,_,sl,_,_,rfl,fun k hk bX=>(by subst hk;exact h1.o.block k bX (by simp only[aO];omega)),y,w2,e2,bS.only dh,Ct,w3,e3,fun k hk bX=>(by subst hk;exact dx.block k bX fun hm=>(by have:=qn k hm;omega)),k1,0,_,_,rfl,RM.blk tB.b1 (fun hm=>by have:=qn k1 hm;omega),by simp,fun w4 dP vG=>⟨rfl,Ct,?_⟩⟩;have n0:=h.n0;have n01:=h.n01;have l0:=h.l0;have z3:=RM.size;have z4:=dP.size;have hlB:=tB.lB;have hOb:∀{x:Nat},x<B->x≠k1->w4.heap[x]? =w1.heap[x]? :=fun hx hn=>(dP.block _ (by omega) (by simpa using hn)).trans (RM.block _ (by omega) fun hm=>(by have:=qn _ hm;omega));obtain⟨gs0,o1,o2⟩:=tB.o;have hr3:Sr F ts w3 b l s1:=tB.r.own RM fun x hx=>(by have:=qn x hx;omega)
 refine⟨hr3.one dP n1,(hOb l0 n01).trans tB.b0,vG,?_,⟨gs++gs0,(((o1.weaken (bs':=b::k1::(gs++gs0)) fun x hx=>.inl (by simp only[aR,ch]at hx⊢;rcases hx with hx | hx | hx<;>simp[hx])).trans RM fun x hx=>.inl (by simp[hx]))).trans dP fun x hx=>.inl (by simp only[aO]at hx;simp[hx]),fun x hx=>?_⟩,n0,n1,n01,l0,l1,by omega⟩
 ·refine((mM.mono (dN true) fun k hk=>?_).stay (dN true) dP fun x hx=>.inl (by simp only[aO]at hx;omega));rcases hk with hk | hk
  ·exact hk
  ·exact bh hlB hk
 ·rcases ch.1 hx with hx | hx
  ·exact qn x hx
  ·exact o2 x hx
theorem PS(f:Nat)(h:Br F ts w w' b l k0 k1 B s acc la)(hf:mu ts s<f)(hm:acc.length+mu ts s<=ts.length):
  aB au 222 #[rp b,ah (ar #[125]),.func (.func 223) #[] #[ai (some ⟨k1,0,none⟩),ai (some ⟨k0,0,none⟩)]] w' fun e w2=>e=aq (ak #[])/\∃Ct,Br F ts w w2 b l k0 k1 B (rS ts f acc s).2 (rS ts f acc s).1 Ct:=by
 refine ret (adf ⟨b,0,none⟩ _ ⟨.func (.func 223) #[] #[ai (some ⟨k1,0,none⟩),ai (some ⟨k0,0,none⟩)],rfl⟩ (fun v w2=>v=(ak #[])/\∃Ct,Br F ts w w2 b l k0 k1 B (rS ts f acc s).2 (rS ts f acc s).1 Ct) w' ?_);generalize aah:rS ts f acc s=res;refine⟨fun nv w2=>∃s' RN Ct,Br F ts w w2 b l k0 k1 B s' RN Ct/\rS ts nv RN s'=res/\mu ts s'<nv/\RN.length+mu ts s'<=ts.length,f,⟨s,acc,la,h,aah,hf,hm⟩,?_⟩;rintro nv w0 ⟨s',RN,Ct,h0,hR,hf0,LF⟩;obtain⟨m,rfl⟩:∃m,nv=m+1:=⟨nv-1,by omega⟩
 rw[rS]at hR;refine⟨fun bo w2=>(bo=true/\s'.fc=0/\cT ts s' [[125]]=0/\Br F ts w w2 b l k0 k1 B s' RN Ct)∨(bo=false/\Br F ts w w2 b l k0 k1 B res.2 res.1 Ct),?_,(lY h0.r).mono ?_⟩
 ·rintro bo w1 (⟨rfl,hfc,hw,h1⟩ | ⟨rfl,h1⟩)
  ·refine⟨fun _=>⟨223,[],[_,_],rfl,fF (by kernel_rfl),?_⟩,fun hh=>(by cases hh)⟩;rw[if_neg (by simp[hfc]),if_neg (by simp[hw])]at hR;have hmu:=X5 h0.r.en hfc h0.r.lt;have hmm:mu ts s'<=ts.length:=by unfold mu;split<;>omega
   refine(Yk h1 (by omega)).mono ?_;rintro _ w3 ⟨rfl,la2,h3⟩;exact⟨rfl,m,by omega,_,_,la2,h3,hR,by omega,by rw[aU,bP];omega⟩
  ·exact⟨fun hh=>(by cases hh),fun _=>⟨rfl,Ct,h1⟩⟩
 ·rintro _ w4 ⟨rfl,dP⟩;have h4:=h0.q dP;refine⟨_,rfl,fun hc=>?_,fun hc=>?_⟩
  ·have hc:s'.fc=0:=by simpa using hc
   rw[if_neg (by simp[hc])]at hR;obtain⟨q,w5,e1,eE,hk⟩:=BM h4.r [[125]] (n:=1) (parts:=#[(0,ah (T [125]))]) rfl rfl (by decide) (by decide);refine⟨q,w5,e1,hk.mono ?_⟩;rintro _ w6 ⟨rfl,h6⟩;have h6:=(h4.q eE).nx h6;refine⟨_,rfl,?_⟩;by_cases hw:cT ts s' [[125]]=0
   ·rw[if_pos hw]at h6;exact .inl ⟨by rw[hw];rfl,hc,hw,h6⟩
   ·rw[if_neg hw]at h6;rw[if_pos hw]at hR;subst hR;exact .inr ⟨by simpa using hw,h6⟩
  ·have hc:s'.fc≠0:=by simpa using hc
   rw[if_pos hc]at hR;subst hR;exact .inr ⟨rfl,h4⟩
end
theorem zM(h:Sr F ts w b l s):aB au 200 #[rp b] w fun e w'=>∃la:Sl,e=aq la.v/\jE true (tN true) 9 196 w' (Fr w.heap.size) la (je ts s).1/\Dn F ts w w' b l (je ts s).2:=by
 refine(ada ⟨b,0,none⟩ (fun v w'=>∃la:Sl,v=la.v/\jE true (tN true) 9 196 w' (Fr w.heap.size) la (je ts s).1/\Dn F ts w w' b l (je ts s).2) w ?_).mono (by
  rintro e w' ⟨v,rfl,cs,rfl,h⟩;exact⟨cs,rfl,h⟩)
 intro k0 k1 w0 gU fi ke jH cK;have t0:=((h.zt.q cK).ad gU fi).ad ke jH;obtain⟨q,w1,e1,cF,hm⟩:=pW t0.r [123];refine⟨q,w1,e1,t0.sq cF (by simp),hm.mono ?_⟩;rintro _ w2 ⟨rfl,h2⟩;have t1:=t0.q cF;have t2:=t1.nx h2;refine⟨rfl,t1.sc h2 (by simp),fun tU vJ=>?_⟩;have hb:=h.lb;have hB:Br F ts w2 w2 b l k0 k1 w2.heap.size (eB ts s [123]) [] Sl.nil:=
  ⟨t2.r,tU,vJ,Own.nil _ _ _ _ _ _,⟨[],Only.refl _ _,fun _ h=>(by cases h)⟩,by omega,by omega,fun e=>(by subst e;have:=tU.symm.trans vJ;simp at this),tU.lt,vJ.lt,aY _⟩
 refine(PS (ts.length+1) hB (by unfold mu;split<;>omega) (by rw[cO,bM];unfold mu;split<;>omega)).mono ?_;rintro _ w3 ⟨rfl,la,h3⟩;have z2:=t2.z.o.size;obtain⟨gs,o1,o2⟩:=h3.o;refine⟨rfl,_,h3.b0,_,h3.b1,la,rfl,?_,?_,h3.r⟩
 ·exact(h3.own.sl (dN true) fun k hk=>hk).low (dN true) z2
 ·exact t2.z.o.trans o1 fun x hx=>by
   simp only[aR]at hx;rcases hx with rfl | rfl | hx
   ·exact .inl (by simp)
   ·exact .inr ke
   ·exact .inr (bh z2 (o2 x hx))
end
section
variable {F:aL} {ts:List Tk} {w w':ay} {b:Nat} {l:Sl} {s s':Sx}
structure MvX (A:Nat) (w:ay) (m:Mv) (k:Int) (ev:aM) (wt:Int) (gd:Bool) (gc:aK) (tG:Sl) (a:Int):Prop where
 e1:k=m.k
 e2:ev=T m.ev
 e3:wt=m.wt
 e4:gd=m.gd
 e5:a=m.a
 g:rE true w (Fr A) m.g gc
 x:jE true (tN true) 9 196 w (Fr A) tG m.acts
theorem MvX.stay{A:Nat}{m:Mv}{k:Int}{ev:aM}{wt:Int}{gd:Bool}{gc:aK}{tG:Sl}{a:Int}(h:MvX A w m k ev wt gd gc tG a)(hs:Stay A w w'):MvX A w' m k ev wt gd gc tG a:=
 ⟨h.e1,h.e2,h.e3,h.e4,h.e5,(iV true).stay h.g hs,h.x.stay (dN true) (by decide) hs⟩
theorem qY(ts:List Tk)(s:Sx):mu ts s<=ts.length:=by unfold mu;split<;>omega
theorem zN(h:Sr F ts w b l s){ss:List (aJ)}(hw:cT ts s ss≠0):s.i+1<ts.length:=h.en.next h.lt (dl hw).2
theorem TY(h:Sr F ts w b l s)(k:Int)(hk:(tk ts s.i).k≠5):aB au 198 #[rp b,O ae k] w fun e w'=>∃cs,e=aq (aj cs.toArray)/\Kf true w' (Fr w.heap.size) (nR ts k s).1 cs/\Dn F ts w w' b l (nR ts k s).2:=by
 refine(ac5 ⟨b,0,none⟩ k (fun v w'=>∃cs,v=(aj cs.toArray)/\Kf true w' (Fr w.heap.size) (nR ts k s).1 cs/\Dn F ts w w' b l (nR ts k s).2) w ?_).mono (by
  rintro e w' ⟨v,rfl,cs,rfl,h⟩;exact⟨cs,rfl,h⟩)
 intro k0 w0 gU fi cK;have t0:=h.zt.al cK gU fi;obtain⟨ad,g1,g2⟩:=t0.r.now;refine⟨fun _=>True,trivial,l,Blk.dZ t0.r.blk 0 rfl,trivial,_,Blk.dZ t0.r.blk 1 rfl,ad,g1,trivial,_,g2.dZ 3 _ rfl,fun k1 w1 ke jH cF=>?_⟩;have t1:=t0.al cF ke jH;refine(Yg t1.r).mono ?_;rintro _ w2 ⟨rfl,h2⟩;have t2:=t1.nx h2;refine⟨rfl,t1.sc h2 (by simp),(lY t2.r).mono ?_⟩;rintro _ w3 ⟨rfl,dx⟩;have t3:=t2.q dx;unfold nR;refine⟨_,rfl,t2.sq dx (by simp),fun hf w4 dP=>?_,fun hf=>?_⟩
 ·have hf:(rR ts s).fc≠0:=by simpa using hf
  rw[if_pos hf];exact⟨_,rfl,⟨qU 0 0 [] 0 Sl.nil 0,Sl.nil,Sl.nil,rfl,rE0 _ _ _,jE.nil _ _ _ _ _ _,jE.nil _ _ _ _ _ _⟩,(t3.f dP (by simp)).dn⟩
 have hf:¬(rR ts s).fc≠0:=by simpa using hf
 rw[if_neg hf];refine⟨_,Blk.dZ t3.r.blk 1 rfl,b,1,_,_,rfl,t3.r.blk,by simp,t3.ne (by simp),t3.ne (by simp),fun w5 eE wL=>?_⟩;rw[t3.r.wr]at wL;have t5:Zt F ts w w5 b l (dA (rR ts s)) [k1,k0]:=t3.up eE wL (h.en.next t3.r.lt (by rw[Dr];exact hk));have hA:=t5.z.o.size;have hA0:=(t5.z.k k0 (by simp)).2;have hA1:=(t5.z.k k1 (by simp)).2;have hAb:=t5.r.lb;generalize hAA:w5.heap.size=A at*
 generalize (tk ts s.i).a=aa at*
 generalize dA (rR ts s)=u0 at*
 generalize hR:(if k=1 then pO ts {V0 k aa with ev:=(iK ts u0).1} (iK ts u0).2 else if k=3 then pO ts {V0 k aa with wt:=(gK ts u0 3).1.n} (gK ts u0 3).2 else pO ts (V0 k aa) u0)=R;have x0:∀{w':ay} {ev:aJ} {wt:Int},MvX A w' {V0 k aa with ev:=ev,wt:=wt} k (T ev) wt false (qU 0 0 [] 0 Sl.nil 0) Sl.nil aa:=⟨rfl,rfl,rfl,rfl,rfl,rE0 _ _ _,jE.nil _ _ _ _ _ _⟩
 refine⟨fun i3 s0 i4 b1 i5 i6 s1 i7 l1 i8 l2 l3 i9 w'=>∃(m:Mv) (u:Sx),MvX A w' m i3 s0 i4 b1 [O ae i5,O ae i6,ah s1,O ae i7,l1.v,O ae i8] l2 i9/\m.gd=false/\m.tg=[]/\l3=Sl.nil/\Zt F ts w w' b l u [k1,k0]/\pO ts m u=R/\A<=w'.heap.size,?_,fun hc=>?_,fun hc=>⟨fun pu=>?_,fun pu=>?_⟩⟩;rotate_left
 ·have hc:k=1:=by simpa using hc
  refine(u7 t5.r).mono ?_;rintro _ w32 ⟨rfl,h32⟩;have t32:=t5.nx h32;refine⟨_,rfl,t5.sc h32 (by simp),fun w33 afy=>?_⟩;rw[if_pos hc]at hR;exact⟨_,_,x0,rfl,rfl,rfl,t32.f afy (by simp),hR,by rw[<-hAA];exact bh h32.o.size afy.size⟩
 ·have hc:¬k=1:=by simpa using hc
  have pu:k=3:=by simpa using pu
  refine(u6 t5.r (k:=3) (by decide)).mono ?_;rintro _ ZB ⟨rfl,h34⟩;have t34:=t5.nx h34;refine⟨_,_,_,_,rfl,t5.sc h34 (by simp),fun w35 afz=>?_⟩;rw[if_neg hc,if_pos pu]at hR;exact⟨_,_,x0,rfl,rfl,rfl,t34.f afz (by simp),hR,by rw[<-hAA];exact bh h34.o.size afz.size⟩
 ·have hc:¬k=1:=by simpa using hc
  have pu:¬k=3:=by simpa using pu
  rw[if_neg hc,if_neg pu]at hR;exact⟨_,_,x0,rfl,rfl,rfl,t5,hR,oC hAA.symm⟩
 rintro i3 s0 i4 b1 i5 i6 s1 i7 l1 i8 l2 l3 i9 w6 ⟨m,u,hx,Nh,rq,rfl,t6,hR,z6⟩;unfold pO at hR;obtain⟨q,ot,e1,A6,hm⟩:=BM t6.r [[91]] (n:=1) (parts:=#[(0,ah (T [91]))]) rfl rfl (by decide) (by decide);have t24:=t6.q A6;refine⟨fun i3 s0 i4 b1 i5 i6 s1 i7 l1 i8 l2 l3 i9 w'=>∃(m:Mv) (u:Sx),MvX A w' m i3 s0 i4 b1 [O ae i5,O ae i6,ah s1,O ae i7,l1.v,O ae i8] l2 i9/\m.tg=[]/\l3=Sl.nil/\Zt F ts w w' b l u [k1,k0]/\BE ts m u=R/\A<=w'.heap.size,?_,q,ot,e1,t6.sq A6 (by simp),hm.mono ?_⟩;rotate_left
 ·rintro _ nB ⟨rfl,U6⟩;have t25:=t24.nx U6;have s25:Stay A w6 nB:=((Stay.refl A w6).q A6).d U6 hAb;refine⟨_,rfl,t24.sc U6 (by simp),fun hc rb jy=>?_,fun hc SB Rz=>?_⟩
  ·have qg:=MA hc;rw[if_neg qg]at hR t25;have t26:=t25.f jy (by simp);have s26:=s25.f jy (.inl hA1);have z26:=s26.sz;refine(Kv t26.r).mono ?_;rintro _ uy ⟨cs,rfl,hg,h27⟩;obtain⟨sl,rfl⟩:=iW hg;have t27:=t26.nx h27;refine⟨_,_,_,_,sl,_,rfl,t26.sc h27 (by simp),fun Aw wO=>?_⟩;have t28:=t27.f wO (by simp);obtain⟨q2,A5,e2,sH,NK⟩:=pW t28.r [93];have t29:=t28.q sH;refine⟨q2,A5,e2,t28.sq sH (by simp),NK.mono ?_⟩;rintro _ NQ ⟨rfl,h30⟩;have t30:=t29.nx h30;have s30:=(((s26.d h27 hAb).f wO (.inl hA1)).q sH).d h30 hAb;refine⟨rfl,t29.sc h30 (by simp),{m with gd:=true,g:=(pN ts (dA u)).1},_,⟨hx.e1,hx.e2,hx.e3,hc,hx.e5,?_,hx.x.stay (dN true) (by decide) s30⟩,rq,rfl,t30,hR,bh z6 s30.sz⟩;exact(iV true).low ((iV true).stay hg ((((Stay.refl _ _).f wO (.inl (by omega))).q sH).d h30 (by omega))) (by omega)
  ·have qg:=Mz hc;rw[if_pos qg]at hR t25;have s31:=s25.f Rz (.inl hA1);have Ni:=hx.stay s31;exact⟨m,u,⟨Ni.e1,Ni.e2,Ni.e3,by rw[hc,Nh],Ni.e5,Ni.g,Ni.x⟩,rq,rfl,t25.f Rz (by simp),hR,bh z6 s31.sz⟩
 clear hx Nh rq t6 hR z6 hm t24;rintro i3 s0 i4 b1 i5 i6 s1 i7 l1 i8 l2 l3 i9 w7 ⟨m,u,hx,rq,rfl,t7,hR,z7⟩;unfold BE at hR;obtain⟨q,jm,e1,mL,hm⟩:=Ks t7.r [[123]] (n:=1) (parts:=#[(0,ah (T [123]))]) rfl rfl (by decide) (by decide);have t20:=t7.q mL;refine⟨fun i3 s0 i4 b1 i5 i6 s1 i7 l1 i8 l2 l3 i9 w'=>∃(m:Mv) (u:Sx),MvX A w' m i3 s0 i4 b1 [O ae i5,O ae i6,ah s1,O ae i7,l1.v,O ae i8] l2 i9/\l3=Sl.nil/\Zt F ts w w' b l u [k1,k0]/\FK ts m u=R/\A<=w'.heap.size,?_,q,jm,e1,t7.sq mL (by simp),hm.mono ?_⟩;rotate_left
 ·rintro _ kV ⟨rfl,ku⟩;have t21:=t20.q ku;have s21:Stay A w7 kV:=((Stay.refl A w7).q mL).q ku;have z21:=s21.sz;refine⟨_,rfl,t20.sq ku (by simp),fun hc=>(zM t21.r).mono ?_,fun hc=>?_⟩
  ·rw[if_neg (MA hc)]at hR;rintro _ oS ⟨la,rfl,hla,h22⟩;have t22:=t21.nx h22;refine⟨la,rfl,t21.sc h22 (by simp),fun nH jX=>?_⟩;have s23:=(s21.d h22 hAb).f jX (.inl hA1);refine⟨{m with acts:=(je ts u).1},_,⟨hx.e1,hx.e2,hx.e3,hx.e4,hx.e5,(iV true).stay hx.g s23,?_⟩,rfl,t22.f jX (by simp),hR,bh z7 s23.sz⟩;exact(hla.stay (dN true) (by decide) ((Stay.refl _ _).f jX (.inl (by omega)))).low (dN true) (by omega)
  ·rw[if_pos (Mz hc)]at hR;exact⟨m,u,hx.stay s21,rfl,t21,hR,bh z7 z21⟩
 clear hx rq t7 hR z7 hm t20;rintro i17 s4 i18 b3 i19 i20 s5 i21 l7 i22 l8 l9 i23 w8 ⟨m,u,hx,rfl,t8,hR,z8⟩;unfold FK at hR;have hb8:b<w8.heap.size:=by omega
 refine⟨fun nv sg i24 s7 i25 b4 i26 i27 s8 i28 l10 i29 oh ql i30 w'=>∃(x:aJ) (acc:List (aJ)) (u':Sx),sg=T x/\MvX A w8 m i24 s7 i25 b4 [O ae i26,O ae i27,ah s8,O ae i28,l10.v,O ae i29] oh i30/\Stay A w8 w'/\Own kz 1 9 w8.heap.size w' (Fr w8.heap.size) ql acc/\Zt F ts w w' b l u' [k1,k0]/\wZ ts nv x acc u'=wZ ts (ts.length+1) [45,62] [] u/\mu ts u'<nv/\acc.length+mu ts u'<=ts.length,ts.length+1,⟨[45,62],[],u,rfl,hx,Stay.refl _ _,Own.nil _ _ _ _ _ _,t8,rfl,uC (qY _ _),by rw[cO,bM];exact qY _ _⟩,?_⟩;clear hx;rintro nv sg i24 s7 i25 b4 i26 i27 s8 i28 l10 i29 oh ql i30 w9 ⟨x,acc,u',rfl,hx,hS,mM,t9,hT,Zm,NL⟩;obtain⟨m',rfl⟩:∃m',nv=m'+1:=⟨nv-1,by omega⟩
 rw[wZ]at hT;obtain⟨q,dI,e1,eH,NK⟩:=BM t9.r [x] (n:=1) (parts:=#[(0,ah (T x))]) rfl rfl (by decide) (by decide);have t10:=t9.q eH;refine⟨q,dI,e1,t9.sq eH (by simp),NK.mono ?_⟩;rintro _ dJ ⟨rfl,AB⟩;have t11:=t10.nx AB;refine⟨_,rfl,t10.sc AB (by simp),fun hc fg fj=>?_,fun hc=>?_⟩
 ·have hc:=MA hc;rw[if_neg hc]at hT t11;have t12:=t11.q fj;refine⟨fun k=>k=k1,rfl,(u7 t12.r).mono ?_⟩;rintro _ fC ⟨rfl,tj⟩;have t13:=t12.nx tj;have gv:aA [b] w9 fC:=(((eH.weaken (bs':=[b]) fun _ h=>(by cases h)).trans AB.o fun x hx=>.inl hx).cz fj).trans tj.o fun x hx=>.inl hx;have zS:=hS.sz;have z9:=gv.size;have A4:=h.sm;have Cs:=qY ts u';have hmu:=oM h.en (dl hc).1 t9.r.lt (dl hc).2 (oL h.en (s:=dA u')).toOn0;obtain⟨y,fT,e2,dU,Ct,iJ,e3,afB,⟨gs,iu,rm⟩,_⟩:=jj (P:=au) (t:=31) (ty:=31) (e:=9) (i:=Tryz.t9) (bytes:=16) (size:=1) (v:=ah (T (iK ts (dA u')).1)) (x:=(iK ts (dA u')).1) (G:=fun _=>False) (by kernel_rfl) (by kernel_rfl) rfl rfl rfl rfl (by decide) (by decide) (by decide) dD (mM.stay dD gv fun x hx=>.inl (by simp only[aO]at hx;omega)) (bh zS z9) rfl rfl (fun k hk _=>hk.elim) (by omega);have qn:∀g,g∈gs->w8.heap.size<=g:=fun g hg=>(rm g hg).2.1;have z8w:=t8.z.o.size;have t14:=t13.q dU;have t15:=t14.row iu fun x hx=>bh z8w (qn x hx);have nk:=t8.ne (k0:=k1) (by simp);refine⟨_,rfl,t12.sc tj (by simp),fun k hk bX=>(by subst hk;exact tj.o.block k bX (by simpa using nk)),y,fT,e2,t13.sq dU (by simp),bS.only dU,Ct,iJ,e3,t14.sr iu (by simp) (fun x hx y hy=>?_),fun k hk bX=>(by subst hk;exact iu.block k bX fun hm=>(by have:=qn k hm;omega)),fun iX ig=>⟨m',by omega,[44],_,_,rfl,hx,?_,?_,t15.f ig (by simp),hT,by omega,?_⟩⟩
  ·have:=qn x hx;simp only[aR,bf,bU]at hy;omega
  ·exact(((hS.go gv fun x hx=>.inl (by simp only[aO]at hx;omega)).q dU).go iu fun x hx=>.inr (qn x hx)).f ig (.inl hA1)
  ·refine((afB.mono dD fun k hk=>?_).stay dD ig fun x hx=>.inl (by simp only[aO]at hx;omega));rcases hk with hk | hk
   ·exact hk
   ·exact bh (bh zS z9) hk
  ·rw[aU,bP];omega
 ·have hc:=Mz hc;rw[if_pos hc]at hT t11;obtain⟨q2,fR,e2,iY,UR⟩:=pW t11.r [59];have t17:=t11.q iY;refine⟨q2,fR,e2,t11.sq iY (by simp),UR.mono ?_⟩;rintro _ jA ⟨rfl,h18⟩;have t18:=t17.nx h18;refine⟨rfl,t17.sc h18 (by simp),fun jO kU=>?_⟩;rw[<-hT]at hR;rw[<-hR];have s9:∀{B:Nat},b<B->k0<B->Stay B w9 jO:=fun hb hk=>((((Stay.refl _ _).q eH).d AB hb).q iY).d h18 hb |>.f kU (.inl hk);have s19:Stay A w8 jO:=(((((hS.q eH).d AB hAb).q iY).d h18 hAb).f kU (.inl hA0))
  refine⟨mvv m.k m.ev m.wt m.gd [O ae i26,O ae i27,ah s8,O ae i28,l10.v,O ae i29] oh ql m.a,by rw[hx.e1,hx.e2,hx.e3,hx.e4,hx.e5];rfl,⟨_,_,_,rfl,(iV true).low ((iV true).stay hx.g s19) hA,(hx.x.stay (dN true) (by decide) s19).low (dN true) hA,?_⟩,(t18.f kU (by simp)).dn⟩;exact((mM.sl dD fun k hk=>hk).stay dD (by decide) (s9 hb8 (by omega))).low dD (by omega)
end
theorem Kw{iT xs:aK}{j:Nat}{v:az}(h:xs[j]? =some v):(iT++xs)[iT.length+j]? =some v:=by
 rw[cd (by omega),dY];exact h
theorem lG(iT xs vs:aK)(j:Nat):cD (iT++xs) (iT.length+j) vs=iT++cD xs j vs:=by
 unfold cD;rw[SL,eM,SM];simp only[bQ]
structure NbO (B:Nat) (w:ay) (n:Nb) (en lv mv:Sl):Prop where
 en:jE true (tN true) 9 196 w (fun k=>B<=k/\mv.a≠some ⟨k,0,none⟩) en n.en
 lv:jE true (tN true) 9 196 w (fun k=>B<=k/\mv.a≠some ⟨k,0,none⟩) lv n.lv
 mv:Own (Kf true) 13 147 B w (Fr B) mv n.mv
section
variable {B:Nat} {w w':ay} {n:Nb} {en lv mv:Sl}
theorem NbO.go(h:NbO B w n en lv mv){bs:List Nat}(k:aA bs w w')(hb:∀x,x∈bs->x<B):NbO B w' n en lv mv:=
 ⟨h.en.keep (dN true) (by decide) fun i hi bX=>k.block i bX fun hm=>(by have:=hb i hm;omega),h.lv.keep (dN true) (by decide) fun i hi bX=>k.block i bX fun hm=>(by have:=hb i hm;omega),h.mv.stay (mE true) k fun x hx=>.inl (hb x hx)⟩
theorem NbO.yv(h:NbO B w n en lv mv){gs:List Nat}{tq:Sl}{m:Mv}(mM:Own (Kf true) 13 147 B w' (fun k=>Fr B k∨w.heap.size<=k) tq (n.mv++[m]))(k:aA gs w w')(rm:∀g,g∈gs->mv.a=some ⟨g,0,none⟩)(ha:tq.a=mv.a∨∃g,tq.a=some ⟨g,0,none⟩/\w.heap.size<=g)(hB:B<=w.heap.size):NbO B w' {n with mv:=n.mv++[m]} en lv tq:=by
 have go:∀{la:Sl} {xs:List Ac},jE true (tN true) 9 196 w (fun k=>B<=k/\mv.a≠some ⟨k,0,none⟩) la xs->jE true (tN true) 9 196 w' (fun k=>B<=k/\tq.a≠some ⟨k,0,none⟩) la xs:=fun hx=>
  ((hx.inHeap (dN true) (by decide)).keep (dN true) (by decide) fun i hi bX=>k.block i bX fun hm=>hi.1.2 (rm i hm)).mono (dN true) fun i hi=>⟨hi.1.1,by
   rcases ha with ha | ⟨g,ha,hg⟩
   ·rw[ha];exact hi.1.2
   ·rw[ha];intro e;injection e with e;injection e with e;have:=hi.2;omega⟩
 exact⟨go h.en,go h.lv,mM.mono (mE true) fun i hi=>hi.elim id fun hi=>bh hB hi⟩
theorem NbO.aek(h:NbO B w n en lv mv){A:Nat}{la:Sl}{xs:List Ac}(hx:jE true (tN true) 9 196 w (Fr A) la xs)(hA:B<=A)(hm:∀k,A<=k->mv.a≠some ⟨k,0,none⟩):NbO B w {n with en:=xs} la lv mv:=
 ⟨hx.mono (dN true) fun k hk=>⟨bh hA hk,hm k hk⟩,h.lv,h.mv⟩
theorem NbO.ael(h:NbO B w n en lv mv){A:Nat}{la:Sl}{xs:List Ac}(hx:jE true (tN true) 9 196 w (Fr A) la xs)(hA:B<=A)(hm:∀k,A<=k->mv.a≠some ⟨k,0,none⟩):NbO B w {n with lv:=xs} en la mv:=
 ⟨h.en,hx.mono (dN true) fun k hk=>⟨bh hA hk,hm k hk⟩,h.mv⟩
end
abbrev MB(h:Hj):aK:=[ao false,ao h.i,ao h.e,ao h.l]
structure Cl (F:aL) (ts:List Tk) (w w':ay) (b:Nat) (l:Sl) (g t:Nat) (iT:aK) (kh B:Nat) (s:Sx) (n:Nb) (h:Hj) (en lv mv:Sl):Prop where
 r:Sr F ts w' b l s
 nb:aH w' g t (iT++om n.k n.nm n.ini n.dft en lv mv Sl.nil n.a)
 hb:aH w' kh 234 (MB h)
 no:NbO B w' n en lv mv
 o:∃gs,aA (b::g::kh::gs) w w'/\∀x,x∈gs->B<=x
 ng:g≠b/\¬F g
 nh:b<kh
 gh:g≠kh
 gB:g<B
 hB:kh<B
 lB:B<=w'.heap.size
section
variable {F:aL} {ts:List Tk} {w w' w2:ay} {b:Nat} {l:Sl} {g t:Nat} {iT:aK} {kh B:Nat} {s s':Sx} {n n':Nb} {h h':Hj} {en lv mv xT xU tq:Sl}
theorem Cl.nx(c:Cl F ts w w' b l g t iT kh B s n h en lv mv)(k:Dn F ts w' w2 b l s'):Cl F ts w w2 b l g t iT kh B s' n h en lv mv:=by
 have ng:=c.ng;have nh:=c.nh;have gB:=c.gB;have hBl:=c.hB;obtain⟨gs,h1,h2⟩:=c.o;exact⟨k.r,k.o.blk c.nb (by simp only[aO];omega),k.o.blk c.hb (by simp only[aO];omega),c.no.go k.o fun x hx=>(by simp only[aO]at hx;omega),
  ⟨gs,h1.trans k.o fun x hx=>.inl (by simp only[aO]at hx;simp[hx]),h2⟩,ng,nh,c.gh,gB,c.hB,bh c.lB k.o.size⟩
theorem Cl.q(c:Cl F ts w w' b l g t iT kh B s n h en lv mv)(k:aA [] w' w2):Cl F ts w w2 b l g t iT kh B s n h en lv mv:=c.nx (c.r.dn.q k)
theorem Cl.st(c:Cl F ts w w' b l g t iT kh B s n h en lv mv)(k:aA [g] w' w2)(hB:aH w2 g t (iT++om n'.k n'.nm n'.ini n'.dft xT xU tq Sl.nil n'.a))(no:NbO B w' n' xT xU tq):Cl F ts w w2 b l g t iT kh B s n' h xT xU tq:=by
 obtain⟨gs,h1,h2⟩:=c.o;have gB:=c.gB;exact⟨c.r.Za k c.ng,hB,k.blk c.hb (by simpa using fun e=>c.gh e.symm),no.go k fun x hx=>(by simp only[aO]at hx;omega),⟨gs,h1.trans k fun x hx=>.inl (by simp only[aO]at hx;simp[hx]),h2⟩,c.ng,c.nh,c.gh,gB,c.hB,bh c.lB k.size⟩
theorem Cl.hd(c:Cl F ts w w' b l g t iT kh B s n h en lv mv)(k:aA [kh] w' w2)(hB:aH w2 kh 234 (MB h')):Cl F ts w w2 b l g t iT kh B s n h' en lv mv:=by
 obtain⟨gs,h1,h2⟩:=c.o;have hB':=c.hB;exact⟨c.r.one k c.nh,k.blk c.nb (by simpa using c.gh),hB,c.no.go k fun x hx=>(by simp only[aO]at hx;omega),⟨gs,h1.trans k fun x hx=>.inl (by simp only[aO]at hx;simp[hx]),h2⟩,c.ng,c.nh,c.gh,c.gB,hB',bh c.lB k.size⟩
def adP(h:Hj)(j:Nat):Bool:=if j=1 then h.i else if j=2 then h.e else h.l
def PT(h:Hj)(j:Nat):Hj:=if j=1 then{h with i:=true}else if j=2 then{h with e:=true}else{h with l:=true}
theorem j3{j:Nat}(h0:j≠0)(h3:j<=3):j=1∨j=2∨j=3:=by omega
theorem MC(c:Cl F ts w w' b l g t iT kh B s n h en lv mv)(hm:n.mv.length<ts.length):aB au 160 #[rp b,ai (some ⟨g,iT.length,none⟩),ai (some ⟨kh,0,none⟩)] w' fun e w2=>e=aq (ao (eX ts n h s).1)/\
  ∃xT xU tq,Cl F ts w w2 b l g t iT kh B (eX ts n h s).2.2.2 (eX ts n h s).2.1 (eX ts n h s).2.2.1 xT xU tq:=by
 refine ret (ac4 _ _ _ _ _ ?_);have A4:=c.r.sm;obtain⟨q,w0,e1,cK,LF⟩:=Ks c.r [HU,kb,kj] (n:=3) (parts:=#[(0,ah (T HU)),(1,ah (T kb)),(2,ah (T kj))]) rfl rfl (by decide) (by decide);refine⟨q,w0,e1,LF.mono ?_⟩;rintro _ w1 ⟨rfl,cF⟩;have c1:=(c.q cK).q cF;refine⟨_,rfl,fun hc w2 dh=>?_,fun hc=>?_⟩
 ·have hc:=MA hc;have c2:=c1.q dh;have qf:eX ts n h s=(true,{n with mv:=n.mv++[(nR ts (cT ts s [HU,kb,kj]:Nat) s).1]},h,(nR ts (cT ts s [HU,kb,kj]:Nat) s).2):=by
   unfold eX;rw[if_pos hc]
  rw[qf];refine⟨fun k=>k=g,_,rfl,rfl,mv,c2.nb.ND (iT.length+6) (Kw rfl),(TY c2.r _ (dl hc).2).mono ?_⟩;rintro _ w3 ⟨cs,rfl,hx,h3⟩;have c3:=c2.nx h3;generalize (nR ts (cT ts s [HU,kb,kj]:Nat) s).1=m at*
  generalize (nR ts (cT ts s [HU,kb,kj]:Nat) s).2=u at*
  have AA:=hx;obtain⟨gc,tG,tg,rfl,hg,_,_⟩:=AA;obtain⟨sl,rfl⟩:=iW hg;have ng:=c.ng;have gB:=c.gB;obtain⟨y,w4,e2,dP,tq,w5,e3,mM,⟨gs,eE,rm⟩,ha⟩:=jj (P:=au) (t:=24) (ty:=24) (e:=147) (i:=Tryz.t147) (bytes:=168) (size:=13) (v:=aj (mvv m.k m.ev m.wt m.gd (qU m.g.k m.g.n m.g.s m.g.op sl m.g.a) tG tg m.a).toArray) (x:=m) (G:=Fr w2.heap.size) (by kernel_rfl) (by kernel_rfl) rfl rfl rfl rfl (by decide) (by decide) (by decide) (mE true) c3.no.mv c3.lB rfl hx (fun k hk _=>⟨bh c2.lB hk,c2.no.mv.new hk⟩) (by omega);have xS:aA gs w3 w5:=(dP.weaken (bs':=gs) fun _ h=>(by cases h)).trans eE fun x hx=>.inl hx;have qn:∀x,x∈gs->B<=x:=fun x hx=>(rm x hx).2.1;have hn:g∉gs:=fun hm=>by have:=qn g hm;omega
  have wL:=xS.blk c3.nb hn;refine⟨_,_,_,_,_,_,_,_,sl,_,tG,tg,_,rfl,fun k hk bX=>(by subst hk;exact h3.o.block k bX (by simp only[aO];omega)),y,w4,e2,bS.only dP,tq,w5,e3,fun k hk bX=>(by subst hk;exact eE.block k bX hn),_,rfl,g,_,_,_,rfl,wL,by simp,fun w6 ez SF=>⟨rfl,en,lv,tq,?_⟩⟩;rw[lG]at SF;have no5:=c3.no.yv mM xS (fun x hx=>(rm x hx).1) ha c3.lB;obtain⟨gs0,o1,o2⟩:=c3.o;have nh:=c.nh;have hBB:=c.hB;have lB:=c3.lB;have hgh:=c.gh;have z5:=xS.size;have z6:=ez.size;exact⟨(c3.r.own xS fun x hx=>(by have:=qn x hx;omega)).Za ez ng,SF,(ez.block kh (by have:=c3.hb.lt;omega) (by simp only[aO];omega)).trans (xS.blk c3.hb fun hm=>(by have:=qn kh hm;omega)),
   no5.go ez fun x hx=>(by simp only[aO]at hx;omega),⟨gs++gs0,((o1.weaken (bs':=b::g::kh::(gs++gs0)) fun x hx=>.inl (by simp only[aR,ch]at hx⊢;rcases hx with hx | hx | hx | hx<;>simp[hx])).trans xS fun x hx=>.inl (by simp[hx])).trans ez fun x hx=>.inl (by simp only[aO]at hx;simp[hx]),fun x hx=>(ch.1 hx).elim (qn x) (o2 x)⟩,ng,nh,hgh,gB,hBB,by omega⟩
 ·have hc:=Mz hc;obtain⟨q,w7,e1,fI,LF⟩:=Ks c1.r [gr,jc,jd] (n:=3) (parts:=#[(0,ah (T gr)),(1,ah (T jc)),(2,ah (T jd))]) rfl rfl (by decide) (by decide);refine⟨q,w7,e1,LF.mono ?_⟩;rintro _ w8 ⟨rfl,gn⟩;have c8:=(c1.q fI).q gn;have ma:cT ts s [gr,jc,jd]<=3:=FL _;refine⟨_,rfl,fun hj=>?_,fun hj=>?_⟩
  ·have hj:=adN hj;have qf:eX ts n h s=(false,n,h,s):=by unfold eX;rw[if_neg (by simpa using hc),hj];rfl
   rw[qf];exact⟨rfl,_,_,_,c8⟩
  have hj:=adO hj;have Va:=zN c.r hj;have qf:eX ts n h s=(if adP h (cT ts s [gr,jc,jd])then(false,n,h,ki ts s)else if cT ts s [gr,jc,jd]=1 then(true,{n with ini:=(iK ts (dA s)).1},PT h 1,eB ts (iK ts (dA s)).2 [59])else if cT ts s [gr,jc,jd]=2 then(true,{n with en:=(je ts (dA s)).1},PT h 2,(je ts (dA s)).2)else(true,{n with lv:=(je ts (dA s)).1},PT h 3,(je ts (dA s)).2)):=by
   unfold eX;rw[if_neg (by simpa using hc)];rcases j3 hj ma with e | e | e<;>rw[e]<;>rfl
  rw[qf];generalize cT ts s [gr,jc,jd]=j at*
  have G1:(MB h)[j]? =some (ao (adP h j)):=by rcases j3 hj ma with e | e | e<;>rw[e]<;>rfl
  have hp:Ji ⟨kh,0,none⟩ (j:Int) 4 1 ⟨kh,j,none⟩:=⟨by omega,by omega,by rw[fV,aX];simp⟩
  refine⟨_,rfl,⟨kh,j,none⟩,hp,_,c8.hb.ND j G1,fun hh=>?_,fun hh=>?_⟩
  ·rw[if_pos hh];refine(rX c8.r).mono ?_;rintro _ w9 ⟨rfl,h9⟩;exact⟨rfl,rfl,_,_,_,c8.nx h9⟩
  ·rw[if_neg (by rw[hh];decide)];refine⟨_,rfl,⟨kh,j,none⟩,hp,kh,j,_,_,rfl,c8.hb,by show j+1<=4;omega,fun dI eH tE=>?_⟩;have c10:Cl F ts w dI b l g t iT kh B s n (PT h j) en lv mv:=c8.hd eH (by
    have e:cD (MB h) j [ao true]=MB (PT h j):=by rcases j3 hj ma with e | e | e<;>rw[e]<;>rfl
    rwa[e]at tE)
   refine⟨_,Blk.dZ c10.r.blk 1 rfl,b,1,_,_,rfl,c10.r.blk,by simp,fun dJ dT GZ=>?_⟩;rw[c.r.wr]at GZ;have RO:=c10.nx (s':=dA s) ⟨dT,c10.r.nu dT GZ Va⟩;refine⟨fun w'=>∃xT xU tq,Cl F ts w w' b l g t iT kh B _ _ _ xT xU tq,fun fg AD=>⟨by split<;>(try split)<;>rfl,AD⟩,fun NG=>?_,fun NG=>⟨fun WC=>?_,fun WC=>?_⟩⟩
   ·have e1:j=1:=by have:(j:Int)=1:=(by simpa using NG);omega
    subst e1;rw[if_pos rfl];refine(u7 RO.r).mono ?_;rintro _ fC ⟨rfl,tj⟩;have c13:=RO.nx tj;refine⟨_,rfl,_,rfl,g,_,_,_,rfl,c13.nb,by simp,fun fT dU GY=>?_⟩;rw[lG]at GY;have c14:=c13.st (n':={n with ini:=(iK ts (dA s)).1}) dU GY ⟨c13.no.en,c13.no.lv,c13.no.mv⟩;obtain⟨q,iJ,e1,iu,LF⟩:=pW c14.r [59];refine⟨q,iJ,e1,LF.mono ?_⟩;rintro _ iX ⟨rfl,h16⟩;exact⟨rfl,_,_,_,(c14.q iu).nx h16⟩
   ·have e1:j=2:=by have:(j:Int)=2:=(by simpa using WC);omega
    subst e1;rw[if_neg (by decide),if_pos rfl];refine(zM RO.r).mono ?_;rintro _ fR ⟨la,rfl,hla,NT⟩;have c17:=RO.nx NT;refine⟨la,rfl,_,rfl,g,_,_,_,rfl,c17.nb,by simp,fun jA lO RP=>?_⟩;rw[lG]at RP;exact⟨_,_,_,c17.st (n':={n with en:=(je ts (dA s)).1}) lO RP (c17.no.aek hla RO.lB fun k hk=>RO.no.mv.new hk)⟩
   ·have e0:j≠1:=fun e=>by rw[e]at NG;simp at NG
    have e1:j=3:=by have:¬(j:Int)=2:=(by simpa using WC);omega
    subst e1;rw[if_neg (by decide),if_neg (by decide)];refine(zM RO.r).mono ?_;rintro _ jO ⟨la,rfl,hla,h19⟩;have c19:=RO.nx h19;refine⟨la,rfl,_,rfl,g,_,_,_,rfl,c19.nb,by simp,fun jm mL afD=>?_⟩;rw[lG]at afD;exact⟨_,_,_,c19.st (n':={n with lv:=(je ts (dA s)).1}) mL afD (c19.no.ael hla RO.lB fun k hk=>RO.no.mv.new hk)⟩
end
section
variable {F:aL} {ts:List Tk} {w w' w2:ay} {b:Nat} {l:Sl} {s s':Sx}
theorem FY(h:Sr F ts w b l s)(k:Int):aB au 115 #[rp b,O ae k] w fun e w'=>e=aq (aj (om (eY ts k s).1.k (eY ts k s).1.nm [] [] Sl.nil Sl.nil Sl.nil Sl.nil (eY ts k s).1.a).toArray)/\Dn F ts w w' b l (eY ts k s).2:=by
 refine ret (acZ _ _ _ _ ?_);intro k0 k1 w0 gU fi ke jH cK;have t0:=((h.zt.q cK).ad gU fi).ad ke jH;obtain⟨ad,g1,g2⟩:=t0.r.now;refine⟨fun w'=>Zt F ts w w' b l (qX ts s) [k1,k0],fun w1 t1=>(u6 t1.r (k:=1) (by decide)).mono ?_,l,Blk.dZ t0.r.blk 0 rfl,_,Blk.dZ t0.r.blk 1 rfl,ad,g1,_,g2.dZ 0 _ rfl,fun hc w5 eE=>?_,fun hc w8 gn=>?_⟩
 ·rintro _ w2 ⟨rfl,h2⟩;have t2:=t1.nx h2;refine⟨_,_,_,_,rfl,t1.sc h2 (by simp),fun k2 w3 tF wM dx n1 n2 n3=>⟨fun k=>k=k2,rfl,fun e=>n3 e,fun e=>n3 e,fun w4 dP=>⟨rfl,?_⟩⟩⟩;have t3:=t2.q dx;have z3:=t3.z.go dP fun x hx=>.inr (by simp only[aR,bf,bU]at hx⊢;omega);exact⟨z3.o,t3.r.own dP fun x hx=>t3.lt (by simp only[aR,bf,bU]at hx⊢;omega)⟩
 ·have hc:(tk ts s.i).k=1:=by simpa using hc
  have t5:=t0.q eE;unfold qX;rw[if_pos hc];refine(Yh t5.r).mono ?_;rintro _ w6 ⟨rfl,h6⟩;have t6:=t5.nx h6;refine⟨rfl,t5.sc h6 (by simp),_,Blk.dZ t6.r.blk 6 rfl,fun hd=>?_,fun hd=>?_⟩
  ·rw[if_pos (by simpa using hd)];refine(ym t6.r 21).mono ?_;rintro _ w7 ⟨rfl,h7⟩;exact⟨rfl,t6.sc h7 (by simp),t6.nx h7⟩
  ·rw[if_neg (by simpa using hd)];exact t6
 ·have hc:¬(tk ts s.i).k=1:=by simpa using hc
  unfold qX;rw[if_neg hc];exact t0.q gn
def V6(F:aL)(ts:List Tk)(b:Nat)(l:Sl)(f:Nat)(d:Int):Prop:=∀(k:Int) (u:Sx) (w:ay),Sr F ts w b l u->u.d=d->aB au 161 #[rp b,O ae k] w fun e w'=>∃cs,e=aq (aj cs.toArray)/\oY true f w' (Fr w.heap.size) (kM ts f k u).1 cs/\Dn F ts w w' b l (kM ts f k u).2
theorem PU{f:Nat}(hf:0<f)(w:ay)(G:aL):oY true f w G Mp (om 0 [] [] [] Sl.nil Sl.nil Sl.nil Sl.nil 0):=by
 obtain⟨m,rfl⟩:∃m,f=m+1:=⟨f-1,by omega⟩
 exact⟨_,_,_,_,rfl,⟨jE.nil _ _ _ _ _ _,jE.nil _ _ _ _ _ _,jE.nil _ _ _ _ _ _⟩,jE.nil _ _ _ _ _ _⟩
abbrev V7(f B:Nat)(w:ay)(s:Sl)(xs:List Nd):Prop:=Own (oY true f) 9 27 B w (Fr B) s xs
theorem BN{f B g t:Nat}{iT:aK}{n1:Nb}{en lv mv l2 l8:Sl}{acc:List Nd}{x:Nd}{k:Int}{nm ini dft:aJ}{a b1 b2 b3:Sl}{at_:Int}{k0:Nat}{Q:ay->Prop}{H:aL}
  (hx:oY true f w H x (om k nm ini dft a b1 b2 b3 at_)) (hH:∀i,H i->i<w.heap.size->Fr B i/\l8.a≠some ⟨i,0,none⟩) (hH':∀i,H i->B<=i) (mM:V7 f B w l8 (acc++[Mp])) (hn:l2.n=acc.length)
  (wH:aH w g t (iT++om n1.k n1.nm n1.ini n1.dft en lv mv l2 n1.a)) (hg:g<B) (gU:k0<B) (hgk:k0≠g)
  (hQ:∀w',aH w' g t (iT++om n1.k n1.nm n1.ini n1.dft en lv mv l8 n1.a)->V7 f B w' l8 (acc++[x])->(∃gk,B<=gk/\aA [g,gk] w w')->Q w'):
  ∃p1:Addr,dL l8 (l2.n:Int) 9 p1/\∃p2:Addr,(some (⟨g,iT.length,none⟩:Addr))=(some p2)/\
   (∃wJ EC:Nat,∃z2:aK,∃LI:Nat,p1=⟨wJ,EC,none⟩/\aH w wJ LI z2/\(EC+9)<=z2.length/\k0≠wJ/\
    ∀iJ:ay,aA [wJ] w iJ->aH iJ wJ LI (cD z2 EC [O ae k,ah (T nm),ah (T ini),ah (T dft),a.v,b1.v,b2.v,b3.v,O ae at_])->∃Cm NN:Nat,∃z3:aK,∃k18:Nat,(p2.add 7)=⟨Cm,NN,none⟩/\
    aH iJ Cm k18 z3/\(NN+1)<=z3.length/\k0≠Cm/\∀iX:ay,aA [Cm] iJ iX->aH iX Cm k18 (cD z3 NN [l8.v])->Q iX)/\
   ∃GW ED:Nat,∃z4:aK,∃Zy:Nat,(p2.add 7)=⟨GW,ED,none⟩/\aH w GW Zy z4/\(ED+1)<=z4.length/\k0≠GW/\
    ∀fR:ay,aA [GW] w fR->aH fR GW Zy (cD z4 ED [l8.v])->∃Rs Zz:Nat,∃z5:aK,∃k24:Nat,p1=⟨Rs,Zz,none⟩/\
    aH fR Rs k24 z5/\(Zz+9)<=z5.length/\k0≠Rs/\∀jA:ay,aA [Rs] fR jA->aH jA Rs k24 (cD z5 Zz [O ae k,ah (T nm),ah (T ini),ah (T dft),a.v,b1.v,b2.v,b3.v,O ae at_])->Q jA:=by
 have bX:l2.n<(acc++[Mp]).length:=by rw[aU,bP];omega
 have xQ:(acc++[Mp]).set l2.n x=acc++[x]:=by rw[hn,AF _ _ (aY _),Ja];rfl
 obtain⟨gk,cells,a1,a2,a3,a4,a5⟩:=Own.store (cN true f) mM bX (vs:=om k nm ini dft a b1 b2 b3 at_) rfl hx hH (by decide);have hgB:=(mM.blk a1).1;dsimp only at hgB;refine⟨_,a2,_,rfl,⟨gk,l2.n*9,cells,_,rfl,a3,a4,by omega,fun iJ iu aai=>⟨g,iT.length+7,_,t,rfl,iu.blk wH (by simp only[aO];omega),by simp,hgk,fun iX ig RJ=>?_⟩⟩,g,iT.length+7,_,t,rfl,wH,by simp,hgk,fun fR iY afF=>?_⟩
 ·rw[lG]at RJ;have o15:=a5 iJ iu aai;rw[xQ]at o15;exact hQ iX RJ (o15.stay (cN true f) ig fun x hx=>.inl (by simp only[aO]at hx;omega)) ⟨gk,hgB,(iu.weaken (bs':=[g,gk]) fun x hx=>.inl (by simp only[aO]at hx;simp[hx])).trans ig fun x hx=>.inl (by simp only[aO]at hx;simp[hx])⟩
 ·rw[lG]at afF;have z17:=iY.size;have afG:V7 f B fR l8 (acc++[Mp]):=mM.stay (cN true f) iY fun x hx=>.inl (by simp only[aO]at hx;omega);have alY:oY true f fR (fun i=>H i/\i<w.heap.size) x (om k nm ini dft a b1 b2 b3 at_):=(cN true f).keep ((cN true f).inHeap hx) fun i hi bX=>iY.block i bX (by have:=hH' i hi.1;simp only[aO];omega);obtain⟨gk',aaj,c1,c2,c3,c4,c5⟩:=Own.store (cN true f) afG bX (vs:=om k nm ini dft a b1 b2 b3 at_) rfl alY (fun i hi _=>hH i hi.1 hi.2) (by decide);have e:gk'=gk:=by
   rw[a1]at c1;injection c1 with c1;injection c1 with c1;exact c1.symm
  subst e;refine⟨gk',l2.n*9,aaj,_,rfl,c3,c4,by omega,fun jA lO RP=>?_⟩;have o18:=c5 jA lO RP;rw[xQ]at o18;exact hQ jA (lO.blk afF (by simp only[aO];omega)) o18 ⟨gk',hgB,(iY.weaken (bs':=[g,gk']) fun x hx=>.inl (by simp only[aO]at hx;simp[hx])).trans lO fun x hx=>.inl (by simp only[aO]at hx;simp[hx])⟩
structure Kd (F:aL) (ts:List Tk) (w w':ay) (b:Nat) (l:Sl) (g t:Nat) (iT:aK) (f B B2:Nat) (n:Nb) (en lv mv:Sl) (s:Sx) (acc:List Nd) (kids:Sl):Prop where
 r:Sr F ts w' b l s
 nb:aH w' g t (iT++om n.k n.nm n.ini n.dft en lv mv kids n.a)
 no:Ds true w' (fun k=>B<=k/\k<B2) n en lv mv
 kd:V7 f B2 w' kids acc
 o:aA [b,g] w w'
 lB:B2<=w'.heap.size
section
variable {g t:Nat} {iT:aK} {f B B2:Nat} {n:Nb} {en lv mv kids:Sl} {acc:List Nd}
theorem Kd.nx(h:Kd F ts w w' b l g t iT f B B2 n en lv mv s acc kids)(IP:g≠b)(hb:b<B)(hB:B<=B2)(k:Dn F ts w' w2 b l s'):Kd F ts w w2 b l g t iT f B B2 n en lv mv s' acc kids:=
 ⟨k.r,k.o.blk h.nb (by simp only[aO];omega),h.no.keep fun i hi bX=>k.o.block i bX (by simp only[aO];omega),h.kd.stay (cN true f) k.o fun x hx=>.inl (by simp only[aO]at hx;omega),
  h.o.trans k.o fun x hx=>.inl (by simp only[aO]at hx;simp[hx]),bh h.lB k.o.size⟩
end
end
section
variable {F:aL} {ts:List Tk} {w w' w2:ay} {b:Nat} {l:Sl} {s s':Sx}
structure Cl0 (F:aL) (ts:List Tk) (w w':ay) (b:Nat) (l:Sl) (g t:Nat) (iT:aK) (kh B:Nat) (s:Sx) (n:Nb) (en lv mv:Sl):Prop where
 r:Sr F ts w' b l s
 nb:aH w' g t (iT++om n.k n.nm n.ini n.dft en lv mv Sl.nil n.a)
 no:NbO B w' n en lv mv
 o:∃gs,aA (b::g::kh::gs) w w'/\∀x,x∈gs->B<=x
 ng:g≠b/\¬F g
 nh:b<kh
 gh:g≠kh
 gB:g<B
 hB:kh<B
 lB:B<=w'.heap.size
section
variable {g t:Nat} {iT:aK} {kh B:Nat} {n:Nb} {h:Hj} {en lv mv:Sl}
theorem Cl.c0(c:Cl F ts w w' b l g t iT kh B s n h en lv mv):Cl0 F ts w w' b l g t iT kh B s n en lv mv:=⟨c.r,c.nb,c.no,c.o,c.ng,c.nh,c.gh,c.gB,c.hB,c.lB⟩
theorem Cl0.cl(c:Cl0 F ts w w' b l g t iT kh B s n en lv mv)(hb:aH w' kh 234 (MB h)):Cl F ts w w' b l g t iT kh B s n h en lv mv:=⟨c.r,c.nb,hb,c.no,c.o,c.ng,c.nh,c.gh,c.gB,c.hB,c.lB⟩
theorem Cl0.nx(c:Cl0 F ts w w' b l g t iT kh B s n en lv mv)(k:Dn F ts w' w2 b l s'):Cl0 F ts w w2 b l g t iT kh B s' n en lv mv:=by
 have ng:=c.ng;have gB:=c.gB;have nh:=c.nh;have hBl:=c.hB;obtain⟨gs,h1,h2⟩:=c.o;exact⟨k.r,k.o.blk c.nb (by simp only[aO];omega),c.no.go k.o fun x hx=>(by simp only[aO]at hx;omega),
  ⟨gs,h1.trans k.o fun x hx=>.inl (by simp only[aO]at hx;simp[hx]),h2⟩,ng,c.nh,c.gh,gB,c.hB,bh c.lB k.o.size⟩
theorem Cl0.q(c:Cl0 F ts w w' b l g t iT kh B s n en lv mv)(k:aA [] w' w2):Cl0 F ts w w2 b l g t iT kh B s n en lv mv:=c.nx (c.r.dn.q k)
theorem Cl0.sc(c:Cl0 F ts w w' b l g t iT kh B s n en lv mv)(k:Dn F ts w' w2 b l s'):ci [kh] w' w2:=k.o.same fun x hx=>by
 have:=c.nh;have:=c.hB;have:=c.lB;simp only[aO]at hx⊢;omega
theorem Cl0.sq(c:Cl0 F ts w w' b l g t iT kh B s n en lv mv)(k:aA [] w' w2):ci [kh] w' w2:=c.sc (c.r.dn.q k)
end
theorem H4(n:Nb)(h:Hj)(s:Sx):(eX ts n h s).2.1.mv.length<=n.mv.length+1:=by
 unfold eX;split
 ·dsimp only;rw[aU,bP];omega
 ·split
  ·exact iy _
  ·split<;>exact iy _
  ·split<;>exact iy _
  ·split<;>exact iy _
theorem Kx{f:Nat}(h:Sr F ts w b l s){g t:Nat}{iT:aK}{n:Nb}(Eg:n.en=[])(G4:n.lv=[])(rB:n.mv=[])(hB:aH w g t (iT++om n.k n.nm n.ini n.dft Sl.nil Sl.nil Sl.nil Sl.nil n.a))(hg:g≠b/\¬F g)(hd:ry s.d)(hN:s.fc=0->0<f/\V6 F ts b l f (xH s.d)):
  aB au 118 #[rp b,ai (some ⟨g,iT.length,none⟩)] w fun e w'=>e=aq (ak #[])/\∃cs,aH w' g t (iT++cs)/\oY true (f+1) w' (Fr w.heap.size) (qW ts (kM ts f) n s).1 cs/\aA [b,g] w w'/\Sr F ts w' b l (qW ts (kM ts f) n s).2:=by
 refine ret (ac3 _ _ _ _ ?_);intro k0 w0 gU fi cK;have t0:=h.zt.al cK gU fi;have hgw:=hB.lt;have hbw:=h.lb;refine⟨_,Blk.dZ t0.r.blk 6 rfl,b,6,_,_,rfl,t0.r.blk,by simp,t0.ne (by simp),fun w1 cF vJ=>?_⟩;have t1:Zt F ts w w1 b l {s with d:=xH s.d} [k0]:=t0.up cF vJ h.lt;have nb1:aH w1 g t (iT++om n.k n.nm n.ini n.dft Sl.nil Sl.nil Sl.nil Sl.nil n.a):=cF.blk (cK.blk hB (by simp)) (by simp only[aO];omega);have zw1:=t1.z.o.size;have zk:=(t1.z.k k0 (by simp)).2;generalize hBB:w1.heap.size=B at*
 have hgB:g<B:=by omega
 have c1:Cl0 F ts w w1 b l g t iT k0 B {s with d:=xH s.d} n Sl.nil Sl.nil Sl.nil:=⟨t1.r,nb1,⟨by rw[Eg];exact jE.nil _ _ _ _ _ _,by rw[G4];exact jE.nil _ _ _ _ _ _,by rw[rB];exact Own.nil _ _ _ _ _ _⟩,
  ⟨[],t1.z.o.weaken fun x hx=>.inl (by simp only[aO]at hx;simp[hx]),fun x hx=>(by cases hx)⟩,hg,by omega,by omega,hgB,zk,oC hBB.symm⟩
 have hbB:b<B:=by omega
 unfold qW;dsimp only;generalize hC:jT ts (ts.length+1) n ⟨false,false,false⟩ {s with d:=xH s.d}=C;have afH:On ts {s with d:=xH s.d} C.2:=by rw[<-hC];exact ug h.en _ _ _ _
 refine⟨fun nv b0 b1 b2 b3 w'=>∃(n':Nb) (hd:Hj) (s':Sx) (en lv mv:Sl),b0=false/\b1=hd.i/\b2=hd.e/\b3=hd.l/\Cl0 F ts w w' b l g t iT k0 B s' n' en lv mv/\jT ts nv n' hd s'=C/\mu ts s'<nv/\n'.mv.length+mu ts s'<=ts.length,ts.length+1,
  ⟨n,⟨false,false,false⟩,_,_,_,_,rfl,rfl,rfl,rfl,c1,hC,uC (qY _ _),by rw[rB,cO,bM];exact qY _ _⟩,?_⟩
 rintro nv _ _ _ _ w2 ⟨n',hd',s',en,lv,mv,rfl,rfl,rfl,rfl,c2,hR,Zm,NL⟩;obtain⟨m,rfl⟩:∃m,nv=m+1:=⟨nv-1,by omega⟩
 rw[jT]at hR;refine⟨fun b4 b5 b6 b7 b8 w'=>(b4=true/\∃(n':Nb) (hd:Hj) (s':Sx) (en lv mv:Sl),b5=false/\b6=hd.i/\b7=hd.e/\b8=hd.l/\Cl0 F ts w w' b l g t iT k0 B s' n' en lv mv/\jT ts m n' hd s'=C/\mu ts s'<m/\n'.mv.length+mu ts s'<=ts.length)∨
  (b4=false/\∃(en lv mv:Sl),Cl0 F ts w w' b l g t iT k0 B C.2 C.1 en lv mv),?_,(lY c2.r).mono ?_⟩
 rotate_left
 ·rintro _ A5 ⟨rfl,sH⟩;have c29:=c2.q sH;refine⟨_,rfl,c2.sq sH,fun hc hBk=>?_,fun hc=>?_⟩
  ·have hc:s'.fc=0:=by simpa using hc
   rw[if_neg (by simp[hc])]at hR;have Cs:=qY ts s';have bX:=c2.r.lt;have as0:0<mu ts s':=by unfold mu;rw[if_pos hc];omega
   have fu:=H4 (ts:=ts) n' hd' s';refine(MC (c29.cl (h:=hd') hBk) (by omega)).mono ?_;rintro _ NQ ⟨rfl,xT,xU,tq,c30⟩;refine⟨_,rfl,_,_,_,_,c30.hb,?_⟩;cases qf:(eX ts n' hd' s').1 with
   | true=>
    rw[if_pos qf]at hR;have hmu:=Mu h.en n' hd' hc bX qf;exact .inl ⟨rfl,_,_,_,_,_,_,rfl,rfl,rfl,rfl,c30.c0,hR,by omega,by omega⟩
   | false=>
    rw[if_neg (by rw[qf];decide)]at hR;refine .inr ⟨rfl,xT,xU,tq,?_⟩;rw[<-hR];exact c30.c0
  ·have hc:s'.fc≠0:=by simpa using hc
   rw[if_pos hc]at hR;refine .inr ⟨rfl,en,lv,mv,?_⟩;rw[<-hR];exact c29
 clear hR Zm NL c2;rintro b4 b5 b6 b7 b8 w3 (⟨rfl,hh⟩ | ⟨rfl,en,lv,mv,c3⟩)
 ·exact⟨fun _=>⟨m,Nq _,hh⟩,fun hh=>(by cases hh)⟩
 refine⟨fun hh=>(by cases hh),fun _=>?_⟩;generalize C.1=n1 at*
 generalize C.2=s1 at*
 have hsB:B<=w3.heap.size:=c3.lB;have no3:Ds true w3 (fun k=>B<=k/\k<w3.heap.size) n1 en lv mv:=
  ⟨(c3.no.en.inHeap (dN true) (by decide)).mono (dN true) fun k hk=>⟨hk.1.1,hk.2⟩,(c3.no.lv.inHeap (dN true) (by decide)).mono (dN true) fun k hk=>⟨hk.1.1,hk.2⟩,(c3.no.mv.sl (mE true) fun k hk=>hk).inHeap (mE true) (by decide)⟩
 obtain⟨gs3,o3,o3'⟩:=c3.o;have o3:aA [b,g] w w3:=o3.weaken fun x hx=>by
  simp only[aR]at hx;rcases hx with rfl | rfl | rfl | hx
  ·exact .inl (by simp)
  ·exact .inl (by simp)
  ·exact .inr gU
  ·exact .inr (bh zw1 (o3' x hx))
 have k3:Kd F ts w w3 b l g t iT f B w3.heap.size n1 en lv mv s1 [] Sl.nil:=⟨c3.r,c3.nb,no3,Own.nil _ _ _ _ _ _,o3,aY _⟩
 generalize re:w3.heap.size=B2 at*
 clear c3 no3 o3 o3' hC;generalize hK:u4 ts (kM ts f) (ts.length+1) [] s1=K;have sk:∀{u u':ay} {x y:Sx},B2<=u.heap.size->Dn F ts u u' b l y->ci [k0] u u':=fun hz k=>k.o.same fun x hx=>by
  simp only[aO]at hx⊢;omega
 have RQ:∀{u u':ay} {x y:Sx} {acc:List Nd} {kids:Sl},Kd F ts w u b l g t iT f B B2 n1 en lv mv x acc kids->Dn F ts u u' b l y->Kd F ts w u' b l g t iT f B B2 n1 en lv mv y acc kids:=fun a k=>a.nx hg.1 hbB hsB k;have go:∀{u:ay} {x:Sx} {acc:List Nd} {kids:Sl},Kd F ts w u b l g t iT f B B2 n1 en lv mv x acc kids->∃(q:Sl) (u2:ay),(aw 31 4 #[.mk 0 (ah (ar #[115,116,97,116,101])),.mk 1 (ah (ar #[112,97,114,97,108,108,101,108])),.mk 2 (ah (ar #[104,105,115,116,111,114,121])),.mk 3 (ah (ar #[100,101,101,112]))]).run au u=.ok q.v u2/\ci [k0] u u2/\aB au 159 #[rp b,q.v] u2 fun e u3=>e=aq (O ae (cT ts x qI:Nat))/\ci [k0] u2 u3/\Kd F ts w u3 b l g t iT f B B2 n1 en lv mv x acc kids:=fun{u x acc kids} a=>by
  obtain⟨q,u2,e1,hO,hm⟩:=Ks a.r qI (n:=4) (parts:=#[(0,ah (T Dh)),(1,ah (T sW)),(2,ah (T uZ)),(3,ah (T JX))]) rfl rfl (by decide) (by decide);have a2:=RQ a (a.r.dn.q hO);refine⟨q,u2,e1,sk (x:=x) a.lB (a.r.dn.q hO),hm.mono ?_⟩;rintro _ u3 ⟨rfl,dx⟩;exact⟨rfl,sk (x:=x) a2.lB (a2.r.dn.q dx),RQ a2 (a2.r.dn.q dx)⟩
 obtain⟨q,w4,e1,hs4,hm4⟩:=go k3;refine⟨q,w4,e1,hs4,hm4.mono ?_⟩;rintro _ w5 ⟨rfl,LN,k5⟩;refine⟨_,rfl,LN,fun nv i2 _ _ _ _ w'=>∃(s':Sx) (acc:List Nd) (kids:Sl),i2=((cT ts s' qI:Nat):Int)/\Kd F ts w w' b l g t iT f B B2 n1 en lv mv s' acc kids/\u4 ts (kM ts f) nv acc s'=K/\mu ts s'<nv/\acc.length+mu ts s'<=ts.length/\s'.d=xH s.d/\(s'.fc=0->s.fc=0),ts.length+1,
  ⟨s1,[],Sl.nil,rfl,k5,hK,uC (qY _ _),by rw[cO,bM];exact qY _ _,afH.d,fun e=>(afH.le e).1⟩,?_⟩
 clear LN k5 hm4 hs4 e1 k3 hK;rintro nv _ b9 WH WI WJ w6 ⟨s',acc,kids,rfl,k6,hR,Zm,NL,hd6,hz6⟩;obtain⟨m',rfl⟩:∃m',nv=m'+1:=⟨nv-1,by omega⟩
 rw[u4]at hR;have hkb:k0≠b:=t0.ne (by simp);have hkg:k0≠g:=by omega
 refine⟨fun hc=>?_,fun hc=>?_⟩
 ·have hc:=MA hc;rw[if_neg hc]at hR;obtain⟨hfc,Cp⟩:=dl hc;obtain⟨hf0,hNC⟩:=hN (hz6 hfc);have bX:=k6.r.lt;refine⟨_,Blk.dZ k6.r.blk 1 rfl,b,1,_,_,rfl,k6.r.blk,by simp,hkb,fun w7 fI hB7=>?_⟩;rw[k6.r.wr]at hB7;have k7:=RQ k6 (y:=dA s') ⟨fI,k6.r.nu fI hB7 (zN k6.r hc)⟩;have A4:=h.sm;have hmul:=qY ts s';have RR:=Kb h.en f (cT ts s' qI:Nat) (dA s') (by show ry s'.d;rw[hd6];exact Ob _);have hmu:=oM h.en hfc bX Cp RR.toOn0;generalize cT ts s' qI=kk at*
  generalize hNx:kM ts f (kk:Int) (dA s')=N at*
  have al1:N.2.d=xH s.d:=RR.d.trans hd6;have al2:N.2.fc=0->s.fc=0:=fun e=>hz6 (RR.le e).1;refine⟨fun _ _ _ _ w'=>∃li,Kd F ts w w' b l g t iT f B B2 n1 en lv mv N.2 (acc++[N.1]) li,fun Zx b14 b15 b16 w8 h8=>?_,fun dJ dT=>?_⟩
  ·obtain⟨li,k8⟩:=h8;obtain⟨q,w9,e1,hs9,hm9⟩:=go k8;refine⟨q,w9,e1,hs9,hm9.mono ?_⟩;rintro _ dI ⟨rfl,al3,po⟩;exact⟨_,rfl,al3,m',Nq _,_,_,_,rfl,po,hR,by omega,by rw[aU,bP];omega,al1,al2⟩
  ·have qR:=RQ k7 (k7.r.dn.q dT);have Co:=qR.lB;have uo:∀{u:ay},Sr F ts u b l (dA s')->aB au 161 #[rp b,O ae (kk:Int)] u fun e w'=>∃cs,e=aq (aj cs.toArray)/\oY true f w' (Fr u.heap.size) N.1 cs/\Dn F ts u w' b l N.2:=fun hu=>by
    have:=hNC (kk:Int) (dA s') _ hu hd6;rw[hNx]at this;exact this
   have Cu:∀{u u':ay} {bs:List Nat},aA bs u u'->(∀x,x∈bs->x≠g)->bS (fun k=>k=g) u u':=fun hO hb k hk bX=>by subst hk;exact hO.block k bX fun hm=>hb k hm rfl
   have zc:Value.cells (aj (om 0 [] [] [] Sl.nil Sl.nil Sl.nil Sl.nil 0).toArray)=(om 0 [] [] [] Sl.nil Sl.nil Sl.nil Sl.nil 0).toArray:=rfl;have hz:∀(u:ay),∃(y:Sl) (u2:ay),(aw 25 1 #[.mk 0 (aj (om 0 [] [] [] Sl.nil Sl.nil Sl.nil Sl.nil 0).toArray)]).run au u=.ok y.v u2/\Own (oY true f) 9 27 u.heap.size u2 (fun _=>False) y [Mp]/\aA [] u u2:=fun u=>by
    obtain⟨y,u2,a1,a2,a3,_⟩:=kx (P:=au) (t:=25) (e:=27) (i:=Tryz.t27) (w:=u) (F:=fun _=>False) (r:=oY true f) (size:=9) (vs:=[aj (om 0 [] [] [] Sl.nil Sl.nil Sl.nil Sl.nil 0).toArray]) (xs:=[Mp]) (len:=1) (parts:=#[(0,aj (om 0 [] [] [] Sl.nil Sl.nil Sl.nil Sl.nil 0).toArray)]) (by kernel_rfl) (by kernel_rfl) rfl rfl (by decide) rfl rfl (by decide) (by decide) (cN true f) ⟨⟨rfl,PU hf0 _ _⟩,trivial⟩;exact⟨y,u2,a1,a2,a3⟩
   have afJ:∀{u:ay} {y:Sl} {A:Nat},B2<=A->V7 f B2 u kids acc->(∀k,A<=k->kids.a≠some ⟨k,0,none⟩)->aD (oY true f) 9 u (Fr A) y [Mp]->A<=u.heap.size->∃(s8:Sl) (u2:ay),(Builtin.append_ #[25,25] 25 #[kids.v,y.v]).run au u=.ok s8.v u2/\V7 f B2 u2 s8 (acc++[Mp])/\(∃gs,aA gs u u2/\∀x,x∈gs->B2<=x/\x<A)/\(∀k,A<=k->k<u.heap.size->s8.a≠some ⟨k,0,none⟩):=fun{u y A} hA ho hk hy hAu=>by
    obtain⟨s8,u2,a1,a2,gs,a3,a4,a5⟩:=uF (P:=au) (t:=25) (ty:=25) (e:=27) (i:=Tryz.t27) (bytes:=160) (size:=9) (y:=y) (ys:=[Mp]) (by kernel_rfl) (by kernel_rfl) rfl rfl rfl rfl (cN true f) ho (hy.mono (cN true f) fun k iv=>⟨bh hA iv,hk k iv⟩) (bh hA hAu) (by rw[bP];omega) (by decide);refine⟨s8,u2,a1,a2,⟨gs,a3,fun x hx=>⟨(a4 x hx).2.1,?_⟩⟩,fun k h1 h2=>?_⟩
    ·exact Nat.lt_of_not_le fun ma=>hk x ma (a4 x hx).1
    ·rcases a5 with a5 | a5
     ·rw[a5];exact hk k h1
     ·rw[a5];intro e;injection e with e;injection e with e;omega
   have U9:∀{u:ay} {s8:Sl},Sr F ts u b l N.2->aH u g t (iT++om n1.k n1.nm n1.ini n1.dft en lv mv kids n1.a)->Ds true u (fun k=>B<=k/\k<B2) n1 en lv mv->aA [b,g] w u->B2<=u.heap.size->V7 f B2 u s8 (acc++[Mp])->∀w',aH w' g t (iT++om n1.k n1.nm n1.ini n1.dft en lv mv s8 n1.a)->V7 f B2 w' s8 (acc++[N.1])->(∃gk,B2<=gk/\aA [g,gk] u w')->∃li,Kd F ts w w' b l g t iT f B B2 n1 en lv mv N.2 (acc++[N.1]) li:=fun hr wH Zo ho hz _ w' h1 h2 ⟨gk,h3,h4⟩=>
    ⟨_,hr.far h4 fun x hx=>(by
     simp only[aR,bf,bU]at hx;rcases hx with rfl | rfl
     ·exact hg
     ·exact hr.gt (by omega)),h1,Zo.keep fun i hi bX=>h4.block i bX (by simp only[aR,bf,bU];omega),h2,ho.trans h4 fun x hx=>by
     simp only[aR,bf,bU]at hx⊢;omega,bh hz h4.size⟩
   refine⟨fun k=>k=g,_,rfl,rfl,kids,qR.nb.ND (iT.length+7) (Kw rfl),(uo qR.r).mono ?_,?_⟩
   ·rintro _ fg ⟨cs,rfl,hx,AD⟩;have Hg:=RQ qR AD;have AA:=hx;obtain⟨f',rfl⟩:∃f',f=f'+1:=⟨f-1,by omega⟩
    obtain⟨xe,xl,xm,xk,rfl,_⟩:=AA;obtain⟨y,fC,e2,hy,eS⟩:=hz fg;have wJ:=RQ Hg (Hg.r.dn.q eS);obtain⟨s8,fT,e3,I0,⟨gs,dU,rm⟩,hs8⟩:=afJ (u:=fC) (y:=y) (A:=dJ.heap.size) Co wJ.kd (fun k hk=>qR.kd.new hk) ((hy.slice (cN true _)).mono (cN true _) fun k hk=>(by
     rcases hk with hk | hk
     ·exact hk.elim
     ·exact bh AD.o.size hk.1)) (bh AD.o.size eS.size)
    have Hk:∀x,x∈gs->x≠g:=fun x hx=>by have:=(rm x hx).1;omega
    have ZL:=dU.size;have SE:=wJ.lB;have z12:=AD.o.size;refine⟨_,_,_,_,xe,xl,xm,xk,_,rfl,sk (x:=s') qR.lB AD,Cu AD.o (by simp only[aO];omega),y,fC,e2,sk (x:=s') Hg.lB (Hg.r.dn.q eS),Cu eS (by simp),s8,fT,e3,dU.same (fun x hx=>?_),Cu dU Hk,?_⟩
    ·simp only[aO]at hx;subst hx;exact⟨by omega,fun hm=>by have:=(rm x hm).1;omega⟩
    ·refine BN (H:=fun k=>dJ.heap.size<=k/\k<fg.heap.size) (acc:=acc) ?_ (fun k hk _=>⟨bh Co hk.1,hs8 k hk.1 (cx hk.2 eS.size)⟩) (fun k hk=>bh Co hk.1) I0 qR.kd.len (dU.blk wJ.nb fun hm=>Hk g hm rfl) (by omega) (by omega) hkg (U9 (wJ.r.own dU fun x hx=>(by have:=(rm x hx).1;omega)) (dU.blk wJ.nb fun hm=>Hk g hm rfl) (wJ.no.keep fun i hi bX=>dU.block i bX fun hm=>(by have:=(rm i hm).1;omega)) (wJ.o.trans dU fun x hx=>.inr (by have:=(rm x hx).1;have:=qR.o.size;omega)) (bh SE ZL) I0);refine(cN true _).keep ((cN true _).inHeap hx) fun k hk bX=>?_;exact(dU.block k (cx bX eS.size) fun hm=>by have:=(rm k hm).2;have:=hk.1;omega).trans (eS.block k bX (by simp))
   ·obtain⟨y,jO,e2,hy,kU⟩:=hz dJ;have GW:=RQ qR (qR.r.dn.q kU);refine⟨y,jO,e2,sk (x:=s') qR.lB (qR.r.dn.q kU),Cu kU (by simp),(uo GW.r).mono ?_⟩;rintro _ jm ⟨cs,rfl,hx,ZP⟩;have ED:=RQ GW ZP;have AA:=hx;obtain⟨f',rfl⟩:∃f',f=f'+1:=⟨f-1,by omega⟩
    obtain⟨xe,xl,xm,xk,rfl,_⟩:=AA;have al5:=(((hy.slice (cN true _)).inHeap (cN true _) (by decide)).keep (cN true _) (by decide) (w':=jm) fun k hk bX=>ZP.o.block k bX (by
     rcases hk.1 with hk | hk
     ·exact hk.elim
     ·have:=hk.1;simp only[aO];omega)).mono (cN true _) (G:=Fr dJ.heap.size) fun k hk=>(by
     rcases hk.1 with hk | hk
     ·exact hk.elim
     ·exact hk.1)
    obtain⟨s8,kV,e3,I0,⟨gs,ku,rm⟩,hs8⟩:=afJ (u:=jm) (y:=y) (A:=dJ.heap.size) Co ED.kd (fun k hk=>qR.kd.new hk) al5 (bh kU.size ZP.o.size);have Hk:∀x,x∈gs->x≠g:=fun x hx=>by have:=(rm x hx).1;omega
    have z21:=ku.size;have z20:=ED.lB;have z19:=kU.size;refine⟨_,_,_,_,xe,xl,xm,xk,_,rfl,sk (x:=s') GW.lB ZP,Cu ZP.o (by simp only[aO];omega),s8,kV,e3,ku.same (fun x hx=>?_),Cu ku Hk,?_⟩
    ·simp only[aO]at hx;subst hx;exact⟨by omega,fun hm=>by have:=(rm x hm).1;omega⟩
    ·refine BN (H:=fun k=>jO.heap.size<=k/\k<jm.heap.size) (acc:=acc) ?_ (fun k hk _=>⟨by show B2<=k;omega,hs8 k (by omega) hk.2⟩) (fun k hk=>by omega) I0 qR.kd.len (ku.blk ED.nb fun hm=>Hk g hm rfl) (by omega) (by omega) hkg (U9 (ED.r.own ku fun x hx=>(by have:=(rm x hx).1;omega)) (ku.blk ED.nb fun hm=>Hk g hm rfl) (ED.no.keep fun i hi bX=>ku.block i bX fun hm=>(by have:=(rm i hm).1;omega)) (ED.o.trans ku fun x hx=>.inr (by have:=(rm x hx).1;have:=qR.o.size;omega)) (bh z20 z21) I0);refine(cN true _).keep ((cN true _).inHeap hx) fun k hk bX=>?_;exact ku.block k bX fun hm=>by have:=(rm k hm).2;have:=hk.1;omega
 ·have hc:=Mz hc;rw[if_pos hc]at hR;refine⟨_,Blk.dZ k6.r.blk 6 rfl,b,6,_,_,rfl,k6.r.blk,by simp,hkb,fun rb jy al7=>?_⟩;have U0:=RQ k6 (y:={s' with d:=inc s'.d}) ⟨jy,k6.r.nu jy al7 k6.r.lt⟩;obtain⟨q,uy,e1,sI,hm⟩:=pW U0.r [125];have k27:=RQ U0 (U0.r.dn.q sI);refine⟨q,uy,e1,sk (x:=s') U0.lB (U0.r.dn.q sI),hm.mono ?_⟩;rintro _ Aw ⟨rfl,h28⟩;have Rt:=RQ k27 h28;refine⟨rfl,sk (x:=s') k27.lB h28,rfl,_,Rt.nb,?_,Rt.o,?_⟩
  ·rw[<-hR];refine⟨en,lv,mv,kids,rfl,Rt.no.mono fun k hk=>bh zw1 hk.1,(Rt.kd.sl (cN true f) fun k hk=>hk).low (cN true f) (by omega)⟩
  ·rw[<-hR];exact Rt.r
end
def Tk.Good(t:Tk):Prop:=(t.k=2->∃c r,t.t=c::r/\iB c=true)/\(t.k=4->∃c r,t.t=c::r/\iB c=false)/\0<=t.n/\t.n<=9223372036854775807
theorem PV{m:aJ}{q:Tq}(h:uU m=.ok q):q.1≠5/\∀a,Tk.Good ⟨q.1,q.2.1,q.2.2.1,a⟩:=by
 cases m with
 | nil=>cases h
 | cons c r=>
  simp only[uU]at h;split at h
  ·rename_i hc;unfold tK at h;split at h
   ·cases h
   ·injection h with h;subst h;have hw:iB c=true:=by unfold iB;rw[hc];rfl
    refine⟨by dsimp only;split<;>decide,fun a=>⟨fun _=>?_,fun h4=>?_,by dsimp only;decide,by dsimp only;decide⟩⟩
    ·dsimp only;rw[eF,if_pos hw];exact⟨c,_,rfl,hw⟩
    ·dsimp only at h4;split at h4<;>exact absurd h4 (by decide)
  ·rename_i hl;split at h
   ·rename_i hc;unfold zl at h;split at h
    ·cases h
    ·split at h
     ·cases h
     ·injection h with h;subst h;refine⟨by dsimp only;decide,fun a=>⟨fun h=>absurd h (by dsimp only;decide),fun h=>absurd h (by dsimp only;decide),by dsimp only;omega,?_⟩⟩;dsimp only;unfold gV;split
      ·dsimp only;decide
      ·split
       ·dsimp only;decide
       ·split
        ·dsimp only;omega
        ·dsimp only;decide
   ·rename_i hd;unfold tL at h;split at h
    ·cases h
    ·rename_i hs;injection h with h;subst h;refine⟨by dsimp only;decide,fun a=>⟨fun h=>absurd h (by dsimp only;decide),fun _=>?_,by dsimp only;decide,by dsimp only;decide⟩⟩;obtain⟨n,hn⟩:∃n,mT (c::r)=n+1:=⟨mT (c::r)-1,by omega⟩
     dsimp only;rw[hn,fD];refine⟨c,_,rfl,?_⟩;unfold iB;rw[gP];exact⟨by simpa using hl,by simpa using hd⟩
theorem FZ{l:aJ}:∀(n i:Nat),i<=l.length->l.length-i<=n->∀r,uW l i=.ok r->∃(fr:List Tk) (a:Int),r=fr++[⟨5,[],0,a⟩]/\(∀t,t∈fr->t.k≠5/\t.Good)/\r.length<=l.length-i+1
 | n,i,hi,hn,r,h=>by
  rw[pK hi]at h;split at h
  ·injection h with h;exact⟨[],_,h.symm,fun t ht=>(by cases ht),by rw[<-h,bP];omega⟩
  ·split at h
   ·cases h
   ·rename_i q hq;have q1:=uV hq;have q2:=Da hq;rw[cG]at q2;split at h
    ·cases h
    ·rename_i r' hr';injection h with h;subst h
     match n,hn with
     | 0,hn=>omega
     | n+1,hn=>
      obtain⟨fr,a,e,hf,hl⟩:=FZ n _ (by omega) (by omega) _ hr';have hg:=PV hq;refine⟨_::fr,a,by rw[e];rfl,fun t ht=>?_,by rw[bp];omega⟩;rcases aR.1 ht with rfl | ht
      ·exact⟨hg.1,hg.2 _⟩
      ·exact hf t ht
theorem TZ{fr:List Tk}{a:Int}(h:∀t,t∈fr->t.k≠5):wa (fr++[⟨5,[],0,a⟩]):=fun i hi=>by
 rw[aU,bP]at hi;unfold tk;by_cases hl:i<fr.length
 ·rw[bJ hl,aV hl,jJ,aU,bP];exact⟨fun e=>absurd e (h _ (eJ hl)),fun e=>by omega⟩
 ·have e:i=fr.length:=by omega
  subst e;rw[cd (aY _),Ja,aU,bP];exact⟨fun _=>rfl,fun _=>rfl⟩
theorem Ky{l:aJ}:∀(n i:Nat),i<=l.length->l.length-i<=n->∀x,uW l i=.error x->x.1≠0
 | n,i,hi,hn,x,h=>by
  rw[pK hi]at h;split at h
  ·cases h
  ·split at h
   ·rename_i e hq;injection h with h;subst h;exact JJ hq
   ·rename_i q hq;have q1:=uV hq;have q2:=Da hq;rw[cG]at q2;split at h
    ·rename_i y hy;injection h with h;subst h
     match n,hn with
     | 0,hn=>omega
     | n+1,hn=>exact Ky n _ (by omega) (by omega) _ hy
    ·cases h
theorem H5{l:aJ}(h:(dq l).2.1=0):wa (dq l).1/\(∀t,t∈(dq l).1->t.Good)/\0<(dq l).1.length/\(dq l).1.length<=16385:=by
 unfold dq at h⊢;split at h
 ·cases h
 ·rename_i hl;rw[if_neg hl];cases hr:uW l 0 with
  | error x=>
   rw[hr]at h;exact absurd h (Ky l.length 0 (bA _) (by omega) _ hr)
  | ok r=>
   obtain⟨fr,a,e,hf,hn⟩:=FZ l.length 0 (bA _) (by omega) r hr;dsimp only;subst e;refine⟨TZ fun t ht=>(hf t ht).1,fun t ht=>?_,by rw[aU,bP];omega,by omega⟩;rcases ch.1 ht with ht | ht
   ·exact(hf t ht).2
   ·simp only[aO]at ht;subst ht;exact⟨fun h=>absurd h (by dsimp only;decide),fun h=>absurd h (by dsimp only;decide),by dsimp only;decide,by dsimp only;decide⟩
section
variable {F:aL} {ts:List Tk} {w w' w2:ay} {b:Nat} {l:Sl} {s s':Sx}
theorem Kz:∀(f:Nat) (d:Int),0<=d->d<f->d<=9223372036854775807->V6 F ts b l f d
 | 0,d,h0,h1,_=>by omega
 | f+1,d,h0,h1,h2=>by
  intro k u w h hd;refine(adg ⟨b,0,none⟩ k (fun v w'=>∃cs,v=(aj cs.toArray)/\oY true (f+1) w' (Fr w.heap.size) (kM ts (f+1) k u).1 cs/\Dn F ts w w' b l (kM ts (f+1) k u).2) w ?_).mono (by
   rintro e w' ⟨v,rfl,cs,rfl,h⟩;exact⟨cs,rfl,h⟩)
  intro k0 w0 gU fi cK;have t0:=h.zt.al cK gU fi;refine(FY t0.r k).mono ?_;rintro _ w1 ⟨rfl,h1'⟩;have t1:=t0.nx h1';have RR:=zC h.en k u;have hnd:=TP (ts:=ts) (k:=k) (s:=u);rw[kM];have wH:(eY ts k u).1.ini=[]/\(eY ts k u).1.dft=[]/\(eY ts k u).1.en=[]/\(eY ts k u).1.lv=[]/\(eY ts k u).1.mv=[]:=⟨rfl,rfl,rfl,rfl,rfl⟩
  generalize eY ts k u=N at*
  obtain⟨nb,u1⟩:=N;dsimp only at*
  obtain⟨i1,i2,i3,i4,i5⟩:=wH;obtain⟨nk,nnm,al8,al9,nen,nlv,nmv,na⟩:=nb;dsimp only at i1 i2 i3 i4 i5;subst i1 i2 i3 i4 i5;dsimp only at*
  refine⟨_,_,_,_,Sl.nil,Sl.nil,Sl.nil,Sl.nil,_,rfl,t0.sc h1' (by simp),fun hc k1 w2 ke jH dh=>?_,fun hc k2 dI tF wM eH=>?_⟩
  ·rw[if_pos (by have:=aP hc;omega)];have t2:=t1.al dh ke jH;obtain⟨q,w3,e1,dx,hm⟩:=pW t2.r [45,62];have t3:=t2.q dx;refine⟨q,w3,e1,t2.sq dx (by simp),hm.mono ?_⟩;rintro _ w4 ⟨rfl,h4⟩;have t4:=t3.nx h4;refine⟨rfl,t3.sc h4 (by simp),(u7 t4.r).mono ?_⟩;rintro _ w5 ⟨rfl,h5⟩;have t5:=t4.nx h5;refine⟨_,rfl,t4.sc h5 (by simp),fun w6 ez=>?_⟩;have t6:=t5.f ez (by simp);obtain⟨q,w7,e1,fI,hm⟩:=pW t6.r [59];have t7:=t6.q fI;refine⟨q,w7,e1,t6.sq fI (by simp),hm.mono ?_⟩;rintro _ w8 ⟨rfl,h8⟩;have t8:=t7.nx h8;refine⟨rfl,t7.sc h8 (by simp),fun w9 gv=>⟨_,rfl,⟨Sl.nil,Sl.nil,Sl.nil,Sl.nil,rfl,⟨jE.nil _ _ _ _ _ _,jE.nil _ _ _ _ _ _,jE.nil _ _ _ _ _ _⟩,jE.nil _ _ _ _ _ _⟩,(t8.f gv (by simp)).dn⟩⟩
  ·rw[if_neg (by have:=aW hc;omega)];have t10:=t1.al eH tF wM;obtain⟨q,dJ,e1,dT,hm⟩:=pW t10.r [123];have t11:=t10.q dT;refine⟨q,dJ,e1,t10.sq dT (by simp),hm.mono ?_⟩;rintro _ fg ⟨rfl,AD⟩;have t12:=t11.nx AD;have hms:=ic (s:=u1) h.en [123];refine⟨rfl,t11.sc AD (by simp),fun hB _=>?_⟩;have hsd:(eB ts u1 [123]).d=d:=hms.d.trans (RR.d.trans hd);refine(Kx (f:=f) t12.r (iT:=[]) (n:=⟨nk,nnm,[],[],[],[],[],na⟩) rfl rfl rfl hB (t12.r.gt (t12.lt (by simp))) (by rw[hsd];exact⟨by omega,h2⟩) (fun hf=>?_)).mono ?_
   ·have hd0:=hnd (hms.le hf).1;rw[hd]at hd0;have Sy:xH d=d-1:=by unfold xH;rw[gD (by omega) (by omega)]
    rw[hsd,Sy];exact⟨by omega,Kz f (d-1) (by omega) (by omega) (by omega)⟩
   ·rintro _ fC ⟨rfl,cs,Ay,hx,eS,ama⟩;have AA:=hx;obtain⟨xe,xl,xm,xk,rfl,_⟩:=AA;have SE:Fz [b] w fC [k2,k0]:=t12.z.go eS fun x hx=>(by simp only[aR,bf,bU]at hx⊢;omega)
    have l2:=t12.lt (k0:=k2) (by simp);have l0:=t12.lt (k0:=k0) (by simp);have k0l:=(t1.z.k k0 (by simp)).2;refine⟨rfl,t12.z.sm eS (by simp) (fun x hx=>?_),_,_,_,_,xe,xl,xm,xk,_,Ay,fun fT dU GY=>⟨_,rfl,?_,?_⟩⟩
    ·simp only[aR,bf,bU]at hx;rcases hx with rfl | rfl
     ·exact .inl (by simp)
     ·exact .inr fun y hy=>by simp only[aO]at hy;omega
    ·refine(cN true _).low ((cN true _).stay hx ((Stay.refl _ _).f dU (.inl ?_))) t12.z.o.size;have:=(t12.z.k k0 (by simp)).2;exact this
    ·exact⟨(SE.f dU (by simp)).o,ama.one dU l0⟩
theorem Yl(h:Sr F ts w b l s)(hg:∀t,t∈ts->t.Good):aB au 117 #[rp b] w fun e w'=>e=aq (aj #[ah (T (uf ts s).1.n),O ae (uf ts s).1.v,O ae (uf ts s).1.a])/\Dn F ts w w' b l (uf ts s).2:=by
 refine ret (ac2 _ _ _ ?_);intro k0 w0 gU fi cK;have t0:=h.zt.al cK gU fi;obtain⟨ad,g1,g2⟩:=t0.r.now;unfold uf;dsimp only;generalize ux:(if(tk ts s.i).k=1 then FI ts s else s)=s1;refine⟨fun w'=>Zt F ts w w' b l s1 [k0],fun w1 t1=>(u6 t1.r (k:=1) (by decide)).mono ?_,l,Blk.dZ t0.r.blk 0 rfl,_,Blk.dZ t0.r.blk 1 rfl,ad,g1,_,g2.dZ 0 _ rfl,fun hc fg fj=>?_,fun hc fT dU=>?_⟩
 ·rintro _ w2 ⟨rfl,h2⟩;have t2:=t1.nx h2;refine⟨_,_,_,_,rfl,t1.sc h2 (by simp),fun k1 w3 ke jH dx=>?_⟩;have t3:=t2.al dx ke jH;obtain⟨q,w4,e1,dP,hm⟩:=pW t3.r [61];have t4:=t3.q dP;refine⟨q,w4,e1,t3.sq dP (by simp),hm.mono ?_⟩;rintro _ w5 ⟨rfl,h5⟩;have t5:=t4.nx h5;refine⟨rfl,t4.sc h5 (by simp),?_⟩;obtain⟨q,w6,e1,ez,hm⟩:=BM t5.r [[45]] (n:=1) (parts:=#[(0,ah (T [45]))]) rfl rfl (by decide) (by decide);have t6:=t5.q ez;refine⟨q,w6,e1,t5.sq ez (by simp),hm.mono ?_⟩;rintro _ w7 ⟨rfl,h7⟩;have t7:=t6.nx h7;generalize hgg:cT ts (eB ts (gK ts s1 1).2 [61]) [[45]]=gg at*
  have hgl:gg<=1:=by rw[<-hgg];exact FL _
  refine⟨_,rfl,t6.sc h7 (by simp),(u6 t7.r (k:=3) (by decide)).mono ?_⟩;rintro _ w8 ⟨rfl,h8⟩;have t8:=t7.nx h8;refine⟨_,_,_,_,rfl,t7.sc h8 (by simp),?_⟩;obtain⟨q,w9,e1,gv,hm⟩:=pW t8.r [59];have t9:=t8.q gv;refine⟨q,w9,e1,t8.sq gv (by simp),hm.mono ?_⟩;rintro _ dI ⟨rfl,RI⟩;refine⟨rfl,t9.sc RI (by simp),fun dJ dT=>⟨?_,((t9.nx RI).f dT (by simp)).dn⟩⟩;have hn:∀u:Sx,0<=(gK ts u 3).1.n/\(gK ts u 3).1.n<=9223372036854775807:=fun u=>by
   unfold gK;split
   ·exact⟨nJ 0,(by decide:(0:Int)<=9223372036854775807)⟩
   ·unfold tk;cases hx:ts[u.i]? with
    | none=>exact⟨nJ 0,(by decide:(0:Int)<=9223372036854775807)⟩
    | some t=>exact(hg t (bD hx)).2.2
  obtain⟨n0,n1⟩:=hn (if gg=0 then eB ts (gK ts s1 1).2 [61]else dA (eB ts (gK ts s1 1).2 [61]));generalize (gK ts (if gg=0 then eB ts (gK ts s1 1).2 [61]else dA (eB ts (gK ts s1 1).2 [61])) 3).1.n=x at*
  have e:av ae ((av ae (1-(av ae (2*(gg:Int)))))*x)=if gg=0 then x else av ae (-x):=by
   rcases(by omega:gg=0∨gg=1)with rfl | rfl
   ·rw[if_pos rfl];show av ae (1*x)=x;rw[Int.one_mul,gD (by omega) (by omega)]
   ·rw[if_neg (by decide)];show av ae (-1*x)=_;rw[Int.neg_one_mul]
  rw[e]
 ·refine(Yi (t0.q fj).r).mono ?_;rintro _ fC ⟨rfl,tj⟩;refine⟨rfl,(t0.q fj).sc tj (by simp),?_⟩;rw[<-ux,if_pos (by simpa using hc)];exact(t0.q fj).nx tj
 ·rw[<-ux,if_neg (by simpa using hc)];exact t0.q dU
end
end Go.Proofs.YtbkjcdocjfknfaaGreatDoor.Con
