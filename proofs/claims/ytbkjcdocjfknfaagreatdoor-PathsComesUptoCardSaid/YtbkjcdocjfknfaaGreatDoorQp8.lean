import Derived.Test.YtbkjcdocjfknfaaGreatDoorQp7
set_option linter.unusedSectionVars false
namespace Go.Proofs.YtbkjcdocjfknfaaGreatDoor.Con
open Go.Value renaming int->O,string->ah,pointer->ai,agg->aj,tuple->ak,bool->ao
open Go.IntKind renaming i64->ae,wrap->av
open Go.Ending renaming returned->aq
open _root_.ByteArray renaming mk->ar
open _root_.Go.Proofs.Tryz renaming prog->au
open Go.Instr renaming buildSlice->aw
open Go renaming World->ay,Value->az,Calls->aB
open Go.Kt renaming Only->aA,SliceF->aD,Cells->aE,OnlyP->aF,Blk->aH
open Go Go.RowKit Go.Kt Go.Kt.V Go.Proofs.YtbkjcdocjfknfaaGreatDoor.Vc
set_option linter.unusedSimpArgs false
set_option linter.unusedVariables false
set_option maxHeartbeats 4000000
def Bf(w:ay)(B:Nat)(s:Sl)(l:aJ):Prop:=
 (s=Sl.nil/\l=[])∨∃g tail,s.a=some ⟨g,0,none⟩/\B<=g/\aH w g 5 (l.map ga++tail)/\tail.length=s.c-s.n/\s.n=l.length/\s.n<=s.c/\s.c<=9223372036854775807/\0<s.c
theorem Bf.len{w:ay}{B:Nat}{s:Sl}{l:aJ}(h:Bf w B s l):s.n=l.length:=by
 rcases h with⟨rfl,rfl⟩ | ⟨g,tail,_,_,_,_,h,_⟩
 ·rfl
 ·exact h
theorem Bf.lt{w:ay}{B:Nat}{s:Sl}{l:aJ}(h:Bf w B s l){g:Nat}(hg:s.a=some ⟨g,0,none⟩):B<=g/\g<w.heap.size:=by
 rcases h with⟨rfl,rfl⟩ | ⟨g',tail,h1,h2,h3,_⟩
 ·cases hg
 ·rw[hg]at h1;injection h1 with h1;injection h1 with h1;subst h1;exact⟨h2,h3.lt⟩
theorem Bf.keep{w w':ay}{B:Nat}{s:Sl}{l:aJ}(h:Bf w B s l)(hk:∀g,s.a=some ⟨g,0,none⟩->g<w.heap.size->w'.heap[g]? =w.heap[g]?):Bf w' B s l:=by
 rcases h with h | ⟨g,tail,h1,h2,h3,h4⟩
 ·exact .inl h
 ·exact .inr ⟨g,tail,h1,h2,(hk g h1 h3.lt).trans h3,h4⟩
theorem adJ(l:aJ):Lib.strCells (T l)=l.map ga:=rfl
theorem FE:Tryz.prog.underlying 241=some (.slice 5):=by kernel_rfl
theorem XZ:Tryz.prog.underlying 9=some .string:=by kernel_rfl
theorem JS:Tryz.prog.info? 5=some Tryz.t5:=by kernel_rfl
theorem JU{w:ay}{B:Nat}{s:Sl}{l:aJ}(h:Bf w B s l)(m:aJ)(hB:B<=w.heap.size)(hm:l.length+m.length<=140737488355328):
  ∃s' w',(Builtin.append_ #[241,9] 241 #[s.v,ah (T m)]).run au w=.ok s'.v w'/\Bf w' B s' (l++m)/\aF (fun k=>s.a=some ⟨k,0,none⟩) w w'/\(s'.a=s.a∨s'.a=some ⟨w.heap.size,0,none⟩):=by
 have ht:=FE;have hu:=XZ;have hi:=JS;have ux:Tryz.t5.size=1:=rfl;have tB:Tryz.t5.bytes=1:=rfl;have hz:Tryz.t5.zero=some (.int .u8 0):=rfl;have hsz:(T m).size=m.length:=dH m;have grown:∀(kH NF:Nat),kH=l.length+m.length->0<l.length+m.length->∀cells:Array az,cells=((l++m).map ga).toArray++Builtin.zeroCells (Value.int .u8 0).cells (grownCap w kH NF 5-kH)->
   Bf (w.drew.alloc (.cells cells 5)) B ⟨some ⟨w.heap.size,0,none⟩,kH,grownCap w kH NF 5⟩ (l++m)/\aF (fun k=>s.a=some ⟨k,0,none⟩) w (w.drew.alloc (.cells cells 5)):=by
  rintro kH NF rfl h0 cells rfl;have hO:aA [] w (w.drew.alloc (.cells (((l++m).map ga).toArray++Builtin.zeroCells (Value.int .u8 0).cells (grownCap w (l.length+m.length) NF 5-(l.length+m.length))) 5)):=(Only.drew w).cz (Only.alloc _ _);refine⟨.inr ⟨w.heap.size,(Builtin.zeroCells (Value.int .u8 0).cells (grownCap w (l.length+m.length) NF 5-(l.length+m.length))).toList,rfl,hB,?_,?_,by simp,grownCap_ge _ _ _ _,grownCap_le_maxLen _ _ _ _ (by simp only[maxLen];omega),cx h0 (grownCap_ge _ _ _ _)⟩,hO.p0⟩
  ·have e:∀(x:aK) (z:Array az),x.toArray++z=(x++z.toList).toArray:=fun x z=>by simp
   rw[e];exact Blk.alloc w.drew 5 _
  ·exact(uE w _ (size:=1) rfl).trans (jP _)
 rcases h with⟨rfl,rfl⟩ | ⟨g,tail,h1,h2,h3,h4,h5,h6,h7,h8⟩
 ·cases m with
  | nil=>
   refine⟨Sl.nil,w,?_,.inl ⟨rfl,rfl⟩,OnlyP.refl _ _,.inl rfl⟩;have hf:=Lib.run_firstCells_string (P:=au) w 1 (T []);have h0:(T []).size=0:=rfl;rw[h0]at hf;simp[Sl.nil,Sl.v,Builtin.append_,run_underlying ht,run_underlying hu,sizeOf,typeInfo,hi,ux,Builtin.lenOf,h0,hf]
  | cons c m=>
   have hr:=run_append_nil_string (P:=au) w 241 9 241 5 Tryz.t5 (.int .u8 0) ht hu hi hz (T (c::m)) (by rw[hsz];simp) (by rw[hsz];omega) (by rw[hsz,tB];omega);rw[hsz]at hr;obtain⟨g1,g2⟩:=grown (c::m).length 0 (by simp) (by simp) _ rfl;have e1:(T (c::m)).data.map (fun b=>Value.int .u8 b.toNat)=(List.map ga ([]++c::m)).toArray:=by
    apply Nl.1;rw[Array.toList_map,im];rfl
   rw[e1]at hr;exact⟨_,_,hr,g1,g2,.inr rfl⟩
 ·obtain⟨sa,sn,sc⟩:=s;dsimp only at h1 h4 h5 h6 h7 h8;subst h1;by_cases qj:sn+m.length<=sc
  ·have hb3:=h3;unfold aH at h3;have hr:=Lib.run_append_room_string (P:=au) w 241 9 241 5 Tryz.t5 ht hu hi ux g sn sc _ h3 (T m) (by rw[hsz];exact qj) (by
    rw[hsz,eh,aU,bq];omega)
   rw[hsz,adJ]at hr;refine⟨⟨some ⟨g,0,none⟩,sn+m.length,sc⟩,_,hr,.inr ⟨g,tail.drop m.length,rfl,h2,?_,?_,by dsimp only;rw[aU];omega,qj,h7,h8⟩,(Only.setRow w g _).p fun x hx=>.inl (by simp only[aO]at hx;rw[hx]),.inl rfl⟩
   ·have:=hb3.setRow ((l++m).map ga++tail.drop m.length);have e:((l.map ga++tail).toArray.toList.take sn++m.map ga++(l.map ga++tail).toArray.toList.drop (sn+m.length))=(l++m).map ga++tail.drop m.length:=by
     rw[im,N0 (by rw[bq];omega),bC (by rw[bq];omega),List.drop_append,j5 (by rw[bq];omega),cr,bq,da,h5,dY]
    rw[e];exact this
   ·rw[cG];dsimp only;omega
  ·have G1:∀j v,(l.map ga)[j]? =some v->w.cell? ((⟨g,0,none⟩:Addr).add j)=some v:=fun j v hj=>h3.cells 0 (l.map ga) (fun j v hj=>by rw[bM,bJ (aZ.1 hj).1];exact hj) j v hj;have hr:=Lib.run_append_grow_string (P:=au) w 241 9 241 5 Tryz.t5 (.int .u8 0) ht hu hi hz ⟨g,0,none⟩ sn sc (l.map ga) (by rw[ux,bq];omega) G1 (T m) (by rw[hsz];omega) (by rw[hsz];omega) (growslice_fits (by rw[hsz];omega) (by rw[hsz,tB];omega));rw[hsz,adJ]at hr;obtain⟨g1,g2⟩:=grown (sn+m.length) sc (by omega) (by omega) _ rfl;refine⟨_,_,hr.trans ?_,g1,g2,.inr rfl⟩;simp[da]
theorem VV(w:ay)(F:aL):∀l:aJ,lm ji 1 w F l (l.map fun b=>[ga b])
 | []=>trivial
 | c::l=>⟨⟨rfl,rfl⟩,VV w F l⟩
theorem Pq:∀l:aJ,(l.map fun b=>[ga b]).flatten=l.map ga
 | []=>rfl
 | c::l=>by rw[bF,dj,Pq l];rfl
theorem FF{w:ay}{F:aL}:∀{l:aJ} {css:List (aK)},lm ji 1 w F l css->css.flatten=l.map ga
 | [],[],_=>rfl
 | c::l,d::css,h=>by
  obtain⟨⟨_,h1⟩,h2⟩:=h;unfold ji at h1;subst h1;rw[dj,FF h2];rfl
theorem Bf.own{w:ay}{B:Nat}{s:Sl}{l:aJ}(h:Bf w B s l)(F:aL):Own ji 1 5 B w F s l:=by
 rcases h with h | ⟨g,tail,h1,h2,h3,h4,h5,h6,h7,_⟩
 ·exact .inl h
 ·exact .inr ⟨g,l.map fun b=>[ga b],tail,h1,h2,by rw[Pq];exact h3,by rw[jP];exact h4,h5,h6,h7,VV _ _ _⟩
theorem Bf.of{w:ay}{B:Nat}{s:Sl}{l:aJ}{F:aL}(h:Own ji 1 5 B w F s l)(h0:0<l.length):Bf w B s l:=by
 rcases h with h | ⟨g,css,tail,h1,h2,h3,h4,h5,h6,h7,h8⟩
 ·exact .inl h
 ·exact .inr ⟨g,tail,h1,h2,by rw[<-FF h8];exact h3,by rw[h4,jP],h5,h6,h7,by omega⟩
structure Pg (G:aL) (w:ay) (b:Nat) (sl sn:Sl) (l:aJ):Prop where
 blk:∃q:Option Addr,(q=none∨q=some ⟨b,0,none⟩)/\aH w b 334 [ai q,sl.v,sn.v]
 buf:Bf w (b+1) sl l
 sig:aD kz 1 w G sn AX
 hG:∀k,G k->k<b
def tv(b:Nat)(sl:Sl)(w:ay)(pq:Sl)(w':ay):Prop:=aF (fun k=>k=b∨sl.a=some ⟨k,0,none⟩) w w'/\∀k,pq.a=some ⟨k,0,none⟩->sl.a=some ⟨k,0,none⟩∨w.heap.size<=k
theorem tv.trans{b:Nat}{sl pq afk:Sl}{w w' th:ay}(h:tv b sl w pq w')(k:tv b pq w' afk th):tv b sl w afk th:=by
 have z:=h.1.size;refine⟨h.1.trans k.1 fun x hx=>?_,fun x hx=>?_⟩
 ·rcases hx with hx | hx
  ·exact .inl (.inl hx)
  ·rcases h.2 x hx with e | e
   ·exact .inl (.inr e)
   ·exact .inr e
 ·rcases k.2 x hx with e | e
  ·exact h.2 x e
  ·exact .inr (by omega)
theorem tv.only{b:Nat}{sl:Sl}{w w':ay}(h:aA [] w w'):tv b sl w sl w':=⟨h.p0,fun _ h=>.inl h⟩
theorem tv.same{b:Nat}{sl pq:Sl}{w w':ay}(h:tv b sl w pq w'){k:Nat}(hk:k≠b)(hs:sl.a≠some ⟨k,0,none⟩)(hl:k<w.heap.size):ci [k] w w':=h.1.same (by
 intro x hx;simp only[aO]at hx;subst hx;exact⟨hl,fun e=>e.elim hk hs⟩)
theorem Pg.only{G:aL}{w w':ay}{b:Nat}{sl sn:Sl}{l:aJ}(h:Pg G w b sl sn l)(hO:aA [] w w'):Pg G w' b sl sn l:=by
 obtain⟨q,hq,hB⟩:=h.blk;exact⟨⟨q,hq,hO.blk hB (by simp)⟩,h.buf.keep fun g _ hl=>hO.block g hl (by simp),SliceF.only dD (by decide) h.sig hO (by simp),h.hG⟩
theorem Pg.lb{G:aL}{w:ay}{b:Nat}{sl sn:Sl}{l:aJ}(h:Pg G w b sl sn l):b<w.heap.size:=by
 obtain⟨q,hq,hB⟩:=h.blk;exact hB.lt
theorem VW(v:az)(w:ay):(L7 241 #[v]).run au w=.ok v w:=by
 unfold L7;rw[Sem.run_bind,run_callFunc_extern Tryz.func241 (by kernel_rfl) (by kernel_rfl) (by kernel_rfl) (e:=Extern.AbiNoEscape.same) (by kernel_rfl)];rw[Lib.run_noEscape];rfl
theorem JV{w:ay}{b:Nat}{q:Option Addr}{sl sn:Sl}(hq:q=none∨q=some ⟨b,0,none⟩)(h:aH w b 334 [ai q,sl.v,sn.v]):
  aB au 225 #[ai (some ⟨b,0,none⟩)] w fun e w'=>e=aq (ak #[])/\aA [b] w w'/\aH w' b 334 [ai (some ⟨b,0,none⟩),sl.v,sn.v]:=by
 refine ret (VR _ _ _ ?_);have Hi:w.shape? b=some (334,3):=by
  unfold World.shape?;unfold aH at h;rw[h];rfl
 refine⟨q,Blk.dZ h 0 rfl,fun hn=>?_,fun hn=>⟨q,Blk.dZ h 0 rfl,?_⟩⟩
 ·have SG:=Lib.run_to_unsafe (P:=au) (src:=240) (dst:=308) w ⟨b,0,none⟩ (t:=243) (j:=Tryz.t243) (by kernel_rfl) (by kernel_rfl) (by kernel_rfl) (by decide) Hi (by decide:(0:Nat)<3);have SH:=Lib.run_from_unsafe (P:=au) (src:=308) (dst:=240) w ⟨b,0,none⟩ (u:=243) (j:=Tryz.t243) (by kernel_rfl) (by kernel_rfl) (by kernel_rfl) Hi (by kernel_rfl);exact⟨⟨ai (some ⟨b,0,none⟩),rfl⟩,w,SG,⟨ai (some ⟨b,0,none⟩),rfl⟩,w,VW _ w,some ⟨b,0,none⟩,w,SH,b,0,_,_,rfl,h,by simp,fun w3 hO hB=>⟨rfl,hO,hB⟩⟩
 ·rcases hq with rfl | rfl
  ·cases hn
  ·exact⟨false,w,Lib.run_neq_ptr_same w _ (te:=243) (j:=Tryz.t243) (by kernel_rfl) (by kernel_rfl),fun e=>(by cases e),fun _=>⟨rfl,Only.refl _ _,h⟩⟩
section
variable {G:aL} {w:ay} {b:Nat} {sl sn:Sl} {l:aJ}
theorem X1(h:Pg G w b sl sn l):aB au 211 #[ai (some ⟨b,0,none⟩)] w fun e w'=>e=aq (O ae (l.length:Int))/\w'=w:=by
 refine ret (VP _ _ _ ?_);obtain⟨q,hq,hB⟩:=h.blk;exact⟨sl,Blk.dZ hB 1 rfl,by rw[h.buf.len],rfl⟩
theorem oW(h:Pg G w b sl sn l)(m:aJ)(hm:l.length+m.length<=140737488355328):aB au 202 #[ai (some ⟨b,0,none⟩),ah (T m)] w fun e w'=>
  ∃pq,e=aq (ak #[O ae (m.length:Int),.nilIface])/\Pg G w' b pq sn (l++m)/\tv b sl w pq w':=by
 refine(VQ ⟨b,0,none⟩ (T m) (fun v w'=>∃pq,v=ak #[O ae (m.length:Int),.nilIface]/\Pg G w' b pq sn (l++m)/\tv b sl w pq w') w ?_).mono (by
  rintro e w' ⟨v,rfl,s,rfl,h⟩;exact⟨s,rfl,h⟩)
 obtain⟨q,hq,hB⟩:=h.blk;refine(JV hq hB).mono ?_;rintro _ w0 ⟨rfl,cK,tU⟩;have z0:=cK.size;have hb:=hB.lt;have vI:Bf w0 (b+1) sl l:=h.buf.keep fun g hg hl=>cK.block g hl (by have:=(h.buf.lt hg).1;simp;omega);obtain⟨s',w1,k1,k2,k3,k4⟩:=JU vI m (by omega) hm;have z1:=k3.size;have vJ:aH w1 b 334 [ai (some ⟨b,0,none⟩),sl.v,sn.v]:=k3.blk tU fun e=>by have:=(vI.lt e).1;omega
 have AM:∀g,s'.a=some ⟨g,0,none⟩->b<g:=fun g hg=>by
  rcases k4 with e | e
  ·rw[e]at hg;exact(vI.lt hg).1
  ·rw[e]at hg;injection hg with hg;injection hg with hg;omega
 refine⟨rfl,sl,Blk.dZ tU 1 rfl,s',w1,k1,b,1,_,_,rfl,vJ,by simp,fun w2 dh re=>⟨s',by rw[dH],⟨⟨_,.inr rfl,re⟩,k2.keep fun g hg hl=>dh.block g hl (by have:=AM g hg;simp;omega),?_,h.hG⟩,?_,?_⟩⟩
 ·have h0:=SliceF.only dD (by decide) h.sig cK fun k hk _ hm=>by have:=h.hG k hk;simp only[aO]at hm;omega
  have h1:=SliceF.mw dD (by decide) h0 k3 fun k hk _ hm=>by have:=h.hG k hk;have:=(vI.lt hm).1;omega
  exact SliceF.only dD (by decide) h1 dh fun k hk _ hm=>by have:=h.hG k hk;simp only[aO]at hm;omega
 ·refine((cK.p (F:=fun k=>k=b∨sl.a=some ⟨k,0,none⟩) fun x hx=>.inl (.inl (by simpa using hx))).trans k3 fun k hk=>.inl (.inr hk)).trans (dh.p (F:=fun k=>k=b) fun x hx=>.inl (by simpa using hx)) fun k hk=>.inl (.inl hk)
 ·intro k hk;rcases k4 with e | e
  ·rw[e]at hk;exact .inl hk
  ·rw[e]at hk;injection hk with hk;injection hk with hk;exact .inr (by omega)
theorem VX(h:Pg G w b sl sn l)(c:UInt8)(hm:l.length+1<=140737488355328):JC ⟨b,0,none⟩ (c.toNat:Int) (fun v w'=>∃pq,v=.nilIface/\Pg G w' b pq sn (l++[c])/\tv b sl w pq w') w:=by
 unfold JC;obtain⟨q,hq,hB⟩:=h.blk;refine(JV hq hB).mono ?_;rintro _ w0 ⟨rfl,cK,tU⟩;have z0:=cK.size;have hb:=hB.lt;have vI:Bf w0 (b+1) sl l:=h.buf.keep fun g hg hl=>cK.block g hl (by have:=(h.buf.lt hg).1;simp;omega);obtain⟨y,w1,k1,k2,k3,_⟩:=vY w0 [c] (n:=1) (parts:=#[(0,.int .u8 (c.toNat:Int))]) rfl rfl (by decide) (by decide);have z1:=k3.size;have afl:Bf w1 (b+1) sl l:=vI.keep fun g hg hl=>k3.block g hl (by simp);obtain⟨s',w2,m1,m2,gs,m3,m4,m5⟩:=uF (P:=au) (t:=241) (ty:=241) (e:=5) (i:=Tryz.t5) (bytes:=1) (size:=1) (r:=ji) FE JS rfl rfl rfl rfl uG (afl.own fun _=>True) ((Bs k2).mono uG fun k hk=>⟨trivial,fun e=>by have:=(vI.lt e).2;have:=hk.1;omega⟩) (by omega) (by rw[bP];omega) (by decide);have z2:=m3.size;have dh:aF (fun k=>sl.a=some ⟨k,0,none⟩) w1 w2:=m3.p fun x hx=>.inl (m4 x hx).1;have re:aH w2 b 334 [ai (some ⟨b,0,none⟩),sl.v,sn.v]:=dh.blk (k3.blk tU (by simp)) fun e=>by have:=(vI.lt e).1;omega
 have AM:∀g,s'.a=some ⟨g,0,none⟩->b<g:=fun g hg=>by
  rcases m5 with e | e
  ·rw[e]at hg;exact(vI.lt hg).1
  ·rw[e]at hg;injection hg with hg;injection hg with hg;omega
 refine⟨rfl,sl,Blk.dZ tU 1 rfl,y,w1,k1,s',w2,m1,b,1,_,_,rfl,re,by simp,fun w3 dx xy=>⟨s',rfl,⟨⟨_,.inr rfl,xy⟩,(Bf.of m2 (by simp)).keep fun g hg hl=>dx.block g hl (by have:=AM g hg;simp;omega),?_,h.hG⟩,?_,?_⟩⟩
 ·have h0:=SliceF.only dD (by decide) h.sig (cK.cz k3) fun k hk _ hm=>by have:=h.hG k hk;simp only[aO]at hm;omega
  have h1:=SliceF.mw dD (by decide) h0 dh fun k hk _ hm=>by have:=h.hG k hk;have:=(vI.lt hm).1;omega
  exact SliceF.only dD (by decide) h1 dx fun k hk _ hm=>by have:=h.hG k hk;simp only[aO]at hm;omega
 ·refine(((cK.cz k3).p (F:=fun k=>k=b∨sl.a=some ⟨k,0,none⟩) fun x hx=>.inl (.inl (by simpa using hx))).trans dh fun k hk=>.inl (.inr hk)).trans (dx.p (F:=fun k=>k=b) fun x hx=>.inl (by simpa using hx)) fun k hk=>.inl (.inl hk)
 ·intro k hk;rcases m5 with e | e
  ·rw[e]at hk;exact .inl hk
  ·rw[e]at hk;injection hk with hk;injection hk with hk;exact .inr (by omega)
theorem TE(h:Pg G w b sl sn l)(c:UInt8)(hm:l.length+1<=140737488355328):aB au 283 #[ai (some ⟨b,0,none⟩),.int .u8 (c.toNat:Int)] w fun e w'=>
 ∃pq,e=aq .nilIface/\Pg G w' b pq sn (l++[c])/\tv b sl w pq w':=(ads _ _ _ w (VX h c hm)).mono (by
 rintro e w' ⟨v,rfl,s,rfl,h⟩;exact⟨s,rfl,h⟩)
theorem TF(h:Pg G w b sl sn l)(c:UInt8)(hm:l.length+1<=140737488355328):kg au 283 #[ai (some ⟨b,0,none⟩),.int .u8 (c.toNat:Int)] w fun v w'=>
 ∃pq,v=.nilIface/\Pg G w' b pq sn (l++[c])/\tv b sl w pq w':=mo _ _ _ w (VX h c hm)
structure Pt (w:ay) (b:Nat) (sl:Sl) (l:aJ):Prop where
 blk:∃q sn:az,aH w b 334 [q,sl.v,sn]
 len:sl.n=l.length
 some:l≠[]->∃g,sl.a=.some ⟨g,0,none⟩/\b<g/\sl.c≠0/\(∃n,w.shape? g=.some (5,n)/\l.length<=n)/\aE w ⟨g,0,none⟩ (l.map ga)
 cap:sl.a=none∨sl.c≠0
 big:l.length<=9223372036854775807
theorem zy{w w':ay}{g:Nat}(h:w'.heap[g]? =w.heap[g]?):w'.shape? g=w.shape? g:=by
 unfold World.shape?;rw[h]
theorem Pt.only{w':ay}(h:Pt w b sl l)(hO:aA [] w w'):Pt w' b sl l:=by
 obtain⟨⟨q,sn,h1⟩,h2,h3,h4,h5⟩:=h;refine⟨⟨q,sn,hO.blk h1 (by simp)⟩,h2,fun hl=>?_,h4,h5⟩;obtain⟨g,a1,a2,a3,⟨n,a4,a5⟩,a6⟩:=h3 hl;have hg:g<w.heap.size:=by
  refine cq fun hn=>?_;unfold World.shape? at a4;rw[eW (by omega)]at a4;cases a4
 have hk:=hO.block g hg (by simp);exact⟨g,a1,a2,a3,⟨n,(zy hk).trans a4,a5⟩,a6.keep hk⟩
theorem Pg.pt(h:Pg G w b sl sn l):Pt w b sl l:=by
 obtain⟨q,hq,hB⟩:=h.blk;refine⟨⟨_,_,hB⟩,h.buf.len,fun hl=>?_,?_,?_⟩
 ·rcases h.buf with⟨_,e⟩ | ⟨g,tail,h1,h2,h3,h4,h5,h6,h7,h8⟩
  ·exact absurd e hl
  ·have h0:l.length≠0:=fun e=>hl (bO e);refine⟨g,h1,h2,by omega,⟨_,by unfold World.shape?;unfold aH at h3;rw[h3],by simp⟩,h3.cells 0 (l.map ga) fun j v hj=>by rw[bM,bJ (aZ.1 hj).1];exact hj⟩
 ·rcases h.buf with⟨e,_⟩ | ⟨g,tail,h1,h2,h3,h4,h5,h6,h7,h8⟩
  ·exact .inl (by rw[e])
  ·exact .inr (by omega)
 ·rcases h.buf with⟨_,e⟩ | ⟨g,tail,h1,h2,h3,h4,h5,h6,h7⟩
  ·subst e;simp
  ·omega
end
theorem uY(w:ay)(p:Addr)(n:Nat)(a:Nat):(w.freeze p n).shape? a=w.shape? a:=by
 unfold World.freeze;split
 ·rfl
 ·unfold World.shape?;simp only[gA];by_cases U3:p.block=a
  ·rw[if_pos U3];cases h:w.heap[a]? with
   | none=>rfl
   | some o=>
    cases o with
    | cells c e f=>obtain⟨lo,hi⟩:=f;rfl
    | _=>rfl
  ·rw[if_neg U3]
section
variable {w:ay} {b:Nat} {sl:Sl} {l:aJ}
theorem Ps(h:Pt w b sl l):aB au 175 #[ai (some ⟨b,0,none⟩)] w fun e w'=>e=aq (ah (T l))/\Pt w' b sl l/\aF (fun k=>b<k/\sl.a=some ⟨k,0,none⟩) w w':=by
 refine ret (VS _ _ _ ?_);intro w0 cK;have h0:=h.only cK;obtain⟨⟨q,sn,hB⟩,fu,G2,mJ,rl⟩:=h0;refine⟨fun k=>k=b,sl,Blk.dZ hB 1 rfl,rfl,sl,Blk.dZ hB 1 rfl,sl.a,w0,?_,fun k _ _=>rfl,?_⟩
 ·obtain⟨sa,sn',sc⟩:=sl;cases sa with
  | none=>exact Lib.run_unsafeSliceData_nil _ _ _ _ _
  | some a=>
   rcases mJ with e | e
   ·cases e
   ·exact Lib.run_unsafeSliceData_row _ _ _ _ _ _ e
 ·by_cases hl:l=[]
  ·subst hl;have hn:sl.n=0:=fu;refine⟨T [],w0,?_,fun k _ _=>rfl,rfl,⟨⟨q,sn,hB⟩,fu,G2,mJ,rl⟩,cK.p0⟩;rw[hn];exact Lib.run_unsafeString_none _ _ _ _ _
  ·obtain⟨g,ha,IP,hc,⟨m,Hi,hm⟩,ur⟩:=G2 hl;have hF:=rP w0 ⟨g,0,none⟩ l.length;have Ck:b<w0.heap.size:=hB.lt;refine⟨T l,w0.freeze ⟨g,0,none⟩ l.length,?_,fun k hk bX=>hF.block k bX (by dsimp only;omega),rfl,⟨⟨q,sn,hF.blk hB (by dsimp only;omega)⟩,fu,fun _=>⟨g,ha,IP,hc,⟨m,(uY _ _ _ _).trans Hi,hm⟩,fun j v hj=>by rw[rO];exact ur j v hj⟩,mJ,rl⟩,cK.pd (hF.mono fun k _ hk=>by dsimp only at hk;subst hk;exact⟨IP,ha⟩)⟩;rw[ha,fu];exact Lib.run_unsafeString_row _ _ _ _ 5 (by kernel_rfl) (by kernel_rfl) g m Hi l hl hm rl fun j x hj=>ur j (ga x) (by rw[bZ,hj];rfl)
end
def uv(wr:Bool)(l:aJ):aJ:=if wr then l++[40]else l
def VY(wr:Bool)(l:aJ):aJ:=if wr then l++[41]else l
def uw:Nat->Ex->Bool->aJ->aJ
 | 0,_,_,l=>l
 | d+1,x,wr,l=>if 16384<l.length then l else VY wr (
  if x.k=1 then uv wr l++Lib.itoa x.n
  else if x.k=2 then uv wr l++x.s
  else if x.k=3 then uv wr l++([105,110,40]++x.s++[41])
  else if x.k=4 then(match x.fW with
   | [y]=>uw d y (decide (gW y<6)) (uv wr l++lC x.op.toNat)
   | _=>l)
  else(match x.fW with
   | [y,z]=>uw d z (decide (gW z<=gW x)) (uw d y (decide (gW y<gW x)) (uv wr l)++([32]++lC x.op.toNat++[32]))
   | _=>l))
section
variable {x:Ex}
theorem VZ{n:Int}{s:aJ}{op len:Int}(h:XY n s op len x=true):x.n=n/\x.s=s/\x.op=op/\(x.fW.length:Int)=len:=by
 simp only[XY,aQ,dW,bL]at h;exact⟨h.1.1.1,h.1.1.2,h.1.2,h.2⟩
theorem oX(h:lg x=true)(hk:x.k=2∨x.k=3):eK x.s=true:=by
 have h1:x.k≠1:=by omega
 rw[lg,if_neg h1,if_pos hk,aQ]at h;exact h.1
theorem Pu(h:lg x=true)(hk:x.k=4):∃y,x.fW=[y]/\(x.op=14∨x.op=15):=by
 rw[lg,if_neg (by omega),if_neg (by omega),if_pos hk]at h;obtain⟨_,_,h3,h4⟩:=VZ h;obtain⟨y,hy⟩:=List.length_eq_one_iff.1 (show x.fW.length=1 by omega);refine⟨y,hy,?_⟩;by_cases NU:x.op=15
 ·exact .inr NU
 ·rw[if_neg NU]at h3;exact .inl h3
theorem Pv(h:lg x=true)(h1:x.k≠1)(h2:x.k≠2)(h3:x.k≠3)(h4:x.k≠4):x.k=5/\∃y z,x.fW=[y,z]/\1<=x.op/\x.op<=13:=by
 rw[lg,if_neg h1,if_neg (by omega),if_neg h4]at h;split at h
 ·rename_i h5;rw[aQ]at h;obtain⟨h6,h7⟩:=h;obtain⟨_,_,_,h8⟩:=VZ h7;have h6:kG x.op≠6:=by simpa using h6
  have h2l:x.fW.length=2:=by omega
  obtain⟨y,z,hy⟩:∃y z,x.fW=[y,z]:=by
   match hm:x.fW,h2l with
   | [y,z],_=>exact⟨y,z,rfl⟩
  refine⟨h5,y,z,hy,?_⟩;unfold kG at h6;refine cq fun hn=>h6 ?_;rw[if_neg (by omega),if_neg (by omega),if_neg (by omega),if_neg (by omega),if_neg (by omega),if_neg (by omega)]
 ·cases h
theorem jS{s:aJ}(h:eK s=true):s.length<=24:=by
 unfold eK at h;simp only[aQ]at h;exact(aP h.1.1.1).2
theorem pL(n:Nat):(lC n).length<=2:=by
 rcases Nat.lt_or_ge n 16 with h | h
 ·have:∀q,q<16->(lC q).length<=2:=by decide
  exact this n h
 ·unfold lC;rw[du (by exact h)];decide
theorem JW(wr:Bool)(l:aJ):(uv wr l).length<=l.length+1:=by
 unfold uv;cases wr<;>simp
theorem TG(wr:Bool)(l:aJ):(VY wr l).length<=l.length+1:=by
 unfold VY;cases wr<;>simp
theorem qH:∀(d:Nat) {x:Ex} (wr:Bool) (l:aJ),eL d x=true->qV d x->(uw d x wr l).length<=l.length+40*oV d x
 | 0,x,wr,l,h,_=>by cases h
 | d+1,x,wr,l,h,⟨hn,hs⟩=>by
  rw[eL,aQ]at h;obtain⟨hh,ha⟩:=h;have h1:=JW wr l;rw[uw,oV];split
  ·omega
  refine bh (TG _ _) ?_;split
  ·rw[aU];have:=Lib.itoa_length_le x.n hn.1 hn.2;omega
  ·split
   ·rename_i hk;rw[aU];have:=jS (oX hh (.inl hk));omega
   ·split
    ·rename_i hk;rw[aU,aU,aU];have:=jS (oX hh (.inr hk));simp only[bp,cO];omega
    ·split
     ·rename_i hk;obtain⟨y,hy,_⟩:=Pu hh hk;rw[hy]at ha hs⊢;dsimp only;simp only[ol,mO,tu]at ha⊢;have:=qH d (decide (gW y<6)) (uv wr l++lC x.op.toNat) ha (hs y (by simp));rw[aU]at this;have:=pL x.op.toNat;omega
     ·rename_i k1 k2 k3 k4;obtain⟨hk,y,z,hy,_⟩:=Pv hh k1 k2 k3 k4;rw[hy]at ha hs⊢;dsimp only;simp only[ol,mO,tu,aQ]at ha⊢;have a1:=qH d (decide (gW y<gW x)) (uv wr l) ha.1 (hs y (by simp));have a2:=qH d (decide (gW z<=gW x)) (uw d y (decide (gW y<gW x)) (uv wr l)++([32]++lC x.op.toNat++[32])) ha.2 (hs z (by simp));rw[aU,aU,aU]at a2;have:=pL x.op.toNat;simp only[bp,cO]at a2;omega
end
structure Pz (d:Nat) (F G:aL) (k0 b:Nat) (sub sn:Sl) (subs:List Ex) (w:ay) (sl:Sl) (l:aJ):Prop where
 pg:Pg G w b sl sn l
 tb:Tb w
 own:k0≠b/\sl.a≠some ⟨k0,0,none⟩/\k0<w.heap.size
 sb:aD (BB d) 6 w F sub subs
 hF:∀k,F k->k<b
 hT:2<b
section
variable {d:Nat} {F G:aL} {k0 b:Nat} {sx sn sl pq:Sl} {subs:List Ex} {w w' th:ay} {l l':aJ}
theorem Pg.out(h:Pg G w b sl sn l){k:Nat}(hk:k<b):¬(k=b∨sl.a=some ⟨k,0,none⟩):=by
 rintro(e | e)
 ·omega
 ·have:=(h.buf.lt e).1;omega
theorem Pz.only(h:Pz d F G k0 b sx sn subs w sl l)(hO:aA [] w w'):Pz d F G k0 b sx sn subs w' sl l:=by
 have z:=hO.size;exact⟨h.pg.only hO,h.tb.only hO,⟨h.own.1,h.own.2.1,by have:=h.own.2.2;omega⟩,SliceF.only (oU d) (by decide) h.sb hO (by simp),h.hF,h.hT⟩
theorem Pz.mv(h:Pz d F G k0 b sx sn subs w sl l)(hp:Pg G w' b pq sn l')(hm:tv b sl w pq w'):Pz d F G k0 b sx sn subs w' pq l'/\ci [k0] w w'/\bS (fun k=>k<b∨k=k0) w w':=by
 have z:=hm.1.size;obtain⟨o1,o2,o3⟩:=h.own;refine⟨⟨hp,h.tb.keep fun bX=>hm.1.block _ bX (h.pg.out h.hT),⟨o1,fun e=>?_,by omega⟩,SliceF.mw (oU d) (by decide) h.sb hm.1 fun k hk _=>h.pg.out (h.hF k hk),h.hF,h.hT⟩,hm.same o1 o2 o3,fun k hk bX=>hm.1.block k bX ?_⟩
 ·rcases hm.2 k0 e with e | e
  ·exact o2 e
  ·omega
 ·rcases hk with hk | rfl
  ·exact h.pg.out hk
  ·rintro(e | e)
   ·exact o1 e
   ·exact o2 e
theorem tv.after(h:tv b sl w' pq th)(hO:aA [] w w'):tv b sl w pq th:=(tv.only hO).trans h
theorem Pz.same(h:Pz d F G k0 b sx sn subs w sl l)(hO:aA [] w w'):ci [k0] w w':=hO.same (by have:=h.own.2.2;simp;omega)
theorem Pz.sig(h:Pz d F G k0 b sx sn subs w sl l){op:Int}(h0:0<=op)(h1:op<16):∃ad,dL sn op 1 ad/\aE w ad [ah (T (lC op.toNat))]:=by
 have hn:=h.pg.sig.len;have hol:AX.length=16:=rfl;obtain⟨ad,x,cs,g1,g2,g3,g4,g5,g6⟩:=h.pg.sig.get h0 (by omega);unfold kz at g6;subst g6;have hx:lC op.toNat=x:=by unfold lC;rw[g2];rfl
 subst hx;exact⟨ad,g1,g5⟩
theorem Pz.sub(h:Pz d F G k0 b sx sn subs w sl l){i:Nat}{y:Ex}(hy:subs[i]? =some y):∃ad sy,dL sx (i:Int) 6 ad/\ad.block<b/\aE w ad (qU y.k y.n y.s y.op sy y.a)/\BB d w F y (qU y.k y.n y.s y.op sy y.a):=by
 have hn:=h.sb.len;have bX:=(aZ.1 hy).1;obtain⟨ad,x,cs,g1,g2,g3,g4,g5,g6⟩:=h.sb.get (bE i) (by omega);rw[aX,hy]at g2;injection g2 with g2;subst g2;obtain⟨sy,rfl⟩:=sV g6;exact⟨ad,sy,g1,h.hF _ g3,g5,g6⟩
end
abbrev PgC(d:Nat):Prop:=∀{G F:aL} {w:ay} {b:Nat} {sl sn:Sl} {l:aJ} {x:Ex} {cs:aK} (wr:Bool),eL d x=true->qV d x->BB d w F x cs->(∀k,F k->k<b)->Tb w->2<b->Pg G w b sl sn l->l.length+40*oV d x<=70368744177664->
 aB au 265 #[ai (some ⟨b,0,none⟩),aj cs.toArray,ao wr] w fun e w'=>∃pq,e=aq (ak #[])/\Pg G w' b pq sn (uw d x wr l)/\tv b sl w pq w'
theorem inb(s:aJ):ar #[105,110,40]++T s++ar #[41]=T ([105,110,40]++s++[41]):=by
 rw[show ar #[105,110,40]=T [105,110,40]from rfl,show ar #[41]=T [41]from rfl,lf,lf]
theorem blb(s:aJ):ar #[32]++T s++ar #[32]=T ([32]++s++[32]):=by
 rw[show ar #[32]=T [32]from rfl,lf,lf]
theorem inz(c:aM)(s:aJ):(c++T s).size=c.size+s.length:=by
 rw[show c=T c.data.toList from xB c,lf,dH,dH,aU]
theorem kg.mono{P:Program}{f:FuncId}{a:Array az}{w:ay}{Q Q':aI}(h:kg P f a w Q)(hq:∀v w',Q v w'->Q' v w'):kg P f a w Q':=fun c cs hc=>by
 obtain⟨e,u',w',fr,⟨h1,v,h2,h3⟩,h4⟩:=h c cs hc;exact⟨e,u',w',fr,⟨h1,v,h2,hq _ _ h3⟩,h4⟩
theorem ud:∀d,PgC d
 | 0,_,_,_,_,_,_,_,_,_,_,_,_,h,_,_,_,_,_=>h.elim
 | d+1,G,F,w,b,sl,sG,l,x,cs,wr,Hi,⟨hni,WR⟩,⟨xs,h1,h2⟩,hF,hT,ZQ,hP,fu=>by
  subst h1;refine(ai9 ⟨b,0,none⟩ x.k x.n (T x.s) x.op xs x.a wr (fun v w'=>∃pq,v=ak #[]/\Pg G w' b pq sG (uw (d+1) x wr l)/\tv b sl w pq w') w ?_).mono (by
   rintro e w' ⟨v,rfl,s,rfl,h⟩;exact⟨s,rfl,h⟩)
  have hx:BB (d+1) w F x (qU x.k x.n x.s x.op xs x.a):=⟨xs,rfl,h2⟩
  rw[eL,aQ]at Hi;obtain⟨hh,ha⟩:=Hi;rw[oV]at fu;intro k0 w0 gU fi cK;have hb:=hP.lb;have UM:Pz d F G k0 b xs sG x.fW w0 sl l:=⟨hP.only cK,hT.only cK,⟨by omega,fun e=>by have:=(hP.buf.lt e).2;omega,fi⟩,SliceF.only (oU d) (by decide) h2 cK (by simp),hF,ZQ⟩
  refine(X1 UM.pg).mono ?_;rintro _ w1 ⟨rfl,rfl⟩;refine⟨_,rfl,fun _ _=>rfl,fun hc=>⟨sl,rfl,?_,(tv.only cK)⟩,fun hc=>?_⟩
  ·rw[uw,if_pos (by have:=aP hc;omega)];exact UM.pg
  have hc:¬16384<l.length:=by have:=aW hc;omega
  have NV:uw (d+1) x wr l=VY wr (
  if x.k=1 then uv wr l++Lib.itoa x.n
  else if x.k=2 then uv wr l++x.s
  else if x.k=3 then uv wr l++([105,110,40]++x.s++[41])
  else if x.k=4 then(match x.fW with
   | [y]=>uw d y (decide (gW y<6)) (uv wr l++lC x.op.toNat)
   | _=>l)
  else(match x.fW with
   | [y,z]=>uw d z (decide (gW z<=gW x)) (uw d y (decide (gW y<gW x)) (uv wr l)++([32]++lC x.op.toNat++[32]))
   | _=>l)):=by rw[uw,if_neg hc]
  have hol:=JW wr l;refine⟨fun hw=>(TE UM.pg 40 (by omega)).mono ?_,fun hw=>?_⟩
  ·rintro _ w2 ⟨sl2,rfl,hp2,NK⟩;obtain⟨Cq,U4,_⟩:=UM.mv hp2 NK;have ZR:l++[40]=uv wr l:=by unfold uv;rw[if_pos hw]
   rw[ZR]at Cq;refine⟨⟨.nilIface,rfl⟩,rfl,U4,?_⟩;have fin:∀{LM:Sl} {w5:ay} {m:aJ},Pz d F G k0 b xs sG x.fW w5 LM m->tv b sl2 w2 LM w5->uw (d+1) x wr l=VY wr m->m.length<=l.length+40*(1+tu (oV d) x.fW)->kg au 283 #[ai (some ((⟨b,0,none⟩:Addr).add 0)),.int .u8 41] w5 fun _ w'=>∃pq,(Value.tuple #[])=ak #[]/\Pg G w' b pq sG (uw (d+1) x wr l)/\tv b sl w pq w':=by
    intro LM w5 m IT A8 he Cs;have hd:=TF IT.pg 41 (by omega);refine kg.mono hd ?_;rintro v w' ⟨pq,hv,hp',NW⟩;refine⟨pq,rfl,?_,((NK.after cK).trans A8).trans NW⟩;rw[he];unfold VY;rw[if_pos hw];exact hp'
   refine⟨fun hk w3 dx=>?_,fun k1=>⟨fun hk w7 fI=>?_,fun k2=>⟨fun hk=>⟨?_,?_,fun dI eH=>?_⟩,fun k3=>⟨fun hk fC eS=>?_,fun k4=>(oJ (show BB (d+1) _ F x (qU x.k x.n x.s x.op xs x.a)from⟨xs,rfl,Cq.sb⟩)).mono ?_⟩⟩⟩⟩
   ·have hk:x.k=1:=by simpa using hk
    have ZS:=Cq.only dx;refine(yi x.n hni ZS.tb).mono ?_;rintro _ w4 ⟨rfl,dP⟩;have hz4:=ZS.only dP;have hl:=Lib.itoa_length_le x.n hni.1 hni.2;refine⟨_,rfl,ZS.same dP,(oW hz4.pg (Lib.itoa x.n) (by omega)).mono ?_⟩;rintro _ w5 ⟨LM,rfl,RA,A8⟩;obtain⟨IT,LN,_⟩:=hz4.mv RA A8;exact⟨_,⟨.nilIface,rfl⟩,rfl,LN,fin IT ((A8.after dP).after dx) (by rw[NV,if_pos hk]) (by rw[aU];omega)⟩
   ·have hk:x.k=2:=by simpa using hk
    have k1:x.k≠1:=by omega
    have hz7:=Cq.only fI;have hl:=jS (oX hh (.inl hk));refine(oW hz7.pg x.s (by omega)).mono ?_;rintro _ w8 ⟨LM,rfl,RA,A8⟩;obtain⟨IT,LN,_⟩:=hz7.mv RA A8;exact⟨_,⟨.nilIface,rfl⟩,rfl,LN,fin IT (A8.after fI) (by rw[NV,if_neg k1,if_pos hk]) (by rw[aU];omega)⟩
   ·have hk:x.k=3:=by simpa using hk
    have hl:=jS (oX hh (.inr hk));rw[dH];omega
   ·have hk:x.k=3:=by simpa using hk
    have hl:=jS (oX hh (.inr hk));rw[inz];have:(ar #[105,110,40]).size=3:=rfl;omega
   ·have hk:x.k=3:=by simpa using hk
    have hl:=jS (oX hh (.inr hk));have RB:=Cq.only eH;have Rm:([105,110,40]++x.s++[41]:aJ).length=x.s.length+4:=by
     rw[aU,aU];simp only[bp,cO];omega
    rw[inb];refine(oW RB.pg _ (by omega)).mono ?_;rintro _ dJ ⟨LM,rfl,RA,A8⟩;obtain⟨IT,LN,_⟩:=RB.mv RA A8;exact⟨_,⟨.nilIface,rfl⟩,rfl,LN,fin IT (A8.after eH) (by rw[NV,if_neg (by omega),if_neg (by omega),if_pos hk]) (by rw[aU];omega)⟩
   ·have hk:x.k=4:=by simpa using hk
    obtain⟨y,hy,Ec⟩:=Pu hh hk;have ZT:tu (oV d) x.fW=oV d y:=by rw[hy];simp[tu]
    have hay:eL d y=true:=by rw[hy]at ha;simpa[ol]using ha
    have RC:qV d y:=WR y (by rw[hy];simp);have ZU:=pL x.op.toNat;have Ed:=Cq.only eS;obtain⟨q,hq,hB⟩:=Ed.pg.blk;obtain⟨ad,g1,g2⟩:=Ed.sig (op:=x.op) (by omega) (by omega);refine⟨sG,Blk.dZ hB 2 rfl,ad,g1,_,g2,(oW Ed.pg (lC x.op.toNat) (by omega)).mono ?_⟩;rintro _ fT ⟨alE,rfl,ZV,RD⟩;obtain⟨ZW,ZX,_⟩:=Ed.mv ZV RD;refine⟨_,⟨.nilIface,rfl⟩,rfl,ZX,fun iJ iu=>?_⟩;have IU:=ZW.only iu;obtain⟨p1,sy,e1,e2,e3,e4⟩:=IU.sub (i:=0) (y:=y) (by rw[hy];rfl);refine⟨fun k=>k<b∨k=k0,.inr rfl,p1,e1,.inl e2,_,_,_,_,_,_,e3,p1,e1,_,_,_,_,_,_,e3,(oJ e4).mono ?_⟩;rintro _ iX ⟨rfl,ig⟩;have IV:=IU.only ig;have Ng:=qH d (decide (gW y<6)) (uv wr l++lC x.op.toNat) hay RC;rw[aU]at Ng;refine⟨_,rfl,IU.same ig,bS.only ig,(ud d (decide (gW y<6)) hay RC (kJ e4 ig) hF IV.tb ZQ IV.pg (by rw[aU];omega)).mono ?_⟩;rintro _ fR ⟨alF,rfl,ZY,RE⟩;obtain⟨ZZ,Z0,Z1⟩:=IV.mv ZY RE;exact⟨rfl,Z0,Z1,fin ZZ ((RD.after eS).trans ((RE.after ig).after iu)) (by rw[NV,if_neg (by omega),if_neg (by omega),if_neg (by omega),if_pos hk,hy]) (by omega)⟩
   ·rintro _ jO ⟨rfl,kU⟩;have k1:x.k≠1:=by simpa using k1
    have k2:x.k≠2:=by simpa using k2
    have k3:x.k≠3:=by simpa using k3
    have k4:x.k≠4:=by simpa using k4
    obtain⟨hk,y,z,hy,ho1,Zp⟩:=Pv hh k1 k2 k3 k4;have ZT:tu (oV d) x.fW=oV d y+oV d z:=by rw[hy];simp[tu]
    have Ee:eL d y=true/\eL d z=true:=by rw[hy]at ha;simpa[ol]using ha
    have RC:qV d y:=WR y (by rw[hy];simp);have Z2:qV d z:=WR z (by rw[hy];simp);have ZU:=pL x.op.toNat;have Z3:=Cq.only kU;refine⟨_,rfl,Cq.same kU,fun jm mL=>?_⟩;have IW:=Z3.only mL;obtain⟨p1,sy,e1,e2,e3,e4⟩:=IW.sub (i:=0) (y:=y) (by rw[hy];rfl);refine⟨fun k=>k<b∨k=k0,.inr rfl,p1,e1,.inl e2,_,_,_,_,_,_,e3,p1,e1,_,_,_,_,_,_,e3,(oJ e4).mono ?_⟩;rintro _ kV ⟨rfl,ku⟩;have IX:=IW.only ku;have Ng:=qH d (decide (gW y<gW x)) (uv wr l) Ee.1 RC;refine⟨_,rfl,IW.same ku,bS.only ku,(ud d (decide (gW y<gW x)) Ee.1 RC (kJ e4 ku) hF IX.tb ZQ IX.pg (by omega)).mono ?_⟩;rintro _ oS ⟨alG,rfl,Z4,RF⟩;obtain⟨Z5,Z6,Z7⟩:=IX.mv Z4 RF;refine⟨rfl,Z6,Z7,fun nH jX=>?_⟩;have Ef:=Z5.only jX;obtain⟨q,hq,hB⟩:=Ef.pg.blk;obtain⟨ad,g1,g2⟩:=Ef.sig (op:=x.op) (by omega) (by omega);have Rm:([32]++lC x.op.toNat++[32]:aJ).length=(lC x.op.toNat).length+2:=by
     rw[aU,aU];simp only[bp,cO];omega
    have tB:(ar #[32]).size=1:=rfl;refine⟨sG,Blk.dZ hB 2 rfl,ad,g1,_,g2,by rw[dH];omega,by rw[inz];omega,?_⟩;rw[blb];refine(oW Ef.pg _ (by omega)).mono ?_;rintro _ ot ⟨alH,rfl,Z8,RG⟩;obtain⟨Z9,aaa,_⟩:=Ef.mv Z8 RG;refine⟨_,⟨.nilIface,rfl⟩,rfl,aaa,fun nB vH=>?_⟩;have IY:=Z9.only vH;obtain⟨p2,sz,f1,f2,f3,f4⟩:=IY.sub (i:=1) (y:=z) (by rw[hy];rfl);refine⟨fun k=>k<b∨k=k0,.inr rfl,p2,f1,.inl f2,_,_,_,_,_,_,f3,p2,f1,_,_,_,_,_,_,f3,(oJ f4).mono ?_⟩;rintro _ rb ⟨rfl,jy⟩;have IZ:=IY.only jy;have aab:=qH d (decide (gW z<=gW x)) (uw d y (decide (gW y<gW x)) (uv wr l)++([32]++lC x.op.toNat++[32])) Ee.2 Z2;rw[aU,Rm]at aab;refine⟨_,rfl,IY.same jy,bS.only jy,(ud d (decide (gW z<=gW x)) Ee.2 Z2 (kJ f4 jy) hF IZ.tb ZQ IZ.pg (by rw[aU,Rm];omega)).mono ?_⟩;rintro _ uy ⟨alI,rfl,aac,RH⟩;obtain⟨aad,aae,aaf⟩:=IZ.mv aac RH;exact⟨rfl,aae,aaf,fin aad (((RF.after ku).after mL).after kU |>.trans ((RG.after jX).trans ((RH.after jy).after vH))) (by rw[NV,if_neg k1,if_neg k2,if_neg k3,if_neg k4,hy]) (by omega)⟩
  ·have ZR:l=uv wr l:=by unfold uv;rw[hw];rfl
   have Cq:Pz d F G k0 b xs sG x.fW w1 sl (uv wr l):=by rw[<-ZR];exact UM
   have fin:∀{LM:Sl} {w5:ay} {m:aJ},Pz d F G k0 b xs sG x.fW w5 LM m->tv b sl w1 LM w5->uw (d+1) x wr l=VY wr m->m.length<=l.length+40*(1+tu (oV d) x.fW)->∃pq,(Value.tuple #[])=ak #[]/\Pg G w5 b pq sG (uw (d+1) x wr l)/\tv b sl w pq w5:=by
    intro LM w5 m IT A8 he Cs;refine⟨LM,rfl,?_,A8.after cK⟩;rw[he];unfold VY;rw[hw];exact IT.pg
   refine⟨fun hk w3 dx=>?_,fun k1=>⟨fun hk w7 fI=>?_,fun k2=>⟨fun hk=>⟨?_,?_,fun dI eH=>?_⟩,fun k3=>⟨fun hk fC eS=>?_,fun k4=>(oJ (show BB (d+1) _ F x (qU x.k x.n x.s x.op xs x.a)from⟨xs,rfl,Cq.sb⟩)).mono ?_⟩⟩⟩⟩
   ·have hk:x.k=1:=by simpa using hk
    have ZS:=Cq.only dx;refine(yi x.n hni ZS.tb).mono ?_;rintro _ w4 ⟨rfl,dP⟩;have hz4:=ZS.only dP;have hl:=Lib.itoa_length_le x.n hni.1 hni.2;refine⟨_,rfl,ZS.same dP,(oW hz4.pg (Lib.itoa x.n) (by omega)).mono ?_⟩;rintro _ w5 ⟨LM,rfl,RA,A8⟩;obtain⟨IT,LN,_⟩:=hz4.mv RA A8;exact⟨_,⟨.nilIface,rfl⟩,rfl,LN,fin IT ((A8.after dP).after dx) (by rw[NV,if_pos hk]) (by rw[aU];omega)⟩
   ·have hk:x.k=2:=by simpa using hk
    have k1:x.k≠1:=by omega
    have hz7:=Cq.only fI;have hl:=jS (oX hh (.inl hk));refine(oW hz7.pg x.s (by omega)).mono ?_;rintro _ w8 ⟨LM,rfl,RA,A8⟩;obtain⟨IT,LN,_⟩:=hz7.mv RA A8;exact⟨_,⟨.nilIface,rfl⟩,rfl,LN,fin IT (A8.after fI) (by rw[NV,if_neg k1,if_pos hk]) (by rw[aU];omega)⟩
   ·have hk:x.k=3:=by simpa using hk
    have hl:=jS (oX hh (.inr hk));rw[dH];omega
   ·have hk:x.k=3:=by simpa using hk
    have hl:=jS (oX hh (.inr hk));rw[inz];have:(ar #[105,110,40]).size=3:=rfl;omega
   ·have hk:x.k=3:=by simpa using hk
    have hl:=jS (oX hh (.inr hk));have RB:=Cq.only eH;have Rm:([105,110,40]++x.s++[41]:aJ).length=x.s.length+4:=by
     rw[aU,aU];simp only[bp,cO];omega
    rw[inb];refine(oW RB.pg _ (by omega)).mono ?_;rintro _ dJ ⟨LM,rfl,RA,A8⟩;obtain⟨IT,LN,_⟩:=RB.mv RA A8;exact⟨_,⟨.nilIface,rfl⟩,rfl,LN,fin IT (A8.after eH) (by rw[NV,if_neg (by omega),if_neg (by omega),if_pos hk]) (by rw[aU];omega)⟩
   ·have hk:x.k=4:=by simpa using hk
    obtain⟨y,hy,Ec⟩:=Pu hh hk;have ZT:tu (oV d) x.fW=oV d y:=by rw[hy];simp[tu]
    have hay:eL d y=true:=by rw[hy]at ha;simpa[ol]using ha
    have RC:qV d y:=WR y (by rw[hy];simp);have ZU:=pL x.op.toNat;have Ed:=Cq.only eS;obtain⟨q,hq,hB⟩:=Ed.pg.blk;obtain⟨ad,g1,g2⟩:=Ed.sig (op:=x.op) (by omega) (by omega);refine⟨sG,Blk.dZ hB 2 rfl,ad,g1,_,g2,(oW Ed.pg (lC x.op.toNat) (by omega)).mono ?_⟩;rintro _ fT ⟨alE,rfl,ZV,RD⟩;obtain⟨ZW,ZX,_⟩:=Ed.mv ZV RD;refine⟨_,⟨.nilIface,rfl⟩,rfl,ZX,fun iJ iu=>?_⟩;have IU:=ZW.only iu;obtain⟨p1,sy,e1,e2,e3,e4⟩:=IU.sub (i:=0) (y:=y) (by rw[hy];rfl);refine⟨fun k=>k<b∨k=k0,.inr rfl,p1,e1,.inl e2,_,_,_,_,_,_,e3,p1,e1,_,_,_,_,_,_,e3,(oJ e4).mono ?_⟩;rintro _ iX ⟨rfl,ig⟩;have IV:=IU.only ig;have Ng:=qH d (decide (gW y<6)) (uv wr l++lC x.op.toNat) hay RC;rw[aU]at Ng;refine⟨_,rfl,IU.same ig,bS.only ig,(ud d (decide (gW y<6)) hay RC (kJ e4 ig) hF IV.tb ZQ IV.pg (by rw[aU];omega)).mono ?_⟩;rintro _ fR ⟨alF,rfl,ZY,RE⟩;obtain⟨ZZ,Z0,Z1⟩:=IV.mv ZY RE;exact⟨rfl,Z0,Z1,fin ZZ ((RD.after eS).trans ((RE.after ig).after iu)) (by rw[NV,if_neg (by omega),if_neg (by omega),if_neg (by omega),if_pos hk,hy]) (by omega)⟩
   ·rintro _ jO ⟨rfl,kU⟩;have k1:x.k≠1:=by simpa using k1
    have k2:x.k≠2:=by simpa using k2
    have k3:x.k≠3:=by simpa using k3
    have k4:x.k≠4:=by simpa using k4
    obtain⟨hk,y,z,hy,ho1,Zp⟩:=Pv hh k1 k2 k3 k4;have ZT:tu (oV d) x.fW=oV d y+oV d z:=by rw[hy];simp[tu]
    have Ee:eL d y=true/\eL d z=true:=by rw[hy]at ha;simpa[ol]using ha
    have RC:qV d y:=WR y (by rw[hy];simp);have Z2:qV d z:=WR z (by rw[hy];simp);have ZU:=pL x.op.toNat;have Z3:=Cq.only kU;refine⟨_,rfl,Cq.same kU,fun jm mL=>?_⟩;have IW:=Z3.only mL;obtain⟨p1,sy,e1,e2,e3,e4⟩:=IW.sub (i:=0) (y:=y) (by rw[hy];rfl);refine⟨fun k=>k<b∨k=k0,.inr rfl,p1,e1,.inl e2,_,_,_,_,_,_,e3,p1,e1,_,_,_,_,_,_,e3,(oJ e4).mono ?_⟩;rintro _ kV ⟨rfl,ku⟩;have IX:=IW.only ku;have Ng:=qH d (decide (gW y<gW x)) (uv wr l) Ee.1 RC;refine⟨_,rfl,IW.same ku,bS.only ku,(ud d (decide (gW y<gW x)) Ee.1 RC (kJ e4 ku) hF IX.tb ZQ IX.pg (by omega)).mono ?_⟩;rintro _ oS ⟨alG,rfl,Z4,RF⟩;obtain⟨Z5,Z6,Z7⟩:=IX.mv Z4 RF;refine⟨rfl,Z6,Z7,fun nH jX=>?_⟩;have Ef:=Z5.only jX;obtain⟨q,hq,hB⟩:=Ef.pg.blk;obtain⟨ad,g1,g2⟩:=Ef.sig (op:=x.op) (by omega) (by omega);have Rm:([32]++lC x.op.toNat++[32]:aJ).length=(lC x.op.toNat).length+2:=by
     rw[aU,aU];simp only[bp,cO];omega
    have tB:(ar #[32]).size=1:=rfl;refine⟨sG,Blk.dZ hB 2 rfl,ad,g1,_,g2,by rw[dH];omega,by rw[inz];omega,?_⟩;rw[blb];refine(oW Ef.pg _ (by omega)).mono ?_;rintro _ ot ⟨alH,rfl,Z8,RG⟩;obtain⟨Z9,aaa,_⟩:=Ef.mv Z8 RG;refine⟨_,⟨.nilIface,rfl⟩,rfl,aaa,fun nB vH=>?_⟩;have IY:=Z9.only vH;obtain⟨p2,sz,f1,f2,f3,f4⟩:=IY.sub (i:=1) (y:=z) (by rw[hy];rfl);refine⟨fun k=>k<b∨k=k0,.inr rfl,p2,f1,.inl f2,_,_,_,_,_,_,f3,p2,f1,_,_,_,_,_,_,f3,(oJ f4).mono ?_⟩;rintro _ rb ⟨rfl,jy⟩;have IZ:=IY.only jy;have aab:=qH d (decide (gW z<=gW x)) (uw d y (decide (gW y<gW x)) (uv wr l)++([32]++lC x.op.toNat++[32])) Ee.2 Z2;rw[aU,Rm]at aab;refine⟨_,rfl,IY.same jy,bS.only jy,(ud d (decide (gW z<=gW x)) Ee.2 Z2 (kJ f4 jy) hF IZ.tb ZQ IZ.pg (by rw[aU,Rm];omega)).mono ?_⟩;rintro _ uy ⟨alI,rfl,aac,RH⟩;obtain⟨aad,aae,aaf⟩:=IZ.mv aac RH;exact⟨rfl,aae,aaf,fin aad (((RF.after ku).after mL).after kU |>.trans ((RG.after jX).trans ((RH.after jy).after vH))) (by rw[NV,if_neg k1,if_neg k2,if_neg k3,if_neg k4,hy]) (by omega)⟩
def tM(d:Nat)(x:Ex):aJ:=if eL d x=true then(if(oI (uw d x false [])).2.1≠0 then[]else uw d x false [])else[]
theorem X2{d:Nat}{w:ay}{F:aL}{x:Ex}{cs:aK}(hx:BB d w F x cs)(hl:zx d x)(hn:qV d x)(hE:Er w)(hT:Tb w)(hc:40*oV d x<=70368744177664):
  aB au 247 #[aj cs.toArray] w fun e w'=>e=aq (ah (T (tM d x)))/\aA [] w w':=by
 obtain⟨xs,rfl⟩:=sV hx;refine ret (v6w _ _ _ _ _ _ _ _ ?_);intro k0 w0 gU fi cK;have hxi:=(oU d).inHeap hx;refine(JR d hl (kJ hx cK)).mono ?_;rintro _ w1 ⟨rfl,cF⟩;have z0:=cK.size;have z1:=cF.size;have jp:=cK.cz cF;refine⟨_,rfl,cF.same (by simp;omega),fun hs=>?_,fun hs=>(VU w1).mono ?_⟩
 ·have hs:eL d x=false:=by simpa using hs
  rw[tM,if_neg (by rw[hs];decide)];exact⟨rfl,jp⟩
 have hs:eL d x=true:=by simpa using hs
 rw[tM,if_pos hs];rintro _ w2 ⟨l0,rfl,Ss,dh⟩;have z2:=dh.size;refine⟨l0,rfl,dh.same (by simp;omega),fun k1 w3 ke jH dx xy=>?_⟩;have z3:=dx.size;have Ax:aA [] w w3:=(jp.cz dh).cz dx;have NV:Pg (fun k=>w1.heap.size<=k/\k<w2.heap.size) w3 k1 Sl.nil l0 []:=⟨⟨none,.inl rfl,xy⟩,.inl ⟨rfl,rfl⟩,SliceF.only dD (by decide) Ss dx (by simp),fun k hk=>by have:=hk.2;omega⟩
 have hT3:=hT.only Ax;have yw:=hT.lt;refine(ud d false hs hn (kJ hxi Ax) (fun k hk=>by have:=hk.2;omega) hT3 (by omega) NV (by rw[cO];omega)).mono ?_;rintro _ w4 ⟨sl4,rfl,hp4,hm4⟩;have z4:=hm4.1.size;have dP:aA [] w w4:=(Ax.pd hm4.1).only fun k hk=>by
  rcases hk with rfl | e
  ·omega
  ·cases e
 obtain⟨q,hq,vG⟩:=hp4.blk;refine⟨rfl,hm4.same (by omega) (fun e=>by cases e) (by omega),q,sl4,l0,vG,(Ps hp4.pt).mono ?_⟩;rintro _ w5 ⟨rfl,ht5,eE⟩;have z5:=eE.size;have wL:=eE.blk vG (by omega);have xS:aA [] w w5:=(dP.pd eE).only fun k hk=>by have:=hk.1;omega
 refine⟨_,rfl,eE.same (by simp;omega),q,sl4,l0,wL,(XX _ (hE.only xS)).mono ?_⟩;rintro _ w6 ⟨cs,rfl,hX,ez⟩;have z6:=ez.size;obtain⟨xl,rfl,_⟩:=hX.cells;have SF:=ez.blk wL (by simp);have afq:=xS.cz ez;refine⟨_,_,_,_,_,_,_,_,rfl,ez.same (by simp;omega),q,sl4,l0,SF,fun hr k2 k3 w7 _ _ _ _ fI _=>?_,fun hr k4 k5 w8 yy A7 Cp G3 gn uz=>?_⟩
 ·rw[if_pos (by simpa using hr)];exact⟨rfl,afq.cz fI⟩
 ·have z8:=gn.size;refine(Ps ((ht5.only ez).only gn)).mono ?_;rintro _ w9 ⟨rfl,ht9,gv⟩;rw[if_neg (by simpa using hr)];have gz:∀k,sl4.a=some ⟨k,0,none⟩->k<w4.heap.size:=fun k hk=>(hp4.buf.lt hk).2;refine⟨_,rfl,gv.same fun k hk=>?_,q,sl4,l0,gv.blk uz (by omega),rfl,((afq.cz gn).pd gv).only fun k hk=>by have:=hk.1;omega⟩;simp only[aR,bf,bU]at hk;rcases hk with rfl | rfl | rfl
  ·exact⟨by omega,fun h=>by have:=h.1;omega⟩
  ·exact⟨A7,fun h=>by have:=gz _ h.2;omega⟩
  ·exact⟨G3,fun h=>by have:=gz _ h.2;omega⟩
theorem TH{ts:List Tk}{i:Nat}{e:Int×Int}(h:TC ts i=.error e):e.1≠0:=by
 unfold TC at h;split at h
 ·split at h
  ·split at h
   ·cases h
   ·injection h with h;subst h;exact iC
  ·injection h with h;subst h;exact iC
 ·injection h with h;subst h;exact iC
theorem FG{r:Pr}{g:Ex->Nat->Pr}{e:Int×Int}(h:Mi r g=.error e):r=.error e∨∃x j,r=.ok (x,j)/\g x j=.error e:=by
 cases r with
 | error e'=>exact .inl h
 | ok p=>exact .inr ⟨p.1,p.2,rfl,h⟩
theorem BC{d:Nat}{a:Int}{r:Pr}{e:Int×Int}(h:qT d a r=.error e):r=.error e∨e.1=21:=by
 unfold qT at h;split at h
 ·injection h with h;subst h;exact .inr rfl
 ·exact .inl h
theorem BD{ts:List Tk}{E:Nat->Pr}{k:Int}{e:Int×Int}(hE:∀i,E i=.error e->e.1≠0):∀(g:Nat) (x:Ex) (j:Nat),mU ts E k g x j=.error e->e.1≠0
 | 0,x,j,h=>by cases h
 | g+1,x,j,h=>by
  rw[mU]at h;split at h
  ·cases h
  ·rcases FG h with h1 | ⟨y,m,h1,h2⟩
   ·exact hE _ h1
   ·exact BD hE g _ _ h2
theorem pM{ts:List Tk}{e:Int×Int}:∀(f k d i:Nat),fK ts f k d i=.error e->e.1≠0
 | 0,k,d,i,h=>by
  rw[fK]at h;injection h with h;subst h;decide
 | f+1,k,d,i,h=>by
  rw[fK]at h;split at h
  ·unfold Dc at h;split at h
   ·generalize hn:qT d (tk ts i).a (fK ts f 6 (d+1) (i+1))=r at h;cases r with
    | ok q=>cases h
    | error e'=>
     simp only[TB]at h;injection h with h;subst h;rcases BC hn with h1 | h1
     ·exact pM f _ _ _ h1
     ·rw[h1];decide
   ·split at h
    ·rcases BC h with h1 | h1
     ·cases hr:fK ts f 0 (d+1) (i+1)with
      | error e'=>
       rw[hr]at h1;simp only[AY]at h1;injection h1 with h1;subst h1;exact pM f _ _ _ hr
      | ok q=>
       rw[hr]at h1;simp only[AY]at h1;split at h1
       ·cases h1
       ·injection h1 with h1;subst h1;exact iC
     ·rw[h1];decide
    ·split at h
     ·cases h
     ·split at h
      ·cases h
      ·split at h
       ·exact TH h
       ·injection h with h;subst h;exact iC
  ·rcases FG h with h1 | ⟨y,m,h1,h2⟩
   ·exact pM f _ _ _ h1
   ·exact BD (fun i hi=>pM f _ _ _ hi) _ _ _ h2
structure Ac where
 k:Int
 n:aJ
 x:Ex
 a:Int
structure Mv where
 k:Int
 ev:aJ
 wt:Int
 gd:Bool
 g:Ex
 acts:List Ac
 tg:List (aJ)
 a:Int
structure Nb where
 k:Int
 nm:aJ
 ini:aJ
 dft:aJ
 en:List Ac
 lv:List Ac
 mv:List Mv
 a:Int
inductive Nd where
 | mk (b:Nb) (kids:List Nd)
def Nd.b:Nd->Nb | .mk b _=>b
def Nd.kids:Nd->List Nd | .mk _ l=>l
structure Vr where
 n:aJ
 v:Int
 a:Int
structure Ch where
 vars:List Vr
 root:Nd
def nb0:Nb:=⟨0,[],[],[],[],[],[],0⟩
def Mp:Nd:=.mk nb0 []
def ch0:Ch:=⟨[],Mp⟩
def tkZ:Tk:=⟨0,[],0,0⟩
structure Sx where
 i:Nat
 fc:Int
 fa:Int
 v:Int
 n:Int
 d:Int
 m:Int
 a:Int
section
variable (ts:List Tk)
def gR(s:Sx)(c:Int):Sx:=if s.fc=0 then{s with fc:=c,fa:=(tk ts s.i).a}else s
def ki(s:Sx):Sx:=if(tk ts s.i).k=5 then gR ts (gR ts s 3) 4 else gR ts s 4
def rQ(c:aJ):List (aJ)->Nat
 | []=>0
 | x::l=>if c=x then 0 else rQ c l+1
def cT(s:Sx)(l:List (aJ)):Nat:=
 if s.fc≠0∨((tk ts s.i).k≠2/\(tk ts s.i).k≠4)then 0 else if rQ (tk ts s.i).t l<l.length then rQ (tk ts s.i).t l+1 else 0
def dA(s:Sx):Sx:={s with i:=s.i+1}
def eB(s:Sx)(x:aJ):Sx:=if cT ts s [x]=0 then ki ts s else dA s
def gK(s:Sx)(k:Int):Tk×Sx:=if s.fc≠0∨(tk ts s.i).k≠k then(tkZ,ki ts s)else(tk ts s.i,dA s)
def iK(s:Sx):aJ×Sx:=((gK ts s 1).1.t,(gK ts s 1).2)
def pN(s:Sx):Ex×Sx:=
 if s.fc≠0 then(FC,s)
 else if(dC ts s.i).2.2.1≠0 then((dC ts s.i).1,{s with fc:=(dC ts s.i).2.2.1,fa:=(dC ts s.i).2.2.2})
 else((dC ts s.i).1,{s with i:=(dC ts s.i).2.1.toNat})
def xH(x:Int):Int:=av ae (x-1)
def inc(x:Int):Int:=av ae (x+1)
def ue(s:Sx):Sx:=if s.a=0 then{gR ts s 2 with a:=xH s.a}else{s with a:=xH s.a}
def rR(s:Sx):Sx:=if s.m=0 then{gR ts s 2 with m:=xH s.m}else{s with m:=xH s.m}
def FH(s:Sx):Sx:=if s.n=0 then{gR ts s 2 with n:=xH s.n}else{s with n:=xH s.n}
def FI(s:Sx):Sx:=if s.v=0 then{gR ts s 2 with v:=xH s.v}else{s with v:=xH s.v}
def tw:aJ:=[115,101,116]
def kK:aJ:=[114,97,105,115,101]
def mV:aJ:=[101,109,105,116]
def HU:aJ:=[111,110]
def kb:aJ:=[97,108,119,97,121,115]
def kj:aJ:=[97,102,116,101,114]
def gr:aJ:=[105,110,105,116,105,97,108]
def jc:aJ:=[101,110,116,101,114]
def jd:aJ:=[108,101,97,118,101]
def Dh:aJ:=[115,116,97,116,101]
def sW:aJ:=[112,97,114,97,108,108,101,108]
def uZ:aJ:=[104,105,115,116,111,114,121]
def JX:aJ:=[100,101,101,112]
def gL:aJ:=[99,104,97,114,116]
def FJ:aJ:=[118,97,114]
def Mq(s:Sx)(k:Nat)(n:aJ)(a:Int):Ac×Sx:=
 if k=2 then(⟨k,n,FC,a⟩,eB ts s [59])
 else(⟨k,n,(pN ts (eB ts s [61])).1,a⟩,eB ts (pN ts (eB ts s [61])).2 [59])
def ri(s:Sx):Ac×Sx:=
 if cT ts s [tw,kK,mV]=0 then(⟨0,[],FC,(tk ts s.i).a⟩,ki ts s)
 else if(ue ts s).fc≠0 then(⟨(cT ts s [tw,kK,mV]:Nat),[],FC,(tk ts s.i).a⟩,ue ts s)
 else Mq ts (iK ts (dA (ue ts s))).2 (cT ts s [tw,kK,mV]) (iK ts (dA (ue ts s))).1 (tk ts s.i).a
def rS:Nat->List Ac->Sx->List Ac×Sx
 | 0,acc,s=>(acc,s)
 | f+1,acc,s=>if s.fc≠0 then(acc,s)else if cT ts s [[125]]≠0 then(acc,dA s)else rS f (acc++[(ri ts s).1]) (ri ts s).2
def je(s:Sx):List Ac×Sx:=rS ts (ts.length+1) [] (eB ts s [123])
def wZ:Nat->aJ->List (aJ)->Sx->List (aJ)×Sx
 | 0,_,acc,s=>(acc,s)
 | f+1,x,acc,s=>if cT ts s [x]=0 then(acc,s)else wZ f [44] (acc++[(iK ts (dA s)).1]) (iK ts (dA s)).2
def FK(m:Mv)(s:Sx):Mv×Sx:=
 ({m with tg:=(wZ ts (ts.length+1) [45,62] [] s).1},eB ts (wZ ts (ts.length+1) [45,62] [] s).2 [59])
def BE(m:Mv)(s:Sx):Mv×Sx:=
 if cT ts s [[123]]=0 then FK ts m s else FK ts {m with acts:=(je ts s).1} (je ts s).2
def pO(m:Mv)(s:Sx):Mv×Sx:=
 if cT ts s [[91]]=0 then BE ts m s else BE ts {m with gd:=true,g:=(pN ts (dA s)).1} (eB ts (pN ts (dA s)).2 [93])
def V0(k a:Int):Mv:=⟨k,[],0,false,FC,[],[],a⟩
def nR(k:Int)(s:Sx):Mv×Sx:=
 if(rR ts s).fc≠0 then(V0 k (tk ts s.i).a,rR ts s)
 else if k=1 then pO ts {V0 k (tk ts s.i).a with ev:=(iK ts (dA (rR ts s))).1} (iK ts (dA (rR ts s))).2
 else if k=3 then pO ts {V0 k (tk ts s.i).a with wt:=(gK ts (dA (rR ts s)) 3).1.n} (gK ts (dA (rR ts s)) 3).2
 else pO ts (V0 k (tk ts s.i).a) (dA (rR ts s))
structure Hj where
 i:Bool
 e:Bool
 l:Bool
def eX(n:Nb)(h:Hj)(s:Sx):Bool×Nb×Hj×Sx:=
 if cT ts s [HU,kb,kj]≠0 then(true,{n with mv:=n.mv++[(nR ts (cT ts s [HU,kb,kj]:Nat) s).1]},h,(nR ts (cT ts s [HU,kb,kj]:Nat) s).2)
 else match cT ts s [gr,jc,jd]with
  | 0=>(false,n,h,s)
  | 1=>if h.i then(false,n,h,ki ts s)else(true,{n with ini:=(iK ts (dA s)).1},{h with i:=true},eB ts (iK ts (dA s)).2 [59])
  | 2=>if h.e then(false,n,h,ki ts s)else(true,{n with en:=(je ts (dA s)).1},{h with e:=true},(je ts (dA s)).2)
  | _=>if h.l then(false,n,h,ki ts s)else(true,{n with lv:=(je ts (dA s)).1},{h with l:=true},(je ts (dA s)).2)
def jT:Nat->Nb->Hj->Sx->Nb×Sx
 | 0,n,_,s=>(n,s)
 | f+1,n,h,s=>if s.fc≠0 then(n,s)
  else if(eX ts n h s).1 then jT f (eX ts n h s).2.1 (eX ts n h s).2.2.1 (eX ts n h s).2.2.2 else((eX ts n h s).2.1,(eX ts n h s).2.2.2)
def qI:List (aJ):=[Dh,sW,uZ,JX]
def u4(N:Int->Sx->Nd×Sx):Nat->List Nd->Sx->List Nd×Sx
 | 0,acc,s=>(acc,s)
 | f+1,acc,s=>if cT ts s qI=0 then(acc,s)else u4 N f (acc++[(N (cT ts s qI:Nat) (dA s)).1]) (N (cT ts s qI:Nat) (dA s)).2
def qW(N:Int->Sx->Nd×Sx)(n:Nb)(s:Sx):Nd×Sx:=
 let c:=jT ts (ts.length+1) n ⟨false,false,false⟩ {s with d:=xH s.d}
 let k:=u4 ts N (ts.length+1) [] c.2
 (.mk c.1 k.1,eB ts {k.2 with d:=inc k.2.d} [125])
def qX(s:Sx):Sx:=if(tk ts s.i).k=1 then(if(FH ts s).d=0 then gR ts (FH ts s) 21 else FH ts s)else s
def eY(k:Int)(s:Sx):Nb×Sx:=({nb0 with k:=k,nm:=(gK ts (qX ts s) 1).1.t,a:=(gK ts (qX ts s) 1).1.a},(gK ts (qX ts s) 1).2)
def kM:Nat->Int->Sx->Nd×Sx
 | 0,_,s=>(Mp,s)
 | f+1,k,s=>
  if 3<=k then(.mk {(eY ts k s).1 with dft:=(iK ts (eB ts (eY ts k s).2 [45,62])).1} [],eB ts (iK ts (eB ts (eY ts k s).2 [45,62])).2 [59])
  else qW ts (kM f) (eY ts k s).1 (eB ts (eY ts k s).2 [123])
def uf(s:Sx):Vr×Sx:=
 let s1:=if(tk ts s.i).k=1 then FI ts s else s
 let t:=gK ts s1 1
 let s2:=eB ts t.2 [61]
 let g:=cT ts s2 [[45]]
 let q:=gK ts (if g=0 then s2 else dA s2) 3
 (⟨t.1.t,if g=0 then q.1.n else av ae (-q.1.n),t.1.a⟩,eB ts q.2 [59])
def xa:Nat->List Vr->Sx->List Vr×Sx
 | 0,acc,s=>(acc,s)
 | f+1,acc,s=>if cT ts s [FJ]=0 then(acc,s)else xa f (acc++[(uf ts (dA s)).1]) (uf ts (dA s)).2
def Hb:Sx:=⟨0,0,0,16,64,12,200,400⟩
def Mr(s:Sx):Sx:=if s.fc=0/\(tk ts s.i).k≠5 then ki ts s else s
def zz:Ch×Sx:=
 let n:=eY ts 1 (eB ts Hb gL)
 let v:=xa ts (ts.length+1) [] (eB ts n.2 [123])
 let b:=qW ts (kM ts 14) n.1 v.2
 (⟨v.1,b.1⟩,Mr ts b.2)
end
def dE(l:aJ):Ch×Int×Int:=
 if(dq l).2.1≠0 then(ch0,(dq l).2.1,(dq l).2.2)
 else if(zz (dq l).1).2.fc≠0 then(ch0,(zz (dq l).1).2.fc,(zz (dq l).1).2.fa)
 else((zz (dq l).1).1,0,0)
def mu(ts:List Tk)(s:Sx):Nat:=if s.fc=0 then ts.length-s.i else 0
structure On0 (ts:List Tk) (s s':Sx):Prop where
 lt:s.i<ts.length->s'.i<ts.length
 le:s'.fc=0->s.fc=0/\s.i<=s'.i
structure On (ts:List Tk) (s s':Sx):Prop extends On0 ts s s' where
 d:s'.d=s.d
section
variable {ts:List Tk} {s s' s'':Sx}
theorem On0.refl(ts:List Tk)(s:Sx):On0 ts s s:=⟨id,fun h=>⟨h,aY _⟩⟩
theorem On.refl(ts:List Tk)(s:Sx):On ts s s:=⟨On0.refl ts s,rfl⟩
theorem On0.trans(h:On0 ts s s')(k:On0 ts s' s''):On0 ts s s'':=⟨fun x=>k.lt (h.lt x),fun e=>by
 obtain⟨a,b⟩:=k.le e;obtain⟨c,d⟩:=h.le a;exact⟨c,bh d b⟩⟩
theorem On.trans(h:On ts s s')(k:On ts s' s''):On ts s s'':=⟨h.toOn0.trans k.toOn0,k.d.trans h.d⟩
theorem On0.mu(h:On0 ts s s'):mu ts s'<=mu ts s:=by
 unfold Con.mu;by_cases e:s'.fc=0
 ·obtain⟨a,b⟩:=h.le e;rw[if_pos e,if_pos a];omega
 ·rw[if_neg e];exact bA _
theorem oK(c:Int):On ts s (gR ts s c):=by
 unfold gR;by_cases e:s.fc=0
 ·rw[if_pos e];exact⟨⟨id,fun _=>⟨e,aY _⟩⟩,rfl⟩
 ·rw[if_neg e];exact On.refl _ _
theorem JY{c:Int}(hc:c≠0):(gR ts s c).fc≠0:=by
 unfold gR;by_cases e:s.fc=0
 ·rw[if_pos e];exact hc
 ·rw[if_neg e];exact e
theorem Di(c:Int):(gR ts s c).i=s.i:=by
 unfold gR;split<;>rfl
theorem pQ:(ki ts s).fc≠0:=by
 unfold ki;split<;>exact JY (by decide)
theorem pR:On ts s (ki ts s):=by
 unfold ki;split
 ·exact(oK 3).trans (oK 4)
 ·exact oK 4
theorem FL(l:List (aJ)):cT ts s l<=l.length:=by
 unfold cT;split
 ·exact bA _
 ·split<;>omega
theorem dl{l:List (aJ)}(h:cT ts s l≠0):s.fc=0/\(tk ts s.i).k≠5:=by
 unfold cT at h;split at h
 ·exact absurd rfl h
 ·rename_i hc;by_cases e:s.fc=0
  ·refine⟨e,fun e5=>hc (.inr ?_)⟩;rw[e5];exact⟨by decide,by decide⟩
  ·exact absurd (.inl e) hc
theorem kO(hE:wa ts)(h0:s.fc=0)(hk:(tk ts s.i).k≠5):On ts s (dA s):=⟨⟨fun h=>hE.next h hk,fun _=>⟨h0,iy _⟩⟩,rfl⟩
theorem ic(hE:wa ts)(x:aJ):On ts s (eB ts s x):=by
 unfold eB;by_cases h:cT ts s [x]=0
 ·rw[if_pos h];exact pR
 ·rw[if_neg h];exact kO hE (dl h).1 (dl h).2
theorem u5(hE:wa ts){k:Int}(hk:k≠5):On ts s (gK ts s k).2:=by
 unfold gK;by_cases h:s.fc≠0∨(tk ts s.i).k≠k
 ·rw[if_pos h];exact pR
 ·rw[if_neg h];simp only[not_or,uB]at h;exact kO hE h.1 (by rw[h.2];exact hk)
theorem oL(hE:wa ts):On ts s (iK ts s).2:=u5 hE (by decide)
end
section
variable {ts:List Tk} (hE:wa ts)
include hE
theorem X3{i:Nat}{x:Ex}{j:Nat}(hi:i<ts.length)(hk:(tk ts i).k≠5)(h:TC ts i=.ok (x,j)):j<ts.length:=by
 unfold TC at h;split at h
 ·rename_i h1;have l1:=hE.next hi hk;have l2:=hE.next l1 (Db h1);split at h
  ·rename_i h2;have l3:=hE.next l2 (by rw[h2];decide);split at h
   ·rename_i h3;have l4:=hE.next l3 (Db h3);simp only[ft,fJ]at h;omega
   ·cases h
  ·cases h
 ·cases h
theorem TI{E0 MR:Nat->Pr}{d i:Nat}{x:Ex}{j:Nat}(hE0:∀i x j,i<ts.length->E0 i=.ok (x,j)->j<ts.length)(hO:∀i x j,i<ts.length->MR i=.ok (x,j)->j<ts.length)(hi:i<ts.length)(h:Dc ts E0 MR d i=.ok (x,j)):j<ts.length:=by
 unfold Dc at h;split at h
 ·rename_i hs;obtain⟨y,h1,_⟩:=JL h;refine hO _ _ _ (hE.next hi ?_) (uX h1).1;rcases cp _ _▸hs with hs | hs<;>exact Db hs
 ·split at h
  ·rename_i hs;obtain⟨j',h1,h2,rfl⟩:=JM (uX h).1;exact hE.next (hE0 _ _ _ (hE.next hi (Db hs)) h1) (Db h2)
  ·split at h
   ·rename_i hk;simp only[ft,fJ]at h;have:=hE.next hi (by rw[hk];decide);omega
   ·split at h
    ·rename_i hk;simp only[ft,fJ]at h;have:=hE.next hi (by rw[hk];decide);omega
    ·split at h
     ·rename_i hk;exact X3 hE hi (by rw[hk.1];decide) h
     ·cases h
theorem FM{E:Nat->Pr}{k:Int}(hE':∀i x j,i<ts.length->E i=.ok (x,j)->j<ts.length):∀(g:Nat) (x:Ex) (j:Nat) {x':Ex} {j':Nat},j<ts.length->mU ts E k g x j=.ok (x',j')->j'<ts.length
 | 0,x,j,x',j',hj,h=>by
  simp only[mU,ft,fJ]at h;omega
 | g+1,x,j,x',j',hj,h=>by
  rw[mU]at h;split at h
  ·simp only[ft,fJ]at h;omega
  ·rename_i ho;obtain⟨y,m,h1,h2⟩:=yh h;exact FM hE' g _ _ (hE' _ _ _ (hE.next hj (wc _ _ ho)) h1) h2
theorem rT:∀(f k d i:Nat) {x:Ex} {j:Nat},i<ts.length->fK ts f k d i=.ok (x,j)->j<ts.length
 | 0,_,_,_,_,_,_,h=>by cases h
 | f+1,k,d,i,x,j,hi,h=>by
  rw[fK]at h;split at h
  ·exact TI hE (fun i x j hi h=>rT f _ _ i hi h) (fun i x j hi h=>rT f _ _ i hi h) hi h
  ·obtain⟨y,m,h1,h2⟩:=yh h;exact FM hE (fun i x j hi h=>rT f _ _ i hi h) _ _ _ (rT f _ _ _ hi h1) h2
theorem Ms{i:Nat}(h0:(dC ts i).2.2.1=0):∃j:Nat,(dC ts i).2.1=(j:Int)/\i<j/\j<ts.length:=by
 unfold dC at h0⊢;split at h0
 ·rename_i hc;rw[if_pos hc];have hi:i<ts.length:=by have:=hc.2.1;omega
  rw[aX]at h0⊢;unfold HS at h0⊢;cases he:fK ts (kH 0 0) 0 0 i with
  | error e=>
   rw[he]at h0;obtain⟨c,p⟩:=e;exact absurd h0 (pM _ _ _ _ he)
  | ok q=>
   obtain⟨x,j⟩:=q;exact⟨j,rfl,lD _ _ _ _ he,rT hE _ _ _ _ hi he⟩
 ·cases h0
theorem oM{s s':Sx}(h0:s.fc=0)(hi:s.i<ts.length)(hk:(tk ts s.i).k≠5)(h:On0 ts (dA s) s'):mu ts s'<mu ts s:=by
 have h1:=h.mu;have h2:=hE.next hi hk;have e1:mu ts s=ts.length-s.i:=by unfold mu;rw[if_pos h0]
 have e2:mu ts (dA s)=ts.length-(s.i+1):=by unfold mu dA;rw[if_pos h0]
 omega
set_option linter.unusedSectionVars false in
theorem we {s s':Sx} (h0:s.fc=0) (hi:s.i<ts.length) (h:s'.fc≠0):mu ts s'<mu ts s:=by
 unfold mu;rw[if_neg h,if_pos h0];omega
theorem JZ(s:Sx):On ts s (pN ts s).2:=by
 unfold pN;by_cases h0:s.fc≠0
 ·rw[if_pos h0];exact On.refl _ _
 ·rw[if_neg h0];by_cases h1:(dC ts s.i).2.2.1≠0
  ·rw[if_pos h1];exact⟨⟨id,fun h=>absurd h h1⟩,rfl⟩
  ·rw[if_neg h1];obtain⟨j,e,l1,l2⟩:=Ms hE (i:=s.i) (by simpa using h1);dsimp only;rw[e,aX];exact⟨⟨fun _=>l2,fun h=>⟨h,Nat.le_of_lt l1⟩⟩,rfl⟩
omit hE in
theorem Dk (s:Sx):On ts s (ue ts s):=by
 unfold ue;split
 ·have h:=oK (ts:=ts) (s:=s) 2;exact⟨⟨h.lt,h.le⟩,h.d⟩
 ·exact⟨⟨id,fun h=>⟨h,aY _⟩⟩,rfl⟩
omit hE in
theorem Dl (s:Sx):On ts s (rR ts s):=by
 unfold rR;split
 ·have h:=oK (ts:=ts) (s:=s) 2;exact⟨⟨h.lt,h.le⟩,h.d⟩
 ·exact⟨⟨id,fun h=>⟨h,aY _⟩⟩,rfl⟩
omit hE in
theorem Dm (s:Sx):On ts s (FH ts s):=by
 unfold FH;split
 ·have h:=oK (ts:=ts) (s:=s) 2;exact⟨⟨h.lt,h.le⟩,h.d⟩
 ·exact⟨⟨id,fun h=>⟨h,aY _⟩⟩,rfl⟩
omit hE in
theorem TJ (s:Sx):On ts s (FI ts s):=by
 unfold FI;split
 ·have h:=oK (ts:=ts) (s:=s) 2;exact⟨⟨h.lt,h.le⟩,h.d⟩
 ·exact⟨⟨id,fun h=>⟨h,aY _⟩⟩,rfl⟩
omit hE in
theorem Dp (s:Sx):(ue ts s).i=s.i:=by
 unfold ue;split
 ·exact Di 2
 ·rfl
omit hE in
theorem Dr (s:Sx):(rR ts s).i=s.i:=by
 unfold rR;split
 ·exact Di 2
 ·rfl
theorem J7(s:Sx)(k:Nat)(n:aJ)(a:Int):On ts s (Mq ts s k n a).2:=by
 unfold Mq;split
 ·exact ic hE _
 ·exact((ic hE _).trans (JZ hE _)).trans (ic hE _)
theorem Pw(s u:Sx)(hu:On ts s u)(hi:u.i=s.i)(h0:u.fc=0)(hk:(tk ts s.i).k≠5):On ts s (dA u):=hu.trans (kO hE h0 (by rw[hi];exact hk))
theorem X4(s:Sx):On ts s (ri ts s).2:=by
 unfold ri;split
 ·exact pR
 ·rename_i h;split
  ·exact Dk s
  ·rename_i h0;exact(Pw hE s _ (Dk s) (Dp s) (by simpa using h0) (dl h).2).trans ((oL hE).trans (J7 hE _ _ _ _))
theorem X5{s:Sx}(h0:s.fc=0)(hi:s.i<ts.length):mu ts (ri ts s).2<mu ts s:=by
 unfold ri;split
 ·exact we hE h0 hi pQ
 ·rename_i h;split
  ·rename_i h1;exact we hE h0 hi h1
  ·rename_i h1;have e:=Dp (ts:=ts) s;have hm:=(Dk (ts:=ts) s).mu;exact cx (oM hE (by simpa using h1) (by rw[e];exact hi) (by rw[e];exact(dl h).2) ((oL hE).trans (J7 hE _ _ _ _)).toOn0) hm
theorem J8:∀(f:Nat) (acc:List Ac) (s:Sx),On ts s (rS ts f acc s).2
 | 0,_,s=>On.refl _ _
 | f+1,acc,s=>by
  rw[rS];split
  ·exact On.refl _ _
  ·split
   ·rename_i h;exact kO hE (dl h).1 (dl h).2
   ·exact(X4 hE s).trans (J8 f _ _)
theorem rU(s:Sx):On ts s (je ts s).2:=(ic hE _).trans (J8 hE _ _ _)
theorem J9:∀(f:Nat) (x:aJ) (acc:List (aJ)) (s:Sx),On ts s (wZ ts f x acc s).2
 | 0,_,_,s=>On.refl _ _
 | f+1,x,acc,s=>by
  rw[wZ];split
  ·exact On.refl _ _
  ·rename_i h;exact((kO hE (dl h).1 (dl h).2).trans (oL hE)).trans (J9 f _ _ _)
theorem FN(m:Mv)(s:Sx):On ts s (FK ts m s).2:=(J9 hE _ _ _ _).trans (ic hE _)
theorem FO(m:Mv)(s:Sx):On ts s (BE ts m s).2:=by
 unfold BE;split
 ·exact FN hE _ _
 ·exact(rU hE _).trans (FN hE _ _)
theorem zA(m:Mv)(s:Sx):On ts s (pO ts m s).2:=by
 unfold pO;split
 ·exact FO hE _ _
 ·rename_i h;exact(((kO hE (dl h).1 (dl h).2).trans (JZ hE _)).trans (ic hE _)).trans (FO hE _ _)
theorem FP(k:Int)(s u:Sx)(m:Mv):On ts u (if k=1 then pO ts {m with ev:=(iK ts u).1} (iK ts u).2 else if k=3 then pO ts {m with wt:=(gK ts u 3).1.n} (gK ts u 3).2 else pO ts m u).2:=by
 split
 ·exact(oL hE).trans (zA hE _ _)
 ·split
  ·exact(u5 hE (by decide)).trans (zA hE _ _)
  ·exact zA hE _ _
theorem TK(k:Int)(s:Sx)(hk:(tk ts s.i).k≠5):On ts s (nR ts k s).2:=by
 unfold nR;split
 ·exact Dl s
 ·rename_i h1;exact(Pw hE s _ (Dl s) (Dr s) (by simpa using h1) hk).trans (FP hE k s _ _)
theorem TL(k:Int){s:Sx}(h0:s.fc=0)(hi:s.i<ts.length)(hk:(tk ts s.i).k≠5):mu ts (nR ts k s).2<mu ts s:=by
 unfold nR;split
 ·rename_i h1;exact we hE h0 hi h1
 ·rename_i h1;have e:=Dr (ts:=ts) s;have hm:=(Dl (ts:=ts) s).mu;exact cx (oM hE (by simpa using h1) (by rw[e];exact hi) (by rw[e];exact hk) (FP hE k s _ _).toOn0) hm
theorem BF(n:Nb)(h:Hj)(s:Sx):On ts s (eX ts n h s).2.2.2:=by
 unfold eX;split
 ·rename_i hw;exact TK hE _ s (dl hw).2
 ·split
  ·exact On.refl _ _
  ·rename_i hw;have hw:cT ts s [gr,jc,jd]≠0:=by rw[hw];decide
   split
   ·exact pR
   ·exact((kO hE (dl hw).1 (dl hw).2).trans (oL hE)).trans (ic hE _)
  ·rename_i hw;have hw:cT ts s [gr,jc,jd]≠0:=by rw[hw];decide
   split
   ·exact pR
   ·exact(kO hE (dl hw).1 (dl hw).2).trans (rU hE _)
  ·rename_i h0 h1 h2;have hw:cT ts s [gr,jc,jd]≠0:=h0;split
   ·exact pR
   ·exact(kO hE (dl hw).1 (dl hw).2).trans (rU hE _)
theorem Mu(n:Nb)(h:Hj){s:Sx}(h0:s.fc=0)(hi:s.i<ts.length)(ht:(eX ts n h s).1=true):mu ts (eX ts n h s).2.2.2<mu ts s:=by
 unfold eX at ht⊢;split
 ·rename_i hw;exact TL hE _ h0 hi (dl hw).2
 ·rename_i hw0;rw[if_neg hw0]at ht;split
  ·rename_i hw;rw[hw]at ht;cases ht
  ·rename_i hw;rw[hw]at ht;have hw:cT ts s [gr,jc,jd]≠0:=by rw[hw];decide
   split
   ·exact we hE h0 hi pQ
   ·exact oM hE h0 hi (dl hw).2 ((oL hE).trans (ic hE _)).toOn0
  ·rename_i hw;have hw:cT ts s [gr,jc,jd]≠0:=by rw[hw];decide
   split
   ·exact we hE h0 hi pQ
   ·exact oM hE h0 hi (dl hw).2 (rU hE _).toOn0
  ·rename_i h1 _ _;have hw:cT ts s [gr,jc,jd]≠0:=h1;split
   ·exact we hE h0 hi pQ
   ·exact oM hE h0 hi (dl hw).2 (rU hE _).toOn0
theorem ug:∀(f:Nat) (n:Nb) (h:Hj) (s:Sx),On ts s (jT ts f n h s).2
 | 0,_,_,s=>On.refl _ _
 | f+1,n,h,s=>by
  rw[jT];split
  ·exact On.refl _ _
  ·split
   ·exact(BF hE n h s).trans (ug f _ _ _)
   ·exact BF hE n h s
theorem Ka{N:Int->Sx->Nd×Sx}(d:Int)(hN:∀k s,s.d=d->s.fc=0->On ts s (N k s).2):∀(f:Nat) (acc:List Nd) (s:Sx),s.d=d->On ts s (u4 ts N f acc s).2
 | 0,_,s,_=>On.refl _ _
 | f+1,acc,s,hd=>by
  rw[u4];split
  ·exact On.refl _ _
  ·rename_i h;have h1:=(kO hE (dl h).1 (dl h).2).trans (hN (cT ts s qI:Nat) (dA s) hd (dl h).1);exact h1.trans (Ka d hN f _ _ (h1.d.trans hd))
theorem TM{N:Int->Sx->Nd×Sx}{n:Nb}{s:Sx}(hd:ry s.d)(hN:∀k u,u.d=xH s.d->u.fc=0->On ts u (N k u).2):On ts s (qW ts N n s).2:=by
 unfold qW;dsimp only;have h1:=ug hE (ts.length+1) n ⟨false,false,false⟩ {s with d:=xH s.d};have h2:=Ka hE (xH s.d) hN (ts.length+1) [] _ h1.d;have h3:=h1.trans h2;have h4:=ic hE [125] (s:={(u4 ts N (ts.length+1) [] (jT ts (ts.length+1) n ⟨false,false,false⟩ {s with d:=xH s.d}).2).2 with d:=inc (u4 ts N (ts.length+1) [] (jT ts (ts.length+1) n ⟨false,false,false⟩ {s with d:=xH s.d}).2).2.d});refine⟨⟨fun h=>h4.lt (h3.lt h),fun e=>?_⟩,h4.d.trans ?_⟩
 ·obtain⟨a,b⟩:=h4.le e;obtain⟨c,d⟩:=h3.le a;exact⟨c,bh d b⟩
 ·dsimp only;rw[h3.d];dsimp only;unfold inc xH;have:=hd.1;have:=hd.2;simp only[IntKind.wrap_i64];omega
omit hE in
theorem TN (s:Sx):On ts s (qX ts s):=by
 unfold qX;split
 ·split
  ·exact(Dm s).trans (oK _)
  ·exact Dm s
 ·exact On.refl _ _
theorem zC(k:Int)(s:Sx):On ts s (eY ts k s).2:=(TN s).trans (u5 hE (by decide))
omit hE in
theorem TP {k:Int} {s:Sx} (h:(eY ts k s).2.fc=0):s.d≠0:=fun e=>by
 revert h;unfold eY gK;dsimp only;by_cases h1:(tk ts s.i).k=1
 ·have hf:(qX ts s).fc≠0:=by
   unfold qX;rw[if_pos h1,if_pos ((Dm s).d.trans e)];exact JY (by decide)
  rw[if_pos (.inl hf)];exact pQ
 ·have e2:qX ts s=s:=by unfold qX;rw[if_neg h1]
  rw[e2,if_pos (.inr h1)];exact pQ
theorem Kb:∀(f:Nat) (k:Int) (s:Sx),ry s.d->On ts s (kM ts f k s).2
 | 0,_,s,_=>On.refl _ _
 | f+1,k,s,hd=>by
  rw[kM];have h1:=zC hE k s;split
  ·exact((h1.trans (ic hE _)).trans (oL hE)).trans (ic hE _)
  ·have h2:=h1.trans (ic hE [123]);refine h2.trans (TM hE (by rw[h2.d];exact hd) fun k u hu _=>Kb f k u ?_);rw[hu];exact Ob _
theorem Px(s:Sx):On ts s (uf ts s).2:=by
 unfold uf;dsimp only;have h1:On ts s (if(tk ts s.i).k=1 then FI ts s else s):=by
  split
  ·exact TJ s
  ·exact On.refl _ _
 have h2:∀u:Sx,On ts u (if cT ts u [[45]]=0 then u else dA u):=fun u=>by
  split
  ·exact On.refl _ _
  ·rename_i h;exact kO hE (dl h).1 (dl h).2
 exact((((h1.trans (u5 hE (by decide))).trans (ic hE _)).trans (h2 _)).trans (u5 hE (by decide))).trans (ic hE _)
end
def Mk(w:ay)(F:aL)(e:TypeId)(size:Nat)(s:Sl):Prop:=s.n=0∨∃g cs,s.a=some ⟨g,0,none⟩/\F g/\aH w g e cs/\s.n*size<=cs.length
def jE{α:Type}(t:Bool)(r:Rp α)(size:Nat)(e:TypeId)(w:ay)(F:aL)(s:Sl)(xs:List α):Prop:=aD r size w F s xs/\(t=true->Mk w F e size s)
section
variable {α:Type} {t:Bool} {r q:Rp α} {size:Nat} {e:TypeId} {w w':ay} {F G:aL} {s:Sl} {xs:List α} {B:Nat}
theorem Mk.keep(h:Mk w F e size s)(hk:∀k,F k->k<w.heap.size->w'.heap[k]? =w.heap[k]?):Mk w' F e size s:=by
 rcases h with h | ⟨g,cs,h1,h2,h3,h4⟩
 ·exact .inl h
 ·exact .inr ⟨g,cs,h1,h2,(hk g h2 h3.lt).trans h3,h4⟩
theorem Mk.mono(h:Mk w F e size s)(hk:∀k,F k->k<w.heap.size->G k):Mk w G e size s:=by
 rcases h with h | ⟨g,cs,h1,h2,h3,h4⟩
 ·exact .inl h
 ·exact .inr ⟨g,cs,h1,hk g h2 h3.lt,h3,h4⟩
theorem jE.keep(hr:r.Ok)(h:jE t r size e w F s xs)(hs:0<size)(hk:∀k,F k->k<w.heap.size->w'.heap[k]? =w.heap[k]?):jE t r size e w' F s xs:=⟨h.1.keep hr hs hk,fun x=>(h.2 x).keep hk⟩
theorem jE.inHeap(hr:r.Ok)(h:jE t r size e w F s xs)(hs:0<size):jE t r size e w (fun k=>F k/\k<w.heap.size) s xs:=⟨h.1.inHeap hr hs,fun x=>(h.2 x).mono fun k a b=>⟨a,b⟩⟩
theorem jE.mono(hr:r.Ok)(h:jE t r size e w F s xs)(hk:∀k,F k->G k):jE t r size e w G s xs:=⟨h.1.mono hr hk,fun x=>(h.2 x).mono fun k a _=>hk k a⟩
theorem jE.nil(t:Bool)(r:Rp α)(size:Nat)(e:TypeId)(w:ay)(F:aL):jE t r size e w F Sl.nil []:=⟨SliceF.nil _ _ _ _,fun _=>.inl rfl⟩
theorem jE.imp(h:jE t r size e w F s xs)(hi:∀x cs,x∈xs->r w F x cs->q w F x cs):jE t q size e w F s xs:=⟨JQ h.1 hi,h.2⟩
theorem jE.off(h:jE t r size e w F s xs)(hi:∀x cs,x∈xs->r w F x cs->q w F x cs):jE false q size e w F s xs:=⟨JQ h.1 hi,fun h=>(by cases h)⟩
theorem _root_.Go.Kt.Own.sl(hr:r.Ok)(h:Own r size e B w F s xs)(hF:∀k,B<=k->F k):jE true r size e w F s xs:=by
 refine⟨(h.slice hr).mono hr fun k hk=>hk.elim id fun x=>hF k x.1,fun _=>?_⟩;rcases h with⟨rfl,rfl⟩ | ⟨g,css,tail,h1,h2,h4,h5,h6,h7,h9,h8⟩
 ·exact .inl rfl
 ·exact .inr ⟨g,_,h1,hF g h2,h4,by rw[aU,lm.Iw h8,<-h6];omega⟩
end
def Ke(t:Bool):Nat->Rp Ex
 | 0=>fun _ _ _ _=>False
 | d+1=>fun w F x cs=>∃sl:Sl,cs=qU x.k x.n x.s x.op sl x.a/\jE t (Ke t d) 6 64 w F sl x.fW
theorem kl(t:Bool):∀d,(Ke t d).Ok
 | 0=>⟨fun h _=>h.elim,fun h=>h.elim,fun h _=>h.elim,fun h=>h.elim⟩
 | d+1=>⟨fun⟨sl,h1,h2⟩ hk=>⟨sl,h1,jE.keep (kl t d) h2 (by decide) hk⟩,fun⟨sl,h1,h2⟩=>⟨sl,h1,jE.inHeap (kl t d) h2 (by decide)⟩,fun⟨sl,h1,h2⟩ hk=>⟨sl,h1,jE.mono (kl t d) h2 hk⟩,fun⟨sl,h1,h2⟩=>by
  subst h1;intro v hv;simp only[aR,bf,bU]at hv;rcases hv with rfl | rfl | rfl | rfl | rfl | rfl<;>rfl⟩
theorem Py{t:Bool}{w:ay}{F:aL}:∀{d:Nat} {x:Ex} {cs:aK},Ke t d w F x cs->Ke t (d+1) w F x cs
 | 0,_,_,h=>h.elim
 | d+1,x,cs,⟨sl,h1,h2⟩=>⟨sl,h1,h2.imp fun x cs _ h=>Py h⟩
theorem HV{t:Bool}{w:ay}{F:aL}{d e:Nat}{x:Ex}{cs:aK}(h:d<=e)(hx:Ke t d w F x cs):Ke t e w F x cs:=by
 induction e with
 | zero=>have:d=0:=(by omega);subst this;exact hx
 | succ e ih=>
  by_cases he:d=e+1
  ·subst he;exact hx
  ·exact Py (ih (by omega))
theorem HW{t:Bool}{w:ay}{F:aL}:∀{d:Nat} {x:Ex} {cs:aK},Ke t d w F x cs->BB d w F x cs
 | 0,_,_,h=>h.elim
 | d+1,x,cs,⟨sl,h1,h2⟩=>⟨sl,h1,JQ h2.1 fun x cs _ h=>HW h⟩
theorem PA{w:ay}{F:aL}:∀{d:Nat} {x:Ex} {cs:aK},BB d w F x cs->Ke false d w F x cs
 | 0,_,_,h=>h.elim
 | d+1,x,cs,⟨sl,h1,h2⟩=>⟨sl,h1,JQ h2 fun x cs _ h=>PA h,fun h=>(by cases h)⟩
theorem RXN.xg{w:ay}{x:Ex}{cs:aK}{N:aL}{lo hi:Nat}(h:RXN w N lo hi x cs):∃d,Ke true d w (fun k=>lo<=k/\k<hi) x cs:=by
 induction h with
 | leaf lo hi k n s op a=>exact⟨1,Sl.nil,rfl,jE.nil _ _ _ _ _ _⟩
 | one lo m g hi k n s op a x cs h1 h2 h3 h4 hn h5 ih=>
  obtain⟨d,ih⟩:=ih;obtain⟨sl,pe,_⟩:=h1.cells;refine⟨d+1,_,rfl,⟨rfl,aY _,fun h=>(by cases h),(by decide:(1:Nat)<=9223372036854775807),fun j y hj=>?_⟩,fun _=>.inr ⟨g,cs,rfl,⟨h2,h4⟩,h5,by rw[pe];exact aY _⟩⟩;have hj0:j=0:=by
   have:=(aZ.1 hj).1;simp only[Ex.fW,bP]at this;omega
  subst hj0;simp only[Ex.fW,cE,ba]at hj;subst hj;exact⟨⟨g,0,none⟩,cs,rfl,⟨h2,h4⟩,by rw[pe];rfl,by rw[xX];exact h5.cells 0 cs fun j v hv=>by rw[bM];exact hv,(kl true d).mono ih fun k hk=>⟨hk.1,by omega⟩⟩
 | two lo m m' m2 g hi k n s op a x y cs ds h1 h2 h3 h4 h5 h6 h7 h8 hn h9 NR SD=>
  obtain⟨d1,NR⟩:=NR;obtain⟨d2,SD⟩:=SD;obtain⟨sl,pe,_⟩:=h1.cells;obtain⟨sl2,hds,_⟩:=h3.cells;have e1:cs.length=6:=by rw[pe];rfl
  have e2:ds.length=6:=by rw[hds];rfl
  refine⟨max d1 d2+1,_,rfl,⟨rfl,aY _,fun h=>(by cases h),(by decide:(2:Nat)<=9223372036854775807),fun j y hj=>?_⟩,fun _=>.inr ⟨g,cs++ds,rfl,⟨by omega,h8⟩,h9,by rw[aU,e1,e2];exact aY _⟩⟩;rcases j with _ | _ | j
  ·simp only[Ex.fW,cE,ba]at hj;subst hj;exact⟨⟨g,0,none⟩,cs,rfl,⟨by dsimp only;omega,h8⟩,e1,by rw[xX];exact h9.cells 0 cs fun j v hv=>by rw[bM,bJ (aZ.1 hv).1];exact hv,(kl true _).mono (HV (Sa _ _) NR) fun k hk=>⟨hk.1,by omega⟩⟩
  ·simp only[Ex.fW,de,cE,ba]at hj;subst hj;exact⟨⟨g,0,none⟩,ds,rfl,⟨by dsimp only;omega,h8⟩,e2,by
    rw[fV];exact h9.cells 6 ds fun j v hv=>by rw[cd (by omega),e1,dY];exact hv,(kl true _).mono (HV (Nn _ _) SD) fun k hk=>⟨by omega,by omega⟩⟩
  ·simp[Ex.fW]at hj
def rE(t:Bool):Rp Ex:=fun w F x cs=>∃d,Ke t d w F x cs
theorem iV(t:Bool):(rE t).Ok:=⟨fun⟨d,h⟩ hk=>⟨d,(kl t d).keep h hk⟩,fun⟨d,h⟩=>⟨d,(kl t d).inHeap h⟩,fun⟨d,h⟩ hk=>⟨d,(kl t d).mono h hk⟩,fun⟨d,h⟩=>(kl t d).one h⟩
theorem iW{t:Bool}{w:ay}{F:aL}{x:Ex}{cs:aK}(h:rE t w F x cs):∃sl,cs=qU x.k x.n x.s x.op sl x.a:=by
 obtain⟨d,h⟩:=h;cases d with
 | zero=>exact h.elim
 | succ d=>obtain⟨sl,h,_⟩:=h;exact⟨sl,h⟩
theorem PB{t:Bool}{w:ay}{F:aL}{x:Ex}{cs:aK}(h:rE t w F x cs):rE false w F x cs:=by
 obtain⟨d,h⟩:=h;exact⟨d,PA (HW h)⟩
theorem rE0(t:Bool)(w:ay)(F:aL):rE t w F FC (qU 0 0 [] 0 Sl.nil 0):=⟨1,Sl.nil,rfl,jE.nil _ _ _ _ _ _⟩
def acv(k:Int)(n:aJ)(xc:aK)(a:Int):aK:=O ae k::ah (T n)::(xc++[O ae a])
def tN(t:Bool):Rp Ac:=fun w F x cs=>∃xc,cs=acv x.k x.n xc x.a/\rE t w F x.x xc
theorem dN(t:Bool):(tN t).Ok:=⟨fun⟨c,h1,h2⟩ hk=>⟨c,h1,(iV t).keep h2 hk⟩,fun⟨c,h1,h2⟩=>⟨c,h1,(iV t).inHeap h2⟩,fun⟨c,h1,h2⟩ hk=>⟨c,h1,(iV t).mono h2 hk⟩,fun⟨c,h1,h2⟩=>by
 subst h1;intro v hv;simp only[acv,aR,ch,bf,bU]at hv;rcases hv with rfl | rfl | h | rfl
 ·rfl
 ·rfl
 ·exact(iV t).one h2 v h
 ·rfl⟩
def mvv(k:Int)(ev:aJ)(wt:Int)(gd:Bool)(gc:aK)(tG tg:Sl)(a:Int):aK:=O ae k::ah (T ev)::O ae wt::ao gd::(gc++[tG.v,tg.v,O ae a])
def Kf(t:Bool):Rp Mv:=fun w F x cs=>∃gc tG tg,cs=mvv x.k x.ev x.wt x.gd gc tG tg x.a/\rE t w F x.g gc/\jE t (tN t) 9 196 w F tG x.acts/\jE t kz 1 9 w F tg x.tg
theorem mE(t:Bool):(Kf t).Ok:=⟨fun⟨c,tG,tg,h1,h2,h3,h4⟩ hk=>⟨c,tG,tg,h1,(iV t).keep h2 hk,h3.keep (dN t) (by decide) hk,h4.keep dD (by decide) hk⟩,
 fun⟨c,tG,tg,h1,h2,h3,h4⟩=>⟨c,tG,tg,h1,(iV t).inHeap h2,h3.inHeap (dN t) (by decide),h4.inHeap dD (by decide)⟩,
 fun⟨c,tG,tg,h1,h2,h3,h4⟩ hk=>⟨c,tG,tg,h1,(iV t).mono h2 hk,h3.mono (dN t) hk,h4.mono dD hk⟩,
 fun⟨c,tG,tg,h1,h2,h3,h4⟩=>by
  subst h1;intro v hv;simp only[mvv,aR,ch,bf,bU]at hv;rcases hv with rfl | rfl | rfl | rfl | h | rfl | rfl | rfl
  ·rfl
  ·rfl
  ·rfl
  ·rfl
  ·exact(iV t).one h2 v h
  ·rfl
  ·rfl
  ·rfl⟩
def Sg:Rp Vr:=fun _ _ x cs=>cs=[ah (T x.n),O ae x.v,O ae x.a]
theorem gq:Sg.Ok:=⟨fun h _=>h,fun h=>h,fun h _=>h,fun h=>by
 unfold Sg at h;subst h;intro v hv;simp only[aR,bf,bU]at hv;rcases hv with rfl | rfl | rfl<;>rfl⟩
abbrev om(k:Int)(nm ini dft:aJ)(en lv mv kids:Sl)(a:Int):aK:=[O ae k,ah (T nm),ah (T ini),ah (T dft),en.v,lv.v,mv.v,kids.v,O ae a]
def Ds(t:Bool)(w:ay)(F:aL)(x:Nb)(en lv mv:Sl):Prop:=jE t (tN t) 9 196 w F en x.en/\jE t (tN t) 9 196 w F lv x.lv/\jE t (Kf t) 13 147 w F mv x.mv
def oY(t:Bool):Nat->Rp Nd
 | 0=>fun _ _ _ _=>False
 | d+1=>fun w F x cs=>∃en lv mv kids:Sl,cs=om x.b.k x.b.nm x.b.ini x.b.dft en lv mv kids x.b.a/\Ds t w F x.b en lv mv/\jE t (oY t d) 9 27 w F kids x.kids
section
variable {t:Bool} {w w':ay} {F G:aL} {x:Nb} {en lv mv:Sl}
theorem Ds.keep(h:Ds t w F x en lv mv)(hk:∀k,F k->k<w.heap.size->w'.heap[k]? =w.heap[k]?):Ds t w' F x en lv mv:=⟨h.1.keep (dN t) (by decide) hk,h.2.1.keep (dN t) (by decide) hk,h.2.2.keep (mE t) (by decide) hk⟩
theorem Ds.inHeap(h:Ds t w F x en lv mv):Ds t w (fun k=>F k/\k<w.heap.size) x en lv mv:=⟨h.1.inHeap (dN t) (by decide),h.2.1.inHeap (dN t) (by decide),h.2.2.inHeap (mE t) (by decide)⟩
theorem Ds.mono(h:Ds t w F x en lv mv)(hk:∀k,F k->G k):Ds t w G x en lv mv:=⟨h.1.mono (dN t) hk,h.2.1.mono (dN t) hk,h.2.2.mono (mE t) hk⟩
end
theorem cN(t:Bool):∀d,(oY t d).Ok
 | 0=>⟨fun h _=>h.elim,fun h=>h.elim,fun h _=>h.elim,fun h=>h.elim⟩
 | d+1=>⟨fun⟨en,lv,mv,kids,h1,h2,h3⟩ hk=>⟨en,lv,mv,kids,h1,h2.keep hk,jE.keep (cN t d) h3 (by decide) hk⟩,
  fun⟨en,lv,mv,kids,h1,h2,h3⟩=>⟨en,lv,mv,kids,h1,h2.inHeap,jE.inHeap (cN t d) h3 (by decide)⟩,
  fun⟨en,lv,mv,kids,h1,h2,h3⟩ hk=>⟨en,lv,mv,kids,h1,h2.mono hk,jE.mono (cN t d) h3 hk⟩,fun⟨en,lv,mv,kids,h1,h2,h3⟩=>by
  subst h1;intro v hv;simp only[aR,bf,bU]at hv;rcases hv with rfl | rfl | rfl | rfl | rfl | rfl | rfl | rfl | rfl<;>rfl⟩
theorem PC{t:Bool}{w:ay}{F:aL}:∀{d:Nat} {x:Nd} {cs:aK},oY t d w F x cs->oY t (d+1) w F x cs
 | 0,_,_,h=>h.elim
 | d+1,x,cs,⟨en,lv,mv,kids,h1,h2,h3⟩=>⟨en,lv,mv,kids,h1,h2,h3.imp fun x cs _ h=>PC h⟩
theorem X6{t:Bool}{w:ay}{F:aL}{d e:Nat}{x:Nd}{cs:aK}(h:d<=e)(hx:oY t d w F x cs):oY t e w F x cs:=by
 induction e with
 | zero=>have:d=0:=(by omega);subst this;exact hx
 | succ e ih=>
  by_cases he:d=e+1
  ·subst he;exact hx
  ·exact PC (ih (by omega))
theorem Dt{t:Bool}{w:ay}{F:aL}{x:Ac}{cs:aK}(h:tN t w F x cs):tN false w F x cs:=by
 obtain⟨c,h1,h2⟩:=h;exact⟨c,h1,PB h2⟩
theorem TQ{t:Bool}{w:ay}{F:aL}{x:Mv}{cs:aK}(h:Kf t w F x cs):Kf false w F x cs:=by
 obtain⟨c,tG,tg,h1,h2,h3,h4⟩:=h;exact⟨c,tG,tg,h1,PB h2,h3.off fun _ _ _ h=>Dt h,h4.off fun _ _ _ h=>h⟩
theorem Ds.off{t:Bool}{w:ay}{F:aL}{x:Nb}{en lv mv:Sl}(h:Ds t w F x en lv mv):Ds false w F x en lv mv:=⟨h.1.off fun _ _ _ h=>Dt h,h.2.1.off fun _ _ _ h=>Dt h,h.2.2.off fun _ _ _ h=>TQ h⟩
theorem Kg{t:Bool}{w:ay}{F:aL}:∀{d:Nat} {x:Nd} {cs:aK},oY t d w F x cs->oY false d w F x cs
 | 0,_,_,h=>h.elim
 | d+1,x,cs,⟨en,lv,mv,kids,h1,h2,h3⟩=>⟨en,lv,mv,kids,h1,h2.off,h3.off fun x cs _ h=>Kg h⟩
structure ChR (t:Bool) (d:Nat) (w:ay) (F:aL) (c:Ch) (vs:Sl) (cs:aK):Prop where
 vars:jE t Sg 3 95 w F vs c.vars
 root:oY t d w F c.root cs
abbrev Fr(B:Nat):aL:=fun k=>B<=k
section
variable {α:Type} {r:Rp α} {size:Nat} {e:TypeId} {w w':ay} {s:Sl} {xs:List α} {B:Nat}
theorem _root_.Go.Kt.Own.stay(hr:r.Ok)(h:Own r size e B w (Fr B) s xs){bs:List Nat}(hO:aA bs w w')(hb:∀x,x∈bs->x<B∨w.heap.size<=x):Own r size e B w' (Fr B) s xs:=by
 refine((h.inHeap hr).keep hr fun k hk bX=>hO.block k bX fun hm=>?_).mono hr fun k hk=>hk.1;have iv:B<=k/\k<w.heap.size:=by
  rcases hk with hk | hk
  ·exact hk
  ·exact⟨hk.1,bX⟩
 rcases hb k hm with h | h<;>omega
theorem _root_.Go.Kt.Own.new(h:Own r size e B w (Fr B) s xs){k:Nat}(hk:w.heap.size<=k):s.a≠some ⟨k,0,none⟩:=fun e=>by
 have:=(h.blk e).2;dsimp only at this;omega
end
mutual
def Eu:Ex->Nat
 | .mk _ _ _ _ l _=>V1 l+1
def V1:List Ex->Nat
 | []=>0
 | x::l=>max (Eu x) (V1 l)
end
mutual
def Du:Ex->Nat
 | .mk _ _ s _ l _=>Sh l+(s.length+1)
def Sh:List Ex->Nat
 | []=>0
 | x::l=>Du x+Sh l
end
theorem Dv(x:Ex):Eu x=V1 x.fW+1:=by cases x;rw[Eu];rfl
theorem HX(x:Ex):Du x=Sh x.fW+(x.s.length+1):=by cases x;rw[Du];rfl
theorem yj{y:Ex}:∀{l:List Ex},y∈l->Eu y<=V1 l
 | [],h=>by simp at h
 | x::l,h=>by
  rw[V1];rcases aR.1 h with rfl | h
  ·exact Sa _ _
  ·exact bh (yj h) (Nn _ _)
theorem Kh{y:Ex}:∀{l:List Ex},y∈l->Du y<=Sh l
 | [],h=>by simp at h
 | x::l,h=>by
  rw[Sh];rcases aR.1 h with rfl | h
  ·omega
  ·have:=Kh h;omega
theorem PD{d:Nat}:∀{l:List Ex},(∀y,y∈l->Eu y<=d)->V1 l<=d
 | [],_=>by rw[V1];omega
 | x::l,h=>by
  rw[V1];exact Nat.max_le.2 ⟨h x (by simp),PD fun y hy=>h y (by simp[hy])⟩
theorem Dw(x:Ex):1<=Eu x:=by rw[Dv];omega
theorem PE{w:ay}{F:aL}:∀{d:Nat} {x:Ex} {cs:aK},BB d w F x cs->Eu x<=d
 | 0,_,_,h=>h.elim
 | d+1,x,cs,⟨sl,h1,h2⟩=>by
  rw[Dv];refine Np (PD fun y hy=>?_);obtain⟨j,hj⟩:=eT hy;obtain⟨_,cs,_,_,_,_,h⟩:=h2.at_ j y hj;exact PE h
theorem zD{f g:Ex->Bool}:∀{l:List Ex},(∀y,y∈l->f y=g y)->ol f l=ol g l
 | [],_=>rfl
 | x::l,h=>by rw[ol,ol,h x (by simp),zD fun y hy=>h y (by simp[hy])]
theorem FQ:∀(d e:Nat) (x:Ex),Eu x<=d->Eu x<=e->eL d x=eL e x
 | 0,_,x,h,_=>by have:=Dw x;omega
 | _,0,x,_,h=>by have:=Dw x;omega
 | d+1,e+1,x,h,k=>by
  rw[Dv]at h k;rw[eL,eL,zD fun y hy=>FQ d e y (by have:=yj hy;omega) (by have:=yj hy;omega)]
theorem Ki:∀(d e:Nat) (x:Ex) (wr:Bool) (l:aJ),Eu x<=d->Eu x<=e->uw d x wr l=uw e x wr l
 | 0,_,x,_,_,h,_=>by have:=Dw x;omega
 | _,0,x,_,_,_,h=>by have:=Dw x;omega
 | d+1,e+1,x,wr,l,h,k=>by
  rw[Dv]at h k;have hm:∀y,y∈x.fW->Eu y<=d/\Eu y<=e:=fun y hy=>by have:=yj hy;omega
  rw[uw,uw];cases hx:x.fW with
  | nil=>rfl
  | cons y m=>
   cases m with
   | nil=>
    have hy:=hm y (by rw[hx];simp);dsimp only;rw[Ki d e y _ _ hy.1 hy.2]
   | cons z m=>
    cases m with
    | nil=>
     have hy:=hm y (by rw[hx];simp);have hz:=hm z (by rw[hx];simp);dsimp only;rw[Ki d e y _ _ hy.1 hy.2,Ki d e z _ _ hz.1 hz.2]
    | cons _ _=>rfl
theorem PF:∀(d:Nat) (x:Ex),oV d x<=Du x
 | 0,x=>bA _
 | d+1,x=>by
  rw[oV,HX];have:∀l:List Ex,tu (oV d) l<=Sh l:=fun l=>by
   induction l with
   | nil=>exact bA _
   | cons y l ih=>rw[tu,Sh];exact kZ (PF d y) ih
  have:=this x.fW;omega
theorem PG:∀(d:Nat) (x:Ex),Du x<4611686018427387903->zx d x
 | 0,x,_=>trivial
 | d+1,x,h=>by
  rw[HX]at h;exact⟨by omega,fun y hy=>PG d y (by have:=Kh hy;omega)⟩
def X7(x:Ex):Prop:=∀d,qV d x
def BG(x:Ex):aJ:=tM (Eu x) x
theorem TR{d:Nat}{x:Ex}(h:Eu x<=d):tM d x=BG x:=by
 unfold BG tM;rw[FQ d (Eu x) x h (aY _),Ki d (Eu x) x false [] h (aY _)]
theorem PH{d:Nat}{x:Ex}(h:tM d x≠[]):eL d x=true/\tM d x=uw d x false []/\(oI (uw d x false [])).2.1=0:=by
 unfold tM at h⊢;by_cases hs:eL d x=true
 ·rw[if_pos hs]at h⊢;by_cases hr:(oI (uw d x false [])).2.1≠0
  ·rw[if_pos hr]at h;exact absurd rfl h
  ·rw[if_neg hr];exact⟨hs,rfl,by simpa using hr⟩
 ·rw[if_neg hs]at h;exact absurd rfl h
theorem TS{w:ay}{F:aL}{x:Ex}{cs:aK}(hx:rE false w F x cs)(hn:X7 x)(hs:Du x<=1759218604441)(hE:Er w)(hT:Tb w):
  aB au 247 #[aj cs.toArray] w fun e w'=>e=aq (ah (T (BG x)))/\aA [] w w':=by
 obtain⟨d,h⟩:=hx;have h:=HW h;rw[<-TR (PE h)];exact X2 h (PG d x (by omega)) (hn d) hE hT (by have:=PF d x;omega)
def xb(x:Ex):Bool:=(((x.k==0&&x.n==0)&&decide (x.s=[]))&&x.op==0)&&((x.fW.length:Int)==0)
def zE(x:Ex):Bool:=decide (BG x≠[])
def mF(a:Ac):Bool:=decide (1<=a.k/\a.k<=3)&&eK a.n&&(if a.k=2 then xb a.x else zE a.x)
def zF(m:Mv):Bool:=
 decide (1<=m.k/\m.k<=3)&&(if m.k=1 then eK m.ev else decide (m.ev=[]))&&(if m.gd then zE m.g else xb m.g)&&m.acts.all mF&&m.tg.all eK&&decide (m.wt=0∨m.k=3/\0<m.wt)
def fL(k:Int):Bool:=decide (k=3∨k=4)
def zG(b:Nb)(kids:Nat):Bool:=
 eK b.nm&&(if fL b.k then eK b.dft&&decide (b.ini=[]/\b.en=[]/\b.lv=[]/\b.mv.length=0/\kids=0)
  else decide ((b.k=1∨b.k=2)/\b.dft=[])&&(decide (b.ini=[])||eK b.ini)&&b.en.all mF&&b.lv.all mF&&b.mv.all zF)
mutual
def pS:Nat->Nd->Bool
 | d,.mk b l=>decide (d<12)&&zG b l.length&&mW (d+1) l
def mW:Nat->List Nd->Bool
 | _,[]=>true
 | d,x::l=>pS d x&&mW d l
end
def V2(b:Nb):Nat:=b.en.length+b.lv.length+(b.mv.map fun m=>m.acts.length).sum
mutual
def iO:Nd->Nat
 | .mk _ l=>eV l+1
def eV:List Nd->Nat
 | []=>0
 | x::l=>iO x+eV l
end
mutual
def AH:Nd->Nat
 | .mk b l=>b.mv.length+wg l
def wg:List Nd->Nat
 | []=>0
 | x::l=>AH x+wg l
end
mutual
def BH:Nd->Nat
 | .mk b l=>V2 b+uh l
def uh:List Nd->Nat
 | []=>0
 | x::l=>BH x+uh l
end
def FR(c:Ch):Bool:=
 (c.vars.all fun v=>eK v.n&&decide (v.v≠ -9223372036854775808))&&pS 0 c.root&&decide (c.root.b.k=1/\c.vars.length<=16/\iO c.root<=64/\AH c.root<=200/\BH c.root<=400)
def Nv(a:Ac):aJ:=
 if a.k=2 then kK++32::(a.n++[59])else(if a.k=1 then tw else mV)++32::(a.n++32::61::32::(BG a.x++[59]))
def TT:List Ac->aJ
 | []=>[]
 | a::l=>32::(Nv a++TT l)
def E2(l:List Ac):aJ:=123::(TT l++[32,125])
def X8:List (aJ)->aJ
 | []=>[]
 | s::l=>44::32::(s++X8 l)
def hdT(m:Mv):aJ:=if m.k=1 then HU++32::m.ev else if m.k=3 then kj++32::Lib.itoa m.wt else kb
def gdT(m:Mv):aJ:=if m.gd then 32::91::(BG m.g++[93])else[]
def Si(m:Mv):aJ:=
 hdT m++(gdT m++((if m.acts=[]then[]else 32::E2 m.acts)++((match m.tg with
  | []=>[]
  | s::l=>32::45::62::32::(s++X8 l))++[59])))
def kW(k:Int):aJ:=if k=1 then Dh else if k=2 then sW else if k=3 then uZ else JX
abbrev Ln:=Nat×aJ
def TU(d:Nat)(b:Nb):List Ln:=if b.ini=[]then[]else[(d,gr++32::(b.ini++[59]))]
def enL(d:Nat)(b:Nb):List Ln:=if b.en=[]then[]else[(d,jc++32::E2 b.en)]
def lvL(d:Nat)(b:Nb):List Ln:=if b.lv=[]then[]else[(d,jd++32::E2 b.lv)]
def mvL(d:Nat)(b:Nb):List Ln:=b.mv.map fun m=>(d,Si m)
def nbL(d:Nat)(b:Nb):List Ln:=TU d b++(enL d b++(lvL d b++mvL d b))
mutual
def X9:Nat->Nd->List Ln
 | d,.mk b l=>
  if fL b.k then[(d,kW b.k++32::(b.nm++32::45::62::32::(b.dft++[59])))]
  else(d,kW b.k++32::(b.nm++[32,123]))::(nbL (d+1) b++(xI (d+1) l++[(d,[125])]))
def xI:Nat->List Nd->List Ln
 | _,[]=>[]
 | d,x::l=>X9 d x++xI d l
end
def vrT(v:Vr):aJ:=FJ++32::(v.n++32::61::32::(Lib.itoa v.v++[59]))
def V3(c:Ch):List Ln:=
 (0,gL++32::(c.root.b.nm++[32,123]))::((c.vars.map fun v=>(1,vrT v))++(nbL 1 c.root.b++(xI 1 c.root.kids++[(0,[125])])))
def Mx:Nat->aJ
 | 0=>[]
 | d+1=>32::32::Mx d
def lnT(p:Ln):aJ:=Mx p.1++(p.2++[10])
def pT(b:aJ)(p:Ln):aJ:=if 16384<b.length then b else b++lnT p
def iE(b:aJ)(L:List Ln):aJ:=L.foldl pT b
theorem jF(b:aJ)(L M:List Ln):iE b (L++M)=iE (iE b L) M:=oB
def V4(a:Ac):Prop:=X7 a.x
structure mvN (m:Mv):Prop where
 g:X7 m.g
 a:∀x,x∈m.acts->V4 x
 w:ry m.wt
structure nbN (b:Nb):Prop where
 en:∀a,a∈b.en->V4 a
 lv:∀a,a∈b.lv->V4 a
 mv:∀m,m∈b.mv->mvN m
mutual
def Kj:Nd->Prop
 | .mk b l=>nbN b/\zH l
def zH:List Nd->Prop
 | []=>True
 | x::l=>Kj x/\zH l
end
structure U8 (c:Ch):Prop where
 v:∀v,v∈c.vars->ry v.v
 r:Kj c.root
structure cM where
 k:Int
 nm:aJ
 pa:Int
 dp:Int
 en:Int
mutual
def AZ(a:Nat)(pa dp:Int):Nd->List cM
 | .mk b l=>⟨b.k,b.nm,pa,dp,((a+1+eV l:Nat):Int)⟩::pU (a+1) a (dp+1) l
def pU(a:Nat)(pa dp:Int):List Nd->List cM
 | []=>[]
 | x::l=>AZ a pa dp x++pU (a+iO x) pa dp l
end
mutual
theorem lX(a:Nat)(pa dp:Int):∀x,(AZ a pa dp x).length=iO x
 | .mk b l=>by rw[AZ,iO,bp,sX]
theorem sX(a:Nat)(pa dp:Int):∀l,(pU a pa dp l).length=eV l
 | []=>by rw[pU,eV];rfl
 | x::l=>by rw[pU,eV,aU,lX,sX]
end
theorem zI:∀l m:List Nd,eV (l++m)=eV l+eV m
 | [],m=>by rw[eV,cr,bM]
 | x::l,m=>by rw[ck,eV,eV,zI l m,eM]
theorem Kk(pa dp:Int):∀(l m:List Nd) (a:Nat),pU a pa dp (l++m)=pU a pa dp l++pU (a+eV l) pa dp m
 | [],m,a=>by rw[cr,pU,cr,eV,fx]
 | x::l,m,a=>by rw[ck,pU,pU,Kk pa dp l m,eV,bQ,eM]
theorem Kl:∀x,1<=iO x
 | .mk b l=>by rw[iO];omega
theorem pV{y:Nd}:∀{l:List Nd} {j:Nat},l[j]? =some y->eV (l.take j)+iO y<=eV l
 | [],_,h=>by simp at h
 | x::l,0,h=>by
  rw[cE,ba]at h;subst h;rw[dr,eV,eV];omega
 | x::l,j+1,h=>by
  have:=pV (l:=l) (j:=j) (by rwa[de]at h);rw[fD,eV,eV];omega
theorem rV:∀l:List Nd,l.length<=eV l
 | []=>bA _
 | a::l=>by
  have:=rV l;have:=Kl a;rw[eV,bp];omega
def zJ(L:List cM)(a i:Nat)(s:cM):Prop:=∃p t,p<i/\L[p]? =some t/\s.pa=((a+p:Nat):Int)/\s.dp=t.dp+1/\((a+i:Nat):Int)<t.en/\s.en<=t.en/\∀j u,p<j->j<i->L[j]? =some u->u.en<=((a+i:Nat):Int)
theorem zJ.yv{L M:List cM}{a i:Nat}{s:cM}(h:zJ L a i s)(hi:i<L.length):zJ (L++M) a i s:=by
 obtain⟨p,t,h1,h2,h3,h4,h5,h6,h7⟩:=h;refine⟨p,t,h1,?_,h3,h4,h5,h6,fun j u g1 g2 g3=>h7 j u g1 g2 ?_⟩
 ·rw[bJ (by omega)];exact h2
 ·rwa[bJ (by omega)]at g3
theorem zJ.shift{L M:List cM}{a i:Nat}{s:cM}(h:zJ M (a+L.length) i s):zJ (L++M) a (L.length+i) s:=by
 obtain⟨p,t,h1,h2,h3,h4,h5,h6,h7⟩:=h;refine⟨L.length+p,t,by omega,?_,by rw[h3];omega,h4,by omega,h6,fun j u g1 g2 g3=>?_⟩
 ·rw[cd (by omega),dY];exact h2
 ·rw[cd (by omega)]at g3;have:=h7 (j-L.length) u (by omega) (by omega) g3;omega
mutual
theorem Dx(a:Nat)(pa dp:Int):∀(x:Nd) (i:Nat) (s:cM),(AZ a pa dp x)[i]? =some s->((a+i:Nat):Int)<s.en/\s.en<=((a+iO x:Nat):Int)/\(i=0->s.pa=pa/\s.dp=dp/\s.en=((a+iO x:Nat):Int))/\(0<i->zJ (AZ a pa dp x) a i s)
 | .mk b l,i,s,h=>by
  rw[AZ]at h⊢;rw[iO];cases i with
  | zero=>
   rw[cE,ba]at h;subst h;dsimp only;exact⟨by omega,by omega,fun _=>⟨rfl,rfl,by omega⟩,fun h=>by omega⟩
  | succ i=>
   rw[de]at h;obtain⟨h1,h2,h3⟩:=PI (a+1) a (dp+1) l i s h;refine⟨by omega,by omega,fun h=>by omega,fun _=>?_⟩;rcases h3 with⟨g1,g2,g3⟩ | g
   ·refine⟨0,_,by omega,cE,by rw[g1,fx],g2,by dsimp only;omega,by dsimp only;omega,fun j u k1 k2 k3=>?_⟩;cases j with
    | zero=>omega
    | succ j=>
     rw[de]at k3;have:=g3 j u (by omega) k3;omega
   ·have:=zJ.shift (L:=[⟨b.k,b.nm,pa,dp,((a+1+eV l:Nat):Int)⟩]) (M:=pU (a+1) a (dp+1) l) (a:=a) (i:=i) (s:=s) g;rw[bP,j6 1 i]at this;exact this
theorem PI(a:Nat)(pa dp:Int):∀(l:List Nd) (i:Nat) (s:cM),(pU a pa dp l)[i]? =some s->((a+i:Nat):Int)<s.en/\s.en<=((a+eV l:Nat):Int)/\
  ((s.pa=pa/\s.dp=dp/\∀j u,j<i->(pU a pa dp l)[j]? =some u->u.en<=((a+i:Nat):Int))∨zJ (pU a pa dp l) a i s)
 | [],i,s,h=>by rw[pU]at h;simp at h
 | x::l,i,s,h=>by
  rw[pU]at h⊢;rw[eV];have hl:=lX a pa dp x;by_cases hi:i<iO x
  ·rw[bJ (by omega)]at h;obtain⟨h1,h2,h3,h4⟩:=Dx a pa dp x i s h;refine⟨h1,by omega,?_⟩;by_cases h0:i=0
   ·obtain⟨g1,g2,g3⟩:=h3 h0;exact .inl ⟨g1,g2,fun j u hj=>by omega⟩
   ·exact .inr ((h4 (by omega)).yv (by omega))
  ·rw[cd (by omega),hl]at h;obtain⟨h1,h2,h3⟩:=PI (a+iO x) pa dp l (i-iO x) s h;refine⟨by omega,by omega,?_⟩;rcases h3 with⟨g1,g2,g3⟩ | g
   ·refine .inl ⟨g1,g2,fun j u hj hu=>?_⟩;by_cases NE:j<iO x
    ·rw[bJ (by omega)]at hu;have:=(Dx a pa dp x j u hu).2.1;omega
    ·rw[cd (by omega),hl]at hu;have:=g3 (j-iO x) u (by omega) hu;omega
   ·refine .inr ?_;rw[<-hl]at g;have:=zJ.shift (L:=AZ a pa dp x) g;rw[hl]at this;rwa[show iO x+(i-iO x)=i by omega]at this
end
structure Fo (xs:List cM):Prop where
 ne:0<xs.length
 rt:∀s:cM,xs[0]? =some s->s.pa= -1/\s.dp=0/\s.en=(xs.length:Int)
 up:∀(i:Nat) (s:cM),xs[i]? =some s->(i:Int)<s.en/\s.en<=(xs.length:Int)
 pa:∀(i:Nat) (s:cM),0<i->xs[i]? =some s->zJ xs 0 i s
def cX(c:Ch):List cM:=AZ 0 (-1) 0 c.root
theorem Dy(c:Ch):Fo (cX c):=by
 unfold cX;have hl:=lX 0 (-1) 0 c.root;have h:=Dx 0 (-1) 0 c.root;refine⟨by have:=Kl c.root;omega,fun s hs=>?_,fun i s hs=>?_,fun i s hi hs=>(h i s hs).2.2.2 hi⟩
 ·obtain⟨h1,h2,h3⟩:=(h 0 s hs).2.2.1 rfl;exact⟨h1,h2,by rw[h3,hl];omega⟩
 ·obtain⟨h1,h2,_⟩:=h i s hs;exact⟨by omega,by omega⟩
section
variable {xs:List cM} (F:Fo xs) {i j k p:Nat} {s t u:cM}
include F
theorem Fo.Y8:∀(k:Nat) {i:Nat} {s t:cM},xs[i]? =some s->xs[k]? =some t->i<k->(k:Int)<s.en->t.en<=s.en
 | k,i,s,t,hi,hk,bX,hs=>by
  obtain⟨p,v,h1,h2,h3,h4,h5,h6,h7⟩:=F.pa k t (by omega) hk;by_cases hp:p<i
  ·have:=h7 i s hp bX hi;omega
  ·by_cases he:p=i
   ·subst he;rw[hi,ba]at h2;subst h2;exact h6
   ·have:=Fo.Y8 p hi h2 (by omega) (by omega);omega
theorem Fo.par(hk:xs[k]? =some t)(h0:0<k):∃(p:Nat) (s:cM),p<k/\t.pa=(p:Int)/\xs[p]? =some s/\t.dp=s.dp+1/\(k:Int)<s.en/\∀(i:Nat) (u:cM),xs[i]? =some u->i<k->(k:Int)<u.en->i<=p:=by
 obtain⟨p,v,h1,h2,h3,h4,h5,h6,h7⟩:=F.pa k t h0 hk;refine⟨p,v,h1,by rw[h3];omega,h2,h4,by omega,fun i u hu hi iv=>?_⟩;by_cases hp:p<i
 ·have:=h7 i u hp hi hu;omega
 ·omega
omit F in
theorem eZ {xs:List cM} {i:Nat} {s:cM} (h:xs[i]? =some s):i<xs.length:=(aZ.1 h).1
omit F in
theorem fO {xs:List cM} {i:Nat} (h:i<xs.length):∃s,xs[i]? =some s:=⟨_,aV h⟩
end
def jq(xs:List cM)(b a:Nat):Prop:=∃s,xs[b]? =some s/\b<=a/\(a:Int)<s.en
section
variable {xs:List cM} (F:Fo xs) {i j k p:Nat}
include F
theorem Fo.wF(h:jq xs i j):j<xs.length:=by
 obtain⟨s,h1,h2,h3⟩:=h;have:=(F.up i s h1).2;omega
theorem Fo.jW(h:i<xs.length):jq xs i i:=by
 obtain⟨s,hs⟩:=fO h;exact⟨s,hs,aY _,(F.up i s hs).1⟩
theorem Fo.sF(h:i<xs.length):jq xs 0 i:=by
 obtain⟨s,hs⟩:=fO F.ne;exact⟨s,hs,bA _,by rw[(F.rt s hs).2.2];omega⟩
theorem Fo.kq(h:jq xs i j)(g:jq xs j k):jq xs i k:=by
 obtain⟨s,h1,h2,h3⟩:=h;obtain⟨t,g1,g2,g3⟩:=g;refine⟨s,h1,by omega,?_⟩;by_cases he:i=j
 ·subst he;rw[h1,ba]at g1;subst g1;exact g3
 ·have:=F.Y8 j h1 g1 (by omega) h3;omega
theorem Fo.lN(h:jq xs i k)(g:jq xs j k)(rk:i<=j):jq xs i j:=by
 obtain⟨s,h1,h2,h3⟩:=h;obtain⟨t,g1,g2,g3⟩:=g;exact⟨s,h1,rk,by omega⟩
end
def Top(xs:List cM)(l:List Int)(r:Int):Prop:=∃m:Nat,r=m/\(∀n:Int,n∈l->∃k:Nat,n=k/\jq xs m k)/\∀j:Nat,(∀n:Int,n∈l->∃k:Nat,n=k/\jq xs j k)->j<=m
def pj(xs:List cM)(n:Int):Prop:=0<=n/\n<xs.length
def Mt(xs:List cM)(l:List Int)(r:Int):Prop:=((l=[]∨∃n,n∈l/\¬pj xs n)/\r= -1)∨((l≠[]/\∀n,n∈l->pj xs n)/\Top xs l r)
theorem Mt.aej{xs:List cM}{l:List Int}{r:Int}(h:Mt xs l r)(h1:l≠[])(h2:∀n,n∈l->pj xs n):Top xs l r:=by
 rcases h with⟨hb | ⟨n,hn,hh⟩,_⟩ | ⟨_,h⟩
 ·exact absurd hb h1
 ·exact absurd (h2 n hn) hh
 ·exact h
def eP(xs:List cM)(i n:Nat):List Int:=((List.range n).filter fun k=>decide ((xs[k]?).map (fun s:cM=>s.pa)=some (i:Int))).map fun k:Nat=>(k:Int)
theorem oO(xs:List cM)(i n:Nat):eP xs i (n+1)=eP xs i n++if(xs[n]?).map (fun s:cM=>s.pa)=some (i:Int)then[(n:Int)]else[]:=by
 unfold eP;rw[List.range_succ,fm,da];by_cases h:(xs[n]?).map (fun s:cM=>s.pa)=some (i:Int)
 ·rw[if_pos h,List.filter_cons_of_pos (by simpa using h)];rfl
 ·rw[if_neg h,List.filter_cons_of_neg (by simpa using h)];rfl
theorem rW{xs:List cM}{i:Nat}:∀(d n:Nat),(∀k,n<=k->k<n+d->(xs[k]?).map (fun s:cM=>s.pa)≠some (i:Int))->eP xs i (n+d)=eP xs i n
 | 0,n,_=>rfl
 | d+1,n,h=>by
  rw[<-eM,oO,if_neg (h (n+d) (by omega) (by omega)),bR,rW d n fun k h1 h2=>h k h1 (by omega)]
section
variable {xs:List cM} (F:Fo xs) {i k:Nat} {s t:cM}
include F
theorem Fo.Lu(hk:xs[k]? =some t):t.pa<k:=by
 by_cases h0:0<k
 ·obtain⟨p,s,h1,h2,_⟩:=F.par hk h0;omega
 ·have:k=0:=by omega
  subst this;rw[(F.rt t hk).1];omega
theorem Fo.akF(hi:xs[i]? =some s):eP xs i (i+1)=[]:=by
 have:∀n,n<=i+1->eP xs i n=[]:=by
  intro n
  induction n with
  | zero=>intro _;rfl
  | succ n ih=>
   intro h;rw[oO,ih (by omega),if_neg,bR];intro e;cases hx:xs[n]? with
   | none=>rw[hx]at e;cases e
   | some u=>
    rw[hx,dk,ba]at e;have:=F.Lu hx;omega
 exact this _ (aY _)
theorem Fo.Y9(hi:xs[i]? =some s)(hk:xs[k]? =some t)(hik:i<k)(hs:(k:Int)<s.en)(hb:∀(j:Nat) u,i<j->j<k->xs[j]? =some u->u.en<=(k:Int)):t.pa=(i:Int):=by
 obtain⟨p,v,h1,h2,h3,h4,h5,h6⟩:=F.par hk (by omega);have e1:=h6 i s hi hik hs;by_cases he:p=i
 ·rw[h2,he]
 ·have:=hb p v (by omega) h1 h3;omega
theorem Fo.Q7(hk:xs[k]? =some t){n:Nat}(hn:t.en=n)(hb:∀(j:Nat) u,i<j->j<k->xs[j]? =some u->u.en<=(k:Int)):∀(j:Nat) u,i<j->j<n->xs[j]? =some u->u.en<=(n:Int):=by
 intro j u h1 h2 h3;have hkn:=(F.up k t hk).1;by_cases e:j<k
 ·have:=hb j u h1 e h3;omega
 ·by_cases e':j=k
  ·subst e';rw[hk,ba]at h3;subst h3;omega
  ·have:=F.Y8 j hk h3 (by omega) (by omega);omega
theorem Fo.Q8(hi:xs[i]? =some s)(hk:xs[k]? =some t)(hik:i<k)(hs:(k:Int)<s.en){n:Nat}(hn:t.en=n)(hb:∀(j:Nat) u,i<j->j<k->xs[j]? =some u->u.en<=(k:Int)):eP xs i n=eP xs i k++[(k:Int)]:=by
 have hkn:=(F.up k t hk).1;have:=rW (xs:=xs) (i:=i) (n-(k+1)) (k+1) fun j h1 h2 e=>by
  cases hx:xs[j]? with
  | none=>rw[hx]at e;cases e
  | some u=>
   rw[hx,dk,ba]at e;obtain⟨p,v,g1,g2,g3,g4,g5,g6⟩:=F.par hx (by omega);have:=g6 k t hk (by omega) (by omega);omega
 rw[show k+1+(n-(k+1))=n by omega,oO,if_pos (by rw[hk,dk,F.Y9 hi hk hik hs hb])]at this;exact this
theorem Fo.UB(hi:xs[i]? =some s){n:Nat}(hn:s.en=n):eP xs i xs.length=eP xs i n:=by
 have hu:=F.up i s hi;have:=rW (xs:=xs) (i:=i) (xs.length-n) n fun j h1 h2 e=>by
  cases hx:xs[j]? with
  | none=>rw[hx]at e;cases e
  | some u=>
   rw[hx,dk,ba]at e;obtain⟨p,v,g1,g2,g3,g4,g5,g6⟩:=F.par hx (by omega);have:p=i:=by omega
   subst this;rw[hi,ba]at g3;subst g3;omega
 rw[show n+(xs.length-n)=xs.length by omega]at this;exact this
end
theorem xd(xs:List cM)(i:Nat):∀n,List.Pairwise (· <·) (eP xs i n)/\∀k,k∈eP xs i n->k<(n:Int)
 | 0=>⟨List.Pairwise.nil,fun k h=>by simp[eP]at h⟩
 | n+1=>by
  obtain⟨h1,h2⟩:=xd xs i n;rw[oO];split
  ·refine⟨Bb.2 ⟨h1,List.pairwise_singleton _ _,fun a ha b hb=>?_⟩,fun k hk=>?_⟩
   ·simp only[aO]at hb;subst hb;exact h2 a ha
   ·rcases ch.1 hk with hk | hk
    ·have:=h2 k hk;omega
    ·simp only[aO]at hk;subst hk;omega
  ·rw[bR];exact⟨h1,fun k hk=>by have:=h2 k hk;omega⟩
abbrev Ft:=Int×Int
def oZ(f:Ft)(L:List Ft):Ft:=L.foldl (fun f p=>if f.1=0 then p else f) f
def bad(ok:Bool)(e a:Int):List Ft:=if ok then[]else[(e,a)]
theorem jk(f:Ft)(L M:List Ft):oZ f (L++M)=oZ (oZ f L) M:=oB
theorem PJ{f:Ft}(h:f.1≠0):∀L,oZ f L=f
 | []=>rfl
 | p::L=>by
  show oZ (if f.1=0 then p else f) L=f;rw[if_neg h];exact PJ h L
def Cd(L:List Ft):Prop:=∀p,p∈L->p.1≠0
theorem Cd.nil:Cd []:=fun p h=>by simp at h
theorem Cd.yv{L M:List Ft}(h:Cd L)(g:Cd M):Cd (L++M):=fun p hp=>(ch.1 hp).elim (h p) (g p)
theorem Cd.bad{ok:Bool}{e a:Int}(h:e≠0):Cd (bad ok e a):=fun p hp=>by
 unfold Con.bad at hp;split at hp
 ·simp at hp
 ·simp only[aO]at hp;subst hp;exact h
theorem Cd.flat{α:Type}{f:α->List Ft}(h:∀x,Cd (f x))(l:List α):Cd (l.flatMap f):=fun p hp=>by
 obtain⟨x,_,hx⟩:=eI.1 hp;exact h x p hx
theorem PK{L:List Ft}(hL:Cd L)(h:(oZ (0,0) L).1=0):L=[]:=by
 cases L with
 | nil=>rfl
 | cons p L=>
  have hp:=hL p (by simp);have e:oZ (0,0) (p::L)=oZ p L:=rfl;rw[e,PJ hp]at h;exact absurd h hp
theorem sY{ok:Bool}{e a:Int}:bad ok e a=[]↔ok=true:=by
 unfold bad;cases ok<;>simp
theorem TV(f:Ft)(ok:Bool)(e a:Int):oZ f (bad ok e a)=if(!ok&&f.1==0)=true then(e,a)else f:=by
 unfold bad;cases ok
 ·by_cases h:f.1=0
  ·simp[oZ,h]
  ·simp[oZ,h]
 ·simp[oZ]
def gj(xs:List cM)(s:aJ):Int:=if rQ s (xs.map fun x:cM=>x.nm)<xs.length then(rQ s (xs.map fun x:cM=>x.nm):Nat)else -1
def kP(xs:List cM)(n:Int):Int:=match xs[n.toNat]? with
 | some x=>x.k
 | none=>0
def FT(xs:List cM)(n:Int):Int:=match xs[n.toNat]? with
 | some x=>x.pa
 | none=>0
def Ya(xs:List cM)(s:aJ):Bool:=decide (0<=gj xs s)&&!fL (kP xs (gj xs s))
def PL(xs:List cM)(b a:Nat):Bool:=match xs[b]? with
 | some s=>decide (b<=a)&&decide ((a:Int)<s.en)
 | none=>false
def oo(xs:List cM)(b a:Int):Bool:=decide (0<=b/\0<=a)&&PL xs b.toNat a.toNat
def kB(xs:List cM)(a b:Int):Bool:=decide (a≠b)&&oo xs b a
def FU(xs:List cM)(a b:Int):Nat->Int
 | 0=> -1
 | m+1=>if(oo xs m a&&oo xs m b)=true then m else FU xs a b m
def BI(xs:List cM)(a b:Int):Int:=FU xs a b xs.length
def Dz(xs:List cM)(a b:Int):Bool:=decide (BI xs a b≠a/\BI xs a b≠b)&&decide (kP xs (BI xs a b)=2)
def AI(xs:List cM)(s:aJ):Int:=if fL (kP xs (gj xs s))then FT xs (gj xs s)else gj xs s
def Nw(xs:List cM):List Int->List (aJ)->Bool
 | _,[]=>true
 | l,s::r=>if gj xs s<1 then false else if(l.any fun o=>!Dz xs (AI xs s) o)then false else Nw xs (l++[AI xs s]) r
mutual
def HY:Nd->List (aJ×Int)
 | .mk b l=>(b.nm,b.a)::xJ l
def xJ:List Nd->List (aJ×Int)
 | []=>[]
 | x::l=>HY x++xJ l
end
def xf:List (aJ)->List (aJ×Int)->List Ft
 | _,[]=>[]
 | l,p::r=>bad (!decide (p.1∈l)) 24 p.2++xf (l++[p.1]) r
theorem DA:∀(p q:List (aJ×Int)) (l:List (aJ)),xf l (p++q)=xf l p++xf (l++p.map fun x=>x.1) q
 | [],q,l=>by rw[cr,xf,cr,fM,bR]
 | x::p,q,l=>by rw[ck,xf,xf,DA p q,bQ,bF,bQ];rfl
theorem Km:∀l m:List Nd,xJ (l++m)=xJ l++xJ m
 | [],m=>by rw[cr,xJ,cr]
 | x::l,m=>by rw[ck,xJ,xJ,Km l m,bQ]
mutual
theorem PM(a:Nat)(pa dp:Int):∀x,(AZ a pa dp x).map (fun s:cM=>s.nm)=(HY x).map fun p=>p.1
 | .mk b l=>by rw[AZ,HY,bF,bF,HZ]
theorem HZ(a:Nat)(pa dp:Int):∀l,(pU a pa dp l).map (fun s:cM=>s.nm)=(xJ l).map fun p=>p.1
 | []=>by rw[pU,xJ];rfl
 | x::l=>by rw[pU,xJ,da,da,PM,HZ]
end
theorem TW(x:List Nd):(xJ x).length=eV x:=by
 have:=bm List.length (HZ 0 0 0 x);rw[bq,bq,sX]at this;exact this.symm
theorem H0:∀(p:List (aJ×Int)) (l:List (aJ)),Cd (xf l p)
 | [],l=>Cd.nil
 | x::p,l=>Cd.yv (Cd.bad (by decide)) (H0 p _)
section
variable (xs:List cM) (vs:List (aJ))
def Sj(k:Int)(s:aJ):Bool:=(decide (k≠2)||decide (s∈vs))&&(decide (k≠3)||Ya xs s)
mutual
def Sk:Ex->List Ft
 | .mk k n s op l a=>bad (Sj xs vs k s) 23 a++tz l
def tz:List Ex->List Ft
 | []=>[]
 | x::l=>Sk x++tz l
end
theorem Yb(x:Ex):Sk xs vs x=bad (Sj xs vs x.k x.s) 23 x.a++tz xs vs x.fW:=by cases x;rw[Sk];rfl
theorem FV:∀l m:List Ex,tz xs vs (l++m)=tz xs vs l++tz xs vs m
 | [],m=>by rw[cr,tz,cr]
 | x::l,m=>by rw[ck,tz,tz,FV l m,bQ]
def acF(a:Ac):List Ft:=bad (decide (a.k≠1)||decide (a.n∈vs)) 23 a.a++Sk xs vs a.x
def tA(l:List Ac):List Ft:=l.flatMap (acF xs vs)
def adL(m:Mv):Bool:=(m.k !=3)||(decide (m.wt>0)&&decide (m.wt<=1099511627776))
def FW(m:Mv):List Ft:=bad (adL m) 28 m.a++(Sk xs vs m.g++(tA xs vs m.acts++bad (Nw xs [] m.tg) 27 m.a))
def Hc(l:List Nd):Nat:=(l.filter fun x=>!fL x.b.k).length
def DB(s:aJ)(l:List Nd):Bool:=l.any fun x=>decide (x.b.nm=s)
def xh(b:Nb)(l:List Nd)(at_:Nat):List Ft:=
 if fL b.k then bad (Ya xs b.dft&&kB xs (gj xs b.dft) (FT xs at_)) 26 b.a
 else if b.k=2 then bad (decide (b.ini=[])&&decide (1<Hc l)) 25 b.a
 else if 0<Hc l then bad (DB b.ini l) 25 b.a
 else bad (decide (b.ini=[])) 25 b.a++bad (decide (l.length=0)) 26 b.a
mutual
def Nx:Nat->Nd->List Ft
 | n,.mk b l=>xh xs b l n++(tA xs vs (b.en++b.lv)++(b.mv.flatMap (FW xs vs)++qJ (n+1) l))
def qJ:Nat->List Nd->List Ft
 | _,[]=>[]
 | n,x::l=>Nx n x++qJ (n+iO x) l
end
theorem FX:∀(l m:List Nd) (n:Nat),qJ xs vs n (l++m)=qJ xs vs n l++qJ xs vs (n+eV l) m
 | [],m,n=>by rw[cr,qJ,cr,eV,fx]
 | x::l,m,n=>by rw[ck,qJ,qJ,FX l m,bQ,eV,eM]
mutual
theorem H2:∀x,Cd (Sk xs vs x)
 | .mk k n s op l a=>by rw[Sk];exact Cd.yv (Cd.bad (by decide)) (Kn l)
theorem Kn:∀l,Cd (tz xs vs l)
 | []=>by rw[tz];exact Cd.nil
 | x::l=>by rw[tz];exact Cd.yv (H2 x) (Kn l)
end
theorem Yc(a:Ac):Cd (acF xs vs a):=Cd.yv (Cd.bad (by decide)) (H2 xs vs a.x)
theorem Ko(l:List Ac):Cd (tA xs vs l):=Cd.flat (Yc xs vs) l
theorem Yd(m:Mv):Cd (FW xs vs m):=Cd.yv (Cd.bad (by decide)) (Cd.yv (H2 xs vs _) (Cd.yv (Ko xs vs _) (Cd.bad (by decide))))
theorem Ye(b:Nb)(l:List Nd)(n:Nat):Cd (xh xs b l n):=by
 unfold xh;split
 ·exact Cd.bad (by decide)
 ·split
  ·exact Cd.bad (by decide)
  ·split
   ·exact Cd.bad (by decide)
   ·exact Cd.yv (Cd.bad (by decide)) (Cd.bad (by decide))
mutual
theorem PN:∀(n:Nat) (x:Nd),Cd (Nx xs vs n x)
 | n,.mk b l=>by rw[Nx];exact Cd.yv (Ye xs b l n) (Cd.yv (Ko xs vs _) (Cd.yv (Cd.flat (Yd xs vs) _) (Kp (n+1) l)))
theorem Kp:∀(n:Nat) (l:List Nd),Cd (qJ xs vs n l)
 | n,[]=>by rw[qJ];exact Cd.nil
 | n,x::l=>by rw[qJ];exact Cd.yv (PN n x) (Kp _ l)
end
end
def Ev(c:Ch):List (aJ):=c.vars.map fun v=>v.n
def BJ(c:Ch):List Ft:=xf [] (HY c.root)++(xf [] (c.vars.map fun v=>(v.n,v.a))++Nx (cX c) (Ev c) 0 c.root)
theorem PO(c:Ch):Cd (BJ c):=Cd.yv (H0 _ _) (Cd.yv (H0 _ _) (PN _ _ _ _))
theorem Kq{s:aJ}:∀{l:List (aJ)},rQ s l<l.length->l[rQ s l]? =some s
 | [],h=>by simp at h
 | x::l,h=>by
  rw[rQ]at h⊢;split
  ·rename_i e;rw[e];rfl
  ·rename_i e;rw[if_neg e,bp]at h;rw[de];exact Kq (by omega)
theorem nl{s:aJ}:∀{l:List (aJ)},rQ s l<l.length↔s∈l
 | []=>by simp
 | x::l=>by
  rw[rQ,aR,bp];split
  ·rename_i e;exact⟨fun _=>.inl e,fun _=>by omega⟩
  ·rename_i e;have:=nl (s:=s) (l:=l);exact⟨fun h=>.inr (this.1 (by omega)),fun h=>by have:=this.2 (h.resolve_left e);omega⟩
theorem Kr{s:aJ}(m:List (aJ)):∀{l:List (aJ)},s∈l->rQ s (l++m)=rQ s l
 | [],h=>by simp at h
 | x::l,h=>by
  rw[ck,rQ,rQ];split
  ·rfl
  ·rename_i e;rw[Kr m ((aR.1 h).resolve_left e)]
theorem DC{s:aJ}(m:List (aJ)):∀{l:List (aJ)},s∉l->rQ s (l++s::m)=l.length
 | [],_=>by rw[cr,rQ,if_pos rfl];rfl
 | x::l,h=>by
  rw[ck,rQ,if_neg (fun e=>h (by rw[e];simp)),DC m (fun hm=>h (dc _ hm))];rfl
section
variable {xs:List cM} {s:aJ}
theorem mr(xs:List cM)(s:aJ):(gj xs s= -1/\∀x∈xs,x.nm≠s)∨∃(n:Nat) (x:cM),gj xs s=n/\xs[n]? =some x/\x.nm=s:=by
 unfold gj;split
 ·rename_i h;right;have:=Kq (l:=xs.map fun x:cM=>x.nm) (s:=s) (by rw[bq];exact h);rw[bZ,fZ]at this;obtain⟨x,hx,e⟩:=this;exact⟨_,x,rfl,hx,e⟩
 ·rename_i h;refine .inl ⟨rfl,fun x hx e=>h ?_⟩;have:=(nl (s:=s) (l:=xs.map fun x:cM=>x.nm)).2 (cJ.2 ⟨x,hx,e⟩);rwa[bq]at this
theorem fP{n:Nat}{x:cM}(h:xs[n]? =some x):kP xs n=x.k:=by unfold kP;rw[aX,h]
theorem kQ{n:Nat}{x:cM}(h:xs[n]? =some x):FT xs n=x.pa:=by unfold FT;rw[aX,h]
theorem PQ{b a:Nat}:PL xs b a=true↔jq xs b a:=by
 unfold PL jq;cases h:xs[b]? with
 | none=>simp
 | some s=>simp
theorem nS{b a:Int}:oo xs b a=true↔∃i j:Nat,b=i/\a=j/\jq xs i j:=by
 unfold oo;rw[aQ,cm,PQ];constructor
 ·rintro⟨⟨h1,h2⟩,h⟩;exact⟨_,_,(iq h1).symm,(iq h2).symm,h⟩
 ·rintro⟨i,j,rfl,rfl,h⟩;rw[aX,aX];exact⟨⟨by omega,by omega⟩,h⟩
theorem nT{a b:Int}:kB xs a b=true↔∃i j:Nat,b=i/\a=j/\i<j/\jq xs i j:=by
 unfold kB;rw[aQ,cm,nS];constructor
 ·rintro⟨hn,i,j,rfl,rfl,h⟩;have:=h;obtain⟨_,_,ma,_⟩:=this;exact⟨i,j,rfl,rfl,by omega,h⟩
 ·rintro⟨i,j,rfl,rfl,h,hc⟩;exact⟨by omega,i,j,rfl,rfl,hc⟩
theorem wh(a b:Int):∀n:Nat,(FU xs a b n= -1/\∀m,m<n->(oo xs m a&&oo xs m b)=false)∨∃m:Nat,FU xs a b n=m/\m<n/\(oo xs m a&&oo xs m b)=true/\∀j,m<j->j<n->(oo xs j a&&oo xs j b)=false
 | 0=>.inl ⟨rfl,fun m h=>by omega⟩
 | n+1=>by
  rw[FU];split
  ·rename_i h;exact .inr ⟨n,rfl,by omega,h,fun j h1 h2=>by omega⟩
  ·rename_i h;rw[lR]at h;rcases wh a b n with⟨h1,h2⟩ | ⟨m,h1,h2,h3,h4⟩
   ·exact .inl ⟨h1,fun m hm=>if e:m=n then by rw[e];exact h else h2 m (by omega)⟩
   ·exact .inr ⟨m,h1,by omega,h3,fun j g1 g2=>if e:j=n then by rw[e];exact h else h4 j g1 (by omega)⟩
theorem Fo.UC(F:Fo xs){a b r:Int}(h:Mt xs [a,b] r)(ha:pj xs a)(hb:pj xs b):r=BI xs a b:=by
 have hg:∀n,n∈[a,b]->pj xs n:=fun n hn=>by
  simp only[aR,bf,bU]at hn;rcases hn with rfl | rfl
  ·exact ha
  ·exact hb
 obtain⟨m,rfl,t1,t2⟩:=h.aej (by simp) hg;have both:∀j:Nat,(oo xs j a&&oo xs j b)=true↔∀n:Int,n∈[a,b]->∃k:Nat,n=k/\jq xs j k:=fun j=>by
  rw[aQ,nS,nS];constructor
  ·rintro⟨⟨i,k,e,rfl,h1⟩,⟨i',k',e',rfl,h2⟩⟩ n hn;simp only[aR,bf,bU]at hn;have ei:j=i:=by omega
   have ei':j=i':=by omega
   subst ei ei';rcases hn with rfl | rfl
   ·exact⟨k,rfl,h1⟩
   ·exact⟨k',rfl,h2⟩
  ·intro h;obtain⟨k,e,h1⟩:=h a (by simp);obtain⟨k',e',h2⟩:=h b (by simp);exact⟨⟨j,k,rfl,e,h1⟩,⟨j,k',rfl,e',h2⟩⟩
 have hm:=(both m).2 t1;have Cs:m<xs.length:=by
  obtain⟨k,_,s,hs,_⟩:=t1 a (by simp);exact eZ hs
 unfold BI;rcases wh (xs:=xs) a b xs.length with⟨_,h2⟩ | ⟨q,h1,h2,h3,h4⟩
 ·rw[h2 m Cs]at hm;cases hm
 ·have:=t2 q ((both q).1 h3);by_cases e:q=m
  ·rw[h1,e]
  ·rw[h4 m (by omega) Cs]at hm;cases hm
end
end Go.Proofs.YtbkjcdocjfknfaaGreatDoor.Con
