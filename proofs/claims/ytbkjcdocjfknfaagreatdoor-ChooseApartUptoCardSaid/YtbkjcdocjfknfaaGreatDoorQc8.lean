import Derived.Test.YtbkjcdocjfknfaaGreatDoorQc7
set_option linter.unusedSectionVars false
namespace Go.Proofs.YtbkjcdocjfknfaaGreatDoor.Con
open Go.Value renaming int->O,string->ab,pointer->ae,agg->ah,tuple->ai,bool->aj
open Go.IntKind renaming i64->U,wrap->ar
open Go.Ending renaming returned->ak
open _root_.ByteArray renaming mk->ao
open _root_.Go.Proofs.Tryz renaming prog->aq
open Go.Instr renaming buildSlice->au
open Go renaming World->av,Value->aw,Calls->az
open Go.Kt renaming Only->ay,SliceF->aA,Cells->aB,OnlyP->aD,Blk->aF
open Go Go.RowKit Go.Kt Go.Kt.V Go.Proofs.YtbkjcdocjfknfaaGreatDoor.Vc
set_option linter.unusedSimpArgs false
set_option linter.unusedVariables false
set_option maxHeartbeats 4000000
def Bf(w:av)(B:Nat)(s:Sl)(l:aH):Prop:=
 (s=Sl.nil/\l=[])∨∃g tail,s.a=some ⟨g,0,none⟩/\B<=g/\aF w g 5 (l.map fY++tail)/\tail.length=s.c-s.n/\s.n=l.length/\s.n<=s.c/\s.c<=9223372036854775807/\0<s.c
theorem Bf.len{w:av}{B:Nat}{s:Sl}{l:aH}(h:Bf w B s l):s.n=l.length:=by
 rcases h with⟨rfl,rfl⟩ | ⟨g,tail,_,_,_,_,h,_⟩
 ·rfl
 ·exact h
theorem Bf.lt{w:av}{B:Nat}{s:Sl}{l:aH}(h:Bf w B s l){g:Nat}(hg:s.a=some ⟨g,0,none⟩):B<=g/\g<w.heap.size:=by
 rcases h with⟨rfl,rfl⟩ | ⟨g',tail,h1,h2,h3,_⟩
 ·cases hg
 ·rw[hg]at h1;injection h1 with h1;injection h1 with h1;subst h1;exact⟨h2,h3.lt⟩
theorem Bf.keep{w w':av}{B:Nat}{s:Sl}{l:aH}(h:Bf w B s l)(hk:∀g,s.a=some ⟨g,0,none⟩->g<w.heap.size->w'.heap[g]? =w.heap[g]?):Bf w' B s l:=by
 rcases h with h | ⟨g,tail,h1,h2,h3,h4⟩
 ·exact .inl h
 ·exact .inr ⟨g,tail,h1,h2,(hk g h1 h3.lt).trans h3,h4⟩
theorem af6(l:aH):Lib.strCells (T l)=l.map fY:=rfl
theorem GD:Tryz.prog.underlying 241=some (.slice 5):=by kernel_rfl
theorem Z9:Tryz.prog.underlying 9=some .string:=by kernel_rfl
theorem LA:Tryz.prog.info? 5=some Tryz.t5:=by kernel_rfl
theorem LB{w:av}{B:Nat}{s:Sl}{l:aH}(h:Bf w B s l)(m:aH)(hB:B<=w.heap.size)(hm:l.length+m.length<=140737488355328):
  ∃s' w',(Builtin.append_ #[241,9] 241 #[s.v,ab (T m)]).run aq w=.ok s'.v w'/\Bf w' B s' (l++m)/\aD (fun k=>s.a=some ⟨k,0,none⟩) w w'/\(s'.a=s.a∨s'.a=some ⟨w.heap.size,0,none⟩):=by
 have ht:=GD;have hu:=Z9;have hi:=LA;have C3:Tryz.t5.size=1:=rfl;have zh:Tryz.t5.bytes=1:=rfl;have hz:Tryz.t5.zero=some (.int .u8 0):=rfl;have hsz:(T m).size=m.length:=dI m;have grown:∀(kX Ps:Nat),kX=l.length+m.length->0<l.length+m.length->∀cells:Array aw,cells=((l++m).map fY).toArray++Builtin.zeroCells (Value.int .u8 0).cells (grownCap w kX Ps 5-kX)->
   Bf (w.drew.alloc (.cells cells 5)) B ⟨some ⟨w.heap.size,0,none⟩,kX,grownCap w kX Ps 5⟩ (l++m)/\aD (fun k=>s.a=some ⟨k,0,none⟩) w (w.drew.alloc (.cells cells 5)):=by
  rintro kX Ps rfl h0 cells rfl;have hO:ay [] w (w.drew.alloc (.cells (((l++m).map fY).toArray++Builtin.zeroCells (Value.int .u8 0).cells (grownCap w (l.length+m.length) Ps 5-(l.length+m.length))) 5)):=(Only.drew w).cf (Only.alloc _ _);refine⟨.inr ⟨w.heap.size,(Builtin.zeroCells (Value.int .u8 0).cells (grownCap w (l.length+m.length) Ps 5-(l.length+m.length))).toList,rfl,hB,?_,?_,by simp,grownCap_ge _ _ _ _,grownCap_le_maxLen _ _ _ _ (by simp only[maxLen];omega),cm h0 (grownCap_ge _ _ _ _)⟩,hO.p0⟩
  ·have e:∀(x:aI) (z:Array aw),x.toArray++z=(x++z.toList).toArray:=fun x z=>by simp
   rw[e];exact Blk.alloc w.drew 5 _
  ·exact(vG w _ (size:=1) rfl).trans (gj _)
 rcases h with⟨rfl,rfl⟩ | ⟨g,tail,h1,h2,h3,h4,h5,h6,h7,h8⟩
 ·cases m with
  | nil=>
   refine⟨Sl.nil,w,?_,.inl ⟨rfl,rfl⟩,OnlyP.refl _ _,.inl rfl⟩;have hf:=Lib.run_firstCells_string (P:=aq) w 1 (T []);have h0:(T []).size=0:=rfl;rw[h0]at hf;simp[Sl.nil,Sl.v,Builtin.append_,run_underlying ht,run_underlying hu,sizeOf,typeInfo,hi,C3,Builtin.lenOf,h0,hf]
  | cons c m=>
   have hr:=run_append_nil_string (P:=aq) w 241 9 241 5 Tryz.t5 (.int .u8 0) ht hu hi hz (T (c::m)) (by rw[hsz];simp) (by rw[hsz];omega) (by rw[hsz,zh];omega);rw[hsz]at hr;obtain⟨g1,g2⟩:=grown (c::m).length 0 (by simp) (by simp) _ rfl;have e1:(T (c::m)).data.map (fun b=>Value.int .u8 b.toNat)=(List.map fY ([]++c::m)).toArray:=by
    apply O3.1;rw[Array.toList_map,iq];rfl
   rw[e1]at hr;exact⟨_,_,hr,g1,g2,.inr rfl⟩
 ·obtain⟨sa,sn,sc⟩:=s;dsimp only at h1 h4 h5 h6 h7 h8;subst h1;by_cases ql:sn+m.length<=sc
  ·have hb3:=h3;unfold aF at h3;have hr:=Lib.run_append_room_string (P:=aq) w 241 9 241 5 Tryz.t5 ht hu hi C3 g sn sc _ h3 (T m) (by rw[hsz];exact ql) (by
    rw[hsz,kQ,aP,bm];omega)
   rw[hsz,af6]at hr;refine⟨⟨some ⟨g,0,none⟩,sn+m.length,sc⟩,_,hr,.inr ⟨g,tail.drop m.length,rfl,h2,?_,?_,by dsimp only;rw[aP];omega,ql,h7,h8⟩,(Only.setRow w g _).p fun x hx=>.inl (by simp only[aN]at hx;rw[hx]),.inl rfl⟩
   ·have:=hb3.setRow ((l++m).map fY++tail.drop m.length);have e:((l.map fY++tail).toArray.toList.take sn++m.map fY++(l.map fY++tail).toArray.toList.drop (sn+m.length))=(l++m).map fY++tail.drop m.length:=by
     rw[iq,PN (by rw[bm];omega),bq (by rw[bm];omega),List.drop_append,ki (by rw[bm];omega),ck,bm,cJ,h5,dF]
    rw[e];exact this
   ·rw[cH];dsimp only;omega
  ·have yq:∀j v,(l.map fY)[j]? =some v->w.cell? ((⟨g,0,none⟩:Addr).add j)=some v:=fun j v hj=>h3.cells 0 (l.map fY) (fun j v hj=>by rw[bO,bK (aV.1 hj).1];exact hj) j v hj;have hr:=Lib.run_append_grow_string (P:=aq) w 241 9 241 5 Tryz.t5 (.int .u8 0) ht hu hi hz ⟨g,0,none⟩ sn sc (l.map fY) (by rw[C3,bm];omega) yq (T m) (by rw[hsz];omega) (by rw[hsz];omega) (growslice_fits (by rw[hsz];omega) (by rw[hsz,zh];omega));rw[hsz,af6]at hr;obtain⟨g1,g2⟩:=grown (sn+m.length) sc (by omega) (by omega) _ rfl;refine⟨_,_,hr.trans ?_,g1,g2,.inr rfl⟩;simp[cJ]
theorem XW(w:av)(F:aJ):∀l:aH,mN jr 1 w F l (l.map fun b=>[fY b])
 | []=>trivial
 | c::l=>⟨⟨rfl,rfl⟩,XW w F l⟩
theorem Q5:∀l:aH,(l.map fun b=>[fY b]).flatten=l.map fY
 | []=>rfl
 | c::l=>by rw[bD,di,Q5 l];rfl
theorem GF{w:av}{F:aJ}:∀{l:aH} {css:List (aI)},mN jr 1 w F l css->css.flatten=l.map fY
 | [],[],_=>rfl
 | c::l,d::css,h=>by
  obtain⟨⟨_,h1⟩,h2⟩:=h;unfold jr at h1;subst h1;rw[di,GF h2];rfl
theorem Bf.own{w:av}{B:Nat}{s:Sl}{l:aH}(h:Bf w B s l)(F:aJ):Own jr 1 5 B w F s l:=by
 rcases h with h | ⟨g,tail,h1,h2,h3,h4,h5,h6,h7,_⟩
 ·exact .inl h
 ·exact .inr ⟨g,l.map fun b=>[fY b],tail,h1,h2,by rw[Q5];exact h3,by rw[gj];exact h4,h5,h6,h7,XW _ _ _⟩
theorem Bf.of{w:av}{B:Nat}{s:Sl}{l:aH}{F:aJ}(h:Own jr 1 5 B w F s l)(h0:0<l.length):Bf w B s l:=by
 rcases h with h | ⟨g,css,tail,h1,h2,h3,h4,h5,h6,h7,h8⟩
 ·exact .inl h
 ·exact .inr ⟨g,tail,h1,h2,by rw[<-GF h8];exact h3,by rw[h4,gj],h5,h6,h7,by omega⟩
structure Pg (G:aJ) (w:av) (b:Nat) (sl sn:Sl) (l:aH):Prop where
 blk:∃q:Option Addr,(q=none∨q=some ⟨b,0,none⟩)/\aF w b 334 [ae q,sl.v,sn.v]
 buf:Bf w (b+1) sl l
 sig:aA ju 1 w G sn BK
 hG:∀k,G k->k<b
def ub(b:Nat)(sl:Sl)(w:av)(pv:Sl)(w':av):Prop:=aD (fun k=>k=b∨sl.a=some ⟨k,0,none⟩) w w'/\∀k,pv.a=some ⟨k,0,none⟩->sl.a=some ⟨k,0,none⟩∨w.heap.size<=k
theorem ub.trans{b:Nat}{sl pv aht:Sl}{w w' tV:av}(h:ub b sl w pv w')(k:ub b pv w' aht tV):ub b sl w aht tV:=by
 have z:=h.1.size;refine⟨h.1.trans k.1 fun x hx=>?_,fun x hx=>?_⟩
 ·rcases hx with hx | hx
  ·exact .inl (.inl hx)
  ·rcases h.2 x hx with e | e
   ·exact .inl (.inr e)
   ·exact .inr e
 ·rcases k.2 x hx with e | e
  ·exact h.2 x e
  ·exact .inr (by omega)
theorem ub.only{b:Nat}{sl:Sl}{w w':av}(h:ay [] w w'):ub b sl w sl w':=⟨h.p0,fun _ h=>.inl h⟩
theorem ub.same{b:Nat}{sl pv:Sl}{w w':av}(h:ub b sl w pv w'){k:Nat}(hk:k≠b)(hs:sl.a≠some ⟨k,0,none⟩)(hl:k<w.heap.size):bU [k] w w':=h.1.same (by
 intro x hx;simp only[aN]at hx;subst hx;exact⟨hl,fun e=>e.elim hk hs⟩)
theorem Pg.only{G:aJ}{w w':av}{b:Nat}{sl sn:Sl}{l:aH}(h:Pg G w b sl sn l)(hO:ay [] w w'):Pg G w' b sl sn l:=by
 obtain⟨q,hq,hB⟩:=h.blk;exact⟨⟨q,hq,hO.blk hB (by simp)⟩,h.buf.keep fun g _ hl=>hO.block g hl (by simp),SliceF.only cP (by decide) h.sig hO (by simp),h.hG⟩
theorem Pg.lb{G:aJ}{w:av}{b:Nat}{sl sn:Sl}{l:aH}(h:Pg G w b sl sn l):b<w.heap.size:=by
 obtain⟨q,hq,hB⟩:=h.blk;exact hB.lt
theorem XX(v:aw)(w:av):(NG 241 #[v]).run aq w=.ok v w:=by
 unfold NG;rw[Sem.run_bind,run_callFunc_extern Tryz.func241 (by kernel_rfl) (by kernel_rfl) (by kernel_rfl) (e:=Extern.AbiNoEscape.same) (by kernel_rfl)];rw[Lib.run_noEscape];rfl
theorem LC{w:av}{b:Nat}{q:Option Addr}{sl sn:Sl}(hq:q=none∨q=some ⟨b,0,none⟩)(h:aF w b 334 [ae q,sl.v,sn.v]):
  az aq 225 #[ae (some ⟨b,0,none⟩)] w fun e w'=>e=ak (ai #[])/\ay [b] w w'/\aF w' b 334 [ae (some ⟨b,0,none⟩),sl.v,sn.v]:=by
 refine ret (XQ _ _ _ ?_);have FB:w.shape? b=some (334,3):=by
  unfold World.shape?;unfold aF at h;rw[h];rfl
 refine⟨q,Blk.dQ h 0 rfl,fun hn=>?_,fun hn=>⟨q,Blk.dQ h 0 rfl,?_⟩⟩
 ·have hr1:=Lib.run_to_unsafe (P:=aq) (src:=240) (dst:=308) w ⟨b,0,none⟩ (t:=243) (j:=Tryz.t243) (by kernel_rfl) (by kernel_rfl) (by kernel_rfl) (by decide) FB (by decide:(0:Nat)<3);have hr2:=Lib.run_from_unsafe (P:=aq) (src:=308) (dst:=240) w ⟨b,0,none⟩ (u:=243) (j:=Tryz.t243) (by kernel_rfl) (by kernel_rfl) (by kernel_rfl) FB (by kernel_rfl);exact⟨⟨ae (some ⟨b,0,none⟩),rfl⟩,w,hr1,⟨ae (some ⟨b,0,none⟩),rfl⟩,w,XX _ w,some ⟨b,0,none⟩,w,hr2,b,0,_,_,rfl,h,by simp,fun w3 hO hB=>⟨rfl,hO,hB⟩⟩
 ·rcases hq with rfl | rfl
  ·cases hn
  ·exact⟨false,w,Lib.run_neq_ptr_same w _ (te:=243) (j:=Tryz.t243) (by kernel_rfl) (by kernel_rfl),fun e=>(by cases e),fun _=>⟨rfl,Only.refl _ _,h⟩⟩
section
variable {G:aJ} {w:av} {b:Nat} {sl sn:Sl} {l:aH}
theorem aaa(h:Pg G w b sl sn l):az aq 211 #[ae (some ⟨b,0,none⟩)] w fun e w'=>e=ak (O U (l.length:Int))/\w'=w:=by
 refine ret (XO _ _ _ ?_);obtain⟨q,hq,hB⟩:=h.blk;exact⟨sl,Blk.dQ hB 1 rfl,by rw[h.buf.len],rfl⟩
theorem oW(h:Pg G w b sl sn l)(m:aH)(hm:l.length+m.length<=140737488355328):az aq 202 #[ae (some ⟨b,0,none⟩),ab (T m)] w fun e w'=>
  ∃pv,e=ak (ai #[O U (m.length:Int),.nilIface])/\Pg G w' b pv sn (l++m)/\ub b sl w pv w':=by
 refine(XP ⟨b,0,none⟩ (T m) (fun v w'=>∃pv,v=ai #[O U (m.length:Int),.nilIface]/\Pg G w' b pv sn (l++m)/\ub b sl w pv w') w ?_).mono (by
  rintro e w' ⟨v,rfl,s,rfl,h⟩;exact⟨s,rfl,h⟩)
 obtain⟨q,hq,hB⟩:=h.blk;refine(LC hq hB).mono ?_;rintro _ w0 ⟨rfl,cD,uD⟩;have z0:=cD.size;have hb:=hB.lt;have wJ:Bf w0 (b+1) sl l:=h.buf.keep fun g hg hl=>cD.block g hl (by have:=(h.buf.lt hg).1;simp;omega);obtain⟨s',w1,k1,k2,k3,k4⟩:=LB wJ m (by omega) hm;have z1:=k3.size;have wD:aF w1 b 334 [ae (some ⟨b,0,none⟩),sl.v,sn.v]:=k3.blk uD fun e=>by have:=(wJ.lt e).1;omega
 have E7:∀g,s'.a=some ⟨g,0,none⟩->b<g:=fun g hg=>by
  rcases k4 with e | e
  ·rw[e]at hg;exact(wJ.lt hg).1
  ·rw[e]at hg;injection hg with hg;injection hg with hg;omega
 refine⟨rfl,sl,Blk.dQ uD 1 rfl,s',w1,k1,b,1,_,_,rfl,wD,by simp,fun w2 cR po=>⟨s',by rw[dI],⟨⟨_,.inr rfl,po⟩,k2.keep fun g hg hl=>cR.block g hl (by have:=E7 g hg;simp;omega),?_,h.hG⟩,?_,?_⟩⟩
 ·have h0:=SliceF.only cP (by decide) h.sig cD fun k hk _ hm=>by have:=h.hG k hk;simp only[aN]at hm;omega
  have h1:=SliceF.jV cP (by decide) h0 k3 fun k hk _ hm=>by have:=h.hG k hk;have:=(wJ.lt hm).1;omega
  exact SliceF.only cP (by decide) h1 cR fun k hk _ hm=>by have:=h.hG k hk;simp only[aN]at hm;omega
 ·refine((cD.p (F:=fun k=>k=b∨sl.a=some ⟨k,0,none⟩) fun x hx=>.inl (.inl (by simpa using hx))).trans k3 fun k hk=>.inl (.inr hk)).trans (cR.p (F:=fun k=>k=b) fun x hx=>.inl (by simpa using hx)) fun k hk=>.inl (.inl hk)
 ·intro k hk;rcases k4 with e | e
  ·rw[e]at hk;exact .inl hk
  ·rw[e]at hk;injection hk with hk;injection hk with hk;exact .inr (by omega)
theorem XY(h:Pg G w b sl sn l)(c:UInt8)(hm:l.length+1<=140737488355328):Ld ⟨b,0,none⟩ (c.toNat:Int) (fun v w'=>∃pv,v=.nilIface/\Pg G w' b pv sn (l++[c])/\ub b sl w pv w') w:=by
 unfold Ld;obtain⟨q,hq,hB⟩:=h.blk;refine(LC hq hB).mono ?_;rintro _ w0 ⟨rfl,cD,uD⟩;have z0:=cD.size;have hb:=hB.lt;have wJ:Bf w0 (b+1) sl l:=h.buf.keep fun g hg hl=>cD.block g hl (by have:=(h.buf.lt hg).1;simp;omega);obtain⟨y,w1,k1,k2,k3,_⟩:=wY w0 [c] (n:=1) (parts:=#[(0,.int .u8 (c.toNat:Int))]) rfl rfl (by decide) (by decide);have z1:=k3.size;have ahu:Bf w1 (b+1) sl l:=wJ.keep fun g hg hl=>k3.block g hl (by simp);obtain⟨s',w2,m1,m2,gs,m3,m4,m5⟩:=qE (P:=aq) (t:=241) (ty:=241) (e:=5) (i:=Tryz.t5) (bytes:=1) (size:=1) (r:=jr) GD LA rfl rfl rfl rfl vH (ahu.own fun _=>True) ((Cg k2).mono vH fun k hk=>⟨trivial,fun e=>by have:=(wJ.lt e).2;have:=hk.1;omega⟩) (by omega) (by rw[bG];omega) (by decide);have z2:=m3.size;have cR:aD (fun k=>sl.a=some ⟨k,0,none⟩) w1 w2:=m3.p fun x hx=>.inl (m4 x hx).1;have po:aF w2 b 334 [ae (some ⟨b,0,none⟩),sl.v,sn.v]:=cR.blk (k3.blk uD (by simp)) fun e=>by have:=(wJ.lt e).1;omega
 have E7:∀g,s'.a=some ⟨g,0,none⟩->b<g:=fun g hg=>by
  rcases m5 with e | e
  ·rw[e]at hg;exact(wJ.lt hg).1
  ·rw[e]at hg;injection hg with hg;injection hg with hg;omega
 refine⟨rfl,sl,Blk.dQ uD 1 rfl,y,w1,k1,s',w2,m1,b,1,_,_,rfl,po,by simp,fun w3 de wO=>⟨s',rfl,⟨⟨_,.inr rfl,wO⟩,(Bf.of m2 (by simp)).keep fun g hg hl=>de.block g hl (by have:=E7 g hg;simp;omega),?_,h.hG⟩,?_,?_⟩⟩
 ·have h0:=SliceF.only cP (by decide) h.sig (cD.cf k3) fun k hk _ hm=>by have:=h.hG k hk;simp only[aN]at hm;omega
  have h1:=SliceF.jV cP (by decide) h0 cR fun k hk _ hm=>by have:=h.hG k hk;have:=(wJ.lt hm).1;omega
  exact SliceF.only cP (by decide) h1 de fun k hk _ hm=>by have:=h.hG k hk;simp only[aN]at hm;omega
 ·refine(((cD.cf k3).p (F:=fun k=>k=b∨sl.a=some ⟨k,0,none⟩) fun x hx=>.inl (.inl (by simpa using hx))).trans cR fun k hk=>.inl (.inr hk)).trans (de.p (F:=fun k=>k=b) fun x hx=>.inl (by simpa using hx)) fun k hk=>.inl (.inl hk)
 ·intro k hk;rcases m5 with e | e
  ·rw[e]at hk;exact .inl hk
  ·rw[e]at hk;injection hk with hk;injection hk with hk;exact .inr (by omega)
theorem VF(h:Pg G w b sl sn l)(c:UInt8)(hm:l.length+1<=140737488355328):az aq 283 #[ae (some ⟨b,0,none⟩),.int .u8 (c.toNat:Int)] w fun e w'=>
 ∃pv,e=ak .nilIface/\Pg G w' b pv sn (l++[c])/\ub b sl w pv w':=(afH _ _ _ w (XY h c hm)).mono (by
 rintro e w' ⟨v,rfl,s,rfl,h⟩;exact⟨s,rfl,h⟩)
theorem VG(h:Pg G w b sl sn l)(c:UInt8)(hm:l.length+1<=140737488355328):kx aq 283 #[ae (some ⟨b,0,none⟩),.int .u8 (c.toNat:Int)] w fun v w'=>
 ∃pv,v=.nilIface/\Pg G w' b pv sn (l++[c])/\ub b sl w pv w':=mF _ _ _ w (XY h c hm)
structure Pt (w:av) (b:Nat) (sl:Sl) (l:aH):Prop where
 blk:∃q sn:aw,aF w b 334 [q,sl.v,sn]
 len:sl.n=l.length
 some:l≠[]->∃g,sl.a=.some ⟨g,0,none⟩/\b<g/\sl.c≠0/\(∃n,w.shape? g=.some (5,n)/\l.length<=n)/\aB w ⟨g,0,none⟩ (l.map fY)
 cap:sl.a=none∨sl.c≠0
 big:l.length<=9223372036854775807
theorem Am{w w':av}{g:Nat}(h:w'.heap[g]? =w.heap[g]?):w'.shape? g=w.shape? g:=by
 unfold World.shape?;rw[h]
theorem Pt.only{w':av}(h:Pt w b sl l)(hO:ay [] w w'):Pt w' b sl l:=by
 obtain⟨⟨q,sn,h1⟩,h2,h3,h4,h5⟩:=h;refine⟨⟨q,sn,hO.blk h1 (by simp)⟩,h2,fun hl=>?_,h4,h5⟩;obtain⟨g,a1,a2,a3,⟨n,a4,a5⟩,a6⟩:=h3 hl;have hg:g<w.heap.size:=by
  refine cx fun hn=>?_;unfold World.shape? at a4;rw[eU (by omega)]at a4;cases a4
 have hk:=hO.block g hg (by simp);exact⟨g,a1,a2,a3,⟨n,(Am hk).trans a4,a5⟩,a6.keep hk⟩
theorem Pg.pt(h:Pg G w b sl sn l):Pt w b sl l:=by
 obtain⟨q,hq,hB⟩:=h.blk;refine⟨⟨_,_,hB⟩,h.buf.len,fun hl=>?_,?_,?_⟩
 ·rcases h.buf with⟨_,e⟩ | ⟨g,tail,h1,h2,h3,h4,h5,h6,h7,h8⟩
  ·exact absurd e hl
  ·have h0:l.length≠0:=fun e=>hl (cb e);refine⟨g,h1,h2,by omega,⟨_,by unfold World.shape?;unfold aF at h3;rw[h3],by simp⟩,h3.cells 0 (l.map fY) fun j v hj=>by rw[bO,bK (aV.1 hj).1];exact hj⟩
 ·rcases h.buf with⟨e,_⟩ | ⟨g,tail,h1,h2,h3,h4,h5,h6,h7,h8⟩
  ·exact .inl (by rw[e])
  ·exact .inr (by omega)
 ·rcases h.buf with⟨_,e⟩ | ⟨g,tail,h1,h2,h3,h4,h5,h6,h7⟩
  ·subst e;simp
  ·omega
end
theorem vY(w:av)(p:Addr)(n:Nat)(a:Nat):(w.freeze p n).shape? a=w.shape? a:=by
 unfold World.freeze;split
 ·rfl
 ·unfold World.shape?;simp only[kP];by_cases PD:p.block=a
  ·rw[if_pos PD];cases h:w.heap[a]? with
   | none=>rfl
   | some o=>
    cases o with
    | cells c e f=>obtain⟨lo,hi⟩:=f;rfl
    | _=>rfl
  ·rw[if_neg PD]
section
variable {w:av} {b:Nat} {sl:Sl} {l:aH}
theorem Q6(h:Pt w b sl l):az aq 175 #[ae (some ⟨b,0,none⟩)] w fun e w'=>e=ak (ab (T l))/\Pt w' b sl l/\aD (fun k=>b<k/\sl.a=some ⟨k,0,none⟩) w w':=by
 refine ret (XR _ _ _ ?_);intro w0 cD;have h0:=h.only cD;obtain⟨⟨q,sn,hB⟩,fi,Bm,mU,rK⟩:=h0;refine⟨fun k=>k=b,sl,Blk.dQ hB 1 rfl,rfl,sl,Blk.dQ hB 1 rfl,sl.a,w0,?_,fun k _ _=>rfl,?_⟩
 ·obtain⟨sa,Bn,sc⟩:=sl;cases sa with
  | none=>exact Lib.run_unsafeSliceData_nil _ _ _ _ _
  | some a=>
   rcases mU with e | e
   ·cases e
   ·exact Lib.run_unsafeSliceData_row _ _ _ _ _ _ e
 ·by_cases hl:l=[]
  ·subst hl;have hn:sl.n=0:=fi;refine⟨T [],w0,?_,fun k _ _=>rfl,rfl,⟨⟨q,sn,hB⟩,fi,Bm,mU,rK⟩,cD.p0⟩;rw[hn];exact Lib.run_unsafeString_none _ _ _ _ _
  ·obtain⟨g,ha,Ts,hc,⟨m,FB,hm⟩,uZ⟩:=Bm hl;have hF:=sE w0 ⟨g,0,none⟩ l.length;have C4:b<w0.heap.size:=hB.lt;refine⟨T l,w0.freeze ⟨g,0,none⟩ l.length,?_,fun k hk bS=>hF.block k bS (by dsimp only;omega),rfl,⟨⟨q,sn,hF.blk hB (by dsimp only;omega)⟩,fi,fun _=>⟨g,ha,Ts,hc,⟨m,(vY _ _ _ _).trans FB,hm⟩,fun j v hj=>by rw[sD];exact uZ j v hj⟩,mU,rK⟩,cD.mL (hF.mono fun k _ hk=>by dsimp only at hk;subst hk;exact⟨Ts,ha⟩)⟩;rw[ha,fi];exact Lib.run_unsafeString_row _ _ _ _ 5 (by kernel_rfl) (by kernel_rfl) g m FB l hl hm rK fun j x hj=>uZ j (fY x) (by rw[ch,hj];rfl)
end
def vh(wr:Bool)(l:aH):aH:=if wr then l++[40]else l
def XZ(wr:Bool)(l:aH):aH:=if wr then l++[41]else l
def vi:Nat->Ex->Bool->aH->aH
 | 0,_,_,l=>l
 | d+1,x,wr,l=>if 16384<l.length then l else XZ wr (
  if x.k=1 then vh wr l++Lib.itoa x.n
  else if x.k=2 then vh wr l++x.s
  else if x.k=3 then vh wr l++([105,110,40]++x.s++[41])
  else if x.k=4 then(match x.fF with
   | [y]=>vi d y (decide (gU y<6)) (vh wr l++lS x.op.toNat)
   | _=>l)
  else(match x.fF with
   | [y,z]=>vi d z (decide (gU z<=gU x)) (vi d y (decide (gU y<gU x)) (vh wr l)++([32]++lS x.op.toNat++[32]))
   | _=>l))
section
variable {x:Ex}
theorem X1{n:Int}{s:aH}{op len:Int}(h:Z8 n s op len x=true):x.n=n/\x.s=s/\x.op=op/\(x.fF.length:Int)=len:=by
 simp only[Z8,aQ,ey,bM]at h;exact⟨h.1.1.1,h.1.1.2,h.1.2,h.2⟩
theorem oX(h:lG x=true)(hk:x.k=2∨x.k=3):eM x.s=true:=by
 have h1:x.k≠1:=by omega
 rw[lG,if_neg h1,if_pos hk,aQ]at h;exact h.1
theorem Q7(h:lG x=true)(hk:x.k=4):∃y,x.fF=[y]/\(x.op=14∨x.op=15):=by
 rw[lG,if_neg (by omega),if_neg (by omega),if_pos hk]at h;obtain⟨_,_,h3,h4⟩:=X1 h;obtain⟨y,hy⟩:=List.length_eq_one_iff.1 (show x.fF.length=1 by omega);refine⟨y,hy,?_⟩;by_cases PH:x.op=15
 ·exact .inr PH
 ·rw[if_neg PH]at h3;exact .inl h3
theorem Q8(h:lG x=true)(h1:x.k≠1)(h2:x.k≠2)(h3:x.k≠3)(h4:x.k≠4):x.k=5/\∃y z,x.fF=[y,z]/\1<=x.op/\x.op<=13:=by
 rw[lG,if_neg h1,if_neg (by omega),if_neg h4]at h;split at h
 ·rename_i h5;rw[aQ]at h;obtain⟨h6,h7⟩:=h;obtain⟨_,_,_,h8⟩:=X1 h7;have h6:kV x.op≠6:=by simpa using h6
  have h2l:x.fF.length=2:=by omega
  obtain⟨y,z,hy⟩:∃y z,x.fF=[y,z]:=by
   match hm:x.fF,h2l with
   | [y,z],_=>exact⟨y,z,rfl⟩
  refine⟨h5,y,z,hy,?_⟩;unfold kV at h6;refine cx fun hn=>h6 ?_;rw[if_neg (by omega),if_neg (by omega),if_neg (by omega),if_neg (by omega),if_neg (by omega),if_neg (by omega)]
 ·cases h
theorem kc{s:aH}(h:eM s=true):s.length<=24:=by
 unfold eM at h;simp only[aQ]at h;exact(aO h.1.1.1).2
theorem pN(n:Nat):(lS n).length<=2:=by
 rcases Nat.lt_or_ge n 16 with h | h
 ·have:∀q,q<16->(lS q).length<=2:=by decide
  exact this n h
 ·unfold lS;rw[dH (by exact h)];decide
theorem LD(wr:Bool)(l:aH):(vh wr l).length<=l.length+1:=by
 unfold vh;cases wr<;>simp
theorem VH(wr:Bool)(l:aH):(XZ wr l).length<=l.length+1:=by
 unfold XZ;cases wr<;>simp
theorem qR:∀(d:Nat) {x:Ex} (wr:Bool) (l:aH),eK d x=true->rv d x->(vi d x wr l).length<=l.length+40*kZ d x
 | 0,x,wr,l,h,_=>by cases h
 | d+1,x,wr,l,h,⟨hn,hs⟩=>by
  rw[eK,aQ]at h;obtain⟨hh,ha⟩:=h;have h1:=LD wr l;rw[vi,kZ];split
  ·omega
  refine bp (VH _ _) ?_;split
  ·rw[aP];have:=Lib.itoa_length_le x.n hn.1 hn.2;omega
  ·split
   ·rename_i hk;rw[aP];have:=kc (oX hh (.inl hk));omega
   ·split
    ·rename_i hk;rw[aP,aP,aP];have:=kc (oX hh (.inr hk));simp only[bf,cz];omega
    ·split
     ·rename_i hk;obtain⟨y,hy,_⟩:=Q7 hh hk;rw[hy]at ha hs⊢;dsimp only;simp only[oy,kM,nD]at ha⊢;have:=qR d (decide (gU y<6)) (vh wr l++lS x.op.toNat) ha (hs y (by simp));rw[aP]at this;have:=pN x.op.toNat;omega
     ·rename_i k1 k2 k3 k4;obtain⟨hk,y,z,hy,_⟩:=Q8 hh k1 k2 k3 k4;rw[hy]at ha hs⊢;dsimp only;simp only[oy,kM,nD,aQ]at ha⊢;have a1:=qR d (decide (gU y<gU x)) (vh wr l) ha.1 (hs y (by simp));have a2:=qR d (decide (gU z<=gU x)) (vi d y (decide (gU y<gU x)) (vh wr l)++([32]++lS x.op.toNat++[32])) ha.2 (hs z (by simp));rw[aP,aP,aP]at a2;have:=pN x.op.toNat;simp only[bf,cz]at a2;omega
end
structure Pz (d:Nat) (F G:aJ) (k0 b:Nat) (sub sn:Sl) (subs:List Ex) (w:av) (sl:Sl) (l:aH):Prop where
 pg:Pg G w b sl sn l
 tb:Tb w
 own:k0≠b/\sl.a≠some ⟨k0,0,none⟩/\k0<w.heap.size
 sb:aA (xf d) 6 w F sub subs
 hF:∀k,F k->k<b
 hT:2<b
section
variable {d:Nat} {F G:aJ} {k0 b:Nat} {sx sn sl pv:Sl} {subs:List Ex} {w w' tV:av} {l l':aH}
theorem Pg.out(h:Pg G w b sl sn l){k:Nat}(hk:k<b):¬(k=b∨sl.a=some ⟨k,0,none⟩):=by
 rintro(e | e)
 ·omega
 ·have:=(h.buf.lt e).1;omega
theorem Pz.only(h:Pz d F G k0 b sx sn subs w sl l)(hO:ay [] w w'):Pz d F G k0 b sx sn subs w' sl l:=by
 have z:=hO.size;exact⟨h.pg.only hO,h.tb.only hO,⟨h.own.1,h.own.2.1,by have:=h.own.2.2;omega⟩,SliceF.only (jW d) (by decide) h.sb hO (by simp),h.hF,h.hT⟩
theorem Pz.mv(h:Pz d F G k0 b sx sn subs w sl l)(hp:Pg G w' b pv sn l')(hm:ub b sl w pv w'):Pz d F G k0 b sx sn subs w' pv l'/\bU [k0] w w'/\bP (fun k=>k<b∨k=k0) w w':=by
 have z:=hm.1.size;obtain⟨o1,o2,o3⟩:=h.own;refine⟨⟨hp,h.tb.keep fun bS=>hm.1.block _ bS (h.pg.out h.hT),⟨o1,fun e=>?_,by omega⟩,SliceF.jV (jW d) (by decide) h.sb hm.1 fun k hk _=>h.pg.out (h.hF k hk),h.hF,h.hT⟩,hm.same o1 o2 o3,fun k hk bS=>hm.1.block k bS ?_⟩
 ·rcases hm.2 k0 e with e | e
  ·exact o2 e
  ·omega
 ·rcases hk with hk | rfl
  ·exact h.pg.out hk
  ·rintro(e | e)
   ·exact o1 e
   ·exact o2 e
theorem ub.after(h:ub b sl w' pv tV)(hO:ay [] w w'):ub b sl w pv tV:=(ub.only hO).trans h
theorem Pz.same(h:Pz d F G k0 b sx sn subs w sl l)(hO:ay [] w w'):bU [k0] w w':=hO.same (by have:=h.own.2.2;simp;omega)
theorem Pz.sig(h:Pz d F G k0 b sx sn subs w sl l){op:Int}(h0:0<=op)(h1:op<16):∃ad,cW sn op 1 ad/\aB w ad [ab (T (lS op.toNat))]:=by
 have hn:=h.pg.sig.len;have hol:BK.length=16:=rfl;obtain⟨ad,x,cs,g1,g2,g3,g4,g5,g6⟩:=h.pg.sig.get h0 (by omega);unfold ju at g6;subst g6;have hx:lS op.toNat=x:=by unfold lS;rw[g2];rfl
 subst hx;exact⟨ad,g1,g5⟩
theorem Pz.sub(h:Pz d F G k0 b sx sn subs w sl l){i:Nat}{y:Ex}(hy:subs[i]? =some y):∃ad sy,cW sx (i:Int) 6 ad/\ad.block<b/\aB w ad (qQ y.k y.n y.s y.op sy y.a)/\xf d w F y (qQ y.k y.n y.s y.op sy y.a):=by
 have hn:=h.sb.len;have bS:=(aV.1 hy).1;obtain⟨ad,x,cs,g1,g2,g3,g4,g5,g6⟩:=h.sb.get (bA i) (by omega);rw[aY,hy]at g2;injection g2 with g2;subst g2;obtain⟨sy,rfl⟩:=tJ g6;exact⟨ad,sy,g1,h.hF _ g3,g5,g6⟩
end
abbrev PgC(d:Nat):Prop:=∀{G F:aJ} {w:av} {b:Nat} {sl sn:Sl} {l:aH} {x:Ex} {cs:aI} (wr:Bool),eK d x=true->rv d x->xf d w F x cs->(∀k,F k->k<b)->Tb w->2<b->Pg G w b sl sn l->l.length+40*kZ d x<=70368744177664->
 az aq 265 #[ae (some ⟨b,0,none⟩),ah cs.toArray,aj wr] w fun e w'=>∃pv,e=ak (ai #[])/\Pg G w' b pv sn (vi d x wr l)/\ub b sl w pv w'
theorem inb(s:aH):ao #[105,110,40]++T s++ao #[41]=T ([105,110,40]++s++[41]):=by
 rw[show ao #[105,110,40]=T [105,110,40]from rfl,show ao #[41]=T [41]from rfl,lD,lD]
theorem blb(s:aH):ao #[32]++T s++ao #[32]=T ([32]++s++[32]):=by
 rw[show ao #[32]=T [32]from rfl,lD,lD]
theorem inz(c:aK)(s:aH):(c++T s).size=c.size+s.length:=by
 rw[show c=T c.data.toList from yu c,lD,dI,dI,aP]
theorem kx.mono{P:Program}{f:FuncId}{a:Array aw}{w:av}{Q Q':aG}(h:kx P f a w Q)(hq:∀v w',Q v w'->Q' v w'):kx P f a w Q':=fun c cs hc=>by
 obtain⟨e,u',w',fr,⟨h1,v,h2,h3⟩,h4⟩:=h c cs hc;exact⟨e,u',w',fr,⟨h1,v,h2,hq _ _ h3⟩,h4⟩
theorem uO:∀d,PgC d
 | 0,_,_,_,_,_,_,_,_,_,_,_,_,h,_,_,_,_,_=>h.elim
 | d+1,G,F,w,b,sl,sG,l,x,cs,wr,FB,⟨hni,YY⟩,⟨xs,h1,h2⟩,hF,hT,Ty,hP,fi=>by
  subst h1;refine(als ⟨b,0,none⟩ x.k x.n (T x.s) x.op xs x.a wr (fun v w'=>∃pv,v=ai #[]/\Pg G w' b pv sG (vi (d+1) x wr l)/\ub b sl w pv w') w ?_).mono (by
   rintro e w' ⟨v,rfl,s,rfl,h⟩;exact⟨s,rfl,h⟩)
  have hx:xf (d+1) w F x (qQ x.k x.n x.s x.op xs x.a):=⟨xs,rfl,h2⟩
  rw[eK,aQ]at FB;obtain⟨hh,ha⟩:=FB;rw[kZ]at fi;intro k0 w0 gu fe cD;have hb:=hP.lb;have WK:Pz d F G k0 b xs sG x.fF w0 sl l:=⟨hP.only cD,hT.only cD,⟨by omega,fun e=>by have:=(hP.buf.lt e).2;omega,fe⟩,SliceF.only (jW d) (by decide) h2 cD (by simp),hF,Ty⟩
  refine(aaa WK.pg).mono ?_;rintro _ w1 ⟨rfl,rfl⟩;refine⟨_,rfl,fun _ _=>rfl,fun hc=>⟨sl,rfl,?_,(ub.only cD)⟩,fun hc=>?_⟩
  ·rw[vi,if_pos (by have:=aO hc;omega)];exact WK.pg
  have hc:¬16384<l.length:=by have:=aR hc;omega
  have PI:vi (d+1) x wr l=XZ wr (
  if x.k=1 then vh wr l++Lib.itoa x.n
  else if x.k=2 then vh wr l++x.s
  else if x.k=3 then vh wr l++([105,110,40]++x.s++[41])
  else if x.k=4 then(match x.fF with
   | [y]=>vi d y (decide (gU y<6)) (vh wr l++lS x.op.toNat)
   | _=>l)
  else(match x.fF with
   | [y,z]=>vi d z (decide (gU z<=gU x)) (vi d y (decide (gU y<gU x)) (vh wr l)++([32]++lS x.op.toNat++[32]))
   | _=>l)):=by rw[vi,if_neg hc]
  have hol:=LD wr l;refine⟨fun hw=>(VF WK.pg 40 (by omega)).mono ?_,fun hw=>?_⟩
  ·rintro _ w2 ⟨sl2,rfl,hp2,Nj⟩;obtain⟨C8,hs2,_⟩:=WK.mv hp2 Nj;have abQ:l++[40]=vh wr l:=by unfold vh;rw[if_pos hw]
   rw[abQ]at C8;refine⟨⟨.nilIface,rfl⟩,rfl,hs2,?_⟩;have fin:∀{Nq:Sl} {w5:av} {m:aH},Pz d F G k0 b xs sG x.fF w5 Nq m->ub b sl2 w2 Nq w5->vi (d+1) x wr l=XZ wr m->m.length<=l.length+40*(1+nD (kZ d) x.fF)->kx aq 283 #[ae (some ((⟨b,0,none⟩:Addr).add 0)),.int .u8 41] w5 fun _ w'=>∃pv,(Value.tuple #[])=ai #[]/\Pg G w' b pv sG (vi (d+1) x wr l)/\ub b sl w pv w':=by
    intro Nq w5 m Kn BT he Bx;have hd:=VG Kn.pg 41 (by omega);refine kx.mono hd ?_;rintro v w' ⟨pv,hv,hp',Tz⟩;refine⟨pv,rfl,?_,((Nj.after cD).trans BT).trans Tz⟩;rw[he];unfold XZ;rw[if_pos hw];exact hp'
   refine⟨fun hk w3 de=>?_,fun k1=>⟨fun hk w7 fE=>?_,fun k2=>⟨fun hk=>⟨?_,?_,fun du dM=>?_⟩,fun k3=>⟨fun hk fb eH=>?_,fun k4=>(oJ (show xf (d+1) _ F x (qQ x.k x.n x.s x.op xs x.a)from⟨xs,rfl,C8.sb⟩)).mono ?_⟩⟩⟩⟩
   ·have hk:x.k=1:=by simpa using hk
    have hz3:=C8.only de;refine(yR x.n hni hz3.tb).mono ?_;rintro _ w4 ⟨rfl,dL⟩;have hz4:=hz3.only dL;have hl:=Lib.itoa_length_le x.n hni.1 hni.2;refine⟨_,rfl,hz3.same dL,(oW hz4.pg (Lib.itoa x.n) (by omega)).mono ?_⟩;rintro _ w5 ⟨Nq,rfl,TA,BT⟩;obtain⟨Kn,Nr,_⟩:=hz4.mv TA BT;exact⟨_,⟨.nilIface,rfl⟩,rfl,Nr,fin Kn ((BT.after dL).after de) (by rw[PI,if_pos hk]) (by rw[aP];omega)⟩
   ·have hk:x.k=2:=by simpa using hk
    have k1:x.k≠1:=by omega
    have hz7:=C8.only fE;have hl:=kc (oX hh (.inl hk));refine(oW hz7.pg x.s (by omega)).mono ?_;rintro _ w8 ⟨Nq,rfl,TA,BT⟩;obtain⟨Kn,Nr,_⟩:=hz7.mv TA BT;exact⟨_,⟨.nilIface,rfl⟩,rfl,Nr,fin Kn (BT.after fE) (by rw[PI,if_neg k1,if_pos hk]) (by rw[aP];omega)⟩
   ·have hk:x.k=3:=by simpa using hk
    have hl:=kc (oX hh (.inr hk));rw[dI];omega
   ·have hk:x.k=3:=by simpa using hk
    have hl:=kc (oX hh (.inr hk));rw[inz];have:(ao #[105,110,40]).size=3:=rfl;omega
   ·have hk:x.k=3:=by simpa using hk
    have hl:=kc (oX hh (.inr hk));have TB:=C8.only dM;have Ka:([105,110,40]++x.s++[41]:aH).length=x.s.length+4:=by
     rw[aP,aP];simp only[bf,cz];omega
    rw[inb];refine(oW TB.pg _ (by omega)).mono ?_;rintro _ dC ⟨Nq,rfl,TA,BT⟩;obtain⟨Kn,Nr,_⟩:=TB.mv TA BT;exact⟨_,⟨.nilIface,rfl⟩,rfl,Nr,fin Kn (BT.after dM) (by rw[PI,if_neg (by omega),if_neg (by omega),if_pos hk]) (by rw[aP];omega)⟩
   ·have hk:x.k=4:=by simpa using hk
    obtain⟨y,hy,E8⟩:=Q7 hh hk;have abT:nD (kZ d) x.fF=kZ d y:=by rw[hy];simp[nD]
    have hay:eK d y=true:=by rw[hy]at ha;simpa[oy]using ha
    have TC:rv d y:=YY y (by rw[hy];simp);have abU:=pN x.op.toNat;have Fa:=C8.only eH;obtain⟨q,hq,hB⟩:=Fa.pg.blk;obtain⟨ad,g1,g2⟩:=Fa.sig (op:=x.op) (by omega) (by omega);refine⟨sG,Blk.dQ hB 2 rfl,ad,g1,_,g2,(oW Fa.pg (lS x.op.toNat) (by omega)).mono ?_⟩;rintro _ fk ⟨anV,rfl,abV,TD⟩;obtain⟨abW,abX,_⟩:=Fa.mv abV TD;refine⟨_,⟨.nilIface,rfl⟩,rfl,abX,fun fZ gL=>?_⟩;have Ko:=abW.only gL;obtain⟨p1,sy,e1,e2,e3,e4⟩:=Ko.sub (i:=0) (y:=y) (by rw[hy];rfl);refine⟨fun k=>k<b∨k=k0,.inr rfl,p1,e1,.inl e2,_,_,_,_,_,_,e3,p1,e1,_,_,_,_,_,_,e3,(oJ e4).mono ?_⟩;rintro _ gI ⟨rfl,iR⟩;have Kp:=Ko.only iR;have YZ:=qR d (decide (gU y<6)) (vh wr l++lS x.op.toNat) hay TC;rw[aP]at YZ;refine⟨_,rfl,Ko.same iR,bP.only iR,(uO d (decide (gU y<6)) hay TC (kY e4 iR) hF Kp.tb Ty Kp.pg (by rw[aP];omega)).mono ?_⟩;rintro _ gf ⟨anW,rfl,abY,TE⟩;obtain⟨abZ,ab0,W6⟩:=Kp.mv abY TE;exact⟨rfl,ab0,W6,fin abZ ((TD.after eH).trans ((TE.after iR).after gL)) (by rw[PI,if_neg (by omega),if_neg (by omega),if_neg (by omega),if_pos hk,hy]) (by omega)⟩
   ·rintro _ jA ⟨rfl,j6⟩;have k1:x.k≠1:=by simpa using k1
    have k2:x.k≠2:=by simpa using k2
    have k3:x.k≠3:=by simpa using k3
    have k4:x.k≠4:=by simpa using k4
    obtain⟨hk,y,z,hy,ho1,ho2⟩:=Q8 hh k1 k2 k3 k4;have abT:nD (kZ d) x.fF=kZ d y+kZ d z:=by rw[hy];simp[nD]
    have Fb:eK d y=true/\eK d z=true:=by rw[hy]at ha;simpa[oy]using ha
    have TC:rv d y:=YY y (by rw[hy];simp);have hnz:rv d z:=YY z (by rw[hy];simp);have abU:=pN x.op.toNat;have ab2:=C8.only j6;refine⟨_,rfl,C8.same j6,fun iW nJ=>?_⟩;have Kq:=ab2.only nJ;obtain⟨p1,sy,e1,e2,e3,e4⟩:=Kq.sub (i:=0) (y:=y) (by rw[hy];rfl);refine⟨fun k=>k<b∨k=k0,.inr rfl,p1,e1,.inl e2,_,_,_,_,_,_,e3,p1,e1,_,_,_,_,_,_,e3,(oJ e4).mono ?_⟩;rintro _ lu ⟨rfl,kE⟩;have Kr:=Kq.only kE;have YZ:=qR d (decide (gU y<gU x)) (vh wr l) Fb.1 TC;refine⟨_,rfl,Kq.same kE,bP.only kE,(uO d (decide (gU y<gU x)) Fb.1 TC (kY e4 kE) hF Kr.tb Ty Kr.pg (by omega)).mono ?_⟩;rintro _ oT ⟨anX,rfl,ab3,TF⟩;obtain⟨ab4,ab5,ab6⟩:=Kr.mv ab3 TF;refine⟨rfl,ab5,ab6,fun om qo=>?_⟩;have Fc:=ab4.only qo;obtain⟨q,hq,hB⟩:=Fc.pg.blk;obtain⟨ad,g1,g2⟩:=Fc.sig (op:=x.op) (by omega) (by omega);have Ka:([32]++lS x.op.toNat++[32]:aH).length=(lS x.op.toNat).length+2:=by
     rw[aP,aP];simp only[bf,cz];omega
    have zh:(ao #[32]).size=1:=rfl;refine⟨sG,Blk.dQ hB 2 rfl,ad,g1,_,g2,by rw[dI];omega,by rw[inz];omega,?_⟩;rw[blb];refine(oW Fc.pg _ (by omega)).mono ?_;rintro _ oU ⟨anZ,rfl,ab7,TG⟩;obtain⟨ab8,ab9,_⟩:=Fc.mv ab7 TG;refine⟨_,⟨.nilIface,rfl⟩,rfl,ab9,fun mM tu=>?_⟩;have Ks:=ab8.only tu;obtain⟨p2,sz,f1,f2,f3,f4⟩:=Ks.sub (i:=1) (y:=z) (by rw[hy];rfl);refine⟨fun k=>k<b∨k=k0,.inr rfl,p2,f1,.inl f2,_,_,_,_,_,_,f3,p2,f1,_,_,_,_,_,_,f3,(oJ f4).mono ?_⟩;rintro _ oo ⟨rfl,iO⟩;have Ku:=Ks.only iO;have aca:=qR d (decide (gU z<=gU x)) (vi d y (decide (gU y<gU x)) (vh wr l)++([32]++lS x.op.toNat++[32])) Fb.2 hnz;rw[aP,Ka]at aca;refine⟨_,rfl,Ks.same iO,bP.only iO,(uO d (decide (gU z<=gU x)) Fb.2 hnz (kY f4 iO) hF Ku.tb Ty Ku.pg (by rw[aP,Ka];omega)).mono ?_⟩;rintro _ rP ⟨an0,rfl,acb,TH⟩;obtain⟨acd,ace,acf⟩:=Ku.mv acb TH;exact⟨rfl,ace,acf,fin acd (((TF.after kE).after nJ).after j6 |>.trans ((TG.after qo).trans ((TH.after iO).after tu))) (by rw[PI,if_neg k1,if_neg k2,if_neg k3,if_neg k4,hy]) (by omega)⟩
  ·have abQ:l=vh wr l:=by unfold vh;rw[hw];rfl
   have C8:Pz d F G k0 b xs sG x.fF w1 sl (vh wr l):=by rw[<-abQ];exact WK
   have fin:∀{Nq:Sl} {w5:av} {m:aH},Pz d F G k0 b xs sG x.fF w5 Nq m->ub b sl w1 Nq w5->vi (d+1) x wr l=XZ wr m->m.length<=l.length+40*(1+nD (kZ d) x.fF)->∃pv,(Value.tuple #[])=ai #[]/\Pg G w5 b pv sG (vi (d+1) x wr l)/\ub b sl w pv w5:=by
    intro Nq w5 m Kn BT he Bx;refine⟨Nq,rfl,?_,BT.after cD⟩;rw[he];unfold XZ;rw[hw];exact Kn.pg
   refine⟨fun hk w3 de=>?_,fun k1=>⟨fun hk w7 fE=>?_,fun k2=>⟨fun hk=>⟨?_,?_,fun du dM=>?_⟩,fun k3=>⟨fun hk fb eH=>?_,fun k4=>(oJ (show xf (d+1) _ F x (qQ x.k x.n x.s x.op xs x.a)from⟨xs,rfl,C8.sb⟩)).mono ?_⟩⟩⟩⟩
   ·have hk:x.k=1:=by simpa using hk
    have hz3:=C8.only de;refine(yR x.n hni hz3.tb).mono ?_;rintro _ w4 ⟨rfl,dL⟩;have hz4:=hz3.only dL;have hl:=Lib.itoa_length_le x.n hni.1 hni.2;refine⟨_,rfl,hz3.same dL,(oW hz4.pg (Lib.itoa x.n) (by omega)).mono ?_⟩;rintro _ w5 ⟨Nq,rfl,TA,BT⟩;obtain⟨Kn,Nr,_⟩:=hz4.mv TA BT;exact⟨_,⟨.nilIface,rfl⟩,rfl,Nr,fin Kn ((BT.after dL).after de) (by rw[PI,if_pos hk]) (by rw[aP];omega)⟩
   ·have hk:x.k=2:=by simpa using hk
    have k1:x.k≠1:=by omega
    have hz7:=C8.only fE;have hl:=kc (oX hh (.inl hk));refine(oW hz7.pg x.s (by omega)).mono ?_;rintro _ w8 ⟨Nq,rfl,TA,BT⟩;obtain⟨Kn,Nr,_⟩:=hz7.mv TA BT;exact⟨_,⟨.nilIface,rfl⟩,rfl,Nr,fin Kn (BT.after fE) (by rw[PI,if_neg k1,if_pos hk]) (by rw[aP];omega)⟩
   ·have hk:x.k=3:=by simpa using hk
    have hl:=kc (oX hh (.inr hk));rw[dI];omega
   ·have hk:x.k=3:=by simpa using hk
    have hl:=kc (oX hh (.inr hk));rw[inz];have:(ao #[105,110,40]).size=3:=rfl;omega
   ·have hk:x.k=3:=by simpa using hk
    have hl:=kc (oX hh (.inr hk));have TB:=C8.only dM;have Ka:([105,110,40]++x.s++[41]:aH).length=x.s.length+4:=by
     rw[aP,aP];simp only[bf,cz];omega
    rw[inb];refine(oW TB.pg _ (by omega)).mono ?_;rintro _ dC ⟨Nq,rfl,TA,BT⟩;obtain⟨Kn,Nr,_⟩:=TB.mv TA BT;exact⟨_,⟨.nilIface,rfl⟩,rfl,Nr,fin Kn (BT.after dM) (by rw[PI,if_neg (by omega),if_neg (by omega),if_pos hk]) (by rw[aP];omega)⟩
   ·have hk:x.k=4:=by simpa using hk
    obtain⟨y,hy,E8⟩:=Q7 hh hk;have abT:nD (kZ d) x.fF=kZ d y:=by rw[hy];simp[nD]
    have hay:eK d y=true:=by rw[hy]at ha;simpa[oy]using ha
    have TC:rv d y:=YY y (by rw[hy];simp);have abU:=pN x.op.toNat;have Fa:=C8.only eH;obtain⟨q,hq,hB⟩:=Fa.pg.blk;obtain⟨ad,g1,g2⟩:=Fa.sig (op:=x.op) (by omega) (by omega);refine⟨sG,Blk.dQ hB 2 rfl,ad,g1,_,g2,(oW Fa.pg (lS x.op.toNat) (by omega)).mono ?_⟩;rintro _ fk ⟨anV,rfl,abV,TD⟩;obtain⟨abW,abX,_⟩:=Fa.mv abV TD;refine⟨_,⟨.nilIface,rfl⟩,rfl,abX,fun fZ gL=>?_⟩;have Ko:=abW.only gL;obtain⟨p1,sy,e1,e2,e3,e4⟩:=Ko.sub (i:=0) (y:=y) (by rw[hy];rfl);refine⟨fun k=>k<b∨k=k0,.inr rfl,p1,e1,.inl e2,_,_,_,_,_,_,e3,p1,e1,_,_,_,_,_,_,e3,(oJ e4).mono ?_⟩;rintro _ gI ⟨rfl,iR⟩;have Kp:=Ko.only iR;have YZ:=qR d (decide (gU y<6)) (vh wr l++lS x.op.toNat) hay TC;rw[aP]at YZ;refine⟨_,rfl,Ko.same iR,bP.only iR,(uO d (decide (gU y<6)) hay TC (kY e4 iR) hF Kp.tb Ty Kp.pg (by rw[aP];omega)).mono ?_⟩;rintro _ gf ⟨anW,rfl,abY,TE⟩;obtain⟨abZ,ab0,W6⟩:=Kp.mv abY TE;exact⟨rfl,ab0,W6,fin abZ ((TD.after eH).trans ((TE.after iR).after gL)) (by rw[PI,if_neg (by omega),if_neg (by omega),if_neg (by omega),if_pos hk,hy]) (by omega)⟩
   ·rintro _ jA ⟨rfl,j6⟩;have k1:x.k≠1:=by simpa using k1
    have k2:x.k≠2:=by simpa using k2
    have k3:x.k≠3:=by simpa using k3
    have k4:x.k≠4:=by simpa using k4
    obtain⟨hk,y,z,hy,ho1,ho2⟩:=Q8 hh k1 k2 k3 k4;have abT:nD (kZ d) x.fF=kZ d y+kZ d z:=by rw[hy];simp[nD]
    have Fb:eK d y=true/\eK d z=true:=by rw[hy]at ha;simpa[oy]using ha
    have TC:rv d y:=YY y (by rw[hy];simp);have hnz:rv d z:=YY z (by rw[hy];simp);have abU:=pN x.op.toNat;have ab2:=C8.only j6;refine⟨_,rfl,C8.same j6,fun iW nJ=>?_⟩;have Kq:=ab2.only nJ;obtain⟨p1,sy,e1,e2,e3,e4⟩:=Kq.sub (i:=0) (y:=y) (by rw[hy];rfl);refine⟨fun k=>k<b∨k=k0,.inr rfl,p1,e1,.inl e2,_,_,_,_,_,_,e3,p1,e1,_,_,_,_,_,_,e3,(oJ e4).mono ?_⟩;rintro _ lu ⟨rfl,kE⟩;have Kr:=Kq.only kE;have YZ:=qR d (decide (gU y<gU x)) (vh wr l) Fb.1 TC;refine⟨_,rfl,Kq.same kE,bP.only kE,(uO d (decide (gU y<gU x)) Fb.1 TC (kY e4 kE) hF Kr.tb Ty Kr.pg (by omega)).mono ?_⟩;rintro _ oT ⟨anX,rfl,ab3,TF⟩;obtain⟨ab4,ab5,ab6⟩:=Kr.mv ab3 TF;refine⟨rfl,ab5,ab6,fun om qo=>?_⟩;have Fc:=ab4.only qo;obtain⟨q,hq,hB⟩:=Fc.pg.blk;obtain⟨ad,g1,g2⟩:=Fc.sig (op:=x.op) (by omega) (by omega);have Ka:([32]++lS x.op.toNat++[32]:aH).length=(lS x.op.toNat).length+2:=by
     rw[aP,aP];simp only[bf,cz];omega
    have zh:(ao #[32]).size=1:=rfl;refine⟨sG,Blk.dQ hB 2 rfl,ad,g1,_,g2,by rw[dI];omega,by rw[inz];omega,?_⟩;rw[blb];refine(oW Fc.pg _ (by omega)).mono ?_;rintro _ oU ⟨anZ,rfl,ab7,TG⟩;obtain⟨ab8,ab9,_⟩:=Fc.mv ab7 TG;refine⟨_,⟨.nilIface,rfl⟩,rfl,ab9,fun mM tu=>?_⟩;have Ks:=ab8.only tu;obtain⟨p2,sz,f1,f2,f3,f4⟩:=Ks.sub (i:=1) (y:=z) (by rw[hy];rfl);refine⟨fun k=>k<b∨k=k0,.inr rfl,p2,f1,.inl f2,_,_,_,_,_,_,f3,p2,f1,_,_,_,_,_,_,f3,(oJ f4).mono ?_⟩;rintro _ oo ⟨rfl,iO⟩;have Ku:=Ks.only iO;have aca:=qR d (decide (gU z<=gU x)) (vi d y (decide (gU y<gU x)) (vh wr l)++([32]++lS x.op.toNat++[32])) Fb.2 hnz;rw[aP,Ka]at aca;refine⟨_,rfl,Ks.same iO,bP.only iO,(uO d (decide (gU z<=gU x)) Fb.2 hnz (kY f4 iO) hF Ku.tb Ty Ku.pg (by rw[aP,Ka];omega)).mono ?_⟩;rintro _ rP ⟨an0,rfl,acb,TH⟩;obtain⟨acd,ace,acf⟩:=Ku.mv acb TH;exact⟨rfl,ace,acf,fin acd (((TF.after kE).after nJ).after j6 |>.trans ((TG.after qo).trans ((TH.after iO).after tu))) (by rw[PI,if_neg k1,if_neg k2,if_neg k3,if_neg k4,hy]) (by omega)⟩
def uu(d:Nat)(x:Ex):aH:=if eK d x=true then(if(oI (vi d x false [])).2.1≠0 then[]else vi d x false [])else[]
theorem aab{d:Nat}{w:av}{F:aJ}{x:Ex}{cs:aI}(hx:xf d w F x cs)(hl:Al d x)(hn:rv d x)(hE:Er w)(hT:Tb w)(hc:40*kZ d x<=70368744177664):
  az aq 247 #[ah cs.toArray] w fun e w'=>e=ak (ab (T (uu d x)))/\ay [] w w':=by
 obtain⟨xs,rfl⟩:=tJ hx;refine ret (alp _ _ _ _ _ _ _ _ ?_);intro k0 w0 gu fe cD;have hxi:=(jW d).inHeap hx;refine(Lz d hl (kY hx cD)).mono ?_;rintro _ w1 ⟨rfl,cr⟩;have z0:=cD.size;have z1:=cr.size;have jz:=cD.cf cr;refine⟨_,rfl,cr.same (by simp;omega),fun hs=>?_,fun hs=>(XV w1).mono ?_⟩
 ·have hs:eK d x=false:=by simpa using hs
  rw[uu,if_neg (by rw[hs];decide)];exact⟨rfl,jz⟩
 have hs:eK d x=true:=by simpa using hs
 rw[uu,if_pos hs];rintro _ w2 ⟨l0,rfl,Uo,cR⟩;have z2:=cR.size;refine⟨l0,rfl,cR.same (by simp;omega),fun k1 w3 j5 iX de wO=>?_⟩;have z3:=de.size;have Bh:ay [] w w3:=(jz.cf cR).cf de;have PI:Pg (fun k=>w1.heap.size<=k/\k<w2.heap.size) w3 k1 Sl.nil l0 []:=⟨⟨none,.inl rfl,wO⟩,.inl ⟨rfl,rfl⟩,SliceF.only cP (by decide) Uo de (by simp),fun k hk=>by have:=hk.2;omega⟩
 have hT3:=hT.only Bh;have BR:=hT.lt;refine(uO d false hs hn (kY hxi Bh) (fun k hk=>by have:=hk.2;omega) hT3 (by omega) PI (by rw[cz];omega)).mono ?_;rintro _ w4 ⟨sl4,rfl,hp4,hm4⟩;have z4:=hm4.1.size;have dL:ay [] w w4:=(Bh.mL hm4.1).only fun k hk=>by
  rcases hk with rfl | e
  ·omega
  ·cases e
 obtain⟨q,hq,uh⟩:=hp4.blk;refine⟨rfl,hm4.same (by omega) (fun e=>by cases e) (by omega),q,sl4,l0,uh,(Q6 hp4.pt).mono ?_⟩;rintro _ w5 ⟨rfl,ht5,eP⟩;have z5:=eP.size;have u7:=eP.blk uh (by omega);have yJ:ay [] w w5:=(dL.mL eP).only fun k hk=>by have:=hk.1;omega
 refine⟨_,rfl,eP.same (by simp;omega),q,sl4,l0,u7,(Z7 _ (hE.only yJ)).mono ?_⟩;rintro _ w6 ⟨cs,rfl,hX,eB⟩;have z6:=eB.size;obtain⟨xl,rfl,_⟩:=hX.cells;have Tx:=eB.blk u7 (by simp);have ahy:=yJ.cf eB;refine⟨_,_,_,_,_,_,_,_,rfl,eB.same (by simp;omega),q,sl4,l0,Tx,fun hr k2 k3 w7 _ _ _ _ fE _=>?_,fun hr k4 k5 w8 Bl E9 C7 H2 fy vt=>?_⟩
 ·rw[if_pos (by simpa using hr)];exact⟨rfl,ahy.cf fE⟩
 ·have z8:=fy.size;refine(Q6 ((ht5.only eB).only fy)).mono ?_;rintro _ w9 ⟨rfl,ht9,fQ⟩;rw[if_neg (by simpa using hr)];have ik:∀k,sl4.a=some ⟨k,0,none⟩->k<w4.heap.size:=fun k hk=>(hp4.buf.lt hk).2;refine⟨_,rfl,fQ.same fun k hk=>?_,q,sl4,l0,fQ.blk vt (by omega),rfl,((ahy.cf fy).mL fQ).only fun k hk=>by have:=hk.1;omega⟩;simp only[aU,ba,bW]at hk;rcases hk with rfl | rfl | rfl
  ·exact⟨by omega,fun h=>by have:=h.1;omega⟩
  ·exact⟨E9,fun h=>by have:=ik _ h.2;omega⟩
  ·exact⟨H2,fun h=>by have:=ik _ h.2;omega⟩
theorem VI{ts:List Tk}{i:Nat}{e:Int×Int}(h:VD ts i=.error e):e.1≠0:=by
 unfold VD at h;split at h
 ·split at h
  ·split at h
   ·cases h
   ·injection h with h;subst h;exact iH
  ·injection h with h;subst h;exact iH
 ·injection h with h;subst h;exact iH
theorem GH{r:Pr}{g:Ex->Nat->Pr}{e:Int×Int}(h:NS r g=.error e):r=.error e∨∃x j,r=.ok (x,j)/\g x j=.error e:=by
 cases r with
 | error e'=>exact .inl h
 | ok p=>exact .inr ⟨p.1,p.2,rfl,h⟩
theorem Cp{d:Nat}{a:Int}{r:Pr}{e:Int×Int}(h:ru d a r=.error e):r=.error e∨e.1=21:=by
 unfold ru at h;split at h
 ·injection h with h;subst h;exact .inr rfl
 ·exact .inl h
theorem Cq{ts:List Tk}{E:Nat->Pr}{k:Int}{e:Int×Int}(hE:∀i,E i=.error e->e.1≠0):∀(g:Nat) (x:Ex) (j:Nat),ni ts E k g x j=.error e->e.1≠0
 | 0,x,j,h=>by cases h
 | g+1,x,j,h=>by
  rw[ni]at h;split at h
  ·cases h
  ·rcases GH h with h1 | ⟨y,m,h1,h2⟩
   ·exact hE _ h1
   ·exact Cq hE g _ _ h2
theorem pO{ts:List Tk}{e:Int×Int}:∀(f k d i:Nat),fI ts f k d i=.error e->e.1≠0
 | 0,k,d,i,h=>by
  rw[fI]at h;injection h with h;subst h;decide
 | f+1,k,d,i,h=>by
  rw[fI]at h;split at h
  ·unfold DS at h;split at h
   ·generalize hn:ru d (tk ts i).a (fI ts f 6 (d+1) (i+1))=r at h;cases r with
    | ok q=>cases h
    | error e'=>
     simp only[VC]at h;injection h with h;subst h;rcases Cp hn with h1 | h1
     ·exact pO f _ _ _ h1
     ·rw[h1];decide
   ·split at h
    ·rcases Cp h with h1 | h1
     ·cases hr:fI ts f 0 (d+1) (i+1)with
      | error e'=>
       rw[hr]at h1;simp only[BL]at h1;injection h1 with h1;subst h1;exact pO f _ _ _ hr
      | ok q=>
       rw[hr]at h1;simp only[BL]at h1;split at h1
       ·cases h1
       ·injection h1 with h1;subst h1;exact iH
     ·rw[h1];decide
    ·split at h
     ·cases h
     ·split at h
      ·cases h
      ·split at h
       ·exact VI h
       ·injection h with h;subst h;exact iH
  ·rcases GH h with h1 | ⟨y,m,h1,h2⟩
   ·exact pO f _ _ _ h1
   ·exact Cq (fun i hi=>pO f _ _ _ hi) _ _ _ h2
structure Ac where
 k:Int
 n:aH
 x:Ex
 a:Int
structure Mv where
 k:Int
 ev:aH
 wt:Int
 gd:Bool
 g:Ex
 acts:List Ac
 tg:List (aH)
 a:Int
structure Nb where
 k:Int
 nm:aH
 ini:aH
 dft:aH
 en:List Ac
 lv:List Ac
 mv:List Mv
 a:Int
inductive Nd where
 | mk (b:Nb) (kids:List Nd)
def Nd.b:Nd->Nb | .mk b _=>b
def Nd.kids:Nd->List Nd | .mk _ l=>l
structure Vr where
 n:aH
 v:Int
 a:Int
structure Ch where
 vars:List Vr
 root:Nd
def nb0:Nb:=⟨0,[],[],[],[],[],[],0⟩
def NY:Nd:=.mk nb0 []
def ch0:Ch:=⟨[],NY⟩
def tkZ:Tk:=⟨0,[],0,0⟩
structure Sx where
 i:Nat
 fc:Int
 fa:Int
 v:Int
 n:Int
 d:Int
 m:Int
 a:Int
section
variable (ts:List Tk)
def gP(s:Sx)(c:Int):Sx:=if s.fc=0 then{s with fc:=c,fa:=(tk ts s.i).a}else s
def ky(s:Sx):Sx:=if(tk ts s.i).k=5 then gP ts (gP ts s 3) 4 else gP ts s 4
def uv(c:aH):List (aH)->Nat
 | []=>0
 | x::l=>if c=x then 0 else uv c l+1
def cQ(s:Sx)(l:List (aH)):Nat:=
 if s.fc≠0∨((tk ts s.i).k≠2/\(tk ts s.i).k≠4)then 0 else if uv (tk ts s.i).t l<l.length then uv (tk ts s.i).t l+1 else 0
def dy(s:Sx):Sx:={s with i:=s.i+1}
def eA(s:Sx)(x:aH):Sx:=if cQ ts s [x]=0 then ky ts s else dy s
def gz(s:Sx)(k:Int):Tk×Sx:=if s.fc≠0∨(tk ts s.i).k≠k then(tkZ,ky ts s)else(tk ts s.i,dy s)
def iV(s:Sx):aH×Sx:=((gz ts s 1).1.t,(gz ts s 1).2)
def pQ(s:Sx):Ex×Sx:=
 if s.fc≠0 then(GA,s)
 else if(dB ts s.i).2.2.1≠0 then((dB ts s.i).1,{s with fc:=(dB ts s.i).2.2.1,fa:=(dB ts s.i).2.2.2})
 else((dB ts s.i).1,{s with i:=(dB ts s.i).2.1.toNat})
def yA(x:Int):Int:=ar U (x-1)
def inc(x:Int):Int:=ar U (x+1)
def uQ(s:Sx):Sx:=if s.a=0 then{gP ts s 2 with a:=yA s.a}else{s with a:=yA s.a}
def sF(s:Sx):Sx:=if s.m=0 then{gP ts s 2 with m:=yA s.m}else{s with m:=yA s.m}
def GI(s:Sx):Sx:=if s.n=0 then{gP ts s 2 with n:=yA s.n}else{s with n:=yA s.n}
def GJ(s:Sx):Sx:=if s.v=0 then{gP ts s 2 with v:=yA s.v}else{s with v:=yA s.v}
def uc:aH:=[115,101,116]
def lc:aH:=[114,97,105,115,101]
def nj:aH:=[101,109,105,116]
def Jb:aH:=[111,110]
def ku:aH:=[97,108,119,97,121,115]
def kz:aH:=[97,102,116,101,114]
def gn:aH:=[105,110,105,116,105,97,108]
def jh:aH:=[101,110,116,101,114]
def ji:aH:=[108,101,97,118,101]
def DX:aH:=[115,116,97,116,101]
def tK:aH:=[112,97,114,97,108,108,101,108]
def vZ:aH:=[104,105,115,116,111,114,121]
def LF:aH:=[100,101,101,112]
def gA:aH:=[99,104,97,114,116]
def GK:aH:=[118,97,114]
def NZ(s:Sx)(k:Nat)(n:aH)(a:Int):Ac×Sx:=
 if k=2 then(⟨k,n,GA,a⟩,eA ts s [59])
 else(⟨k,n,(pQ ts (eA ts s [61])).1,a⟩,eA ts (pQ ts (eA ts s [61])).2 [59])
def rH(s:Sx):Ac×Sx:=
 if cQ ts s [uc,lc,nj]=0 then(⟨0,[],GA,(tk ts s.i).a⟩,ky ts s)
 else if(uQ ts s).fc≠0 then(⟨(cQ ts s [uc,lc,nj]:Nat),[],GA,(tk ts s.i).a⟩,uQ ts s)
 else NZ ts (iV ts (dy (uQ ts s))).2 (cQ ts s [uc,lc,nj]) (iV ts (dy (uQ ts s))).1 (tk ts s.i).a
def sH:Nat->List Ac->Sx->List Ac×Sx
 | 0,acc,s=>(acc,s)
 | f+1,acc,s=>if s.fc≠0 then(acc,s)else if cQ ts s [[125]]≠0 then(acc,dy s)else sH f (acc++[(rH ts s).1]) (rH ts s).2
def jj(s:Sx):List Ac×Sx:=sH ts (ts.length+1) [] (eA ts s [123])
def xS:Nat->aH->List (aH)->Sx->List (aH)×Sx
 | 0,_,acc,s=>(acc,s)
 | f+1,x,acc,s=>if cQ ts s [x]=0 then(acc,s)else xS f [44] (acc++[(iV ts (dy s)).1]) (iV ts (dy s)).2
def GL(m:Mv)(s:Sx):Mv×Sx:=
 ({m with tg:=(xS ts (ts.length+1) [45,62] [] s).1},eA ts (xS ts (ts.length+1) [45,62] [] s).2 [59])
def Cs(m:Mv)(s:Sx):Mv×Sx:=
 if cQ ts s [[123]]=0 then GL ts m s else GL ts {m with acts:=(jj ts s).1} (jj ts s).2
def pR(m:Mv)(s:Sx):Mv×Sx:=
 if cQ ts s [[91]]=0 then Cs ts m s else Cs ts {m with gd:=true,g:=(pQ ts (dy s)).1} (eA ts (pQ ts (dy s)).2 [93])
def X2(k a:Int):Mv:=⟨k,[],0,false,GA,[],[],a⟩
def nW(k:Int)(s:Sx):Mv×Sx:=
 if(sF ts s).fc≠0 then(X2 k (tk ts s.i).a,sF ts s)
 else if k=1 then pR ts {X2 k (tk ts s.i).a with ev:=(iV ts (dy (sF ts s))).1} (iV ts (dy (sF ts s))).2
 else if k=3 then pR ts {X2 k (tk ts s.i).a with wt:=(gz ts (dy (sF ts s)) 3).1.n} (gz ts (dy (sF ts s)) 3).2
 else pR ts (X2 k (tk ts s.i).a) (dy (sF ts s))
structure Ir where
 i:Bool
 e:Bool
 l:Bool
def eX(n:Nb)(h:Ir)(s:Sx):Bool×Nb×Ir×Sx:=
 if cQ ts s [Jb,ku,kz]≠0 then(true,{n with mv:=n.mv++[(nW ts (cQ ts s [Jb,ku,kz]:Nat) s).1]},h,(nW ts (cQ ts s [Jb,ku,kz]:Nat) s).2)
 else match cQ ts s [gn,jh,ji]with
  | 0=>(false,n,h,s)
  | 1=>if h.i then(false,n,h,ky ts s)else(true,{n with ini:=(iV ts (dy s)).1},{h with i:=true},eA ts (iV ts (dy s)).2 [59])
  | 2=>if h.e then(false,n,h,ky ts s)else(true,{n with en:=(jj ts (dy s)).1},{h with e:=true},(jj ts (dy s)).2)
  | _=>if h.l then(false,n,h,ky ts s)else(true,{n with lv:=(jj ts (dy s)).1},{h with l:=true},(jj ts (dy s)).2)
def ke:Nat->Nb->Ir->Sx->Nb×Sx
 | 0,n,_,s=>(n,s)
 | f+1,n,h,s=>if s.fc≠0 then(n,s)
  else if(eX ts n h s).1 then ke f (eX ts n h s).2.1 (eX ts n h s).2.2.1 (eX ts n h s).2.2.2 else((eX ts n h s).2.1,(eX ts n h s).2.2.2)
def qS:List (aH):=[DX,tK,vZ,LF]
def wa(N:Int->Sx->Nd×Sx):Nat->List Nd->Sx->List Nd×Sx
 | 0,acc,s=>(acc,s)
 | f+1,acc,s=>if cQ ts s qS=0 then(acc,s)else wa N f (acc++[(N (cQ ts s qS:Nat) (dy s)).1]) (N (cQ ts s qS:Nat) (dy s)).2
def ry(N:Int->Sx->Nd×Sx)(n:Nb)(s:Sx):Nd×Sx:=
 let c:=ke ts (ts.length+1) n ⟨false,false,false⟩ {s with d:=yA s.d}
 let k:=wa ts N (ts.length+1) [] c.2
 (.mk c.1 k.1,eA ts {k.2 with d:=inc k.2.d} [125])
def rz(s:Sx):Sx:=if(tk ts s.i).k=1 then(if(GI ts s).d=0 then gP ts (GI ts s) 21 else GI ts s)else s
def eZ(k:Int)(s:Sx):Nb×Sx:=({nb0 with k:=k,nm:=(gz ts (rz ts s) 1).1.t,a:=(gz ts (rz ts s) 1).1.a},(gz ts (rz ts s) 1).2)
def ld:Nat->Int->Sx->Nd×Sx
 | 0,_,s=>(NY,s)
 | f+1,k,s=>
  if 3<=k then(.mk {(eZ ts k s).1 with dft:=(iV ts (eA ts (eZ ts k s).2 [45,62])).1} [],eA ts (iV ts (eA ts (eZ ts k s).2 [45,62])).2 [59])
  else ry ts (ld f) (eZ ts k s).1 (eA ts (eZ ts k s).2 [123])
def uR(s:Sx):Vr×Sx:=
 let s1:=if(tk ts s.i).k=1 then GJ ts s else s
 let t:=gz ts s1 1
 let s2:=eA ts t.2 [61]
 let g:=cQ ts s2 [[45]]
 let q:=gz ts (if g=0 then s2 else dy s2) 3
 (⟨t.1.t,if g=0 then q.1.n else ar U (-q.1.n),t.1.a⟩,eA ts q.2 [59])
def xT:Nat->List Vr->Sx->List Vr×Sx
 | 0,acc,s=>(acc,s)
 | f+1,acc,s=>if cQ ts s [GK]=0 then(acc,s)else xT f (acc++[(uR ts (dy s)).1]) (uR ts (dy s)).2
def Ia:Sx:=⟨0,0,0,16,64,12,200,400⟩
def N0(s:Sx):Sx:=if s.fc=0/\(tk ts s.i).k≠5 then ky ts s else s
def An:Ch×Sx:=
 let n:=eZ ts 1 (eA ts Ia gA)
 let v:=xT ts (ts.length+1) [] (eA ts n.2 [123])
 let b:=ry ts (ld ts 14) n.1 v.2
 (⟨v.1,b.1⟩,N0 ts b.2)
end
def dE(l:aH):Ch×Int×Int:=
 if(dr l).2.1≠0 then(ch0,(dr l).2.1,(dr l).2.2)
 else if(An (dr l).1).2.fc≠0 then(ch0,(An (dr l).1).2.fc,(An (dr l).1).2.fa)
 else((An (dr l).1).1,0,0)
def mu(ts:List Tk)(s:Sx):Nat:=if s.fc=0 then ts.length-s.i else 0
structure On0 (ts:List Tk) (s s':Sx):Prop where
 lt:s.i<ts.length->s'.i<ts.length
 le:s'.fc=0->s.fc=0/\s.i<=s'.i
structure On (ts:List Tk) (s s':Sx):Prop extends On0 ts s s' where
 d:s'.d=s.d
section
variable {ts:List Tk} {s s' s'':Sx}
theorem On0.refl(ts:List Tk)(s:Sx):On0 ts s s:=⟨id,fun h=>⟨h,aX _⟩⟩
theorem On.refl(ts:List Tk)(s:Sx):On ts s s:=⟨On0.refl ts s,rfl⟩
theorem On0.trans(h:On0 ts s s')(k:On0 ts s' s''):On0 ts s s'':=⟨fun x=>k.lt (h.lt x),fun e=>by
 obtain⟨a,b⟩:=k.le e;obtain⟨c,d⟩:=h.le a;exact⟨c,bp d b⟩⟩
theorem On.trans(h:On ts s s')(k:On ts s' s''):On ts s s'':=⟨h.toOn0.trans k.toOn0,k.d.trans h.d⟩
theorem On0.mu(h:On0 ts s s'):mu ts s'<=mu ts s:=by
 unfold Con.mu;by_cases e:s'.fc=0
 ·obtain⟨a,b⟩:=h.le e;rw[if_pos e,if_pos a];omega
 ·rw[if_neg e];exact bh _
theorem oK(c:Int):On ts s (gP ts s c):=by
 unfold gP;by_cases e:s.fc=0
 ·rw[if_pos e];exact⟨⟨id,fun _=>⟨e,aX _⟩⟩,rfl⟩
 ·rw[if_neg e];exact On.refl _ _
theorem LG{c:Int}(hc:c≠0):(gP ts s c).fc≠0:=by
 unfold gP;by_cases e:s.fc=0
 ·rw[if_pos e];exact hc
 ·rw[if_neg e];exact e
theorem DY(c:Int):(gP ts s c).i=s.i:=by
 unfold gP;split<;>rfl
theorem pS:(ky ts s).fc≠0:=by
 unfold ky;split<;>exact LG (by decide)
theorem pT:On ts s (ky ts s):=by
 unfold ky;split
 ·exact(oK 3).trans (oK 4)
 ·exact oK 4
theorem GM(l:List (aH)):cQ ts s l<=l.length:=by
 unfold cQ;split
 ·exact bh _
 ·split<;>omega
theorem dl{l:List (aH)}(h:cQ ts s l≠0):s.fc=0/\(tk ts s.i).k≠5:=by
 unfold cQ at h;split at h
 ·exact absurd rfl h
 ·rename_i hc;by_cases e:s.fc=0
  ·refine⟨e,fun e5=>hc (.inr ?_)⟩;rw[e5];exact⟨by decide,by decide⟩
  ·exact absurd (.inl e) hc
theorem lf(hE:xa ts)(h0:s.fc=0)(hk:(tk ts s.i).k≠5):On ts s (dy s):=⟨⟨fun h=>hE.next h hk,fun _=>⟨h0,iA _⟩⟩,rfl⟩
theorem ii(hE:xa ts)(x:aH):On ts s (eA ts s x):=by
 unfold eA;by_cases h:cQ ts s [x]=0
 ·rw[if_pos h];exact pT
 ·rw[if_neg h];exact lf hE (dl h).1 (dl h).2
theorem wb(hE:xa ts){k:Int}(hk:k≠5):On ts s (gz ts s k).2:=by
 unfold gz;by_cases h:s.fc≠0∨(tk ts s.i).k≠k
 ·rw[if_pos h];exact pT
 ·rw[if_neg h];simp only[not_or,KG]at h;exact lf hE h.1 (by rw[h.2];exact hk)
theorem oL(hE:xa ts):On ts s (iV ts s).2:=wb hE (by decide)
end
section
variable {ts:List Tk} (hE:xa ts)
include hE
theorem aac{i:Nat}{x:Ex}{j:Nat}(hi:i<ts.length)(hk:(tk ts i).k≠5)(h:VD ts i=.ok (x,j)):j<ts.length:=by
 unfold VD at h;split at h
 ·rename_i h1;have l1:=hE.next hi hk;have l2:=hE.next l1 (DR h1);split at h
  ·rename_i h2;have l3:=hE.next l2 (by rw[h2];decide);split at h
   ·rename_i h3;have l4:=hE.next l3 (DR h3);simp only[fp,fm]at h;omega
   ·cases h
  ·cases h
 ·cases h
theorem VJ{E0 Pk:Nat->Pr}{d i:Nat}{x:Ex}{j:Nat}(hE0:∀i x j,i<ts.length->E0 i=.ok (x,j)->j<ts.length)(hO:∀i x j,i<ts.length->Pk i=.ok (x,j)->j<ts.length)(hi:i<ts.length)(h:DS ts E0 Pk d i=.ok (x,j)):j<ts.length:=by
 unfold DS at h;split at h
 ·rename_i hs;obtain⟨y,h1,_⟩:=Lr h;refine hO _ _ _ (hE.next hi ?_) (vX h1).1;rcases cn _ _▸hs with hs | hs<;>exact DR hs
 ·split at h
  ·rename_i hs;obtain⟨j',h1,h2,rfl⟩:=Ls (vX h).1;exact hE.next (hE0 _ _ _ (hE.next hi (DR hs)) h1) (DR h2)
  ·split at h
   ·rename_i hk;simp only[fp,fm]at h;have:=hE.next hi (by rw[hk];decide);omega
   ·split at h
    ·rename_i hk;simp only[fp,fm]at h;have:=hE.next hi (by rw[hk];decide);omega
    ·split at h
     ·rename_i hk;exact aac hE hi (by rw[hk.1];decide) h
     ·cases h
theorem GN{E:Nat->Pr}{k:Int}(hE':∀i x j,i<ts.length->E i=.ok (x,j)->j<ts.length):∀(g:Nat) (x:Ex) (j:Nat) {x':Ex} {j':Nat},j<ts.length->ni ts E k g x j=.ok (x',j')->j'<ts.length
 | 0,x,j,x',j',hj,h=>by
  simp only[ni,fp,fm]at h;omega
 | g+1,x,j,x',j',hj,h=>by
  rw[ni]at h;split at h
  ·simp only[fp,fm]at h;omega
  ·rename_i ho;obtain⟨y,m,h1,h2⟩:=yQ h;exact GN hE' g _ _ (hE' _ _ _ (hE.next hj (xd _ _ ho)) h1) h2
theorem sI:∀(f k d i:Nat) {x:Ex} {j:Nat},i<ts.length->fI ts f k d i=.ok (x,j)->j<ts.length
 | 0,_,_,_,_,_,_,h=>by cases h
 | f+1,k,d,i,x,j,hi,h=>by
  rw[fI]at h;split at h
  ·exact VJ hE (fun i x j hi h=>sI f _ _ i hi h) (fun i x j hi h=>sI f _ _ i hi h) hi h
  ·obtain⟨y,m,h1,h2⟩:=yQ h;exact GN hE (fun i x j hi h=>sI f _ _ i hi h) _ _ _ (sI f _ _ _ hi h1) h2
theorem N1{i:Nat}(h0:(dB ts i).2.2.1=0):∃j:Nat,(dB ts i).2.1=(j:Int)/\i<j/\j<ts.length:=by
 unfold dB at h0⊢;split at h0
 ·rename_i hc;rw[if_pos hc];have hi:i<ts.length:=by have:=hc.2.1;omega
  rw[aY]at h0⊢;unfold I9 at h0⊢;cases he:fI ts (kX 0 0) 0 0 i with
  | error e=>
   rw[he]at h0;obtain⟨c,p⟩:=e;exact absurd h0 (pO _ _ _ _ he)
  | ok q=>
   obtain⟨x,j⟩:=q;exact⟨j,rfl,lU _ _ _ _ he,sI hE _ _ _ _ hi he⟩
 ·cases h0
theorem oM{s s':Sx}(h0:s.fc=0)(hi:s.i<ts.length)(hk:(tk ts s.i).k≠5)(h:On0 ts (dy s) s'):mu ts s'<mu ts s:=by
 have h1:=h.mu;have h2:=hE.next hi hk;have e1:mu ts s=ts.length-s.i:=by unfold mu;rw[if_pos h0]
 have e2:mu ts (dy s)=ts.length-(s.i+1):=by unfold mu dy;rw[if_pos h0]
 omega
set_option linter.unusedSectionVars false in
theorem xh {s s':Sx} (h0:s.fc=0) (hi:s.i<ts.length) (h:s'.fc≠0):mu ts s'<mu ts s:=by
 unfold mu;rw[if_neg h,if_pos h0];omega
theorem LH(s:Sx):On ts s (pQ ts s).2:=by
 unfold pQ;by_cases h0:s.fc≠0
 ·rw[if_pos h0];exact On.refl _ _
 ·rw[if_neg h0];by_cases h1:(dB ts s.i).2.2.1≠0
  ·rw[if_pos h1];exact⟨⟨id,fun h=>absurd h h1⟩,rfl⟩
  ·rw[if_neg h1];obtain⟨j,e,l1,l2⟩:=N1 hE (i:=s.i) (by simpa using h1);dsimp only;rw[e,aY];exact⟨⟨fun _=>l2,fun h=>⟨h,Nat.le_of_lt l1⟩⟩,rfl⟩
omit hE in
theorem DZ (s:Sx):On ts s (uQ ts s):=by
 unfold uQ;split
 ·have h:=oK (ts:=ts) (s:=s) 2;exact⟨⟨h.lt,h.le⟩,h.d⟩
 ·exact⟨⟨id,fun h=>⟨h,aX _⟩⟩,rfl⟩
omit hE in
theorem D0 (s:Sx):On ts s (sF ts s):=by
 unfold sF;split
 ·have h:=oK (ts:=ts) (s:=s) 2;exact⟨⟨h.lt,h.le⟩,h.d⟩
 ·exact⟨⟨id,fun h=>⟨h,aX _⟩⟩,rfl⟩
omit hE in
theorem D1 (s:Sx):On ts s (GI ts s):=by
 unfold GI;split
 ·have h:=oK (ts:=ts) (s:=s) 2;exact⟨⟨h.lt,h.le⟩,h.d⟩
 ·exact⟨⟨id,fun h=>⟨h,aX _⟩⟩,rfl⟩
omit hE in
theorem VK (s:Sx):On ts s (GJ ts s):=by
 unfold GJ;split
 ·have h:=oK (ts:=ts) (s:=s) 2;exact⟨⟨h.lt,h.le⟩,h.d⟩
 ·exact⟨⟨id,fun h=>⟨h,aX _⟩⟩,rfl⟩
omit hE in
theorem D2 (s:Sx):(uQ ts s).i=s.i:=by
 unfold uQ;split
 ·exact DY 2
 ·rfl
omit hE in
theorem D3 (s:Sx):(sF ts s).i=s.i:=by
 unfold sF;split
 ·exact DY 2
 ·rfl
theorem LI(s:Sx)(k:Nat)(n:aH)(a:Int):On ts s (NZ ts s k n a).2:=by
 unfold NZ;split
 ·exact ii hE _
 ·exact((ii hE _).trans (LH hE _)).trans (ii hE _)
theorem Q9(s u:Sx)(hu:On ts s u)(hi:u.i=s.i)(h0:u.fc=0)(hk:(tk ts s.i).k≠5):On ts s (dy u):=hu.trans (lf hE h0 (by rw[hi];exact hk))
theorem aad(s:Sx):On ts s (rH ts s).2:=by
 unfold rH;split
 ·exact pT
 ·rename_i h;split
  ·exact DZ s
  ·rename_i h0;exact(Q9 hE s _ (DZ s) (D2 s) (by simpa using h0) (dl h).2).trans ((oL hE).trans (LI hE _ _ _ _))
theorem aae{s:Sx}(h0:s.fc=0)(hi:s.i<ts.length):mu ts (rH ts s).2<mu ts s:=by
 unfold rH;split
 ·exact xh hE h0 hi pS
 ·rename_i h;split
  ·rename_i h1;exact xh hE h0 hi h1
  ·rename_i h1;have e:=D2 (ts:=ts) s;have hm:=(DZ (ts:=ts) s).mu;exact cm (oM hE (by simpa using h1) (by rw[e];exact hi) (by rw[e];exact(dl h).2) ((oL hE).trans (LI hE _ _ _ _)).toOn0) hm
theorem LJ:∀(f:Nat) (acc:List Ac) (s:Sx),On ts s (sH ts f acc s).2
 | 0,_,s=>On.refl _ _
 | f+1,acc,s=>by
  rw[sH];split
  ·exact On.refl _ _
  ·split
   ·rename_i h;exact lf hE (dl h).1 (dl h).2
   ·exact(aad hE s).trans (LJ f _ _)
theorem sJ(s:Sx):On ts s (jj ts s).2:=(ii hE _).trans (LJ hE _ _ _)
theorem LK:∀(f:Nat) (x:aH) (acc:List (aH)) (s:Sx),On ts s (xS ts f x acc s).2
 | 0,_,_,s=>On.refl _ _
 | f+1,x,acc,s=>by
  rw[xS];split
  ·exact On.refl _ _
  ·rename_i h;exact((lf hE (dl h).1 (dl h).2).trans (oL hE)).trans (LK f _ _ _)
theorem GP(m:Mv)(s:Sx):On ts s (GL ts m s).2:=(LK hE _ _ _ _).trans (ii hE _)
theorem GQ(m:Mv)(s:Sx):On ts s (Cs ts m s).2:=by
 unfold Cs;split
 ·exact GP hE _ _
 ·exact(sJ hE _).trans (GP hE _ _)
theorem Ao(m:Mv)(s:Sx):On ts s (pR ts m s).2:=by
 unfold pR;split
 ·exact GQ hE _ _
 ·rename_i h;exact(((lf hE (dl h).1 (dl h).2).trans (LH hE _)).trans (ii hE _)).trans (GQ hE _ _)
theorem GR(k:Int)(s u:Sx)(m:Mv):On ts u (if k=1 then pR ts {m with ev:=(iV ts u).1} (iV ts u).2 else if k=3 then pR ts {m with wt:=(gz ts u 3).1.n} (gz ts u 3).2 else pR ts m u).2:=by
 split
 ·exact(oL hE).trans (Ao hE _ _)
 ·split
  ·exact(wb hE (by decide)).trans (Ao hE _ _)
  ·exact Ao hE _ _
theorem VL(k:Int)(s:Sx)(hk:(tk ts s.i).k≠5):On ts s (nW ts k s).2:=by
 unfold nW;split
 ·exact D0 s
 ·rename_i h1;exact(Q9 hE s _ (D0 s) (D3 s) (by simpa using h1) hk).trans (GR hE k s _ _)
theorem VM(k:Int){s:Sx}(h0:s.fc=0)(hi:s.i<ts.length)(hk:(tk ts s.i).k≠5):mu ts (nW ts k s).2<mu ts s:=by
 unfold nW;split
 ·rename_i h1;exact xh hE h0 hi h1
 ·rename_i h1;have e:=D3 (ts:=ts) s;have hm:=(D0 (ts:=ts) s).mu;exact cm (oM hE (by simpa using h1) (by rw[e];exact hi) (by rw[e];exact hk) (GR hE k s _ _).toOn0) hm
theorem Ct(n:Nb)(h:Ir)(s:Sx):On ts s (eX ts n h s).2.2.2:=by
 unfold eX;split
 ·rename_i hw;exact VL hE _ s (dl hw).2
 ·split
  ·exact On.refl _ _
  ·rename_i hw;have hw:cQ ts s [gn,jh,ji]≠0:=by rw[hw];decide
   split
   ·exact pT
   ·exact((lf hE (dl hw).1 (dl hw).2).trans (oL hE)).trans (ii hE _)
  ·rename_i hw;have hw:cQ ts s [gn,jh,ji]≠0:=by rw[hw];decide
   split
   ·exact pT
   ·exact(lf hE (dl hw).1 (dl hw).2).trans (sJ hE _)
  ·rename_i h0 h1 h2;have hw:cQ ts s [gn,jh,ji]≠0:=h0;split
   ·exact pT
   ·exact(lf hE (dl hw).1 (dl hw).2).trans (sJ hE _)
theorem N2(n:Nb)(h:Ir){s:Sx}(h0:s.fc=0)(hi:s.i<ts.length)(ht:(eX ts n h s).1=true):mu ts (eX ts n h s).2.2.2<mu ts s:=by
 unfold eX at ht⊢;split
 ·rename_i hw;exact VM hE _ h0 hi (dl hw).2
 ·rename_i hw0;rw[if_neg hw0]at ht;split
  ·rename_i hw;rw[hw]at ht;cases ht
  ·rename_i hw;rw[hw]at ht;have hw:cQ ts s [gn,jh,ji]≠0:=by rw[hw];decide
   split
   ·exact xh hE h0 hi pS
   ·exact oM hE h0 hi (dl hw).2 ((oL hE).trans (ii hE _)).toOn0
  ·rename_i hw;have hw:cQ ts s [gn,jh,ji]≠0:=by rw[hw];decide
   split
   ·exact xh hE h0 hi pS
   ·exact oM hE h0 hi (dl hw).2 (sJ hE _).toOn0
  ·rename_i h1 _ _;have hw:cQ ts s [gn,jh,ji]≠0:=h1;split
   ·exact xh hE h0 hi pS
   ·exact oM hE h0 hi (dl hw).2 (sJ hE _).toOn0
theorem uS:∀(f:Nat) (n:Nb) (h:Ir) (s:Sx),On ts s (ke ts f n h s).2
 | 0,_,_,s=>On.refl _ _
 | f+1,n,h,s=>by
  rw[ke];split
  ·exact On.refl _ _
  ·split
   ·exact(Ct hE n h s).trans (uS f _ _ _)
   ·exact Ct hE n h s
theorem LM{N:Int->Sx->Nd×Sx}(d:Int)(hN:∀k s,s.d=d->s.fc=0->On ts s (N k s).2):∀(f:Nat) (acc:List Nd) (s:Sx),s.d=d->On ts s (wa ts N f acc s).2
 | 0,_,s,_=>On.refl _ _
 | f+1,acc,s,hd=>by
  rw[wa];split
  ·exact On.refl _ _
  ·rename_i h;have h1:=(lf hE (dl h).1 (dl h).2).trans (hN (cQ ts s qS:Nat) (dy s) hd (dl h).1);exact h1.trans (LM d hN f _ _ (h1.d.trans hd))
theorem VN{N:Int->Sx->Nd×Sx}{n:Nb}{s:Sx}(hd:rS s.d)(hN:∀k u,u.d=yA s.d->u.fc=0->On ts u (N k u).2):On ts s (ry ts N n s).2:=by
 unfold ry;dsimp only;have h1:=uS hE (ts.length+1) n ⟨false,false,false⟩ {s with d:=yA s.d};have h2:=LM hE (yA s.d) hN (ts.length+1) [] _ h1.d;have h3:=h1.trans h2;have h4:=ii hE [125] (s:={(wa ts N (ts.length+1) [] (ke ts (ts.length+1) n ⟨false,false,false⟩ {s with d:=yA s.d}).2).2 with d:=inc (wa ts N (ts.length+1) [] (ke ts (ts.length+1) n ⟨false,false,false⟩ {s with d:=yA s.d}).2).2.d});refine⟨⟨fun h=>h4.lt (h3.lt h),fun e=>?_⟩,h4.d.trans ?_⟩
 ·obtain⟨a,b⟩:=h4.le e;obtain⟨c,d⟩:=h3.le a;exact⟨c,bp d b⟩
 ·dsimp only;rw[h3.d];dsimp only;unfold inc yA;have:=hd.1;have:=hd.2;simp only[IntKind.wrap_i64];omega
omit hE in
theorem VO (s:Sx):On ts s (rz ts s):=by
 unfold rz;split
 ·split
  ·exact(D1 s).trans (oK _)
  ·exact D1 s
 ·exact On.refl _ _
theorem Ap(k:Int)(s:Sx):On ts s (eZ ts k s).2:=(VO s).trans (wb hE (by decide))
omit hE in
theorem VP {k:Int} {s:Sx} (h:(eZ ts k s).2.fc=0):s.d≠0:=fun e=>by
 revert h;unfold eZ gz;dsimp only;by_cases h1:(tk ts s.i).k=1
 ·have hf:(rz ts s).fc≠0:=by
   unfold rz;rw[if_pos h1,if_pos ((D1 s).d.trans e)];exact LG (by decide)
  rw[if_pos (.inl hf)];exact pS
 ·have e2:rz ts s=s:=by unfold rz;rw[if_neg h1]
  rw[e2,if_pos (.inr h1)];exact pS
theorem LN:∀(f:Nat) (k:Int) (s:Sx),rS s.d->On ts s (ld ts f k s).2
 | 0,_,s,_=>On.refl _ _
 | f+1,k,s,hd=>by
  rw[ld];have h1:=Ap hE k s;split
  ·exact((h1.trans (ii hE _)).trans (oL hE)).trans (ii hE _)
  ·have h2:=h1.trans (ii hE [123]);refine h2.trans (VN hE (by rw[h2.d];exact hd) fun k u hu _=>LN f k u ?_);rw[hu];exact PY _
theorem Ra(s:Sx):On ts s (uR ts s).2:=by
 unfold uR;dsimp only;have h1:On ts s (if(tk ts s.i).k=1 then GJ ts s else s):=by
  split
  ·exact VK s
  ·exact On.refl _ _
 have h2:∀u:Sx,On ts u (if cQ ts u [[45]]=0 then u else dy u):=fun u=>by
  split
  ·exact On.refl _ _
  ·rename_i h;exact lf hE (dl h).1 (dl h).2
 exact((((h1.trans (wb hE (by decide))).trans (ii hE _)).trans (h2 _)).trans (wb hE (by decide))).trans (ii hE _)
end
def Mk(w:av)(F:aJ)(e:TypeId)(size:Nat)(s:Sl):Prop:=s.n=0∨∃g cs,s.a=some ⟨g,0,none⟩/\F g/\aF w g e cs/\s.n*size<=cs.length
def jM{α:Type}(t:Bool)(r:Rp α)(size:Nat)(e:TypeId)(w:av)(F:aJ)(s:Sl)(xs:List α):Prop:=aA r size w F s xs/\(t=true->Mk w F e size s)
section
variable {α:Type} {t:Bool} {r q:Rp α} {size:Nat} {e:TypeId} {w w':av} {F G:aJ} {s:Sl} {xs:List α} {B:Nat}
theorem Mk.keep(h:Mk w F e size s)(hk:∀k,F k->k<w.heap.size->w'.heap[k]? =w.heap[k]?):Mk w' F e size s:=by
 rcases h with h | ⟨g,cs,h1,h2,h3,h4⟩
 ·exact .inl h
 ·exact .inr ⟨g,cs,h1,h2,(hk g h2 h3.lt).trans h3,h4⟩
theorem Mk.mono(h:Mk w F e size s)(hk:∀k,F k->k<w.heap.size->G k):Mk w G e size s:=by
 rcases h with h | ⟨g,cs,h1,h2,h3,h4⟩
 ·exact .inl h
 ·exact .inr ⟨g,cs,h1,hk g h2 h3.lt,h3,h4⟩
theorem jM.keep(hr:r.Ok)(h:jM t r size e w F s xs)(hs:0<size)(hk:∀k,F k->k<w.heap.size->w'.heap[k]? =w.heap[k]?):jM t r size e w' F s xs:=⟨h.1.keep hr hs hk,fun x=>(h.2 x).keep hk⟩
theorem jM.inHeap(hr:r.Ok)(h:jM t r size e w F s xs)(hs:0<size):jM t r size e w (fun k=>F k/\k<w.heap.size) s xs:=⟨h.1.inHeap hr hs,fun x=>(h.2 x).mono fun k a b=>⟨a,b⟩⟩
theorem jM.mono(hr:r.Ok)(h:jM t r size e w F s xs)(hk:∀k,F k->G k):jM t r size e w G s xs:=⟨h.1.mono hr hk,fun x=>(h.2 x).mono fun k a _=>hk k a⟩
theorem jM.nil(t:Bool)(r:Rp α)(size:Nat)(e:TypeId)(w:av)(F:aJ):jM t r size e w F Sl.nil []:=⟨SliceF.nil _ _ _ _,fun _=>.inl rfl⟩
theorem jM.imp(h:jM t r size e w F s xs)(hi:∀x cs,x∈xs->r w F x cs->q w F x cs):jM t q size e w F s xs:=⟨GB h.1 hi,h.2⟩
theorem jM.off(h:jM t r size e w F s xs)(hi:∀x cs,x∈xs->r w F x cs->q w F x cs):jM false q size e w F s xs:=⟨GB h.1 hi,fun h=>(by cases h)⟩
theorem _root_.Go.Kt.Own.sl(hr:r.Ok)(h:Own r size e B w F s xs)(hF:∀k,B<=k->F k):jM true r size e w F s xs:=by
 refine⟨(h.slice hr).mono hr fun k hk=>hk.elim id fun x=>hF k x.1,fun _=>?_⟩;rcases h with⟨rfl,rfl⟩ | ⟨g,css,tail,h1,h2,h4,h5,h6,h7,h9,h8⟩
 ·exact .inl rfl
 ·exact .inr ⟨g,_,h1,hF g h2,h4,by rw[aP,mN.JP h8,<-h6];omega⟩
end
def LO(t:Bool):Nat->Rp Ex
 | 0=>fun _ _ _ _=>False
 | d+1=>fun w F x cs=>∃sl:Sl,cs=qQ x.k x.n x.s x.op sl x.a/\jM t (LO t d) 6 64 w F sl x.fF
theorem kA(t:Bool):∀d,(LO t d).Ok
 | 0=>⟨fun h _=>h.elim,fun h=>h.elim,fun h _=>h.elim,fun h=>h.elim⟩
 | d+1=>⟨fun⟨sl,h1,h2⟩ hk=>⟨sl,h1,jM.keep (kA t d) h2 (by decide) hk⟩,fun⟨sl,h1,h2⟩=>⟨sl,h1,jM.inHeap (kA t d) h2 (by decide)⟩,fun⟨sl,h1,h2⟩ hk=>⟨sl,h1,jM.mono (kA t d) h2 hk⟩,fun⟨sl,h1,h2⟩=>by
  subst h1;intro v hv;simp only[aU,ba,bW]at hv;rcases hv with rfl | rfl | rfl | rfl | rfl | rfl<;>rfl⟩
theorem Rb{t:Bool}{w:av}{F:aJ}:∀{d:Nat} {x:Ex} {cs:aI},LO t d w F x cs->LO t (d+1) w F x cs
 | 0,_,_,h=>h.elim
 | d+1,x,cs,⟨sl,h1,h2⟩=>⟨sl,h1,h2.imp fun x cs _ h=>Rb h⟩
theorem Jc{t:Bool}{w:av}{F:aJ}{d e:Nat}{x:Ex}{cs:aI}(h:d<=e)(hx:LO t d w F x cs):LO t e w F x cs:=by
 induction e with
 | zero=>have:d=0:=(by omega);subst this;exact hx
 | succ e ih=>
  by_cases he:d=e+1
  ·subst he;exact hx
  ·exact Rb (ih (by omega))
theorem D4{t:Bool}{w:av}{F:aJ}:∀{d:Nat} {x:Ex} {cs:aI},LO t d w F x cs->xf d w F x cs
 | 0,_,_,h=>h.elim
 | d+1,x,cs,⟨sl,h1,h2⟩=>⟨sl,h1,GB h2.1 fun x cs _ h=>D4 h⟩
theorem Rc{w:av}{F:aJ}:∀{d:Nat} {x:Ex} {cs:aI},xf d w F x cs->LO false d w F x cs
 | 0,_,_,h=>h.elim
 | d+1,x,cs,⟨sl,h1,h2⟩=>⟨sl,h1,GB h2 fun x cs _ h=>Rc h,fun h=>(by cases h)⟩
theorem RXN.xg{w:av}{x:Ex}{cs:aI}{N:aJ}{lo hi:Nat}(h:RXN w N lo hi x cs):∃d,LO true d w (fun k=>lo<=k/\k<hi) x cs:=by
 induction h with
 | leaf lo hi k n s op a=>exact⟨1,Sl.nil,rfl,jM.nil _ _ _ _ _ _⟩
 | one lo m g hi k n s op a x cs h1 h2 h3 h4 hn h5 ih=>
  obtain⟨d,ih⟩:=ih;obtain⟨sl,nP,_⟩:=h1.cells;refine⟨d+1,_,rfl,⟨rfl,aX _,fun h=>(by cases h),(by decide:(1:Nat)<=9223372036854775807),fun j y hj=>?_⟩,fun _=>.inr ⟨g,cs,rfl,⟨h2,h4⟩,h5,by rw[nP];exact aX _⟩⟩;have W5:j=0:=by
   have:=(aV.1 hj).1;simp only[Ex.fF,bG]at this;omega
  subst W5;simp only[Ex.fF,ci,aZ]at hj;subst hj;exact⟨⟨g,0,none⟩,cs,rfl,⟨h2,h4⟩,by rw[nP];rfl,by rw[yL];exact h5.cells 0 cs fun j v hv=>by rw[bO];exact hv,(kA true d).mono ih fun k hk=>⟨hk.1,by omega⟩⟩
 | two lo m m' m2 g hi k n s op a x y cs ds h1 h2 h3 h4 h5 h6 h7 h8 hn h9 PE UK=>
  obtain⟨d1,PE⟩:=PE;obtain⟨d2,UK⟩:=UK;obtain⟨sl,nP,_⟩:=h1.cells;obtain⟨sl2,hds,_⟩:=h3.cells;have e1:cs.length=6:=by rw[nP];rfl
  have e2:ds.length=6:=by rw[hds];rfl
  refine⟨max d1 d2+1,_,rfl,⟨rfl,aX _,fun h=>(by cases h),(by decide:(2:Nat)<=9223372036854775807),fun j y hj=>?_⟩,fun _=>.inr ⟨g,cs++ds,rfl,⟨by omega,h8⟩,h9,by rw[aP,e1,e2];exact aX _⟩⟩;rcases j with _ | _ | j
  ·simp only[Ex.fF,ci,aZ]at hj;subst hj;exact⟨⟨g,0,none⟩,cs,rfl,⟨by dsimp only;omega,h8⟩,e1,by rw[yL];exact h9.cells 0 cs fun j v hv=>by rw[bO,bK (aV.1 hv).1];exact hv,(kA true _).mono (Jc (T8 _ _) PE) fun k hk=>⟨hk.1,by omega⟩⟩
  ·simp only[Ex.fF,cu,ci,aZ]at hj;subst hj;exact⟨⟨g,0,none⟩,ds,rfl,⟨by dsimp only;omega,h8⟩,e2,by
    rw[fL];exact h9.cells 6 ds fun j v hv=>by rw[bT (by omega),e1,dF];exact hv,(kA true _).mono (Jc (O4 _ _) UK) fun k hk=>⟨by omega,by omega⟩⟩
  ·simp[Ex.fF]at hj
def rE(t:Bool):Rp Ex:=fun w F x cs=>∃d,LO t d w F x cs
theorem ja(t:Bool):(rE t).Ok:=⟨fun⟨d,h⟩ hk=>⟨d,(kA t d).keep h hk⟩,fun⟨d,h⟩=>⟨d,(kA t d).inHeap h⟩,fun⟨d,h⟩ hk=>⟨d,(kA t d).mono h hk⟩,fun⟨d,h⟩=>(kA t d).one h⟩
theorem jc{t:Bool}{w:av}{F:aJ}{x:Ex}{cs:aI}(h:rE t w F x cs):∃sl,cs=qQ x.k x.n x.s x.op sl x.a:=by
 obtain⟨d,h⟩:=h;cases d with
 | zero=>exact h.elim
 | succ d=>obtain⟨sl,h,_⟩:=h;exact⟨sl,h⟩
theorem Re{t:Bool}{w:av}{F:aJ}{x:Ex}{cs:aI}(h:rE t w F x cs):rE false w F x cs:=by
 obtain⟨d,h⟩:=h;exact⟨d,Rc (D4 h)⟩
theorem rE0(t:Bool)(w:av)(F:aJ):rE t w F GA (qQ 0 0 [] 0 Sl.nil 0):=⟨1,Sl.nil,rfl,jM.nil _ _ _ _ _ _⟩
def acv(k:Int)(n:aH)(xc:aI)(a:Int):aI:=O U k::ab (T n)::(xc++[O U a])
def rA(t:Bool):Rp Ac:=fun w F x cs=>∃xc,cs=acv x.k x.n xc x.a/\rE t w F x.x xc
theorem dq(t:Bool):(rA t).Ok:=⟨fun⟨c,h1,h2⟩ hk=>⟨c,h1,(ja t).keep h2 hk⟩,fun⟨c,h1,h2⟩=>⟨c,h1,(ja t).inHeap h2⟩,fun⟨c,h1,h2⟩ hk=>⟨c,h1,(ja t).mono h2 hk⟩,fun⟨c,h1,h2⟩=>by
 subst h1;intro v hv;simp only[acv,aU,bR,ba,bW]at hv;rcases hv with rfl | rfl | h | rfl
 ·rfl
 ·rfl
 ·exact(ja t).one h2 v h
 ·rfl⟩
def mvv(k:Int)(ev:aH)(wt:Int)(gd:Bool)(gc:aI)(tv tg:Sl)(a:Int):aI:=O U k::ab (T ev)::O U wt::aj gd::(gc++[tv.v,tg.v,O U a])
def Jd(t:Bool):Rp Mv:=fun w F x cs=>∃gc tv tg,cs=mvv x.k x.ev x.wt x.gd gc tv tg x.a/\rE t w F x.g gc/\jM t (rA t) 9 196 w F tv x.acts/\jM t ju 1 9 w F tg x.tg
theorem lV(t:Bool):(Jd t).Ok:=⟨fun⟨c,tv,tg,h1,h2,h3,h4⟩ hk=>⟨c,tv,tg,h1,(ja t).keep h2 hk,h3.keep (dq t) (by decide) hk,h4.keep cP (by decide) hk⟩,
 fun⟨c,tv,tg,h1,h2,h3,h4⟩=>⟨c,tv,tg,h1,(ja t).inHeap h2,h3.inHeap (dq t) (by decide),h4.inHeap cP (by decide)⟩,
 fun⟨c,tv,tg,h1,h2,h3,h4⟩ hk=>⟨c,tv,tg,h1,(ja t).mono h2 hk,h3.mono (dq t) hk,h4.mono cP hk⟩,
 fun⟨c,tv,tg,h1,h2,h3,h4⟩=>by
  subst h1;intro v hv;simp only[mvv,aU,bR,ba,bW]at hv;rcases hv with rfl | rfl | rfl | rfl | h | rfl | rfl | rfl
  ·rfl
  ·rfl
  ·rfl
  ·rfl
  ·exact(ja t).one h2 v h
  ·rfl
  ·rfl
  ·rfl⟩
def Uf:Rp Vr:=fun _ _ x cs=>cs=[ab (T x.n),O U x.v,O U x.a]
theorem fA:Uf.Ok:=⟨fun h _=>h,fun h=>h,fun h _=>h,fun h=>by
 unfold Uf at h;subst h;intro v hv;simp only[aU,ba,bW]at hv;rcases hv with rfl | rfl | rfl<;>rfl⟩
abbrev nE(k:Int)(nm ini dft:aH)(en lv mv kids:Sl)(a:Int):aI:=[O U k,ab (T nm),ab (T ini),ab (T dft),en.v,lv.v,mv.v,kids.v,O U a]
def D5(t:Bool)(w:av)(F:aJ)(x:Nb)(en lv mv:Sl):Prop:=jM t (rA t) 9 196 w F en x.en/\jM t (rA t) 9 196 w F lv x.lv/\jM t (Jd t) 13 147 w F mv x.mv
def ol(t:Bool):Nat->Rp Nd
 | 0=>fun _ _ _ _=>False
 | d+1=>fun w F x cs=>∃en lv mv kids:Sl,cs=nE x.b.k x.b.nm x.b.ini x.b.dft en lv mv kids x.b.a/\D5 t w F x.b en lv mv/\jM t (ol t d) 9 27 w F kids x.kids
section
variable {t:Bool} {w w':av} {F G:aJ} {x:Nb} {en lv mv:Sl}
theorem D5.keep(h:D5 t w F x en lv mv)(hk:∀k,F k->k<w.heap.size->w'.heap[k]? =w.heap[k]?):D5 t w' F x en lv mv:=⟨h.1.keep (dq t) (by decide) hk,h.2.1.keep (dq t) (by decide) hk,h.2.2.keep (lV t) (by decide) hk⟩
theorem D5.inHeap(h:D5 t w F x en lv mv):D5 t w (fun k=>F k/\k<w.heap.size) x en lv mv:=⟨h.1.inHeap (dq t) (by decide),h.2.1.inHeap (dq t) (by decide),h.2.2.inHeap (lV t) (by decide)⟩
theorem D5.mono(h:D5 t w F x en lv mv)(hk:∀k,F k->G k):D5 t w G x en lv mv:=⟨h.1.mono (dq t) hk,h.2.1.mono (dq t) hk,h.2.2.mono (lV t) hk⟩
end
theorem cG(t:Bool):∀d,(ol t d).Ok
 | 0=>⟨fun h _=>h.elim,fun h=>h.elim,fun h _=>h.elim,fun h=>h.elim⟩
 | d+1=>⟨fun⟨en,lv,mv,kids,h1,h2,h3⟩ hk=>⟨en,lv,mv,kids,h1,h2.keep hk,jM.keep (cG t d) h3 (by decide) hk⟩,
  fun⟨en,lv,mv,kids,h1,h2,h3⟩=>⟨en,lv,mv,kids,h1,h2.inHeap,jM.inHeap (cG t d) h3 (by decide)⟩,
  fun⟨en,lv,mv,kids,h1,h2,h3⟩ hk=>⟨en,lv,mv,kids,h1,h2.mono hk,jM.mono (cG t d) h3 hk⟩,fun⟨en,lv,mv,kids,h1,h2,h3⟩=>by
  subst h1;intro v hv;simp only[aU,ba,bW]at hv;rcases hv with rfl | rfl | rfl | rfl | rfl | rfl | rfl | rfl | rfl<;>rfl⟩
theorem Rf{t:Bool}{w:av}{F:aJ}:∀{d:Nat} {x:Nd} {cs:aI},ol t d w F x cs->ol t (d+1) w F x cs
 | 0,_,_,h=>h.elim
 | d+1,x,cs,⟨en,lv,mv,kids,h1,h2,h3⟩=>⟨en,lv,mv,kids,h1,h2,h3.imp fun x cs _ h=>Rf h⟩
theorem aaf{t:Bool}{w:av}{F:aJ}{d e:Nat}{x:Nd}{cs:aI}(h:d<=e)(hx:ol t d w F x cs):ol t e w F x cs:=by
 induction e with
 | zero=>have:d=0:=(by omega);subst this;exact hx
 | succ e ih=>
  by_cases he:d=e+1
  ·subst he;exact hx
  ·exact Rf (ih (by omega))
theorem D6{t:Bool}{w:av}{F:aJ}{x:Ac}{cs:aI}(h:rA t w F x cs):rA false w F x cs:=by
 obtain⟨c,h1,h2⟩:=h;exact⟨c,h1,Re h2⟩
theorem VQ{t:Bool}{w:av}{F:aJ}{x:Mv}{cs:aI}(h:Jd t w F x cs):Jd false w F x cs:=by
 obtain⟨c,tv,tg,h1,h2,h3,h4⟩:=h;exact⟨c,tv,tg,h1,Re h2,h3.off fun _ _ _ h=>D6 h,h4.off fun _ _ _ h=>h⟩
theorem D5.off{t:Bool}{w:av}{F:aJ}{x:Nb}{en lv mv:Sl}(h:D5 t w F x en lv mv):D5 false w F x en lv mv:=⟨h.1.off fun _ _ _ h=>D6 h,h.2.1.off fun _ _ _ h=>D6 h,h.2.2.off fun _ _ _ h=>VQ h⟩
theorem LP{t:Bool}{w:av}{F:aJ}:∀{d:Nat} {x:Nd} {cs:aI},ol t d w F x cs->ol false d w F x cs
 | 0,_,_,h=>h.elim
 | d+1,x,cs,⟨en,lv,mv,kids,h1,h2,h3⟩=>⟨en,lv,mv,kids,h1,h2.off,h3.off fun x cs _ h=>LP h⟩
structure ChR (t:Bool) (d:Nat) (w:av) (F:aJ) (c:Ch) (vs:Sl) (cs:aI):Prop where
 vars:jM t Uf 3 95 w F vs c.vars
 root:ol t d w F c.root cs
abbrev Fr(B:Nat):aJ:=fun k=>B<=k
section
variable {α:Type} {r:Rp α} {size:Nat} {e:TypeId} {w w':av} {s:Sl} {xs:List α} {B:Nat}
theorem _root_.Go.Kt.Own.stay(hr:r.Ok)(h:Own r size e B w (Fr B) s xs){bs:List Nat}(hO:ay bs w w')(hb:∀x,x∈bs->x<B∨w.heap.size<=x):Own r size e B w' (Fr B) s xs:=by
 refine((h.inHeap hr).keep hr fun k hk bS=>hO.block k bS fun hm=>?_).mono hr fun k hk=>hk.1;have iM:B<=k/\k<w.heap.size:=by
  rcases hk with hk | hk
  ·exact hk
  ·exact⟨hk.1,bS⟩
 rcases hb k hm with h | h<;>omega
theorem _root_.Go.Kt.Own.new(h:Own r size e B w (Fr B) s xs){k:Nat}(hk:w.heap.size<=k):s.a≠some ⟨k,0,none⟩:=fun e=>by
 have:=(h.blk e).2;dsimp only at this;omega
end
mutual
def Fu:Ex->Nat
 | .mk _ _ _ _ l _=>X3 l+1
def X3:List Ex->Nat
 | []=>0
 | x::l=>max (Fu x) (X3 l)
end
mutual
def Cu:Ex->Nat
 | .mk _ _ s _ l _=>N3 l+(s.length+1)
def N3:List Ex->Nat
 | []=>0
 | x::l=>Cu x+N3 l
end
theorem D7(x:Ex):Fu x=X3 x.fF+1:=by cases x;rw[Fu];rfl
theorem D8(x:Ex):Cu x=N3 x.fF+(x.s.length+1):=by cases x;rw[Cu];rfl
theorem yS{y:Ex}:∀{l:List Ex},y∈l->Fu y<=X3 l
 | [],h=>by simp at h
 | x::l,h=>by
  rw[X3];rcases aU.1 h with rfl | h
  ·exact T8 _ _
  ·exact bp (yS h) (O4 _ _)
theorem LQ{y:Ex}:∀{l:List Ex},y∈l->Cu y<=N3 l
 | [],h=>by simp at h
 | x::l,h=>by
  rw[N3];rcases aU.1 h with rfl | h
  ·omega
  ·have:=LQ h;omega
theorem Rg{d:Nat}:∀{l:List Ex},(∀y,y∈l->Fu y<=d)->X3 l<=d
 | [],_=>by rw[X3];omega
 | x::l,h=>by
  rw[X3];exact Nat.max_le.2 ⟨h x (by simp),Rg fun y hy=>h y (by simp[hy])⟩
theorem D9(x:Ex):1<=Fu x:=by rw[D7];omega
theorem Rh{w:av}{F:aJ}:∀{d:Nat} {x:Ex} {cs:aI},xf d w F x cs->Fu x<=d
 | 0,_,_,h=>h.elim
 | d+1,x,cs,⟨sl,h1,h2⟩=>by
  rw[D7];refine O5 (Rg fun y hy=>?_);obtain⟨j,hj⟩:=eT hy;obtain⟨_,cs,_,_,_,_,h⟩:=h2.at_ j y hj;exact Rh h
theorem Aq{f g:Ex->Bool}:∀{l:List Ex},(∀y,y∈l->f y=g y)->oy f l=oy g l
 | [],_=>rfl
 | x::l,h=>by rw[oy,oy,h x (by simp),Aq fun y hy=>h y (by simp[hy])]
theorem GS:∀(d e:Nat) (x:Ex),Fu x<=d->Fu x<=e->eK d x=eK e x
 | 0,_,x,h,_=>by have:=D9 x;omega
 | _,0,x,_,h=>by have:=D9 x;omega
 | d+1,e+1,x,h,k=>by
  rw[D7]at h k;rw[eK,eK,Aq fun y hy=>GS d e y (by have:=yS hy;omega) (by have:=yS hy;omega)]
theorem LR:∀(d e:Nat) (x:Ex) (wr:Bool) (l:aH),Fu x<=d->Fu x<=e->vi d x wr l=vi e x wr l
 | 0,_,x,_,_,h,_=>by have:=D9 x;omega
 | _,0,x,_,_,_,h=>by have:=D9 x;omega
 | d+1,e+1,x,wr,l,h,k=>by
  rw[D7]at h k;have hm:∀y,y∈x.fF->Fu y<=d/\Fu y<=e:=fun y hy=>by have:=yS hy;omega
  rw[vi,vi];cases hx:x.fF with
  | nil=>rfl
  | cons y m=>
   cases m with
   | nil=>
    have hy:=hm y (by rw[hx];simp);dsimp only;rw[LR d e y _ _ hy.1 hy.2]
   | cons z m=>
    cases m with
    | nil=>
     have hy:=hm y (by rw[hx];simp);have hz:=hm z (by rw[hx];simp);dsimp only;rw[LR d e y _ _ hy.1 hy.2,LR d e z _ _ hz.1 hz.2]
    | cons _ _=>rfl
theorem Je:∀(d:Nat) (x:Ex),kZ d x<=Cu x
 | 0,x=>bh _
 | d+1,x=>by
  rw[kZ,D8];have:∀l:List Ex,nD (kZ d) l<=N3 l:=fun l=>by
   induction l with
   | nil=>exact bh _
   | cons y l ih=>rw[nD,N3];exact jR (Je d y) ih
  have:=this x.fF;omega
theorem Ri:∀(d:Nat) (x:Ex),Cu x<4611686018427387903->Al d x
 | 0,x,_=>trivial
 | d+1,x,h=>by
  rw[D8]at h;exact⟨by omega,fun y hy=>Ri d y (by have:=LQ hy;omega)⟩
def okN(x:Ex):Prop:=∀d,rv d x
def Cv(x:Ex):aH:=uu (Fu x) x
theorem VR{d:Nat}{x:Ex}(h:Fu x<=d):uu d x=Cv x:=by
 unfold Cv uu;rw[GS d (Fu x) x h (aX _),LR d (Fu x) x false [] h (aX _)]
theorem Rj{d:Nat}{x:Ex}(h:uu d x≠[]):eK d x=true/\uu d x=vi d x false []/\(oI (vi d x false [])).2.1=0:=by
 unfold uu at h⊢;by_cases hs:eK d x=true
 ·rw[if_pos hs]at h⊢;by_cases hr:(oI (vi d x false [])).2.1≠0
  ·rw[if_pos hr]at h;exact absurd rfl h
  ·rw[if_neg hr];exact⟨hs,rfl,by simpa using hr⟩
 ·rw[if_neg hs]at h;exact absurd rfl h
theorem VS{w:av}{F:aJ}{x:Ex}{cs:aI}(hx:rE false w F x cs)(hn:okN x)(hs:Cu x<=1759218604441)(hE:Er w)(hT:Tb w):
  az aq 247 #[ah cs.toArray] w fun e w'=>e=ak (ab (T (Cv x)))/\ay [] w w':=by
 obtain⟨d,h⟩:=hx;have h:=D4 h;rw[<-VR (Rh h)];exact aab h (Ri d x (by omega)) (hn d) hE hT (by have:=Je d x;omega)
def xU(x:Ex):Bool:=(((x.k==0&&x.n==0)&&decide (x.s=[]))&&x.op==0)&&((x.fF.length:Int)==0)
def Ar(x:Ex):Bool:=decide (Cv x≠[])
def mS(a:Ac):Bool:=decide (1<=a.k/\a.k<=3)&&eM a.n&&(if a.k=2 then xU a.x else Ar a.x)
def BM(m:Mv):Bool:=
 decide (1<=m.k/\m.k<=3)&&(if m.k=1 then eM m.ev else decide (m.ev=[]))&&(if m.gd then Ar m.g else xU m.g)&&m.acts.all mS&&m.tg.all eM&&decide (m.wt=0∨m.k=3/\0<m.wt)
def lg(k:Int):Bool:=decide (k=3∨k=4)
def GU(b:Nb)(kids:Nat):Bool:=
 eM b.nm&&(if lg b.k then eM b.dft&&decide (b.ini=[]/\b.en=[]/\b.lv=[]/\b.mv.length=0/\kids=0)
  else decide ((b.k=1∨b.k=2)/\b.dft=[])&&(decide (b.ini=[])||eM b.ini)&&b.en.all mS&&b.lv.all mS&&b.mv.all BM)
mutual
def qT:Nat->Nd->Bool
 | d,.mk b l=>decide (d<12)&&GU b l.length&&nq (d+1) l
def nq:Nat->List Nd->Bool
 | _,[]=>true
 | d,x::l=>qT d x&&nq d l
end
def X6(b:Nb):Nat:=b.en.length+b.lv.length+(b.mv.map fun m=>m.acts.length).sum
mutual
def iQ:Nd->Nat
 | .mk _ l=>dJ l+1
def dJ:List Nd->Nat
 | []=>0
 | x::l=>iQ x+dJ l
end
mutual
def Bp:Nd->Nat
 | .mk b l=>b.mv.length+xi l
def xi:List Nd->Nat
 | []=>0
 | x::l=>Bp x+xi l
end
mutual
def Cw:Nd->Nat
 | .mk b l=>X6 b+uT l
def uT:List Nd->Nat
 | []=>0
 | x::l=>Cw x+uT l
end
def GV(c:Ch):Bool:=
 (c.vars.all fun v=>eM v.n&&decide (v.v≠ -9223372036854775808))&&qT 0 c.root&&decide (c.root.b.k=1/\c.vars.length<=16/\iQ c.root<=64/\Bp c.root<=200/\Cw c.root<=400)
def Pc(a:Ac):aH:=
 if a.k=2 then lc++32::(a.n++[59])else(if a.k=1 then uc else nj)++32::(a.n++32::61::32::(Cv a.x++[59]))
def VT:List Ac->aH
 | []=>[]
 | a::l=>32::(Pc a++VT l)
def FZ(l:List Ac):aH:=123::(VT l++[32,125])
def tgT:List (aH)->aH
 | []=>[]
 | s::l=>44::32::(s++tgT l)
def hdT(m:Mv):aH:=if m.k=1 then Jb++32::m.ev else if m.k=3 then kz++32::Lib.itoa m.wt else ku
def gdT(m:Mv):aH:=if m.gd then 32::91::(Cv m.g++[93])else[]
def Ug(m:Mv):aH:=
 hdT m++(gdT m++((if m.acts=[]then[]else 32::FZ m.acts)++((match m.tg with
  | []=>[]
  | s::l=>32::45::62::32::(s++tgT l))++[59])))
def kW(k:Int):aH:=if k=1 then DX else if k=2 then tK else if k=3 then vZ else LF
abbrev Ln:=Nat×aH
def VU(d:Nat)(b:Nb):List Ln:=if b.ini=[]then[]else[(d,gn++32::(b.ini++[59]))]
def enL(d:Nat)(b:Nb):List Ln:=if b.en=[]then[]else[(d,jh++32::FZ b.en)]
def lvL(d:Nat)(b:Nb):List Ln:=if b.lv=[]then[]else[(d,ji++32::FZ b.lv)]
def mvL(d:Nat)(b:Nb):List Ln:=b.mv.map fun m=>(d,Ug m)
def nbL(d:Nat)(b:Nb):List Ln:=VU d b++(enL d b++(lvL d b++mvL d b))
mutual
def ndL:Nat->Nd->List Ln
 | d,.mk b l=>
  if lg b.k then[(d,kW b.k++32::(b.nm++32::45::62::32::(b.dft++[59])))]
  else(d,kW b.k++32::(b.nm++[32,123]))::(nbL (d+1) b++(yB (d+1) l++[(d,[125])]))
def yB:Nat->List Nd->List Ln
 | _,[]=>[]
 | d,x::l=>ndL d x++yB d l
end
def vrT(v:Vr):aH:=GK++32::(v.n++32::61::32::(Lib.itoa v.v++[59]))
def X7(c:Ch):List Ln:=
 (0,gA++32::(c.root.b.nm++[32,123]))::((c.vars.map fun v=>(1,vrT v))++(nbL 1 c.root.b++(yB 1 c.root.kids++[(0,[125])])))
def N4:Nat->aH
 | 0=>[]
 | d+1=>32::32::N4 d
def lnT(p:Ln):aH:=N4 p.1++(p.2++[10])
def pU(b:aH)(p:Ln):aH:=if 16384<b.length then b else b++lnT p
def iI(b:aH)(L:List Ln):aH:=L.foldl pU b
theorem jN(b:aH)(L M:List Ln):iI b (L++M)=iI (iI b L) M:=vC
def X8(a:Ac):Prop:=okN a.x
structure mvN (m:Mv):Prop where
 g:okN m.g
 a:∀x,x∈m.acts->X8 x
 w:rS m.wt
structure nbN (b:Nb):Prop where
 en:∀a,a∈b.en->X8 a
 lv:∀a,a∈b.lv->X8 a
 mv:∀m,m∈b.mv->mvN m
mutual
def LS:Nd->Prop
 | .mk b l=>nbN b/\Au l
def Au:List Nd->Prop
 | []=>True
 | x::l=>LS x/\Au l
end
structure UL (c:Ch):Prop where
 v:∀v,v∈c.vars->rS v.v
 r:LS c.root
structure cN where
 k:Int
 nm:aH
 pa:Int
 dp:Int
 en:Int
mutual
def yC(a:Nat)(pa dp:Int):Nd->List cN
 | .mk b l=>⟨b.k,b.nm,pa,dp,((a+1+dJ l:Nat):Int)⟩::pV (a+1) a (dp+1) l
def pV(a:Nat)(pa dp:Int):List Nd->List cN
 | []=>[]
 | x::l=>yC a pa dp x++pV (a+iQ x) pa dp l
end
mutual
theorem lh(a:Nat)(pa dp:Int):∀x,(yC a pa dp x).length=iQ x
 | .mk b l=>by rw[yC,iQ,bf,wc]
theorem wc(a:Nat)(pa dp:Int):∀l,(pV a pa dp l).length=dJ l
 | []=>by rw[pV,dJ];rfl
 | x::l=>by rw[pV,dJ,aP,lh,wc]
end
theorem Av:∀l m:List Nd,dJ (l++m)=dJ l+dJ m
 | [],m=>by rw[dJ,ck,bO]
 | x::l,m=>by rw[bZ,dJ,dJ,Av l m,dA]
theorem LU(pa dp:Int):∀(l m:List Nd) (a:Nat),pV a pa dp (l++m)=pV a pa dp l++pV (a+dJ l) pa dp m
 | [],m,a=>by rw[ck,pV,ck,dJ,dG]
 | x::l,m,a=>by rw[bZ,pV,pV,LU pa dp l m,dJ,bH,dA]
theorem LV:∀x,1<=iQ x
 | .mk b l=>by rw[iQ];omega
theorem nM{y:Nd}:∀{l:List Nd} {j:Nat},l[j]? =some y->dJ (l.take j)+iQ y<=dJ l
 | [],_,h=>by simp at h
 | x::l,0,h=>by
  rw[ci,aZ]at h;subst h;rw[cM,dJ,dJ];omega
 | x::l,j+1,h=>by
  have:=nM (l:=l) (j:=j) (by rwa[cu]at h);rw[dV,dJ,dJ];omega
theorem pW:∀l:List Nd,l.length<=dJ l
 | []=>bh _
 | a::l=>by
  have:=pW l;have:=LV a;rw[dJ,bf];omega
def Aw(L:List cN)(a i:Nat)(s:cN):Prop:=∃p t,p<i/\L[p]? =some t/\s.pa=((a+p:Nat):Int)/\s.dp=t.dp+1/\((a+i:Nat):Int)<t.en/\s.en<=t.en/\∀j u,p<j->j<i->L[j]? =some u->u.en<=((a+i:Nat):Int)
theorem Aw.ze{L M:List cN}{a i:Nat}{s:cN}(h:Aw L a i s)(hi:i<L.length):Aw (L++M) a i s:=by
 obtain⟨p,t,h1,h2,h3,h4,h5,h6,h7⟩:=h;refine⟨p,t,h1,?_,h3,h4,h5,h6,fun j u g1 g2 g3=>h7 j u g1 g2 ?_⟩
 ·rw[bK (by omega)];exact h2
 ·rwa[bK (by omega)]at g3
theorem Aw.shift{L M:List cN}{a i:Nat}{s:cN}(h:Aw M (a+L.length) i s):Aw (L++M) a (L.length+i) s:=by
 obtain⟨p,t,h1,h2,h3,h4,h5,h6,h7⟩:=h;refine⟨L.length+p,t,by omega,?_,by rw[h3];omega,h4,by omega,h6,fun j u g1 g2 g3=>?_⟩
 ·rw[bT (by omega),dF];exact h2
 ·rw[bT (by omega)]at g3;have:=h7 (j-L.length) u (by omega) (by omega) g3;omega
mutual
theorem Jf(a:Nat)(pa dp:Int):∀(x:Nd) (i:Nat) (s:cN),(yC a pa dp x)[i]? =some s->((a+i:Nat):Int)<s.en/\s.en<=((a+iQ x:Nat):Int)/\(i=0->s.pa=pa/\s.dp=dp/\s.en=((a+iQ x:Nat):Int))/\(0<i->Aw (yC a pa dp x) a i s)
 | .mk b l,i,s,h=>by
  rw[yC]at h⊢;rw[iQ];cases i with
  | zero=>
   rw[ci,aZ]at h;subst h;dsimp only;exact⟨by omega,by omega,fun _=>⟨rfl,rfl,by omega⟩,fun h=>by omega⟩
  | succ i=>
   rw[cu]at h;obtain⟨h1,h2,h3⟩:=Rk (a+1) a (dp+1) l i s h;refine⟨by omega,by omega,fun h=>by omega,fun _=>?_⟩;rcases h3 with⟨g1,g2,g3⟩ | g
   ·refine⟨0,_,by omega,ci,by rw[g1,dG],g2,by dsimp only;omega,by dsimp only;omega,fun j u k1 k2 k3=>?_⟩;cases j with
    | zero=>omega
    | succ j=>
     rw[cu]at k3;have:=g3 j u (by omega) k3;omega
   ·have:=Aw.shift (L:=[⟨b.k,b.nm,pa,dp,((a+1+dJ l:Nat):Int)⟩]) (M:=pV (a+1) a (dp+1) l) (a:=a) (i:=i) (s:=s) g;rw[bG,fK 1 i]at this;exact this
theorem Rk(a:Nat)(pa dp:Int):∀(l:List Nd) (i:Nat) (s:cN),(pV a pa dp l)[i]? =some s->((a+i:Nat):Int)<s.en/\s.en<=((a+dJ l:Nat):Int)/\
  ((s.pa=pa/\s.dp=dp/\∀j u,j<i->(pV a pa dp l)[j]? =some u->u.en<=((a+i:Nat):Int))∨Aw (pV a pa dp l) a i s)
 | [],i,s,h=>by rw[pV]at h;simp at h
 | x::l,i,s,h=>by
  rw[pV]at h⊢;rw[dJ];have hl:=lh a pa dp x;by_cases hi:i<iQ x
  ·rw[bK (by omega)]at h;obtain⟨h1,h2,h3,h4⟩:=Jf a pa dp x i s h;refine⟨h1,by omega,?_⟩;by_cases h0:i=0
   ·obtain⟨g1,g2,g3⟩:=h3 h0;exact .inl ⟨g1,g2,fun j u hj=>by omega⟩
   ·exact .inr ((h4 (by omega)).ze (by omega))
  ·rw[bT (by omega),hl]at h;obtain⟨h1,h2,h3⟩:=Rk (a+iQ x) pa dp l (i-iQ x) s h;refine⟨by omega,by omega,?_⟩;rcases h3 with⟨g1,g2,g3⟩ | g
   ·refine .inl ⟨g1,g2,fun j u hj hu=>?_⟩;by_cases OA:j<iQ x
    ·rw[bK (by omega)]at hu;have:=(Jf a pa dp x j u hu).2.1;omega
    ·rw[bT (by omega),hl]at hu;have:=g3 (j-iQ x) u (by omega) hu;omega
   ·refine .inr ?_;rw[<-hl]at g;have:=Aw.shift (L:=yC a pa dp x) g;rw[hl]at this;rwa[show iQ x+(i-iQ x)=i by omega]at this
end
structure Fo (xs:List cN):Prop where
 ne:0<xs.length
 rt:∀s:cN,xs[0]? =some s->s.pa= -1/\s.dp=0/\s.en=(xs.length:Int)
 up:∀(i:Nat) (s:cN),xs[i]? =some s->(i:Int)<s.en/\s.en<=(xs.length:Int)
 pa:∀(i:Nat) (s:cN),0<i->xs[i]? =some s->Aw xs 0 i s
def cF(c:Ch):List cN:=yC 0 (-1) 0 c.root
theorem yT(c:Ch):Fo (cF c):=by
 unfold cF;have hl:=lh 0 (-1) 0 c.root;have h:=Jf 0 (-1) 0 c.root;refine⟨by have:=LV c.root;omega,fun s hs=>?_,fun i s hs=>?_,fun i s hi hs=>(h i s hs).2.2.2 hi⟩
 ·obtain⟨h1,h2,h3⟩:=(h 0 s hs).2.2.1 rfl;exact⟨h1,h2,by rw[h3,hl];omega⟩
 ·obtain⟨h1,h2,_⟩:=h i s hs;exact⟨by omega,by omega⟩
section
variable {xs:List cN} (F:Fo xs) {i j k p:Nat} {s t u:cN}
include F
theorem Fo.lam:∀(k:Nat) {i:Nat} {s t:cN},xs[i]? =some s->xs[k]? =some t->i<k->(k:Int)<s.en->t.en<=s.en
 | k,i,s,t,hi,hk,bS,hs=>by
  obtain⟨p,v,h1,h2,h3,h4,h5,h6,h7⟩:=F.pa k t (by omega) hk;by_cases hp:p<i
  ·have:=h7 i s hp bS hi;omega
  ·by_cases he:p=i
   ·subst he;rw[hi,aZ]at h2;subst h2;exact h6
   ·have:=Fo.lam p hi h2 (by omega) (by omega);omega
theorem Fo.par(hk:xs[k]? =some t)(h0:0<k):∃(p:Nat) (s:cN),p<k/\t.pa=(p:Int)/\xs[p]? =some s/\t.dp=s.dp+1/\(k:Int)<s.en/\∀(i:Nat) (u:cN),xs[i]? =some u->i<k->(k:Int)<u.en->i<=p:=by
 obtain⟨p,v,h1,h2,h3,h4,h5,h6,h7⟩:=F.pa k t h0 hk;refine⟨p,v,h1,by rw[h3];omega,h2,h4,by omega,fun i u hu hi iM=>?_⟩;by_cases hp:p<i
 ·have:=h7 i u hp hi hu;omega
 ·omega
omit F in
theorem fJ {xs:List cN} {i:Nat} {s:cN} (h:xs[i]? =some s):i<xs.length:=(aV.1 h).1
omit F in
theorem gV {xs:List cN} {i:Nat} (h:i<xs.length):∃s,xs[i]? =some s:=⟨_,aW h⟩
end
def qU(xs:List cN)(b a:Nat):Prop:=∃s,xs[b]? =some s/\b<=a/\(a:Int)<s.en
section
variable {xs:List cN} (F:Fo xs) {i j k p:Nat}
include F
theorem Fo.Bd(h:qU xs i j):j<xs.length:=by
 obtain⟨s,h1,h2,h3⟩:=h;have:=(F.up i s h1).2;omega
theorem Fo.wC(h:i<xs.length):qU xs i i:=by
 obtain⟨s,hs⟩:=gV h;exact⟨s,hs,aX _,(F.up i s hs).1⟩
theorem Fo.S5(h:i<xs.length):qU xs 0 i:=by
 obtain⟨s,hs⟩:=gV F.ne;exact⟨s,hs,bh _,by rw[(F.rt s hs).2.2];omega⟩
theorem Fo.EW(h:qU xs i j)(g:qU xs j k):qU xs i k:=by
 obtain⟨s,h1,h2,h3⟩:=h;obtain⟨t,g1,g2,g3⟩:=g;refine⟨s,h1,by omega,?_⟩;by_cases he:i=j
 ·subst he;rw[h1,aZ]at g1;subst g1;exact g3
 ·have:=F.lam j h1 g1 (by omega) h3;omega
theorem Fo.EX(h:qU xs i k)(g:qU xs j k)(tW:i<=j):qU xs i j:=by
 obtain⟨s,h1,h2,h3⟩:=h;obtain⟨t,g1,g2,g3⟩:=g;exact⟨s,h1,tW,by omega⟩
end
inductive Ups (xs:List cN):Int->List Int->Prop
 | stop {i:Int}:i<0->Ups xs i []
 | go {i:Nat} {s:cN} {l:List Int}:xs[i]? =some s->Ups xs s.pa l->Ups xs i ((i:Int)::l)
def Top(xs:List cN)(l:List Int)(r:Int):Prop:=∃m:Nat,r=m/\(∀n:Int,n∈l->∃k:Nat,n=k/\qU xs m k)/\∀j:Nat,(∀n:Int,n∈l->∃k:Nat,n=k/\qU xs j k)->j<=m
def wL(xs:List cN)(n:Int):Prop:=0<=n/\n<xs.length
def Mt(xs:List cN)(l:List Int)(r:Int):Prop:=((l=[]∨∃n,n∈l/\¬wL xs n)/\r= -1)∨((l≠[]/\∀n,n∈l->wL xs n)/\Top xs l r)
theorem Mt.agA{xs:List cN}{l:List Int}{r:Int}(h:Mt xs l r)(h1:l≠[])(h2:∀n,n∈l->wL xs n):Top xs l r:=by
 rcases h with⟨hb | ⟨n,hn,hh⟩,_⟩ | ⟨_,h⟩
 ·exact absurd hb h1
 ·exact absurd (h2 n hn) hh
 ·exact h
def fT(xs:List cN)(i n:Nat):List Int:=((List.range n).filter fun k=>decide ((xs[k]?).map (fun s:cN=>s.pa)=some (i:Int))).map fun k:Nat=>(k:Int)
theorem oO(xs:List cN)(i n:Nat):fT xs i (n+1)=fT xs i n++if(xs[n]?).map (fun s:cN=>s.pa)=some (i:Int)then[(n:Int)]else[]:=by
 unfold fT;rw[List.range_succ,fj,cJ];by_cases h:(xs[n]?).map (fun s:cN=>s.pa)=some (i:Int)
 ·rw[if_pos h,List.filter_cons_of_pos (by simpa using h)];rfl
 ·rw[if_neg h,List.filter_cons_of_neg (by simpa using h)];rfl
theorem sK{xs:List cN}{i:Nat}:∀(d n:Nat),(∀k,n<=k->k<n+d->(xs[k]?).map (fun s:cN=>s.pa)≠some (i:Int))->fT xs i (n+d)=fT xs i n
 | 0,n,_=>rfl
 | d+1,n,h=>by
  rw[<-dA,oO,if_neg (h (n+d) (by omega) (by omega)),bQ,sK d n fun k h1 h2=>h k h1 (by omega)]
section
variable {xs:List cN} (F:Fo xs) {i k:Nat} {s t:cN}
include F
theorem Fo.uy(hk:xs[k]? =some t):t.pa<k:=by
 by_cases h0:0<k
 ·obtain⟨p,s,h1,h2,_⟩:=F.par hk h0;omega
 ·have:k=0:=by omega
  subst this;rw[(F.rt t hk).1];omega
theorem Fo.amW(hi:xs[i]? =some s):fT xs i (i+1)=[]:=by
 have:∀n,n<=i+1->fT xs i n=[]:=by
  intro n
  induction n with
  | zero=>intro _;rfl
  | succ n ih=>
   intro h;rw[oO,ih (by omega),if_neg,bQ];intro e;cases hx:xs[n]? with
   | none=>rw[hx]at e;cases e
   | some u=>
    rw[hx,dR,aZ]at e;have:=F.uy hx;omega
 exact this _ (aX _)
theorem Fo.aa6(hi:xs[i]? =some s)(hk:xs[k]? =some t)(hik:i<k)(hs:(k:Int)<s.en)(hb:∀(j:Nat) u,i<j->j<k->xs[j]? =some u->u.en<=(k:Int)):t.pa=(i:Int):=by
 obtain⟨p,v,h1,h2,h3,h4,h5,h6⟩:=F.par hk (by omega);have e1:=h6 i s hi hik hs;by_cases he:p=i
 ·rw[h2,he]
 ·have:=hb p v (by omega) h1 h3;omega
theorem Fo.S6(hk:xs[k]? =some t){n:Nat}(hn:t.en=n)(hb:∀(j:Nat) u,i<j->j<k->xs[j]? =some u->u.en<=(k:Int)):∀(j:Nat) u,i<j->j<n->xs[j]? =some u->u.en<=(n:Int):=by
 intro j u h1 h2 h3;have hkn:=(F.up k t hk).1;by_cases e:j<k
 ·have:=hb j u h1 e h3;omega
 ·by_cases e':j=k
  ·subst e';rw[hk,aZ]at h3;subst h3;omega
  ·have:=F.lam j hk h3 (by omega) (by omega);omega
theorem Fo.S7(hi:xs[i]? =some s)(hk:xs[k]? =some t)(hik:i<k)(hs:(k:Int)<s.en){n:Nat}(hn:t.en=n)(hb:∀(j:Nat) u,i<j->j<k->xs[j]? =some u->u.en<=(k:Int)):fT xs i n=fT xs i k++[(k:Int)]:=by
 have hkn:=(F.up k t hk).1;have:=sK (xs:=xs) (i:=i) (n-(k+1)) (k+1) fun j h1 h2 e=>by
  cases hx:xs[j]? with
  | none=>rw[hx]at e;cases e
  | some u=>
   rw[hx,dR,aZ]at e;obtain⟨p,v,g1,g2,g3,g4,g5,g6⟩:=F.par hx (by omega);have:=g6 k t hk (by omega) (by omega);omega
 rw[show k+1+(n-(k+1))=n by omega,oO,if_pos (by rw[hk,dR,F.aa6 hi hk hik hs hb])]at this;exact this
theorem Fo.WG(hi:xs[i]? =some s){n:Nat}(hn:s.en=n):fT xs i xs.length=fT xs i n:=by
 have hu:=F.up i s hi;have:=sK (xs:=xs) (i:=i) (xs.length-n) n fun j h1 h2 e=>by
  cases hx:xs[j]? with
  | none=>rw[hx]at e;cases e
  | some u=>
   rw[hx,dR,aZ]at e;obtain⟨p,v,g1,g2,g3,g4,g5,g6⟩:=F.par hx (by omega);have:p=i:=by omega
   subst this;rw[hi,aZ]at g3;subst g3;omega
 rw[show n+(xs.length-n)=xs.length by omega]at this;exact this
end
theorem xV(xs:List cN)(i:Nat):∀n,List.Pairwise (· <·) (fT xs i n)/\∀k,k∈fT xs i n->k<(n:Int)
 | 0=>⟨List.Pairwise.nil,fun k h=>by simp[fT]at h⟩
 | n+1=>by
  obtain⟨h1,h2⟩:=xV xs i n;rw[oO];split
  ·refine⟨gM.2 ⟨h1,xK _ _,fun a ha b hb=>?_⟩,fun k hk=>?_⟩
   ·simp only[aN]at hb;subst hb;exact h2 a ha
   ·rcases bR.1 hk with hk | hk
    ·have:=h2 k hk;omega
    ·simp only[aN]at hk;subst hk;omega
  ·rw[bQ];exact⟨h1,fun k hk=>by have:=h2 k hk;omega⟩
abbrev Ft:=Int×Int
def oY(f:Ft)(L:List Ft):Ft:=L.foldl (fun f p=>if f.1=0 then p else f) f
def bad(ok:Bool)(e a:Int):List Ft:=if ok then[]else[(e,a)]
theorem jv(f:Ft)(L M:List Ft):oY f (L++M)=oY (oY f L) M:=vC
theorem Rl{f:Ft}(h:f.1≠0):∀L,oY f L=f
 | []=>rfl
 | p::L=>by
  show oY (if f.1=0 then p else f) L=f;rw[if_neg h];exact Rl h L
def Cd(L:List Ft):Prop:=∀p,p∈L->p.1≠0
theorem Cd.nil:Cd []:=fun p h=>by simp at h
theorem Cd.ze{L M:List Ft}(h:Cd L)(g:Cd M):Cd (L++M):=fun p hp=>(bR.1 hp).elim (h p) (g p)
theorem Cd.bad{ok:Bool}{e a:Int}(h:e≠0):Cd (bad ok e a):=fun p hp=>by
 unfold Con.bad at hp;split at hp
 ·simp at hp
 ·simp only[aN]at hp;subst hp;exact h
theorem Cd.flat{α:Type}{f:α->List Ft}(h:∀x,Cd (f x))(l:List α):Cd (l.flatMap f):=fun p hp=>by
 obtain⟨x,_,hx⟩:=qu.1 hp;exact h x p hx
theorem Rm{L:List Ft}(hL:Cd L)(h:(oY (0,0) L).1=0):L=[]:=by
 cases L with
 | nil=>rfl
 | cons p L=>
  have hp:=hL p (by simp);have e:oY (0,0) (p::L)=oY p L:=rfl;rw[e,Rl hp]at h;exact absurd h hp
theorem LW{ok:Bool}{e a:Int}:bad ok e a=[]↔ok=true:=by
 unfold bad;cases ok<;>simp
theorem VV(f:Ft)(ok:Bool)(e a:Int):oY f (bad ok e a)=if(!ok&&f.1==0)=true then(e,a)else f:=by
 unfold bad;cases ok
 ·by_cases h:f.1=0
  ·simp[oY,h]
  ·simp[oY,h]
 ·simp[oY]
def ir(xs:List cN)(s:aH):Int:=if uv s (xs.map fun x:cN=>x.nm)<xs.length then(uv s (xs.map fun x:cN=>x.nm):Nat)else -1
def oZ(xs:List cN)(n:Int):Int:=match xs[n.toNat]? with
 | some x=>x.k
 | none=>0
def GW(xs:List cN)(n:Int):Int:=match xs[n.toNat]? with
 | some x=>x.pa
 | none=>0
def stM(xs:List cN)(s:aH):Bool:=decide (0<=ir xs s)&&!lg (oZ xs (ir xs s))
def N5(xs:List cN)(b a:Nat):Bool:=match xs[b]? with
 | some s=>decide (b<=a)&&decide ((a:Int)<s.en)
 | none=>false
def pX(xs:List cN)(b a:Int):Bool:=decide (0<=b/\0<=a)&&N5 xs b.toNat a.toNat
def sL(xs:List cN)(a b:Int):Bool:=decide (a≠b)&&pX xs b a
def GX(xs:List cN)(a b:Int):Nat->Int
 | 0=> -1
 | m+1=>if(pX xs m a&&pX xs m b)=true then m else GX xs a b m
def GY(xs:List cN)(a b:Int):Int:=GX xs a b xs.length
def Rn(xs:List cN)(a b:Int):Bool:=decide (GY xs a b≠a/\GY xs a b≠b)&&decide (oZ xs (GY xs a b)=2)
def Rq(xs:List cN)(s:aH):Int:=if lg (oZ xs (ir xs s))then GW xs (ir xs s)else ir xs s
def X9(xs:List cN):List Int->List (aH)->Bool
 | _,[]=>true
 | l,s::r=>if ir xs s<1 then false else if(l.any fun o=>!Rn xs (Rq xs s) o)then false else X9 xs (l++[Rq xs s]) r
mutual
def Jg:Nd->List (aH×Int)
 | .mk b l=>(b.nm,b.a)::yD l
def yD:List Nd->List (aH×Int)
 | []=>[]
 | x::l=>Jg x++yD l
end
def xW:List (aH)->List (aH×Int)->List Ft
 | _,[]=>[]
 | l,p::r=>bad (!decide (p.1∈l)) 24 p.2++xW (l++[p.1]) r
theorem Ea:∀(p q:List (aH×Int)) (l:List (aH)),xW l (p++q)=xW l p++xW (l++p.map fun x=>x.1) q
 | [],q,l=>by rw[ck,xW,ck,eV,bQ]
 | x::p,q,l=>by rw[bZ,xW,xW,Ea p q,bH,bD,bH];rfl
theorem LX:∀l m:List Nd,yD (l++m)=yD l++yD m
 | [],m=>by rw[ck,yD,ck]
 | x::l,m=>by rw[bZ,yD,yD,LX l m,bH]
mutual
theorem Rr(a:Nat)(pa dp:Int):∀x,(yC a pa dp x).map (fun s:cN=>s.nm)=(Jg x).map fun p=>p.1
 | .mk b l=>by rw[yC,Jg,bD,bD,Jh]
theorem Jh(a:Nat)(pa dp:Int):∀l,(pV a pa dp l).map (fun s:cN=>s.nm)=(yD l).map fun p=>p.1
 | []=>by rw[pV,yD];rfl
 | x::l=>by rw[pV,yD,cJ,cJ,Rr,Jh]
end
theorem VW(x:List Nd):(yD x).length=dJ x:=by
 have:=bI List.length (Jh 0 0 0 x);rw[bm,bm,wc]at this;exact this.symm
theorem Ji:∀(p:List (aH×Int)) (l:List (aH)),Cd (xW l p)
 | [],l=>Cd.nil
 | x::p,l=>Cd.ze (Cd.bad (by decide)) (Ji p _)
section
variable (xs:List cN) (vs:List (aH))
def Uh(k:Int)(s:aH):Bool:=(decide (k≠2)||decide (s∈vs))&&(decide (k≠3)||stM xs s)
mutual
def Ui:Ex->List Ft
 | .mk k n s op l a=>bad (Uh xs vs k s) 23 a++ud l
def ud:List Ex->List Ft
 | []=>[]
 | x::l=>Ui x++ud l
end
theorem aaj(x:Ex):Ui xs vs x=bad (Uh xs vs x.k x.s) 23 x.a++ud xs vs x.fF:=by cases x;rw[Ui];rfl
theorem GZ:∀l m:List Ex,ud xs vs (l++m)=ud xs vs l++ud xs vs m
 | [],m=>by rw[ck,ud,ck]
 | x::l,m=>by rw[bZ,ud,ud,GZ l m,bH]
def acF(a:Ac):List Ft:=bad (decide (a.k≠1)||decide (a.n∈vs)) 23 a.a++Ui xs vs a.x
def ue(l:List Ac):List Ft:=l.flatMap (acF xs vs)
def af8(m:Mv):Bool:=(m.k !=3)||(decide (m.wt>0)&&decide (m.wt<=1099511627776))
def Ib(m:Mv):List Ft:=bad (af8 m) 28 m.a++(Ui xs vs m.g++(ue xs vs m.acts++bad (X9 xs [] m.tg) 27 m.a))
def N6(l:List Nd):Nat:=(l.filter fun x=>!lg x.b.k).length
def VX(s:aH)(l:List Nd):Bool:=l.any fun x=>decide (x.b.nm=s)
def Ax(b:Nb)(l:List Nd)(at_:Nat):List Ft:=
 if lg b.k then bad (stM xs b.dft&&sL xs (ir xs b.dft) (GW xs at_)) 26 b.a
 else if b.k=2 then bad (decide (b.ini=[])&&decide (1<N6 l)) 25 b.a
 else if 0<N6 l then bad (VX b.ini l) 25 b.a
 else bad (decide (b.ini=[])) 25 b.a++bad (decide (l.length=0)) 26 b.a
mutual
def Pe:Nat->Nd->List Ft
 | n,.mk b l=>Ax xs b l n++(ue xs vs (b.en++b.lv)++(b.mv.flatMap (Ib xs vs)++qV (n+1) l))
def qV:Nat->List Nd->List Ft
 | _,[]=>[]
 | n,x::l=>Pe n x++qV (n+iQ x) l
end
theorem G0:∀(l m:List Nd) (n:Nat),qV xs vs n (l++m)=qV xs vs n l++qV xs vs (n+dJ l) m
 | [],m,n=>by rw[ck,qV,ck,dJ,dG]
 | x::l,m,n=>by rw[bZ,qV,qV,G0 l m,bH,dJ,dA]
mutual
theorem Jj:∀x,Cd (Ui xs vs x)
 | .mk k n s op l a=>by rw[Ui];exact Cd.ze (Cd.bad (by decide)) (LY l)
theorem LY:∀l,Cd (ud xs vs l)
 | []=>by rw[ud];exact Cd.nil
 | x::l=>by rw[ud];exact Cd.ze (Jj x) (LY l)
end
theorem aak(a:Ac):Cd (acF xs vs a):=Cd.ze (Cd.bad (by decide)) (Jj xs vs a.x)
theorem L0(l:List Ac):Cd (ue xs vs l):=Cd.flat (aak xs vs) l
theorem aal(m:Mv):Cd (Ib xs vs m):=Cd.ze (Cd.bad (by decide)) (Cd.ze (Jj xs vs _) (Cd.ze (L0 xs vs _) (Cd.bad (by decide))))
theorem aam(b:Nb)(l:List Nd)(n:Nat):Cd (Ax xs b l n):=by
 unfold Ax;split
 ·exact Cd.bad (by decide)
 ·split
  ·exact Cd.bad (by decide)
  ·split
   ·exact Cd.bad (by decide)
   ·exact Cd.ze (Cd.bad (by decide)) (Cd.bad (by decide))
mutual
theorem Rs:∀(n:Nat) (x:Nd),Cd (Pe xs vs n x)
 | n,.mk b l=>by rw[Pe];exact Cd.ze (aam xs b l n) (Cd.ze (L0 xs vs _) (Cd.ze (Cd.flat (aal xs vs) _) (L1 (n+1) l)))
theorem L1:∀(n:Nat) (l:List Nd),Cd (qV xs vs n l)
 | n,[]=>by rw[qV];exact Cd.nil
 | n,x::l=>by rw[qV];exact Cd.ze (Rs n x) (L1 _ l)
end
end
def Ic(c:Ch):List (aH):=c.vars.map fun v=>v.n
def Cx(c:Ch):List Ft:=xW [] (Jg c.root)++(xW [] (c.vars.map fun v=>(v.n,v.a))++Pe (cF c) (Ic c) 0 c.root)
theorem Rt(c:Ch):Cd (Cx c):=Cd.ze (Ji _ _) (Cd.ze (Ji _ _) (Rs _ _ _ _))
theorem L2{s:aH}:∀{l:List (aH)},uv s l<l.length->l[uv s l]? =some s
 | [],h=>by simp at h
 | x::l,h=>by
  rw[uv]at h⊢;split
  ·rename_i e;rw[e];rfl
  ·rename_i e;rw[if_neg e,bf]at h;rw[cu];exact L2 (by omega)
theorem nG{s:aH}:∀{l:List (aH)},uv s l<l.length↔s∈l
 | []=>by simp
 | x::l=>by
  rw[uv,aU,bf];split
  ·rename_i e;exact⟨fun _=>.inl e,fun _=>by omega⟩
  ·rename_i e;have:=nG (s:=s) (l:=l);exact⟨fun h=>.inr (this.1 (by omega)),fun h=>by have:=this.2 (h.resolve_left e);omega⟩
theorem L3{s:aH}(m:List (aH)):∀{l:List (aH)},s∈l->uv s (l++m)=uv s l
 | [],h=>by simp at h
 | x::l,h=>by
  rw[bZ,uv,uv];split
  ·rfl
  ·rename_i e;rw[L3 m ((aU.1 h).resolve_left e)]
theorem Eb{s:aH}(m:List (aH)):∀{l:List (aH)},s∉l->uv s (l++s::m)=l.length
 | [],_=>by rw[ck,uv,if_pos rfl];rfl
 | x::l,h=>by
  rw[bZ,uv,if_neg (fun e=>h (by rw[e];simp)),Eb m (fun hm=>h (cX _ hm))];rfl
section
variable {xs:List cN} {s:aH}
theorem oP(xs:List cN)(s:aH):(ir xs s= -1/\∀x∈xs,x.nm≠s)∨∃(n:Nat) (x:cN),ir xs s=n/\xs[n]? =some x/\x.nm=s:=by
 unfold ir;split
 ·rename_i h;right;have:=L2 (l:=xs.map fun x:cN=>x.nm) (s:=s) (by rw[bm];exact h);rw[ch,fW]at this;obtain⟨x,hx,e⟩:=this;exact⟨_,x,rfl,hx,e⟩
 ·rename_i h;refine .inl ⟨rfl,fun x hx e=>h ?_⟩;have:=(nG (s:=s) (l:=xs.map fun x:cN=>x.nm)).2 (eE.2 ⟨x,hx,e⟩);rwa[bm]at this
theorem kB{n:Nat}{x:cN}(h:xs[n]? =some x):oZ xs n=x.k:=by unfold oZ;rw[aY,h]
theorem li{n:Nat}{x:cN}(h:xs[n]? =some x):GW xs n=x.pa:=by unfold GW;rw[aY,h]
theorem pY{b a:Nat}:N5 xs b a=true↔qU xs b a:=by
 unfold N5 qU;cases h:xs[b]? with
 | none=>simp
 | some s=>simp
theorem sM{b a:Int}:pX xs b a=true↔∃i j:Nat,b=i/\a=j/\qU xs i j:=by
 unfold pX;rw[aQ,cA,pY];constructor
 ·rintro⟨⟨h1,h2⟩,h⟩;exact⟨_,_,(mz h1).symm,(mz h2).symm,h⟩
 ·rintro⟨i,j,rfl,rfl,h⟩;rw[aY,aY];exact⟨⟨by omega,by omega⟩,h⟩
theorem Ay{a b:Int}:sL xs a b=true↔∃i j:Nat,b=i/\a=j/\i<j/\qU xs i j:=by
 unfold sL;rw[aQ,cA,sM];constructor
 ·rintro⟨hn,i,j,rfl,rfl,h⟩;have:=h;obtain⟨_,_,lC,_⟩:=this;exact⟨i,j,rfl,rfl,by omega,h⟩
 ·rintro⟨i,j,rfl,rfl,h,hc⟩;exact⟨by omega,i,j,rfl,rfl,hc⟩
theorem Cy(a b:Int):∀n:Nat,(GX xs a b n= -1/\∀m,m<n->(pX xs m a&&pX xs m b)=false)∨∃m:Nat,GX xs a b n=m/\m<n/\(pX xs m a&&pX xs m b)=true/\∀j,m<j->j<n->(pX xs j a&&pX xs j b)=false
 | 0=>.inl ⟨rfl,fun m h=>by omega⟩
 | n+1=>by
  rw[GX];split
  ·rename_i h;exact .inr ⟨n,rfl,by omega,h,fun j h1 h2=>by omega⟩
  ·rename_i h;rw[qv]at h;rcases Cy a b n with⟨h1,h2⟩ | ⟨m,h1,h2,h3,h4⟩
   ·exact .inl ⟨h1,fun m hm=>if e:m=n then by rw[e];exact h else h2 m (by omega)⟩
   ·exact .inr ⟨m,h1,by omega,h3,fun j g1 g2=>if e:j=n then by rw[e];exact h else h4 j g1 (by omega)⟩
theorem Fo.WH(F:Fo xs){a b r:Int}(h:Mt xs [a,b] r)(ha:wL xs a)(hb:wL xs b):r=GY xs a b:=by
 have hg:∀n,n∈[a,b]->wL xs n:=fun n hn=>by
  simp only[aU,ba,bW]at hn;rcases hn with rfl | rfl
  ·exact ha
  ·exact hb
 obtain⟨m,rfl,t1,t2⟩:=h.agA (by simp) hg;have both:∀j:Nat,(pX xs j a&&pX xs j b)=true↔∀n:Int,n∈[a,b]->∃k:Nat,n=k/\qU xs j k:=fun j=>by
  rw[aQ,sM,sM];constructor
  ·rintro⟨⟨i,k,e,rfl,h1⟩,⟨i',k',e',rfl,h2⟩⟩ n hn;simp only[aU,ba,bW]at hn;have ei:j=i:=by omega
   have ei':j=i':=by omega
   subst ei ei';rcases hn with rfl | rfl
   ·exact⟨k,rfl,h1⟩
   ·exact⟨k',rfl,h2⟩
  ·intro h;obtain⟨k,e,h1⟩:=h a (by simp);obtain⟨k',e',h2⟩:=h b (by simp);exact⟨⟨j,k,rfl,e,h1⟩,⟨j,k',rfl,e',h2⟩⟩
 have hm:=(both m).2 t1;have Bx:m<xs.length:=by
  obtain⟨k,_,s,hs,_⟩:=t1 a (by simp);exact fJ hs
 unfold GY;rcases Cy (xs:=xs) a b xs.length with⟨_,h2⟩ | ⟨q,h1,h2,h3,h4⟩
 ·rw[h2 m Bx]at hm;cases hm
 ·have:=t2 q ((both q).1 h3);by_cases e:q=m
  ·rw[h1,e]
  ·rw[h4 m (by omega) Bx]at hm;cases hm
end
end Go.Proofs.YtbkjcdocjfknfaaGreatDoor.Con
