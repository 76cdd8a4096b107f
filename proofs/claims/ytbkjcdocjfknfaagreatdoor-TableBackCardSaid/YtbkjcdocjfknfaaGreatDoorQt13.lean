import Derived.Test.YtbkjcdocjfknfaaGreatDoorQt12
set_option linter.unusedSectionVars false
namespace Go.Proofs.YtbkjcdocjfknfaaGreatDoor.Con
open Go.Value renaming int->O,string->ab,pointer->ae,agg->ah,tuple->ai,bool->aj
open Go.IntKind renaming i64->U,wrap->ar
open Go.Ending renaming returned->ak
open _root_.ByteArray renaming mk->ao
open _root_.Go.Proofs.Tryz renaming prog->aq
open Go.Instr renaming buildSlice->au
open Go renaming World->av,Value->aw,Calls->az
open Go.Kt renaming Only->ay,SliceF->aA,Cells->aB,OnlyP->aD,Blk->aF
open Go Go.RowKit Go.Kt Go.Kt.V Go.Proofs.YtbkjcdocjfknfaaGreatDoor.Vc
set_option linter.unusedSimpArgs false
set_option linter.unusedVariables false
set_option maxHeartbeats 4000000
set_option maxRecDepth 100000
set_option linter.unusedSectionVars false
section
variable {B:Nat} {w w':av} {s:Sl} {l d:List Int}
theorem Vw{F:aJ}{sa:Sl}{act:List Int}(ha:aA rInt 1 w F sa act)(hm:act.length<=1000000000):az aq 48 #[sa.v] w fun e w'=>∃s:Sl,e=ak s.v/\fD w.heap.size w' s act/\ay [] w w':=by
 have hi:∀x,x∈act->rn x:=fun x hx=>by
  obtain⟨cs,h⟩:=ha.mem hx;exact h.2
 obtain⟨a,n,c⟩:=sa;have hl:=ha.len;dsimp only at hl;subst hl;cases a with
 | none=>
  have:=ER ha rfl;subst this;refine(Tryz.slices_Clone_int_nil 0 c w).mono ?_;rintro _ u ⟨rfl,hu⟩;obtain rfl:w=u:=hu.symm;exact⟨Sl.nil,rfl,Own.nil _ _ _ _ _ _,Only.refl _ _⟩
 | some base=>
  by_cases h0:act=[]
  ·subst h0;refine(Tryz.slices_Clone_int_zero base c w).mono ?_;rintro _ w' ⟨v,rfl,h1,_,h2⟩;obtain⟨s,rfl,hs⟩:=fD.ofRow (l:=[]) h1 hi;exact⟨s,rfl,hs,Only.nZ h2⟩
  ·have h0:0<act.length:=pJ.2 h0;obtain⟨alj,cs,e1,_,eH,c0,_⟩:=ha.at_ 0 _ (bB h0);injection e1 with e1;subst e1;obtain⟨b,o,sp⟩:=base;have Kh:sp=none:=by
    cases cs with
    | nil=>cases eH
    | cons v cs=>exact World.cell?_spot (c0 0 v rfl)
   subst Kh;have vC:∀j,j<act.length->w.cell? ⟨b,o+j,none⟩=some (.int U (act.getD j 0)):=fun j hj=>by
    obtain⟨base,cs,e1,_,_,c0,hc,_⟩:=ha.at_ j _ (bB hj);injection e1 with e1;subst e1 hc;have:=c0 0 _ rfl;rw[eU,eU]at this;rw[rm,bB hj];simpa using this
   refine(Tryz.slices_Clone_int b o act.length c act w (aV _) (by omega) vC).mono ?_;rintro _ w' ⟨v,rfl,h1,_,h2⟩;rw[bA (aV _)]at h1;obtain⟨s,rfl,hs⟩:=fD.ofRow (l:=act) h1 hi;exact⟨s,rfl,hs,Only.nZ h2⟩
end
section
theorem NC(w:av)(k:Int):az aq 53 #[O U k] w fun e w'=>e=ak (aj (stK k))/\w'=w:=by
 refine ret (ZI _ _ _ ?_);exact⟨rfl,rfl⟩
theorem ND{m:Nat}(h:m<2 ^ 64)(n:Int):Ky m n<2 ^ 64:=Nat.or_lt_two_pow h (lH n)
theorem FJ(xs:List du)(i:Nat):∀n,Et xs i n<2 ^ 64
 | 0=>Nat.pow_pos (by decide)
 | n+1=>by
  unfold Et;split
  ·exact ND (FJ xs i n) _
  ·exact FJ xs i n
theorem FK(xs:List du)(i:Nat):∀n,Ic xs i n<2 ^ 64
 | 0=>Nat.pow_pos (by decide)
 | n+1=>by
  unfold Ic;split
  ·exact ND (FK xs i n) _
  ·exact FK xs i n
theorem NE(xs:List du)(a:Nat):∀(l:List Mv) (i j:Nat),(wq xs a i l)[j]? =(l[j]?).map fun m=>JG xs a (i+j) m
 | [],i,j=>by rw[wq];rfl
 | m::l,i,0=>by rw[wq];rfl
 | m::l,i,j+1=>by
  rw[wq,cz,cz,NE xs a l];congr 1;funext m;congr 1;omega
theorem NF{w w':av}{a:Addr}{v:aw}{cs:aI}(h:aB w a (v::cs))(hO:ay [] w w'):aB w' a (v::cs):=h.keep (hO.block _ (by
 have:=h 0 v rfl;unfold World.cell? at this;refine ch fun hn=>?_;rw[show(a.add 0).block=a.block from rfl,dU (by omega)]at this;cases this) (by simp))
section
variable {w u:av} {F:aJ} {sn sv su sc se s si sd sr:Sl} {b:Nat} {nm:List (aH)} {ce:List Ce} {ed:List Nat} {p:Pl}
structure Two (w:av) (b:Nat) (sn sc:Sl) (nm:List (aH)) (ce:List Ce) (x:aH) (y:Ce) (yw u6:Sl) (u:av):Prop where
 n:Own im 1 9 (b+1) u (fun _=>False) yw (nm++[x])
 c:Own It 11 44 (b+1) u (fun _=>False) u6 (ce++[y])
 o:aD (fun k=>eE sn k∨eE sc k) w u
 n1:∀k,eE yw k->eE sn k∨w.heap.size<=k
 c1:∀k,eE u6 k->eE sc k∨w.heap.size<=k
 ap:∀k,eE yw k->¬eE u6 k
theorem Rh(u:av)(x:aH):∃y w1,(au 31 1 #[.mk 0 (ab (T x))]).run aq u=.ok (Sl.v y) w1/\ay [] u w1/\aA im 1 w1 (fun k=>u.heap.size<=k/\k<w1.heap.size) y [x]:=
 Rg (e:=9) (i:=Tryz.t9) (z:=ab (ao #[])) (by kernel_rfl) (by kernel_rfl) rfl rfl (by decide) (by decide) cG rfl rfl
theorem Vx(u:av)(x:Ce)(l m:Sl):∃y w1,(au 33 1 #[.mk 0 (ah #[O U x.k,O U x.pa,.int .u64 (x.up:Nat),.int .u64 (x.dn:Nat),.int .u64 (x.rg:Nat),O U x.ini,O U x.dft,l.v,m.v,O U (x.f0:Nat),O U (x.f1:Nat)])]).run aq u=.ok (Sl.v y) w1/\ay [] u w1/\aA It 11 w1 (fun k=>u.heap.size<=k/\k<w1.heap.size) y [x]:=
 Rg (e:=44) (i:=Tryz.t44) (by kernel_rfl) (by kernel_rfl) rfl rfl (by decide) (by decide) iA rfl ⟨l,m,rfl⟩
theorem agd{A:Nat}{u:av}{s y:Sl}{xs:List (aH)}{x:aH}(h:Own im 1 9 A u (fun _=>False) s xs)(hA:A<=u.heap.size){G:aJ}(hy:aA im 1 u G y [x])(hG:∀k,G k->¬eE s k)(hm:xs.length<=1000):
  ∃s' w2,(Builtin.append_ #[31,31] 31 #[Sl.v s,Sl.v y]).run aq u=.ok (Sl.v s') w2/\Own im 1 9 A w2 (fun _=>False) s' (xs++[x])/\aD (eE s) u w2/\∀k,eE s' k->eE s k∨u.heap.size<=k:=
 Ny (i:=Tryz.t9) (bytes:=16) (by kernel_rfl) (by kernel_rfl) rfl rfl rfl rfl (by decide) cG D2 h hA hy hG (by omega)
theorem age{A:Nat}{u:av}{s y:Sl}{xs:List Ce}{x:Ce}(h:Own It 11 44 A u (fun _=>False) s xs)(hA:A<=u.heap.size){G:aJ}(hy:aA It 11 u G y [x])(hG:∀k,G k->¬eE s k)(hm:xs.length<=1000):
  ∃s' w2,(Builtin.append_ #[33,33] 33 #[Sl.v s,Sl.v y]).run aq u=.ok (Sl.v s') w2/\Own It 11 44 A w2 (fun _=>False) s' (xs++[x])/\aD (eE s) u w2/\∀k,eE s' k->eE s k∨u.heap.size<=k:=
 Ny (i:=Tryz.t44) (bytes:=120) (by kernel_rfl) (by kernel_rfl) rfl rfl rfl rfl (by decide) iA NA h hA hy hG (by omega)
theorem agf(u:av)(v:aI)(x:Nat)(hv:v.length=16)(h:Nz u (fun _=>False) x v):∃y w1,(au 34 1 #[.mk 0 (ah v.toArray)]).run aq u=.ok (Sl.v y) w1/\ay [] u w1/\aA Nz 16 w1 (fun k=>u.heap.size<=k/\k<w1.heap.size) y [x]:=
 Rg (e:=66) (i:=Tryz.t66) (by kernel_rfl) (by kernel_rfl) rfl rfl (by decide) (by decide) oY hv h
theorem agh{A:Nat}{u:av}{s y:Sl}{xs:List Nat}{x:Nat}(h:Own Nz 16 66 A u (fun _=>False) s xs)(hA:A<=u.heap.size){G:aJ}(hy:aA Nz 16 u G y [x])(hG:∀k,G k->¬eE s k)(hm:xs.length<=100000000):
  ∃s' w2,(Builtin.append_ #[34,34] 34 #[Sl.v s,Sl.v y]).run aq u=.ok (Sl.v s') w2/\Own Nz 16 66 A w2 (fun _=>False) s' (xs++[x])/\aD (eE s) u w2/\∀k,eE s' k->eE s k∨u.heap.size<=k:=
 Ny (i:=Tryz.t66) (bytes:=192) (by kernel_rfl) (by kernel_rfl) rfl rfl rfl rfl (by decide) oY NB h hA hy hG (by omega)
theorem Ma.seq(h:Ma w b F sn sv su sc se s si sd sr nm ce ed p){u1:av}(o1:ay [] w u1){y1:Sl}{x:aH}{G1:aJ}(hy1:aA im 1 u1 G1 y1 [x])(g1:∀k,G1 k->w.heap.size<=k)(hm:nm.length<=1000)(IC:ce.length<=1000):
  ∃yw u2,(Builtin.append_ #[31,31] 31 #[Sl.v sn,Sl.v y1]).run aq u1=.ok (Sl.v yw) u2/\aD (eE sn) u1 u2/\∀{u3:av},ay [] u2 u3->∀{y2:Sl} {y:Ce} {G2:aJ},aA It 11 u3 G2 y2 [y]->(∀k,G2 k->w.heap.size<=k)->
   ∃u6 u4,(Builtin.append_ #[33,33] 33 #[Sl.v sc,Sl.v y2]).run aq u3=.ok (Sl.v u6) u4/\aD (eE sc) u3 u4/\Two w b sn sc nm ce x y yw u6 u4:=by
 have bQ:=h.lt;have z1:=o1.size;have h1:=h.o0 o1;obtain⟨yw,u2,r1,r2,r3,r4⟩:=agd h1.n (by omega) hy1 (fun k hk e=>by have:=h.bn k e;have:=g1 k hk;omega) hm;have z2:=r3.size;refine⟨yw,u2,r1,r3,fun{u3} o2 {y2 y G2} hy2 g2=>?_⟩;have z3:=o2.size;have mB:Own It 11 44 (b+1) u2 (fun _=>False) sc ce:=h1.c.keep iA fun k hk bQ=>r3.block k bQ fun e=>(h.ap k e).1 (hk.resolve_left id).2;obtain⟨u6,u4,t1,t2,t3,t4⟩:=age (mB.keep iA fun k hk bQ=>o2.block k bQ (by simp)) (by omega) hy2 (fun k hk e=>by have:=h.bc k e;have:=g2 k hk;omega) IC;refine⟨u6,u4,t1,t3,(r2.keep cG fun k hk bQ=>o2.block k bQ (by simp)).keep cG fun k hk bQ=>t3.block k bQ fun e=>?_,t2,?_,fun k e=>(r4 k e).imp id fun h=>by omega,fun k e=>(t4 k e).imp id fun h=>by omega,fun k e e'=>?_⟩
 ·rcases r4 k (hk.resolve_left id).2 with e' | e'
  ·exact(h.ap k e').1 e
  ·have:=h.bc k e;omega
 ·exact((o1.oZ (r3.mono (G:=fun k=>eE sn k∨eE sc k) fun k _ e=>.inl e)).cp o2).trans (t3.mono (G:=fun k=>eE sn k∨eE sc k) fun k _ e=>.inr e) fun k e=>.inl e
 ·have hs:=(r2.blk e).2;dsimp only at hs;rcases r4 k e with e1 | e1
  ·rcases t4 k e' with e2 | e2
   ·exact(h.ap k e1).1 e2
   ·have:=h.bn k e1;omega
  ·rcases t4 k e' with e2 | e2
   ·have:=h.bc k e2;omega
   ·omega
theorem Ma.two(h:Ma w b F sn sv su sc se s si sd sr nm ce ed p){x:aH}{y:Ce}{yw u6:Sl}(t:Two w b sn sc nm ce x y yw u6 u):
  aF u b 93 [sn.v,sv.v,su.v,sc.v,se.v,s.v,si.v,sd.v,sr.v]/\∀w1,ay [b] u w1->aF w1 b 93 [yw.v,sv.v,su.v,sc.v,se.v,s.v,si.v,sd.v,sr.v]->∀w2,ay [b] w1 w2->aF w2 b 93 [yw.v,sv.v,su.v,u6.v,se.v,s.v,si.v,sd.v,sr.v]->
   Ma w2 b F yw sv su u6 se s si sd sr (nm++[x]) (ce++[y]) ed p/\pB b (Q3 sn sc se) w (Q3 yw u6 se) w2:=by
 have bQ:=h.lt;refine⟨t.o.blk h.blk fun e=>e.elim (fun e=>by have:=h.bn b e;omega) fun e=>by have:=h.bc b e;omega,fun w1 cA vw w2 cR qY=>?_⟩;have z:=t.o.size;have z1:=cA.size;have z2:=cR.size;have hq:∀k,Q3 yw u6 se k->Q3 sn sc se k∨w.heap.size<=k:=fun k hk=>by
  rcases hk with hk | hk | hk
  ·exact(t.n1 k hk).imp .inl id
  ·exact(t.c1 k hk).imp (fun h=>.inr (.inl h)) id
  ·exact .inl (.inr (.inr hk))
 have kp:∀k,k<w.heap.size->k≠b->¬Q3 sn sc se k->w2.heap[k]? =w.heap[k]? :=fun k h1 h2 h3=>by
  rw[cR.block k (by omega) (by simpa using h2),cA.block k (by omega) (by simpa using h2),t.o.block k h1 fun e=>h3 (e.imp id .inl)]
 refine⟨h.fin (by omega) kp (qt cG (qt cG t.n cA) cR) (qt iA (qt iA t.c cA) cR) (h.e.keep oY fun k hk bQ=>?_) hq (fun k e=>⟨t.ap k e,fun e'=>?_⟩) (fun k e e'=>?_) qY,⟨((t.o.mono (G:=fun k=>k=b∨Q3 sn sc se k) fun k _ e=>.inr (e.imp id .inl)).trans (cA.p (F:=fun k=>k=b) (by simp)) fun k hk=>.inl (.inl hk)).trans (cR.p (F:=fun k=>k=b) (by simp)) fun k hk=>.inl (.inl hk),hq⟩⟩
 ·have hk:=hk.resolve_left id;rw[cR.block k (by omega) (by simp;omega),cA.block k (by omega) (by simp;omega),t.o.block k bQ fun e=>e.elim (fun e=>(h.ap k e).2 hk.2) fun e=>h.ap2 k e hk.2]
 ·rcases t.n1 k e with e | e
  ·exact(h.ap k e).2 e'
  ·have:=h.be k e';omega
 ·rcases t.c1 k e with e | e
  ·exact h.ap2 k e e'
  ·have:=h.be k e';omega
end
theorem qs.head{xs:List du}{a:Nat}{pa dp:Int}{bb:Nb}{ks:List Nd}(h:qs xs (A7 a pa dp (.mk bb ks)) a):xs[a]? =some ⟨bb.k,bb.nm,pa,dp,((a+1+di ks:Nat):Int)⟩/\qs xs (rB (a+1) a (dp+1) ks) (a+1):=by
 unfold qs at h⊢;rw[A7]at h;exact⟨h 0 _ rfl,fun i x hi=>by rw[dJ,ku 1 i];exact h (i+1) x hi⟩
theorem qs.kid{xs:List du}{pa dp:Int}:∀{ks:List Nd} {a:Nat} {j:Nat} {y:Nd},qs xs (rB a pa dp ks) a->ks[j]? =some y->qs xs (A7 (a+di (ks.take j)) pa dp y) (a+di (ks.take j))
 | [],_,_,_,_,h=>by simp at h
 | x::ks,a,0,y,h,hy=>by
  rw[ck,aX]at hy;subst hy;rw[rB]at h;rw[cK,di,dx];exact h.left
 | x::ks,a,j+1,y,h,hy=>by
  rw[cz]at hy;rw[rB]at h;have:=h.right;rw[lD]at this;have:=qs.kid this hy;rw[ec,di,<-dJ];exact this
theorem D3{xs:List du}:∀{ks:List Nd} {a:Nat} {j:Nat} {y:Nd},ks[j]? =some y->∀{i:Nat} {r:Ro},(B3 xs (a+di (ks.take j)) y)[i]? =some r->(kj xs a ks)[oX (ks.take j)+i]? =some r
 | [],_,_,_,h,_,_,_=>by simp at h
 | x::ks,a,0,y,hy,i,r,h=>by
  rw[ck,aX]at hy;subst hy;rw[cK,di,dx]at h;rw[cK,oX,bJ,kj,bM (aY.1 h).1];exact h
 | x::ks,a,j+1,y,hy,i,r,h=>by
  rw[cz]at hy;rw[ec,di,<-dJ]at h;have:=D3 hy h;have hl:=Bp xs x a;rw[ec,oX,kj,bX (by omega),hl];rw[show JI x+oX (ks.take j)+i-JI x=oX (ks.take j)+i by omega];exact this
mutual
theorem Vy:∀x:Nd,JI x<=lm x
 | .mk b l=>by
  have:=BC l;have:=jK b.mv;rw[JI,lm];unfold zG;omega
theorem BC:∀l:List Nd,oX l<=fX l
 | []=>bp _
 | x::l=>by
  have:=Vy x;have:=BC l;rw[oX,fX];omega
end
section
variable {b:Nat} {F:aJ} {sv su s si sd sr:Sl} {p:Pl}
theorem Td(IP:Fo p.sp)(tY:p.sp.length<=64)(IH:p.ini.length=p.sp.length)(zQ:p.dft.length=p.sp.length):∀(D:Nat) {w:av} {G:aJ} {x:Nd} {cs:aI} {qn sc se:Sl} {nm:List (aH)} {ce:List Ce} {ed:List Nat} {pa dp:Int},
  mr false D w G x cs->(∀k,G k->k<b)->Ma w b F qn sv su sc se s si sd sr nm ce ed p->lm x<=8388608->qs p.sp (A7 ce.length pa dp x) ce.length->(∀j r,(B3 p.sp ce.length x)[j]? =some r->p.ro[ed.length+j]? =some r)->
  (∀i c,ce[i]? =some c->c.up=DX p.sp i/\c.dn=H9 p.sp i)->nm.length=ce.length->ed.length+lm x<=16777216->
  az aq 38 #[ae (some ⟨b,0,none⟩),ah cs.toArray] w fun e w'=>e=ak (ai #[])/\∃qn' u6 KS,Ma w' b F qn' sv su u6 KS s si sd sr (nm++(B4 x).map fun c=>c.nm) (ce++Kz p ce.length ed.length x) (ed++(B3 p.sp ce.length x).map (Ij p.sp)) p/\pB b (Q3 qn sc se) w (Q3 qn' u6 KS) w'
 | 0,_,_,_,_,_,_,_,_,_,_,_,_,h,_,_,_,_,_,_,_,_=>h.elim
 | D+1,w,G,.mk bb ks,cs,qn,sc,se,nm,ce,ed,pa,dp,⟨en,lv,mv,kids,lQ,⟨B9,Ca,ot⟩,gH⟩,hG,hM,hz,ab7,hro,hce,hnm,hed=>by
  have hk:=gH.1;have ot:=ot.1;have B9:=B9.1;have Ca:=Ca.1;clear gH;dsimp only[Nd.kids,Nd.b]at hk lQ ot B9 Ca;subst lQ;rw[lm]at hz hed;have RI:=hk.len;have KQ:=ot.len;have hnn:=nQ ks;have wx:=jK bb.mv;have hsb:(ir bb.en+ir bb.lv)+uJ bb.mv<=zG bb:=by unfold zG;omega
  obtain⟨hx,aca⟩:=ab7.head;have hal:=jm hx;have hup:=IP.up _ _ hx;have hql:ce.length+1+di ks<=p.sp.length:=by have:=hup.2;dsimp only at this;omega
  refine ret (ZG _ _ _ _ _ _ _ _ _ _ _ _ ?_);intro k0 w0 gH eW cE;have z0:=cE.size;have BM:=hM.lt;have hq:=hM.q3;have TT:=hM.o0 cE;have ai8:sc.n=ce.length:=hM.c.len;have ai9:se.n=ed.length:=hM.e.len;obtain⟨ad,a1,a2,_⟩:=pu TT.pl.sp hx;refine⟨sc,Blk.dT TT.blk 3 rfl,?_⟩;dsimp only;rw[ai8];refine⟨s,Blk.dT TT.blk 5 rfl,ad,a1,_,_,_,_,_,a2,fun k1 w1 lr jq cA=>⟨fun _=>True,trivial,trivial,fun w2 cR=>⟨trivial,?_⟩⟩⟩;have z1:=cA.size;have z2:=cR.size;have o2:=cA.cp cR;have hM2:=TT.o0 o2;obtain⟨iv,hiv⟩:∃iv,p.ini[ce.length]? =some iv:=⟨_,bB (by omega)⟩
  obtain⟨dv,hdv⟩:∃dv,p.dft[ce.length]? =some dv:=⟨_,bB (by omega)⟩
  obtain⟨ad1,b1,b2⟩:=oW hM2.pl.ini hiv;refine⟨si,Blk.dT hM2.blk 6 rfl,ad1,b1,fun w3 dl=>⟨trivial,iv,NF b2 dl,fun w4 dA=>⟨trivial,?_⟩⟩⟩;have o4:=(o2.cp dl).cp dA;have Yl:=TT.o0 o4;obtain⟨RV,c1,c2⟩:=oW Yl.pl.dft hdv;refine⟨sd,Blk.dT Yl.blk 7 rfl,RV,c1,fun w5 eJ=>⟨trivial,dv,NF c2 eJ,trivial,trivial,fun w6 eh=>⟨trivial,se,Blk.dT ((Yl.o0 eJ).o0 eh).blk 4 rfl,?_⟩⟩⟩;dsimp only;rw[ai9,KQ];intro w7 fm;have o7:=((o4.cp eJ).cp eh).cp fm;have z7:=o7.size;have q7:w1.heap.size<=w7.heap.size:=by have:=dl.size;have:=dA.size;have:=eJ.size;have:=eh.size;have:=fm.size;omega
  refine(BB (SliceF.only (cV false) (by decide) B9 (cE.cp o7) (by simp)) (by omega)).mono ?_;rintro _ w8 ⟨⟨t1,rfl⟩,fp⟩;have z8:=fp.size;refine⟨t1,rfl,fp.same (by simp;omega),ik.vq fp,bL.only fp,fun w9 fS=>?_⟩;have z9:=fS.size;have o9:=(o7.cp fp).cp fS;refine(BB (SliceF.only (cV false) (by decide) Ca (cE.cp o9) (by simp)) (by omega)).mono ?_;rintro _ dw ⟨⟨t2,rfl⟩,dR⟩;have Ob:=dR.size;refine⟨t2,rfl,dR.same (by simp;omega),ik.vq dR,bL.only dR,fun dr dS k2 qZ uc _ dX eM=>?_⟩;have BS:=dS.size;have z12:=eM.size;have Yg:ay [] w0 dX:=((o9.cp dR).cp dS).trans eM fun x hx=>.inr (by simp only[aN]at hx;omega);have en0:((ce.length+1+di ks:Nat):Int)=((ce.length+1+di ks:Nat):Int):=rfl;have eI:(p.ini[ce.length]?).getD 0=iv:=by rw[hiv];rfl
  have eD:(p.dft[ce.length]?).getD 0=dv:=by rw[hdv];rfl
  have wE:IntKind.i64.wrap ((ed.length:Int)+(bb.mv.length:Int))=((ed.length+bb.mv.length:Nat):Int):=by rw[fQ (by omega) (by omega)];omega
  refine⟨fun a1 a2 a3 a4 a5 a6 a7 l7 l8 a8 a9 u=>a1=bb.k/\a2=pa/\a3=(DX p.sp ce.length:Nat)/\a4=0/\a5=0/\a6=iv/\a7=dv/\a8=(ed.length:Nat)/\a9=((ed.length+bb.mv.length:Nat):Int)/\ay [] w0 u/\dX.heap.size<=u.heap.size,?_,fun KL RD Xj=>?_,fun KL=>⟨rfl,rfl,?_,rfl,rfl,rfl,rfl,rfl,wE,Yg,aV _⟩⟩;rotate_left
  ·have KL:=aP KL;have z64:=Xj.size;have acb:=TT.o0 (Yg.cp Xj);obtain⟨q,WE⟩:∃q:Nat,pa=q:=⟨pa.toNat,by omega⟩
   have TG:=IP.NX hx;dsimp only at TG;obtain⟨cq,hcq⟩:∃cq,ce[q]? =some cq:=⟨_,bB (by omega)⟩
   obtain⟨PH,y3,cs3,d1,d2,d3,d4,d5,el,ll,rfl⟩:=(acb.c.slice iA).get (bm q) (by omega);rw[aZ,hcq,aX]at d2;subst d2;refine⟨fun _=>True,trivial,sc,Blk.dT acb.blk 3 rfl,trivial,PH,by rw[WE];exact d1,trivial,_,d5.dT 2 _ rfl,(Bw RD pa).mono ?_⟩;rintro _ w65 ⟨rfl,hu⟩;obtain rfl:RD=w65:=hu.symm;refine⟨_,rfl,bS.refl _ _,fun _ _ _=>rfl,fun w66 ace=>⟨rfl,rfl,?_,rfl,rfl,rfl,rfl,rfl,wE,(Yg.cp Xj).trans ace fun x hx=>.inr (by simp only[aN]at hx;omega),by have:=ace.size;omega⟩⟩;have hu:=(hce q cq hcq).1;have bQ:cq.up<2 ^ 64:=by rw[hu];exact tV _
   rw[u64_or_nat _ _ bQ (lH pa),hu,Q7 IP tY hx WE,<-WE];rfl
  ·have KL:=aU KL;have h0:ce.length=0:=by
    refine Nat.eq_zero_of_not_pos fun hp=>?_;obtain⟨q,t,e1,e2,_⟩:=IP.par hx hp;dsimp only at e2;omega
   rw[h0,DY IP tY];rfl
  rintro a1' a2' a3' a4' a5' PG a7' l7 l8 a8' a9' eS ⟨g1,g2,g3,g4,g5,g6,g7,g8,g9,Yk,Ol⟩;have hl1:ce.length+1<=p.sp.length:=by omega
  refine⟨fun kv i a1 a2 a3 a4 a5 a6 a7 l7 l8 a8 a9 u=>∃q:Nat,i=(q:Int)/\ce.length+1<=q/\kv+q=ce.length+1+di ks/\a1=bb.k/\a2=pa/\a3=(DX p.sp ce.length:Nat)/\a4=(Et p.sp ce.length q:Nat)/\a5=(Ic p.sp ce.length q:Nat)/\a6=iv/\a7=dv/\a8=(ed.length:Nat)/\a9=((ed.length+bb.mv.length:Nat):Int)/\ay [] w0 u/\dX.heap.size<=u.heap.size,di ks,⟨ce.length+1,by rw[fQ (by omega) (by omega)];rfl,aV _,by omega,g1,g2,g3,by rw[g4,zN IP tY _ (aV _)];rfl,by rw[g5,zO IP tY _ (aV _) hl1];rfl,g6,g7,g8,g9,Yk,Ol⟩,?_⟩;clear g1 g2 g3 g4 g5 g6 g7 g8 g9 Yk Ol;rintro kv _ a1 a2 a3 a4 a5 a6 a7 l9 l10 a8 a9 eZ ⟨q,rfl,hq1,u5,g1,g2,g3,g4,g5,g6,g7,g8,g9,o14,TA⟩;refine⟨fun hc=>?_,fun hc=>?_⟩
  ·have hc:=aP hc;obtain⟨t,ht⟩:=mf (xs:=p.sp) (i:=q) (by omega);refine⟨fun a1 a2 a3 a4 a5 a6 a7 l7 l8 a8 a9 u=>a1=bb.k/\a2=pa/\a3=(DX p.sp ce.length:Nat)/\a4=(Et p.sp ce.length (q+1):Nat)/\a5=(Ic p.sp ce.length (q+1):Nat)/\a6=iv/\a7=dv/\a8=(ed.length:Nat)/\a9=((ed.length+bb.mv.length:Nat):Int)/\ay [] w0 u/\dX.heap.size<=u.heap.size,?_,fun gy ic=>⟨fun _=>True,trivial,?_⟩⟩
   ·rintro b1 b2 b3 b4 b5 b6 b7 pD qx b8 b9 fU ⟨e1,e2,e3,e4,e5,e6,e7,e8,e9,o15,z15⟩;exact⟨kv-1,by omega,q+1,by rw[fQ (by omega) (by omega)];rfl,by omega,by omega,e1,e2,e3,e4,e5,e6,e7,e8,e9,o15,z15⟩
   have z16:=ic.size;refine(Bw gy q).mono ?_;rintro _ fR ⟨rfl,hu⟩;obtain rfl:gy=fR:=hu.symm;refine⟨_,rfl,bS.refl _ _,fun _ _ _=>rfl,fun gI lf=>?_⟩;have z18:=lf.size;have Ya:ay [] w0 gI:=(o14.cp ic).trans lf fun x hx=>.inr (by simp only[aN]at hx;omega);have Xk:=TT.o0 Ya;have hdn:Et p.sp ce.length (q+1)=Ky (Et p.sp ce.length q) q:=by
    rw[Et,if_pos ⟨by omega,nT.2 ⟨_,hx,by omega,by dsimp only;omega⟩⟩]
   have edn:bits .or .u64 a4 ((rZ (q:Int):Nat):Int)=(Et p.sp ce.length (q+1):Nat):=by
    rw[g4,u64_or_nat _ _ (FJ _ _ _) (lH _),hdn];rfl
   refine⟨fun c u=>c=decide ((q:Int)∈rY p.sp ce.length)/\ay [] w0 u/\dX.heap.size<=u.heap.size,?_,?_⟩
   ·rintro c iL ⟨hcr,o19,z19⟩;refine⟨fun hb gJ lJ=>⟨fun _=>True,trivial,(Bw gJ q).mono ?_⟩,fun hb=>⟨g1,g2,g3,edn,?_,g6,g7,g8,g9,o19,z19⟩⟩
    ·rintro _ jO ⟨rfl,hu⟩;obtain rfl:gJ=jO:=hu.symm;have z20:=lJ.size;refine⟨_,rfl,bS.refl _ _,fun _ _ _=>rfl,fun mR yu=>⟨g1,g2,g3,edn,?_,g6,g7,g8,g9,(o19.cp lJ).trans yu fun x hx=>.inr (by simp only[aN]at hx;omega),by have:=yu.size;omega⟩⟩;rw[hb]at hcr;rw[g5,u64_or_nat _ _ (FK _ _ _) (lH _),Ic,if_pos (aP hcr.symm)];rfl
    ·rw[hb]at hcr;rw[g5,Ic,if_neg (aU hcr.symm)]
   ·obtain⟨PH,d1,d2,d3,_⟩:=pu Xk.pl.sp ht;refine⟨s,Blk.dT Xk.blk 5 rfl,PH,d1,t.pa,d3,fun he=>⟨s,Blk.dT Xk.blk 5 rfl,PH,d1,t.k,d2.dT 0 _ rfl,(NC gI t.k).mono ?_⟩,fun he=>⟨?_,Ya,by omega⟩⟩
    ·have he:t.pa=(ce.length:Int):=by simpa using he
     rintro _ mw ⟨rfl,hu⟩;obtain rfl:gI=mw:=hu.symm;refine⟨_,rfl,bS.refl _ _,?_,Ya,by omega⟩;rw[bT,dz,nY];constructor
     ·exact fun h=>⟨q,t,rfl,ht,he,h⟩
     ·rintro⟨q',t',e,h1,_,h3⟩;have:q'=q:=by omega
      subst this;rw[ht,aX]at h1;rw[h1];exact h3
    ·have he:¬t.pa=(ce.length:Int):=by simpa using he
     refine(bq fun h=>?_).symm;obtain⟨q',t',e,h1,h2,_⟩:=nY.1 h;have:q'=q:=by omega
     subst this;rw[ht,aX]at h1;rw[h1]at he;exact he h2
  have hc:=aU hc;have WE:q=ce.length+1+di ks:=by omega
  subst WE;obtain⟨y,hy⟩:∃y,y=Nu p ce.length ed.length bb:=⟨_,rfl⟩
  have hye:a1=y.k/\a2=y.pa/\a3=(y.up:Nat)/\a4=(y.dn:Nat)/\a5=(y.rg:Nat)/\a6=y.ini/\a7=y.dft/\a8=(y.f0:Nat)/\a9=((y.f1:Nat):Int):=by
   rw[hy];unfold Nu;dsimp only;rw[nS hx,eI,eD,<-Q8 IP tY hx rfl,<-Q9 IP tY hx rfl];exact⟨g1,g2,g3,g4,g5,g6,g7,g8,g9⟩
  clear g1 g2 g3 g4 g5 g6 g7 g8 g9;obtain⟨rfl,rfl,rfl,rfl,rfl,rfl,rfl,rfl,rfl⟩:=hye;have hyc:y.up=DX p.sp ce.length/\y.dn=H9 p.sp ce.length:=by rw[hy];exact⟨rfl,rfl⟩
  refine⟨fun u=>∃n1 c1,Ma u b F n1 sv su c1 se s si sd sr (nm++[bb.nm]) (ce++[y]) ed p/\pB b (Q3 qn sc se) w0 (Q3 n1 c1 se) u/\(∀k,Q3 n1 c1 se k->Q3 qn sc se k∨dX.heap.size<=k)/\dX.heap.size<=u.heap.size,?_,fun yE acf=>?_⟩;rotate_left
  ·have o46:=o14.cp acf;have z46:=acf.size;have Ej:=TT.o0 o46;have st:∀{u v:av} {P:aJ},aD P u v->(∀k,P k->eE qn k∨eE sc k)->yE.heap.size<=u.heap.size->bS [k0,k1,k2] u v/\bL (fun k=>k<yE.heap.size/\¬eE qn k/\¬eE sc k) u v:=fun hO hP hz=>by
    refine⟨hO.same fun x hx=>?_,fun k hk bQ=>hO.block k bQ fun e=>(hP k e).elim hk.2.1 hk.2.2⟩;simp only[aQ,aW,bP]at hx;refine⟨by omega,fun e=>?_⟩;have:=hP x e;rcases this with h | h
    ·have:=hM.bn x h;omega
    ·have:=hM.bc x h;omega
   have jb:b<yE.heap.size/\¬eE qn b/\¬eE sc b:=⟨by omega,fun e=>by have:=hM.bn b e;omega,fun e=>by have:=hM.bc b e;omega⟩
   have jk:∀k,w.heap.size<=k->k<yE.heap.size->k<yE.heap.size/\¬eE qn k/\¬eE sc k:=fun k h1 h2=>⟨h2,fun e=>by have:=hM.bn k e;omega,fun e=>by have:=hM.bc k e;omega⟩
   refine⟨fun k=>k<yE.heap.size/\¬eE qn k/\¬eE sc k,jb,qn,Blk.dT Ej.blk 0 rfl,jk k0 (by omega) (by omega),jb,sc,Blk.dT Ej.blk 3 rfl,jk k2 (by omega) (by omega),?_⟩;have fin:∀{u:av} {n1 c1:Sl},Two yE b qn sc nm ce bb.nm y n1 c1 u->∃ri vB z1 JP,(((⟨b,0,none⟩:Addr).add 0).add 0)=⟨ri,vB,none⟩/\aF u ri JP z1/\(vB+1)<=z1.length/\k0≠ri/\k1≠ri/\k2≠ri/\∀Og,ay [ri] u Og->aF Og ri JP (cd z1 vB [n1.v])->∃uU FW z2 Oa,(((⟨b,0,none⟩:Addr).add 0).add 3)=⟨uU,FW,none⟩/\aF Og uU Oa z2/\(FW+1)<=z2.length/\k0≠uU/\k1≠uU/\k2≠uU/\∀Oh,ay [uU] Og Oh->aF Oh uU Oa (cd z2 FW [c1.v])->
     ∃n1 c1,Ma Oh b F n1 sv su c1 se s si sd sr (nm++[bb.nm]) (ce++[y]) ed p/\pB b (Q3 qn sc se) w0 (Q3 n1 c1 se) Oh/\(∀k,Q3 n1 c1 se k->Q3 qn sc se k∨dX.heap.size<=k)/\dX.heap.size<=Oh.heap.size:=fun{u n1 c1} T=>by
    obtain⟨t1,t2⟩:=Ej.two T;refine⟨b,0,_,_,rfl,t1,ci rfl,by omega,by omega,by omega,fun Og aja acg=>⟨b,3,_,_,rfl,acg,ci rfl,by omega,by omega,by omega,fun Oh ajb ajc=>?_⟩⟩;obtain⟨t3,t4⟩:=t2 Og aja acg Oh ajb ajc;exact⟨n1,c1,t3,pB.of0 o46 t4,fun k hk=>(t4.2 k hk).imp id fun h=>by omega,by have:=t4.1.size;omega⟩
   refine⟨?_,?_⟩
   ·obtain⟨y1,Eb,p1,p2,p3⟩:=Rh yE bb.nm;have z47:=p2.size;have s47:=st (P:=fun _=>False) p2.p0 (fun _ h=>h.elim) (aV _);refine⟨y1,Eb,p1,s47.1,s47.2,?_,?_⟩
    ·obtain⟨n1,KK,r1,r3,r4⟩:=Ej.seq p2 p3 (fun k hk=>hk.1) (by omega) (by omega);have z48:=r3.size;have s48:=st r3 (fun _ h=>.inl h) z47;obtain⟨y2,Pw,q1,q2,q3⟩:=Vx KK y l9 l10;have z49:=q2.size;have s49:=st (P:=fun _=>False) q2.p0 (fun _ h=>h.elim) (by omega);obtain⟨c1,XZ,t1,t3,t4⟩:=r4 q2 q3 (fun k hk=>by omega);have s50:=st t3 (fun _ h=>.inr h) (by omega);exact⟨n1,KK,r1,s48.1,s48.2,y2,Pw,q1,s49.1,s49.2,c1,XZ,t1,s50.1,s50.2,fin t4⟩
    ·obtain⟨y2,V4,q1,q2,q3⟩:=Vx Eb y l9 l10;have z53:=q2.size;have s53:=st (P:=fun _=>False) q2.p0 (fun _ h=>h.elim) (by omega);obtain⟨n1,V5,r1,r3,r4⟩:=Ej.seq (p2.cp q2) (SliceF.only cG (by decide) p3 q2 (by simp)) (fun k hk=>hk.1) (by omega) (by omega);have z54:=r3.size;have s54:=st r3 (fun _ h=>.inl h) (by omega);obtain⟨c1,X1,t1,t3,t4⟩:=r4 (Only.refl _ _) (SliceF.kU iA (by decide) q3 r3 fun k hk _ e=>by have:=Ej.bn k e;omega) (fun k hk=>by omega);have s55:=st t3 (fun _ h=>.inr h) (by omega);exact⟨y2,V4,q1,s53.1,s53.2,n1,V5,r1,s54.1,s54.2,c1,X1,t1,s55.1,s55.2,fin t4⟩
   ·obtain⟨y2,Ty,q1,q2,q3⟩:=Vx yE y l9 l10;have z58:=q2.size;have s58:=st (P:=fun _=>False) q2.p0 (fun _ h=>h.elim) (aV _);obtain⟨y1,V6,p1,p2,p3⟩:=Rh Ty bb.nm;have z59:=p2.size;have s59:=st (P:=fun _=>False) p2.p0 (fun _ h=>h.elim) (by omega);obtain⟨n1,V7,r1,r3,r4⟩:=Ej.seq (q2.cp p2) p3 (fun k hk=>by omega) (by omega) (by omega);have z60:=r3.size;have s60:=st r3 (fun _ h=>.inl h) (by omega);obtain⟨c1,X2,t1,t3,t4⟩:=r4 (Only.refl _ _) (SliceF.kU iA (by decide) (SliceF.only iA (by decide) q3 p2 (by simp)) r3 fun k hk _ e=>by have:=Ej.bn k e;omega) (fun k hk=>by omega);have s61:=st t3 (fun _ h=>.inr h) (by omega);exact⟨y2,Ty,q1,s58.1,s58.2,y1,V6,p1,s59.1,s59.2,n1,V7,r1,s60.1,s60.2,c1,X2,t1,s61.1,s61.2,fin t4⟩
  rintro mS ⟨n1,c1,ajd,m24,aje,z24⟩;have ach:∀i c,(ce++[y])[i]? =some c->c.up=DX p.sp i/\c.dn=H9 p.sp i:=fun i c h=>by
   by_cases hi:i<ce.length
   ·rw[bM hi]at h;exact hce i c h
   ·rw[bX (by omega)]at h;have:i-ce.length=0:=by
     have:=(aY.1 h).1;rw[bK]at this;omega
    rw[this,ck,aX]at h;have:i=ce.length:=by omega
    rw[<-h,this];exact hyc
  have hf0:y.f0=ed.length:=by rw[hy];rfl
  have lq:(ce++[y]).length=ce.length+1:=by rw[aO,bK]
  have TU:∀{u:av} {Q':aJ},pB b (Q3 qn sc se) w0 Q' u->∀k,G k->¬(k=b∨Q3 qn sc se k):=fun m k RY=>by
   have:=hG k RY;exact fun h=>h.elim (by omega) fun h=>by have:=hq k h;omega
  have iq:∀{u:av} {Q':aJ},pB b (Q3 qn sc se) w0 Q' u->aA (mr false D) 9 u G kids ks:=fun m=>SliceF.kU (cw false D) (by decide) hk (cE.oZ m.1) fun k RY _=>TU m k RY;have hm':∀{u:av} {Q':aJ},pB b (Q3 qn sc se) w0 Q' u->aA (Ff false) 13 u G mv bb.mv:=fun m=>SliceF.kU (kc false) (by decide) ot (cE.oZ m.1) fun k RY _=>TU m k RY;have noq:∀{Q':aJ},(∀k,Q' k->Q3 qn sc se k∨dX.heap.size<=k)->∀k,w.heap.size<=k->k<dX.heap.size->¬Q' k:=fun hh k h1 h2 e=>by
   rcases hh k e with h | h
   ·have:=hq k h;omega
   ·omega
  refine⟨fun kv i u=>∃(j:Nat) (q:Sl),i=(j:Int)/\kv+j=bb.mv.length/\j<=bb.mv.length/\Ma u b F n1 sv su c1 q s si sd sr (nm++[bb.nm]) (ce++[y]) (ed++(wq p.sp ce.length 0 (bb.mv.take j)).map (Ij p.sp)) p/\pB b (Q3 qn sc se) w0 (Q3 n1 c1 q) u/\(∀k,Q3 n1 c1 q k->Q3 qn sc se k∨dX.heap.size<=k)/\dX.heap.size<=u.heap.size,bb.mv.length,⟨0,se,rfl,by omega,bp _,by rw[cK,wq,dV,bN];exact ajd,m24,aje,z24⟩,?_⟩;rintro kv _ kX ⟨j,q,rfl,RZ,hj,R1,m25,OU,z25⟩;refine⟨fun mB=>?_,fun mB=>?_⟩
  ·have mB:=aP mB;obtain⟨PH,m,ds,d1,d2,d3,d4,d5,d6⟩:=(hm' m25).get (bm j) (by omega);rw[aZ]at d2;obtain⟨gc,qC,tgl,rfl,TP,F7,sE⟩:=d6;obtain⟨sl,d,rfl,pL⟩:=Iq TP;have F7:=F7.1;have hmz:Fx m<=uJ bb.mv:=qm (bG d2);have htz:=wk m.tg;have q1:=Ir m.g;have q2:=BA d m.g.eN;unfold Fx at hmz;have lK:j<bb.mv.length:=by omega
   have hrj:p.ro[ed.length+j]? =some (JG p.sp ce.length j m):=by
    refine hro j _ ?_;rw[B3,bM (by rw[kB];exact lK),NE,d2,bJ];rfl
   refine⟨PH,d1,_,_,_,_,_,_,_,_,sl,_,qC,tgl,_,d5,fun k8 my hk8 RH gv=>⟨fun _=>True,trivial,?_⟩⟩;have z26:=gv.size;have OW:=R1.o0 gv;have hrl:=(aY.1 hrj).1;have hrn:=OW.pl.ro.len;obtain⟨ad4,r,ds4,e1,e2,e3,e4,e5,e6⟩:=OW.pl.ro.get (i:=((ed.length+j:Nat):Int)) (bm _) (by omega);rw[aZ,hrj,aX]at e2;subst e2;obtain⟨tr,rfl,hTr⟩:=e6;have wI:IntKind.i64.wrap ((y.f0:Int)+(j:Int))=((ed.length+j:Nat):Int):=by rw[hf0,fQ (by omega) (by omega)];omega
   refine⟨sr,Blk.dT OW.blk 8 rfl,trivial,ad4,by rw[wI];exact e1,trivial,_,_,_,_,_,tr,_,e5,fun k9 pN hk9 W5 oc=>⟨fun _=>True,trivial,trivial,trivial,trivial,trivial,trivial,trivial,trivial,fun sM rj=>?_⟩⟩;have z27:=oc.size;have z28:=rj.size;have hrt:(JG p.sp ce.length j m).tg.length=m.tg.length:=by unfold JG;rw[bC]
   have o28:=oc.cp rj;refine(Vw (kI hTr o28) (by omega)).mono ?_;rintro _ uV ⟨t5,rfl,_,mq⟩;have z29:=mq.size;refine⟨t5,rfl,mq.same (by simp;omega),ik.vq mq,bL.only mq,fun BP Oo=>?_⟩;have z30:=Oo.size;have o30:=(o28.cp mq).cp Oo;refine(BB (SliceF.only (cV false) (by decide) F7 (gv.cp o30) (by simp)) (by omega)).mono ?_;rintro _ Ev ⟨⟨t6,rfl⟩,yv⟩;have z31:=yv.size;refine⟨t6,rfl,yv.same (by simp;omega),ik.vq yv,bL.only yv,fun Oc aci iu ab1 OT _ Od OG=>?_⟩;have z32:=aci.size;have z33:=OG.size;have o33:ay [] my Od:=((o30.cp yv).cp aci).trans OG fun x hx=>.inr (by simp only[aN]at hx;omega);refine(D1 d (SliceF.only (iO d) (by decide) pL (gv.cp o33) (by simp)) (by omega)).mono ?_;rintro _ Ps ⟨⟨t7,rfl⟩,Xl⟩;have z34:=Xl.size;refine⟨t7,rfl,Xl.same (by simp;omega),fun JV OH=>?_⟩;have z35:=OH.size;have o35:ay [] my JV:=(o33.cp Xl).trans OH fun x hx=>.inr (by simp only[aN]at hx;omega);refine⟨fun _ _ _ _ _ _ _ ex _ _ _ _ _ _ _ _ u=>ex=(Ij p.sp (JG p.sp ce.length j m):Nat)/\ay [] my u/\JV.heap.size<=u.heap.size,?_,fun hdm V3 Xm=>?_,fun hdm=>⟨?_,o35,aV _⟩⟩;rotate_left
   ·have hdm:=aP hdm;have z41:=Xm.size;have Xn:=OW.o0 (o35.cp Xm);have ab6:=Re IP (a:=ce.length) (m.tg.map (sL p.sp));obtain⟨dd,VM⟩:∃dd:Nat,(JG p.sp ce.length j m).dom=dd:=⟨(JG p.sp ce.length j m).dom.toNat,by omega⟩
    have api:Bk p.sp ce.length (m.tg.map (sL p.sp))=dd:=VM;obtain⟨cq,hcq⟩:∃cq,(ce++[y])[dd]? =some cq:=⟨_,bB (by rw[lq];omega)⟩
    have hcn:=Xn.c.len;obtain⟨ad5,y5,cs5,f1,f2,f3,f4,f5,el,ll,rfl⟩:=(Xn.c.slice iA).get (bm dd) (by omega);rw[aZ,hcq,aX]at f2;subst f2;refine⟨c1,Blk.dT Xn.blk 3 rfl,ad5,by rw[VM];exact f1,_,f5.dT 3 _ rfl,fun RC ack=>⟨?_,(o35.cp Xm).trans ack fun x hx=>.inr (by simp only[aN]at hx;omega),by have:=ack.size;omega⟩⟩;rw[(ach dd cq hcq).2];unfold Ij;rw[VM,if_pos (by omega),aZ]
   ·have hdm:=aU hdm;unfold Ij;rw[if_neg (by omega)];rfl
   rintro v1 v2 v3 v4 v5 v6 v7 ex v9 v10 v11 v12 v13 v14 v15 v16 RB ⟨rfl,o36,z36⟩ Pu acm;have z37:=acm.size;have o37:=o36.cp acm;have Xo:=OW.o0 o37;have m37:=(m25.cp gv).cp o37;obtain⟨y6,Ew,p1,p2,p3⟩:=agf Pu [O U v1,O U v2,O U v3,ab v4,O U v5,v6.v,O U v7,.int .u64 (Ij p.sp (JG p.sp ce.length j m):Nat),aj v9,O U v10,O U v11,ab v12,O U v13,v14.v,O U v15,v16.v] (Ij p.sp (JG p.sp ce.length j m)) rfl ⟨rfl,fun v hv=>by
    simp only[aQ,aW,bP]at hv;rcases hv with rfl | rfl | rfl | rfl | rfl | rfl | rfl | rfl | rfl | rfl | rfl | rfl | rfl | rfl | rfl | rfl<;>rfl⟩
   have z38:=p2.size;have uh:=Xo.o0 p2;obtain⟨q',Pv,t1,t2,t3,t4⟩:=agh uh.e (by omega) p3 (fun k hk e=>by have:=Xo.be k e;omega) (by rw[aO,bC,kB,cO];omega);have z39:=t3.size;refine⟨fun k=>k=b,rfl,q,Blk.dT Xo.blk 4 rfl,y6,Ew,p1,p2.same (by simp;omega),bL.only p2,q',Pv,t1,t3.same fun x hx=>?_,fun k hk bQ=>?_,b,4,_,_,rfl,t3.blk uh.blk fun e=>(by have:=uh.be b e;omega),ci rfl,by omega,by omega,by omega,by omega,by omega,by omega,fun Tv OX aji=>⟨kv-1,by omega,j+1,q',by rw[fQ (by omega) (by omega)];rfl,by omega,by omega,?_,?_,fun k hk=>?_,by have:=OX.size;omega⟩⟩
   ·simp only[aQ,aW,bP]at hx;have ajj:=R1.be x;have hn:=noq OU x;refine⟨by omega,fun e=>?_⟩;have:=ajj e;exact hn (by omega) (by omega) (.inr (.inr e))
   ·subst hk;exact t3.block _ bQ fun e=>by have:=uh.be _ e;omega
   ·have hq':∀k,Q3 n1 c1 q' k->Q3 n1 c1 q k∨Ew.heap.size<=k:=fun k hk=>by
     rcases hk with hk | hk | hk
     ·exact .inl (.inl hk)
     ·exact .inl (.inr (.inl hk))
     ·exact(t4 k hk).imp (fun h=>.inr (.inr h)) id
    have z40:=OX.size;have kp:∀k,k<Ew.heap.size->k≠b->¬eE q k->Tv.heap[k]? =Ew.heap[k]? :=fun k h1 h2 h3=>by
     rw[OX.block k (by omega) (by simpa using h2),t3.block k h1 h3]
    have hr:wq p.sp ce.length 0 (bb.mv.take (j+1))=wq p.sp ce.length 0 (bb.mv.take j)++[JG p.sp ce.length j m]:=by
     have e:bb.mv.take (j+1)=bb.mv.take j++[m]:=by rw[bH,d2];rfl
     have hl:(bb.mv.take j).length=j:=by rw[cO];omega
     rw[e,xY,hl,bJ]
    rw[hr,cN,<-bF];refine uh.fin (by omega) (fun k h1 h2 h3=>kp k h1 h2 fun e=>h3 (.inr (.inr e))) (uh.n.keep cG fun k hk bQ=>?_) (uh.c.keep iA fun k hk bQ=>?_) (qt oY t2 OX) hq' (fun k e=>⟨(uh.ap k e).1,fun e'=>?_⟩) (fun k e e'=>?_) aji
    ·have hk:=hk.resolve_left id;exact kp k bQ (by omega) fun e=>(uh.ap k hk.2).2 e
    ·have hk:=hk.resolve_left id;exact kp k bQ (by omega) fun e=>uh.ap2 k hk.2 e
    ·rcases t4 k e' with e' | e'
     ·exact(uh.ap k e).2 e'
     ·have:=uh.bn k e;omega
    ·rcases t4 k e' with e' | e'
     ·exact uh.ap2 k e e'
     ·have:=uh.bc k e;omega
   ·refine m37.trans ⟨(p2.oZ (t3.mono (G:=fun k=>k=b∨Q3 n1 c1 q k) fun k _ e=>.inr (.inr (.inr e)))).trans (OX.p (F:=fun k=>k=b) (by simp)) fun k hk=>.inl (.inl hk),fun k hk=>?_⟩;rcases hk with hk | hk | hk
    ·exact .inl (.inl hk)
    ·exact .inl (.inr (.inl hk))
    ·exact(t4 k hk).imp (fun h=>.inr (.inr h)) fun h=>by omega
   ·rcases hk with hk | hk | hk
    ·exact OU k (.inl hk)
    ·exact OU k (.inr (.inl hk))
    ·rcases t4 k hk with h | h
     ·exact OU k (.inr (.inr h))
     ·exact .inr (by omega)
  ·have mB:=aU mB;have og:j=bb.mv.length:=by omega
   subst og;rw[bA (aV _)]at R1;clear RZ;refine⟨fun kv i u=>∃(j:Nat) (n2 c2 q2:Sl),i=(j:Int)/\kv+j=ks.length/\j<=ks.length/\Ma u b F n2 sv su c2 q2 s si sd sr (nm++(bb.nm::(vQ (ks.take j)).map fun c=>c.nm)) (ce++(y::mj p (ce.length+1) (ed.length+bb.mv.length) (ks.take j))) (ed++((wq p.sp ce.length 0 bb.mv).map (Ij p.sp)++(kj p.sp (ce.length+1) (ks.take j)).map (Ij p.sp))) p/\pB b (Q3 qn sc se) w0 (Q3 n2 c2 q2) u/\(∀k,Q3 n2 c2 q2 k->Q3 qn sc se k∨dX.heap.size<=k)/\dX.heap.size<=u.heap.size,ks.length,⟨0,n1,c1,q,rfl,by omega,bp _,by rw[cK,vQ,mj,kj,dV,dV,bN];exact R1,m25,OU,z25⟩,?_⟩;rintro kv _ Tw ⟨j,n2,c2,q2,rfl,RZ,hj,R2,m43,acn,z43⟩;refine⟨fun Ei=>?_,fun Ei=>?_⟩
   ·have Ei:=aP Ei;obtain⟨PH,x,ds,d1,d2,d3,d4,d5,d6⟩:=(iq m43).get (bm j) (by omega);rw[aZ]at d2;have d6':=d6;obtain⟨D',rfl⟩:∃D',D=D'+1:=by
     cases D with
     | zero=>exact d6.elim
     | succ D'=>exact⟨D',rfl⟩
    obtain⟨uY,uZ,pO,jv,rfl,_⟩:=d6';have pC:=lO d2;have hzt:=uO d2;have hyz:lm x<=fX ks:=mg (bG d2);refine⟨PH,d1,_,_,_,_,uY,uZ,pO,jv,_,d5,fun FV w44 RN alK R3=>?_⟩;have z44:=R3.size;have ajl:=R2.o0 R3;have R4:(ce++(y::mj p (ce.length+1) (ed.length+bb.mv.length) (ks.take j))).length=ce.length+1+di (ks.take j):=by
     rw[aO,bf,yf];omega
    have ajm:(nm++(bb.nm::(vQ (ks.take j)).map fun c=>c.nm)).length=ce.length+1+di (ks.take j):=by
     rw[aO,bf,bC,tU];omega
    have Xp:(ed++((wq p.sp ce.length 0 bb.mv).map (Ij p.sp)++(kj p.sp (ce.length+1) (ks.take j)).map (Ij p.sp))).length=ed.length+bb.mv.length+oX (ks.take j):=by
     rw[aO,aO,bC,bC,kB,ye];omega
    have hms:=BC (ks.take j);refine(Td IP tY IH zQ (D'+1) (pa:=(ce.length:Int)) (dp:=dp+1) ((cw false (D'+1)).keep d6 fun k _ bQ=>R3.block k bQ (by simp)) hG ajl (by omega) (by rw[R4];exact aca.kid d2) (fun i r hr=>?_) (fun i c h=>?_) (by rw[R4,ajm]) (by rw[Xp];omega)).mono ?_
    ·rw[R4]at hr;have:=D3 d2 hr;have e:=hro (bb.mv.length+(oX (ks.take j)+i)) r (by
      rw[B3,bX (by rw[kB];omega),kB,dH];exact this)
     rw[Xp,<-e];congr 1;omega
    ·by_cases hi:i<ce.length+1
     ·rw[show ce++(y::mj p (ce.length+1) (ed.length+bb.mv.length) (ks.take j))=(ce++[y])++mj p (ce.length+1) (ed.length+bb.mv.length) (ks.take j) by rw[bF];rfl,bM (by rw[lq];exact hi)]at h;exact ach i c h
     ·rw[show ce++(y::mj p (ce.length+1) (ed.length+bb.mv.length) (ks.take j))=(ce++[y])++mj p (ce.length+1) (ed.length+bb.mv.length) (ks.take j) by rw[bF];rfl,bX (by rw[lq];omega),lq]at h;obtain⟨b',f,_,h2,_⟩:=Bq p _ _ _ _ c h;rw[h2,show ce.length+1+(i-(ce.length+1))=i by omega];exact⟨rfl,rfl⟩
    rintro _ Tx ⟨rfl,n3,c3,q3,Xq,m45⟩;have z45:=m45.1.size;refine⟨rfl,m45.1.same fun x hx=>?_,kv-1,by omega,j+1,n3,c3,q3,by rw[fQ (by omega) (by omega)];rfl,by omega,by omega,?_,(m43.cp R3).trans m45,fun k hk=>?_,by omega⟩
    ·simp only[aQ,aW,bP]at hx;have hn:=noq acn x;refine⟨by omega,fun h=>?_⟩;rcases h with h | h
     ·omega
     ·have:=R2.q3 x h;exact hn (by omega) (by omega) h
    ·have e:ks.take (j+1)=ks.take j++[x]:=by rw[bH,d2];rfl
     rw[R4,Xp]at Xq;rw[e,Bl,vQ,vQ,bN,xX,kj,kj,bN,DZ,mj,mj,bN,cN,cN,<-bF ((wq p.sp ce.length 0 bb.mv).map _),<-bF ed];rw[bF nm,bZ,bF ce,bZ]at Xq;exact Xq
    ·rcases m45.2 k hk with h | h
     ·exact acn k h
     ·exact .inr (by omega)
   ·have Ei:=aU Ei;have og:j=ks.length:=by omega
    subst og;rw[bA (aV _)]at R2;refine⟨rfl,n2,c2,q2,?_,pB.of0 cE m43⟩;rw[B4,B3,Kz,bE,cN,<-hy];exact R2
end
end
def Ri:Rp Int:=fun _ _ x cs=>cs=[O U x]
theorem qu:Ri.Ok where
 keep h _:=h
 inHeap h:=h
 mono h _:=h
 one:=by
  rintro w F x cs h v hv;unfold Ri at h;subst h;simp only[aN]at hv;subst hv;rfl
theorem Vz(u:av)(x:Int):∃y w1,(au 32 1 #[.mk 0 (O U x)]).run aq u=.ok (Sl.v y) w1/\ay [] u w1/\aA Ri 1 w1 (fun k=>u.heap.size<=k/\k<w1.heap.size) y [x]:=
 Rg (e:=3) (i:=Tryz.t3) (z:=O U 0) (by kernel_rfl) (by kernel_rfl) rfl rfl (by decide) (by decide) qu rfl rfl
theorem agi{A:Nat}{u:av}{s y:Sl}{xs:List Int}{x:Int}(h:Own Ri 1 3 A u (fun _=>False) s xs)(hA:A<=u.heap.size){G:aJ}(hy:aA Ri 1 u G y [x])(hG:∀k,G k->¬eE s k)(hm:xs.length<=100000000):
  ∃s' w2,(Builtin.append_ #[32,32] 32 #[Sl.v s,Sl.v y]).run aq u=.ok (Sl.v s') w2/\Own Ri 1 3 A w2 (fun _=>False) s' (xs++[x])/\aD (eE s) u w2/\∀k,eE s' k->eE s k∨u.heap.size<=k:=
 Ny (i:=Tryz.t3) (bytes:=8) (by kernel_rfl) (by kernel_rfl) rfl rfl rfl rfl (by decide) qu (fun _ _ _ _ _ h=>h) h hA hy hG (by omega)
theorem agj{A:Nat}{u:av}{s y:Sl}{xs:List (aH)}{x:aH}(h:Own im 1 9 A u (fun _=>False) s xs)(hA:A<=u.heap.size){G:aJ}(hy:aA im 1 u G y [x])(hG:∀k,G k->¬eE s k)(hm:xs.length<=100000000):
  ∃s' w2,(Builtin.append_ #[31,31] 31 #[Sl.v s,Sl.v y]).run aq u=.ok (Sl.v s') w2/\Own im 1 9 A w2 (fun _=>False) s' (xs++[x])/\aD (eE s) u w2/\∀k,eE s' k->eE s k∨u.heap.size<=k:=
 Ny (i:=Tryz.t9) (bytes:=16) (by kernel_rfl) (by kernel_rfl) rfl rfl rfl rfl (by decide) cG D2 h hA hy hG (by omega)
structure Vs (A:Nat) (u:av) (sv su:Sl) (n:Nat):Prop where
 v:∃xs,Own im 1 9 A u (fun _=>False) sv xs/\xs.length=n
 u:∃xs,Own Ri 1 3 A u (fun _=>False) su xs/\xs.length=n
 ap:∀k,eE sv k->¬eE su k
section
variable {A n:Nat} {w:av} {sv su:Sl}
theorem Vs.bv(h:Vs A w sv su n):∀k,eE sv k->A<=k/\k<w.heap.size:=fun k e=>by obtain⟨xs,h,_⟩:=h.v;exact h.blk e
theorem Vs.bu(h:Vs A w sv su n):∀k,eE su k->A<=k/\k<w.heap.size:=fun k e=>by obtain⟨xs,h,_⟩:=h.u;exact h.blk e
theorem Vs.only{w':av}{bs:List Nat}(h:Vs A w sv su n)(hO:ay bs w w')(hb:∀k,k∈bs->k<A):Vs A w' sv su n:=by
 obtain⟨⟨x1,a1,a2⟩,⟨x2,b1,b2⟩,c⟩:=h;exact⟨⟨x1,a1.keep cG fun k hk bQ=>hO.block k bQ fun e=>(by have:=hb k e;have:=(hk.resolve_left id).1;omega),a2⟩,⟨x2,b1.keep qu fun k hk bQ=>hO.block k bQ fun e=>(by have:=hb k e;have:=(hk.resolve_left id).1;omega),b2⟩,c⟩
theorem Vs.seq(h:Vs A w sv su n)(hA:A<=w.heap.size)(hn:n<=100000000){u1:av}(o1:ay [] w u1){y1:Sl}{x:aH}{G1:aJ}(hy1:aA im 1 u1 G1 y1 [x])(g1:∀k,G1 k->w.heap.size<=k):
  ∃Xr u2,(Builtin.append_ #[31,31] 31 #[Sl.v sv,Sl.v y1]).run aq u1=.ok (Sl.v Xr) u2/\aD (eE sv) u1 u2/\∀{u3:av},ay [] u2 u3->∀{y2:Sl} {y:Int} {G2:aJ},aA Ri 1 u3 G2 y2 [y]->(∀k,G2 k->w.heap.size<=k)->
   ∃Xs u4,(Builtin.append_ #[32,32] 32 #[Sl.v su,Sl.v y2]).run aq u3=.ok (Sl.v Xs) u4/\aD (eE su) u3 u4/\Vs A u4 Xr Xs (n+1)/\aD (fun k=>eE sv k∨eE su k) w u4:=by
 have z1:=o1.size;have bv:=h.bv;have bu:=h.bu;have h1:=h.only o1 (by simp);obtain⟨⟨x1,a1,a2⟩,⟨x2,b1,b2⟩,c⟩:=h1;obtain⟨Xr,u2,r1,r2,r3,r4⟩:=agj a1 (by omega) hy1 (fun k hk e=>by have:=bv k e;have:=g1 k hk;omega) (by omega);have z2:=r3.size;refine⟨Xr,u2,r1,r3,fun{u3} o2 {y2 y G2} hy2 g2=>?_⟩;have z3:=o2.size;have mB:Own Ri 1 3 A u2 (fun _=>False) su x2:=b1.keep qu fun k hk bQ=>r3.block k bQ fun e=>c k e (hk.resolve_left id).2;obtain⟨Xs,u4,t1,t2,t3,t4⟩:=agi (mB.keep qu fun k hk bQ=>o2.block k bQ (by simp)) (by omega) hy2 (fun k hk e=>by have:=bu k e;have:=g2 k hk;omega) (by omega);refine⟨Xs,u4,t1,t3,⟨⟨_,(r2.keep cG fun k hk bQ=>o2.block k bQ (by simp)).keep cG fun k hk bQ=>t3.block k bQ fun e=>?_,by rw[aO,a2];rfl⟩,⟨_,t2,by rw[aO,b2];rfl⟩,fun k e e'=>?_⟩,?_⟩
 ·rcases r4 k (hk.resolve_left id).2 with e' | e'
  ·exact c k e' e
  ·have:=bu k e;omega
 ·have hs:=(r2.blk e).2;dsimp only at hs;rcases r4 k e with e1 | e1
  ·rcases t4 k e' with e2 | e2
   ·exact c k e1 e2
   ·have:=bv k e1;omega
  ·rcases t4 k e' with e2 | e2
   ·have:=bu k e2;omega
   ·omega
 ·exact((o1.oZ (r3.mono (G:=fun k=>eE sv k∨eE su k) fun k _ e=>.inl e)).cp o2).trans (t3.mono (G:=fun k=>eE sv k∨eE su k) fun k _ e=>.inr e) fun k e=>.inl e
end
structure TbR (w:av) (F:aJ) (sn sc se:Sl) (c:Ch):Prop where
 tn:aA im 1 w F sn ((B4 c.root).map fun b=>b.nm)
 tc:aA It 11 w F sc (Kz (vp c) 0 0 c.root)
 te:aA Nz 16 w F se ((B3 (eY c) 0 c.root).map (Ij (eY c)))
theorem TbR.o0{w w':av}{F:aJ}{sn sc se:Sl}{c:Ch}(h:TbR w F sn sc se c)(hO:ay [] w w'):TbR w' F sn sc se c:=
 ⟨SliceF.only cG (by decide) h.tn hO (by simp),SliceF.only iA (by decide) h.tc hO (by simp),SliceF.only oY (by decide) h.te hO (by simp)⟩
theorem PlR.inHeap{w:av}{F:aJ}{s si sd sr:Sl}{p:Pl}(h:PlR w F s si sd sr p):PlR w (fun k=>F k/\k<w.heap.size) s si sd sr p:=
 ⟨h.sp.inHeap ey (by decide),h.ini.inHeap cx (by decide),h.dft.inHeap cx (by decide),h.ro.inHeap iP (by decide)⟩
theorem yg{w:av}{F:aJ}{D:Nat}{c:Ch}{vs:Sl}{cs:aI}(hx:ChR false (D+1) w F c vs cs)(hn:PC c)(hs:oT c.vars+lm c.root<=8388608)(hE:Er w)(hT:Tb w):
  az aq 13 #[ah (vs.v::cs).toArray] w fun e w'=>(∃qn sv su sc se:Sl,e=ak (ai #[ah #[qn.v,sv.v,su.v,sc.v,se.v],ah #[O U (fz c).1,O U (fz c).2]])/\((fz c).1=0->TbR w' (fun k=>w.heap.size<=k) qn sc se c))/\ay [] w w':=by
 obtain⟨en,lv,mv,kids,lQ,_⟩:=hx.root;subst lQ;refine(ZD vs c.root.b.k (T c.root.b.nm) (T c.root.b.ini) (T c.root.b.dft) en lv mv kids c.root.b.a (fun v w'=>(∃qn sv su sc se:Sl,v=ai #[ah #[qn.v,sv.v,su.v,sc.v,se.v],ah #[O U (fz c).1,O U (fz c).2]]/\((fz c).1=0->TbR w' (fun k=>w.heap.size<=k) qn sc se c))/\ay [] w w') w ?_).mono (by rintro _ w' ⟨v,rfl,⟨s,si,sd,sr,se,rfl,h⟩,h'⟩;exact⟨⟨s,si,sd,sr,se,rfl,h⟩,h'⟩);intro k0 k1 k2 w0 gH eW lr jq qZ uc cE;have z0:=cE.size;have keep:∀{u:av},ay [] w u->ChR false (D+1) u F c vs (me c.root.b.k c.root.b.nm c.root.b.ini c.root.b.dft en lv mv kids c.root.b.a):=fun hO=>⟨hx.vars.keep fe (by decide) fun k _ bQ=>hO.block k bQ (by simp),(cw false _).keep hx.root fun k _ bQ=>hO.block k bQ (by simp)⟩
 refine(Vp (keep cE) hn hs (hE.only cE) (hT.only cE)).mono ?_;rintro _ w1 ⟨⟨s,si,sd,sr,rfl,hP⟩,cA⟩;have z1:=cA.size;have o1:=cE.cp cA;refine⟨s,si,sd,sr,_,_,rfl,cA.same (by simp;omega),fun hc k3 k4 w2 vU ud yF Ef cR n1 n2 n3 n4 n5 n6 n7 n8 n9 n10=>?_,fun hc k5 k6 k7 w4 zT Eh hk6 RT hk7 W0 dA=>?_⟩
 ·have hc:(fz c).1≠0:=by simpa using hc
  refine⟨fun k=>k=k4,rfl,fun h=>n7 h,fun h=>n9 h,fun w3 dl=>⟨⟨Sl.nil,Sl.nil,Sl.nil,Sl.nil,Sl.nil,rfl,fun h=>absurd h hc⟩,(o1.cp cR).trans dl fun x hx=>.inr (by simp only[aQ,aW,bP]at hx;omega)⟩⟩
 have hc:(fz c).1=0:=by simpa using hc
 have hnd:=nV (oV hc).1;have z4:=dA.size;have o4:=o1.cp dA;have hvl:=hx.vars.1.len;have hvz:=tP c.vars;refine⟨fun kv i l1 l2 l3 l4 l5 l6 l7 l8 l9 u=>∃j:Nat,i=(j:Int)/\kv+j=c.vars.length/\j<=c.vars.length/\l1=Sl.nil/\l4=Sl.nil/\l5=Sl.nil/\l6=s/\l7=si/\l8=sd/\l9=sr/\Vs w4.heap.size u l2 l3 j/\ay [] w1 u/\w4.heap.size<=u.heap.size,c.vars.length,⟨0,rfl,by omega,bp _,rfl,rfl,rfl,rfl,rfl,rfl,rfl,⟨⟨[],Own.nil _ _ _ _ _ _,rfl⟩,⟨[],Own.nil _ _ _ _ _ _,rfl⟩,fun k h=>(by cases h)⟩,dA,aV _⟩,?_⟩;rintro kv _ _ sv su _ _ l6 l7 l8 l9 w5 ⟨j,rfl,u5,hj,rfl,rfl,rfl,f1,f2,f3,f4,hV,o5,z5⟩;obtain rfl:s=l6:=f1.symm;obtain rfl:si=l7:=f2.symm;obtain rfl:sd=l8:=f3.symm;obtain rfl:sr=l9:=f4.symm;refine⟨fun mB=>?_,fun mB uX n1 n2 n3 n4 n5=>?_⟩
 ·have mB:=aP mB;obtain⟨ad,x,ds,a1,a2,a3,a4,a5,a6⟩:=((keep (o1.cp o5)).vars.1).get (bm j) (by omega);have a6:ds=[ab (T x.n),O U x.v,O U x.a]:=a6;subst a6;refine⟨ad,a1,_,_,_,a5,fun iu w6 ab1 OT eh=>⟨fun l1 l2 l3 l4 l5 l6 l7 l8 l9 u=>l1=Sl.nil/\l4=Sl.nil/\l5=Sl.nil/\l6=s/\l7=si/\l8=sd/\l9=sr/\Vs w4.heap.size u l2 l3 (j+1)/\ay [] w1 u/\w4.heap.size<=u.heap.size,?_,fun w8 fp=>?_⟩⟩
  ·rintro l1 l2 l3 l4 l5 l6 l7 l8 l9 w7 h;exact⟨kv-1,by omega,j+1,by rw[fQ (by omega) (by omega)];rfl,by omega,by omega,h⟩
  have z6:=eh.size;have z8:=fp.size;have o8:=(o5.cp eh).cp fp;have hV8:=(hV.only eh (by simp)).only fp (by simp);have bv:=hV.bv;have bu:=hV.bu;have st:∀{u v:av} {P:aJ},aD P u v->(∀k,P k->eE sv k∨eE su k)->w8.heap.size<=u.heap.size->bS [k0,k1,k2,k5,k6,k7,iu] u v/\bL (fun k=>k<w8.heap.size/\¬eE sv k/\¬eE su k) u v:=fun hO hP hz=>by
   refine⟨hO.same fun x hx=>?_,fun k hk bQ=>hO.block k bQ fun e=>(hP k e).elim hk.2.1 hk.2.2⟩;simp only[aQ,aW,bP]at hx;refine⟨by omega,fun e=>?_⟩;rcases hP x e with h | h
   ·have:=bv x h;omega
   ·have:=bu x h;omega
  have j7:k7<w8.heap.size/\¬eE sv k7/\¬eE su k7:=⟨by omega,fun e=>by have:=bv k7 e;omega,fun e=>by have:=bu k7 e;omega⟩
  have j10:iu<w8.heap.size/\¬eE sv iu/\¬eE su iu:=⟨by omega,fun e=>by have:=bv iu e;omega,fun e=>by have:=bu iu e;omega⟩
  have fin:∀{u v:av} {Xr Xs:Sl},Vs w4.heap.size u Xr Xs (j+1)->aD (fun k=>eE sv k∨eE su k) w8 u->ay [k7] u v->Vs w4.heap.size v Xr Xs (j+1)/\ay [] w1 v/\w4.heap.size<=v.heap.size:=fun hV' hO' fm=>by
   refine⟨hV'.only fm fun k hk=>by simp only[aN]at hk;omega,?_,by have:=hO'.size;have:=fm.size;omega⟩;exact((o8.oZ (hO'.mono (G:=fun k=>w1.heap.size<=k) fun k _ e=>e.elim (fun e=>by have:=bv k e;omega) fun e=>by have:=bu k e;omega)).only fun k hk=>hk).trans fm fun x hx=>.inr (by simp only[aN]at hx;omega)
  refine⟨fun k=>k<w8.heap.size/\¬eE sv k/\¬eE su k,j7,j10,j7,j10,?_,?_⟩
  ·obtain⟨y1,w9,p1,p2,p3⟩:=Rh w8 x.n;have z9:=p2.size;have s9:=st (P:=fun _=>False) p2.p0 (fun _ h=>h.elim) (aV _);refine⟨y1,w9,p1,s9.1,s9.2,?_,?_⟩
   ·obtain⟨v1,dw,r1,r3,r4⟩:=hV8.seq (by omega) (by omega) p2 p3 (fun k hk=>hk.1);have Ob:=r3.size;have Eu:=st r3 (fun _ h=>.inl h) z9;obtain⟨y2,dr,q1,q2,q3⟩:=Vz dw x.v;have BS:=q2.size;have FU:=st (P:=fun _=>False) q2.p0 (fun _ h=>h.elim) (by omega);obtain⟨u1,dX,t1,t3,t4,t5⟩:=r4 q2 q3 (fun k hk=>by omega);have KH:=st t3 (fun _ h=>.inr h) (by omega);exact⟨v1,dw,r1,Eu.1,Eu.2,y2,dr,q1,FU.1,FU.2,u1,dX,t1,KH.1,KH.2,fun eS ez=>⟨rfl,rfl,rfl,rfl,rfl,rfl,rfl,fin t4 t5 ez⟩⟩
   ·obtain⟨y2,eZ,q1,q2,q3⟩:=Vz w9 x.v;have TA:=q2.size;have Rw:=st (P:=fun _=>False) q2.p0 (fun _ h=>h.elim) (by omega);obtain⟨v1,fU,r1,r3,r4⟩:=hV8.seq (by omega) (by omega) (p2.cp q2) (SliceF.only cG (by decide) p3 q2 (by simp)) (fun k hk=>hk.1);have z15:=r3.size;have N7:=st r3 (fun _ h=>.inl h) (by omega);obtain⟨u1,gy,t1,t3,t4,t5⟩:=r4 (Only.refl _ _) (SliceF.kU qu (by decide) q3 r3 fun k hk _ e=>by have:=hV8.bv k e;omega) (fun k hk=>by omega);have N9:=st t3 (fun _ h=>.inr h) (by omega);exact⟨y2,eZ,q1,Rw.1,Rw.2,v1,fU,r1,N7.1,N7.2,u1,gy,t1,N9.1,N9.2,fun fR jp=>⟨rfl,rfl,rfl,rfl,rfl,rfl,rfl,fin t4 t5 jp⟩⟩
  ·obtain⟨y2,gI,q1,q2,q3⟩:=Vz w8 x.v;have z18:=q2.size;have VV:=st (P:=fun _=>False) q2.p0 (fun _ h=>h.elim) (aV _);obtain⟨y1,iL,p1,p2,p3⟩:=Rh gI x.n;have z19:=p2.size;have VW:=st (P:=fun _=>False) p2.p0 (fun _ h=>h.elim) (by omega);obtain⟨v1,gJ,r1,r3,r4⟩:=hV8.seq (by omega) (by omega) (q2.cp p2) p3 (fun k hk=>by omega);have z20:=r3.size;have s20:=st r3 (fun _ h=>.inl h) (by omega);obtain⟨u1,jO,t1,t3,t4,t5⟩:=r4 (Only.refl _ _) (SliceF.kU qu (by decide) (SliceF.only qu (by decide) q3 p2 (by simp)) r3 fun k hk _ e=>by have:=hV8.bv k e;omega) (fun k hk=>by omega);have Ts:=st t3 (fun _ h=>.inr h) (by omega);exact⟨y2,gI,q1,VV.1,VV.2,y1,iL,p1,VW.1,VW.2,v1,gJ,r1,s20.1,s20.2,u1,jO,t1,Ts.1,Ts.2,fun mR yu=>⟨rfl,rfl,rfl,rfl,rfl,rfl,rfl,fin t4 t5 yu⟩⟩
 ·have o5':=o1.cp o5;have hr5:mr false (D+1) w5 (fun k=>k<w.heap.size) c.root (me c.root.b.k c.root.b.nm c.root.b.ini c.root.b.dft en lv mv kids c.root.b.a):=
   (cw false _).keep ((cw false _).mono ((cw false _).inHeap hx.root) fun k hk=>hk.2) fun k _ bQ=>o5'.block k bQ (by simp)
  have Xi:∀k,¬Q3 Sl.nil Sl.nil Sl.nil k:=fun k hk=>by rcases hk with hk | hk | hk<;>cases hk
  have Yf:PlR w5 (fun k=>w0.heap.size<=k/\k<w1.heap.size) s si sd sr (vp c):=(hP hc).inHeap.keep fun k _ bQ=>o5.block k bQ (by simp);have hMa:Ma w5 k7 (fun k=>w0.heap.size<=k/\k<w1.heap.size) Sl.nil sv su Sl.nil Sl.nil s si sd sr [] [] [] (vp c):=⟨uX,Yf,fun k hk=>⟨by omega,by omega,Xi k⟩,Own.nil _ _ _ _ _ _,Own.nil _ _ _ _ _ _,Own.nil _ _ _ _ _ _,fun k h=>(by cases h),fun k h=>(by cases h)⟩
  have eH:(eY c).length=gp c.root:=by unfold eY;rw[lD]
  refine(Td (wh c) (by show(eY c).length<=64;omega) (by show((B4 c.root).map _).length=_;rw[bC,tT];exact eH.symm) (by show((B4 c.root).map _).length=_;rw[bC,tT];exact eH.symm) (D+1) (pa:= -1) (dp:=0) hr5 (fun k hk=>by omega) hMa (by omega) (fun i x hi=>by rw[cu,bJ];exact hi) (fun j r hr=>by rw[cu,bJ];exact hr) (fun i c h=>by cases h) rfl (by rw[cu];omega)).mono ?_;rintro _ mw ⟨rfl,qn,sc,se,Kj,m23⟩;have z23:=m23.1.size;refine⟨rfl,m23.1.same fun x hx=>?_,qn,sv,su,sc,se,s,si,sd,sr,Kj.blk,fun mS ue _ m1 m2 m3 m4 m5 m6 m7 m8 m9 m10 m11 m12 m13 m14 m15=>⟨fun k=>k=k6,rfl,fun h=>m8 h,fun h=>m11 h,fun kX qB _=>⟨⟨qn,sv,su,sc,se,rfl,fun _=>?_⟩,?_⟩⟩⟩
  ·simp only[aQ,aW,bP]at hx;exact⟨by omega,fun h=>h.elim (by omega) (Xi x)⟩
  ·have kp:∀k,k7+1<=k->k<mw.heap.size->kX.heap[k]? =mw.heap[k]? :=fun k h1 h2=>by
    rw[qB.block k (by have:=ue.size;omega) (by simp;omega),ue.block k h2 (by simp)]
   simp only[cf]at Kj;have e0:([]:List Ce).length=0:=rfl;have e1:([]:List Nat).length=0:=rfl;rw[e0,e1]at Kj;exact⟨((Kj.n.slice cG).keep cG (by decide) fun k hk bQ=>kp k (hk.resolve_left id).1 bQ).mono cG fun k hk=>by have:=(hk.resolve_left id).1;omega,((Kj.c.slice iA).keep iA (by decide) fun k hk bQ=>kp k (hk.resolve_left id).1 bQ).mono iA fun k hk=>by have:=(hk.resolve_left id).1;omega,((Kj.e.slice oY).keep oY (by decide) fun k hk bQ=>kp k (hk.resolve_left id).1 bQ).mono oY fun k hk=>by have:=(hk.resolve_left id).1;omega⟩
  ·exact(((o5'.oZ (m23.1.mono (G:=fun k=>w.heap.size<=k) fun k _ hk=>hk.elim (by omega) fun h=>absurd h (Xi k))).only fun k hk=>hk).cp ue).trans qB fun x hx=>.inr (by simp only[aQ,aW,bP]at hx;omega)
section
variable {w:av} {F G:aJ} {l sa:Sl} {xs:List du} {is:List Int}
theorem VA(h:aA rInt 1 w F sa is)(n:Int)(hm:is.length<=4611686018427387903):az aq 26 #[sa.v,O U n] w fun e w'=>e=ak (aj (decide (n∈is)))/\w'=w:=by
 refine ret (afI _ _ _ _ ?_);have hl:=h.len;refine⟨fun kv i u=>∃j:Nat,i=(j:Int)/\kv+j=is.length/\j<=is.length/\n∉is.take j/\w=u,is.length,⟨0,rfl,by omega,bp _,by simp,rfl⟩,?_⟩;rintro kv _ _ ⟨j,rfl,u5,hj,hn,rfl⟩;refine⟨fun hc=>?_,fun hc=>?_⟩
 ·have hc:=aP hc;have lK:j<is.length:=by omega
  obtain⟨ad,a1,a2⟩:=oW h (bB lK);refine⟨ad,a1,_,a2,fun he=>?_,fun he=>⟨kv-1,by omega,j+1,by rw[fQ (by omega) (by omega)];rfl,by omega,by omega,?_,rfl⟩⟩
  ·have he:is[j]=n:=by simpa using he
   exact⟨by rw[bI (by rw[<-he];exact oq lK)],rfl⟩
  ·have he:¬is[j]=n:=by simpa using he
   rw[bH,bB lK,cr];rintro(h | h)
   ·exact hn h
   ·simp only[Option.toList,aN]at h;exact he h.symm
 ·have hc:=aU hc;rw[bA (by omega)]at hn;exact⟨by rw[bq hn],rfl⟩
end
theorem Iu{w:av}{F G:aJ}{sa sb:Sl}{l m:List Int}(ha:aA rInt 1 w F sa l)(hb:aA rInt 1 w G sb m):az aq 16 #[sa.v,sb.v] w fun e w'=>e=ak (aj (decide (l=m)))/\ay [] w w':=by
 refine ret (afE _ _ _ _ ?_);have h1:=ha.len;have h2:=hb.len;have h3:=ha.big;have h4:=ha.cap;refine⟨fun hc=>⟨by rw[bq];rintro rfl;simp only[bne_iff_ne]at hc;omega,Only.refl _ _⟩,fun hc=>?_⟩;have hc:(sa.n:Int)=sb.n:=by simpa using hc
 refine⟨fun kv i u=>∃j:Nat,i=(j:Int)/\kv+j=l.length/\j<=l.length/\l.take j=m.take j/\ay [] w u,l.length,⟨0,rfl,by omega,bp _,by simp,Only.refl _ _⟩,?_⟩;rintro kv _ u ⟨j,rfl,u5,hj,he,hO⟩;refine⟨fun sF=>?_,fun sF=>?_⟩
 ·have sF:=aP sF;have lK:j<l.length:=by omega
  have hjm:j<m.length:=by omega
  obtain⟨ad,a1,a2⟩:=oW (kI ha hO) (bB lK);obtain⟨JK,b1,b2⟩:=oW (kI hb hO) (bB hjm);refine⟨ad,a1,_,a2,JK,b1,_,b2,fun hn w1 cA=>⟨?_,hO.cp cA⟩,fun hn w2 cR=>⟨kv-1,by omega,j+1,by rw[fQ (by omega) (by omega)];rfl,by omega,by omega,?_,hO.cp cR⟩⟩
  ·rw[bq];rintro rfl;simp at hn
  ·rw[bH,bH,he,bB lK,bB hjm];have:l[j]=m[j]:=by simpa using hn
   rw[this]
 ·have sF:=aU sF;rw[bA (by omega),bA (by omega)]at he;exact⟨by rw[he,bI rfl],hO⟩
theorem NG{n:Int}(h0:0<=n)(h1:n<=63):ar .u64 (1*(2 ^ (min (Int.toNat n) 64)))=((rZ n:Nat):Int):=by
 have hb:=lH n;have e:rZ n=2 ^ n.toNat:=by unfold rZ;rw[if_pos (by omega)]
 rw[O1 (by omega),Int.one_mul,Bt,<-e];exact Il hb
theorem Rj{w:av}{F:aJ}{s:Sl}{l:List Int}(h:aA rInt 1 w F s l)(hm:l.length<=4611686018427387903):az aq 17 #[s.v] w fun e w'=>e=ak (.int .u64 (mP l:Nat))/\w'=w:=by
 refine ret (afF _ _ _ ?_);refine⟨fun kv m i u=>∃j:Nat,i=(j:Int)/\kv+j=64/\∃M:Nat,m=(M:Int)/\M<2 ^ 64/\(∀k,M.testBit k=decide (k<j/\(k:Int)∈l))/\u=w,64,⟨0,rfl,rfl,0,rfl,by decide,fun k=>by rw[gx];exact(bq fun h=>by omega).symm,rfl⟩,?_⟩;rintro kv _ _ u ⟨j,rfl,u5,M,rfl,hM,hb,hu⟩;obtain rfl:w=u:=hu.symm;refine⟨fun hc=>?_,fun hc=>?_⟩
 ·have hc:=aP hc;refine⟨fun m u=>∃M:Nat,m=(M:Int)/\M<2 ^ 64/\(∀k,M.testBit k=decide (k<j+1/\(k:Int)∈l))/\u=w,?_,(VA h j hm).mono ?_⟩
  ·rintro _ u ⟨M',rfl,h1,h2,h3⟩;exact⟨kv-1,by omega,j+1,by rw[fQ (by omega) (by omega)];rfl,by omega,M',rfl,h1,h2,h3⟩
  ·rintro _ u ⟨rfl,hu⟩;obtain rfl:w=u:=hu.symm;refine⟨_,rfl,fun hh=>⟨by omega,M||| rZ (j:Int),?_,Nat.or_lt_two_pow hM (lH _),fun k=>?_,rfl⟩,fun hh=>⟨M,rfl,hM,fun k=>?_,rfl⟩⟩
   ·rw[NG (by omega) (by omega),u64_or_nat _ _ hM (lH _)]
   ·have hh:=aP hh;rw[Nat.testBit_or,hb,xZ,<-Bool.decide_or,gw];constructor
    ·rintro(⟨a,b⟩ | ⟨a,b⟩)
     ·exact⟨by omega,b⟩
     ·have:j=k:=by omega
      exact⟨by omega,by rw[<-this];exact hh⟩
    ·rintro⟨a,b⟩;by_cases e:k=j
     ·exact .inr ⟨by omega,by rw[e]⟩
     ·exact .inl ⟨by omega,b⟩
   ·have hh:=aU hh;rw[hb,gw];refine⟨fun⟨a,b⟩=>⟨by omega,b⟩,fun⟨a,b⟩=>⟨?_,b⟩⟩;by_cases e:k=j
    ·rw[e]at b;exact absurd b hh
    ·omega
 ·have hc:=aU hc;refine⟨?_,rfl⟩;have:M=mP l:=eX fun k=>by
   rw[hb,qU,show j=64 by omega]
  rw[this]
theorem NH(w:av){x:Nat}(hx:x<18446744073709551616):az aq 18 #[.int .u64 (x:Int)] w fun e w'=>(∃s:Sl,e=ak s.v/\fD w.heap.size w' s (ia x))/\ay [] w w':=by
 refine(afG x (fun v w'=>(∃s:Sl,v=s.v/\fD w.heap.size w' s (ia x))/\ay [] w w') w ?_).mono (by rintro _ w' ⟨v,rfl,⟨s,rfl,h⟩,h'⟩;exact⟨⟨s,rfl,h⟩,h'⟩);refine⟨fun kv l i u=>∃j:Nat,i=(j:Int)/\kv+j=64/\fD w.heap.size u l (Es j fun i=>x.testBit i)/\ay [] w u,64,⟨0,rfl,rfl,Own.nil _ _ _ _ _ _,Only.refl _ _⟩,?_⟩;rintro kv l _ w0 ⟨j,rfl,u5,hL,hO⟩;refine⟨fun hc=>?_,fun hc=>?_⟩
 ·have hc:=aP hc;refine⟨fun l u=>fD w.heap.size u l (Es (j+1) fun i=>x.testBit i)/\ay [] w u,?_,by omega,?_⟩
  ·rintro l1 w1 ⟨h1,h2⟩;exact⟨kv-1,by omega,j+1,by rw[fQ (by omega) (by omega)];rfl,by omega,h1,h2⟩
  have e:((((x:Int).fdiv (2 ^ (min (Int.toNat (j:Int)) 64))).tmod 2)==1)=x.testBit j:=by
   rw[Im x j (by omega),fh,show(2:Int)=((2:Nat):Int)from rfl,<-Int.ofNat_tmod];rcases Nat.mod_two_eq_zero_or_one (x/2 ^ j)with h | h<;>rw[h]<;>rfl
  rw[e];refine⟨fun hb=>?_,fun hb=>⟨by rw[DV,hb,if_neg (by decide),bN];exact hL,hO⟩⟩;have OO:=H7 j fun i=>x.testBit i;obtain⟨y,w1,k1,k3,s',w2,g1,g2,g3,g4⟩:=Z1 w hL hO j ⟨by omega,by omega⟩ (by omega);exact⟨y,w1,k1,s',w2,g1,by rw[DV,hb,if_pos rfl];exact g2,g3⟩
 ·have hc:=aU hc;have:j=64:=by omega
  subst this;exact⟨⟨l,rfl,hL⟩,hO⟩
def vR:aH:=[99,104,97,114,116,32,99,32,123,32,105,110,105,116,105,97,108,32,97,59,32,115,116,97,116,101,32,97,32,123,32,111,110,32,120,32,45,62,32,100,59,32,125,32,112,97,114,97,108,108,101,108,32,112,32,123,32,115,116,97,116,101,32,98,32,123,32,125,32,115,116,97,116,101,32,100,32,123,32,125,32,125,32,125]
def Te:Bool:=decide ((ld vR).1=0)&&Ve vR&&(decide (((Kz (vp (dE vR).1) 0 0 (dE vR).1.root).map fun c=>(c.dn,c.up))=[(30,0),(0,1),(24,1),(0,5),(0,5)])&&decide (((B3 (eY (dE vR).1) 0 (dE vR).1.root).map (Ij (eY (dE vR).1)))=[30]))&&decide (mP [4,0,99]=17)
theorem Rk:Te=true:=by kernel_rfl
theorem NI{α β:Type}{f:α->β}{l:List α}{m:List β}(h:l.map f=m){i:Nat}{y:β}(hy:m[i]? =some y):∃x,l[i]? =some x/\f x=y:=by
 rw[<-h,cF]at hy;cases hx:l[i]? with
 | none=>rw[hx]at hy;cases hy
 | some x=>
  rw[hx]at hy;injection hy with hy;exact⟨x,rfl,hy⟩
theorem D4{w:av}{F:aJ}{s:Sl}{l:List Ce}(h:aA It 11 w F s l){i:Nat}{x:Ce}(hx:l[i]? =some x):∃ad,dy s (i:Int) 11 ad/\∃en lv:Sl,aB w ad [O U x.k,O U x.pa,.int .u64 (x.up:Nat),.int .u64 (x.dn:Nat),.int .u64 (x.rg:Nat),O U x.ini,O U x.dft,en.v,lv.v,O U (x.f0:Nat),O U (x.f1:Nat)]:=by
 have bQ:=(aY.1 hx).1;have hl:=h.len;obtain⟨ad,y,cs,g1,g2,g3,g4,g5,en,lv,rfl⟩:=h.get (bm i) (by omega);rw[aZ,hx]at g2;injection g2 with g2;subst g2;exact⟨ad,g1,en,lv,g5⟩
theorem yh(w:av)(hE:Er w)(hT:Tb w):az aq 12 #[] w fun e w'=>e=ak (aj true)/\ay [] w w':=by
 refine ret (afD _ _ ?_);have ul:=Rk;unfold Te at ul;simp only[aR,bW]at ul;obtain⟨⟨⟨h1,h2⟩,h3,h4⟩,h5⟩:=ul;have h2:=Vf h2;have hc:uM vR=(dE vR).1:=by unfold uM;rw[if_pos h1]
 have hl:(fz (dE vR).1).1=0:=by
  unfold ld at h1;split at h1
  ·exact h1
  ·rename_i h;exact absurd h1 h
 refine(Q4 vR h2.1 h2.2 hE hT).mono ?_;rintro _ w0 ⟨vs,cs,rfl,hC,cE⟩;rw[hc]at hC;obtain⟨xe,xl,xm,xk,rfl,_⟩:=hC.root;have z0:=cE.size;refine⟨vs,_,_,_,_,xe,xl,xm,xk,_,_,_,rfl,fun k0 k1 w1 gH eW lr jq cA=>?_⟩;have z1:=cA.size;have o1:=cE.cp cA;have hC1:ChR true 15 w1 (Fr w.heap.size) (dE vR).1 vs _:=⟨hC.vars.keep fe (by decide) fun k _ bQ=>cA.block k bQ (by simp),(cw true 15).keep hC.root fun k _ bQ=>cA.block k bQ (by simp)⟩
 refine(yg (D:=14) hC1.off h2.1 h2.2 (hE.only o1) (hT.only o1)).mono ?_;rintro _ w2 ⟨⟨qn,sv,su,sc,se,rfl,Oq⟩,cR⟩;have z2:=cR.size;have o2:=o1.cp cR;refine⟨qn,sv,su,sc,se,_,_,rfl,cR.same (by simp;omega),fun k2 k3 w3 qZ uc vU ud dl=>?_⟩;have z3:=dl.size;have o3:=o2.cp dl;have Ka:=(Oq hl).o0 dl;obtain⟨x0,e0,f0⟩:=NI h3 (i:=0) (y:=(30,0)) rfl;obtain⟨x4,e4,f4⟩:=NI h3 (i:=4) (y:=(0,5)) rfl;simp only[eB]at f0 f4;obtain⟨ad0,a1,_,_,a2⟩:=D4 Ka.tc e0;obtain⟨ad4,b1,_,_,b2⟩:=D4 Ka.tc e4;have lq:sc.n=5:=by rw[Ka.tc.len,<-bC (f:=fun c:Ce=>(c.dn,c.up)),h3];rfl
 have Xe:se.n=1:=by rw[Ka.te.len,h4];rfl
 have hte:=Ka.te;rw[h4]at hte;obtain⟨ad9,y9,c9,g1,g2,g3,g4,g5,g6⟩:=hte.get (i:=0) (by omega) (by omega);have g2:some (30:Nat)=some y9:=g2;injection g2 with g2;subst g2;refine⟨fun b u=>b=true/\ay [] w u,?_,ad0,fun _=>a1,_,fun _=>a2.dT 3 _ rfl,ad4,fun _=>b1,_,fun _=>b2.dT 2 _ rfl,ad9,fun _=>g1,_,fun _=>g5.dT 7 _ g6.1,fun _=>?_,fun hf=>?_⟩
 ·rintro _ u ⟨rfl,h⟩;exact⟨rfl,h⟩
 ·obtain⟨y,w4,p1,p2,p3,_⟩:=gV (P:=aq) (t:=32) (e:=3) (i:=Tryz.t3) (z:=O U 0) (w:=w3) (F:=fun _=>False) (vs:=[O U 4,O U 0,O U 99]) (parts:=#[.mk 0 (O U 4),.mk 1 (O U 0),.mk 2 (O U 99)]) (len:=3) (xs:=[4,0,99]) (r:=rInt) (size:=1) (by kernel_rfl) (by kernel_rfl) rfl rfl (by decide) rfl rfl (by decide) (by decide) cx ⟨⟨rfl,rfl,by decide,by decide⟩,⟨rfl,rfl,by decide,by decide⟩,⟨rfl,rfl,by decide,by decide⟩,trivial⟩;refine⟨y,w4,p1,p3.same (by simp;omega),(Bx (p2.slice cx)).mono ?_⟩;rintro _ u ⟨rfl,hu⟩;obtain rfl:w4=u:=hu.symm;refine⟨_,rfl,bS.refl _ _,?_,o3.cp p3⟩;rw[h5];rfl
 ·rw[h1,hl,lq,f0.1,f4.2,Xe]at hf;cases hf
theorem tmasks_c{w:av}{F:aJ}{s:Sl}{l:List Int}(h:aA rInt 1 w F s l)(hm:l.length*8<=140737488351232){m:Int}(hx:0<=m/\m<=18446744073709551615)(hE:Er w)(hT:Tb w)(hD:Dj w):az aq 4 #[s.v,.int .u64 m] w fun e w'=>e=ak (aj true)/\ay [] w w':=by
 obtain⟨x,rfl⟩:∃x:Nat,m=x:=⟨m.toNat,by omega⟩
 have hx:x<18446744073709551616:=by omega
 refine ret (afB _ _ _ _ ?_);refine(yh w hE hT).mono ?_;rintro _ w0 ⟨rfl,cE⟩;obtain⟨x1,w1,p1,p2,x2,w2,p3,p4,p5⟩:=uQ (P:=aq) (w:=w0) (t:=32) (ty:=32) (e:=3) (i:=Tryz.t3) (bytes:=8) (size:=1) (r:=rInt) (by kernel_rfl) (by kernel_rfl) rfl rfl rfl rfl (by decide) cx (kI h cE) (by omega) (by decide);have o2:=cE.cp ((p2.oZ p5).only fun k hk=>hk);have h4:=p4.slice cx;refine⟨true,rfl,x1,w1,p1,x2,w2,p3,(Bx h4).mono ?_⟩;rintro _ u ⟨rfl,hu⟩;obtain rfl:w2=u:=hu.symm;refine⟨_,rfl,(D0 (hD.only o2) hx).mono ?_⟩;rintro _ w4 ⟨⟨s4,rfl,h5⟩,dA⟩;have o4:=o2.cp dA;refine⟨s4,rfl,(Iu (kI h4 dA) (kI h o4)).mono ?_⟩;rintro _ w5 ⟨rfl,eJ⟩;have o5:=o4.cp eJ;refine⟨_,rfl,fun b u=>b=true/\ay [] w u,?_,fun _=>(Rj (kI h o5) (by omega)).mono ?_,fun hf=>?_⟩
 ·rintro _ u ⟨rfl,h⟩;exact⟨rfl,h⟩
 ·rintro _ u ⟨rfl,hu⟩;obtain rfl:w5=u:=hu.symm;refine⟨_,rfl,fun _=>(NH w5 hx).mono ?_,fun hf=>?_⟩
  ·rintro _ w8 ⟨⟨s8,rfl,h8⟩,fp⟩;have o8:=o5.cp fp;refine⟨s8,rfl,(Iu (kI (kI (h5.slice cx) eJ) fp) (h8.slice cx)).mono ?_⟩;rintro _ w9 ⟨rfl,fS⟩;exact⟨_,rfl,bI rfl,o8.cp fS⟩
  ·simp at hf
 ·rw[bI rfl]at hf;cases hf
theorem tback_c{w:av}{m:Int}(hx:0<=m/\m<=18446744073709551615)(hE:Er w)(hT:Tb w)(hD:Dj w):az aq 5 #[.int .u64 m] w fun e w'=>e=ak (aj true)/\ay [] w w':=by
 obtain⟨x,rfl⟩:∃x:Nat,m=x:=⟨m.toNat,by omega⟩
 have hx:x<18446744073709551616:=by omega
 refine ret (afC _ _ _ ?_);refine(yh w hE hT).mono ?_;rintro _ w0 ⟨rfl,cE⟩;refine⟨true,rfl,(D0 (hD.only cE) hx).mono ?_⟩;rintro _ w1 ⟨⟨s,rfl,h1⟩,cA⟩;have o1:=cE.cp cA;have hs:=h1.slice cx;have hl:=hs.len;have hn:=zM x;refine⟨s,rfl,fun kv i u=>∃j:Nat,i=((j+1:Nat):Int)/\kv=(ia x).length-j/\ay [] w1 u,(ia x).length,⟨0,rfl,rfl,Only.refl _ _⟩,?_⟩;rintro kv _ w2 ⟨j,rfl,rfl,cR⟩;refine⟨fun hc=>?_,fun hc=>?_⟩
 ·have hc:=aP hc;have KB:j+1<(ia x).length:=by omega
  have TE:j<(ia x).length:=by omega
  obtain⟨ad,a1,a2⟩:=oW (kI hs cR) (bB KB);obtain⟨JK,b1,b2⟩:=oW (kI hs cR) (bB TE);have e:ar U (((j+1:Nat):Int)-1)=(j:Int):=by rw[fQ (by omega) (by omega)];omega
  refine⟨ad,a1,_,a2,JK,by rw[e];exact b1,_,b2,fun pC=>?_,fun _ w4 dA=>⟨(ia x).length-(j+1),by omega,j+1,by rw[fQ (by omega) (by omega)];omega,rfl,cR.cp dA⟩⟩;have:=List.pairwise_iff_getElem.1 (sf x) j (j+1) TE KB (by omega);have:=aP pC;omega
 ·refine⟨fun b u=>b=true/\ay [] w u,?_,fun _=>(Bx (kI hs cR)).mono ?_,fun hf=>(by cases hf)⟩
  ·rintro _ u ⟨rfl,h⟩;exact⟨rfl,h⟩
  ·rintro _ u ⟨rfl,hu⟩;obtain rfl:w2=u:=hu.symm;refine⟨_,rfl,?_,o1.cp cR⟩;rw[FH hx,bI (by omega:(s.n:Int)<=64)];simp
theorem FL(xs:List du)(i:Nat):DX xs i<18446744073709551616:=tV _
theorem BD(xs:List du)(i:Nat):H9 xs i<18446744073709551616:=tV _
theorem VB(xs:List du)(i:Nat):Ta xs i<18446744073709551616:=tV _
theorem thangs_c{w:av}{x:Ch×Nat}{cs:aI}(hx:rChU w (fun _=>True) x cs)(hb:x.2<=1048576)(hE:Er w)(hT:Tb w):az aq 3 #[ah cs.toArray] w fun e w'=>e=ak (aj true)/\ay [] w w':=by
 obtain⟨c,m⟩:=x;obtain⟨D,vs,cs,rfl,hC,hn,hs⟩:=hx;dsimp only at hC hn hs hb;have hC0:=hC;cases D with
 | zero=>exact hC.root.elim
 | succ D=>
 obtain⟨en,lv,mv,kids,rfl,_⟩:=hC0.root;refine ret (afA _ _ _ _ _ _ _ _ _ _ _ _ ?_);have keep:∀{w':av},ay [] w w'->ChR false (D+1) w' (fun _=>True) c vs (me c.root.b.k c.root.b.nm c.root.b.ini c.root.b.dft en lv mv kids c.root.b.a):=fun hO=>⟨hC.vars.keep fe (by decide) fun k _ bQ=>hO.block k bQ (by simp),(cw false _).keep hC.root fun k _ bQ=>hO.block k bQ (by simp)⟩
 intro k0 w0 gH eW cE;have z0:=cE.size;refine(yh w0 (hE.only cE) (hT.only cE)).mono ?_;rintro _ w1 ⟨rfl,cA⟩;have z1:=cA.size;have o1:=cE.cp cA;refine⟨true,rfl,cA.same (by simp;omega),(yg (keep o1) hn (by omega) (hE.only o1) (hT.only o1)).mono ?_⟩;rintro _ w2 ⟨⟨qn,sv,su,sc,se,rfl,Oq⟩,cR⟩;have z2:=cR.size;have o2:=o1.cp cR;refine⟨qn,sv,su,sc,se,_,_,rfl,cR.same (by simp;omega),fun k1 k2 w3 lr jq qZ uc dl=>⟨fun _=>⟨rfl,o2.cp dl⟩,fun hc=>?_⟩⟩;have hl:(fz c).1=0:=by simpa using hc
 have o3:=o2.cp dl;have Ka:=(Oq hl).o0 dl;have hnd:=nV (oV hl).1;have RE:=A8 c.root;have hF:=wh c;have eH:(eY c).length=gp c.root:=by unfold eY;rw[lD]
 have tY:(eY c).length<=64:=by omega
 have lq:sc.n=gp c.root:=by rw[Ka.tc.len,wu]
 have hnl:qn.n=gp c.root:=by rw[Ka.tn.len,bC,tT]
 have Xe:se.n=JI c.root:=by rw[Ka.te.len,bC,Bp]
 have cell:∀i:Nat,i<gp c.root->∃x b f,(Kz (vp c) 0 0 c.root)[i]? =some x/\x.up=DX (eY c) i/\x.dn=H9 (eY c) i/\x.rg=Ta (eY c) i/\x.f0=f/\x.f1=f+b/\f+b<=JI c.root:=fun i hi=>by
  obtain⟨x,hx⟩:∃x,(Kz (vp c) 0 0 c.root)[i]? =some x:=⟨_,bB (by rw[wu];exact hi)⟩
  obtain⟨b,f,_,h2,h3⟩:=Nv _ _ _ _ _ _ hx;rw[bJ]at h2 h3;exact⟨x,b.mv.length,f,hx,by rw[h2];rfl,by rw[h2];rfl,by rw[h2];rfl,by rw[h2];rfl,by rw[h2];rfl,h3⟩
 refine⟨fun hb=>?_,fun _=>?_⟩
 ·rw[cD,cD,lq,hnl]at hb;rcases hb with(hb | hb) | hb
  ·have:(gp c.root:Int)=0:=by simpa using hb
   omega
  ·have:=aP hb;omega
  ·simp at hb
 refine⟨fun kv i u=>∃j:Nat,i=(j:Int)/\kv+j=gp c.root/\j<=gp c.root/\ay [] w3 u,gp c.root,⟨0,rfl,by omega,bp _,Only.refl _ _⟩,?_⟩;rintro kv _ w4 ⟨i,rfl,u5,hi,dA⟩;have hT4:=Ka.o0 dA;refine⟨fun hc=>?_,fun hc=>?_⟩
 ·have hc:=aP hc;obtain⟨x,bl,f,g0,g1,g2,g3,g4,g5,g6⟩:=cell i (by omega);obtain⟨ad,a1,el,ll,a2⟩:=D4 hT4.tc g0;refine⟨ad,a1,_,_,_,_,_,_,_,el,ll,_,_,a2,by omega,fun k5 w5 zT Eh eJ=>⟨fun _=>by omega,fun hh=>?_,fun _=>?_⟩⟩
  ·exfalso;have t1:(H9 (eY c) i).testBit i=false:=by
    rw[dL];intro h;have:=(tW hF tY).1 h;omega
   have t2:(DX (eY c) i).testBit i=false:=by
    rw[dL];intro h;have:=(qV hF tY).1 h;omega
   rw[g1,g2,g3,wv (BD _ _) (by omega),wv (FL _ _) (by omega),u64_and_nat _ _ (VB _ _) (BD _ _),u64_and_nat _ _ (FL _ _) (BD _ _),Rb hF tY,Ra hF tY,t1,t2,g4,g5,Xe,bq (by omega:¬((f:Nat):Int)>((f+bl:Nat):Int)),bq (by omega:¬((f+bl:Nat):Int)>((JI c.root:Nat):Int))]at hh;simp at hh
  have o5:=dA.cp eJ;refine⟨fun Xf k u=>∃q:Nat,k=(q:Int)/\Xf+q=gp c.root/\q<=gp c.root/\ay [] w3 u,gp c.root,⟨0,rfl,by omega,bp _,o5⟩,?_⟩;rintro Xf _ w6 ⟨q,rfl,RZ,hq,eh⟩;have hT6:=Ka.o0 eh;refine⟨fun mB=>?_,fun mB=>⟨kv-1,by omega,i+1,by rw[fQ (by omega) (by omega)];rfl,by omega,by omega,eh⟩⟩;have mB:=aP mB;obtain⟨y,_,_,e0,e1,_⟩:=cell q (by omega);obtain⟨RV,b1,_,_,b2⟩:=D4 hT6.tc e0;refine⟨by omega,RV,b1,_,b2.dT 2 _ rfl,by omega,fun hh=>?_,fun _ w8 fp=>⟨Xf-1,by omega,q+1,by rw[fQ (by omega) (by omega)];rfl,by omega,by omega,eh.cp fp⟩⟩;exfalso;rw[g2,e1,wv (BD _ _) (by omega),wv (FL _ _) (by omega),Rc hF tY]at hh;simp at hh
 ·obtain⟨x,_,_,g0,g1,_⟩:=cell 0 (by omega);obtain⟨ad,a1,_,_,a2⟩:=D4 hT4.tc g0;refine⟨ad,a1,_,a2.dT 2 _ rfl,?_,o3.cp dA⟩;rw[g1,DY hF tY];rfl
end Go.Proofs.YtbkjcdocjfknfaaGreatDoor.Con
