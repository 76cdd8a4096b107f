import Derived.Test.YtmhoiicofhlgbaaGreatDoorQf7
set_option linter.unusedSectionVars false
namespace Go.Proofs.YtmhoiicofhlgbaaGreatDoor.Con
open Go.Value renaming int->O,string->ab,pointer->ae,agg->ah,tuple->ai,bool->aj
open Go.IntKind renaming i64->U,wrap->ar
open Go.Ending renaming returned->ak
open _root_.ByteArray renaming mk->ao
open _root_.Go.Proofs.Tryz renaming prog->aq
open Go.Instr renaming buildSlice->au
open Go renaming World->av,Value->aw,Calls->az
open Go.Kt renaming Only->ay,SliceF->aA,Cells->aB,OnlyP->aD,Blk->aF
open Go Go.RowKit Go.Kt Go.Kt.V Go.Proofs.YtmhoiicofhlgbaaGreatDoor.Vc
set_option linter.unusedSimpArgs false
set_option linter.unusedVariables false
set_option maxHeartbeats 1600000
set_option maxRecDepth 100000
theorem PA{w:av}{F:aJ}{D:Nat}{c:Ch}{vs:Sl}{cs:aI}(hx:ChR false (D+1) w F c vs cs)(hn:MD c)(hs:nQ c.vars+nP c.root<=1048576):
  az aq 16 #[ah (vs.v::cs).toArray] w fun e w'=>e=ak (ai #[ab (T (jh c).1),O U (jh c).2])/\ay [] w w':=by
 have KG:=hx.root;obtain⟨en,lv,mv,kids,jY,_⟩:=hx.root;subst jY;refine ret (agy _ _ _ _ _ _ _ _ _ _ _ _ ?_);intro k0 w0 gD dQ ch;have z0:=ch.size;have keep:∀{u:av},ay [] w u->ChR false (D+1) u F c vs (nf c.root.b.k c.root.b.nm c.root.b.ini c.root.b.dft en lv mv kids c.root.b.a):=fun hO=>⟨hx.vars.keep eF (by decide) fun k _ bQ=>hO.block k bQ (by simp),(cj false _).keep hx.root fun k _ bQ=>hO.block k bQ (by simp)⟩
 have ZA:c.root.b.nm.length<=nP c.root:=by
  obtain⟨vv,⟨bb,ks⟩⟩:=c;show bb.nm.length<=nP (.mk bb ks);rw[nP];unfold BD;omega
 refine(acb (keep ch) hn (by omega)).mono ?_;rintro _ w1 ⟨rfl,cn⟩;have z1:=cn.size;have o1:=ch.cd cn;have ap:∀(a c:aH),T a++T c=T (a++c):=dZ;have e1:(ao #[99,104,97,114,116,32])=T [99,104,97,114,116,32]:=rfl;have e2:(ao #[32,123])=T [32,123]:=rfl;have e3:(ao #[118,97,114,32])=T [118,97,114,32]:=rfl;have e4:(ao #[32,61,32])=T [32,61,32]:=rfl;have e5:(ao #[59])=T [59]:=rfl;have e6:(ao #[125])=T [125]:=rfl;refine⟨_,rfl,cn.same (by simp;omega),fun QP=>⟨?_,o1⟩,fun QP=>?_⟩
 ·have QP:pZ c=false:=by simpa using QP
  unfold jh;rw[QP];rfl
 have QP:pZ c=true:=by simpa using QP
 have Im:Q3 c.root:=by
  unfold pZ at QP;simp only[aP]at QP;exact Py 0 c.root QP.1.2
 have QO:16384<(dq [] (yw c)).length->jh c=([],2):=fun h=>by unfold jh;rw[if_pos QP,if_pos h]
 have YJ:¬16384<(dq [] (yw c)).length->jh c=(dq [] (yw c),0):=fun h=>by unfold jh;rw[if_pos QP,if_neg h]
 obtain⟨LL,hLL⟩:∃LL,LL=(0,eS++32::(c.root.b.nm++[32,123]))::(c.vars.map fun v=>(1,QZ v)):=⟨_,rfl⟩
 have akZ:yw c=LL++(AV 1 c.root.b++mU 1 c.root.kids)++[(0,[125])]:=by rw[hLL];unfold yw;simp
 rw[e1,e2,e6,ap,ap,bW,bW];refine⟨by omega,by rw[aN];simp only[aR,aZ];omega,fun k1 w2 kg ju cG lm=>?_⟩;have z2:=cG.size;have o2:=o1.cd cG;have Vi:Prg w2 k1 Sl.nil []:=⟨lm,.inl ⟨rfl,rfl⟩⟩
 have TR:k0≠k1:=by omega
 have Yz:(Sl.nil).a≠some ⟨k0,0,none⟩:=fun e=>by cases e
 have fin:∀{u:av} {q:Sl} {L:aH},nq u k1 q w2 Sl.nil L->ay [] w u:=fun h=>(o2.wT h.2.1).only fun k hk=>hk.elim (by omega) fun e=>by cases e
 have h2:nq w2 k1 Sl.nil w2 Sl.nil []:=⟨⟨Vi,by decide⟩,ii.refl _ _ _⟩
 have hvl:=hx.vars.1.len;have wV:c.vars.length<=nQ c.vars:=by
  have:∀l:List Vr,l.length<=nQ l:=fun l=>by induction l with
   | nil=>exact bd _
   | cons a l ih=>rw[nQ,aR];omega
  exact this _
 refine(h2.line (d:=0) (by decide) _ (by simp only[aN,aR,aZ];omega) TR Yz (by omega)).mono ?_;rintro _ w3 ⟨rfl,hs3,q3,h3⟩;have e0:([99,104,97,114,116,32]++c.root.b.nm++[32,123]:aH)=eS++32::(c.root.b.nm++[32,123]):=by simp[eS]
 rw[e0]at h3;have h3:nq w3 k1 q3 w2 Sl.nil (dq [] ((0,eS++32::(c.root.b.nm++[32,123]))::((c.vars.take 0).map fun v=>(1,QZ v)))):=h3;obtain⟨⟨hP3,hl3⟩,hM3⟩:=id h3;refine⟨rfl,hs3,q3,hP3.blk,fun kv i q u=>∃j:Nat,i=(j:Int)/\kv+j=c.vars.length/\j<=c.vars.length/\nq u k1 q w2 Sl.nil (dq [] ((0,eS++32::(c.root.b.nm++[32,123]))::((c.vars.take j).map fun v=>(1,QZ v)))),c.vars.length,⟨0,rfl,by omega,bd _,h3⟩,?_⟩;rintro kv _ q w4 ⟨j,rfl,Gl,hj,h4⟩;obtain⟨⟨Va,hl4⟩,hM4⟩:=id h4;refine⟨fun mJ w5 eh tX=>?_,fun mJ=>?_⟩
 ·have mJ:=aQ mJ;have h5:=h4.only eh;obtain⟨⟨hP5,hl5⟩,hM5⟩:=id h5;have hv5:aA yr 3 w5 (fun k=>F k/\k<w.heap.size) vs c.vars:=SliceF.keep eF (SliceF.inHeap eF hx.vars.1 (by decide)) (by decide) fun k hk bQ=>(fin h5).block k bQ (by simp);obtain⟨ad,y,cs,g1,g2,g3,g4,g5,g6⟩:=hv5.get (ba j) (by omega);rw[aX]at g2;have uL:=br g2;have ME:=vJ uL;have hyi:=hn.1 y uL;have g6:cs=[ab (T y.n),O U y.v,O U y.a]:=g6;subst g6;have ak0:ad.block<w.heap.size:=g3.2;have hit:=Kf hyi;have kp:∀{u u':av} {qa qb:Sl} {L:aH},nq u k1 qa w2 Sl.nil L->ii k1 qa u qb u'->bO (fun k=>k=k0∨k<w.heap.size) u u':=fun{u u' qa qb L} hp hm k hk bQ=>hm.1.block k bQ fun hh=>by
   rcases hh with e | e
   ·omega
   ·rcases hp.2.2 k e with e' | e'
    ·cases e'
    ·omega
  rw[e3,e4,e5];refine⟨fun k=>k=k0∨k<w.heap.size,.inl rfl,ad,g1,.inr (by rw[lV];exact ak0),_,g5.part 0 fun i v hi=>qj hi rfl,?_,?_,ad,g1,_,g5.part 1 fun i v hi=>qj hi rfl,(Ke w5 hyi).mono ?_⟩
  ·rw[bW];omega
  ·rw[ap,bW,aN];simp only[aR,aZ];omega
  rintro _ w6 ⟨rfl,dR⟩;have h6:=h5.only dR;obtain⟨⟨hP6,Zo⟩,hM6⟩:=id h6;have z6:=hM6.1.size;have z5:=hM5.1.size;refine⟨_,rfl,dR.same (by simp;omega),q,hP6.blk,bO.only dR,?_,?_,?_⟩
  ·rw[ap,ap,bW,bW];simp only[aN,aR,aZ];omega
  ·rw[ap,ap,ap,bW];simp only[aN,aR,aZ];omega
  rw[ap,ap,ap,ap];refine(Kh hP6 (d:=1) (by decide) _ (by simp only[aN,aR,aZ];omega)).mono ?_;rintro _ w7 ⟨rfl,q7,L7,TG⟩;have Gk:=Kg (d:=1) (m:=[118,97,114,32]++y.n++[32,61,32]++Lib.itoa y.v++[59]) Zo (by decide) (by simp only[aN,aR,aZ];omega);have ev:([118,97,114,32]++y.n++[32,61,32]++Lib.itoa y.v++[59]:aH)=QZ y:=by simp[QZ,tM]
  have e7:iE (dq [] ((0,eS++32::(c.root.b.nm++[32,123]))::((c.vars.take j).map fun v=>(1,QZ v)))) (1,[118,97,114,32]++y.n++[32,61,32]++Lib.itoa y.v++[59])=dq [] ((0,eS++32::(c.root.b.nm++[32,123]))::((c.vars.take (j+1)).map fun v=>(1,QZ v))):=by
   rw[ev,bB,g2,dF];simp only[qM,fm];rfl
  rw[e7]at L7 Gk;exact⟨rfl,hM6.sm TR Yz (by omega) TG,q7,L7.blk,kp h6 TG,kv-1,by omega,j+1,by rw[fH (by omega) (by omega)];rfl,by omega,by omega,⟨L7,Gk⟩,hM6.trans TG⟩
 ·have hr4:li false (D+1) w4 (fun k=>F k/\k<w.heap.size) c.root (nf c.root.b.k c.root.b.nm c.root.b.ini c.root.b.dft en lv mv kids c.root.b.a):=(cj false _).keep ((cj false _).inHeap KG) fun k _ bQ=>(fin h4).block k bQ (by simp);have hnn:=Ou c.root;have mJ:=aU mJ;have qV:j=c.vars.length:=by omega
  subst qV;rw[fV,<-hLL]at Va hl4;refine(Kj (Kk D) (d:=1) hr4 (fun k hk=>by have:=hk.2;omega) Va hl4 hn.2 Im (by omega) (by omega)).mono ?_;rintro _ w8 ⟨rfl,q8,hP8,Vd,hM8⟩;have h8:nq w8 k1 q8 w2 Sl.nil _:=⟨⟨hP8,Vd⟩,hM4.trans hM8⟩
  refine⟨rfl,hM4.sm TR Yz (by omega) hM8,q8,hP8.blk,(h8.line (d:=0) (by decide) [125] (by decide) TR Yz (by omega)).mono ?_⟩;rintro _ w9 ⟨rfl,hs9,q9,h9⟩;have e9:iE (dq (dq [] LL) (AV 1 c.root.b++mU 1 c.root.kids)) (0,[125])=dq [] (yw c):=by
   rw[akZ];simp only[fm];rfl
  rw[e9]at h9;obtain⟨⟨hP9,hl9⟩,hM9⟩:=id h9;have Zj:=hP9.buf.len;refine⟨rfl,hs9,q9,hP9.blk,fun hh=>⟨?_,fin h9⟩,fun hh=>⟨_,hP9.buf.bytes,?_,fin h9⟩⟩
  ·have hh:=aQ hh;rw[QO (by omega)]
  ·have hh:=aU hh;rw[YJ (by omega)]
theorem PB{D:Nat}{u:av}{H:aJ}{x:Nd}{en lv mv kids:Sl}(h:li false (D+1) u H x (nf x.b.k x.b.nm x.b.ini x.b.dft en lv mv kids x.b.a)):
  ∃y w1,(au 25 1 #[.mk 0 (ah #[O U x.b.k,ab (T x.b.nm),ab (T x.b.ini),ab (T x.b.dft),en.v,lv.v,mv.v,kids.v,O U x.b.a])]).run aq u=.ok (Sl.v y) w1/\ay [] u w1/\aA (li false (D+1)) 9 w1 (fun k=>H k∨(u.heap.size<=k/\k<w1.heap.size)) y [x]:=by
 obtain⟨y,w1,k1,k2,k3,_⟩:=lf (P:=aq) (t:=25) (e:=27) (i:=Tryz.t27) (w:=u) (F:=H) (vs:=[ah #[O U x.b.k,ab (T x.b.nm),ab (T x.b.ini),ab (T x.b.dft),en.v,lv.v,mv.v,kids.v,O U x.b.a]]) (parts:=#[.mk 0 (ah #[O U x.b.k,ab (T x.b.nm),ab (T x.b.ini),ab (T x.b.dft),en.v,lv.v,mv.v,kids.v,O U x.b.a])]) (len:=1) (xs:=[x]) (r:=li false (D+1)) (size:=9) (by kernel_rfl) (by kernel_rfl) rfl rfl (by decide) rfl rfl (by decide) (by decide) (cj false (D+1)) ⟨⟨rfl,h⟩,trivial⟩;exact⟨y,w1,k1,k3,((k2.slice (cj false (D+1))).inHeap (cj false (D+1)) (by decide)).mono (cj false (D+1)) fun k hk=>hk.1.elim .inl fun h=>.inr ⟨h.1,hk.2⟩⟩
theorem PC{B:Nat}{w:av}{F:aJ}{s:Sl}{xs:List Vr}(h:Own yr 3 79 B w F s xs):aA yr 3 w (fun k=>B<=k) s xs:=by
 have h':Own yr 3 79 B w (fun _=>False) s xs:=by
  rcases h with⟨rfl,rfl⟩ | ⟨g,css,tail,h1,h2,h4,h5,h6,h7,h9,h8⟩
  ·exact .inl ⟨rfl,rfl⟩
  ·exact .inr ⟨g,css,tail,h1,h2,h4,h5,h6,h7,h9,gq.PF (fun x c _ hc=>hc) h8⟩
 exact(h'.slice eF).mono eF fun k hk=>hk.elim (fun h=>h.elim) fun h=>h.1
theorem LP{w:av}{F:aJ}{D:Nat}{c:Ch}{vs:Sl}{cs:aI}(hx:ChR false (D+1) w F c vs cs)(hs:nQ c.vars+nP c.root<=8388608):
  az aq 12 #[ah (vs.v::cs).toArray] w fun e w'=>(∃(KB:Sl) (ds:aI),e=ak (ah (KB.v::ds).toArray)/\ChR false (D+1) w' (fun _=>True) c KB ds)/\ay [] w w':=by
 have hxr:=hx.root;obtain⟨en,lv,mv,kids,jY,_⟩:=hx.root;subst jY;refine(agu vs c.root.b.k (T c.root.b.nm) (T c.root.b.ini) (T c.root.b.dft) en lv mv kids c.root.b.a (fun v w'=>(∃(KB:Sl) (ds:aI),v=(ah (KB.v::ds).toArray)/\ChR false (D+1) w' (fun _=>True) c KB ds)/\ay [] w w') w ?_).mono (by rintro _ w' ⟨v,rfl,⟨a,b,rfl,h⟩,h'⟩;exact⟨⟨a,b,rfl,h⟩,h'⟩);intro k0 k1 w0 gD dQ kg ju ch;have z0:=ch.size;have hvl:=Ag c.vars;have hvh:=hx.vars.1.inHeap eF (by decide);have root:∀{u:av},ay [] w u->li false (D+1) u F c.root (nf c.root.b.k c.root.b.nm c.root.b.ini c.root.b.dft en lv mv kids c.root.b.a):=fun hO=>(cj false _).keep hxr fun k _ bQ=>hO.block k bQ (by simp);refine⟨fun a i s0 s1 s2 l1 l2 l3 l4 i1 u=>(∃ds,ds=[O U i,ab s0,ab s1,ab s2,l1.v,l2.v,l3.v,l4.v,O U i1]/\ChR false (D+1) u (fun _=>True) c a ds)/\ay [] w u,?_,fun w2 cG=>?_⟩
 ·rintro a i s0 s1 s2 l1 l2 l3 l4 i1 u ⟨⟨ds,rfl,h⟩,hO⟩;exact⟨⟨a,_,rfl,h⟩,hO⟩
 have z2:=cG.size;have o2:=ch.cd cG;have vars:∀{u v:av} {y:Sl} {B:Nat},ay [] w u->w2.heap.size<=B->B<=u.heap.size->Own yr 3 79 B u (fun k=>F k/\k<w.heap.size) y []->∃z v,(Builtin.append_ #[22,22] 22 #[Sl.v y,Sl.v vs]).run aq u=.ok (Sl.v z) v/\aA yr 3 v (fun k=>w2.heap.size<=k) z c.vars/\aD (fun k=>B<=k/\y.a=some ⟨k,0,none⟩) u v:=fun{u v y B} hO hz W3 hy=>by
  have hyv:aA yr 3 u (fun k=>(F k/\k<w.heap.size)/\y.a≠some ⟨k,0,none⟩) vs c.vars:=(hvh.keep eF (by decide) fun k _ bQ=>hO.block k bQ (by simp)).mono eF fun k hk=>⟨hk,fun e=>by have:=(hy.blk e).1;dsimp only at this;omega⟩
  obtain⟨z,v,g1,g2,gs,g3,g4,_⟩:=qx (P:=aq) (t:=22) (ty:=22) (e:=79) (i:=Tryz.t79) (bytes:=32) (size:=3) (r:=yr) (by kernel_rfl) (by kernel_rfl) rfl rfl rfl rfl eF hy hyv W3 (by rw[aZ];omega) (by decide);rw[ci]at g2;exact⟨z,v,g1,(PC g2).mono eF fun k hk=>by omega,g3.p fun g hg=>.inl ⟨(g4 g hg).2.1,(g4 g hg).1⟩⟩
 have sm:∀{u v:av},w2.heap.size<=u.heap.size->ay [] u v->bS [k0,k1] u v/\bO (fun k=>k=k0) u v:=fun h hO=>⟨hO.same (by simp;omega),bO.only hO⟩
 have smP:∀{u v:av} {y:Sl} {B:Nat},w2.heap.size<=B->B<=u.heap.size->aD (fun k=>B<=k/\y.a=some ⟨k,0,none⟩) u v->bS [k0,k1] u v/\bO (fun k=>k=k0) u v:=fun h h' hO=>⟨hO.same fun x hx=>by simp only[aY,bf,cb]at hx;exact⟨by omega,fun h=>by omega⟩,fun k hk bQ=>hO.block k bQ fun h=>by omega⟩
 have emp:∀u:av,∃y v,(au 22 0 #[]).run aq u=.ok (Sl.v y) v/\Own yr 3 79 u.heap.size v (fun k=>F k/\k<w.heap.size) y []/\ay [] u v:=fun u=>KP (P:=aq) (t:=22) (e:=79) (i:=Tryz.t79) (by kernel_rfl) (by kernel_rfl) yr 3 u (fun k=>F k/\k<w.heap.size);have tr1:∀{u v:av} {y:Sl} {B:Nat},ay [] w u->w2.heap.size<=B->aD (fun k=>B<=k/\y.a=some ⟨k,0,none⟩) u v->ay [] w v:=fun h hz g=>(h.wT g).only fun k hk=>by omega
 have Vk:∀{u:av},ay [] w u->li false (D+1) u (fun k=>F k/\k<w.heap.size) c.root (nf c.root.b.k c.root.b.nm c.root.b.ini c.root.b.dft en lv mv kids c.root.b.a):=fun hO=>(cj false _).keep ((cj false _).inHeap hxr) fun k _ bQ=>hO.block k bQ (by simp);have fin:∀{u v:av} {l z:Sl},ay [] w u->w2.heap.size<=u.heap.size->aA (li false (D+1)) 9 u (fun _=>True) l [c.root]->aA yr 3 u (fun k=>w2.heap.size<=k) z c.vars->
   az aq 35 #[l.v] u fun e0 w6=>∃l8:Sl,e0=(ak l8.v)/\bS [k0,k1] u w6/\bO (fun k=>k=k0) u w6/\
    ∃p0:Addr,dl l8 0 9 p0/\∃i2:Int,∃s3 s4 s5:aK,∃l9 l10 uk uQ:Sl,∃i3:Int,aB w6 p0 [O U i2,ab s3,ab s4,ab s5,l9.v,l10.v,uk.v,uQ.v,O U i3]/\
     ∀w7:av,ay [k1] w6 w7->((∃ds,ds=[O U i2,ab s3,ab s4,ab s5,l9.v,l10.v,uk.v,uQ.v,O U i3]/\ChR false (D+1) w7 (fun _=>True) c z ds)/\ay [] w w7):=fun{u v l z} hO hz hl hv=>by
  refine(Om (D+1) hl (by rw[iV,iV];omega)).mono ?_;rintro _ w6 ⟨⟨t,rfl,hT⟩,dR⟩;have z6:=dR.size;obtain⟨s1,s2⟩:=sm hz dR;obtain⟨ad,y,ds,a1,a2,a3,a4,a5,a6⟩:=hT.get (i:=0) (by omega) (by have:=hT.len;rw[bg]at this;omega);have a2:some c.root=some y:=a2;injection a2 with a2;subst a2;have Ty:=a6;obtain⟨uo,uq,pu,iX,rfl,_⟩:=a6;refine⟨t,rfl,s1,s2,ad,a1,_,_,_,_,uo,uq,pu,iX,_,a5,fun w7 fN=>⟨⟨_,rfl,⟨?_,fun h=>(by cases h)⟩,?_⟩,(hO.cd dR).trans fN fun x hx=>.inr (by simp only[aO]at hx;omega)⟩⟩
  ·exact(SliceF.only eF (by decide) (SliceF.only eF (by decide) hv dR (by simp)) fN fun k hk _ hm=>by simp only[aO]at hm;omega).mono eF fun _ _=>trivial
  ·refine(cj false (D+1)).mono ((cj false (D+1)).keep Ty fun k hk bQ=>fN.block k bQ ?_) fun _ _=>trivial;simp only[aO];omega
 have kp:∀{u v:av} {z:Sl},aA yr 3 u (fun k=>w2.heap.size<=k) z c.vars->ay [] u v->aA yr 3 v (fun k=>w2.heap.size<=k) z c.vars:=fun h hO=>SliceF.only eF (by decide) h hO (by simp);refine⟨fun k=>k=k0,rfl,rfl,?_,?_⟩
 ·obtain⟨l5,w3,p1,p2,p3⟩:=emp w2;have z3:=p3.size;obtain⟨a1,a2⟩:=sm (aW _) p3;have o3:=o2.cd p3;refine⟨l5,w3,p1,a1,a2,?_,?_⟩
  ·obtain⟨l6,w4,q1,q2,q3⟩:=vars (v:=w3) o3 (aW _) z3 p2;have z4:=q3.size;obtain⟨b1,b2⟩:=smP (aW _) z3 q3;have o4:ay [] w w4:=tr1 o3 (aW _) q3;obtain⟨l7,w5,r1,r2,r3⟩:=PB (root o4);have z5:=r2.size;obtain⟨c1,c2⟩:=sm (by omega) r2;exact⟨l6,w4,q1,b1,b2,l7,w5,r1,c1,c2,fin (v:=w5) (o4.cd r2) (by omega) (r3.mono (cj false (D+1)) fun _ _=>trivial) (kp q2 r2)⟩
  ·obtain⟨l7,w8,r1,r2,r3⟩:=PB (Vk o3);have z8:=r2.size;obtain⟨c1,c2⟩:=sm (by omega) r2;have o8:=o3.cd r2;obtain⟨l6,w9,q1,q2,q3⟩:=vars (v:=w8) o8 (aW _) (by omega) (p2.keep eF fun k _ bQ=>r2.block k bQ (by simp));have z9:=q3.size;obtain⟨b1,b2⟩:=smP (aW _) (by omega) q3;exact⟨l7,w8,r1,c1,c2,l6,w9,q1,b1,b2,fin (v:=w9) (tr1 o8 (aW _) q3) (by omega) ((SliceF.rc (cj false (D+1)) (by decide) r3 q3 fun k hk _ h=>by
    have:=(p2.blk h.2).2;dsimp only at this;omega).mono (cj false (D+1)) fun _ _=>trivial) q2⟩
 ·obtain⟨l7,eM,r1,r2,r3⟩:=PB (Vk o2);have z12:=r2.size;obtain⟨c1,c2⟩:=sm (aW _) r2;obtain⟨l5,eU,p1,p2,p3⟩:=emp eM;have Mz:=p3.size;obtain⟨a1,a2⟩:=sm (by omega) p3;have o13:=(o2.cd r2).cd p3;obtain⟨l6,fM,q1,q2,q3⟩:=vars (v:=eU) o13 (by omega) Mz p2;have Xu:=q3.size;obtain⟨b1,b2⟩:=smP (by omega) Mz q3;exact⟨l7,eM,r1,c1,c2,l5,eU,p1,a1,a2,l6,fM,q1,b1,b2,fin (v:=fM) (tr1 o13 (by omega) q3) (by omega) ((SliceF.rc (cj false (D+1)) (by decide) (SliceF.only (cj false (D+1)) (by decide) r3 p3 (by simp)) q3 fun k hk _ h=>by omega).mono (cj false (D+1)) fun _ _=>trivial) q2⟩
def Gr(s:Sl)(w:av)(s':Sl)(w':av):Prop:=aD (fun k=>s.a=some ⟨k,0,none⟩) w w'/\∀k,s'.a=some ⟨k,0,none⟩->s.a=some ⟨k,0,none⟩∨w.heap.size<=k
theorem Gr.trans{s s' Xx:Sl}{w w' rn:av}(h:Gr s w s' w')(k:Gr s' w' Xx rn):Gr s w Xx rn:=by
 have z:=h.1.size;refine⟨h.1.trans k.1 fun x hx=>?_,fun x hx=>?_⟩
 ·rcases h.2 x hx with e | e
  ·exact .inl e
  ·exact .inr e
 ·rcases k.2 x hx with e | e
  ·exact h.2 x e
  ·exact .inr (by omega)
theorem Gr.only{s:Sl}{w w':av}(h:ay [] w w'):Gr s w s w':=⟨h.p0,fun _ h=>.inl h⟩
theorem PD(t:Bool):∀(D:Nat) {w:av} {F:aJ} {x:Nd} {cs:aI} {B:Nat} {s:Sl} {xs:List mY} {pa dp:Int},li t D w F x cs->(∀k,F k->k<B)->gp B w s xs->B<=w.heap.size->
  xs.length+ke x<=1000000->0<=dp->dp+ke x<=1000000->
  az aq 104 #[s.v,ah cs.toArray,O U pa,O U dp] w fun e w'=>∃s',e=ak (Sl.v s')/\gp B w' s' (xs++JH xs.length pa dp x)/\Gr s w s' w'
 | 0,_,_,_,_,_,_,_,_,_,h,_,_,_,_,_,_=>h.elim
 | D+1,w,F,.mk bb ks,cs,B,s,xs,pa,dp,⟨en,lv,mv,kids,jY,_,gD⟩,hF,hS,hBw,hn,h0,hd=>by
  have hk:=gD.1;clear gD;dsimp only[Nd.kids,Nd.b]at hk jY;subst jY;rw[ke]at hn hd;have L2:=hk.len;have hnn:=Ab ks;refine(ahr s bb.k (T bb.nm) (T bb.ini) (T bb.dft) en lv mv kids bb.a pa dp (fun v w'=>∃s',v=Sl.v s'/\gp B w' s' (xs++JH xs.length pa dp (.mk bb ks))/\Gr s w s' w') w ?_).mono (by rintro _ w' ⟨v,rfl,s',rfl,h⟩;exact⟨s',rfl,h⟩);intro k0 w0 gD dQ ch;have z0:=ch.size;have QC:s.n=xs.length:=hS.len;have hS0:gp B w0 s xs:=hS.BT ch.p0 fun _ _ _ h=>h;obtain⟨y,w2,k1,k3,s3,w3,g1,g2,⟨gs,g3,g4⟩,g5⟩:=nG (P:=aq) (t:=38) (ty:=38) (e:=43) (i:=Tryz.t43) (bytes:=48) (size:=5) (r:=DT) (G:=fun _=>False) (v:=ah #[O U bb.k,ab (T bb.nm),O U pa,O U dp,O U 0]) (x:=⟨bb.k,bb.nm,pa,dp,0⟩) (by kernel_rfl) (by kernel_rfl) rfl rfl rfl rfl (by decide) (by decide) (by decide) lc hS0 (by omega) rfl rfl (fun _ h=>h.elim) (by omega);have z2:=k3.size;have z3:=g3.size;have uM:s.a≠some ⟨k0,0,none⟩:=fun e=>by have:=(hS.blk e).2;dsimp only at this;omega
  have m3:Gr s w s3 w3:=by
   refine⟨(ch.cd k3).wT (g3.p (F:=fun k=>s.a=some ⟨k,0,none⟩) fun g hg=>.inl (g4 g hg).1),fun k hk=>?_⟩;rcases g5 with e | ⟨g,e,h⟩
   ·exact .inl (by rw[<-e];exact hk)
   ·rw[e]at hk;injection hk with hk;injection hk with hk;exact .inr (by omega)
  have n3:∀k,s3.a=some ⟨k,0,none⟩->k≠k0:=fun k hk e=>by
   subst e;rcases g5 with e | ⟨g,e,h⟩
   ·exact uM (by rw[<-e];exact hk)
   ·rw[e]at hk;injection hk with hk;injection hk with hk;omega
  have Zz:gp B w3 s3 (xs++[⟨bb.k,bb.nm,pa,dp,0⟩]):=gp.of g2;have um:∀{u:av} {q:Sl},Gr s w q u->aA (li t D) 9 u F kids ks:=fun hm=>SliceF.rc (cj t D) (by decide) hk hm.1 fun k hFk _ h=>by
   have:=hF k hFk;have:=(hS.blk h).1;dsimp only at this;omega
  refine⟨y,w2,k1,k3.same (by simp;omega),s3,w3,g1,g3.same fun x hx=>⟨by simp only[aO]at hx;omega,fun h=>by simp only[aO]at hx;subst hx;exact uM (g4 _ h).1⟩,fun kv q i w'=>∃j:Nat,i=(j:Int)/\kv+j=ks.length/\j<=ks.length/\gp B w' q (xs++⟨bb.k,bb.nm,pa,dp,0⟩::uG (xs.length+1) xs.length (dp+1) (ks.take j))/\Gr s w q w'/\w3.heap.size<=w'.heap.size/\∀k,q.a=some ⟨k,0,none⟩->k≠k0,ks.length,⟨0,rfl,by omega,bd _,by rw[dr,uG];exact Zz,m3,aW _,n3⟩,?_⟩;rintro kv q _ w5 ⟨j,rfl,Gl,xF,QB,m5,z5,n5⟩;constructor
  ·intro hc;have hj:j<ks.length:=by have:=aQ hc;omega
   obtain⟨y,hy⟩:∃y,ks[j]? =some y:=⟨_,bG hj⟩
   obtain⟨ad,y',ds,a1,a2,a3,a4,a5,a6⟩:=(um m5).get (ba j) (by omega);rw[aX,hy]at a2;injection a2 with a2;subst a2;have Ty:=a6;obtain⟨D',rfl⟩:∃D',D=D'+1:=by
    cases D with
    | zero=>exact a6.elim
    | succ D'=>exact⟨D',rfl⟩
   obtain⟨uo,uq,pu,iX,rfl,_⟩:=Ty;have AX:=wF hy;have TI:(xs++⟨bb.k,bb.nm,pa,dp,0⟩::uG (xs.length+1) xs.length (dp+1) (ks.take j)).length=xs.length+1+eZ (ks.take j):=by
    rw[aN,aR,tj];omega
   refine⟨ad,a1,_,_,_,_,uo,uq,pu,iX,_,a5,?_⟩;rw[fH (by omega) (by omega),QC];refine(PD t (D'+1) (pa:=((xs.length:Nat):Int)) a6 (s:=q) (xs:=xs++⟨bb.k,bb.nm,pa,dp,0⟩::uG (xs.length+1) xs.length (dp+1) (ks.take j)) (dp:=dp+1) hF QB (by have:=ch.size;omega) (by rw[TI];omega) (by omega) (by omega)).mono ?_;rintro _ w7 ⟨q7,rfl,hS7,m7⟩;have z7:=m7.1.size;refine⟨q7,rfl,m7.1.same fun x hx=>?_,kv-1,by omega,j+1,by rw[fH (by omega) (by omega)];rfl,by omega,by omega,?_,m5.trans m7,by omega,fun k hk e=>?_⟩
   ·simp only[aO]at hx;subst hx;exact⟨by omega,fun h=>n5 _ h rfl⟩
   ·have e:ks.take (j+1)=ks.take j++[y]:=by rw[bB,hy];rfl
    rw[e,C8,uG,uG,bL];rw[TI,be,cr]at hS7;exact hS7
   ·subst e;rcases m7.2 _ hk with h | h
    ·exact n5 _ h rfl
    ·omega
  ·intro hc;have qV:j=ks.length:=by have:=aU hc;omega
   subst qV;rw[bH (aW _)]at QB;have cO:(xs++⟨bb.k,bb.nm,pa,dp,0⟩::uG (xs.length+1) xs.length (dp+1) ks)[xs.length]? =some ⟨bb.k,bb.nm,pa,dp,0⟩:=by
    rw[cf (aW _),mB];rfl
   obtain⟨g,cells,wU,p1,p2,p3,p4,p5,p6,p7⟩:=Own.ack lc QB cO;have Yt:wU=Wk ⟨bb.k,bb.nm,pa,dp,0⟩:=p6;subst Yt;have hql:q.n=xs.length+1+eZ ks:=by rw[QB.len,aN,aR,tj];omega
   obtain⟨p8,p9⟩:=p7 4 (O U (q.n:Int)) ⟨bb.k,bb.nm,pa,dp,(q.n:Int)⟩ (fun _=>False) (by decide) rfl fun _ h=>h.elim;rw[<-QC]at p2;refine⟨_,p2,g,xs.length*5+4,cells,_,by rw[fZ,QC],p3,by rw[<-QC]at p8⊢;exact p8,fun e=>n5 g p1 e.symm,fun w9 fT QA=>⟨q,rfl,?_,?_⟩⟩
   ·have:=p9 w9 fT QA;rw[pF _ _ (aW _),mB,ua]at this;rw[JH];have e:(q.n:Int)=((xs.length+1+eZ ks:Nat):Int):=by rw[hql]
    rw[e]at this;exact this
   ·refine m5.trans ⟨fT.p fun k hk=>?_,fun k hk=>.inl hk⟩;simp only[aO]at hk;subst hk;exact .inl p1
theorem WN{w:av}{F:aJ}{D:Nat}{c:Ch}{vs:Sl}{cs:aI}(hx:ChR false (D+1) w F c vs cs)(hm:ke c.root<=64):
  az aq 52 #[ah (vs.v::cs).toArray] w fun e w'=>(∃s,e=ak (Sl.v s)/\gp w.heap.size w' s (ot c))/\ay [] w w':=by
 obtain⟨en,lv,mv,kids,jY,_⟩:=hx.root;subst jY;refine(ahq vs c.root.b.k (T c.root.b.nm) (T c.root.b.ini) (T c.root.b.dft) en lv mv kids c.root.b.a (fun v w'=>(∃s,v=Sl.v s/\gp w.heap.size w' s (ot c))/\ay [] w w') w ?_).mono (by rintro _ w' ⟨v,rfl,⟨s,rfl,h⟩,h'⟩;exact⟨⟨s,rfl,h⟩,h'⟩);intro k0 w0 gD dQ ch;have z0:=ch.size;have hr0:li false (D+1) w0 (fun k=>k<w.heap.size) c.root (nf c.root.b.k c.root.b.nm c.root.b.ini c.root.b.dft en lv mv kids c.root.b.a):=
  (cj false _).keep ((cj false _).mono ((cj false _).inHeap hx.root) fun k hk=>hk.2) fun k _ bQ=>ch.block k bQ (by simp)
 refine(PD false (D+1) (B:=w.heap.size) (s:=Sl.nil) (xs:=[]) (pa:= -1) (dp:=0) hr0 (fun k hk=>hk) (Own.nil _ _ _ _ _ _) z0 (by rw[aZ];omega) (by decide) (by omega)).mono ?_;rintro _ w1 ⟨s',rfl,hS,hG⟩;have cn:ay [] w0 w1:=hG.1.only fun k hk=>by cases hk
 exact⟨s',rfl,cn.same (by simp;omega),⟨s',rfl,by rw[ci]at hS;exact hS⟩,ch.cd cn⟩
theorem Ta{w:av}{F:aJ}{D:Nat}{c:Ch}{vs:Sl}{cs:aI}(hx:ChR false (D+1) w F c vs cs)(hn:MD c)(hs:nQ c.vars+nP c.root<=1048576):
  az aq 19 #[ah (vs.v::cs).toArray] w fun e w'=>(∃s:Sl,e=ak (ai #[Sl.v s,O U (jh c).2])/\((jh c).2=0->gp w.heap.size w' s (ot c))/\((jh c).2≠0->s=Sl.nil))/\ay [] w w':=by
 obtain⟨en,lv,mv,kids,jY,_⟩:=hx.root;subst jY;refine(ahp vs c.root.b.k (T c.root.b.nm) (T c.root.b.ini) (T c.root.b.dft) en lv mv kids c.root.b.a (fun v w'=>(∃s:Sl,v=ai #[Sl.v s,O U (jh c).2]/\((jh c).2=0->gp w.heap.size w' s (ot c))/\((jh c).2≠0->s=Sl.nil))/\ay [] w w') w ?_).mono (by rintro _ w' ⟨v,rfl,⟨s,rfl,h⟩,h'⟩;exact⟨⟨s,rfl,h⟩,h'⟩);intro k0 w0 gD dQ ch;have z0:=ch.size;have keep:∀{u:av},ay [] w u->ChR false (D+1) u F c vs (nf c.root.b.k c.root.b.nm c.root.b.ini c.root.b.dft en lv mv kids c.root.b.a):=fun hO=>⟨hx.vars.keep eF (by decide) fun k _ bQ=>hO.block k bQ (by simp),(cj false _).keep hx.root fun k _ bQ=>hO.block k bQ (by simp)⟩
 refine(PA (keep ch) hn hs).mono ?_;rintro _ w1 ⟨rfl,cn⟩;have z1:=cn.size;have o1:=ch.cd cn;refine⟨_,_,rfl,cn.same (by simp;omega),fun hc=>⟨⟨_,rfl,fun h=>absurd h (by simpa using hc),fun _=>rfl⟩,o1⟩,fun hc=>?_⟩;have hc:(jh c).2=0:=by simpa using hc
 have hq:(iW c).2=0:=by rw[tD hn];exact hc
 refine(WN (keep o1) (wG hq)).mono ?_;rintro _ w2 ⟨⟨s2,rfl,hS⟩,cG⟩;exact⟨_,rfl,cG.same (by simp;omega),⟨s2,by rw[hc],fun _=>Own.low hS (by omega),fun h=>absurd hc h⟩,o1.cd cG⟩
theorem F0{w:av}{F G:aJ}{a b:Sl}{xs:List mY}(h:aA DT 5 w F a xs)(g:aA DT 5 w G b xs)(hm:xs.length<=1000000):az aq 20 #[a.v,b.v] w fun e w'=>e=ak (aj true)/\ay [] w w':=by
 refine ret (ahs _ _ _ _ ?_);have h1:=h.len;have g1:=g.len;refine⟨fun hc=>?_,fun _=>⟨fun kv i u=>∃j:Nat,i=(j:Int)/\kv+j=xs.length/\j<=xs.length/\ay [] w u,xs.length,⟨0,rfl,by omega,bd _,Only.refl _ _⟩,?_⟩⟩
 ·have:¬(a.n:Int)=(b.n:Int):=by simpa using hc
  omega
 rintro kv _ u ⟨j,rfl,Gl,hj,hO⟩;refine⟨fun hc=>?_,fun _=>⟨rfl,hO⟩⟩;have hc:=aQ hc;obtain⟨x,hx⟩:=Ae (xs:=xs) (i:=j) (by omega);obtain⟨ad,a1,a2,_⟩:=Fv (SliceF.only lc (by decide) h hO (by simp)) hx;obtain⟨F3,b1,b2,_⟩:=Fv (SliceF.only lc (by decide) g hO (by simp)) hx;refine⟨ad,a1,_,_,_,_,_,a2,F3,b1,_,_,_,_,_,b2,fun hh=>?_,fun _ w2 cG=>⟨kv-1,by omega,j+1,by rw[fH (by omega) (by omega)];rfl,by omega,by omega,hO.cd cG⟩⟩;exfalso;have e:(T x.nm==T x.nm)=true:=(by unfold T;exact Mg (α:=Array UInt8) _)
 simp[e]at hh
theorem flays_c{w:av}{x:Ch×Nat}{cs:aI}(hx:rChU w (fun _=>True) x cs)(hb:x.2<=1048576)(hE:Er w)(hT:Tb w):az aq 4 #[ah cs.toArray] w fun e w'=>e=ak (aj true)/\ay [] w w':=by
 obtain⟨c,m⟩:=x;obtain⟨D,vs,cs,rfl,hC,hn,hs⟩:=hx;dsimp only at hC hn hs hb;have hC0:=hC;cases D with
 | zero=>exact hC.root.elim
 | succ D=>
 obtain⟨en,lv,mv,kids,rfl,_⟩:=hC0.root;refine ret (ahi _ _ _ _ _ _ _ _ _ _ _ _ ?_);have keep:∀{w':av},ay [] w w'->ChR false (D+1) w' (fun _=>True) c vs (nf c.root.b.k c.root.b.nm c.root.b.ini c.root.b.dft en lv mv kids c.root.b.a):=fun hO=>⟨hC.vars.keep eF (by decide) fun k _ bQ=>hO.block k bQ (by simp),(cj false _).keep hC.root fun k _ bQ=>hO.block k bQ (by simp)⟩
 intro k0 w0 gD dQ ch;have z0:=ch.size;refine(OA w0 (hE.only ch) (hT.only ch)).mono ?_;rintro _ w1 ⟨rfl,cn⟩;have z1:=cn.size;have o1:=ch.cd cn;refine⟨_,rfl,cn.same (by simp;omega),(LP (keep o1) (by omega)).mono ?_⟩;rintro _ w2 ⟨⟨KB,ds,rfl,hC2⟩,cG⟩;have z2:=cG.size;have o2:=o1.cd cG;have aeI:=hC2;obtain⟨uo,uq,pu,iX,rfl,_⟩:=hC2.root;refine⟨KB,_,_,_,_,uo,uq,pu,iX,_,rfl,cG.same (by simp;omega),fun k1 w3 kg ju dh=>?_⟩;have z3:=dh.size;have o3:=o2.cd dh;refine(Hr (keep o3) hn (by omega) (hE.only o3) (hT.only o3)).mono ?_;rintro _ w4 ⟨⟨l5,rfl,h5,n5⟩,dI⟩;have z4:=dI.size;have o4:=o3.cd dI;refine⟨l5,_,rfl,dI.same (by simp;omega),(Hr (keep o4) hn (by omega) (hE.only o4) (hT.only o4)).mono ?_⟩;rintro _ w5 ⟨⟨l6,rfl,h6,n6⟩,eh⟩;have z5:=eh.size;have o5:=o4.cd eh;refine⟨l6,_,rfl,eh.same (by simp;omega),(Ta (keep o5) hn (by omega)).mono ?_⟩;rintro _ w6 ⟨⟨l7,rfl,h7,n7⟩,dR⟩;have z6:=dR.size;have o6:=o5.cd dR;rw[tD hn]at h5 h6 n5 n6;have oc:ay [] w2 w6:=((dh.cd dI).cd eh).cd dR;have hC6:ChR false (D+1) w6 (fun _=>True) c KB (nf c.root.b.k c.root.b.nm c.root.b.ini c.root.b.dft uo uq pu iX c.root.b.a):=⟨aeI.vars.keep eF (by decide) fun k _ bQ=>oc.block k bQ (by simp),(cj false _).keep aeI.root fun k _ bQ=>oc.block k bQ (by simp)⟩
 refine⟨l7,_,rfl,dR.same (by simp;omega),(NX (keep o6) hC6 (ChE.refl true (D+1) c)).mono ?_⟩;rintro _ w7 ⟨rfl,fN⟩;have z7:=fN.size;have o7:=o6.cd fN;obtain⟨xs,hxs,e5,e6,e7⟩:∃xs:List mY,xs.length<=64/\gp w3.heap.size w4 l5 xs/\gp w4.heap.size w5 l6 xs/\gp w5.heap.size w6 l7 xs:=by
  by_cases hc:(jh c).2=0
  ·refine⟨ot c,?_,h5 hc,h6 hc,h7 hc⟩;unfold ot;rw[yy];exact wG (by rw[tD hn];exact hc)
  ·rw[n5 hc,n6 hc,n7 hc];exact⟨[],bd _,Own.nil _ _ _ _ _ _,Own.nil _ _ _ _ _ _,Own.nil _ _ _ _ _ _⟩
 have kO:∀{B:Nat} {u v:av} {s:Sl} {ys:List mY},gp B u s ys->ay [] u v->gp B v s ys:=fun h hO=>h.BT hO.p0 fun _ _ _ h=>h;have e5':=kO e5 ((eh.cd dR).cd fN);have e7':=kO e7 fN;refine⟨_,rfl,fN.same (by simp;omega),(F0 e5'.sl e7'.sl (by omega)).mono ?_⟩;rintro _ w8 ⟨rfl,fj⟩;have z8:=fj.size;have e58:=kO e5' fj;have e6':=(kO e6 ((dR.cd fN).cd fj)).sl;have e78:=(kO e7' fj).sl;have hl5:=e5.len;have b5:∀k,l5.a=some ⟨k,0,none⟩->w3.heap.size<=k/\k<w4.heap.size:=fun k e=>by have:=e5.blk e;exact this
 refine⟨_,rfl,fj.same (by simp;omega),fun kv i u=>∃(j:Nat) (ys:List mY),i=(j:Int)/\kv+j=xs.length/\j<=xs.length/\ys.length=xs.length/\gp w3.heap.size u l5 ys/\aD (fun k=>w3.heap.size<=k/\k<w4.heap.size) w8 u,xs.length,⟨0,xs,rfl,by omega,bd _,rfl,e58,OnlyP.refl _ _⟩,?_⟩;rintro kv _ w9 ⟨j,ys,rfl,Gl,hj,ME,hY,p9⟩;have z9:=p9.size;refine⟨fun hc=>?_,fun hc=>?_⟩
 ·have hc:=aQ hc;obtain⟨g,cells,q1,q2,q3,q4,q5⟩:=Own.store lc hY (n:=j) (by omega) (x:=⟨-7,[],0,0,0⟩) (vs:=[O U (-7),ab (ao #[]),O U 0,O U 0,O U 0]) (G:=fun _=>False) rfl rfl (fun _ h=>h.elim) (by decide);have hg:=b5 g q1;refine⟨_,q2,g,_,cells,_,rfl,q3,q4,by omega,by omega,fun dw dM nr=>⟨kv-1,by omega,j+1,ys.set j ⟨-7,[],0,0,0⟩,by rw[fH (by omega) (by omega)];rfl,by omega,by omega,by rw[nD];exact ME,q5 dw dM nr,p9.trans (dM.p (F:=fun k=>w3.heap.size<=k/\k<w4.heap.size) fun k hk=>.inl (by simp only[aO]at hk;omega)) fun k hk=>.inl hk⟩⟩
 ·refine(F0 (SliceF.rc lc (by decide) e6' p9 fun k hk _ h=>by omega) (SliceF.rc lc (by decide) e78 p9 fun k hk _ h=>by omega) (by omega)).mono ?_;rintro _ dJ ⟨rfl,dY⟩;refine⟨_,rfl,dY.same (by simp;omega),?_,?_⟩
  ·rw[tD hn];simp
  ·exact(((o7.cd fj).wT (F:=fun k=>w.heap.size<=k) (p9.mono fun k _ hk=>by omega)).only fun k hk=>hk).cd dY
end Go.Proofs.YtmhoiicofhlgbaaGreatDoor.Con
