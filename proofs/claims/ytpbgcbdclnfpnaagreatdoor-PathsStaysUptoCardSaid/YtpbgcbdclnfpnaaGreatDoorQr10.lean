import Derived.Test.YtpbgcbdclnfpnaaGreatDoorQr9
set_option linter.unusedSectionVars false
set_option linter.unusedSimpArgs false
set_option linter.unusedVariables false
set_option maxHeartbeats 4000000
set_option maxRecDepth 100000
open Go.Value renaming int->O,string->ah,pointer->ai,agg->aj,tuple->ak,bool->ao
open Go.IntKind renaming i64->ae,wrap->av
open Go.Ending renaming returned->aq
open _root_.ByteArray renaming mk->ar
open _root_.Go.Proofs.Tryz renaming prog->au
open Go.Instr renaming buildSlice->aw
open Go renaming World->ay,Value->az,Calls->aB
open Go.Kt renaming Only->aA,SliceF->aD,Cells->aE,OnlyP->aF,Blk->aH
open Go renaming World->ay,Value->az
namespace Go.Proofs.YtpbgcbdclnfpnaaGreatDoor.Con
open Go Go.RowKit Go.Kt Go.Kt.V Go.Proofs.YtpbgcbdclnfpnaaGreatDoor.Vc
def mW(xs:List cR)(ro:List Ro)(act:List Int)(k:Int):List Int:=if k<0 then[]else match ro[k.toNat]? with
 | some r=>if r.dom<0 then[]else act.filter λx=>jA xs x r.dom
 | none=>[]
def aaM(xs:List cR)(ro:List Ro)(act:List Int)(a b:Int):Bool:=(mW xs ro act b).any λn=>decide (n∈mW xs ro act a)
structure ChI (xs:List cR) (ro:List Ro) (act:List Int) (may:List Bool) (st:List Int×List Int):Prop where
 ok:∀k,k∈st.1->∃(n:Nat) (r:Ro),k=n/\ro[n]? =some r/\may[n]? =some true/\r.src∈act
 sub:∀k,k∈st.2->k∈st.1
 ap:st.2.Pairwise λb a=>aaM xs ro act a b=false
 ne:st.1≠[]->st.2≠[]
section
variable {xs:List cR} (sd:Sd xs) {act:List Int} (A:Lg xs act) {ro:List Ro} {may:List Bool}
include sd A
omit sd A in
theorem V1 {x:Int} (h:x∈Jk xs act):x∈act:=by
 obtain⟨k,rfl,_,hp⟩:=tM.1 h;unfold lvP at hp;simp only[aU,bJ]at hp;exact hp.1.1
end
theorem Ss(xs:List cR)(a b:Int):I8 xs a b=jA xs a b:=by rw[bT,vX,om]
theorem amH{w:ay}{s:Sl}{l:List Int}{OQ:Nat}{cap:aK}{p:Int->Bool}{F:aL}(hs:aD rInt 1 w F s l)(hl:l.length<=2000000)(hc:ClI w (λ_=>False) OQ cap l p){f:OV}(hf:f.v=.func (.func OQ) #[] cap.toArray):
  aB au 51 #[s.v,f.v] w λe w'=>e=aq (ao (l.any p))/\aA [] w w':=by
 refine ret (QO _ _ _ _ ?_);refine(Sh (S:=λ_=>True) hs hl (λ_ _=>trivial) hc hf).mono ?_;rintro _ w1 ⟨⟨i,rfl,hi⟩,hO⟩;refine⟨i,rfl,?_,hO⟩;congr 1;rcases hi with⟨rfl,h⟩ | ⟨n,rfl,h1,h2,h3⟩
 ·rw[bH aG];symm;rw[ft];intro hh;obtain⟨x,hx,hp⟩:=fF.1 hh;rw[h x hx]at hp;cases hp
 rw[bL aG];exact(fF.2 ⟨l[n],eF h1,h3 _ (aQ h1)⟩).symm
theorem Su(w:ay)(s si sd sr:Sl):aB au 23 #[aj #[s.v,si.v,sd.v,sr.v],Sl.nil.v] w λe w'=>(∃(b:Nat) (m0 m1:Option Nat),e=aq (ai (some ⟨b,0,none⟩))/\w.heap.size<=b/\b<w'.heap.size/\aH w' b 76 [s.v,si.v,sd.v,sr.v,.map m0,.map m1])/\aA [] w w':=by
 refine(afE s si sd sr Sl.nil (λv w'=>(∃(b:Nat) (m0 m1:Option Nat),v=ai (some ⟨b,0,none⟩)/\w.heap.size<=b/\b<w'.heap.size/\aH w' b 76 [s.v,si.v,sd.v,sr.v,.map m0,.map m1])/\aA [] w w') w ?_).mono (by rintro _ w' ⟨v,rfl,⟨b,m0,m1,rfl,h⟩,h'⟩;exact⟨⟨b,m0,m1,rfl,h⟩,h'⟩);intro k0 w0 hY fA cQ;obtain⟨a1,_,a3⟩:=MapV.make (P:=au) (mty:=72) (kv:=kS) (g:=gS) w0;have z1:=a3.size;refine⟨_,_,a1,a3.same aab,?_⟩;obtain⟨b1,_,b3⟩:=MapV.make (P:=au) (mty:=74) (kv:=kS) (g:=gS) (w0.alloc (.map #[] 0));have z2:=b3.size;refine⟨_,_,b1,b3.same aab,λk1 w3 j9 jW dE=>?_⟩;have z3:=dE.size;have z0:=cQ.size;refine⟨λkv i u=>i=0/\u=w3,0,⟨rfl,rfl⟩,?_⟩;rintro kv _ u ⟨rfl,hu⟩;obtain rfl:w3=u:=hu.symm;refine⟨λhc=>absurd (aP hc) (by show ¬(0:Int)<((0:Nat):Int);omega),λ_ hB _=>⟨⟨k1,_,_,rfl,aG,jW,hB⟩,((cQ.cy a3).cy b3).cy dE⟩⟩
section
variable {w:ay} {F G:aL} {s si sd sr sa:Sl} {p:Pl} {act:List Int} {b:Nat} {ty:TypeId}
theorem Sv{ro:List Ro}(h:aD rRo 7 w F sr ro){i:Nat}{x:Ro}(hx:ro[i]? =some x):∃ad tg,dI sr (i:Int) 7 ad/\aE w ad [O ae x.src,O ae x.slot,O ae x.k,ah (T x.ev),O ae x.wt,tg.v,O ae x.dom]/\aD rInt 1 w F tg x.tg:=by
 have cd:=(be.1 hx).1;have hl:=h.len;obtain⟨ad,y,cs,g1,g2,g3,g4,g5,tg,rfl,g6⟩:=h.get (bE i) aG;rw[aV,hx]at g2;injection g2 with g2;subst g2;exact⟨ad,tg,g1,g5,g6⟩
theorem Hx{x0 x1 x2 x4 x5:az}{ro:List Ro}(hB:aH w b ty [x0,x1,x2,sr.v,x4,x5])(h:aD rRo 7 w F sr ro)(k:Int):aB au 44 #[ai (some ⟨b,0,none⟩),O ae k] w λe w'=>
  (∃(a1 a2 a3:Int) (ev:aM) (wt:Int) (tg:Sl) (dom:Int) (is:Bool),e=aq (ak #[aj #[O ae a1,O ae a2,O ae a3,ah ev,O ae wt,tg.v,O ae dom],ao is])/\(is=true->∃(n:Nat) (r:Ro),k=n/\ro[n]? =some r/\0<=r.dom/\dom=r.dom/\aD rInt 1 w' F tg r.tg)/\(is=false->∀(n:Nat) (r:Ro),k=n->ro[n]? =some r->r.dom<0))/\aA [] w w':=by
 refine(alV ⟨b,0,none⟩ k (λv w'=>(∃(a1 a2 a3:Int) (ev:aM) (wt:Int) (tg:Sl) (dom:Int) (is:Bool),v=ak #[aj #[O ae a1,O ae a2,O ae a3,ah ev,O ae wt,tg.v,O ae dom],ao is]/\(is=true->∃(n:Nat) (r:Ro),k=n/\ro[n]? =some r/\0<=r.dom/\dom=r.dom/\aD rInt 1 w' F tg r.tg)/\(is=false->∀(n:Nat) (r:Ro),k=n->ro[n]? =some r->r.dom<0))/\aA [] w w') w ?_).mono (by rintro _ w' ⟨v,rfl,⟨a1,a2,a3,ev,wt,tg,dom,is,rfl,h⟩,h'⟩;exact⟨⟨a1,a2,a3,ev,wt,tg,dom,is,rfl,h⟩,h'⟩);intro k0 w0 hY fA cQ;have z0:=cQ.size;have rQ:=cQ.blk hB aaa;have h0:aD rRo 7 w0 F sr ro:=SliceF.only iv aN h cQ aaa;have hl:=h0.len;have ow:∀{u:ay},aA [k0] w0 u->aA [] w u:=λhO=>cQ.trans hO λx hx=>.inr aaD;by_cases OO:0<=k/\k<ro.length
 ·obtain⟨n,rfl⟩:∃n:Nat,k=n:=⟨k.toNat,aG⟩
  obtain⟨r,hr⟩:∃r,ro[n]? =some r:=⟨_,aQ aG⟩
  obtain⟨ad,tg,a1,a2,a3⟩:=Sv ((SliceF.inHeap iv h aN).keep iv aN λk _ cd=>cQ.block k cd aaa) hr;have e1:decide ((n:Int)<0)=false:=bH aG;have e2:decide ((n:Int)>=((sr.n:Nat):Int))=false:=bH aG;refine⟨sr,λ_=>Blk.eE rQ 3 rfl,sr,λ_=>Blk.eE rQ 3 rfl,ad,λ_=>a1,r.dom,λ_=>a2.eE 6 _ rfl,λhc w1 cJ=>⟨⟨0,0,0,_,0,Sl.nil,0,false,rfl,λh=>aaH,λ_ m r' hm Uv=>?_⟩,ow cJ⟩,λhc=>⟨sr,Blk.eE rQ 3 rfl,ad,a1,_,_,_,_,_,tg,_,a2,λw2 dw=>⟨⟨_,_,_,_,_,tg,_,true,rfl,λ_=>⟨n,r,rfl,hr,?_,rfl,?_⟩,λh=>aaH⟩,ow dw⟩⟩⟩
  ·have:m=n:=aG
   subst this;rw[hr,bc]at Uv;subst Uv;rw[e1,e2,nf,nf]at hc;exact aP hc
  ·rw[e1,e2,nf,nf]at hc;have:=aY hc;omega
  exact(SliceF.only bN aN a3 dw λk hk _ hm=>by simp only[aO]at hm;omega).mono bN λk hk=>hk.1
 have PB:((decide (k<0))||(decide (k>=(sr.n:Int))))=true:=by
  rw[bU,ch,ch];omega
 have no:∀{q:Prop},((decide (k<0))||(decide (k>=(sr.n:Int))))=false->q:=λh=>by rw[PB]at h;cases h
 refine⟨sr,λ_=>Blk.eE rQ 3 rfl,sr,λh=>no h,⟨0,0,none⟩,λh=>no h,0,λh=>no h,λhc w1 cJ=>⟨⟨0,0,0,_,0,Sl.nil,0,false,rfl,λh=>aaH,λ_ m r' hm Uv=>?_⟩,ow cJ⟩,λhc=>?_⟩
 ·have:=(be.1 Uv).1;omega
 rw[PB,Bool.true_or]at hc;cases hc
theorem Ms(hP:PlR w F s si sd sr p)(hFo:Fo p.sp)(ha:aD rInt 1 w G sa act)(hm:act.length<=2000000)(k:Int):aB au 15 #[aj #[s.v,si.v,sd.v,sr.v],sa.v,O ae k] w λe w'=>(∃t:Sl,e=aq t.v/\dA w.heap.size w' t (mW p.sp p.ro act k))/\aA [] w w':=by
 refine(alK s si sd sr sa k (λv w'=>(∃t:Sl,v=t.v/\dA w.heap.size w' t (mW p.sp p.ro act k))/\aA [] w w') w ?_).mono abm;intro k0 w0 hY fA cQ;have z0:=cQ.size;refine(Su w0 s si sd sr).mono ?_;rintro _ w1 ⟨⟨b,m0,m1,rfl,hb,jC,hB⟩,cJ⟩;have z1:=cJ.size;have o1:=cQ.cy cJ;refine⟨_,rfl,cJ.same aab,(Hx hB (SliceF.only iv aN hP.ro o1 aaa) k).mono ?_⟩;rintro _ w2 ⟨⟨a1,a2,a3,ev,wt,tg,dom,is,rfl,his,hno⟩,dw⟩;have z2:=dw.size;have o2:=o1.cy dw;refine⟨a1,a2,a3,ev,wt,tg,dom,is,rfl,dw.same aab,λk1 k2 w3 j9 jW uY xM dE=>?_⟩;have z3:=dE.size;have o3:=o2.cy dE;refine(ED (kI ha o3) aG).mono ?_;rintro _ w4 ⟨t,rfl,M8,dL⟩;have z4:=dL.size;have o4:=o3.cy dL;have mQ:∀{q:Nat},t.a=some ⟨q,0,none⟩->w3.heap.size<=q:=λe=>(M8.blk e).1;refine⟨t,rfl,dL.same aab,λrQ uw qG=>?_⟩;have wI:aD nP 5 w4 (λk=>F k/\k<w.heap.size) s p.sp:=SliceF.only dh aN (SliceF.inHeap dh hP.sp aN) o4 aaa;refine(tQ (f:=⟨.func (.func 47) #[] #[ai (some ⟨k2,0,none⟩),ai (some ⟨k0,0,none⟩),ai (some ⟨k1,0,none⟩)],rfl⟩) M8 hm ⟨fC (by kernel_rfl),λy hy u hO=>?_⟩ (p:=λy=>!(is&&jA p.sp y dom)) (cap:=[ai (some ⟨k2,0,none⟩),ai (some ⟨k0,0,none⟩),ai (some ⟨k1,0,none⟩)]) rfl).mono ?_
 ·have nk:∀q,q<w3.heap.size->¬(t.a=some ⟨q,0,none⟩):=λq hq e=>abp
  have hu:=wI.keep dh aN λq hq cd=>hO.block q cd (nk q aG);have c0:=hO.blk rQ (nk k0 aG);have c1:=hO.blk uw (nk k1 aG);have c2:=hO.blk qG (nk k2 aG);refine(alW y ⟨k2,0,none⟩ ⟨k0,0,none⟩ ⟨k1,0,none⟩ (λv w'=>v=ao (!(is&&jA p.sp y dom))/\aA [] u w') u ?_).mono abg;refine⟨λc u'=>c=(!(is&&jA p.sp y dom))/\aA [] u u',?_,is,c2.cells 0 _ aaa,λhc=>⟨?_,Only.refl _ _⟩,λhc=>⟨s,Blk.eE c0 0 rfl,dom,Blk.eE c1 6 rfl,(xo hu hFo y dom).mono ?_⟩⟩
  ·rintro c u' ⟨rfl,h⟩;exact⟨rfl,h⟩
  ·have:is=false:=aaw
   rw[this];rfl
  have:is=true:=aaw
  rintro _ u' ⟨rfl,hu'⟩;obtain rfl:u=u':=hu'.symm;refine⟨_,rfl,?_,Only.refl _ _⟩;rw[Ss,this,db]
 rintro _ w5 ⟨s2,rfl,hsa,_,J7,eK⟩;have nk:∀q,q<w3.heap.size->¬(t.a=some ⟨q,0,none⟩):=λq hq e=>abp
 refine⟨s2,rfl,s,si,sd,sr,eK.blk rQ (nk k0 aG),_,_,_,_,_,tg,_,eK.blk uw (nk k1 aG),_,eK.blk qG (nk k2 aG),⟨s2,rfl,?_⟩,(o4.oH (eK.mono (G:=λq=>w.heap.size<=q) λq _ e=>abp)).only λq hq=>hq⟩;have e:mW p.sp p.ro act k=act.filter λx=>!(λy=>!(is&&jA p.sp y dom)) x:=by
  have e2:(act.filter λx=>!(λy=>!(is&&jA p.sp y dom)) x)=act.filter λx=>is&&jA p.sp x dom:=by
   congr 1;funext x;show(!!_)=_;rw[ku]
  rw[e2];cases is with
  | true=>
   obtain⟨n,r,hn,hr,h0,hd,_⟩:=his rfl;unfold mW;rw[hn,aX aG,aV,hr];dsimp only;rw[aX aG,hd];rfl
  | false=>
   have hz:(act.filter λx=>false&&jA p.sp x dom)=[]:=by
    rw[List.filter_eq_nil_iff];intro x _ h;cases h
   rw[hz];unfold mW;split
   ·rfl
   rename_i h;split
   ·rename_i r hr;rw[aZ];exact hno rfl k.toNat r aG hr
   rfl
 rw[e];exact Own.low J7 aG
end
end Go.Proofs.YtpbgcbdclnfpnaaGreatDoor.Con
namespace Go.Kt
open Go Go.RowKit Go.MapKept
theorem xw{α:Type}[DecidableEq α]:∀{V L:List α},V.Nodup->(∀x,x∈V->x∈L)->V.length<=L.length
 | [],_,_,_=>bB _
 | x::V,L,h,hs=>by
  obtain⟨h1,h2⟩:=kO.1 h;have hx:=hs x (.head _);have:=xw (L:=L.erase x) h2 λy hy=>(List.mem_erase_of_ne λe=>h1 (by rw[<-e];exact hy)).2 (hs y (.tail _ hy));rw[List.length_erase_of_mem hx]at this;have:=gq.2 (kw hx);rw[bp];omega
theorem Oa{w w1:ay}{b:Nat}{o:Obj}(h:w1=w∨w1=w.drew):Only [b] w (Go.ChangeMaps.setBlock w1 b o):=by
 rcases h with rfl | rfl
 ·exact⟨rfl,rfl,rfl,by simp[Go.ChangeMaps.setBlock],λk hk hn=>by
   show(w1.heap.setIfInBounds b o)[k]? =_;rw[gz (by simpa using λe=>hn (by simp[e]))]⟩
 exact⟨rfl,rfl,rfl,by show w.heap.size<=(w.heap.setIfInBounds b o).size;simp,λk hk hn=>by
  show(w.heap.setIfInBounds b o)[k]? =_;rw[gz (by simpa using λe=>hn (by simp[e]))]⟩
section
variable {κ:Type} {d:TypeDesc} {kv:κ->az} {g:κ->Prop} {P:Program} {w w':ay} {b r n:Nat} {m:κ->Option az} {V:List κ} {mty kt et:TypeId}
structure ItV (kv:κ->az) (g:κ->Prop) (w:ay) (b r:Nat) (m:κ->Option az) (n:Nat) (V:List κ):Prop where
 mem:∃es clock seen c0,w.heap[b]? =some (.mapIter (some r) clock seen c0)/\w.heap[r]? =some (.map es clock)/\Stamped es clock/\clock<=c0/\es.size<=n/\(∀x,x∈es.toList->∃k,x.key=kv k/\g k)/\
  (∀k v,m k=some v↔∃x,x∈es.toList/\x.key=kv k/\x.val=v)/\V.Nodup/\∀k,k∈V↔∃x,x∈es.toList/\x.key=kv k/\seen.contains x.born=true
theorem ItV.keep(h:ItV kv g w b r m n V)(hb:w'.heap[b]? =w.heap[b]?)(hr:w'.heap[r]? =w.heap[r]?):ItV kv g w' b r m n V:=by
 obtain⟨es,c,s,c0,h1,h2,h3⟩:=h.mem;exact⟨es,c,s,c0,hb.trans h1,hr.trans h2,h3⟩
theorem ItV.lt(h:ItV kv g w b r m n V):b<w.heap.size/\r<w.heap.size:=by
 obtain⟨es,c,s,c0,h1,h2,h3⟩:=h.mem;exact⟨(ga.1 h1).1,(ga.1 h2).1⟩
theorem ItV.only(h:ItV kv g w b r m n V){bs}(hO:Only bs w w')(hb:b∉bs)(hr:r∉bs):ItV kv g w' b r m n V:=h.keep (hO.block b h.lt.1 hb) (hO.block r h.lt.2 hr)
theorem ItV.len(K:B1 d kv g)(h:ItV kv g w b r m n V):V.length<=n:=by
 obtain⟨es,c,s,c0,h1,h2,h3,h4,h5,h6,h7,h8,h9⟩:=h.mem;have hn:(V.map kv).Nodup:=(oS.2 (h8.imp λfX e=>fX (K.inj e)))
 have:=@xw az (Classical.typeDecidableEq _) (V.map kv) (es.toList.map (·.key)) hn λx hx=>by
  obtain⟨k,hk,rfl⟩:=cP.1 hx;obtain⟨e,he,e1,_⟩:=(h9 k).1 hk;exact cP.2 ⟨e,he,e1⟩
 have e:=fk (xs:=es);simp only[bA]at this;omega
theorem MapV.range(hm:P.underlying mty=some (.map kt et))(h:MapV kv g w r m n):
  ∃w',(Instr.range mty (.map (some r))).run P w=.ok (.pointer (some ⟨w.heap.size,0,none⟩)) w'/\ItV kv g w' w.heap.size r m n []/\Only [] w w'/\w'.heap.size=w.heap.size+1:=by
 obtain⟨es,c,h1,h0,hn,h2,h4⟩:=h.mem;refine⟨_,run_range_map w mty kt et r es c hm h1,⟨es,c,#[],c,(MapKept.heap_alloc w _).1,((MapKept.heap_alloc w _).2 r h.lt).trans h1,h0,ba _,hn,h2,h4,List.nodup_nil,λk=>?_⟩,Only.alloc _ _,aaa⟩;constructor
 ·intro h;cases h
 rintro⟨x,_,_,h⟩;simp at h
theorem ItV.next(K:B1 d kv g)(h:ItV kv g w b r m n V)(ty:TypeId):
  ((∀k,(m k).isSome=true->k∈V)/\(Instr.next (.pointer (some ⟨b,0,none⟩)) false ty).run P w=.ok (.tuple #[.bool false]) w)∨
  ∃k v w1,m k=some v/\g k/\k∉V/\(Instr.next (.pointer (some ⟨b,0,none⟩)) false ty).run P w=.ok (.tuple #[.bool true,kv k,v]) w1/\(Instr.entry (.pointer (some ⟨b,0,none⟩))).run P w1=.ok (.tuple #[kv k,v]) w1/\ItV kv g w1 b r m n (k::V)/\Only [b] w w1:=by
 obtain⟨es,c,s,c0,h1,h2,h3,h4,h5,h6,h7,h8,h9⟩:=h.mem;obtain⟨Fv,uU,SI⟩:=h3;have hbr:b≠r:=λe=>by rw[e,h2]at h1;cases h1
 rcases run_next_at (P:=P) w ty b r c c0 s es c h1 h2 (λx hx=>Fv x hx) h4 with⟨hz,hn⟩ | ⟨e,he,w2,hw2,hn⟩
 ·refine .inl ⟨λk hk=>?_,hn⟩;obtain⟨v,hv⟩:=dW.1 hk;obtain⟨x,hx,e1,_⟩:=(h7 k v).1 hv;refine(h9 k).2 ⟨x,hx,e1,?_⟩;cases hs:s.contains x.born with
  | true=>rfl
  | false=>
   have:x∈(leftOf es s).toList:=by
    unfold leftOf;rw[Array.toList_filter];exact dv.2 ⟨hx,by rw[hs];rfl⟩
   have Wz:(leftOf es s).toList=[]:=bQ (by rw[fk];exact hz);rw[Wz]at this;cases this
 have he':=he;unfold leftOf at he';rw[Array.toList_filter]at he';obtain⟨he1,he2⟩:=dv.1 he';have he2:s.contains e.born=false:=by simpa using he2
 obtain⟨k,e1,hg⟩:=h6 e he1;have hO:=Oa (b:=b) (o:=.mapIter (some r) c (s.push e.born) c) hw2;have ux:(Go.ChangeMaps.setBlock w2 b (.mapIter (some r) c (s.push e.born) c)).heap[b]? =some (.mapIter (some r) c (s.push e.born) c):=by
  have cd:b<w2.heap.size:=by
   rcases hw2 with rfl | rfl<;>exact h.lt.1
  show(w2.heap.setIfInBounds b _)[b]? =_;rw[Array.getElem?_setIfInBounds_self_of_lt cd]
 have JM:=(hO.block r h.lt.2 (by simpa using λe=>hbr e.symm)).trans h2;have TZ:∀x,x∈es.toList->x.key=kv k->x=e:=λx hx hk=>by
  have hp:=oS.1 SI;by_cases Ow:x=e
  ·exact Ow
  exfalso;have two:∀{l:List MapEntry} {a b:MapEntry},l.Pairwise (λx y=>x.key≠y.key)->a∈l->b∈l->a≠b->a.key≠b.key:=fun{l}=>by
   induction l with
   | nil=>exact λ_ h=>aaH
   | cons y l ih=>
    intro a b hp ha hb hn;obtain⟨p1,p2⟩:=dM.1 hp;rcases aR.1 ha with rfl | OS<;>rcases aR.1 hb with rfl | qC
    ·exact absurd rfl hn
    ·exact p1 b qC
    ·exact λe=>p1 a OS e.symm
    exact ih p2 OS qC hn
  exact two hp hx he1 Ow (by rw[hk,e1])
 have hkV:k∉V:=λhk=>by
  obtain⟨x,hx,e2,e3⟩:=(h9 k).1 hk;rw[TZ x hx e2,he2]at e3;cases e3
 refine .inr ⟨k,e.val,_,(h7 k e.val).2 ⟨e,he1,e1,rfl⟩,hg,hkV,by rw[hn,e1],?_,⟨es,c,s.push e.born,c,ux,JM,⟨Fv,uU,SI⟩,ba _,h5,h6,h7,kO.2 ⟨hkV,h8⟩,λl=>?_⟩,hO⟩
 ·rw[<-e1];exact run_entry_at (P:=P) _ b r c s es c e ux JM he1 uU
 have hp:∀y:MapEntry,(s.push e.born).contains y.born=(s.contains y.born||y.born==e.born):=λy=>contains_push s e.born y.born;constructor
 ·intro hl;rcases aR.1 hl with rfl | hl
  ·exact⟨e,he1,e1,by rw[hp];simp⟩
  obtain⟨x,hx,e2,e3⟩:=(h9 l).1 hl;exact⟨x,hx,e2,by rw[hp,e3];rfl⟩
 rintro⟨x,hx,e2,e3⟩;rw[hp,bU]at e3;rcases e3 with e3 | e3
 ·exact .tail _ ((h9 l).2 ⟨x,hx,e2,e3⟩)
 have hb:x.born=e.born:=by simpa using e3
 have:x=e:=by
  have two:∀{l:List MapEntry} {a b:MapEntry},(l.map (·.born)).Nodup->a∈l->b∈l->a.born=b.born->a=b:=fun{l}=>by
   induction l with
   | nil=>exact λ_ h=>aaH
   | cons y l ih=>
    intro a b hp ha hb he;obtain⟨p1,p2⟩:=kO.1 hp;rcases aR.1 ha with rfl | OS<;>rcases aR.1 hb with rfl | qC
    ·rfl
    ·exact absurd (cP.2 ⟨b,qC,he.symm⟩) p1
    ·exact absurd (cP.2 ⟨a,OS,he⟩) p1
    exact ih p2 OS qC he
  exact two uU hx he1 hb
 subst this;have:l=k:=K.inj (e2.symm.trans e1);subst this;exact .head _
end
abbrev gI(k:Int):Prop:=0<=k/\k<64
theorem xx:B1 (.int .i64) kN gI:=⟨λ_=>rfl,λh=>abi⟩
theorem MapV.Om{w:ay}{r n:Nat}{m:Int->Option az}(h:MapV kN gI w r m n):MapV kN gI w r m 64:=by
 obtain⟨es,c,h1,h0,hn,h2,h4⟩:=h.mem;refine⟨es,c,h1,h0,?_,h2,h4⟩;have:=@xw az (Classical.typeDecidableEq _) (es.toList.map (·.key)) ((List.range 64).map λi:Nat=>kN (i:Int)) h0.2.2 λx hx=>by
  obtain⟨e,he,rfl⟩:=cP.1 hx;obtain⟨k,e1,e2,e3⟩:=h2 e he;refine cP.2 ⟨k.toNat,lr.2 aG,?_⟩;show kN ((k.toNat:Nat):Int)=e.key;rw[e1,jM e2]
 simpa using this
section
variable {P:Program} {w:ay} {r n:Nat} {m:Int->Option az} {kt:TypeId}
theorem MapV.agq(hk:P.underlying kt=some (.int .i64))(h:MapV kN gI w r m n)(hn:n<=maxLen):∃D:DataW Nat,World.ownsMap w P kt (λ_=>some (.nil,[])) r n D/\Go.Maps.size D<=n/\(Go.intKeys D).Nodup/\∀k,k∈Go.intKeys D↔(m k).isSome=true:=by
 obtain⟨es,c,h1,h0,hs,h2,h4⟩:=h.mem;have hwf:∀{k:Int},gI k->(Lit.int .i64 k).wf=true:=fun{k} hg=>by
  have h1:=hg.1;have h2:=hg.2;simp[Lit.wf,IntKind.min,IntKind.max,IntKind.signed,IntKind.bits];omega
 have apU:∀x,x∈es.toList->∃k,x.key=kN k/\keyOf P kt x.key=some (.int .i64 k):=λx hx=>by
  obtain⟨k,e,hg⟩:=h2 x hx;rw[e];exact⟨k,rfl,by simp[keyOf,hk,mapKey,kN,hwf hg]⟩
 have hrd:∀x,x∈es.toList->∃k,x.key=kN k/\Go.WideElems.rd P kt (H:=Nat) (λ_=>some (.nil,[])) x=some (.int .i64 k,.nil):=λx hx=>by
  obtain⟨k,e,h⟩:=apU x hx;exact⟨k,e,by simp[Go.WideElems.rd,h]⟩
 have hp:(Go.intKeys (.map ((es.toList.map (Go.WideElems.rg P kt (H:=Nat) λ_=>some (.nil,[]))).foldr DataW.insert []))).Perm (es.toList.map λx=>Go.intOf (Go.WideElems.rg P kt (H:=Nat) (λ_=>some (.nil,[])) x).1):=by
  have:=(Go.WideShapes.sorted_perm (es.toList.map (Go.WideElems.rg P kt (H:=Nat) λ_=>some (.nil,[])))).map λp=>Go.intOf p.1;rw[iA]at this;exact this
 refine⟨_,⟨es,c,h1,⟨bf hs hn,h0,λx hx=>?_⟩,hs,rfl⟩,?_,?_,?_⟩
 ·obtain⟨k,_,e⟩:=hrd x hx;exact⟨_,e⟩
 ·rw[Go.Maps.size_eq,(Go.WideShapes.sorted_perm _).length_eq];simpa using hs
 ·rw[hp.nodup_iff];refine oS.2 (((stamped_iff _ _).1 h0).2.2.imp_of_mem ?_);intro x y hx hy hxy he;obtain⟨k,e1,e2⟩:=hrd x hx;obtain⟨l,e3,e4⟩:=hrd y hy;rw[Go.WideElems.rg_of e2,Go.WideElems.rg_of e4]at he;simp[Go.intOf]at he;exact hxy (by rw[e1,e3,he])
 intro k;rw[hp.mem_iff,cP];constructor
 ·rintro⟨x,hx,e⟩;obtain⟨l,e1,e2⟩:=hrd x hx;rw[Go.WideElems.rg_of e2]at e;simp[Go.intOf]at e;subst e;rw[(h4 l x.val).2 ⟨x,hx,e1,rfl⟩];rfl
 intro hs;obtain⟨v,hv⟩:=dW.1 hs;obtain⟨x,hx,e1,_⟩:=(h4 k v).1 hv;obtain⟨l,e2,e3⟩:=hrd x hx;refine⟨x,hx,?_⟩;rw[Go.WideElems.rg_of e3];exact xx.inj (e2.symm.trans e1)
theorem Jn{L ss:List Int}(hL:L.Pairwise (· <·))(hs:ss.Nodup)(he:∀k,k∈ss↔k∈L):ss.mergeSort (λx y=>decide (x<=y))=L:=by
 rw[Go.mergeSort_of_perm_i ((List.perm_ext_iff_of_nodup hs (hL.imp λh e=>by subst e;exact absurd h aG)).2 he)];refine List.mergeSort_of_pairwise (hL.imp λh=>?_);simp;omega
end
end Go.Kt
namespace Go.Proofs.YtpbgcbdclnfpnaaGreatDoor.Con
open Go Go.RowKit Go.Kt Go.Kt.V Go.Proofs.YtpbgcbdclnfpnaaGreatDoor.Vc
abbrev mB(p:Int->Bool):Int->Option az:=λk=>if p k=true then some (ao true)else none
abbrev iV(w:ay)(r:Nat)(p:Int->Bool):Prop:=MapV kN gI w r (mB p) 64
theorem iV.at{w:ay}{r:Nat}{p:Int->Bool}(h:iV w r p)(k:Int):(Instr.lookup 74 (.map (some r)) (O ae k) false).run au w=.ok (ao (p k)) w:=by
 have:=h.lookup (P:=au) (mty:=74) (kt:=3) (et:=4) (z:=ao false) xx (by kernel_rfl) (by kernel_rfl) (λw=>Tryz.zeroValue4 w) k;refine Eq.trans this ?_;dsimp only[mB];cases p k<;>rfl
theorem iV.of{w:ay}{r:Nat}{p q:Int->Bool}(h:iV w r p)(he:∀k,p k=q k):iV w r q:=h.ext λk=>by
 dsimp only[mB];rw[he]
theorem iV.ok{w:ay}{r:Nat}{p:Int->Bool}(h:iV w r p){k:Int}(hk:p k=true):gI k:=MapV.ok h xx (k:=k) (by dsimp only[mB];rw[aZ hk];simp)
theorem xy{w:ay}{r:Nat}{p:Int->Bool}{s:Sl}{l:List Int}{F:aL}(h:iV w r p)(hs:aD rInt 1 w F s l)(hr:¬F r)(hg:∀x,x∈l->gI x):aB au 24 #[.map (some r),s.v] w λe w'=>e=aq (ak #[])/\iV w' r (λk=>p k||decide (k∈l))/\aA [r] w w':=by
 refine(al7 (some r) s (λv w'=>v=ak #[]/\iV w' r (λk=>p k||decide (k∈l))/\aA [r] w w') w ?_).mono abg;have hn:=hs.len;have hc:=hs.cap;have hb:=hs.big;refine⟨λkv i u=>∃j:Nat,i=(j:Int)/\kv+j=l.length/\j<=l.length/\iV u r (λk=>p k||decide (k∈l.take j))/\aA [r] w u,l.length,⟨0,rfl,aG,bB _,h.of λk=>aaa,Only.refl _ _⟩,?_⟩;rintro kv _ w1 ⟨j,rfl,tX,hj,hS,hO⟩;refine⟨λhc=>?_,λhc=>?_⟩
 ·have hc:=aP hc;have iY:j<l.length:=aG
  have u7:aD rInt 1 w1 F s l:=SliceF.only bN aN hs hO λk hk _ hm=>by
   simp only[aO]at hm;exact hr ac5
  obtain⟨ad,a1,a2⟩:=iu u7 (aQ iY);obtain⟨w2,b1,b2,b3⟩:=MapV.update (P:=au) (mty:=74) (kt:=3) (et:=4) xx (by kernel_rfl) (by kernel_rfl) hS (hg _ (eF iY)) (ao true);refine⟨ad,a1,_,a2,w2,b1,kv-1,aG,j+1,aaq,aG,aG,(MapV.Om b2).ext λk=>?_,hO.trans b3 λx hx=>.inl hx⟩;dsimp only[mB];have nt:l.take (j+1)=l.take j++[l[j]]:=by rw[bF,aQ iY];rfl
  by_cases hk:k=l[j]
  ·rw[aZ hk,aZ];rw[bU,ch];exact .inr (by rw[nt,hk];exact List.mem_append_right _ (aO.2 rfl))
  rw[aX hk];congr 2;rw[nt];congr 1;rw[fS,ci,aO];exact⟨λh=>h.resolve_right hk,.inl⟩
 have hc:=aY hc;have iY:j=l.length:=aG
 subst iY;rw[xS]at hS;exact⟨rfl,hS,hO⟩
def EK:Rp (Int×List Int):=λw F x cs=>∃t:Sl,cs=[O ae x.1,t.v]/\aD rInt 1 w F t x.2
theorem mX:EK.Ok where
 keep:=by
  rintro w w' F x cs ⟨d,h1,h2⟩ hk;exact⟨d,h1,h2.keep bN aN hk⟩
 inHeap:=by
  rintro w F x cs ⟨d,h1,h2⟩;exact⟨d,h1,h2.inHeap bN aN⟩
 mono:=by
  rintro w F G x cs ⟨d,h1,h2⟩ hk;exact⟨d,h1,h2.mono bN hk⟩
 one:=by
  rintro w F x cs ⟨d,rfl,_⟩ v hv;simp only[aR,bn,cm]at hv;rcases hv with rfl | rfl<;>rfl
theorem af7{w:ay}{F:aL}{sp:Sl}{L:List (Int×List Int)}(h:aD EK 2 w F sp L){i:Nat}{x:Int×List Int}(hx:L[i]? =some x):∃ad,∃t:Sl,dI sp (i:Int) 2 ad/\aE w ad [O ae x.1,t.v]/\aD rInt 1 w F t x.2:=by
 have cd:=(be.1 hx).1;have hl:=h.len;obtain⟨ad,y,cs,g1,g2,g3,g4,g5,tg,rfl,g6⟩:=h.get (bE i) aG;rw[aV,hx]at g2;injection g2 with g2;subst g2;exact⟨ad,tg,g1,g5,g6⟩
def gL(l:List (Int×List Int)):xv:=l.foldl (λM x=>λk=>if k=x.1 then some x.2 else M k) λ_=>none
structure PastV (w:ay) (F:aL) (r:Nat) (M:xv):Prop where
 ex:∃m,MapV kN gI w r m 64/\(∀k,M k=none->m k=none)/\∀k l,M k=some l->∃s:Sl,m k=some s.v/\aD rInt 1 w F s l
section
variable {w w':ay} {F:aL} {r:Nat} {M:xv}
theorem PastV.only(h:PastV w F r M){bs}(hO:aA bs w w')(hr:r∉bs)(hb:∀k,F k->k<w.heap.size->k∉bs):PastV w' F r M:=by
 obtain⟨m,h1,h2,h3⟩:=h.ex;refine⟨m,MapV.only h1 hO hr,h2,λk l hl=>?_⟩;obtain⟨s,e,hs⟩:=h3 k l hl;exact⟨s,e,SliceF.only bN aN hs hO hb⟩
theorem PastV.o0(h:PastV w F r M)(hO:aA [] w w'):PastV w' F r M:=h.only hO aaa aaa
theorem PastV.mono{G:aL}(h:PastV w F r M)(hk:∀k,F k->G k):PastV w G r M:=by
 obtain⟨m,h1,h2,h3⟩:=h.ex;refine⟨m,h1,h2,λk l hl=>?_⟩;obtain⟨s,e,hs⟩:=h3 k l hl;exact⟨s,e,hs.mono bN hk⟩
theorem PastV.at(h:PastV w F r M)(k:Int):∃s:Sl,(Instr.lookup 72 (.map (some r)) (O ae k) true).run au w=.ok (ak #[s.v,ao (M k).isSome]) w/\∀l,M k=some l->aD rInt 1 w F s l:=by
 obtain⟨m,h1,h2,h3⟩:=h.ex;have:=h1.MJ (P:=au) (mty:=72) (kt:=3) (et:=33) (z:=Sl.nil.v) xx (by kernel_rfl) (by kernel_rfl) (λw=>Tryz.zeroValue33 w) k;cases hm:M k with
 | none=>
  rw[h2 k hm]at this;exact⟨Sl.nil,this,λl h=>aaH⟩
 | some l=>
  obtain⟨s,e,hs⟩:=h3 k l hm;rw[e]at this;refine⟨s,this,λl' h=>?_⟩;injection h with h;subst h;exact hs
theorem PastV.set(h:PastV w F r M){k:Int}(hg:gI k){s:Sl}{l:List Int}(hs:aD rInt 1 w F s l)(hr:¬F r):∃w',(Instr.mapUpdate 72 (.map (some r)) (O ae k) s.v).run au w=.ok () w'/\PastV w' F r (λx=>if x=k then some l else M x)/\aA [r] w w':=by
 obtain⟨m,h1,h2,h3⟩:=h.ex;obtain⟨w2,b1,b2,b3⟩:=MapV.update (P:=au) (mty:=72) (kt:=3) (et:=33) xx (by kernel_rfl) (by kernel_rfl) h1 hg s.v;have kp:∀{t:Sl} {q:List Int},aD rInt 1 w F t q->aD rInt 1 w2 F t q:=λht=>SliceF.only bN aN ht b3 λk hk _ hm=>by
  simp only[aO]at hm;exact hr ac5
 refine⟨w2,b1,⟨_,MapV.Om b2,λx hx=>?_,λx q hx=>?_⟩,b3⟩
 ·by_cases e:x=k
  ·rw[aZ e]at hx;cases hx
  rw[aX e]at hx⊢;exact h2 x hx
 by_cases e:x=k
 ·rw[aZ e]at hx⊢;injection hx with hx;subst hx;exact⟨s,rfl,kp hs⟩
 rw[aX e]at hx⊢;obtain⟨t,e1,ht⟩:=h3 x q hx;exact⟨t,e1,kp ht⟩
theorem PastV.drop(h:PastV w F r M)(k:Int)(hr:¬F r):∃w',(Builtin.delete_ #[72,3] 0 #[.map (some r),O ae k]).run au w=.ok (ak #[]) w'/\PastV w' F r (λx=>if x=k then none else M x)/\aA [r] w w':=by
 obtain⟨m,h1,h2,h3⟩:=h.ex;obtain⟨w2,b1,b2,b3⟩:=MapV.delete (P:=au) (mty:=72) (kt:=3) (et:=33) xx (by kernel_rfl) (by kernel_rfl) h1 k 0;refine⟨w2,b1,⟨_,MapV.Om b2,λx hx=>?_,λx q hx=>?_⟩,b3⟩
 ·by_cases e:x=k
  ·rw[aZ e]
  rw[aX e]at hx⊢;exact h2 x hx
 by_cases e:x=k
 ·rw[aZ e]at hx;cases hx
 rw[aX e]at hx⊢;obtain⟨t,e1,ht⟩:=h3 x q hx;exact⟨t,e1,SliceF.only bN aN ht b3 λk hk _ hm=>by
  simp only[aO]at hm;exact hr ac5⟩
end
abbrev Wk(w:ay)(b:Nat)(s si sd sr:Sl)(r0 r1:Nat):Prop:=aH w b 76 [s.v,si.v,sd.v,sr.v,.map (some r0),.map (some r1)]
theorem EL(w:ay)(s si sd sr:Sl){sp:Sl}{F:aL}{L:List (Int×List Int)}(hL:aD EK 2 w F sp L)(hg:∀x,x∈L->gI x.1):aB au 23 #[aj #[s.v,si.v,sd.v,sr.v],sp.v] w λe w'=>(∃b r0 r1:Nat,e=aq (ai (some ⟨b,0,none⟩))/\w.heap.size<=b/\b<w'.heap.size/\w.heap.size<=r0/\r0<r1/\r1<b/\Wk w' b s si sd sr r0 r1/\PastV w' (λk=>F k/\k<w.heap.size) r0 (gL L)/\iV w' r1 λ_=>false)/\aA [] w w':=by
 refine(afE s si sd sr sp (λv w'=>(∃b r0 r1:Nat,v=ai (some ⟨b,0,none⟩)/\w.heap.size<=b/\b<w'.heap.size/\w.heap.size<=r0/\r0<r1/\r1<b/\Wk w' b s si sd sr r0 r1/\PastV w' (λk=>F k/\k<w.heap.size) r0 (gL L)/\iV w' r1 λ_=>false)/\aA [] w w') w ?_).mono (by rintro _ w' ⟨v,rfl,⟨b,r0,r1,rfl,h⟩,h'⟩;exact⟨⟨b,r0,r1,rfl,h⟩,h'⟩);intro k0 w0 hY fA cQ;have z0:=cQ.size;obtain⟨a1,a2,a3⟩:=MapV.make (P:=au) (mty:=72) (kv:=kN) (g:=gI) w0;have z1:=a3.size;have z1':(w0.alloc (.map #[] 0)).heap.size=w0.heap.size+1:=by show(w0.heap.push _).size=_;simp
 refine⟨_,_,a1,a3.same aab,?_⟩;obtain⟨b1,b2,b3⟩:=MapV.make (P:=au) (mty:=74) (kv:=kN) (g:=gI) (w0.alloc (.map #[] 0));have z2:=b3.size;have z2':((w0.alloc (.map #[] 0)).alloc (.map #[] 0)).heap.size=w0.heap.size+2:=by show((w0.alloc _).heap.push _).size=_;rw[Array.size_push,z1']
 generalize hw1:w0.alloc (.map #[] 0)=w1 at*
 generalize hw2:w1.alloc (.map #[] 0)=w2 at*
 refine⟨_,_,b1,b3.same aab,λk1 w3 j9 jW dE=>?_⟩;have z3:=dE.size;have o3:aA [] w w3:=((cQ.cy a3).cy b3).cy dE;have hn:=hL.len;have hc:=hL.cap;have hb:=hL.big;have hL3:aD EK 2 w3 (λk=>F k/\k<w.heap.size) sp L:=SliceF.only mX aN (SliceF.inHeap mX hL aN) o3 aaa;have P3:PastV w3 (λk=>F k/\k<w.heap.size) w0.heap.size λ_=>none:=⟨_,(MapV.only (MapV.only a2 b3 aaa) dE aaa).Om,λ_ _=>rfl,λk l h=>aaH⟩
 have S3:iV w3 w1.heap.size λ_=>false:=((MapV.only b2 dE aaa).Om).ext λk=>by dsimp only[mB];rw[aX aaa]
 refine⟨λkv i u=>∃j:Nat,i=(j:Int)/\kv+j=L.length/\j<=L.length/\PastV u (λk=>F k/\k<w.heap.size) w0.heap.size (gL (L.take j))/\aA [w0.heap.size] w3 u,L.length,⟨0,rfl,aG,bB _,P3,Only.refl _ _⟩,?_⟩;rintro kv _ w4 ⟨j,rfl,tX,hj,hP,dL⟩;have z4:=dL.size;refine⟨λhc=>?_,λhc hB fX=>?_⟩
 ·have hc:=aP hc;have iY:j<L.length:=aG
  have hL4:aD EK 2 w4 (λk=>F k/\k<w.heap.size) sp L:=SliceF.only mX aN hL3 dL λk hk _ hm=>by
   simp only[aO]at hm;omega
  obtain⟨ad,t,c1,c2,c3⟩:=af7 hL4 (aQ iY);refine⟨ad,c1,_,t,c2,λk4 w5 zq BZ eK=>?_⟩;obtain⟨w6,d1,d2,d3⟩:=(hP.o0 eK).set (hg _ (eF iY)) (kI c3 eK) aG;refine⟨w6,d1,d3.same aab,kv-1,aG,j+1,aaq,aG,aG,?_,(dL.cy eK).trans d3 λx hx=>.inl hx⟩;have nt:L.take (j+1)=L.take j++[L[j]]:=by rw[bF,aQ iY];rfl
  rw[nt];unfold gL;rw[oP];exact d2
 have hc:=aY hc;have iY:j=L.length:=aG
 subst iY;rw[xS]at hP;refine⟨⟨k1,w0.heap.size,w1.heap.size,rfl,aG,aG,aG,aG,aG,hB,hP,MapV.only S3 dL aab⟩,?_⟩;have:=o3.trans dL (bs:=[]) λx hx=>.inr aaD;exact this
end Go.Proofs.YtpbgcbdclnfpnaaGreatDoor.Con
namespace Go.Proofs
open Go.Shelf
def Tryz.C7:Go.Shelf.Ren:=⟨λ| 7=>104 | 10=>152 | n=>n,λ| 23=>74 | 26=>3 | 3=>4 | 28=>174 | 0=>0 | 27=>173 | 33=>84 | 4=>4 | n=>n,λ| n=>n⟩
theorem Tryz.Yo:Go.Proofs.SlLaysZI.n7 Tryz.prog Tryz.C7:={
 mixed:=by kernel_rfl
 f7:=⟨Tryz.f104.name,aN,Tryz.func104.trans (bh some (by kernel_rfl))⟩
 f10:=⟨Tryz.f152.name,aN,Tryz.func152.trans (bh some (by kernel_rfl))⟩
 t0:=Tryz.underlying0
 a0:=Tryz.isAgg0
 z0:=Tryz.sizeOf0
 v0:=Tryz.zeroValue0
 t4:=Tryz.underlying4
 a4:=Tryz.isAgg4
 z4:=Tryz.sizeOf4
 v4:=Tryz.zeroValue4
 t23:=Tryz.underlying74
 a23:=Tryz.isAgg74
 z23:=Tryz.sizeOf74
 v23:=Tryz.zeroValue74
 t26:=Tryz.underlying3
 a26:=Tryz.isAgg3
 z26:=Tryz.sizeOf3
 v26:=Tryz.zeroValue3
 t27:=Tryz.underlying173
 a27:=Tryz.isAgg173
 z27:=Tryz.sizeOf173
 v27:=Tryz.zeroValue173
 t28:=Tryz.underlying174
 a28:=Tryz.isAgg174
 z28:=Tryz.sizeOf174
 v28:=Tryz.zeroValue174
 t33:=Tryz.underlying84
 a33:=Tryz.isAgg84
 z33:=Tryz.sizeOf84
 v33:=Tryz.zeroValue84}
def Tryz.yr:Go.Shelf.Ren:=⟨λ| 6=>103 | 8=>151 | 9=>54 | 11=>185 | 13=>80 | 12=>86 | 23=>113 | 24=>114 | 14=>115 | 15=>116 | 16=>117 | 17=>118 | 18=>119 | 19=>120 | 20=>70 | 21=>121 | 22=>122 | 25=>158 | 26=>154 | 27=>155 | 28=>159 | 29=>160 | 30=>81 | 31=>187 | n=>n,λ| 26=>3 | 28=>174 | 24=>33 | 0=>0 | 3=>3 | 37=>136 | 48=>184 | 50=>186 | 4=>4 | 40=>178 | 39=>177 | 45=>86 | 5=>5 | 9=>9 | 51=>228 | 55=>202 | 57=>258 | 58=>219 | 33=>84 | n=>n,λ| n=>n⟩
theorem Tryz.Wr:Go.Proofs.SlLaysZI.n6 Tryz.prog Tryz.yr:={
 mixed:=by kernel_rfl
 f6:=⟨Tryz.f103.name,aN,Tryz.func103.trans (bh some (by kernel_rfl))⟩
 f8:=⟨Tryz.f151.name,aN,Tryz.func151.trans (bh some (by kernel_rfl))⟩
 f11:=⟨Tryz.f185.name,aN,Tryz.func185.trans (bh some (by kernel_rfl))⟩
 t0:=Tryz.underlying0
 a0:=Tryz.isAgg0
 z0:=Tryz.sizeOf0
 v0:=Tryz.zeroValue0
 t24:=Tryz.underlying33
 a24:=Tryz.isAgg33
 z24:=Tryz.sizeOf33
 v24:=Tryz.zeroValue33
 t26:=Tryz.underlying3
 a26:=Tryz.isAgg3
 z26:=Tryz.sizeOf3
 v26:=Tryz.zeroValue3
 t28:=Tryz.underlying174
 a28:=Tryz.isAgg174
 z28:=Tryz.sizeOf174
 v28:=Tryz.zeroValue174
 i26:=by kernel_rfl}
def Tryz.Oo:Go.Shelf.Ren:=⟨λ| 5=>54 | 8=>80 | 7=>86 | 19=>113 | 20=>114 | 10=>115 | 11=>116 | 12=>117 | 13=>118 | 14=>119 | 15=>120 | 16=>70 | 17=>121 | 18=>122 | 30=>158 | 31=>154 | 32=>155 | 33=>159 | 34=>160 | 35=>81 | 40=>187 | n=>n,λ| 23=>33 | 25=>3 | 3=>3 | 32=>136 | 22=>33 | 0=>0 | 44=>184 | 46=>186 | 4=>4 | 36=>178 | 35=>177 | 41=>86 | 5=>5 | 9=>9 | 53=>228 | 57=>202 | 63=>258 | 64=>219 | n=>n,λ| n=>n⟩
theorem Tryz.Yp:Go.Proofs.SlLaysM.n5 Tryz.prog Tryz.Oo:={
 mixed:=by kernel_rfl
 f5:=⟨Tryz.f54.name,aN,Tryz.func54.trans (bh some (by kernel_rfl))⟩
 f7:=⟨Tryz.f86.name,aN,Tryz.func86.trans (bh some (by kernel_rfl))⟩
 f8:=Tryz.func80.trans (bh some (by kernel_rfl))
 f10:=⟨Tryz.f115.name,aN,Tryz.func115.trans (bh some (by kernel_rfl))⟩
 f11:=⟨Tryz.f116.name,aN,Tryz.func116.trans (bh some (by kernel_rfl))⟩
 f12:=⟨Tryz.f117.name,aN,Tryz.func117.trans (bh some (by kernel_rfl))⟩
 f13:=⟨Tryz.f118.name,aN,Tryz.func118.trans (bh some (by kernel_rfl))⟩
 f14:=⟨Tryz.f119.name,aN,Tryz.func119.trans (bh some (by kernel_rfl))⟩
 f15:=⟨Tryz.f120.name,aN,Tryz.func120.trans (bh some (by kernel_rfl))⟩
 f16:=⟨Tryz.f70.name,aN,Tryz.func70.trans (bh some (by kernel_rfl))⟩
 f17:=⟨Tryz.f121.name,aN,Tryz.func121.trans (bh some (by kernel_rfl))⟩
 f18:=⟨Tryz.f122.name,aN,Tryz.func122.trans (bh some (by kernel_rfl))⟩
 f19:=Tryz.func113.trans (bh some (by kernel_rfl))
 f20:=Tryz.func114.trans (bh some (by kernel_rfl))
 f30:=⟨Tryz.f158.name,aN,Tryz.func158.trans (bh some (by kernel_rfl))⟩
 f31:=Tryz.func154.trans (bh some (by kernel_rfl))
 f32:=Tryz.func155.trans (bh some (by kernel_rfl))
 f33:=⟨Tryz.f159.name,aN,Tryz.func159.trans (bh some (by kernel_rfl))⟩
 f34:=⟨Tryz.f160.name,aN,Tryz.func160.trans (bh some (by kernel_rfl))⟩
 f35:=⟨Tryz.f81.name,aN,Tryz.func81.trans (bh some (by kernel_rfl))⟩
 f40:=⟨Tryz.f187.name,aN,Tryz.func187.trans (bh some (by kernel_rfl))⟩
 t0:=Tryz.underlying0
 a0:=Tryz.isAgg0
 z0:=Tryz.sizeOf0
 v0:=Tryz.zeroValue0
 t3:=Tryz.underlying3
 a3:=Tryz.isAgg3
 z3:=Tryz.sizeOf3
 v3:=Tryz.zeroValue3
 t4:=Tryz.underlying4
 a4:=Tryz.isAgg4
 z4:=Tryz.sizeOf4
 v4:=Tryz.zeroValue4
 t5:=Tryz.underlying5
 a5:=Tryz.isAgg5
 z5:=Tryz.sizeOf5
 v5:=Tryz.zeroValue5
 t9:=Tryz.underlying9
 a9:=Tryz.isAgg9
 z9:=Tryz.sizeOf9
 v9:=Tryz.zeroValue9
 t22:=Tryz.underlying33
 a22:=Tryz.isAgg33
 z22:=Tryz.sizeOf33
 v22:=Tryz.zeroValue33
 t23:=Tryz.underlying33
 a23:=Tryz.isAgg33
 z23:=Tryz.sizeOf33
 v23:=Tryz.zeroValue33
 t25:=Tryz.underlying3
 a25:=Tryz.isAgg3
 z25:=Tryz.sizeOf3
 v25:=Tryz.zeroValue3
 t32:=Tryz.underlying136
 a32:=Tryz.isAgg136
 z32:=Tryz.sizeOf136
 v32:=Tryz.zeroValue136
 t35:=Tryz.underlying177
 a35:=Tryz.isAgg177
 z35:=Tryz.sizeOf177
 v35:=Tryz.zeroValue177
 t36:=Tryz.underlying178
 a36:=Tryz.isAgg178
 z36:=Tryz.sizeOf178
 v36:=Tryz.zeroValue178
 t41:=Tryz.underlying86
 a41:=Tryz.isAgg86
 z41:=Tryz.sizeOf86
 v41:=Tryz.zeroValue86
 t44:=Tryz.underlying184
 a44:=Tryz.isAgg184
 z44:=Tryz.sizeOf184
 v44:=Tryz.zeroValue184
 t46:=Tryz.underlying186
 a46:=Tryz.isAgg186
 z46:=Tryz.sizeOf186
 v46:=Tryz.zeroValue186
 t53:=Tryz.underlying228
 a53:=Tryz.isAgg228
 z53:=Tryz.sizeOf228
 v53:=Tryz.zeroValue228
 t57:=Tryz.underlying202
 a57:=Tryz.isAgg202
 z57:=Tryz.sizeOf202
 v57:=Tryz.zeroValue202
 t63:=Tryz.underlying258
 a63:=Tryz.isAgg258
 z63:=Tryz.sizeOf258
 v63:=Tryz.zeroValue258
 t64:=Tryz.underlying219
 a64:=Tryz.isAgg219
 z64:=Tryz.sizeOf219
 v64:=Tryz.zeroValue219}
open Go.RowKit Go.Maps Go.Sort Go.Shelf in
theorem Tryz.aa8 (m:Nat):AnyZI.SortsIn Tryz.prog Tryz.yr Fence.wide m:=
 ⟨λblk off cap ss W hH hblk hsz=>callsIn_wide.2 (AnyM.slices_Sort_int Tryz.Yp blk off cap ss W hH hblk hsz),
  λp cap W=>callsIn_wide.2 (AnyM.slices_Sort_int_none Tryz.Yp p cap W)⟩
open Go.RowKit Go.Maps Go.Sort Go.Shelf in
theorem Tryz.Ws (mb:Option Nat) (W:World):Calls Tryz.prog 104 #[.map mb] W λe w'=>e=.returned (.func (.func 152) #[] #[.pointer (some ⟨W.heap.size,0,none⟩)])/\w'=W.alloc (.cells #[.map mb] 74):=
 callsIn_wide.1 (AnyZI.keys_in Tryz.Yo Fence.wide 5 trivial rfl mb W)
open Go.RowKit Go.Maps Go.Sort Go.Shelf in
theorem Tryz.Oq {H:Type} (k b nn:Nat) (D0:DataW H) (R:Value->Option (DataW H×List MemPlace)) (w:World) (hk:k<w.heap.size) (hm:w.cell? ⟨k,0,none⟩=some (.map (some b))) (nc:w.ownsMap Tryz.prog 3 R b nn D0) (HP:Maps.size D0<=maxLen) (acS:Maps.size D0*8<=140737488355328):
  Calls Tryz.prog 103 #[.func (.func 152) #[] #[.pointer (some ⟨k,0,none⟩)]] w λe w'=>∃(v:Value) (ss:List Int),e=.returned v/\ss.Perm (intKeys D0)/\
   w'.ownsRow w.heap.size 3 1 v ss.length ((ss.mergeSort (λx y=>decide (x<=y))).map encZ)/\(v=.slice none 0 0↔ss=[])/\Below w.heap.size w w':=by
 have apV:SeqGives Fence.wide 2 Tryz.prog 152 #[.pointer (some ⟨k,0,none⟩)] encZ (λss=>ss.Perm (intKeys D0)) (Maps.size D0) w:=
  AnyZI.keys_gives (ρ:=Tryz.C7) {Tryz.Yo with} Fence.wide _ trivial rfl aG k b nn D0 w hk hm nc
 exact callsIn_wide.1 (AnyZI.sorted_in Tryz.Wr Fence.wide 5 trivial trivial trivial trivial rfl aG (Tryz.aa8 _) (enters_of Tryz.func54 (by kernel_rfl) rfl) 152 #[.pointer (some ⟨k,0,none⟩)] trivial (enters_of Tryz.func152 (by kernel_rfl) rfl) _ _ HP acS _ apV)
end Go.Proofs
namespace Go.Proofs.YtpbgcbdclnfpnaaGreatDoor.Con
open Go Go.RowKit Go.Kt Go.Kt.V Go.Proofs.YtpbgcbdclnfpnaaGreatDoor.Vc
theorem V2(l:List Int)(w:ay)(F:aL)(hg:∀a,a∈l->gI a):lO rInt 1 w F l (l.map λa=>[Value.int ae a]):=by
 induction l with
 | nil=>exact trivial
 | cons a l ih=>
  have:=hg a (.head _);exact⟨⟨rfl,rfl,by constructor<;>omega⟩,ih λb hb=>hg b (.tail _ hb)⟩
theorem Sw(l:List Int):(l.map λa=>[Value.int ae a]).flatten=l.map Go.encZ:=by
 induction l with
 | nil=>rfl
 | cons a l ih=>rw[bG,dy,ih];rfl
theorem Sy{B:Nat}{w:ay}{v:az}{l:List Int}{n:Nat}(h:w.ownsRow B 3 1 v n (l.map Go.encZ))(hg:∀a,a∈l->gI a):∃s:Sl,v=s.v/\dA B w s l:=by
 obtain⟨hl,h⟩:=h;rw[bA,ka]at hl;subst hl;rcases h with⟨rfl,hn⟩ | ⟨g,cap,cur,rfl,h1,h2,h3,h4,h5,h6⟩
 ·have:l=[]:=bQ hn;subst this;exact⟨Sl.nil,rfl,Own.nil _ _ _ _ _ _⟩
 refine⟨⟨some ⟨g,0,none⟩,l.length,cap⟩,rfl,.inr ⟨g,_,cur.toList.drop l.length,rfl,h1,?_,?_,rfl,h3,?_,V2 l w _ hg⟩⟩
 ·rw[ka]at h6;rw[Sw,<-h6,du];unfold aH;rw[h2]
 ·dsimp only;rw[cM,fk,h5];omega
 have:maxLen=9223372036854775807:=rfl;dsimp only;omega
def itI(k:Nat):OV:=⟨.func (.func 152) #[] #[ai (some ⟨k,0,none⟩)],rfl⟩
theorem aaN{w:ay}{r:Nat}{p:Int->Bool}{L:List Int}(h:iV w r p)(hL:L.Pairwise (· <·))(he:∀a,a∈L↔p a=true):
  aB au 66 #[.map (some r)] w λe w'=>∃s:Sl,e=aq s.v/\dA w.heap.size w' s L/\aA [] w w':=by
 refine(al6 (some r) (λv w'=>∃s:Sl,v=s.v/\dA w.heap.size w' s L/\aA [] w w') w ?_).mono (by rintro _ w' ⟨v,rfl,s,rfl,h⟩;exact⟨s,rfl,h⟩);refine(Tryz.Ws (some r) w).mono ?_;rintro _ w1 ⟨rfl,rfl⟩;have hO:aA [] w (w.alloc (.cells #[.map (some r)] 74)):=Only.alloc _ _;have hk:aH (w.alloc (.cells #[.map (some r)] 74)) w.heap.size 74 [.map (some r)]:=heap_alloc_new w _;have h1:iV (w.alloc (.cells #[.map (some r)] 74)) r p:=MapV.only h hO aaa;have z1:=hO.size;generalize w.alloc (.cells #[.map (some r)] 74)=w1 at*
 refine⟨itI w.heap.size,rfl,?_⟩;obtain⟨D,g1,g2,g3,g4⟩:=MapV.agq (P:=au) (kt:=3) (by kernel_rfl) h1 (by have:maxLen=9223372036854775807:=rfl;omega);refine(Tryz.Oq w.heap.size r 64 D _ w1 hk.lt (hk.cell 0) g1 (by have:maxLen=9223372036854775807:=rfl;omega) aG).mono ?_;rintro e w' ⟨v,ss,rfl,k1,k2,k3,k4⟩;have hs:ss.Nodup:=k1.nodup_iff.2 g3;rw[Jn hL hs λa=>by
  rw[k1.mem_iff,g4,he];dsimp only[mB];cases p a<;>simp]at k2
 obtain⟨s,rfl,ho⟩:=Sy k2 λa ha=>h.ok ((he a).1 ha);exact⟨s,rfl,s,rfl,ho.low z1,hO.cy (Only.ov k4)⟩
def mY(S:Nat)(k:Int):Bool:=decide (0<=k)&&S.testBit k.toNat
theorem Bg(S n:Nat):mY S (n:Int)=S.testBit n:=by
 unfold mY;rw[bL aG,db,aV]
theorem EM{x:Int}(h:gI x)(S:Nat)(k:Int):mY (CR S x) k=(mY S k||decide (k=x)):=by
 have h1:=h.1;have h2:=h.2;unfold mY CR;rw[Nat.testBit_or,Bb];by_cases hk:0<=k
 ·rw[bL hk,db,db];congr 1;rw[fS];constructor
  ·rintro⟨_,e⟩;omega
  intro e;exact⟨aG,aG⟩
 rw[bH hk,fj,fj,bH aG];rfl
theorem CV:∀(l:List Int),(∀x,x∈l->gI x)->∀(S:Nat) (k:Int),mY (l.foldl CR S) k=(mY S k||decide (k∈l))
 | [],_,S,k=>aaa
 | x::l,h,S,k=>by
  rw[kM,CV l (λy hy=>h y (.tail _ hy)),EM (h x (.head _)),Bool.or_assoc];congr 1;rw[<-Bool.decide_or,fS,aR]
theorem Sz{α:Type}{l:List α}{j:Nat}{t:α}(h:l[j]? =some t)(f:α->Bool):(l.take (j+1)).any f=((l.take j).any f||f t):=by
 rw[bF,h,T5];simp
theorem EN(w:ay)(k:Int):aB au 36 #[O ae k] w λe w'=>e=aq (ao (fM k))/\w'=w:=by
 refine(al0 k (λv w'=>v=ao (fM k)/\w'=w) w ?_).mono abg;refine⟨?_,rfl⟩;congr 1;unfold fM;rw[bT];simp
theorem PastV.inHeap{w:ay}{F:aL}{r:Nat}{M:xv}(h:PastV w F r M):PastV w (λk=>F k/\k<w.heap.size) r M:=by
 obtain⟨m,h1,h2,h3⟩:=h.ex;refine⟨m,h1,h2,λk l hl=>?_⟩;obtain⟨s,e,hs⟩:=h3 k l hl;exact⟨s,e,SliceF.inHeap bN hs aN⟩
section
variable {w:ay} {b r0 r1:Nat} {s si sd sr st:Sl} {xs:List cR} {dft tg:List Int} {F G H:aL} {M:xv}
theorem Hy(hB:Wk w b s si sd sr r0 r1)(wI:aD nP 5 w F s xs)(hsd:aD rInt 1 w F sd dft)(hP:PastV w G r0 M)(nS:aD rInt 1 w H st tg)(yL:dft.length=xs.length)(hg:∀t,t∈tg->∀g,g∈dT xs dft M t->gI g):
  aB au 46 #[ai (some ⟨b,0,none⟩),st.v] w λe w'=>(∃r:Nat,e=aq (.map (some r))/\w.heap.size<=r/\iV w' r (λk=>tg.any λt=>decide (k∈dT xs dft M t)))/\aA [] w w':=by
 refine(al4 ⟨b,0,none⟩ st (λv w'=>(∃r:Nat,v=.map (some r)/\w.heap.size<=r/\iV w' r (λk=>tg.any λt=>decide (k∈dT xs dft M t)))/\aA [] w w') w ?_).mono (by rintro _ w' ⟨v,rfl,⟨r,rfl,h⟩,h'⟩;exact⟨⟨r,rfl,h⟩,h'⟩);obtain⟨a1,a2,a3⟩:=MapV.make (P:=au) (mty:=74) (kv:=kN) (g:=gI) w;refine⟨_,_,a1,?_⟩;have S0:iV (w.alloc (.map #[] 0)) w.heap.size λk=>([]:List Int).any λt=>decide (k∈dT xs dft M t):=(MapV.Om a2).ext λk=>by dsimp only[mB];rw[aX aaa]
 generalize w.alloc (.map #[] 0)=W at*
 have hn:=nS.len;have hc:=nS.cap;have hb:=nS.big;have hxn:=wI.len;have hxc:=wI.cap;have hxb:=wI.big;have hP':=hP.inHeap;refine⟨λkv i u=>∃j:Nat,i=(j:Int)/\kv+j=tg.length/\j<=tg.length/\iV u w.heap.size (λk=>(tg.take j).any λt=>decide (k∈dT xs dft M t))/\aA [w.heap.size] W u,tg.length,⟨0,rfl,aG,bB _,S0,Only.refl _ _⟩,?_⟩;rintro kv _ u ⟨j,rfl,tX,hj,hS,hO⟩;have o:aA [] w u:=a3.trans hO λx hx=>.inr aaD;refine⟨λhc=>?_,λhc=>?_⟩
 ·have hc:=aP hc;have iY:j<tg.length:=aG
  obtain⟨t,ht⟩:∃t,tg[j]? =some t:=⟨_,aQ iY⟩
  have YZ:=hg t (bD ht);refine⟨λw2=>iV w2 w.heap.size (λk=>(tg.take (j+1)).any λt=>decide (k∈dT xs dft M t))/\aA [w.heap.size] W w2,?_,?_⟩
  ·rintro w2 ⟨h1,h2⟩;exact⟨kv-1,aG,j+1,aaq,aG,aG,h1,h2⟩
  have fin:∀{q:Int->Bool} {u':ay},iV u' w.heap.size q->(∀k,q k=((tg.take j).any (λt=>decide (k∈dT xs dft M t))||decide (k∈dT xs dft M t)))->iV u' w.heap.size (λk=>(tg.take (j+1)).any λt=>decide (k∈dT xs dft M t)):=λh he=>h.of λk=>by rw[he,Sz ht]
  obtain⟨ad,c1,c2⟩:=iu (kI nS o) ht;have PG:Wk u b s si sd sr r0 r1:=o.blk hB aaa;refine⟨ad,c1,_,c2,some r0,Blk.eE PG 4 rfl,?_⟩;obtain⟨l0,d1,d2⟩:=PastV.at (hP'.o0 o) t;refine⟨l0,_,_,d1,s,λ_=>Blk.eE PG 0 rfl,λhx=>⟨fin hS λk=>?_,hO⟩,λhx=>⟨s,Blk.eE PG 0 rfl,?_⟩⟩
  ·rw[bU,ch,ch]at hx;have:dT xs dft M t=[]:=by unfold dT;rw[aZ aG]
   rw[this];simp
  rw[fT,dq,dq]at hx;obtain⟨n,rfl⟩:∃n:Nat,t=n:=⟨t.toNat,aG⟩
  obtain⟨x,Bz⟩:∃x,xs[n]? =some x:=⟨_,aQ aG⟩
  have apW:aD nP 5 u F s xs:=SliceF.only dh aN wI o aaa;obtain⟨tV,e1,e2,_⟩:=j5 apW Bz;have PH:dT xs dft M (n:Int)=if fM x.k then(match M n with
   | some l=>l
   | none=>[(dft[n]?).getD 0])else[(n:Int)]:=by
   unfold dT;rw[aX aG,fR Bz,aV]
   try rfl
  refine⟨tV,e1,x.k,e2.eE 0 _ rfl,(EN u x.k).mono ?_⟩;rintro _ u' ⟨rfl,hu⟩;obtain rfl:u=u':=hu.symm;refine⟨_,rfl,λhh=>?_,λhh=>⟨λhk=>?_,λhk=>?_⟩⟩
  ·have hh:fM x.k=false:=ac8
   rw[hh,aX aaa]at PH;have Ig:=YZ n (by rw[PH];exact .head _);obtain⟨y,w5,f1,f2,f3⟩:=uu u (a:=(n:Int)) ⟨aG,aG⟩;have z5:=f2.size;have cd:=MapV.lt hS;refine⟨y,w5,f1,(xy (MapV.only hS f2 aaa) (f3.slice bN) abQ (λz hz=>ada)).mono ?_⟩;rintro _ w6 ⟨rfl,h6,eI⟩;exact⟨rfl,fin h6 λk=>by rw[PH],(hO.cy f2).trans eI λx hx=>.inl hx⟩
  ·have hh:fM x.k=true:=ac8
   obtain⟨l,hl⟩:=dW.1 hk;rw[hh,aZ rfl,hl]at PH;dsimp only at PH;refine(xy hS (d2 l hl) aG λz hz=>YZ z (by rw[PH];exact hz)).mono ?_;rintro _ w6 ⟨rfl,h6,eI⟩;exact⟨rfl,fin h6 λk=>by rw[PH],hO.trans eI λx hx=>.inl hx⟩
  have hh:fM x.k=true:=ac8
  have hl:M n=none:=aa2
  rw[hh,aZ rfl,hl]at PH;dsimp only at PH;obtain⟨v,hv⟩:∃v,dft[n]? =some v:=⟨_,aQ aG⟩
  rw[hv,jY]at PH;have Ig:=YZ v (by rw[PH];exact .head _);obtain⟨ad3,g1,g2⟩:=iu (kI hsd o) hv;refine⟨sd,Blk.eE PG 2 rfl,ad3,g1,v,g2,?_⟩;obtain⟨y,w5,f1,f2,f3⟩:=uu u (a:=v) ⟨by have:=Ig.1;omega,by have:=Ig.2;omega⟩;have z5:=f2.size;have cd:=MapV.lt hS;refine⟨y,w5,f1,(xy (MapV.only hS f2 aaa) (f3.slice bN) abQ (λz hz=>ada)).mono ?_⟩;rintro _ w6 ⟨rfl,h6,eI⟩;exact⟨rfl,fin h6 λk=>by rw[PH],(hO.cy f2).trans eI λx hx=>.inl hx⟩
 have hc:=aY hc;have iY:j=tg.length:=aG
 subst iY;rw[xS]at hS;exact⟨⟨w.heap.size,rfl,ba _,hS⟩,o⟩
end
structure WkP (w:ay) (b:Nat) (s si sd sr:Sl) (r0 r1:Nat) (F G:aL) (p:Pl) (M:xv) (S:Nat):Prop where
 blk:Wk w b s si sd sr r0 r1
 pl:PlR w F s si sd sr p
 past:PastV w G r0 M
 set:iV w r1 (mY S)
 n01:r0≠r1
 n0:r0≠b
 n1:r1≠b
 nF:¬F r0/\¬F r1
 nG:¬G r0/\¬G r1
section
variable {w w':ay} {b r0 r1 r:Nat} {s si sd sr:Sl} {F G:aL} {p:Pl} {M:xv} {S S':Nat} {q:Int->Bool} {L:List Int} {d:Int}
theorem WkP.step(h:WkP w b s si sd sr r0 r1 F G p M S)(hO:aA [r1] w w')(hS:iV w' r1 (mY S')):WkP w' b s si sd sr r0 r1 F G p M S':=by
 have n:∀{P:aL},¬P r1->∀k,P k->k<w.heap.size->k∉[r1]:=λhp k hk _ hm=>by
  simp only[aO]at hm;exact hp ac5
 exact⟨hO.blk h.blk (by simpa using λe=>h.n1 e.symm),⟨SliceF.only dh aN h.pl.sp hO (n h.nF.2),SliceF.only bN aN h.pl.ini hO (n h.nF.2),SliceF.only bN aN h.pl.dft hO (n h.nF.2),SliceF.only iv aN h.pl.ro hO (n h.nF.2)⟩,h.past.only hO (by simpa using h.n01) (n h.nG.2),hS,h.n01,h.n0,h.n1,h.nF,h.nG⟩
theorem WkP.o0(h:WkP w b s si sd sr r0 r1 F G p M S)(hO:aA [] w w'):WkP w' b s si sd sr r0 r1 F G p M S:=
 ⟨hO.blk h.blk aaa,h.pl.o0 hO,h.past.o0 hO,MapV.only h.set hO aaa,h.n01,h.n0,h.n1,h.nF,h.nG⟩
theorem Mu(h:WkP w b s si sd sr r0 r1 F G p M S)(hs:iV w r q)(hr:r≠r1)(hq:∀k,q k=true↔k∈L)(hL:∀g,g∈L->pf p.sp g)(hd: -1<=d)(hF:Fo p.sp)(hl:p.sp.length<=64):
  aB au 45 #[ai (some ⟨b,0,none⟩),.map (some r),O ae d] w λe w'=>e=aq (ak #[])/\iV w' r1 (mY (jz p.sp d L S))/\aA [r1] w w':=by
 refine(al3 ⟨b,0,none⟩ (some r) d (λv w'=>v=ak #[]/\iV w' r1 (mY (jz p.sp d L S))/\aA [r1] w w') w ?_).mono abg;obtain⟨w0,a1,a2,a3,a4⟩:=MapV.range (P:=au) (mty:=74) (kt:=3) (et:=4) (by kernel_rfl) hs;have JL:=MapV.lt h.set;have up1:∀{u:ay},aA [] w u->aA [r1] w u:=λhO=>(Only.refl [r1] w).cy hO;refine⟨_,w0,a1,λkv u=>∃V:List Int,ItV kN gI u w.heap.size r (mB q) 64 V/\kv+V.length=64/\iV u r1 (mY (jz p.sp d V.reverse S))/\aA [r1] w u,64,⟨[],a2,rfl,MapV.only h.set a3 aaa,up1 a3⟩,?_⟩;rintro kv u ⟨V,hI,tX,hS,hO⟩;have hlq:∀{k:Int},mB q k≠none->q k=true:=fun{k} hk=>by
  cases e:q k with
  | true=>rfl
  | false=>exact absurd (by dsimp only[mB];rw[e,aX aaa]) hk
 rcases ItV.next (P:=au) xx hI 0 with⟨iW,WV⟩ | ⟨k,v,u1,hm,hgk,hkV,WV,Fg,hI1,cJ⟩
 ·refine .inl ⟨u,WV,rfl,hS.of λk=>?_,hO⟩;have hVq:∀k,k∈V->k∈L:=λk hk=>by
   obtain⟨es,c,sn,c0,_,_,_,_,_,_,m7,_,m9⟩:=hI.mem;obtain⟨x,hx,e1,_⟩:=(m9 k).1 hk;have:=(m7 k x.val).2 ⟨x,hx,e1,rfl⟩;exact(hq k).1 (hlq (by rw[this];simp))
  have e:jz p.sp d V.reverse S=jz p.sp d L S:=Nat.eq_of_testBit_eq λm=>by
   rw[bT,nY hF hl hd _ S (λg hg=>hL g (hVq g (xT.1 hg))) m,nY hF hl hd L S hL m];refine or_congr J9 (and_congr J9 (oU λg=>and_congr ⟨λhg=>hVq _ (xT.1 hg),λhg=>xT.2 (iW _ ?_)⟩ J9));dsimp only[mB];rw[aZ ((hq _).2 hg)];rfl
  rw[e]
 have hqk:q k=true:=hlq (by rw[hm];simp);have hv:v=ao true:=by
  dsimp only[mB]at hm;rw[aZ hqk]at hm;injection hm with hm;exact hm.symm
 subst hv;have hLk:=hL k ((hq k).1 hqk);have hVl:=ItV.len xx hI1;rw[bp]at hVl;have abK:aA [r1] w u1:=hO.trans cJ λx hx=>.inr aaD;refine .inr ⟨⟨kN k,rfl⟩,⟨ao true,rfl⟩,u1,WV,⟨kN k,rfl⟩,⟨ao true,rfl⟩,u1,Fg,k,rfl,?_⟩;refine⟨λHW i u2=>∃T,iV u2 r1 (mY T)/\i<(HW:Int)/\ -1<=i/\i<(p.sp.length:Int)/\Mh p.sp d HW i T=Mh p.sp d p.sp.length k (jz p.sp d V.reverse S)/\ItV kN gI u2 w.heap.size r (mB q) 64 (k::V)/\aA [r1] w u2,p.sp.length,⟨_,MapV.only hS cJ aab,hLk.2,by have:=hLk.1;omega,hLk.2,rfl,hI1,abK⟩,?_⟩;rintro HW i u2 ⟨T,hT,i1,i2,i3,hup,hI2,dw⟩;refine⟨λhc=>?_,λhc=>?_⟩
 ·have hc:i>d:=aP hc;obtain⟨n,rfl⟩:∃n:Nat,i=n:=⟨i.toNat,aG⟩
  obtain⟨x,hx⟩:∃x,p.sp[n]? =some x:=⟨_,aQ aG⟩
  have hW2:=h.step dw hT;refine⟨some r1,Blk.eE hW2.blk 5 rfl,?_⟩;obtain⟨y,w6,f1,f2,f3⟩:=uu u2 (a:=(n:Int)) ⟨aG,aG⟩;have z6:=f2.size;have z2:=dw.size;have Ig:gI (n:Int):=⟨aG,aG⟩
  refine⟨y,w6,f1,(xy (MapV.only hT f2 aaa) (f3.slice bN) abQ (λz hz=>ada)).mono ?_⟩;rintro _ w7 ⟨rfl,h7,fL⟩;have h7:iV w7 r1 (mY (CR T n)):=h7.of λk=>by
   rw[EM Ig];congr 1;rw[fS,aO]
  have o27:aA [r1] u2 w7:=((Only.refl [r1] u2).cy f2).trans fL λx hx=>.inl hx;have o7:aA [r1] w w7:=dw.trans o27 λx hx=>.inl hx;have hW7:=h.step o7 h7;obtain⟨ad,e1,_,e3,_⟩:=j5 hW7.pl.sp hx;have Us: -1<=x.pa/\x.pa<(n:Int):=by
   by_cases h0:n=0
   ·subst h0;have:=(hF.rt x hx).1;omega
   obtain⟨pp,_,h1,h2,_⟩:=hF.par hx aG;omega
  refine⟨rfl,s,Blk.eE hW7.blk 0 rfl,ad,e1,x.pa,e3,HW-1,aG,CR T n,h7,aG,aG,aG,?_,ItV.only hI2 o27 aab adq,o7⟩;rw[<-hup];obtain⟨f,rfl⟩:∃f,HW=f+1:=⟨HW-1,aG⟩
  conv=>rhs;unfold Mh
  rw[aZ hc,lj hx];rfl
 have hc:¬i>d:=aY hc;have hT':T=Mh p.sp d p.sp.length k (jz p.sp d V.reverse S):=by
  rw[<-hup];cases HW with
  | zero=>rfl
  | succ f=>unfold Mh;rw[aX hc]
 refine⟨kv-1,aG,k::V,hI2,by rw[bp];omega,?_,dw⟩;rw[hT']at hT;unfold jz at hT⊢;rw[List.reverse_cons,oP];exact hT
end
theorem aaO{w:ay}{F:aL}{s:Sl}{l:List Int}(h:aD rInt 1 w F s l){i:Nat}{x:Int}(hx:l[i]? =some x):InI x:=by
 have cd:=(be.1 hx).1;have hl:=h.len;obtain⟨ad,y,cs,g1,g2,g3,g4,g5,g6⟩:=h.get (bE i) aG;rw[aV,hx]at g2;injection g2 with g2;subst g2;exact g6.2
theorem Ob{xs:List cR}(sd:Sd xs)(n:Nat):((eX xs n xs.length).filter λx=>!(λy=>fM (kd xs y)) x)=cV xs n:=by
 unfold cV;refine List.filter_congr λx hx=>?_;obtain⟨q,t,rfl,_,ht,_⟩:=qw.1 hx;have hk:=sd.kn q t ht;dsimp only;rw[ki ht];unfold fM wF;rw[bT];simp;omega
section
variable {w:ay} {b r0 r1:Nat} {s si ru sr:Sl} {F G:aL} {p:Pl} {M:xv} {S:Nat}
theorem Mx(h:WkP w b s si ru sr r0 r1 F G p M S)(sd:Sd p.sp)(hi:p.ini.length=p.sp.length)(yL:p.dft.length=p.sp.length)(WW:∀(n:Nat) (t:cR),p.sp[n]? =some t->t.k≠2->cV p.sp n≠[]->∀g,g∈dT p.sp p.dft M ((p.ini[n]?).getD 0)->pf p.sp g):
  aB au 25 #[ai (some ⟨b,0,none⟩)] w λe w'=>∃t:Sl,e=aq t.v/\dA w.heap.size w' t (gX (jj p.sp (λn=>dT p.sp p.dft M ((p.ini[n]?).getD 0)) p.sp.length S))/\aA [r1] w w':=by
 refine(al5 ⟨b,0,none⟩ (λv w'=>∃t:Sl,v=t.v/\dA w.heap.size w' t (gX (jj p.sp (λn=>dT p.sp p.dft M ((p.ini[n]?).getD 0)) p.sp.length S))/\aA [r1] w w') w ?_).mono abO;intro k0 w0 hY fA cQ;have z0:=cQ.size;have h0:=h.o0 cQ;have JL:=MapV.lt h.set;have C8:=h.blk.lt;have kB:=sd.le;have hxn:=h.pl.sp.len;have hxc:=h.pl.sp.cap;have hxb:=h.pl.sp.big;have up1:∀{a u:ay},aA [] a u->aA [r1] a u:=λhO=>(Only.refl [r1] _).cy hO;generalize OJ:(λn:Nat=>dT p.sp p.dft M ((p.ini[n]?).getD 0))=gl at*
 have hgj:∀j:Nat,gl j=dT p.sp p.dft M ((p.ini[j]?).getD 0):=λj=>by rw[<-OJ]
 refine⟨s,Blk.eE h0.blk 0 rfl,λkv i q u=>∃j:Nat,i=(j:Int)/\kv+j=p.sp.length/\j<=p.sp.length/\q=some ⟨b,0,none⟩/\iV u r1 (mY (jj p.sp gl j S))/\aA [r1] w0 u,p.sp.length,⟨0,rfl,aG,bB _,rfl,h0.set,Only.refl _ _⟩,?_⟩;rintro kv _ _ u ⟨j,rfl,tX,hj,rfl,hS,hO⟩;have hW:=h0.step hO hS;have zu:=hO.size;refine⟨λhc=>?_,λhc=>?_⟩
 ·have hc:=aP hc;have iY:j<p.sp.length:=aG
  obtain⟨x,hx⟩:∃x,p.sp[j]? =some x:=⟨_,aQ iY⟩
  refine⟨λq u2=>q=some ⟨b,0,none⟩/\iV u2 r1 (mY (jj p.sp gl (j+1) S))/\aA [r1] w0 u2,?_,?_⟩
  ·rintro _ u2 ⟨rfl,h1,h2⟩;exact⟨kv-1,aG,j+1,aaq,aG,aG,rfl,h1,h2⟩
  have hcm:jj p.sp gl (j+1) S=EF p.sp gl (jj p.sp gl j S) j:=rfl;rw[hcm];generalize jj p.sp gl j S=T at*
  have PF:kd p.sp (j:Int)=x.k:=ki hx;obtain⟨ad,e1,e2,_⟩:=j5 hW.pl.sp hx;refine⟨ad,e1,_,_,_,_,_,e2,_,rfl,λk4 w3 zq BZ dE=>?_⟩;have z3:=dE.size;have Y8:=hW.o0 dE;have o3:=hO.cy dE;refine⟨some r1,Blk.eE Y8.blk 5 rfl,_,w3,iV.at Y8.set (j:Int),λ_ _=>rfl,λhb=>?_,λhb=>?_⟩
  ·have hb:T.testBit j=false:=by rw[Bg]at hb;simpa using hb
   refine⟨rfl,?_,o3⟩;unfold EF;rw[hb,aX aaa];exact Y8.set
  have hb:T.testBit j=true:=by rw[Bg]at hb;simpa using hb
  refine⟨_,rfl,s,Blk.eE Y8.blk 0 rfl,(I9 Y8.pl.sp sd.fo hx aG).mono ?_⟩;rintro _ w5 ⟨⟨t,rfl,ht⟩,eK⟩;have z5:=eK.size;refine⟨t,rfl,eK.same aab,λaiC fX=>?_⟩;have Y9:=Y8.o0 eK;have mQ:∀{q:Nat},t.a=some ⟨q,0,none⟩->w3.heap.size<=q:=λe=>(ht.blk e).1;have nk:∀q,q<w3.heap.size->¬(t.a=some ⟨q,0,none⟩):=λq hq e=>abp
  have Px:(eX p.sp j p.sp.length).length<=2000000:=by
   have:(eX p.sp j p.sp.length).length<=p.sp.length:=by
    unfold eX;rw[bA];exact bf (cY _ _) (oQ fH)
   omega
  have apZ:=SliceF.inHeap dh Y8.pl.sp aN;refine(tQ (f:=⟨.func (.func 64) #[] #[ai (some ⟨k0,0,none⟩)],rfl⟩) ht Px ⟨fC (by kernel_rfl),λy hy v J8=>?_⟩ (p:=λy=>fM (kd p.sp y)) (cap:=[ai (some ⟨k0,0,none⟩)]) rfl).mono ?_
  ·obtain⟨m,tm,rfl,_,YI,_⟩:=qw.1 hy;have cb:=J8.blk aiC (nk k0 aG);have cw:=J8.blk Y9.blk (nk b aG);have cs:aD nP 5 v (λk=>F k/\k<w3.heap.size) s p.sp:=(SliceF.only dh aN apZ eK aaa).keep dh aN λk hk cd=>J8.block k cd (nk k hk.2);refine(amg m ⟨k0,0,none⟩ (λc w'=>c=ao (fM (kd p.sp m))/\aA [] v w') v ?_).mono acg;obtain⟨tV,g1,g2,_⟩:=j5 cs YI;refine⟨some ⟨b,0,none⟩,cb.cells 0 _ aaa,⟨b,0,none⟩,rfl,s,Blk.eE cw 0 rfl,tV,g1,tm.k,g2.eE 0 _ rfl,(EN v tm.k).mono ?_⟩;rintro _ v' ⟨rfl,hv⟩;obtain rfl:v=v':=hv.symm;exact⟨_,rfl,by rw[ki YI],Only.refl _ _⟩
  rintro _ w6 ⟨t2,rfl,_,_,hR6,eI⟩;rw[Ob sd j]at hR6;have o36:aA [] w3 w6:=(eK.oH (eI.mono (G:=λq=>w3.heap.size<=q) λq _ e=>mQ e)).only λq hq=>hq;have z6:=o36.size;have hW6:=Y8.o0 o36;have o6:=o3.cy o36;have cb6:aH w6 k0 70 [ai (some ⟨b,0,none⟩)]:=eI.blk aiC (nk k0 aG);have z56:=eI.size;have Tj:=hR6.slice bN;have PE:=Tj.len;have hRg:∀y,y∈cV p.sp j->gI y:=λy hy=>by
   obtain⟨m,tm,rfl,YI,_⟩:=gx.1 hy;have:=(be.1 YI).1;exact⟨aG,aG⟩
  have ap1:¬(False∨w3.heap.size<=r1/\t2.a=some ⟨r1,0,none⟩):=abQ
  refine⟨t2,rfl,λq hq=>?_,some ⟨b,0,none⟩,cb6,λh2=>?_,λh2=>?_⟩
  ·simp only[aO]at hq;subst hq;exact eI.block _ aG (nk _ aG)
  ·have h2:x.k=2:=acD
   refine⟨⟨b,0,none⟩,rfl,some r1,Blk.eE hW6.blk 5 rfl,(xy hW6.set Tj ap1 hRg).mono ?_⟩;rintro _ w7 ⟨rfl,h7,fL⟩;refine⟨rfl,fL.same aab,some ⟨b,0,none⟩,fL.blk cb6 aab,rfl,?_,o6.trans fL λx hx=>.inl hx⟩;unfold EF;rw[hb,aZ rfl,PF,aZ h2];exact h7.of λk=>by rw[CV _ hRg]
  have h2:x.k≠2:=acD
  have hcb:EF p.sp gl T j=if cV p.sp j≠[]/\((cV p.sp j).all λr=>!T.testBit r.toNat)=true then jz p.sp j (gl j) T else T:=by
   unfold EF;rw[hb,aZ rfl,PF,aX h2]
  refine⟨λbb q u8=>q=some ⟨b,0,none⟩/\aA [] w6 u8/\(bb=true↔cV p.sp j≠[]/\((cV p.sp j).all λr=>!T.testBit r.toNat)=true),?_,?_⟩
  ·rintro bb _ u8 ⟨rfl,fV,hbb⟩;have z8:=fV.size;have o8:=o6.cy fV;refine⟨λht=>λw9 gy hB9=>?_,λhf=>⟨rfl,?_,o8⟩⟩
   ·have ht:=hbb.1 ht;rw[aZ ht]at hcb;have z9:=gy.size;have o9:=o8.cy gy;have hW9:=(hW6.o0 fV).o0 gy;obtain⟨v,hv⟩:∃v,p.ini[j]? =some v:=⟨_,aQ aG⟩
    obtain⟨tV,g1,g2⟩:=iu hW9.pl.ini hv;have ap3:=aaO hW9.pl.ini hv;obtain⟨y,dR,f1,f2,f3⟩:=uu w9 (a:=v) ap3;have Pu:=f2.size;have T0:=hW9.o0 f2;have hgv:gl j=dT p.sp p.dft M v:=by rw[hgj,hv];rfl
    have wC:∀g,g∈dT p.sp p.dft M v->pf p.sp g:=λg hg=>WW j x hx h2 ht.1 g (by rw[hv];exact hg);refine⟨λk=>k=k0,rfl,rfl,⟨b,0,none⟩,rfl,si,Blk.eE hW9.blk 1 rfl,tV,g1,v,g2,y,dR,f1,f2.same aab,bP.only f2,(Hy T0.blk T0.pl.sp T0.pl.dft T0.past (f3.slice bN) yL (λt ht g hg=>?_)).mono ?_⟩
    ·rw[aO]at ht;subst ht;have:=wC g hg;exact⟨this.1,by have:=this.2;omega⟩
    rintro _ dS ⟨⟨r,rfl,hr,ap4⟩,ey⟩;have Fa:=ey.size;have ap5:=T0.o0 ey;have aiD:=ey.blk (f2.blk hB9 aaa) aaa;refine⟨some r,rfl,ey.same aab,some ⟨b,0,none⟩,aiD,bP.only ey,(Mu ap5 ap4 (L:=gl j) aG (λk=>by rw[hgv];simp) (λg hg=>wC g (by rw[<-hgv];exact hg)) aG sd.fo kB).mono ?_⟩;rintro _ fp ⟨rfl,Ff,fu⟩;refine⟨rfl,fu.same aab,some ⟨b,0,none⟩,fu.blk aiD aab,λk hk cd=>fu.block k cd (by rw[hk];simp;omega),rfl,by rw[hcb];exact Ff,((o9.cy f2).cy ey).trans fu λx hx=>.inl hx⟩
   rw[aX λhh=>by rw[hbb.2 hh]at hf;cases hf]at hcb;rw[hcb];exact MapV.only hW6.set fV aaa
  refine⟨λhn=>?_,λhn=>⟨rfl,Only.refl _ _,⟨λh=>aaH,λ⟨h,_⟩=>?_⟩⟩⟩
  ·have hn:=aP hn;refine(amH (f:=⟨.func (.func 65) #[] #[ai (some ⟨k0,0,none⟩)],rfl⟩) Tj (by have:=wc p.sp j;omega) ⟨fC (by kernel_rfl),λy hy v J8=>?_⟩ (p:=λy=>mY T y) (cap:=[ai (some ⟨k0,0,none⟩)]) rfl).mono ?_
   ·have J8:aA [] w6 v:=J8.only λ_ h=>h.elim;have cb:=J8.blk cb6 aaa;have cW:=hW6.o0 J8;refine(amh y ⟨k0,0,none⟩ (λc w'=>c=ao (mY T y)/\aA [] v w') v ?_).mono acg;exact⟨some ⟨b,0,none⟩,cb.cells 0 _ aaa,⟨b,0,none⟩,rfl,some r1,Blk.eE cW.blk 5 rfl,_,v,iV.at cW.set y,rfl,Only.refl _ _⟩
   rintro _ fD ⟨rfl,eL⟩;refine⟨_,rfl,eL.same aab,some ⟨b,0,none⟩,eL.blk cb6 aaa,rfl,eL,?_⟩;have e:((cV p.sp j).any λy=>mY T y)=!((cV p.sp j).all λr=>!T.testBit r.toNat):=by
    rw[List.all_eq_not_any_not,ku];simp only[ku];rw[bT,fF,fF];refine oU λy=>zy λhy=>?_;have:=(hRg y hy).1;unfold mY;rw[bL this,db]
   rw[e,ku];constructor
   ·exact λh=>⟨λe=>by rw[e]at PE;simp at PE;omega,h⟩
   exact λh=>h.2
  have hn:=aY hn;have:(cV p.sp j).length=0:=aG
  exact absurd (bQ this) h
 have hc:=aY hc;have iY:j=p.sp.length:=aG
 subst iY;refine⟨_,rfl,some r1,Blk.eE hW.blk 5 rfl,(aaN hW.set (uR (jj p.sp gl p.sp.length S)) λa=>?_).mono ?_⟩
 ·rw[nX];constructor
  ·rintro⟨k,rfl,_,h⟩;rw[Bg];exact h
  intro h;have hg:=hW.set.ok h;unfold mY at h;rw[aU,ch]at h;exact⟨a.toNat,aG,by have:=hg.2;omega,h.2⟩
 rintro _ fP ⟨t,rfl,ht,eH⟩;refine⟨t,rfl,eH.same aab,t,rfl,ht.low aG,?_⟩;exact((up1 cQ).trans hO λx hx=>.inl hx).cy eH
end
def pE(p:Pl)(M:xv)(S:Nat)(k:Int):Nat:=if k<0 then S else match p.ro[k.toNat]? with
 | some r=>if r.dom<0 then S else jz p.sp r.dom (r.tg.flatMap (dT p.sp p.dft M)) S
 | none=>S
abbrev CW(p:Pl)(M:xv)(n:Nat):List Int:=dT p.sp p.dft M ((p.ini[n]?).getD 0)
structure Gdp (p:Pl) (M:xv):Prop where
 sd:Sd p.sp
 i:p.ini.length=p.sp.length
 d:p.dft.length=p.sp.length
 gl:∀(n:Nat) (t:cR),p.sp[n]? =some t->t.k≠2->cV p.sp n≠[]->∀g,g∈CW p M n->pf p.sp g
 ro:∀r,r∈p.ro->∀t,t∈r.tg->∀g,g∈dT p.sp p.dft M t->pf p.sp g
theorem PlR.amQ{w:ay}{F:aL}{s si sd sr:Sl}{p:Pl}(h:PlR w F s si sd sr p):PlR w (λk=>F k/\k<w.heap.size) s si sd sr p:=
 ⟨SliceF.inHeap dh h.sp aN,SliceF.inHeap bN h.ini aN,SliceF.inHeap bN h.dft aN,SliceF.inHeap iv h.ro aN⟩
theorem V3{l:List Int}{f:Int->List Int}{k:Int}:(l.any λt=>decide (k∈f t))=true↔k∈l.flatMap f:=by
 rw[fF,dr];simp only[bJ]
section
variable {w w1 w0:ay} {b r0 r1:Nat} {s si ru sr sp sk:Sl} {F G H:aL} {p:Pl} {L:List (Int×List Int)} {ks:List Int}
theorem SA(hP:PlR w0 F s si ru sr p)(hb:w0.heap.size<=b)(h0:w0.heap.size<=r0)(h01:r0<r1)(h1:r1<b)(hB:Wk w1 b s si ru sr r0 r1)(hPa:PastV w1 (λk=>G k/\k<w0.heap.size) r0 (gL L))(hS:iV w1 r1 λ_=>false)(cJ:aA [] w0 w1):WkP w1 b s si ru sr r0 r1 (λk=>F k/\k<w0.heap.size) (λk=>G k/\k<w0.heap.size) p (gL L) 0:=
 ⟨hB,hP.amQ.o0 cJ,hPa,hS.of λk=>by simp[mY],aG,aG,aG,⟨ac9,ac9⟩,⟨ac9,ac9⟩⟩
theorem wk(hP:PlR w F s si ru sr p)(D:Gdp p (gL L))(hL:aD EK 2 w G sp L)(hg:∀x,x∈L->gI x.1)(hR:aD rInt 1 w H sk ks):
  aB au 12 #[aj #[s.v,si.v,ru.v,sr.v],sp.v,sk.v] w λe w'=>(∃t:Sl,e=aq t.v/\dA w.heap.size w' t (gX (jj p.sp (CW p (gL L)) p.sp.length (ks.foldl (pE p (gL L)) 0))))/\aA [] w w':=by
 refine(alP s si ru sr sp sk (λv w'=>(∃t:Sl,v=t.v/\dA w.heap.size w' t (gX (jj p.sp (CW p (gL L)) p.sp.length (ks.foldl (pE p (gL L)) 0))))/\aA [] w w') w ?_).mono abm;intro k0 w0 hY fA cQ;have z0:=cQ.size;refine(EL w0 s si ru sr (SliceF.only mX aN hL cQ aaa) hg).mono ?_;rintro _ w1 ⟨⟨b,r0,r1,rfl,hb,jC,h0,h01,h1,hB,hPa,wJ⟩,cJ⟩;have z1:=cJ.size;have W1:=SA (hP.o0 cQ) hb h0 h01 h1 hB hPa wJ cJ;have o1:=cQ.cy cJ;have hn:=hR.len;have hc:=hR.cap;have MY:=hR.big;refine⟨_,rfl,cJ.same aab,λkv i u=>∃j:Nat,i=(j:Int)/\kv+j=ks.length/\j<=ks.length/\iV u r1 (mY ((ks.take j).foldl (pE p (gL L)) 0))/\aA [r1] w1 u,ks.length,⟨0,rfl,aG,bB _,W1.set,Only.refl _ _⟩,?_⟩;rintro kv _ u ⟨j,rfl,tX,hj,hS,hO⟩;have hW:=W1.step hO hS;have zu:=hO.size;have o:aA [] w u:=o1.trans hO λx hx=>.inr aaD;refine⟨λhc=>?_,λhc=>?_⟩
 ·have hc:=aP hc;have iY:j<ks.length:=aG
  obtain⟨k,hk⟩:∃k,ks[j]? =some k:=⟨_,aQ iY⟩
  refine⟨λu2=>iV u2 r1 (mY ((ks.take (j+1)).foldl (pE p (gL L)) 0))/\aA [r1] w1 u2,?_,?_⟩
  ·rintro u2 ⟨g1,g2⟩;exact⟨kv-1,aG,j+1,aaq,aG,aG,g1,g2⟩
  have aiE:(ks.take (j+1)).foldl (pE p (gL L)) 0=pE p (gL L) ((ks.take j).foldl (pE p (gL L)) 0) k:=by
   rw[bF,hk,oP];rfl
  rw[aiE];generalize (ks.take j).foldl (pE p (gL L)) 0=T at*
  obtain⟨ad,a1,a2⟩:=iu (kI hR o) hk;refine⟨ad,a1,_,a2,(Hx hW.blk hW.pl.ro k).mono ?_⟩;rintro _ w4 ⟨⟨x1,x2,x3,ev,wt,tg,dom,is,rfl,his,hno⟩,dL⟩;have z4:=dL.size;refine⟨x1,x2,x3,ev,wt,tg,dom,is,rfl,dL.same aab,λht k4 w5 zq BZ eK=>?_,λhf k5 w8 Da HU fV=>⟨?_,(hO.cy dL).cy fV⟩⟩
  ·obtain⟨n,r,rfl,hr,hd,rfl,rS⟩:=his ht;have z5:=eK.size;have Y9:=(hW.o0 dL).o0 eK;have wC:=D.ro r (bD hr);have kB:=D.sd.le;refine⟨λk=>k=k4,rfl,(Hy Y9.blk Y9.pl.sp Y9.pl.dft Y9.past (kI rS eK) D.d λt ht g hg=>?_).mono ?_⟩
   ·have:=wC t ht g hg;exact⟨this.1,by have:=this.2;omega⟩
   rintro _ w6 ⟨⟨r',rfl,Uv,hs6⟩,eI⟩;have z6:=eI.size;have hW6:=Y9.o0 eI;have JL:=MapV.lt Y9.set;refine⟨some r',rfl,eI.same aab,bP.only eI,(Mu hW6 hs6 (L:=r.tg.flatMap (dT p.sp p.dft (gL L))) aG (λk=>V3) (λg hg=>?_) aG D.sd.fo kB).mono ?_⟩
   ·obtain⟨t,ht,hg⟩:=dr.1 hg;exact wC t ht g hg
   rintro _ w7 ⟨rfl,h7,fL⟩;have e:pE p (gL L) T (n:Int)=jz p.sp r.dom (r.tg.flatMap (dT p.sp p.dft (gL L))) T:=by
    unfold pE;rw[aX aG,aV,hr];dsimp only;rw[aX aG]
   refine⟨rfl,fL.same aab,λk hk cd=>fL.block k cd (by rw[hk];simp;omega),by rw[e];exact h7,(((hO.cy dL).cy eK).cy eI).trans fL λx hx=>.inl hx⟩
  have e:pE p (gL L) T k=T:=by
   unfold pE;by_cases hY:k<0
   ·rw[aZ hY]
   rw[aX hY];obtain⟨n,rfl⟩:∃n:Nat,k=n:=⟨k.toNat,aG⟩
   rw[aV];cases hr:p.ro[n]? with
   | none=>rfl
   | some r=>
    dsimp only;rw[aZ (hno hf n r rfl hr)]
  rw[e];exact MapV.only (MapV.only hW.set dL aaa) fV aaa
 have hc:=aY hc;have iY:j=ks.length:=aG
 subst iY;rw[xS]at hW;refine(Mx hW D.sd D.i D.d D.gl).mono ?_;rintro _ w9 ⟨t,rfl,ht,gy⟩;exact⟨t,rfl,gy.same aab,⟨t,rfl,ht.low aG⟩,o.trans gy λx hx=>.inr aaD⟩
theorem Hz(hP:PlR w F s si ru sr p)(D:Gdp p λ_=>none):
  aB au 7 #[aj #[s.v,si.v,ru.v,sr.v]] w λe w'=>(∃t:Sl,e=aq t.v/\dA w.heap.size w' t (gX (jj p.sp (CW p λ_=>none) p.sp.length 1)))/\aA [] w w':=by
 refine(alQ s si ru sr (λv w'=>(∃t:Sl,v=t.v/\dA w.heap.size w' t (gX (jj p.sp (CW p λ_=>none) p.sp.length 1)))/\aA [] w w') w ?_).mono abm;intro k0 w0 hY fA cQ;have z0:=cQ.size;refine(EL w0 s si ru sr (L:=[]) (SliceF.nil EK 2 w0 (λ_=>False)) aaa).mono ?_;rintro _ w1 ⟨⟨b,r0,r1,rfl,hb,jC,h0,h01,h1,hB,hPa,wJ⟩,cJ⟩;have z1:=cJ.size;have W1:=SA (hP.o0 cQ) hb h0 h01 h1 hB hPa wJ cJ;have o1:=cQ.cy cJ;have hn:=W1.pl.sp.len;have fX:=D.sd.fo.ne;refine⟨_,rfl,cJ.same aab,λu=>iV u r1 (mY 1)/\aA [r1] w1 u,?_,λ_=>⟨_,rfl,some r1,Blk.eE W1.blk 5 rfl,?_⟩,λhc=>absurd (aY hc) aG⟩
 ·rintro u ⟨hS,hO⟩;have hW:=W1.step hO hS;have zu:=hO.size;refine(Mx hW D.sd D.i D.d D.gl).mono ?_;rintro _ w9 ⟨t,rfl,ht,gy⟩;exact⟨t,rfl,gy.same aab,⟨t,rfl,ht.low aG⟩,(o1.trans hO λx hx=>.inr aaD).trans gy λx hx=>.inr aaD⟩
 obtain⟨y,w4,f1,f2,f3⟩:=uu w1 (a:=0) ⟨aG,aG⟩;have z4:=f2.size;have JL:=MapV.lt W1.set;refine⟨y,w4,f1,f2.same aab,(xy (MapV.only W1.set f2 aaa) (f3.slice bN) abQ (λz hz=>by rw[aO]at hz;rw[hz];exact⟨aG,aG⟩)).mono ?_⟩;rintro _ w5 ⟨rfl,h5,eK⟩;refine⟨rfl,eK.same aab,h5.of λk=>?_,((Only.refl [r1] w1).cy f2).trans eK λx hx=>.inl hx⟩;have:(1:Nat)=CR 0 0:=aN
 rw[this,EM ⟨aG,aG⟩];congr 1;rw[fS,aO]
end
theorem xz(xs:List cR)(gl:Nat->List Int):∀n,jj xs gl n 0=0
 | 0=>rfl
 | n+1=>by
  rw[jj,xz xs gl n];unfold EF;rw[iO,aX aaa]
theorem HA:gX 0=[]:=jZ.2 λx hx=>by
 obtain⟨k,_,_,h⟩:=nX.1 hx;rw[iO]at h;cases h
section
variable {c:Ch} {M:xv} (N:Snd c (cH c) (En c)) (hM:qy (cH c) M)
include N hM
theorem Yd:∀(n:Nat) (t:cR),(cH c)[n]? =some t->t.k=1->cV (cH c) n≠[]->Gd (cH c) n (λg=>(g:Int)∈CW (dG c) M n)/\∀g,g∈CW (dG c) M n->pf (cH c) g:=λn t ht h1 hr=>by
 have hb:n<(sZ c.root).length:=adh
 obtain⟨b,hb⟩:∃b,(sZ c.root)[n]? =some b:=⟨_,aQ hb⟩
 have:CW (dG c) M n=dT (cH c) ((sZ c.root).map λb=>mA (cH c) b.dft) M (mA (cH c) b.ini):=by
  unfold CW;have e:(dG c).ini[n]? =some (mA (cH c) b.ini):=by
   show((sZ c.root).map λb=>mA (cH c) b.ini)[n]? =_;rw[bW,hb];rfl
  rw[e];rfl
 rw[this];exact N.Jy hM rfl ht hb h1 hr
theorem Jo:Gdp (dG c) M where
 sd:=N.sd
 i:=by
  show((sZ c.root).map _).length=(cH c).length;rw[bA,nQ,<-N.len]
 d:=by
  show((sZ c.root).map _).length=(cH c).length;rw[bA,nQ,<-N.len]
 gl n t ht h2 hr:=by
  obtain⟨q,hq⟩:=gD _ hr;obtain⟨m,u,rfl,hu,hp,_⟩:=gx.1 hq;obtain⟨t',Fj,hk⟩:=N.hk n m ⟨u,hu,hp⟩;have ht:(cH c)[n]? =some t:=ht;rw[ht,bc]at Fj;subst Fj;exact(Yd N hM n t ht (hk.resolve_right h2) hr).2
 ro r hr t ht g hg:=by
  rcases N.wq hM rfl hr with⟨h,_⟩ | ⟨_,_,_,_,_,_,_,_,_,_,h⟩
  ·rw[h]at ht;cases ht
  exact h t ht g hg
theorem aaP{r:Ro}(hr:r∈(dG c).ro)(fX:r.tg≠[]){T:Nat}(hT:T=jj (cH c) (CW (dG c) M) (cH c).length (jz (cH c) r.dom (r.tg.flatMap (dT (cH c) (dG c).dft M)) 0)):
  (∃d:Nat,r.dom=d)/\(r.tg.flatMap (dT (cH c) (dG c).dft M))≠[]/\(∀g,g∈r.tg.flatMap (dT (cH c) (dG c).dft M)->∃n:Nat,g=n/\n<64/\T.testBit n=true)/\∀m:Nat,T.testBit m=true->jA (cH c) m r.dom=true:=by
 obtain⟨_,_,a,d,_,_,ed,_,hda,G,hH⟩:=(N.wq hM rfl hr).resolve_left λh=>fX h.1;have sd:=N.sd;have wC:∀g,g∈r.tg.flatMap (dT (cH c) (dG c).dft M)->pf (cH c) g:=λg hg=>by
  obtain⟨t,ht,hg⟩:=dr.1 hg;exact hH t ht g hg
 have W9:=nY N.fo N.le (d:=r.dom) aG (r.tg.flatMap (dT (cH c) (dG c).dft M)) 0 wC;have hP:Part (cH c) (λd'=>d'=r.dom) λm=>(jz (cH c) r.dom (r.tg.flatMap (dT (cH c) (dG c).dft M)) 0).testBit m=true:=by
  have:=N.fo.C5 N.hk (D:=λd'=>d'=r.dom) (λd d' _ h h' _ _=>h.trans h'.symm) (G:=λ_ k=>∃s,s∈r.tg/\(k:Int)∈dT (cH c) (dG c).dft M s) (by rintro _ rfl;rw[ed];exact G);have e:(λm=>(jz (cH c) r.dom (r.tg.flatMap (dT (cH c) (dG c).dft M)) 0).testBit m=true)=λm:Nat=>∃d',d'=r.dom/\d'<m/\∃g:Nat,(∃s,s∈r.tg/\(g:Int)∈dT (cH c) (dG c).dft M s)/\jv (cH c) m g:=funext λm=>propext ((W9 m).trans ⟨λh=>h.elim (λh=>by rw[iO]at h;cases h) λ⟨h1,g,h2,h3⟩=>⟨_,rfl,h1,g,dr.1 h2,h3⟩,λ⟨_,e,h1,g,h2,h3⟩=>.inr ⟨by rw[<-e];exact h1,g,dr.2 h2,h3⟩⟩);rw[e];exact this
 obtain⟨Q,M0,_⟩:=tR sd N.hk (λd d' _ h h' _ _=>h.trans h'.symm) (Yd N hM) hP (cH c).length (ba _);rw[<-hT]at Q M0;refine⟨⟨d,ed⟩,?_,λg hg=>?_,λm hm=>?_⟩
 ·obtain⟨g,s,hs,hg⟩:=G.ne;exact kw (dr.2 ⟨s,hs,hg⟩)
 ·have hh:=wC g hg;have kB:=N.le;have h1:=hh.1;have h2:=hh.2;obtain⟨n,rfl⟩:∃n:Nat,g=n:=⟨g.toNat,aG⟩
  refine⟨n,rfl,aG,M0 n ((W9 n).2 (.inr ⟨?_,n,hg,N.fo.kj aG⟩))⟩;obtain⟨hb,_⟩:=G.bl n (dr.1 hg);rw[ed];exact hb.1
 obtain⟨_,d',e,hb⟩:=Q.st m hm;subst e;rw[ed]at hb⊢;obtain⟨h1,h2,h3 | ⟨k,ek,h3⟩⟩:=hb
 ·omega
 have:k=d:=aG
 subst this;exact Jm.2 ⟨aG,h3⟩
end
end Go.Proofs.YtpbgcbdclnfpnaaGreatDoor.Con
namespace Go.Proofs
open Go.Shelf
def Tryz.Jz:Go.Shelf.Ren:=⟨λ| 6=>41 | 15=>80 | 14=>79 | 28=>113 | 29=>114 | 20=>105 | 21=>106 | 22=>107 | 23=>108 | 24=>109 | 25=>110 | 26=>111 | 27=>112 | 46=>153 | 47=>154 | 48=>155 | 49=>156 | 50=>157 | 57=>186 | n=>n,λ| 22=>45 | 24=>97 | 25=>100 | 3=>3 | 39=>136 | 0=>0 | 53=>184 | 55=>186 | 4=>4 | 46=>178 | 45=>177 | 50=>86 | 5=>5 | 9=>9 | 66=>228 | 70=>202 | 76=>258 | 77=>219 | n=>n,λ| n=>n⟩
theorem Tryz.S7:Go.Proofs.SlLaysF0.n6 Tryz.prog Tryz.Jz:={
 mixed:=by kernel_rfl
 f6:=⟨Tryz.f41.name,aN,Tryz.func41.trans (bh some (by kernel_rfl))⟩
 f14:=⟨Tryz.f79.name,aN,Tryz.func79.trans (bh some (by kernel_rfl))⟩
 f15:=Tryz.func80.trans (bh some (by kernel_rfl))
 f20:=⟨Tryz.f105.name,aN,Tryz.func105.trans (bh some (by kernel_rfl))⟩
 f21:=⟨Tryz.f106.name,aN,Tryz.func106.trans (bh some (by kernel_rfl))⟩
 f22:=⟨Tryz.f107.name,aN,Tryz.func107.trans (bh some (by kernel_rfl))⟩
 f23:=⟨Tryz.f108.name,aN,Tryz.func108.trans (bh some (by kernel_rfl))⟩
 f24:=⟨Tryz.f109.name,aN,Tryz.func109.trans (bh some (by kernel_rfl))⟩
 f25:=⟨Tryz.f110.name,aN,Tryz.func110.trans (bh some (by kernel_rfl))⟩
 f26:=⟨Tryz.f111.name,aN,Tryz.func111.trans (bh some (by kernel_rfl))⟩
 f27:=⟨Tryz.f112.name,aN,Tryz.func112.trans (bh some (by kernel_rfl))⟩
 f28:=Tryz.func113.trans (bh some (by kernel_rfl))
 f29:=Tryz.func114.trans (bh some (by kernel_rfl))
 f46:=⟨Tryz.f153.name,aN,Tryz.func153.trans (bh some (by kernel_rfl))⟩
 f47:=Tryz.func154.trans (bh some (by kernel_rfl))
 f48:=Tryz.func155.trans (bh some (by kernel_rfl))
 f49:=⟨Tryz.f156.name,aN,Tryz.func156.trans (bh some (by kernel_rfl))⟩
 f50:=⟨Tryz.f157.name,aN,Tryz.func157.trans (bh some (by kernel_rfl))⟩
 f57:=⟨Tryz.f186.name,aN,Tryz.func186.trans (bh some (by kernel_rfl))⟩
 t0:=Tryz.underlying0
 a0:=Tryz.isAgg0
 z0:=Tryz.sizeOf0
 v0:=Tryz.zeroValue0
 t3:=Tryz.underlying3
 a3:=Tryz.isAgg3
 z3:=Tryz.sizeOf3
 v3:=Tryz.zeroValue3
 t4:=Tryz.underlying4
 a4:=Tryz.isAgg4
 z4:=Tryz.sizeOf4
 v4:=Tryz.zeroValue4
 t5:=Tryz.underlying5
 a5:=Tryz.isAgg5
 z5:=Tryz.sizeOf5
 v5:=Tryz.zeroValue5
 t9:=Tryz.underlying9
 a9:=Tryz.isAgg9
 z9:=Tryz.sizeOf9
 v9:=Tryz.zeroValue9
 t22:=Tryz.underlying45
 a22:=Tryz.isAgg45
 z22:=Tryz.sizeOf45
 v22:=Tryz.zeroValue45
 t25:=Tryz.underlying100
 a25:=Tryz.isAgg100
 z25:=Tryz.sizeOf100
 v25:=Tryz.zeroValue100
 t39:=Tryz.underlying136
 a39:=Tryz.isAgg136
 z39:=Tryz.sizeOf136
 v39:=Tryz.zeroValue136
 t45:=Tryz.underlying177
 a45:=Tryz.isAgg177
 z45:=Tryz.sizeOf177
 v45:=Tryz.zeroValue177
 t46:=Tryz.underlying178
 a46:=Tryz.isAgg178
 z46:=Tryz.sizeOf178
 v46:=Tryz.zeroValue178
 t50:=Tryz.underlying86
 a50:=Tryz.isAgg86
 z50:=Tryz.sizeOf86
 v50:=Tryz.zeroValue86
 t53:=Tryz.underlying184
 a53:=Tryz.isAgg184
 z53:=Tryz.sizeOf184
 v53:=Tryz.zeroValue184
 t55:=Tryz.underlying186
 a55:=Tryz.isAgg186
 z55:=Tryz.sizeOf186
 v55:=Tryz.zeroValue186
 t66:=Tryz.underlying228
 a66:=Tryz.isAgg228
 z66:=Tryz.sizeOf228
 v66:=Tryz.zeroValue228
 t70:=Tryz.underlying202
 a70:=Tryz.isAgg202
 z70:=Tryz.sizeOf202
 v70:=Tryz.zeroValue202
 t76:=Tryz.underlying258
 a76:=Tryz.isAgg258
 z76:=Tryz.sizeOf258
 v76:=Tryz.zeroValue258
 t77:=Tryz.underlying219
 a77:=Tryz.isAgg219
 z77:=Tryz.sizeOf219
 v77:=Tryz.zeroValue219}
def Tryz.JA:Go.Shelf.Ren:=⟨λ| 5=>43 | 7=>81 | n=>n,λ| 22=>3 | 3=>3 | 4=>4 | n=>n,λ| n=>n⟩
theorem Tryz.aa9:Go.Proofs.SlLaysC2.n5 Tryz.prog Tryz.JA:={
 mixed:=by kernel_rfl
 f5:=⟨Tryz.f43.name,aN,Tryz.func43.trans (bh some (by kernel_rfl))⟩
 f7:=⟨Tryz.f81.name,aN,Tryz.func81.trans (bh some (by kernel_rfl))⟩
 t3:=Tryz.underlying3
 a3:=Tryz.isAgg3
 z3:=Tryz.sizeOf3
 v3:=Tryz.zeroValue3
 t4:=Tryz.underlying4
 a4:=Tryz.isAgg4
 z4:=Tryz.sizeOf4
 v4:=Tryz.zeroValue4
 t22:=Tryz.underlying3
 a22:=Tryz.isAgg3
 z22:=Tryz.sizeOf3
 v22:=Tryz.zeroValue3}
open Go.RowKit Go.Lib Go.Sort Go.Shelf in
theorem Tryz.Wt (x y:Int) (a1 a2:Option Addr) (n1 c1 n2 c2:Nat) (W:World):Calls Tryz.prog 42 #[.agg #[.int .i64 x,.slice a1 n1 c1],.agg #[.int .i64 y,.slice a2 n2 c2]] W λe w'=>e=.returned (.int .i64 (Lib.compareInt x y))/\∃q os',w'=grow (W.drewN q) os':=by
 have acX:=λW'=>AnyG.cmp_Compare_int Tryz.aa9 x y W';change ∀W',Calls Tryz.prog 43 _ _ _ at acX;generalize Lib.compareInt x y=r at acX⊢
 go_enter Tryz.func42,Tryz.ntmps42
 go_wp2_with (go_at_call 43;refine(acX _).mono ?_;rintro e w' ⟨rfl,rfl⟩)
 go_ret
 exact⟨rfl,0,_,by rw[alloc_eq_grow,alloc_eq_grow,grow_grow];rfl⟩
open Go.RowKit Go.Lib Go.Sort Go.Shelf in
theorem Tryz.S8 {α:Type} [Inhabited α] (enc:α->List Value) (hk:∀x,(enc x).length=2) (h1:∀x,∀v∈enc x,v.oneCell'=true) (cf:α->α->Int) (hO:SWO (ltOf cf)) (blk off cap:Nat) (d:Array α) (w:World)
  (ap7:Go.Proofs.CmpLays Tryz.prog 42 #[] enc 2 cf blk off d.size w) (hH:HoldsK enc 2 w blk off d) (hblk:blk<w.heap.size) (hsz:d.size<4611686018427387904):
  Calls Tryz.prog 41 #[.slice (some ⟨blk,off,none⟩) d.size cap,.func (.func 42) #[] #[]] w λe w'=>
   e=.returned (.tuple #[])/\∃d' n os,PermIn 0 d.size d d'/\SortedIn (ltOf cf) 0 d.size d'/\w'=sortWorldK enc 2 w blk off n d' os:=
 Go.Proofs.AnyQ.slices_SortFunc Tryz.S7 2 Tryz.isAgg97 Tryz.sizeOf97 enc hk h1 cf hO 42 #[] blk off cap d w (enters_of Tryz.func42 (by kernel_rfl) rfl) ap7 hH hblk hsz
open Go.RowKit Go.Lib Go.Sort Go.Shelf in
theorem Tryz.HM (p:Option Addr) (cap:Nat) (fv:Value) (w:World):Calls Tryz.prog 41 #[.slice p 0 cap,fv] w λe w'=>e=.returned (.tuple #[])/\w'=w:=
 Go.Proofs.AnyF.slices_SortFunc_none Tryz.S7 p cap fv w
end Go.Proofs
namespace Go.Proofs.YtpbgcbdclnfpnaaGreatDoor.Con
open Go Go.RowKit Go.Kt Go.Kt.V Go.Proofs.YtpbgcbdclnfpnaaGreatDoor.Vc
instance ati:Inhabited Sl:=⟨Sl.nil⟩
abbrev PaG:=Int×Sl×List Int
def lJ(z:PaG):aK:=[O ae z.1,z.2.1.v]
section
variable {w:ay} {F:aL}
theorem HB:∀{L:List (Int×List Int)} {css:List (aK)},lO EK 2 w F L css->∃Z:List PaG,Z.map (λz=>(z.1,z.2.2))=L/\css=Z.map lJ/\∀z,z∈Z->aD rInt 1 w F z.2.1 z.2.2
 | [],[],_=>⟨[],rfl,rfl,λ_ h=>aaH⟩
 | x::L,c::css,⟨⟨_,t,e,ht⟩,h⟩=>by
  obtain⟨Z,h1,h2,h3⟩:=HB h;refine⟨(x.1,t,x.2)::Z,by rw[bG,h1],by rw[bG,<-h2,e];rfl,λz hz=>?_⟩;rcases aR.1 hz with rfl | hz
  ·exact ht
  exact h3 z hz
 | [],_::_,h=>h.elim
 | _::_,[],h=>h.elim
theorem SB:∀{Z:List PaG},(∀z,z∈Z->aD rInt 1 w F z.2.1 z.2.2)->lO EK 2 w F (Z.map λz=>(z.1,z.2.2)) (Z.map lJ)
 | [],_=>trivial
 | z::Z,h=>⟨⟨rfl,z.2.1,rfl,h z (.head _)⟩,SB λy hy=>h y (.tail _ hy)⟩
end
theorem Bh(Z:List PaG):Sort.flatK lJ 2 Z.toArray=((Z.map lJ).flatten).toArray:=by
 have fl:((Z.map lJ).flatten).length=Z.length*2:=by
  rw[pR (size:=2) (λc hc=>acp),bA]
 refine Sort.ext_get! (by rw[Sort.size_flatK,eJ,eJ,fl]) λt ht=>?_;rw[Sort.size_flatK,eJ]at ht;rw[Sort.get_flatK _ _ _ _ (by rw[eJ];exact ht)];have hq:t/2<Z.length:=aG
 have h1:(Z.map lJ)[t/2]? =some (lJ Z[t/2]):=by rw[bW,aQ hq];rfl
 have h2:t % 2<(lJ Z[t/2]).length:=by
  show t % 2<2;omega
 have h3:=Dv (size:=2) (λc hc=>acp) h1 (aQ h2);rw[show t/2*2+t % 2=t by omega]at h3;rw[oK (Z.toArray) (t/2) (by simpa using hq),oK ((Z.map lJ).flatten).toArray t (by rw[eJ,fl];exact ht)];simp only[List.getElem_toArray];rw[oK (lJ Z[t/2]) (t % 2) h2];have h4:=(be.1 h3).2;exact h4.symm
theorem af8{a b tail:aK}(h:a.length=b.length):Sort.putCells id 0 a.toArray ((b++tail).toArray)=(a++tail).toArray:=by
 apply Array.ext_getElem?;intro k;simp only[Sort.putCells,Array.getElem?_mapIdx,iT,eJ];by_cases hk:k<a.length
 ·rw[bK aG,bK hk,aQ (show k<b.length by omega),aQ hk];simp only[dz];rw[aZ ⟨bB _,aG⟩,kr,oK _ k aa2];simp
 rw[bX aG,bX aG,h];cases tail[k-b.length]? with
 | none=>rfl
 | some v=>
  simp only[dz];rw[aX aG]
theorem SC{w:ay}{g:Nat}{e:TypeId}{b tail a:aK}(h:aH w g e (b++tail))(ha:a.length=b.length)(n:Nat)(os:Array Obj):aH (Sort.grow (Sort.putRow id (Sort.ahead w n) g 0 a.toArray) os) g e (a++tail)/\aA [g] w (Sort.grow (Sort.putRow id (Sort.ahead w n) g 0 a.toArray) os):=by
 have cd:=h.lt;refine⟨?_,rfl,rfl,rfl,aaa,λk hk hn=>?_⟩
 ·unfold aH;rw[Sort.heap_grow_old _ _ (by simpa using cd)];show(w.heap.modify g _)[g]? =_;rw[gJ,aZ rfl];unfold aH at h;rw[h];show some (Sort.onCells _ _)=_;unfold Sort.onCells;dsimp only;rw[af8 ha]
 rw[Sort.heap_grow_old _ _ aa2];show(w.heap.modify g _)[k]? =_;rw[gJ,aX λe=>hn (by simp[e])]
theorem Jp{w:ay}{g:Nat}{e:TypeId}{b tail:aK}(h:aH w g e (b++tail)):Sort.Holds id w g 0 b.toArray:=by
 intro j hj;have hj:j<b.length:=ac6
 rw[bM];refine⟨?_,?_⟩
 ·rw[h.cell,bK hj,aQ hj,oK _ j ac6];simp
 unfold World.frozen?;unfold aH at h;dsimp only;rw[h];simp
theorem Jq(x y:PaG):Go.Proofs.ltOf (λx y:PaG=>Lib.compareInt x.1 y.1) x y=decide (x.1<y.1):=by
 unfold Go.Proofs.ltOf Lib.compareInt;by_cases h1:x.1<y.1
 ·simp[h1]
 by_cases h2:y.1<x.1<;>simp[h1,h2]
theorem V4:Sort.SWO (Go.Proofs.ltOf λx y:PaG=>Lib.compareInt x.1 y.1) where
 irrefl x:=by rw[Jq];simp
 trans x y z h1 h2:=by rw[Jq]at*;simp at*;omega
 ntrans x y z h1 h2:=by rw[Jq]at*;simp at*;omega
theorem V5{w:ay}{B:Nat}{F:aL}{s:Sl}{L:List (Int×List Int)}(h:Own EK 2 97 B w F s L)(hm:L.length<=1000000):aB au 41 #[s.v,.func (.func 42) #[] #[]] w λe w'=>e=aq (ak #[])/\∃L':List (Int×List Int),L'.Perm L/\Own EK 2 97 B w' F s L'/\aF (lq s) w w':=by
 rcases h with⟨rfl,rfl⟩ | ⟨g,css,tail,ha,hB,hblk,tT,hn,hc,Td,hE⟩
 ·refine(Tryz.HM none 0 _ w).mono ?_;rintro _ u ⟨rfl,hu⟩;obtain rfl:w=u:=hu.symm;exact⟨rfl,[],List.Perm.refl _,Own.nil _ _ _ _ _ _,OnlyP.refl _ _⟩
 obtain⟨Z,rfl,rfl,hZ⟩:=HB hE;obtain⟨sa,sn,sc⟩:=s;dsimp only at ha tT hn hc Td;subst ha;rw[bA]at hn hm;subst hn;have hH:Sort.HoldsK lJ 2 w g 0 Z.toArray:=by
  unfold Sort.HoldsK;rw[Bh];exact Jp hblk
 refine(Tryz.S8 lJ (λ_=>rfl) (λx v hv=>by
  simp only[lJ,aR,bn,cm]at hv;rcases hv with rfl | rfl<;>rfl) (λx y=>Lib.compareInt x.1 y.1) V4 g 0 sc Z.toArray w (λ_ _ _ _ x y=>Tryz.Wt x.1 y.1 _ _ _ _ _ _ _) hH hblk.lt (by rw[eJ];omega)).mono ?_
 rintro _ w' ⟨rfl,d',n,os,⟨hsz,_,hp⟩,_,rfl⟩;have hd:d'.extract 0 Z.toArray.size=d':=by rw[<-hsz];simp
 have hz:Z.toArray.extract 0 Z.toArray.size=Z.toArray:=aaa
 rw[hd,hz]at hp;have hp:d'.toList.Perm Z:=hp;have MQ:((d'.toList.map lJ).flatten).length=((Z.map lJ).flatten).length:=by
  rw[pR (size:=2) (λc hc=>acp),pR (size:=2) (λc hc=>acp),bA,bA,hp.length_eq]
 have ew:Go.Proofs.sortWorldK lJ 2 w g 0 n d' os=Sort.grow (Sort.putRow id (Sort.ahead w n) g 0 ((d'.toList.map lJ).flatten).toArray) os:=by
  unfold Go.Proofs.sortWorldK Sort.putRowK;rw[<-Bh]
 obtain⟨jC,hO⟩:=SC hblk MQ n os;rw[ew];refine⟨rfl,d'.toList.map λz=>(z.1,z.2.2),hp.map _,.inr ⟨g,d'.toList.map lJ,tail,rfl,hB,jC,tT,by rw[bA,hp.length_eq],hc,Td,SB λz hz=>SliceF.only bN aN (hZ z (hp.mem_iff.1 hz)) hO λk hk _ hm=>hk.2 abu⟩,hO.p λx hx=>?_⟩;simp only[aO]at hx;subst hx;exact .inl rfl
section
variable {w:ay} {F G:aL} {l sa:Sl} {xs:List cR} {is:List Int}
theorem EO(h:aD rInt 1 w F sa is)(n:Int)(hm:is.length<=4611686018427387903):aB au 13 #[sa.v,O ae n] w λe w'=>e=aq (ao (decide (n∈is)))/\w'=w:=by
 refine ret (alM _ _ _ _ ?_);have hl:=h.len;refine⟨λkv i u=>∃j:Nat,i=(j:Int)/\kv+j=is.length/\j<=is.length/\n∉is.take j/\w=u,is.length,⟨0,rfl,aG,bB _,aaa,rfl⟩,?_⟩;rintro kv _ _ ⟨j,rfl,tX,hj,hn,rfl⟩;refine⟨λhc=>?_,λhc=>?_⟩
 ·have hc:=aP hc;have iY:j<is.length:=aG
  obtain⟨ad,a1,a2⟩:=iu h (aQ iY);refine⟨ad,a1,_,a2,λhe=>?_,λhe=>⟨kv-1,aG,j+1,aaq,aG,aG,?_,rfl⟩⟩
  ·have he:is[j]=n:=acN
   exact⟨by rw[bL (by rw[<-he];exact eF iY)],rfl⟩
  have he:¬is[j]=n:=acN
  rw[bF,aQ iY,ci];rintro(h | h)
  ·exact hn h
  simp only[Option.toList,aO]at h;exact he h.symm
 have hc:=aY hc;rw[bq aG]at hn;exact⟨by rw[bH hn],rfl⟩
theorem tf{w u:ay}{s:Sl}{is:List Int}{B:Nat}(h:dA B w s is)(hO:aA [] w u):dA B u s is:=h.keep bN λk _ cd=>hO.block k cd aaa
end
section
variable {w:ay} {F G:aL} {l sa:Sl} {xs:List cR} {act:List Int}
theorem Ye{u:ay}{S:aL}(h:aD nP 5 w F l xs)(hO:aF S w u)(hS:∀k,F k->k<w.heap.size->¬S k):aD nP 5 u F l xs:=SliceF.nH dh aN h hO hS
theorem V6(w:ay)(k:Int):aB au 69 #[O ae k] w λe w'=>e=aq (ao (wF k))/\w'=w:=by
 refine ret (amj _ _ _ ?_);exact⟨rfl,rfl⟩
theorem Jr{k0 t:Nat}(h:aD nP 5 w F l xs)(hB:aH w k0 t [l.v]){q:Nat}{s:cR}(hq:xs[q]? =some s):aB au 68 #[O ae (q:Int),ai (some ⟨k0,0,none⟩)] w λe w'=>e=aq (ao (!(wF s.k)))/\w'=w:=by
 refine ret (ami _ _ _ _ ?_);obtain⟨ad,a1,a2,_⟩:=j5 h hq;refine⟨l,hB.cells 0 _ aaa,ad,a1,s.k,a2.eE 0 _ rfl,(V6 w s.k).mono ?_⟩;rintro _ u ⟨rfl,hu⟩;exact⟨_,rfl,rfl,hu⟩
theorem tS(h:aD nP 5 w F l xs)(hF:Sd xs){n:Nat}{x:cR}(hx:xs[n]? =some x):aB au 28 #[l.v,O ae (n:Int)] w λe w'=>(∃(s:Sl),e=aq (Sl.v s)/\dA w.heap.size w' s (cV xs n))/\aA [] w w':=by
 have hm:=hF.le;refine(al9 l n (λv w'=>(∃(s:Sl),v=Sl.v s/\dA w.heap.size w' s (cV xs n))/\aA [] w w') w ?_).mono abe;intro k0 w0 hY fA cQ;have z0:=cQ.size;refine(I9 (SliceF.only dh aN h cQ aaa) hF.fo hx aG).mono ?_;rintro _ w1 ⟨⟨s1,rfl,wJ⟩,cJ⟩;have z1:=cJ.size;refine⟨s1,rfl,cJ.same aab,λhB=>?_⟩;have Px:(eX xs n xs.length).length<=xs.length:=by
  unfold eX;rw[bA];exact bf (cY _ _) ac4
 have o1:=cQ.cy cJ;have h1:aD nP 5 w1 (λk=>F k/\k<w.heap.size) l xs:=SliceF.only dh aN (SliceF.inHeap dh h aN) o1 aaa;have PC:s1.a≠some ⟨k0,0,none⟩:=λe=>by
  have:=(wJ.blk e).1;dsimp only at this;omega
 refine(tQ (f:=⟨.func (.func 68) #[] #[ai (some ⟨k0,0,none⟩)],rfl⟩) wJ aG ⟨fC (by kernel_rfl),λy hy u hO=>?_⟩ (p:=λk=>!(wF (kd xs k))) (cap:=[ai (some ⟨k0,0,none⟩)]) rfl).mono ?_
 ·obtain⟨q,t,rfl,_,h2,_⟩:=qw.1 hy;rw[ki h2];refine(Jr (Ye h1 hO λk hk _ e=>?_) (hO.blk hB PC) h2).mono ?_
  ·have:=(wJ.blk e).1;dsimp only at this;omega
  rintro _ u' ⟨rfl,hu⟩;obtain rfl:u=u':=hu.symm;exact⟨rfl,Only.refl _ _⟩
 rintro _ w2 ⟨s2,rfl,hsa,_,J7,dw⟩;refine⟨s2,rfl,l,dw.blk hB PC,⟨s2,rfl,?_⟩,(o1.oH (dw.mono (G:=λk=>w.heap.size<=k) λk _ e=>by have:=(wJ.blk e).1;dsimp only at this;omega)).only λk hk=>hk⟩;have:(eX xs n xs.length).filter (λx=>!!(wF (kd xs x)))=cV xs n:=by
  unfold cV;congr 1;funext k;rw[ku]
 rw[this]at J7;exact Own.low J7 aG
theorem amI(ha:aD rInt 1 w G sa act)(hr:act.Pairwise (· <·))(fX:act≠[])(hm:act.length<=1000000000)(x:Int):aB au 29 #[sa.v,O ae x] w λe w'=>(∃i:Int,e=aq (ak #[O ae i,ao (decide (x∈act))]))/\aA [] w w':=by
 obtain⟨a,n,c⟩:=sa;have hl:=ha.len;dsimp only at hl;have h0:0<act.length:=gq.2 fX;obtain⟨base,cs,e1,_,fl,c0,_⟩:=ha.at_ 0 _ (aQ h0);dsimp only at e1;obtain⟨b,o,sp⟩:=base;have wI:sp=none:=by
  have:=c0;cases cs with
  | nil=>cases fl
  | cons v cs=>
   have hc:=c0 0 v rfl;exact World.cell?_spot hc
 subst wI e1 hl;have Bx:∀j,j<act.length->w.cell? ⟨b,o+j,none⟩=some (.int ae (act.getD j 0)):=λj hj=>by
  obtain⟨base,cs,e1,_,_,c0,hc,_⟩:=ha.at_ j _ (aQ hj);injection e1 with e1;subst e1 hc;have:=c0 0 _ rfl;rw[fI,fI]at this;rw[List.getD_eq_getElem?_getD,aQ hj];simpa using this
 refine(Tryz.slices_BinarySearch_int b o act.length c act x w (ba _) aG Bx (by
  rw[bq (ba _)];exact hr.imp λh=>Int.le_of_lt h)).mono ?_
 rintro _ w' ⟨rfl,q,rfl⟩;rw[bq (ba _)];have e:act.contains x=decide (x∈act):=by
  rw[bT];simp
 rw[e];exact⟨⟨_,rfl⟩,Only.drewN w q⟩
end
def Pa(xs:List cR)(n:Int):Bool:=decide (n>=0)&&decide (n<(xs.length:Int))&&(kd xs n==1)&&((cV xs n.toNat).length==0)
theorem aaR(xs:List cR)(act:List Int):Ho (act.filter (Pa xs))=Jk xs act:=by
 refine we (N6 _) (wh _ _) λx=>?_;unfold Jk;rw[Hp,tM,dv];unfold Pa lvP;constructor
 ·rintro⟨h1,h2⟩;simp only[aU,bJ]at h2;obtain⟨k,rfl⟩:∃k:Nat,x=k:=⟨x.toNat,aG⟩
  rw[aV]at h2;exact⟨k,rfl,aG,by simp only[aU,bJ];exact⟨⟨h1,h2.1.2⟩,h2.2⟩⟩
 rintro⟨k,rfl,h1,h2⟩;simp only[aU,bJ]at h2;refine⟨h2.1.1,?_⟩;rw[aV];simp only[aU,bJ];exact⟨⟨⟨aG,aG⟩,h2.1.2⟩,h2.2⟩
section
variable {w:ay} {F G:aL} {l sa:Sl} {xs:List cR} {act:List Int}
theorem SD(h:aD nP 5 w F l xs)(hF:Sd xs)(n:Int):aB au 77 #[l.v,O ae n] w λe w'=>e=aq (ao (Pa xs n))/\aA [] w w':=by
 refine ret (amf _ _ _ _ ?_);have hl:=h.len;obtain⟨ad,k,a1,a2,a3⟩:∃(ad:Addr) (k:Int),((decide (n>=0)&&decide (n<(l.n:Int)))=true->dI l n 5 ad)/\((decide (n>=0)&&decide (n<(l.n:Int)))=true->aE w (ad.add 0) [O ae k])/\((decide (n>=0)&&decide (n<(l.n:Int)))=true->kd xs n=k/\∃s,xs[n.toNat]? =some s):=by
  by_cases hb:0<=n/\n<xs.length
  ·obtain⟨m,rfl⟩:∃m:Nat,n=m:=⟨n.toNat,aG⟩
   obtain⟨y,hy⟩:=fQ (xs:=xs) (i:=m) aG;obtain⟨ad,a1,a2,_⟩:=j5 h hy;exact⟨ad,y.k,λ_=>a1,λ_=>a2.eE 0 _ rfl,λ_=>⟨ki hy,y,by rw[aV];exact hy⟩⟩
  have hf:(decide (n>=0)&&decide (n<(l.n:Int)))=true->False:=λhh=>by
   rw[aU]at hh;have h1:=aP hh.1;have h2:=aP hh.2;omega
  exact⟨default,0,λhh=>(hf hh).elim,λhh=>(hf hh).elim,λhh=>(hf hh).elim⟩
 refine⟨λb u=>b=Pa xs n/\aA [] w u,λb u hh=>⟨by rw[hh.1],hh.2⟩,ad,a1,k,a2,λhb=>?_,λhb=>⟨?_,Only.refl _ _⟩⟩
 ·rw[aU]at hb;obtain⟨e1,s,hs⟩:=a3 hb.1;rw[aU]at hb;have h1:=aP hb.1.1;have h2:=aP hb.1.2;obtain⟨m,rfl⟩:∃m:Nat,n=m:=⟨n.toNat,aG⟩
  rw[aV]at hs;refine(tS h hF hs).mono ?_;rintro _ w1 ⟨⟨s1,rfl,wJ⟩,cJ⟩;refine⟨s1,rfl,?_,cJ⟩;unfold Pa;rw[hl]at hb;rw[hb.1.1,hb.1.2,e1,hb.2,wJ.len,aV,db,db,db,bT,de,de];omega
 unfold Pa;rw[hl]at hb a3;cases hc:decide (n>=0)&&decide (n<(xs.length:Int))with
 | false=>rfl
 | true=>
  rw[hc]at hb;rw[(a3 hc).1,hb,fj]
theorem SE(h:aD nP 5 w F l xs)(hF:Sd xs)(ha:aD rInt 1 w G sa act)(hm:act.length<=1100000):aB au 38 #[l.v,sa.v] w λe w'=>(∃(s:Sl),e=aq (Sl.v s)/\dA w.heap.size w' s (Jk xs act))/\aA [] w w':=by
 refine(alX l sa (λv w'=>(∃(s:Sl),v=Sl.v s/\dA w.heap.size w' s (Jk xs act))/\aA [] w w') w ?_).mono abe;intro k0 w0 hY fA cQ;have z0:=cQ.size;refine(ED (kI ha cQ) aG).mono ?_;rintro _ w1 ⟨s1,rfl,wJ,cJ⟩;have z1:=cJ.size;have o1:=cQ.cy cJ;refine⟨s1,rfl,cJ.same aab,λhB=>?_⟩;have h1:aD nP 5 w1 (λk=>F k/\k<w.heap.size) l xs:=SliceF.only dh aN (SliceF.inHeap dh h aN) o1 aaa;have mQ:∀{k:Nat},s1.a=some ⟨k,0,none⟩->w0.heap.size<=k:=λe=>(wJ.blk e).1;have PC:s1.a≠some ⟨k0,0,none⟩:=λe=>abp
 refine(tQ (f:=⟨.func (.func 76) #[] #[ai (some ⟨k0,0,none⟩)],rfl⟩) wJ aG ⟨fC (by kernel_rfl),λy hy u hO=>?_⟩ (p:=λk=>!(Pa xs k)) (cap:=[ai (some ⟨k0,0,none⟩)]) rfl).mono ?_
 ·have hu:=Ye h1 hO λk hk _ e=>abp
  have PG:=hO.blk hB PC;refine(ame y ⟨k0,0,none⟩ (λv w'=>v=ao (!(Pa xs y))/\aA [] u w') u ?_).mono abg;refine⟨l,PG.cells 0 _ aaa,(SD hu hF y).mono ?_⟩;rintro _ u' ⟨rfl,hO'⟩;exact⟨_,rfl,rfl,hO'⟩
 rintro _ w2 ⟨s2,rfl,hsa,_,J7,dw⟩;have e2:act.filter (λx=>!!(Pa xs x))=act.filter (Pa xs):=by
  congr 1;funext k;rw[ku]
 rw[e2]at J7;have qG:=dw.blk hB PC;have MQ:=cY (Pa xs) act;refine⟨s2,rfl,l,qG,(Sg J7 aG).mono ?_⟩;rintro _ w3 ⟨s3,rfl,hsb,Fi,dE⟩;rw[aaR]at Fi;refine⟨s3,rfl,l,dE.blk qG (by rw[hsa];exact PC),⟨s3,rfl,Own.low Fi z0⟩,?_⟩;have o2:aF (λk=>w.heap.size<=k) w w2:=o1.oH (dw.mono λk _ e=>abp);exact(o2.trans (dE.mono (G:=λk=>w.heap.size<=k) λk _ e=>by rw[hsa]at e;have:=mQ e;omega) λk hk=>.inl hk).only λk hk=>hk
end
theorem CX:∀{L:List (Int×List Int)} {M:xv} {k:Int} {l:List Int},(L.map (·.1)).Nodup->((L.foldl (λM x=>λk=>if k=x.1 then some x.2 else M k) M) k=some l↔(k,l)∈L∨(k∉L.map (·.1)/\M k=some l))
 | [],M,k,l,_=>aaa
 | x::L,M,k,l,h=>by
  obtain⟨h1,h2⟩:=kO.1 h;rw[kM,CX h2];constructor
  ·rintro(h3 | ⟨h3,h4⟩)
   ·exact .inl (.tail _ h3)
   by_cases e:k=x.1
   ·rw[aZ e]at h4;injection h4 with h4;exact .inl (by rw[e,<-h4];exact .head _)
   rw[aX e]at h4;exact .inr ⟨λhm=>(aR.1 hm).elim e h3,h4⟩
  rintro(h3 | ⟨h3,h4⟩)
  ·rcases aR.1 h3 with h3 | h3
   ·subst h3;exact .inr ⟨h1,aZ rfl⟩
   exact .inl h3
  have:k≠x.1:=λe=>h3 (by rw[e];exact .head _);exact .inr ⟨λhm=>h3 (.tail _ hm),by rw[aX this];exact h4⟩
theorem V7{L:List (Int×List Int)}{M:xv}(hn:(L.map (·.1)).Nodup)(h:∀k l,(k,l)∈L↔M k=some l):gL L=M:=by
 funext k;have key:∀l,gL L k=some l↔M k=some l:=λl=>by
  unfold gL;rw[CX hn,<-h];exact⟨λh=>h.elim id λh=>(by cases h.2),.inl⟩
 cases hm:M k with
 | none=>
  cases hl:gL L k with
  | none=>rfl
  | some l=>rw[(key l).1 hl]at hm;cases hm
 | some l=>exact(key l).2 hm
def yJ(xs:List cR)(act left:List Int)(M:xv)(j:Nat):xv:=λh=>if h<(j:Int)then uT xs act left M h else M h
def Yf(x:cR)(act left:List Int):Bool:=fM x.k&&decide (x.pa∈act)&&decide (x.pa∈left)
def V8(xs:List cR)(x:cR)(act:List Int):List Int:=if x.k=4 then(Jk xs act).filter λk=>jA xs k x.pa else(eX xs x.pa.toNat xs.length).filter λk=>decide (k∈act)
section
variable {xs:List cR} {act left:List Int} {M:xv}
theorem My{j:Nat}{x:cR}(h:xs[j]? =some x):uT xs act left M j=if Yf x act left=true then some (V8 xs x act)else M j:=by
 unfold uT;rw[aX aG,aV,h];rfl
theorem Oc:yJ xs act left M 0=M:=by
 funext h;unfold yJ;by_cases h0:h<((0:Nat):Int)
 ·rw[aZ h0];unfold uT;rw[aZ aG]
 rw[aX h0]
theorem SF:yJ xs act left M xs.length=uT xs act left M:=by
 funext h;unfold yJ;by_cases h0:h<(xs.length:Int)
 ·rw[aZ h0]
 rw[aX h0];unfold uT;rw[aX aG,cF aG]
theorem V9{j:Nat}{x:cR}(h:xs[j]? =some x)(hc:Yf x act left=false):yJ xs act left M (j+1)=yJ xs act left M j:=by
 funext k;unfold yJ;by_cases e:k=(j:Int)
 ·subst e;rw[aZ aG,aX aG,My h,aX (by rw[hc];simp)]
 by_cases h1:k<(j:Int)
 ·rw[aZ aG,aZ h1]
 rw[aX aG,aX h1]
theorem SG{j:Nat}{x:cR}(h:xs[j]? =some x)(hc:Yf x act left=true):yJ xs act left M (j+1)=λk=>if k=(j:Int)then some (V8 xs x act)else if k=(j:Int)then none else yJ xs act left M j k:=by
 funext k;unfold yJ;by_cases e:k=(j:Int)
 ·subst e;rw[aZ aG,aZ rfl,My h,aZ hc]
 rw[aX e,aX e];by_cases h1:k<(j:Int)
 ·rw[aZ aG,aZ h1]
 rw[aX aG,aX h1]
end
theorem Mz(xs:List cR)(x:cR)(act:List Int):(V8 xs x act).length<=xs.length:=by
 have hk:(eX xs x.pa.toNat xs.length).length<=xs.length:=by
  unfold eX;rw[bA];exact bf (cY _ _) (oQ fH)
 have hl:(Jk xs act).length<=xs.length:=wg _ _;unfold V8;split
 ·exact bf (cY _ _) hl
 exact bf (cY _ _) hk
section
variable {w:ay} {k1:Nat} {sa sl:Sl} {G H:aL} {act l:List Int}
theorem Yg(hB:aH w k1 33 [sa.v])(ha:aD rInt 1 w G sa act)(hl:aD rInt 1 w H sl l)(hm:l.length<=2000000):aB au 31 #[sl.v,ai (some ⟨k1,0,none⟩)] w λe w'=>∃t:Sl,e=aq t.v/\dA w.heap.size w' t (l.filter λk=>decide (k∈act))/\aA [] w w':=by
 refine(alY sl ⟨k1,0,none⟩ (λv w'=>∃t:Sl,v=t.v/\dA w.heap.size w' t (l.filter λk=>decide (k∈act))/\aA [] w w') w ?_).mono abO;refine(ED hl aG).mono ?_;rintro _ w4 ⟨t,rfl,M8,dL⟩;have z4:=dL.size;have mQ:∀{q:Nat},t.a=some ⟨q,0,none⟩->w.heap.size<=q:=λe=>(M8.blk e).1;have nk:∀q,q<w.heap.size->¬(t.a=some ⟨q,0,none⟩):=λq hq e=>abp
 have j9:=hB.lt;refine⟨t,rfl,(tQ (f:=⟨.func (.func 34) #[] #[ai (some ⟨k1,0,none⟩)],rfl⟩) M8 hm ⟨fC (by kernel_rfl),λy hy u hO=>?_⟩ (p:=λy=>!decide (y∈act)) (cap:=[ai (some ⟨k1,0,none⟩)]) rfl).mono ?_⟩
 ·have cb:=hO.blk (dL.blk hB aaa) (nk k1 j9);have ca:=(kI (SliceF.inHeap bN ha aN) dL).keep bN aN λk hk cd=>hO.block k cd (nk k hk.2);refine(alZ y ⟨k1,0,none⟩ (λv w'=>v=ao (!decide (y∈act))/\aA [] u w') u ?_).mono abg;refine⟨sa,cb.cells 0 _ aaa,(ta ca y).mono ?_⟩;rintro _ u' ⟨rfl,h⟩;exact⟨_,rfl,rfl,h⟩
 rintro _ w5 ⟨s2,rfl,hsa,_,J7,eK⟩;refine⟨s2,rfl,s2,rfl,?_,(dL.oH (eK.mono (G:=λq=>w.heap.size<=q) λq _ e=>mQ e)).only λq hq=>hq⟩;have e:(l.filter λx=>!(λy=>!decide (y∈act)) x)=l.filter λk=>decide (k∈act):=by
  congr 1;funext x;exact ku _
 rw[<-e];exact J7
end
section
variable {w u:ay} {b r0 r1:Nat} {s si ru sr sp sa sl:Sl} {F G G' H:aL} {p:Pl} {M:xv} {S:Nat} {L:List (Int×List Int)} {act left:List Int}
theorem WkP.Pc(h:WkP w b s si ru sr r0 r1 F G p M S)(hO:aA [r0] w u):Wk u b s si ru sr r0 r1/\PlR u F s si ru sr p:=by
 have n:∀k,F k->k<w.heap.size->k∉[r0]:=λk hk _ hm=>by
  simp only[aO]at hm;exact h.nF.1 ac5
 exact⟨hO.blk h.blk (by simpa using λe=>h.n0 e.symm),⟨SliceF.only dh aN h.pl.sp hO n,SliceF.only bN aN h.pl.ini hO n,SliceF.only bN aN h.pl.dft hO n,SliceF.only iv aN h.pl.ro hO n⟩⟩
theorem Od(hP:PlR w F s si ru sr p)(sd:Sd p.sp)(A:Lg p.sp act)(ha:aD rInt 1 w G sa act)(TV:act.length<=1000000)(hlf:aD rInt 1 w H sl left)(Ur:left.length<=2000000)(hL:aD EK 2 w G' sp L)(hg:∀x,x∈L->gI x.1)(hx:∀k l,gL L k=some l->l.length<=1000000):
  aB au 11 #[aj #[s.v,si.v,ru.v,sr.v],sa.v,sl.v,sp.v] w λe w'=>(∃(t:Sl) (L':List (Int×List Int)),e=aq t.v/\Own EK 2 97 w.heap.size w' (λk=>w.heap.size<=k) t L'/\gL L'=uT p.sp act left (gL L)/\∀x,x∈L'->gI x.1)/\aA [] w w':=by
 refine(alO s si ru sr sa sl sp (λv w'=>(∃(t:Sl) (L':List (Int×List Int)),v=t.v/\Own EK 2 97 w.heap.size w' (λk=>w.heap.size<=k) t L'/\gL L'=uT p.sp act left (gL L)/\∀x,x∈L'->gI x.1)/\aA [] w w') w ?_).mono (by rintro _ w' ⟨v,rfl,⟨t,L',rfl,h⟩,h'⟩;exact⟨⟨t,L',rfl,h⟩,h'⟩);intro k0 k1 w0 hY fA j9 jW cQ;have z0:=cQ.size;have kB:=sd.le;have hxn:=hP.sp.len;have hxc:=hP.sp.cap;have hxb:=hP.sp.big;refine(EL w0 s si ru sr (SliceF.only mX aN hL cQ aaa) hg).mono ?_;rintro _ w1 ⟨⟨b,r0,r1,rfl,hb,jC,h0,h01,h1,hB,hPa,wJ⟩,cJ⟩;have z1:=cJ.size;have W1:=SA (hP.o0 cQ) hb h0 h01 h1 hB hPa wJ cJ;have o1:=cQ.cy cJ;refine⟨_,rfl,cJ.same aab,λhBk fX=>(Yg hBk (kI ha o1) (kI hlf o1) Ur).mono ?_⟩;rintro _ w2 ⟨tg,rfl,rS,dw⟩;have z2:=dw.size;have W2:=W1.o0 dw;have o2:=o1.cy dw;have cB2:=dw.blk hBk aaa;have aiF:∀y:Int,y∈(left.filter λk=>decide (k∈act))↔y∈left/\y∈act:=λy=>by rw[dv,ch]
 generalize OJ:(left.filter λk=>decide (k∈act))=gone at*
 have ap9:=W2.n0;have atk:r0<w1.heap.size:=aG
 have up0:∀{a u:ay},aA [] a u->aA [r0] a u:=λhO=>(Only.refl [r0] _).cy hO;have P2:PastV w2 (λk=>(G' k/\k<w0.heap.size)∨w1.heap.size<=k) r0 (gL L):=W2.past.mono λk hk=>.inl hk;have hQr:¬((G' r0/\r0<w0.heap.size)∨w1.heap.size<=r0):=by rintro(⟨_,h⟩ | h)<;>omega
 refine⟨tg,rfl,dw.same aab,sa,cB2,λkv i l2 l3 l4 l5 l6 u=>∃j:Nat,i=(j:Int)/\kv+j=p.sp.length/\j<=p.sp.length/\(s=l2/\si=l3/\ru=l4/\sr=l5/\sa=l6)/\PastV u (λk=>(G' k/\k<w0.heap.size)∨w1.heap.size<=k) r0 (yJ p.sp act left (gL L) j)/\aA [r0] w2 u,p.sp.length,⟨0,rfl,aG,bB _,⟨rfl,rfl,rfl,rfl,rfl⟩,by rw[Oc];exact P2,Only.refl _ _⟩,?_⟩;rintro kv _ _ _ _ _ _ w3 ⟨j,rfl,tX,hj,⟨rfl,rfl,rfl,rfl,rfl⟩,OT,dE⟩;have z3:=dE.size;have o23:aA [] w w3:=o2.trans dE λx hx=>.inr aaD;obtain⟨wz,aiG⟩:=W2.Pc dE;have cB3:aH w3 k1 33 [sa.v]:=dE.blk cB2 aab;refine⟨λhc=>?_,λhc=>?_⟩
 ·have hc:=aP hc;have iY:j<p.sp.length:=aG
  obtain⟨x,hx⟩:∃x,p.sp[j]? =some x:=⟨_,aQ iY⟩
  refine⟨λl7 l8 l9 l10 pK u=>(s=l7/\si=l8/\ru=l9/\sr=l10/\sa=pK)/\PastV u (λk=>(G' k/\k<w0.heap.size)∨w1.heap.size<=k) r0 (yJ p.sp act left (gL L) (j+1))/\aA [r0] w2 u,?_,?_⟩
  ·rintro _ _ _ _ _ u ⟨⟨rfl,rfl,rfl,rfl,rfl⟩,h1,h2⟩;exact⟨kv-1,aG,j+1,aaq,aG,aG,⟨rfl,rfl,rfl,rfl,rfl⟩,h1,h2⟩
  obtain⟨ad,e1,e2,_⟩:=j5 aiG.sp hx;refine⟨ad,e1,_,_,_,_,_,e2,λk5 w5 Da HU eK cB5=>?_⟩;have z5:=eK.size;have o35:=dE.cy eK;refine⟨λb0 rG xI yN BE MT i5 s1 i6 i7 i8 u=>(s=rG/\si=xI/\ru=yN/\sr=BE/\sa=MT)/\i5=x.k/\i6=x.pa/\b0=!Yf x act left/\aA [] w5 u,?_,(EN w5 x.k).mono ?_⟩
  ·rintro b0 _ _ _ _ _ _ s1 _ i7 i8 w6 ⟨⟨rfl,rfl,rfl,rfl,rfl⟩,rfl,rfl,yK,eI⟩;have z6:=eI.size;have o36:=o35.cy eI;refine⟨λht=>⟨⟨rfl,rfl,rfl,rfl,rfl⟩,?_,o36⟩,λhf=>?_⟩
   ·rw[V9 hx (by rw[ht]at yK;simpa using yK.symm)];exact(OT.o0 eK).o0 eI
   have hcd:Yf x act left=true:=by rw[hf]at yK;simpa using yK.symm
   have acY:=hcd;unfold Yf at acY;simp only[aU,bJ]at acY;obtain⟨⟨hh,Us⟩,M4⟩:=acY;obtain⟨pn,epa,aqc,_⟩:=uS sd A Us;obtain⟨y,hy⟩:∃y,p.sp[pn]? =some y:=⟨_,aQ aqc⟩
   have aiH:=(aiG.o0 eK).o0 eI;have cB6:=eI.blk cB5 aaa;have aqd:aD rInt 1 w6 G sa act:=kI (kI (kI ha o23) eK) eI;have hkn:(eX p.sp pn p.sp.length).length<=p.sp.length:=by
    unfold eX;rw[bA];exact bf (cY _ _) (oQ fH)
   rw[epa];refine(I9 aiH.sp sd.fo hy aG).mono ?_;rintro _ w7 ⟨⟨t17,rfl,aqe⟩,fL⟩;have z7:=fL.size;have cB7:=fL.blk cB6 aaa;refine⟨t17,rfl,fL.same aab,sa,cB7,λH9 MU WC l22 l23 l24 i9 s2 i10 i11 i12 u=>(s=MU/\si=WC/\ru=l22/\sr=l23/\sa=l24)/\(∃H7:List Int,aD rInt 1 u (λk=>w1.heap.size<=k) H9 H7/\H7.length<=2000000/\(H7.filter λk=>decide (k∈act))=V8 p.sp x act)/\aA [] w6 u,?_,λh4=>?_,λh4=>⟨⟨rfl,rfl,rfl,rfl,rfl⟩,⟨_,aqe.sl.mono bN λk hk=>aG,aG,?_⟩,fL⟩⟩
   ·rintro H9 _ _ _ _ _ i9 s2 i10 i11 i12 w8 ⟨⟨rfl,rfl,rfl,rfl,rfl⟩,⟨H7,aqf,fl,hv⟩,fV⟩;have z8:=fV.size;have o38:=o36.cy fV;have hP8:=((OT.o0 eK).o0 eI).o0 fV;obtain⟨uB,_⟩:=W2.Pc o38;obtain⟨w9,d1,d2,d3⟩:=PastV.drop hP8 (j:Int) hQr;have z9:=d3.size;refine⟨⟨b,0,none⟩,rfl,some r0,Blk.eE uB 4 rfl,w9,d1,d3.same aab,λdR eO aiI=>?_⟩;have Pu:=eO.size;have acZ:aA [r0] w2 dR:=(o38.trans d3 λx hx=>.inl hx).cy eO;obtain⟨uf,_⟩:=W2.Pc acZ;have YV:aA [] w dR:=o2.trans acZ λx hx=>.inr aaD;have aqh:aD rInt 1 dR (λk=>w1.heap.size<=k) H9 H7:=kI (SliceF.only bN aN aqf d3 λk hk _ hm=>by
     simp only[aO]at hm;omega) eO
    refine⟨λk=>k=b,⟨b,0,none⟩,rfl,rfl,some r0,Blk.eE uf 4 rfl,(Yg aiI (kI ha YV) aqh fl).mono ?_⟩;rintro _ dS ⟨t25,rfl,aqi,ey⟩;have Fa:=ey.size;have aqj:=ey.blk aiI aaa;obtain⟨fp,f1,f2,f3⟩:=PastV.set ((d2.o0 eO).o0 ey) (k:=(j:Int)) ⟨aG,aG⟩ (aqi.sl.mono bN (G:=λk=>(G' k/\k<w0.heap.size)∨w1.heap.size<=k) λk hk=>.inr aG) hQr;refine⟨t25,rfl,ey.same aab,sa,aqj,bP.only ey,fp,f1,f3.same aab,λk hk cd=>f3.block k cd (by rw[hk];simpa using λe=>ap9 e.symm),⟨rfl,rfl,rfl,rfl,rfl⟩,?_,(acZ.cy ey).trans f3 λx hx=>.inl hx⟩;rw[SG hx hcd,<-hv];exact f2
   ·have h4:x.k=4:=adr
    have aiJ:=aiH.o0 fL;refine(SE aiJ.sp sd (kI aqd fL) aG).mono ?_;rintro _ fD ⟨⟨t27,rfl,aiK⟩,eL⟩;have WO:=eL.size;have aiL:=eL.blk cB7 aaa;refine⟨t27,rfl,eL.same aab,sa,aiL,λcA cS=>?_⟩;have mQ:∀{q:Nat},t27.a=some ⟨q,0,none⟩->w7.heap.size<=q:=λe=>(aiK.blk e).1;have nk:∀q,q<w7.heap.size->¬(t27.a=some ⟨q,0,none⟩):=λq hq e=>abp
    have axq:(Jk p.sp act).length<=p.sp.length:=wg _ _;have aqk:=SliceF.inHeap dh aiJ.sp aN;refine(tQ (f:=⟨.func (.func 39) #[] #[ai (some ⟨k0,0,none⟩),ai (some ⟨k5,0,none⟩)],rfl⟩) aiK aG ⟨fC (by kernel_rfl),λq hq v J8=>?_⟩ (p:=λk=>!jA p.sp k x.pa) (cap:=[ai (some ⟨k0,0,none⟩),ai (some ⟨k5,0,none⟩)]) rfl).mono ?_
    ·have ca:=J8.blk cA (nk k0 aG);have cs:=J8.blk cS (nk k5 aG);have csp:aD nP 5 v (λk=>(F k/\k<w0.heap.size)/\k<w7.heap.size) s p.sp:=(SliceF.only dh aN aqk eL aaa).keep dh aN λk hk cd=>J8.block k cd (nk k hk.2);refine(al2 q ⟨k0,0,none⟩ ⟨k5,0,none⟩ (λc w'=>c=ao (!jA p.sp q x.pa)/\aA [] v w') v ?_).mono acg;refine⟨s,Blk.eE ca 0 rfl,_,Blk.eE cs 2 rfl,(xo csp sd.fo q _).mono ?_⟩;rintro _ v' ⟨rfl,hv⟩;obtain rfl:v=v':=hv.symm;exact⟨_,rfl,by rw[Ss,epa],Only.refl _ _⟩
    rintro _ fP ⟨t29,rfl,_,_,aql,eH⟩;have aqm:aA [] w7 fP:=(eL.oH (eH.mono (G:=λq=>w7.heap.size<=q) λq _ e=>mQ e)).only λq hq=>hq;refine⟨t29,rfl,s,si,ru,sr,eH.blk cA (nk k0 aG),sa,eH.blk aiL (nk k1 aG),_,_,_,_,_,eH.blk cS (nk k5 aG),⟨rfl,rfl,rfl,rfl,rfl⟩,⟨_,aql.sl.mono bN λk hk=>aG,bf (cY _ _) aG,?_⟩,fL.cy aqm⟩;unfold V8;rw[aZ h4];have e:((Jk p.sp act).filter λk=>!(λk=>!jA p.sp k x.pa) k)=(Jk p.sp act).filter λk=>jA p.sp k x.pa:=by
     congr 1;funext k;exact ku _
    rw[e,Fq];intro k hk;exact bL (V1 (dv.1 hk).1)
   have h4:x.k≠4:=adr
   unfold V8;rw[aX h4,epa,aV]
  rintro _ u ⟨rfl,hu⟩;obtain rfl:w5=u:=hu.symm;refine⟨_,rfl,λ_ _=>rfl,sa,cB5,λhn=>⟨⟨rfl,rfl,rfl,rfl,rfl⟩,rfl,rfl,?_,Only.refl _ _⟩,λhn=>?_⟩
  ·unfold Yf;have:fM x.k=false:=acq
   rw[this];rfl
  have hh:fM x.k=true:=acq
  have W0:aD rInt 1 w5 (λk=>w1.heap.size<=k) tg gone:=kI (SliceF.only bN aN rS.sl dE λk hk _ hm=>by
   simp only[aO]at hm;omega) eK
  refine(ta W0 x.pa).mono ?_;rintro _ jl ⟨rfl,je⟩;refine⟨_,rfl,je.same aab,sa,je.blk cB5 aaa,⟨rfl,rfl,rfl,rfl,rfl⟩,rfl,rfl,?_,je⟩;unfold Yf;rw[hh,db];congr 1;rw[bT,aU,ch,ch,ch,aiF];exact and_comm
 have hc:=aY hc;have iY:j=p.sp.length:=aG
 subst iY;rw[SF]at OT;have Bz:∀k l,uT p.sp act left (gL L) k=some l->l.length<=1000000:=λk l hl=>by
  unfold uT at hl;split at hl
  ·rename_i t _;split at hl
   ·injection hl with hl;have:=Mz p.sp t act;unfold V8 at this;rw[<-hl];omega
   exact hx k l hl
  exact hx k l hl
 generalize uT p.sp act left (gL L)=M' at*
 obtain⟨m,m1,m2,m3⟩:=OT.ex;obtain⟨gN,a1,a2,a3,a4⟩:=MapV.range (P:=au) (mty:=72) (kt:=3) (et:=33) (by kernel_rfl) m1;have z17:=a3.size;refine⟨⟨b,0,none⟩,rfl,some r0,Blk.eE wz 4 rfl,_,gN,a1,a3.same aab,λHW JH WE WG WH WI YC u=>∃(V:List Int) (Lo:List (Int×List Int)),ItV kN gI u w3.heap.size r0 m 64 V/\HW+V.length=64/\Lo.map (·.1)=V.reverse/\(∀k l,(k,l)∈Lo->M' k=some l)/\Own EK 2 97 gN.heap.size u (λk=>gN.heap.size<=k) JH Lo/\aA [] w3 u/\aA [w3.heap.size] gN u,64,⟨[],[],a2,rfl,rfl,λ_ _ h=>aaH,Own.nil _ _ _ _ _ _,a3,Only.refl _ _⟩,?_⟩;rintro HW JH WE WG WH WI YC jL ⟨V,Lo,hI,aio,hVo,hLo,hOw,kT,Za⟩;have z18:=kT.size;have axs:=Za.size;have aqn:=kT.blk cB3 aaa;have hVl:=ItV.len xx hI;have hLl:Lo.length=V.length:=by
  have:=bh List.length hVo;rwa[bA,List.length_reverse]at this
 rcases ItV.next (P:=au) xx hI 0 with⟨iW,WV⟩ | ⟨k,v,u1,hm,hgk,hkV,WV,Fg,hI1,hOn⟩
 ·refine .inl ⟨jL,WV,λ_ _=>rfl,(V5 hOw aG).mono ?_⟩;rintro _ jm ⟨rfl,L',hp,aqo,kU⟩;have mQ:∀{q:Nat},lq JH q->gN.heap.size<=q:=λe=>(hOw.blk e).1;have o20:aA [] w3 jm:=(kT.oH (kU.mono (G:=λq=>w3.heap.size<=q) λq _ e=>abp)).only λq hq=>hq;refine⟨rfl,λq hq=>?_,sa,kU.blk aqn λe=>abp,⟨JH,L',rfl,(aqo.low aG).mono mX λk hk=>aG,?_,λx hx=>?_⟩,o23.cy o20⟩
  ·simp only[aO]at hq;subst hq;exact kU.block _ aG λe=>abp
  ·obtain⟨_,_,_,_,_,_,_,_,_,_,_,hnd,_⟩:=hI.mem;refine V7 ?_ λk l=>?_
   ·rw[(hp.map _).nodup_iff,hVo];exact(List.reverse_perm V).nodup_iff.2 hnd
   rw[hp.mem_iff];refine⟨hLo k l,λhk=>?_⟩;have JY:(m k).isSome=true:=by
    obtain⟨t,e,_⟩:=m3 k l hk;rw[e];rfl
   have hkV:=iW k JY;have:k∈Lo.map (·.1):=by rw[hVo];exact xT.2 hkV
   obtain⟨⟨k',l'⟩,yw,e⟩:=cP.1 this;dsimp only at e;subst e;have:=hLo k' l' yw;rw[hk]at this;injection this with this;rw[this];exact yw
  have JB:=hp.mem_iff.1 hx;obtain⟨t,e,_⟩:=m3 x.1 x.2 (hLo x.1 x.2 JB);exact MapV.ok m1 xx (k:=x.1) (by rw[e];simp)
 have hMk:∃l,M' k=some l:=by
  cases e:M' k with
  | none=>rw[m2 k e]at hm;cases hm
  | some l=>exact⟨l,rfl⟩
 obtain⟨l,hl⟩:=hMk;obtain⟨t,et,ht⟩:=m3 k l hl;rw[hm]at et;injection et with et;subst et;have zn:=hOn.size;have aqp:=ItV.len xx hI1;rw[bp]at aqp;have on:aA [] w3 u1:=kT.trans hOn λx hx=>.inr aaD;have on':aA [w3.heap.size] gN u1:=Za.trans hOn λx hx=>.inl hx;have cBn:=on.blk cB3 aaa;refine .inr ⟨⟨kN k,rfl⟩,⟨t.v,rfl⟩,u1,WV,hOn.same aab,⟨kN k,rfl⟩,⟨t.v,rfl⟩,u1,Fg,λ_ _=>rfl,k,rfl,t,rfl,(ED (kI ht on) (by have:=Bz k l hl;omega)).mono ?_⟩;rintro _ oB ⟨t45,rfl,aqq,kl⟩;have z23:=kl.size;have aiN:Own EK 2 97 gN.heap.size oB (λk=>gN.heap.size<=k) JH Lo:=hOw.keep mX λq hq cd=>by
  have hq:gN.heap.size<=q:=by rcases hq with hq | hq<;>omega
  rw[kl.block q aG aaa,hOn.block q cd aab]
 obtain⟨y,nT,b1,b3,s',mh,g1,g2,⟨gs,g3,g4⟩,g5⟩:=jr (P:=au) (t:=45) (ty:=45) (e:=97) (i:=Tryz.t97) (bytes:=32) (size:=2) (r:=EK) (G:=λq=>u1.heap.size<=q) (v:=aj #[O ae k,t45.v]) (x:=(k,l)) (by kernel_rfl) (by kernel_rfl) rfl rfl rfl rfl aN aN aN mX aiN aG rfl ⟨t45,rfl,aqq.sl⟩ (λq hq _=>⟨aG,λe=>by have:=(hOw.blk e).2;dsimp only at this;omega⟩) aG;have z24:=b3.size;have rR:∀q,q∈gs->gN.heap.size<=q:=λq hq=>(g4 q hq).2.1;have o25:aA [] u1 mh∨True:=.inr trivial;have c1:∀q,q<gN.heap.size->q<jL.heap.size->mh.heap[q]? =u1.heap[q]? :=λq hq hq'=>by
  rw[g3.block q aG λe=>by have:=rR q e;omega,b3.block q aG aaa,kl.block q aG aaa]
 have z25:=g3.size;refine⟨t45,rfl,kl.same aab,sa,kl.blk cBn aaa,y,nT,b1,b3.same aab,s',mh,g1,λq hq=>g3.block q ?_ λe=>?_,HW-1,aG,k::V,Lo++[(k,l)],hI1.keep (c1 _ aG aG) (c1 _ aG aG),by rw[bp];omega,?_,λk' l' h'=>?_,g2.mono mX λq hq=>hq.elim id λh=>aG,?_,?_⟩
 ·simp only[aR,bn,cm]at hq;rcases hq with rfl | rfl<;>omega
 ·simp only[aR,bn,cm]at hq;have:=rR q e;rcases hq with rfl | rfl<;>omega
 ·rw[dc,hVo,List.reverse_cons];rfl
 ·rcases ci.1 h' with h' | h'
  ·exact hLo k' l' h'
  rw[aO]at h';injection h' with e1 e2;rw[e1,e2];exact hl
 ·exact((on.cy kl).cy b3).trans g3 λq hq=>.inr (by have:=rR q hq;omega)
 exact((on'.cy kl).cy b3).trans g3 λq hq=>.inr (rR q hq)
end
end Go.Proofs.YtpbgcbdclnfpnaaGreatDoor.Con
namespace Go.Proofs.YtpbgcbdclnfpnaaGreatDoor.Con
open Go Go.RowKit Go.Kt Go.Kt.V Go.Proofs.YtpbgcbdclnfpnaaGreatDoor.Vc
def upK(xs:List cR)(i:Nat):Nat:=Ba (CQ xs.length λk=>decide (k<i)&&Rt xs k i)
def dnK(xs:List cR)(i:Nat):Nat:=Ba (CQ xs.length λk=>decide (i<k)&&Rt xs i k)
def rgK(xs:List cR)(i:Nat):Nat:=Ba (cV xs i)
structure Ce where
 k:Int
 pa:Int
 up:Nat
 dn:Nat
 rg:Nat
 ini:Int
 dft:Int
 f0:Nat
 f1:Nat
def amJ(p:Pl)(a e:Nat)(b:Nb):Ce:=⟨b.k,GQ p.sp a,upK p.sp a,dnK p.sp a,rgK p.sp a,(p.ini[a]?).getD 0,(p.dft[a]?).getD 0,e,e+b.mv.length⟩
mutual
def nMo:Nd->Nat
 | .mk b l=>b.mv.length+af9 l
def af9:List Nd->Nat
 | []=>0
 | x::l=>nMo x+af9 l
end
mutual
def ceN(p:Pl):Nat->Nat->Nd->List Ce
 | a,e,.mk b l=>amJ p a e b::aga p (a+1) (e+b.mv.length) l
def aga(p:Pl):Nat->Nat->List Nd->List Ce
 | _,_,[]=>[]
 | a,e,x::l=>ceN p a e x++aga p (a+jd x) (e+nMo x) l
end
def exM(xs:List cR)(r:Ro):Nat:=if 0<=r.dom then dnK xs r.dom.toNat else 0
structure Cb (w:ay) (c:Nat) (F G H:aL) (s si sd sr sa sm:Sl) (p:Pl) (act:List Int) (may:List Bool):Prop where
 blk:aH w c 107 [s.v,si.v,sd.v,sr.v,sa.v,sm.v]
 pl:PlR w F s si sd sr p
 act:aD rInt 1 w G sa act
 may:aD Ya 1 w H sm may
structure atr (ro:List Ro) (st:List Int×List Int):Prop where
 a:∀x,x∈st.1->∃(n:Nat) (r:Ro),x=n/\ro[n]? =some r
 b:∀x,x∈st.2->x∈st.1
 c:st.1.Nodup
 d:st.2.length<=st.1.length
def Dj(w:ay):Prop:=Lib.TabIs au w "math/bits.deBruijn64tab" .u8 (Lib.deBruijn64tab.map λx:Nat=>(x:Int))
theorem aaS:Tryz.prog.globalNamed "math/bits.deBruijn64tab" =some 5:=by kernel_rfl
theorem Dj.keep{w w':ay}(h:Dj w)(hk:5<w.heap.size->w'.heap[5]? =w.heap[5]?):Dj w':=by
 unfold Dj Lib.TabIs World.var? at h⊢;rw[aaS]at h⊢;simp only[xQ]at h⊢;rw[hk]
 ·exact h
 refine cr λhn=>?_;rw[ff aG]at h;cases h
theorem Dj.only{w w':ay}(h:Dj w)(hO:aA [] w w'):Dj w':=h.keep λcd=>hO.block _ cd aaa
end Go.Proofs.YtpbgcbdclnfpnaaGreatDoor.Con
namespace Go.Kt
open Go Go.RowKit
end Go.Kt
namespace Go.Proofs.YtpbgcbdclnfpnaaGreatDoor.Con
open Go Go.RowKit Go.Kt Go.Kt.V Go.Proofs.YtpbgcbdclnfpnaaGreatDoor.Vc
def rCe:Rp Ce:=λ_ _ x cs=>∃en lv:Sl,cs=[O ae x.k,O ae x.pa,.int .u64 (x.up:Nat),.int .u64 (x.dn:Nat),.int .u64 (x.rg:Nat),O ae x.ini,O ae x.dft,en.v,lv.v,O ae (x.f0:Nat),O ae (x.f1:Nat)]
def rEd:Rp Nat:=λ_ _ x cs=>cs[7]? =some (.int .u64 (x:Int))/\∀v,v∈cs->v.oneCell'=true
theorem SH{w w':ay}{a:Addr}{v:az}{cs:aK}(h:aE w a (v::cs))(hO:aA [] w w'):aE w' a (v::cs):=h.keep (hO.block _ (by
 have:=h 0 v rfl;unfold World.cell? at this;refine cr λhn=>?_;rw[show(a.add 0).block=a.block from rfl,ff aG]at this;cases this) aaa)
def rI0:Rp Int:=λ_ _ x cs=>cs=[O ae x]
theorem aaT:rI0.Ok where
 keep h _:=h
 inHeap h:=h
 mono h _:=h
 one:=by
  rintro w F x cs h v hv;unfold rI0 at h;subst h;simp only[aO]at hv;subst hv;rfl
structure Vs (A:Nat) (u:ay) (sv su:Sl) (n:Nat):Prop where
 v:∃xs,Own lz 1 9 A u (λ_=>False) sv xs/\xs.length=n
 u:∃xs,Own rI0 1 3 A u (λ_=>False) su xs/\xs.length=n
 ap:∀k,lq sv k->¬lq su k
section
variable {A n:Nat} {w:ay} {sv su:Sl}
theorem Vs.only{w':ay}{bs:List Nat}(h:Vs A w sv su n)(hO:aA bs w w')(hb:∀k,k∈bs->k<A):Vs A w' sv su n:=by
 obtain⟨⟨x1,a1,a2⟩,⟨x2,b1,b2⟩,c⟩:=h;exact⟨⟨x1,a1.keep dH λk hk cd=>hO.block k cd λe=>(by have:=hb k e;have:=(hk.resolve_left id).1;omega),a2⟩,⟨x2,b1.keep aaT λk hk cd=>hO.block k cd λe=>(by have:=hb k e;have:=(hk.resolve_left id).1;omega),b2⟩,c⟩
end
structure TbR (w:ay) (F:aL) (sn sc se:Sl) (c:Ch):Prop where
 tn:aD lz 1 w F sn ((sZ c.root).map λb=>b.nm)
 tc:aD rCe 11 w F sc (ceN (dG c) 0 0 c.root)
 te:aD rEd 16 w F se ((O8 (cH c) 0 c.root).map (exM (cH c)))
end Go.Proofs.YtpbgcbdclnfpnaaGreatDoor.Con
namespace Go.Proofs.YtpbgcbdclnfpnaaGreatDoor.Con
open Go Go.RowKit Go.Kt Go.Kt.V Go.Proofs.YtpbgcbdclnfpnaaGreatDoor.Vc
def pk:List Nat->Nat
 | []=>0
 | a::l=>a+256*pk l
def Fv(a:Nat):Nat:=(a/2&&& 85)+(a&&& 85)
def uU(a:Nat):Nat:=(a/4&&& 51)+(a&&& 51)
def SI(a:Nat):Nat:=(a/16+a)&&& 15
theorem aaU(k:Int):0<=bits .and ae k 1048575:=by
 have h:(BitVec.ofInt 64 k&&& BitVec.ofInt 64 1048575).toNat<=1048575:=by
  rw[BitVec.toNat_and];exact Nat.and_le_right
 show 0<=IntKind.i64.wrap (((BitVec.ofInt 64 k&&& BitVec.ofInt 64 1048575).toNat:Nat):Int);rw[gF aG aG];omega
section
variable {xs:List cR} (sd:Sd xs) (hl:xs.length<=64) {act:List Int} (A:Lg xs act)
include sd hl A
theorem HC{k:Nat}:(Ba act).testBit k=true↔(k:Int)∈act:=by
 rw[N9,ch];refine⟨λh=>h.2,λh=>⟨?_,h⟩⟩;have:=(A.at_ k h).lt;omega
theorem Oe:gX (Ba act)=act:=we (uR _) A.rise λx=>by
 rw[nX];constructor
 ·rintro⟨k,rfl,_,hk⟩;exact(HC sd hl A).1 hk
 intro h;have h1:=(A.at_ x h).ge;have h2:=(A.at_ x h).lt;obtain⟨k,rfl⟩:∃k:Nat,x=k:=⟨x.toNat,aG⟩
 exact⟨k,rfl,aG,(HC sd hl A).2 h⟩
end
def gV(W:Int->Nat):List Int->Nat
 | []=>0
 | r::l=>W r+gV W l
def ix(W:Int->Nat):List Int->Nat
 | []=>1
 | r::l=>W r*ix W l
theorem xA(W:Int->Nat)(r:Int):∀l,gV W (l++[r])=gV W l+W r
 | []=>by simp[gV]
 | x::l=>by rw[cp,gV,gV,xA W r l,eU]
theorem xB(W:Int->Nat)(r:Int):∀l,ix W (l++[r])=ix W l*W r
 | []=>by simp[ix]
 | x::l=>by rw[cp,ix,ix,xB W r l,FD]
theorem Bi{W V:Int->Nat}:∀{l:List Int},(∀r,r∈l->W r=V r)->gV W l=gV V l
 | [],_=>rfl
 | x::l,h=>by rw[gV,gV,h x (.head _),Bi λr hr=>h r (.tail _ hr)]
theorem Bj{W V:Int->Nat}:∀{l:List Int},(∀r,r∈l->W r=V r)->ix W l=ix V l
 | [],_=>rfl
 | x::l,h=>by rw[ix,ix,h x (.head _),Bj λr hr=>h r (.tail _ hr)]
theorem CY(W:Int->Nat):∀(l:List Int) (j:Nat),gV W (l.take j)<=gV W l
 | [],j=>by simp[gV]
 | x::l,0=>by simp[gV]
 | x::l,j+1=>by rw[eB,gV,gV];have:=CY W l j;omega
theorem Bk{W:Int->Nat}:∀{l:List Int},(∀r,r∈l->0<W r)->0<ix W l
 | [],_=>Nat.one_pos
 | x::l,h=>by rw[ix];exact Nat.mul_pos (h x (.head _)) (Bk λr hr=>h r (.tail _ hr))
theorem CZ{W:Int->Nat}:∀{l:List Int} (j:Nat),(∀r,r∈l->0<W r)->ix W (l.take j)<=ix W l
 | [],j,_=>by simp[ix]
 | x::l,0,h=>by rw[da];exact Bk h
 | x::l,j+1,h=>by rw[eB,ix,ix];exact Fk _ (CZ j λr hr=>h r (.tail _ hr))
def wy(xs:List cR):Nat->Nat->Nat
 | 0,_=>1
 | f+1,n=>if(cV xs n).length=0 then 1 else if kd xs n=2 then ix (λr=>wy xs f r.toNat) (cV xs n)else gV (λr=>wy xs f r.toNat) (cV xs n)
def W(xs:List cR)(r:Int):Nat:=wy xs xs.length r.toNat
section
variable {xs:List cR}
theorem MA(hF:Sd xs):∀(f g n:Nat),xs.length<=n+f->xs.length<=n+g->wy xs f n=wy xs g n
 | 0,0,_,_,_=>rfl
 | 0,g+1,n,hf,_=>by
  have:cV xs n=[]:=jZ.2 λr hr=>by
   obtain⟨q,t,_,h2,_,_,h5,_⟩:=hF.C4 hr;have:=eT h2;omega
  rw[wy,wy,this];rfl
 | f+1,0,n,_,hg=>by
  have:cV xs n=[]:=jZ.2 λr hr=>by
   obtain⟨q,t,_,h2,_,_,h5,_⟩:=hF.C4 hr;have:=eT h2;omega
  rw[wy,wy,this];rfl
 | f+1,g+1,n,hf,hg=>by
  have key:∀r,r∈cV xs n->wy xs f r.toNat=wy xs g r.toNat:=λr hr=>by
   obtain⟨q,t,rfl,_,_,_,h5,_⟩:=hF.C4 hr;rw[aV];exact MA hF f g q aG aG
  rw[wy,wy,Bi key,Bj key]
theorem Sd.aba(hF:Sd xs)(n:Nat):W xs n=if(cV xs n).length=0 then 1 else if kd xs n=2 then ix (W xs) (cV xs n)else gV (W xs) (cV xs n):=by
 have h1:W xs n=wy xs (xs.length+1) n:=by
  unfold W;rw[aV];exact MA hF _ _ n aG aG
 rw[h1,wy];rfl
def nu(xs:List cR)(r:Int):Nat:=(EC xs r-r).toNat
theorem aaV{x y:Nat}(hx:2<=x)(hy:2<=y):x+y<=x*y:=by
 obtain⟨a,rfl⟩:∃a,x=a+2:=⟨x-2,aG⟩
 obtain⟨b,rfl⟩:∃b,y=b+2:=⟨y-2,aG⟩
 rw[eM,Nat.mul_add];have:=bB (a*b);omega
theorem rm{m:Nat}(h:1<=m):2<=2 ^ m:=by
 have:=lD (n:=2) aN h;simpa using this
theorem EP{V:Int->Nat}{z:Int->Nat}:∀{l:List Int},(∀r,r∈l->2*V r<=2 ^ z r/\1<=z r)->l≠[]->2*gV V l<=2 ^ (gV z l)
 | [],_,h=>absurd rfl h
 | [x],h,_=>by simpa[gV]using(h x (.head _)).1
 | x::y::l,h,_=>by
  have h1:=h x (.head _);have ih:=EP (l:=y::l) (λr hr=>h r (.tail _ hr)) aaa;have hz:1<=gV z (y::l):=by
   have:=(h y (.tail _ (.head _))).2;rw[gV];omega
  have e1:gV V (x::y::l)=V x+gV V (y::l):=rfl;have e2:gV z (x::y::l)=z x+gV z (y::l):=rfl;rw[e1,e2,Nat.pow_add];have:=aaV (rm h1.2) (rm hz);omega
theorem ER{V:Int->Nat}{z:Int->Nat}:∀{l:List Int},(∀r,r∈l->2*V r<=2 ^ z r/\1<=z r)->l≠[]->2*ix V l<=2 ^ (gV z l)
 | [],_,h=>absurd rfl h
 | [x],h,_=>by simpa[gV,ix]using(h x (.head _)).1
 | x::y::l,h,_=>by
  have h1:=h x (.head _);have ih:=ER (l:=y::l) (λr hr=>h r (.tail _ hr)) aaa;have e1:ix V (x::y::l)=V x*ix V (y::l):=rfl;have e2:gV z (x::y::l)=z x+gV z (y::l):=rfl;rw[e1,e2,Nat.pow_add];have:2*(V x*ix V (y::l))<=(2*V x)*(2*ix V (y::l)):=by
   rw[FD,Nat.mul_left_comm (V x) 2];have:=bB (V x*ix V (y::l));omega
  exact bf this (Nat.mul_le_mul h1.1 ih)
theorem Yh{z:Int->Nat}{en:Int->Int}:∀{l:List Int} {lo hi:Int},l.Pairwise (λa b=>en a<=b)->(∀r,r∈l->lo<=r/\en r<=hi/\(z r:Int)=en r-r)->lo<=hi->(gV z l:Int)<=hi-lo
 | [],lo,hi,_,_,h=>by rw[gV];omega
 | x::l,lo,hi,hp,hm,h=>by
  rw[dM]at hp;have hx:=hm x (.head _);have:=Yh (l:=l) (lo:=en x) (hi:=hi) hp.2 (λr hr=>⟨hp.1 r hr,(hm r (.tail _ hr)).2⟩) hx.2.1;rw[gV];omega
theorem Sd.MN(hF:Sd xs){n:Nat}{s:cR}(hs:xs[n]? =some s):(gV (nu xs) (cV xs n):Int)<=s.en-n-1:=by
 have hu:=hF.fo.up n s hs;have:=Yh (z:=nu xs) (en:=EC xs) (l:=cV xs n) (lo:=n+1) (hi:=s.en) (hF.rq n (nW xs n) λr hr=>hr) (λr hr=>by
  obtain⟨q,t,rfl,h2,_,_,h5,h6⟩:=hF.C4 hr;have h7:=hF.fo.up q t h2;have h8:=hF.fo.Yk q hs h2 h5 (h6 s hs);unfold nu;rw[mf h2];exact⟨aG,h8,aG⟩) aG
 omega
theorem Sd.MO(hF:Sd xs):∀(f n:Nat) {s:cR},xs[n]? =some s->1<=wy xs f n/\2*wy xs f n<=2 ^ nu xs n
 | 0,n,s,hs=>by
  have hu:=hF.fo.up n s hs;have:1<=nu xs n:=by unfold nu;rw[mf hs];omega
  rw[wy];exact⟨ba _,rm this⟩
 | f+1,n,s,hs=>by
  have hu:=hF.fo.up n s hs;have hz:1<=nu xs n:=by unfold nu;rw[mf hs];omega
  rw[wy];split
  ·exact⟨ba _,rm hz⟩
  rename_i fX;have W7:cV xs n≠[]:=λe=>fX (by rw[e];rfl);have key:∀r,r∈cV xs n->2*wy xs f r.toNat<=2 ^ nu xs r/\1<=nu xs r:=λr hr=>by
   obtain⟨q,t,rfl,h2,_⟩:=hF.C4 hr;have h7:=hF.fo.up q t h2;rw[aV];exact⟨(hF.MO f q h2).2,by unfold nu;rw[mf h2];omega⟩
  have pos:∀r,r∈cV xs n->0<wy xs f r.toNat:=λr hr=>by
   obtain⟨q,t,rfl,h2,_⟩:=hF.C4 hr;rw[aV];exact(hF.MO f q h2).1
  have kB:2 ^ gV (nu xs) (cV xs n)<=2 ^ nu xs n:=lD aN (by
   have:=hF.MN hs;unfold nu at*
   rw[mf hs];omega)
  split
  ·exact⟨Bk pos,bf (ER key W7) kB⟩
  refine⟨?_,bf (EP key W7) kB⟩;cases hr:cV xs n with
  | nil=>exact absurd hr W7
  | cons x l=>
   have:=pos x (by rw[hr];exact .head _);rw[gV];omega
theorem Sd.S9(hF:Sd xs){n:Nat}{s:cR}(hs:xs[n]? =some s):1<=W xs n:=by
 unfold W;rw[aV];exact(hF.MO _ n hs).1
theorem Sd.Yq(hF:Sd xs){n:Nat}{s:cR}(hs:xs[n]? =some s):gV (W xs) (cV xs n)<=4611686018427387904/\ix (W xs) (cV xs n)<=4611686018427387904:=by
 have key:∀r,r∈cV xs n->2*W xs r<=2 ^ nu xs r/\1<=nu xs r:=λr hr=>by
  obtain⟨q,t,rfl,h2,_⟩:=hF.C4 hr;have h7:=hF.fo.up q t h2;unfold W;rw[aV];exact⟨(hF.MO _ q h2).2,by unfold nu;rw[mf h2];omega⟩
 have kB:2 ^ gV (nu xs) (cV xs n)<=2 ^ 63:=lD aN (by
  have:=hF.MN hs;have hu:=hF.fo.up n s hs;have:=hF.le;omega)
 by_cases hr:cV xs n=[]
 ·rw[hr];exact⟨bB _,by rw[ix];decide⟩
 have h1:=EP key hr;have h2:=ER key hr;have e63:2 ^ 63=9223372036854775808:=aN
 rw[e63]at kB;omega
theorem Sd.abb(hF:Sd xs){n:Nat}{s:cR}(hs:xs[n]? =some s):W xs n<=4611686018427387904:=by
 rw[hF.aba n];have:=hF.Yq hs;split
 ·decide
 split
 ·exact this.2
 exact this.1
theorem Sd.Ta(hF:Sd xs){n:Nat}{r:Int}(hr:r∈cV xs n):0<W xs r:=by
 obtain⟨q,t,rfl,h2,_⟩:=hF.C4 hr;exact hF.S9 h2
def pick(V:Int->Nat):List Int->Nat->Option (Int×Nat)
 | [],_=>none
 | r::l,k=>if k<V r then some (r,k)else pick V l (k-V r)
def jB(V:Int->Nat):List Int->Nat->List Nat×Nat
 | [],k=>([],k)
 | r::l,k=>((jB V l k).2 % V r::(jB V l k).1,(jB V l k).2/V r)
def jk(xs:List cR):Nat->Nat->Nat->List Int
 | 0,n,_=>[(n:Int)]
 | f+1,n,k=>(n:Int)::if kd xs n=1 then(match pick (W xs) (cV xs n) k with
  | some (r,k')=>jk xs f r.toNat k'
  | none=>[])else((cV xs n).zip (jB (W xs) (cV xs n) k).1).flatMap λp=>jk xs f p.1.toNat p.2
def Pb(xs:List cR)(act:List Int)(par:Bool)(rec:Int->Nat):List Int->Nat->Nat
 | [],k=>k
 | r::l,k=>if par then Pb xs act par rec l (k*W xs r+rec r)else if r∈act then k+rec r else Pb xs act par rec l (k+W xs r)
def Yi(xs:List cR)(act:List Int):Nat->Nat->Nat
 | 0,_=>0
 | f+1,n=>Pb xs act (kd xs n==2) (λr=>Yi xs act f r.toNat) (cV xs n) 0
theorem wl{V:Int->Nat}:∀{l:List Int} {k:Nat} {r:Int} {k':Nat},pick V l k=some (r,k')->r∈l/\k'<V r
 | [],_,_,_,h=>aaH
 | x::l,k,r,k',h=>by
  rw[pick]at h;split at h
  ·injection h with h;injection h with h1 h2;subst h1 h2;exact⟨.head _,by assumption⟩
  obtain⟨h1,h2⟩:=wl h;exact⟨.tail _ h1,h2⟩
theorem ES(hF:Sd xs):∀(f n k:Nat) {s:cR},xs[n]? =some s->(jk xs f n k).Pairwise (· <·)/\∀x,x∈jk xs f n k->(n:Int)<=x/\x<s.en
 | 0,n,k,s,hs=>by
  have:=hF.fo.up n s hs;rw[jk];exact⟨aaa,λx hx=>by rw[aO]at hx;omega⟩
 | f+1,n,k,s,hs=>by
  have hu:=hF.fo.up n s hs;rw[jk];have key:∀(r:Int) (d:Nat),r∈cV xs n->(jk xs f r.toNat d).Pairwise (· <·)/\(∀x,x∈jk xs f r.toNat d->r<=x/\x<EC xs r)/\(n:Int)<r/\EC xs r<=s.en:=λr d hr=>by
   obtain⟨q,t,rfl,h2,_,_,h5,h6⟩:=hF.C4 hr;rw[aV,mf h2];obtain⟨h7,h8⟩:=ES hF f q d h2;exact⟨h7,h8,aG,hF.fo.Yk q hs h2 h5 (h6 s hs)⟩
  have fin:∀(L:List Int),L.Pairwise (· <·)->(∀x,x∈L->(n:Int)<x/\x<s.en)->((n:Int)::L).Pairwise (· <·)/\∀x,x∈(n:Int)::L->(n:Int)<=x/\x<s.en:=λL h1 h2=>⟨dM.2 ⟨λx hx=>(h2 x hx).1,h1⟩,λx hx=>by
   rw[aR]at hx;rcases hx with rfl | hx
   ·omega
   ·have:=h2 x hx;omega⟩
  split
  ·cases hp:pick (W xs) (cV xs n) k with
   | none=>exact fin [] aaa aaa
   | some p=>
    obtain⟨r,k'⟩:=p;obtain⟨h1,h2,h3,h4⟩:=key r k' (wl hp).1;exact fin _ h1 λx hx=>by have:=h2 x hx;omega
  ·have hz:((cV xs n).zip (jB (W xs) (cV xs n) k).1).Pairwise λa b=>EC xs a.1<=b.1:=by
    have h1:=hF.rq n (nW xs n) λr hr=>hr;have:(((cV xs n).zip (jB (W xs) (cV xs n) k).1).map Prod.fst).Pairwise λa b=>EC xs a<=b:=by
     have OP:((cV xs n).zip (jB (W xs) (cV xs n) k).1).map Prod.fst=(cV xs n).take ((jB (W xs) (cV xs n) k).1.length):=by
      generalize (jB (W xs) (cV xs n) k).1=ds;generalize cV xs n=rs
      induction rs generalizing ds with
      | nil=>simp
      | cons r rs ih=>
       cases ds with
       | nil=>simp
       | cons d ds=>simp[ih]
     rw[OP];exact h1.sublist (List.take_sublist _ _)
    rwa[oS]at this
   refine fin _ (xr (f:=λp:Int×Nat=>jk xs f p.1.toNat p.2) (lo:=λp=>p.1) (hi:=λp=>EC xs p.1) hz λp hp=>?_) λx hx=>?_
   ·have:=key p.1 p.2 (T6 hp).1;exact⟨this.1,this.2.1⟩
   ·obtain⟨p,hp,hx⟩:=dr.1 hx;obtain⟨_,h2,h3,h4⟩:=key p.1 p.2 (T6 hp).1;have:=h2 x hx;omega
theorem Wa(hF:Sd xs)(f n k:Nat){s:cR}(hs:xs[n]? =some s):(jk xs f n k).length<=64:=by
 obtain⟨h1,h2⟩:=ES hF f n k hs;have hu:=hF.fo.up n s hs;have kB:=hF.le;have:=A8 h1 h2 aG;omega
end
section
variable {w:ay} {F G:aL} {l sa:Sl} {xs:List cR} {act:List Int}
theorem Og{u:ay}(h:aD nP 5 w F l xs)(hO:aA [] w u):aD nP 5 u F l xs:=SliceF.only dh aN h hO aaa
end
theorem mkI(w:ay){n:Nat}(hn:n<=1000000):∃(s:Sl) (w':ay),(Instr.makeSlice 33 (O ae (n:Int)) (O ae (n:Int))).run au w=.ok s.v w'/\dA w.heap.size w' s (List.replicate n 0)/\aA [] w w':=by
 obtain⟨w',h1,h2,h3⟩:=run_makeSlice_full (P:=au) (w:=w) w.heap.size 33 3 Tryz.t3 (O ae 0) 1 (by kernel_rfl) (by kernel_rfl) rfl rfl ae ae n aG (by show 8*n<=_;omega) (by show n<=9223372036854775807;omega) (ba _);have e:(madeCells (Value.int ae 0).cells (n*1)).toList=(List.replicate n (0:Int)).map (Value.int ae):=by
  rw[ka,List.map_replicate];exact toList_madeCells_one _ _
 rw[e]at h2;have h2':w'.ownsRow w.heap.size 3 1 (.slice (some ⟨w.heap.size,0,none⟩) n n) (List.replicate n (0:Int)).length ((List.replicate n (0:Int)).map (Value.int ae)):=by rw[gK];exact h2
 obtain⟨s,u7,hs2⟩:=dA.ofRow h2' λx hx=>by rw[(List.mem_replicate.1 hx).2];exact⟨aN,aN⟩
 exact⟨s,w',by rw[<-u7];exact h1,hs2,by have:=Only.SQ h3;simpa using this⟩
def wsL(xs:List cR):List Int:=(List.range xs.length).map λn:Nat=>(W xs (n:Int):Int)
theorem ET{xs:List cR}{n:Nat}(h:n<xs.length):(wsL xs)[n]? =some (W xs n:Int):=by
 unfold wsL;rw[bW,List.getElem?_range h];rfl
section
variable {w:ay} {F G:aL} {l ws sa:Sl} {xs:List cR} {cz act:List Int} {k0 n:Nat} {x:cR}
theorem Wb(hB:aH w k0 81 [l.v,ws.v])(h:aD nP 5 w F l xs)(hF:Sd xs)(hws:aD rInt 1 w G ws cz)(hv:∀q:Nat,(q:Int)∈cV xs n->cz[q]? =some (W xs q:Int))(hx:xs[n]? =some x):
  aB au 67 #[ai (some ⟨k0,0,none⟩),O ae (n:Int)] w λe w'=>e=aq (O ae (W xs n:Int))/\aA [] w w':=by
 refine ret (amc _ _ _ _ ?_);have kB:=hF.le;refine⟨l,Blk.eE hB 0 rfl,(tS h hF hx).mono ?_⟩;rintro _ w0 ⟨⟨s1,rfl,wJ⟩,cJ⟩;have hl1:=wJ.len;have PE:=wc xs n;have T1:=hF.aba n;have JX:=hF.Yq hx;have Ih:∀{r:Int},r∈cV xs n->_:=fun{r} h=>hF.C4 (n:=n) (r:=r) h;have ue:∀r,r∈cV xs n->0<W xs r:=λr hr=>hF.Ta hr;rw[ki hx]at T1;have nS:∀t,gV (W xs) ((cV xs n).take t)<=gV (W xs) (cV xs n):=λt=>CY _ _ t;have hpt:∀t,ix (W xs) ((cV xs n).take t)<=ix (W xs) (cV xs n):=λt=>CZ t ue;generalize cV xs n=rs at*
 refine⟨s1,rfl,λhc=>⟨?_,cJ⟩,λhc=>?_⟩
 ·have hc:(s1.n:Int)=0:=aaw
  rw[T1,aZ aG];rfl
 have hc:(s1.n:Int)≠0:=aaw
 rw[aX aG]at T1;refine⟨λkv su pr i u=>∃t:Nat,i=(t:Int)/\kv+t=rs.length/\t<=rs.length/\su=(gV (W xs) (rs.take t):Int)/\pr=(ix (W xs) (rs.take t):Int)/\aA [] w0 u,rs.length,⟨0,rfl,aG,bB _,by simp[gV],by simp[ix],Only.refl _ _⟩,?_⟩;rintro kv _ _ _ u ⟨t,rfl,tX,ht,rfl,rfl,hO⟩;have o:=cJ.cy hO;have PG:=o.blk hB aaa;refine⟨λtu=>?_,λtu=>?_⟩
 ·have tu:=aP tu;have tT:t<rs.length:=aG
  obtain⟨ad,a1,a2⟩:=iu (tf wJ hO).sl (aQ tT);have mZ:=eF tT;obtain⟨q,y,hq,hy,_⟩:=Ih mZ;have hvq:=hv q (by rw[<-hq];exact mZ);obtain⟨tV,b1,b2⟩:=iu (kI hws o) hvq;have c1:aE u (Addr.add ⟨k0,0,none⟩ 1) [ws.v]:=Blk.eE PG 1 rfl;have nI:rs.take (t+1)=rs.take t++[rs[t]]:=by rw[bF,aQ tT];rfl
  have h1:=nS (t+1);have h2:=hpt (t+1);rw[nI,xA,hq]at h1;rw[nI,xB,hq]at h2;refine⟨ad,a1,_,a2,ws,c1,tV,by rw[hq];exact b1,_,b2,ws,c1,tV,by rw[hq];exact b1,_,b2,λw2 dw=>⟨kv-1,aG,t+1,aaq,aG,aG,?_,?_,hO.cy dw⟩⟩
  ·rw[nI,xA,hq,gF aG aG];omega
  have e:(ix (W xs) (rs.take t):Int)*(W xs (q:Int):Int)=((ix (W xs) (rs.take t)*W xs (q:Int):Nat):Int):=by rw[Int.natCast_mul]
  rw[nI,xB,hq,e,gF aG aG]
 have tu:=aY tu;have:t=rs.length:=aG
 subst this;obtain⟨ad,a1,a2,_⟩:=j5 (Og h o) hx;rw[bq (ba _)];refine⟨l,Blk.eE PG 0 rfl,ad,a1,x.k,a2.eE 0 _ rfl,λhk=>⟨?_,o⟩,λhk=>⟨?_,o⟩⟩
 ·rw[T1,aZ aa2]
 rw[T1,aX aa2]
structure CtB (w:ay) (k0:Nat) (l ws:Sl) (xs:List cR) (F G:aL):Prop where
 blk:aH w k0 81 [l.v,ws.v]
 sp:aD nP 5 w F l xs
 ws:aD rInt 1 w G ws (wsL xs)
theorem CtB.only{u:ay}(h:CtB w k0 l ws xs F G)(hO:aA [] w u):CtB u k0 l ws xs F G:=⟨hO.blk h.blk aaa,Og h.sp hO,kI h.ws hO⟩
theorem CtB.mono{F' G':aL}(h:CtB w k0 l ws xs F G)(hF:∀k,F k->F' k)(hG:∀k,G k->G' k):CtB w k0 l ws xs F' G':=⟨h.blk,SliceF.mono dh h.sp hF,SliceF.mono bN h.ws hG⟩
theorem C0(h:aD nP 5 w F l xs)(hF:Sd xs):aB au 26 #[l.v] w λe w'=>(∃(k0:Nat) (ws:Sl),e=aq (ai (some ⟨k0,0,none⟩))/\w.heap.size<=k0/\k0<w'.heap.size/\CtB w' k0 l ws xs (λk=>F k/\k<w.heap.size) (λk=>w.heap.size<=k))/\aA [] w w':=by
 refine(alT l (λv w'=>(∃(k0:Nat) (ws:Sl),v=ai (some ⟨k0,0,none⟩)/\w.heap.size<=k0/\k0<w'.heap.size/\CtB w' k0 l ws xs (λk=>F k/\k<w.heap.size) (λk=>w.heap.size<=k))/\aA [] w w') w ?_).mono (by rintro _ w' ⟨v,rfl,⟨s,t,rfl,h⟩,h'⟩;exact⟨⟨s,t,rfl,h⟩,h'⟩);have kB:=hF.le;have hl:=h.len;obtain⟨ws,w0,m1,m2,m3⟩:=mkI w (n:=l.n) aG;have z0:=m3.size;refine⟨ws,w0,m1,λk0 w1 hY fA cJ=>?_⟩;have o1:=m3.cy cJ;have z1:=cJ.size;have h1:aD nP 5 w1 (λk=>F k/\k<w.heap.size) l xs:=Og (SliceF.inHeap dh h aN) o1;have ue:=hF.fo.ne;have hwa:∀{g:Nat},ws.a=some ⟨g,0,none⟩->w.heap.size<=g/\g<w0.heap.size:=λe=>m2.blk e;refine⟨λkv i l1 l2 u=>∃(m:Nat) (cz:List Int),i=(m:Int)-1/\kv=m/\m<=xs.length/\l=l1/\ws=l2/\dA w.heap.size u ws cz/\cz.length=xs.length/\(∀q:Nat,m<=q->q<xs.length->cz[q]? =some (W xs q:Int))/\aD nP 5 u (λk=>F k/\k<w.heap.size) l xs/\aA [] w u/\w1.heap.size<=u.heap.size,xs.length,⟨xs.length,List.replicate l.n 0,by rw[gF aG aG];omega,rfl,ba _,rfl,rfl,tf m2 cJ,by rw[gK];exact hl,λq h1 h2=>aG,h1,o1,ba _⟩,?_⟩;rintro kv _ _ _ u ⟨m,cz,rfl,tX,hm,rfl,rfl,hS,hvl,yu,wI,hO,hz⟩;refine⟨λhc w3 dE=>?_,λhc hB=>⟨⟨k0,ws,rfl,aG,aG,hB,wI,?_⟩,hO⟩⟩
 ·have hc:=aP hc;obtain⟨m,rfl⟩:∃m',m=m'+1:=⟨m-1,aG⟩
  have em:((m+1:Nat):Int)-1=(m:Int):=aG
  rw[em];obtain⟨x,hx⟩:=fQ (xs:=xs) (i:=m) aG;have Fi:=tf hS dE;refine⟨λk=>k=k0,rfl,λhB=>(Wb hB (Og wI dE) hF Fi.sl (λq hq=>?_) hx).mono ?_⟩
  ·obtain⟨q',t,e,h2,_,_,h5,_⟩:=hF.C4 hq;have:q'=q:=aG
   subst this;exact yu q' aG (eT h2)
  rintro _ w4 ⟨rfl,dL⟩;have z3:=dE.size;have z4:=dL.size;have M8:=tf Fi dL;have aqr:=hF.abb hx;obtain⟨g,cells,p1,p2,p3,p4,p5⟩:=Own.store (x:=(W xs m:Int)) (n:=m) (vs:=[O ae (W xs m:Int)]) (G:=λ_=>False) bN M8 aG rfl ⟨rfl,aG,aG⟩ (λk hk _=>hk.elim) aN;have hgw:=hwa p1;refine⟨_,rfl,l,ws,dL.blk hB aaa,bP.only dL,_,p2,g,m*1,cells,_,rfl,p3,p4,aG,λw5 eK xL=>⟨m,aG,m,cz.set m (W xs m:Int),by rw[gF aG aG],rfl,aG,rfl,rfl,p5 w5 eK xL,by rw[iq];exact hvl,λq h1 h2=>?_,SliceF.only dh aN (Og (Og wI dE) dL) eK λk hk _ yw=>by simp only[aO]at yw;omega,?_,?_⟩⟩
  ·by_cases hqm:q=m
   ·subst hqm;rw[oL aG]
   rw[B4 (λe=>hqm e.symm)];exact yu q aG h2
  ·exact(((hO.cy dE).cy dL).oH (eK.p (F:=λk=>w.heap.size<=k) λk hk=>by simp only[aO]at hk;exact .inl aG)).only λk hk=>hk
  have:=eK.size;omega
 have hc:=aY hc;have MS:m=0:=aG
 subst MS;have e:cz=wsL xs:=gf λq=>by
  by_cases hq:q<xs.length
  ·rw[yu q (bB _) hq,ET hq]
  rw[cF aG,cF (by unfold wsL;rw[bA,fH];omega)]
 rw[e]at hS;exact hS.sl
theorem Wc(h:aD nP 5 w F l xs)(hF:Sd xs):aB au 8 #[l.v] w λe w'=>e=aq (O ae (W xs 0:Int))/\aA [] w w':=by
 refine ret (alI _ _ _ ?_);have hl:=h.len;have ue:=hF.fo.ne;refine⟨λhc=>absurd (show(l.n:Int)=0 by simpa using hc) aG,λ_=>(C0 h hF).mono ?_⟩;rintro _ w1 ⟨⟨k0,ws,rfl,_,_,hC⟩,hO⟩;obtain⟨ad,a1,a2⟩:=iu hC.ws (ET ue);exact⟨_,rfl,⟨k0,0,none⟩,rfl,ws,Blk.eE hC.blk 1 rfl,ad,a1,_,a2,rfl,hO⟩
end
def Gr(s:Sl)(w:ay)(s':Sl)(w':ay):Prop:=aF (λk=>s.a=some ⟨k,0,none⟩) w w'/\∀k,s'.a=some ⟨k,0,none⟩->s.a=some ⟨k,0,none⟩∨w.heap.size<=k
theorem Gr.trans{s s' s'':Sl}{w w' tt:ay}(h:Gr s w s' w')(k:Gr s' w' s'' tt):Gr s w s'' tt:=by
 have z:=h.1.size;refine⟨h.1.trans k.1 λx hx=>?_,λx hx=>?_⟩
 ·rcases h.2 x hx with e | e
  ·exact .inl e
  exact .inr e
 rcases k.2 x hx with e | e
 ·exact h.2 x e
 exact .inr aG
theorem Gr.only{s:Sl}{w w':ay}(h:aA [] w w'):Gr s w s w':=⟨h.p0,λ_ h=>.inl h⟩
theorem Bl(V:Int->Nat):∀(l:List Int) (k:Nat),(jB V l k).1.length=l.length
 | [],k=>rfl
 | r::l,k=>by rw[jB,bp,bp,Bl V l k]
theorem MB(V:Int->Nat):∀(l:List Int) (k:Nat),(jB V l k).2<=k
 | [],k=>ba _
 | r::l,k=>by rw[jB];exact bf (Nat.div_le_self _ _) (MB V l k)
theorem EU{V:Int->Nat}:∀{l:List Int} {k j:Nat} {r:Int} {d:Nat},(∀r,r∈l->0<V r)->l[j]? =some r->(jB V l k).1[j]? =some d->d<V r
 | [],_,_,_,_,_,h,_=>aaH
 | x::l,k,0,r,d,hp,h,g=>by
  rw[jB]at g;rw[cO,bc]at h g;subst h g;exact Nat.mod_lt _ (hp _ (.head _))
 | x::l,k,j+1,r,d,hp,h,g=>by
  rw[jB]at g;rw[dl]at h g;exact EU (λr hr=>hp r (.tail _ hr)) h g
theorem amL(w0:ay){u:ay}{s:Sl}{is:List Int}(h:dA w0.heap.size u s is)(hO:aA [] w0 u)(n:Int)(hn:InI n)(hm:is.length<=2000000):
  ∃y w1,(aw 33 1 #[.mk 0 (O ae n)]).run au u=.ok (Sl.v y) w1/\∃s' w2,(Builtin.append_ #[33,33] 33 #[Sl.v s,Sl.v y]).run au w1=.ok (Sl.v s') w2/\dA w0.heap.size w2 s' (is++[n])/\aA [] w0 w2/\Gr s u s' w2:=by
 obtain⟨y,w1,k1,k3,s',w2,g1,g2,⟨gs,g3,g4⟩,g5⟩:=jr (P:=au) (t:=33) (ty:=33) (e:=3) (i:=Tryz.t3) (bytes:=8) (size:=1) (r:=rInt) (G:=λ_=>False) (v:=O ae n) (x:=n) (by kernel_rfl) (by kernel_rfl) rfl rfl rfl rfl aN aN aN bN h hO.size rfl ⟨rfl,hn⟩ (λ_ h=>h.elim) aG;refine⟨y,w1,k1,s',w2,g1,dA.of g2,((hO.cy k3).oH (g3.p (F:=λk=>w0.heap.size<=k) λg hg=>.inl (g4 g hg).2.1)).only λk hk=>hk,k3.oH (g3.p λg hg=>.inl (g4 g hg).1),λk hk=>?_⟩;rcases g5 with e | ⟨g,e,h⟩
 ·exact .inl ab1
 rw[e]at hk;injection hk with hk;injection hk with hk;exact .inr aG
section
variable {w0:ay} {F G:aL} {l ws:Sl} {xs:List cR} {k0:Nat}
theorem CtB.nH{w u:ay}{S:aL}(h:CtB w k0 l ws xs F G)(hO:aF S w u)(h0:¬S k0)(hF:∀k,F k->¬S k)(hG:∀k,G k->¬S k):CtB u k0 l ws xs F G:=
 ⟨hO.blk h.blk h0,SliceF.nH dh aN h.sp hO λk hk _=>hF k hk,SliceF.nH bN aN h.ws hO λk hk _=>hG k hk⟩
theorem Js(hF:Sd xs)(hC:CtB w0 k0 l ws xs F G)(hFw:∀k,F k->k<w0.heap.size)(hGw:∀k,G k->k<w0.heap.size):∀(f n k:Nat) {w:ay} {x:cR} {out:Sl} {L:List Int},xs[n]? =some x->xs.length<=n+f->k<W xs n->dA w0.heap.size w out L->aA [] w0 w->L.length+(jk xs f n k).length<=1000000->
  aB au 30 #[ai (some ⟨k0,0,none⟩),out.v,O ae (n:Int),O ae (k:Int)] w λe w'=>∃s:Sl,e=aq s.v/\dA w0.heap.size w' s (L++jk xs f n k)/\Gr out w s w'
 | 0,n,k,w,x,out,L,hx,hf,_,_,_,_=>by
  have:=eT hx;omega
 | f+1,n,k,w,x,out,L,hx,hf,hk,hL,hO,hm=>by
  have kB:=hF.le;have YY:=eT hx;refine(alU ⟨k0,0,none⟩ out n k (λv w'=>∃s:Sl,v=s.v/\dA w0.heap.size w' s (L++jk xs (f+1) n k)/\Gr out w s w') w ?_).mono (by rintro _ w' ⟨v,rfl,s,rfl,h⟩;exact⟨s,rfl,h⟩);have aqr:=hF.abb hx;have e0:jk xs (f+1) n k=(n:Int)::if kd xs n=1 then(match pick (W xs) (cV xs n) k with
   | some (r,k')=>jk xs f r.toNat k'
   | none=>[])else((cV xs n).zip (jB (W xs) (cV xs n) k).1).flatMap λp=>jk xs f p.1.toNat p.2:=rfl
  rw[e0,ki hx]at hm⊢;have axB:=hC.blk.lt;obtain⟨y1,w1,k1,s1,w2,g1,g2,g3,g4⟩:=amL w0 hL hO n ⟨aG,aG⟩ aG;have hC2:=hC.only g3;refine⟨y1,w1,k1,s1,w2,g1,l,Blk.eE hC2.blk 0 rfl,(tS hC2.sp hF hx).mono ?_⟩;rintro _ w3 ⟨⟨s3,rfl,Fi⟩,dE⟩;have o3:=g3.cy dE;have hC3:=hC.only o3;have cJ:dA w0.heap.size w3 s1 (L++[(n:Int)]):=tf g2 dE;have u7:∀{g:Nat},s1.a=some ⟨g,0,none⟩->w0.heap.size<=g/\g<w2.heap.size:=λe=>g2.blk e;have hs3:∀{g:Nat},s3.a=some ⟨g,0,none⟩->w2.heap.size<=g/\g<w3.heap.size:=λe=>Fi.blk e;have g4':Gr out w s1 w3:=g4.trans (Gr.only dE);obtain⟨ad,a1,a2,_⟩:=j5 hC3.sp hx;have hl3:=Fi.len;have PE:=wc xs n;have Ih:∀{r:Int},r∈cV xs n->_:=fun{r} h=>hF.C4 (n:=n) (r:=r) h;have ue:∀r,r∈cV xs n->0<W xs r:=λr hr=>hF.Ta hr;have aqv:∀r,r∈cV xs n->W xs r<=4611686018427387904:=λr hr=>by
   obtain⟨q,t,rfl,h2,_⟩:=Ih hr;exact hF.abb h2
  generalize cV xs n=rs at*
  have rat:∀{u:ay} {t:Nat} {r:Int},rs[t]? =some r->aF (λk=>s1.a=some ⟨k,0,none⟩) w3 u->∃(q:Nat) (y:cR) (ad tV:Addr),r=q/\xs[q]? =some y/\n<q/\dI s3 (t:Int) 1 ad/\aE u ad [O ae r]/\aE u (Addr.add ⟨k0,0,none⟩ 1) [ws.v]/\dI ws r 1 tV/\aE u tV [O ae (W xs r:Int)]:=fun{u t r} ht hu=>by
   obtain⟨q,y,rfl,hy,_,_,hnq,_⟩:=Ih (bD ht);have hSu:dA w2.heap.size u s3 rs:=Fi.keep bN λk hk cd=>hu.block k cd λhh=>by
    have h1:=u7 hh;rcases hk with hk | hk
    ·exact hk.elim
    omega
   obtain⟨ad,b1,b2⟩:=iu hSu.sl ht;have hCu:=hC3.nH hu (λhh=>by have:=u7 hh;omega) (λk hk hh=>by have:=u7 hh;have:=hFw k hk;omega) (λk hk hh=>by have:=u7 hh;have:=hGw k hk;omega);obtain⟨tV,c1,c2⟩:=iu hCu.ws (ET (eT hy));exact⟨q,y,ad,tV,rfl,hy,hnq,b1,b2,Blk.eE hCu.blk 1 rfl,c1,c2⟩
  refine⟨s3,rfl,l,Blk.eE hC3.blk 0 rfl,ad,a1,x.k,a2.eE 0 _ rfl,λj9=>?_,λj9=>?_⟩
  ·have j9:x.k=1:=by simpa using j9
   rw[aZ j9]at hm⊢;refine⟨λkv i1 i u=>∃t k':Nat,i=(t:Int)/\i1=(k':Int)/\kv+t=rs.length/\t<=rs.length/\k'<=k/\pick (W xs) rs k=pick (W xs) (rs.drop t) k'/\w3=u,rs.length,⟨0,k,rfl,rfl,aG,bB _,ba _,by rw[fi],rfl⟩,?_⟩;rintro kv _ _ _ ⟨t,k',rfl,rfl,tX,ht,M5,Wy,rfl⟩;refine⟨λhc=>?_,λhc=>?_⟩
   ·have hc:=aP hc;have tT:t<rs.length:=aG
    have Zb:=aQ tT;obtain⟨q,y,ad,tV,hq,hy,hnq,b1,b2,b3,b4,b5⟩:=rat Zb (OnlyP.refl _ _);have hpd:pick (W xs) (rs.drop t) k'=if k'<W xs rs[t]then some (rs[t],k')else pick (W xs) (rs.drop (t+1)) (k'-W xs rs[t]):=by
     rw[gC tT,pick]
    have axD:=aqv _ (eF tT);rw[hpd]at Wy;refine⟨ad,b1,_,b2,ws,b3,tV,b4,_,b5,λcd=>?_,λcd=>⟨ws,b3,tV,b4,_,b5,kv-1,aG,t+1,k'-W xs rs[t],aaq,?_,aG,aG,aG,?_,rfl⟩⟩
    ·have cd:=aP cd;have ac0:k'<W xs rs[t]:=aG
     rw[aZ ac0]at Wy;rw[Wy]at hm⊢;dsimp only at hm⊢;rw[hq,aV]at hm⊢;rw[hq]at ac0;rw[bp]at hm;refine(Js hF hC hFw hGw f q k' hy aG ac0 cJ o3 abo).mono ?_;rintro _ w4 ⟨s4,rfl,h4,o4⟩;exact⟨s4,rfl,s4,rfl,by rw[bR]at h4;exact h4,g4'.trans o4⟩
    ·have cd:=aY cd;rw[gF aG aG];omega
    have cd:=aY cd;rw[aX aG]at Wy;exact Wy
   have hc:=aY hc;rw[oJ aG,pick]at Wy;rw[Wy];exact⟨s1,rfl,cJ,g4'⟩
  have j9:x.k≠1:=by simpa using j9
  rw[aX j9]at hm⊢;obtain⟨es,w5,m1,m2,m3⟩:=mkI w3 (n:=s3.n) aG;have o5:=o3.cy m3;have z5:=m3.size;have hea:∀{g:Nat},es.a=some ⟨g,0,none⟩->w3.heap.size<=g/\g<w5.heap.size:=λe=>m2.blk e;refine⟨es,w5,m1,λkv i6 i u=>∃(m k':Nat) (ds:List Int),i=(m:Int)-1/\i6=(k':Int)/\kv=m/\m<=rs.length/\k'=(jB (W xs) (rs.drop m) k).2/\dA w3.heap.size u es ds/\ds.length=rs.length/\ds.drop m=(jB (W xs) (rs.drop m) k).1.map (λd:Nat=>(d:Int))/\aA [] w3 u/\w5.heap.size<=u.heap.size,rs.length,⟨rs.length,k,List.replicate s3.n 0,by rw[gF aG aG];omega,rfl,rfl,ba _,by rw[List.drop_length];rfl,m2,by rw[gK];exact hl3,by rw[List.drop_length,oJ (by rw[gK];omega)];rfl,m3,ba _⟩,?_⟩;rintro kv _ _ u ⟨m,k',ds,rfl,rfl,tX,Dc,iy,hD,yL,Ul,Xa,hz⟩;refine⟨λhc w7 fL=>?_,λhc=>?_⟩
  ·have hc:=aP hc;obtain⟨m,rfl⟩:∃m',m=m'+1:=⟨m-1,aG⟩
   have em:((m+1:Nat):Int)-1=(m:Int):=aG
   rw[em];have Zb:=aQ (show m<rs.length by omega);have o7:=Xa.cy fL;obtain⟨q,y,ad,tV,hq,hy,hnq,b1,b2,b3,b4,b5⟩:=rat Zb o7.p0;have hD7:=tf hD fL;have z7:=fL.size;have hwp:=ue _ (eF (show m<rs.length by omega));have atw:k'<=k:=by rw[iy];exact MB _ _ _
   have hdg:jB (W xs) (rs.drop m) k=(k' % W xs rs[m]::(jB (W xs) (rs.drop (m+1)) k).1,k'/W xs rs[m]):=by
    rw[gC (show m<rs.length by omega),jB,<-iy]
   have aqx:(k':Int).tmod (W xs rs[m]:Int)=((k' % W xs rs[m]:Nat):Int):=rfl;have hdiv:(k':Int).tdiv (W xs rs[m]:Int)=((k'/W xs rs[m]:Nat):Int):=rfl;have axG:k' % W xs rs[m]<=k':=Nat.mod_le _ _;have aqy:k'/W xs rs[m]<=k':=Nat.div_le_self _ _;obtain⟨g,cells,p1,p2,p3,p4,p5⟩:=Own.store (x:=((k' % W xs rs[m]:Nat):Int)) (n:=m) (vs:=[O ae ((k' % W xs rs[m]:Nat):Int)]) (G:=λ_=>False) bN hD7 aG rfl ⟨rfl,aG,aG⟩ (λk hk _=>hk.elim) aN;have hgw:=hea p1;refine⟨ws,b3,ad,b1,_,b2,tV,b4,_,b5,aG,_,p2,g,m*1,cells,_,rfl,p3,p4,λw8 fV uB=>?_⟩;rw[aqx]at uB;have o8:aA [] w3 w8:=(o7.oH (fV.p (F:=λk=>w3.heap.size<=k) λk hk=>by simp only[aO]at hk;exact .inl aG)).only λk hk=>hk;have z8:=fV.size;obtain⟨q',y',Ot,aqz,_,_,_,c1,c2,c3,c4,c5⟩:=rat Zb o8.p0;refine⟨ws,c3,Ot,c1,_,c2,aqz,c4,_,c5,aG,λw9 gy=>?_⟩;have z9:=gy.size;rw[hdiv];refine⟨m,aG,m,_,ds.set m ((k' % W xs rs[m]:Nat):Int),by rw[gF aG aG],by rw[gF (Int.le_trans aN (bE _)) (Int.le_trans (Int.ofNat_le.2 aqy) aG)],rfl,aG,by rw[hdg],tf (p5 w8 fV uB) gy,by rw[iq];exact yL,?_,o8.cy gy,aG⟩;rw[hdg,bG,<-Ul,gC (show m<(ds.set m ((k' % W xs rs[m]:Nat):Int)).length by rw[iq];omega),List.getElem_set_self,Fp aG]
  have hc:=aY hc;have MS:m=0:=aG
  subst MS;rw[fi,fi]at Ul;have aqA:=Bl (W xs) rs k;let dg:=(jB (W xs) rs k).1
  have hdg:dg=(jB (W xs) rs k).1:=rfl;rw[<-hdg]at hm Ul aqA⊢;have ou:=o3.cy Xa;have hDv:∀{v:ay} {q:Sl},Gr s1 u q v->dA w3.heap.size v es ds:=fun{v q} hg=>hD.keep bN λk hk cd=>hg.1.block k cd λhh=>by
   have h1:=u7 hh;have z3:=dE.size;rcases hk with hk | hk
   ·exact hk.elim
   omega
  have aqB:dA w0.heap.size u s1 (L++[(n:Int)]):=tf cJ Xa;let Z:Nat->List Int:=λt=>((rs.zip dg).take t).flatMap λp=>jk xs f p.1.toNat p.2
  have hZ:∀t r d,rs[t]? =some r->dg[t]? =some d->Z (t+1)=Z t++jk xs f r.toNat d:=λt r d h1 h2=>by
   show((rs.zip dg).take (t+1)).flatMap _=_;rw[bF,gr];congr 1;have:(rs.zip dg)[t]? =some (r,d):=jf.2 ⟨h1,h2⟩;rw[this];simp
  have aqC:∀t,(Z t).length<=(Z rs.length).length:=λt=>by
   show(((rs.zip dg).take t).flatMap _).length<=(((rs.zip dg).take rs.length).flatMap _).length;rw[bq (i:=rs.length) (by rw[List.length_zip];omega)]
   conv=>rhs;rw[<-du t (rs.zip dg)]
   rw[gr,aW];omega
  have aiP:Z rs.length=(rs.zip dg).flatMap λp=>jk xs f p.1.toNat p.2:=by
   show((rs.zip dg).take rs.length).flatMap _=_;rw[bq (i:=rs.length) (by rw[List.length_zip];omega)]
  rw[<-aiP]at hm⊢;rw[bp]at hm;refine⟨λkv q i v=>∃t:Nat,i=(t:Int)/\kv+t=rs.length/\t<=rs.length/\dA w0.heap.size v q (L++(n:Int)::Z t)/\Gr s1 u q v,rs.length,⟨0,rfl,aG,bB _,by simpa[Z]using aqB,Gr.only (Only.refl _ _)⟩,?_⟩;rintro HW q _ v ⟨t,rfl,aio,ht,hq,hGv⟩;have J8:aF (λk=>s1.a=some ⟨k,0,none⟩) w3 v:=Xa.oH hGv.1;have aqD:aA [] w0 v:=(o3.oH (J8.mono (G:=λk=>w0.heap.size<=k) λk _ hk=>(u7 hk).1)).only λk hk=>hk;refine⟨λnZ=>?_,λnZ=>?_⟩
  ·have nZ:=aP nZ;have tT:t<rs.length:=aG
   have Zb:=aQ tT;have htd:=aQ (show t<dg.length by omega);obtain⟨q',y,ad,tV,hq',hy,hnq,b1,b2,_⟩:=rat Zb J8;have hds:ds[t]? =some ((dg[t]' aG:Nat):Int):=(bh (λz:List Int=>z[t]?) Ul).trans (by rw[bW,htd];rfl);obtain⟨ad3,c1,c2⟩:=iu (hDv hGv).sl hds;have aiQ:=EU ue Zb htd;have hz1:=hZ t _ _ Zb htd;have Db:=aqC (t+1);rw[hz1,aW]at Db;refine⟨ad,b1,_,b2,ad3,c1,_,c2,?_⟩;rw[hq']at aiQ hz1⊢;rw[hq']at Db;rw[aV]at hz1 Db;refine(Js hF hC hFw hGw f q' _ hy aG aiQ hq aqD (by simp only[aW,bp];omega)).mono ?_;rintro _ dS ⟨MV,rfl,Ie,o11⟩;refine⟨MV,rfl,HW-1,aG,t+1,aaq,aG,aG,?_,hGv.trans o11⟩;rw[hz1];rw[bR,cp]at Ie;exact Ie
  have nZ:=aY nZ;have:t=rs.length:=aG
  subst this;exact⟨q,rfl,hq,(g4'.trans (Gr.only Xa)).trans hGv⟩
end
structure WkB (b b1 b2 b3:Nat) (l sa:Sl) (xs:List cR) (act:List Int) (F G:aL) (w:ay):Prop where
 lb:aH w b 32 [l.v]
 ab:aH w b1 33 [sa.v]
 fb:aH w b3 84 [.func (.func 27) #[] #[ai (some ⟨b2,0,none⟩),ai (some ⟨b,0,none⟩),ai (some ⟨b1,0,none⟩),ai (some ⟨b3,0,none⟩)]]
 sp:aD nP 5 w F l xs
 ac:aD rInt 1 w G sa act
 nF:∀k,F k->k≠b2
 nG:∀k,G k->k≠b2
 n0:b≠b2
 n1:b1≠b2
 n3:b3≠b2
section
variable {b b1 b2 b3:Nat} {F G:aL} {l sa:Sl} {xs:List cR} {act:List Int}
theorem WkB.only{w w'}(h:WkB b b1 b2 b3 l sa xs act F G w)(hO:aA [b2] w w'):WkB b b1 b2 b3 l sa xs act F G w':=
 ⟨hO.blk h.lb (by simpa using h.n0),hO.blk h.ab (by simpa using h.n1),hO.blk h.fb (by simpa using h.n3),SliceF.only dh aN h.sp hO λk hk _ hm=>h.nF k hk abu,SliceF.only bN aN h.ac hO λk hk _ hm=>h.nG k hk abu,h.nF,h.nG,h.n0,h.n1,h.n3⟩
theorem SJ(hF:Sd xs)(hr:act.Pairwise (· <·))(fX:act≠[])(hm:act.length<=1000000000):∀(f n:Nat) {w:ay} {x:cR} {left:Int},xs[n]? =some x->xs.length<=n+f->WkB b b1 b2 b3 l sa xs act F G w->aH w b2 3 [O ae left]-> -1000<=left-(tN xs act f n).length->left<=1000000000->
  aB au 27 #[O ae (n:Int),ai (some ⟨b2,0,none⟩),ai (some ⟨b,0,none⟩),ai (some ⟨b1,0,none⟩),ai (some ⟨b3,0,none⟩)] w λe w'=>
   (∃r:Bool,e=aq (ao r)/\(r=true↔∀m,m∈tN xs act f n->mO xs act m.toNat=true)/\∃qK:Int,aH w' b2 3 [O ae qK]/\(r=true->qK=left-(tN xs act f n).length))/\aA [b2] w w'
 | 0,n,w,x,left,hx,hf,_,_,_,_=>by
  have:=eT hx;omega
 | f+1,n,w,x,left,hx,hf,hW,hB,hlo,hhi=>by
  have kB:=hF.le;refine(al8 n ⟨b2,0,none⟩ _ ⟨b1,0,none⟩ ⟨b3,0,none⟩ (λv w'=>(∃r:Bool,v=ao r/\(r=true↔∀m,m∈tN xs act (f+1) n->mO xs act m.toNat=true)/\∃qK:Int,aH w' b2 3 [O ae qK]/\(r=true->qK=left-(tN xs act (f+1) n).length))/\aA [b2] w w') w ?_).mono (by rintro _ w' ⟨v,rfl,⟨r,rfl,h⟩,h'⟩;exact⟨⟨r,rfl,h⟩,h'⟩);refine⟨left,hB.cells 0 _ aaa,b2,0,_,_,rfl,hB,aaa,λw0 cQ rQ=>?_⟩;have rQ:aH w0 b2 3 [O ae (left-1)]:=by
   rw[<-gF (x:=left-1) aG aG];exact rQ
  have hW0:=hW.only cQ;refine⟨l,hW0.lb.cells 0 _ aaa,(tS hW0.sp hF hx).mono ?_⟩;rintro _ w1 ⟨⟨s1,rfl,wJ⟩,cJ⟩;have o1:aA [b2] w w1:=cQ.cy cJ;have ux:b2<w0.heap.size:=rQ.lt;have uw:=cJ.blk rQ aaa;have hl1:=wJ.len;have PE:=wc xs n;have Ih:=fun{r} h=>hF.C4 (n:=n) (r:=r) h;have eo:Hn xs act n=(cV xs n).countP λr=>decide (r∈act):=rfl;have hek:mO xs act n=if x.k=2 then Hn xs act n==(cV xs n).length else Hn xs act n==min 1 (cV xs n).length:=by unfold mO;rw[ki hx]
  have pJ:Hn xs act n<=(cV xs n).length:=List.countP_le_length;have aqF:tN xs act (f+1) n=(n:Int)::((cV xs n).filter λr=>decide (r∈act)).flatMap λr=>tN xs act f r.toNat:=rfl;rw[aqF]at hlo⊢;generalize cV xs n=rs at*
  let V:Nat->List Int:=λt=>((rs.take t).filter λr=>decide (r∈act)).flatMap λr=>tN xs act f r.toNat
  have hV:∀t r,rs[t]? =some r->V (t+1)=V t++if decide (r∈act)=true then tN xs act f r.toNat else[]:=λt r ht=>by
   show((rs.take (t+1)).filter _).flatMap _=_;rw[bF,ht,eu,gr];congr 1;show(List.filter _ [r]).flatMap _=_;rw[ml,eG];split<;>simp
  have aqG:∀t,(V t).length<=(V rs.length).length:=λt=>by
   show(((rs.take t).filter _).flatMap _).length<=(((rs.take rs.length).filter _).flatMap _).length;rw[bq (ba rs.length)]
   conv=>rhs;rw[<-du t rs]
   rw[eu,gr,aW];omega
  have Zc:V rs.length=(rs.filter λr=>decide (r∈act)).flatMap λr=>tN xs act f r.toNat:=by
   show((rs.take rs.length).filter _).flatMap _=_;rw[bq (ba rs.length)]
  rw[<-Zc]at hlo⊢;rw[bp]at hlo⊢;refine⟨s1,rfl,λkv on i u=>∃t:Nat,i=(t:Int)/\kv+t=rs.length/\t<=rs.length/\on=(((rs.take t).countP λr=>decide (r∈act):Nat):Int)/\(∀m,m∈V t->mO xs act m.toNat=true)/\aH u b2 3 [O ae (left-1-(V t).length)]/\aA [b2] w u/\aA [b2] w1 u,rs.length,⟨0,rfl,aG,bB _,aaa,by simp[V],by simpa[V]using uw,o1,Only.refl _ _⟩,?_⟩;rintro kv _ _ u ⟨t,rfl,tX,ht,rfl,mP,PG,hO,Xa⟩;have hWu:=hW.only hO;have hSu:dA w0.heap.size u s1 rs:=wJ.keep bN λk hk cd=>Xa.block k cd λhm=>by
   have:=hk.elim False.elim λh=>h.1;simp at hm;omega
  refine⟨λhc=>?_,λhc=>?_⟩
  ·have hc:=aP hc;have tT:t<rs.length:=aG
   obtain⟨ad,a1,a2⟩:=iu hSu.sl (aQ tT);have hcn:(rs.take t).countP (λr=>decide (r∈act))<=t:=bf List.countP_le_length adp;have nI:(rs.take (t+1)).countP (λr=>decide (r∈act))=(rs.take t).countP (λr=>decide (r∈act))+if decide (rs[t]∈act)=true then 1 else 0:=by
    rw[bF,aQ tT,List.countP_append];congr 1;show List.countP _ [rs[t]]=_;rw[O1,List.countP_nil,bM]
   have Y3:=hV t _ (aQ tT);have hv2:=aqG (t+1);obtain⟨q,y,hq,hy,Us,_,hnq,_⟩:=Ih (eF tT);refine⟨λi6 u'=>i6=(((rs.take (t+1)).countP λr=>decide (r∈act):Nat):Int)/\_/\aH u' b2 3 [O ae (left-1-(V (t+1)).length)]/\aA [b2] w u'/\aA [b2] w1 u',λi6 u' ⟨h1,h2⟩=>⟨kv-1,aG,t+1,aaq,aG,aG,h1,h2⟩,ad,a1,_,a2,sa,hWu.ab.cells 0 _ aaa,(amI hWu.ac hr fX hm _).mono ?_⟩;rintro _ u4 ⟨⟨i5,rfl⟩,dL⟩;have hW4:=hWu.only (dL.weaken aaa);have uA:=dL.blk PG aaa;refine⟨i5,_,rfl,λhb=>?_,λhb=>⟨?_,?_,?_,hO.cy dL,Xa.cy dL⟩⟩
   ·rw[aZ hb]at Y3 nI;rw[hq,aV]at Y3;have fl:(V (t+1)).length=(V t).length+(tN xs act f q).length:=by rw[Y3,aW]
    have aqH:=SJ hF hr fX hm f q hy aG hW4 uA aG aG;refine⟨⟨.func (.func 27) #[] #[ai (some ⟨b2,0,none⟩),ai (some _),ai (some ⟨b1,0,none⟩),ai (some ⟨b3,0,none⟩)],rfl⟩,hW4.fb.cells 0 _ aaa,27,[],[ai (some ⟨b2,0,none⟩),ai (some ⟨b,0,none⟩),ai (some _),ai (some ⟨b3,0,none⟩)],rfl,fC (by kernel_rfl),?_⟩;rw[hq];refine aqH.mono ?_;rintro _ u6 ⟨⟨r,rfl,PI,qK,M1,aqI⟩,eI⟩;have o6:aA [b2] w u6:=(hO.cy dL).mem eI aaa;have o6':aA [b2] w1 u6:=(Xa.cy dL).mem eI aaa;refine⟨r,rfl,λhf=>?_,λFj=>?_⟩
    ·have hf:r=false:=acT
     refine⟨⟨false,rfl,⟨(λh=>aaH),λiW=>?_⟩,qK,M1,λh=>aaH⟩,o6⟩;have:r=true:=PI.2 λm yw=>iW m (dd _ (by
      rw[Zc];exact dr.2 ⟨rs[t],dv.2 ⟨eF tT,hb⟩,by rw[hq,aV];exact yw⟩))
     rw[hf]at this;cases this
    ·have Fj:r=true:=by simpa using Fj
     refine⟨by rw[gF aG aG,nI];rfl,λm yw=>?_,?_,o6,o6'⟩
     ·rw[Y3,ci]at yw;rcases yw with yw | yw
      ·exact mP m yw
      ·exact PI.1 Fj m yw
     ·rw[aqI Fj]at M1;rw[fl];rw[show left-1-(((V t).length+(tN xs act f q).length:Nat):Int)=left-1-((V t).length:Int)-((tN xs act f q).length:Int) by omega];exact M1
   ·rw[nI,aX (by rw[hb];decide)];rfl
   ·rw[Y3,aX (by rw[hb];decide),bS];exact mP
   ·rw[Y3,aX (by rw[hb];decide),bS];exact uA
  ·have hc:=aY hc;have:t=rs.length:=aG
   subst this;obtain⟨ad,a1,a2,_⟩:=j5 hWu.sp hx;rw[bq (ba _),<-eo];have fin:∀r:Bool,r=mO xs act n->(∃r':Bool,Value.bool r=ao r'/\(r'=true↔∀m,m∈(n:Int)::V rs.length->mO xs act m.toNat=true)/\∃qK:Int,aH u b2 3 [O ae qK]/\(r'=true->qK=left-(((V rs.length).length+1:Nat):Int)))/\aA [b2] w u:=λr Uv=>⟨⟨r,rfl,⟨λh m yw=>?_,λh=>?_⟩,_,PG,λ_=>aG⟩,hO⟩
   ·refine⟨l,hWu.lb.cells 0 _ aaa,ad,a1,x.k,a2.eE 0 _ rfl,λhk=>fin _ ?_,λhk=>fin _ ?_⟩
    ·rw[hek,aZ aa2,bT,de,de];omega
    ·rw[hek,aX aa2,bT,bU,de,de,de];omega
   ·rw[aR]at yw;rcases yw with rfl | yw
    ·rw[aV,<-Uv];exact h
    ·exact mP m yw
   ·rw[Uv];have:=h n (.head _);rwa[aV]at this
end
end Go.Proofs.YtpbgcbdclnfpnaaGreatDoor.Con
