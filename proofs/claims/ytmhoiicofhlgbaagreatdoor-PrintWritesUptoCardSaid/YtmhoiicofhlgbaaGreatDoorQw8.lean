import Derived.Test.YtmhoiicofhlgbaaGreatDoorQw7
set_option linter.unusedSectionVars false
namespace Go.Proofs.YtmhoiicofhlgbaaGreatDoor.Con
open Go.Value renaming int->O,string->ab,pointer->ae,agg->ah,tuple->ai,bool->aj
open Go.IntKind renaming i64->U,wrap->ar
open Go.Ending renaming returned->ak
open _root_.ByteArray renaming mk->ao
open _root_.Go.Proofs.Tryz renaming prog->aq
open Go.Instr renaming buildSlice->au
open Go renaming World->av,Value->aw,Calls->az
open Go.Kt renaming Only->ay
open Go Go.RowKit Go.Kt Go.Kt.V Go.Proofs.YtmhoiicofhlgbaaGreatDoor.Vc
set_option linter.unusedSimpArgs false
set_option linter.unusedVariables false
set_option maxHeartbeats 4000000
def ma (l m:aB):aB:=if l.length<=16384 then l++m else l
def qm (wr:Bool) (l:aB):aB:=if wr then ma l [40]else l
def re (wr:Bool) (l:aB):aB:=if wr then ma l [41]else l
def sW:Nat->Ex->aB->aB
 | 0,_,l=>l
 | d+1,x,l=>if 16384<l.length then l else
  if x.k=1 then ma l (Lib.itoa x.n)
  else if x.k=2 then ma l x.s
  else if x.k=3 then ma l ([105,110,40]++x.s++[41])
  else if x.k=4 then(match x.cR with
   | [y]=>re (y.k==5) (sW d y (qm (y.k==5) (ma l (dh x.op.toNat))))
   | _=>l)
  else(match x.cR with
   | [y,z]=>re (decide (bD z<=bD x)) (sW d z (qm (decide (bD z<=bD x)) (ma (re (decide (bD y<bD x)) (sW d y (qm (decide (bD y<bD x)) l))) ([32]++dh x.op.toNat++[32]))))
   | _=>l)
def kz (l t r:aB):Prop:=(l.length+t.length<=16384->r=l++t)/\(16384<l.length+t.length->16384<r.length)
theorem kz.put (l m:aB):kz l m (ma l m):=by
 unfold ma;refine⟨fun h=>by rw[if_pos (by omega)],fun h=>?_⟩;by_cases hl:l.length<=16384
 ·rw[if_pos hl,aD];omega
 ·rw[if_neg hl];omega
theorem kz.trans {l t r t' r':aB} (h:kz l t r) (k:kz r t' r'):kz l (t++t') r':=by
 refine⟨fun hh=>?_,fun hh=>?_⟩
 ·rw[aD]at hh;have e:=h.1 (by omega);rw[e]at k;rw[k.1 (by rw[aD];omega),aV]
 ·rw[aD]at hh;by_cases h1:l.length+t.length<=16384
  ·have e:=h.1 h1;refine k.2 ?_;rw[e,aD];omega
  ·have:=h.2 (by omega);exact k.2 (by omega)
theorem kz.refl (l:aB):kz l [] l:=⟨fun _=>by simp,fun h=>by simpa using h⟩
theorem kz.long {l t:aB} (h:16384<l.length):kz l t l:=⟨fun hh=>by omega,fun _=>h⟩
theorem kz.opn (wr:Bool) (l:aB):kz l (if wr then[40]else[]) (qm wr l):=by
 cases wr with
 | true=>exact kz.put _ _
 | false=>exact kz.refl _
theorem kz.clo (wr:Bool) (l:aB):kz l (if wr then[41]else[]) (re wr l):=by
 cases wr with
 | true=>exact kz.put _ _
 | false=>exact kz.refl _
theorem Ry (d:Nat) (x:Ex) (wr:Bool):jK (d+1) x wr=(if wr then[40]else[])++(jK (d+1) x false++(if wr then[41]else[])):=by
 unfold jK;cases wr with
 | true=>simp[clo,opn]
 | false=>simp[clo,opn]
theorem NG {d:Nat} {x:Ex} (h:bW d x=true) (wr:Bool):jK d x wr=(if wr then[40]else[])++(jK d x false++(if wr then[41]else[])):=by
 cases d with
 | zero=>cases h
 | succ d=>exact Ry d x wr
theorem acn {d:Nat} {y:Ex} (h:bW d y=true):decide (bD y<6)=(y.k==5):=by
 cases d with
 | zero=>cases h
 | succ d=>
  rw[bW,aE]at h;rw[bq];simp only[bd,cZ];constructor
  ·intro hh;refine bf fun hn=>?_;rw[bD,if_neg hn]at hh;omega
  ·intro hh;obtain⟨_,y',z',_,o1,o2⟩:=mV h.1 (by omega) (by omega) (by omega) (by omega);rw[bD,if_pos hh];have:=(xf o1 o2).2;omega
theorem Gp:∀(d:Nat) {x:Ex} (l:aB),bW d x=true->kz l (jK d x false) (sW d x l)
 | 0,x,l,h=>by cases h
 | d+1,x,l,h=>by
  rw[bW,aE]at h;obtain⟨hh,ha⟩:=h;have e:jK (d+1) x false=(
  if x.k=1 then Lib.itoa x.n
  else if x.k=2 then x.s
  else if x.k=3 then[105,110,40]++x.s++[41]
  else if x.k=4 then(match x.cR with
   | [y]=>dh x.op.toNat++jK d y (decide (bD y<6))
   | _=>[])
  else(match x.cR with
   | [y,z]=>jK d y (decide (bD y<bD x))++([32]++dh x.op.toNat++[32])++jK d z (decide (bD z<=bD x))
   | _=>[])):=rfl
  rw[sW];by_cases hl:16384<l.length
  ·rw[if_pos hl];exact kz.long hl
  rw[if_neg hl,e];have part:∀{y:Ex} (wr:Bool) (l:aB),bW d y=true->kz l (jK d y wr) (re wr (sW d y (qm wr l))):=fun{y} wr l hy=>by
   rw[NG hy wr];exact(kz.opn wr l).trans ((Gp d _ hy).trans (kz.clo wr _))
  by_cases k1:x.k=1
  ·rw[if_pos k1,if_pos k1];exact kz.put _ _
  by_cases k2:x.k=2
  ·rw[if_neg k1,if_neg k1,if_pos k2,if_pos k2];exact kz.put _ _
  by_cases k3:x.k=3
  ·rw[if_neg k1,if_neg k1,if_neg k2,if_neg k2,if_pos k3,if_pos k3];exact kz.put _ _
  by_cases k4:x.k=4
  ·obtain⟨y,hy,_⟩:=qU hh k4;rw[if_neg k1,if_neg k1,if_neg k2,if_neg k2,if_neg k3,if_neg k3,if_pos k4,if_pos k4,hy];rw[hy]at ha;simp only[im,cA]at ha;dsimp only;rw[acn ha];exact(kz.put _ _).trans (part _ _ ha)
  ·obtain⟨_,y,z,hy,_⟩:=mV hh k1 k2 k3 k4;rw[if_neg k1,if_neg k1,if_neg k2,if_neg k2,if_neg k3,if_neg k3,if_neg k4,if_neg k4,hy];rw[hy]at ha;simp only[im,cA,aE]at ha;exact((part _ _ ha.1).trans (kz.put _ _)).trans (part _ _ ha.2)
theorem V2 {d:Nat} {x:Ex} (h:bW d x=true):∀(wr:Bool) (l:aB),l.length+(jK d x wr).length<=16384->mJ d x wr l=l++jK d x wr:=by
 induction d generalizing x with
 | zero=>cases h
 | succ d ih=>
  intro wr l dN;rw[bW,aE]at h;obtain⟨hh,ha⟩:=h;have hc:¬16384<l.length:=by omega
  rw[mJ,if_neg hc];rw[jK]at dN⊢;rw[<-M3];have kO:=F8 wr (opn wr []++(
  if x.k=1 then Lib.itoa x.n
  else if x.k=2 then x.s
  else if x.k=3 then[105,110,40]++x.s++[41]
  else if x.k=4 then(match x.cR with
   | [y]=>dh x.op.toNat++jK d y (decide (bD y<6))
   | _=>[])
  else(match x.cR with
   | [y,z]=>jK d y (decide (bD y<bD x))++([32]++dh x.op.toNat++[32])++jK d z (decide (bD z<=bD x))
   | _=>[])))
  have tH:=aX (Nat.add_le_add_left kO l.length) dN;clear kO dN;congr 1;by_cases k1:x.k=1
  ·rw[if_pos k1,if_pos k1,lq wr l,aV]
  by_cases k2:x.k=2
  ·rw[if_neg k1,if_neg k1,if_pos k2,if_pos k2,lq wr l,aV]
  by_cases k3:x.k=3
  ·rw[if_neg k1,if_neg k1,if_neg k2,if_neg k2,if_pos k3,if_pos k3,lq wr l,aV]
  by_cases k4:x.k=4
  ·obtain⟨y,hy,_⟩:=qU hh k4;rw[if_neg k1,if_neg k2,if_neg k3,if_pos k4,hy]at tH;rw[if_neg k1,if_neg k1,if_neg k2,if_neg k2,if_neg k3,if_neg k3,if_pos k4,if_pos k4,hy];rw[hy]at ha;dsimp only at tH⊢;simp only[im,cA]at ha;simp only[aD]at tH;rw[ih ha _ _ (by rw[lq wr l];simp only[aD];omega),lq wr l];simp only[aV]
  ·obtain⟨_,y,z,hy,_⟩:=mV hh k1 k2 k3 k4;rw[if_neg k1,if_neg k2,if_neg k3,if_neg k4,hy]at tH;rw[if_neg k1,if_neg k1,if_neg k2,if_neg k2,if_neg k3,if_neg k3,if_neg k4,if_neg k4,hy];rw[hy]at ha;dsimp only at tH⊢;simp only[im,cA,aE]at ha;simp only[aD]at tH;have e1:mJ d y (decide (bD y<bD x)) (opn wr l)=opn wr l++jK d y (decide (bD y<bD x)):=ih ha.1 _ _ (by rw[lq wr l];simp only[aD];omega);rw[e1,ih ha.2 _ _ (by rw[lq wr l];simp only[aD];omega),lq wr l];simp only[aV]
theorem Kg {d:Nat} {x:Ex} (hs:bW d x=true) (hn:jm d x):lS d x=(if 16384<(sW d x []).length∨(eV (sW d x [])).2.1≠0 then[]else sW d x [])/\((eV (sW d x [])).2.1=0->(sW d x []).length<=16384->sW d x []=mJ d x false []):=by
 have hr:=Gp d (x:=x) [] hs;unfold kz at hr;rw[aN,bm,cd]at hr;have long:∀l:aB,16384<l.length->(eV l).2.1≠0:=fun l h=>by
  have:ca l=([],2, -1):=by rw[ca,if_pos h]
  unfold eV;rw[this,if_pos (by decide)];exact(by decide:(2:Int)≠0)
 by_cases ht:(jK d x false).length<=16384
 ·have e1:=hr.1 ht;have e2:mJ d x false []=jK d x false:=by
   have:=V2 hs false [] (by rw[aN];omega);rwa[cd]at this
  rw[e1,lS,if_pos hs,e2];refine⟨?_,fun _ _=>rfl⟩;by_cases hc:(eV (jK d x false)).2.1≠0
  ·rw[if_pos hc,if_pos (.inr hc)]
  ·rw[if_neg hc,if_neg (by rintro(h | h);omega;exact hc h)]
 ·have h1:=hr.2 (by omega);have h2:16384<(mJ d x false []).length:=by
   refine bf fun hn=>?_;have:=Ao d false [] hs (by omega);rw[cd]at this;rw[this]at hn;omega
  refine⟨?_,fun _ h=>by omega⟩;rw[if_pos (.inl h1),lS,if_pos hs,if_pos (long _ h2)]
theorem pR (l m:aB) {K:Nat} (hm:m.length<=40) (hl:l.length<=K) (hK:16424<=K):(ma l m).length<=K:=by
 unfold ma;split
 ·rw[aD];omega
 ·exact hl
theorem vF (wr:Bool) (l:aB) {K:Nat} (hl:l.length<=K) (hK:16424<=K):(qm wr l).length<=K:=by
 cases wr with
 | true=>exact pR _ _ (by decide) hl hK
 | false=>exact hl
theorem B7 (wr:Bool) (l:aB) {K:Nat} (hl:l.length<=K) (hK:16424<=K):(re wr l).length<=K:=by
 cases wr with
 | true=>exact pR _ _ (by decide) hl hK
 | false=>exact hl
theorem EB:∀(d:Nat) {x:Ex} (l:aB) {K:Nat},bW d x=true->jm d x->l.length<=K->16424<=K->(sW d x l).length<=K
 | 0,x,l,K,h,_,_,_=>by cases h
 | d+1,x,l,K,h,⟨hn,hs⟩,hl,hK=>by
  rw[bW,aE]at h;obtain⟨hh,ha⟩:=h;rw[sW];split
  ·exact hl
  split
  ·exact pR _ _ (by have:=Lib.itoa_length_le x.n hn.1 hn.2;omega) hl hK
  ·split
   ·rename_i hk;exact pR _ _ (by have:=fP (iG hh (.inl hk));omega) hl hK
   ·split
    ·rename_i hk;refine pR _ _ ?_ hl hK;have:=fP (iG hh (.inr hk));rw[aD,aD];simp only[aH,aN];omega
    ·split
     ·rename_i hk;obtain⟨y,hy,_⟩:=qU hh hk;rw[hy]at ha hs⊢;simp only[im,cA]at ha;have:=jI x.op.toNat;exact B7 _ _ (EB d _ ha (hs y (by simp)) (vF _ _ (pR _ _ (by omega) hl hK) hK) hK) hK
     ·rename_i k1 k2 k3 k4;obtain⟨hk,y,z,hy,_⟩:=mV hh k1 k2 k3 k4;rw[hy]at ha hs⊢;simp only[im,cA,aE]at ha;have:=jI x.op.toNat;exact B7 _ _ (EB d _ ha.2 (hs z (by simp)) (vF _ _ (pR _ _ (by rw[aD,aD];simp only[aH,aN];omega) (B7 _ _ (EB d _ ha.1 (hs y (by simp)) (vF _ _ hl hK) hK) hK) hK) hK) hK) hK
structure Pq (w:av) (b:Nat) (sl:Sl) (l:aB):Prop where
 blk:Blk w b 263 [sl.v]
 buf:Bf w (b+1) sl l
section
variable {w w0 w1 w2 w':av} {b k0:Nat} {sl fW Ku:Sl} {l:aB}
theorem Pq.only (h:Pq w b sl l) (hO:ay [] w w'):Pq w' b sl l:=⟨hO.blk h.blk (by simp),h.buf.keep fun g _ hl=>hO.block g hl (by simp)⟩
theorem Pq.lb (h:Pq w b sl l):b<w.heap.size:=h.blk.lt
theorem ir.sm (M:ir b sl w0 fW w1) (h1:k0≠b) (h2:sl.a≠some ⟨k0,0,none⟩) (h3:k0<w0.heap.size) (S:ir b fW w1 Ku w2):aR [k0] w1 w2:=S.same h1 (fun e=>by
 rcases M.2 k0 e with e | e
 ·exact h2 e
 ·omega) (by have:=M.1.size;omega)
theorem Pq.NW (h:Pq w0 b sl l) {k:Nat} (hk:k<b):¬(k=b∨sl.a=some ⟨k,0,none⟩):=by
 rintro(e | e)
 ·omega
 ·have:=(h.buf.lt e).1;omega
theorem ir.kp (M:ir b sl w0 fW w1) (h:Pq w0 b sl l) (h1:k0≠b) (h2:sl.a≠some ⟨k0,0,none⟩) (h3:k0<w0.heap.size) (S:ir b fW w1 Ku w2):bE (fun k=>k<b∨k=k0) w1 w2:=fun k hk bJ=>S.1.block k bJ fun hh=>by
 have hb:=h.lb;rcases hk with hk | rfl
 ·rcases hh with e | e
  ·omega
  ·rcases M.2 k e with e | e
   ·exact h.NW hk (.inr e)
   ·omega
 ·rcases hh with e | e
  ·exact h1 e
  ·rcases M.2 k e with e | e
   ·exact h2 e
   ·omega
theorem wc (h:Pq w b sl l) (m:aB) (hm:l.length+m.length<=140737488355328):az aq 273 #[ae (some ⟨b,0,none⟩),ab (T m)] w fun e w'=>∃fW,e=ak (ai #[])/\Pq w' b fW (ma l m)/\ir b sl w fW w':=by
 refine(ag8 ⟨b,0,none⟩ (T m) (fun v w'=>∃fW,v=ai #[]/\Pq w' b fW (ma l m)/\ir b sl w fW w') w ?_).mono (by
  rintro e w' ⟨v,rfl,s,rfl,h⟩;exact⟨s,rfl,h⟩)
 unfold abf;have hn:=h.buf.len;have hb:=h.lb;refine⟨sl,Blk.dI h.blk 0 rfl,fun hc=>?_,fun hc=>⟨sl,rfl,?_,ir.refl _ _ _⟩⟩
 ·have hc:l.length<=16384:=by have:=aG hc;omega
  obtain⟨s',w1,k1,k2,k3,k4⟩:=wY h.buf m (by omega) hm;have pi:=k3.blk h.blk fun e=>by have:=(h.buf.lt e).1;omega
  have AK:∀g,s'.a=some ⟨g,0,none⟩->b<g:=fun g hg=>by
   rcases k4 with e | e
   ·rw[e]at hg;exact(h.buf.lt hg).1
   ·rw[e]at hg;injection hg with hg;injection hg with hg;omega
  refine⟨sl,Blk.dI h.blk 0 rfl,s',w1,k1,b,0,_,_,rfl,pi,by simp,fun w2 cp kC=>⟨s',rfl,⟨kC,?_⟩,?_,?_⟩⟩
  ·rw[ma,if_pos hc];exact k2.keep fun g hg hl=>cp.block g hl (by have:=AK g hg;simp;omega)
  ·exact(k3.mono fun k _ hk=>.inr hk).trans (cp.p (F:=fun k=>k=b) fun x hx=>.inl (by simpa using hx)) fun k hk=>.inl (.inl hk)
  ·intro k hk;rcases k4 with e | e
   ·rw[e]at hk;exact .inl hk
   ·rw[e]at hk;injection hk with hk;injection hk with hk;exact .inr (by omega)
 ·have hc:¬l.length<=16384:=by have:=aI hc;omega
  rw[ma,if_neg hc];exact h
end
abbrev RgC (d:Nat):Prop:=∀{F:Nat->Prop} {w:av} {b:Nat} {sl:Sl} {l:aB} {x:Ex} {cs:List aw},bW d x=true->jm d x->mA d w F x cs->(∀k,F k->k<b)->Pq w b sl l->l.length<=16424->
 az aq 232 #[ae (some ⟨b,0,none⟩),ah cs.toArray] w fun e w'=>∃fW,e=ak (ai #[])/\Pq w' b fW (sW d x l)/\ir b sl w fW w'
theorem B8 {d:Nat} (hR:RgC d) {F:Nat->Prop} {w:av} {b:Nat} {sl:Sl} {l:aB} {x:Ex} {cs:List aw} (wr:Bool) (hs:bW d x=true) (hn:jm d x) (hx:mA d w F x cs) (hF:∀k,F k->k<b) (hP:Pq w b sl l) (hl:l.length<=16424):
  az aq 274 #[ae (some ⟨b,0,none⟩),ah cs.toArray,aj wr] w fun e w'=>∃fW,e=ak (ai #[])/\Pq w' b fW (re wr (sW d x (qm wr l)))/\ir b sl w fW w':=by
 obtain⟨xs,rfl⟩:=jt hx;refine(ag9 ⟨b,0,none⟩ x.k x.n (T x.s) x.op xs x.a wr (fun v w'=>∃fW,v=ai #[]/\Pq w' b fW (re wr (sW d x (qm wr l)))/\ir b sl w fW w') w ?_).mono (by
  rintro e w' ⟨v,rfl,s,rfl,h⟩;exact⟨s,rfl,h⟩)
 unfold abg;intro k0 w0 gN dJ bT;have hb:=hP.lb;have Fh:=hP.only bT;have o1:k0≠b:=by omega
 have o2:sl.a≠some ⟨k0,0,none⟩:=fun e=>by have:=(hP.buf.lt e).2;omega
 have hrl:=fun l' h=>EB d (x:=x) l' (K:=16424) hs hn h (aK _);refine⟨fun w1=>∃YH,Pq w1 b YH (qm wr l)/\ir b sl w0 YH w1,?_,fun hw=>(wc Fh [40] (by rw[aW];omega)).mono ?_,fun hw=>⟨sl,by rw[hw];exact Fh,ir.refl _ _ _⟩⟩
 ·rintro w1 ⟨YH,h1,m1⟩;refine(hR hs hn ((dD d).keep (fj hx bT) fun k hk bJ=>m1.1.block k bJ (Fh.NW (hF k hk))) hF h1 (vF _ _ hl (aK _))).mono ?_;rintro _ w2 ⟨OA,rfl,h2,m2⟩;refine⟨rfl,m1.sm o1 o2 dJ m2,fun hw=>(wc h2 [41] (by have:=hrl _ (vF wr l hl (aK _));rw[aW];omega)).mono ?_,fun hw=>⟨OA,rfl,?_,(m1.trans m2).after bT⟩⟩
  ·rintro _ w3 ⟨sl3,rfl,h3,m3⟩;refine⟨rfl,(m1.trans m2).sm o1 o2 dJ m3,sl3,rfl,?_,((m1.trans m2).trans m3).after bT⟩;unfold re;rw[if_pos hw];exact h3
  ·unfold re;rw[if_neg (by rw[hw];decide)];exact h2
 ·rintro _ w4 ⟨Xb,rfl,h4,m4⟩;refine⟨rfl,(ir.refl b sl w0).sm o1 o2 dJ m4,Xb,?_,m4⟩;unfold qm;rw[if_pos hw];exact h4
theorem NH {k j:Nat} {op:Int} (hk:k<6) (h:((dM[k]?).getD [])[j]? =some op):((mh[k]?).getD [])[j]? =some (dh op.toNat):=by
 have hj:j<4:=by
  have h1:=(aP.1 h).1;have h2:∀k,k<6->((dM[k]?).getD []).length<=4:=by decide
  have:=h2 k hk;omega
 have eU:∀k,k<6->∀j,j<4->∀o,((dM[k]?).getD [])[j]? =some o->((mh[k]?).getD [])[j]? =some (dh o.toNat):=by
  intro k hk j hj o ho
  match k,hk,j,hj with
  | 0,_,0,_=>simp[dM]at ho;subst ho;rfl
  | 0,_,j+1,_=>simp[dM]at ho
  | 1,_,0,_=>simp[dM]at ho;subst ho;rfl
  | 1,_,j+1,_=>simp[dM]at ho
  | 2,_,0,_=>simp[dM]at ho;subst ho;rfl
  | 2,_,1,_=>simp[dM]at ho;subst ho;rfl
  | 2,_,j+2,_=>simp[dM]at ho
  | 3,_,0,_=>simp[dM]at ho;subst ho;rfl
  | 3,_,1,_=>simp[dM]at ho;subst ho;rfl
  | 3,_,2,_=>simp[dM]at ho;subst ho;rfl
  | 3,_,3,_=>simp[dM]at ho;subst ho;rfl
  | 4,_,0,_=>simp[dM]at ho;subst ho;rfl
  | 4,_,1,_=>simp[dM]at ho;subst ho;rfl
  | 4,_,j+2,_=>simp[dM]at ho
  | 5,_,0,_=>simp[dM]at ho;subst ho;rfl
  | 5,_,1,_=>simp[dM]at ho;subst ho;rfl
  | 5,_,2,_=>simp[dM]at ho;subst ho;rfl
  | 5,_,j+3,_=>simp[dM]at ho
 exact eU k hk j hj op h
theorem Gq {k:Nat} (hk:k<6):((dM[k]?).getD []).Nodup:=by
 have:∀k,k<6->((dM[k]?).getD []).Nodup:=by decide
 exact this k hk
theorem NI {op:Int} (h1:1<=op) (h2:op<=13):op∈(dM[(dY op).toNat]?).getD []:=by
 have:∀n:Nat,n<14->1<=n->((n:Int))∈(dM[(dY (n:Int)).toNat]?).getD []:=by decide
 have:=this op.toNat (by omega) (by omega);rwa[fM (by omega)]at this
theorem xj:∀d,RgC d
 | 0,_,_,_,_,_,_,_,_,_,h,_,_,_=>h.elim
 | d+1,F,w,b,sl,l,x,cs,qi,⟨PS,PT⟩,⟨xs,h1,h2⟩,hF,hP,dN=>by
  subst h1;refine(ag6 ⟨b,0,none⟩ x.k x.n (T x.s) x.op xs x.a (fun v w'=>∃fW,v=ai #[]/\Pq w' b fW (sW (d+1) x l)/\ir b sl w fW w') w ?_).mono (by
   rintro e w' ⟨v,rfl,s,rfl,h⟩;exact⟨s,rfl,h⟩)
  rw[bW,aE]at qi;obtain⟨hh,ha⟩:=qi;unfold abb;intro k0 w0 gN dJ bT;have hb:=hP.lb;have Fh:=hP.only bT;have xp:=SliceF.only (dD d) (by decide) h2 bT (by simp);have o1:k0≠b:=by omega
  have o2:sl.a≠some ⟨k0,0,none⟩:=fun e=>by have:=(hP.buf.lt e).2;omega
  have hbn:=hP.buf.len;have rf:=ir.refl b sl w0;have sub:∀{w1:av} {YH:Sl} {i:Nat} {y:Ex},ir b sl w0 YH w1->x.cR[i]? =some y->∃ad sy,ck xs (i:Int) 6 ad/\ad.block<b/\Cells w1 ad (jy y.k y.n y.s y.op sy y.a)/\mA d w1 F y (jy y.k y.n y.s y.op sy y.a):=fun{w1 YH i y} m1 hy=>by
   have hS:=SliceF.wg (dD d) (by decide) xp m1.1 fun k hk _=>Fh.NW (hF k hk);have hn:=hS.len;have bJ:=(aP.1 hy).1;obtain⟨ad,y',cs,g1,g2,g3,g4,g5,g6⟩:=hS.get (aO i) (by omega);rw[aM,hy]at g2;injection g2 with g2;subst g2;obtain⟨sy,rfl⟩:=jt g6;exact⟨ad,sy,g1,hF _ g3,g5,g6⟩
  refine⟨sl,Blk.dI Fh.blk 0 rfl,fun hc=>⟨sl,rfl,?_,ir.only bT⟩,fun hc=>?_⟩
  ·rw[sW,if_pos (by have:=aG hc;omega)];exact Fh
  have hc:¬16384<l.length:=by have:=aI hc;omega
  have hrg:sW (d+1) x l=(if x.k=1 then ma l (Lib.itoa x.n)
  else if x.k=2 then ma l x.s
  else if x.k=3 then ma l ([105,110,40]++x.s++[41])
  else if x.k=4 then(match x.cR with
   | [y]=>re (y.k==5) (sW d y (qm (y.k==5) (ma l (dh x.op.toNat))))
   | _=>l)
  else(match x.cR with
   | [y,z]=>re (decide (bD z<=bD x)) (sW d z (qm (decide (bD z<=bD x)) (ma (re (decide (bD y<bD x)) (sW d y (qm (decide (bD y<bD x)) l))) ([32]++dh x.op.toNat++[32]))))
   | _=>l)):=by rw[sW,if_neg hc]
  refine⟨fun hk=>?_,fun k1=>⟨fun hk=>?_,fun k2=>⟨fun hk=>⟨?_,?_,?_⟩,fun k3=>⟨fun hk=>?_,fun k4=>⟨fun _=>?_,fun k5=>?_⟩⟩⟩⟩⟩
  ·have hk:x.k=1:=by simpa using hk
   have h0:0<=x.n:=by
    rw[fF,if_pos hk]at hh;have:=(sU hh).1;split at this<;>omega
   refine(NF w0 h0 PS.2).mono ?_;rintro _ w1 ⟨rfl,bZ⟩;have hl:=Lib.itoa_length_le x.n PS.1 PS.2;refine⟨_,rfl,bZ.same (by simp;omega),(wc (Fh.only bZ) (Lib.itoa x.n) (by omega)).mono ?_⟩;rintro _ w2 ⟨OA,rfl,Oj,sX⟩;exact⟨rfl,(ir.only bZ).sm o1 o2 dJ sX,OA,rfl,by rw[hrg,if_pos hk];exact Oj,(sX.after bZ).after bT⟩
  ·have hk:x.k=2:=by simpa using hk
   have k1:x.k≠1:=by omega
   have hl:=fP (iG hh (.inl hk));refine(wc Fh x.s (by omega)).mono ?_;rintro _ w2 ⟨OA,rfl,Oj,sX⟩;exact⟨rfl,rf.sm o1 o2 dJ sX,OA,rfl,by rw[hrg,if_neg k1,if_pos hk];exact Oj,sX.after bT⟩
  ·have hk:x.k=3:=by simpa using hk
   have hl:=fP (iG hh (.inr hk));rw[bI];omega
  ·have hk:x.k=3:=by simpa using hk
   have hl:=fP (iG hh (.inr hk));rw[XV];have:(ao #[105,110,40]).size=3:=rfl;omega
  ·have hk:x.k=3:=by simpa using hk
   have hl:=fP (iG hh (.inr hk));have tH:([105,110,40]++x.s++[41]:aB).length=x.s.length+4:=by
    rw[aD,aD];simp only[aH,aN];omega
   rw[inb];refine(wc Fh _ (by omega)).mono ?_;rintro _ w2 ⟨OA,rfl,Oj,sX⟩;exact⟨rfl,rf.sm o1 o2 dJ sX,OA,rfl,by rw[hrg,if_neg (by omega),if_neg (by omega),if_pos hk];exact Oj,sX.after bT⟩
  ·have hk:x.k=4:=by simpa using hk
   obtain⟨y,hy,nu⟩:=qU hh hk;have WQ:bW d y=true:=by rw[hy]at ha;simpa[im]using ha
   have zI:jm d y:=PT y (by rw[hy];simp);have OH:=jI x.op.toNat;have hrk:sW (d+1) x l=re (y.k==5) (sW d y (qm (y.k==5) (ma l (dh x.op.toNat)))):=by rw[hrg,if_neg (by omega),if_neg (by omega),if_neg (by omega),if_pos hk,hy]
   refine⟨fun w5=>∃CT,Pq w5 b CT (ma l (dh x.op.toNat))/\ir b sl w0 CT w5,?_,fun ho=>?_,fun ho=>?_⟩
   ·rintro w5 ⟨CT,h5,m5⟩;obtain⟨p1,sy,e1,e2,_,_⟩:=sub (i:=0) m5 (by rw[hy];rfl);refine⟨p1,e1,fun w6 dG=>?_⟩;have m6:=m5.trans (ir.only dG);obtain⟨p1',sy',e1',e2',e3',e4'⟩:=sub (i:=0) m6 (y:=y) (by rw[hy];rfl);have:=ck.Ci e1' e1;subst this;refine⟨_,_,_,_,_,_,e3',p1',e1,y.k,e3'.dI 0 _ rfl,(B8 (xj d) (y.k==5) WQ zI e4' hF (h5.only dG) (pR _ _ (by omega) dN (aK _))).mono ?_⟩;rintro _ w7 ⟨sl7,rfl,h7,m7⟩;exact⟨rfl,m6.sm o1 o2 dJ m7,sl7,rfl,by rw[hrk];exact h7,(m6.trans m7).after bT⟩
   ·have ho:x.op=14:=by simpa using ho
    refine(wc Fh [45] (by rw[aW];omega)).mono ?_;rintro _ w8 ⟨sl8,rfl,h8,m8⟩;exact⟨rfl,rf.sm o1 o2 dJ m8,sl8,by rw[ho];exact h8,m8⟩
   ·have ho:x.op=15:=by
     have:x.op≠14:=by simpa using ho
     omega
    refine(wc Fh [33] (by rw[aW];omega)).mono ?_;rintro _ w8 ⟨sl8,rfl,h8,m8⟩;exact⟨rfl,rf.sm o1 o2 dJ m8,sl8,by rw[ho];exact h8,m8⟩
  ·have k1:x.k≠1:=by simpa using k1
   have k2:x.k≠2:=by simpa using k2
   have k3:x.k≠3:=by simpa using k3
   have k4:x.k≠4:=by simpa using k4
   obtain⟨hk,y,z,hy,Oi,Fg⟩:=mV hh k1 k2 k3 k4;have vK:bW d y=true/\bW d z=true:=by rw[hy]at ha;simpa[im]using ha
   have zI:jm d y:=PT y (by rw[hy];simp);have PU:jm d z:=PT z (by rw[hy];simp);have OH:=jI x.op.toNat;have hlx:bD x=dY x.op:=by rw[bD,if_pos hk]
   obtain⟨r0,r5⟩:=xf Oi Fg;have hrk:sW (d+1) x l=re (decide (bD z<=bD x)) (sW d z (qm (decide (bD z<=bD x)) (ma (re (decide (bD y<bD x)) (sW d y (qm (decide (bD y<bD x)) l))) ([32]++dh x.op.toNat++[32])))):=by rw[hrg,if_neg k1,if_neg k2,if_neg k3,if_neg k4,hy]
   refine(uD (show mA (d+1) _ F x (jy x.k x.n x.s x.op xs x.a)from⟨xs,rfl,xp⟩)).mono ?_;rintro _ cK ⟨rfl,dy⟩;have z0:=bT.size;have GI:=dy.size;refine⟨_,rfl,dy.same (by simp;omega),(Gl cK).mono ?_⟩;rintro _ cY ⟨l2,rfl,hN,dP⟩;have E1:=dP.size;have m0:=hN.len;have m6:dM.length=6:=rfl;obtain⟨kr,Xy⟩:∃kr:Nat,bD x=(kr:Int):=⟨(bD x).toNat,by omega⟩
   have aeT:kr<6:=by omega
   obtain⟨p2,x1,cs1,e1,e2,e3,e4,e5,l3,rfl,hM⟩:=(SliceF.inHeap (sd ky) hN (by decide)).get (i:=bD x) (by omega) (by omega);have hx1:(dM[kr]?).getD []=x1:=by
    rw[Xy,aM]at e2;rw[e2];rfl
   refine⟨l2,rfl,dP.same (by simp;omega),p2,e1,l3,e5,fun dz ey=>?_⟩;have m12:ir b sl w0 sl dz:=ir.only ((dy.bP dP).bP ey);have OY:=Fh.only ((dy.bP dP).bP ey);have akL:=SliceF.only ky (by decide) hM ey (by simp);have z12:=ey.size;obtain⟨p3,sy,f1,f2,f3,f4⟩:=sub (i:=0) m12 (y:=y) (by rw[hy];rfl);refine⟨fun k=>k<b∨k=k0,.inr rfl,p3,f1,.inl f2,_,_,_,_,_,_,f3,p3,f1,_,_,_,_,_,_,f3,(uD f4).mono ?_⟩;rintro _ dF ⟨rfl,dq⟩;have KT:=dq.size;have m13:=m12.trans (ir.only dq);have hly:(qm (decide (bD y<bD x)) l).length<=16424:=vF _ _ dN (aK _);refine⟨_,rfl,dq.same (by simp;omega),bE.only dq,(B8 (xj d) (decide (bD y<bD x)) vK.1 zI (fj f4 dq) hF (OY.only dq) dN).mono ?_⟩;rintro _ eI ⟨Kv,rfl,h14,m14⟩;have XN:=m13.trans m14;have WE:=m14.1.size;generalize hA:re (decide (bD y<bD x)) (sW d y (qm (decide (bD y<bD x)) l))=A at*
   have hAl:A.length<=16424:=by rw[<-hA];exact B7 _ _ (EB d _ vK.1 zI hly (aK _)) (aK _)
   have akM:∀{fQ:av} {E7:Sl},ir b Kv eI E7 fQ->SliceF vB 1 fQ (fun k=>cK.heap.size<=k/\k<cY.heap.size) l3 x1:=fun{fQ E7} m15=>by
    have og:ir b sl dz E7 fQ:=((ir.only dq).trans m14).trans m15;refine SliceF.wg ky (by decide) akL og.1 fun k hk _ hh=>?_;rcases hh with e | e
    ·omega
    ·have:=(Fh.buf.lt e).2;omega
   have t1:=hM.len;have t2:=hM.cap;have t3:=hM.big;refine⟨rfl,m13.sm o1 o2 dJ m14,m13.kp Fh o1 o2 dJ m14,fun nv i fQ=>∃(j:Nat) (E7:Sl),j<=x1.length/\i=(j:Int)/\nv=x1.length-j/\Pq fQ b E7 (if x.op∈x1.take j then ma A ([32]++dh x.op.toNat++[32])else A)/\ir b Kv eI E7 fQ,x1.length,⟨0,Kv,aQ _,rfl,rfl,by rw[dr,if_neg (by simp)];exact h14,ir.refl _ _ _⟩,?_⟩;rintro nv _ fQ ⟨j,E7,hj,rfl,rfl,CA,m15⟩;have hnd:x1.Nodup:=hx1▸Gq aeT;refine⟨fun bJ=>?_,fun kO j9 ix=>?_⟩
   ·have bJ:(j:Int)<(l3.n:Int):=aG bJ;obtain⟨p5,q,cs5,g1,g2,g3,g4,g5,g6⟩:=(akM m15).get (aO j) bJ;unfold vB at g6;subst g6;rw[aM]at g2;refine⟨fun gP=>∃Sc:Sl,Pq gP b Sc (if x.op∈x1.take (j+1)then ma A ([32]++dh x.op.toNat++[32])else A)/\ir b Kv eI Sc gP,?_,p5,g1,q,g5,fun he fY iP=>(Nw fY).mono ?_,fun he iw kB=>⟨E7,?_,m15.trans (ir.only kB)⟩⟩
    ·rintro gP ⟨Sc,h16,m16⟩;exact⟨x1.length-(j+1),by omega,j+1,Sc,by omega,by rw[fy (by omega) (by omega)];rfl,rfl,h16,m16⟩
    ·have he:q=x.op:=by simpa using he
     subst he;rintro _ iv ⟨l6,rfl,hRw,jC⟩;have n0:=hRw.len;have n6:mh.length=6:=rfl;obtain⟨p6,x6,cs6,u1,u2,u3,u4,u5,l7,rfl,hS⟩:=hRw.get (i:=bD x) (by omega) (by omega);have hx6:(mh[kr]?).getD []=x6:=by
      rw[Xy,aM]at u2;rw[u2];rfl
     have hrn:=NH (k:=kr) (j:=j) aeT (by rw[hx1];exact g2);rw[hx6]at hrn;have v0:=hS.len;obtain⟨p7,s7,cs7,v1,v2,v3,v4,v5,v6⟩:=hS.get (i:=(j:Int)) (aO j) (by have:=(aP.1 hrn).1;omega);unfold iW at v6;subst v6;rw[aM,hrn]at v2;injection v2 with v2;subst v2;have zf:(ao #[32]).size=1:=rfl;have m18:=m15.trans (ir.only (iP.bP jC));have tH:([32]++dh x.op.toNat++[32]:aB).length=(dh x.op.toNat).length+2:=by
      rw[aD,aD];simp only[aH,aN];omega
     have akO:x.op∉x1.take j:=fun hm=>by
      obtain⟨jj,Yo⟩:=jd hm;rw[sN]at Yo;split at Yo
      ·rename_i Sb;have:=(List.getElem?_inj (by omega) hnd).1 (Yo.trans g2.symm);omega
      ·cases Yo
     rw[if_neg akO]at CA;refine⟨l6,rfl,jC.same (by
      have:=XN.1.size;have:=m15.1.size;have:=iP.size;simp;omega),p6,u1,l7,u5,p7,v1,_,v5,by rw[bI];omega,by rw[XV];omega,?_⟩
     rw[blb];refine(wc (CA.only (iP.bP jC)) _ (by omega)).mono ?_;rintro _ ji ⟨akP,rfl,h19,m19⟩;refine⟨rfl,(XN.trans m18).sm o1 o2 dJ m19,akP,?_,m18.trans m19⟩;rw[if_pos (by rw[bn,g2];simp)];exact h19
    ·have he:q≠x.op:=by simpa using he
     have:(x.op∈x1.take (j+1))↔(x.op∈x1.take j):=by
      rw[bn,g2,cq];simp;intro e;exact absurd e.symm he
     simp only[this];exact CA.only kB
   ·have kO:¬(j:Int)<(l3.n:Int):=aI kO;have:j=x1.length:=by omega
    subst this;have KX:x.op∈x1.take x1.length:=by
     rw[bB (aK _)];have:=NI Oi Fg;rw[<-hlx,Xy,aM,hx1]at this;exact this
    rw[if_pos KX]at CA;have m21:=(XN.trans m15).trans (ir.only ix);obtain⟨p8,sz,f1,f2,f3,f4⟩:=sub (i:=1) m21 (y:=z) (by rw[hy];rfl);refine⟨fun k=>k<b∨k=k0,.inr rfl,p8,f1,.inl f2,_,_,_,_,_,_,f3,p8,f1,_,_,_,_,_,_,f3,(uD f4).mono ?_⟩;rintro _ nU ⟨rfl,qp⟩;have m22:=m21.trans (ir.only qp);have z21:=m21.1.size;have tH:([32]++dh x.op.toNat++[32]:aB).length<=40:=by
     rw[aD,aD];simp only[aH,aN];omega
    refine⟨_,rfl,qp.same (by simp;omega),bE.only qp,(B8 (xj d) (decide (bD z<=bD x)) vK.2 PU (fj f4 qp) hF ((CA.only ix).only qp) (pR _ _ tH hAl (aK _))).mono ?_⟩;rintro _ pc ⟨akQ,rfl,h23,m23⟩;exact⟨rfl,m22.sm o1 o2 dJ m23,m22.kp Fh o1 o2 dJ m23,akQ,rfl,by rw[hrk];exact h23,(m22.trans m23).after bT⟩
  ·have k1:x.k≠1:=by simpa using k1
   have k2:x.k≠2:=by simpa using k2
   have k3:x.k≠3:=by simpa using k3
   have k4:x.k≠4:=by simpa using k4
   have k5:x.k≠5:=by simpa using k5
   exact absurd (mV hh k1 k2 k3 k4).1 k5
theorem Bf.bytes {w:av} {B:Nat} {s:Sl} {l:aB} (h:Bf w B s l):pY w s l:=by
 rcases h with⟨rfl,rfl⟩ | ⟨g,tail,h1,h2,h3,h4,h5,h6,h7,h8⟩
 ·exact⟨rfl,fun h=>absurd rfl h⟩
 ·exact⟨h5,fun _=>⟨⟨g,0,none⟩,h1,h3.cells 0 (l.map fx) fun j v hj=>by rw[bm,bF (aP.1 hj).1];exact hj⟩⟩
theorem Rz {d:Nat} {w:av} {F:Nat->Prop} {x:Ex} {cs:List aw} (hx:mA d w F x cs) (hl:∀e,sT e x) (hn:jm d x):
  az aq 183 #[ah cs.toArray] w fun e w'=>e=ak (ai #[ab (T (lS d x)),aj (vE d x)])/\ay [] w w':=by
 obtain⟨xs,rfl⟩:=jt hx;refine ret (ag2 _ _ _ _ _ _ _ _ ?_);unfold aa7;intro k0 w0 gN dJ bT;have hxi:=(dD d).inHeap hx;refine(EA d hl (fj hx bT)).mono ?_;rintro _ w1 ⟨rfl,bZ⟩;have z0:=bT.size;have z1:=bZ.size;have fb:=bT.bP bZ;refine⟨_,rfl,bZ.same (by simp;omega),fun hs=>?_,fun hs k1 w2 jO jb cp kC=>?_⟩
 ·have hs:bW d x=false:=by simpa using hs
  rw[vE,lS,if_neg (by rw[hs];decide)];exact⟨rfl,fb⟩
 have hs:bW d x=true:=by simpa using hs
 have z2:=cp.size;have iO:=fb.bP cp;have hPq:Pq w2 k1 Sl.nil []:=⟨kC,.inl ⟨rfl,rfl⟩⟩
 refine(xj d hs hn (fj hxi iO) (fun k hk=>by have:=hk.2;omega) hPq (by decide)).mono ?_;rintro _ w3 ⟨sl3,rfl,hp3,Km⟩;have z3:=Km.1.size;have cO:ay [] w w3:=(iO.yT Km.1).only fun k hk=>by
  rcases hk with rfl | e
  ·omega
  ·cases e
 obtain⟨PZ,I9⟩:=Kg hs hn;have gf:sW d x []≠[]:=by
  intro e;obtain⟨c,t,h1,_⟩:=rU d false hs hn;have hlw:=Gp d (x:=x) [] hs;by_cases dN:(jK d x false).length<=16384
  ·have:=hlw.1 (by rw[aN];omega);rw[e,h1]at this;simp at this
  ·have:=hlw.2 (by rw[aN];omega);rw[e]at this;simp at this
 generalize hG:sW d x []=G at*
 refine⟨rfl,Km.same (by omega) (fun e=>by cases e) (by omega),sl3,hp3.blk,G,hp3.buf.bytes,(Rv w3 G).mono ?_⟩;rintro _ w4 ⟨ys,rfl,hY,dm⟩;have z4:=dm.size;obtain⟨d2,Yn⟩:=hY.ex;obtain⟨yl,rfl,_⟩:=hY.cells;have qj:=dm.blk hp3.blk (by simp);refine⟨_,_,_,_,_,_,_,_,rfl,dm.same (by simp;omega),sl3,qj,fun k2 k3 w5 nW nD I5 yX dS tJ=>?_⟩;have z5:=dS.size;have yZ:=(cO.bP dm).bP dS;refine(FX false d (fj hx yZ) (fj Yn dS)).mono ?_;rintro _ w6 ⟨rfl,dG⟩;have zG:=yZ.bP dG;have hsz:((ao G.toArray).size:Int)=(G.length:Int):=by
  have:(ao G.toArray).size=G.length:=bI G;rw[this]
 refine⟨_,rfl,dG.same (by simp;omega),sl3,dG.blk tJ (by simp),?_⟩;rw[hsz];by_cases hc:16384<G.length∨(eV G).2.1≠0
 ·have hcond:(decide ((G.length:Int)>16384)||((eV G).2.1 !=0))=true:=by
   rcases hc with h | h
   ·rw[bh (by omega),G4]
   ·have:((eV G).2.1 !=0)=true:=by simpa using h
    rw[this,lA]
  rw[hcond,G4];rw[if_pos hc]at PZ;refine⟨fun _=>?_,fun h=>(by cases h)⟩;rw[vE,PZ];exact⟨rfl,zG⟩
 ·have h1:G.length<=16384:=by omega
  have h2:(eV G).2.1=0:=by
   refine bf fun h=>hc (.inr h)
  have hpe:=I9 h2 h1;have akS:Sim x (eV G).1:=by
   have:=Ei hs hn (by rw[<-hpe];exact h2);rw[<-hpe]at this;exact this.2
  rw[if_neg hc]at PZ;rw[akS.same d,h2,aZ (by omega)];refine⟨fun h=>(by cases h),fun _=>?_⟩;rw[vE,PZ,bh gf];exact⟨rfl,zG⟩
end Go.Proofs.YtmhoiicofhlgbaaGreatDoor.Con
namespace Go.Proofs.YtmhoiicofhlgbaaGreatDoor.Con
open Go.Value renaming int->O,string->ab,pointer->ae,agg->ah,tuple->ai,bool->aj
open Go.IntKind renaming i64->U,wrap->ar
open Go.Ending renaming returned->ak
open _root_.ByteArray renaming mk->ao
open _root_.Go.Proofs.Tryz renaming prog->aq
open Go.Instr renaming buildSlice->au
open Go renaming World->av,Value->aw,Calls->az
open Go.Kt renaming Only->ay
open Go Go.RowKit Go.Kt Go.Kt.V Go.Proofs.YtmhoiicofhlgbaaGreatDoor.Vc
set_option linter.unusedSimpArgs false
set_option linter.unusedVariables false
set_option maxHeartbeats 800000
set_option maxRecDepth 100000
section
variable {w:av} {F:Nat->Prop} {x:Ex} {cs:List aw}
theorem EC (hx:rE false w F x cs) (hn:JJ x) (hs:yB x<=1759218604441):
  az aq 183 #[ah cs.toArray] w fun e w'=>e=ak (ai #[ab (T (rO x)),aj (oa x)])/\ay [] w w':=by
 obtain⟨d,h⟩:=hx;have h:=tt h;refine(Rz h (fun e=>F1 e x (by omega)) (hn d)).mono ?_;rintro _ w' ⟨rfl,hO⟩;rw[vE,HS (FZ h)];exact⟨rfl,hO⟩
theorem Az (hx:rE false w F x cs) (hn:JJ x) (hs:yB x<=1759218604441):
  az aq 221 #[ah cs.toArray] w fun e w'=>e=ak (aj (oa x))/\ay [] w w':=by
 obtain⟨sl,rfl⟩:=dU hx;refine ret (ag1 _ _ _ _ _ _ _ _ ?_);unfold aa6;intro k0 w0 gN dJ bT;refine(EC ((fO false).keep hx fun k _ bJ=>bT.block k bJ (by simp)) hn hs).mono ?_;rintro _ w1 ⟨rfl,bZ⟩;exact⟨_,_,rfl,bZ.same (by simp;omega),rfl,bT.bP bZ⟩
theorem B9 (hx:rE false w F x cs) (hn:JJ x) (hs:yB x<=1759218604441):
  az aq 118 #[ah cs.toArray] w fun e w'=>e=ak (ab (T (rO x)))/\ay [] w w':=by
 obtain⟨sl,rfl⟩:=dU hx;refine ret (ahw _ _ _ _ _ _ _ _ ?_);unfold abF;intro k0 w0 gN dJ bT;refine(EC ((fO false).keep hx fun k _ bJ=>bT.block k bJ (by simp)) hn hs).mono ?_;rintro _ w1 ⟨rfl,bZ⟩;exact⟨_,_,rfl,bZ.same (by simp;omega),rfl,bT.bP bZ⟩
theorem IH (hx:rE false w F x cs):
  az aq 222 #[ah cs.toArray] w fun e w'=>e=ak (aj (lU x))/\ay [] w w':=by
 obtain⟨d,hx⟩:=hx;have hx:=tt hx;cases d with
 | zero=>exact hx.elim
 | succ d=>
 obtain⟨sl,rfl,hs⟩:=hx;refine ret (ahq _ _ _ _ _ _ _ _ ?_);unfold abz;intro k0 w0 gN dJ bT;have hl:=hs.len;have e:((T x.s).toList==((ao #[]).toList))=decide (x.s=[]):=gV x.s [];rw[e,hl];exact⟨rfl,bT⟩
end
theorem _root_.Go.Kt.Cells.part {w:av} {p:Addr} {cs ds:List aw} (h:Cells w p cs) (n:Nat) (hd:∀j v,ds[j]? =some v->cs[n+j]? =some v):Cells w (p.add n) ds:=fun j v hv=>by
 rw[qz];exact h _ v (hd j v hv)
theorem oX {cs:List aw} {n i:Nat} {v u:aw} (hi:[u][i]? =some v) (h:cs[n]? =some u):cs[n+i]? =some v:=by
 cases i with
 | zero=>
  rw[cj,aJ]at hi;subst hi;exact h
 | succ i=>simp at hi
theorem NJ {k:Int} {n:aB} {xc:List aw} {a:Int} {i:Nat} {v:aw} (hi:xc[i]? =some v):(TC k n xc a)[2+i]? =some v:=by
 rw[jR];show(xc++[Value.int U a])[i]? =some v;rw[bF (aP.1 hi).1];exact hi
abbrev pS (w:av) (b:Nat) (n m a:Int):Prop:=Blk w b 158 [O U n,O U m,O U a]
theorem only1 {b:Nat} {w w':av} (h:ay [] w w'):ay [b] w w':=h.weaken (bs':=[b]) fun _ h=>(by cases h)
theorem iI {b:Nat} {w w' se:av} (h:ay [b] w w') (k:ay [b] w' se):ay [b] w se:=h.trans k fun x hx=>.inl hx
section
variable {w:av} {F:Nat->Prop} {b:Nat} {n m a:Int}
theorem vG {l:Sl} {rC:List Ac} (hc:pS w b n m a) (hl:ja false (ot false) 9 116 w F l rC) (hF:∀k,F k->k≠b) (hn:∀y,y∈rC->Ai y) (hs:gX rC<=8388608) (h0:0<=a) (h1:a<=1152921504606846976):
  az aq 163 #[ae (some ⟨b,0,none⟩),l.v] w fun e w'=>e=ak (aj (rC.all fC))/\(∃a':Int,pS w' b n m a'/\(a<=a'/\a'<=a+rC.length)/\(rC.all fC=true->a'=a+rC.length))/\ay [b] w w':=by
 refine ret (ag0 _ _ _ _ ?_);unfold aa5;have hln:=hl.1.len;have CR:=gq rC;have kp:∀{u:av},ay [b] w u->SliceF (ot false) 9 u F l rC:=fun hO=>SliceF.only (ci false) (by decide) hl.1 hO fun k hk _ hm=>hF k hk (by simpa using hm);refine⟨fun kv i u=>∃(j:Nat),i=(j:Int)/\kv+j=rC.length/\j<=rC.length/\(rC.take j).all fC=true/\pS u b n m (a+j)/\ay [b] w u,rC.length,⟨0,rfl,by omega,aQ _,rfl,by simpa using hc,Only.refl _ _⟩,?_⟩;rintro kv _ u ⟨j,rfl,O0,hj,eU,hB,hO⟩;refine⟨fun lJ=>?_,fun lJ=>?_⟩;rotate_left
 ·have lJ:=aI lJ;have rB:j=rC.length:=by omega
  subst rB;rw[fu]at eU;rw[eU];exact⟨rfl,⟨_,hB,by omega,fun _=>rfl⟩,hO⟩
 have lJ:=aG lJ;have xq:j<rC.length:=by omega
 obtain⟨y,hy⟩:∃y,rC[j]? =some y:=⟨_,bA xq⟩
 have tF:=be hy;have PY:=oT tF;unfold BP at PY;have at_:∀{v:av},ay [b] w v->∃ad xs,ck l (j:Int) 9 ad/\Cells v (ad.add 0) [O U y.k]/\Cells v (ad.add 1) [ab (T y.n)]/\Cells v (ad.add 2) (jy y.x.k y.x.n y.x.s y.x.op xs y.x.a)/\rE false v F y.x (jy y.x.k y.x.n y.x.s y.x.op xs y.x.a):=fun{v} hv=>by
  obtain⟨ad,y',cs,q1,q2,q3,q4,q5,q6⟩:=(kp hv).get (aO j) (by omega);rw[aM,hy]at q2;injection q2 with q2;subst q2;obtain⟨xc,rfl,N0⟩:=q6;obtain⟨xs,rfl⟩:=dU N0;exact⟨ad,xs,q1,q5.part 0 fun i v hi=>oX hi rfl,q5.part 1 fun i v hi=>oX hi rfl,q5.part 2 fun i v hi=>NJ hi,N0⟩
 refine⟨a+j,Blk.dI hB 2 rfl,b,2,_,_,rfl,hB,by simp,fun w1 bZ pi=>?_⟩;rw[fy (by omega) (by omega)]at pi;have pi:pS w1 b n m (a+j+1):=pi;have o1:=iI hO bZ;obtain⟨ad,xs,g1,g2,g3,g4,g5⟩:=at_ o1;refine⟨ad,g1,_,g3,(nS w1 y.n (by omega)).mono ?_⟩;rintro _ w2 ⟨rfl,cp⟩;have o2:=iI o1 (only1 cp);have kC:=cp.blk pi (by simp);obtain⟨ad2,xs2,p1,p2,p3,p4,p5⟩:=at_ o2;refine⟨_,rfl,ad2,p1,_,_,_,_,_,_,p4,(Az p5 (hn y tF) (by omega)).mono ?_⟩;rintro _ w3 ⟨rfl,cO⟩;have o3:=iI o2 (only1 cO);have sK:=cO.blk kC (by simp);obtain⟨ad3,xs3,q1,q2,q3,q4,q5⟩:=at_ o3;have qx:∀b2,b2=(if y.k=2 then lU y.x else oa y.x)->((((decide (y.k<1))||(decide (y.k>3)))||(!cF y.n))||(!b2))=!fC y:=fun b2 e=>by
  rw[e];unfold fC;by_cases h1:y.k<1
  ·rw[bh h1,aZ (p:=1<=y.k/\y.k<=3) (fun h=>by omega)];rfl
  ·by_cases h2:y.k>3
   ·rw[bh h2,aZ (p:=1<=y.k/\y.k<=3) (fun h=>by omega),lA];rfl
   ·rw[aZ h1,aZ h2,bh (p:=1<=y.k/\y.k<=3) (by omega),uK,uK,bK,wN]
 refine⟨_,rfl,fun b2 w4=>ay [] w3 w4/\b2=(if y.k=2 then lU y.x else oa y.x),?_,ad3,q1,_,q2,fun hk=>⟨ad3,q1,_,_,_,_,_,_,q4,(IH q5).mono ?_⟩,fun hk=>⟨Only.refl _ _,by rw[if_neg (by simpa using hk)]⟩⟩
 ·rintro b2 w4 ⟨h4,e2⟩;have o4:=iI o3 (only1 h4);have qj:=h4.blk sK (by simp);obtain⟨ad4,xs4,t1,t2,t3,t4,t5⟩:=at_ o4;refine⟨ad4,t1,y.k,t2,ad4,fun _=>t1,y.k,fun _=>t2,fun hh=>?_,fun hh=>?_⟩
  ·rw[qx b2 e2,bX]at hh;have:rC.all fC=false:=by
    rw[tQ];exact⟨y,tF,by rw[hh];simp⟩
   rw[this];exact⟨rfl,⟨_,qj,by omega,fun h=>(by cases h)⟩,o4⟩
  ·rw[qx b2 e2,ga]at hh;refine⟨kv-1,by omega,j+1,by rw[fy (by omega) (by omega)];rfl,by omega,by omega,?_,by rw[show a+((j+1:Nat):Int)=a+j+1 by omega];exact qj,o4⟩;rw[bn,hy,iU,eU];simp[hh]
 ·rintro _ w5 ⟨rfl,dS⟩;exact⟨_,rfl,dS,by rw[if_pos (by simpa using hk)]⟩
end
section
variable {w:av} {F:Nat->Prop} {b:Nat} {n m a:Int}
theorem Ca (x:Mv):((((((decide (x.k>=1)&&decide (x.k<=3))&&(if x.k=1 then cF x.ev else decide (x.ev=[])))&&(if x.gd then oa x.g else lU x.g))&&x.acts.all fC)&&((x.wt==0)||((x.k==3)&&(decide (x.wt>0)))))&&x.tg.all cF)=jA x:=by
 unfold jA;rw[bq];simp only[aE,bS,bd,cZ];constructor
 ·rintro⟨⟨⟨⟨⟨⟨h1,h2⟩,h3⟩,h4⟩,h5⟩,h6⟩,h7⟩;exact⟨⟨⟨⟨⟨⟨h1,h2⟩,h3⟩,h4⟩,h5⟩,h7⟩,h6⟩
 ·rintro⟨⟨⟨⟨⟨⟨h1,h2⟩,h3⟩,h4⟩,h5⟩,h7⟩,h6⟩;exact⟨⟨⟨⟨⟨⟨h1,h2⟩,h3⟩,h4⟩,h5⟩,h6⟩,h7⟩
theorem Kh {x:Mv} {cs:List aw} (hc:pS w b n m a) (hx:wV false w F x cs) (hF:∀k,F k->k≠b) (hn:KW x) (hs:D9 x<=8388608) (h0:0<=a) (h1:a<=1152921504606846976) (h2:0<=m) (h3:m<=1152921504606846976):
  az aq 164 #[ae (some ⟨b,0,none⟩),ah cs.toArray] w fun e w'=>e=ak (aj (jA x))/\(∃m' a':Int,pS w' b n m' a'/\(jA x=true->m'=m+1/\a'=a+x.acts.length))/\ay [b] w w':=by
 obtain⟨gc,pW,tg,rfl,hg,E5,za⟩:=hx;obtain⟨gs,rfl⟩:=dU hg;unfold D9 at hs;have I1:=hc.lt;refine ret (ahr _ _ _ _ _ _ _ _ _ _ _ _ _ _ _ _ ?_);unfold abA;intro k0 w0 gN dJ bT;have z0:=bT.size;have AM:=bT.blk hc (by simp);have kG:∀{u:av},ay [b] w u->rE false u F x.g (jy x.g.k x.g.n x.g.s x.g.op gs x.g.a):=fun hO=>(fO false).keep hg fun k hk bJ=>hO.block k bJ (by simpa using hF k hk);have kA:∀{u:av},ay [b] w u->ja false (ot false) 9 116 u F pW x.acts:=fun hO=>E5.keep (ci false) (by decide) fun k hk bJ=>hO.block k bJ (by simpa using hF k hk);have kT:∀{u:av},ay [b] w u->SliceF iW 1 u F tg x.tg:=fun hO=>SliceF.only cG (by decide) za.1 hO fun k hk _ hm=>hF k hk (by simpa using hm);have sm:∀{u u':av},w0.heap.size<=u.heap.size->ay [b] u u'->aR [k0] u u':=fun hz hO=>hO.same (by simp;omega);refine⟨m,Blk.dI AM 1 rfl,b,1,_,_,rfl,AM,by simp,by omega,fun w1 bZ pi=>?_⟩;have o1:ay [b] w w1:=iI (only1 bT) bZ;have z1:=bZ.size;rw[fy (by omega) (by omega)]at pi;have pi:pS w1 b n (m+1) a:=pi;have e0:((T x.ev).toList==((ao #[]).toList))=decide (x.ev=[]):=gV x.ev [];refine⟨fun b0 u=>b0=(if x.k=1 then cF x.ev else decide (x.ev=[]))/\ay [b] w u/\w0.heap.size<=u.heap.size/\pS u b n (m+1) a,fun b0 w2 ⟨eb,o2,z2,kC⟩=>?_,fun hk=>(nS w1 x.ev (by omega)).mono ?_,fun hk=>⟨by rw[if_neg (by simpa using hk),e0],o1,by omega,pi⟩⟩
 ·refine(IH (kG o2)).mono ?_;rintro _ w3 ⟨rfl,cO⟩;have o3:=iI o2 (only1 cO);have z3:=cO.size;have sK:=cO.blk kC (by simp);refine⟨_,rfl,sm z2 (only1 cO),fun b2 u=>b2=(if x.gd then oa x.g else lU x.g)/\ay [b] w u/\w0.heap.size<=u.heap.size/\pS u b n (m+1) a,fun b2 w4 ⟨eb2,o4,z4,qj⟩=>?_,fun hg=>(Az (kG o3) hn.1 (by omega)).mono ?_,fun hg=>⟨by rw[hg];rfl,o3,by omega,sK⟩⟩
  ·refine(vG qj (kA o4) hF hn.2 (by omega) h0 h1).mono ?_;rintro _ w5 ⟨rfl,⟨a5,tJ,_,ha5⟩,dS⟩;have o5:=iI o4 dS;have z5:=dS.size;have KO:=(kT o5).len;have htb:=(kT o5).big;have htc:=(kT o5).cap;refine⟨_,rfl,sm z4 dS,fun kv i u=>∃j:Nat,i=(j:Int)/\kv+j=x.tg.length/\j<=x.tg.length/\(x.tg.take j).all cF=true/\ay [] w5 u,x.tg.length,⟨0,rfl,by omega,aQ _,rfl,Only.refl _ _⟩,?_⟩;rintro kv _ w6 ⟨j,rfl,O0,hj,eU,dG⟩;have z6:=dG.size;have o6:=iI o5 (only1 dG);refine⟨fun lJ=>?_,fun lJ=>?_⟩
   ·have lJ:=aG lJ;obtain⟨ad,s,cs,g1,g2,g3,g4,g5,g6⟩:=(kT o6).get (aO j) (by omega);rw[aM]at g2;have g6:cs=[ab (T s)]:=g6;subst g6;have sI:=be g2;have rj:s.length<=CM x.tg:=by
     have:=BT sI;omega
    refine⟨ad,g1,_,g5,(nS w6 s (by omega)).mono ?_⟩;rintro _ w7 ⟨rfl,fz⟩;refine⟨_,rfl,sm (by omega) (only1 fz),fun hh=>?_,fun hh=>⟨kv-1,by omega,j+1,by rw[fy (by omega) (by omega)];rfl,by omega,by omega,?_,dG.bP fz⟩⟩
    ·have hh:cF s=false:=by simpa using hh
     have:jA x=false:=by
      rw[<-Ca,show x.tg.all cF=false by rw[tQ];exact⟨s,sI,by rw[hh];simp⟩,fI]
     rw[this];exact⟨rfl,⟨_,_,(dG.bP fz).blk tJ (by simp),fun h=>(by cases h)⟩,iI o6 (only1 fz)⟩
    ·have hh:cF s=true:=by simpa using hh
     rw[bn,g2,iU,eU];simp[hh]
   ·have lJ:=aI lJ;have rB:j=x.tg.length:=by omega
    subst rB;rw[fu]at eU;have em:((((((decide (x.k>=1))&&(decide (x.k<=3)))&&b0)&&b2)&&x.acts.all fC)&&((x.wt==0)||((x.k==3)&&(decide (x.wt>0)))))=jA x:=by
     rw[<-Ca,eU,eb,eb2,cA]
    rw[em];refine⟨rfl,⟨_,_,dG.blk tJ (by simp),fun hm=>⟨rfl,ha5 ?_⟩⟩,o6⟩;rw[<-Ca]at hm;simp only[aE]at hm;exact hm.1.1.2
  ·rintro _ w8 ⟨rfl,fh⟩;have z8:=fh.size;exact⟨_,rfl,sm (by omega) (only1 fh),by rw[hg];rfl,iI o3 (only1 fh),by omega,fh.blk sK (by simp)⟩
 ·rintro _ w9 ⟨rfl,fK⟩;have z9:=fK.size;exact⟨_,rfl,sm (by omega) (only1 fK),by rw[if_pos (by simpa using hk)],iI o1 (only1 fK),by omega,fK.blk pi (by simp)⟩
end
end Go.Proofs.YtmhoiicofhlgbaaGreatDoor.Con
namespace Go.Proofs.YtmhoiicofhlgbaaGreatDoor.Con
open Go.Value renaming int->O,string->ab,pointer->ae,agg->ah,tuple->ai,bool->aj
open Go.IntKind renaming i64->U,wrap->ar
open Go.Ending renaming returned->ak
open _root_.ByteArray renaming mk->ao
open _root_.Go.Proofs.Tryz renaming prog->aq
open Go.Instr renaming buildSlice->au
open Go renaming World->av,Value->aw,Calls->az
open Go.Kt renaming Only->ay
open Go Go.RowKit Go.Kt Go.Kt.V Go.Proofs.YtmhoiicofhlgbaaGreatDoor.Vc
set_option linter.unusedSimpArgs false
set_option linter.unusedVariables false
set_option maxHeartbeats 1600000
set_option maxRecDepth 100000
def iJ (l:List Mv):Nat:=(l.map fun m=>m.acts.length).sum
theorem ED (l:List Mv) (m:Mv):iJ (l++[m])=iJ l+m.acts.length:=by
 unfold iJ;rw[di,Pf];simp
theorem vH:∀l:List Mv,iJ l<=vh l
 | []=>aQ _
 | m::l=>by
  have h1:=gq m.acts;have h2:=vH l;have h3:iJ (m::l)=m.acts.length+iJ l:=rfl;rw[vh,h3];unfold D9;omega
theorem EF (l:List Mv) (j:Nat):iJ (l.take j)<=iJ l:=by
 induction l generalizing j with
 | nil=>simp[iJ]
 | cons m l ih=>
  cases j with
  | zero=>exact aQ _
  | succ j=>
   have:=ih j;show m.acts.length+iJ (l.take j)<=m.acts.length+iJ l;omega
theorem NK (b:Nb):uO b<=An b:=by
 have h1:=gq b.en;have h2:=gq b.lv;have h3:=vH b.mv;have h4:uO b=b.en.length+b.lv.length+iJ b.mv:=rfl;unfold An;omega
mutual
theorem V3:∀x:Nd,rQ x<=mX x
 | .mk b l=>by
  have h1:=NK b;have h2:=Cb l;rw[rQ,mX];omega
theorem Cb:∀l:List Nd,jB l<=iq l
 | []=>aQ _
 | x::l=>by
  have h1:=V3 x;have h2:=Cb l;rw[jB,iq];omega
end
theorem EG:∀(l:List Nd) (j:Nat) {y:Nd},l[j]? =some y->gy (l.take j)+nQ y<=gy l
 | [],j,y,h=>by simp at h
 | x::l,0,y,h=>by
  simp only[cj,aJ]at h;subst h;rw[dr,gy,gy];omega
 | x::l,j+1,y,h=>by
  have:=EG l j (y:=y) (by simpa using h);rw[fL,gy,gy];omega
theorem AA:∀(l:List Nd) (j:Nat) {y:Nd},l[j]? =some y->iq (l.take j)+mX y<=iq l
 | [],j,y,h=>by simp at h
 | x::l,0,y,h=>by
  simp only[cj,aJ]at h;subst h;rw[dr,iq,iq];omega
 | x::l,j+1,y,h=>by
  have:=AA l j (y:=y) (by simpa using h);rw[fL,iq,iq];omega
theorem we {d:Nat} {y:Nd}:∀{l:List Nd},y∈l->jJ d y=false->gK d l=false
 | x::l,h,hy=>by
  rw[gK];rcases aL.1 h with rfl | h
  ·rw[hy,da]
  ·rw[we h hy,fI]
def ob (d:Nat) (n:Int) (x:Nd):Bool:=jJ d x&&decide (n+nQ x<=64)
def NcO (b:Nat) (w':av) (n m a:Int) (r:Bool) (x:Nd):Prop:=∃n' m' a':Int,pS w' b n' m' a'/\(r=true->n'=n+nQ x/\m'=m+rP x/\a'=a+rQ x)
theorem AB {F:Nat->Prop} {b:Nat} (hF:∀k,F k->k≠b):∀(D:Nat) {w:av} {n m a:Int} {d:Nat} {x:Nd} {cs:List aw},pS w b n m a->li false D w F x cs->vX x->mX x<=8388608->0<=n->n<=64->d<=100->0<=m->m+mX x<=1152921504606846976->0<=a->a+mX x<=1152921504606846976->
  az aq 95 #[ae (some ⟨b,0,none⟩),ah cs.toArray,O U (d:Int)] w fun e w'=>e=ak (aj (ob d n x))/\NcO b w' n m a (ob d n x) x/\ay [b] w w'
 | 0,_,_,_,_,_,_,_,_,h,_,_,_,_,_,_,_,_,_=>h.elim
 | D+1,w,n,m,a,d,.mk bb ks,cs,hc,⟨en,lv,mv,kids,kH,sJ,gN⟩,hn,hs,hn0,aq0,O3,Xf,wB,ha0,ha1=>by
  dsimp only[Nd.kids,Nd.b]at kH sJ gN;subst kH;have hk:=gN.1;rw[vX]at hn;obtain⟨hbn,P0⟩:=hn;obtain⟨zf,wl,Wx⟩:=hbn;obtain⟨he,hl,qn⟩:=sJ;rw[mX]at hs wB ha1;have hsb:=hs;have AM:uO bb=bb.en.length+bb.lv.length+iJ bb.mv:=rfl;have pi:=NK bb;unfold An at hs;have I1:=hc.lt;refine ret (agZ _ _ _ _ _ _ _ _ _ _ _ _ _ ?_);unfold aa4;have eN:nQ (.mk bb ks)=gy ks+1:=by rw[nQ]
  have eO:jJ d (.mk bb ks)=(decide (d<12)&&sC bb ks.length&&gK (d+1) ks):=by rw[jJ]
  intro k0 w0 gN dJ bT;have z0:=bT.size;have aeU:=bT.blk hc (by simp);have sm:∀{u u':av},w0.heap.size<=u.heap.size->ay [b] u u'->aR [k0] u u':=fun hz hO=>hO.same (by simp;omega);have bad:ob d n (.mk bb ks)=false->∀{u:av} {n' m' a':Int},ay [b] w u->pS u b n' m' a'->Value.bool false=aj (ob d n (.mk bb ks))/\NcO b u n m a (ob d n (.mk bb ks)) (.mk bb ks)/\ay [b] w u:=fun hr {_ _ _ _} hO hB=>⟨by rw[hr],⟨_,_,_,hB,fun h=>by rw[hr]at h;cases h⟩,hO⟩
  have kA:∀{u:av} {s:Sl} {l:List Ac},ja false (ot false) 9 116 w F s l->ay [b] w u->ja false (ot false) 9 116 u F s l:=fun h hO=>h.keep (ci false) (by decide) fun k hk bJ=>hO.block k bJ (by simpa using hF k hk);have eT:∀l:aB,((T l).toList==((ao #[]).toList))=decide (l=[]):=fun l=>gV l [];rw[eT,eT];refine⟨n,Blk.dI aeU 0 rfl,b,0,_,_,rfl,aeU,by simp,by omega,fun w1 bZ Sd=>?_⟩;have o1:ay [b] w w1:=iI (only1 bT) bZ;have z1:=bZ.size;rw[fy (by omega) (by omega)]at Sd;have Sd:pS w1 b (n+1) m a:=Sd;refine(nS w1 bb.nm (by omega)).mono ?_;rintro _ w2 ⟨rfl,cp⟩;have o2:=iI o1 (only1 cp);have z2:=cp.size;have kC:pS w2 b (n+1) m a:=cp.blk Sd (by simp);refine⟨_,rfl,sm (by omega) (only1 cp),n+1,fun _=>Blk.dI kC 0 rfl,fun hcond=>bad ?_ o2 kC,fun hcond=>?_⟩
  ·unfold ob;rw[eO,eN];simp only[bS,bX,bd]at hcond;rcases hcond with(h | h) | h
   ·unfold sC;rw[h];simp
   ·rw[aZ (p:=d<12) (by omega)];rfl
   ·rw[aZ (p:=n+((gy ks+1:Nat):Int)<=64) (by omega),fI]
  simp only[dX,ga]at hcond;have h64:n+1<=64:=by have:=aI hcond.2;omega
  have hdp:d<12:=by have:=aI hcond.1.2;omega
  have YA:cF bb.nm=true:=hcond.1.1;have Oo:=hk.len;have YG:=he.1.len;have CR:=hl.1.len;have OD:=qn.1.len;have eO2:jJ d (.mk bb ks)=(sC bb ks.length&&gK (d+1) ks):=by rw[eO,bh hdp,bK]
  refine⟨fun hh=>(nS w2 bb.dft (by omega)).mono ?_,fun hh=>?_⟩
  ·rintro _ w3 ⟨rfl,cO⟩;have hhi:j5 bb.k=true:=by
    unfold j5;rw[bS,cZ,cZ]at hh;exact bh hh
   have er:(((((cF bb.dft&&decide (bb.ini=[]))&&((en.n:Int)==0))&&((lv.n:Int)==0))&&((mv.n:Int)==0))&&((kids.n:Int)==0))=ob d n (.mk bb ks):=by
    unfold ob;rw[eO2,eN];unfold sC;rw[YA,hhi,if_pos rfl,bK,YG,CR,OD,Oo,bq];simp only[aE,bd,cZ];constructor
    ·rintro⟨⟨⟨⟨⟨h1,h2⟩,h3⟩,h4⟩,h5⟩,h6⟩;have hks:ks=[]:=bc (by omega);subst hks;refine⟨⟨⟨h1,h2,bc (by omega),bc (by omega),by omega,rfl⟩,by rw[gK]⟩,by rw[gy];omega⟩
    ·rintro⟨⟨⟨h1,h2,h3,h4,h5,h6⟩,_⟩,_⟩;exact⟨⟨⟨⟨⟨h1,h2⟩,by rw[h3];rfl⟩,by rw[h4];rfl⟩,by omega⟩,by omega⟩
   refine⟨_,rfl,sm (by omega) (only1 cO),by rw[er],⟨_,_,_,cO.blk kC (by simp),fun hr=>?_⟩,iI o2 (only1 cO)⟩;rw[<-er]at hr;simp only[aE,cZ]at hr;obtain⟨⟨⟨⟨_,h3⟩,h4⟩,h5⟩,h6⟩:=hr;have hks:ks=[]:=bc (by omega);subst hks;have akU:bb.mv=[]:=bc (by omega);rw[eN,rP,rQ,gy,ku,jB,AM,akU];refine⟨by omega,by simp,?_⟩;have:iJ []=0:=rfl;rw[this];omega
  have hhi:j5 bb.k=false:=by
   unfold j5;rw[dX,CK,CK]at hh;exact aZ fun e=>e.elim hh.1 hh.2
  have eB:sC bb ks.length=(decide ((bb.k=1∨bb.k=2)/\bb.dft=[])&&(decide (bb.ini=[])||cF bb.ini)&&bb.en.all fC&&bb.lv.all fC&&bb.mv.all jA):=by
   unfold sC;rw[YA,hhi,bK];rfl
  refine⟨fun b2 u=>b2=(decide (bb.ini=[])||cF bb.ini)/\ay [b] w u/\w0.heap.size<=u.heap.size/\pS u b (n+1) m a,fun b2 w4 ⟨eb2,o4,z4,qj⟩=>?_,fun hi=>(nS w2 bb.ini (by omega)).mono ?_,fun hi=>⟨?_,o2,by omega,kC⟩⟩;rotate_left
  ·rintro _ cY ⟨rfl,dP⟩;have E1:=dP.size;refine⟨_,rfl,sm (by omega) (only1 dP),?_,iI o2 (only1 dP),by omega,dP.blk kC (by simp)⟩;have:decide (bb.ini=[])=false:=by simpa using hi
   rw[this,uK]
  ·have:decide (bb.ini=[])=true:=by simpa using hi
   rw[this,G4]
  have aq3:=gq bb.en;have aq4:=gq bb.lv;refine(vG qj (kA he o4) hF zf (by omega) ha0 (by omega)).mono ?_;rintro _ w5 ⟨rfl,⟨a5,tJ,hr5,ha5⟩,dS⟩;have o5:=iI o4 dS;have z5:=dS.size;refine⟨_,rfl,sm z4 dS,(vG tJ (kA hl o5) hF wl (by omega) (by omega) (by omega)).mono ?_⟩;rintro _ w6 ⟨rfl,⟨a6,KU,hr6,ha6⟩,dG⟩;have o6:=iI o5 dG;have z6:=dG.size;have eC:((((((bb.k !=1)&&(bb.k !=2))||(!(decide (bb.dft=[]))))||(!b2))||(!bb.en.all fC))||(!bb.lv.all fC))=!(decide ((bb.k=1∨bb.k=2)/\bb.dft=[])&&(decide (bb.ini=[])||cF bb.ini)&&bb.en.all fC&&bb.lv.all fC):=by
   rw[eb2,wN,wN,wN];congr 3;rw[bq];simp only[bS,aE,bne_iff_ne,bX,ft,ne_eq];by_cases h1:bb.k=1<;>by_cases h2:bb.k=2<;>by_cases h3:bb.dft=[]<;>simp[h1,h2,h3]
  have kM:∀{u:av},ay [b] w u->SliceF (wV false) 13 u F mv bb.mv:=fun hO=>SliceF.only (gp false) (by decide) qn.1 hO fun k hk _ hm=>hF k hk (by simpa using hm);have kK:∀{u:av},ay [b] w u->SliceF (li false D) 9 u F kids ks:=fun hO=>SliceF.only (cf false D) (by decide) hk hO fun k hk _ hm=>hF k hk (by simpa using hm);have Xg:=lW bb.mv;refine⟨_,rfl,sm (by omega) dG,fun wL=>bad ?_ o6 KU,fun wL=>?_⟩
  ·rw[eC,bX]at wL;unfold ob;rw[eO2,eB,wL];rfl
  rw[eC,ga]at wL;have eB2:sC bb ks.length=bb.mv.all jA:=by rw[eB,wL,bK]
  simp only[aE]at wL;have ha5:=ha5 wL.1.2;have ha6:=ha6 wL.2;have sI:=vH bb.mv;have Xc:=mY ks;have sK:bb.mv.length<=An bb:=by unfold An;omega
  refine⟨fun kv i u=>∃j:Nat,i=(j:Int)/\kv+j=bb.mv.length/\j<=bb.mv.length/\(bb.mv.take j).all jA=true/\ay [b] w u/\w0.heap.size<=u.heap.size/\pS u b (n+1) (m+j) (a6+iJ (bb.mv.take j)),bb.mv.length,⟨0,rfl,by omega,aQ _,rfl,o6,by omega,by simpa[iJ]using KU⟩,?_⟩;rintro kv _ w7 ⟨j,rfl,O0,hj,eU,o7,z7,RW⟩;have kb:=EF bb.mv j;refine⟨fun lJ=>?_,fun lJ=>?_⟩
  ·have lJ:=aG lJ;obtain⟨ad,y,cs,g1,g2,g3,g4,g5,g6⟩:=(kM o7).get (aO j) (by omega);rw[aM]at g2;have tF:=be g2;have PY:=qY tF;have Cy:=g6;obtain⟨gc,pW,tg,rfl,hg,E5,za⟩:=g6;obtain⟨gs,rfl⟩:=dU hg;have od:bb.mv.take (j+1)=bb.mv.take j++[y]:=by rw[bn,g2];rfl
   refine⟨ad,g1,_,_,_,_,_,_,_,_,_,_,_,_,_,g5,(Kh RW Cy hF (Wx y tF) (by omega) (by omega) (by omega) (by omega) (by omega)).mono ?_⟩;rintro _ w8 ⟨rfl,⟨m8,a8,wm,h8⟩,fh⟩;have o8:=iI o7 fh;have z8:=fh.size;refine⟨_,rfl,sm z7 fh,fun hh=>bad ?_ o8 wm,fun hh=>?_⟩
   ·have hh:jA y=false:=by simpa using hh
    unfold ob;rw[eO2,eB2,show bb.mv.all jA=false by rw[tQ];exact⟨y,tF,by rw[hh];simp⟩];rfl
   ·have hh:jA y=true:=by simpa using hh
    obtain⟨rfl,rfl⟩:=h8 hh;refine⟨kv-1,by omega,j+1,by rw[fy (by omega) (by omega)];rfl,by omega,by omega,by rw[od,iU,eU];simp[hh],o8,by omega,?_⟩;rw[od,ED,show m+((j+1:Nat):Int)=m+j+1 by omega,show a6+((iJ (bb.mv.take j)+y.acts.length:Nat):Int)=a6+iJ (bb.mv.take j)+y.acts.length by omega];exact wm
  have lJ:=aI lJ;have rB:j=bb.mv.length:=by omega
  subst rB;rw[fu]at eU RW;have eO3:jJ d (.mk bb ks)=gK (d+1) ks:=by rw[eO2,eB2,eU,bK]
  have eA:a6+(iJ bb.mv:Int)=a+(uO bb:Int):=by omega
  rw[eA]at RW;refine⟨fun kv i u=>∃j:Nat,i=(j:Int)/\kv+j=ks.length/\j<=ks.length/\gK (d+1) (ks.take j)=true/\n+1+gy (ks.take j)<=64/\ay [b] w u/\w0.heap.size<=u.heap.size/\pS u b (n+1+gy (ks.take j)) (m+bb.mv.length+ku (ks.take j)) (a+uO bb+jB (ks.take j)),ks.length,⟨0,rfl,by omega,aQ _,by rw[dr,gK],by rw[dr,gy];omega,o7,z7,by rw[dr,gy,ku,jB];simpa using RW⟩,?_⟩;rintro kv2 _ w9 ⟨i,rfl,akW,hi,O8,h9,o9,z9,Xw⟩;refine⟨fun O9=>?_,fun O9=>?_⟩
  ·have O9:=aG O9;obtain⟨ad,y,cs,g1,g2,g3,g4,g5,g6⟩:=(kK o9).get (aO i) (by omega);rw[aM]at g2;have tF:=be g2;have PY:=oU tF;have Cy:=g6;obtain⟨D',rfl⟩:∃D',D=D'+1:=by
    cases D with
    | zero=>exact g6.elim
    | succ D'=>exact⟨D',rfl⟩
   obtain⟨uT,uU,pX,jq,rfl,_⟩:=g6;have od:ks.take (i+1)=ks.take i++[y]:=by rw[bn,g2];rfl
   have q1:=EG ks i g2;have q2:=AA ks i g2;have q3:=rS (ks.take i);have q4:=Cb (ks.take i);refine⟨ad,g1,_,_,_,_,uT,uU,pX,jq,_,g5,?_⟩;rw[fy (x:=(d:Int)+1) (by omega) (by omega),show(d:Int)+1=((d+1:Nat):Int) by omega];refine(AB hF (D'+1) (d:=d+1) Xw Cy (uq P0 tF) (by omega) (by omega) h9 (by omega) (by omega) (by omega) (by omega) (by omega)).mono ?_;rintro _ cK ⟨rfl,⟨n10,m10,a10,nt,hr⟩,dy⟩;have Yz:=iI o9 dy;have GI:=dy.size;refine⟨_,rfl,sm z9 dy,fun AQ=>bad ?_ Yz nt,fun AQ=>?_⟩
   ·have AQ:ob (d+1) (n+1+gy (ks.take i)) y=false:=by simpa using AQ
    unfold ob at AQ⊢;rw[oy]at AQ;rcases AQ with h | h
    ·rw[eO3,we tF h,da]
    ·have h:=aI h;rw[eN,aZ (p:=n+((gy ks+1:Nat):Int)<=64) (by omega),fI]
   ·have AQ:ob (d+1) (n+1+gy (ks.take i)) y=true:=by simpa using AQ
    obtain⟨rfl,rfl,rfl⟩:=hr AQ;unfold ob at AQ;rw[aE]at AQ;have aq5:=aG AQ.2;refine⟨kv2-1,by omega,i+1,by rw[fy (by omega) (by omega)];rfl,by omega,by omega,by rw[od,tA,O8,AQ.1];rfl,by rw[od,oV];omega,Yz,by omega,?_⟩;rw[od,oV,rT,vi,show n+1+((gy (ks.take i)+nQ y:Nat):Int)=n+1+gy (ks.take i)+nQ y by omega,show m+bb.mv.length+((ku (ks.take i)+rP y:Nat):Int)=m+bb.mv.length+ku (ks.take i)+rP y by omega,show a+uO bb+((jB (ks.take i)+rQ y:Nat):Int)=a+uO bb+jB (ks.take i)+rQ y by omega];exact nt
  ·have O9:=aI O9;have hie:i=ks.length:=by omega
   subst hie;rw[fu]at h9 O8 Xw;have er:ob d n (.mk bb ks)=true:=by
    unfold ob;rw[eO3,O8,eN,bK];exact bh (by omega)
   rw[er];refine⟨rfl,⟨_,_,_,Xw,fun _=>?_⟩,o9⟩;rw[eN,rP,rQ];omega
end Go.Proofs.YtmhoiicofhlgbaaGreatDoor.Con
namespace Go.Proofs.YtmhoiicofhlgbaaGreatDoor.Con
open Go.Value renaming int->O,string->ab,pointer->ae,agg->ah,tuple->ai,bool->aj
open Go.IntKind renaming i64->U,wrap->ar
open Go.Ending renaming returned->ak
open _root_.ByteArray renaming mk->ao
open _root_.Go.Proofs.Tryz renaming prog->aq
open Go.Instr renaming buildSlice->au
open Go renaming World->av,Value->aw,Calls->az
open Go.Kt renaming Only->ay
open Go Go.RowKit Go.Kt Go.Kt.V Go.Proofs.YtmhoiicofhlgbaaGreatDoor.Vc
set_option linter.unusedSimpArgs false
set_option linter.unusedVariables false
set_option maxHeartbeats 800000
set_option maxRecDepth 100000
theorem aco {w:av} {F:Nat->Prop} {D:Nat} {c:Ch} {vs:Sl} {cs:List aw} (hx:ChR false (D+1) w F c vs cs) (hn:PV c) (hs:nB c.vars+mX c.root<=8388608):
  az aq 45 #[ah (vs.v::cs).toArray] w fun e w'=>e=ak (aj (qk c))/\ay [] w w':=by
 obtain⟨en,lv,mv,kids,kH,_⟩:=hx.root;subst kH;refine ret (agS _ _ _ _ _ _ _ _ _ _ _ _ ?_);unfold aaX;intro k0 w0 gN dJ bT;have z0:=bT.size;have hvl:=hx.vars.1.len;have vI:c.vars.length<=nB c.vars:=by
  have:∀l:List Vr,l.length<=nB l:=fun l=>by induction l with
   | nil=>exact aQ _
   | cons a l ih=>rw[nB,aH];omega
  exact this _
 have kV:∀{u:av},ay [] w u->SliceF wW 3 u F vs c.vars:=fun hO=>SliceF.only ec (by decide) hx.vars.1 hO (by simp);have sm:∀{u u':av},w0.heap.size<=u.heap.size->ay [] u u'->aR [k0] u u':=fun hz hO=>hO.same (by simp;omega);refine⟨fun kv i u=>∃j:Nat,i=(j:Int)/\kv+j=c.vars.length/\j<=c.vars.length/\(c.vars.take j).all sF=true/\ay [] w u/\w0.heap.size<=u.heap.size,c.vars.length,⟨0,rfl,by omega,aQ _,rfl,bT,aK _⟩,?_⟩;rintro kv _ w1 ⟨j,rfl,O0,hj,eU,o1,z1⟩;refine⟨fun lJ=>?_,fun lJ k4 w3 sM E3 cO sK=>?_⟩
 ·have lJ:=aG lJ;obtain⟨ad,y,cs,g1,g2,g3,g4,g5,g6⟩:=(kV o1).get (aO j) (by omega);rw[aM]at g2;have tF:=be g2;have PY:=uv tF;have g6:cs=[ab (T y.n),O U y.v,O U y.a]:=g6;subst g6;refine⟨ad,g1,_,g5.part 0 fun i v hi=>oX hi rfl,(nS w1 y.n (by omega)).mono ?_⟩;rintro _ w2 ⟨rfl,cp⟩;have o2:=o1.bP cp;have z2:=cp.size;obtain⟨Gz,y',yV,p1,p2,p3,p4,p5,p6⟩:=(kV o2).get (aO j) (by omega);rw[aM,g2]at p2;injection p2 with p2;subst p2;have p6:yV=[ab (T y.n),O U y.v,O U y.a]:=p6;subst p6;have ev:((!cF y.n)||(y.v==(-9223372036854775808)))=!sF y:=by
   unfold sF;rw[wN];congr 1;rw[bq];simp
  refine⟨_,rfl,sm z1 cp,Gz,fun _=>p1,_,fun _=>p5.part 1 fun i v hi=>oX hi rfl,fun hh=>⟨?_,o2⟩,fun hh=>⟨kv-1,by omega,j+1,by rw[fy (by omega) (by omega)];rfl,by omega,by omega,?_,o2,by omega⟩⟩
  ·rw[ev,bX]at hh;have:c.vars.all sF=false:=by
    rw[tQ];exact⟨y,tF,by rw[hh];simp⟩
   have e:qk c=false:=by
    unfold qk;rw[show(c.vars.all fun v=>cF v.n&&decide (v.v≠ -9223372036854775808))=c.vars.all sF from rfl,this];rfl
   rw[e]
  ·rw[ev,ga]at hh;rw[bn,g2,iU,eU];simp[hh]
 ·have lJ:=aI lJ;have rB:j=c.vars.length:=by omega
  subst rB;rw[fu]at eU;have o3:=o1.bP cO;have z3:=cO.size;have hr3:li false (D+1) w3 (fun k=>F k/\k<w.heap.size) c.root _:=(cf false _).keep ((cf false _).inHeap hx.root) fun k _ bJ=>o3.block k bJ (by simp);refine(AB (F:=fun k=>F k/\k<w.heap.size) (b:=k4) (fun k hk=>by have:=hk.2;omega) (D+1) (n:=0) (m:=0) (a:=0) (d:=0) sK hr3 hn.2 (by omega) (by omega) (by omega) (by omega) (by omega) (by omega) (by omega) (by omega)).mono ?_;rintro _ w4 ⟨rfl,⟨n',m',a',qj,hr⟩,dm⟩;have akY:ay [] w w4:=(o3.yT (dm.p (F:=fun k=>w.heap.size<=k) fun x hx=>by simp only[aF]at hx;exact .inl (by omega))).only fun k hk=>hk;refine⟨_,rfl,dm.same (by simp;omega),n',m',a',qj,?_,akY⟩;congr 1;unfold qk;rw[show(c.vars.all fun v=>cF v.n&&decide (v.v≠ -9223372036854775808))=c.vars.all sF from rfl,eU,bK,hvl];cases AQ:ob 0 0 c.root with
  | false=>
   have:(jJ 0 c.root&&decide (nQ c.root<=64))=false:=by
    unfold ob at AQ;rw[<-AQ];congr 1;rw[bq,bd,bd];omega
   rw[oy]at this;simp only[da];symm;rcases this with h | h
   ·rw[h,da]
   ·have h:=aI h;rw[aZ (p:=c.root.b.k=1/\c.vars.length<=16/\nQ c.root<=64/\rP c.root<=200/\rQ c.root<=400) (fun e=>h e.2.2.1),fI]
  | true=>
   obtain⟨e1,e2,e3⟩:=hr AQ;unfold ob at AQ;rw[aE,bd]at AQ;rw[AQ.1,bK,bK,e2,e3,bq];simp only[aE,bd,cZ];omega
theorem acp {n:Int} (h0:0<=n) (h1:n<=18446744073709551615):ar .u64 n=n:=by
 have e:ar .u64 n=n % 18446744073709551616:=rfl;rw[e];omega
theorem II (w:av) {n:Int} (h:vR n):az aq 47 #[O U n] w fun e w'=>e=ak (ab (T (Lib.itoa n)))/\ay [] w w':=by
 obtain⟨h0,h1⟩:=h;by_cases hn:0<=n
 ·exact NF w hn h1
 refine ret (abc _ _ _ ?_);unfold U9;refine⟨fun hc=>absurd hc (by simp;omega),fun hc=>⟨fun aeQ=>?_,fun hp=>absurd (aI hp) (by omega)⟩⟩;have hsz:az aq 97 #[O U n] w fun e w'=>e=ak (.int .u64 (-n))/\w'=w:=by
  refine ret (abd _ _ _ ?_);unfold Va;refine⟨fun _=>⟨?_,rfl⟩,fun hp=>absurd (aI hp) (by omega)⟩;rw[fy (x:=n+1) (by omega) (by omega),fy (by omega) (by omega),acp (n:=0-(n+1)) (by omega) (by omega),acp (by omega) (by omega)];congr 1;omega
 refine hsz.mono ?_;rintro _ u ⟨rfl,hu⟩;obtain rfl:w=u:=hu.symm;obtain⟨k,hk⟩:∃k:Nat, -n=(k:Int):=⟨(-n).toNat,by omega⟩
 rw[hk];refine⟨_,rfl,(Ay k w (by omega)).mono ?_⟩;rintro _ w1 ⟨rfl,bZ⟩;have gN:¬k=0:=by omega
 have hl:=pQ k (by omega);rw[if_neg gN];refine⟨_,rfl,by rw[bI];omega,?_,bZ⟩;rw[show(ao #[45])=T [45]from rfl,dH];unfold Lib.itoa;rw[if_pos (by omega),show n.natAbs=k by omega];rfl
theorem IJ {n:Int} (h:vR n):(Lib.itoa n).length<=41:=by
 obtain⟨h0,h1⟩:=h;unfold Lib.itoa;split
 ·rw[aH];have:=pQ n.natAbs (by omega);omega
 ·have:=pQ n.toNat (by omega);omega
section
variable {w:av} {F:Nat->Prop}
theorem Gr (x:Ex):(rO x).length<=16384:=BQ x
theorem acq {y:Ac} (h:y.k=1):[115,101,116,32]++y.n++[32,61,32]++rO y.x++[59]=vV y:=by
 unfold vV;rw[if_neg (by omega),if_pos h];simp[nA]
theorem acr {y:Ac} (h:y.k=2):[114,97,105,115,101,32]++y.n++[59]=vV y:=by
 unfold vV;rw[if_pos h];simp[ik]
theorem acu {y:Ac} (h1:y.k≠1) (h2:y.k≠2):[101,109,105,116,32]++y.n++[32,61,32]++rO y.x++[59]=vV y:=by
 unfold vV;rw[if_neg h2,if_neg h1];simp[jz]
theorem Gs (y:Ac):(vV y).length<=BP y+16500:=by
 have:=Gr y.x;unfold BP;by_cases h1:y.k=1
 ·rw[<-acq h1];simp only[aD,aH,aN];omega
 ·by_cases h2:y.k=2
  ·rw[<-acr h2];simp only[aD,aH,aN];omega
  ·rw[<-acu h1 h2];simp only[aD,aH,aN];omega
theorem AD (a:Ac):∀l:List Ac,uj (l++[a])=uj l++(32::vV a)
 | []=>by simp[uj]
 | b::l=>by rw[cn,uj,uj,AD a l];simp
theorem V4 {y:Ac} {cs:List aw} (hx:ot false w F y cs) (hn:Ai y) (hs:BP y<=8388608):
  az aq 165 #[ah cs.toArray] w fun e w'=>e=ak (ab (T (vV y)))/\ay [] w w':=by
 have hal:=Gs y;obtain⟨xc,rfl,N0⟩:=hx;obtain⟨xs,rfl⟩:=dU N0;unfold BP at hs hal;have IZ:=Gr y.x;refine ret (ahv _ _ _ _ _ _ _ _ _ _ _ ?_);unfold abE;have b1:(ao #[115,101,116,32])=T [115,101,116,32]:=rfl;have b2:(ao #[32,61,32])=T [32,61,32]:=rfl;have b3:(ao #[59])=T [59]:=rfl;have b4:(ao #[114,97,105,115,101,32])=T [114,97,105,115,101,32]:=rfl;have b5:(ao #[101,109,105,116,32])=T [101,109,105,116,32]:=rfl;simp only[b1,b2,b3,b4,b5,dH,bI];have kE:∀{u:av},ay [] w u->rE false u F y.x (jy y.x.k y.x.n y.x.s y.x.op xs y.x.a):=fun hO=>(fO false).keep N0 fun k _ bJ=>hO.block k bJ (by simp);have ln:∀{l m:aB},(l++m).length=l.length+m.length:=aD;refine⟨fun h1 k0 w0 gN dJ bT=>⟨fun k=>k=k0,rfl,by omega,by rw[ln];simp only[aH,aN];omega,(B9 (kE bT) hn (by omega)).mono ?_⟩,fun h1=>⟨fun h2=>⟨by omega,by rw[ln];simp only[aH,aN];omega,fun k1 w2 _ _ hO=>⟨by rw[acr (by simpa using h2)],hO⟩⟩,fun h2 k2 w3 nW nD cO=>⟨fun k=>k=k2,rfl,by omega,by rw[ln];simp only[aH,aN];omega,(B9 (kE cO) hn (by omega)).mono ?_⟩⟩⟩
 ·rintro _ w1 ⟨rfl,bZ⟩;refine⟨_,rfl,bZ.same (by simp;omega),bE.only bZ,?_,?_,by rw[dH,dH,acq (by simpa using h1)],bT.bP bZ⟩
  ·rw[bI];simp only[aD,aH,aN];omega
  ·rw[dH,bI];simp only[aD,aH,aN];omega
 ·rintro _ w1 ⟨rfl,bZ⟩;refine⟨_,rfl,bZ.same (by simp;omega),bE.only bZ,?_,?_,by rw[dH,dH,acu (by simpa using h1) (by simpa using h2)],cO.bP bZ⟩
  ·rw[bI];simp only[aD,aH,aN];omega
  ·rw[dH,bI];simp only[aD,aH,aN];omega
theorem Ce:∀l:List Ac,gX l<=1048576->(uj l).length<=l.length*1065080
 | [],_=>aQ _
 | a::l,h=>by
  have h1:=Gs a;have h2:BP a<=gX (a::l):=oT (by simp);have h3:gX l<=gX (a::l):=by rw[gX];omega
  have h4:=Ce l (by omega);rw[uj,aH,aD,aH,fp];omega
theorem yS {l:Sl} {rC:List Ac} (hl:ja false (ot false) 9 116 w F l rC) (hn:∀y,y∈rC->Ai y) (hs:gX rC<=1048576):
  az aq 98 #[l.v] w fun e w'=>e=ak (ab (T (sP rC)))/\ay [] w w':=by
 refine ret (ahu _ _ _ ?_);unfold abD;have hln:=hl.1.len;have CR:=gq rC;have kp:∀{u:av},ay [] w u->SliceF (ot false) 9 u F l rC:=fun hO=>SliceF.only (ci false) (by decide) hl.1 hO (by simp);refine⟨fun kv s i u=>∃(j:Nat) (t:aB),s=T t/\t=123::uj (rC.take j)/\i=(j:Int)/\kv+j=rC.length/\j<=rC.length/\t.length<=1+j*1065080/\ay [] w u,rC.length,⟨0,[123],rfl,rfl,rfl,by omega,aQ _,by simp,Only.refl _ _⟩,?_⟩;rintro kv _ _ w0 ⟨j,t,rfl,et,rfl,O0,hj,ht,hO⟩;refine⟨fun lJ=>?_,fun lJ=>?_⟩
 ·have lJ:=aG lJ;obtain⟨ad,y,cs,g1,g2,g3,g4,g5,g6⟩:=(kp hO).get (aO j) (by omega);rw[aM]at g2;have tF:=be g2;have PY:=oT tF;have Cy:=g6;obtain⟨xc,rfl,N0⟩:=g6;obtain⟨xs,rfl⟩:=dU N0;refine⟨by rw[bI];omega,ad,g1,_,_,_,_,_,_,_,_,_,g5,(V4 Cy (hn y tF) (by omega)).mono ?_⟩;rintro _ w1 ⟨rfl,bZ⟩;have hm:=Gs y;have OD:(t++[32]++vV y).length<=1+(j+1)*1065080:=by
   rw[aD,aD,aW,fp];omega
  refine⟨_,rfl,?_,kv-1,by omega,j+1,t++[32]++vV y,?_,by rw[bn,g2,et];show _=123::uj (rC.take j++[y]);rw[AD];simp,by rw[fy (by omega) (by omega)];rfl,by omega,by omega,OD,hO.bP bZ⟩
  ·rw[show(ao #[32])=T [32]from rfl,dH,bI,bI,aD,aW];omega
  ·rw[show(ao #[32])=T [32]from rfl,dH,dH]
 ·have lJ:=aI lJ;have rB:j=rC.length:=by omega
  subst rB;refine⟨by rw[bI];omega,?_,hO⟩;rw[show(ao #[32,125])=T [32,125]from rfl,dH,et,fu];rfl
def Pw:List (aB)->aB
 | []=>[]
 | s::l=>32::45::62::32::(s++Ah l)
theorem EH (s:aB):∀l:List (aB),Ah (l++[s])=Ah l++[44,32]++s
 | []=>by simp[Ah]
 | b::l=>by rw[cn,Ah,Ah,EH s l];simp
theorem NL (s:aB):∀l:List (aB),Pw (l++[s])=Pw l++(if l=[]then[32,45,62,32]else[44,32])++s
 | []=>by simp[Pw,Ah]
 | b::l=>by rw[cn,Pw,Pw,EH s l,if_neg (by simp)];simp
theorem V5 (m:Mv):Po m++JK m++(if m.acts=[]then[]else 32::sP m.acts)++Pw m.tg++[59]=yD m:=by
 unfold yD;cases m.tg<;>simp[Pw]
theorem RA {x:Mv} {cs:List aw} (hx:wV false w F x cs) (hn:KW x) (hs:D9 x<=1048576):
  az aq 63 #[ah cs.toArray] w fun e w'=>e=ak (ab (T (yD x)))/\(yD x).length<=3000000000000/\ay [] w w':=by
 obtain⟨gc,pW,tg,rfl,hg,E5,za⟩:=hx;obtain⟨gs,rfl⟩:=dU hg;unfold D9 at hs;have hwt:vR x.wt:=hn.w;refine((ahx x.k (T x.ev) x.wt x.gd x.g.k x.g.n (T x.g.s) x.g.op gs x.g.a pW tg x.a (fun v w'=>v=ab (T (yD x))/\(yD x).length<=3000000000000/\ay [] w w') w ?_)).mono (by rintro _ w' ⟨v,rfl,rfl,h,h'⟩;exact⟨rfl,h,h'⟩);unfold abG;intro k0 w0 gN dJ bT;have z0:=bT.size;have sm:∀{u u':av},w0.heap.size<=u.heap.size->ay [] u u'->aR [k0] u u':=fun hz hO=>hO.same (by simp;omega);have kT:∀{u:av},ay [] w u->SliceF iW 1 u F tg x.tg:=fun hO=>SliceF.only cG (by decide) za.1 hO (by simp);have IZ:=Gr x.g;have hal:=gq x.acts;have KO:=BS x.tg;have oY:=E5.1.len;have htn:=za.1.len;let St (K:Nat) (v:aB):asw->av->Prop:=fun s u=>∃t:aB,s=T t/\t.length<=K/\ay [] w u/\w0.heap.size<=u.heap.size/\t=v
 refine⟨St 1048600 (if x.k=1 then wx++32::x.ev else fA),fun s0 w1 ⟨t0,e0,h0,o0,y0,v0⟩=>⟨St 1048700 (Po x),fun s1 w2 ⟨t1,e1,h1,o1,y1,v1⟩=>⟨St 1066000 (Po x++JK x),fun s2 w3 ⟨t2,e2,h2,o2,y2,v2⟩=>⟨St 1117000000000 (Po x++JK x++(if x.acts=[]then[]else 32::sP x.acts)),fun s3 w4 ⟨t3,e3,h3,o3,y3,v3⟩=>?_,fun hc=>?_,fun hc=>⟨t2,e2,by omega,o2,y2,?_⟩⟩,fun hc=>?_,fun hc=>⟨t1,e1,by omega,o1,y1,?_⟩⟩,fun hc=>?_,fun hc=>⟨t0,e0,by omega,o0,y0,?_⟩⟩,fun hc=>?_,fun hc=>⟨[97,108,119,97,121,115],rfl,by decide,bT,aK _,by rw[if_neg (by simpa using hc)];rfl⟩⟩
 ·subst e3;refine⟨fun kv s i u=>∃(j:Nat) (t:aB),s=T t/\t=t3++Pw (x.tg.take j)/\i=(j:Int)/\kv+j=x.tg.length/\j<=x.tg.length/\t.length<=1117000000000+j*1048590/\ay [] w u,x.tg.length,⟨0,t3,rfl,by rw[dr,Pw,br],rfl,by omega,aQ _,by omega,o3⟩,?_⟩;rintro kv _ _ w5 ⟨j,t,rfl,et,rfl,O0,hj,ht,hO⟩;refine⟨fun lJ=>⟨fun s u=>∃t':aB,s=T t'/\t'.length<=t.length+4/\u=w5/\t'=t++(if j=0 then[32,45,62,32]else[44,32]),?_,fun h0=>⟨by rw[bI];omega,t++[32,45,62,32],by rw[show(ao #[32,45,62,32])=T [32,45,62,32]from rfl,dH],by simp,rfl,by rw[if_pos (by simpa using h0)]⟩,fun h0=>⟨by rw[bI];omega,t++[44,32],by rw[show(ao #[44,32])=T [44,32]from rfl,dH],by simp,rfl,by rw[if_neg (by simpa using h0)]⟩⟩,fun lJ=>?_⟩
  ·have lJ:=aG lJ;rintro _ w6 ⟨t',rfl,ht',hw,et'⟩;obtain rfl:w5=w6:=hw.symm;obtain⟨ad,s,cs,g1,g2,g3,g4,g5,g6⟩:=(kT hO).get (aO j) (by omega);rw[aM]at g2;have rj:=BT (be g2);have g6:cs=[ab (T s)]:=g6;subst g6;refine⟨ad,g1,_,g5,by rw[bI,bI];omega,kv-1,by omega,j+1,t'++s,by rw[dH],?_,by rw[fy (by omega) (by omega)];rfl,by omega,by omega,?_,hO⟩
   ·rw[bn,g2,et',et];show _=t3++Pw (x.tg.take j++[s]);rw[NL];have e:(x.tg.take j=[])↔j=0:=by
     constructor
     ·intro h;have:=bp List.length h;rw[cM,aN]at this;omega
     ·intro h;rw[h,dr]
    simp only[e,aV]
   rw[aD,fp];omega
  ·have lJ:=aI lJ;have rB:j=x.tg.length:=by omega
   subst rB;rw[fu]at et;have em:t++[59]=yD x:=by rw[et,v3,V5]
   refine⟨by rw[bI];omega,by rw[show(ao #[59])=T [59]from rfl,dH,em],?_,hO⟩;rw[<-em,aD,aW];have:x.tg.length*1048590<=1048576*1048590:=dW _ (by omega);omega
 ·subst e2;have hbb:x.acts.length*1065080<=1048576*1065080:=dW _ (by omega);refine⟨by rw[bI];omega,(yS (E5.keep (ci false) (by decide) fun k _ bJ=>o2.block k bJ (by simp)) hn.a (by omega)).mono ?_⟩;rintro _ w7 ⟨rfl,fz⟩;have ht:(sP x.acts).length<=3+x.acts.length*1065080:=by
   have:=Ce x.acts (by omega);unfold sP;rw[aH,aD];simp only[aH,aN];omega
  have z7:=fz.size;refine⟨_,rfl,sm y2 fz,?_,t2++[32]++sP x.acts,by rw[show(ao #[32])=T [32]from rfl,dH,dH],?_,o2.bP fz,by omega,?_⟩
  ·rw[show(ao #[32])=T [32]from rfl,dH,bI,bI,aD,aW];omega
  ·rw[aD,aD,aW];omega
  ·have hc:=aG hc;rw[v2,if_neg (fun e=>by rw[e]at oY;simp at oY;omega)];simp
 ·have hc:=aI hc;rw[v2,if_pos (bc (by omega)),br]
 ·subst e1;refine⟨by rw[bI];omega,(B9 ((fO false).keep hg fun k _ bJ=>o1.block k bJ (by simp)) hn.1 (by omega)).mono ?_⟩;rintro _ w8 ⟨rfl,fh⟩;have z8:=fh.size;refine⟨_,rfl,sm y1 fh,?_,?_,t1++[32,91]++rO x.g++[93],by rw[show(ao #[32,91])=T [32,91]from rfl,show(ao #[93])=T [93]from rfl,dH,dH,dH],?_,o1.bP fh,by omega,by rw[v1];unfold JK;rw[hc,if_pos rfl];simp⟩
  ·rw[show(ao #[32,91])=T [32,91]from rfl,dH,bI,bI,aD];simp only[aH,aN];omega
  ·rw[show(ao #[32,91])=T [32,91]from rfl,dH,dH,bI,aD,aD];simp only[aH,aN];omega
  ·simp only[aD,aH,aN];omega
 ·rw[v1];unfold JK;rw[hc,if_neg (by simp),br]
 ·refine(II w1 hwt).mono ?_;rintro _ w9 ⟨rfl,fK⟩;have z9:=fK.size;have:=IJ hwt;refine⟨_,rfl,sm y0 fK,by rw[bI];omega,[97,102,116,101,114,32]++Lib.itoa x.wt,by rw[show(ao #[97,102,116,101,114,32])=T [97,102,116,101,114,32]from rfl,dH],?_,o0.bP fK,by omega,?_⟩
  ·rw[aD];simp only[aH,aN];omega
  ·have hc:x.k=3:=by simpa using hc
   unfold Po;rw[if_neg (by omega),if_pos hc];simp[fU]
 ·have hc:¬x.k=3:=by simpa using hc
  rw[v0];unfold Po;rw[if_neg hc]
 ·refine⟨by rw[bI];omega,[111,110,32]++x.ev,by rw[show(ao #[111,110,32])=T [111,110,32]from rfl,dH],?_,bT,aK _,?_⟩
  ·rw[aD];simp only[aH,aN];omega
  ·rw[if_pos (by simpa using hc)];simp[wx]
end
structure Prg (w:av) (b:Nat) (sl:Sl) (l:aB):Prop where
 blk:Blk w b 86 [sl.v]
 buf:Bf w (b+1) sl l
section
variable {w w0 w1 w2 w':av} {b k0:Nat} {sl fW Ku:Sl} {l:aB}
theorem Prg.only (h:Prg w b sl l) (hO:ay [] w w'):Prg w' b sl l:=⟨hO.blk h.blk (by simp),h.buf.keep fun g _ hl=>hO.block g hl (by simp)⟩
theorem Prg.lb (h:Prg w b sl l):b<w.heap.size:=h.blk.lt
theorem Prg.NW (h:Prg w b sl l) {k:Nat} (hk:k<b):¬(k=b∨sl.a=some ⟨k,0,none⟩):=by
 rintro(e | e)
 ·omega
 ·have:=(h.buf.lt e).1;omega
theorem Prg.put {s':Sl} {m:aB} {e:TypeId} (h:Prg w b sl l) (k2:Bf w1 (b+1) s' m) (k3:OnlyP (fun k=>sl.a=some ⟨k,0,none⟩) w w1) (k4:∀k,s'.a=some ⟨k,0,none⟩->sl.a=some ⟨k,0,none⟩∨w.heap.size<=k):
  Blk w1 b 86 [sl.v]/\∀w2,ay [b] w1 w2->Blk w2 b 86 [s'.v]->Prg w2 b s' m/\ir b sl w s' w2:=by
 have hb:=h.lb;refine⟨k3.blk h.blk fun e=>by have:=(h.buf.lt e).1;omega,fun w2 cp kC=>⟨⟨kC,k2.keep fun g hg hl=>cp.block g hl (by have:=(k2.lt hg).1;simp;omega)⟩,(k3.mono fun k _ hk=>.inr hk).trans (cp.p (F:=fun k=>k=b) fun x hx=>.inl (by simpa using hx)) fun k hk=>.inl (.inl hk),k4⟩⟩
theorem acw {B:Nat} (h:Bf w B sl l) (cs:aB) {n:Nat} {parts:Array (Nat×aw)} (hp:parts=(((cs.map fx).zipIdx 0).map fun x=>(x.2,x.1)).toArray) (hn:cs.length=n) (h0:0<n) (sI:n*1<=16777216) (hB:B<=w.heap.size) (hm:l.length+cs.length<=140737488355328):
  ∃y w1,(au 68 n parts).run aq w=.ok (Sl.v y) w1/\ay [] w w1/\∃s' w2,(Builtin.append_ #[68,68] 68 #[Sl.v sl,Sl.v y]).run aq w1=.ok (Sl.v s') w2/\Bf w2 B s' (l++cs)/\
   OnlyP (fun k=>sl.a=some ⟨k,0,none⟩) w w2/\∀k,s'.a=some ⟨k,0,none⟩->sl.a=some ⟨k,0,none⟩∨w.heap.size<=k:=by
 obtain⟨y,w1,k1,k2,k3,_⟩:=pH w cs hp hn h0 sI;have z1:=k3.size;have h1:Bf w1 B sl l:=h.keep fun g hg hl=>k3.block g hl (by simp);obtain⟨s',w2,m1,m2,gs,m3,m4,m5⟩:=pu (P:=aq) (t:=68) (ty:=68) (e:=5) (i:=Tryz.t5) (bytes:=1) (size:=1) (r:=jE) yy BK rfl rfl rfl rfl oz (h1.own fun _=>True) ((uc k2).mono oz fun k hk=>⟨trivial,fun e=>by have:=(h.lt e).2;have:=hk.1;omega⟩) (by omega) (by omega) (by decide);refine⟨y,w1,k1,k3,s',w2,m1,Bf.of m2 (by rw[aD];omega),k3.yT (m3.p fun x hx=>.inl (m4 x hx).1),fun k hk=>?_⟩;rcases m5 with e | e
 ·rw[e]at hk;exact .inl hk
 ·rw[e]at hk;injection hk with hk;injection hk with hk;exact .inr (by omega)
theorem AE:∀d,qV (d+1)=qV d++[32,32]
 | 0=>rfl
 | d+1=>by
  show 32::32::qV (d+1)=(32::32::qV d)++[32,32]
  rw[AE d];rfl
theorem Cf:∀d,(qV d).length=2*d
 | 0=>rfl
 | d+1=>by rw[qV,aH,aH,Cf d];omega
theorem IK {l m:aB} {d:Nat} (hl:l.length<=4000000000000) (hd:d<=4194304) (hm:m.length<=3000000000010):(gW l (d,m)).length<=4000000000000:=by
 unfold gW;split
 ·exact hl
 ·unfold Vq;rw[aD,aD,aD,Cf];simp only[aH,aN];omega
theorem IL (h:Prg w b sl l) {d:Nat} (O3:d<=4194304) (m:aB) (hm:m.length<=3000000000010):
  az aq 46 #[ae (some ⟨b,0,none⟩),O U (d:Int),ab (T m)] w fun e w'=>e=ak (ai #[])/\∃(fW:Sl),Prg w' b fW (gW l (d,m))/\ir b sl w fW w':=by
 refine ret (ahs _ _ _ _ _ ?_);unfold abB;have hn:=h.buf.len;have hb:=h.lb;refine⟨sl,Blk.dI h.blk 0 rfl,fun hc=>⟨rfl,sl,?_,ir.refl _ _ _⟩,fun hc=>?_⟩
 ·have hc:=aG hc;unfold gW;rw[if_pos (by omega)];exact h
 have hc:l.length<=16384:=by have:=aI hc;omega
 have ep:gW l (d,m)=l++qV d++m++[10]:=by
  unfold gW Vq;rw[if_neg (by omega)];simp
 rw[ep];refine⟨fun kv i u=>∃(j:Nat) (q:Sl),i=(j:Int)/\kv+j=d/\Prg u b q (l++qV j)/\ir b sl w q u,d,⟨0,sl,rfl,by omega,by rw[qV,br];exact h,ir.refl _ _ _⟩,?_⟩;rintro kv _ w0 ⟨j,q,rfl,O0,hP,hM⟩;have EM:=hP.lb;have ht:(l++qV j).length<=16384+2*j:=by rw[aD,Cf];omega
 refine⟨fun lJ=>?_,fun lJ=>?_⟩
 ·have lJ:=aG lJ;obtain⟨y,w1,a1,a2,s',w2,a3,a4,a5,a6⟩:=acw hP.buf [32,32] (n:=2) (parts:=#[.mk 0 (.int .u8 32),.mk 1 (.int .u8 32)]) rfl rfl (by decide) (by decide) (by omega) (by rw[aH,aW];omega);obtain⟨c1,c2⟩:=hP.put (e:=0) a4 a5 a6;refine⟨q,Blk.dI hP.blk 0 rfl,y,w1,a1,s',w2,a3,b,0,_,_,rfl,c1,aK 1,fun w3 cO sK=>?_⟩;obtain⟨c3,c4⟩:=c2 w3 cO sK;exact⟨kv-1,by omega,j+1,s',by rw[fy (by omega) (by omega)];rfl,by omega,by rw[AE,<-aV];exact c3,hM.trans c4⟩
 ·have lJ:=aI lJ;have rB:j=d:=by omega
  subst rB;obtain⟨s',w1,k1,k2,k3,k4⟩:=wY hP.buf m (by omega) (by omega);obtain⟨c1,c2⟩:=hP.put (e:=0) k2 k3 fun k hk=>by
   rcases k4 with e | e
   ·rw[e]at hk;exact .inl hk
   ·rw[e]at hk;injection hk with hk;injection hk with hk;exact .inr (by omega)
  refine⟨q,Blk.dI hP.blk 0 rfl,s',w1,k1,b,0,_,_,rfl,c1,aK 1,fun w2 cp kC=>?_⟩;obtain⟨UA,hM2⟩:=c2 w2 cp kC;have wl:=UA.lb;obtain⟨y,w3,a1,a2,s5,w4,a3,a4,a5,a6⟩:=acw UA.buf [10] (n:=1) (parts:=#[.mk 0 (.int .u8 10)]) rfl rfl (by decide) (by decide) (by omega) (by rw[aD,aW];omega);obtain⟨d1,d2⟩:=UA.put (e:=0) a4 a5 a6;refine⟨s',Blk.dI UA.blk 0 rfl,y,w3,a1,s5,w4,a3,b,0,_,_,rfl,d1,aK 1,fun w5 dS tJ=>?_⟩;obtain⟨d3,d4⟩:=d2 w5 dS tJ;exact⟨rfl,s5,d3,(hM.trans hM2).trans d4⟩
end
end Go.Proofs.YtmhoiicofhlgbaaGreatDoor.Con
namespace Go.Proofs.YtmhoiicofhlgbaaGreatDoor.Con
open Go.Value renaming int->O,string->ab,pointer->ae,agg->ah,tuple->ai,bool->aj
open Go.IntKind renaming i64->U,wrap->ar
open Go.Ending renaming returned->ak
open _root_.ByteArray renaming mk->ao
open _root_.Go.Proofs.Tryz renaming prog->aq
open Go.Instr renaming buildSlice->au
open Go renaming World->av,Value->aw,Calls->az
open Go.Kt renaming Only->ay
open Go Go.RowKit Go.Kt Go.Kt.V Go.Proofs.YtmhoiicofhlgbaaGreatDoor.Vc
set_option linter.unusedSimpArgs false
set_option linter.unusedVariables false
set_option maxHeartbeats 1600000
set_option maxRecDepth 100000
mutual
def Px:Nd->Prop
 | .mk b ks=>(1<=b.k/\b.k<=4)/\Gu ks
def Gu:List Nd->Prop
 | []=>True
 | x::l=>Px x/\Gu l
end
theorem EI {x:Nd}:∀{l:List Nd},Gu l->x∈l->Px x
 | y::l,h,hx=>by
  rw[Gu]at h;rcases aL.1 hx with rfl | hx
  ·exact h.1
  ·exact EI h.2 hx
mutual
theorem NM:∀(d:Nat) (x:Nd),jJ d x=true->Px x
 | d,.mk b l,h=>by
  rw[jJ,aE,aE]at h;rw[Px];refine⟨?_,IM (d+1) l h.2⟩;have h1:=h.1.2;unfold sC at h1;rw[aE]at h1;have h2:=h1.2;by_cases hh:j5 b.k=true
  ·unfold j5 at hh;have:=aG hh;omega
  ·rw[if_neg hh]at h2;simp only[aE,bd]at h2;omega
theorem IM:∀(d:Nat) (l:List Nd),gK d l=true->Gu l
 | _,[],_=>by rw[Gu];trivial
 | d,x::l,h=>by
  rw[gK,aE]at h;rw[Gu];exact⟨NM d x h.1,IM d l h.2⟩
end
def mc (w:av) (b:Nat) (sl:Sl) (w0:av) (s0:Sl) (l:aB):Prop:=(Prg w b sl l/\l.length<=4000000000000)/\ir b s0 w0 sl w
theorem mc.line {w w0:av} {b:Nat} {sl s0:Sl} {l:aB} (h:mc w b sl w0 s0 l) {d:Nat} (O3:d<=4194304) (m:aB) (hm:m.length<=3000000000010) {k0:Nat} (h1:k0≠b) (h2:s0.a≠some ⟨k0,0,none⟩) (h3:k0<w0.heap.size):
  az aq 46 #[ae (some ⟨b,0,none⟩),O U (d:Int),ab (T m)] w fun e w'=>e=ak (ai #[])/\aR [k0] w w'/\∃fW,mc w' b fW w0 s0 (gW l (d,m)):=by
 obtain⟨⟨hP,hl⟩,hM⟩:=h;refine(IL hP O3 m hm).mono ?_;rintro _ w' ⟨rfl,fW,hP',hM'⟩;exact⟨rfl,hM.sm h1 h2 h3 hM',fW,⟨hP',IK hl O3 hm⟩,hM.trans hM'⟩
theorem mc.only {w w' w0:av} {b:Nat} {sl s0:Sl} {l:aB} (h:mc w b sl w0 s0 l) (hO:ay [] w w'):mc w' b sl w0 s0 l:=by
 obtain⟨⟨hP,hl⟩,hM⟩:=h;exact⟨⟨hP.only hO,hl⟩,hM.trans (ir.only hO)⟩
def NdC (D:Nat):Prop:=∀{F:Nat->Prop} {w:av} {b:Nat} {sl:Sl} {l:aB} {x:Nd} {cs:List aw} {d:Nat},li false D w F x cs->(∀k,F k->k<b)->Prg w b sl l->l.length<=4000000000000->vX x->Px x->mX x<=1048576->d+nQ x<=4000000->
 az aq 99 #[ae (some ⟨b,0,none⟩),ah cs.toArray,O U (d:Int)] w fun e w'=>e=ak (ai #[])/\∃(fW:Sl),Prg w' b fW (cT l (ze d x))/\(cT l (ze d x)).length<=4000000000000/\ir b sl w fW w'
theorem IP {D:Nat} (hD:NdC D) {F:Nat->Prop} {w:av} {b:Nat} {sl:Sl} {l:aB} {x:Nd} {cs:List aw} {d:Nat} (hx:li false (D+1) w F x cs) (hF:∀k,F k->k<b) (hP:Prg w b sl l) (hl:l.length<=4000000000000) (hn:vX x) (G0:Px x) (hs:mX x<=1048576) (O3:d+nQ x<=4000001):
  az aq 48 #[ae (some ⟨b,0,none⟩),ah cs.toArray,O U (d:Int)] w fun e w'=>e=ak (ai #[])/\∃(fW:Sl),Prg w' b fW (cT l (zx d x.b++lV d x.kids))/\(cT l (zx d x.b++lV d x.kids)).length<=4000000000000/\ir b sl w fW w':=by
 obtain⟨bb,ks⟩:=x;obtain⟨en,lv,mv,kids,kH,sJ,gN⟩:=hx;dsimp only[Nd.kids,Nd.b]at kH sJ gN;subst kH;have hk:=gN.1;rw[vX]at hn;rw[Px]at G0;obtain⟨⟨zf,wl,Wx⟩,P0⟩:=hn;obtain⟨he,vM,qn⟩:=sJ;rw[mX]at hs;rw[nQ]at O3;unfold An at hs;have I1:=hP.lb;refine ret (aht _ _ _ _ _ _ _ _ _ _ _ _ _ ?_);unfold abC;intro k0 w0 dJ uJ bT;have z0:=bT.size;have CG:k0≠b:=by omega
 have CH:sl.a≠some ⟨k0,0,none⟩:=fun e=>by have:=(hP.buf.lt e).2;omega
 have h0:mc w0 b sl w0 sl l:=⟨⟨hP.only bT,hl⟩,ir.refl _ _ _⟩
 have nF:∀k,F k->¬(k=b∨sl.a=some ⟨k,0,none⟩):=fun k wI=>hP.NW (hF k wI);have fr:∀{u:av} {q:Sl} {L:aB},mc u b q w0 sl L->∀k,F k->k<w.heap.size->u.heap[k]? =w.heap[k]? :=fun{u q L} h k wI bJ=>(h.2.1.block k (by omega) (nF k wI)).trans (bT.block k bJ (by simp));have sz:∀{u:av} {q:Sl} {L:aB},mc u b q w0 sl L->w0.heap.size<=u.heap.size:=fun h=>h.2.1.size;have sm:∀{u u':av} {q:Sl} {L:aB},mc u b q w0 sl L->ay [] u u'->aR [k0] u u':=fun h hO=>hO.same (by have:=sz h;simp;omega);have kA:∀{u:av} {q s:Sl} {la:List Ac} {L:aB},ja false (ot false) 9 116 w F s la->mc u b q w0 sl L->ja false (ot false) 9 116 u F s la:=fun h hp=>h.keep (ci false) (by decide) (fr hp);have kM:∀{u:av} {q:Sl} {L:aB},mc u b q w0 sl L->SliceF (wV false) 13 u F mv bb.mv:=fun hp=>(qn.keep (gp false) (by decide) (fr hp)).1;have kK:∀{u:av} {q:Sl} {L:aB},mc u b q w0 sl L->SliceF (li false D) 9 u F kids ks:=fun hp=>(gN.keep (cf false D) (by decide) (fr hp)).1;have hal:=gq bb.en;have aq8:=gq bb.lv;have OD:=qn.1.len;have Oo:=hk.len;have Xg:=lW bb.mv;have Xc:=mY ks;have m1:bb.en.length*1065080<=1048576*1065080:=dW _ (by omega);have m2:bb.lv.length*1065080<=1048576*1065080:=dW _ (by omega);let St:aB->av->Prop:=fun L u=>∃q,mc u b q w0 sl L
 have eT:((T bb.ini).toList==((ao #[]).toList))=decide (bb.ini=[]):=gV bb.ini [];rw[eT];have UB:∀{la:List Ac},gX la<=1048576->(sP la).length<=3+la.length*1065080:=fun{la} h=>by
  have:=Ce la h;unfold sP;rw[aH,aD];simp only[aH,aN];omega
 have YG:=he.1.len;have CR:=vM.1.len;refine⟨St (cT l (sD d bb)),fun w1 ⟨q1,h1⟩=>⟨St (cT l (sD d bb++HT d bb)),fun w2 ⟨q2,h2⟩=>⟨St (cT l (sD d bb++HT d bb++JL d bb)),fun w3 ⟨q3,h3⟩=>?_,fun hc=>?_,fun hc=>⟨q2,by
  have hc:=aI hc;rw[show JL d bb=[] by unfold JL;rw[if_pos (bc (by omega))],br];exact h2⟩⟩,fun hc=>?_,fun hc=>⟨q1,by
  have hc:=aI hc;rw[show HT d bb=[] by unfold HT;rw[if_pos (bc (by omega))],br];exact h1⟩⟩,fun hc=>?_,fun hc=>⟨sl,by
  have hc:bb.ini=[]:=by simpa using hc
  rw[show sD d bb=[] by unfold sD;rw[if_pos hc]];exact h0⟩⟩
 ·refine⟨fun kv i u=>∃j:Nat,i=(j:Int)/\kv+j=bb.mv.length/\j<=bb.mv.length/\St (cT l (sD d bb++HT d bb++JL d bb++(bb.mv.take j).map fun m=>(d,yD m))) u,bb.mv.length,⟨0,rfl,by omega,aQ _,q3,by rw[dr,gu,br];exact h3⟩,?_⟩;rintro kv _ w4 ⟨j,rfl,O0,hj,q4,h4⟩;obtain⟨⟨Ut,hl4⟩,hM4⟩:=id h4;have aq9:=Ut.buf.len;refine⟨q4,fun _=>Blk.dI Ut.blk 0 rfl,fun lJ=>?_,fun lJ=>?_⟩
  ·rw[aE]at lJ;have lJ:=aG lJ.1;obtain⟨ad,y,cs,g1,g2,g3,g4,g5,g6⟩:=(kM h4).get (aO j) (by omega);rw[aM]at g2;have tF:=be g2;have PY:=qY tF;have Cy:=g6;obtain⟨gc,pW,tg,rfl,hg,E5,za⟩:=g6;obtain⟨gs,rfl⟩:=dU hg;refine⟨ad,g1,_,_,_,_,_,_,_,_,_,_,_,_,_,g5,(RA Cy (Wx y tF) (by omega)).mono ?_⟩;rintro _ w5 ⟨rfl,ht,dS⟩;refine⟨_,rfl,sm h4 dS,((h4.only dS).line (d:=d) (by omega) (yD y) (by omega) CG CH uJ).mono ?_⟩;rintro _ w6 ⟨rfl,hs6,q6,h6⟩;exact⟨rfl,hs6,kv-1,by omega,j+1,by rw[fy (by omega) (by omega)];rfl,by omega,by omega,q6,by
    rw[bn,g2,di,<-aV,eK];exact h6⟩
  ·have ak0:cT l (sD d bb++HT d bb++JL d bb++(bb.mv.take j).map fun m=>(d,yD m))=cT l (zx d bb):=by
    have en:zx d bb=sD d bb++HT d bb++JL d bb++mvL d bb:=by unfold zx;simp
    rw[en];unfold mvL;by_cases xq:j=bb.mv.length
    ·rw[xq,fu]
    ·have Pa:16384<(cT l (sD d bb++HT d bb++JL d bb++(bb.mv.take j).map fun m=>(d,yD m))).length:=by
      rw[oy]at lJ;rcases lJ with h | h
      ·have:=aI h;omega
      ·have:=aI h;omega
     conv=>rhs;rw[<-eE j bb.mv,di,<-aV,eK]
     rw[D4 _ _ Pa]
   refine⟨fun kv i u=>∃j:Nat,i=(j:Int)/\kv+j=ks.length/\j<=ks.length/\St (cT l (zx d bb++lV d (ks.take j))) u,ks.length,⟨0,rfl,by omega,aQ _,q4,by rw[dr,lV,br,<-ak0];exact h4⟩,?_⟩;rintro kv2 _ w7 ⟨i,rfl,akW,hi,q7,h7⟩;obtain⟨⟨Ky,Jd⟩,R6⟩:=id h7;refine⟨fun O9=>?_,fun O9=>?_⟩;rotate_left
   ·have O9:=aI O9;have hie:i=ks.length:=by omega
    rw[hie,fu]at Ky Jd;exact⟨rfl,q7,Ky,Jd,(ir.only bT).trans R6⟩
   have O9:=aG O9;obtain⟨ad,y,cs,g1,g2,g3,g4,g5,g6⟩:=(kK h7).get (aO i) (by omega);rw[aM]at g2;have tF:=be g2;have PY:=oU tF;have RG:=Ec tF;have Cy:=g6;obtain⟨D',rfl⟩:∃D',D=D'+1:=by
    cases D with
    | zero=>exact g6.elim
    | succ D'=>exact⟨D',rfl⟩
   obtain⟨uT,uU,pX,jq,rfl,_⟩:=g6;refine⟨ad,g1,_,_,_,_,uT,uU,pX,jq,_,g5,(hD Cy hF Ky Jd (uq P0 tF) (EI G0.2 tF) (by omega) (by omega)).mono ?_⟩;rintro _ w8 ⟨rfl,q8,hP8,Uv,hM8⟩;have e8:cT (cT l (zx d bb++lV d (ks.take i))) (ze d y)=cT l (zx d bb++lV d (ks.take (i+1))):=by
    rw[bn,g2];show _=cT l (zx d bb++lV d (ks.take i++[y]));rw[vj];simp only[eK]
   rw[e8]at hP8 Uv;exact⟨rfl,R6.sm CG CH uJ hM8,kv2-1,by omega,i+1,by rw[fy (by omega) (by omega)];rfl,by omega,by omega,q8,⟨hP8,Uv⟩,R6.trans hM8⟩
 ·refine(yS (kA vM h2) wl (by omega)).mono ?_;rintro _ w9 ⟨rfl,fK⟩;have ht:=UB (la:=bb.lv) (by omega);refine⟨_,rfl,sm h2 fK,by rw[bI];omega,?_⟩;rw[show(ao #[108,101,97,118,101,32])=T [108,101,97,118,101,32]from rfl,dH];refine((h2.only fK).line (d:=d) (by omega) _ (by rw[aD];simp only[aH,aN];omega) CG CH uJ).mono ?_;rintro _ cK ⟨rfl,OU,RM,tK⟩;refine⟨rfl,OU,RM,?_⟩;have hc:=aG hc;rw[show JL d bb=[(d,fE++32::sP bb.lv)] by unfold JL;rw[if_neg (fun e=>by rw[e]at CR;simp at CR;omega)],eK];exact tK
 ·refine(yS (kA he h1) zf (by omega)).mono ?_;rintro _ w9 ⟨rfl,fK⟩;have ht:=UB (la:=bb.en) (by omega);refine⟨_,rfl,sm h1 fK,by rw[bI];omega,?_⟩;rw[show(ao #[101,110,116,101,114,32])=T [101,110,116,101,114,32]from rfl,dH];refine((h1.only fK).line (d:=d) (by omega) _ (by rw[aD];simp only[aH,aN];omega) CG CH uJ).mono ?_;rintro _ cK ⟨rfl,OU,RM,tK⟩;refine⟨rfl,OU,RM,?_⟩;have hc:=aG hc;rw[show HT d bb=[(d,fD++32::sP bb.en)] by unfold HT;rw[if_neg (fun e=>by rw[e]at YG;simp at YG;omega)],eK];exact tK
 ·refine⟨by rw[bI];omega,by rw[show(ao #[105,110,105,116,105,97,108,32])=T [105,110,105,116,105,97,108,32]from rfl,dH,bI,aD];simp only[aH,aN];omega,?_⟩;rw[show(ao #[105,110,105,116,105,97,108,32])=T [105,110,105,116,105,97,108,32]from rfl,show(ao #[59])=T [59]from rfl,dH,dH];refine(h0.line (d:=d) (by omega) _ (by simp only[aD,aH,aN];omega) CG CH uJ).mono ?_;rintro _ dF ⟨rfl,ak1,Wu,vL⟩;refine⟨rfl,ak1,Wu,?_⟩;have hc:¬bb.ini=[]:=by simpa using hc
  rw[show sD d bb=[(d,dE++32::(bb.ini++[59]))] by unfold sD;rw[if_neg hc]];have e:([105,110,105,116,105,97,108,32]++bb.ini++[59]:aB)=dE++32::(bb.ini++[59]):=by simp[dE]
  rw[e]at vL;exact vL
theorem RB {D:Nat} (hD:NdC D) {F:Nat->Prop} {w:av} {b:Nat} {sl:Sl} {l:aB} {x:Nd} {cs:List aw} {d:Nat} (hx:li false (D+1) w F x cs) (hF:∀k,F k->k<b) (hP:Prg w b sl l) (hl:l.length<=4000000000000) (hn:vX x) (G0:Px x) (hs:mX x<=1048576) (O3:d+nQ x<=4000000):
 az aq 99 #[ae (some ⟨b,0,none⟩),ah cs.toArray,O U (d:Int)] w fun e w'=>e=ak (ai #[])/\∃(fW:Sl),Prg w' b fW (cT l (ze d x))/\(cT l (ze d x)).length<=4000000000000/\ir b sl w fW w':=by
 obtain⟨bb,ks⟩:=x;have Cz:=hx;obtain⟨en,lv,mv,kids,kH,sJ,gN⟩:=hx;dsimp only[Nd.kids,Nd.b]at kH sJ gN;subst kH;have AK:=hs;rw[mX]at AK;unfold An at AK;have I1:=hP.lb;have hnp:=Ra (.mk bb ks);refine ret (ahy _ _ _ _ _ _ _ _ _ _ _ _ _ ?_);unfold abH;intro k0 w0 dJ uJ bT;have z0:=bT.size;have CG:k0≠b:=by omega
 have CH:sl.a≠some ⟨k0,0,none⟩:=fun e=>by have:=(hP.buf.lt e).2;omega
 have h0:mc w0 b sl w0 sl l:=⟨⟨hP.only bT,hl⟩,ir.refl _ _ _⟩
 have Yw:1<=bb.k/\bb.k<=4:=by rw[Px]at G0;exact G0.1
 have nF:∀k,F k->¬(k=b∨sl.a=some ⟨k,0,none⟩):=fun k wI=>hP.NW (hF k wI);have fin:∀{u:av} {q:Sl} {L:aB},mc u b q w0 sl L->L=cT l (ze d (.mk bb ks))->∃(fW:Sl),Prg u b fW (cT l (ze d (.mk bb ks)))/\(cT l (ze d (.mk bb ks))).length<=4000000000000/\ir b sl w fW u:=fun{u q L} h e=>by
  subst e;obtain⟨⟨h1,h2⟩,h3⟩:=h;exact⟨q,h1,h2,(ir.only bT).trans h3⟩
 have ap:∀(a c:aB),T a++T c=T (a++c):=dH;have e1:(ao #[104,105,115,116,111,114,121,32])=T [104,105,115,116,111,114,121,32]:=rfl;have e2:(ao #[32,45,62,32])=T [32,45,62,32]:=rfl;have e3:(ao #[59])=T [59]:=rfl;have e4:(ao #[100,101,101,112,32])=T [100,101,101,112,32]:=rfl;have e5:(ao #[115,116,97,116,101,32])=T [115,116,97,116,101,32]:=rfl;have e6:(ao #[32,123])=T [32,123]:=rfl;have e7:(ao #[112,97,114,97,108,108,101,108,32])=T [112,97,114,97,108,108,101,108,32]:=rfl;have e8:(ao #[125])=T [125]:=rfl;simp only[e1,e2,e3,e4,e5,e6,e7,e8,ap,bI];have go:∀(m:aB),m.length<=3000000000010->az aq 46 #[ae (some ⟨b,0,none⟩),O U (d:Int),ab (T m)] w0 fun e w'=>e=ak (ai #[])/\aR [k0] w0 w'/\∃fW,mc w' b fW w0 sl (gW l (d,m)):=fun m hm=>h0.line (d:=d) (by omega) m hm CG CH uJ;refine⟨fun u=>¬j5 bb.k=true/\∃q,mc u b q w0 sl (gW l (d,kW bb.k++32::(bb.nm++[32,123]))),fun w1 ⟨hh,q1,h1⟩=>?_,fun k3=>?_,fun k3=>⟨fun k4=>?_,fun k4=>⟨fun k1=>?_,fun k1=>?_⟩⟩⟩
 ·obtain⟨⟨hP1,hl1⟩,hM1⟩:=h1;have hr1:li false (D+1) w1 F (.mk bb ks) (mU bb.k bb.nm bb.ini bb.dft en lv mv kids bb.a):=(cf false _).keep Cz fun k wI bJ=>(hM1.1.block k (by omega) (nF k wI)).trans (bT.block k bJ (by simp));rw[fy (x:=(d:Int)+1) (by omega) (by omega),show(d:Int)+1=((d+1:Nat):Int) by omega];refine(IP hD (d:=d+1) hr1 hF hP1 hl1 hn G0 hs (by omega)).mono ?_;rintro _ w2 ⟨rfl,q2,UA,tH,hM2⟩;have h2:mc w2 b q2 w0 sl _:=⟨⟨UA,tH⟩,hM1.trans hM2⟩
  refine⟨rfl,hM1.sm CG CH uJ hM2,(h2.line (d:=d) (by omega) [125] (by decide) CG CH uJ).mono ?_⟩;rintro _ w3 ⟨rfl,hs3,q3,h3⟩;refine⟨rfl,hs3,by first | rfl | trivial,fin h3 ?_⟩;rw[ze,if_neg hh];simp only[pM,eK,Nd.b,Nd.kids];rfl
 ·have k3:bb.k=3:=by simpa using k3
  simp only[aD,aH,aN];refine⟨by omega,by omega,by omega,by omega,(go _ (by simp only[aD,aH,aN];omega)).mono ?_⟩;rintro _ w4 ⟨rfl,CU,q4,h4⟩;refine⟨rfl,CU,by first | rfl | trivial,fin h4 ?_⟩;rw[ze,if_pos (by unfold j5;exact bh (.inl k3)),k3];show _=gW l _;congr 2;simp[kW,qN]
 ·have k4:bb.k=4:=by simpa using k4
  simp only[aD,aH,aN];refine⟨by omega,by omega,by omega,by omega,(go _ (by simp only[aD,aH,aN];omega)).mono ?_⟩;rintro _ w4 ⟨rfl,CU,q4,h4⟩;refine⟨rfl,CU,by first | rfl | trivial,fin h4 ?_⟩;rw[ze,if_pos (by unfold j5;exact bh (.inr k4)),k4];show _=gW l _;congr 2;simp[kW,DS]
 ·have k1:bb.k=1:=by simpa using k1
  simp only[aD,aH,aN];refine⟨by omega,by omega,(go _ (by simp only[aD,aH,aN];omega)).mono ?_⟩;rintro _ w4 ⟨rfl,CU,q4,h4⟩;refine⟨rfl,CU,by unfold j5;rw[k1];decide,q4,?_⟩;have e:([115,116,97,116,101,32]++bb.nm++[32,123]:aB)=kW bb.k++32::(bb.nm++[32,123]):=by rw[k1];simp[kW,yp]
  rw[e]at h4;exact h4
 ·have k3:¬bb.k=3:=by simpa using k3
  have k4:¬bb.k=4:=by simpa using k4
  have k1:¬bb.k=1:=by simpa using k1
  have k2:bb.k=2:=by omega
  simp only[aD,aH,aN];refine⟨by omega,by omega,(go _ (by simp only[aD,aH,aN];omega)).mono ?_⟩;rintro _ w4 ⟨rfl,CU,q4,h4⟩;refine⟨rfl,CU,by unfold j5;rw[k2];decide,q4,?_⟩;have e:([112,97,114,97,108,108,101,108,32]++bb.nm++[32,123]:aB)=kW bb.k++32::(bb.nm++[32,123]):=by rw[k2];simp[kW,oM]
  rw[e]at h4;exact h4
theorem IQ:∀D,NdC D
 | 0=>fun hx _ _ _ _ _ _ _=>hx.elim
 | D+1=>fun hx hF hP hl hn G0 hs O3=>RB (IQ D) hx hF hP hl hn G0 hs O3
theorem NN {w:av} {F:Nat->Prop} {D:Nat} {c:Ch} {vs:Sl} {cs:List aw} (hx:ChR false (D+1) w F c vs cs) (hn:PV c) (hs:nB c.vars+mX c.root<=1048576):
  az aq 16 #[ah (vs.v::cs).toArray] w fun e w'=>e=ak (ai #[ab (T (mW c).1),O U (mW c).2])/\ay [] w w':=by
 have Je:=hx.root;obtain⟨en,lv,mv,kids,kH,_⟩:=hx.root;subst kH;refine ret (agR _ _ _ _ _ _ _ _ _ _ _ _ ?_);unfold aaW;intro k0 w0 gN dJ bT;have z0:=bT.size;have keep:∀{u:av},ay [] w u->ChR false (D+1) u F c vs (mU c.root.b.k c.root.b.nm c.root.b.ini c.root.b.dft en lv mv kids c.root.b.a):=fun hO=>⟨hx.vars.keep ec (by decide) fun k _ bJ=>hO.block k bJ (by simp),(cf false _).keep hx.root fun k _ bJ=>hO.block k bJ (by simp)⟩
 have YA:c.root.b.nm.length<=mX c.root:=by
  obtain⟨vv,⟨bb,ks⟩⟩:=c;show bb.nm.length<=mX (.mk bb ks);rw[mX];unfold An;omega
 refine(aco (keep bT) hn (by omega)).mono ?_;rintro _ w1 ⟨rfl,bZ⟩;have z1:=bZ.size;have o1:=bT.bP bZ;have ap:∀(a c:aB),T a++T c=T (a++c):=dH;have e1:(ao #[99,104,97,114,116,32])=T [99,104,97,114,116,32]:=rfl;have e2:(ao #[32,123])=T [32,123]:=rfl;have e3:(ao #[118,97,114,32])=T [118,97,114,32]:=rfl;have e4:(ao #[32,61,32])=T [32,61,32]:=rfl;have e5:(ao #[59])=T [59]:=rfl;have e6:(ao #[125])=T [125]:=rfl;refine⟨_,rfl,bZ.same (by simp;omega),fun Pb=>⟨?_,o1⟩,fun Pb=>?_⟩
 ·have Pb:qk c=false:=by simpa using Pb
  unfold mW;rw[Pb];rfl
 have Pb:qk c=true:=by simpa using Pb
 have G0:Px c.root:=by
  unfold qk at Pb;simp only[aE]at Pb;exact NM 0 c.root Pb.1.2
 have Pa:16384<(cT [] (xa c)).length->mW c=([],2):=fun h=>by unfold mW;rw[if_pos Pb,if_pos h]
 have XO:¬16384<(cT [] (xa c)).length->mW c=(cT [] (xa c),0):=fun h=>by unfold mW;rw[if_pos Pb,if_neg h]
 obtain⟨LL,hLL⟩:∃LL,LL=(0,dZ++32::(c.root.b.nm++[32,123]))::(c.vars.map fun v=>(1,Ps v)):=⟨_,rfl⟩
 have ak4:xa c=LL++(zx 1 c.root.b++lV 1 c.root.kids)++[(0,[125])]:=by rw[hLL];unfold xa;simp
 rw[e1,e2,e6,ap,ap,bI,bI];refine⟨by omega,by rw[aD];simp only[aH,aN];omega,fun k1 w2 jO jb cp kC=>?_⟩;have z2:=cp.size;have o2:=o1.bP cp;have UA:Prg w2 k1 Sl.nil []:=⟨kC,.inl ⟨rfl,rfl⟩⟩
 have Se:k0≠k1:=by omega
 have XF:(Sl.nil).a≠some ⟨k0,0,none⟩:=fun e=>by cases e
 have fin:∀{u:av} {q:Sl} {L:aB},mc u k1 q w2 Sl.nil L->ay [] w u:=fun h=>(o2.yT h.2.1).only fun k hk=>hk.elim (by omega) fun e=>by cases e
 have h2:mc w2 k1 Sl.nil w2 Sl.nil []:=⟨⟨UA,by decide⟩,ir.refl _ _ _⟩
 have hvl:=hx.vars.1.len;have vI:c.vars.length<=nB c.vars:=by
  have:∀l:List Vr,l.length<=nB l:=fun l=>by induction l with
   | nil=>exact aQ _
   | cons a l ih=>rw[nB,aH];omega
  exact this _
 refine(h2.line (d:=0) (by decide) _ (by simp only[aD,aH,aN];omega) Se XF (by omega)).mono ?_;rintro _ w3 ⟨rfl,hs3,q3,h3⟩;have e0:([99,104,97,114,116,32]++c.root.b.nm++[32,123]:aB)=dZ++32::(c.root.b.nm++[32,123]):=by simp[dZ]
 rw[e0]at h3;have h3:mc w3 k1 q3 w2 Sl.nil (cT [] ((0,dZ++32::(c.root.b.nm++[32,123]))::((c.vars.take 0).map fun v=>(1,Ps v)))):=h3;obtain⟨⟨hP3,hl3⟩,hM3⟩:=id h3;refine⟨rfl,hs3,q3,hP3.blk,fun kv i q u=>∃j:Nat,i=(j:Int)/\kv+j=c.vars.length/\j<=c.vars.length/\mc u k1 q w2 Sl.nil (cT [] ((0,dZ++32::(c.root.b.nm++[32,123]))::((c.vars.take j).map fun v=>(1,Ps v)))),c.vars.length,⟨0,rfl,by omega,aQ _,h3⟩,?_⟩;rintro kv _ q w4 ⟨j,rfl,O0,hj,h4⟩;obtain⟨⟨Ut,hl4⟩,hM4⟩:=id h4;refine⟨fun lJ w5 dS tJ=>?_,fun lJ=>?_⟩
 ·have lJ:=aG lJ;have h5:=h4.only dS;obtain⟨⟨hP5,hl5⟩,hM5⟩:=id h5;have hv5:SliceF wW 3 w5 (fun k=>F k/\k<w.heap.size) vs c.vars:=SliceF.keep ec (SliceF.inHeap ec hx.vars.1 (by decide)) (by decide) fun k hk bJ=>(fin h5).block k bJ (by simp);obtain⟨ad,y,cs,g1,g2,g3,g4,g5,g6⟩:=hv5.get (aO j) (by omega);rw[aM]at g2;have tF:=be g2;have PY:=uv tF;have hyi:=hn.1 y tF;have g6:cs=[ab (T y.n),O U y.v,O U y.a]:=g6;subst g6;have ak5:ad.block<w.heap.size:=g3.2;have hit:=IJ hyi;have kp:∀{u u':av} {qa qb:Sl} {L:aB},mc u k1 qa w2 Sl.nil L->ir k1 qa u qb u'->bE (fun k=>k=k0∨k<w.heap.size) u u':=fun{u u' qa qb L} hp hm k hk bJ=>hm.1.block k bJ fun hh=>by
   rcases hh with e | e
   ·omega
   ·rcases hp.2.2 k e with e' | e'
    ·cases e'
    ·omega
  rw[e3,e4,e5];refine⟨fun k=>k=k0∨k<w.heap.size,.inl rfl,ad,g1,.inr (by rw[mM];exact ak5),_,g5.part 0 fun i v hi=>oX hi rfl,?_,?_,ad,g1,_,g5.part 1 fun i v hi=>oX hi rfl,(II w5 hyi).mono ?_⟩
  ·rw[bI];omega
  ·rw[ap,bI,aD];simp only[aH,aN];omega
  rintro _ w6 ⟨rfl,dG⟩;have h6:=h5.only dG;obtain⟨⟨hP6,Yq⟩,hM6⟩:=id h6;have z6:=hM6.1.size;have z5:=hM5.1.size;refine⟨_,rfl,dG.same (by simp;omega),q,hP6.blk,bE.only dG,?_,?_,?_⟩
  ·rw[ap,ap,bI,bI];simp only[aD,aH,aN];omega
  ·rw[ap,ap,ap,bI];simp only[aD,aH,aN];omega
  rw[ap,ap,ap,ap];refine(IL hP6 (d:=1) (by decide) _ (by simp only[aD,aH,aN];omega)).mono ?_;rintro _ w7 ⟨rfl,q7,Ky,R6⟩;have Jd:=IK (d:=1) (m:=[118,97,114,32]++y.n++[32,61,32]++Lib.itoa y.v++[59]) Yq (by decide) (by simp only[aD,aH,aN];omega);have ev:([118,97,114,32]++y.n++[32,61,32]++Lib.itoa y.v++[59]:aB)=Ps y:=by simp[Ps,sB]
  have e7:gW (cT [] ((0,dZ++32::(c.root.b.nm++[32,123]))::((c.vars.take j).map fun v=>(1,Ps v)))) (1,[118,97,114,32]++y.n++[32,61,32]++Lib.itoa y.v++[59])=cT [] ((0,dZ++32::(c.root.b.nm++[32,123]))::((c.vars.take (j+1)).map fun v=>(1,Ps v))):=by
   rw[ev,bn,g2,di];simp only[pM,eK];rfl
  rw[e7]at Ky Jd;exact⟨rfl,hM6.sm Se XF (by omega) R6,q7,Ky.blk,kp h6 R6,kv-1,by omega,j+1,by rw[fy (by omega) (by omega)];rfl,by omega,by omega,⟨Ky,Jd⟩,hM6.trans R6⟩
 ·have hr4:li false (D+1) w4 (fun k=>F k/\k<w.heap.size) c.root (mU c.root.b.k c.root.b.nm c.root.b.ini c.root.b.dft en lv mv kids c.root.b.a):=(cf false _).keep ((cf false _).inHeap Je) fun k _ bJ=>(fin h4).block k bJ (by simp);have hnn:=MS c.root;have lJ:=aI lJ;have rB:j=c.vars.length:=by omega
  subst rB;rw[fu,<-hLL]at Ut hl4;refine(IP (IQ D) (d:=1) hr4 (fun k hk=>by have:=hk.2;omega) Ut hl4 hn.2 G0 (by omega) (by omega)).mono ?_;rintro _ w8 ⟨rfl,q8,hP8,Uv,hM8⟩;have h8:mc w8 k1 q8 w2 Sl.nil _:=⟨⟨hP8,Uv⟩,hM4.trans hM8⟩
  refine⟨rfl,hM4.sm Se XF (by omega) hM8,q8,hP8.blk,(h8.line (d:=0) (by decide) [125] (by decide) Se XF (by omega)).mono ?_⟩;rintro _ w9 ⟨rfl,hs9,q9,h9⟩;have e9:gW (cT (cT [] LL) (zx 1 c.root.b++lV 1 c.root.kids)) (0,[125])=cT [] (xa c):=by
   rw[ak4];simp only[eK];rfl
  rw[e9]at h9;obtain⟨⟨hP9,hl9⟩,hM9⟩:=id h9;have Yl:=hP9.buf.len;refine⟨rfl,hs9,q9,hP9.blk,fun hh=>⟨?_,fin h9⟩,fun hh=>⟨_,hP9.buf.bytes,?_,fin h9⟩⟩
  ·have hh:=aG hh;rw[Pa (by omega)]
  ·have hh:=aI hh;rw[XO (by omega)]
end Go.Proofs.YtmhoiicofhlgbaaGreatDoor.Con
namespace Go.Proofs.YtmhoiicofhlgbaaGreatDoor.Con
open Go.Value renaming int->O,string->ab,pointer->ae,agg->ah,tuple->ai,bool->aj
open Go.IntKind renaming i64->U,wrap->ar
open Go.Ending renaming returned->ak
open _root_.ByteArray renaming mk->ao
open _root_.Go.Proofs.Tryz renaming prog->aq
open Go.Instr renaming buildSlice->au
open Go renaming World->av,Value->aw,Calls->az
open Go.Kt renaming Only->ay
open Go Go.RowKit Go.Kt Go.Kt.V Go.Proofs.YtmhoiicofhlgbaaGreatDoor.Vc
set_option linter.unusedSimpArgs false
set_option linter.unusedVariables false
set_option maxHeartbeats 800000
set_option maxRecDepth 100000
theorem NP {D:Nat} {u:av} {H:Nat->Prop} {x:Nd} {en lv mv kids:Sl} (h:li false (D+1) u H x (mU x.b.k x.b.nm x.b.ini x.b.dft en lv mv kids x.b.a)):
  ∃y w1,(au 25 1 #[.mk 0 (ah #[O U x.b.k,ab (T x.b.nm),ab (T x.b.ini),ab (T x.b.dft),en.v,lv.v,mv.v,kids.v,O U x.b.a])]).run aq u=.ok (Sl.v y) w1/\ay [] u w1/\SliceF (li false (D+1)) 9 w1 (fun k=>H k∨(u.heap.size<=k/\k<w1.heap.size)) y [x]:=by
 obtain⟨y,w1,k1,k2,k3,_⟩:=kR (P:=aq) (t:=25) (e:=27) (i:=Tryz.t27) (w:=u) (F:=H) (vs:=[ah #[O U x.b.k,ab (T x.b.nm),ab (T x.b.ini),ab (T x.b.dft),en.v,lv.v,mv.v,kids.v,O U x.b.a]]) (parts:=#[.mk 0 (ah #[O U x.b.k,ab (T x.b.nm),ab (T x.b.ini),ab (T x.b.dft),en.v,lv.v,mv.v,kids.v,O U x.b.a])]) (len:=1) (xs:=[x]) (r:=li false (D+1)) (size:=9) (by kernel_rfl) (by kernel_rfl) rfl rfl (by decide) rfl rfl (by decide) (by decide) (cf false (D+1)) ⟨⟨rfl,h⟩,trivial⟩;exact⟨y,w1,k1,k3,((k2.slice (cf false (D+1))).inHeap (cf false (D+1)) (by decide)).mono (cf false (D+1)) fun k hk=>hk.1.elim .inl fun h=>.inr ⟨h.1,hk.2⟩⟩
theorem NQ {B:Nat} {w:av} {F:Nat->Prop} {s:Sl} {xs:List Vr} (h:Own wW 3 79 B w F s xs):SliceF wW 3 w (fun k=>B<=k) s xs:=by
 have h':Own wW 3 79 B w (fun _=>False) s xs:=by
  rcases h with⟨rfl,rfl⟩ | ⟨g,css,tail,h1,h2,h4,h5,h6,h7,h9,h8⟩
  ·exact .inl ⟨rfl,rfl⟩
  ·exact .inr ⟨g,css,tail,h1,h2,h4,h5,h6,h7,h9,fG.NS (fun x c _ hc=>hc) h8⟩
 exact(h'.slice ec).mono ec fun k hk=>hk.elim (fun h=>h.elim) fun h=>h.1
theorem Ki {w:av} {F:Nat->Prop} {D:Nat} {c:Ch} {vs:Sl} {cs:List aw} (hx:ChR false (D+1) w F c vs cs) (hs:nB c.vars+mX c.root<=8388608):
  az aq 12 #[ah (vs.v::cs).toArray] w fun e w'=>(∃(I8:Sl) (ds:List aw),e=ak (ah (I8.v::ds).toArray)/\ChR false (D+1) w' (fun _=>True) c I8 ds)/\ay [] w w':=by
 have hxr:=hx.root;obtain⟨en,lv,mv,kids,kH,_⟩:=hx.root;subst kH;refine(agN vs c.root.b.k (T c.root.b.nm) (T c.root.b.ini) (T c.root.b.dft) en lv mv kids c.root.b.a (fun v w'=>(∃(I8:Sl) (ds:List aw),v=(ah (I8.v::ds).toArray)/\ChR false (D+1) w' (fun _=>True) c I8 ds)/\ay [] w w') w ?_).mono (by rintro _ w' ⟨v,rfl,⟨a,b,rfl,h⟩,h'⟩;exact⟨⟨a,b,rfl,h⟩,h'⟩);unfold aaQ;intro k0 k1 w0 gN dJ jO jb bT;have z0:=bT.size;have hvl:=yK c.vars;have hvh:=hx.vars.1.inHeap ec (by decide);have root:∀{u:av},ay [] w u->li false (D+1) u F c.root (mU c.root.b.k c.root.b.nm c.root.b.ini c.root.b.dft en lv mv kids c.root.b.a):=fun hO=>(cf false _).keep hxr fun k _ bJ=>hO.block k bJ (by simp);refine⟨fun a i s0 s1 s2 l1 l2 l3 l4 i1 u=>(∃ds,ds=[O U i,ab s0,ab s1,ab s2,l1.v,l2.v,l3.v,l4.v,O U i1]/\ChR false (D+1) u (fun _=>True) c a ds)/\ay [] w u,?_,fun w2 cp=>?_⟩
 ·rintro a i s0 s1 s2 l1 l2 l3 l4 i1 u ⟨⟨ds,rfl,h⟩,hO⟩;exact⟨⟨a,_,rfl,h⟩,hO⟩
 have z2:=cp.size;have o2:=bT.bP cp;have vars:∀{u v:av} {y:Sl} {B:Nat},ay [] w u->w2.heap.size<=B->B<=u.heap.size->Own wW 3 79 B u (fun k=>F k/\k<w.heap.size) y []->∃z v,(Builtin.append_ #[22,22] 22 #[Sl.v y,Sl.v vs]).run aq u=.ok (Sl.v z) v/\SliceF wW 3 v (fun k=>w2.heap.size<=k) z c.vars/\OnlyP (fun k=>B<=k/\y.a=some ⟨k,0,none⟩) u v:=fun{u v y B} hO hz Wi hy=>by
  have hyv:SliceF wW 3 u (fun k=>(F k/\k<w.heap.size)/\y.a≠some ⟨k,0,none⟩) vs c.vars:=(hvh.keep ec (by decide) fun k _ bJ=>hO.block k bJ (by simp)).mono ec fun k hk=>⟨hk,fun e=>by have:=(hy.blk e).1;dsimp only at this;omega⟩
  obtain⟨z,v,g1,g2,gs,g3,g4,_⟩:=pu (P:=aq) (t:=22) (ty:=22) (e:=79) (i:=Tryz.t79) (bytes:=32) (size:=3) (r:=wW) (by kernel_rfl) (by kernel_rfl) rfl rfl rfl rfl ec hy hyv Wi (by rw[aN];omega) (by decide);rw[cd]at g2;exact⟨z,v,g1,(NQ g2).mono ec fun k hk=>by omega,g3.p fun g hg=>.inl ⟨(g4 g hg).2.1,(g4 g hg).1⟩⟩
 have sm:∀{u v:av},w2.heap.size<=u.heap.size->ay [] u v->aR [k0,k1] u v/\bE (fun k=>k=k0) u v:=fun h hO=>⟨hO.same (by simp;omega),bE.only hO⟩
 have smP:∀{u v:av} {y:Sl} {B:Nat},w2.heap.size<=B->B<=u.heap.size->OnlyP (fun k=>B<=k/\y.a=some ⟨k,0,none⟩) u v->aR [k0,k1] u v/\bE (fun k=>k=k0) u v:=fun h h' hO=>⟨hO.same fun x hx=>by simp only[aL,aU,bM]at hx;exact⟨by omega,fun h=>by omega⟩,fun k hk bJ=>hO.block k bJ fun h=>by omega⟩
 have emp:∀u:av,∃y v,(au 22 0 #[]).run aq u=.ok (Sl.v y) v/\Own wW 3 79 u.heap.size v (fun k=>F k/\k<w.heap.size) y []/\ay [] u v:=fun u=>Jn (P:=aq) (t:=22) (e:=79) (i:=Tryz.t79) (by kernel_rfl) (by kernel_rfl) wW 3 u (fun k=>F k/\k<w.heap.size);have tr1:∀{u v:av} {y:Sl} {B:Nat},ay [] w u->w2.heap.size<=B->OnlyP (fun k=>B<=k/\y.a=some ⟨k,0,none⟩) u v->ay [] w v:=fun h hz g=>(h.yT g).only fun k hk=>by omega
 have UC:∀{u:av},ay [] w u->li false (D+1) u (fun k=>F k/\k<w.heap.size) c.root (mU c.root.b.k c.root.b.nm c.root.b.ini c.root.b.dft en lv mv kids c.root.b.a):=fun hO=>(cf false _).keep ((cf false _).inHeap hxr) fun k _ bJ=>hO.block k bJ (by simp);have fin:∀{u v:av} {l z:Sl},ay [] w u->w2.heap.size<=u.heap.size->SliceF (li false (D+1)) 9 u (fun _=>True) l [c.root]->SliceF wW 3 u (fun k=>w2.heap.size<=k) z c.vars->
   az aq 35 #[l.v] u fun e0 w6=>∃l8:Sl,e0=(ak l8.v)/\aR [k0,k1] u w6/\bE (fun k=>k=k0) u w6/\
    ∃p0:Addr,ck l8 0 9 p0/\∃i2:Int,∃s3 s4 s5:asw,∃l9 l10 qo rm:Sl,∃i3:Int,Cells w6 p0 [O U i2,ab s3,ab s4,ab s5,l9.v,l10.v,qo.v,rm.v,O U i3]/\
     ∀w7:av,ay [k1] w6 w7->((∃ds,ds=[O U i2,ab s3,ab s4,ab s5,l9.v,l10.v,qo.v,rm.v,O U i3]/\ChR false (D+1) w7 (fun _=>True) c z ds)/\ay [] w w7):=fun{u v l z} hO hz hl hv=>by
  refine(MR (D+1) hl (by rw[iq,iq];omega)).mono ?_;rintro _ w6 ⟨⟨t,rfl,hT⟩,dG⟩;have z6:=dG.size;obtain⟨s1,s2⟩:=sm hz dG;obtain⟨ad,y,ds,a1,a2,a3,a4,a5,a6⟩:=hT.get (i:=0) (by omega) (by have:=hT.len;rw[aW]at this;omega);have a2:some c.root=some y:=a2;injection a2 with a2;subst a2;have a6':=a6;obtain⟨uT,uU,pX,jq,rfl,_⟩:=a6;refine⟨t,rfl,s1,s2,ad,a1,_,_,_,_,uT,uU,pX,jq,_,a5,fun w7 fz=>⟨⟨_,rfl,⟨?_,fun h=>(by cases h)⟩,?_⟩,(hO.bP dG).trans fz fun x hx=>.inr (by simp only[aF]at hx;omega)⟩⟩
  ·exact(SliceF.only ec (by decide) (SliceF.only ec (by decide) hv dG (by simp)) fz fun k hk _ hm=>by simp only[aF]at hm;omega).mono ec fun _ _=>trivial
  ·refine(cf false (D+1)).mono ((cf false (D+1)).keep a6' fun k hk bJ=>fz.block k bJ ?_) fun _ _=>trivial;simp only[aF];omega
 have kp:∀{u v:av} {z:Sl},SliceF wW 3 u (fun k=>w2.heap.size<=k) z c.vars->ay [] u v->SliceF wW 3 v (fun k=>w2.heap.size<=k) z c.vars:=fun h hO=>SliceF.only ec (by decide) h hO (by simp);refine⟨fun k=>k=k0,rfl,rfl,?_,?_⟩
 ·obtain⟨l5,w3,p1,p2,p3⟩:=emp w2;have z3:=p3.size;obtain⟨a1,a2⟩:=sm (aK _) p3;have o3:=o2.bP p3;refine⟨l5,w3,p1,a1,a2,?_,?_⟩
  ·obtain⟨l6,w4,q1,q2,q3⟩:=vars (v:=w3) o3 (aK _) z3 p2;have z4:=q3.size;obtain⟨b1,b2⟩:=smP (aK _) z3 q3;have o4:ay [] w w4:=tr1 o3 (aK _) q3;obtain⟨l7,w5,r1,r2,r3⟩:=NP (root o4);have z5:=r2.size;obtain⟨c1,c2⟩:=sm (by omega) r2;exact⟨l6,w4,q1,b1,b2,l7,w5,r1,c1,c2,fin (v:=w5) (o4.bP r2) (by omega) (r3.mono (cf false (D+1)) fun _ _=>trivial) (kp q2 r2)⟩
  ·obtain⟨l7,w8,r1,r2,r3⟩:=NP (UC o3);have z8:=r2.size;obtain⟨c1,c2⟩:=sm (by omega) r2;have o8:=o3.bP r2;obtain⟨l6,w9,q1,q2,q3⟩:=vars (v:=w8) o8 (aK _) (by omega) (p2.keep ec fun k _ bJ=>r2.block k bJ (by simp));have z9:=q3.size;obtain⟨b1,b2⟩:=smP (aK _) (by omega) q3;exact⟨l7,w8,r1,c1,c2,l6,w9,q1,b1,b2,fin (v:=w9) (tr1 o8 (aK _) q3) (by omega) ((SliceF.wg (cf false (D+1)) (by decide) r3 q3 fun k hk _ h=>by
    have:=(p2.blk h.2).2;dsimp only at this;omega).mono (cf false (D+1)) fun _ _=>trivial) q2⟩
 ·obtain⟨l7,dz,r1,r2,r3⟩:=NP (UC o2);have z12:=r2.size;obtain⟨c1,c2⟩:=sm (aK _) r2;obtain⟨l5,dF,p1,p2,p3⟩:=emp dz;have KT:=p3.size;obtain⟨a1,a2⟩:=sm (by omega) p3;have o13:=(o2.bP r2).bP p3;obtain⟨l6,eI,q1,q2,q3⟩:=vars (v:=dF) o13 (by omega) KT p2;have WE:=q3.size;obtain⟨b1,b2⟩:=smP (by omega) KT q3;exact⟨l7,dz,r1,c1,c2,l5,dF,p1,a1,a2,l6,eI,q1,b1,b2,fin (v:=eI) (tr1 o13 (by omega) q3) (by omega) ((SliceF.wg (cf false (D+1)) (by decide) (SliceF.only (cf false (D+1)) (by decide) r3 p3 (by simp)) q3 fun k hk _ h=>by omega).mono (cf false (D+1)) fun _ _=>trivial) q2⟩
theorem pwrites_c {w:av} {x:Ch×Nat} {cs:List aw} (hx:rChU w (fun _=>True) x cs) (hb:x.2<=1048576) (hE:Er w) (hT:Tb w):az aq 3 #[ah cs.toArray] w fun e w'=>e=ak (aj true)/\ay [] w w':=by
 obtain⟨c,m⟩:=x;obtain⟨D,vs,cs,rfl,hC,hn,hs⟩:=hx;dsimp only at hC hn hs hb;have hC0:=hC;cases D with
 | zero=>exact hC.root.elim
 | succ D=>
 obtain⟨en,lv,mv,kids,rfl,_⟩:=hC0.root;refine ret (agM _ _ _ _ _ _ _ _ _ _ _ _ ?_);unfold aaP;have keep:∀{w':av},ay [] w w'->ChR false (D+1) w' (fun _=>True) c vs (mU c.root.b.k c.root.b.nm c.root.b.ini c.root.b.dft en lv mv kids c.root.b.a):=fun hO=>⟨hC.vars.keep ec (by decide) fun k _ bJ=>hO.block k bJ (by simp),(cf false _).keep hC.root fun k _ bJ=>hO.block k bJ (by simp)⟩
 intro k0 w0 gN dJ bT;have z0:=bT.size;refine(MV w0 (hE.only bT) (hT.only bT)).mono ?_;rintro _ w1 ⟨rfl,bZ⟩;have z1:=bZ.size;have o1:=bT.bP bZ;refine⟨_,rfl,bZ.same (by simp;omega),(Ki (keep o1) (by omega)).mono ?_⟩;rintro _ w2 ⟨⟨I8,ds,rfl,hC2⟩,cp⟩;have z2:=cp.size;have o2:=o1.bP cp;have aeX:=hC2;obtain⟨uT,uU,pX,jq,rfl,_⟩:=hC2.root;refine⟨I8,_,_,_,_,uT,uU,pX,jq,_,rfl,cp.same (by simp;omega),fun k1 w3 jO jb cO=>?_⟩;have z3:=cO.size;have o3:=o2.bP cO;refine(Rf (keep o3) hn (by omega) (hE.only o3) (hT.only o3)).mono ?_;rintro _ w4 ⟨rfl,dm⟩;have z4:=dm.size;have o4:=o3.bP dm;refine⟨_,rfl,dm.same (by simp;omega),(BZ (keep o4) hn (by omega) (hE.only o4) (hT.only o4)).mono ?_⟩;rintro _ w5 ⟨rfl,dS⟩;have z5:=dS.size;have o5:=o4.bP dS;have oc:ay [] w2 w5:=(cO.bP dm).bP dS;have hC5:ChR false (D+1) w5 (fun _=>True) c I8 (mU c.root.b.k c.root.b.nm c.root.b.ini c.root.b.dft uT uU pX jq c.root.b.a):=⟨aeX.vars.keep ec (by decide) fun k _ bJ=>oc.block k bJ (by simp),(cf false _).keep aeX.root fun k _ bJ=>oc.block k bJ (by simp)⟩
 refine⟨_,_,rfl,dS.same (by simp;omega),(Mq (keep o5) hC5 (ChE.refl true (D+1) c)).mono ?_⟩;rintro _ w6 ⟨rfl,dG⟩;have z6:=dG.size;have o6:=o5.bP dG;refine⟨_,rfl,dG.same (by simp;omega),(NN (keep o6) hn (by omega)).mono ?_⟩;rintro _ w7 ⟨rfl,fz⟩;refine⟨_,_,rfl,fz.same (by simp;omega),?_,o6.bP fz⟩;rw[J8 hn,gV];simp
end Go.Proofs.YtmhoiicofhlgbaaGreatDoor.Con
