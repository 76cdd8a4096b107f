import Derived.Test.YtpbgcbdclnfpnaaGreatDoorQr2
set_option linter.unusedSectionVars false
set_option linter.unusedSimpArgs false
set_option linter.unusedVariables false
namespace Go.Kt.V
open Go renaming World->ay,Value->az
open Go Go.RowKit Go.Kt
def ny(ws w w':ay):Prop:=w.heap.size<=w'.heap.size/\∀k,ws.heap.size<=k->k<w.heap.size->w'.heap[k]? =w.heap[k]?
def An(mk:List (Nat×Nat))(b:Nat):Prop:=∀p∈mk,b<p.1∨p.2<=b
theorem ny.only{bs}{ws w w'}(h:Only bs w w')(hb:∀b∈bs,b<ws.heap.size∨w.heap.size<=b):ny ws w w':=
 ⟨h.size,λk h1 h2=>h.block k h2 λhk=>ac3⟩
theorem ny.MF{ws w w'}(h:Only [] w w'):ny ws w w':=ny.only h aaa
theorem An.one{m n b}{r}(h:An ((m,n)::r) b):b<m∨n<=b:=h _ eh
structure LZ where
 z:Nat
 d:Nat
 t:TypeId
 zs:List SV
def uI(P:Program)(z:Nat)(o:Oper):Option LZ:=match o.op,o.dst,o.guard with
 | .alloc t,some d,none=>(match zc P t with
  | some zs=>bif ZJ o.after.toList&&ia (λ_=>false) zs then some ⟨z,d,t,zs⟩else none
  | none=>none)
 | _,_,_=>none
def kQ(P:Program):Nat->List Oper->List LZ
 | _,[]=>[]
 | i,o::r=>match uI P i o with
  | some p=>p::kQ P (i+1) r
  | none=>kQ P (i+1) r
def nK:List LZ->List Nat
 | []=>[]
 | p::r=>p.z::nK r
def zSl:List LZ->List Nat
 | []=>[]
 | p::r=>p.d::zSl r
def F9(z d:Nat):Nat->List Oper->Bool
 | _,[]=>true
 | i,o::r=>(Nat.beq i z||(match o.dst with
  | some e=>!Nat.beq e d
  | none=>true))&&F9 z d (i+1) r
def zOk(ops:List Oper):List LZ->Bool
 | []=>true
 | p::r=>F9 p.z p.d 0 ops&&zOk ops r
theorem QB{α}:∀{l:List α},ZJ l=true->l=[]
 | [],_=>rfl
theorem lV{P}{z}{o}{p}(h:uI P z o=some p):p.z=z/\o.op=.alloc p.t/\o.dst=some p.d/\o.guard=none/\o.after.toList=[]/\zc P p.t=some p.zs/\ia (λ_=>false) p.zs=true:=by
 unfold uI at h;split at h
 ·rename_i t d h1 h2 h3;split at h
  ·rename_i zs hz;obtain⟨h4,rfl⟩:=Dy h;simp at h4;exact⟨rfl,h1,h2,h3,QB h4.1,hz,h4.2⟩
  cases h
 cases h
theorem nL{Z}{z}:z∈nK Z↔∃p∈Z,p.z=z:=by
 induction Z with
 | nil=>simp[nK]
 | cons p r ih=>simp[nK,ih,eq_comm (a:=z)]
theorem Ao{P}:∀{l:List Oper} {i:Nat} {p:LZ},p∈kQ P i l->∃j o,p.z=i+j/\gU l j=some o/\uI P p.z o=some p
 | [],i,p,h=>aaH
 | o::r,i,p,h=>by
  have tl:p∈kQ P (i+1) r->∃j o',p.z=i+j/\gU (o::r) j=some o'/\uI P p.z o'=some p:=λh=>by
   obtain⟨j,o',h1,h2,h3⟩:=Ao h;exact⟨j+1,o',aG,h2,h3⟩
  unfold kQ at h;split at h
  ·rename_i q hq;rcases aR.1 h with rfl | h
   ·have:=(lV hq).1;exact⟨0,o,this,rfl,by rw[this];exact hq⟩
   exact tl h
  exact tl h
theorem Aq{P}:∀{l:List Oper} {i:Nat},(nK (kQ P i l)).Nodup
 | [],i=>by simp[kQ,nK]
 | o::r,i=>by
  unfold kQ;split
  ·rename_i q hq;have e:=(lV hq).1;simp[nK];refine⟨λhm=>?_,Aq⟩;obtain⟨p,h1,h2⟩:=nL.1 hm;obtain _:=Ao h1;omega
  exact Aq
theorem QC{z d}:∀{l:List Oper} {i j:Nat} {o:Oper},F9 z d i l=true->gU l j=some o->i+j≠z->o.dst≠some d:=by
 intro l
 induction l with
 | nil=>intro i j o _ h;cases h
 | cons c r ih=>
  intro i j o h hj hz;simp only[F9,aU,bU]at h;cases j with
  | zero=>
   simp[gU]at hj;intro e;simp_all
  | succ j=>exact ih (i:=i+1) (j:=j) h.2 hj aG
theorem QD{ops}:∀{Z:List LZ},zOk ops Z=true->∀p∈Z,F9 p.z p.d 0 ops=true
 | q::r,h,p,hp=>by
  simp[zOk]at h;rcases aR.1 hp with rfl | hp
  ·exact h.1
  exact QD h.2 p hp
def eW(l:Array Bool):List Nat->Array Bool
 | []=>l
 | z::r=>eW (l.setIfInBounds z true) r
theorem Ga(l:Array Bool) i j:(l.setIfInBounds i true).setIfInBounds j true=(l.setIfInBounds j true).setIfInBounds i true:=by
 by_cases h:i=j
 ·subst h;rfl
 exact Array.setIfInBounds_comm _ _ h
theorem od:∀{D:List Nat} {l:Array Bool} {z:Nat},eW (l.setIfInBounds z true) D=(eW l D).setIfInBounds z true
 | [],_,_=>rfl
 | d::r,l,z=>by simp[eW,Ga,od]
theorem Gb{D E}(h:D.Perm E):∀l,eW l D=eW l E:=by
 induction h with
 | nil=>intro l;rfl
 | cons x _ ih=>intro l;exact ih _
 | swap x y r=>intro l;simp[eW];rw[Ga]
 | trans _ _ h1 h2=>intro l;exact(h1 l).trans (h2 l)
theorem pZ:∀{D:List Nat} {l:Array Bool} {k:Nat},(eW l D).getD k false=true↔l.getD k false=true∨(k∈D/\k<l.size)
 | [],l,k=>by simp[eW]
 | d::r,l,k=>by
  simp only[eW];rw[pZ];by_cases h:d=k
  ·subst h;by_cases hs:d<l.size
   ·simp[hs]
   simp[hs]
  simp[gz h,u9 h]
theorem oe:∀{D:List Nat} {l:Array Bool} {k:Nat},(eW l D).getD k true=true↔l.getD k true=true∨k∈D
 | [],l,k=>by simp[eW]
 | d::r,l,k=>by
  simp only[eW];rw[oe];by_cases h:d=k
  ·simp_all
  simp[gz h,u9 h]
def BL(Zi:List Nat):List Nat->List Nat
 | []=>[]
 | j::r=>bif Zi.elem j then BL Zi r else j::BL Zi r
theorem qb{Zi}:∀{l:List Nat} {j:Nat},j∈BL Zi l↔j∈l/\j∉Zi
 | [],j=>by simp[BL]
 | c::r,j=>by
  simp only[BL];cases h:Zi.elem c with
  | true=>
   simp only[mj,qb,aR]
   grind
  | false=>
   simp[qb]
   grind
def KE(Zi R:List Nat):List Nat->Bool
 | []=>true
 | j::r=>(R.elem j&&!Zi.elem j)&&KE Zi R r
theorem Gc{Zi R}:∀{l:List Nat},KE Zi R l=true->∀j∈l,j∈R/\j∉Zi
 | c::r,h,j,hj=>by
  simp[KE]at h;rcases aR.1 hj with rfl | hj
  ·grind
  exact Gc h.2 j hj
def vD(l:Array Bool):List Nat->Bool
 | []=>true
 | z::r=>!l.getD z true&&vD l r
theorem xX{l}:∀{Zi:List Nat},vD l Zi=true->∀z∈Zi,l.getD z true=false
 | c::r,h,z,hz=>by
  simp only[vD,aU,dj]at h;rcases aR.1 hz with rfl | hz
  ·exact h.1
  exact xX h.2 z hz
def ZL(ops:List Oper)(Zi:List Nat)(l:Array Bool):Bool:=KE Zi (Region.ready .any ops.toArray l) (Region.ready .any ops.toArray (eW l Zi))
def KF(z:Nat):List Nat->Bool
 | []=>true
 | j::r=>Nat.beq j z&&KF z r
theorem Gf{z}:∀{l:List Nat},KF z l=true->∀j∈l,j=z
 | c::r,h,j,hj=>by
  simp only[KF,aU]at h;rcases aR.1 hj with rfl | hj
  ·simp_all
  exact Gf h.2 j hj
def U4(ops:List Oper)(l:Array Bool)(Zi:List Nat):List Nat->Bool
 | []=>true
 | z::r=>KF z (Region.ready .any ops.toArray (eW l (Zi.erase z)))&&U4 ops l Zi r
theorem KG{ops}{l}{Zi}:∀{r:List Nat},U4 ops l Zi r=true->∀z∈r,∀j∈Region.ready .any ops.toArray (eW l (Zi.erase z)),j=z
 | c::r,h,z,hz=>by
  simp[U4]at h;rcases aR.1 hz with rfl | hz
  ·exact Gf h.1
  exact KG h.2 z hz
section
variable {md:Region.Mode} {ops:Array Oper}
theorem wW{l}{D E}(hs:∀x∈D,x∈E){j}(h:j∈Region.ready md ops (eW l D))(hj:j∉E):j∈Region.ready md ops (eW l E):=by
 rw[mem_ready]at h⊢;obtain⟨h0,o,ho,iW⟩:=h;refine⟨?_,o,ho,λe he hb=>?_⟩
 ·rw[ft]at h0⊢;intro h1;rcases oe.1 h1 with h1 | h1
  ·exact h0 (oe.2 (.inl h1))
  exact hj h1
 rcases pZ.1 (iW e he hb)with h1 | h1
 ·exact pZ.2 (.inl h1)
 exact pZ.2 (.inr ⟨hs _ h1.1,h1.2⟩)
theorem BM{l}(h:qO md ops l){D}(hD:∀z∈D,∀o,ops[z]? =some o->o.after.toList=[]):qO md ops (eW l D):=by
 intro k o hk hl e he hb;rcases pZ.1 hl with h1 | h1
 ·exact pZ.2 (.inl (h k o hk h1 e he hb))
 have:=hD k h1.1 o hk;simp_all
end
theorem ZM{P}{o:Oper}{a}{w}{K}{Q}(hh:o.wp P a w K Q):
  o.wp P a w (λa' w'=>K a' w'/\∀i,o.dst≠some i->a'.tmps[i]? =a.tmps[i]?) Q:=by
 unfold Oper.wp at*
 generalize (execOp a.eval o).run P w=r at*
 cases r with
 | ok n w'=>
  cases n
  case value v=>exact⟨hh,(kb _ _ _).2.2⟩
  case skip=>exact⟨hh,(kb _ _ _).2.2⟩
  case defer d=>exact⟨hh,(kb _ _ _).2.2⟩
  case enter f args=>
   refine Calls.mono hh (λe tt he=>?_);cases e with
   | returned v=>exact⟨he,(kb _ _ _).2.2⟩
   | _=>exact he
  case row n args=>exact Rows.mono hh (λv tt he=>⟨he,(kb _ _ _).2.2⟩)
  all_goals exact hh
 | halt x w'=>cases x<;>simp[Oper.upon]at hh⊢ <;>exact hh
structure Late (Z:List LZ) (ws:ay) (bz:Nat->Nat) (D:List Nat) (mk:List (Nat×Nat)) (a:Act) (w:ay):Prop where
 at_:∀p∈Z,p.z∈D->a.tmps[p.d]? =some (.pointer (some ⟨bz p.z,0,none⟩))/\Blk w (bz p.z) p.t (cz β0 p.zs)/\ws.heap.size<=bz p.z/\An mk (bz p.z)
 sub:∀z∈D,z∈nK Z
 ne:∀z∈D,∀z'∈D,z≠z'->bz z≠bz z'
 top:∀p∈mk,p.2<=w.heap.size
 le:ws.heap.size<=w.heap.size
section
variable {Z:List LZ} {ws:ay} {bz:Nat->Nat} {D:List Nat} {mk:List (Nat×Nat)} {a a':Act} {w w1:ay}
theorem Late.act(h:Late Z ws bz D mk a w)(ha:∀p∈Z,a'.tmps[p.d]? =a.tmps[p.d]?):Late Z ws bz D mk a' w:=
 ⟨λp hp hd=>by rw[ha p hp];exact h.at_ p hp hd,h.sub,h.ne,h.top,h.le⟩
theorem Late.loud(h:Late Z ws bz D mk a w)(hN:ny ws w w1)(ha:∀p∈Z,a'.tmps[p.d]? =a.tmps[p.d]?):Late Z ws bz D ((w.heap.size,w1.heap.size)::mk) a' w1:=by
 refine⟨λp hp hd=>?_,h.sub,h.ne,λp hp=>?_,bf h.le hN.1⟩
 ·obtain⟨h1,h2,h3,h4⟩:=h.at_ p hp hd;have h5:=h2.lt;refine⟨by rw[ha p hp];exact h1,?_,h3,λq hq=>?_⟩
  ·unfold Blk at h2⊢;rw[hN.2 _ h3 h5];exact h2
  rcases aR.1 hq with rfl | hq
  ·exact .inl h5
  exact h4 q hq
 rcases aR.1 hp with rfl | hp
 ·exact ba _
 exact bf (h.top p hp) hN.1
theorem Late.alloc(h:Late Z ws bz D mk a w)(hu:∀p∈Z,∀q∈Z,p.z=q.z->p=q)(hd:∀p∈Z,∀q∈Z,p.z≠q.z->p.d≠q.d){p}(hp:p∈Z)(hn:p.z∉D){b}(hb:w.heap.size<=b)(hO:Only [] w w1)(hB:Blk w1 b p.t (cz β0 p.zs))(hs:p.d<a.tmps.size):
  Late Z ws (λz=>if z=p.z then b else bz z) (p.z::D) mk (a.put (some p.d) (.pointer (some ⟨b,0,none⟩))) w1:=by
 refine⟨λq hq hqd=>?_,λz hz=>?_,λz hz z' Uk fX=>?_,λq hq=>bf (h.top q hq) hO.size,bf h.le hO.size⟩
 ·by_cases e:q.z=p.z
  ·have:=hu q hq p hp e;subst this;rw[aZ rfl];refine⟨by simp[Act.put,hs],hB,bf h.le hb,λx hx=>.inr (bf (h.top x hx) hb)⟩
  rw[aX e];obtain⟨h1,h2,h3,h4⟩:=h.at_ q hq ac3;refine⟨?_,hO.blk h2 aaa,h3,h4⟩;rw[(kb a _ _).2.2 q.d (by
   intro k;injection k with k;exact hd p hp q hq (u9 e) k)]
  exact h1
 ·rcases aR.1 hz with rfl | hz
  ·exact nL.2 ⟨p,hp,rfl⟩
  exact h.sub z hz
 have Pf:∀z∈D,bz z<w.heap.size:=λz hz=>by
  obtain⟨q,hq,rfl⟩:=nL.1 (h.sub z hz);exact(h.at_ q hq hz).2.1.lt
 rcases aR.1 hz with rfl | hz<;>rcases aR.1 Uk with rfl | Uk
 ·exact absurd rfl fX
 ·grind
 ·rw[aX fX,aZ rfl];have:=Pf _ hz;omega
 rw[aX (λe=>hn (by rw[<-e];exact hz)),aX (λe=>hn (by rw[<-e];exact Uk))];exact h.ne _ hz _ Uk fX
end
def YF:YT:=λ_ _=>False
def XL(mb ms:Bool)(S:Nat->Prop)(ws:ay)(o:Op):XT:=λw0 w1 p=>ny ws w0 w1/\XB mb ms S o w0 w1 p
def KH(st:St):List LZ->Bool
 | []=>true
 | p::r=>(dQ st.fr p.d).isNone&&Nat.blt p.d st.n&&KH st r
theorem Gh{st}:∀{Z:List LZ},KH st Z=true->∀p∈Z,dQ st.fr p.d=none/\p.d<st.n
 | q::r,h,p,hp=>by
  simp only[KH,aU,Option.isNone_iff_eq_none]at h;rcases aR.1 hp with rfl | hp
  ·simp_all
  exact Gh h.2 p hp
def St.xC(st:St):St:={st with mv:=true}
def eqA:List Bool->List Bool->Bool
 | [],[]=>true
 | a::r,b::s=>(a==b)&&eqA r s
 | _,_=>false
theorem QE:∀{l m:List Bool},eqA l m=true->l=m
 | [],[],_=>rfl
 | a::r,b::s,h=>by
  simp[eqA]at h;rw[h.1,QE h.2]
def lL(P:Program)(ops:List Oper)(mb ms:Bool)(S:Nat->Prop)(ws:ay)(mk:List (Nat×Nat))(st:St)(o:Oper)(D:List (Nat×Nat)->St->Prop):Prop:=
 bif jh P o.op then False else U3 st ops o (λst=>eV st λst=>loud P (XL mb ms S ws o.op) YF st o λs=>bif s.mv then False else D ((st.w0.heap.size,s.w0.heap.size)::mk) s.xC) (λst=>D mk (St.xC (st.put o.dst .un)))
def fqG(P:Program)(ops:List Oper)(Zi:List Nat)(bI:Array Bool):List Nat->Option Nat
 | []=>none
 | i::r=>(match gU ops i with
  | some o=>bif jh P o.op&&ZL ops Zi (bI.setIfInBounds i true)then some i else fqG P ops Zi bI r
  | none=>fqG P ops Zi bI r)
def fqZ(P:Program)(ops:List Oper)(Zi:List Nat)(bI:Array Bool)(l:List Nat):Option Nat:=
 match fqG P ops Zi bI l with
 | some q=>some q
 | none=>fq P ops l
def Nw(P:Program)(ops:List Oper)(mb ms:Bool)(S:Nat->Prop)(ws:ay)(Z:List LZ)(xH:Array Bool)(gm:Nat)(K:List (Nat×Nat)->St->Prop):Nat->Array Bool->List (Nat×Nat)->St->Prop
 | 0,_,_,_=>False
 | g+1,bI,mk,st=>bif vD bI (nK Z)&&KH st Z then(match BL (nK Z) (Region.ready .any ops.toArray bI)with
  | []=>bif U4 ops bI (nK Z) (nK Z)&&eqA bI.toList xH.toList&&Nat.beq (g+1) gm&&Nat.ble (nK Z).length (g+1)then K mk st else False
  | i::r=>bif ZL ops (nK Z) bI&&Nat.ble (nK Z).length g then(match fqZ P ops (nK Z) bI (i::r)with
   | some q=>ck (gU ops q) λo=>bif okT ops bI q&&(i::r).contains q then
    U3 st ops o (λst=>qP P ops mb ms S bI q o st.xC λst=>Nw P ops mb ms S ws Z xH gm K g (bI.setIfInBounds q true) mk st.xC) (λst=>Nw P ops mb ms S ws Z xH gm K g (bI.setIfInBounds q true) mk (St.xC (st.put o.dst .un)))else False
   | none=>(match r with
    | []=>ck (gU ops i) λo=>lL P ops mb ms S ws mk st o λmk st=>Nw P ops mb ms S ws Z xH gm K g (bI.setIfInBounds i true) mk st
    | [j]=>ck (gU ops i) λo=>ck (gU ops j) λo'=>
     lL P ops mb ms S ws mk st o (λmk st=>Nw P ops mb ms S ws Z xH gm K g (bI.setIfInBounds i true) mk st)/\
     lL P ops mb ms S ws mk st o' (λmk st=>Nw P ops mb ms S ws Z xH gm K g (bI.setIfInBounds j true) mk st)
    | [j,k]=>ck (gU ops i) λo=>ck (gU ops j) λo'=>ck (gU ops k) λo''=>
     lL P ops mb ms S ws mk st o (λmk st=>Nw P ops mb ms S ws Z xH gm K g (bI.setIfInBounds i true) mk st)/\
     lL P ops mb ms S ws mk st o' (λmk st=>Nw P ops mb ms S ws Z xH gm K g (bI.setIfInBounds j true) mk st)/\
     lL P ops mb ms S ws mk st o'' (λmk st=>Nw P ops mb ms S ws Z xH gm K g (bI.setIfInBounds k true) mk st)
    | _=>False))else False)else False
section
variable {P:Program} {ops:List Oper} {mb ms:Bool} {S:Nat->Prop} {β:Nat->Nat} {a:Act} {w:ay} {ws:ay} {Z:List LZ} {xH:Array Bool} {gm:Nat}
theorem Rep.late{st}(hR:Rep β st a w)(hm:st.mv=true){d}{v}(hd:dQ st.fr d=none){w1}(hO:Only [] w w1):Rep β st (a.put (some d) v) w1:=by
 obtain⟨p1,p2,p3⟩:=kb a _ v;refine⟨qT ⟨p1.trans hR.ok.sz,p2.trans hR.ok.df,λi p hl hi=>?_⟩,λi b hb ho=>?_,hR.ne,hR.only.cy hO,λh=>by rw[hm]at h;cases h⟩
 ·rw[p3 i ac3];exact hR.ok.at_ i p hl hi
 obtain⟨k1,k2,k3⟩:=hR.bx i b hb ho;exact⟨hO.blk k1 aaa,k2,k3⟩
theorem Rep.xC{st}(hR:Rep β st a w):Rep β st.xC a w:=⟨hR.fr,hR.bx,hR.ne,hR.only,λh=>aaH⟩
theorem Ext.xC st:Ext st st.xC:=⟨rfl,ba _,λ_ _ _ h _=>h,λi b h ho _=>⟨b,h,ho,rfl,rfl,rfl,λ_ h=>h⟩,P8,Fs⟩
theorem aex{Q}{j}{o}{st}{mk}{D}(hj:gU ops j=some o)(h:lL P ops mb ms S ws mk st o D)(hR:Rep β st a w):
  wpOp P ops.toArray Q j (λa' w'=>EE P ops mb ms S j w w'/\(∀i,o.dst≠some i->a'.tmps[i]? =a.tmps[i]?)/\∃β' cN mk',D mk' cN/\Ext st cN/\cN.mv=true/\Rep β' cN a' w'/\((mk'=mk/\w'=w)∨(mk'=(w.heap.size,w'.heap.size)::mk/\ny ws w w'))) a w:=by
 rcases mG h with⟨_,h⟩ | ⟨hp,h⟩
 ·exact h.elim
 have Pe:ops.toArray[j]? =some o:=by rw[jO]at hj;simpa using hj
 unfold wpOp;simp only[Pe];obtain⟨s,e1,gY,h1⟩:=Am h hR;rcases h1 with⟨hw,h1⟩ | ⟨hw,h1⟩
 ·rw[aZ hw];left;obtain⟨s1,h2,e2,Yx,Po,_⟩:=dX h1 gY;have hEE:EE P ops mb ms S j=λw w'=>bif mb&&(ms||!yA o.op)then bP S w w' else True:=by
   unfold EE;simp_all
  have:=ZM (DL (E:=λw w'=>EE P ops mb ms S j w w'/\ny ws w w') (Q:=Q) (λw0 w1 p hx=>?_) (λw w1 hO=>?_) (λhs bk k w w1 p hy hk hO=>hy.elim) h2 Yx)
  ·refine Oper.wp_mono ?_ this;rintro a' w' ⟨⟨β',cN,k1,k2,k3,k4⟩,k5⟩;rcases mG k1 with⟨_,k1⟩ | ⟨km,k1⟩
   ·exact k1.elim
   refine⟨k3.1,k5,β',cN.xC,_,k1,((e1.trans e2).trans k2).trans (Ext.xC _),rfl,k4.xC,.inr ⟨?_,k3.2⟩⟩;rw[<-k4.still km,<-Yx.still Po]
  ·rw[hEE];obtain⟨hN,hx⟩:=hx;unfold XB at hx;cases hb:(mb&&(ms||!yA o.op))<;>grind
  rw[hEE];refine⟨?_,ny.MF hO⟩;cases(mb&&_)with
  | true=>exact bP.only hO
  | false=>exact trivial
 rw[aX ac3];exact⟨qZ hj w,(kb _ _ _).2.2,β,_,mk,h1,(e1.trans (Ext.put _ _ _)).trans (Ext.xC _),rfl,(gY.put o.dst .un).xC,.inl ⟨rfl,trivial⟩⟩
theorem QF{Q:Exit->Act->ay->Prop}(hQ:∀c a w,¬Q (.panic c) a w)(hZ:∀p∈Z,∃o,gU ops p.z=some o/\uI P p.z o=some p)(hzo:zOk ops Z=true)(hnd:(nK Z).Nodup){s0:St}{K:List (Nat×Nat)->St->Prop}
  (hK:∀mk st β a w bz D m,K mk st->Ext s0 st->Rep β st a w->Late Z ws bz D mk a w->D.Perm (nK Z)->m+D.length=gm->fW P .any ops.toArray Q (EE P ops mb ms S) m (eW xH D) a w):
  ∀(m g:Nat) {bI:Array Bool} {mk:List (Nat×Nat)} {st:St} {β:Nat->Nat} {a:Act} {w:ay} {bz:Nat->Nat} {D Pd:List Nat},Nw P ops mb ms S ws Z xH gm K g bI mk st->Ext s0 st->st.mv=true->Rep β st a w->Late Z ws bz D mk a w->(D++Pd).Perm (nK Z)->m+D.length=g->
   fW P .any ops.toArray Q (EE P ops mb ms S) m (eW bI D) a w:=by
 intro m;have hu:∀p∈Z,∀q∈Z,p.z=q.z->p=q:=λp hp q hq e=>by
  obtain⟨o,h1,h2⟩:=hZ p hp;obtain⟨o',h3,h4⟩:=hZ q hq;rw[e,h3]at h1;injection h1 with h1;subst h1;rw[e,h4]at h2;injection h2 with h2;exact h2.symm
 have hdo:∀p∈Z,∀j o,gU ops j=some o->j≠p.z->o.dst≠some p.d:=λp hp j o hj fX=>QC (QD hzo p hp) hj (by rw[bM];exact fX);have Ul:∀p∈Z,∀q∈Z,p.z≠q.z->p.d≠q.d:=λp hp q hq fX e=>by
  obtain⟨o',h3,h4⟩:=hZ q hq;exact hdo p hp q.z o' h3 (u9 fX) (by rw[(lV h4).2.2.1,e])
 induction m using Nat.strongRecOn with
 | ind m ih=>
 intro g bI mk st β a w bz D Pd h he hm hR hL hp hg;cases g with
 | zero=>exact h.elim
 | succ g=>
 have h0:=h;unfold Nw at h;obtain⟨hc,h⟩:=dD h;simp only[aU]at hc;obtain⟨hun,hfz⟩:=hc;have hun:=xX hun;have hDZ:∀x∈D,x∈nK Z:=hL.sub;have hPZ:∀x∈Pd,x∈nK Z:=λx hx=>hp.subset (List.mem_append_right _ hx);have fl:D.length+Pd.length=(nK Z).length:=by have:=hp.length_eq;rwa[aW]at this
 have amZ:(D++Pd).Nodup:=hp.nodup_iff.2 hnd;have hPD:∀x∈Pd,x∉D:=λx hx hd=>(List.nodup_append.1 amZ).2.2 x hd x hx rfl;have hrz:∀j∈Region.ready .any ops.toArray (eW bI D),j∈nK Z->j∈Pd:=λj hj uW=>by
  have h1:j∉D:=λhd=>by
   have:=(mem_ready.1 hj).1;rw[oe.2 (.inr hd)]at this;cases this
  rcases ci.1 (hp.mem_iff.2 uW)with h2 | h2
  ·exact absurd h2 h1
  exact h2
 have WA:∀j∈Region.ready .any ops.toArray bI,j∉nK Z->j∈Region.ready .any ops.toArray (eW bI D):=λj hj uW=>wW (l:=bI) (D:=[]) (E:=D) aaa hj λk=>uW (hDZ j k);have hpr:∀z∈Pd,z∈Region.ready .any ops.toArray (eW bI D):=λz hz=>by
  obtain⟨p,JG,rfl⟩:=nL.1 (hPZ z hz);obtain⟨o,ho,cd⟩:=hZ p JG;refine mem_ready.2 ⟨?_,o,adg,λe he=>?_⟩
  ·rw[ft];intro k;rcases oe.1 k with k | k
   ·rw[hun _ (hPZ _ hz)]at k;cases k
   exact hPD _ hz k
  rw[Array.mem_def,(lV cd).2.2.2.2.1]at he;cases he
 have AL:∀{m'},m=m'+1->∀j∈Pd,wpOp P ops.toArray Q j (λa' w'=>EE P ops mb ms S j w w'/\fW P .any ops.toArray Q (EE P ops mb ms S) m' ((eW bI D).setIfInBounds j true) a' w') a w:=by
  intro m' em j hj;obtain⟨p,JG,rfl⟩:=nL.1 (hPZ j hj);obtain⟨o,ho,cd⟩:=hZ p JG;obtain⟨_,l2,l3,l4,l5,l6,l7⟩:=lV cd;obtain⟨fz1,fz2⟩:=Gh hfz p JG;have Pn:ops.toArray[p.z]? =some o:=adg
  unfold wpOp;simp only[Pn];rw[aZ (wn l4)];left;obtain⟨dst,op,t',pp,af,g0⟩:=o;dsimp only at l2 l3 l4 l5;subst l2 l3 l4;obtain⟨z,z1,z2⟩:=Xs l6 w;refine zI z1 (z2 β0) (λ_=>rfl) λb w1 hb hO hB=>⟨?_,?_⟩
  ·unfold EE;rw[ho];dsimp only;rw[show jh P (.alloc p.t)=false from rfl,ui];cases(mb&&(ms||!yA (.alloc p.t)))with
   | true=>exact bP.only hO
   | false=>exact trivial
  rw[<-od];exact ih m' aG (g+1) (D:=p.z::D) (Pd:=Pd.erase p.z) h0 he hm (hR.late hm fz1 hO) (hL.alloc hu Ul JG (hPD _ hj) hb hO hB (by rw[hR.ok.sz];exact fz2))
   ((List.perm_middle.symm.trans ((List.perm_cons_erase hj).symm.append_left D)).trans hp) (by rw[bp];omega)
 split at h
 ·rename_i Th;obtain⟨hc,h⟩:=dD h;simp only[aU]at hc;obtain⟨⟨⟨c1,c2⟩,c3⟩,c4⟩:=hc;have am1:bI=xH:=OW.1 (QE c2);have egm:=bZ c3;have c4:=cG c4;cases hPd:Pd with
  | nil=>
   rw[hPd,bS]at hp;rw[am1];exact hK mk st β a w bz D m h he hR hL hp aG
  | cons z Pd'=>
   have hzm:z∈Pd:=by rw[hPd];exact eh
   have Ti:Pd.length=Pd'.length+1:=by rw[hPd];rfl
   obtain⟨m',rfl⟩:∃m',m=m'+1:=⟨m-1,aG⟩
   refine⟨λh0=>?_,λj hj=>AL rfl j ?_⟩
   ·have:=hpr z hzm;rw[h0]at this;cases this
   by_cases uW:j∈nK Z
   ·exact hrz j hj uW
   exfalso;have h1:j∈Region.ready .any ops.toArray (eW bI ((nK Z).erase z)):=wW (λx hx=>(List.mem_erase_of_ne (λe=>hPD z hzm (by rw[<-e];exact hx))).2 (hDZ x hx)) hj (λk=>uW (List.mem_of_mem_erase k));have:=KG c1 z (hPZ z hzm) j h1;exact uW (this▸hPZ z hzm)
 rename_i i r Th;obtain⟨c0,h⟩:=dD h;simp only[aU,ZL]at c0;have hrd:=Gc c0.1;have c0:=cG c0.2;have hrm:∀j∈Region.ready .any ops.toArray (eW bI D),j∉nK Z->j∈Region.ready .any ops.toArray bI:=λj hj uW=>(hrd j (wW hDZ hj uW)).1;obtain⟨m',rfl⟩:∃m',m=m'+1:=⟨m-1,aG⟩
 have hio:∀j∈i::r,j∈Region.ready .any ops.toArray bI/\j∉nK Z:=λj hj=>qb.1 (by rw[Th];exact hj);have fX:Region.ready .any ops.toArray (eW bI D)=[]->False:=λh0=>by
  have:=WA i (hio i eh).1 (hio i eh).2;rw[h0]at this;cases this
 have hdz:∀j o,gU ops j=some o->j∉nK Z->∀p∈Z,o.dst≠some p.d:=λj o hj uW p hp=>hdo p hp j o hj λe=>uW (nL.2 ⟨p,hp,e.symm⟩);have LL:∀{j:Nat} {o:Oper},gU ops j=some o->j∉nK Z->lL P ops mb ms S ws mk st o (λmk st=>Nw P ops mb ms S ws Z xH gm K g (bI.setIfInBounds j true) mk st)->
   wpOp P ops.toArray Q j (λa' w'=>EE P ops mb ms S j w w'/\fW P .any ops.toArray Q (EE P ops mb ms S) m' ((eW bI D).setIfInBounds j true) a' w') a w:=by
  intro j o ho uW h;refine wpOp_mono (λa' w' hh=>⟨hh.1,?_⟩) (aex ho h hR);obtain⟨k0,k1,β',cN,mk',k2,k3,k4,k5,k6⟩:=hh;rw[<-od];have rV:∀p∈Z,a'.tmps[p.d]? =a.tmps[p.d]? :=λp hp=>k1 _ (hdz j o ho uW p hp);have hL':Late Z ws bz D mk' a' w':=by
   rcases k6 with⟨rfl,rfl⟩ | ⟨rfl,k6⟩
   ·exact hL.act rV
   exact hL.loud k6 rV
  exact ih m' aG g k2 (he.trans k3) k4 k5 hL' hp aG
 split at h
 ·rename_i q hq;obtain⟨o,ho,h⟩:=bC h;obtain⟨hc,h⟩:=dD h;simp only[aU,okT]at hc;obtain⟨⟨⟨⟨⟨c1,c2⟩,c3⟩,c4⟩,c5⟩,c6⟩:=hc;obtain⟨hq1,hq2⟩:=hio q (by simpa using c6);have Pn:ops.toArray[q]? =some o:=adg
  have pJ:qO .any ops.toArray (eW bI D):=BM (Ca c3) λz hz o hoz=>by
   obtain⟨p,JG,rfl⟩:=nL.1 (hDZ z hz);obtain⟨o2,ho2,cd⟩:=hZ p JG;rw[jO]at ho2;have:o2=o:=by
    have e:ops.toArray[p.z]? =some o2:=by simpa using ho2
    rw[hoz]at e;injection e with e;exact e.symm
   rw[<-this];exact(lV cd).2.2.2.2.1
  have hN:∀k∈T7 bI 0 ops,(eW bI D).getD k true=true:=λk hk=>oe.2 (.inl (by simpa using(dY.1 c5) k hk));have MP:=Region.free_spec Pn c2;have E5:∀j oj,ops.toArray[j]? =some oj->j≠q->(eW bI D).getD j true=false->(∀e∈oj.after,Region.binds .any e=true->e.on≠q)->o.apart ops.toArray oj=true:=λj oj h1 h2 h3 h4=>MP j oj h1 h2 (by
   rw[ft]at h3⊢;exact λk=>h3 (oe.2 (.inl k))) h4
  have hqr:=WA q hq1 hq2;obtain⟨s,e1,gY,h1⟩:=Am h hR;have rV:∀v,∀p∈Z,(a.put o.dst v).tmps[p.d]? =a.tmps[p.d]? :=λv p hp=>(kb _ _ _).2.2 _ (hdz q o ho hq2 p hp);rcases h1 with⟨hw,h1⟩ | ⟨hw,h1⟩
  ·obtain⟨v,s2,F,k1,k2,k3,k4,k5,k6,k7⟩:=Xx h1 gY.xC;refine qQ Pn (Region.noSelect_spec c1) (λc a w hp=>(hQ _ _ _ hp).elim) c4 (T7 bI 0 ops) k5 (λw1 _=>qZ ho w1) m' (eW bI D) a w pJ hN E5 hqr (Xi hw k7) k4 ?_;rw[<-od];exact ih m' aG g k1 (((he.trans e1).trans (Ext.xC _)).trans (k2.trans (Ext.xC _))) rfl k3.xC (hL.act (rV v)) hp aG
  refine qQ (v:=undef) (F:=λ_=>True) Pn (Region.noSelect_spec c1) (λc a w hp=>(hQ _ _ _ hp).elim) c4 (T7 bI 0 ops) (λ_ _ _ _ _ _ _=>trivial) (λw1 _=>qZ ho w1) m' (eW bI D) a w pJ hN E5 hqr (aea hw) trivial ?_;rw[<-od];exact ih m' aG g h1 ((he.trans e1).trans ((Ext.put _ _ _).trans (Ext.xC _))) rfl (gY.put o.dst .un).xC (hL.act (rV undef)) hp aG
 split at h
 ·obtain⟨o,ho,h⟩:=bC h;refine⟨λh0=>(fX h0).elim,λj hj=>?_⟩;by_cases uW:j∈nK Z
  ·exact AL rfl j (hrz j hj uW)
  have:j∈BL (nK Z) (Region.ready .any ops.toArray bI):=qb.2 ⟨hrm j hj uW,uW⟩;rw[Th]at this;obtain rfl:j=i:=by simpa using this
  exact LL ho uW h
 ·rename_i i' _;obtain⟨o,ho,h⟩:=bC h;obtain⟨o',Pn,h⟩:=bC h;refine⟨λh0=>(fX h0).elim,λj hj=>?_⟩;by_cases uW:j∈nK Z
  ·exact AL rfl j (hrz j hj uW)
  have:j∈BL (nK Z) (Region.ready .any ops.toArray bI):=qb.2 ⟨hrm j hj uW,uW⟩;rw[Th]at this;rcases aR.1 this with rfl | this
  ·exact LL ho uW h.1
  have:=aO.1 this;subst this;exact LL Pn uW h.2
 ·rename_i i' i'' _;obtain⟨o,ho,h⟩:=bC h;obtain⟨o',Pn,h⟩:=bC h;obtain⟨o'',am5,h⟩:=bC h;refine⟨λh0=>(fX h0).elim,λj hj=>?_⟩;by_cases uW:j∈nK Z
  ·exact AL rfl j (hrz j hj uW)
  have:j∈BL (nK Z) (Region.ready .any ops.toArray bI):=qb.2 ⟨hrm j hj uW,uW⟩;rw[Th]at this;rcases aR.1 this with rfl | this
  ·exact LL ho uW h.1
  rcases aR.1 this with rfl | this
  ·exact LL Pn uW h.2.1
  have:=aO.1 this;subst this;exact LL am5 uW h.2.2
 exact h.elim
end
def St.EX(st:St)(d:Nat)(t:TypeId)(zs:List SV)(b:Nat):St:=
 St.put {st with bx:=st.bx++[⟨some b,t,zs,st.ct,true,false,false⟩],ct:=st.ct+1} (some d) (.box st.bx.length 0)
theorem Ext.EX st d t zs b:Ext st (st.EX d t zs b):=by
 refine Ext.trans (t:={st with bx:=st.bx++[_],ct:=st.ct+1}) ⟨rfl,iC _,λ_ _ _ h _=>h,λi b' hb ho hs=>?_,λi b hb=>?_,Fs⟩ (Ext.put _ _ _)
 ·rw[kc]at hb
  grind
 exact⟨b,by dsimp only;rw[kc,aX (by have:=qV hb;omega)];exact hb,rfl,rfl,λ_ h=>h⟩
section
variable {β:Nat->Nat} {st:St} {a:Act} {w:ay}
theorem Rep.EX(hR:Rep β st a w){d}{t}{zs}{b}(h1:Np st.bx.length st.fr=true)(h2:IE st.bx.length st.bx=true)(hdt:Ae st.bx st.dt=true)(pJ:ia (λ_=>false) zs=true)
  (hs:a.tmps[d]? =some (.pointer (some ⟨b,0,none⟩))) (hB:Blk w b t (cz β0 zs)) (fX:∀i c,cZ st.bx i=some c->c.ok=true->β i≠b):
  Rep (BB β st.bx.length b) (st.EX d t zs b) a w:=by
 have uv:BB β st.bx.length b st.bx.length=b:=by unfold BB;rw[aZ rfl]
 have cd:∀{i c},cZ st.bx i=some c->BB β st.bx.length b i=β i:=fun{i c} h=>by
  unfold BB;rw[aX];have:=qV h;omega
 have base:Rep (BB β st.bx.length b) {st with bx:=st.bx++[⟨some b,t,zs,st.ct,true,false,false⟩],ct:=st.ct+1} a w:=by
  refine⟨qT ⟨hR.ok.sz,hR.ok.df,λi p hl hi=>?_⟩,λi c hc ho=>?_,λi j bi bj g1 g2 g3 g4 rO=>?_,?_,hR.still⟩
  ·rw[hR.ok.at_ i p hl hi];congr 1;exact iE (g:=λj=>!Nat.beq j st.bx.length) Ah _ (DG h1 i p hl)
  ·rw[kc]at hc;split at hc
   ·rename_i he;simp at hc;subst hc;subst he;refine⟨?_,λk hk=>?_,λhk=>adS⟩
    ·rw[uv];rw[gP (g:=λ_=>false) (β:=BB β st.bx.length b) (β':=β0) (λi h=>aaH) _ pJ];exact hB
    simp_all
   have e:=cd hc;obtain⟨k1,k2,k3⟩:=hR.bx i c hc ho;refine⟨?_,λk hk=>by rw[e];exact k2 k hk,λhk=>by rw[e];exact k3 hk⟩;rw[e,<-gP (g:=λj=>!Nat.beq j st.bx.length) (β:=β) (β':=BB β st.bx.length b) Ah _ (DH h2 i c hc ho)];exact k1
  ·rw[kc]at g1 g2;split at g1
   ·grind
   split at g2
   ·grind
   rw[cd g1,cd g2];exact hR.ne i j bi bj g1 g2 g3 g4 rO
  have e:=rU λi hi=>by
   obtain⟨c,hc,_⟩:=tz hdt i hi;exact cd hc
  rw[e];exact hR.only
 refine⟨qT ⟨base.ok.sz,base.ok.df,λi p hl hi=>?_⟩,base.bx,base.ne,base.only,base.still⟩;simp[St.EX,St.put,dQ]at hl;cases hb:Nat.beq d i with
 | true=>
  rw[hb]at hl;simp at hl;subst hl;have:=bZ hb;subst this;rw[hs];show _=some (Value.pointer _);rw[uv]
 | false=>rw[hb]at hl;exact base.ok.at_ i p adH hi
end
def neN(b:Nat):List Nat->Prop->Prop
 | [],p=>p
 | x::r,p=>x≠b->neN b r p
theorem QG{b}:∀{l:List Nat} {p:Prop},neN b l p->(∀x∈l,x≠b)->p
 | [],_,h,_=>h
 | x::r,p,h,hb=>QG (h (hb x eh)) λy hy=>hb y (dd _ hy)
def ZN(ws:ay)(mk:List (Nat×Nat)):List LZ->List Nat->St->(St->Prop)->Prop
 | [],_,st,K=>K st
 | p::r,seen,st,K=>bif chk st p.zs then ∀b,ws.heap.size<=b->b<st.w0.heap.size->An mk b->neN b seen (ZN ws mk r (b::seen) (st.EX p.d p.t p.zs b) K)else False
theorem KI{ws}{mk}{bz:Nat->Nat}{a}{w}:∀{r:List LZ} {seen:List Nat} {st:St} {K:St->Prop} {β:Nat->Nat},ZN ws mk r seen st K->Rep β st a w->st.mv=false->
  (∀p∈r,a.tmps[p.d]? =some (.pointer (some ⟨bz p.z,0,none⟩))/\Blk w (bz p.z) p.t (cz β0 p.zs)/\ws.heap.size<=bz p.z/\An mk (bz p.z)/\ia (λ_=>false) p.zs=true/\(∀x∈seen,x≠bz p.z)/\∀i c,cZ st.bx i=some c->c.ok=true->β i≠bz p.z)->
  (nK r).Nodup->(∀p∈r,∀q∈r,p.z≠q.z->bz p.z≠bz q.z)->∃cN β',K cN/\Ext st cN/\Rep β' cN a w
 | [],_,st,K,β,h,hR,_,_,_,_=>⟨st,β,h,Ext.refl _,hR⟩
 | p::r,seen,st,K,β,h,hR,hm,hp,hn,hd=>by
  obtain⟨hc,h⟩:=dD h;simp[chk,aU]at hc;obtain⟨h1,h2,h3,h4,h5,h6,h7⟩:=hp p eh;have h:=QG (h _ h3 (by rw[<-hR.still hm];exact h2.lt) h4) h6;simp[nK,kO]at hn;have hpq:∀q∈r,p.z≠q.z:=λq hq e=>hn.1 (nL.2 ⟨q,hq,e.symm⟩);have cd:∀{i c},cZ st.bx i=some c->BB β st.bx.length (bz p.z) i=β i:=fun{i c} h=>by
   unfold BB;rw[aX];have:=qV h;omega
  obtain⟨cN,β',k1,k2,k3⟩:=KI h (hR.EX hc.1.1.1 hc.1.1.2 hc.2 h5 h1 h2 h7) hm (λq hq=>by
   obtain⟨g1,g2,g3,g4,g5,g6,g7⟩:=hp q (dd _ hq);have fX:=hd p eh q (dd _ hq) (hpq q hq);refine⟨g1,g2,g3,g4,g5,λx hx=>?_,λi c hc ho=>?_⟩
   ·rcases aR.1 hx with rfl | hx
    ·exact fX
    exact g6 x hx
   simp[St.EX,St.put]at hc;rw[kc]at hc;split at hc
   ·rename_i e;subst e;unfold BB;simp_all
   rw[cd hc];exact g7 i c hc ho) hn.2 λx hx y hy=>hd x (dd _ hx) y (dd _ hy)
  exact⟨cN,β',k1,(Ext.EX _ _ _ _ _).trans k2,k3⟩
def ph2(P:Program)(ops:List Oper)(mb ms:Bool)(S:Nat->Prop)(ws:ay)(Z:List LZ)(xH:Array Bool)(gm nb:Nat)(mk:List (Nat×Nat))(st:St)(K:St->Prop):Prop:=
 bif Nat.beq st.bx.length nb then eV st λst=>ZN ws mk Z [] st λst=>F6 P ops mb ms S (gm-(nK Z).length) (eW xH (nK Z)) st K else False
def KJ(P:Program)(ops:List Oper)(jn:Bool)(kp:List Nat)(mi:List MI)(mb ms:Bool)(S:Nat->Prop)(Z:List LZ)(xH:Array Bool)(gm:Nat)(st:St)(K:St->Prop):Prop:=
 bif pX st.bx then
  (bif jn then ∃J:List _->JT _,(∀mk,F4 _ (J mk) λvs w=>ph2 P ops mb ms S st.w0 Z xH gm st.bx.length mk (lU st kp mi vs w) K)/\
   Nw P ops mb ms S st.w0 Z xH gm (λmk s=>eV s λs=>Nu st kp mi (J mk) s) ops.length (Array.replicate ops.length false) [] (St.xC (st.oy (zSl Z)))
  else Nw P ops mb ms S st.w0 Z xH gm (λmk s=>ph2 P ops mb ms S st.w0 Z xH gm st.bx.length mk s K) ops.length (Array.replicate ops.length false) [] (St.xC (st.oy (zSl Z))))else False
def QH(ops:List Oper)(Zi:List Nat):Nat->Array Bool->Array Bool
 | 0,l=>l
 | f+1,l=>match BL Zi (Region.ready .any ops.toArray l)with
  | []=>l
  | i::_=>QH ops Zi f (l.setIfInBounds i true)
def U5:List Bool->Nat
 | []=>0
 | b::r=>bif b then U5 r else U5 r+1
theorem KK:∀{l:List j8} {i:Nat},i<l.length->∃b,cZ l i=some b
 | b::r,0,_=>⟨b,rfl⟩
 | b::r,i+1,h=>KK (l:=r) abi
section
variable {P:Program} {ops:List Oper} {mb ms:Bool} {S:Nat->Prop} {β:Nat->Nat} {a:Act} {w:ay} {xH:Array Bool} {gm:Nat} {jn:Bool} {kp:List Nat} {mi:List MI} {st:St} {K:St->Prop}
theorem QI{Q}(hQ:∀c a w,¬Q (.panic c) a w)(hzo:zOk ops (kQ P 0 ops)=true)(h:KJ P ops jn kp mi mb ms S (kQ P 0 ops) xH gm st K)(hR:Rep β st a w)(rW:st.mv=false)
  (hK:∀β' cN a' w',K cN->Ext st cN->Rep β' cN a' w'->Q .normal a' w'):fW P .any ops.toArray Q (EE P ops mb ms S) ops.length (Array.replicate ops.length false) a w:=by
 have hnd:(nK (kQ P 0 ops)).Nodup:=Aq;have hZ:∀p∈kQ P 0 ops,∃o,gU ops p.z=some o/\uI P p.z o=some p:=λp hp=>by
  obtain⟨j,o,h1,h2,h3⟩:=Ao hp
  grind
 generalize kQ P 0 ops=Z at*
 obtain⟨hbd,h⟩:=dD h;rw[<-hR.still rW]at h;have two:∀mk cN β' a' w' bz D m,ph2 P ops mb ms S w Z xH gm st.bx.length mk cN K->Ext st cN->Rep β' cN a' w'->Late Z w bz D mk a' w'->D.Perm (nK Z)->m+D.length=gm->fW P .any ops.toArray Q (EE P ops mb ms S) m (eW xH D) a' w':=by
  intro mk cN β' a' w' bz D m h he Yy hL hp hg;obtain⟨fl,h⟩:=dD h;have fl:=bZ fl;obtain⟨s1,h1,e1,gY,Pq,_,_,_,hl1⟩:=dX h Yy;have hx:=he.trans e1;have hold:∀i c,cZ s1.bx i=some c->c.ok=true->β' i<w.heap.size:=λi c hc ho=>by
   obtain⟨b,hb⟩:=KK (l:=st.bx) (i:=i) (by have:=qV hc;omega);obtain⟨c',k1,k2,k3,k4⟩:=hx.ps i b hb;rw[hc]at k1;injection k1 with k1;subst k1;have Fy:b.ok=true:=by rw[<-k3];exact ho
   obtain⟨k,hk⟩:=dW.1 (vv hbd i b hb Fy);rw[(gY.bx i c hc ho).at_ k (k4 k hk),<-(hR.bx i b hb Fy).at_ k hk];exact(hR.bx i b hb Fy).blk.lt
  have hD:=λp JG=>hp.mem_iff.2 (nL.2 ⟨p,JG,rfl⟩);obtain⟨s2,β2,k1,k2,k3⟩:=KI (bz:=bz) h1 gY Pq (λp JG=>by
   obtain⟨g1,g2,g3,g4⟩:=hL.at_ p JG (hD p JG);obtain⟨o,_,ho⟩:=hZ p JG;exact⟨g1,g2,g3,g4,(lV ho).2.2.2.2.2.2,aaa,λi c hc ho=>ac3⟩) hnd λp JG q hqZ=>hL.ne _ (hD p JG) _ (hD q hqZ)
  have:=hp.length_eq;rw[Gb hp,show m=gm-(nK Z).length by omega];exact sF hQ k1 k3 λβ3 s3 a3 w3 m1 m2 m3=>hK β3 s3 a3 w3 m1 ((hx.trans k2).trans m2) m3
 have Um:Late Z w (λ_=>0) [] [] a w:=⟨λp _ h=>aaH,λ_ h=>aaH,λ_ h=>aaa,λ_ h=>aaH,ba _⟩
 have hR0:=Rep.xC (hR.frame (fr':=zZ _ st.fr) λi p hl=>by
  cases he:(zSl Z).elem i with
  | true=>rw[(kD (l:=st.fr)).1 he]at hl;cases hl
  | false=>rw[(kD (l:=st.fr)).2 he]at hl;exact⟨p,hl,rfl⟩)
 have he0:Ext st (St.xC (st.oy (zSl Z))):=(Ext.oy _ _).trans (Ext.xC _);rcases mG h with⟨_,h⟩ | ⟨_,h⟩
 ·obtain⟨J,hJ,h⟩:=h;refine QF hQ hZ hzo hnd (s0:=st) (λmk s β' a' w' bz D m hk he Yy hL hp hg=>?_) ops.length ops.length (D:=[]) (Pd:=nK Z) h he0 rfl hR0 Um (List.Perm.refl _) rfl;obtain⟨s3,h3,e3,hR3,WB,_⟩:=dX hk Yy;obtain⟨vs,k1,k2⟩:=sE h3 hR3 WB (.inl (he.trans e3)) (hJ mk);exact two mk _ _ a' w' bz D m k1 Ext.SU k2 hL hp hg
 exact QF hQ hZ hzo hnd (s0:=st) (λmk s β' a' w' bz D m hk he Yy hL hp hg=>two mk s β' a' w' bz D m hk he Yy hL hp hg) ops.length ops.length (D:=[]) (Pd:=nK Z) h he0 rfl hR0 Um (List.Perm.refl _) rfl
end
inductive Ann where
 | o
 | s (x y:Ann)
 | j (kp:List Nat) (ms:List MI) (x y:Ann)
 | l (jn:Bool) (kp:List Nat) (ms:List MI)
def Ann.x:Ann->Ann
 | .s x _=>x
 | _=>.o
def Ann.y:Ann->Ann
 | .s _ y=>y
 | _=>.o
def Ann.d:Nat->Ann->Ann
 | 0,x=>x
 | n+1,x=>.s .o (d n x)
def fy:Nat:=4000
def neP(k:Nat):List j8->Prop->Prop
 | [],p=>p
 | b::r,p=>bif b.ok&&b.blk.isSome then(k≠b.blk.getD 0->neP k r p)else neP k r p
def IL:List j8->Prop->Prop
 | [],p=>p
 | b::r,p=>bif b.ok&&b.blk.isSome then neP (b.blk.getD 0) r (IL r p)else IL r p
theorem IM{k}:∀{l:List j8} {p:Prop},neP k l p->(∀i b,cZ l i=some b->b.ok=true->b.blk.isSome=true->k≠b.blk.getD 0)->p
 | [],_,h,_=>h
 | b::r,p,h,hb=>by
  unfold neP at h;cases hc:(b.ok&&b.blk.isSome)with
  | true=>
   rw[hc]at h;simp at hc;exact IM (h (hb 0 b rfl hc.1 hc.2)) λi c hi=>hb (i+1) c hi
  | false=>
   rw[hc]at h;exact IM h λi c hi=>hb (i+1) c hi
theorem DQ:∀{l:List j8} {p:Prop},IL l p->(∀i j bi bj,cZ l i=some bi->cZ l j=some bj->bi.ok=true->bj.ok=true->bi.blk.isSome=true->bj.blk.isSome=true->i≠j->bi.blk.getD 0≠bj.blk.getD 0)->p
 | [],_,h,_=>h
 | b::r,p,h,hb=>by
  unfold IL at h;have tl:∀{p:Prop},IL r p->p:=λh=>DQ h λi j bi bj h1 h2 h3 h4 h5 h6 h7=>hb (i+1) (j+1) bi bj h1 h2 h3 h4 h5 h6 aG;cases hc:(b.ok&&b.blk.isSome)with
  | true=>
   rw[hc]at h;simp at hc;exact tl (IM h λi c hi h1 h2=>hb 0 (i+1) b c rfl hi hc.1 h1 hc.2 h2 aG)
  | false=>
   rw[hc]at h;exact tl h
def ZO(P:Program)(ops:List Oper)(draw:Bool)(st:St)(K:St->Prop):Prop:=
 bif draw then
  bif DM P ops&&Region.lexB .any ops.toArray then ZF (IH ops) st λst=>wR P ops fy [] ops st λst=>K {st with mv:=true}
  else bif mbN P ops 0 ops then eV {st with mv:=true} λst=>IL (bif ZK P ops 0 ops then st.bx else[]) (∃S,F6 P ops true (ZK P ops 0 ops) S ops.length (Array.replicate ops.length false) st K)
  else F6 P ops false false (λ_=>False) ops.length (Array.replicate ops.length false) {st with mv:=true} K
 else yB P ops fy ops st K
def QR(st:St)(K:St->Prop):Exit->Act->ay->Prop:=λe a w=>match e with
 | .normal=>∃β cN,K cN/\Ext st cN/\Rep β cN a w
 | _=>False
theorem Ext.mv s:Ext s {s with mv:=true}:=⟨rfl,ba _,λ_ _ _ h _=>h,λi b h ho _=>⟨b,h,ho,rfl,rfl,rfl,λ_ h=>h⟩,P8,Fs⟩
theorem Rep.drew{β}{s}{a}{w w'}(h:Rep β s a w)(hO:Only [] w w')(hh:w'.heap=w.heap):Rep β {s with mv:=true} a w':=
 ⟨h.fr,λi b hb ho=>by
  obtain⟨k1,k2,k3⟩:=h.bx i b hb ho;exact⟨by unfold Blk at k1⊢;rw[hh];exact k1,k2,k3⟩,h.ne,h.only.cy hO,λh=>aaH⟩
section
variable {P:Program}
theorem KL(hm:P.follows .mixedOrders=true){id}{ops}{draw}{st}{K}{β}{a}{w}(h:ZO P ops.toList draw st K)(hR:Rep β st a w):
  (Code.region id ops draw).wp P (QR st K) a w:=by
 obtain⟨l⟩:=ops;rcases mG h with⟨hd,hx⟩ | ⟨hd,hx⟩<;>clear h<;>have h:=hx
 ·subst hd;have Yy:=hR.drew (Only.drewN w 1) rfl;have fin:∀{mb ms:Bool} {S:Nat->Prop} {s1:St},Ext st s1->Rep β s1 a w.drew->F6 P l mb ms S l.length _ s1 K->(Code.region id l.toArray true).wp P (QR st K) a w:=λe1 gY h=>
   FL _ hm (sF (λc a w hp=>hp) h gY λβ' cN a' w' k1 k2 k3=>⟨β',cN,k1,e1.trans k2,k3⟩)
  rcases mG h with⟨h0,h⟩ | ⟨_,h⟩
  ·simp at h0;obtain⟨s,h1,h2,h3,_⟩:=wU h hR;obtain⟨s2,k1,k2,k3,k4⟩:=qU h1;obtain⟨a',g1,g2⟩:=k4 trivial β a w h3;refine wp_region_quiet_lit hm h0.2 ?_;have:=IB (Q:=λa'=>∀w',(∃n,w'=w.drewN n)->QR st K .normal a' w') (rest:=[]) g1 (wpQuiet_nil (by
    rintro w' ⟨n,rfl⟩;exact⟨β,_,k1,(h2.trans k2).trans (Ext.mv _),g2.drew (Only.drewN w n) rfl⟩))
   simp_all
  rcases mG h with⟨_,h⟩ | ⟨_,h⟩
  ·obtain⟨s1,h0,e1,gY,_⟩:=dX h Yy;have Un:∀i j bi bj,cZ s1.bx i=some bi->cZ s1.bx j=some bj->bi.ok=true->bj.ok=true->bi.blk.isSome=true->bj.blk.isSome=true->i≠j->bi.blk.getD 0≠bj.blk.getD 0:=λi j bi bj h1 h2 h3 h4 h5 h6 h7=>by
    obtain⟨k,hk⟩:=dW.1 h5;obtain⟨m,hm⟩:=dW.1 h6;have e1:=(gY.bx i bi h1 h3).at_ k hk;have e2:=(gY.bx j bj h2 h4).at_ m hm;rw[hk,hm,jY,jY];have:=gY.ne i j bi bj h1 h2 h3 h4 h7;omega
   obtain⟨S,h1⟩:=DQ h0 (by
    cases ZK P l 0 l with
    | true=>exact Un
    | false=>exact λi j bi bj h1=>by cases i<;>cases h1)
   exact fin ((Ext.mv st).trans e1) gY h1
  exact fin (Ext.mv st) Yy h
 subst hd;refine wp_region_lit (tA h hR λβ' cN a' w' k1 k2 k3=>⟨β',cN,k1,k2,k3⟩)
def Xy(P:Program)(ops:List Oper)(jn:Bool)(kp:List Nat)(mi:List MI)(st:St)(K:St->Prop):Prop:=
 bif zOk ops (kQ P 0 ops)then eV st.xC λst=>
  (bif mbN P ops 0 ops then IL (bif ZK P ops 0 ops then st.bx else[]) (∃S,KJ P ops jn kp mi true (ZK P ops 0 ops) S (kQ P 0 ops) (QH ops (nK (kQ P 0 ops)) ops.length (Array.replicate ops.length false)) (U5 (QH ops (nK (kQ P 0 ops)) ops.length (Array.replicate ops.length false)).toList) st K)
  else KJ P ops jn kp mi false false (λ_=>False) (kQ P 0 ops) (QH ops (nK (kQ P 0 ops)) ops.length (Array.replicate ops.length false)) (U5 (QH ops (nK (kQ P 0 ops)) ops.length (Array.replicate ops.length false)).toList) st K)
 else False
theorem QJ(hm:P.follows .mixedOrders=true){id}{ops}{jn}{kp}{mi}{st}{K}{β}{a}{w}(h:Xy P ops.toList jn kp mi st K)(hR:Rep β st a w):
  (Code.region id ops true).wp P (QR st K) a w:=by
 obtain⟨l⟩:=ops;obtain⟨hz,h⟩:=dD h;obtain⟨s1,h0,e1,gY,Pq,_⟩:=dX h (hR.drew (Only.drewN w 1) rfl);have fin:∀{mb ms:Bool} {S:Nat->Prop} {xH:Array Bool} {gm:Nat},KJ P l jn kp mi mb ms S _ xH gm s1 K->(Code.region id l.toArray true).wp P (QR st K) a w:=λh=>
  FL _ hm (QI (λc a w hp=>hp) hz h gY Pq λβ' cN a' w' k1 k2 k3=>⟨β',cN,k1,((Ext.xC st).trans e1).trans k2,k3⟩)
 rcases mG h0 with⟨_,h⟩ | ⟨_,h⟩
 ·have Un:∀i j bi bj,cZ s1.bx i=some bi->cZ s1.bx j=some bj->bi.ok=true->bj.ok=true->bi.blk.isSome=true->bj.blk.isSome=true->i≠j->bi.blk.getD 0≠bj.blk.getD 0:=λi j bi bj h1 h2 h3 h4 h5 h6 h7=>by
   obtain⟨k,hk⟩:=dW.1 h5;obtain⟨m,hm⟩:=dW.1 h6;have e1:=(gY.bx i bi h1 h3).at_ k hk;have e2:=(gY.bx j bj h2 h4).at_ m hm;rw[hk,hm,jY,jY];have:=gY.ne i j bi bj h1 h2 h3 h4 h7;omega
  obtain⟨S,h1⟩:=DQ h (by
   cases ZK P l 0 l with
   | true=>exact Un
   | false=>exact λi j bi bj h1=>by cases i<;>cases h1)
  exact fin h1
 exact fin h
def V(P:Program):Code->Ann->St->(Exit->St->Prop)->Prop
 | .skip,_,st,K=>K .normal st
 | .label _,_,st,K=>K .normal st
 | .exit id,_,st,K=>K (.exit id) st
 | .ret,_,st,K=>K .ret st
 | .region _ ops draw,an,st,K=>(match an with
  | .l jn kp ms=>bif draw then Xy P ops.toList jn kp ms st (K .normal)else False
  | .j kp ms _ _=>eV st λst=>∃J,F4 _ J (λvs w=>K .normal (lU st kp ms vs w))/\ZO P ops.toList draw st λs=>eV s λs=>Nu st kp ms J s
  | _=>ZO P ops.toList draw st (K .normal))
 | .seq a b,an,st,K=>(match an with
  | .j kp ms x y=>eV st λst=>∃J,F4 _ J (λvs w=>V P b y (lU st kp ms vs w) K)/\V P a x st λe s=>(match e with
   | .normal=>eV s λs=>Nu st kp ms J s
   | e=>K e s)
  | an=>V P a an.x st λe s=>(match e with
   | .normal=>V P b an.y s K
   | e=>K e s))
 | .cond c a b,an,st,K=>ck (st.ev c) λt=>(match t with
  | .bl true=>V P a an.x st K
  | .bl false=>V P b an.y st K
  | .bt t=>((t=true->V P a an.x st K)/\(t=false->V P b an.y st K))
  | _=>False)
 | .block id c,an,st,K=>V P c an st λe s=>(match e with
  | .exit Yr=>bif Nat.beq Yr id then K .normal s else K (.exit Yr) s
  | e=>K e s)
 | .loop c,an,st,K=>(match an with
  | .j kp ms x _=>eV st λst=>(λst=>∃(I:Nat->JT _) (n0:Nat),Nu st kp ms (I n0) st/\∀n,F4 _ (I n) λvs w=>V P c x (lU st kp ms vs w) λe s=>(match e with
   | .normal=>eV s λs=>∃n',n'<n/\Nu st kp ms (I n') s
   | e=>K e s)) (st.esc (Ak st ms))
  | _=>False)
 | _,_,_,_=>False
def QK(st:St)(K:Exit->St->Prop):Exit->Act->ay->Prop:=λe a w=>match e with
 | .normal=>∃β cN,K .normal cN/\Ext st cN/\Rep β cN a w
 | .exit id=>∃β cN,K (.exit id) cN/\Ext st cN/\Rep β cN a w
 | .ret=>∃β cN,K .ret cN/\Ext st cN/\Rep β cN a w
 | _=>False
theorem tE{st Fv}{K}(hx:Ext st Fv):∀e a w,QK Fv K e a w->QK st K e a w:=λe a w h=>by
 cases e<;>first | exact h | (obtain⟨β,cN,h1,h2,h3⟩:=h;exact⟨β,cN,h1,hx.trans h2,h3⟩)
theorem yC(hm:P.follows .mixedOrders=true):∀c {an:Ann} {st:St} {K:Exit->St->Prop} {β:Nat->Nat} {a:Act} {w:ay},V P c an st K->Rep β st a w->c.wp P (QK st K) a w
 | .skip,_,st,K,β,a,w,h,hR=>wp_skip ⟨β,st,h,Ext.refl _,hR⟩
 | .label _,_,st,K,β,a,w,h,hR=>wp_label ⟨β,st,h,Ext.refl _,hR⟩
 | .exit _,_,st,K,β,a,w,h,hR=>wp_exit ⟨β,st,h,Ext.refl _,hR⟩
 | .ret,_,st,K,β,a,w,h,hR=>wp_ret ⟨β,st,h,Ext.refl _,hR⟩
 | .region id ops draw,an,st,K,β,a,w,h,hR=>by
  unfold V at h;split at h
  ·cases draw with
   | false=>exact h.elim
   | true=>
    refine wp_mono (QJ hm h hR) λe a' w' hq=>?_;cases e<;>first | exact hq.elim | exact hq
  ·obtain⟨s1,⟨J,hJ,h⟩,e1,gY,_⟩:=dX h hR;refine wp_mono (KL hm h gY) λe a' w' hq=>?_;cases e<;>try exact hq.elim
   obtain⟨β',s2,h2,e2,Yx⟩:=hq;obtain⟨s3,h3,e3,hR3,WB,_⟩:=dX h2 Yx;obtain⟨vs,k1,k2⟩:=sE h3 hR3 WB (.inl (e2.trans e3)) hJ;exact⟨_,_,k1,e1.trans Ext.SU,k2⟩
  refine wp_mono (KL hm h hR) λe a' w' hq=>?_;cases e<;>first | exact hq.elim | exact hq
 | .seq x y,an,st,K,β,a,w,h,hR=>by
  unfold V at h;split at h
  ·obtain⟨s1,⟨J,hJ,h⟩,e1,gY,_⟩:=dX h hR;refine wp_seq (wp_mono (yC hm x h gY) λe a' w' hq=>?_);cases e with
   | normal=>
    obtain⟨β',s2,h2,e2,Yx⟩:=hq;obtain⟨s3,h3,e3,hR3,WB,_⟩:=dX h2 Yx;obtain⟨vs,k1,k2⟩:=sE h3 hR3 WB (.inl (e2.trans e3)) hJ;exact wp_mono (yC hm y k1 k2) (tE (e1.trans Ext.SU))
   | exit _=>exact tE e1 _ _ _ hq
   | ret=>exact tE e1 _ _ _ hq
   | _=>exact hq.elim
  refine wp_seq (wp_mono (yC hm x h hR) λe a' w' hq=>?_);cases e with
  | normal=>
   obtain⟨β',s,h1,h2,h3⟩:=hq;exact wp_mono (yC hm y h1 h3) (tE h2)
  | _=>exact hq
 | .cond c x y,an,st,K,β,a,w,h,hR=>by
  obtain⟨t,ht,h⟩:=bC h;have ev:=hR.ev ht;split at h
  ·exact wp_cond_true ev (yC hm x h hR)
  ·exact wp_cond_false ev (yC hm y h hR)
  ·exact wp_cond_split ev (λe=>yC hm x (h.1 e) hR) (λe=>yC hm y (h.2 e) hR)
  exact h.elim
 | .block id c,an,st,K,β,a,w,h,hR=>by
  refine wp_block (wp_mono (yC hm c h hR) λe a' w' hq=>?_);cases e with
  | exit Yr=>
   obtain⟨β',s,h1,h2,h3⟩:=hq;rcases mG h1 with⟨e,h5⟩ | ⟨e,h5⟩
   ·have:=bZ e;subst this;exact B9 ⟨β',s,h5,h2,h3⟩
   have fX:¬Yr=id:=λh=>by rw[h]at e;simp at e
   exact Ip (by simpa using fX) ⟨β',s,h5,h2,h3⟩
  | normal=>exact hq
  | ret=>exact hq
  | _=>exact hq.elim
 | .loop c,an,st,K,β,a,w,h,hR=>by
  unfold V at h;split at h
  ·rename_i kp ms x _;obtain⟨s0,hh,e0,hR0,MS,_⟩:=dX h hR;have e1:=e0.trans (Ext.esc s0 (Ak s0 ms));have gY:=hR0.esc (Ak s0 ms);have Pq:(s0.esc (Ak s0 ms)).mv=false:=MS;generalize s0.esc (Ak s0 ms)=s1 at*
   obtain⟨I,n0,h0,h⟩:=hh;refine wp_loop_ghost (λn a' w'=>∀K,F4 _ (I n) K->∃vs,K vs w'/\Rep _ (lU s1 kp ms vs w') a' w') n0 (λK hK=>sE h0 gY Pq (.inl (Ext.refl _)) hK) λn a' w' hI=>?_;obtain⟨vs,k1,k2⟩:=hI _ (h n);refine wp_mono (yC hm c k1 k2) λe a2 w2 hq=>?_;cases e with
   | normal=>
    obtain⟨β2,s2,h2,e2,Yx⟩:=hq;obtain⟨s3,⟨n',hn,h3⟩,e3,hR3,WB,_⟩:=dX h2 Yx;exact⟨n',hn,λK hK=>sE h3 hR3 WB (.inr ⟨vs,w',e2.trans e3⟩) hK⟩
   | exit _=>exact tE (e1.trans Ext.SU) _ _ _ hq
   | ret=>exact tE (e1.trans Ext.SU) _ _ _ hq
   | _=>exact hq.elim
  exact h.elim
 | .rangeFunc _ _ _ _,_,_,_,_,_,_,h,_=>acJ
 | .scope _,_,_,_,_,_,_,h,_=>acJ
 | .goto _,_,_,_,_,_,_,h,_=>acJ
 | .refuse _,_,_,_,_,_,_,h,_=>acJ
def IP(P:Program)(st:St):List ResultVar->Option (List SV)
 | []=>some []
 | .tmp t::r=>(match st.get t,IP P st r with
  | some v,some l=>some (v::l)
  | _,_=>none)
 | .cell p t::r=>(match st.get p,P.underlying t,IP P st r with
  | some (.box i o),some d,some l=>(match cZ st.bx i with
   | some b=>bif b.ok&&sz P t ((b.cells.drop o).take (nu P t)).length&&(lQ d||Nat.beq ((b.cells.drop o).take (nu P t)).length 1)then some (Nl (lQ d) ((b.cells.drop o).take (nu P t))::l)else none
   | none=>none)
  | _,_,_=>none)
def ZP(P:Program)(rs:List ResultVar)(R:az->ay->Prop)(st:St):Prop:=ck (IP P st rs) λvs=>eV (st.esc vs) λst=>bif ia (FZ st.bx) vs then R (val (H2 st.bx) (Aj vs)) st.w0 else False
theorem DR{β}{st}{a}{w}(hR:Rep β st a w):∀{rs:List ResultVar} {vs:List SV},IP P st rs=some vs->zJ P a w rs (cz β vs)
 | [],vs,h=>by simp[IP]at h;subst h;trivial
 | .tmp t::r,vs,h=>by
  simp[IP]at h;split at h
  ·rename_i v l h1 h2;simp at h;subst h;exact⟨hR.get h1,DR hR h2⟩
  cases h
 | .cell p t::r,vs,h=>by
  simp only[IP]at h;split at h
  ·rename_i i o d l h1 h2 h3;split at h
   ·rename_i b hb;obtain⟨h4,rfl⟩:=Dy h;simp only[aU,bU]at h4;obtain⟨⟨mP,hsz⟩,kJ⟩:=h4;refine⟨⟨_,hR.get h1,?_⟩,DR hR h3⟩;generalize hl:(b.cells.drop o).take _=q at*
    have hC:Cells w _ (cz β q):=((hR.bx i b hb mP).blk).EV o _ (by
     rw[<-hl];simp only[cz,nj,qN];rw[cK,pN];simp only[cM,bA];omega)
    have rF:=ky (P:=P) h2 w;cases hd:lQ d with
    | true=>
     rw[hd]at rF;have e:=oX hd β q;rw[hd]at e;rw[e];exact Dt rF (pu hsz w) (fx β q) hC
    | false=>
     rw[hd]at rF kJ;obtain⟨s,rfl⟩:=zV (kJ.resolve_left aaa);exact BG rF (Cells.one hC)
   cases h
  cases h
def U6:Nat->List SV->List (Nat×Nat×SV)
 | _,[]=>[]
 | i,s::r=>(i,0,s)::U6 (i+1) r
theorem DS β:∀i l,cv β (U6 i l)=zN i (cz β l)
 | _,[]=>rfl
 | i,s::r=>by
  have:=DS β (i+1) r;simp[cv]at this;simp[U6,cv,cz,zN,this]
def st0(fn:Func)(args:List SV)(w:ay):St:={n:=fn.ntmps,fr:=U6 0 args,bx:=[],w0:=w,mv:=false,dt:=[],ct:=1,df:=[]}
def kE(P:Program)(f:FuncId)(args:Array az)(w:ay)(Q:az->ay->Prop):Prop:=CallsD P f args .returning w λe u w'=>u=.returning/\∃v,e=.returned v/\Q v w'
def IQ(P:Program)(R:az->ay->Prop):List (Nat×List az×List az)->ay->Prop
 | [],w=>R (.tuple #[]) w
 | d::ds,w=>bif Qi P d.1 then kE P d.1 (d.2.1++d.2.2).toArray w λ_ w'=>IQ P R ds w' else False
def akQ:List ResultVar->Bool
 | []=>true
 | _=>false
def U7(P:Program)(rs:List ResultVar)(R:az->ay->Prop)(st:St):Prop:=match st.df with
 | []=>ZP P rs R st
 | _::_=>bif akQ rs then eV st λst=>IQ P R st.df st.w0 else False
def U8(P:Program)(rs:List ResultVar)(R:az->ay->Prop)(st:St):Prop:=match st.df with
 | []=>ZP P rs R st
 | _::_=>False
def Vfn(P:Program)(f:FuncId)(an:Ann)(args:List SV)(R:az->ay->Prop)(w:ay):Prop:=ck (P.funcs[f]?) λfn=>ck fn.body λc=>
 bif Nat.ble args.length fn.ntmps then V P c an (st0 fn args w) λe st=>(match e with
  | .normal=>U7 P fn.results.toList R st
  | .ret=>U7 P fn.results.toList R st
  | _=>False)else False
def Vfd(P:Program)(f:FuncId)(an:Ann)(args:List SV)(R:az->ay->Prop)(w:ay):Prop:=ck (P.funcs[f]?) λfn=>ck fn.body λc=>
 bif Nat.ble args.length fn.ntmps then V P c an (st0 fn args w) λe st=>(match e with
  | .normal=>U8 P fn.results.toList R st
  | .ret=>U8 P fn.results.toList R st
  | _=>False)else False
theorem KM{β}{st}{a}{w}{fn}{R}(h:ZP P fn.results.toList R st)(hR:Rep β st a w):∃v,(results fn a.tmps).run P w=.ok v w/\R v w:=by
 obtain⟨vs,hv,h⟩:=bC h;obtain⟨s1,h1,e1,gY,hm,_⟩:=dX h (hR.esc vs);obtain⟨hc,h1⟩:=dD h1;have ho:=DR hR hv;rw[gY.agk (vw hc),<-gY.still hm]at h1;refine⟨_,?_,h1⟩;have Tj:fn.results=fn.results.toList.toArray:=rfl
 match vs,ho,hc with
 | [s],ho,hc=>exact PW Tj ho
 | [],ho,hc=>
  have e:val β (Aj [])=.tuple (cz β []).toArray:=rfl;exact Iq Tj rfl ho
 | s::t::r,ho,hc=>
  have e:val β (Aj (s::t::r))=.tuple (cz β (s::t::r)).toArray:=by
   show Value.tuple (pT β _).toArray=_;rw[qS]
  rw[e];exact Iq Tj (rfl) ho
theorem QL args {n} (hk:args.length<=n):(⟨args.toArray++Array.replicate (n-args.toArray.size) undef,[]⟩)=fr n (λ_=>undef) (zN 0 args):=by
 congr 1;apply OW.1;rw[Array.toList_append,Array.toList_replicate,eJ];apply gf;intro i;by_cases hi:i<n
 ·rw[iw,jP _ _ _ _ _ hi,bM,wN]
  grind
 rw[cF aab,cF adn]
theorem Ck{fn}{tmps}{R}(hr:fn.results.toList=[]):∀{l:List _} {w:ay},IQ P R l w->Leaves P fn tmps (λe w'=>∃v,e=.returned v/\R v w') (Xm l) .returning w
 | [],w,h=>by
  have Tj:fn.results=([]).toArray:=by rw[<-hr]
  exact⟨_,Iq (a:=⟨tmps,[]⟩) (rs:=[]) (vs:=[]) Tj rfl trivial,_,rfl,h⟩
 | d::ds,w,h=>by
  obtain⟨h0,h⟩:=dD h;refine leaves_cons (λh=>aaH) (f:=d.1) (args:=(d.2.1++d.2.2).toArray) ?_ (h.mono ?_)
  ·have:=fC h0 (d.2.1++d.2.2).toArray w;rw[<-List.append_toArray]at this⊢;exact this
  rintro e u w' ⟨rfl,v,rfl,h⟩;exact Ck hr h
theorem Gi{β}{st}{a}{w}{fn}{R}(h:U7 P fn.results.toList R st)(hR:Rep β st a w):Leaves P fn a.tmps (λe w'=>∃v,e=.returned v/\R v w') a.defers .returning w:=by
 rw[hR.ok.df];unfold U7 at h;split at h
 ·rename_i hd;rw[hd];obtain⟨v,k1,k2⟩:=KM h hR;exact⟨v,k1,v,rfl,k2⟩
 obtain⟨h0,h⟩:=dD h;obtain⟨s1,h1,e1,gY,hm,_⟩:=dX h hR;have hr:fn.results.toList=[]:=by
  cases hc:fn.results.toList with
  | nil=>rfl
  | cons _ _=>rw[hc]at h0;cases h0
 have hdf:s1.df=st.df:=by
  obtain⟨l,hl⟩:=e1.df;have h5:=bh List.length (gY.ok.df.symm.trans hR.ok.df);rw[Xm,Xm,bA,bA,hl,aW]at h5
  grind
 rw[<-gY.still hm]at h1;rw[<-hdf];exact Ck hr h1
theorem aez(hm:P.follows .mixedOrders=true){f}{an}{args}{R}{w}(h:Vfn P f an args R w):Calls P f (cz β0 args).toArray w λe w'=>∃v,e=.returned v/\R v w':=by
 obtain⟨fn,hf,h⟩:=bC h;obtain⟨c,hb,h⟩:=bC h;obtain⟨hn,h⟩:=dD h;have hR:Rep β0 (st0 fn args w) (fr fn.ntmps _ (zN 0 _)) w:=
  ⟨⟨λ_=>undef,by rw[<-DS];rfl⟩,λi b hb=>adI,λi j bi bj hb=>adI,Only.refl _ _,λ_=>rfl⟩
 refine calls_of_wp_defers hf hb ?_;rw[QL _ (by rw[fx];exact cG hn)];refine wp_mono (yC hm c h hR) λe a' w' hq=>?_;cases e with
 | normal=>
  obtain⟨β',s,h1,h2,h3⟩:=hq;exact Gi h1 h3
 | ret=>
  obtain⟨β',s,h1,h2,h3⟩:=hq;exact Gi h1 h3
 | exit _=>
  obtain⟨β',s,h1,_⟩:=hq;exact h1.elim
 | _=>exact hq.elim
theorem aeA(hm:P.follows .mixedOrders=true){f}{an}{args}{R}{w}(h:Vfd P f an args R w):kE P f (cz β0 args).toArray w R:=by
 obtain⟨fn,hf,h⟩:=bC h;obtain⟨c,hb,h⟩:=bC h;obtain⟨hn,h⟩:=dD h;have hR:Rep β0 (st0 fn args w) (fr fn.ntmps _ (zN 0 _)) w:=
  ⟨⟨λ_=>undef,by rw[<-DS];rfl⟩,λi b hb=>adI,λi j bi bj hb=>adI,Only.refl _ _,λ_=>rfl⟩
 refine(callsD_of_wp (R:=λe w'=>∃v,e=.returned v/\R v w') hf hb ?_).mono (λe u w' h=>h);rw[QL _ (by rw[fx];exact cG hn)];refine wp_mono (yC hm c h hR) λe a' w' hq=>?_;have fin:∀{β':Nat->Nat} {s:St},U8 P fn.results.toList R s->Rep β' s a' w'->_/\a'.defers=[]:=fun{β' s} h hR=>by
  unfold U8 at h;split at h
  ·rename_i hd;exact⟨KM h hR,by rw[hR.ok.df,hd];rfl⟩
  exact h.elim
 cases e with
 | normal=>
  obtain⟨β',s,h1,h2,h3⟩:=hq;obtain⟨⟨v,k1,k2⟩,k3⟩:=fin h1 h3;exact Ir k1 k3 k2
 | ret=>
  obtain⟨β',s,h1,h2,h3⟩:=hq;obtain⟨⟨v,k1,k2⟩,k3⟩:=fin h1 h3;exact Kk k1 k3 k2
 | exit _=>
  obtain⟨β',s,h1,_⟩:=hq;exact h1.elim
 | _=>exact hq.elim
theorem aeB{f}{an}{args}{R}{w}{vs}{vc}(hm:P.follows .mixedOrders=true)(hv:vs=(cz β0 args).toArray)(he:vc=Vfn P f an args R w)(h:vc):Calls P f vs w λe w'=>∃v,e=.returned v/\R v w':=by
 subst he hv;exact aez hm h
theorem aeC{f}{an}{args}{R}{w}{vs}{vc}(hm:P.follows .mixedOrders=true)(hv:vs=(cz β0 args).toArray)(he:vc=Vfd P f an args R w)(h:vc):kE P f vs w R:=by
 subst he hv;exact aeA hm h
end
end Go.Kt.V
namespace Go.Proofs.YtpbgcbdclnfpnaaGreatDoor.Vc
open Go.Value renaming int->O,string->ah,pointer->ai,agg->aj,tuple->ak,bool->ao
open Go.IntKind renaming i64->ae,wrap->av
open Go.Ending renaming returned->aq
open _root_.ByteArray renaming mk->ar
open _root_.Go.Proofs.Tryz renaming prog->au
open Go.Instr renaming buildSlice->aw
open Go renaming World->ay,Value->az,Calls->aB
open Go.Kt renaming Only->aA,SliceF->aD,Cells->aE,OnlyP->aF,Blk->aH
open Go Go.RowKit Go.Kt Go.Kt.V
abbrev cT(c:Bool)(x y:Prop):Prop:=(c=true->x)/\(c=false->y)
abbrev cB(f:FuncId)(a:Array az)(w:ay)(K:Bool->ay->Prop):Prop:=aB au f a w λe w'=>∃x,e=aq (ao x)/\K x w'
abbrev rI(s:List Nat)(f:FuncId)(a:Array az)(w:ay)(K:Bool->ay->Prop):Prop:=aB au f a w λe w'=>∃x,e=aq (ao x)/\cj s w w'/\K x w'
abbrev cI(f:FuncId)(a:Array az)(w:ay)(K:Int->ay->Prop):Prop:=aB au f a w λe w'=>∃x,e=aq (O ae x)/\K x w'
abbrev sH(s:List Nat)(f:FuncId)(a:Array az)(w:ay)(K:Int->ay->Prop):Prop:=aB au f a w λe w'=>∃x,e=aq (O ae x)/\cj s w w'/\K x w'
abbrev cS(f:FuncId)(a:Array az)(w:ay)(K:aM->ay->Prop):Prop:=aB au f a w λe w'=>∃x,e=aq (ah x)/\K x w'
abbrev rJ(s:List Nat)(f:FuncId)(a:Array az)(w:ay)(K:aM->ay->Prop):Prop:=aB au f a w λe w'=>∃x,e=aq (ah x)/\cj s w w'/\K x w'
abbrev cL(f:FuncId)(a:Array az)(w:ay)(K:Sl->ay->Prop):Prop:=aB au f a w λe w'=>∃x,e=aq (x.v)/\K x w'
abbrev wE(s:List Nat)(f:FuncId)(a:Array az)(w:ay)(K:Sl->ay->Prop):Prop:=aB au f a w λe w'=>∃x,e=aq (x.v)/\cj s w w'/\K x w'
abbrev cU(f:FuncId)(a:Array az)(w:ay)(K:ay->Prop):Prop:=aB au f a w λe w'=>e=aq (ak #[])/\K w'
abbrev gM(s:List Nat)(f:FuncId)(a:Array az)(w:ay)(K:ay->Prop):Prop:=aB au f a w λe w'=>e=aq (ak #[])/\cj s w w'/\K w'
abbrev fY(x:Sem az)(w:ay)(K:Sl->ay->Prop):Prop:=∃l w',x.run au w=.ok (Sl.v l) w'/\K l w'
abbrev nx(k:Nat)(K:aL):Prop:=∃n,n<k/\K n
abbrev nw(w:ay)(K:Nat->ay->Prop):Prop:=∀k w',w.heap.size<=k->k<w'.heap.size->aA [] w w'->K k w'
abbrev lp0(w:ay)(B:(Nat->ay->Prop)->Nat->ay->Prop):Prop:=∃J k,J k w/\∀k w,J k w->B J k w
abbrev vE{α:Type}(x:α)(w:ay)(B:(Nat->α->ay->Prop)->Nat->α->ay->Prop):Prop:=∃J k,J k x w/\∀k x w,J k x w->B J k x w
abbrev T8{α β:Type}(x:α)(y:β)(w:ay)(B:(Nat->α->β->ay->Prop)->Nat->α->β->ay->Prop):Prop:=∃J k,J k x y w/\∀k x y w,J k x y w->B J k x y w
abbrev H3(X:ay->Prop)(Y:(ay->Prop)->Prop):Prop:=∃J,(∀w,J w->X w)/\Y J
abbrev rK{α:Type}(X:α->ay->Prop)(Y:(α->ay->Prop)->Prop):Prop:=∃J,(∀x w,J x w->X x w)/\Y J
abbrev jn2{α β:Type}(X:α->β->ay->Prop)(Y:(α->β->ay->Prop)->Prop):Prop:=∃J,(∀x y w,J x y w->X x y w)/\Y J
abbrev jn3{α β γ:Type}(X:α->β->γ->ay->Prop)(Y:(α->β->γ->ay->Prop)->Prop):Prop:=∃J,(∀x y z w,J x y z w->X x y z w)/\Y J
abbrev xCB(w:ay)(p:Addr)(K:Bool->Prop):Prop:=∃x0,aE w p [ao x0]/\K x0
abbrev jF(w:ay)(p:Addr)(K:Int->Prop):Prop:=∃x0,aE w p [O ae x0]/\K x0
abbrev qc(w:ay)(p:Addr)(K:Int->Int->aM->Int->Sl->Int->Prop):Prop:=∃x0 x1 x2 x3 x4 x5,aE w p [O ae x0,O ae x1,ah x2,O ae x3,x4.v,O ae x5]/\K x0 x1 x2 x3 x4 x5
abbrev QM(w:ay)(p:Addr)(K:Int->aM->Int->Int->Prop):Prop:=∃x0 x1 x2 x3,aE w p [O ae x0,ah x1,O ae x2,O ae x3]/\K x0 x1 x2 x3
abbrev jt(w:ay)(p:Addr)(K:Sl->Prop):Prop:=∃x0,aE w p [x0.v]/\K x0
abbrev H4(w:ay)(p:Addr)(K:Option Nat->Prop):Prop:=∃x0,aE w p [.map x0]/\K x0
abbrev Xz(w:ay)(p:Addr)(K:Option Addr->Prop):Prop:=∃x0,aE w p [ai x0]/\K x0
abbrev U9(w:ay)(p:Addr)(K:aM->Prop):Prop:=∃x0,aE w p [ah x0]/\K x0
abbrev xCV(w:ay)(p:Addr)(K:OV->Prop):Prop:=∃x0,aE w p [x0.v]/\K x0
abbrev xKB(w:ay)(b n:Nat)(K:Bool->Prop):Prop:=∃x0,aH w b n [ao x0]/\K x0
abbrev ZQ(w:ay)(b n:Nat)(K:Bool->Bool->Bool->Bool->Prop):Prop:=∃x0 x1 x2 x3,aH w b n [ao x0,ao x1,ao x2,ao x3]/\K x0 x1 x2 x3
abbrev xKI(w:ay)(b n:Nat)(K:Int->Prop):Prop:=∃x0,aH w b n [O ae x0]/\K x0
abbrev Nx(w:ay)(b n:Nat)(K:Int->Int->Int->aM->Int->Sl->Int->Prop):Prop:=∃x0 x1 x2 x3 x4 x5 x6,aH w b n [O ae x0,O ae x1,O ae x2,ah x3,O ae x4,x5.v,O ae x6]/\K x0 x1 x2 x3 x4 x5 x6
abbrev Va(w:ay)(b n:Nat)(K:Int->aM->Int->Int->Int->Prop):Prop:=∃x0 x1 x2 x3 x4,aH w b n [O ae x0,ah x1,O ae x2,O ae x3,O ae x4]/\K x0 x1 x2 x3 x4
abbrev Gj(w:ay)(b n:Nat)(K:Int->aM->aM->aM->Sl->Sl->Sl->Sl->Int->Prop):Prop:=∃x0 x1 x2 x3 x4 x5 x6 x7 x8,aH w b n [O ae x0,ah x1,ah x2,ah x3,x4.v,x5.v,x6.v,x7.v,O ae x8]/\K x0 x1 x2 x3 x4 x5 x6 x7 x8
abbrev IR(w:ay)(b n:Nat)(K:Sl->Prop):Prop:=∃x0,aH w b n [x0.v]/\K x0
abbrev ig(w:ay)(b n:Nat)(K:Sl->Int->Int->Int->Int->Int->Int->Int->Int->Prop):Prop:=∃x0 x1 x2 x3 x4 x5 x6 x7 x8,aH w b n [x0.v,O ae x1,O ae x2,O ae x3,O ae x4,O ae x5,O ae x6,O ae x7,O ae x8]/\K x0 x1 x2 x3 x4 x5 x6 x7 x8
abbrev Gk(w:ay)(b n:Nat)(K:Sl->Int->Int->Int->Int->Sl->Prop):Prop:=∃x0 x1 x2 x3 x4 x5,aH w b n [x0.v,O ae x1,O ae x2,O ae x3,O ae x4,x5.v]/\K x0 x1 x2 x3 x4 x5
abbrev nM(w:ay)(b n:Nat)(K:Sl->Int->aM->aM->aM->Sl->Sl->Sl->Sl->Int->Prop):Prop:=∃x0 x1 x2 x3 x4 x5 x6 x7 x8 x9,aH w b n [x0.v,O ae x1,ah x2,ah x3,ah x4,x5.v,x6.v,x7.v,x8.v,O ae x9]/\K x0 x1 x2 x3 x4 x5 x6 x7 x8 x9
abbrev akS(w:ay)(b n:Nat)(K:Sl->Sl->Prop):Prop:=∃x0 x1,aH w b n [x0.v,x1.v]/\K x0 x1
abbrev IT(w:ay)(b n:Nat)(K:Sl->Sl->Sl->Sl->Prop):Prop:=∃x0 x1 x2 x3,aH w b n [x0.v,x1.v,x2.v,x3.v]/\K x0 x1 x2 x3
abbrev DT(w:ay)(b n:Nat)(K:Option Nat->Sl->Option Nat->Int->Int->Prop):Prop:=∃x0 x1 x2 x3 x4,aH w b n [.map x0,x1.v,.map x2,O ae x3,O ae x4]/\K x0 x1 x2 x3 x4
abbrev XA(w:ay)(b n:Nat)(K:Option Addr->Prop):Prop:=∃x0,aH w b n [ai x0]/\K x0
abbrev lW(w:ay)(b n:Nat)(K:Option Addr->Sl->Bool->Int->Prop):Prop:=∃x0 x1 x2 x3,aH w b n [ai x0,x1.v,ao x2,O ae x3]/\K x0 x1 x2 x3
abbrev KN(w:ay)(b n:Nat)(K:Option Addr->Sl->Sl->Prop):Prop:=∃x0 x1 x2,aH w b n [ai x0,x1.v,x2.v]/\K x0 x1 x2
abbrev xKS(w:ay)(b n:Nat)(K:aM->Prop):Prop:=∃x0,aH w b n [ah x0]/\K x0
abbrev ZR(w:ay)(b n:Nat)(K:aM->Int->Prop):Prop:=∃x0 x1,aH w b n [ah x0,O ae x1]/\K x0 x1
abbrev Ar(w:ay)(b n:Nat)(K:aM->Int->Sl->Sl->Prop):Prop:=∃x0 x1 x2 x3,aH w b n [ah x0,O ae x1,x2.v,x3.v]/\K x0 x1 x2 x3
abbrev yD(s:Sl)(i:Int)(w:ay)(K:Int->Prop):Prop:=∃p,dI s i 1 p/\∃x0,aE w p [O ae x0]/\K x0
abbrev Ny(s:Sl)(i:Int)(w:ay)(K:Int->Int->Int->aM->Int->Sl->Int->Prop):Prop:=∃p,dI s i 7 p/\∃x0 x1 x2 x3 x4 x5 x6,aE w p [O ae x0,O ae x1,O ae x2,ah x3,O ae x4,x5.v,O ae x6]/\K x0 x1 x2 x3 x4 x5 x6
abbrev mJ(s:Sl)(i:Int)(w:ay)(K:Int->Int->aM->Int->Sl->Int->Prop):Prop:=∃p,dI s i 6 p/\∃x0 x1 x2 x3 x4 x5,aE w p [O ae x0,O ae x1,ah x2,O ae x3,x4.v,O ae x5]/\K x0 x1 x2 x3 x4 x5
abbrev akT(s:Sl)(i:Int)(w:ay)(K:Int->Sl->Prop):Prop:=∃p,dI s i 2 p/\∃x0 x1,aE w p [O ae x0,x1.v]/\K x0 x1
abbrev mR(s:Sl)(i:Int)(w:ay)(K:Int->aM->Int->Bool->Int->Int->aM->Int->Sl->Int->Sl->Sl->Int->Prop):Prop:=∃p,dI s i 13 p/\∃x0 x1 x2 x3 x4 x5 x6 x7 x8 x9 x10 x11 x12,aE w p [O ae x0,ah x1,O ae x2,ao x3,O ae x4,O ae x5,ah x6,O ae x7,x8.v,O ae x9,x10.v,x11.v,O ae x12]/\K x0 x1 x2 x3 x4 x5 x6 x7 x8 x9 x10 x11 x12
abbrev QN(s:Sl)(i:Int)(w:ay)(K:Int->aM->Int->Int->Prop):Prop:=∃p,dI s i 4 p/\∃x0 x1 x2 x3,aE w p [O ae x0,ah x1,O ae x2,O ae x3]/\K x0 x1 x2 x3
abbrev DU(s:Sl)(i:Int)(w:ay)(K:Int->aM->Int->Int->Int->Prop):Prop:=∃p,dI s i 5 p/\∃x0 x1 x2 x3 x4,aE w p [O ae x0,ah x1,O ae x2,O ae x3,O ae x4]/\K x0 x1 x2 x3 x4
abbrev xY(s:Sl)(i:Int)(w:ay)(K:Int->aM->Int->Int->aM->Int->Sl->Int->Int->Prop):Prop:=∃p,dI s i 9 p/\∃x0 x1 x2 x3 x4 x5 x6 x7 x8,aE w p [O ae x0,ah x1,O ae x2,O ae x3,ah x4,O ae x5,x6.v,O ae x7,O ae x8]/\K x0 x1 x2 x3 x4 x5 x6 x7 x8
abbrev jG(s:Sl)(i:Int)(w:ay)(K:Int->aM->aM->aM->Sl->Sl->Sl->Sl->Int->Prop):Prop:=∃p,dI s i 9 p/\∃x0 x1 x2 x3 x4 x5 x6 x7 x8,aE w p [O ae x0,ah x1,ah x2,ah x3,x4.v,x5.v,x6.v,x7.v,O ae x8]/\K x0 x1 x2 x3 x4 x5 x6 x7 x8
abbrev xYL(s:Sl)(i:Int)(w:ay)(K:Sl->Prop):Prop:=∃p,dI s i 1 p/\∃x0,aE w p [x0.v]/\K x0
abbrev O3(s:Sl)(i:Int)(w:ay)(K:aM->Prop):Prop:=∃p,dI s i 1 p/\∃x0,aE w p [ah x0]/\K x0
abbrev XC(s:Sl)(i:Int)(w:ay)(K:aM->Int->Int->Prop):Prop:=∃p,dI s i 3 p/\∃x0 x1 x2,aE w p [ah x0,O ae x1,O ae x2]/\K x0 x1 x2
end Go.Proofs.YtpbgcbdclnfpnaaGreatDoor.Vc
