import Derived.Test.YtpbgcbdclnfpnaaGreatDoorQs2
set_option linter.unusedSectionVars false
set_option linter.unusedSimpArgs false
set_option linter.unusedVariables false
namespace Go.Kt.V
open Go renaming World->ay,Value->az
open Go Go.RowKit Go.Kt
def nH(ws w w':ay):Prop:=w.heap.size<=w'.heap.size/\∀k,ws.heap.size<=k->k<w.heap.size->w'.heap[k]? =w.heap[k]?
def AX(mk:List (Nat×Nat))(b:Nat):Prop:=∀p∈mk,b<p.1∨p.2<=b
theorem nH.only{bs}{ws w w'}(h:Only bs w w')(hb:∀b∈bs,b<ws.heap.size∨w.heap.size<=b):nH ws w w':=
 ⟨h.size,λk h1 h2=>h.block k h2 λhk=>acX⟩
theorem nH.NE{ws w w'}(h:Only [] w w'):nH ws w w':=nH.only h aac
theorem AX.one{m n b}{r}(h:AX ((m,n)::r) b):b<m∨n<=b:=h _ eB
structure LZ where
 z:Nat
 d:Nat
 t:TypeId
 zs:List SV
def vq(P:Program)(z:Nat)(o:Oper):Option LZ:=match o.op,o.dst,o.guard with
 | .alloc t,some d,none=>(match zc P t with
  | some zs=>bif aa7 o.after.toList&&iq (λ_=>false) zs then some ⟨z,d,t,zs⟩else none
  | none=>none)
 | _,_,_=>none
def kX(P:Program):Nat->List Oper->List LZ
 | _,[]=>[]
 | i,o::r=>match vq P i o with
  | some p=>p::kX P (i+1) r
  | none=>kX P (i+1) r
def nR:List LZ->List Nat
 | []=>[]
 | p::r=>p.z::nR r
def zSl:List LZ->List Nat
 | []=>[]
 | p::r=>p.d::zSl r
def G8(z d:Nat):Nat->List Oper->Bool
 | _,[]=>true
 | i,o::r=>(Nat.beq i z||(match o.dst with
  | some e=>!Nat.beq e d
  | none=>true))&&G8 z d (i+1) r
def zOk(ops:List Oper):List LZ->Bool
 | []=>true
 | p::r=>G8 p.z p.d 0 ops&&zOk ops r
theorem RF{α}:∀{l:List α},aa7 l=true->l=[]
 | [],_=>rfl
theorem mc{P}{z}{o}{p}(h:vq P z o=some p):p.z=z/\o.op=.alloc p.t/\o.dst=some p.d/\o.guard=none/\o.after.toList=[]/\zc P p.t=some p.zs/\iq (λ_=>false) p.zs=true:=by
 unfold vq at h;split at h
 ·rename_i t d h1 h2 h3;split at h
  ·rename_i zs hz;obtain⟨h4,rfl⟩:=Ej h;simp at h4;exact⟨rfl,h1,h2,h3,RF h4.1,hz,h4.2⟩
  cases h
 cases h
theorem nS{Z}{z}:z∈nR Z↔∃p∈Z,p.z=z:=by
 induction Z with
 | nil=>simp[nR]
 | cons p r ih=>simp[nR,ih,eq_comm (a:=z)]
theorem AY{P}:∀{l:List Oper} {i:Nat} {p:LZ},p∈kX P i l->∃j o,p.z=i+j/\gR l j=some o/\vq P p.z o=some p
 | [],i,p,h=>aal
 | o::r,i,p,h=>by
  have tl:p∈kX P (i+1) r->∃j o',p.z=i+j/\gR (o::r) j=some o'/\vq P p.z o'=some p:=λh=>by
   obtain⟨j,o',h1,h2,h3⟩:=AY h;exact⟨j+1,o',aG,h2,h3⟩
  unfold kX at h;split at h
  ·rename_i q hq;rcases aV.1 h with rfl | h
   ·have:=(mc hq).1;exact⟨0,o,this,rfl,by rw[this];exact hq⟩
   exact tl h
  exact tl h
theorem AZ{P}:∀{l:List Oper} {i:Nat},(nR (kX P i l)).Nodup
 | [],i=>by simp[kX,nR]
 | o::r,i=>by
  unfold kX;split
  ·rename_i q hq;have e:=(mc hq).1;simp[nR];refine⟨λhm=>?_,AZ⟩;obtain⟨p,h1,h2⟩:=nS.1 hm;obtain _:=AY h1;omega
  exact AZ
theorem RG{z d}:∀{l:List Oper} {i j:Nat} {o:Oper},G8 z d i l=true->gR l j=some o->i+j≠z->o.dst≠some d:=by
 intro l
 induction l with
 | nil=>intro i j o _ h;cases h
 | cons c r ih=>
  intro i j o h hj hz;simp only[G8,aR,bU]at h;cases j with
  | zero=>
   simp[gR]at hj;intro e;simp_all
  | succ j=>exact ih (i:=i+1) (j:=j) h.2 hj aG
theorem RH{ops}:∀{Z:List LZ},zOk ops Z=true->∀p∈Z,G8 p.z p.d 0 ops=true
 | q::r,h,p,hp=>by
  simp[zOk]at h;rcases aV.1 hp with rfl | hp
  ·exact h.1
  exact RH h.2 p hp
def fe(l:Array Bool):List Nat->Array Bool
 | []=>l
 | z::r=>fe (l.setIfInBounds z true) r
theorem G9(l:Array Bool) i j:(l.setIfInBounds i true).setIfInBounds j true=(l.setIfInBounds j true).setIfInBounds i true:=by
 by_cases h:i=j
 ·subst h;rfl
 exact Array.setIfInBounds_comm _ _ h
theorem oo:∀{D:List Nat} {l:Array Bool} {z:Nat},fe (l.setIfInBounds z true) D=(fe l D).setIfInBounds z true
 | [],_,_=>rfl
 | d::r,l,z=>by simp[fe,G9,oo]
theorem Ha{D E}(h:D.Perm E):∀l,fe l D=fe l E:=by
 induction h with
 | nil=>intro l;rfl
 | cons x _ ih=>intro l;exact ih _
 | swap x y r=>intro l;simp[fe];rw[G9]
 | trans _ _ h1 h2=>intro l;exact(h1 l).trans (h2 l)
theorem ql:∀{D:List Nat} {l:Array Bool} {k:Nat},(fe l D).getD k false=true↔l.getD k false=true∨(k∈D/\k<l.size)
 | [],l,k=>by simp[fe]
 | d::r,l,k=>by
  simp only[fe];rw[ql];by_cases h:d=k
  ·subst h;by_cases hs:d<l.size
   ·simp[hs]
   simp[hs]
  simp[gK h,vN h]
theorem oq:∀{D:List Nat} {l:Array Bool} {k:Nat},(fe l D).getD k true=true↔l.getD k true=true∨k∈D
 | [],l,k=>by simp[fe]
 | d::r,l,k=>by
  simp only[fe];rw[oq];by_cases h:d=k
  ·simp_all
  simp[gK h,vN h]
def CA(Zi:List Nat):List Nat->List Nat
 | []=>[]
 | j::r=>bif Zi.elem j then CA Zi r else j::CA Zi r
theorem qm{Zi}:∀{l:List Nat} {j:Nat},j∈CA Zi l↔j∈l/\j∉Zi
 | [],j=>by simp[CA]
 | c::r,j=>by
  simp only[CA];cases h:Zi.elem c with
  | true=>
   simp only[my,qm,aV]
   grind
  | false=>
   simp[qm]
   grind
def LF(Zi R:List Nat):List Nat->Bool
 | []=>true
 | j::r=>(R.elem j&&!Zi.elem j)&&LF Zi R r
theorem Hb{Zi R}:∀{l:List Nat},LF Zi R l=true->∀j∈l,j∈R/\j∉Zi
 | c::r,h,j,hj=>by
  simp[LF]at h;rcases aV.1 hj with rfl | hj
  ·grind
  exact Hb h.2 j hj
def wi(l:Array Bool):List Nat->Bool
 | []=>true
 | z::r=>!l.getD z true&&wi l r
theorem yG{l}:∀{Zi:List Nat},wi l Zi=true->∀z∈Zi,l.getD z true=false
 | c::r,h,z,hz=>by
  simp only[wi,aR,da]at h;rcases aV.1 hz with rfl | hz
  ·exact h.1
  exact yG h.2 z hz
def aa9(ops:List Oper)(Zi:List Nat)(l:Array Bool):Bool:=LF Zi (Region.ready .any ops.toArray l) (Region.ready .any ops.toArray (fe l Zi))
def LH(z:Nat):List Nat->Bool
 | []=>true
 | j::r=>Nat.beq j z&&LH z r
theorem Hc{z}:∀{l:List Nat},LH z l=true->∀j∈l,j=z
 | c::r,h,j,hj=>by
  simp only[LH,aR]at h;rcases aV.1 hj with rfl | hj
  ·simp_all
  exact Hc h.2 j hj
def Wl(ops:List Oper)(l:Array Bool)(Zi:List Nat):List Nat->Bool
 | []=>true
 | z::r=>LH z (Region.ready .any ops.toArray (fe l (Zi.erase z)))&&Wl ops l Zi r
theorem LI{ops}{l}{Zi}:∀{r:List Nat},Wl ops l Zi r=true->∀z∈r,∀j∈Region.ready .any ops.toArray (fe l (Zi.erase z)),j=z
 | c::r,h,z,hz=>by
  simp[Wl]at h;rcases aV.1 hz with rfl | hz
  ·exact Hc h.1
  exact LI h.2 z hz
section
variable {md:Region.Mode} {ops:Array Oper}
theorem xJ{l}{D E}(hs:∀x∈D,x∈E){j}(h:j∈Region.ready md ops (fe l D))(hj:j∉E):j∈Region.ready md ops (fe l E):=by
 rw[mem_ready]at h⊢;obtain⟨h0,o,ho,jh⟩:=h;refine⟨?_,o,ho,λe he hb=>?_⟩
 ·rw[eu]at h0⊢;intro h1;rcases oq.1 h1 with h1 | h1
  ·exact h0 (oq.2 (.inl h1))
  exact hj h1
 rcases ql.1 (jh e he hb)with h1 | h1
 ·exact ql.2 (.inl h1)
 exact ql.2 (.inr ⟨hs _ h1.1,h1.2⟩)
theorem CB{l}(h:rb md ops l){D}(hD:∀z∈D,∀o,ops[z]? =some o->o.after.toList=[]):rb md ops (fe l D):=by
 intro k o hk hl e he hb;rcases ql.1 hl with h1 | h1
 ·exact ql.2 (.inl (h k o hk h1 e he hb))
 have:=hD k h1.1 o hk;simp_all
end
theorem aba{P}{o:Oper}{a}{w}{K}{Q}(hh:o.wp P a w K Q):
  o.wp P a w (λa' w'=>K a' w'/\∀i,o.dst≠some i->a'.tmps[i]? =a.tmps[i]?) Q:=by
 unfold Oper.wp at*
 generalize (execOp a.eval o).run P w=r at*
 cases r with
 | ok n w'=>
  cases n
  case value v=>exact⟨hh,(kr _ _ _).2.2⟩
  case skip=>exact⟨hh,(kr _ _ _).2.2⟩
  case defer d=>exact⟨hh,(kr _ _ _).2.2⟩
  case enter f args=>
   refine Calls.mono hh (λe tT he=>?_);cases e with
   | returned v=>exact⟨he,(kr _ _ _).2.2⟩
   | _=>exact he
  case row n args=>exact Rows.mono hh (λv tT he=>⟨he,(kr _ _ _).2.2⟩)
  all_goals exact hh
 | halt x w'=>cases x<;>simp[Oper.upon]at hh⊢ <;>exact hh
structure Late (Z:List LZ) (ws:ay) (bz:Nat->Nat) (D:List Nat) (mk:List (Nat×Nat)) (a:Act) (w:ay):Prop where
 at_:∀p∈Z,p.z∈D->a.tmps[p.d]? =some (.pointer (some ⟨bz p.z,0,none⟩))/\Blk w (bz p.z) p.t (cD β0 p.zs)/\ws.heap.size<=bz p.z/\AX mk (bz p.z)
 sub:∀z∈D,z∈nR Z
 ne:∀z∈D,∀z'∈D,z≠z'->bz z≠bz z'
 top:∀p∈mk,p.2<=w.heap.size
 le:ws.heap.size<=w.heap.size
section
variable {Z:List LZ} {ws:ay} {bz:Nat->Nat} {D:List Nat} {mk:List (Nat×Nat)} {a a':Act} {w w1:ay}
theorem Late.act(h:Late Z ws bz D mk a w)(ha:∀p∈Z,a'.tmps[p.d]? =a.tmps[p.d]?):Late Z ws bz D mk a' w:=
 ⟨λp hp hd=>by rw[ha p hp];exact h.at_ p hp hd,h.sub,h.ne,h.top,h.le⟩
theorem Late.loud(h:Late Z ws bz D mk a w)(hN:nH ws w w1)(ha:∀p∈Z,a'.tmps[p.d]? =a.tmps[p.d]?):Late Z ws bz D ((w.heap.size,w1.heap.size)::mk) a' w1:=by
 refine⟨λp hp hd=>?_,h.sub,h.ne,λp hp=>?_,bf h.le hN.1⟩
 ·obtain⟨h1,h2,h3,h4⟩:=h.at_ p hp hd;have h5:=h2.lt;refine⟨by rw[ha p hp];exact h1,?_,h3,λq hq=>?_⟩
  ·unfold Blk at h2⊢;rw[hN.2 _ h3 h5];exact h2
  rcases aV.1 hq with rfl | hq
  ·exact .inl h5
  exact h4 q hq
 rcases aV.1 hp with rfl | hp
 ·exact ba _
 exact bf (h.top p hp) hN.1
theorem Late.alloc(h:Late Z ws bz D mk a w)(hu:∀p∈Z,∀q∈Z,p.z=q.z->p=q)(hd:∀p∈Z,∀q∈Z,p.z≠q.z->p.d≠q.d){p}(hp:p∈Z)(hn:p.z∉D){b}(hb:w.heap.size<=b)(hO:Only [] w w1)(hB:Blk w1 b p.t (cD β0 p.zs))(hs:p.d<a.tmps.size):
  Late Z ws (λz=>if z=p.z then b else bz z) (p.z::D) mk (a.put (some p.d) (.pointer (some ⟨b,0,none⟩))) w1:=by
 refine⟨λq hq hqd=>?_,λz hz=>?_,λz hz z' Vz gq=>?_,λq hq=>bf (h.top q hq) hO.size,bf h.le hO.size⟩
 ·by_cases e:q.z=p.z
  ·have:=hu q hq p hp e;subst this;rw[bc rfl];refine⟨by simp[Act.put,hs],hB,bf h.le hb,λx hx=>.inr (bf (h.top x hx) hb)⟩
  rw[aY e];obtain⟨h1,h2,h3,h4⟩:=h.at_ q hq acX;refine⟨?_,hO.blk h2 aac,h3,h4⟩;rw[(kr a _ _).2.2 q.d (by
   intro k;injection k with k;exact hd p hp q hq (vN e) k)]
  exact h1
 ·rcases aV.1 hz with rfl | hz
  ·exact nS.2 ⟨p,hp,rfl⟩
  exact h.sub z hz
 have Qo:∀z∈D,bz z<w.heap.size:=λz hz=>by
  obtain⟨q,hq,rfl⟩:=nS.1 (h.sub z hz);exact(h.at_ q hq hz).2.1.lt
 rcases aV.1 hz with rfl | hz<;>rcases aV.1 Vz with rfl | Vz
 ·exact absurd rfl gq
 ·grind
 ·rw[aY gq,bc rfl];have:=Qo _ hz;omega
 rw[aY (λe=>hn (by rw[<-e];exact hz)),aY (λe=>hn (by rw[<-e];exact Vz))];exact h.ne _ hz _ Vz gq
end
def YF:YT:=λ_ _=>False
def XL(mb ms:Bool)(S:Nat->Prop)(ws:ay)(o:Op):XT:=λw0 w1 p=>nH ws w0 w1/\XB mb ms S o w0 w1 p
def LJ(st:St):List LZ->Bool
 | []=>true
 | p::r=>(dQ st.fr p.d).isNone&&Nat.blt p.d st.n&&LJ st r
theorem Hd{st}:∀{Z:List LZ},LJ st Z=true->∀p∈Z,dQ st.fr p.d=none/\p.d<st.n
 | q::r,h,p,hp=>by
  simp only[LJ,aR,Option.isNone_iff_eq_none]at h;rcases aV.1 hp with rfl | hp
  ·simp_all
  exact Hd h.2 p hp
def St.yj(st:St):St:={st with mv:=true}
def eqA:List Bool->List Bool->Bool
 | [],[]=>true
 | a::r,b::s=>(a==b)&&eqA r s
 | _,_=>false
theorem RI:∀{l m:List Bool},eqA l m=true->l=m
 | [],[],_=>rfl
 | a::r,b::s,h=>by
  simp[eqA]at h;rw[h.1,RI h.2]
def lL(P:Program)(ops:List Oper)(mb ms:Bool)(S:Nat->Prop)(ws:ay)(mk:List (Nat×Nat))(st:St)(o:Oper)(D:List (Nat×Nat)->St->Prop):Prop:=
 bif jy P o.op then False else Wj st ops o (λst=>eZ st λst=>loud P (XL mb ms S ws o.op) YF st o λs=>bif s.mv then False else D ((st.w0.heap.size,s.w0.heap.size)::mk) s.yj) (λst=>D mk (St.yj (st.put o.dst .un)))
def fqG(P:Program)(ops:List Oper)(Zi:List Nat)(bG:Array Bool):List Nat->Option Nat
 | []=>none
 | i::r=>(match gR ops i with
  | some o=>bif jy P o.op&&aa9 ops Zi (bG.setIfInBounds i true)then some i else fqG P ops Zi bG r
  | none=>fqG P ops Zi bG r)
def fqZ(P:Program)(ops:List Oper)(Zi:List Nat)(bG:Array Bool)(l:List Nat):Option Nat:=
 match fqG P ops Zi bG l with
 | some q=>some q
 | none=>fq P ops l
def Ou(P:Program)(ops:List Oper)(mb ms:Bool)(S:Nat->Prop)(ws:ay)(Z:List LZ)(yt:Array Bool)(gm:Nat)(K:List (Nat×Nat)->St->Prop):Nat->Array Bool->List (Nat×Nat)->St->Prop
 | 0,_,_,_=>False
 | g+1,bG,mk,st=>bif wi bG (nR Z)&&LJ st Z then(match CA (nR Z) (Region.ready .any ops.toArray bG)with
  | []=>bif Wl ops bG (nR Z) (nR Z)&&eqA bG.toList yt.toList&&Nat.beq (g+1) gm&&Nat.ble (nR Z).length (g+1)then K mk st else False
  | i::r=>bif aa9 ops (nR Z) bG&&Nat.ble (nR Z).length g then(match fqZ P ops (nR Z) bG (i::r)with
   | some q=>cj (gR ops q) λo=>bif okT ops bG q&&(i::r).contains q then
    Wj st ops o (λst=>qP P ops mb ms S bG q o st.yj λst=>Ou P ops mb ms S ws Z yt gm K g (bG.setIfInBounds q true) mk st.yj) (λst=>Ou P ops mb ms S ws Z yt gm K g (bG.setIfInBounds q true) mk (St.yj (st.put o.dst .un)))else False
   | none=>(match r with
    | []=>cj (gR ops i) λo=>lL P ops mb ms S ws mk st o λmk st=>Ou P ops mb ms S ws Z yt gm K g (bG.setIfInBounds i true) mk st
    | [j]=>cj (gR ops i) λo=>cj (gR ops j) λo'=>
     lL P ops mb ms S ws mk st o (λmk st=>Ou P ops mb ms S ws Z yt gm K g (bG.setIfInBounds i true) mk st)/\
     lL P ops mb ms S ws mk st o' (λmk st=>Ou P ops mb ms S ws Z yt gm K g (bG.setIfInBounds j true) mk st)
    | [j,k]=>cj (gR ops i) λo=>cj (gR ops j) λo'=>cj (gR ops k) λo''=>
     lL P ops mb ms S ws mk st o (λmk st=>Ou P ops mb ms S ws Z yt gm K g (bG.setIfInBounds i true) mk st)/\
     lL P ops mb ms S ws mk st o' (λmk st=>Ou P ops mb ms S ws Z yt gm K g (bG.setIfInBounds j true) mk st)/\
     lL P ops mb ms S ws mk st o'' (λmk st=>Ou P ops mb ms S ws Z yt gm K g (bG.setIfInBounds k true) mk st)
    | _=>False))else False)else False
section
variable {P:Program} {ops:List Oper} {mb ms:Bool} {S:Nat->Prop} {β:Nat->Nat} {a:Act} {w:ay} {ws:ay} {Z:List LZ} {yt:Array Bool} {gm:Nat}
theorem Rep.late{st}(hR:Rep β st a w)(hm:st.mv=true){d}{v}(hd:dQ st.fr d=none){w1}(hO:Only [] w w1):Rep β st (a.put (some d) v) w1:=by
 obtain⟨p1,p2,p3⟩:=kr a _ v;refine⟨rm ⟨p1.trans hR.ok.sz,p2.trans hR.ok.df,λi p hl hi=>?_⟩,λi b hb ho=>?_,hR.ne,hR.only.cr hO,λh=>by rw[hm]at h;cases h⟩
 ·rw[p3 i acX];exact hR.ok.at_ i p hl hi
 obtain⟨k1,k2,k3⟩:=hR.bx i b hb ho;exact⟨hO.blk k1 aac,k2,k3⟩
theorem Rep.yj{st}(hR:Rep β st a w):Rep β st.yj a w:=⟨hR.fr,hR.bx,hR.ne,hR.only,λh=>aal⟩
theorem Ext.yj st:Ext st st.yj:=⟨rfl,ba _,λ_ _ _ h _=>h,λi b h ho _=>⟨b,h,ho,rfl,rfl,rfl,λ_ h=>h⟩,Ra,Gk⟩
theorem afW{Q}{j}{o}{st}{mk}{D}(hj:gR ops j=some o)(h:lL P ops mb ms S ws mk st o D)(hR:Rep β st a w):
  wpOp P ops.toArray Q j (λa' w'=>EE P ops mb ms S j w w'/\(∀i,o.dst≠some i->a'.tmps[i]? =a.tmps[i]?)/\∃β' cK mk',D mk' cK/\Ext st cK/\cK.mv=true/\Rep β' cK a' w'/\((mk'=mk/\w'=w)∨(mk'=(w.heap.size,w'.heap.size)::mk/\nH ws w w'))) a w:=by
 rcases mP h with⟨_,h⟩ | ⟨hp,h⟩
 ·exact h.elim
 have Qn:ops.toArray[j]? =some o:=by rw[jX]at hj;simpa using hj
 unfold wpOp;simp only[Qn];obtain⟨s,e1,ik,h1⟩:=AW h hR;rcases h1 with⟨hw,h1⟩ | ⟨hw,h1⟩
 ·rw[bc hw];left;obtain⟨s1,h2,e2,ZY,PF,_⟩:=dV h1 ik;have hEE:EE P ops mb ms S j=λw w'=>bif mb&&(ms||!y9 o.op)then bS S w w' else True:=by
   unfold EE;simp_all
  have:=aba (Ez (E:=λw w'=>EE P ops mb ms S j w w'/\nH ws w w') (Q:=Q) (λw0 w1 p hx=>?_) (λw w1 hO=>?_) (λhs bk k w w1 p hy hk hO=>hy.elim) h2 ZY)
  ·refine Oper.wp_mono ?_ this;rintro a' w' ⟨⟨β',cK,k1,k2,k3,k4⟩,k5⟩;rcases mP k1 with⟨_,k1⟩ | ⟨km,k1⟩
   ·exact k1.elim
   refine⟨k3.1,k5,β',cK.yj,_,k1,((e1.trans e2).trans k2).trans (Ext.yj _),rfl,k4.yj,.inr ⟨?_,k3.2⟩⟩;rw[<-k4.still km,<-ZY.still PF]
  ·rw[hEE];obtain⟨hN,hx⟩:=hx;unfold XB at hx;cases hb:(mb&&(ms||!y9 o.op))<;>grind
  rw[hEE];refine⟨?_,nH.NE hO⟩;cases(mb&&_)with
  | true=>exact bS.only hO
  | false=>exact trivial
 rw[aY acX];exact⟨rz hj w,(kr _ _ _).2.2,β,_,mk,h1,(e1.trans (Ext.put _ _ _)).trans (Ext.yj _),rfl,(ik.put o.dst .un).yj,.inl ⟨rfl,trivial⟩⟩
theorem RJ{Q:Exit->Act->ay->Prop}(hQ:∀c a w,¬Q (.panic c) a w)(hZ:∀p∈Z,∃o,gR ops p.z=some o/\vq P p.z o=some p)(hzo:zOk ops Z=true)(hnd:(nR Z).Nodup){s0:St}{K:List (Nat×Nat)->St->Prop}
  (hK:∀mk st β a w bz D m,K mk st->Ext s0 st->Rep β st a w->Late Z ws bz D mk a w->D.Perm (nR Z)->m+D.length=gm->fK P .any ops.toArray Q (EE P ops mb ms S) m (fe yt D) a w):
  ∀(m g:Nat) {bG:Array Bool} {mk:List (Nat×Nat)} {st:St} {β:Nat->Nat} {a:Act} {w:ay} {bz:Nat->Nat} {D Pd:List Nat},Ou P ops mb ms S ws Z yt gm K g bG mk st->Ext s0 st->st.mv=true->Rep β st a w->Late Z ws bz D mk a w->(D++Pd).Perm (nR Z)->m+D.length=g->
   fK P .any ops.toArray Q (EE P ops mb ms S) m (fe bG D) a w:=by
 intro m;have hu:∀p∈Z,∀q∈Z,p.z=q.z->p=q:=λp hp q hq e=>by
  obtain⟨o,h1,h2⟩:=hZ p hp;obtain⟨o',h3,h4⟩:=hZ q hq;rw[e,h3]at h1;injection h1 with h1;subst h1;rw[e,h4]at h2;injection h2 with h2;exact h2.symm
 have hdo:∀p∈Z,∀j o,gR ops j=some o->j≠p.z->o.dst≠some p.d:=λp hp j o hj gq=>RG (RH hzo p hp) hj (by rw[bO];exact gq);have VA:∀p∈Z,∀q∈Z,p.z≠q.z->p.d≠q.d:=λp hp q hq gq e=>by
  obtain⟨o',h3,h4⟩:=hZ q hq;exact hdo p hp q.z o' h3 (vN gq) (by rw[(mc h4).2.2.1,e])
 induction m using Nat.strongRecOn with
 | ind m ih=>
 intro g bG mk st β a w bz D Pd h he hm hR hL hp hg;cases g with
 | zero=>exact h.elim
 | succ g=>
 have h0:=h;unfold Ou at h;obtain⟨hc,h⟩:=dD h;simp only[aR]at hc;obtain⟨hun,hfz⟩:=hc;have hun:=yG hun;have hDZ:∀x∈D,x∈nR Z:=hL.sub;have hPZ:∀x∈Pd,x∈nR Z:=λx hx=>hp.subset (List.mem_append_right _ hx);have fy:D.length+Pd.length=(nR Z).length:=by have:=hp.length_eq;rwa[aW]at this
 have aow:(D++Pd).Nodup:=hp.nodup_iff.2 hnd;have hPD:∀x∈Pd,x∉D:=λx hx hd=>(List.nodup_append.1 aow).2.2 x hd x hx rfl;have hrz:∀j∈Region.ready .any ops.toArray (fe bG D),j∈nR Z->j∈Pd:=λj hj vG=>by
  have h1:j∉D:=λhd=>by
   have:=(mem_ready.1 hj).1;rw[oq.2 (.inr hd)]at this;cases this
  rcases bN.1 (hp.mem_iff.2 vG)with h2 | h2
  ·exact absurd h2 h1
  exact h2
 have aig:∀j∈Region.ready .any ops.toArray bG,j∉nR Z->j∈Region.ready .any ops.toArray (fe bG D):=λj hj vG=>xJ (l:=bG) (D:=[]) (E:=D) aac hj λk=>vG (hDZ j k);have hpr:∀z∈Pd,z∈Region.ready .any ops.toArray (fe bG D):=λz hz=>by
  obtain⟨p,KJ,rfl⟩:=nS.1 (hPZ z hz);obtain⟨o,ho,bT⟩:=hZ p KJ;refine mem_ready.2 ⟨?_,o,adO,λe he=>?_⟩
  ·rw[eu];intro k;rcases oq.1 k with k | k
   ·rw[hun _ (hPZ _ hz)]at k;cases k
   exact hPD _ hz k
  rw[Array.mem_def,(mc bT).2.2.2.2.1]at he;cases he
 have AL:∀{m'},m=m'+1->∀j∈Pd,wpOp P ops.toArray Q j (λa' w'=>EE P ops mb ms S j w w'/\fK P .any ops.toArray Q (EE P ops mb ms S) m' ((fe bG D).setIfInBounds j true) a' w') a w:=by
  intro m' em j hj;obtain⟨p,KJ,rfl⟩:=nS.1 (hPZ j hj);obtain⟨o,ho,bT⟩:=hZ p KJ;obtain⟨_,l2,l3,l4,l5,l6,l7⟩:=mc bT;obtain⟨fz1,fz2⟩:=Hd hfz p KJ;have Qt:ops.toArray[p.z]? =some o:=adO
  unfold wpOp;simp only[Qt];rw[bc (wn l4)];left;obtain⟨dst,op,t',pp,af,g0⟩:=o;dsimp only at l2 l3 l4 l5;subst l2 l3 l4;obtain⟨z,z1,z2⟩:=YU l6 w;refine An z1 (z2 β0) (λ_=>rfl) λb w1 hb hO hB=>⟨?_,?_⟩
  ·unfold EE;rw[ho];dsimp only;rw[show jy P (.alloc p.t)=false from rfl,uL];cases(mb&&(ms||!y9 (.alloc p.t)))with
   | true=>exact bS.only hO
   | false=>exact trivial
  rw[<-oo];exact ih m' aG (g+1) (D:=p.z::D) (Pd:=Pd.erase p.z) h0 he hm (hR.late hm fz1 hO) (hL.alloc hu VA KJ (hPD _ hj) hb hO hB (by rw[hR.ok.sz];exact fz2))
   ((List.perm_middle.symm.trans ((List.perm_cons_erase hj).symm.append_left D)).trans hp) (by rw[bn];omega)
 split at h
 ·rename_i Uq;obtain⟨hc,h⟩:=dD h;simp only[aR]at hc;obtain⟨⟨⟨c1,c2⟩,c3⟩,c4⟩:=hc;have aoy:bG=yt:=P7.1 (RI c2);have egm:=cd c3;have c4:=cH c4;cases hPd:Pd with
  | nil=>
   rw[hPd,bQ]at hp;rw[aoy];exact hK mk st β a w bz D m h he hR hL hp aG
  | cons z Pd'=>
   have hzm:z∈Pd:=by rw[hPd];exact eB
   have KK:Pd.length=Pd'.length+1:=by rw[hPd];rfl
   obtain⟨m',rfl⟩:∃m',m=m'+1:=⟨m-1,aG⟩
   refine⟨λh0=>?_,λj hj=>AL rfl j ?_⟩
   ·have:=hpr z hzm;rw[h0]at this;cases this
   by_cases vG:j∈nR Z
   ·exact hrz j hj vG
   exfalso;have h1:j∈Region.ready .any ops.toArray (fe bG ((nR Z).erase z)):=xJ (λx hx=>(List.mem_erase_of_ne (λe=>hPD z hzm (by rw[<-e];exact hx))).2 (hDZ x hx)) hj (λk=>vG (List.mem_of_mem_erase k));have:=LI c1 z (hPZ z hzm) j h1;exact vG (this▸hPZ z hzm)
 rename_i i r Uq;obtain⟨c0,h⟩:=dD h;simp only[aR,aa9]at c0;have hrd:=Hb c0.1;have c0:=cH c0.2;have hrm:∀j∈Region.ready .any ops.toArray (fe bG D),j∉nR Z->j∈Region.ready .any ops.toArray bG:=λj hj vG=>(hrd j (xJ hDZ hj vG)).1;obtain⟨m',rfl⟩:∃m',m=m'+1:=⟨m-1,aG⟩
 have hio:∀j∈i::r,j∈Region.ready .any ops.toArray bG/\j∉nR Z:=λj hj=>qm.1 (by rw[Uq];exact hj);have gq:Region.ready .any ops.toArray (fe bG D)=[]->False:=λh0=>by
  have:=aig i (hio i eB).1 (hio i eB).2;rw[h0]at this;cases this
 have hdz:∀j o,gR ops j=some o->j∉nR Z->∀p∈Z,o.dst≠some p.d:=λj o hj vG p hp=>hdo p hp j o hj λe=>vG (nS.2 ⟨p,hp,e.symm⟩);have LL:∀{j:Nat} {o:Oper},gR ops j=some o->j∉nR Z->lL P ops mb ms S ws mk st o (λmk st=>Ou P ops mb ms S ws Z yt gm K g (bG.setIfInBounds j true) mk st)->
   wpOp P ops.toArray Q j (λa' w'=>EE P ops mb ms S j w w'/\fK P .any ops.toArray Q (EE P ops mb ms S) m' ((fe bG D).setIfInBounds j true) a' w') a w:=by
  intro j o ho vG h;refine wpOp_mono (λa' w' hh=>⟨hh.1,?_⟩) (afW ho h hR);obtain⟨k0,k1,β',cK,mk',k2,k3,k4,k5,k6⟩:=hh;rw[<-oo];have sQ:∀p∈Z,a'.tmps[p.d]? =a.tmps[p.d]? :=λp hp=>k1 _ (hdz j o ho vG p hp);have ZZ:Late Z ws bz D mk' a' w':=by
   rcases k6 with⟨rfl,rfl⟩ | ⟨rfl,k6⟩
   ·exact hL.act sQ
   exact hL.loud k6 sQ
  exact ih m' aG g k2 (he.trans k3) k4 k5 ZZ hp aG
 split at h
 ·rename_i q hq;obtain⟨o,ho,h⟩:=bC h;obtain⟨hc,h⟩:=dD h;simp only[aR,okT]at hc;obtain⟨⟨⟨⟨⟨c1,c2⟩,c3⟩,c4⟩,c5⟩,c6⟩:=hc;obtain⟨hq1,hq2⟩:=hio q (by simpa using c6);have Qt:ops.toArray[q]? =some o:=adO
  have pC:rb .any ops.toArray (fe bG D):=CB (C0 c3) λz hz o hoz=>by
   obtain⟨p,KJ,rfl⟩:=nS.1 (hDZ z hz);obtain⟨o2,ho2,bT⟩:=hZ p KJ;rw[jX]at ho2;have:o2=o:=by
    have e:ops.toArray[p.z]? =some o2:=by simpa using ho2
    rw[hoz]at e;injection e with e;exact e.symm
   rw[<-this];exact(mc bT).2.2.2.2.1
  have hN:∀k∈Vj bG 0 ops,(fe bG D).getD k true=true:=λk hk=>oq.2 (.inl (by simpa using(dF.1 c5) k hk));have NM:=Region.free_spec Qt c2;have FW:∀j oj,ops.toArray[j]? =some oj->j≠q->(fe bG D).getD j true=false->(∀e∈oj.after,Region.binds .any e=true->e.on≠q)->o.apart ops.toArray oj=true:=λj oj h1 h2 h3 h4=>NM j oj h1 h2 (by
   rw[eu]at h3⊢;exact λk=>h3 (oq.2 (.inl k))) h4
  have hqr:=aig q hq1 hq2;obtain⟨s,e1,ik,h1⟩:=AW h hR;have sQ:∀v,∀p∈Z,(a.put o.dst v).tmps[p.d]? =a.tmps[p.d]? :=λv p hp=>(kr _ _ _).2.2 _ (hdz q o ho hq2 p hp);rcases h1 with⟨hw,h1⟩ | ⟨hw,h1⟩
  ·obtain⟨v,s2,F,k1,k2,k3,k4,k5,k6,k7⟩:=YZ h1 ik.yj;refine re Qt (Region.noSelect_spec c1) (λc a w hp=>(hQ _ _ _ hp).elim) c4 (Vj bG 0 ops) k5 (λw1 _=>rz ho w1) m' (fe bG D) a w pC hN FW hqr (YJ hw k7) k4 ?_;rw[<-oo];exact ih m' aG g k1 (((he.trans e1).trans (Ext.yj _)).trans (k2.trans (Ext.yj _))) rfl k3.yj (hL.act (sQ v)) hp aG
  refine re (v:=undef) (F:=λ_=>True) Qt (Region.noSelect_spec c1) (λc a w hp=>(hQ _ _ _ hp).elim) c4 (Vj bG 0 ops) (λ_ _ _ _ _ _ _=>trivial) (λw1 _=>rz ho w1) m' (fe bG D) a w pC hN FW hqr (afy hw) trivial ?_;rw[<-oo];exact ih m' aG g h1 ((he.trans e1).trans ((Ext.put _ _ _).trans (Ext.yj _))) rfl (ik.put o.dst .un).yj (hL.act (sQ undef)) hp aG
 split at h
 ·obtain⟨o,ho,h⟩:=bC h;refine⟨λh0=>(gq h0).elim,λj hj=>?_⟩;by_cases vG:j∈nR Z
  ·exact AL rfl j (hrz j hj vG)
  have:j∈CA (nR Z) (Region.ready .any ops.toArray bG):=qm.2 ⟨hrm j hj vG,vG⟩;rw[Uq]at this;obtain rfl:j=i:=by simpa using this
  exact LL ho vG h
 ·rename_i i' _;obtain⟨o,ho,h⟩:=bC h;obtain⟨o',Qt,h⟩:=bC h;refine⟨λh0=>(gq h0).elim,λj hj=>?_⟩;by_cases vG:j∈nR Z
  ·exact AL rfl j (hrz j hj vG)
  have:j∈CA (nR Z) (Region.ready .any ops.toArray bG):=qm.2 ⟨hrm j hj vG,vG⟩;rw[Uq]at this;rcases aV.1 this with rfl | this
  ·exact LL ho vG h.1
  have:=aO.1 this;subst this;exact LL Qt vG h.2
 ·rename_i i' i'' _;obtain⟨o,ho,h⟩:=bC h;obtain⟨o',Qt,h⟩:=bC h;obtain⟨o'',aoB,h⟩:=bC h;refine⟨λh0=>(gq h0).elim,λj hj=>?_⟩;by_cases vG:j∈nR Z
  ·exact AL rfl j (hrz j hj vG)
  have:j∈CA (nR Z) (Region.ready .any ops.toArray bG):=qm.2 ⟨hrm j hj vG,vG⟩;rw[Uq]at this;rcases aV.1 this with rfl | this
  ·exact LL ho vG h.1
  rcases aV.1 this with rfl | this
  ·exact LL Qt vG h.2.1
  have:=aO.1 this;subst this;exact LL aoB vG h.2.2
 exact h.elim
end
def St.FN(st:St)(d:Nat)(t:TypeId)(zs:List SV)(b:Nat):St:=
 St.put {st with bx:=st.bx++[⟨some b,t,zs,st.ct,true,false,false⟩],ct:=st.ct+1} (some d) (.box st.bx.length 0)
theorem Ext.FN st d t zs b:Ext st (st.FN d t zs b):=by
 refine Ext.trans (t:={st with bx:=st.bx++[_],ct:=st.ct+1}) ⟨rfl,iM _,λ_ _ _ h _=>h,λi b' hb ho hs=>?_,λi b hb=>?_,Gk⟩ (Ext.put _ _ _)
 ·rw[ku]at hb
  grind
 exact⟨b,by dsimp only;rw[ku,aY (by have:=rq hb;omega)];exact hb,rfl,rfl,λ_ h=>h⟩
section
variable {β:Nat->Nat} {st:St} {a:Act} {w:ay}
theorem Rep.FN(hR:Rep β st a w){d}{t}{zs}{b}(h1:Oi st.bx.length st.fr=true)(h2:JC st.bx.length st.bx=true)(hdt:AM st.bx st.dt=true)(pC:iq (λ_=>false) zs=true)
  (hs:a.tmps[d]? =some (.pointer (some ⟨b,0,none⟩))) (hB:Blk w b t (cD β0 zs)) (gq:∀i c,dc st.bx i=some c->c.ok=true->β i≠b):
  Rep (Cm β st.bx.length b) (st.FN d t zs b) a w:=by
 have uZ:Cm β st.bx.length b st.bx.length=b:=by unfold Cm;rw[bc rfl]
 have bT:∀{i c},dc st.bx i=some c->Cm β st.bx.length b i=β i:=fun{i c} h=>by
  unfold Cm;rw[aY];have:=rq h;omega
 have base:Rep (Cm β st.bx.length b) {st with bx:=st.bx++[⟨some b,t,zs,st.ct,true,false,false⟩],ct:=st.ct+1} a w:=by
  refine⟨rm ⟨hR.ok.sz,hR.ok.df,λi p hl hi=>?_⟩,λi c hc ho=>?_,λi j bi bj g1 g2 g3 g4 sD=>?_,?_,hR.still⟩
  ·rw[hR.ok.at_ i p hl hi];congr 1;exact iO (g:=λj=>!Nat.beq j st.bx.length) AP _ (Et h1 i p hl)
  ·rw[ku]at hc;split at hc
   ·rename_i he;simp at hc;subst hc;subst he;refine⟨?_,λk hk=>?_,λhk=>aeO⟩
    ·rw[uZ];rw[gW (g:=λ_=>false) (β:=Cm β st.bx.length b) (β':=β0) (λi h=>aal) _ pC];exact hB
    simp_all
   have e:=bT hc;obtain⟨k1,k2,k3⟩:=hR.bx i c hc ho;refine⟨?_,λk hk=>by rw[e];exact k2 k hk,λhk=>by rw[e];exact k3 hk⟩;rw[e,<-gW (g:=λj=>!Nat.beq j st.bx.length) (β:=β) (β':=Cm β st.bx.length b) AP _ (Eu h2 i c hc ho)];exact k1
  ·rw[ku]at g1 g2;split at g1
   ·grind
   split at g2
   ·grind
   rw[bT g1,bT g2];exact hR.ne i j bi bj g1 g2 g3 g4 sD
  have e:=sL λi hi=>by
   obtain⟨c,hc,_⟩:=ub hdt i hi;exact bT hc
  rw[e];exact hR.only
 refine⟨rm ⟨base.ok.sz,base.ok.df,λi p hl hi=>?_⟩,base.bx,base.ne,base.only,base.still⟩;simp[St.FN,St.put,dQ]at hl;cases hb:Nat.beq d i with
 | true=>
  rw[hb]at hl;simp at hl;subst hl;have:=cd hb;subst this;rw[hs];show _=some (Value.pointer _);rw[uZ]
 | false=>rw[hb]at hl;exact base.ok.at_ i p aeD hi
end
def neN(b:Nat):List Nat->Prop->Prop
 | [],p=>p
 | x::r,p=>x≠b->neN b r p
theorem RL{b}:∀{l:List Nat} {p:Prop},neN b l p->(∀x∈l,x≠b)->p
 | [],_,h,_=>h
 | x::r,p,h,hb=>RL (h (hb x eB)) λy hy=>hb y (dj _ hy)
def abb(ws:ay)(mk:List (Nat×Nat)):List LZ->List Nat->St->(St->Prop)->Prop
 | [],_,st,K=>K st
 | p::r,seen,st,K=>bif chk st p.zs then ∀b,ws.heap.size<=b->b<st.w0.heap.size->AX mk b->neN b seen (abb ws mk r (b::seen) (st.FN p.d p.t p.zs b) K)else False
theorem LK{ws}{mk}{bz:Nat->Nat}{a}{w}:∀{r:List LZ} {seen:List Nat} {st:St} {K:St->Prop} {β:Nat->Nat},abb ws mk r seen st K->Rep β st a w->st.mv=false->
  (∀p∈r,a.tmps[p.d]? =some (.pointer (some ⟨bz p.z,0,none⟩))/\Blk w (bz p.z) p.t (cD β0 p.zs)/\ws.heap.size<=bz p.z/\AX mk (bz p.z)/\iq (λ_=>false) p.zs=true/\(∀x∈seen,x≠bz p.z)/\∀i c,dc st.bx i=some c->c.ok=true->β i≠bz p.z)->
  (nR r).Nodup->(∀p∈r,∀q∈r,p.z≠q.z->bz p.z≠bz q.z)->∃cK β',K cK/\Ext st cK/\Rep β' cK a w
 | [],_,st,K,β,h,hR,_,_,_,_=>⟨st,β,h,Ext.refl _,hR⟩
 | p::r,seen,st,K,β,h,hR,hm,hp,hn,hd=>by
  obtain⟨hc,h⟩:=dD h;simp[chk,aR]at hc;obtain⟨h1,h2,h3,h4,h5,h6,h7⟩:=hp p eB;have h:=RL (h _ h3 (by rw[<-hR.still hm];exact h2.lt) h4) h6;simp[nR,kV]at hn;have hpq:∀q∈r,p.z≠q.z:=λq hq e=>hn.1 (nS.2 ⟨q,hq,e.symm⟩);have bT:∀{i c},dc st.bx i=some c->Cm β st.bx.length (bz p.z) i=β i:=fun{i c} h=>by
   unfold Cm;rw[aY];have:=rq h;omega
  obtain⟨cK,β',k1,k2,k3⟩:=LK h (hR.FN hc.1.1.1 hc.1.1.2 hc.2 h5 h1 h2 h7) hm (λq hq=>by
   obtain⟨g1,g2,g3,g4,g5,g6,g7⟩:=hp q (dj _ hq);have gq:=hd p eB q (dj _ hq) (hpq q hq);refine⟨g1,g2,g3,g4,g5,λx hx=>?_,λi c hc ho=>?_⟩
   ·rcases aV.1 hx with rfl | hx
    ·exact gq
    exact g6 x hx
   simp[St.FN,St.put]at hc;rw[ku]at hc;split at hc
   ·rename_i e;subst e;unfold Cm;simp_all
   rw[bT hc];exact g7 i c hc ho) hn.2 λx hx y hy=>hd x (dj _ hx) y (dj _ hy)
  exact⟨cK,β',k1,(Ext.FN _ _ _ _ _).trans k2,k3⟩
def ph2(P:Program)(ops:List Oper)(mb ms:Bool)(S:Nat->Prop)(ws:ay)(Z:List LZ)(yt:Array Bool)(gm nb:Nat)(mk:List (Nat×Nat))(st:St)(K:St->Prop):Prop:=
 bif Nat.beq st.bx.length nb then eZ st λst=>abb ws mk Z [] st λst=>G5 P ops mb ms S (gm-(nR Z).length) (fe yt (nR Z)) st K else False
def LM(P:Program)(ops:List Oper)(jn:Bool)(kp:List Nat)(mi:List MI)(mb ms:Bool)(S:Nat->Prop)(Z:List LZ)(yt:Array Bool)(gm:Nat)(st:St)(K:St->Prop):Prop:=
 bif qj st.bx then
  (bif jn then ∃J:List _->JT _,(∀mk,G3 _ (J mk) λvs w=>ph2 P ops mb ms S st.w0 Z yt gm st.bx.length mk (ma st kp mi vs w) K)/\
   Ou P ops mb ms S st.w0 Z yt gm (λmk s=>eZ s λs=>Oq st kp mi (J mk) s) ops.length (Array.replicate ops.length false) [] (St.yj (st.oI (zSl Z)))
  else Ou P ops mb ms S st.w0 Z yt gm (λmk s=>ph2 P ops mb ms S st.w0 Z yt gm st.bx.length mk s K) ops.length (Array.replicate ops.length false) [] (St.yj (st.oI (zSl Z))))else False
def RM(ops:List Oper)(Zi:List Nat):Nat->Array Bool->Array Bool
 | 0,l=>l
 | f+1,l=>match CA Zi (Region.ready .any ops.toArray l)with
  | []=>l
  | i::_=>RM ops Zi f (l.setIfInBounds i true)
def Wm:List Bool->Nat
 | []=>0
 | b::r=>bif b then Wm r else Wm r+1
theorem LN:∀{l:List ki} {i:Nat},i<l.length->∃b,dc l i=some b
 | b::r,0,_=>⟨b,rfl⟩
 | b::r,i+1,h=>LN (l:=r) aaA
section
variable {P:Program} {ops:List Oper} {mb ms:Bool} {S:Nat->Prop} {β:Nat->Nat} {a:Act} {w:ay} {yt:Array Bool} {gm:Nat} {jn:Bool} {kp:List Nat} {mi:List MI} {st:St} {K:St->Prop}
theorem RN{Q}(hQ:∀c a w,¬Q (.panic c) a w)(hzo:zOk ops (kX P 0 ops)=true)(h:LM P ops jn kp mi mb ms S (kX P 0 ops) yt gm st K)(hR:Rep β st a w)(sR:st.mv=false)
  (hK:∀β' cK a' w',K cK->Ext st cK->Rep β' cK a' w'->Q .normal a' w'):fK P .any ops.toArray Q (EE P ops mb ms S) ops.length (Array.replicate ops.length false) a w:=by
 have hnd:(nR (kX P 0 ops)).Nodup:=AZ;have hZ:∀p∈kX P 0 ops,∃o,gR ops p.z=some o/\vq P p.z o=some p:=λp hp=>by
  obtain⟨j,o,h1,h2,h3⟩:=AY hp
  grind
 generalize kX P 0 ops=Z at*
 obtain⟨hbd,h⟩:=dD h;rw[<-hR.still sR]at h;have two:∀mk cK β' a' w' bz D m,ph2 P ops mb ms S w Z yt gm st.bx.length mk cK K->Ext st cK->Rep β' cK a' w'->Late Z w bz D mk a' w'->D.Perm (nR Z)->m+D.length=gm->fK P .any ops.toArray Q (EE P ops mb ms S) m (fe yt D) a' w':=by
  intro mk cK β' a' w' bz D m h he Z0 hL hp hg;obtain⟨fy,h⟩:=dD h;have fy:=cd fy;obtain⟨s1,h1,e1,ik,PG,_,_,_,VB⟩:=dV h Z0;have hx:=he.trans e1;have hold:∀i c,dc s1.bx i=some c->c.ok=true->β' i<w.heap.size:=λi c hc ho=>by
   obtain⟨b,hb⟩:=LN (l:=st.bx) (i:=i) (by have:=rq hc;omega);obtain⟨c',k1,k2,k3,k4⟩:=hx.ps i b hb;rw[hc]at k1;injection k1 with k1;subst k1;have Gu:b.ok=true:=by rw[<-k3];exact ho
   obtain⟨k,hk⟩:=dU.1 (wc hbd i b hb Gu);rw[(ik.bx i c hc ho).at_ k (k4 k hk),<-(hR.bx i b hb Gu).at_ k hk];exact(hR.bx i b hb Gu).blk.lt
  have hD:=λp KJ=>hp.mem_iff.2 (nS.2 ⟨p,KJ,rfl⟩);obtain⟨s2,β2,k1,k2,k3⟩:=LK (bz:=bz) h1 ik PG (λp KJ=>by
   obtain⟨g1,g2,g3,g4⟩:=hL.at_ p KJ (hD p KJ);obtain⟨o,_,ho⟩:=hZ p KJ;exact⟨g1,g2,g3,g4,(mc ho).2.2.2.2.2.2,aac,λi c hc ho=>acX⟩) hnd λp KJ q hqZ=>hL.ne _ (hD p KJ) _ (hD q hqZ)
  have:=hp.length_eq;rw[Ha hp,show m=gm-(nR Z).length by omega];exact tt hQ k1 k3 λβ3 s3 a3 w3 m1 m2 m3=>hK β3 s3 a3 w3 m1 ((hx.trans k2).trans m2) m3
 have VC:Late Z w (λ_=>0) [] [] a w:=⟨λp _ h=>aal,λ_ h=>aal,λ_ h=>aac,λ_ h=>aal,ba _⟩
 have hR0:=Rep.yj (hR.frame (fr':=AH _ st.fr) λi p hl=>by
  cases he:(zSl Z).elem i with
  | true=>rw[(kO (l:=st.fr)).1 he]at hl;cases hl
  | false=>rw[(kO (l:=st.fr)).2 he]at hl;exact⟨p,hl,rfl⟩)
 have he0:Ext st (St.yj (st.oI (zSl Z))):=(Ext.oI _ _).trans (Ext.yj _);rcases mP h with⟨_,h⟩ | ⟨_,h⟩
 ·obtain⟨J,hJ,h⟩:=h;refine RJ hQ hZ hzo hnd (s0:=st) (λmk s β' a' w' bz D m hk he Z0 hL hp hg=>?_) ops.length ops.length (D:=[]) (Pd:=nR Z) h he0 rfl hR0 VC (List.Perm.refl _) rfl;obtain⟨s3,h3,e3,hR3,X6,_⟩:=dV hk Z0;obtain⟨vs,k1,k2⟩:=tq h3 hR3 X6 (.inl (he.trans e3)) (hJ mk);exact two mk _ _ a' w' bz D m k1 Ext.T7 k2 hL hp hg
 exact RJ hQ hZ hzo hnd (s0:=st) (λmk s β' a' w' bz D m hk he Z0 hL hp hg=>two mk s β' a' w' bz D m hk he Z0 hL hp hg) ops.length ops.length (D:=[]) (Pd:=nR Z) h he0 rfl hR0 VC (List.Perm.refl _) rfl
end
inductive Ann where
 | o
 | s (x y:Ann)
 | j (kp:List Nat) (ms:List MI) (x y:Ann)
 | l (jn:Bool) (kp:List Nat) (ms:List MI)
def Ann.x:Ann->Ann
 | .s x _=>x
 | _=>.o
def Ann.y:Ann->Ann
 | .s _ y=>y
 | _=>.o
def Ann.d:Nat->Ann->Ann
 | 0,x=>x
 | n+1,x=>.s .o (d n x)
def ft:Nat:=4000
def neP(k:Nat):List ki->Prop->Prop
 | [],p=>p
 | b::r,p=>bif b.ok&&b.blk.isSome then(k≠b.blk.getD 0->neP k r p)else neP k r p
def JI:List ki->Prop->Prop
 | [],p=>p
 | b::r,p=>bif b.ok&&b.blk.isSome then neP (b.blk.getD 0) r (JI r p)else JI r p
theorem JJ{k}:∀{l:List ki} {p:Prop},neP k l p->(∀i b,dc l i=some b->b.ok=true->b.blk.isSome=true->k≠b.blk.getD 0)->p
 | [],_,h,_=>h
 | b::r,p,h,hb=>by
  unfold neP at h;cases hc:(b.ok&&b.blk.isSome)with
  | true=>
   rw[hc]at h;simp at hc;exact JJ (h (hb 0 b rfl hc.1 hc.2)) λi c hi=>hb (i+1) c hi
  | false=>
   rw[hc]at h;exact JJ h λi c hi=>hb (i+1) c hi
theorem ED:∀{l:List ki} {p:Prop},JI l p->(∀i j bi bj,dc l i=some bi->dc l j=some bj->bi.ok=true->bj.ok=true->bi.blk.isSome=true->bj.blk.isSome=true->i≠j->bi.blk.getD 0≠bj.blk.getD 0)->p
 | [],_,h,_=>h
 | b::r,p,h,hb=>by
  unfold JI at h;have tl:∀{p:Prop},JI r p->p:=λh=>ED h λi j bi bj h1 h2 h3 h4 h5 h6 h7=>hb (i+1) (j+1) bi bj h1 h2 h3 h4 h5 h6 aG;cases hc:(b.ok&&b.blk.isSome)with
  | true=>
   rw[hc]at h;simp at hc;exact tl (JJ h λi c hi h1 h2=>hb 0 (i+1) b c rfl hi hc.1 h1 hc.2 h2 aG)
  | false=>
   rw[hc]at h;exact tl h
def abc(P:Program)(ops:List Oper)(draw:Bool)(st:St)(K:St->Prop):Prop:=
 bif draw then
  bif EA P ops&&Region.lexB .any ops.toArray then exI (JE ops) st λst=>xE P ops ft [] ops st λst=>K {st with mv:=true}
  else bif mbN P ops 0 ops then eZ {st with mv:=true} λst=>JI (bif msN P ops 0 ops then st.bx else[]) (∃S,G5 P ops true (msN P ops 0 ops) S ops.length (Array.replicate ops.length false) st K)
  else G5 P ops false false (λ_=>False) ops.length (Array.replicate ops.length false) {st with mv:=true} K
 else za P ops ft ops st K
def QR(st:St)(K:St->Prop):Exit->Act->ay->Prop:=λe a w=>match e with
 | .normal=>∃β cK,K cK/\Ext st cK/\Rep β cK a w
 | _=>False
theorem Ext.mv s:Ext s {s with mv:=true}:=⟨rfl,ba _,λ_ _ _ h _=>h,λi b h ho _=>⟨b,h,ho,rfl,rfl,rfl,λ_ h=>h⟩,Ra,Gk⟩
theorem Rep.drew{β}{s}{a}{w w'}(h:Rep β s a w)(hO:Only [] w w')(hh:w'.heap=w.heap):Rep β {s with mv:=true} a w':=
 ⟨h.fr,λi b hb ho=>by
  obtain⟨k1,k2,k3⟩:=h.bx i b hb ho;exact⟨by unfold Blk at k1⊢;rw[hh];exact k1,k2,k3⟩,h.ne,h.only.cr hO,λh=>aal⟩
section
variable {P:Program}
theorem LO(hm:P.follows .mixedOrders=true){id}{ops}{draw}{st}{K}{β}{a}{w}(h:abc P ops.toList draw st K)(hR:Rep β st a w):
  (Code.region id ops draw).wp P (QR st K) a w:=by
 obtain⟨l⟩:=ops;rcases mP h with⟨hd,hx⟩ | ⟨hd,hx⟩<;>clear h<;>have h:=hx
 ·subst hd;have Z0:=hR.drew (Only.drewN w 1) rfl;have fin:∀{mb ms:Bool} {S:Nat->Prop} {s1:St},Ext st s1->Rep β s1 a w.drew->G5 P l mb ms S l.length _ s1 K->(Code.region id l.toArray true).wp P (QR st K) a w:=λe1 ik h=>
   GJ _ hm (tt (λc a w hp=>hp) h ik λβ' cK a' w' k1 k2 k3=>⟨β',cK,k1,e1.trans k2,k3⟩)
  rcases mP h with⟨h0,h⟩ | ⟨_,h⟩
  ·simp at h0;obtain⟨s,h1,h2,h3,_⟩:=xH h hR;obtain⟨s2,k1,k2,k3,k4⟩:=rn h1;obtain⟨a',g1,g2⟩:=k4 trivial β a w h3;refine wp_region_quiet_lit hm h0.2 ?_;have:=JA (Q:=λa'=>∀w',(∃n,w'=w.drewN n)->QR st K .normal a' w') (rest:=[]) g1 (wpQuiet_nil (by
    rintro w' ⟨n,rfl⟩;exact⟨β,_,k1,(h2.trans k2).trans (Ext.mv _),g2.drew (Only.drewN w n) rfl⟩))
   simp_all
  rcases mP h with⟨_,h⟩ | ⟨_,h⟩
  ·obtain⟨s1,h0,e1,ik,_⟩:=dV h Z0;have Ja:∀i j bi bj,dc s1.bx i=some bi->dc s1.bx j=some bj->bi.ok=true->bj.ok=true->bi.blk.isSome=true->bj.blk.isSome=true->i≠j->bi.blk.getD 0≠bj.blk.getD 0:=λi j bi bj h1 h2 h3 h4 h5 h6 h7=>by
    obtain⟨k,hk⟩:=dU.1 h5;obtain⟨m,hm⟩:=dU.1 h6;have e1:=(ik.bx i bi h1 h3).at_ k hk;have e2:=(ik.bx j bj h2 h4).at_ m hm;rw[hk,hm,kb,kb];have:=ik.ne i j bi bj h1 h2 h3 h4 h7;omega
   obtain⟨S,h1⟩:=ED h0 (by
    cases msN P l 0 l with
    | true=>exact Ja
    | false=>exact λi j bi bj h1=>by cases i<;>cases h1)
   exact fin ((Ext.mv st).trans e1) ik h1
  exact fin (Ext.mv st) Z0 h
 subst hd;refine wp_region_lit (uc h hR λβ' cK a' w' k1 k2 k3=>⟨β',cK,k1,k2,k3⟩)
def Y1(P:Program)(ops:List Oper)(jn:Bool)(kp:List Nat)(mi:List MI)(st:St)(K:St->Prop):Prop:=
 bif zOk ops (kX P 0 ops)then eZ st.yj λst=>
  (bif mbN P ops 0 ops then JI (bif msN P ops 0 ops then st.bx else[]) (∃S,LM P ops jn kp mi true (msN P ops 0 ops) S (kX P 0 ops) (RM ops (nR (kX P 0 ops)) ops.length (Array.replicate ops.length false)) (Wm (RM ops (nR (kX P 0 ops)) ops.length (Array.replicate ops.length false)).toList) st K)
  else LM P ops jn kp mi false false (λ_=>False) (kX P 0 ops) (RM ops (nR (kX P 0 ops)) ops.length (Array.replicate ops.length false)) (Wm (RM ops (nR (kX P 0 ops)) ops.length (Array.replicate ops.length false)).toList) st K)
 else False
theorem RO(hm:P.follows .mixedOrders=true){id}{ops}{jn}{kp}{mi}{st}{K}{β}{a}{w}(h:Y1 P ops.toList jn kp mi st K)(hR:Rep β st a w):
  (Code.region id ops true).wp P (QR st K) a w:=by
 obtain⟨l⟩:=ops;obtain⟨hz,h⟩:=dD h;obtain⟨s1,h0,e1,ik,PG,_⟩:=dV h (hR.drew (Only.drewN w 1) rfl);have fin:∀{mb ms:Bool} {S:Nat->Prop} {yt:Array Bool} {gm:Nat},LM P l jn kp mi mb ms S _ yt gm s1 K->(Code.region id l.toArray true).wp P (QR st K) a w:=λh=>
  GJ _ hm (RN (λc a w hp=>hp) hz h ik PG λβ' cK a' w' k1 k2 k3=>⟨β',cK,k1,((Ext.yj st).trans e1).trans k2,k3⟩)
 rcases mP h0 with⟨_,h⟩ | ⟨_,h⟩
 ·have Ja:∀i j bi bj,dc s1.bx i=some bi->dc s1.bx j=some bj->bi.ok=true->bj.ok=true->bi.blk.isSome=true->bj.blk.isSome=true->i≠j->bi.blk.getD 0≠bj.blk.getD 0:=λi j bi bj h1 h2 h3 h4 h5 h6 h7=>by
   obtain⟨k,hk⟩:=dU.1 h5;obtain⟨m,hm⟩:=dU.1 h6;have e1:=(ik.bx i bi h1 h3).at_ k hk;have e2:=(ik.bx j bj h2 h4).at_ m hm;rw[hk,hm,kb,kb];have:=ik.ne i j bi bj h1 h2 h3 h4 h7;omega
  obtain⟨S,h1⟩:=ED h (by
   cases msN P l 0 l with
   | true=>exact Ja
   | false=>exact λi j bi bj h1=>by cases i<;>cases h1)
  exact fin h1
 exact fin h
def V(P:Program):Code->Ann->St->(Exit->St->Prop)->Prop
 | .skip,_,st,K=>K .normal st
 | .label _,_,st,K=>K .normal st
 | .exit id,_,st,K=>K (.exit id) st
 | .ret,_,st,K=>K .ret st
 | .region _ ops draw,an,st,K=>(match an with
  | .l jn kp ms=>bif draw then Y1 P ops.toList jn kp ms st (K .normal)else False
  | .j kp ms _ _=>eZ st λst=>∃J,G3 _ J (λvs w=>K .normal (ma st kp ms vs w))/\abc P ops.toList draw st λs=>eZ s λs=>Oq st kp ms J s
  | _=>abc P ops.toList draw st (K .normal))
 | .seq a b,an,st,K=>(match an with
  | .j kp ms x y=>eZ st λst=>∃J,G3 _ J (λvs w=>V P b y (ma st kp ms vs w) K)/\V P a x st λe s=>(match e with
   | .normal=>eZ s λs=>Oq st kp ms J s
   | e=>K e s)
  | an=>V P a an.x st λe s=>(match e with
   | .normal=>V P b an.y s K
   | e=>K e s))
 | .cond c a b,an,st,K=>cj (st.ev c) λt=>(match t with
  | .bl true=>V P a an.x st K
  | .bl false=>V P b an.y st K
  | .bt t=>((t=true->V P a an.x st K)/\(t=false->V P b an.y st K))
  | _=>False)
 | .block id c,an,st,K=>V P c an st λe s=>(match e with
  | .exit ZS=>bif Nat.beq ZS id then K .normal s else K (.exit ZS) s
  | e=>K e s)
 | .loop c,an,st,K=>(match an with
  | .j kp ms x _=>eZ st λst=>(λst=>∃(I:Nat->JT _) (n0:Nat),Oq st kp ms (I n0) st/\∀n,G3 _ (I n) λvs w=>V P c x (ma st kp ms vs w) λe s=>(match e with
   | .normal=>eZ s λs=>∃n',n'<n/\Oq st kp ms (I n') s
   | e=>K e s)) (st.esc (AU st ms))
  | _=>False)
 | _,_,_,_=>False
def QK(st:St)(K:Exit->St->Prop):Exit->Act->ay->Prop:=λe a w=>match e with
 | .normal=>∃β cK,K .normal cK/\Ext st cK/\Rep β cK a w
 | .exit id=>∃β cK,K (.exit id) cK/\Ext st cK/\Rep β cK a w
 | .ret=>∃β cK,K .ret cK/\Ext st cK/\Rep β cK a w
 | _=>False
theorem ug{st Gp}{K}(hx:Ext st Gp):∀e a w,QK Gp K e a w->QK st K e a w:=λe a w h=>by
 cases e<;>first | exact h | (obtain⟨β,cK,h1,h2,h3⟩:=h;exact⟨β,cK,h1,hx.trans h2,h3⟩)
theorem zd(hm:P.follows .mixedOrders=true):∀c {an:Ann} {st:St} {K:Exit->St->Prop} {β:Nat->Nat} {a:Act} {w:ay},V P c an st K->Rep β st a w->c.wp P (QK st K) a w
 | .skip,_,st,K,β,a,w,h,hR=>wp_skip ⟨β,st,h,Ext.refl _,hR⟩
 | .label _,_,st,K,β,a,w,h,hR=>wp_label ⟨β,st,h,Ext.refl _,hR⟩
 | .exit _,_,st,K,β,a,w,h,hR=>wp_exit ⟨β,st,h,Ext.refl _,hR⟩
 | .ret,_,st,K,β,a,w,h,hR=>wp_ret ⟨β,st,h,Ext.refl _,hR⟩
 | .region id ops draw,an,st,K,β,a,w,h,hR=>by
  unfold V at h;split at h
  ·cases draw with
   | false=>exact h.elim
   | true=>
    refine wp_mono (RO hm h hR) λe a' w' hq=>?_;cases e<;>first | exact hq.elim | exact hq
  ·obtain⟨s1,⟨J,hJ,h⟩,e1,ik,_⟩:=dV h hR;refine wp_mono (LO hm h ik) λe a' w' hq=>?_;cases e<;>try exact hq.elim
   obtain⟨β',s2,h2,e2,ZY⟩:=hq;obtain⟨s3,h3,e3,hR3,X6,_⟩:=dV h2 ZY;obtain⟨vs,k1,k2⟩:=tq h3 hR3 X6 (.inl (e2.trans e3)) hJ;exact⟨_,_,k1,e1.trans Ext.T7,k2⟩
  refine wp_mono (LO hm h hR) λe a' w' hq=>?_;cases e<;>first | exact hq.elim | exact hq
 | .seq x y,an,st,K,β,a,w,h,hR=>by
  unfold V at h;split at h
  ·obtain⟨s1,⟨J,hJ,h⟩,e1,ik,_⟩:=dV h hR;refine wp_seq (wp_mono (zd hm x h ik) λe a' w' hq=>?_);cases e with
   | normal=>
    obtain⟨β',s2,h2,e2,ZY⟩:=hq;obtain⟨s3,h3,e3,hR3,X6,_⟩:=dV h2 ZY;obtain⟨vs,k1,k2⟩:=tq h3 hR3 X6 (.inl (e2.trans e3)) hJ;exact wp_mono (zd hm y k1 k2) (ug (e1.trans Ext.T7))
   | exit _=>exact ug e1 _ _ _ hq
   | ret=>exact ug e1 _ _ _ hq
   | _=>exact hq.elim
  refine wp_seq (wp_mono (zd hm x h hR) λe a' w' hq=>?_);cases e with
  | normal=>
   obtain⟨β',s,h1,h2,h3⟩:=hq;exact wp_mono (zd hm y h1 h3) (ug h2)
  | _=>exact hq
 | .cond c x y,an,st,K,β,a,w,h,hR=>by
  obtain⟨t,ht,h⟩:=bC h;have ev:=hR.ev ht;split at h
  ·exact wp_cond_true ev (zd hm x h hR)
  ·exact wp_cond_false ev (zd hm y h hR)
  ·exact wp_cond_split ev (λe=>zd hm x (h.1 e) hR) (λe=>zd hm y (h.2 e) hR)
  exact h.elim
 | .block id c,an,st,K,β,a,w,h,hR=>by
  refine wp_block (wp_mono (zd hm c h hR) λe a' w' hq=>?_);cases e with
  | exit ZS=>
   obtain⟨β',s,h1,h2,h3⟩:=hq;rcases mP h1 with⟨e,h5⟩ | ⟨e,h5⟩
   ·have:=cd e;subst this;exact CZ ⟨β',s,h5,h2,h3⟩
   have gq:¬ZS=id:=λh=>by rw[h]at e;simp at e
   exact Jo (by simpa using gq) ⟨β',s,h5,h2,h3⟩
  | normal=>exact hq
  | ret=>exact hq
  | _=>exact hq.elim
 | .loop c,an,st,K,β,a,w,h,hR=>by
  unfold V at h;split at h
  ·rename_i kp ms x _;obtain⟨s0,hh,e0,hR0,NP,_⟩:=dV h hR;have e1:=e0.trans (Ext.esc s0 (AU s0 ms));have ik:=hR0.esc (AU s0 ms);have PG:(s0.esc (AU s0 ms)).mv=false:=NP;generalize s0.esc (AU s0 ms)=s1 at*
   obtain⟨I,n0,h0,h⟩:=hh;refine wp_loop_ghost (λn a' w'=>∀K,G3 _ (I n) K->∃vs,K vs w'/\Rep _ (ma s1 kp ms vs w') a' w') n0 (λK hK=>tq h0 ik PG (.inl (Ext.refl _)) hK) λn a' w' hI=>?_;obtain⟨vs,k1,k2⟩:=hI _ (h n);refine wp_mono (zd hm c k1 k2) λe a2 w2 hq=>?_;cases e with
   | normal=>
    obtain⟨β2,s2,h2,e2,ZY⟩:=hq;obtain⟨s3,⟨n',hn,h3⟩,e3,hR3,X6,_⟩:=dV h2 ZY;exact⟨n',hn,λK hK=>tq h3 hR3 X6 (.inr ⟨vs,w',e2.trans e3⟩) hK⟩
   | exit _=>exact ug (e1.trans Ext.T7) _ _ _ hq
   | ret=>exact ug (e1.trans Ext.T7) _ _ _ hq
   | _=>exact hq.elim
  exact h.elim
 | .rangeFunc _ _ _ _,_,_,_,_,_,_,h,_=>acP
 | .scope _,_,_,_,_,_,_,h,_=>acP
 | .goto _,_,_,_,_,_,_,h,_=>acP
 | .refuse _,_,_,_,_,_,_,h,_=>acP
def JK(P:Program)(st:St):List ResultVar->Option (List SV)
 | []=>some []
 | .tmp t::r=>(match st.get t,JK P st r with
  | some v,some l=>some (v::l)
  | _,_=>none)
 | .cell p t::r=>(match st.get p,P.underlying t,JK P st r with
  | some (.box i o),some d,some l=>(match dc st.bx i with
   | some b=>bif b.ok&&sz P t ((b.cells.drop o).take (nE P t)).length&&(lX d||Nat.beq ((b.cells.drop o).take (nE P t)).length 1)then some (Og (lX d) ((b.cells.drop o).take (nE P t))::l)else none
   | none=>none)
  | _,_,_=>none)
def abd(P:Program)(rs:List ResultVar)(R:az->ay->Prop)(st:St):Prop:=cj (JK P st rs) λvs=>eZ (st.esc vs) λst=>bif iq (GY st.bx) vs then R (val (I4 st.bx) (AR vs)) st.w0 else False
theorem EF{β}{st}{a}{w}(hR:Rep β st a w):∀{rs:List ResultVar} {vs:List SV},JK P st rs=some vs->Ao P a w rs (cD β vs)
 | [],vs,h=>by simp[JK]at h;subst h;trivial
 | .tmp t::r,vs,h=>by
  simp[JK]at h;split at h
  ·rename_i v l h1 h2;simp at h;subst h;exact⟨hR.get h1,EF hR h2⟩
  cases h
 | .cell p t::r,vs,h=>by
  simp only[JK]at h;split at h
  ·rename_i i o d l h1 h2 h3;split at h
   ·rename_i b hb;obtain⟨h4,rfl⟩:=Ej h;simp only[aR,bU]at h4;obtain⟨⟨mr,hsz⟩,kT⟩:=h4;refine⟨⟨_,hR.get h1,?_⟩,EF hR h3⟩;generalize hl:(b.cells.drop o).take _=q at*
    have hC:Cells w _ (cD β q):=((hR.bx i b hb mr).blk).FL o _ (by
     rw[<-hl];simp only[cD,nC,ra];rw[cJ,pX];simp only[cP,bA];omega)
    have rX:=kG (P:=P) h2 w;cases hd:lX d with
    | true=>
     rw[hd]at rX;have e:=pe hd β q;rw[hd]at e;rw[e];exact Ef rX (pG hsz w) (fF β q) hC
    | false=>
     rw[hd]at rX kT;obtain⟨s,rfl⟩:=AD (kT.resolve_left aac);exact Cv rX (Cells.one hC)
   cases h
  cases h
def Wn:Nat->List SV->List (Nat×Nat×SV)
 | _,[]=>[]
 | i,s::r=>(i,0,s)::Wn (i+1) r
theorem EG β:∀i l,cv β (Wn i l)=Av i (cD β l)
 | _,[]=>rfl
 | i,s::r=>by
  have:=EG β (i+1) r;simp[cv]at this;simp[Wn,cv,cD,Av,this]
def st0(fn:Func)(args:List SV)(w:ay):St:={n:=fn.ntmps,fr:=Wn 0 args,bx:=[],w0:=w,mv:=false,dt:=[],ct:=1,df:=[]}
def kP(P:Program)(f:FuncId)(args:Array az)(w:ay)(Q:az->ay->Prop):Prop:=CallsD P f args .returning w λe u w'=>u=.returning/\∃v,e=.returned v/\Q v w'
def JL(P:Program)(R:az->ay->Prop):List (Nat×List az×List az)->ay->Prop
 | [],w=>R (.tuple #[]) w
 | d::ds,w=>bif Rl P d.1 then kP P d.1 (d.2.1++d.2.2).toArray w λ_ w'=>JL P R ds w' else False
def amk:List ResultVar->Bool
 | []=>true
 | _=>false
def Wo(P:Program)(rs:List ResultVar)(R:az->ay->Prop)(st:St):Prop:=match st.df with
 | []=>abd P rs R st
 | _::_=>bif amk rs then eZ st λst=>JL P R st.df st.w0 else False
def Wp(P:Program)(rs:List ResultVar)(R:az->ay->Prop)(st:St):Prop:=match st.df with
 | []=>abd P rs R st
 | _::_=>False
def Vfn(P:Program)(f:FuncId)(an:Ann)(args:List SV)(R:az->ay->Prop)(w:ay):Prop:=cj (P.funcs[f]?) λfn=>cj fn.body λc=>
 bif Nat.ble args.length fn.ntmps then V P c an (st0 fn args w) λe st=>(match e with
  | .normal=>Wo P fn.results.toList R st
  | .ret=>Wo P fn.results.toList R st
  | _=>False)else False
def Vfd(P:Program)(f:FuncId)(an:Ann)(args:List SV)(R:az->ay->Prop)(w:ay):Prop:=cj (P.funcs[f]?) λfn=>cj fn.body λc=>
 bif Nat.ble args.length fn.ntmps then V P c an (st0 fn args w) λe st=>(match e with
  | .normal=>Wp P fn.results.toList R st
  | .ret=>Wp P fn.results.toList R st
  | _=>False)else False
theorem LP{β}{st}{a}{w}{fn}{R}(h:abd P fn.results.toList R st)(hR:Rep β st a w):∃v,(results fn a.tmps).run P w=.ok v w/\R v w:=by
 obtain⟨vs,hv,h⟩:=bC h;obtain⟨s1,h1,e1,ik,hm,_⟩:=dV h (hR.esc vs);obtain⟨hc,h1⟩:=dD h1;have ho:=EF hR hv;rw[ik.ahT (we hc),<-ik.still hm]at h1;refine⟨_,?_,h1⟩;have Ur:fn.results=fn.results.toList.toArray:=rfl
 match vs,ho,hc with
 | [s],ho,hc=>exact QZ Ur ho
 | [],ho,hc=>
  have e:val β (AR [])=.tuple (cD β []).toArray:=rfl;exact Jp Ur rfl ho
 | s::t::r,ho,hc=>
  have e:val β (AR (s::t::r))=.tuple (cD β (s::t::r)).toArray:=by
   show Value.tuple (qe β _).toArray=_;rw[rl]
  rw[e];exact Jp Ur (rfl) ho
theorem RP args {n} (hk:args.length<=n):(⟨args.toArray++Array.replicate (n-args.toArray.size) undef,[]⟩)=fr n (λ_=>undef) (Av 0 args):=by
 congr 1;apply P7.1;rw[Array.toList_append,Array.toList_replicate,eK];apply gu;intro i;by_cases hi:i<n
 ·rw[iG,jY _ _ _ _ _ hi,bO,xA]
  grind
 rw[cN aae,cN adX]
theorem C5{fn}{tmps}{R}(hr:fn.results.toList=[]):∀{l:List _} {w:ay},JL P R l w->Leaves P fn tmps (λe w'=>∃v,e=.returned v/\R v w') (YN l) .returning w
 | [],w,h=>by
  have Ur:fn.results=([]).toArray:=by rw[<-hr]
  exact⟨_,Jp (a:=⟨tmps,[]⟩) (rs:=[]) (vs:=[]) Ur rfl trivial,_,rfl,h⟩
 | d::ds,w,h=>by
  obtain⟨h0,h⟩:=dD h;refine leaves_cons (λh=>aal) (f:=d.1) (args:=(d.2.1++d.2.2).toArray) ?_ (h.mono ?_)
  ·have:=eU h0 (d.2.1++d.2.2).toArray w;rw[<-List.append_toArray]at this⊢;exact this
  rintro e u w' ⟨rfl,v,rfl,h⟩;exact C5 hr h
theorem He{β}{st}{a}{w}{fn}{R}(h:Wo P fn.results.toList R st)(hR:Rep β st a w):Leaves P fn a.tmps (λe w'=>∃v,e=.returned v/\R v w') a.defers .returning w:=by
 rw[hR.ok.df];unfold Wo at h;split at h
 ·rename_i hd;rw[hd];obtain⟨v,k1,k2⟩:=LP h hR;exact⟨v,k1,v,rfl,k2⟩
 obtain⟨h0,h⟩:=dD h;obtain⟨s1,h1,e1,ik,hm,_⟩:=dV h hR;have hr:fn.results.toList=[]:=by
  cases hc:fn.results.toList with
  | nil=>rfl
  | cons _ _=>rw[hc]at h0;cases h0
 have hdf:s1.df=st.df:=by
  obtain⟨l,hl⟩:=e1.df;have h5:=bm List.length (ik.ok.df.symm.trans hR.ok.df);rw[YN,YN,bA,bA,hl,aW]at h5
  grind
 rw[<-ik.still hm]at h1;rw[<-hdf];exact C5 hr h1
theorem afY(hm:P.follows .mixedOrders=true){f}{an}{args}{R}{w}(h:Vfn P f an args R w):Calls P f (cD β0 args).toArray w λe w'=>∃v,e=.returned v/\R v w':=by
 obtain⟨fn,hf,h⟩:=bC h;obtain⟨c,hb,h⟩:=bC h;obtain⟨hn,h⟩:=dD h;have hR:Rep β0 (st0 fn args w) (fr fn.ntmps _ (Av 0 _)) w:=
  ⟨⟨λ_=>undef,by rw[<-EG];rfl⟩,λi b hb=>aeE,λi j bi bj hb=>aeE,Only.refl _ _,λ_=>rfl⟩
 refine calls_of_wp_defers hf hb ?_;rw[RP _ (by rw[fF];exact cH hn)];refine wp_mono (zd hm c h hR) λe a' w' hq=>?_;cases e with
 | normal=>
  obtain⟨β',s,h1,h2,h3⟩:=hq;exact He h1 h3
 | ret=>
  obtain⟨β',s,h1,h2,h3⟩:=hq;exact He h1 h3
 | exit _=>
  obtain⟨β',s,h1,_⟩:=hq;exact h1.elim
 | _=>exact hq.elim
theorem afZ(hm:P.follows .mixedOrders=true){f}{an}{args}{R}{w}(h:Vfd P f an args R w):kP P f (cD β0 args).toArray w R:=by
 obtain⟨fn,hf,h⟩:=bC h;obtain⟨c,hb,h⟩:=bC h;obtain⟨hn,h⟩:=dD h;have hR:Rep β0 (st0 fn args w) (fr fn.ntmps _ (Av 0 _)) w:=
  ⟨⟨λ_=>undef,by rw[<-EG];rfl⟩,λi b hb=>aeE,λi j bi bj hb=>aeE,Only.refl _ _,λ_=>rfl⟩
 refine(callsD_of_wp (R:=λe w'=>∃v,e=.returned v/\R v w') hf hb ?_).mono (λe u w' h=>h);rw[RP _ (by rw[fF];exact cH hn)];refine wp_mono (zd hm c h hR) λe a' w' hq=>?_;have fin:∀{β':Nat->Nat} {s:St},Wp P fn.results.toList R s->Rep β' s a' w'->_/\a'.defers=[]:=fun{β' s} h hR=>by
  unfold Wp at h;split at h
  ·rename_i hd;exact⟨LP h hR,by rw[hR.ok.df,hd];rfl⟩
  exact h.elim
 cases e with
 | normal=>
  obtain⟨β',s,h1,h2,h3⟩:=hq;obtain⟨⟨v,k1,k2⟩,k3⟩:=fin h1 h3;exact Jq k1 k3 k2
 | ret=>
  obtain⟨β',s,h1,h2,h3⟩:=hq;obtain⟨⟨v,k1,k2⟩,k3⟩:=fin h1 h3;exact Lh k1 k3 k2
 | exit _=>
  obtain⟨β',s,h1,_⟩:=hq;exact h1.elim
 | _=>exact hq.elim
theorem af0{f}{an}{args}{R}{w}{vs}{vc}(hm:P.follows .mixedOrders=true)(hv:vs=(cD β0 args).toArray)(he:vc=Vfn P f an args R w)(h:vc):Calls P f vs w λe w'=>∃v,e=.returned v/\R v w':=by
 subst he hv;exact afY hm h
theorem af1{f}{an}{args}{R}{w}{vs}{vc}(hm:P.follows .mixedOrders=true)(hv:vs=(cD β0 args).toArray)(he:vc=Vfd P f an args R w)(h:vc):kP P f vs w R:=by
 subst he hv;exact afZ hm h
end
end Go.Kt.V
namespace Go.Proofs.YtpbgcbdclnfpnaaGreatDoor.Vc
open Go.Value renaming int->O,string->ah,pointer->ai,agg->aj,tuple->ak,bool->ao
open Go.IntKind renaming i64->ae,wrap->av
open Go.Ending renaming returned->aq
open _root_.ByteArray renaming mk->ar
open _root_.Go.Proofs.Tryz renaming prog->au
open Go.Instr renaming buildSlice->aw
open Go renaming World->ay,Value->az,Calls->aB
open Go.Kt renaming Only->aA,SliceF->aD,Cells->aE,OnlyP->aF,Blk->aH
open Go Go.RowKit Go.Kt Go.Kt.V
abbrev cV(c:Bool)(x y:Prop):Prop:=(c=true->x)/\(c=false->y)
abbrev cB(f:FuncId)(a:Array az)(w:ay)(K:Bool->ay->Prop):Prop:=aB au f a w λe w'=>∃x,e=aq (ao x)/\K x w'
abbrev qZ(s:List Nat)(f:FuncId)(a:Array az)(w:ay)(K:Bool->ay->Prop):Prop:=aB au f a w λe w'=>∃x,e=aq (ao x)/\ci s w w'/\K x w'
abbrev cI(f:FuncId)(a:Array az)(w:ay)(K:Int->ay->Prop):Prop:=aB au f a w λe w'=>∃x,e=aq (O ae x)/\K x w'
abbrev sO(s:List Nat)(f:FuncId)(a:Array az)(w:ay)(K:Int->ay->Prop):Prop:=aB au f a w λe w'=>∃x,e=aq (O ae x)/\ci s w w'/\K x w'
abbrev cS(f:FuncId)(a:Array az)(w:ay)(K:aM->ay->Prop):Prop:=aB au f a w λe w'=>∃x,e=aq (ah x)/\K x w'
abbrev sf(s:List Nat)(f:FuncId)(a:Array az)(w:ay)(K:aM->ay->Prop):Prop:=aB au f a w λe w'=>∃x,e=aq (ah x)/\ci s w w'/\K x w'
abbrev cL(f:FuncId)(a:Array az)(w:ay)(K:Sl->ay->Prop):Prop:=aB au f a w λe w'=>∃x,e=aq (x.v)/\K x w'
abbrev xK(s:List Nat)(f:FuncId)(a:Array az)(w:ay)(K:Sl->ay->Prop):Prop:=aB au f a w λe w'=>∃x,e=aq (x.v)/\ci s w w'/\K x w'
abbrev cU(f:FuncId)(a:Array az)(w:ay)(K:ay->Prop):Prop:=aB au f a w λe w'=>e=aq (ak #[])/\K w'
abbrev gV(s:List Nat)(f:FuncId)(a:Array az)(w:ay)(K:ay->Prop):Prop:=aB au f a w λe w'=>e=aq (ak #[])/\ci s w w'/\K w'
abbrev fY(x:Sem az)(w:ay)(K:Sl->ay->Prop):Prop:=∃l w',x.run au w=.ok (Sl.v l) w'/\K l w'
abbrev nx(k:Nat)(K:aL):Prop:=∃n,n<k/\K n
abbrev nw(w:ay)(K:Nat->ay->Prop):Prop:=∀k w',w.heap.size<=k->k<w'.heap.size->aA [] w w'->K k w'
abbrev lp0(w:ay)(B:(Nat->ay->Prop)->Nat->ay->Prop):Prop:=∃J k,J k w/\∀k w,J k w->B J k w
abbrev uN{α:Type}(x:α)(w:ay)(B:(Nat->α->ay->Prop)->Nat->α->ay->Prop):Prop:=∃J k,J k x w/\∀k x w,J k x w->B J k x w
abbrev Vk{α β:Type}(x:α)(y:β)(w:ay)(B:(Nat->α->β->ay->Prop)->Nat->α->β->ay->Prop):Prop:=∃J k,J k x y w/\∀k x y w,J k x y w->B J k x y w
abbrev JM(X:ay->Prop)(Y:(ay->Prop)->Prop):Prop:=∃J,(∀w,J w->X w)/\Y J
abbrev sP{α:Type}(X:α->ay->Prop)(Y:(α->ay->Prop)->Prop):Prop:=∃J,(∀x w,J x w->X x w)/\Y J
abbrev jn2{α β:Type}(X:α->β->ay->Prop)(Y:(α->β->ay->Prop)->Prop):Prop:=∃J,(∀x y w,J x y w->X x y w)/\Y J
abbrev jn3{α β γ:Type}(X:α->β->γ->ay->Prop)(Y:(α->β->γ->ay->Prop)->Prop):Prop:=∃J,(∀x y z w,J x y z w->X x y z w)/\Y J
abbrev xCB(w:ay)(p:Addr)(K:Bool->Prop):Prop:=∃x0,aE w p [ao x0]/\K x0
abbrev ji(w:ay)(p:Addr)(K:Int->Prop):Prop:=∃x0,aE w p [O ae x0]/\K x0
abbrev qn(w:ay)(p:Addr)(K:Int->Int->aM->Int->Sl->Int->Prop):Prop:=∃x0 x1 x2 x3 x4 x5,aE w p [O ae x0,O ae x1,ah x2,O ae x3,x4.v,O ae x5]/\K x0 x1 x2 x3 x4 x5
abbrev RQ(w:ay)(p:Addr)(K:Int->aM->Int->Int->Prop):Prop:=∃x0 x1 x2 x3,aE w p [O ae x0,ah x1,O ae x2,O ae x3]/\K x0 x1 x2 x3
abbrev ja(w:ay)(p:Addr)(K:Sl->Prop):Prop:=∃x0,aE w p [x0.v]/\K x0
abbrev abe(w:ay)(p:Addr)(K:Sl->Sl->Sl->Sl->Prop):Prop:=∃x0 x1 x2 x3,aE w p [x0.v,x1.v,x2.v,x3.v]/\K x0 x1 x2 x3
abbrev JN(w:ay)(p:Addr)(K:Option Nat->Prop):Prop:=∃x0,aE w p [.map x0]/\K x0
abbrev Wq(w:ay)(p:Addr)(K:Option Addr->Prop):Prop:=∃x0,aE w p [ai x0]/\K x0
abbrev Wr(w:ay)(p:Addr)(K:aM->Prop):Prop:=∃x0,aE w p [ah x0]/\K x0
abbrev xCV(w:ay)(p:Addr)(K:OV->Prop):Prop:=∃x0,aE w p [x0.v]/\K x0
abbrev xKB(w:ay)(b n:Nat)(K:Bool->Prop):Prop:=∃x0,aH w b n [ao x0]/\K x0
abbrev abf(w:ay)(b n:Nat)(K:Bool->Bool->Bool->Bool->Prop):Prop:=∃x0 x1 x2 x3,aH w b n [ao x0,ao x1,ao x2,ao x3]/\K x0 x1 x2 x3
abbrev xKI(w:ay)(b n:Nat)(K:Int->Prop):Prop:=∃x0,aH w b n [O ae x0]/\K x0
abbrev Ov(w:ay)(b n:Nat)(K:Int->Int->Int->aM->Int->Sl->Int->Prop):Prop:=∃x0 x1 x2 x3 x4 x5 x6,aH w b n [O ae x0,O ae x1,O ae x2,ah x3,O ae x4,x5.v,O ae x6]/\K x0 x1 x2 x3 x4 x5 x6
abbrev Ws(w:ay)(b n:Nat)(K:Int->aM->Int->Int->Int->Prop):Prop:=∃x0 x1 x2 x3 x4,aH w b n [O ae x0,ah x1,O ae x2,O ae x3,O ae x4]/\K x0 x1 x2 x3 x4
abbrev Hf(w:ay)(b n:Nat)(K:Int->aM->aM->aM->Sl->Sl->Sl->Sl->Int->Prop):Prop:=∃x0 x1 x2 x3 x4 x5 x6 x7 x8,aH w b n [O ae x0,ah x1,ah x2,ah x3,x4.v,x5.v,x6.v,x7.v,O ae x8]/\K x0 x1 x2 x3 x4 x5 x6 x7 x8
abbrev EH(w:ay)(b n:Nat)(K:Sl->Prop):Prop:=∃x0,aH w b n [x0.v]/\K x0
abbrev iu(w:ay)(b n:Nat)(K:Sl->Int->Int->Int->Int->Int->Int->Int->Int->Prop):Prop:=∃x0 x1 x2 x3 x4 x5 x6 x7 x8,aH w b n [x0.v,O ae x1,O ae x2,O ae x3,O ae x4,O ae x5,O ae x6,O ae x7,O ae x8]/\K x0 x1 x2 x3 x4 x5 x6 x7 x8
abbrev Hg(w:ay)(b n:Nat)(K:Sl->Int->Int->Int->Int->Sl->Prop):Prop:=∃x0 x1 x2 x3 x4 x5,aH w b n [x0.v,O ae x1,O ae x2,O ae x3,O ae x4,x5.v]/\K x0 x1 x2 x3 x4 x5
abbrev nT(w:ay)(b n:Nat)(K:Sl->Int->aM->aM->aM->Sl->Sl->Sl->Sl->Int->Prop):Prop:=∃x0 x1 x2 x3 x4 x5 x6 x7 x8 x9,aH w b n [x0.v,O ae x1,ah x2,ah x3,ah x4,x5.v,x6.v,x7.v,x8.v,O ae x9]/\K x0 x1 x2 x3 x4 x5 x6 x7 x8 x9
abbrev amm(w:ay)(b n:Nat)(K:Sl->Sl->Prop):Prop:=∃x0 x1,aH w b n [x0.v,x1.v]/\K x0 x1
abbrev xL(w:ay)(b n:Nat)(K:Sl->Sl->Sl->Sl->Prop):Prop:=∃x0 x1 x2 x3,aH w b n [x0.v,x1.v,x2.v,x3.v]/\K x0 x1 x2 x3
abbrev tu(w:ay)(b n:Nat)(K:Sl->Sl->Sl->Sl->Sl->Sl->Prop):Prop:=∃x0 x1 x2 x3 x4 x5,aH w b n [x0.v,x1.v,x2.v,x3.v,x4.v,x5.v]/\K x0 x1 x2 x3 x4 x5
abbrev EI(w:ay)(b n:Nat)(K:Option Nat->Sl->Option Nat->Int->Int->Prop):Prop:=∃x0 x1 x2 x3 x4,aH w b n [.map x0,x1.v,.map x2,O ae x3,O ae x4]/\K x0 x1 x2 x3 x4
abbrev RR(w:ay)(b n:Nat)(K:Option Addr->Prop):Prop:=∃x0,aH w b n [ai x0]/\K x0
abbrev me(w:ay)(b n:Nat)(K:Option Addr->Sl->Bool->Int->Prop):Prop:=∃x0 x1 x2 x3,aH w b n [ai x0,x1.v,ao x2,O ae x3]/\K x0 x1 x2 x3
abbrev LQ(w:ay)(b n:Nat)(K:Option Addr->Sl->Sl->Prop):Prop:=∃x0 x1 x2,aH w b n [ai x0,x1.v,x2.v]/\K x0 x1 x2
abbrev xKS(w:ay)(b n:Nat)(K:aM->Prop):Prop:=∃x0,aH w b n [ah x0]/\K x0
abbrev abg(w:ay)(b n:Nat)(K:aM->Int->Prop):Prop:=∃x0 x1,aH w b n [ah x0,O ae x1]/\K x0 x1
abbrev A0(w:ay)(b n:Nat)(K:aM->Int->Sl->Sl->Prop):Prop:=∃x0 x1 x2 x3,aH w b n [ah x0,O ae x1,x2.v,x3.v]/\K x0 x1 x2 x3
abbrev xKV(w:ay)(b n:Nat)(K:OV->Prop):Prop:=∃x0,aH w b n [x0.v]/\K x0
abbrev xYB(s:Sl)(i:Int)(w:ay)(K:Bool->Prop):Prop:=∃p,dE s i 1 p/\∃x0,aE w p [ao x0]/\K x0
abbrev xq(s:Sl)(i:Int)(w:ay)(K:Int->Prop):Prop:=∃p,dE s i 1 p/\∃x0,aE w p [O ae x0]/\K x0
abbrev C6(s:Sl)(i:Int)(w:ay)(K:Int->Int->Int->aM->Int->Sl->Int->Prop):Prop:=∃p,dE s i 7 p/\∃x0 x1 x2 x3 x4 x5 x6,aE w p [O ae x0,O ae x1,O ae x2,ah x3,O ae x4,x5.v,O ae x6]/\K x0 x1 x2 x3 x4 x5 x6
abbrev mR(s:Sl)(i:Int)(w:ay)(K:Int->Int->aM->Int->Sl->Int->Prop):Prop:=∃p,dE s i 6 p/\∃x0 x1 x2 x3 x4 x5,aE w p [O ae x0,O ae x1,ah x2,O ae x3,x4.v,O ae x5]/\K x0 x1 x2 x3 x4 x5
abbrev amo(s:Sl)(i:Int)(w:ay)(K:Int->Sl->Prop):Prop:=∃p,dE s i 2 p/\∃x0 x1,aE w p [O ae x0,x1.v]/\K x0 x1
abbrev nc(s:Sl)(i:Int)(w:ay)(K:Int->aM->Int->Bool->Int->Int->aM->Int->Sl->Int->Sl->Sl->Int->Prop):Prop:=∃p,dE s i 13 p/\∃x0 x1 x2 x3 x4 x5 x6 x7 x8 x9 x10 x11 x12,aE w p [O ae x0,ah x1,O ae x2,ao x3,O ae x4,O ae x5,ah x6,O ae x7,x8.v,O ae x9,x10.v,x11.v,O ae x12]/\K x0 x1 x2 x3 x4 x5 x6 x7 x8 x9 x10 x11 x12
abbrev RS(s:Sl)(i:Int)(w:ay)(K:Int->aM->Int->Int->Prop):Prop:=∃p,dE s i 4 p/\∃x0 x1 x2 x3,aE w p [O ae x0,ah x1,O ae x2,O ae x3]/\K x0 x1 x2 x3
abbrev EJ(s:Sl)(i:Int)(w:ay)(K:Int->aM->Int->Int->Int->Prop):Prop:=∃p,dE s i 5 p/\∃x0 x1 x2 x3 x4,aE w p [O ae x0,ah x1,O ae x2,O ae x3,O ae x4]/\K x0 x1 x2 x3 x4
abbrev yH(s:Sl)(i:Int)(w:ay)(K:Int->aM->Int->Int->aM->Int->Sl->Int->Int->Prop):Prop:=∃p,dE s i 9 p/\∃x0 x1 x2 x3 x4 x5 x6 x7 x8,aE w p [O ae x0,ah x1,O ae x2,O ae x3,ah x4,O ae x5,x6.v,O ae x7,O ae x8]/\K x0 x1 x2 x3 x4 x5 x6 x7 x8
abbrev jQ(s:Sl)(i:Int)(w:ay)(K:Int->aM->aM->aM->Sl->Sl->Sl->Sl->Int->Prop):Prop:=∃p,dE s i 9 p/\∃x0 x1 x2 x3 x4 x5 x6 x7 x8,aE w p [O ae x0,ah x1,ah x2,ah x3,x4.v,x5.v,x6.v,x7.v,O ae x8]/\K x0 x1 x2 x3 x4 x5 x6 x7 x8
abbrev xYL(s:Sl)(i:Int)(w:ay)(K:Sl->Prop):Prop:=∃p,dE s i 1 p/\∃x0,aE w p [x0.v]/\K x0
abbrev Qe(s:Sl)(i:Int)(w:ay)(K:aM->Prop):Prop:=∃p,dE s i 1 p/\∃x0,aE w p [ah x0]/\K x0
abbrev Y2(s:Sl)(i:Int)(w:ay)(K:aM->Int->Int->Prop):Prop:=∃p,dE s i 3 p/\∃x0 x1 x2,aE w p [ah x0,O ae x1,O ae x2]/\K x0 x1 x2
end Go.Proofs.YtpbgcbdclnfpnaaGreatDoor.Vc
