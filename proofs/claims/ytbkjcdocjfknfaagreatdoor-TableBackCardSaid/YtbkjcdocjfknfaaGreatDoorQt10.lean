import Derived.Test.YtbkjcdocjfknfaaGreatDoorQt9
set_option linter.unusedSectionVars false
namespace Go.Proofs.YtbkjcdocjfknfaaGreatDoor.Con
open Go.Value renaming int->O,string->ab,pointer->ae,agg->ah,tuple->ai,bool->aj
open Go.IntKind renaming i64->U,wrap->ar
open Go.Ending renaming returned->ak
open _root_.ByteArray renaming mk->ao
open _root_.Go.Proofs.Tryz renaming prog->aq
open Go.Instr renaming buildSlice->au
open Go renaming World->av,Value->aw,Calls->az
open Go.Kt renaming Only->ay,SliceF->aA,Cells->aB,OnlyP->aD,Blk->aF
open Go Go.RowKit Go.Kt Go.Kt.V Go.Proofs.YtbkjcdocjfknfaaGreatDoor.Vc
set_option linter.unusedSimpArgs false
set_option linter.unusedVariables false
set_option maxHeartbeats 4000000
set_option maxRecDepth 100000
section
def Bu(w:av)(b k:Nat):Prop:=∃n c,w.cell? ⟨b,1,none⟩=some (.slice (some ⟨k,0,none⟩) n c)
structure Mw (f:Bool) (b:Nat) (w w':av):Prop where
 o:aD (fun k=>k=b∨(f=false/\Bu w b k)) w w'
 u:∀k,Bu w' b k->Bu w b k∨(f=false/\w.heap.size<=k)
abbrev St:=Bool×Int
structure Qz (w0:av) (b:Nat) (w:av) (l:aH) (st:St):Prop where
 o:ay [] w0 w
 lo:w0.heap.size<=b
 ex:∃(q:Option Addr) (sl:Sl),(q=none∨q=some ⟨b,0,none⟩)/\aF w b 245 [ae q,sl.v,aj st.1,O U st.2]/\Bf w (b+1) sl l
 i:st.1=false->0<=st.2/\st.2<=400
 big:l.length<=274877906944
structure Up (st:St) (c:Bool) (n:Nat) (cn:St):Prop where
 w:cn.1=((st.1||!c)||decide (400<st.2+n))
 a:cn.1=false->cn.2=st.2+n
theorem or3{a b c:Bool}(h:false=((a||!b)||c)):a=false/\b=true/\c=false:=by
 revert h;cases a<;>cases b<;>cases c<;>decide
theorem Up.ok{st cn:St}{c:Bool}{n:Nat}(h:Up st c n cn)(e:cn.1=false):st.1=false/\c=true/\cn.2=st.2+n/\¬400<st.2+(n:Int):=by
 obtain⟨a,b,d⟩:=or3 (e.symm.trans h.w);exact⟨a,b,h.a e,aU d⟩
theorem Up.tr{st cn WN:St}{c c':Bool}{n n':Nat}(h:Up st c n cn)(k:Up cn c' n' WN):Up st (c&&c') (n+n') WN:=by
 cases e:WN.1 with
 | false=>
  obtain⟨k1,k2,k3,k4⟩:=k.ok e;obtain⟨h1,h2,h3,h4⟩:=h.ok k1;have h5:¬400<st.2+((n+n':Nat):Int):=by omega
  refine⟨?_,fun _=>by omega⟩;rw[e,h1,h2,k2,bq h5];rfl
 | true=>
  refine⟨?_,fun e2=>by rw[e]at e2;cases e2⟩;rw[e];refine Eq.symm (ch fun hn=>?_);obtain⟨a1,a2,a3⟩:=or3 (dL.2 hn).symm;rw[aR]at a2;have a3:=aU a3;have h5:¬400<st.2+(n:Int):=by omega
  have e1:cn.1=false:=by rw[h.w,a1,a2.1,bq h5];rfl
  have e2:=h.a e1;have h6:¬400<cn.2+(n':Int):=by omega
  have:=k.w;rw[e,e1,a2.2,bq h6]at this;cases this
theorem Up.cg{st cn:St}{c c':Bool}{n n':Nat}(h:Up st c n cn)(e:c=c')(en:n=n'):Up st c' n' cn:=by subst e en;exact h
theorem Up.le{st cn:St}{c:Bool}{n:Nat}(h:Up st c n cn)(h0:st.1=false->0<=st.2)(e:cn.1=false):0<=cn.2/\cn.2<=400:=by
 obtain⟨a,b,d,h2⟩:=h.ok e;have:=h0 a;omega
section
variable {f g:Bool} {w0 ws w w' w1 sA:av} {b k:Nat} {l l':aH} {st cn:St} {ks ks':List Nat}
theorem Mw.refl(f:Bool)(b:Nat)(w:av):Mw f b w w:=⟨OnlyP.refl _ _,fun _ h=>.inl h⟩
theorem Mw.trans(h:Mw f b w w')(k:Mw f b w' sA):Mw f b w sA:=by
 have z:=h.o.size;refine⟨h.o.trans k.o fun x hx=>?_,fun x hx=>?_⟩
 ·rcases hx with hx | ⟨ef,hx⟩
  ·exact .inl (.inl hx)
  ·rcases h.u x hx with e | ⟨_,e⟩
   ·exact .inl (.inr ⟨ef,e⟩)
   ·exact .inr e
 ·rcases k.u x hx with e | ⟨ef,e⟩
  ·exact h.u x e
  ·exact .inr ⟨ef,by omega⟩
theorem Mw.up(h:Mw f b w w'):Mw false b w w':=⟨h.o.mono fun k _ hk=>hk.elim .inl fun e=>.inr ⟨rfl,e.2⟩,fun k hk=>(h.u k hk).elim .inl fun e=>.inr ⟨rfl,e.2⟩⟩
theorem Mw.aaj(h:Mw true b w w'):ay [b] w w':=h.o.aad fun k hk=>hk.elim (fun e=>.inl (by rw[e];simp)) fun e=>(by cases e.1)
theorem tI(h:w'.heap[b]? =w.heap[b]?){k:Nat}(hb:Bu w' b k):Bu w b k:=by
 obtain⟨n,c,hc⟩:=hb;refine⟨n,c,?_⟩;unfold World.cell? at hc⊢;rw[h]at hc;exact hc
theorem Qz.lb(h:Qz w0 b w l st):b<w.heap.size:=by
 obtain⟨q,sl,_,hB,_⟩:=h.ex;exact hB.lt
theorem Qz.arg(h:Qz w0 b w l st)(h':Qz w0 b w' l' cn){k:Nat}(hk:k<w0.heap.size):w'.heap[k]? =w.heap[k]? :=(h'.o.block k hk (by simp)).trans (h.o.block k hk (by simp)).symm
theorem Mw.only(hb:b<w.heap.size)(h:ay [] w w'):Mw f b w w':=⟨h.p0,fun k hk=>.inl (tI (h.block b hb (by simp)) hk)⟩
theorem HJ{q v2 v3:aw}{t:TypeId}{sl:Sl}(hB:aF w b t [q,sl.v,v2,v3]){k:Nat}(h:Bu w b k):sl.a=some ⟨k,0,none⟩:=by
 obtain⟨n,c,hc⟩:=h;have:=Blk.dT hB 1 rfl 0 sl.v rfl;have e:(Addr.add ⟨b,0,none⟩ 1).add 0=⟨b,1,none⟩:=by simp[Addr.add]
 rw[e,hc]at this;have:(Value.slice (some ⟨k,0,none⟩) n c)=.slice sl.a sl.n sl.c:=Option.some.inj this;injection this with e1 _ _;exact e1.symm
theorem DB{q v2 v3:aw}{t:TypeId}{sl:Sl}(hB:aF w b t [q,sl.v,v2,v3]){k:Nat}(h:sl.a=some ⟨k,0,none⟩):Bu w b k:=by
 have:=Blk.dT hB 1 rfl 0 sl.v rfl;have e:(Addr.add ⟨b,0,none⟩ 1).add 0=⟨b,1,none⟩:=by simp[Addr.add]
 rw[e]at this;refine⟨sl.n,sl.c,?_⟩;rw[this,<-h]
theorem Qz.bu(h:Qz w0 b w l st){k:Nat}(hk:Bu w b k):b<k/\k<w.heap.size:=by
 obtain⟨q,sl,_,hB,hb⟩:=h.ex;have:=hb.lt (HJ hB hk);omega
theorem Qz.only(h:Qz w0 b w l st)(hO:ay [] w w'):Qz w0 b w' l st:=by
 obtain⟨q,sl,hq,hB,hb⟩:=h.ex;exact⟨h.o.cp hO,h.lo,⟨q,sl,hq,hO.blk hB (by simp),hb.keep fun g _ hl=>hO.block g hl (by simp)⟩,h.i,h.big⟩
structure Zq (f:Bool) (w0 ws:av) (b:Nat) (w:av) (l:aH) (st:St) (ks:List Nat):Prop extends Qz w0 b w l st where
 m:Mw f b ws w
 k:∀k,k∈ks->k<w.heap.size/\k≠b/\¬Bu w b k
theorem Qz.z(f:Bool)(h:Qz w0 b w l st):Zq f w0 w b w l st []:=⟨h,Mw.refl f b w,fun k hk=>(by cases hk)⟩
theorem Zq.q(t:Zq f w0 ws b w l st ks)(hO:ay [] w w'):Zq f w0 ws b w' l st ks:=by
 have hb:=t.toQz.lb;refine⟨t.toQz.only hO,t.m.trans (Mw.only hb hO),fun k hk=>?_⟩;obtain⟨h1,h2,h3⟩:=t.k k hk;exact⟨cb h1 hO.size,h2,fun h=>h3 (tI (hO.block b hb (by simp)) h)⟩
theorem Zq.al(t:Zq f w0 ws b w l st ks)(hO:ay [] w w')(h1:w.heap.size<=k)(h2:k<w'.heap.size):Zq f w0 ws b w' l st (k::ks):=by
 have hb:=t.toQz.lb;have t':=t.q hO;refine⟨t'.toQz,t'.m,fun x hx=>?_⟩;rcases aQ.1 hx with rfl | hx
 ·exact⟨h2,by omega,fun h=>by have:=(t.toQz.bu (tI (hO.block b hb (by simp)) h)).2;omega⟩
 ·exact t'.k x hx
theorem Zq.nx(t:Zq f w0 ws b w l st ks)(p:Qz w0 b w' l' cn)(m:Mw f b w w'):Zq f w0 ws b w' l' cn ks:=by
 refine⟨p,t.m.trans m,fun k hk=>?_⟩;obtain⟨h1,h2,h3⟩:=t.k k hk;exact⟨cb h1 m.o.size,h2,fun h=>(m.u k h).elim h3 fun e=>by have:=e.2;omega⟩
theorem Zq.sq(t:Zq f w0 ws b w l st ks)(hO:ay [] w w')(hk:∀k,k∈ks'->k∈ks):bS ks' w w':=hO.same fun x hx=>⟨(t.k x (hk x hx)).1,by simp⟩
theorem Zq.sm(t:Zq f w0 ws b w l st ks)(m:Mw g b w w')(hk:∀k,k∈ks'->k∈ks):bS ks' w w':=m.o.same fun x hx=>⟨(t.k x (hk x hx)).1,fun h=>h.elim (t.k x (hk x hx)).2.1 fun e=>(t.k x (hk x hx)).2.2 e.2⟩
theorem Zq.sj(t:Zq f w0 ws b w l st ks)(hz:w.heap.size<=w1.heap.size)(h:aD (fun k=>w.heap.size<=k) w1 w')(hk:∀k,k∈ks'->k∈ks):bS ks' w1 w':=h.same fun x hx=>by
 have:=(t.k x (hk x hx)).1;exact⟨by omega,by omega⟩
theorem Zq.row(t:Zq true w0 ws b w l st ks)(hb:b<ws.heap.size)(hu:∀k,Bu ws b k->k<ws.heap.size)(hO:aD (fun k=>ws.heap.size<=k) w w'):Zq true w0 ws b w' l st ks:=by
 have hB:=t.toQz.lb;have hlo:=t.lo;have hkb:∀k,Bu w b k->Bu ws b k:=fun k hk=>(t.m.u k hk).elim id fun e=>(by cases e.1)
 have KC:=hO.block b hB (by omega);obtain⟨q,sl,hq,hBl,hbf⟩:=t.ex;refine⟨⟨⟨hO.os.trans t.o.os,hO.tape.trans t.o.tape,hO.output.trans t.o.output,bh t.o.size hO.size,fun k hk _=>(hO.block k (cb hk t.o.size) (by omega)).trans (t.o.block k hk (by simp))⟩,hlo,⟨q,sl,hq,KC.trans hBl,hbf.keep fun g hg hl=>hO.block g hl fun e=>(by have:=hu g (hkb g (DB hBl hg));omega)⟩,t.i,t.big⟩,⟨t.m.o.trans hO fun k hk=>.inr hk,fun k hk=>.inl (hkb k (tI KC hk))⟩,fun k hk=>?_⟩;obtain⟨h1,h2,h3⟩:=t.k k hk;exact⟨cb h1 hO.size,h2,fun h=>h3 (tI KC h)⟩
theorem bL.of{ks:List Nat}(h:bS ks w w'):bL (fun k=>k∈ks) w w':=fun k hk _=>h k hk
theorem ql{w2:av}(h1:ay [] w w1)(h2:aD (fun k=>w.heap.size<=k) w1 w2):ay [] w w2:=(h1.oZ h2).only fun _ h=>h
end
theorem MQ(w:av)(ws:List (aH)){n:Nat}{parts:Array (Nat×aw)}(hp:parts=(((ws.map fun x=>Value.string (T x)).zipIdx 0).map fun x=>(x.2,x.1)).toArray)(hn:ws.length=n)(h0:0<n)(wx:n*1<=16777216):
  ∃(q:Sl) (w1:av) (g:Nat) (cs:aI),(au 31 n parts).run aq w=.ok q.v w1/\ay [] w w1/\w.heap.size<=g/\g<w1.heap.size/\aF w1 g 9 cs/\
   ∀(i:Nat) x,ws[i]? =some x->dy q (i:Int) 1 ⟨g,i,none⟩/\∀w',aF w' g 9 cs->aB w' ⟨g,i,none⟩ [ab (T x)]:=by
 obtain⟨q,w1,k1,k2,k3⟩:=lZ w ws hp hn h0 wx;rcases k2 with⟨_,e⟩ | ⟨g,css,tail,a1,a2,a4,a5,a6,a7,a9,a8⟩
 ·subst e;simp at hn;omega
 ·have N0:=Fs a8;refine⟨q,w1,g,_,k1,k3,a2,a4.lt,a4,fun i x hx=>⟨⟨⟨g,0,none⟩,a1,bm i,?_,?_⟩,fun w' hB=>Blk.Tf hB i ?_⟩⟩
  ·have:=(aY.1 hx).1;omega
  ·rw[eU,aZ,iR,bJ]
  ·have:(ws.map fun x=>Value.string (T x))[i]? =some (ab (T x)):=by rw[cF,hx];rfl
   rw[N0,bM (aY.1 this).1,this]
section
variable {w0 w:av} {b:Nat} {l:aH} {st:St}
theorem Fw(b j:Nat):(Addr.add ⟨b,0,none⟩ j:Addr)=⟨b,j,none⟩:=by rw[eU,bJ]
theorem Qz.set(h:Qz w0 b w l st):∃(q:Option Addr) (sl:Sl),aF w b 245 [ae q,sl.v,aj st.1,O U st.2]/\
  ∀(w':av) (cn:St),ay [b] w w'->aF w' b 245 [ae q,sl.v,aj cn.1,O U cn.2]->(cn.1=false->0<=cn.2/\cn.2<=400)->Qz w0 b w' l cn/\Mw true b w w':=by
 obtain⟨q,sl,hq,hB,hb⟩:=h.ex;refine⟨q,sl,hB,fun w1 IE cA vw hi=>⟨⟨⟨cA.os.trans h.o.os,cA.tape.trans h.o.tape,cA.output.trans h.o.output,bh h.o.size cA.size,fun k hk _=>(cA.block k (cb hk h.o.size) (by have:=h.lo;simp;omega)).trans (h.o.block k hk (by simp))⟩,h.lo,⟨q,sl,hq,vw,hb.keep fun g hg hl=>cA.block g hl (by have:=(hb.lt hg).1;simp;omega)⟩,hi,h.big⟩,?_⟩⟩;exact⟨cA.p fun x hx=>.inl (.inl (by simpa using hx)),fun k hk=>.inl (DB hB (HJ vw hk))⟩
theorem Qz.VD(h:Qz w0 b w l st):Up st true 0 st:=by
 refine⟨?_,fun _=>by simp⟩;cases e:st.1
 ·have:=(h.i e).2;have h2:¬400<st.2+((0:Nat):Int):=by omega
  rw[bq h2];rfl
 ·rfl
theorem HK{q:Option Addr}{sl:Sl}{wr:Bool}{ac:Int}(hB:aF w b 245 [ae q,sl.v,aj wr,O U ac])(ok:Bool):az aq 169 #[rp b,aj ok] w fun e w'=>
  e=ak (ai #[])/\ay [b] w w'/\aF w' b 245 [ae q,sl.v,aj (wr||!ok),O U ac]:=by
 refine ret (aeR _ _ _ _ ?_);exact⟨wr,Blk.dT hB 2 rfl,b,2,_,_,Fw b 2,hB,by simp,fun w1 cA vw=>⟨rfl,cA,vw⟩⟩
theorem iH(h:Qz w0 b w l st)(ok:Bool):az aq 169 #[rp b,aj ok] w fun e w'=>e=ak (ai #[])/\∃cn,Up st ok 0 cn/\Qz w0 b w' l cn/\Mw true b w w':=by
 obtain⟨q,sl,hB,D8⟩:=h.set;refine(HK hB ok).mono ?_;rintro _ w1 ⟨rfl,cA,vw⟩;have hu:Up st ok 0 (st.1||!ok,st.2):=by
  refine⟨?_,fun e=>by simp⟩;cases e:st.1
  ·have:=(h.i e).2;have h2:¬400<st.2+((0:Nat):Int):=by omega
   rw[bq h2,Bool.or_false]
  ·simp
 exact⟨rfl,_,hu,D8 w1 _ cA vw fun e=>hu.le (fun e=>(h.i e).1) e⟩
theorem kA(h:Qz w0 b w l st)(s:aH)(hs:s.length<9223372036854775807):az aq 171 #[rp b,ab (T s)] w fun e w'=>e=ak (ab (T s))/\∃cn,Up st (dM s) 0 cn/\Qz w0 b w' l cn/\Mw true b w w':=by
 refine ret (aeS _ _ _ _ ?_);refine(Md s hs).mono ?_;rintro _ w1 ⟨rfl,cA⟩;refine⟨_,rfl,(iH (h.only cA) _).mono ?_⟩;rintro _ w2 ⟨rfl,cn,h1,h2,h3⟩;exact⟨rfl,rfl,cn,h1,h2,(Mw.only h.lb cA).trans h3⟩
theorem HL(h:Qz w0 b w l st){F:aJ}{x:Ex}{cs:aI}(hx:rE false w F x cs)(hn:UK x)(hs:zx x<=1759218604441)(hE:Er w0)(hT:Tb w0):
  az aq 233 #[rp b,ah cs.toArray] w fun e w'=>e=ak (ab (T (zy x)))/\∃cn,Up st (xG x) 0 cn/\Qz w0 b w' l cn/\Mw true b w w':=by
 obtain⟨xs,rfl⟩:=gR hx;refine ret (ae3 _ _ _ _ _ _ _ _ _ ?_);intro k0 w1 gH eW cA;have t1:=(h.z true).al cA gH eW;refine(QE ((gQ false).keep hx fun k _ bQ=>cA.block k bQ (by simp)) hn hs (hE.only t1.o) (hT.only t1.o)).mono ?_;rintro _ w2 ⟨rfl,cR⟩;have t2:=t1.q cR;refine⟨_,rfl,t1.sq cR (by simp),(iH t2.toQz _).mono ?_⟩;rintro _ w3 ⟨rfl,cn,h1,h2,h3⟩;rw[show ao #[]=T []from rfl,kH]at h1;have e:(!decide (zy x=[]))=xG x:=by unfold xG;rw[decide_not]
 rw[e]at h1;exact⟨rfl,t2.sm h3 (by simp),rfl,cn,h1,h2,(t2.nx h2 h3).m⟩
theorem HM(h:Qz w0 b w l st){F:aJ}{x:Ex}{cs:aI}(hx:rE false w F x cs):
  az aq 234 #[rp b,ah cs.toArray] w fun e w'=>e=ak (ai #[])/\∃cn,Up st (vj x) 0 cn/\Qz w0 b w' l cn/\Mw true b w w':=by
 have eH:∃xs:Sl,cs=oO x.k x.n x.s x.op xs x.a/\xs.n=x.eN.length:=by
  obtain⟨d,hx⟩:=hx;cases d with
  | zero=>exact hx.elim
  | succ d=>
   obtain⟨sl,h1,h2,_⟩:=hx;exact⟨sl,h1,h2.len⟩
 obtain⟨xs,rfl,hl⟩:=eH;refine ret (ae2 _ _ _ _ _ _ _ _ _ ?_);intro k0 w1 gH eW cA;have t1:=(h.z true).al cA gH eW;refine(iH t1.toQz _).mono ?_;rintro _ w3 ⟨rfl,cn,h1,h2,h3⟩;rw[show ao #[]=T []from rfl,kH,hl]at h1;exact⟨rfl,t1.sm h3 (by simp),rfl,cn,h1,h2,(t1.nx h2 h3).m⟩
theorem HN(h:Qz w0 b w l st):az aq 174 #[rp b] w fun e w'=>e=ak (aj (decide (16384<l.length)))/\w'=w:=by
 refine ret (aeV _ _ _ ?_);obtain⟨q,sl,hq,hB,hb⟩:=h.ex;refine(Sv _ (fun v w'=>v=O U (l.length:Int)/\w'=w) w ?_).mono ?_
 ·rw[Fw];exact⟨sl,Blk.dT hB 1 rfl,by rw[hb.len],rfl⟩
 ·rintro _ w1 ⟨v,rfl,rfl,rfl⟩;refine⟨_,rfl,?_,rfl⟩;congr 1;rw[bT];simp;omega
end
def Jw(a:Ac):Nat:=zx a.x+(a.n.length+1)
def ir:List Ac->Nat
 | []=>0
 | a::l=>Jw a+ir l
theorem xO{a:Ac}:∀{l:List Ac},a∈l->Jw a<=ir l
 | [],h=>by simp at h
 | x::l,h=>by
  rw[ir];rcases aQ.1 h with rfl | h
  ·omega
  ·have:=xO h;omega
theorem kT:∀(l:List Ac),l.length<=ir l
 | []=>bp _
 | a::l=>by
  have:=kT l;rw[ir,bf];unfold Jw;omega
def DC(l:List (aH)):Nat:=(l.map fun s=>s.length+1).sum
def Fx(m:Mv):Nat:=(ir m.acts+zx m.g)+(DC m.tg+(m.ev.length+1))
theorem HO(x:Ex):(zy x).length<=16384:=by
 by_cases h:zy x=[]
 ·rw[h];exact bp _
 ·obtain⟨h1,h2,h3⟩:=Mx h;refine ch fun hc=>?_;have e:zy x=sK (B1 x) x false []:=h2;rw[<-e]at h3;unfold mG at h3;have:cW (zy x)=([],2, -1):=by rw[cW,if_pos (by omega)]
  rw[this,if_pos (by decide)]at h3;exact absurd h3 (show ¬(2:Int)=0 by decide)
theorem oS{s:aH}(h:dM s=true):ne s=true:=by
 unfold dM at h;simp only[aR]at h;have:=(aP h.1.1.1).1;unfold ne;rw[bq this];rfl
theorem ZW{x:Ex}(h:xG x=true):ne (zy x)=true:=by
 unfold ne;rw[bq (aP h)];rfl
theorem mO{x:aH}(h:ne x=true)(ws:List (aH)):eV (x::ws)=x++Lib.joinTail [32] (ws.filter ne):=by
 unfold eV;rw[oo,h,if_pos rfl,Lib.join_cons]
theorem eK(x:aH)(r:List (aH)):Lib.joinTail [32] (x::r)=32::(x++Lib.joinTail [32] r):=by
 unfold Lib.joinTail;rw[bE,cY];rfl
theorem kf:Lib.joinTail [32] []=[]:=rfl
theorem eL{x:aH}(h:ne x=true)(ws:List (aH)):(x::ws).filter ne=x::ws.filter ne:=by rw[oo,h,if_pos rfl]
theorem MR(ws:List (aH)):([]::ws).filter ne=ws.filter ne:=by rw[oo,if_neg (by decide)]
def O9(a:Ac):List (aH):=if a.k=2 then[jH,a.n]else[if a.k=1 then rc else lk,a.n,[61],zy a.x]
theorem SY{a:Ac}(h:lc a=true):eV (O9 a)++[59]=Kv a:=by
 unfold lc at h;simp only[aR]at h;obtain⟨⟨h1,h2⟩,h3⟩:=h;unfold O9 Kv;by_cases hk:a.k=2
 ·rw[if_pos hk,if_pos hk,mO (by decide),eL (oS h2),dG,eK,kf];simp
 ·rw[if_neg hk]at h3;have hw:ne (if a.k=1 then rc else lk)=true:=by split<;>decide
  rw[if_neg hk,if_neg hk,mO hw,eL (oS h2),eL (by decide),eL (ZW h3),dG,eK,eK,eK,kf];simp
theorem QO(a:Ac):(eV (O9 a)).length<=16398+a.n.length:=by
 refine bh (gr _) ?_;have:=HO a.x;unfold O9;split
 ·simp only[bE,dV,cj,fY];show 5+1+(a.n.length+1+0)<=_;omega
 ·simp only[bE,dV,cj,fY];have:(if a.k=1 then rc else lk).length<=4:=by split<;>decide
  show _+1+(a.n.length+1+(1+1+(_+1+0)))<=_;omega
section
variable {w0 w:av} {b:Nat} {l:aH} {st:St}
theorem ZX(h:Qz w0 b w l st){F:aJ}{a:Ac}{cs:aI}(hx:pj false w F a cs)(hF:∀k,F k->k<w0.heap.size)(hn:SO a)(hs:Jw a<=1759218604441)(hE:Er w0)(hT:Tb w0):
  az aq 232 #[rp b,ah cs.toArray] w fun e w'=>∃s cn,e=ak (ab (T s))/\s.length<=16400+a.n.length/\(lc a=true->s=Kv a)/\Up st (lc a) 0 cn/\Qz w0 b w' l cn/\Mw true b w w':=by
 obtain⟨xc,rfl,hx⟩:=hx;obtain⟨xs,rfl⟩:=gR hx;unfold Jw at hs;refine(ae1 ⟨b,0,none⟩ a.k (T a.n) a.x.k a.x.n (T a.x.s) a.x.op xs a.x.a a.a (fun v w'=>∃s cn,v=ab (T s)/\s.length<=16400+a.n.length/\(lc a=true->s=Kv a)/\Up st (lc a) 0 cn/\Qz w0 b w' l cn/\Mw true b w w') w ?_).mono (by
  rintro e w' ⟨v,rfl,s,cn,rfl,h⟩;exact⟨s,cn,rfl,h⟩)
 intro k0 w1 gH eW cA;have t1:=(h.z true).al cA gH eW;obtain⟨q,w2,g,cs,e1,cR,hg1,hg2,qY,VE⟩:=MQ w1 [[],rc,jH,lk] (n:=4) (parts:=#[.mk 0 (ab (ao #[])),.mk 1 (ab (ao #[115,101,116])),.mk 2 (ab (ao #[114,97,105,115,101])),.mk 3 (ab (ao #[101,109,105,116]))]) rfl rfl (by decide) (by decide);have t2:=t1.al cR hg1 hg2;have tail:=QO a;refine⟨q,w2,e1,t1.sq cR (by simp),fun hc=>?_,fun hc=>?_⟩
 ·refine(iH t2.toQz false).mono ?_;rintro _ w3 ⟨rfl,cn,u1,u2,u3⟩;have hk:lc a=false:=by
   unfold lc;have:¬(1<=a.k/\a.k<=3):=by
    simp only[cD,bW]at hc;omega
   rw[bq this];rfl
  exact⟨rfl,t2.sm u3 (by simp),[],cn,rfl,bp _,fun e=>(by rw[hk]at e;cases e),by rw[hk];exact u1,u2,(t2.nx u2 u3).m⟩
 have Kb:1<=a.k/\a.k<=3:=by
  simp only[pb,fK]at hc;omega
 have hwd:∀x,[[],rc,jH,lk][a.k.toNat]? =some x->dy q a.k 1 ⟨g,a.k.toNat,none⟩/\∀w',aF w' g 9 cs->aB w' ⟨g,a.k.toNat,none⟩ [ab (T x)]:=fun x hx=>by
  have:=VE _ x hx;rwa[kG (by omega)]at this
 refine⟨fun mB=>?_,fun mB w8 fp=>?_⟩
 ·have hk:a.k=2:=by simpa using mB
  have hW:O9 a=[jH,a.n]:=by unfold O9;rw[if_pos hk]
  refine(HM t2.toQz ((gQ false).keep hx fun k hk _=>h.arg t2.toQz (hF k hk))).mono ?_;rintro _ w3 ⟨rfl,WO,u1,u2,u3⟩;have t3:=t2.nx u2 u3;refine⟨rfl,t2.sm u3 (by simp),fun w4 dA=>⟨fun k=>k∈[k0,g],by simp,?_⟩⟩;have t4:=t3.q dA;obtain⟨y1,y2⟩:=hwd jH (by rw[hk];rfl);have ub:aF w4 g 9 cs:=(t3.sq (ks':=[g]) dA (by simp) g (by simp)).trans ((t2.sm (ks':=[g]) u3 (by simp) g (by simp)).trans qY);refine⟨_,y1,by simp,_,y2 w4 ub,(kA t4.toQz a.n (by omega)).mono ?_⟩;rintro _ w5 ⟨rfl,RQ,v1,v2,v3⟩;have t5:=t4.nx v2 v3;obtain⟨q6,w6,e6,eh,_,hj⟩:=zD w5 [jH,a.n] (n:=2) (parts:=#[.mk 0 (ab (T jH)),.mk 1 (ab (T a.n))]) rfl rfl (by decide) (by decide) (by rw[<-hW];omega);have z6:=eh.size;refine⟨_,rfl,t4.sm v3 (by simp),bL.of (t4.sm v3 (by simp)),q6,w6,e6,t5.sq eh (by simp),bL.of (t5.sq eh (by simp)),hj.mono ?_⟩;rintro _ w7 ⟨rfl,hP7⟩;have fm:=ql eh hP7;have t7:=t5.q fm;have hU:=u1.tr v1;have ul:lc a=(vj a.x&&dM a.n):=by
   unfold lc;rw[if_pos hk,bI Kb,dk,Bool.and_comm]
  rw[<-ul]at hU;rw[<-hW];refine⟨_,rfl,t5.sj z6 hP7 (by simp),bL.of (t5.sj z6 hP7 (by simp)),by rw[de];omega,eV (O9 a)++[59],RQ,by rw[show ao #[59]=T [59]from rfl,jT],by rw[aO,bK];omega,fun ul=>SY ul,hU,t7.toQz,t7.m⟩
 ·have hk:a.k≠2:=by simpa using mB
  have hW:O9 a=[if a.k=1 then rc else lk,a.n,[61],zy a.x]:=by unfold O9;rw[if_neg hk]
  have t8:=t2.q fp;obtain⟨y1,y2⟩:=hwd (if a.k=1 then rc else lk) (by
   by_cases h1:a.k=1
   ·rw[if_pos h1,h1];rfl
   ·rw[if_neg h1,show a.k=3 by omega];rfl)
  have vT:aF w8 g 9 cs:=(t2.sq (ks':=[g]) fp (by simp) g (by simp)).trans qY;refine⟨fun k=>k∈[k0,g],by simp,_,y1,by simp,_,y2 w8 vT,by simp,(kA t8.toQz a.n (by omega)).mono ?_⟩;rintro _ w9 ⟨rfl,WQ,u1,u2,u3⟩;have t9:=t8.nx u2 u3;refine⟨_,rfl,t8.sm u3 (by simp),bL.of (t8.sm u3 (by simp)),(HL t9.toQz ((gQ false).keep hx fun k hk _=>h.arg t9.toQz (hF k hk)) hn (by omega) hE hT).mono ?_⟩;rintro _ dw ⟨rfl,ah6,v1,v2,v3⟩;have t10:=t9.nx v2 v3;obtain⟨XY,dr,e11,dS,_,hj⟩:=zD dw [if a.k=1 then rc else lk,a.n,[61],zy a.x] (n:=4) (parts:=#[.mk 0 (ab (T (if a.k=1 then rc else lk))),.mk 1 (ab (T a.n)),.mk 2 (ab (T [61])),.mk 3 (ab (T (zy a.x)))]) rfl rfl (by decide) (by decide) (by rw[<-hW];omega);have BS:=dS.size;refine⟨_,rfl,t9.sm v3 (by simp),bL.of (t9.sm v3 (by simp)),XY,dr,e11,t10.sq dS (by simp),bL.of (t10.sq dS (by simp)),hj.mono ?_⟩;rintro _ dX ⟨rfl,WR⟩;have eM:=ql dS WR;have t12:=t10.q eM;have hU:=u1.tr v1;have ul:lc a=(dM a.n&&xG a.x):=by
   unfold lc;rw[if_neg hk,bI Kb,dk]
  rw[<-ul]at hU;rw[<-hW];refine⟨_,rfl,t10.sj BS WR (by simp),bL.of (t10.sj BS WR (by simp)),by rw[de];omega,eV (O9 a)++[59],ah6,by rw[show ao #[59]=T [59]from rfl,jT],by rw[aO,bK];omega,fun ul=>SY ul,hU,t12.toQz,t12.m⟩
end
theorem Up.bad{st cn:St}{c c':Bool}{n n':Nat}(h:Up st c n cn)(e:cn.1=true)(hc:c'=true->c=true)(hn:n<=n'):Up st c' n' cn:=by
 refine⟨?_,fun e2=>by rw[e]at e2;cases e2⟩;rw[e];refine Eq.symm (ch fun hk=>?_);obtain⟨a1,a2,a3⟩:=or3 (dL.2 hk).symm;have a3:=aU a3;have:=h.w;rw[e,a1,hc a2,bq (show ¬400<st.2+(n:Int) by omega)]at this;cases this
theorem tJ:∀(l m:List Ac),ir (l++m)=ir l+ir m
 | [],m=>by rw[cf];show _=0+_;omega
 | a::l,m=>by rw[bZ,ir,ir,tJ l m];omega
theorem U1(a:Ac):ne (Kv a)=true:=by
 have:Kv a≠[]:=by unfold Kv;split<;>simp
 unfold ne;rw[bq this];rfl
theorem MS:∀l:List Ac,Lib.joinTail [32] ((l.map Kv).filter ne)=QF l
 | []=>rfl
 | a::l=>by rw[bE,eL (U1 a),eK,MS l,QF]
theorem U2(x y:List (aH)):Lib.joinTail [32] (x++y)=Lib.joinTail [32] x++Lib.joinTail [32] y:=by
 unfold Lib.joinTail;rw[cN,BZ]
theorem ZY(l:List Ac):eV ([123]::(l.map Kv++[[125]]))=CD l:=by
 rw[mO (by decide),gz,U2,MS];rfl
theorem SZ{w:av}{B:Nat}{s:Sl}{ws:List (aH)}(h:Own im 1 9 B w (fun _=>True) s ws)(x:aH)(hB:B<=w.heap.size)(hm:ws.length<=1073741824):
  ∃y w1,(au 31 1 #[.mk 0 (ab (T x))]).run aq w=.ok (Sl.v y) w1/\ay [] w w1/\∃s' w2,(Builtin.append_ #[31,31] 31 #[Sl.v s,Sl.v y]).run aq w1=.ok (Sl.v s') w2/\
   Own im 1 9 B w2 (fun _=>True) s' (ws++[x])/\∃gs,ay gs w1 w2/\∀g,g∈gs->s.a=some ⟨g,0,none⟩/\B<=g:=by
 obtain⟨y,w1,e1,cA,s',w2,e2,od,⟨gs,cR,rJ⟩,_⟩:=ja (P:=aq) (t:=31) (ty:=31) (e:=9) (i:=Tryz.t9) (bytes:=16) (size:=1) (v:=ab (T x)) (x:=x) (G:=fun _=>False) (by kernel_rfl) (by kernel_rfl) rfl rfl rfl rfl (by decide) (by decide) (by decide) cG h hB rfl rfl (fun k hk _=>hk.elim) (by omega);exact⟨y,w1,e1,cA,s',w2,e2,od.mono cG fun k _=>trivial,gs,cR,fun g hg=>⟨(rJ g hg).1,(rJ g hg).2.1⟩⟩
theorem _root_.Go.Kt.Own.far{w w':av}{B b:Nat}{s:Sl}{ws:List (aH)}(h:Own im 1 9 B w (fun _=>True) s ws)(hO:ay [b] w w')(hb:b<B):Own im 1 9 B w' (fun _=>True) s ws:=by
 rcases h with⟨rfl,rfl⟩ | ⟨g,css,tail,h1,h2,h4,h5,h6,h7,h9,h8⟩
 ·exact .inl ⟨rfl,rfl⟩
 ·have e:∀{l:List (aH)} {css:List (aI)},kY im 1 w (fun k=>True/\k≠g) l css->kY im 1 w' (fun k=>True/\k≠g) l css:=fun{l}=>by
   induction l with
   | nil=>intro css h;cases css with | nil=>trivial | cons _ _=>exact h
   | cons x l ih=>intro css h;cases css with | nil=>exact h | cons c css=>exact⟨h.1,ih h.2⟩
  exact .inr ⟨g,css,tail,h1,h2,hO.blk h4 (by simp;omega),h5,h6,h7,h9,e h8⟩
theorem MT{α:Type}{p:α->Bool}{xs:List α}{j:Nat}(h:xs.all p=true):(xs.take j).all p=true:=by
 rw[eb]at h⊢;exact fun x hx=>h x (List.mem_of_mem_take hx)
theorem DD(ws:List (aH))(x:aH):((ws++[x]).map fun l=>l.length+1).sum=(ws.map fun l=>l.length+1).sum+(x.length+1):=by
 rw[cN,List.sum_append];simp
section
variable {w0 w:av} {b:Nat} {l:aH} {st:St}
theorem Bc(h:Qz w0 b w l st){F:aJ}{s:Sl}{xs:List Ac}(hx:aA (pj false) 9 w F s xs)(hF:∀k,F k->k<w0.heap.size)(hn:∀a,a∈xs->SO a)(hs:ir xs<=16777216)(hE:Er w0)(hT:Tb w0):
  az aq 208 #[rp b,s.v] w fun e w'=>∃t cn,e=ak (ab (T t))/\t.length<=16405*ir xs/\(cn.1=false->t=if xs=[]then[]else CD xs)/\Up st (xs.all lc) xs.length cn/\Qz w0 b w' l cn/\Mw true b w w':=by
 refine(ae0 ⟨b,0,none⟩ s (fun v w'=>∃t cn,v=ab (T t)/\t.length<=16405*ir xs/\(cn.1=false->t=if xs=[]then[]else CD xs)/\Up st (xs.all lc) xs.length cn/\Qz w0 b w' l cn/\Mw true b w w') w ?_).mono (by
  rintro e w' ⟨v,rfl,s,cn,rfl,h⟩;exact⟨s,cn,rfl,h⟩)
 have eH:=hx.len;have hlz:=kT xs;refine⟨fun hc=>?_,fun hc=>?_⟩
 ·have hc:s.n=0:=by have:((s.n:Int))=0:=(by simpa using hc);omega
  have:xs=[]:=ca (by omega);subst this;exact⟨[],st,rfl,bp _,fun _=>(if_pos rfl).symm,h.VD,h,Mw.refl _ _ _⟩
 have gL:xs≠[]:=fun e=>by
  subst e;have:s.n=0:=eH;rw[this]at hc;exact absurd hc (by decide)
 obtain⟨q,sl,hB,D8⟩:=h.set;refine⟨st.2,Blk.dT hB 3 rfl,b,3,_,_,Fw b 3,hB,by simp,fun w1 cA vw=>⟨_,Blk.dT vw 3 rfl,(HK (q:=q) (sl:=sl) (wr:=st.1) (ac:=ar U (st.2+(s.n:Int))) vw _).mono ?_⟩⟩;rintro _ w2 ⟨rfl,cR,qY⟩;have hU1:Up st true xs.length (st.1||!decide (ar U (st.2+(s.n:Int))<=400),ar U (st.2+(s.n:Int))):=by
  cases e:st.1
  ·have:=h.i e;have ew:ar U (st.2+(s.n:Int))=st.2+xs.length:=by rw[eH];exact fQ (by omega) (by omega)
   rw[ew];refine⟨?_,fun _=>rfl⟩;rw[e];by_cases h4:st.2+(xs.length:Int)<=400
   ·rw[bI h4,bq (by omega)];rfl
   ·rw[bq h4,bI (by omega)];rfl
  ·exact⟨by rw[e];rfl,fun e2=>by cases e2⟩
 obtain⟨h2,IC⟩:=D8 w2 _ (cA.trans cR fun x hx=>.inl hx) qY fun e=>hU1.le (fun e=>(h.i e).1) e;generalize (st.1||!decide (ar U (st.2+(s.n:Int))<=400),ar U (st.2+(s.n:Int)))=IE at*
 have b2:=h2.lb;have VL:∀k,Bu w2 b k->k<w2.heap.size:=fun k hk=>(h2.bu hk).2;obtain⟨q3,w3,e3,dl,ah7,_⟩:=zD w2 [[123]] (n:=1) (parts:=#[.mk 0 (ab (T [123]))]) rfl rfl (by decide) (by decide) (by decide);have t3:=(h2.z true).q dl;refine⟨rfl,q3,w3,e3,fun l1 w'=>∃ws cn,Own im 1 9 w2.heap.size w' (fun _=>True) l1 ws/\ws.length<=16777217/\(ws.map fun l=>l.length+1).sum<=2+16401*ir xs/\(cn.1=false->ws=[123]::xs.map Kv)/\Up IE (xs.all lc) 0 cn/\Zq true w0 w2 b w' l cn [],?_,?_⟩
 ·rintro l1 w4 ⟨ws,Ga,WS,hwl,hws,htx,hU4,t4⟩;have z4:=t4.m.o.size;obtain⟨y,w5,e5,eJ,s6,w6,e6,ah8,gs,eh,rJ⟩:=SZ WS [125] z4 (by omega);refine⟨y,w5,e5,s6,w6,e6,?_⟩;have t6:=(t4.q eJ).row b2 VL (eh.p (F:=fun k=>w2.heap.size<=k) fun x hx=>.inl (rJ x hx).2);have Kg:=DD ws [125];have lK:=gr (ws++[[125]]);have hl1:([125]:aH).length=1:=rfl;refine(xK ah8 (by omega) (by rw[aO,bK];omega)).mono ?_;rintro _ w7 ⟨rfl,hP7⟩;have t7:=t6.row b2 VL hP7;have hsz:1<=ir xs:=by
   have:1<=xs.length:=pJ.2 gL;omega
  refine⟨_,rfl,eV (ws++[[125]]),Ga,rfl,by omega,fun e=>?_,(hU1.tr hU4).cg (by simp) (by simp),t7.toQz,IC.trans t7.m⟩;rw[if_neg gL,htx e];exact ZY xs
 refine⟨fun nv l1 i w'=>∃(j:Nat) (ws:List (aH)) (cn:St),i=j/\j<=xs.length/\nv=xs.length-j/\Own im 1 9 w2.heap.size w' (fun _=>True) l1 ws/\ws.length<=j+1/\(ws.map fun l=>l.length+1).sum<=2+16401*ir (xs.take j)/\(cn.1=false->ws=[123]::(xs.take j).map Kv)/\Up IE ((xs.take j).all lc) 0 cn/\Zq true w0 w2 b w' l cn [],
  xs.length,⟨0,[[123]],IE,rfl,bp _,rfl,ah7,aV _,aV _,fun _=>rfl,h2.VD,t3⟩,?_⟩
 rintro nv l4 _ w7 ⟨j,ws,TI,rfl,hj,rfl,RR,hwl,hws,htx,IL,t7⟩;have z7:=t7.m.o.size;have N1:ir xs=ir (xs.take j)+ir (xs.drop j):=by rw[<-tJ,dD]
 refine⟨fun hc=>?_,fun hc=>?_⟩
 ·have bQ:(j:Int)<s.n:=aP hc;have hx7:aA (pj false) 9 w7 F s xs:=SliceF.keep (cV false) hx (by decide) fun k hk _=>h.arg t7.toQz (hF k hk);obtain⟨ad,a,cs,g1,g2,g3,g4,g5,g6⟩:=hx7.get (bm j) bQ;rw[aZ]at g2;have ha:=bG g2;have pM:xs.take (j+1)=xs.take j++[a]:=by
   rw[bH,g2];rfl
  have hsa:ir (xs.take (j+1))=ir (xs.take j)+Jw a:=by
   rw[pM,tJ];show _+(Jw a+0)=_;omega
  have akN:ir xs=ir (xs.take (j+1))+ir (xs.drop (j+1)):=by rw[<-tJ,dD]
  obtain⟨xc,rfl,hxc⟩:=g6;obtain⟨xl,rfl⟩:=gR hxc;refine⟨ad,g1,_,_,_,_,_,_,_,_,_,g5,fun k5 w8 zT Eh fp=>?_⟩;have t8:=t7.al fp zT Eh;obtain⟨q8,sl8,vT,_⟩:=t8.toQz.set;refine⟨TI.1,Blk.dT vT 2 rfl,fun hw=>?_,fun hw=>?_⟩
  ·have t8':Zq true w0 w2 b w8 l TI []:=⟨t8.toQz,t8.m,fun k hk=>(by cases hk)⟩
   have F9:=RR.keep cG fun k hk bQ=>fp.block k bQ (by simp);exact⟨ws,TI,F9,by omega,by omega,fun e=>absurd (hw.symm.trans e) (by decide),IL.bad hw MT (aV _),t8'⟩
  refine(ZX t8.toQz ((cV false).keep ⟨_,rfl,hxc⟩ fun k _ bQ=>fp.block k bQ (by simp)) hF (hn a ha) (by have:=xO ha;omega) hE hT).mono ?_;rintro _ w9 ⟨tx,WQ,rfl,hl9,ah9,TJ,h9,Yb⟩;have t9:=t8.nx h9 Yb;have aia:∀g,l4.a=some ⟨g,0,none⟩->w2.heap.size<=g/\g<w7.heap.size:=fun g hg=>by
   rcases RR with⟨rfl,_⟩ | ⟨g',css,tl,a1,a2,a4,_⟩
   ·cases hg
   ·rw[a1]at hg;injection hg with hg;injection hg with hg;subst hg;exact⟨a2,a4.lt⟩
  have aib:Own im 1 9 w2.heap.size w9 (fun _=>True) l4 ws:=by
   have o1:=RR.keep cG (w':=w8) fun k hk bQ=>fp.block k bQ (by simp);refine(o1.mono (G:=fun _=>True) cG fun _ _=>trivial).far Yb.aaj b2
  obtain⟨y,dw,e10,dR,FU,dr,e11,OK,gs,dS,rJ⟩:=SZ aib tx (bh z7 (bh fp.size Yb.o.size)) (by omega);have t10:=t9.q dR;have t11:=t10.row b2 VL (dS.p (F:=fun k=>w2.heap.size<=k) fun x hx=>.inl (rJ x hx).2);have FU:bS [k5] dw dr:=dS.same fun x hx=>by
   have:=(t10.k x (by simpa using hx)).1;refine⟨this,fun hm=>?_⟩;have:=(aia x (rJ x hm).1).2;simp only[aN]at hx;omega
  have Kg:=DD ws tx;refine⟨_,rfl,t8.sm Yb (by simp),y,dw,e10,t9.sq dR (by simp),_,dr,e11,FU,xs.length-(j+1),by omega,j+1,ws++[tx],WQ,by rw[fQ (by omega) (by omega)];rfl,by omega,rfl,OK,by rw[aO,bK];omega,?_,fun e=>?_,(IL.tr TJ).cg ?_ rfl,⟨t11.toQz,t11.m,fun k hk=>(by cases hk)⟩⟩
  ·rw[Kg,hsa];have:16400+a.n.length+1<=16401*Jw a:=by unfold Jw;omega
   omega
  ·obtain⟨e1,e2,_⟩:=TJ.ok e;rw[htx e1,ah9 e2,pM,cN];rfl
  ·rw[pM,wB];simp
 ·have sP:¬(j:Int)<s.n:=aU hc;have og:j=xs.length:=by omega
  subst og;rw[bA (aV _)]at hws htx IL;exact⟨ws,TI,RR,by omega,hws,htx,IL,t7⟩
end
theorem afY{w:av}{F:aJ}{s:Sl}{xs:List (aH)}(h:aA im 1 w F s xs)(sep:aH)(hl:(Lib.join xs sep).length<=140737488355328)(hn:xs.length<=140737488355328):
  az aq 228 #[s.v,ab (T sep)] w fun e w'=>e=ak (ab (T (Lib.join xs sep)))/\ay [] w w':=by
 have eH:=h.len;have mY:=h.cap;obtain⟨sa,sn,sc⟩:=s;dsimp only at eH mY;subst eH;cases xs with
 | nil=>
  refine(Tryz.strings_Join_none sa sc (T sep) w).mono ?_;rintro _ w2 ⟨rfl,rfl⟩;exact⟨rfl,Only.refl _ _⟩
 | cons x xs=>
  obtain⟨base,cs,g1,g2,g3,g4,g5⟩:=h.at_ 0 x rfl;have g1:sa=some base:=g1;unfold im at g5;subst g5 g1;have h0:=g4 0 _ rfl;have Kh:base.spot=none:=by
   unfold World.cell? at h0;split at h0
   ·split at h0
    ·cases h0
    ·rename_i hs;have e:((base.add (0*1)).add 0).spot=base.spot:=rfl;rw[e]at hs;cases hb:base.spot with
     | none=>rfl
     | some v=>rw[hb]at hs;simp at hs
   ·cases h0
  obtain⟨bk,o,sp⟩:=base;dsimp only at Kh;subst Kh;have bQ:bk<w.heap.size:=by
   have e:((Addr.add ⟨bk,o,none⟩ (0*1)).add 0:Addr)=⟨bk,o,none⟩:=by simp[Addr.add]
   rw[e]at h0;refine ch fun hn=>?_;unfold World.cell? at h0;rw[dU (by dsimp only;omega)]at h0;cases h0
  have:=Tryz.strings_Join bk o sc ((x::xs).map T) (T sep) w (fun j y hj=>by
   rw[cF,fg]at hj;obtain⟨z,hz,rfl⟩:=hj;obtain⟨base,cs,g1,g2,g3,g4,g5⟩:=h.at_ j z hz;unfold im at g5;subst g5;cases g1;have:=g4 0 _ rfl;have e:((Addr.add ⟨bk,o,none⟩ (j*1)).add 0:Addr)=⟨bk,o+j,none⟩:=by simp[Addr.add]
   rw[e]at this;exact this) bQ (by rw[bC];omega) (by rw[bC];omega) (by
   rw[ii];have:((fun x:aK=>x.data.toList)∘T)=id:=rfl;rw[this,Kq];exact hl)
  rw[bC]at this;refine this.mono ?_;rintro _ w2 ⟨rfl,hB⟩;refine⟨?_,Only.below hB⟩;rw[ii];have:((fun x:aK=>x.data.toList)∘T)=id:=rfl;rw[this,Kq]
theorem HP:∀l:List (aH),Lib.joinTail [44,32] l=UL l
 | []=>rfl
 | s::l=>by
  unfold Lib.joinTail;rw[bE,cY];show[44,32]++s++Lib.joinTail [44,32] l=_;rw[HP l];rfl
theorem HQ(s:aH)(l:List (aH)):(Lib.join (s::l) [44,32]).length<=2*DC (s::l):=by
 have h1:∀l:List (aH),(UL l).length<=2*DC l:=fun l=>by
  induction l with
  | nil=>exact bp _
  | cons s l ih=>
   unfold DC at ih⊢;rw[bE,cj,UL,bf,bf,aO];omega
 rw[Lib.join_cons,HP,aO];have:=h1 l;have e:DC (s::l)=(s.length+1)+DC l:=by unfold DC;rw[bE,cj]
 omega
theorem wk(l:List (aH)):l.length<=DC l:=by
 unfold DC
 induction l with
 | nil=>exact bp _
 | cons s l ih=>rw[bE,cj,bf];omega
theorem QP{s:aH}{l:List (aH)}(h:s∈l):s.length+1<=DC l:=by
 unfold DC
 induction l with
 | nil=>simp at h
 | cons x l ih=>
  rw[bE,cj];rcases aQ.1 h with rfl | h
  ·omega
  ·have:=ih h;omega
def S0(m:Mv):aH:=if m.k=1 then eV [Fc,m.ev]else if m.k=3 then eV [jj,Lib.itoa m.wt]else jf
def U3(m:Mv):aH:=if m.gd then 91::(zy m.g++[93])else[]
def Kw(m:Mv):aH:=match m.tg with
 | []=>[]
 | s::l=>45::62::32::(s++UL l)
theorem DE{n:Int}(h:rn n):(Lib.itoa n).length<=21:=Lib.itoa_length_le n h.1 h.2
theorem QQ(n:Int):ne (Lib.itoa n)=true:=by
 have:Lib.itoa n≠[]:=by
  unfold Lib.itoa;split
  ·simp
  ·rw[Lib.decDigits];split<;>simp
 unfold ne;rw[bq this];rfl
theorem MU{m:Mv}(h:yR m=true):eV [S0 m,U3 m,(if m.acts=[]then[]else CD m.acts),Kw m]++[59]=O5 m:=by
 unfold yR at h;simp only[aR]at h;obtain⟨⟨⟨⟨⟨h1,h2⟩,h3⟩,h4⟩,h5⟩,h6⟩:=h;have hh:S0 m=hdT m/\ne (S0 m)=true:=by
  unfold S0 hdT;by_cases k1:m.k=1
  ·rw[if_pos k1]at h2;rw[if_pos k1,if_pos k1,mO (by decide),eL (oS h2),dG,eK,kf,bN];exact⟨rfl,rfl⟩
  ·rw[if_neg k1,if_neg k1];by_cases k3:m.k=3
   ·rw[if_pos k3,if_pos k3,mO (by decide),eL (QQ _),dG,eK,kf,bN];exact⟨rfl,rfl⟩
   ·rw[if_neg k3,if_neg k3];exact⟨rfl,by decide⟩
 rw[mO hh.2,hh.1];unfold O5;rw[bF];congr 1;have e1:Lib.joinTail [32] ([U3 m,(if m.acts=[]then[]else CD m.acts),Kw m].filter ne)=gdT m++((if m.acts=[]then[]else 32::CD m.acts)++(match m.tg with
  | []=>[]
  | s::l=>32::45::62::32::(s++UL l))):=by
  have eg:∀ws:List (aH),Lib.joinTail [32] ((U3 m::ws).filter ne)=gdT m++Lib.joinTail [32] (ws.filter ne):=fun ws=>by
   unfold U3 gdT;cases m.gd
   ·simp only[iX,iI];rw[MR];rfl
   ·simp only[if_true];rw[eL (by rfl),eK];rfl
  have ea:∀ws:List (aH),Lib.joinTail [32] (((if m.acts=[]then[]else CD m.acts)::ws).filter ne)=(if m.acts=[]then[]else 32::CD m.acts)++Lib.joinTail [32] (ws.filter ne):=fun ws=>by
   by_cases ha:m.acts=[]
   ·rw[if_pos ha,if_pos ha,MR];rfl
   ·rw[if_neg ha,if_neg ha,eL (by rfl),eK];rfl
  rw[eg,ea];congr 2;unfold Kw;cases m.tg with
  | nil=>rfl
  | cons s l=>
   rw[eL (by rfl),eK,dG,kf,bN]
 rw[e1];simp only[bF]
 all_goals rfl
theorem mvB(m:Mv):((((if m.k=1 then dM m.ev else if m.k=3 then decide (0<=m.wt)else decide (m.k=2))&&((decide (m.ev=[])||(m.k==1))&&((m.wt==0)||(m.k==3))))&&(if m.gd then xG m.g else vj m.g))&&(m.tg.all dM&&m.acts.all lc))=yR m:=by
 unfold yR;generalize (if m.gd then xG m.g else vj m.g)=A;generalize m.tg.all dM=B;generalize m.acts.all lc=C;generalize dM m.ev=D;by_cases k1:m.k=1
 ·rw[if_pos k1,if_pos k1,k1];cases D<;>cases A<;>cases B<;>cases C<;>by_cases hw:m.wt=0<;>simp[hw]
 ·rw[if_neg k1,if_neg k1];by_cases k3:m.k=3
  ·rw[if_pos k3,k3];cases A<;>cases B<;>cases C<;>by_cases he:m.ev=[]<;>by_cases hw:m.wt=0<;>by_cases hp:0<m.wt<;>simp[hw,he,hp]<;>omega
  ·rw[if_neg k3];by_cases k2:m.k=2
   ·rw[k2];cases A<;>cases B<;>cases C<;>by_cases he:m.ev=[]<;>by_cases hw:m.wt=0<;>simp[hw,he]
   ·have:¬(1<=m.k/\m.k<=3):=by omega
    rw[bq this,bq k2];simp
section
variable {w0 w:av} {b:Nat} {l:aH} {st:St}
theorem U4(h:Qz w0 b w l st){F:aJ}{m:Mv}{cs:aI}(hx:Ff false w F m cs)(hF:∀k,F k->k<w0.heap.size)(hn:mvN m)(hs:Fx m<=16777216)(hE:Er w0)(hT:Tb w0):
  az aq 209 #[rp b,ah cs.toArray] w fun e w'=>∃t cn,e=ak (ab (T t))/\t.length<=16450*Fx m/\(cn.1=false->t=O5 m)/\Up st (yR m) m.acts.length cn/\Qz w0 b w' l cn/\Mw true b w w':=by
 obtain⟨gc,qC,tg,rfl,hg,F7,sE⟩:=hx;obtain⟨gl,rfl⟩:=gR hg;have F7:=F7.1;have sE:=sE.1;have hsz:=hs;unfold Fx at hsz;refine(ae9 ⟨b,0,none⟩ m.k (T m.ev) m.wt m.gd m.g.k m.g.n (T m.g.s) m.g.op gl m.g.a qC tg m.a (fun v w'=>∃t cn,v=ab (T t)/\t.length<=16450*Fx m/\(cn.1=false->t=O5 m)/\Up st (yR m) m.acts.length cn/\Qz w0 b w' l cn/\Mw true b w w') w ?_).mono (by
  rintro e w' ⟨v,rfl,s,cn,rfl,h⟩;exact⟨s,cn,rfl,h⟩)
 intro k0 w1 gH eW cA;have t1:=(h.z true).al cA gH eW;have NZ:=sE.len;have Yd:=wk m.tg;refine⟨fun s0 w'=>∃hd cn,s0=T hd/\hd.length<=30+m.ev.length/\(cn.1=false->hd=S0 m)/\Up st (if m.k=1 then dM m.ev else if m.k=3 then decide (0<=m.wt)else decide (m.k=2)) 0 cn/\Zq true w0 w b w' l cn [k0],?_,fun hc=>?_,fun hc=>⟨fun Ei=>?_,fun Ei=>?_⟩⟩
 ·rintro _ w2 ⟨hd,vA,rfl,zQ,hdt,Ye,t2⟩;refine(iH t2.toQz _).mono ?_;rintro _ w3 ⟨rfl,WO,u1,u2,u3⟩;have t3:=t2.nx u2 u3;have hU3:=Ye.tr u1;rw[show ao #[]=T []from rfl,kH]at hU3;refine⟨rfl,t2.sm u3 (by simp),fun s1 w'=>∃gt cn,s1=T gt/\gt.length<=16386/\(cn.1=false->gt=U3 m)/\Up WO (if m.gd then xG m.g else vj m.g) 0 cn/\Zq true w0 w b w' l cn [k0],?_,fun PE=>?_,fun PE=>?_⟩
  ·rintro _ w4 ⟨gt,Ga,rfl,gtl,gtt,hU4,t4⟩;refine⟨fun nv i w'=>∃(j:Nat) (cn:St),i=j/\j<=m.tg.length/\nv=m.tg.length-j/\Up Ga ((m.tg.take j).all dM) 0 cn/\Zq true w0 w b w' l cn [k0],m.tg.length,⟨0,Ga,rfl,bp _,rfl,t4.toQz.VD,t4⟩,?_⟩;rintro nv _ w5 ⟨j,RQ,rfl,hj,rfl,WT,t5⟩;have abF:aA im 1 w5 F tg m.tg:=SliceF.keep cG sE (by decide) fun k hk _=>h.arg t5.toQz (hF k hk);refine⟨fun hc=>?_,fun hc=>?_⟩
   ·have bQ:(j:Int)<tg.n:=aP hc;obtain⟨ad,x,cs,g1,g2,g3,g4,g5,g6⟩:=abF.get (bm j) bQ;rw[aZ]at g2;unfold im at g6;subst g6;have hxm:=QP (bG g2);refine⟨ad,g1,_,g5,(kA t5.toQz x (by omega)).mono ?_⟩;rintro _ w6 ⟨rfl,st6,v1,v2,v3⟩;refine⟨_,rfl,t5.sm v3 (by simp),m.tg.length-(j+1),by omega,j+1,st6,by rw[fQ (by omega) (by omega)];rfl,by omega,rfl,(WT.tr v1).cg ?_ rfl,t5.nx v2 v3⟩;rw[bH,g2,wB];simp
   ·have sP:¬(j:Int)<tg.n:=aU hc;have og:j=m.tg.length:=by omega
    subst og;rw[bA (aV _)]at WT;refine⟨fun s4 w'=>s4=T (Kw m)/\Zq true w0 w b w' l RQ [k0],?_,fun hc=>?_,fun hc=>?_⟩
    ·rintro _ w7 ⟨rfl,t7⟩;refine(Bc t7.toQz (SliceF.keep (cV false) F7 (by decide) fun k hk _=>h.arg t7.toQz (hF k hk)) hF hn.a (by omega) hE hT).mono ?_;rintro _ w8 ⟨bt,WU,rfl,btl,btt,hU8,v2,v3⟩;have t8:=t7.nx v2 v3;have an1:(Kw m).length<=3+2*DC m.tg:=by
      unfold Kw;cases hm:m.tg with
      | nil=>exact bp _
      | cons s l=>
       have:=HQ s l;rw[Lib.join_cons,HP]at this;rw[bf,bf,bf];omega
     have lK:=gr [hd,gt,bt,Kw m];simp only[bE,dV,cj,fY]at lK;have Iz:Fx m=(ir m.acts+zx m.g)+(DC m.tg+(m.ev.length+1)):=rfl;obtain⟨q9,w9,e9,fS,_,hj9⟩:=zD w8 [hd,gt,bt,Kw m] (n:=4) (parts:=#[.mk 0 (ab (T hd)),.mk 1 (ab (T gt)),.mk 2 (ab (T bt)),.mk 3 (ab (T (Kw m)))]) rfl rfl (by decide) (by decide) (by omega);have z9:=fS.size;refine⟨_,rfl,t7.sm v3 (by simp),q9,w9,e9,t8.sq fS (by simp),hj9.mono ?_⟩;rintro _ dw ⟨rfl,abI⟩;have t10:=t8.q (ql fS abI);have hU:=(hU3.tr hU4).tr (WT.tr hU8);refine⟨_,rfl,t8.sj z9 abI (by simp),by rw[de];omega,eV [hd,gt,bt,Kw m]++[59],WU,by rw[show ao #[59]=T [59]from rfl,jT],by rw[aO,bK];omega,fun e=>?_,hU.cg ?_ (by omega),t10.toQz,t10.m⟩
     ·obtain⟨x5,x8,_⟩:=hU8.ok e;obtain⟨x4,x5',_⟩:=WT.ok x5;obtain⟨x3,x4',_⟩:=hU4.ok x4;obtain⟨x2,x3',_⟩:=u1.ok x3;obtain⟨x1,x2',_⟩:=Ye.ok x2;rw[hdt x2,gtt x4,btt e];refine MU ?_;obtain⟨_,y,_⟩:=hU.ok e;exact(mvB m).symm.trans y
     ·exact mvB m
    ·have RE:m.tg≠[]:=fun e=>by
      rw[e]at NZ;have:tg.n=0:=NZ;rw[this]at hc;exact absurd hc (by decide)
     have lK:(Lib.join m.tg [44,32]).length<=2*DC m.tg:=by
      cases hm:m.tg with
      | nil=>exact absurd hm RE
      | cons s l=>exact HQ s l
     refine(afY abF [44,32] (by omega) (by omega)).mono ?_;rintro _ w7 ⟨rfl,fm⟩;refine⟨_,rfl,t5.sq fm (by simp),by rw[de];omega,?_,t5.q fm⟩;rw[show ao #[45,62,32]=T [45,62,32]from rfl,jT];congr 1;unfold Kw;cases hm:m.tg with
     | nil=>exact absurd hm RE
     | cons s l=>
      rw[Lib.join_cons,HP];rfl
    ·have hz:m.tg=[]:=ca (by have:=aU hc;omega);refine⟨?_,t5⟩;unfold Kw;rw[hz]
  ·refine(HL t3.toQz ((gQ false).keep hg fun k hk _=>h.arg t3.toQz (hF k hk)) hn.g (by omega) hE hT).mono ?_;rintro _ w4 ⟨rfl,Ga,v1,v2,v3⟩;have t4:=t3.nx v2 v3;have:=HO m.g;refine⟨_,rfl,t3.sm v3 (by simp),by rw[de];omega,?_,91::(zy m.g++[93]),Ga,?_,by simp;omega,fun _=>by unfold U3;rw[if_pos PE],by rw[if_pos PE];exact v1,t4⟩
   ·rw[show ao #[91]=T [91]from rfl,jT,de,aO,bK];omega
   ·rw[show ao #[91]=T [91]from rfl,show ao #[93]=T [93]from rfl,jT,jT];rfl
  ·refine(HM t3.toQz ((gQ false).keep hg fun k hk _=>h.arg t3.toQz (hF k hk))).mono ?_;rintro _ w4 ⟨rfl,Ga,v1,v2,v3⟩;exact⟨rfl,t3.sm v3 (by simp),[],Ga,rfl,bp _,fun _=>by unfold U3;rw[if_neg (by rw[PE];decide)],by rw[if_neg (by rw[PE];decide)];exact v1,t3.nx v2 v3⟩
 ·have hk:m.k=1:=by simpa using hc
  refine(kA t1.toQz m.ev (by omega)).mono ?_;rintro _ w2 ⟨rfl,vA,v1,v2,v3⟩;have t2:=t1.nx v2 v3;have lK:=gr [Fc,m.ev];simp only[bE,dV,cj,fY]at lK;have hw:Fc.length=2:=rfl;obtain⟨q3,w3,e3,dl,_,Pf⟩:=zD w2 [Fc,m.ev] (n:=2) (parts:=#[.mk 0 (ab (T Fc)),.mk 1 (ab (T m.ev))]) rfl rfl (by decide) (by decide) (by omega);have z3:=dl.size;refine⟨_,rfl,t1.sm v3 (by simp),q3,w3,e3,t2.sq dl (by simp),Pf.mono ?_⟩;rintro _ w4 ⟨rfl,hP4⟩;exact⟨_,rfl,t2.sj z3 hP4 (by simp),_,vA,rfl,by omega,fun _=>by unfold S0;rw[if_pos hk],by rw[if_pos hk];exact v1,t2.q (ql dl hP4)⟩
 ·have lr:m.k≠1:=by simpa using hc
  have hk:m.k=3:=by simpa using Ei
  refine(iH t1.toQz _).mono ?_;rintro _ w2 ⟨rfl,vA,v1,v2,v3⟩;have t2:=t1.nx v2 v3;refine⟨rfl,t1.sm v3 (by simp),(we m.wt hn.w (hT.only t2.o)).mono ?_⟩;rintro _ w3 ⟨rfl,dl⟩;have t3:=t2.q dl;have lK:=gr [jj,Lib.itoa m.wt];simp only[bE,dV,cj,fY]at lK;have hw:jj.length=5:=rfl;have IH:=DE hn.w;obtain⟨q4,w4,e4,dA,_,hj4⟩:=zD w3 [jj,Lib.itoa m.wt] (n:=2) (parts:=#[.mk 0 (ab (T jj)),.mk 1 (ab (T (Lib.itoa m.wt)))]) rfl rfl (by decide) (by decide) (by omega);have z4:=dA.size;refine⟨_,rfl,t2.sq dl (by simp),q4,w4,e4,t3.sq dA (by simp),hj4.mono ?_⟩;rintro _ w5 ⟨rfl,Yf⟩;exact⟨_,rfl,t3.sj z4 Yf (by simp),_,vA,rfl,by omega,fun _=>by unfold S0;rw[if_neg lr,if_pos hk],by rw[if_neg lr,if_pos hk];exact v1,t3.q (ql dA Yf)⟩
 ·have lr:m.k≠1:=by simpa using hc
  have vU:m.k≠3:=by simpa using Ei
  refine(iH t1.toQz _).mono ?_;rintro _ w2 ⟨rfl,vA,v1,v2,v3⟩;have t2:=t1.nx v2 v3;refine⟨rfl,t1.sm v3 (by simp),jf,vA,rfl,by show 6<=_;omega,fun _=>by unfold S0;rw[if_neg lr,if_neg vU],by rw[if_neg lr,if_neg vU];exact v1,t2⟩
end
theorem MV{w:av}{b:Nat}{q:Option Addr}{v1 v2 v3:aw}(hq:q=none∨q=some ⟨b,0,none⟩)(h:aF w b 245 [ae q,v1,v2,v3]):
  az aq 225 #[ae (some ⟨b,0,none⟩)] w fun e w'=>e=ak (ai #[])/\ay [b] w w'/\aF w' b 245 [ae (some ⟨b,0,none⟩),v1,v2,v3]:=by
 refine ret (Sy _ _ _ ?_);have Ey:w.shape? b=some (245,4):=by
  unfold World.shape?;unfold aF at h;rw[h];rfl
 refine⟨q,Blk.dT h 0 rfl,fun hn=>?_,fun hn=>⟨q,Blk.dT h 0 rfl,?_⟩⟩
 ·have hr1:=Lib.run_to_unsafe (P:=aq) (src:=240) (dst:=308) w ⟨b,0,none⟩ (t:=243) (j:=Tryz.t243) (by kernel_rfl) (by kernel_rfl) (by kernel_rfl) (by decide) Ey (by decide:(0:Nat)<4);have hr2:=Lib.run_from_unsafe (P:=aq) (src:=308) (dst:=240) w ⟨b,0,none⟩ (u:=243) (j:=Tryz.t243) (by kernel_rfl) (by kernel_rfl) (by kernel_rfl) Ey (by kernel_rfl);exact⟨⟨ae (some ⟨b,0,none⟩),rfl⟩,w,hr1,⟨ae (some ⟨b,0,none⟩),rfl⟩,w,SG _ w,some ⟨b,0,none⟩,w,hr2,b,0,_,_,rfl,h,by simp,fun w3 hO hB=>⟨rfl,hO,hB⟩⟩
 ·rcases hq with rfl | rfl
  ·cases hn
  ·exact⟨false,w,Lib.run_neq_ptr_same w _ (te:=243) (j:=Tryz.t243) (by kernel_rfl) (by kernel_rfl),fun e=>(by cases e),fun _=>⟨rfl,Only.refl _ _,h⟩⟩
section
variable {w0 w:av} {b:Nat} {l:aH} {st:St}
theorem QS(h:Qz w0 b w l st)(m:aH)(hm:l.length+m.length<=274877906944):az aq 202 #[ae (some ⟨b,0,none⟩),ab (T m)] w fun e w'=>
  e=ak (ai #[O U (m.length:Int),.nilIface])/\Qz w0 b w' (l++m) st/\Mw false b w w':=by
 refine ret (Sw _ _ _ _ ?_);obtain⟨q,sl,hq,hB,TK⟩:=h.ex;refine(MV hq hB).mono ?_;rintro _ w1 ⟨rfl,cE,wy⟩;have z0:=cE.size;have hb:=hB.lt;have uf:Bf w1 (b+1) sl l:=TK.keep fun g hg hl=>cE.block g hl (by have:=(TK.lt hg).1;simp;omega);obtain⟨s',w2,k1,k2,k3,k4⟩:=He uf m (by omega) (by omega);have z1:=k3.size;have vw:aF w2 b 245 [ae (some ⟨b,0,none⟩),sl.v,aj st.1,O U st.2]:=k3.blk wy fun e=>by have:=(uf.lt e).1;omega
 have JW:∀g,s'.a=some ⟨g,0,none⟩->b<g:=fun g hg=>by
  rcases k4 with e | e
  ·rw[e]at hg;exact(uf.lt hg).1
  ·rw[e]at hg;injection hg with hg;injection hg with hg;omega
 refine⟨rfl,sl,Blk.dT wy 1 rfl,s',w2,k1,b,1,_,_,rfl,vw,by simp,fun w3 cR qY=>?_⟩;have qY:aF w3 b 245 [ae (some ⟨b,0,none⟩),s'.v,aj st.1,O U st.2]:=qY;have kl:aD (fun k=>k=b∨(false=false/\Bu w b k)) w w3:=((cE.p (F:=fun k=>k=b∨(false=false/\Bu w b k)) fun x hx=>.inl (.inl (by simpa using hx))).trans k3 fun k hk=>.inl (.inr ⟨rfl,DB hB hk⟩)).trans (cR.p (F:=fun k=>k=b) fun x hx=>.inl (by simpa using hx)) fun k hk=>.inl (.inl hk);refine⟨by rw[de],⟨?_,h.lo,⟨_,_,.inr rfl,qY,k2.keep fun g hg hl=>cR.block g hl (by have:=JW g hg;simp;omega)⟩,h.i,by rw[aO];exact hm⟩,kl,fun k hk=>?_⟩
 ·refine⟨kl.os.trans h.o.os,kl.tape.trans h.o.tape,kl.output.trans h.o.output,bh h.o.size kl.size,fun k hk _=>(kl.block k (cb hk h.o.size) ?_).trans (h.o.block k hk (by simp))⟩;rintro(e | ⟨_,e⟩)
  ·have:=h.lo;omega
  ·have:=(h.bu e).1;have:=h.lo;omega
 ·have e:=HJ qY hk;rcases k4 with e2 | e2
  ·exact .inl (DB hB (e2▸e))
  ·rw[e2]at e;injection e with e;injection e with e;exact .inr ⟨rfl,by omega⟩
theorem Zq.sl{f g:Bool}{ws w1 w':av}{ks ks':List Nat}(t:Zq f w0 ws b w l st ks)(hO:ay [] w w1)(m:Mw g b w w')(hk:∀k,k∈ks'->k∈ks):bS ks' w1 w':=fun x hx=>
 (t.sm m hk x hx).trans (t.sq hO hk x hx).symm
theorem HR:∀d,Lib.repeatL [32,32] d=Jp d
 | 0=>rfl
 | d+1=>by rw[Lib.repeatL,HR d];rfl
theorem HS:∀d,(Jp d).length=2*d
 | 0=>rfl
 | d+1=>by rw[Jp,bf,bf,HS d];omega
theorem vm(h:Qz w0 b w l st)(ws:List (aH)){n:Nat}{parts:Array (Nat×aw)}(hp:parts=(((ws.map fun x=>Value.string (T x)).zipIdx 0).map fun x=>(x.2,x.1)).toArray)(hn:ws.length=n)(h0:0<n)(wx:n*1<=16777216)(d:Nat)(hd:d<=12)(hl:(eV ws).length<=274877889536):
  ∃(q:Sl) (w1:av),(au 31 n parts).run aq w=.ok q.v w1/\ay [] w w1/\az aq 170 #[rp b,O U (d:Int),q.v] w1 fun e w'=>e=ak (ai #[])/\Qz w0 b w' (if st.1 then l else nP l (d,eV ws)) st/\Mw false b w w':=by
 obtain⟨q,w1,e1,aid,cA⟩:=lZ w ws hp hn h0 wx;refine⟨q,w1,e1,cA,?_⟩;have t1:=(h.z true).q cA;have hb:=h.lb;have hbu:∀k,Bu w b k->k<w.heap.size:=fun k hk=>(h.bu hk).2;refine ret (aeU _ _ _ _ _ ?_);refine(HN t1.toQz).mono ?_;rintro _ w2 ⟨rfl,rfl⟩;obtain⟨qq,sl,hB,_⟩:=t1.toQz.set;refine⟨_,rfl,st.1,fun _=>Blk.dT hB 2 rfl,fun hc w3 dl=>?_,fun hc=>?_⟩
 ·simp only[aR,dK,fK]at hc;obtain⟨sF,mB⟩:=hc;have t3:=t1.q dl;refine(Tryz.strings_Repeat (T [32,32]) d w3 (by omega) (by show 2*d<=_;omega)).mono ?_;rintro _ w4 ⟨rfl,ub⟩;have dA:=Only.below ub;have t4:=t3.q dA;have WS:=aid.keep cG (w':=w4) fun k hk bQ=>(dl.cp dA).block k bQ (by simp);have zQ:=HS d;refine⟨T (Jp d),by rw[show(T [32,32]).data.toList=[32,32]from rfl,HR],(xK WS (by omega) (by omega)).mono ?_⟩;rintro _ w5 ⟨rfl,Yf⟩;have t5:=t4.row hb hbu Yf;refine⟨_,rfl,by rw[de,de];omega,by rw[jT,de,aO];omega,?_⟩;rw[show ao #[10]=T [10]from rfl,jT,jT,show(Addr.add ⟨b,0,none⟩ 0:Addr)=⟨b,0,none⟩from rfl];refine(QS t5.toQz _ ?_).mono ?_
  ·simp only[aO,bf,cu];omega
  rintro _ w6 ⟨rfl,h6,m6⟩;refine⟨_,⟨.nilIface,rfl⟩,rfl,rfl,?_,t5.m.up.trans m6⟩;rw[mB,if_neg (by decide)];unfold nP lnT;rw[if_neg sF];dsimp only;rw[bF]at h6;exact h6
 ·refine⟨rfl,?_,t1.m.up⟩;have:(if st.1 then l else nP l (d,eV ws))=l:=by
   cases e:st.1
   ·rw[e]at hc;have hc:16384<l.length:=by simpa using hc
    rw[if_neg (by decide)];unfold nP;rw[if_pos hc]
   ·rfl
  rw[this];exact t1.toQz
theorem xP(h:Qz w0 b w l st)(d:Nat)(hd:d<=12)(word text:aH)(hw:word.length<=100)(hl:text.length<=274877880000):
  az aq 207 #[rp b,O U (d:Int),ab (T word),ab (T text)] w fun e w'=>e=ak (ai #[])/\Qz w0 b w' (if st.1||decide (text=[])then l else nP l (d,eV [word,text])) st/\Mw false b w w':=by
 refine ret (aeZ _ _ _ _ _ _ ?_);rw[show ao #[]=T []from rfl,kH];refine⟨fun hc=>?_,fun hc=>?_⟩
 ·have hc:text≠[]:=by simpa using hc
  have lK:=gr [word,text];simp only[bE,dV,cj,fY]at lK;obtain⟨q,w1,e1,cA,hj⟩:=vm h [word,text] (n:=2) (parts:=#[.mk 0 (ab (T word)),.mk 1 (ab (T text))]) rfl rfl (by decide) (by decide) d hd (by omega);refine⟨q,w1,e1,hj.mono ?_⟩;rintro _ w2 ⟨rfl,h2,m2⟩;refine⟨rfl,rfl,?_,m2⟩;rw[bq hc,Bool.or_false];exact h2
 ·have hc:text=[]:=by simpa using hc
  refine⟨rfl,?_,Mw.refl _ _ _⟩;rw[bI hc,Gf,if_pos rfl];exact h
end
def uJ:List Mv->Nat
 | []=>0
 | m::l=>Fx m+uJ l
def zG(b:Nb):Nat:=((b.nm.length+b.ini.length)+(b.dft.length+1))+((ir b.en+ir b.lv)+uJ b.mv)
mutual
def lm:Nd->Nat
 | .mk b l=>zG b+fX l
def fX:List Nd->Nat
 | []=>0
 | x::l=>lm x+fX l
end
theorem qm{m:Mv}:∀{l:List Mv},m∈l->Fx m<=uJ l
 | [],h=>by simp at h
 | x::l,h=>by
  rw[uJ];rcases aQ.1 h with rfl | h
  ·omega
  ·have:=qm h;omega
theorem jK:∀(l:List Mv),l.length<=uJ l
 | []=>bp _
 | m::l=>by
  have:=jK l;rw[uJ,bf];unfold Fx;omega
theorem mg{x:Nd}:∀{l:List Nd},x∈l->lm x<=fX l
 | [],h=>by simp at h
 | y::l,h=>by
  rw[fX];rcases aQ.1 h with rfl | h
  ·omega
  ·have:=mg h;omega
theorem QT(x:Nd):1<=lm x:=by
 obtain⟨b,l⟩:=x;rw[lm];unfold zG;omega
theorem tK:∀(l:List Nd),l.length<=fX l
 | []=>bp _
 | x::l=>by
  have:=tK l;have:=QT x;rw[fX,bf];omega
theorem DF{x:Nd}:∀{l:List Nd},xH l->x∈l->Ht x
 | [],_,h=>by simp at h
 | y::l,hn,h=>by
  rw[xH]at hn;rcases aQ.1 h with rfl | h
  ·exact hn.1
  ·exact DF hn.2 h
theorem xQ(d:Nat)(x:Nd):∀l:List Nd,po d (l++[x])=(po d l&&re d x)
 | []=>by simp[po]
 | y::l=>by rw[bZ,po,po,xQ d x l,yX]
theorem zH(x:Nd):∀l:List Nd,rX (l++[x])=rX l+zz x
 | []=>by simp[rX]
 | y::l=>by rw[bZ,rX,rX,zH x l];omega
theorem zI(d:Nat)(x:Nd):∀l:List Nd,vL d (l++[x])=vL d l++UM d x
 | []=>by simp[vL]
 | y::l=>by rw[bZ,vL,vL,zI d x l,bF]
def vO(x:Nb)(ks:List Nd)(d:Nat):Bool:=(decide (x.ini=[])||dM x.ini)&&(x.en.all lc&&(x.lv.all lc&&(x.mv.all yR&&po d ks)))
theorem kg(l:aH)(p:Ln):gq l [p]=nP l p:=rfl
theorem MW(l:List Ac):CD l≠[]:=by unfold CD;simp
theorem tL{cn:St}{l l1 l2:aH}{L M:List Ln}{IE:St}{c:Bool}{n:Nat}(hU:Up IE c n cn)(h1:IE.1=false->l1=gq l L)(h2:cn.1=false->l2=gq l1 M):cn.1=false->l2=gq l (L++M):=fun e=>by
 rw[h2 e,h1 (hU.ok e).1,iG]
def MX(D:Nat):Prop:=∀(w0 w:av) (b:Nat) (l:aH) (st:St) (F:aJ) (x:Nd) (cs:aI) (d:Nat),Qz w0 b w l st->mr false D w F x cs->(∀k,F k->k<w0.heap.size)->Ht x->lm x<=8388608->d<=12->Er w0->Tb w0->
 az aq 210 #[rp b,ah cs.toArray,O U (d:Int)] w fun e w'=>e=ak (ai #[])/\∃cn l',Up st (re d x) (zz x) cn/\(cn.1=false->l'=gq l (UM d x))/\Qz w0 b w' l' cn/\Mw false b w w'
section
variable {w0 w:av} {b:Nat} {l:aH} {st:St}
theorem MY{D:Nat}(hN:MX D)(h:Qz w0 b w l st){F:aJ}{x:Nb}{en lv mv kids:Sl}{ks:List Nd}(hb:A2 false w F x en lv mv)(hk:iE false (mr false D) 9 27 w F kids ks)(hF:∀k,F k->k<w0.heap.size)(hn:nbN x)(hnk:xH ks)(hs:zG x+fX ks<=8388608)(d:Nat)(hd:d<=12)(hE:Er w0)(hT:Tb w0):
  az aq 173 #[rp b,ah (me x.k x.nm x.ini x.dft en lv mv kids x.a).toArray,O U (d:Int)] w fun e w'=>e=ak (ai #[])/\∃cn l',Up st (vO x ks d) (SM x+rX ks) cn/\(cn.1=false->l'=gq l (XD d x++vL d ks))/\Qz w0 b w' l' cn/\Mw false b w w':=by
 have JM:=hs;unfold zG at JM;have KQ:=jK x.mv;have RI:=tK ks;obtain⟨B9,Ca,ot⟩:=hb;have B9:=B9.1;have Ca:=Ca.1;have ot:=ot.1;have hk:=hk.1;refine ret (aeY _ _ _ _ _ _ _ _ _ _ _ _ _ ?_);intro k0 w1 gH eW cA;have t1:=(h.z false).al cA gH eW;rw[show ao #[]=T []from rfl,kH];refine⟨fun w'=>∃IE l1,Up st (decide (x.ini=[])||dM x.ini) 0 IE/\(IE.1=false->l1=gq l (QG d x))/\Zq false w0 w b w' l1 IE [k0],?_,fun hc=>?_,fun hc=>?_⟩
 ·rintro w2 ⟨vA,l2,Ye,N5,t2⟩;refine(Bc t2.toQz (SliceF.keep (cV false) B9 (by decide) fun k hk _=>h.arg t2.toQz (hF k hk)) hF hn.en (by omega) hE hT).mono ?_;rintro _ w3 ⟨tx3,WO,rfl,tl3,tt3,hU3,q3,m3⟩;have t3:=t2.nx q3 m3.up;refine⟨_,rfl,t2.sm m3 (by simp),(xP t3.toQz d hd gY tx3 (by decide) (by omega)).mono ?_⟩;rintro _ w4 ⟨rfl,q4,m4⟩;have t4:=t3.nx q4 m4;have hl4:WO.1=false->(if WO.1||decide (tx3=[])then l2 else nP l2 (d,eV [gY,tx3]))=gq l2 (enL d x):=fun e=>by
   rw[e,tt3 e];unfold enL;by_cases he:x.en=[]
   ·rw[if_pos he,if_pos he];rfl
   ·rw[if_neg he,if_neg he,bq (MW _),if_neg (by decide),kg,mO (by decide),eL (by rfl),dG,eK,kf,bN]
  generalize (if WO.1||decide (tx3=[])then l2 else nP l2 (d,eV [gY,tx3]))=l4 at*
  refine⟨rfl,t3.sm m4 (by simp),(Bc t4.toQz (SliceF.keep (cV false) Ca (by decide) fun k hk _=>h.arg t4.toQz (hF k hk)) hF hn.lv (by omega) hE hT).mono ?_⟩;rintro _ w5 ⟨tx5,RQ,rfl,tl5,tt5,WT,q5,m5⟩;have t5:=t4.nx q5 m5.up;refine⟨_,rfl,t4.sm m5 (by simp),(xP t5.toQz d hd gZ tx5 (by decide) (by omega)).mono ?_⟩;rintro _ w6 ⟨rfl,q6,m6⟩;have t6:=t5.nx q6 m6;have hl6:RQ.1=false->(if RQ.1||decide (tx5=[])then l4 else nP l4 (d,eV [gZ,tx5]))=gq l4 (lvL d x):=fun e=>by
   rw[e,tt5 e];unfold lvL;by_cases he:x.lv=[]
   ·rw[if_pos he,if_pos he];rfl
   ·rw[if_neg he,if_neg he,bq (MW _),if_neg (by decide),kg,mO (by decide),eL (by rfl),dG,eK,kf,bN]
  generalize (if RQ.1||decide (tx5=[])then l4 else nP l4 (d,eV [gZ,tx5]))=l6 at*
  have hL4:=tL hU3 N5 hl4;have Ki:=tL WT hL4 hl6;refine⟨rfl,t5.sm m6 (by simp),fun nv i w'=>∃(j:Nat) (cn:St) (l':aH),i=j/\j<=x.mv.length/\nv=x.mv.length-j/\Up RQ ((x.mv.take j).all yR) ((x.mv.take j).map fun m=>m.acts.length).sum cn/\(cn.1=false->l'=gq l6 ((x.mv.take j).map fun m=>(d,O5 m)))/\Zq false w0 w b w' l' cn [k0],
   x.mv.length,⟨0,RQ,l6,rfl,bp _,rfl,t6.toQz.VD,fun _=>rfl,t6⟩,?_⟩
  rintro nv _ w7 ⟨j,TI,l7,rfl,hj,rfl,IL,WV,t7⟩;have akS:=ot.len;have aif:aA (Ff false) 13 w7 F mv x.mv:=SliceF.keep (kc false) ot (by decide) fun k hk _=>h.arg t7.toQz (hF k hk);refine⟨fun hc=>?_,fun hc=>?_⟩
  ·have bQ:(j:Int)<mv.n:=aP hc;obtain⟨ad,m,cs,g1,g2,g3,g4,g5,g6⟩:=aif.get (bm j) bQ;rw[aZ]at g2;have WH:=bG g2;have hms:=qm WH;have pM:x.mv.take (j+1)=x.mv.take j++[m]:=by
    rw[bH,g2];rfl
   have WW:=g6;obtain⟨gc,qC,tg,rfl,r1,r2,r3⟩:=WW;obtain⟨gl,rfl⟩:=gR r1;refine⟨ad,g1,_,_,_,_,_,_,_,_,_,_,_,_,_,g5,fun k3 w8 vU ud fp=>?_⟩;have t8:=t7.al fp vU ud;refine(U4 t8.toQz ((kc false).keep g6 fun k _ bQ=>fp.block k bQ (by simp)) hF (hn.mv m WH) (by omega) hE hT).mono ?_;rintro _ w9 ⟨tx9,WQ,rfl,tl9,tt9,TJ,q9,m9⟩;have t9:=t8.nx q9 m9.up;have lK:=gr [tx9];simp only[bE,dV,cj,fY]at lK;obtain⟨q10,dw,e10,dR,WX⟩:=vm t9.toQz [tx9] (n:=1) (parts:=#[.mk 0 (ab (T tx9))]) rfl rfl (by decide) (by decide) d hd (by omega);refine⟨_,rfl,t8.sm m9 (by simp),q10,dw,e10,t9.sq dR (by simp),WX.mono ?_⟩;rintro _ dr ⟨rfl,XY,m11⟩;have t11:=t9.nx XY m11;refine⟨rfl,t9.sl dR m11 (by simp),x.mv.length-(j+1),by omega,j+1,WQ,_,by rw[fQ (by omega) (by omega)];rfl,by omega,rfl,(IL.tr TJ).cg ?_ ?_,fun e=>?_,⟨t11.toQz,t11.m,fun k hk=>t11.k k (by simp at hk;simp[hk])⟩⟩
   ·rw[pM,wB];simp
   ·rw[pM,cN,List.sum_append];simp
   ·rw[e,if_neg (by decide),WV (TJ.ok e).1,pM,cN,iG,tt9 e];show _=nP _ (d,O5 m);have:ne (O5 m)=true:=by
     have:O5 m≠[]:=by unfold O5;simp
     unfold ne;rw[bq this];rfl
    rw[mO this,dG,kf,bN]
  ·have sP:¬(j:Int)<mv.n:=aU hc;have og:j=x.mv.length:=by omega
   subst og;rw[bA (aV _)]at IL WV;have BX:=tL IL Ki WV;refine⟨fun nv i w'=>∃(j:Nat) (cn:St) (l':aH),i=j/\j<=ks.length/\nv=ks.length-j/\Up TI (po d (ks.take j)) (rX (ks.take j)) cn/\(cn.1=false->l'=gq l7 (vL d (ks.take j)))/\Zq false w0 w b w' l' cn [k0],
    ks.length,⟨0,TI,l7,rfl,bp _,rfl,by rw[cK,po,rX];exact t7.toQz.VD,fun _=>by rw[cK,vL];rfl,t7⟩,?_⟩
   rintro nv _ dr ⟨j,WY,pD,rfl,hj,rfl,RS,WZ,t11⟩;have akT:=hk.len;have aih:aA (mr false D) 9 dr F kids ks:=SliceF.keep (cw false D) hk (by decide) fun k hk _=>h.arg t11.toQz (hF k hk);refine⟨fun hc=>?_,fun hc=>?_⟩
   ·have bQ:(j:Int)<kids.n:=aP hc;obtain⟨ad,y,cs,g1,g2,g3,g4,g5,g6⟩:=aih.get (bm j) bQ;rw[aZ]at g2;have hym:=bG g2;have hys:=mg hym;have pM:ks.take (j+1)=ks.take j++[y]:=by
     rw[bH,g2];rfl
    have WW:=g6;cases D with
    | zero=>exact WW.elim
    | succ D=>
    obtain⟨uY,uZ,pO,jv,rfl,_⟩:=WW;refine⟨ad,g1,_,_,_,_,uY,uZ,pO,jv,_,g5,fun k7 dX hk7 W0 eM=>?_⟩;have t12:=t11.al eM hk7 W0;refine(hN _ _ _ _ _ _ _ _ d t12.toQz ((cw false _).keep g6 fun k _ bQ=>eM.block k bQ (by simp)) hF (DF hnk hym) (by omega) hd hE hT).mono ?_;rintro _ eS ⟨rfl,W1,yp,abN,aij,q13,m13⟩;have t13:=t12.nx q13 m13;refine⟨rfl,t12.sm m13 (by simp),ks.length-(j+1),by omega,j+1,W1,yp,by rw[fQ (by omega) (by omega)];rfl,by omega,rfl,(RS.tr abN).cg ?_ ?_,fun e=>?_,⟨t13.toQz,t13.m,fun k hk=>t13.k k (by simp at hk;simp[hk])⟩⟩
    ·rw[pM,xQ]
    ·rw[pM,zH]
    ·rw[aij e,WZ (abN.ok e).1,pM,zI,iG]
   ·have sP:¬(j:Int)<kids.n:=aU hc;have og:j=ks.length:=by omega
    subst og;rw[bA (aV _)]at RS WZ;have vW:=tL RS BX WZ;refine⟨rfl,WY,pD,(Ye.tr (hU3.tr (WT.tr (IL.tr RS)))).cg rfl ?_,fun e=>?_,t11.toQz,t11.m⟩
    ·unfold SM;omega
    ·rw[vW e];unfold XD mvL;simp only[bF]
 ·have hc:x.ini≠[]:=by simpa using hc
  refine(kA t1.toQz x.ini (by omega)).mono ?_;rintro _ w2 ⟨rfl,vA,Ye,q2,m2⟩;have t2:=t1.nx q2 m2.up;refine⟨_,rfl,t1.sm m2 (by simp),by rw[de];omega,?_⟩;rw[show ao #[59]=T [59]from rfl,jT];refine(xP t2.toQz d hd fl (x.ini++[59]) (by decide) (by rw[aO,bK];omega)).mono ?_;rintro _ w3 ⟨rfl,q3,m3⟩;refine⟨rfl,t2.sm m3 (by simp),vA,_,Ye.cg (by rw[bq hc,Bool.false_or]) rfl,fun e=>?_,t2.nx q3 m3⟩;have gL:x.ini++[59]≠[]:=by simp
  have OL:ne (x.ini++[59])=true:=by unfold ne;rw[bq gL];rfl
  rw[e,bq gL,if_neg (by decide),mO (by decide),eL OL,dG,eK,kf,bN];unfold QG;rw[if_neg hc];rfl
 ·have hc:x.ini=[]:=by simpa using hc
  refine⟨st,l,h.VD.cg (by rw[bI hc];rfl) rfl,fun _=>by unfold QG;rw[if_pos hc];rfl,t1⟩
end
theorem Up.more{st cn:St}{c:Bool}{n:Nat}(h:Up st c 0 cn)(hn:c=true->n=0):Up st c n cn:=by
 cases c with
 | true=>rw[hn rfl];exact h
 | false=>
  refine⟨?_,fun e=>?_⟩
  ·rw[h.w];simp
  ·have:=h.w;rw[e]at this;simp at this
def S1:List (aH):=[[],AU,qR,tC,Hh]
theorem ZZ{k:Int}(h1:1<=k)(h2:k<=4):S1[k.toNat]? =some (kW k):=by
 have:k=1∨k=2∨k=3∨k=4:=by omega
 rcases this with rfl | rfl | rfl | rfl<;>rfl
theorem S2(k:Int):ne (kW k)=true:=by
 unfold kW;split
 ·rfl
 split
 ·rfl
 split
 ·rfl
 ·rfl
theorem U5(k:Int):(kW k).length<=8:=by
 unfold kW;split
 ·decide
 split
 ·decide
 split
 ·decide
 ·decide
theorem HT{d:Nat}{b:Nb}{l:List Nd}(hk:b.k=1∨b.k=2)(hd:d<12):((decide (b.dft=[])&&dM b.nm)&&vO b l (d+1))=re d (.mk b l):=by
 have hh:kR b.k=false:=by unfold kR;exact bq (by omega)
 rw[re,bI hd,dk];unfold Fh vO;rw[hh,if_neg (by decide)];have:decide ((b.k=1∨b.k=2)/\b.dft=[])=decide (b.dft=[]):=by simp[hk]
 rw[this];generalize decide (b.dft=[])=A;generalize dM b.nm=B;generalize (decide (b.ini=[])||dM b.ini)=C;generalize b.en.all lc=D;generalize b.lv.all lc=E;generalize b.mv.all yR=G;generalize po (d+1) l=H;cases A<;>cases B<;>cases C<;>cases D<;>cases E<;>cases G<;>cases H<;>rfl
theorem HU{d:Nat}{b:Nb}{l:List Nd}(hk:b.k=3∨b.k=4)(hd:d<12):(((decide (b.ini=[])&&decide (b.en=[]/\b.lv=[]/\b.mv=[]/\l=[]))&&dM b.nm)&&dM b.dft)=re d (.mk b l):=by
 have hh:kR b.k=true:=by unfold kR;exact bI hk
 rw[re,bI hd,dk];unfold Fh;rw[hh,if_pos rfl];by_cases hl:l=[]
 ·subst hl;have:decide (b.ini=[]/\b.en=[]/\b.lv=[]/\b.mv.length=0/\([]:List Nd).length=0)=(decide (b.ini=[])&&decide (b.en=[]/\b.lv=[]/\b.mv=[]/\([]:List Nd)=[])):=by
   rw[bT];simp
  rw[this,po];generalize decide (b.ini=[])=A;generalize decide (b.en=[]/\b.lv=[]/\b.mv=[]/\([]:List Nd)=[])=B;cases A<;>cases B<;>cases dM b.nm<;>cases dM b.dft<;>rfl
 ·have h1:decide (b.en=[]/\b.lv=[]/\b.mv=[]/\l=[])=false:=bq fun h=>hl h.2.2.2;have h2:decide (b.ini=[]/\b.en=[]/\b.lv=[]/\b.mv.length=0/\l.length=0)=false:=bq fun h=>hl (ca h.2.2.2.2);rw[h1,h2];simp
theorem HV{d:Nat}{b:Nb}{l:List Nd}(h:¬(1<=b.k/\b.k<=4)∨12<=d):re d (.mk b l)=false:=by
 rw[re];rcases h with h | h
 ·have hh:kR b.k=false:=by unfold kR;exact bq (by omega)
  have:decide ((b.k=1∨b.k=2)/\b.dft=[])=false:=bq (by omega);unfold Fh;rw[hh,if_neg (by decide),this];simp
 ·rw[bq (by omega)];rfl
theorem HW:∀D,MX D
 | 0=>by
  intro w0 w b l st F x cs d h hx;exact hx.elim
 | D+1=>by
  intro w0 w b l st F x cs d h hx hF hn hs hd hE hT;obtain⟨bb,ks⟩:=x;have hx0:=hx;obtain⟨en,lv,mv,kids,rfl,vS,rK⟩:=hx;have vS:A2 false w F bb en lv mv:=vS;have rK:iE false (mr false D) 9 27 w F kids ks:=rK;show az aq 210 #[rp b,ah (me bb.k bb.nm bb.ini bb.dft en lv mv kids bb.a).toArray,O U (d:Int)] w _;rw[Ht]at hn;rw[lm]at hs;have JM:=hs;unfold zG at JM;refine ret (afa _ _ _ _ _ _ _ _ _ _ _ _ _ ?_);intro k0 w1 gH eW cA;have t1:=(h.z false).al cA gH eW;obtain⟨q,sl,hB,_⟩:=t1.toQz.set;have bad:∀{w':av} {cn:St} {lx:aH},cn.1=true->Zq false w0 w b w' lx cn [k0]->(st.1=true∨re d (.mk bb ks)=false)->∃cn l',Up st (re d (.mk bb ks)) (zz (.mk bb ks)) cn/\(cn.1=false->l'=gq l (UM d (.mk bb ks)))/\Qz w0 b w' l' cn/\Mw false b w w':=by
   intro w' cn lx e t hc;refine⟨cn,lx,⟨?_,fun e2=>absurd (e.symm.trans e2) (by decide)⟩,fun e2=>absurd (e.symm.trans e2) (by decide),t.toQz,t.m⟩;rw[e];rcases hc with hc | hc
   ·rw[hc];rfl
   ·rw[hc];simp
  refine⟨st.1,Blk.dT hB 2 rfl,fun hc=>?_,fun hc=>?_⟩
  ·refine(iH t1.toQz false).mono ?_;rintro _ w2 ⟨rfl,vA,u1,u2,u3⟩;refine⟨rfl,t1.sm u3 (by simp),rfl,bad (by rw[u1.w];simp) (t1.nx u2 u3.up) ?_⟩;rw[cD]at hc;rcases hc with hc | hc
   ·exact .inl hc
   ·exact .inr (HV (.inr (by have:=aP hc;omega)))
  rw[pb]at hc;have W2:d<12:=by have:=aU hc.2;omega
  obtain⟨q2,w2,g,cs,e2,cR,hg1,hg2,qY,VE⟩:=MQ w1 S1 (n:=5) (parts:=#[.mk 0 (ab (ao #[])),.mk 1 (ab (ao #[115,116,97,116,101])),.mk 2 (ab (ao #[112,97,114,97,108,108,101,108])),.mk 3 (ab (ao #[104,105,115,116,111,114,121])),.mk 4 (ab (ao #[100,101,101,112]))]) rfl rfl (by decide) (by decide);have t2:=t1.al cR hg1 hg2;have hwd:1<=bb.k/\bb.k<=4->dy q2 bb.k 1 ⟨g,bb.k.toNat,none⟩/\∀w',aF w' g 9 cs->aB w' ⟨g,bb.k.toNat,none⟩ [ab (T (kW bb.k))]:=fun hk=>by
   have:=VE _ _ (ZZ hk.1 hk.2);rwa[kG (by omega)]at this
  have RI:=U5 bb.k;have z2:∀{w3:av},ay [] w2 w3->aF w3 g 9 cs:=fun hO=>hO.blk qY (by simp);have z2m:∀{w3 w4:av} {lx:aH} {sx:St} {f:Bool},Zq false w0 w b w3 lx sx [g,k0]->Mw f b w3 w4->aF w3 g 9 cs->aF w4 g 9 cs:=fun t m hB=>(t.sm (ks':=[g]) m (by simp) g (by simp)).trans hB;refine⟨q2,w2,e2,t1.sq cR (by simp),fun b1 w3=>w2=w3/\b1=decide (bb.k=1∨bb.k=2),?_,fun sF=>⟨rfl,?_⟩,fun sF=>⟨rfl,?_⟩⟩
  ·rintro b1 _ ⟨rfl,rfl⟩;refine⟨fun Ei=>?_,fun Ei=>?_⟩
   ·have hk:=aP Ei;have hkr:1<=bb.k/\bb.k<=4:=by omega
    obtain⟨y1,y2⟩:=hwd hkr;rw[show ao #[]=T []from rfl,kH];refine(iH t2.toQz _).mono ?_;rintro _ w4 ⟨rfl,Ga,u1,u2,u3⟩;have t4:=t2.nx u2 u3.up;refine⟨rfl,t2.sm u3 (by simp),fun w5 eJ=>⟨fun k=>k∈[k0,g],by simp,_,y1,by simp,_,y2 w5 (eJ.blk (z2m t2 u3 qY) (by simp)),?_⟩⟩;have t5:=t4.q eJ;refine(kA t5.toQz bb.nm (by omega)).mono ?_;rintro _ w6 ⟨rfl,st6,v1,v2,v3⟩;have t6:=t5.nx v2 v3.up;have lK:=gr [kW bb.k,bb.nm,[123]];simp only[bE,dV,cj,fY,bf,cu]at lK;obtain⟨q7,w7,e7,fm,hj7⟩:=vm t6.toQz [kW bb.k,bb.nm,[123]] (n:=3) (parts:=#[.mk 0 (ab (T (kW bb.k))),.mk 1 (ab (T bb.nm)),.mk 2 (ab (T [123]))]) rfl rfl (by decide) (by decide) d hd (by omega);refine⟨_,rfl,t5.sm v3 (by simp),bL.of (t5.sm v3 (by simp)),q7,w7,e7,t6.sq fm (by simp),bL.of (t6.sq fm (by simp)),hj7.mono ?_⟩;rintro _ w8 ⟨rfl,x1,x2⟩;have t8:=t6.nx x1 x2;have hl8:st6.1=false->(if st6.1 then l else nP l (d,eV [kW bb.k,bb.nm,[123]]))=gq l [(d,kW bb.k++32::(bb.nm++[32,123]))]:=fun e=>by
     rw[e,if_neg (by decide),kg,mO (S2 _),eL (oS (v1.ok e).2.1),eL (by rfl),dG,eK,eK,kf];rfl
    generalize (if st6.1 then l else nP l (d,eV [kW bb.k,bb.nm,[123]]))=l8 at*
    have ed:ar U ((d:Int)+1)=((d+1:Nat):Int):=by rw[fQ (by omega) (by omega)];rfl
    rw[ed];refine⟨rfl,t6.sl fm x2 (by simp),bL.of (t6.sl fm x2 (by simp)),(MY (HW D) t8.toQz (vS.keep fun k hk _=>h.arg t8.toQz (hF k hk)) (rK.keep (cw false D) (by decide) fun k hk _=>h.arg t8.toQz (hF k hk)) hF hn.1 hn.2 hs (d+1) (by omega) hE hT).mono ?_⟩;rintro _ w9 ⟨rfl,WQ,l9,TJ,hl9,y3,y4⟩;have t9:=t8.nx y3 y4;obtain⟨q10,dw,e10,dR,WX⟩:=vm t9.toQz [[125]] (n:=1) (parts:=#[.mk 0 (ab (T [125]))]) rfl rfl (by decide) (by decide) d hd (by decide);refine⟨rfl,t8.sm y4 (by simp),q10,dw,e10,t9.sq dR (by simp),WX.mono ?_⟩;rintro _ dr ⟨rfl,x3,x4⟩;have t11:=t9.nx x3 x4;refine⟨rfl,t9.sl dR x4 (by simp),rfl,WQ,_,((u1.tr v1).tr TJ).cg (HT hk W2) (by rw[zz];omega),fun e=>?_,t11.toQz,t11.m⟩;have hh:kR bb.k=false:=by unfold kR;exact bq (by omega)
    rw[UM,hh,e];simp only[iX,iI];rw[hl9 e,hl8 (TJ.ok e).1,<-iG];have e1:eV [[125]]=[125]:=by decide
    rw[e1,<-kg,<-iG];simp only[bF,bZ,cf]
   ·have hnk:=aU Ei;refine⟨fun b2 dX=>w2=dX/\b2=decide (bb.k=3∨bb.k=4),?_,fun hc4=>⟨rfl,?_⟩,fun hc4=>⟨rfl,?_⟩⟩
    ·rintro b2 _ ⟨rfl,rfl⟩;refine⟨fun hc5=>?_,fun hc5=>?_⟩
     ·have hk:=aP hc5;have hkr:1<=bb.k/\bb.k<=4:=by omega
      obtain⟨y1,y2⟩:=hwd hkr;have n4:=vS.1.1.len;have n5:=vS.2.1.1.len;have n6:=vS.2.2.1.len;have n7:=rK.1.len;have a4:=kT bb.en;have a5:=kT bb.lv;have a6:=jK bb.mv;have a7:=tK ks;have ain:(ar U ((ar U ((ar U ((en.n:Int)+(lv.n:Int)))+(mv.n:Int)))+(kids.n:Int))==0)=decide (bb.en=[]/\bb.lv=[]/\bb.mv=[]/\ks=[]):=by
       rw[fQ (x:=(en.n:Int)+(lv.n:Int)) (by omega) (by omega),fQ (x:=(en.n:Int)+(lv.n:Int)+(mv.n:Int)) (by omega) (by omega),fQ (by omega) (by omega),bT];simp only[ol,bW];refine⟨fun e=>?_,fun⟨e1,e2,e3,e4⟩=>?_⟩
       ·exact⟨ca (by omega),ca (by omega),ca (by omega),ca (by omega)⟩
       ·rw[n4,n5,n6,n7,e1,e2,e3,e4];rfl
      rw[show ao #[]=T []from rfl,kH,ain];refine(iH t2.toQz _).mono ?_;rintro _ eS ⟨rfl,W1,u1,u2,u3⟩;have t13:=t2.nx u2 u3.up;refine⟨rfl,t2.sm u3 (by simp),fun eZ dN=>⟨fun k=>k∈[k0,g],by simp,_,y1,by simp,_,y2 eZ (dN.blk (z2m t2 u3 qY) (by simp)),by simp,?_⟩⟩;have t14:=t13.q dN;refine(kA t14.toQz bb.nm (by omega)).mono ?_;rintro _ fU ⟨rfl,an8,v1,v2,v3⟩;have t15:=t14.nx v2 v3.up;refine⟨_,rfl,t14.sm v3 (by simp),bL.of (t14.sm v3 (by simp)),(kA t15.toQz bb.dft (by omega)).mono ?_⟩;rintro _ gy ⟨rfl,aio,x1,x2,x3⟩;have t16:=t15.nx x2 x3.up;have lK:=gr [kW bb.k,bb.nm,[45,62],bb.dft++[59]];simp only[bE,dV,cj,fY,bf,cu,aO]at lK;obtain⟨q17,fR,e17,jp,aip⟩:=vm t16.toQz [kW bb.k,bb.nm,[45,62],bb.dft++[59]] (n:=4) (parts:=#[.mk 0 (ab (T (kW bb.k))),.mk 1 (ab (T bb.nm)),.mk 2 (ab (T [45,62])),.mk 3 (ab (T (bb.dft++[59])))]) rfl rfl (by decide) (by decide) d hd (by omega);refine⟨T bb.dft,rfl,t15.sm x3 (by simp),bL.of (t15.sm x3 (by simp)),by rw[de];omega,q17,fR,by rw[show ao #[59]=T [59]from rfl,jT];exact e17,t16.sq jp (by simp),bL.of (t16.sq jp (by simp)),aip.mono ?_⟩;rintro _ gI ⟨rfl,y3,y4⟩;have t18:=t16.nx y3 y4;have hU:=((u1.tr v1).tr x1).cg (HU hk W2) rfl;refine⟨rfl,t16.sl jp y4 (by simp),bL.of (t16.sl jp y4 (by simp)),rfl,aio,_,hU.more fun ul=>?_,fun e=>?_,t18.toQz,t18.m⟩
      ·rw[<-HU hk W2]at ul;simp only[aR,bW]at ul;obtain⟨⟨⟨_,e1,e2,e3,e4⟩,_⟩,_⟩:=ul;rw[zz,e4,rX];unfold SM;rw[e1,e2,e3];rfl
      ·have hh:kR bb.k=true:=by unfold kR;exact bI hk
       have OL:ne (bb.dft++[59])=true:=by
        have:bb.dft++[59]≠[]:=by simp
        unfold ne;rw[bq this];rfl
       rw[UM,hh,if_pos rfl,e,if_neg (by decide),kg,mO (S2 _),eL (oS (v1.ok (x1.ok e).1).2.1),eL (by rfl),eL OL,dG,eK,eK,eK,kf,bN];rfl
     ·have aoa:=aU hc5;refine(iH t2.toQz false).mono ?_;rintro _ eS ⟨rfl,W1,u1,u2,u3⟩;have t13:=t2.nx u2 u3.up;exact⟨rfl,t2.sm u3 (by simp),rfl,bad (by rw[u1.w];simp) ⟨t13.toQz,t13.m,fun k hk=>t13.k k (by simp at hk;simp[hk])⟩ (.inr (HV (.inl (by omega))))⟩
    ·have:bb.k=3:=by simpa using hc4
     rw[hc4,bI (.inl this)]
    ·have:bb.k≠3:=by simpa using hc4
     rw[bT];simp[this]
  ·have:bb.k=1:=by simpa using sF
   rw[sF,bI (.inl this)]
  ·have:bb.k≠1:=by simpa using sF
   rw[bT];simp[this]
mutual
theorem U6:∀x:Nd,gp x<=lm x
 | .mk b l=>by
  rw[gp,lm];have:=tM l;unfold zG;omega
theorem tM:∀l:List Nd,di l<=fX l
 | []=>by rw[di];exact bp _
 | x::l=>by
  rw[di,fX];exact iK (U6 x) (tM l)
end
mutual
theorem U7:∀x:Nd,yA x<=lm x
 | .mk b l=>by
  rw[yA,lm];have:=tN l;have:=jK b.mv;unfold zG;omega
theorem tN:∀l:List Nd,uI l<=fX l
 | []=>by rw[uI];exact bp _
 | x::l=>by
  rw[uI,fX];exact iK (U7 x) (tN l)
end
theorem uK(x:Nd):∀l:List Nd,di (l++[x])=di l+gp x
 | []=>by simp[di]
 | y::l=>by rw[bZ,di,di,uK x l];omega
theorem uL(x:Nd):∀l:List Nd,uI (l++[x])=uI l+yA x
 | []=>by simp[uI]
 | y::l=>by rw[bZ,uI,uI,uL x l];omega
theorem xR:∀l m:List Nd,fX (l++m)=fX l+fX m
 | [],m=>by rw[cf,fX];omega
 | y::l,m=>by rw[bZ,fX,fX,xR l m];omega
theorem HX:∀(D:Nat) (w:av) (F:aJ) (x:Nd) (cs:aI),mr false D w F x cs->lm x<=8388608->az aq 168 #[ah cs.toArray] w fun e w'=>e=ak (ai #[O U (gp x:Int),O U (yA x:Int)])/\ay [] w w'
 | 0,w,F,x,cs,hx,_=>hx.elim
 | D+1,w,F,x,cs,hx,hs=>by
  obtain⟨bb,ks⟩:=x;obtain⟨en,lv,mv,kids,rfl,vS,rK⟩:=hx;have ot:=vS.2.2.1;have ot:aA (Ff false) 13 w F mv bb.mv:=ot;have hk:aA (mr false D) 9 w F kids ks:=rK.1;show az aq 168 #[ah (me bb.k bb.nm bb.ini bb.dft en lv mv kids bb.a).toArray] w _;refine ret (aeQ _ _ _ _ _ _ _ _ _ _ _ ?_);have z1:=tM ks;have z2:=tN ks;have z3:=jK bb.mv;rw[lm]at hs;have JM:=hs;unfold zG at JM;have n6:=ot.len;have n7:=hk.len;have z4:=tK ks;intro k0 w1 gH eW cA w2 cR;refine⟨fun nv a m i w'=>∃j:Nat,i=j/\j<=ks.length/\nv=ks.length-j/\a=(1+di (ks.take j):Nat)/\m=(bb.mv.length+uI (ks.take j):Nat)/\k0<w'.heap.size/\ay [] w w',ks.length,⟨0,rfl,bp _,rfl,by rw[cK,di];rfl,by rw[cK,uI,n6];rfl,cb eW cR.size,cA.cp cR⟩,?_⟩;rintro nv _ _ _ w3 ⟨j,rfl,hj,rfl,rfl,rfl,vU,dl⟩;have aob:fX ks=fX (ks.take j)+fX (ks.drop j):=by rw[<-xR,dD]
  have y1:=tM (ks.take j);have y2:=tN (ks.take j);refine⟨fun hc=>?_,fun hc=>?_⟩
  ·have bQ:(j:Int)<kids.n:=aP hc;obtain⟨ad,y,cs,g1,g2,g3,g4,g5,g6⟩:=(SliceF.only (cw false D) (by decide) hk dl (by simp)).get (bm j) bQ;rw[aZ]at g2;have hys:=mg (bG g2);have pM:ks.take (j+1)=ks.take j++[y]:=by
    rw[bH,g2];rfl
   have akV:fX ks=fX (ks.take (j+1))+fX (ks.drop (j+1)):=by rw[<-xR,dD]
   have y3:di (ks.take j)+gp y<=fX (ks.take (j+1)):=by rw[<-uK,<-pM];exact tM _
   have y4:uI (ks.take j)+yA y<=fX (ks.take (j+1)):=by rw[<-uL,<-pM];exact tN _
   have WW:=g6;cases D with
   | zero=>exact WW.elim
   | succ D=>
   obtain⟨uY,uZ,pO,jv,rfl,_⟩:=WW;refine⟨ad,g1,_,_,_,_,uY,uZ,pO,jv,_,g5,fun k3 w4 ud akW dA=>?_⟩;refine(HX (D+1) w4 F y _ ((cw false _).keep g6 fun k _ bQ=>dA.block k bQ (by simp)) (by omega)).mono ?_;rintro _ w5 ⟨rfl,eJ⟩;refine⟨_,_,rfl,eJ.same (by have:=dA.size;simp;omega),ks.length-(j+1),by omega,j+1,by rw[fQ (by omega) (by omega)];rfl,by omega,rfl,?_,?_,?_,(dl.cp dA).cp eJ⟩
   ·rw[pM,uK,fQ (by omega) (by omega)];omega
   ·rw[pM,uL,fQ (by omega) (by omega)];omega
   ·have:=dA.size;have:=eJ.size;omega
  ·have sP:¬(j:Int)<kids.n:=aU hc;have og:j=ks.length:=by omega
   subst og;rw[bA (aV _)];refine⟨?_,dl⟩;rw[gp,yA,ku]
structure Pt4 (w:av) (b:Nat) (sl:Sl) (l:aH) (v2 v3:aw):Prop where
 blk:∃q:Option Addr,aF w b 245 [ae q,sl.v,v2,v3]
 len:sl.n=l.length
 some:l≠[]->∃g,sl.a=.some ⟨g,0,none⟩/\b<g/\sl.c≠0/\(∃n,w.shape? g=.some (5,n)/\l.length<=n)/\aB w ⟨g,0,none⟩ (l.map fi)
 cap:sl.a=none∨sl.c≠0
 big:l.length<=9223372036854775807
section
variable {w:av} {b:Nat} {sl:Sl} {l:aH} {v2 v3:aw}
theorem Pt4.only{w':av}(h:Pt4 w b sl l v2 v3)(hO:ay [] w w'):Pt4 w' b sl l v2 v3:=by
 obtain⟨⟨q,h1⟩,h2,h3,h4,h5⟩:=h;refine⟨⟨q,hO.blk h1 (by simp)⟩,h2,fun hl=>?_,h4,h5⟩;obtain⟨g,a1,a2,a3,⟨n,a4,a5⟩,a6⟩:=h3 hl;have hg:g<w.heap.size:=by
  refine ch fun hn=>?_;unfold World.shape? at a4;rw[dU (by omega)]at a4;cases a4
 have hk:=hO.block g hg (by simp);exact⟨g,a1,a2,a3,⟨n,(xB hk).trans a4,a5⟩,a6.keep hk⟩
theorem Qz.pt{w0:av}{st:St}(h:Qz w0 b w l st):∃sl,Pt4 w b sl l (aj st.1) (O U st.2)/\∀k,sl.a=some ⟨k,0,none⟩->Bu w b k:=by
 obtain⟨q,sl,hq,hB,hb⟩:=h.ex;refine⟨sl,⟨⟨_,hB⟩,hb.len,fun hl=>?_,?_,?_⟩,fun k hk=>DB hB hk⟩
 ·rcases hb with⟨_,e⟩ | ⟨g,tail,h1,h2,h3,h4,h5,h6,h7,h8⟩
  ·exact absurd e hl
  ·have h0:l.length≠0:=fun e=>hl (ca e);refine⟨g,h1,h2,by omega,⟨_,by unfold World.shape?;unfold aF at h3;rw[h3],by simp⟩,h3.cells 0 (l.map fi) fun j v hj=>by rw[bJ,bM (aY.1 hj).1];exact hj⟩
 ·rcases hb with⟨e,_⟩ | ⟨g,tail,h1,h2,h3,h4,h5,h6,h7,h8⟩
  ·exact .inl (by rw[e])
  ·exact .inr (by omega)
 ·rcases hb with⟨_,e⟩ | ⟨g,tail,h1,h2,h3,h4,h5,h6,h7⟩
  ·subst e;simp
  ·omega
theorem HY(h:Pt4 w b sl l v2 v3):az aq 175 #[ae (some ⟨b,0,none⟩)] w fun e w'=>e=ak (ab (T l))/\Pt4 w' b sl l v2 v3/\aD (fun k=>b<k/\sl.a=some ⟨k,0,none⟩) w w':=by
 refine ret (Sz _ _ _ ?_);intro w0 cE;have h0:=h.only cE;obtain⟨⟨q,hB⟩,eH,Eg,mY,pE⟩:=h0;refine⟨fun k=>k=b,sl,Blk.dT hB 1 rfl,rfl,sl,Blk.dT hB 1 rfl,sl.a,w0,?_,fun k _ _=>rfl,?_⟩
 ·obtain⟨sa,yw,sc⟩:=sl;cases sa with
  | none=>exact Lib.run_unsafeSliceData_nil _ _ _ _ _
  | some a=>
   rcases mY with e | e
   ·cases e
   ·exact Lib.run_unsafeSliceData_row _ _ _ _ _ _ e
 ·by_cases hl:l=[]
  ·subst hl;have hn:sl.n=0:=eH;refine⟨T [],w0,?_,fun k _ _=>rfl,rfl,⟨⟨q,hB⟩,eH,Eg,mY,pE⟩,cE.p0⟩;rw[hn];exact Lib.run_unsafeString_none _ _ _ _ _
  ·obtain⟨g,ha,PA,hc,⟨m,Ey,hm⟩,sD⟩:=Eg hl;have hF:=qb w0 ⟨g,0,none⟩ l.length;have BM:b<w0.heap.size:=hB.lt;refine⟨T l,w0.freeze ⟨g,0,none⟩ l.length,?_,fun k hk bQ=>hF.block k bQ (by dsimp only;omega),rfl,⟨⟨q,hF.blk hB (by dsimp only;omega)⟩,eH,fun _=>⟨g,ha,PA,hc,⟨m,(tB _ _ _ _).trans Ey,hm⟩,fun j v hj=>by rw[pZ];exact sD j v hj⟩,mY,pE⟩,cE.oZ (hF.mono fun k _ hk=>by dsimp only at hk;exact⟨by omega,by rw[hk];exact ha⟩)⟩;rw[ha,eH];exact Lib.run_unsafeString_row _ _ _ _ 5 (by kernel_rfl) (by kernel_rfl) g m Ey l hl hm pE fun j x hj=>sD j (fi x) (by rw[cF,hj];rfl)
end
def fI(c:Ch):aH×Int:=
 if My c=true then(if 16384<(gq [] (SN c)).length then([],2)else if(dE (gq [] (SN c))).2.1≠0 then([],22)else(gq [] (SN c),0))else([],22)
def oT:List Vr->Nat
 | []=>0
 | v::l=>(v.n.length+1)+oT l
theorem xS{v:Vr}:∀{l:List Vr},v∈l->v.n.length+1<=oT l
 | [],h=>by simp at h
 | x::l,h=>by
  rw[oT];rcases aQ.1 h with rfl | h
  ·omega
  ·have:=xS h;omega
theorem tP:∀l:List Vr,l.length<=oT l
 | []=>bp _
 | v::l=>by
  have:=tP l;rw[oT,bf];omega
def yS(v:Vr):Bool:=dM v.n&&decide (v.v≠ -9223372036854775808)
theorem QU(c:Ch):((((((decide (c.root.b.k=1)&&decide (c.root.b.dft=[]))&&decide (c.vars.length<=16))&&decide (gp c.root<=64))&&decide (yA c.root<=200))&&dM c.root.b.nm)&&(c.vars.all yS&&vO c.root.b c.root.kids 1)&&decide (zz c.root<=400))=My c:=by
 obtain⟨vars,⟨b,l⟩⟩:=c;unfold My;show((((((decide (b.k=1)&&decide (b.dft=[]))&&decide (vars.length<=16))&&decide (gp (.mk b l)<=64))&&decide (yA (.mk b l)<=200))&&dM b.nm)&&(vars.all yS&&vO b l 1)&&decide (zz (.mk b l)<=400))=(vars.all yS&&re 0 (.mk b l)&&decide (b.k=1/\vars.length<=16/\gp (.mk b l)<=64/\yA (.mk b l)<=200/\zz (.mk b l)<=400))
 by_cases hk:b.k=1
 ·rw[<-HT (d:=0) (.inl hk) (by decide)];have:decide (b.k=1/\vars.length<=16/\gp (.mk b l)<=64/\yA (.mk b l)<=200/\zz (.mk b l)<=400)=(decide (vars.length<=16)&&decide (gp (.mk b l)<=64)&&decide (yA (.mk b l)<=200)&&decide (zz (.mk b l)<=400)):=by
   rw[bT];simp[hk,and_assoc]
  rw[this,bI hk];generalize decide (b.dft=[])=A;generalize decide (vars.length<=16)=B;generalize decide (gp (.mk b l)<=64)=C;generalize decide (yA (.mk b l)<=200)=D;generalize decide (zz (.mk b l)<=400)=E;generalize dM b.nm=G;generalize vars.all yS=H;show _=(H&&((A&&G)&&vO b l (0+1))&&(B&&C&&D&&E))
  generalize vO b l (0+1)=I;cases A<;>cases B<;>cases C<;>cases D<;>cases E<;>cases G<;>cases H<;>cases I<;>rfl
 ·have:decide (b.k=1/\vars.length<=16/\gp (.mk b l)<=64/\yA (.mk b l)<=200/\zz (.mk b l)<=400)=false:=bq fun h=>hk h.1;rw[this,bq hk];simp
theorem QV{w:av}{F:aJ}{D:Nat}{c:Ch}{vs:Sl}{cs:aI}(hx:ChR false D w F c vs cs)(hn:PC c)(hs:oT c.vars+lm c.root<=8388608)(hE:Er w)(hT:Tb w):
  az aq 128 #[ah (vs.v::cs).toArray] w fun e w'=>e=ak (ai #[ab (T (fI c).1),O U (fI c).2])/\ay [] w w':=by
 obtain⟨vars,⟨bb,ks⟩⟩:=c;cases D with
 | zero=>exact hx.root.elim
 | succ D=>
 have TL:mr false (D+1) w F (.mk bb ks) cs:=hx.root;have W3:=(cw false _).inHeap TL;have yC:aA O4 3 w F vs vars:=hx.vars.1;obtain⟨en,lv,mv,kids,rfl,vS,rK⟩:=W3;have vS:A2 false w (fun k=>F k/\k<w.heap.size) bb en lv mv:=vS;have rK:iE false (mr false D) 9 27 w (fun k=>F k/\k<w.heap.size) kids ks:=rK;have hr:=hn.r;have hr:Ht (.mk bb ks):=hr;have hvn:∀v,v∈vars->rn v.v:=hn.v;rw[Ht]at hr;have hs:oT vars+lm (.mk bb ks)<=8388608:=hs;have hsN:lm (.mk bb ks)=zG bb+fX ks:=by rw[lm]
 have JM:=hs;rw[hsN]at JM;unfold zG at JM;have abO:=QU ⟨vars,.mk bb ks⟩;generalize hP:fI ⟨vars,.mk bb ks⟩=P;unfold fI at hP;rw[<-abO]at hP;clear abO;have hP:(if((((((decide (bb.k=1)&&decide (bb.dft=[]))&&decide (vars.length<=16))&&decide (gp (.mk bb ks)<=64))&&decide (yA (.mk bb ks)<=200))&&dM bb.nm)&&(vars.all yS&&vO bb ks 1)&&decide (zz (.mk bb ks)<=400))=true then(if 16384<(gq [] (SN ⟨vars,.mk bb ks⟩)).length then([],2)else if(dE (gq [] (SN ⟨vars,.mk bb ks⟩))).2.1≠0 then([],22)else(gq [] (SN ⟨vars,.mk bb ks⟩),0))else([],22))=P:=hP;show az aq 128 #[ah (vs.v::me bb.k bb.nm bb.ini bb.dft en lv mv kids bb.a).toArray] w _;refine ret (aeP _ _ _ _ _ _ _ _ _ _ _ _ ?_);intro k0 b w1 gH eW hb kV cA;have hvl:=yC.len;have hvz:=tP vars;refine(HX (D+1) w1 F (.mk bb ks) _ ((cw false _).keep TL fun k _ bQ=>cA.block k bQ (by simp)) (by omega)).mono ?_;rintro _ w2 ⟨rfl,cR⟩;have z2:=cR.size;refine⟨_,_,rfl,cR.same (by simp;omega),fun qY gL=>?_⟩;have q2:Qz w b w2 [] (false,0):=⟨cA.cp cR,hb,⟨none,Sl.nil,.inl rfl,qY,.inl ⟨rfl,rfl⟩⟩,fun _=>⟨lU 0,by decide⟩,bp _⟩
 have t2:Zq false w w2 b w2 [] (false,0) [k0]:=⟨q2,Mw.refl _ _ _,fun k hk=>by
  simp only[aN]at hk;subst hk;exact⟨by omega,gL,fun h=>by have:=HJ qY h;cases this⟩⟩
 have hF:∀k,(fun k=>F k/\k<w.heap.size) k->k<w.heap.size:=fun k hk=>hk.2;have hw:=q2.o;rw[show ao #[]=T []from rfl,kH,hvl];refine(iH t2.toQz _).mono ?_;rintro _ w3 ⟨rfl,WO,u1,u2,u3⟩;have t3:=t2.nx u2 u3.up;have Ei:((((bb.k==1)&&decide (bb.dft=[]))&&decide ((vars.length:Int)<=16))&&decide ((gp (.mk bb ks):Int)<=64)&&decide ((yA (.mk bb ks):Int)<=200))=((((decide (bb.k=1)&&decide (bb.dft=[]))&&decide (vars.length<=16))&&decide (gp (.mk bb ks)<=64))&&decide (yA (.mk bb ks)<=200)):=by
  rw[bT];simp only[aR,ol,bW];constructor
  ·rintro⟨⟨⟨⟨a1,a2⟩,a3⟩,a4⟩,a5⟩;exact⟨⟨⟨⟨a1,a2⟩,by omega⟩,by omega⟩,by omega⟩
  ·rintro⟨⟨⟨⟨a1,a2⟩,a3⟩,a4⟩,a5⟩;exact⟨⟨⟨⟨a1,a2⟩,by omega⟩,by omega⟩,by omega⟩
 rw[Ei]at u1;obtain⟨q3a,q3b,_,um,_⟩:=t3.ex;refine⟨rfl,t2.sm u3 (by simp),q3a,q3b,_,_,um,(kA t3.toQz bb.nm (by omega)).mono ?_⟩;rintro _ w4 ⟨rfl,Ga,v1,v2,v3⟩;have t4:=t3.nx v2 v3.up;obtain⟨q4a,q4b,_,ub,_⟩:=t4.ex;have lK:=gr [fy,bb.nm,[123]];simp only[bE,dV,cj,fY,bf,cu]at lK;have hwc:fy.length=5:=rfl;obtain⟨q5,w5,e5,eJ,hj5⟩:=vm t4.toQz [fy,bb.nm,[123]] (n:=3) (parts:=#[.mk 0 (ab (T fy)),.mk 1 (ab (T bb.nm)),.mk 2 (ab (T [123]))]) rfl rfl (by decide) (by decide) 0 (by decide) (by omega);refine⟨_,rfl,t3.sm v3 (by simp),q4a,q4b,_,_,ub,q5,w5,e5,?_,hj5.mono ?_⟩
 ·refine eJ.same fun x hx=>⟨?_,by simp⟩
  simp only[aQ,aW,bP]at hx;rcases hx with rfl | rfl
  ·exact(t4.k x (by simp)).1
  ·exact t4.toQz.lb
 rintro _ w6 ⟨rfl,x1,x2⟩;have t6:=t4.nx x1 x2;have hU6:=u1.tr v1;have hl6:Ga.1=false->(if Ga.1 then([]:aH)else nP [] (0,eV [fy,bb.nm,[123]]))=gq [] [(0,fy++32::(bb.nm++[32,123]))]:=fun e=>by
  rw[e];simp only[iX,iI];rw[kg,mO (by decide),eL (oS (v1.ok e).2.1),eL (by rfl),dG,eK,eK,kf];rfl
 generalize (if Ga.1 then([]:aH)else nP [] (0,eV [fy,bb.nm,[123]]))=l6 at*
 obtain⟨q6a,q6b,_,PB,_⟩:=t6.ex;refine⟨rfl,t4.sl eJ x2 (by simp),q6a,q6b,_,_,PB,fun nv i q l' wr ac w'=>∃(j:Nat) (cn:St) (l':aH),i=j/\j<=vars.length/\nv=vars.length-j/\Up Ga ((vars.take j).all yS) 0 cn/\(cn.1=false->l'=gq l6 ((vars.take j).map fun v=>(1,vrT v)))/\Zq false w w2 b w' l' cn [k0],
  vars.length,⟨0,Ga,l6,rfl,bp _,rfl,t6.toQz.VD,fun _=>rfl,t6⟩,?_⟩
 rintro nv _ qa la wr ac w7 ⟨j,TI,l7,rfl,hj,rfl,IL,WV,t7⟩;refine⟨fun hc=>?_,fun hc=>?_⟩
 ·have bQ:(j:Int)<vars.length:=aP hc;obtain⟨ad,v,cs,g1,g2,g3,g4,g5,g6⟩:=(SliceF.only fe (by decide) yC t7.o (by simp)).get (bm j) (by omega);rw[aZ]at g2;have hvm:=bG g2;have hvz:=xS hvm;have pM:vars.take (j+1)=vars.take j++[v]:=by
   rw[bH,g2];rfl
  unfold O4 at g6;subst g6;refine⟨ad,g1,_,_,_,g5,fun k4 w8 yF Ef fp _=>?_⟩;have t8:=t7.al fp yF Ef;refine(iH t8.toQz _).mono ?_;rintro _ w9 ⟨rfl,WQ,y1,y2,y3⟩;have t9:=t8.nx y2 y3.up;obtain⟨q9a,q9b,_,hB9,_⟩:=t9.ex;refine⟨rfl,t8.sm y3 (by simp),q9a,q9b,_,_,hB9,fun dw dR _=>⟨fun k=>k∈[k4],by simp,?_⟩⟩;have t10:=t9.q dR;refine(kA t10.toQz v.n (by omega)).mono ?_;rintro _ dr ⟨rfl,WY,y4,y5,y6⟩;have t11:=t10.nx y5 y6.up;obtain⟨aiu,aiv,_,Ed,_⟩:=t11.ex;refine⟨_,rfl,t10.sm y6 (by simp),aiu,aiv,_,_,Ed,bL.of (t10.sm y6 (by simp)),(we v.v (hvn v hvm) (hT.only t11.o)).mono ?_⟩;rintro _ dX ⟨rfl,eM⟩;have t12:=t11.q eM;obtain⟨aiw,aix,_,W4,_⟩:=t12.ex;have IH:=DE (hvn v hvm);have lK:=gr [Dh,v.n,[61],Lib.itoa v.v++[59]];simp only[bE,dV,cj,fY,bf,cu,aO]at lK;have hwv:Dh.length=3:=rfl;obtain⟨q13,eS,e13,ez,aiy⟩:=vm t12.toQz [Dh,v.n,[61],Lib.itoa v.v++[59]] (n:=4) (parts:=#[.mk 0 (ab (T Dh)),.mk 1 (ab (T v.n)),.mk 2 (ab (T [61])),.mk 3 (ab (T (Lib.itoa v.v++[59])))]) rfl rfl (by decide) (by decide) 1 (by decide) (by omega);refine⟨T (Lib.itoa v.v),rfl,t11.sq eM (by simp),aiw,aix,_,_,W4,bL.of (t11.sq eM (by simp)),by rw[de];omega,q13,eS,by rw[show ao #[59]=T [59]from rfl,jT];exact e13,?_,bL.of (t12.sq ez (by simp)),aiy.mono ?_⟩
  ·refine ez.same fun x hx=>⟨?_,by simp⟩
   simp only[aQ,aW,bP]at hx;rcases hx with rfl | rfl | rfl
   ·exact(t12.k x (by simp)).1
   ·exact t12.toQz.lb
   ·exact(t12.k x (by simp)).1
  rintro _ eZ ⟨rfl,y7,y8⟩;have t14:=t12.nx y7 y8;obtain⟨aiz,aiA,_,Ec,_⟩:=t14.ex;refine⟨rfl,t12.sl ez y8 (by simp),aiz,aiA,_,_,Ec,bL.of (t12.sl ez y8 (by simp)),vars.length-(j+1),by omega,j+1,WY,_,by rw[fQ (by omega) (by omega)];rfl,by omega,rfl,((IL.tr y1).tr y4).cg ?_ rfl,fun e=>?_,⟨t14.toQz,t14.m,fun k hk=>t14.k k (by simp at hk;simp[hk])⟩⟩
  ·rw[pM,wB];have:(v.v != -9223372036854775808)=decide (v.v≠ -9223372036854775808):=by rw[bT];simp
   rw[this];unfold yS;simp only[List.all_cons,List.all_nil,jw];rw[yX,Bool.and_comm (decide _) (dM _)]
  ·have OL:ne (Lib.itoa v.v++[59])=true:=by
    have:Lib.itoa v.v++[59]≠[]:=by simp
    unfold ne;rw[bq this];rfl
   rw[e];simp only[iX,iI];rw[WV (y1.ok (y4.ok e).1).1,pM,cN,iG,mO (by decide),eL (oS (y4.ok e).2.1),eL (by rfl),eL OL,dG,eK,eK,eK,kf,bN];rfl
 have sP:¬(j:Int)<vars.length:=aU hc;have og:j=vars.length:=by omega
 subst og;rw[bA (aV _)]at IL WV;refine(MY (HW D) t7.toQz (vS.keep fun k hk _=>t7.o.block k hk.2 (by simp)) (rK.keep (cw false D) (by decide) fun k hk _=>t7.o.block k hk.2 (by simp)) hF hr.1 hr.2 (by omega) 1 (by decide) hE hT).mono ?_;rintro _ w8 ⟨rfl,WU,l8,hU8,hl8,y1,y2⟩;have t8:=t7.nx y1 y2;obtain⟨q8a,q8b,_,vT,_⟩:=t8.ex;obtain⟨q9,w9,e9,fS,hj9⟩:=vm t8.toQz [[125]] (n:=1) (parts:=#[.mk 0 (ab (T [125]))]) rfl rfl (by decide) (by decide) 0 (by decide) (by decide);refine⟨rfl,t7.sm y2 (by simp),q8a,q8b,_,_,vT,q9,w9,e9,?_,hj9.mono ?_⟩
 ·refine fS.same fun x hx=>⟨?_,by simp⟩
  simp only[aQ,aW,bP]at hx;rcases hx with rfl | rfl
  ·exact(t8.k x (by simp)).1
  ·exact t8.toQz.lb
 rintro _ dw ⟨rfl,x3,x4⟩;have t10:=t8.nx x3 x4;have hU:=hU6.tr (IL.tr hU8);have hlF:WU.1=false->(if WU.1 then l8 else nP l8 (0,eV [[125]]))=gq [] (SN ⟨vars,.mk bb ks⟩):=fun e=>by
  obtain⟨e7,_⟩:=hU8.ok e;obtain⟨e4,_⟩:=IL.ok e7;rw[e];simp only[iX,iI];rw[hl8 e,WV e7,hl6 e4];have e1:eV [[125]]=[125]:=by decide
  rw[e1,<-kg,<-iG,<-iG,<-iG];unfold SN;rw[bF (XD 1 bb)];exact rfl
 generalize (if WU.1 then l8 else nP l8 (0,eV [[125]]))=lF at*
 obtain⟨abP,abQ,_,ua,_⟩:=t10.ex;have hcond:((((((decide (bb.k=1)&&decide (bb.dft=[]))&&decide (vars.length<=16))&&decide (gp (.mk bb ks)<=64))&&decide (yA (.mk bb ks)<=200))&&dM bb.nm)&&(vars.all yS&&vO bb ks 1)&&decide (zz (.mk bb ks)<=400))=!WU.1:=by
  have h1:=hU.w;have aiB:decide (400<(0:Int)+((0+0+(0+(SM bb+rX ks)):Nat):Int))=!decide (zz (.mk bb ks)<=400):=by
   rw[zz];by_cases h4:SM bb+rX ks<=400
   ·rw[bI h4,bq (by omega)];rfl
   ·rw[bq h4,bI (by omega)];rfl
  have h1:WU.1=((false||!((((((decide (bb.k=1)&&decide (bb.dft=[]))&&decide (vars.length<=16))&&decide (gp (.mk bb ks)<=64))&&decide (yA (.mk bb ks)<=200))&&dM bb.nm)&&(vars.all yS&&vO bb ks 1)))||decide (400<(0:Int)+((0+0+(0+(SM bb+rX ks)):Nat):Int))):=h1;rw[aiB]at h1;rw[h1];generalize ((((((decide (bb.k=1)&&decide (bb.dft=[]))&&decide (vars.length<=16))&&decide (gp (.mk bb ks)<=64))&&decide (yA (.mk bb ks)<=200))&&dM bb.nm)&&(vars.all yS&&vO bb ks 1))=A;generalize decide (zz (.mk bb ks)<=400)=B;cases A<;>cases B<;>rfl
 rw[hcond]at hP;have fin:∀{w':av},ay [] w2 w'->ay [] w w':=fun h=>hw.cp h;have o10:ay [] w dw:=t10.o;refine⟨rfl,t8.sl fS x4 (by simp),abP,abQ,_,_,ua,fun e=>?_,fun e=>(HN t10.toQz).mono ?_⟩
 ·rw[if_neg (by rw[e];decide)]at hP;subst hP;exact⟨rfl,o10⟩
 rw[if_pos (by rw[e];rfl),<-hlF e]at hP;rintro _ _ ⟨rfl,rfl⟩;obtain⟨slP,hPt,hPb⟩:=t10.toQz.pt;have hbu:=fun k hk=>t10.toQz.bu (hPb k hk);refine⟨_,rfl,fun _ _=>rfl,abP,abQ,_,_,ua,fun e2=>?_,fun e2=>(HY hPt).mono ?_⟩
 ·rw[if_pos (aP e2)]at hP;subst hP;exact⟨rfl,o10⟩
 rw[if_neg (aU e2)]at hP;rintro _ dr ⟨rfl,TM,dS⟩;have BS:=dS.size;have hlb:=t10.toQz.lb;have k0h:=t10.k k0 (by simp);have ko:∀k,(b<k/\slP.a=some ⟨k,0,none⟩)->w.heap.size<=k:=fun k hk=>by have:=t10.lo;omega
 have o11:ay [] w dr:=(o10.oZ dS).only ko;obtain⟨XY,Ed⟩:=TM.blk;refine⟨_,rfl,dS.same fun x hx=>?_,XY,slP,_,_,Ed,(DA _ (hE.only o11)).mono ?_⟩
 ·simp only[aN]at hx;subst hx;exact⟨k0h.1,fun h=>k0h.2.2 (hPb _ h.2)⟩
 rintro _ dX ⟨vsx,csx,rfl,hC,eM⟩;obtain⟨xe,xl,xm,xk,rfl,_⟩:=hC.root;have TN:=TM.only eM;obtain⟨q12,W4⟩:=TN.blk;have Yg:=o11.cp eM;have z12:=eM.size;refine⟨vsx,_,_,_,_,xe,xl,xm,xk,_,_,_,rfl,eM.same (by simp;omega),q12,slP,_,_,W4,fun e3 k6 k7 eS _ _ _ _ ez _=>?_,fun e3 k8 k9 eZ hk8 RH hk9 W5 dN _=>?_⟩
 ·rw[if_pos (by simpa using e3)]at hP;subst hP;exact⟨rfl,Yg.cp ez⟩
 ·rw[if_neg (by simpa using e3)]at hP;subst hP;refine(HY (TN.only dN)).mono ?_;rintro _ fU ⟨rfl,abT,ix⟩;obtain⟨q15,WI⟩:=abT.blk;have TA:=dN.size;refine⟨_,rfl,ix.same fun x hx=>?_,q15,slP,_,_,WI,rfl,((Yg.cp dN).oZ ix).only ko⟩;simp only[aQ,aW,bP]at hx;rcases hx with rfl | rfl | rfl
  ·exact⟨by omega,fun h=>k0h.2.2 (hPb _ h.2)⟩
  ·exact⟨RH,fun h=>by have:=(hbu _ h.2).2;omega⟩
  ·exact⟨W5,fun h=>by have:=(hbu _ h.2).2;omega⟩
def inB(n:Int):Bool:=decide (-9223372036854775808<=n/\n<=9223372036854775807)
theorem MZ{n:Int}(h:inB n=true):rn n:=by
 have h:=aP h;exact⟨h.1,h.2⟩
mutual
def XF:Ex->Bool
 | .mk _ n _ _ l _=>inB n&&QW l
def QW:List Ex->Bool
 | []=>true
 | x::l=>XF x&&QW l
end
theorem HZ{y:Ex}:∀{l:List Ex},QW l=true->y∈l->XF y=true
 | [],_,h=>by simp at h
 | x::l,h,hy=>by
  rw[QW,aR]at h;rcases aQ.1 hy with rfl | hy
  ·exact h.1
  ·exact HZ h.2 hy
theorem U8:∀(d:Nat) {x:Ex},XF x=true->pe d x
 | 0,_,_=>trivial
 | d+1,.mk k n s op l a,h=>by
  rw[XF,aR]at h;exact⟨MZ h.1,fun y hy=>U8 d (HZ h.2 hy)⟩
def nAb(a:Ac):Bool:=XF a.x
def nMb(m:Mv):Bool:=XF m.g&&m.acts.all nAb&&inB m.wt
def nNb(b:Nb):Bool:=b.en.all nAb&&b.lv.all nAb&&b.mv.all nMb
mutual
def nDb:Nd->Bool
 | .mk b l=>nNb b&&QX l
def QX:List Nd->Bool
 | []=>true
 | x::l=>nDb x&&QX l
end
theorem M0{l:List Ac}(h:l.all nAb=true):∀a,a∈l->SO a:=fun a ha d=>U8 d ((eb.1 h) a ha)
theorem af1{m:Mv}(h:nMb m=true):mvN m:=by
 unfold nMb at h;simp only[aR]at h;exact⟨fun d=>U8 d h.1.1,M0 h.1.2,MZ h.2⟩
theorem af2{b:Nb}(h:nNb b=true):nbN b:=by
 unfold nNb at h;simp only[aR]at h;exact⟨M0 h.1.1,M0 h.1.2,fun m hm=>af1 ((eb.1 h.2) m hm)⟩
mutual
theorem Z0:∀(x:Nd),nDb x=true->Ht x
 | .mk b l,h=>by
  rw[nDb,aR]at h;rw[Ht];exact⟨af2 h.1,S3 l h.2⟩
theorem S3:∀(l:List Nd),QX l=true->xH l
 | [],_=>by rw[xH];trivial
 | x::l,h=>by
  rw[QX,aR]at h;rw[xH];exact⟨Z0 x h.1,S3 l h.2⟩
end
def nCb(c:Ch):Bool:=(c.vars.all fun v=>inB v.v)&&nDb c.root
theorem af4{c:Ch}(h:nCb c=true):PC c:=by
 unfold nCb at h;simp only[aR]at h;exact⟨fun v hv=>MZ ((eb.1 h.1) v hv),Z0 _ h.2⟩
def af5(c:Ch):Bool:=decide (oT c.vars+lm c.root<=8388608)
theorem ChR.off{d:Nat}{w:av}{F:aJ}{c:Ch}{vs:Sl}{cs:aI}(h:ChR true d w F c vs cs):ChR false d w F c vs cs:=⟨h.vars.off fun _ _ _ h=>h,Hq h.root⟩
end
def U9(x:du):aI:=[O U x.k,ab (T x.nm),O U x.pa,O U x.dp,O U x.en]
def xT:Rp du:=fun _ _ x cs=>cs=U9 x
theorem ey:xT.Ok:=⟨fun h _=>h,fun h=>h,fun h _=>h,fun h=>by
 unfold xT U9 at h;subst h;intro v hv;simp only[aQ,aW,bP]at hv;rcases hv with rfl | rfl | rfl | rfl | rfl<;>rfl⟩
abbrev gu(B:Nat)(w:av)(s:Sl)(xs:List du):Prop:=Own xT 5 125 B w (fun _=>False) s xs
theorem gu.of{B:Nat}{w:av}{F:aJ}{s:Sl}{xs:List du}(h:Own xT 5 125 B w F s xs):gu B w s xs:=by
 rcases h with⟨rfl,rfl⟩ | ⟨g,css,tail,h1,h2,h4,h5,h6,h7,h9,h8⟩
 ·exact .inl ⟨rfl,rfl⟩
 ·exact .inr ⟨g,css,tail,h1,h2,h4,h5,h6,h7,h9,ff.NL (fun x c _ hc=>hc) h8⟩
theorem gu.vv{B:Nat}{w w':av}{G:aJ}{s:Sl}{xs:List du}(h:gu B w s xs)(hO:aD G w w')(hG:∀k,B<=k->s.a=some ⟨k,0,none⟩->¬G k):gu B w' s xs:=
 h.keep ey fun k hk bQ=>hO.block k bQ (hk.elim (fun h=>h.elim) fun h=>hG k h.1 h.2)
theorem S4(t:Bool):∀(D:Nat) {w:av} {F:aJ} {x:Nd} {cs:aI} {b:Nat} {s:Sl} {xs:List du} {pa dp:Int},mr t D w F x cs->(∀k,F k->k<b)->aF w b 161 [s.v]->gu (b+1) w s xs->
  xs.length+gp x<=1000000->0<=dp->dp+gp x<=1000000->
  az aq 87 #[ae (some ⟨b,0,none⟩),ah cs.toArray,O U pa,O U dp] w fun e w'=>e=ak (ai #[])/\∃s',aF w' b 161 [s'.v]/\gu (b+1) w' s' (xs++A7 xs.length pa dp x)/\rb b s w s' w'
 | 0,_,_,_,_,_,_,_,_,_,h,_,_,_,_,_,_=>h.elim
 | D+1,w,F,.mk bb ks,cs,b,s,xs,pa,dp,⟨en,lv,mv,kids,lQ,_,gH⟩,hF,hB,hS,hn,h0,hd=>by
  have hk:=gH.1;clear gH;dsimp only[Nd.kids,Nd.b]at hk lQ;subst lQ;rw[gp]at hn hd;have RI:=hk.len;have hnn:=nQ ks;refine ret (afd _ _ _ _ _ _ _ _ _ _ _ _ _ _ ?_);intro k0 w0 gH eW cE;have z0:=cE.size;have BM:=hB.lt;have cell:∀{u:av} {q:Sl},aF u b 161 [q.v]->aB u ((⟨b,0,none⟩:Addr).add 0) [q.v]:=fun h=>h.cells 0 [_] fun j v hj=>by rw[bJ];exact hj
  have wy:=cE.blk hB (by simp);refine⟨s,cell wy,fun w1 cA=>⟨fun k=>k=b,rfl,s,cell (cA.blk wy (by simp)),?_⟩⟩;have o1:=cE.cp cA;have z1:=cA.size;have hS1:gu (b+1) w1 s xs:=hS.vv o1.p0 fun _ _ _ h=>h;have vw:=o1.blk hB (by simp);obtain⟨y,w2,k1,k3,s3,w3,g1,g2,⟨gs,g3,g4⟩,g5⟩:=ja (P:=aq) (t:=159) (ty:=159) (e:=125) (i:=Tryz.t125) (bytes:=48) (size:=5) (r:=xT) (G:=fun _=>False) (v:=ah #[O U bb.k,ab (T bb.nm),O U pa,O U dp,O U 0]) (x:=⟨bb.k,bb.nm,pa,dp,0⟩) (by kernel_rfl) (by kernel_rfl) rfl rfl rfl rfl (by decide) (by decide) (by decide) ey hS1 (by omega) rfl rfl (fun _ h=>h.elim) (by omega);have z2:=k3.size;have z3:=g3.size;have gb:∀g,g∈gs->g≠b/\g<w1.heap.size/\s.a=some ⟨g,0,none⟩:=fun g hg=>⟨by have:=(g4 g hg).2.1;omega,(g4 g hg).2.2,(g4 g hg).1⟩
  have OM:s.a≠some ⟨k0,0,none⟩:=fun e=>by have:=(hS.blk e).2;dsimp only at this;omega
  have um:aF w3 b 161 [s.v]:=g3.blk (k3.blk vw (by simp)) fun h=>(gb b h).1 rfl;refine⟨y,w2,k1,k3.same (by simp;omega),bL.only k3,s3,w3,g1,g3.same fun x hx=>?_,fun k hk bQ=>?_,b,0,_,_,rfl,um,aV 1,by omega,fun w4 dA ub=>?_⟩
  ·simp only[aN]at hx;subst hx;exact⟨by omega,fun h=>OM (gb _ h).2.2⟩
  ·subst hk;exact g3.block _ bQ fun h=>(gb _ h).1 rfl
  have z4:=dA.size;have Yh:gu (b+1) w3 s3 (xs++[⟨bb.k,bb.nm,pa,dp,0⟩]):=gu.of g2;have Yi:gu (b+1) w4 s3 (xs++[⟨bb.k,bb.nm,pa,dp,0⟩]):=Yh.vv (G:=fun k=>k=b) (dA.p (by simp)) fun k h _=>by omega
  have m4:rb b s w s3 w4:=by
   refine⟨((o1.cp k3).oZ (g3.p (F:=fun k=>k=b∨s.a=some ⟨k,0,none⟩) fun g hg=>.inl (.inr (gb g hg).2.2))).trans (dA.p (F:=fun k=>k=b∨s.a=some ⟨k,0,none⟩) (by simp)) fun k hk=>.inl hk,fun k hk=>?_⟩;rcases g5 with e | ⟨g,e,h⟩
   ·exact .inl (by rw[<-e];exact hk)
   ·rw[e]at hk;injection hk with hk;injection hk with hk;exact .inr (by omega)
  have n4:∀k,s3.a=some ⟨k,0,none⟩->k≠k0:=fun k hk e=>by
   subst e;rcases g5 with e | ⟨g,e,h⟩
   ·exact OM (by rw[<-e];exact hk)
   ·rw[e]at hk;injection hk with hk;injection hk with hk;omega
  have iq:∀{u:av} {q:Sl},rb b s w q u->aA (mr t D) 9 u F kids ks:=fun hm=>SliceF.kU (cw t D) (by decide) hk hm.1 fun k rL _=>by
   have:=hF k rL;exact fun h=>h.elim (by omega) fun h=>by have:=(hS.blk h).1;dsimp only at this;omega
  refine⟨fun kv i w'=>∃(j:Nat) (q:Sl),i=(j:Int)/\kv+j=ks.length/\j<=ks.length/\aF w' b 161 [q.v]/\gu (b+1) w' q (xs++⟨bb.k,bb.nm,pa,dp,0⟩::rB (xs.length+1) xs.length (dp+1) (ks.take j))/\rb b s w q w'/\w4.heap.size<=w'.heap.size/\∀k,q.a=some ⟨k,0,none⟩->k≠k0,ks.length,⟨0,s3,rfl,by omega,bp _,ub,by rw[cK,rB];exact Yi,m4,aV _,n4⟩,?_⟩;rintro kv _ w5 ⟨j,q,rfl,u5,lK,uX,IM,m5,z5,n5⟩;have OO:s.n=xs.length:=hS.len;constructor
  ·intro hc;have hj:j<ks.length:=by have:=aP hc;omega
   obtain⟨y,hy⟩:∃y,ks[j]? =some y:=⟨_,bB hj⟩
   obtain⟨ad,y',ds,a1,a2,a3,a4,a5,a6⟩:=(iq m5).get (bm j) (by omega);rw[aZ,hy]at a2;injection a2 with a2;subst a2;have PG:=a6;obtain⟨D',rfl⟩:∃D',D=D'+1:=by
    cases D with
    | zero=>exact a6.elim
    | succ D'=>exact⟨D',rfl⟩
   obtain⟨uY,uZ,pO,jv,rfl,_⟩:=PG;have pC:=lO hy;have hx1:(xs++⟨bb.k,bb.nm,pa,dp,0⟩::rB (xs.length+1) xs.length (dp+1) (ks.take j)).length=xs.length+1+di (ks.take j):=by
    rw[aO,bf,tF];omega
   refine⟨ad,a1,_,_,_,_,uY,uZ,pO,jv,_,a5,fun k6 w6 hk6 RT eh=>?_⟩;have z6:=eh.size;have m6:rb b s w q w6:=m5.trans (rb.only eh);rw[fQ (by omega) (by omega),OO];refine(S4 t (D'+1) (pa:=((xs.length:Nat):Int)) ((cw t (D'+1)).keep a6 fun k _ bQ=>eh.block k bQ (by simp)) (s:=q) (xs:=xs++⟨bb.k,bb.nm,pa,dp,0⟩::rB (xs.length+1) xs.length (dp+1) (ks.take j)) (b:=b) (dp:=dp+1) hF (eh.blk uX (by simp)) (IM.vv eh.p0 fun _ _ _ h=>h) (by rw[hx1];omega) (by omega) (by omega)).mono ?_;rintro _ w7 ⟨rfl,q7,hB7,hS7,m7⟩;have z7:=m7.1.size;refine⟨rfl,m7.1.same fun x hx=>?_,kv-1,by omega,j+1,q7,by rw[fQ (by omega) (by omega)];rfl,by omega,by omega,hB7,?_,m6.trans m7,by omega,fun k hk e=>?_⟩
   ·simp only[aQ,aW,bP]at hx;rcases hx with rfl | rfl
    ·exact⟨by omega,fun h=>h.elim (by omega) fun h=>n5 _ h rfl⟩
    ·refine⟨RT,fun h=>h.elim (by omega) fun h=>?_⟩;have:=(IM.blk h).2;dsimp only at this;omega
   ·have e:ks.take (j+1)=ks.take j++[y]:=by rw[bH,hy];rfl
    rw[e,Hu,rB,rB,bN];rw[hx1,bF,bZ]at hS7;exact hS7
   ·subst e;rcases m7.2 _ hk with h | h
    ·exact n5 _ h rfl
    ·omega
  ·intro hc w8 fp;have og:j=ks.length:=by have:=aU hc;omega
   subst og;rw[bA (aV _)]at IM;have vT:=fp.blk uX (by simp);have hS8:gu (b+1) w8 q _:=IM.vv fp.p0 fun _ _ _ h=>h;have z8:=fp.size;have VE:(xs++⟨bb.k,bb.nm,pa,dp,0⟩::rB (xs.length+1) xs.length (dp+1) ks)[xs.length]? =some ⟨bb.k,bb.nm,pa,dp,0⟩:=by
    rw[bX (aV _),mD];rfl
   obtain⟨g,cells,ui,p1,p2,p3,p4,p5,p6,p7⟩:=Own.NK ey hS8 VE;have aiH:ui=U9 ⟨bb.k,bb.nm,pa,dp,0⟩:=p6;subst aiH;have hql:q.n=xs.length+1+di ks:=by rw[IM.len,aO,bf,tF];omega
   obtain⟨p8,p9⟩:=p7 4 (O U (q.n:Int)) ⟨bb.k,bb.nm,pa,dp,(q.n:Int)⟩ (fun _=>False) (by decide) rfl fun _ h=>h.elim;rw[<-OO]at p2;have hgb:=(IM.blk p1).1;dsimp only at hgb;refine⟨q,cell vT,q,cell vT,_,p2,g,xs.length*5+4,cells,_,by rw[eU,OO],p3,by rw[<-OO]at p8⊢;exact p8,fun e=>n5 g p1 e.symm,fun w9 fS hB9=>⟨rfl,q,fS.blk vT (by simp;omega),?_,?_⟩⟩
   ·have:=p9 w9 fS hB9;rw[ni _ _ (aV _),mD,Ek]at this;rw[A7];have e:(q.n:Int)=((xs.length+1+di ks:Nat):Int):=by rw[hql]
    rw[e]at this;exact this
   ·refine(m5.trans (rb.only fp)).trans ⟨fS.p fun k hk=>?_,fun k hk=>.inl hk⟩;simp only[aN]at hk;subst hk;exact .inl (.inr p1)
end Go.Proofs.YtbkjcdocjfknfaaGreatDoor.Con
