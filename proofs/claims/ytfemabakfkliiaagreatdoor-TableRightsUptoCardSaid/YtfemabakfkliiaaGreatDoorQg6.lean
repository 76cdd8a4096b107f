import Derived.Test.YtfemabakfkliiaaGreatDoorQg5
set_option linter.defProp false
set_option linter.unusedSectionVars false
set_option linter.unusedSimpArgs false
set_option linter.unusedVariables false
set_option maxHeartbeats 4000000
open Bool renaming true->L,false->aL
open Option renaming some->aM,none->aaf
open List renaming length->I
open Go.Value renaming int->O,string->K,pointer->ae,agg->ah,tuple->ai,bool->aj
open Go.IntKind renaming i64->U,wrap->ar
open Go.Ending renaming returned->ak
open _root_.ByteArray renaming mk->ao
open _root_.Go.Proofs.Tryz renaming prog->Q
open Go.Instr renaming buildSlice->au
open Go renaming World->M,Value->aw,Calls->az
open Go.Kt renaming Only->Z,SliceF->aA,Cells->aB,OnlyP->aD,Blk->aF
namespace Go.Proofs.YtfemabakfkliiaaGreatDoor.Con
open Go Go.RowKit Go.Kt Go.Kt.V Go.Proofs.YtfemabakfkliiaaGreatDoor.Vc
def MX(a:M)(op:Int):az Q 289 #[O U op] a λe c=>e=ak (O U (fP op))/\c=a:=by
 refine ret (arH _ ?_);have fin:∀{k:Int} {w:M},fP op=k->(Value.int U k=O U (fP op)/\w=w):=λe=>⟨by rw[e],rfl⟩
 refine⟨λh=>fin ?_,λh=>⟨λb c=>b=decide (op=1∨op=2)/\c=a,?_,λh1=>⟨?_,rfl⟩,λh1=>⟨?_,rfl⟩⟩⟩
 ·simp only[aU,bF]at h;unfold fP;rw[aV J]
 ·rintro _ w ⟨rfl,rfl⟩;have h:¬(3<=op/\op<=5):=λf=>by rw[bE f.1,bE f.2]at h;cases h
  refine⟨λh1=>fin ?_,λh1=>⟨λe=>fin ?_,λe=>⟨λb g=>b=decide (op=10∨op=11)/\g=w,?_,λd=>⟨?_,rfl⟩,λd=>⟨?_,rfl⟩⟩⟩⟩
  ·have h1:=aN h1;unfold fP;rw[aR h,aV h1]
  ·have h1:=aQ h1;simp only[aU,bF]at e;unfold fP;rw[aR h,aR h1,aV J]
  ·rintro _ _ ⟨rfl,rfl⟩;have h1:=aQ h1;have e:¬(6<=op/\op<=9):=λf=>by rw[bE f.1,bE f.2]at e;cases e
   refine⟨λd=>fin ?_,λd=>⟨λh4=>fin ?_,λh4=>⟨λb=>fin ?_,λb=>fin ?_⟩⟩⟩
   ·have d:=aN d;unfold fP;rw[aR h,aR h1,aR e,aV d]
   ·have d:=aQ d;have h4:op=12:=agV
    unfold fP;rw[aR h,aR h1,aR e,aR d,aV h4]
   ·have d:=aQ d;have h4:¬op=12:=agV
    have b:op=13:=by simpa using b
    unfold fP;rw[aR h,aR h1,aR e,aR d,aR h4,aV b]
   have d:=aQ d;have h4:¬op=12:=agV
   have b:¬op=13:=by simpa using b
   unfold fP;rw[aR h,aR h1,aR e,aR d,aR h4,aR b]
  ·have d:op=10:=by simpa using d
   rw[d];rfl
  have d:¬op=10:=by simpa using d
  rw[bM];simp[d]
 ·have h1:op=1:=acf
  rw[h1];rfl
 have h1:¬op=1:=acf
 rw[bM];simp[h1]
section
variable {F G:aJ} {ts:List Tk} {w w':M} {b:Nat} {l sn:Sl} {i:Nat} {fc fa d:Int}
def Da(a:Rd F G ts w b l sn i fc fa d)(k:Int):az Q 276 #[ae (aM ⟨b,0,aaf⟩),O U k] w λe w'=>e=ak (O U (if fc=0 then lH ts k i else 0))/\Z [] w w':=by
 refine ret (arz _ _ ?_);refine⟨λn f w'=>∃op:Nat,1<=op/\op<=14/\f=(op:Int)/\n=14-op/\(if fc=0 then lH ts k i else 0)=(if fc=0 then mj ts k i (14-op) op else 0)/\Z [] w w',13,⟨1,X,X,rfl,rfl,rfl,Only.refl _ _⟩,?_⟩;rintro n _ m ⟨op,g,j,rfl,rfl,V,D⟩;refine⟨λh=>?_,λh=>?_⟩
 ·have h:(op:Int)<=13:=aN h;obtain⟨b,d⟩:∃b,14-op=b+1:=⟨13-op,J⟩
  rw[d,mj]at V;refine⟨λc w'=>c=(decide (fP (op:Int)=k)&&(fc==0&&sg ts i (eX op)))/\Z [] w w',?_,λe R=>(MX e _).mono ?_⟩
  ·rintro _ w ⟨rfl,E⟩;refine⟨λc=>⟨?_,E⟩,λc=>⟨b,J,op+1,J,J,aaA,J,?_,E⟩⟩
   ·simp only[aU,bF,db]at c;rw[V,aV c.2.1,aV ⟨c.1,c.2.2⟩]
   rw[V,show 14-(op+1)=b by omega];by_cases i:fc=0
   ·rw[aV i,aV i,aR];rintro⟨k,l⟩;rw[bE k,l,i]at c;simp at c
   rw[aR i,aR i]
  rintro _ w ⟨rfl,rfl⟩;have c:=a.only (D.cn R);refine⟨_,rfl,λhk=>?_,λhk=>?_⟩
  ·have hk:fP (op:Int)=k:=abI
   have C:=c.sig.len;have r:I xM=16:=rfl;obtain⟨ad,x,z,p,l,A,B,q,o⟩:=c.sig.get (i:=(op:Int)) J J;unfold ke at o;subst o;rw[aW]at l;have s:eX op=x:=by unfold eX;rw[l];rfl
   subst s;obtain⟨v,y,t,u,k3⟩:=is1 c (eX op);refine⟨sn,Blk.dM c.blk 5 rfl,ad,p,_,q,v,y,t,k3.mono ?_⟩;rintro _ E ⟨rfl,W⟩;exact⟨_,rfl,by rw[bE hk,cm],D.cn (R.cn (u.cn W))⟩
  have hk:¬fP (op:Int)=k:=abI
  exact⟨by rw[bD hk,cV],D.cn R⟩
 have h:¬(op:Int)<=13:=aQ h;have:op=14:=J
 subst this;rw[V];refine⟨?_,D⟩;split<;>rfl
end
abbrev oa(k n:Int)(s:aH)(op:Int)(sl:Sl)(a:Int):aI:=[O U k,O U n,K (T s),O U op,sl.v,O U a]
inductive RXN (w:M) (N:aJ):Nat->Nat->Ex->aI->Prop
 | leaf (lo hi:Nat) (k n:Int) (s:aH) (op a:Int):RXN w N lo hi (.mk k n s op [] a) (oa k n s op Sl.nil a)
 | one (lo m g hi:Nat) (k n:Int) (s:aH) (op a:Int) (x:Ex) (cs:aI):RXN w N lo m x cs->lo<=g->m<=g->g<hi->¬N g->aF w g 68 cs->RXN w N lo hi (.mk k n s op [x] a) (oa k n s op ⟨aM ⟨g,0,aaf⟩,1,1⟩ a)
 | two (lo m m' m2 g hi:Nat) (k n:Int) (s:aH) (op a:Int) (x y:Ex) (cs ds:aI):RXN w N lo m x cs->m<=m'->RXN w N m' m2 y ds->lo<=m'->m<=g->m'<=g->m2<=g->g<hi->¬N g->aF w g 68 (cs++ds)->RXN w N lo hi (.mk k n s op [x,y] a) (oa k n s op ⟨aM ⟨g,0,aaf⟩,2,2⟩ a)
abbrev RX(w:M):Nat->Nat->Ex->aI->Prop:=RXN w λ_=>False
section
variable {w w':M} {N N':aJ} {lo hi:Nat} {x:Ex} {cs:aI}
def RXN.keep(h:RXN w N lo hi x cs):(∀k,lo<=k->k<hi->¬N k->k<w.heap.size->w'.heap[k]? =w.heap[k]?)->RXN w' N lo hi x cs:=by
 induction h with
 | leaf lo hi k n s op a=>exact λ_=>.leaf ..
 | one lo o g hi k n s op a x cs p b f c e d l=>
  intro hk;exact .one lo o g hi k n s op a x cs (l λm i q j=>hk m i J j) b f c e ((hk g b c e d.lt).trans d)
 | two lo u v w g hi k n s op a x y cs m z o A p q r t d f e E i=>
  intro hk;exact .two lo u v w g hi k n s op a x y cs m (E λj c l b=>hk j c J b) o (i λj c l b=>hk j J J b) p q r t d f ((hk g J d f e.lt).trans e)
def RXN.wide(h:RXN w N lo hi x cs):∀{l F:Nat},l<=lo->hi<=F->RXN w N l F x cs:=by
 induction h with
 | leaf lo hi k n s op a=>exact λ_ _=>.leaf ..
 | one lo m g hi k n s op a x cs j o c p e d i=>
  intro l F b f;exact .one l m g F k n s op a x cs (i b (aX _)) J c J e d
 | two lo p q r g hi k n s op a x y cs d v c e w f i j z o m E t=>
  intro l F b u;exact .two l p q r g F k n s op a x y cs d (E b (aX _)) c e J f i j J o m
def RXN.FY(h:RXN w N lo hi x cs):(∀k,lo<=k->k<hi->¬N k->¬N' k)->RXN w N' lo hi x cs:=by
 induction h with
 | leaf lo hi k n s op a=>exact λ_=>.leaf ..
 | one lo m g hi k n s op a x cs o b d c i e j=>
  intro hk;exact .one lo m g hi k n s op a x cs (j λl f p=>hk l f J) b d c (hk g b c i) e
 | two lo t u v g hi k n s op a x y cs f w i z l m o p c r q E d=>
  intro hk;exact .two lo t u v g hi k n s op a x y cs f (E λj b e=>hk j b J) i (d λj b e=>hk j J J) l m o p c (hk g J c r) q
def RXN.cells(h:RXN w N lo hi x cs):∃sl:Sl,cs=oa x.k x.n x.s x.op sl x.a/\(sl.n=I x.dC):=by
 cases h with
 | leaf=>exact⟨_,rfl,rfl⟩
 | one=>exact⟨_,rfl,rfl⟩
 | two=>exact⟨_,rfl,rfl⟩
def RXN.only(h:RXN w N lo hi x cs){b:List Nat}(c:Z b w w')(d:∀k,k∈b->k<lo∨hi<=k∨N k):RXN w' N lo hi x cs:=
 h.keep λk f g n a=>c.block k a λm=>by
  rcases d k m with e | e | e
  ·omega
  ·omega
  exact n e
end
def G8(w:M)(a:List (aI))(d:∀v,v∈a->I v=6)(e:0<I a)(h:I a<=100){parts:Array (Nat×aw)}(p:parts=(((a.map λv=>Value.agg v.toArray).zipIdx 0).map λx=>(x.2,x.1)).toArray):
  ∃c,(au 66 (I a) parts).run Q w=.ok (Sl.v ⟨aM ⟨w.heap.size,0,aaf⟩,I a,I a⟩) c/\aF c w.heap.size 68 a.flatten/\Z [] w c:=by
 have f:((a.map λv=>Value.agg v.toArray).flatMap λv=>v.cells.toList)=a.flatten:=by
  clear d e h p
  induction a with
  | nil=>rfl
  | cons v a i=>rw[bQ,yw,i,eV];rfl
 have b:Tryz.t68.size=6:=rfl;have A:=run_buildSlice (P:=Q) w 66 68 (I a) parts ((a.map λv=>Value.agg v.toArray).flatMap λv=>v.cells.toList).toArray Tryz.t68 _ aaz aaz rfl (by rw[b];omega) (by rw[b];omega)
  (by
   subst p;rw[lR,b];refine Go.Great.fill_whole (s:=6) X (a.map λv=>Value.agg v.toArray) _ (λv h=>?_) ?_
   ·obtain⟨x,g,rfl⟩:=eZ.1 h;have:=d x g;simpa[Value.cells]using this
   simp)
 rw[f]at A;exact⟨_,A,Blk.alloc w _ _,Only.alloc _ _⟩
def exT(v:aw):Prop:=∃(k n:Int) (s:aH) (op:Int) (sl:Sl) (a:Int),v=ah (oa k n s op sl a).toArray
def rQ(F G:aJ)(t:List Tk)(a w:M)(b:Nat)(l sn:Sl)(d:Nat)(r:Pr)(v:aw):Prop:=Z [b] a w/\match r with
 | .ok (x,j)=>∃c,v=ah c.toArray/\RX w a.heap.size w.heap.size x c/\Rd F G t w b l sn j 0 0 (d:Int)
 | .error e=>e.1≠0/\exT v/\∃j,Rd F G t w b l sn j e.1 e.2 (d:Int)
section
variable {F G:aJ} {ts:List Tk} {w w':M} {b:Nat} {l sn:Sl} {i:Nat} {fc fa d:Int}
def gw:(gF ts i).1≠0:=by
 unfold gF;dsimp only;split<;>decide
def JO{d:Nat}(hd:d<=20)(h:Rd F G ts w b l sn i 0 0 (d:Int))(o:i+1<I ts){g:Nat}{z1 z2:aI}(t:∀(x:Array aw) (w:M),(callFunc g x).run Q w=.ok (.enter g x) w)(f:OV)(p:f.v=.func (.func g) z1.toArray z2.toArray){r:Pr}
  (u:d≠20->∀m,Z [b] w m->Rd F G ts m b l sn (i+1) 0 0 ((d+1:Nat):Int)->az Q g (z1++z2).toArray m λe w'=>∃v,e=ak v/\rQ F G ts m w' b l sn (d+1) r v):
  az Q 299 #[ae (aM ⟨b,0,aaf⟩),f.v] w λe w'=>∃v,e=ak v/\rQ F G ts w w' b l sn d (jN d (tk ts i).a r) v:=by
 refine arL ⟨b,0,aaf⟩ f (λv w'=>rQ F G ts w w' b l sn d (jN d (tk ts i).a r) v) w ?_;intro j B hk A D;have y:=h.lb;have c:=h.only D;refine⟨(d:Int),Blk.dM c.blk 4 rfl,λhc=>(G6 c 21).mono ?_,λhc=>?_⟩
 ·have hc:d=20:=by have:(d:Int)=20:=abv;omega
  rintro _ m ⟨rfl,E,a⟩;rw[aV rfl,aV rfl]at a;have z1:=E.size;refine⟨rfl,E.same aba,λw R=>⟨?_,?_⟩⟩
  ·exact((D.weaken (bs':=[b]) λ_ h=>abG).trans E λx hx=>.inl hx).new R hk
  rw[jN,aV hc];exact⟨(by decide:(21:Int)≠0),⟨0,0,[],0,Sl.nil,0,rfl⟩,i,a.own R aba⟩
 have hc:d≠20:=λe=>aeH
 have SW:=h.big;refine⟨(i:Int),Blk.dM c.blk 1 rfl,b,1,_,_,rfl,c.blk,aaV,J,λw3 V tN=>?_⟩;rw[fe J J]at tN;have C:Rd F G ts w3 b l sn (i+1) 0 0 (d:Int):=c.kY V tN o;have z3:=V.size;refine⟨(d:Int),Blk.dM C.blk 4 rfl,b,4,_,_,rfl,C.blk,aaV,J,λw4 W sE=>?_⟩;rw[fe J J]at sE;have h4:Rd F G ts w4 b l sn (i+1) 0 0 ((d+1:Nat):Int):=C.kY W sE o;have T:=W.size;have wq:Z [b] w w4:=((D.weaken (bs':=[b]) λ_ h=>abG).trans V λx hx=>.inl hx).trans W λx hx=>.inl hx;refine⟨g,z1,z2,p,t,?_⟩;have e:Bp (Bp z1 []) z2=z1++z2:=by unfold Bp;rw[bG]
 rw[e];refine(u hc w4 wq h4).mono ?_;rintro _ w6 ⟨v,rfl,Y,hd⟩;have z6:=Y.size;rw[jN,aR hc];have hv:∃(k n:Int) (s:aH) (op:Int) (sl:Sl) (a:Int),v=ah (oa k n s op sl a).toArray:=by
  cases r with
  | error e=>exact hd.2.1
  | ok q=>
   obtain⟨s,rfl,hx,_⟩:=hd;obtain⟨sl,rfl,_⟩:=hx.cells;exact⟨_,_,_,_,_,_,rfl⟩
 obtain⟨vk,vn,vs,vo,aC,va,rfl⟩:=hv;refine⟨_,_,_,_,_,_,rfl,Y.same aba,λk8 w7 am XK X=>?_⟩;have z7:=X.size;have S:∀{E:Nat} {fc fa:Int},Rd F G ts w6 b l sn E fc fa ((d+1:Nat):Int)->∃N:Int,aB w7 (Addr.add ⟨b,0,aaf⟩ 4) [O U N]/\∃f H:Nat,∃T:aI,∃P:Nat,(Addr.add ⟨b,0,aaf⟩ 4)=⟨f,H,aaf⟩/\aF w7 f P T/\(H+1)<=I T/\j≠f/\k8≠f/\
   ∀e:M,Z [f] w7 e->aF e f P (fQ T H [O U (ar U (N-1))])->∀a:M,Z [j] e a->Z [b] w a/\Z [b,j] w6 a/\Rd F G ts a b l sn E fc fa (d:Int):=fun{E fc fa} h6=>by
  have g:=h6.only X;refine⟨((d+1:Nat):Int),Blk.dM g.blk 4 rfl,b,4,_,_,rfl,g.blk,aaV,J,J,λe i q a k=>?_⟩;have r:((d+1:Nat):Int)-1=d:=J
  rw[r,fe J J]at q;have s:Rd F G ts e b l sn E fc fa (d:Int):=g.kY i q g.lt;have n:Z [b,j] w6 a:=((X.weaken (bs':=[b,j]) λ_ h=>abG).trans i λx hx=>.inl abJ).trans k λx hx=>.inl abJ;exact⟨(wq.trans Y λx hx=>.inl hx).trans n (λx hx=>by
   simp only[aY,bA,cf]at hx;rcases hx with rfl | rfl
   ·exact .inl aaV
   exact .inr hk),n,s.own k aba⟩
 have R:=hd;cases r with
 | error e=>
  obtain⟨h,i,E,C⟩:=R;obtain⟨N,k,f,H,z,P,l,k3,n,q,r,s⟩:=S C;refine⟨N,k,f,H,z,P,l,k3,n,q,r,λw d x v g=>?_⟩;obtain⟨a,F,b⟩:=s w d x v g;exact⟨a,h,i,E,b⟩
 | ok q=>
  obtain⟨x,E⟩:=q;obtain⟨s,h,i,C⟩:=R;obtain⟨N,l,f,H,z,P,n,k3,r,v,w,F⟩:=S C;refine⟨N,l,f,H,z,P,n,k3,r,v,w,λG e xE w9 g=>?_⟩;obtain⟨b,a,d⟩:=F G e xE w9 g;have z9:=a.size;exact⟨b,s,h,(i.only a λk hk=>.inl (by simp only[aY,bA,cf]at hk;omega)).wide J z9,d⟩
end
section
variable {F G:aJ} {ts:List Tk} {w w':M} {b:Nat} {l sn:Sl} {i:Nat} {fc fa d:Int}
def rQ.qY{w a:M}{d:Nat}{r:Pr}{v:aw}(h:rQ F G ts w a b l sn d r v):exT v:=by
 obtain⟨_,h⟩:=h;cases r with
 | error e=>exact h.2.1
 | ok q=>
  obtain⟨c,rfl,x,_⟩:=h;obtain⟨sl,rfl,_⟩:=x.cells;exact⟨_,_,_,_,_,_,rfl⟩
def rQ.D4{w g j k:M}{d:Nat}{r:Pr}{v:aw}(a:rQ F G ts g j b l sn d r v)(D:Z [b] w g){s:List Nat}(c:Z s j k)(f:∀x,x∈s->b<x/\w.heap.size<=x/\x<g.heap.size):rQ F G ts w k b l sn d r v:=by
 obtain⟨i,a⟩:=a;have z:=D.size;have n:=i.size;have m:=c.size;refine⟨(D.trans i λx h=>.inl h).trans c λx h=>.inr (f x h).2.1,?_⟩;cases r with
 | error e=>
  obtain⟨b,d,o,l⟩:=a;exact⟨b,d,o,l.own c λx h=>(f x h).1⟩
 | ok q=>
  obtain⟨b,d,e,l⟩:=a;exact⟨b,d,(e.only c λx h=>.inl (f x h).2.2).wide z m,l.own c λx h=>(f x h).1⟩
def al0{d:Nat}{r:Pr}{f:Nat}(h:Rd F G ts w b l sn i 0 0 (d:Int))(hk:b<f)(B:aF w f 306 [ae (aM ⟨b,0,aaf⟩)])
  (u:∀j,Z [] w j->az Q 249 #[ae (aM ⟨b,0,aaf⟩),O U 0] j λe w'=>∃v,e=ak v/\rQ F G ts j w' b l sn d r v):
  az Q 300 #[ae (aM ⟨f,0,aaf⟩)] w λe w'=>∃v,e=ak v/\rQ F G ts w w' b l sn d (ul ts r) v:=by
 refine arM ⟨f,0,aaf⟩ (λv w'=>rQ F G ts w w' b l sn d (ul ts r) v) w ?_;intro C p m S D;have A:=h.lb;have z:aF p f 306 [ae (aM ⟨b,0,aaf⟩)]:=D.blk B aaV;have T:=B.lt;refine⟨_,Blk.dM z 0 rfl,(u p D).mono ?_⟩;rintro _ j ⟨v,rfl,hd⟩;obtain⟨k,n,s,op,sl,a,rfl⟩:=hd.qY;have R:=hd.1.size;refine⟨_,_,_,_,_,_,rfl,hd.1.same aba,λH t N P c=>?_⟩;have V:=c.size;have y:aF t f 306 [ae (aM ⟨b,0,aaf⟩)]:=c.blk (hd.1.blk z aba) aaV;refine⟨_,Blk.dM y 0 rfl,_,rfl,?_⟩;obtain⟨E,hd⟩:=hd;have o:Z [b] w t:=((D.weaken λ_ h=>abG).trans E λx g=>.inl g).cn c;cases r with
 | error e=>
  obtain⟨h,l,k,a⟩:=hd;have a:=a.only c;refine(C9 a [41]).mono ?_;rintro _ w ⟨rfl,i,b⟩;rw[aR (by simp[h]),aR h,aR h]at b;refine⟨rfl,i.same aba,λn d=>⟨((o.trans i λx g=>.inl g).new d m),h,⟨_,_,_,_,_,_,rfl⟩,k,b.own d aba⟩⟩
 | ok q=>
  obtain⟨x,b⟩:=q;obtain⟨e,l,n,a⟩:=hd;have a:=a.only c;refine(C9 a [41]).mono ?_;rintro _ w ⟨rfl,i,h⟩;have F:=i.size;refine⟨rfl,i.same aba,λv d=>⟨((o.trans i λx g=>.inl g).new d m),?_⟩⟩;have G:=d.size;by_cases s:sg ts b [41]=L
  ·rw[aV (by simp[s])]at h;simp only[ul,s,Gb];exact⟨e,l,(((n.only c aaV).only i λk hk=>.inl ab2).only d λk hk=>.inl ab2).wide J J,h.own d aba⟩
  rw[aR (by simp[s]),aV rfl,aV rfl]at h;simp only[ul,s,mc];exact⟨gw,⟨_,_,_,_,_,_,rfl⟩,b,h.own d aba⟩
def afr{f d:Nat}(hd:d<=20)(h:Rd F G ts w b l sn i 0 0 (d:Int))
  (hE:d≠20->∀w i,Rd F G ts w b l sn i 0 0 ((d+1:Nat):Int)->az Q 249 #[ae (aM ⟨b,0,aaf⟩),O U 0] w λe w'=>∃v,e=ak v/\rQ F G ts w w' b l sn (d+1) (dH ts f 0 (d+1) i) v)
  (W:d≠20->∀w i,Rd F G ts w b l sn i 0 0 ((d+1:Nat):Int)->az Q 275 #[ae (aM ⟨b,0,aaf⟩)] w λe w'=>∃v,e=ak v/\rQ F G ts w w' b l sn (d+1) (dH ts f 6 (d+1) i) v):
  az Q 275 #[ae (aM ⟨b,0,aaf⟩)] w λe w'=>∃v,e=ak v/\rQ F G ts w w' b l sn d (dH ts (f+1) 6 d i) v:=by
 have eR:dH ts (f+1) 6 d i=qt ts (dH ts f 0 (d+1)) (dH ts f 6 (d+1)) d i:=by rw[dH,aV rfl]
 rw[eR];generalize am:dH ts f 0 (d+1)=E0 at*
 generalize aC:dH ts f 6 (d+1)=DL at*
 generalize R:qt ts E0 DL d i=P;rw[qt]at R;refine ary ⟨b,0,aaf⟩ (λv w'=>rQ F G ts w w' b l sn d P v) w ?_;intro D A w0 fT dZ mA jS X;have hb:=h.lb;refine(JN (h.only X)).mono ?_;rintro _ w1 ⟨rfl,E⟩;have z1:=E.size;have jr:=X.cn E;refine⟨_,_,_,_,rfl,E.same aba,λH k3 S qF rn xF sA cR=>?_⟩;have z2:=cR.size;have z0:=X.size;have mJ:=jr.cn cR;have j:=h.only mJ;have SW:=h.big;have sm:∀{u N:M},S.heap.size<=u.heap.size->Z [b] u N->cr [D,A,H,k3] u N:=λhu Y=>Y.same acE;have z:∀{u N:M},S.heap.size<=u.heap.size->Z [] u N->cr [D,A,H,k3] u N:=λhu Y=>Y.same (by intro x hx;simp only[aY,bA,cf]at hx;exact⟨J,aaV⟩);refine⟨λq _ _ _ _ _ _ o p C y B m w'=>q=aM ⟨b,0,aaf⟩/\Z [] w w'/\(tk ts i).k≠5/\∃t,C=T t/\B=Sl.nil/\P=.ok (.mk o p t y [] m,i+1),?_,?_⟩
 ·rintro _ _ _ _ _ _ _ o p _ y _ m q ⟨rfl,e,k,t,rfl,rfl,V⟩;have a:=h.only e;have n:=h.en.next h.lt k;refine⟨_,rfl,(i:Int),Blk.dM a.blk 1 rfl,_,rfl,b,1,_,_,rfl,a.blk,aaV,J,J,J,J,λw c s r f=>?_⟩;rw[fe J J]at s;have g:Rd F G ts w b l sn (i+1) 0 0 (d:Int):=a.kY c s n;rw[V];refine⟨((e.weaken (bs':=[b]) λ_ h=>abG).trans c λx hx=>.inl hx).new f J,_,rfl,.leaf ..,g.own f aba⟩
 refine(Ff j).mono ?_;rintro _ w6 ⟨rfl,dY⟩;have z6:=dY.size;have h6:=j.only dY;refine⟨_,rfl,z J dY,λf=>(by simp at f),λ_=>?_⟩;obtain⟨s8,w8,k8,fy,aS⟩:=is2 h6;have z8:=fy.size;refine⟨s8,w8,k8,z J fy,aS.mono ?_⟩;rintro _ w9 ⟨rfl,gp⟩;have z9:=gp.size;have t:=dY.cn (fy.cn gp);have h9:=j.only t;rw[show((0:Int)==0)=L from rfl,cm];have XM:=mJ.cn t;refine⟨_,rfl,z J gp,λf dA dR=>?_,λf=>?_⟩
 ·rw[aV f]at R;have ik:(tk ts i).k≠5:=by
   rcases cu _ _▸f with e | e<;>exact xn e
  have hn:=h.en.next h.lt ik;have aT:∀op:Int,op=(if(tk ts i).t=[33]then 15 else 14)->∀l,Z [] w l->S.heap.size<=l.heap.size->_:=λop rh l F c=>JO hd (h.only F) hn (g:=275) (z1:=[ae (aM ⟨b,0,aaf⟩)]) (z2:=[]) (kO aaz) ⟨.func (.func 275) #[ae (aM ⟨b,0,aaf⟩)] #[],rfl⟩ rfl (r:=DL (i+1)) λG w1 _ h1=>W G w1 (i+1) h1;refine⟨λk n s op sl a w'=>k=4/\n=0/\s=T []/\op=(if(tk ts i).t=[33]then 15 else 14)/\sl=Sl.nil/\a=(tk ts i).a/\Z [] w w'/\S.heap.size<=w'.heap.size,?_,?_,?_⟩
  ·rintro _ _ _ _ _ _ l ⟨rfl,rfl,rfl,rh,rfl,rfl,F,c⟩;refine(aT _ rh l F c).mono ?_;rintro _ r ⟨v,rfl,a⟩;obtain⟨o,p,C,y,B,m,rfl⟩:=a.qY;have bY:=a.1.size;obtain⟨fj,yf,wv,g⟩:=G8 r [oa o p C y B m] aaV aaV aaV (parts:=#[(0,ah (oa o p C y B m).toArray)]) rfl;refine⟨_,_,_,_,_,_,rfl,sm c a.1,⟨aM ⟨r.heap.size,0,aaf⟩,1,1⟩,fj,yf,z J g,λfU n=>?_⟩;have SX:=g.size;have XN:=n.size;have bV:Z [b] w fU:=(((F.weaken (bs':=[b]) λ_ h=>abG).trans a.1 λx hx=>.inl hx).cn g).trans n λx hx=>.inr abH;have s:∀x,x∈[A,k3]->b<x:=aba
   have T:∀x,x∈[A,k3]->x<l.heap.size:=aba
   refine⟨bV,?_⟩;obtain⟨_,a⟩:=a;rw[<-R];cases hN:jN d (tk ts i).a (DL (i+1))with
   | error e=>
    rw[hN]at a;obtain⟨b,i,h,d⟩:=a;exact⟨b,⟨_,_,_,_,_,_,rfl⟩,h,(d.only g).own n s⟩
   | ok q=>
    obtain⟨x,cc⟩:=q;rw[hN]at a;obtain⟨b,h,i,v⟩:=a;refine⟨_,rfl,?_,(v.only g).own n s⟩;have ix:(oa o p C y B m)=b:=bZ Array.toList (Value.agg.inj h);rw[rh];have d:RX fU l.heap.size r.heap.size x b:=(i.only g aaV).only n λk hk=>.inl (T k hk);have e:aF fU r.heap.size 68 b:=by
     have:=n.blk wv λk=>by have:=T _ k;omega
     rw[eV,List.flatten_nil,bG]at this;rw[<-ix];exact this
    exact .one w.heap.size r.heap.size r.heap.size _ _ _ _ _ _ x b (d.wide J (aX _)) J (aX _) afN id e
  ·rw[show(ao #[33])=T [33]from rfl,iV];intro h g i;have h:=aN h;exact⟨rfl,rfl,rfl,by rw[aV h],rfl,rfl,(XM.new dR J).new i J,by have:=i.size;have:=dR.size;omega⟩
  rw[show(ao #[33])=T [33]from rfl,iV];intro h;have h:=aQ h;exact⟨rfl,rfl,rfl,by rw[aR h],rfl,rfl,XM.new dR J,by have:=dR.size;omega⟩
 rw[aR (by rw[f];decide)]at R;obtain⟨Q6,iQ,IM,iT,co⟩:=is1 h9 [40];have cC:=iT.size;refine⟨Q6,iQ,IM,z J iT,co.mono ?_⟩;rintro _ im ⟨rfl,iz⟩;have dO:=iz.size;have q:=XM.cn (iT.cn iz);have n:=h.only q;have s:Z [b] w im:=q.weaken λ_ h=>abG
 rw[show((0:Int)==0)=L from rfl,cm];refine⟨_,rfl,z J iz,λhp hB _ _ _=>?_,λhp=>?_⟩
 ·rw[aV hp]at R;have e:=h.en.next h.lt (xn hp);subst R;refine(JO hd n e (g:=300) (z1:=[]) (z2:=[ae (aM ⟨D,0,aaf⟩)]) (kO aaz) ⟨.func (.func 300) #[] #[ae (aM ⟨D,0,aaf⟩)],rfl⟩ rfl (r:=ul ts (E0 (i+1))) λb w1 E d=>al0 d J (E.blk hB aba) λw c=>hE b w (i+1) (d.only c)).mono ?_;rintro _ x ⟨v,rfl,a⟩;obtain⟨o,p,C,y,B,m,rfl⟩:=a.qY;have l:=a.1.size;refine⟨_,_,_,_,_,_,rfl,a.1.same aba,_,a.1.blk hB aba,λF k _=>?_⟩;exact a.D4 s k aba
 rw[aR ahy]at R;have v:(tk ts i).k≠5->i+1<I ts:=h.en.next h.lt;refine⟨λhi iU jT _ _ _ _ _ r=>⟨λk=>k=H,rfl,λe=>r e.symm,λe=>r e.symm,λkZ jt=>?_⟩,λhi=>⟨λhv mV oU _ _ _ _ _ r=>⟨λk=>k=H,rfl,λe=>r e.symm,λe=>r e.symm,λpo tP=>?_⟩,λhv=>⟨λg=>?_,λg=>?_⟩⟩⟩
 ·have hi:(tk ts i).k=3:=acg
  rw[aV hi]at R;exact⟨rfl,(q.cn jT).new jt J,by rw[hi];decide,[],rfl,rfl,R.symm⟩
 ·have hi:¬(tk ts i).k=3:=acg
  have hv:(tk ts i).k=1:=ae9
  rw[aR hi,aV hv]at R;exact⟨rfl,(q.cn oU).new tP J,by rw[hv];decide,_,rfl,rfl,R.symm⟩
 ·have hi:¬(tk ts i).k=3:=acg
  have hv:¬(tk ts i).k=1:=ae9
  rw[show(ao #[105,110])=T [105,110]from rfl,iV]at g;have g:(tk ts i).k=2/\(tk ts i).t=[105,110]:=by simpa using g
  rw[aR hi,aR hv,aV g]at R;have hn:=v (by rw[g.1];decide);refine⟨(i:Int),Blk.dM n.blk 1 rfl,b,1,_,_,rfl,n.blk,aaV,J,J,J,J,λra zN f8=>?_⟩;rw[fe J J]at f8;have gG:Rd F G ts ra b l sn (i+1) 0 0 (d:Int):=n.kY zN f8 hn;have gO:=zN.size;refine(C9 gG [40]).mono ?_;rintro _ nu ⟨rfl,tQ,eQ⟩;have gT:=tQ.size;refine⟨rfl,sm J tQ,?_⟩;have f7:Z [b] w nu:=(s.trans zN λx hx=>.inl hx).trans tQ λx hx=>.inl hx;have bad:∀{fd:Nat} {c a:Int},Rd F G ts nu b l sn fd c a (d:Int)->c≠0->az Q 302 #[ae (aM ⟨b,0,aaf⟩)] nu λe w'=>e=ak (K (T []))/\Z [b] nu w'/\Rd F G ts w' b l sn fd c a (d:Int):=fun{fd c a} h25 f=>by
   refine(Pb h25).mono ?_;rintro e pK ⟨h,a⟩;rw[aR (λa=>f a.1),aR f,aR f]at a;exact⟨a.1,h,a.2⟩
  have gE:∀{pK sf:M} {fd:Nat} {c a:Int},Z [b] nu pK->Z [k3] pK sf->Rd F G ts pK b l sn fd c a (d:Int)->c≠0->P=.error (c,a)->∀s6:aK,az Q 301 #[ae (aM (Addr.add ⟨b,0,aaf⟩ 0)),K (ao #[41])] sf λe8 vh=>e8=(ak (ai #[]))/\cr [D,A,H,k3] sf vh/\∀zL:M,Z [A] vh zL->rQ F G ts w zL b l sn d P (ah #[O U 3,O U 0,K s6,O U 0,Sl.nil.v,O U (tk ts i).a]):=fun{pK sf fd c a} h k h26 f V s6=>by
   have c:=h.size;have d:=k.size;refine(C9 (h26.own k aba) [41]).mono ?_;rintro _ vh ⟨rfl,b,a⟩;rw[aR (by simp[f]),aR f,aR f]at a;refine⟨rfl,sm J b,λzL t=>?_⟩;rw[V];refine⟨((((f7.trans h λx hx=>.inl hx).new k J).trans b λx hx=>.inl hx).new t J),f,⟨3,0,s6.data.toList,0,Sl.nil,_,by unfold oa;rw[<-I9]⟩,fd,a.own t aba⟩
  by_cases h1:sg ts (i+1) [40]=L
  ·rw[aV (by simp[h1])]at eQ;rw[Ej,aV h1]at R;refine(Pb eQ).mono ?_;rintro _ pK ⟨h,a⟩;have c:=h.size;by_cases j:(tk ts (i+2)).k=1
   ·rw[aV ⟨rfl,j⟩]at a;obtain⟨rfl,T⟩:=a;rw[aV j]at R;refine⟨_,rfl,sm J h,λsf k=>?_⟩;have ip:=k.size;have l:=T.own k aba;refine(C9 l [41]).mono ?_;rintro _ vh ⟨rfl,G,d⟩;refine⟨rfl,sm J G,λzL t=>?_⟩;have F:Z [b] w zL:=(((f7.trans h λx hx=>.inl hx).new k J).trans G λx hx=>.inl hx).new t J;refine⟨F,?_⟩;by_cases e:sg ts (i+3) [41]=L
    ·rw[aV (by simp[e])]at d;rw[aV e]at R;rw[<-R];exact⟨_,rfl,.leaf ..,d.own t aba⟩
    rw[aR (by simp[e]),aV rfl,aV rfl]at d;rw[aR e]at R;rw[<-R];exact⟨gw,⟨_,_,_,_,_,_,rfl⟩,_,d.own t aba⟩
   rw[aR (λa=>j a.2),aV rfl,aV rfl]at a;obtain⟨rfl,b⟩:=a;rw[aR j]at R;exact⟨_,rfl,sm J h,λsf k=>gE h k b gw R.symm _⟩
  rw[aR (by simp[h1]),aV rfl,aV rfl]at eQ;rw[Ej,aR h1]at R;refine(bad eQ gw).mono ?_;rintro _ pK ⟨rfl,h,a⟩;exact⟨_,rfl,sm J h,λsf k=>gE h k a gw R.symm _⟩
 have hi:¬(tk ts i).k=3:=acg
 have hv:¬(tk ts i).k=1:=ae9
 rw[show(ao #[105,110])=T [105,110]from rfl,iV]at g;rw[aR hi,aR hv,aR (λh=>by rw[h.1,h.2]at g;simp at g)]at R;refine(G7 n).mono ?_;rintro _ d ⟨rfl,c,a⟩;rw[aV rfl,aV rfl]at a;refine⟨rfl,sm J c,λe b=>⟨(s.trans c λx hx=>.inl hx).new b J,?_⟩⟩;rw[<-R];exact⟨gw,⟨0,0,[],0,Sl.nil,_,rfl⟩,i,a.own b aba⟩
end
section
variable {F G:aJ} {ts:List Tk} {w w':M} {b:Nat} {l sn:Sl} {i:Nat} {fc fa d:Int}
def Fg{E}{k}{g}{x}{j}(h:lH ts k j=0):kP ts E k g x j=.ok (x,j):=by
 cases g with
 | zero=>rfl
 | succ g=>rw[kP,aV h]
def At5(F G:aJ)(t:List Tk)(e:M)(b:Nat)(l sn:Sl)(d:Nat)(N:aJ)(E:Nat->Pr)(k:Int)(R:Pr)(n:Nat)(op:Int)(s:aI)(w:M):Prop:=Z [b] e w/\
 ((∃(c a:Int) (j:Nat),op=0/\c≠0/\R=.error (c,a)/\Rd F G t w b l sn j c a d)∨
  (∃(x:Ex) (j:Nat),op=lH t k j/\RXN w N e.heap.size w.heap.size x s/\Rd F G t w b l sn j 0 0 d/\R=kP t E k n x j/\(I t)-j<=n))
def RO{f k d:Nat}(XQ:k<6)(h:Rd F G ts w b l sn i 0 0 (d:Int))
  (hE:∀w i,Rd F G ts w b l sn i 0 0 (d:Int)->az Q 249 #[ae (aM ⟨b,0,aaf⟩),O U ((k+1:Nat):Int)] w λe w'=>∃v,e=ak v/\rQ F G ts w w' b l sn d (dH ts f (k+1) d i) v):
  az Q 249 #[ae (aM ⟨b,0,aaf⟩),O U (k:Int)] w λe w'=>∃v,e=ak v/\rQ F G ts w w' b l sn d (dH ts (f+1) k d i) v:=by
 have eR:dH ts (f+1) k d i=JM (dH ts f (k+1) d i) λx j=>kP ts (dH ts f (k+1) d) (k:Int) ((I ts)-j) x j:=by rw[dH,aR J]
 rw[eR];have XR:∀i x j,dH ts f (k+1) d i=.ok (x,j)->i<j:=λi x j h=>mS f _ _ i h;generalize am:dH ts f (k+1) d=E at*
 generalize R:(JM (E i) λx j=>kP ts E (k:Int) _ x j)=B;refine alS _ _ _ w ?_;have ek:ar U ((k:Int)+1)=((k+1:Nat):Int):=aaA
 refine⟨λhc=>absurd abv (by omega:¬(k:Int)=6),λ_ z w3 mA jS A=>?_⟩;have hb:=h.lb;rw[ek];refine(hE w3 i (h.only A)).mono ?_;rintro _ w4 ⟨v,rfl,D⟩;obtain⟨vk,vn,vs,vo,vl,va,rfl⟩:=D.qY;have z3:=A.size;have z4:=D.1.size;refine⟨_,_,_,_,_,_,rfl,D.1.same aba,λr w5 qF rn W=>?_⟩;have EU:=((A.weaken (bs':=[b]) λ_ h=>abG).trans D.1 λx hx=>.inl hx).cn W;have sm:∀{T u':M},w5.heap.size<=T.heap.size->Z [b] T u'->cr [z,r] T u':=λhu hO=>hO.same (by intro x hx;simp at hx⊢;omega);have SW:=h.big;have P:∃(j:Nat) (c a:Int),Rd F G ts w4 b l sn j c a (d:Int)/\∀u,Z [] w4 u->∃p,At5 F G ts w b l sn d (λq=>q=z∨q=r) E (k:Int) B p (if c=0 then lH ts (k:Int) j else 0) (oa vk vn vs vo vl va) u:=by
  obtain⟨f,d⟩:=D;have w:=(A.weaken (bs':=[b]) λ_ h=>abG).trans f λx hx=>.inl hx;cases F:E i with
  | error e=>
   rw[F]at d R;obtain⟨c,a⟩:=e;obtain⟨b,i,j,h⟩:=d;exact⟨j,c,a,h,λu Y=>⟨0,w.cn Y,.inl ⟨c,a,j,aR b,b,R.symm,h.only Y⟩⟩⟩
  | ok q=>
   obtain⟨x,j⟩:=q;rw[F]at d R;obtain⟨e,b,c,a⟩:=d;have i:(oa vk vn vs vo vl va)=e:=bZ Array.toList (Value.agg.inj b);rw[i];exact⟨j,0,0,a,λu Y=>⟨(I ts)-j,w.cn Y,.inr ⟨x,j,aV rfl,((c.only Y aaV).FY λq h k _=>J).wide z3 Y.size,a.only Y,R.symm,aX _⟩⟩⟩
 obtain⟨j0,c0,a0,H,P⟩:=P;refine(Da (H.only W) (k:Int)).mono ?_;rintro _ u ⟨rfl,Y⟩;have z6:=Y.size;obtain⟨N,C⟩:=P u (W.cn Y);refine⟨_,rfl,Y.same aba,λp op m n t o s g w'=>w5.heap.size<=w'.heap.size/\At5 F G ts w b l sn d _ E (k:Int) B p op [O U m,O U n,K t,O U o,s.v,O U g] w',N,⟨z6,C⟩,?_⟩;rintro p op m n t o s g w7 ⟨z7,V,X⟩;refine⟨λrh=>?_,λrh fU S=>?_⟩
 ·have rh:op≠0:=agW
  rcases X with⟨_,_,_,e,_⟩ | ⟨x,j,rfl,hX,i,f,aC⟩
  ·exact absurd e rh
  have hn:=i.en.next i.lt (sW _ _ rh);obtain⟨aS,rfl⟩:∃aS,p=aS+1:=⟨p-1,J⟩
  rw[kP,aR rh]at f;refine⟨(j:Int),Blk.dM i.blk 1 rfl,b,1,_,_,rfl,i.blk,aaV,J,J,λw8 fy xE=>?_⟩;rw[fe J J]at xE;have h8:=i.kY fy xE hn;have z8:=fy.size;refine(hE w8 (j+1) h8).mono ?_;rintro _ w9 ⟨v,rfl,XS⟩;obtain⟨yk,yn,ys,yo,yl,ya,rfl⟩:=XS.qY;have z9:=XS.1.size;refine⟨_,_,_,_,_,_,rfl,sm J XS.1,λk8 dA co XK dR=>?_⟩;have LA:=dR.size;obtain⟨dL,nD,EV,eh⟩:=G8 dA [[O U m,O U n,K t,O U o,s.v,O U g],oa yk yn ys yo yl ya] aaV aaV aaV (parts:=#[_,_]) rfl;have Cj:=eh.size;refine⟨⟨aM _,2,2⟩,dL,nD,eh.same aba,λez eM=>?_⟩;have cC:=eM.size;have LF:Z [b] w ez:=((((V.trans fy λx hx=>.inl hx).trans XS.1 λx hx=>.inl hx).cn dR).cn eh).new eM J;have ww:Z [r] w9 ez:=((dR.cn eh).weaken (bs':=[r]) λ_ h=>abG).trans eM λx hx=>.inl hx;have N7:∃(j':Nat) (c a:Int),Rd F G ts w9 b l sn j' c a (d:Int)/\∀fj,Z [] ez fj->∃p,p<aS+1/\At5 F G ts w b l sn d (λq=>q=z∨q=r) E (k:Int) B p (if c=0 then lH ts (k:Int) j' else 0) (oa 5 0 [] (lH ts (k:Int) j) ⟨aM ⟨dA.heap.size,0,aaf⟩,2,2⟩ g) fj:=by
   obtain⟨h,d⟩:=XS;cases F:E (j+1)with
   | error e=>
    rw[F]at d f;obtain⟨c,a⟩:=e;obtain⟨b,l,j',k⟩:=d;exact⟨j',c,a,k,λfj dV=>⟨0,J,LF.cn dV,.inl ⟨c,a,j',aR b,b,f,(k.own ww aba).only dV⟩⟩⟩
   | ok q=>
    obtain⟨y,j'⟩:=q;rw[F]at d f;obtain⟨c,v,G,l⟩:=d;have ix:_=c:=bZ Array.toList (Value.agg.inj v);have dO:=XR _ _ _ F;obtain⟨xl,e,_⟩:=hX.cells;have a:=by
     simp only[oa,Cs,Value.int.injEq]at e;exact e.2.2.2.2.2.1.2
    refine⟨j',0,0,l,λfj dV=>⟨aS,J,LF.cn dV,.inr ⟨.mk 5 0 [] (lH ts (k:Int) j) [x,y] x.a,j',aV rfl,?_,(l.own ww aba).only dV,f,?_⟩⟩⟩
    ·have eQ:=(((((fy.weaken (bs':=[b,r]) λx hx=>.inl abJ).trans h λx hx=>.inl abJ).trans ww λx hx=>.inl abJ).cn dV))
     have XU:=ww.cn dV;have wv:aF fj dA.heap.size 68 ([O U m,O U n,K t,O U o,s.v,O U g]++c):=by
      have:=dV.blk (eM.blk EV aba) aaV;rw[<-ix];simpa using this
     have XV:RXN fj (λq=>q=z∨q=r) w.heap.size w7.heap.size x [O U m,O U n,K t,O U o,s.v,O U g]:=by
      exact hX.only eQ λq hq=>by
       simp only[aY,bA,cf]at hq;rcases hq with rfl | rfl
       ·exact .inl hb
       exact .inr (.inr (.inr rfl))
     have k:RXN fj (λq=>q=z∨q=r) w8.heap.size w9.heap.size y c:=(G.only XU λq hq=>.inl (by simp only[aP]at hq;omega)).FY λq h1 h2 _=>J
     rw[a];exact .two w.heap.size w7.heap.size w8.heap.size w9.heap.size dA.heap.size _ _ _ _ _ _ x y _ c XV z8 k J J J J afN J wv
    omega
  obtain⟨j',c',a',bY,N7⟩:=N7;refine(Da (bY.own ww aba) (k:Int)).mono ?_;rintro _ fj ⟨rfl,dV⟩;obtain⟨cc,aT,bV⟩:=N7 fj dV;exact⟨_,rfl,dV.same aba,cc,aT,by have:=dV.size;omega,bV⟩
 have rh:op=0:=agW
 refine⟨V.new S J,?_⟩;rcases X with⟨c,a,j,_,hc,b,d⟩ | ⟨x,j,e,f,d,b,v⟩
 ·rw[b];exact⟨hc,⟨m,n,t.data.toList,o,s,g,rfl⟩,j,d.own S aba⟩
 rw[b,Fg (by rw[<-e,rh])];exact⟨_,rfl,((f.only S λq hq=>.inr (.inr (.inl aec))).FY λ_ _ _ _ h=>h).wide (aX _) S.size,d.own S aba⟩
def JP:∀f,(∀k d i w,k<=6->d<=20->gH k d<=f->Rd F G ts w b l sn i 0 0 d->az Q 249 #[ae (aM ⟨b,0,aaf⟩),O U k] w λe w'=>∃v,e=ak v/\rQ F G ts w w' b l sn d (dH ts f k d i) v)/\
  (∀d i w,d<=20->gH 6 d<=f->Rd F G ts w b l sn i 0 0 d->
   az Q 275 #[ae (aM ⟨b,0,aaf⟩)] w λe w'=>∃v,e=ak v/\rQ F G ts w w' b l sn d (dH ts f 6 d i) v)
 | 0=>⟨λk d i w hk hd hn=>aed,λd i w hd hn=>aed⟩
 | f+1=>by
  obtain⟨E,a⟩:=JP f;have one:∀(d i) w,d<=20->gH 6 d<=f+1->Rd F G ts w b l sn i 0 0 d->
   az Q 275 #[ae _] w λe w'=>∃v,e=ak v/\rQ F G ts w w' b l sn d _ v:=λd i w hd hn h=>by
   unfold gH at hn;exact afr hd h (λC w i h=>E 0 _ i w J J acT h) (λC w i h=>a _ i w J acT h)
  refine⟨λk d i w hk hd hn h=>?_,one⟩;by_cases c:k=6
  ·subst c;refine alS _ _ _ w ?_;refine⟨λ_ k f T g b=>?_,λe=>absurd e X⟩;refine(one d i f hd hn (h.only b)).mono ?_;rintro _ q ⟨v,rfl,D⟩;obtain⟨m,o,s,p,n,l,rfl⟩:=D.qY;have j:=h.lb;exact⟨_,_,_,_,_,_,rfl,D.1.same aba,λr R=>D.D4 (b.weaken λ_ h=>abG) R aba⟩
  unfold gH at hn;exact RO J h λw i h=>E _ d i w J hd acT h
end
def RP(w:M):∃(s:Sl) (a:M),(au 32 16 #[.mk 1 (K (ao #[43])),.mk 2 (K (ao #[45])),.mk 3 (K (ao #[42])),.mk 4 (K (ao #[47])),.mk 5 (K (ao #[37])),.mk 6 (K (ao #[60])),.mk 7 (K (ao #[60,61])),.mk 8 (K (ao #[62])),.mk 9 (K (ao #[62,61])),.mk 10 (K (ao #[61,61])),.mk 11 (K (ao #[33,61])),.mk 12 (K (ao #[38,38])),.mk 13 (K (ao #[124,124])),.mk 14 (K (ao #[45])),.mk 15 (K (ao #[33]))]).run Q w=.ok (Sl.v s) a/\
  aA ke 1 a (λk=>w.heap.size<=k/\k<a.heap.size) s xM/\Z [] w a:=by
 have A:=run_buildSlice (P:=Q) w 32 9 16 #[.mk 1 (K (ao #[43])),.mk 2 (K (ao #[45])),.mk 3 (K (ao #[42])),.mk 4 (K (ao #[47])),.mk 5 (K (ao #[37])),.mk 6 (K (ao #[60])),.mk 7 (K (ao #[60,61])),.mk 8 (K (ao #[62])),.mk 9 (K (ao #[62,61])),.mk 10 (K (ao #[61,61])),.mk 11 (K (ao #[33,61])),.mk 12 (K (ao #[38,38])),.mk 13 (K (ao #[124,124])),.mk 14 (K (ao #[45])),.mk 15 (K (ao #[33]))]
  (xM.map λx=>Value.string (T x)).toArray Tryz.t9 _ aaz aaz rfl X X aaz
 refine⟨⟨aM ⟨w.heap.size,0,aaf⟩,16,16⟩,_,A,⟨rfl,aX _,λh=>abG,(by decide:(16:Nat)<=9223372036854775807),λj x hx=>?_⟩,Only.alloc _ _⟩;have B:=Blk.alloc w 9 (xM.map λx=>Value.string (T x));have b:=B.lt;refine⟨⟨w.heap.size,0,aaf⟩,[K (T x)],rfl,⟨aX _,b⟩,rfl,?_,rfl⟩;rw[lq];exact Blk.dM B j ahx
def adi(a:M):az Q 248 #[] a λe w=>∃s:Sl,e=ak s.v/\aA ke 1 w (λk=>a.heap.size<=k/\k<w.heap.size) s xM/\Z [] a w:=by
 refine iW (ars ?_);obtain⟨s,w,h,b,c⟩:=RP a;exact⟨s,w,h,s,rfl,b,c⟩
def ml(s:List Tk):Nat:=I (s.takeWhile λt=>t.k !=5)
def G9(t:List Tk):ml t<=I t:=by
 unfold ml;exact(List.takeWhile_sublist _).length_le
def Fh{t:Tk}{s:List Tk}{i:Nat}:tk (t::s) (i+1)=tk s i:=by unfold tk;rw[cO]
def Fi{t:Tk}{s:List Tk}:tk (t::s) 0=t:=rfl
def BS:∀(s:List Tk) (i:Nat),i<ml s->(tk s i).k≠5
 | [],_,h=>by simp[ml]at h
 | t::s,i,h=>by
  unfold ml at h;rw[dD]at h;split at h
  ·rename_i t;cases i with
   | zero=>rw[Fi];simpa using t
   | succ i=>rw[Fh];exact BS s i (by simpa[ml]using h)
  simp at h
def BT:∀(s:List Tk),ml s<(I s)->(tk s (ml s)).k=5
 | [],h=>abS
 | t::s,h=>by
  unfold ml at h⊢;rw[dD]at h⊢;split
  ·rename_i t;rw[aV t]at h;rw[ba,Fh];exact BT s (by simpa[ml]using h)
  rename_i h;rw[bK,Fi];simpa using h
def JQ{t:List Tk}(h:ml t+1=I t):xj t:=λi a=>by
 constructor
 ·intro hk;refine bT λn=>BS t i J hk
 intro n;have:i=ml t:=J
 rw[this];exact BT t J
def U2{t:List Tk}(a:xj t)(b:0<I t):ml t+1=I t:=by
 have c:=G9 t;rcases wy (ml t) (I t) with h | h
 ·exact(a _ h).1 (BT t h)
 have:=BS t ((I t)-1) J;exact absurd ((a ((I t)-1) J).2 J) this
def aaj(w:M)(t:Tk):az Q 247 #[t.v] w λe a=>e=ak (aj (t.k==5))/\Z [] w a:=by
 refine ret (v3w t.k (T t.t) t.n t.a (λv a=>v=aj (t.k==5)/\Z [] w a) w ?_);exact λk b _ _ h=>⟨rfl,h⟩
def U3{w:M}{F:aJ}{l:Sl}{t:List Tk}(h:aA Iy 4 w F l t):az Q 246 #[l.v,.func (.func 247) #[] #[]] w λe a=>e=ak (O U (if ml t<I t then(ml t:Int)else -1))/\Z [] w a:=by
 refine ret (alR l ⟨.func (.func 247) #[] #[],rfl⟩ (λv a=>v=O U (if ml t<I t then(ml t:Int)else -1)/\Z [] w a) w ?_);have g:=h.len;have r:=h.big;have q:=h.cap;refine⟨λd i a=>∃n:Nat,n<=ml t/\i=(n:Int)/\d=(I t)-n/\Z [] w a,I t,⟨0,bm _,rfl,rfl,Only.refl _ _⟩,?_⟩;rintro d _ f ⟨n,j,rfl,rfl,c⟩;have s:=G9 t;refine⟨λb=>?_,λb=>?_⟩
 ·have W:(n:Int)<l.n:=aN b;obtain⟨ad,x,p,m,e,u,v,o,k⟩:=(SliceF.only iX X h c aaV).get (aZ n) W;rw[aW,C7 J]at e;injection e with e;subst e;unfold Iy at k;subst k;refine⟨ad,m,_,_,_,_,o,247,[],[],rfl,kO aaz,?_⟩;refine(aaj f (tk t n)).mono ?_;rintro _ y ⟨rfl,E⟩;refine⟨_,rfl,λhb=>⟨?_,c.cn E⟩,λhb=>⟨(I t)-(n+1),J,n+1,?_,aaA,rfl,c.cn E⟩⟩
  ·have hb:(tk t n).k=5:=abP
   have:n=ml t:=by
    refine bT λx=>BS t n J hb
   rw[aV J,this]
  have hb:¬(tk t n).k=5:=abP
  refine bT λx=>hb ?_;have:n=ml t:=J
  rw[this];exact BT t J
 have A:¬(n:Int)<l.n:=aQ b;rw[aR J];exact⟨rfl,c⟩
def BU:Ex:=.mk 0 0 [] 0 [] 0
def cQ(t:List Tk)(a:Int):Ex×Int×Int×Int:=
 if 0<=a/\a<I t/\ml t+1=I t then(match xN t a.toNat with
  | .error (c,p)=>(BU,0,c,p)
  | .ok (x,j)=>(x,(j:Int),0,0))
 else(BU,0,1, -1)
def rx0(w:M)(l h:Nat):RX w l h BU [O U 0,O U 0,K (ao #[]),O U 0,Sl.nil.v,O U 0]:=.leaf ..
def Pc{w:M}{F:aJ}{l:Sl}{t:List Tk}(h:aA Iy 4 w F l t)(a:Int)(u:ub a):az Q 216 #[l.v,O U a] w λe f=>
  ∃s,e=ak (ai #[ah s.toArray,O U (cQ t a).2.1,ah #[O U (cQ t a).2.2.1,O U (cQ t a).2.2.2]])/\RX f w.heap.size f.heap.size (cQ t a).1 s/\((cQ t a).2.2.1=0->0<=(cQ t a).2.1/\(cQ t a).2.1<I t)/\Z [] w f:=by
 refine iW (v4w _ _ ?_);intro m n C T r A S D;have i:=h.len;have z:=h.cap;have y:=h.big;have H:=D.size;have h:=(h.inHeap iX X)
 refine(U3 (SliceF.only iX X h D aaV)).mono ?_;rintro _ g ⟨rfl,E⟩;have N:=E.size;have j:=D.cn E;have B:=G9 t;have o:(((decide (a<0))||(decide (a>=(l.n:Int))))||((if ml t<I t then(ml t:Int)else -1) !=(ar U ((l.n:Int)-1))))=!decide (0<=a/\a<I t/\ml t+1=I t):=by
  rw[fe J J,i];by_cases h:ml t<I t
  ·rw[aV h,bM];simp;omega
  rw[aR h,bM];simp;omega
 refine⟨_,rfl,E.same aba,?_⟩;dsimp only;rw[o];refine⟨λd G R=>?_,λd=>?_⟩
 ·have d:¬(0<=a/\a<I t/\ml t+1=I t):=by
   rw[dr,dS]at d;exact d
  rw[cQ,aR d];exact⟨_,rfl,rx0 _ _ _,λh=>abG,(j.weaken (bs':=[]) λ_ h=>abG).trans R λx hx=>.inr abH⟩
 have d:0<=a/\a<I t/\ml t+1=I t:=by
  rw[gY,bF]at d;exact d
 rw[cQ,aV d];obtain⟨V,rfl⟩:∃V:Nat,a=(V:Int):=⟨a.toNat,J⟩
 refine(adi g).mono ?_;rintro _ w3 ⟨sn,rfl,SL,di⟩;have z3:=di.size;refine⟨sn,rfl,di.same aba,λb w4 hb oh dW sE=>?_⟩;have z4:=dW.size;have rc:=j.cn di;have hR:Rd (λk=>F k/\k<w.heap.size) (λk=>g.heap.size<=k/\k<w3.heap.size) t w4 b l sn V 0 0 ((0:Nat):Int):=
  ⟨sE,SliceF.only iX X h (rc.cn dW) aaV,SliceF.only cY X SL dW aaV,λk hk=>ab9,λk hk=>ab9,JQ d.2.2,J⟩
 refine((JP (gH 0 0)).1 0 0 V w4 X X (aX _) hR).mono ?_;rintro _ w5 ⟨v,rfl,P⟩;obtain⟨vk,vn,vs,vo,vl,va,rfl⟩:=P.qY;have z5:=P.1.size;obtain⟨eW,P⟩:=P;rw[aW];have aC:xN t V=dH t (gH 0 0) 0 0 V:=rfl;rw[aC];have fin:∀{am:Nat} {c p:Int},Rd (λk=>F k/\k<w.heap.size) (λk=>g.heap.size<=k/\k<w3.heap.size) t w5 b l sn am c p ((0:Nat):Int)->∀W,Z [] w5 W->∀Y,Z [n,m] W Y->Z [] w Y:=λhR W fy Y gp=>(((rc.cn dW).trans eW λx hx=>.inr abF).cn fy).trans gp λx hx=>.inr abH;refine⟨_,_,_,_,_,_,rfl,eW.same aba,?_⟩;cases hE:dH t (gH 0 0) 0 0 V with
 | error e=>
  rw[hE]at P;obtain⟨c,p⟩:=e;obtain⟨x,a2,am,a⟩:=P;refine⟨_,_,_,_,_,_,a.blk,λk3 w6 xF sA q Ra=>?_⟩;have z6:=q.size;refine(Ff (a.only q)).mono ?_;rintro _ w7 ⟨rfl,v⟩;have h7:=(a.only q).only v;have ik:(c !=0)=L:=by simpa using x
  refine⟨_,rfl,v.same aba,_,_,_,_,_,_,h7.blk,λ_ W fy xE n1 n2 n3 n4 n5 n6=>⟨λk=>k=b,rfl,λe=>n2 e,λe=>n4 e,λY gp _=>⟨_,rfl,rx0 _ _ _,λh=>absurd h x,fin a W (q.cn (v.cn fy)) Y gp⟩⟩,λd=>by rw[ik]at d;cases d⟩
 | ok q=>
  rw[hE]at P;obtain⟨x,am⟩:=q;obtain⟨s,a1,a2,a⟩:=P;refine⟨_,_,_,_,_,_,a.blk,λk3 w6 xF sA c Ra=>?_⟩;have z6:=c.size;refine(Ff (a.only c)).mono ?_;rintro _ w7 ⟨rfl,h⟩;have z7:=h.size;have h7:=(a.only c).only h;refine⟨_,rfl,h.same aba,_,_,_,_,_,_,h7.blk,λd=>(by simp at d),λ_ dA p oT n1 n2 n3 n4 n5 n6=>⟨λk=>k=b,rfl,λe=>n2 e,λe=>n4 e,λdL v _=>?_⟩⟩;have LA:=p.size;have Cj:=v.size;have ix:(oa vk vn vs vo vl va)=s:=bZ Array.toList (Value.agg.inj a1);refine⟨oa vk vn vs vo vl va,rfl,?_,λ_=>⟨aZ am,by have:=a.lt;dsimp only;omega⟩,fin a dA (c.cn (h.cn p)) dL v⟩;rw[ix];exact((a2.only (c.cn (h.cn p)) aaV).only v λq hq=>.inl acU).wide J J
def jh(l:aH):Ex×Int×Int:=
 if(dl l).2.1≠0 then(BU,(dl l).2.1,(dl l).2.2)
 else if(cQ (dl l).1 0).2.2.1≠0 then(BU,(cQ (dl l).1 0).2.2.1,(cQ (dl l).1 0).2.2.2)
 else if(tk (dl l).1 (cQ (dl l).1 0).2.1.toNat).k≠5 then(BU,4,(tk (dl l).1 (cQ (dl l).1 0).2.1.toNat).a)
 else((cQ (dl l).1 0).1,0,(cQ (dl l).1 0).2.2.2)
def afs{w:M}(l:aH)(v:Er w):az Q 267 #[K (T l)] w λe b=>
  ∃a,e=ak (ai #[ah a.toArray,ah #[O U (jh l).2.1,O U (jh l).2.2]])/\RX b w.heap.size b.heap.size (jh l).1 a/\Z [] w b:=by
 refine iW (v5w _ ?_);intro f g P C B F S D;have z0:=D.size;refine(JK l (v.only D)).mono ?_;rintro _ V ⟨z,rfl,h,E⟩;have z1:=E.size;have r:=D.cn E;generalize Y:dl l=A at*
 obtain⟨s,c,p⟩:=A;dsimp only at h⊢;have R:jh l=if c≠0 then(BU,c,p)else if(cQ s 0).2.2.1≠0 then(BU,(cQ s 0).2.2.1,(cQ s 0).2.2.2)else if(tk s (cQ s 0).2.1.toNat).k≠5 then(BU,4,(tk s (cQ s 0).2.1.toNat).a)else((cQ s 0).1,0,(cQ s 0).2.2.2):=by
  unfold jh;rw[Y]
 refine⟨z,_,_,rfl,E.same aba,λhc y W G H o m i j=>⟨λk=>k=y,rfl,λe=>i e,λe=>j e,λw3 u=>?_⟩,λhc k3 w4 xF N d=>?_⟩
 ·have hc:c≠0:=abv
  rw[R,aV hc];exact⟨_,rfl,rx0 _ _ _,((r.cn o).trans u λx hx=>.inr abH)⟩
 have hc:c=0:=abv
 rw[aR (by simp[hc])]at R;have z4:=d.size;refine(Pc (h.only d).sl 0 ⟨X,X⟩).mono ?_;rintro _ w5 ⟨a,rfl,hX,hj,eW⟩;have z5:=eW.size;generalize N4:cQ s 0=pa at*
 obtain⟨x,am,c',p'⟩:=pa;dsimp only at hX hj R⊢;obtain⟨xl,rfl,_⟩:=hX.cells;refine⟨_,_,_,_,_,_,_,_,_,rfl,eW.same aba,λk4 w6 uT AN dY=>?_⟩;have z6:=dY.size;have h6:=((h.only (d.cn eW)).keep (w':=w6) λk hk bW=>dY.block k bW (by
  have:=h.blk hk.2;simp only[aP];dsimp only at this;omega))
 have aC:=h6.len;have N8:Z [] w w6:=((r.cn d).cn eW).new dY J;have fin:∀{w8 w9:M},Z [k3] w6 w8->Z [g,f] w8 w9->Z [] w w9:=λh8 h9=>(N8.new h8 J).trans h9 λx hx=>.inr abH;refine⟨λT p w7=>Z [k3] w6 w7/\((c'≠0/\T=c'/\p=p')∨(c'=0/\(tk s am.toNat).k≠5/\T=4/\p=(tk s am.toNat).a)∨(c'=0/\(tk s am.toNat).k=5/\T=0/\p=p')),?_,?_⟩
 ·rintro T p w7 ⟨n,c⟩;have z7:=n.size;refine⟨λhi w8 fy m i j n4 n5 n6=>⟨λk=>k=k3,rfl,?_,?_,λw9 gp=>?_⟩,λhi dA t m i j n4 n5 n6=>⟨λk=>k=k3,rfl,?_,?_,λdL eh=>?_⟩⟩
  ·intro e;omega
  ·intro e;omega
  ·have hi:T≠0:=acg
   have e:jh l=(BU,T,p):=by
    rw[R];rcases c with⟨k,rfl,rfl⟩ | ⟨k,q,rfl,rfl⟩ | ⟨k,q,rfl,rfl⟩
    ·rw[aV k]
    ·rw[aR (by simp[k]),aV q]
    exact absurd rfl hi
   rw[e];exact⟨_,rfl,rx0 _ _ _,fin (n.cn fy) gp⟩
  ·intro e;omega
  ·intro e;omega
  have hi:T=0:=acg
  have hr:jh l=(x,T,p):=by
   rw[R];rcases c with⟨q,rfl,rfl⟩ | ⟨q,x,rfl,rfl⟩ | ⟨q,x,rfl,rfl⟩
   ·exact absurd hi q
   ·exact absurd hi X
   rw[aR (by simp[q]),aR (by simp[x])]
  rw[hr];have e:Z [k3,g,f] w5 dL:=(((dY.trans n λx hx=>.inl hx).cn t).weaken (bs':=[k3,g,f]) λx hx=>.inl abJ).trans eh λx hx=>.inl acj;have k:=e.size;exact⟨_,rfl,(hX.only e λq hq=>.inl acU).wide J k,fin (n.cn t) eh⟩
 by_cases c:c'=0
 ·obtain⟨L9,L0⟩:=hj c;obtain⟨n,rfl⟩:∃n:Nat,am=(n:Int):=⟨am.toNat,J⟩
  obtain⟨ad,t,a,k,e,g3,g4,q,x⟩:=h6.sl.get L9 J;rw[aW,C7 J]at e;injection e with e;subst e;unfold Iy at x;subst x;rw[aW];refine⟨ad,λ_=>k,(tk s n).k,λ_=>q.dM 0 _ rfl,λhh=>⟨ad,k,(tk s n).a,q.dM 3 _ rfl,λez eM=>⟨eM,.inr (.inl ⟨c,?_,rfl,rfl⟩)⟩⟩,λhh=>⟨Only.refl _ _,.inr (.inr ⟨c,?_,c,rfl⟩)⟩⟩
  ·simpa[c]using hh
  simpa[c]using hh
 have hb:(c'==0)=aL:=by simpa using c
 refine⟨⟨0,0,aaf⟩,λhh=>agN,0,λhh=>agN,λhh=>agN,λ_=>⟨Only.refl _ _,.inl ⟨c,rfl,rfl⟩⟩⟩
def tX:Nat->Rp Ex
 | 0=>λ_ _ _ _=>False
 | d+1=>λw F x c=>∃sl:Sl,c=oa x.k x.n x.s x.op sl x.a/\aA (tX d) 6 w F sl x.dC
def ia:∀d,(tX d).Ok
 | 0=>⟨λh _=>h.elim,λh=>h.elim,λh _=>h.elim,λh=>h.elim⟩
 | d+1=>⟨λ⟨sl,h,a⟩ hk=>⟨sl,h,SliceF.keep (ia d) a X hk⟩,λ⟨sl,h,a⟩=>⟨sl,h,SliceF.inHeap (ia d) a X⟩,λ⟨sl,h,a⟩ hk=>⟨sl,h,SliceF.mono (ia d) a hk⟩,λ⟨sl,h,a⟩=>by
  subst h;intro v b;simp only[aY,bA,cf]at b;rcases b with rfl | rfl | rfl | rfl | rfl | rfl<;>rfl⟩
def Fj{d:Type}{r q:Rp d}{size:Nat}{w:M}{F:aJ}{s:Sl}{a:List d}(h:aA r size w F s a)(i:∀x c,x∈a->r w F x c->q w F x c):aA q size w F s a:=
 ⟨h.len,h.cap,h.nil0,h.big,λj x b=>by
  obtain⟨s,c,e,f,g,k,l⟩:=h.at_ j x b;exact⟨s,c,e,f,g,k,i x c (bB b) l⟩⟩
section
variable {w w':M} {F:aJ} {x y:Ex} {cs ds:aI}
def U4:∀{d:Nat} {x:Ex} {cs:aI},tX d w F x cs->tX (d+1) w F x cs
 | 0,_,_,h=>h.elim
 | d+1,x,cs,⟨sl,a,b⟩=>⟨sl,a,Fj b λx cs _ h=>U4 h⟩
def U5{d e:Nat}(a:d<=e)(h:tX d w F x cs):tX e w F x cs:=by
 induction e with
 | zero=>have:d=0:=J;subst this;exact h
 | succ e i=>
  by_cases b:d=e+1
  ·subst b;exact h
  exact U4 (i J)
def gV{d:Nat}(h:tX d w F x cs)(a:Z [] w w'):tX d w' F x cs:=(ia d).only h a aaV
def RXN.ex{N:aJ}{l i:Nat}(h:RXN w N l i x cs):∃d,tX d w (λk=>l<=k/\k<i) x cs:=by
 induction h with
 | leaf l i k n s op a=>exact⟨1,Sl.nil,rfl,SliceF.nil _ _ _ _⟩
 | one l w g i k n s op a x cs f m t o u p b=>
  obtain⟨d,b⟩:=b;obtain⟨sl,r,_⟩:=f.cells;refine⟨d+1,_,rfl,rfl,aX _,λh=>abG,(by decide:(1:Nat)<=9223372036854775807),λc y j=>?_⟩;have e:c=0:=by
   have:=(bf.1 j).1;simp only[Ex.dC,bI]at this;omega
  subst e;simp only[Ex.dC,cw,bN]at j;subst j;exact⟨⟨g,0,aaf⟩,cs,rfl,⟨m,o⟩,by rw[r];rfl,by rw[BF];exact p.cells 0 cs λc v q=>by rw[bS];exact q,(ia d).mono b λk hk=>⟨hk.1,J⟩⟩
 | two l D F G g i k n s op a x y cs ds q u r w z A B d C f E c=>
  obtain⟨m,E⟩:=E;obtain⟨o,c⟩:=c;obtain⟨sl,t,_⟩:=q.cells;obtain⟨S,X,_⟩:=r.cells;have e:I cs=6:=by rw[t];rfl
  have p:I ds=6:=by rw[X];rfl
  refine⟨max m o+1,_,rfl,rfl,aX _,λh=>abG,(by decide:(2:Nat)<=9223372036854775807),λb y j=>?_⟩;rcases b with _ | _ | b
  ·simp only[Ex.dC,cw,bN]at j;subst j;exact⟨⟨g,0,aaf⟩,cs,rfl,⟨abQ,d⟩,e,by rw[BF];exact f.cells 0 cs λb v h=>by rw[bS,bX (bf.1 h).1];exact h,(ia _).mono (U5 (Ct _ _) E) λk hk=>⟨hk.1,J⟩⟩
  ·simp only[Ex.dC,cO,cw,bN]at j;subst j;exact⟨⟨g,0,aaf⟩,ds,rfl,⟨abQ,d⟩,p,by
    rw[gu];exact f.cells 6 ds λb v h=>by rw[cd J,e,dG];exact h,(ia _).mono (U5 (AV _ _) c) λk hk=>⟨J,J⟩⟩
  simp[Ex.dC]at j
end
def Ha(f:Ex->Ex->Bool):List Ex->List Ex->Bool
 | x::s,y::a=>f x y&&Ha f s a
 | _,_=>L
def JR(t:Bool)(x y:Ex):Bool:=(((((x.k !=y.k)||(x.n !=y.n))||(!decide (x.s=y.s)))||(x.op !=y.op))||(t&&(x.a !=y.a)))||((I x.dC:Int) !=(I y.dC:Int))
def qM(t:Bool):Nat->Ex->Ex->Bool
 | 0,_,_=>L
 | d+1,x,y=>if JR t x y then aL else Ha (qM t d) x.dC y.dC
def RQ{f:Ex->Ex->Bool}{s a:List Ex}{n:Nat}{x y:Ex}(b:s[n]? =aM x)(c:a[n]? =aM y):Ha f (s.drop n) (a.drop n)=(f x y&&Ha f (s.drop (n+1)) (a.drop (n+1))):=by
 have e:∀{l:List Ex} {z:Ex},l[n]? =aM z->l.drop n=z::l.drop (n+1):=λh=>by
  rw[fF (bf.1 h).1,(bf.1 h).2]
 rw[e b,e c,Ha]
def iV(l m:aH):((T l).toList==(T m).toList)=decide (l=m):=acL l m
def U6(t:Bool):∀(d:Nat) {e:Nat} {w:M} {F G:aJ} {x y:Ex} {c g:aI},tX d w F x c->tX e w G y g->
  az Q 99 #[ah c.toArray,ah g.toArray,aj t] w λr b=>r=ak (aj (qM t d x y))/\Z [] w b
 | 0,_,_,_,_,_,_,_,_,h,_=>h.elim
 | d+1,0,_,_,_,_,_,_,_,_,h=>h.elim
 | d+1,e+1,w,F,G,x,y,c,g,⟨sl,u,j⟩,⟨sl',z,m⟩=>by
  subst u z;refine ret (aq0 _ _ _ _ _ _ _ _ _ _ _ _ _ ?_);intro k0 k1 H R P mA Y D;have B:=j.len;have C:=m.len;have N:=j.cap;have q:=j.big;have h:((((((x.k !=y.k)||(x.n !=y.n))||(!((T x.s).toList==(T y.s).toList)))||(x.op !=y.op))||(t&&(x.a !=y.a)))||((sl.n:Int) !=(sl'.n:Int)))=JR t x y:=by
   rw[iV,B,C];rfl
  rw[h];refine⟨λi=>⟨by rw[qM,aV i],D⟩,λi=>?_⟩;have S:I x.dC=I y.dC:=by
   unfold JR at i;rw[dq]at i;have:=i.2;simp only[ve]at this;omega
  rw[qM,aR (by rw[i];decide)];refine⟨λv o b=>∃n:Nat,n<=I x.dC/\o=(n:Int)/\v=(I x.dC)-n/\Ha (qM t d) x.dC y.dC=Ha (qM t d) (x.dC.drop n) (y.dC.drop n)/\Z [] w b/\H.heap.size<=b.heap.size,I x.dC,⟨0,bm _,rfl,rfl,rfl,D,aX _⟩,?_⟩;rintro v _ w1 ⟨n,V,rfl,rfl,l,E,z1⟩;refine⟨λW=>?_,λA=>?_⟩
  ·have W:(n:Int)<(sl.n:Int):=aN W;obtain⟨p,x1,aC,g1,g2,g3,g4,g5,g6⟩:=(SliceF.only (ia d) X j E aaV).get (aZ n) W;obtain⟨p',y1,aS,m1,m2,m3,m4,m5,m6⟩:=(SliceF.only (ia e) X m E aaV).get (i:=(n:Int)) (aZ n) J;rw[aW]at g2 m2;refine⟨p,g1,λw2 T=>?_⟩;have am:=E.cn T;have D9:=gV g6 T;have aT:=gV m6 T;have tc:∃(k n:Int) (s:aH) (bV:Int) (y:Sl) (a:Int),aC=oa k n s bV y a:=by
    cases d with
    | zero=>exact g6.elim
    | succ d=>obtain⟨y,x,_⟩:=g6;exact⟨_,_,_,_,y,_,x⟩
   have td:∃(k n:Int) (s:aH) (bV:Int) (y:Sl) (a:Int),aS=oa k n s bV y a:=by
    cases e with
    | zero=>exact m6.elim
    | succ e=>obtain⟨y,x,_⟩:=m6;exact⟨_,_,_,_,y,_,x⟩
   obtain⟨a1,a2,a3,a4,a5,a6,rfl⟩:=tc;obtain⟨q,b2,b3,b4,b5,b6,rfl⟩:=td;have bY:=g5.keep (T.block _ g5.lt aaV);have cc:=m5.keep (T.block _ m5.lt aaV);refine⟨_,_,_,_,_,_,bY,p',m1,_,_,_,_,_,_,cc,(U6 t d D9 aT).mono ?_⟩;rintro _ w3 ⟨rfl,p⟩;have z2:=T.size;have z3:=p.size;have lP:=RQ (f:=qM t d) g2 m2;refine⟨_,rfl,p.same (by
    simp;omega),λhb=>⟨?_,am.cn p⟩,λhb=>⟨(I x.dC)-(n+1),J,n+1,J,aaA,rfl,?_,am.cn p,J⟩⟩
   ·rw[l,lP];have hb:qM t d x1 y1=aL:=abP
    rw[hb,cV]
   have hb:qM t d x1 y1=L:=abP
   rw[l,lP,hb,cm]
  have A:¬(n:Int)<(sl.n:Int):=aQ A;have:n=I x.dC:=J
  subst this;rw[l,eP (aX _)];exact⟨rfl,E⟩
def lW{d:Nat}{w:M}{F:aJ}{x:Ex}{c:aI}(h:tX d w F x c):∃sl:Sl,c=oa x.k x.n x.s x.op sl x.a:=by
 cases d with
 | zero=>exact h.elim
 | succ d=>obtain⟨l,i,_⟩:=h;exact⟨l,i⟩
def xy:Nat->Ex->Prop
 | 0,_=>True
 | d+1,x=>I x.s<4611686018427387903/\∀y,y∈x.dC->xy d y
def qu(f:Ex->Nat):List Ex->Nat
 | []=>0
 | x::s=>f x+qu f s
def nN:Nat->Ex->Nat
 | 0,_=>0
 | d+1,x=>1+qu (nN d) x.dC
def lI:Nat->Ex->Prop
 | 0,_=>True
 | d+1,x=>ub x.n/\∀y,y∈x.dC->lI d y
def Pe{d:Nat}:∀{xs:List Ex},I xs<=qu (nN (d+1)) xs
 | []=>aX _
 | x::xs=>by
  rw[qu,ba];have:=Pe (d:=d) (xs:=xs);rw[nN];omega
def U7{d:Nat}:∀{s:List Ex} {x:Ex},x∈s->nN d x<=qu (nN d) s
 | [],_,h=>abS
 | y::s,x,h=>by
  rw[qu];rcases aY.1 h with rfl | h
  ·omega
  have:=U7 (d:=d) h;omega
def dP(l:aH):Bool:=decide (l≠[]/\I l<=24)&&(match l with
 | c::_=>fZ c
 | []=>aL)&&decide (l.takeWhile fk=l)&&!mh.contains l
def U8{a:M}(l:aH)(g:I l<9223372036854775807):
  az Q 173 #[K (T l)] a λe w=>e=ak (aj (dP l))/\Z [] a w:=by
 refine ret (alv _ ?_);intro k j n m D;have f:(ao #[])=T []:=rfl;rw[cJ,f,iV];refine⟨λb s i w=>b=dP l/\Z [] a w,λb s i w d=>⟨by rw[d.1],d.2⟩,λh=>?_,λh=>⟨?_,D⟩⟩
 ·simp only[aU,dr,dS,bF]at h;obtain⟨u,v⟩:=h;have v:I l<=24:=J
  obtain⟨c,r,rfl⟩:∃c r,l=c::r:=by
   cases l with
   | nil=>exact absurd rfl u
   | cons c r=>exact⟨c,r,rfl⟩
  have p:dP (c::r)=(fZ c&&decide ((c::r).takeWhile fk=c::r)&&!mh.contains (c::r)):=by
   unfold dP;rw[bE ⟨u,v⟩,cm]
  refine⟨c,⟨jm _,agM⟩,(C2 j c).mono ?_⟩;rintro _ y ⟨rfl,R⟩;have q:=D.cn R;refine⟨_,rfl,R.same aba,λb B=>?_,λb=>⟨by rw[p,b];rfl,q⟩⟩;refine(UW (i:=0) (r:=[]) B (bm _) g).mono ?_;rintro _ x ⟨rfl,e⟩;rw[jl];have t:aF x k 182 [K (T (c::r)),O U 0]:=(e.block k B.lt aaV).trans B;refine⟨_,rfl,T (c::r),0,t,?_⟩;rw[iV];refine⟨λo=>(O7 x).mono ?_,λo=>⟨?_,q.cn e⟩⟩
  ·rintro _ F ⟨s,rfl,A,W⟩;have E:aF F k 182 [K (T (c::r)),O U 0]:=(W.block k t.lt aaV).trans t;refine⟨s,rfl,T (c::r),0,E,(vJ (uM A) (c::r)).mono ?_⟩;rintro _ G ⟨rfl,z⟩;have C:aF G k 182 [K (T (c::r)),O U 0]:=(z.block k E.lt aaV).trans E;exact⟨_,rfl,_,_,C,by rw[p,b,o];rfl,q.cn (e.cn (W.cn z))⟩
  rw[p,b,o];rfl
 unfold dP;rw[bD]
 ·rfl
 rintro⟨b,c⟩;rw[bD b,bE J]at h;cases h
def cM(x:Ex):Int:=if x.k=5 then fP x.op else 6
def rB{w}{F}{x}{cs}{d}(h:tX d w F x cs):az Q 293 #[ah cs.toArray] w λe a=>e=ak (O U (cM x))/\Z [] w a:=by
 cases d with
 | zero=>exact h.elim
 | succ d=>
  obtain⟨sl,rfl,h⟩:=h;refine ret (arJ _ _ _ _ _ _ ?_);refine⟨λhc k e _ _ b=>?_,λhc c w hk j b=>(MX w x.op).mono ?_⟩
  ·have hc:=abv
   rw[cM,aR hc];exact⟨rfl,b⟩
  rintro _ d ⟨rfl,rfl⟩;rw[cM,aV abv];exact⟨_,rfl,λ_ _=>rfl,rfl,b⟩
def RR(n:Int)(s:aH)(op len:Int)(x:Ex):Bool:=((((x.n==n)&&decide (x.s=s))&&(x.op==op))&&(I x.dC==len))
def iq(x:Ex):Bool:=
 if x.k=1 then RR (if 0>x.n then 0 else x.n) [] 0 0 x
 else if x.k=2∨x.k=3 then dP x.s&&RR 0 x.s 0 0 x
 else if x.k=4 then RR 0 [] (if x.op=15 then 15 else 14) 1 x
 else if x.k=5 then !(fP x.op==6)&&RR 0 [] x.op 2 x
 else aL
def ku(f:Ex->Bool):List Ex->Bool
 | []=>L
 | x::s=>f x&&ku f s
def da:Nat->Ex->Bool
 | 0,_=>aL
 | d+1,x=>iq x&&ku (da d) x.dC
def Fk{f}{s:List Ex}{n}{x}(h:s[n]? =aM x):ku f (s.drop n)=(f x&&ku f (s.drop (n+1))):=by
 rw[fF (bf.1 h).1,(bf.1 h).2,ku]
abbrev ShD(d:Nat):Prop:=∀{w:M} {F:aJ} {x:Ex} {c:aI},xy d x->tX d w F x c->az Q 265 #[ah c.toArray] w λe a=>e=ak (aj (da d x))/\Z [] w a
def U9{d}(S:ShD d){w}{F}{x}{cs}(l:xy d x)(h:tX d w F x cs):az Q 291 #[ah cs.toArray] w λe b=>e=ak (aj (!da d x))/\Z [] w b:=by
 obtain⟨sl,rfl⟩:=lW h;refine ret (arI _ _ _ _ _ _ ?_);intro k f hk j a;refine(S l (gV h a)).mono ?_;rintro _ g ⟨rfl,c⟩;exact⟨_,rfl,c.same aba,rfl,a.cn c⟩
def Va{d:Nat}(S:ShD d){w}{F}{l}{xs}(k:∀y,y∈xs->xy d y)(h:aA (tX d) 6 w F l xs):az Q 308 #[l.v,.func (.func 291) #[] #[]] w λe a=>∃i,e=ak (O U i)/\decide (i>=0)=!ku (da d) xs/\Z [] w a:=by
 refine(alW l ⟨.func (.func 291) #[] #[],rfl⟩ (λv a=>∃i,v=O U i/\decide (i>=0)=!ku (da d) xs/\Z [] w a) w ?_).mono (by
  rintro e a ⟨v,rfl,i,rfl,h⟩;exact⟨i,rfl,h⟩)
 have m:=h.len;have r:=h.big;have q:=h.cap;refine⟨λj i a=>∃n,n<=I xs/\i=n/\j=(I xs)-n/\ku (da d) xs=ku _ (xs.drop n)/\Z [] w a,I xs,⟨0,bm _,rfl,rfl,rfl,Only.refl _ _⟩,?_⟩;rintro j _ p ⟨n,o,rfl,rfl,g,c⟩;refine⟨λb=>?_,λb=>?_⟩
 ·have W:(n:Int)<l.n:=aN b;obtain⟨ad,x,v,t,e,w,y,u,s⟩:=(SliceF.only (ia d) X h c aaV).get (aZ n) W;rw[aW]at e;obtain⟨sl,rfl⟩:=lW s;refine⟨ad,t,_,_,_,_,_,_,u,291,[],[],rfl,kO aaz,?_⟩;refine(U9 S (k x (bB e)) s).mono ?_;rintro _ z ⟨rfl,E⟩;have P:=Fk (f:=da d) e;refine⟨_,rfl,λhb=>⟨_,rfl,?_,c.cn E⟩,λhb=>⟨(I xs)-_,J,n+1,J,aaA,rfl,?_,c.cn E⟩⟩
  ·have hb:da d x=aL:=abP
   rw[g,P,hb,cV,EZ];exact bE (aZ n)
  have hb:da d x=L:=abP
  rw[g,P,hb,cm]
 have n:=aQ b;refine⟨_,rfl,?_,c⟩;rw[g,eP J];rfl
def JS{d}(S:ShD d){w}{F}{l}{xs}(c:∀y,y∈xs->xy d y)(h:aA (tX d) 6 w F l xs):az Q 290 #[l.v,.func (.func 291) #[] #[]] w λe f=>e=ak (aj (!ku (da d) xs))/\Z [] w f:=by
 refine ret (alT l ⟨.func _ #[] #[],rfl⟩ _ w ?_);refine(Va S c h).mono ?_;rintro _ g ⟨i,rfl,a,b⟩;exact⟨_,rfl,by rw[a],b⟩
def Pf:∀d,ShD d
 | 0,_,_,_,_,_,h=>h.elim
 | d+1,f,F,x,y,⟨p,o⟩,⟨sl,g,a⟩=>by
  subst g;refine ret (arw _ _ _ _ _ _ ?_);intro B t n A z m S c;have h:∀{b:Bool},iq x=b->da (d+1) x=_:=λe=>by rw[da,e]
  have own:∀{w l:M},Z [] f w->Z [t] w l->Z [] f l:=λg a=>g.new a m;refine⟨λi q j v k u r w=>∃s,v=T s/\iq x=RR j s k i x/\Z [] f w/\n.heap.size<=w.heap.size,?_,λhk C W=>⟨[],rfl,?_,own c W,W.size⟩,λhk=>?_⟩
  ·rintro i q j _ k u r w ⟨s,rfl,G,E,N⟩;have D:((((x.n==j)&&((T x.s).toList==(T s).toList))&&(x.op==k))&&((sl.n:Int)==i))=iq x:=by
    rw[G,iV,a.len];rfl
   rw[D];refine⟨λb H=>b=da _ x/\Z [] f H,?_,λe=>(JS (Pf d) o (SliceF.only (ia d) X a E aaV)).mono ?_,λe=>⟨by rw[h e,cV],E⟩⟩
   ·rintro _ l ⟨rfl,b⟩;exact⟨rfl,b⟩
   rintro _ b ⟨rfl,d⟩;exact⟨_,rfl,d.same aba,by rw[h e,cm,Bool.not_not],E.cn d⟩
  ·have hk:=abI
   rw[iq,aV hk]
  have m:=abI
  refine⟨λb d=>b=decide (x.k=2∨x.k=3)/\d=n,?_,λqF=>⟨?_,rfl⟩,λqF=>⟨?_,rfl⟩⟩
  ·rintro _ _ ⟨rfl,rfl⟩;refine⟨λhk=>(U8 x.s J).mono ?_,λhk=>⟨λuT=>⟨λho D e=>⟨[],rfl,?_,own c e,e.size⟩,λho E s=>⟨[],rfl,?_,own c s,s.size⟩⟩,λuT=>⟨λrk=>(MX _ x.op).mono ?_,λrk=>⟨?_,c⟩⟩⟩⟩
   ·rintro _ H ⟨rfl,Y⟩;have P:=Y.size;have hk:=aN hk;refine⟨_,rfl,Y.same aba,λhb=>⟨?_,c.cn Y⟩,λhb N G=>⟨x.s,rfl,?_,own (c.cn Y) G,by have:=G.size;omega⟩⟩
    ·have hb:=abP
     rw[h (b:=aL) (by rw[iq,aR m,aV hk,hb,cV]),cV]
    have hb:=abP
    rw[iq,aR m,aV hk,hb,cm]
   ·have hk:=aQ hk;have uT:=adG
    have ho:=agZ
    rw[iq,aR m,aR hk,aV uT,aV ho]
   ·have hk:=aQ hk;have uT:=adG
    rw[iq,aR m,aR hk,aV uT,aR agZ]
   ·rintro _ G ⟨rfl,rfl⟩;have hk:=aQ hk;have uT:=adG
    have rk:=ag0
    refine⟨_,rfl,λ_ _=>rfl,λhb=>⟨?_,c⟩,λhb H x=>⟨[],rfl,?_,own c x,x.size⟩⟩
    ·rw[h (b:=aL) (by rw[iq,aR m,aR hk,aR uT,aV rk,hb,Bool.not_true,cV]),cV]
    rw[iq,aR m,aR hk,aR uT,aV rk,hb,EZ,cm]
   have uT:=adG
   have rk:=ag0
   rw[h (b:=aL) (by rw[iq,aR m,aR (aQ hk),aR uT,aR rk]),cV]
  ·have qF:=ag7
   rw[qF];rfl
  rw[bM];simp[by simpa using qF]
def Tb(w:M):Prop:=Lib.TabIs Q w "internal/strconv.uint64pow10" .u64 Lib.pow10Tab
def tb_num:Tryz.prog.globalNamed "internal/strconv.uint64pow10" =aM 2:=aaz
def Tb.keep{w w'}(h:Tb w)(hk:2<w.heap.size->w'.heap[2]? =w.heap[2]?):Tb w':=by
 unfold Tb Lib.TabIs World.var? at h⊢;rw[tb_num]at h⊢;simp at h⊢;rw[hk]
 ·exact h
 refine bT λn=>?_;rw[fI J]at h;cases h
def Tb.lt{w}(h:Tb w):2<w.heap.size:=by
 unfold Tb Lib.TabIs World.var? at h;rw[tb_num]at h;simp at h;refine bT λn=>?_;rw[fI J]at h;cases h
def Tb.only{w w'}(h:Tb w)(a:Z [] w w'):Tb w':=h.keep λb=>a.block _ b aaV
def Only.grown w k os:Z [] w (Go.Sort.grow (w.drewN k) os):=⟨rfl,rfl,rfl,aaV,λq h _=>by
 simp[Go.Sort.grow,World.heap_drewN];rw[Array.getElem?_append_left h]⟩
def BW{w} n (h:ub n) (a:Tb w):az Q 134 #[O U n] w λe b=>e=ak (K (T (Lib.itoa n)))/\Z [] w b:=by
 refine ret (v1w _ ?_);refine(Tryz.strconv_Itoa n h.1 h.2 w a).mono ?_;rintro _ c ⟨rfl,k,o,rfl⟩;exact⟨_,rfl,rfl,Only.grown _ _ _⟩
def Bf(w:M)(B:Nat)(s:Sl)(l:aH):Prop:=
 (s=Sl.nil/\l=[])∨∃g tail,s.a=aM ⟨g,0,aaf⟩/\B<=g/\aF w g 5 (l.map iA++tail)/\I tail=s.c-s.n/\s.n=I l/\s.n<=s.c/\s.c<=9223372036854775807/\0<s.c
def Bf.len{w:M}{B:Nat}{s:Sl}{l:aH}(h:Bf w B s l):s.n=I l:=by
 rcases h with⟨rfl,rfl⟩ | ⟨g,tail,_,_,_,_,h,_⟩
 ·rfl
 exact h
def Bf.lt{w:M}{B:Nat}{s:Sl}{l:aH}(b:Bf w B s l){g:Nat}(a:s.a=aM ⟨g,0,aaf⟩):B<=g/\g<w.heap.size:=by
 rcases b with⟨rfl,rfl⟩ | ⟨e,tail,h,c,d,_⟩
 ·cases a
 rw[a]at h;injection h with h;injection h with h;subst h;exact⟨c,d.lt⟩
def Bf.keep{w w':M}{B:Nat}{s:Sl}{l:aH}(h:Bf w B s l)(hk:∀g,s.a=aM ⟨g,0,aaf⟩->g<w.heap.size->w'.heap[g]? =w.heap[g]?):Bf w' B s l:=by
 rcases h with h | ⟨g,tail,a,c,b,d⟩
 ·exact .inl h
 exact .inr ⟨g,tail,a,c,(hk g a b.lt).trans b,d⟩
def al1(l:aH):Lib.strCells (T l)=l.map iA:=rfl
def Db:Tryz.prog.underlying 197=aM (.slice 5):=aaz
def aft:Tryz.prog.underlying 9=aM .string:=aaz
def Hb:Tryz.prog.info? 5=aM Tryz.t5:=aaz
def BX{w:M}{B:Nat}{s:Sl}{l:aH}(A:Bf w B s l)(m:aH)(F:B<=w.heap.size)(G:I l+I m<=140737488355328):
  ∃d j,(Builtin.append_ #[197,9] 197 #[s.v,K (T m)]).run Q w=.ok d.v j/\Bf j B d (l++m)/\aD (λk=>s.a=aM ⟨k,0,aaf⟩) w j/\(d.a=s.a∨d.a=aM ⟨w.heap.size,0,aaf⟩):=by
 have t:=Db;have a:=aft;have i:=Hb;have f:Tryz.t5.size=1:=rfl;have y:Tryz.t5.bytes=1:=rfl;have r:Tryz.t5.zero=aM (.int .u8 0):=rfl;have hsz:(T m).size=I m:=cJ m;have grown:∀(gH u:Nat),gH=I l+(I m)->0<I l+(I m)->∀cells:Array aw,cells=((l++m).map iA).toArray++Builtin.zeroCells (Value.int .u8 0).cells (grownCap w gH u 5-gH)->
   Bf (w.drew.alloc (.cells cells 5)) B ⟨aM ⟨w.heap.size,0,aaf⟩,gH,grownCap w gH u 5⟩ (l++m)/\aD (λk=>s.a=aM ⟨k,0,aaf⟩) w (w.drew.alloc (.cells cells 5)):=by
  rintro gH u rfl b cells rfl;have c:Z [] w (w.drew.alloc (.cells (((l++m).map iA).toArray++Builtin.zeroCells (Value.int .u8 0).cells (grownCap w (I l+I m) u 5-(I l+I m))) 5)):=(Only.drew w).cn (Only.alloc _ _);refine⟨.inr ⟨w.heap.size,(Builtin.zeroCells (Value.int .u8 0).cells (grownCap w (I l+I m) u 5-(I l+I m))).toList,rfl,F,?_,?_,aaV,grownCap_ge _ _ _ _,grownCap_le_maxLen _ _ _ _ (by simp only[maxLen];omega),cH b (grownCap_ge _ _ _ _)⟩,c.p0⟩
  ·have e:∀(x:aI) (z:Array aw),x.toArray++z=(x++z.toList).toArray:=λx z=>aaV
   rw[e];exact Blk.alloc w.drew 5 _
  exact(yB w _ (size:=1) rfl).trans (lq _)
 rcases A with⟨rfl,rfl⟩ | ⟨g,tail,n,C,h,D,o,E,p,q⟩
 ·cases m with
  | nil=>
   refine⟨Sl.nil,w,?_,.inl ⟨rfl,rfl⟩,OnlyP.refl _ _,.inl rfl⟩;have c:=Lib.run_firstCells_string (P:=Q) w 1 (T []);have b:(T []).size=0:=rfl;rw[b]at c;simp[Sl.nil,Sl.v,Builtin.append_,run_underlying t,run_underlying a,sizeOf,typeInfo,i,f,Builtin.lenOf,b,c]
  | cons c m=>
   have e:=run_append_nil_string (P:=Q) w 197 9 197 5 Tryz.t5 (.int .u8 0) t a i r (T (c::m)) (by rw[hsz];simp) ahC (by rw[hsz,y];omega);rw[hsz]at e;obtain⟨s,v⟩:=grown (I (c::m)) 0 aaV aaV _ rfl;have k:(T (c::m)).data.map (λb=>Value.int .u8 b.toNat)=(List.map iA ([]++c::m)).toArray:=by
    apply Tc.1;rw[Array.toList_map,lR];rfl
   rw[k]at e;exact⟨_,_,e,s,v,.inr rfl⟩
 obtain⟨c,sn,sc⟩:=s;dsimp only at n D o E p q;subst n;by_cases b:sn+I m<=sc
 ·have k:=h;unfold aF at h;have s:=Lib.run_append_room_string (P:=Q) w 197 9 197 5 Tryz.t5 t a i f g sn sc _ h (T m) (by rw[hsz];exact b) (by
   rw[hsz,yv,aO,bJ];omega)
  rw[hsz,al1]at s;refine⟨⟨aM ⟨g,0,aaf⟩,sn+I m,sc⟩,_,s,.inr ⟨g,tail.drop (I m),rfl,C,?_,?_,by dsimp only;rw[aO];omega,b,p,q⟩,(Only.setRow w g _).p λx v=>.inl (by simp only[aP]at v;rw[v]),.inl rfl⟩
  ·have:=k.setRow ((l++m).map iA++tail.drop (I m));have e:((l.map iA++tail).toArray.toList.take sn++m.map iA++(l.map iA++tail).toArray.toList.drop (sn+I m))=(l++m).map iA++tail.drop (I m):=by
    rw[lR,TU aee,bp aee,List.drop_append,eP aee,cb,bJ,cp,o,dG]
   rw[e];exact this
  rw[cG];dsimp only;omega
 have s:∀e v,(l.map iA)[e]? =aM v->w.cell? ((⟨g,0,aaf⟩:Addr).add e)=aM v:=λe v hj=>h.cells 0 (l.map iA) (λe v hj=>acW) e v hj;have k:=Lib.run_append_grow_string (P:=Q) w 197 9 197 5 Tryz.t5 (.int .u8 0) t a i r ⟨g,0,aaf⟩ sn sc (l.map iA) (by rw[f,bJ];omega) s (T m) ahC ahC (growslice_fits ahC (by rw[hsz,y];omega));rw[hsz,al1]at k;obtain⟨x,z⟩:=grown (sn+I m) sc J J _ rfl;refine⟨_,_,k.trans ?_,x,z,.inr rfl⟩;simp[cp]
def adj(w:M)(F:aJ):∀l:aH,qf mB 1 w F l (l.map λb=>[iA b])
 | []=>trivial
 | c::l=>⟨⟨rfl,rfl⟩,adj w F l⟩
def Vb:∀l:aH,(l.map λb=>[iA b]).flatten=l.map iA
 | []=>rfl
 | c::l=>by rw[bQ,eV,Vb l];rfl
def JU{w:M}{F:aJ}:∀{l:aH} {s:List (aI)},qf mB 1 w F l s->s.flatten=l.map iA
 | [],[],_=>rfl
 | c::l,d::s,a=>by
  obtain⟨⟨_,h⟩,b⟩:=a;unfold mB at h;subst h;rw[eV,JU b];rfl
def Bf.own{w:M}{B:Nat}{s:Sl}{l:aH}(h:Bf w B s l)(F:aJ):Own mB 1 5 B w F s l:=by
 rcases h with h | ⟨g,tail,a,c,d,e,f,i,j,_⟩
 ·exact .inl h
 exact .inr ⟨g,l.map λb=>[iA b],tail,a,c,by rw[Vb];exact d,by rw[lq];exact e,f,i,j,adj _ _ _⟩
def Bf.of{w:M}{B:Nat}{s:Sl}{l:aH}{F:aJ}(h:Own mB 1 5 B w F s l)(m:0<I l):Bf w B s l:=by
 rcases h with h | ⟨g,c,tail,a,b,d,e,f,i,j,k⟩
 ·exact .inl h
 exact .inr ⟨g,tail,a,b,by rw[<-JU k];exact d,by rw[e,lq],f,i,j,J⟩
structure Pg (G:aJ) (w:M) (b:Nat) (sl sn:Sl) (l:aH):Prop where
 blk:∃q:Option Addr,(q=aaf∨q=aM ⟨b,0,aaf⟩)/\aF w b 329 [ae q,sl.v,sn.v]
 buf:Bf w (b+1) sl l
 sig:aA ke 1 w G sn xM
 hG:∀k,G k->k<b
def jO(b:Nat)(sl:Sl)(w:M)(sl':Sl)(a:M):Prop:=aD (λk=>k=b∨sl.a=aM ⟨k,0,aaf⟩) w a/\∀k,sl'.a=aM ⟨k,0,aaf⟩->sl.a=aM ⟨k,0,aaf⟩∨w.heap.size<=k
def jO.refl(b:Nat)(sl:Sl)(w:M):jO b sl w sl w:=⟨OnlyP.refl _ _,λ_ h=>.inl h⟩
def jO.trans{b:Nat}{sl sl' S:Sl}{w c u:M}(a:jO b sl w sl' c)(k:jO b sl' c S u):jO b sl w S u:=by
 have z:=a.1.size;refine⟨a.1.trans k.1 λx h=>?_,λx h=>?_⟩
 ·rcases h with h | h
  ·exact .inl (.inl h)
  rcases a.2 x h with e | e
  ·exact .inl (.inr e)
  exact .inr e
 rcases k.2 x h with e | e
 ·exact a.2 x e
 exact .inr J
def jO.only{b:Nat}{sl:Sl}{w w':M}(h:Z [] w w'):jO b sl w sl w':=⟨h.p0,λ_ h=>.inl h⟩
def jO.same{b:Nat}{sl sl':Sl}{w a:M}(c:jO b sl w sl' a){k:Nat}(hk:k≠b)(s:sl.a≠aM ⟨k,0,aaf⟩)(l:k<w.heap.size):cr [k] w a:=c.1.same (by
 intro x h;simp only[aP]at h;subst h;exact⟨l,λe=>e.elim hk s⟩)
def Pg.only{G:aJ}{w w':M}{b:Nat}{sl sn:Sl}{l:aH}(h:Pg G w b sl sn l)(a:Z [] w w'):Pg G w' b sl sn l:=by
 obtain⟨q,d,B⟩:=h.blk;exact⟨⟨q,d,a.blk B aaV⟩,h.buf.keep λg _ c=>a.block g c aaV,SliceF.only cY X h.sig a aaV,h.hG⟩
def Pg.lb{G:aJ}{w:M}{b:Nat}{sl sn:Sl}{l:aH}(h:Pg G w b sl sn l):b<w.heap.size:=by
 obtain⟨q,a,B⟩:=h.blk;exact B.lt
def adk(v:aw)(w:M):(RE 233 #[v]).run Q w=.ok v w:=by
 unfold RE;rw[Sem.run_bind,run_callFunc_extern Tryz.func233 aaz aaz aaz (e:=Extern.AbiNoEscape.same) aaz];rw[Lib.run_noEscape];rfl
def Ph{w:M}{b:Nat}{q:Option Addr}{sl sn:Sl}(d:q=aaf∨q=aM ⟨b,0,aaf⟩)(h:aF w b 329 [ae q,sl.v,sn.v]):
  az Q 201 #[ae (aM ⟨b,0,aaf⟩)] w λe c=>e=ak (ai #[])/\Z [b] w c/\aF c b 329 [ae (aM ⟨b,0,aaf⟩),sl.v,sn.v]:=by
 refine ret (adg _ ?_);have a:w.shape? b=aM (329,3):=by
  unfold World.shape?;unfold aF at h;rw[h];rfl
 refine⟨q,Blk.dM h 0 rfl,λn=>?_,λn=>⟨q,Blk.dM h 0 rfl,?_⟩⟩
 ·have r:=Lib.run_to_unsafe (P:=Q) (src:=212) (dst:=293) w ⟨b,0,aaf⟩ (t:=214) (j:=Tryz.t214) aaz aaz aaz X a (by decide:(0:Nat)<3);have e:=Lib.run_from_unsafe (P:=Q) (src:=293) (dst:=212) w ⟨b,0,aaf⟩ (u:=214) (j:=Tryz.t214) aaz aaz aaz a aaz;exact⟨⟨ae (aM ⟨b,0,aaf⟩),rfl⟩,w,r,⟨ae (aM ⟨b,0,aaf⟩),rfl⟩,w,adk _ w,aM ⟨b,0,aaf⟩,w,e,b,0,_,_,rfl,h,aaV,λg f B=>⟨rfl,f,B⟩⟩
 rcases d with rfl | rfl
 ·cases n
 exact⟨aL,w,Lib.run_neq_ptr_same w _ (te:=214) (j:=Tryz.t214) aaz aaz,λe=>ad2,λ_=>⟨rfl,Only.refl _ _,h⟩⟩
section
variable {G:aJ} {w:M} {b:Nat} {sl sn:Sl} {l:aH}
def afu(h:Pg G w b sl sn l):az Q 179 #[ae (aM ⟨b,0,aaf⟩)] w λe a=>e=ak (O U (I l:Int))/\a=w:=by
 refine ret (ade _ _ _ ?_);obtain⟨q,c,B⟩:=h.blk;exact⟨sl,Blk.dM B 1 rfl,by rw[h.buf.len],rfl⟩
def rR(h:Pg G w b sl sn l)(m:aH)(hm:I l+I m<=140737488355328):az Q 170 #[ae (aM ⟨b,0,aaf⟩),K (T m)] w λe f=>
  ∃sl',e=ak (ai #[O U (I m:Int),.nilIface])/\Pg G f b sl' sn (l++m)/\jO b sl w sl' f:=by
 refine iW (adb _ _ ?_);obtain⟨q,j,B⟩:=h.blk;refine(Ph j B).mono ?_;rintro _ r ⟨rfl,c,z⟩;have y:=c.size;have u:=B.lt;have zO:Bf r (b+1) sl l:=h.buf.keep λg hg a=>c.block g a (by have:=(h.buf.lt hg).1;simp;omega);obtain⟨s,i,n,o,k3,d⟩:=BX zO m J hm;have A:=k3.size;have t:aF i b 329 [ae (aM ⟨b,0,aaf⟩),sl.v,sn.v]:=k3.blk z λe=>afc
 have F4:∀g,s.a=aM ⟨g,0,aaf⟩->b<g:=λg hg=>by
  rcases d with e | e
  ·rw[e]at hg;exact(zO.lt hg).1
  rw[e]at hg;injection hg with hg;injection hg with hg;omega
 refine⟨rfl,sl,Blk.dM z 1 rfl,s,i,n,b,1,_,_,rfl,t,aaV,λv R p=>⟨s,by rw[cJ],⟨⟨_,.inr rfl,p⟩,o.keep λg hg a=>R.block g a adW,?_,h.hG⟩,?_,?_⟩⟩
 ·have b:=SliceF.only cY X h.sig c λk hk _ hm=>ab6
  have e:=SliceF.lO cY X b k3 λk hk _ hm=>by have:=h.hG k hk;have:=(zO.lt hm).1;omega
  exact SliceF.only cY X e R λk hk _ hm=>ab6
 ·refine((c.p (F:=λk=>k=b∨sl.a=aM ⟨k,0,aaf⟩) λx hx=>.inl (.inl ab5)).trans k3 λk hk=>.inl (.inr hk)).trans (R.p (F:=λk=>k=b) λx hx=>.inl ab5) λk hk=>.inl (.inl hk)
 intro k hk;rcases d with e | e
 ·rw[e]at hk;exact .inl hk
 rw[e]at hk;injection hk with hk;injection hk with hk;exact .inr J
def adl(h:Pg G w b sl sn l)(c:UInt8)(hm:I l+1<=140737488355328):O4 ⟨b,0,aaf⟩ (c.toNat:Int) (λv u=>∃sl',v=.nilIface/\Pg G u b sl' sn (l++[c])/\jO b sl w sl' u) w:=by
 unfold O4;obtain⟨q,C,B⟩:=h.blk;refine(Ph C B).mono ?_;rintro _ z ⟨rfl,D,A⟩;have z0:=D.size;have hb:=B.lt;have zO:Bf z (b+1) sl l:=h.buf.keep λg hg a=>D.block g a (by have:=(h.buf.lt hg).1;simp;omega);obtain⟨y,j,E,H,k3,_⟩:=uk z [c] (n:=1) (parts:=#[(0,.int .u8 (c.toNat:Int))]) rfl rfl X X;have z1:=k3.size;have d:Bf j (b+1) sl l:=zO.keep λg hg a=>k3.block g a aaV;obtain⟨s,m,N,S,Y,o,T,p⟩:=rv (P:=Q) (t:=197) (ty:=197) (e:=5) (i:=Tryz.t5) (bytes:=1) (size:=1) (r:=mB) Db Hb rfl rfl rfl rfl sH (d.own λ_=>True) ((yO H).mono sH λk hk=>⟨trivial,λe=>by have:=(zO.lt e).2;have:=hk.1;omega⟩) J aeJ X;have z2:=o.size;have R:aD (λk=>sl.a=aM ⟨k,0,aaf⟩) j m:=o.p λx hx=>.inl (T x hx).1;have V:aF m b 329 [ae (aM ⟨b,0,aaf⟩),sl.v,sn.v]:=R.blk (k3.blk A aaV) λe=>afc
 have F4:∀g,s.a=aM ⟨g,0,aaf⟩->b<g:=λg hg=>by
  rcases p with e | e
  ·rw[e]at hg;exact(zO.lt hg).1
  rw[e]at hg;injection hg with hg;injection hg with hg;omega
 refine⟨rfl,sl,Blk.dM A 1 rfl,y,j,E,s,m,N,b,1,_,_,rfl,V,aaV,λw3 f W=>⟨s,rfl,⟨⟨_,.inr rfl,W⟩,(Bf.of S aaV).keep λg hg a=>f.block g a adW,?_,h.hG⟩,?_,?_⟩⟩
 ·have b:=SliceF.only cY X h.sig (D.cn k3) λk hk _ hm=>ab6
  have c:=SliceF.lO cY X b R λk hk _ hm=>by have:=h.hG k hk;have:=(zO.lt hm).1;omega
  exact SliceF.only cY X c f λk hk _ hm=>ab6
 ·refine(((D.cn k3).p (F:=λk=>k=b∨sl.a=aM ⟨k,0,aaf⟩) λx hx=>.inl (.inl ab5)).trans R λk hk=>.inl (.inr hk)).trans (f.p (F:=λk=>k=b) λx hx=>.inl ab5) λk hk=>.inl (.inl hk)
 intro k hk;rcases p with e | e
 ·rw[e]at hk;exact .inl hk
 rw[e]at hk;injection hk with hk;injection hk with hk;exact .inr J
def aal(h:Pg G w b sl sn l)(c:UInt8)(m:I l+1<=140737488355328):az Q 292 #[ae (aM ⟨b,0,aaf⟩),.int .u8 (c.toNat:Int)] w λe a=>
 ∃sl',e=ak .nilIface/\Pg G a b sl' sn (l++[c])/\jO b sl w sl' a:=(alU _ _ _ w (adl h c m)).mono (by
 rintro e a ⟨v,rfl,s,rfl,h⟩;exact⟨s,rfl,h⟩)
def aam(h:Pg G w b sl sn l)(c:UInt8)(m:I l+1<=140737488355328):mQ Q 292 #[ae (aM ⟨b,0,aaf⟩),.int .u8 (c.toNat:Int)] w λv a=>
 ∃sl',v=.nilIface/\Pg G a b sl' sn (l++[c])/\jO b sl w sl' a:=pw _ _ _ w (adl h c m)
structure Pt (w:M) (b:Nat) (sl:Sl) (l:aH):Prop where
 blk:∃q sn:aw,aF w b 329 [q,sl.v,sn]
 len:sl.n=I l
 aM:l≠[]->∃g,sl.a=.some ⟨g,0,aaf⟩/\b<g/\sl.c≠0/\(∃n,w.shape? g=.some (5,n)/\I l<=n)/\aB w ⟨g,0,aaf⟩ (l.map iA)
 cap:sl.a=aaf∨sl.c≠0
 big:I l<=9223372036854775807
def Dc{w a:M}{g:Nat}(h:a.heap[g]? =w.heap[g]?):a.shape? g=w.shape? g:=by
 unfold World.shape?;rw[h]
def Pt.only{w':M}(j:Pt w b sl l)(h:Z [] w w'):Pt w' b sl l:=by
 obtain⟨⟨q,sn,k⟩,m,o,p,r⟩:=j;refine⟨⟨q,sn,h.blk k aaV⟩,m,λt=>?_,p,r⟩;obtain⟨g,c,d,e,⟨n,a,f⟩,i⟩:=o t;have s:g<w.heap.size:=by
  refine bT λn=>?_;unfold World.shape? at a;rw[fI J]at a;cases a
 have hk:=h.block g s aaV;exact⟨g,c,d,e,⟨n,(Dc hk).trans a,f⟩,i.keep hk⟩
def Pg.pt(h:Pg G w b sl sn l):Pt w b sl l:=by
 obtain⟨q,c,B⟩:=h.blk;refine⟨⟨_,_,B⟩,h.buf.len,λa=>?_,?_,?_⟩
 ·rcases h.buf with⟨_,e⟩ | ⟨g,tail,d,f,b,i,j,k,m,n⟩
  ·exact absurd e a
  have o:I l≠0:=λe=>a (bP e);refine⟨g,d,f,J,⟨_,by unfold World.shape?;unfold aF at b;rw[b],aaV⟩,b.cells 0 (l.map iA) λp v hj=>acW⟩
 ·rcases h.buf with⟨e,_⟩ | ⟨g,tail,b,d,f,i,j,k,l,m⟩
  ·exact .inl (by rw[e])
  exact .inr J
 rcases h.buf with⟨_,e⟩ | ⟨g,tail,b,d,f,i,j,k,l⟩
 ·subst e;simp
 omega
end
def yQ(w:M)(p:Addr)(n:Nat)(a:Nat):(w.freeze p n).shape? a=w.shape? a:=by
 unfold World.freeze;split
 ·rfl
 unfold World.shape?;simp only[Eh];by_cases N:p.block=a
 ·rw[aV N];rcases h:w.heap[a]? with _|o
  ·rfl
  cases o with
  | cells c e f=>obtain⟨l,h⟩:=f;rfl
  | _=>rfl
 rw[aR N]
section
variable {w:M} {b:Nat} {sl:Sl} {l:aH}
def Vd(g:Pt w b sl l):az Q 137 #[ae (aM ⟨b,0,aaf⟩)] w λe d=>e=ak (K (T l))/\Pt d b sl l/\aD (λk=>b<k/\sl.a=aM ⟨k,0,aaf⟩) w d:=by
 refine ret (ac9 _ ?_);intro c D;have i:=g.only D;obtain⟨⟨q,sn,h⟩,f,G,z,r⟩:=i;refine⟨λk=>k=b,sl,Blk.dM h 1 rfl,rfl,sl,Blk.dM h 1 rfl,sl.a,c,?_,λk _ _=>rfl,?_⟩
 ·obtain⟨s,E,sc⟩:=sl;rcases s with _|a
  ·exact Lib.run_unsafeSliceData_nil _ _ _ _ _
  rcases z with e | e
  ·cases e
  exact Lib.run_unsafeSliceData_row _ _ _ _ _ _ e
 by_cases a:l=[]
 ·subst a;have n:sl.n=0:=f;refine⟨T [],c,?_,λk _ _=>rfl,rfl,⟨⟨q,sn,h⟩,f,G,z,r⟩,D.p0⟩;rw[n];exact Lib.run_unsafeString_none _ _ _ _ _
 obtain⟨e,j,S,s,⟨p,t,o⟩,y⟩:=G a;have F:=vL c ⟨e,0,aaf⟩ (I l);have E:b<c.heap.size:=h.lt;refine⟨T l,c.freeze ⟨e,0,aaf⟩ (I l),?_,λk hk W=>F.block k W abQ,rfl,⟨⟨q,sn,F.blk h abQ⟩,f,λ_=>⟨e,j,S,s,⟨p,(yQ _ _ _ _).trans t,o⟩,λn v m=>by rw[vK];exact y n v m⟩,z,r⟩,D.oQ (F.mono λk _ hk=>by dsimp only at hk;subst hk;exact⟨S,j⟩)⟩;rw[j,f];exact Lib.run_unsafeString_row _ _ _ _ 5 aaz aaz e p t l a o r λn x m=>y n (iA x) (by rw[cN,m];rfl)
end
def opn(wr:Bool)(l:aH):aH:=if wr then l++[40]else l
def clo(wr:Bool)(l:aH):aH:=if wr then l++[41]else l
def qN:Nat->Ex->Bool->aH->aH
 | 0,_,_,l=>l
 | d+1,x,wr,l=>if 16384<I l then l else clo wr (
  if x.k=1 then opn wr l++Lib.itoa x.n
  else if x.k=2 then opn wr l++x.s
  else if x.k=3 then opn wr l++([105,110,40]++x.s++[41])
  else if x.k=4 then(match x.dC with
   | [y]=>qN d y (decide (cM y<6)) (opn wr l++eX x.op.toNat)
   | _=>l)
  else(match x.dC with
   | [y,z]=>qN d z (decide (cM z<=cM x)) (qN d y (decide (cM y<cM x)) (opn wr l)++([32]++eX x.op.toNat++[32]))
   | _=>l))
section
variable {x:Ex}
def xz{n}{s}{op len}(h:RR n s op len x=L):x.n=n/\x.s=s/\x.op=op/\I x.dC=len:=by
 simp[RR,aU,db,bF]at h;exact⟨h.1.1.1,h.1.1.2,h.1.2,h.2⟩
def kw(h:iq x=L)(hk:x.k=2∨x.k=3):dP x.s=L:=by
 have a:x.k≠1:=J
 rw[iq,aR a,aV hk,aU]at h;exact h.1
def vM(h:iq x=L)(hk:x.k=4):∃y,x.dC=[y]/\(x.op=14∨x.op=15):=by
 rw[iq,aR J,aR J,aV hk]at h;obtain⟨_,_,a,c⟩:=xz h;obtain⟨y,b⟩:=List.length_eq_one_iff.1 (show (I x.dC)=1 by omega);refine⟨y,b,?_⟩;by_cases C:x.op=15
 ·exact .inr C
 rw[aR C]at a;exact .inl a
def qO(h:iq x=L)(a:x.k≠1)(c:x.k≠2)(d:x.k≠3)(b:x.k≠4):x.k=5/\∃y z,x.dC=[y,z]/\1<=x.op/\x.op<=13:=by
 rw[iq,aR a,aR J,aR b]at h;split at h
 ·rename_i f;rw[aU]at h;obtain⟨e,g⟩:=h;obtain _:=xz g;have e:=by simpa using e
  have l:I x.dC=2:=J
  obtain⟨y,z,i⟩:∃y z,x.dC=[y,z]:=by
   match m:x.dC,l with
   | [y,z],_=>exact⟨y,z,rfl⟩
  refine⟨f,y,z,i,?_⟩;unfold fP at e;refine bT λn=>e ?_;rw[aR J,aR J,aR J,aR J,aR J,aR J]
 cases h
def iP{s}(h:dP s=L):I s<=24:=by
 unfold dP at h;simp only[aU]at h;exact(aN h.1.1.1).2
def mE n:I (eX n)<=2:=by
 rcases wy n 16 with h | h
 ·have:∀q,q<16->I (eX q)<=2:=X
  exact this n h
 unfold eX;rw[eG (h)];decide
def Pj wr l:I (opn wr l)<=I l+1:=by
 unfold opn;cases wr<;>simp
def aan wr l:I (clo wr l)<=I l+1:=by
 unfold clo;cases wr<;>simp
def um:∀d {x:Ex} wr l,da d x=L->lI d x->I (qN d x wr l)<=I l+40*nN d x
 | 0,x,wr,l,h,_=>abG
 | d+1,x,wr,l,h,⟨n,s⟩=>by
  rw[da,aU]at h;obtain⟨b,a⟩:=h;have c:=Pj wr l;rw[qN,nN];split
  ·omega
  refine bH (aan _ _) ?_;split
  ·rw[aO];have:=Lib.itoa_length_le x.n n.1 n.2;omega
  split
  ·rename_i hk;rw[aO];have:=iP (kw b (.inl hk));omega
  split
  ·rename_i hk;rw[aO,aO,aO];have:=iP (kw b (.inr hk));simp;omega
  split
  ·rename_i hk;obtain⟨y,h,_⟩:=vM b hk;rw[h]at a s⊢;dsimp only;simp[ku,dK,qu]at a⊢;have:=um d (decide (cM y<6)) (opn wr l++eX x.op.toNat) a (s y aaV);rw[aO]at this;have:=mE x.op.toNat;omega
  rename_i k f k3 g;obtain⟨hk,y,z,h,_⟩:=qO b k f k3 g;rw[h]at a s⊢;dsimp only;simp only[ku,dK,qu,aU]at a⊢;have i:=um d (decide (cM y<cM x)) (opn wr l) a.1 (s y aaV);have e:=um d (decide (cM z<=cM x)) (qN d y (decide (cM y<cM x)) (opn wr l)++([32]++eX x.op.toNat++[32])) a.2 (s z aaV);rw[aO,aO,aO]at e;have:=mE x.op.toNat;simp only[ba,bK]at e;omega
end
structure Pz (d:Nat) (F G:aJ) (k0 b:Nat) (sub sn:Sl) (subs:List Ex) (w:M) (sl:Sl) (l:aH):Prop where
 pg:Pg G w b sl sn l
 tb:Tb w
 own:k0≠b/\sl.a≠aM ⟨k0,0,aaf⟩/\k0<w.heap.size
 sb:aA (tX d) 6 w F sub subs
 hF:∀k,F k->k<b
 hT:2<b
section
variable {d:Nat} {F G:aJ} {k0 b:Nat} {sx sn sl sl':Sl} {subs:List Ex} {w w' u6:M} {l l':aH}
def Pg.out(h:Pg G w b sl sn l){k}(hk:k<b):¬(k=b∨sl.a=aM ⟨k,0,aaf⟩):=by
 rintro(e | e)
 ·omega
 have:=(h.buf.lt e).1;omega
def Pz.only(h:Pz d F G k0 b sx sn subs w sl l)(a:Z [] w w'):Pz d F G k0 b sx sn subs w' sl l:=by
 have z:=a.size;exact⟨h.pg.only a,h.tb.only a,⟨h.own.1,h.own.2.1,by have:=h.own.2.2;omega⟩,SliceF.only (ia d) X h.sb a aaV,h.hF,h.hT⟩
def Pz.mv(h:Pz d F G k0 b sx sn subs w sl l)(p:Pg G w' b sl' sn l')(m:jO b sl w sl' w'):Pz d F G k0 b sx sn subs w' sl' l'/\cr [k0] w w'/\bR (λk=>k<b∨k=k0) w w':=by
 have z:=m.1.size;obtain⟨o,a,c⟩:=h.own;refine⟨⟨p,h.tb.keep λW=>m.1.block _ W (h.pg.out h.hT),⟨o,λe=>?_,J⟩,SliceF.lO (ia d) X h.sb m.1 λk hk _=>h.pg.out (h.hF k hk),h.hF,h.hT⟩,m.same o a c,λk hk W=>m.1.block k W ?_⟩
 ·rcases m.2 k0 e with e | e
  ·exact a e
  omega
 rcases hk with hk | rfl
 ·exact h.pg.out hk
 rintro(e | e)
 ·exact o e
 exact a e
def jO.after(h:jO b sl w' sl' u6)(a:Z [] w w'):jO b sl w sl' u6:=(jO.only a).trans h
def Pz.same(h:Pz d F G k0 b sx sn subs w sl l)(a:Z [] w w'):cr [k0] w w':=a.same (by have:=h.own.2.2;simp;omega)
def Pz.sig(h:Pz d F G k0 b sx sn subs w sl l){op}(f:0<=op)(m:op<16):∃ad,cT sn op 1 ad/\aB w ad [K (T (eX op.toNat))]:=by
 have n:=h.pg.sig.len;have o:I xM=16:=rfl;obtain⟨ad,x,s,g,a,j,k,c,e⟩:=h.pg.sig.get f J;subst e;have i:eX op.toNat=x:=by unfold eX;rw[a];rfl
 subst i;exact⟨ad,g,c⟩
def Pz.sub(h:Pz d F G k0 b sx sn subs w sl l){i:Nat}{y}(c:subs[i]? =aM y):∃ad s,cT sx i 6 ad/\ad.block<b/\aB w ad (oa y.k y.n y.s y.op s y.a)/\tX d w F y (oa y.k y.n y.s y.op s y.a):=by
 have n:=h.sb.len;have W:=(bf.1 c).1;obtain⟨ad,x,k,e,g,f,m,j,a⟩:=h.sb.get (aZ i) J;rw[aW,c]at g;injection g with g;subst g;obtain⟨s,rfl⟩:=lW a;exact⟨ad,s,e,h.hF _ f,j,a⟩
end
abbrev PgC(d:Nat):Prop:=∀{G F:aJ} {w:M} {b:Nat} {sl sn:Sl} {l:aH} {x:Ex} {c:aI} wr,da d x=L->lI d x->tX d w F x c->(∀k,F k->k<b)->Tb w->2<b->Pg G w b sl sn l->I l+40*nN d x<=70368744177664->
 az Q 266 #[ae (aM ⟨b,0,aaf⟩),ah c.toArray,aj wr] w λe a=>∃sl',e=ak (ai #[])/\Pg G a b sl' sn (qN d x wr l)/\jO b sl w sl' a
def inb s:ao #[105,110,40]++T s++ao #[41]=T ([105,110,40]++s++[41]):=by
 rw[show ao #[105,110,40]=T [105,110,40]from rfl,show ao #[41]=T [41]from rfl,fm,fm]
def blb s:ao #[32]++T s++ao #[32]=T ([32]++s++[32]):=by
 rw[show ao #[32]=T [32]from rfl,fm,fm]
def inz c s:(c++T s).size=c.size+I s:=by
 rw[show c=T c.data.toList from I9 c,fm,cJ,cJ,aO]
def mQ.mono{P}{f}{a}{w}{Q Q'}(h:mQ P f a w Q)(q:∀v b,Q v b->Q' v b):mQ P f a w Q':=λc s k=>by
 obtain⟨e,u,b,fr,⟨d,v,g,i⟩,j⟩:=h c s k;exact⟨e,u,b,fr,⟨d,v,g,q _ _ i⟩,j⟩
def xO:∀d,PgC d
 | 0,_,_,_,_,_,_,_,_,_,_,_,_,h,_,_,_,_,_=>h.elim
 | d+1,g,F,m,b,sl,G,l,x,E,wr,t,⟨o,R⟩,⟨c,A,n⟩,j,B,W,hP,u=>by
  subst A;refine(arx ⟨b,0,aaf⟩ x.k x.n (T x.s) x.op c x.a wr (λv w=>∃sl',v=ai #[]/\Pg g w b sl' G (qN (d+1) x wr l)/\jO b sl m sl' w) m ?_).mono (by
   rintro e w ⟨v,rfl,s,rfl,b⟩;exact⟨s,rfl,b⟩)
  have P:tX (d+1) m F x (oa x.k x.n x.s x.op c x.a):=⟨c,rfl,n⟩
  rw[da,aU]at t;obtain⟨h,ha⟩:=t;rw[nN]at u;intro f C H r D;have N:=hP.lb;have a:Pz d F g f b c G x.dC C sl l:=⟨hP.only D,B.only D,⟨J,λe=>acz,r⟩,SliceF.only (ia d) X n D aaV,j,W⟩
  refine(afu a.pg).mono ?_;rintro _ p ⟨rfl,rfl⟩;refine⟨_,rfl,λ_ _=>rfl,λhc=>⟨sl,rfl,?_,(jO.only D)⟩,λhc=>?_⟩
  ·rw[qN,aV abL];exact a.pg
  have hc:¬16384<I l:=abO
  have e:qN (d+1) x wr l=clo wr (
  if x.k=1 then opn wr l++Lib.itoa x.n
  else if x.k=2 then opn wr l++x.s
  else if x.k=3 then opn wr l++([105,110,40]++x.s++[41])
  else if x.k=4 then(match x.dC with
   | [y]=>qN d y (decide (cM y<6)) (opn wr l++eX x.op.toNat)
   | _=>l)
  else(match x.dC with
   | [y,z]=>qN d z (decide (cM z<=cM x)) (qN d y (decide (cM y<cM x)) (opn wr l)++([32]++eX x.op.toNat++[32]))
   | _=>l)):=by rw[qN,aR hc]
  have S:=Pj wr l;refine⟨λs=>(aal a.pg 40 J).mono ?_,λs=>?_⟩
  ·rintro _ w2 ⟨SY,rfl,XH,yu⟩;obtain⟨T,L8,_⟩:=a.mv XH yu;have XX:l++[40]=opn wr l:=by unfold opn;rw[aV s]
   rw[XX]at T;refine⟨⟨.nilIface,rfl⟩,rfl,L8,?_⟩;have fin:∀{V:Sl} {Y:M} {am:aH},Pz d F g f b c G x.dC Y V am->jO b SY w2 V Y->qN (d+1) x wr l=clo wr am->I am<=I l+40*(1+qu (nN d) x.dC)->mQ Q 292 #[ae (aM ((⟨b,0,aaf⟩:Addr).add 0)),.int .u8 41] Y λ_ w=>∃sl',(Value.tuple #[])=ai #[]/\Pg g w b sl' G (qN (d+1) x wr l)/\jO b sl m sl' w:=by
    intro V Y am i d q x;have hd:=aam i.pg 41 J;refine mQ.mono hd ?_;rintro v w ⟨sl',y,b,k⟩;refine⟨sl',rfl,?_,((yu.after D).trans d).trans k⟩;rw[q];unfold clo;rw[aV s];exact b
   refine⟨λhk w3 di=>?_,λk1=>⟨λhk w7 gq=>?_,λk2=>⟨λhk=>⟨?_,?_,λdA dR=>?_⟩,λk3=>⟨λhk fj dV=>?_,λk4=>(rB (show tX (d+1) _ F x (oa x.k x.n x.s x.op c x.a)from⟨c,rfl,T.sb⟩)).mono ?_⟩⟩⟩⟩
   ·have hk:x.k=1:=abI
    have z:=T.only di;refine(BW x.n o z.tb).mono ?_;rintro _ w4 ⟨rfl,d⟩;have b:=z.only d;have y:=Lib.itoa_length_le x.n o.1 o.2;refine⟨_,rfl,z.same d,(rR b.pg (Lib.itoa x.n) J).mono ?_⟩;rintro _ Y ⟨V,rfl,v,i⟩;obtain⟨k,q,_⟩:=b.mv v i;exact⟨_,⟨.nilIface,rfl⟩,rfl,q,fin k ((i.after d).after di) (by rw[e,aV hk]) acN⟩
   ·have hk:x.k=2:=abI
    have k1:x.k≠1:=J
    have z:=T.only gq;have q:=iP (kw h (.inl hk));refine(rR z.pg x.s J).mono ?_;rintro _ v ⟨V,rfl,k,b⟩;obtain⟨d,i,_⟩:=z.mv k b;exact⟨_,⟨.nilIface,rfl⟩,rfl,i,fin d (b.after gq) (by rw[e,aR k1,aV hk]) acN⟩
   ·have hk:x.k=3:=abI
    have b:=iP (kw h (.inr hk));rw[cJ];omega
   ·have hk:x.k=3:=abI
    have b:=iP (kw h (.inr hk));rw[inz];have:(ao #[105,110,40]).size=3:=rfl;omega
   ·have hk:x.k=3:=abI
    have y:=iP (kw h (.inr hk));have d:=T.only dR;have z:I ([105,110,40]++x.s++[41]:aH)=I x.s+4:=by
     rw[aO,aO];simp only[ba,bK];omega
    rw[inb];refine(rR d.pg _ J).mono ?_;rintro _ v ⟨V,rfl,q,b⟩;obtain⟨i,k,_⟩:=d.mv q b;exact⟨_,⟨.nilIface,rfl⟩,rfl,k,fin i (b.after dR) (by rw[e,aR J,aR J,aV hk]) acN⟩
   ·have hk:x.k=4:=abI
    obtain⟨y,hy,rh⟩:=vM h hk;have cC:qu (nN d) x.dC=nN d y:=agO
    have v:da d y=L:=acb
    have EX:lI d y:=R y adD;have X2:=mE x.op.toNat;have Ip:=T.only dV;obtain⟨q,hq,hB⟩:=Ip.pg.blk;obtain⟨ad,g1,g2⟩:=Ip.sig (op:=x.op) J J;refine⟨G,Blk.dM hB 2 rfl,ad,g1,_,g2,(rR Ip.pg (eX x.op.toNat) J).mono ?_⟩;rintro _ fU ⟨S0,rfl,aS,X3⟩;obtain⟨aT,bV,_⟩:=Ip.mv aS X3;refine⟨_,⟨.nilIface,rfl⟩,rfl,bV,λgC iy=>?_⟩;have Oa:=aT.only iy;obtain⟨p1,sy,e1,e2,e3,e4⟩:=Oa.sub (i:=0) (y:=y) adm;refine⟨λk=>k<b∨k=f,.inr rfl,p1,e1,.inl e2,_,_,_,_,_,_,e3,p1,e1,_,_,_,_,_,_,e3,(rB e4).mono ?_⟩;rintro _ iQ ⟨rfl,z⟩;have Ob:=Oa.only z;have S1:=um d (decide (cM y<6)) (opn wr l++eX x.op.toNat) v EX;rw[aO]at S1;refine⟨_,rfl,Oa.same z,bR.only z,(xO d (decide (cM y<6)) v EX (gV e4 z) j Ob.tb W Ob.pg acN).mono ?_⟩;rintro _ im ⟨dO,rfl,bY,X6⟩;obtain⟨cc,co,aC⟩:=Ob.mv bY X6;exact⟨rfl,co,aC,fin cc ((X3.after dV).trans ((X6.after z).after iy)) (by rw[e,aR J,aR J,aR J,aV hk,hy]) J⟩
   rintro _ kf ⟨rfl,my⟩;have k1:x.k≠1:=aef
   have k2:x.k≠2:=ag9
   have k3:x.k≠3:=aeg
   have k4:x.k≠4:=aeh
   obtain⟨hk,y,z,hy,XG,NT⟩:=qO h k1 k2 k3 k4;have lE:qu (nN d) x.dC=nN d y+nN d z:=agO
   have AO:da d y=L/\da d z=L:=acb
   have EX:lI d y:=R y adD;have TK:lI d z:=R z adD;have X2:=mE x.op.toNat;have eQ:=T.only my;refine⟨_,rfl,T.same my,λiU jT=>?_⟩;have Oc:=eQ.only jT;obtain⟨p1,sy,e1,e2,e3,e4⟩:=Oc.sub (i:=0) (y:=y) adm;refine⟨λk=>k<b∨k=f,.inr rfl,p1,e1,.inl e2,_,_,_,_,_,_,e3,p1,e1,_,_,_,_,_,_,e3,(rB e4).mono ?_⟩;rintro _ kZ ⟨rfl,jt⟩;have Od:=Oc.only jt;have S1:=um d (decide (cM y<cM x)) (opn wr l) AO.1 EX;refine⟨_,rfl,Oc.same jt,bR.only jt,(xO d (decide (cM y<cM x)) AO.1 EX (gV e4 jt) j Od.tb W Od.pg J).mono ?_⟩;rintro _ mV ⟨lT,rfl,fd,X7⟩;obtain⟨f7,f8,gE⟩:=Od.mv fd X7;refine⟨rfl,f8,gE,λpo tP=>?_⟩;have Iq:=f7.only tP;obtain⟨q,hq,hB⟩:=Iq.pg.blk;obtain⟨ad,g1,g2⟩:=Iq.sig (op:=x.op) J J;have ye:I ([32]++eX x.op.toNat++[32]:aH)=I (eX x.op.toNat)+2:=by
    rw[aO,aO];simp only[ba,bK];omega
   have yt:(ao #[32]).size=1:=rfl;refine⟨G,Blk.dM hB 2 rfl,ad,g1,_,g2,abN,by rw[inz];omega,?_⟩;rw[blb];refine(rR Iq.pg _ J).mono ?_;rintro _ ra ⟨mt,rfl,gG,X8⟩;obtain⟨gO,gT,_⟩:=Iq.mv gG X8;refine⟨_,⟨.nilIface,rfl⟩,rfl,gT,λnu tQ=>?_⟩;have Oe:=gO.only tQ;obtain⟨p2,sz,f1,f2,f3,f4⟩:=Oe.sub (i:=1) (y:=z) adm;refine⟨λk=>k<b∨k=f,.inr rfl,p2,f1,.inl f2,_,_,_,_,_,_,f3,p2,f1,_,_,_,_,_,_,f3,(rB f4).mono ?_⟩;rintro _ pK ⟨rfl,v⟩;have Og:=Oe.only v;have ip:=um d (decide (cM z<=cM x)) (qN d y (decide (cM y<cM x)) (opn wr l)++([32]++eX x.op.toNat++[32])) AO.2 TK;rw[aO,ye]at ip;refine⟨_,rfl,Oe.same v,bR.only v,(xO d (decide (cM z<=cM x)) AO.2 TK (gV f4 v) j Og.tb W Og.pg (by rw[aO,ye];omega)).mono ?_⟩;rintro _ sf ⟨mK,rfl,iD,X9⟩;obtain⟨iF,iN,iS⟩:=Og.mv iD X9;exact⟨rfl,iN,iS,fin iF (((X7.after jt).after jT).after my |>.trans ((X8.after tP).trans ((X9.after v).after tQ))) (by rw[e,aR k1,aR k2,aR k3,aR k4,hy]) J⟩
  have XX:l=opn wr l:=by unfold opn;rw[s];rfl
  have v:Pz d F g f b c G x.dC p sl (opn wr l):=by rw[<-XX];exact a
  have fin:∀{T:Sl} {V:M} {Y:aH},Pz d F g f b c G x.dC V T Y->jO b sl p T V->qN (d+1) x wr l=clo wr Y->I Y<=I l+40*(1+qu (nN d) x.dC)->∃sl',(Value.tuple #[])=ai #[]/\Pg g V b sl' G (qN (d+1) x wr l)/\jO b sl m sl' V:=by
   intro T V Y d b i k;refine⟨T,rfl,?_,b.after D⟩;rw[i];unfold clo;rw[s];exact d.pg
  refine⟨λhk w3 di=>?_,λk1=>⟨λhk w7 gq=>?_,λk2=>⟨λhk=>⟨?_,?_,λdA dR=>?_⟩,λk3=>⟨λhk fj dV=>?_,λk4=>(rB (show tX (d+1) _ F x (oa x.k x.n x.s x.op c x.a)from⟨c,rfl,v.sb⟩)).mono ?_⟩⟩⟩⟩
  ·have hk:x.k=1:=abI
   have z:=v.only di;refine(BW x.n o z.tb).mono ?_;rintro _ w4 ⟨rfl,d⟩;have b:=z.only d;have hl:=Lib.itoa_length_le x.n o.1 o.2;refine⟨_,rfl,z.same d,(rR b.pg (Lib.itoa x.n) J).mono ?_⟩;rintro _ V ⟨T,rfl,y,i⟩;obtain⟨k,q,_⟩:=b.mv y i;exact⟨_,⟨.nilIface,rfl⟩,rfl,q,fin k ((i.after d).after di) (by rw[e,aV hk]) acN⟩
  ·have hk:x.k=2:=abI
   have k1:x.k≠1:=J
   have z:=v.only gq;have q:=iP (kw h (.inl hk));refine(rR z.pg x.s J).mono ?_;rintro _ y ⟨T,rfl,k,b⟩;obtain⟨d,i,_⟩:=z.mv k b;exact⟨_,⟨.nilIface,rfl⟩,rfl,i,fin d (b.after gq) (by rw[e,aR k1,aV hk]) acN⟩
  ·have hk:x.k=3:=abI
   have b:=iP (kw h (.inr hk));rw[cJ];omega
  ·have hk:x.k=3:=abI
   have b:=iP (kw h (.inr hk));rw[inz];have:(ao #[105,110,40]).size=3:=rfl;omega
  ·have hk:x.k=3:=abI
   have z:=iP (kw h (.inr hk));have d:=v.only dR;have ye:I ([105,110,40]++x.s++[41]:aH)=I x.s+4:=by
    rw[aO,aO];simp only[ba,bK];omega
   rw[inb];refine(rR d.pg _ J).mono ?_;rintro _ y ⟨T,rfl,q,b⟩;obtain⟨i,k,_⟩:=d.mv q b;exact⟨_,⟨.nilIface,rfl⟩,rfl,k,fin i (b.after dR) (by rw[e,aR J,aR J,aV hk]) acN⟩
  ·have hk:x.k=4:=abI
   obtain⟨y,hy,rh⟩:=vM h hk;have rx:qu (nN d) x.dC=nN d y:=agO
   have z:da d y=L:=acb
   have EX:lI d y:=R y adD;have X2:=mE x.op.toNat;have Ip:=v.only dV;obtain⟨q,hq,hB⟩:=Ip.pg.blk;obtain⟨ad,g1,g2⟩:=Ip.sig (op:=x.op) J J;refine⟨G,Blk.dM hB 2 rfl,ad,g1,_,g2,(rR Ip.pg (eX x.op.toNat) J).mono ?_⟩;rintro _ fU ⟨S0,rfl,oF,X3⟩;obtain⟨oN,oR,_⟩:=Ip.mv oF X3;refine⟨_,⟨.nilIface,rfl⟩,rfl,oR,λgC iy=>?_⟩;have Oa:=oN.only iy;obtain⟨p1,sy,e1,e2,e3,e4⟩:=Oa.sub (i:=0) (y:=y) adm;refine⟨λk=>k<b∨k=f,.inr rfl,p1,e1,.inl e2,_,_,_,_,_,_,e3,p1,e1,_,_,_,_,_,_,e3,(rB e4).mono ?_⟩;rintro _ iQ ⟨rfl,iT⟩;have Ob:=Oa.only iT;have S1:=um d (decide (cM y<6)) (opn wr l++eX x.op.toNat) z EX;rw[aO]at S1;refine⟨_,rfl,Oa.same iT,bR.only iT,(xO d (decide (cM y<6)) z EX (gV e4 iT) j Ob.tb W Ob.pg acN).mono ?_⟩;rintro _ im ⟨tO,rfl,pi,X6⟩;obtain⟨pm,pP,nO⟩:=Ob.mv pi X6;exact⟨rfl,pP,nO,fin pm ((X3.after dV).trans ((X6.after iT).after iy)) (by rw[e,aR J,aR J,aR J,aV hk,hy]) J⟩
  rintro _ kf ⟨rfl,my⟩;have k1:x.k≠1:=aef
  have k2:x.k≠2:=ag9
  have k3:x.k≠3:=aeg
  have k4:x.k≠4:=aeh
  obtain⟨hk,y,z,hy,XG,NT⟩:=qO h k1 k2 k3 k4;have Do:qu (nN d) x.dC=nN d y+nN d z:=agO
  have AO:da d y=L/\da d z=L:=acb
  have EX:lI d y:=R y adD;have TK:lI d z:=R z adD;have X2:=mE x.op.toNat;have ut:=v.only my;refine⟨_,rfl,v.same my,λiU jT=>?_⟩;have Oc:=ut.only jT;obtain⟨p1,sy,e1,e2,e3,e4⟩:=Oc.sub (i:=0) (y:=y) adm;refine⟨λk=>k<b∨k=f,.inr rfl,p1,e1,.inl e2,_,_,_,_,_,_,e3,p1,e1,_,_,_,_,_,_,e3,(rB e4).mono ?_⟩;rintro _ kZ ⟨rfl,jt⟩;have Od:=Oc.only jt;have S1:=um d (decide (cM y<cM x)) (opn wr l) AO.1 EX;refine⟨_,rfl,Oc.same jt,bR.only jt,(xO d (decide (cM y<cM x)) AO.1 EX (gV e4 jt) j Od.tb W Od.pg J).mono ?_⟩;rintro _ mV ⟨DO,rfl,uP,X7⟩;obtain⟨wd,As,AC⟩:=Od.mv uP X7;refine⟨rfl,As,AC,λpo tP=>?_⟩;have Iq:=wd.only tP;obtain⟨q,hq,hB⟩:=Iq.pg.blk;obtain⟨ad,g1,g2⟩:=Iq.sig (op:=x.op) J J;have ye:I ([32]++eX x.op.toNat++[32]:aH)=I (eX x.op.toNat)+2:=by
   rw[aO,aO];simp only[ba,bK];omega
  have yt:(ao #[32]).size=1:=rfl;refine⟨G,Blk.dM hB 2 rfl,ad,g1,_,g2,abN,by rw[inz];omega,?_⟩;rw[blb];refine(rR Iq.pg _ J).mono ?_;rintro _ ra ⟨EQ,rfl,AS,X8⟩;obtain⟨AT,Bv,_⟩:=Iq.mv AS X8;refine⟨_,⟨.nilIface,rfl⟩,rfl,Bv,λnu tQ=>?_⟩;have Oe:=AT.only tQ;obtain⟨p2,sz,f1,f2,f3,f4⟩:=Oe.sub (i:=1) (y:=z) adm;refine⟨λk=>k<b∨k=f,.inr rfl,p2,f1,.inl f2,_,_,_,_,_,_,f3,p2,f1,_,_,_,_,_,_,f3,(rB f4).mono ?_⟩;rintro _ pK ⟨rfl,jK⟩;have Og:=Oe.only jK;have By:=um d (decide (cM z<=cM x)) (qN d y (decide (cM y<cM x)) (opn wr l)++([32]++eX x.op.toNat++[32])) AO.2 TK;rw[aO,ye]at By;refine⟨_,rfl,Oe.same jK,bR.only jK,(xO d (decide (cM z<=cM x)) AO.2 TK (gV f4 jK) j Og.tb W Og.pg (by rw[aO,ye];omega)).mono ?_⟩;rintro _ sf ⟨Fd,rfl,BV,X9⟩;obtain⟨BY,Cc,CC⟩:=Og.mv BV X9;exact⟨rfl,Cc,CC,fin BY (((X7.after jt).after jT).after my |>.trans ((X8.after tP).trans ((X9.after jK).after tQ))) (by rw[e,aR k1,aR k2,aR k3,aR k4,hy]) J⟩
def pC(d:Nat)(x:Ex):aH:=if da d x=L then(if(jh (qN d x aL [])).2.1≠0 then[]else qN d x aL [])else[]
def afv{d:Nat}{w:M}{F:aJ}{x:Ex}{s:aI}(h:tX d w F x s)(l:xy d x)(n:lI d x)(f:Er w)(a:Tb w)(p:40*nN d x<=70368744177664):
  az Q 239 #[ah s.toArray] w λe g=>e=ak (K (T (pC d x)))/\Z [] w g:=by
 obtain⟨u,rfl⟩:=lW h;refine ret (v6w _ _ _ _ _ _ ?_);intro r t o m c;have i:=(ia d).inHeap h;refine(Pf d l (gV h c)).mono ?_;rintro _ b ⟨rfl,E⟩;have z:=c.size;have v:=E.size;have j:=c.cn E;refine⟨_,rfl,E.same aba,λhs=>?_,λhs=>(adi b).mono ?_⟩
 ·have hs:da d x=aL:=aht
  rw[pC,aR ad3];exact⟨rfl,j⟩
 have hs:da d x=L:=aht
 rw[pC,aV hs];rintro _ w2 ⟨C,rfl,SL,R⟩;have z2:=R.size;refine⟨C,rfl,R.same aba,λk1 w3 mA jS G tN=>?_⟩;have z3:=G.size;have P:Z [] w w3:=(j.cn R).cn G;have Re:Pg (λk=>b.heap.size<=k/\k<w2.heap.size) w3 k1 Sl.nil C []:=⟨⟨aaf,.inl rfl,tN⟩,.inl ⟨rfl,rfl⟩,SliceF.only cY X SL G aaV,λk hk=>ab9⟩
 have T:=a.only P;have EI:=a.lt;refine(xO d aL hs n (gV i P) (λk hk=>ab9) T J Re ack).mono ?_;rintro _ w4 ⟨y,rfl,B,A⟩;have z4:=A.1.size;have dW:Z [] w w4:=(P.oQ A.1).only λk hk=>by
  rcases hk with rfl | e
  ·omega
  cases e
 obtain⟨q,hq,V⟩:=B.blk;refine⟨rfl,A.same J (λe=>ad2) J,q,y,C,V,(Vd B.pt).mono ?_⟩;rintro _ w5 ⟨rfl,N,W⟩;have z5:=W.size;have u7:=W.blk V J;have S:Z [] w w5:=(dW.oQ W).only λk hk=>aet
 refine⟨_,rfl,W.same aba,q,y,C,u7,(afs _ (f.only S)).mono ?_⟩;rintro _ w6 ⟨s,rfl,hX,Y⟩;have z6:=Y.size;obtain⟨xl,rfl,_⟩:=hX.cells;have Ra:=Y.blk u7 aaV;have D:=S.cn Y;refine⟨_,_,_,_,_,_,_,_,rfl,Y.same aba,q,y,C,Ra,λhr k2 k3 w7 _ _ _ _ gq _=>?_,λhr k4 k5 w8 uT AN rk Eb H xE=>?_⟩
 ·rw[aV agR];exact⟨rfl,D.cn gq⟩
 have z8:=H.size;refine(Vd ((N.only Y).only H)).mono ?_;rintro _ w9 ⟨rfl,x,d⟩;rw[aR agR];have e:∀k,y.a=aM ⟨k,0,aaf⟩->k<w4.heap.size:=λk hk=>(B.buf.lt hk).2;refine⟨_,rfl,d.same λk hk=>?_,q,y,C,d.blk xE J,rfl,((D.cn H).oQ d).only λk hk=>aet⟩;simp only[aY,bA,cf]at hk;rcases hk with rfl | rfl | rfl
 ·exact⟨J,λk=>by have:=k.1;omega⟩
 ·exact⟨AN,λk=>by have:=e _ k.2;omega⟩
 exact⟨Eb,λk=>by have:=e _ k.2;omega⟩
def aao{t:List Tk}{i:Nat}{e:Int×Int}(h:Ej t i=.error e):e.1≠0:=by
 unfold Ej at h;split at h
 ·split at h
  ·split at h
   ·cases h
   injection h with h;subst h;exact gw
  injection h with h;subst h;exact gw
 injection h with h;subst h;exact gw
def JV{r:Pr}{g:Ex->Nat->Pr}{e:Int×Int}(h:JM r g=.error e):r=.error e∨∃x j,r=.ok (x,j)/\g x j=.error e:=by
 cases r with
 | error e=>exact .inl h
 | ok p=>exact .inr ⟨p.1,p.2,rfl,h⟩
def Fl{d:Nat}{a:Int}{r:Pr}{e:Int×Int}(h:jN d a r=.error e):r=.error e∨e.1=21:=by
 unfold jN at h;split at h
 ·injection h with h;subst h;exact .inr rfl
 exact .inl h
def Fm{t:List Tk}{E:Nat->Pr}{k:Int}{e:Int×Int}(a:∀i,E i=.error e->e.1≠0):∀(g:Nat) (x:Ex) (j:Nat),kP t E k g x j=.error e->e.1≠0
 | 0,x,j,h=>abG
 | g+1,x,j,h=>by
  rw[kP]at h;split at h
  ·cases h
  rcases JV h with b | ⟨y,m,b,c⟩
  ·exact a _ b
  exact Fm a g _ _ c
def qD{t:List Tk}{e:Int×Int}:∀(f k d i:Nat),dH t f k d i=.error e->e.1≠0
 | 0,k,d,i,h=>by
  rw[dH]at h;injection h with h;subst h;decide
 | f+1,k,d,i,h=>by
  rw[dH]at h;split at h
  ·unfold qt at h;split at h
   ·generalize n:jN d (tk t i).a (dH t f 6 (d+1) (i+1))=r at h;cases r with
    | ok q=>cases h
    | error e=>
     simp only[JL]at h;injection h with h;subst h;rcases Fl n with a | a
     ·exact qD f _ _ _ a
     rw[a];decide
   split at h
   ·rcases Fl h with a | a
    ·cases r:dH t f 0 (d+1) (i+1)with
     | error e=>
      rw[r]at a;simp only[ul]at a;injection a with a;subst a;exact qD f _ _ _ r
     | ok q=>
      rw[r]at a;simp only[ul]at a;split at a
      ·cases a
      injection a with a;subst a;exact gw
    rw[a];decide
   split at h
   ·cases h
   split at h
   ·cases h
   split at h
   ·exact aao h
   injection h with h;subst h;exact gw
  rcases JV h with a | ⟨y,m,a,b⟩
  ·exact qD f _ _ _ a
  exact Fm (λi c=>qD f _ _ _ c) _ _ _ b
structure Ac where
 k:Int
 n:aH
 x:Ex
 a:Int
structure Mv where
 k:Int
 ev:aH
 wt:Int
 gd:Bool
 g:Ex
 acts:List Ac
 tg:List (aH)
 a:Int
structure Nb where
 k:Int
 nm:aH
 ini:aH
 dft:aH
 en:List Ac
 lv:List Ac
 mv:List Mv
 a:Int
inductive Nd where
 | mk (b:Nb) (kids:List Nd)
def Nd.b:Nd->Nb | .mk b _=>b
def Nd.kids:Nd->List Nd | .mk _ l=>l
structure Vr where
 n:aH
 v:Int
 a:Int
structure Ch where
 vars:List Vr
 root:Nd
def nb0:Nb:=⟨0,[],[],[],[],[],[],0⟩
def RS:Nd:=.mk nb0 []
def ch0:Ch:=⟨[],RS⟩
def tkZ:Tk:=⟨0,[],0,0⟩
structure Sx where
 i:Nat
 fc:Int
 fa:Int
 v:Int
 n:Int
 d:Int
 m:Int
 a:Int
section
variable (ts:List Tk)
def jB(s:Sx)(c:Int):Sx:=if s.fc=0 then{s with fc:=c,fa:=(tk ts s.i).a}else s
def lk(s:Sx):Sx:=if(tk ts s.i).k=5 then jB ts (jB ts s 3) 4 else jB ts s 4
def yR(c:aH):List (aH)->Nat
 | []=>0
 | x::l=>if c=x then 0 else yR c l+1
def dE(s:Sx)(l:List (aH)):Nat:=
 if s.fc≠0∨((tk ts s.i).k≠2/\(tk ts s.i).k≠4)then 0 else if yR (tk ts s.i).t l<I l then yR (tk ts s.i).t l+1 else 0
def eu(s:Sx):Sx:={s with i:=s.i+1}
def fu(s:Sx)(x:aH):Sx:=if dE ts s [x]=0 then lk ts s else eu s
def jC(s:Sx)(k:Int):Tk×Sx:=if s.fc≠0∨(tk ts s.i).k≠k then(tkZ,lk ts s)else(tk ts s.i,eu s)
def ly(s:Sx):aH×Sx:=((jC ts s 1).1.t,(jC ts s 1).2)
def vN(s:Sx):Ex×Sx:=
 if s.fc≠0 then(BU,s)
 else if(cQ ts s.i).2.2.1≠0 then((cQ ts s.i).1,{s with fc:=(cQ ts s.i).2.2.1,fa:=(cQ ts s.i).2.2.2})
 else((cQ ts s.i).1,{s with i:=(cQ ts s.i).2.1.toNat})
def BZ(x:Int):Int:=ar U (x-1)
def inc(x:Int):Int:=ar U (x+1)
def xP(s:Sx):Sx:=if s.a=0 then{jB ts s 2 with a:=BZ s.a}else{s with a:=BZ s.a}
def vO(s:Sx):Sx:=if s.m=0 then{jB ts s 2 with m:=BZ s.m}else{s with m:=BZ s.m}
def JW(s:Sx):Sx:=if s.n=0 then{jB ts s 2 with n:=BZ s.n}else{s with n:=BZ s.n}
def JX(s:Sx):Sx:=if s.v=0 then{jB ts s 2 with v:=BZ s.v}else{s with v:=BZ s.v}
def vP:aH:=[115,101,116]
def mT:aH:=[114,97,105,115,101]
def pD:aH:=[101,109,105,116]
def JY:aH:=[111,110]
def lX:aH:=[97,108,119,97,121,115]
def mo:aH:=[97,102,116,101,114]
def ir:aH:=[105,110,105,116,105,97,108]
def lJ:aH:=[101,110,116,101,114]
def lK:aH:=[108,101,97,118,101]
def Dd:aH:=[115,116,97,116,101]
def sY:aH:=[112,97,114,97,108,108,101,108]
def vQ:aH:=[104,105,115,116,111,114,121]
def JZ:aH:=[100,101,101,112]
def gA:aH:=[99,104,97,114,116]
def Hc:aH:=[118,97,114]
def RT(s:Sx)(k:Nat)(n:aH)(a:Int):Ac×Sx:=
 if k=2 then(⟨k,n,BU,a⟩,fu ts s [59])
 else(⟨k,n,(vN ts (fu ts s [61])).1,a⟩,fu ts (vN ts (fu ts s [61])).2 [59])
def xo(s:Sx):Ac×Sx:=
 if dE ts s [vP,mT,pD]=0 then(⟨0,[],BU,(tk ts s.i).a⟩,lk ts s)
 else if(xP ts s).fc≠0 then(⟨(dE ts s [vP,mT,pD]),[],BU,(tk ts s.i).a⟩,xP ts s)
 else RT ts (ly ts (eu (xP ts s))).2 (dE ts s [vP,mT,pD]) (ly ts (eu (xP ts s))).1 (tk ts s.i).a
def rC:Nat->List Ac->Sx->List Ac×Sx
 | 0,a,s=>(a,s)
 | f+1,a,s=>if s.fc≠0 then(a,s)else if dE ts s [[125]]≠0 then(a,eu s)else rC f (a++[(xo ts s).1]) (xo ts s).2
def mq(s:Sx):List Ac×Sx:=rC ts (I ts+1) [] (fu ts s [123])
def A4:Nat->aH->List (aH)->Sx->List (aH)×Sx
 | 0,_,a,s=>(a,s)
 | f+1,x,a,s=>if dE ts s [x]=0 then(a,s)else A4 f [44] (a++[(ly ts (eu s)).1]) (ly ts (eu s)).2
def Ka(m:Mv)(s:Sx):Mv×Sx:=
 ({m with tg:=(A4 ts (I ts+1) [45,62] [] s).1},fu ts (A4 ts (I ts+1) [45,62] [] s).2 [59])
def Fp(m:Mv)(s:Sx):Mv×Sx:=
 if dE ts s [[123]]=0 then Ka ts m s else Ka ts {m with acts:=(mq ts s).1} (mq ts s).2
def sZ(m:Mv)(s:Sx):Mv×Sx:=
 if dE ts s [[91]]=0 then Fp ts m s else Fp ts {m with gd:=L,g:=(vN ts (eu s)).1} (fu ts (vN ts (eu s)).2 [93])
def mv0(k a:Int):Mv:=⟨k,[],0,aL,BU,[],[],a⟩
def ta(k:Int)(s:Sx):Mv×Sx:=
 if(vO ts s).fc≠0 then(mv0 k (tk ts s.i).a,vO ts s)
 else if k=1 then sZ ts {mv0 k (tk ts s.i).a with ev:=(ly ts (eu (vO ts s))).1} (ly ts (eu (vO ts s))).2
 else if k=3 then sZ ts {mv0 k (tk ts s.i).a with wt:=(jC ts (eu (vO ts s)) 3).1.n} (jC ts (eu (vO ts s)) 3).2
 else sZ ts (mv0 k (tk ts s.i).a) (eu (vO ts s))
structure S2 where
 i:Bool
 e:Bool
 l:Bool
def fJ(n:Nb)(h:S2)(s:Sx):Bool×Nb×S2×Sx:=
 if dE ts s [JY,lX,mo]≠0 then(L,{n with mv:=n.mv++[(ta ts (dE ts s [JY,lX,mo]) s).1]},h,(ta ts (dE ts s [JY,lX,mo]) s).2)
 else match dE ts s [ir,lJ,lK]with
  | 0=>(aL,n,h,s)
  | 1=>if h.i then(aL,n,h,lk ts s)else(L,{n with ini:=(ly ts (eu s)).1},{h with i:=L},fu ts (ly ts (eu s)).2 [59])
  | 2=>if h.e then(aL,n,h,lk ts s)else(L,{n with en:=(mq ts (eu s)).1},{h with e:=L},(mq ts (eu s)).2)
  | _=>if h.l then(aL,n,h,lk ts s)else(L,{n with lv:=(mq ts (eu s)).1},{h with l:=L},(mq ts (eu s)).2)
def mF:Nat->Nb->S2->Sx->Nb×Sx
 | 0,n,_,s=>(n,s)
 | f+1,n,h,s=>if s.fc≠0 then(n,s)
  else if(fJ ts n h s).1 then mF f (fJ ts n h s).2.1 (fJ ts n h s).2.2.1 (fJ ts n h s).2.2.2 else((fJ ts n h s).2.1,(fJ ts n h s).2.2.2)
def uo:List (aH):=[Dd,sY,vQ,JZ]
def yS(N:Int->Sx->Nd×Sx):Nat->List Nd->Sx->List Nd×Sx
 | 0,a,s=>(a,s)
 | f+1,a,s=>if dE ts s uo=0 then(a,s)else yS N f (a++[(N (dE ts s uo) (eu s)).1]) (N (dE ts s uo) (eu s)).2
def vR(N:Int->Sx->Nd×Sx)(n:Nb)(s:Sx):Nd×Sx:=
 let c:=mF ts (I ts+1) n ⟨aL,aL,aL⟩ {s with d:=BZ s.d}
 let k:=yS ts N (I ts+1) [] c.2
 (.mk c.1 k.1,fu ts {k.2 with d:=inc k.2.d} [125])
def uN(s:Sx):Sx:=if(tk ts s.i).k=1 then(if(JW ts s).d=0 then jB ts (JW ts s) 21 else JW ts s)else s
def fL(k:Int)(s:Sx):Nb×Sx:=({nb0 with k:=k,nm:=(jC ts (uN ts s) 1).1.t,a:=(jC ts (uN ts s) 1).1.a},(jC ts (uN ts s) 1).2)
def pE:Nat->Int->Sx->Nd×Sx
 | 0,_,s=>(RS,s)
 | f+1,k,s=>
  if 3<=k then(.mk {(fL ts k s).1 with dft:=(ly ts (fu ts (fL ts k s).2 [45,62])).1} [],fu ts (ly ts (fu ts (fL ts k s).2 [45,62])).2 [59])
  else vR ts (pE f) (fL ts k s).1 (fu ts (fL ts k s).2 [123])
def xQ(s:Sx):Vr×Sx:=
 let b:=if(tk ts s.i).k=1 then JX ts s else s
 let t:=jC ts b 1
 let a:=fu ts t.2 [61]
 let g:=dE ts a [[45]]
 let q:=jC ts (if g=0 then a else eu a) 3
 (⟨t.1.t,if g=0 then q.1.n else ar U (-q.1.n),t.1.a⟩,fu ts q.2 [59])
def A5:Nat->List Vr->Sx->List Vr×Sx
 | 0,a,s=>(a,s)
 | f+1,a,s=>if dE ts s [Hc]=0 then(a,s)else A5 f (a++[(xQ ts (eu s)).1]) (xQ ts (eu s)).2
def LQ:Sx:=⟨0,0,0,16,64,12,200,400⟩
def RU(s:Sx):Sx:=if s.fc=0/\(tk ts s.i).k≠5 then lk ts s else s
def Df:Ch×Sx:=
 let n:=fL ts 1 (fu ts LQ gA)
 let v:=A5 ts (I ts+1) [] (fu ts n.2 [123])
 let b:=vR ts (pE ts 14) n.1 v.2
 (⟨v.1,b.1⟩,RU ts b.2)
end
def fM(l:aH):Ch×Int×Int:=
 if(dl l).2.1≠0 then(ch0,(dl l).2.1,(dl l).2.2)
 else if(Df (dl l).1).2.fc≠0 then(ch0,(Df (dl l).1).2.fc,(Df (dl l).1).2.fa)
 else((Df (dl l).1).1,0,0)
def mu(t:List Tk)(s:Sx):Nat:=if s.fc=0 then (I t)-s.i else 0
structure On0 (ts:List Tk) (s s':Sx):Prop where
 lt:s.i<(I ts)->s'.i<I ts
 le:s'.fc=0->s.fc=0/\s.i<=s'.i
structure On (ts:List Tk) (s s':Sx):Prop extends On0 ts s s' where
 d:s'.d=s.d
section
variable {ts:List Tk} {s s' s'':Sx}
def On0.refl ts s:On0 ts s s:=⟨id,λh=>⟨h,aX _⟩⟩
def On.refl ts s:On ts s s:=⟨On0.refl ts s,rfl⟩
def On0.trans(h:On0 ts s s')(k:On0 ts s' s''):On0 ts s s'':=⟨λx=>k.lt (h.lt x),λe=>by
 obtain⟨a,b⟩:=k.le e;obtain⟨c,d⟩:=h.le a;exact⟨c,bH d b⟩⟩
def On.trans(h:On ts s s')(k:On ts s' s''):On ts s s'':=⟨h.toOn0.trans k.toOn0,k.d.trans h.d⟩
def On0.mu(h:On0 ts s s'):mu ts s'<=mu ts s:=by
 unfold Con.mu;by_cases e:s'.fc=0
 ·obtain⟨a,b⟩:=h.le e;rw[aV e,aV a];omega
 rw[aR e];exact bm _
def rD c:On ts s (jB ts s c):=by
 unfold jB;by_cases e:s.fc=0
 ·rw[aV e];exact⟨⟨id,λ_=>⟨e,aX _⟩⟩,rfl⟩
 rw[aR e];exact On.refl _ _
def Pm{c}(h:c≠0):(jB ts s c).fc≠0:=by
 unfold jB;by_cases e:s.fc=0
 ·rw[aV e];exact h
 rw[aR e];exact e
def Hd c:(jB ts s c).i=s.i:=by
 unfold jB;split<;>rfl
def tf:(lk ts s).fc≠0:=by
 unfold lk;split<;>exact Pm X
def th:On ts s (lk ts s):=by
 unfold lk;split
 ·exact(rD 3).trans (rD 4)
 exact rD 4
def Kb l:dE ts s l<=I l:=by
 unfold dE;split
 ·exact bm _
 split<;>omega
def dT{l}(h:dE ts s l≠0):s.fc=0/\(tk ts s.i).k≠5:=by
 unfold dE at h;split at h
 ·exact absurd rfl h
 rename_i c;by_cases e:s.fc=0
 ·refine⟨e,λa=>c (.inr ?_)⟩;rw[a];exact⟨X,X⟩
 exact absurd (.inl e) c
def nP(E:xj ts)(a:s.fc=0)(hk:(tk ts s.i).k≠5):On ts s (eu s):=⟨⟨λh=>E.next h hk,λ_=>⟨a,jW _⟩⟩,rfl⟩
def jD(E:xj ts) x:On ts s (fu ts s x):=by
 unfold fu;by_cases h:dE ts s [x]=0
 ·rw[aV h];exact th
 rw[aR h];exact nP E (dT h).1 (dT h).2
def yT(E:xj ts){k}(hk:k≠5):On ts s (jC ts s k).2:=by
 unfold jC;by_cases h:s.fc≠0∨(tk ts s.i).k≠k
 ·rw[aV h];exact th
 rw[aR h];simp at h;exact nP E h.1 (by rw[h.2];exact hk)
def rF(h:xj ts):On ts s (ly ts s).2:=yT h X
end
section
variable {ts:List Tk} (hE:xj ts)
include hE
theorem afw{i}{x}{j}(a:i<I ts)(hk:(tk ts i).k≠5)(h:Ej ts i=.ok (x,j)):j<I ts:=by
 unfold Ej at h;split at h
 ·rename_i b;split at h
  ·rename_i c;split at h
   ·rename_i d;have l:=hE.next (hE.next (hE.next (hE.next a hk) (xn b)) (by rw[c];decide)) (xn d);simp at h;omega
   cases h
  cases h
 cases h
theorem aap{E0 DL}{d i}{x}{j}(E:∀i x j,i<(I ts)->E0 i=.ok (x,j)->j<I ts)(b:∀i x j,i<(I ts)->DL i=.ok (x,j)->j<I ts)(a:i<I ts)(h:qt ts E0 DL d i=.ok (x,j)):j<I ts:=by
 unfold qt at h;split at h
 ·rename_i s;obtain⟨y,c,_⟩:=BP h;refine b _ _ _ (hE.next a ?_) (sX c).1;rcases cu _ _▸s with s | s<;>exact xn s
 split at h
 ·rename_i s;obtain⟨e,c,d,rfl⟩:=BQ (sX h).1;exact hE.next (E _ _ _ (hE.next a (xn s)) c) (xn d)
 split at h
 ·rename_i hk;simp at h;have:=hE.next a (by rw[hk];decide);omega
 split at h
 ·rename_i hk;simp at h;have:=hE.next a (by rw[hk];decide);omega
 split at h
 ·rename_i hk;exact afw hE a (by rw[hk.1];decide) h
 cases h
theorem Ke{E}{k}(h:∀i x j,i<(I ts)->E i=.ok (x,j)->j<I ts):∀g x j {b:Ex} {a:Nat},j<(I ts)->kP ts E k g x j=.ok (b,a)->a<I ts
 | 0,x,j,b,a,d,c=>by
  simp[kP,gr,gP]at c;omega
 | g+1,x,j,b,a,d,c=>by
  rw[kP]at c;split at c
  ·simp at c;omega
  rename_i o;obtain⟨y,m,e,f⟩:=BR c;exact Ke h g _ _ (h _ _ _ (hE.next d (sW _ _ o)) e) f
theorem vS:∀f k d i {x:Ex} {j:Nat},i<(I ts)->dH ts f k d i=.ok (x,j)->j<I ts
 | 0,_,_,_,_,_,_,h=>abG
 | f+1,k,d,i,x,j,a,h=>by
  rw[dH]at h;split at h
  ·exact aap hE (λi x j a h=>vS f _ _ i a h) (λi x j a h=>vS f _ _ i a h) a h
  obtain⟨y,m,b,c⟩:=BR h;exact Ke hE (λi x j a h=>vS f _ _ i a h) _ _ _ (vS f _ _ _ a b) c
theorem RV{i:Nat}(h:(cQ ts i).2.2.1=0):∃j:Nat,(cQ ts i).2.1=j/\i<j/\j<I ts:=by
 unfold cQ at h⊢;split at h
 ·rename_i c;rw[aV c];have b:i<I ts:=by have:=c.2.1;omega
  rw[aW]at h⊢;unfold xN at h⊢;cases a:dH ts _ 0 0 i with
  | error e=>
   rw[a]at h;exact absurd h (qD _ _ _ _ a)
  | ok q=>
   obtain⟨x,j⟩:=q;exact⟨j,rfl,mS _ _ _ _ a,vS hE _ _ _ _ b a⟩
 cases h
theorem rG{s s'}(h:s.fc=0)(i:s.i<I ts)(hk:(tk ts s.i).k≠5)(a:On0 ts (eu s) s'):mu ts s'<mu ts s:=by
 have c:=a.mu;have e:mu ts s=(I ts)-s.i:=by unfold mu;rw[aV h]
 have b:mu ts (eu s)=(I ts)-(s.i+1):=by unfold mu eu;rw[aV h]
 omega
set_option linter.unusedSectionVars false in
theorem Ai {s s':Sx} (h0:s.fc=0) (hi:s.i<ts.length) (h:s'.fc≠0):mu ts s'<mu ts s:=by
 unfold mu;rw[aR h,aV h0];omega
theorem Pn s:On ts s (vN ts s).2:=by
 unfold vN;by_cases h:s.fc≠0
 ·rw[aV h];exact On.refl _ _
 rw[aR h];by_cases h1:(cQ ts s.i).2.2.1≠0
 ·rw[aV h1];exact⟨⟨id,λa=>absurd a h1⟩,rfl⟩
 rw[aR h1];obtain⟨j,e,l,b⟩:=RV hE (i:=s.i) acf;rw[e,aW];exact⟨⟨λ_=>b,λa=>⟨a,Nat.le_of_lt l⟩⟩,rfl⟩
omit hE in
theorem He (s:Sx):On ts s (xP ts s):=by
 unfold xP;split
 ·have h:=rD (ts:=ts) (s:=s) 2;exact⟨⟨h.lt,h.le⟩,h.d⟩
 exact⟨⟨id,λh=>⟨h,aX _⟩⟩,rfl⟩
omit hE in
theorem Hf (s:Sx):On ts s (vO ts s):=by
 unfold vO;split
 ·have h:=rD (ts:=ts) (s:=s) 2;exact⟨⟨h.lt,h.le⟩,h.d⟩
 exact⟨⟨id,λh=>⟨h,aX _⟩⟩,rfl⟩
omit hE in
theorem Hg (s:Sx):On ts s (JW ts s):=by
 unfold JW;split
 ·have h:=rD (ts:=ts) (s:=s) 2;exact⟨⟨h.lt,h.le⟩,h.d⟩
 exact⟨⟨id,λh=>⟨h,aX _⟩⟩,rfl⟩
omit hE in
theorem aaq (s:Sx):On ts s (JX ts s):=by
 unfold JX;split
 ·have h:=rD (ts:=ts) (s:=s) 2;exact⟨⟨h.lt,h.le⟩,h.d⟩
 exact⟨⟨id,λh=>⟨h,aX _⟩⟩,rfl⟩
omit hE in
theorem Hh (s:Sx):(xP ts s).i=s.i:=by
 unfold xP;split
 ·exact Hd 2
 rfl
omit hE in
theorem Hi (s:Sx):(vO ts s).i=s.i:=by
 unfold vO;split
 ·exact Hd 2
 rfl
theorem Po s k n a:On ts s (RT ts s k n a).2:=by
 unfold RT;split
 ·exact jD hE _
 exact((jD hE _).trans (Pn hE _)).trans (jD hE _)
theorem Ve s u (a:On ts s u) (i:u.i=s.i) (h:u.fc=0) (hk:(tk ts s.i).k≠5):On ts s (eu u):=a.trans (nP hE h (by rw[i];exact hk))
theorem afx s:On ts s (xo ts s).2:=by
 unfold xo;split
 ·exact th
 rename_i h;split
 ·exact He s
 rename_i h0;exact(Ve hE s _ (He s) (Hh s) ahu (dT h).2).trans ((rF hE).trans (Po hE _ _ _ _))
theorem afy{s}(a:s.fc=0)(h:s.i<I ts):mu ts (xo ts s).2<mu ts s:=by
 unfold xo;split
 ·exact Ai hE a h tf
 rename_i b;split
 ·rename_i h1;exact Ai hE a h h1
 rename_i h1;have e:=Hh (ts:=ts) s;exact cH (rG hE acf (by rw[e];exact h) (by rw[e];exact(dT b).2) ((rF hE).trans (Po hE _ _ _ _)).toOn0) (He (ts:=ts) s).mu
theorem Ps:∀f a s,On ts s (rC ts f a s).2
 | 0,_,s=>On.refl _ _
 | f+1,a,s=>by
  rw[rC];split
  ·exact On.refl _ _
  split
  ·rename_i h;exact nP hE (dT h).1 (dT h).2
  exact(afx hE s).trans (Ps f _ _)
theorem vT s:On ts s (mq ts s).2:=(jD hE _).trans (Ps hE _ _ _)
theorem Pu:∀f x a s,On ts s (A4 ts f x a s).2
 | 0,_,_,s=>On.refl _ _
 | f+1,x,a,s=>by
  rw[A4];split
  ·exact On.refl _ _
  rename_i h;exact((nP hE (dT h).1 (dT h).2).trans (rF hE)).trans (Pu f _ _ _)
theorem Kf m s:On ts s (Ka ts m s).2:=(Pu hE _ _ _ _).trans (jD hE _)
theorem Kg m s:On ts s (Fp ts m s).2:=by
 unfold Fp;split
 ·exact Kf hE _ _
 exact(vT hE _).trans (Kf hE _ _)
theorem Dg m s:On ts s (sZ ts m s).2:=by
 unfold sZ;split
 ·exact Kg hE _ _
 rename_i h;exact(((nP hE (dT h).1 (dT h).2).trans (Pn hE _)).trans (jD hE _)).trans (Kg hE _ _)
theorem Kh(k:Int)(s u:Sx) m:On ts u (if k=1 then sZ ts {m with ev:=(ly ts u).1} (ly ts u).2 else if k=3 then sZ ts {m with wt:=(jC ts u 3).1.n} (jC ts u 3).2 else sZ ts m u).2:=by
 split
 ·exact(rF hE).trans (Dg hE _ _)
 split
 ·exact(yT hE X).trans (Dg hE _ _)
 exact Dg hE _ _
theorem aar k s (hk:(tk ts s.i).k≠5):On ts s (ta ts k s).2:=by
 unfold ta;split
 ·exact Hf s
 rename_i h1;exact(Ve hE s _ (Hf s) (Hi s) acf hk).trans (Kh hE k s _ _)
theorem aas k {s} (a:s.fc=0) (h:s.i<I ts) (hk:(tk ts s.i).k≠5):mu ts (ta ts k s).2<mu ts s:=by
 unfold ta;split
 ·rename_i h1;exact Ai hE a h h1
 rename_i h1;have e:=Hi (ts:=ts) s;exact cH (rG hE acf (by rw[e];exact h) (by rw[e];exact hk) (Kh hE k s _ _).toOn0) (Hf (ts:=ts) s).mu
theorem Fq n h s:On ts s (fJ ts n h s).2.2.2:=by
 unfold fJ;split
 ·rename_i hw;exact aar hE _ s (dT hw).2
 split
 ·exact On.refl _ _
 ·rename_i hw;have hw:dE ts s [ir,lJ,lK]≠0:=agE
  split
  ·exact th
  exact((nP hE (dT hw).1 (dT hw).2).trans (rF hE)).trans (jD hE _)
 ·rename_i hw;have hw:dE ts s [ir,lJ,lK]≠0:=agE
  split
  ·exact th
  exact(nP hE (dT hw).1 (dT hw).2).trans (vT hE _)
 rename_i h a b;have hw:=h;split
 ·exact th
 exact(nP hE (dT hw).1 (dT hw).2).trans (vT hE _)
theorem RW n h {s} (a:s.fc=0) (i:s.i<I ts) (t:(fJ ts n h s).1=L):mu ts (fJ ts n h s).2.2.2<mu ts s:=by
 unfold fJ at t⊢;split
 ·rename_i hw;exact aas hE _ a i (dT hw).2
 rename_i h;rw[aR h]at t;split
 ·rename_i hw;rw[hw]at t;cases t
 ·rename_i hw;have hw:dE ts s [ir,lJ,lK]≠0:=agE
  split
  ·exact Ai hE a i tf
  exact rG hE a i (dT hw).2 ((rF hE).trans (jD hE _)).toOn0
 ·rename_i hw;have hw:dE ts s [ir,lJ,lK]≠0:=agE
  split
  ·exact Ai hE a i tf
  exact rG hE a i (dT hw).2 (vT hE _).toOn0
 rename_i b _ _;split
 ·exact Ai hE a i tf
 exact rG hE a i (dT b).2 (vT hE _).toOn0
theorem xR:∀f n h s,On ts s (mF ts f n h s).2
 | 0,_,_,s=>On.refl _ _
 | f+1,n,h,s=>by
  rw[mF];split
  ·exact On.refl _ _
  split
  ·exact(Fq hE n h s).trans (xR f _ _ _)
  exact Fq hE n h s
theorem Pv{N} d (h:∀k s,s.d=d->s.fc=0->On ts s (N k s).2):∀f a s,s.d=d->On ts s (yS ts N f a s).2
 | 0,_,s,_=>On.refl _ _
 | f+1,a,s,hd=>by
  rw[yS];split
  ·exact On.refl _ _
  rename_i b;have c:=(nP hE (dT b).1 (dT b).2).trans (h (dE ts s uo) _ hd (dT b).1);exact c.trans (Pv d h f _ _ (c.d.trans hd))
theorem aat{N}{n}{s}(hd:ub s.d)(j:∀k u,u.d=BZ s.d->u.fc=0->On ts u (N k u).2):On ts s (vR ts N n s).2:=by
 have g:=xR hE (I ts+1) n ⟨aL,aL,aL⟩ {s with d:=BZ s.d};have h:=g.trans (Pv hE _ j (I ts+1) [] _ g.d);have f:=jD hE [125] (s:={(yS ts N (I ts+1) [] (mF ts (I ts+1) n ⟨aL,aL,aL⟩ {s with d:=BZ s.d}).2).2 with d:=inc (yS ts N (I ts+1) [] (mF ts (I ts+1) n ⟨aL,aL,aL⟩ {s with d:=BZ s.d}).2).2.d});refine⟨⟨λi=>f.lt (h.lt i),λe=>?_⟩,f.d.trans ?_⟩
 ·obtain⟨a,b⟩:=f.le e;obtain⟨c,d⟩:=h.le a;exact⟨c,bH d b⟩
 rw[h.d];unfold inc BZ;have:=hd.1;have:=hd.2;simp[IntKind.wrap_i64];omega
omit hE in
theorem aau (s:Sx):On ts s (uN ts s):=by
 unfold uN;split
 ·split
  ·exact(Hg s).trans (rD _)
  exact Hg s
 exact On.refl _ _
theorem Dh k s:On ts s (fL ts k s).2:=(aau s).trans (yT hE X)
omit hE in
theorem aav {k:Int} {s:Sx} (h:(fL ts k s).2.fc=0):s.d≠0:=λe=>by
 revert h;unfold fL jC;dsimp only;by_cases h1:(tk ts s.i).k=1
 ·have hf:(uN ts s).fc≠0:=by
   unfold uN;rw[aV h1,aV ((Hg s).d.trans e)];exact Pm X
  rw[aV (.inl hf)];exact tf
 have e2:uN ts s=s:=by unfold uN;rw[aR h1]
 rw[e2,aV (.inr h1)];exact tf
theorem Pw:∀(f:Nat) (k:Int) (s:Sx),ub s.d->On ts s (pE ts f k s).2
 | 0,_,s,_=>On.refl _ _
 | f+1,k,s,hd=>by
  rw[pE];have h:=Dh hE k s;split
  ·exact((h.trans (jD hE _)).trans (rF hE)).trans (jD hE _)
  have a:=h.trans (jD hE [123]);refine a.trans (aat hE (by rw[a.d];exact hd) λk b u _=>Pw f k b ?_);rw[u];exact T4 _
theorem Vf(s:Sx):On ts s (xQ ts s).2:=by
 unfold xQ;dsimp only;have h:On ts s (if(tk ts s.i).k=1 then JX ts s else s):=by
  split
  ·exact aaq s
  exact On.refl _ _
 have a:∀u:Sx,On ts u (if dE ts u [[45]]=0 then u else eu u):=λu=>by
  split
  ·exact On.refl _ _
  rename_i b;exact nP hE (dT b).1 (dT b).2
 exact((((h.trans (yT hE X)).trans (jD hE _)).trans (a _)).trans (yT hE X)).trans (jD hE _)
end
def Mk(w:M)(F:aJ)(e:TypeId)(size:Nat)(s:Sl):Prop:=s.n=0∨∃g c,s.a=aM ⟨g,0,aaf⟩/\F g/\aF w g e c/\s.n*size<=I c
def kx{a:Type}(t:Bool)(r:Rp a)(size:Nat)(e:TypeId)(w:M)(F:aJ)(s:Sl)(x:List a):Prop:=aA r size w F s x/\(t=L->Mk w F e size s)
section
variable {α:Type} {t:Bool} {r q:Rp α} {size:Nat} {e:TypeId} {w w':M} {F G:aJ} {s:Sl} {xs:List α} {B:Nat}
def Mk.keep(h:Mk w F e size s)(hk:∀k,F k->k<w.heap.size->w'.heap[k]? =w.heap[k]?):Mk w' F e size s:=by
 rcases h with h | ⟨g,c,d,a,b,f⟩
 ·exact .inl h
 exact .inr ⟨g,c,d,a,(hk g a b.lt).trans b,f⟩
def Mk.mono(h:Mk w F e size s)(hk:∀k,F k->k<w.heap.size->G k):Mk w G e size s:=by
 rcases h with h | ⟨g,c,b,d,a,f⟩
 ·exact .inl h
 exact .inr ⟨g,c,b,hk g d a.lt,a,f⟩
def kx.keep(a:r.Ok)(h:kx t r size e w F s xs)(b:0<size)(hk:∀k,F k->k<w.heap.size->w'.heap[k]? =w.heap[k]?):kx t r size e w' F s xs:=⟨h.1.keep a b hk,λx=>(h.2 x).keep hk⟩
def kx.inHeap(c:r.Ok)(h:kx t r size e w F s xs)(d:0<size):kx t r size e w (λk=>F k/\k<w.heap.size) s xs:=⟨h.1.inHeap c d,λx=>(h.2 x).mono λk a b=>⟨a,b⟩⟩
def kx.mono(b:r.Ok)(h:kx t r size e w F s xs)(hk:∀k,F k->G k):kx t r size e w G s xs:=⟨h.1.mono b hk,λx=>(h.2 x).mono λk a _=>hk k a⟩
def kx.nil(t:Bool)(r:Rp α)(size:Nat)(e:TypeId)(w:M)(F:aJ):kx t r size e w F Sl.nil []:=⟨SliceF.nil _ _ _ _,λ_=>.inl rfl⟩
def kx.imp(h:kx t r size e w F s xs)(i:∀x c,x∈xs->r w F x c->q w F x c):kx t q size e w F s xs:=⟨Fj h.1 i,h.2⟩
def kx.off(h:kx t r size e w F s xs)(i:∀x c,x∈xs->r w F x c->q w F x c):kx aL q size e w F s xs:=⟨Fj h.1 i,λh=>abG⟩
def _root_.Go.Kt.Own.sl(b:r.Ok)(h:Own r size e B w F s xs)(a:∀k,B<=k->F k):kx L r size e w F s xs:=by
 refine⟨(h.slice b).mono b λk hk=>hk.elim id λx=>a k x.1,λ_=>?_⟩;rcases h with⟨rfl,rfl⟩ | ⟨g,c,tail,d,f,i,m,j,n,o,l⟩
 ·exact .inl rfl
 exact .inr ⟨g,_,d,a g f,i,by rw[aO,qf.Lp l,<-j];omega⟩
end
def MY(t:Bool):Nat->Rp Ex
 | 0=>λ_ _ _ _=>False
 | d+1=>λw F x c=>∃sl:Sl,c=oa x.k x.n x.s x.op sl x.a/\kx t (MY t d) 6 68 w F sl x.dC
def lM(t:Bool):∀d,(MY t d).Ok
 | 0=>⟨λh _=>h.elim,λh=>h.elim,λh _=>h.elim,λh=>h.elim⟩
 | d+1=>⟨λ⟨sl,h,a⟩ hk=>⟨sl,h,kx.keep (lM t d) a X hk⟩,λ⟨sl,h,a⟩=>⟨sl,h,kx.inHeap (lM t d) a X⟩,λ⟨sl,h,a⟩ hk=>⟨sl,h,kx.mono (lM t d) a hk⟩,λ⟨sl,h,a⟩=>by
  subst h;intro v b;simp only[aY,bA,cf]at b;rcases b with rfl | rfl | rfl | rfl | rfl | rfl<;>rfl⟩
def Vg{t:Bool}{w:M}{F:aJ}:∀{d:Nat} {x:Ex} {c:aI},MY t d w F x c->MY t (d+1) w F x c
 | 0,_,_,h=>h.elim
 | d+1,x,c,⟨sl,a,b⟩=>⟨sl,a,b.imp λx c _ h=>Vg h⟩
def MZ{t:Bool}{w:M}{F:aJ}{d e:Nat}{x:Ex}{c:aI}(a:d<=e)(h:MY t d w F x c):MY t e w F x c:=by
 induction e with
 | zero=>have:d=0:=J;subst this;exact h
 | succ e i=>
  by_cases b:d=e+1
  ·subst b;exact h
  exact Vg (i J)
def Aj{t:Bool}{w:M}{F:aJ}:∀{d:Nat} {x:Ex} {c:aI},MY t d w F x c->tX d w F x c
 | 0,_,_,h=>h.elim
 | d+1,x,c,⟨sl,a,b⟩=>⟨sl,a,Fj b.1 λx c _ h=>Aj h⟩
def Vh{w:M}{F:aJ}:∀{d:Nat} {x:Ex} {c:aI},tX d w F x c->MY aL d w F x c
 | 0,_,_,h=>h.elim
 | d+1,x,c,⟨sl,a,b⟩=>⟨sl,a,Fj b λx c _ h=>Vh h,λh=>abG⟩
def RXN.xg{w:M}{x:Ex}{c:aI}{N:aJ}{l i:Nat}(h:RXN w N l i x c):∃d,MY L d w (λk=>l<=k/\k<i) x c:=by
 induction h with
 | leaf l i k n s op a=>exact⟨1,Sl.nil,rfl,kx.nil _ _ _ _ _ _⟩
 | one l A g i k n s op a x c r e u f z m b=>
  obtain⟨d,b⟩:=b;obtain⟨sl,o,_⟩:=r.cells;refine⟨d+1,_,rfl,⟨rfl,aX _,λh=>abG,(by decide:(1:Nat)<=9223372036854775807),λp y j=>?_⟩,λ_=>.inr ⟨g,c,rfl,⟨e,f⟩,m,by rw[o];exact aX _⟩⟩;have q:p=0:=by
   have:=(bf.1 j).1;simp only[Ex.dC,bI]at this;omega
  subst q;simp only[Ex.dC,cw,bN]at j;subst j;exact⟨⟨g,0,aaf⟩,c,rfl,⟨e,f⟩,by rw[o];rfl,by rw[BF];exact m.cells 0 c λp v t=>by rw[bS];exact t,(lM L d).mono b λk hk=>⟨hk.1,J⟩⟩
 | two l H P R g i k n s op a x y c d t A u B C D F m G o E e=>
  obtain⟨q,E⟩:=E;obtain⟨r,e⟩:=e;obtain⟨sl,z,_⟩:=t.cells;obtain⟨S,X,_⟩:=u.cells;have f:I c=6:=by rw[z];rfl
  have p:I d=6:=by rw[X];rfl
  refine⟨max q r+1,_,rfl,⟨rfl,aX _,λh=>abG,(by decide:(2:Nat)<=9223372036854775807),λb y j=>?_⟩,λ_=>.inr ⟨g,c++d,rfl,⟨J,m⟩,o,by rw[aO,f,p];exact aX _⟩⟩;rcases b with _ | _ | b
  ·simp only[Ex.dC,cw,bN]at j;subst j;exact⟨⟨g,0,aaf⟩,c,rfl,⟨abQ,m⟩,f,by rw[BF];exact o.cells 0 c λb v h=>by rw[bS,bX (bf.1 h).1];exact h,(lM L _).mono (MZ (Ct _ _) E) λk hk=>⟨hk.1,J⟩⟩
  ·simp only[Ex.dC,cO,cw,bN]at j;subst j;exact⟨⟨g,0,aaf⟩,d,rfl,⟨abQ,m⟩,p,by
    rw[gu];exact o.cells 6 d λb v h=>by rw[cd J,f,dG];exact h,(lM L _).mono (MZ (AV _ _) e) λk hk=>⟨J,J⟩⟩
  simp[Ex.dC]at j
def rE(t:Bool):Rp Ex:=λw F x c=>∃d,MY t d w F x c
def jp(t:Bool):(rE t).Ok:=⟨λ⟨d,h⟩ hk=>⟨d,(lM t d).keep h hk⟩,λ⟨d,h⟩=>⟨d,(lM t d).inHeap h⟩,λ⟨d,h⟩ hk=>⟨d,(lM t d).mono h hk⟩,λ⟨d,h⟩=>(lM t d).one h⟩
def fp{t:Bool}{w:M}{F:aJ}{x:Ex}{c:aI}(h:rE t w F x c):∃sl,c=oa x.k x.n x.s x.op sl x.a:=by
 obtain⟨d,h⟩:=h;cases d with
 | zero=>exact h.elim
 | succ d=>obtain⟨sl,h,_⟩:=h;exact⟨sl,h⟩
def Vi{t:Bool}{w:M}{F:aJ}{x:Ex}{c:aI}(h:rE t w F x c):rE aL w F x c:=by
 obtain⟨d,h⟩:=h;exact⟨d,Vh (Aj h)⟩
def rE0(t:Bool)(w:M)(F:aJ):rE t w F BU (oa 0 0 [] 0 Sl.nil 0):=⟨1,Sl.nil,rfl,kx.nil _ _ _ _ _ _⟩
def acv(k:Int)(n:aH)(x:aI)(a:Int):aI:=O U k::K (T n)::(x++[O U a])
def qv(t:Bool):Rp Ac:=λw F x s=>∃c,s=acv x.k x.n c x.a/\rE t w F x.x c
def dy(t:Bool):(qv t).Ok:=⟨λ⟨c,h,a⟩ hk=>⟨c,h,(jp t).keep a hk⟩,λ⟨c,h,a⟩=>⟨c,h,(jp t).inHeap a⟩,λ⟨c,h,a⟩ hk=>⟨c,h,(jp t).mono a hk⟩,λ⟨c,h,a⟩=>by
 subst h;intro v b;simp only[acv,aY,cj,bA,cf]at b;rcases b with rfl | rfl | d | rfl
 ·rfl
 ·rfl
 ·exact(jp t).one a v d
 rfl⟩
def mvv(k:Int)(ev:aH)(wt:Int)(d:Bool)(g:aI)(r t:Sl)(a:Int):aI:=O U k::K (T ev)::O U wt::aj d::(g++[r.v,t.v,O U a])
def Iz(t:Bool):Rp Mv:=λw F x c=>∃g r a,c=mvv x.k x.ev x.wt x.gd g r a x.a/\rE t w F x.g g/\kx t (qv t) 9 161 w F r x.acts/\kx t ke 1 9 w F a x.tg
def mr(t:Bool):(Iz t).Ok:=⟨λ⟨c,r,g,h,a,b,d⟩ hk=>⟨c,r,g,h,(jp t).keep a hk,b.keep (dy t) X hk,d.keep cY X hk⟩,
 λ⟨c,r,g,h,a,b,d⟩=>⟨c,r,g,h,(jp t).inHeap a,b.inHeap (dy t) X,d.inHeap cY X⟩,
 λ⟨c,r,g,h,a,b,d⟩ hk=>⟨c,r,g,h,(jp t).mono a hk,b.mono (dy t) hk,d.mono cY hk⟩,
 λ⟨c,r,g,h,a,b,d⟩=>by
  subst h;intro v c;simp only[mvv,aY,cj,bA,cf]at c;rcases c with rfl | rfl | rfl | rfl | e | rfl | rfl | rfl
  ·rfl
  ·rfl
  ·rfl
  ·rfl
  ·exact(jp t).one a v e
  ·rfl
  ·rfl
  rfl⟩
def M0:Rp Vr:=λ_ _ x c=>c=[K (T x.n),O U x.v,O U x.a]
def fh:M0.Ok:=⟨λh _=>h,λh=>h,λh _=>h,λh=>by
 unfold M0 at h;subst h;intro v a;simp only[aY,bA,cf]at a;rcases a with rfl | rfl | rfl<;>rfl⟩
abbrev od(k:Int)(n i d:aH)(e l mv kids:Sl)(a:Int):aI:=[O U k,K (T n),K (T i),K (T d),e.v,l.v,mv.v,kids.v,O U a]
def Hj(t:Bool)(w:M)(F:aJ)(x:Nb)(e l mv:Sl):Prop:=kx t (qv t) 9 161 w F e x.en/\kx t (qv t) 9 161 w F l x.lv/\kx t (Iz t) 13 83 w F mv x.mv
def mz(t:Bool):Nat->Rp Nd
 | 0=>λ_ _ _ _=>False
 | d+1=>λw F x c=>∃e l mv kids:Sl,c=od x.b.k x.b.nm x.b.ini x.b.dft e l mv kids x.b.a/\Hj t w F x.b e l mv/\kx t (mz t d) 9 27 w F kids x.kids
section
variable {t:Bool} {w w':M} {F G:aJ} {x:Nb} {en lv mv:Sl}
def Hj.keep(h:Hj t w F x en lv mv)(hk:∀k,F k->k<w.heap.size->w'.heap[k]? =w.heap[k]?):Hj t w' F x en lv mv:=⟨h.1.keep (dy t) X hk,h.2.1.keep (dy t) X hk,h.2.2.keep (mr t) X hk⟩
def Hj.inHeap(h:Hj t w F x en lv mv):Hj t w (λk=>F k/\k<w.heap.size) x en lv mv:=⟨h.1.inHeap (dy t) X,h.2.1.inHeap (dy t) X,h.2.2.inHeap (mr t) X⟩
def Hj.mono(h:Hj t w F x en lv mv)(hk:∀k,F k->G k):Hj t w G x en lv mv:=⟨h.1.mono (dy t) hk,h.2.1.mono (dy t) hk,h.2.2.mono (mr t) hk⟩
end
def cA(t:Bool):∀d,(mz t d).Ok
 | 0=>⟨λh _=>h.elim,λh=>h.elim,λh _=>h.elim,λh=>h.elim⟩
 | d+1=>⟨λ⟨e,l,mv,kids,h,a,b⟩ hk=>⟨e,l,mv,kids,h,a.keep hk,kx.keep (cA t d) b X hk⟩,
  λ⟨e,l,mv,kids,h,a,b⟩=>⟨e,l,mv,kids,h,a.inHeap,kx.inHeap (cA t d) b X⟩,
  λ⟨e,l,mv,kids,h,a,b⟩ hk=>⟨e,l,mv,kids,h,a.mono hk,kx.mono (cA t d) b hk⟩,λ⟨e,l,mv,kids,h,a,b⟩=>by
  subst h;intro v c;simp only[aY,bA,cf]at c;rcases c with rfl | rfl | rfl | rfl | rfl | rfl | rfl | rfl | rfl<;>rfl⟩
def Vj{t:Bool}{w:M}{F:aJ}:∀{d:Nat} {x:Nd} {c:aI},mz t d w F x c->mz t (d+1) w F x c
 | 0,_,_,h=>h.elim
 | d+1,x,c,⟨e,l,mv,kids,a,b,f⟩=>⟨e,l,mv,kids,a,b,f.imp λx c _ h=>Vj h⟩
def afz{t:Bool}{w:M}{F:aJ}{d e:Nat}{x:Nd}{c:aI}(a:d<=e)(h:mz t d w F x c):mz t e w F x c:=by
 induction e with
 | zero=>have:d=0:=J;subst this;exact h
 | succ e i=>
  by_cases b:d=e+1
  ·subst b;exact h
  exact Vj (i J)
def Hk{t:Bool}{w:M}{F:aJ}{x:Ac}{s:aI}(h:qv t w F x s):qv aL w F x s:=by
 obtain⟨c,a,b⟩:=h;exact⟨c,a,Vi b⟩
def aaw{t:Bool}{w:M}{F:aJ}{x:Mv}{s:aI}(h:Iz t w F x s):Iz aL w F x s:=by
 obtain⟨c,r,g,a,b,d,e⟩:=h;exact⟨c,r,g,a,Vi b,d.off λ_ _ _ h=>Hk h,e.off λ_ _ _ h=>h⟩
def Hj.off{t:Bool}{w:M}{F:aJ}{x:Nb}{e l mv:Sl}(h:Hj t w F x e l mv):Hj aL w F x e l mv:=⟨h.1.off λ_ _ _ h=>Hk h,h.2.1.off λ_ _ _ h=>Hk h,h.2.2.off λ_ _ _ h=>aaw h⟩
def Px{t:Bool}{w:M}{F:aJ}:∀{d:Nat} {x:Nd} {c:aI},mz t d w F x c->mz aL d w F x c
 | 0,_,_,h=>h.elim
 | d+1,x,c,⟨e,l,mv,kids,a,b,f⟩=>⟨e,l,mv,kids,a,b.off,f.off λx c _ h=>Px h⟩
structure ChR (t:Bool) (d:Nat) (w:M) (F:aJ) (c:Ch) (vs:Sl) (cs:aI):Prop where
 vars:kx t M0 3 76 w F vs c.vars
 root:mz t d w F c.root cs
abbrev Fr(B:Nat):aJ:=λk=>B<=k
section
variable {α:Type} {r:Rp α} {size:Nat} {e:TypeId} {w w':M} {s:Sl} {xs:List α} {B:Nat}
def _root_.Go.Kt.Own.stay(a:r.Ok)(h:Own r size e B w (Fr B) s xs){c:List Nat}(d:Z c w w')(f:∀x,x∈c->x<B∨w.heap.size<=x):Own r size e B w' (Fr B) s xs:=by
 refine((h.inHeap a).keep a λk hk b=>d.block k b λm=>?_).mono a λk hk=>hk.1;have j:B<=k/\k<w.heap.size:=by
  rcases hk with hk | hk
  ·exact hk
  exact⟨hk.1,b⟩
 rcases f k m with h | h<;>omega
def _root_.Go.Kt.Own.new(h:Own r size e B w (Fr B) s xs){k:Nat}(hk:w.heap.size<=k):s.a≠aM ⟨k,0,aaf⟩:=λe=>by
 have:=(h.blk e).2;dsimp only at this;omega
end
mutual
def IA:Ex->Nat
 | .mk _ _ _ _ l _=>dpL l+1
def dpL:List Ex->Nat
 | []=>0
 | x::l=>max (IA x) (dpL l)
end
mutual
def Di:Ex->Nat
 | .mk _ _ s _ l _=>LR l+(I s+1)
def LR:List Ex->Nat
 | []=>0
 | x::l=>Di x+LR l
end
def Hl(x:Ex):IA x=dpL x.dC+1:=by cases x;rw[IA];rfl
def Dk(x:Ex):Di x=LR x.dC+(I x.s+1):=by cases x;rw[Di];rfl
def B0{y:Ex}:∀{l:List Ex},y∈l->IA y<=dpL l
 | [],h=>abS
 | x::l,h=>by
  rw[dpL];rcases aY.1 h with rfl | h
  ·exact Ct _ _
  exact bH (B0 h) (AV _ _)
def Hm{y:Ex}:∀{l:List Ex},y∈l->Di y<=LR l
 | [],h=>abS
 | x::l,h=>by
  rw[LR];rcases aY.1 h with rfl | h
  ·omega
  have:=Hm h;omega
def Vk{d:Nat}:∀{l:List Ex},(∀y,y∈l->IA y<=d)->dpL l<=d
 | [],_=>by rw[dpL];omega
 | x::l,h=>by
  rw[dpL];exact Nat.max_le.2 ⟨h x aaV,Vk λy a=>h y (by simp[a])⟩
def Hn(x:Ex):1<=IA x:=by rw[Hl];omega
def M1{w:M}{F:aJ}:∀{d:Nat} {x:Ex} {c:aI},tX d w F x c->IA x<=d
 | 0,_,_,h=>h.elim
 | d+1,x,c,⟨sl,f,a⟩=>by
  rw[Hl];refine Td (Vk λy b=>?_);obtain⟨e,j⟩:=ig b;obtain⟨_,c,_,_,_,_,h⟩:=a.at_ e y j;exact M1 h
def Dl{f g:Ex->Bool}:∀{l:List Ex},(∀y,y∈l->f y=g y)->ku f l=ku g l
 | [],_=>rfl
 | x::l,h=>by rw[ku,ku,h x aaV,Dl λy a=>h y (by simp[a])]
def Ki:∀(d e:Nat) (x:Ex),IA x<=d->IA x<=e->da d x=da e x
 | 0,_,x,h,_=>agG
 | _,0,x,_,h=>agG
 | d+1,e+1,x,a,k=>by
  rw[Hl]at a k;rw[da,da,Dl λy h=>Ki d e y (by have:=B0 h;omega) (by have:=B0 h;omega)]
def Py:∀(d e:Nat) (x:Ex) (wr:Bool) (l:aH),IA x<=d->IA x<=e->qN d x wr l=qN e x wr l
 | 0,_,x,_,_,h,_=>agG
 | _,0,x,_,_,_,h=>agG
 | d+1,e+1,x,wr,l,b,k=>by
  rw[Hl]at b k;have m:∀y,y∈x.dC->IA y<=d/\IA y<=e:=λy h=>by have:=B0 h;omega
  rw[qN,qN];cases a:x.dC with
  | nil=>rfl
  | cons y c=>
   cases c with
   | nil=>
    have h:=m y (by rw[a];simp);dsimp only;rw[Py d e y _ _ h.1 h.2]
   | cons z c=>
    cases c with
    | nil=>
     have h:=m y (by rw[a];simp);have f:=m z (by rw[a];simp);dsimp only;rw[Py d e y _ _ h.1 h.2,Py d e z _ _ f.1 f.2]
    | cons _ _=>rfl
def M2:∀(d:Nat) (x:Ex),nN d x<=Di x
 | 0,x=>bm _
 | d+1,x=>by
  rw[nN,Dk];have:∀l:List Ex,qu (nN d) l<=LR l:=λl=>by
   induction l with
   | nil=>exact bm _
   | cons y l i=>rw[qu,LR];exact me (M2 d y) i
  have:=this x.dC;omega
def M3:∀(d:Nat) (x:Ex),Di x<4611686018427387903->xy d x
 | 0,x,_=>trivial
 | d+1,x,h=>by
  rw[Dk]at h;exact⟨J,λy a=>M3 d y (by have:=Hm a;omega)⟩
def YU(x:Ex):Prop:=∀d,lI d x
def A6(x:Ex):aH:=pC (IA x) x
def PA{d:Nat}{x:Ex}(h:IA x<=d):pC d x=A6 x:=by
 unfold A6 pC;rw[Ki d (IA x) x h (aX _),Py d (IA x) x aL [] h (aX _)]
def Vl{d:Nat}{x:Ex}(h:pC d x≠[]):da d x=L/\pC d x=qN d x aL []/\(jh (qN d x aL [])).2.1=0:=by
 unfold pC at h⊢;by_cases s:da d x=L
 ·rw[aV s]at h⊢;by_cases hr:(jh (qN d x aL [])).2.1≠0
  ·rw[aV hr]at h;exact absurd rfl h
  rw[aR hr];exact⟨s,rfl,agR⟩
 rw[aR s]at h;exact absurd rfl h
def aax{w:M}{F:aJ}{x:Ex}{c:aI}(b:rE aL w F x c)(n:YU x)(s:Di x<=1759218604441)(E:Er w)(a:Tb w):
  az Q 239 #[ah c.toArray] w λe f=>e=ak (K (T (A6 x)))/\Z [] w f:=by
 obtain⟨d,h⟩:=b;have h:=Aj h;rw[<-PA (M1 h)];exact afv h (M3 d x J) (n d) E a (by have:=M2 d x;omega)
def tj(x:Ex):Bool:=(((x.k==0&&x.n==0)&&decide (x.s=[]))&&x.op==0)&&((I x.dC:Int)==0)
def vU(x:Ex):Bool:=decide (A6 x≠[])
def kQ(a:Ac):Bool:=decide (1<=a.k/\a.k<=3)&&dP a.n&&(if a.k=2 then tj a.x else vU a.x)
def pU(m:Mv):Bool:=
 decide (1<=m.k/\m.k<=3)&&(if m.k=1 then dP m.ev else decide (m.ev=[]))&&(if m.gd then vU m.g else tj m.g)&&m.acts.all kQ&&m.tg.all dP&&decide (m.wt=0∨m.k=3/\0<m.wt)
def iu(k:Int):Bool:=decide (k=3∨k=4)
def uq(b:Nb)(kids:Nat):Bool:=
 dP b.nm&&(if iu b.k then dP b.dft&&decide (b.ini=[]/\b.en=[]/\b.lv=[]/\I b.mv=0/\kids=0)
  else decide ((b.k=1∨b.k=2)/\b.dft=[])&&(decide (b.ini=[])||dP b.ini)&&b.en.all kQ&&b.lv.all kQ&&b.mv.all pU)
mutual
def lY:Nat->Nd->Bool
 | d,.mk b l=>decide (d<12)&&uq b (I l)&&jP (d+1) l
def jP:Nat->List Nd->Bool
 | _,[]=>L
 | d,x::l=>lY d x&&jP d l
end
def PB(b:Nb):Nat:=I b.en+I b.lv+(b.mv.map λm=>I m.acts).sum
mutual
def iB:Nd->Nat
 | .mk _ l=>dx l+1
def dx:List Nd->Nat
 | []=>0
 | x::l=>iB x+dx l
end
mutual
def Dm:Nd->Nat
 | .mk b l=>I b.mv+uW l
def uW:List Nd->Nat
 | []=>0
 | x::l=>Dm x+uW l
end
mutual
def A7:Nd->Nat
 | .mk b l=>PB b+rS l
def rS:List Nd->Nat
 | []=>0
 | x::l=>A7 x+rS l
end
def rl(c:Ch):Bool:=
 (c.vars.all λv=>dP v.n&&decide (v.v≠ -9223372036854775808))&&lY 0 c.root&&decide (c.root.b.k=1/\I c.vars<=16/\iB c.root<=64/\Dm c.root<=200/\A7 c.root<=400)
def Ek(a:Ac):aH:=
 if a.k=2 then mT++32::(a.n++[59])else(if a.k=1 then vP else pD)++32::(a.n++32::61::32::(A6 a.x++[59]))
def Ak:List Ac->aH
 | []=>[]
 | a::l=>32::(Ek a++Ak l)
def A1(l:List Ac):aH:=123::(Ak l++[32,125])
def PC:List (aH)->aH
 | []=>[]
 | s::l=>44::32::(s++PC l)
def hdT(m:Mv):aH:=if m.k=1 then JY++32::m.ev else if m.k=3 then mo++32::Lib.itoa m.wt else lX
def gdT(m:Mv):aH:=if m.gd then 32::91::(A6 m.g++[93])else[]
def Fs(m:Mv):aH:=
 hdT m++(gdT m++((if m.acts=[]then[]else 32::A1 m.acts)++((match m.tg with
  | []=>[]
  | s::l=>32::45::62::32::(s++PC l))++[59])))
def kW(k:Int):aH:=if k=1 then Dd else if k=2 then sY else if k=3 then vQ else JZ
abbrev Ln:=Nat×aH
def xS(d:Nat)(b:Nb):List Ln:=if b.ini=[]then[]else[(d,ir++32::(b.ini++[59]))]
def RY(d:Nat)(b:Nb):List Ln:=if b.en=[]then[]else[(d,lJ++32::A1 b.en)]
def Tm(d:Nat)(b:Nb):List Ln:=if b.lv=[]then[]else[(d,lK++32::A1 b.lv)]
def mvL(d:Nat)(b:Nb):List Ln:=b.mv.map λm=>(d,Fs m)
def Ho(d:Nat)(b:Nb):List Ln:=xS d b++(RY d b++(Tm d b++mvL d b))
mutual
def Fu:Nat->Nd->List Ln
 | d,.mk b l=>
  if iu b.k then[(d,kW b.k++32::(b.nm++32::45::62::32::(b.dft++[59])))]
  else(d,kW b.k++32::(b.nm++[32,123]))::(Ho (d+1) b++(qQ (d+1) l++[(d,[125])]))
def qQ:Nat->List Nd->List Ln
 | _,[]=>[]
 | d,x::l=>Fu d x++qQ d l
end
def vrT(v:Vr):aH:=Hc++32::(v.n++32::61::32::(Lib.itoa v.v++[59]))
def Kj(c:Ch):List Ln:=
 (0,gA++32::(c.root.b.nm++[32,123]))::((c.vars.map λv=>(1,vrT v))++(Ho 1 c.root.b++(qQ 1 c.root.kids++[(0,[125])])))
def vV:Nat->aH
 | 0=>[]
 | d+1=>32::32::vV d
def lnT(p:Ln):aH:=vV p.1++(p.2++[10])
def lA(b:aH)(p:Ln):aH:=if 16384<I b then b else b++lnT p
def dX(b:aH)(a:List Ln):aH:=a.foldl lA b
def ado(a:List Ln):aH:=a.flatMap lnT
def gx(b:aH)(a c:List Ln):dX b (a++c)=dX (dX b a) c:=nG
def xT(b:aH)(p:Ln)(a:List Ln):dX b (p::a)=dX (lA b p) a:=rfl
def Kk:∀(a:List Ln) (b:aH),16384<(I b)->dX b a=b
 | [],_,_=>rfl
 | p::a,b,h=>by
  have:lA b p=b:=by unfold lA;rw[aV h]
  rw[xT,this,Kk a b h]
def iG(c:Ch):aH×Int:=
 if rl c=L then(if 16384<I (dX [] (Kj c)) then([],2)else(dX [] (Kj c),0))else([],22)
def Vm(a:Ac):Prop:=YU a.x
structure mvN (m:Mv):Prop where
 g:YU m.g
 a:∀x,x∈m.acts->Vm x
 w:ub m.wt
structure nbN (b:Nb):Prop where
 en:∀a,a∈b.en->Vm a
 lv:∀a,a∈b.lv->Vm a
 mv:∀m,m∈b.mv->mvN m
mutual
def Fv:Nd->Prop
 | .mk b l=>nbN b/\EF l
def EF:List Nd->Prop
 | []=>True
 | x::l=>Fv x/\EF l
end
structure Mb (c:Ch):Prop where
 v:∀v,v∈c.vars->ub v.v
 r:Fv c.root
end Go.Proofs.YtfemabakfkliiaaGreatDoor.Con
