import Derived.Test.YtbkjcdocjfknfaaGreatDoorQc12
set_option linter.unusedSectionVars false
set_option linter.unusedSectionVars false
namespace Go.Proofs.YtbkjcdocjfknfaaGreatDoor.Con
open Go.Value renaming int->O,string->ab,pointer->ae,agg->ah,tuple->ai,bool->aj
open Go.IntKind renaming i64->U,wrap->ar
open Go.Ending renaming returned->ak
open _root_.ByteArray renaming mk->ao
open _root_.Go.Proofs.Tryz renaming prog->aq
open Go.Instr renaming buildSlice->au
open Go renaming World->av,Value->aw,Calls->az
open Go.Kt renaming Only->ay,SliceF->aA,Cells->aB,OnlyP->aD,Blk->aF
open Go Go.RowKit Go.Kt Go.Kt.V Go.Proofs.YtbkjcdocjfknfaaGreatDoor.Vc
set_option linter.unusedSimpArgs false
set_option linter.unusedVariables false
set_option linter.unusedSectionVars false
set_option maxHeartbeats 800000
set_option maxRecDepth 100000
mutual
def Ul:Nd->List Nd
 | .mk b l=>.mk b l::Yp l
def Yp:List Nd->List Nd
 | []=>[]
 | x::l=>Ul x++Yp l
end
mutual
theorem En:∀x,(Ul x).length=iQ x
 | .mk b l=>by rw[Ul,iQ,bf,MF]
theorem MF:∀l,(Yp l).length=dJ l
 | []=>by rw[Yp,dJ];rfl
 | x::l=>by rw[Yp,dJ,aP,En,MF]
end
def aaT(xs:List cN)(vs:List (aH))(a:Nat)(x:Nd):Prop:=∃pa dp,pc xs (yC a pa dp x) a/\Ax xs x.b x.kids a=[]/\(∀m,m∈x.b.mv->Ib xs vs m=[])/\GU x.b x.kids.length=true/\∀y,y∈x.kids->∃d,qT d y=true
section
variable {xs:List cN} {vs:List (aH)}
theorem CN:∀{l:List Nd} {d:Nat} {y:Nd},nq d l=true->y∈l->qT d y=true
 | [],_,_,_,h=>by cases h
 | x::l,d,y,h,hy=>by
  rw[nq,aQ]at h;rcases aU.1 hy with rfl | hy
  ·exact h.1
  ·exact CN h.2 hy
mutual
theorem MG:∀(x:Nd) (a d:Nat) (pa dp:Int),Pe xs vs a x=[]->qT d x=true->pc xs (yC a pa dp x) a->∀i y,(Ul x)[i]? =some y->aaT xs vs (a+i) y
 | .mk b l,a,d,pa,dp,h,oe,hs,i,y,hy=>by
  rw[Pe]at h;obtain⟨h1,h2⟩:=fX.1 h;obtain⟨h2,h3⟩:=fX.1 h2;obtain⟨h3,h4⟩:=fX.1 h3;rw[qT,aQ,aQ]at oe;obtain⟨⟨_,hb⟩,hko⟩:=oe;rw[Ul]at hy;cases i with
  | zero=>
   rw[ci,aZ]at hy;subst hy;exact⟨pa,dp,hs,h1,fun m hm=>List.flatMap_eq_nil_iff.1 h3 m hm,hb,fun y hy=>⟨d+1,CN hko hy⟩⟩
  | succ i=>
   rw[cu]at hy;rw[yC]at hs;have E7:pc xs (pV (a+1) a (dp+1) l) (a+1):=fun i x hi=>by rw[dA,fK 1 i];exact hs (i+1) x hi
   have:=Hz l (a+1) (d+1) a (dp+1) h4 hko E7 i y hy;rwa[dA,fK 1 i]at this
theorem Hz:∀(l:List Nd) (a d:Nat) (pa dp:Int),qV xs vs a l=[]->nq d l=true->pc xs (pV a pa dp l) a->∀i y,(Yp l)[i]? =some y->aaT xs vs (a+i) y
 | [],_,_,_,_,_,_,_,i,y,hy=>by rw[Yp]at hy;simp at hy
 | x::l,a,d,pa,dp,h,oe,hs,i,y,hy=>by
  rw[qV]at h;obtain⟨h1,h2⟩:=fX.1 h;rw[nq,aQ]at oe;rw[pV]at hs;rw[Yp]at hy;have KA:=En x;by_cases hi:i<iQ x
  ·rw[bK (by omega)]at hy;exact MG x a d pa dp h1 oe.1 hs.left i y hy
  ·rw[bT (by omega),KA]at hy;have hr:=hs.right;rw[lh]at hr;have:=Hz l (a+iQ x) d pa dp h2 oe.2 hr _ y hy;rwa[show a+iQ x+(i-iQ x)=a+i by omega]at this
end
theorem HA{y:Nd}{pa dp:Int}:∀{l:List Nd} (a:Nat),y∈l->∃(j:Nat) (t:cN),(pV a pa dp l)[j]? =some t/\t.pa=pa/\t.k=y.b.k
 | [],_,h=>by cases h
 | .mk b ks::l,a,h=>by
  rw[pV];rw[aU]at h;rcases h with rfl | h
  ·exact⟨0,_,by rw[yC];rfl,rfl,rfl⟩
  ·obtain⟨j,t,h1,h2⟩:=HA (a+iQ (.mk b ks)) h;exact⟨(yC a pa dp (.mk b ks)).length+j,t,by rw[bT (by omega),dF];exact h1,h2⟩
end
structure Snd (c:Ch) (xs:List cN) (vs:List (aH)):Prop where
 fo:Fo xs
 le:xs.length<=64
 len:xs.length=iQ c.root
 nd:(xs.map fun x:cN=>x.nm).Nodup
 rt:c.root.b.k=1
 nice:∀i y,(Ul c.root)[i]? =some y->aaT xs vs i y
theorem Eo{c:Ch}(h:(fU c).1=0):Snd c (cF c) (Ic c):=by
 obtain⟨h1,h2⟩:=qZ h;have oe:=Om h1;unfold GV at oe;simp only[aQ]at oe;unfold Cx at h2;obtain⟨g1,g2⟩:=fX.1 h2;obtain⟨g2,g3⟩:=fX.1 g2;have hnd:=(CL g1).1;have enm:(Jg c.root).map (fun p=>p.1)=(cF c).map fun x:cN=>x.nm:=(Rr 0 (-1) 0 c.root).symm;rw[enm]at hnd;have hd:=aO oe.2;have fi:(cF c).length=iQ c.root:=lh 0 (-1) 0 c.root;refine⟨yT c,by omega,fi,hnd,hd.1,fun i y hy=>?_⟩;have:=MG c.root 0 0 (-1) 0 g3 oe.1.2 (fun i x hi=>by rw[bO];exact hi) i y hy;rwa[bO]at this
section
variable {c:Ch} {xs:List cN} {vs:List (aH)} (N:Snd c xs vs)
include N
theorem Snd.at_{i:Nat}{t:cN}(h:xs[i]? =some t):∃b l pa dp,(Ul c.root)[i]? =some (.mk b l)/\t=⟨b.k,b.nm,pa,dp,((i+iQ (.mk b l):Nat):Int)⟩/\pc xs (pV (i+1) i (dp+1) l) (i+1)/\Ax xs b l i=[]/\(∀m,m∈b.mv->Ib xs vs m=[])/\GU b l.length=true/\∀y,y∈l->∃d,qT d y=true:=by
 have hi:i<(Ul c.root).length:=by rw[En,<-N.len];exact fJ h
 obtain⟨y,hy⟩:∃y,(Ul c.root)[i]? =some y:=⟨_,aW hi⟩
 obtain⟨pa,dp,h1,h2,h3,h4,h5⟩:=N.nice i y hy;obtain⟨b,l⟩:=y;have aiv:=h1;rw[yC]at h1;have h0:=h1 0 _ rfl;rw[dG,h,aZ]at h0;refine⟨b,l,pa,dp,hy,?_,fun j x hj=>?_,h2,h3,h4,h5⟩
 ·rw[h0];congr 1;rw[iQ];omega
 ·have:=h1 (j+1) x hj;rwa[show i+(j+1)=i+1+j by omega]at this
theorem Snd.kn{i:Nat}{t:cN}(h:xs[i]? =some t):1<=t.k/\t.k<=4:=by
 obtain⟨b,l,pa,dp,_,rfl,_,_,_,hb,_⟩:=N.at_ h;dsimp only;unfold GU at hb;by_cases hh:lg b.k=true
 ·have:=aO hh;omega
 ·rw[if_neg hh]at hb;simp only[aQ]at hb;have:=(aO hb.2.1.1.1.1).1;omega
theorem Snd.hk(n k:Nat)(h:Kc xs n k):SS xs n:=by
 have hb:=N.fo.M8 h;obtain⟨h1,h2,h3⟩:=hb;rcases h3 with h3 | ⟨m,e,u,u1,u2,u3⟩
 ·omega
 ·have:m=n:=by omega
  subst this;refine⟨u,u1,?_⟩;obtain⟨b,l,pa,dp,_,rfl,_,_,_,hb,_⟩:=N.at_ u1;dsimp only at u3⊢;unfold GU at hb;by_cases hh:lg b.k=true
  ·rw[if_pos hh]at hb;simp only[aQ]at hb;have:=(aO hb.2.2).2.2.2.2;have:l=[]:=List.length_eq_zero_iff.1 this;subst this;rw[iQ,dJ]at u3;omega
  ·rw[if_neg hh]at hb;simp only[aQ]at hb;exact(aO hb.2.1.1.1.1).1
theorem Snd.WJ{n:Nat}{l:List Nd}{dp:Int}(hs:pc xs (pV (n+1) n (dp+1) l) (n+1))(h:0<N6 l):dz xs n≠[]:=by
 unfold N6 at h;obtain⟨y,hy⟩:=List.exists_mem_of_length_pos h;obtain⟨hy,hh⟩:=ft.1 hy;obtain⟨j,t,h1,h2,h3⟩:=HA (pa:=(n:Int)) (dp:=dp+1) (n+1) hy;have ht:=hs j t h1;have:=N.kn ht;have hm:((n+1+j:Nat):Int)∈dz xs n:=jE.2 ⟨_,t,rfl,ht,h2,by
  rw[h3]at this⊢;unfold lg at hh;rw[dS,cY]at hh;unfold Bq;rw[cn,ey,ey];omega⟩
 exact List.ne_nil_of_mem hm
theorem Snd.sd:Sd xs:=by
 refine⟨N.fo,N.le,fun i s h=>N.kn h,?_,fun i s hs hk=>?_⟩
 ·obtain⟨t,ht⟩:=gV N.fo.ne;refine⟨t,ht,?_⟩;obtain⟨b,l,pa,dp,h1,rfl,_⟩:=N.at_ ht;have hr:=N.rt;generalize c.root=r at h1 hr;obtain⟨b',l'⟩:=r;rw[Ul,ci,aZ]at h1;injection h1 with h1;subst h1;exact hr
 ·obtain⟨b,l,pa,dp,_,rfl,h2,h3,_⟩:=N.at_ hs;dsimp only at hk;unfold Ax at h3;rw[if_neg (by unfold lg;rw[hk];decide),if_pos hk]at h3;have:=LW.1 h3;rw[aQ,bM,bM]at this;exact N.WJ h2 (by omega)
end
def Cn(xs:List cN)(G:aJ):Prop:=∀(n:Nat) (t:cN) (c c' g g':Nat),xs[n]? =some t->t.k=1->Kc xs n c->Kc xs n c'->G g->G g'->qU xs c g->qU xs c' g'->c=c'
abbrev Mem:=Int->Option (List Int)
def Yq(xs:List cN)(M:Mem):Prop:=∀(n:Nat) (t:cN) (l:List Int),xs[n]? =some t->lg t.k=true->M n=some l->l≠[]/\(∀g,g∈l->∃k:Nat,g=k/\SS xs k/\Sb xs t.pa k)/\Cn xs fun k=>(k:Int)∈l
theorem Yq.none(xs:List cN):Yq xs fun _=>none:=fun _ _ _ _ _ h=>by cases h
section
variable {xs:List cN} (sd:Sd xs) {act:List Int} (A:Lg xs act)
include sd A
theorem AW{x:Int}(h:x∈act):∃n:Nat,x=n/\n<xs.length/\SS xs n:=by
 obtain⟨g1,g2,g3,_,_⟩:=A.at_ x h;obtain⟨t,ht⟩:=gV (xs:=xs) (i:=x.toNat) (by omega);refine⟨x.toNat,by omega,by omega,t,ht,?_⟩;have:kd xs x=t.k:=by rw[show x=(x.toNat:Int) by omega];exact ux ht
 rw[this]at g3;unfold Bq at g3;rw[cn,ey,ey]at g3;exact g3
theorem Sg:∀(x k:Nat),(x:Int)∈act->qU xs k x->(k:Int)∈act
 | x,k,hx,hc=>by
  by_cases he:k=x
  ·rw[he];exact hx
  ·have bS:k<x:=by obtain⟨_,_,h,_⟩:=hc;omega
   obtain⟨_,g2,_,g4,_⟩:=A.at_ x hx;obtain⟨t,ht⟩:=gV (sd.fo.Bd hc);obtain⟨p,s,e1,e2,e3,_,e5,e6⟩:=sd.fo.par ht (by omega);rcases g4 with g4 | g4
   ·omega
   ·have hp:=g4 t (by rw[aY];exact ht);rw[e2]at hp;obtain⟨u,u1,u2,u3⟩:=hc;have:=e6 k u u1 bS u3;exact Sg p k hp (sd.fo.EX ⟨u,u1,u2,u3⟩ ⟨s,e3,by omega,e5⟩ this)
theorem aaU{n:Nat}(h:(n:Int)∈act)(hr:dz xs n≠[]):∃q:Nat,(q:Int)∈dz xs n/\(q:Int)∈act:=by
 have:=(A.at_ n h).on;unfold xu Pj at this;rw[aY]at this;have hp:=jH.2 hr;have h1:0<(dz xs n).countP fun r=>decide (r∈act):=by
  split at this
  ·rw[ey]at this;omega
  ·rw[ey]at this;omega
 obtain⟨r,hr1,hr2⟩:=List.countP_pos_iff.1 h1;obtain⟨q,_,rfl,_⟩:=jE.1 hr1;exact⟨q,hr1,aO hr2⟩
theorem MH:∀(f n:Nat),xs.length-n<=f->(n:Int)∈act->∃y:Nat,(y:Int)∈Ie xs act/\qU xs n y
 | 0,n,hf,h=>by
  obtain⟨m,e,hm,_⟩:=AW sd A h;omega
 | f+1,n,hf,h=>by
  obtain⟨m,e,hm,hs⟩:=AW sd A h;have:m=n:=by omega
  subst this;by_cases hr:dz xs m=[]
  ·refine⟨m,?_,sd.fo.wC hm⟩;obtain⟨t,ht,hk⟩:=hs;have h1:t.k=1:=by
    rcases hk with hk | hk
    ·exact hk
    ·exact absurd hr (sd.pr m t ht hk)
   unfold Ie;refine ra.2 ⟨m,rfl,hm,?_⟩;unfold lvP;rw[bL h,ux ht,h1,hr];rfl
  ·obtain⟨q,hq,ha⟩:=aaU sd A h hr;have hk:=((Hy sd).1 hq).1;have hb:=sd.fo.M8 hk;obtain⟨y,hy,hc⟩:=MH f q (by have:=hb.1;omega) ha;refine⟨y,hy,?_⟩;obtain⟨_,_,h3 | ⟨k,e,h3⟩⟩:=sd.fo.aa9 hb hc
   ·omega
   ·have:k=m:=by omega
    rw[<-this];exact h3
end
theorem Ep{xs:List cN}{a:Nat}{r:Ro}:∀{l:List Mv} {i:Nat},r∈xr xs a i l->∃j m,m∈l/\r=Fv xs a j m
 | [],_,h=>by cases h
 | m::l,i,h=>by
  rw[xr]at h;rcases aU.1 h with rfl | h
  ·exact⟨i,m,.head _,rfl⟩
  ·obtain⟨j,m',h1,h2⟩:=Ep h;exact⟨j,m',.tail _ h1,h2⟩
mutual
theorem MJ{xs:List cN}{r:Ro}:∀{x:Nd} {a:Nat},r∈wM xs a x->∃n b j m,(AN x)[n]? =some b/\m∈b.mv/\r=Fv xs (a+n) j m
 | .mk b l,a,h=>by
  rw[wM]at h;rw[AN];rcases bR.1 h with h | h
  ·obtain⟨j,m,h1,h2⟩:=Ep h;exact⟨0,b,j,m,rfl,h1,h2⟩
  ·obtain⟨n,b',j,m,h1,h2,h3⟩:=AX h;exact⟨n+1,b',j,m,by rw[cu];exact h1,h2,by rw[h3];congr 1;omega⟩
theorem AX{xs:List cN}{r:Ro}:∀{l:List Nd} {a:Nat},r∈jP xs a l->∃n b j m,(vm l)[n]? =some b/\m∈b.mv/\r=Fv xs (a+n) j m
 | [],_,h=>by rw[jP]at h;cases h
 | x::l,a,h=>by
  rw[jP]at h;rw[vm];rcases bR.1 h with h | h
  ·obtain⟨n,b',j,m,h1,h2⟩:=MJ h;exact⟨n,b',j,m,by rw[bK (aV.1 h1).1];exact h1,h2⟩
  ·obtain⟨n,b',j,m,h1,h2,h3⟩:=AX h;have:=tP x;exact⟨iQ x+n,b',j,m,by rw[bT (by omega),this,dF];exact h1,h2,by rw[h3,dA]⟩
end
theorem aaV{xs:List cN}{x d:Nat}:sL xs x d=true↔d<x/\qU xs d x:=by
 rw[Ay];constructor
 ·rintro⟨i,j,e1,e2,h1,h2⟩;have:i=d:=by omega
  have:j=x:=by omega
  subst_vars;exact⟨h1,h2⟩
 ·rintro⟨h1,h2⟩;exact⟨d,x,rfl,rfl,h1,h2⟩
def uU(xs:List cN):Nat->Int->List Int
 | 0,_=>[]
 | f+1,n=>if n<0 then[]else n::uU xs f (GW xs n)
theorem Ups.eq{xs:List cN}{n:Int}{l:List Int}(h:Ups xs n l):∀f:Nat,l.length<=f->l=uU xs f n:=by
 induction h with
 | stop h=>
  intro f _;cases f with
  | zero=>rfl
  | succ f=>unfold uU;rw[if_pos h]
 | @go i s l hs hu ih=>
  intro f h2;cases f with
  | zero=>simp at h2
  | succ f=>
   unfold uU;rw[if_neg (by omega),li hs];congr 1;exact ih f (by rw[bf]at h2;omega)
def HB(ro:List Ro)(may:List Bool)(n:Int)(k:Nat):Bool:=match ro[k]?,may[k]? with
 | some r,some true=>decide (r.src=n)
 | _,_=>false
def nH(ro:List Ro)(may:List Bool)(n:Int):Option Nat:=(List.range (min ro.length may.length)).find? (HB ro may n)
def jF(xs:List cN)(ro:List Ro)(may:List Bool)(leaf:Int):Int:=match(uU xs (xs.length+1) leaf).findSome? (nH ro may)with
 | some k=>(k:Int)
 | none=> -1
def jX(xs:List cN)(ro:List Ro)(act:List Int)(k:Int):List Int:=if k<0 then[]else match ro[k.toNat]? with
 | some r=>if r.dom<0 then[]else act.filter fun x=>sL xs x r.dom
 | none=>[]
def ga(xs:List cN)(ro:List Ro)(act:List Int)(a b:Int):Bool:=(jX xs ro act b).any fun n=>decide (n∈jX xs ro act a)
def Sh(ro:List Ro)(k:Int):Int:=match ro[k.toNat]? with
 | some r=>r.src
 | none=>0
def pd(xs:List cN)(ro:List Ro)(a b:Int):Bool:=sL xs (Sh ro a) (Sh ro b)
def oz(xs:List cN)(ro:List Ro)(act:List Int)(may:List Bool)(st:List Int×List Int)(leaf:Int):List Int×List Int:=
 let k:=jF xs ro may leaf
 if k<0∨k∈st.1 then st else
  (st.1++[k],if(st.2.any fun o=>ga xs ro act k o&&!pd xs ro k o)=true then st.2 else(st.2.filter fun o=>!ga xs ro act k o)++[k])
def fP(xs:List cN)(ro:List Ro)(act:List Int)(may:List Bool):List Int:=((Ie xs act).foldl (oz xs ro act may) ([],[])).2
theorem CO{ro:List Ro}{may:List Bool}{n:Int}{k:Nat}(h:nH ro may n=some k):∃r,ro[k]? =some r/\may[k]? =some true/\r.src=n:=by
 have:=List.find?_some h;unfold HB at this;split at this
 ·rename_i r h1 h2;exact⟨r,h1,h2,aO this⟩
 ·cases this
theorem Ou{ro:List Ro}{may:List Bool}{n:Int}(h:nH ro may n=none){k:Nat}{r:Ro}(h1:ro[k]? =some r)(h2:may[k]? =some true):r.src≠n:=fun e=>by
 unfold nH at h;rw[H7]at h;have a:=(aV.1 h1).1;have b:=(aV.1 h2).1;refine h k (by rw[fG];omega) ?_;unfold HB;rw[h1,h2];exact bL e
section
variable {xs:List cN} (sd:Sd xs) {act:List Int} (A:Lg xs act) {ro:List Ro} {may:List Bool}
include sd A
theorem AY:∀(f x:Nat),x<xs.length->x<f->∀n,n∈uU xs f x↔∃k:Nat,n=k/\qU xs k x
 | 0,x,_,h,_=>by omega
 | f+1,x,hx,h,n=>by
  unfold uU;obtain⟨t,ht⟩:=gV hx;rw[if_neg (by omega),aU,li ht];by_cases h0:0<x
  ·obtain⟨p,s,e1,e2,e3,_,e5,e6⟩:=sd.fo.par ht h0;have hc:qU xs p x:=⟨s,e3,by omega,e5⟩
   rw[e2,AY f p (fJ e3) (by omega)];constructor
   ·rintro(rfl | ⟨k,rfl,hk⟩)
    ·exact⟨x,rfl,sd.fo.wC hx⟩
    ·exact⟨k,rfl,sd.fo.EW hk hc⟩
   ·rintro⟨k,rfl,u,u1,u2,u3⟩;by_cases he:k=x
    ·exact .inl (by rw[he])
    ·have:=e6 k u u1 (by omega) u3;exact .inr ⟨k,rfl,sd.fo.EX ⟨u,u1,u2,u3⟩ hc this⟩
  ·have:x=0:=by omega
   subst this;rw[(sd.fo.rt t ht).1];have e:uU xs f (-1)=[]:=by
    cases f with
    | zero=>rfl
    | succ f=>unfold uU;rw[if_pos (by omega)]
   rw[e];constructor
   ·rintro(rfl | h)
    ·exact⟨0,rfl,sd.fo.wC hx⟩
    ·cases h
   ·rintro⟨k,rfl,_,_,u2,_⟩;exact .inl (by omega)
theorem CP{leaf:Int}(hl:leaf∈act)(h:0<=jF xs ro may leaf):∃(k:Nat) (r:Ro),jF xs ro may leaf=k/\ro[k]? =some r/\may[k]? =some true/\r.src∈act:=by
 unfold jF at h⊢;cases hf:(uU xs (xs.length+1) leaf).findSome? (nH ro may)with
 | none=>rw[hf]at h;exact absurd h (by decide)
 | some k=>
  obtain⟨n,hn,hk⟩:=Iw hf;obtain⟨r,h1,h2,h3⟩:=CO hk;obtain⟨x,rfl,hx,_⟩:=AW sd A hl;obtain⟨q,rfl,hq⟩:=(AY sd A _ x hx (by omega) n).1 hn;exact⟨k,r,rfl,h1,h2,by rw[h3];exact Sg sd A x q hl hq⟩
theorem Ov{leaf:Nat}(hl:leaf<xs.length)(h:jF xs ro may leaf<0){k:Nat}{r:Ro}(h1:ro[k]? =some r)(h2:may[k]? =some true){s:Nat}(hs:r.src=s):¬qU xs s leaf:=fun hc=>by
 unfold jF at h;cases hf:(uU xs (xs.length+1) (leaf:Int)).findSome? (nH ro may)with
 | some k=>rw[hf]at h;dsimp only at h;omega
 | none=>
  rw[lA]at hf;have:=hf s ((AY sd A _ leaf hl (by omega) s).2 ⟨s,rfl,hc⟩);exact Ou this h1 h2 hs
end
structure ChI (xs:List cN) (ro:List Ro) (act:List Int) (may:List Bool) (st:List Int×List Int):Prop where
 ok:∀k,k∈st.1->∃(n:Nat) (r:Ro),k=n/\ro[n]? =some r/\may[n]? =some true/\r.src∈act
 sub:∀k,k∈st.2->k∈st.1
 ap:st.2.Pairwise fun b a=>ga xs ro act a b=false
 ne:st.1≠[]->st.2≠[]
section
variable {xs:List cN} (sd:Sd xs) {act:List Int} (A:Lg xs act) {ro:List Ro} {may:List Bool}
include sd A
theorem ChI.step{st:List Int×List Int}(h:ChI xs ro act may st){leaf:Int}(hl:leaf∈act):ChI xs ro act may (oz xs ro act may st leaf):=by
 unfold oz;dsimp only;by_cases hc:jF xs ro may leaf<0∨jF xs ro may leaf∈st.1
 ·rw[if_pos hc];exact h
 rw[if_neg hc];obtain⟨k,r,e,h1,h2,h3⟩:=CP sd A hl (Int.not_lt.1 fun h=>hc (.inl h));rw[e];have oe:∀x,x∈st.1++[(k:Int)]->∃(n:Nat) (r:Ro),x=n/\ro[n]? =some r/\may[n]? =some true/\r.src∈act:=fun x hx=>by
  rcases bR.1 hx with hx | hx
  ·exact h.ok x hx
  ·exact⟨k,r,by simpa using hx,h1,h2,h3⟩
 split
 ·rename_i ha;refine⟨oe,fun x hx=>bR.2 (.inl (h.sub x hx)),h.ap,fun _ e=>?_⟩;rw[e]at ha;simp at ha
 ·refine⟨oe,fun x hx=>?_,?_,fun _=>by simp⟩
  ·rcases bR.1 hx with hx | hx
   ·exact bR.2 (.inl (h.sub x (ft.1 hx).1))
   ·exact bR.2 (.inr hx)
  ·rw[gM];refine⟨h.ap.filter _,xK _ _,fun a ha b hb=>?_⟩;have:b=k:=by simpa using hb
   subst this;have:=(ft.1 ha).2;rwa[dS]at this
theorem ChI.fold:∀{l:List Int} {st:List Int×List Int},(∀x,x∈l->x∈act)->ChI xs ro act may st->ChI xs ro act may (l.foldl (oz xs ro act may) st)
 | [],_,_,h=>h
 | x::l,st,hl,h=>ChI.fold (l:=l) (fun y hy=>hl y (.tail _ hy)) (h.step sd A (hl x (.head _)))
omit sd A in
theorem AZ:∀{l:List Int} {st:List Int×List Int} {x:Int},(x∈st.1∨∃leaf,leaf∈l/\jF xs ro may leaf=x/\0<=x)->x∈(l.foldl (oz xs ro act may) st).1
 | [],st,x,h=>h.elim id fun⟨_,h,_⟩=>by cases h
 | y::l,st,x,h=>by
  refine AZ (l:=l) ?_;have mono:x∈st.1->x∈(oz xs ro act may st y).1:=fun h=>by
   unfold oz;dsimp only;split
   ·exact h
   ·exact bR.2 (.inl h)
  rcases h with h | ⟨leaf,h1,h2,h3⟩
  ·exact .inl (mono h)
  ·rcases aU.1 h1 with rfl | h1
   ·left;unfold oz;dsimp only;rw[h2];split
    ·rename_i hc;exact hc.elim (fun h=>by omega) id
    ·simp
   ·exact .inr ⟨leaf,h1,h2,h3⟩
omit sd A in
theorem ML {x:Int} (h:x∈Ie xs act):x∈act:=by
 obtain⟨k,rfl,_,hp⟩:=ra.1 h;unfold lvP at hp;simp only[aQ,bM]at hp;exact hp.1.1
theorem uV:ChI xs ro act may ((Ie xs act).foldl (oz xs ro act may) ([],[])):=
 ChI.fold sd A (fun _ h=>ML h) ⟨fun _ h=>(by cases h),fun _ h=>(by cases h),List.Pairwise.nil,fun h=>absurd rfl h⟩
theorem CQ{k:Nat}{r:Ro}(h1:ro[k]? =some r)(h2:may[k]? =some true)(h3:r.src∈act):fP xs ro act may≠[]:=by
 have C:=uV sd A (ro:=ro) (may:=may);refine C.ne ?_;obtain⟨s,es,hs,_⟩:=AW sd A h3;rw[es]at h3;obtain⟨y,hy,hc⟩:=MH sd A xs.length s (by omega) h3;have JV:=sd.fo.Bd hc;have h0:0<=jF xs ro may y:=Int.not_lt.1 fun h=>Ov sd A JV h h1 h2 es hc;exact List.ne_nil_of_mem (AZ (.inr ⟨y,hy,rfl,h0⟩))
theorem JA{k:Nat}{r:Ro}(h1:ro[k]? =some r)(h2:∀n:Nat,may[n]? =some true↔n=k):fP xs ro act may=if r.src∈act then[(k:Int)]else[]:=by
 have C:=uV sd A (ro:=ro) (may:=may);by_cases h3:r.src∈act
 ·rw[if_pos h3];have ik:=CQ sd A h1 ((h2 k).2 rfl) h3;have all:∀x,x∈fP xs ro act may->x=k:=fun x hx=>by
   obtain⟨n,r',e,_,h4,_⟩:=C.ok x (C.sub x hx);rw[e,(h2 n).1 h4]
  have two:∀(l:List Int) (st:List Int×List Int),(∀x,x∈l->x∈act)->(st=([],[])∨st=([(k:Int)],[(k:Int)]))->(l.foldl (oz xs ro act may) st=([],[])∨l.foldl (oz xs ro act may) st=([(k:Int)],[(k:Int)])):=by
   intro l
   induction l with
   | nil=>exact fun st _ h=>h
   | cons y l ih=>
    intro st hl h;rw[rM];refine ih _ (fun x hx=>hl x (.tail _ hx)) ?_;unfold oz;dsimp only;by_cases hc:jF xs ro may y<0∨jF xs ro may y∈st.1
    ·rw[if_pos hc];exact h
    ·rw[if_neg hc];obtain⟨n,r',e,_,h4,_⟩:=CP sd A (hl y (.head _)) (Int.not_lt.1 fun h=>hc (.inl h));have:=(h2 n).1 h4;subst this;rw[e]at hc⊢;rcases h with rfl | rfl
     ·right;rfl
     ·exact absurd (.inr (.head _)) hc
  have:=two (Ie xs act) ([],[]) (fun _ h=>ML h) (.inl rfl);unfold fP at ik⊢;rcases this with e | e
  ·rw[e]at ik;exact absurd rfl ik
  ·rw[e]
 ·rw[if_neg h3];have:=C.sub;cases hc:fP xs ro act may with
  | nil=>rfl
  | cons x l=>
   obtain⟨n,r',e,h5,h4,h6⟩:=C.ok x (C.sub x (by unfold fP at hc;rw[hc];exact .head _));have:=(h2 n).1 h4;subst this;rw[h1,aZ]at h5;subst h5;exact absurd h6 h3
end
theorem Si(xs:List cN)(a b:Int):Jp xs a b=sL xs a b:=by rw[bX,wq,Ay]
theorem ago{w:av}{s:Sl}{l:List Int}{O1:Nat}{cap:aI}{p:Int->Bool}{F:aJ}(hs:aA fz 1 w F s l)(hl:l.length<=2000000)(hc:ClI w (fun _=>False) O1 cap l p){f:OV}(hf:f.v=.func (.func O1) #[] cap.toArray):
  az aq 58 #[s.v,f.v] w fun e w'=>e=ak (aj (l.any p))/\ay [] w w':=by
 refine ret (QJ _ _ _ _ ?_);refine(Sf (S:=fun _=>True) hs hl (fun _ _=>trivial) hc hf).mono ?_;rintro _ w1 ⟨⟨i,rfl,hi⟩,hO⟩;refine⟨i,rfl,?_,hO⟩;congr 1;rcases hi with⟨rfl,h⟩ | ⟨n,rfl,h1,h2,h3⟩
 ·rw[bC (by omega)];symm;rw[dx];intro hh;obtain⟨x,hx,hp⟩:=qx.1 hh;rw[h x hx]at hp;cases hp
 ·rw[bL (by omega)];exact(qx.2 ⟨l[n],dZ h1,h3 _ (aW h1)⟩).symm
theorem Sj(w:av)(s si sd sr:Sl):az aq 46 #[ah #[s.v,si.v,sd.v,sr.v],Sl.nil.v] w fun e w'=>(∃(b:Nat) (m0 m1:Option Nat),e=ak (ae (some ⟨b,0,none⟩))/\w.heap.size<=b/\b<w'.heap.size/\aF w' b 131 [s.v,si.v,sd.v,sr.v,.map m0,.map m1])/\ay [] w w':=by
 refine(al7 s si sd sr Sl.nil (fun v w'=>(∃(b:Nat) (m0 m1:Option Nat),v=ae (some ⟨b,0,none⟩)/\w.heap.size<=b/\b<w'.heap.size/\aF w' b 131 [s.v,si.v,sd.v,sr.v,.map m0,.map m1])/\ay [] w w') w ?_).mono (by rintro _ w' ⟨v,rfl,⟨b,m0,m1,rfl,h⟩,h'⟩;exact⟨⟨b,m0,m1,rfl,h⟩,h'⟩);intro k0 w0 gu fe cD;obtain⟨a1,_,a3⟩:=MapV.make (P:=aq) (mty:=127) (kv:=kS) (g:=gS) w0;have z1:=a3.size;refine⟨_,_,a1,a3.same (by simp;omega),?_⟩;obtain⟨b1,_,b3⟩:=MapV.make (P:=aq) (mty:=129) (kv:=kS) (g:=gS) (w0.alloc (.map #[] 0));have z2:=b3.size;refine⟨_,_,b1,b3.same (by simp;omega),fun k1 w3 j5 iX de=>?_⟩;have z3:=de.size;have z0:=cD.size;refine⟨fun kv i u=>i=0/\u=w3,0,⟨rfl,rfl⟩,?_⟩;rintro kv _ u ⟨rfl,hu⟩;obtain rfl:w3=u:=hu.symm;refine⟨fun hc=>absurd (aO hc) (by show ¬(0:Int)<((0:Nat):Int);omega),fun _ hB _=>⟨⟨k1,_,_,rfl,by omega,iX,hB⟩,((cD.cf a3).cf b3).cf de⟩⟩
section
variable {w:av} {F G:aJ} {s si sd sr sa:Sl} {p:Pl} {act:List Int} {b:Nat} {ty:TypeId}
theorem xZ{ro:List Ro}(h:aA Yn 7 w F sr ro){i:Nat}{x:Ro}(hx:ro[i]? =some x):∃ad tg,cW sr (i:Int) 7 ad/\aB w ad [O U x.src,O U x.slot,O U x.k,ab (T x.ev),O U x.wt,tg.v,O U x.dom]/\aA fz 1 w F tg x.tg:=by
 have bS:=(aV.1 hx).1;have hl:=h.len;obtain⟨ad,y,cs,g1,g2,g3,g4,g5,tg,rfl,g6⟩:=h.get (bA i) (by omega);rw[aY,hx]at g2;injection g2 with g2;subst g2;exact⟨ad,tg,g1,g5,g6⟩
theorem Sk{x0 x1 x2 x4 x5:aw}{ro:List Ro}(hB:aF w b ty [x0,x1,x2,sr.v,x4,x5])(h:aA Yn 7 w F sr ro)(k:Int):az aq 47 #[ae (some ⟨b,0,none⟩),O U k] w fun e w'=>
  (∃(a1 a2 a3:Int) (ev:aK) (wt:Int) (tg:Sl) (dom:Int) (is:Bool),e=ak (ai #[ah #[O U a1,O U a2,O U a3,ab ev,O U wt,tg.v,O U dom],aj is])/\(is=true->∃(n:Nat) (r:Ro),k=n/\ro[n]? =some r/\0<=r.dom/\dom=r.dom/\aA fz 1 w' F tg r.tg)/\(is=false->∀(n:Nat) (r:Ro),k=n->ro[n]? =some r->r.dom<0))/\ay [] w w':=by
 refine(al8 ⟨b,0,none⟩ k (fun v w'=>(∃(a1 a2 a3:Int) (ev:aK) (wt:Int) (tg:Sl) (dom:Int) (is:Bool),v=ai #[ah #[O U a1,O U a2,O U a3,ab ev,O U wt,tg.v,O U dom],aj is]/\(is=true->∃(n:Nat) (r:Ro),k=n/\ro[n]? =some r/\0<=r.dom/\dom=r.dom/\aA fz 1 w' F tg r.tg)/\(is=false->∀(n:Nat) (r:Ro),k=n->ro[n]? =some r->r.dom<0))/\ay [] w w') w ?_).mono (by rintro _ w' ⟨v,rfl,⟨a1,a2,a3,ev,wt,tg,dom,is,rfl,h⟩,h'⟩;exact⟨⟨a1,a2,a3,ev,wt,tg,dom,is,rfl,h⟩,h'⟩);intro k0 w0 gu fe cD;have z0:=cD.size;have uD:=cD.blk hB (by simp);have h0:aA Yn 7 w0 F sr ro:=SliceF.only gC (by decide) h cD (by simp);have hl:=h0.len;have ow:∀{u:av},ay [k0] w0 u->ay [] w u:=fun hO=>cD.trans hO fun x hx=>.inr (by simp only[aN]at hx;omega);by_cases hin:0<=k/\k<ro.length
 ·obtain⟨n,rfl⟩:∃n:Nat,k=n:=⟨k.toNat,by omega⟩
  obtain⟨r,hr⟩:∃r,ro[n]? =some r:=⟨_,aW (by omega)⟩
  obtain⟨ad,tg,a1,a2,a3⟩:=xZ ((SliceF.inHeap gC h (by decide)).keep gC (by decide) fun k _ bS=>cD.block k bS (by simp)) hr;have e1:decide ((n:Int)<0)=false:=bC (by omega);have e2:decide ((n:Int)>=((sr.n:Nat):Int))=false:=bC (by omega);refine⟨sr,fun _=>Blk.dQ uD 3 rfl,sr,fun _=>Blk.dQ uD 3 rfl,ad,fun _=>a1,r.dom,fun _=>a2.dQ 6 _ rfl,fun hc w1 cr=>⟨⟨0,0,0,_,0,Sl.nil,0,false,rfl,fun h=>(by cases h),fun _ m r' hm UO=>?_⟩,ow cr⟩,fun hc=>⟨sr,Blk.dQ uD 3 rfl,ad,a1,_,_,_,_,_,tg,_,a2,fun w2 cR=>⟨⟨_,_,_,_,_,tg,_,true,rfl,fun _=>⟨n,r,rfl,hr,?_,rfl,?_⟩,fun h=>(by cases h)⟩,ow cR⟩⟩⟩
  ·have:m=n:=by omega
   subst this;rw[hr,aZ]at UO;subst UO;rw[e1,e2,mX,mX]at hc;exact aO hc
  ·rw[e1,e2,mX,mX]at hc;have:=aR hc;omega
  ·exact(SliceF.only bN (by decide) a3 cR fun k hk _ hm=>by simp only[aN]at hm;omega).mono bN fun k hk=>hk.1
 ·have OT:((decide (k<0))||(decide (k>=(sr.n:Int))))=true:=by
   rw[cn,cA,cA];omega
  have no:∀{q:Prop},((decide (k<0))||(decide (k>=(sr.n:Int))))=false->q:=fun h=>by rw[OT]at h;cases h
  refine⟨sr,fun _=>Blk.dQ uD 3 rfl,sr,fun h=>no h,⟨0,0,none⟩,fun h=>no h,0,fun h=>no h,fun hc w1 cr=>⟨⟨0,0,0,_,0,Sl.nil,0,false,rfl,fun h=>(by cases h),fun _ m r' hm UO=>?_⟩,ow cr⟩,fun hc=>?_⟩
  ·have:=(aV.1 UO).1;omega
  ·rw[OT,Bool.true_or]at hc;cases hc
theorem Es(hP:PlR w F s si sd sr p)(tZ:Fo p.sp)(ha:aA fz 1 w G sa act)(hm:act.length<=2000000)(k:Int):az aq 22 #[ah #[s.v,si.v,sd.v,sr.v],sa.v,O U k] w fun e w'=>(∃t:Sl,e=ak t.v/\dc w.heap.size w' t (jX p.sp p.ro act k))/\ay [] w w':=by
 refine(al1 s si sd sr sa k (fun v w'=>(∃t:Sl,v=t.v/\dc w.heap.size w' t (jX p.sp p.ro act k))/\ay [] w w') w ?_).mono (by rintro _ w' ⟨v,rfl,⟨t,rfl,h⟩,h'⟩;exact⟨⟨t,rfl,h⟩,h'⟩);intro k0 w0 gu fe cD;have z0:=cD.size;refine(Sj w0 s si sd sr).mono ?_;rintro _ w1 ⟨⟨b,m0,m1,rfl,hb,j9,hB⟩,cr⟩;have z1:=cr.size;have o1:=cD.cf cr;refine⟨_,rfl,cr.same (by simp;omega),(Sk hB (SliceF.only gC (by decide) hP.ro o1 (by simp)) k).mono ?_⟩;rintro _ w2 ⟨⟨a1,a2,a3,ev,wt,tg,dom,is,rfl,his,hno⟩,cR⟩;have z2:=cR.size;have o2:=o1.cf cR;refine⟨a1,a2,a3,ev,wt,tg,dom,is,rfl,cR.same (by simp;omega),fun k1 k2 w3 j5 iX rm rn de=>?_⟩;have z3:=de.size;have o3:=o2.cf de;refine(Jy (kI ha o3) (by omega)).mono ?_;rintro _ w4 ⟨t,rfl,TV,dL⟩;have z4:=dL.size;have o4:=o3.cf dL;have rl:∀{q:Nat},t.a=some ⟨q,0,none⟩->w3.heap.size<=q:=fun e=>(TV.blk e).1;refine⟨t,rfl,dL.same (by simp;omega),fun uD wD po=>?_⟩;have Fg:aA pb 5 w4 (fun k=>F k/\k<w.heap.size) s p.sp:=SliceF.only dk (by decide) (SliceF.inHeap dk hP.sp (by decide)) o4 (by simp);refine(yZ (f:=⟨.func (.func 50) #[] #[ae (some ⟨k2,0,none⟩),ae (some ⟨k0,0,none⟩),ae (some ⟨k1,0,none⟩)],rfl⟩) TV hm ⟨fu (by kernel_rfl),fun y hy u hO=>?_⟩ (p:=fun y=>!(is&&sL p.sp y dom)) (cap:=[ae (some ⟨k2,0,none⟩),ae (some ⟨k0,0,none⟩),ae (some ⟨k1,0,none⟩)]) rfl).mono ?_
 ·have nk:∀q,q<w3.heap.size->¬(t.a=some ⟨q,0,none⟩):=fun q hq e=>by have:=rl e;omega
  have hu:=Fg.keep dk (by decide) fun q hq bS=>hO.block q bS (nk q (by omega));have c0:=hO.blk uD (nk k0 (by omega));have c1:=hO.blk wD (nk k1 (by omega));have c2:=hO.blk po (nk k2 (by omega));refine(al9 y ⟨k2,0,none⟩ ⟨k0,0,none⟩ ⟨k1,0,none⟩ (fun v w'=>v=aj (!(is&&sL p.sp y dom))/\ay [] u w') u ?_).mono (by rintro _ w' ⟨v,rfl,rfl,h⟩;exact⟨rfl,h⟩);refine⟨fun c u'=>c=(!(is&&sL p.sp y dom))/\ay [] u u',?_,is,c2.cells 0 _ (by simp),fun hc=>⟨?_,Only.refl _ _⟩,fun hc=>⟨s,Blk.dQ c0 0 rfl,dom,Blk.dQ c1 6 rfl,(xp hu tZ y dom).mono ?_⟩⟩
  ·rintro c u' ⟨rfl,h⟩;exact⟨rfl,h⟩
  ·have:is=false:=by simpa using hc
   rw[this];rfl
  ·have:is=true:=by simpa using hc
   rintro _ u' ⟨rfl,Xl⟩;obtain rfl:u=u':=Xl.symm;refine⟨_,rfl,?_,Only.refl _ _⟩;rw[Si,this,cO]
 ·rintro _ w5 ⟨s2,rfl,UQ,_,O0,eP⟩;have nk:∀q,q<w3.heap.size->¬(t.a=some ⟨q,0,none⟩):=fun q hq e=>by have:=rl e;omega
  refine⟨s2,rfl,s,si,sd,sr,eP.blk uD (nk k0 (by omega)),_,_,_,_,_,tg,_,eP.blk wD (nk k1 (by omega)),_,eP.blk po (nk k2 (by omega)),⟨s2,rfl,?_⟩,(o4.mL (eP.mono (G:=fun q=>w.heap.size<=q) fun q _ e=>by have:=rl e;omega)).only fun q hq=>hq⟩;have e:jX p.sp p.ro act k=act.filter fun x=>!(fun y=>!(is&&sL p.sp y dom)) x:=by
   have e2:(act.filter fun x=>!(fun y=>!(is&&sL p.sp y dom)) x)=act.filter fun x=>is&&sL p.sp x dom:=by
    congr 1;funext x;show(!!_)=_;rw[KF]
   rw[e2];cases is with
   | true=>
    obtain⟨n,r,hn,hr,h0,hd,_⟩:=his rfl;unfold jX;rw[hn,if_neg (by omega),aY,hr];dsimp only;rw[if_neg (by omega),hd];rfl
   | false=>
    have hz:(act.filter fun x=>false&&sL p.sp x dom)=[]:=by
     rw[List.filter_eq_nil_iff];intro x _ h;cases h
    rw[hz];unfold jX;split
    ·rfl
    ·rename_i h;split
     ·rename_i r hr;rw[if_pos];exact hno rfl k.toNat r (by omega) hr
     ·rfl
  rw[e];exact Own.low O0 (by omega)
theorem MM(hP:PlR w F s si sd sr p)(tZ:Fo p.sp)(ha:aA fz 1 w G sa act)(hm:act.length<=2000000)(i j:Int):az aq 27 #[ah #[s.v,si.v,sd.v,sr.v],sa.v,O U i,O U j] w fun e w'=>e=ak (aj (ga p.sp p.ro act i j))/\ay [] w w':=by
 refine ret (v7w _ _ _ _ _ _ _ _ _ ?_);intro k0 w0 gu fe cD;have z0:=cD.size;have hel:∀q,(jX p.sp p.ro act q).length<=2000000:=fun q=>by
  unfold jX;split
  ·exact bh _
  ·split
   ·split
    ·exact bh _
    ·exact bp (da _ _) hm
   ·exact bh _
 refine(Es (hP.o0 cD) tZ (kI ha cD) hm i).mono ?_;rintro _ w1 ⟨⟨t1,rfl,h1⟩,cr⟩;have z1:=cr.size;have o1:=cD.cf cr;refine⟨t1,rfl,cr.same (by simp;omega),fun k1 w2 j5 iX cR=>?_⟩;have z2:=cR.size;have o2:=o1.cf cR;refine(Es (hP.o0 o2) tZ (kI ha o2) hm j).mono ?_;rintro _ w3 ⟨⟨t2,rfl,h2⟩,de⟩;have z3:=de.size;have o3:=o2.cf de;refine⟨t2,rfl,de.same (by simp;omega),fun hB ik=>?_⟩;have u9:aA fz 1 w3 _ t1 (jX p.sp p.ro act i):=kI (kI (h1.slice bN) cR) de;refine(ago (f:=⟨.func (.func 61) #[] #[ae (some ⟨k1,0,none⟩)],rfl⟩) (h2.slice bN) (hel j) ⟨fu (by kernel_rfl),fun y hy u hO=>?_⟩ (p:=fun n=>decide (n∈jX p.sp p.ro act i)) (cap:=[ae (some ⟨k1,0,none⟩)]) rfl).mono ?_
 ·have Db:ay [] w3 u:=hO.only fun k h=>h.elim;refine(v6w y ⟨k1,0,none⟩ (fun v w'=>v=aj (decide (y∈jX p.sp p.ro act i))/\ay [] u w') u ?_).mono (by rintro _ w' ⟨v,rfl,rfl,h⟩;exact⟨rfl,h⟩);refine⟨t1,(Db.blk hB (by simp)).cells 0 _ (by simp),(sV (kI u9 Db) y).mono ?_⟩;rintro _ u' ⟨rfl,apA⟩;exact⟨_,rfl,rfl,apA⟩
 ·rintro _ w4 ⟨rfl,dL⟩;exact⟨_,rfl,dL.same (by simp;omega),t1,dL.blk hB (by simp),rfl,o3.cf dL⟩
end
end Go.Proofs.YtbkjcdocjfknfaaGreatDoor.Con
set_option linter.unusedSectionVars false
namespace Go.Proofs.YtbkjcdocjfknfaaGreatDoor.Con
open Go.Value renaming int->O,string->ab,pointer->ae,agg->ah,tuple->ai,bool->aj
open Go.IntKind renaming i64->U,wrap->ar
open Go.Ending renaming returned->ak
open _root_.ByteArray renaming mk->ao
open _root_.Go.Proofs.Tryz renaming prog->aq
open Go.Instr renaming buildSlice->au
open Go renaming World->av,Value->aw,Calls->az
open Go.Kt renaming Only->ay,SliceF->aA,Cells->aB,OnlyP->aD,Blk->aF
open Go Go.RowKit Go.Kt Go.Kt.V Go.Proofs.YtbkjcdocjfknfaaGreatDoor.Vc
set_option linter.unusedSimpArgs false
set_option linter.unusedVariables false
set_option maxHeartbeats 4000000
set_option maxRecDepth 100000
set_option linter.unusedSectionVars false
def JB(xs:List cN)(i:Nat):Nat:=iu (Ph xs.length fun k=>decide (k<i)&&N5 xs k i)
def Wi(xs:List cN)(i:Nat):Nat:=iu (Ph xs.length fun k=>decide (i<k)&&N5 xs i k)
def Sm(xs:List cN)(i:Nat):Nat:=iu (dz xs i)
theorem Et(m n i:Nat)(hn:n<64):(Pm m n).testBit i=(m.testBit i||decide (n=i)):=by
 unfold Pm;rw[Nat.testBit_or,Hw];congr 1;rw[iP];omega
section
variable {xs:List cN} (F:Fo xs) (hl:xs.length<=64)
include F hl
theorem MN{p:Nat->Bool}{k:Nat}:(iu (Ph xs.length p)).testBit k=(decide (k<xs.length)&&p k):=by
 rw[tS];cases h:(decide (k<xs.length)&&p k)with
 | true=>
  rw[aQ,bM]at h;exact bL ⟨by omega,ra.2 ⟨k,rfl,h⟩⟩
 | false=>
  refine bC fun⟨_,hm⟩=>?_;obtain⟨q,e,hq,hp⟩:=ra.1 hm;have:q=k:=by omega
  subst this;rw[bL hq,hp]at h;cases h
theorem y0{i k:Nat}:(JB xs i).testBit k=true↔k<i/\qU xs k i:=by
 unfold JB;rw[MN F hl,aQ,aQ,bM,bM,pY];exact⟨fun h=>h.2,fun h=>⟨by obtain⟨_,_,e,_⟩:=h;exact fJ e,h⟩⟩
theorem MO{i k:Nat}:(Wi xs i).testBit k=true↔i<k/\qU xs i k:=by
 unfold Wi;rw[MN F hl,aQ,aQ,bM,bM,pY];exact⟨fun h=>h.2,fun h=>⟨F.Bd h.2,h⟩⟩
theorem ww{i k:Nat}:(Sm xs i).testBit k=true↔(k:Int)∈dz xs i:=by
 unfold Sm;rw[tS,bM];refine⟨fun h=>h.2,fun h=>⟨?_,h⟩⟩;obtain⟨q,t,e,h1,_⟩:=jE.1 h;have:=fJ h1;omega
theorem Sn:JB xs 0=0:=gN fun k=>by
 rw[jT,dx,Ne,y0 F hl];omega
theorem Wj{i p:Nat}{t:cN}(h:xs[i]? =some t)(hp:t.pa=p):JB xs i=Pm (JB xs p) p:=gN fun k=>by
 have hi:=fJ h;have h0:0<i:=by
  refine H6 fun e=>?_;subst e;have:=(F.rt t h).1;omega
 obtain⟨q,s,e1,e2,e3,_,e5,e6⟩:=F.par h h0;have:q=p:=by omega
 subst this;have hc:qU xs q i:=⟨s,e3,by omega,e5⟩
 rw[Et _ _ _ (by omega),bX,cn,bM,y0 F hl,y0 F hl];constructor
 ·rintro⟨h1,u,u1,u2,u3⟩;have:=e6 k u u1 h1 u3;by_cases he:q=k
  ·exact .inr he
  ·exact .inl ⟨by omega,F.EX ⟨u,u1,u2,u3⟩ hc this⟩
 ·rintro(⟨h1,h2⟩ | rfl)
  ·exact⟨by omega,F.EW h2 hc⟩
  ·exact⟨e1,hc⟩
def Ig(xs:List cN)(i:Nat):Nat->Nat
 | 0=>0
 | k+1=>if i<k/\N5 xs i k=true then Pm (Ig xs i k) k else Ig xs i k
def MP(xs:List cN)(i:Nat):Nat->Nat
 | 0=>0
 | k+1=>if(k:Int)∈dz xs i then Pm (MP xs i k) k else MP xs i k
theorem MQ{i:Nat}:∀(n:Nat),n<=xs.length->∀k,(Ig xs i n).testBit k=true↔k<n/\i<k/\qU xs i k
 | 0,_,k=>by unfold Ig;rw[jT];exact⟨fun h=>(by cases h),fun h=>by omega⟩
 | n+1,h,k=>by
  unfold Ig;have ih:=MQ (i:=i) n (by omega) k;split
  ·rename_i hc;rw[Et _ _ _ (by omega),cn,ih,bM];constructor
   ·rintro(⟨a,b⟩ | rfl)
    ·exact⟨by omega,b⟩
    ·exact⟨by omega,hc.1,pY.1 hc.2⟩
   ·rintro⟨a,b⟩;by_cases he:n=k
    ·exact .inr he
    ·exact .inl ⟨by omega,b⟩
  ·rename_i hc;rw[ih];refine⟨fun⟨a,b⟩=>⟨by omega,b⟩,fun⟨a,b,c⟩=>⟨?_,b,c⟩⟩;by_cases he:n=k
   ·subst he;exact absurd ⟨b,pY.2 c⟩ hc
   ·omega
theorem MR{i:Nat}:∀(n:Nat),n<=xs.length->∀k,(MP xs i n).testBit k=true↔k<n/\(k:Int)∈dz xs i
 | 0,_,k=>by unfold MP;rw[jT];exact⟨fun h=>(by cases h),fun h=>by omega⟩
 | n+1,h,k=>by
  unfold MP;have ih:=MR (i:=i) n (by omega) k;split
  ·rename_i hc;rw[Et _ _ _ (by omega),cn,ih,bM];constructor
   ·rintro(⟨a,b⟩ | rfl)
    ·exact⟨by omega,b⟩
    ·exact⟨by omega,hc⟩
   ·rintro⟨a,b⟩;by_cases he:n=k
    ·exact .inr he
    ·exact .inl ⟨by omega,b⟩
  ·rename_i hc;rw[ih];refine⟨fun⟨a,b⟩=>⟨by omega,b⟩,fun⟨a,b⟩=>⟨?_,b⟩⟩;by_cases he:n=k
   ·subst he;exact absurd b hc
   ·omega
theorem Wk{i n:Nat}{t:cN}(h:xs[i]? =some t)(hn:t.en=n):Ig xs i n=Wi xs i:=gN fun k=>by
 have lC:=(F.up i t h).2;rw[bX,MQ F hl n (by omega),MO F hl];refine⟨fun h=>h.2,fun⟨a,u,u1,u2,u3⟩=>⟨?_,a,u,u1,u2,u3⟩⟩;rw[h,aZ]at u1;subst u1;omega
theorem Wl{i n:Nat}{t:cN}(h:xs[i]? =some t)(hn:t.en=n):MP xs i n=Sm xs i:=gN fun k=>by
 have lC:=(F.up i t h).2;rw[bX,MR F hl n (by omega),ww F hl];refine⟨fun h=>h.2,fun a=>⟨?_,a⟩⟩;obtain⟨q,u,e,h1,h2,_⟩:=jE.1 a;have:q=k:=by omega
 subst this;obtain⟨_,_,h3 | ⟨m,e,v,v1,v2,v3⟩⟩:=F.M8 ⟨u,h1,h2⟩
 ·omega
 ·have:m=i:=by omega
  subst this;rw[h,aZ]at v1;subst v1;omega
theorem CR{i:Nat}:∀n,n<=i+1->Ig xs i n=0
 | 0,_=>rfl
 | n+1,h=>by unfold Ig;rw[if_neg (by omega),CR n (by omega)]
theorem CS{i:Nat}:∀n,n<=i+1->n<=xs.length->MP xs i n=0
 | 0,_,_=>rfl
 | n+1,h,h'=>by
  unfold MP;rw[if_neg,CS n (by omega) (by omega)];intro hm;obtain⟨q,u,e,h1,h2,_⟩:=jE.1 hm;have:=(F.M8 ⟨u,h1,h2⟩).1;omega
end
structure Ce where
 k:Int
 pa:Int
 up:Nat
 dn:Nat
 rg:Nat
 ini:Int
 dft:Int
 f0:Nat
 f1:Nat
def Sp(p:Pl)(a e:Nat)(b:Nb):Ce:=⟨b.k,GW p.sp a,JB p.sp a,Wi p.sp a,Sm p.sp a,(p.ini[a]?).getD 0,(p.dft[a]?).getD 0,e,e+b.mv.length⟩
mutual
def Um:Nd->Nat
 | .mk b l=>b.mv.length+re l
def re:List Nd->Nat
 | []=>0
 | x::l=>Um x+re l
end
mutual
def Pn(p:Pl):Nat->Nat->Nd->List Ce
 | a,e,.mk b l=>Sp p a e b::ob p (a+1) (e+b.mv.length) l
def ob(p:Pl):Nat->Nat->List Nd->List Ce
 | _,_,[]=>[]
 | a,e,x::l=>Pn p a e x++ob p (a+iQ x) (e+Um x) l
end
def CT(xs:List cN)(r:Ro):Nat:=if 0<=r.dom then Wi xs r.dom.toNat else 0
mutual
theorem MS(xs:List cN):∀(x:Nd) (a:Nat),(wM xs a x).length=Um x
 | .mk b l,a=>by rw[wM,Um,aP,mq,A0 xs l]
theorem A0(xs:List cN):∀(l:List Nd) (a:Nat),(jP xs a l).length=re l
 | [],a=>by rw[jP,re];rfl
 | x::l,a=>by rw[jP,re,aP,MS xs x,A0 xs l]
end
mutual
theorem za(p:Pl):∀(x:Nd) (a e:Nat),(Pn p a e x).length=iQ x
 | .mk b l,a,e=>by rw[Pn,iQ,bf,A1 p l]
theorem A1(p:Pl):∀(l:List Nd) (a e:Nat),(ob p a e l).length=dJ l
 | [],a,e=>by rw[ob,dJ];rfl
 | x::l,a,e=>by rw[ob,dJ,aP,za p x,A1 p l]
end
theorem HC(p:Pl):∀(l m:List Nd) (a e:Nat),ob p a e (l++m)=ob p a e l++ob p (a+dJ l) (e+re l) m
 | [],m,a,e=>by rw[ck,ob,ck,dJ,re,dG,dG]
 | x::l,m,a,e=>by rw[bZ,ob,ob,HC p l m,bH,dJ,re,dA,dA]
mutual
theorem Sq(p:Pl):∀(x:Nd) (a e i:Nat) (c:Ce),(Pn p a e x)[i]? =some c->∃b f,(AN x)[i]? =some b/\c=Sp p (a+i) f b/\f+b.mv.length<=e+Um x
 | .mk b l,a,e,i,c,h=>by
  rw[Pn]at h;rw[AN,Um];cases i with
  | zero=>
   rw[ci,aZ]at h;exact⟨b,e,rfl,h.symm,by omega⟩
  | succ i=>
   rw[cu]at h;obtain⟨b',f,h1,h2,h3⟩:=Eu p l _ _ i c h;exact⟨b',f,by rw[cu];exact h1,by rw[h2];congr 1;omega,by omega⟩
theorem Eu(p:Pl):∀(l:List Nd) (a e i:Nat) (c:Ce),(ob p a e l)[i]? =some c->∃b f,(vm l)[i]? =some b/\c=Sp p (a+i) f b/\f+b.mv.length<=e+re l
 | [],a,e,i,c,h=>by rw[ob]at h;cases h
 | x::l,a,e,i,c,h=>by
  rw[ob]at h;rw[vm,re];have hl:=za p x a e;have hb:=tP x;by_cases hi:i<iQ x
  ·rw[bK (by omega)]at h;obtain⟨b',f,h1,h2,h3⟩:=Sq p x _ _ i c h;exact⟨b',f,by rw[bK (by omega)];exact h1,h2,by omega⟩
  ·rw[bT (by omega),hl]at h;obtain⟨b',f,h1,h2,h3⟩:=Eu p l _ _ _ c h;exact⟨b',f,by rw[bT (by omega),hb];exact h1,by rw[h2];congr 1;omega,by omega⟩
end
theorem Ev{xs:List cN}{a:Nat}{r:Ro}{l:List Mv}{i:Nat}(h:r∈xr xs a i l):r.src=a:=by
 obtain⟨j,m,_,rfl⟩:=Ep h;rfl
theorem Wm{xs:List cN}{r:Ro}{x:Nd}{a:Nat}(h:r∈wM xs a x):(a:Int)<=r.src/\r.src<(a+iQ x:Nat):=by
 obtain⟨n,b,j,m,h1,_,rfl⟩:=MJ h;have:=(aV.1 h1).1;rw[tP]at this;unfold Fv;dsimp only;omega
theorem HD{xs:List cN}{r:Ro}{l:List Nd}{a:Nat}(h:r∈jP xs a l):(a:Int)<=r.src/\r.src<(a+dJ l:Nat):=by
 obtain⟨n,b,j,m,h1,_,rfl⟩:=AX h;have:=(aV.1 h1).1;rw[tQ]at this;unfold Fv;dsimp only;omega
mutual
theorem HE(xs:List cN):∀(x:Nd) (a:Nat),(wM xs a x).Pairwise fun r s=>r.src<=s.src
 | .mk b l,a=>by
  rw[wM,gM];refine⟨?_,CU xs l _,fun r hr s hs=>?_⟩
  ·exact List.pairwise_of_forall_mem_list fun r hr s hs=>by rw[Ev hr,Ev hs];exact iB _
  ·rw[Ev hr];have:=(HD hs).1;omega
theorem CU(xs:List cN):∀(l:List Nd) (a:Nat),(jP xs a l).Pairwise fun r s=>r.src<=s.src
 | [],a=>by rw[jP];exact List.Pairwise.nil
 | x::l,a=>by
  rw[jP,gM];exact⟨HE xs x a,CU xs l _,fun r hr s hs=>by
   have:=(Wm hr).2;have:=(HD hs).1;omega⟩
end
theorem MT{xs:List cN}(F:Fo xs)(l:List Int):∀(n:Nat) {d:Int},d<xs.length->Hn xs l n d<=d∨Hn xs l n d<0
 | 0,d,_=>.inl (iB _)
 | n+1,d,h=>by
  unfold Hn;split
  ·rename_i hc;obtain⟨k,rfl⟩:∃k:Nat,d=k:=⟨d.toNat,by omega⟩
   obtain⟨t,ht⟩:=gV (xs:=xs) (i:=k) (by omega);have:=F.uy ht;rw[li ht];rcases MT F l n (d:=t.pa) (by omega)with h | h
   ·exact .inl (by omega)
   ·exact .inr h
  ·exact .inl (iB _)
theorem Wn{xs:List cN}(F:Fo xs){a:Nat}(tg:List Int):Ej xs a tg<=a:=by
 unfold Ej;split
 ·omega
 ·rename_i h;have hm:mtM xs ((a:Int)::tg)<=a/\mtM xs ((a:Int)::tg)<xs.length:=by
   have hl:=F.ne;unfold mtM;split
   ·omega
   ·rcases wv xs ((a:Int)::tg) xs.length with⟨g,_⟩ | ⟨m,g1,g2,g3,_⟩
    ·omega
    ·obtain⟨k,e,s,_,h1,_⟩:=yY.1 g3 a (.head _);omega
  rcases MT F ((a:Int)::tg) xs.length hm.2 with h | h<;>omega
theorem qg{ro:List Ro}{may:List Bool}{n:Int}{k:Nat}:HB ro may n k=true↔∃r,ro[k]? =some r/\may[k]? =some true/\r.src=n:=by
 unfold HB;constructor
 ·intro h;split at h
  ·rename_i r h1 h2;exact⟨r,h1,h2,aO h⟩
  ·cases h
 ·rintro⟨r,h1,h2,h3⟩;rw[h1,h2];exact bL h3
theorem Ew{ro:List Ro}{may:List Bool}{n:Int}(h:∀k,HB ro may n k=false):nH ro may n=none:=by
 unfold nH;rw[H7];intro k _ hk;rw[h k]at hk;cases hk
theorem Wo{ro:List Ro}{may:List Bool}{n:Int}{k:Nat}(h:∀j,j<k->HB ro may n j=false)(hk:HB ro may n k=true):nH ro may n=some k:=by
 have hm:k∈List.range (min ro.length may.length):=by
  obtain⟨r,h1,h2,_⟩:=qg.1 hk;have a:=(aV.1 h1).1;have b:=(aV.1 h2).1;rw[fG];omega
 cases hf:nH ro may n with
 | none=>
  unfold nH at hf;rw[H7]at hf;exact absurd hk (hf k hm)
 | some m=>
  unfold nH at hf;have h1:=List.find?_some hf;congr 1;rcases Nat.lt_trichotomy m k with hl | hl | hl
  ·rw[h m hl]at h1;cases h1
  ·exact hl
  ·exfalso;obtain⟨_,l1,l2,e,h2⟩:=List.find?_eq_some_iff_append.1 hf;have hs:(List.range (min ro.length may.length)).Pairwise (· <·):=List.pairwise_lt_range;rw[e]at hm hs;rcases bR.1 hm with hm | hm
   ·have:=h2 k hm;rw[hk]at this;cases this
   ·rcases aU.1 hm with rfl | hm
    ·omega
    ·have:=(gM.1 hs).2.1;rw[fN]at this;have:=this.1 k hm;omega
theorem MU{ro:List Ro}{may:List Bool}{n:Int}(hs:ro.Pairwise fun r s=>r.src<=s.src){k0 k:Nat}{r0:Ro}(h0:ro[k0]? =some r0)(e0:r0.src=n)(h1:∀j,j<k0->∀r,ro[j]? =some r->r.src≠n)(hk:k0<=k)(h2:∀j,k0<=j->j<k->may[j]? ≠some true)(h3:ro.length<=k∨may.length<=k∨∃r,ro[k]? =some r/\r.src≠n):nH ro may n=none:=by
 refine Ew fun j=>?_;rw[dx];intro hj;obtain⟨r,g1,g2,g3⟩:=qg.1 hj;have a:=(aV.1 g1).1;have b:=(aV.1 g2).1;by_cases W5:j<k0
 ·exact h1 j W5 r g1 g3
 by_cases hjk:j<k
 ·exact h2 j (by omega) hjk g2
 rcases h3 with h3 | h3 | ⟨s,h3,h4⟩
 ·omega
 ·omega
 ·have c:=(aV.1 h3).1;have d:=(aV.1 h0).1;have le:∀{i m:Nat} {x y:Ro},i<=m->ro[i]? =some x->ro[m]? =some y->x.src<=y.src:=fun{i m x y} lC hx hy=>by
   rcases Nat.lt_or_ge i m with hl | hl
   ·obtain⟨p,rfl⟩:=aV.1 hx;obtain⟨q,rfl⟩:=aV.1 hy;exact dX.1 hs i m p q hl
   ·have:i=m:=by omega
    subst this;rw[hx,aZ]at hy;rw[hy];exact iB _
  have l1:=le hk h0 h3;have l2:=le (by omega) h3 g1;omega
theorem Wp{ro:List Ro}{may:List Bool}{n:Int}{k0 k:Nat}{r:Ro}(h1:∀j,j<k0->∀r,ro[j]? =some r->r.src≠n)(h2:∀j,k0<=j->j<k->may[j]? ≠some true)(h3:ro[k]? =some r)(h4:r.src=n)(h5:may[k]? =some true):nH ro may n=some k:=by
 refine Wo (fun j hj=>?_) (qg.2 ⟨r,h3,h5,h4⟩);rw[dx];intro hh;obtain⟨r',g1,g2,g3⟩:=qg.1 hh;by_cases W5:j<k0
 ·exact h1 j W5 r' g1 g3
 ·exact h2 j (by omega) hj g2
theorem Ss{ro:List Ro}{may:List Bool}{n:Int}(h:∀r,r∈ro->r.src≠n):nH ro may n=none:=Ew fun k=>by
 rw[dx];intro hh;obtain⟨r,g1,_,g3⟩:=qg.1 hh;exact h r (bF g1) g3
theorem Su{xs:List cN}{ro:List Ro}{leaf:Int}:jF xs ro [] leaf= -1:=by
 have:∀l:List Int,l.findSome? (nH ro [])=none:=fun l=>by
  rw[lA];intro n _;refine Ew fun k=>?_;rw[dx];intro hh;obtain⟨r,_,g2,_⟩:=qg.1 hh;cases g2
 unfold jF;rw[this]
theorem JC{xs:List cN}{ro:List Ro}{act:List Int}:fP xs ro act []=[]:=by
 have:∀(l:List Int),l.foldl (oz xs ro act []) ([],[])=([],[]):=fun l=>by
  induction l with
  | nil=>rfl
  | cons x l ih=>
   rw[rM,show oz xs ro act [] ([],[]) x=([],[]) by unfold oz;dsimp only;rw[Su,if_pos (.inl (by decide))]];exact ih
 unfold fP;rw[this]
section
variable {w:av} {F G:aJ} {l sa:Sl} {xs:List cN} {is:List Int}
theorem JD(h:aA fz 1 w F sa is)(n:Int)(hm:is.length<=4611686018427387903):az aq 26 #[sa.v,O U n] w fun e w'=>e=ak (aj (decide (n∈is)))/\w'=w:=by
 refine ret (al3 _ _ _ _ ?_);have hl:=h.len;refine⟨fun kv i u=>∃j:Nat,i=(j:Int)/\kv+j=is.length/\j<=is.length/\n∉is.take j/\w=u,is.length,⟨0,rfl,by omega,bh _,by simp,rfl⟩,?_⟩;rintro kv _ _ ⟨j,rfl,tY,hj,hn,rfl⟩;refine⟨fun hc=>?_,fun hc=>?_⟩
 ·have hc:=aO hc;have j8:j<is.length:=by omega
  obtain⟨ad,a1,a2⟩:=gW h (aW j8);refine⟨ad,a1,_,a2,fun he=>?_,fun he=>⟨kv-1,by omega,j+1,by rw[fR (by omega) (by omega)];rfl,by omega,by omega,?_,rfl⟩⟩
  ·have he:is[j]=n:=by simpa using he
   exact⟨by rw[bL (by rw[<-he];exact dZ j8)],rfl⟩
  ·have he:¬is[j]=n:=by simpa using he
   rw[bJ,aW j8,bR];rintro(h | h)
   ·exact hn h
   ·simp only[Option.toList,aN]at h;exact he h.symm
 ·have hc:=aR hc;rw[bq (by omega)]at hn;exact⟨by rw[bC hn],rfl⟩
theorem sW{w u:av}{s:Sl}{is:List Int}{B:Nat}(h:dc B w s is)(hO:ay [] w u):dc B u s is:=h.keep bN fun k _ bS=>hO.block k bS (by simp)
end
section
variable {w:av} {F G:aJ} {l sa:Sl} {xs:List cN} {act:List Int}
theorem Yr{u:av}{S:aJ}(h:aA pb 5 w F l xs)(hO:aD S w u)(hS:∀k,F k->k<w.heap.size->¬S k):aA pb 5 u F l xs:=SliceF.jV dk (by decide) h hO hS
theorem Wq(w:av)(k:Int):az aq 109 #[O U k] w fun e w'=>e=ak (aj (Bq k))/\w'=w:=by
 refine ret (amn _ _ _ ?_);exact⟨rfl,rfl⟩
theorem JE{k0 t:Nat}(h:aA pb 5 w F l xs)(hB:aF w k0 t [l.v]){q:Nat}{s:cN}(hq:xs[q]? =some s):az aq 108 #[O U (q:Int),ae (some ⟨k0,0,none⟩)] w fun e w'=>e=ak (aj (!(Bq s.k)))/\w'=w:=by
 refine ret (amm _ _ _ _ ?_);obtain⟨ad,a1,a2,_⟩:=kH h hq;refine⟨l,hB.cells 0 _ (by simp),ad,a1,s.k,a2.dQ 0 _ rfl,(Wq w s.k).mono ?_⟩;rintro _ u ⟨rfl,hu⟩;exact⟨_,rfl,rfl,hu⟩
theorem xw(h:aA pb 5 w F l xs)(hF:Sd xs){n:Nat}{x:cN}(hx:xs[n]? =some x):az aq 76 #[l.v,O U (n:Int)] w fun e w'=>(∃(s:Sl),e=ak (Sl.v s)/\dc w.heap.size w' s (dz xs n))/\ay [] w w':=by
 have hm:=hF.le;refine(ame l n (fun v w'=>(∃(s:Sl),v=Sl.v s/\dc w.heap.size w' s (dz xs n))/\ay [] w w') w ?_).mono (by rintro _ w' ⟨v,rfl,⟨s,rfl,h⟩,h'⟩;exact⟨⟨s,rfl,h⟩,h'⟩);intro k0 w0 gu fe cD;have z0:=cD.size;refine(aaF (SliceF.only dk (by decide) h cD (by simp)) hF.fo hx (by omega)).mono ?_;rintro _ w1 ⟨⟨s1,rfl,Fi⟩,cr⟩;have z1:=cr.size;refine⟨s1,rfl,cr.same (by simp;omega),fun hB=>?_⟩;have Tu:(fT xs n xs.length).length<=xs.length:=by
  unfold fT;rw[bm];exact bp (da _ _) (by rw[gZ];exact aX _)
 have o1:=cD.cf cr;have h1:aA pb 5 w1 (fun k=>F k/\k<w.heap.size) l xs:=SliceF.only dk (by decide) (SliceF.inHeap dk h (by decide)) o1 (by simp);have PJ:s1.a≠some ⟨k0,0,none⟩:=fun e=>by
  have:=(Fi.blk e).1;dsimp only at this;omega
 refine(yZ (f:=⟨.func (.func 108) #[] #[ae (some ⟨k0,0,none⟩)],rfl⟩) Fi (by omega) ⟨fu (by kernel_rfl),fun y hy u hO=>?_⟩ (p:=fun k=>!(Bq (kd xs k))) (cap:=[ae (some ⟨k0,0,none⟩)]) rfl).mono ?_
 ·obtain⟨q,t,rfl,_,h2,_⟩:=Ho.1 hy;rw[ux h2];refine(JE (Yr h1 hO fun k hk _ e=>?_) (hO.blk hB PJ) h2).mono ?_
  ·have:=(Fi.blk e).1;dsimp only at this;omega
  ·rintro _ u' ⟨rfl,hu⟩;obtain rfl:u=u':=hu.symm;exact⟨rfl,Only.refl _ _⟩
 ·rintro _ w2 ⟨s2,rfl,UQ,_,O0,cR⟩;refine⟨s2,rfl,l,cR.blk hB PJ,⟨s2,rfl,?_⟩,(o1.mL (cR.mono (G:=fun k=>w.heap.size<=k) fun k _ e=>by have:=(Fi.blk e).1;dsimp only at this;omega)).only fun k hk=>hk⟩;have:(fT xs n xs.length).filter (fun x=>!!(Bq (kd xs x)))=dz xs n:=by
   unfold dz;congr 1;funext k;rw[KF]
  rw[this]at O0;exact Own.low O0 (by omega)
end
def Po(xs:List cN)(n:Int):Bool:=decide (n>=0)&&decide (n<(xs.length:Int))&&(kd xs n==1)&&((dz xs n.toNat).length==0)
theorem aaW(xs:List cN)(act:List Int):Ht (act.filter (Po xs))=Ie xs act:=by
 refine qc (Oq _) (Hq _ _) fun x=>?_;unfold Ie;rw[Hu,ra,ft];unfold Po lvP;constructor
 ·rintro⟨h1,h2⟩;simp only[aQ,bM]at h2;obtain⟨k,rfl⟩:∃k:Nat,x=k:=⟨x.toNat,by omega⟩
  rw[aY]at h2;exact⟨k,rfl,by omega,by simp only[aQ,bM];exact⟨⟨h1,h2.1.2⟩,h2.2⟩⟩
 ·rintro⟨k,rfl,h1,h2⟩;simp only[aQ,bM]at h2;refine⟨h2.1.1,?_⟩;rw[aY];simp only[aQ,bM];exact⟨⟨⟨by omega,by omega⟩,h2.1.2⟩,h2.2⟩
theorem MV{xs:List cN}(hF:Fo xs):∀(n:Nat) {p:Int} {l:List Int},p<n->Ups xs p l->l.length<=n
 | 0,p,l,hp,h=>by
  cases h with
  | stop=>exact aX _
  | go h1 h2=>omega
 | n+1,p,l,hp,h=>by
  cases h with
  | stop=>exact bh _
  | go h1 h2=>
   have:=hF.uy h1;have:=MV hF n (p:=_) (by omega) h2;rw[bf];omega
section
variable {w:av} {F G:aJ} {l sa:Sl} {xs:List cN} {act:List Int}
theorem Sv(h:aA pb 5 w F l xs)(hF:Sd xs)(n:Int):az aq 95 #[l.v,O U n] w fun e w'=>e=ak (aj (Po xs n))/\ay [] w w':=by
 refine ret (amk _ _ _ _ ?_);have hl:=h.len;obtain⟨ad,k,a1,a2,a3⟩:∃(ad:Addr) (k:Int),((decide (n>=0)&&decide (n<(l.n:Int)))=true->cW l n 5 ad)/\((decide (n>=0)&&decide (n<(l.n:Int)))=true->aB w (ad.add 0) [O U k])/\((decide (n>=0)&&decide (n<(l.n:Int)))=true->kd xs n=k/\∃s,xs[n.toNat]? =some s):=by
  by_cases hb:0<=n/\n<xs.length
  ·obtain⟨m,rfl⟩:∃m:Nat,n=m:=⟨n.toNat,by omega⟩
   obtain⟨y,hy⟩:=gV (xs:=xs) (i:=m) (by omega);obtain⟨ad,a1,a2,_⟩:=kH h hy;exact⟨ad,y.k,fun _=>a1,fun _=>a2.dQ 0 _ rfl,fun _=>⟨ux hy,y,by rw[aY];exact hy⟩⟩
  ·have hf:(decide (n>=0)&&decide (n<(l.n:Int)))=true->False:=fun hh=>by
    rw[aQ]at hh;have h1:=aO hh.1;have h2:=aO hh.2;omega
   exact⟨default,0,fun hh=>(hf hh).elim,fun hh=>(hf hh).elim,fun hh=>(hf hh).elim⟩
 refine⟨fun b u=>b=Po xs n/\ay [] w u,fun b u hh=>⟨by rw[hh.1],hh.2⟩,ad,a1,k,a2,fun hb=>?_,fun hb=>⟨?_,Only.refl _ _⟩⟩
 ·rw[aQ]at hb;obtain⟨e1,s,hs⟩:=a3 hb.1;rw[aQ]at hb;have h1:=aO hb.1.1;have h2:=aO hb.1.2;obtain⟨m,rfl⟩:∃m:Nat,n=m:=⟨n.toNat,by omega⟩
  rw[aY]at hs;refine(xw h hF hs).mono ?_;rintro _ w1 ⟨⟨s1,rfl,Fi⟩,cr⟩;refine⟨s1,rfl,?_,cr⟩;unfold Po;rw[hl]at hb;rw[hb.1.1,hb.1.2,e1,hb.2,Fi.len,aY,cO,cO,cO,bX,ey,ey];omega
 ·unfold Po;rw[hl]at hb a3;cases hc:decide (n>=0)&&decide (n<(xs.length:Int))with
  | false=>rfl
  | true=>
   rw[hc]at hb;rw[(a3 hc).1,hb,dU]
theorem Sw(h:aA pb 5 w F l xs)(hF:Sd xs)(ha:aA fz 1 w G sa act)(hm:act.length<=1100000):az aq 54 #[l.v,sa.v] w fun e w'=>(∃(s:Sl),e=ak (Sl.v s)/\dc w.heap.size w' s (Ie xs act))/\ay [] w w':=by
 refine(amb l sa (fun v w'=>(∃(s:Sl),v=Sl.v s/\dc w.heap.size w' s (Ie xs act))/\ay [] w w') w ?_).mono (by rintro _ w' ⟨v,rfl,⟨s,rfl,h⟩,h'⟩;exact⟨⟨s,rfl,h⟩,h'⟩);intro k0 w0 gu fe cD;have z0:=cD.size;refine(Jy (kI ha cD) (by omega)).mono ?_;rintro _ w1 ⟨s1,rfl,Fi,cr⟩;have z1:=cr.size;have o1:=cD.cf cr;refine⟨s1,rfl,cr.same (by simp;omega),fun hB=>?_⟩;have h1:aA pb 5 w1 (fun k=>F k/\k<w.heap.size) l xs:=SliceF.only dk (by decide) (SliceF.inHeap dk h (by decide)) o1 (by simp);have rl:∀{k:Nat},s1.a=some ⟨k,0,none⟩->w0.heap.size<=k:=fun e=>(Fi.blk e).1;have PJ:s1.a≠some ⟨k0,0,none⟩:=fun e=>by have:=rl e;omega
 refine(yZ (f:=⟨.func (.func 94) #[] #[ae (some ⟨k0,0,none⟩)],rfl⟩) Fi (by omega) ⟨fu (by kernel_rfl),fun y hy u hO=>?_⟩ (p:=fun k=>!(Po xs k)) (cap:=[ae (some ⟨k0,0,none⟩)]) rfl).mono ?_
 ·have hu:=Yr h1 hO fun k hk _ e=>by have:=rl e;omega
  have hBu:=hO.blk hB PJ;refine(amj y ⟨k0,0,none⟩ (fun v w'=>v=aj (!(Po xs y))/\ay [] u w') u ?_).mono (by rintro _ w' ⟨v,rfl,rfl,h⟩;exact⟨rfl,h⟩);refine⟨l,hBu.cells 0 _ (by simp),(Sv hu hF y).mono ?_⟩;rintro _ u' ⟨rfl,Db⟩;exact⟨_,rfl,rfl,Db⟩
 ·rintro _ w2 ⟨s2,rfl,UQ,_,O0,cR⟩;have e2:act.filter (fun x=>!!(Po xs x))=act.filter (Po xs):=by
   congr 1;funext k;rw[KF]
  rw[e2]at O0;have po:=cR.blk hB PJ;have Pu:=da (Po xs) act;refine⟨s2,rfl,l,po,(Se O0 (by omega)).mono ?_⟩;rintro _ w3 ⟨s3,rfl,hsb,Fj,de⟩;rw[aaW]at Fj;refine⟨s3,rfl,l,de.blk po (by rw[UQ];exact PJ),⟨s3,rfl,Own.low Fj z0⟩,?_⟩;have o2:aD (fun k=>w.heap.size<=k) w w2:=o1.mL (cR.mono fun k _ e=>by have:=rl e;omega);exact(o2.trans (de.mono (G:=fun k=>w.heap.size<=k) fun k _ e=>by rw[UQ]at e;have:=rl e;omega) fun k hk=>.inl hk).only fun k hk=>hk
end
structure Cb (w:av) (c:Nat) (F G H:aJ) (s si sd sr sa sm:Sl) (p:Pl) (act:List Int) (may:List Bool):Prop where
 blk:aF w c 119 [s.v,si.v,sd.v,sr.v,sa.v,sm.v]
 pl:PlR w F s si sd sr p
 act:aA fz 1 w G sa act
 may:aA rBool 1 w H sm may
section
variable {w w':av} {F G H:aJ} {s si sd sr sa sm:Sl} {p:Pl} {act:List Int} {may:List Bool} {c:Nat}
theorem Cb.o0(h:Cb w c F G H s si sd sr sa sm p act may)(hO:ay [] w w'):Cb w' c F G H s si sd sr sa sm p act may:=
 ⟨hO.blk h.blk (by simp),h.pl.o0 hO,kI h.act hO,SliceF.only jC (by decide) h.may hO (by simp)⟩
theorem Ey(h:aA rBool 1 w H sm may){i:Nat}{b:Bool}(hx:may[i]? =some b):∃ad,cW sm (i:Int) 1 ad/\aB w ad [aj b]:=by
 have bS:=(aV.1 hx).1;have hl:=h.len;obtain⟨ad,y,cs,g1,g2,g3,g4,g5,g6⟩:=h.get (bA i) (by omega);rw[aY,hx]at g2;injection g2 with g2;subst g2;unfold rBool at g6;subst g6;exact⟨ad,g1,g5⟩
theorem Sy{k2:Nat}{ro:List Ro}(h:aA Yn 7 w F sr ro){n:Int}(hB:aF w k2 3 [O U n]):az aq 97 #[sr.v,.func (.func 98) #[] #[ae (some ⟨k2,0,none⟩)]] w fun e w'=>
  (∃i:Int,e=ak (O U i)/\((i= -1/\∀r,r∈ro->r.src≠n)∨∃(k:Nat) (r:Ro),i=k/\ro[k]? =some r/\r.src=n/\∀j,j<k->∀r,ro[j]? =some r->r.src≠n))/\ay [] w w':=by
 refine(afY sr ⟨.func (.func 98) #[] #[ae (some ⟨k2,0,none⟩)],rfl⟩ (fun v w'=>(∃i:Int,v=O U i/\((i= -1/\∀r,r∈ro->r.src≠n)∨∃(k:Nat) (r:Ro),i=k/\ro[k]? =some r/\r.src=n/\∀j,j<k->∀r,ro[j]? =some r->r.src≠n))/\ay [] w w') w ?_).mono (by rintro _ w' ⟨v,rfl,⟨i,rfl,h⟩,h'⟩;exact⟨⟨i,rfl,h⟩,h'⟩);have hl:=h.len;have hcp:=h.cap;have Ts:=h.big;refine⟨fun kv i u=>∃j:Nat,i=(j:Int)/\kv+j=ro.length/\j<=ro.length/\(∀m,m<j->∀r,ro[m]? =some r->r.src≠n)/\ay [] w u,ro.length,⟨0,rfl,by omega,bh _,fun m hm=>by omega,Only.refl _ _⟩,?_⟩;rintro kv _ u ⟨j,rfl,tY,hj,hh,hO⟩;refine⟨fun hc=>?_,fun hc=>?_⟩
 ·have hc:=aO hc;obtain⟨r,hr⟩:∃r,ro[j]? =some r:=⟨_,aW (by omega)⟩
  obtain⟨ad,tg,a1,a2,a3⟩:=xZ (SliceF.only gC (by decide) h hO (by simp)) hr;refine⟨ad,a1,_,_,_,_,_,tg,_,a2,98,[],[ae (some ⟨k2,0,none⟩)],rfl,fu (by kernel_rfl),?_⟩;refine(v8w r.src r.slot r.k (T r.ev) r.wt tg r.dom ⟨k2,0,none⟩ (fun v w'=>v=aj (decide (r.src=n))/\ay [] u w') u ?_).mono ?_
  ·intro k0 w0 _ _ cD;refine⟨n,((hO.cf cD).blk hB (by simp)).cells 0 _ (by simp),?_,cD⟩;congr 1
  ·rintro _ u' ⟨v,rfl,rfl,Db⟩;refine⟨_,rfl,fun hb=>⟨⟨_,rfl,.inr ⟨j,r,rfl,hr,aO hb,hh⟩⟩,hO.cf Db⟩,fun hb=>⟨kv-1,by omega,j+1,by rw[fR (by omega) (by omega)];rfl,by omega,by omega,fun m hm r' UO=>?_,hO.cf Db⟩⟩;by_cases e:m=j
   ·subst e;rw[hr,aZ]at UO;subst UO;exact aR hb
   ·exact hh m (by omega) r' UO
 ·have hc:=aR hc;refine⟨⟨_,rfl,.inl ⟨rfl,fun r hr=>?_⟩⟩,hO⟩;obtain⟨m,hm⟩:=List.mem_iff_getElem?.1 hr;exact hh m (by have:=(aV.1 hm).1;omega) r hm
theorem Sz(h:Cb w c F G H s si sd sr sa sm p act may)(tZ:Fo p.sp){i j:Nat}{ri rj:Ro}(hi:p.ro[i]? =some ri)(hj:p.ro[j]? =some rj):az aq 60 #[ae (some ⟨c,0,none⟩),O U (i:Int),O U (j:Int)] w fun e w'=>e=ak (aj (pd p.sp p.ro i j))/\ay [] w w':=by
 refine ret (amc _ _ _ _ _ ?_);intro w0 cD;have h0:=h.o0 cD;obtain⟨ad,tg,a1,a2,_⟩:=xZ h0.pl.ro hi;obtain⟨EZ,tg',b1,b2,_⟩:=xZ h0.pl.ro hj;refine⟨s,Blk.dQ h0.blk 0 rfl,sr,Blk.dQ h0.blk 3 rfl,ad,a1,ri.src,a2.dQ 0 _ rfl,sr,Blk.dQ h0.blk 3 rfl,EZ,b1,rj.src,b2.dQ 0 _ rfl,(xp h0.pl.sp tZ ri.src rj.src).mono ?_⟩;rintro _ u ⟨rfl,hu⟩;obtain rfl:w0=u:=hu.symm;refine⟨_,rfl,?_,cD⟩;rw[Si];unfold pd Sh;rw[aY,aY,hi,hj]
theorem Wr(h:Cb w c F G H s si sd sr sa sm p act may)(tZ:Fo p.sp)(yH:p.sp.length<=64)(hs:p.ro.Pairwise fun r s=>r.src<=s.src){x:Nat}(hx:x<p.sp.length):az aq 55 #[ae (some ⟨c,0,none⟩),O U (x:Int)] w fun e w'=>e=ak (O U (jF p.sp p.ro may x))/\ay [] w w':=by
 refine ret (v9w _ _ _ _ ?_);obtain⟨y,w0,k1,k3,k2⟩:=R6 w (a:=(x:Int)) ⟨by omega,by omega⟩;have z0:=k3.size;have h0:=h.o0 k3;obtain⟨t,ht⟩:=gV hx;refine⟨y,w0,k1,s,Blk.dQ h0.blk 0 rfl,(amG h0.pl.sp tZ x (by omega)).mono ?_⟩;rintro _ w1 ⟨⟨q,is,rfl,hq,_,hu⟩,cr⟩;have z1:=cr.size;have hU:=hu x t rfl ht;have hul:=MV tZ x (tZ.uy ht) hU;have Kh:dc w.heap.size w1 y [(x:Int)]:=k2.keep bN fun k _ bS=>cr.block k bS (by simp);obtain⟨q2,w2,g1,g2,g3,_⟩:=R7 Kh (by omega) (hq.slice bN) (fun k hk e=>by
  have h1:=(hk.resolve_left id).1;have h2:=(k2.blk e).2;dsimp only at h2;omega) (by rw[bG];omega)
 have o2:ay [] w w2:=((k3.cf cr).mL (g3.mono (G:=fun k=>w.heap.size<=k) fun k _ e=>(k2.blk e).1)).only fun k hk=>hk;have eL:[(x:Int)]++is=uU p.sp (p.sp.length+1) x:=by
  rw[uU,if_neg (by omega),li ht];exact bI _ (hU.eq _ (by omega))
 rw[eL]at g2;refine⟨q,rfl,q2,w2,g1,?_⟩;have hL:=g2.slice bN;generalize hLd:uU p.sp (p.sp.length+1) (x:Int)=L at*
 have KA:=hL.len;have hlc:=hL.cap;have hlb:=hL.big;have aiw:jF p.sp p.ro may x=match L.findSome? (nH p.ro may)with
  | some k=>(k:Int)
  | none=> -1:=by unfold jF;rw[hLd];try rfl
 refine⟨fun kv i u=>∃j:Nat,i=(j:Int)/\kv+j=L.length/\j<=L.length/\(∀n,n∈L.take j->nH p.ro may n=none)/\ay [] w2 u,L.length,⟨0,rfl,by omega,bh _,by simp,Only.refl _ _⟩,?_⟩;rintro kv _ w3 ⟨j,rfl,tY,hj,hh,de⟩;refine⟨fun hc=>?_,fun hc=>?_⟩
 ·have hc:=aO hc;have j8:j<L.length:=by omega
  obtain⟨ad,a1,a2⟩:=gW (kI hL de) (aW j8);have nt:L.take (j+1)=L.take j++[L[j]]:=by rw[bJ,aW j8];rfl
  refine⟨ad,a1,_,a2,fun k5 w4 C7 H2 dL=>?_⟩;have o4:=de.cf dL;have h4:=(h.o0 o2).o0 o4;have hrn:=h4.pl.ro.len;have hrc:=h4.pl.ro.cap;have hrb:=h4.pl.ro.big;have hmn:=h4.may.len;refine⟨sr,Blk.dQ h4.blk 3 rfl,fun uh=>(Sy h4.pl.ro uh).mono ?_⟩;rintro _ w5 ⟨⟨i,rfl,hi⟩,eP⟩;have o5:=o4.cf eP;have next:∀{u:av},ay [] w2 u->nH p.ro may L[j]=none->∃n,n<kv/\∃j':Nat,ar U ((j:Int)+1)=(j':Int)/\n+j'=L.length/\j'<=L.length/\(∀n,n∈L.take j'->nH p.ro may n=none)/\ay [] w2 u:=fun hO hr=>⟨kv-1,by omega,j+1,by rw[fR (by omega) (by omega)];rfl,by omega,by omega,fun n hn=>by
   rw[nt,bR,aN]at hn;rcases hn with hn | rfl
   ·exact hh n hn
   ·exact hr,hO⟩
  refine⟨i,rfl,L[j],eP.blk uh (by simp),fun T0 i u=>((i= -1/\∀r,r∈p.ro->r.src≠L[j])∨∃(k0 k:Nat) (r:Ro),i=(k:Int)/\k0<=k/\T0+k=p.ro.length/\p.ro[k0]? =some r/\r.src=L[j]/\(∀j',j'<k0->∀r,p.ro[j']? =some r->r.src≠L[j])/\∀j',k0<=j'->j'<k->may[j']? ≠some true)/\ay [] w2 u/\aF u k5 3 [O U L[j]],(match i with | .ofNat m=>p.ro.length-m | _=>0),⟨?_,o5,eP.blk uh (by simp)⟩,?_⟩
  ·rcases hi with⟨rfl,hi⟩ | ⟨k,r,rfl,h1,h2,h3⟩
   ·exact .inl ⟨rfl,hi⟩
   ·have:=(aV.1 h1).1;exact .inr ⟨k,k,r,rfl,aX _,by show p.ro.length-k+k=_;omega,h1,h2,h3,fun j' a b=>by omega⟩
  rintro T0 i2 w6 ⟨hI,o6,Tx⟩;have h6:=(h.o0 o2).o0 o6;rcases hI with⟨rfl,hI⟩ | ⟨k0,k,r0,rfl,gu,OZ,Xm,yh,hf,hm⟩
  ·refine⟨Sl.nil,fun h=>(by cases h),Sl.nil,fun h=>(by cases h),Sl.nil,fun h=>(by cases h),⟨0,0,none⟩,fun h=>(by cases h),0,fun h=>(by cases h),fun h=>(by cases h),fun _ w8 fy _=>next (o6.cf fy) (Ss hI)⟩
  ·have ek:decide ((k:Int)>=0)=true:=bL (by omega);have aiy:(if(sm.n:Int)<(sr.n:Int)then(sm.n:Int)else(sr.n:Int))=((min p.ro.length may.length:Nat):Int):=by
    split<;>omega
   by_cases bS:k<min p.ro.length may.length
   ·obtain⟨r,hr⟩:∃r,p.ro[k]? =some r:=⟨_,aW (by omega)⟩
    obtain⟨mb,hmb⟩:∃mb,may[k]? =some mb:=⟨_,aW (by omega)⟩
    obtain⟨ve,tg,b1,b2,_⟩:=xZ h6.pl.ro hr;refine⟨sr,fun _=>Blk.dQ h6.blk 3 rfl,sm,fun _=>Blk.dQ h6.blk 5 rfl,sr,fun _=>Blk.dQ h6.blk 3 rfl,ve,fun _=>b1,r.src,fun _=>b2.dQ 0 _ rfl,fun KB w7 fE hB7=>?_,fun KB w8 fy _=>next (o6.cf fy) ?_⟩
    ·have h7:=h6.o0 fE;rw[aQ]at KB;have apB:r.src=L[j]:=by simpa using KB.2
     obtain⟨Iv,d1,d2⟩:=Ey h7.may hmb;refine⟨sm,Blk.dQ h7.blk 5 rfl,Iv,d1,mb,d2,fun hb=>⟨?_,o2.cf (o6.cf fE)⟩,fun hb=>⟨T0-1,by omega,.inr ⟨k0,k+1,r0,by rw[fR (by omega) (by omega)];rfl,by omega,by omega,Xm,yh,hf,fun j' a b=>?_⟩,o6.cf fE,hB7⟩⟩
     ·subst hb;have tf:=Wp hf hm hr apB hmb;rw[aiw];have:L.findSome? (nH p.ro may)=some k:=by
       rw[<-cZ j L,List.findSome?_append];have e1:(L.take j).findSome? (nH p.ro may)=none:=by
        rw[lA];exact hh
       rw[e1,dW j8,List.findSome?_cons,tf];rfl
      rw[this]
     ·by_cases e:j'=k
      ·rw[e,hmb,hb];intro h;cases h
      ·exact hm j' a (by omega)
    ·refine MU hs Xm yh hf gu hm (.inr (.inr ⟨r,hr,fun e=>?_⟩));rw[ek,aiy,cO,bL (by omega:(k:Int)<((min p.ro.length may.length:Nat):Int)),cO,e]at KB;simp at KB
   ·have ef:((decide ((k:Int)>=0))&&(decide ((k:Int)<(if(sm.n:Int)<(sr.n:Int)then(sm.n:Int)else(sr.n:Int)))))=false:=by
     rw[aiy,bC (by omega:¬(k:Int)<((min p.ro.length may.length:Nat):Int)),Bool.and_false]
    have no:∀{q:Prop},((decide ((k:Int)>=0))&&(decide ((k:Int)<(if(sm.n:Int)<(sr.n:Int)then(sm.n:Int)else(sr.n:Int)))))=true->q:=fun h=>by rw[ef]at h;cases h
    refine⟨sr,fun _=>Blk.dQ h6.blk 3 rfl,sm,fun _=>Blk.dQ h6.blk 5 rfl,Sl.nil,fun h=>no h,⟨0,0,none⟩,fun h=>no h,0,fun h=>no h,fun KB=>?_,fun KB w8 fy _=>next (o6.cf fy) (MU hs Xm yh hf gu hm (by omega))⟩;rw[ef,dU]at KB;cases KB
 ·have hc:=aR hc;rw[bq (by omega)]at hh;refine⟨?_,o2.cf de⟩;have:L.findSome? (nH p.ro may)=none:=by
   rw[lA];exact hh
  rw[aiw,this]
end
section
variable {w u:av} {F G H:aJ} {s si sd sr sa sm:Sl} {p:Pl} {act:List Int} {may:List Bool} {k0 k1 k2 k3 k7 k8:Nat} {t0 t1 t3 t7 t8:TypeId} {k o:Int}
theorem CV(b0:aF u k0 t0 [s.v,si.v,sd.v,sr.v])(b1:aF u k1 t1 [sa.v])(b7:aF u k7 t7 [O U k])(hP:PlR u F s si sd sr p)(tZ:Fo p.sp)(ha:aA fz 1 u G sa act)(hm:act.length<=2000000):
  az aq 57 #[O U o,ae (some ⟨k0,0,none⟩),ae (some ⟨k1,0,none⟩),ae (some ⟨k7,0,none⟩)] u fun e u'=>e=ak (aj (ga p.sp p.ro act k o))/\ay [] u u':=by
 refine ret (v3w _ _ _ _ _ _ ?_);refine⟨s,si,sd,sr,b0.cells 0 _ (by simp),sa,b1.cells 0 _ (by simp),k,b7.cells 0 _ (by simp),(MM hP tZ ha hm k o).mono ?_⟩;rintro _ u' ⟨rfl,hO⟩;exact⟨_,rfl,rfl,hO⟩
theorem Ow(b0:aF u k0 t0 [s.v,si.v,sd.v,sr.v])(b1:aF u k1 t1 [sa.v])(b7:aF u k7 t7 [O U k])(b3:aF u k3 t3 [ae (some ⟨k2,0,none⟩)])(b8:aF u k8 t8 [.func (.func 57) #[] #[ae (some ⟨k0,0,none⟩),ae (some ⟨k1,0,none⟩),ae (some ⟨k7,0,none⟩)]])
  (hC:Cb u k2 F G H s si sd sr sa sm p act may) (tZ:Fo p.sp) (hm:act.length<=2000000) {i j:Nat} {ri rj:Ro} (hk:k=i) (ho:o=j) (hi:p.ro[i]? =some ri) (hj:p.ro[j]? =some rj):
  az aq 59 #[O U o,ae (some ⟨k8,0,none⟩),ae (some ⟨k3,0,none⟩),ae (some ⟨k7,0,none⟩)] u fun e u'=>e=ak (aj (ga p.sp p.ro act k o&&!pd p.sp p.ro k o))/\ay [] u u':=by
 refine ret (v4w _ _ _ _ _ _ ?_);refine⟨fun b u'=>b=(ga p.sp p.ro act k o&&!pd p.sp p.ro k o)/\ay [] u u',?_,⟨.func (.func 57) #[] #[ae (some ⟨k0,0,none⟩),ae (some ⟨k1,0,none⟩),ae (some ⟨k7,0,none⟩)],rfl⟩,b8.cells 0 _ (by simp),57,[],[ae (some ⟨k0,0,none⟩),ae (some ⟨k1,0,none⟩),ae (some ⟨k7,0,none⟩)],rfl,fu (by kernel_rfl),(CV b0 b1 b7 hC.pl tZ hC.act hm).mono ?_⟩
 ·rintro b u' ⟨rfl,h⟩;exact⟨rfl,h⟩
 ·rintro _ u' ⟨rfl,hO⟩;refine⟨_,rfl,fun hc=>?_,fun hc=>⟨by rw[hc,dU],hO⟩⟩;subst hk ho;refine⟨_,(hO.blk b3 (by simp)).cells 0 _ (by simp),_,(hO.blk b7 (by simp)).cells 0 _ (by simp),(Sz (hC.o0 hO) tZ hi hj).mono ?_⟩;rintro _ u2 ⟨rfl,cR⟩;exact⟨_,rfl,by rw[hc,cO],hO.cf cR⟩
end
theorem PlR.kp{w w':av}{F:aJ}{s si sd sr:Sl}{p:Pl}(h:PlR w F s si sd sr p)(hk:∀k,F k->k<w.heap.size->w'.heap[k]? =w.heap[k]?):PlR w' F s si sd sr p:=
 ⟨h.sp.keep dk (by decide) hk,h.ini.keep bN (by decide) hk,h.dft.keep bN (by decide) hk,h.ro.keep gC (by decide) hk⟩
theorem PlR.inH{w:av}{F:aJ}{s si sd sr:Sl}{p:Pl}(h:PlR w F s si sd sr p):PlR w (fun k=>F k/\k<w.heap.size) s si sd sr p:=
 ⟨h.sp.inHeap dk (by decide),h.ini.inHeap bN (by decide),h.dft.inHeap bN (by decide),h.ro.inHeap gC (by decide)⟩
theorem Ws{xs:List cN}{ro:List Ro}{may:List Bool}{leaf:Int}(h:0<=jF xs ro may leaf):∃(k:Nat) (r:Ro),jF xs ro may leaf=k/\ro[k]? =some r:=by
 unfold jF at h⊢;cases hf:(uU xs (xs.length+1) leaf).findSome? (nH ro may)with
 | none=>rw[hf]at h;exact absurd h (by decide)
 | some k=>
  obtain⟨n,hn,hk⟩:=Iw hf;obtain⟨r,h1,_⟩:=CO hk;exact⟨k,r,rfl,h1⟩
structure Asked (ro:List Ro) (st:List Int×List Int):Prop where
 a:∀x,x∈st.1->∃(n:Nat) (r:Ro),x=n/\ro[n]? =some r
 b:∀x,x∈st.2->x∈st.1
 c:st.1.Nodup
 d:st.2.length<=st.1.length
theorem Asked.len{ro:List Ro}{st:List Int×List Int}(h:Asked ro st):st.1.length<=ro.length:=by
 have:=h.c.length_le_of_subset (l₂:=(List.range ro.length).map fun n:Nat=>(n:Int)) fun x hx=>by
  obtain⟨n,r,e,hn⟩:=h.a x hx;exact eE.2 ⟨n,fG.2 (aV.1 hn).1,e.symm⟩
 rwa[bm,gZ]at this
section
variable {w:av} {F G H:aJ} {s si sd sr sa sm:Sl} {p:Pl} {act:List Int} {may:List Bool}
theorem MW(hP:PlR w F s si sd sr p)(hS:Sd p.sp)(yH:p.sp.length<=64)(hs:p.ro.Pairwise fun r s=>r.src<=s.src)(Zc:p.ro.length<=1900000)(ha:aA fz 1 w G sa act)(hm:act.length<=1000000)(hM:aA rBool 1 w H sm may):
  az aq 25 #[ah #[s.v,si.v,sd.v,sr.v],sa.v,sm.v] w fun e w'=>(∃t:Sl,e=ak t.v/\dc w.heap.size w' t (fP p.sp p.ro act may))/\ay [] w w':=by
 have tZ:=hS.fo;refine(v5w s si sd sr sa sm (fun v w'=>(∃t:Sl,v=t.v/\dc w.heap.size w' t (fP p.sp p.ro act may))/\ay [] w w') w ?_).mono (by rintro _ w' ⟨v,rfl,⟨t,rfl,h⟩,h'⟩;exact⟨⟨t,rfl,h⟩,h'⟩);intro k0 k1 k2 k3 w0 gu fe j5 iX rm rn wG rL cD;have z0:=cD.size;refine(Sw (xs:=p.sp) (SliceF.only dk (by decide) hP.sp cD (by simp)) hS (kI ha cD) (by omega)).mono ?_;rintro _ w1 ⟨⟨l0,rfl,hL⟩,cr⟩;have z1:=cr.size;have hLs:=hL.slice bN;have KA:=hLs.len;have hll:(Ie p.sp act).length<=p.sp.length:=Em _ _;generalize hLv:Ie p.sp act=L at*
 have hLm:∀x,x∈L->∃n:Nat,x=n/\n<p.sp.length:=fun x hx=>by
  rw[<-hLv]at hx;obtain⟨n,e,h,_⟩:=ra.1 hx;exact⟨n,e,h⟩
 refine⟨l0,rfl,cr.same (by simp;omega),fun kv l1 l2 i a1 a2 a3 a4 a5 q b1 b2 b3 b4 b5 b6 v=>∃(j:Nat) (st:List Int×List Int),i=(j:Int)/\kv+j=L.length/\j<=L.length/\st=(L.take j).foldl (oz p.sp p.ro act may) ([],[])/\Asked p.ro st/\dc w1.heap.size v l1 st.1/\dc w1.heap.size v l2 st.2/\(∀k,ez l1 k->¬ez l2 k)/\(a1=s/\a2=si/\a3=sd/\a4=sr/\a5=sa/\q=some ⟨k2,0,none⟩/\b1=s/\b2=si/\b3=sd/\b4=sr/\b5=sa/\b6=sm)/\ay [] w1 v,L.length,⟨0,([],[]),rfl,by omega,bh _,rfl,⟨fun _ h=>(by cases h),fun _ h=>(by cases h),List.nodup_nil,aX _⟩,Own.nil _ _ _ _ _ _,Own.nil _ _ _ _ _ _,fun k h=>(by cases h),⟨rfl,rfl,rfl,rfl,rfl,rfl,rfl,rfl,rfl,rfl,rfl,rfl⟩,Only.refl _ _⟩,?_⟩;rintro kv l1 l2 _ a1 a2 a3 a4 a5 q0 c1 c2 c3 c4 c5 c6 w2 ⟨j,st,rfl,tY,hj,ph,hA,WO,Ka,Ii,⟨e1,e2,e3,e4,e5,e6,e7,e8,e9,e10,e11,e12⟩,cR⟩;subst a1 a2 a3 a4 a5 q0 c1 c2 c3 c4 c5 c6;have z2:=cR.size;refine⟨fun hc po n02 n12 n32=>?_,fun hc po n02 n12 n32=>?_⟩
 ·have hc:=aO hc;have j8:j<L.length:=by omega
  have nt:L.take (j+1)=L.take j++[L[j]]:=by rw[bJ,aW j8];rfl
  obtain⟨x,hx,apC⟩:=hLm _ (dZ j8);refine⟨fun l1 l2 a1 a2 a3 a4 a5 q b1 b2 b3 b4 b5 b6 v=>∃cE:List Int×List Int,cE=oz p.sp p.ro act may st L[j]/\Asked p.ro cE/\dc w1.heap.size v l1 cE.1/\dc w1.heap.size v l2 cE.2/\(∀k,ez l1 k->¬ez l2 k)/\(a1=s/\a2=si/\a3=sd/\a4=sr/\a5=sa/\q=some ⟨k2,0,none⟩/\b1=s/\b2=si/\b3=sd/\b4=sr/\b5=sa/\b6=sm)/\ay [] w1 v,?_,?_⟩
  ·rintro m1 m2 a1 a2 a3 a4 a5 q b1 b2 b3 b4 b5 b6 v ⟨cE,h1,h2,h3,h4,h5,h6,h7⟩;refine⟨kv-1,by omega,j+1,cE,by rw[fR (by omega) (by omega)];rfl,by omega,by omega,?_,h2,h3,h4,h5,h6,h7⟩;rw[h1,nt,vC,<-ph];rfl
  obtain⟨ad,d1,d2⟩:=gW (kI hLs cR) (aW j8);have o2:ay [] w w2:=(cD.cf cr).cf cR;have hC2:Cb w2 k2 F G H s si sd sr sa sm p act may:=⟨po,hP.o0 o2,kI ha o2,SliceF.only jC (by decide) hM o2 (by simp)⟩
  rw[hx]at d2;refine⟨ad,d1,_,d2,(Wr hC2 tZ yH hs apC).mono ?_⟩;rintro _ w4 ⟨rfl,dL⟩;have z4:=dL.size;refine⟨_,rfl,dL.same (by simp;omega),s,si,sd,sr,sa,sm,(hC2.o0 dL).blk,fun k7 w5 hk7 Xd eP u7=>?_⟩;have z5:=eP.size;have o5:=dL.cf eP;have p5:=cR.cf o5;rw[<-hx];obtain⟨kk,Fe⟩:∃kk,kk=jF p.sp p.ro may L[j]:=⟨_,rfl⟩
  rw[<-Fe];have ch1:oz p.sp p.ro act may st L[j]=if kk<0∨kk∈st.1 then st else(st.1++[kk],if(st.2.any fun o=>ga p.sp p.ro act kk o&&!pd p.sp p.ro kk o)=true then st.2 else(st.2.filter fun o=>!ga p.sp p.ro act kk o)++[kk]):=by
   rw[Fe];rfl
  refine⟨fun b a1 a2 a3 a4 a5 q i b1 b2 b3 b4 b5 b6 v=>b=decide (kk<0∨kk∈st.1)/\(a1=s/\a2=si/\a3=sd/\a4=sr/\a5=sa/\q=some ⟨k2,0,none⟩/\b1=s/\b2=si/\b3=sd/\b4=sr/\b5=sa/\b6=sm)/\i=kk/\ay [] w5 v,?_,fun hn=>⟨(bL (.inl (aO hn))).symm,⟨rfl,rfl,rfl,rfl,rfl,rfl,rfl,rfl,rfl,rfl,rfl,rfl⟩,rfl,Only.refl _ _⟩,fun hn=>?_⟩;rotate_left
  ·refine(sV ((WO.keep bN fun k _ bS=>o5.block k bS (by simp)).slice bN) kk).mono ?_;rintro _ jA ⟨rfl,j6⟩;have hn:=aR hn;refine⟨_,rfl,j6.same (by simp;omega),s,si,sd,sr,sa,sm,j6.blk u7 (by simp),?_,⟨rfl,rfl,rfl,rfl,rfl,rfl,rfl,rfl,rfl,rfl,rfl,rfl⟩,rfl,j6⟩;rw[iP];exact⟨.inr,fun h=>h.resolve_left hn⟩
  rintro b a1 a2 a3 a4 a5 q i b1 b2 b3 b4 b5 b6 w6 ⟨rfl,⟨e1,e2,e3,e4,e5,e6,e7,e8,e9,e10,e11,e12⟩,ei,eB⟩;subst a1 a2 a3 a4 a5 q b1 b2 b3 b4 b5 b6 i;have z6:=eB.size;have o6:=o5.cf eB;have p6:=p5.cf eB;have m1:dc w1.heap.size w6 l1 st.1:=WO.keep bN fun k _ bS=>o6.block k bS (by simp);have m2:dc w1.heap.size w6 l2 st.2:=Ka.keep bN fun k _ bS=>o6.block k bS (by simp);have g1:∀k,ez l1 k->w1.heap.size<=k/\k<w2.heap.size:=fun k e=>WO.blk e;have g2:∀k,ez l2 k->w1.heap.size<=k/\k<w2.heap.size:=fun k e=>Ka.blk e;refine⟨fun hb=>?_,fun hb=>?_⟩
  ·have hb:=aO hb;exact⟨st,by rw[ch1,if_pos hb],hA,m1,m2,Ii,⟨rfl,rfl,rfl,rfl,rfl,rfl,rfl,rfl,rfl,rfl,rfl,rfl⟩,p6⟩
  have hb:=aR hb;rw[if_neg hb]at ch1;have gu:0<=kk:=Int.not_lt.1 fun h=>hb (.inl h);obtain⟨kn,rk,hkn,hrk⟩:=Ws (xs:=p.sp) (ro:=p.ro) (may:=may) (leaf:=L[j]) (by rw[<-Fe];exact gu);rw[<-Fe]at hkn;have aw1:=(aV.1 hrk).1;have hAl:=hA.len;have aw2:=hA.d;have W4:Asked p.ro (st.1++[kk],if(st.2.any fun o=>ga p.sp p.ro act kk o&&!pd p.sp p.ro kk o)=true then st.2 else(st.2.filter fun o=>!ga p.sp p.ro act kk o)++[kk]):=by
   refine⟨fun x hx=>?_,fun x hx=>?_,?_,?_⟩
   ·rcases bR.1 hx with hx | hx
    ·exact hA.a x hx
    ·exact⟨kn,rk,by rw[aN.1 hx];exact hkn,hrk⟩
   ·dsimp only at hx⊢;split at hx
    ·exact bR.2 (.inl (hA.b x hx))
    ·rcases bR.1 hx with hx | hx
     ·exact bR.2 (.inl (hA.b x (ft.1 hx).1))
     ·exact bR.2 (.inr hx)
   ·rw[List.nodup_append];refine⟨hA.c,xK _ _,fun a ha b j9=>?_⟩;rw[aN.1 j9];exact fun e=>hb (.inr (by rw[<-e];exact ha))
   ·dsimp only;rw[aP,bG];split
    ·omega
    ·rw[aP,bG];have:=da (fun o=>!ga p.sp p.ro act kk o) st.2;omega
  obtain⟨y,w7,r1,r2,t1,w8,r3,r4,r5,r6⟩:=R8 m1 (by omega) (n:=kk) ⟨by omega,by omega⟩ (by omega);have z7:=r2.size;have z8:=r5.size;have acY:∀{u v:av} {P:aJ} {bs:List Nat},aD P u v->(∀k,P k->ez l1 k∨ez l2 k)->(∀k,k∈bs->k<u.heap.size/\(k<w1.heap.size∨w2.heap.size<=k))->bU bs u v:=fun hO hPp hbs=>hO.same fun x hx=>⟨(hbs x hx).1,fun e=>by
   rcases hPp x e with e | e
   ·have:=g1 x e;have:=(hbs x hx).2;omega
   ·have:=g2 x e;have:=(hbs x hx).2;omega⟩
  have t1g:∀k,ez t1 k->ez l1 k∨w6.heap.size<=k:=r6;have t1b:∀k,ez t1 k->k<w8.heap.size:=fun k e=>(r4.blk e).2;refine⟨y,w7,r1,r2.same (by simp;omega),t1,w8,r3,acY r5 (fun k e=>.inl e) (by simp;omega),fun k8 w9 hk8 Tt fQ yi zh ym hb3 Tr hb8=>?_⟩;have z9:=fQ.size;have p8:ay [] w1 w8:=((p6.cf r2).mL (r5.mono (G:=fun k=>w1.heap.size<=k) fun k _ e=>(g1 k e).1)).only fun k hk=>hk;have p9:=p8.cf fQ;have o9:ay [] w w9:=(cD.cf cr).cf p9;have n1:dc w1.heap.size w9 t1 (st.1++[kk]):=r4.keep bN fun k _ bS=>fQ.block k bS (by simp);have n2:dc w1.heap.size w9 l2 st.2:=((m2.keep bN fun k _ bS=>r2.block k bS (by simp)).keep bN fun k hk bS=>r5.block k bS fun e=>Ii k e (hk.resolve_left id).2).keep bN fun k _ bS=>fQ.block k bS (by simp);have KC:∀k,ez t1 k->¬ez l2 k:=fun k e e'=>by
   rcases t1g k e with h | h
   ·exact Ii k h e'
   ·have:=g2 k e';omega
  have hC9:Cb w9 k2 F G H s si sd sr sa sm p act may:=⟨ym,hP.o0 o9,kI ha o9,SliceF.only jC (by decide) hM o9 (by simp)⟩
  refine(ago (f:=⟨.func (.func 59) #[] #[ae (some ⟨k8,0,none⟩),ae (some ⟨k3,0,none⟩),ae (some ⟨k7,0,none⟩)],rfl⟩) (n2.slice bN) (by omega) ⟨fu (by kernel_rfl),fun o ho v hO=>?_⟩ (p:=fun o=>ga p.sp p.ro act kk o&&!pd p.sp p.ro kk o) (cap:=[ae (some ⟨k8,0,none⟩),ae (some ⟨k3,0,none⟩),ae (some ⟨k7,0,none⟩)]) rfl).mono ?_
  ·have Db:ay [] w9 v:=hO.only fun k h=>h.elim;obtain⟨on,rj,hoe,hrj⟩:=hA.a o (hA.b o ho);exact Ow (Db.blk yi (by simp)) (Db.blk zh (by simp)) (Db.blk Tr (by simp)) (Db.blk hb3 (by simp)) (Db.blk hb8 (by simp)) (hC9.o0 Db) tZ (by omega) hkn hoe hrk hrj
  rintro _ du ⟨rfl,dM⟩;have PB:=dM.size;have UJ:=p9.cf dM;refine⟨_,rfl,s,si,sd,sr,dM.blk yi (by simp),sa,dM.blk zh (by simp),s,si,sd,sr,sa,sm,dM.blk ym (by simp),_,dM.blk hb3 (by simp),kk,dM.blk Tr (by simp),⟨.func (.func 57) #[] #[ae (some ⟨k0,0,none⟩),ae (some ⟨k1,0,none⟩),ae (some ⟨k7,0,none⟩)],rfl⟩,dM.blk hb8 (by simp),fun hy=>?_,fun hy=>?_⟩
  ·rw[if_pos hy]at ch1 W4;exact⟨_,ch1.symm,W4,n1.keep bN fun k _ bS=>dM.block k bS (by simp),n2.keep bN fun k _ bS=>dM.block k bS (by simp),KC,⟨rfl,rfl,rfl,rfl,rfl,rfl,rfl,rfl,rfl,rfl,rfl,rfl⟩,UJ⟩
  rw[if_neg (by rw[hy];decide)]at ch1 W4;refine⟨fun ot a1 a2 a3 a4 a5 q i vv b1 b2 b3 b4 b5 b6 v=>dc w1.heap.size v ot ((st.2.filter fun o=>!ga p.sp p.ro act kk o)++[kk])/\dc w1.heap.size v t1 (st.1++[kk])/\(∀k,ez t1 k->¬ez ot k)/\(a1=s/\a2=si/\a3=sd/\a4=sr/\a5=sa/\q=some ⟨k2,0,none⟩/\b1=s/\b2=si/\b3=sd/\b4=sr/\b5=sa/\b6=sm)/\ay [] w1 v,?_,fun dN eS cb0 cb1 cb2 cb3 cb7 cb8=>?_⟩
  ·rintro ot a1 a2 a3 a4 a5 q i vv b1 b2 b3 b4 b5 b6 v ⟨h1,h2,h3,h4,h5⟩;exact⟨_,ch1.symm,W4,h2,h1,h3,h4,h5⟩
  have z12:=eS.size;have Zg:=UJ.cf eS;have Xe:ay [] w dN:=(cD.cf cr).cf Zg;have v1:dc w1.heap.size dN t1 (st.1++[kk]):=(n1.keep bN fun k _ bS=>dM.block k bS (by simp)).keep bN fun k _ bS=>eS.block k bS (by simp);have v2:dc w1.heap.size dN l2 st.2:=(n2.keep bN fun k _ bS=>dM.block k bS (by simp)).keep bN fun k _ bS=>eS.block k bS (by simp);have nl:∀k,k<w1.heap.size∨w2.heap.size<=k->¬ez l2 k:=fun k h e=>by have:=g2 k e;omega
  have fl:∀k,F k/\k<w.heap.size->¬ez l2 k:=fun k h=>nl k (.inl (by omega));have del:∀{v:av},ay [] dN v->dc w1.heap.size v l2 st.2->az aq 49 #[l2.v,.func (.func 57) #[] #[ae (some ⟨k0,0,none⟩),ae (some ⟨k1,0,none⟩),ae (some ⟨k7,0,none⟩)]] v fun e v'=>∃s':Sl,e=ak s'.v/\s'.a=l2.a/\s'.c=l2.c/\dc w1.heap.size v' s' (st.2.filter fun o=>!ga p.sp p.ro act kk o)/\aD (ez l2) v v':=fun{v} Zh hv=>by
   have ov:=Xe.cf Zh;have zv:=Zh.size;refine yZ (f:=⟨.func (.func 57) #[] #[ae (some ⟨k0,0,none⟩),ae (some ⟨k1,0,none⟩),ae (some ⟨k7,0,none⟩)],rfl⟩) hv (by omega) ⟨fu (by kernel_rfl),fun o ho x hO=>?_⟩ (p:=fun o=>ga p.sp p.ro act kk o) (cap:=[ae (some ⟨k0,0,none⟩),ae (some ⟨k1,0,none⟩),ae (some ⟨k7,0,none⟩)]) rfl;have hP':PlR x (fun k=>F k/\k<w.heap.size) s si sd sr p:=(hP.inH.o0 ov).kp fun k hk bS=>hO.block k bS (fl k hk);have E3:aA fz 1 x (fun k=>G k/\k<w.heap.size) sa act:=(kI (SliceF.inHeap bN ha (by decide)) ov).keep bN (by decide) fun k hk bS=>hO.block k bS (nl k (.inl (by omega)));exact CV (hO.blk (Zh.blk cb0 (by simp)) (nl k0 (.inl (by omega)))) (hO.blk (Zh.blk cb1 (by simp)) (nl k1 (.inl (by omega)))) (hO.blk (Zh.blk cb7 (by simp)) (nl k7 (.inr (by omega)))) hP' tZ E3 (by omega)
  have kJ:∀{a b:av} {P:aJ},aD P a b->(∀k,P k->ez l2 k)->bP (fun k=>k<dN.heap.size/\¬ez l2 k) a b:=fun hO hPp k hk bS=>hO.block k bS fun e=>hk.2 (hPp k e);refine⟨fun k=>k<dN.heap.size/\¬ez l2 k,⟨by omega,nl k8 (.inr (by omega))⟩,⟨by omega,nl k7 (.inr (by omega))⟩,?_,?_⟩
  ·refine(del (Only.refl _ _) v2).mono ?_;rintro _ fb ⟨s',rfl,UQ,_,E7,eH⟩;have PF:=eH.size;have PL:∀k,ez s' k↔ez l2 k:=fun k=>by unfold ez;rw[UQ]
   obtain⟨y2,fk,u1,u2,ot,fZ,u3,u4,u5,u6⟩:=R8 E7 (by omega) (n:=kk) ⟨by omega,by omega⟩ (by have:=da (fun o=>!ga p.sp p.ro act kk o) st.2;omega);have W0:=u2.size;have z15:=u5.size;refine⟨s',rfl,s,si,sd,sr,eH.blk cb0 (nl k0 (.inl (by omega))),sa,eH.blk cb1 (nl k1 (.inl (by omega))),s,si,sd,sr,sa,sm,eH.blk cb2 (nl k2 (.inl (by omega))),_,eH.blk cb3 (nl k3 (.inl (by omega))),kk,eH.blk cb7 (nl k7 (.inr (by omega))),_,eH.blk cb8 (nl k8 (.inr (by omega))),kJ eH (fun _ e=>e),y2,fk,u1,u2.same (by simp;omega),bP.only u2,ot,fZ,u3,acY u5 (fun k e=>.inr ((PL k).1 e)) (by simp;omega),kJ u5 (fun k e=>(PL k).1 e),u4,?_,fun k e e'=>?_,⟨rfl,rfl,rfl,rfl,rfl,rfl,rfl,rfl,rfl,rfl,rfl,rfl⟩,?_⟩
   ·exact((v1.keep bN fun k hk bS=>eH.block k bS (KC k (hk.resolve_left id).2)).keep bN fun k _ bS=>u2.block k bS (by simp)).keep bN fun k hk bS=>u5.block k bS fun e=>KC k (hk.resolve_left id).2 ((PL k).1 e)
   ·rcases u6 k e' with h | h
    ·exact KC k e ((PL k).1 h)
    ·have:=t1b k e;omega
   ·exact((((Zg.mL (eH.mono (G:=fun k=>w1.heap.size<=k) fun k _ e=>(g2 k e).1)).only fun k hk=>hk).cf u2).mL (u5.mono (G:=fun k=>w1.heap.size<=k) fun k _ e=>(g2 k ((PL k).1 e)).1)).only fun k hk=>hk
  ·obtain⟨y2,gI,u1,u2,uY⟩:=R6 dN (a:=kk) ⟨by omega,by omega⟩;have z16:=u2.size;refine⟨y2,gI,u1,u2.same (by simp;omega),bP.only u2,(del u2 (v2.keep bN fun k _ bS=>u2.block k bS (by simp))).mono ?_⟩;rintro _ gf ⟨s',rfl,UQ,_,E7,io⟩;have z17:=io.size;have PL:∀k,ez s' k↔ez l2 k:=fun k=>by unfold ez;rw[UQ]
   have yb:∀k,ez y2 k->dN.heap.size<=k/\k<gI.heap.size:=fun k e=>uY.blk e;have apK:dc dN.heap.size gf y2 [kk]:=uY.keep bN fun k hk bS=>io.block k bS (nl k (.inr (by have:=(hk.resolve_left id).1;omega)));obtain⟨ot,iy,u3,u4,u5,u6⟩:=R7 E7 (by omega) (apK.slice bN) (fun k hk e=>nl k (.inr (by have:=(hk.resolve_left id).1;omega)) ((PL k).1 e)) (by have:=da (fun o=>!ga p.sp p.ro act kk o) st.2;rw[bG];omega);have z18:=u5.size;have otn:∀k,ez ot k->ez l2 k∨gf.heap.size<=k:=fun k e=>(u6 k e).imp (PL k).1 id;refine⟨s',rfl,s,si,sd,sr,io.blk (u2.blk cb0 (by simp)) (nl k0 (.inl (by omega))),sa,io.blk (u2.blk cb1 (by simp)) (nl k1 (.inl (by omega))),s,si,sd,sr,sa,sm,io.blk (u2.blk cb2 (by simp)) (nl k2 (.inl (by omega))),_,io.blk (u2.blk cb3 (by simp)) (nl k3 (.inl (by omega))),kk,io.blk (u2.blk cb7 (by simp)) (nl k7 (.inr (by omega))),_,io.blk (u2.blk cb8 (by simp)) (nl k8 (.inr (by omega))),kJ io (fun _ e=>e),ot,iy,u3,acY u5 (fun k e=>.inr ((PL k).1 e)) (by simp;omega),kJ u5 (fun k e=>(PL k).1 e),u4,?_,fun k e e'=>?_,⟨rfl,rfl,rfl,rfl,rfl,rfl,rfl,rfl,rfl,rfl,rfl,rfl⟩,?_⟩
   ·exact((v1.keep bN fun k _ bS=>u2.block k bS (by simp)).keep bN fun k hk bS=>io.block k bS (KC k (hk.resolve_left id).2)).keep bN fun k hk bS=>u5.block k bS fun e=>KC k (hk.resolve_left id).2 ((PL k).1 e)
   ·rcases otn k e' with h | h
    ·exact KC k e h
    ·have:=t1b k e;omega
   ·exact((((Zg.cf u2).mL (io.mono (G:=fun k=>w1.heap.size<=k) fun k _ e=>(g2 k e).1)).only fun k hk=>hk).mL (u5.mono (G:=fun k=>w1.heap.size<=k) fun k _ e=>(g2 k ((PL k).1 e)).1)).only fun k hk=>hk
 ·have hc:=aR hc;have:j=L.length:=by omega
  subst this;rw[bq (aX _)]at ph;refine⟨⟨l2,rfl,?_⟩,(cD.cf cr).cf cR⟩;have e:fP p.sp p.ro act may=st.2:=by
   unfold fP;rw[hLv,ph]
  rw[e];exact Own.low Ka (by omega)
end
theorem pe(n:Int):IntKind.u64.wrap n=n % 18446744073709551616:=by simp[ar,IntKind.bits,IntKind.signed]
theorem Wt{n:Nat}(h:n<18446744073709551616):IntKind.u64.wrap (n:Int)=n:=by rw[pe];omega
theorem MX(n:Nat):(2:Int) ^ n=((2 ^ n:Nat):Int):=by rw[Int.natCast_pow];rfl
def Dj(w:av):Prop:=Lib.TabIs aq w "math/bits.deBruijn64tab" .u8 (Lib.deBruijn64tab.map fun x:Nat=>(x:Int))
theorem dj_num:Tryz.prog.globalNamed "math/bits.deBruijn64tab" =some 0:=by kernel_rfl
theorem Dj.keep{w w':av}(h:Dj w)(hk:0<w.heap.size->w'.heap[0]? =w.heap[0]?):Dj w':=by
 unfold Dj Lib.TabIs World.var? at h⊢;rw[dj_num]at h⊢;simp only[mf]at h⊢;rw[hk]
 ·exact h
 ·refine cx fun hn=>?_;rw[eU (by omega)]at h;cases h
theorem Dj.only{w w':av}(h:Dj w)(hO:ay [] w w'):Dj w':=h.keep fun bS=>hO.block _ bS (by simp)
theorem amL{w : av}(hD : Dj w){x : Nat}(hx : x < 18446744073709551616) : az aq 40 #[.int .u64 (x : Int)] w fun e w' => e = ak (O U (Lib.ctz 64 x : Nat)) /\ w' = w := by
  refine ret (amo _ _ _ ?_)
  refine ⟨fun hc => ?_, fun hc => ?_⟩
  · have hc : x = 0 := by have : (x : Int) = 0 := by simpa using hc
                          omega
    subst hc
    exact ⟨rfl, rfl⟩
  have hc : x ≠ 0 := by have : ¬ (x : Int) = 0 := by simpa using hc
                        omega
  obtain ⟨h1, h2⟩ := Lib.lowest_bit 64 x hc hx
  obtain ⟨h3, h4⟩ := Lib.deBruijn64_at _ h2
  have key : (IntKind.u64.wrap ((bits .and .u64 (x : Int) (IntKind.u64.wrap (0 - (x : Int)))) * 285870213051353865)).fdiv 288230376151711744 = ((2 ^ Lib.ctz 64 x * 285870213051353865 % 18446744073709551616 / 288230376151711744 : Nat) : Int) := by
    have e1 : IntKind.u64.wrap (0 - (x : Int)) = ((2 ^ 64 - x : Nat) : Int) := by rw [pe]; omega
    rw [e1, u64_and_nat _ _ hx (by omega), h1, pe, Int.fdiv_eq_ediv_of_nonneg _ (by omega)]
    generalize 2 ^ Lib.ctz 64 x = p
    omega
  generalize hi : 2 ^ Lib.ctz 64 x * 285870213051353865 % 18446744073709551616 / 288230376151711744 = i at *
  have hl : i < (Lib.deBruijn64tab.map fun x : Nat => (x : Int)).length := h3
  have yq := Lib.TabIs.cell hD dj_num i hl
  refine ⟨⟨0, i, none⟩, ?_, (Lib.ctz 64 x : Nat), fun j v hj => ?_, ?_, rfl⟩
  · rw [key]
    refine ⟨by omega, by omega, ?_⟩
    rw [aY, gj, fL, bO]
  · cases j with
    | zero =>
      rw [ci, aZ] at hj
      subst hj
      have e : (Lib.deBruijn64tab.map fun x : Nat => (x : Int)).getD i 0 = (Lib.ctz 64 x : Nat) := by
        rw [<- h4, ul, ul, ch]
        cases Lib.deBruijn64tab[i]? <;> rfl
      rw [e] at yq
      exact yq
    | succ j => simp at hj
  · congr 1
    exact fR (by omega) (by omega)
theorem Ez(w:av)(n:Int):az aq 39 #[O U n] w fun e w'=>e=ak (.int .u64 (AU n:Nat))/\w'=w:=by
 refine ret (afS _ _ _ ?_);refine⟨fun hc=>⟨?_,rfl⟩,fun hc=>?_⟩
 ·rw[cn,cA,cA]at hc;unfold AU;rw[if_neg (by omega)];rfl
 ·rw[eb,cY,cY]at hc;refine⟨by omega,?_,rfl⟩;have hb:=tR n;have e:AU n=2 ^ n.toNat:=by unfold AU;rw[if_pos (by omega)]
  congr 1;rw[Nat.min_eq_left (by omega),Int.one_mul,MX,<-e];exact Wt hb
theorem zd{w:av}{F:aJ}{s:Sl}{l:List Int}(h:aA fz 1 w F s l):az aq 14 #[s.v] w fun e w'=>e=ak (.int .u64 (iu l:Nat))/\w'=w:=by
 refine ret (afP _ _ _ ?_);have hl:=h.len;have OT:=h.cap;have yi:=h.big;refine⟨fun kv m i u=>∃j:Nat,i=(j:Int)/\kv+j=l.length/\j<=l.length/\m=(((l.take j).foldl Pm 0:Nat):Int)/\u=w,l.length,⟨0,rfl,by omega,bh _,rfl,rfl⟩,?_⟩;rintro kv _ _ u ⟨j,rfl,tY,hj,rfl,hu⟩;obtain rfl:w=u:=hu.symm;refine⟨fun hc=>?_,fun hc=>?_⟩
 ·have hc:=aO hc;have j8:j<l.length:=by omega
  obtain⟨ad,a1,a2⟩:=gW h (aW j8);refine⟨ad,a1,_,a2,(Ez w l[j]).mono ?_⟩;rintro _ u ⟨rfl,hu⟩;obtain rfl:w=u:=hu.symm;refine⟨_,rfl,kv-1,by omega,j+1,by rw[fR (by omega) (by omega)];rfl,by omega,by omega,?_,rfl⟩;rw[u64_or_nat _ _ (ME _ (by decide)) (tR _),bJ,aW j8,vC];rfl
 ·have hc:=aR hc;rw[bq (by omega)];exact⟨rfl,rfl⟩
theorem SA{w : av}(hD : Dj w){x : Nat}(hx : x < 18446744073709551616) : az aq 15 #[.int .u64 (x : Int)] w fun e w' => (∃ s : Sl, e = ak s.v /\ dc w.heap.size w' s (kD x)) /\ ay [] w w' := by
  refine (afQ x (fun v w' => (∃ s : Sl, v = s.v /\ dc w.heap.size w' s (kD x)) /\ ay [] w w') w ?_).mono (by rintro _ w' ⟨v, rfl, ⟨s, rfl, h⟩, h'⟩; exact ⟨⟨s, rfl, h⟩, h'⟩)
  refine ⟨fun kv m l u => ∃ (y : Nat) (L : List Int), m = (y : Int) /\ y < 18446744073709551616 /\ kv = y /\ dc w.heap.size u l L /\ L ++ kD y = kD x /\ ay [] w u, x, ⟨x, [], rfl, hx, rfl, Own.nil _ _ _ _ _ _, rfl, Only.refl _ _⟩, ?_⟩
  rintro y _ l w0 ⟨y', L, rfl, hy, hk, hL, hn, cD⟩
  obtain rfl : y = y' := hk
  refine ⟨fun hc => ?_, fun hc => ?_⟩
  · have hc : y ≠ 0 := by have : ¬ (y : Int) = 0 := by simpa using hc
                          omega
    refine (amL (hD.only cD) hy).mono ?_
    rintro _ u ⟨rfl, hu⟩
    obtain rfl : w0 = u := hu.symm
    have fi : L.length <= 64 := by
      have := bI List.length hn
      rw [aP] at this
      have := qf x
      omega
    have mT := (Hx hc hy).2.1
    obtain ⟨y1, w2, k1, k3, s', w3, g1, g2, g3, g4⟩ := aaE w hL cD (Lib.ctz 64 y : Nat) ⟨by omega, by omega⟩ (by omega)
    refine ⟨_, rfl, y1, w2, k1, s', w3, g1, y &&& (y - 1), aaR hc, y &&& (y - 1), L ++ [((Lib.ctz 64 y : Nat) : Int)], ?_, um T9 hy, rfl, g2, ?_, g3⟩
    · have e : IntKind.u64.wrap ((y : Int) - 1) = ((y - 1 : Nat) : Int) := by rw [pe]; omega
      rw [e, u64_and_nat _ _ hy (by omega)]
    · rw [bH, List.singleton_append, <- Jz hc hy]
      exact hn
  · have hc : y = 0 := by have : (y : Int) = 0 := by simpa using hc
                          omega
    subst hc
    have e : kD 0 = [] := jS.2 fun n hn => by
      obtain ⟨k, _, _, hb⟩ := ma.1 hn
      rw [jT] at hb
      cases hb
    rw [e, bQ] at hn
    rw [hn] at hL
    exact ⟨⟨l, rfl, hL⟩, cD⟩
end Go.Proofs.YtbkjcdocjfknfaaGreatDoor.Con
namespace Go.Kt
open Go renaming World->av,Value->aw
open Go Go.RowKit
set_option linter.unusedSimpArgs false
set_option linter.unusedVariables false
section
variable {P:Program} {w:av}
theorem CW{α:Type}{r:Rp α}{size bytes:Nat}{F:Nat->Prop}{y:Sl}{ys:List α}{e t ty:TypeId}{i:TypeInfo}{z:aw}(ht:P.underlying t=some (.slice e))(hi:P.info? e=some i)(hz:i.zero=some z)(lq:i.size=size)(OB:i.bytes=bytes)(HT:z.cells.size=size)(h0:0<size)
  (hr:r.Ok) (hy:SliceF r size w F y ys) (hm:ys.length*bytes<=140737488355328) (yi:0<bytes):
  ∃x1 w1,(Instr.buildSlice t 0 #[]).run P w=.ok (Sl.v x1) w1/\Only [] w w1/\∃x2 w2,(Builtin.append_ #[t,t] ty #[Sl.v x1,Sl.v y]).run P w1=.ok (Sl.v x2) w2/\Own r size e w.heap.size w2 F x2 ys/\OnlyP (fun k=>w.heap.size<=k) w1 w2:=by
 have hO:Only [] w (w.alloc (.cells #[] e)):=Only.alloc _ _;have mW:Own r size e w.heap.size (w.alloc (.cells #[] e)) (fun k=>F k/\k<w.heap.size) (⟨some ⟨w.heap.size,0,none⟩,0,0⟩:Sl) []:=
  .inr ⟨w.heap.size,[],[],rfl,aX _,Blk.alloc w e [],by simp,rfl,aX _,bh _,trivial⟩
 have hyk:SliceF r size (w.alloc (.cells #[] e)) (fun k=>(F k/\k<w.heap.size)/\(⟨some ⟨w.heap.size,0,none⟩,0,0⟩:Sl).a≠some ⟨k,0,none⟩) y ys:=
  ((hy.inHeap hr h0).keep hr h0 fun k _ bS=>hO.block k bS (by simp)).mono hr fun k hk=>⟨hk,fun h=>by
   injection h with h;injection h with h;have:=hk.2;omega⟩
 refine⟨⟨some ⟨w.heap.size,0,none⟩,0,0⟩,_,IP w ht hi,hO,?_⟩;obtain⟨s',w',g1,g2,gs,g3,g4,g5⟩:=qE (ty:=ty) ht hi hz lq OB HT hr mW hyk hO.size (by simpa using hm) yi;exact⟨s',w',g1,(by simpa using g2.mono hr fun k hk=>hk.1),g3.p fun g hg=>.inl (g4 g hg).2.1⟩
end
end Go.Kt
namespace Go.Proofs.YtbkjcdocjfknfaaGreatDoor.Con
open Go.Value renaming int->O,string->ab,pointer->ae,agg->ah,tuple->ai,bool->aj
open Go.IntKind renaming i64->U,wrap->ar
open Go.Ending renaming returned->ak
open _root_.ByteArray renaming mk->ao
open _root_.Go.Proofs.Tryz renaming prog->aq
open Go.Instr renaming buildSlice->au
open Go renaming World->av,Value->aw,Calls->az
open Go.Kt renaming Only->ay,SliceF->aA,Cells->aB,OnlyP->aD,Blk->aF
open Go Go.RowKit Go.Kt Go.Kt.V Go.Proofs.YtbkjcdocjfknfaaGreatDoor.Vc
set_option linter.unusedSimpArgs false
set_option linter.unusedVariables false
set_option linter.unusedSectionVars false
set_option maxHeartbeats 1600000
set_option maxRecDepth 100000
def Wu{α:Type}(r:Rp α):Rp (Option α):=fun w F x cs=>(∀v,v∈cs->v.oneCell'=true)/\∀y,x=some y->r w F y cs
theorem tT{α:Type}{r:Rp α}(hr:r.Ok):(Wu r).Ok where
 keep h hk:=⟨h.1,fun y e=>hr.keep (h.2 y e) hk⟩
 inHeap h:=⟨h.1,fun y e=>hr.inHeap (h.2 y e)⟩
 mono h hk:=⟨h.1,fun y e=>hr.mono (h.2 y e) hk⟩
 one h:=h.1
theorem MY{α:Type}{xs:List α}{j:Nat}(h:j<xs.length):(List.replicate j none++(xs.drop j).map some).set j none=List.replicate (j+1) none++(xs.drop (j+1)).map some:=by
 rw[dW h,bD,pw _ _ (by rw[db];omega),db,oG,H4,List.replicate_succ',bH];rfl
theorem EA{α:Type}{xs:List α}{j:Nat}(h:j<xs.length):(List.replicate j none++(xs.drop j).map some)[j]? =some (some xs[j]):=by
 rw[bT (by rw[db];omega),db,oG,dW h];rfl
theorem SB{α:Type}{r:Rp α}{size:Nat}{w:av}{F:aJ}{s:Sl}{xs:List α}{e:TypeId}{B:Nat}(hr:r.Ok)(h:Own r size e B w F s xs):Own (Wu r) size e B w F s (xs.map some):=
 Own.map some h fun g x cs _ hx=>⟨hr.one hx,fun y e=>by
  injection e with e;subst e;exact hx⟩
theorem MZ{d:Nat}{w:av}{F:aJ}{s:Sl}{xs:List Ex}(h:aA (xf d) 6 w F s xs)(hm:xs.length<=1048576000):az aq 122 #[s.v] w fun e w'=>(∃t:Sl,e=ak t.v/\Own (xf d) 6 64 w.heap.size w' F t xs)/\ay [] w w':=by
 refine(af1 s (fun v w'=>(∃t:Sl,v=t.v/\Own (xf d) 6 64 w.heap.size w' F t xs)/\ay [] w w') w ?_).mono (by rintro _ w' ⟨v,rfl,⟨t,rfl,h⟩,h'⟩;exact⟨⟨t,rfl,h⟩,h'⟩);refine⟨fun hc=>?_,fun _=>?_⟩
 ·have:=IQ h (vf.1 hc);subst this;exact⟨⟨Sl.nil,rfl,Own.nil _ _ _ _ _ _⟩,Only.refl _ _⟩
 obtain⟨x1,w1,p1,p2,x2,w2,p3,p4,p5⟩:=CW (P:=aq) (w:=w) (t:=62) (ty:=62) (e:=64) (i:=Tryz.t64) (bytes:=72) (size:=6) (r:=xf d) (by kernel_rfl) (by kernel_rfl) rfl rfl rfl rfl (by decide) (jW d) h (by omega) (by decide);exact⟨x1,w1,p1,x2,w2,p3,⟨x2,rfl,p4⟩,(p2.mL p5).only fun k hk=>hk⟩
theorem HF:∀(d:Nat) {w:av} {F:aJ} {s:Sl} {xs:List Ex},aA (xf d) 6 w F s xs->nD (kZ d) xs<=1048576000->
  az aq 82 #[s.v] w fun e w'=>(∃t:Sl,e=ak t.v)/\ay [] w w':=by
 intro d
 induction d with
 | zero=>
  intro w F s xs h hc;have hx:xs=[]:=by
   cases xs with
   | nil=>rfl
   | cons x xs=>
    obtain⟨base,cs,_,_,_,_,h5⟩:=h.at_ 0 x rfl;exact h5.elim
  subst hx;refine(XS s (fun v w'=>(∃t:Sl,v=t.v)/\ay [] w w') w ?_).mono (by rintro _ w' ⟨v,rfl,⟨t,rfl⟩,h'⟩;exact⟨⟨t,rfl⟩,h'⟩);refine(MZ h (by simp)).mono ?_;rintro _ w0 ⟨⟨t,rfl,hT⟩,hO⟩;have hn:t.n=0:=hT.len;refine⟨t,rfl,fun kv i u=>i=0/\u=w0,0,⟨rfl,rfl⟩,?_⟩;rintro kv _ u ⟨rfl,hu⟩;obtain rfl:w0=u:=hu.symm;exact⟨fun bS=>absurd (aO bS) (by omega),fun _=>⟨⟨t,rfl⟩,hO⟩⟩
 | succ d ih=>
  intro w F s xs h hc;have yH:=Ly (d:=d) (xs:=xs);refine(XS s (fun v w'=>(∃t:Sl,v=t.v)/\ay [] w w') w ?_).mono (by rintro _ w' ⟨v,rfl,⟨t,rfl⟩,h'⟩;exact⟨⟨t,rfl⟩,h'⟩);refine(MZ h (by omega)).mono ?_;rintro _ w0 ⟨⟨t,rfl,hT⟩,hO⟩;have z0:=hO.size;have hn:t.n=xs.length:=hT.len;have hcp:=hT.cap;refine⟨t,rfl,fun kv i u=>∃j:Nat,i=(j:Int)/\kv+j=xs.length/\j<=xs.length/\Own (Wu (xf (d+1))) 6 64 w.heap.size u F t (List.replicate j none++(xs.drop j).map some)/\ay [] w u,xs.length,⟨0,rfl,by omega,bh _,SB (jW _) hT,hO⟩,?_⟩;rintro kv _ w1 ⟨j,rfl,tY,hj,hT1,cr⟩;have z1:=cr.size;refine⟨fun bS=>?_,fun _=>⟨⟨t,rfl⟩,cr⟩⟩;have bS:=aO bS;have j8:j<xs.length:=by omega
  obtain⟨g,cells,cs,a1,a2,a3,a4,a5,a6,_⟩:=Own.SY (tT (jW _)) hT1 (EA j8);obtain⟨sx,rfl,hsx⟩:=a6.2 _ rfl;have hcx:nD (kZ d) xs[j].fF<=1048576000:=by
   have:=Q0 (d:=d+1) (dZ j8);rw[kZ]at this;omega
  refine⟨_,a2,sx,a5.dQ 4 _ rfl,(ih hsx hcx).mono ?_⟩;rintro _ w2 ⟨⟨l2,rfl⟩,cR⟩;have z2:=cR.size;have hT2:=hT1.keep (tT (jW _)) fun k _ bS=>cR.block k bS (by simp);obtain⟨g',KD,cs2,b1,b2,b3,b4,b5,b6,b7⟩:=Own.SY (tT (jW _)) hT2 (EA j8);have W8:=(hT2.blk b1).1;dsimp only at W8;have c:=b7 4 l2.v none (fun _=>False) (by decide) ⟨fun v hv=>by
   rcases vg hv with hv | rfl
   ·exact b6.1 v hv
   ·rfl,fun y e=>by cases e⟩ (fun k hk _=>hk.elim)
  refine⟨l2,rfl,_,b2,g',j*6+4,KD,_,rfl,b3,c.1,fun w3 de wO=>⟨kv-1,by omega,j+1,by rw[fR (by omega) (by omega)];rfl,by omega,by omega,?_,(cr.cf cR).trans de fun x hx=>.inr (by simp only[aN]at hx;omega)⟩⟩;have:=c.2 w3 de wO;rwa[MY j8]at this
theorem aaX{w:av}{F:aJ}{s:Sl}{xs:List Ac}(h:aA (rA false) 9 w F s xs)(hm:xs.length<=1048576000):az aq 121 #[s.v] w fun e w'=>(∃t:Sl,e=ak t.v/\Own (rA false) 9 196 w.heap.size w' F t xs)/\ay [] w w':=by
 refine(af0 s (fun v w'=>(∃t:Sl,v=t.v/\Own (rA false) 9 196 w.heap.size w' F t xs)/\ay [] w w') w ?_).mono (by rintro _ w' ⟨v,rfl,⟨t,rfl,h⟩,h'⟩;exact⟨⟨t,rfl,h⟩,h'⟩);refine⟨fun hc=>?_,fun _=>?_⟩
 ·have:=IQ h (vf.1 hc);subst this;exact⟨⟨Sl.nil,rfl,Own.nil _ _ _ _ _ _⟩,Only.refl _ _⟩
 obtain⟨x1,w1,p1,p2,x2,w2,p3,p4,p5⟩:=CW (P:=aq) (w:=w) (t:=23) (ty:=23) (e:=196) (i:=Tryz.t196) (bytes:=104) (size:=9) (r:=rA false) (by kernel_rfl) (by kernel_rfl) rfl rfl rfl rfl (by decide) (dq false) h (by omega) (by decide);exact⟨x1,w1,p1,x2,w2,p3,⟨x2,rfl,p4⟩,(p2.mL p5).only fun k hk=>hk⟩
theorem M0{w:av}{F:aJ}{x:Ex}{cs:aI}(h:rE false w F x cs):∃sl d,cs=qQ x.k x.n x.s x.op sl x.a/\aA (xf d) 6 w F sl x.fF:=by
 obtain⟨d,h⟩:=h;cases d with
 | zero=>exact h.elim
 | succ d=>
  obtain⟨sl,h,h2⟩:=h;exact⟨sl,d,h,GB h2.1 fun x cs _ h=>D4 h⟩
theorem EB(d:Nat):∀l:List Ex,nD (kZ d) l<=N3 l
 | []=>bh _
 | y::l=>by rw[nD,N3];exact jR (Je d y) (EB d l)
theorem M1(x:Ex):N3 x.fF<=Cu x:=by rw[D8];omega
theorem EC{w:av}{F:aJ}{s:Sl}{xs:List Ac}(h:aA (rA false) 9 w F s xs)(hz:jw xs<=8388608):
  az aq 81 #[s.v] w fun e w'=>(∃t:Sl,e=ak t.v)/\ay [] w w':=by
 have yH:=mH xs;refine(afX s (fun v w'=>(∃t:Sl,v=t.v)/\ay [] w w') w ?_).mono (by rintro _ w' ⟨v,rfl,⟨t,rfl⟩,h'⟩;exact⟨⟨t,rfl⟩,h'⟩);refine(aaX h (by omega)).mono ?_;rintro _ w0 ⟨⟨t,rfl,hT⟩,hO⟩;have z0:=hO.size;have hn:t.n=xs.length:=hT.len;have hcp:=hT.cap;refine⟨t,rfl,fun kv i u=>∃j:Nat,i=(j:Int)/\kv+j=xs.length/\j<=xs.length/\Own (Wu (rA false)) 9 196 w.heap.size u F t (List.replicate j none++(xs.drop j).map some)/\ay [] w u,xs.length,⟨0,rfl,by omega,bh _,SB (dq _) hT,hO⟩,?_⟩;rintro kv _ w1 ⟨j,rfl,tY,hj,hT1,cr⟩;have z1:=cr.size;refine⟨fun bS=>?_,fun _=>⟨⟨t,rfl⟩,cr⟩⟩;have bS:=aO bS;have j8:j<xs.length:=by omega
 obtain⟨g,cells,cs,a1,a2,a3,a4,a5,a6,_⟩:=Own.SY (tT (dq _)) hT1 (EA j8);obtain⟨xc,rfl,hx⟩:=a6.2 _ rfl;obtain⟨sx,d,rfl,hsx⟩:=M0 hx;have hyz:Oc xs[j]<=jw xs:=AE (dZ j8);unfold Oc at hyz;have q1:=M1 xs[j].x;have q2:=EB d (xs[j].x).fF;refine⟨_,a2,sx,a5.dQ 6 _ rfl,(HF d hsx (by omega)).mono ?_⟩;rintro _ w2 ⟨⟨l2,rfl⟩,cR⟩;have z2:=cR.size;have hT2:=hT1.keep (tT (dq _)) fun k _ bS=>cR.block k bS (by simp);obtain⟨g',KD,cs2,b1,b2,b3,b4,b5,b6,b7⟩:=Own.SY (tT (dq _)) hT2 (EA j8);have W8:=(hT2.blk b1).1;dsimp only at W8;have c:=b7 6 l2.v none (fun _=>False) (by decide) ⟨fun v hv=>by
  rcases vg hv with hv | rfl
  ·exact b6.1 v hv
  ·rfl,fun y e=>by cases e⟩ (fun k hk _=>hk.elim)
 refine⟨l2,rfl,_,b2,g',j*9+6,KD,_,rfl,b3,c.1,fun w3 de wO=>⟨kv-1,by omega,j+1,by rw[fR (by omega) (by omega)];rfl,by omega,by omega,?_,(cr.cf cR).trans de fun x hx=>.inr (by simp only[aN]at hx;omega)⟩⟩;have:=c.2 w3 de wO;rwa[MY j8]at this
section
variable {α:Type} {r:Rp α} {size bytes:Nat} {e t ty:TypeId} {i:TypeInfo} {z v:aw} {w u:av} {A:Nat} {s y:Sl} {xs:List α} {x:α}
theorem SC(hf:∀(w:av) (F G:aJ) (x:α) (cs:aI),r w F x cs->r w G x cs){F G:aJ}(h:Own r size e A w F s xs):Own r size e A w G s xs:=by
 rcases h with⟨rfl,rfl⟩ | ⟨g,css,tail,h1,h2,h4,h5,h6,h7,h9,h8⟩
 ·exact .inl ⟨rfl,rfl⟩
 ·exact .inr ⟨g,css,tail,h1,h2,h4,h5,h6,h7,h9,fS.SZ (fun x c _ hc=>⟨hc.1,hf _ _ _ _ _ hc.2⟩) h8⟩
theorem Wv(ht:Tryz.prog.underlying t=some (.slice e))(hi:Tryz.prog.info? e=some i)(hz:i.zero=some z)(lq:i.size=size)(h0:0<size)(zg:1*size<=16777216)(hr:r.Ok)(hv:v.cells.toList.length=size)(hx:r u (fun _=>False) x v.cells.toList):
  ∃y w1,(au t 1 #[.mk 0 v]).run aq u=.ok (Sl.v y) w1/\ay [] u w1/\aA r size w1 (fun k=>u.heap.size<=k/\k<w1.heap.size) y [x]:=by
 obtain⟨y,w1,k1,k2,k3,_⟩:=gY (P:=aq) (t:=t) (e:=e) (i:=i) (z:=z) (w:=u) (F:=fun _=>False) (vs:=[v]) (parts:=#[.mk 0 v]) (len:=1) (xs:=[x]) (r:=r) (size:=size) ht hi hz lq h0 rfl rfl (by decide) zg hr ⟨⟨hv,hx⟩,trivial⟩;exact⟨y,w1,k1,k3,(SliceF.inHeap hr (k2.slice hr) h0).mono hr fun k hk=>⟨(hk.1.resolve_left id).1,hk.2⟩⟩
theorem SD(ht:Tryz.prog.underlying t=some (.slice e))(hi:Tryz.prog.info? e=some i)(hz:i.zero=some z)(lq:i.size=size)(OB:i.bytes=bytes)(HT:z.cells.size=size)(yi:0<bytes)(hr:r.Ok)(hf:∀(w:av) (F G:aJ) (x:α) (cs:aI),r w F x cs->r w G x cs)
  (h:Own r size e A u (fun _=>False) s xs) (hA:A<=u.heap.size) {G:aJ} (hy:aA r size u G y [x]) (hG:∀k,G k->¬ez s k) (hm:(xs.length+1)*bytes<=140737488355328):
  ∃s' w2,(Builtin.append_ #[t,t] ty #[Sl.v s,Sl.v y]).run aq u=.ok (Sl.v s') w2/\Own r size e A w2 (fun _=>False) s' (xs++[x])/\aD (ez s) u w2/\∀k,ez s' k->ez s k∨u.heap.size<=k:=by
 obtain⟨s',w2,g1,g2,gs,g3,g4,g5⟩:=qE (P:=aq) (t:=t) (ty:=ty) (e:=e) (i:=i) (bytes:=bytes) (size:=size) (r:=r) (F:=fun _=>True) (y:=y) (ys:=[x]) ht hi hz lq OB HT hr (h.mono hr fun k hk=>trivial) (hy.mono hr fun k hk=>⟨trivial,hG k hk⟩) hA (by simpa using hm) yi;refine⟨s',w2,g1,SC hf g2,g3.p fun g hg=>.inl (g4 g hg).1,fun k hk=>?_⟩;unfold ez at hk⊢;rcases g5 with e | e
 ·exact .inl (by rw[<-e];exact hk)
 ·rw[e]at hk;injection hk with hk;injection hk with hk;exact .inr (by omega)
end
def JF:Rp Ce:=fun _ _ x cs=>∃en lv:Sl,cs=[O U x.k,O U x.pa,.int .u64 (x.up:Nat),.int .u64 (x.dn:Nat),.int .u64 (x.rg:Nat),O U x.ini,O U x.dft,en.v,lv.v,O U (x.f0:Nat),O U (x.f1:Nat)]
theorem jl:JF.Ok where
 keep h _:=h
 inHeap h:=h
 mono h _:=h
 one:=by
  rintro w F x cs ⟨en,lv,rfl⟩ v hv;simp only[aU,ba,bW]at hv;rcases hv with rfl | rfl | rfl | rfl | rfl | rfl | rfl | rfl | rfl | rfl | rfl<;>rfl
def SE:Rp Nat:=fun _ _ x cs=>cs[7]? =some (.int .u64 (x:Int))/\∀v,v∈cs->v.oneCell'=true
theorem rf:SE.Ok where
 keep h _:=h
 inHeap h:=h
 mono h _:=h
 one h:=h.2
theorem HG(w:av)(F G:aJ)(x:aH)(cs:aI)(h:ju w F x cs):ju w G x cs:=h
theorem SF(w:av)(F G:aJ)(x:Ce)(cs:aI)(h:JF w F x cs):JF w G x cs:=h
theorem SG(w:av)(F G:aJ)(x:Nat)(cs:aI)(h:SE w F x cs):SE w G x cs:=h
structure Ma (w:av) (b:Nat) (F:aJ) (sn sv su sc se s si sd sr:Sl) (nm:List (aH)) (ce:List Ce) (ed:List Nat) (p:Pl):Prop where
 blk:aF w b 93 [sn.v,sv.v,su.v,sc.v,se.v,s.v,si.v,sd.v,sr.v]
 pl:PlR w F s si sd sr p
 hF:∀k,F k->k<w.heap.size/\k≠b/\¬Q3 sn sc se k
 n:Own ju 1 9 (b+1) w (fun _=>False) sn nm
 c:Own JF 11 44 (b+1) w (fun _=>False) sc ce
 e:Own SE 16 66 (b+1) w (fun _=>False) se ed
 ap:∀k,ez sn k->¬ez sc k/\¬ez se k
 ap2:∀k,ez sc k->¬ez se k
section
variable {w w' u:av} {F:aJ} {sn sv su sc se s si sd sr Bn xI PM:Sl} {b:Nat} {nm nm':List (aH)} {ce ce':List Ce} {ed ed':List Nat} {p:Pl}
theorem Ma.lt(h:Ma w b F sn sv su sc se s si sd sr nm ce ed p):b<w.heap.size:=h.blk.lt
theorem Ma.bn(h:Ma w b F sn sv su sc se s si sd sr nm ce ed p):∀k,ez sn k->b<k/\k<w.heap.size:=fun k e=>by have:=h.n.blk e;dsimp only at this;omega
theorem Ma.bc(h:Ma w b F sn sv su sc se s si sd sr nm ce ed p):∀k,ez sc k->b<k/\k<w.heap.size:=fun k e=>by have:=h.c.blk e;dsimp only at this;omega
theorem Ma.be(h:Ma w b F sn sv su sc se s si sd sr nm ce ed p):∀k,ez se k->b<k/\k<w.heap.size:=fun k e=>by have:=h.e.blk e;dsimp only at this;omega
theorem Ma.q3(h:Ma w b F sn sv su sc se s si sd sr nm ce ed p):∀k,Q3 sn sc se k->b<k/\k<w.heap.size:=fun k hk=>hk.elim (h.bn k) fun hk=>hk.elim (h.bc k) (h.be k)
theorem PlR.keep(h:PlR w F s si sd sr p)(hk:∀k,F k->k<w.heap.size->w'.heap[k]? =w.heap[k]?):PlR w' F s si sd sr p:=
 ⟨h.sp.keep dk (by decide) hk,h.ini.keep bN (by decide) hk,h.dft.keep bN (by decide) hk,h.ro.keep gC (by decide) hk⟩
theorem Ma.o0(h:Ma w b F sn sv su sc se s si sd sr nm ce ed p)(hO:ay [] w w'):Ma w' b F sn sv su sc se s si sd sr nm ce ed p:=
 ⟨hO.blk h.blk (by simp),h.pl.o0 hO,fun k hk=>⟨cm (h.hF k hk).1 hO.size,(h.hF k hk).2⟩,h.n.keep cP fun k _ bS=>hO.block k bS (by simp),h.c.keep jl fun k _ bS=>hO.block k bS (by simp),h.e.keep rf fun k _ bS=>hO.block k bS (by simp),h.ap,h.ap2⟩
theorem Ma.fin(h:Ma w b F sn sv su sc se s si sd sr nm ce ed p)(z:w.heap.size<=u.heap.size)(hk:∀k,k<w.heap.size->k≠b->¬Q3 sn sc se k->u.heap[k]? =w.heap[k]?)
  (h1:Own ju 1 9 (b+1) u (fun _=>False) Bn nm') (h2:Own JF 11 44 (b+1) u (fun _=>False) xI ce') (h3:Own SE 16 66 (b+1) u (fun _=>False) PM ed')
  (hq:∀k,Q3 Bn xI PM k->Q3 sn sc se k∨w.heap.size<=k) (a1:∀k,ez Bn k->¬ez xI k/\¬ez PM k) (a2:∀k,ez xI k->¬ez PM k)
  (hB:aF u b 93 [Bn.v,sv.v,su.v,xI.v,PM.v,s.v,si.v,sd.v,sr.v]):Ma u b F Bn sv su xI PM s si sd sr nm' ce' ed' p:=
 ⟨hB,h.pl.keep fun k hF bS=>hk k bS (h.hF k hF).2.1 (h.hF k hF).2.2,fun k hF=>⟨by have:=(h.hF k hF).1;omega,(h.hF k hF).2.1,fun e=>(hq k e).elim (h.hF k hF).2.2 fun e=>by have:=(h.hF k hF).1;omega⟩,h1,h2,h3,a1,a2⟩
theorem sX{α:Type}{r:Rp α}{size:Nat}{e:TypeId}{q:Sl}{xs:List α}(hr:r.Ok)(h:Own r size e (b+1) w (fun _=>False) q xs)(hO:ay [b] w w'):Own r size e (b+1) w' (fun _=>False) q xs:=
 h.keep hr fun k hk bS=>hO.block k bS (by have:=hk.resolve_left id;simp;omega)
end
end Go.Proofs.YtbkjcdocjfknfaaGreatDoor.Con
