import Derived.Test.YteoblgpbapdhiaaGreatDoorQg4
set_option maxHeartbeats 4000000
set_option maxRecDepth 100000
set_option linter.all false
open Go.Proofs
open Bool renaming true->aE,false->aL
open Option renaming some->aM,none->VM
open List renaming length->WS
open Decidable renaming decide->JW
open Go renaming World->av,Value->aw
open Go.Value renaming int->O,string->ab,pointer->ae,agg->ah,tuple->ai,bool->aj
open Go.IntKind renaming i64->U,wrap->ar
open Go.Ending renaming returned->ak
open _root_.ByteArray renaming mk->ao
open _root_.Go.Proofs.Tryz renaming prog->aq
open Go.Instr renaming buildSlice->au
open Go renaming World->av,Value->aw,Calls->az
open Go.Kt renaming Only->ay,SliceF->aA,Cells->aB,OnlyP->aD,Blk->aF
instance:Coe Go.World Nat:=⟨λw=>w.heap.size⟩
instance:Coe Int Go.Value:=⟨.int .i64⟩
instance:Coe ByteArray Go.Value:=⟨.string⟩
instance:Coe Go.Kt.Sl Go.Value:=⟨Go.Kt.Sl.v⟩
instance:Coe Nat Go.Value:=⟨λb=>.pointer (.some ⟨b,0,.none⟩)⟩
instance:Coe Go.Value Go.Ending:=⟨.returned⟩
instance{α}:CoeOut (List α) (Array α):=⟨List.toArray⟩
namespace Go.Kt
open Go Go.RowKit Go.MapKept
def CN{a:Type}[DecidableEq a]:∀{V L:J a},V.Nodup->(∀x∈V,x∈L)->WS V<=WS L
 |[],_,_,_=>bE _
 |x::V,L,h,s=>by
  let⟨c,b⟩:=wZ.1 h;have:=s x<|.head _;have:=CN (L:=L.erase x) b R
  grind
def tab{w w1}{b}{o}(h:w1=w∨w1=w.drew):Only [b] w (Go.ChangeMaps.setBlock w1 b o):=by
 rcases h with rfl|rfl
 .exact⟨I,I,I,by simp[Go.ChangeMaps.setBlock],λk hk n=>by
   show(w1.heap.setIfInBounds b o)[k]? =_
   grind⟩
 exact⟨I,I,I,by show w<=(w.heap.setIfInBounds b o).size;simp,λk hk n=>by
  show(w.heap.setIfInBounds b o)[k]? =_
  grind⟩
section
variable{κ:Type}{d:TypeDesc}{kv:κ->aw}{g:κ->Prop}{P:Program}{w w':av}{b r n:Nat}{m:κ->Option aw}{V:J κ}{mty kt et:TypeId}
structure ItV (kv:κ->aw) (g:κ->Prop) (w:av) (b r:Nat) (m:κ->Option aw) (n:Nat) (V:List κ):Prop where
 mem:∃es clock seen c0,w.heap[b]? =aM (.mapIter (aM r) clock seen c0)/\w.heap[r]? =aM (.map es clock)/\Stamped es clock/\clock<=c0/\es.size<=n/\(∀x,x∈es.toList->∃k,x.key=kv k/\g k)/\
  (∀k v,m k=aM v↔∃x,x∈es.toList/\x.key=kv k/\x.val=v)/\V.Nodup/\∀k,k∈V↔∃x,x∈es.toList/\x.key=kv k/\seen.contains x.born=aE
theorem ItV.keep(h:ItV kv g w b r m n V)(i:w'.heap[b]? =w.heap[b]?)(j:w'.heap[r]? =w.heap[r]?):ItV kv g w' b r m n V:=by
 let⟨e,c,s,c0,a,d,f⟩:=h.mem;exact⟨e,c,s,c0,i.trans a,j.trans d,f⟩
theorem ItV.lt(h:ItV kv g w b r m n V):b<w/\r<w:=by
 let⟨e,c,s,c0,a,d,f⟩:=h.mem
 grind
def ItV.only(h:ItV kv g w b r m n V){bs}(O:Only bs w w')(a:b∉bs)(c:r∉bs):ItV kv g w' b r m n V:=h.keep (O.block b h.lt.1 a)<|O.block r h.lt.2 c
theorem ItV.len(K:HQ d kv g)(h:ItV kv g w b r m n V):WS V<=n:=by
 let⟨l,c,s,c0,p,q,t,u,v,y,z,a,f⟩:=h.mem;let i:(V.map kv).Nodup:=(lW.2<|a.imp λo e=>o<|K.inj e)
 have:=@CN aw (Classical.typeDecidableEq _) _ _ i λx j=>by
  obtain⟨k,hk,rfl⟩:=dK.1 j;let⟨e,c,b,_⟩:=(f k).1 hk;exact dK.2 ⟨e,c,b⟩
 grind
theorem MapV.range(i:P.underlying mty=aM (.map kt et))(h:MapV kv g w r m n):
  ∃w',(Instr.range mty<|.map<|aM r).run P w=.ok (.pointer<|aM ⟨w.heap.size,0,VM⟩) w'/\ItV kv g w' w.heap.size r m n []/\Only [] w w'/\w'.heap.size=w.heap.size+1:=by
 let⟨e,c,a,b,j,d,f⟩:=h.mem;refine⟨_,run_range_map w mty kt et r e c i a,⟨e,c,#[],c,(MapKept.heap_alloc w _).1,((MapKept.heap_alloc w _).2 r h.lt).trans a,b,X,j,d,f,List.nodup_nil,λk=>?_⟩,Rk _ _,N⟩;simp_all
theorem ItV.next(K:HQ d kv g)(h:ItV kv g w b r m n V) ty:
  ((∀k,(m k).isSome=aE->k∈V)/\(Instr.next (.pointer<|aM ⟨b,0,VM⟩) aL ty).run P w=.ok (.tuple #[.bool aL]) w)∨
  ∃k v j,m k=aM v/\g k/\k∉V/\(Instr.next (.pointer<|aM ⟨b,0,VM⟩) aL ty).run P w=.ok (.tuple #[.bool aE,kv k,v]) j/\(Instr.entry<|.pointer<|aM ⟨b,0,VM⟩).run P j=.ok (.tuple #[kv k,v]) j/\ItV kv g j b r m n (k::V)/\Only [b] w j:=by
 have⟨f,c,s,c0,C,t,D,E,F,u,z,H,B⟩:=h.mem;have⟨IU,B7,ax⟩:=D;have G:b≠r:=R
 rcases run_next_at (P:=P) w ty b r c c0 s f c C t P9 E with⟨I,p⟩|⟨e,l,q,i,p⟩
 .refine .inl ⟨λk hk=>?_,p⟩;have⟨v,h⟩:=fl.1 hk;have⟨x,a,e,_⟩:=(z k v).1 h;refine(B k).2 ⟨x,a,e,?_⟩;cases b:s.contains x.born
  .have:x∈(leftOf f s).toList:=by
    rw[leftOf];simp_all
   simp_all
  rfl
 have g:=l;rw[leftOf,Array.toList_filter]at g;have⟨m,n⟩:=fO.1 g;have n:s.contains e.born=aL:=by simpa using n
 have⟨k,w,T⟩:=u e m;have Q:=tab (b:=b) (o:=.mapIter (aM r) c (s.push e.born) c) i;have N:(Go.ChangeMaps.setBlock q b<|.mapIter (aM r) c (s.push e.born) c).heap[b]? =aM (.mapIter (aM r) c (s.push e.born) c):=by
  have a:b<q:=by
   rcases i with rfl|rfl<;>exact h.lt.1
  show(q.heap.setIfInBounds b _)[b]? =_;rw[Array.getElem?_setIfInBounds_self_of_lt a]
 have v:=(Q.block r h.lt.2<|by simpa using X).trans t;have S:∀x∈f.toList,x.key=kv k->x=e:=λx M hk=>by
  have h:=lW.1 ax;by_cases c:x=e
  .exact c
  exfalso;have o:∀{d:J MapEntry} {a b:MapEntry},d.Pairwise (λx y=>x.key≠y.key)->a∈d->b∈d->a≠b->a.key≠b.key:=fun{d}=>by
   induction d with
   |nil=>exact R
   |cons y d r=>
    intro a b h e k p;have⟨s,x⟩:=gM.1 h
    grind
  exact R
 have L:k∉V:=A
 refine .inr ⟨k,e.val,_,R,T,L,by rw[p,w],?_,⟨f,c,s.push e.born,c,N,v,P9,X,F,u,z,R,λd=>?_⟩,Q⟩
 .rw[<-w];exact run_entry_at (P:=P) _ b r c s f c e N v m B7
 have c:∀y:MapEntry,(s.push e.born).contains y.born=_:=λy=>contains_push s e.born y.born;constructor
 .grind
 rintro⟨x,M,k,e⟩;rw[c,cj]at e;rcases e with e|e
 .exact .tail _ ((B d).2 ⟨x,M,k,e⟩)
 have o:=by simpa using e
 have:=by
  have r:∀{d:J MapEntry} {a b:MapEntry},(d.map _).Nodup->a∈d->b∈d->a.born=b.born->a=b:=fun{d}=>by
   induction d with
   |nil=>exact λ_ h=>VI
   |cons y d x=>
    intro a b c s o l;obtain⟨P,V⟩:=wZ.1 c;rcases ba.1 s with rfl|h<;>rcases ba.1 o with rfl|W
    .rfl
    .exact absurd (dK.2 ⟨b,W,l.symm⟩) P
    .exact R
    exact x V h W l
  exact r B7 M m o
 subst this;have:=K.inj<|k.symm.trans w;subst this;exact .head _
end
abbrev gI(k:Int):Prop:=0<=k/\k<64
def CO:HQ (.int .i64) kN gI:=⟨λ_=>I,R⟩
def MapV.W9{w}{r n}{m}(b:MapV kN gI w r m n):MapV kN gI w r m 64:=by
 let⟨s,c,d,h,j,a,f⟩:=b.mem;refine⟨s,c,d,h,?_,a,f⟩;have:=@CN aw (Classical.typeDecidableEq _) _ ((List.range 64).map λi:Nat=>kN i) h.2.2 λx g=>by
  obtain⟨e,c,rfl⟩:=dK.1 g;let⟨k,l,m,n⟩:=a e c;refine dK.2 ⟨k.toNat,R,?_⟩
  grind
 simpa using this
section
variable{P:Program}{w:av}{r n:Nat}{m:Int->Option aw}{kt:TypeId}
theorem MapV.auv(hk:P.underlying kt=aM (.int .i64))(b:MapV kN gI w r m n)(t:n<=maxLen):∃D:DataW Nat,World.ownsMap w P kt (λ_=>aM (.nil,[])) r n D/\Go.Maps.size D<=n/\(Go.intKeys D).Nodup/\∀k,k∈Go.intKeys D↔(m k).isSome=aE:=by
 let⟨s,c,o,g,a,q,i⟩:=b.mem;let f:∀{k:Int},gI k->(Lit.int .i64 k).wf=aE:=fun{k} j=>by
  simp[Lit.wf,IntKind.min,IntKind.max,IntKind.signed,IntKind.bits];omega
 let E:∀x∈s.toList,∃k,x.key=kN k/\keyOf P kt x.key=aM (.int .i64 k):=λx h=>by
  let⟨k,e,j⟩:=q x h;rw[e];exact⟨k,I,by simp[keyOf,hk,mapKey,kN,f j]⟩
 let d:∀x∈s.toList,∃k,x.key=kN k/\Go.WideElems.rd P kt (H:=Nat) (λ_=>aM (.nil,[])) x=aM (.int .i64 k,.nil):=λx h=>by
  let⟨k,e,b⟩:=E x h;exact⟨k,e,by simp[Go.WideElems.rd,b]⟩
 let l:(Go.intKeys<|.map<|(s.toList.map<|Go.WideElems.rg P kt (H:=Nat) λ_=>aM (.nil,[])).foldr DataW.insert []).Perm (s.toList.map λx=>Go.intOf (Go.WideElems.rg P kt (H:=Nat) (λ_=>aM (.nil,[])) x).1):=by
  have:=(Go.WideShapes.sorted_perm<|s.toList.map<|Go.WideElems.rg P kt (H:=Nat) λ_=>aM (.nil,[])).map λp=>Go.intOf p.1;rw[gV]at this;exact this
 refine⟨_,⟨s,c,o,⟨X,g,λx h=>?_⟩,a,I⟩,?_,?_,?_⟩
 .grind
 .rw[Go.Maps.size_eq,(Go.WideShapes.sorted_perm _).length_eq];simpa using a
 .rw[l.nodup_iff];refine lW.2<|((stamped_iff _ _).1 g).2.2.imp_of_mem ?_;intro x y h p n e;let⟨k,r,c⟩:=d x h;let⟨v,u,m⟩:=d y p;rw[Go.WideElems.rg_of c,Go.WideElems.rg_of m]at e;simp[Go.intOf]at e;simp_all
 intro k;rw[l.mem_iff,dK];constructor
 .rintro⟨x,h,e⟩;let⟨m,c,k⟩:=d x h;rw[Go.WideElems.rg_of k]at e;simp[Go.intOf]at e;subst e;rw[(i m x.val).2 ⟨x,h,c,I⟩];rfl
 intro a;let⟨v,n⟩:=fl.1 a;let⟨x,h,e,_⟩:=(i k v).1 n;let⟨p,c,m⟩:=d x h;refine⟨x,h,?_⟩;rw[Go.WideElems.rg_of m];exact CO.inj<|c.symm.trans e
theorem adT{L s:J Int}(h:L.Pairwise (· <·))(a:s.Nodup)(e:∀k,k∈s↔k∈L):s.mergeSort (λx y=>JW<|x<=y)=L:=by
 rw[Go.mergeSort_of_perm_i ((List.perm_ext_iff_of_nodup a<|h.imp X).2 e)];refine List.mergeSort_of_pairwise<|h.imp λb=>?_;simp;omega
end
end Go.Kt
namespace Con
open Go Go.RowKit Go.Kt Go.Kt.V Vc
abbrev mB(p:Int->C):Int->Option aw:=λk=>if p k=aE then aM (aj aE)else VM
abbrev mT(w:av)(r:Nat)(p:Int->C):Prop:=MapV kN gI w r (mB p) 64
def mT.at{w}{r}{p}(h:mT w r p) k:(Instr.lookup 95 (.map<|aM r) (O U k) aL).run aq w=.ok (aj<|p k) w:=by
 have:=h.lookup (P:=aq) (mty:=95) (kt:=3) (et:=4) (z:=aj aL) CO D D (λw=>Tryz.zeroValue4 w) k
 grind
def mT.of{w}{r}{p q}(h:mT w r p)(e:∀k,p k=q k):mT w r q:=R
def mT.ok{w}{r}{p}(h:mT w r p){k}(hk:p k=aE):gI k:=MapV.ok h CO (k:=k) A
def CP{w}{r}{p}{s:Sl}{l}{F:h}(f:mT w r p)(a:aA rInt 1 w F s l)(t:¬F r)(i:∀x∈l,gI x):az aq 47 #[.map (aM r),s] w λe d=>e=ai #[]/\mT d r (λk=>p k||JW (k∈l))/\ay [r] w d:=by
 refine jK<|aAm<|have q:=a.len;have c:=a.cap;have n:=a.big;⟨λv m u=>∃j:Nat,m=j/\v+j=WS l/\j<=WS l/\mT u r (λk=>p k||JW (k∈l.take j))/\ay [r] w u,WS l,⟨0,I,X,X,f.of λk=>N,qE _ _⟩,?_⟩;rintro v _ z ⟨j,rfl,y,o,g,b⟩;refine⟨λc=>?_,λc=>?_⟩
 .have c:=S c;have e:j<WS l:=X
  have⟨ad,r,s⟩:=ig (ZH bA Z a b R)<|aR e;obtain⟨E,x,B,C⟩:=MapV.update (P:=aq) (mty:=95) (kt:=3) (et:=4) CO D D g (i _<|mX e) _;refine⟨ad,r,_,s,E,x,v-1,X,j+1,N0,X,X,(MapV.W9 B).ext λk=>?_,b.trans C R⟩;dsimp[mB];have G:l.take (j+1)=l.take j++[l[j]]:=A
  grind
 have c:=aQ c;have e:j=WS l:=X
 simp_all
def XZ(w:av)(F:h)(s:Sl):Prop:=s.c<=9223372036854775807/\(s=Sl.nil∨∃g y,s.a=aM ⟨g,0,VM⟩/\aF w g 3 y/\WS y=s.c/\F g)
def XZ.keep{w w':av}{F:h}{s:Sl}(a:XZ w F s)(hk:∀k,F k->k<w->w'.heap[k]? =w.heap[k]?):XZ w' F s:=by
 refine⟨a.1,a.2.imp id ?_⟩;rintro⟨g,y,d,b,e,c⟩;exact⟨g,y,d,(hk g c b.lt).trans b,e,c⟩
def XZ.imp{w:av}{F G:h}{s:Sl}(a:XZ w F s)(hk:∀k,F k->k<w->G k):XZ w G s:=by
 refine⟨a.1,a.2.imp id ?_⟩;rintro⟨g,y,c,b,d,e⟩;exact⟨g,y,c,b,d,hk g e b.lt⟩
def vG:Rp (Int×J Int):=λw F x c=>∃t,c=[O U x.1,t.v]/\aA rInt 1 w F t x.2/\XZ w F t
def eM:vG.Ok where
 keep:=by
  rintro w e F x c ⟨d,h,a,b⟩ hk;exact⟨d,h,a.keep bA Z hk,b.keep hk⟩
 inHeap:=by
  rintro w F x c ⟨d,h,a,b⟩;exact⟨d,h,a.inHeap bA Z,b.imp R⟩
 mono:=by
  rintro w F G x c ⟨d,h,a,b⟩ hk;exact⟨d,h,a.mono bA hk,b.imp R⟩
 one:=by
  rintro w F x c ⟨d,rfl,_⟩ v h;simp at h;rcases h with rfl|rfl<;>rfl
def DF{w}{F}{sp}{L}(h:aA vG 2 w F sp L){i:Nat}{x}(a:L[i]? =aM x):∃ad,∃t,ci sp i 2 ad/\aB w ad [x.1,t.v]/\aA rInt 1 w F t x.2:=by
 have:=(aZ.1 a).1;have:=h.len;obtain⟨ad,y,c,g,d,e,f,j,m,rfl,k,_⟩:=h.get (bf i) X
 grind
def e7{B:Nat}{w:av}{s:Sl}{l:J Int}(a:dc B w s l){F:h}(c:∀g,B<=g->F g):XZ w F s:=by
 rcases a.U7 with⟨rfl,_⟩|⟨g,b⟩
 .exact⟨Z,.inl I⟩
 let⟨tail,f,d,i,j,k,e,m⟩:=a.cells b;exact⟨e,.inr ⟨g,_,b,d,by rw[aU,bP];omega,c g (a.blk b).1⟩⟩
def dZ(l:J (Int×J Int)):EH:=l.foldl (λM x=>λk=>if k=x.1 then aM x.2 else M k) λ_=>VM
structure PastV (w:av) (F:h) (r:Nat) (M:EH):Prop where
 ex:∃m,MapV kN gI w r m 64/\(∀k,M k=VM->m k=VM)/\∀k l,M k=aM l->∃s:Sl,m k=aM s.v/\aA rInt 1 w F s l
section
variable{w w':av}{F:h}{r:Nat}{M:EH}
def PastV.only(a:PastV w F r M){bs}(h:ay bs w w')(g:r∉bs)(f:∀k,F k->k<w->k∉bs):PastV w' F r M:=by
 let⟨m,b,c,d⟩:=a.ex;exact⟨m,Rv b h g,c,λk j l=>let⟨s,e,i⟩:=d k j l;⟨s,e,ZH bA Z i h f⟩⟩
def PastV.o0(h:PastV w F r M)(O:ay [] w w'):PastV w' F r M:=h.only O N N
theorem PastV.mono{G}(h:PastV w F r M)(hk:∀k,F k->G k):PastV w G r M:=by
 let⟨m,a,b,c⟩:=h.ex;exact⟨m,a,b,λk f l=>let⟨s,e,d⟩:=c k f l;⟨s,e,d.mono bA hk⟩⟩
theorem PastV.at(h:PastV w F r M) k:∃s,(Instr.lookup 99 (.map<|aM r) (O U k) aE).run aq w=.ok (ai #[s.v,aj (M k).isSome]) w/\∀l,M k=aM l->aA rInt 1 w F s l:=by
 let⟨m,a,b,c⟩:=h.ex;have:=a.U5 (P:=aq) (mty:=99) (kt:=3) (et:=31) (z:=Sl.nil.v) CO D D (λw=>Tryz.zeroValue31 w) k;rcases hm:M k with _|l
 .rw[b k hm]at this;exact⟨Sl.nil,this,λl h=>VI⟩
 grind
theorem PastV.set(h:PastV w F r M){k}(g:gI k){s}{l}(o:aA rInt 1 w F s l)(n:¬F r):∃w',(Instr.mapUpdate 99 (.map<|aM r) k s).run aq w=.ok () w'/\PastV w' F r (λx=>if x=k then aM l else M x)/\ay [r] w w':=by
 let⟨p,e,j,m⟩:=h.ex;let⟨a,c,d,b⟩:=MapV.update (P:=aq) (mty:=99) (kt:=3) (et:=31) CO D D e g s;have:∀{t:Sl} {q:J Int},aA rInt 1 w F t q->aA rInt 1 a F t q:=λf=>ZH bA Z f b R;refine⟨a,c,⟨_,MapV.W9 d,λx i=>?_,λx q i=>?_⟩,b⟩
 .grind
 grind
theorem PastV.drop(d:PastV w F r M) k (l:¬F r):∃w',(Builtin.delete_ #[99,3] 0 #[.map (aM r),O U k]).run aq w=.ok (ai #[]) w'/\PastV w' F r (λx=>if x=k then VM else M x)/\ay [r] w w':=by
 let⟨m,f,j,g⟩:=d.ex;let⟨i,a,c,b⟩:=MapV.delete (P:=aq) (mty:=99) (kt:=3) (et:=31) CO D D f k 0;refine⟨i,a,⟨_,MapV.W9 c,λx h=>?_,λx q h=>?_⟩,b⟩
 .simp_all
 by_cases e:x=k
 .grind
 rw[Q e]at h⊢;let⟨t,k,n⟩:=g x q h;exact⟨t,k,ZH bA Z n b R⟩
end
abbrev Wk(w:av)(b:Nat)(s i sd sr:Sl)(r a:Nat):Prop:=aF w b 101 [s,i,sd,sr,.map<|aM r,.map<|aM a]
def EJ(w:av) s si sd sr {sp} {F:h} {L:J (Int×J Int)} (m:aA vG 2 w F sp L) (V:∀x∈L,gI x.1):az aq 37 #[ah #[s.v,si.v,sd.v,sr.v],sp] w λe f=>(∃b r n,e=ae (aM ⟨b,0,VM⟩)/\w<=b/\b<f/\w.heap.size<=r/\r<n/\n<b/\Wk f b s si sd sr r n/\PastV f (λk=>F k/\k<w) r (dZ L)/\mT f n λ_=>aL)/\ay [] w f:=by
 refine jK<|Xu _ _ _ _ _ _ _ ?_;rw[Xt];intro k0 a fH dC T;have⟨G,H,p⟩:=QS (P:=aq) (mty:=99) (kv:=kN) (g:=gI) a;have z1:=p.size;have am:(a.alloc<|.map #[] 0).heap.size=a+1:=A
 refine⟨_,_,G,p.same o,?_⟩;obtain⟨K,M,q⟩:=QS (P:=aq) (mty:=95) (kv:=kN) (g:=gI)<|a.alloc _;have aC:((a.alloc<|.map #[] 0).alloc<|.map #[] 0).heap.size=a+2:=A
 generalize W:a.alloc (.map #[] 0)=C at*
 refine⟨_,_,K,q.same o,λk1 i kZ jl l=>?_⟩;have z3:=l.size;have z:ay [] w i:=((T.bG p).bG q).bG l;have hn:=m.len;have c:=m.cap;have hb:=m.big;have u:aA vG 2 i (λk=>F k/\k<w) sp L:=ZH eM Z (PY eM m Z) z N;have D:PastV i (λk=>F k/\k<w) a λ_=>VM:=⟨_,(Rv (Rv H q N) l N).W9,λ_ _=>I,R⟩
 have E:mT i C λ_=>aL:=((Rv M l N).W9).ext A;refine⟨λv Y B=>∃j:Nat,Y=j/\v+j=WS L/\j<=WS L/\PastV B (λk=>F k/\k<w) a (dZ<|L.take j)/\ay [a] i B,WS L,⟨0,I,X,X,D,qE _ _⟩,?_⟩;rintro v _ w4 ⟨j,rfl,me,hj,y,d⟩;have z4:=d.size;refine⟨λc=>?_,λc Q io=>?_⟩
 .have c:=S c;have s:j<WS L:=X
  have e:aA vG 2 w4 (λk=>F k/\k<w) sp L:=ZH eM Z u d R;have⟨ad,t,x,P,c3⟩:=DF e<|aR s;refine⟨ad,x,_,t,P,λk4 w5 rr yu b=>have⟨w6,d1,d2,g⟩:=(y.o0 b).set (V _<|mX s) (kI c3 b) X;⟨w6,d1,g.same o,v-1,X,j+1,N0,X,X,?_,(d.bG b).trans g R⟩⟩;have ff:L.take (j+1)=L.take j++[L[j]]:=A
  rw[ff,dZ,gZ];exact d2
 have c:=aQ c;have b:j=WS L:=X
 subst b;rw[dA]at y;refine⟨⟨k1,a,C,I,X,X,X,X,X,Q,y,Rv E d o⟩,?_⟩;have:=z.trans d (bs:=[]) R;omega
end Con
namespace Go.Proofs
open Go.Shelf
def Tryz.I3:Go.Shelf.Ren:=⟨λ|7=>84|10=>118|n=>n,λ|23=>95|26=>3|3=>4|28=>144|0=>0|27=>143|33=>93|4=>4|n=>n,λ|n=>n⟩
def Tryz.ajx:Go.Proofs.SlLaysZI.n7 Tryz.prog Tryz.I3:={
 mixed:=D
 f7:=⟨Tryz.f84.name,Z,Tryz.func84.trans<|bn aM D⟩
 f10:=⟨Tryz.f118.name,Z,Tryz.func118.trans<|bn aM D⟩
 t0:=Tryz.underlying0
 a0:=Tryz.isAgg0
 z0:=Tryz.sizeOf0
 v0:=Tryz.zeroValue0
 t4:=Tryz.underlying4
 a4:=Tryz.isAgg4
 z4:=Tryz.sizeOf4
 v4:=Tryz.zeroValue4
 t23:=Tryz.underlying95
 a23:=Tryz.isAgg95
 z23:=Tryz.sizeOf95
 v23:=Tryz.zeroValue95
 t26:=Tryz.underlying3
 a26:=Tryz.isAgg3
 z26:=Tryz.sizeOf3
 v26:=Tryz.zeroValue3
 t27:=Tryz.underlying143
 a27:=Tryz.isAgg143
 z27:=Tryz.sizeOf143
 v27:=Tryz.zeroValue143
 t28:=Tryz.underlying144
 a28:=Tryz.isAgg144
 z28:=Tryz.sizeOf144
 v28:=Tryz.zeroValue144
 t33:=Tryz.underlying93
 a33:=Tryz.isAgg93
 z33:=Tryz.sizeOf93
 v33:=Tryz.zeroValue93}
def Tryz.DM:Go.Shelf.Ren:=⟨λ|6=>83|8=>116|9=>117|11=>166|13=>113|12=>167|23=>164|24=>165|14=>209|15=>210|16=>211|17=>212|18=>213|19=>214|20=>215|21=>216|22=>217|25=>247|26=>205|27=>206|28=>248|29=>249|30=>114|31=>268|n=>n,λ|26=>3|28=>144|24=>31|0=>0|3=>3|37=>180|48=>233|50=>235|4=>4|40=>227|39=>226|45=>166|5=>5|9=>9|51=>267|55=>192|57=>294|58=>209|33=>93|n=>n,λ|n=>n⟩
def Tryz.ahd:Go.Proofs.SlLaysZI.n6 Tryz.prog Tryz.DM:={
 mixed:=D
 f6:=⟨Tryz.f83.name,Z,Tryz.func83.trans<|bn aM D⟩
 f8:=⟨Tryz.f116.name,Z,Tryz.func116.trans<|bn aM D⟩
 f11:=⟨Tryz.f166.name,Z,Tryz.func166.trans<|bn aM D⟩
 t0:=Tryz.underlying0
 a0:=Tryz.isAgg0
 z0:=Tryz.sizeOf0
 v0:=Tryz.zeroValue0
 t24:=Tryz.underlying31
 a24:=Tryz.isAgg31
 z24:=Tryz.sizeOf31
 v24:=Tryz.zeroValue31
 t26:=Tryz.underlying3
 a26:=Tryz.isAgg3
 z26:=Tryz.sizeOf3
 v26:=Tryz.zeroValue3
 t28:=Tryz.underlying144
 a28:=Tryz.isAgg144
 z28:=Tryz.sizeOf144
 v28:=Tryz.zeroValue144
 i26:=D}
def Tryz.Xa:Go.Shelf.Ren:=⟨λ|5=>117|8=>113|7=>167|19=>164|20=>165|10=>209|11=>210|12=>211|13=>212|14=>213|15=>214|16=>215|17=>216|18=>217|30=>247|31=>205|32=>206|33=>248|34=>249|35=>114|40=>268|n=>n,λ|23=>31|25=>3|3=>3|32=>180|22=>31|0=>0|44=>233|46=>235|4=>4|36=>227|35=>226|41=>166|5=>5|9=>9|53=>267|57=>192|63=>294|64=>209|n=>n,λ|n=>n⟩
def Tryz.ajy:Go.Proofs.SlLaysM.n5 Tryz.prog Tryz.Xa:={
 mixed:=D
 f5:=⟨Tryz.f117.name,Z,Tryz.func117.trans<|bn aM D⟩
 f7:=⟨Tryz.f167.name,Z,Tryz.func167.trans<|bn aM D⟩
 f8:=Tryz.func113.trans (bn aM D)
 f10:=⟨Tryz.f209.name,Z,Tryz.func209.trans<|bn aM D⟩
 f11:=⟨Tryz.f210.name,Z,Tryz.func210.trans<|bn aM D⟩
 f12:=⟨Tryz.f211.name,Z,Tryz.func211.trans<|bn aM D⟩
 f13:=⟨Tryz.f212.name,Z,Tryz.func212.trans<|bn aM D⟩
 f14:=⟨Tryz.f213.name,Z,Tryz.func213.trans<|bn aM D⟩
 f15:=⟨Tryz.f214.name,Z,Tryz.func214.trans<|bn aM D⟩
 f16:=⟨Tryz.f215.name,Z,Tryz.func215.trans<|bn aM D⟩
 f17:=⟨Tryz.f216.name,Z,Tryz.func216.trans<|bn aM D⟩
 f18:=⟨Tryz.f217.name,Z,Tryz.func217.trans<|bn aM D⟩
 f19:=Tryz.func164.trans (bn aM D)
 f20:=Tryz.func165.trans (bn aM D)
 f30:=⟨Tryz.f247.name,Z,Tryz.func247.trans<|bn aM D⟩
 f31:=Tryz.func205.trans (bn aM D)
 f32:=Tryz.func206.trans (bn aM D)
 f33:=⟨Tryz.f248.name,Z,Tryz.func248.trans<|bn aM D⟩
 f34:=⟨Tryz.f249.name,Z,Tryz.func249.trans<|bn aM D⟩
 f35:=⟨Tryz.f114.name,Z,Tryz.func114.trans<|bn aM D⟩
 f40:=⟨Tryz.f268.name,Z,Tryz.func268.trans<|bn aM D⟩
 t0:=Tryz.underlying0
 a0:=Tryz.isAgg0
 z0:=Tryz.sizeOf0
 v0:=Tryz.zeroValue0
 t3:=Tryz.underlying3
 a3:=Tryz.isAgg3
 z3:=Tryz.sizeOf3
 v3:=Tryz.zeroValue3
 t4:=Tryz.underlying4
 a4:=Tryz.isAgg4
 z4:=Tryz.sizeOf4
 v4:=Tryz.zeroValue4
 t5:=Tryz.underlying5
 a5:=Tryz.isAgg5
 z5:=Tryz.sizeOf5
 v5:=Tryz.zeroValue5
 t9:=Tryz.underlying9
 a9:=Tryz.isAgg9
 z9:=Tryz.sizeOf9
 v9:=Tryz.zeroValue9
 t22:=Tryz.underlying31
 a22:=Tryz.isAgg31
 z22:=Tryz.sizeOf31
 v22:=Tryz.zeroValue31
 t23:=Tryz.underlying31
 a23:=Tryz.isAgg31
 z23:=Tryz.sizeOf31
 v23:=Tryz.zeroValue31
 t25:=Tryz.underlying3
 a25:=Tryz.isAgg3
 z25:=Tryz.sizeOf3
 v25:=Tryz.zeroValue3
 t32:=Tryz.underlying180
 a32:=Tryz.isAgg180
 z32:=Tryz.sizeOf180
 v32:=Tryz.zeroValue180
 t35:=Tryz.underlying226
 a35:=Tryz.isAgg226
 z35:=Tryz.sizeOf226
 v35:=Tryz.zeroValue226
 t36:=Tryz.underlying227
 a36:=Tryz.isAgg227
 z36:=Tryz.sizeOf227
 v36:=Tryz.zeroValue227
 t41:=Tryz.underlying166
 a41:=Tryz.isAgg166
 z41:=Tryz.sizeOf166
 v41:=Tryz.zeroValue166
 t44:=Tryz.underlying233
 a44:=Tryz.isAgg233
 z44:=Tryz.sizeOf233
 v44:=Tryz.zeroValue233
 t46:=Tryz.underlying235
 a46:=Tryz.isAgg235
 z46:=Tryz.sizeOf235
 v46:=Tryz.zeroValue235
 t53:=Tryz.underlying267
 a53:=Tryz.isAgg267
 z53:=Tryz.sizeOf267
 v53:=Tryz.zeroValue267
 t57:=Tryz.underlying192
 a57:=Tryz.isAgg192
 z57:=Tryz.sizeOf192
 v57:=Tryz.zeroValue192
 t63:=Tryz.underlying294
 a63:=Tryz.isAgg294
 z63:=Tryz.sizeOf294
 v63:=Tryz.zeroValue294
 t64:=Tryz.underlying209
 a64:=Tryz.isAgg209
 z64:=Tryz.sizeOf209
 v64:=Tryz.zeroValue209}
open Go.RowKit Go.Maps Go.Sort Go.Shelf in
theorem Tryz.amB (m:Nat):AnyZI.SortsIn Tryz.prog Tryz.DM Fence.wide m:=
 ⟨λblk off cap ss W hH hblk hsz=>callsIn_wide.2 (AnyM.slices_Sort_int Tryz.ajy blk off cap ss W hH hblk hsz),
  λp cap W=>callsIn_wide.2 (AnyM.slices_Sort_int_none Tryz.ajy p cap W)⟩
open Go.RowKit Go.Maps Go.Sort Go.Shelf in
theorem Tryz.ahe (mb:Option Nat) (W:World):Calls Tryz.prog 84 #[.map mb] W λe w'=>e=.returned (.func (.func 118) #[] #[.pointer (some ⟨W.heap.size,0,none⟩)])/\w'=W.alloc (.cells #[.map mb] 95):=
 callsIn_wide.1 (AnyZI.keys_in Tryz.ajx Fence.wide 5 trivial rfl mb W)
open Go.RowKit Go.Maps Go.Sort Go.Shelf in
theorem Tryz.Xb {H:Type} (k b nn:Nat) (D0:DataW H) (R:Value->Option (DataW H×List MemPlace)) (w:World) (hk:k<w.heap.size) (hm:w.cell? ⟨k,0,none⟩=some (.map (some b))) (qO:w.ownsMap Tryz.prog 3 R b nn D0) (O6:Maps.size D0<=maxLen) (aoa:Maps.size D0*8<=140737488355328):
  Calls Tryz.prog 83 #[.func (.func 118) #[] #[.pointer (some ⟨k,0,none⟩)]] w λe w'=>∃(v:Value) (ss:List Int),e=.returned v/\ss.Perm (intKeys D0)/\
   w'.ownsRow w.heap.size 3 1 v ss.length ((ss.mergeSort (λx y=>decide (x<=y))).map encZ)/\(v=.slice none 0 0↔ss=[])/\Below w.heap.size w w':=by
 have aED:SeqGives Fence.wide 2 Tryz.prog 118 #[.pointer (some ⟨k,0,none⟩)] encZ (λss=>ss.Perm (intKeys D0)) (Maps.size D0) w:=
  AnyZI.keys_gives (ρ:=Tryz.I3) {Tryz.ajx with} Fence.wide _ trivial rfl Y5 k b nn D0 w hk hm qO
 exact callsIn_wide.1 (AnyZI.sorted_in Tryz.ahd Fence.wide 5 trivial trivial trivial trivial rfl Y5 (Tryz.amB _) (enters_of Tryz.func117 ZQ rfl) 118 #[.pointer (some ⟨k,0,none⟩)] trivial (enters_of Tryz.func118 ZQ rfl) _ _ O6 aoa _ aED)
end Go.Proofs
namespace Con
open Go Go.RowKit Go.Kt Go.Kt.V Vc
def agt l w F (h:∀a∈l,gI a):pJ rInt 1 w F l (l.map λa=>[Value.int U a]):=by
 induction l with
 |nil=>exact trivial
 |cons a l i=>
  have:=h a<|.head _;exact⟨⟨I,I,by constructor<;>omega⟩,i λb c=>h b<|.tail _ c⟩
def aa0(l:J Int):(l.map λa=>[Value.int U a]).flatten=l.map Go.encZ:=by
 induction l with
 |nil=>rfl
 |cons a l i=>rw[ch,fE,i];rfl
def aa1{B}{w}{v}{l}{n}(h:w.ownsRow B 3 1 v n (l.map Go.encZ))(k:∀a∈l,gI a):∃s,v=s.v/\dc B w s l:=by
 let⟨d,h⟩:=h;rw[bP,lU]at d;subst d;rcases h with⟨rfl,m⟩|⟨g,cap,c,rfl,e,f,i,o,j,b⟩
 .have:=cM m;subst this;exact⟨Sl.nil,I,E7 ..⟩
 refine⟨⟨aM _,WS l,cap⟩,I,.inr ⟨g,_,c.toList.drop<|WS l,I,e,?_,?_,I,i,?_,agt l w _ k⟩⟩
 .rw[lU]at b;rw[aa0,<-b,eS,aF,f]
 .dsimp only;rw[cT,kg,j];omega
 have:maxLen=9223372036854775807:=I;dsimp only;omega
def itI(k:Nat):OV:=⟨.func (.func 118) #[] #[k],I⟩
def ea{w}{r}{p}{L}(c:mT w r p)(o:L.Pairwise (· <·))(d:∀a,a∈L↔p a=aE):
  az aq 44 #[.map (aM r)] w λe b=>∃s,e=s.v/\dc w b s L/\ay [] w b:=by
 refine jK<|aAj<|(Tryz.ahe _ w).mono ?_;rintro _ g ⟨rfl,rfl⟩;have h:ay [] w (w.alloc<|.cells #[.map (aM r)] 95):=Rk _ _;have hk:aF _ w 95 [.map (aM r)]:=heap_alloc_new w _;generalize w.alloc _=g at*
 refine⟨itI w,I,let⟨i,j,z,l,m⟩:=MapV.auv (P:=aq) (kt:=3) D (Rv c h N) (by have:maxLen=9223372036854775807:=I;omega);(Tryz.Xb w r 64 i _ g hk.lt (hk.cell 0) j (by have:maxLen=9223372036854775807:=I;omega) X).mono ?_⟩;rintro e b ⟨v,y,rfl,k,f,k3,x⟩;have u:y.Nodup:=k.nodup_iff.2 l;rw[adT o u λa=>by
  rw[k.mem_iff,m,d];dsimp only[mB];cases p a<;>simp]at f
 obtain⟨s,rfl,t⟩:=aa1 f λa q=>c.ok<|(d a).1 q;exact⟨s,I,s,I,t.low h.size,h.bG<|YO x⟩
def tB(S:Nat)(k:Int):C:=JW (0<=k)&&S.testBit k.toNat
def Gq(S n:Nat):tB S n=S.testBit n:=by
 rfl
def KP{x}(h:gI x) S k:tB (vF S x) k=(tB S k||JW (k=x)):=by
 unfold tB vF;rw[HV,BC]
 grind
def mJ:∀(l:J Int),(∀x∈l,gI x)->∀S k,tB (l.foldl vF S) k=(tB S k||JW (k∈l))
 |[],_,S,k=>N
 |x::l,h,S,k=>by
  rw[ru,mJ l R,KP<|h x<|.head _,Bool.or_assoc];simp_all
def aa3{a:Type}{l:J a}{j}{t}(h:l[j]? =aM t) f:(l.take<|j+1).any f=((l.take j).any f||f t):=by
 rw[aX,h,xa];simp
def KQ w k:az aq 70 #[O U k] w λe a=>e=aj (fh k)/\a=w:=by
 refine(aAx k (λv a=>v=aj (fh k)/\a=w) w ?_).mono A;refine⟨?_,I⟩;congr 1;rw[fh]
 grind
def PastV.inHeap{w}{F}{r}{M}(h:PastV w F r M):PastV w (λk=>F k/\k<w) r M:=by
 let⟨m,a,b,c⟩:=h.ex;exact⟨m,a,b,λk f l=>let⟨s,e,d⟩:=c k f l;⟨s,e,PY bA d Z⟩⟩
section
variable{w:av}{b r0 r1:Nat}{s si sd sr st:Sl}{xs:J dz}{dft tg:J Int}{F G H:h}{M:EH}
def Gs(K:Wk w b s si sd sr r0 r1)(m:aA nS 5 w F s xs)(i:aA rInt 1 w F sd dft)(L:PastV w G r0 M)(l:aA rInt 1 w H st tg)(ff:WS dft=WS xs)(T:∀t∈tg,∀g,g∈eX xs dft M t->gI g):
  az aq 43 #[b,st] w λe p=>(∃r,e=ak (.map<|aM r)/\w<=r/\mT p r (λk=>tg.any λt=>JW<|k∈eX xs dft M t))/\ay [] w p:=by
 refine jK<|aAi<|let⟨B,D,J⟩:=QS (P:=aq) (mty:=95) (kv:=kN) (g:=gI) w;⟨_,_,B,?_⟩;have z:mT _ w λk=>([]).any λt=>JW (k∈eX xs dft M t):=(MapV.W9 D).ext A;generalize w.alloc _=W at*
 have hn:=l.len;have c:=l.cap;have hb:=l.big;have V:=m.len;refine⟨λf Y u=>∃j:Nat,Y=(j:Int)/\f+j=WS tg/\j<=WS tg/\mT u w (λk=>(tg.take j).any λt=>JW<|k∈eX xs dft M t)/\ay [w] W u,WS tg,⟨0,I,X,X,z,qE _ _⟩,?_⟩;rintro f _ u ⟨j,rfl,me,hj,h,d⟩;have o:ay [] w u:=J.trans d A;refine⟨λc=>?_,λc=>?_⟩
 .have c:=S c;have r:j<WS tg:=X
  obtain⟨t,b⟩:∃t,tg[j]? =aM t:=⟨_,aR r⟩
  have g:=T t<|be b;refine⟨λe=>mT e w (λk=>(tg.take<|j+1).any λt=>JW<|k∈eX xs dft M t)/\ay [w] W e,?_,?_⟩
  .rintro e ⟨a,k⟩;exact⟨f-1,X,j+1,N0,X,X,a,k⟩
  have F:∀{q:Int->C} {P:av},mT P w q->(∀k,q k=_)->mT P w (λk=>(tg.take<|j+1).any λt=>JW<|k∈eX xs dft M t):=λam he=>am.of λk=>by rw[he,aa3 b]
  let⟨ad,W,c2⟩:=ig (kI l o) b;have G:=o.blk K N;refine⟨ad,W,_,c2,aM r0,Hl G 4 I,let⟨l0,d1,d2⟩:=PastV.at (L.inHeap.o0 o) t;⟨l0,_,_,d1,s,λ_=>Hl G 0 I,λH=>⟨F h λk=>?_,d⟩,λH=>⟨s,Hl G 0 I,?_⟩⟩⟩
  .rw[cj,dx,dx]at H;have:eX xs dft M t=[]:=by unfold eX;grind
   grind
  rw[eH,dk,dk]at H;obtain⟨n,rfl⟩:∃n:Nat,t=n:=⟨t.toNat,X⟩
  obtain⟨x,s⟩:∃x,xs[n]? =aM x:=⟨_,aR X⟩
  let⟨vJ,w,e2,_⟩:=gK (ZH cH Z m o N) s;have q:eX xs dft M n=if fh x.k then(match M n with
   |some a=>a
   |none=>[(dft[n]?).getD 0])else[↑n]:=by
   rw[eX,Q X,fz s,aV]
   try rfl
  refine⟨vJ,w,x.k,e2.dv 0 _ I,(KQ u x.k).mono ?_⟩;rintro _ P ⟨rfl,hu⟩;obtain rfl:u=P:=hu.symm;refine⟨_,I,λhh=>?_,λhh=>⟨λhk=>?_,λhk=>?_⟩⟩
  .have hh:=VK
   rw[hh,Q N]at q;have x:=g n (by rw[q];exact .head _);let⟨y,v,f1,f2,f3⟩:=zP u (a:=n) ⟨X,X⟩;have M:=MapV.lt h;refine⟨y,v,f1,(CP (Rv h f2 N) (f3.slice bA) R R).mono ?_⟩;rintro _ w6 ⟨rfl,t,k⟩;exact⟨I,F t R,(d.bG f2).trans k R⟩
  .have hh:=VK
   let⟨v,a⟩:=fl.1 hk;rw[hh,E I,a]at q;refine(CP h (d2 v a) X R).mono ?_;rintro _ y ⟨rfl,t,n⟩;exact⟨I,F t λk=>by rw[q],d.trans n λx H=>.inl H⟩
  have hh:=VK
  have hl:=Wq
  rw[hh,E I,hl]at q;obtain⟨v,t⟩:∃v,dft[n]? =aM v:=⟨_,aR X⟩
  rw[t,jm]at q;have k:=g v R;let⟨x,g1,g2⟩:=ig (kI i o) t;refine⟨sd,Hl G 2 I,x,g1,v,g2,let⟨y,w5,f1,f2,f3⟩:=zP u (a:=v) ⟨by have:=k.1;omega,by have:=k.2;omega⟩;have bJ:=MapV.lt h;⟨y,w5,f1,(CP (Rv h f2 N) (f3.slice bA) R R).mono ?_⟩⟩;rintro _ w6 ⟨rfl,h6,M⟩;exact⟨I,F h6 R,(d.bG f2).trans M R⟩
 have c:=aQ c;have a:j=WS tg:=X
 simp_all
end
structure WkP (w:av) (b:Nat) (s si sd sr:Sl) (r0 r1:Nat) (F G:h) (p:Pl) (M:EH) (S:Nat):Prop where
 blk:Wk w b s si sd sr r0 r1
 pl:PlR w F s si sd sr p
 past:PastV w G r0 M
 set:mT w r1 (tB S)
 n01:r0≠r1
 n0:r0≠b
 n1:r1≠b
 nF:¬F r0/\¬F r1
 nG:¬G r0/\¬G r1
section
variable{w w':av}{b r0 r1 r:Nat}{s si sd sr:Sl}{F G:h}{p:Pl}{M:EH}{S S':Nat}{q:Int->C}{L:J Int}{d:Int}
theorem WkP.step(a:WkP w b s si sd sr r0 r1 F G p M S)(O:ay [r1] w w')(c:mT w' r1 (tB S')):WkP w' b s si sd sr r0 r1 F G p M S':=by
 let n:∀{P:h},¬P r1->∀k,P k->k<w->k∉[r1]:=R
 exact⟨O.blk a.blk<|by simpa using λe=>a.n1 e.symm,⟨ZH cH Z a.pl.sp O<|n a.nF.2,ZH bA Z a.pl.ini O<|n a.nF.2,ZH bA Z a.pl.dft O<|n a.nF.2,ZH gu Z a.pl.ro O<|n a.nF.2⟩,a.past.only O (by simpa using a.n01)<|n a.nG.2,c,a.n01,a.n0,a.n1,a.nF,a.nG⟩
def WkP.o0(h:WkP w b s si sd sr r0 r1 F G p M S)(O:ay [] w w'):WkP w' b s si sd sr r0 r1 F G p M S:=
 ⟨O.blk h.blk N,h.pl.o0 O,h.past.o0 O,Rv h.set O N,h.n01,h.n0,h.n1,h.nF,h.nG⟩
theorem VE(j:WkP w b s si sd sr r0 r1 F G p M S)(hs:mT w r q)(hr:r≠r1)(hq:∀k,q k=aE↔k∈L)(Y:∀g∈L,qW p.sp g)(hd: -1<=d)(l:Fo p.sp)(hl:WS p.sp<=64):
  az aq 45 #[b,.map<|aM r,d] w λe w'=>e=ai #[]/\mT w' r1 (tB<|tX p.sp d L S)/\ay [r1] w w':=by
 refine jK<|aAk ?_;obtain⟨w0,a1,a2,H,a4⟩:=MapV.range (P:=aq) (mty:=95) (kt:=3) (et:=4) D hs;have aS:=MapV.lt j.set;have C:∀{u:av},ay [] w u->ay [r1] w u:=λm=>(qE [r1] w).bG m;refine⟨_,w0,a1,λz u=>∃V:J Int,ItV kN gI u w r (mB q) 64 V/\z+WS V=64/\mT u r1 (tB<|tX p.sp d V.reverse S)/\ay [r1] w u,64,⟨[],a2,I,Rv j.set H N,C H⟩,λz u ⟨V,W,me,Z,m⟩=>?_⟩;have t:∀{k:Int},mB q k≠VM->q k=aE:=A
 rcases ItV.next (P:=aq) CO W 0 with⟨iC,h⟩|⟨k,v,B,hm,am,aC,h,ff,i,K⟩
 .refine .inl ⟨u,h,I,Z.of λk=>?_,m⟩;have q:∀k∈V,k∈L:=λk hk=>by
   obtain⟨s,c,sn,c0,_,_,_,_,_,_,g,_,n⟩:=W.mem;have⟨x,f,b,_⟩:=(n k).1 hk;have:=(g k x.val).2 ⟨x,f,b,I⟩
   grind
  have e:tX p.sp d V.reverse S=tX p.sp d L S:=HW λa=>by
   rw[bM,rQ l hl hd _ S A a,rQ l hl hd L S Y a]
   grind
  rw[e]
 have bv:=t (by rw[hm];simp);have hv:v=aj aE:=by
  simp_all
 subst hv;have L:=Y k<|(hq k).1 bv;have aT:=ItV.len CO i;rw[aY]at aT;have P:ay [r1] w B:=m.trans K A;refine .inr ⟨⟨kN k,I⟩,⟨aj aE,I⟩,B,h,⟨kN k,I⟩,⟨aj aE,I⟩,B,ff,k,I,⟨λM b e=>∃T,mT e r1 (tB T)/\b<M/\ -1<=b/\b<WS p.sp/\XY p.sp d M b T=XY p.sp d (WS p.sp) k _/\ItV kN gI e w r _ 64 _/\ay [r1] w e,WS p.sp,⟨_,Rv Z K o,L.2,by have:=L.1;omega,L.2,I,i,P⟩,?_⟩⟩;rintro M b e ⟨T,G,i1,i2,i3,q,g,F⟩;refine⟨λc=>?_,λc=>?_⟩
 .have c:=aN c;obtain⟨n,rfl⟩:∃n:Nat,b=n:=⟨b.toNat,X⟩
  obtain⟨x,S⟩:∃x,p.sp[n]? =aM x:=⟨_,aR X⟩
  refine⟨aM r1,Hl (j.step F G).blk 5 I,?_⟩;have⟨y,w6,f1,f2,f3⟩:=zP e (a:=↑n) ⟨X,X⟩;have z2:=F.size;have gz:gI ↑n:=X
  refine⟨y,w6,f1,(CP (Rv G f2 N) (f3.slice bA) R R).mono λ_ w7 ⟨rfl,v,fu⟩=>?_⟩;have v:mT w7 r1 (tB _):=v.of λk=>by
   rw[KP gz];congr 1;simp_all
  have r:=((qE [r1] e).bG f2).trans fu R;have V:ay [r1] w w7:=F.trans r R;have d:=j.step V v;have⟨ad,e1,_,e3,_⟩:=gK d.pl.sp S;have bJ: -1<=x.pa/\x.pa<(n:Int):=by
   by_cases a:n=0
   .subst a;have:=(l.rt x S).1;omega
   have _:=l.par S X;omega
  refine⟨I,s,Hl d.blk 0 I,ad,e1,x.pa,e3,M-1,X,vF T n,v,X,X,X,?_,ItV.only g r o Uy,V⟩;rw[<-q];obtain⟨f,rfl⟩:∃f,M=f+1:=⟨M-1,X⟩
  conv=>rhs;unfold XY
  rw[E c,lz S];rfl
 have c:¬b>d:=aQ c;have a:T=XY p.sp d (WS p.sp) k (tX p.sp d V.reverse S):=by
  rw[<-q];cases M with
  |zero=>rfl
  |succ f=>unfold XY;rw[Q c]
 refine⟨z-1,X,k::V,g,R,?_,F⟩;rw[a]at G;unfold tX at G⊢;simp_all
end
def alK{w}{F}{s}{l}(h:aA rInt 1 w F s l){i:Nat}{x}(a:l[i]? =aM x):ri x:=by
 have:=(aZ.1 a).1;have:=h.len;let⟨ad,y,c,d,g,e,f,j,b⟩:=h.get (bf i) X;rw[aV,a]at g;cases g;exact b.2
def ah6{xs}(sd:Sd xs) n:((fi xs n<|WS xs).filter λx=>!(λy=>fh<|kd xs y) x)=dG xs n:=by
 refine R8 λx a=>?_;obtain⟨q,t,rfl,_,h,_⟩:=qL.1 a;have:=sd.kn q t h;dsimp only;rw[oo h];unfold fh Bz
 grind
section
variable{w:av}{b r0 r1:Nat}{s si ny sr:Sl}{F G:h}{p:Pl}{M:EH}{S:Nat}
def cvP(h:WkP w b s si ny sr r0 r1 F G p M S)(sd:Sd p.sp)(hi:WS p.ini=WS p.sp)(P:WS p.dft=WS p.sp)(am:∀(n:Nat) (t:dz),p.sp[n]? =aM t->t.k≠2->dG p.sp n≠[]->∀g,g∈eX p.sp p.dft M ((p.ini[n]?).getD 0)->qW p.sp g):
  az aq 46 #[b] w λe J=>∃t:Sl,e=t/\dc w J t (kc<|qZ p.sp (λn=>eX p.sp p.dft M<|(p.ini[n]?).getD 0) (WS p.sp) S)/\ay [r1] w J:=by
 refine jK<|aAl ?_;intro c K fH dC m;have z0:=m.size;have z:=h.o0 m;have aC:=MapV.lt h.set;have Dd:=h.blk.lt;have lG:=sd.le;have aT:=h.pl.sp.len;have aS:=h.pl.sp.big;have H:∀{a u:av},ay [] a u->ay [r1] a u:=λd=>(qE [r1] _).bG d;generalize V:(λn:Nat=>eX p.sp p.dft M _)=l at*
 have B:∀j:Nat,l j=eX p.sp p.dft M _:=λj=>by rw[<-V]
 refine⟨s,Hl z.blk 0 I,λC bv q u=>∃j:Nat,bv=(j:Int)/\C+j=WS p.sp/\j<=WS p.sp/\q=aM ⟨b,0,VM⟩/\mT u r1 (tB<|qZ p.sp l j S)/\ay [r1] K u,WS p.sp,⟨0,I,X,X,I,z.set,qE _ _⟩,?_⟩;rintro C _ _ u ⟨j,rfl,me,hj,rfl,Y,d⟩;have W:=z.step d Y;have zu:=d.size;refine⟨λi=>?_,λi=>?_⟩
 .have i:=aN i;have F:j<WS p.sp:=X
  obtain⟨x,n⟩:∃x,p.sp[j]? =aM x:=⟨_,aR F⟩
  refine⟨λq w=>q=aM ⟨b,0,VM⟩/\mT w r1 (tB<|qZ p.sp l (j+1) S)/\ay [r1] K w,?_,?_⟩
  .rintro _ w ⟨rfl,a,h2⟩;exact⟨C-1,X,j+1,N0,X,X,I,a,h2⟩
  have bY:qZ p.sp l (j+1) S=N1 p.sp l (qZ p.sp l j S) j:=I;rw[bY];generalize qZ p.sp l j S=T at*
  have Cb:=oo n;let⟨ad,e1,e2,_⟩:=gK W.pl.sp n;refine⟨ad,e1,_,_,_,_,_,e2,_,I,λk4 w3 rr yu cN=>have bV:=W.o0 cN;have o3:=d.bG cN;⟨aM r1,Hl bV.blk 5 I,_,w3,mT.at bV.set (j:Int),λ_ _=>I,λhb=>?_,λhb=>?_⟩⟩
  .have hb:T.testBit j=aL:=by rw[Gq]at hb;simpa using hb
   refine⟨I,?_,o3⟩;unfold N1;rw[hb,Q N];exact bV.set
  have hb:T.testBit j=aE:=by rw[Gq]at hb;simpa using hb
  refine⟨_,I,s,Hl bV.blk 0 I,(QO bV.pl.sp sd.fo n X).mono ?_⟩;rintro _ w5 ⟨⟨t,rfl,S⟩,dV⟩;have z5:=dV.size;refine⟨t,I,dV.same o,λcc io=>?_⟩;have co:=bV.o0 dV;have qk:∀{q:Nat},t.a=aM ⟨q,0,VM⟩->w3<=q:=λe=>(S.blk e).1;have nk:∀q<w3.heap.size,¬(t.a=aM ⟨q,0,VM⟩):=R
  have HK:WS (fi p.sp j<|WS p.sp)<=2000000:=by
   have:WS (fi p.sp j<|WS p.sp)<=WS p.sp:=by
    unfold fi;rw[bP];exact R
   omega
  have ce:=PY cH bV.pl.sp Z;refine(yR (f:=⟨.func (.func 85) #[] #[c],I⟩) S HK ⟨ia D,λy hy v Yx=>?_⟩ (p:=λy=>fh<|kd p.sp y) (cap:=[c]) I).mono ?_
  .obtain⟨M,t,rfl,_,a,_⟩:=qL.1 hy;have f:=Yx.blk cc<|nk c X;have q:=Yx.blk co.blk<|nk b X;have g:aA nS 5 v _ s p.sp:=(ZH cH Z ce dV N).keep cH Z λk hk e=>Yx.block k e<|nk k hk.2;refine jK<|aAB<|let⟨L,r,x,_⟩:=gK g a;⟨aM _,f.cells 0 _ N,_,I,s,Hl q 0 I,L,r,t.k,x.dv 0 _ I,(KQ v t.k).mono ?_⟩;rintro _ G ⟨rfl,y⟩;obtain rfl:v=G:=y.symm;exact⟨_,I,by rw[oo a],qE _ _⟩
  rintro _ w6 ⟨t2,rfl,_,_,fd,dr⟩;rw[ah6 sd j]at fd;have eQ:ay [] w3 w6:=(dV.ph<|dr.mono (G:=λq=>w3<=q) R).only X;have z6:=eQ.size;have s:=bV.o0 eQ;have o6:=o3.bG eQ;have cC:aF w6 c 87 [ae _]:=dr.blk cc<|nk c X;have el:=fd.slice bA;have ff:=el.len;have dO:∀y,y∈dG p.sp j->gI y:=λy hy=>by
   obtain⟨a,t,rfl,k,_⟩:=mF.1 hy;have:=(aZ.1 k).1;exact X
  have gE:¬(False∨w3<=r1/\t2.a=aM ⟨r1,0,VM⟩):=by rintro(h|⟨h,_⟩)<;>omega
  refine⟨t2,I,λq hq=>?_,aM ⟨b,0,VM⟩,cC,λh2=>?_,λh2=>?_⟩
  .simp only[bh]at hq;subst hq;exact dr.block _ X<|nk _ X
  .have h2:x.k=2:=ZY
   refine⟨⟨b,0,VM⟩,I,aM r1,Hl s.blk 5 I,(CP s.set el gE dO).mono ?_⟩;rintro _ e ⟨rfl,a,f⟩;refine⟨I,f.same o,aM _,f.blk cC o,I,?_,o6.trans f R⟩;unfold N1;rw[hb,E I,Cb,E h2];exact a.of λk=>by rw[mJ _ dO]
  have h2:x.k≠2:=ZY
  have G:N1 p.sp l T j=if dG p.sp j≠[]/\((dG p.sp j).all λr=>!T.testBit r.toNat)=aE then tX p.sp j (l j) T else T:=by
   unfold N1;rw[hb,E I,Cb,Q h2]
  refine⟨λbb q u8=>q=aM ⟨b,0,VM⟩/\ay [] w6 u8/\(bb=aE↔dG p.sp j≠[]/\((dG p.sp j).all λr=>!T.testBit r.toNat)=aE),?_,?_⟩
  .rintro bb _ u8 ⟨rfl,f,e⟩;have z8:=f.size;have o8:=o6.bG f;refine⟨λS=>λw9 x q=>?_,λT=>⟨I,?_,o8⟩⟩
   .have S:=e.1 S;rw[E S]at G;have z9:=x.size;have o9:=o8.bG x;have gO:=(s.o0 f).o0 x;obtain⟨v,hv⟩:∃v,p.ini[j]? =aM v:=⟨_,aR X⟩
    let⟨vJ,g1,g2⟩:=ig gO.pl.ini hv;let⟨y,dh,f1,f2,f3⟩:=zP w9 (a:=v)<|alK gO.pl.ini hv;have Ja:=f2.size;have gG:=gO.o0 f2;have g8:l j=eX p.sp p.dft M v:=by rw[B,hv];rfl
    have D9:∀g,g∈eX p.sp p.dft M v->qW p.sp g:=R
    refine⟨λk=>k=c,I,I,⟨b,0,VM⟩,I,si,Hl gO.blk 1 I,vJ,g1,v,g2,y,dh,f1,f2.same o,ZX f2,(Gs gG.blk gG.pl.sp gG.pl.dft gG.past (f3.slice bA) P<|λt S g hg=>?_).mono ?_⟩
    .rw[bh]at S;subst S;have:=D9 g hg;exact⟨this.1,by have:=this.2;omega⟩
    rintro _ dE ⟨⟨r,rfl,hr,M⟩,a⟩;have Hi:=a.size;have t:=gG.o0 a;have g:=a.blk (f2.blk q N) N;refine⟨aM r,I,a.same o,aM _,g,ZX a,(VE t M (L:=l j) X R A X sd.fo lG).mono ?_⟩;rintro _ ey ⟨rfl,v,p⟩;refine⟨I,p.same o,aM ⟨b,0,VM⟩,p.blk g o,λk hk y=>p.block k y<|by rw[hk];simp;omega,I,by rw[G];exact v,((o9.bG f2).bG a).trans p R⟩
   rw[Q λa=>by rw[e.2 a]at T;cases T]at G;rw[G];exact Rv s.set f N
  refine⟨λa=>?_,λa=>⟨I,qE _ _,⟨R,λ⟨h,_⟩=>?_⟩⟩⟩
  .have a:=aN a;refine(aBA (f:=⟨.func (.func 87) #[] #[c],I⟩) el (by have:=BA p.sp j;omega) ⟨ia D,λy hy v Yx=>?_⟩ (p:=λy=>tB T y) (cap:=[c]) I).mono ?_
   .have Yx:ay [] w6 v:=Yx.only λ_ h=>h.elim;have e:=Yx.blk cC N;have cW:=s.o0 Yx;exact jK<|aAC ⟨aM _,e.cells 0 _ N,⟨b,0,VM⟩,I,aM r1,Hl cW.blk 5 I,_,v,mT.at cW.set y,I,qE _ _⟩
   rintro _ f ⟨rfl,L⟩;refine⟨_,I,L.same o,aM ⟨b,0,VM⟩,L.blk cC N,I,L,?_⟩;have e:((dG p.sp j).any λy=>tB T y)=!((dG p.sp j).all λr=>!T.testBit r.toNat):=by
    rw[List.all_eq_not_any_not,R9];simp only[R9];rw[bM,gW,gW];refine exists_congr λy=>and_congr_right λhy=>?_;have:=(dO y hy).1;unfold tB;rw[bO this,cd]
   rw[e,R9];constructor
   .exact R
   exact λh=>h.2
  have a:=aQ a;have:WS (dG p.sp j)=0:=X
  exact A
 have i:=aQ i;have b:j=WS p.sp:=X
 subst b;refine⟨_,I,aM r1,Hl W.blk 5 I,(ea W.set (Xe<|qZ p.sp l (WS p.sp) S) λa=>?_).mono ?_⟩
 .rw[CL];constructor
  .rintro⟨k,rfl,_,h⟩;rw[Gq];exact h
  intro h;have g:=W.set.ok h;unfold tB at h;rw[aO,dx]at h;exact R
 rintro _ f ⟨t,rfl,e,a⟩;exact⟨t,I,a.same o,t,I,e.low X,((H m).trans d R).bG a⟩
end
def qc(p:Pl)(M:EH)(S:Nat)(k:Int):Nat:=if k<0 then S else match p.ro[k.toNat]? with
 |some r=>if r.dom<0 then S else tX p.sp r.dom (r.tg.flatMap<|eX p.sp p.dft M) S
 |none=>S
abbrev BG(p:Pl)(M:EH)(n:Nat):J Int:=eX p.sp p.dft M<|(p.ini[n]?).getD 0
structure Gdp (p:Pl) (M:EH):Prop where
 sd:Sd p.sp
 i:WS p.ini=WS p.sp
 d:WS p.dft=WS p.sp
 gl:∀(n:Nat) (t:dz),p.sp[n]? =aM t->t.k≠2->dG p.sp n≠[]->∀g,g∈BG p M n->qW p.sp g
 ro:∀r,r∈p.ro->∀t,t∈r.tg->∀g,g∈eX p.sp p.dft M t->qW p.sp g
def PlR.Da{w}{F}{s si sd sr}{p}(h:PlR w F s si sd sr p):PlR w (λk=>F k/\k<w) s si sd sr p:=
 ⟨PY cH h.sp Z,PY bA h.ini Z,PY bA h.dft Z,PY gu h.ro Z⟩
def u0{l:J Int}{f}{k:Int}:(l.any λt=>JW<|k∈f t)=aE↔k∈l.flatMap f:=by
 simp_all
section
variable{w w1 w0:av}{b r0 r1:Nat}{s si ny sr sp sk:Sl}{F G H:h}{p:Pl}{L:J (Int×J Int)}{ks:J Int}
theorem Ue(P:PlR w0 F s si ny sr p)(f:w0<=b)(d:w0<=r0)(c:r0<r1)(e:r1<b)(B:Wk w1 b s si ny sr r0 r1)(h:PastV w1 (λk=>G k/\k<w0) r0 (dZ L))(S:mT w1 r1 λ_=>aL)(U:ay [] w0 w1):WkP w1 b s si ny sr r0 r1 (λk=>F k/\k<w0) (λk=>G k/\k<w0) p (dZ L) 0:=
 ⟨B,P.Da.o0 U,h,S.of λk=>by simp[tB],X,X,X,X,⟨by rintro⟨_,a⟩;omega,by rintro⟨_,a⟩;omega⟩⟩
theorem Oa(K:PlR w F s si ny sr p)(D:Gdp p (dZ L))(J:aA vG 2 w G sp L)(l:∀x∈L,gI x.1)(i:aA rInt 1 w H sk ks):
  az aq 14 #[ah #[s,si,ny,sr],sp,sk] w λe y=>(∃t:Sl,e=t/\dc w y t (kc<|qZ p.sp (BG p<|dZ L) (WS p.sp)<|ks.foldl (qc p<|dZ L) 0))/\ay [] w y:=by
 refine jK<|az7 ?_;intro k0 w0 m dC d;have z0:=d.size;refine(EJ w0 s si ny sr (ZH eM Z J d N) l).mono ?_;rintro _ w1 ⟨⟨b,r0,r1,rfl,V,qN,A,z,B,C,P,zb⟩,f⟩;have z1:=f.size;have W:=Ue (K.o0 d) V A z B C P zb f;have hn:=i.len;have c:=i.cap;have ff:=i.big;refine⟨_,I,f.same o,λv Y u=>∃j:Nat,Y=j/\v+j=WS ks/\j<=WS ks/\mT u r1 (tB<|(ks.take j).foldl (qc p<|dZ L) 0)/\ay [r1] w1 u,WS ks,⟨0,I,X,X,W.set,qE _ _⟩,?_⟩;rintro v _ u ⟨j,rfl,me,hj,M,a⟩;have h:=W.step a M;have zu:=a.size;have q:=(d.bG f).trans a R;refine⟨λc=>?_,λc=>?_⟩
 .have c:=S c;have s:j<WS ks:=X
  obtain⟨k,hk⟩:∃k,ks[j]? =aM k:=⟨_,aR s⟩
  refine⟨λb=>mT b r1 (tB<|(ks.take<|j+1).foldl (qc p<|dZ L) 0)/\ay [r1] w1 b,?_,?_⟩
  .rintro b ⟨g,e⟩;exact⟨v-1,X,j+1,N0,X,X,g,e⟩
  have j8:(ks.take<|j+1).foldl (qc p<|dZ L) 0=qc p (dZ L) ((ks.take j).foldl (qc p<|dZ L) 0) k:=by
   rw[aX,hk,gZ];rfl
  rw[j8];generalize (ks.take j).foldl _ 0=T at*
  let⟨ad,a1,a2⟩:=ig (kI i q) hk;refine⟨ad,a1,_,a2,(N9 h.blk h.pl.ro k).mono ?_⟩;rintro _ w4 ⟨⟨x1,x2,x3,ev,wt,tg,G,is,rfl,H,Xc⟩,w⟩;have z4:=w.size;refine⟨x1,x2,x3,ev,wt,tg,G,is,I,w.same o,λht k4 w5 rr yu x=>?_,λhf k5 w8 tA Az fD=>⟨?_,(a.bG w).bG fD⟩⟩
  .obtain⟨n,r,rfl,F,hd,rfl,ob⟩:=H ht;have z5:=x.size;have am:=(h.o0 w).o0 x;have D9:=D.ro r<|be F;have lG:=D.sd.le;refine⟨λk=>k=k4,I,(Gs am.blk am.pl.sp am.pl.dft am.past (kI ob x) D.d λt ht g l=>?_).mono ?_⟩
   .have:=D9 t ht g l;exact⟨this.1,by have:=this.2;omega⟩
   rintro _ w6 ⟨⟨r',rfl,aS,aC⟩,t⟩;have z6:=t.size;refine⟨aM r',I,t.same o,ZX t,(VE (am.o0 t) aC (L:=r.tg.flatMap _) X (λk=>u0) (λg l=>?_) X D.sd.fo lG).mono ?_⟩
   .grind
   rintro _ w7 ⟨rfl,h7,g⟩;have e:qc p (dZ L) T n=tX p.sp r.dom (r.tg.flatMap<|eX p.sp p.dft<|dZ L) T:=by
    rw[qc,Q X,aV,F];dsimp only;rw[Q X]
   refine⟨I,g.same o,λk hk bJ=>g.block k bJ R,by rw[e];exact h7,(((a.bG w).bG x).bG t).trans g R⟩
  have e:qc p (dZ L) T k=T:=by
   unfold qc;by_cases m:k<0
   .rw[E m]
   rw[Q m];obtain⟨n,rfl⟩:∃n:Nat,k=n:=⟨k.toNat,X⟩
   rw[aV];rcases F:p.ro[n]? with _|r
   .rfl
   dsimp only;rw[E (Xc hf n r I F)]
  rw[e];exact Rv (Rv h.set w N) fD N
 have c:=aQ c;have e:j=WS ks:=X
 subst e;rw[dA]at h;refine(cvP h D.sd D.i D.d D.gl).mono ?_;rintro _ w ⟨t,rfl,b,x⟩;exact⟨t,I,x.same o,⟨t,I,b.low X⟩,q.trans x R⟩
theorem agu(q:PlR w F s si ny sr p)(D:Gdp p (dZ L))(n:aA vG 2 w G sp L)(h:∀x∈L,gI x.1)(R:aA rInt 1 w H sk ks)(hk:∀t∈ks,∀g,g∈eX p.sp p.dft (dZ L) t->qW p.sp g):
  az aq 13 #[ah #[s,si,ny,sr],sp,sk] w λe j=>(∃t,e=t.v/\dc w j t (kc<|pD<|ks.flatMap<|eX p.sp p.dft<|dZ L))/\ay [] w j:=by
 refine jK<|az6 ?_;intro y w0 v C T;let A:=D.sd.le;refine(EJ w0 s si ny sr (ZH eM Z n T N) h).mono ?_;rintro _ w1 ⟨⟨b,r0,r1,rfl,u,E,m,l,f,B,P,z⟩,d⟩;let W:=Ue (q.o0 T) u m l f B P z d;let i:=T.bG d;refine⟨_,I,d.same o,(Gs W.blk W.pl.sp W.pl.dft W.past (kI R i) D.d λt c g h=>?_).mono ?_⟩
 .have:=hk t c g h;exact⟨this.1,by have:=this.2;omega⟩
 rintro _ w ⟨⟨r,rfl,e,b⟩,F⟩;have:=F.size;refine⟨aM r,I,F.same o,(ea b (Xe<|pD<|ks.flatMap<|eX p.sp p.dft<|dZ L) λa=>?_).mono ?_⟩
 .rw[CL,u0];constructor
  .rintro⟨k,rfl,_,a⟩;rw[vi,dx]at a;exact a.2
  intro k;let⟨t,c,h⟩:=jp.1 k;have:=hk t c a h;let f:=this.1;let p:=this.2;refine⟨a.toNat,X,X,?_⟩;rw[vi,dx,xf f]
  grind
 rintro _ k ⟨t,rfl,c,a⟩;exact⟨t,I,a.same o,⟨t,I,c.low X⟩,(i.bG F).bG a⟩
theorem Ob(P:PlR w F s si ny sr p)(D:Gdp p λ_=>VM):
  az aq 15 #[ah #[s,si,ny,sr]] w λe d=>(∃t,e=t.v/\dc w d t (kc<|qZ p.sp (BG p λ_=>VM) (WS p.sp) 1))/\ay [] w d:=by
 refine jK<|az8 ?_;intro q w0 H C T;refine(EJ w0 s si ny sr (L:=[]) (WB vG 2 w0<|λ_=>False) N).mono ?_;rintro _ w1 ⟨⟨b,r0,r1,rfl,j,r,g,f,i,B,h,z⟩,c⟩;let W:=Ue (P.o0 T) j g f i B h z c;let l:=T.bG c;have:=W.pl.sp.len;have:=D.sd.fo.ne;refine⟨_,I,c.same o,λu=>mT u r1 (tB 1)/\ay [r1] w1 u,?_,λ_=>⟨_,I,aM r1,Hl W.blk 5 I,?_⟩,A⟩
 .rintro u ⟨S,a⟩;let b:=W.step a S;let k:=a.size;refine(cvP b D.sd D.i D.d D.gl).mono ?_;rintro _ w ⟨t,rfl,e,x⟩;exact⟨t,I,x.same o,⟨t,I,e.low X⟩,(l.trans a R).trans x R⟩
 let⟨y,w,f1,f2,f3⟩:=zP w1 (a:=0) ⟨X,X⟩;have:=f2.size;refine⟨y,w,f1,f2.same o,(CP (Rv W.set f2 N) (f3.slice bA) R R).mono ?_⟩;rintro _ e ⟨rfl,b,V⟩;refine⟨I,V.same o,b.of λk=>?_,((qE [r1] w1).bG f2).trans V R⟩;have:1=vF 0 0:=Z
 rw[this,KP X];simp_all
end
section
variable{c:Ch}{M:EH}(N:Snd c (cQ c) (Io c))(hM:sU (cQ c) M)
include N hM
theorem J5:∀(n:Nat) (t:dz),(cQ c)[n]? =aM t->t.k=1->dG (cQ c) n≠[]->Gd (cQ c) n (λg=>(g:Int)∈BG (gY c) M n)/\∀g,g∈BG (gY c) M n->qW (cQ c) g:=λn t a d r=>by
 let h:n<WS (CJ c.root):=by rw[tW,<-N.len];exact fG a
 obtain⟨b,h⟩:∃b,(CJ c.root)[n]? =aM b:=⟨_,aR h⟩
 have:BG (gY c) M n=eX (cQ c) ((CJ c.root).map λb=>nf (cQ c) b.dft) M (nf (cQ c) b.ini):=by
  unfold BG;let e:(gY c).ini[n]? =aM (nf (cQ c) b.ini):=by
   show((CJ c.root).map λb=>nf (cQ c) b.ini)[n]? =_;rw[cP,h];rfl
  rw[e];rfl
 rw[this];exact N.amz hM I a h d r
theorem eb:Gdp (gY c) M where
 sd:=N.sd
 i:=by
  show((CJ c.root).map _).length=WS (cQ c);rw[bP,tW,<-N.len]
 d:=by
  show((CJ c.root).map _).length=WS (cQ c);rw[bP,tW,<-N.len]
 gl n t h h2 hr:=by
  let⟨q,b⟩:=gj _ hr;obtain⟨m,d,rfl,u,p,_⟩:=mF.1 b;let⟨e,a,hk⟩:=N.hk n m ⟨d,u,p⟩;have h:(cQ c)[n]? =aM t:=h;rw[h,bN]at a;subst a;exact(J5 N hM n t h (hk.resolve_right h2) hr).2
 ro r hr t h g hg:=by
  rcases N.GZ hM rfl hr with⟨a,_⟩|⟨_,_,_,_,_,_,_,_,_,_,a⟩
  .rw[a]at h;cases h
  exact a t h g hg
end
def nY{a:Type}(R:a->a->Prop)(s b:J a):Prop:=WS s=WS b/\∀(i:Nat) x y,s[i]? =aM x->b[i]? =aM y->R x y
def Zw(t:C)(x y:Ex):=∀d,xJ t d x y=aE
structure Po (t:Bool) (x y:Ac):Prop where
 k:x.k=y.k
 n:x.n=y.n
 e:Zw t x.x y.x
 a:t=aE->x.a=y.a
structure MvE (t:Bool) (x y:Mv):Prop where
 k:x.k=y.k
 ev:x.ev=y.ev
 wt:x.wt=y.wt
 gd:x.gd=y.gd
 g:Zw t x.g y.g
 acts:nY (Po t) x.acts y.acts
 tg:x.tg=y.tg
 a:t=aE->x.a=y.a
structure NbE (t:Bool) (x y:Nb):Prop where
 k:x.k=y.k
 nm:x.nm=y.nm
 ini:x.ini=y.ini
 dft:x.dft=y.dft
 en:nY (Po t) x.en y.en
 lv:nY (Po t) x.lv y.lv
 mv:nY (MvE t) x.mv y.mv
 a:t=aE->x.a=y.a
def SU(t:C):Nat->Nd->Nd->Prop
 |0,_,_=>True
 |d+1,x,y=>NbE t x.b y.b/\nY (SU t d) x.kids y.kids
structure VrE (t:Bool) (x y:Vr):Prop where
 n:x.n=y.n
 v:x.v=y.v
 a:t=aE->x.a=y.a
structure ChE (t:Bool) (d:Nat) (x y:Ch):Prop where
 vars:nY (VrE t) x.vars y.vars
 root:SU t d x.root y.root
end Con
namespace Go.Kt
open Go Go.RowKit
section
variable{P:Program}{w:av}
def ajY{α}{r:Rp α}{size bytes}{F}{y}{ys}{e t ty}{i}{z}(l:P.underlying t=aM (.slice e))(j:P.info? e=aM i)(A:i.zero=aM z)(J:i.size=size)(n:i.bytes=bytes)(H:z.cells.size=size)(f:0<size)
  (h:r.Ok) (v:SliceF r size w F y ys) (hm:WS ys*bytes<=140737488355328) (B:0<bytes):
  ∃x a,(Instr.buildSlice t 0 #[]).run P w=.ok (Sl.v x) a/\Only [] w a/\∃m d,(Builtin.append_ #[t,t] ty #[Sl.v x,Sl.v y]).run P a=.ok (Sl.v m) d/\Own r size e w d F m ys/\OnlyP (λk=>w<=k) a d:=by
 let b:Only [] w (w.alloc<|.cells #[] e):=Rk _ _;let C:Own r size e w _ (λk=>F k/\k<w) (⟨aM _,0,0⟩) []:=
  .inr ⟨w,[],[],I,X,Jp w e [],N,I,bc _,bE _,trivial⟩
 let c:SliceF r size _ (λk=>_/\(⟨aM ⟨w,0,VM⟩,0,0⟩:Sl).a≠aM ⟨k,0,VM⟩) y ys:=
  ((v.inHeap h f).keep h f λk _ g=>b.block k g N).mono h λk hk=>⟨hk,λe=>by
   injection e with e;injection e with e;omega⟩
 exact⟨⟨aM _,0,0⟩,_,zX w l j,b,let⟨D,E,o,p,K,q,s,G⟩:=rA (ty:=ty) l j A J n H h C c b.size X0 B;⟨D,E,o,(by simpa using p.mono h λk hk=>hk.1),q.p λg u=>.inl (s g u).2.1⟩⟩
end
end Go.Kt
namespace Con
open Go Go.RowKit Go.Kt Go.Kt.V Vc Go.ChangeShapes Go.WideShapes
def sh(t:Tk):Tk:=⟨t.k,t.t,t.n,t.a+1⟩
inductive Sim:Ex->Ex->Prop
 |leaf (k n:Int) (s:L) (op a b:Int):Sim (.mk k n s op [] a) (.mk k n s op [] b)
 |one (k n:Int) (s:L) (op a b:Int) (x y:Ex):Sim x y->Sim (.mk k n s op [x] a) (.mk k n s op [y] b)
 |two (k n:Int) (s:L) (op a b:Int) (x y x' y':Ex):Sim x x'->Sim y y'->Sim (.mk k n s op [x,y] a) (.mk k n s op [x',y'] b)
structure Wr (ts qQ:List Tk) (n:Nat):Prop where
 e:∀i,n<=i->(tk ts i).k=5
 s:∀i,i<n->(tk qQ (i+1)).k=(tk ts i).k/\(tk qQ (i+1)).t=(tk ts i).t/\(tk qQ (i+1)).n=(tk ts i).n
 c:(tk qQ (n+1)).k=4/\(tk qQ (n+1)).t=[41]
def xi(n:Nat)(r b:Pr):=∀x j,r=.ok (x,j)->(∃c,b=.ok (c,j+1)/\Sim x c/\j<=n)∨∃a,b=.error (21,a)
section
variable{ts qQ:J Tk}{n:Nat}
theorem Wr.lt(h:Wr ts qQ n){i}(hk:(tk ts i).k≠5):i<n:=by
 refine bK λa=>hk<|h.e i X
def Wr.U9(h:Wr ts qQ n){i}(c:i<n) s:sg qQ (i+1) s=sg ts i s:=by
 unfold sg;let⟨a,b,_⟩:=h.s i c;rw[a,b]
theorem xi.map{r r'}(c:xi n r r'){g g'}(i:∀x b,Sim x b->Sim (g x) (g' b)):xi n (V4 g r) (V4 g' r'):=by
 intro x k j;obtain⟨y,d,rfl⟩:=El j;rcases c y k d with⟨b,h,e,f⟩|⟨a,h⟩
 .exact .inl ⟨g' b,by rw[h];rfl,i _ _ e,f⟩
 exact .inr ⟨a,by rw[h];rfl⟩
theorem xi.nest{r r'}{d}{a a'}(b:d+1≠20->xi n r r'):xi n (kQ d a r) (kQ (d+1) a' r'):=by
 intro x j e;let⟨c,f⟩:=uN e;by_cases h:d+1=20
 .exact .inr ⟨a',by rw[kQ,E h]⟩
 rw[kQ,Q h];exact b h x j c
theorem xi.par(w:Wr ts qQ n){r r'}(c:xi n r r'):xi n (xI ts r) (xI qQ r'):=by
 intro x k f;obtain⟨j,d,b,rfl⟩:=En f;rcases c x j d with⟨g,h,e,i⟩|⟨a,h⟩
 .have l:=w.lt<|zi b;exact .inl ⟨g,by rw[h];simp only[xI];rw[E (by rw[w.U9 l];exact b)],e,l⟩
 exact .inr ⟨a,by rw[h];rfl⟩
def xi.err{e}{r'}:xi n (.error e) r':=λx j hx=>V3
theorem xi.in_(w:Wr ts qQ n) i:xi n (Hb ts i) (Hb qQ<|i+1):=by
 intro x j h;obtain⟨rfl,rfl⟩:=Qy h;unfold Hb at h;split at h
 .rename_i a;split at h
  .rename_i b;split at h
   .rename_i c;let l:=w.lt<|zi c;refine .inl ⟨.mk 3 0 (tk qQ<|i+1+2).t 0 [] (tk qQ<|i+1).a,?_,?_,l⟩
    .unfold Hb;rw[E (by rw[w.U9 X];exact a),E<|by rw[(w.s _ X).1];exact b,E<|by rw[w.U9 l];exact c]
    rw[(w.s (i+2) X).2.1];exact .leaf ..
   cases h
  cases h
 cases h
theorem xi.one(h:Wr ts qQ n){b Gm E a:Nat->Pr}{d i:Nat}(c:d+1≠20->∀i,i<=n->xi n (b i) (E<|i+1))(O:d+1≠20->∀i,i<=n->xi n (Gm i) (a<|i+1))(e:i<=n):xi n (rG ts b Gm d i) (rG qQ E a (d+1)<|i+1):=by
 by_cases M:i=n
 .subst M;have f:=h.e i P9;let g:∀s,sg ts i s=aL:=λs=>by
   unfold sg;rw[f];rfl
  have:rG ts b Gm d i=.error (jw ts i):=by
   unfold rG;simp_all
  rw[this];exact xi.err
 let l:i<n:=X
 let⟨k,d,k3⟩:=h.s i l;unfold rG;rw[h.U9 l,h.U9 l,h.U9 l,k,d,k3];split
 .exact xi.map (xi.nest R) λx g f=>.one _ _ _ _ _ _ _ _ f
 split
 .exact xi.nest λf=>xi.par h<|c f _ l
 split
 .intro x j f;simp only[ry,vK]at f;obtain⟨rfl,rfl⟩:=f;exact .inl ⟨_,I,.leaf ..,l⟩
 split
 .intro x j f;simp only[ry,vK]at f;obtain⟨rfl,rfl⟩:=f;exact .inl ⟨_,I,.leaf ..,l⟩
 split
 .exact xi.in_ h i
 exact xi.err
end
def J6{ts}{E}{k}{x}{j}(h:mc ts k j=0):∀g,jW ts E k g x j=.ok (x,j)
 |0=>rfl
 |g+1=>by rw[jW,aW h]
def alM{ts}{j}(h:(tk ts j).k=5) k:mc ts k j=0:=by
 exact bK λn=>rP _ _ n h
def atD{ts}{j}{t}(h:(tk ts j).t=t)(n:∀op,op<16->fe op≠t∨op=0∨14<=op) k:mc ts k j=0:=by
 have:∀f op,1<=op->op+f<=14->kP ts k j f op=0:=by
  intro f
  induction f with
  |zero=>intro op _ _;rfl
  |succ f i=>
   intro op a b;rw[kP,Q,i _ X X];rintro⟨_,s⟩;simp[sg,aO,bB]at s
   grind
 exact this 13 1 X X
def Sim.same{x y}(h:Sim x y):∀d,xJ aL d x y=aE:=by
 let hd:∀{k n:Int} {s:L} {op:Int} {xs ys:J Ex} {a b:Int},WS xs=(WS ys)->Nc aL (.mk k n s op xs a) (.mk k n s op ys b)=aL:=λh=>by
  simp[Nc,Ex.k,Ex.n,Ex.s,Ex.op,Ex.dP,Ex.a,h]
 induction h with
 |leaf k n s op a b=>
  intro d;cases d with
  |zero=>rfl
  |succ d=>rw[xJ,Q<|by rw[hd I];decide];rfl
 |one k n s op a b x y h i=>
  intro d;cases d with
  |zero=>rfl
  |succ d=>
   rw[xJ,Q<|by rw[hd (xs:=[x]) (ys:=[y]) rfl];decide];simp[Ex.dP,Ke,i d,dW]
 |two k n s op a b x y e f g i c P=>
  intro d;cases d with
  |zero=>rfl
  |succ d=>
   rw[xJ,Q<|by rw[hd (xs:=[x,y]) (ys:=[e,f]) rfl];decide];simp[Ex.dP,Ke,c d,P d,dW]
def kt(t:Tk):Int×L:=(t.k,t.t)
def Zf{c}{r}(h:qU c=aL)(a:(c==47)=aL):mj aL (c::r)=0:=by
 rw[mj,Q<|by rw[h];decide,Q<|by rw[a,dT];decide]
def oV{c}{r}(h:gC c=aL)(a:dH c=aL)(b:qV.contains c=aE)(d:uL (c::r)=aL):ot (c::r)=.ok (4,[c],0,1):=by
 let e:ot (c::r)=if gC c then pC _ else if dH c then vX _ else qF _:=I
 let n:kO (c::r)=1:=by
  unfold kO;rw[d];dsimp only;rw[Q Z,E b]
 rw[e,h,a,Q Z,Q Z,qF,n];rfl
def soft(r:L):=∀d,r.head? =aM d->d≠61/\d≠62
def mG{c}{r}(a:[38,124].contains c=aL)(h:soft r):uL (c::r)=aL:=by
 cases r with
 |nil=>rfl
 |cons d r=>
  let⟨h1,h2⟩:=h d I;let e:(d==61)=aL:=Q1
  let b:(d==62)=aL:=ZY
  show(_||_||_)=aL;rw[e,b,a,dT,jH,jH];rfl
structure De (ts:List Tk) (n m:Nat) (s:L):Prop where
 a:∀i,i<n->(tk ts i).k=4/\(tk ts i).t=s
 b:∀i,n<=i->i<n+m->(tk ts i).k=4/\(tk ts i).t=[40]
 c:(tk ts (n+m)).k=1/\(tk ts (n+m)).t=[120]
 e:∀i,n+m<i->i<=n+m+m->(tk ts i).k=4/\(tk ts i).t=[41]
 z:(tk ts (n+m+m+1)).k=5
 l:WS ts=n+m+m+2
section
variable{ts:J Tk}{n m:Nat}{s:L}
theorem ZN{ts}{i}{t s}(h:(tk ts i).t=t)(o:t≠s):sg ts i s=aL:=by
 unfold sg;rw[h,bR o,jH]
theorem Q2{ts}{i}{t}(h:(tk ts i).k=4/\(tk ts i).t=t):sg ts i t=aE:=by
 unfold sg;rw[h.1,h.2,bO I];rfl
end
abbrev K3:=Int×L×Int
def k3(t:Tk):K3:=(t.k,t.t,t.n)
def ee{p:UInt8->Prop}(h:∀n:Fin 256,p<|UInt8.ofNat n.val) c:p c:=by
 have:=h ⟨c.toNat,c.toNat_lt⟩;simpa using this
def CQ{p}{r:L}(h:∀c,r.head? =aM c->p c=aL):∀l,(∀c∈l,p c=aE)->(l++r).takeWhile p=l
 |[],_=>by
  cases r with
  |nil=>rfl
  |cons c r=>simp_all
 |c::l,a=>by rw[bZ,fM,E<|a c N,CQ h l R]
def cpI{a b:L}(h:a≠[]):(a++b).head? =a.head? :=by
 cases a with
 |nil=>exact absurd I h
 |cons c a=>rfl
def rI{u}(h:u<10):Lib.decDigits u=[UInt8.ofNat (48+u)]:=by rw[Lib.decDigits,dif_pos h]
def vj{u}(h:¬u<10):Lib.decDigits u=Lib.decDigits (u/10)++[UInt8.ofNat (48+u % 10)]:=by rw[Lib.decDigits,dif_neg h]
def EK{u}(h:u<10):(UInt8.ofNat<|48+u).toNat=48+u:=by
 rw[UInt8.toNat_ofNat'];omega
def J7{u}(h:u<10):dH (UInt8.ofNat<|48+u)=aE:=by
 rw[dH];simp;omega
def EM u:∀c,c∈Lib.decDigits u->dH c=aE:=by
 induction u using Nat.strongRecOn with
 |_ u i=>
  intro c h;by_cases a:u<10
  .rw[rI a,bh]at h;subst h;exact J7 a
  rw[vj a,cZ,bh]at h;rcases h with h|rfl
  .grind
  exact J7 X
def CR u:Lib.decDigits u≠[]:=by
 by_cases h:u<10
 .rw[rI h];simp
 rw[vj h];simp
def aem a l c:nC a (l++[c])=nC a l*10+(c.toNat-48):=by
 simp[nC,gZ]
def agv u:nC 0 (Lib.decDigits u)=u:=by
 induction u using Nat.strongRecOn with
 |_ u i=>
  by_cases h:u<10
  .rw[rI h];have:=EK h;simp[nC,ru,List.foldl_nil];omega
  rw[vj h,aem,i _ X,EK X];omega
def aa7 u (h:0<u):(Lib.decDigits u).head? ≠aM 48:=by
 induction u using Nat.strongRecOn with
 |_ u i=>
  by_cases a:u<10
  .rw[rI a,E6];intro e;injection e with e;have:=bn UInt8.toNat e;rw[EK a]at this;simp_all
  rw[vj a,cpI<|CR _]
  grind
def aa8 u (h:1<WS (Lib.decDigits u)):0<u:=by
 refine bK λn=>?_;have:u=0:=X
 subst this;rw[rI Z]at h;simp at h
def aeN{c}(h:dH c=aE):gf c=aE:=by unfold gf;grind
def aa9{c}(h:dH c=aE):gC c=aL:=by
 rw[dH]at h;rw[gC]
 grind
def sV{n}(h:0<=n):Lib.itoa n=Lib.decDigits n.toNat:=by
 rw[Lib.itoa]
 grind
def aba{n}(d:0<=n)(j:n<=9223372036854775807){r}(b:∀c,r.head? =aM c->gf c=aL):ot (Lib.itoa n++r)=.ok (3,[],n,WS<|Lib.itoa n):=by
 rw[sV d];generalize l:n.toNat=u;have f:n=u:=X
 have i:=EM u;have o:=CR u;have hd:=CQ (p:=dH) (λc h=>by
  have:=b c h;exact(eH.1 this).2) (Lib.decDigits u) i
 have g:im (Lib.decDigits u++r)=(u,WS<|Lib.decDigits u,0):=by
  unfold im;rw[hd,agv,Q<|by simp[o],Q,E X];rintro(h|⟨e,c⟩)
  .exact o h
  rw[cpI o]at c;exact aa7 u (aa8 u e) c
 have a:vX (Lib.decDigits u++r)=.ok (3,[],n,WS<|Lib.decDigits u):=by
  unfold vX;rw[g,CQ (p:=gf) b (Lib.decDigits u) λc e=>aeN<|i c e,Q N,Q N,f]
 generalize k:Lib.decDigits u=m at*
 cases m with
 |nil=>grind
 |cons c m=>
  have n:=i c N;have e:ot (c::m++r)=if gC c then pC _ else if dH c then vX _ else qF _:=I
  rw[e,aa9 n,n,Q Z,E I,a]
def ye{l}{i}{p r}{k}{t}{n}{ts}(h:l.drop i=p++r)(a:p≠[])(b:mj aL (p++r)=0)(d:ot (p++r)=.ok (k,t,n,WS p))(c:ma l (i+WS p)=.ok ts):ma l i=.ok (⟨k,t,n,i⟩::ts):=by
 have:=xd.2 a;have:=by
  have:=bn List.length h;rw[cT,aU]at this;omega
 rw[lK X,h,b,ku,Q X,h,d];dsimp only;rw[c]
def lA{l:L}{i}{p r}(h:l.drop i=p++r):l.drop (i+WS p)=r:=by
 rw[<-jG,h,List.drop_left]
def DG{l:L}{i}{p r}(a:i<=WS l)(h:l.drop i=p++r):i+WS p<=WS l:=by
 have:=bn List.length h
 grind
def oq:Nat->Ex->C->L
 |0,_,_=>[]
 |d+1,x,wr=>clo wr (opn wr []++(
  if x.k=1 then Lib.itoa x.n
  else if x.k=2 then x.s
  else if x.k=3 then[105,110,40]++x.s++[41]
  else if x.k=4 then(match x.dP with
   |[y]=>fe x.op.toNat++oq d y (JW<|H y<6)
   |_=>[])
  else(match x.dP with
   |[y,z]=>oq d y (JW<|H y<H x)++([32]++fe x.op.toNat++[32])++oq d z (JW<|H z<=H x)
   |_=>[])))
def qe wr l:opn wr l=l++opn wr []:=by cases wr<;>simp[opn]
def kT wr l m:clo wr (l++m)=l++clo wr m:=by cases wr<;>simp[clo]
def Q6 wr l:WS l<=WS (clo wr l):=by cases wr<;>simp[clo]
def alO wr l:WS l<=WS (opn wr l):=by cases wr<;>simp[opn]
def Od:∀d x wr l,WS l<=WS (sE d x wr l)
 |0,_,_,_=>bc _
 |d+1,x,wr,l=>by
  rw[sE];split
  .omega
  refine bC ?_<|Q6 _ _;have:=alO wr l;split
  .grind
  split
  .grind
  split
  .grind
  split
  .split
   .rename_i y _;have:=Od d y (JW<|H y<6) (opn wr l++fe x.op.toNat)
    grind
   omega
  split
  .rename_i y z _;have:=Od d y (JW<|H y<H x)<|opn wr l;have:=Od d z (JW<|H z<=H x) (sE d y (JW<|H y<H x) (opn wr l)++([32]++fe x.op.toNat++[32]))
   grind
  omega
def IG:∀d {x:Ex} wr l,di d x=aE->WS (sE d x wr l)<=16384->sE d x wr l=l++oq d x wr
 |0,x,wr,l,h,_=>VI
 |d+1,x,wr,l,h,c=>by
  rw[di,aO]at h;let⟨b,a⟩:=h;have:=Od (d+1) x wr l;let e:¬16384<WS l:=X
  rw[sE,Q e]at c⊢;rw[oq,<-kT];have A:=bC (Q6 wr _) c;by_cases k:x.k=1
  .rw[E k,E k,qe wr l,bp]
  by_cases g:x.k=2
  .rw[Q k,Q k,E g,E g,qe wr l,bp]
  by_cases k3:x.k=3
  .rw[Q k,Q k,Q g,Q g,E k3,E k3,qe wr l,bp]
  by_cases h:x.k=4
  .obtain⟨y,i,_⟩:=xK b h;rw[Q k,Q g,Q k3,E h,i]at A;rw[Q k,Q k,Q g,Q g,Q k3,Q k3,E h,E h,i];rw[i]at a;dsimp only at A⊢;simp[lw,dW]at a;rw[IG d _ _ a A,qe wr l];simp
  let⟨_,y,z,i,_⟩:=sF b k g k3 h;rw[Q k,Q g,Q k3,Q h,i]at A;rw[Q k,Q k,Q g,Q g,Q k3,Q k3,Q h,Q h,i];rw[i]at a;dsimp only at A⊢;simp[lw,dW,aO]at a;have j:=Od d z (JW<|H z<=H x)<|sE d y (JW<|H y<H x) (opn wr l)++([32]++fe x.op.toNat++[32]);rw[aU]at j;rw[IG d _ _ a.2 A,IG d _ _ a.1 X,qe wr l];simp
def Ix(wr:C):J K3:=if wr then[(4,[40],0)]else[]
def T6(wr:C):J K3:=if wr then[(4,[41],0)]else[]
def qM:Nat->Ex->C->J K3
 |0,_,_=>[]
 |d+1,x,wr=>Ix wr++(
  if x.k=1 then[(3,[],x.n)]
  else if x.k=2 then[(1,x.s,0)]
  else if x.k=3 then[(2,[105,110],0),(4,[40],0),(1,x.s,0),(4,[41],0)]
  else if x.k=4 then(match x.dP with
   |[y]=>(4,fe x.op.toNat,0)::qM d y (JW<|H y<6)
   |_=>[])
  else(match x.dP with
   |[y,z]=>qM d y (JW<|H y<H x)++(4,fe x.op.toNat,0)::qM d z (JW<|H z<=H x)
   |_=>[]))++T6 wr
def nZ(c:UInt8):C:=gC c||dH c||c==40||c==45||c==33
def aek:∀n:Fin 256,nZ (UInt8.ofNat n.val)=aE->qU (UInt8.ofNat n.val)=aL/\(UInt8.ofNat n.val==47)=aL/\UInt8.ofNat n.val≠61/\UInt8.ofNat n.val≠62:=Ks
def nH{c}(h:nZ c=aE):qU c=aL/\(c==47)=aL/\c≠61/\c≠62:=ee (p:=λc=>nZ c=aE->qU c=aL/\(c==47)=aL/\c≠61/\c≠62) aek c h
def Ib(c:UInt8):C:=[32,41,59,93,44,10].contains c
def wQ(r:L):=∀c,r.head? =aM c->Ib c=aE
def agw:∀n:Fin 256,Ib (UInt8.ofNat n.val)=aE->gf (UInt8.ofNat n.val)=aL/\dH (UInt8.ofNat n.val)=aL/\UInt8.ofNat n.val≠61/\UInt8.ofNat n.val≠62:=Ks
def Q7{c}(h:Ib c=aE):gf c=aL/\dH c=aL/\c≠61/\c≠62:=ee (p:=λc=>Ib c=aE->gf c=aL/\dH c=aL/\c≠61/\c≠62) agw c h
def wQ.word{r}(h:wQ r):∀l,(∀c∈l,gf c=aE)->(l++r).takeWhile gf=l
 |[],_=>by
  cases r with
  |nil=>rfl
  |cons c r=>
   rw[cJ,fM,Q<|by rw[(Q7<|h c I).1];decide]
 |c::l,a=>by
  rw[bZ,fM,E<|a c N,h.word l R]
def mLs{n}(a:0<=n)(b:n<=9223372036854775807){r}(d:wQ r):ot (Lib.itoa n++r)=.ok (3,[],n,WS<|Lib.itoa n):=aba a b λc h=>(Q7<|d c h).1
def vb{s r}(n:eu s=aE)(b:wQ r):ot (s++r)=.ok (1,s,0,WS s):=by
 unfold eu at n;simp only[aO]at n;let⟨⟨⟨h,d⟩,a⟩,h4⟩:=n;let⟨h,f⟩:=S h;let h4:lM.contains s=aL:=Jn
 have:pC (s++r)=.ok (1,s,0,WS s):=by
  unfold pC;rw[b.word s λc e=>by rw[<-S a]at e;exact mbN c e,Q X,h4];rfl
 cases s with
 |nil=>exact absurd I h
 |cons c s=>
  have:ot (c::s++r)=if gC c then pC _ else if dH c then vX _ else qF _:=I
  simp_all
def alP{op}(h:1<=op)(a:op<=13) r:ot (fe op++32::r)=.ok (4,fe op,0,WS<|fe op)/\mj aL (fe op++32::r)=0:=by
 match op,h,a with
 |1,_,_=>exact⟨I,I⟩
 |2,_,_=>exact⟨I,I⟩
 |3,_,_=>exact⟨I,I⟩
 |4,_,_=>exact⟨I,I⟩
 |5,_,_=>exact⟨I,I⟩
 |6,_,_=>exact⟨I,I⟩
 |7,_,_=>exact⟨I,I⟩
 |8,_,_=>exact⟨I,I⟩
 |9,_,_=>exact⟨I,I⟩
 |10,_,_=>exact⟨I,I⟩
 |11,_,_=>exact⟨I,I⟩
 |12,_,_=>exact⟨I,I⟩
 |13,_,_=>exact⟨I,I⟩
def yS:∀d {x:Ex} wr,di d x=aE->mw d x->∃c t,oq d x wr=c::t/\nZ c=aE
 |0,x,wr,h,_=>VI
 |d+1,x,aE,h,_=>⟨40,_,I,Z⟩
 |d+1,x,aL,h,⟨n,s⟩=>by
  rw[di,aO]at h;obtain⟨a,b⟩:=h;have e:oq (d+1) x aL=(
  if x.k=1 then Lib.itoa x.n
  else if x.k=2 then x.s
  else if x.k=3 then[105,110,40]++x.s++[41]
  else if x.k=4 then(match x.dP with
   |[y]=>fe x.op.toNat++oq d y _
   |_=>[])
  else(match x.dP with
   |[y,z]=>oq d y _++_++oq d z _
   |_=>[])):=I
  rw[e];by_cases k:x.k=1
  .rw[E k];have d:0<=x.n:=by
    rw[iP,E k]at a;have:=(zK a).1;omega
   rw[sV d];cases h:Lib.decDigits x.n.toNat with
   |nil=>exact absurd h<|CR _
   |cons c m=>
    have:=EM x.n.toNat c (by rw[h];simp);exact⟨c,m,I,by unfold nZ;rw[this];simp⟩
  have m:eu x.s=aE->∃c t,x.s=c::t/\nZ c=aE:=λn=>by
   unfold eu at n;simp at n;obtain⟨⟨⟨d,h⟩,f⟩,g⟩:=n;cases s:x.s with
   |nil=>rw[s]at h;cases h
   |cons c t=>
    rw[s]at h;have h:gC c=aE:=h;exact⟨c,t,I,by unfold nZ;rw[h];simp⟩
  by_cases e:x.k=2
  .rw[Q k,E e];exact m<|lp a<|.inl e
  by_cases k3:x.k=3
  .rw[Q k,Q e,E k3];exact⟨105,_,I,Z⟩
  by_cases f:x.k=4
  .obtain⟨y,c,h⟩:=xK a f;rw[Q k,Q e,Q k3,E f,c];rcases h with h|h
   .rw[h];exact⟨45,_,I,Z⟩
   rw[h];exact⟨33,_,I,Z⟩
  obtain⟨_,y,z,h,_⟩:=sF a k e k3 f;rw[Q k,Q e,Q k3,Q f,h];rw[h]at b s;simp[lw,dW,aO]at b;obtain⟨c,t,g,i⟩:=yS d _ b.1<|s y N;dsimp only;rw[g];exact⟨c,_,I,i⟩
def sW{r}(a:∃c t,r=c::t/\nZ c=aE):soft r:=by
 obtain⟨c,t,rfl,h⟩:=a;intro d hd;simp at hd;subst hd;exact⟨(nH h).2.2.1,(nH h).2.2.2⟩
def wQ.soft{r}(h:wQ r):soft r:=λd hd=>(Q7<|h d hd).2.2
def CS{a b}(h:∃c t,a=c::t/\nZ c=aE):∃c t,a++b=c::t/\nZ c=aE:=by
 grind
def PU{l}{i}{r}(h:l.drop i=32::r)(b:mj aL r=0):ma l i=ma l (i+1):=by
 let a:i<=WS l:=by
  refine bK λn=>?_;rw[fF X]at h;cases h
 rw[pV a,h,mj,E Z,b]
def yT{l}:∀d {x:Ex} wr i {r:L} {s:J Tk},di d x=aE->mw d x->i<=(WS l)->l.drop i=oq d x wr++r->wQ r->ma l (i+WS (oq d x wr))=.ok s->∃u,ma l i=.ok (u++s)/\u.map k3=qM d x wr
 |0,x,wr,i,r,s,h,_,_,_,_,_=>VI
 |d+1,x,wr,i,r,s,h,⟨B,g⟩,v,w,m,f=>by
  let C:=h;rw[di,aO]at h;let⟨p,j⟩:=h;let o:∀(i:Nat) {r:L} {s:J Tk},i<=(WS l)->l.drop i=oq (d+1) x aL++r->wQ r->ma l (i+WS (oq (d+1) x aL))=.ok s->∃u,ma l i=.ok (u++s)/\u.map k3=qM (d+1) x aL:=by
   intro i r s v w m f;have e:oq (d+1) x aL=(
   if x.k=1 then Lib.itoa x.n
   else if x.k=2 then x.s
   else if x.k=3 then[105,110,40]++x.s++[41]
   else if x.k=4 then(match x.dP with
    |[y]=>fe x.op.toNat++oq d y (JW<|H y<6)
    |_=>[])
   else(match x.dP with
    |[y,z]=>oq d y (JW<|H y<H x)++([32]++fe x.op.toNat++[32])++oq d z (JW<|H z<=H x)
    |_=>[])):=I
   have h:qM (d+1) x aL=(
   if x.k=1 then[(3,[],x.n)]
   else if x.k=2 then[(1,x.s,0)]
   else if x.k=3 then[(2,[105,110],0),(4,[40],0),(1,x.s,0),(4,[41],0)]
   else if x.k=4 then(match x.dP with
    |[y]=>(4,fe x.op.toNat,0)::qM d y (JW<|H y<6)
    |_=>[])
   else(match x.dP with
    |[y,z]=>qM d y (JW<|H y<H x)++(4,fe x.op.toNat,0)::qM d z (JW<|H z<=H x)
    |_=>[]))++[]:=I
   rw[bq]at h;let⟨c0,M,V,F⟩:=yS (d+1) aL C ⟨B,g⟩;let G:mj aL (oq (d+1) x aL++r)=0:=by
    rw[V,bZ];exact Zf (nH F).1 (nH F).2.1
   let K:oq (d+1) x aL≠[]:=by rw[V];simp
   by_cases D:x.k=1
   .rw[E D]at e h;have a:0<=x.n:=by
     rw[iP,E D]at p;have:=(zK p).1;omega
    rw[h];exact⟨[⟨3,[],x.n,(i:Nat)⟩],ye w K G (by rw[e];exact mLs a B.2 m) f,I⟩
   by_cases P:x.k=2
   .rw[Q D,E P]at e h;rw[h];exact⟨[⟨1,x.s,0,(i:Nat)⟩],ye w K G (by rw[e];exact vb (lp p<|.inl P) m) f,I⟩
   by_cases Y:x.k=3
   .rw[Q D,Q P,E Y]at e h;let y:=lp p<|.inr Y;obtain⟨T,S,z,q⟩:∃c t,x.s=c::t/\nZ c=aE:=by
     have a:=y;unfold eu at a;simp only[aO]at a;let⟨⟨⟨_,b⟩,_⟩,_⟩:=a;cases g:x.s with
     |nil=>rw[g]at b;cases b
     |cons c t=>
      rw[g]at b;have b:gC c=aE:=b;exact⟨c,t,I,by unfold nZ;rw[b];simp⟩
    let W:l.drop i=[105,110]++([40]++(x.s++([41]++r))):=by rw[w,e];simp
    let a1:=lA W;let a2:=lA a1;have:WS (oq (d+1) x aL)=2+1+WS x.s+1:=by rw[e];simp;omega
    let f:ma l (i+WS ([105,110]:L)+WS ([40]:L)+WS x.s+WS ([41]:L))=.ok s:=by
     grind
    let b3:=ye (n:=0) (lA a2) N I (oV Z Z Z<|mG Z m.soft) f;let b2:=ye (n:=0) (k:=1) (t:=x.s) a2 (by rw[z];simp) (by rw[z,bZ];exact Zf (nH q).1 (nH q).2.1) (vb y λc hc=>Ov) b3;let b1:=ye (n:=0) a1 N I (oV Z Z Z<|mG Z<|sW A) b2;rw[h];exact⟨[_,_,_,_],ye (n:=0) (k:=2) (t:=[105,110]) W N I I b1,I⟩
   by_cases k:x.k=4
   .obtain⟨y,S,n⟩:=xK p k;rw[Q D,Q P,Q Y,E k,S]at e h;dsimp only at e h;rw[S]at j g;simp only[lw,dW]at j;let z:=g y N;let T:=yS d (JW<|H y<6) j z;let q:l.drop i=fe x.op.toNat++(oq d y (JW<|H y<6)++r):=by rw[w,e,bp]
    let W:=lA q;let f:ma l (i+WS (fe x.op.toNat)+WS (oq d y<|JW<|H y<6))=.ok s:=by
     grind
    let⟨u,u1,u2⟩:=yT d (JW<|H y<6) _ j z (DG v q) W m f;let t:ot (fe x.op.toNat++(oq d y (JW<|H y<6)++r))=.ok (4,fe x.op.toNat,0,WS<|fe x.op.toNat)/\fe x.op.toNat≠[]/\mj aL (fe x.op.toNat++(oq d y (JW<|H y<6)++r))=0:=by
     rcases n with n|n
     .rw[n];exact⟨oV (c:=45) Z Z Z<|mG Z<|sW<|CS (a:=oq d y<|JW<|H y<6) (b:=r) T,Z,Zf Z Z⟩
     rw[n];exact⟨oV (c:=33) Z Z Z<|mG Z<|sW<|CS (a:=oq d y<|JW<|H y<6) (b:=r) T,Z,I⟩
    rw[h];exact⟨⟨4,fe x.op.toNat,0,(i:Nat)⟩::u,ye q t.2.1 t.2.2 t.1 u1,by rw[ch,u2];rfl⟩
   let⟨_,y,z,hy,am,bJ⟩:=sF p D P Y k;rw[Q D,Q P,Q Y,Q k,hy]at e h;dsimp only at e h;rw[hy]at j g;simp only[lw,dW,aO]at j;let HN:=g y N;let Yq:=g z N;let⟨gz,qj,T,Jb⟩:=yS d (JW<|H z<=H x) j.2 Yq;let ff:mj aL (oq d z (JW<|H z<=H x)++r)=0:=by
    rw[T,bZ];exact Zf (nH Jb).1 (nH Jb).2.1
   let W:=alP (op:=x.op.toNat) X X<|oq d z (JW<|H z<=H x)++r;let S:fe x.op.toNat≠[]:=by
    have:∀q<14,1<=q->fe q≠[]:=Z
    exact this _ X X
   have a:l.drop i=oq d y (JW<|H y<H x)++([32]++(fe x.op.toNat++([32]++(oq d z (JW<|H z<=H x)++r)))):=R
   have b:=lA a;have n:=lA b;let t:=lA n;let f:ma l (i+WS (oq d y<|JW<|H y<H x)+WS ([32]:L)+WS (fe x.op.toNat)+WS ([32]:L)+WS (oq d z<|JW<|H z<=H x))=.ok s:=by
    grind
   let⟨vs,v1,v2⟩:=yT d (JW<|H z<=H x) _ j.2 Yq (DG (DG (DG (DG v a) b) n) t) (lA t) m f;let b3:ma l (i+WS (oq d y<|JW<|H y<H x)+WS ([32]:L)+WS (fe x.op.toNat))=.ok (vs++s):=by
    exact(PU t ff).trans v1
   let⟨u,u1,u2⟩:=yT d (JW<|H y<H x) i j.1 HN v a (λc hc=>Ov)<|(PU b W.2).trans<|ye n S W.2 W.1 b3;rw[h];exact⟨u++⟨4,fe x.op.toNat,0,_⟩::vs,by rw[u1,bp];rfl,by rw[cK,ch,u2,v2];rfl⟩
  cases wr
  .exact o i v w m f
  have:oq (d+1) x aE=[40]++(oq (d+1) x aL++[41]):=by
   rfl
  let y:qM (d+1) x aE=(4,[40],0)::(qM (d+1) x aL++[(4,[41],0)]):=by
   unfold qM;simp[Ix,T6]
  let F:=yS (d+1) aL C ⟨B,g⟩;have h:l.drop i=[40]++(oq (d+1) x aL++([41]++r)):=A
  let k:=lA h;let f:ma l (i+WS ([40]:L)+WS (oq (d+1) x aL)+WS ([41]:L))=.ok s:=by
   grind
  let⟨u,z,D⟩:=o _ (DG v h) k (λc hc=>Ov)<|ye (n:=0) (lA k) N I (oV Z Z Z<|mG Z m.soft) f;have:=ye (n:=0) h N I (oV Z Z Z<|mG Z<|sW<|CS (a:=oq (d+1) x aL) (b:=[41]++r) F) z;rw[y];refine⟨⟨4,[40],0,(i:Nat)⟩::(u++[⟨4,[41],0,((i+WS ([40]:L)+WS (oq (d+1) x aL):Nat):Int)⟩]),A,?_⟩;rw[ch,cK,D];rfl
def At(t:J Tk)(i:Nat)(L:J K3):=∀j q,L[j]? =aM q->k3 (tk t<|i+j)=q
section
variable{ts:J Tk}{i:Nat}{A B:J K3}
def At.left(h:At ts i (A++B)):At ts i A:=λj q a=>h j q R
def At.right(h:At ts i (A++B)):At ts (i+WS A) B:=λj q a=>by
 have:=h (WS A+j) q R
 grind
theorem At.head{q}(h:At ts i (q::A)):(tk ts i).k=q.1/\(tk ts i).t=q.2.1/\(tk ts i).n=q.2.2:=by
 have:=h 0 q I;rw[<-this];exact⟨I,I,I⟩
theorem At.tail{q}(h:At ts i (q::A)):At ts (i+1) A:=λa p j=>by
 have:=h (a+1) p j
 grind
theorem abd{p q}(c:1<=p)(h:p<=13)(d:1<=q)(a:q<=13)(b:fe p=fe q):p=q:=by
 have:∀p<14,∀q<14,1<=p->1<=q->fe p=fe q->p=q:=Z
 grind
theorem atG{op}(a:1<=op)(b:op<=13)(hk:(tk ts i).k=4)(h:(tk ts i).t=fe op) k:mc ts k i=if gX op=k then(op:Int)else 0:=by
 have:∀f q,1<=q->q+f<=14->kP ts k i f q=if q<=op/\op<q+f/\gX op=k then(op:Int)else 0:=by
  intro f
  induction f with
  |zero=>intro q _ _;rw[Q X];rfl
  |succ f d=>
   intro q c g;rw[kP,d _ X X];by_cases e:q=op
   .subst e;have s:=Q2 ⟨hk,h⟩;simp_all
   have s:¬sg ts i _=aE:=λs=>e (by
    simp[sg,aO,bB]at s;exact abd c X a b<|by rw[<-h,s.2])
   grind
 rw[mc,this 13 1 X X];omega
theorem EN{op}(h:1<=op)(a:op<=13):0<=gX op/\gX op<=5:=by
 unfold gX;omega
theorem Vu{f d k0}{x}{j}(h:dF ts f k0 d i=.ok (x,j))(a:k0<=6):∀m k,k+m=k0->(∀q:Int,k<=q->q<k0->mc ts q j=0)->dF ts (f+m) k d i=.ok (x,j)
 |0,k,hk,_=>by
  simp_all
 |m+1,k,hk,b=>by
  rw[<-ez,dF,Q X,Vu h a m _ X R];exact J6 R _
theorem zz{f d k0}{e}(h:dF ts f k0 d i=.error e)(a:k0<=6):∀m k,k+m=k0->dF ts (f+m) k d i=.error e
 |0,k,hk=>by
  simp_all
 |m+1,k,hk=>by
  rw[<-ez,dF,Q X,zz h a m _ X];rfl
end
def Ok5(x:Ex)(j:Nat)(r:Pr):Prop:=(∃b,r=.ok (b,j)/\Sim x b)∨∃a,r=.error (21,a)
def Ok5.down{ts}{i f d k0 k}{x}{j}(c:Ok5 x j (dF ts (f-(k0-k)) k0 d i))(n:k0-k<=f)(b:k0<=6)(hk:k<=k0)(g:∀q:Int,k<=q->q<k0->mc ts q j=0):Ok5 x j (dF ts f k d i):=by
 let e:f=(f-(k0-k))+(k0-k):=X
 rcases c with⟨m,h,l⟩|⟨a,h⟩
 .exact .inl ⟨m,by rw[e];exact Vu h b _ k X g,l⟩
 exact .inr ⟨a,by rw[e];exact zz h b _ k X⟩
abbrev PP(t:J Tk)(d:Nat):=∀{x:Ex} wr (k a i f:Nat),di d x=aE->At t i (qM d x wr)->k<=6->(wr=aL->k<=H x)->a<=20->iw k a<=f->i+WS (qM d x wr)<(WS t)->(∀q:Int,k<=q->q<=5->mc t q (i+WS (qM d x wr))=0)->Ok5 x (i+WS (qM d x wr)) (dF t f k a i)
abbrev QQ(t:J Tk)(d:Nat):=∀{x:Ex} (k b i f:Nat),di d x=aE->x.k=5->k=H x->At t i (qM d x aL)->b<=20->iw k b<=f+1->i+WS (qM d x aL)<(WS t)->(∀q:Int,k<q->q<=5->mc t q (i+WS (qM d x aL))=0)->
 (∃c g,(WS t)-(i+WS (qM d x aL))<=g/\dF t (f+1) k b i=jW t (dF t f (k+1) b) k g c (i+WS (qM d x aL))/\Sim x c)∨∃a,dF t (f+1) k b i=.error (21,a)
def Gu(x:Ex):x=.mk x.k x.n x.s x.op x.dP x.a:=by cases x;rfl
section
variable{ts:J Tk}{d:Nat}
def sB(P:PP ts d)(hQ:QQ ts d):QQ ts (d+1):=by
 intro x k c i f D C HK M v L J m;rw[di,aO]at D;let⟨r,h⟩:=D;let⟨_,y,z,A,u,F⟩:=sF r X X X X;have S:x.n=0/\x.s=[]:=by
  rw[iP,Q X,Q X,Q X,E C,aO]at r;have:=zK r.2
  grind
 have N:H x=gX x.op:=by rw[H,E C]
 let⟨r0,r5⟩:=EN u F;have G:qM (d+1) x aL=(qM d y (JW<|H y<H x)++(4,fe x.op.toNat,0)::qM d z (JW<|H z<=H x)):=by
  rw[qM,Q X,Q X,Q X,Q X,A];simp[Ix,T6]
 rw[G]at M J m⊢;rw[A]at h;simp only[lw,dW,aO]at h;have e:=M.left;have w:=M.right;have l:=w.tail;let⟨Z,t2,_⟩:=w.head;rw[aU,aY]at J m⊢;generalize Y:i+WS (qM d y _)=j at*
 have t:i+(WS (qM d y<|JW<|H y<H x)+(WS (qM d z<|JW<|H z<=H x)+1))=j+1+WS (qM d z<|JW<|H z<=H x):=X
 rw[t]at J m⊢;generalize s:j+1+WS (qM d z _)=ff at*
 have ux:∀q:Int,mc ts q j=if gX x.op=q then x.op else 0:=λq=>by
  have:=atG (ts:=ts) (i:=j) (op:=x.op.toNat) X X Z t2 q
  grind
 have p:x=.mk 5 0 [] x.op [y,z] x.a:=by
  have:=Gu x
  grind
 have V:iw (k+1) c<=f:=by unfold iw at L⊢;omega
 have I:(∃b g,(WS ts)-j<=g/\dF ts (f+1) k c i=jW ts (dF ts f (k+1) c) k g b j/\Sim y b)∨∃a,dF ts (f+1) k c i=.error (21,a):=by
  by_cases d:H y=H x
  .have f:JW (H y<H x)=aL:=bR X;have g:y.k=5:=by
    refine bK λa=>?_;have:H y=6:=by rw[H,Q a]
    omega
   grind
  have:=P (x:=y) _ (k+1) c i f h.1 e X R v V X R;rw[Y]at this;rw[dF,Q X];rcases this with⟨b,h1,n⟩|⟨a,h1⟩
  .exact .inl ⟨b,(WS ts)-j,bc _,TE,n⟩
  exact .inr ⟨a,TE⟩
 refine I.elim (λ⟨b,g,hg,h1,n⟩=>?_) .inr;obtain⟨g,rfl⟩:∃W,g=W+1:=⟨g-1,X⟩
 have T:mc ts (k:Int) j=x.op:=R
 have B:=P (x:=z) _ (k+1) c (j+1) f h.2 l X R v V X R;rw[s]at B;rw[h1,jW,T,Q X];rcases B with⟨z',o,K⟩|⟨a,o⟩
 .refine .inl ⟨.mk 5 0 [] x.op [b,z'] b.a,g,X,by rw[o];rfl,?_⟩;rw[p];exact .two _ _ _ _ _ _ _ _ _ _ n K
 exact .inr ⟨a,by rw[o];rfl⟩
def agx(P:PP ts d)(l:QQ ts d):PP ts (d+1):=by
 have p:∀{x:Ex} (k b i f:Nat),di (d+1) x=aE->At ts i (qM (d+1) x aL)->k<=6->(k:Int)<=H x->b<=20->iw k b<=f->i+WS (qM (d+1) x aL)<(WS ts)->(∀q:Int,(k:Int)<=q->q<=5->mc ts q (i+WS (qM (d+1) x aL))=0)->Ok5 x (i+WS (qM (d+1) x aL)) (dF ts f k b i):=by
  intro x k b i f o M h K e hf J j;have S:=o;rw[di,aO]at o;let⟨m,n⟩:=o;by_cases t:x.k=5
  .obtain⟨_,y,z,F,d,q⟩:=sF m X X X X;have w:H x=gX x.op:=by rw[H,E t]
   let⟨G,L⟩:=EN d q;obtain⟨c,s⟩:∃c:Nat,(c:Int)=H x:=⟨(H x).toNat,X⟩
   refine Ok5.down (k0:=c) ?_ Jl X X R;obtain⟨r,a⟩:∃B,f-(c-k)=B+1:=⟨f-(c-k)-1,Jl⟩
   rw[a];rcases sB P l c b i r S t s M e (by unfold iw at hf⊢;omega) J R with⟨C,g,D,h1,v⟩|u
   .exact .inl ⟨C,by rw[h1];exact J6 R _,v⟩
   exact .inr u
  refine Ok5.down (k0:=6) ?_ Jl X X R;obtain⟨r,q⟩:∃u,f-(6-k)=u+1:=⟨f-(6-k)-1,Jl⟩
  let V:(20-b)*8<=r:=Jl
  rw[q,dF,E I];unfold rG;by_cases g:x.k=1
  .have w:qM (d+1) x aL=[(3,[],x.n)]:=by rw[qM,E g];rfl
   rw[w]at M⊢;let⟨f,a,k⟩:=M.head;dsimp only at f a k;rw[ZN a Z,ZN a Z,ZN a Z,Q Z,Q Z,E f,k];refine .inl ⟨_,I,?_⟩;rw[iP,E g]at m;let⟨_,s,v,z⟩:=zK m;have y:x.dP=[]:=cM X;have:=Gu x;rw[g,s,v,y]at this;rw[this];exact .leaf ..
  by_cases k:x.k=2
  .have z:qM (d+1) x aL=[(1,x.s,0)]:=by rw[qM,Q g,E k];rfl
   rw[z]at M⊢;let⟨a,v,C⟩:=M.head;dsimp only at a v C;have f:∀s,sg ts i s=aL:=λs=>by unfold sg;rw[a];rfl
   rw[f,f,f,Q Z,Q Z,Q<|by rw[a];decide,E a,v];refine .inl ⟨_,I,?_⟩;rw[iP,Q g,E<|.inl k,aO]at m;let⟨w,D,y,F⟩:=zK m.2;have B:x.dP=[]:=A
   have:=Gu x;rw[k,w,y,B]at this;rw[this];exact .leaf ..
  by_cases Y:x.k=3
  .have L:qM (d+1) x aL=[(2,[105,110],0),(4,[40],0),(1,x.s,0),(4,[41],0)]:=by rw[qM,Q g,Q k,E Y];rfl
   rw[L]at M⊢;let⟨a,y,T⟩:=M.head;obtain⟨z,B,U⟩:=M.tail.head;let⟨C,D,W⟩:=M.tail.tail.head;obtain⟨v,w,O⟩:=M.tail.tail.tail.head;dsimp only at a y T z B U C D W v w O;have f:∀s,sg ts i s=aL:=λs=>by unfold sg;rw[a];rfl
   rw[f,f,f,Q Z,Q Z,Q<|by rw[a];decide,Q<|by rw[a];decide,E ⟨a,y⟩];unfold Hb;rw[E (Q2 ⟨z,B⟩),E C,E<|Q2 ⟨v,w⟩];refine .inl ⟨_,I,?_⟩;rw[iP,Q g,E<|.inr Y,aO]at m;let⟨F,b2,G,b4⟩:=zK m.2;let N:x.dP=[]:=A
   have:=Gu x;rw[Y,F,G,N]at this;rw[D,this];exact .leaf ..
  have s:x.k=4:=bK λs=>t (sF m g k Y s).1;let⟨y,z,f⟩:=xK m s;have D:qM (d+1) x aL=(4,fe x.op.toNat,0)::qM d y (JW<|H y<6):=by
   rw[qM,Q g,Q k,Q Y,E s,z];simp[Ix,T6]
  rw[D]at M J⊢;rw[z]at n;simp only[lw,dW]at n;let⟨B,v,F⟩:=M.head;dsimp only at B v F;have w:(sg ts i [45]||sg ts i [33])=aE:=by
   rcases f with f|f
   .have:sg ts i [45]=aE:=Q2 ⟨B,by rw[v,f];rfl⟩
    grind
   have:sg ts i [33]=aE:=Q2 ⟨B,by rw[v,f];rfl⟩
   grind
  rw[E w];by_cases C:b=20
  .exact .inr ⟨(tk ts i).a,by rw[kQ,E C];rfl⟩
  rw[kQ,Q C];rw[aY]at J⊢;let L:i+(WS (qM d y<|JW<|H y<6)+1)=i+1+WS (qM d y<|JW<|H y<6):=X
  rw[L]at J⊢;rcases P (x:=y) (JW<|H y<6) 6 (b+1) (i+1) r n M.tail X A X Q4 J X with⟨N,h1,G⟩|⟨a,h1⟩
  .refine .inl ⟨_,TE,?_⟩;rw[iP,Q g,Q X,E s]at m;obtain⟨a,d,O,T⟩:=zK m;have y:(if(tk ts i).t=[33]then(15:Int)else 14)=x.op:=by
    rcases f with f|f
    .rw[v,f];rfl
    rw[v,f];rfl
   have:=Gu x;rw[s,a,d,z]at this;rw[y,this];exact .one _ _ _ _ _ _ _ _ G
  exact .inr ⟨a,TE⟩
 intro x wr k b i f o M h K e hf J j;cases wr
 .simp_all
 have w:qM (d+1) x aE=(4,[40],0)::(qM (d+1) x aL++[(4,[41],0)]):=by
  unfold qM;simp[Ix,T6]
 refine Ok5.down (k0:=6) ?_ Jl X X R;rw[w]at M J⊢;obtain⟨r,g⟩:∃y,f-(6-k)=y+1:=⟨f-(6-k)-1,Jl⟩
 have:(20-b)*8<=r:=Jl
 let⟨u,t,B⟩:=M.head;let⟨s,m,z⟩:=M.tail.right.head;dsimp only at u t B s m z;rw[g,dF,E I];unfold rG;rw[ZN t Z,ZN t Z,Q2 ⟨u,t⟩,Q Z,E I];by_cases n:b=20
 .exact .inr ⟨(tk ts i).a,by rw[kQ,E n]⟩
 rw[kQ,Q n];rw[aY,aU,bI]at J⊢;have k:i+(WS (qM (d+1) x aL)+1+1)=i+1+WS (qM (d+1) x aL)+1:=X
 rw[k]at J⊢;have:0<=H x:=by
  unfold H gX;omega
 rcases p 0 (b+1) (i+1) r o M.tail.left X X X Q4 X (λq h1 f=>atD m Z q)with⟨C,h1,f⟩|⟨a,h1⟩
 .refine .inl ⟨C,?_,f⟩;rw[h1];simp only[xI];rw[E (Q2 ⟨s,m⟩)]
 exact .inr ⟨a,TE⟩
def Oh ts:∀d,PP ts d/\QQ ts d
 |0=>⟨(by intro x wr k d i f h;cases h),(by intro x k d i f h;cases h)⟩
 |d+1=>⟨agx (Oh ts d).1 (Oh ts d).2,sB (Oh ts d).1 (Oh ts d).2⟩
end
def dm{d:Nat}{x:Ex}(m:di d x=aE)(F:mw d x)(h:(iG<|sE d x aL []).2.1=0):WS (sE d x aL [])<=16384/\Sim x (iG<|sE d x aL []).1:=by
 have f:WS (sE d x aL [])<=16384:=by
  refine bK λb=>?_;unfold iG at h;have:cR (sE d x aL [])=([],2, -1):=by rw[cR,E X]
  simp_all
 refine⟨f,?_⟩;have e:=IG d aL [] m f;rw[cJ]at e;rw[e]at h f⊢;generalize D:oq d x aL=L at*
 have M:ma L (0+WS L)=.ok [⟨5,[],0,((WS L:Nat):Int)⟩]:=by
  have hd:L.drop (WS L)=[]:=A
  have a:mj aL []=0:=I;rw[bS,lK X,hd,a,E X];rfl
 obtain⟨u,B,C⟩:=yT (l:=L) d (x:=x) aL 0 (r:=[]) m F X A (λc b=>by cases b) (by rw[D];exact M);generalize G:u++[(⟨5,[],0,((WS L:Nat):Int)⟩:Tk)]=s at*
 have J:cR L=(s,0,0):=by
  rw[cR,Q X,B]
 have n:WS u=WS (qM d x aL):=R
 have K:WS s=WS u+1:=R
 have y:At s 0 (qM d x aL):=λo q v=>by
  rw[<-C,cP,gp]at v;obtain⟨t,g,rfl⟩:=v;have:tk s (0+o)=t:=by
   unfold tk
   grind
  rw[this]
 have k:(tk s<|WS u).k=5:=by
  unfold tk
  grind
 have T:0<=H x:=by
  unfold H gX;omega
 have P:=(Oh s d).1 (x:=x) aL 0 0 0 (iw 0 0) m y Z X Z X X<|λq _ _=>alM A q;have i:ug s 0=dF s (iw 0 0) 0 0 0:=I;rw[<-i]at P;have j:iG L=if(cG s 0).2.2.1≠0 then(Ad,(cG s 0).2.2.1,(cG s 0).2.2.2)else if(tk s (cG s 0).2.1.toNat).k≠5 then(Ad,4,(tk s (cG s 0).2.1.toNat).a)else((cG s 0).1,0,(cG s 0).2.2.2):=by
  unfold iG;rw[J];rfl
 rw[j]at h⊢;have w:cG s 0=if 0<WS s/\po s+1=WS s then(match ug s 0 with
  |.error (c,p)=>(Ad,0,c,p)
  |.ok (x,o)=>(x,(o:Int),0,0))else(Ad,0,1, -1):=by
  unfold cG;by_cases b:0<WS s/\po s+1=WS s
  .rw[E b,E ⟨rU _,X,b.2⟩];rfl
  rw[Q b,Q<|λa=>b ⟨X,a.2.2⟩]
 rw[w]at h⊢;have b:0<WS s/\po s+1=WS s:=R
 rw[E b]at h⊢;rcases P with⟨N,g,z⟩|⟨a,g⟩
 .rw[g]at h⊢;dsimp only at h⊢;rw[Q Z,aV,bS,<-n,k,Q Z];exact z
 rw[g]at h;dsimp only at h;rw[E Z]at h;exact absurd h (show ¬(21:Int)=0 by decide)
structure Em (ts qQ:List Tk) (n o:Nat):Prop where
 e:∀i,n<=i->(tk ts i).k=5
 s:∀i,i<n->(tk qQ (o+i)).k=(tk ts i).k/\(tk qQ (o+i)).t=(tk ts i).t/\(tk qQ (o+i)).n=(tk ts i).n
 c:(tk qQ (o+n)).k=4/\((tk qQ (o+n)).t=[59]∨(tk qQ (o+n)).t=[93])
def Rm(n o:Nat)(r b:Pr):=∀x j,r=.ok (x,j)->∃a,b=.ok (a,o+j)/\Sim x a/\j<=n
def Oj op:fe op≠[59]/\fe op≠[93]:=by
 rcases tG op 16 with h|h
 .have:∀q<16,fe q≠[59]/\fe q≠[93]:=Z
  exact this op h
 rw[fe,cu<|h];decide
section
variable{ts qQ:J Tk}{n o:Nat}
def Em.lt(h:Em ts qQ n o){i}(hk:(tk ts i).k≠5):i<n:=bK λa=>hk<|h.e i X
def Em.U9(h:Em ts qQ n o){i}(c:i<n) s:sg qQ (o+i) s=sg ts i s:=by
 unfold sg;let⟨a,b,_⟩:=h.s i c;rw[a,b]
def Em.sgn(h:Em ts qQ n o){i}(d:i<=n){s}(a:s≠[59])(b:s≠[93]):sg qQ (o+i) s=sg ts i s:=by
 rcases tG i n with l|l
 .exact h.U9 l s
 have:i=n:=X
 subst this;unfold sg;rw[h.e i X];have:JW ((tk qQ _).t=s)=aL:=bR λe=>by
  rcases h.c.2 with c|c
  .exact a (by rw[<-e,c])
  simp_all
 simp_all
def Em.opf(h:Em ts qQ n o){i}(a:i<=n) k:∀f op,kP qQ k (o+i) f op=kP ts k i f op
 |0,_=>rfl
 |f+1,op=>by rw[kP,kP,h.sgn a (Oj op).1 (Oj op).2,h.opf a k f]
def Em.op(h:Em ts qQ n o){i}(a:i<=n) k:mc qQ k (o+i)=mc ts k i:=h.opf a k 13 1
theorem Rm.map{r r'}(h:Rm n o r r'){g g'}(f:∀x a,Sim x a->Sim (g x) (g' a)):Rm n o (V4 g r) (V4 g' r'):=by
 intro x j i;obtain⟨y,b,rfl⟩:=El i;let⟨a,c,d,e⟩:=h y j b;exact⟨g' a,by rw[c];rfl,f _ _ d,e⟩
theorem Rm.and{r r'}{f f'}(b:Rm n o r r')(i:∀x a j,r=.ok (x,j)->j<=n->Sim x a->Rm n o (f x j) (f' a<|o+j)):Rm n o (Hw r f) (Hw r' f'):=by
 intro x j k;let⟨y,m,h,g⟩:=A8 k;let⟨a,c,d,e⟩:=b y m h;rw[c];exact i y a m h e d x j g
theorem Rm.nest{r r'}{d}{a a'}(h:Rm n o r r'):Rm n o (kQ d a r) (kQ d a' r'):=by
 intro x j c;let⟨b,e⟩:=uN c;have:d≠20:=P9
 rw[kQ,Q this];exact h x j b
theorem Rm.par(w:Em ts qQ n o){r r'}(a:Rm n o r r'):Rm n o (xI ts r) (xI qQ r'):=by
 intro x i e;obtain⟨j,b,h,rfl⟩:=En e;let⟨f,c,d,g⟩:=a x j b;let l:=w.lt<|zi h;exact⟨f,by rw[c];simp[xI];rw[E (by rw[w.U9 l];exact h)];rfl,d,l⟩
def Rm.err{e}{r'}:Rm n o (.error e) r':=λx j hx=>V3
theorem Rm.in_(w:Em ts qQ n o) i:Rm n o (Hb ts i) (Hb qQ<|o+i):=by
 intro x j h;obtain⟨rfl,rfl⟩:=Qy h;rw[Hb]at h;split at h
 .rename_i a;split at h
  .rename_i b;split at h
   .rename_i c;let l:=w.lt<|zi c;let e:(tk qQ<|o+i+2).k=(tk ts _).k/\(tk qQ<|o+i+2).t=(tk ts _).t/\(tk qQ _).n=(tk ts _).n:=w.s (i+2) X;refine⟨.mk 3 0 (tk qQ<|o+i+2).t 0 [] (tk qQ<|o+i).a,?_,?_,l⟩
    .rw[Hb];rw[E (show sg qQ (o+i+1) [40]=aE from(w.U9 (i:=i+1) X _).trans a),E<|by rw[e.1];exact b,E<|show sg qQ (o+i+3) [41]=aE from(w.U9 (i:=i+3) l _).trans c];rfl
    rw[e.2.1];exact .leaf ..
   cases h
  cases h
 cases h
theorem Rm.one(h:Em ts qQ n o){b Gm E a:Nat->Pr}{d i:Nat}(c:∀i,i<=n->Rm n o (b i) (E<|o+i))(O:∀i,i<=n->Rm n o (Gm i) (a<|o+i))(e:i<=n):Rm n o (rG ts b Gm d i) (rG qQ E a d<|o+i):=by
 by_cases M:i=n
 .subst M;have f:=h.e i P9;let g:∀s,sg ts i s=aL:=λs=>by
   unfold sg;rw[f];rfl
  have:rG ts b Gm d i=.error (jw ts i):=by
   unfold rG;simp_all
  rw[this];exact Rm.err
 let l:i<n:=X
 let⟨k,d,k3⟩:=h.s i l;unfold rG;rw[h.U9 l,h.U9 l,h.U9 l,k,d,k3];split
 .exact Rm.map (Rm.nest<|O (i+1) l) λx g f=>.one _ _ _ _ _ _ _ _ f
 split
 .exact Rm.nest (Rm.par h<|c (i+1) l)
 split
 .intro x j f;simp only[ry,vK]at f;obtain⟨rfl,rfl⟩:=f;exact⟨_,I,.leaf ..,l⟩
 split
 .intro x j f;simp only[ry,vK]at f;obtain⟨rfl,rfl⟩:=f;exact⟨_,I,.leaf ..,l⟩
 split
 .exact Rm.in_ h i
 exact Rm.err
theorem Rm.loop(h:Em ts qQ n o){E E'}{k}(m:∀i x j,E i=.ok (x,j)->i<j)(c:∀i,i<=n->Rm n o (E i) (E'<|o+i)):∀g a x b j,j<=n->n-j<g->n-j<a->Sim x b->Rm n o (jW ts E k g x j) (jW qQ E' k a b<|o+j)
 |0,_,_,_,j,_,d,_,_=>X
 |_,0,_,_,j,_,_,d,_=>X
 |g+1,a+1,x,b,j,d,e,f,s=>by
  rw[jW,jW,h.op d];split
  .intro y k g;simp_all
  rename_i k;exact Rm.and (c _<|h.lt<|rP _ _ k) λy p o l n D=>have:=m _ _ _ l;Rm.loop h m c g a _ _ o n X X<|.two _ _ _ _ _ _ _ _ _ _ s D
theorem Rm.expr(w:Em ts qQ n o)(l:WS ts=n+1)(h:o+n<WS qQ):∀f k d i,i<=n->Rm n o (dF ts f k d i) (dF qQ f k d<|o+i)
 |0,k,d,i,_=>Rm.err
 |f+1,k,d,i,a=>by
  rw[dF,dF];split
  .exact Rm.one w (λi a=>Rm.expr w l h f 0 _ i a) (λi a=>Rm.expr w l h f 6 _ i a) a
  let R:=λi a=>Rm.expr w l h f (k+1) d i a;exact Rm.and (R i a) λx g c e j s=>Rm.loop w (λi x c b=>mr _ _ _ _ b) R _ _ _ _ _ j X X s
end
def Sim.trans{x y}(h:Sim x y):∀{z:Ex},Sim y z->Sim x z:=by
 induction h with
 |leaf k n s op a b=>intro z c;cases c;exact .leaf ..
 |one k n s op a b x y h i=>intro z e;cases e with|one _ _ _ _ _ c _ z d=>exact .one _ _ _ _ _ _ _ _<|i d
 |two k n s op a b x y m o j l i e=>intro z d;cases d with|two _ _ _ _ _ c _ _ p q f g=>exact .two _ _ _ _ _ _ _ _ _ _ (i f)<|e g
def Pk(E:L->Prop)(p:L)(k:J K3):=∀l i r t,i<=(WS l)->l.drop i=p++r->E r->ma l (i+WS p)=.ok t->∃u,ma l i=.ok (u++t)/\u.map k3=k
abbrev Tr:L->Prop:=λ_=>True
def X1(q:L):=∃c t,q=c::t/\Ib c=aE
section
variable{E E':L->Prop}{p q:L}{a b:J K3}
def Pk.nil E:Pk E [] []:=λ_ _ _ t _ _ _ h=>⟨[],h,I⟩
def Wz:=@Pk.nil
def Pk.glue(d:Pk E p a)(k:Pk E' q b)(f:∀r,E' r->E (q++r)):Pk E' (p++q) (a++b):=by
 intro m l r s h hd c t;rw[bp]at hd;obtain⟨u,e,g⟩:=k _ _ _ _ (DG h hd) (lA hd) c (by rw[ez,<-aU];exact t);obtain⟨v,i,j⟩:=d _ _ _ _ h hd (f r c) e
 grind
theorem Pk.t(h:Pk Tr p a)(k:Pk E q b):Pk E (p++q) (a++b):=h.glue k R
theorem X1.wT(h:X1 q) r:wQ (q++r):=by
 obtain⟨c,t,rfl,a⟩:=h;intro d hd;simp_all
def Pk.e(h:Pk wQ p a)(k:Pk E q b)(c:X1 q):Pk E (p++q) (a++b):=h.glue k λr _=>c.wT r
theorem kX{c}(b:qU c=aE):Pk Tr [c] []:=by
 intro l i r s a hd _ t;refine⟨[],?_,I⟩;let h:l.drop i=c::r:=hd;let f:i+1<=WS l:=DG a hd;let d:l.drop (i+1)=r:=lA hd;let e:mj aL (c::r)=1+mj aL r:=by rw[mj,aW b]
 rw[pV a,h,e,<-ez];rw[bI,pV f,d]at t;exact t
def Pk.sp(h:Pk E q b):Pk E (32::q) b:=(kX (c:=32) Z).t h
def MP:=@Pk.sp
theorem Pk.nl(h:Pk Tr p a):Pk Tr (p++[10]) a:=by
 have:=h.t (kX (c:=10) Z)
 grind
def CT{k}{t}{n}(b:p≠[])(h:∀r,E r->mj aL (p++r)=0/\ot (p++r)=.ok (k,t,n,WS p)):Pk E p [(k,t,n)]:=λl d r s i hd a c=>
 ⟨[_],ye hd b (h r a).1 (h r a).2 c,I⟩
theorem aBC{c}(h:gC c=aL)(a:dH c=aL)(e:[60,62,61,33].contains c=aL)(f:[38,124].contains c=aL)(g:(c==45)=aL)(b:qV.contains c=aE) r:ot (c::r)=.ok (4,[c],0,1):=by
 let s:uL (c::r)=aL:=by
  cases r with
  |nil=>rfl
  |cons d r=>
   show(_||_||_)=aL
   grind
 exact oV h a b s
def lC(c:UInt8):K3:=(4,[c],0)
def DS:K3:=(4,[45,62],0)
def Pk.one c (a:gC c=aL) (d:dH c=aL) (e:[60,62,61,33].contains c=aL) (f:[38,124].contains c=aL) (g:(c==45)=aL) (i:qV.contains c=aE) (j:qU c=aL) (k:(c==47)=aL) (h:Pk E q b):Pk E (c::q) (lC c::b):=
 (CT (p:=[c]) (E:=Tr) N λr _=>⟨Zf j k,aBC a d e f g i r⟩).t h
def Pk.lb(h:Pk E q b):Pk E (123::q) (lC 123::b):=h.one 123 Z Z Z Z Z Z Z Z
def Pk.rb(h:Pk E q b):Pk E (125::q) (lC 125::b):=h.one 125 Z Z Z Z Z Z Z Z
def Pk.lk(h:Pk E q b):Pk E (91::q) (lC 91::b):=h.one 91 Z Z Z Z Z Z Z Z
def Pk.rk(h:Pk E q b):Pk E (93::q) (lC 93::b):=h.one 93 Z Z Z Z Z Z Z Z
def Pk.sc(h:Pk E q b):Pk E (59::q) (lC 59::b):=h.one 59 Z Z Z Z Z Z Z Z
def Pk.cm(h:Pk E q b):Pk E (44::q) (lC 44::b):=h.one 44 Z Z Z Z Z Z Z Z
def Pk.eq(h:Pk E q b)(a:X1 q):Pk E (61::q) (lC 61::b):=
 (CT (p:=[61]) (E:=wQ) N λr c=>⟨I,oV Z Z Z<|mG Z c.soft⟩).e h a
def Pk.to(h:Pk E q b):Pk E (45::62::q) (DS::b):=
 (CT (p:=[45,62]) (E:=Tr) N λr _=>⟨I,I⟩).t h
def An:X1 (59::q):=⟨59,q,I,I⟩
def jM:X1 (32::q):=⟨32,q,I,I⟩
def alQ:X1 (93::q):=⟨93,q,I,I⟩
def alR:X1 (44::q):=⟨44,q,I,I⟩
theorem rv{s}(a:s≠[])(g:WS s<=24)(b:∃c t,s=c::t/\gC c=aE)(d:∀c∈s,gf c=aE):Pk wQ s [(if lM.contains s then 2 else 1,s,0)]:=by
 obtain⟨c,t,rfl,h⟩:=b;refine CT a λr f=>⟨?_,?_⟩
 .have:=nH (c:=c) (by unfold nZ;rw[h];simp);exact Zf this.1 this.2.1
 let e:ot (c::t++r)=if gC c then pC _ else if dH c then vX _ else qF _:=I
 rw[e,h,aW I];unfold pC;rw[f.word _ d,Q X]
theorem oX{s}(n:eu s=aE):Pk wQ s [(1,s,0)]:=by
 unfold eu at n;simp only[aO]at n;let⟨⟨⟨h,a⟩,b⟩,h4⟩:=n;let⟨h,d⟩:=S h;let h4:lM.contains s=aL:=Jn
 have:=rv h d (by
  cases s with
  |nil=>exact absurd I h
  |cons c t=>exact⟨c,t,I,a⟩) (λc e=>by rw[<-S b]at e;exact mbN c e)
 rw[h4]at this;exact this
theorem sX{s}(a:(JW (s≠[]/\WS s<=24)&&(match s with|c::_=>gC c|[]=>aL)&&s.all gf&&lM.contains s)=aE):Pk wQ s [(2,s,0)]:=by
 simp only[aO]at a;obtain⟨⟨⟨h,b⟩,f⟩,d⟩:=a;obtain⟨h,e⟩:=S h;have:=rv h e (by
  cases s with
  |nil=>exact absurd I h
  |cons c t=>exact⟨c,t,I,b⟩) A
 rw[d]at this;exact this
theorem Q8{n}(h:0<=n)(a:n<=9223372036854775807):Pk wQ (Lib.itoa n) [(3,[],n)]:=by
 let i:Lib.itoa n≠[]:=by rw[sV h];exact CR _
 refine CT i λr b=>⟨?_,mLs h a b⟩
 rw[sV h];cases m:Lib.decDigits n.toNat with
 |nil=>exact absurd m<|CR _
 |cons c d=>
  have:=nH (c:=c) (by unfold nZ;rw[EM n.toNat c (by rw[m];simp)];simp);exact Zf this.1 this.2.1
def KR(v:Int):J K3:=if v<0 then[lC 45,(3,[], -v)]else[(3,[],v)]
theorem alS{v}(b:ri v)(h:v≠ -9223372036854775808):Pk wQ (Lib.itoa v) (KR v):=by
 let⟨d,f⟩:=b;unfold KR;by_cases a:v<0
 .rw[aW a];let e:Lib.itoa v=45::Lib.itoa (-v):=by
   unfold Lib.itoa
   grind
  rw[e];refine(CT (p:=[45]) (E:=λr=>soft r) (k:=4) (t:=[45]) (n:=0) N λr g=>⟨I,oV Z Z Z<|mG Z g⟩).glue (Q8 (n:= -v) X X) λr g=>?_;show soft (Lib.itoa _++r);rw[sV (n:= -v) X];cases h:Lib.decDigits (-v).toNat with
  |nil=>exact absurd h<|CR _
  |cons c m=>
   exact sW ⟨c,m++r,I,by unfold nZ;rw[EM (-v).toNat c (by rw[h];simp)];simp⟩
 rw[Q a];exact Q8 X X
end
def Ol(x:Ex):J K3:=qM (Ij x) x aL
def P3{x}(c:wN x=aE)(n:Wf x):di (Ij x) x=aE/\zM x=oq (Ij x) x aL/\(iG<|zM x).2.1=0/\WS (zM x)<=16384/\Sim x (iG<|zM x).1:=by
 let⟨h,d,a⟩:=Ns<|S c;let⟨b,e⟩:=dm h (n _) a;unfold zM;rw[d];exact⟨h,IG _ aL [] h b,a,b,e⟩
def Qa{x}(a:wN x=aE)(h:Wf x):Pk wQ (zM x) (Ol x):=by
 let⟨b,c,_⟩:=P3 a h;rw[c];exact λl e r s i hd d t=>yT _ aL e b (h _) i hd d t
def Q9(a:Ac):J K3:=
 if a.k=2 then(2,my,0)::(1,a.n,0)::[lC 59]else(2,if a.k=1 then uR else ol,0)::(1,a.n,0)::lC 61::(Ol a.x++[lC 59])
def Gv:J Ac->J K3
 |[]=>[]
 |a::l=>Q9 a++Gv l
def Hf(l:J Ac):J K3:=lC 123::(Gv l++[lC 125])
def atH{a}(h:jE a=aE)(n:Il a):Pk Tr (Ev a) (Q9 a):=by
 unfold jE at h;simp at h;let⟨⟨d,b⟩,c⟩:=h;unfold Ev Q9;by_cases hk:a.k=2
 .rw[E hk,E hk];exact(sX (s:=my) Z).e (MP<|(oX b).e (Pk.sc<|Wz _) An) jM
 rw[Q hk]at c⊢;rw[Q hk];let tail:=MP<|(oX b).e (MP<|Pk.eq (MP<|(Qa c n).e (Pk.sc<|Wz Tr) An) jM) jM;by_cases k:a.k=1
 .simp[E k];exact(sX (s:=uR) Z).e tail jM
 simp[Q k];exact(sX (s:=ol) Z).e tail jM
def lx:∀{l:J Ac},l.all jE=aE->(∀a∈l,Il a)->Pk Tr (Be l) (Gv l)
 |[],_,_=>Wz _
 |a::l,h,n=>by
  rw[mf,aO]at h;exact MP<|(atH h.1<|n a N).t<|lx h.2 R
def AR{l}(h:l.all jE=aE)(n:∀a∈l,Il a):Pk Tr (Cj l) (Hf l):=
 Pk.lb ((lx h n).t<|MP<|Pk.rb<|Wz _)
def X2:J (L)->J K3
 |[]=>[]
 |s::l=>lC 44::(1,s,0)::X2 l
def Mu(m:Mv):J K3:=if m.k=1 then[(2,Et,0),(1,m.ev,0)]else if m.k=3 then[(2,jy,0),(3,[],m.wt)]else[(2,iQ,0)]
def MU(m:Mv):J K3:=if m.gd then lC 91::(Ol m.g++[lC 93])else[]
def Uj(m:Mv):J K3:=match m.tg with
 |[]=>[]
 |s::l=>DS::(1,s,0)::X2 l
def Uk(m:Mv):J K3:=Mu m++(MU m++((if m.acts=[]then[]else Hf m.acts)++(Uj m++[lC 59])))
def Qb:∀{l:J _},l.all eu=aE->Pk Tr (Ik l++[59]) (X2 l++[lC 59])/\X1 (Ik l++[59])
 |[],_=>⟨Pk.sc<|Wz _,An⟩
 |s::l,h=>by
  rw[mf,aO]at h;let⟨a,b⟩:=Qb h.2;refine⟨?_,alR⟩;have:=Pk.cm<|MP<|(oX h.1).e a b;simpa[Ik,X2]using this
def atJ{m}(h:nq m=aE)(n:Ys m):Pk Tr (Hd m) (Uk m):=by
 unfold nq at h;simp only[aO]at h;let⟨⟨⟨⟨⟨j,b⟩,c⟩,g⟩,a⟩,d⟩:=h;have d:=S d;unfold Hd Uk;have i:Pk Tr ((match m.tg with
  |[]=>[]
  |s::l=>32::45::62::32::(s++Ik l))++[59]) (Uj m++[lC 59])/\X1 ((match m.tg with
  |[]=>[]
  |s::l=>32::45::62::32::(s++Ik l))++[59]):=by
  unfold Uj;cases l:m.tg with
  |nil=>exact⟨Pk.sc<|Wz _,An⟩
  |cons s p=>
   rw[l,mf,aO]at a;let⟨m,o⟩:=Qb a.2;refine⟨?_,jM⟩;have:=MP<|Pk.to<|MP<|(oX a.1).e m o;simpa using this
 generalize ((match m.tg with
  |[]=>[]
  |s::l=>32::45::62::32::(s++Ik l))++[59])=ff at*
 generalize Uj m++[lC 59]=K at*
 have e:Pk Tr ((if m.acts=[]then[]else 32::Cj m.acts)++ff) ((if m.acts=[]then[]else Hf m.acts)++K)/\X1 ((if m.acts=[]then[]else 32::Cj m.acts)++ff):=by
  by_cases l:m.acts=[]
  .simp_all
  rw[Q l,Q l];exact⟨MP<|(AR g n.a).t i.1,jM⟩
 generalize (_++ff)=R at*
 generalize _++K=f at*
 have t:Pk Tr (XS m++R) (MU m++f)/\X1 (XS m++R):=by
  unfold XS MU;cases l:m.gd
  .exact e
  rw[l]at c;refine⟨?_,jM⟩;have:=MP<|Pk.lk<|(Qa c n.g).e (Pk.rk e.1) alQ;simpa using this
 unfold VN Mu;by_cases k:m.k=1
 .rw[E k]at b⊢;rw[E k,bp];exact(sX (s:=Et) Z).e (MP<|(oX b).e t.1 t.2) jM
 rw[Q k,Q k];by_cases k3:m.k=3
 .rw[E k3,E k3,bp];exact(sX (s:=jy) Z).e (MP<|(Q8 X n.w.2).e t.1 t.2) jM
 rw[Q k3,Q k3];exact(sX (s:=iQ) Z).e t.1 t.2
def mm{p}{a}(h:Pk Tr p a):∀d,Pk Tr (xQ d++p) a
 |0=>h
 |d+1=>MP<|MP<|mm h d
def atK{d}{p}{a}(h:Pk Tr p a):Pk Tr (Wb (d,p)) a:=mm h.nl d
def Lq(L:J Ln)(k:J K3):Prop:=Pk Tr (Dy L) k
def Lq.nil:Lq [] []:=Wz _
def Zv:=@Lq.nil
def Lq.wT{L M}{a b}(h:Lq L a)(k:Lq M b):Lq (L++M) (a++b):=by
 unfold Lq Dy;rw[kj];exact h.t k
def Lq.one{d}{p}{a}(h:Pk Tr p a):Lq [(d,p)] a:=by
 unfold Lq Dy;rw[tF,Dm,bq];exact atK h
def WC:=@Lq.one
def Lq.cons{d}{p}{a}{L}{b}(h:Pk Tr p a)(k:Lq L b):Lq ((d,p)::L) (a++b):=(WC h).wT k
def WE(b:Nb):J K3:=if b.ini=[]then[]else[(2,fU,0),(1,b.ini,0),lC 59]
def P1(b:Nb):J K3:=if b.en=[]then[]else(2,jz,0)::Hf b.en
def X3(b:Nb):J K3:=if b.lv=[]then[]else(2,jL,0)::Hf b.lv
def BH:J Mv->J K3
 |[]=>[]
 |m::l=>Uk m++BH l
def EO(b:Nb):J K3:=WE b++(P1 b++(X3 b++BH b.mv))
mutual
def X4:Nd->J K3
 |.mk b l=>
  if fh b.k then(2,kW b.k,0)::(1,b.nm,0)::DS::(1,b.dft,0)::[lC 59]
  else(2,kW b.k,0)::(1,b.nm,0)::lC 123::(EO b++(oz l++[lC 125]))
def oz:J Nd->J K3
 |[]=>[]
 |x::l=>X4 x++oz l
end
structure nbS (b:Nb):Prop where
 nm:eu b.nm=aE
 ini:b.ini=[]∨eu b.ini=aE
 en:b.en.all jE=aE
 lv:b.lv.all jE=aE
 mv:b.mv.all nq=aE
def IE{b}{n}(h:qH b n=aE)(i:fh b.k=aL):(b.k=1∨b.k=2)/\b.dft=[]/\nbS b:=by
 unfold qH at h;rw[i]at h;simp only[aO,rN,oe,cj,bB]at h;let⟨c,⟨⟨⟨a,d⟩,e⟩,f⟩,g⟩:=h;exact⟨a.1,a.2,c,d,e,f,g⟩
def atL{b}{n}(h:qH b n=aE)(a:fh b.k=aE):eu b.nm=aE/\eu b.dft=aE/\b.ini=[]/\b.en=[]/\b.lv=[]/\b.mv=[]/\n=0:=by
 unfold qH at h;simp_all
def Q0{d}{b}(h:nbS b)(n:nbN b):Lq (Nt d b) (EO b):=by
 refine Lq.wT ?_<|Lq.wT ?_<|Lq.wT ?_ ?_
 .unfold zo WE;by_cases i:b.ini=[]
  .rw[E i,E i];exact Zv
  rw[Q i,Q i];exact WC<|(sX (s:=fU) Z).e (MP<|(oX<|h.ini.resolve_left i).e (Pk.sc<|Wz _) An) jM
 .unfold Tc P1;by_cases i:b.en=[]
  .rw[E i,E i];exact Zv
  rw[Q i,Q i];exact WC<|(sX (s:=jz) Z).e (MP<|AR h.en n.en) jM
 .unfold Wg X3;by_cases i:b.lv=[]
  .rw[E i,E i];exact Zv
  rw[Q i,Q i];exact WC<|(sX (s:=jL) Z).e (MP<|AR h.lv n.lv) jM
 unfold N8;have m:=h.mv;have hk:=n.mv;generalize b.mv=l at*
 induction l with
 |nil=>exact Zv
 |cons a l i=>
  rw[mf,aO]at m;exact Lq.cons (atJ m.1<|hk a N) A
def y7 k:Pk wQ (kW k) [(2,kW k,0)]:=by
 unfold kW;split
 .exact sX Z
 split
 .exact sX Z
 split
 .exact sX Z
 exact sX Z
mutual
def atN:∀(d:Nat) (x:Nd),jZ d x=aE->Ew x->Lq (LS d x) (X4 x)
 |d,.mk b l,h,n=>by
  rw[jZ]at h;rw[Ew]at n;rw[LS,X4];simp only[aO]at h;obtain⟨⟨_,a⟩,e⟩:=h;cases c:fh b.k
  .obtain⟨_,_,s⟩:=IE a c;rw[Q Z,Q Z];exact Lq.cons ((y7 b.k).e (MP ((oX s.nm).e (MP (Pk.lb (Wz _))) jM)) jM) ((Q0 s n.1).wT ((Ra (d+1) l e n.2).wT (WC (Pk.rb (Wz _)))))
  obtain⟨d,f,_⟩:=atL a c;rw[E I,E I];exact WC ((y7 b.k).e (MP ((oX d).e (MP (Pk.to (MP ((oX f).e (Pk.sc (Wz _)) An)))) jM)) jM)
def Ra:∀(d:Nat) (l:J Nd),iR d l=aE->CB l->Lq (sL d l) (oz l)
 |d,[],_,_=>by
  rw[sL,oz];exact Zv
 |d,x::l,h,n=>by
  rw[iR,aO]at h;rw[CB]at n;rw[sL,oz];exact(atN d x h.1 n.1).wT (Ra d l h.2 n.2)
end
def YN(v:Vr):J K3:=(2,Af,0)::(1,v.n,0)::lC 61::(KR v.v++[lC 59])
def BI:J Vr->J K3
 |[]=>[]
 |v::l=>YN v++BI l
def Ss(c:Ch):J K3:=(2,gx,0)::(1,c.root.b.nm,0)::lC 123::(BI c.vars++(EO c.root.b++(oz c.root.kids++[lC 125])))
def atO{c}(d:rH c=aE)(n:Jd c):Lq (Hz c) (Ss c):=by
 unfold rH at d;simp only[aO]at d;obtain⟨⟨g,e⟩,h⟩:=d;replace h:=S h;obtain⟨a,⟨b,m⟩⟩:=c;have r:=n.r;rw[jZ]at e;simp only[aO]at e;obtain⟨⟨_,i⟩,j⟩:=e;have hk:b.k=1:=h.1;have l:fh b.k=aL:=Mh
 obtain⟨_,_,k⟩:=IE i l;have f:Lq (a.map λv=>(1,P5 v)) (BI a):=by
  have f:=n.v;clear h n i j r
  induction a with
  |nil=>exact Zv
  |cons v c b=>
   rw[mf,aO,aO]at g;exact Lq.cons ((sX (s:=Af) Z).e (MP<|(oX g.1.1).e (MP<|Pk.eq (MP<|(alS (f v N) R).e (Pk.sc<|Wz _) An) jM) jM) jM) A
 exact Lq.cons ((sX (s:=gx) Z).e (MP<|(oX k.nm).e (MP<|Pk.lb<|Wz _) jM) jM)<|f.wT<|(Q0 k r.1).wT<|(Ra 1 m j r.2).wT<|WC<|Pk.rb<|Wz _
def KS{p:Prop}:aL=aE->p:=R
def Gw{α}{R:α->α->Prop}:nY R [] []:=⟨I,λi x y h _=>by simp at h⟩
def Ie{α}{R}{x y:α}{xs ys}(c:R x y)(k:nY R xs ys):nY R (x::xs) (y::ys):=⟨by rw[aY,aY,k.1],λi a b h hb=>by
 cases i with
 |zero=>
  simp at h hb;subst h hb;exact c
 |succ i=>exact k.2 i a b (by simpa using h) Rg⟩
def eF(s:Sx)(n a m k:Nat):Sx:={s with i:=s.i+n,a:=s.a-a,m:=s.m-m,n:=s.n-k}
def du s n a m k n' a' m' k':eF (eF s n a m k) n' a' m' k'=eF s (n+n') (a+a') (m+m') (k+k'):=by
 unfold eF
 grind
def IV s:eF s 0 0 0 0=s:=by
 unfold eF;simp
def j6 s:eE s=eF s 1 0 0 0:=by
 unfold eE eF;simp
def rQs{ts}(h:vY ts)(b:0<WS ts):po ts+1=WS ts:=by
 let a:po ts<WS ts:=by
  exact bK λn=>have:=A9 ts ((WS ts)-1) X;this<|(h _ X).2 X
 exact(h _ a).1<|Ba ts a
def RA{ts}{i}(h:(tk ts i).k≠5):i<WS ts:=bK λn=>h (by
 unfold tk;rw[cu X];rfl)
def X5(q:K3)(l:J (L)):Nat:=if q.1≠2/\q.1≠4 then 0 else if zm q.2.1 l<WS l then zm q.2.1 l+1 else 0
section
variable{ts:J Tk}{s:Sx}{q:K3}{A:J K3}
theorem eK(a:s.fc=0)(h:At ts s.i (q::A)) l:cY ts s l=X5 q l:=by
 let⟨b,c,_⟩:=h.head;unfold cY X5;simp_all
theorem kx(a:s.fc=0){x}(h:At ts s.i (q::A))(b:X5 q [x]=1):gw ts s x=eF s 1 0 0 0:=by
 unfold gw;rw[eK a h,b,Q Z,j6]
theorem yU(a:s.fc=0){k}(h:At ts s.i (q::A))(c:q.1=k):(jb ts s k).1.t=q.2.1/\(jb ts s k).1.n=q.2.2/\(jb ts s k).2=eF s 1 0 0 0:=by
 let⟨b,d,f⟩:=h.head;unfold jb;rw[Q (λn=>n.elim (λe=>e a) λe=>e<|by rw[b,c]),j6]
 grind
theorem yV(d:s.fc=0){x}(h:At ts s.i ((1,x,0)::A)):lh ts s=(x,eF s 1 0 0 0):=by
 let⟨a,b,c⟩:=yU (k:=1) d h I;unfold lh;rw[a,c]
theorem BJ{x}(h:1<=x)(a:x<=1000):Cx x=x-1:=by
 unfold Cx;rw[eI X X]
end
def IH{x}(h:uZ x=aE):Zw aL x Ad:=by
 let⟨k,n,s,op,l,a⟩:=x;unfold uZ at h;simp only[aO,dw,bB]at h;let⟨⟨⟨⟨b,c⟩,e⟩,f⟩,g⟩:=h;obtain rfl:k=0:=b;obtain rfl:n=0:=c;obtain rfl:s=[]:=e;obtain rfl:op=0:=f;have:(WS l:Int)=0:=g;obtain rfl:l=[]:=A
 exact λd=>(Sim.leaf 0 0 [] 0 a 0).same d
section
variable{ts:J Tk}(hE:vY ts)
include hE
theorem mL{s}(w:s.fc=0){x}(v:wN x=aE)(n:Wf x){q}{A}(i:At ts s.i (Ol x++q::A))(H:q.1=4/\(q.2.1=[59]∨q.2.1=[93])):
  Zw aL x (qG ts s).1/\(qG ts s).2=eF s (WS<|Ol x) 0 0 0:=by
 obtain⟨z,C,d,G,h⟩:=P3 v n;have D:=C;generalize zM x=L at*
 have M:ma L (0+WS L)=.ok [⟨5,[],0,WS L⟩]:=by
  have hd:L.drop (WS L)=[]:=Rl
  have h:mj aL []=0:=I;rw[bS,lK X,hd,h,E X];rfl
 obtain⟨u,m,o⟩:=yT (l:=L) _ (x:=x) aL 0 (r:=[]) z (n _) X Rl (λc F=>by cases F) (by rw[<-D];exact M);generalize g:u++[_]=a at*
 have k:cR L=(a,0,0):=by rw[cR,Q X,m]
 have j:WS u=WS (Ol x):=by unfold Ol;grind
 have B:WS a=WS u+1:=R
 have f:vY a:=by
  have:=(Ah (l:=L)<|by rw[k]).1;simp_all
 unfold iG at d h;rw[k]at d h;dsimp only at d h;rw[Q Z]at d h;by_cases b:(cG a 0).2.2.1≠0
 .simp_all
 rw[Q b]at d h;by_cases l:(tk a (cG a 0).2.1.toNat).k≠5
 .simp_all
 rw[Q l]at h;have b:=AM.1 b;have l:=AM.1 l;have q:cG a 0=(match ug a 0 with
  |.error (c,p)=>(Ad,0,c,p)
  |.ok (x,r)=>(x,(r:Int),0,0)):=by
  unfold cG;rw[E ⟨X,X,rQs f X⟩];rfl
 have J:Em a ts (WS u) s.i:=by
  refine⟨λc p=>?_,λc p=>?_,?_⟩
  .unfold tk;rw[<-g];rcases Nat.eq_or_lt_of_le p with e|e
   .rw[<-e,dR<|bc _,Ee];rfl
   rw[cu W4];rfl
  .have N:c<WS (Ol x):=X
   have s:k3 (tk a c)=(Ol x)[c]:=by
    have:(u.map k3)[c]? =aM (Ol x)[c]:=by
     rw[o];exact aR N
    rw[cP,gp]at this;obtain⟨t,y,K⟩:=this;rw[<-K];unfold tk;rw[<-g,de p,y];rfl
   have e:=(i.left c _<|aR N).trans s.symm;unfold k3 at e;simp at e;exact e
  have:=i.right.head;simp_all
 cases A:ug a 0 with
 |error e=>
  obtain⟨c,p⟩:=e;rw[A]at q;exfalso;rw[q]at b l;subst b;exact pW _ _ _ _ A I
 |ok y=>
  obtain⟨N,r⟩:=y;rw[A]at q;dsimp only at q;rw[q]at l h;have p:s.i+WS u<WS ts:=by
   refine RA λe=>?_;have:=i.right.head.1;simp_all
  obtain⟨K,P,x,Y⟩:=Rm.expr J B p _ 0 0 0 X N r A;have t:r=WS u:=by
   have:=(f r X).1 l;omega
  subst t;have c:cG ts s.i=(K,((s.i+WS u:Nat):Int),0,0):=by
   unfold cG;rw[E ⟨X,X,rQs hE X⟩,aV];unfold ug;simp_all
  unfold qG;rw[Q (λe=>e w),c];refine⟨(h.trans x).same,?_⟩;rw[aV,j];unfold eF;simp
theorem agA{s}(a:s.fc=0)(h:1<=s.a)(b:s.a<=1000):Cy ts s=eF s 0 1 0 0:=by
 unfold Cy eF;rw[Q X,BJ h b];simp
theorem atP{s}(h:s.fc=0)(p:1<=s.a)(r:s.a<=1000){a}(c:jE a=aE)(t:Il a){A}(d:At ts s.i (Q9 a++A)):Po aL a (uT ts s).1/\(uT ts s).2=eF s (WS<|Q9 a) 1 0 0:=by
 unfold jE at c;simp only[aO]at c;obtain⟨⟨f,o⟩,b⟩:=c;have f:=S f;obtain⟨k,n,x,at_⟩:=a;dsimp only at f o b;have w:∃g i,Q9 ⟨k,n,x,at_⟩++A=(2,g,0)::(1,n,0)::i/\(X5 (2,g,0) [uR,my,ol])=k.toNat:=by
  unfold Q9;by_cases hk:k=2
  .rw[E hk];exact⟨_,_,I,by rw[hk];decide⟩
  rw[Q hk];by_cases a:k=1
  .rw[E a];exact⟨_,_,I,by rw[a];decide⟩
  rw[Q a];have:k=3:=X
  exact⟨_,_,I,by rw[this];decide⟩
 obtain⟨g,i,l,m⟩:=w;have G:=d;rw[l]at G;have j:=eK h G [uR,my,ol];rw[m]at j;have R:k.toNat=k:=X
 unfold uT;rw[j,Q X,agA (ts:=ts) hE h p r,Q<|λe=>e h,j6,du,yV (s:=eF s ..) h G.tail];unfold QB;by_cases hk:k=2
 .subst hk;rw[E (show Int.toNat 2=2 from I),kx (s:=eF (eF s ..) 1 0 0 0) h d.tail.tail Z,du,du];exact⟨⟨I,I,IH b,KS⟩,I⟩
 rw[Q X];rw[Q hk]at b;have u:Q9 ⟨k,n,x,at_⟩=(2,if k=1 then uR else ol,0)::(1,n,0)::lC 61::(Ol x++[lC 59]):=by
  unfold Q9;rw[Q hk]
 rw[u]at d⊢;have a:=d.tail.tail;rw[kx (s:=eF (eF s ..) 1 0 0 0) h a Z,du,du];have e:At ts _ (_++A):=a.tail;rw[bp]at e;obtain⟨v,y⟩:=mL hE (s:=eF s (0+1+1+1) ..) h b t (q:=lC 59) (A:=A) e ⟨I,.inl I⟩;rw[y,kx (s:=eF (eF s (0+1+1+1) ..) (WS<|Ol x) 0 0 0) h e.right Z,du,du];refine⟨⟨R.symm,I,v,KS⟩,?_⟩
 grind
theorem RB:∀l f c {s:Sx},s.fc=0->WS l<f->WS l<=s.a->s.a<=1000->l.all jE=aE->(∀a∈l,Il a)->∀{b:J K3},At ts s.i (Gv l++lC 125::b)->
  ∃r,sI ts f c s=(c++r,eF s (WS (Gv l)+1) (WS l) 0 0)/\nY (Po aL) l r
 |[],f,c,s,h,k,i,j,a,n,b,d=>by
  obtain⟨f,rfl⟩:∃g,f=g+1:=A
  rw[sI,Q<|λe=>e h,eK h d,E Z,j6];exact⟨[],by rw[bq];rfl,Gw⟩
 |a::l,f,c,s,h,o,m,n,k,p,b,d=>by
  rw[aY]at o m;obtain⟨f,rfl⟩:∃g,f=g+1:=⟨f-1,X⟩
  rw[mf,aO]at k;have d:At ts s.i ((Q9 a++Gv l)++lC 125::b):=d;rw[bp]at d;have w:cY ts s [[125]]=0:=by
   have:∃e B,Q9 a++(Gv l++lC 125::b)=(2,e,0)::B/\X5 (2,e,0) [[125]]=0:=by
    unfold Q9;split
    .exact⟨_,_,I,Z⟩
    split
    .exact⟨_,_,I,Z⟩
    exact⟨_,_,I,Z⟩
   obtain⟨e,B,i,j⟩:=this;have G:=d;rw[i]at G;rw[eK h G,j]
  obtain⟨q,t⟩:=atP hE h X n k.1 (p a N) d;rw[sI,Q<|λe=>e h,w,Q<|λe=>e I,t];obtain⟨r,i,j⟩:=RB l f _ (s:=eF s (WS<|Q9 a) 1 0 0) h X WT WT k.2 R d.right;refine⟨(uT ts s).1::r,?_,Ie q j⟩;rw[i,du,bp];simp only[Gv,aU,aY,li];congr 2<;>omega
theorem Oo:∀l,WS l<=WS (Gv l)
 |[]=>bc _
 |a::l=>by
  have:=Oo l;have:1<=WS (Q9 a):=by
   unfold Q9;split<;>simp
  rw[Gv,aU,aY];omega
theorem At.inr{s:Sx}{L}{q}{A}(d:At ts s.i (L++q::A))(h:q.1≠5):s.i+WS L<WS ts:=RA (by rw[d.right.head.1];exact h)
theorem Ub{s:Sx}(h:s.fc=0){l}(g:WS l<=s.a)(i:s.a<=1000)(f:l.all jE=aE)(n:∀a∈l,Il a){A}(d:At ts s.i (Hf l++A)):
  ∃r,lO ts s=(r,eF s (WS<|Hf l) (WS l) 0 0)/\nY (Po aL) l r:=by
 unfold lO;have d:At ts s.i (lC 123::(_++A)):=d;rw[bp]at d;let b:=d.tail;have:=At.inr hE (s:=eF s 1 0 0 0) (L:=Gv l) b Z;rw[kx h d Z];have:=Oo (ts:=ts) hE l;let⟨r,e,c⟩:=RB hE l (WS ts+1) [] (s:=eF s 1 0 0 0) h X WT WT f n b;refine⟨r,?_,c⟩;rw[e,du,cJ];unfold Hf
 grind
theorem atQ:∀l f a {s:Sx},s.fc=0->WS l<f->∀{b:J K3},At ts s.i (X2 l++lC 59::b)->uU ts f [44] a s=(a++l,eF s (WS<|X2 l) 0 0 0)
 |[],f,a,s,h,c,b,d=>by
  obtain⟨f,rfl⟩:∃g,f=g+1:=A
  rw[uU,eK h d,E Z,bq];show _=(a,eF s 0 0 0 0)
  rw[IV]
 |x::l,f,a,s,h,c,b,d=>by
  rw[aY]at c;obtain⟨f,rfl⟩:∃g,f=g+1:=⟨f-1,X⟩
  rw[uU,eK h d,Q Z,j6,yV (s:=eF s 1 0 0 0) h d.tail,du,atQ l f _ (s:=eF s (1+1) ..) h X d.tail.tail,du,bp];simp only[X2,aY,li];congr 2;omega
theorem neP:∀l,WS l<=WS (X2 l)
 |[]=>bc _
 |x::l=>by
  have:=neP l;rw[X2,aY,aY,aY];omega
theorem Un{s}(h:s.fc=0) m m0 {A} (d:At ts s.i ((Uj m++[lC 59])++A)) (t:m0.tg=[]):FU ts m0 s=({m0 with tg:=m.tg},eF s (WS<|Uj m++[lC 59]) 0 0 0):=by
 unfold FU;rw[bp]at d;unfold Uj at d⊢;cases a:m.tg with
 |nil=>
  rw[a]at d;rw[uU,eK h d,E Z,kx h d Z];rfl
 |cons x l=>
  rw[a]at d;have:=At.inr hE (s:=eF s 2 0 0 0) (L:=X2 l) d.tail.tail Z;have:=neP (ts:=ts) hE l;rw[uU,eK h d,Q Z,j6,yV (s:=eF s 1 0 0 0) h d.tail,du,atQ hE l (WS ts) _ (s:=eF s (1+1) ..) h X d.tail.tail,du];rw[kx (s:=eF s ..) h (q:=lC 59) (A:=A) (by
   have:=d.tail.tail.right;have:s.i+1+1+WS (X2 l)=(eF s (1+1+WS (X2 l)) (0+0+0) (0+0+0)<|0+0+0).i:=WT
   grind) Z,du]
  grind
theorem Uo{s:Sx}(h:s.fc=0) m m0 (c:WS m.acts<=s.a) (f:s.a<=1000) (b:m.acts.all jE=aE) (n:∀x∈m.acts,Il x) {A} (d:At ts s.i (((if m.acts=[]then[]else Hf m.acts)++(Uj m++[lC 59]))++A)) (t:m0.tg=[]) (a:m0.acts=[]):
  ∃r,Dx ts m0 s=({m0 with acts:=r,tg:=m.tg},eF s (WS<|(if m.acts=[]then[]else Hf m.acts)++(Uj m++[lC 59])) (WS m.acts) 0 0)/\nY (Po aL) m.acts r:=by
 let⟨k,v,j,g,l,oW,i,p0⟩:=m0;subst t a;unfold Dx;by_cases e:m.acts=[]
 .rw[E e]at d⊢;let w:cY ts s [[123]]=0:=by
   have C:=d;unfold Uj at C;cases o:m.tg with
   |nil=>
    rw[o]at C;rw[eK h (q:=lC 59) (A:=A) C];decide
   |cons x m=>
    rw[o]at C;rw[eK h (q:=DS) (A:=_) C];decide
  rw[w,E I,Un hE h m _ d I];refine⟨[],?_,by rw[e];exact Gw⟩;rw[e];rfl
 rw[Q e]at d⊢;rw[bp]at d;let w:cY ts s [[123]]=1:=by
  rw[eK h (q:=lC 123) d];decide
 let⟨r,o,p⟩:=Ub hE h c f b n d;rw[w,Q Z,o,Un hE (s:=eF s (WS<|Hf m.acts) (WS m.acts) 0 0) h m _ d.right I,du];simp_all
theorem KT{s:Sx}(h:s.fc=0) m m0 (o:WS m.acts<=s.a) (p:s.a<=1000) (b:nq m=aE) (n:Ys m) {A} (dM:At ts s.i ((MU m++((if m.acts=[]then[]else Hf m.acts)++(Uj m++[lC 59])))++A))
  (t:m0.tg=[]) (c:m0.acts=[]) (d:m0.gd=aL) (f:m0.g=Ad):
  ∃g r,sJ ts m0 s=({m0 with gd:=m.gd,g:=g,acts:=r,tg:=m.tg},eF s (WS<|MU m++((if m.acts=[]then[]else Hf m.acts)++(Uj m++[lC 59]))) (WS m.acts) 0 0)/\Zw aL m.g g/\nY (Po aL) m.acts r:=by
 unfold nq at b;simp only[aO]at b;obtain⟨⟨⟨⟨⟨_,_⟩,a⟩,i⟩,_⟩,_⟩:=b;obtain⟨k,v,l,u,y,oW,w,p0⟩:=m0;subst t c d f;unfold sJ;unfold MU at dM⊢;cases j:m.gd
 .rw[j]at a dM;have g:cY ts s [[91]]=0:=by
   have C:=dM;by_cases e:m.acts=[]
   .rw[E e]at C;unfold Uj at C;cases r:m.tg with
    |nil=>
     rw[r]at C;rw[eK h (q:=lC 59) (A:=A) C];decide
    |cons x m=>
     rw[r]at C;rw[eK h (q:=DS) (A:=_) C];decide
   rw[Q e]at C;rw[eK h (q:=lC 123) (A:=_) C];decide
  obtain⟨r,s,x⟩:=Uo hE h m ⟨k,v,l,aL,Ad,[],[],p0⟩ o p i n.a dM I I;rw[g,E I,s];exact⟨Ad,r,I,IH a,x⟩
 rw[j]at a dM;have dM:At ts s.i (lC 91::(Ol m.g++lC 93::(((if m.acts=[]then[]else Hf m.acts)++(Uj m++[lC 59]))++A))):=NT
 have x:cY ts s [[91]]=1:=by
  rw[eK h dM];decide
 obtain⟨C,z⟩:=mL hE (s:=eF s 1 0 0 0) h a n.g (q:=lC 93) dM.tail ⟨I,.inr I⟩;rw[x,Q Z,j6,z,du,kx (s:=eF s ..) h (q:=lC 93) (by
  have:=dM.tail.right;have e:s.i+1+WS (Ol m.g)=(eF s (1+WS (Ol m.g)) (0+0) (0+0)<|0+0).i:=WT
  rw[<-e];exact this) Z,du]
 obtain⟨r,g,B⟩:=Uo hE (s:=eF s _ (0+0+0) _ _) h m ⟨k,v,l,aE,(qG ts _).1,[],[],p0⟩ WT WT i n.a (by
  have:=dM.tail.right.tail;have e:s.i+1+WS (Ol m.g)+1=(eF s (1+WS (Ol m.g)+1) (0+0+0) (0+0+0)<|0+0+0).i:=WT
  rw[<-e];exact this) I I
 rw[g,du]
 grind
theorem agB{s}(a:s.fc=0)(h:1<=s.m)(b:s.m<=1000):wa ts s=eF s 0 0 1 0:=by
 unfold wa eF;rw[Q X,BJ h b];simp
theorem aBD{s:Sx}(h:s.fc=0){m}(o:WS m.acts<=s.a)(p:s.a<=1000)(z:1<=s.m)(u:s.m<=1000)(c:nq m=aE)(n:Ys m){A}(d:At ts s.i (Uk m++A)):
  cY ts s [Et,iQ,jy]=m.k.toNat/\1<=m.k/\MvE aL m (rl ts m.k s).1/\(rl ts m.k s).2=eF s (WS<|Uk m) (WS m.acts) 1 0:=by
 have f:=c;unfold nq at f;simp only[aO]at f;obtain⟨⟨⟨⟨⟨i,a⟩,_⟩,_⟩,_⟩,j⟩:=f;have i:=S i;have j:=S j;unfold Uk at d⊢;rw[bp]at d;unfold rl;rw[agB (ts:=ts) hE h z u,Q<|λe=>e h];generalize R:MU m++_=l at*
 unfold Mu at d⊢;by_cases b:m.k=1
 .rw[E b]at d a⊢;rw[E b];refine⟨by rw[eK h d,b];decide,X,?_⟩;rw[j6,du,yV (s:=eF s ..) h d.tail,du];obtain⟨g,r,e,k,q⟩:=KT hE (s:=eF s (0+1+1) (0+0+0) _ _) h m {Z1 m.k (tk ts s.i).a with ev:=m.ev} WT WT c n (by rw[R];exact d.tail.tail) I I I I;rw[e,R,du];refine⟨⟨I,I,?_,I,k,q,I,KS⟩,?_⟩
  .show m.wt=0;omega
  grind
 rw[Q b]at d a⊢;rw[Q b];have a:=S a;by_cases k3:m.k=3
 .rw[E k3]at d⊢;rw[E k3];refine⟨by rw[eK h d,k3];decide,X,?_⟩;obtain⟨x,e,q⟩:=yU (s:=eF s ..) (k:=3) h d.tail I;rw[j6,du,e,q,du];obtain⟨g,r,t,v,w⟩:=KT hE (s:=eF s (0+1+1) (0+0+0) _ _) h m {Z1 m.k (tk ts s.i).a with wt:=m.wt} WT WT c n (by rw[R];exact d.tail.tail) I I I I;rw[t,R,du];refine⟨⟨I,a,I,I,v,w,I,KS⟩,?_⟩
  grind
 rw[Q k3]at d⊢;rw[Q k3];have t:m.k=2:=X
 refine⟨by rw[eK h d,t];decide,X,?_⟩;rw[j6,du];obtain⟨g,r,e,k,q⟩:=KT hE (s:=eF s _ (0+0) _ _) h m (Z1 m.k (tk ts s.i).a) WT WT c n (by rw[R];exact d.tail) I I I I;rw[e,R,du];refine⟨⟨I,a,?_,I,k,q,I,KS⟩,?_⟩
 .show m.wt=0;omega
 grind
end
def TY(x y:Nd):=∀d,SU aL d x y
def KU{b b'}{l l'}(h:NbE aL b b')(k:nY TY l l'):TY (.mk b l) (.mk b' l'):=λd=>by
 cases d with
 |zero=>trivial
 |succ d=>exact⟨h,k.1,λi x y a b=>k.2 i x y a b d⟩
def DH(q:K3):Prop:=X5 q [Et,iQ,jy]=0/\X5 q [fU,jz,jL]=0/\q.1≠5
def zQ(l:J Mv):Nat:=(l.map λm=>WS m.acts).sum
def alW b:DW b=WS b.en+(WS b.lv+zQ b.mv):=by unfold DW zQ;omega
section
variable{ts:J Tk}(hE:vY ts)
include hE
theorem alX{s}(h0:s.fc=0) n {h} (a:h.i=aL) {x} {A} (dM:At ts s.i ((2,fU,0)::(1,x,0)::lC 59::A)):eJ ts n h s=(aE,{n with ini:=x},{h with i:=aE},eF s 3 0 0 0):=by
 unfold eJ;let w:cY ts s [Et,iQ,jy]=0:=WQ
 let b:cY ts s [fU,jz,jL]=1:=WQ
 rw[w,Q<|λe=>e I,b];show(if h.i=aE then _ else _)=_;rw[a,Q Z,j6,yV (s:=eF s 1 0 0 0) h0 dM.tail,kx (s:=eF (eF s 1 0 0 0) 1 0 0 0) h0 dM.tail.tail Z,du,du]
theorem atS{s:Sx}(h0:s.fc=0) n {h} (i:h.e=aL) {l} (k:WS l<=s.a) (m:s.a<=1000) (f:l.all jE=aE) (g:∀a∈l,Il a) {A} (dM:At ts s.i ((2,jz,0)::(Hf l++A))):
  ∃r,eJ ts n h s=(aE,{n with en:=r},{h with e:=aE},eF s (WS (Hf l)+1) (WS l) 0 0)/\nY (Po aL) l r:=by
 unfold eJ;let w:cY ts s [Et,iQ,jy]=0:=WQ
 let j:cY ts s [fU,jz,jL]=2:=WQ
 rw[w,Q<|λe=>e I,j];let⟨r,b,c⟩:=Ub hE (s:=eF s 1 0 0 0) h0 WT WT f g dM.tail
 suffices d:(if h.e=aE then _ else _)=_ from⟨r,d,c⟩
 rw[i,Q Z,j6,b];dsimp only;rw[du];congr 4<;>omega
theorem atT{s:Sx}(h0:s.fc=0) n {h} (i:h.l=aL) {l} (k:WS l<=s.a) (m:s.a<=1000) (f:l.all jE=aE) (g:∀a∈l,Il a) {A} (dM:At ts s.i ((2,jL,0)::(Hf l++A))):
  ∃r,eJ ts n h s=(aE,{n with lv:=r},{h with l:=aE},eF s (WS (Hf l)+1) (WS l) 0 0)/\nY (Po aL) l r:=by
 unfold eJ;let w:cY ts s [Et,iQ,jy]=0:=WQ
 let j:cY ts s [fU,jz,jL]=3:=WQ
 rw[w,Q<|λe=>e I,j];let⟨r,b,c⟩:=Ub hE (s:=eF s 1 0 0 0) h0 WT WT f g dM.tail
 suffices d:(if h.l=aE then _ else _)=_ from⟨r,d,c⟩
 rw[i,Q Z,j6,b];dsimp only;rw[du];congr 4<;>omega
theorem atU{s:Sx}(a:s.fc=0) n h {m} (f:WS m.acts<=s.a) (g:s.a<=1000) (z:1<=s.m) (u:s.m<=1000) (i:nq m=aE) (j:Ys m) {A} (d:At ts s.i (Uk m++A)):
  ∃r,eJ ts n h s=(aE,{n with mv:=n.mv++[r]},h,eF s (WS<|Uk m) (WS m.acts) 1 0)/\MvE aL m r:=by
 let⟨b,k,c,e⟩:=aBD hE a f g z u i j d;unfold eJ;rw[b,E X,xf X,e];exact⟨_,I,c⟩
theorem agC{s}(a:s.fc=0) n h {q} {A} (b:DH q) (d:At ts s.i (q::A)):eJ ts n h s=(aL,n,h,s):=by
 unfold eJ;rw[eK a d,eK a d,b.1,b.2.1,Q<|λe=>e I];rfl
theorem BK{s}(a:s.fc=0){f}{n n'}{h h'}{s'}(c:eJ ts n h s=(aE,n',h',s')):iy ts (f+1) n h s=iy ts f n' h' s':=by
 rw[iy,Q<|λe=>e a,c];rfl
theorem Mo:∀l f n h {s:Sx},s.fc=0->WS l<f->(zQ l)<=s.a->s.a<=1000->WS l<=s.m->s.m<=1000->l.all nq=aE->(∀m∈l,Ys m)->∀{q:K3} {A:J K3},DH q->At ts s.i (BH l++q::A)->
  ∃r,iy ts f n h s=({n with mv:=n.mv++r},eF s (WS<|BH l) (zQ l) (WS l) 0)/\nY (MvE aL) l r
 |[],f,n,h,s,a,b,i,j,z,u,k,o,q,A,c,d=>by
  obtain⟨f,rfl⟩:∃g,f=g+1:=⟨f-1,by rw[ck]at b;omega⟩
  rw[iy,Q<|λe=>e a,agC hE a n h c d];refine⟨[],?_,Gw⟩;rw[bq];show(n,s)=(n,eF s 0 0 0 0)
  rw[IV]
 |m::l,f,n,h,s,a,p,w,o,z,v,b,t,q,A,u,d=>by
  rw[aY]at p z;obtain⟨f,rfl⟩:∃g,f=g+1:=⟨f-1,X⟩
  rw[mf,aO]at b;let k:zQ (m::l)=WS m.acts+zQ l:=Mi
  have d:At ts s.i ((Uk m++BH l)++q::A):=d;rw[bp]at d;let⟨x,e,c⟩:=atU hE a n h X o X v b.1 (t m N) d;rw[BK hE a e];let⟨r,i,j⟩:=Mo l f {n with mv:=n.mv++[x]} h (s:=eF s (WS<|Uk m) (WS m.acts) 1 0) a X WT WT WT WT b.2 R u d.right;refine⟨x::r,?_,Ie c j⟩;rw[i,du,k];simp only[BH,aU,aY,bp,li];congr 2;omega
theorem eqA:∀l,WS l<=WS (BH l)
 |[]=>bc _
 |m::l=>by
  have:=eqA l;have:1<=WS (Uk m):=by
   unfold Uk Mu
   grind
  rw[BH,aU,aY];omega
theorem RC{f}{n}{h}{s:Sx}{b}(a:s.fc=0)(i:WS (X3 b)+WS b.mv<f)(v:(WS b.lv+zQ b.mv:Nat)<=s.a)(o:s.a<=1000)(z:WS b.mv<=s.m)(u:s.m<=1000)(m:nbS b)(l:nbN b){q}{A}(p:DH q)(d:At ts s.i (X3 b++(BH b.mv++q::A)))(t:h.l=aL)(C:n.lv=[]):
  ∃j k,iy ts f n h s=({n with lv:=j,mv:=n.mv++k},eF s (WS (X3 b)+WS (BH b.mv)) (WS b.lv+zQ b.mv) (WS b.mv) 0)/\nY (Po aL) b.lv j/\nY (MvE aL) b.mv k:=by
 obtain⟨y,D,x,nd,ne,nl,B,w⟩:=n;subst C;unfold X3 at d i⊢;by_cases c:b.lv=[]
 .rw[E c]at d i⊢;obtain⟨r,e,g⟩:=Mo hE b.mv f _ h a X X o z u m.mv l.mv p d;refine⟨[],r,?_,by rw[c];exact Gw,g⟩;rw[e,c];simp
 rw[Q c]at d i⊢;simp at i;obtain⟨f,rfl⟩:∃g,f=g+1:=⟨f-1,X⟩
 obtain⟨j,h,n⟩:=atT hE a _ t X o m.lv l.lv d;rw[BK hE a h];obtain⟨k,q,r⟩:=Mo hE b.mv f _ _ (s:=eF s _ (WS b.lv) 0 0) a X WT WT WT WT m.mv l.mv p (by
  have e:s.i+1+WS (Hf b.lv)=(eF s (WS (Hf b.lv)+1) (WS b.lv) 0 0).i:=WT
  rw[<-e];exact d.tail.right)
 refine⟨j,k,?_,n,r⟩;rw[q,du,aY];congr 2;omega
theorem RD{f}{n}{h}{s:Sx}{b}(i:s.fc=0)(j:WS (P1 b)+(WS (X3 b)+WS b.mv)<f)(G:(WS b.en+(WS b.lv+zQ b.mv):Nat)<=s.a)(p:s.a<=1000)(F:WS b.mv<=s.m)(D:s.m<=1000)(o:nbS b)(m:nbN b){q}{A}(u:DH q)(d:At ts s.i (P1 b++(X3 b++(BH b.mv++q::A))))(l:h.e=aL)(t:h.l=aL)(B:n.en=[])(C:n.lv=[]):
  ∃c r a,iy ts f n h s=({n with en:=c,lv:=r,mv:=n.mv++a},eF s (WS (P1 b)+(WS (X3 b)+WS (BH b.mv))) (WS b.en+(WS b.lv+zQ b.mv)) (WS b.mv) 0)/\nY (Po aL) b.en c/\nY (Po aL) b.lv r/\nY (MvE aL) b.mv a:=by
 obtain⟨x,z,w,nd,ne,nl,y,v⟩:=n;subst C B;unfold P1 at d j⊢;by_cases k:b.en=[]
 .rw[E k]at d j⊢;obtain⟨r,a,g,e,b⟩:=RC hE (f:=f) (h:=h) (n:=⟨x,z,w,nd,[],[],y,v⟩) i X X p F D o m u d t I;refine⟨[],r,a,?_,by rw[k];exact Gw,e,b⟩
  grind
 rw[Q k]at d j⊢;simp at j;obtain⟨f,rfl⟩:∃g,f=g+1:=⟨f-1,X⟩
 obtain⟨c,q,A⟩:=atS hE i _ l X p o.en m.en d;rw[BK hE i q];obtain⟨r,a,H,J,K⟩:=RC hE (n:=⟨x,z,w,nd,c,[],y,v⟩) (h:={h with e:=aE}) (s:=eF s _ (WS b.en) 0 0) i (f:=f) X WT WT WT WT o m u (by
  have e:s.i+1+WS (Hf b.en)=(eF s (WS (Hf b.en)+1) (WS b.en) 0 0).i:=WT
  rw[<-e];exact d.tail.right) t I
 refine⟨c,r,a,?_,A,J,K⟩;rw[H,du,aY];congr 2<;>omega
theorem aBE{f}{n}{s:Sx}{b}(d:s.fc=0)(e:WS (WE b)+(WS (P1 b)+(WS (X3 b)+WS b.mv))<f)(i:(DW b)<=s.a)(w:s.a<=1000)(z:WS b.mv<=s.m)(y:s.m<=1000)(m:nbS b)(k:nbN b){q}{A}(l:DH q)(dM:At ts s.i (EO b++q::A))(o:n.ini=[])(v:n.en=[])(C:n.lv=[])(x:n.mv=[]):
  ∃r a c,iy ts f n ⟨aL,aL,aL⟩ s=({n with ini:=b.ini,en:=r,lv:=a,mv:=c},eF s (WS<|EO b) (DW b) (WS b.mv) 0)/\nY (Po aL) b.en r/\nY (Po aL) b.lv a/\nY (MvE aL) b.mv c:=by
 rw[alW]at i⊢;let⟨t,u,B,nd,ne,nl,D,p⟩:=n;subst o C v x;unfold EO at dM⊢;have dM:=NT
 simp;unfold WE at dM e⊢;by_cases j:b.ini=[]
 .rw[E j]at dM e⊢;let⟨r,a,c,b,g⟩:=RD hE (f:=f) (n:=⟨t,u,[],nd,[],[],[],p⟩) (h:=⟨aL,aL,aL⟩) d X i w z y m k l dM I I I I
  grind
 rw[Q j]at dM e⊢;simp at e;obtain⟨f,rfl⟩:∃g,f=g+1:=⟨f-1,X⟩
 rw[BK hE d (alX hE d _ (h:=⟨aL,aL,aL⟩) I dM)];let⟨r,a,c,q,A⟩:=RD hE (n:=⟨t,u,b.ini,nd,[],[],[],p⟩) (h:=⟨aE,aL,aL⟩) (s:=eF s 3 0 0 0) d (f:=f) X WT WT WT WT m k l dM.tail.tail.tail I I I I;refine⟨r,a,c,?_,A⟩;rw[q,du];congr 2<;>omega
theorem Gx{s}(e:s.fc=0) k {nm} {A} (d:At ts s.i ((1,nm,0)::A)) (h:1<=s.n) (n:s.n<=1000) (hd:s.d≠0):∃a,gy ts k s=({OC with k:=k,nm:=nm,a:=a},eF s 1 0 0 1):=by
 let u:Hx ts s=eF s 0 0 0 1:=by
  unfold Hx eF;rw[Q X,BJ h n];simp
 let r:tP ts s=eF s 0 0 0 1:=by
  unfold tP;rw[E d.head.1,u,Q P9]
 let⟨c,f,b⟩:=yU (s:=eF s 0 0 0 1) (k:=1) e (q:=_) (A:=A) d I;refine⟨(jb ts (eF s 0 0 0 1) 1).1.a,?_⟩;unfold gy;rw[r,c,b,du]
theorem alY{k}(h:1<=k)(a:k<=4):X5 (2,kW k,0) sK=k.toNat:=by
 have:k=1∨k=2∨k=3∨k=4:=X
 rcases this with rfl|rfl|rfl|rfl<;>decide
theorem KV{d}{b}{l}(h:jZ d (.mk b l)=aE):1<=b.k/\b.k<=4:=by
 rw[jZ]at h;simp at h;cases a:fh b.k
 .have:=(IE h.1.2 a).1;omega
 have:=S a;omega
theorem BL x:∃B,X4 x=(2,kW x.b.k,0)::B:=by
 let⟨b,l⟩:=x;rw[X4];split
 .exact⟨_,I⟩
 exact⟨_,I⟩
abbrev Tp(t:J Tk)(f:Nat):=∀x deep {s:Sx} {A:J K3},jZ deep x=aE->Ew x->s.fc=0->s.d=12-deep->13<=deep+f->(iI x)<=s.n->s.n<=1000->(Bd x)<=s.a->s.a<=1000->(DX x)<=s.m->s.m<=1000->At t s.i ((X4 x).tail++A)->
 ∃r,mZ t f x.b.k s=(r,eF s ((WS<|X4 x)-1) (Bd x) (DX x)<|iI x)/\TY x r
theorem nw{N}(h:Tp ts N):∀l f a deep {s:Sx},iR deep l=aE->CB l->s.fc=0->s.d=12-deep->13<=deep+N->WS l<f->(dY l)<=s.n->s.n<=1000->(oy l)<=s.a->s.a<=1000->(pu l)<=s.m->s.m<=1000->∀{c:J K3},At ts s.i (oz l++lC 125::c)->
  ∃r,wH ts (mZ ts N) f a s=(a++r,eF s (WS<|oz l) (oy l) (pu l)<|dY l)/\nY TY l r
 |[],f,a,deep,s,k,n,b,hd,V,e,p,q,i,j,m,o,c,d=>by
  obtain⟨f,rfl⟩:∃g,f=g+1:=⟨f-1,by rw[ck]at e;omega⟩
  rw[oz]at d⊢;rw[wH,eK b d,E Z,oy,pu,dY];exact⟨[],by rw[bq,ck,IV],Gw⟩
 |x::l,f,a,deep,s,i,n,j,hd,V,v,z,I,m,F,y,H,c,M=>by
  rw[aY]at v;obtain⟨f,rfl⟩:∃g,f=g+1:=⟨f-1,X⟩
  rw[iR,aO]at i;rw[dY]at z⊢;rw[oy]at m⊢;rw[pu]at y⊢;rw[oz]at M⊢;rw[bp]at M;obtain⟨D,B⟩:=BL (ts:=ts) hE x;have hk:=KV (ts:=ts) hE (d:=deep) (b:=x.b) (l:=x.kids) (by obtain⟨b,k⟩:=x;exact i.1);have w:cY ts s sK=x.b.k.toNat:=by
   have b:=M;rw[B]at b;rw[eK j b];exact alY (ts:=ts) hE hk.1 hk.2
  have R:x.b.k.toNat=x.b.k:=X
  have u:At ts (eF s 1 0 0 0).i ((X4 x).tail++(oz l++lC 125::c)):=by
   have b:=M;rw[B]at b⊢;exact b.tail
  have G:1<=WS (X4 x):=A
  obtain⟨r,o,p⟩:=h x deep (s:=eF s 1 0 0 0) i.1 n.1 j hd V WT WT WT WT WT WT u;rw[wH,w,Q X,R,j6,o,du];obtain⟨C,q,t⟩:=nw h l f _ deep (s:=eF s _ (0+Bd x) (0+DX x)<|0+iI x) i.2 n.2 j hd V X WT WT WT WT WT WT (by
   have e:s.i+WS (X4 x)=(eF s (1+((WS<|X4 x)-1)) (0+Bd x) (0+DX x)<|0+iI x).i:=WT
   rw[<-e];exact M.right)
  refine⟨r::C,?_,Ie p t⟩;rw[q,du,bp,aU];congr 2<;>omega
theorem gk:∀l,WS l<=WS (oz l)
 |[]=>bE _
 |x::l=>by
  have:=gk l;let⟨B,h⟩:=BL (ts:=ts) hE x;rw[oz,h,aU,aY,aY];omega
theorem Ou l (h:∀x∈l,1<=x.b.k/\x.b.k<=4) A:∃q B,oz l++lC 125::A=q::B/\DH q:=by
 cases l with
 |nil=>
  exact⟨_,_,I,by unfold DH;decide⟩
 |cons x l=>
  let⟨B,a⟩:=BL (ts:=ts) hE x;rw[oz,a];refine⟨_,_,I,?_⟩;obtain _:=h x N;have:x.b.k=1∨x.b.k=2∨x.b.k=3∨x.b.k=4:=X
  unfold DH;rcases this with e|e|e|e<;>rw[e]<;>decide
theorem BM{d}:∀{l:J Nd},iR d l=aE->∀x∈l,1<=x.b.k/\x.b.k<=4
 |[],_,x,h=>by simp at h
 |y::l,h,x,a=>by
  rw[iR,aO]at h;rcases ba.1 a with rfl|a
  .obtain⟨b,k⟩:=x;exact KV (ts:=ts) hE h.1
  exact BM h.2 x a
theorem nJ{N:Nat}(F:Tp ts N){b}{l}{deep}{s:Sx}{n}(p:iR (deep+1) l=aE)(t:CB l)(J:nbS b)(H:nbN b)(h:s.fc=0)(hd:s.d=12-deep)(G:deep<12)(V:13<=deep+1+N)
  (U:(dY l:Int)<=s.n) (W:s.n<=1000) (S:(DW b+oy l:Nat)<=s.a) (u:s.a<=1000) (T:(WS b.mv+pu l:Nat)<=s.m) (K:s.m<=1000) {A} (dM:At ts s.i ((EO b++(oz l++[lC 125]))++A)) (o:n.ini=[]) (E:n.en=[]) (C:n.lv=[]) (O:n.mv=[]):
  ∃c e g r,uV ts (mZ ts N) n s=(.mk {n with ini:=b.ini,en:=c,lv:=e,mv:=g} r,eF s (WS<|EO b++(oz l++[lC 125])) (DW b+oy l) (WS b.mv+pu l)<|dY l)/\nY (Po aL) b.en c/\nY (Po aL) b.lv e/\nY (MvE aL) b.mv g/\nY TY l r:=by
 let dM:=NT
 let⟨q,P,k,m⟩:=Ou hE l (BM hE p) A;have M:=At.inr hE (s:=s) (L:=EO b++oz l) (q:=lC 125) (A:=A) NT Z;rw[aU]at M;have:=eqA (ts:=ts) hE b.mv;have:=gk (ts:=ts) hE l;have:WS (WE b)+(WS (P1 b)+(WS (X3 b)+WS (BH b.mv)))=WS (EO b):=by unfold EO;simp
 let i:Cx s.d=s.d-1:=BJ X X;let j:P7 (s.d-1)=s.d:=by
  unfold P7;rw[eI X X];omega
 have a:=dM;rw[k]at a;let⟨c,e,g,v,w,x,y⟩:=aBE hE (f:=WS ts+1) (n:=n) (s:={s with d:=s.d-1}) h X P0 u P0 K J H m a o E C O;let⟨r,z,B⟩:=nw hE F l (WS ts+1) [] _ (s:=eF {s with d:=s.d-1} (WS<|EO b) (DW b) (WS b.mv) 0) p t h WT V X WT WT WT WT WT WT dM.right;refine⟨c,e,g,r,?_,w,x,y,B⟩;unfold uV;dsimp only;rw[i,v,z];dsimp only;let D:({eF (eF {s with d:=s.d-1} (WS<|EO b) (DW b) (WS b.mv) 0) (WS<|oz l) (oy l) (pu l) (dY l)with d:=P7 (eF (eF {s with d:=s.d-1} (WS<|EO b) (DW b) (WS b.mv) 0) (WS<|oz l) (oy l) (pu l)<|dY l).d})=eF s (WS (EO b)+WS (oz l)) (DW b+oy l) (WS b.mv+pu l) (0+dY l):=by
  rw[du];unfold eF;rw[j]
 rw[D,kx (s:=eF s (WS (EO b)+WS (oz l)) ..) h (q:=lC 125) (A:=A) (by
  have b:=dM.right.right;rw[ez]at b;exact b) Z,du,cJ]
 grind
theorem ou:∀f,Tp ts f
 |0=>by
  intro x deep s A h n a hd V;let⟨b,l⟩:=x;rw[jZ]at h
  grind
 |f+1=>by
  intro x deep s A e i h hd V t m o u q v d;let⟨b,l⟩:=x;have:=KV (ts:=ts) hE e;rw[jZ]at e;rw[Ew]at i;rw[iI]at t⊢;rw[Bd]at o⊢;rw[DX]at q⊢;simp only[aO]at e;let⟨⟨g,j⟩,p⟩:=e;let g:=S g;show ∃r,mZ ts (f+1) b.k s=_/\_;rw[X4]at d⊢;rw[mZ];cases c:fh b.k
  .obtain⟨K,D,F⟩:=IE j c;rw[c,Q Z]at d;have d:At ts s.i ((1,b.nm,0)::lC 123::((EO b++(oz l++[lC 125]))++A)):=d;let⟨a,w⟩:=Gx hE h b.k d X m X;rw[Q X,Q Z,w];dsimp only;rw[kx (s:=eF s 1 0 0 1) h d.tail Z,du];let⟨G,H,J,r,x,y,z,B,C⟩:=nJ hE (ou f) (deep:=deep) (s:=eF s (1+1) (0+0) (0+0)<|1+0) (n:={OC with k:=b.k,nm:=b.nm,a:=a}) p i.2 F i.1 h hd g X WT WT WT WT WT WT d.tail.tail I I I I;rw[x,du];refine⟨_,?_,KU (b':={OC with k:=b.k,nm:=b.nm,a:=a,ini:=b.ini,en:=G,lv:=H,mv:=J}) ⟨I,I,I,D,y,z,B,KS⟩ C⟩
   grind
  let⟨B,C,n,r,w,x,D⟩:=atL j c;have:=S c;have z:l=[]:=R
  subst z;rw[c,E I]at d;have d:At ts s.i ((1,b.nm,0)::DS::(1,b.dft,0)::lC 59::A):=d;let⟨a,f⟩:=Gx hE h b.k d X m X;rw[E X,E I,f];dsimp only;rw[kx (s:=eF s 1 0 0 1) h d.tail Z,du,yV (s:=eF s (1+1) (0+0) (0+0)<|1+0) h d.tail.tail];dsimp only;rw[kx (s:=eF (eF s (1+1) ..) 1 0 0 0) h d.tail.tail.tail Z,du,du];refine⟨_,?_,KU (b':={OC with k:=b.k,nm:=b.nm,a:=a,dft:=b.dft}) ⟨I,I,n,I,by rw[r];exact Gw,by rw[w];exact Gw,by rw[x];exact Gw,KS⟩ Gw⟩;congr 1;rw[oy,pu,dY];have:DW b=0:=by unfold DW;grind
  grind
theorem atV{s}(h0:s.fc=0){v}(c:ri v)(m:v≠ -9223372036854775808){q}{A}(dM:At ts s.i (KR v++q::A)):
  ∃g,cY ts s [[45]]=g/\(if g=0 then(jb ts (if g=0 then s else eE s) 3).1.n else ar U (-(jb ts (if g=0 then s else eE s) 3).1.n))=v/\(jb ts (if g=0 then s else eE s) 3).2=eF s (WS<|KR v) 0 0 0:=by
 let⟨a,b⟩:=c;unfold KR at dM⊢;by_cases h:v<0
 .rw[E h]at dM⊢;let⟨f,d,e⟩:=yU (s:=eF s 1 0 0 0) (k:=3) h0 dM.tail I;refine⟨1,WQ,?_,?_⟩
  .rw[Q Z,Q Z,j6,d];rw[Int.neg_neg,eI a b]
  rw[Q Z,j6,e,du];rfl
 rw[Q h]at dM⊢;let⟨f,d,e⟩:=yU (s:=s) (k:=3) h0 dM I;exact⟨0,by rw[eK h0 dM];rfl,by rw[E I,E I,d],by rw[E I,e];rfl⟩
theorem atW{s}(t:s.fc=0)(n:1<=s.v)(o:s.v<=1000){v}(l:ri v.v)(m:v.v≠ -9223372036854775808){A}(d:At ts s.i ((YN v).tail++A)):
  ∃r,Cz ts s=(r,eF {s with v:=s.v-1} (YN v).tail.length 0 0 0)/\VrE aL v r:=by
 have u:Hy ts s={s with v:=s.v-1}:=by
  unfold Hy;rw[Q X,BJ n o]
 unfold Cz;dsimp only;rw[E d.head.1,u];generalize D:({s with v:=s.v-1})=s1;have a:s1.fc=0:=R
 have d:At ts s1.i ((1,v.n,0)::lC 61::((KR v.v++[lC 59])++A)):=by rw[<-D];exact d
 obtain⟨c,p,b⟩:=yU (s:=s1) (k:=1) a d I;rw[c,b,kx (s:=eF s1 1 0 0 0) a d.tail Z,du];have h:=by
  have:=d.tail.tail;rw[bp]at this;exact this
 obtain⟨g,f,i,j⟩:=atV hE (s:=eF s1 (1+1) ..) a l m h;rw[f,i,j,du,kx (s:=eF s1 ..) a (q:=lC 59) (A:=A) (by
  have e:(eF s1 (1+1) (0+0) (0+0)<|0+0).i+WS (KR v.v)=(eF s1 (1+1+WS (KR v.v)) (0+0+0) (0+0+0)<|0+0+0).i:=WT
  rw[<-e];exact h.right) Z,du]
 refine⟨⟨v.n,v.v,(jb ts s1 1).1.a⟩,?_,⟨I,I,KS⟩⟩;unfold YN
 grind
theorem ov:∀l f a {s:Sx},s.fc=0->WS l<f->WS l<=s.v->s.v<=1000->(∀v∈l,ri v.v/\v.v≠ -9223372036854775808)->∀{q:K3} {b:J K3},X5 q [Af]=0->At ts s.i (BI l++q::b)->
  ∃r,xM ts f a s=(a++r,eF {s with v:=s.v-(WS l)} (WS<|BI l) 0 0 0)/\nY (VrE aL) l r
 |[],f,a,s,h,e,i,j,v,q,b,c,d=>by
  obtain⟨f,rfl⟩:∃g,f=g+1:=A
  rw[xM,eK h d,E c];refine⟨[],?_,Gw⟩;unfold eF BI;simp
 |v::l,f,a,s,h,m,p,u,t,q,b,n,M=>by
  rw[aY]at m p;obtain⟨f,rfl⟩:∃g,f=g+1:=⟨f-1,X⟩
  have M:At ts s.i ((YN v++BI l)++q::b):=M;rw[bp]at M;have d:=M;obtain⟨r,e,c⟩:=atW hE (s:=eF s 1 0 0 0) h WT P9 R R d.tail;rw[xM,eK h d,Q Z,j6,e];have i:eF {eF s 1 0 0 0 with v:=(eF s 1 0 0 0).v-1} (YN v).tail.length 0 0 0=eF {s with v:=s.v-1} (WS<|YN v) 0 0 0:=by
   unfold eF YN
   grind
  rw[i];obtain⟨o,j,k⟩:=ov l f _ (s:=eF {s with v:=s.v-1} (WS<|YN v) 0 0 0) h X WT WT R n M.right;refine⟨r::o,?_,Ie c k⟩;rw[j,bp,aY];congr 1;unfold eF;simp only[BI,aU,Sx.mk.injEq,true_and];omega
theorem vC:∀l,WS l<=WS (BI l)
 |[]=>bc _
 |v::l=>by
  have:=vC l;rw[BI,aU,aY];unfold YN
  grind
theorem agD{c}(j:rH c=aE)(t:Jd c)(M:At ts 0 (Ss c++[(5,[],0)])):(xN ts).2.fc=0/\∀d,ChE aL d c (xN ts).1:=by
 unfold rH at j;simp only[aO]at j;obtain⟨⟨L,m⟩,g⟩:=j;replace g:=S g;obtain⟨f,⟨b,l⟩⟩:=c;have W:=t.v;have u:=t.r;rw[jZ]at m;simp only[aO]at m;obtain⟨⟨_,P⟩,p⟩:=m;dsimp only at L g W;obtain⟨Y,q2,q3,q4,q5⟩:=g;have hk:b.k=1:=Y;rw[iI]at q3;rw[DX]at q4;rw[Bd]at q5;have R:fh b.k=aL:=Mh
 obtain⟨_,K,V⟩:=IE P R;have D:∀v∈f,ri v.v/\v.v≠ -9223372036854775808:=A
 have M:At ts zL.i ((2,gx,0)::(1,b.nm,0)::lC 123::(BI f++((EO b++(oz l++[lC 125]))++[(5,[],0)]))):=by
  have e:(2,gx,0)::(1,b.nm,0)::lC 123::(BI f++((EO b++(oz l++[lC 125]))++[(5,[],0)]))=(2,gx,0)::(1,b.nm,0)::lC 123::(BI f++(EO b++(oz l++[lC 125])))++[(5,[],0)]:=N
  rw[e];exact M
 have z:zL.fc=0:=I;unfold xN;rw[kx (s:=zL) z M Z];obtain⟨a,w⟩:=Gx hE (s:=eF zL 1 0 0 0) z 1 M.tail Z Z Z;rw[w];dsimp only;rw[kx (s:=eF (eF zL 1 0 0 0) 1 0 0 1) z M.tail.tail Z,du,du];have o:At ts (eF zL (1+1+1) (0+0+0) (0+0+0)<|0+1+0).i _:=M.tail.tail.tail;obtain⟨q,B,T,h⟩:∃q B,(EO b++(oz l++[lC 125]))++[((5,[],0))]=q::B/\X5 q [Af]=0/\q.1≠5:=by
  obtain⟨q,B,a,d⟩:=Ou hE l (BM hE p) [_];have v:X5 q [Af]=0:=by
   cases l with
   |nil=>
    have:q=lC 125:=by injection a with b _;exact b.symm
    rw[this];decide
   |cons x l=>
    obtain⟨r,b⟩:=BL (ts:=ts) hE x;rw[oz,b]at a;have:q=(2,kW x.b.k,0):=by injection a with k _;exact k.symm
    obtain _:=BM (ts:=ts) hE p x N;have n:x.b.k=1∨x.b.k=2∨x.b.k=3∨x.b.k=4:=X
    rw[this];rcases n with e|e|e|e<;>rw[e]<;>decide
  have e:(EO b++(oz l++[lC 125]))++[((5,[],0))]=EO b++(oz l++lC 125::[(5,[],0)]):=N
  rw[e,a];unfold EO WE P1 X3;by_cases c:b.ini=[]
  .rw[E c];by_cases e:b.en=[]
   .rw[E e];by_cases k:b.lv=[]
    .rw[E k];cases n:b.mv with
     |nil=>exact⟨q,B,I,v,d.2.2⟩
     |cons r x=>
      have:∃b q,Uk r=(2,b,0)::q/\X5 (2,b,0) [Af]=0:=by
       unfold Uk Mu;split
       .exact⟨_,_,I,Z⟩
       split
       .exact⟨_,_,I,Z⟩
       exact⟨_,_,I,Z⟩
      obtain⟨b,q,s,u2⟩:=this;rw[BH,s];simp_all
    rw[Q k];exact⟨_,_,I,Z,Z⟩
   rw[Q e];exact⟨_,_,I,Z,Z⟩
  rw[Q c];exact⟨_,_,I,Z,Z⟩
 have i:=o;rw[T]at i;have fj:=vC (ts:=ts) hE f;have ff:=At.inr hE i h.2;obtain⟨bJ,y,e3⟩:=ov hE f (WS ts+1) [] (s:=eF zL ..) z X zg Z D h.1 i;rw[y];obtain⟨r0,r1,r2,r,C,F,G,H,J⟩:=nJ hE (ou hE 14) (deep:=0) (s:=eF {eF zL (1+1+1) (0+0+0) (0+0+0) (0+1+0)with v:=(eF zL (1+1+1) ..).v-(WS f)} (WS<|BI f) 0 0 0) (n:={OC with k:=1,nm:=b.nm,a:=a}) p u.2 V u.1 z I Z Z zg zg zg zg zg zg o.right I I I I;rw[C,du];refine⟨?_,λd=>⟨P9,KU (b':={OC with k:=1,nm:=b.nm,a:=a,ini:=b.ini,en:=r0,lv:=r1,mv:=r2}) ⟨hk,I,I,K,F,G,H,KS⟩ J d⟩⟩;unfold QC;rw[Q]
 .rfl
 rintro⟨_,b⟩;refine b ?_;have a:=o.right.right.head.1;rw[ez]at a;exact a
end
def dfs{c}(b:rH c=aE)(n:Jd c)(v:WS (Dy<|Hz c)<=16384):(fg<|Dy<|Hz c).2.1=0/\∀d,ChE aL d c (fg<|Dy<|Hz c).1:=by
 have e:=atO b n;unfold Lq at e;generalize Dy _=L at*
 have a:ma L (0+WS L)=.ok [⟨5,[],0,WS L⟩]:=by
  have hd:L.drop (WS L)=[]:=A
  have c:mj aL []=0:=I;rw[bS,lK X,hd,c,E X];rfl
 let⟨u,g,i⟩:=e L 0 [] _ X A trivial a;generalize h:u++[_]=s at*
 have f:cR L=(s,0,0):=by rw[cR,Q X,g]
 have k:=by
  have:=(Ah (l:=L)<|by rw[f]).1;rw[f]at this;exact this
 have m:s.map k3=Ss c++[(5,[],0)]:=by rw[<-h,cK,i];rfl
 have M:At s 0 (Ss c++[_]):=λo q j=>by
  rw[<-m,cP,gp]at j;obtain⟨t,c,rfl⟩:=j;have:tk s (0+o)=t:=by
   unfold tk;simp_all
  rw[this]
 let⟨p,r⟩:=agD k b n M;unfold fg;simp_all
def acV{c}(n:Jd c):jA c=jd c:=by
 unfold jA jd;by_cases h:rH c=aE
 .rw[E h,E h];by_cases a:16384<WS (eP [] (Hz c))
  .rw[E a,E a]
  rw[Q a,Q a];have e:=e8 (Hz c) [] X;rw[cJ]at e;rw[e,Q<|by rw[(dfs h n<|by rw[<-e];omega).1];decide]
 rw[Q h,Q h]
def tgP(v:Int):Mv:=⟨3,[],v,aL,Ad,[],[],7⟩
def aee(v:Int):Nb:=⟨1,[99],[],[],[],[],[tgP v],0⟩
def cW(v:Int):Ch:=⟨[],.mk (aee v) []⟩
structure Rr (F:h) (ts:List Tk) (w:av) (b:Nat) (l:Sl) (i:Nat) (fc fa d:Int):Prop where
 blk:aF w b 372 [l,(i:Int),d,fc,fa]
 tok:aA V2 4 w F l ts
 hF:∀k,F k->k<b
 en:vY ts
 lt:i<WS ts
section
variable{F:h}{ts:J Tk}{w w':av}{b:Nat}{l:Sl}{i:Nat}{fc fa d:Int}
def Rr.only(h:Rr F ts w b l i fc fa d)(O:ay [] w w'):Rr F ts w' b l i fc fa d:=
 ⟨O.blk h.blk N,ZH ju Z h.tok O N,h.hF,h.en,h.lt⟩
def Rr.lD(h:Rr F ts w b l i fc fa d)(c:ay [b] w w'){a:Nat}{fc' fa' d'}(B:aF w' b 372 [l,O U a,O U d',O U fc',O U fa'])(e:a<WS ts):Rr F ts w' b l a fc' fa' d':=
 ⟨B,ZH ju Z h.tok c λk hk _ hm=>Ui,h.hF,h.en,e⟩
def Rr.own(h:Rr F ts w b l i fc fa d){bs}(O:ay bs w w')(a:∀x∈bs,b<x):Rr F ts w' b l i fc fa d:=
 ⟨O.blk h.blk R,ZH ju Z h.tok O λk hk _ m=>MV,h.hF,h.en,h.lt⟩
def Rr.lb(h:Rr F ts w b l i fc fa d):b<w:=h.blk.lt
theorem Rr.big(h:Rr F ts w b l i fc fa d):WS ts<=9223372036854775807:=by
 have:=h.tok.len;have:=h.tok.cap;have:=h.tok.big;omega
theorem Rr.now(h:Rr F ts w b l i fc fa d):∃ad,ci l i 4 ad/\aB w ad [O U (tk ts i).k,(T (tk ts i).t),O U (tk ts i).n,O U (tk ts i).a]:=by
 have:=h.tok.len;have:=h.lt;let⟨ad,x,c,e,g,f,j,k,a⟩:=h.tok.get (bf i) X;rw[aV,FM h.lt]at g;injection g with g;subst g;subst a
 grind
theorem KW(h:Rr F ts w b l i fc fa d) c:az aq 343 #[b,O U c] w λe w'=>e=ai #[]/\ay [b] w w'/\
  Rr F ts w' b l i (if fc=0 then c else fc) (if fc=0 then(tk ts i).a else fa) d:=by
 refine ret<|atc ⟨fc,Hl h.blk 3 I,λhc a T=>?_,λhc=>?_⟩
 .have hc:=WH
  subst hc;let c:=h.only T;let⟨ad,g,d⟩:=c.now;exact⟨l,Hl c.blk 0 I,_,Hl c.blk 1 I,ad,g,_,d.dv 3 _ I,b,3,_,_,I,c.blk,N,λw F o=>⟨I,T.weaken (λ_ h=>VI) |>.trans F (λx e=>.inl e),c.lD F o h.lt⟩⟩
 have hc:=WH
 rw[Q hc,Q hc];exact⟨I,qE _ _,h⟩
theorem Gy(h:Rr F ts w b l i fc fa d):az aq 342 #[b] w λe w'=>e=ai #[]/\ay [b] w w'/\
  Rr F ts w' b l i (if fc=0 then(jw ts i).1 else fc) (if fc=0 then(jw ts i).2 else fa) d:=by
 refine ret<|atb<|let⟨ad,g,a⟩:=h.now;⟨l,Hl h.blk 0 I,_,Hl h.blk 1 I,ad,g,_,a.dv 0 _ I,λhc f T=>(KW (h.only T) 3).mono ?_,λhc j c=>(KW (h.only c) 4).mono ?_⟩
 .have hc:=WH
  rintro _ w ⟨rfl,b,d⟩;unfold jw;rw[E hc];exact⟨I,I,T.weaken (λ_ h=>VI) |>.trans b (λx e=>.inl e),d⟩
 let hc:=WH
 rintro _ w ⟨rfl,b,h⟩;unfold jw;rw[Q hc];exact⟨I,I,c.weaken R |>.trans b R,h⟩
def BN(f:Rr F ts w b l i fc fa d) s:az aq 338 #[b,(T s)] w λe w'=>e=aj (fc==0&&sg ts i s)/\ay [] w w':=by
 refine ret<|as7 λj a=>let h:=f.only a;let⟨ad,g,c⟩:=h.now;⟨λ_=>True,trivial,l,Hl h.blk 0 I,trivial,_,Hl h.blk 1 I,ad,g,trivial,_,_,_,_,c,λk m hk z U=>⟨fc,Hl (h.only U).blk 3 I,?_,a.bG U⟩⟩;rw[jC,zH];rfl
theorem EP(a:Rr F ts w b l i fc fa d) s:az aq 340 #[b,(T s)] w λe w'=>e=ai #[]/\ay [b] w w'/\
  (if fc==0&&sg ts i s then Rr F ts w' b l (i+1) fc fa d else Rr F ts w' b l i (if fc=0 then(jw ts i).1 else fc) (if fc=0 then(jw ts i).2 else fa) d):=by
 refine ret<|as9<|(BN a s).mono ?_;rintro _ f ⟨rfl,U⟩;let c:=a.only U;let j:ay [b] w f:=U.weaken R;refine⟨_,I,λh=>(Gy c).mono ?_,λh=>?_⟩
 .rintro _ w ⟨rfl,F,b⟩;have h:(fc==0&&sg ts i s)=aL:=R
  rw[h];exact⟨I,I,j.trans F R,b⟩
 have h:=by rwa[jo]at h
 rw[h];simp at h;let n:=a.en.next a.lt<|zi h.2;have:=a.big;refine⟨i,Hl c.blk 1 I,b,1,_,_,I,c.blk,N,λg d w=>⟨I,j.trans d R,c.lD d ?_ n⟩⟩;rw[eI X X]at w;exact w
theorem nCb{d:Nat}(hd:d<=20)(h:Rr F ts w b l i 0 0 d)(n:i+1<WS ts):az aq 339 #[b] w λe w'=>e=(aj (!JW (d=20)))/\ay [b] w w'/\
  (if d=20 then Rr F ts w' b l i 21 (tk ts i).a d else Rr F ts w' b l (i+1) 0 0 ((d+1:Nat))):=by
 refine ret (as8<|have:=h.big;⟨d,Hl h.blk 2 I,λc=>(KW h 21).mono ?_,λc=>?_⟩)
 .grind
 let c:d≠20:=R
 refine⟨d,Hl h.blk 2 I,b,2,_,_,I,h.blk,N,λw U v=>?_⟩;rw[eI X X]at v;let e:=h.lD U v h.lt;refine⟨i,Hl e.blk 1 I,b,1,_,_,I,e.blk,N,λf F o=>?_⟩;rw[eI X X]at o;refine⟨R,U.trans F R,?_⟩;rw[Q c];exact e.lD F o n
end
def sY:J (J<|L):=[[[124,124]],[[38,38]],[[61,61],[33,61]],[[60],[60,61],[62],[62,61]],[[43],[45]],[[42],[47],[37]]]
def fR:J (J Int):=[[13],[12],[10,11],[6,7,8,9],[1,2],[3,4,5]]
def Gz:Rp Int:=λ_ _ x c=>c=[O U x]
def oY:Gz.Ok where
 keep h _:=h
 inHeap h:=h
 mono h _:=h
 one:=by
  rintro w F x c rfl v h;simp at h;subst h;rfl
def KX{a:Type}(r:Rp a):Rp (J a):=λw F x c=>∃s,c=[s.v]/\aA r 1 w F s x
def yW{α}{r:Rp α}(b:r.Ok):(KX r).Ok where
 keep:=λ⟨s,h,a⟩ hk=>⟨s,h,WJ b a Z hk⟩
 inHeap:=λ⟨s,h,a⟩=>⟨s,h,PY b a Z⟩
 mono:=λ⟨s,h,a⟩ hk=>⟨s,h,YE b a hk⟩
 one:=by
  rintro w F x d ⟨s,rfl,_⟩ v c;simp at c;subst c;rfl
def CU w l {n} {parts} (h:parts=(((l.map λx=>Value.int U x).zipIdx 0).map λx=>(x.2,x.1)).toArray) (d:WS l=n) (c:0<n) (b:n*1<=16777216):
  ∃s a,(au 31 n parts).run aq w=.ok (Sl.v s) a/\Own Gz 1 3 w a (λ_=>True) s l/\ay [] w a:=by
 let E:pJ Gz 1 w (λ_=>True) l ((l.map λx=>Value.int U x).map λv=>v.cells.toList):=by
  clear h d
  induction l with
  |nil=>trivial
  |cons x l i=>exact⟨⟨I,I⟩,i⟩
 let⟨s,a,f,g,j,_⟩:=jP (P:=aq) (t:=31) (e:=3) (i:=Tryz.t3) (r:=Gz) (size:=1) D D I I Z h A c b oY E
 grind
def ow{α}{r:Rp α}(c:r.Ok){t e}{ti}(q:Tryz.prog.underlying t=aM (.slice e))(m:Tryz.prog.info? e=aM ti){z}(u:ti.zero=aM z)(o:ti.size=1){w}{F}{xs}(a:J Sl){n}{parts}(p:parts=(((a.map λs=>s.v).zipIdx 0).map λx=>(x.2,x.1)).toArray)(y:WS a=n)(f:0<n)(d:n*1<=16777216)
  (E:jk (λx s=>WS s=1/\KX r w F x s) xs (a.map λs=>[s.v])):
  ∃s b,(au t n parts).run aq w=.ok (Sl.v s) b/\aA (KX r) 1 b (λk=>F k∨w<=k) s xs/\ay [] w b:=by
 let h:pJ (KX r) 1 w F xs ((a.map λs=>s.v).map λv=>v.cells.toList):=by
  have:((a.map λs=>s.v).map λv=>v.cells.toList)=a.map λs=>[s.v]:=by
   rw[gV];rfl
  grind
 let⟨s,b,g,j,l,_⟩:=jP (P:=aq) (t:=t) (e:=e) (i:=ti) (r:=KX r) (size:=1) q m u o Z p A f d (yW c) h;exact⟨s,b,g,YE (yW c) (j.slice<|yW c) R,l⟩
def ox w:az aq 314 #[] w λe x=>∃s,e=s.v/\aA (KX oK) 1 x (λk=>w.heap.size<=k) s sY/\ay [] w x:=by
 refine jK<|asX ?_;let⟨g,y,G,Q,c0⟩:=lj w [[124,124]] (n:=1) (parts:=#[_]) I I Z Z;let⟨h,z,H,S,f⟩:=lj y [[38,38]] (n:=1) (parts:=#[_]) I I Z Z;let⟨i,A,K,T,d⟩:=lj z [[61,61],[33,61]] (n:=2) (parts:=#[_,_]) I I Z Z;obtain⟨j,B,L,U,b⟩:=lj A [[60],[60,61],[62],[62,61]] (n:=4) (parts:=#[_,_,_,_]) I I Z Z;let⟨m,C,M,b4,c⟩:=lj B [[43],[45]] (n:=2) (parts:=#[_,_]) I I Z Z;obtain⟨o,E,O,V,a⟩:=lj C [[42],[47],[37]] (n:=3) (parts:=#[_,(1,_),_]) I I Z Z;have:=c0.size;have:=f.size;have:=d.size;have:=b.size;have:=c.size;let mk:∀{u q:av} {s:Sl} {l:J _},w.heap.size<=u.heap.size->∀{v:av},Own oK 1 9 u.heap.size v (λ_=>True) s l->ay [] v q->[s].length=1/\KX oK q (λk=>w.heap.size<=k) l [s]:=λhu v hB hO=>⟨I,_,I,ZH dI Z (YE dI (wG hB) λk hk=>SR) hO N⟩
 let⟨p,w6,P,W,Y⟩:=ow (r:=oK) dI (t:=358) (e:=75) (ti:=Tryz.t75) D D I I (w:=E) (F:=λk=>w.heap.size<=k) (xs:=sY) [g,h,i,j,m,o] (n:=6) (parts:=#[_,_,_,_,_,_]) I I Z Z
  ⟨mk X Q<|((((f.bG d).bG b).bG c).bG a),mk X S<|(((d.bG b).bG c).bG a),mk X T<|(b.bG c).bG a,mk X U<|c.bG a,R,mk X V<|qE _ _,trivial⟩
 have:=a.size;exact⟨g,y,G,h,z,H,i,A,K,j,B,L,m,C,M,o,E,O,p,w6,P,p,I,YE (yW dI) W X,(((((c0.bG f).bG d).bG b).bG c).bG a).bG Y⟩
def Rb w:az aq 313 #[] w λe x=>∃s,e=s.v/\aA (KX Gz) 1 x (λk=>w.heap.size<=k) s fR/\ay [] w x:=by
 refine jK<|asW ?_;let⟨g,y,G,Q,c0⟩:=CU w [13] (n:=1) (parts:=#[_]) I I Z Z;let⟨h,z,H,S,f⟩:=CU y [12] (n:=1) (parts:=#[_]) I I Z Z;let⟨i,A,K,T,d⟩:=CU z [10,11] (n:=2) (parts:=#[_,_]) I I Z Z;obtain⟨j,B,L,U,b⟩:=CU A [6,7,8,9] (n:=4) (parts:=#[_,_,_,_]) I I Z Z;let⟨m,C,M,b4,c⟩:=CU B [1,2] (n:=2) (parts:=#[_,_]) I I Z Z;obtain⟨o,E,O,V,a⟩:=CU C [3,4,5] (n:=3) (parts:=#[_,_,_]) I I Z Z;have:=c0.size;have:=f.size;have:=d.size;have:=b.size;have:=c.size;let mk:∀{u q:av} {s:Sl} {l:J Int},w.heap.size<=u.heap.size->∀{v:av},Own Gz 1 3 u.heap.size v (λ_=>True) s l->ay [] v q->[s].length=1/\KX Gz q (λk=>w.heap.size<=k) l [s]:=λhu v hB hO=>⟨I,_,I,ZH oY Z (YE oY (MY oY (λ_ _ _ _ _ am=>am) hB) λk hk=>SR) hO N⟩
 let⟨p,w6,P,W,Y⟩:=ow (r:=Gz) oY (t:=49) (e:=31) (ti:=Tryz.t31) D D I I (w:=E) (F:=λk=>w.heap.size<=k) (xs:=fR) [g,h,i,j,m,o] (n:=6) (parts:=#[_,_,_,_,_,_]) I I Z Z
  ⟨mk X Q<|((((f.bG d).bG b).bG c).bG a),mk X S<|(((d.bG b).bG c).bG a),mk X T<|(b.bG c).bG a,mk X U<|c.bG a,R,mk X V<|qE _ _,trivial⟩
 have:=a.size;exact⟨g,y,G,h,z,H,i,A,K,j,B,L,m,C,M,o,E,O,p,w6,P,p,I,YE (yW oY) W X,(((((c0.bG f).bG d).bG b).bG c).bG a).bG Y⟩
def qf(t:J Tk)(i:Nat):J (L)->J Int->Int
 |s::b,n::a=>if sg t i s=aE then n else qf t i b a
 |_,_=>0
def abu(t:J Tk)(i k:Nat)(hk:k<6):qf t i ((sY[k]?).getD []) ((fR[k]?).getD [])=mc t (k:Int) i:=by
 match k,hk with
 |0,_=>simp[mc,kP,gX,qf,sY,fR,fe,zj]
 |1,_=>simp[mc,kP,gX,qf,sY,fR,fe,zj]
 |2,_=>simp[mc,kP,gX,qf,sY,fR,fe,zj]
 |3,_=>simp[mc,kP,gX,qf,sY,fR,fe,zj]
 |4,_=>simp[mc,kP,gX,qf,sY,fR,fe,zj]
 |5,_=>simp[mc,kP,gX,qf,sY,fR,fe,zj]
def adK{ts}{i}{b:J _}{a:J Int}{n}{s}{m}(h:b[n]? =aM s)(c:a[n]? =aM m):qf ts i (b.drop n) (a.drop n)=if sg ts i s=aE then m else qf ts i (b.drop<|n+1) (a.drop<|n+1):=by
 rw[eV (aZ.1 h).1,(aZ.1 h).2,eV (aZ.1 c).1,(aZ.1 c).2,qf]
def abv(k:Nat):WS ((sY[k]?).getD [])=WS ((fR[k]?).getD []):=by
 rcases tG k 6 with h|h
 .match k,h with
  |0,_=>rfl
  |1,_=>rfl
  |2,_=>rfl
  |3,_=>rfl
  |4,_=>rfl
  |5,_=>rfl
 rw[cu (h),cu<|h];rfl
section
variable{F:h}{ts:J Tk}{w w':av}{b:Nat}{l:Sl}{i:Nat}{fc fa d:Int}
def oU(A:Rr F ts w b l i fc fa d){k:Nat}(hk:k<6):az aq 337 #[b,O U k] w λe w'=>e=O U (if fc=0 then mc ts k i else 0)/\ay [] w w':=by
 refine ret<|as6<|(ox w).mono ?_;rintro _ P ⟨D,rfl,R,T⟩;have:=R.len;have:WS sY=6:=I;obtain⟨p0,x,s,y,j,g3,g4,z,K,rfl,a⟩:=R.get (bf k) X;rw[aV]at j;refine⟨D,I,p0,y,K,z,(Rb P).mono ?_⟩;rintro _ V ⟨G,rfl,m,f⟩;have:=m.len;have:WS fR=6:=I;obtain⟨H,p,r,t,g,W,e4,u,L,rfl,M⟩:=m.get (bf k) X;rw[aV]at g;have h:=abu ts i k hk;have Y:=abv k;rw[j,g,jm,jm]at h Y;have:=a.len;have:=M.len;have:=a.cap;have:=a.big;refine⟨G,I,H,t,L,u,λv C w'=>∃n,n<=WS x/\C=n/\v=(WS x)-n/\(fc=0->qf ts i x p=qf ts i (x.drop n) (p.drop n))/\ay [] V w',WS x,⟨0,X,I,I,λ_=>I,qE _ _⟩,?_⟩;rintro v _ w2 ⟨n,hn,rfl,rfl,B,c⟩;let o:=(T.bG f).bG c;refine⟨λJ=>?_,λq=>?_⟩
 .have J:=S J;obtain⟨O,d,k,q1,e,q3,q4,q5,q6⟩:=(ZH dI Z a (f.bG c) N).get X J;subst q6;rw[aV]at e;refine⟨O,q1,_,q5,(BN (A.only o) d).mono ?_⟩;rintro _ w3 ⟨rfl,b⟩;obtain⟨U,F,l,r1,r2,r3,r4,r5,r6⟩:=(ZH oY Z M (c.bG b) N).get (i:=n) X X;subst r6;have:=adK (ts:=ts) (i:=i) e r2;refine⟨_,I,λw=>⟨U,r1,F,r5,?_,o.bG b⟩,λw=>⟨(WS x)-_,X,n+1,X,N0,I,λh0=>?_,c.bG b⟩⟩
  .simp_all
  simp_all
 let q:=aQ q;refine⟨?_,o⟩;by_cases b:fc=0
 .rw[E b,<-h,B b,fF X];rfl
 rw[Q b]
end
def wm(F:h)(t:J Tk)(a w:av)(b:Nat)(l:Sl)(d:Nat)(r:Pr)(v:aw):Prop:=ay [b] a w/\match r with
 |.ok (x,j)=>∃c,v=ah c.toArray/\RX w a w x c/\Rr F t w b l j 0 0 d
 |.error e=>e.1≠0/\xX v/\∃j,Rr F t w b l j e.1 e.2 d
section
variable{F:h}{ts:J Tk}{w w':av}{b:Nat}{l:Sl}{i:Nat}{fc fa:Int}
theorem wm.tt{d}{r}{v}(h:wm F ts w w' b l d r v):xX v:=by
 let⟨_,h⟩:=h;cases r with
 |error e=>exact h.2.1
 |ok q=>
  obtain⟨c,rfl,x,_⟩:=h;obtain⟨sl,rfl,_⟩:=x.cells;exact⟨_,_,_,_,_,_,I⟩
theorem wm.GY{w0 w1 w2 w3}{d}{r}{v}(a:wm F ts w1 w2 b l d r v)(T:ay [b] w0 w1){bs}(c:ay bs w2 w3)(f:∀x∈bs,b<x/\w0<=x/\x<w1):wm F ts w0 w3 b l d r v:=by
 let⟨g,a⟩:=a;refine⟨(T.trans g λx h=>.inl h).trans c λx h=>.inr (f x h).2.1,?_⟩;cases r with
 |error e=>
  let⟨b,d,j,i⟩:=a;exact⟨b,d,j,i.own c R⟩
 |ok q=>
  let⟨s,b,d,e⟩:=a;exact⟨s,b,(d.only c λx h=>.inl (f x h).2.2).wide T.size c.size,e.own c λx h=>(f x h).1⟩
def Sq:xX (ah #[O U 0,O U 0,(ao #[]),O U 0,Sl.nil.v,O U 0]):=⟨0,0,[],0,Sl.nil,0,I⟩
theorem atX{d:Nat}(f:Rr F ts w b l i 0 0 d)(x:i+1<WS ts):az aq 341 #[b] w λe w'=>∃v,e=ak v/\wm F ts w w' b l d (Hb ts i) v:=by
 refine ata ⟨b,0,VM⟩ w λp S H K T=>have:=f.lb;have:=f.big;have:=T.size;let g:=f.only T;let⟨ad,q,r⟩:=g.now;⟨λ_=>True,trivial,l,Hl g.blk 0 I,trivial,_,Hl g.blk 1 I,ad,q,trivial,_,r.dv 3 _ I,λz D Z P U=>?_⟩;have:=U.size;let h:=g.only U;let y:=T.bG U;let sm:∀{u c:av},D.heap.size<=u.heap.size->ay [b] u c->bX [p,z] u c:=λM O=>O.same R;refine⟨(i:Int),Hl h.blk 1 I,b,1,_,_,I,h.blk,N,X,X,λG k C=>?_⟩;rw[eI X X]at C;let n:=h.lD k C x;have:=k.size;let B:ay [b] w G:=(y.weaken R).trans k R;refine(EP n [40]).mono λ_ V ⟨rfl,m,a⟩=>have:=m.size;let t:=B.trans m R;⟨I,sm X m,?_⟩;rw[show((0:Int)==0)=aE from rfl,cd,E I,E I]at a;let j:∀{u c:av},ay [b] w u->ay [p] u c->ay [b] w c:=λh n=>h.new n H;by_cases s:sg ts (i+1) [40]=aE
 .rw[E s]at a;refine⟨0,Hl a.blk 3 I,R,λ_=>let⟨Hk,u1,u2⟩:=a.now;⟨l,Hl a.blk 0 I,_,Hl a.blk 1 I,Hk,u1,_,u2.dv 0 _ I,λhc w5 e=>(Gy<|a.only e).mono ?_,λhc w8 v=>?_⟩⟩
  .have hc:=WH
   rintro _ w ⟨rfl,d,b⟩;have:=e.size;refine⟨I,sm X d,λF l=>⟨j ((t.bG e).trans d R) l,?_⟩⟩;rw[Hb,E s,Q hc];exact⟨gR,⟨_,_,[],_,_,_,I⟩,i+2,b.own l o⟩
  let hc:=WH
  have:=v.size;let h8:=a.only v;let⟨aS,v1,v2⟩:=h8.now;refine⟨l,Hl h8.blk 0 I,_,Hl h8.blk 1 I,aS,v1,_,v2.dv 1 _ I,λw9 fx=>have:=fx.size;let h9:=h8.own fx o;let aC:ay [b] w w9:=(t.bG v).new fx X;let aT:=f.en.next a.lt A;⟨_,Hl h9.blk 1 I,b,1,_,_,I,h9.blk,N,X,X,λdh dy pz=>?_⟩⟩;rw[eI X X]at pz;let tE:Rr F ts dh b l _ 0 0 d:=h9.lD dy pz aT;have:=dy.size;refine(EP tE [41]).mono λ_ dE ⟨rfl,dJ,am⟩=>⟨I,R,λey eG=>⟨j ((aC.trans dy R).trans dJ R) eG,?_⟩⟩;rw[show((0:Int)==0)=aE from rfl,cd,E I,E I]at am;rw[Hb,E s,E hc];by_cases L5:sg ts (i+3) [41]=aE
  .rw[E L5];rw[E (L5)]at am;exact⟨_,I,.leaf ..,am.own eG o⟩
  rw[Q L5];rw[Q (show ¬sg ts _ [41]=aE from L5)]at am;exact⟨gR,⟨_,_,_,_,_,_,I⟩,i+1+1+1,am.own eG o⟩
 rw[Q s]at a;refine⟨_,Hl a.blk 3 I,λhc w d=>⟨j t d,?_⟩,λhc=>absurd WH<|gR (ts:=ts) (i:=i+1)⟩;rw[Hb,Q s];exact⟨gR,⟨_,_,[],_,_,_,I⟩,i+1,a.own d o⟩
theorem al0{f d:Nat}(hd:d<=20)(h:Rr F ts w b l i 0 0 (d:Int))
  (hE:d≠20->∀w i,Rr F ts w b l i 0 0 ((d+1:Nat):Int)->az aq 332 #[b,O U 0] w λe w'=>∃v,e=ak v/\wm F ts w w' b l (d+1) (dF ts f 0 (d+1) i) v)
  (K:d≠20->∀w i,Rr F ts w b l i 0 0 ((d+1:Nat):Int)->az aq 336 #[b] w λe w'=>∃v,e=ak v/\wm F ts w w' b l (d+1) (dF ts f 6 (d+1) i) v):
  az aq 336 #[b] w λe w'=>∃v,e=ak v/\wm F ts w w' b l d (dF ts (f+1) 6 d i) v:=by
 have Z:dF ts (f+1) 6 d i=rG ts (dF ts f 0<|d+1) (dF ts f 6<|d+1) d i:=by rw[dF,E I]
 rw[Z];generalize am:dF ts f 0 (d+1)=S at*
 generalize aC:dF ts f 6 (d+1)=Gm at*
 generalize g:rG ts S Gm d i=p;rw[rG]at g;refine as5 (λv w'=>wm F ts w w' b l d p v) w ?_;intro k w0 fH dC L;have hb:=h.lb;have bJ:=h.big;have G:=L.size;have z:=h.only L;let⟨ad,g1,g2⟩:=z.now;refine⟨λ_=>True,trivial,l,Hl z.blk 0 I,trivial,_,Hl z.blk 1 I,ad,g1,trivial,_,_,_,_,g2,λr W kZ jl M=>have H:=M.size;have C:=z.only M;have sm:∀{u n:av},W.heap.size<=u.heap.size->ay [b] u n->bX [k,r] u n:=λhu P=>P.same R;have s:∀{u n:av},W.heap.size<=u.heap.size->ay [] u n->bX [k,r] u n:=λhu P=>P.same R;(BN C [45]).mono ?_⟩;rintro _ w2 ⟨rfl,t⟩;have z2:=t.size;have D:=C.only t;refine⟨_,I,s X t,(BN D [33]).mono ?_⟩;rintro _ w3 ⟨rfl,y⟩;have z3:=y.size;have V:=D.only y;refine⟨_,I,s X y,(BN V [40]).mono ?_⟩;rintro _ Y ⟨rfl,B⟩;have z4:=B.size;have j:=V.only B;have ym:ay [] w Y:=(((L.bG M).bG t).bG y).bG B;have J:ay [b] w Y:=ym.weaken λ_ h=>VI
 have m:∀{u n:av},ay [b] w u->ay [k] u n->ay [b] w n:=λC D=>C.new D fH;rw[show((0:Int)==0)=aE from rfl,cd,cd,cd];refine⟨_,I,s X B,0,Hl j.blk 3 I,λhc=>(by simp at hc),λ_=>⟨λhs=>?_,λhs=>⟨λhp=>?_,λhp=>⟨λhi=>?_,λhi=>⟨λhv=>?_,λhv=>?_⟩⟩⟩⟩⟩
 .rw[E hs]at g;have io:(tk ts i).k≠5:=by
   rcases cj _ _▸hs with e|e<;>exact zi e
  have hn:=h.en.next h.lt io;refine(nCb hd j hn).mono ?_;rintro _ w6 ⟨rfl,dr,f⟩;have z6:=dr.size;have aS:=J.trans dr λx hx=>.inl hx;refine⟨_,I,sm X dr,λhc w7 fu=>⟨m aS fu,?_⟩,λhc=>?_⟩
  .have hc:d=20:=WH
   rw[E hc]at f;rw[<-g,kQ,E hc];exact⟨(by decide:(21:Int)≠0),Sq,i,f.own fu o⟩
  have hc:d≠20:=WH
  rw[Q hc]at f;rw[kQ,Q hc]at g;refine(K hc w6 (i+1) f).mono ?_;rintro _ w8 ⟨v,rfl,hD⟩;obtain⟨vk,vn,vs,vo,vl,va,rfl⟩:=hD.tt;have z8:=hD.1.size;refine⟨_,_,_,_,_,_,I,sm X hD.1,λk2 w9 yq uu fx=>?_⟩;have z9:=fx.size;have bV:=aS.trans hD.1 λx hx=>.inl hx;have bY:∀{aT:Nat} {c a:Int},Rr F ts w8 b l aT c a ((d+1:Nat):Int)->∃i9:Int,aB w9 (Addr.add ⟨b,0,VM⟩ 2) [i9]/\∃k3 k4:Nat,∃G:aI,∃k5:Nat,(Addr.add ⟨b,0,VM⟩ 2)=⟨k3,k4,VM⟩/\aF w9 k3 k5 G/\(k4+1)<=WS G/\k≠k3/\r≠k3/\k2≠k3/\
    ∀dh:av,ay [k3] w9 dh->aF dh k3 k5 (fX G k4 [(ar U<|i9-1)])->ay [b] w8 dh/\Rr F ts dh b l aT c a (d:Int):=fun{aT c a} h8=>by
   have e:=h8.only fx;refine⟨((d+1:Nat):Int),Hl e.blk 2 I,b,2,_,_,I,e.blk,N,X,X,X,λdh dy i=>?_⟩;have q:((d+1:Nat):Int)-1=d:=X
   rw[q,eI X X]at i;exact⟨(fx.weaken (bs':=[b]) λ_ h=>VI).trans dy λx hx=>.inl hx,e.lD dy i e.lt⟩
  have bv:∀{aT:Nat} {c a:Int} {dh:av},ay [b] w8 dh->Rr F ts dh b l aT c a (d:Int)->w9.heap.size<=dh.heap.size->(∀op sl ey,ay [] dh ey->aF ey dh 74 (qS vk vn vs vo vl va)->op=(if(tk ts i).t=[33]then(15:Int)else 14)->sl=(⟨aM ⟨dh,0,VM⟩,1,1⟩:Sl)->∀ff,ay [k] ey ff->wm F ts w ff b l d p (ah #[O U 4,O U 0,(ao #[]),op,sl,O U (tk ts i).a]))->
    ∃v:Int->av->Prop,(∀q:Int,∀h:av,v q h->∃x:Sl,∃ey:av,((au 72 1 #[.mk 0 (ah #[vk,vn,(T vs),vo,vl,va])]).run aq h)=(.ok x ey)/\
     bX [k,r,k2] h ey/\∀ff:av,ay [k] ey ff->wm F ts w ff b l d p (ah #[O U 4,O U 0,(ao #[]),q,x,O U (tk ts i).a]))/\
    (sg ts i [33]=aE->v 15 dh)/\(sg ts i [33]=aL->v 14 dh):=fun{aT c a dh} dy tE Ja akc=>by
   refine⟨λop h=>op=(if(tk ts i).t=[33]then(15:Int)else 14)/\h=dh,?_,λe=>⟨?_,I⟩,λe=>⟨?_,I⟩⟩
   .rintro op h ⟨c,rfl⟩;let⟨ey,a,b,e⟩:=Kb h [qS vk vn vs vo vl va] N N N (parts:=#[(0,ah (qS vk vn vs vo vl va).toArray)]) I;rw[fE,List.flatten_nil,bq]at b;exact⟨_,ey,a,e.same o,R⟩
   .have:(tk ts i).t=[33]:=by
     simp only[sg,aO,bB]at e;exact e.2
    rw[E this]
   have:(tk ts i).t≠[33]:=λa=>by
    rcases cj _ _▸hs with b|b
    .simp only[sg,aO,bB]at b;simp_all
    rw[e]at b;cases b
   rw[Q this]
  cases hN:Gm (i+1)with
  |error e=>
   rw[hN]at hD g;let⟨fD,h,a2,aT,i⟩:=hD;let⟨i9,q,k3,k4,nj,k5,v,q3,w,F,T,q7,q8⟩:=bY i;refine⟨i9,q,k3,k4,nj,k5,v,q3,w,F,T,q7,λdh dy l=>let⟨b,c⟩:=q8 dh dy l;bv b c dy.size λop sl ey a qj ux qA ff d=>⟨m ((bV.trans b λx hx=>.inl hx).bG a) d,?_⟩⟩
   rw[<-g];exact⟨h,⟨_,_,[],_,_,_,I⟩,aT,(c.only a).own d o⟩
  |ok q=>
   let⟨x,aT⟩:=q;rw[hN]at hD g;let⟨fD,c,l,v,F⟩:=hD;have T:(qS vk vn vs vo vl va)=c:=bn Array.toList<|Value.agg.inj l;let⟨i9,q1,k3,k4,nj,k5,q2,q3,q4,q5,q6,q7,q8⟩:=bY F;refine⟨i9,q1,k3,k4,nj,k5,q2,q3,q4,q5,q6,q7,λdh dy pz=>let⟨b,h⟩:=q8 dh dy pz;have Ja:=dy.size;bv b h Ja λop sl ey e i ux qA ff d=>⟨m ((bV.trans b λx hx=>.inl hx).bG e) d,?_⟩⟩
   have cc:=e.size;have Yl:=d.size;rw[<-g,ux,qA];refine⟨_,I,?_,(h.only e).own d o⟩;have a:RX ff w6 w8 x c:=((v.only b R).only e N).only d R;have yr:aF ff dh 74 c:=by
    rw[<-T];exact d.blk i R
   exact .one w w8 dh _ _ _ _ _ _ x c (a.wide X<|bc _) X X xC id yr
 .rw[Q eL,E hp]at g;have hn:=h.en.next h.lt<|zi hp;refine(nCb hd j hn).mono ?_;rintro _ fS ⟨rfl,dQ,f⟩;have Ym:=dQ.size;have ce:=J.trans dQ λx hx=>.inl hx;refine⟨_,I,sm X dQ,λhc gz ik=>⟨m ce ik,?_⟩,λhc=>?_⟩
  .have hc:d=20:=WH
   rw[E hc]at f;rw[<-g,kQ,E hc];exact⟨(by decide:(21:Int)≠0),Sq,i,f.own ik o⟩
  have hc:d≠20:=WH
  rw[Q hc]at f;rw[kQ,Q hc]at g;refine(hE hc fS (i+1) f).mono ?_;rintro _ iA ⟨v,rfl,hD⟩;obtain⟨vk,vn,vs,vo,vl,va,rfl⟩:=hD.tt;have el:=hD.1.size;have cC:=ce.trans hD.1 λx hx=>.inl hx;refine⟨_,_,_,_,_,_,I,sm X hD.1,λk6 fV dO me iK=>?_⟩;have eQ:=iK.size;have after:∀{co:Nat} {c a:Int} {iW:av},ay [b] fV iW->Rr F ts iW b l co c a ((d+1:Nat):Int)->(∀h,ay [b,k] iW h->ay [b] w h->Rr F ts h b l co c a (d:Int)->wm F ts w h b l d p (ah (qS vk vn vs vo vl va).toArray))->
    ∃q:Int,aB iW (Addr.add ⟨b,0,VM⟩ 2) [q]/\∃e k8:Nat,∃H:aI,∃k9:Nat,(Addr.add ⟨b,0,VM⟩ 2)=⟨e,k8,VM⟩/\aF iW e k9 H/\(k8+1)<=WS H/\k≠e/\r≠e/\k6≠e/\
    ∀v:av,ay [e] iW v->aF v e k9 (fX H k8 [(ar U<|q-1)])->∀h:av,ay [k] v h->wm F ts w h b l d p (ah #[vk,vn,(T vs),vo,vl,va]):=fun{co c a iW} jO h18 akc=>by
   refine⟨((d+1:Nat):Int),Hl h18.blk 2 I,b,2,_,_,I,h18.blk,N,X,X,X,λv lH i h iL=>?_⟩;have ed:((d+1:Nat):Int)-1=d:=X
   rw[ed,eI X X]at i;have fd:Rr F ts v b l co c a (d:Int):=h18.lD lH i h18.lt;exact akc h ((lH.weaken (bs':=[b,k]) A).trans iL A) (m (((cC.bG iK).trans jO λx hx=>.inl hx).trans lH λx hx=>.inl hx) iL)<|fd.own iL o
  let⟨iE,hD⟩:=hD;cases hN:S (i+1)with
  |error e=>
   rw[hN]at hD g;let⟨a,i,co,d⟩:=hD;refine(EP (d.only iK) [41]).mono ?_;rintro _ iW ⟨rfl,jO,b⟩;rw[Q (by simp[a]),Q a,Q a]at b;refine⟨I,jO.same o,after jO b λh l w c=>⟨w,?_⟩⟩;rw[<-g];exact⟨a,⟨_,_,_,_,_,_,I⟩,co,c⟩
  |ok q=>
   let⟨x,co⟩:=q;rw[hN]at hD g;let⟨i,c,d,e⟩:=hD;refine(EP (e.only iK) [41]).mono ?_;rintro _ iW ⟨rfl,jO,b⟩;rw[show((0:Int)==0)=aE from rfl,cd,E I,E I]at b;refine⟨I,jO.same o,?_⟩;have l:=jO.size;by_cases a:sg ts co [41]=aE
   .rw[E a]at b;refine after jO b λh q w v=>⟨w,?_⟩
    rw[<-g];simp only[xI,a,R6];have x:=q.size;exact⟨i,c,(((d.only iK N).only jO R).only q R).wide X X,v⟩
   rw[Q a]at b;refine after jO b λh v w q=>⟨w,?_⟩
   rw[<-g];simp only[xI,a,oe];exact⟨gR,⟨_,_,_,_,_,_,I⟩,co,q⟩
 .have hi:(tk ts i).k=3:=JX
  rw[Q eL,Q Tn,E hi]at g;have f:=h.en.next h.lt (by rw[hi];decide);refine⟨(i:Int),Hl j.blk 1 I,b,1,_,_,I,j.blk,N,X,X,λw e a T q=>⟨m (J.trans e λx v=>.inl v) q,?_⟩⟩;rw[eI X X]at a;have c:Rr F ts w b l (i+1) 0 0 (d:Int):=j.lD e a f;rw[<-g];exact⟨_,I,.leaf ..,c.own q o⟩
 .have hi:¬(tk ts i).k=3:=JX
  have hv:(tk ts i).k=1:=UU
  rw[Q eL,Q Tn,Q hi,E hv]at g;have f:=h.en.next h.lt (by rw[hv];decide);refine⟨(i:Int),Hl j.blk 1 I,b,1,_,_,I,j.blk,N,X,X,λw e a T q=>⟨m (J.trans e λx v=>.inl v) q,?_⟩⟩;rw[eI X X]at a;have c:Rr F ts w b l (i+1) 0 0 (d:Int):=j.lD e a f;rw[<-g];exact⟨_,I,.leaf ..,c.own q o⟩
 have hi:¬(tk ts i).k=3:=JX
 have hv:¬(tk ts i).k=1:=UU
 rw[show Kao=T [105,110]from rfl,jC];rw[Q eL,Q Tn,Q hi,Q hv]at g;refine⟨λw=>?_,λw=>(Gy j).mono ?_⟩
 .have w:(tk ts i).k=2/\(tk ts i).t=[105,110]:=by simpa using w
  rw[E w]at g;have b:=h.en.next h.lt (by rw[w.1];decide);refine(atX j b).mono ?_;rintro _ c ⟨v,rfl,a⟩;obtain⟨e,x,T,F,f,d,rfl⟩:=a.tt;refine⟨_,_,_,_,_,_,I,sm X a.1,λq l=>?_⟩;rw[<-g];exact a.GY J l o
 rw[Q (λh=>by rw[h.1,h.2]at w;simp at w)]at g;rintro _ v ⟨rfl,b,a⟩;rw[E I,E I]at a;refine⟨I,sm X b,λe c=>⟨m (J.trans b λx d=>.inl d) c,?_⟩⟩;rw[<-g];exact⟨gR,Sq,i,a.own c o⟩
def OM(F:h)(t:J Tk)(e:av)(b:Nat)(l:Sl)(d:Nat)(N:h)(E:Nat->Pr)(k:Int)(R:Pr)(n:Nat)(op:Int)(s:aI)(w:av):Prop:=ay [b] e w/\
 ((∃(c a:Int) (j:Nat),op=0/\c≠0/\R=.error (c,a)/\Rr F t w b l j c a d)∨
  (∃(x:Ex) (j:Nat),op=mc t k j/\RXN w N e.heap.size w.heap.size x s/\Rr F t w b l j 0 0 d/\R=jW t E k n x j/\(WS t)-j<=n))
theorem aeP{f k d:Nat}(H:k<6)(h:Rr F ts w b l i 0 0 (d:Int))
  (hE:∀w i,Rr F ts w b l i 0 0 (d:Int)->az aq 332 #[ae (aM ⟨b,0,VM⟩),O U<|(k+1:Nat)] w λe w'=>∃v,e=ak v/\wm F ts w w' b l d (dF ts f (k+1) d i) v):
  az aq 332 #[ae (aM ⟨b,0,VM⟩),O U (k:Int)] w λe w'=>∃v,e=ak v/\wm F ts w w' b l d (dF ts (f+1) k d i) v:=by
 have gz:dF ts (f+1) k d i=Hw (dF ts f (k+1) d i) λx j=>jW ts (dF ts f (k+1) d) k ((WS ts)-j) x j:=by rw[dF,Q X]
 rw[gz];have P:∀i x j,dF ts f (k+1) d i=.ok (x,j)->i<j:=λi x j h=>mr f _ _ i h;generalize am:dF ts f _ d=z at*
 generalize L:(Hw _ λx j=>jW ts z k _ x j)=M;refine LY w ?_;have qj:ar U (k+1)=((k+1:Nat)):=N0
 refine⟨R,λ_ J w3 kZ jl S=>?_⟩;have hb:=h.lb;rw[qj];refine(hE w3 i<|h.only S).mono ?_;rintro _ w4 ⟨v,rfl,K⟩;obtain⟨vk,vn,vs,vo,vl,va,rfl⟩:=K.tt;have z4:=K.1.size;refine⟨_,_,_,_,_,_,I,K.1.same o,λu w5 yq uu dV=>?_⟩;have sm:∀{Z u':av},w5.heap.size<=Z.heap.size->ay [b] Z u'->bX [J,u] Z u':=λhu hO=>hO.same R;have bJ:=h.big;have W:∃(j:Nat) (c a:Int),Rr F ts w4 b l j c a (d:Int)/\∀D,ay [] w4 D->∃t,OM F ts w b l d (λq=>q=J∨q=u) z (k:Int) M t (if c=0 then mc ts (k:Int) j else 0) (qS vk vn vs vo vl va) D:=by
  let⟨g,d⟩:=K;have y:=(S.weaken (bs':=[b]) λ_ h=>VI).trans g λx k=>.inl k;cases f:z i with
  |error e=>
   rw[f]at d L;let⟨c,a⟩:=e;let⟨b,i,j,h⟩:=d;exact⟨j,c,a,h,λD s=>⟨0,y.bG s,.inl ⟨c,a,j,Q b,b,L.symm,h.only s⟩⟩⟩
  |ok q=>
   let⟨x,j⟩:=q;rw[f]at d L;let⟨c,h,b,a⟩:=d;have e:(qS vk vn vs vo vl va)=c:=A
   rw[e];exact⟨j,0,0,a,λD s=>⟨(WS ts)-j,y.bG s,.inr ⟨x,j,E I,((b.only s N).I2 λq i l _=>X).wide S.size s.size,a.only s,L.symm,bc _⟩⟩⟩
 let⟨me,c0,a0,V,W⟩:=W;refine(oU (V.only dV) H).mono ?_;rintro _ D ⟨rfl,s⟩;let⟨Y,T⟩:=W D<|dV.bG s;refine⟨_,I,s.same o,λt op n p C r B m w'=>w5.heap.size<=w'.heap.size/\OM F ts w b l d _ z (k:Int) M t op [O U n,O U p,ab C,O U r,B.v,O U m] w',Y,⟨s.size,T⟩,?_⟩;rintro t op n p C r B m w7 ⟨z7,fu,hA⟩;refine⟨λux=>?_,λux fS G=>?_⟩
 .have ux:=UG
  rcases hA with⟨_,_,_,e,_⟩|⟨x,j,rfl,i,h,f,aC⟩
  .omega
  have hn:=h.en.next h.lt<|rP _ _ ux;obtain⟨g,rfl⟩:∃g,t=g+1:=⟨t-1,X⟩
  rw[jW,Q ux]at f;refine⟨j,Hl h.blk 1 I,b,1,_,_,I,h.blk,N,X,X,λw8 fD xp=>?_⟩;rw[eI X X]at xp;have z8:=fD.size;refine(hE w8 _<|h.lD fD xp hn).mono ?_;rintro _ w9 ⟨v,rfl,aS⟩;obtain⟨vw,dC,ys,fH,yl,nj,rfl⟩:=aS.tt;have z9:=aS.1.size;refine⟨_,_,_,_,_,_,I,sm X aS.1,λk8 dh ce cc dy=>let⟨dE,rq,HL,dJ⟩:=Kb dh [[O U n,O U p,ab C,O U r,B.v,O U m],qS vw dC ys fH yl nj] N N N (parts:=#[_,_]) I;have Hi:=dJ.size;⟨_,dE,rq,dJ.same o,λey eG=>?_⟩⟩;have co:=eG.size;have Pa:=((((fu.trans fD R).trans aS.1 R).bG dy).bG dJ).new eG X;have yt:ay [u] w9 ey:=((dy.bG dJ).weaken (bs':=[u]) R).trans eG R;have RO:∃(j':Nat) (c a:Int),Rr F ts w9 b l j' c a d/\∀ff,ay [] ey ff->∃t,t<g+1/\OM F ts w b l d (λq=>q=J∨q=u) z k M t (if c=0 then mc ts k j' else 0) (qS 5 0 [] (mc ts k j) ⟨aM ⟨dh.heap.size,0,VM⟩,2,2⟩ m) ff:=by
   let⟨l,d⟩:=aS;cases k:z _ with
   |error e=>
    rw[k]at d f;let⟨c,a⟩:=e;let⟨b,q,j',g⟩:=d;exact⟨j',c,a,g,λff dL=>⟨0,X,Pa.bG dL,.inl ⟨c,a,j',Q b,b,f,(g.own yt o).only dL⟩⟩⟩
   |ok q=>
    let⟨y,j'⟩:=q;rw[k]at d f;let⟨c,F,a2,v⟩:=d;have jc:_=c:=bn Array.toList<|Value.agg.inj F;have cC:=P _ _ _ k;let⟨xl,e,_⟩:=i.cells;have a:=by
     simp only[qS,MS,Value.int.injEq]at e;exact e.2.2.2.2.2.1.2
    refine⟨j',0,0,v,λff dL=>⟨g,X,Pa.bG dL,.inr ⟨.mk 5 0 [] _ [x,y] x.a,j',I,?_,(v.own yt o).only dL,f,?_⟩⟩⟩
    .have g:=yt.bG dL;have yr:aF ff dh.heap.size 74 ([O U n,O U p,ab C,O U r,B.v,O U m]++c):=by
      have:=dL.blk (eG.blk HL o) N;simp_all
     have dO:RXN ff (λq=>q=J∨q=u) w.heap.size w7.heap.size x [O U n,O U p,ab C,O U r,B.v,O U m]:=by
      exact i.only ((((((fD.weaken (bs':=[b,u]) A).trans l A).trans yt A).bG dL))) A
     have el:RXN ff (λq=>q=J∨q=u) w8.heap.size w9.heap.size y c:=(a2.only g R).I2 X;rw[a];exact .two w.heap.size w7.heap.size w8.heap.size w9.heap.size dh.heap.size _ _ _ _ _ _ x y _ c dO z8 el X X X X xC X yr
    omega
  let⟨j',c',a',bV,RO⟩:=RO;refine(oU (bV.own yt o) H).mono ?_;rintro _ ff ⟨rfl,dL⟩;let⟨bY,aT,bv⟩:=RO ff dL;exact⟨_,I,dL.same o,bY,aT,by have:=dL.size;omega,bv⟩
 have ux:op=0:=UG
 refine⟨fu.new G X,?_⟩;rcases hA with⟨c,a,j,_,d,b,F⟩|⟨x,j,e,h,F,b,v⟩
 .rw[b];exact⟨d,⟨n,p,C.data.toList,r,B,m,I⟩,j,F.own G o⟩
 rw[b,kV X];exact⟨_,I,((h.only G A).I2 R).wide X G.size,F.own G o⟩
theorem u7:∀f,(∀k d i w,k<=6->d<=20->iw k d<=f->Rr F ts w b l i 0 0 d->az aq 332 #[ae (aM ⟨b,0,VM⟩),O U k] w λe w'=>∃v,e=ak v/\wm F ts w w' b l d (dF ts f k d i) v)/\
  (∀d i w,d<=20->iw 6 d<=f->Rr F ts w b l i 0 0 d->
   az aq 336 #[ae (aM ⟨b,0,VM⟩)] w λe w'=>∃v,e=ak v/\wm F ts w w' b l d (dF ts f 6 d i) v)
 |0=>⟨λk d i w hk hd hn=>Uh,λd i w hd hn=>Uh⟩
 |f+1=>by
  let⟨L,P⟩:=u7 f;let one:∀d i w,d<=20->iw 6 d<=f+1->Rr F ts w b l i 0 0 d->
   az aq 336 #[ae _] w λe w'=>∃v,e=ak v/\wm F ts w w' b l d _ v:=λd i w hd hn h=>by
   unfold iw at hn;exact al0 hd h (λE w i h=>L 0 _ i w X X Q4 h)<|λE w i h=>P _ i w X Q4 h
  refine⟨λk d i w hk hd hn h=>?_,one⟩;by_cases a:k=6
  .subst a;refine LY w ⟨λ_ k e f C b=>?_,R⟩;refine(one d i e hd hn<|h.only b).mono ?_;rintro _ q ⟨v,rfl,D⟩;obtain⟨l,n,s,p,m,j,rfl⟩:=D.tt;have:=h.lb;exact⟨_,_,_,_,_,_,I,D.1.same o,λr c=>D.GY (b.weaken λ_ h=>VI) c o⟩
  unfold iw at hn;exact aeP X h λw i h=>L _ d i w X hd Q4 h
end
def abx{w}{F}{l}{ts}(h:aA V2 4 w F l ts) a (s:ri a):az aq 316 #[l.v,O U a] w λe b=>
  ∃c,e=ak (ai #[ah c.toArray,O U (cG ts a).2.1,ah #[O U (cG ts a).2.2.1,O U (cG ts a).2.2.2]])/\RX b w.heap.size b.heap.size (cG ts a).1 c/\((cG ts a).2.2.1=0->0<=(cG ts a).2.1/\(cG ts a).2.1<WS ts)/\ay [] w b:=by
 refine(asZ l a (λv b=>∃c,v=(ai #[ah c.toArray,O U (cG ts a).2.1,ah #[O U (cG ts a).2.2.1,O U (cG ts a).2.2.2]])/\RX b w.heap.size b.heap.size (cG ts a).1 c/\_/\ay [] w b) w ?_).mono (by
  rintro e b ⟨v,rfl,c,rfl,h⟩;exact⟨c,I,h⟩)
 let r:=h.len;let y:=h.cap;let z:=h.big;let bad:¬_->∀f,ay [] w f->∃c,(Value.tuple #[ah #[O U 0,O U 0,ab<|ao #[],O U 0,Sl.nil.v,O U 0],O U 0,ah #[O U 1,O U _]])=(ai #[ah c.toArray,O U (cG ts a).2.1,ah #[O U (cG ts a).2.2.1,O U (cG ts a).2.2.2]])/\RX f w.heap.size f.heap.size (cG ts a).1 c/\((cG ts a).2.2.1=0->0<=(cG ts a).2.1/\(cG ts a).2.1<WS ts)/\ay [] w f:=λd f j=>by
  rw[cG,Q d];exact⟨_,I,YX ..,λh=>VI,j⟩
 refine⟨λd t u f _ _ _ _ T=>bad (λg=>?_) f T,λd m k3 p D B A C i=>?_⟩
 .simp at d;omega
 have d:0<=a/\a<WS ts:=by
  simp at d;omega
 let own:∀{V W:av},ay [] w V->ay [k3,m] V W->ay [] w W:=λh1 h2=>h1.trans h2 λx hx=>.inr OS;refine⟨λP G _ _ _ _ _ _ _ _ b=>∃n,n<=WS ts/\G=n/\P=(WS ts)-n/\(∀F<n,((tk ts F).k=5↔F+1=WS ts))/\ay [] w b/\p.heap.size<=b.heap.size,WS ts,⟨0,X,I,I,λF M=>absurd M<|Nat.not_lt_zero F,i,X⟩,?_⟩;rintro P _ _ _ _ _ _ _ _ _ w2 ⟨n,hn,rfl,rfl,L,H,z2⟩;refine⟨λJ=>?_,λR K Y aC am dB uw=>?_⟩
 .have J:=S J;let⟨ad,x,c,v,a,g3,g4,w,g6⟩:=(ZH ju Z h H N).get (bf n) J;rw[aV,FM X]at a;cases a;subst g6;let e:((tk ts n).k==5)=JW ((tk ts n).k=5):=I;let q:(n==ar U (l.n-1))=JW (n+1=WS ts):=by
   rw[eI X X,bM];simp;omega
  refine⟨ad,v,_,w.dv 0 _ I,?_⟩;dsimp only;rw[e,q];refine⟨λhm w3 k=>bad (λg=>?_) w3<|own H k,λhm=>⟨(WS ts)-_,X,n+1,X,N0,I,λF M=>?_,H,z2⟩⟩
  .have:=M9 g.2.2 n X;rw[qo.2 this,XP]at hm;cases hm
  rcases tG F n with h|h
  .exact L F h
  have:F=n:=X
  subst this;have hm:JW ((tk ts F).k=5)=JW (F+1=WS ts):=X0
  exact qo.1 hm
 let R:=aQ R;have:n=WS ts:=X
 subst this;let aS:=L;let bv:0<=a/\a<WS ts/\po ts+1=WS ts:=⟨d.1,d.2,gdP aS X⟩
 rw[cG,E bv];obtain⟨G,rfl⟩:∃G:Nat,a=G:=⟨a.toNat,X⟩
 let ym:=H.bG dB;let hR:Rr _ ts Y K l G 0 0 0:=⟨uw,ZH ju Z (h.inHeap ju Z) ym N,λk hk=>by have:=hk.2;have:=H.size;omega,aS,X⟩
 refine((u7 _).1 0 0 G Y Z Z (bc _) hR).mono ?_;rintro _ w5 ⟨v,rfl,w⟩;obtain⟨vk,vn,vs,vo,vl,va,rfl⟩:=w.tt;let⟨dV,w⟩:=w;rw[aV];let bV:ug ts G=dF ts _ 0 0 G:=I;rw[bV];let Di:=ym.trans dV λx hx=>.inr OS;refine⟨_,_,_,_,_,_,I,dV.same o,?_⟩;cases aT:dF ts _ 0 0 G with
 |error e=>
  rw[aT]at w;let⟨l,a2,F,n⟩:=w;refine⟨_,_,_,_,_,n.blk,λ_ k8 w6 _ _ q Vx n1 x n3 n4 n5 n6=>⟨λk=>k=K,I,λe=>x e,λe=>n4 e,λw7 v _=>⟨_,I,YX ..,λh=>absurd h l,own (Di.bG q) v⟩⟩,λa=>absurd (by simpa using a) l⟩
 |ok q=>
  rw[aT]at w;let⟨x,F⟩:=q;let⟨c,v,a2,l⟩:=w;let jc:(qS vk vn vs vo vl va)=c:=bn Array.toList<|Value.agg.inj v;refine⟨_,_,_,_,_,l.blk,λh=>(by simp at h),λ_ k9 w8 cc bY n xp n1 n2 n3 n4 n5 n6=>⟨λk=>k=K,I,λe=>n2 e,λe=>n4 e,λw9 a _=>have:=a.size;⟨qS vk vn vs vo vl va,I,?_,λ_=>⟨bf F,by have:=l.lt;dsimp only;omega⟩,own (Di.bG n) a⟩⟩⟩;rw[jc];exact((a2.only n N).only a λq hq=>.inl MO).wide X X
def CV w c:az aq 239 #[.int .u8 c.toNat] w λe a=>e=ak (aj<|gC c)/\ay [] w a:=by
 refine ret<|aAZ ⟨?_,qE _ _⟩;congr 1;rw[bM];simp[gC,aO,cj,bB,dw];omega
def Vv w c:az aq 264 #[.int .u8 c.toNat] w λe a=>e=ak (aj<|dH c)/\ay [] w a:=by
 refine ret<|aA2 ⟨?_,qE _ _⟩;congr 1;rw[bM];simp[dH,aO,bB];omega
def aby w:az aq 263 #[] w λe a=>∃s,e=ak s.v/\Own oK 1 9 w.heap.size a (λ_=>True) s lM/\ay [] w a:=by
 exact jK<|aA1<|let⟨s,a,h,b,c⟩:=lj w lM (n:=16) I I Z Z;⟨s,a,h,s,I,b,c⟩
def S3 w m:az aq 240 #[ab (T m)] w λe a=>e=ak (aj<|lM.contains m)/\ay [] w a:=by
 refine ret<|aA0<|(aby w).mono ?_;rintro _ f ⟨s,rfl,d,b⟩;have h:=wG d;generalize lM=l at*
 have j:=h.len;have t:=h.big;have r:=h.cap;refine⟨s,I,λv i a=>∃n,n<=WS l/\i=n/\v=(WS l)-n/\(∀x,x∈l.take n->x≠m)/\a=f,WS l,R,?_⟩;rintro v _ _ ⟨n,g,rfl,rfl,p,rfl⟩;refine⟨λc=>?_,λc=>?_⟩
 .have J:=S c;let⟨ad,x,s,k,e,u,w,m,o⟩:=h.get X J;rw[aV]at e;subst o;refine⟨ad,k,_,m,?_⟩;dsimp only;rw[jC];refine⟨λq=>⟨?_,b⟩,λq=>⟨(WS l)-_,X,n+1,X,N0,I,?_,I⟩⟩
  .grind
  intro y n;rw[aX,e]at n
  grind
 grind
def Re w (l:L) i (d:i<=WS l) (g:WS l<4611686018427387903):
  az aq 241 #[ab (T l),O U i] w λe a=>e=ak (O U<|WS<|(l.drop i).takeWhile gf)/\ay [] w a:=by
 refine ret<|asA ?_;rw[LX,cE];have:WS (l.drop i)=(WS l)-i:=cT;refine⟨λk a=>k=_/\ay [] w a,λk a c=>⟨by rw[c.1],c.2⟩,λv k a=>∃n,i+n<=WS l/\k=n/\v=(WS l)-(i+n)/\(∀x,x∈(l.drop i).take n->gf x=aE)/\ay [] w a,(WS l)-i,⟨0,d,I,I,N,qE _ _⟩,?_⟩;rintro v _ f ⟨n,j,rfl,rfl,h,b⟩;rw[eI (x:=i+n) X X];refine⟨λhc=>?_,λhc=>⟨?_,b⟩⟩
 .have J:i+n<WS l:=PZ
  have hx:=aR J;generalize l[i+n]=x at hx;let D:(l.drop i)[n]? =aM x:=by rw[nN,hx]
  have:(T l)[Int.toNat ((i+n:Nat))]? =aM x:=Mp
  refine⟨x,R,(CV f x).mono ?_⟩;rintro _ o ⟨rfl,F⟩;refine⟨_,I,x,R,(Vv o x).mono ?_⟩;rintro _ q ⟨rfl,m⟩;let O:=b.bG<|F.bG m;let e:((!gC x)&&(!dH x))=!gf x:=by unfold gf;rw[Bool.not_or]
  refine⟨_,I,?_⟩;dsimp only;rw[e];refine⟨λw=>⟨?_,O⟩,λw=>⟨(WS l)-_,X,n+1,X,N0,I,λy k=>?_,O⟩⟩
  .rw[nW X h A];rw[dj];omega
  rw[aX,D]at k;simp at k;rcases k with k|rfl
  .exact h y k
  simpa using w
 have:=YD
 rw[nW X h λy e=>by
  have:=(aZ.1 e).1;omega]
 rw[dj];omega
def abz c:(((((c.toNat:Int)==9)||((c.toNat:Int)==10))||((c.toNat:Int)==13))||((c.toNat:Int)==32))=qU c:=by
 let a:((c.toNat:Int)==9)=_:=XQ (d:=9);let t:((c.toNat:Int)==10)=_:=XQ (d:=10);let x:((c.toNat:Int)==13)=_:=XQ (d:=13);let h:((c.toNat:Int)==32)=_:=XQ (d:=32);rw[a,t,x,h,bM];simp[qU,or_assoc]
def jv w l (i:Nat) (b:i<=WS l) (g:WS l<4611686018427387903):
  az aq 330 #[ab (T l),O U i] w λe a=>e=ak (O U<|(i+mj aL (l.drop i):Nat))/\ay [] w a:=by
 refine ret<|aBh ?_;rw[Ye,cE];refine⟨λk a=>k=((i+mj aL _:Nat))/\a=w,λk a h=>⟨by rw[h.1],by rw[h.2];exact qE _ _⟩,λv k a=>∃j,j<=WS l/\k=j/\v=(WS l)-j/\i+mj aL _=j+mj aL (l.drop j)/\a=w,(WS l)-i,⟨i,b,I,I,I,I⟩,?_⟩;rintro v _ c ⟨j,f,rfl,rfl,s,u⟩;subst u;refine⟨λhc=>?_,λhc=>⟨?_,I⟩⟩
 .have J:j<WS l:=PZ
  have hx:=aR J;generalize l[j]=x at hx;let hd:=pU hx;let e:((x.toNat:Int)==47)=_:=XQ (d:=47);rw[eI (x:=j+1) X X];obtain⟨y,m⟩:∃y,j+1<(WS l)->l[j+1]? =aM y:=by
   grind
  let o:((y.toNat:Int)==47)=_:=XQ (d:=47);refine⟨x,⟨X,Mp⟩,y,λh=>⟨X,?_⟩,?_⟩
  .rw[aO]at h;have:=S h.2;rw[show j+1=((j+1:Nat):Int) by omega,tJ,aV];exact m X
  rw[e,o,abz];refine⟨λp=>?_,λp=>⟨λhb=>⟨(WS l)-_,X,j+1,X,I,I,?_,I⟩,λhb=>⟨?_,I⟩⟩⟩
  .simp at p;obtain⟨⟨rfl,t⟩,rfl⟩:=p;let t:j+1<WS l:=X
   let A:(l.drop j).take 2=[47,47]:=by rw[hd,pU<|m t];rfl
   have hk:=D7 A;have:WS (l.drop j)=(WS l)-j:=cT;refine⟨λv k a=>∃n,j+n<=WS l/\k=((j+n:Nat))/\v=(WS l)-(j+n)/\(∀x,x∈(l.drop j).take n->(x !=10)=aE)/\a=c,(WS l)-j,R,?_⟩;rintro v _ _ ⟨n,w,rfl,rfl,y,rfl⟩;obtain⟨z,B⟩:∃z,j+n<(WS l)->l[j+n]? =aM z:=by
    grind
   let r:((z.toNat:Int) !=10)=(z !=10):=by
    have:((z.toNat:Int)==10)=_:=XQ (d:=10)
    grind
   refine⟨z,λh=>⟨X,by rw[tJ,aV];exact B<|by have:=S h;omega⟩,?_⟩;rw[r];refine⟨λh=>?_,λh=>?_⟩
   .rw[aO]at h;have:=S h.1;have d:(l.drop j)[n]? =aM z:=R
    refine⟨(WS l)-_,X,n+1,X,Oe,I,λq k=>?_,I⟩;rw[aX,d]at k
    grind
   .have x:=nW X y λq k=>by
     grind
    have d:WS ((l.drop j).takeWhile (· !=10))=n:=R
    have:0<n:=by
     grind
    rw[d,jG]at hk;exact⟨(WS l)-_,X,j+n,w,I,I,by rw[s,hk];omega,I⟩
  .rw[s,hd,mj,E hb];omega
  .have z:mj aL (l.drop j)=0:=by
    rw[hd,mj,Q UM,Q];intro d;simp only[aO,dw]at d;obtain⟨rfl,d⟩:=d;have k:j+1<WS l:=by
     grind
    rw[pU (m k)]at d
    grind
   rw[s,z];rfl
 .have q:WS l<=j:=YD
  rw[s,fF q];rfl
def BO:J (L):=[[45,62],[60,61],[62,61],[61,61],[33,61],[38,38],[124,124]]
def GA{c d}{r}:uL (c::d::r)=BO.contains [c,d]:=by
 rw[bM];simp[uL,BO]
 grind
def ah7{m}(h:uL m=aE):kO m=2:=by unfold kO;rw[E h]
def ajD{c}{r}(h:uL (c::r)=aL):kO (c::r)=if qV.contains c then 1 else 0:=by
 rw[kO];simp_all
def agE w l (i:Nat) (m:i<WS l) (z:WS l<4611686018427387903):
  az aq 335 #[ab (T l),O U i] w λe a=>e=ak (O U<|kO<|l.drop i)/\ay [] w a:=by
 refine ret<|as4 ?_;rw[L0,cE];let⟨s,j,p,t,f⟩:=lj w BO (n:=7) (parts:=#[_,_,_,_,_,_,_]) I I Z Z;let g:=wG t;have hx:=aR m;generalize l[i]=c at hx;let hd:=pU hx;have:WS (l.drop i)=(WS l)-i:=cT;have:=g.len;rw[eI (x:=i+2) X X];refine⟨s,j,p,λv k a=>∃n,n<=WS BO/\k=n/\v=(WS BO)-n/\(2<=(WS<|l.drop i)->∀x,x∈BO.take n->x≠(l.drop i).take 2)/\ay [] j a,WS BO,⟨0,X,I,I,N,qE _ _⟩,?_⟩;rintro v _ A ⟨n,o,rfl,rfl,h,b⟩;refine⟨λhc=>?_,λhc=>?_⟩
 .have J:=S hc;let⟨ad,x,G,s,e,H,K,w,C⟩:=(ZH dI Z g b N).get X J;rw[aV]at e;subst C;let D:WS BO=7:=I;refine⟨i,i+2,R,ad,λ_=>s,_,λ_=>w,?_⟩;let ex:(T l).extract i (i+2)=T ((l.drop i).take 2):=by rw[xr,show i+2-i=2 by omega]
  rw[ex,jC];refine⟨λc L F=>⟨?_,f.bG<|b.bG F⟩,λc M q=>⟨(WS BO)-_,X,n+1,X,N0,I,λk y E=>?_,b.bG q⟩⟩
  .rw[aO]at c;let y:=S c.1;have k:=S c.2;let n:uL (l.drop i)=aE:=by
    cases x:l.drop (i+1)with
    |nil=>
     grind
    |cons d r=>
     rw[hd,x]at k⊢;rw[GA,List.contains_iff_mem]
     grind
   rw[ah7 n];rfl
  rw[aX,e]at E
  grind
 have C:=aQ hc;rw[bm X]at h;have L:uL (l.drop i)=aL:=by
  cases c:l.drop (i+1)with
  |nil=>rw[hd,c];rfl
  |cons d r=>
   rw[hd,c,GA,iM]
   grind
 let V:kO (l.drop i)=if qV.contains c then 1 else 0:=by
  rw[hd]at L⊢;exact ajD L
 rw[V];refine⟨λv k a=>∃n:Nat,n<=17/\k=n/\v=17-n/\(∀x,x∈qV.take n->x≠c)/\ay [] w a,17,⟨0,X,I,I,N,f.bG b⟩,?_⟩;rintro v _ D ⟨n,o,rfl,rfl,h,s⟩;refine⟨λhc=>?_,λhc=>⟨?_,s⟩⟩
 .have J:n<17:=PZ
  obtain⟨y,d⟩:∃y,qV[n]? =aM y:=⟨_,aR J⟩
  refine⟨c,⟨X,Mp⟩,y,⟨X,by
   have e:Kbf=T qV:=I;rw[e,tJ,aV,d]⟩,?_⟩
  rw[XQ];refine⟨λl x k=>⟨?_,s.bG k⟩,λl E r=>⟨17-_,X,n+1,X,N0,I,λq w=>?_,s.bG r⟩⟩
  .grind
  rw[aX,d]at w
  grind
 have C:n=17:=R
 subst C;rw[Q]
 .rfl
 intro d;rw[List.contains_iff_mem]at d;exact h c P9 I
def rkW{ds}{x}:nC 0 (ds++[x])=nC 0 ds*10+(x.toNat-48):=by
 rw[nC,gZ];rfl
def exI{ds}{n}:nC 0 (ds.take n)<=nC 0 ds:=by
 have:nC 0 ds=nC (nC 0<|ds.take n) (ds.drop n):=by
  unfold nC;rw[<-gZ,eS]
 rw[this];exact JZ _ _
def abA w l (b:WS l<4611686018427387903):
  az aq 334 #[ab (T l)] w λe a=>e=ak (ai #[O U (im l).1,O U (im l).2.1,O U (im l).2.2])/\ay [] w a:=by
 refine ret<|aBj ?_;rw[Yf,cE];refine⟨λh=>⟨?_,qE _ _⟩,λh=>?_⟩
 .have h:l=[]:=A
  rw[im,E h];rfl
 have h:¬l=[]:=by
  rintro rfl;simp at h
 refine⟨λe j a=>∃n:Nat,n<=WS l/\j=n/\e=(WS l)-n/\(∀x,x∈l.take n->dH x=aE)/\a=w,WS l,R,?_⟩;rintro e _ k ⟨n,i,rfl,rfl,p,u⟩;subst u;obtain⟨z,f⟩:∃z:UInt8,n<(WS l)->l[n]? =aM z:=by
  by_cases c:n<WS l
  .exact⟨l[n],λ_=>aR c⟩
  exact⟨0,X⟩
 have:n<(WS l)->0<=(n:Int)/\(T l)[Int.toNat n]? =aM z:=λc=>⟨X,by rw[tJ,aV];exact f c⟩
 refine⟨z,A,z,A,?_⟩;let g:((((JW<|n<(WS l:Int))&&(JW<|(z.toNat:Int)>=48))&&(JW<|(z.toNat:Int)<=57)))=(JW (n<WS l)&&dH z):=by
  rw[bM];simp only[dH,aO,bB];omega
 rw[g];refine⟨λc=>?_,λc=>?_⟩
 .rw[aO]at c;let d:=S c.1;refine⟨(WS l)-_,X,n+1,X,N0,I,λy hy=>?_,I⟩;rw[aX,f d]at hy;simp at hy;rcases hy with hy|rfl
  .exact p y hy
  exact c.2
 let s:=nW i p λy hy=>by
  let d:=(aZ.1 hy).1;rw[f d]at hy;cases hy;rw[bO d,cd]at c;exact c
 let B:WS (l.takeWhile dH)=n:=by rw[s,dj];omega
 obtain⟨x,r,rfl⟩:∃x r,l=x::r:=by
  cases l with
  |nil=>exact absurd I h
  |cons x r=>exact⟨x,r,I⟩
 refine⟨x,λ_ _=>⟨X,I⟩,?_⟩;have:((x.toNat:Int)==48)=_:=XQ (d:=48);let w:(((n:Int)==0)||((JW<|(n:Int)>1)&&((x.toNat:Int)==48)))=JW ((x::r).takeWhile dH=[]∨(1<WS ((x::r).takeWhile dH)/\(x::r).head? =aM 48)):=by
  grind
 rw[w];refine⟨λo=>⟨?_,qE _ _⟩,λo=>?_⟩
 .rw[im,Q h,E<|S o];rfl
 let o:=aQ o;refine⟨λe v j a=>∃q:Nat,q<=n/\j=q/\e=n-q/\v=(nC 0<|(x::r).take q)/\nC 0 ((x::r).take q)<9223372036854775808/\ay [] k a,n,⟨0,X,I,I,I,by rw[cr];decide,qE _ _⟩,?_⟩;rintro e _ _ C ⟨q,z,rfl,rfl,rfl,l,d⟩;refine⟨λhc=>?_,λhc=>⟨?_,d⟩⟩
 .have J:q<n:=PZ
  have hy:(x::r)[q]? =aM _:=aR X;generalize (x::r)[q]'_=y at hy;have v:=p y (by
   rw[List.mem_iff_getElem?];exact⟨q,by rw[zF,E J,hy]⟩)
  simp only[dH,aO,bB]at v;let F:=by
   have c:∀n:Fin 256,48<=n.val->ar .u8 (n.val-48)=n.val-48:=Ks
   exact c ⟨y.toNat,y.toNat_lt⟩ v.1
  let H:(9223372036854775807-((y.toNat:Int)-48)).tdiv 10=_/10:=Int.tdiv_eq_ediv_of_nonneg X;let G:(x::r).take (q+1)=(x::r).take q++[y]:=Nh
  let ev:nC 0 ((x::r).take<|q+1)=nC 0 ((x::r).take q)*10+(y.toNat-48):=by rw[G,rkW]
  refine⟨y,⟨X,by rw[tJ,aV,hy]⟩,?_⟩;rw[F,eI (x:=y.toNat-48) X X,eI (x:=9223372036854775807-_) X X,H,eI (x:=_/10) X X];refine⟨λD=>⟨?_,d⟩,λD=>⟨n-_,X,q+1,X,N0,I,?_,?_,d⟩⟩
  .have D:=S D;have:=by
    have:=exI (ds:=(x::r).take n) (n:=q+1);rw[List.take_take,Nat.min_eq_left X]at this;exact this
   rw[im,Q h,Q o,Q<|by rw[s];omega];rfl
  .have D:=aQ D;rw[ev,eI (x:=10*(nC 0 _)) X X,eI X X];omega
  let D:=aQ D;omega
 have r:q=n:=YD
 subst r;rw[im,Q h,Q o,E<|by rw[s];exact l,B,s]
def atY(i:Nat)(r:Except Int Tq)(v:aw):Prop:=match r with
 |.error e=>v=ai #[ah #[O U 0,ab<|T [],O U 0,O U 0],O U 0,O U e]
 |.ok q=>v=ai #[ah #[O U q.1,ab<|T q.2.1,O U q.2.2.1,O U i],O U q.2.2.2,O U 0]
def abB(w:av)(l:L) i (r:i<WS l) (H:WS l<=16384):
  az aq 331 #[ab (T l),O U i] w λe g=>∃v,e=ak v/\atY i (ot<|l.drop i) v/\ay [] w g:=by
 refine as2 (T l) i w ?_;have hx:=aR r;generalize l[i]=x at hx;have B:WS (l.drop i)=(WS l)-i:=cT;have D:ot (l.drop i)=if gC x then pC (l.drop i)else if dH x then vX (l.drop i)else qF (l.drop i):=by
  rw[pU hx];rfl
 rw[D];have q:0<=(i:Int)/\_[Int.toNat i]? =aM x:=⟨X,Mp⟩
 refine⟨x,q,λt z Z J b=>(CV z x).mono ?_⟩;rintro _ G ⟨rfl,d⟩;have new:∀{u c:av},ay [] w u->ay [t] u c->ay [] w c:=λf k=>f.trans k A;have sm:∀{u c:av},ay [] z u->ay [] u c->bX [t] u c:=λC f=>f.same (by have:=C.size;simp;omega);refine⟨_,I,sm (qE _ _) d,x,q,(Vv G x).mono ?_⟩;rintro _ j ⟨rfl,F⟩;have h:=d.bG F;refine⟨_,I,sm d F,λhb=>?_,λhb=>⟨λhd=>⟨i,R,?_⟩,λhd=>?_⟩⟩
 .rw[E hb];refine(Re j l i X X).mono ?_;rintro _ w3 ⟨rfl,N⟩;have U:=by
   have:=uM (p:=gf) (l:=l.drop i);rwa[B]at this
  have ex:(T l).extract i (i+WS ((l.drop i).takeWhile gf))=T ((l.drop i).takeWhile gf):=by
   rw[xr,gH,<-pT]
  refine⟨_,I,sm h N,i,i+WS ((l.drop i).takeWhile gf),⟨I,Oe,X,Hn⟩,λk5 Y tA Az K=>?_⟩;have e:=h.bG<|N.bG K;rw[ex];refine(S3 Y _).mono ?_;rintro _ w5 ⟨rfl,V⟩;have v:=e.bG V;have z4:=e.size;unfold pC;generalize hm:(l.drop i).takeWhile gf=m at*
  refine⟨_,I,V.same o,λk s n a g=>k=(if lM.contains m then 2 else 1)/\s=T m/\n=0/\a=i/\ay [] w g,?_,λhc w9 P=>⟨by rw[E hc],I,I,I,(b.bG v).trans P λy W=>.inr<|by simp at W;have:=b.size;have:=N.size;have:=h.size;omega⟩,λhc=>⟨by rw[hc];rfl,I,I,I,b.bG v⟩⟩;rintro _ _ _ _ w6 ⟨rfl,rfl,rfl,rfl,x⟩;refine⟨λhc w7 O=>⟨?_,new x O⟩,λhc w8 M=>⟨?_,new x M⟩⟩
  .rw[E PZ];rfl
  rw[Q YD];rfl
 .rw[Q UM,E hd];have ex:(T l).extract i (T l).size=T (l.drop i):=by rw[xr,cE,bm X]
  rw[ex];refine(abA j (l.drop i) X).mono ?_;rintro _ k ⟨rfl,y⟩;have a:=h.bG y;unfold vX;refine⟨_,_,_,I,sm h y,λhe n e=>⟨?_,new (b.bG a) e⟩,λhe=>(Re k l i X X).mono ?_⟩
  .rw[E Ze];rfl
  rintro _ x ⟨rfl,p⟩;have i:=a.bG p;rw[Q Ze];refine⟨_,I,sm a p,λhc M s=>⟨?_,new (b.bG i) s⟩,λhc K v=>⟨?_,new (b.bG i) v⟩⟩
  .rw[E PZ];rfl
  rw[Q YD];rfl
 rw[Q UM,Q<|by rw[hd];decide];refine(agE j l i r X).mono ?_;rintro _ p ⟨rfl,k⟩;have O:=h.bG k;have s:=A7 (m:=l.drop i);have ex:(T l).extract i (i+kO (l.drop i))=T ((l.drop i).take<|kO<|l.drop i):=by rw[xr,gH]
 unfold qF;refine⟨_,I,sm h k,λa v n=>⟨?_,new (b.bG O) n⟩,λa=>⟨i,i+kO (l.drop i),⟨I,Oe,X,Hn⟩,λV K=>⟨?_,new (b.bG O) K⟩⟩⟩
 .rw[E (by have:=(by simpa using a);omega)];rfl
 rw[Q (by rintro e;rw[e]at a;simp at a),ex];rfl
def inz w l:
  az aq 315 #[ab (T l)] w λe b=>∃d,e=ak (ai #[d.v,ah #[O U (cR l).2.1,O U (cR l).2.2]])/\oL w.heap.size b d (cR l).1/\ay [] w b:=by
 refine jK<|aBb ?_;rw[Yk,cE];refine⟨λhc g i _ _ h=>⟨Sl.nil,?_,?_,h⟩,λhc f a Z j c=>?_⟩
 .rw[cR,E PZ]
 .rw[cR,E PZ];exact E7 ..
 let L:WS l<=16384:=YD
 let Y:cR l=match ma l 0 with
  |.error x=>([],x.1,x.2)
  |.ok r=>(r,0,0):=by
   rw[cR,Q X]<;>rfl
 refine(jv a l 0 X X).mono ?_;rintro _ G ⟨rfl,p⟩;let D:=c.size;refine⟨_,I,p.same o,λz s w B C b=>B=0/\C=0/\∃(m:Nat) (n:J Tk),w=m/\m<=WS l/\WS n<=m/\mj aL (l.drop m)=0/\ma l 0=lm n (ma l m)/\z=(WS l)-m/\oL a.heap.size b s n/\ay [] a b,(WS l)-(0+mj aL (l.drop 0)),?_,?_⟩
 .refine⟨I,I,_,[],I,M0 X,bE _,?_,?_,I,E7 ..,p⟩
  .rw[<-jG];exact tM aL<|l.drop 0
  rw[<-pV X];cases ma l 0<;>rfl
 rintro z s _ _ _ N ⟨rfl,rfl,m,n,rfl,W,R4,V,P,rfl,H,R⟩;have:=R.size;have K:=lK W;rw[V,ku]at K;let M:∀{u:av} {r:Sl} t,ay [] a u->oL a.heap.size u r n->
   ∃y e,(au 148 1 #[(0,t.v)]).run aq u=.ok (Sl.v y) e/\ay [] u e/\∃s q,(Builtin.append_ #[148,148] 148 #[Sl.v r,Sl.v y]).run aq e=.ok (Sl.v s) q/\oL a.heap.size q s (n++[t])/\aD (λk=>a.heap.size<=k/\r.a=aM ⟨k,0,VM⟩) e q/\ay [] a q:=by
  intro u r t T hr;let⟨y,e,c1,v,s,q,c3,c4,x⟩:=ec t hr T.size X;exact⟨y,e,c1,v,s,q,c3,c4,x,((T.bG v).p0 (F:=λk=>a.heap.size<=k) |>.trans x X).only X⟩
 refine⟨λhc=>?_,λhc=>?_⟩
 .have bJ:m<WS l:=PZ
  rw[Q X]at K;refine(abB N l m bJ L).mono ?_;rintro _ w4 ⟨v,rfl,t,dB⟩;let Yv:=R.bG dB;let F:bX [f] N w4:=dB.same o;have:=dB.size;unfold atY at t;cases r:ot (l.drop m)with
  |error e=>
   rw[r]at t K;subst t;refine⟨0,T [],0,0,0,e,I,F,λ_ q u s y k=>⟨Sl.nil,?_,?_,?_⟩,λhe=>absurd (J8 r) Ze⟩
   .rw[Y,P,K];rfl
   .rw[Y,P,K];exact E7 ..
   exact(c.bG Yv).trans k A
  |ok q=>
   rw[r]at t K;subst t;have:=yI r;have am:=FL r;rw[cT]at am;refine⟨q.1,T q.2.1,q.2.2.1,m,q.2.2.2,0,I,F,λhe=>(by simp at he),λ_ k5 w6 tA Az dr=>let⟨y,w7,c1,c2,s',w8,c3,c4,c5,c6⟩:=M (u:=w6) ⟨q.1,q.2.1,q.2.2.1,(m:Nat)⟩ (Yv.bG dr)<|H.only<|dB.bG dr;have:=c2.size;have:=c5.size;let hk:∀k,s.a=aM ⟨k,0,VM⟩->a.heap.size<=k/\k<N.heap.size:=λk hk=>H.blk hk;⟨y,w7,c1,c2.same o,s',w8,c3,c5.same (by
    intro x k;simp[ba,cy,fQ]at k;refine⟨X,λe=>?_⟩;have:=hk x e.2;omega),?_⟩⟩
   rw[eI (x:=m+q.2.2.2) X X,show m+q.2.2.2=((m+q.2.2.2:Nat):Int) by omega];refine(jv w8 l _ X X).mono ?_;rintro _ w9 ⟨rfl,v⟩;refine⟨_,I,v.same o,(WS l)-_,X,I,I,_,_,I,M0 (l:=l) (i:=m+q.2.2.2) X,?_,?_,?_,I,c4.only v,c6.bG v⟩
   .rw[aU,bI];omega
   .rw[<-jG];exact tM aL _
   rw[P,K,<-pV X,<-SO];dsimp only;cases ma l _<;>rfl
 let oc:WS l<=m:=YD
 rw[E oc]at K;let⟨y,dh,F,q,v,dE,T,c4,c5,c6⟩:=M (u:=N) ⟨5,[],0,m⟩ R H;have:=q.size;let hk:∀k,s.a=aM ⟨k,0,VM⟩->a.heap.size<=k/\k<N.heap.size:=λk hk=>H.blk hk;have t:cR l=(n++[⟨5,[],0,m⟩],0,0):=by
  rw[Y,P,K];rfl
 let e:(WS l:Int)= ↑m:=X
 rw[e];refine⟨y,dh,F,q.same o,v,dE,T,c5.same (by
  intro x k;simp at k;refine⟨X,λe=>?_⟩;omega),λy r=>⟨v,by rw[t],?_,?_⟩⟩
 .rw[t];have:=c4.keep λk hk e=>r.block k e (by simp;have:=hk.1;omega);exact Zd this D
 exact(c.bG c6).trans r A
def tZ w l (f:WS l<4611686018427387903):
  az aq 192 #[ab (T l)] w λe a=>e=ak (aj<|eu l)/\ay [] w a:=by
 refine ret<|aAV ?_;rw[Yo];let d:(ao #[])=T []:=I;rw[cE,d,jC];refine⟨λh=>⟨?_,qE _ _⟩,λh=>?_⟩
 .unfold eu;rw[bR]
  .rfl
  rintro⟨b,c⟩;rw[bR b,bR X]at h;cases h
 simp at h;let⟨j,g⟩:=h;have g:WS l<=24:=X
 obtain⟨c,r,rfl⟩:∃c r,l=c::r:=by
  cases l with
  |nil=>exact absurd I j
  |cons c r=>exact⟨c,r,I⟩
 let n:eu (c::r)=(gC c&&JW ((c::r).takeWhile gf=c::r)&&!lM.contains (c::r)):=by
  rw[eu,bO ⟨j,g⟩,cd]
 refine⟨c,⟨X,I⟩,(CV w c).mono ?_⟩;rintro _ m ⟨rfl,T⟩;refine⟨_,I,(S3 m _).mono ?_⟩;rintro _ o ⟨rfl,k⟩;refine⟨_,I,λb a=>b=eu _/\ay [] w a,λb a e=>⟨by rw[e.1],e.2⟩,λi=>?_,λi=>⟨?_,T.bG k⟩⟩
 .refine(Re o _ 0 X f).mono ?_;rintro _ w ⟨rfl,N⟩;rw[lg];refine⟨_,I,?_,T.bG<|k.bG N⟩;rw[n];simp only[aO,dS]at i;rw[i.1,i.2,cd,Bool.not_false,dW,bM];simp only[dw,bB];constructor
  .intro e;let e:WS ((c::r).takeWhile gf)=WS (c::r):=X
   have g:=pT (p:=gf) (l:=c::r);rw[e,bm X]at g;exact g
  intro e;rw[e]
 rw[n];cases j:gC c<;>cases g:lM.contains _<;>rw[j,g]at i<;>simp at i⊢
def agF w l:az aq 290 #[ab (T l)] w λe g=>
  ∃a,e=ak (ai #[ah a.toArray,ah #[O U (iG l).2.1,O U (iG l).2.2]])/\RX g w.heap.size g.heap.size (iG l).1 a/\ay [] w g:=by
 refine jK<|asP ?_;intro C D K P M S R v;have own:∀{u r:av},ay [] w u->ay [D,C] u r->ay [] w r:=λz A=>z.trans A λx hx=>.inr OS;refine(inz K l).mono ?_;rintro _ W ⟨i,rfl,h,d⟩;have z1:=d.size;have j:=v.bG d;generalize H:cR l=J at*
 let⟨s,c,p⟩:=J;have Y:iG l=if c≠0 then(Ad,c,p)else if(cG s 0).2.2.1≠0 then(Ad,(cG s 0).2.2.1,(cG s 0).2.2.2)else if(tk s (cG s 0).2.1.toNat).k≠5 then(Ad,4,(tk s (cG s 0).2.1.toNat).a)else((cG s 0).1,0,(cG s 0).2.2.2):=by
  rw[iG,H]
 refine⟨i,_,_,I,d.same o,λhc G w2 yq V F m b f=>⟨λk=>k=G,I,λe=>b e,λe=>f e,λw3 y=>?_⟩,λhc k3 w4 L wz B=>?_⟩
 .have hc:=WH
  rw[Y,E hc];exact⟨_,I,YX ..,own (j.bG F) y⟩
 rw[Q (by simp[by simpa using hc])]at Y;refine(abx (h.only B).sl 0 ⟨Z,Z⟩).mono ?_;rintro _ w5 ⟨a,rfl,hX,hj,T⟩;have p:(cG s 0).2.2.1=0->(cG s 0).2.2.2=0:=by
  rw[cG];split
  .cases k:ug s (0:Int).toNat with
   |error e=>
    intro n;exact absurd n<|pW _ _ _ _ k
   |ok q=>intro _;rfl
  intro e;exact absurd e (show ¬1=0 by decide)
 generalize ff:cG s 0=pa at*
 let⟨x,am,c',p'⟩:=pa;dsimp only at hX hj Y p⊢;obtain⟨xl,rfl,_⟩:=hX.cells;have w:=(j.bG B).bG T;have l:∀{u:av},ay [k3] w5 u->aA V2 4 u _ i s:=λhO=>ZH ju Z (h.only<|B.bG T).sl hO λk hk bJ hm=>by
  have:=h.blk hk.2;simp at hm;dsimp only at this;omega
 refine⟨_,_,_,_,_,_,_,_,_,I,T.same o,λc k4 w6 rr yu dr m b f n4 n5 n6=>⟨λk=>k=k3,I,λe=>b e,λe=>n4 e,λw7 fu=>?_⟩,λc=>?_⟩
 .have c:=by simpa using c
  rw[Y,E c];exact⟨_,I,YX ..,own (w.new dr X) fu⟩
 have c:=by simpa using c
 rw[Q (by simp[c])]at Y;let⟨x,gz⟩:=hj c;obtain⟨n,rfl⟩:∃n:Nat,am=n:=⟨am.toNat,X⟩
 have hl:=(l<|qE _ _).len;let⟨ad,t,a,g1,g2,g3,g4,g5,g6⟩:=(l<|qE _ _).get x X;rw[aV]at Y;refine⟨ad,g1,λk5 w8 tA Az fD=>?_⟩;let⟨zT,t',HE,e1,e2,e3,e4,e5,e6⟩:=(l fD).get x X;have aC:=ci.OW e1 g1;subst aC;rw[aV,FM X]at e2;cases e2;subst e6;refine⟨_,e5.dv 0 _ I,λhk w9 fx m b f n4 n5 n6=>⟨λk=>k=zT.block,zT,g1,?_,_,(e5.keep<|fx.block _ e5.lt N).dv 3 _ I,?_,?_,λdh dy=>?_⟩,λhk dE dJ=>?_⟩
 .exact pI zT 3
 .intro e;have:=e3.1;omega
 .intro e;omega
 .have hk:=Wq
  rw[Y,E hk];exact⟨_,I,YX ..,own ((w.new fD X).bG fx) dy⟩
 rw[Y,Q<|by simp[by simpa using hk],p c];have e:=dJ.size;exact⟨_,I,((hX.only fD λq hq=>.inl MO).only dJ λq hq=>.inl MO).wide X X,own (w.new fD X) dJ⟩
def al1{k:Nat}{op}(hk:k<6)(h:op∈(fR[k]?).getD []):gX op=k:=by
 match k,hk with
 |0,_=>simp[fR]at h;subst h;rfl
 |1,_=>simp[fR]at h;subst h;rfl
 |2,_=>simp[fR]at h;rcases h with rfl|rfl<;>rfl
 |3,_=>simp[fR]at h;rcases h with rfl|rfl|rfl|rfl<;>rfl
 |4,_=>simp[fR]at h;rcases h with rfl|rfl<;>rfl
 |5,_=>simp[fR]at h;rcases h with rfl|rfl|rfl<;>rfl
def agG{op}(h:∀k<6,op∉(fR[k]?).getD []):gX op=6:=by
 have a:=h 0 Z;have b:=h 1 Z;have c:=h 2 Z;have d:=h 3 Z;have e:=h 4 Z;have f:=h 5 Z;simp[fR]at a b c d e f;rw[gX];omega
def BP{a:av}{F:h}{x:Ex}{s:aI}{d:Nat}(m:yJ d a F x s):az aq 310 #[ah s.toArray] a λe w=>e=ak (O U<|H x)/\ay [] a w:=by
 obtain⟨sl,rfl⟩:=mP m;refine ret<|asT ?_;intro B t z C T;refine(Rb t).mono ?_;rintro _ j ⟨p,rfl,g,b⟩;have:=g.len;have:WS fR=6:=I;refine⟨p,I,b.same o,λv i w=>∃n:Nat,n<=6/\i=(n:Int)/\v=6-n/\(∀k<n,x.op∉(fR[k]?).getD [])/\ay [] j w,6,⟨0,Z,I,I,λk hk=>absurd hk X,qE _ _⟩,?_⟩;rintro v _ u ⟨n,A,rfl,rfl,f,l⟩;let r:ay [] a u:=(T.bG b).bG l;refine⟨λc=>?_,λc=>⟨?_,r⟩⟩
 .simp only[aO,bB,dw]at c;let⟨pf,Y⟩:=c;let V:n<6:=X
  obtain⟨p0,F,W,O,P,g3,g4,L,M,rfl,S⟩:=g.get (bf n) X;rw[aV]at P;let K:(fR[n]?).getD []=F:=by rw[P];rfl
  have:=S.len;have:=S.cap;have:=S.big;refine⟨λv i w=>∃d:Nat,d<=WS F/\i=(d:Int)/\v=(WS F)-d/\(∀q y,q<d->F[q]? =aM y->y≠x.op)/\ay [] j w,WS F,R,?_⟩;rintro v _ w3 ⟨d,hj,rfl,rfl,io,e⟩;refine⟨p0,O,M,L.keep<|e.block _ L.lt N,λJ=>?_,λU=>?_⟩
  .have J:(d:Int)<(M.n:Int):=R
   let⟨p3,k,am,r1,n,r3,r4,r5,r6⟩:=(ZH oY Z S e N).get X J;unfold Gz at r6;subst r6;rw[aV]at n;refine⟨p0,O,M,L.keep<|e.block _ L.lt N,p3,r1,k,r5,λhe w4 dB=>⟨?_,((T.bG b).bG e).bG dB⟩,λhe w5 dV=>⟨(WS F)-_,X,d+1,X,N0,I,λq y hq hy=>?_,e.bG dV⟩⟩
   .have he:k=x.op:=Ze
    subst he;have:=al1 V (by rw[K];exact be n);rw[H,E Y,this]
   grind
  let U:¬(d:Int)<(M.n:Int):=aQ U;refine⟨6-(n+1),X,n+1,X,N0,I,λk hk=>?_,e⟩;rcases tG k n with x|x
  .exact f k x
  have:k=n:=X
  subst this;rw[K];intro y;let⟨q,hq⟩:=fk y
  grind
 rw[H];by_cases d:x.k=5
 .rw[E d];have:n=6:=by
   grind
  subst this;rw[agG f]
 rw[Q d]
def HG:∀(d:Nat) {a:av} {F:h} {x:Ex} {c:aI},(∀e,zJ e x)->yJ d a F x c->az aq 288 #[ah c.toArray] a λe w=>e=ak (aj<|di d x)/\ay [] a w
 |0,_,_,_,_,_,b=>b.elim
 |d+1,a,F,x,c,j,⟨sl,k,g⟩=>by
  subst k;refine ret<|asN ?_;intro K u G D B;let m:=g.len;have:=g.cap;have:=g.big;let l:WS x.s<4611686018427387903:=(j 1).1;let s:∀y∈x.dP,∀e,zJ e y:=λy r e=>(j<|e+1).2 y r;refine⟨λv t w=>∃n:Nat,n<=WS x.dP/\t=(n:Int)/\v=(WS x.dP)-n/\lw (di d) x.dP=lw (di d) (x.dP.drop n)/\ay [] a w/\u.heap.size<=w.heap.size,WS x.dP,R,?_⟩;rintro v _ z ⟨n,A,rfl,rfl,C,i,P⟩;refine⟨λJ=>?_,λq=>?_⟩
  .have J:(n:Int)<(sl.n:Int):=S J;let⟨p,y,ds,V,e,g3,g4,W,T⟩:=(ZH (j9 d) Z g i N).get X J;rw[aV]at e;obtain⟨ff,rfl⟩:=mP T;refine⟨p,V,_,_,_,_,_,_,W,(HG d (s y<|be e) T).mono ?_⟩;rintro _ w2 ⟨rfl,b⟩;have:=b.size;let Y:=A1 (f:=di d) e;refine⟨_,I,b.same o,λhb=>⟨?_,i.bG b⟩,λhb=>⟨(WS x.dP)-(n+1),X,n+1,X,N0,I,?_,i.bG b,X⟩⟩
   .have hb:di d y=aL:=Rg
    rw[di,C,Y,hb,dT,jH]
   simp_all
  let q:¬(n:Int)<(sl.n:Int):=aQ q;have:n=WS x.dP:=X
  subst this;rw[fF (bc _)]at C;let f:di (d+1) x=iP x:=by
   rw[di,C];simp[lw]
  refine(tZ z x.s l).mono ?_;rintro _ V ⟨rfl,p⟩;have e:=i.bG p;have:=p.size;let y:((T x.s).toList==(ao #[]).toList)=JW (x.s=[]):=jC x.s [];rw[y,m];refine⟨_,I,p.same o,λhk=>⟨?_,e⟩,λhk=>⟨λb w=>b=JW (x.k=2∨x.k=3)/\w=V,?_,λW=>⟨?_,I⟩,λW=>⟨?_,I⟩⟩⟩
  .have hk:x.k=1:=Wq
   rw[f,iP,E hk,Wa];congr 4
   grind
  .have n:x.k≠1:=Wq
   rintro _ _ ⟨rfl,rfl⟩;refine⟨λhb=>⟨?_,e⟩,λhb=>⟨λrr=>⟨?_,e⟩,λrr=>⟨λtA=>?_,λtA=>⟨?_,e⟩⟩⟩⟩
   .have hb:=S hb;rw[f,iP,Q n,E hb,Wa]
    grind
   .have hb:=aQ hb;let rr:x.k=4:=WD
    rw[f,iP,Q n,Q hb,E rr,Wa]
    grind
   .have hb:=aQ hb;let rr:x.k≠4:=WD
    let tA:x.k=5:=Dz
    let T:iP x=(!(gX x.op==6)&&Wa 0 [] x.op 2 x):=by rw[iP,Q n,Q hb,Q rr,E tA]
    let am:(x.op==x.op)=aE:=XP _;refine⟨λb w=>b=iP x/\ay [] a w,?_,λhc=>(BP (d:=d+1) (F:=F) (x:=x) ⟨sl,I,ZH (j9 d) Z g e N⟩).mono ?_,λhc=>⟨?_,e⟩⟩
    .simp_all
    .rintro _ b ⟨rfl,d⟩;refine⟨_,I,d.same o,?_,e.bG d⟩;rw[T,Wa,hc,am,dW,cd,H,E tA];congr 1;rw[bM];simp only[bB,dS,LP];have:gX x.op<=6:=by
      unfold gX;omega
     omega
    rw[T,Wa,hc,dT,dT,jH]
   let rr:x.k≠4:=WD
   let tA:x.k≠5:=Dz
   rw[f,iP,Q n,Q<|aQ hb,Q rr,Q tA]
  .simp_all
  grind
def GB(d:Nat)(x:Ex):C:=JW<|sH d x≠[]
def atZ l m:T l++T m=T (l++m):=rfl
def agH(w:av){n:Int}(b:0<=n)(c:n<=9223372036854775807):az aq 195 #[O U n] w λe a=>e=ak (.int .u64 n)/\a=w:=by
 refine ret<|Yp _ _ _ ⟨λh=>absurd (S h) X,λ_=>⟨?_,I⟩⟩;have:ar .u64 n=n:=by
  let e:ar .u64 n=n % 18446744073709551616:=I;rw[e];omega
 rw[this]
def wo(u:Nat)(h:u<=18446744073709551615):WS (Lib.decDigits u)<=40:=by
 let e:∀(k u:Nat),u<10 ^ (k+1)->WS (Lib.decDigits u)<=k+1:=by
  intro k
  induction k with
  |zero=>intro u a;rw[rI (by simpa using a)];simp
  |succ k i=>
   intro u a;by_cases t:u<10
   .rw[rI t];simp
   rw[vj t,aU,bI];have:=i (u/10) (by rw[Nat.div_lt_iff_lt_mul Z];rw[Nat.pow_succ]at a;exact a);omega
 have:=e 19 u (by have:(10:Nat) ^ (19+1)=100000000000000000000:=Z;omega);omega
def IK:∀(u:Nat) (w:av),u<=18446744073709551615->az aq 194 #[.int .u64 (u:Int)] w λe a=>e=ak (ab<|T<|if u=0 then[]else Lib.decDigits u)/\ay [] w a:=by
 intro u
 induction u using Nat.strongRecOn with
 |_ u i=>
  intro w d;refine ret<|aAW ⟨λhc=>?_,λhc=>⟨λs a=>s=T (Lib.decDigits u)/\ay [] w a,λs a h=>?_,λb c=>⟨λk=>b.heap.size<=k,?_,?_⟩⟩⟩
  .have hc:u=0:=by
    have:(u:Int)=0:=WH
    omega
   rw[E hc];exact⟨I,qE _ _⟩
  .have hc:u≠0:=λe=>by subst e;simp at hc
   rw[Q hc,h.1];exact⟨I,h.2⟩
  all_goals
   have hc:u≠0:=λe=>by subst e;simp at hc
   let wu:∀m:Nat,m<=18446744073709551615->ar .u64 (m:Int)=(m:Int):=λm g=>by
    have e:ar .u64 (m:Int)=(m:Int) % 18446744073709551616:=I;rw[e];omega
   let j:ar .u64 ((u:Int).tdiv 10)=((u/10:Nat):Int):=by
    have:(u:Int).tdiv 10=((u/10:Nat):Int):=by
     rw[Int.tdiv_eq_ediv_of_nonneg (bf u)];rfl
    rw[this,wu _ X]
   let g:(UInt8.ofNat<|48+u % 10).toNat=48+u % 10:=EK<|Nat.mod_lt _ Z;let k:ar .u8 (ar .u64<|48+((u:Int).tmod 10))=((UInt8.ofNat<|48+u % 10).toNat:Int):=by
    let n:(48+((u:Int).tmod 10))=((48+u % 10:Nat):Int):=by
     rw[Int.tmod_eq_emod_of_nonneg (bf u)];omega
    rw[n,wu _ X,g];have e:ar .u8 ((48+u % 10:Nat):Int)=((48+u % 10:Nat):Int) % 256:=I;rw[e];omega
   let f:T (if u/10=0 then[]else Lib.decDigits (u/10))++T [UInt8.ofNat (48+u % 10)]=T (Lib.decDigits u):=by
    rw[atZ];by_cases t:u<10
    .rw[E X,rI t,cJ];congr 3;omega
    rw[Q X,<-vj t]
   let l:WS (if u/10=0 then[]else Lib.decDigits (u/10))<=100:=by
    split
    .simp
    have:=wo (u/10) X;omega
   rw[j,k]
  .refine(i (u/10) X b X).mono ?_;rintro _ g ⟨rfl,F⟩;let⟨y,j,k,e,k3,_⟩:=xF g [UInt8.ofNat (48+u % 10)] (n:=1) (parts:=#[(0,.int .u8 ((UInt8.ofNat<|48+u % 10).toNat:Int))]) I I Z Z;refine⟨_,I,ZX F,y,j,k,ZX k3,[UInt8.ofNat (48+u % 10)],(SliceF.bytes<|Dw e).rd,?_,f,(c.bG F).bG k3⟩;have:(ao [UInt8.ofNat (48+u % 10)].toArray).size=1:=I;rw[cE];omega
  let⟨y,g,k,j,k3,l⟩:=xF b [UInt8.ofNat (48+u % 10)] (n:=1) (parts:=#[(0,.int .u8 ((UInt8.ofNat<|48+u % 10).toNat:Int))]) I I Z Z;refine⟨y,g,k,ZX k3,[UInt8.ofNat (48+u % 10)],λp e=>?_,(SliceF.bytes<|Dw j).rd,(i (u/10) X g X).mono ?_⟩
  .rw[l]at e;injection e with e;subst e;exact bc _
  rintro _ m ⟨rfl,V⟩;refine⟨_,I,ZX V,?_,f,(c.bG k3).bG V⟩;have:(ao [UInt8.ofNat (48+u % 10)].toArray).size=1:=I;rw[cE];omega
def j4(w:av){n:Int}(h:0<=n)(b:n<=9223372036854775807):az aq 149 #[O U n] w λe c=>e=ak (ab<|T<|Lib.itoa n)/\ay [] w c:=by
 refine ret<|X8 ⟨λhc=>?_,λhc=>⟨λa=>absurd (S a) X,λ_=>(agH w h b).mono ?_⟩⟩
 .have hc:n=0:=WH
  subst hc;rw[sV (rU _),Int.toNat_zero,rI Z];exact⟨I,qE _ _⟩
 have:n≠0:=WH
 rintro _ d ⟨rfl,rfl⟩;obtain⟨u,rfl⟩:∃u:Nat,n=(u:Int):=⟨n.toNat,X⟩
 refine⟨_,I,(IK u _ X).mono ?_⟩;rintro _ e ⟨rfl,N⟩;refine⟨_,I,?_,N⟩;rw[Q X,sV h,aV]
def rJ(l m:L):L:=if (WS l)<=16384 then l++m else l
def zq(wr:C)(l:L):L:=if wr then rJ l [40]else l
def Ao(wr:C)(l:L):L:=if wr then rJ l [41]else l
def AE:Nat->Ex->L->L
 |0,_,l=>l
 |d+1,x,l=>if 16384<WS l then l else
  if x.k=1 then rJ l (Lib.itoa x.n)
  else if x.k=2 then rJ l x.s
  else if x.k=3 then rJ l ([105,110,40]++x.s++[41])
  else if x.k=4 then(match x.dP with
   |[y]=>Ao (y.k==5)<|AE d y<|zq (y.k==5)<|rJ l<|fe x.op.toNat
   |_=>l)
  else(match x.dP with
   |[y,z]=>Ao (JW<|H z<=H x)<|AE d z<|zq (JW<|H z<=H x)<|rJ (Ao (JW<|H y<H x)<|AE d y<|zq (JW<|H y<H x) l)<|[32]++fe x.op.toNat++[32]
   |_=>l)
def oZ(l t r:L):Prop:=(WS l+WS t<=16384->r=l++t)/\(16384<WS l+(WS t)->16384<WS r)
def oZ.put l m:oZ l m (rJ l m):=by
 unfold rJ;refine⟨R,λh=>?_⟩
 grind
def YL:=@oZ.put
def oZ.trans{l t r t' r'}(h:oZ l t r)(k:oZ r t' r'):oZ l (t++t') r':=by
 refine⟨λa=>?_,λa=>?_⟩
 .rw[aU]at a;rw[h.1 X]at k;rw[k.1 R,bp]
 rw[aU]at a;by_cases b:WS l+WS t<=16384
 .refine k.2 ?_;rw[h.1 b,aU];omega
 have:=h.2 X;exact k.2 X
def oZ.refl l:oZ l [] l:=⟨λ_=>N,λh=>YW⟩
def oZ.long{l t}(h:16384<WS l):oZ l t l:=⟨λa=>X,λ_=>h⟩
def oZ.opn(wr:C) l:oZ l (if wr then[40]else[]) (zq wr l):=by
 cases wr
 .exact oZ.refl _
 exact YL _ _
def oZ.clo(wr:C) l:oZ l (if wr then[41]else[]) (Ao wr l):=by
 cases wr
 .exact oZ.refl _
 exact YL _ _
def agI d x wr:oq (d+1) x wr=(if wr then[40]else[])++(oq (d+1) x aL++(if wr then[41]else[])):=by
 unfold oq;cases wr
 .simp
 rfl
def abD{d}{x}(h:di d x=aE) wr:oq d x wr=(if wr then[40]else[])++(oq d x aL++(if wr then[41]else[])):=by
 cases d with
 |zero=>cases h
 |succ d=>exact agI d x wr
def at2{d}{y}(h:di d y=aE):JW (H y<6)=(y.k==5):=by
 cases d with
 |zero=>cases h
 |succ d=>
  rw[di,aO]at h;rw[bM];simp;constructor
  .intro a;refine bK λn=>?_;rw[H,Q n]at a;omega
  intro a;let⟨_,y,z,_,o,b⟩:=sF h.1 X X X X;rw[H,E a];have:=(EN o b).2;omega
def Rf:∀d {x:Ex} l,di d x=aE->oZ l (oq d x aL) (AE d x l)
 |0,x,l,h=>VI
 |d+1,x,l,h=>by
  rw[di,aO]at h;let⟨c,a⟩:=h;let e:oq (d+1) x aL=(
  if x.k=1 then Lib.itoa x.n
  else if x.k=2 then x.s
  else if x.k=3 then[105,110,40]++x.s++[41]
  else if x.k=4 then(match x.dP with
   |[y]=>fe x.op.toNat++oq d y _
   |_=>[])
  else(match x.dP with
   |[y,z]=>oq d y _++_++oq d z _
   |_=>[])):=I
  rw[AE];by_cases b:16384<WS l
  .rw[E b];exact oZ.long b
  rw[Q b,e];let part:∀{y:Ex} wr l,di d y=aE->oZ l (oq d y wr) _:=fun{y} wr l h=>by
   rw[abD h wr];exact(oZ.opn wr l).trans<|(Rf d _ h).trans<|oZ.clo wr _
  by_cases k:x.k=1
  .rw[E k,E k];exact YL _ _
  by_cases d:x.k=2
  .rw[Q k,Q k,E d,E d];exact YL _ _
  by_cases k3:x.k=3
  .rw[Q k,Q k,Q d,Q d,E k3,E k3];exact YL _ _
  by_cases e:x.k=4
  .obtain⟨y,h,_⟩:=xK c e;rw[Q k,Q k,Q d,Q d,Q k3,Q k3,E e,E e,h];rw[h]at a;simp[lw,dW]at a;dsimp only;rw[at2 a];exact(YL _ _).trans<|part _ _ a
  let⟨_,y,z,h,_⟩:=sF c k d k3 e;rw[Q k,Q k,Q d,Q d,Q k3,Q k3,Q e,Q e,h];rw[h]at a;simp[lw,dW,aO]at a;exact((part _ _ a.1).trans<|YL _ _).trans<|part _ _ a.2
def al2{d}{x}(h:di d x=aE):∀wr l,WS l+WS (oq d x wr)<=16384->sE d x wr l=l++oq d x wr:=by
 induction d generalizing x with
 |zero=>cases h
 |succ d i=>
  intro wr l f;rw[di,aO]at h;let⟨b,a⟩:=h;let c:¬16384<WS l:=X
  rw[sE,Q c];rw[oq]at f⊢;rw[<-kT];let q:=Q6 wr (opn wr []++(
  if x.k=1 then Lib.itoa x.n
  else if x.k=2 then x.s
  else if x.k=3 then[105,110,40]++x.s++[41]
  else if x.k=4 then(match x.dP with
   |[y]=>fe x.op.toNat++oq d y (JW<|H y<6)
   |_=>[])
  else(match x.dP with
   |[y,z]=>oq d y (JW<|H y<H x)++([32]++fe x.op.toNat++[32])++oq d z (JW<|H z<=H x)
   |_=>[])))
  have A:=bC (Nat.add_le_add_left q<|WS l) f;by_cases k:x.k=1
  .rw[E k,E k,qe wr l,bp]
  by_cases e:x.k=2
  .rw[Q k,Q k,E e,E e,qe wr l,bp]
  by_cases k3:x.k=3
  .rw[Q k,Q k,Q e,Q e,E k3,E k3,qe wr l,bp]
  by_cases g:x.k=4
  .obtain⟨y,d,_⟩:=xK b g;rw[Q k,Q e,Q k3,E g,d]at A;rw[Q k,Q k,Q e,Q e,Q k3,Q k3,E g,E g,d];rw[d]at a;dsimp only at A⊢;simp[lw,dW]at a;simp at A;rw[i a _ _ (by rw[qe wr l];simp;omega),qe wr l];simp
  let⟨_,y,z,j,_⟩:=sF b k e k3 g;rw[Q k,Q e,Q k3,Q g,j]at A;rw[Q k,Q k,Q e,Q e,Q k3,Q k3,Q g,Q g,j];rw[j]at a;dsimp only at A⊢;simp[lw,dW,aO]at a;simp only[aU]at A;let m:sE d y _ _=opn wr l++oq d y (JW<|H y<H x):=i a.1 _ _ (by rw[qe wr l];simp;omega);rw[m,i a.2 _ _<|by rw[qe wr l];simp only[aU];omega,qe wr l];simp
def acL{d}{x}(h:di d x=aE)(n:mw d x):sH d x=(if 16384<WS (AE d x [])∨(iG<|AE d x []).2.1≠0 then[]else AE d x [])/\((iG<|AE d x []).2.1=0->WS (AE d x [])<=16384->AE d x []=sE d x aL []):=by
 have r:=Rf d (x:=x) [] h;unfold oZ at r;rw[ck,bS,cJ]at r;let long:∀l,16384<(WS l)->(iG l).2.1≠0:=λl a=>by
  have:cR l=([],2, -1):=by rw[cR,E a]
  unfold iG;simp_all
 by_cases t:WS (oq d x aL)<=16384
 .have e:=by
   have:=al2 h aL [] R;rwa[cJ]at this
  rw[r.1 t,sH,E h,e]
  grind
 let b:16384<WS (sE d x aL []):=by
  refine bK λn=>?_;have:=IG d aL [] h X;simp_all
 refine⟨?_,X⟩;rw[E (.inl<|r.2 X),sH,E h,E<|long _ b]
def wq l m {K} (b:WS m<=40) (a:WS l<=K) (h:16424<=K):WS (rJ l m)<=K:=by
 unfold rJ
 grind
def CW wr l {K} (h:WS l<=K) (a:16424<=K):WS (zq wr l)<=K:=by
 cases wr
 .exact h
 exact wq _ _ Z h a
def KY wr l {K} (h:WS l<=K) (a:16424<=K):WS (Ao wr l)<=K:=by
 cases wr
 .exact h
 exact wq _ _ Z h a
def Oy:∀d {x:Ex} l {K:Nat},di d x=aE->mw d x->WS l<=K->16424<=K->WS (AE d x l)<=K
 |0,x,l,K,h,_,_,_=>VI
 |d+1,x,l,K,h,⟨n,s⟩,c,a=>by
  rw[di,aO]at h;let⟨e,b⟩:=h;rw[AE];split
  .exact c
  split
  .exact wq _ _ (by have:=Lib.itoa_length_le x.n n.1 n.2;omega) c a
  split
  .rename_i hk;exact wq _ _ (by have:=ja<|lp e<|.inl hk;omega) c a
  split
  .rename_i hk;refine wq _ _ ?_ c a;have:=ja (lp e<|.inr hk)
   grind
  split
  .rename_i hk;let⟨y,h,_⟩:=xK e hk;rw[h]at b s⊢;simp only[lw,dW]at b;have:=nD x.op.toNat;exact KY _ _ (Oy d _ b (s y N) (CW _ _ (wq _ _ X c a) a) a) a
  rename_i k f k3 g;let⟨hk,y,z,h,_⟩:=sF e k f k3 g;rw[h]at b s⊢;simp only[lw,dW,aO]at b;have:=nD x.op.toNat;exact KY _ _ (Oy d _ b.2 (s z N) (CW _ _ (wq _ _ R (KY _ _ (Oy d _ b.1 (s y N) (CW _ _ c a) a) a) a) a) a) a
structure Pq (w:av) (b:Nat) (sl:Sl) (l:L):Prop where
 blk:aF w b 340 [sl.v]
 buf:Bf w (b+1) sl l
section
variable{w w0 w1 w2 w':av}{b k0:Nat}{sl sl' Xr:Sl}{l:L}
def Pq.only(h:Pq w b sl l)(O:ay [] w w'):Pq w' b sl l:=⟨O.blk h.blk N,h.buf.keep λg _ a=>O.block g a N⟩
def Pq.lb(h:Pq w b sl l):b<w.heap.size:=h.blk.lt
theorem kw.sm(M:kw b sl w0 sl' w1)(h:k0≠b)(a:sl.a≠aM ⟨k0,0,VM⟩)(c:k0<w0.heap.size)(S:kw b sl' w1 Xr w2):bX [k0] w1 w2:=S.same h (λe=>by
 rcases M.2 k0 e with e|e
 .exact a e
 omega) (by have:=M.1.size;omega)
theorem Pq.far(h:Pq w0 b sl l){k}(hk:k<b):¬(k=b∨sl.a=aM ⟨k,0,VM⟩):=by
 rintro(e|e)
 .omega
 have:=(h.buf.lt e).1;omega
theorem kw.kp(M:kw b sl w0 sl' w1)(h:Pq w0 b sl l)(d:k0≠b)(c:sl.a≠aM ⟨k0,0,VM⟩)(f:k0<w0.heap.size)(S:kw b sl' w1 Xr w2):bH (λk=>k<b∨k=k0) w1 w2:=λk hk J=>S.1.block k J λa=>by
 have:=h.lb;rcases hk with hk|rfl
 .rcases a with e|e
  .omega
  rcases M.2 k e with e|e
  .exact h.far hk (.inr e)
  omega
 rcases a with e|e
 .omega
 rcases M.2 k e with e|e
 .exact c e
 omega
theorem DI(h:Pq w b sl l) m (a:WS l+WS m<=140737488355328):az aq 311 #[ae (aM ⟨b,0,VM⟩),ab<|T m] w λe w'=>∃sl',e=ak (ai #[])/\Pq w' b sl' (rJ l m)/\kw b sl w sl' w':=by
 refine jK<|asU<|have:=h.buf.len;have:=h.lb;⟨sl,Hl h.blk 0 I,λc=>?_,λc=>⟨sl,I,?_,V9 ..⟩⟩
 .have c:WS l<=16384:=R
  let⟨s,w1,j,o,k3,p⟩:=Ep h.buf m X a;have:∀g,s.a=aM ⟨g,0,VM⟩->b<g:=λg f=>by
   rcases p with e|e
   .rw[e]at f;exact(h.buf.lt f).1
   simp_all
  refine⟨sl,Hl h.blk 0 I,s,w1,j,b,0,_,_,I,k3.blk h.blk λe=>by have:=(h.buf.lt e).1;omega,N,λw2 i C=>⟨s,I,⟨C,?_⟩,?_,?_⟩⟩
  .rw[rJ,E c];exact o.keep λg f l=>i.block g l R
  .exact(k3.mono R).trans (i.p (F:=λk=>k=b) A) X
  grind
 let c:¬(WS l)<=16384:=R
 rw[rJ,Q c];exact h
end
abbrev cA(d:Nat):=∀{F:h} {w:av} {b:Nat} {sl:Sl} {l:L} {x:Ex} {c:aI},di d x=aE->mw d x->yJ d w F x c->(∀k,F k->k<b)->Pq w b sl l->WS l<=16424->
 az aq 289 #[ae (aM ⟨b,0,VM⟩),ah c.toArray] w λe a=>∃sl',e=ak (ai #[])/\Pq a b sl' (AE d x l)/\kw b sl w sl' a
def KZ{d}(r:cA d){F}{w}{b}{sl}{l}{x}{cs} wr (i:di d x=aE) (n:mw d x) (j:yJ d w F x cs) (f:∀k,F k->k<b) (hP:Pq w b sl l) (g:WS l<=16424):
  az aq 312 #[ae (aM ⟨b,0,VM⟩),ah cs.toArray,aj wr] w λe p=>∃sl',e=ak (ai #[])/\Pq p b sl' (Ao wr<|AE d x<|zq wr l)/\kw b sl w sl' p:=by
 obtain⟨u,rfl⟩:=mP j;refine jK<|asV ?_;intro m q H C T;have:=hP.lb;let P:=hP.only T;let o:m≠b:=X
 let a:sl.a≠aM ⟨m,0,VM⟩:=λe=>UZ
 refine⟨λc=>∃s,Pq c b s (zq wr l)/\kw b sl q s c,?_,λh=>(DI P [40] R).mono ?_,λh=>⟨sl,by rw[h];exact P,V9 ..⟩⟩
 .rintro c ⟨s,y,b⟩;refine(r i n ((j9 d).keep (ix j T) λk hk J=>b.1.block k J<|P.far<|f k hk) f y<|CW _ _ g X).mono ?_;rintro _ B ⟨v,rfl,z,e⟩;refine⟨I,b.sm o a C e,λh=>(DI z [41] (by have:=(λA w=>Oy d (x:=x) A (K:=16424) i n w X) _<|CW wr l g X;grind)).mono ?_,λh=>⟨v,I,?_,(b.trans e).after T⟩⟩
  .rintro _ x ⟨l,rfl,k,d⟩;refine⟨I,(b.trans e).sm o a C d,l,I,?_,((b.trans e).trans d).after T⟩;unfold Ao
   grind
  unfold Ao;simp_all
 rintro _ w ⟨l,rfl,e,d⟩;refine⟨I,(V9 b sl q).sm o a C d,l,?_,d⟩;unfold zq
 grind
def abE{k j:Nat}{op}(hk:k<6)(a:((fR[k]?).getD [])[j]? =aM op):((sY[k]?).getD [])[j]? =aM (fe op.toNat):=by
 let h:j<4:=by
  have b:=(aZ.1 a).1;have:∀k<6,WS ((fR[k]?).getD [])<=4:=Z
  grind
 have:∀k<6,∀j<4,∀o,((fR[k]?).getD [])[j]? =aM o->((sY[k]?).getD [])[j]? =aM (fe o.toNat):=by
  intro k hk j h o b
  match k,hk,j,h with
  |0,_,0,_=>simp[fR]at b;subst b;rfl
  |0,_,j+1,_=>simp[fR]at b
  |1,_,0,_=>simp[fR]at b;subst b;rfl
  |1,_,j+1,_=>simp[fR]at b
  |2,_,0,_=>simp[fR]at b;subst b;rfl
  |2,_,1,_=>simp[fR]at b;subst b;rfl
  |2,_,j+2,_=>simp[fR]at b
  |3,_,0,_=>simp[fR]at b;subst b;rfl
  |3,_,1,_=>simp[fR]at b;subst b;rfl
  |3,_,2,_=>simp[fR]at b;subst b;rfl
  |3,_,3,_=>simp[fR]at b;subst b;rfl
  |4,_,0,_=>simp[fR]at b;subst b;rfl
  |4,_,1,_=>simp[fR]at b;subst b;rfl
  |4,_,j+2,_=>simp[fR]at b
  |5,_,0,_=>simp[fR]at b;subst b;rfl
  |5,_,1,_=>simp[fR]at b;subst b;rfl
  |5,_,2,_=>simp[fR]at b;subst b;rfl
  |5,_,j+3,_=>simp[fR]at b
 grind
def adv{k}(hk:k<6):((fR[k]?).getD []).Nodup:=by
 have:∀k<6,((fR[k]?).getD []).Nodup:=Z
 exact this k hk
def abF{op}(h:1<=op)(a:op<=13):op∈(fR[(gX op).toNat]?).getD []:=by
 have:∀n:Nat,n<14->1<=n->((n:Int))∈(fR[(gX n).toNat]?).getD []:=Z
 have:=this op.toNat X X
 grind
def ER:∀d,cA d
 |0,_,_,_,_,_,_,_,_,_,h,_,_,_=>h.elim
 |d+1,A,B,b,sl,l,x,J,G,⟨n,V⟩,⟨p,K,M⟩,F,hP,t=>by
  subst K;refine(asO ⟨b,0,VM⟩ x.k x.n (T x.s) x.op p x.a (λv D=>∃sl',v=ai #[]/\Pq D b sl' (AE (d+1) x l)/\kw b sl B sl' D) B ?_).mono (by
   simp_all)
  rw[di,aO]at G;obtain⟨h,ha⟩:=G;intro m w W C f;have Y:=hP.lb;have P:=hP.only f;have u:=ZH (j9 d) Z M f N;have a:m≠b:=X
  have c:sl.a≠aM ⟨m,0,VM⟩:=λe=>UZ
  have R:=hP.buf.len;have r:=V9 b sl w;have sub:∀{j:av} {s:Sl} {i:Nat} {y:Ex},kw b sl w s j->x.dP[i]? =aM y->∃ad g,ci p (i:Int) 6 ad/\ad.block<b/\aB j ad (qS y.k y.n y.s y.op g y.a)/\yJ d j A y (qS y.k y.n y.s y.op g y.a):=fun{j s i y} m1 hy=>by
   have e:=Zz (j9 d) Z u m1.1 λk hk _=>P.far<|F k hk;have hn:=e.len;have v:=(aZ.1 hy).1;obtain⟨ad,y',J,x,b,y,z,T,q⟩:=e.get (bf i) X;rw[aV,hy]at b;injection b with b;subst b;obtain⟨g,rfl⟩:=mP q
   grind
  refine⟨sl,Hl P.blk 0 I,λhc=>⟨sl,I,?_,WX f⟩,λhc=>?_⟩
  .rw[AE,E PZ];exact P
  have hc:¬16384<WS l:=YD
  have v:AE (d+1) x l=(if x.k=1 then rJ l (Lib.itoa x.n)
  else if x.k=2 then rJ l x.s
  else if x.k=3 then rJ l ([105,110,40]++x.s++[41])
  else if x.k=4 then(match x.dP with
   |[y]=>Ao (y.k==5)<|AE d y<|zq (y.k==5)<|rJ l<|fe x.op.toNat
   |_=>l)
  else(match x.dP with
   |[y,z]=>Ao (JW<|H z<=H x)<|AE d z<|zq (JW<|H z<=H x)<|rJ (Ao (JW<|H y<H x)<|AE d y<|zq (JW<|H y<H x) l)<|[32]++fe x.op.toNat++[32]
   |_=>l)):=by rw[AE,Q hc]
  refine⟨λhk=>?_,λk1=>⟨λhk=>?_,λk2=>⟨λhk=>⟨?_,?_,?_⟩,λk3=>⟨λhk=>?_,λk4=>⟨λ_=>?_,λT=>?_⟩⟩⟩⟩⟩
  .have hk:x.k=1:=Wq
   have i:0<=x.n:=by
    rw[iP,E hk]at h;have:=(zK h).1;split at this<;>omega
   refine(j4 w i n.2).mono ?_;rintro _ j ⟨rfl,b⟩;have k:=Lib.itoa_length_le x.n n.1 n.2;refine⟨_,I,b.same o,(DI (P.only b) (Lib.itoa x.n) X).mono ?_⟩;rintro _ y ⟨e,rfl,d,q⟩;exact⟨I,(WX b).sm a c C q,e,I,by rw[v,E hk];exact d,(q.after b).after f⟩
  .have hk:x.k=2:=Wq
   have k1:x.k≠1:=X
   have e:=ja<|lp h<|.inl hk;refine(DI P x.s X).mono ?_;rintro _ i ⟨d,rfl,b,q⟩;exact⟨I,r.sm a c C q,d,I,by rw[v,Q k1,E hk];exact b,q.after f⟩
  .have hk:x.k=3:=Wq
   have b:=ja<|lp h<|.inr hk;rw[cE];omega
  .have hk:x.k=3:=Wq
   have b:=ja<|lp h<|.inr hk;rw[WN];have:Kbe.size=3:=I;omega
  .have hk:x.k=3:=Wq
   have i:=ja<|lp h<|.inr hk;have e:WS ([105,110,40]++x.s++[41]:L)=WS x.s+4:=by
    simp_all
   rw[Cg];refine(DI P _ X).mono ?_;rintro _ k ⟨d,rfl,b,q⟩;exact⟨I,r.sm a c C q,d,I,by rw[v,Q X,Q X,E hk];exact b,q.after f⟩
  .have hk:x.k=4:=Wq
   obtain⟨y,hy,ux⟩:=xK h hk;have q:di d y=aE:=Rc
   have HN:mw d y:=V y YK;have am:=nD x.op.toNat;have z:AE (d+1) x l=Ao (y.k==5) (AE d y<|zq (y.k==5)<|rJ l<|fe x.op.toNat):=by rw[v,Q X,Q X,Q X,E hk,hy]
   refine⟨λw5=>∃k,Pq w5 b k (rJ l<|fe x.op.toNat)/\kw b sl w k w5,?_,λe=>?_,λe=>?_⟩
   .rintro w5 ⟨k,h5,m5⟩;obtain⟨p1,g,x,e2,_,_⟩:=sub (i:=0) m5 Bt;refine⟨p1,x,λw6 dr=>?_⟩;have m6:=m5.trans<|WX dr;obtain⟨aT,bY,aC,bV,b,aS⟩:=sub (i:=0) m6 (y:=y) Bt;have:=ci.OW aC x;subst this;refine⟨_,_,_,_,_,_,b,aT,x,y.k,b.dv 0 _ I,(KZ (ER d) (y.k==5) q HN aS F (h5.only dr)<|wq _ _ X t<|bc _).mono ?_⟩;rintro _ w7 ⟨bv,rfl,h7,m7⟩;exact⟨I,m6.sm a c C m7,bv,I,by rw[z];exact h7,(m6.trans m7).after f⟩
   .have e:x.op=14:=by simpa using e
    refine(DI P [45] (by rw[bI];omega)).mono ?_;rintro _ y ⟨b,rfl,i,d⟩;exact⟨I,r.sm a c C d,b,by rw[e];exact i,d⟩
   have e:x.op=15:=by
    simp_all
   refine(DI P [33] (by rw[bI];omega)).mono ?_;rintro _ y ⟨b,rfl,i,d⟩;exact⟨I,r.sm a c C d,b,by rw[e];exact i,d⟩
  .have k1:x.k≠1:=Q5
   have k2:x.k≠2:=UI
   have k3:x.k≠3:=WU
   have k4:x.k≠4:=WI
   obtain⟨hk,y,z,hy,gE,k8⟩:=sF h k1 k2 k3 k4;have Dl:di d y=aE/\di d z=aE:=Rc
   have HN:mw d y:=V y YK;have Yq:mw d z:=V z YK;have iS:=nD x.op.toNat;have lE:H x=gX x.op:=by rw[H,E hk]
   obtain⟨r0,r5⟩:=EN gE k8;have iN:AE (d+1) x l=Ao (JW<|H z<=H x) (AE d z<|zq (JW<|H z<=H x)<|rJ (Ao (JW<|H y<H x)<|AE d y<|zq (JW<|H y<H x) l)<|[32]++fe x.op.toNat++[32]):=by rw[v,Q k1,Q k2,Q k3,Q k4,hy]
   refine(BP<|show yJ (d+1) _ A x (qS x.k x.n x.s x.op p x.a)from⟨p,I,u⟩).mono ?_;rintro _ dh ⟨rfl,dy⟩;have z0:=f.size;have Ja:=dy.size;refine⟨_,I,dy.same o,(Rb dh).mono ?_⟩;rintro _ dE ⟨l2,rfl,hN,dJ⟩;have Hi:=dJ.size;have m0:=hN.len;have m6:WS fR=6:=I;obtain⟨kr,fd⟩:∃kr:Nat,H x=(kr:Int):=⟨(H x).toNat,X⟩
   have eQ:kr<6:=X
   obtain⟨p2,x1,ld,e1,e2,e3,e4,e5,l3,rfl,hM⟩:=(PY (yW oY) hN Z).get (i:=H x) X X;have gG:(fR[kr]?).getD []=x1:=by
    rw[fd,aV]at e2;rw[e2];rfl
   refine⟨l2,I,dJ.same o,p2,e1,l3,e5,λey eG=>?_⟩;have gO:kw b sl w sl ey:=WX<|(dy.bG dJ).bG eG;have g9:=P.only<|(dy.bG dJ).bG eG;have gT:=ZH oY Z hM eG N;have lT:=eG.size;obtain⟨p3,g,f1,f2,f3,f4⟩:=sub (i:=0) gO (y:=y) Bt;refine⟨λk=>k<b∨k=m,.inr I,p3,f1,.inl f2,_,_,_,_,_,_,f3,p3,f1,_,_,_,_,_,_,f3,(BP f4).mono ?_⟩;rintro _ ff ⟨rfl,dL⟩;have Yl:=dL.size;have dO:=gO.trans<|WX dL;have iD:WS (zq (JW<|H y<H x) l)<=16424:=CW _ _ t<|bc _;refine⟨_,I,dL.same o,ZX dL,(KZ (ER d) (JW<|H y<H x) Dl.1 HN (ix f4 dL) F (g9.only dL) t).mono ?_⟩;rintro _ fS ⟨me,rfl,Yv,co⟩;have cC:=dO.trans co;have Ym:=co.1.size;generalize hA:Ao (JW<|H y<H x) (AE d y<|zq (JW<|H y<H x) l)=el at*
   have ip:WS el<=16424:=by rw[<-hA];exact KY _ _ (Oy d _ Dl.1 HN iD<|bc _)<|bc _
   have g8:∀{gz:av} {Pu:Sl},kw b me fS Pu gz->aA Gz 1 gz (λk=>dh.heap.size<=k/\k<dE.heap.size) l3 x1:=fun{gz Pu} ce=>by
    have d:kw b sl ey Pu gz:=((WX dL).trans co).trans ce;refine Zz oY Z gT d.1 λk hk _ h=>?_;rcases h with e|e
    .omega
    have:=(P.buf.lt e).2;omega
   have t1:=hM.len;have t2:=hM.cap;have t3:=hM.big;refine⟨I,dO.sm a c C co,dO.kp P a c C co,λnv i gz=>∃(cc:Nat) (Pu:Sl),cc<=WS x1/\i=(cc:Int)/\nv=(WS x1)-cc/\Pq gz b Pu (if x.op∈x1.take cc then rJ el ([32]++fe x.op.toNat++[32])else el)/\kw b me fS Pu gz,WS x1,⟨0,me,bE _,I,I,by rw[cr,Q N];exact Yv,V9 ..⟩,?_⟩;rintro nv _ gz ⟨cc,Pu,hj,rfl,rfl,HO,ce⟩;have iF:x1.Nodup:=gG▸adv eQ;refine⟨λbJ=>?_,λqk ky iU=>?_⟩
   .have bJ:(cc:Int)<(l3.n:Int):=S bJ;obtain⟨p5,q,mt,g1,y,g3,g4,g5,g6⟩:=(g8 ce).get (bf cc) bJ;unfold Gz at g6;subst g6;rw[aV]at y;refine⟨λz=>∃d:Sl,Pq z b d (if x.op∈x1.take (cc+1)then rJ el ([32]++fe x.op.toNat++[32])else el)/\kw b me fS d z,?_,p5,g1,q,g5,λhe fV iK=>(ox fV).mono ?_,λhe je iL=>⟨Pu,?_,ce.trans<|WX iL⟩⟩
    .rintro z ⟨d,b,e⟩;exact⟨(WS x1)-(cc+1),X,cc+1,d,X,N0,I,b,e⟩
    .have he:q=x.op:=Ze
     subst he;rintro _ iW ⟨l6,rfl,e,jO⟩;have n0:=e.len;have n6:WS sY=6:=I;obtain⟨p6,vw,pi,u1,u2,u3,u4,nj,l7,rfl,hS⟩:=e.get (i:=H x) X X;have oR:(sY[kr]?).getD []=vw:=by
      rw[fd,aV]at u2;rw[u2];rfl
     have b:=abE (k:=kr) (j:=cc) eQ (by rw[gG];exact y);rw[oR]at b;have v0:=hS.len;obtain⟨p7,s7,pm,v1,v2,v3,v4,v5,v6⟩:=hS.get (i:=(cc:Int)) (bf cc) (by have:=(aZ.1 b).1;omega);unfold oK at v6;subst v6;rw[aV,b]at v2;injection v2 with v2;subst v2;have wW:(ao #[32]).size=1:=I;have mK:=ce.trans<|WX<|iK.bG jO;have Aw:WS ([32]++fe x.op.toNat++[32]:L)=WS (fe x.op.toNat)+2:=by
      simp_all
     have n8:x.op∉x1.take cc:=λhm=>by
      obtain⟨k,i⟩:=fk hm;rw[zF]at i;split at i
      .rename_i q;have:=(List.getElem?_inj X iF).1<|i.trans y.symm;omega
      cases i
     rw[Q n8]at HO;refine⟨l6,I,jO.same (by
      have:=cC.1.size;have:=ce.1.size;have:=iK.size;simp;omega),p6,u1,l7,nj,p7,v1,_,v5,Hn,by rw[WN];omega,?_⟩
     rw[Sm];refine(DI (HO.only<|iK.bG jO) _ X).mono ?_;rintro _ kf ⟨oF,rfl,oN,nO⟩;refine⟨I,(cC.trans mK).sm a c C nO,oF,?_,mK.trans nO⟩;rw[E (by rw[aX,y];simp)];exact oN
    have he:q≠x.op:=Ze
    have:(x.op∈x1.take (cc+1))↔(x.op∈x1.take cc):=by
     rw[aX,y,cZ];simp;intro e;exact absurd e.symm he
    simp only[this];exact HO.only iL
   have qk:¬(cc:Int)<(l3.n:Int):=aQ qk;have:cc=WS x1:=X
   subst this;have qj:x.op∈x1.take (WS x1):=by
    rw[bm (bc _)];have:=abF gE k8;simp_all
   rw[E qj]at HO;have e:=(cC.trans ce).trans<|WX iU;obtain⟨p8,sz,f1,f2,f3,f4⟩:=sub (i:=1) e (y:=z) Bt;refine⟨λk=>k<b∨k=m,.inr I,p8,f1,.inl f2,_,_,_,_,_,_,f3,p8,f1,_,_,_,_,_,_,f3,(BP f4).mono ?_⟩;rintro _ nK ⟨rfl,ql⟩;have q:=e.trans<|WX ql;have ut:=e.1.size;have Aw:WS ([32]++fe x.op.toNat++[32]:L)<=40:=by
    rw[aU,aU];simp only[aY,ck];omega
   refine⟨_,I,ql.same o,ZX ql,(KZ (ER d) (JW<|H z<=H x) Dl.2 Yq (ix f4 ql) F ((HO.only iU).only ql)<|wq _ _ Aw ip<|bc _).mono ?_⟩;rintro _ nL ⟨rx,rfl,tO,pP⟩;exact⟨I,q.sm a c C pP,q.kp P a c C pP,rx,I,by rw[iN];exact tO,(q.trans pP).after f⟩
  have k1:x.k≠1:=Q5
  have k2:x.k≠2:=UI
  have k3:x.k≠3:=WU
  have k4:x.k≠4:=WI
  have T:x.k≠5:=by simpa using T
  exact absurd (sF h k1 k2 k3 k4).1 T
def Bf.bytes{w}{B}{s}{l}(h:Bf w B s l):wE w s l:=by
 rcases h with⟨rfl,rfl⟩|⟨g,tail,a,d,b,e,c,f,i,j⟩
 .exact⟨I,λh=>absurd I h⟩
 exact⟨c,λ_=>⟨_,a,b.cells 0 _ λk v g=>by rw[bS,de (aZ.1 g).1];exact g⟩⟩
def agJ{d}{w}{F}{x}{cs}(a:yJ d w F x cs)(l:∀e,zJ e x)(n:mw d x):
  az aq 267 #[ah cs.toArray] w λe p=>e=ak (ai #[ab (T<|sH d x),aj<|GB d x])/\ay [] w p:=by
 obtain⟨A,rfl⟩:=mP a;refine ret<|asK ?_;intro u y H r b;have i:=(j9 d).inHeap a;refine(HG d l<|ix a b).mono ?_;rintro _ z ⟨rfl,f⟩;have B:=b.size;have D:=f.size;have j:=b.bG f;refine⟨_,I,f.same o,λhs=>?_,λhs m q v s g C=>?_⟩
 .have hs:di d x=aL:=Fl
  rw[GB,sH,Q eL];exact⟨I,j⟩
 have hs:di d x=aE:=Fl
 have z2:=g.size;have oa:=j.bG g;have T:Pq q m Sl.nil []:=⟨C,.inl ⟨I,I⟩⟩
 refine(ER d hs n (ix i oa) (λk hk=>PW) T Z).mono ?_;rintro _ w3 ⟨K,rfl,J,R⟩;have z3:=R.1.size;have cN:ay [] w w3:=(oa.ph R.1).only λk hk=>by
  rcases hk with rfl|e
  .omega
  cases e
 let⟨F,ff⟩:=acL hs n;have io:AE d x []≠[]:=by
  intro e;let⟨c,t,k,_⟩:=yS d aL hs n;have h:=Rf d (x:=x) [] hs;by_cases w:WS (oq d x aL)<=16384
  .have:=h.1 Te;rw[e,k]at this;simp at this
  have:=h.2 Te;rw[e]at this;simp at this
 generalize hG:AE d x []=G at*
 refine⟨I,R.same X (λe=>by cases e) X,K,J.blk,G,J.buf.bytes,(agF w3 G).mono ?_⟩;rintro _ w4 ⟨ys,rfl,hY,M⟩;have z4:=M.size;let⟨d2,V⟩:=hY.ex;obtain⟨yl,rfl,_⟩:=hY.cells;refine⟨_,_,_,_,_,_,_,_,I,M.same o,K,M.blk J.blk N,λk2 k3 w5 yq uu AH wz dV yp=>have Y:=(cN.bG M).bG dV;(spl aL d (ix a Y)<|ix V dV).mono ?_⟩;rintro _ w6 ⟨rfl,S⟩;have L:=Y.bG S;have W:((ao G.toArray).size)=WS G:=by
  have:(ao G.toArray).size=WS G:=cE G;rw[this]
 refine⟨_,I,S.same o,K,S.blk yp N,?_⟩;rw[W];by_cases P:16384<WS G∨(iG G).2.1≠0
 .have c:(JW ((WS G:Int)>16384)||((iG G).2.1 !=0))=aE:=by
   rcases P with h|h
   .rw[bO X,Bool.true_or]
   have:((iG G).2.1 !=0)=aE:=YW
   rw[this,Bool.or_true]
  rw[c,Bool.true_or];rw[E P]at F;refine⟨λ_=>?_,λh=>VI⟩;rw[GB,F];exact⟨I,L⟩
 have t:WS G<=16384:=X
 have k:=by
  refine bK λh=>P<|.inr h
 have e:=ff k t;have c:Sim x (iG G).1:=by
  have:=dm hs n (by rw[<-e];exact k);rw[<-e]at this;exact this.2
 rw[Q P]at F;rw[c.same d,k,bR X];refine⟨λh=>VI,λ_=>?_⟩;rw[GB,F,bO io];exact⟨I,L⟩
section
variable{w:av}{F:h}{x:Ex}{cs:aI}
theorem Oz(c:rE aL w F x cs)(n:Wf x)(s:Hc x<=1759218604441):
  az aq 267 #[ah cs.toArray] w λe a=>e=ak (ai #[ab (T<|zM x),aj<|wN x])/\ay [] w a:=by
 let⟨d,h⟩:=c;let h:=FX h;refine(agJ h (λe=>QG e x X)<|n d).mono ?_;rintro _ a ⟨rfl,b⟩;rw[GB,v7<|QF h];exact⟨I,b⟩
theorem W2(h:rE aL w F x cs)(n:Wf x)(s:Hc x<=1759218604441):
  az aq 265 #[ah cs.toArray] w λe a=>e=ak (aj<|wN x)/\ay [] w a:=by
 obtain⟨sl,rfl⟩:=fK h;refine ret<|asI λc g f d b=>(Oz ((jI aL).keep h λk _ J=>b.block k J N) n s).mono ?_;rintro _ i ⟨rfl,U⟩;exact⟨_,_,I,U.same o,I,b.bG U⟩
theorem K4(h:rE aL w F x cs)(n:Wf x)(s:Hc x<=1759218604441):
  az aq 245 #[ah cs.toArray] w λe a=>e=ak (ab<|T<|zM x)/\ay [] w a:=by
 obtain⟨sl,rfl⟩:=fK h;refine ret<|asF λc g f d b=>(Oz ((jI aL).keep h λk _ J=>b.block k J N) n s).mono ?_;rintro _ i ⟨rfl,U⟩;exact⟨_,_,I,U.same o,I,b.bG U⟩
theorem DP(h:rE aL w F x cs):
  az aq 266 #[ah cs.toArray] w λe a=>e=ak (aj<|uZ x)/\ay [] w a:=by
 let⟨d,h⟩:=h;let h:=FX h;cases d with
 |zero=>exact h.elim
 |succ d=>
 obtain⟨sl,rfl,s⟩:=h;refine ret<|asJ λk w f d b=>?_;rw[(jC x.s []),s.len];exact⟨I,b⟩
end
def _root_.Go.Kt.Cells.part{w}{p}{cs ds}(h:aB w p cs) n (hd:∀j v,ds[j]? =aM v->cs[n+j]? =aM v):aB w (p.add n) ds:=λj v a=>by
 rw[uz];exact h _ v<|hd j v a
def sZ{c:aI}{n i:Nat}{v u}(a:[u][i]? =aM v)(h:c[n]? =aM u):c[n+i]? =aM v:=by
 grind
def cV{k}{n}{xc}{a}{i}{v}(h:xc[i]? =aM v):(TC k n xc a)[2+i]? =aM v:=by
 rw[qm];show(xc++[Value.int U a])[i]? =aM v
 grind
abbrev Ap(w:av)(b:Nat)(n m a:Int):Prop:=aF w b 262 [O U n,O U m,O U a]
def only1{b}{w w'}(h:ay [] w w'):ay [b] w w':=h.weaken (bs':=[b]) R
def ii{b}{w w' wU}(h:ay [b] w w')(k:ay [b] w' wU):ay [b] w wU:=h.trans k R
section
variable{w:av}{F:h}{b:Nat}{n m a:Int}
def CX{l:Sl}{u:J Ac}(hc:Ap w b n m a)(p:lq aL (wI aL) 9 201 w F l u)(x:∀k,F k->k≠b)(r:∀y∈u,Il y)(D:lP u<=8388608)(s:0<=a)(t:a<=1152921504606846976):
  az aq 242 #[ae (aM ⟨b,0,VM⟩),l.v] w λe q=>e=ak (aj<|u.all jE)/\(∃d:Int,Ap q b n m d/\(a<=d/\d<=a+WS u)/\(u.all jE=aE->d=a+WS u))/\ay [b] w q:=by
 refine ret<|asC<|have:=p.1.len;have:=iz u;let kp:∀{c:av},ay [b] w c->aA (wI aL) 9 c F l u:=λf=>ZH (dU aL) Z p.1 f A;⟨λg i c=>∃(j:Nat),i=j/\g+j=WS u/\j<=WS u/\(u.take j).all jE=aE/\Ap c b n m (a+j)/\ay [b] w c,WS u,⟨0,I,X,X,I,WH,qE _ _⟩,?_⟩;rintro g _ c ⟨j,rfl,E,z,C,B,f⟩;refine⟨λo=>?_,λo=>?_⟩;rotate_left
 .grind
 let o:=S o;let lI:j<WS u:=X
 obtain⟨y,K⟩:∃y,u[j]? =aM y:=⟨_,aR lI⟩
 let wL:=be K;have VB:=ve wL;rw[LV]at VB;let at_:∀{v:av},ay [b] w v->∃ad M,ci l j 9 ad/\aB v _ [O U y.k]/\aB v _ [ab (T y.n)]/\aB v (ad.add 2) _/\rE aL v F y.x _:=fun{v} hv=>by
  let⟨ad,y,e,G,m,q3,q4,n,b⟩:=(kp hv).get (bf j) X;rw[aV,K]at m;injection m with m;subst m;obtain⟨w,rfl,a⟩:=b;obtain⟨M,rfl⟩:=fK a;exact⟨ad,M,G,n.part 0 λi v h=>sZ h I,n.part 1 λi v h=>sZ h I,n.part 2 λi v h=>cV h,a⟩
 refine⟨a+j,Hl B 2 I,b,2,_,_,I,B,N,λw1 bU vu=>?_⟩;rw[eI X X]at vu;let W:=ii f bU;let⟨ad,M,g1,g2,g3,g4,g5⟩:=at_ W;refine⟨ad,g1,_,g3,(tZ w1 y.n X).mono ?_⟩;rintro _ w2 ⟨rfl,Q⟩;let Y:=ii W<|only1 Q;let⟨vJ,am,p1,p2,p3,p4,p5⟩:=at_ Y;refine⟨_,I,vJ,p1,_,_,_,_,_,_,p4,(W2 p5 (r y wL) X).mono ?_⟩;rintro _ w3 ⟨rfl,R⟩;let o3:=ii Y<|only1 R;let⟨P,aC,G,m,q3,q4,n⟩:=at_ o3;let V:∀k,k=(if y.k=2 then uZ y.x else wN y.x)->((((JW<|y.k<1)||(JW<|y.k>3))||(!eu y.n))||(!k))=!jE y:=λk e=>by
  rw[e];unfold jE
  grind
 refine⟨_,I,λk w4=>ay [] w3 w4/\k=(if y.k=2 then uZ y.x else wN y.x),?_,P,G,_,m,λhk=>⟨P,G,_,_,_,_,_,_,q4,(DP n).mono ?_⟩,λhk=>⟨qE _ _,A⟩⟩
 .rintro k w4 ⟨F,w⟩;let v:=ii o3<|only1 F;let uw:=F.blk (R.blk (Q.blk vu N) N) N;let⟨b,aS,T,t2,t3,t4,t5⟩:=at_ v;refine⟨b,T,y.k,t2,b,λ_=>T,y.k,λ_=>t2,λe=>?_,λe=>?_⟩
  .rw[V k w,dS]at e;have:u.all jE=aL:=by
    grind
   rw[this];exact⟨I,⟨_,uw,X,λh=>VI⟩,v⟩
  rw[V k w,jo]at e;refine⟨g-1,X,j+1,N0,X,X,?_,by rw[show a+((j+1:Nat):Int)=a+j+1 by omega];exact uw,v⟩;rw[aX,K,iq,C];simp[e]
 simp_all
end
section
variable{w:av}{F:h}{b:Nat}{n m a:Int}
theorem K5(x:Mv):((((((JW (x.k>=1)&&JW (x.k<=3))&&(if x.k=1 then eu x.ev else JW (x.ev=[])))&&(if x.gd then wN x.g else uZ x.g))&&x.acts.all jE)&&((x.wt==0)||((x.k==3)&&(JW<|x.wt>0))))&&x.tg.all eu)=nq x:=by
 rw[nq,bM];simp;constructor
 .rintro⟨⟨⟨⟨⟨⟨h,a⟩,b⟩,c⟩,d⟩,e⟩,f⟩;exact⟨⟨⟨⟨⟨⟨h,a⟩,b⟩,c⟩,d⟩,f⟩,e⟩
 rintro⟨⟨⟨⟨⟨⟨h,a⟩,b⟩,c⟩,d⟩,f⟩,e⟩;exact⟨⟨⟨⟨⟨⟨h,a⟩,b⟩,c⟩,d⟩,e⟩,f⟩
def aej{x}{j}(r:Ap w b n m a)(P:Nq aL w F x j)(d:∀k,F k->k≠b)(t:Ys x)(M:He x<=8388608)(K:0<=a)(L:a<=1152921504606846976)(h2:0<=m)(h3:m<=1152921504606846976):
  az aq 243 #[ae (aM ⟨b,0,VM⟩),ah j.toArray] w λe C=>e=ak (aj<|nq x)/\(∃y p,Ap C b n y p/\(nq x=aE->y=m+1/\p=a+WS x.acts))/\ay [b] w C:=by
 obtain⟨gc,uv,tg,rfl,g,D,ob⟩:=P;obtain⟨gs,rfl⟩:=fK g;rw[He]at M;have:=r.lt;refine ret<|asD ?_;intro R l fH dC i;have:=i.size;let Y:=i.blk r N;let G:∀{u:av},ay [b] w u->rE aL u F x.g _:=λc=>(jI aL).keep g λk hk J=>c.block k J (by simpa using d k hk);let V:∀{u:av},ay [b] w u->lq aL _ 9 201 u F uv x.acts:=λc=>D.keep (dU aL) Z λk hk J=>c.block k J (by simpa using d k hk);let T:∀{u:av},ay [b] w u->aA oK 1 u F tg x.tg:=λc=>ZH dI Z ob.1 c λk hk _ hm=>d k hk X0;let sm:∀{u B:av},l.heap.size<=u.heap.size->ay [b] u B->bX [R] u B:=λhz c=>c.same o;refine⟨m,Hl Y 1 I,b,1,_,_,I,Y,N,X,λw1 q v=>?_⟩;let z:=ii (only1 i) q;have:=q.size;rw[eI X X]at v;refine⟨λf u=>f=(if x.k=1 then eu x.ev else JW (x.ev=[]))/\ay [b] w u/\l.heap.size<=u.heap.size/\Ap u b n (m+1) a,λf w2 ⟨H,A,z2,W⟩=>?_,λhk=>(tZ w1 x.ev X).mono ?_,λhk=>⟨by rw[Q Wq,(jC x.ev [])],z,X,v⟩⟩
 .refine(DP<|G A).mono ?_;rintro _ w3 ⟨rfl,e⟩;let o3:=ii A<|only1 e;have:=e.size;let wX:=e.blk W N;refine⟨_,I,sm z2<|only1 e,λk u=>k=(if x.gd then wN x.g else uZ x.g)/\ay [b] w u/\l.heap.size<=u.heap.size/\Ap u b n (m+1) a,λk w4 ⟨F,o4,z4,uw⟩=>?_,λg=>(W2 (G o3) t.1 X).mono ?_,λg=>⟨by rw[g];rfl,o3,X,wX⟩⟩
  .refine(CX uw (V o4) d t.2 X K L).mono ?_;rintro _ w5 ⟨rfl,⟨a5,yp,_,am⟩,w⟩;let n:=ii o4 w;have:=w.size;have:=(T n).len;have:=(T n).big;have:=(T n).cap;refine⟨_,I,sm z4 w,λkv aT u=>∃a:Nat,aT=a/\kv+a=WS x.tg/\a<=WS x.tg/\(x.tg.take a).all eu=aE/\ay [] w5 u,WS x.tg,⟨0,I,X,X,I,qE _ _⟩,?_⟩;rintro kv _ w6 ⟨a,rfl,me,hj,iC,b⟩;have:=b.size;let o6:=ii n<|only1 b;refine⟨λm=>?_,λm=>?_⟩
   .have m:=S m;let⟨ad,s,j,g1,g2,g3,g4,g5,g6⟩:=(T o6).get (bf a) X;rw[aV]at g2;subst g6;let Av:=be g2;have:WS s<=PB x.tg:=by
     have:=KC Av;omega
    refine⟨ad,g1,_,g5,(tZ w6 s X).mono ?_⟩;rintro _ w7 ⟨rfl,fu⟩;refine⟨_,I,sm X<|only1 fu,λhh=>?_,λhh=>⟨kv-1,X,a+1,N0,X,X,?_,b.bG fu⟩⟩
    .have hh:=VK
     have:nq x=aL:=by
      rw[<-K5,show x.tg.all eu=aL by rw[Sa];exact⟨s,Av,by rw[hh];simp⟩,jH]
     rw[this];exact⟨I,⟨_,_,(b.bG fu).blk yp N,λh=>VI⟩,ii o6<|only1 fu⟩
    rw[aX,g2,iq,iC];simp[(by simpa using hh)]
   let m:=aQ m;have s:a=WS x.tg:=X
   subst s;rw[dA]at iC;let h:((((((JW<|x.k>=1)&&(JW<|x.k<=3))&&f)&&k)&&x.acts.all jE)&&((x.wt==0)||((x.k==3)&&(JW<|x.wt>0))))=nq x:=by
    rw[<-K5,iC,H,F,dW]
   rw[h];refine⟨I,⟨_,_,b.blk yp N,λhm=>⟨I,am ?_⟩⟩,o6⟩;rw[<-K5]at hm;simp only[aO]at hm;exact hm.1.1.2
  rintro _ w ⟨rfl,a⟩;have:=a.size;exact⟨_,I,sm X<|only1 a,by rw[g];rfl,ii o3<|only1 a,X,a.blk wX N⟩
 rintro _ w ⟨rfl,x⟩;have:=x.size;exact⟨_,I,sm X<|only1 x,by rw[E Wq],ii z<|only1 x,X,x.blk v N⟩
end
def lQ(l:J Mv):Nat:=(l.map λm=>WS m.acts).sum
def gdM l m:lQ (l++[m])=lQ l+WS m.acts:=by
 unfold lQ;simp
def CY:∀l,lQ l<=Ai l
 |[]=>bE _
 |m::l=>by
  have:=iz m.acts;have:=CY l;let h:lQ (m::l)=WS m.acts+lQ l:=I;rw[Ai,h,He];omega
def nb0 l j:lQ (l.take j)<=lQ l:=by
 induction l generalizing j with
 |nil=>simp
 |cons m l i=>
  cases j with
  |zero=>exact bE _
  |succ j=>
   have:=i j;show (WS m.acts)+lQ _<=WS m.acts+lQ l;omega
def ka b:DW b<=yK b:=by
 have:=iz b.en;have:=iz b.lv;have:=CY b.mv;have:DW b=WS b.en+WS b.lv+lQ b.mv:=I;rw[yK];omega
mutual
def al3:∀x:Nd,Bd x<=ml x
 |.mk b l=>by
  have h:=ka b;have a:=K6 l;rw[Bd,ml];omega
def K6:∀l:J Nd,oy l<=jF l
 |[]=>bE _
 |x::l=>by
  have h:=al3 x;have a:=K6 l;rw[oy,jF];omega
end
def OD:∀l j {y:Nd},l[j]? =aM y->dY (l.take j)+iI y<=dY l
 |[],j,y,h=>YI
 |x::l,0,y,h=>by
  simp at h;subst h;rw[cr,dY,dY];omega
 |x::l,j+1,y,h=>by
  have:=OD l j (y:=y) P9;rw[fL,dY,dY];omega
def okT:∀l j {y:Nd},l[j]? =aM y->jF (l.take j)+ml y<=jF l
 |[],j,y,h=>YI
 |x::l,0,y,h=>by
  simp at h;subst h;rw[cr,jF,jF];omega
 |x::l,j+1,y,h=>by
  have:=okT l j (y:=y) P9;rw[fL,jF,jF];omega
def nNb{d}{y}:∀{l:J Nd},y∈l->jZ d y=aL->iR d l=aL
 |x::l,h,y=>by
  rw[iR];rcases ba.1 h with rfl|h
  .grind
  rw[nNb h y,jH]
def um(d:Nat)(n:Int)(x:Nd):C:=jZ d x&&JW (n+iI x<=64)
def cw(b:Nat)(w:av)(n e a:Int)(r:C)(x:Nd):=∃d m c,Ap w b d m c/\(r=aE->d=n+iI x/\m=e+DX x/\c=a+Bd x)
def IP{F:h}{b:Nat}(f:∀k,F k->k≠b):∀(D:Nat) {w:av} {n m a:Int} {d:Nat} {x:Nd} {c:aI},Ap w b n m a->pq aL D w F x c->Ew x->ml x<=8388608->0<=n->n<=64->d<=100->0<=m->m+ml x<=1152921504606846976->0<=a->a+ml x<=1152921504606846976->
  az aq 193 #[ae (aM ⟨b,0,VM⟩),ah c.toArray,O U (d:Int)] w λe g=>e=ak (aj<|um d n x)/\cw b g n m a (um d n x) x/\ay [b] w g
 |0,_,_,_,_,_,_,_,_,a,_,_,_,_,_,_,_,_,_=>a.elim
 |D+1,w,n,m,a,d,.mk e i,c,hc,⟨en,lv,mv,kids,jc,wK,K⟩,hn,W,qj,am,aC,vw,zr,M,Q=>by
  dsimp only[Nd.kids,Nd.b]at jc wK K;subst jc;let hk:=K.1;rw[Ew]at hn;let⟨V,RW⟩:=hn;let⟨wW,ff,R⟩:=V;let⟨he,hl,pE⟩:=wK;rw[ml]at W zr Q;have:=W;let wY:DW e=WS e.en+WS e.lv+lQ e.mv:=I;have:=ka e;unfold yK at W;have:=hc.lt;refine ret<|ase ?_;let eN:iI (.mk e i)=dY i+1:=by rw[iI]
  let k9:jZ d (.mk e i)=(JW (d<12)&&qH e (WS i)&&iR (d+1) i):=by rw[jZ]
  intro k0 G K dC H;have:=H.size;let P:=H.blk hc N;let sm:∀{u u':av},G.heap.size<=u.heap.size->ay [b] u u'->bX [k0] u u':=λhz r=>r.same o;let bad:um d n (.mk e i)=aL->∀{u:av} {n' m' a':Int},ay [b] w u->Ap u b n' m' a'->Value.bool aL=aj (um d n<|.mk e i)/\cw b u n m a (um d n<|.mk e i) (.mk e i)/\ay [b] w u:=λt {_ _ _ _} r hB=>⟨by rw[t],⟨_,_,_,hB,λl=>by rw[t]at l;cases l⟩,r⟩
  let kA:∀{u:av} {s:Sl} {v:J Ac},lq aL (wI aL) 9 201 w F s v->ay [b] w u->lq aL (wI aL) 9 201 u F s v:=λl r=>l.keep (dU aL) Z λk hk bJ=>r.block k bJ (by simpa using f k hk);let AF:∀v:L,((T v).toList==((ao #[]).toList))=JW (v=[]):=λv=>jC v [];rw[AF,AF];refine⟨n,Hl P 0 I,b,0,_,_,I,P,N,X,λY bU q=>?_⟩;let o1:ay [b] w Y:=ii (only1 H) bU;have:=bU.size;rw[eI X X]at q;have q:Ap Y b (n+1) m a:=q;refine(tZ Y e.nm X).mono ?_;rintro _ w2 ⟨rfl,z⟩;let B:=ii o1<|only1 z;have:=z.size;let C:Ap w2 b (n+1) m a:=z.blk q N;refine⟨_,I,sm X<|only1 z,n+1,λ_=>Hl C 0 I,λj=>bad ?_ B C,λj=>?_⟩
  .unfold um;rw[k9,eN];simp only[cj,dS,bB]at j;rcases j with(l|l)|l
   .unfold qH;rw[l];simp
   .rw[bR (p:=d<12) X];rfl
   rw[bR (p:=n+((dY i+1:Nat):Int)<=64) X,jH]
  simp only[eH,jo]at j;have:n+1<=64:=by have:=aQ j.2;omega
  let s:d<12:=by have:=aQ j.1.2;omega
  let k8:eu e.nm=aE:=j.1.1;let HK:=hk.len;let T:=he.1.len;let gz:=hl.1.len;let Dk:=pE.1.len;let k:jZ d (.mk e i)=(qH e (WS i)&&iR (d+1) i):=by rw[k9,bO s,cd]
  refine⟨λhh=>(tZ w2 e.dft X).mono ?_,λhh=>?_⟩
  .rintro _ w3 ⟨rfl,b⟩;let m:fh e.k=aE:=by
    unfold fh;rw[cj,dw,dw]at hh;exact bO hh
   let p:(((((eu e.dft&&JW (e.ini=[]))&&((en.n:Int)==0))&&((lv.n:Int)==0))&&((mv.n:Int)==0))&&((kids.n:Int)==0))=um d n (.mk e i):=by
    unfold um;rw[k,eN];unfold qH;rw[k8,m,E I,cd,T,gz,Dk,HK,bM];simp only[aO,bB,dw];constructor
    .rintro⟨⟨⟨⟨⟨d,n⟩,x⟩,y⟩,h5⟩,h6⟩;have a:i=[]:=A
     subst a;refine⟨⟨A,by rw[iR]⟩,by rw[dY];omega⟩
    rintro⟨⟨⟨d,n,x,y,h5,h6⟩,_⟩,_⟩;exact A
   refine⟨_,I,sm X<|only1 b,by rw[p],⟨_,_,_,b.blk C N,λt=>?_⟩,ii B<|only1 b⟩;rw[<-p]at t;simp only[aO,dw]at t;let⟨⟨⟨⟨_,x⟩,y⟩,h5⟩,h6⟩:=t;have a:i=[]:=A
   subst a;let F:e.mv=[]:=A
   rw[eN,DX,Bd,dY,pu,oy,wY,F];refine⟨X,N,?_⟩;have:lQ []=0:=I;rw[this];omega
  let bV:fh e.k=aL:=by
   unfold fh;rw[eH,LP,LP]at hh;exact A
  let nv:qH e (WS i)=(JW ((e.k=1∨e.k=2)/\e.dft=[])&&(JW (e.ini=[])||eu e.ini)&&e.en.all jE&&e.lv.all jE&&e.mv.all nq):=by
   unfold qH;rw[k8,bV,cd];rfl
  refine⟨λb2 u=>b2=(JW (e.ini=[])||eu e.ini)/\ay [b] w u/\G.heap.size<=u.heap.size/\Ap u b (n+1) m a,λb2 w4 ⟨bv,o4,z4,uw⟩=>?_,λhi=>(tZ w2 e.ini X).mono ?_,λhi=>⟨?_,B,X,C⟩⟩;rotate_left
  .rintro _ b ⟨rfl,d⟩;have a:=d.size;refine⟨_,I,sm X<|only1 d,?_,ii B<|only1 d,X,d.blk C N⟩;have:JW (e.ini=[])=aL:=JX
   rw[this,Mb]
  .have:JW (e.ini=[])=aE:=JX
   rw[this,Bool.true_or]
  have:=iz e.en;have:=iz e.lv;refine(CX uw (kA he o4) f wW X M X).mono ?_;rintro _ w5 ⟨rfl,⟨a5,yp,dO,bY⟩,dV⟩;let o5:=ii o4 dV;have:=dV.size;refine⟨_,I,sm z4 dV,(CX yp (kA hl o5) f ff X X X).mono ?_⟩;rintro _ w6 ⟨rfl,⟨a6,Vx,el,cc⟩,dr⟩;let o6:=ii o5 dr;have:=dr.size;let vJ:((((((e.k !=1)&&(e.k !=2))||(!(JW<|e.dft=[])))||(!b2))||(!e.en.all jE))||(!e.lv.all jE))=!(JW ((e.k=1∨e.k=2)/\e.dft=[])&&(JW (e.ini=[])||eu e.ini)&&e.en.all jE&&e.lv.all jE):=by
   rw[bv,Bool.not_and,Bool.not_and,Bool.not_and];congr 3;rw[bM];simp only[cj,aO,bne_iff_ne,dS,dk,ne_eq];by_cases a:e.k=1<;>by_cases b:e.k=2<;>by_cases d:e.dft=[]<;>simp[a,b,d]
  let yq:∀{u:av},ay [b] w u->aA (Nq aL) 13 u F mv e.mv:=λr=>ZH (nX aL) Z pE.1 r A;let lG:∀{u:av},ay [b] w u->aA (pq aL D) 9 u F kids i:=λr=>ZH (cq aL D) Z hk r A;have:=nE e.mv;refine⟨_,I,sm X dr,λpf=>bad ?_ o6 Vx,λpf=>?_⟩
  .rw[vJ,dS]at pf;unfold um;rw[k,nv,pf];rfl
  rw[vJ,jo]at pf;let gE:qH e (WS i)=e.mv.all nq:=by rw[nv,pf,cd]
  simp only[aO]at pf;let bY:=bY pf.1.2;let cc:=cc pf.2;have:=CY e.mv;have:=qK i;have:WS e.mv<=yK e:=by unfold yK;omega
  refine⟨λkv eQ u=>∃F:Nat,eQ=(F:Int)/\kv+F=WS e.mv/\F<=WS e.mv/\(e.mv.take F).all nq=aE/\ay [b] w u/\G.heap.size<=u.heap.size/\Ap u b (n+1) (m+F) (a6+lQ (e.mv.take F)),WS e.mv,⟨0,I,X,X,I,o6,X,by simpa[lQ]using Vx⟩,?_⟩;rintro kv _ w7 ⟨F,rfl,me,hj,iC,o7,z7,fd⟩;have:=nb0 e.mv F;refine⟨λod=>?_,λod=>?_⟩
  .have od:=S od;let⟨ad,y,c,g1,b,g3,g4,g5,n⟩:=(yq o7).get (bf F) X;rw[aV]at b;let d:=be b;let VB:=oP d;let G4:=n;obtain⟨gc,uv,tg,rfl,hg,AI,ob⟩:=n;obtain⟨gs,rfl⟩:=fK hg;let p:e.mv.take (F+1)=e.mv.take F++[y]:=by rw[aX,b];rfl
   refine⟨ad,g1,_,_,_,_,_,_,_,_,_,_,_,_,_,g5,(aej fd G4 f (R y d) X X X X X).mono ?_⟩;rintro _ w8 ⟨rfl,⟨m8,fH,xp,h8⟩,a⟩;let x:=ii o7 a;have:=a.size;refine⟨_,I,sm z7 a,λhh=>bad ?_ x xp,λhh=>?_⟩
   .have hh:nq y=aL:=VK
    unfold um;rw[k,gE,show e.mv.all nq=aL by rw[Sa];exact⟨y,d,by rw[hh];simp⟩];rfl
   have hh:nq y=aE:=VK
   obtain⟨rfl,rfl⟩:=h8 hh;refine⟨kv-1,X,F+1,N0,X,X,by rw[p,iq,iC];simp[hh],x,X,?_⟩;rw[p,gdM,show m+((F+1:Nat):Int)=m+F+1 by omega,show a6+((lQ (e.mv.take F)+WS y.acts:Nat):Int)=a6+lQ (e.mv.take F)+(WS y.acts) by omega];exact xp
  let od:=aQ od;have oc:F=WS e.mv:=X
  subst oc;rw[dA]at iC fd;let g9:jZ d (.mk e i)=iR (d+1) i:=by rw[k,gE,iC,cd]
  let xn:a6+(lQ e.mv:Int)=a+(DW e:Int):=X
  rw[xn]at fd;refine⟨λkv eQ u=>∃F:Nat,eQ=(F:Int)/\kv+F=WS i/\F<=WS i/\iR (d+1) (i.take F)=aE/\n+1+dY (i.take F)<=64/\ay [b] w u/\G.heap.size<=u.heap.size/\Ap u b (n+1+dY (i.take F)) (m+WS e.mv+pu (i.take F)) (a+DW e+oy (i.take F)),WS i,⟨0,I,X,X,by rw[cr,iR],by rw[cr,dY];omega,o7,z7,by rw[cr,dY,pu,oy];simpa using fd⟩,?_⟩;rintro rM _ w9 ⟨eQ,rfl,Ea,hi,gT,h9,o9,z9,g8⟩;refine⟨λgO=>?_,λgO=>?_⟩
  .have gO:=S gO;let⟨ad,y,c,g1,g2,g3,g4,g5,g6⟩:=(lG o9).get (bf eQ) X;rw[aV]at g2;let wL:=be g2;have:=qJ wL;let G4:=g6;obtain⟨b,rfl⟩:∃b,D=b+1:=by
    cases D with
    |zero=>exact g6.elim
    |succ b=>exact⟨b,I⟩
   obtain⟨wA,wC,rT,ji,rfl,_⟩:=g6;let nj:i.take (eQ+1)=i.take eQ++[y]:=by rw[aX,g2];rfl
   have:=OD i eQ g2;have:=okT i eQ g2;have:=Bp<|i.take eQ;have:=K6<|i.take eQ;refine⟨ad,g1,_,_,_,_,wA,wC,rT,ji,_,g5,?_⟩;rw[eI (x:=(d:Int)+1) X X,show(d:Int)+1=((d+1:Nat):Int) by omega];refine(IP f (b+1) (d:=d+1) g8 G4 (Bn RW wL) X X h9 X X X X X).mono ?_;rintro _ dh ⟨rfl,⟨iN,iF,iD,pz,t⟩,dy⟩;let ip:=ii o9 dy;have:=dy.size;refine⟨_,I,sm z9 dy,λAB=>bad ?_ ip pz,λAB=>?_⟩
   .have AB:um (d+1) (n+1+dY (i.take eQ)) y=aL:=by simpa using AB
    unfold um at AB⊢;rw[oB]at AB;rcases AB with l|l
    .rw[g9,nNb wL l,dT]
    have l:=aQ l;rw[eN,bR (p:=n+((dY i+1:Nat):Int)<=64) X,jH]
   have AB:um (d+1) (n+1+dY (i.take eQ)) y=aE:=by simpa using AB
   obtain⟨rfl,rfl,rfl⟩:=t AB;unfold um at AB;rw[aO]at AB;have:=S AB.2;refine⟨rM-1,X,eQ+1,N0,X,X,by rw[nj,Aj,gT,AB.1];rfl,by rw[nj,vf];omega,ip,X,?_⟩;rw[nj,vf,yL,CD,show n+1+((dY (i.take eQ)+iI y:Nat):Int)=n+1+dY (i.take eQ)+iI y by omega,show m+WS e.mv+((pu (i.take eQ)+DX y:Nat):Int)=m+WS e.mv+pu (i.take eQ)+DX y by omega,show a+DW e+((oy (i.take eQ)+Bd y:Nat):Int)=a+DW e+oy (i.take eQ)+Bd y by omega];exact pz
  let gO:=aQ gO;have a:eQ=WS i:=X
  subst a;rw[dA]at h9 gT g8;have b:um d n (.mk e i)=aE:=by
   unfold um;rw[g9,gT,eN,cd];exact bO X
  rw[b];refine⟨I,⟨_,_,_,g8,λ_=>?_⟩,o9⟩;rw[eN,DX,Bd];omega
def at3{w}{F:h}{D}{c}{t:Sl}{s:aI}(hx:ChR aL (D+1) w F c t s)(E:Jd c)(hs:oQ c.vars+ml c.root<=8388608):
  az aq 147 #[ah (t.v::s).toArray] w λe K=>e=ak (aj<|rH c)/\ay [] w K:=by
 let⟨W,lv,mv,kids,G,_⟩:=hx.root;subst G;refine ret<|arN ?_;rw[K2];intro H B Y R T;have:=T.size;let l:=hx.vars.1.len;have:WS c.vars<=oQ c.vars:=by
  have:∀b,WS b<=oQ b:=λb=>by induction b with
   |nil=>exact bE _
   |cons a b c=>rw[oQ,aY];omega
  exact this _
 let V:∀{u:av},ay [] w u->aA Wd 3 u F t c.vars:=λg=>ZH fI Z hx.vars.1 g N;let sm:∀{u A:av},B.heap.size<=u.heap.size->ay [] u A->bX [H] u A:=λhz g=>g.same o;refine⟨λq i u=>∃j:Nat,i=j/\q+j=WS c.vars/\j<=WS c.vars/\(c.vars.take j).all Ak=aE/\ay [] w u/\B.heap.size<=u.heap.size,WS c.vars,⟨0,I,X,bE _,I,T,bc _⟩,?_⟩;rintro q _ L ⟨j,rfl,me,hj,C,r,P⟩;refine⟨λf=>?_,λf J w3 rr yu z M=>?_⟩
 .have f:=S f;let⟨ad,y,s,n,b,g3,g4,x,D⟩:=(V r).get (bf j) X;rw[aV]at b;let w:=be b;have:=xV w;subst D;refine⟨ad,n,_,x.part 0 λi v k=>sZ k I,(tZ L y.n X).mono ?_⟩;rintro _ w2 ⟨rfl,d⟩;let m:=r.bG d;have:=d.size;let⟨zT,y',HE,p1,p,p3,p4,p5,p6⟩:=(V m).get (bf j) X;rw[aV,b]at p;injection p with p;subst p;subst p6;let ev:((!eu y.n)||(y.v==(-9223372036854775808)))=!Ak y:=by
   unfold Ak;rw[bM];simp
  refine⟨_,I,sm P d,zT,λ_=>p1,_,λ_=>p5.part 1 λi v k=>sZ k I,λa=>⟨?_,m⟩,λa=>⟨q-1,X,j+1,N0,X,X,?_,m,X⟩⟩
  .rw[ev,dS]at a;have:c.vars.all Ak=aL:=by
    rw[Sa];exact⟨y,w,by rw[a];simp⟩
   let e:rH c=aL:=by
    unfold rH;rw[show(c.vars.all λv=>eu v.n&&decide _)=c.vars.all Ak from rfl,this];rfl
   rw[e]
  rw[ev,jo]at a;rw[aX,b,iq,C];simp[a]
 let f:=aQ f;have oc:j=WS c.vars:=X
 subst oc;rw[dA]at C;let o3:=r.bG z;let z3:=z.size;let am:=(cq aL _).keep ((cq aL _).inHeap hx.root) λk _ bJ=>o3.block k bJ N;refine(IP (F:=λk=>F k/\k<w.heap.size) (b:=J) (λk hk=>PW) _ (n:=0) (m:=0) (a:=0) (d:=0) M am E.2 X X X X X X X X).mono ?_;rintro _ w4 ⟨rfl,⟨n',m',a',uw,hr⟩,dB⟩;have D:ay [] w w4:=(o3.ph<|dB.p (F:=λk=>w.heap.size<=k) λx hx=>Tz).only λk hk=>hk;refine⟨_,I,dB.same o,n',m',a',uw,?_,D⟩;congr 1;unfold rH;rw[show(c.vars.all λv=>eu v.n&&decide _)=c.vars.all Ak from rfl,C,cd,l];cases y:um 0 0 c.root
 .have:(jZ 0 c.root&&JW (iI c.root<=64))=aL:=by
   rw[um]at y;rw[<-y];congr 1;rw[bM,bB,bB];omega
  rw[oB]at this;simp only[dT];rcases this with a|a
  .rw[a,dT]
  rw[bR (p:=c.root.b.k=1/\WS c.vars<=16/\iI c.root<=64/\DX c.root<=200/\Bd c.root<=400) (λe=>(aQ a) e.2.2.1),jH]
 let⟨b,e,a⟩:=hr y;rw[um,aO,bB]at y;rw[y.1,cd,cd,e,a,bM];simp;omega
end Con
