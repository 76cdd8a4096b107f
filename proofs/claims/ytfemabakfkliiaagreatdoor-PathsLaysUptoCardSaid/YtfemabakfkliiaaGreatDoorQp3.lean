import Derived.Test.YtfemabakfkliiaaGreatDoorQp2
set_option linter.defProp false
set_option linter.unusedSectionVars false
set_option linter.unusedVariables false
set_option maxRecDepth 100000
set_option maxHeartbeats 40000000
set_option linter.unusedSimpArgs false
open Bool renaming true->aE,false->aL
open Option renaming some->aM,none->aaa
open List renaming length->I
namespace Go.Proofs.YtfemabakfkliiaaGreatDoor.Vc
open Go.Value renaming int->O,string->X,pointer->ae,agg->ah,tuple->ai,bool->aj
open Go.IntKind renaming i64->U,wrap->ar
open Go.Ending renaming returned->ak
open _root_.ByteArray renaming mk->ao
open _root_.Go.Proofs.Tryz renaming prog->aq
open Go.Instr renaming buildSlice->au
open Go renaming World->av,Value->aw,Calls->az
open Go.Kt renaming Only->Q,SliceF->aA,Cells->aB,OnlyP->aD,Blk->aF
open Go Go.RowKit Go.Kt Go.Kt.V
abbrev Cr(f:FuncId)(a:Array aw)(w:av)(R:aG):Prop:=az aq f a w λe b=>∃v,e=ak v/\R v b
def sv1:aw->SV
 | .int k n=>SV.int k n
 | aj b=>SV.bt b
 | X s=>SV.str s
 | ae (aM a)=>SV.ad a
 | .slice a n c=>SV.sl ⟨a,n,c⟩
 | .map m=>SV.map m
 | _=>SV.un
def sv0:aw->SV
 | ah c=>SV.agg (Hs (c.toList.map sv1))
 | v=>sv1 v
section
variable {f:FuncId} {args:List SV} {R:aG} {w:av} {vs:Array aw} {vc:Prop}
def fB{an:Ann}(h:vc)(v:vs=(cZ β0 args).toArray:=by kernel_rfl)(e:vc=Vfn aq f an args R w:=by kernel_rfl):Cr f vs w R:=ale Tryz.checked.mixed v e h
def fC(a:Ann)(h:vc)(v:vs=(cZ β0 (vs.toList.map sv0)).toArray:=by kernel_rfl)(e:vc=Vfn aq f a (vs.toList.map sv0) R w:=by kernel_rfl):Cr f vs w R:=fB h v e
def dr:Lf:=Lf.int IntKind.i64
def je(h:vc)(v:vs=(cZ β0 (vs.toList.map sv0)).toArray:=by kernel_rfl)(e:vc=Vfn aq f .o (vs.toList.map sv0) R w:=by kernel_rfl):Cr f vs w R:=fB h v e
end
variable {R:aG}{w:av}
def asD(c:Sl)(j:Int)(l m n:aK)(o p q r:Sl)(s:Int)(am:nw w λk w0=>kF [k] 11 #[] w0 λb0 w1=>DL [k] 12 #[cP c j l m n o p q r s] w1 λl0 i0 s0 s1 s2 l1 l2 l3 l4 i1 w2=>nw w2 λa w3=>oq [k,a] 13 #[cP c j l m n o p q r s] w3 λG M P v i2 i3 w4=>vW w4 λd k3 w5=>oq [k,a,d,k3] 13 #[cP c j l m n o p q r s] w5 λl9 F rY uE i4 i5 w6=>vW w6 λe f w7=>oq [k,a,d,k3,e,f] 7 #[cP c j l m n o p q r s] w7 λY H K L i6 i7 w8=>vW w8 λg h w9=>kF [k,a,d,k3,e,f,g,h] 14 #[cP c j l m n o p q r s,cP l0 i0 s0 s1 s2 l1 l2 l3 l4 i1,aj aE] w9 λb1 dz=>kF [k,a,d,k3,e,f,g,h] 15 #[qg G M P v,qg Y H K L] dz λb2 dF=>mO 0 dF λJ0 k9 u Z=>N (decide (u<(v.n:Int))) (mO 0 Z λJ1 pY x t=>∃p0,cR v u 7 p0/\kl t (p0.add 5) λTW=>N (decide (x<(TW.n:Int))) (∃S,cR v u 7 S/\kl t (S.add 5) λMT=>∃T,cR MT x 1 T/\sT T t 1 λA xX z0 JA=>k≠A/\a≠A/\d≠A/\k3≠A/\e≠A/\f≠A/\g≠A/\h≠A/\sS t A xX z0 JA [O U (-7)] λgw=>nx pY λMU=>J1 MU (ar U (x+1)) gw) (∃V,cR v u 7 V/\sT V t 7 λb YQ z1 z=>k≠b/\a≠b/\d≠b/\k3≠b/\e≠b/\f≠b/\g≠b/\h≠b/\sS t b YQ z1 z [O U (-7),O U 0,O U 0,X (ao #[]),O U 0,Sl.nil.v,O U 0] λij=>nx k9 λMV=>J0 MV (ar U (u+1)) ij)) (mO 0 Z λJ2 B i y=>N (decide (i<(G.n:Int))) (∃W,cR G i 5 W/\sT W y 5 λJ C z2 D=>k≠J/\a≠J/\d≠J/\k3≠J/\e≠J/\f≠J/\g≠J/\h≠J/\sS y J C z2 D [O U (-7),X (ao #[]),O U 0,O U 0,O U 0] λiX=>nx B λE=>J2 E (ar U (i+1)) iX) (kF [k,a,d,k3,e,f,g,h] 16 #[M.v,P.v] y λb3 ku=>kF [k,a,d,k3,e,f,g,h] 15 #[qg l9 F rY uE,qg Y H K L] ku λb4 lZ=>R (aj (((((b0&&b1)&&b2)&&b3)&&b4)&&((i2==i6)&&(i3==i7)))) lZ))):Cr 4 #[cP c j l m n o p q r s] w R:=
 fC (.d 8 (.s (.s .o (.j [1,3,4,5,6,7,8,9,10,11,12] [.s 13 dr] (.s .o (.s (.s (.s .o (.j [1,3,4,5,6,7,8,9,10,11,12,13] [.s 14 dr] .o .o)) .o) .o)) .o)) (.s (.s .o (.j [1,3,4,5,6,7,8,9,10,11,12] [.s 15 dr] .o .o)) .o))) am
def alk(c:Sl)(y:Int)(z A B:aK)(C D E F:Sl)(G:Int)(bV:nw3 w λb k a w0=>NF [b,k,a] 20 #[cP c y z A B C D E F G] w0 λi0 i1 w1=>N (i0 !=0) (nw w1 λk3 w2=>b≠k->b≠a->b≠k3->k≠a->k≠k3->a≠k3->∃M:aJ,M k3/\uU M k/\uU M a/\∀w3,Q [a,k] w2 w3->R (ai #[qg Sl.nil Sl.nil Sl.nil Sl.nil,xR i0 i1]) w3) (nw w1 λe w4=>xP [b,k,a,e] 21 #[cP c y z A B C D E F G] w4 λu w5=>xP [b,k,a,e] 22 #[Sl.nil.v,ck y z A B C D E F G] w5 λm w6=>nw w6 λd w7=>∃P:Nat->Int->Sl->Sl->Sl->Sl->av->Prop,∃k6:Nat,P k6 0 u Sl.nil Sl.nil Sl.nil w7/\∀k7 i,∀l2 l3 l4 l5:Sl,∀q,P k7 i l2 l3 l4 l5 q->N (decide (i<(m.n:Int))) (oO (λi3 L=>oO (λi4 dz=>lW 33 (O U i3) dz λl6 V=>cu [b,k,a,e,d] dz V/\uB 33 l3 l6 V λl7 eZ=>cu [b,k,a,e,d] V eZ/\∀W,Q [d] eZ W->lW 33 (O U i4) W λl8 Y=>cu [b,k,a,e,d] W Y/\uB 33 l4 l8 Y λl9 ij=>cu [b,k,a,e,d] Y ij/\∀jw,Q [d] ij jw->∃S:Nat->Int->Sl->Sl->Sl->Sl->av->Prop,∃k8:Nat,S k8 0 l2 l7 l9 l5 jw/\∀k9 t,∀n rY uE yX:Sl,∀o,S k9 t n rY uE yX o->∃p0,cR m i 9 p0/\kl o (p0.add 6) λCt=>N (decide (t<(Ct.n:Int))) (∃p1,cR m i 9 p1/\kl o (p1.add 6) λFK=>gF FK t o λi6 s0 i7 b0 i8 i9 s1 bY RN cc TW MT ce=>vW o λr p ku=>∃T:Nat->Int->Int->Int->Int->aK->Int->Sl->Int->av->Prop,∃AJ:Nat,T AJ 0 i t i6 s0 i7 Sl.nil 0 ku/\∀xX f g h j s2 l,∀H:Sl,∀s lZ,T xX f g h j s2 l H s lZ->N (decide (f<(MT.n:Int))) (o0 lZ λkg=>∃J:aJ,J p/\FA MT f kg λs3=>qe [b,k,a,e,d,r,p] 23 #[u.v,X s3] kg λZ K=>bT J kg K/\lW 33 (O U Z) K λRO v=>cu [b,k,a,e,d,r,p] K v/\bT J K v/\uB 33 H RO v λUI th=>cu [b,k,a,e,d,r,p] v th/\bT J v th/\∀uF,Q [p] th uF->nx xX λJA=>T JA (ar U (f+1)) g h j s2 l UI s uF) (qe [b,k,a,e,d,r,p] 24 #[u.v,O U i,H.v] lZ λam qL=>∀sC,Q [p] qL sC->lW 44 (zJ g h j s2 l H am) sC λaT vP=>cu [b,k,a,e,d,r,p] sC vP/\uB 44 yX aT vP λbv zh=>cu [b,k,a,e,d,r,p] vP zh/\∀EZ,Q [d] zh EZ->nx k9 λMU=>S MU (ar U (t+1)) n rY uE bv EZ)) (nx k7 λAU=>P AU (ar U (i+1)) n rY uE yX o)) λJ3=>∃p4,cR m i 9 p4/\Cg L (p4.add 3) λs4=>N (!(s4.toList==((ao #[]).toList))) (∃p5,cR m i 9 p5/\Cg L (p5.add 3) λs5=>qe [b,k,a,e,d] 23 #[u.v,X s5] L λaC TX=>J3 aC TX) (J3 (-1) L)) λJ2=>∃p6,cR m i 9 p6/\Cg q (p6.add 2) λs6=>N (!(s6.toList==((ao #[]).toList))) (∃p7,cR m i 9 p7/\Cg q (p7.add 2) λs7=>qe [b,k,a,e,d] 23 #[u.v,X s7] q λaS YR=>J2 aS YR) (J2 (-1) q)) (∀x,Q [a,k] q x->R (ai #[qg l2 l3 l4 l5,xR 0 0]) x))):Cr 7 #[cP c y z A B C D E F G] w R:=
 fC (.d 6 (.s (.s .o (.j [1,2,3,4,5,6,7] [.s 8 dr,.b 7 [.sl,.sl,.sl,.sl]] (.s .o (.s (.s .o (.j [1,2,3,4,5,6,7,8] [.s 9 dr] .o (.s .o (.j [1,2,3,4,5,6,7,8,9] [.s 10 dr] .o (.d 3 (.j [1,2,3,4,5,6,7,8] [.s 11 dr,.b 7 [.sl,.sl,.sl,.sl]] (.s .o (.s (.d 2 (.s (.s .o (.j [1,2,3,4,5,6,7,8,11,12,13] [.s 14 dr,.b 13 [dr,dr,dr,.str,dr,.sl,dr]] .o .o)) .o)) .o)) .o)))))) .o)) .o)) .o)) bV
def asE(s:xQ 17 #[X (ao #[99,104,97,114,116,32,99,32,123,32,105,110,105,116,105,97,108,32,97,59,32,115,116,97,116,101,32,97,32,123,32,111,110,32,120,32,45,62,32,100,59,32,111,110,32,121,32,45,62,32,104,59,32,125,32,112,97,114,97,108,108,101,108,32,112,32,123,32,115,116,97,116,101,32,113,32,123,32,105,110,105,116,105,97,108,32,98,59,32,115,116,97,116,101,32,98,32,123,32,125,32,115,116,97,116,101,32,100,32,123,32,125,32,125,32,115,116,97,116,101,32,114,32,123,32,125,32,104,105,115,116,111,114,121,32,104,32,45,62,32,113,59,32,125,32,125])] w λv t B C D x y z A u i J E=>vW E λk c F=>oq [k,c] 13 #[cP v t B C D x y z A u] F λj m n l a K G=>vW G λd k3 H=>xP [k,c,d,k3] 31 #[qg j m n l] H λf o=>lW 33 (O U 0) o λe q=>cu [k,c,d,k3] o q/\xP [k,c,d,k3] 32 #[qg j m n l,Sl.nil.v,e.v] q λr g=>∃p0,((((i==0)&&(a==0))&&((l.n:Int)==2))=aE->cR l 0 7 p0)/\∃b,((((i==0)&&(a==0))&&((l.n:Int)==2))=aE->aB g (p0.add 6) [O U b])/\∃p,(((((((i==0)&&(a==0))&&((l.n:Int)==2))&&(b==0))&&((f.n:Int)==2))&&((r.n:Int)==4))=aE->cR r 2 1 p)/\∃h,(((((((i==0)&&(a==0))&&((l.n:Int)==2))&&(b==0))&&((f.n:Int)==2))&&((r.n:Int)==4))=aE->aB g p [O U h])/\R (aj (((((((i==0)&&(a==0))&&((l.n:Int)==2))&&(b==0))&&((f.n:Int)==2))&&((r.n:Int)==4))&&(h==5))) g):Cr 11 #[] w R:=
 je s
def asF(c:Sl)(j:Int)(l m n:aK)(o p q r:Sl)(s:Int)(am:vW w λa k w0=>∃i:Sl->Int->aK->aK->aK->Sl->Sl->Sl->Sl->Int->av->Prop,(∀M:Sl,∀H W Y Z,∀N P S T:Sl,∀K w1,i M H W Y Z N P S T K w1->R (cP M H W Y Z N P S T K) w1)/\o0 w0 λd=>∃J:aJ,J a/\J a/\(NE (au 22 0 #[]) d λV b=>cu [a,k] d b/\bT J d b/\(uB 22 V c b λl6 g=>cu [a,k] b g/\bT J b g/\lW 25 (ck j l m n o p q r s) g λl7 u=>cu [a,k] g u/\bT J g u/\xP [a,k] 33 #[l7.v] u λl8 F=>bT J u F/\fm l8 0 F λi2 s3 s4 s5 l9 y rY uE i3=>∀w7,Q [k] F w7->i l6 i2 s3 s4 s5 l9 y rY uE i3 w7)/\lW 25 (ck j l m n o p q r s) b λyX h=>cu [a,k] b h/\bT J b h/\uB 22 V c h λCt v=>cu [a,k] h v/\bT J h v/\xP [a,k] 33 #[yX.v] v λFK z=>bT J v z/\fm FK 0 z λi4 s6 s7 s8 RN TW MT OH i5=>∀G,Q [k] z G->i Ct i4 s6 s7 s8 RN TW MT OH i5 G)/\lW 25 (ck j l m n o p q r s) d λRO e=>cu [a,k] d e/\bT J d e/\NE (au 22 0 #[]) e λUI f=>cu [a,k] e f/\bT J e f/\uB 22 UI c f λA t=>cu [a,k] f t/\bT J f t/\xP [a,k] 33 #[RO.v] t λB x=>bT J t x/\fm B 0 x λi6 s9 E1 Cu C D E Z9 i7=>∀L,Q [k] x L->i A i6 s9 E1 Cu C D E Z9 i7 L):Cr 12 #[cP c j l m n o p q r s] w R:=
 fC (.s .o (.s (.j [1,2] [.b 2 [.sl,dr,.str,.str,.str,.sl,.sl,.sl,.sl,dr]] .o .o) .o)) am
def asG(c:Sl)(e:Int)(f g h:aK)(i j l m:Sl)(n:Int)(A:nw3 w λd k a D=>NF [d,k,a] 34 #[cP c e f g h i j l m n] D λr B x=>N (r !=0) (nw x λk3 E=>d≠k->d≠a->d≠k3->k≠a->k≠k3->a≠k3->∃J:aJ,J k3/\uU J k/\uU J a/\∀y,Q [a,k] E y->R (ai #[qg Sl.nil Sl.nil Sl.nil Sl.nil,xR r B]) y) (vW x λo b F=>NG [d,k,a,o,b] 35 #[cP c e f g h i j l m n] F λC H G=>∀p,Q [b] G p->aF p b 93 [C.v,Sl.nil.v,Sl.nil.v,Sl.nil.v]->d≠b->k≠b->a≠b->o≠b->gj [d,k,a,o] 36 #[pB b,ck e f g h i j l m n] p λz=>agf z b 93 λs t u v=>∀q,Q [a,k] z q->aF q b 93 [s.v,t.v,u.v,v.v]->R (ai #[qg s t u v,xR 0 0]) q)):Cr 13 #[cP c e f g h i j l m n] w R:=
 je A
def alm(c:Sl)(A:Int)(m C F:aK)(n J D q:Sl)(f:Int)(g:Sl)(P:Int)(p o K:aK)(Y h j k:Sl)(l:Int)(at_:Bool)(G:N ((c.n:Int) !=(g.n:Int)) (vW w λk0 k1 S=>R (aj aL) S) (vW w λH k3 T=>mO 0 T λB L i b=>N (decide (i<(c.n:Int))) (∃p0,cR c i 3 p0/\Cg b (p0.add 0) λs=>∃u,cR g i 3 u/\Cg b (u.add 0) λa=>∃v,((!(s.toList==a.toList))=aL->cR c i 3 v)/\∃d,((!(s.toList==a.toList))=aL->aB b (v.add 1) [O U d])/\∃x,((!(s.toList==a.toList))=aL->cR g i 3 x)/\∃e,((!(s.toList==a.toList))=aL->aB b (x.add 1) [O U e])/\∃y,(((!(s.toList==a.toList))||(d !=e))=aL->at_=aE->cR c i 3 y)/\∃r,(((!(s.toList==a.toList))||(d !=e))=aL->at_=aE->aB b (y.add 2) [O U r])/\∃z,(((!(s.toList==a.toList))||(d !=e))=aL->at_=aE->cR g i 3 z)/\∃t,(((!(s.toList==a.toList))||(d !=e))=aL->at_=aE->aB b (z.add 2) [O U t])/\N (((!(s.toList==a.toList))||(d !=e))||(at_&&(r !=t))) (o0 b λV=>R (aj aL) V) (o0 b λW=>nx L λM=>B M (ar U (i+1)) W)) (kF [H,k3] 37 #[ck A m C F n J D q f,ck P p o K Y h j k l,aj at_] b λE Z=>R (aj E) Z))):Cr 14 #[cP c A m C F n J D q f,cP g P p o K Y h j k l,aj at_] w R:=
 fC (.d 2 (.s (.s .o (.j [2,3,4] [.s 7 dr] .o .o)) .o)) G
def aln(f x F C g P e b:Sl)(r:vW w λk a T=>kF [k,a] 38 #[f.v,g.v] T λm V=>kF [k,a] 39 #[x.v,P.v] V λn W=>kF [k,a] 39 #[F.v,e.v] W λo h=>N ((((!m)||(!n))||(!o))||((C.n:Int) !=(b.n:Int))) (R (aj aL) h) (mO 0 h λJ k3 i d=>N (decide (i<(C.n:Int))) (Gf C i d λs t u M v K y=>∃p,cR b i 7 p/\nw d λE j=>SG j p λz A B S D L c=>nw j λG Y=>kF [k,a,E,G] 39 #[K.v,L.v] Y λq l=>N (((((((!q)||(s !=z))||(t !=A))||(u !=B))||(!(M.toList==S.toList)))||(v !=D))||(y !=c)) (R (aj aL) l) (nx k3 λH=>J H (ar U (i+1)) l)) (R (aj aE) d))):Cr 15 #[qg f x F C,qg g P e b] w R:=
 fC (.d 5 (.s (.s .o (.j [2,3] [.s 8 dr] .o .o)) .o)) r
def asH(a b:Sl)(n:∃k:Nat,((a.c:Int)=(k:Int)/\k<=a.c)/\mO 0 w λJ q i g=>N (decide (i<((a.cut 0 k a.c 1).n:Int))) (∃p0,cR (a.cut 0 k a.c 1) i 1 p0/\sT p0 g 1 λk3 r B s=>sS g k3 r B s [O U (-7)] λx=>nx q λt=>J t (ar U (i+1)) x) (∃c:Nat,((b.c:Int)=(c:Int)/\c<=b.c)/\mO 0 g λl u e h=>N (decide (e<((b.cut 0 c b.c 1).n:Int))) (∃p,cR (b.cut 0 c b.c 1) e 1 p/\sT p h 1 λv Y C A=>sS h v Y C A [O U 9] λy=>nx u λz=>l z (ar U (e+1)) y) (mO 0 h λm M f d=>N (decide (f<((a.cut 0 k a.c 1).n:Int))) (Gc (a.cut 0 k a.c 1) f d λo=>N (o !=(-7)) (R (aj aL) d) (nx M λj=>m j (ar U (f+1)) d)) (R (aj aE) d)))):Cr 16 #[a.v,b.v] w R:=
 fC (.d 2 (.s (.s .o (.j [1,5] [.s 6 dr] .o .o)) (.s .o (.s (.s .o (.j [5,7] [.s 8 dr] .o .o)) (.s (.s .o (.j [5] [.s 9 dr] .o .o)) .o))))) n
def asI(s:aK)(z:vW w λk a D=>qf [k,a] 40 #[X s] D λl e p q r j m n o f g A E=>vW E λb k3 t=>jn2 (λi h u=>N (i !=0) (o0 u λF=>k≠a->k≠b->k≠k3->a≠b->a≠k3->b≠k3->∃J:aJ,J k3/\uU J k/\uU J a/\∀v,Q [a,k] F v->R (ai #[cP Sl.nil 0 (ao #[]) (ao #[]) (ao #[]) Sl.nil Sl.nil Sl.nil Sl.nil 0,xR i h]) v) (o0 u λG=>k≠a->k≠b->k≠k3->a≠b->a≠k3->b≠k3->∃c:aJ,c k3/\uU c k/\uU c a/\∀x,Q [a,k] G x->R (ai #[cP l e p q r j m n o f,xR i h]) x)) λd=>N (g==0) (NF [k,a,b,k3] 34 #[cP l e p q r j m n o f] t λB C H=>∀y,Q [k3] H y->d B C y) (d g A t)):Cr 17 #[X s] w R:=
 fC (.d 2 (.j [2,3,4,5] [.b 5 [dr,dr]] .o .o)) z
def alo(c:Sl)(A:Int)(B C D:aK)(E F G H:Sl)(J:Int)(pP:vW w λh a w0=>NG [h,a] 45 #[cP c A B C D E F G H J] w0 λl0 i0 w1=>N (i0 !=0) (∀w2,Q [a] w1 w2->R (xR i0 (-1)) w2) (nw w1 λk w3=>xP [h,a,k] 46 #[ck A B C D E F G H J,Sl.nil.v] w3 λl1 w4=>∃J0:Nat->Int->Sl->Int->aK->aK->aK->Sl->Sl->Sl->Sl->Int->Sl->Int->Int->av->Prop,∃k3:Nat,J0 k3 0 c A B C D E F G H J l0 0 0 w4/\∀k4 y,∀l2:Sl,∀i2 s0 s1 s2,∀l3 l4 l5 l6:Sl,∀i3,∀l7:Sl,∀i4 i5 w5,J0 k4 y l2 i2 s0 s1 s2 l3 l4 l5 l6 i3 l7 i4 i5 w5->N (decide (y<(l0.n:Int))) (∃J1:Sl->Int->aK->aK->aK->Sl->Sl->Sl->Sl->Int->Sl->Int->Int->av->Prop,(∀l8:Sl,∀i6 s3 s4 s5,∀l9 V rY uE:Sl,∀i7,∀yX:Sl,∀i8 i9 w6,J1 l8 i6 s3 s4 s5 l9 V rY uE i7 yX i8 i9 w6->nx k4 λk5=>J0 k5 (ar U (y+1)) l8 i6 s3 s4 s5 l9 V rY uE i7 yX i8 i9 w6)/\∃p0,cR l0 y 5 p0/\Cg w5 (p0.add 1) λs6=>qe [h,a,k] 23 #[l0.v,X s6] w5 λbv w7=>N (bv !=y) (Gc l1 y w7 λbV=>(aF w7 k 104 [l2.v,O U i2,X s0,X s1,X s2,l3.v,l4.v,l5.v,l6.v,O U i3,l7.v,O U i4,O U i5]->h≠k->a≠k->gj [h,a] 47 #[pB k,O U 24,O U bV] w7 λw8=>qC w8 k 104 λCt bY s7 s8 s9 FK RN TW MT cc OH ce co=>J1 Ct bY s7 s8 s9 FK RN TW MT cc OH ce co w8)) (J1 l2 i2 s0 s1 s2 l3 l4 l5 l6 i3 l7 i4 i5 w7)) (∃J2:Nat->Int->Sl->Int->aK->aK->aK->Sl->Sl->Sl->Sl->Int->Sl->Int->Int->av->Prop,∃k6:Nat,J2 k6 0 l2 i2 s0 s1 s2 l3 l4 l5 l6 i3 l7 i4 i5 w5/\∀k7 i,∀RO:Sl,∀p E1 Cu G6,∀UI t u v:Sl,∀q,∀x:Sl,∀r s w9,J2 k7 i RO p E1 Cu G6 UI t u v q x r s w9->N (decide (i<(c.n:Int))) (∃J3:Nat->Int->Sl->Int->aK->aK->aK->Sl->Sl->Sl->Sl->Int->Sl->Int->Int->av->Prop,∃k8:Nat,J3 k8 0 RO p E1 Cu G6 UI t u v q x r s w9/\∀k9 b,∀l:Sl,∀d JE JF FM,∀Z9 j m n:Sl,∀e,∀o:Sl,∀f g z,J3 k9 b l d JE JF FM Z9 j m n e o f g z->N (decide (b<i)) (∃J4:Sl->Int->aK->aK->aK->Sl->Sl->Sl->Sl->Int->Sl->Int->Int->av->Prop,(∀W:Sl,∀K RR aT YU,∀Y Z am aC:Sl,∀L,∀aS:Sl,∀M P dF,J4 W K RR aT YU Y Z am aC L aS M P dF->nx k9 λre=>J3 re (ar U (b+1)) W K RR aT YU Y Z am aC L aS M P dF)/\∃p2,cR c b 3 p2/\Cg z (p2.add 0) λnO=>∃p3,cR c i 3 p3/\Cg z (p3.add 0) λUL=>N (nO.toList==UL.toList) (∃p4,cR c i 3 p4/\o0 z λeZ=>iB eZ (p4.add 2) λcC=>(aF eZ k 104 [l.v,O U d,X JE,X JF,X FM,Z9.v,j.v,m.v,n.v,O U e,o.v,O U f,O U g]->h≠k->a≠k->gj [h,a] 47 #[pB k,O U 24,O U cC] eZ λfl=>qC fl k 104 λgO dO n8 oF oN gT g8 ip iD el iF eQ fd=>J4 gO dO n8 oF oN gT g8 ip iD el iF eQ fd fl)) (o0 z λgw=>J4 l d JE JF FM Z9 j m n e o f g gw)) (nx k7 λpY=>J2 pY (ar U (i+1)) l d JE JF FM Z9 j m n e o f g z)) (aF w9 k 104 [RO.v,O U p,X E1,X Cu,X G6,UI.v,t.v,u.v,v.v,O U q,x.v,O U r,O U s]->h≠k->a≠k->qe [h,a] 48 #[pB k,ck A B C D E F G H J,O U 0] w9 λrx ij=>qC ij k 104 λiN gE oR pi pm iS lE lT mt gG mK S T=>∀jw,Q [a] ij jw->aF jw k 104 [iN.v,O U gE,X oR,X pi,X pm,iS.v,lE.v,lT.v,mt.v,O U gG,mK.v,O U S,O U T]->R (xR S T) jw)))):Cr 20 #[cP c A B C D E F G H J] w R:=
 fC (.d 5 (.s (.s .o (.j [1,2,3,5,6,22] [.s 7 dr,.b 22 [.sl,dr,.str,.str,.str,.sl,.sl,.sl,.sl,dr,.sl,dr,dr]] (.s .o (.j [1,2,3,5,6,7,22] [.b 22 [.sl,dr,.str,.str,.str,.sl,.sl,.sl,.sl,dr,.sl,dr,dr]] .o .o)) .o)) (.s (.s .o (.j [1,2,5,22] [.s 8 dr,.b 22 [.sl,dr,.str,.str,.str,.sl,.sl,.sl,.sl,dr,.sl,dr,dr]] (.s .o (.s (.s .o (.j [1,2,5,8,22] [.s 9 dr,.b 22 [.sl,dr,.str,.str,.str,.sl,.sl,.sl,.sl,dr,.sl,dr,dr]] (.s .o (.j [1,2,5,8,9,22] [.b 22 [.sl,dr,.str,.str,.str,.sl,.sl,.sl,.sl,dr,.sl,dr,dr]] .o .o)) .o)) .o)) .o)) .o))) pP
def alp(c:Sl)(a:Int)(b d e:aK)(f g h i:Sl)(j:Int)(k:nw w λl n=>xP [l] 49 #[Sl.nil.v,ck a b d e f g h i j,O U (-1),O U 0] n λm o=>R m.v o):Cr 21 #[cP c a b d e f g h i j] w R:=
 je k
def alq(l:Sl)(n:Int)(x u L:aK)(Z y v o:Sl)(H:Int)(h:nw w λk d=>lW 25 (ck n x u L Z y v o H) d λm a=>cu [k] d a/\uB 25 l m a λp e=>cu [k] a e/\Ju p 0 e λJ j c i b=>N (decide (i<(o.n:Int))) (fm o i b λf A B C q r s t g=>xP [k] 22 #[c.v,ck f A B C q r s t g] b λz D=>nx j λk3=>J k3 z (ar U (i+1)) D) (R c.v b)):Cr 22 #[l.v,ck n x u L Z y v o H] w R:=
 fC (.d 2 (.s (.s .o (.j [3] [.s 0 .sl,.s 5 dr] .o .o)) .o)) h
def alr(l:Sl)(name:aK)(h:mO 0 w λJ k i a=>N (decide (i<(l.n:Int))) (∃p0,cR l i 5 p0/\Cg a (p0.add 1) λs=>N (s.toList==name.toList) (R (O U i) a) (nx k λb=>J b (ar U (i+1)) a)) (R (O U (-1)) a)):Cr 23 #[l.v,X name] w R:=
 fC (.s .o (.s (.s .o (.j [0,1] [.s 5 dr] .o .o)) .o)) h
def als(l:Sl)(source:Int)(targets:Sl)(r:Ju (-1) 0 w λn v i a j=>N ((decide (a<(l.n:Int)))&&(decide ((targets.n:Int)>0))) (oO (λs z=>nx v λx=>n x s (ar U (a+1)) z) λe=>cB 50 #[l.v,O U source,O U a] j λo m=>∃p0,cR l a 5 p0/\iB m (p0.add 0) λt=>∃J:Nat->Bool->Int->av->Prop,∃k3:Nat,J k3 ((t==1)&&(o||(a==0))) 0 m/\∀k b d c,J k b d c->N (decide (d<(targets.n:Int))) (Gc targets d c λu=>cB 50 #[l.v,O U u,O U a] c λq A=>nx k λy=>J y (b&&q) (ar U (d+1)) A) (∃p,(b=aE->(decide (i<0))=aL->cR l a 5 p)/\∃f,(b=aE->(decide (i<0))=aL->aB c (p.add 3) [O U f])/\∃h,(b=aE->(decide (i<0))=aL->cR l i 5 h)/\∃g,(b=aE->(decide (i<0))=aL->aB c (h.add 3) [O U g])/\N (b&&((decide (i<0))||(decide (f>g)))) (o0 c λB=>e a B) (o0 c λC=>e i C))) (R (O U i) j)):Cr 24 #[l.v,O U source,targets.v] w R:=
 fC (.d 2 (.s (.s .o (.j [0,1,2] [.s 7 dr,.s 8 dr] (.s .o (.j [0,1,2,8] [.s 7 dr] (.d 2 (.s (.s .o (.j [0,1,2,7,8] [.s 10 .bool,.s 11 dr] .o .o)) .o)) .o)) .o)) .o)) r
def alt(kind:Int)(h:R (aj ((kind==3)||(kind==4))) w):Cr 29 #[O U kind] w R:=
 je h
def asJ(p b c d:Sl)(h:nw w λk g=>rQs [k] 53 #[qg p b c d,Sl.nil.v] g λq a=>AO (λi=>xP [k] 55 #[ae q] i λl j=>R l.v j) λJ=>N (decide ((p.n:Int)>0)) (∃p0,q=(aM p0)/\SH a (p0.add 5) λm=>lW 33 (O U 0) a λf e=>cu [k] a e/\gj [k] 54 #[.map m,f.v] e λn=>J n) (J a)):Cr 31 #[qg p b c d] w R:=
 fC (.d 2 (.j [1,3] [] .o .o)) h
def asK(p g h j a b:Sl)(s:nw w λk A=>rQs [k] 53 #[qg p g h j,a.v] A λq B=>mO 0 B λo v i d=>N (decide (i<(b.n:Int))) (AO (λC=>nx v λk3=>o k3 (ar U (i+1)) C) λf=>Gc b i d λt=>DM [k] 56 #[ae q,O U t] d λF G H M K x u r l=>N r (nw l λc m=>∃J:aJ,J c/\rMs [k,c] 58 #[ae q,x.v] m λz e=>bT J m e/\gj [k,c] 57 #[ae q,.map z,O U u] e λn=>bT J e n/\f n) (nw l λL D=>f D)) (xP [k] 55 #[ae q] d λy E=>R y.v E)):Cr 32 #[qg p g h j,a.v,b.v] w R:=
 fC (.d 2 (.s (.s .o (.j [3,7,15,16] [.s 17 dr] (.d 2 (.j [3,7,15,16,17] [] .o .o)) .o)) .o)) s
def alu(l:Sl)(m:∃J:Nat->Sl->Int->av->Prop,∃p:Nat,J p Sl.nil 0 w/\∀f,∀b:Sl,∀i a,J f b i a->N (decide (i<(l.n:Int))) (fm l i a λn A B C q r s t o=>nw a λk D=>xP [k] 59 #[q.v] D λu E=>∀g,Q [k] E g->xP [k] 59 #[r.v] g λv G=>∀h,Q [k] G h->xP [k] 60 #[s.v] h λx H=>∀j,Q [k] H j->xP [k] 33 #[t.v] j λy K=>∀e,Q [k] K e->lW 25 (ck n A B C u v x y o) e λz d=>cu [k] e d/\uB 25 b z d λc F=>cu [k] d F/\nx f λk3=>J k3 c (ar U (i+1)) F) (R b.v a)):Cr 33 #[l.v] w R:=
 fC (.d 2 (.s (.s .o (.j [0] [.s 3 .sl,.s 4 dr] .o .o)) .o)) m
def asL(c:Sl)(f:Int)(g h j:aK)(l m n o:Sl)(p:Int)(P:vW w λb a w0=>NG [b,a] 35 #[cP c f g h j l m n o p] w0 λl0 A x=>N (A !=0) (∀G,Q [a] x G->R (xR A (-1)) G) (∃D r,((Instr.makeMap 128 aaa).run aq x)=(.ok (.map D) r)/\cu [b,a] x r/\∃E y,((Instr.makeMap 128 aaa).run aq r)=(.ok (.map E) y)/\cu [b,a] r y/\nw y λk H=>aF H k 130 [.map D,Sl.nil.v,.map E,O U 0,O U 0]->gj [b,a] 61 #[pB k,ck f g h j l m n o p] H λK=>HO K k 130 λm2 l1 m3 S V=>∃J:Nat->Int->Option Nat->Sl->Option Nat->Int->Int->av->Prop,∃k3:Nat,J k3 0 m2 l1 m3 S V K/\∀B e v,∀C:Sl,∀q t u s,J B e v C q t u s->N (decide (e<(c.n:Int))) (adL c e s λs0 i6 W=>nw s λk5 L=>aF L k 130 [.map v,C.v,.map q,O U t,O U u]->gj [b,a,k5] 62 #[pB k,.map q,X s0,O U e,O U W] L λM=>HO M k 130 λm6 l3 m7 Y i9=>nx B λk6=>J k6 (ar U (e+1)) m6 l3 m7 Y i9 M) (∀z,Q [k] s z->aF z k 130 [.map v,l0.v,.map q,O U t,O U u]->b≠k->a≠k->qe [b,a] 63 #[pB k,ck f g h j l m n o p,O U 0] z λT F=>HO F k 130 λm8 l4 m9 i d=>∀Z,Q [a] F Z->aF Z k 130 [.map m8,l4.v,.map m9,O U i,O U d]->R (xR i d) Z))):Cr 34 #[cP c f g h j l m n o p] w R:=
 fC (.d 5 (.s (.s .o (.j [1,2,3,5,20,26,27] [.s 28 dr,.b 20 [.map,.sl,.map,dr,dr]] .o .o)) .o)) P
def asM(c:Sl)(a:Int)(b d e:aK)(f g h i:Sl)(j:Int)(R:aG)(w:av)(q:nw w λm s=>qe [m] 64 #[cP c a b d e f g h i j] s λl n=>N (l !=0) (R (ai #[Sl.nil.v,O U l]) n) (nw n λk o=>aF o k 135 [Sl.nil.v]->gj [m] 65 #[pB k,ck a b d e f g h i j,O U (-1),O U 0] o λp=>VS p k 135 λr=>R (ai #[r.v,O U 0]) p)):Cr 35 #[cP c a b d e f g h i j] w R:=
 je q
def asN(l:Addr)(n_:Int)(xK uG xL:aK)(xZ yd V W:Sl)(uH:Int)(am:nw w λk w0=>kl w0 ((l.add 0).add 1) λl0=>o0 w0 λY=>∃J:aJ,J (((l.add 0).add 1).block)/\kl Y ((l.add 0).add 1) λl1=>qe [k] 66 #[pA l,X uG] Y λi0 y=>bT J Y y/\lW 33 (O U i0) y λl2 o=>cu [k] y o/\bT J y o/\uB 33 l1 l2 o λl3 z=>cu [k] o z/\bT J o z/\sT ((l.add 0).add 1) z 1 λk1 k2 z0 k3=>k≠k1/\sS z k1 k2 z0 k3 [l3.v] λw5=>o0 w5 λZ=>∃q:aJ,q (((l.add 0).add 2).block)/\kl Z ((l.add 0).add 2) λl4=>qe [k] 66 #[pA l,X xL] Z λi1 B=>bT q Z B/\lW 33 (O U i1) B λl5 p=>cu [k] B p/\bT q B p/\uB 33 l4 l5 p λl6 C=>cu [k] p C/\bT q p C/\sT ((l.add 0).add 2) C 1 λk4 k5 z1 k6=>k≠k4/\sS C k4 k5 z1 k6 [l6.v] λdz=>mO 0 dz λJ2 k8 u F=>N (decide (u<(V.n:Int))) (gF V u F λi3 s0 i4 b0 i5 i6 s1 i7 l7 i8 l8 l9 i9=>vW F λg r eZ=>∃D:Nat->Int->Int->Int->Int->aK->Int->Sl->Int->av->Prop,∃pY:Nat,D pY 0 (l0.n:Int) u i3 s0 i4 Sl.nil 0 eZ/\∀AJ i b c d S e,∀a:Sl,∀h t,D AJ i b c d S e a h t->N (decide (i<(l9.n:Int))) (FA l9 i t λs3=>o0 t λgw=>∃s:aJ,s r/\qe [k,g,r] 66 #[pA l,X s3] gw λG v=>bT s gw v/\lW 33 (O U G) v λrY j=>cu [k,g,r] v j/\bT s v j/\uB 33 a rY j λuE M=>cu [k,g,r] j M/\bT s j M/\∀ku,Q [r] M ku->nx AJ λxX=>D xX (ar U (i+1)) b c d S e uE h ku) (qe [k,g,r] 67 #[pA l,O U (l0.n:Int),a.v] t λH lZ=>∀m,Q [r] lZ m->∃E:aJ,E (((l.add 0).add 3).block)/\kl m ((l.add 0).add 3) λyX=>lW 44 (zJ b c d S e a H) m λCt n=>cu [k,g,r] m n/\bT E m n/\uB 44 yX Ct n λFK x=>cu [k,g,r] n x/\bT E n x/\sT ((l.add 0).add 3) x 1 λA MU z2 AU=>k≠A/\g≠A/\r≠A/\sS x A MU z2 AU [FK.v] λth=>nx k8 λYQ=>J2 YQ (ar U (u+1)) th)) (mO 0 F λJ6 MV f T=>N (decide (f<(W.n:Int))) (fm W f T λK s4 s5 s6 RN TW MT OH L=>nw T λMW qL=>gj [k,MW] 36 #[pA l,ck K s4 s5 s6 RN TW MT OH L] qL λsC=>nx MV λP=>J6 P (ar U (f+1)) sC) (R (ai #[]) T))):Cr 36 #[pA l,ck n_ xK uG xL xZ yd V W uH] w R:=
 fC (.d 4 (.s (.s .o (.j [0,3,4,49,50] [.s 51 dr] (.d 2 (.s (.d 2 (.s (.s .o (.j [0,3,4,6,7,49,50,51,66,67] [.s 68 dr,.b 7 [dr,dr,dr,.str,dr,.sl,dr]] .o .o)) .o)) .o)) .o)) (.s .o (.j [0,3,6,7,101,102] [.s 103 dr] .o .o)))) am
def alv(z:Int)(T t C:aK)(F u J D:Sl)(y A:Int)(P x v:aK)(K Y b a:Sl)(c:Int)(at_:Bool)(am:vW w λk e E=>N (((((((z !=A)||(!(T.toList==P.toList)))||(!(t.toList==x.toList)))||(!(C.toList==v.toList)))||(at_&&(y !=c)))||((J.n:Int) !=(b.n:Int)))||((D.n:Int) !=(a.n:Int))) (R (aj aL) E) (kF [k,e] 68 #[F.v,K.v,aj at_] E λZ w1=>kF [k,e] 68 #[u.v,Y.v,aj at_] w1 λb1 G=>N ((!Z)||(!b1)) (R (aj aL) G) (mO 0 G λV k3 d H=>N (decide (d<(J.n:Int))) (∃p0,cR J d 13 p0/\o0 H λr=>Cf r p0 λi1 s0 i2 b2 i3 i4 s1 i5 l0 i6 l1 l2 i7=>gF b d r λi8 s2 i9 b3 f g s3 h l3 j l4 l5 l=>kF [k,e] 69 #[fi i1 s0 i2 b2 i3 i4 s1 i5 l0 i6 l1 l2 i7,fi i8 s2 i9 b3 f g s3 h l3 j l4 l5 l,aj at_] r λb4 L=>N (!b4) (R (aj aL) L) (nx k3 λk4=>V k4 (ar U (d+1)) L)) (mO 0 H λW k6 i M=>N (decide (i<(D.n:Int))) (∃B,cR D i 9 B/\o0 M λs=>KB s B λm s4 s5 s6 l6 l7 l8 l9 n=>fm a i s λo s7 s8 s9 q rY uE yX p=>kF [k,e] 37 #[ck m s4 s5 s6 l6 l7 l8 l9 n,ck o s7 s8 s9 q rY uE yX p,aj at_] s λb5 S=>N (!b5) (R (aj aL) S) (nx k6 λk7=>W k7 (ar U (i+1)) S)) (R (aj aE) M))))):Cr 37 #[ck z T t C F u J D y,ck A P x v K Y b a c,aj at_] w R:=
 fC (.d 5 (.s (.s .o (.j [2,3,4] [.s 9 dr] .o .o)) (.s (.s .o (.j [2,3,4] [.s 11 dr] .o .o)) .o))) am
def alw(b c:Sl)(h:N ((b.n:Int) !=(c.n:Int)) (R (aj aL) w) (mO 0 w λJ n i a=>N (decide (i<(b.n:Int))) (CI b i a λd s e f g=>CI c i a λj p k l m=>N (!((d==j)&&((s==p)&&((e==k)&&((f==l)&&(g==m)))))) (o0 a λq=>R (aj aL) q) (o0 a λr=>nx n λo=>J o (ar U (i+1)) r)) (R (aj aE) a))):Cr 38 #[b.v,c.v] w R:=
 fC (.d 2 (.s (.s .o (.j [0,1] [.s 5 dr] .o .o)) .o)) h
def asO(b c:Sl)(h:N ((b.n:Int) !=(c.n:Int)) (R (aj aL) w) (mO 0 w λJ k i a=>N (decide (i<(b.n:Int))) (Gc b i a λd=>Gc c i a λe=>N (d !=e) (o0 a λg=>R (aj aL) g) (o0 a λj=>nx k λf=>J f (ar U (i+1)) j)) (R (aj aE) a))):Cr 39 #[b.v,c.v] w R:=
 fC (.d 2 (.s (.s .o (.j [0,1] [.s 5 dr] .o .o)) .o)) h
def alx(s:aK)(xaa:vW w λb c w0=>A7 [b,c] 70 #[X s] w0 λl0 i0 i1 w1=>N (i0 !=0) (nw w1 λk2 w2=>b≠c->b≠k2->c≠k2->∃J0:aJ,J0 k2/\uU J0 b/\uU J0 c/\∀w3,Q [c,b] w2 w3->R (ai #[cP Sl.nil 0 (ao #[]) (ao #[]) (ao #[]) Sl.nil Sl.nil Sl.nil Sl.nil 0,xR i0 i1]) w3) (nw3 w1 λk3 k a w4=>lW 32 (X (ao #[99,104,97,114,116])) w4 λl1 w5=>cu [b,c,k3,k,a] w4 w5/\(aF w5 k 151 [l0.v,O U 0,O U 0,O U 0,O U 16,O U 64,O U 12,O U 200,O U 400]->b≠k->c≠k->k3≠k->a≠k->gj [b,c,k3,a] 71 #[pB k,l1.v] w5 λw6=>jS w6 k 151 λl2 i2 i3 i4 i5 i6 i7 i8 i9=>pU [b,c,k3,a] 72 #[pB k,O U 1] w6 λoN s0 s1 s2 l3 l4 l5 l6 oR w7=>jS w7 k 151 λl7 pi pm pP rx tO ut uP wd=>∀w8,Q [a] w7 w8->aF w8 k 151 [l7.v,O U pi,O U pm,O U pP,O U rx,O U tO,O U ut,O U uP,O U wd]->lW 32 (X (ao #[123])) w8 λl8 w9=>cu [b,c,k3,k,a] w8 w9/\gj [b,c,k3,a] 71 #[pB k,l8.v] w9 λdz=>jS dz k 151 λl9 As AC AS AT Bv By BV BY=>∃J1:Nat->Sl->Int->aK->aK->aK->Sl->Sl->Sl->Sl->Int->Sl->Int->Int->Int->Int->Int->Int->Int->Int->av->Prop,∃k6:Nat,J1 k6 Sl.nil oN s0 s1 s2 l3 l4 l5 l6 oR l9 As AC AS AT Bv By BV BY dz/\∀k7,∀H:Sl,∀z s3 s4 s5,∀rY uE yX Ct:Sl,∀A,∀FK:Sl,∀Cc CC Do DO EQ Fd Fn FS dF,J1 k7 H z s3 s4 s5 rY uE yX Ct A FK Cc CC Do DO EQ Fd Fn FS dF->lW 32 (X (ao #[118,97,114])) dF λRN eZ=>cu [b,c,k3,k,a] dF eZ/\qe [b,c,k3,a] 73 #[pB k,RN.v] eZ λGe fl=>jS fl k 151 λTW Gg Gt GE GG GO GT H1 Id=>N (decide (Ge>0)) (o0 fl λgw=>aF gw k 151 [TW.v,O U Gg,O U Gt,O U GE,O U GG,O U GO,O U GT,O U H1,O U Id]->∃J2:aJ,J2 a/\aaZ [b,c,k3,a] 74 #[pB k] gw λs6 If Is ij=>jS ij k 151 λMT Z am aC aS aT bv bV bY=>bT J2 gw ij/\lW 22 (alj s6 If Is) ij λOH jw=>cu [b,c,k3,k,a] ij jw/\bT J2 ij jw/\uB 22 H OH jw λRO iX=>cu [b,c,k3,k,a] jw iX/\bT J2 jw iX/\∀ku,Q [a] iX ku->aF ku k 151 [MT.v,O U Z,O U am,O U aC,O U aS,O U aT,O U bv,O U bV,O U bY]->nx k7 λk8=>J1 k8 RO z s3 s4 s5 rY uE yX Ct A MT Z am aC aS aT bv bV bY ku) (aF fl a 29 [H.v,O U z,X s3,X s4,X s5,rY.v,uE.v,yX.v,Ct.v,O U A]->b≠a->c≠a->k3≠a->gj [b,c,k3] 75 #[pB k,pA ⟨a,1,aaa⟩] fl λlZ=>jS lZ k 151 λUI ID IF IN IO IS Le Lt LE=>qT lZ a 29 λTO LT s7 s8 s9 UP UV WF WP MK=>∃J3:Sl->Int->aK->aK->aK->Sl->Sl->Sl->Sl->Int->Sl->Int->Int->Int->Int->Int->Int->Int->Int->av->Prop,(∀Z9:Sl,∀Nm E1 Cu G6,∀l28 l29 l30 l31:Sl,∀No,∀l32:Sl,∀NO Of OF ON OR Pi Pp RK kg,J3 Z9 Nm E1 Cu G6 l28 l29 l30 l31 No l32 NO Of OF ON OR Pi Pp RK kg->kF [b,c,k3] 76 #[pB k] kg λb0 nj=>jS nj k 151 λJ B d e C D E F G=>qT nj a 29 λl f JE JF FM h j m n g=>N (!b0) (o0 nj λpI=>aF pI k 151 [J.v,O U B,O U d,O U e,O U C,O U D,O U E,O U F,O U G]->aF pI a 29 [l.v,O U f,X JE,X JF,X FM,h.v,j.v,m.v,n.v,O U g]->b≠c->b≠k3->b≠k->b≠a->c≠k3->c≠k->c≠a->k3≠k->k3≠a->k≠a->∃J4:aJ,J4 k/\uU J4 b/\uU J4 c/\∀th,Q [c,b] pI th->aF th k 151 [J.v,O U B,O U d,O U e,O U C,O U D,O U E,O U F,O U G]->aF th a 29 [l.v,O U f,X JE,X JF,X FM,h.v,j.v,m.v,n.v,O U g]->R (ai #[cP Sl.nil 0 (ao #[]) (ao #[]) (ao #[]) Sl.nil Sl.nil Sl.nil Sl.nil 0,xR d e]) th) (∀uF,Q [c,b] nj uF->aF uF k 151 [J.v,O U B,O U d,O U e,O U C,O U D,O U E,O U F,O U G]->aF uF a 29 [l.v,O U f,X JE,X JF,X FM,h.v,j.v,m.v,n.v,O U g]->R (ai #[cP l f JE JF FM h j m n g,xR 0 0]) uF))/\∃J5:Bool->Sl->Int->aK->aK->aK->Sl->Sl->Sl->Sl->Int->Sl->Int->Int->Int->Int->Int->Int->Int->Int->av->Prop,(∀b1,∀gO:Sl,∀cc RR mK YU,∀gT g8 ip iD:Sl,∀ce,∀iF:Sl,∀co cC dO el eQ fd gE gG qL,J5 b1 gO cc RR mK YU gT g8 ip iD ce iF co cC dO el eQ fd gE gG qL->N b1 (gj [b,c,k3] 77 #[pB k] qL λsC=>jS sC k 151 λl45 So ST To L M P S T=>qT sC a 29 λl46 V s19 UL s21 l47 l48 l49 l50 W=>J3 l46 V s19 UL s21 l47 l48 l49 l50 W l45 So ST To L M P S T sC) (J3 gO cc RR mK YU gT g8 ip iD ce iF co cC dO el eQ fd gE gG qL))/\o0 lZ λvP=>aF vP k 151 [UI.v,O U ID,O U IF,O U IN,O U IO,O U IS,O U Le,O U Lt,O U LE]->aF vP a 29 [TO.v,O U LT,X s7,X s8,X s9,UP.v,UV.v,WF.v,WP.v,O U MK]->kF [b,c,k3] 76 #[pB k] vP λb2 zh=>jS zh k 151 λK i o p q r t u v=>qT zh a 29 λiN x nO n8 oF iS lE lT mt y=>N b2 (∃p0,cR K i 4 p0/\iB zh (p0.add 0) λY=>J5 (Y !=5) iN x nO n8 oF iS lE lT mt y K i o p q r t u v zh) (J5 aL iN x nO n8 oF iS lE lT mt y K i o p q r t u v zh))))):Cr 40 #[X s] w R:=
 fC (.d 8 (.s (.j [2,3,5,6,7,22] [.b 7 [.sl,dr,.str,.str,.str,.sl,.sl,.sl,.sl,dr],.b 22 [.sl,dr,dr,dr,dr,dr,dr,dr,dr]] .o .o) (.s .o (.j [2,3,5,6,7,22] [.b 7 [.sl,dr,.str,.str,.str,.sl,.sl,.sl,.sl,dr],.b 22 [.sl,dr,dr,dr,dr,dr,dr,dr,dr]] (.s (.j [2,3,5,6,7,22] [.s 71 .bool,.b 7 [.sl,dr,.str,.str,.str,.sl,.sl,.sl,.sl,dr],.b 22 [.sl,dr,dr,dr,dr,dr,dr,dr,dr]] .o .o) .o) .o)))) xaa
def aly(c:Sl)(a:Int)(b d e:aK)(f g h i:Sl)(j:Int)(n:nw w λl p=>VX [l] 80 #[cP c a b d e f g h i j] p λs k m=>N (k !=0) (R (ai #[Sl.nil.v,O U k]) m) (xP [l] 21 #[cP c a b d e f g h i j] m λo q=>R (ai #[o.v,O U 0]) q)):Cr 45 #[cP c a b d e f g h i j] w R:=
 je n
def alz(v:Int)(K G L:aK)(Z C B o:Sl)(u:Int)(l:Sl)(h:nw w λk d=>lW 33 (O U u) d λm a=>cu [k] d a/\uB 33 l m a λn e=>cu [k] a e/\Ju n 0 e λJ j c i b=>N (decide (i<(o.n:Int))) (fm o i b λf x y z p q r s g=>xP [k] 46 #[ck f x y z p q r s g,c.v] b λt A=>nx j λk3=>J k3 t (ar U (i+1)) A) (R c.v b)):Cr 46 #[ck v K G L Z C B o u,l.v] w R:=
 fC (.d 2 (.s (.s .o (.j [2] [.s 1 .sl,.s 5 dr] .o .o)) .o)) h
def alA(k:Addr)(e at_:Int)(h:iB w ((k.add 11).add 0) λi=>N (i==0) (sT (k.add 11) w 2 λa b z c=>sS w a b z c [O U e,O U at_] λd=>R (ai #[]) d) (R (ai #[]) w)):Cr 47 #[pA k,O U e,O U at_] w R:=
 je h
def alB(k:Addr)(n:Int)(x u L:aK)(Z y v o:Sl)(H at_:Int)(h:nw w λc t=>gj [c] 81 #[pA k,ck n x u L Z y v o H,O U at_] t λz=>Ju (ar U (at_+1)) 0 z λJ g b i a=>N (decide (i<(o.n:Int))) (fm o i a λd s q r l j m p e=>qe [c] 48 #[pA k,ck d s q r l j m p e,O U b] a λf A=>nx g λk3=>J k3 f (ar U (i+1)) A) (R (O U b) a)):Cr 48 #[pA k,ck n x u L Z y v o H,O U at_] w R:=
 fC (.d 3 (.s (.s .o (.j [0,4] [.s 2 dr,.s 7 dr] .o .o)) .o)) h
def alC(l:Sl)(n:Int)(x G P:aK)(Z S K o:Sl)(H p d:Int)(j:nw w λk g=>lW 43 (DN n x p d 0) g λu c=>cu [k] g c/\uB 43 l u c λv h=>cu [k] c h/\Ju v 0 h λJ r a i b=>N (decide (i<(o.n:Int))) (fm o i b λm D E F y z A B q=>xP [k] 49 #[a.v,ck m D E F y z A B q,O U (l.n:Int),O U (ar U (d+1))] b λC L=>nx r λk3=>J k3 C (ar U (i+1)) L) (∃f,cR a (l.n:Int) 5 f/\sT (f.add 4) b 1 λe s T t=>k≠e/\sS b e s T t [O U (a.n:Int)] λM=>R a.v M)):Cr 49 #[l.v,ck n x G P Z S K o H,O U p,O U d] w R:=
 fC (.d 3 (.s (.s .o (.j [3,5,9] [.s 0 .sl,.s 10 dr] .o .o)) .o)) j
def adN(l:Sl)(a b:Int)(R:aG)(w:av):Prop:=
 ∃p0,((((decide (b>=0))&&(decide (b<(l.n:Int))))&&(decide (a>b)))=aE->cR l b 5 p0)/\
 ∃i,((((decide (b>=0))&&(decide (b<(l.n:Int))))&&(decide (a>b)))=aE->aB w (p0.add 4) [O U i])/\
 R (aj ((((decide (b>=0))&&(decide (b<(l.n:Int))))&&(decide (a>b)))&&(decide (a<i)))) w
def alD(l:Sl)(a b:Int)(h:adN l a b R w):Cr 50 #[l.v,O U a,O U b] w R:=
 je h
def asP(p h j l a:Sl)(q:nw w λk n=>∃m c,((Instr.makeMap 113 aaa).run aq n)=(.ok (.map m) c)/\cu [k] n c/\∃g e,((Instr.makeMap 115 aaa).run aq c)=(.ok (.map g) e)/\cu [k] c e/\nw e λb v=>mO 0 v λJ k3 i d=>N (decide (i<(a.n:Int))) (asA a i d λr u=>nw d λs o=>∃f,((Instr.mapUpdate 113 (.map m) (O U r) u.v).run aq o)=(.ok () f)/\cu [k,b,s] o f/\nx k3 λt=>J t (ar U (i+1)) f) (aF d b 117 [p.v,h.v,j.v,l.v,.map m,.map g]->k≠b->R (pB b) d)):Cr 53 #[qg p h j l,a.v] w R:=
 fC (.d 2 (.s (.s .o (.j [2,5,12,13,14] [.s 15 dr] .o .o)) .o)) q
def asQ(s:Option Nat)(l:Sl)(h:mO 0 w λJ k i a=>N (decide (i<(l.n:Int))) (Gc l i a λc=>∃b,((Instr.mapUpdate 115 (.map s) (O U c) (aj aE)).run aq a)=(.ok () b)/\nx k λd=>J d (ar U (i+1)) b) (R (ai #[]) a)):Cr 54 #[.map s,l.v] w R:=
 fC (.s .o (.j [0,6,7] [.s 8 dr] .o .o)) h
def asR(m:Addr)(L:nw w λk B=>kl B ((m.add 0).add 0) λs=>∃h:Nat->Int->Option Addr->av->Prop,∃S:Nat,h S 0 (aM m) B/\∀r i q d,h r i q d->N (decide (i<(s.n:Int))) (oO (λq1 w2=>nx r λk3=>h k3 (ar U (i+1)) q1 w2) λg=>CI s i d λM s0 i2 i3 i4=>∃t,q=(aM t)/\nw d λa j=>SH j (t.add 5) λm0=>∃o e,((Instr.lookup 115 (.map m0) (O U i) aL).run aq j)=(.ok (aj o) e)/\cu [k,a] j e/\N (!o) (g q e) (∃u,q=(aM u)/\kl e ((u.add 0).add 0) λT=>xP [k,a] 83 #[T.v,O U i] e λV C=>(aF C k 111 [ae q]->a≠k->xP [a] 82 #[V.v,.func (.func 84) #[] #[pB k]] C λl f=>xKQ f k 111 λA=>N (M==2) (∃v,A=(aM v)/\SH f (v.add 5) λm1=>gj [a] 54 #[.map m1,l.v] f λD=>xKQ D k 111 λq3=>g q3 D) (jn2 (λG c E=>N G (o0 E λb=>aF b k 111 [ae c]->∃J:aJ,J k/\J k/\∃x,c=(aM x)/\kl b ((x.add 0).add 1) λW=>Gc W i b λP=>lW 33 (O U P) b λY z=>cu [k,a] b z/\bT J b z/\rMs [a] 58 #[ae c,Y.v] z λm2 F=>xKQ F k 111 λq5=>bT J z F/\gj [a] 57 #[ae c,.map m2,O U i] F λZ=>xKQ Z k 111 λq6=>bT J F Z/\g q6 Z) (g c E)) λn=>N (decide ((l.n:Int)>0)) (kF [a] 86 #[l.v,.func (.func 87) #[] #[pB k]] f λH p=>xKQ p k 111 λq7=>n (!H) q7 p) (n aL A f))))) (∃y,q=(aM y)/\SH d (y.add 5) λm3=>xP [k] 88 #[.map m3] d λl6 K=>R l6.v K)):Cr 55 #[pA m] w R:=
 fC (.s .o (.s (.s .o (.j [1,10,11] [.s 12 dr,.b 1 [.ptr]] (.d 2 (.j [1,10,11,12] [.b 1 [.ptr]] (.d 5 (.s (.j [1,3,4,10,11,12] [.s 43 .bool,.b 1 [.ptr]] .o .o) .o)) .o)) .o)) .o)) L
def asS(b:Addr)(k:Int)(h:nw w λc a=>∃l:Sl,((decide (k<0))=aL->aB a ((b.add 0).add 3) [l.v])/\∃d:Sl,(((decide (k<0))||(decide (k>=(l.n:Int))))=aL->aB a ((b.add 0).add 3) [d.v])/\∃p0,(((decide (k<0))||(decide (k>=(l.n:Int))))=aL->cR d k 7 p0)/\∃i,(((decide (k<0))||(decide (k>=(l.n:Int))))=aL->aB a (p0.add 6) [O U i])/\N (((decide (k<0))||(decide (k>=(l.n:Int))))||(decide (i<0))) (∀e,Q [c] a e->R (ai #[zJ 0 0 0 (ao #[]) 0 Sl.nil 0,aj aL]) e) (kl a ((b.add 0).add 3) λp=>Gf p k a λg j m s n q o=>∀f,Q [c] a f->R (ai #[zJ g j m s n q o,aj aE]) f)):Cr 56 #[pA b,O U k] w R:=
 je h
def asT(d:Addr)(a:Option Nat)(domain:Int)(m:∃q f,((Instr.range 115 (.map a)).run aq w)=(.ok (ae q) f)/\lp0 f λJ o g=>Or (Exists (λh=>((Instr.next (ae q) aL 0).run aq g)=(.ok (ai #[aj aL]) h)/\R (ai #[]) h)) (Exists (λx:OV=>∃y:OV,∃j,((Instr.next (ae q) aL 0).run aq g)=(.ok (ai #[aj aE,x.v,y.v]) j)/\∃v z:OV,∃k,((Instr.entry (ae q)).run aq j)=(.ok (ai #[v.v,z.v]) k)/\∃e,v.v=(O U e)/\mO e k λl k3 i b=>N (decide (i>domain)) (SH b (d.add 5) λu=>lW 33 (O U i) b λs A=>cU 54 #[.map u,s.v] A λc=>kl c ((d.add 0).add 0) λt=>∃p0,cR t i 5 p0/\iB c (p0.add 2) λn=>nx k3 λp=>l p n c) (nx o λr=>J r b)))):Cr 57 #[pA d,.map a,O U domain] w R:=
 fC (.s .o (.j [0,2,8] [] (.d 3 (.j [0,2,8] [.s 6 dr] .o .o)) .o)) m
def asU(c:Addr)(targets:Sl)(n:∃m h,((Instr.makeMap 115 aaa).run aq w)=(.ok (.map m) h)/\mO 0 h λj r e d=>N (decide (e<(targets.n:Int))) (AO (λz=>nx r λs=>j s (ar U (e+1)) z) λJ=>Gc targets e d λi=>SH d (c.add 4) λy=>∃l:Sl,∃f a,((Instr.lookup 113 (.map y) (O U i) aE).run aq d)=(.ok (ai #[l.v,aj f]) a)/\∃g:Sl,((decide (i<0))=aL->aB a ((c.add 0).add 0) [g.v])/\N ((decide (i<0))||(decide (i>=(g.n:Int)))) (J a) (kl a ((c.add 0).add 0) λt=>∃p,cR t i 5 p/\iB a (p.add 0) λo=>cB 85 #[O U o] a λk b=>N (!k) (lW 33 (O U i) b λu A=>cU 54 #[.map m,u.v] A λB=>J B) (N f (cU 54 #[.map m,l.v] b λC=>J C) (kl b ((c.add 0).add 2) λv=>Gc v i b λq=>lW 33 (O U q) b λx D=>cU 54 #[.map m,x.v] D λE=>J E)))) (R (.map m) d)):Cr 58 #[pA c,targets.v] w R:=
 fC (.d 2 (.s (.s .o (.j [0,5,11,12] [.s 13 dr] (.d 2 (.j [0,5,11,12,13] [] .o .o)) .o)) .o)) n
def asV(l:Sl)(h:∃J:Nat->Sl->Int->av->Prop,∃q:Nat,J q Sl.nil 0 w/\∀e,∀b:Sl,∀i a,J e b i a->N (decide (i<(l.n:Int))) (sM l i a λg v j m x n r o p=>nw a λk y=>xP [k] 89 #[r.v] y λs z=>∀c,Q [k] z c->lW 23 (lc g v j m x n s o p) c λt d=>cu [k] c d/\uB 23 b t d λu f=>cu [k] d f/\nx e λk3=>J k3 u (ar U (i+1)) f) (R b.v a)):Cr 59 #[l.v] w R:=
 fC (.d 2 (.s (.s .o (.j [0] [.s 3 .sl,.s 4 dr] .o .o)) .o)) h
def asW(l:Sl)(n:∃J:Nat->Sl->Int->av->Prop,∃v:Nat,J v Sl.nil 0 w/\∀g,∀b:Sl,∀i a,J g b i a->N (decide (i<(l.n:Int))) (gF l i a λo H p m q r K s x t y A u=>nw a λk L=>xP [k] 89 #[x.v] L λB M=>∀h,Q [k] M h->xP [k] 59 #[y.v] h λC P=>∀c,Q [k] P c->NE (au 32 0 #[]) c λD d=>cu [k] c d/\uB 32 D A d λE j=>cu [k] d j/\∀e,Q [k] j e->lW 24 (fi o H p m q r K s B t C E u) e λF f=>cu [k] e f/\uB 24 b F f λG z=>cu [k] f z/\nx g λk3=>J k3 G (ar U (i+1)) z) (R b.v a)):Cr 60 #[l.v] w R:=
 fC (.d 2 (.s (.s .o (.j [0] [.s 3 .sl,.s 4 dr] .o .o)) .o)) n
def asX(k:Addr)(D:Int)(x H S:aK)(Z T K o:Sl)(u:Int)(h:nw w λa b=>SH b (k.add 0) λC=>kl b (k.add 1) λr=>gj [a] 62 #[pA k,.map C,X x,O U (r.n:Int),O U u] b λc=>kl c (k.add 1) λs=>lW 43 (DN 0 (ao #[]) 0 0 0) c λt d=>cu [a] c d/\uB 43 s t d λv e=>cu [a] d e/\sT (k.add 1) e 1 λg m V k3=>a≠g/\sS e g m V k3 [v.v] λL=>mO 0 L λJ n i f=>N (decide (i<(o.n:Int))) (fm o i f λj E F G y z A B l=>nw f λp M=>gj [a,p] 61 #[pA k,ck j E F G y z A B l] M λP=>nx n λq=>J q (ar U (i+1)) P) (R (ai #[]) f)):Cr 61 #[pA k,ck D x H S Z T K o u] w R:=
 fC (.d 4 (.j [0,3,32,33] [.s 34 dr] .o .o)) h
def alE(k:Addr)(m:Option Nat)(name:aK)(p at_:Int)(h:∃i b a,((Instr.lookup 128 (.map m) (X name) aE).run aq w)=(.ok (ai #[O U i,aj b]) a)/\cU 90 #[pA k,aj (!b),O U 24,O U at_] a λc=>N (!b) (∃d,((Instr.mapUpdate 128 (.map m) (X name) (O U p)).run aq c)=(.ok () d)/\R (ai #[]) d) (R (ai #[]) c)):Cr 62 #[pA k,.map m,X name,O U p,O U at_] w R:=
 je h
def asY(k:Addr)(n:Int)(K u L:aK)(x y v o:Sl)(H at_:Int)(D:nw w λa w0=>gj [a] 91 #[pA k,ck n K u L x y v o H,O U at_] w0 λp=>NH 208 x.v y.v p λl0 q=>cu [a] p q/\gj [a] 92 #[pA k,l0.v] q λw3=>mO 0 w3 λt T i h=>N (decide (i<(v.n:Int))) (gF v i h λE s0 j b0 F G s1 M l1 P l2 l3 l=>nw h λk3 w5=>gj [a,k3] 90 #[pA k,aj ((E !=3)||((decide (j>0))&&(decide (j<=1099511627776)))),O U 28,O U l] w5 λw6=>gj [a,k3] 93 #[pA k,bO F G s1 M l1 P] w6 λr=>lW 208 l2.v r λl4 s=>cu [a,k3] r s/\gj [a,k3] 92 #[pA k,l4.v] s λw9=>o0 w9 λz=>∃J:aJ,J k3/\kF [a,k3] 94 #[pA k,l3.v] z λB d=>bT J z d/\gj [a,k3] 90 #[pA k,aj B,O U 27,O U l] d λZ=>bT J d Z/\nx T λV=>t V (ar U (i+1)) Z) (Ju (ar U (at_+1)) 0 h λA W m g f=>N (decide (g<(o.n:Int))) (fm o g f λb s2 s3 s4 l5 l6 l7 l8 c=>nw f λY C=>qe [a,Y] 63 #[pA k,ck b s2 s3 s4 l5 l6 l7 l8 c,O U m] C λe S=>nx W λk8=>A k8 e (ar U (g+1)) S) (R (O U m) f))):Cr 63 #[pA k,ck n K u L x y v o H,O U at_] w R:=
 fC (.d 3 (.s (.s .o (.j [0,2,4,23,24] [.s 25 dr] .o .o)) (.s .o (.s (.s .o (.j [0,4,8,67,68] [.s 2 dr,.s 69 dr] .o .o)) .o)))) D
def alF(c:Sl)(a:Int)(b d e:aK)(f g h i:Sl)(j:Int)(k:nw w λm n=>VX [m] 95 #[cP c a b d e f g h i j] n λs l o=>R (O U l) o):Cr 64 #[cP c a b d e f g h i j] w R:=
 je k
def asZ(l:Addr)(n:Int)(x W xL:aK)(xZ yd Z o:Sl)(Y p d:Int)(s:nw w λk q=>kl q (l.add 0) λj=>o0 q λb=>∃J:aJ,J ((l.add 0).block)/\kl b (l.add 0) λC=>lW 133 (DN n x p d 0) b λD a=>cu [k] b a/\bT J b a/\uB 133 C D a λE c=>cu [k] a c/\bT J a c/\sT (l.add 0) c 1 λg v z0 k3=>k≠g/\sS c g v z0 k3 [E.v] λw4=>mO 0 w4 λr y i f=>N (decide (i<(o.n:Int))) (fm o i f λt S T V F G H K u=>nw f λz w6=>gj [k,z] 65 #[pA l,ck t S T V F G H K u,O U (j.n:Int),O U (ar U (d+1))] w6 λw7=>nx y λA=>r A (ar U (i+1)) w7) (o0 f λe=>kl e (l.add 0) λL=>kl e (l.add 0) λM=>∃m,cR L (j.n:Int) 5 m/\sT (m.add 4) e 1 λh B z1 P=>k≠h/\sS e h B z1 P [O U (M.n:Int)] λw9=>R (ai #[]) w9)):Cr 65 #[pA l,ck n x W xL xZ yd Z o Y,O U p,O U d] w R:=
 fC (.d 3 (.s (.s .o (.j [0,3,5,8,33,34] [.s 35 dr] .o .o)) .o)) s
def as0(l:Addr)(name:aK)(h:N (name.toList==((ao #[]).toList)) (R (O U (-1)) w) (kl w ((l.add 0).add 0) λa=>cI 96 #[a.v,X name] w λi b=>R (O U i) b)):Cr 66 #[pA l,X name] w R:=
 je h
def as1(l:Addr)(source:Int)(targets:Sl)(k:N ((targets.n:Int)==0) (R (O U (-1)) w) (∃c:Sl,∃e,((au 33 1 #[.mk 0 (O U source)]).run aq w)=(.ok c.v e)/\uB 33 c targets e λd f=>kl f ((l.add 0).add 0) λs=>cI 97 #[s.v,d.v] f λm v=>mO m v λg q i a=>oO (λh b=>N h (kl b ((l.add 0).add 0) λt=>∃p0,cR t i 5 p0/\iB b (p0.add 2) λn=>nx q λr=>g r n b) (R (O U i) b)) λJ=>N (decide (i>0)) (kl a ((l.add 0).add 0) λu=>∃p,cR u i 5 p/\iB a (p.add 0) λo=>N (o !=1) (J aE a) (cB 98 #[d.v,O U i] a λj x=>J j x)) (J aL a))):Cr 67 #[pA l,O U source,targets.v] w R:=
 fC (.d 4 (.s (.j [0,7] [.s 8 dr] (.s (.s (.j [0,7,8] [.s 41 .bool] .o .o) .o) .o) .o) .o)) k
def alG(e f:Sl)(at_:Bool)(u:N ((e.n:Int) !=(f.n:Int)) (R (aj aL) w) (mO 0 w λJ E a t=>N (decide (a<(e.n:Int))) (∃p0,cR e a 9 p0/\o0 t λk=>jC k (p0.add 2) λv x K y G z=>∃p,cR f a 9 p/\jC k (p.add 2) λA B L C H D=>cB 99 #[bO v x K y G z,bO A B L C H D,aj at_] k λb d=>∃l,((!b)=aL->cR e a 9 l)/\∃c,((!b)=aL->aB d (l.add 0) [O U c])/\∃m,((!b)=aL->cR f a 9 m)/\∃i,((!b)=aL->aB d (m.add 0) [O U i])/\∃n,(((!b)||(c !=i))=aL->cR e a 9 n)/\∃s,(((!b)||(c !=i))=aL->aB d (n.add 1) [X s])/\∃o,(((!b)||(c !=i))=aL->cR f a 9 o)/\∃g,(((!b)||(c !=i))=aL->aB d (o.add 1) [X g])/\∃q,((((!b)||(c !=i))||(!(s.toList==g.toList)))=aL->at_=aE->cR e a 9 q)/\∃h,((((!b)||(c !=i))||(!(s.toList==g.toList)))=aL->at_=aE->aB d (q.add 8) [O U h])/\∃r,((((!b)||(c !=i))||(!(s.toList==g.toList)))=aL->at_=aE->cR f a 9 r)/\∃j,((((!b)||(c !=i))||(!(s.toList==g.toList)))=aL->at_=aE->aB d (r.add 8) [O U j])/\N ((((!b)||(c !=i))||(!(s.toList==g.toList)))||(at_&&(h !=j))) (o0 d λM=>R (aj aL) M) (o0 d λP=>nx E λF=>J F (ar U (a+1)) P)) (R (aj aE) t))):Cr 68 #[e.v,f.v,aj at_] w R:=
 fC (.d 2 (.s (.s .o (.j [0,1,2] [.s 7 dr] .o .o)) .o)) u
def alH(n:Int)(x:aK)(i:Int)(C:Bool)(F h:Int)(J:aK)(D:Int)(m:Sl)(a:Int)(o V:Sl)(W p:Int)(P:aK)(l:Int)(j:Bool)(K S:Int)(c:aK)(d:Int)(e:Sl)(f:Int)(b Y:Sl)(Z:Int)(at_:Bool)(t:vW w λk g u=>kF [k,g] 99 #[bO F h J D m a,bO K S c d e f,aj at_] u λq v=>kF [k,g] 68 #[o.v,b.v,aj at_] v λr y=>kF [k,g] 100 #[V.v,Y.v] y λs z=>R (aj (((((((q&&r)&&s)&&(n==p))&&(x.toList==P.toList))&&(i==l))&&(C==j))&&((!at_)||(W==Z)))) z):Cr 69 #[fi n x i C F h J D m a o V W,fi p P l j K S c d e f b Y Z,aj at_] w R:=
 je t
def alI(s:aK)(r:N (decide ((s.size:Int)>16384)) (nw w λk0 V=>R (ai #[Sl.nil.v,xR 2 (-1)]) V) (nw w λa W=>xP [a] 101 #[] W λB Z=>nw Z λk m=>aF m k 185 [X s,O U 0,B.v,Sl.nil.v]->gj [a] 102 #[pB k] m λn=>DK n k 185 λL t C D=>∃J:Nat->Int->Int->aK->Int->Sl->Sl->av->Prop,∃k3:Nat,J k3 0 0 L t C D n/\∀j i f M v,∀E F:Sl,∀o,J j i f M v E F o->kF [a] 103 #[pB k] o λq b=>DK b k 185 λs2 i4 l5 l6=>N (!q) (qe [a] 104 #[pB k] b λg c=>DK c k 185 λP h G H=>N (g !=0) (∀e,Q [a] c e->aF e k 185 [X P,O U h,G.v,H.v]->R (ai #[Sl.nil.v,xR g h]) e) (gj [a] 102 #[pB k] c λp=>DK p k 185 λS x K l=>nx j λA=>J A i f S x K l p)) (gj [a] 105 #[pB k,nW 5 (ao #[]) 0 0,O U 0] b λz=>DK z k 185 λT y Y u=>∀d,Q [a] z d->aF d k 185 [X T,O U y,Y.v,u.v]->R (ai #[u.v,xR 0 0]) d))):Cr 70 #[X s] w R:=
 fC (.d 3 (.s (.s .o (.j [3,4,14] [.b 3 [dr,dr],.b 14 [.str,dr,.sl,.sl]] .o .o)) .o)) r
def alJ(c:Addr)(texts:Sl)(h:mO 0 w λd k i a=>N (decide (i<(texts.n:Int))) (AO (λg=>nx k λf=>d f (ar U (i+1)) g) λJ=>FA texts i a λs=>lW 32 (X s) a λl j=>cI 73 #[pA c,l.v] j λe b=>N (e==0) (cU 77 #[pA c] b λm=>J m) (J b)) (R (ai #[]) a)):Cr 71 #[pA c,texts.v] w R:=
 fC (.s .o (.j [0,6,7] [.s 8 dr] (.d 2 (.j [0,6,7,8] [] .o .o)) .o)) h
def alK(r:Addr)(kind:Int)(h:vW w λa k b=>AO (λn=>wl [a,k] 108 #[pA (r.add 0),O U 1] n λv s x i o=>nw o λd p=>a≠k->a≠d->k≠d->∃c:aJ,c d/\uU c k/\uU c k/\∀f,Q [a,k] p f->R (ck kind s (ao #[]) (ao #[]) Sl.nil Sl.nil Sl.nil Sl.nil i) f) λJ=>kl b ((r.add 0).add 0) λm=>iB b ((r.add 0).add 1) λg=>∃p0,cR m g 4 p0/\iB b (p0.add 0) λj=>N (j==1) (o0 b λq=>gj [a,k] 106 #[pA r,pA ((r.add 4).add 1),O U 2] q λe=>iB e ((r.add 4).add 2) λl=>N (l==0) (gj [a,k] 107 #[pA (r.add 0),O U 21] e λt=>J t) (J e)) (o0 b λu=>J u)):Cr 72 #[pA r,O U kind] w R:=
 fC (.d 2 (.j [0,4,5] [] .o .o)) h
def alM(c:Addr)(texts:Sl)(h:cI 109 #[pA c,texts.v] w λi a=>AO (λf=>R (O U i) f) λJ=>N (decide (i>0)) (iB a (c.add 1) λb=>sT (c.add 1) a 1 λk d z e=>sS a k d z e [O U (ar U (b+1))] λg=>J g) (J a)):Cr 73 #[pA c,texts.v] w R:=
 fC (.d 2 (.j [5] [] .o .o)) h
def alN(r:Addr)(m:nw w λk b=>AO (λA=>wl [k] 108 #[pA (r.add 0),O U 1] A λD y E n B=>nw B λa c=>lW 32 (X (ao #[61])) c λt e=>cu [k,a] c e/\gj [k,a] 71 #[pA (r.add 0),t.v] e λf=>lW 32 (X (ao #[45])) f λu g=>cu [k,a] f g/\qe [k,a] 73 #[pA (r.add 0),u.v] g λo C=>wl [k,a] 108 #[pA (r.add 0),O U 3] C λF H p G h=>lW 32 (X (ao #[59])) h λv i=>cu [k,a] h i/\gj [k,a] 71 #[pA (r.add 0),v.v] i λz=>∀d,Q [k] z d->R (alj y (ar U ((ar U (1-(ar U (2*o))))*p)) n) d) λJ=>kl b ((r.add 0).add 0) λx=>iB b ((r.add 0).add 1) λq=>∃p0,cR x q 4 p0/\iB b (p0.add 0) λs=>N (s==1) (o0 b λZ=>gj [k] 106 #[pA r,pA ((r.add 4).add 0),O U 2] Z λl=>J l) (o0 b λj=>J j)):Cr 74 #[pA r] w R:=
 fC (.s .o (.j [0,2] [] .o .o)) m
def alO(r:Addr)(n:Option Addr)(fd:nw w λk w0=>iB w0 ((r.add 4).add 2) λi0=>sT ((r.add 4).add 2) w0 1 λk1 k2 z0 k3=>k≠k1/\sS w0 k1 k2 z0 k3 [O U (ar U (i0-1))] λw1=>∃D:Nat->Bool->Bool->Bool->Bool->av->Prop,∃k4:Nat,D k4 aL aL aL aL w1/\∀k5 K L T b3 w2,D k5 K L T b3 w2->∃G:Bool->Bool->Bool->Bool->Bool->av->Prop,(∀b4 b5 b6 b7 b8 B,G b4 b5 b6 b7 b8 B->N b4 (nx k5 λk6=>D k6 b5 b6 b7 b8 B) (rb4 32 (X (ao #[115,116,97,116,101])) (X (ao #[112,97,114,97,108,108,101,108])) (X (ao #[104,105,115,116,111,114,121])) (X (ao #[100,101,101,112])) B λl0 w4=>cu [k] B w4/\qe [k] 109 #[pA (r.add 0),l0.v] w4 λi1 w5=>∃H:Nat->Int->Bool->Bool->Bool->Bool->av->Prop,∃k7:Nat,H k7 i1 b5 b6 b7 b8 w5/\∀k8 x m b a c d,H k8 x m b a c d->N (decide (x>0)) (iB d ((r.add 0).add 1) λi3=>sT ((r.add 0).add 1) d 1 λk9 re z1 pY=>k≠k9/\sS d k9 re z1 pY [O U (ar U (i3+1))] λw7=>∃e:Bool->Bool->Bool->Bool->av->Prop,(∀f h i l w8,e f h i l w8->rb4 32 (X (ao #[115,116,97,116,101])) (X (ao #[112,97,114,97,108,108,101,108])) (X (ao #[104,105,115,116,111,114,121])) (X (ao #[100,101,101,112])) w8 λl1 w9=>cu [k] w8 w9/\qe [k] 109 #[pA (r.add 0),l1.v] w9 λi4 dz=>nx k8 λAJ=>H AJ i4 f h i l dz)/\o0 w7 λF=>∃J:aJ,∃p0,n=(aM p0)/\J ((p0.add 7).block)/\kl F (p0.add 7) λz=>(pU [k] 111 #[pA r,O U x] F λi5 s0 s1 s2 l3 l4 l5 l6 i6 Z=>bT J F Z/\lW 25 (ck 0 (ao #[]) (ao #[]) (ao #[]) Sl.nil Sl.nil Sl.nil Sl.nil 0) Z λl7 o=>cu [k] Z o/\bT J Z o/\uB 25 z l7 o λl8 g=>cu [k] o g/\bT J o g/\∃p1,cR l8 (z.n:Int) 9 p1/\∃p2,n=(aM p2)/\(sT p1 g 9 λxX JA z2 MU=>k≠xX/\sS g xX JA z2 MU [O U i5,X s0,X s1,X s2,l3.v,l4.v,l5.v,l6.v,O U i6] λij=>sT (p2.add 7) ij 1 λAU YQ z3 am=>k≠AU/\sS ij AU YQ z3 am [l8.v] λjw=>e m b a c jw)/\sT (p2.add 7) g 1 λMV MW z4 aC=>k≠MV/\sS g MV MW z4 aC [l8.v] λiX=>sT p1 iX 9 λJB aS z5 aT=>k≠JB/\sS iX JB aS z5 aT [O U i5,X s0,X s1,X s2,l3.v,l4.v,l5.v,l6.v,O U i6] λku=>e m b a c ku)/\lW 25 (ck 0 (ao #[]) (ao #[]) (ao #[]) Sl.nil Sl.nil Sl.nil Sl.nil 0) F λl9 A=>cu [k] F A/\bT J F A/\pU [k] 111 #[pA r,O U x] A λi7 s3 s4 s5 v rY uE yX i8 y=>bT J A y/\uB 25 z l9 y λC j=>cu [k] y j/\bT J y j/\∃p3,cR C (z.n:Int) 9 p3/\∃p4,n=(aM p4)/\(sT p3 j 9 λp bv z6 bV=>k≠p/\sS j p bv z6 bV [O U i7,X s3,X s4,X s5,v.v,rY.v,uE.v,yX.v,O U i8] λpI=>sT (p4.add 7) pI 1 λq bY z7 cc=>k≠q/\sS pI q bY z7 cc [C.v] λth=>e m b a c th)/\sT (p4.add 7) j 1 λs ce z8 co=>k≠s/\sS j s ce z8 co [C.v] λuF=>sT p3 uF 9 λt cC z9 dO=>k≠t/\sS uF t cC z9 dO [O U i7,X s3,X s4,X s5,v.v,rY.v,uE.v,yX.v,O U i8] λqL=>e m b a c qL) (iB d ((r.add 4).add 2) λi9=>sT ((r.add 4).add 2) d 1 λu el JG eQ=>k≠u/\sS d u el JG eQ [O U (ar U (i9+1))] λsC=>lW 32 (X (ao #[125])) sC λFK vP=>cu [k] sC vP/\gj [k] 71 #[pA (r.add 0),FK.v] vP λzh=>R (ai #[]) zh)))/\kF [k] 76 #[pA (r.add 0)] w2 λM E=>N M (aF E k 193 [aj K,aj L,aj T,aj b3]->cB 110 #[pA r,ae n,pB k] E λP TX=>age TX k 193 λS V W Y=>G P S V W Y TX) (G aL K L T b3 E)):Cr 75 #[pA r,ae n] w R:=
 fB (an:=.d 2 (.s (.j [0,1,4] [.b 4 [.bool,.bool,.bool,.bool]] (.s (.s (.j [0,1,4] [.s 23 .bool,.b 4 [.bool,.bool,.bool,.bool]] .o .o) .o) .o) .o) (.s (.s .o (.j [0,1,4] [.s 5 (.int .i64),.b 4 [.bool,.bool,.bool,.bool]] (.s .o (.s (.s .o (.j [0,1,4] [.b 4 [.bool,.bool,.bool,.bool]] .o .o)) .o)) .o)) .o))) (args:=[.ad r,.ptr n]) fd
def alP(c:Addr)(R:aG)(w:av)(h:iB w ((c.add 2).add 0) λi=>R (aj (i==0)) w):Cr 76 #[pA c] w R:=
 je h
def alQ(c:Addr)(h:AO (λb=>cU 107 #[pA c,O U 4] b λd=>R (ai #[]) d) λJ=>kl w (c.add 0) λl=>iB w (c.add 1) λi=>∃p0,cR l i 4 p0/\iB w (p0.add 0) λa=>N (a==5) (o0 w λe=>cU 107 #[pA c,O U 3] e λf=>J f) (o0 w λg=>J g)):Cr 77 #[pA c] w R:=
 fC (.j [0] [] .o .o) h
def alR(c:Sl)(g:Int)(b h j:aK)(l m n o:Sl)(p:Int)(E:nw w λa M=>kF [a] 112 #[cP c g b h j l m n o p] M λD v=>N (!D) (R (ai #[X (ao #[]),O U 22]) v) ((6+(b.size:Int))<=9223372036854775807/\((((ao #[99,104,97,114,116,32])++b).size:Int)+2)<=9223372036854775807/\nw v λk x=>aF x k 199 [Sl.nil.v]->gj [a] 113 #[pB k,O U 0,X (((ao #[99,104,97,114,116,32])++b)++(ao #[32,123]))] x λy=>VS y k 199 λH=>Ju 0 H y λC k3 i K z=>N (decide (i<(c.n:Int))) (o0 z λd=>aF d k 199 [K.v]->∃J:aJ,J a/\∃p0,cR c i 3 p0/\J ((p0.add 0).block)/\Cg d (p0.add 0) λs=>(4+(s.size:Int))<=9223372036854775807/\((((ao #[118,97,114,32])++s).size:Int)+3)<=9223372036854775807/\∃u,cR c i 3 u/\iB d (u.add 1) λF=>rA [a] 114 #[O U F] d λq e=>VS e k 199 λP=>bT J d e/\(((((ao #[118,97,114,32])++s)++(ao #[32,61,32])).size:Int)+(q.size:Int))<=9223372036854775807/\((((((ao #[118,97,114,32])++s)++(ao #[32,61,32]))++q).size:Int)+1)<=9223372036854775807/\gj [a] 113 #[pB k,O U 1,X (((((ao #[118,97,114,32])++s)++(ao #[32,61,32]))++q)++(ao #[59]))] e λr=>VS r k 199 λL=>bT J e r/\nx k3 λG=>C G (ar U (i+1)) L r) (gj [a] 115 #[pB k,ck g b h j l m n o p,O U 1] z λA=>VS A k 199 λS=>gj [a] 113 #[pB k,O U 0,X (ao #[125])] A λf=>VS f k 199 λt=>N (decide ((t.n:Int)>16384)) (R (ai #[X (ao #[]),O U 2]) f) (∃B:aH,vD f t B/\R (ai #[X (ao B.toArray),O U 0]) f)))):Cr 80 #[cP c g b h j l m n o p] w R:=
 fC (.d 5 (.s (.s .o (.j [1,5,12] [.s 6 dr,.b 12 [.sl]] .o .o)) .o)) E
def alS(k:Addr)(n:Int)(xK u Y:aK)(Z yd v o:Sl)(H at_:Int)(am:nw w λa w0=>∃m:Nat->Int->Bool->Int->av->Prop,∃k1:Nat,m k1 0 aL 0 w0/\∀E i c d h,m E i c d h->N (decide (d<(o.n:Int))) (∃p0,cR o d 9 p0/\iB h (p0.add 0) λi2=>kF [a] 29 #[O U i2] h λb1 V=>oO (λi3 W=>∃K,(c=aL->cR o d 9 K)/\∃T,(c=aL->aB W (K.add 1) [X T])/\o0 W λw4=>nx E λk3=>m k3 i3 (c||(T.toList==u.toList)) (ar U (d+1)) w4) λy=>N (!b1) (y (ar U (i+1)) V) (y i V)) (kF [a] 29 #[O U n] h λb2 l=>AO (λw6=>gj [a] 116 #[pA k,Z.v] w6 λw7=>gj [a] 116 #[pA k,yd.v] w7 λw8=>mO 0 w8 λJ3 k5 t x=>N (decide (t<(v.n:Int))) (AO (λdz=>nx k5 λk6=>J3 k6 (ar U (t+1)) dz) λz=>gF v t x λi5 s1 C b3 i7 i8 s2 i9 l0 q l1 l2 e=>nw x λf F=>AO (λeZ=>gj [a,f] 117 #[pA k,bO i7 i8 s2 i9 l0 q] eZ λfl=>gj [a,f] 116 #[pA k,l1.v] fl λgw=>kF [a,f] 118 #[pA k,l2.v] gw λb4 D=>N (!b4) (gj [a,f] 47 #[pA k,O U 27,O U e] D λjw=>z jw) (z D)) λA=>N ((i5==3)&&((C==0)||(decide (C>1099511627776)))) (gj [a,f] 47 #[pA k,O U 28,O U e] F λiX=>A iX) (A F)) (R (ai #[]) x)) λJ=>N b2 (o0 l λG=>kl G (k.add 10) λl3=>qe [a] 23 #[l3.v,X Y] G λb lZ=>o0 lZ λg=>kl g (k.add 10) λl4=>kl g (k.add 10) λl5=>∃M,cR l5 at_ 5 M/\iB g (M.add 2) λr=>kF [a] 50 #[l4.v,O U b,O U r] g λb5 j=>oO (λb6 S=>N b6 (gj [a] 47 #[pA k,O U 26,O U H] S λth=>J th) (J S)) λB=>N ((decide (b<0))||(!b5)) (B aE j) (kl j (k.add 10) λl6=>∃P,cR l6 b 5 P/\iB j (P.add 0) λs=>kF [a] 29 #[O U s] j λb7 uF=>B b7 uF)) (oO (λb8 L=>N b8 (gj [a] 47 #[pA k,O U 25,O U H] L λsC=>J sC) (N (((n==1)&&(i==0))&&(decide ((o.n:Int)>0))) (gj [a] 47 #[pA k,O U 26,O U H] L λvP=>J vP) (J L))) λp=>N ((n==2)&&((!(u.toList==((ao #[]).toList)))||(decide (i<2)))) (p ((n==2)&&((!(u.toList==((ao #[]).toList)))||(decide (i<2)))) l) (N (((n==1)&&(decide (i>0)))&&(!c)) (p (((n==1)&&(decide (i>0)))&&(!c)) l) (p (((n==1)&&(i==0))&&(!(u.toList==((ao #[]).toList)))) l))))):Cr 81 #[pA k,ck n xK u Y Z yd v o H,O U at_] w R:=
 fC (.d 3 (.s (.s .o (.j [0,2,4] [.s 6 dr,.s 7 .bool,.s 8 dr] (.s .o (.s (.s .o (.j [0,2,4,7,8] [.s 6 dr] .o .o)) .o)) .o)) (.s .o (.j [0,4] [] (.s .o (.s (.d 2 (.s (.j [0,4] [.s 88 .bool] .o .o) .o)) (.j [0,4,6] [.s 93 .bool] .o .o))) (.d 3 (.j [0,4] [.s 13 dr] (.s .o (.j [0,4,13] [] (.s .o (.j [0,4,13,14] [] .o .o)) .o)) .o)))))) am
def alT(s:Sl)(d:OV)(q:cI 119 #[s.v,d.v] w λa h=>N (a==(-1)) (R s.v h) (Ju a (ar U (a+1)) h λn t i b e=>N (decide (b<(s.n:Int))) (oO (λr B=>nx t λu=>n u r (ar U (b+1)) B) λJ=>Gc s b e λg=>∃k3:Nat,∃z m,d.v=(.func (.func k3) z.toArray m.toArray)/\(∀x:Array aw,∀j,((callFunc k3 x).run aq j)=(.ok (.enter k3 x) j))/\cB k3 ((A3 (A3 z [O U g]) m).toArray) e λo f=>N (!o) (∃p,cR s i 1 p/\sT p f 1 λv y D A=>sS f v y D A [O U g] λC=>J (ar U (i+1)) C) (J i f)) (∃k:Nat,(i=(k:Int)/\k<=s.n/\s.n<=s.c)/\∃l,((Builtin.clear_ #[33] 0 #[(s.cut k s.n s.c 1).v]).run aq e)=(.ok (ai #[]) l)/\∃c:Nat,(i=(c:Int)/\c<=s.c)/\R ((s.cut 0 c s.c 1).v) l))):Cr 82 #[s.v,d.v] w R:=
 fB (an:=.d 3 (.s (.s .o (.j [0,1] [.s 5 (.int .i64),.s 6 (.int .i64)] (.s .o (.j [0,1,6] [.s 5 (.int .i64)] .o .o)) .o)) .o)) (args:=[.sl s,.raw d]) q
def as2(l:Sl)(n:Int)(R:aG)(b:av)(h:cB 120 #[l.v,O U n] b λe c=>N (!e) (R Sl.nil.v c) (∃J:Nat->Sl->Int->av->Prop,∃j:Nat,J j Sl.nil (ar U (n+1)) c/\∀k,∀a:Sl,∀i w,J k a i w->∃p0,cR l n 5 p0/\iB w (p0.add 4) λf=>N (decide (i<f)) (lW 33 (O U i) w λo r=>uB 33 a o r λq d=>∃p,cR l i 5 p/\iB d (p.add 4) λg=>nx k λm=>J m q g d) (R a.v w))):Cr 83 #[l.v,O U n] b R:=
 fC (.d 3 (.s (.s .o (.j [0,1] [.s 5 .sl,.s 6 dr] .o .o)) .o)) h
def as3(k:Int)(m:Addr)(h:xCQ w m λq=>∃p0,q=(aM p0)/\kl w ((p0.add 0).add 0) λl=>∃p,cR l k 5 p/\iB w (p.add 0) λi=>cB 85 #[O U i] w λb a=>R (aj b) a):Cr 84 #[O U k,pA m] w R:=
 je h
def as4(kind:Int)(h:R (aj ((kind==3)||(kind==4))) w):Cr 85 #[O U kind] w R:=
 je h
def VY(s:Sl)(f:OV)(R:aG)(w:av)(h:cI 119 #[s.v,f.v] w λi a=>R (aj (decide (i>=0))) a):Cr 86 #[s.v,f.v] w R:=
 fB (an:=.o) (args:=[.sl s,.raw f]) h
def as5(k:Int)(m:Addr)(h:xCQ w m λq=>∃p0,q=(aM p0)/\SH w (p0.add 5) λc=>∃b a,((Instr.lookup 115 (.map c) (O U k) aL).run aq w)=(.ok (aj b) a)/\R (aj b) a):Cr 87 #[O U k,pA m] w R:=
 je h
def as6(s:Option Nat)(h:rV 122 #[.map s] w λv a=>cL 121 #[v.v] a λl b=>R l.v b):Cr 88 #[.map s] w R:=
 je h
def alU(l:Sl)(h:∃J:Nat->Sl->Int->av->Prop,∃o:Nat,J o Sl.nil 0 w/\∀e,∀b:Sl,∀i a,J e b i a->N (decide (i<(l.n:Int))) (jT l i a λg j t m p n=>nw a λk u=>xP [k] 89 #[p.v] u λq v=>∀c,Q [k] v c->lW 66 (bO g j t m q n) c λr d=>cu [k] c d/\uB 66 b r d λs f=>cu [k] d f/\nx e λk3=>J k3 s (ar U (i+1)) f) (R b.v a)):Cr 89 #[l.v] w R:=
 fC (.d 2 (.s (.s .o (.j [0] [.s 3 .sl,.s 4 dr] .o .o)) .o)) h
def as7(k:Addr)(ok:Bool)(err at_:Int)(h:∃i,((!ok)=aE->aB w ((k.add 3).add 0) [O U i])/\N ((!ok)&&(i==0)) (sT (k.add 3) w 2 λa b z c=>sS w a b z c [O U err,O U at_] λd=>R (ai #[]) d) (R (ai #[]) w)):Cr 90 #[pA k,aj ok,O U err,O U at_] w R:=
 je h
def as8(k:Addr)(n:Int)(xK G x:aK)(xZ yd vB o:Sl)(u at_:Int)(C:nw w λa w0=>∃f:Nat->Int->Bool->Int->av->Prop,∃P:Nat,f P 0 aL 0 w0/\∀p i g b c,f p i g b c->N (decide (b<(o.n:Int))) (fm o b c λD Y s1 s2 l0 l1 l2 l3 i3=>nw c λk3 w2=>oO (λE w3=>nx p λS=>f S E (g||(Y.toList==G.toList)) (ar U (b+1)) w3) λh=>kF [a,k3] 123 #[O U D] w2 λv r=>N (!v) (h (ar U (i+1)) r) (h i r)) (kF [a] 123 #[O U n] c λy e=>N y (o0 e λs=>SH s (k.add 0) λW=>qe [a] 124 #[.map W,X x] s λm w7=>AO (λw8=>R (ai #[]) w8) λj=>o0 w7 λt=>∃J:aJ,J a/\kF [a] 125 #[pA k,O U m] t λz d=>bT J t d/\N z (kl d (k.add 1) λT=>kl d (k.add 1) λV=>∃q,cR V at_ 5 q/\iB d (q.add 2) λH=>kF [a] 126 #[T.v,O U m,O U H] d λA F=>bT J d F/\gj [a] 90 #[pA k,aj A,O U 26,O U u] F λZ=>bT J F Z/\j Z) (gj [a] 90 #[pA k,aj aL,O U 26,O U u] d λl=>bT J d l/\j l)) (N (n==2) (gj [a] 90 #[pA k,aj ((G.toList==((ao #[]).toList))&&(decide (i>1))),O U 25,O U u] e λB=>R (ai #[]) B) (N (decide (i>0)) (gj [a] 90 #[pA k,aj g,O U 25,O U u] e λL=>R (ai #[]) L) (gj [a] 90 #[pA k,aj (G.toList==((ao #[]).toList)),O U 25,O U u] e λM=>gj [a] 90 #[pA k,aj ((o.n:Int)==0),O U 26,O U u] M λK=>R (ai #[]) K))))):Cr 91 #[pA k,ck n xK G x xZ yd vB o u,O U at_] w R:=
 fC (.d 3 (.s (.s .o (.j [0,2,4,12,13] [.s 6 dr,.s 7 .bool,.s 14 dr] (.d 2 (.s (.s .o (.j [0,2,4,7,9,12,13,14] [.s 6 dr] .o .o)) .o)) .o)) (.s .o (.s (.s .o (.j [4,9] [] .o .o)) .o)))) C
def as9(k:Addr)(rows:Sl)(h:cL 127 #[rows.v] w λl y=>mO 0 y λg s i b=>N (decide (i<(l.n:Int))) (sM l i b λj v m n x o t p q=>nw b λa f=>AO (λz=>gj [a] 93 #[pA k,bO m n x o t p] z λA=>nx s λk3=>g k3 (ar U (i+1)) A) λJ=>N (j==1) (o0 f λc=>SH c (k.add 2) λu=>∃r e d,((Instr.lookup 128 (.map u) (X v) aE).run aq c)=(.ok (ai #[O U r,aj e]) d)/\cu [a] c d/\gj [a] 90 #[pA k,aj e,O U 23,O U q] d λB=>J B) (J f)) (R (ai #[]) b)):Cr 92 #[pA k,rows.v] w R:=
 fC (.s .o (.j [0,9,10] [.s 11 dr] (.d 2 (.s (.s .o (.j [0,5,9,10,11] [] .o .o)) .o)) .o)) h
def ata(k:Addr)(x P:Int)(l:aK)(S:Int)(m:Sl)(n:Int)(r:nw w λa c=>AO (λH=>mO 0 H λp A i e=>N (decide (i<(m.n:Int))) (jT m i e λs t G u C v=>nw e λk3 K=>gj [a,k3] 93 #[pA k,bO s t G u C v] K λL=>nx A λB=>p B (ar U (i+1)) L) (R (ai #[]) e)) λb=>N (x==2) (o0 c λf=>SH f (k.add 2) λD=>∃y o g,((Instr.lookup 128 (.map D) (X l) aE).run aq f)=(.ok (ai #[O U y,aj o]) g)/\cu [a] f g/\gj [a] 90 #[pA k,aj o,O U 23,O U n] g λM=>b M) (N (x==3) (o0 c λh=>∃J:aJ,SH h (k.add 0) λE=>J a/\qe [a] 124 #[.map E,X l] h λz j=>bT J h j/\kF [a] 125 #[pA k,O U z] j λq d=>bT J j d/\gj [a] 90 #[pA k,aj q,O U 23,O U n] d λF=>bT J d F/\b F) (b c))):Cr 93 #[pA k,bO x P l S m n] w R:=
 fC (.s .o (.j [0,3] [] .o (.s .o (.j [0,3,43,44] [.s 45 dr] .o .o)))) r
def atb(k:Addr)(l:Sl)(A:nw w λa Y=>∃J:Nat->Sl->Int->Option Addr->av->Prop,∃G:Nat,J G Sl.nil 0 (aM k) Y/\∀n,∀f:Sl,∀i q c,J n f i q c->N (decide (i<(l.n:Int))) (FA l i c λW=>∃p,q=(aM p)/\SH c (p.add 0) λS=>qe [a] 124 #[.map S,X W] c λe u=>N (decide (e<1)) (nw u λk3 w3=>R (aj aL) w3) (nw u λb w4=>jn2 (λT B g=>aF g a 126 [ae T]->aF g b 3 [O U B]->cB 86 #[f.v,.func (.func 128) #[] #[pB a,pB b]] g λx d=>xKQ d a 126 λV=>xKI d b 3 λC=>N x (R (aj aL) d) (lW 33 (O U C) d λK h=>cu [a,b] d h/\uB 33 f K h λL v=>cu [a,b] h v/\nx n λH=>J H L (ar U (i+1)) V v)) λm=>∃o,q=(aM o)/\o0 w4 λj=>kl j (o.add 1) λM=>∃r,cR M e 5 r/\iB j (r.add 0) λD=>kF [a,b] 123 #[O U D] j λy z=>N y (∃s,q=(aM s)/\o0 z λF=>kl F (s.add 1) λP=>∃t,cR P e 5 t/\iB F (t.add 2) λE=>∀Z,Q [b] F Z->m q E Z) (m q e z))) (R (aj aE) c)):Cr 94 #[pA k,l.v] w R:=
 fC (.d 2 (.s (.s .o (.j [2,9,10] [.s 5 .sl,.s 11 dr,.b 2 [.ptr]] (.d 2 (.s (.d 3 (.j [2,5,8,9,10,11] [.b 2 [.ptr],.b 8 [dr]] .o .o)) .o)) .o)) .o)) A
def alV(c:Sl)(f:Int)(g o h:aK)(p r s t:Sl)(u:Int)(aT:vW w λa k w0=>VV [a,k] 130 #[ck f g o h p r s t u] w0 λi0 i1 w1=>(aF w1 k 216 [ae aaa,Sl.nil.v,aj aL,O U 0]->a≠k->gj [a] 131 #[pB k,aj (((((f==1)&&(h.toList==((ao #[]).toList)))&&(decide ((c.n:Int)<=16)))&&(decide (i0<=64)))&&(decide (i1<=200)))] w1 λw2=>pq w2 k 216 λq0 l0 b0 i2=>rA [a] 133 #[pB k,X g] w2 λs0 D=>pq D k 216 λq1 l1 b1 i3=>rb3 32 (X (ao #[99,104,97,114,116])) (X s0) (X (ao #[123])) D λl2 w4=>cu [a,k] D w4/\gj [a] 132 #[pB k,O U 0,l2.v] w4 λw5=>pq w5 k 216 λq2 l3 b2 i4=>∃m:Nat->Int->Option Addr->Sl->Bool->Int->av->Prop,∃k2:Nat,m k2 0 q2 l3 b2 i4 w5/\∀k3 j q3,∀T:Sl,∀H K l,m k3 j q3 T H K l->N (decide (j<(c.n:Int))) (adL c j l λs1 L i8=>nw l λb w7=>aF w7 k 216 [ae q3,T.v,aj H,O U K]->gj [a,b] 131 #[pB k,aj (L !=(-9223372036854775808))] w7 λw8=>pq w8 k 216 λq4 l5 b4 i9=>o0 w8 λE=>aF E k 216 [ae q4,l5.v,aj b4,O U i9]->∃J:aJ,J b/\rA [a,b] 133 #[pB k,X s1] E λs2 z=>pq z k 216 λq5 l6 b5 bv=>bT J E z/\rA [a,b] 134 #[O U L] z λs3 F=>pq F k 216 λq6 l7 b6 bV=>bT J z F/\((s3.size:Int)+1)<=9223372036854775807/\∃V:Sl,∃e,((au 32 4 #[.mk 0 (X (ao #[118,97,114])),.mk 1 (X s2),.mk 2 (X (ao #[61])),.mk 3 (X (s3++(ao #[59])))]).run aq F)=(.ok V.v e)/\cu [a,k,b] F e/\bT J F e/\gj [a,b] 132 #[pB k,O U 1,V.v] e λv=>pq v k 216 λq7 l9 b7 y=>bT J e v/\nx k3 λk5=>m k5 (ar U (j+1)) q7 l9 b7 y v) (gj [a] 135 #[pB k,ck f g o h p r s t u,O U 1] l λx=>pq x k 216 λq8 fd b8 bY=>lW 32 (X (ao #[125])) x λrY M=>cu [a,k] x M/\gj [a] 132 #[pB k,O U 0,rY.v] M λC=>pq C k 216 λq9 uE b9 cc=>N b9 (R (ai #[X (ao #[]),O U 22]) C) (kF [a] 136 #[pB k] C λn B=>pq B k 216 λgE yX am ce=>N n (R (ai #[X (ao #[]),O U 2]) B) (rA [a] 137 #[pB k] B λs4 S=>pq S k 216 λgG Ct aC co=>qf [a] 40 #[X s4] S λFK cC s5 s6 s7 RN TW MT OH dO A el Z=>pq Z k 216 λq G d i=>N (A !=0) (vW Z λk6 k7 P=>aF P k 216 [ae q,G.v,aj d,O U i]->R (ai #[X (ao #[]),O U 22]) P) (vW Z λk8 k9 W=>aF W k 216 [ae q,G.v,aj d,O U i]->rA [a,k8,k9] 137 #[pB k] W λs8 Y=>pq Y k 216 λTY UI aS eQ=>R (ai #[X s8,O U 0]) Y)))))):Cr 95 #[cP c f g o h p r s t u] w R:=
 fC (.d 5 (.s (.s .o (.j [1,4,12,54,55] [.s 56 dr,.b 12 [.ptr,.sl,.bool,dr]] .o .o)) .o)) aT
def atc(l:Sl)(name:aK)(h:nw w λk a=>aF a k 9 [X name]->cI 138 #[l.v,.func (.func 139) #[] #[pB k]] a λi b=>xKS b k 9 λs=>R (O U i) b):Cr 96 #[l.v,X name] w R:=
 je h
def atd(c n:Sl)(R:aG)(m:av)(u:nw m λk d=>jn2 (λr D e=>N r (R (O U (-1)) e) (Gc n 0 e λv=>(1<=n.n/\n.n<=n.c)/\∃J:Nat->Int->Int->Sl->av->Prop,∃z:Nat,J z v 0 D e/\∀h a i,∀j:Sl,∀w,J h a i j w->N (decide (i<((n.cut 1 n.n n.c 1).n:Int))) (Gc (n.cut 1 n.n n.c 1) i w λx=>Ju a j w λq A b l F=>kF [k] 141 #[l.v,O U b,O U x] F λs f=>N (!s) (∃p,cR l b 5 p/\iB f (p.add 2) λy=>nx A λB=>q B y l f) (nx h λC=>J C b (ar U (i+1)) l f)) (R (O U a) w))) λg=>N ((n.n:Int)==0) (g aE c d) (aF d k 43 [c.v]->cB 86 #[n.v,.func (.func 140) #[] #[pB k]] d λt o=>VS o k 43 λE=>g t E o)):Cr 97 #[c.v,n.v] m R:=
 fC (.s .o (.s (.s (.j [1,2] [.s 15 .bool,.b 2 [.sl]] .o .o) .o) (.s .o (.s (.s .o (.j [2,20,21] [.s 5 dr,.s 22 dr,.b 2 [.sl]] (.d 2 (.s (.s .o (.j [2,7,20,21,22] [.s 5 dr,.b 2 [.sl]] .o .o)) .o)) .o)) .o)))) u
def alW(s:Sl)(v:Int)(h:cI 142 #[s.v,O U v] w λi a=>R (aj (decide (i>=0))) a):Cr 98 #[s.v,O U v] w R:=
 je h
def ate(e x:Int)(b:aK)(C:Int)(F:Sl)(J f P:Int)(d:aK)(c:Int)(K:Sl)(Y:Int)(at_:Bool)(m:vW w λv y g=>N ((((((e !=f)||(x !=P))||(!(b.toList==d.toList)))||(C !=c))||(at_&&(J !=Y)))||((F.n:Int) !=(K.n:Int))) (R (aj aL) g) (mO 0 g λk k3 i h=>N (decide (i<(F.n:Int))) (∃p0,cR F i 6 p0/\o0 h λa=>jC a p0 λn o D p A q=>jT K i a λr s E t B u=>kF [v,y] 99 #[bO n o D p A q,bO r s E t B u,aj at_] a λl j=>N (!l) (R (aj aL) j) (nx k3 λz=>k z (ar U (i+1)) j)) (R (aj aE) h))):Cr 99 #[bO e x b C F J,bO f P d c K Y,aj at_] w R:=
 fC (.d 2 (.s (.s .o (.j [2,3,4] [.s 7 dr] .o .o)) .o)) m
def alX(b c:Sl)(h:N ((b.n:Int) !=(c.n:Int)) (R (aj aL) w) (mO 0 w λJ k i a=>N (decide (i<(b.n:Int))) (FA b i a λs=>FA c i a λe=>N (!(s.toList==e.toList)) (o0 a λf=>R (aj aL) f) (o0 a λg=>nx k λd=>J d (ar U (i+1)) g)) (R (aj aE) a))):Cr 100 #[b.v,c.v] w R:=
 fC (.d 2 (.s (.s .o (.j [0,1] [.s 5 dr] .o .o)) .o)) h
def alY(h:∃l:Sl,∃a,((au 32 16 #[.mk 0 (X (ao #[97,102,116,101,114])),.mk 1 (X (ao #[97,108,119,97,121,115])),.mk 2 (X (ao #[99,104,97,114,116])),.mk 3 (X (ao #[100,101,101,112])),.mk 4 (X (ao #[101,109,105,116])),.mk 5 (X (ao #[101,110,116,101,114])),.mk 6 (X (ao #[104,105,115,116,111,114,121])),.mk 7 (X (ao #[105,110])),.mk 8 (X (ao #[105,110,105,116,105,97,108])),.mk 9 (X (ao #[108,101,97,118,101])),.mk 10 (X (ao #[111,110])),.mk 11 (X (ao #[112,97,114,97,108,108,101,108])),.mk 12 (X (ao #[114,97,105,115,101])),.mk 13 (X (ao #[115,101,116])),.mk 14 (X (ao #[115,116,97,116,101])),.mk 15 (X (ao #[118,97,114]))]).run aq w)=(.ok l.v a)/\R l.v a):Cr 101 #[] w R:=
 je h
def alZ(c:Addr)(j:lp0 w λJ k B=>cB 103 #[pA c] B λf a=>N (!f) (Cg a (c.add 0) λv=>iB a (c.add 1) λi=>∃c0:UInt8,(0<=i/\(v[Int.toNat i]?)=(aM c0))/\o0 a λC=>rb4 197 (.int .u8 9) (.int .u8 10) (.int .u8 13) (.int .u8 32) C λt D=>cB 143 #[.int .u8 (UInt8.toNat c0:Int),t.v] D λg b=>N g (iB b (c.add 1) λl=>sT (c.add 1) b 1 λk3 n H o=>sS b k3 n H o [O U (ar U (l+1))] λE=>nx k λp=>J p E) (cS 145 #[pA c] b λx F=>cB 144 #[X x,X (ao #[47,47])] F λh e=>N h (cS 145 #[pA c] e λy G=>VU 146 #[X y,X (ao #[10])] G λA M L d=>iB d (c.add 1) λm=>sT (c.add 1) d 1 λq r K s=>sS d q r K s [O U (ar U (m+(A.size:Int)))] λz=>nx k λu=>J u z) (R (ai #[]) e))) (R (ai #[]) a)):Cr 102 #[pA c] w R:=
 fC (.j [0] [] .o .o) j
def al0(c:Addr)(h:iB w (c.add 1) λi=>Cg w (c.add 0) λs=>o0 w λa=>R (aj (decide (i>=(s.size:Int)))) a):Cr 103 #[pA c] w R:=
 je h
def al1(c:Addr)(R:aG)(w:av)(h:Cg w ((c.add 0).add 0) λs=>iB w ((c.add 0).add 1) λi=>∃c0:UInt8,(0<=i/\(s[Int.toNat i]?)=(aM c0))/\o0 w λk=>cB 147 #[.int .u8 (UInt8.toNat c0:Int)] k λd a=>N d (cI 148 #[pA c] a λf l=>R (O U f) l) (cB 149 #[.int .u8 (UInt8.toNat c0:Int)] a λe b=>N e (cI 150 #[pA c] b λg m=>R (O U g) m) (cI 151 #[pA c] b λj n=>R (O U j) n))):Cr 104 #[pA c] w R:=
 je h
def al2(c:Addr)(t:Int)(h:aK)(i x n:Int)(l:nw w λk j=>iB j ((c.add 0).add 1) λm=>∀a,Q [k] j a->∃J:aJ,J ((c.add 3).block)/\kl a (c.add 3) λs=>lW 142 (nW t h i m) a λu b=>cu [k] a b/\bT J a b/\uB 142 s u b λv d=>cu [k] b d/\bT J b d/\sT (c.add 3) d 1 λf p z k3=>k≠f/\sS d f p z k3 [v.v] λe=>iB e ((c.add 0).add 1) λo=>sT ((c.add 0).add 1) e 1 λg q A r=>k≠g/\sS e g q A r [O U (ar U (o+n))] λy=>R (ai #[]) y):Cr 105 #[pA c,nW t h i x,O U n] w R:=
 je l
def al3(r:Addr)(M:Option Addr)(err:Int)(h:AO (λa=>∃p0,M=(aM p0)/\iB a p0 λi=>∃p,M=(aM p)/\sT p a 1 λk d z e=>sS a k d z e [O U (ar U (i-1))] λf=>R (ai #[]) f) λJ=>∃b,M=(aM b)/\iB w b λc=>N (c==0) (cU 107 #[pA (r.add 0),O U err] w λg=>J g) (J w)):Cr 106 #[pA r,ae M,O U err] w R:=
 fB (an:=.j [1] [] .o .o) (args:=[.ad r,.ptr M,.int .i64 err]) h
def al4(c:Addr)(err:Int)(h:cB 76 #[pA c] w λd b=>N d (o0 b λa=>kl a (c.add 0) λl=>iB a (c.add 1) λi=>∃p0,cR l i 4 p0/\iB a (p0.add 3) λe=>sT (c.add 2) a 2 λk f z g=>sS a k f z g [O U err,O U e] λj=>R (ai #[]) j) (R (ai #[]) b)):Cr 107 #[pA c,O U err] w R:=
 je h
def al5(c:Addr)(k:Int)(l:nw w λa b=>∃J:aJ,J ((c.add 0).block)/\kl b (c.add 0) λr=>J ((c.add 1).block)/\iB b (c.add 1) λm=>∃p0,cR r m 4 p0/\J p0.block/\HN b p0 λi s n o=>nw b λe t=>kF [a,e] 76 #[pA c] t λj d=>N ((!j)||(i !=k)) (gj [a,e] 77 #[pA c] d λu=>∀g,Q [a] u g->R (nW 0 (ao #[]) 0 0) g) (iB d (c.add 1) λp=>sT (c.add 1) d 1 λf k3 z q=>a≠f/\e≠f/\sS d f k3 z q [O U (ar U (p+1))] λv=>∀h,Q [a] v h->R (nW i s n o) h)):Cr 108 #[pA c,O U k] w R:=
 je l
def al6(c:Addr)(texts:Sl)(h:o0 w λa=>∃J:aJ,J ((c.add 0).block)/\kl a (c.add 0) λl=>J ((c.add 1).block)/\iB a (c.add 1) λe=>∃p0,cR l e 4 p0/\J p0.block/\HN a p0 λi s m n=>nw a λk g=>kF [k] 76 #[pA c] g λd b=>N ((!d)||((i !=2)&&(i !=4))) (R (O U 0) b) (qe [k] 152 #[texts.v,X s] b λf j=>R (O U (ar U (f+1))) j)):Cr 109 #[pA c,texts.v] w R:=
 je h
def al7(r:Addr)(n:Option Addr)(h:Option Addr)(L:∃o:Sl,∃A,((au 32 3 #[.mk 0 (X (ao #[111,110])),.mk 1 (X (ao #[97,108,119,97,121,115])),.mk 2 (X (ao #[97,102,116,101,114]))]).run aq w)=(.ok o.v A)/\cI 109 #[pA (r.add 0),o.v] A λk B=>N (decide (k>0)) (o0 B λc=>∃J:aJ,∃p0,n=(aM p0)/\J ((p0.add 6).block)/\kl c (p0.add 6) λl1=>A6 153 #[pA r,O U k] c λP s0 S F T V s1 W l2 i6 l3 l4 i7 e=>bT J c e/\lW 24 (fi P s0 S F T V s1 W l2 i6 l3 l4 i7) e λl5 f=>bT J e f/\uB 24 l1 l5 f λl6 g=>bT J f g/\∃p,n=(aM p)/\sT (p.add 6) g 1 λk0 k1 z0 k2=>sS g k0 k1 z0 k2 [l6.v] λw6=>R (aj aE) w6) (rb3 32 (X (ao #[105,110,105,116,105,97,108])) (X (ao #[101,110,116,101,114])) (X (ao #[108,101,97,118,101])) B λl7 w7=>cI 109 #[pA (r.add 0),l7.v] w7 λi a=>N (i==0) (R (aj aL) a) (∃q,h=(aM q)/\∃s,Pc q i 4 1 s/\xCB a s λG=>N G (cU 77 #[pA (r.add 0)] a λw9=>R (aj aL) w9) (∃t,h=(aM t)/\∃u,Pc t i 4 1 u/\sT u a 1 λk3 k4 z1 k5=>sS a k3 k4 z1 k5 [aj aE] λz=>iB z ((r.add 0).add 1) λi9=>sT ((r.add 0).add 1) z 1 λk6 k7 z2 k8=>sS z k6 k7 z2 k8 [O U (ar U (i9+1))] λd=>AO (λH=>R (aj aE) H) λb=>N (i==1) (cS 154 #[pA (r.add 0)] d λs2 j=>∃v,n=(aM v)/\sT (v.add 2) j 1 λk9 re z3 pY=>sS j k9 re z3 pY [X s2] λK=>lW 32 (X (ao #[59])) K λl8 ij=>cU 71 #[pA (r.add 0),l8.v] ij λjw=>b jw) (N (i==2) (cL 155 #[pA r] d λl9 m=>∃x,n=(aM x)/\sT (x.add 4) m 1 λC xX z4 E=>sS m C xX z4 E [l9.v] λku=>b ku) (cL 155 #[pA r] d λl Z=>∃y,n=(aM y)/\sT (y.add 5) Z 1 λM D z5 Y=>sS Z M D z5 Y [l.v] λkg=>b kg)))))):Cr 110 #[pA r,ae n,ae h] w R:=
 fB (an:=.d 7 (.j [] [] .o .o)) (args:=[.ad r,.ptr n,.ptr h]) L
def al8(r:Addr)(kind:Int)(H:nw w λk S=>pU [k] 72 #[pA r,O U kind] S λi v x M n o p q h C=>N (decide (kind>=3)) (nw C λb D=>lW 32 (X (ao #[45,62])) D λJ E=>cu [k,b] D E/\gj [k,b] 71 #[pA (r.add 0),J.v] E λT=>rA [k,b] 154 #[pA (r.add 0)] T λP V=>∀c,Q [b] V c->lW 32 (X (ao #[59])) c λK F=>cu [k,b] c F/\gj [k,b] 71 #[pA (r.add 0),K.v] F λW=>∀G,Q [k] W G->R (ck i v x P n o p q h) G) (nw C λa z=>lW 32 (X (ao #[123])) z λL d=>cu [k,a] z d/\gj [k,a] 71 #[pA (r.add 0),L.v] d λe=>(aF e a 27 [O U i,X v,X x,X M,n.v,o.v,p.v,q.v,O U h]->k≠a->gj [k] 75 #[pA r,pB a] e λf=>KC f a 27 λj y A B s t u l m=>∀g,Q [k] f g->aF g a 27 [O U j,X y,X A,X B,s.v,t.v,u.v,l.v,O U m]->R (ck j y A B s t u l m) g))):Cr 111 #[pA r,O U kind] w R:=
 je H
def al9(c:Sl)(a:Int)(f g h:aK)(j l m n:Sl)(o:Int)(v:nw w λq B=>mO 0 B λJ z i d=>N (decide (i<(c.n:Int))) (∃p0,cR c i 3 p0/\Cg d (p0.add 0) λA=>kF [q] 156 #[X A] d λb e=>∃r,((!b)=aL->cR c i 3 r)/\∃p,((!b)=aL->aB e (r.add 1) [O U p])/\N ((!b)||(p==(-9223372036854775808))) (R (aj aL) e) (nx z λk3=>J k3 (ar U (i+1)) e)) (nw d λk s=>aF s k 238 [O U 0,O U 0,O U 0]->kF [q] 157 #[pB k,ck a f g h j l m n o,O U 0] s λu t=>alh t k 238 λC x y=>R (aj ((((u&&(a==1))&&(decide ((c.n:Int)<=16)))&&(decide (x<=200)))&&(decide (y<=400)))) t)):Cr 112 #[cP c a f g h j l m n o] w R:=
 fC (.s .o (.s (.s .o (.j [1] [.s 3 dr] .o .o)) .o)) v
def ama(p:Addr)(deep:Int)(s:aK)(h:kl w (p.add 0) λq=>N (decide ((q.n:Int)>16384)) (R (ai #[]) w) (mO 0 w λJ k i a=>N (decide (i<deep)) (kl a (p.add 0) λr=>NH 197 (.int .u8 32) (.int .u8 32) a λt C=>uB 197 r t C λu b=>sT (p.add 0) b 1 λf k3 G g=>sS b f k3 G g [u.v] λD=>nx k λj=>J j (ar U (i+1)) D) (kl a (p.add 0) λv=>NE (Builtin.append_ #[197,9] 197 #[v.v,X s]) a λx c=>sT (p.add 0) c 1 λl m H n=>sS c l m H n [x.v] λd=>kl d (p.add 0) λy=>lW 197 (.int .u8 10) d λz E=>uB 197 y z E λA e=>sT (p.add 0) e 1 λo B K Y=>sS e o B K Y [A.v] λF=>R (ai #[]) F))):Cr 113 #[pA p,O U deep,X s] w R:=
 fC (.s .o (.s (.s .o (.j [0,1,2] [.s 6 dr] .o .o)) .o)) h
def amb(n:Int)(h:N (n==0) (R (X (ao #[48])) w) (N (decide (n<0)) (ali 159 #[O U n] w λi c=>cS 158 #[.int .u64 i] c λs d=>(1+(s.size:Int))<=9223372036854775807/\R (X ((ao #[45])++s)) d) (ali 159 #[O U n] w λa e=>cS 158 #[.int .u64 a] e λb f=>R (X b) f))):Cr 114 #[O U n] w R:=
 je h
def amc(p:Addr)(x:Int)(x1 a x3:aK)(g h c j:Sl)(x8 deep:Int)(B:nw w λk q=>AO (λr=>AO (λt=>AO (λw3=>mO 0 w3 λu P i b=>∃n:Sl,((decide (i<(c.n:Int)))=aE->aB b (p.add 0) [n.v])/\N ((decide (i<(c.n:Int)))&&(decide ((n.n:Int)<=16384))) (gF c i b λC s0 D y E G s1 H V K W Y L=>rA [k] 161 #[fi C s0 D y E G s1 H V K W Y L] b λs2 w5=>gj [k] 113 #[pA p,O U deep,X s2] w5 λw6=>nx P λk3=>u k3 (ar U (i+1)) w6) (mO 0 b λv S e f=>N (decide (e<(j.n:Int))) (fm j e f λM s3 s4 s5 l4 l5 l6 l7 d=>gj [k] 162 #[pA p,ck M s3 s4 s5 l4 l5 l6 l7 d,O U deep] f λw8=>nx S λT=>v T (ar U (e+1)) w8) (R (ai #[]) f))) λm=>N (decide ((h.n:Int)>0)) (rA [k] 160 #[h.v] t λs w9=>(6+(s.size:Int))<=9223372036854775807/\gj [k] 113 #[pA p,O U deep,X ((ao #[108,101,97,118,101,32])++s)] w9 λz=>m z) (m t)) λl=>N (decide ((g.n:Int)>0)) (rA [k] 160 #[g.v] r λo F=>(6+(o.size:Int))<=9223372036854775807/\gj [k] 113 #[pA p,O U deep,X ((ao #[101,110,116,101,114,32])++o)] F λZ=>l Z) (l r)) λJ=>N (!(a.toList==((ao #[]).toList))) ((8+(a.size:Int))<=9223372036854775807/\((((ao #[105,110,105,116,105,97,108,32])++a).size:Int)+1)<=9223372036854775807/\gj [k] 113 #[pA p,O U deep,X (((ao #[105,110,105,116,105,97,108,32])++a)++(ao #[59]))] q λA=>J A) (J q)):Cr 115 #[pA p,ck x x1 a x3 g h c j x8,O U deep] w R:=
 fC (.s .o (.j [0,2,4] [] .o (.j [0,2,4] [] .o (.j [0,2,4] [] .o (.s (.s .o (.j [0,2,4] [.s 6 dr] .o .o)) (.s .o (.j [0,2,4] [.s 7 dr] .o .o))))))) B
def amd(k:Addr)(l:Sl)(m:mO 0 w λg u i a=>N (decide (i<(l.n:Int))) (oO (λh b=>AO (λf=>∃p0,cR l i 9 p0/\jC f (p0.add 2) λn o y q x r=>cU 117 #[pA k,bO n o y q x r] f λA=>nx u λv=>g v (ar U (i+1)) A) λc=>N (!h) (∃p,cR l i 9 p/\iB b (p.add 8) λs=>cU 47 #[pA k,O U 23,O U s] b λB=>c B) (c b)) λJ=>∃d,cR l i 9 d/\iB a (d.add 0) λt=>N (t !=1) (J aE a) (∃e,cR l i 9 e/\Cg a (e.add 1) λz=>cB 163 #[pA k,X z] a λj C=>J j C)) (R (ai #[]) a)):Cr 116 #[pA k,l.v] w R:=
 fC (.s .o (.j [0,1] [.s 4 dr] (.s .o (.s (.s (.j [0,1,4] [.s 5 .bool] .o .o) (.j [0,1,4] [] .o .o)) .o)) .o)) m
def ame(k:Addr)(x G:Int)(c:aK)(H:Int)(d:Sl)(l:Int)(r:nw w λa g=>oO (λn h=>oO (λo j=>AO (λB=>mO 0 B λm y i b=>N (decide (i<(d.n:Int))) (jT d i b λs t A u z v=>gj [a] 117 #[pA k,bO s t A u z v] b λC=>nx y λk3=>m k3 (ar U (i+1)) C) (R (ai #[]) b)) λf=>N ((!n)||(!o)) (gj [a] 47 #[pA k,O U 23,O U l] j λD=>f D) (f j)) λe=>N (x !=3) (e aE h) (kF [a] 164 #[pA k,X c] h λp E=>e p E)) λJ=>N (x !=2) (J aE g) (kF [a] 163 #[pA k,X c] g λq F=>J q F)):Cr 117 #[pA k,bO x G c H d l] w R:=
 fC (.s .o (.s (.j [0,3] [.s 4 .bool] .o .o) (.s (.j [0,3,4] [.s 5 .bool] .o .o) (.j [0,3] [] .o (.s .o (.j [0,3] [.s 6 dr] .o .o)))))) r
def amf(k:Addr)(n:Sl)(E:∃J:Nat->Sl->Int->av->Prop,∃K:Nat,J K Sl.nil 0 w/\∀t,∀l:Sl,∀d o,J t l d o->N (decide (d<(n.n:Int))) (o0 o λp=>kl p (k.add 10) λP=>FA n d p λs0=>cI 23 #[P.v,X s0] p λe g=>N (decide (e<1)) (R (aj aL) g) (kl g (k.add 10) λS=>∃v,cR S e 5 v/\iB g (v.add 0) λF=>cB 29 #[O U F] g λC h=>oO (λa w4=>mO 0 w4 λB k3 f A=>N (decide (f<(l.n:Int))) (o0 A λj=>∃m:aJ,m ((k.add 10).block)/\kl j (k.add 10) λT=>Gc l f j λG=>NH 33 (O U a) (O U G) j λV q=>bT m j q/\cI 165 #[T.v,V.v] q λi b=>bT m q b/\∃x,((i==a)=aL->cR l f 1 x)/\∃c,((i==a)=aL->aB b x [O U c])/\∃u:Sl,(((i==a)||(i==c))=aL->aB b (k.add 10) [u.v])/\∃y,(((i==a)||(i==c))=aL->cR u i 5 y)/\∃s,(((i==a)||(i==c))=aL->aB b (y.add 0) [O U s])/\N (((i==a)||(i==c))||(s !=2)) (R (aj aL) b) (nx k3 λL=>B L (ar U (f+1)) b)) (lW 33 (O U a) A λW w9=>uB 33 l W w9 λY D=>nx t λM=>J M Y (ar U (d+1)) D)) λr=>N C (kl h (k.add 10) λZ=>∃z,cR Z e 5 z/\iB h (z.add 2) λH=>r H h) (r e h))) (R (aj aE) o)):Cr 118 #[pA k,n.v] w R:=
 fC (.d 2 (.s (.s .o (.j [0,1] [.s 5 .sl,.s 6 dr] (.s .o (.s (.d 3 (.j [0,1,5,6] [.s 7 dr] .o (.s (.s .o (.j [0,1,5,6,7] [.s 9 dr] .o .o)) .o))) .o)) .o)) .o)) E
def VZ(s:Sl)(f:OV)(R:aG)(a:av)(h:mO 0 a λJ j i w=>N (decide (i<(s.n:Int))) (Gc s i w λg=>∃k:Nat,∃z d,f.v=(.func (.func k) z.toArray d.toArray)/\(∀x:Array aw,∀b,((callFunc k x).run aq b)=(.ok (.enter k x) b))/\cB k ((A3 (A3 z [O U g]) d).toArray) w λe c=>N e (R (O U i) c) (nx j λk3=>J k3 (ar U (i+1)) c)) (R (O U (-1)) w)):Cr 119 #[s.v,f.v] a R:=
 fB (an:=.s .o (.s (.s .o (.j [0,1,7] [.s 8 (.int .i64)] .o .o)) .o)) (args:=[.sl s,.raw f]) h
def atf(r:Sl)(n:Int)(h:R (aj ((decide (n>=0))&&(decide (n<(r.n:Int))))) w):Cr 120 #[r.v,O U n] w R:=
 je h
def atg(kind:Int)(h:R (aj ((kind==3)||(kind==4))) w):Cr 123 #[O U kind] w R:=
 je h
def ath(n:Option Nat)(name:aK)(h:∃i b a,((Instr.lookup 128 (.map n) (X name) aE).run aq w)=(.ok (ai #[O U i,aj b]) a)/\N b (R (O U i) a) (R (O U (-1)) a)):Cr 124 #[.map n,X name] w R:=
 je h
def ati(k:Addr)(at_:Int)(h:oO (λb c=>R (aj b) c) λJ=>N (decide (at_>=0)) (kl w (k.add 1) λl=>∃p0,cR l at_ 5 p0/\iB w (p0.add 0) λi=>cB 123 #[O U i] w λa d=>J (!a) d) (J aL w)):Cr 125 #[pA k,O U at_] w R:=
 fC (.s .o (.s (.j [] [.s 4 .bool] .o .o) .o)) h
def atj(l:Sl)(a b:Int)(h:oO (λc e=>R (aj c) e) λJ=>N (a !=b) (cB 141 #[l.v,O U b,O U a] w λd f=>J d f) (J aL w)):Cr 126 #[l.v,O U a,O U b] w R:=
 fC (.s .o (.s (.j [] [.s 6 .bool] .o .o) .o)) h
def amg(E:Sl)(h:Ju 0 0 w λJ k i a c=>N (decide (a<(E.n:Int))) (oO (λj s=>nx k λm=>J m j (ar U (a+1)) s) λf=>xYL E a c λl=>N (decide ((ar U (i+(l.n:Int)))<0)) (False) (f (ar U (i+(l.n:Int))) c)) (cL 169 #[Sl.nil.v,O U i] c λp t=>Ju p 0 t λg n e b d=>N (decide (b<(E.n:Int))) (xYL E b d λq=>uB 23 e q d λr u=>nx n λo=>g o r (ar U (b+1)) u) (R e.v d))):Cr 127 #[E.v] w R:=
 fC (.d 2 (.s (.s .o (.j [0,9,10] [.s 3 dr,.s 11 dr] (.d 2 (.j [0,9,10,11] [.s 3 dr] .o .o)) .o)) (.s .o (.s (.s .o (.j [25,26] [.s 6 .sl,.s 27 dr] .o .o)) .o)))) h
def atk(o:Int)(m M:Addr)(h:xCQ w m λq=>iB w M λi=>cB 129 #[ae q,O U i,O U o] w λb a=>R (aj (!b)) a):Cr 128 #[O U o,pA m,pA M] w R:=
 je h
def atl(k:Addr)(a b:Int)(h:kl w (k.add 1) λg=>∃l:Sl,∃f,((au 33 2 #[.mk 0 (O U a),.mk 1 (O U b)]).run aq w)=(.ok l.v f)/\cI 97 #[g.v,l.v] f λi c=>∃e:Sl,(((i !=a)&&(i !=b))=aE->aB c (k.add 1) [e.v])/\∃p0,(((i !=a)&&(i !=b))=aE->cR e i 5 p0)/\∃d,(((i !=a)&&(i !=b))=aE->aB c (p0.add 0) [O U d])/\R (aj (((i !=a)&&(i !=b))&&(d==2))) c):Cr 129 #[pA k,O U a,O U b] w R:=
 je h
def amh(s:Int)(K G L:aK)(Z C v o:Sl)(H:Int)(h:nw w λj y=>o0 y λz=>∃J:Nat->Int->Int->Int->av->Prop,∃l:Nat,J l 1 (v.n:Int) 0 z/\∀k b c i a,J k b c i a->N (decide (i<(o.n:Int))) (fm o i a λd t u x n p q r e=>nw a λk3 A=>VV [j,k3] 130 #[ck d t u x n p q r e] A λf g B=>nx k λm=>J m (ar U (b+f)) (ar U (c+g)) (ar U (i+1)) B) (R (ai #[O U b,O U c]) a)):Cr 130 #[ck s K G L Z C v o H] w R:=
 fC (.d 2 (.s (.s .o (.j [1,12,13] [.s 2 dr,.s 3 dr,.s 14 dr] .o .o)) .o)) h
def ami(p:Addr)(ok:Bool)(R:aG)(w:av)(h:xCB w (p.add 2) λb=>sT (p.add 2) w 1 λk a z c=>sS w k a z c [aj (b||(!ok))] λd=>R (ai #[]) d):Cr 131 #[pA p,aj ok] w R:=
 je h
def amj(p:Addr)(deep:Int)(words:Sl)(h:cB 136 #[pA p] w λc b=>∃d,((!c)=aE->aB b (p.add 2) [aj d])/\N ((!c)&&(!d)) (o0 b λe=>cS 171 #[X (ao #[32,32]),O U deep] e λs f=>cS 172 #[words.v] f λa g=>((s.size:Int)+(a.size:Int))<=9223372036854775807/\(((s++a).size:Int)+1)<=9223372036854775807/\adM 170 #[pA (p.add 0),X ((s++a)++(ao #[10]))] g λj v i=>R (ai #[]) i) (R (ai #[]) b)):Cr 132 #[pA p,O U deep,words.v] w R:=
 je h
def amk(p:Addr)(s:aK)(h:cB 173 #[X s] w λb a=>cU 131 #[pA p,aj b] a λc=>R (X s) c):Cr 133 #[pA p,X s] w R:=
 je h
def v1w(n:Int)(h:cS 174 #[O U n] w λs a=>R (X s) a):Cr 134 #[O U n] w R:=
 je h
def aml(p:Addr)(n_:Int)(xK u xL:aK)(x y v o:Sl)(uH deep:Int)(q:nw w λk e=>AO (λw1=>rA [k] 176 #[pA p,x.v] w1 λs0 w2=>gj [k] 175 #[pA p,O U deep,X (ao #[101,110,116,101,114]),X s0] w2 λw3=>rA [k] 176 #[pA p,y.v] w3 λs1 w4=>gj [k] 175 #[pA p,O U deep,X (ao #[108,101,97,118,101]),X s1] w4 λw5=>mO 0 w5 λh H i c=>N (decide (i<(v.n:Int))) (gF v i c λr s2 t l A B s3 C S D T V E=>nw c λk3 w7=>rA [k,k3] 177 #[pA p,fi r s2 t l A B s3 C S D T V E] w7 λs4 f=>lW 32 (X s4) f λW g=>cu [k,k3] f g/\gj [k,k3] 132 #[pA p,O U deep,W.v] g λz=>nx H λK=>h K (ar U (i+1)) z) (mO 0 c λj L b d=>N (decide (b<(o.n:Int))) (fm o b d λF s5 s6 s7 Y l5 l6 l7 a=>nw d λM Z=>gj [k,M] 178 #[pA p,ck F s5 s6 s7 Y l5 l6 l7 a,O U deep] Z λm=>nx L λP=>j P (ar U (b+1)) m) (R (ai #[]) d))) λJ=>N (!(u.toList==((ao #[]).toList))) (rA [k] 133 #[pA p,X u] e λs n=>((s.size:Int)+1)<=9223372036854775807/\gj [k] 175 #[pA p,O U deep,X (ao #[105,110,105,116,105,97,108]),X (s++(ao #[59]))] n λG=>J G) (J e)):Cr 135 #[pA p,ck n_ xK u xL x y v o uH,O U deep] w R:=
 fC (.s .o (.j [0,2,4] [] .o (.d 2 (.s (.s .o (.j [0,2,4,36,37] [.s 38 dr] .o .o)) (.s .o (.j [0,2,4,7,51,52] [.s 53 dr] .o .o)))))) q
def amm(p:Addr)(h:cI 179 #[pA (p.add 0)] w λi a=>R (aj (decide (i>16384))) a):Cr 136 #[pA p] w R:=
 je h
def adO(b:Addr)(h:o0 w λa=>∃J:aJ,kl a (b.add 1) λl=>J ((b.add 1).block)/\kl a (b.add 1) λe=>∃q c,((Builtin.unsafeSliceData_ #[197] 254 #[l.v]).run aq a)=(.ok (ae q) c)/\bT J a c/\∃s d,((Builtin.unsafeString_ #[254,3] 9 #[ae q,O U (e.n:Int)]).run aq c)=(.ok (X s) d)/\bT J c d/\R (X s) d):Cr 137 #[pA b] w R:=
 je h
def amn(s:Sl)(f:OV)(R:aG)(a:av)(h:mO 0 a λJ n i w=>N (decide (i<(s.n:Int))) (CI s i w λg o j l m=>∃k:Nat,∃z d,f.v=(.func (.func k) z.toArray d.toArray)/\(∀x:Array aw,∀b,((callFunc k x).run aq b)=(.ok (.enter k x) b))/\cB k ((A3 (A3 z [DN g o j l m]) d).toArray) w λe c=>N e (R (O U i) c) (nx n λk3=>J k3 (ar U (i+1)) c)) (R (O U (-1)) w)):Cr 138 #[s.v,f.v] a R:=
 fB (an:=.s .o (.s (.s .o (.j [0,1,7] [.s 8 (.int .i64)] .o .o)) .o)) (args:=[.sl s,.raw f]) h
def atm(s:Int)(a:aK)(d e f:Int)(m:Addr)(h:nw w λk b=>Cg b m λc=>R (aj (a.toList==c.toList)) b):Cr 139 #[DN s a d e f,pA m] w R:=
 je h
def atn(n:Int)(m:Addr)(h:kl w m λl=>cB 120 #[l.v,O U n] w λb a=>R (aj (!b)) a):Cr 140 #[O U n,pA m] w R:=
 je h
def ato(r:Sl)(b a:Int)(h:oO (λf j=>R (aj f) j) λJ=>cB 120 #[r.v,O U a] w λg d=>N g (cB 120 #[r.v,O U b] d λc e=>∃p0,((c&&(decide (b<=a)))=aE->cR r b 5 p0)/\∃i,((c&&(decide (b<=a)))=aE->aB e (p0.add 4) [O U i])/\J ((c&&(decide (b<=a)))&&(decide (a<i))) e) (J aL d)):Cr 141 #[r.v,O U b,O U a] w R:=
 fC (.s .o (.s (.j [] [.s 6 .bool] .o .o) .o)) h
def amo(s:Sl)(v:Int)(h:mO 0 w λJ k i a=>N (decide (i<(s.n:Int))) (Gc s i a λb=>N (v==b) (R (O U i) a) (nx k λc=>J c (ar U (i+1)) a)) (R (O U (-1)) a)):Cr 142 #[s.v,O U v] w R:=
 fC (.s .o (.s (.s .o (.j [0,1,7] [.s 8 dr] .o .o)) .o)) h
def amp(c:Int)(o:Sl)(h:cB 180 #[o.v,.int .u8 c] w λb a=>R (aj b) a):Cr 143 #[.int .u8 c,o.v] w R:=
 je h
def amq(s t:aK)(h:cB 181 #[X s,X t] w λb a=>R (aj b) a):Cr 144 #[X s,X t] w R:=
 je h
def amr(c:Addr)(h:Cg w (c.add 0) λs=>iB w (c.add 1) λi=>∃k:Nat,(i=(k:Int)/\k<=s.size)/\o0 w λa=>R (X (s.extract k s.size)) a):Cr 145 #[pA c] w R:=
 je h
def ams(s e:aK)(h:VU 182 #[X s,X e] w λa c b d=>R (ai #[X a,X c,aj b]) d):Cr 146 #[X s,X e] w R:=
 je h
def amt(c:Int)(h:R (aj (((decide (97<=(bits .or .u8 c 32)))&&(decide ((bits .or .u8 c 32)<=122)))||(c==95))) w):Cr 147 #[.int .u8 c] w R:=
 je h
def amu(c:Addr)(R:aG)(a:av)(h:cS 183 #[pA (c.add 0)] a λs w=>N (decide ((s.size:Int)>24)) (R (O U 2) w) (oO (λi f=>cS 185 #[X s] f λe g=>cU 105 #[pA c,nW i e 0 0,O U (s.size:Int)] g λj=>R (O U 0) j) λJ=>kl w (c.add 2) λl=>cB 184 #[l.v,X s] w λd b=>N d (J 2 b) (J 1 b))):Cr 148 #[pA c] a R:=
 fC (.d 4 (.j [0,3] [.s 4 dr] .o .o)) h
def amv(c:Int)(h:R (aj ((decide (48<=c))&&(decide (c<=57)))) w):Cr 149 #[.int .u8 c] w R:=
 je h
def amw(c:Addr)(R:aG)(w:av)(h:cS 145 #[pA (c.add 0)] w λs g=>agi 186 #[X s] g λe i a b=>N (a !=0) (R (O U a) b) (cS 183 #[pA (c.add 0)] b λf d=>N (decide ((f.size:Int)>i)) (R (O U 4) d) (cU 105 #[pA c,nW 3 (ao #[]) e 0,O U i] d λj=>R (O U 0) j))):Cr 150 #[pA c] w R:=
 je h
def amx(c:Addr)(R:aG)(p:av)(C:cS 145 #[pA (c.add 0)] p λs V=>oO (λD w=>oO (λi q=>N (i==0) (R (O U 4) q) (∃k:Nat,(i=(k:Int)/\k<=s.size)/\cS 185 #[X (s.extract 0 k)] q λT W=>cU 105 #[pA c,nW 4 T 0 0,O U i] W λY=>R (O U 0) Y)) λd=>oO (λt r=>N t (d 2 r) (d D r)) λJ=>N (decide ((s.size:Int)>1)) (∃c0:UInt8,((0:Int)<=1/\s[1]? =(aM c0))/\N ((UInt8.toNat c0:Int)==61) (∃e:UInt8,((0:Int)<=0/\s[0]? =(aM e))/\o0 w λw6=>rb4 197 (.int .u8 60) (.int .u8 62) (.int .u8 61) (.int .u8 33) w6 λK w7=>cB 143 #[.int .u8 (UInt8.toNat e:Int),K.v] w7 λv a=>N v (J aE a) (∃f:UInt8,((0:Int)<=1/\s[1]? =(aM f))/\∃g:UInt8,((0:Int)<=0/\s[0]? =(aM g))/\N ((UInt8.toNat f:Int)==(UInt8.toNat g:Int)) (∃h:UInt8,((0:Int)<=0/\s[0]? =(aM h))/\NH 197 (.int .u8 38) (.int .u8 124) a λL w9=>cB 143 #[.int .u8 (UInt8.toNat h:Int),L.v] w9 λx z=>N x (J aE z) (2<=s.size/\J (((s.extract 0 2).toList)==((ao #[45,62]).toList)) z)) (2<=s.size/\J (((s.extract 0 2).toList)==((ao #[45,62]).toList)) a))) (∃j:UInt8,((0:Int)<=1/\s[1]? =(aM j))/\∃l:UInt8,((0:Int)<=0/\s[0]? =(aM l))/\N ((UInt8.toNat j:Int)==(UInt8.toNat l:Int)) (∃m:UInt8,((0:Int)<=0/\s[0]? =(aM m))/\o0 w λF=>NH 197 (.int .u8 38) (.int .u8 124) F λM Z=>cB 143 #[.int .u8 (UInt8.toNat m:Int),M.v] Z λy o=>N y (J aE o) (2<=s.size/\J (((s.extract 0 2).toList)==((ao #[45,62]).toList)) o)) (2<=s.size/\o0 w λB=>J (((s.extract 0 2).toList)==((ao #[45,62]).toList)) B))) (o0 w λG=>J aL G)) λb=>∃n:UInt8,((0:Int)<=0/\s[0]? =(aM n))/\NE (au 197 17 #[.mk 0 (.int .u8 123),.mk 1 (.int .u8 125),.mk 2 (.int .u8 40),.mk 3 (.int .u8 41),.mk 4 (.int .u8 91),.mk 5 (.int .u8 93),.mk 6 (.int .u8 59),.mk 7 (.int .u8 44),.mk 8 (.int .u8 61),.mk 9 (.int .u8 43),.mk 10 (.int .u8 45),.mk 11 (.int .u8 42),.mk 12 (.int .u8 47),.mk 13 (.int .u8 37),.mk 14 (.int .u8 60),.mk 15 (.int .u8 62),.mk 16 (.int .u8 33)]) V λP H=>NE (convert 197 197 P.v) H λS E=>cB 143 #[.int .u8 (UInt8.toNat n:Int),S.v] E λA u=>N A (b 1 u) (b 0 u)):Cr 151 #[pA c] p R:=
 fC (.d 3 (.j [0,3] [.s 4 dr] .o (.j [0,3] [.s 4 dr] (.s (.j [0,3,4] [.s 45 .bool] .o .o) .o) .o))) C
def adP(s:Sl)(v:aK)(h:mO 0 w λJ k i a=>N (decide (i<(s.n:Int))) (FA s i a λc=>N (v.toList==c.toList) (R (O U i) a) (nx k λb=>J b (ar U (i+1)) a)) (R (O U (-1)) a)):Cr 152 #[s.v,X v] w R:=
 fC (.s .o (.s (.s .o (.j [0,1,7] [.s 8 dr] .o .o)) .o)) h
def amy(r:Addr)(kind:Int)(ce:nw w λa H=>∃L:aJ,L (((r.add 0).add 0).block)/\kl H ((r.add 0).add 0) λl0=>L (((r.add 0).add 1).block)/\iB H ((r.add 0).add 1) λi0=>∃p0,cR l0 i0 4 p0/\L ((p0.add 3).block)/\iB H (p0.add 3) λG=>nw H λk w1=>gj [a,k] 106 #[pA r,pA ((r.add 4).add 3),O U 2] w1 λw2=>kF [a,k] 76 #[pA (r.add 0)] w2 λb0 K=>N (!b0) (∀w4,Q [a] K w4->R (fi kind (ao #[]) 0 aL 0 0 (ao #[]) 0 Sl.nil 0 Sl.nil Sl.nil G) w4) (iB K ((r.add 0).add 1) λi2=>sT ((r.add 0).add 1) K 1 λk2 k3 z0 k4=>a≠k2/\k≠k2/\sS K k2 k3 z0 k4 [O U (ar U (i2+1))] λw5=>∃J:Int->aK->Int->Bool->Int->Int->aK->Int->Sl->Int->Sl->Sl->Int->av->Prop,(∀Y s0 i4 b1 i5 i6 s1 i7,∀l1:Sl,∀i8,∀l2 l3:Sl,∀i9 w6,J Y s0 i4 b1 i5 i6 s1 i7 l1 i8 l2 l3 i9 w6->∃M:Int->aK->Int->Bool->Int->Int->aK->Int->Sl->Int->Sl->Sl->Int->av->Prop,(∀i s2 b T c d s3 e,∀l4:Sl,∀f,∀l5 l6:Sl,∀g w7,M i s2 b T c d s3 e l4 f l5 l6 g w7->∃P:Int->aK->Int->Bool->Int->Int->aK->Int->Sl->Int->Sl->Sl->Int->av->Prop,(∀u s4 v b3 x y s5 z,∀l7:Sl,∀A,∀l8 l9:Sl,∀B w8,P u s4 v b3 x y s5 z l7 A l8 l9 B w8->∃S:Nat->aK->Int->aK->Int->Bool->Int->Int->aK->Int->Sl->Int->Sl->Sl->Int->av->Prop,∃k5:Nat,S k5 (ao #[45,62]) u s4 v b3 x y s5 z l7 A l8 l9 B w8/\∀k6 s6 h s7 j V l m s8 n,∀s:Sl,∀o,∀rY uE:Sl,∀p w9,S k6 s6 h s7 j V l m s8 n s o rY uE p w9->lW 32 (X s6) w9 λyX dz=>cu [a,k] w9 dz/\qe [a,k] 73 #[pA (r.add 0),yX.v] dz λZ W=>N (decide (Z>0)) (o0 W λeZ=>∃E:aJ,E k/\rA [a,k] 154 #[pA (r.add 0)] eZ λs9 F=>bT E eZ F/\lW 32 (X s9) F λCt t=>cu [a,k] F t/\bT E F t/\uB 32 uE Ct t λFK ij=>cu [a,k] t ij/\bT E t ij/\∀jw,Q [k] ij jw->nx k6 λk7=>S k7 (ao #[44]) h s7 j V l m s8 n s o rY FK p jw) (lW 32 (X (ao #[59])) W λRN iX=>cu [a,k] W iX/\gj [a,k] 71 #[pA (r.add 0),RN.v] iX λku=>∀lZ,Q [a] ku lZ->R (fi h s7 j V l m s8 n s o rY uE p) lZ))/\lW 32 (X (ao #[123])) w7 λTW kg=>cu [a,k] w7 kg/\qe [a,k] 109 #[pA (r.add 0),TW.v] kg λam nj=>N (decide (am>0)) (xP [a,k] 155 #[pA r] nj λMT pI=>∀th,Q [k] pI th->P i s2 b T c d s3 e l4 f MT l6 g th) (P i s2 b T c d s3 e l4 f l5 l6 g nj))/\lW 32 (X (ao #[91])) w6 λOH uF=>cu [a,k] w6 uF/\qe [a,k] 73 #[pA (r.add 0),OH.v] uF λq qL=>N (decide (q>0)) (∀sC,Q [k] qL sC->ga [a,k] 187 #[pA (r.add 0)] sC λaC aS E1 aT RO bv vP=>∀zh,Q [k] vP zh->lW 32 (X (ao #[93])) zh λUI EZ=>cu [a,k] zh EZ/\gj [a,k] 71 #[pA (r.add 0),UI.v] EZ λTX=>M Y s0 i4 (decide (q>0)) aC aS E1 aT RO bv l2 l3 i9 TX) (∀YR,Q [k] qL YR->M Y s0 i4 (decide (q>0)) i5 i6 s1 i7 l1 i8 l2 l3 i9 YR))/\N (kind==1) (rA [a,k] 154 #[pA (r.add 0)] w5 λCu bY=>∀C,Q [k] bY C->J kind Cu 0 aL 0 0 (ao #[]) 0 Sl.nil 0 Sl.nil Sl.nil G C) (N (kind==3) (wl [a,k] 108 #[pA (r.add 0),O U 3] w5 λco G6 bV cC cc=>∀D,Q [k] cc D->J kind (ao #[]) bV aL 0 0 (ao #[]) 0 Sl.nil 0 Sl.nil Sl.nil G D) (J kind (ao #[]) 0 aL 0 0 (ao #[]) 0 Sl.nil 0 Sl.nil Sl.nil G w5)))):Cr 153 #[pA r,O U kind] w R:=
 fC (.d 4 (.j [0,4,5] [.b 5 [dr,.str,dr,.bool,dr,dr,.str,dr,.sl,dr,.sl,.sl,dr]] .o (.j [0,4,5] [.b 5 [dr,.str,dr,.bool,dr,dr,.str,dr,.sl,dr,.sl,.sl,dr]] .o (.j [0,4,5] [.b 5 [dr,.str,dr,.bool,dr,dr,.str,dr,.sl,dr,.sl,.sl,dr]] .o (.s (.s .o (.j [0,4,5] [.s 6 .str,.b 5 [dr,.str,dr,.bool,dr,dr,.str,dr,.sl,dr,.sl,.sl,dr]] .o .o)) .o))))) ce
def amz(c:Addr)(h:zI 108 #[pA c,O U 1] w λi s b d a=>R (X s) a):Cr 154 #[pA c] w R:=
 je h
def amA(r:Addr)(h:vW w λk a d=>lW 32 (X (ao #[123])) d λl e=>cu [k,a] d e/\gj [k,a] 71 #[pA (r.add 0),l.v] e λb=>(aF b k 145 [pA r]->aF b a 23 [Sl.nil.v]->cU 188 #[pA r,X (ao #[125]),.func (.func 189) #[] #[pB a,pB k]] b λc=>xKQ c k 145 λq=>VS c a 23 λf=>R f.v c)):Cr 155 #[pA r] w R:=
 je h
def atp(s:aK)(h:N ((s.toList==((ao #[]).toList))||(decide ((s.size:Int)>24))) (R (aj aL) w) (∃c0:UInt8,((0:Int)<=0/\s[0]? =(aM c0))/\cB 191 #[.int .u8 (UInt8.toNat c0:Int)] w λb e=>cB 192 #[X s] e λc a=>oO (λd f=>R (aj d) f) λJ=>N (b&&(!c)) (cI 193 #[X s,O U 0] a λi g=>J (i==(s.size:Int)) g) (J aL a))):Cr 156 #[X s] w R:=
 fC (.d 4 (.s (.j [] [.s 2 .bool] .o .o) .o)) h
def amB(n:Addr)(x:Int)(v b m:aK)(o p c d:Sl)(x8 deep:Int)(M:nw w λk h=>iB h (n.add 0) λP=>sT (n.add 0) h 1 λs k2 z0 k3=>k≠s/\sS h s k2 z0 k3 [O U (ar U (P+1))] λw1=>kF [k] 156 #[X v] w1 λq a=>∃r,(((!q)||(decide (deep>=12)))=aL->aB a (n.add 0) [O U r])/\N (((!q)||(decide (deep>=12)))||(decide (r>64))) (R (aj aL) a) (N ((x==3)||(x==4)) (kF [k] 156 #[X m] a λB w3=>R (aj (((((B&&(b.toList==((ao #[]).toList)))&&((o.n:Int)==0))&&((p.n:Int)==0))&&((c.n:Int)==0))&&((d.n:Int)==0))) w3) (oO (λC w4=>kF [k] 194 #[pA n,o.v] w4 λD w5=>kF [k] 194 #[pA n,p.v] w5 λE t=>N ((((((x !=1)&&(x !=2))||(!(m.toList==((ao #[]).toList))))||(!C))||(!D))||(!E)) (R (aj aL) t) (mO 0 t λy k5 g j=>N (decide (g<(c.n:Int))) (gF c g j λS s0 T F V W s1 Y l0 Z l1 l2 i9=>kF [k] 195 #[pA n,fi S s0 T F V W s1 Y l0 Z l1 l2 i9] j λG u=>N (!G) (R (aj aL) u) (nx k5 λk6=>y k6 (ar U (g+1)) u)) (mO 0 j λA k8 i l=>N (decide (i<(d.n:Int))) (fm d i l λe s2 s3 s4 l3 l4 l5 l6 f=>kF [k] 157 #[pA n,ck e s2 s3 s4 l3 l4 l5 l6 f,O U (ar U (deep+1))] l λH z=>N (!H) (R (aj aL) z) (nx k8 λk9=>A k9 (ar U (i+1)) z)) (R (aj aE) l)))) λJ=>N (!(b.toList==((ao #[]).toList))) (kF [k] 156 #[X b] a λK L=>J K L) (J (b.toList==((ao #[]).toList)) a)))):Cr 157 #[pA n,ck x v b m o p c d x8,O U deep] w R:=
 fC (.d 6 (.j [0,2,4] [.s 9 .bool] .o (.d 3 (.s (.s .o (.j [0,2,4] [.s 12 dr] .o .o)) (.s (.s .o (.j [0,2,4] [.s 14 dr] .o .o)) .o))))) M
def atq(u:Int)(j:N (u==0) (R (X (ao #[])) w) (oO (λk m=>R (X k) m) λf=>o0 w λb=>∃J:aJ,(cS 158 #[.int .u64 (ar .u64 (u.tdiv 10))] b λs d=>bT J b d/\∃g:Sl,∃c,((au 197 1 #[.mk 0 (.int .u8 (ar .u8 (ar .u64 (48+(u.tmod 10)))))]).run aq d)=(.ok g.v c)/\bT J d c/\∃z:aH,vD c g z/\((s.size:Int)+((ao z.toArray).size:Int))<=9223372036854775807/\f (s++(ao z.toArray)) c)/\∃l:Sl,∃a,((au 197 1 #[.mk 0 (.int .u8 (ar .u8 (ar .u64 (48+(u.tmod 10)))))]).run aq b)=(.ok l.v a)/\bT J b a/\∃e:aH,(∀p0,l.a=(aM p0)->J p0.block)/\vD a l e/\cS 158 #[.int .u64 (ar .u64 (u.tdiv 10))] a λh i=>bT J a i/\((h.size:Int)+((ao e.toArray).size:Int))<=9223372036854775807/\f (h++(ao e.toArray)) i)):Cr 158 #[.int .u64 u] w R:=
 fC (.d 2 (.s (.j [] [.s 2 .str] .o .o) .o)) j
def amC(n:Int)(R:aG)(w:av)(h:N (decide (n<0)) (R (.int .u64 (ar .u64 ((ar .u64 (ar U (0-(ar U (n+1)))))+1))) w) (R (.int .u64 (ar .u64 n)) w)):Cr 159 #[O U n] w R:=
 je h
def amD(l:Sl)(h:Ju (ao #[123]) 0 w λJ k s i a=>N (decide (i<(l.n:Int))) (((s.size:Int)+1)<=9223372036854775807/\sM l i a λc o d e p f n g j=>cS 196 #[lc c o d e p f n g j] a λb q=>(((s++(ao #[32])).size:Int)+(b.size:Int))<=9223372036854775807/\nx k λm=>J m ((s++(ao #[32]))++b) (ar U (i+1)) q) (((s.size:Int)+2)<=9223372036854775807/\R (X (s++(ao #[32,125]))) a)):Cr 160 #[l.v] w R:=
 fC (.d 2 (.s (.s .o (.j [0] [.s 3 .str,.s 4 dr] .o .o)) .o)) h
def amE(d:Int)(e:aK)(o:Int)(p:Bool)(q r:Int)(t:aK)(u:Int)(v:Sl)(x:Int)(m a:Sl)(f:Int)(R:aG)(C:av)(L:nw C λk D=>oO (λP E=>oO (λb F=>oO (λc G=>oO (λS T=>Ju S 0 T λK M s i w=>N (decide (i<(a.n:Int))) (oO (λy H=>FA a i H λz=>((y.size:Int)+(z.size:Int))<=9223372036854775807/\nx M λk3=>K k3 (y++z) (ar U (i+1)) H) λn=>N (i==0) (((s.size:Int)+4)<=9223372036854775807/\n (s++(ao #[32,45,62,32])) w) (((s.size:Int)+2)<=9223372036854775807/\n (s++(ao #[44,32])) w)) (((s.size:Int)+1)<=9223372036854775807/\R (X (s++(ao #[59]))) w)) λl=>N (decide ((m.n:Int)>0)) (((c.size:Int)+1)<=9223372036854775807/\rA [k] 160 #[m.v] G λA V=>(((c++(ao #[32])).size:Int)+(A.size:Int))<=9223372036854775807/\l ((c++(ao #[32]))++A) V) (l c G)) λj=>N p (((b.size:Int)+2)<=9223372036854775807/\rA [k] 197 #[bO q r t u v x] F λg W=>(((b++(ao #[32,91])).size:Int)+(g.size:Int))<=9223372036854775807/\((((b++(ao #[32,91]))++g).size:Int)+1)<=9223372036854775807/\j (((b++(ao #[32,91]))++g)++(ao #[93])) W) (j b F)) λh=>N (d==3) (rA [k] 114 #[O U o] E λB Y=>(6+(B.size:Int))<=9223372036854775807/\h ((ao #[97,102,116,101,114,32])++B) Y) (h P E)) λJ=>N (d==1) ((3+(e.size:Int))<=9223372036854775807/\J ((ao #[111,110,32])++e) D) (J (ao #[97,108,119,97,121,115]) D)):Cr 161 #[fi d e o p q r t u v x m a f] C R:=
 fC (.d 2 (.j [1] [.s 3 .str] .o (.j [1] [.s 3 .str] .o (.j [1] [.s 3 .str] .o (.j [1] [.s 3 .str] .o (.s (.s .o (.j [1] [.s 3 .str,.s 4 dr] (.s .o (.s (.j [1,4] [.s 3 .str] .o .o) .o)) .o)) .o)))))) L
def amF(p:Addr)(x:Int)(a d b:aK)(e f g h:Sl)(i deep:Int)(j:nw w λk c=>AO (λl=>gj [k] 115 #[pA p,ck x a d b e f g h i,O U (ar U (deep+1))] l λm=>gj [k] 113 #[pA p,O U deep,X (ao #[125])] m λn=>R (ai #[]) n) λJ=>N (x==3) ((8+(a.size:Int))<=9223372036854775807/\((((ao #[104,105,115,116,111,114,121,32])++a).size:Int)+4)<=9223372036854775807/\(((((ao #[104,105,115,116,111,114,121,32])++a)++(ao #[32,45,62,32])).size:Int)+(b.size:Int))<=9223372036854775807/\((((((ao #[104,105,115,116,111,114,121,32])++a)++(ao #[32,45,62,32]))++b).size:Int)+1)<=9223372036854775807/\gj [k] 113 #[pA p,O U deep,X (((((ao #[104,105,115,116,111,114,121,32])++a)++(ao #[32,45,62,32]))++b)++(ao #[59]))] c λo=>R (ai #[]) o) (N (x==4) ((5+(a.size:Int))<=9223372036854775807/\((((ao #[100,101,101,112,32])++a).size:Int)+4)<=9223372036854775807/\(((((ao #[100,101,101,112,32])++a)++(ao #[32,45,62,32])).size:Int)+(b.size:Int))<=9223372036854775807/\((((((ao #[100,101,101,112,32])++a)++(ao #[32,45,62,32]))++b).size:Int)+1)<=9223372036854775807/\gj [k] 113 #[pA p,O U deep,X (((((ao #[100,101,101,112,32])++a)++(ao #[32,45,62,32]))++b)++(ao #[59]))] c λq=>R (ai #[]) q) (N (x==1) ((6+(a.size:Int))<=9223372036854775807/\((((ao #[115,116,97,116,101,32])++a).size:Int)+2)<=9223372036854775807/\gj [k] 113 #[pA p,O U deep,X (((ao #[115,116,97,116,101,32])++a)++(ao #[32,123]))] c λr=>J r) ((9+(a.size:Int))<=9223372036854775807/\((((ao #[112,97,114,97,108,108,101,108,32])++a).size:Int)+2)<=9223372036854775807/\gj [k] 113 #[pA p,O U deep,X (((ao #[112,97,114,97,108,108,101,108,32])++a)++(ao #[32,123]))] c λs=>J s)))):Cr 162 #[pA p,ck x a d b e f g h i,O U deep] w R:=
 fC (.s .o (.j [0,2,4] [] .o .o)) j
def amG(k:Addr)(name:aK)(h:mO 0 w λJ b i a=>kl a ((k.add 0).add 0) λl=>N (decide (i<(l.n:Int))) (kl a ((k.add 0).add 0) λd=>∃p0,cR d i 3 p0/\Cg a (p0.add 0) λs=>N (s.toList==name.toList) (R (aj aE) a) (nx b λc=>J c (ar U (i+1)) a)) (R (aj aL) a)):Cr 163 #[pA k,X name] w R:=
 fC (.s .o (.s (.s .o (.j [0,1] [.s 5 dr] .o .o)) .o)) h
def amH(k:Addr)(name:aK)(h:kl w (k.add 10) λl=>cI 23 #[l.v,X name] w λi a=>oO (λb f=>R (aj b) f) λJ=>N (decide (i>=0)) (kl a (k.add 10) λe=>∃p0,cR e i 5 p0/\iB a (p0.add 0) λd=>cB 29 #[O U d] a λc g=>J (!c) g) (J aL a)):Cr 164 #[pA k,X name] w R:=
 fC (.d 2 (.s (.j [] [.s 4 .bool] .o .o) .o)) h
def amI(l n:Sl)(s:Ju (-1) 0 w λq v i a m=>N ((decide (a<(l.n:Int)))&&(decide ((n.n:Int)>0))) (oO (λt A=>nx v λx=>q x t (ar U (a+1)) A) λJ=>Ju aE 0 m λr y b d c=>N (decide (d<(n.n:Int))) (Gc n d c λu=>cB 50 #[l.v,O U u,O U a] c λe o=>∃p,(b=aE->e=aL->cR n d 1 p)/\∃f,(b=aE->e=aL->aB o p [O U f])/\nx y λz=>r z (b&&(e||(f==a))) (ar U (d+1)) o) (∃j,(b=aE->(decide (i<0))=aL->cR l a 5 j)/\∃g,(b=aE->(decide (i<0))=aL->aB c (j.add 3) [O U g])/\∃k,(b=aE->(decide (i<0))=aL->cR l i 5 k)/\∃h,(b=aE->(decide (i<0))=aL->aB c (k.add 3) [O U h])/\N (b&&((decide (i<0))||(decide (g>h)))) (o0 c λB=>J a B) (o0 c λC=>J i C))) (R (O U i) m)):Cr 165 #[l.v,n.v] w R:=
 fC (.d 2 (.s (.s .o (.j [0,1] [.s 5 dr,.s 6 dr] (.s .o (.j [0,1,6] [.s 5 dr] (.s .o (.s (.s .o (.j [0,1,5,6] [.s 7 .bool,.s 8 dr] .o .o)) .o)) .o)) .o)) .o)) s
def amJ(s:Sl)(n:Int)(h:AO (λb=>oO (λe f=>R e.v f) λJ=>N (decide ((ar U (n-(ar U ((s.c:Int)-(s.n:Int)))))>0)) (∃k:Nat,((s.c:Int)=(k:Int)/\k<=s.c)/\∃l:Sl,∃c,((Builtin.append_ #[23,3] 23 #[(s.cut 0 k s.c 9).v,O U (ar U (n-(ar U ((s.c:Int)-(s.n:Int)))))]).run aq b)=(.ok l.v c)/\∃a:Nat,((s.n:Int)=(a:Int)/\a<=l.c)/\J (l.cut 0 a l.c 9) c) (J s b)) λd=>N (decide (n<0)) (False) (d w)):Cr 169 #[s.v,O U n] w R:=
 fC (.s .o (.j [0,1] [] .o (.j [] [.s 0 .sl] .o .o))) h
def adQ(b:Addr)(s:aK)(h:cU 201 #[pA b] w λa=>kl a (b.add 1) λl=>NE (Builtin.append_ #[197,9] 197 #[l.v,X s]) a λf c=>sT (b.add 1) c 1 λk d z e=>sS c k d z e [f.v] λg=>R (ai #[O U (s.size:Int),.nilIface]) g):Cr 170 #[pA b,X s] w R:=
 je h
def amK(words:Sl)(h:cL 205 #[words.v,.func (.func 206) #[] #[]] w λl a=>cS 204 #[l.v,X (ao #[32])] a λs b=>R (X s) b):Cr 172 #[words.v] w R:=
 je h
def amL(s:aK)(i:nw w λk c=>jn3 (λf u r q=>R (aj f) q) λJ=>N ((!(s.toList==((ao #[]).toList)))&&(decide ((s.size:Int)<=24))) (∃c0:UInt8,((0:Int)<=0/\s[0]? =(aM c0))/\kF [k] 147 #[.int .u8 (UInt8.toNat c0:Int)] c λg a=>N g (aF a k 182 [X s,O U 0]->cS 183 #[pB k] a λn b=>agh b k 182 λo j=>N (n.toList==s.toList) (cL 101 #[] b λm d=>agh d k 182 λv t=>cB 184 #[m.v,X s] d λh e=>agh e k 182 λp l=>J (!h) p l e) (J aL o j b)) (J aL s 0 a)) (J aL s 0 c)):Cr 173 #[X s] w R:=
 fC (.d 2 (.s (.j [3] [.s 2 .bool,.b 3 [.str,dr]] .o .o) .o)) i
def amM(p:Addr)(deep:Int)(word t:aK)(h:N (!(t.toList==((ao #[]).toList))) (∃l:Sl,∃a,((au 32 2 #[.mk 0 (X word),.mk 1 (X t)]).run aq w)=(.ok l.v a)/\cU 132 #[pA p,O U deep,l.v] a λb=>R (ai #[]) b) (R (ai #[]) w)):Cr 175 #[pA p,O U deep,X word,X t] w R:=
 je h
def amN(p:Addr)(l:Sl)(j:N ((l.n:Int)==0) (R (X (ao #[])) w) (iB w (p.add 3) λm=>sT (p.add 3) w 1 λv x z0 y=>sS w v x z0 y [O U (ar U (m+(l.n:Int)))] λe=>iB e (p.add 3) λn=>cU 131 #[pA p,aj (decide (n<=400))] e λT=>lW 32 (X (ao #[123])) T λB V=>oO (λC W=>lW 32 (X (ao #[125])) W λD Y=>uB 32 C D Y λE Z=>cS 172 #[E.v] Z λL w6=>R (X L) w6) λJ=>Ju B 0 V λg z a i b=>N (decide (i<(l.n:Int))) (sM l i b λo M q r P s G t u=>nw b λk c=>xCB c (p.add 2) λh=>N h (J a c) (rA [k] 208 #[pA p,lc o M q r P s G t u] c λS f=>lW 32 (X S) f λH d=>cu [k] f d/\uB 32 a H d λK F=>cu [k] d F/\nx z λA=>g A K (ar U (i+1)) F)) (J a b))):Cr 176 #[pA p,l.v] w R:=
 fC (.d 5 (.j [] [.s 5 .sl] (.s .o (.j [0,28,29] [.s 5 .sl,.s 30 dr] .o .o)) .o)) j
def amO(p:Addr)(a:Int)(e:aK)(c:Int)(z:Bool)(g h:Int)(j:aK)(l:Int)(n:Sl)(o:Int)(b m:Sl)(f:Int)(P:nw w λk q=>oO (λs0 w1=>gj [k] 131 #[pA p,aj (((e.toList==((ao #[]).toList))||(a==1))&&((c==0)||(a==3)))] w1 λC=>oO (λs1 w3=>mO 0 w3 λK V i d=>N (decide (i<(m.n:Int))) (FA m i d λs2=>rA [k] 133 #[pA p,X s2] d λs3 w5=>nx V λk3=>K k3 (ar U (i+1)) w5) (oO (λs4 w6=>rA [k] 176 #[pA p,b.v] w6 λs5 D=>rb4 32 (X s0) (X s1) (X s5) (X s4) D λY E=>cu [k] D E/\rA [k] 172 #[Y.v] E λA w9=>((A.size:Int)+1)<=9223372036854775807/\R (X (A++(ao #[59]))) w9) λt=>N (decide ((m.n:Int)>0)) (rA [k] 204 #[m.v,X (ao #[44,32])] d λB M=>(3+(B.size:Int))<=9223372036854775807/\t ((ao #[45,62,32])++B) M) (t (ao #[]) d))) λr=>N z (rA [k] 209 #[pA p,bO g h j l n o] C λs L=>(1+(s.size:Int))<=9223372036854775807/\((((ao #[91])++s).size:Int)+1)<=9223372036854775807/\r (((ao #[91])++s)++(ao #[93])) L) (gj [k] 210 #[pA p,bO g h j l n o] C λZ=>r (ao #[]) Z)) λJ=>N (a==1) (rA [k] 133 #[pA p,X e] q λs9 u=>NH 32 (X (ao #[111,110])) (X s9) u λl1 v=>cu [k] u v/\rA [k] 172 #[l1.v] v λG S=>J G S) (N (a==3) (gj [k] 131 #[pA p,aj (decide (c>=0))] q λT=>rA [k] 134 #[O U c] T λF x=>NH 32 (X (ao #[97,102,116,101,114])) (X F) x λl2 y=>cu [k] x y/\rA [k] 172 #[l2.v] y λH lZ=>J H lZ) (gj [k] 131 #[pA p,aj (a==2)] q λW=>J (ao #[97,108,119,97,121,115]) W))):Cr 177 #[pA p,fi a e c z g h j l n o b m f] w R:=
 fC (.d 2 (.j [0,3] [.s 5 .str] .o (.d 2 (.j [0,3,5,7] [.s 6 .str] .o (.s (.s .o (.j [0,3,5,6,7,70,71] [.s 72 dr] .o .o)) (.j [0,3,5,6] [.s 7 .str] .o .o)))))) P
def adR(b:Addr)(R:aG)(w:av)(h:kl w (b.add 1) λl=>R (O U (l.n:Int)) w):Cr 179 #[pA b] w R:=
 je h
def amP(s:Sl)(v:Int)(h:cI 211 #[s.v,.int .u8 v] w λi a=>R (aj (decide (i>=0))) a):Cr 180 #[s.v,.int .u8 v] w R:=
 je h
def atr(s t:aK)(R:aG)(w:av)(h:∃k:Nat,((decide ((s.size:Int)>=(t.size:Int)))=aE->(t.size:Int)=(k:Int)/\k<=s.size)/\R (aj ((decide ((s.size:Int)>=(t.size:Int)))&&(((s.extract 0 k).toList)==t.toList))) w):Cr 181 #[X s,X t] w R:=
 je h
def att(s e:aK)(R:aG)(w:av)(h:cI 212 #[X s,X e] w λi b=>N (decide (i>=0)) (∃k:Nat,(i=(k:Int)/\k<=s.size)/\∃a:Nat,((ar U (i+(e.size:Int)))=(a:Int)/\a<=s.size)/\o0 b λc=>R (ai #[X (s.extract 0 k),X (s.extract a s.size),aj aE]) c) (R (ai #[X s,X (ao #[]),aj aL]) b)):Cr 182 #[X s,X e] w R:=
 je h
def amQ(s:Sl)(v:aK)(h:cI 152 #[s.v,X v] w λi a=>R (aj (decide (i>=0))) a):Cr 184 #[s.v,X v] w R:=
 je h
def amR(p:Addr)(n:Int)(x u L:aK)(Z y v o:Sl)(H deep:Int)(S:nw w λk b=>xCB b (p.add 2) λF=>N (F||(decide (deep>=12))) (gj [k] 131 #[pA p,aj aL] b λw1=>R (ai #[]) w1) (NE (au 32 5 #[.mk 0 (X (ao #[])),.mk 1 (X (ao #[115,116,97,116,101])),.mk 2 (X (ao #[112,97,114,97,108,108,101,108])),.mk 3 (X (ao #[104,105,115,116,111,114,121])),.mk 4 (X (ao #[100,101,101,112]))]) b λA h=>cu [k] b h/\oO (λG l=>N G (gj [k] 131 #[pA p,aj (L.toList==((ao #[]).toList))] l λw4=>o0 w4 λm=>∃a:aJ,a k/\∃p0,cR A n 1 p0/\a p0.block/\Cg m p0 λY=>rA [k] 133 #[pA p,X x] m λs1 c=>bT a m c/\rb3 32 (X Y) (X s1) (X (ao #[123])) c λT d=>cu [k] c d/\bT a c d/\gj [k] 132 #[pA p,O U deep,T.v] d λD=>bT a d D/\gj [k] 135 #[pA p,ck n x u L Z y v o H,O U (ar U (deep+1))] D λE=>lW 32 (X (ao #[125])) E λV z=>cu [k] E z/\gj [k] 132 #[pA p,O U deep,V.v] z λM=>R (ai #[]) M) (oO (λK s=>N K (gj [k] 131 #[pA p,aj ((u.toList==((ao #[]).toList))&&((ar U ((ar U ((ar U ((Z.n:Int)+(y.n:Int)))+(v.n:Int)))+(o.n:Int)))==0))] s λP=>o0 P λg=>∃J:aJ,J k/\∃f,cR A n 1 f/\J f.block/\Cg g f λs2=>J k/\rA [k] 133 #[pA p,X x] g λs3 e=>bT J g e/\rA [k] 133 #[pA p,X L] e λC j=>bT J e j/\((C.size:Int)+1)<=9223372036854775807/\∃B:Sl,∃i,((au 32 4 #[.mk 0 (X s2),.mk 1 (X s3),.mk 2 (X (ao #[45,62])),.mk 3 (X (C++(ao #[59])))]).run aq j)=(.ok B.v i)/\cu [k] j i/\bT J j i/\gj [k] 132 #[pA p,O U deep,B.v] i λt=>bT J i t/\R (ai #[]) t) (gj [k] 131 #[pA p,aj aL] s λW=>R (ai #[]) W)) λr=>N (n==3) (r (n==3) l) (r (n==4) l))) λq=>N (n==1) (q (n==1) h) (q (n==2) h))):Cr 178 #[pA p,ck n x u L Z y v o H,O U deep] w R:=
 fC (.d 4 (.j [0,2,4,6,19] [.s 22 .bool] .o (.s .o (.j [0,2,4,6] [.s 52 .bool] .o .o)))) S
def amS(c:Addr)(k:cS 145 #[pA c] w λs n=>mO 0 n λf l i b=>oO (λg d=>N g (nx l λm=>f m (ar U (i+1)) d) (∃k3:Nat,(i=(k3:Int)/\k3<=s.size)/\R (X (s.extract 0 k3)) d)) λJ=>N (decide (i<(s.size:Int))) (∃c0:UInt8,(0<=i/\(s[Int.toNat i]?)=(aM c0))/\cB 147 #[.int .u8 (UInt8.toNat c0:Int)] b λh e=>N h (J aE e) (∃a:UInt8,(0<=i/\(s[Int.toNat i]?)=(aM a))/\cB 149 #[.int .u8 (UInt8.toNat a:Int)] e λj o=>J j o)) (J aL b)):Cr 183 #[pA c] w R:=
 fC (.d 3 (.s (.j [3] [.s 4 dr] (.s (.s (.j [3,4] [.s 22 .bool] .o .o) .o) .o) .o) .o)) k
def adS(s:aK)(R:aG)(w:av)(h:cS 213 #[X s] w λa b=>R (X a) b):Cr 185 #[X s] w R:=
 je h
def v0w(s:aK)(l:mO 0 w λg n i d=>oO (λh a=>N h (nx n λo=>g o (ar U (i+1)) a) (N (s.toList==((ao #[]).toList)) (R (ai #[O U 0,O U 0,O U 3]) a) (oO (λj e=>N j (R (ai #[O U 0,O U 0,O U 4]) e) (∃k3:Nat,(i=(k3:Int)/\k3<=s.size)/\adM 215 #[X (s.extract 0 k3),O U 10,O U 64] e λm v f=>Ifc v.v/\N (!(niV v.v)) (R (ai #[O U 0,O U 0,O U 20]) f) (R (ai #[O U m,O U i,O U 0]) f))) λb=>N (i==0) (b (i==0) a) (∃c0:UInt8,((decide (i>1))=aE->(0:Int)<=0/\s[0]? =(aM c0))/\b ((decide (i>1))&&((UInt8.toNat c0:Int)==48)) a)))) λJ=>N (decide (i<(s.size:Int))) (∃c:UInt8,(0<=i/\(s[Int.toNat i]?)=(aM c))/\cB 214 #[.int .u8 (UInt8.toNat c:Int)] d λk p=>J k p) (J aL d)):Cr 186 #[X s] w R:=
 fC (.d 2 (.s (.j [0] [.s 5 dr] (.s (.s (.j [0,5] [.s 17 .bool] .o .o) .o) .o) .o) (.s (.d 2 (.j [0,5] [.s 23 .bool] .o .o)) .o))) l
def amT(c:Addr)(B:nw w λk M=>kF [k] 76 #[pA c] M λy t=>N (!y) (∀u,Q [k] t u->R (bO 0 0 (ao #[]) 0 Sl.nil 0) u) (o0 t λh=>∃J:aJ,o0 h λv=>J ((c.add 0).block)/\kl v (c.add 0) λL=>o0 v λx=>J ((c.add 1).block)/\iB x (c.add 1) λC=>o0 x λb=>ot [k] 216 #[L.v,O U C] b λm n s o r p D q E d=>qI h b d/\bT J b d/\o0 d λi=>∀a,h.heap.size<=a->a<i.heap.size->DH [.mk b.heap.size d.heap.size] a->N (q !=0) (∀j,Q [a,k] i j->sT (c.add 2) j 2 λf k3 P G=>k≠f/\a≠f/\sS j f k3 P G [O U q,O U E] λz=>∀F,Q [k] z F->R (bO m n s o r p) F) (∀e,Q [a,k] i e->sT (c.add 1) e 1 λg H S K=>k≠g/\a≠g/\sS e g H S K [O U D] λA=>∀l,Q [k] A l->R (bO m n s o r p) l))):Cr 187 #[pA c] w R:=
 fC (.d 2 (.s (.l aL [] []) .o)) B
def amU(r:Addr)(sign:aK)(read:OV)(R:aG)(w:av)(h:lp0 w λe j m=>oO (λf a=>N f (∃k:Nat,∃z d,read.v=(.func (.func k) z.toArray d.toArray)/\(∀x:Array aw,∀b,((callFunc k x).run aq b)=(.ok (.enter k x) b))/\cU k ((A3 (A3 z []) d).toArray) a λn=>nx j λk3=>e k3 n) (R (ai #[]) a)) λJ=>cB 76 #[pA (r.add 0)] m λg c=>N g (lW 32 (X sign) c λl o=>cI 73 #[pA (r.add 0),l.v] o λi p=>J (i==0) p) (J aL c)):Cr 188 #[pA r,X sign,read.v] w R:=
 fB (an:=.j [0,1,2] [] (.s (.s (.j [0,1,2] [.s 18 .bool] .o .o) .o) .o) .o) (args:=[.ad r,.str sign,.raw read]) h
def amV(m M:Addr)(h:o0 w λa=>∃J:aJ,J m.block/\kl a m λp=>xCQ a M λt=>HP 190 #[ae t] a λi u e f v g q j k b=>bT J a b/\lW 23 (lc i u e f v g q j k) b λr c=>bT J b c/\uB 23 p r c λs d=>bT J c d/\sT m d 1 λl n z o=>sS d l n z o [s.v] λx=>R (ai #[]) x):Cr 189 #[pA m,pA M] w R:=
 je h
def amW(r:Addr)(am:nw w λa e=>∃J:aJ,o0 e λP=>J (((r.add 0).add 0).block)/\kl P ((r.add 0).add 0) λl0=>o0 P λS=>J (((r.add 0).add 1).block)/\iB S ((r.add 0).add 1) λi0=>∃p0,cR l0 i0 4 p0/\o0 S λT=>J ((p0.add 3).block)/\iB T (p0.add 3) λd=>o0 T λb=>rb3 32 (X (ao #[115,101,116])) (X (ao #[114,97,105,115,101])) (X (ao #[101,109,105,116])) b λl1 c=>cu [a] b c/\qI e b c/\bT J b c/\o0 c λf=>qe [a] 109 #[pA (r.add 0),l1.v] f λi h=>qI e f h/\bT J f h/\o0 h λq=>∀k,e.heap.size<=k->k<q.heap.size->DH [.mk f.heap.size h.heap.size,.mk b.heap.size c.heap.size] k->N (i==0) (∀V,Q [k] q V->gj [a,k] 77 #[pA (r.add 0)] V λY=>∀F,Q [a] Y F->R (lc i (ao #[]) 0 0 (ao #[]) 0 Sl.nil 0 d) F) (∀s,Q [k] q s->gj [a,k] 106 #[pA r,pA ((r.add 4).add 4),O U 2] s λfl=>kF [a,k] 76 #[pA (r.add 0)] fl λW g=>N (!W) (∀B,Q [a] g B->R (lc i (ao #[]) 0 0 (ao #[]) 0 Sl.nil 0 d) B) (iB g ((r.add 0).add 1) λi3=>sT ((r.add 0).add 1) g 1 λp k3 z0 k4=>a≠p/\k≠p/\sS g p k3 z0 k4 [O U (ar U (i3+1))] λjw=>rA [a,k] 154 #[pA (r.add 0)] jw λG iX=>∀u,Q [k] iX u->∃j:Int->aK->Int->Int->aK->Int->Sl->Int->Int->av->Prop,(∀t H v x K y,∀D:Sl,∀z A Z,j t H v x K y D z A Z->lW 32 (X (ao #[59])) Z λl3 C=>cu [a,k] Z C/\gj [a,k] 71 #[pA (r.add 0),l3.v] C λnj=>∀E,Q [a] nj E->R (lc t H v x K y D z A) E)/\N (i !=2) (lW 32 (X (ao #[61])) u λl4 M=>cu [a,k] u M/\gj [a,k] 71 #[pA (r.add 0),l4.v] M λuF=>ga [a,k] 187 #[pA (r.add 0)] uF λl m s3 n l5 o qL=>∀L,Q [k] qL L->j i G l m s3 n l5 o d L) (j i G 0 0 (ao #[]) 0 Sl.nil 0 d u)))):Cr 190 #[pA r] w R:=
 fC (.s .o (.s (.l aL [] []) (.d 4 (.j [0,2,3] [.b 3 [dr,.str,dr,dr,.str,dr,.sl,dr,dr]] .o .o)))) am
def atu(c:Int)(h:R (aj ((((decide (c>=65))&&(decide (c<=90)))||((decide (c>=97))&&(decide (c<=122))))||(c==95))) w):Cr 191 #[.int .u8 c] w R:=
 je h
def atv(s:aK)(h:cL 217 #[] w λl d=>mO 0 d λJ k i a=>N (decide (i<(l.n:Int))) (FA l i a λc=>N (c.toList==s.toList) (R (aj aE) a) (nx k λb=>J b (ar U (i+1)) a)) (R (aj aL) a)):Cr 192 #[X s] w R:=
 fC (.d 2 (.s (.s .o (.j [0,3] [.s 4 dr] .o .o)) .o)) h
def atw(s:aK)(at_:Int)(h:oO (λg l=>R (O U g) l) λJ=>mO 0 w λd k i a=>N (decide ((ar U (at_+i))<(s.size:Int))) (∃c0:UInt8,(0<=(ar U (at_+i))/\(s[Int.toNat (ar U (at_+i))]?)=(aM c0))/\cB 191 #[.int .u8 (UInt8.toNat c0:Int)] a λe m=>∃c:UInt8,(0<=(ar U (at_+i))/\(s[Int.toNat (ar U (at_+i))]?)=(aM c))/\cB 218 #[.int .u8 (UInt8.toNat c:Int)] m λf b=>N ((!e)&&(!f)) (J i b) (nx k λj=>d j (ar U (i+1)) b)) (J i a)):Cr 193 #[X s,O U at_] w R:=
 fC (.d 2 (.j [] [.s 5 dr] (.j [0,1] [.s 5 dr] .o .o) .o)) h
def amX(n:Addr)(l:Sl)(y:mO 0 w λs G i a=>N (decide (i<(l.n:Int))) (iB a (n.add 2) λz=>sT (n.add 2) a 1 λH k3 Y K=>sS a H k3 Y K [O U (ar U (z+1))] λq=>∃p0,cR l i 9 p0/\Cg q (p0.add 1) λS=>cB 156 #[X S] q λt r=>∃p,cR l i 9 p/\jC r (p.add 2) λA B T C M D=>cB 219 #[bO A B T C M D] r λu b=>oO (λv c=>∃j,cR l i 9 j/\iB c (j.add 0) λg=>∃k,((decide (g<1))=aL->cR l i 9 k)/\∃h,((decide (g<1))=aL->aB c (k.add 0) [O U h])/\N ((((decide (g<1))||(decide (h>3)))||(!t))||(!v)) (R (aj aL) c) (nx G λL=>s L (ar U (i+1)) c)) λJ=>∃m,cR l i 9 m/\iB b (m.add 0) λE=>N (E==2) (∃o,cR l i 9 o/\jC b (o.add 2) λF d V e P f=>cB 220 #[bO F d V e P f] b λx W=>J x W) (J u b)) (R (aj aE) a)):Cr 194 #[pA n,l.v] w R:=
 fC (.s .o (.s (.s .o (.j [0,1] [.s 5 dr] (.s .o (.s (.d 3 (.j [0,1,5,6] [.s 7 .bool] .o .o)) .o)) .o)) .o)) y
def amY(n:Addr)(a:Int)(c:aK)(e:Int)(t:Bool)(f g:Int)(h:aK)(j:Int)(l:Sl)(o:Int)(b m:Sl)(d:Int)(G:nw w λk p=>iB p (n.add 1) λH=>sT (n.add 1) p 1 λs K Z k3=>k≠s/\sS p s K Z k3 [O U (ar U (H+1))] λu=>oO (λz S=>kF [k] 220 #[bO f g h j l o] S λA v=>oO (λB T=>kF [k] 194 #[pA n,b.v] T λC V=>mO 0 V λy L i q=>N (decide (i<(m.n:Int))) (FA m i q λP=>kF [k] 156 #[X P] q λD x=>N (!D) (R (aj aL) x) (nx L λM=>y M (ar U (i+1)) x)) (R (aj ((((((decide (a>=1))&&(decide (a<=3)))&&z)&&B)&&C)&&((e==0)||((a==3)&&(decide (e>0)))))) q)) λr=>N t (kF [k] 219 #[bO f g h j l o] v λE W=>r E W) (r A v)) λJ=>N (a==1) (kF [k] 156 #[X c] u λF Y=>J F Y) (J (c.toList==((ao #[]).toList)) u)):Cr 195 #[pA n,fi a c e t f g h j l o b m d] w R:=
 fC (.d 3 (.j [0,3] [.s 5 .bool] .o (.s .o (.j [0,3,5] [.s 6 .bool] .o (.s .o (.s (.s .o (.j [3,5,6,7] [.s 8 dr] .o .o)) .o)))))) G
def amZ(a:Int)(x:aK)(i C:Int)(F:aK)(g:Int)(J:Sl)(D m:Int)(n:N (a==1) (nw w λk f=>∃c:aJ,c k/\(4+(x.size:Int))<=9223372036854775807/\((((ao #[115,101,116,32])++x).size:Int)+3)<=9223372036854775807/\rA [k] 197 #[bO i C F g J D] f λs h=>bT c f h/\(((((ao #[115,101,116,32])++x)++(ao #[32,61,32])).size:Int)+(s.size:Int))<=9223372036854775807/\((((((ao #[115,101,116,32])++x)++(ao #[32,61,32]))++s).size:Int)+1)<=9223372036854775807/\R (X (((((ao #[115,101,116,32])++x)++(ao #[32,61,32]))++s)++(ao #[59]))) h) (N (a==2) ((6+(x.size:Int))<=9223372036854775807/\((((ao #[114,97,105,115,101,32])++x).size:Int)+1)<=9223372036854775807/\nw w λp o=>R (X (((ao #[114,97,105,115,101,32])++x)++(ao #[59]))) o) (nw w λe j=>∃d:aJ,d e/\(5+(x.size:Int))<=9223372036854775807/\((((ao #[101,109,105,116,32])++x).size:Int)+3)<=9223372036854775807/\rA [e] 197 #[bO i C F g J D] j λb l=>bT d j l/\(((((ao #[101,109,105,116,32])++x)++(ao #[32,61,32])).size:Int)+(b.size:Int))<=9223372036854775807/\((((((ao #[101,109,105,116,32])++x)++(ao #[32,61,32]))++b).size:Int)+1)<=9223372036854775807/\R (X (((((ao #[101,109,105,116,32])++x)++(ao #[32,61,32]))++b)++(ao #[59]))) l))):Cr 196 #[lc a x i C F g J D m] w R:=
 je n
def am0(x a:Int)(b:aK)(c:Int)(d:Sl)(e:Int)(h:nw w λk f=>VW [k] 221 #[bO x a b c d e] f λs i g=>R (X s) g):Cr 197 #[bO x a b c d e] w R:=
 je h
def adT(b:Addr)(h:xCQ w (b.add 0) λl=>N l.isNone (∃v:OV,∃e,((convert 212 293 (pA b)).run aq w)=(.ok v.v e)/\∃d:OV,∃f,((Sz 233 #[v.v]).run aq e)=(.ok d.v f)/\∃q a,((convert 293 212 d.v).run aq f)=(.ok (ae q) a)/\sT (b.add 0) a 1 λk i z j=>sS a k i z j [ae q] λn=>R (ai #[]) n) (xCQ w (b.add 0) λm=>∃c g,((binOp .neq 212 (ae m) (pA b)).run aq w)=(.ok (aj c) g)/\N c (False) (R (ai #[]) g))):Cr 201 #[pA b] w R:=
 je h
def am1(s:Sl)(d:OV)(R:aG)(g:av)(q:cI 237 #[s.v,d.v] g λa h=>N (a==(-1)) (R s.v h) (Ju a (ar U (a+1)) h λn t i b w=>N (decide (b<(s.n:Int))) (oO (λr B=>nx t λu=>n u r (ar U (b+1)) B) λJ=>FA s b w λf=>∃k3:Nat,∃z m,d.v=(.func (.func k3) z.toArray m.toArray)/\(∀x:Array aw,∀j,((callFunc k3 x).run aq j)=(.ok (.enter k3 x) j))/\cB k3 ((A3 (A3 z [X f]) m).toArray) w λo e=>N (!o) (∃p,cR s i 1 p/\sT p e 1 λv y D A=>sS e v y D A [X f] λC=>J (ar U (i+1)) C) (J i e)) (∃k:Nat,(i=(k:Int)/\k<=s.n/\s.n<=s.c)/\∃l,((Builtin.clear_ #[32] 0 #[(s.cut k s.n s.c 1).v]).run aq w)=(.ok (ai #[]) l)/\∃c:Nat,(i=(c:Int)/\c<=s.c)/\R ((s.cut 0 c s.c 1).v) l))):Cr 205 #[s.v,d.v] g R:=
 fB (an:=.d 3 (.s (.s .o (.j [0,1] [.s 5 (.int .i64),.s 6 (.int .i64)] (.s .o (.j [0,1,6] [.s 5 (.int .i64)] .o .o)) .o)) .o)) (args:=[.sl s,.raw d]) q
def am2(s:aK)(h:R (aj (s.toList==((ao #[]).toList))) w):Cr 206 #[X s] w R:=
 je h
def am3(p:Addr)(a:Int)(x:aK)(i C:Int)(F:aK)(h:Int)(g:Sl)(D u:Int)(v:nw w λk r=>rb4 32 (X (ao #[])) (X (ao #[115,101,116])) (X (ao #[114,97,105,115,101])) (X (ao #[101,109,105,116])) r λo c=>cu [k] r c/\N ((decide (a<1))||(decide (a>3))) (gj [k] 131 #[pA p,aj aL] c λL=>R (X (ao #[])) L) (N (a==2) (gj [k] 210 #[pA p,bO i C F h g D] c λM=>o0 M λl=>∃b:aJ,b k/\∃p0,cR o a 1 p0/\b p0.block/\Cg l p0 λB=>rA [k] 133 #[pA p,X x] l λE e=>bT b l e/\NH 32 (X B) (X E) e λy f=>cu [k] e f/\bT b e f/\rA [k] 172 #[y.v] f λs t=>bT b f t/\((s.size:Int)+1)<=9223372036854775807/\R (X (s++(ao #[59]))) t) (o0 c λm=>∃J:aJ,J k/\∃j,cR o a 1 j/\J j.block/\Cg m j λG=>J k/\rA [k] 133 #[pA p,X x] m λH n=>bT J m n/\rA [k] 209 #[pA p,bO i C F h g D] n λK z=>bT J n z/\rb4 32 (X G) (X H) (X (ao #[61])) (X K) z λA d=>cu [k] z d/\bT J z d/\rA [k] 172 #[A.v] d λq Z=>bT J d Z/\((q.size:Int)+1)<=9223372036854775807/\R (X (q++(ao #[59]))) Z))):Cr 208 #[pA p,lc a x i C F h g D u] w R:=
 je v
def am4(p:Addr)(x a:Int)(b:aK)(c:Int)(d:Sl)(e:Int)(h:nw w λk f=>rA [k] 239 #[bO x a b c d e] f λs g=>gj [k] 131 #[pA p,aj (!(s.toList==((ao #[]).toList)))] g λi=>R (X s) i):Cr 209 #[pA p,bO x a b c d e] w R:=
 je h
def am5(p:Addr)(x a:Int)(b:aK)(c:Int)(d:Sl)(g:Int)(h:nw w λk e=>gj [k] 131 #[pA p,aj (((((x==0)&&(a==0))&&(b.toList==((ao #[]).toList)))&&(c==0))&&((d.n:Int)==0))] e λf=>R (ai #[]) f):Cr 210 #[pA p,bO x a b c d g] w R:=
 je h
def am6(s:Sl)(v:Int)(h:mO 0 w λJ k i a=>N (decide (i<(s.n:Int))) (∃p0,cR s i 1 p0/\∃b,aB a p0 [.int .u8 b]/\N (v==b) (R (O U i) a) (nx k λc=>J c (ar U (i+1)) a)) (R (O U (-1)) a)):Cr 211 #[s.v,.int .u8 v] w R:=
 fC (.s .o (.s (.s .o (.j [0,1,7] [.s 8 dr] .o .o)) .o)) h
def v2w(c:Int)(h:R (aj (decide ((ar .u8 (c-48))<10))) w):Cr 214 #[.int .u8 c] w R:=
 je h
def v4w(l:Sl)(at_:Int)(u:vW w λa b S=>qe [a,b] 246 #[l.v,.func (.func 247) #[] #[]] S λv n=>N (((decide (at_<0))||(decide (at_>=(l.n:Int))))||(v !=(ar U ((l.n:Int)-1)))) (∀o,Q [b,a] n o->R (ai #[bO 0 0 (ao #[]) 0 Sl.nil 0,O U 0,xR 1 (-1)]) o) (xP [a,b] 248 #[] n λH T=>nw T λk p=>aF p k 310 [l.v,O U at_,O U 0,O U 0,O U 0,H.v]->ga [a,b] 249 #[pB k,O U 0] p λx y P A K B q=>KD q k 310 λL C D E G M=>nw q λk3 r=>aF r k 310 [L.v,O U C,O U D,O U E,O U G,M.v]->kF [a,b,k3] 250 #[pB k] r λt j=>KD j k 310 λf e i c d g=>N t (o0 j λs=>aF s k 310 [f.v,O U e,O U i,O U c,O U d,g.v]->a≠b->a≠k->a≠k3->b≠k->b≠k3->k≠k3->∃J:aJ,J k/\uU J a/\uU J b/\∀m,Q [b,a] s m->aF m k 310 [f.v,O U e,O U i,O U c,O U d,g.v]->R (ai #[bO 0 0 (ao #[]) 0 Sl.nil 0,O U 0,xR i c]) m) (o0 j λz=>aF z k 310 [f.v,O U e,O U i,O U c,O U d,g.v]->a≠b->a≠k->a≠k3->b≠k->b≠k3->k≠k3->∃h:aJ,h k/\uU h a/\uU h b/\∀F,Q [b,a] z F->aF F k 310 [f.v,O U e,O U i,O U c,O U d,g.v]->R (ai #[bO x y P A K B,O U e,xR 0 0]) F))):Cr 216 #[l.v,O U at_] w R:=
 je u
def atx(h:∃l:Sl,∃a,((au 32 16 #[.mk 0 (X (ao #[97,102,116,101,114])),.mk 1 (X (ao #[97,108,119,97,121,115])),.mk 2 (X (ao #[99,104,97,114,116])),.mk 3 (X (ao #[100,101,101,112])),.mk 4 (X (ao #[101,109,105,116])),.mk 5 (X (ao #[101,110,116,101,114])),.mk 6 (X (ao #[104,105,115,116,111,114,121])),.mk 7 (X (ao #[105,110])),.mk 8 (X (ao #[105,110,105,116,105,97,108])),.mk 9 (X (ao #[108,101,97,118,101])),.mk 10 (X (ao #[111,110])),.mk 11 (X (ao #[112,97,114,97,108,108,101,108])),.mk 12 (X (ao #[114,97,105,115,101])),.mk 13 (X (ao #[115,101,116])),.mk 14 (X (ao #[115,116,97,116,101])),.mk 15 (X (ao #[118,97,114]))]).run aq w)=(.ok l.v a)/\R l.v a):Cr 217 #[] w R:=
 je h
def aty(c:Int)(h:R (aj ((decide (c>=48))&&(decide (c<=57)))) w):Cr 218 #[.int .u8 c] w R:=
 je h
def am7(x a:Int)(b:aK)(c:Int)(d:Sl)(e:Int)(h:nw w λk g=>VW [k] 221 #[bO x a b c d e] g λs f i=>R (aj f) i):Cr 219 #[bO x a b c d e] w R:=
 je h
def am8(x a:Int)(b:aK)(c:Int)(d:Sl)(f:Int)(h:nw w λk e=>R (aj (((((x==0)&&(a==0))&&(b.toList==((ao #[]).toList)))&&(c==0))&&((d.n:Int)==0))) e):Cr 220 #[bO x a b c d f] w R:=
 je h
def atz(x b:Int)(c:aK)(d:Int)(e:Sl)(f:Int)(p:nw w λa D=>kF [a] 251 #[bO x b c d e f] D λn i=>N (!n) (R (ai #[X (ao #[]),aj aL]) i) (nw i λk j=>aF j k 314 [Sl.nil.v]->gj [a] 252 #[pB k,bO x b c d e f] j λg=>VS g k 314 λy=>∃z:aH,vD g y z/\tR [a] 253 #[X (ao z.toArray)] g λq r C s A t u E l=>VS l k 314 λB=>vW l λv k3 m=>aF m k 314 [B.v]->kF [a,v,k3] 99 #[bO x b c d e f,bO q r C s A t,aj aL] m λo h=>VS h k 314 λF=>N (((decide (((ao z.toArray).size:Int)>16384))||(u !=0))||(!o)) (R (ai #[X (ao #[]),aj aL]) h) (R (ai #[X (ao z.toArray),aj aE]) h))):Cr 221 #[bO x b c d e f] w R:=
 je p
def am9(s:Sl)(f:OV)(R:aG)(a:av)(h:mO 0 a λJ g i w=>N (decide (i<(s.n:Int))) (FA s i w λj=>∃k:Nat,∃z d,f.v=(.func (.func k) z.toArray d.toArray)/\(∀x:Array aw,∀b,((callFunc k x).run aq b)=(.ok (.enter k x) b))/\cB k ((A3 (A3 z [X j]) d).toArray) w λe c=>N e (R (O U i) c) (nx g λk3=>J k3 (ar U (i+1)) c)) (R (O U (-1)) w)):Cr 237 #[s.v,f.v] a R:=
 fB (an:=.s .o (.s (.s .o (.j [0,1,7] [.s 8 (.int .i64)] .o .o)) .o)) (args:=[.sl s,.raw f]) h
def v6w(x c:Int)(d:aK)(e:Int)(f:Sl)(g:Int)(t:nw w λa C=>kF [a] 265 #[bO x c d e f g] C λs i=>N (!s) (R (X (ao #[])) i) (xP [a] 248 #[] i λz D=>nw D λk j=>aF j k 329 [ae aaa,Sl.nil.v,z.v]->gj [a] 266 #[pB k,bO x c d e f g,aj aL] j λm=>PF m k 329 λY L M=>rA [a] 137 #[pB k] m λA n=>PF n k 329 λZ P S=>tR [a] 267 #[X A] n λE F s1 G T H u J b=>PF b k 329 λq l h=>N (u !=0) (vW b λK k3 o=>aF o k 329 [ae q,l.v,h.v]->R (X (ao #[])) o) (vW b λv y p=>aF p k 329 [ae q,l.v,h.v]->rA [a,v,y] 137 #[pB k] p λB r=>PF r k 329 λq3 V W=>R (X B) r))):Cr 239 #[bO x c d e f g] w R:=
 je t
def ana(s:Sl)(f:OV)(R:aG)(a:av)(h:mO 0 a λJ m i w=>N (decide (i<(s.n:Int))) (VT s i w λg n j l=>∃k:Nat,∃z d,f.v=(.func (.func k) z.toArray d.toArray)/\(∀x:Array aw,∀b,((callFunc k x).run aq b)=(.ok (.enter k x) b))/\cB k ((A3 (A3 z [nW g n j l]) d).toArray) w λe c=>N e (R (O U i) c) (nx m λk3=>J k3 (ar U (i+1)) c)) (R (O U (-1)) w)):Cr 246 #[s.v,f.v] a R:=
 fB (an:=.s .o (.s (.s .o (.j [0,1,7] [.s 8 (.int .i64)] .o .o)) .o)) (args:=[.sl s,.raw f]) h
def v3w(t:Int)(a:aK)(b c:Int)(R:aG)(w:av)(h:nw w λk d=>R (aj (t==5)) d):Cr 247 #[nW t a b c] w R:=
 je h
def atA(h:∃l:Sl,∃a,((au 32 16 #[.mk 1 (X (ao #[43])),.mk 2 (X (ao #[45])),.mk 3 (X (ao #[42])),.mk 4 (X (ao #[47])),.mk 5 (X (ao #[37])),.mk 6 (X (ao #[60])),.mk 7 (X (ao #[60,61])),.mk 8 (X (ao #[62])),.mk 9 (X (ao #[62,61])),.mk 10 (X (ao #[61,61])),.mk 11 (X (ao #[33,61])),.mk 12 (X (ao #[38,38])),.mk 13 (X (ao #[124,124])),.mk 14 (X (ao #[45])),.mk 15 (X (ao #[33]))]).run aq w)=(.ok l.v a)/\R l.v a):Cr 248 #[] w R:=
 je h
def anb(r:Addr)(k:Int)(R:aG)(q:av)(B:N (k==6) (nw q λu w0=>ga [u] 275 #[pA r] w0 λC D s0 E W G w1=>∀y,Q [u] w1 y->R (bO C D s0 E W G) y) (nw q λd w3=>ga [d] 249 #[pA r,O U (ar U (k+1))] w3 λH K s1 L Y M w4=>nw w4 λe w5=>qe [d,e] 276 #[pA r,O U k] w5 λP w6=>∃J:Nat->Int->Int->Int->aK->Int->Sl->Int->av->Prop,∃k3:Nat,J k3 P H K s1 L Y M w6/\∀v n a b s c,∀p:Sl,∀i w,J v n a b s c p i w->N (n !=0) (iB w ((r.add 0).add 1) λf=>sT ((r.add 0).add 1) w 1 λo S z0 T=>d≠o/\e≠o/\sS w o S z0 T [O U (ar U (f+1))] λw8=>ga [d,e] 249 #[pA r,O U (ar U (k+1))] w8 λg h s3 j l3 l w9=>nw w9 λx z=>NH 66 (bO a b s c p i) (bO g h s3 j l3 l) z λl4 F=>cu [d,e,x] z F/\∀Z,Q [e] F Z->qe [d,e,x] 276 #[pA r,O U k] Z λm A=>nx v λV=>J V m 5 0 (ao #[]) n l4 i A) (∀t,Q [d] w t->R (bO a b s c p i) t))):Cr 249 #[pA r,O U k] q R:=
 fC (.d 3 (.s (.s .o (.j [0,1,4,5] [.s 6 dr,.b 5 [dr,dr,.str,dr,.sl,dr]] .o .o)) .o)) B
def v7w(c:Addr)(h:iB w ((c.add 2).add 0) λi=>R (aj (i !=0)) w):Cr 250 #[pA c] w R:=
 je h
def anc(x b:Int)(c:aK)(d:Int)(a:Sl)(l:Int)(r:nw w λk C=>mO 0 C λm z i f=>N (decide (i<(a.n:Int))) (jT a i f λs t B u A v=>kF [k] 251 #[bO s t B u A v] f λn j=>N (!n) (R (aj aL) j) (nx z λk3=>m k3 (ar U (i+1)) j)) (kF [k] 156 #[X c] f λo g=>N (x==1) (R (aj ((((decide (b>=0))&&(c.toList==((ao #[]).toList)))&&(d==0))&&((a.n:Int)==0))) g) (oO (λp e=>N p (R (aj ((((b==0)&&o)&&(d==0))&&((a.n:Int)==0))) e) (N (x==4) (R (aj ((((b==0)&&(c.toList==((ao #[]).toList)))&&((d==14)||(d==15)))&&((a.n:Int)==1))) e) (N (x==5) (oO (λq D=>R (aj q) D) λh=>N ((b==0)&&(c.toList==((ao #[]).toList))) (qe [k] 277 #[bO x b c d a l] e λy E=>h ((decide (y<6))&&((a.n:Int)==2)) E) (h aL e)) (R (aj aL) e)))) λJ=>N (x==2) (J (x==2) g) (J (x==3) g)))):Cr 251 #[bO x b c d a l] w R:=
 fC (.s .o (.s (.s .o (.j [1] [.s 3 dr] .o .o)) (.d 2 (.s (.d 3 (.j [1,5,6,29] [.s 49 .bool] .o (.d 4 (.s (.s (.j [1] [.s 2 .bool] .o .o) .o) .o)))) .o)))) r
def atB(p:Addr)(x M:Int)(c:aK)(g:Int)(b:Sl)(x5:Int)(am:nw w λk a=>kl a (p.add 0) λl0=>N (decide ((l0.n:Int)>16384)) (R (ai #[]) a) (N (x==1) (rA [k] 114 #[O U M] a λs0 w1=>gj [k] 278 #[pA p,X s0] w1 λw2=>R (ai #[]) w2) (N (x==2) (gj [k] 278 #[pA p,X c] a λw3=>R (ai #[]) w3) (N (x==3) ((3+(c.size:Int))<=9223372036854775807/\((((ao #[105,110,40])++c).size:Int)+1)<=9223372036854775807/\gj [k] 278 #[pA p,X (((ao #[105,110,40])++c)++(ao #[41]))] a λw4=>R (ai #[]) w4) (N (x==4) (AO (λw5=>∃p0,cR b 0 6 p0/\o0 w5 λL=>jC L p0 λi0 i1 s1 i2 l1 i3=>∃Y,cR b 0 6 Y/\iB L (Y.add 0) λi4=>gj [k] 279 #[pA p,bO i0 i1 s1 i2 l1 i3,aj (i4==5)] L λw7=>R (ai #[]) w7) λP=>N (g==14) (gj [k] 278 #[pA p,X (ao #[45])] a λw8=>P w8) (gj [k] 278 #[pA p,X (ao #[33])] a λw9=>P w9)) (N (x==5) (qe [k] 277 #[bO x M c g b x5] a λf dz=>xP [k] 280 #[] dz λl2 T=>xYL l2 f T λW=>o0 T λe=>∃J:aJ,J k/\∃F,cR b 0 6 F/\J F.block/\jC e F λi6 i7 s2 i8 l4 i9=>jT b 0 e λh m s3 o l5 q=>qe [k] 277 #[bO h m s3 o l5 q] e λr l=>bT J e l/\gj [k] 279 #[pA p,bO i6 i7 s2 i8 l4 i9,aj (decide (r<f))] l λV=>bT J l V/\mO 0 V λJ2 k2 i j=>N (decide (i<(W.n:Int))) (AO (λjw=>nx k2 λk3=>J2 k3 (ar U (i+1)) jw) λS=>Gc W i j λs=>N (s==g) (o0 j λiX=>xP [k] 281 #[] iX λl6 E=>xYL l6 f E λl7=>FA l7 i E λK=>(1+(K.size:Int))<=9223372036854775807/\((((ao #[32])++K).size:Int)+1)<=9223372036854775807/\gj [k] 278 #[pA p,X (((ao #[32])++K)++(ao #[32]))] E λlZ=>S lZ) (o0 j λkg=>S kg)) (o0 j λn=>∃d:aJ,d k/\∃G,cR b 1 6 G/\d G.block/\jC n G λt u s5 v l8 y=>jT b 1 n λz A s6 B l9 C=>qe [k] 277 #[bO z A s6 B l9 C] n λD H=>bT d n H/\gj [k] 279 #[pA p,bO t u s5 v l8 y,aj (decide (D<=f))] H λZ=>bT d H Z/\R (ai #[]) Z)) (R (ai #[]) a))))))):Cr 252 #[pA p,bO x M c g b x5] w R:=
 fC (.d 10 (.s (.j [0,3] [] .o .o) (.s .o (.s (.d 3 (.s (.s .o (.j [0,3,4,5] [.s 6 dr] (.s .o (.j [0,3,4,5,6] [] .o .o)) .o)) .o)) .o)))) am
def atC(s:aK)(v:vW w λk a K=>A7 [k,a] 282 #[X s] K λl m x q=>N (m !=0) (nw q λh L=>k≠a->k≠h->a≠h->∃J:aJ,J h/\uU J k/\uU J a/\∀r,Q [a,k] L r->R (ai #[bO 0 0 (ao #[]) 0 Sl.nil 0,xR m x]) r) (nw q λk3 M=>ot [k,a,k3] 283 #[l.v,O U 0] M λy A H B G C n o D e=>N (o !=0) (∀b j,e.heap.size<=b->b<j.heap.size->Q [k3] e j->k≠a->k≠k3->k≠b->a≠k3->a≠b->k3≠b->∃f:aJ,f k3/\uU f k/\uU f a/\∀t,Q [a,k] j t->R (ai #[bO 0 0 (ao #[]) 0 Sl.nil 0,xR o D]) t) (∃p0,cR l n 4 p0/\∀c d,e.heap.size<=c->c<d.heap.size->Q [k3] e d->iB d (p0.add 0) λE=>N (E !=5) (o0 d λu=>k≠a->k≠k3->k≠c->a≠k3->a≠c->k3≠c->∃g:aJ,∃p,cR l n 4 p/\g ((p.add 3).block)/\iB u (p.add 3) λi=>uU g k/\uU g a/\∀z,Q [a,k] u z->R (ai #[bO 0 0 (ao #[]) 0 Sl.nil 0,xR 4 i]) z) (∀F,Q [a,k] d F->R (ai #[bO y A H B G C,xR 0 0]) F)))):Cr 253 #[X s] w R:=
 je v
def atD(x d:Int)(e:aK)(c:Int)(i:Sl)(a:Int)(C:vW w λf k g=>∃J:Int->Int->Int->aK->Int->Sl->Int->av->Prop,(∀m D n s o,∀H:Sl,∀E h,J m D n s o H E h->oO (λv K=>R (aj v) K) λj=>N ((((d==n)&&(e.toList==s.toList))&&(c==o))&&((i.n:Int)==m)) (kF [f,k] 290 #[i.v,.func (.func 291) #[] #[]] h λy L=>j (!y) L) (j aL h))/\N (x==1) (∀p,Q [k] g p->J 0 x (if 0>d then 0 else d) (ao #[]) 0 Sl.nil a p) (oO (λA b=>N A (kF [f,k] 173 #[X e] b λB q=>N (!B) (R (aj aL) q) (∀r,Q [k] q r->J 0 x 0 e 0 Sl.nil a r)) (N (x==4) (N (c==15) (∀t,Q [k] b t->J 1 x 0 (ao #[]) 15 Sl.nil a t) (∀u,Q [k] b u->J 1 x 0 (ao #[]) 14 Sl.nil a u)) (N (x==5) (qe [f,k] 289 #[O U c] b λG z=>N (G==6) (R (aj aL) z) (∀F,Q [k] z F->J 2 x 0 (ao #[]) c Sl.nil a F)) (R (aj aL) b)))) λl=>N (x==2) (l (x==2) g) (l (x==3) g))):Cr 265 #[bO x d e c i a] w R:=
 fC (.d 3 (.j [1,3] [.s 4 dr,.b 3 [dr,dr,.str,dr,.sl,dr]] (.d 3 (.j [1,3,4,11] [.s 18 .bool] .o .o)) (.s (.j [1,3] [.s 2 .bool] .o .o) .o))) C
def atE(p:Addr)(x o:Int)(b:aK)(e:Int)(a:Sl)(x5:Int)(wrapped:Bool)(R:aG)(BV:av)(BY:nw BV λk w0=>qe [k] 179 #[pA (p.add 0)] w0 λi0 h=>N (decide (i0>16384)) (R (ai #[]) h) (N wrapped (rVs [k] 292 #[pA (p.add 0),.int .u8 40] h λv0 s=>N (x==1) (o0 s λw3=>rA [k] 134 #[O U o] w3 λs0 w4=>tt [k] 170 #[pA (p.add 0),X s0] w4 λi1 v1 w5=>nN aq 292 #[pA (p.add 0),.int .u8 41] w5 (λx0 w6=>R (ai #[]) w6)) (N (x==2) (o0 s λw7=>tt [k] 170 #[pA (p.add 0),X b] w7 λi2 v2 w8=>nN aq 292 #[pA (p.add 0),.int .u8 41] w8 (λo w9=>R (ai #[]) w9)) (N (x==3) ((3+(b.size:Int))<=9223372036854775807/\((((ao #[105,110,40])++b).size:Int)+1)<=9223372036854775807/\o0 s λdz=>tt [k] 170 #[pA (p.add 0),X (((ao #[105,110,40])++b)++(ao #[41]))] dz λi3 v3 dF=>nN aq 292 #[pA (p.add 0),.int .u8 41] dF (λb eZ=>R (ai #[]) eZ)) (N (x==4) (o0 s λG=>kl G (p.add 2) λl0=>FA l0 e G λs1=>tt [k] 170 #[pA (p.add 0),X s1] G λi4 v4 gw=>o0 gw λD=>∃J:aJ,J k/\∃p1,cR a 0 6 p1/\J p1.block/\jC D p1 λi5 i6 s2 i7 l1 i8=>jT a 0 D λi9 H s3 K l2 M=>qe [k] 293 #[bO i9 H s3 K l2 M] D λP jw=>bT J D jw/\gj [k] 266 #[pA p,bO i5 i6 s2 i7 l1 i8,aj (decide (P<6))] jw λiX=>bT J jw iX/\nN aq 292 #[pA (p.add 0),.int .u8 41] iX (λe ku=>R (ai #[]) ku)) (qe [k] 293 #[bO x o b e a x5] s λq lZ=>o0 lZ λE=>∃y:aJ,y k/\∃p3,cR a 0 6 p3/\y p3.block/\jC E p3 λS T s4 V l3 W=>jT a 0 E λY Z s5 am l4 aC=>qe [k] 293 #[bO Y Z s5 am l4 aC] E λaS nj=>bT y E nj/\gj [k] 266 #[pA p,bO S T s4 V l3 W,aj (decide (aS<q))] nj λpI=>bT y nj pI/\o0 pI λth=>kl th (p.add 2) λl5=>FA l5 e th λs6=>(1+(s6.size:Int))<=9223372036854775807/\((((ao #[32])++s6).size:Int)+1)<=9223372036854775807/\tt [k] 170 #[pA (p.add 0),X (((ao #[32])++s6)++(ao #[32]))] th λCc v5 uF=>o0 uF λL=>∃z:aJ,z k/\∃p6,cR a 1 6 p6/\z p6.block/\jC L p6 λaT bv s7 bV l6 bY=>jT a 1 L λcc ce s8 co l7 cC=>qe [k] 293 #[bO cc ce s8 co l7 cC] L λdO sC=>bT z L sC/\gj [k] 266 #[pA p,bO aT bv s7 bV l6 bY,aj (decide (dO<=q))] sC λvP=>bT z sC vP/\nN aq 292 #[pA (p.add 0),.int .u8 41] vP (λa zh=>R (ai #[]) zh)))))) (N (x==1) (o0 h λEZ=>rA [k] 134 #[O U o] EZ λs9 TX=>tt [k] 170 #[pA (p.add 0),X s9] TX λCC v6 YR=>R (ai #[]) YR) (N (x==2) (o0 h λwd=>tt [k] 170 #[pA (p.add 0),X b] wd λDo v7 As=>R (ai #[]) As) (N (x==3) ((3+(b.size:Int))<=9223372036854775807/\((((ao #[105,110,40])++b).size:Int)+1)<=9223372036854775807/\o0 h λAC=>tt [k] 170 #[pA (p.add 0),X (((ao #[105,110,40])++b)++(ao #[41]))] AC λDO v8 AS=>R (ai #[]) AS) (N (x==4) (o0 h λi=>kl i (p.add 2) λl8=>FA l8 e i λE1=>tt [k] 170 #[pA (p.add 0),X E1] i λEQ v9 AT=>o0 AT λw=>∃A:aJ,A k/\∃p9,cR a 0 6 p9/\A p9.block/\jC w p9 λel eQ Cu fd l9 gE=>jT a 0 w λgG gO G6 gT ut g8=>qe [k] 293 #[bO gG gO G6 gT ut g8] w λip j=>bT A w j/\gj [k] 266 #[pA p,bO el eQ Cu fd l9 gE,aj (decide (ip<6))] j λt=>bT A j t/\R (ai #[]) t) (qe [k] 293 #[bO x o b e a x5] h λr Bv=>o0 Bv λc=>∃B:aJ,B k/\∃f,cR a 0 6 f/\B f.block/\jC c f λiD iF JE iN rY iS=>jT a 0 c λlE lT JF mt uE mK=>qe [k] 293 #[bO lE lT JF mt uE mK] c λnO l=>bT B c l/\gj [k] 266 #[pA p,bO iD iF JE iN rY iS,aj (decide (nO<r))] l λu=>bT B l u/\o0 u λm=>kl m (p.add 2) λyX=>FA yX e m λF=>(1+(F.size:Int))<=9223372036854775807/\((((ao #[32])++F).size:Int)+1)<=9223372036854775807/\tt [k] 170 #[pA (p.add 0),X (((ao #[32])++F)++(ao #[32]))] m λFd Fn By=>o0 By λd=>∃C:aJ,C k/\∃g,cR a 1 6 g/\C g.block/\jC d g λn8 oF RR oN Ct oR=>jT a 1 d λpi pm uP pP FK rx=>qe [k] 293 #[bO pi pm uP pP FK rx] d λtO n=>bT C d n/\gj [k] 266 #[pA p,bO n8 oF RR oN Ct oR,aj (decide (tO<=r))] n λv=>bT C n v/\R (ai #[]) v))))))):Cr 266 #[pA p,bO x o b e a x5,aj wrapped] BV R:=
 je BY
def v5w(s:aK)(y:vW w λk a L=>A7 [k,a] 70 #[X s] L λm o A r=>N (o !=0) (nw r λl M=>k≠a->k≠l->a≠l->∃J:aJ,J l/\uU J k/\uU J a/\∀t,Q [a,k] M t->R (ai #[bO 0 0 (ao #[]) 0 Sl.nil 0,xR o A]) t) (nw r λk3 P=>ot [k,a,k3] 216 #[m.v,O U 0] P λB C K D H E p e G u=>∀b c,u.heap.size<=b->b<c.heap.size->Q [k3] u c->jn2 (λj i v=>N (j !=0) (o0 v λS=>k≠a->k≠k3->k≠b->a≠k3->a≠b->k3≠b->∃f:aJ,f k3/\uU f k/\uU f a/\∀x,Q [a,k] S x->R (ai #[bO 0 0 (ao #[]) 0 Sl.nil 0,xR j i]) x) (o0 v λz=>k≠a->k≠k3->k≠b->a≠k3->a≠b->k3≠b->∃g:aJ,g k3/\uU g k/\uU g a/\∀F,Q [a,k] z F->R (ai #[bO B C K D H E,xR j i]) F)) λn=>∃p0,((e==0)=aE->cR m p 4 p0)/\∃d,((e==0)=aE->aB c (p0.add 0) [O U d])/\N ((e==0)&&(d !=5)) (∃q,cR m p 4 q/\iB c (q.add 3) λh=>∀Z,Q [k3] c Z->n 4 h Z) (n e G c))):Cr 267 #[X s] w R:=
 fC (.d 4 (.j [2,3,5,6] [.b 5 [dr,dr]] .o .o)) y
def atF(r:Addr)(R:aG)(am:av)(aC:vW am λa k w0=>wl [a,k] 297 #[pA (r.add 0)] w0 λp E i1 c w1=>vW w1 λb k3 w2=>∃J:Option Addr->Int->Int->aK->Int->Sl->Int->Int->Int->aK->Int->Sl->Int->av->Prop,(∀D i3 i4 s1 i5,∀l0:Sl,∀i6 S T s2 V,∀l1:Sl,∀d w,J D i3 i4 s1 i5 l0 i6 S T s2 V l1 d w->∃p0,D=(aM p0)/\iB w ((p0.add 0).add 1) λq=>∃p1,D=(aM p1)/\sT ((p1.add 0).add 1) w 1 λj k5 z0 k6=>a≠j/\k≠j/\b≠j/\k3≠j/\sS w j k5 z0 k6 [O U (ar U (q+1))] λw4=>∀w5,Q [k] w4 w5->R (bO S T s2 V l1 d) w5)/\kF [a,k,b,k3] 250 #[pA (r.add 0)] w2 λb0 F=>N b0 (∀w7,Q [k] F w7->R (bO 0 0 (ao #[]) 0 Sl.nil c) w7) (NH 32 (X (ao #[45])) (X (ao #[33])) F λl2 w8=>cu [a,k,b,k3] F w8/\kF [a,k,b,k3] 298 #[pA (r.add 0),l2.v] w8 λb1 G=>N b1 (∀z,Q [k3] G z->∃m:Int->Int->aK->Int->Sl->Int->av->Prop,(∀e f s3 g,∀l3:Sl,∀h K,m e f s3 g l3 h K->ga [a,k,b,k3] 299 #[pA r,.func (.func 275) #[pA r] #[]] K λs t s4 u l4 v L=>lW 66 (bO s t s4 u l4 v) L λl5 M=>cu [a,k,b,k3] L M/\∀P,Q [k,k3] M P->R (bO e f s3 g l5 h) P)/\N (E.toList==((ao #[33]).toList)) (∀W,Q [k3] z W->m 4 0 (ao #[]) 15 Sl.nil c W) (m 4 0 (ao #[]) 14 Sl.nil c z)) (lW 32 (X (ao #[40])) G λl6 jw=>cu [a,k,b,k3] G jw/\kF [a,k,b,k3] 298 #[pA (r.add 0),l6.v] jw λb2 i=>N b2 (aF i a 306 [pA r]->k≠a->b≠a->k3≠a->ga [k,b,k3] 299 #[pA r,.func (.func 300) #[] #[pB a]] i λx y s5 A l7 B ku=>xKQ ku a 306 λq1=>∀Z,Q [k] ku Z->aF Z a 306 [ae q1]->R (bO x y s5 A l7 B) Z) (N (p==3) (o0 i λkg=>a≠k->a≠b->a≠k3->k≠b->k≠k3->b≠k3->∃n:aJ,n b/\uU n k3/\uU n k3/\∀nj,Q [k3] kg nj->J (aM r) 0 0 (ao #[]) 0 Sl.nil 0 1 i1 (ao #[]) 0 Sl.nil c nj) (N (p==1) (o0 i λpI=>a≠k->a≠b->a≠k3->k≠b->k≠k3->b≠k3->∃o:aJ,o b/\uU o k3/\uU o k3/\∀th,Q [k3] pI th->J (aM r) 0 0 (ao #[]) 0 Sl.nil 0 2 0 E 0 Sl.nil c th) (N ((p==2)&&(E.toList==((ao #[105,110]).toList))) (iB i ((r.add 0).add 1) λC=>sT ((r.add 0).add 1) i 1 λl k8 z1 k9=>a≠l/\k≠l/\b≠l/\k3≠l/\sS i l k8 z1 k9 [O U (ar U (C+1))] λuF=>gj [a,k,b,k3] 301 #[pA (r.add 0),X (ao #[40])] uF λqL=>rA [a,k,b,k3] 302 #[pA r] qL λs6 sC=>∀vP,Q [k3] sC vP->gj [a,k,b,k3] 301 #[pA (r.add 0),X (ao #[41])] vP λzh=>∀H,Q [k] zh H->R (bO 3 0 s6 0 Sl.nil c) H) (gj [a,k,b,k3] 303 #[pA (r.add 0)] i λTX=>∀Y,Q [k] TX Y->R (bO 0 0 (ao #[]) 0 Sl.nil c) Y))))))):Cr 275 #[pA r] am R:=
 fC (.d 3 (.j [1,2,3,4] [.b 1 [.ptr],.b 2 [dr,dr,.str,dr,.sl,dr],.b 4 [dr,dr,.str,dr,.sl,dr]] (.d 3 (.s (.s .o (.j [1,2,3,4] [.b 4 [dr,dr,.str,dr,.sl,dr]] .o .o)) .o)) .o)) aC
def atG(r:Addr)(k:Int)(h:mO 1 w λd j i b=>N (decide (i<=13)) (oO (λe c=>N e (R (O U i) c) (nx j λl=>d l (ar U (i+1)) c)) λJ=>o0 b λo=>cI 289 #[O U i] o λg a=>N (g==k) (kl a (r.add 5) λm=>FA m i a λs=>lW 32 (X s) a λn p=>cB 298 #[pA (r.add 0),n.v] p λf q=>J f q) (J aL a)) (R (O U 0) b)):Cr 276 #[pA r,O U k] w R:=
 fC (.s .o (.s (.s .o (.j [0,1] [.s 5 dr] (.s .o (.s (.s (.j [0,1,5] [.s 27 .bool] .o .o) .o) .o)) .o)) .o)) h
def atH(x u:Int)(v:aK)(d:Int)(y:Sl)(z:Int)(h:nw w λk q=>xP [k] 280 #[] q λl r=>mO 0 r λJ g i c=>N ((decide (i<6))&&(x==5)) (mO 0 c λe j b a=>xYL l i a λo=>N (decide (b<(o.n:Int))) (xYL l i a λp=>Gc p b a λf=>N (f==d) (o0 a λs=>R (O U i) s) (o0 a λt=>nx j λm=>e m (ar U (b+1)) t)) (nx g λn=>J n (ar U (i+1)) a)) (R (O U 6) c)):Cr 277 #[bO x u v d y z] w R:=
 fC (.d 2 (.s (.s .o (.j [1,3] [.s 4 dr] (.s .o (.s (.s .o (.j [1,3,4] [.s 5 dr] .o .o)) .o)) .o)) .o)) h
def atI(p:Addr)(s:aK)(h:kl w (p.add 0) λd=>N (decide ((d.n:Int)<=16384)) (kl w (p.add 0) λe=>∃l:Sl,∃a,((Builtin.append_ #[197,9] 197 #[e.v,X s]).run aq w)=(.ok l.v a)/\sT (p.add 0) a 1 λk b z c=>sS a k b z c [l.v] λf=>R (ai #[]) f) (R (ai #[]) w)):Cr 278 #[pA p,X s] w R:=
 je h
def atJ(p:Addr)(x c:Int)(d:aK)(e:Int)(f:Sl)(g:Int)(i:Bool)(h:nw w λk a=>AO (λj=>gj [k] 252 #[pA p,bO x c d e f g] j λb=>N i (gj [k] 278 #[pA p,X (ao #[41])] b λl=>R (ai #[]) l) (R (ai #[]) b)) λJ=>N i (gj [k] 278 #[pA p,X (ao #[40])] a λm=>J m) (J a)):Cr 279 #[pA p,bO x c d e f g,aj i] w R:=
 fC (.s .o (.j [0,2,4] [] .o .o)) h
def atK(h:∃l:Sl,∃a,((au 33 1 #[.mk 0 (O U 13)]).run aq w)=(.ok l.v a)/\lW 33 (O U 12) a λb i=>NH 33 (O U 10) (O U 11) i λc j=>rb4 33 (O U 6) (O U 7) (O U 8) (O U 9) j λd k=>NH 33 (O U 1) (O U 2) k λe m=>rb3 33 (O U 3) (O U 4) (O U 5) m λf n=>NE (au 341 6 #[.mk 0 l.v,.mk 1 b.v,.mk 2 c.v,.mk 3 d.v,.mk 4 e.v,.mk 5 f.v]) n λg o=>R g.v o):Cr 280 #[] w R:=
 je h
def ane(h:∃l:Sl,∃a,((au 32 1 #[.mk 0 (X (ao #[124,124]))]).run aq w)=(.ok l.v a)/\lW 32 (X (ao #[38,38])) a λb i=>NH 32 (X (ao #[61,61])) (X (ao #[33,61])) i λc j=>rb4 32 (X (ao #[60])) (X (ao #[60,61])) (X (ao #[62])) (X (ao #[62,61])) j λd k=>NH 32 (X (ao #[43])) (X (ao #[45])) k λe m=>rb3 32 (X (ao #[42])) (X (ao #[47])) (X (ao #[37])) m λf n=>NE (au 343 6 #[.mk 0 l.v,.mk 1 b.v,.mk 2 c.v,.mk 3 d.v,.mk 4 e.v,.mk 5 f.v]) n λg o=>R g.v o):Cr 281 #[] w R:=
 je h
def atL(s:aK)(p:N (decide ((s.size:Int)>16384)) (nw w λM G=>R (ai #[Sl.nil.v,xR 2 (-1)]) G) (nw w λk H=>qe [k] 304 #[X s,O U 0] H λq K=>∃J:Nat->Sl->Int->Int->Int->av->Prop,∃y:Nat,J y Sl.nil q 0 0 K/\∀k3,∀l:Sl,∀i g h a,J k3 l i g h a->N (decide (i<(s.size:Int))) (HQ [k] 305 #[X s,O U i] a λr E t u v j c=>N (j !=0) (∀m e,c.heap.size<=m->m<e.heap.size->Q [k] c e->R (ai #[Sl.nil.v,xR j i]) e) (nw c λb n=>lW 142 (nW r E t u) n λA f=>cu [k,b] n f/\uB 142 l A f λB o=>cu [k,b] f o/\qe [k,b] 304 #[X s,O U (ar U (i+v))] o λx L=>nx k3 λz=>J z B x g h L)) (lW 142 (nW 5 (ao #[]) 0 (s.size:Int)) a λC d=>cu [k] a d/\uB 142 l C d λD F=>cu [k] d F/\∀Z,Q [k] F Z->R (ai #[D.v,xR 0 0]) Z))):Cr 282 #[X s] w R:=
 fC (.d 4 (.s (.j [0,3] [.s 4 .sl,.s 5 dr,.b 3 [dr,dr]] .o .o) .o)) p
def atN(l:Sl)(at_:Int)(R:aG)(p:av)(H:N ((decide (at_<0))||(decide (at_>=(l.n:Int)))) (vW p λZ k1 W=>R (ai #[bO 0 0 (ao #[]) 0 Sl.nil 0,O U 0,xR 1 (-1)]) W) (vW p λa k3 Y=>∃J:Nat->Int->Int->Int->aK->Int->Sl->Int->Int->Int->av->Prop,∃P:Nat,J P 0 0 0 (ao #[]) 0 Sl.nil 0 0 0 Y/\∀A e t u C v,∀B:Sl,∀x y z w,J A e t u C v B x y z w->N (decide (e<(l.n:Int))) (∃p0,cR l e 4 p0/\iB w (p0.add 0) λK=>N (!((K==5)==(e==(ar U ((l.n:Int)-1))))) (∀D,Q [k3,a] w D->R (ai #[bO 0 0 (ao #[]) 0 Sl.nil 0,O U 0,xR 1 (-1)]) D) (nx A λS=>J S (ar U (e+1)) t u C v B x y z w)) (nw w λk E=>aF E k 363 [l.v,O U at_,O U 0,O U 0,O U 0]->ga [a,k3] 306 #[pB k,O U 0] E λL M V j T m q=>aaY q k 363 λf b d i c=>N (i !=0) (nw q λn F=>aF F k 363 [f.v,O U b,O U d,O U i,O U c]->a≠k3->a≠k->a≠n->k3≠k->k3≠n->k≠n->∃g:aJ,g k/\uU g a/\uU g k3/\∀r,Q [k3,a] F r->aF r k 363 [f.v,O U b,O U d,O U i,O U c]->R (ai #[bO 0 0 (ao #[]) 0 Sl.nil 0,O U 0,xR i c]) r) (nw q λo G=>aF G k 363 [f.v,O U b,O U d,O U i,O U c]->a≠k3->a≠k->a≠o->k3≠k->k3≠o->k≠o->∃h:aJ,h k/\uU h a/\uU h k3/\∀s,Q [k3,a] G s->aF s k 363 [f.v,O U b,O U d,O U i,O U c]->R (ai #[bO L M V j T m,O U b,xR 0 0]) s)))):Cr 283 #[l.v,O U at_] p R:=
 fC (.d 2 (.s (.s .o (.j [0,1,4,6] [.s 7 dr,.b 4 [dr,dr,.str,dr,.sl,dr],.b 6 [dr,dr]] .o .o)) .o)) H
def atO(op:Int)(h:N ((decide (op>=3))&&(decide (op<=5))) (R (O U 5) w) (oO (λd a=>N d (R (O U 4) a) (N ((decide (op>=6))&&(decide (op<=9))) (R (O U 3) a) (oO (λe b=>N e (R (O U 2) b) (N (op==12) (R (O U 1) b) (N (op==13) (R (O U 0) b) (R (O U 6) b)))) λc=>N (op==10) (c (op==10) a) (c (op==11) a)))) λJ=>N (op==1) (J (op==1) w) (J (op==2) w))):Cr 289 #[O U op] w R:=
 fC (.s .o (.s (.d 2 (.j [0] [.s 10 .bool] .o (.d 3 (.j [0] [.s 22 .bool] .o .o)))) .o)) h
def anf(s:Sl)(f:OV)(R:aG)(w:av)(h:cI 308 #[s.v,f.v] w λi a=>R (aj (decide (i>=0))) a):Cr 290 #[s.v,f.v] w R:=
 fB (an:=.o) (args:=[.sl s,.raw f]) h
def atP(s a:Int)(b:aK)(c:Int)(d:Sl)(e:Int)(h:nw w λk g=>kF [k] 265 #[bO s a b c d e] g λf i=>R (aj (!f)) i):Cr 291 #[bO s a b c d e] w R:=
 je h
def PG(b:Addr)(c:Int)(R:aG)(h:av):Prop:=
 cU 201 #[pA b] h λw=>kl w (b.add 1) λl=>lW 197 (.int .u8 c) w λf i=>uB 197 l f i λg a=>sT (b.add 1) a 1 λk d z e=>sS a k d z e [g.v] λj=>R .nilIface j
def ang(b:Addr)(c:Int)(R:aG)(w:av)(h:PG b c R w):Cr 292 #[pA b,.int .u8 c] w R:=
 je h
def qh(b:Addr)(c:Int)(R:aG)(w:av)(h:PG b c R w):nN aq 292 #[pA b,.int .u8 c] w R:=
 alf (an:=.o) (args:=[.ad b,.int .u8 c]) Tryz.checked.mixed aae aae h
def atQ(x e:Int)(f:aK)(a:Int)(g:Sl)(j:Int)(h:N (x !=5) (nw w λl b=>R (O U 6) b) (nw w λk c=>qe [k] 289 #[O U a] c λi d=>R (O U i) d)):Cr 293 #[bO x e f a g j] w R:=
 je h
def atS(c:Addr)(h:nw w λk a=>kl a (c.add 0) λl=>iB a (c.add 1) λi=>VT l i a λd s e f=>∀b,Q [k] a b->R (nW d s e f) b):Cr 297 #[pA c] w R:=
 je h
def v8w(c:Addr)(a:Sl)(h:zI 297 #[pA c] w λi s n o g=>nw g λk j=>oO (λd l=>R (aj d) l) λJ=>kF [k] 250 #[pA c] j λe b=>N ((!e)&&(i==4)) (kF [k] 184 #[a.v,X s] b λf m=>J f m) (J aL b)):Cr 298 #[pA c,a.v] w R:=
 fC (.d 2 (.s (.j [5] [.s 4 .bool] .o .o) .o)) h
def atT(r:Addr)(read:OV)(R:aG)(g:av)(m:nw g λk w=>iB w (r.add 4) λn=>N (n==20) (gj [k] 309 #[pA (r.add 0),O U 21] w λG=>∀h,Q [k] G h->R (bO 0 0 (ao #[]) 0 Sl.nil 0) h) (iB w ((r.add 0).add 1) λo=>sT ((r.add 0).add 1) w 1 λe y L k3=>k≠e/\sS w e y L k3 [O U (ar U (o+1))] λc=>iB c (r.add 4) λp=>sT (r.add 4) c 1 λf A M B=>k≠f/\sS c f A M B [O U (ar U (p+1))] λH=>∃a:Nat,∃z l,read.v=(.func (.func a) z.toArray l.toArray)/\(∀x:Array aw,∀i,((callFunc a x).run aq i)=(.ok (.enter a x) i))/\ga [k] a ((A3 (A3 z []) l).toArray) H λq s F t D u J=>nw J λC d=>iB d (r.add 4) λv=>sT (r.add 4) d 1 λb E P Y=>k≠b/\C≠b/\sS d b E P Y [O U (ar U (v-1))] λK=>∀j,Q [k] K j->R (bO q s F t D u) j)):Cr 299 #[pA r,read.v] g R:=
 fB (an:=.o) (args:=[.ad r,.raw read]) m
def atU(m:Addr)(R:aG)(w:av)(h:nw w λk a=>xCQ a m λq=>ga [k] 249 #[ae q,O U 0] a λi d s e l f n=>nw n λg b=>xCQ b m λj=>∃p0,j=(aM p0)/\gj [k,g] 301 #[pA (p0.add 0),X (ao #[41])] b λo=>∀c,Q [k] o c->R (bO i d s e l f) c):Cr 300 #[pA m] w R:=
 je h
def v9w(c:Addr)(sign:aK)(h:∃l:Sl,∃b,((au 32 1 #[.mk 0 (X sign)]).run aq w)=(.ok l.v b)/\cB 298 #[pA c,l.v] b λd a=>N (!d) (cU 303 #[pA c] a λg=>R (ai #[]) g) (iB a (c.add 1) λi=>sT (c.add 1) a 1 λk e z f=>sS a k e z f [O U (ar U (i+1))] λj=>R (ai #[]) j)):Cr 301 #[pA c,X sign] w R:=
 je h
def atV(r:Addr)(R:aG)(b:av)(h:zI 297 #[pA (r.add 0)] b λi s m n f=>nw f λk g=>kF [k] 250 #[pA (r.add 0)] g λc w=>N (c||(i !=1)) (gj [k] 303 #[pA (r.add 0)] w λj=>R (X (ao #[])) j) (iB w ((r.add 0).add 1) λd=>sT ((r.add 0).add 1) w 1 λa e z k3=>k≠a/\sS w a e z k3 [O U (ar U (d+1))] λl=>R (X s) l)):Cr 302 #[pA r] b R:=
 je h
def atW(c:Addr)(h:AO (λb=>cU 309 #[pA c,O U 4] b λd=>R (ai #[]) d) λJ=>zI 297 #[pA c] w λi s f g a=>N (i==5) (cU 309 #[pA c,O U 3] a λe=>J e) (J a)):Cr 303 #[pA c] w R:=
 fC (.j [0] [] .o .o) h
def atX(s:aK)(at_:Int)(h:oO (λj p=>R (O U j) p) λJ=>mO at_ w λc k i b=>N (decide (i<(s.size:Int))) (∃c0:UInt8,(0<=i/\(s[Int.toNat i]?)=(aM c0))/\∃d:UInt8,((((UInt8.toNat c0:Int)==47)&&(decide ((ar U (i+1))<(s.size:Int))))=aE->0<=(ar U (i+1))/\(s[Int.toNat (ar U (i+1))]?)=(aM d))/\N ((((UInt8.toNat c0:Int)==47)&&(decide ((ar U (i+1))<(s.size:Int))))&&((UInt8.toNat d:Int)==47)) (mO i b λg l a f=>∃e:UInt8,((decide (a<(s.size:Int)))=aE->0<=a/\(s[Int.toNat a]?)=(aM e))/\N ((decide (a<(s.size:Int)))&&((UInt8.toNat e:Int) !=10)) (nx l λm=>g m (ar U (a+1)) f) (nx k λn=>c n a f)) (N (((((UInt8.toNat c0:Int)==9)||((UInt8.toNat c0:Int)==10))||((UInt8.toNat c0:Int)==13))||((UInt8.toNat c0:Int)==32)) (nx k λo=>c o (ar U (i+1)) b) (J i b))) (J i b)):Cr 304 #[X s,O U at_] w R:=
 fC (.s .o (.j [] [.s 1 dr] (.j [0] [.s 1 dr] (.d 3 (.s (.j [0] [.s 1 dr] .o .o) .o)) .o) .o)) h
def atY(s:aK)(at_:Int)(R:aG)(x:av)(H:∃c0:UInt8,(0<=at_/\(s[Int.toNat at_]?)=(aM c0))/\nw x λk M=>kF [k] 191 #[.int .u8 (UInt8.toNat c0:Int)] M λD P=>∃g:UInt8,(0<=at_/\(s[Int.toNat at_]?)=(aM g))/\kF [k] 218 #[.int .u8 (UInt8.toNat g:Int)] P λE w=>N D (qe [k] 193 #[X s,O U at_] w λi S=>∃k3 a:Nat,(at_=(k3:Int)/\(ar U (at_+i))=(a:Int)/\k3<=a/\a<=s.size)/\nw S λu T=>kF [k,u] 192 #[X (s.extract k3 a)] T λG y=>∃J:Int->aK->Int->Int->av->Prop,(∀j v m n f,J j v m n f->N (decide (i>24)) (∀A,Q [k] f A->R (ai #[nW 0 (ao #[]) 0 0,O U 0,O U 2]) A) (∀B,Q [k] f B->R (ai #[nW j v m n,O U i,O U 0]) B))/\N G (∀C,Q [u] y C->J 2 (s.extract k3 a) 0 at_ C) (J 1 (s.extract k3 a) 0 at_ y)) (N E (∃d:Nat,(at_=(d:Int)/\d<=s.size)/\aa0 [k] 310 #[X (s.extract d s.size)] w λK o p z=>N (p !=0) (∀F,Q [k] z F->R (ai #[nW 0 (ao #[]) 0 0,O U 0,O U p]) F) (qe [k] 193 #[X s,O U at_] z λL Z=>N (decide (L>o)) (∀l,Q [k] Z l->R (ai #[nW 0 (ao #[]) 0 0,O U 0,O U 4]) l) (∀h,Q [k] Z h->R (ai #[nW 3 (ao #[]) K at_,O U o,O U 0]) h))) (qe [k] 311 #[X s,O U at_] w λc r=>N (c==0) (∀t,Q [k] r t->R (ai #[nW 0 (ao #[]) 0 0,O U 0,O U 4]) t) (∃e b:Nat,(at_=(e:Int)/\(ar U (at_+c))=(b:Int)/\e<=b/\b<=s.size)/\∀q,Q [k] r q->R (ai #[nW 4 (s.extract e b) 0 at_,O U c,O U 0]) q)))):Cr 305 #[X s,O U at_] x R:=
 fC (.d 3 (.s (.s .o (.s (.d 3 (.j [4,9,10] [.b 10 [dr,.str,dr,dr]] .o .o)) .o)) .o)) H
def adU(r:Addr)(k:Int)(R:aG)(q:av)(B:N (k==6) (nw q λu w0=>ga [u] 312 #[pA r] w0 λC D s0 E W G w1=>∀y,Q [u] w1 y->R (bO C D s0 E W G) y) (nw q λd w3=>ga [d] 306 #[pA r,O U (ar U (k+1))] w3 λH K s1 L Y M w4=>nw w4 λe w5=>qe [d,e] 313 #[pA r,O U k] w5 λP w6=>∃J:Nat->Int->Int->Int->aK->Int->Sl->Int->av->Prop,∃k3:Nat,J k3 P H K s1 L Y M w6/\∀v n a b s c,∀p:Sl,∀i w,J v n a b s c p i w->N (n !=0) (iB w (r.add 1) λf=>sT (r.add 1) w 1 λo S z0 T=>d≠o/\e≠o/\sS w o S z0 T [O U (ar U (f+1))] λw8=>ga [d,e] 306 #[pA r,O U (ar U (k+1))] w8 λg h s3 j l3 l w9=>nw w9 λx z=>NH 66 (bO a b s c p i) (bO g h s3 j l3 l) z λl4 F=>cu [d,e,x] z F/\∀Z,Q [e] F Z->qe [d,e,x] 313 #[pA r,O U k] Z λm A=>nx v λV=>J V m 5 0 (ao #[]) n l4 i A) (∀t,Q [d] w t->R (bO a b s c p i) t))):Cr 306 #[pA r,O U k] q R:=
 fC (.d 4 (.s (.j [0,1,4,5] [.s 6 dr,.b 5 [dr,dr,.str,dr,.sl,dr]] .o .o) .o)) B
def anh(s:Sl)(f:OV)(R:aG)(a:av)(h:mO 0 a λJ n i w=>N (decide (i<(s.n:Int))) (jT s i w λg j p l o m=>∃k:Nat,∃z d,f.v=(.func (.func k) z.toArray d.toArray)/\(∀x:Array aw,∀b,((callFunc k x).run aq b)=(.ok (.enter k x) b))/\cB k ((A3 (A3 z [bO g j p l o m]) d).toArray) w λe c=>N e (R (O U i) c) (nx n λk3=>J k3 (ar U (i+1)) c)) (R (O U (-1)) w)):Cr 308 #[s.v,f.v] a R:=
 fB (an:=.s .o (.s (.s .o (.j [0,1,7] [.s 8 (.int .i64)] .o .o)) .o)) (args:=[.sl s,.raw f]) h
def atZ(c:Addr)(err:Int)(h:cB 250 #[pA c] w λd a=>N (!d) (zI 297 #[pA c] a λj s l i b=>sT (c.add 2) b 2 λk e z f=>sS b k e z f [O U err,O U i] λg=>R (ai #[]) g) (R (ai #[]) a)):Cr 309 #[pA c,O U err] w R:=
 je h
def at2(s:aK)(j:N ((s.size:Int)==0) (R (ai #[O U 0,O U 0,O U 3]) w) (mO 0 w λJ k i d=>∃c0:UInt8,((decide (i<(s.size:Int)))=aE->0<=i/\(s[Int.toNat i]?)=(aM c0))/\∃f:UInt8,(((decide (i<(s.size:Int)))&&(decide ((UInt8.toNat c0:Int)>=48)))=aE->0<=i/\(s[Int.toNat i]?)=(aM f))/\N (((decide (i<(s.size:Int)))&&(decide ((UInt8.toNat c0:Int)>=48)))&&(decide ((UInt8.toNat f:Int)<=57))) (nx k λl=>J l (ar U (i+1)) d) (∃g:UInt8,((i==0)=aL->(decide (i>1))=aE->(0:Int)<=0/\s[0]? =(aM g))/\N ((i==0)||((decide (i>1))&&((UInt8.toNat g:Int)==48))) (R (ai #[O U 0,O U 0,O U 4]) d) (Ju 0 0 d λh m b a e=>N (decide (a<i)) (∃c:UInt8,(0<=a/\(s[Int.toNat a]?)=(aM c))/\N (decide (b>(ar U ((ar U (9223372036854775807-(ar U (ar .u8 ((UInt8.toNat c:Int)-48))))).tdiv 10)))) (R (ai #[O U 0,O U 0,O U 20]) e) (nx m λn=>h n (ar U ((ar U (10*b))+(ar U (ar .u8 ((UInt8.toNat c:Int)-48))))) (ar U (a+1)) e)) (R (ai #[O U b,O U i,O U 0]) e))))):Cr 310 #[X s] w R:=
 fC (.d 3 (.s (.j [0] [.s 5 dr] .o .o) (.d 2 (.s (.s .o (.j [0,5] [.s 6 dr,.s 7 dr] .o .o)) .o)))) j
def at3(s:aK)(at_:Int)(h:∃l:Sl,∃f,((au 32 7 #[.mk 0 (X (ao #[45,62])),.mk 1 (X (ao #[60,61])),.mk 2 (X (ao #[62,61])),.mk 3 (X (ao #[61,61])),.mk 4 (X (ao #[33,61])),.mk 5 (X (ao #[38,38])),.mk 6 (X (ao #[124,124]))]).run aq w)=(.ok l.v f)/\mO 0 f λJ j b a=>N (decide (b<(l.n:Int))) (∃k k3:Nat,((decide ((ar U (at_+2))<=(s.size:Int)))=aE->at_=(k:Int)/\(ar U (at_+2))=(k3:Int)/\k<=k3/\k3<=s.size)/\∃p0,((decide ((ar U (at_+2))<=(s.size:Int)))=aE->cR l b 1 p0)/\∃e,((decide ((ar U (at_+2))<=(s.size:Int)))=aE->aB a p0 [X e])/\N ((decide ((ar U (at_+2))<=(s.size:Int)))&&(((s.extract k k3).toList)==e.toList)) (o0 a λp=>R (O U 2) p) (o0 a λq=>nx j λm=>J m (ar U (b+1)) q)) (mO 0 a λg n i c=>N (decide (i<17)) (∃c0:UInt8,(0<=at_/\(s[Int.toNat at_]?)=(aM c0))/\∃d:UInt8,(0<=i/\((ao #[123,125,40,41,91,93,59,44,61,43,45,42,47,37,60,62,33])[Int.toNat i]?)=(aM d))/\N ((UInt8.toNat c0:Int)==(UInt8.toNat d:Int)) (o0 c λr=>R (O U 1) r) (o0 c λt=>nx n λo=>g o (ar U (i+1)) t)) (R (O U 0) c))):Cr 311 #[X s,O U at_] w R:=
 fC (.d 2 (.s (.s .o (.j [0,1,5] [.s 6 dr] .o .o)) (.s .o (.s (.s .o (.j [0,1,7] [.s 8 dr] .o .o)) .o)))) h
def ani(r:Addr)(R:aG)(S:av)(am:nw S λk c=>∃J:aJ,J ((r.add 0).block)/\kl c (r.add 0) λl0=>J ((r.add 1).block)/\iB c (r.add 1) λi0=>∃p0,cR l0 i0 4 p0/\J p0.block/\HN c p0 λi L i2 s=>nw c λa w1=>kF [k,a] 314 #[pA r,X (ao #[45])] w1 λb0 w2=>kF [k,a] 314 #[pA r,X (ao #[33])] w2 λz w3=>kF [k,a] 314 #[pA r,X (ao #[40])] w3 λb2 w=>iB w ((r.add 3).add 0) λi4=>N (i4 !=0) (∀T,Q [k] w T->R (bO 0 0 (ao #[]) 0 Sl.nil 0) T) (N (b0||z) (kF [k,a] 315 #[pA r] w λb3 V=>N (!b3) (∀W,Q [k] V W->R (bO 0 0 (ao #[]) 0 Sl.nil 0) W) (ga [k,a] 312 #[pA r] V λi5 i6 s1 i7 l1 i8 w8=>nw w8 λE v=>iB v (r.add 2) λi9=>sT (r.add 2) v 1 λk3 k4 z0 k5=>k≠k3/\a≠k3/\E≠k3/\sS v k3 k4 z0 k5 [O U (ar U (i9-1))] λA=>oO (λd F=>lW 66 (bO i5 i6 s1 i7 l1 i8) F λl2 Z=>cu [k,a,E] F Z/\∀B,Q [k] Z B->R (bO 4 0 (ao #[]) d l2 s) B) λy=>N z (y 15 A) (y 14 A))) (N b2 (kF [k,a] 315 #[pA r] w λb4 C=>N (!b4) (∀D,Q [k] C D->R (bO 0 0 (ao #[]) 0 Sl.nil 0) D) (ga [k,a] 306 #[pA r,O U 0] C λe f s2 g l3 h jw=>nw jw λG iX=>gj [k,a,G] 316 #[pA r,X (ao #[41])] iX λu=>iB u (r.add 2) λj=>sT (r.add 2) u 1 λb k8 z1 k9=>k≠b/\a≠b/\G≠b/\sS u b k8 z1 k9 [O U (ar U (j-1))] λlZ=>∀H,Q [k] lZ H->R (bO e f s2 g l3 h) H)) (N (i==3) (iB w (r.add 1) λl=>sT (r.add 1) w 1 λt pY z2 AJ=>k≠t/\a≠t/\sS w t pY z2 AJ [O U (ar U (l+1))] λnj=>∀K,Q [k] nj K->R (bO 1 i2 (ao #[]) 0 Sl.nil s) K) (N (i==1) (iB w (r.add 1) λm=>sT (r.add 1) w 1 λx JA z3 MU=>k≠x/\a≠x/\sS w x JA z3 MU [O U (ar U (m+1))] λth=>∀P,Q [k] th P->R (bO 2 0 L 0 Sl.nil s) P) (N ((i==2)&&(L.toList==((ao #[105,110]).toList))) (ga [k,a] 317 #[pA r] w λn o s3 p l4 q qL=>∀M,Q [k] qL M->R (bO n o s3 p l4 q) M) (gj [k,a] 318 #[pA r] w λvP=>∀Y,Q [k] vP Y->R (bO 0 0 (ao #[]) 0 Sl.nil 0) Y))))))):Cr 312 #[pA r] S R:=
 fC (.d 5 (.s (.d 3 (.s (.d 5 (.j [2,3,8] [.s 9 dr] .o .o)) .o)) .o)) am
def anj(r:Addr)(k:Int)(h:cL 281 #[] w λm c=>xYL m k c λl=>cL 280 #[] c λn d=>xYL n k d λo=>mO 0 d λJ g i a=>N (decide (i<(l.n:Int))) (FA l i a λs=>cB 314 #[pA r,X s] a λe b=>N e (Gc o i b λf=>R (O U f) b) (nx g λj=>J j (ar U (i+1)) b)) (R (O U 0) a)):Cr 313 #[pA r,O U k] w R:=
 fC (.d 3 (.s (.s .o (.j [0,5,6] [.s 7 dr] .o .o)) .o)) h
def ank(r:Addr)(s:aK)(h:o0 w λa=>∃J:aJ,J ((r.add 0).block)/\kl a (r.add 0) λl=>J ((r.add 1).block)/\iB a (r.add 1) λi=>∃p0,cR l i 4 p0/\J p0.block/\HN a p0 λc e f g=>nw a λk b=>iB b ((r.add 3).add 0) λd=>R (aj (((d==0)&&(c==4))&&(e.toList==s.toList))) b):Cr 314 #[pA r,X s] w R:=
 je h
def anl(r:Addr)(h:iB w (r.add 2) λi=>N (i==20) (cU 319 #[pA r,O U 21] w λj=>R (aj aL) j) (iB w (r.add 2) λb=>sT (r.add 2) w 1 λk d z e=>sS w k d z e [O U (ar U (b+1))] λa=>iB a (r.add 1) λc=>sT (r.add 1) a 1 λk3 f m g=>sS a k3 f m g [O U (ar U (c+1))] λl=>R (aj aE) l)):Cr 315 #[pA r] w R:=
 je h
def anm(r:Addr)(s:aK)(h:cB 314 #[pA r,X s] w λb a=>N (!b) (cU 318 #[pA r] a λe=>R (ai #[]) e) (iB a (r.add 1) λi=>sT (r.add 1) a 1 λk c z d=>sS a k c z d [O U (ar U (i+1))] λf=>R (ai #[]) f)):Cr 316 #[pA r,X s] w R:=
 je h
def ann(r:Addr)(R:aG)(j:av)(n:nw j λk b=>∃J:aJ,J ((r.add 0).block)/\kl b (r.add 0) λC=>J ((r.add 1).block)/\iB b (r.add 1) λo=>∃p0,cR C o 4 p0/\J ((p0.add 3).block)/\iB b (p0.add 3) λi=>nw b λa g=>iB g (r.add 1) λq=>sT (r.add 1) g 1 λe k3 M y=>k≠e/\a≠e/\sS g e k3 M y [O U (ar U (q+1))] λH=>gj [k,a] 316 #[pA r,X (ao #[40])] H λw=>iB w ((r.add 3).add 0) λs=>N (s !=0) (∀l,Q [k] w l->R (bO 3 0 (ao #[]) 0 Sl.nil i) l) (kl w (r.add 0) λD=>iB w (r.add 1) λt=>∃p,cR D t 4 p/\iB w (p.add 0) λu=>N (u !=1) (o0 w λK=>gj [k,a] 318 #[pA r] K λL=>∀m,Q [k] L m->R (bO 3 0 (ao #[]) 0 Sl.nil i) m) (o0 w λc=>kl c (r.add 0) λE=>iB c (r.add 1) λv=>∃h,cR E v 4 h/\Cg c (h.add 1) λG=>∀d,Q [a] c d->iB d (r.add 1) λx=>sT (r.add 1) d 1 λf A P B=>k≠f/\a≠f/\sS d f A P B [O U (ar U (x+1))] λz=>gj [k,a] 316 #[pA r,X (ao #[41])] z λF=>∀Z,Q [k] F Z->R (bO 3 0 G 0 Sl.nil i) Z))):Cr 317 #[pA r] j R:=
 je n
def ano(r:Addr)(h:kl w (r.add 0) λl=>iB w (r.add 1) λi=>∃p0,cR l i 4 p0/\iB w (p0.add 0) λa=>N (a==5) (o0 w λb=>cU 319 #[pA r,O U 3] b λc=>R (ai #[]) c) (o0 w λd=>cU 319 #[pA r,O U 4] d λe=>R (ai #[]) e)):Cr 318 #[pA r] w R:=
 je h
def anp(r:Addr)(e:Int)(h:iB w ((r.add 3).add 0) λi=>N (i==0) (o0 w λa=>kl a (r.add 0) λl=>iB a (r.add 1) λb=>∃p0,cR l b 4 p0/\iB a (p0.add 3) λc=>sT (r.add 3) a 2 λk d z f=>sS a k d z f [O U e,O U c] λg=>R (ai #[]) g) (R (ai #[]) w)):Cr 319 #[pA r,O U e] w R:=
 je h
end Go.Proofs.YtfemabakfkliiaaGreatDoor.Vc
namespace Go.Proofs
open Go.Shelf
def Tryz.B4:Go.Shelf.Ren:=⟨λ| 156=>204 | 165=>203 | 166=>170 | 169=>137 | 240=>201 | 241=>236 | 276=>233 | 277=>260 | n=>n,λ| 31=>32 | 9=>9 | 3=>3 | 4=>4 | 0=>0 | 20=>20 | 72=>214 | 76=>248 | 70=>212 | 37=>197 | 75=>247 | 127=>254 | 164=>293 | 5=>5 | 80=>222 | n=>n,λ| n=>n⟩
def Tryz.RF:Go.Proofs.Lays.n156 Tryz.prog Tryz.B4:={
 mixed:=aae
 f156:=Tryz.func204.trans (bN aM aae)
 f165:=Tryz.func203.trans (bN aM aae)
 f166:=Tryz.func170.trans (bN aM aae)
 f169:=Tryz.func137.trans (bN aM aae)
 f240:=Tryz.func201.trans (bN aM aae)
 f241:=Tryz.func236.trans (bN aM aae)
 f276:=Tryz.func233.trans (bN aM aae)
 f277:=Tryz.func260.trans (bN aM aae)
 t0:=Tryz.underlying0
 a0:=Tryz.isAgg0
 z0:=Tryz.sizeOf0
 v0:=Tryz.zeroValue0
 t3:=Tryz.underlying3
 a3:=Tryz.isAgg3
 z3:=Tryz.sizeOf3
 v3:=Tryz.zeroValue3
 t4:=Tryz.underlying4
 a4:=Tryz.isAgg4
 z4:=Tryz.sizeOf4
 v4:=Tryz.zeroValue4
 t9:=Tryz.underlying9
 a9:=Tryz.isAgg9
 z9:=Tryz.sizeOf9
 v9:=Tryz.zeroValue9
 t20:=Tryz.underlying20
 a20:=Tryz.isAgg20
 z20:=Tryz.sizeOf20
 v20:=Tryz.zeroValue20
 t31:=Tryz.underlying32
 a31:=Tryz.isAgg32
 z31:=Tryz.sizeOf32
 v31:=Tryz.zeroValue32
 t37:=Tryz.underlying197
 a37:=Tryz.isAgg197
 z37:=Tryz.sizeOf197
 v37:=Tryz.zeroValue197
 t70:=Tryz.underlying212
 a70:=Tryz.isAgg212
 z70:=Tryz.sizeOf212
 v70:=Tryz.zeroValue212
 t72:=Tryz.underlying214
 a72:=Tryz.isAgg214
 z72:=Tryz.sizeOf214
 v72:=Tryz.zeroValue214
 t75:=Tryz.underlying247
 a75:=Tryz.isAgg247
 z75:=Tryz.sizeOf247
 v75:=Tryz.zeroValue247
 t76:=Tryz.underlying248
 a76:=Tryz.isAgg248
 z76:=Tryz.sizeOf248
 v76:=Tryz.zeroValue248
 t127:=Tryz.underlying254
 a127:=Tryz.isAgg254
 z127:=Tryz.sizeOf254
 v127:=Tryz.zeroValue254
 t164:=Tryz.underlying293
 a164:=Tryz.isAgg293
 z164:=Tryz.sizeOf293
 v164:=Tryz.zeroValue293}
def Tryz.tf:Builder.Extra Tryz.prog Tryz.B4:={
 sizeBuilder:=aae
 liesBuilder:=aae
 t5:=Tryz.underlying5
 a5:=Tryz.isAgg5
 z5:=Tryz.sizeOf5
 v5:=Tryz.zeroValue5
 infoByte:=aae
 cellsByte:=aae
 sizeByte:=aae
 neB5:=Z}
open Go.RowKit in
theorem Tryz.strings_Join_none (a:Option Addr) (c:Nat) (sep:ByteArray) (w:World):
 Calls Tryz.prog 204 #[.slice a 0 c,.string sep] w λe w'=>e=.returned (.string ⟨#[]⟩)/\w'=w:=Any.strings_Join_none Tryz.RF Tryz.tf a c sep w
open Go.RowKit in
theorem Tryz.strings_Join (bk o c:Nat) (xs:List ByteArray) (sep:ByteArray) (w:World) (yY:∀(j:Nat) x,xs[j]? =some x->w.cell? ⟨bk,o+j,none⟩=some (.string x)) (UF:bk<w.heap.size) (hN:xs.length<=140737488355328) (pJ:xs.length<=c) (fN:(Lib.join (xs.map (·.data.toList)) sep.data.toList).length<=140737488355328):
 Calls Tryz.prog 204 #[.slice (some ⟨bk,o,none⟩) xs.length c,.string sep] w λe w'=>e=.returned (.string ⟨(Lib.join (xs.map (·.data.toList)) sep.data.toList).toArray⟩)/\Below w.heap.size w w':=Any.strings_Join Tryz.RF Tryz.tf bk o c xs sep w yY UF hN pJ fN
def Tryz.I7:Go.Shelf.Ren:=⟨λ| 171=>174 | 243=>207 | 246=>238 | 283=>261 | 284=>262 | 285=>263 | 286=>264 | 129=>232 | 317=>285 | 318=>286 | 319=>287 | 320=>288 | 337=>307 | 338=>51 | n=>n,λ| 3=>3 | 9=>9 | 2=>2 | 4=>4 | 171=>323 | 0=>0 | 53=>30 | 37=>197 | 5=>5 | 173=>325 | 212=>348 | 51=>292 | 20=>20 | 213=>349 | 46=>110 | 232=>368 | 233=>165 | n=>n,λ| 17=>2 | 18=>5 | 19=>0 | n=>n⟩
def Tryz.Yy:Go.Proofs.LaysM.n171 Tryz.prog Tryz.I7:={
 mixed:=aae
 f129:=Tryz.func232.trans (bN aM aae)
 f171:=Tryz.func174.trans (bN aM aae)
 f243:=Tryz.func207.trans (bN aM aae)
 f246:=Tryz.func238.trans (bN aM aae)
 f283:=Tryz.func261.trans (bN aM aae)
 f284:=Tryz.func262.trans (bN aM aae)
 f285:=Tryz.func263.trans (bN aM aae)
 f286:=Tryz.func264.trans (bN aM aae)
 f317:=Tryz.func285.trans (bN aM aae)
 f318:=Tryz.func286.trans (bN aM aae)
 f319:=Tryz.func287.trans (bN aM aae)
 f320:=Tryz.func288.trans (bN aM aae)
 f337:=Tryz.func307.trans (bN aM aae)
 f338:=Tryz.func51.trans (bN aM aae)
 t0:=Tryz.underlying0
 a0:=Tryz.isAgg0
 z0:=Tryz.sizeOf0
 v0:=Tryz.zeroValue0
 t2:=Tryz.underlying2
 a2:=Tryz.isAgg2
 z2:=Tryz.sizeOf2
 v2:=Tryz.zeroValue2
 t3:=Tryz.underlying3
 a3:=Tryz.isAgg3
 z3:=Tryz.sizeOf3
 v3:=Tryz.zeroValue3
 t4:=Tryz.underlying4
 a4:=Tryz.isAgg4
 z4:=Tryz.sizeOf4
 v4:=Tryz.zeroValue4
 t5:=Tryz.underlying5
 a5:=Tryz.isAgg5
 z5:=Tryz.sizeOf5
 v5:=Tryz.zeroValue5
 t9:=Tryz.underlying9
 a9:=Tryz.isAgg9
 z9:=Tryz.sizeOf9
 v9:=Tryz.zeroValue9
 t20:=Tryz.underlying20
 a20:=Tryz.isAgg20
 z20:=Tryz.sizeOf20
 v20:=Tryz.zeroValue20
 t37:=Tryz.underlying197
 a37:=Tryz.isAgg197
 z37:=Tryz.sizeOf197
 v37:=Tryz.zeroValue197
 t46:=Tryz.underlying110
 a46:=Tryz.isAgg110
 z46:=Tryz.sizeOf110
 v46:=Tryz.zeroValue110
 t51:=Tryz.underlying292
 a51:=Tryz.isAgg292
 z51:=Tryz.sizeOf292
 v51:=Tryz.zeroValue292
 t53:=Tryz.underlying30
 a53:=Tryz.isAgg30
 z53:=Tryz.sizeOf30
 v53:=Tryz.zeroValue30
 t171:=Tryz.underlying323
 a171:=Tryz.isAgg323
 z171:=Tryz.sizeOf323
 v171:=Tryz.zeroValue323
 t173:=Tryz.underlying325
 a173:=Tryz.isAgg325
 z173:=Tryz.sizeOf325
 v173:=Tryz.zeroValue325
 t212:=Tryz.underlying348
 a212:=Tryz.isAgg348
 z212:=Tryz.sizeOf348
 v212:=Tryz.zeroValue348
 t213:=Tryz.underlying349
 a213:=Tryz.isAgg349
 z213:=Tryz.sizeOf349
 t232:=Tryz.underlying368
 a232:=Tryz.isAgg368
 z232:=Tryz.sizeOf368
 v232:=Tryz.zeroValue368
 t233:=Tryz.underlying165
 a233:=Tryz.isAgg165
 z233:=Tryz.sizeOf165
 v233:=Tryz.zeroValue165
 g17:=aae
 g18:=aae
 g19:=aae
 i0:=aae
 i2:=aae
 i3:=aae
 i4:=aae
 i5:=aae
 i9:=aae
 i20:=aae
 i37:=aae
 i46:=aae
 i51:=aae
 i53:=aae
 i171:=aae
 i173:=aae
 i212:=aae
 i232:=aae
 i233:=aae
 m17:=aae
 m18:=aae
 m19:=aae}
open Go.RowKit Go.Sort Go.Lib in
theorem Tryz.strconv_Itoa (n:Int) (h0: -9223372036854775808<=n) (h1:n<=9223372036854775807) (w:World) (au0:Lib.TabIs Tryz.prog w "internal/strconv.uint64pow10" .u64 Lib.pow10Tab):
 Calls Tryz.prog 174 #[.int .i64 n] w λe w'=>e=.returned (.string ⟨(Lib.itoa n).toArray⟩)/\∃k os,w'=grow (w.drewN k) os:=Any.strconv_Itoa Tryz.Yy n h0 h1 w au0
def Tryz.I8:Go.Shelf.Ren:=⟨λ| 316=>213 | n=>n,λ| 9=>9 | 3=>3 | 4=>4 | 37=>197 | 0=>0 | 127=>254 | 5=>5 | n=>n,λ| n=>n⟩
def Tryz.Yz:Go.Proofs.LaysM.n316 Tryz.prog Tryz.I8:={
 mixed:=aae
 f316:=Tryz.func213.trans (bN aM aae)
 t0:=Tryz.underlying0
 a0:=Tryz.isAgg0
 z0:=Tryz.sizeOf0
 v0:=Tryz.zeroValue0
 t3:=Tryz.underlying3
 a3:=Tryz.isAgg3
 z3:=Tryz.sizeOf3
 v3:=Tryz.zeroValue3
 t4:=Tryz.underlying4
 a4:=Tryz.isAgg4
 z4:=Tryz.sizeOf4
 v4:=Tryz.zeroValue4
 t9:=Tryz.underlying9
 a9:=Tryz.isAgg9
 z9:=Tryz.sizeOf9
 v9:=Tryz.zeroValue9
 t37:=Tryz.underlying197
 a37:=Tryz.isAgg197
 z37:=Tryz.sizeOf197
 v37:=Tryz.zeroValue197
 t127:=Tryz.underlying254
 a127:=Tryz.isAgg254
 z127:=Tryz.sizeOf254
 v127:=Tryz.zeroValue254
 t5:=Tryz.underlying5
 a5:=Tryz.isAgg5
 z5:=Tryz.sizeOf5
 v5:=Tryz.zeroValue5
 i0:=aae
 i3:=aae
 i4:=aae
 i5:=aae
 i9:=aae
 i37:=aae
 i127:=aae}
open Go.RowKit in
theorem Tryz.stringslite_Clone (s:ByteArray) (w:World) (ahZ:s.size<=281474976710656):
 Calls Tryz.prog 213 #[.string s] w λe w'=>e=.returned (.string s)/\Below w.heap.size w w':=Any.stringslite_Clone Tryz.Yz s w ahZ
def Tryz.I9:Go.Shelf.Ren:=⟨λ| 174=>215 | 247=>244 | 245=>245 | 287=>270 | 279=>271 | 280=>272 | 281=>273 | 282=>274 | 321=>294 | 322=>295 | 316=>213 | 171=>174 | 205=>296 | 243=>207 | 246=>238 | 283=>261 | 284=>262 | 285=>263 | 286=>264 | 129=>232 | 317=>285 | 318=>286 | 319=>287 | 320=>288 | 337=>307 | 338=>51 | n=>n,λ| 9=>9 | 3=>3 | 2=>2 | 75=>247 | 85=>277 | 4=>4 | 167=>332 | 5=>5 | 53=>30 | 175=>333 | 46=>110 | 168=>335 | 37=>197 | 0=>0 | 210=>354 | 21=>21 | 127=>254 | 145=>367 | 143=>365 | 171=>323 | 173=>325 | 212=>348 | 51=>292 | 20=>20 | 213=>349 | 232=>368 | 233=>165 | 80=>222 | n=>n,λ| 15=>3 | 16=>4 | 17=>2 | 18=>5 | 19=>0 | n=>n⟩
def Tryz.Mp:Go.Proofs.LaysC.n174 Tryz.prog Tryz.I9:={
 mixed:=aae
 f129:=Tryz.func232.trans (bN aM aae)
 f171:=Tryz.func174.trans (bN aM aae)
 f174:=Tryz.func215.trans (bN aM aae)
 f205:=Tryz.func296.trans (bN aM aae)
 f243:=Tryz.func207.trans (bN aM aae)
 f245:=Tryz.func245.trans (bN aM aae)
 f246:=Tryz.func238.trans (bN aM aae)
 f247:=Tryz.func244.trans (bN aM aae)
 f279:=Tryz.func271.trans (bN aM aae)
 f280:=Tryz.func272.trans (bN aM aae)
 f281:=Tryz.func273.trans (bN aM aae)
 f282:=Tryz.func274.trans (bN aM aae)
 f283:=Tryz.func261.trans (bN aM aae)
 f284:=Tryz.func262.trans (bN aM aae)
 f285:=Tryz.func263.trans (bN aM aae)
 f286:=Tryz.func264.trans (bN aM aae)
 f287:=Tryz.func270.trans (bN aM aae)
 f316:=Tryz.func213.trans (bN aM aae)
 f317:=Tryz.func285.trans (bN aM aae)
 f318:=Tryz.func286.trans (bN aM aae)
 f319:=Tryz.func287.trans (bN aM aae)
 f320:=Tryz.func288.trans (bN aM aae)
 f321:=Tryz.func294.trans (bN aM aae)
 f322:=Tryz.func295.trans (bN aM aae)
 f337:=Tryz.func307.trans (bN aM aae)
 f338:=Tryz.func51.trans (bN aM aae)
 t0:=Tryz.underlying0
 a0:=Tryz.isAgg0
 z0:=Tryz.sizeOf0
 v0:=Tryz.zeroValue0
 t2:=Tryz.underlying2
 a2:=Tryz.isAgg2
 z2:=Tryz.sizeOf2
 v2:=Tryz.zeroValue2
 t3:=Tryz.underlying3
 a3:=Tryz.isAgg3
 z3:=Tryz.sizeOf3
 v3:=Tryz.zeroValue3
 t4:=Tryz.underlying4
 a4:=Tryz.isAgg4
 z4:=Tryz.sizeOf4
 v4:=Tryz.zeroValue4
 t5:=Tryz.underlying5
 a5:=Tryz.isAgg5
 z5:=Tryz.sizeOf5
 v5:=Tryz.zeroValue5
 t9:=Tryz.underlying9
 a9:=Tryz.isAgg9
 z9:=Tryz.sizeOf9
 v9:=Tryz.zeroValue9
 t20:=Tryz.underlying20
 a20:=Tryz.isAgg20
 z20:=Tryz.sizeOf20
 v20:=Tryz.zeroValue20
 t21:=Tryz.underlying21
 a21:=Tryz.isAgg21
 z21:=Tryz.sizeOf21
 v21:=Tryz.zeroValue21
 t37:=Tryz.underlying197
 a37:=Tryz.isAgg197
 z37:=Tryz.sizeOf197
 v37:=Tryz.zeroValue197
 t46:=Tryz.underlying110
 a46:=Tryz.isAgg110
 z46:=Tryz.sizeOf110
 v46:=Tryz.zeroValue110
 t51:=Tryz.underlying292
 a51:=Tryz.isAgg292
 z51:=Tryz.sizeOf292
 v51:=Tryz.zeroValue292
 t53:=Tryz.underlying30
 a53:=Tryz.isAgg30
 z53:=Tryz.sizeOf30
 v53:=Tryz.zeroValue30
 t75:=Tryz.underlying247
 a75:=Tryz.isAgg247
 z75:=Tryz.sizeOf247
 v75:=Tryz.zeroValue247
 t85:=Tryz.underlying277
 a85:=Tryz.isAgg277
 z85:=Tryz.sizeOf277
 v85:=Tryz.zeroValue277
 t127:=Tryz.underlying254
 a127:=Tryz.isAgg254
 z127:=Tryz.sizeOf254
 v127:=Tryz.zeroValue254
 t143:=Tryz.underlying365
 a143:=Tryz.isAgg365
 z143:=Tryz.sizeOf365
 v143:=Tryz.zeroValue365
 t145:=Tryz.underlying367
 a145:=Tryz.isAgg367
 z145:=Tryz.sizeOf367
 v145:=Tryz.zeroValue367
 t167:=Tryz.underlying332
 a167:=Tryz.isAgg332
 z167:=Tryz.sizeOf332
 v167:=Tryz.zeroValue332
 t168:=Tryz.underlying335
 a168:=Tryz.isAgg335
 z168:=Tryz.sizeOf335
 v168:=Tryz.zeroValue335
 t171:=Tryz.underlying323
 a171:=Tryz.isAgg323
 z171:=Tryz.sizeOf323
 v171:=Tryz.zeroValue323
 t173:=Tryz.underlying325
 a173:=Tryz.isAgg325
 z173:=Tryz.sizeOf325
 v173:=Tryz.zeroValue325
 t175:=Tryz.underlying333
 a175:=Tryz.isAgg333
 z175:=Tryz.sizeOf333
 v175:=Tryz.zeroValue333
 t210:=Tryz.underlying354
 a210:=Tryz.isAgg354
 z210:=Tryz.sizeOf354
 v210:=Tryz.zeroValue354
 t212:=Tryz.underlying348
 a212:=Tryz.isAgg348
 z212:=Tryz.sizeOf348
 v212:=Tryz.zeroValue348
 t213:=Tryz.underlying349
 a213:=Tryz.isAgg349
 z213:=Tryz.sizeOf349
 t232:=Tryz.underlying368
 a232:=Tryz.isAgg368
 z232:=Tryz.sizeOf368
 v232:=Tryz.zeroValue368
 t233:=Tryz.underlying165
 a233:=Tryz.isAgg165
 z233:=Tryz.sizeOf165
 v233:=Tryz.zeroValue165
 g15:=aae
 g16:=aae
 g17:=aae
 g18:=aae
 g19:=aae
 t80:=Tryz.underlying222
 a80:=Tryz.isAgg222
 z80:=Tryz.sizeOf222
 v80:=Tryz.zeroValue222
 i0:=aae
 i2:=aae
 i3:=aae
 i4:=aae
 i5:=aae
 i9:=aae
 i20:=aae
 i21:=aae
 i37:=aae
 i46:=aae
 i51:=aae
 i53:=aae
 i75:=aae
 i80:=aae
 i85:=aae
 i127:=aae
 i143:=aae
 i145:=aae
 i167:=aae
 i168:=aae
 i171:=aae
 i173:=aae
 i175:=aae
 i210:=aae
 i212:=aae
 i232:=aae
 i233:=aae
 m15:=aae
 m16:=aae
 m17:=aae
 m18:=aae
 m19:=aae
 c0:=aae
 c2:=aae
 c3:=aae
 c4:=aae
 c5:=aae
 c9:=aae
 c20:=aae
 c21:=aae
 c37:=aae
 c46:=aae
 c51:=aae
 c53:=aae
 c75:=aae
 c80:=aae
 c85:=aae
 c127:=aae
 c143:=aae
 c145:=aae
 c167:=aae
 c168:=aae
 c171:=aae
 c173:=aae
 c175:=aae
 c210:=aae
 c212:=aae
 c213:=aae
 c232:=aae
 c233:=aae}
open Go.RowKit in
theorem Tryz.strconv_ParseInt_10_at64_ok (s:ByteArray) (My:s.size<=9223372036854775806) (v:Int) (h:Lib.parseIntB 64 s.data.toList=.ok v) (w:World):
 Calls Tryz.prog 215 #[.string s,.int .i64 10,.int .i64 64] w λe w'=>e=.returned (.tuple #[.int .i64 v,.nilIface])/\(w'=w∨∃t,w'=Lib.bytesWorld w 5 t):=Any.strconv_ParseInt_10_at64_ok Tryz.Mp s My v h w
open Go.RowKit in
theorem Tryz.strconv_ParseInt_10_at64_range_var (s:ByteArray) (ahZ:s.size<=281474976710656) (h:Lib.parseIntB 64 s.data.toList=.range) (tp:TypeId) (p:Value) (w:World) (ah0:w.var? Tryz.prog "strconv.ErrRange" =some #[.iface tp p]):
 Calls Tryz.prog 215 #[.string s,.int .i64 10,.int .i64 64] w λe w'=>∃N,e=.returned (.tuple #[.int .i64 (Lib.intSat 64 s.data.toList),.iface 335 (.pointer (some ⟨N,0,none⟩))])/\w.heap.size<=N/\w'.heap[N]? =some (.cells #[.string ⟨#[80,97,114,115,101,73,110,116]⟩,.string s,.iface tp p] 354 (0,0))/\Below w.heap.size w w':=Any.strconv_ParseInt_10_at64_range_var Tryz.Mp s ahZ h tp p w ah0
def Tryz.Mq:Go.Shelf.Ren:=⟨λ| 219=>212 | 217=>240 | 225=>241 | 224=>242 | 267=>243 | 266=>268 | 314=>269 | n=>n,λ| 9=>9 | 3=>3 | 4=>4 | 5=>5 | 46=>110 | 146=>295 | 51=>292 | n=>n,λ| 1=>1 | n=>n⟩
def Tryz.acb:Go.Proofs.Lays.n219 Tryz.prog Tryz.Mq:={
 mixed:=aae
 f217:=Tryz.func240.trans (bN aM aae)
 f219:=Tryz.func212.trans (bN aM aae)
 f224:=Tryz.func242.trans (bN aM aae)
 f225:=Tryz.func241.trans (bN aM aae)
 f266:=Tryz.func268.trans (bN aM aae)
 f267:=Tryz.func243.trans (bN aM aae)
 f314:=Tryz.func269.trans (bN aM aae)
 t3:=Tryz.underlying3
 a3:=Tryz.isAgg3
 z3:=Tryz.sizeOf3
 v3:=Tryz.zeroValue3
 t4:=Tryz.underlying4
 a4:=Tryz.isAgg4
 z4:=Tryz.sizeOf4
 v4:=Tryz.zeroValue4
 t5:=Tryz.underlying5
 a5:=Tryz.isAgg5
 z5:=Tryz.sizeOf5
 v5:=Tryz.zeroValue5
 t9:=Tryz.underlying9
 a9:=Tryz.isAgg9
 z9:=Tryz.sizeOf9
 v9:=Tryz.zeroValue9
 t46:=Tryz.underlying110
 a46:=Tryz.isAgg110
 z46:=Tryz.sizeOf110
 v46:=Tryz.zeroValue110
 t51:=Tryz.underlying292
 a51:=Tryz.isAgg292
 z51:=Tryz.sizeOf292
 v51:=Tryz.zeroValue292
 t146:=Tryz.underlying295
 a146:=Tryz.isAgg295
 z146:=Tryz.sizeOf295
 v146:=Tryz.zeroValue295
 g1:=aae}
open Go.RowKit Go.Lib in
theorem Tryz.stringslite_Index_one (s:ByteArray) (c:UInt8) (w:World):
 Calls Tryz.prog 212 #[.string s,.string ⟨#[c]⟩] w λe w'=>e=.returned (.int .i64 (Lib.indexByte s.data.toList c))/\w'=w:=Any.stringslite_Index_one Tryz.acb s c w
def Tryz.B5:Go.Shelf.Ren:=⟨λ| 105=>171 | 212=>202 | 99=>144 | 165=>203 | 166=>170 | 170=>179 | 169=>137 | 263=>234 | 264=>235 | 206=>181 | 240=>201 | 241=>236 | 276=>233 | 277=>260 | n=>n,λ| 9=>9 | 3=>3 | 4=>4 | 20=>20 | 0=>0 | 46=>110 | 109=>270 | 5=>5 | 72=>214 | 76=>248 | 51=>292 | 146=>295 | 53=>30 | 148=>297 | 70=>212 | 37=>197 | 75=>247 | 127=>254 | 164=>293 | 80=>222 | n=>n,λ| n=>n⟩
def Tryz.acd:Go.Proofs.Lays.n105 Tryz.prog Tryz.B5:={
 mixed:=aae
 f99:=Tryz.func144.trans (bN aM aae)
 f105:=Tryz.func171.trans (bN aM aae)
 f165:=Tryz.func203.trans (bN aM aae)
 f166:=Tryz.func170.trans (bN aM aae)
 f169:=Tryz.func137.trans (bN aM aae)
 f170:=Tryz.func179.trans (bN aM aae)
 f206:=Tryz.func181.trans (bN aM aae)
 f212:=Tryz.func202.trans (bN aM aae)
 f240:=Tryz.func201.trans (bN aM aae)
 f241:=Tryz.func236.trans (bN aM aae)
 f263:=Tryz.func234.trans (bN aM aae)
 f264:=Tryz.func235.trans (bN aM aae)
 f276:=Tryz.func233.trans (bN aM aae)
 f277:=Tryz.func260.trans (bN aM aae)
 t0:=Tryz.underlying0
 a0:=Tryz.isAgg0
 z0:=Tryz.sizeOf0
 v0:=Tryz.zeroValue0
 t3:=Tryz.underlying3
 a3:=Tryz.isAgg3
 z3:=Tryz.sizeOf3
 v3:=Tryz.zeroValue3
 t4:=Tryz.underlying4
 a4:=Tryz.isAgg4
 z4:=Tryz.sizeOf4
 v4:=Tryz.zeroValue4
 t5:=Tryz.underlying5
 a5:=Tryz.isAgg5
 z5:=Tryz.sizeOf5
 v5:=Tryz.zeroValue5
 t9:=Tryz.underlying9
 a9:=Tryz.isAgg9
 z9:=Tryz.sizeOf9
 v9:=Tryz.zeroValue9
 t20:=Tryz.underlying20
 a20:=Tryz.isAgg20
 z20:=Tryz.sizeOf20
 v20:=Tryz.zeroValue20
 t37:=Tryz.underlying197
 a37:=Tryz.isAgg197
 z37:=Tryz.sizeOf197
 v37:=Tryz.zeroValue197
 t46:=Tryz.underlying110
 a46:=Tryz.isAgg110
 z46:=Tryz.sizeOf110
 v46:=Tryz.zeroValue110
 t51:=Tryz.underlying292
 a51:=Tryz.isAgg292
 z51:=Tryz.sizeOf292
 v51:=Tryz.zeroValue292
 t53:=Tryz.underlying30
 a53:=Tryz.isAgg30
 z53:=Tryz.sizeOf30
 v53:=Tryz.zeroValue30
 t70:=Tryz.underlying212
 a70:=Tryz.isAgg212
 z70:=Tryz.sizeOf212
 v70:=Tryz.zeroValue212
 t72:=Tryz.underlying214
 a72:=Tryz.isAgg214
 z72:=Tryz.sizeOf214
 v72:=Tryz.zeroValue214
 t75:=Tryz.underlying247
 a75:=Tryz.isAgg247
 z75:=Tryz.sizeOf247
 v75:=Tryz.zeroValue247
 t76:=Tryz.underlying248
 a76:=Tryz.isAgg248
 z76:=Tryz.sizeOf248
 v76:=Tryz.zeroValue248
 t109:=Tryz.underlying270
 a109:=Tryz.isAgg270
 z109:=Tryz.sizeOf270
 v109:=Tryz.zeroValue270
 t127:=Tryz.underlying254
 a127:=Tryz.isAgg254
 z127:=Tryz.sizeOf254
 v127:=Tryz.zeroValue254
 t146:=Tryz.underlying295
 a146:=Tryz.isAgg295
 z146:=Tryz.sizeOf295
 v146:=Tryz.zeroValue295
 t148:=Tryz.underlying297
 a148:=Tryz.isAgg297
 z148:=Tryz.sizeOf297
 v148:=Tryz.zeroValue297
 t164:=Tryz.underlying293
 a164:=Tryz.isAgg293
 z164:=Tryz.sizeOf293
 v164:=Tryz.zeroValue293}
def Tryz.AF:Builder.Extra Tryz.prog Tryz.B5:={
 sizeBuilder:=aae
 liesBuilder:=aae
 t5:=Tryz.underlying5
 a5:=Tryz.isAgg5
 z5:=Tryz.sizeOf5
 v5:=Tryz.zeroValue5
 infoByte:=aae
 cellsByte:=aae
 sizeByte:=aae
 neB5:=Z}
open Go.RowKit Go.Lib in
theorem Tryz.strings_Repeat (s:ByteArray) (c:Nat) (w:World) (hc:c<=9223372036854775807) (fN:s.size*c<=140737488355328):
 Calls Tryz.prog 171 #[.string s,.int .i64 c] w λe w'=>e=.returned (.string ⟨(Lib.repeatL s.data.toList c).toArray⟩)/\Below w.heap.size w w':=Any.strings_Repeat Tryz.acd Tryz.AF s c w hc fN
end Go.Proofs
namespace Go.Proofs.YtfemabakfkliiaaGreatDoor.Con
open Go.Value renaming int->O,string->X,pointer->ae,agg->ah,tuple->ai,bool->aj
open Go.IntKind renaming i64->U,wrap->ar
open Go.Ending renaming returned->ak
open _root_.ByteArray renaming mk->ao
open _root_.Go.Proofs.Tryz renaming prog->aq
open Go.Instr renaming buildSlice->au
open Go renaming World->av,Value->aw,Calls->az
open Go.Kt renaming Only->Q,SliceF->aA,Cells->aB,OnlyP->aD,Blk->aF
open Go Go.RowKit Go.Kt Go.Kt.V Go.Proofs.YtfemabakfkliiaaGreatDoor.Vc
def ik{P:Program}{f:FuncId}{a:Array aw}{w:av}{b:Ending->av->Prop}(h:az P f a w λe c=>∃v,e=ak v/\b (ak v) c):az P f a w b:=h.mono (by rintro e c ⟨v,rfl,q⟩;exact q)
def ret{P:Program}{f:FuncId}{a:Array aw}{c:av}{r:aw}{b:av->Prop}(h:az P f a c λe w=>∃v,e=ak v/\v=r/\b w):az P f a c λe w=>e=ak r/\b w:=
 h.mono (by rintro e w ⟨v,rfl,rfl,q⟩;exact⟨rfl,q⟩)
def Blk.dP{w:av}{b:Nat}{t:TypeId}{c:aI}(h:aF w b t c)(j:Nat){v:aw}(a:c[j]? =aM v):aB w ((⟨b,0,aaa⟩:Addr).add j) [v]:=by
 rw[gC,bP];exact h.cells j [v] λk u hk=>by
  cases k with
  | zero=>simp only[cG,bJ]at hk;subst hk;exact a
  | succ k=>simp at hk
def fS(c:UInt8):Bool:=(65<=c.toNat&&c.toNat<=90)||(97<=c.toNat&&c.toNat<=122)||c.toNat==95
def dw(c:UInt8):Bool:=48<=c.toNat&&c.toNat<=57
def fA(c:UInt8):Bool:=fS c||dw c
def qD(c:UInt8):Bool:=[9,10,13,32].contains c
def NI:∀n:Fin 256,(((decide (97<=(bits .or .u8 (n.val:Int) 32)))&&(decide ((bits .or .u8 (n.val:Int) 32)<=122)))||((n.val:Int)==95))=((65<=n.val&&n.val<=90)||(97<=n.val&&n.val<=122)||n.val==95):=afp
def DP(w:av)(c:UInt8):az aq 147 #[.int .u8 (c.toNat:Int)] w λe a=>e=ak (aj (fS c))/\Q [] w a:=by
 refine ret (amt _ ?_);exact⟨by rw[NI ⟨c.toNat,c.toNat_lt⟩];rfl,Only.refl _ _⟩
def PH(w:av)(c:UInt8):az aq 149 #[.int .u8 (c.toNat:Int)] w λe a=>e=ak (aj (dw c))/\Q [] w a:=by
 refine ret (amv _ ?_);refine⟨?_,Only.refl _ _⟩;congr 1;rw[bL];simp only[dw,aR,bG];omega
def V0(w:av)(c:UInt8):az aq 214 #[.int .u8 (c.toNat:Int)] w λe a=>e=ak (aj (dw c))/\Q [] w a:=by
 refine ret (v2w _ ?_);refine⟨?_,Only.refl _ _⟩;have h:∀n:Fin 256,decide ((ar .u8 ((n.val:Int)-48))<10)=(decide (48<=n.val)&&decide (n.val<=57)):=afp
 rw[h ⟨c.toNat,c.toNat_lt⟩];rfl
def V1{w:av}{F:aJ}{s:Sl}{l:aH}(h:aA nq 1 w F s l)(c:UInt8):
  az aq 211 #[Sl.v s,.int .u8 (c.toNat:Int)] w λe b=>∃i:Int,e=ak (O U i)/\decide (i>=0)=l.contains c/\Q [] w b:=by
 refine ik (am6 _ _ ?_);have f:=h.len;have D:=h.big;have g:=h.cap;refine⟨λv i b=>∃n:Nat,n<=I l/\i=(n:Int)/\v=(I l)-n/\(∀x,x∈l.take n->x≠c)/\b=w,I l,⟨0,be _,rfl,rfl,aag,rfl⟩,?_⟩;rintro v _ _ ⟨n,d,rfl,rfl,p,rfl⟩;refine⟨λa=>?_,λa=>?_⟩
 ·have m:(n:Int)<s.n:=aO a;obtain⟨ad,x,r,o,j,t,u,q,k⟩:=h.get (ba n) m;rw[aW]at j;unfold nq iT at k;subst k;refine⟨ad,o,_,q,λe=>⟨_,rfl,?_,Only.refl _ _⟩,λe=>⟨(I l)-(n+1),J,n+1,J,aaf,rfl,?_,rfl⟩⟩
  ·have e:c=x:=ZT.1 (by have:=aO e;omega);rw[bF J];symm;rw[fI,e];exact bn j
  intro y c;rw[bh,j]at c;simp only[fY,ch,aN]at c;rcases c with c | rfl
  ·exact p y c
  rintro rfl;simp at e
 have m:¬((n:Int)<s.n):=aU a;rw[bm J]at p;refine⟨_,rfl,?_,Only.refl _ _⟩;rw[bA J];symm;rw[fx];intro e;exact p c (fI.1 e) rfl
def KE{w:av}{F:aJ}{s:Sl}{l:aH}(h:aA nq 1 w F s l)(c:UInt8):
  az aq 180 #[Sl.v s,.int .u8 (c.toNat:Int)] w λe d=>e=ak (aj (l.contains c))/\Q [] w d:=by
 refine ret (amP _ _ ?_);refine(V1 h c).mono ?_;rintro _ f ⟨b,rfl,i,a⟩;exact⟨b,rfl,by rw[i],a⟩
def KF{w:av}{F:aJ}{s:Sl}{l:aH}(h:aA nq 1 w F s l)(c:UInt8):
  az aq 143 #[.int .u8 (c.toNat:Int),Sl.v s] w λe b=>e=ak (aj (l.contains c))/\Q [] w b:=by
 refine ret (amp _ _ ?_);refine(KE h c).mono ?_;rintro _ d ⟨rfl,a⟩;exact⟨_,rfl,rfl,a⟩
def mh:Rp (aH):=λ_ _ l c=>c=[X (T l)]
def du:mh.Ok where
 keep h _:=h
 inHeap h:=h
 mono h _:=h
 one:=by
  rintro w F x c h v a;unfold mh at h;subst h;simp only[aN]at a;subst a;rfl
def V2{w:av}{F:aJ}{s:Sl}{l:List (aH)}(h:aA mh 1 w F s l)(c:aH):
  az aq 152 #[Sl.v s,X (T c)] w λe b=>∃i:Int,e=ak (O U i)/\decide (i>=0)=l.contains c/\Q [] w b:=by
 refine ik (adP _ _ ?_);have f:=h.len;have D:=h.big;have g:=h.cap;refine⟨λv i b=>∃n:Nat,n<=I l/\i=(n:Int)/\v=(I l)-n/\(∀x,x∈l.take n->x≠c)/\b=w,I l,⟨0,be _,rfl,rfl,aag,rfl⟩,?_⟩;rintro v _ _ ⟨n,d,rfl,rfl,p,rfl⟩;refine⟨λa=>?_,λa=>?_⟩
 ·have m:(n:Int)<s.n:=aO a;obtain⟨ad,x,r,o,j,t,u,q,k⟩:=h.get (ba n) m;rw[aW]at j;unfold mh at k;subst k;refine⟨ad,o,_,q,?_⟩;dsimp only;rw[iv];refine⟨λe=>⟨_,rfl,?_,Only.refl _ _⟩,λe=>⟨(I l)-(n+1),J,n+1,J,aaf,rfl,?_,rfl⟩⟩
  ·have e:c=x:=aO e;rw[bF J];symm;rw[fI,e];exact bn j
  intro y c;rw[bh,j]at c;simp only[fY,ch,aN]at c;rcases c with c | rfl
  ·exact p y c
  rintro rfl;simp at e
 have m:¬((n:Int)<s.n):=aU a;rw[bm J]at p;refine⟨_,rfl,?_,Only.refl _ _⟩;rw[bA J];symm;rw[fx];intro e;exact p c (fI.1 e) rfl
def wm{w:av}{F:aJ}{s:Sl}{l:List (aH)}(h:aA mh 1 w F s l)(c:aH):
  az aq 184 #[Sl.v s,X (T c)] w λe d=>e=ak (aj (l.contains c))/\Q [] w d:=by
 refine ret (amQ _ _ ?_);refine(V2 h c).mono ?_;rintro _ f ⟨b,rfl,i,a⟩;exact⟨b,rfl,by rw[i],a⟩
abbrev Cur(w:av)(b:Nat)(t:TypeId)(l:aH)(i:Nat)(r:aI):Prop:=aF w b t (X (T l)::O U (i:Int)::r)
def adV{w:av}{b:Nat}{t:TypeId}{l:aH}{i:Nat}{r:aI}(h:Cur w b t l i r):
  az aq 103 #[ae (aM ⟨b,0,aaa⟩)] w λe c=>e=ak (aj (decide (I l<=i)))/\Q [] w c:=by
 refine ret (al0 _ ?_);refine⟨i,Blk.dP h 1 rfl,T l,Blk.dP h 0 rfl,λd a=>⟨?_,a⟩⟩;rw[cM];congr 1;rw[gv];omega
def DQ{w:av}{b:Nat}{t:TypeId}{l:aH}{i:Nat}{r:aI}(h:Cur w b t l i r)(c:i<=I l):
  az aq 145 #[ae (aM ⟨b,0,aaa⟩)] w λe d=>e=ak (X (T (l.drop i)))/\Q [] w d:=by
 refine ret (amr _ ?_);refine⟨T l,Blk.dP h 0 rfl,i,Blk.dP h 1 rfl,i,⟨rfl,by rw[cM];exact c⟩,λf a=>⟨?_,a⟩⟩;rw[wa,cM,bm (by rw[cJ];exact aX _)]
def nP{p:UInt8->Bool}:∀{l:aH} {n:Nat},n<=(I l)->(∀x,x∈l.take n->p x=aE)->(∀x,l[n]? =aM x->p x=aL)->l.takeWhile p=l.take n
 | [],n,_,_,_=>aag
 | c::r,0,_,_,h=>by
  have:=h c rfl;simp[this]
 | c::r,n+1,hn,h,a=>by
  have b:=h c aag;rw[dL,aV b,gx,nP (n:=n) adK (λx hx=>h x adD) (λx hx=>a x acD)]
def V3{w:av}{b:Nat}{t:TypeId}{l:aH}{i:Nat}{r:aI}(f:Cur w b t l i r)(g:i<=I l)(s:I l<9223372036854775807):
  az aq 183 #[ae (aM ⟨b,0,aaa⟩)] w λe a=>e=ak (X (T ((l.drop i).takeWhile fA)))/\Q [] w a:=by
 refine ret (amS _ ?_);refine(DQ f g).mono ?_;rintro _ u ⟨rfl,q⟩;have j:I (l.drop i)<=I l:=by rw[cJ];omega
 generalize l.drop i=m at*
 refine⟨T m,rfl,λv k a=>∃n:Nat,n<=I m/\k=(n:Int)/\v=(I m)-n/\(∀x,x∈m.take n->fA x=aE)/\Q [] w a,I m,⟨0,be _,rfl,rfl,aag,q⟩,?_⟩;rintro v _ o ⟨n,d,rfl,rfl,p,c⟩;rw[cM];refine⟨λb a=>(b=aE->∃x,m[n]? =aM x/\fA x=aE)/\(b=aL->∀x,m[n]? =aM x->fA x=aL)/\Q [] w a,?_,λh=>?_,λh=>⟨λe=>aeZ,λ_ x hx=>?_,c⟩⟩
 ·rintro b z ⟨r,t,i⟩;refine⟨λe=>?_,λe=>⟨n,⟨rfl,d⟩,?_,i⟩⟩
  ·obtain⟨x,hx,A⟩:=r e;have B:=(bc.1 hx).1;refine⟨(I m)-(n+1),J,n+1,J,aaf,rfl,λy b=>?_,i⟩;rw[bh,hx]at b;simp only[fY,ch,aN]at b;rcases b with b | rfl
   ·exact p y b
   exact A
  rw[wa,im,sI,nP d p (t e)]
 ·have B:(n:Int)<I m:=aO h;have hx:m[n]? =aM (m[n]' J):=bf J;generalize m[n]' J=x at hx;have t:(T m)[Int.toNat (n:Int)]? =aM x:=adY
  refine⟨x,⟨ba n,t⟩,(DP o x).mono ?_⟩;rintro _ A ⟨rfl,r⟩;refine⟨_,rfl,λi=>⟨λ_=>⟨x,hx,by unfold fA;rw[i];rfl⟩,λe=>aeZ,c.cd r⟩,λi=>⟨x,⟨ba n,t⟩,(PH A x).mono ?_⟩⟩;rintro _ C ⟨rfl,z⟩;refine⟨_,rfl,λhd=>⟨x,hx,by unfold fA;rw[hd,pM]⟩,λhd y b=>?_,c.cd (r.cd z)⟩;rw[hx]at b;injection b with b;subst b;unfold fA;rw[i,hd];rfl
 have b:¬(n:Int)<I m:=aU h;have:=(bc.1 hx).1;omega
def KG(w:av)(l p:aH)(b:I l<9223372036854775807)(c:I p<9223372036854775807):az aq 144 #[X (T l),X (T p)] w λe a=>e=ak (aj (decide (l.take (I p)=p)))/\Q [] w a:=by
 refine ret (amq _ _ ?_);refine(ret (atr (T l) (T p) (λv a=>v=aj (decide (l.take (I p)=p))/\Q [] w a) w ?_)).mono ?_
 ·rw[cM,cM];refine⟨I p,λh=>⟨rfl,aeW⟩,?_,Only.refl _ _⟩;rw[wa,iv,im,sI];congr 1;rw[bL];simp only[aR,bG];constructor
  ·exact λh=>h.2
  intro h;refine⟨?_,h⟩;have:=bN List.length h;rw[cx]at this;omega
 rintro _ d ⟨rfl,h⟩;exact⟨_,rfl,rfl,h⟩
def vE:∀(l:aH) (c:UInt8),Lib.indexByte l c=if c∈l then(I (l.takeWhile (· !=c)):Int)else -1
 | [],c=>by simp[Lib.indexByte]
 | b::l,c=>by
  rw[Lib.indexByte,vE l c];by_cases h:b=c
  ·subst h;simp
  ·by_cases m:c∈l
   ·have a:(b==c)=aL:=by simpa using h
    have d:(b !=c)=aE:=by simpa using h
    have e:c∈b::l:=by simp[m]
    rw[a,aV m,aV e,dL,aV d];simp
   ·have a:(b==c)=aL:=by simpa using h
    have d:¬c∈b::l:=by simp[m];exact λe=>h e.symm
    rw[a,aP m,aP d];simp
def DR{c:UInt8}:∀{l:aH},¬c∈l->l.takeWhile (· !=c)=l
 | [],_=>rfl
 | b::l,h=>by
  simp only[aZ,not_or]at h;rw[dL,aV (by simpa using λe=>h.1 e.symm),DR h.2]
def pu{p:UInt8->Bool}:∀{l:aH},l.takeWhile p=l.take (I (l.takeWhile p))
 | []=>rfl
 | b::l=>by
  rw[dL];split
  ·rw[aY,gx,<-pu]
  rfl
def anq(w:av)(l:aH)(c:UInt8)(h:I l<9223372036854775807):az aq 146 #[X (T l),X (T [c])] w λe a=>∃(s:aK) (b:Bool),e=ak (ai #[X (T (l.takeWhile (· !=c))),X s,aj b])/\Q [] w a:=by
 refine ik (ams _ _ ?_);refine(att (T l) (T [c]) (λv a=>∃(s:aK) (b:Bool),v=(ai #[X (T (l.takeWhile (· !=c))),X s,aj b])/\Q [] w a) w ?_).mono ?_
 ·refine(Tryz.stringslite_Index_one (T l) c w).mono ?_;rintro _ _ ⟨rfl,rfl⟩;have e:(T l).data.toList=l:=rfl;rw[e,vE];refine⟨_,rfl,λb=>?_,λb=>?_⟩
  ·by_cases m:c∈l
   ·rw[aV m];have i:I (l.takeWhile (· !=c))<I l:=by
     have d:=List.takeWhile_append_dropWhile (p:=(· !=c)) (l:=l);have f:=bN List.length d;rw[aQ]at f;have e:l.dropWhile (· !=c)≠[]:=by
      intro e;rw[e,bE]at d;rw[<-d]at m;have:=List.all_takeWhile (p:=(· !=c)) (l:=l);rw[dx]at this;have:=this c (by rw[d]at m⊢;exact m);simp at this
     have j:=mM.2 e;omega
    have hk:(T l).extract 0 (I (l.takeWhile (· !=c)))=T (l.takeWhile (· !=c)):=by
     rw[wa,im,sI,<-pu]
    refine⟨I (l.takeWhile (· !=c)),⟨rfl,aa2⟩,I (l.takeWhile (· !=c))+1,⟨by rw[cM,fh aah aah];rfl,aa2⟩,λk g=>⟨(T l).extract (I (l.takeWhile (· !=c))+1) (T l).size,aE,?_,g⟩⟩;rw[hk]
   ·rw[aP m]at b;exact absurd (aO b) J
  ·by_cases m:c∈l
   ·rw[aV m]at b;exact absurd (aU b) J
   ·rw[DR m];exact⟨_,_,rfl,Only.refl _ _⟩
 ·rintro _ d ⟨v,rfl,s,b,rfl,c⟩;exact⟨_,s,b,rfl,s,b,rfl,c⟩
end Go.Proofs.YtfemabakfkliiaaGreatDoor.Con
