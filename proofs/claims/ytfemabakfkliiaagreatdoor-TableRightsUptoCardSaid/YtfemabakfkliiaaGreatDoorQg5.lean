import Derived.Test.YtfemabakfkliiaaGreatDoorQg4
set_option linter.defProp false
set_option linter.unusedSectionVars false
set_option linter.unusedVariables false
set_option maxRecDepth 100000
set_option maxHeartbeats 40000000
set_option linter.unusedSimpArgs false
open Bool renaming true->L,false->aL
open Option renaming some->aM,none->aaf
open List renaming length->I
open Go.Value renaming int->O,string->K,pointer->ae,agg->ah,tuple->ai,bool->aj
open Go.IntKind renaming i64->U,wrap->ar
open Go.Ending renaming returned->ak
open _root_.ByteArray renaming mk->ao
open _root_.Go.Proofs.Tryz renaming prog->Q
open Go.Instr renaming buildSlice->au
open Go renaming World->M,Value->aw,Calls->az
open Go.Kt renaming Only->Z,SliceF->aA,Cells->aB,OnlyP->aD,Blk->aF
namespace Go.Proofs.YtfemabakfkliiaaGreatDoor.Vc
open Go Go.RowKit Go.Kt Go.Kt.V
variable {R:aG}{w:M}
def alB(p:Addr)(n:Int)(u s v:aK)(j m r y:Sl)(G deep:Int)(Y:nw w λk c=>xCB c (p.add 2) λS=>N (S||(decide (deep>=12))) (fO [k] 131 #[E p,aj aL] c λw1=>R (ai #[]) w1) (Tj (au 32 5 #[.mk 0 (K (ao #[])),.mk 1 (K (ao #[115,116,97,116,101])),.mk 2 (K (ao #[112,97,114,97,108,108,101,108])),.mk 3 (K (ao #[104,105,115,116,111,114,121])),.mk 4 (K (ao #[100,101,101,112]))]) c λC l=>cr [k] c l/\mN (λT o=>N T (fO [k] 131 #[E p,aj (v.toList==((ao #[]).toList))] o λw4=>o0 w4 λq=>∃a:aJ,a k/\∃p0,cT C n 1 p0/\a p0.block/\CZ q p0 λs0=>qL [k] 133 #[E p,K u] q λs1 d=>bR a q d/\rb3 32 (K s0) (K s1) (K (ao #[123])) d λl1 e=>cr [k] d e/\bR a d e/\fO [k] 132 #[E p,O U deep,l1.v] e λH=>bR a e H/\fO [k] 135 #[E p,cy n u s v j m r y G,O U (ar U (deep+1))] H λP=>li 32 (K (ao #[125])) P λl2 A=>cr [k] P A/\fO [k] 132 #[E p,O U deep,l2.v] A λW=>R (ai #[]) W) (mN (λV z=>N V (fO [k] 131 #[E p,aj ((s.toList==((ao #[]).toList))&&((ar U ((ar U ((ar U ((j.n:Int)+(m.n:Int)))+(r.n:Int)))+(y.n:Int)))==0))] z λX=>o0 X λf=>∃J:aJ,J k/\∃h,cT C n 1 h/\J h.block/\CZ f h λs2=>J k/\qL [k] 133 #[E p,K u] f λs3 g=>bR J f g/\qL [k] 133 #[E p,K v] g λF b=>bR J g b/\((F.size:Int)+1)<=9223372036854775807/\∃D:Sl,∃i,((au 32 4 #[.mk 0 (K s2),.mk 1 (K s3),.mk 2 (K (ao #[45,62])),.mk 3 (K (F++(ao #[59])))]).run Q b)=(.ok D.v i)/\cr [k] b i/\bR J b i/\fO [k] 132 #[E p,O U deep,D.v] i λB=>bR J i B/\R (ai #[]) B) (fO [k] 131 #[E p,aj aL] z λkf=>R (ai #[]) kf)) λx=>N (n==3) (x (n==3) o) (x (n==4) o))) λt=>N (n==1) (t (n==1) l) (t (n==2) l))):Cr 178 #[E p,cy n u s v j m r y G,O U deep] w R:=
 fC (.d 4 (.j [0,2,4,6,19] [.s 22 .bool] .o (.s .o (.j [0,2,4,6] [.s 52 .bool] .o .o)))) Y
def alC(c:Addr)(k:cS 145 #[E c] w λs n=>oc 0 n λf l i b=>mN (λg d=>N g (nx l λm=>f m (ar U (i+1)) d) (∃k3:Nat,(i=(k3:Int)/\k3<=s.size)/\R (K (s.extract 0 k3)) d)) λJ=>N (decide (i<(s.size:Int))) (∃c0:UInt8,(0<=i/\(s[Int.toNat i]?)=(aM c0))/\cB 147 #[.int .u8 (UInt8.toNat c0:Int)] b λh e=>N h (J L e) (∃a:UInt8,(0<=i/\(s[Int.toNat i]?)=(aM a))/\cB 149 #[.int .u8 (UInt8.toNat a:Int)] e λj o=>J j o)) (J aL b)):Cr 183 #[E c] w R:=
 fC (.d 3 (.s (.j [3] [.s 4 de] (.s (.s (.j [3,4] [.s 22 .bool] .o .o) .o) .o) .o) .o)) k
def adf(s:aK)(R:aG)(w:M)(h:cS 213 #[K s] w λa b=>R (K a) b):Cr 185 #[K s] w R:=
 iO h
def v0w(s:aK)(l:oc 0 w λg n i d=>mN (λh a=>N h (nx n λo=>g o (ar U (i+1)) a) (N (s.toList==((ao #[]).toList)) (R (ai #[O U 0,O U 0,O U 3]) a) (mN (λj e=>N j (R (ai #[O U 0,O U 0,O U 4]) e) (∃k3:Nat,(i=(k3:Int)/\k3<=s.size)/\ac4 215 #[K (s.extract 0 k3),O U 10,O U 64] e λm v f=>Ifc v.v/\N (!(niV v.v)) (R (ai #[O U 0,O U 0,O U 20]) f) (R (ai #[O U m,O U i,O U 0]) f))) λb=>N (i==0) (b (i==0) a) (∃c0:UInt8,((decide (i>1))=L->(0:Int)<=0/\s[0]? =(aM c0))/\b ((decide (i>1))&&((UInt8.toNat c0:Int)==48)) a)))) λJ=>N (decide (i<(s.size:Int))) (∃c:UInt8,(0<=i/\(s[Int.toNat i]?)=(aM c))/\cB 214 #[.int .u8 (UInt8.toNat c:Int)] d λk p=>J k p) (J aL d)):Cr 186 #[K s] w R:=
 fC (.d 2 (.s (.j [0] [.s 5 de] (.s (.s (.j [0,5] [.s 17 .bool] .o .o) .o) .o) .o) (.s (.d 2 (.j [0,5] [.s 23 .bool] .o .o)) .o))) l
def alD(c:Addr)(C:nw w λk V=>lQ [k] 76 #[E c] V λz u=>N (!z) (∀v,Z [k] u v->R (bU 0 0 (ao #[]) 0 Sl.nil 0) v) (o0 u λh=>∃J:aJ,o0 h λx=>J ((c.add 0).block)/\jy x (c.add 0) λT=>o0 x λy=>J ((c.add 1).block)/\gU y (c.add 1) λD=>o0 y λb=>nL [k] 216 #[T.v,O U D] b λn o t p s q F r G d=>lw h b d/\bR J b d/\o0 d λi=>∀a,h.heap.size<=a->a<i.heap.size->yL [.mk b.heap.size d.heap.size] a->N (r !=0) (∀j,Z [a,k] i j->sT (c.add 2) j 2 λf k3 W H=>k≠f/\a≠f/\sS j f k3 W H [O U r,O U G] λA=>∀l,Z [k] A l->R (bU n o t p s q) l) (∀e,Z [a,k] i e->sT (c.add 1) e 1 λg P X S=>k≠g/\a≠g/\sS e g P X S [O U F] λB=>∀m,Z [k] B m->R (bU n o t p s q) m))):Cr 187 #[E c] w R:=
 fC (.d 2 (.s (.l aL [] []) .o)) C
def alE(r:Addr)(sign:aK)(read:OV)(R:aG)(w:M)(h:lp0 w λe j m=>mN (λf a=>N f (∃k:Nat,∃z d,read.v=(.func (.func k) z.toArray d.toArray)/\(∀x:Array aw,∀b,((callFunc k x).run Q b)=(.ok (.enter k x) b))/\cU k ((Bp (Bp z []) d).toArray) a λn=>nx j λk3=>e k3 n) (R (ai #[]) a)) λJ=>cB 76 #[E (r.add 0)] m λg c=>N g (li 32 (K sign) c λl o=>cI 73 #[E (r.add 0),l.v] o λi p=>J (i==0) p) (J aL c)):Cr 188 #[E r,K sign,read.v] w R:=
 fB (an:=.j [0,1,2] [] (.s (.s (.j [0,1,2] [.s 18 .bool] .o .o) .o) .o) .o) (args:=[.ad r,.str sign,.raw read]) h
def alF(p C:Addr)(h:o0 w λa=>∃J:aJ,J p.block/\jy a p λo=>xCQ a C λt=>GY 190 #[ae t] a λi u e f v g q j k b=>bR J a b/\li 23 (lF i u e f v g q j k) b λr c=>bR J b c/\qg 23 o r c λs d=>bR J c d/\sT p d 1 λl m z n=>sS d l m z n [s.v] λx=>R (ai #[]) x):Cr 189 #[E p,E C] w R:=
 iO h
def alG(r:Addr)(am:nw w λa g=>∃J:aJ,o0 g λX=>J (((r.add 0).add 0).block)/\jy X ((r.add 0).add 0) λl0=>o0 X λY=>J (((r.add 0).add 1).block)/\gU Y ((r.add 0).add 1) λi0=>∃p0,cT l0 i0 4 p0/\o0 Y λw3=>J ((p0.add 3).block)/\gU w3 (p0.add 3) λd=>o0 w3 λb=>rb3 32 (K (ao #[115,101,116])) (K (ao #[114,97,105,115,101])) (K (ao #[101,109,105,116])) b λl1 c=>cr [a] b c/\lw g b c/\bR J b c/\o0 c λh=>ol [a] 109 #[E (r.add 0),l1.v] h λi j=>lw g h j/\bR J h j/\o0 j λt=>∀k,g.heap.size<=k->k<t.heap.size->yL [.mk h.heap.size j.heap.size,.mk b.heap.size c.heap.size] k->N (i==0) (∀w9,Z [k] t w9->fO [a,k] 77 #[E (r.add 0)] w9 λdA=>∀u,Z [a] dA u->R (lF i (ao #[]) 0 0 (ao #[]) 0 Sl.nil 0 d) u) (∀z,Z [k] t z->fO [a,k] 106 #[E r,E ((r.add 4).add 4),O U 2] z λfj=>lQ [a,k] 76 #[E (r.add 0)] fj λb0 f=>N (!b0) (∀C,Z [a] f C->R (lF i (ao #[]) 0 0 (ao #[]) 0 Sl.nil 0 d) C) (gU f ((r.add 0).add 1) λi3=>sT ((r.add 0).add 1) f 1 λq k3 z0 k4=>a≠q/\k≠q/\sS f q k3 z0 k4 [O U (ar U (i3+1))] λiQ=>qL [a,k] 154 #[E (r.add 0)] iQ λS im=>∀e,Z [k] im e->∃l:Int->aK->Int->Int->aK->Int->Sl->Int->Int->M->Prop,(∀v T x y W A,∀G:Sl,∀B D s,l v T x y W A G B D s->li 32 (K (ao #[59])) s λl3 F=>cr [a,k] s F/\fO [a,k] 71 #[E (r.add 0),l3.v] F λkZ=>∀V,Z [a] kZ V->R (lF v T x y W A G B D) V)/\N (i !=2) (li 32 (K (ao #[61])) e λl4 P=>cr [a,k] e P/\fO [a,k] 71 #[E (r.add 0),l4.v] P λra=>fK [a,k] 187 #[E (r.add 0)] ra λm n s3 o l5 p nu=>∀H,Z [k] nu H->l i S m n s3 o l5 p d H) (l i S 0 0 (ao #[]) 0 Sl.nil 0 d e)))):Cr 190 #[E r] w R:=
 fC (.s .o (.s (.l aL [] []) (.d 4 (.j [0,2,3] [.b 3 [de,.str,de,de,.str,de,.sl,de,de]] .o .o)))) am
def ari(c:Int)(h:R (aj ((((decide (c>=65))&&(decide (c<=90)))||((decide (c>=97))&&(decide (c<=122))))||(c==95))) w):Cr 191 #[.int .u8 c] w R:=
 iO h
def arj(s:aK)(h:cL 217 #[] w λl d=>oc 0 d λJ k i a=>N (decide (i<(l.n:Int))) (GX l i a λc=>N (c.toList==s.toList) (R (aj L) a) (nx k λb=>J b (ar U (i+1)) a)) (R (aj aL) a)):Cr 192 #[K s] w R:=
 fC (.d 2 (.s (.s .o (.j [0,3] [.s 4 de] .o .o)) .o)) h
def ark(s:aK)(at_:Int)(h:mN (λg l=>R (O U g) l) λJ=>oc 0 w λd k i a=>N (decide ((ar U (at_+i))<(s.size:Int))) (∃c0:UInt8,(0<=(ar U (at_+i))/\(s[Int.toNat (ar U (at_+i))]?)=(aM c0))/\cB 191 #[.int .u8 (UInt8.toNat c0:Int)] a λe m=>∃c:UInt8,(0<=(ar U (at_+i))/\(s[Int.toNat (ar U (at_+i))]?)=(aM c))/\cB 218 #[.int .u8 (UInt8.toNat c:Int)] m λf b=>N ((!e)&&(!f)) (J i b) (nx k λj=>d j (ar U (i+1)) b)) (J i a)):Cr 193 #[K s,O U at_] w R:=
 fC (.d 2 (.j [] [.s 5 de] (.j [0,1] [.s 5 de] .o .o) .o)) h
def arl(n:Addr)(l:Sl)(y:oc 0 w λs H i a=>N (decide (i<(l.n:Int))) (gU a (n.add 2) λz=>sT (n.add 2) a 1 λP k3 z0 S=>sS a P k3 z0 S [O U (ar U (z+1))] λq=>∃p0,cT l i 9 p0/\CZ q (p0.add 1) λX=>cB 156 #[K X] q λt r=>∃p,cT l i 9 p/\jZ r (p.add 2) λA B Y C V D=>cB 219 #[bU A B Y C V D] r λu b=>mN (λv c=>∃j,cT l i 9 j/\gU c (j.add 0) λg=>∃k,((decide (g<1))=aL->cT l i 9 k)/\∃h,((decide (g<1))=aL->aB c (k.add 0) [O U h])/\N ((((decide (g<1))||(decide (h>3)))||(!t))||(!v)) (R (aj aL) c) (nx H λT=>s T (ar U (i+1)) c)) λJ=>∃m,cT l i 9 m/\gU b (m.add 0) λF=>N (F==2) (∃o,cT l i 9 o/\jZ b (o.add 2) λG d s2 e W f=>cB 220 #[bU G d s2 e W f] b λx w5=>J x w5) (J u b)) (R (aj L) a)):Cr 194 #[E n,l.v] w R:=
 fC (.s .o (.s (.s .o (.j [0,1] [.s 5 de] (.s .o (.s (.d 3 (.j [0,1,5,6] [.s 7 .bool] .o .o)) .o)) .o)) .o)) y
def arm(n:Addr)(a:Int)(c:aK)(e:Int)(t:Bool)(f g:Int)(h:aK)(j:Int)(l:Sl)(o:Int)(b m:Sl)(d:Int)(H:nw w λk p=>gU p (n.add 1) λP=>sT (n.add 1) p 1 λs S z0 k3=>k≠s/\sS p s S z0 k3 [O U (ar U (P+1))] λu=>mN (λz X=>lQ [k] 220 #[bU f g h j l o] X λA v=>mN (λB Y=>lQ [k] 194 #[E n,b.v] Y λC w5=>oc 0 w5 λy T i q=>N (decide (i<(m.n:Int))) (GX m i q λW=>lQ [k] 156 #[K W] q λD x=>N (!D) (R (aj aL) x) (nx T λV=>y V (ar U (i+1)) x)) (R (aj ((((((decide (a>=1))&&(decide (a<=3)))&&z)&&B)&&C)&&((e==0)||((a==3)&&(decide (e>0)))))) q)) λr=>N t (lQ [k] 219 #[bU f g h j l o] v λF w8=>r F w8) (r A v)) λJ=>N (a==1) (lQ [k] 156 #[K c] u λG w9=>J G w9) (J (c.toList==((ao #[]).toList)) u)):Cr 195 #[E n,gD a c e t f g h j l o b m d] w R:=
 fC (.d 3 (.j [0,3] [.s 5 .bool] .o (.s .o (.j [0,3,5] [.s 6 .bool] .o (.s .o (.s (.s .o (.j [3,5,6,7] [.s 8 de] .o .o)) .o)))))) H
def arn(c:Int)(E:aK)(j k:Int)(T:aK)(l:Int)(a:Sl)(b d:Int)(p:N (c==1) (nw w λg i=>∃J:aJ,J g/\(4+(E.size:Int))<=9223372036854775807/\((((ao #[115,101,116,32])++E).size:Int)+3)<=9223372036854775807/\qL [g] 197 #[bU j k T l a b] i λs m=>bR J i m/\(((((ao #[115,101,116,32])++E)++(ao #[32,61,32])).size:Int)+(s.size:Int))<=9223372036854775807/\((((((ao #[115,101,116,32])++E)++(ao #[32,61,32]))++s).size:Int)+1)<=9223372036854775807/\R (K (((((ao #[115,101,116,32])++E)++(ao #[32,61,32]))++s)++(ao #[59]))) m) (N (c==2) ((6+(E.size:Int))<=9223372036854775807/\((((ao #[114,97,105,115,101,32])++E).size:Int)+1)<=9223372036854775807/\nw w λr q=>R (K (((ao #[114,97,105,115,101,32])++E)++(ao #[59]))) q) (nw w λh n=>∃f:aJ,f h/\(5+(E.size:Int))<=9223372036854775807/\((((ao #[101,109,105,116,32])++E).size:Int)+3)<=9223372036854775807/\qL [h] 197 #[bU j k T l a b] n λe o=>bR f n o/\(((((ao #[101,109,105,116,32])++E)++(ao #[32,61,32])).size:Int)+(e.size:Int))<=9223372036854775807/\((((((ao #[101,109,105,116,32])++E)++(ao #[32,61,32]))++e).size:Int)+1)<=9223372036854775807/\R (K (((((ao #[101,109,105,116,32])++E)++(ao #[32,61,32]))++e)++(ao #[59]))) o))):Cr 196 #[lF c E j k T l a b d] w R:=
 iO p
def alH(x a:Int)(b:aK)(c:Int)(d:Sl)(e:Int)(h:nw w λk f=>UQ [k] 221 #[bU x a b c d e] f λs i g=>R (K s) g):Cr 197 #[bU x a b c d e] w R:=
 iO h
def adg(b:Addr)(h:xCQ w (b.add 0) λl=>N l.isNone (∃v:OV,∃e,((convert 212 293 (E b)).run Q w)=(.ok v.v e)/\∃d:OV,∃f,((RE 233 #[v.v]).run Q e)=(.ok d.v f)/\∃q a,((convert 293 212 d.v).run Q f)=(.ok (ae q) a)/\sT (b.add 0) a 1 λk i z j=>sS a k i z j [ae q] λn=>R (ai #[]) n) (xCQ w (b.add 0) λm=>∃c g,((binOp .neq 212 (ae m) (E b)).run Q w)=(.ok (aj c) g)/\N c (False) (R (ai #[]) g))):Cr 201 #[E b] w R:=
 iO h
def alI(s:Sl)(d:OV)(R:aG)(g:M)(q:cI 237 #[s.v,d.v] g λa h=>N (a==(-1)) (R s.v h) (GU a (ar U (a+1)) h λn t i b w=>N (decide (b<(s.n:Int))) (mN (λr B=>nx t λu=>n u r (ar U (b+1)) B) λJ=>GX s b w λf=>∃k3:Nat,∃z m,d.v=(.func (.func k3) z.toArray m.toArray)/\(∀x:Array aw,∀j,((callFunc k3 x).run Q j)=(.ok (.enter k3 x) j))/\cB k3 ((Bp (Bp z [K f]) m).toArray) w λo e=>N (!o) (∃p,cT s i 1 p/\sT p e 1 λv y D A=>sS e v y D A [K f] λC=>J (ar U (i+1)) C) (J i e)) (∃k:Nat,(i=(k:Int)/\k<=s.n/\s.n<=s.c)/\∃l,((Builtin.clear_ #[32] 0 #[(s.cut k s.n s.c 1).v]).run Q w)=(.ok (ai #[]) l)/\∃c:Nat,(i=(c:Int)/\c<=s.c)/\R ((s.cut 0 c s.c 1).v) l))):Cr 205 #[s.v,d.v] g R:=
 fB (an:=.d 3 (.s (.s .o (.j [0,1] [.s 5 (.int .i64),.s 6 (.int .i64)] (.s .o (.j [0,1,6] [.s 5 (.int .i64)] .o .o)) .o)) .o)) (args:=[.sl s,.raw d]) q
def alJ(s:aK)(h:R (aj (s.toList==((ao #[]).toList))) w):Cr 206 #[K s] w R:=
 iO h
def alK(p:Addr)(c:Int)(i:aK)(j l:Int)(T:aK)(m:Int)(a:Sl)(b n:Int)(B:nw w λk x=>rb4 32 (K (ao #[])) (K (ao #[115,101,116])) (K (ao #[114,97,105,115,101])) (K (ao #[101,109,105,116])) x λt f=>cr [k] x f/\N ((decide (c<1))||(decide (c>3))) (fO [k] 131 #[E p,aj aL] f λV=>R (K (ao #[])) V) (N (c==2) (fO [k] 210 #[E p,bU j l T m a b] f λW=>o0 W λq=>∃d:aJ,d k/\∃p0,cT t c 1 p0/\d p0.block/\CZ q p0 λF=>qL [k] 133 #[E p,K i] q λG g=>bR d q g/\MU 32 (K F) (K G) g λC h=>cr [k] g h/\bR d g h/\qL [k] 172 #[C.v] h λu y=>bR d h y/\((u.size:Int)+1)<=9223372036854775807/\R (K (u++(ao #[59]))) y) (o0 f λr=>∃J:aJ,J k/\∃o,cT t c 1 o/\J o.block/\CZ r o λH=>J k/\qL [k] 133 #[E p,K i] r λP s=>bR J r s/\qL [k] 209 #[E p,bU j l T m a b] s λS A=>bR J s A/\rb4 32 (K H) (K P) (K (ao #[61])) (K S) A λD e=>cr [k] A e/\bR J A e/\qL [k] 172 #[D.v] e λv z=>bR J e z/\((v.size:Int)+1)<=9223372036854775807/\R (K (v++(ao #[59]))) z))):Cr 208 #[E p,lF c i j l T m a b n] w R:=
 iO B
def alM(p:Addr)(x a:Int)(b:aK)(c:Int)(d:Sl)(e:Int)(h:nw w λk f=>qL [k] 239 #[bU x a b c d e] f λs g=>fO [k] 131 #[E p,aj (!(s.toList==((ao #[]).toList)))] g λi=>R (K s) i):Cr 209 #[E p,bU x a b c d e] w R:=
 iO h
def alN(p:Addr)(x a:Int)(b:aK)(c:Int)(d:Sl)(g:Int)(h:nw w λk e=>fO [k] 131 #[E p,aj (((((x==0)&&(a==0))&&(b.toList==((ao #[]).toList)))&&(c==0))&&((d.n:Int)==0))] e λf=>R (ai #[]) f):Cr 210 #[E p,bU x a b c d g] w R:=
 iO h
def alO(s:Sl)(v:Int)(h:oc 0 w λJ k i a=>N (decide (i<(s.n:Int))) (∃p0,cT s i 1 p0/\∃b,aB a p0 [.int .u8 b]/\N (v==b) (R (O U i) a) (nx k λc=>J c (ar U (i+1)) a)) (R (O U (-1)) a)):Cr 211 #[s.v,.int .u8 v] w R:=
 fC (.s .o (.s (.s .o (.j [0,1,7] [.s 8 de] .o .o)) .o)) h
def v2w(c:Int)(h:R (aj (decide ((ar .u8 (c-48))<10))) w):Cr 214 #[.int .u8 c] w R:=
 iO h
def v4w(l:Sl)(at_:Int)(v:yp w λa b W=>ol [a,b] 246 #[l.v,.func (.func 247) #[] #[]] W λx o=>N (((decide (at_<0))||(decide (at_>=(l.n:Int))))||(x !=(ar U ((l.n:Int)-1)))) (∀p,Z [b,a] o p->R (ai #[bU 0 0 (ao #[]) 0 Sl.nil 0,O U 0,vI 1 (-1)]) p) (Ei [a,b] 248 #[] o λH X=>nw X λk q=>aF q k 310 [l.v,O U at_,O U 0,O U 0,O U 0,H.v]->fK [a,b] 249 #[pB k,O U 0] q λy z V B P C r=>JB r k 310 λS D E F G T=>nw r λk3 s=>aF s k 310 [S.v,O U D,O U E,O U F,O U G,T.v]->lQ [a,b,k3] 250 #[pB k] s λu m=>JB m k 310 λf e i c d g=>N u (o0 m λt=>aF t k 310 [f.v,O U e,O U i,O U c,O U d,g.v]->a≠b->a≠k->a≠k3->b≠k->b≠k3->k≠k3->∃J:aJ,J k/\rO J a/\rO J b/\∀n,Z [b,a] t n->aF n k 310 [f.v,O U e,O U i,O U c,O U d,g.v]->R (ai #[bU 0 0 (ao #[]) 0 Sl.nil 0,O U 0,vI i c]) n) (o0 m λA=>aF A k 310 [f.v,O U e,O U i,O U c,O U d,g.v]->a≠b->a≠k->a≠k3->b≠k->b≠k3->k≠k3->∃h:aJ,h k/\rO h a/\rO h b/\∀j,Z [b,a] A j->aF j k 310 [f.v,O U e,O U i,O U c,O U d,g.v]->R (ai #[bU y z V B P C,O U e,vI 0 0]) j))):Cr 216 #[l.v,O U at_] w R:=
 iO v
def aro(h:∃l:Sl,∃a,((au 32 16 #[.mk 0 (K (ao #[97,102,116,101,114])),.mk 1 (K (ao #[97,108,119,97,121,115])),.mk 2 (K (ao #[99,104,97,114,116])),.mk 3 (K (ao #[100,101,101,112])),.mk 4 (K (ao #[101,109,105,116])),.mk 5 (K (ao #[101,110,116,101,114])),.mk 6 (K (ao #[104,105,115,116,111,114,121])),.mk 7 (K (ao #[105,110])),.mk 8 (K (ao #[105,110,105,116,105,97,108])),.mk 9 (K (ao #[108,101,97,118,101])),.mk 10 (K (ao #[111,110])),.mk 11 (K (ao #[112,97,114,97,108,108,101,108])),.mk 12 (K (ao #[114,97,105,115,101])),.mk 13 (K (ao #[115,101,116])),.mk 14 (K (ao #[115,116,97,116,101])),.mk 15 (K (ao #[118,97,114]))]).run Q w)=(.ok l.v a)/\R l.v a):Cr 217 #[] w R:=
 iO h
def arp(c:Int)(h:R (aj ((decide (c>=48))&&(decide (c<=57)))) w):Cr 218 #[.int .u8 c] w R:=
 iO h
def arq(x a:Int)(b:aK)(c:Int)(d:Sl)(e:Int)(h:nw w λk g=>UQ [k] 221 #[bU x a b c d e] g λs f i=>R (aj f) i):Cr 219 #[bU x a b c d e] w R:=
 iO h
def alP(x a:Int)(b:aK)(c:Int)(d:Sl)(f:Int)(h:nw w λk e=>R (aj (((((x==0)&&(a==0))&&(b.toList==((ao #[]).toList)))&&(c==0))&&((d.n:Int)==0))) e):Cr 220 #[bU x a b c d f] w R:=
 iO h
def arr(x b:Int)(c:aK)(d:Int)(e:Sl)(f:Int)(p:nw w λa D=>lQ [a] 251 #[bU x b c d e f] D λn i=>N (!n) (R (ai #[K (ao #[]),aj aL]) i) (nw i λk j=>aF j k 314 [Sl.nil.v]->fO [a] 252 #[pB k,bU x b c d e f] j λg=>UK g k 314 λy=>∃z:aH,uJ g y z/\sR [a] 253 #[K (ao z.toArray)] g λq r C s A t u E l=>UK l k 314 λB=>yp l λv k3 m=>aF m k 314 [B.v]->lQ [a,v,k3] 99 #[bU x b c d e f,bU q r C s A t,aj aL] m λo h=>UK h k 314 λF=>N (((decide (((ao z.toArray).size:Int)>16384))||(u !=0))||(!o)) (R (ai #[K (ao #[]),aj aL]) h) (R (ai #[K (ao z.toArray),aj L]) h))):Cr 221 #[bU x b c d e f] w R:=
 iO p
def alQ(s:Sl)(f:OV)(R:aG)(a:M)(h:oc 0 a λJ g i w=>N (decide (i<(s.n:Int))) (GX s i w λj=>∃k:Nat,∃z d,f.v=(.func (.func k) z.toArray d.toArray)/\(∀x:Array aw,∀b,((callFunc k x).run Q b)=(.ok (.enter k x) b))/\cB k ((Bp (Bp z [K j]) d).toArray) w λe c=>N e (R (O U i) c) (nx g λk3=>J k3 (ar U (i+1)) c)) (R (O U (-1)) w)):Cr 237 #[s.v,f.v] a R:=
 fB (an:=.s .o (.s (.s .o (.j [0,1,7] [.s 8 (.int .i64)] .o .o)) .o)) (args:=[.sl s,.raw f]) h
def v6w(x c:Int)(d:aK)(e:Int)(f:Sl)(g:Int)(t:nw w λa C=>lQ [a] 265 #[bU x c d e f g] C λs i=>N (!s) (R (K (ao #[])) i) (Ei [a] 248 #[] i λz D=>nw D λk j=>aF j k 329 [ae aaf,Sl.nil.v,z.v]->fO [a] 266 #[pB k,bU x c d e f g,aj aL] j λm=>O0 m k 329 λq0 S T=>qL [a] 137 #[pB k] m λA n=>O0 n k 329 λq1 V W=>sR [a] 267 #[K A] n λE F s1 G X H u J b=>O0 b k 329 λq l h=>N (u !=0) (yp b λP k3 o=>aF o k 329 [ae q,l.v,h.v]->R (K (ao #[])) o) (yp b λv y p=>aF p k 329 [ae q,l.v,h.v]->qL [a,v,y] 137 #[pB k] p λB r=>O0 r k 329 λq3 Y l9=>R (K B) r))):Cr 239 #[bU x c d e f g] w R:=
 iO t
def alR(s:Sl)(f:OV)(R:aG)(a:M)(h:oc 0 a λJ m i w=>N (decide (i<(s.n:Int))) (UL s i w λg n j l=>∃k:Nat,∃z d,f.v=(.func (.func k) z.toArray d.toArray)/\(∀x:Array aw,∀b,((callFunc k x).run Q b)=(.ok (.enter k x) b))/\cB k ((Bp (Bp z [nf g n j l]) d).toArray) w λe c=>N e (R (O U i) c) (nx m λk3=>J k3 (ar U (i+1)) c)) (R (O U (-1)) w)):Cr 246 #[s.v,f.v] a R:=
 fB (an:=.s .o (.s (.s .o (.j [0,1,7] [.s 8 (.int .i64)] .o .o)) .o)) (args:=[.sl s,.raw f]) h
def v3w(t:Int)(a:aK)(b c:Int)(R:aG)(w:M)(h:nw w λk d=>R (aj (t==5)) d):Cr 247 #[nf t a b c] w R:=
 iO h
def ars(h:∃l:Sl,∃a,((au 32 16 #[.mk 1 (K (ao #[43])),.mk 2 (K (ao #[45])),.mk 3 (K (ao #[42])),.mk 4 (K (ao #[47])),.mk 5 (K (ao #[37])),.mk 6 (K (ao #[60])),.mk 7 (K (ao #[60,61])),.mk 8 (K (ao #[62])),.mk 9 (K (ao #[62,61])),.mk 10 (K (ao #[61,61])),.mk 11 (K (ao #[33,61])),.mk 12 (K (ao #[38,38])),.mk 13 (K (ao #[124,124])),.mk 14 (K (ao #[45])),.mk 15 (K (ao #[33]))]).run Q w)=(.ok l.v a)/\R l.v a):Cr 248 #[] w R:=
 iO h
def alS(r:Addr)(k:Int)(R:aG)(q:M)(D:N (k==6) (nw q λv w0=>fK [v] 275 #[E r] w0 λF G s0 H l0 P w1=>∀B,Z [v] w1 B->R (bU F G s0 H l0 P) B) (nw q λd w3=>fK [d] 249 #[E r,O U (ar U (k+1))] w3 λS T s1 V l1 W w4=>nw w4 λe w5=>ol [d,e] 276 #[E r,O U k] w5 λX w6=>∃J:Nat->Int->Int->Int->aK->Int->Sl->Int->M->Prop,∃k3:Nat,J k3 X S T s1 V l1 W w6/\∀x n a b s c,∀p:Sl,∀i w,J x n a b s c p i w->N (n !=0) (gU w ((r.add 0).add 1) λf=>sT ((r.add 0).add 1) w 1 λo Y z0 k7=>d≠o/\e≠o/\sS w o Y z0 k7 [O U (ar U (f+1))] λw8=>fK [d,e] 249 #[E r,O U (ar U (k+1))] w8 λg h s3 j l3 l w9=>nw w9 λy A=>MU 66 (bU a b s c p i) (bU g h s3 j l3 l) A λl4 t=>cr [d,e,y] A t/\∀z,Z [e] t z->ol [d,e,y] 276 #[E r,O U k] z λm C=>nx x λk9=>J k9 m 5 0 (ao #[]) n l4 i C) (∀u,Z [d] w u->R (bU a b s c p i) u))):Cr 249 #[E r,O U k] q R:=
 fC (.d 3 (.s (.s .o (.j [0,1,4,5] [.s 6 de,.b 5 [de,de,.str,de,.sl,de]] .o .o)) .o)) D
def v7w(c:Addr)(h:gU w ((c.add 2).add 0) λi=>R (aj (i !=0)) w):Cr 250 #[E c] w R:=
 iO h
def art(x b:Int)(c:aK)(d:Int)(a:Sl)(l:Int)(r:nw w λk C=>oc 0 C λm z i f=>N (decide (i<(a.n:Int))) (j5 a i f λs t B u A v=>lQ [k] 251 #[bU s t B u A v] f λn j=>N (!n) (R (aj aL) j) (nx z λk3=>m k3 (ar U (i+1)) j)) (lQ [k] 156 #[K c] f λo g=>N (x==1) (R (aj ((((decide (b>=0))&&(c.toList==((ao #[]).toList)))&&(d==0))&&((a.n:Int)==0))) g) (mN (λp e=>N p (R (aj ((((b==0)&&o)&&(d==0))&&((a.n:Int)==0))) e) (N (x==4) (R (aj ((((b==0)&&(c.toList==((ao #[]).toList)))&&((d==14)||(d==15)))&&((a.n:Int)==1))) e) (N (x==5) (mN (λq D=>R (aj q) D) λh=>N ((b==0)&&(c.toList==((ao #[]).toList))) (ol [k] 277 #[bU x b c d a l] e λy E=>h ((decide (y<6))&&((a.n:Int)==2)) E) (h aL e)) (R (aj aL) e)))) λJ=>N (x==2) (J (x==2) g) (J (x==3) g)))):Cr 251 #[bU x b c d a l] w R:=
 fC (.s .o (.s (.s .o (.j [1] [.s 3 de] .o .o)) (.d 2 (.s (.d 3 (.j [1,5,6,29] [.s 49 .bool] .o (.d 4 (.s (.s (.j [1] [.s 2 .bool] .o .o) .o) .o)))) .o)))) r
def aru(p:Addr)(x T:Int)(c:aK)(j:Int)(b:Sl)(x5:Int)(am:nw w λk a=>jy a (p.add 0) λl0=>N (decide ((l0.n:Int)>16384)) (R (ai #[]) a) (N (x==1) (qL [k] 114 #[O U T] a λs0 w1=>fO [k] 278 #[E p,K s0] w1 λw2=>R (ai #[]) w2) (N (x==2) (fO [k] 278 #[E p,K c] a λw3=>R (ai #[]) w3) (N (x==3) ((3+(c.size:Int))<=9223372036854775807/\((((ao #[105,110,40])++c).size:Int)+1)<=9223372036854775807/\fO [k] 278 #[E p,K (((ao #[105,110,40])++c)++(ao #[41]))] a λw4=>R (ai #[]) w4) (N (x==4) (A3 (λw5=>∃p0,cT b 0 6 p0/\o0 w5 λS=>jZ S p0 λi0 i1 s1 i2 l1 i3=>∃p1,cT b 0 6 p1/\gU S (p1.add 0) λi4=>fO [k] 279 #[E p,bU i0 i1 s1 i2 l1 i3,aj (i4==5)] S λw7=>R (ai #[]) w7) λW=>N (j==14) (fO [k] 278 #[E p,K (ao #[45])] a λw8=>W w8) (fO [k] 278 #[E p,K (ao #[33])] a λw9=>W w9)) (N (x==5) (ol [k] 277 #[bU x T c j b x5] a λf dA=>Ei [k] 280 #[] dA λl2 Y=>xYL l2 f Y λl3=>o0 Y λe=>∃J:aJ,J k/\∃G,cT b 0 6 G/\J G.block/\jZ e G λi6 i7 s2 i8 l4 i9=>j5 b 0 e λm n s3 o l5 q=>ol [k] 277 #[bU m n s3 o l5 q] e λr l=>bR J e l/\fO [k] 279 #[E p,bU i6 i7 s2 i8 l4 i9,aj (decide (r<f))] l λfU=>bR J l fU/\oc 0 fU λJ2 k2 i g=>N (decide (i<(l3.n:Int))) (A3 (λiQ=>nx k2 λk3=>J2 k3 (ar U (i+1)) iQ) λX=>Ix l3 i g λs=>N (s==j) (o0 g λim=>Ei [k] 281 #[] im λl6 F=>xYL l6 f F λl7=>GX l7 i F λP=>(1+(P.size:Int))<=9223372036854775807/\((((ao #[32])++P).size:Int)+1)<=9223372036854775807/\fO [k] 278 #[E p,K (((ao #[32])++P)++(ao #[32]))] F λkf=>X kf) (o0 g λiU=>X iU)) (o0 g λh=>∃d:aJ,d k/\∃H,cT b 1 6 H/\d H.block/\jZ h H λt u s5 v l8 y=>j5 b 1 h λz A s6 B l9 C=>ol [k] 277 #[bU z A s6 B l9 C] h λD V=>bR d h V/\fO [k] 279 #[E p,bU t u s5 v l8 y,aj (decide (D<=f))] V λpo=>bR d V po/\R (ai #[]) po)) (R (ai #[]) a))))))):Cr 252 #[E p,bU x T c j b x5] w R:=
 fC (.d 10 (.s (.j [0,3] [] .o .o) (.s .o (.s (.d 3 (.s (.s .o (.j [0,3,4,5] [.s 6 de] (.s .o (.j [0,3,4,5,6] [] .o .o)) .o)) .o)) .o)))) am
def arv(s:aK)(x:yp w λk a P=>Ah [k,a] 282 #[K s] P λl n y r=>N (n !=0) (nw r λh S=>k≠a->k≠h->a≠h->∃J:aJ,J h/\rO J k/\rO J a/\∀t,Z [a,k] S t->R (ai #[bU 0 0 (ao #[]) 0 Sl.nil 0,vI n y]) t) (nw r λk3 T=>nL [k,a,k3] 283 #[l.v,O U 0] T λz B H C G D o q E e=>N (q !=0) (∀b j,e.heap.size<=b->b<j.heap.size->Z [k3] e j->k≠a->k≠k3->k≠b->a≠k3->a≠b->k3≠b->∃f:aJ,f k3/\rO f k/\rO f a/\∀u,Z [a,k] j u->R (ai #[bU 0 0 (ao #[]) 0 Sl.nil 0,vI q E]) u) (∃p0,cT l o 4 p0/\∀c d,e.heap.size<=c->c<d.heap.size->Z [k3] e d->gU d (p0.add 0) λF=>N (F !=5) (o0 d λv=>k≠a->k≠k3->k≠c->a≠k3->a≠c->k3≠c->∃g:aJ,∃p,cT l o 4 p/\g ((p.add 3).block)/\gU v (p.add 3) λi=>rO g k/\rO g a/\∀A,Z [a,k] v A->R (ai #[bU 0 0 (ao #[]) 0 Sl.nil 0,vI 4 i]) A) (∀m,Z [a,k] d m->R (ai #[bU z B H C G D,vI 0 0]) m)))):Cr 253 #[K s] w R:=
 iO x
def arw(x d:Int)(e:aK)(c:Int)(i:Sl)(a:Int)(D:yp w λf k g=>∃J:Int->Int->Int->aK->Int->Sl->Int->M->Prop,(∀n E o s p,∀H:Sl,∀F h,J n E o s p H F h->mN (λy P=>R (aj y) P) λj=>N ((((d==o)&&(e.toList==s.toList))&&(c==p))&&((i.n:Int)==n)) (lQ [f,k] 290 #[i.v,.func (.func 291) #[] #[]] h λz S=>j (!z) S) (j aL h))/\N (x==1) (∀q,Z [k] g q->J 0 x (if 0>d then 0 else d) (ao #[]) 0 Sl.nil a q) (mN (λB b=>N B (lQ [f,k] 173 #[K e] b λC r=>N (!C) (R (aj aL) r) (∀t,Z [k] r t->J 0 x 0 e 0 Sl.nil a t)) (N (x==4) (N (c==15) (∀u,Z [k] b u->J 1 x 0 (ao #[]) 15 Sl.nil a u) (∀v,Z [k] b v->J 1 x 0 (ao #[]) 14 Sl.nil a v)) (N (x==5) (ol [f,k] 289 #[O U c] b λG A=>N (G==6) (R (aj aL) A) (∀m,Z [k] A m->J 2 x 0 (ao #[]) c Sl.nil a m)) (R (aj aL) b)))) λl=>N (x==2) (l (x==2) g) (l (x==3) g))):Cr 265 #[bU x d e c i a] w R:=
 fC (.d 3 (.j [1,3] [.s 4 de,.b 3 [de,de,.str,de,.sl,de]] (.d 3 (.j [1,3,4,11] [.s 18 .bool] .o .o)) (.s (.j [1,3] [.s 2 .bool] .o .o) .o))) D
def arx(p:Addr)(x j:Int)(b:aK)(c:Int)(a:Sl)(x5:Int)(wrapped:Bool)(R:aG)(Cc:M)(CC:nw Cc λk w0=>ol [k] 179 #[E (p.add 0)] w0 λi0 f=>N (decide (i0>16384)) (R (ai #[]) f) (N wrapped (rVs [k] 292 #[E (p.add 0),.int .u8 40] f λv0 n=>N (x==1) (o0 n λw3=>qL [k] 134 #[O U j] w3 λs0 w4=>rP [k] 170 #[E (p.add 0),K s0] w4 λi1 v1 w5=>mQ Q 292 #[E (p.add 0),.int .u8 41] w5 (λx0 w6=>R (ai #[]) w6)) (N (x==2) (o0 n λw7=>rP [k] 170 #[E (p.add 0),K b] w7 λi2 v2 w8=>mQ Q 292 #[E (p.add 0),.int .u8 41] w8 (λj w9=>R (ai #[]) w9)) (N (x==3) ((3+(b.size:Int))<=9223372036854775807/\((((ao #[105,110,40])++b).size:Int)+1)<=9223372036854775807/\o0 n λdA=>rP [k] 170 #[E (p.add 0),K (((ao #[105,110,40])++b)++(ao #[41]))] dA λi3 v3 dL=>mQ Q 292 #[E (p.add 0),.int .u8 41] dL (λb ez=>R (ai #[]) ez)) (N (x==4) (o0 n λF=>jy F (p.add 2) λl0=>GX l0 c F λs1=>rP [k] 170 #[E (p.add 0),K s1] F λi4 v4 fU=>o0 fU λC=>∃J:aJ,J k/\∃p1,cT a 0 6 p1/\J p1.block/\jZ C p1 λi5 i6 s2 i7 l1 i8=>j5 a 0 C λi9 G s3 H l2 S=>ol [k] 293 #[bU i9 G s3 H l2 S] C λV iQ=>bR J C iQ/\fO [k] 266 #[E p,bU i5 i6 s2 i7 l1 i8,aj (decide (V<6))] iQ λim=>bR J iQ im/\mQ Q 292 #[E (p.add 0),.int .u8 41] im (λc iR=>R (ai #[]) iR)) (ol [k] 293 #[bU x j b c a x5] n λl kf=>o0 kf λA=>∃r:aJ,r k/\∃p3,cT a 0 6 p3/\r p3.block/\jZ A p3 λW X s4 Y l3 am=>j5 a 0 A λaC aS s5 aT l4 bV=>ol [k] 293 #[bU aC aS s5 aT l4 bV] A λbY kZ=>bR r A kZ/\fO [k] 266 #[E p,bU W X s4 Y l3 am,aj (decide (bY<l))] kZ λmV=>bR r kZ mV/\o0 mV λpo=>jy po (p.add 2) λl5=>GX l5 c po λs6=>(1+(s6.size:Int))<=9223372036854775807/\((((ao #[32])++s6).size:Int)+1)<=9223372036854775807/\rP [k] 170 #[E (p.add 0),K (((ao #[32])++s6)++(ao #[32]))] po λDo v5 ra=>o0 ra λB=>∃s:aJ,s k/\∃p6,cT a 1 6 p6/\s p6.block/\jZ B p6 λcc co s7 cC l6 dO=>j5 a 1 B λeQ fd s8 f7 l7 f8=>ol [k] 293 #[bU eQ fd s8 f7 l7 f8] B λgE pK=>bR s B pK/\fO [k] 266 #[E p,bU cc co s7 cC l6 dO,aj (decide (gE<=l))] pK λsf=>bR s pK sf/\mQ Q 292 #[E (p.add 0),.int .u8 41] sf (λa vh=>R (ai #[]) vh)))))) (N (x==1) (o0 f λzL=>qL [k] 134 #[O U j] zL λs9 Im=>rP [k] 170 #[E (p.add 0),K s9] Im λDO v6 Lz=>R (ai #[]) Lz) (N (x==2) (o0 f λXC=>rP [k] 170 #[E (p.add 0),K b] XC λEQ v7 Zd=>R (ai #[]) Zd) (N (x==3) ((3+(b.size:Int))<=9223372036854775807/\((((ao #[105,110,40])++b).size:Int)+1)<=9223372036854775807/\o0 f λBy=>rP [k] 170 #[E (p.add 0),K (((ao #[105,110,40])++b)++(ao #[41]))] By λFd v8 TG=>R (ai #[]) TG) (N (x==4) (o0 f λg=>jy g (p.add 2) λl8=>GX l8 c g λEO=>rP [k] 170 #[E (p.add 0),K EO] g λFn v9 BV=>o0 BV λz=>∃t:aJ,t k/\∃p9,cT a 0 6 p9/\t p9.block/\jZ z p9 λgG gO D5 gT l9 ip=>j5 a 0 z λiD iF F3 iN AT iS=>ol [k] 293 #[bU iD iF F3 iN AT iS] z λlE D=>bR t z D/\fO [k] 266 #[E p,bU gG gO D5 gT l9 ip,aj (decide (lE<6))] D λo=>bR t D o/\R (ai #[]) o) (ol [k] 293 #[bU x j b c a x5] f λm BY=>o0 BY λw=>∃u:aJ,u k/\∃d,cT a 0 6 d/\u d.block/\jZ w d λlT mt N2 mK rZ nO=>j5 a 0 w λoF oN IP oR tL pi=>ol [k] 293 #[bU oF oN IP oR tL pi] w λpm h=>bR u w h/\fO [k] 266 #[E p,bU lT mt N2 mK rZ nO,aj (decide (pm<m))] h λq=>bR u h q/\o0 q λi=>jy i (p.add 2) λzK=>GX zK c i λP=>(1+(P.size:Int))<=9223372036854775807/\((((ao #[32])++P).size:Int)+1)<=9223372036854775807/\rP [k] 170 #[E (p.add 0),K (((ao #[32])++P)++(ao #[32]))] i λFS Ge F2=>o0 F2 λy=>∃v:aJ,v k/\∃e,cT a 1 6 e/\v e.block/\jZ y e λpP rx Q6 tO BA ut=>j5 a 1 y λuP wd Bv As EM AC=>ol [k] 293 #[bU uP wd Bv As EM AC] y λAS T=>bR v y T/\fO [k] 266 #[E p,bU pP rx Q6 tO BA ut,aj (decide (AS<=m))] T λZf=>bR v T Zf/\R (ai #[]) Zf))))))):Cr 266 #[E p,bU x j b c a x5,aj wrapped] Cc R:=
 iO CC
def v5w(s:aK)(B:yp w λk a T=>Ah [k,a] 70 #[K s] T λm p C t=>N (p !=0) (nw t λl V=>k≠a->k≠l->a≠l->∃J:aJ,J l/\rO J k/\rO J a/\∀u,Z [a,k] V u->R (ai #[bU 0 0 (ao #[]) 0 Sl.nil 0,vI p C]) u) (nw t λk3 W=>nL [k,a,k3] 216 #[m.v,O U 0] W λD E S F P G q e H v=>∀b c,v.heap.size<=b->b<c.heap.size->Z [k3] v c->jn2 (λj i x=>N (j !=0) (o0 x λX=>k≠a->k≠k3->k≠b->a≠k3->a≠b->k3≠b->∃f:aJ,f k3/\rO f k/\rO f a/\∀y,Z [a,k] X y->R (ai #[bU 0 0 (ao #[]) 0 Sl.nil 0,vI j i]) y) (o0 x λA=>k≠a->k≠k3->k≠b->a≠k3->a≠b->k3≠b->∃g:aJ,g k3/\rO g k/\rO g a/\∀o,Z [a,k] A o->R (ai #[bU D E S F P G,vI j i]) o)) λn=>∃p0,((e==0)=L->cT m q 4 p0)/\∃d,((e==0)=L->aB c (p0.add 0) [O U d])/\N ((e==0)&&(d !=5)) (∃r,cT m q 4 r/\gU c (r.add 3) λh=>∀z,Z [k3] c z->n 4 h z) (n e H c))):Cr 267 #[K s] w R:=
 fC (.d 4 (.j [2,3,5,6] [.b 5 [de,de]] .o .o)) B
def ary(r:Addr)(R:aG)(am:M)(aC:yp am λa k w0=>vG [a,k] 297 #[E (r.add 0)] w0 λp G i1 c w1=>yp w1 λb k3 w2=>∃J:Option Addr->Int->Int->aK->Int->Sl->Int->Int->Int->aK->Int->Sl->Int->M->Prop,(∀F i3 i4 s1 i5,∀l0:Sl,∀i6 i7 i8 s2 i9,∀l1:Sl,∀d w,J F i3 i4 s1 i5 l0 i6 i7 i8 s2 i9 l1 d w->∃p0,F=(aM p0)/\gU w ((p0.add 0).add 1) λq=>∃p1,F=(aM p1)/\sT ((p1.add 0).add 1) w 1 λj k5 z0 k6=>a≠j/\k≠j/\b≠j/\k3≠j/\sS w j k5 z0 k6 [O U (ar U (q+1))] λw4=>∀w5,Z [k] w4 w5->R (bU i7 i8 s2 i9 l1 d) w5)/\lQ [a,k,b,k3] 250 #[E (r.add 0)] w2 λb0 H=>N b0 (∀w7,Z [k] H w7->R (bU 0 0 (ao #[]) 0 Sl.nil c) w7) (MU 32 (K (ao #[45])) (K (ao #[33])) H λl2 w8=>cr [a,k,b,k3] H w8/\lQ [a,k,b,k3] 298 #[E (r.add 0),l2.v] w8 λb1 P=>N b1 (∀A,Z [k3] P A->∃m:Int->Int->aK->Int->Sl->Int->M->Prop,(∀e f s3 g,∀l3:Sl,∀h T,m e f s3 g l3 h T->fK [a,k,b,k3] 299 #[E r,.func (.func 275) #[E r] #[]] T λs t s4 u l4 v V=>li 66 (bU s t s4 u l4 v) V λl5 X=>cr [a,k,b,k3] V X/\∀W,Z [k,k3] X W->R (bU e f s3 g l5 h) W)/\N (G.toList==((ao #[33]).toList)) (∀Y,Z [k3] A Y->m 4 0 (ao #[]) 15 Sl.nil c Y) (m 4 0 (ao #[]) 14 Sl.nil c A)) (li 32 (K (ao #[40])) P λl6 iQ=>cr [a,k,b,k3] P iQ/\lQ [a,k,b,k3] 298 #[E (r.add 0),l6.v] iQ λb2 i=>N b2 (aF i a 306 [E r]->k≠a->b≠a->k3≠a->fK [k,b,k3] 299 #[E r,.func (.func 300) #[] #[pB a]] i λx y s5 z l7 B iR=>xKQ iR a 306 λq1=>∀D,Z [k] iR D->aF D a 306 [ae q1]->R (bU x y s5 z l7 B) D) (N (p==3) (o0 i λiU=>a≠k->a≠b->a≠k3->k≠b->k≠k3->b≠k3->∃n:aJ,n b/\rO n k3/\rO n k3/\∀kZ,Z [k3] iU kZ->J (aM r) 0 0 (ao #[]) 0 Sl.nil 0 1 i1 (ao #[]) 0 Sl.nil c kZ) (N (p==1) (o0 i λmV=>a≠k->a≠b->a≠k3->k≠b->k≠k3->b≠k3->∃o:aJ,o b/\rO o k3/\rO o k3/\∀po,Z [k3] mV po->J (aM r) 0 0 (ao #[]) 0 Sl.nil 0 2 0 G 0 Sl.nil c po) (N ((p==2)&&(G.toList==((ao #[105,110]).toList))) (gU i ((r.add 0).add 1) λC=>sT ((r.add 0).add 1) i 1 λl k8 z1 k9=>a≠l/\k≠l/\b≠l/\k3≠l/\sS i l k8 z1 k9 [O U (ar U (C+1))] λra=>fO [a,k,b,k3] 301 #[E (r.add 0),K (ao #[40])] ra λnu=>qL [a,k,b,k3] 302 #[E r] nu λs6 pK=>∀sf,Z [k3] pK sf->fO [a,k,b,k3] 301 #[E (r.add 0),K (ao #[41])] sf λvh=>∀zL,Z [k] vh zL->R (bU 3 0 s6 0 Sl.nil c) zL) (fO [a,k,b,k3] 303 #[E (r.add 0)] i λIm=>∀S,Z [k] Im S->R (bU 0 0 (ao #[]) 0 Sl.nil c) S))))))):Cr 275 #[E r] am R:=
 fC (.d 3 (.j [1,2,3,4] [.b 1 [.ptr],.b 2 [de,de,.str,de,.sl,de],.b 4 [de,de,.str,de,.sl,de]] (.d 3 (.s (.s .o (.j [1,2,3,4] [.b 4 [de,de,.str,de,.sl,de]] .o .o)) .o)) .o)) aC
def arz(r:Addr)(k:Int)(h:oc 1 w λd j i b=>N (decide (i<=13)) (mN (λe c=>N e (R (O U i) c) (nx j λl=>d l (ar U (i+1)) c)) λJ=>o0 b λo=>cI 289 #[O U i] o λg a=>N (g==k) (jy a (r.add 5) λm=>GX m i a λs=>li 32 (K s) a λn p=>cB 298 #[E (r.add 0),n.v] p λf q=>J f q) (J aL a)) (R (O U 0) b)):Cr 276 #[E r,O U k] w R:=
 fC (.s .o (.s (.s .o (.j [0,1] [.s 5 de] (.s .o (.s (.s (.j [0,1,5] [.s 27 .bool] .o .o) .o) .o)) .o)) .o)) h
def arA(x u:Int)(v:aK)(d:Int)(y:Sl)(z:Int)(h:nw w λk q=>Ei [k] 280 #[] q λl r=>oc 0 r λJ g i c=>N ((decide (i<6))&&(x==5)) (oc 0 c λe j b a=>xYL l i a λo=>N (decide (b<(o.n:Int))) (xYL l i a λp=>Ix p b a λf=>N (f==d) (o0 a λs=>R (O U i) s) (o0 a λt=>nx j λm=>e m (ar U (b+1)) t)) (nx g λn=>J n (ar U (i+1)) a)) (R (O U 6) c)):Cr 277 #[bU x u v d y z] w R:=
 fC (.d 2 (.s (.s .o (.j [1,3] [.s 4 de] (.s .o (.s (.s .o (.j [1,3,4] [.s 5 de] .o .o)) .o)) .o)) .o)) h
def arB(p:Addr)(s:aK)(h:jy w (p.add 0) λd=>N (decide ((d.n:Int)<=16384)) (jy w (p.add 0) λe=>∃l:Sl,∃a,((Builtin.append_ #[197,9] 197 #[e.v,K s]).run Q w)=(.ok l.v a)/\sT (p.add 0) a 1 λk b z c=>sS a k b z c [l.v] λf=>R (ai #[]) f) (R (ai #[]) w)):Cr 278 #[E p,K s] w R:=
 iO h
def arC(p:Addr)(x c:Int)(d:aK)(e:Int)(f:Sl)(g:Int)(i:Bool)(h:nw w λk a=>A3 (λj=>fO [k] 252 #[E p,bU x c d e f g] j λb=>N i (fO [k] 278 #[E p,K (ao #[41])] b λl=>R (ai #[]) l) (R (ai #[]) b)) λJ=>N i (fO [k] 278 #[E p,K (ao #[40])] a λm=>J m) (J a)):Cr 279 #[E p,bU x c d e f g,aj i] w R:=
 fC (.s .o (.j [0,2,4] [] .o .o)) h
def arD(h:∃l:Sl,∃a,((au 33 1 #[.mk 0 (O U 13)]).run Q w)=(.ok l.v a)/\li 33 (O U 12) a λb i=>MU 33 (O U 10) (O U 11) i λc j=>rb4 33 (O U 6) (O U 7) (O U 8) (O U 9) j λd k=>MU 33 (O U 1) (O U 2) k λe m=>rb3 33 (O U 3) (O U 4) (O U 5) m λf n=>Tj (au 341 6 #[.mk 0 l.v,.mk 1 b.v,.mk 2 c.v,.mk 3 d.v,.mk 4 e.v,.mk 5 f.v]) n λg o=>R g.v o):Cr 280 #[] w R:=
 iO h
def arE(h:∃l:Sl,∃a,((au 32 1 #[.mk 0 (K (ao #[124,124]))]).run Q w)=(.ok l.v a)/\li 32 (K (ao #[38,38])) a λb i=>MU 32 (K (ao #[61,61])) (K (ao #[33,61])) i λc j=>rb4 32 (K (ao #[60])) (K (ao #[60,61])) (K (ao #[62])) (K (ao #[62,61])) j λd k=>MU 32 (K (ao #[43])) (K (ao #[45])) k λe m=>rb3 32 (K (ao #[42])) (K (ao #[47])) (K (ao #[37])) m λf n=>Tj (au 343 6 #[.mk 0 l.v,.mk 1 b.v,.mk 2 c.v,.mk 3 d.v,.mk 4 e.v,.mk 5 f.v]) n λg o=>R g.v o):Cr 281 #[] w R:=
 iO h
def arF(s:aK)(q:N (decide ((s.size:Int)>16384)) (nw w λV H=>R (ai #[Sl.nil.v,vI 2 (-1)]) H) (nw w λk P=>ol [k] 304 #[K s,O U 0] P λr S=>∃J:Nat->Sl->Int->Int->Int->M->Prop,∃A:Nat,J A Sl.nil r 0 0 S/\∀k3,∀l:Sl,∀i h j a,J k3 l i h j a->N (decide (i<(s.size:Int))) (GZ [k] 305 #[K s,O U i] a λt G u v x m c=>N (m !=0) (∀n e,c.heap.size<=n->n<e.heap.size->Z [k] c e->R (ai #[Sl.nil.v,vI m i]) e) (nw c λb o=>li 142 (nf t G u v) o λC f=>cr [k,b] o f/\qg 142 l C f λD p=>cr [k,b] f p/\ol [k,b] 304 #[K s,O U (ar U (i+x))] p λy T=>nx k3 λB=>J B D y h j T)) (li 142 (nf 5 (ao #[]) 0 (s.size:Int)) a λE d=>cr [k] a d/\qg 142 l E d λF g=>cr [k] d g/\∀z,Z [k] g z->R (ai #[F.v,vI 0 0]) z))):Cr 282 #[K s] w R:=
 fC (.d 4 (.s (.j [0,3] [.s 4 .sl,.s 5 de,.b 3 [de,de]] .o .o) .o)) q
def arG(l:Sl)(at_:Int)(R:aG)(p:M)(H:N ((decide (at_<0))||(decide (at_>=(l.n:Int)))) (yp p λk0 k1 w0=>R (ai #[bU 0 0 (ao #[]) 0 Sl.nil 0,O U 0,vI 1 (-1)]) w0) (yp p λa k3 w1=>∃J:Nat->Int->Int->Int->aK->Int->Sl->Int->Int->Int->M->Prop,∃V:Nat,J V 0 0 0 (ao #[]) 0 Sl.nil 0 0 0 w1/\∀A e t u C v,∀B:Sl,∀x y z w,J A e t u C v B x y z w->N (decide (e<(l.n:Int))) (∃p0,cT l e 4 p0/\gU w (p0.add 0) λP=>N (!((P==5)==(e==(ar U ((l.n:Int)-1))))) (∀D,Z [k3,a] w D->R (ai #[bU 0 0 (ao #[]) 0 Sl.nil 0,O U 0,vI 1 (-1)]) D) (nx A λW=>J W (ar U (e+1)) t u C v B x y z w)) (nw w λk E=>aF E k 363 [l.v,O U at_,O U 0,O U 0,O U 0]->fK [a,k3] 306 #[pB k,O U 0] E λS T Y j X m q=>aac q k 363 λf b d i c=>N (i !=0) (nw q λn F=>aF F k 363 [f.v,O U b,O U d,O U i,O U c]->a≠k3->a≠k->a≠n->k3≠k->k3≠n->k≠n->∃g:aJ,g k/\rO g a/\rO g k3/\∀r,Z [k3,a] F r->aF r k 363 [f.v,O U b,O U d,O U i,O U c]->R (ai #[bU 0 0 (ao #[]) 0 Sl.nil 0,O U 0,vI i c]) r) (nw q λo G=>aF G k 363 [f.v,O U b,O U d,O U i,O U c]->a≠k3->a≠k->a≠o->k3≠k->k3≠o->k≠o->∃h:aJ,h k/\rO h a/\rO h k3/\∀s,Z [k3,a] G s->aF s k 363 [f.v,O U b,O U d,O U i,O U c]->R (ai #[bU S T Y j X m,O U b,vI 0 0]) s)))):Cr 283 #[l.v,O U at_] p R:=
 fC (.d 2 (.s (.s .o (.j [0,1,4,6] [.s 7 de,.b 4 [de,de,.str,de,.sl,de],.b 6 [de,de]] .o .o)) .o)) H
def arH(op:Int)(h:N ((decide (op>=3))&&(decide (op<=5))) (R (O U 5) w) (mN (λd a=>N d (R (O U 4) a) (N ((decide (op>=6))&&(decide (op<=9))) (R (O U 3) a) (mN (λe b=>N e (R (O U 2) b) (N (op==12) (R (O U 1) b) (N (op==13) (R (O U 0) b) (R (O U 6) b)))) λc=>N (op==10) (c (op==10) a) (c (op==11) a)))) λJ=>N (op==1) (J (op==1) w) (J (op==2) w))):Cr 289 #[O U op] w R:=
 fC (.s .o (.s (.d 2 (.j [0] [.s 10 .bool] .o (.d 3 (.j [0] [.s 22 .bool] .o .o)))) .o)) h
def alT(s:Sl)(f:OV)(R:aG)(w:M)(h:cI 308 #[s.v,f.v] w λi a=>R (aj (decide (i>=0))) a):Cr 290 #[s.v,f.v] w R:=
 fB (an:=.o) (args:=[.sl s,.raw f]) h
def arI(s a:Int)(b:aK)(c:Int)(d:Sl)(e:Int)(h:nw w λk g=>lQ [k] 265 #[bU s a b c d e] g λf i=>R (aj (!f)) i):Cr 291 #[bU s a b c d e] w R:=
 iO h
def O4(b:Addr)(c:Int)(R:aG)(h:M):Prop:=
 cU 201 #[E b] h λw=>jy w (b.add 1) λl=>li 197 (.int .u8 c) w λf i=>qg 197 l f i λg a=>sT (b.add 1) a 1 λk d z e=>sS a k d z e [g.v] λj=>R .nilIface j
def alU(b:Addr)(c:Int)(R:aG)(w:M)(h:O4 b c R w):Cr 292 #[E b,.int .u8 c] w R:=
 iO h
def pw(b:Addr)(c:Int)(R:aG)(w:M)(h:O4 b c R w):mQ Q 292 #[E b,.int .u8 c] w R:=
 ajZ (an:=.o) (args:=[.ad b,.int .u8 c]) Tryz.checked.mixed aaz aaz h
def arJ(x e:Int)(f:aK)(a:Int)(g:Sl)(j:Int)(h:N (x !=5) (nw w λl b=>R (O U 6) b) (nw w λk c=>ol [k] 289 #[O U a] c λi d=>R (O U i) d)):Cr 293 #[bU x e f a g j] w R:=
 iO h
def arK(c:Addr)(h:nw w λk a=>jy a (c.add 0) λl=>gU a (c.add 1) λi=>UL l i a λd s e f=>∀b,Z [k] a b->R (nf d s e f) b):Cr 297 #[E c] w R:=
 iO h
def v8w(c:Addr)(a:Sl)(h:yN 297 #[E c] w λi s n o g=>nw g λk j=>mN (λd l=>R (aj d) l) λJ=>lQ [k] 250 #[E c] j λe b=>N ((!e)&&(i==4)) (lQ [k] 184 #[a.v,K s] b λf m=>J f m) (J aL b)):Cr 298 #[E c,a.v] w R:=
 fC (.d 2 (.s (.j [5] [.s 4 .bool] .o .o) .o)) h
def arL(r:Addr)(read:OV)(R:aG)(g:M)(m:nw g λk w=>gU w (r.add 4) λn=>N (n==20) (fO [k] 309 #[E (r.add 0),O U 21] w λJ=>∀h,Z [k] J h->R (bU 0 0 (ao #[]) 0 Sl.nil 0) h) (gU w ((r.add 0).add 1) λo=>sT ((r.add 0).add 1) w 1 λe y V k3=>k≠e/\sS w e y V k3 [O U (ar U (o+1))] λc=>gU c (r.add 4) λp=>sT (r.add 4) c 1 λf A W B=>k≠f/\sS c f A W B [O U (ar U (p+1))] λP=>∃a:Nat,∃z l,read.v=(.func (.func a) z.toArray l.toArray)/\(∀x:Array aw,∀i,((callFunc a x).run Q i)=(.ok (.enter a x) i))/\fK [k] a ((Bp (Bp z []) l).toArray) P λq s H t F u S=>nw S λC d=>gU d (r.add 4) λv=>sT (r.add 4) d 1 λb D X G=>k≠b/\C≠b/\sS d b D X G [O U (ar U (v-1))] λT=>∀j,Z [k] T j->R (bU q s H t F u) j)):Cr 299 #[E r,read.v] g R:=
 fB (an:=.o) (args:=[.ad r,.raw read]) m
def arM(p:Addr)(R:aG)(w:M)(h:nw w λk a=>xCQ a p λq=>fK [k] 249 #[ae q,O U 0] a λi d s e l f m=>nw m λg b=>xCQ b p λj=>∃p0,j=(aM p0)/\fO [k,g] 301 #[E (p0.add 0),K (ao #[41])] b λn=>∀c,Z [k] n c->R (bU i d s e l f) c):Cr 300 #[E p] w R:=
 iO h
def v9w(c:Addr)(sign:aK)(h:∃l:Sl,∃b,((au 32 1 #[.mk 0 (K sign)]).run Q w)=(.ok l.v b)/\cB 298 #[E c,l.v] b λd a=>N (!d) (cU 303 #[E c] a λg=>R (ai #[]) g) (gU a (c.add 1) λi=>sT (c.add 1) a 1 λk e z f=>sS a k e z f [O U (ar U (i+1))] λj=>R (ai #[]) j)):Cr 301 #[E c,K sign] w R:=
 iO h
def arN(r:Addr)(R:aG)(b:M)(h:yN 297 #[E (r.add 0)] b λi s m n f=>nw f λk g=>lQ [k] 250 #[E (r.add 0)] g λc w=>N (c||(i !=1)) (fO [k] 303 #[E (r.add 0)] w λj=>R (K (ao #[])) j) (gU w ((r.add 0).add 1) λd=>sT ((r.add 0).add 1) w 1 λa e z k3=>k≠a/\sS w a e z k3 [O U (ar U (d+1))] λl=>R (K s) l)):Cr 302 #[E r] b R:=
 iO h
def arO(c:Addr)(h:A3 (λb=>cU 309 #[E c,O U 4] b λd=>R (ai #[]) d) λJ=>yN 297 #[E c] w λi s f g a=>N (i==5) (cU 309 #[E c,O U 3] a λe=>J e) (J a)):Cr 303 #[E c] w R:=
 fC (.j [0] [] .o .o) h
def arP(s:aK)(at_:Int)(h:mN (λj p=>R (O U j) p) λJ=>oc at_ w λc k i b=>N (decide (i<(s.size:Int))) (∃c0:UInt8,(0<=i/\(s[Int.toNat i]?)=(aM c0))/\∃d:UInt8,((((UInt8.toNat c0:Int)==47)&&(decide ((ar U (i+1))<(s.size:Int))))=L->0<=(ar U (i+1))/\(s[Int.toNat (ar U (i+1))]?)=(aM d))/\N ((((UInt8.toNat c0:Int)==47)&&(decide ((ar U (i+1))<(s.size:Int))))&&((UInt8.toNat d:Int)==47)) (oc i b λg l a f=>∃e:UInt8,((decide (a<(s.size:Int)))=L->0<=a/\(s[Int.toNat a]?)=(aM e))/\N ((decide (a<(s.size:Int)))&&((UInt8.toNat e:Int) !=10)) (nx l λm=>g m (ar U (a+1)) f) (nx k λn=>c n a f)) (N (((((UInt8.toNat c0:Int)==9)||((UInt8.toNat c0:Int)==10))||((UInt8.toNat c0:Int)==13))||((UInt8.toNat c0:Int)==32)) (nx k λo=>c o (ar U (i+1)) b) (J i b))) (J i b)):Cr 304 #[K s,O U at_] w R:=
 fC (.s .o (.j [] [.s 1 de] (.j [0] [.s 1 de] (.d 3 (.s (.j [0] [.s 1 de] .o .o) .o)) .o) .o)) h
def arQ(s:aK)(at_:Int)(R:aG)(x:M)(P:∃c0:UInt8,(0<=at_/\(s[Int.toNat at_]?)=(aM c0))/\nw x λk V=>lQ [k] 191 #[.int .u8 (UInt8.toNat c0:Int)] V λF W=>∃g:UInt8,(0<=at_/\(s[Int.toNat at_]?)=(aM g))/\lQ [k] 218 #[.int .u8 (UInt8.toNat g:Int)] W λG w=>N F (ol [k] 193 #[K s,O U at_] w λi X=>∃k3 a:Nat,(at_=(k3:Int)/\(ar U (at_+i))=(a:Int)/\k3<=a/\a<=s.size)/\nw X λu Y=>lQ [k,u] 192 #[K (s.extract k3 a)] Y λH y=>∃J:Int->aK->Int->Int->M->Prop,(∀m v n o f,J m v n o f->N (decide (i>24)) (∀B,Z [k] f B->R (ai #[nf 0 (ao #[]) 0 0,O U 0,O U 2]) B) (∀D,Z [k] f D->R (ai #[nf m v n o,O U i,O U 0]) D))/\N H (∀E,Z [u] y E->J 2 (s.extract k3 a) 0 at_ E) (J 1 (s.extract k3 a) 0 at_ y)) (N G (∃d:Nat,(at_=(d:Int)/\d<=s.size)/\aae [k] 310 #[K (s.extract d s.size)] w λS p q A=>N (q !=0) (∀h,Z [k] A h->R (ai #[nf 0 (ao #[]) 0 0,O U 0,O U q]) h) (ol [k] 193 #[K s,O U at_] A λT z=>N (decide (T>p)) (∀l,Z [k] z l->R (ai #[nf 0 (ao #[]) 0 0,O U 0,O U 4]) l) (∀j,Z [k] z j->R (ai #[nf 3 (ao #[]) S at_,O U p,O U 0]) j))) (ol [k] 311 #[K s,O U at_] w λc C=>N (c==0) (∀r,Z [k] C r->R (ai #[nf 0 (ao #[]) 0 0,O U 0,O U 4]) r) (∃e b:Nat,(at_=(e:Int)/\(ar U (at_+c))=(b:Int)/\e<=b/\b<=s.size)/\∀t,Z [k] C t->R (ai #[nf 4 (s.extract e b) 0 at_,O U c,O U 0]) t)))):Cr 305 #[K s,O U at_] x R:=
 fC (.d 3 (.s (.s .o (.s (.d 3 (.j [4,9,10] [.b 10 [de,.str,de,de]] .o .o)) .o)) .o)) P
def alV(r:Addr)(k:Int)(R:aG)(q:M)(D:N (k==6) (nw q λv w0=>fK [v] 312 #[E r] w0 λF G s0 H l0 P w1=>∀B,Z [v] w1 B->R (bU F G s0 H l0 P) B) (nw q λd w3=>fK [d] 306 #[E r,O U (ar U (k+1))] w3 λS T s1 V l1 W w4=>nw w4 λe w5=>ol [d,e] 313 #[E r,O U k] w5 λX w6=>∃J:Nat->Int->Int->Int->aK->Int->Sl->Int->M->Prop,∃k3:Nat,J k3 X S T s1 V l1 W w6/\∀x n a b s c,∀p:Sl,∀i w,J x n a b s c p i w->N (n !=0) (gU w (r.add 1) λf=>sT (r.add 1) w 1 λo Y z0 k7=>d≠o/\e≠o/\sS w o Y z0 k7 [O U (ar U (f+1))] λw8=>fK [d,e] 306 #[E r,O U (ar U (k+1))] w8 λg h s3 j l3 l w9=>nw w9 λy A=>MU 66 (bU a b s c p i) (bU g h s3 j l3 l) A λl4 t=>cr [d,e,y] A t/\∀z,Z [e] t z->ol [d,e,y] 313 #[E r,O U k] z λm C=>nx x λk9=>J k9 m 5 0 (ao #[]) n l4 i C) (∀u,Z [d] w u->R (bU a b s c p i) u))):Cr 306 #[E r,O U k] q R:=
 fC (.d 4 (.s (.j [0,1,4,5] [.s 6 de,.b 5 [de,de,.str,de,.sl,de]] .o .o) .o)) D
def alW(s:Sl)(f:OV)(R:aG)(a:M)(h:oc 0 a λJ n i w=>N (decide (i<(s.n:Int))) (j5 s i w λg j p l o m=>∃k:Nat,∃z d,f.v=(.func (.func k) z.toArray d.toArray)/\(∀x:Array aw,∀b,((callFunc k x).run Q b)=(.ok (.enter k x) b))/\cB k ((Bp (Bp z [bU g j p l o m]) d).toArray) w λe c=>N e (R (O U i) c) (nx n λk3=>J k3 (ar U (i+1)) c)) (R (O U (-1)) w)):Cr 308 #[s.v,f.v] a R:=
 fB (an:=.s .o (.s (.s .o (.j [0,1,7] [.s 8 (.int .i64)] .o .o)) .o)) (args:=[.sl s,.raw f]) h
def arR(c:Addr)(err:Int)(h:cB 250 #[E c] w λd a=>N (!d) (yN 297 #[E c] a λj s l i b=>sT (c.add 2) b 2 λk e z f=>sS b k e z f [O U err,O U i] λg=>R (ai #[]) g) (R (ai #[]) a)):Cr 309 #[E c,O U err] w R:=
 iO h
def arS(s:aK)(j:N ((s.size:Int)==0) (R (ai #[O U 0,O U 0,O U 3]) w) (oc 0 w λJ k i d=>∃c0:UInt8,((decide (i<(s.size:Int)))=L->0<=i/\(s[Int.toNat i]?)=(aM c0))/\∃f:UInt8,(((decide (i<(s.size:Int)))&&(decide ((UInt8.toNat c0:Int)>=48)))=L->0<=i/\(s[Int.toNat i]?)=(aM f))/\N (((decide (i<(s.size:Int)))&&(decide ((UInt8.toNat c0:Int)>=48)))&&(decide ((UInt8.toNat f:Int)<=57))) (nx k λl=>J l (ar U (i+1)) d) (∃g:UInt8,((i==0)=aL->(decide (i>1))=L->(0:Int)<=0/\s[0]? =(aM g))/\N ((i==0)||((decide (i>1))&&((UInt8.toNat g:Int)==48))) (R (ai #[O U 0,O U 0,O U 4]) d) (GU 0 0 d λh m b a e=>N (decide (a<i)) (∃c:UInt8,(0<=a/\(s[Int.toNat a]?)=(aM c))/\N (decide (b>(ar U ((ar U (9223372036854775807-(ar U (ar .u8 ((UInt8.toNat c:Int)-48))))).tdiv 10)))) (R (ai #[O U 0,O U 0,O U 20]) e) (nx m λn=>h n (ar U ((ar U (10*b))+(ar U (ar .u8 ((UInt8.toNat c:Int)-48))))) (ar U (a+1)) e)) (R (ai #[O U b,O U i,O U 0]) e))))):Cr 310 #[K s] w R:=
 fC (.d 3 (.s (.j [0] [.s 5 de] .o .o) (.d 2 (.s (.s .o (.j [0,5] [.s 6 de,.s 7 de] .o .o)) .o)))) j
def arT(s:aK)(at_:Int)(h:∃l:Sl,∃f,((au 32 7 #[.mk 0 (K (ao #[45,62])),.mk 1 (K (ao #[60,61])),.mk 2 (K (ao #[62,61])),.mk 3 (K (ao #[61,61])),.mk 4 (K (ao #[33,61])),.mk 5 (K (ao #[38,38])),.mk 6 (K (ao #[124,124]))]).run Q w)=(.ok l.v f)/\oc 0 f λJ j b a=>N (decide (b<(l.n:Int))) (∃k k3:Nat,((decide ((ar U (at_+2))<=(s.size:Int)))=L->at_=(k:Int)/\(ar U (at_+2))=(k3:Int)/\k<=k3/\k3<=s.size)/\∃p0,((decide ((ar U (at_+2))<=(s.size:Int)))=L->cT l b 1 p0)/\∃e,((decide ((ar U (at_+2))<=(s.size:Int)))=L->aB a p0 [K e])/\N ((decide ((ar U (at_+2))<=(s.size:Int)))&&(((s.extract k k3).toList)==e.toList)) (o0 a λp=>R (O U 2) p) (o0 a λq=>nx j λm=>J m (ar U (b+1)) q)) (oc 0 a λg n i c=>N (decide (i<17)) (∃c0:UInt8,(0<=at_/\(s[Int.toNat at_]?)=(aM c0))/\∃d:UInt8,(0<=i/\((ao #[123,125,40,41,91,93,59,44,61,43,45,42,47,37,60,62,33])[Int.toNat i]?)=(aM d))/\N ((UInt8.toNat c0:Int)==(UInt8.toNat d:Int)) (o0 c λr=>R (O U 1) r) (o0 c λt=>nx n λo=>g o (ar U (i+1)) t)) (R (O U 0) c))):Cr 311 #[K s,O U at_] w R:=
 fC (.d 2 (.s (.s .o (.j [0,1,5] [.s 6 de] .o .o)) (.s .o (.s (.s .o (.j [0,1,7] [.s 8 de] .o .o)) .o)))) h
def arU(r:Addr)(R:aG)(am:M)(aC:nw am λk c=>∃J:aJ,J ((r.add 0).block)/\jy c (r.add 0) λl0=>J ((r.add 1).block)/\gU c (r.add 1) λi0=>∃p0,cT l0 i0 4 p0/\J p0.block/\GV c p0 λi X i2 s=>nw c λa w1=>lQ [k,a] 314 #[E r,K (ao #[45])] w1 λb0 w2=>lQ [k,a] 314 #[E r,K (ao #[33])] w2 λx w3=>lQ [k,a] 314 #[E r,K (ao #[40])] w3 λb2 w=>gU w ((r.add 3).add 0) λi4=>N (i4 !=0) (∀w5,Z [k] w w5->R (bU 0 0 (ao #[]) 0 Sl.nil 0) w5) (N (b0||x) (lQ [k,a] 315 #[E r] w λb3 w6=>N (!b3) (∀w7,Z [k] w6 w7->R (bU 0 0 (ao #[]) 0 Sl.nil 0) w7) (fK [k,a] 312 #[E r] w6 λi5 i6 s1 i7 l1 i8 w8=>nw w8 λP u=>gU u (r.add 2) λi9=>sT (r.add 2) u 1 λk3 k4 z0 k5=>k≠k3/\a≠k3/\P≠k3/\sS u k3 k4 z0 k5 [O U (ar U (i9-1))] λA=>mN (λd z=>li 66 (bU i5 i6 s1 i7 l1 i8) z λl2 B=>cr [k,a,P] z B/\∀F,Z [k] B F->R (bU 4 0 (ao #[]) d l2 s) F) λv=>N x (v 15 A) (v 14 A))) (N b2 (lQ [k,a] 315 #[E r] w λb4 C=>N (!b4) (∀G,Z [k] C G->R (bU 0 0 (ao #[]) 0 Sl.nil 0) G) (fK [k,a] 306 #[E r,O U 0] C λe f s2 g l3 h iQ=>nw iQ λS im=>fO [k,a,S] 316 #[E r,K (ao #[41])] im λt=>gU t (r.add 2) λj=>sT (r.add 2) t 1 λb k8 z1 k9=>k≠b/\a≠b/\S≠b/\sS t b k8 z1 k9 [O U (ar U (j-1))] λkf=>∀H,Z [k] kf H->R (bU e f s2 g l3 h) H)) (N (i==3) (gU w (r.add 1) λl=>sT (r.add 1) w 1 λD nD z2 Il=>k≠D/\a≠D/\sS w D nD z2 Il [O U (ar U (l+1))] λkZ=>∀V,Z [k] kZ V->R (bU 1 i2 (ao #[]) 0 Sl.nil s) V) (N (i==1) (gU w (r.add 1) λm=>sT (r.add 1) w 1 λy IL z3 TF=>k≠y/\a≠y/\sS w y IL z3 TF [O U (ar U (m+1))] λpo=>∀W,Z [k] po W->R (bU 2 0 X 0 Sl.nil s) W) (N ((i==2)&&(X.toList==((ao #[105,110]).toList))) (fK [k,a] 317 #[E r] w λn o s3 p l4 q nu=>∀T,Z [k] nu T->R (bU n o s3 p l4 q) T) (fO [k,a] 318 #[E r] w λsf=>∀Y,Z [k] sf Y->R (bU 0 0 (ao #[]) 0 Sl.nil 0) Y))))))):Cr 312 #[E r] am R:=
 fC (.d 5 (.s (.d 3 (.s (.d 5 (.j [2,3,8] [.s 9 de] .o .o)) .o)) .o)) aC
def arV(r:Addr)(k:Int)(h:cL 281 #[] w λm c=>xYL m k c λl=>cL 280 #[] c λn d=>xYL n k d λo=>oc 0 d λJ g i a=>N (decide (i<(l.n:Int))) (GX l i a λs=>cB 314 #[E r,K s] a λe b=>N e (Ix o i b λf=>R (O U f) b) (nx g λj=>J j (ar U (i+1)) b)) (R (O U 0) a)):Cr 313 #[E r,O U k] w R:=
 fC (.d 3 (.s (.s .o (.j [0,5,6] [.s 7 de] .o .o)) .o)) h
def arW(r:Addr)(s:aK)(h:o0 w λa=>∃J:aJ,J ((r.add 0).block)/\jy a (r.add 0) λl=>J ((r.add 1).block)/\gU a (r.add 1) λi=>∃p0,cT l i 4 p0/\J p0.block/\GV a p0 λc e f g=>nw a λk b=>gU b ((r.add 3).add 0) λd=>R (aj (((d==0)&&(c==4))&&(e.toList==s.toList))) b):Cr 314 #[E r,K s] w R:=
 iO h
def arX(r:Addr)(h:gU w (r.add 2) λi=>N (i==20) (cU 319 #[E r,O U 21] w λj=>R (aj aL) j) (gU w (r.add 2) λb=>sT (r.add 2) w 1 λk d z e=>sS w k d z e [O U (ar U (b+1))] λa=>gU a (r.add 1) λc=>sT (r.add 1) a 1 λk3 f m g=>sS a k3 f m g [O U (ar U (c+1))] λl=>R (aj L) l)):Cr 315 #[E r] w R:=
 iO h
def arY(r:Addr)(s:aK)(h:cB 314 #[E r,K s] w λb a=>N (!b) (cU 318 #[E r] a λe=>R (ai #[]) e) (gU a (r.add 1) λi=>sT (r.add 1) a 1 λk c z d=>sS a k c z d [O U (ar U (i+1))] λf=>R (ai #[]) f)):Cr 316 #[E r,K s] w R:=
 iO h
def arZ(r:Addr)(R:aG)(j:M)(o:nw j λk b=>∃J:aJ,J ((r.add 0).block)/\jy b (r.add 0) λF=>J ((r.add 1).block)/\gU b (r.add 1) λq=>∃p0,cT F q 4 p0/\J ((p0.add 3).block)/\gU b (p0.add 3) λi=>nw b λa g=>gU g (r.add 1) λs=>sT (r.add 1) g 1 λe k3 W B=>k≠e/\a≠e/\sS g e k3 W B [O U (ar U (s+1))] λS=>fO [k,a] 316 #[E r,K (ao #[40])] S λw=>gU w ((r.add 3).add 0) λt=>N (t !=0) (∀l,Z [k] w l->R (bU 3 0 (ao #[]) 0 Sl.nil i) l) (jy w (r.add 0) λG=>gU w (r.add 1) λu=>∃p,cT G u 4 p/\gU w (p.add 0) λv=>N (v !=1) (o0 w λT=>fO [k,a] 318 #[E r] T λV=>∀m,Z [k] V m->R (bU 3 0 (ao #[]) 0 Sl.nil i) m) (o0 w λc=>jy c (r.add 0) λH=>gU c (r.add 1) λx=>∃h,cT H x 4 h/\CZ c (h.add 1) λP=>∀d,Z [a] c d->gU d (r.add 1) λy=>sT (r.add 1) d 1 λf C X D=>k≠f/\a≠f/\sS d f C X D [O U (ar U (y+1))] λA=>fO [k,a] 316 #[E r,K (ao #[41])] A λn=>∀z,Z [k] n z->R (bU 3 0 P 0 Sl.nil i) z))):Cr 317 #[E r] j R:=
 iO o
def ar0(r:Addr)(h:jy w (r.add 0) λl=>gU w (r.add 1) λi=>∃p0,cT l i 4 p0/\gU w (p0.add 0) λa=>N (a==5) (o0 w λb=>cU 319 #[E r,O U 3] b λc=>R (ai #[]) c) (o0 w λd=>cU 319 #[E r,O U 4] d λe=>R (ai #[]) e)):Cr 318 #[E r] w R:=
 iO h
def ar1(r:Addr)(e:Int)(h:gU w ((r.add 3).add 0) λi=>N (i==0) (o0 w λa=>jy a (r.add 0) λl=>gU a (r.add 1) λb=>∃p0,cT l b 4 p0/\gU a (p0.add 3) λc=>sT (r.add 3) a 2 λk d z f=>sS a k d z f [O U e,O U c] λg=>R (ai #[]) g) (R (ai #[]) w)):Cr 319 #[E r,O U e] w R:=
 iO h
end Go.Proofs.YtfemabakfkliiaaGreatDoor.Vc
namespace Go.Proofs
open Go.Shelf
def Tryz.Bh:Go.Shelf.Ren:=⟨λ| 156=>204 | 165=>203 | 166=>170 | 169=>137 | 240=>201 | 241=>236 | 276=>233 | 277=>260 | n=>n,λ| 31=>32 | 9=>9 | 3=>3 | 4=>4 | 0=>0 | 20=>20 | 72=>214 | 76=>248 | 70=>212 | 37=>197 | 75=>247 | 127=>254 | 164=>293 | 5=>5 | 80=>222 | n=>n,λ| n=>n⟩
def Tryz.QX:Go.Proofs.Lays.n156 Tryz.prog Tryz.Bh:={
 mixed:=aaz
 f156:=Tryz.func204.trans (bZ aM aaz)
 f165:=Tryz.func203.trans (bZ aM aaz)
 f166:=Tryz.func170.trans (bZ aM aaz)
 f169:=Tryz.func137.trans (bZ aM aaz)
 f240:=Tryz.func201.trans (bZ aM aaz)
 f241:=Tryz.func236.trans (bZ aM aaz)
 f276:=Tryz.func233.trans (bZ aM aaz)
 f277:=Tryz.func260.trans (bZ aM aaz)
 t0:=Tryz.underlying0
 a0:=Tryz.isAgg0
 z0:=Tryz.sizeOf0
 v0:=Tryz.zeroValue0
 t3:=Tryz.underlying3
 a3:=Tryz.isAgg3
 z3:=Tryz.sizeOf3
 v3:=Tryz.zeroValue3
 t4:=Tryz.underlying4
 a4:=Tryz.isAgg4
 z4:=Tryz.sizeOf4
 v4:=Tryz.zeroValue4
 t9:=Tryz.underlying9
 a9:=Tryz.isAgg9
 z9:=Tryz.sizeOf9
 v9:=Tryz.zeroValue9
 t20:=Tryz.underlying20
 a20:=Tryz.isAgg20
 z20:=Tryz.sizeOf20
 v20:=Tryz.zeroValue20
 t31:=Tryz.underlying32
 a31:=Tryz.isAgg32
 z31:=Tryz.sizeOf32
 v31:=Tryz.zeroValue32
 t37:=Tryz.underlying197
 a37:=Tryz.isAgg197
 z37:=Tryz.sizeOf197
 v37:=Tryz.zeroValue197
 t70:=Tryz.underlying212
 a70:=Tryz.isAgg212
 z70:=Tryz.sizeOf212
 v70:=Tryz.zeroValue212
 t72:=Tryz.underlying214
 a72:=Tryz.isAgg214
 z72:=Tryz.sizeOf214
 v72:=Tryz.zeroValue214
 t75:=Tryz.underlying247
 a75:=Tryz.isAgg247
 z75:=Tryz.sizeOf247
 v75:=Tryz.zeroValue247
 t76:=Tryz.underlying248
 a76:=Tryz.isAgg248
 z76:=Tryz.sizeOf248
 v76:=Tryz.zeroValue248
 t127:=Tryz.underlying254
 a127:=Tryz.isAgg254
 z127:=Tryz.sizeOf254
 v127:=Tryz.zeroValue254
 t164:=Tryz.underlying293
 a164:=Tryz.isAgg293
 z164:=Tryz.sizeOf293
 v164:=Tryz.zeroValue293}
def Tryz.rJ:Builder.Extra Tryz.prog Tryz.Bh:={
 sizeBuilder:=aaz
 liesBuilder:=aaz
 t5:=Tryz.underlying5
 a5:=Tryz.isAgg5
 z5:=Tryz.sizeOf5
 v5:=Tryz.zeroValue5
 infoByte:=aaz
 cellsByte:=aaz
 sizeByte:=aaz
 neB5:=X}
open Go.RowKit in
theorem Tryz.strings_Join_none (a:Option Addr) (c:Nat) (sep:ByteArray) (w:World):
 Calls Tryz.prog 204 #[.slice a 0 c,.string sep] w λe w'=>e=.returned (.string ⟨#[]⟩)/\w'=w:=Any.strings_Join_none Tryz.QX Tryz.rJ a c sep w
open Go.RowKit in
theorem Tryz.strings_Join (bk o c:Nat) (xs:List ByteArray) (sep:ByteArray) (w:World) (yg:∀(j:Nat) x,xs[j]? =some x->w.cell? ⟨bk,o+j,none⟩=some (.string x)) (Tv:bk<w.heap.size) (hN:xs.length<=140737488355328) (qz:xs.length<=c) (fi:(Lib.join (xs.map (·.data.toList)) sep.data.toList).length<=140737488355328):
 Calls Tryz.prog 204 #[.slice (some ⟨bk,o,none⟩) xs.length c,.string sep] w λe w'=>e=.returned (.string ⟨(Lib.join (xs.map (·.data.toList)) sep.data.toList).toArray⟩)/\Below w.heap.size w w':=Any.strings_Join Tryz.QX Tryz.rJ bk o c xs sep w yg Tv hN qz fi
def Tryz.Ic:Go.Shelf.Ren:=⟨λ| 171=>174 | 243=>207 | 246=>238 | 283=>261 | 284=>262 | 285=>263 | 286=>264 | 129=>232 | 317=>285 | 318=>286 | 319=>287 | 320=>288 | 337=>307 | 338=>51 | n=>n,λ| 3=>3 | 9=>9 | 2=>2 | 4=>4 | 171=>323 | 0=>0 | 53=>30 | 37=>197 | 5=>5 | 173=>325 | 212=>348 | 51=>292 | 20=>20 | 213=>349 | 46=>110 | 232=>368 | 233=>165 | n=>n,λ| 17=>2 | 18=>5 | 19=>0 | n=>n⟩
def Tryz.Xo:Go.Proofs.LaysM.n171 Tryz.prog Tryz.Ic:={
 mixed:=aaz
 f129:=Tryz.func232.trans (bZ aM aaz)
 f171:=Tryz.func174.trans (bZ aM aaz)
 f243:=Tryz.func207.trans (bZ aM aaz)
 f246:=Tryz.func238.trans (bZ aM aaz)
 f283:=Tryz.func261.trans (bZ aM aaz)
 f284:=Tryz.func262.trans (bZ aM aaz)
 f285:=Tryz.func263.trans (bZ aM aaz)
 f286:=Tryz.func264.trans (bZ aM aaz)
 f317:=Tryz.func285.trans (bZ aM aaz)
 f318:=Tryz.func286.trans (bZ aM aaz)
 f319:=Tryz.func287.trans (bZ aM aaz)
 f320:=Tryz.func288.trans (bZ aM aaz)
 f337:=Tryz.func307.trans (bZ aM aaz)
 f338:=Tryz.func51.trans (bZ aM aaz)
 t0:=Tryz.underlying0
 a0:=Tryz.isAgg0
 z0:=Tryz.sizeOf0
 v0:=Tryz.zeroValue0
 t2:=Tryz.underlying2
 a2:=Tryz.isAgg2
 z2:=Tryz.sizeOf2
 v2:=Tryz.zeroValue2
 t3:=Tryz.underlying3
 a3:=Tryz.isAgg3
 z3:=Tryz.sizeOf3
 v3:=Tryz.zeroValue3
 t4:=Tryz.underlying4
 a4:=Tryz.isAgg4
 z4:=Tryz.sizeOf4
 v4:=Tryz.zeroValue4
 t5:=Tryz.underlying5
 a5:=Tryz.isAgg5
 z5:=Tryz.sizeOf5
 v5:=Tryz.zeroValue5
 t9:=Tryz.underlying9
 a9:=Tryz.isAgg9
 z9:=Tryz.sizeOf9
 v9:=Tryz.zeroValue9
 t20:=Tryz.underlying20
 a20:=Tryz.isAgg20
 z20:=Tryz.sizeOf20
 v20:=Tryz.zeroValue20
 t37:=Tryz.underlying197
 a37:=Tryz.isAgg197
 z37:=Tryz.sizeOf197
 v37:=Tryz.zeroValue197
 t46:=Tryz.underlying110
 a46:=Tryz.isAgg110
 z46:=Tryz.sizeOf110
 v46:=Tryz.zeroValue110
 t51:=Tryz.underlying292
 a51:=Tryz.isAgg292
 z51:=Tryz.sizeOf292
 v51:=Tryz.zeroValue292
 t53:=Tryz.underlying30
 a53:=Tryz.isAgg30
 z53:=Tryz.sizeOf30
 v53:=Tryz.zeroValue30
 t171:=Tryz.underlying323
 a171:=Tryz.isAgg323
 z171:=Tryz.sizeOf323
 v171:=Tryz.zeroValue323
 t173:=Tryz.underlying325
 a173:=Tryz.isAgg325
 z173:=Tryz.sizeOf325
 v173:=Tryz.zeroValue325
 t212:=Tryz.underlying348
 a212:=Tryz.isAgg348
 z212:=Tryz.sizeOf348
 v212:=Tryz.zeroValue348
 t213:=Tryz.underlying349
 a213:=Tryz.isAgg349
 z213:=Tryz.sizeOf349
 t232:=Tryz.underlying368
 a232:=Tryz.isAgg368
 z232:=Tryz.sizeOf368
 v232:=Tryz.zeroValue368
 t233:=Tryz.underlying165
 a233:=Tryz.isAgg165
 z233:=Tryz.sizeOf165
 v233:=Tryz.zeroValue165
 g17:=aaz
 g18:=aaz
 g19:=aaz
 i0:=aaz
 i2:=aaz
 i3:=aaz
 i4:=aaz
 i5:=aaz
 i9:=aaz
 i20:=aaz
 i37:=aaz
 i46:=aaz
 i51:=aaz
 i53:=aaz
 i171:=aaz
 i173:=aaz
 i212:=aaz
 i232:=aaz
 i233:=aaz
 m17:=aaz
 m18:=aaz
 m19:=aaz}
open Go.RowKit Go.Sort Go.Lib in
theorem Tryz.strconv_Itoa (n:Int) (h0: -9223372036854775808<=n) (h1:n<=9223372036854775807) (w:World) (as9:Lib.TabIs Tryz.prog w "internal/strconv.uint64pow10" .u64 Lib.pow10Tab):
 Calls Tryz.prog 174 #[.int .i64 n] w λe w'=>e=.returned (.string ⟨(Lib.itoa n).toArray⟩)/\∃k os,w'=grow (w.drewN k) os:=Any.strconv_Itoa Tryz.Xo n h0 h1 w as9
def Tryz.Ie:Go.Shelf.Ren:=⟨λ| 316=>213 | n=>n,λ| 9=>9 | 3=>3 | 4=>4 | 37=>197 | 0=>0 | 127=>254 | 5=>5 | n=>n,λ| n=>n⟩
def Tryz.Xp:Go.Proofs.LaysM.n316 Tryz.prog Tryz.Ie:={
 mixed:=aaz
 f316:=Tryz.func213.trans (bZ aM aaz)
 t0:=Tryz.underlying0
 a0:=Tryz.isAgg0
 z0:=Tryz.sizeOf0
 v0:=Tryz.zeroValue0
 t3:=Tryz.underlying3
 a3:=Tryz.isAgg3
 z3:=Tryz.sizeOf3
 v3:=Tryz.zeroValue3
 t4:=Tryz.underlying4
 a4:=Tryz.isAgg4
 z4:=Tryz.sizeOf4
 v4:=Tryz.zeroValue4
 t9:=Tryz.underlying9
 a9:=Tryz.isAgg9
 z9:=Tryz.sizeOf9
 v9:=Tryz.zeroValue9
 t37:=Tryz.underlying197
 a37:=Tryz.isAgg197
 z37:=Tryz.sizeOf197
 v37:=Tryz.zeroValue197
 t127:=Tryz.underlying254
 a127:=Tryz.isAgg254
 z127:=Tryz.sizeOf254
 v127:=Tryz.zeroValue254
 t5:=Tryz.underlying5
 a5:=Tryz.isAgg5
 z5:=Tryz.sizeOf5
 v5:=Tryz.zeroValue5
 i0:=aaz
 i3:=aaz
 i4:=aaz
 i5:=aaz
 i9:=aaz
 i37:=aaz
 i127:=aaz}
open Go.RowKit in
theorem Tryz.stringslite_Clone (s:ByteArray) (w:World) (agX:s.size<=281474976710656):
 Calls Tryz.prog 213 #[.string s] w λe w'=>e=.returned (.string s)/\Below w.heap.size w w':=Any.stringslite_Clone Tryz.Xp s w agX
def Tryz.Ig:Go.Shelf.Ren:=⟨λ| 174=>215 | 247=>244 | 245=>245 | 287=>270 | 279=>271 | 280=>272 | 281=>273 | 282=>274 | 321=>294 | 322=>295 | 316=>213 | 171=>174 | 205=>296 | 243=>207 | 246=>238 | 283=>261 | 284=>262 | 285=>263 | 286=>264 | 129=>232 | 317=>285 | 318=>286 | 319=>287 | 320=>288 | 337=>307 | 338=>51 | n=>n,λ| 9=>9 | 3=>3 | 2=>2 | 75=>247 | 85=>277 | 4=>4 | 167=>332 | 5=>5 | 53=>30 | 175=>333 | 46=>110 | 168=>335 | 37=>197 | 0=>0 | 210=>354 | 21=>21 | 127=>254 | 145=>367 | 143=>365 | 171=>323 | 173=>325 | 212=>348 | 51=>292 | 20=>20 | 213=>349 | 232=>368 | 233=>165 | 80=>222 | n=>n,λ| 15=>3 | 16=>4 | 17=>2 | 18=>5 | 19=>0 | n=>n⟩
def Tryz.Lr:Go.Proofs.LaysC.n174 Tryz.prog Tryz.Ig:={
 mixed:=aaz
 f129:=Tryz.func232.trans (bZ aM aaz)
 f171:=Tryz.func174.trans (bZ aM aaz)
 f174:=Tryz.func215.trans (bZ aM aaz)
 f205:=Tryz.func296.trans (bZ aM aaz)
 f243:=Tryz.func207.trans (bZ aM aaz)
 f245:=Tryz.func245.trans (bZ aM aaz)
 f246:=Tryz.func238.trans (bZ aM aaz)
 f247:=Tryz.func244.trans (bZ aM aaz)
 f279:=Tryz.func271.trans (bZ aM aaz)
 f280:=Tryz.func272.trans (bZ aM aaz)
 f281:=Tryz.func273.trans (bZ aM aaz)
 f282:=Tryz.func274.trans (bZ aM aaz)
 f283:=Tryz.func261.trans (bZ aM aaz)
 f284:=Tryz.func262.trans (bZ aM aaz)
 f285:=Tryz.func263.trans (bZ aM aaz)
 f286:=Tryz.func264.trans (bZ aM aaz)
 f287:=Tryz.func270.trans (bZ aM aaz)
 f316:=Tryz.func213.trans (bZ aM aaz)
 f317:=Tryz.func285.trans (bZ aM aaz)
 f318:=Tryz.func286.trans (bZ aM aaz)
 f319:=Tryz.func287.trans (bZ aM aaz)
 f320:=Tryz.func288.trans (bZ aM aaz)
 f321:=Tryz.func294.trans (bZ aM aaz)
 f322:=Tryz.func295.trans (bZ aM aaz)
 f337:=Tryz.func307.trans (bZ aM aaz)
 f338:=Tryz.func51.trans (bZ aM aaz)
 t0:=Tryz.underlying0
 a0:=Tryz.isAgg0
 z0:=Tryz.sizeOf0
 v0:=Tryz.zeroValue0
 t2:=Tryz.underlying2
 a2:=Tryz.isAgg2
 z2:=Tryz.sizeOf2
 v2:=Tryz.zeroValue2
 t3:=Tryz.underlying3
 a3:=Tryz.isAgg3
 z3:=Tryz.sizeOf3
 v3:=Tryz.zeroValue3
 t4:=Tryz.underlying4
 a4:=Tryz.isAgg4
 z4:=Tryz.sizeOf4
 v4:=Tryz.zeroValue4
 t5:=Tryz.underlying5
 a5:=Tryz.isAgg5
 z5:=Tryz.sizeOf5
 v5:=Tryz.zeroValue5
 t9:=Tryz.underlying9
 a9:=Tryz.isAgg9
 z9:=Tryz.sizeOf9
 v9:=Tryz.zeroValue9
 t20:=Tryz.underlying20
 a20:=Tryz.isAgg20
 z20:=Tryz.sizeOf20
 v20:=Tryz.zeroValue20
 t21:=Tryz.underlying21
 a21:=Tryz.isAgg21
 z21:=Tryz.sizeOf21
 v21:=Tryz.zeroValue21
 t37:=Tryz.underlying197
 a37:=Tryz.isAgg197
 z37:=Tryz.sizeOf197
 v37:=Tryz.zeroValue197
 t46:=Tryz.underlying110
 a46:=Tryz.isAgg110
 z46:=Tryz.sizeOf110
 v46:=Tryz.zeroValue110
 t51:=Tryz.underlying292
 a51:=Tryz.isAgg292
 z51:=Tryz.sizeOf292
 v51:=Tryz.zeroValue292
 t53:=Tryz.underlying30
 a53:=Tryz.isAgg30
 z53:=Tryz.sizeOf30
 v53:=Tryz.zeroValue30
 t75:=Tryz.underlying247
 a75:=Tryz.isAgg247
 z75:=Tryz.sizeOf247
 v75:=Tryz.zeroValue247
 t85:=Tryz.underlying277
 a85:=Tryz.isAgg277
 z85:=Tryz.sizeOf277
 v85:=Tryz.zeroValue277
 t127:=Tryz.underlying254
 a127:=Tryz.isAgg254
 z127:=Tryz.sizeOf254
 v127:=Tryz.zeroValue254
 t143:=Tryz.underlying365
 a143:=Tryz.isAgg365
 z143:=Tryz.sizeOf365
 v143:=Tryz.zeroValue365
 t145:=Tryz.underlying367
 a145:=Tryz.isAgg367
 z145:=Tryz.sizeOf367
 v145:=Tryz.zeroValue367
 t167:=Tryz.underlying332
 a167:=Tryz.isAgg332
 z167:=Tryz.sizeOf332
 v167:=Tryz.zeroValue332
 t168:=Tryz.underlying335
 a168:=Tryz.isAgg335
 z168:=Tryz.sizeOf335
 v168:=Tryz.zeroValue335
 t171:=Tryz.underlying323
 a171:=Tryz.isAgg323
 z171:=Tryz.sizeOf323
 v171:=Tryz.zeroValue323
 t173:=Tryz.underlying325
 a173:=Tryz.isAgg325
 z173:=Tryz.sizeOf325
 v173:=Tryz.zeroValue325
 t175:=Tryz.underlying333
 a175:=Tryz.isAgg333
 z175:=Tryz.sizeOf333
 v175:=Tryz.zeroValue333
 t210:=Tryz.underlying354
 a210:=Tryz.isAgg354
 z210:=Tryz.sizeOf354
 v210:=Tryz.zeroValue354
 t212:=Tryz.underlying348
 a212:=Tryz.isAgg348
 z212:=Tryz.sizeOf348
 v212:=Tryz.zeroValue348
 t213:=Tryz.underlying349
 a213:=Tryz.isAgg349
 z213:=Tryz.sizeOf349
 t232:=Tryz.underlying368
 a232:=Tryz.isAgg368
 z232:=Tryz.sizeOf368
 v232:=Tryz.zeroValue368
 t233:=Tryz.underlying165
 a233:=Tryz.isAgg165
 z233:=Tryz.sizeOf165
 v233:=Tryz.zeroValue165
 g15:=aaz
 g16:=aaz
 g17:=aaz
 g18:=aaz
 g19:=aaz
 t80:=Tryz.underlying222
 a80:=Tryz.isAgg222
 z80:=Tryz.sizeOf222
 v80:=Tryz.zeroValue222
 i0:=aaz
 i2:=aaz
 i3:=aaz
 i4:=aaz
 i5:=aaz
 i9:=aaz
 i20:=aaz
 i21:=aaz
 i37:=aaz
 i46:=aaz
 i51:=aaz
 i53:=aaz
 i75:=aaz
 i80:=aaz
 i85:=aaz
 i127:=aaz
 i143:=aaz
 i145:=aaz
 i167:=aaz
 i168:=aaz
 i171:=aaz
 i173:=aaz
 i175:=aaz
 i210:=aaz
 i212:=aaz
 i232:=aaz
 i233:=aaz
 m15:=aaz
 m16:=aaz
 m17:=aaz
 m18:=aaz
 m19:=aaz
 c0:=aaz
 c2:=aaz
 c3:=aaz
 c4:=aaz
 c5:=aaz
 c9:=aaz
 c20:=aaz
 c21:=aaz
 c37:=aaz
 c46:=aaz
 c51:=aaz
 c53:=aaz
 c75:=aaz
 c80:=aaz
 c85:=aaz
 c127:=aaz
 c143:=aaz
 c145:=aaz
 c167:=aaz
 c168:=aaz
 c171:=aaz
 c173:=aaz
 c175:=aaz
 c210:=aaz
 c212:=aaz
 c213:=aaz
 c232:=aaz
 c233:=aaz}
open Go.RowKit in
theorem Tryz.strconv_ParseInt_10_at64_ok (s:ByteArray) (ata:s.size<=9223372036854775806) (v:Int) (h:Lib.parseIntB 64 s.data.toList=.ok v) (w:World):
 Calls Tryz.prog 215 #[.string s,.int .i64 10,.int .i64 64] w λe w'=>e=.returned (.tuple #[.int .i64 v,.nilIface])/\(w'=w∨∃t,w'=Lib.bytesWorld w 5 t):=Any.strconv_ParseInt_10_at64_ok Tryz.Lr s ata v h w
open Go.RowKit in
theorem Tryz.strconv_ParseInt_10_at64_range_var (s:ByteArray) (agX:s.size<=281474976710656) (h:Lib.parseIntB 64 s.data.toList=.range) (tp:TypeId) (p:Value) (w:World) (agY:w.var? Tryz.prog "strconv.ErrRange" =some #[.iface tp p]):
 Calls Tryz.prog 215 #[.string s,.int .i64 10,.int .i64 64] w λe w'=>∃N,e=.returned (.tuple #[.int .i64 (Lib.intSat 64 s.data.toList),.iface 335 (.pointer (some ⟨N,0,none⟩))])/\w.heap.size<=N/\w'.heap[N]? =some (.cells #[.string ⟨#[80,97,114,115,101,73,110,116]⟩,.string s,.iface tp p] 354 (0,0))/\Below w.heap.size w w':=Any.strconv_ParseInt_10_at64_range_var Tryz.Lr s agX h tp p w agY
def Tryz.Ls:Go.Shelf.Ren:=⟨λ| 219=>212 | 217=>240 | 225=>241 | 224=>242 | 267=>243 | 266=>268 | 314=>269 | n=>n,λ| 9=>9 | 3=>3 | 4=>4 | 5=>5 | 46=>110 | 146=>295 | 51=>292 | n=>n,λ| 1=>1 | n=>n⟩
def Tryz.abx:Go.Proofs.Lays.n219 Tryz.prog Tryz.Ls:={
 mixed:=aaz
 f217:=Tryz.func240.trans (bZ aM aaz)
 f219:=Tryz.func212.trans (bZ aM aaz)
 f224:=Tryz.func242.trans (bZ aM aaz)
 f225:=Tryz.func241.trans (bZ aM aaz)
 f266:=Tryz.func268.trans (bZ aM aaz)
 f267:=Tryz.func243.trans (bZ aM aaz)
 f314:=Tryz.func269.trans (bZ aM aaz)
 t3:=Tryz.underlying3
 a3:=Tryz.isAgg3
 z3:=Tryz.sizeOf3
 v3:=Tryz.zeroValue3
 t4:=Tryz.underlying4
 a4:=Tryz.isAgg4
 z4:=Tryz.sizeOf4
 v4:=Tryz.zeroValue4
 t5:=Tryz.underlying5
 a5:=Tryz.isAgg5
 z5:=Tryz.sizeOf5
 v5:=Tryz.zeroValue5
 t9:=Tryz.underlying9
 a9:=Tryz.isAgg9
 z9:=Tryz.sizeOf9
 v9:=Tryz.zeroValue9
 t46:=Tryz.underlying110
 a46:=Tryz.isAgg110
 z46:=Tryz.sizeOf110
 v46:=Tryz.zeroValue110
 t51:=Tryz.underlying292
 a51:=Tryz.isAgg292
 z51:=Tryz.sizeOf292
 v51:=Tryz.zeroValue292
 t146:=Tryz.underlying295
 a146:=Tryz.isAgg295
 z146:=Tryz.sizeOf295
 v146:=Tryz.zeroValue295
 g1:=aaz}
open Go.RowKit Go.Lib in
theorem Tryz.stringslite_Index_one (s:ByteArray) (c:UInt8) (w:World):
 Calls Tryz.prog 212 #[.string s,.string ⟨#[c]⟩] w λe w'=>e=.returned (.int .i64 (Lib.indexByte s.data.toList c))/\w'=w:=Any.stringslite_Index_one Tryz.abx s c w
def Tryz.Bi:Go.Shelf.Ren:=⟨λ| 105=>171 | 212=>202 | 99=>144 | 165=>203 | 166=>170 | 170=>179 | 169=>137 | 263=>234 | 264=>235 | 206=>181 | 240=>201 | 241=>236 | 276=>233 | 277=>260 | n=>n,λ| 9=>9 | 3=>3 | 4=>4 | 20=>20 | 0=>0 | 46=>110 | 109=>270 | 5=>5 | 72=>214 | 76=>248 | 51=>292 | 146=>295 | 53=>30 | 148=>297 | 70=>212 | 37=>197 | 75=>247 | 127=>254 | 164=>293 | 80=>222 | n=>n,λ| n=>n⟩
def Tryz.aby:Go.Proofs.Lays.n105 Tryz.prog Tryz.Bi:={
 mixed:=aaz
 f99:=Tryz.func144.trans (bZ aM aaz)
 f105:=Tryz.func171.trans (bZ aM aaz)
 f165:=Tryz.func203.trans (bZ aM aaz)
 f166:=Tryz.func170.trans (bZ aM aaz)
 f169:=Tryz.func137.trans (bZ aM aaz)
 f170:=Tryz.func179.trans (bZ aM aaz)
 f206:=Tryz.func181.trans (bZ aM aaz)
 f212:=Tryz.func202.trans (bZ aM aaz)
 f240:=Tryz.func201.trans (bZ aM aaz)
 f241:=Tryz.func236.trans (bZ aM aaz)
 f263:=Tryz.func234.trans (bZ aM aaz)
 f264:=Tryz.func235.trans (bZ aM aaz)
 f276:=Tryz.func233.trans (bZ aM aaz)
 f277:=Tryz.func260.trans (bZ aM aaz)
 t0:=Tryz.underlying0
 a0:=Tryz.isAgg0
 z0:=Tryz.sizeOf0
 v0:=Tryz.zeroValue0
 t3:=Tryz.underlying3
 a3:=Tryz.isAgg3
 z3:=Tryz.sizeOf3
 v3:=Tryz.zeroValue3
 t4:=Tryz.underlying4
 a4:=Tryz.isAgg4
 z4:=Tryz.sizeOf4
 v4:=Tryz.zeroValue4
 t5:=Tryz.underlying5
 a5:=Tryz.isAgg5
 z5:=Tryz.sizeOf5
 v5:=Tryz.zeroValue5
 t9:=Tryz.underlying9
 a9:=Tryz.isAgg9
 z9:=Tryz.sizeOf9
 v9:=Tryz.zeroValue9
 t20:=Tryz.underlying20
 a20:=Tryz.isAgg20
 z20:=Tryz.sizeOf20
 v20:=Tryz.zeroValue20
 t37:=Tryz.underlying197
 a37:=Tryz.isAgg197
 z37:=Tryz.sizeOf197
 v37:=Tryz.zeroValue197
 t46:=Tryz.underlying110
 a46:=Tryz.isAgg110
 z46:=Tryz.sizeOf110
 v46:=Tryz.zeroValue110
 t51:=Tryz.underlying292
 a51:=Tryz.isAgg292
 z51:=Tryz.sizeOf292
 v51:=Tryz.zeroValue292
 t53:=Tryz.underlying30
 a53:=Tryz.isAgg30
 z53:=Tryz.sizeOf30
 v53:=Tryz.zeroValue30
 t70:=Tryz.underlying212
 a70:=Tryz.isAgg212
 z70:=Tryz.sizeOf212
 v70:=Tryz.zeroValue212
 t72:=Tryz.underlying214
 a72:=Tryz.isAgg214
 z72:=Tryz.sizeOf214
 v72:=Tryz.zeroValue214
 t75:=Tryz.underlying247
 a75:=Tryz.isAgg247
 z75:=Tryz.sizeOf247
 v75:=Tryz.zeroValue247
 t76:=Tryz.underlying248
 a76:=Tryz.isAgg248
 z76:=Tryz.sizeOf248
 v76:=Tryz.zeroValue248
 t109:=Tryz.underlying270
 a109:=Tryz.isAgg270
 z109:=Tryz.sizeOf270
 v109:=Tryz.zeroValue270
 t127:=Tryz.underlying254
 a127:=Tryz.isAgg254
 z127:=Tryz.sizeOf254
 v127:=Tryz.zeroValue254
 t146:=Tryz.underlying295
 a146:=Tryz.isAgg295
 z146:=Tryz.sizeOf295
 v146:=Tryz.zeroValue295
 t148:=Tryz.underlying297
 a148:=Tryz.isAgg297
 z148:=Tryz.sizeOf297
 v148:=Tryz.zeroValue297
 t164:=Tryz.underlying293
 a164:=Tryz.isAgg293
 z164:=Tryz.sizeOf293
 v164:=Tryz.zeroValue293}
def Tryz.zH:Builder.Extra Tryz.prog Tryz.Bi:={
 sizeBuilder:=aaz
 liesBuilder:=aaz
 t5:=Tryz.underlying5
 a5:=Tryz.isAgg5
 z5:=Tryz.sizeOf5
 v5:=Tryz.zeroValue5
 infoByte:=aaz
 cellsByte:=aaz
 sizeByte:=aaz
 neB5:=X}
open Go.RowKit Go.Lib in
theorem Tryz.strings_Repeat (s:ByteArray) (c:Nat) (w:World) (hc:c<=9223372036854775807) (fi:s.size*c<=140737488355328):
 Calls Tryz.prog 171 #[.string s,.int .i64 c] w λe w'=>e=.returned (.string ⟨(Lib.repeatL s.data.toList c).toArray⟩)/\Below w.heap.size w w':=Any.strings_Repeat Tryz.aby Tryz.zH s c w hc fi
def Tryz.EH:Go.Shelf.Ren:=⟨λ| 15=>43 | n=>n,λ| 22=>33 | 3=>3 | 4=>4 | n=>n,λ| n=>n⟩
def Tryz.AH:Go.Proofs.Lays2.n15 Tryz.prog Tryz.EH:={
 mixed:=aaz
 f15:=Tryz.func43.trans (bZ aM aaz)
 t3:=Tryz.underlying3
 a3:=Tryz.isAgg3
 z3:=Tryz.sizeOf3
 v3:=Tryz.zeroValue3
 t4:=Tryz.underlying4
 a4:=Tryz.isAgg4
 z4:=Tryz.sizeOf4
 v4:=Tryz.zeroValue4
 t22:=Tryz.underlying33
 a22:=Tryz.isAgg33
 z22:=Tryz.sizeOf33
 v22:=Tryz.zeroValue33
 i3:=aaz}
open Go.RowKit Go.Lib in
theorem Tryz.slices_Clone_int (b off n c:Nat) (zs:List Int) (w:World) (hz:n<=zs.length) (rb:n*8<=140737488355328) (hc:∀j,j<zs.length->w.cell? ⟨b,off+j,none⟩=some (.int .i64 (zs.getD j 0))):
 Calls Tryz.prog 43 #[.slice (some ⟨b,off,none⟩) n c] w λe w'=>∃v',e=.returned v'/\w'.ownsRow w.heap.size 3 1 v' n ((zs.take n).map (Value.int .i64))/\v'≠.slice none 0 0/\Below w.heap.size w w':=Any.slices_Clone_int Tryz.AH b off n c zs w hz rb hc
open Go.RowKit Go.Lib in
theorem Tryz.slices_Clone_int_nil (n c:Nat) (w:World):
 Calls Tryz.prog 43 #[.slice none n c] w λe w'=>e=.returned (.slice none 0 0)/\w'=w:=Any.slices_Clone_int_nil Tryz.AH n c w
open Go.RowKit Go.Lib in
theorem Tryz.slices_Clone_int_zero (a:Addr) (c:Nat) (w:World):
 Calls Tryz.prog 43 #[.slice (some a) 0 c] w λe w'=>∃v',e=.returned v'/\w'.ownsRow w.heap.size 3 1 v' 0 []/\v'≠.slice none 0 0/\Below w.heap.size w w':=Any.slices_Clone_int_zero Tryz.AH a c w
end Go.Proofs
namespace Go.Proofs.YtfemabakfkliiaaGreatDoor.Con
open Go Go.RowKit Go.Kt Go.Kt.V Go.Proofs.YtfemabakfkliiaaGreatDoor.Vc
def iW{P:Program}{f:FuncId}{a:Array aw}{w:M}{b:Ending->M->Prop}(h:az P f a w λe c=>∃v,e=ak v/\b (ak v) c):az P f a w b:=h.mono (by rintro e c ⟨v,rfl,q⟩;exact q)
def ret{P:Program}{f:FuncId}{a:Array aw}{c:M}{r:aw}{b:M->Prop}(h:az P f a c λe w=>∃v,e=ak v/\v=r/\b w):az P f a c λe w=>e=ak r/\b w:=
 h.mono (by rintro e w ⟨v,rfl,rfl,q⟩;exact⟨rfl,q⟩)
def Blk.dM{w:M}{b:Nat}{t:TypeId}{c:aI}(h:aF w b t c)(j:Nat){v:aw}(a:c[j]? =aM v):aB w ((⟨b,0,aaf⟩:Addr).add j) [v]:=by
 rw[gu,bS];exact h.cells j [v] λk u hk=>by
  cases k with
  | zero=>simp only[cw,bN]at hk;subst hk;exact a
  | succ k=>simp at hk
def fZ(c:UInt8):Bool:=(65<=c.toNat&&c.toNat<=90)||(97<=c.toNat&&c.toNat<=122)||c.toNat==95
def du(c:UInt8):Bool:=48<=c.toNat&&c.toNat<=57
def fk(c:UInt8):Bool:=fZ c||du c
def pS(c:UInt8):Bool:=[9,10,13,32].contains c
def MV:∀n:Fin 256,(((decide (97<=(bits .or .u8 (n.val:Int) 32)))&&(decide ((bits .or .u8 (n.val:Int) 32)<=122)))||((n.val:Int)==95))=((65<=n.val&&n.val<=90)||(97<=n.val&&n.val<=122)||n.val==95):=agD
def C2(w:M)(c:UInt8):az Q 147 #[.int .u8 (c.toNat:Int)] w λe a=>e=ak (aj (fZ c))/\Z [] w a:=by
 refine ret (ale _ ?_);exact⟨by rw[MV ⟨c.toNat,c.toNat_lt⟩];rfl,Only.refl _ _⟩
def O5(w:M)(c:UInt8):az Q 149 #[.int .u8 (c.toNat:Int)] w λe a=>e=ak (aj (du c))/\Z [] w a:=by
 refine ret (alg _ ?_);refine⟨?_,Only.refl _ _⟩;congr 1;rw[bM];simp only[du,aU,bF];omega
def US(w:M)(c:UInt8):az Q 214 #[.int .u8 (c.toNat:Int)] w λe a=>e=ak (aj (du c))/\Z [] w a:=by
 refine ret (v2w _ ?_);refine⟨?_,Only.refl _ _⟩;have h:∀n:Fin 256,decide ((ar .u8 ((n.val:Int)-48))<10)=(decide (48<=n.val)&&decide (n.val<=57)):=agD
 rw[h ⟨c.toNat,c.toNat_lt⟩];rfl
def UT{w:M}{F:aJ}{s:Sl}{l:aH}(h:aA mB 1 w F s l)(c:UInt8):
  az Q 211 #[Sl.v s,.int .u8 (c.toNat:Int)] w λe b=>∃i:Int,e=ak (O U i)/\decide (i>=0)=l.contains c/\Z [] w b:=by
 refine iW (alO _ _ ?_);have f:=h.len;have r:=h.big;have q:=h.cap;refine⟨λv i b=>∃n:Nat,n<=I l/\i=(n:Int)/\v=(I l)-n/\(∀x,x∈l.take n->x≠c)/\b=w,I l,⟨0,bm _,rfl,rfl,aaV,rfl⟩,?_⟩;rintro v _ _ ⟨n,d,rfl,rfl,p,rfl⟩;refine⟨λa=>?_,λa=>?_⟩
 ·have W:(n:Int)<s.n:=aN a;obtain⟨ad,x,o,k,g,t,u,m,j⟩:=h.get (aZ n) W;rw[aW]at g;unfold mB iA at j;subst j;refine⟨ad,k,_,m,λe=>⟨_,rfl,?_,Only.refl _ _⟩,λe=>⟨(I l)-(n+1),J,n+1,J,aaA,rfl,?_,rfl⟩⟩
  ·have e:c=x:=YL.1 (by have:=aN e;omega);rw[bE J];symm;rw[fl,e];exact bB g
  intro y c;rw[bq,g]at c;simp only[fH,cj,aP]at c;rcases c with c | rfl
  ·exact p y c
  rintro rfl;simp at e
 have A:¬((n:Int)<s.n):=aQ a;rw[bp J]at p;refine⟨_,rfl,?_,Only.refl _ _⟩;rw[bD J];symm;rw[eF];intro e;exact p c (fl.1 e) rfl
def JE{w:M}{F:aJ}{s:Sl}{l:aH}(h:aA mB 1 w F s l)(c:UInt8):
  az Q 180 #[Sl.v s,.int .u8 (c.toNat:Int)] w λe d=>e=ak (aj (l.contains c))/\Z [] w d:=by
 refine ret (alz _ _ ?_);refine(UT h c).mono ?_;rintro _ f ⟨b,rfl,i,a⟩;exact⟨b,rfl,by rw[i],a⟩
def JF{w:M}{F:aJ}{s:Sl}{l:aH}(h:aA mB 1 w F s l)(c:UInt8):
  az Q 143 #[.int .u8 (c.toNat:Int),Sl.v s] w λe b=>e=ak (aj (l.contains c))/\Z [] w b:=by
 refine ret (ala _ _ ?_);refine(JE h c).mono ?_;rintro _ d ⟨rfl,a⟩;exact⟨_,rfl,rfl,a⟩
def ke:Rp (aH):=λ_ _ l c=>c=[K (T l)]
def cY:ke.Ok where
 keep h _:=h
 inHeap h:=h
 mono h _:=h
 one:=by
  rintro w F x c h v a;unfold ke at h;subst h;simp only[aP]at a;subst a;rfl
def UU{w:M}{F:aJ}{s:Sl}{l:List (aH)}(h:aA ke 1 w F s l)(c:aH):
  az Q 152 #[Sl.v s,K (T c)] w λe b=>∃i:Int,e=ak (O U i)/\decide (i>=0)=l.contains c/\Z [] w b:=by
 refine iW (ada _ _ ?_);have f:=h.len;have r:=h.big;have q:=h.cap;refine⟨λv i b=>∃n:Nat,n<=I l/\i=(n:Int)/\v=(I l)-n/\(∀x,x∈l.take n->x≠c)/\b=w,I l,⟨0,bm _,rfl,rfl,aaV,rfl⟩,?_⟩;rintro v _ _ ⟨n,d,rfl,rfl,p,rfl⟩;refine⟨λa=>?_,λa=>?_⟩
 ·have W:(n:Int)<s.n:=aN a;obtain⟨ad,x,o,k,g,t,u,m,j⟩:=h.get (aZ n) W;rw[aW]at g;unfold ke at j;subst j;refine⟨ad,k,_,m,?_⟩;dsimp only;rw[iV];refine⟨λe=>⟨_,rfl,?_,Only.refl _ _⟩,λe=>⟨(I l)-(n+1),J,n+1,J,aaA,rfl,?_,rfl⟩⟩
  ·have e:c=x:=aN e;rw[bE J];symm;rw[fl,e];exact bB g
  intro y c;rw[bq,g]at c;simp only[fH,cj,aP]at c;rcases c with c | rfl
  ·exact p y c
  rintro rfl;simp at e
 have A:¬((n:Int)<s.n):=aQ a;rw[bp J]at p;refine⟨_,rfl,?_,Only.refl _ _⟩;rw[bD J];symm;rw[eF];intro e;exact p c (fl.1 e) rfl
def vJ{w:M}{F:aJ}{s:Sl}{l:List (aH)}(h:aA ke 1 w F s l)(c:aH):
  az Q 184 #[Sl.v s,K (T c)] w λe d=>e=ak (aj (l.contains c))/\Z [] w d:=by
 refine ret (alA _ _ ?_);refine(UU h c).mono ?_;rintro _ f ⟨b,rfl,i,a⟩;exact⟨b,rfl,by rw[i],a⟩
abbrev Cur(w:M)(b:Nat)(t:TypeId)(l:aH)(i:Nat)(r:aI):Prop:=aF w b t (K (T l)::O U (i:Int)::r)
def adh{w:M}{b:Nat}{t:TypeId}{l:aH}{i:Nat}{r:aI}(h:Cur w b t l i r):
  az Q 103 #[ae (aM ⟨b,0,aaf⟩)] w λe c=>e=ak (aj (decide (I l<=i)))/\Z [] w c:=by
 refine ret (akL _ ?_);refine⟨i,Blk.dM h 1 rfl,T l,Blk.dM h 0 rfl,λd a=>⟨?_,a⟩⟩;rw[cJ];congr 1;rw[je];omega
def C3{w:M}{b:Nat}{t:TypeId}{l:aH}{i:Nat}{r:aI}(h:Cur w b t l i r)(c:i<=I l):
  az Q 145 #[ae (aM ⟨b,0,aaf⟩)] w λe d=>e=ak (K (T (l.drop i)))/\Z [] w d:=by
 refine ret (alc _ ?_);refine⟨T l,Blk.dM h 0 rfl,i,Blk.dM h 1 rfl,i,⟨rfl,by rw[cJ];exact c⟩,λf a=>⟨?_,a⟩⟩;rw[vq,cJ,bp (by rw[cG];exact aX _)]
def mR{p:UInt8->Bool}:∀{l:aH} {n:Nat},n<=(I l)->(∀x,x∈l.take n->p x=L)->(∀x,l[n]? =aM x->p x=aL)->l.takeWhile p=l.take n
 | [],n,_,_,_=>aaV
 | c::r,0,_,_,h=>by
  have:=h c rfl;simp[this]
 | c::r,n+1,hn,h,a=>by
  have b:=h c aaV;rw[dD,aV b,eJ,mR (n:=n) aeb (λx hx=>h x aep) (λx hx=>a x ab5)]
def UW{w:M}{b:Nat}{t:TypeId}{l:aH}{i:Nat}{r:aI}(f:Cur w b t l i r)(g:i<=I l)(q:I l<9223372036854775807):
  az Q 183 #[ae (aM ⟨b,0,aaf⟩)] w λe a=>e=ak (K (T ((l.drop i).takeWhile fk)))/\Z [] w a:=by
 refine ret (alC _ ?_);refine(C3 f g).mono ?_;rintro _ s ⟨rfl,D⟩;have j:I (l.drop i)<=I l:=by rw[cG];omega
 generalize l.drop i=m at*
 refine⟨T m,rfl,λv k a=>∃n:Nat,n<=I m/\k=(n:Int)/\v=(I m)-n/\(∀x,x∈m.take n->fk x=L)/\Z [] w a,I m,⟨0,bm _,rfl,rfl,aaV,D⟩,?_⟩;rintro v _ o ⟨n,d,rfl,rfl,p,c⟩;rw[cJ];refine⟨λb a=>(b=L->∃x,m[n]? =aM x/\fk x=L)/\(b=aL->∀x,m[n]? =aM x->fk x=aL)/\Z [] w a,?_,λh=>?_,λh=>⟨λe=>ad2,λ_ x hx=>?_,c⟩⟩
 ·rintro b t ⟨i,r,R⟩;refine⟨λe=>?_,λe=>⟨n,⟨rfl,d⟩,?_,R⟩⟩
  ·obtain⟨x,hx,u⟩:=i e;have W:=(bf.1 hx).1;refine⟨(I m)-(n+1),J,n+1,J,aaA,rfl,λy b=>?_,R⟩;rw[bq,hx]at b;simp only[fH,cj,aP]at b;rcases b with b | rfl
   ·exact p y b
   exact u
  rw[vq,jl,BH,mR d p (r e)]
 ·have z:(n:Int)<I m:=aN h;have hx:m[n]? =aM (m[n]' J):=bh J;generalize m[n]' J=x at hx;have t:(T m)[Int.toNat (n:Int)]? =aM x:=adV
  refine⟨x,⟨aZ n,t⟩,(C2 o x).mono ?_⟩;rintro _ u ⟨rfl,r⟩;refine⟨_,rfl,λi=>⟨λ_=>⟨x,hx,by unfold fk;rw[i];rfl⟩,λe=>ad2,c.cn r⟩,λi=>⟨x,⟨aZ n,t⟩,(O5 u x).mono ?_⟩⟩;rintro _ A ⟨rfl,W⟩;refine⟨_,rfl,λhd=>⟨x,hx,by unfold fk;rw[hd,oV]⟩,λhd y b=>?_,c.cn (r.cn W)⟩;rw[hx]at b;injection b with b;subst b;unfold fk;rw[i,hd];rfl
 have A:¬(n:Int)<I m:=aQ h;have:=(bf.1 hx).1;omega
def JG(w:M)(l p:aH)(b:I l<9223372036854775807)(c:I p<9223372036854775807):az Q 144 #[K (T l),K (T p)] w λe a=>e=ak (aj (decide (l.take (I p)=p)))/\Z [] w a:=by
 refine ret (alb _ _ ?_);refine(ret (arf (T l) (T p) (λv a=>v=aj (decide (l.take (I p)=p))/\Z [] w a) w ?_)).mono ?_
 ·rw[cJ,cJ];refine⟨I p,λh=>⟨rfl,aeq⟩,?_,Only.refl _ _⟩;rw[vq,iV,jl,BH];congr 1;rw[bM];simp only[aU,bF];constructor
  ·exact λh=>h.2
  intro h;refine⟨?_,h⟩;have:=bZ List.length h;rw[ch]at this;omega
 rintro _ d ⟨rfl,h⟩;exact⟨_,rfl,rfl,h⟩
def uL:∀(l:aH) (c:UInt8),Lib.indexByte l c=if c∈l then(I (l.takeWhile (· !=c)):Int)else -1
 | [],c=>by simp[Lib.indexByte]
 | b::l,c=>by
  rw[Lib.indexByte,uL l c];by_cases h:b=c
  ·subst h;simp
  ·by_cases m:c∈l
   ·have a:(b==c)=aL:=by simpa using h
    have d:(b !=c)=L:=by simpa using h
    have e:c∈b::l:=by simp[m]
    rw[a,aV m,aV e,dD,aV d];simp
   ·have a:(b==c)=aL:=by simpa using h
    have d:¬c∈b::l:=by simp[m];exact λe=>h e.symm
    rw[a,aR m,aR d];simp
def C4{c:UInt8}:∀{l:aH},¬c∈l->l.takeWhile (· !=c)=l
 | [],_=>rfl
 | b::l,h=>by
  simp only[aY,not_or]at h;rw[dD,aV (by simpa using λe=>h.1 e.symm),C4 h.2]
def oE{p:UInt8->Bool}:∀{l:aH},l.takeWhile p=l.take (I (l.takeWhile p))
 | []=>rfl
 | b::l=>by
  rw[dD];split
  ·rw[ba,eJ,<-oE]
  rfl
def alX(w:M)(l:aH)(c:UInt8)(h:I l<9223372036854775807):az Q 146 #[K (T l),K (T [c])] w λe a=>∃(s:aK) (b:Bool),e=ak (ai #[K (T (l.takeWhile (· !=c))),K s,aj b])/\Z [] w a:=by
 refine iW (ald _ _ ?_);refine(arh (T l) (T [c]) (λv a=>∃(s:aK) (b:Bool),v=(ai #[K (T (l.takeWhile (· !=c))),K s,aj b])/\Z [] w a) w ?_).mono ?_
 ·refine(Tryz.stringslite_Index_one (T l) c w).mono ?_;rintro _ _ ⟨rfl,rfl⟩;have e:(T l).data.toList=l:=rfl;rw[e,uL];refine⟨_,rfl,λb=>?_,λb=>?_⟩
  ·by_cases m:c∈l
   ·rw[aV m];have W:I (l.takeWhile (· !=c))<I l:=by
     have d:=List.takeWhile_append_dropWhile (p:=(· !=c)) (l:=l);have f:=bZ List.length d;rw[aO]at f;have e:l.dropWhile (· !=c)≠[]:=by
      intro e;rw[e,bG]at d;rw[<-d]at m;have:=List.all_takeWhile (p:=(· !=c)) (l:=l);rw[dF]at this;have:=this c (by rw[d]at m⊢;exact m);simp at this
     have i:=lS.2 e;omega
    have hk:(T l).extract 0 (I (l.takeWhile (· !=c)))=T (l.takeWhile (· !=c)):=by
     rw[vq,jl,BH,<-oE]
    refine⟨I (l.takeWhile (· !=c)),⟨rfl,abN⟩,I (l.takeWhile (· !=c))+1,⟨by rw[cJ,fe aba aba];rfl,abN⟩,λj g=>⟨(T l).extract (I (l.takeWhile (· !=c))+1) (T l).size,L,?_,g⟩⟩;rw[hk]
   ·rw[aR m]at b;exact absurd (aN b) J
  ·by_cases m:c∈l
   ·rw[aV m]at b;exact absurd (aQ b) J
   ·rw[C4 m];exact⟨_,_,rfl,Only.refl _ _⟩
 ·rintro _ d ⟨v,rfl,s,b,rfl,c⟩;exact⟨_,s,b,rfl,s,b,rfl,c⟩
def uk(w:M)(l:aH){n:Nat}{parts:Array (Nat×aw)}(h:parts=(((l.map iA).zipIdx 0).map λx=>(x.2,x.1)).toArray)(hn:I l=n)(c:0<n)(o:n*1<=16777216):
  ∃s b,(au 197 n parts).run Q w=.ok (Sl.v s) b/\Own mB 1 5 w.heap.size b (λ_=>True) s l/\Z [] w b/\s.a=aM ⟨w.heap.size,0,aaf⟩:=by
 obtain⟨s,b,d,f,g,j,_⟩:=ju (P:=Q) (t:=197) (e:=5) (i:=Tryz.t5) (w:=w) (F:=λ_=>True) (r:=mB) (size:=1) (vs:=l.map iA) (xs:=l) (len:=n) aaz aaz rfl rfl X h agL c o sH (by
  clear h hn
  induction l with
  | nil=>exact trivial
  | cons a l i=>exact⟨⟨rfl,rfl⟩,i⟩)
 exact⟨s,b,d,f,g,j⟩
def aah(l:List (aH))(w:M):qf ke 1 w (λ_=>True) l ((l.map λx=>Value.string (T x)).map λv=>v.cells.toList):=by
 induction l with
 | nil=>exact trivial
 | cons a l i=>exact⟨⟨rfl,rfl⟩,i⟩
def kl(w:M)(l:List (aH)){n:Nat}{parts:Array (Nat×aw)}(p:parts=(((l.map λx=>Value.string (T x)).zipIdx 0).map λx=>(x.2,x.1)).toArray)(hn:I l=n)(h:0<n)(o:n*1<=16777216):
  ∃s a,(au 32 n parts).run Q w=.ok (Sl.v s) a/\Own ke 1 9 w.heap.size a (λ_=>True) s l/\Z [] w a:=by
 obtain⟨s,a,b,c,d,_⟩:=ju (P:=Q) (t:=32) (e:=9) (i:=Tryz.t9) (w:=w) (F:=λ_=>True) (r:=ke) (size:=1) (vs:=l.map λx=>Value.string (T x)) (xs:=l) (len:=n) aaz aaz rfl rfl X p agL h o cY (aah l w);exact⟨s,a,b,c,d⟩
def O6{f:Type}{r:Rp f}{size:Nat}{e:TypeId}{B:Nat}{w:M}{F:aJ}{s:Sl}{a:List f}(d:r.Ok)(t:∀w F G x b,r w F x b->r w G x b)(h:Own r size e B w F s a):aA r size w (λk=>B<=k/\s.a=aM ⟨k,0,aaf⟩) s a:=by
 rcases h with⟨rfl,rfl⟩ | ⟨q,c,tail,g,i,j,l,m,n,p,o⟩
 ·exact SliceF.nil _ _ _ _
 have u:Own r size e B w (λ_=>False) s a:=.inr ⟨q,c,tail,g,i,j,l,m,n,p,io.imp (λ_ _ h=>⟨h.1,t _ _ _ _ _ h.2⟩) o⟩;exact(u.slice d).mono d λk hk=>hk.elim False.elim id
def yO{e:TypeId}{B:Nat}{w:M}{F:aJ}{s:Sl}{x:aH}(h:Own mB 1 e B w F s x):aA mB 1 w (λk=>B<=k/\s.a=aM ⟨k,0,aaf⟩) s x:=O6 sH (λ_ _ _ _ _ h=>h) h
def uM{e:TypeId}{B:Nat}{w:M}{F:aJ}{s:Sl}{x:List (aH)}(h:Own ke 1 e B w F s x):aA ke 1 w (λk=>B<=k/\s.a=aM ⟨k,0,aaf⟩) s x:=O6 cY (λ_ _ _ _ _ h=>h) h
def lj:Bool->aH->Nat
 | _,[]=>0
 | true,c::r=>1+lj (c !=10) r
 | false,c::r=>if pS c then 1+lj aL r else if c==47&&r.head? ==aM 47 then 1+lj L r else 0
def G3:∀{b:Bool} {l:aH},lj b l<=I l
 | b,[]=>by simp[lj]
 | true,c::r=>by
  rw[lj,ba];have:=G3 (b:=c !=10) (l:=r);omega
 | false,c::r=>by
  rw[lj,ba];have h:=G3 (b:=aL) (l:=r);have a:=G3 (b:=L) (l:=r);split
  ·omega
  split<;>omega
def JH:∀(l:aH),lj L l=I (l.takeWhile (· !=10))+lj aL (l.drop (I (l.takeWhile (· !=10))))
 | []=>rfl
 | c::r=>by
  by_cases hc:c=10
  ·subst hc;rw[lj];simp[lj,pS]
  ·have h:(c !=10)=L:=abv
   rw[lj,h,JH r,dD,aV h,ba,pu];omega
def Fc{l:aH}(h:l.take 2=[47,47]):lj aL l=I (l.takeWhile (· !=10))+lj aL (l.drop (I (l.takeWhile (· !=10)))):=by
 match l,h with
 | a::b::r,h=>
  simp only[eJ,ci,Cs,and_true]at h;obtain⟨rfl,rfl⟩:=h;have e:lj aL (47::47::r)=1+lj L (47::r):=by
   conv=>lhs;rw[lj]
   rw[aR X,aV aaV]
  have c:=JH (47::r);have d:(47::47::r:aH).takeWhile (· !=10)=47::(47::r:aH).takeWhile (· !=10):=by
   rw[dD,aV X]
  rw[e,c,d,ba,pu];omega
def oG{l:aH}{j:Nat}{x:UInt8}(h:l[j]? =aM x):l.drop j=x::l.drop (j+1):=by
 obtain⟨a,b⟩:=bf.1 h;rw[fF a,b]
def UX{w:M}{b:Nat}{t:TypeId}{l:aH}{i:Nat}{r:aI}(m:Cur w b t l i r)(p:i<=I l)(q:I l<9223372036854775807):
  az Q 102 #[ae (aM ⟨b,0,aaf⟩)] w λe c=>e=ak (ai #[])/\Z [b] w c/\Cur c b t l (i+lj aL (l.drop i)) r:=by
 refine ret (akK _ ?_);refine⟨λv c=>∃j:Nat,j<=I l/\v=(I l)-j/\i+lj aL (l.drop i)=j+lj aL (l.drop j)/\Z [b] w c/\Cur c b t l j r,(I l)-i,⟨i,p,rfl,rfl,Only.refl _ _,m⟩,?_⟩;rintro v A ⟨j,g,rfl,h,D,f⟩;have kp:∀{u k:M} {n:Nat},Z [] u k->Cur u b t l n r->Cur k b t l n r:=λo C=>(o.block b C.lt aaV).trans C;refine(adh f).mono ?_;rintro _ B ⟨rfl,E⟩;have d:=kp E f;refine⟨_,rfl,λhc=>?_,λhc=>⟨rfl,D.trans E aaV,?_⟩⟩
 ·have W:j<I l:=abv
  have hx:l[j]? =aM l[j]:=bh W;generalize l[j]=x at hx;have hd:=oG hx;refine⟨T l,Blk.dM d 0 rfl,j,Blk.dM d 1 rfl,x,⟨aZ j,adV⟩,λw2 R=>?_⟩;obtain⟨s,w3,Y,k2,k3,_⟩:=uk w2 [9,10,13,32] (n:=4) (parts:=#[(0,.int .u8 9),(1,.int .u8 10),(2,.int .u8 13),(3,.int .u8 32)]) rfl rfl X X;refine⟨s,w3,Y,(JF (yO k2) x).mono ?_⟩;rintro _ w4 ⟨rfl,P⟩;have S:=R.cn (k3.cn P);have G:=kp S d;have H:Z [b] w w4:=D.trans (E.cn S) aaV;refine⟨_,rfl,λF=>⟨j,Blk.dM G 1 rfl,b,1,_,t,by rw[gu],G,aaV,λw5 V N=>⟨(I l)-(j+1),J,j+1,J,rfl,?_,H.trans V aaV,?_⟩⟩,λF=>(C3 G g).mono ?_⟩
  ·have e:pS x=L:=F;rw[h,hd,lj,aV e];omega
  ·rw[fe J J]at N;exact N
  rintro _ w6 ⟨rfl,e⟩;have h6:=kp e G;have am:I (l.drop j)<=I l:=by rw[cG];omega
  refine⟨_,rfl,(JG w6 (l.drop j) [47,47] J X).mono ?_⟩;rintro _ w7 ⟨rfl,T⟩;have h7:=kp T h6;refine⟨_,rfl,λs=>(C3 h7 g).mono ?_,λs=>⟨rfl,H.trans (e.cn T) aaV,?_⟩⟩
  ·rintro _ w8 ⟨rfl,y⟩;have h8:=kp y h7;refine⟨_,rfl,(alX w8 (l.drop j) 10 J).mono ?_⟩;rintro _ w9 ⟨s9,b9,rfl,z⟩;have h9:=kp z h8;have x:(l.drop j).take 2=[47,47]:=aN s;have hk:=Fc x;have fi:I ((l.drop j).takeWhile (· !=10))<=I (l.drop j):=by
    rw[oE,ch];exact Nat.min_le_right _ _
   have aC:0<I ((l.drop j).takeWhile (· !=10)):=by
    match b:l.drop j,x with
    | a::n,x=>
     have:a=47:=by
      match n,x with
      | t::a,x=>simp at x;exact x.1
     subst this;simp
   have aS:I (l.drop j)=(I l)-j:=cG;generalize hn:I ((l.drop j).takeWhile (· !=10))=n at*
   refine⟨_,s9,b9,rfl,j,Blk.dM h9 1 rfl,b,1,_,t,by rw[gu],h9,aaV,λdA dR oT=>⟨(I l)-(j+n),J,j+n,J,rfl,?_,(H.trans (e.cn (T.cn (y.cn z))) aaV).trans dR aaV,?_⟩⟩
   ·rw[h,hk,ki];omega
   ·rw[cJ,hn,fe J J]at oT;exact oT
  ·have s:¬(l.drop j).take 2=[47,47]:=aQ s;have F:pS x=aL:=F;have n:lj aL (l.drop j)=0:=by
    rw[hd,lj,aR (by simp[F]),aR];intro a;apply s;rw[hd];simp only[aU,db]at a;obtain⟨rfl,a⟩:=a;cases b:l.drop (j+1)with
    | nil=>rw[b]at a;simp at a
    | cons y z=>
     rw[b]at a;simp only[jH,bN]at a;rw[a];rfl
   rw[h,n];exact h7
 ·have n:I l<=j:=abv
  have z:l.drop j=[]:=eP n;rw[h,z];exact d
def Er(w:M):Prop:=∃t p,w.var? Q "strconv.ErrRange" =aM #[.iface t p]
def er_num:Tryz.prog.globalNamed "strconv.ErrRange" =aM 4:=aaz
def Er.keep{w w':M}(h:Er w)(hk:4<w.heap.size->w'.heap[4]? =w.heap[4]?):Er w':=by
 obtain⟨t,p,h⟩:=h;refine⟨t,p,?_⟩;unfold World.var? at h⊢;rw[er_num]at h⊢;simp only[AU]at h⊢;rw[hk]
 ·exact h
 refine bT λn=>?_;rw[fI J]at h;cases h
def Er.lt{w:M}(h:Er w):4<w.heap.size:=by
 obtain⟨t,p,h⟩:=h;unfold World.var? at h;rw[er_num]at h;simp only[AU]at h;refine bT λn=>?_;rw[fI J]at h;cases h
def Er.only{w w':M}(h:Er w)(a:Z [] w w'):Er w':=h.keep λb=>a.block _ b aaV
def lV(a:Nat)(d:aH):Nat:=d.foldl (λa c=>a*10+(c.toNat-48)) a
def G4:∀(d:aH) (a:Nat),a<=lV a d
 | [],a=>aX _
 | c::r,a=>by
  have:=G4 r (a*10+(c.toNat-48));show a<=lV (a*10+(c.toNat-48)) r;omega
def pum:∀(d:aH) (a:Nat),(∀c,c∈d->du c=L)->a<=18446744073709551615->
  Lib.parseUintM 18446744073709551615 a d=if lV a d<=18446744073709551615 then .ok (lV a d)else .range
 | [],a,_,h=>by rw[Lib.parseUintM];exact(aV h).symm
 | c::r,a,hd,b=>by
  have h:=hd c aaV;simp only[du,aU,bF]at h;have e:lV a (c::r)=lV (a*10+(c.toNat-48)) r:=rfl;have n:=G4 r (a*10+(c.toNat-48));rw[Lib.parseUintM,aV h,e];split
  ·rw[aR J]
  split
  ·rw[aR J]
  rw[pum r _ (λx hx=>hd x aep) J]
def pib{d:aH}(hd:∀c,c∈d->du c=L)(i:d≠[]):Lib.parseIntB 64 d=if lV 0 d<9223372036854775808 then .ok (lV 0 d:Int)else .range:=by
 match d,i with
 | c::r,_=>
  have e:=hd c aaV;simp only[du,aU,bF]at e;have a:¬(c.toNat=43∨c.toNat=45):=J
  have h:¬c.toNat=45:=J
  have b:Lib.parseUintB 64 (c::r)=Lib.parseUintM 18446744073709551615 0 (c::r):=by
   rw[Lib.parseUintB,aR aaV]
  unfold Lib.parseIntB;dsimp only;rw[aR a,b,pum _ _ hd X];by_cases v:lV 0 (c::r)<=18446744073709551615
  ·rw[aV v];by_cases w:lV 0 (c::r)<9223372036854775808
   ·rw[aV w];simp[h];omega
   rw[aR w];simp[h];omega
  rw[aR v,aR J]
def fR(l:aH):Nat×Nat×Int:=
 if l=[]then(0,0,3)else if l.takeWhile du=[]∨(1<I (l.takeWhile du)/\l.head? =aM 48)then(0,0,4)
 else if lV 0 (l.takeWhile du)<9223372036854775808 then(lV 0 (l.takeWhile du),I (l.takeWhile du),0)else(0,0,20)
def Fe{p:UInt8->Bool}{l:aH}:∀c,c∈l.takeWhile p->p c=L:=by
 have:=List.all_takeWhile (p:=p) (l:=l);rwa[dF]at this
def UY{a:M}{l:aH}(E:Er a)(i:I l<281474976710656):
  az Q 186 #[K (T l)] a λe w=>e=ak (ai #[O U (fR l).1,O U (fR l).2.1,O U (fR l).2.2])/\Z [] a w:=by
 refine ret (v0w _ ?_);refine⟨λv j w=>∃n:Nat,n<=I l/\j=(n:Int)/\v=(I l)-n/\(∀x,x∈l.take n->du x=L)/\Z [] a w,I l,⟨0,bm _,rfl,rfl,aaV,Only.refl _ _⟩,?_⟩;rintro v _ g ⟨n,d,rfl,rfl,f,c⟩;rw[cJ];refine⟨λb w=>(b=L->∃x,l[n]? =aM x/\du x=L)/\(b=aL->∀x,l[n]? =aM x->du x=aL)/\Z [] a w,?_,λh=>?_,λh=>⟨λe=>ad2,λ_ x hx=>?_,c⟩⟩
 ·rintro b r ⟨o,q,m⟩;refine⟨λk=>?_,λk=>?_⟩
  ·obtain⟨x,hx,e⟩:=o k;have W:=(bf.1 hx).1;refine⟨(I l)-(n+1),J,n+1,J,aaA,rfl,λy b=>?_,m⟩;rw[bq,hx]at b;simp only[fH,cj,aP]at b;rcases b with b | rfl
   ·exact f y b
   exact e
  have F:=mR d f (q k);have y:I (l.takeWhile du)=n:=by rw[F,ch];omega
  have u:(ao #[])=T []:=rfl;rw[u,iV];refine⟨λt=>⟨?_,m⟩,λt=>?_⟩
  ·have t:l=[]:=aN t;rw[fR,aV t];rfl
  have t:¬l=[]:=aQ t;refine⟨λb w=>b=decide (l.takeWhile du=[]∨(1<I (l.takeWhile du)/\l.head? =aM 48))/\Z [] a w,?_,λhz=>?_,λhz=>?_⟩
  ·rintro b x ⟨rfl,R⟩;refine⟨λk=>⟨?_,R⟩,λk=>⟨n,⟨rfl,d⟩,?_⟩⟩
   ·rw[fR,aR t,aV (aN k)];rfl
   have k:=aQ k;have hx:(T l).extract 0 n=T (l.takeWhile du):=by rw[vq,jl,BH,F]
   rw[hx];have B:l.takeWhile du≠[]:=λe=>k (.inl e);have b:=pib (Fe (p:=du) (l:=l)) B;have z:(T (l.takeWhile du)).size<=281474976710656:=abN
   by_cases A:lV 0 (l.takeWhile du)<9223372036854775808
   ·rw[aV A]at b;refine(Tryz.strconv_ParseInt_10_at64_ok (T (l.takeWhile du)) (bH z X) _ b x).mono ?_;rintro _ C ⟨rfl,p⟩;have n:Z [] x C:=by
     rcases p with rfl | ⟨s,rfl⟩
     ·exact Only.refl _ _
     exact Only.tI (Lib.bytesWorld_below _ _ _)
    refine⟨_,⟨.nilIface,rfl⟩,rfl,.inl rfl,λe=>ad2,λ_=>⟨?_,R.cn n⟩⟩;rw[fR,aR t,aR k,aV A,y]
   rw[aR A]at b;obtain⟨s,p,Y⟩:=E.only R;refine(Tryz.strconv_ParseInt_10_at64_range_var (T (l.takeWhile du)) z b s p x Y).mono ?_;rintro _ C ⟨N,rfl,_,_,n⟩;refine⟨_,⟨.iface _ _,rfl⟩,rfl,.inr ⟨_,_,rfl⟩,λ_=>⟨?_,R.cn (Only.tI n)⟩,λe=>ad2⟩;rw[fR,aR t,aR k,aR A];rfl
  ·have hz:n=0:=ae7
   subst hz;refine⟨?_,m⟩;symm;rw[bE (.inl (bP y))];rfl
  have hz:n≠0:=ae7
  obtain⟨x,b,rfl⟩:∃x b,l=x::b:=by
   cases l with
   | nil=>exact absurd rfl t
   | cons x b=>exact⟨x,b,rfl⟩
  refine⟨x,λ_=>⟨jm _,agM⟩,?_,m⟩;have p:(x::b).takeWhile du≠[]:=λe=>by rw[e]at y;exact hz y.symm
  rw[y,bM];simp only[aU,bF,db,jH,bN];constructor
  ·rintro⟨o,q⟩;exact .inr ⟨J,YL.1 (by show x.toNat=48;omega)⟩
  rintro(e | ⟨o,rfl⟩)
  ·exact absurd e p
  exact⟨J,rfl⟩
 ·have W:(n:Int)<I l:=aN h;have hx:l[n]? =aM (l[n]' J):=bh J;generalize l[n]' J=x at hx;refine⟨x,⟨aZ n,adV⟩,(US g x).mono ?_⟩;rintro _ m ⟨rfl,e⟩;refine⟨_,rfl,λk=>⟨x,hx,k⟩,λhd y b=>?_,c.cn e⟩;rw[hx]at b;injection b with b;subst b;exact hd
 have A:¬(n:Int)<I l:=aQ h;have:=(bf.1 hx).1;omega
structure Tk where
 k:Int
 t:aH
 n:Int
 a:Int
deriving DecidableEq
def Tk.v(x:Tk):aw:=ah #[O U x.k,K (T x.t),O U x.n,O U x.a]
def Iy:Rp Tk:=λ_ _ x c=>c=[O U x.k,K (T x.t),O U x.n,O U x.a]
def iX:Iy.Ok where
 keep h _:=h
 inHeap h:=h
 mono h _:=h
 one:=by
  rintro w F x c h v a;unfold Iy at h;subst h;simp only[aY,bA,cf]at a;rcases a with rfl | rfl | rfl | rfl<;>rfl
abbrev nM(B:Nat)(w:M)(s:Sl)(x:List Tk):Prop:=Own Iy 4 159 B w (λ_=>True) s x
def nM.of{B:Nat}{w:M}{F:aJ}{s:Sl}{x:List Tk}(h:Own Iy 4 159 B w F s x):nM B w s x:=h.mono iX λ_ _=>trivial
def nM.sl{B:Nat}{w:M}{s:Sl}{x:List Tk}(h:nM B w s x):aA Iy 4 w (λk=>B<=k/\s.a=aM ⟨k,0,aaf⟩) s x:=O6 iX (λ_ _ _ _ _ h=>h) h
def nM.flat{B:Nat}{w:M}{s:Sl}{x:List Tk}(h:nM B w s x):Own Iy 4 159 B w (λ_=>False) s x:=by
 rcases h with h | ⟨k,c,tail,a,b,d,e,f,g,j,i⟩
 ·exact .inl h
 exact .inr ⟨k,c,tail,a,b,d,e,f,g,j,io.imp (λ_ _ h=>h) i⟩
def nM.keep{B:Nat}{w w':M}{s:Sl}{x:List Tk}(h:nM B w s x)(hk:∀k,B<=k/\s.a=aM ⟨k,0,aaf⟩->k<w.heap.size->w'.heap[k]? =w.heap[k]?):nM B w' s x:=
 nM.of (h.flat.keep iX λk F b=>hk k (F.elim False.elim id) b)
def nM.only{B:Nat}{w w':M}{s:Sl}{x:List Tk}(h:nM B w s x)(a:Z [] w w'):nM B w' s x:=h.keep λk _ b=>a.block k b aaV
def nM.p{B:Nat}{w a:M}{s:Sl}{x:List Tk}{D:aJ}(h:nM B w s x)(d:aD D w a)(c:∀k,B<=k->s.a=aM ⟨k,0,aaf⟩->¬D k):nM B a s x:=h.keep λk hk b=>d.block k b (c k hk.1 hk.2)
def UZ{c:M}{B:Nat}{s:Sl}{d:List Tk}(t:Tk)(l:nM B c s d)(j:B<=c.heap.size)(m:(I d+1)*40<=140737488355328):
  ∃y w,(au 142 1 #[(0,t.v)]).run Q c=.ok (Sl.v y) w/\Z [] c w/\∃b a,(Builtin.append_ #[142,142] 142 #[Sl.v s,Sl.v y]).run Q w=.ok (Sl.v b) a/\nM B a b (d++[t])/\aD (λk=>B<=k/\s.a=aM ⟨k,0,aaf⟩) w a:=by
 obtain⟨y,w,n,o,b,a,k3,p,⟨r,q,f⟩,_⟩:=jV (P:=Q) (t:=142) (ty:=142) (e:=159) (i:=Tryz.t159) (bytes:=40) (size:=4) (v:=t.v) (x:=t) (G:=λ_=>False) aaz aaz rfl rfl rfl rfl X X X iX l j rfl rfl (λk hk _=>hk.elim) m;exact⟨y,w,n,o,b,a,k3,nM.of p,q.p λg h=>.inl ⟨(f g h).2.1,(f g h).1⟩⟩
def mh:List (aH):=[[97,102,116,101,114],[97,108,119,97,121,115],[99,104,97,114,116],[100,101,101,112],[101,109,105,116],[101,110,116,101,114],[104,105,115,116,111,114,121],[105,110],[105,110,105,116,105,97,108],[108,101,97,118,101],[111,110],[112,97,114,97,108,108,101,108],[114,97,105,115,101],[115,101,116],[115,116,97,116,101],[118,97,114]]
def O7(w:M):az Q 101 #[] w λe a=>∃s:Sl,e=ak s.v/\Own ke 1 9 w.heap.size a (λ_=>True) s mh/\Z [] w a:=by
 refine iW (akJ ?_);obtain⟨s,a,h,b,c⟩:=kl w mh (n:=16) rfl rfl X X;exact⟨s,a,h,s,rfl,b,c⟩
structure Cut (w:M) (b:Nat) (l:aH) (i:Nat) (rs:Sl) (acc:List Tk):Prop where
 blk:∃ws:Sl,aF w b 185 [K (T l),O U (i:Int),ws.v,rs.v]/\aA ke 1 w (λk=>k<b) ws mh
 own:nM (b+1) w rs acc
 er:Er w
 gb:4<b
 il:i<=I l
 ll:I l<=16384
def Cut.lt{w:M}{b:Nat}{l:aH}{i:Nat}{r:Sl}{a:List Tk}(h:Cut w b l i r a):b<w.heap.size:=by
 obtain⟨s,c,_⟩:=h.blk;exact c.lt
def Cut.only{w w':M}{b:Nat}{l:aH}{i:Nat}{r:Sl}{a:List Tk}(h:Cut w b l i r a)(c:Z [] w w'):Cut w' b l i r a:=by
 obtain⟨s,d,e⟩:=h.blk;exact⟨⟨s,(c.block b d.lt aaV).trans d,SliceF.only cY X e c aaV⟩,h.own.only c,h.er.only c,h.gb,h.il,h.ll⟩
def Cut.move{d e:M}{b:Nat}{l:aH}{i j:Nat}{r:Sl}{a:List Tk}(h:Cut d b l i r a)(c:Z [b] d e)(m:j<=I l)(B:∀w:Sl,aF d b 185 [K (T l),O U (i:Int),w.v,r.v]->aF e b 185 [K (T l),O U (j:Int),w.v,r.v]):Cut e b l j r a:=by
 obtain⟨w,f,g⟩:=h.blk;exact⟨⟨w,B w f,SliceF.only cY X g c (by intro k hk _;simp only[aP];omega)⟩,h.own.keep λk hk W=>c.block k W abK,h.er.keep λW=>c.block _ W (by simp only[aP];have:=h.gb;omega),h.gb,m,h.ll⟩
def O8{w:M}{b:Nat}{l:aH}{i:Nat}{r:Sl}{a:List Tk}(c:Cut w b l i r a)(k:Int)(t:aH)(u R:Int)(n:Nat)(hn:i+n<=I l)(ha:I a<=16384):
  az Q 105 #[ae (aM ⟨b,0,aaf⟩),ah #[O U k,K (T t),O U u,O U R],O U (n:Int)] w λe C=>e=ak (ai #[])/\aD (λk=>b<=k) w C/\∃v,Cut C b l (i+n) v (a++[⟨k,t,u,i⟩]):=by
 refine ret (akN _ _ _ _ _ _ ?_);intro p w0 fT dZ D;have H:=c.lt;have N:=c.ll;have A:=c.only D;obtain⟨g,B,am⟩:=A.blk;refine⟨i,Blk.dM B 1 rfl,λj E=>?_⟩;have z:=B.lt;have G:aF j b 185 _:=(E.block b z abK).trans B;have P:nM (b+1) j r a:=A.own.keep λq h W=>by
  refine E.block q W ?_;simp only[aP];rintro rfl;have:=(c.own.blk h.2).2;dsimp only at this;omega
 have z1:=E.size;obtain⟨y,w2,S,d,s,m,V,Y,f⟩:=UZ ⟨k,t,u,i⟩ P J (bH (fD 40 (show (I a)+1<=16385 by omega)) X);have z2:=d.size;have z3:=f.size;have o:∀q,r.a=aM ⟨q,0,aaf⟩->q≠p:=λq h=>by
  have:=(c.own.blk h).2;dsimp only at this;omega
 refine⟨λq=>q=b,rfl,r,Blk.dM G 3 rfl,y,w2,S,d.same aba,bR.only d,s,m,V,?_,?_,?_⟩
 ·exact f.same (by intro x b;simp only[aP]at b;subst b;exact⟨J,λe=>o _ e.2 rfl⟩)
 ·intro q h W;exact f.block q W J
 have aC:aF m b 185 [K (T l),O U (i:Int),g.v,r.v]:=(f.block b J J).trans ((d.block b J aaV).trans G);refine⟨b,3,_,185,by rw[gu],aC,aaV,J,λy x e=>?_⟩;have e:aF y b 185 [K (T l),O U (i:Int),g.v,s.v]:=e;refine⟨i,Blk.dM e 1 rfl,b,1,_,185,by rw[Rw,gu],e,aaV,J,λw5 eW t=>⟨rfl,?_,s,?_⟩⟩
 ·have n:aD (λk=>b<=k) w j:=D.p0.trans (E.p (F:=λq=>q=p) λb hb=>.inl abP) λq h=>J
  have T:aD (λk=>b<=k) w m:=(n.cn d).trans f λq h=>.inl J;have e3:aD (λk=>b<=k) w y:=T.trans (x.p (F:=λq=>q=b) λb hb=>.inl abP) λq h=>.inl J;exact e3.trans (eW.p (F:=λq=>q=b) λb hb=>.inl abP) λq h=>.inl J
 have z4:=x.size;have t:aF w5 b 185 [K (T l),O U (IntKind.i64.wrap ((i:Int)+n)),g.v,s.v]:=t;rw[fe J J]at t;have up:aD (λk=>b<=k) w w5:=by
  have n:aD (λk=>b<=k) w j:=D.p0.trans (E.p (F:=λq=>q=p) λb hb=>.inl abP) λq h=>J
  have T:aD (λk=>b<=k) w m:=(n.cn d).trans f λq h=>.inl J;have e3:aD (λk=>b<=k) w y:=T.trans (x.p (F:=λq=>q=b) λb hb=>.inl abP) λq h=>.inl J;exact e3.trans (eW.p (F:=λq=>q=b) λb hb=>.inl abP) λq h=>.inl J
 have aS:=c.gb;obtain⟨SR,oh,aT⟩:=c.blk;have bV:SR=g:=by
  have:aF w0 b 185 [K (T l),O U (i:Int),SR.v,r.v]:=(D.block b H aaV).trans oh;unfold aF at this B;rw[this]at B;simp[Sl.v]at B;cases g;cases SR;simp_all
 subst bV;refine⟨⟨SR,t,SliceF.lO cY X aT up λq h _ hd=>J⟩,?_,c.er.keep λW=>up.block _ W J,aS,hn,N⟩;have e4:nM (b+1) y s _:=Y.keep λq h W=>x.block q W abK;exact e4.keep λq h W=>eW.block q W abK
abbrev Tq:=Int×aH×Int×Nat
def pz(m:aH):Except Int Tq:=
 if 24<I (m.takeWhile fk) then .error 2 else .ok (if mh.contains (m.takeWhile fk)then 2 else 1,m.takeWhile fk,0,I (m.takeWhile fk))
def uV(m:aH):Except Int Tq:=
 if(fR m).2.2≠0 then .error (fR m).2.2 else if(fR m).2.1<I (m.takeWhile fk) then .error 4 else .ok (3,[],(fR m).1,(fR m).2.1)
def pT:aH:=[123,125,40,41,91,93,59,44,61,43,45,42,47,37,60,62,33]
def sU(m:aH):Bool:=match m with
 | c::d::_=>(d==61&&[60,62,61,33].contains c)||(d==c&&[38,124].contains c)||(c==45&&d==62)
 | _=>aL
def jA(m:aH):Nat:=if sU m then 2 else match m with
 | c::_=>if pT.contains c then 1 else 0
 | []=>0
def qh(m:aH):Except Int Tq:=if jA m=0 then .error 4 else .ok (4,m.take (jA m),0,jA m)
def nq(m:aH):Except Int Tq:=match m with
 | []=>.error 4
 | c::_=>if fZ c then pz m else if du c then uV m else qh m
def Tl(w:M)(b:Nat)(l:aH)(i:Nat)(a:List Tk)(r:Except Int Tq)(v:aw):Prop:=match r with
 | .error e=>v=O U e/\∃s,Cut w b l i s a
 | .ok q=>v=O U 0/\∃s,Cut w b l (i+q.2.2.2) s (a++[⟨q.1,q.2.1,q.2.2.1,i⟩])
def sV{p:UInt8->Bool}{l:aH}:I (l.takeWhile p)<=I l:=by
 rw[oE,ch];exact Nat.min_le_right _ _
def afo{c:M}{b:Nat}{l:aH}{i:Nat}{r:Sl}{a:List Tk}(h:Cut c b l i r a)(g:I a<=16384):
  az Q 148 #[ae (aM ⟨b,0,aaf⟩)] c λe w=>∃v,e=ak v/\aD (λk=>b<=k) c w/\Tl w b l i a (pz (l.drop i)) v:=by
 refine alf ⟨b,0,aaf⟩ (λv w=>aD (λk=>b<=k) c w/\Tl w b l i a (pz (l.drop i)) v) c ?_;obtain⟨s,d,f⟩:=h.blk;have m:=h.ll;refine(UW d h.il J).mono ?_;rintro _ o ⟨rfl,D⟩;have j:I ((l.drop i).takeWhile fk)<=(I l)-i:=by
  have:=sV (p:=fk) (l:=l.drop i);rwa[cG]at this
 have n:=h.il;refine⟨_,rfl,λhc=>⟨D.p0,?_⟩,λhc=>?_⟩
 ·rw[cJ]at hc;rw[pz,aV abL];exact⟨rfl,r,h.only D⟩
 rw[cJ]at hc;have hc:¬24<I ((l.drop i).takeWhile fk):=abO
 rw[pz,aR hc];generalize t:(l.drop i).takeWhile fk=b at*
 have p:=h.only D;obtain⟨S,q,e⟩:=p.blk;refine⟨λk w=>k=(if mh.contains b then 2 else 1)/\Z [] c w,?_,S,Blk.dM q 2 rfl,(vJ e b).mono ?_⟩
 ·rintro _ k ⟨rfl,E⟩;refine(ret (adf (T b) (λv w=>v=K (T b)/\Z [] k w) k ?_)).mono ?_
  ·refine(Tryz.stringslite_Clone (T b) k abN).mono ?_;rintro _ u ⟨rfl,f⟩;exact⟨_,rfl,rfl,Only.tI f⟩
  rintro _ x ⟨rfl,R⟩;rw[cJ];refine⟨_,rfl,(O8 (h.only (E.cn R)) _ b 0 0 (I b) J g).mono ?_⟩;rintro _ y ⟨rfl,v,u,C⟩;exact⟨rfl,(E.cn R).oQ v,rfl,u,C⟩
 rintro _ k ⟨rfl,W⟩;refine⟨_,rfl,λd=>⟨by rw[aV d],D.cn W⟩,λd=>⟨by rw[d];rfl,D.cn W⟩⟩
def U0{w:M}{b:Nat}{l:aH}{i:Nat}{r:Sl}{a:List Tk}(h:Cut w b l i r a)(d:I a<=16384):
  az Q 150 #[ae (aM ⟨b,0,aaf⟩)] w λe c=>∃v,e=ak v/\aD (λk=>b<=k) w c/\Tl c b l i a (uV (l.drop i)) v:=by
 refine alh ⟨b,0,aaf⟩ (λv c=>aD (λk=>b<=k) w c/\Tl c b l i a (uV (l.drop i)) v) w ?_;obtain⟨s,f,n⟩:=h.blk;have g:=h.ll;have m:=h.il;refine(C3 f h.il).mono ?_;rintro _ o ⟨rfl,D⟩;have y:I (l.drop i)=(I l)-i:=cG;refine⟨_,rfl,(UY (h.er.only D) J).mono ?_⟩;rintro _ q ⟨rfl,E⟩;have j:=D.cn E;refine⟨_,_,_,rfl,λhe=>⟨j.p0,?_⟩,λhe=>?_⟩
 ·rw[uV,aV abX];exact⟨rfl,r,h.only j⟩
 have he:¬(fR (l.drop i)).2.2≠0:=abX
 have hk:(fR (l.drop i)).2.1<=I (l.drop i):=by
  have:=sV (p:=du) (l:=l.drop i);unfold fR;split
  ·exact bm _
  split
  ·exact bm _
  split
  ·exact this
  exact bm _
 obtain⟨S,k,e⟩:=(h.only j).blk;refine(UW k h.il J).mono ?_;rintro _ t ⟨rfl,R⟩;have b:=j.cn R;refine⟨_,rfl,?_⟩;dsimp only;rw[cJ];refine⟨λhc=>⟨b.p0,?_⟩,λhc=>?_⟩
 ·rw[uV,aR he,aV abL];exact⟨rfl,r,h.only b⟩
 rw[uV,aR he,aR abO];refine(O8 (h.only b) 3 [] _ 0 (fR (l.drop i)).2.1 J d).mono ?_;rintro _ v ⟨rfl,u,p,C⟩;exact⟨rfl,b.oQ u,rfl,p,C⟩
def vK(w:M)(p:Addr)(n:Nat)(a:Addr):(w.freeze p n).cell? a=w.cell? a:=by
 unfold World.freeze;split
 ·rfl
 unfold World.cell?;simp only[Eh];by_cases N:p.block=a.block
 ·rw[aV N];rcases h:w.heap[a.block]? with _|o
  ·rfl
  cases o with
  | cells c e f=>obtain⟨l,h⟩:=f;rfl
  | _=>rfl
 rw[aR N]
def vL(w:M)(p:Addr)(n:Nat):aD (λk=>k=p.block) w (w.freeze p n):=by
 unfold World.freeze;split
 ·exact OnlyP.refl _ _
 exact⟨rfl,rfl,rfl,aaV,λk hk h=>by
  simp only[Eh];rw[aR λe=>h e.symm]⟩
def afp{w:M}{F:aJ}{s:Sl}{g B:Nat}{l:aH}(b:s.a=aM ⟨g,0,aaf⟩)(i:Own mB 1 5 B w F s l)(W:g<w.heap.size):
  ∃d,(convert 197 197 (Sl.v s)).run Q w=.ok (Sl.v s) d/\aA mB 1 d (λ_=>True) s l/\aD (λk=>k=g) w d:=by
 have h:=yO i;obtain⟨p,c,tail,a,o,f,_⟩:=i.resolve_left (λe=>by rw[e.1]at b;cases b);rw[b]at a;injection a with a;injection a with a;subst a;have t:w.shape? g=aM (5,(c.flatten++tail).toArray.size):=by
  unfold World.shape?;unfold aF at f;rw[f]
 have m:Tryz.prog.underlying 197=aM (.slice 5):=aaz
 have u:Tryz.prog.underlying 5=aM (.int .u8):=aaz
 refine⟨w.freeze ⟨g,(c.flatten++tail).toArray.size,aaf⟩ 1,?_,⟨h.len,h.cap,h.nil0,h.big,λn x j=>?_⟩,vL w ⟨g,(c.flatten++tail).toArray.size,aaf⟩ 1⟩
 ·unfold Sl.v;rw[b];simp[convert,run_underlying m,run_underlying u,markStringish,t,Result.andThen]
 obtain⟨s,e,k,C,r,y,z⟩:=h.at_ n x j;exact⟨s,e,k,trivial,r,λq v A=>by rw[vK];exact y q v A,z⟩
def O9{c d:UInt8}:((c.toNat:Int)==(d.toNat:Int))=(c==d):=by
 rw[bM];simp only[db];constructor
 ·intro h;exact YL.1 J
 rintro rfl;rfl
def RM{m:aH}(h:sU m=L):2<=I m:=by
 match m,h with
 | _::_::_,_=>simp
def yP{m:aH}:jA m<=I m:=by
 unfold jA;split
 ·exact RM (by assumption)
 split
 ·split
  ·simp
  exact bm _
 exact bm _
def afq{f:M}{b:Nat}{l:aH}{i:Nat}{q:Sl}{a:List Tk}(j:Cut f b l i q a)(t:I a<=16384)(B:i<I l):
  az Q 151 #[ae (aM ⟨b,0,aaf⟩)] f λe w=>∃v,e=ak v/\aD (λk=>b<=k) f w/\Tl w b l i a (qh (l.drop i)) v:=by
 refine ali ⟨b,0,aaf⟩ (λv w=>aD (λk=>b<=k) f w/\Tl w b l i a (qh (l.drop i)) v) f ?_;obtain⟨C,h,p⟩:=j.blk;have x:=j.ll;have z:=j.il;refine(C3 h j.il).mono ?_;rintro _ o ⟨rfl,D⟩;have y:I (l.drop i)=(I l)-i:=cG;generalize A:l.drop i=m at*
 obtain⟨c,r,rfl⟩:∃c r,m=c::r:=by
  cases m with
  | nil=>simp at y;omega
  | cons c r=>exact⟨c,r,rfl⟩
 have g:(0:Int)<=0/\(T (c::r))[0]? =aM c:=⟨jm _,agM⟩
 refine⟨T (c::r),rfl,λu w=>u=(if pT.contains c then 1 else 0:Int)/\Z [] f w,?_,c,g,?_⟩
 ·rintro _ F ⟨rfl,E⟩;refine⟨λk w=>k=(jA (c::r):Int)/\Z [] f w,?_,λb w=>b=sU (c::r)/\Z [] f w,?_,?_,?_⟩
  ·rintro _ b ⟨rfl,R⟩;refine⟨λhz=>⟨R.p0,?_⟩,λhz=>⟨jA (c::r),⟨rfl,by rw[cJ];exact yP⟩,?_⟩⟩
   ·rw[qh,aV (by have:(jA (c::r):Int)=0:=ae7;omega)];exact⟨rfl,q,j.only R⟩
   have hz:¬jA (c::r)=0:=by
    intro e;rw[e]at hz;simp at hz
   rw[qh,aR hz,vq,jl,BH];have n:=yP (m:=c::r);refine(ret (adf (T _) (λv w=>v=K (T ((c::r).take (jA (c::r))))/\Z [] b w) b ?_)).mono ?_
   ·refine(Tryz.stringslite_Clone (T _) b (by rw[cJ,ch];omega)).mono ?_;rintro _ c ⟨rfl,p⟩;exact⟨_,rfl,rfl,Only.tI p⟩
   rintro _ v ⟨rfl,d⟩;refine⟨_,rfl,(O8 (j.only (R.cn d)) 4 _ 0 0 (jA (c::r)) J t).mono ?_⟩;rintro _ G ⟨rfl,W,s,e⟩;exact⟨rfl,(R.cn d).oQ W,rfl,s,e⟩
  ·rintro _ b ⟨rfl,W⟩;refine⟨λhs=>⟨by rw[jA,aV hs];rfl,W⟩,λhs=>⟨?_,W⟩⟩;have e:jA (c::r)=if pT.contains c then 1 else 0:=by rw[jA,aR ad3]
   rw[e];split<;>rfl
  ·intro b;rw[cJ]at b;obtain⟨d,r,rfl⟩:∃d e,r=d::e:=by
    cases r with
    | nil=>simp at b
    | cons d r=>exact⟨d,r,rfl⟩
   have N:(0:Int)<=1/\(T (c::d::r))[1]? =aM d:=⟨X,agM⟩
   have ex:(T (c::d::r)).extract 0 2=T [c,d]:=by rw[vq];rfl
   have sz:2<=(T (c::d::r)).size:=by rw[cJ];simp
   have R:(ao #[45,62])=T [45,62]:=rfl;have H:((T [c,d]).toList==(T [45,62]).toList)=(c==45&&d==62):=by
    rw[iV,bM];simp
   have G:((d.toNat:Int)==61)=(d==61):=O9 (d:=61);have W:sU (c::d::r)=((d==61&&[60,62,61,33].contains c)||(d==c&&[38,124].contains c)||(c==45&&d==62)):=rfl;rw[W];generalize P:([60,62,61,33]:aH).contains c=p1;generalize V:([38,124]:aH).contains c=p2;have Y:((((T (c::d::r)).extract 0 2).toList)==((ao #[45,62]).toList))=(c==45&&d==62):=by rw[ex,R,H]
   refine⟨d,N,λv=>⟨c,g,λw6 dY=>?_⟩,λv=>⟨d,N,c,g,λS=>⟨c,g,λdL eh=>?_⟩,λS=>⟨sz,λfU eS=>⟨?_,E.cn eS⟩⟩⟩⟩
   ·rw[G]at v;obtain⟨s,w7,k1,k2,k3,_⟩:=uk w6 [60,62,61,33] (n:=4) (parts:=#[(0,.int .u8 60),(1,.int .u8 62),(2,.int .u8 61),(3,.int .u8 33)]) rfl rfl X X;refine⟨s,w7,k1,(JF (yO k2) c).mono ?_⟩;rintro _ w8 ⟨rfl,fy⟩;have T:=E.cn (dY.cn (k3.cn fy));rw[P];refine⟨_,rfl,λh=>⟨by rw[v,h];rfl,T⟩,λh=>⟨d,N,c,g,λS=>⟨c,g,?_⟩,λS=>⟨sz,?_,T⟩⟩⟩
    ·rw[O9]at S;obtain⟨s,w9,k1,k2,k3,_⟩:=uk w8 [38,124] (n:=2) (parts:=#[(0,.int .u8 38),(1,.int .u8 124)]) rfl rfl X X;refine⟨s,w9,k1,(JF (yO k2) c).mono ?_⟩;rintro _ dA ⟨rfl,dR⟩;have hO:=T.cn (k3.cn dR);rw[V];exact⟨_,rfl,λd=>⟨by rw[v,h,S,d];rfl,hO⟩,λd=>⟨sz,by rw[Y,v,h,S,d];rfl,hO⟩⟩
    rw[O9]at S;rw[Y,v,h,S];rfl
   ·rw[G]at v;rw[O9]at S;obtain⟨s,ez,k1,k2,k3,_⟩:=uk dL [38,124] (n:=2) (parts:=#[(0,.int .u8 38),(1,.int .u8 124)]) rfl rfl X X;refine⟨s,ez,k1,(JF (yO k2) c).mono ?_⟩;rintro _ fj ⟨rfl,dV⟩;have T:=E.cn (eh.cn (k3.cn dV));rw[V];exact⟨_,rfl,λd=>⟨by rw[v,S,d];rfl,T⟩,λd=>⟨sz,by rw[Y,v,S,d];rfl,T⟩⟩
   rw[G]at v;rw[O9]at S;rw[Y,v,S];rfl
  intro c n e;rw[cJ]at c;have b:r=[]:=by
   cases r with
   | nil=>rfl
   | cons d r=>exact absurd (aQ c) (by simp only[ba];omega)
  subst b;exact⟨rfl,E.cn e⟩
 obtain⟨s,N,S,e,k3,v⟩:=uk o pT (n:=17) (parts:=#[(0,.int .u8 123),(1,.int .u8 125),(2,.int .u8 40),(3,.int .u8 41),(4,.int .u8 91),(5,.int .u8 93),(6,.int .u8 59),(7,.int .u8 44),(8,.int .u8 61),(9,.int .u8 43),(10,.int .u8 45),(11,.int .u8 42),(12,.int .u8 47),(13,.int .u8 37),(14,.int .u8 60),(15,.int .u8 62),(16,.int .u8 33)]) rfl rfl X X;obtain⟨d,E,G,H⟩:=afp v e (e.blk v).2;have P:Z [] o d:=((k3.p0 (F:=λk=>o.heap.size<=k)).trans H λk hk=>.inl J).only λk hk=>hk;refine⟨s,N,S,s,d,E,(JF G c).mono ?_⟩;rintro _ T ⟨rfl,R⟩;have b:=D.cn (P.cn R);exact⟨_,rfl,λh=>⟨by rw[aV h],b⟩,λh=>⟨by rw[h];rfl,b⟩⟩
def Tl.int{w:M}{b:Nat}{l:aH}{i:Nat}{a:List Tk}{r:Except Int Tq}{v:aw}(h:Tl w b l i a r v):∃k:Int,v=O U k:=by
 unfold Tl at h;split at h
 ·exact⟨_,h.1⟩
 exact⟨_,h.1⟩
def aai{w:M}{b:Nat}{l:aH}{i:Nat}{r:Sl}{a:List Tk}(h:Cut w b l i r a)(d:I a<=16384)(m:i<I l):
  az Q 104 #[ae (aM ⟨b,0,aaf⟩)] w λe c=>∃v,e=ak v/\aD (λk=>b<=k) w c/\Tl c b l i a (nq (l.drop i)) v:=by
 refine akM ⟨b,0,aaf⟩ (λv c=>aD (λk=>b<=k) w c/\Tl c b l i a (nq (l.drop i)) v) w ?_;obtain⟨s,g,p⟩:=h.blk;have hx:l[i]? =aM l[i]:=bh m;generalize l[i]=x at hx;have t:nq (l.drop i)=if fZ x then pz (l.drop i)else if du x then uV (l.drop i)else qh (l.drop i):=by
  rw[oG hx];rfl
 rw[t];refine⟨T l,Blk.dM g 0 rfl,i,Blk.dM g 1 rfl,x,⟨aZ i,adV⟩,λn D=>(C2 n x).mono ?_⟩;rintro _ o ⟨rfl,E⟩;have j:=D.cn E;refine⟨_,rfl,λf=>?_,λf=>(O5 o x).mono ?_⟩
 ·rw[aV f];refine(afo (h.only j) d).mono ?_;rintro _ b ⟨v,rfl,R,hd⟩;obtain⟨k,rfl⟩:=hd.int;exact⟨k,rfl,j.oQ R,hd⟩
 rintro _ q ⟨rfl,e⟩;have b:=j.cn e;rw[aR (by rw[f];decide)];refine⟨_,rfl,λhd=>?_,λhd=>?_⟩
 ·rw[aV hd];refine(U0 (h.only b) d).mono ?_;rintro _ u ⟨v,rfl,R,hd⟩;obtain⟨k,rfl⟩:=hd.int;exact⟨k,rfl,b.oQ R,hd⟩
 rw[aR (by rw[hd];decide)];refine(afq (h.only b) d m).mono ?_;rintro _ u ⟨v,rfl,R,hd⟩;obtain⟨k,rfl⟩:=hd.int;exact⟨k,rfl,b.oQ R,hd⟩
def wM{m:aH}{q:Tq}(h:nq m=.ok q):1<=q.2.2.2:=by
 cases m with
 | nil=>cases h
 | cons c r=>
  simp only[nq]at h;split at h
  ·rename_i a;unfold pz at h;split at h
   ·cases h
   injection h with h;subst h;have:fk c=L:=by unfold fk;rw[a];rfl
   dsimp only;rw[dD,aV this,ba];omega
  split at h
  ·rename_i c;unfold uV at h;split at h
   ·cases h
   split at h
   ·cases h
   rename_i b a;injection h with h;subst h;dsimp only;rw[dD,aV (by unfold fk;rw[c,oV]),ba]at a;omega
  unfold qh at h;split at h
  ·cases h
  injection h with h;subst h;dsimp only;omega
def G5{m:aH}{e:Int}(h:nq m=.error e):e≠0:=by
 cases m with
 | nil=>injection h with h;omega
 | cons c r=>
  simp only[nq]at h;split at h
  ·unfold pz at h;split at h
   ·injection h with h;omega
   cases h
  split at h
  ·unfold uV at h;split at h
   ·injection h with h;omega
   split at h
   ·injection h with h;omega
   cases h
  unfold qh at h;split at h
  ·injection h with h;omega
  cases h
def C5(l:aH):Nat->Nat->Except (Int×Nat) (List Tk)
 | 0,_=>.ok []
 | f+1,i=>
  if (I l)<=i+lj aL (l.drop i)then .ok [⟨5,[],0,(i+lj aL (l.drop i):Nat)⟩]
  else match nq (l.drop (i+lj aL (l.drop i)))with
   | .error e=>.error (e,i+lj aL (l.drop i))
   | .ok q=>match C5 l f (i+lj aL (l.drop i)+q.2.2.2)with
    | .error x=>.error x
    | .ok r=>.ok (⟨q.1,q.2.1,q.2.2.1,(i+lj aL (l.drop i):Nat)⟩::r)
def U1{l:aH}:(fR l).2.1<=I l:=by
 have:=sV (p:=du) (l:=l);unfold fR;split
 ·exact bm _
 split
 ·exact bm _
 split
 ·exact this
 exact bm _
def C6{m:aH}{q:Tq}(h:nq m=.ok q):q.2.2.2<=I m:=by
 cases m with
 | nil=>cases h
 | cons c r=>
  simp only[nq]at h;split at h
  ·unfold pz at h;split at h
   ·cases h
   injection h with h;subst h;exact sV
  split at h
  ·unfold uV at h;split at h
   ·cases h
   split at h
   ·cases h
   injection h with h;subst h;exact U1
  unfold qh at h;split at h
  ·cases h
  injection h with h;subst h;exact yP
def JI{l:aH}{i:Nat}(h:i<=I l):i+lj aL (l.drop i)<=I l:=by
 have:=G3 (b:=aL) (l:=l.drop i);rw[cG]at this;omega
def JJ(l:aH):∀(f g i:Nat),i<=(I l)->I l<i+f->I l<i+g->C5 l f i=C5 l g i
 | 0,_,i,a,h,_=>J
 | _,0,i,a,_,h=>J
 | f+1,g+1,i,b,h,a=>by
  rw[C5,C5];split
  ·rfl
  split
  ·rfl
  rename_i q c;have e:=wM c;have d:=C6 c;rw[cG]at d;rw[JJ l f g _ J J J]
def lG(l:aH)(i:Nat):Except (Int×Nat) (List Tk):=C5 l (I l+1) i
def ni{l:aH}{i:Nat}(h:i<=I l):lG l i=if (I l)<=i+lj aL (l.drop i)then .ok [⟨5,[],0,(i+lj aL (l.drop i):Nat)⟩]
  else match nq (l.drop (i+lj aL (l.drop i)))with
   | .error e=>.error (e,i+lj aL (l.drop i))
   | .ok q=>match lG l (i+lj aL (l.drop i)+q.2.2.2)with
    | .error x=>.error x
    | .ok r=>.ok (⟨q.1,q.2.1,q.2.2.1,(i+lj aL (l.drop i):Nat)⟩::r):=by
 unfold lG;rw[C5];split
 ·rfl
 split
 ·rfl
 rename_i q a;have c:=wM a;have b:=C6 a;rw[cG]at b;rw[JJ l (I l) (I l+1) _ J J J]
def dl(l:aH):List Tk×Int×Int:=if 16384<I l then([],2, -1)else match lG l 0 with
 | .error x=>([],x.1,(x.2:Nat))
 | .ok r=>(r,0,0)
def kq(a:List Tk):Except (Int×Nat) (List Tk)->Except (Int×Nat) (List Tk)
 | .error x=>.error x
 | .ok r=>.ok (a++r)
def rA(b:Bool):∀(l:aH),lj aL (l.drop (lj b l))=0
 | []=>by simp[lj]
 | c::r=>by
  cases b
  ·rw[lj];split
   ·rw[fV,pu];exact rA _ r
   split
   ·rw[fV,pu];exact rA _ r
   rename_i h a;rw[jl,lj,aR h,aR a]
  rw[lj,fV,pu];exact rA _ r
def oH{l:aH}{i:Nat}(h:i<=I l):lG l i=lG l (i+lj aL (l.drop i)):=by
 have a:=JI h;have b:lj aL (l.drop (i+lj aL (l.drop i)))=0:=by
  rw[<-ki];exact rA aL (l.drop i)
 rw[ni h,ni a,b,eE]
def Pa{a b:List Tk}{x:Except (Int×Nat) (List Tk)}:kq a (kq b x)=kq (a++b) x:=by
 cases x with
 | error _=>rfl
 | ok r=>simp[kq]
def JK{w:M}(l:aH)(d:Er w):
  az Q 70 #[K (T l)] w λe a=>∃r:Sl,e=ak (ai #[r.v,ah #[O U (dl l).2.1,O U (dl l).2.2]])/\nM w.heap.size a r (dl l).1/\Z [] w a:=by
 refine iW (akw _ ?_);rw[cJ];refine⟨λhc g i _ _ h=>⟨Sl.nil,?_,?_,h⟩,λhc c f m j E=>(O7 f).mono ?_⟩
 ·rw[dl,aV abL]
 ·rw[dl,aV abL];exact Own.nil _ _ _ _ _ _
 have L6:I l<=16384:=abO
 have t:dl l=match lG l 0 with
  | .error x=>([],x.1,(x.2:Nat))
  | .ok b=>(b,0,0):=by rw[dl,aR J]
 rintro _ w2 ⟨z,rfl,G,R⟩;refine⟨z,rfl,R.same aba,λb y hb oh B s=>?_⟩;have V:=E.cn (R.cn B);have z1:=E.size;have z2:=R.size;have z3:=B.size;have C:Cut y b l 0 Sl.nil []:=⟨⟨z,s,(SliceF.only cY X ((uM G).inHeap cY X) B aaV).mono cY λk hk=>J⟩,Own.nil _ _ _ _ _ _,d.only V,by have:=d.lt;omega,bm _,L6⟩
 have sm:∀{H u':M},w2.heap.size<=H.heap.size->aD (λk=>b<=k) H u'->cr [c] H u':=λhu h=>h.same (by intro x hx;simp only[aP]at hx;subst hx;omega);refine(UX s (bm _) J).mono ?_;rintro _ w4 ⟨rfl,W,p⟩;have Y:aD (λk=>b<=k) y w4:=W.p λx hx=>.inl abF;have D:Cut w4 b l (0+lj aL (l.drop 0)) Sl.nil []:=C.move W (JI (bm _)) λS u=>by
  have:S=z:=by
   unfold aF at u s;rw[u]at s;simp[Sl.v]at s;cases z;cases S;simp_all
  subst this;exact p
 refine⟨rfl,sm J Y,T l,_,z,Sl.nil,p,λP e1 e2 s0 i0 A N a=>e1=0/\e2=0/\s0=T l/\∃(n:Nat) (o:List Tk),i0=(n:Int)/\Cut a b l n N o/\I o<=n/\lj aL (l.drop n)=0/\lG l 0=kq o (lG l n)/\P=(I l)-n/\aD (λk=>b<=k) y a/\aF a b 185 [K (T l),O U (n:Int),A.v,N.v],(I l)-(0+lj aL (l.drop 0)),?_,?_⟩
 ·refine⟨rfl,rfl,rfl,_,[],rfl,D,bm _,?_,?_,rfl,Y,p⟩
  ·rw[<-ki];exact rA aL (l.drop 0)
  rw[<-oH (bm _)];cases lG l 0<;>rfl
 rintro P _ _ _ _ A r w5 ⟨rfl,rfl,rfl,n,o,rfl,hC,fi,aS,nY,rfl,eW,Tw⟩;have z5:=eW.size;have L7:=hC.il;refine(adh Tw).mono ?_;rintro _ w6 ⟨rfl,dY⟩;have am:=hC.only dY;have aC:aF w6 b 185 [K (T l),O U (n:Int),A.v,r.v]:=(dY.block b Tw.lt aaV).trans Tw;have z6:=dY.size;have lP:=ni hC.il;rw[aS,eE]at lP;refine⟨_,rfl,dY.same aba,T l,n,A,r,aC,λhc=>?_,λhc=>?_⟩
 ·have bW:n<I l:=abv
  rw[aR J]at lP;refine(aai am J bW).mono ?_;rintro _ w7 ⟨v,rfl,gq,hd⟩;have p7:aD (λk=>b<=k) y w7:=(eW.cn dY).trans gq λk hk=>.inl hk;have z7:=gq.size;unfold Tl at hd;cases hq:nq (l.drop n)with
  | error e=>
   rw[hq]at hd lP;obtain⟨rfl,q,b⟩:=hd;obtain⟨v,Zm,_⟩:=b.blk;refine⟨e,rfl,sm J gq,T l,n,v,q,Zm,λ_ w8 fy _=>⟨Sl.nil,?_,?_,?_⟩,λhe=>absurd (G5 hq) abX⟩
   ·rw[t,nY,lP];rfl
   ·rw[t,nY,lP];exact Own.nil _ _ _ _ _ _
   exact(((V.p0 (F:=λk=>w.heap.size<=k)).trans p7 λk hk=>.inl J).trans (fy.p (F:=λk=>k=c) λx hx=>.inl ab5) λk hk=>.inl J).only λk hk=>hk
  | ok q=>
   rw[hq]at hd lP;obtain⟨rfl,bV,F⟩:=hd;obtain⟨e,Zm,_⟩:=F.blk;have cc:=wM hq;have v:=F.il;refine⟨0,rfl,sm J gq,T l,(n+q.2.2.2:Nat),e,bV,Zm,λhe=>(by simp at he),λ_=>(UX Zm v J).mono ?_⟩;rintro _ w9 ⟨rfl,gp,aT⟩;have p9:aD (λk=>b<=k) w7 w9:=gp.p λx hx=>.inl abF;have bY:=F.move gp (JI v) λS u=>by
    have:S=e:=by
     unfold aF at u Zm;rw[u]at Zm;simp[Sl.v]at Zm;cases e;cases S;simp_all
    subst this;exact aT
   refine⟨rfl,sm J p9,T l,_,e,bV,aT,(I l)-(n+q.2.2.2+lj aL (l.drop (n+q.2.2.2))),J,rfl,rfl,rfl,_,_,rfl,bY,?_,?_,?_,rfl,p7.trans p9 λk hk=>.inl hk,aT⟩
   ·rw[aO,bI];omega
   ·rw[<-ki];exact rA aL _
   rw[nY,lP,<-oH v,<-Pa];dsimp only;cases lG l (n+q.2.2.2)<;>rfl
 have nA:I l<=n:=abv
 rw[aV nA]at lP;refine(O8 am 5 [] 0 0 0 J J).mono ?_;rintro _ dA ⟨rfl,dR,e,q⟩;obtain⟨co,cC,_⟩:=q.blk;have dO:aD (λk=>b<=k) y dA:=(eW.cn dY).trans dR λk hk=>.inl hk;have v:dl l=(o++[⟨5,[],0,(n:Nat)⟩],0,0):=by
  rw[t,nY,lP];rfl
 refine⟨rfl,sm J dR,T l,_,co,e,cC,λdL eh _=>⟨e,?_,?_,?_⟩⟩
 ·rw[v]
 ·rw[v];have:nM (b+1) dL e _:=q.own.keep λk hk x=>eh.block k x abK;exact Own.low this J
 exact(((V.p0 (F:=λk=>w.heap.size<=k)).trans dO λk hk=>.inl J).trans (eh.p (F:=λk=>k=c) λx hx=>.inl ab5) λk hk=>.inl J).only λk hk=>hk
inductive Ex where
 | mk (k n:Int) (s:aH) (op:Int) (subs:List Ex) (a:Int)
def Ex.k:Ex->Int | .mk k _ _ _ _ _=>k
def Ex.n:Ex->Int | .mk _ n _ _ _ _=>n
def Ex.s:Ex->aH | .mk _ _ s _ _ _=>s
def Ex.op:Ex->Int | .mk _ _ _ op _ _=>op
def Ex.dC:Ex->List Ex | .mk _ _ _ _ l _=>l
def Ex.a:Ex->Int | .mk _ _ _ _ _ a=>a
def tk0:Tk:=⟨5,[],0, -1⟩
def tk(t:List Tk)(i:Nat):Tk:=(t[i]?).getD tk0
def sg(t:List Tk)(i:Nat)(s:aH):Bool:=(tk t i).k==4&&decide ((tk t i).t=s)
def gF(t:List Tk)(i:Nat):Int×Int:=(if(tk t i).k=5 then 3 else 4,(tk t i).a)
def C7{t:List Tk}{i:Nat}(h:i<I t):t[i]? =aM (tk t i):=by
 unfold tk;rw[bh h];rfl
def xj(t:List Tk):Prop:=∀i,i<(I t)->((tk t i).k=5↔i+1=I t)
def xj.next{t:List Tk}(h:xj t){i:Nat}(a:i<I t)(hk:(tk t i).k≠5):i+1<I t:=by
 have b:¬(i+1=I t):=λe=>hk ((h i a).2 e);omega
def xn{t:List Tk}{i:Nat}{s:aH}(h:sg t i s=L):(tk t i).k≠5:=by
 simp only[sg,aU,db]at h;rw[h.1];decide
def xM:List (aH):=[[],[43],[45],[42],[47],[37],[60],[60,61],[62],[62,61],[61,61],[33,61],[38,38],[124,124],[45],[33]]
def fP(op:Int):Int:=if 3<=op/\op<=5 then 5 else if op=1∨op=2 then 4 else if 6<=op/\op<=9 then 3 else if op=10∨op=11 then 2 else if op=12 then 1 else if op=13 then 0 else 6
def eX(op:Nat):aH:=(xM[op]?).getD []
def mj(t:List Tk)(k:Int)(i:Nat):Nat->Nat->Int
 | 0,_=>0
 | f+1,op=>if fP (op:Int)=k/\sg t i (eX op)=L then(op:Int)else mj t k i f (op+1)
def lH(t:List Tk)(k:Int)(i:Nat):Int:=mj t k i 13 1
def sW{t:List Tk}{k:Int}{i:Nat}:∀(f op:Nat),mj t k i f op≠0->(tk t i).k≠5
 | 0,_,h=>absurd rfl h
 | f+1,op,h=>by
  rw[mj]at h;split at h
  ·rename_i c;exact xn c.2
  exact sW f _ h
abbrev Pr:=Except (Int×Int) (Ex×Nat)
def JL(g:Ex->Ex):Pr->Pr
 | .error e=>.error e
 | .ok (x,j)=>.ok (g x,j)
def JM:Pr->(Ex->Nat->Pr)->Pr
 | .error e,_=>.error e
 | .ok (x,j),g=>g x j
def ul(t:List Tk):Pr->Pr
 | .error e=>.error e
 | .ok (x,j)=>if sg t j [41]then .ok (x,j+1)else .error (gF t j)
def jN(d:Nat)(a:Int)(r:Pr):Pr:=if d=20 then .error (21,a)else r
def Ej(t:List Tk)(i:Nat):Pr:=
 if sg t (i+1) [40]then
  (if(tk t (i+2)).k=1 then
   (if sg t (i+3) [41]then .ok (.mk 3 0 (tk t (i+2)).t 0 [] (tk t i).a,i+4)else .error (gF t (i+3)))
  else .error (gF t (i+2)))
 else .error (gF t (i+1))
def qt(t:List Tk)(E DL:Nat->Pr)(d i:Nat):Pr:=
 if(sg t i [45]||sg t i [33])=L then JL (λx=>.mk 4 0 [] (if(tk t i).t=[33]then 15 else 14) [x] (tk t i).a) (jN d (tk t i).a (DL (i+1)))
 else if sg t i [40]=L then jN d (tk t i).a (ul t (E (i+1)))
 else if(tk t i).k=3 then .ok (.mk 1 (tk t i).n [] 0 [] (tk t i).a,i+1)
 else if(tk t i).k=1 then .ok (.mk 2 0 (tk t i).t 0 [] (tk t i).a,i+1)
 else if(tk t i).k=2/\(tk t i).t=[105,110]then Ej t i
 else .error (gF t i)
def kP(t:List Tk)(E:Nat->Pr)(k:Int):Nat->Ex->Nat->Pr
 | 0,x,j=>.ok (x,j)
 | g+1,x,j=>if lH t k j=0 then .ok (x,j)else JM (E (j+1)) λy a=>kP t E k g (.mk 5 0 [] (lH t k j) [x,y] x.a) a
def dH(t:List Tk):Nat->Nat->Nat->Nat->Pr
 | 0,_,_,_=>.error (1,0)
 | f+1,k,d,i=>if k=6 then qt t (dH t f 0 (d+1)) (dH t f 6 (d+1)) d i else JM (dH t f (k+1) d i) λx j=>kP t (dH t f (k+1) d) (k:Int) ((I t)-j) x j
def BP{g:Ex->Ex}{r:Pr}{x:Ex}{j:Nat}(h:JL g r=.ok (x,j)):∃y,r=.ok (y,j)/\x=g y:=by
 cases r with
 | error e=>cases h
 | ok q=>
  obtain⟨y,a⟩:=q;simp only[JL,gr,gP]at h;obtain⟨rfl,rfl⟩:=h;exact⟨y,rfl,rfl⟩
def sX{d:Nat}{a:Int}{r:Pr}{q:Ex×Nat}(h:jN d a r=.ok q):r=.ok q/\d≠20:=by
 unfold jN at h;split at h
 ·cases h
 exact⟨h,by assumption⟩
def BQ{t:List Tk}{r:Pr}{x:Ex}{a:Nat}(h:ul t r=.ok (x,a)):∃j,r=.ok (x,j)/\sg t j [41]=L/\a=j+1:=by
 cases r with
 | error e=>cases h
 | ok q=>
  obtain⟨y,j⟩:=q;simp only[ul]at h;split at h
  ·simp only[gr,gP]at h;obtain⟨rfl,rfl⟩:=h;exact⟨j,rfl,by assumption,rfl⟩
  cases h
def BR{r:Pr}{g:Ex->Nat->Pr}{q:Ex×Nat}(h:JM r g=.ok q):∃x j,r=.ok (x,j)/\g x j=.ok q:=by
 cases r with
 | error e=>cases h
 | ok p=>exact⟨p.1,p.2,rfl,h⟩
def MW{t:List Tk}{i:Nat}{x:Ex}{j:Nat}(h:Ej t i=.ok (x,j)):j=i+4/\x=.mk 3 0 (tk t (i+2)).t 0 [] (tk t i).a:=by
 unfold Ej at h;split at h
 ·split at h
  ·split at h
   ·simp only[gr,gP]at h;exact⟨h.2.symm,h.1.symm⟩
   cases h
  cases h
 cases h
def RN{t:List Tk}{E DL:Nat->Pr}{d i:Nat}{x:Ex}{j:Nat}(a:∀i x j,E i=.ok (x,j)->i<j)(b:∀i x j,DL i=.ok (x,j)->i<j)(h:qt t E DL d i=.ok (x,j)):i<j:=by
 unfold qt at h;split at h
 ·obtain⟨y,c,_⟩:=BP h;have:=b _ _ _ (sX c).1;omega
 split at h
 ·obtain⟨d,c,_,rfl⟩:=BQ (sX h).1;have:=a _ _ _ c;omega
 split at h
 ·simp only[gr,gP]at h;omega
 split at h
 ·simp only[gr,gP]at h;omega
 split at h
 ·have:=(MW h).1;omega
 cases h
def C8{t:List Tk}{E:Nat->Pr}{k:Int}(h:∀i x j,E i=.ok (x,j)->i<j):∀(g:Nat) (x:Ex) (j:Nat) {b:Ex} {a:Nat},kP t E k g x j=.ok (b,a)->j<=a
 | 0,x,j,b,a,c=>by
  simp only[kP,gr,gP]at c;omega
 | g+1,x,j,b,a,c=>by
  rw[kP]at c;split at c
  ·simp only[gr,gP]at c;omega
  obtain⟨y,m,d,e⟩:=BR c;have:=h _ _ _ d;have:=C8 h g _ _ e;omega
def mS{t:List Tk}:∀(f k d i:Nat) {x:Ex} {j:Nat},dH t f k d i=.ok (x,j)->i<j
 | 0,_,_,_,_,_,h=>abG
 | f+1,k,d,i,x,j,h=>by
  rw[dH]at h;split at h
  ·exact RN (λi x j h=>mS f _ _ i h) (λi x j h=>mS f _ _ i h) h
  obtain⟨y,m,a,b⟩:=BR h;have:=mS f _ _ _ a;have:=C8 (λi x j h=>mS f _ _ i h) _ _ _ b;omega
def gH(k d:Nat):Nat:=(20-d)*8+(7-k)
def xN(t:List Tk)(i:Nat):Pr:=dH t (gH 0 0) 0 0 i
structure Rd (F G:aJ) (ts:List Tk) (w:M) (b:Nat) (l sn:Sl) (i:Nat) (fc fa d:Int):Prop where
 blk:aF w b 310 [l.v,O U (i:Int),O U fc,O U fa,O U d,sn.v]
 tok:aA Iy 4 w F l ts
 sig:aA ke 1 w G sn xM
 hF:∀k,F k->k<b
 hG:∀k,G k->k<b
 en:xj ts
 lt:i<I ts
section
variable {F G:aJ} {ts:List Tk} {w w':M} {b:Nat} {l sn:Sl} {i:Nat} {fc fa d:Int}
def Rd.only(h:Rd F G ts w b l sn i fc fa d)(a:Z [] w w'):Rd F G ts w' b l sn i fc fa d:=
 ⟨a.blk h.blk aaV,SliceF.only iX X h.tok a aaV,SliceF.only cY X h.sig a aaV,h.hF,h.hG,h.en,h.lt⟩
def Rd.kY(h:Rd F G ts w b l sn i fc fa d)(g:Z [b] w w'){a:Nat}{c f e:Int}(B:aF w' b 310 [l.v,O U (a:Int),O U c,O U f,O U e,sn.v])(j:a<I ts):Rd F G ts w' b l sn a c f e:=
 ⟨B,SliceF.only iX X h.tok g λk hk _ hm=>by have:=h.hF k hk;simp only[aP]at hm;omega,SliceF.only cY X h.sig g λk hk _ hm=>ab6,h.hF,h.hG,h.en,j⟩
def Rd.own(h:Rd F G ts w b l sn i fc fa d){s:List Nat}(a:Z s w w')(hb:∀x,x∈s->b<x):Rd F G ts w' b l sn i fc fa d:=
 ⟨a.blk h.blk λhm=>by have:=hb b hm;omega,SliceF.only iX X h.tok a λk hk _ hm=>adn,SliceF.only cY X h.sig a λk hk _ hm=>(by have:=h.hG k hk;have:=hb k hm;omega),h.hF,h.hG,h.en,h.lt⟩
def Rd.lb(h:Rd F G ts w b l sn i fc fa d):b<w.heap.size:=h.blk.lt
def Rd.big(h:Rd F G ts w b l sn i fc fa d):I ts<=9223372036854775807:=by
 have a:=h.tok.len;have c:=h.tok.cap;have e:=h.tok.big;omega
def Rd.now(h:Rd F G ts w b l sn i fc fa d):∃ad,cT l (i:Int) 4 ad/\aB w ad [O U (tk ts i).k,K (T (tk ts i).t),O U (tk ts i).n,O U (tk ts i).a]:=by
 have k:=h.tok.len;have W:=h.lt;obtain⟨ad,x,s,c,g,f,j,e,a⟩:=h.tok.get (aZ i) J;rw[aW,C7 h.lt]at g;injection g with g;subst g;unfold Iy at a;subst a;exact⟨ad,c,e⟩
def JN(j:Rd F G ts w b l sn i fc fa d):az Q 297 #[ae (aM ⟨b,0,aaf⟩)] w λe w'=>e=ak (tk ts i).v/\Z [] w w':=by
 refine ret (arK _ ?_);intro k m hk J a;have h:=j.only a;obtain⟨ad,g,f⟩:=h.now;exact⟨l,Blk.dM h.blk 0 rfl,_,Blk.dM h.blk 1 rfl,ad,g,_,_,_,_,f,λn c=>⟨rfl,a.new c hk⟩⟩
def Ff(h:Rd F G ts w b l sn i fc fa d):az Q 250 #[ae (aM ⟨b,0,aaf⟩)] w λe w'=>e=ak (aj (fc !=0))/\Z [] w w':=by
 refine ret (v7w _ ?_);exact⟨fc,Blk.dM h.blk 2 rfl,rfl,Only.refl _ _⟩
def G6(h:Rd F G ts w b l sn i fc fa d)(c:Int):az Q 309 #[ae (aM ⟨b,0,aaf⟩),O U c] w λe w'=>e=ak (ai #[])/\Z [b] w w'/\
  Rd F G ts w' b l sn i (if fc=0 then c else fc) (if fc=0 then(tk ts i).a else fa) d:=by
 refine ret (arR _ _ ?_);refine(Ff h).mono ?_;rintro _ f ⟨rfl,D⟩;have a:=h.only D;refine⟨_,rfl,λhc=>(JN a).mono ?_,λhc=>?_⟩
 ·have hc:fc=0:=abv
  subst hc;rintro _ w ⟨rfl,c⟩;have d:=a.only c;refine⟨_,_,_,_,rfl,b,2,_,_,rfl,d.blk,aaV,λg R n=>⟨rfl,(D.cn c).weaken (λ_ h=>abG) |>.trans R (λx e=>.inl e),?_⟩⟩;rw[aV rfl,aV rfl];exact d.kY R n h.lt
 have hc:fc≠0:=abv
 rw[aR hc,aR hc];exact⟨rfl,D.weaken λ_ h=>abG,a⟩
def G7(h:Rd F G ts w b l sn i fc fa d):az Q 303 #[ae (aM ⟨b,0,aaf⟩)] w λe w'=>e=ak (ai #[])/\Z [b] w w'/\
  Rd F G ts w' b l sn i (if fc=0 then(gF ts i).1 else fc) (if fc=0 then(gF ts i).2 else fa) d:=by
 refine ret (arO _ ?_);refine⟨λw'=>Z [b] w w'/\((tk ts i).k=5->Rd F G ts w' b l sn i (if fc=0 then 3 else fc) (if fc=0 then(tk ts i).a else fa) d)/\((tk ts i).k≠5->Rd F G ts w' b l sn i fc fa d),?_,(JN h).mono ?_⟩
 ·rintro w ⟨c,h,a⟩;by_cases hk:(tk ts i).k=5
  ·refine(G6 (h hk) 4).mono ?_;rintro _ d ⟨rfl,E,R⟩;refine⟨rfl,rfl,c.trans E (λx b=>.inl b),?_⟩;unfold gF;rw[aV hk];by_cases hc:fc=0
   ·rw[aV hc,aV hc,aR X,aR X]at R;rw[aV hc,aV hc];exact R
   rw[aR hc,aR hc,aR hc,aR hc]at R;rw[aR hc,aR hc];exact R
  refine(G6 (a hk) 4).mono ?_;rintro _ d ⟨rfl,E,R⟩;refine⟨rfl,rfl,c.trans E (λx b=>.inl b),?_⟩;unfold gF;rw[aR hk];exact R
 rintro _ w ⟨rfl,c⟩;have a:=h.only c;refine⟨_,_,_,_,rfl,λhc=>(G6 a 3).mono ?_,λhc=>⟨c.weaken λ_ h=>abG,λe=>?_,λ_=>a⟩⟩
 ·rintro _ f ⟨rfl,d,R⟩;exact⟨rfl,c.weaken (λ_ h=>abG) |>.trans d (λx b=>.inl b),λ_=>R,λe=>absurd abv e⟩
 rw[e]at hc;simp at hc
def alY(h:Rd F G ts w b l sn i fc fa d){H:aJ}{s:Sl}{g:List (aH)}(m:aA ke 1 w H s g):az Q 298 #[ae (aM ⟨b,0,aaf⟩),s.v] w λe w'=>
  e=ak (aj (fc==0&&(tk ts i).k==4&&g.contains (tk ts i).t))/\Z [] w w':=by
 refine ret (v8w _ _ ?_);refine(JN h).mono ?_;rintro _ o ⟨rfl,D⟩;refine⟨_,_,_,_,rfl,λn p hk J E=>⟨λc w'=>c=(fc==0&&(tk ts i).k==4&&g.contains (tk ts i).t)/\Z [] w w',λc q k=>⟨by rw[k.1],k.2⟩,?_⟩⟩;have j:=D.cn E;refine(Ff (h.only j)).mono ?_;rintro _ r ⟨rfl,a⟩;have e:(!(fc !=0))=(fc==0):=by cases h:(fc==0)<;>simp[bne,h]
 refine⟨_,rfl,a.same aba,λf=>(vJ (SliceF.only cY X m (j.cn a) aaV) _).mono ?_,λf=>⟨?_,j.cn a⟩⟩
 ·rintro _ w ⟨rfl,d⟩;rw[e]at f;have l:=h.lb;have z:=a.size;exact⟨_,rfl,d.same aba,by rw[f,cm],j.cn (a.cn d)⟩
 rw[e]at f;rw[f,cV]
def is1(h:Rd F G ts w b l sn i fc fa d)(s:aH):∃(c:Sl) (a:M),(au 32 1 #[.mk 0 (K (T s))]).run Q w=.ok c.v a/\Z [] w a/\
  az Q 298 #[ae (aM ⟨b,0,aaf⟩),c.v] a λe w'=>e=ak (aj (fc==0&&sg ts i s))/\Z [] a w':=by
 obtain⟨c,a,k,f,k3⟩:=kl w [s] (n:=1) (parts:=#[(0,K (T s))]) rfl rfl X X;refine⟨c,a,k,k3,(alY (h.only k3) (uM f)).mono ?_⟩;rintro _ g ⟨rfl,E⟩;have e:[s].contains (tk ts i).t=decide ((tk ts i).t=s):=by
  by_cases e:(tk ts i).t=s
  ·rw[bE e,e];simp
  rw[bD e];simp[e]
 refine⟨?_,E⟩;unfold sg;rw[rq,e]
def is2(h:Rd F G ts w b l sn i fc fa d):∃(s:Sl) (a:M),(au 32 2 #[.mk 0 (K (ao #[45])),.mk 1 (K (ao #[33]))]).run Q w=.ok s.v a/\Z [] w a/\
  az Q 298 #[ae (aM ⟨b,0,aaf⟩),s.v] a λe w'=>e=ak (aj (fc==0&&(sg ts i [45]||sg ts i [33])))/\Z [] a w':=by
 obtain⟨s,a,k,f,k3⟩:=kl w [[45],[33]] (n:=2) (parts:=#[(0,K (T [45])),(1,K (T [33]))]) rfl rfl X X;refine⟨s,a,k,k3,(alY (h.only k3) (uM f)).mono ?_⟩;rintro _ g ⟨rfl,c⟩;have e:[[45],[33]].contains (tk ts i).t=(decide ((tk ts i).t=[45])||decide ((tk ts i).t=[33])):=by
  rw[bM];simp
 refine⟨?_,c⟩;unfold sg;rw[rq,<-Bool.and_or_distrib_left,e]
def C9(h:Rd F G ts w b l sn i fc fa d)(s:aH):az Q 301 #[ae (aM ⟨b,0,aaf⟩),K (T s)] w λe w'=>e=ak (ai #[])/\Z [b] w w'/\
  (if fc==0&&sg ts i s then Rd F G ts w' b l sn (i+1) fc fa d else Rd F G ts w' b l sn i (if fc=0 then(gF ts i).1 else fc) (if fc=0 then(gF ts i).2 else fa) d):=by
 refine ret (v9w _ _ ?_);obtain⟨g,m,f,k,k3⟩:=is1 h s;refine⟨g,m,f,k3.mono ?_⟩;rintro _ n ⟨rfl,E⟩;have a:=h.only (k.cn E);have j:Z [b] w n:=(k.cn E).weaken λ_ h=>abG
 refine⟨_,rfl,λc=>(G7 a).mono ?_,λc=>?_⟩
 ·rintro _ w ⟨rfl,R,h⟩;have c:(fc==0&&sg ts i s)=aL:=by rwa[dr]at c
  rw[c];exact⟨rfl,rfl,j.trans R (λx b=>.inl b),h⟩
 have c:(fc==0&&sg ts i s)=L:=by rwa[gY]at c
 rw[c];simp only[aU]at c;have e:=h.en.next h.lt (xn c.2);have o:=h.big;refine⟨(i:Int),Blk.dM a.blk 1 rfl,b,1,_,_,rfl,a.blk,aaV,λw d t=>⟨rfl,j.trans d (λx l=>.inl l),a.kY d ?_ e⟩⟩;rw[fe J J]at t;exact t
def Pb(h:Rd F G ts w b l sn i fc fa d):az Q 302 #[ae (aM ⟨b,0,aaf⟩)] w λe w'=>Z [b] w w'/\
  (if fc=0/\(tk ts i).k=1 then e=ak (K (T (tk ts i).t))/\Rd F G ts w' b l sn (i+1) fc fa d else e=ak (K (T []))/\Rd F G ts w' b l sn i (if fc=0 then(gF ts i).1 else fc) (if fc=0 then(gF ts i).2 else fa) d):=by
 refine(arN ⟨b,0,aaf⟩ (λv w'=>Z [b] w w'/\(if fc=0/\(tk ts i).k=1 then v=(K (T (tk ts i).t))/\Rd F G ts w' b l sn (i+1) fc fa d else v=(K (T []))/\Rd F G ts w' b l sn i (if fc=0 then(gF ts i).1 else fc) (if fc=0 then(gF ts i).2 else fa) d)) w ?_).mono (by
  rintro e w' ⟨v,rfl,b,h⟩;refine⟨b,?_⟩;split at h
  ·rename_i hc;rw[aV hc];exact⟨by rw[h.1],h.2⟩
  rename_i hc;rw[aR hc];exact⟨by rw[h.1],h.2⟩)
 refine(JN h).mono ?_;rintro _ o ⟨rfl,D⟩;refine⟨_,_,_,_,rfl,λn p hk k E=>?_⟩;have j:=D.cn E;have z:=D.size;have g:=h.lb;refine(Ff (h.only j)).mono ?_;rintro _ f ⟨rfl,c⟩;have q:=c.size;have a:=h.only (j.cn c);have m:Z [b] w f:=(j.cn c).weaken λ_ h=>abG
 refine⟨_,rfl,c.same aba,λhc=>(G7 a).mono ?_,λhc=>?_⟩
 ·rintro _ w ⟨rfl,d,R⟩;refine⟨rfl,d.same aba,m.trans d (λx b=>.inl b),?_⟩;rw[aR (λh=>by rw[h.1,h.2]at hc;simp at hc)];exact⟨rfl,R⟩
 have hc:fc=0/\(tk ts i).k=1:=abv
 have e:=h.en.next h.lt (by rw[hc.2];decide);have r:=h.big;refine⟨(i:Int),Blk.dM a.blk 1 rfl,b,1,_,_,rfl,a.blk,aaV,J,λw d t=>⟨m.trans d (λx l=>.inl l),?_⟩⟩;rw[aV hc];refine⟨rfl,a.kY d ?_ e⟩;rw[fe J J]at t;exact t
end
end Go.Proofs.YtfemabakfkliiaaGreatDoor.Con
