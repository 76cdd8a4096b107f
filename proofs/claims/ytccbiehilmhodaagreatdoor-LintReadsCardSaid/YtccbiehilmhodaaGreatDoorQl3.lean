import Derived.Test.YtccbiehilmhodaaGreatDoorQl2
set_option linter.defProp false
set_option linter.unusedSectionVars false
set_option linter.unusedVariables false
set_option maxRecDepth 100000
set_option maxHeartbeats 40000000
set_option linter.unusedSimpArgs false
open Bool renaming true->aF,false->aM
open Option renaming some->Hg,none->ZQ
open List renaming length->Z8
open Decidable renaming decide->VM
namespace Go.Proofs.YtccbiehilmhodaaGreatDoor.Vc
open Go.Value renaming int->O,string->ae,pointer->ah,agg->ai,tuple->aj,bool->ak
open Go.IntKind renaming i64->U,wrap->au
open Go.Ending renaming returned->ao
open _root_.ByteArray renaming mk->aq
open _root_.Go.Proofs.Tryz renaming prog->ar
open Go.Instr renaming buildSlice->av
open Go renaming World->aw,Value->ay,Calls->aA
open Go.Kt renaming Only->az,SliceF->aB,Cells->aD,OnlyP->aE,Blk->aG
open Go Go.RowKit Go.Kt Go.Kt.V
variable {R:aH}{w:aw}
def alt{p:Addr}{x:Int}{a d b:M}{e f g h:Sl}{i deep:Int}(j:P w λk c=>xH (λl=>F [k] 208 #[N p,bS x a d b e f g h i,O U (au U (deep+1))] l λm=>F [k] 206 #[N p,O U deep,ae (aq #[125])] m λn=>R (aj #[]) n) λJ=>Q (x==3) ((8+(a.size:Int))<=9223372036854775807/\((((aq #[104,105,115,116,111,114,121,32])++a).size:Int)+4)<=9223372036854775807/\(((((aq #[104,105,115,116,111,114,121,32])++a)++(aq #[32,45,62,32])).size:Int)+(b.size:Int))<=9223372036854775807/\((((((aq #[104,105,115,116,111,114,121,32])++a)++(aq #[32,45,62,32]))++b).size:Int)+1)<=9223372036854775807/\F [k] 206 #[N p,O U deep,ae (((((aq #[104,105,115,116,111,114,121,32])++a)++(aq #[32,45,62,32]))++b)++(aq #[59]))] c λo=>R (aj #[]) o) (Q (x==4) ((5+(a.size:Int))<=9223372036854775807/\((((aq #[100,101,101,112,32])++a).size:Int)+4)<=9223372036854775807/\(((((aq #[100,101,101,112,32])++a)++(aq #[32,45,62,32])).size:Int)+(b.size:Int))<=9223372036854775807/\((((((aq #[100,101,101,112,32])++a)++(aq #[32,45,62,32]))++b).size:Int)+1)<=9223372036854775807/\F [k] 206 #[N p,O U deep,ae (((((aq #[100,101,101,112,32])++a)++(aq #[32,45,62,32]))++b)++(aq #[59]))] c λq=>R (aj #[]) q) (Q (x==1) ((6+(a.size:Int))<=9223372036854775807/\((((aq #[115,116,97,116,101,32])++a).size:Int)+2)<=9223372036854775807/\F [k] 206 #[N p,O U deep,ae (((aq #[115,116,97,116,101,32])++a)++(aq #[32,123]))] c λr=>J r) ((9+(a.size:Int))<=9223372036854775807/\((((aq #[112,97,114,97,108,108,101,108,32])++a).size:Int)+2)<=9223372036854775807/\F [k] 206 #[N p,O U deep,ae (((aq #[112,97,114,97,108,108,101,108,32])++a)++(aq #[32,123]))] c λs=>J s)))):G 265 #[N p,bS x a d b e f g h i,O U deep] w R:=
 fC (.s .o (.j [0,2,4] [] .o .o)) j
def alu{l n:Sl}(s:Fg (-1) 0 w λq v i a m=>Q ((VM (a<(l.n:Int)))&&(VM ((n.n:Int)>0))) (ob (λt A=>nx v λx=>q x t (au U (a+1)) A) λJ=>Fg aF 0 m λr y b d c=>Q (VM (d<(n.n:Int))) (Z0 n d c λu=>cB 67 #[l.v,O U u,O U a] c λe o=>∃p,(b=aF->e=aM->cM n d 1 p)/\∃f,(b=aF->e=aM->aD o p [O U f])/\nx y λz=>r z (b&&(e||(f==a))) (au U (d+1)) o) (∃j,(b=aF->(VM (i<0))=aM->cM l a 5 j)/\∃g,(b=aF->(VM (i<0))=aM->aD c (j.add 3) [O U g])/\∃k,(b=aF->(VM (i<0))=aM->cM l i 5 k)/\∃h,(b=aF->(VM (i<0))=aM->aD c (k.add 3) [O U h])/\Q (b&&((VM (i<0))||(VM (g>h)))) (o0 c λB=>J a B) (o0 c λC=>J i C))) (R (O U i) m)):G 268 #[l.v,n.v] w R:=
 fC (.d 2 (.s (.s .o (.j [0,1] [.s 5 E,.s 6 E] (.s .o (.j [0,1,6] [.s 5 E] (.s .o (.s (.s .o (.j [0,1,5,6] [.s 7 .bool,.s 8 E] .o .o)) .o)) .o)) .o)) .o)) s
def arU{s r:M}(R:aH)(w:aw)(h:∃k:Nat,((VM ((s.size:Int)>=(r.size:Int)))=aF->(r.size:Int)=(k:Int)/\k<=s.size)/\R (ak ((VM ((s.size:Int)>=(r.size:Int)))&&(((s.extract 0 k).toList)==r.toList))) w):G 247 #[ae s,ae r] w R:=
 iA h
def arV{s e:M}(R:aH)(w:aw)(h:cI 300 #[ae s,ae e] w λi b=>Q (VM (i>=0)) (∃k:Nat,(i=(k:Int)/\k<=s.size)/\∃a:Nat,((au U (i+(e.size:Int)))=(a:Int)/\a<=s.size)/\o0 b λc=>R (aj #[ae (s.extract 0 k),ae (s.extract a s.size),ak aF]) c) (R (aj #[ae s,ae (aq #[]),ak aM]) b)):G 248 #[ae s,ae e] w R:=
 iA h
def alv{c:Addr}(k:cS 181 #[N c] w λs n=>nr 0 n λf l i b=>ob (λg d=>Q g (nx l λm=>f m (au U (i+1)) d) (∃k3:Nat,(i=(k3:Int)/\k3<=s.size)/\R (ae (s.extract 0 k3)) d)) λJ=>Q (VM (i<(s.size:Int))) (∃c0:UInt8,(0<=i/\(s[Int.toNat i]?)=(Hg c0))/\cB 183 #[.int .u8 (UInt8.toNat c0:Int)] b λh e=>Q h (J aF e) (∃a:UInt8,(0<=i/\(s[Int.toNat i]?)=(Hg a))/\cB 185 #[.int .u8 (UInt8.toNat a:Int)] e λj o=>J j o)) (J aM b)):G 249 #[N c] w R:=
 fC (.d 3 (.s (.j [3] [.s 4 E] (.s (.s (.j [3,4] [.s 22 .bool] .o .o) .o) .o) .o) .o)) k
def alw{s:Sl}{v:M}(h:cI 188 #[s.v,ae v] w λi a=>R (ak (VM (i>=0))) a):G 250 #[s.v,ae v] w R:=
 iA h
def ac7(s:M)(R:aH)(w:aw)(h:cS 301 #[ae s] w λa b=>R (ae a) b):G 251 #[ae s] w R:=
 iA h
def v0w{s:M}(l:nr 0 w λg n i d=>ob (λh a=>Q h (nx n λo=>g o (au U (i+1)) a) (Q (s.toList==((aq #[]).toList)) (R (aj #[O U 0,O U 0,O U 3]) a) (ob (λj e=>Q j (R (aj #[O U 0,O U 0,O U 4]) e) (∃k3:Nat,(i=(k3:Int)/\k3<=s.size)/\acU 303 #[ae (s.extract 0 k3),O U 10,O U 64] e λm v f=>M3 v.v/\Q (!(T2 v.v)) (R (aj #[O U 0,O U 0,O U 20]) f) (R (aj #[O U m,O U i,O U 0]) f))) λb=>Q (i==0) (b (i==0) a) (∃c0:UInt8,((VM (i>1))=aF->(0:Int)<=0/\s[0]? =(Hg c0))/\b ((VM (i>1))&&((UInt8.toNat c0:Int)==48)) a)))) λJ=>Q (VM (i<(s.size:Int))) (∃c:UInt8,(0<=i/\(s[Int.toNat i]?)=(Hg c))/\cB 302 #[.int .u8 (UInt8.toNat c:Int)] d λk p=>J k p) (J aM d)):G 252 #[ae s] w R:=
 fC (.d 2 (.s (.j [0] [.s 5 E] (.s (.s (.j [0,5] [.s 17 .bool] .o .o) .o) .o) .o) (.s (.d 2 (.j [0,5] [.s 23 .bool] .o .o)) .o))) l
def alx{c:Addr}(C:P w λk S=>jM [k] 78 #[N c] S λy t=>Q (!y) (∀u,az [k] t u->R (bN 0 0 (aq #[]) 0 Sl.nil 0) u) (o0 t λh=>∃J:aK,o0 h λv=>J ((c.add 0).block)/\jp v (c.add 0) λL=>o0 v λx=>J ((c.add 1).block)/\A x (c.add 1) λD=>o0 x λb=>kZ [k] 304 #[L.v,O U D] b λm n s o r p E q F d=>oa h b d/\cj J b d/\o0 d λi=>∀a,h.heap.size<=a->a<i.heap.size->yT [.mk b.heap.size d.heap.size] a->Q (q !=0) (∀j,az [a,k] i j->sT (c.add 2) j 2 λf k3 T H=>k≠f/\a≠f/\sS j f k3 T H [O U q,O U F] λB=>∀z,az [k] B z->R (bN m n s o r p) z) (∀e,az [a,k] i e->sT (c.add 1) e 1 λg I V K=>k≠g/\a≠g/\sS e g I V K [O U E] λM=>∀l,az [k] M l->R (bN m n s o r p) l))):G 253 #[N c] w R:=
 fC (.d 2 (.s (.l aM [] []) .o)) C
def aly(r:Addr){sign:M}(read:OV){R:aH}(w:aw)(h:lp0 w λe j m=>ob (λf a=>Q f (∃k:Nat,∃z d,read.v=(.func (.func k) z.toArray d.toArray)/\(∀x:Array ay,∀b,((callFunc k x).run ar b)=(.ok (.enter k x) b))/\cU k ((yQ (yQ z []) d).toArray) a λn=>nx j λk3=>e k3 n) (R (aj #[]) a)) λJ=>cB 78 #[N (r.add 0)] m λg c=>Q g (nG 37 (ae sign) c λl o=>cI 75 #[N (r.add 0),l.v] o λi p=>J (i==0) p) (J aM c)):G 254 #[N r,ae sign,read.v] w R:=
 fB (an:=.j [0,1,2] [] (.s (.s (.j [0,1,2] [.s 18 .bool] .o .o) .o) .o) .o) (args:=[.ad r,.str sign,.raw read]) h
def alz{m B:Addr}(h:o0 w λa=>∃J:aK,J m.block/\jp a m λp=>Wn a B λt=>yV 256 #[ah t] a λi u e f v g q j k b=>cj J a b/\nG 24 (iy i u e f v g q j k) b λr c=>cj J b c/\yY 24 p r c λs d=>cj J c d/\sT m d 1 λl n z o=>sS d l n z o [s.v] λx=>R (aj #[]) x):G 255 #[N m,N B] w R:=
 iA h
def alA{r:Addr}(am:P w λa g=>∃J:aK,o0 g λY=>J (((r.add 0).add 0).block)/\jp Y ((r.add 0).add 0) λl0=>o0 Y λZ=>J (((r.add 0).add 1).block)/\A Z ((r.add 0).add 1) λi0=>∃p0,cM l0 i0 4 p0/\o0 Z λw3=>J ((p0.add 3).block)/\A w3 (p0.add 3) λd=>o0 w3 λb=>BI 37 (ae (aq #[115,101,116])) (ae (aq #[114,97,105,115,101])) (ae (aq #[101,109,105,116])) b λl1 c=>cF [a] b c/\oa g b c/\cj J b c/\o0 c λh=>pC [a] 138 #[N (r.add 0),l1.v] h λi j=>oa g h j/\cj J h j/\o0 j λt=>∀k,g.heap.size<=k->k<t.heap.size->yT [.mk h.heap.size j.heap.size,.mk b.heap.size c.heap.size] k->Q (i==0) (∀w9,az [k] t w9->F [a,k] 79 #[N (r.add 0)] w9 λdk=>∀z,az [a] dk z->R (iy i (aq #[]) 0 0 (aq #[]) 0 Sl.nil 0 d) z) (∀u,az [k] t u->F [a,k] 135 #[N r,N ((r.add 4).add 4),O U 2] u λeM=>jM [a,k] 78 #[N (r.add 0)] eM λb0 f=>Q (!b0) (∀V,az [a] f V->R (iy i (aq #[]) 0 0 (aq #[]) 0 Sl.nil 0 d) V) (A f ((r.add 0).add 1) λi3=>sT ((r.add 0).add 1) f 1 λq k3 z0 k4=>a≠q/\k≠q/\sS f q k3 z0 k4 [O U (au U (i3+1))] λiO=>qx [a,k] 190 #[N (r.add 0)] iO λS iz=>∀e,az [k] iz e->∃l:Int->M->Int->Int->M->Int->Sl->Int->Int->aw->Prop,(∀v T x y W B,∀I:Sl,∀C D s,l v T x y W B I C D s->nG 37 (ae (aq #[59])) s λl3 H=>cF [a,k] s H/\F [a,k] 73 #[N (r.add 0),l3.v] H λmD=>∀L,az [a] mD L->R (iy v T x y W B I C D) L)/\Q (i !=2) (nG 37 (ae (aq #[61])) e λl4 X=>cF [a,k] e X/\F [a,k] 73 #[N (r.add 0),l4.v] X λvh=>fp [a,k] 253 #[N (r.add 0)] vh λm n s3 o l5 p pN=>∀K,az [k] pN K->l i S m n s3 o l5 p d K) (l i S 0 0 (aq #[]) 0 Sl.nil 0 d e)))):G 256 #[N r] w R:=
 fC (.s .o (.s (.l aM [] []) (.d 4 (.j [0,2,3] [.b 3 [E,.str,E,E,.str,E,.sl,E,E]] .o .o)))) am
def ac8{b:Addr}(h:Wn w (b.add 0) λl=>Q l.isNone (∃v:OV,∃e,((convert 272 361 (N b)).run ar w)=(.ok v.v e)/\∃d:OV,∃f,((Rw 341 #[v.v]).run ar e)=(.ok d.v f)/\∃q a,((convert 361 272 d.v).run ar f)=(.ok (ah q) a)/\sT (b.add 0) a 1 λk i z j=>sS a k i z j [ah q] λn=>R (aj #[]) n) (Wn w (b.add 0) λm=>∃c g,((binOp .neq 272 (ah m) (N b)).run ar w)=(.ok (ak c) g)/\Q c (False) (R (aj #[]) g))):G 311 #[N b] w R:=
 iA h
def ac9(s:Sl)(d:OV)(R:aH)(l:aw):Prop:=
 cI 345 #[s.v,d.v] l λa e=>Q (a==(-1)) (R s.v e) (Fg a (au U (a+1)) e λg k i b w=>Q (VM (b<(s.n:Int))) (ob (λh m=>nx k λj=>g j h (au U (b+1)) m) λJ=>Dd s b w λc=>∃k3:Nat,∃z f,d.v=(.func (.func k3) z.toArray f.toArray)/\
   (∀x:Array ay,∀r,((callFunc k3 x).run ar r)=(.ok (.enter k3 x) r))/\
   cB k3 ((yQ (yQ z [ae c]) f).toArray) w λu p=>Q (!u) (∃q,cM s i 1 q/\
    sT q p 1 λs v B y=>sS p s v B y [ae c] λA=>J (au U (i+1)) A) (J i p)) (∃n:Nat,(i=(n:Int)/\
   n<=s.n/\
   s.n<=s.c)/\
  ∃t,((Builtin.clear_ #[37] 0 #[(s.cut n s.n s.c 1).v]).run ar w)=(.ok (aj #[]) t)/\
  ∃o:Nat,(i=(o:Int)/\
   o<=s.c)/\
  R ((s.cut 0 o s.c 1).v) t))
def alB(s:Sl)(d:OV)(R:aH)(w:aw)(h:ac9 s d R w):G 315 #[s.v,d.v] w R:=
 fB (an:=.d 3 (.s (.s .o (.j [0,1] [.s 5 (.int .i64),.s 6 (.int .i64)] (.s .o (.j [0,1,6] [.s 5 (.int .i64)] .o .o)) .o)) .o)) (args:=[.sl s,.raw d]) h
def alC{s:M}{R:aH}(w:aw)(h:R (ak (s.toList==((aq #[]).toList))) w):G 316 #[ae s] w R:=
 iA h
def alD{p:Addr}{a:Int}{y:M}{H g:Int}{E:M}{h:Int}{I:Sl}{t T:Int}(v:P w λk r=>Z3 37 (ae (aq #[])) (ae (aq #[115,101,116])) (ae (aq #[114,97,105,115,101])) (ae (aq #[101,109,105,116])) r λo c=>cF [k] r c/\Q ((VM (a<1))||(VM (a>3))) (F [k] 224 #[N p,ak aM] c λS=>R (ae (aq #[])) S) (Q (a==2) (F [k] 320 #[N p,bN H g E h I t] c λV=>o0 V λj=>∃b:aK,b k/\∃p0,cM o a 1 p0/\b p0.block/\Eo j p0 λB=>qx [k] 226 #[N p,ae y] j λC e=>cj b j e/\LD 37 (ae B) (ae C) e λx f=>cF [k] e f/\cj b e f/\qx [k] 277 #[x.v] f λs u=>cj b f u/\((s.size:Int)+1)<=9223372036854775807/\R (ae (s++(aq #[59]))) u) (o0 c λl=>∃J:aK,J k/\∃i,cM o a 1 i/\J i.block/\Eo l i λD=>J k/\qx [k] 226 #[N p,ae y] l λK m=>cj J l m/\qx [k] 319 #[N p,bN H g E h I t] m λL d=>cj J m d/\Z3 37 (ae D) (ae K) (ae (aq #[61])) (ae L) d λA z=>cF [k] d z/\cj J d z/\qx [k] 277 #[A.v] z λq n=>cj J z n/\((q.size:Int)+1)<=9223372036854775807/\R (ae (q++(aq #[59]))) n))):G 318 #[N p,iy a y H g E h I t T] w R:=
 iA v
def alE{p:Addr}{x a:Int}{b:M}{c:Int}{d:Sl}{e:Int}(h:P w λk f=>qx [k] 347 #[bN x a b c d e] f λs g=>F [k] 224 #[N p,ak (!(s.toList==((aq #[]).toList)))] g λi=>R (ae s) i):G 319 #[N p,bN x a b c d e] w R:=
 iA h
def alF{p:Addr}{x a:Int}{b:M}{c:Int}{d:Sl}{g:Int}(h:P w λk e=>F [k] 224 #[N p,ak (((((x==0)&&(a==0))&&(b.toList==((aq #[]).toList)))&&(c==0))&&((d.n:Int)==0))] e λf=>R (aj #[]) f):G 320 #[N p,bN x a b c d g] w R:=
 iA h
def arW{c:Int}(h:R (ak ((((VM (c>=65))&&(VM (c<=90)))||((VM (c>=97))&&(VM (c<=122))))||(c==95))) w):G 197 #[.int .u8 c] w R:=
 iA h
def arX{s:M}(h:cL 257 #[] w λl d=>nr 0 d λJ k i a=>Q (VM (i<(l.n:Int))) (Dd l i a λc=>Q (c.toList==s.toList) (R (ak aF) a) (nx k λb=>J b (au U (i+1)) a)) (R (ak aM) a)):G 200 #[ae s] w R:=
 fC (.d 2 (.s (.s .o (.j [0,3] [.s 4 E] .o .o)) .o)) h
def alG(s:M)(a:Int)(R:aH)(d:aw):Prop:=
 ob (λc e=>R (O U c) e) λJ=>nr 0 d λb k i w=>Q (VM ((au U (a+i))<(s.size:Int))) (∃c0:UInt8,(0<=(au U (a+i))/\
   (s[Int.toNat (au U (a+i))]?)=(Hg c0))/\
  cB 197 #[.int .u8 (UInt8.toNat c0:Int)] w λg h=>∃f:UInt8,(0<=(au U (a+i))/\
    (s[Int.toNat (au U (a+i))]?)=(Hg f))/\
   cB 198 #[.int .u8 (UInt8.toNat f:Int)] h λl j=>Q ((!g)&&(!l)) (J i j) (nx k λm=>b m (au U (i+1)) j)) (J i w)
def arY{s:M}{a:Int}(h:alG s a R w):G 199 #[ae s,O U a] w R:=
 fC (.d 2 (.j [] [.s 5 E] (.j [0,1] [.s 5 E] .o .o) .o)) h
def alH{n:Addr}{l:Sl}(y:nr 0 w λs K i a=>Q (VM (i<(l.n:Int))) (A a (n.add 2) λz=>sT (n.add 2) a 1 λL k3 Z M=>sS a L k3 Z M [O U (au U (z+1))] λq=>∃p0,cM l i 9 p0/\Eo q (p0.add 1) λV=>cB 259 #[ae V] q λt r=>∃p,cM l i 9 p/\ja r (p.add 2) λB C W D S F=>cB 338 #[bN B C W D S F] r λu b=>ob (λv c=>∃j,cM l i 9 j/\A c (j.add 0) λg=>∃k,((VM (g<1))=aM->cM l i 9 k)/\∃h,((VM (g<1))=aM->aD c (k.add 0) [O U h])/\Q ((((VM (g<1))||(VM (h>3)))||(!t))||(!v)) (R (ak aM) c) (nx K λP=>s P (au U (i+1)) c)) λJ=>∃m,cM l i 9 m/\A b (m.add 0) λH=>Q (H==2) (∃o,cM l i 9 o/\ja b (o.add 2) λI d X e T f=>cB 339 #[bN I d X e T f] b λx Y=>J x Y) (J u b)) (R (ak aF) a)):G 306 #[N n,l.v] w R:=
 fC (.s .o (.s (.s .o (.j [0,1] [.s 5 E] (.s .o (.s (.d 3 (.j [0,1,5,6] [.s 7 .bool] .o .o)) .o)) .o)) .o)) y
def alI{n:Addr}{m:Int}{X:M}{e:Int}{a:L}{Y c:Int}{d:M}{f:Int}{g:Sl}{h:Int}{H b:Sl}{u:Int}(F:P w λk j=>A j (n.add 1) λI=>sT (n.add 1) j 1 λp K z0 k3=>k≠p/\sS j p K z0 k3 [O U (au U (I+1))] λq=>ob (λv W=>jM [k] 339 #[bN Y c d f g h] W λx r=>ob (λy Z=>jM [k] 306 #[N n,H.v] Z λz w5=>nr 0 w5 λt S i l=>Q (VM (i<(b.n:Int))) (Dd b i l λV=>jM [k] 259 #[ae V] l λB s=>Q (!B) (R (ak aM) s) (nx S λT=>t T (au U (i+1)) s)) (R (ak ((((((VM (m>=1))&&(VM (m<=3)))&&v)&&y)&&z)&&((e==0)||((m==3)&&(VM (e>0)))))) l)) λo=>Q a (jM [k] 338 #[bN Y c d f g h] r λC w8=>o C w8) (o x r)) λJ=>Q (m==1) (jM [k] 259 #[ae X] q λD w9=>J D w9) (J (X.toList==((aq #[]).toList)) q)):G 307 #[N n,dZ m X e a Y c d f g h H b u] w R:=
 fC (.d 3 (.j [0,3] [.s 5 .bool] .o (.s .o (.j [0,3,5] [.s 6 .bool] .o (.s .o (.s (.s .o (.j [3,5,6,7] [.s 8 E] .o .o)) .o)))))) F
def alJ{c:Int}{y:M}{H a:Int}{E:M}{b:Int}{I:Sl}{t T:Int}(l:Q (c==1) (P w λk g=>∃J:aK,J k/\(4+(y.size:Int))<=9223372036854775807/\((((aq #[115,101,116,32])++y).size:Int)+3)<=9223372036854775807/\qx [k] 309 #[bN H a E b I t] g λs h=>cj J g h/\(((((aq #[115,101,116,32])++y)++(aq #[32,61,32])).size:Int)+(s.size:Int))<=9223372036854775807/\((((((aq #[115,101,116,32])++y)++(aq #[32,61,32]))++s).size:Int)+1)<=9223372036854775807/\R (ae (((((aq #[115,101,116,32])++y)++(aq #[32,61,32]))++s)++(aq #[59]))) h) (Q (c==2) ((6+(y.size:Int))<=9223372036854775807/\((((aq #[114,97,105,115,101,32])++y).size:Int)+1)<=9223372036854775807/\P w λn m=>R (ae (((aq #[114,97,105,115,101,32])++y)++(aq #[59]))) m) (P w λf i=>∃e:aK,e f/\(5+(y.size:Int))<=9223372036854775807/\((((aq #[101,109,105,116,32])++y).size:Int)+3)<=9223372036854775807/\qx [f] 309 #[bN H a E b I t] i λd j=>cj e i j/\(((((aq #[101,109,105,116,32])++y)++(aq #[32,61,32])).size:Int)+(d.size:Int))<=9223372036854775807/\((((((aq #[101,109,105,116,32])++y)++(aq #[32,61,32]))++d).size:Int)+1)<=9223372036854775807/\R (ae (((((aq #[101,109,105,116,32])++y)++(aq #[32,61,32]))++d)++(aq #[59]))) j))):G 308 #[iy c y H a E b I t T] w R:=
 iA l
def alK{x a:Int}{b:M}{c:Int}{d:Sl}{e:Int}(h:P w λk f=>ad9 [k] 340 #[bN x a b c d e] f λs i g=>R (ae s) g):G 309 #[bN x a b c d e] w R:=
 iA h
def alM{s:Sl}{v:Int}(h:nr 0 w λJ k i a=>Q (VM (i<(s.n:Int))) (∃p0,cM s i 1 p0/\∃b,aD a p0 [.int .u8 b]/\Q (v==b) (R (O U i) a) (nx k λc=>J c (au U (i+1)) a)) (R (O U (-1)) a)):G 299 #[s.v,.int .u8 v] w R:=
 fC (.s .o (.s (.s .o (.j [0,1,7] [.s 8 E] .o .o)) .o)) h
def v2w{c:Int}(h:R (ak (VM ((au .u8 (c-48))<10))) w):G 302 #[.int .u8 c] w R:=
 iA h
def v4w{l:Sl}{t:Int}(x:uO w λa b T=>pC [a,b] 331 #[l.v,.func (.func 332) #[] #[]] T λy o=>Q (((VM (t<0))||(VM (t>=(l.n:Int))))||(y !=(au U ((l.n:Int)-1)))) (∀p,az [b,a] o p->R (aj #[bN 0 0 (aq #[]) 0 Sl.nil 0,O U 0,vO 1 (-1)]) p) (sH [a,b] 333 #[] o λK V=>P V λk q=>aG q k 357 [l.v,O U t,O U 0,O U 0,O U 0,K.v]->fp [a,b] 334 #[pB k,O U 0] q λA B S C L D r=>Jj r k 357 λM E F H I N=>P r λk3 s=>aG s k 357 [M.v,O U E,O U F,O U H,O U I,N.v]->jM [a,b,k3] 335 #[pB k] s λv j=>Jj j k 357 λf e i c d g=>Q v (o0 j λu=>aG u k 357 [f.v,O U e,O U i,O U c,O U d,g.v]->a≠b->a≠k->a≠k3->b≠k->b≠k3->k≠k3->∃J:aK,J k/\qV J a/\qV J b/\∀m,az [b,a] u m->aG m k 357 [f.v,O U e,O U i,O U c,O U d,g.v]->R (aj #[bN 0 0 (aq #[]) 0 Sl.nil 0,O U 0,vO i c]) m) (o0 j λn=>aG n k 357 [f.v,O U e,O U i,O U c,O U d,g.v]->a≠b->a≠k->a≠k3->b≠k->b≠k3->k≠k3->∃h:aK,h k/\qV h a/\qV h b/\∀z,az [b,a] n z->aG z k 357 [f.v,O U e,O U i,O U c,O U d,g.v]->R (aj #[bN A B S C L D,O U e,vO 0 0]) z))):G 304 #[l.v,O U t] w R:=
 iA x
def alN(s:Sl)(f:OV)(R:aH)(a:aw)(h:nr 0 a λJ g i w=>Q (VM (i<(s.n:Int))) (Dd s i w λj=>∃k:Nat,∃z d,f.v=(.func (.func k) z.toArray d.toArray)/\(∀x:Array ay,∀b,((callFunc k x).run ar b)=(.ok (.enter k x) b))/\cB k ((yQ (yQ z [ae j]) d).toArray) w λe c=>Q e (R (O U i) c) (nx g λk3=>J k3 (au U (i+1)) c)) (R (O U (-1)) w)):G 345 #[s.v,f.v] a R:=
 fB (an:=.s .o (.s (.s .o (.j [0,1,7] [.s 8 (.int .i64)] .o .o)) .o)) (args:=[.sl s,.raw f]) h
def v6w{x c:Int}{d:M}{e:Int}{f:Sl}{g:Int}(t:P w λa C=>jM [a] 373 #[bN x c d e f g] C λs i=>Q (!s) (R (ae (aq #[])) i) (sH [a] 333 #[] i λz D=>P D λk j=>aG j k 394 [ah ZQ,Sl.nil.v,z.v]->F [a] 374 #[pB k,bN x c d e f g,ak aM] j λm=>OB m k 394 λX N O=>qx [a] 230 #[pB k] m λA n=>OB n k 394 λY S T=>sI [a] 375 #[ae A] n λE H s1 I U J u K b=>OB b k 394 λq l h=>Q (u !=0) (uO b λL k3 o=>aG o k 394 [ah q,l.v,h.v]->R (ae (aq #[])) o) (uO b λv y p=>aG p k 394 [ah q,l.v,h.v]->qx [a,v,y] 230 #[pB k] p λB r=>OB r k 394 λZ V W=>R (ae B) r))):G 347 #[bN x c d e f g] w R:=
 iA t
def arZ(h:∃l:Sl,∃a,((av 37 16 #[.mk 0 (ae (aq #[97,102,116,101,114])),.mk 1 (ae (aq #[97,108,119,97,121,115])),.mk 2 (ae (aq #[99,104,97,114,116])),.mk 3 (ae (aq #[100,101,101,112])),.mk 4 (ae (aq #[101,109,105,116])),.mk 5 (ae (aq #[101,110,116,101,114])),.mk 6 (ae (aq #[104,105,115,116,111,114,121])),.mk 7 (ae (aq #[105,110])),.mk 8 (ae (aq #[105,110,105,116,105,97,108])),.mk 9 (ae (aq #[108,101,97,118,101])),.mk 10 (ae (aq #[111,110])),.mk 11 (ae (aq #[112,97,114,97,108,108,101,108])),.mk 12 (ae (aq #[114,97,105,115,101])),.mk 13 (ae (aq #[115,101,116])),.mk 14 (ae (aq #[115,116,97,116,101])),.mk 15 (ae (aq #[118,97,114]))]).run ar w)=(.ok l.v a)/\R l.v a):G 257 #[] w R:=
 iA h
def ar0{c:Int}(h:R (ak ((VM (c>=48))&&(VM (c<=57)))) w):G 198 #[.int .u8 c] w R:=
 iA h
def alO{x a:Int}{b:M}{c:Int}{d:Sl}{e:Int}(h:P w λk g=>ad9 [k] 340 #[bN x a b c d e] g λs f i=>R (ak f) i):G 338 #[bN x a b c d e] w R:=
 iA h
def alP{x a:Int}{b:M}{c:Int}{d:Sl}{f:Int}(h:P w λk e=>R (ak (((((x==0)&&(a==0))&&(b.toList==((aq #[]).toList)))&&(c==0))&&((d.n:Int)==0))) e):G 339 #[bN x a b c d f] w R:=
 iA h
def ar1{x b:Int}{c:M}{d:Int}{e:Sl}{f:Int}(p:P w λa D=>jM [a] 365 #[bN x b c d e f] D λn i=>Q (!n) (R (aj #[ae (aq #[]),ak aM]) i) (P i λk j=>aG j k 384 [Sl.nil.v]->F [a] 366 #[pB k,bN x b c d e f] j λg=>Us g k 384 λy=>∃z:S,uN g y z/\sI [a] 367 #[ae (aq z.toArray)] g λq r C s A t u E l=>Us l k 384 λB=>uO l λv k3 m=>aG m k 384 [B.v]->jM [a,v,k3] 161 #[bN x b c d e f,bN q r C s A t,ak aM] m λo h=>Us h k 384 λH=>Q (((VM (((aq z.toArray).size:Int)>16384))||(u !=0))||(!o)) (R (aj #[ae (aq #[]),ak aM]) h) (R (aj #[ae (aq z.toArray),ak aF]) h))):G 340 #[bN x b c d e f] w R:=
 iA p
def alQ(s:Sl)(f:OV){R:aH}(a:aw)(h:nr 0 a λJ m i w=>Q (VM (i<(s.n:Int))) (Ut s i w λg n j l=>∃k:Nat,∃z d,f.v=(.func (.func k) z.toArray d.toArray)/\(∀x:Array ay,∀b,((callFunc k x).run ar b)=(.ok (.enter k x) b))/\cB k ((yQ (yQ z [mX g n j l]) d).toArray) w λe c=>Q e (R (O U i) c) (nx m λk3=>J k3 (au U (i+1)) c)) (R (O U (-1)) w)):G 331 #[s.v,f.v] a R:=
 fB (an:=.s .o (.s (.s .o (.j [0,1,7] [.s 8 (.int .i64)] .o .o)) .o)) (args:=[.sl s,.raw f]) h
def v3w(t:Int){a:M}(b c:Int){R:aH}(w:aw)(h:P w λk d=>R (ak (t==5)) d):G 332 #[mX t a b c] w R:=
 iA h
def ar2(h:∃l:Sl,∃a,((av 37 16 #[.mk 1 (ae (aq #[43])),.mk 2 (ae (aq #[45])),.mk 3 (ae (aq #[42])),.mk 4 (ae (aq #[47])),.mk 5 (ae (aq #[37])),.mk 6 (ae (aq #[60])),.mk 7 (ae (aq #[60,61])),.mk 8 (ae (aq #[62])),.mk 9 (ae (aq #[62,61])),.mk 10 (ae (aq #[61,61])),.mk 11 (ae (aq #[33,61])),.mk 12 (ae (aq #[38,38])),.mk 13 (ae (aq #[124,124])),.mk 14 (ae (aq #[45])),.mk 15 (ae (aq #[33]))]).run ar w)=(.ok l.v a)/\R l.v a):G 333 #[] w R:=
 iA h
def alR{r:Addr}{k:Int}{R:aH}(q:aw)(D:Q (k==6) (P q λv w0=>fp [v] 356 #[N r] w0 λH I s0 K l0 L w1=>∀B,az [v] w1 B->R (bN H I s0 K l0 L) B) (P q λd w3=>fp [d] 334 #[N r,O U (au U (k+1))] w3 λS T s1 V l1 W w4=>P w4 λe w5=>pC [d,e] 357 #[N r,O U k] w5 λX w6=>∃J:Nat->Int->Int->Int->M->Int->Sl->Int->aw->Prop,∃k3:Nat,J k3 X S T s1 V l1 W w6/\∀x n a b s c,∀p:Sl,∀i w,J x n a b s c p i w->Q (n !=0) (A w ((r.add 0).add 1) λf=>sT ((r.add 0).add 1) w 1 λo Y z0 Z=>d≠o/\e≠o/\sS w o Y z0 Z [O U (au U (f+1))] λw8=>fp [d,e] 334 #[N r,O U (au U (k+1))] w8 λg h s3 j l3 l w9=>P w9 λy t=>LD 74 (bN a b s c p i) (bN g h s3 j l3 l) t λl4 z=>cF [d,e,y] t z/\∀F,az [e] z F->pC [d,e,y] 357 #[N r,O U k] F λm C=>nx x λk9=>J k9 m 5 0 (aq #[]) n l4 i C) (∀u,az [d] w u->R (bN a b s c p i) u))):G 334 #[N r,O U k] q R:=
 fC (.d 3 (.s (.s .o (.j [0,1,4,5] [.s 6 E,.b 5 [E,E,.str,E,.sl,E]] .o .o)) .o)) D
def v7w{c:Addr}{R:aH}(w:aw)(h:A w ((c.add 2).add 0) λi=>R (ak (i !=0)) w):G 335 #[N c] w R:=
 iA h
def ar3{x d:Int}{e:M}{c:Int}{i:Sl}{a:Int}(D:uO w λf k g=>∃J:Int->Int->Int->M->Int->Sl->Int->aw->Prop,(∀n F o s p,∀K:Sl,∀H h,J n F o s p K H h->ob (λy L=>R (ak y) L) λj=>Q ((((d==o)&&(e.toList==s.toList))&&(c==p))&&((i.n:Int)==n)) (jM [f,k] 395 #[i.v,.func (.func 396) #[] #[]] h λA N=>j (!A) N) (j aM h))/\Q (x==1) (∀q,az [k] g q->J 0 x (if 0>d then 0 else d) (aq #[]) 0 Sl.nil a q) (ob (λB b=>Q B (jM [f,k] 278 #[ae e] b λC r=>Q (!C) (R (ak aM) r) (∀t,az [k] r t->J 0 x 0 e 0 Sl.nil a t)) (Q (x==4) (Q (c==15) (∀u,az [k] b u->J 1 x 0 (aq #[]) 15 Sl.nil a u) (∀v,az [k] b v->J 1 x 0 (aq #[]) 14 Sl.nil a v)) (Q (x==5) (pC [f,k] 386 #[O U c] b λI m=>Q (I==6) (R (ak aM) m) (∀z,az [k] m z->J 2 x 0 (aq #[]) c Sl.nil a z)) (R (ak aM) b)))) λl=>Q (x==2) (l (x==2) g) (l (x==3) g))):G 373 #[bN x d e c i a] w R:=
 fC (.d 3 (.j [1,3] [.s 4 E,.b 3 [E,E,.str,E,.sl,E]] (.d 3 (.j [1,3,4,11] [.s 18 .bool] .o .o)) (.s (.j [1,3] [.s 2 .bool] .o .o) .o))) D
def ar4(p:Addr)(x n:Int)(b:M)(e:Int)(a:Sl)(x5:Int)(wrapped:L)(R:aH)(AS:aw)(AT:P AS λk w0=>pC [k] 284 #[N (p.add 0)] w0 λi0 g=>Q (VM (i0>16384)) (R (aj #[]) g) (Q wrapped (rVs [k] 397 #[N (p.add 0),.int .u8 40] g λv0 r=>Q (x==1) (o0 r λw3=>qx [k] 227 #[O U n] w3 λs0 w4=>rO [k] 275 #[N (p.add 0),ae s0] w4 λi1 v1 w5=>mH ar 397 #[N (p.add 0),.int .u8 41] w5 (λx0 w6=>R (aj #[]) w6)) (Q (x==2) (o0 r λw7=>rO [k] 275 #[N (p.add 0),ae b] w7 λi2 v2 w8=>mH ar 397 #[N (p.add 0),.int .u8 41] w8 (λn w9=>R (aj #[]) w9)) (Q (x==3) ((3+(b.size:Int))<=9223372036854775807/\((((aq #[105,110,40])++b).size:Int)+1)<=9223372036854775807/\o0 r λdk=>rO [k] 275 #[N (p.add 0),ae (((aq #[105,110,40])++b)++(aq #[41]))] dk λi3 v3 dz=>mH ar 397 #[N (p.add 0),.int .u8 41] dz (λb eF=>R (aj #[]) eF)) (Q (x==4) (o0 r λH=>jp H (p.add 2) λl0=>Dd l0 e H λs1=>rO [k] 275 #[N (p.add 0),ae s1] H λi4 v4 fR=>o0 fR λV=>∃J:aK,J k/\∃p1,cM a 0 6 p1/\J p1.block/\ja V p1 λi5 i6 s2 i7 l1 i8=>jS a 0 V λi9 I s3 K l2 S=>pC [k] 398 #[bN i9 I s3 K l2 S] V λT iO=>cj J V iO/\F [k] 374 #[N p,bN i5 i6 s2 i7 l1 i8,ak (VM (T<6))] iO λiz=>cj J iO iz/\mH ar 397 #[N (p.add 0),.int .u8 41] iz (λe iU=>R (aj #[]) iU)) (pC [k] 398 #[bN x n b e a x5] r λo li=>o0 li λC=>∃v:aK,v k/\∃p3,cM a 0 6 p3/\v p3.block/\ja C p3 λW X s4 Z l3 am=>jS a 0 C λaC aS s5 aT l4 bv=>pC [k] 398 #[bN aC aS s5 aT l4 bv] C λbV mD=>cj v C mD/\F [k] 374 #[N p,bN W X s4 Z l3 am,ak (VM (bV<o))] mD λra=>cj v mD ra/\o0 ra λtw=>jp tw (p.add 2) λl5=>Dd l5 e tw λs6=>(1+(s6.size:Int))<=9223372036854775807/\((((aq #[32])++s6).size:Int)+1)<=9223372036854775807/\rO [k] 275 #[N (p.add 0),ae (((aq #[32])++s6)++(aq #[32]))] tw λBv v5 vh=>o0 vh λD=>∃y:aK,y k/\∃p6,cM a 1 6 p6/\y p6.block/\ja D p6 λbY cc s7 ce l6 co=>jS a 1 D λcC dO s8 el l7 eQ=>pC [k] 398 #[bN cC dO s8 el l7 eQ] D λfd qR=>cj y D qR/\F [k] 374 #[N p,bN bY cc s7 ce l6 co,ak (VM (fd<=o))] qR λtB=>cj y qR tB/\mH ar 397 #[N (p.add 0),.int .u8 41] tB (λa xy=>R (aj #[]) xy)))))) (Q (x==1) (o0 g λBP=>qx [k] 227 #[O U n] BP λs9 LV=>rO [k] 275 #[N (p.add 0),ae s9] LV λBV v6 Xc=>R (aj #[]) Xc) (Q (x==2) (o0 g λut=>rO [k] 275 #[N (p.add 0),ae b] ut λBY v7 uP=>R (aj #[]) uP) (Q (x==3) ((3+(b.size:Int))<=9223372036854775807/\((((aq #[105,110,40])++b).size:Int)+1)<=9223372036854775807/\o0 g λwd=>rO [k] 275 #[N (p.add 0),ae (((aq #[105,110,40])++b)++(aq #[41]))] wd λCc v8 Y1=>R (aj #[]) Y1) (Q (x==4) (o0 g λh=>jp h (p.add 2) λl8=>Dd l8 e h λEy=>rO [k] 275 #[N (p.add 0),ae Ey] h λCC v9 wf=>o0 wf λw=>∃z:aK,z k/\∃p9,cM a 0 6 p9/\z p9.block/\ja w p9 λf5 ge xQ gE l9 gG=>jS a 0 w λgO gT EV g8 tO g9=>pC [k] 398 #[bN gO gT EV g8 tO g9] w λip i=>cj z w i/\F [k] 374 #[N p,bN f5 ge xQ gE l9 gG,ak (VM (ip<6))] i λs=>cj z i s/\R (aj #[]) s) (pC [k] 398 #[bN x n b e a x5] g λq As=>o0 As λc=>∃A:aK,A k/\∃f,cM a 0 6 f/\A f.block/\ja c f λiD iF F4 iN pr iS=>jS a 0 c λlE lT Lb mt pL mK=>pC [k] 398 #[bN lE lT Lb mt pL mK] c λnO j=>cj A c j/\F [k] 374 #[N p,bN iD iF F4 iN pr iS,ak (VM (nO<q))] j λt=>cj A j t/\o0 t λl=>jp l (p.add 2) λxx=>Dd xx e l λE=>(1+(E.size:Int))<=9223372036854775807/\((((aq #[32])++E).size:Int)+1)<=9223372036854775807/\rO [k] 275 #[N (p.add 0),ae (((aq #[32])++E)++(aq #[32]))] l λDo DO AC=>o0 AC λd=>∃B:aK,B k/\∃Y,cM a 1 6 Y/\B Y.block/\ja d Y λoF oN Ss oR Ab pi=>jS a 1 d λpm pP W8 qr A4 ro=>pC [k] 398 #[bN pm pP W8 qr A4 ro] d λrx m=>cj B d m/\F [k] 374 #[N p,bN oF oN Ss oR Ab pi,ak (VM (rx<=q))] m λu=>cj B m u/\R (aj #[]) u))))))):G 374 #[N p,bN x n b e a x5,ak wrapped] AS R:=
 iA AT
def v5w{s:M}(B:uO w λk a T=>wN [k,a] 72 #[ae s] T λm o C r=>Q (o !=0) (P r λl V=>k≠a->k≠l->a≠l->∃J:aK,J l/\qV J k/\qV J a/\∀t,az [a,k] V t->R (aj #[bN 0 0 (aq #[]) 0 Sl.nil 0,vO o C]) t) (P r λk3 W=>kZ [k,a,k3] 304 #[m.v,O U 0] W λD H S I N K p e L u=>∀b c,u.heap.size<=b->b<c.heap.size->az [k3] u c->KG (λj i v=>Q (j !=0) (o0 v λX=>k≠a->k≠k3->k≠b->a≠k3->a≠b->k3≠b->∃f:aK,f k3/\qV f k/\qV f a/\∀x,az [a,k] X x->R (aj #[bN 0 0 (aq #[]) 0 Sl.nil 0,vO j i]) x) (o0 v λy=>k≠a->k≠k3->k≠b->a≠k3->a≠b->k3≠b->∃g:aK,g k3/\qV g k/\qV g a/\∀z,az [a,k] y z->R (aj #[bN D H S I N K,vO j i]) z)) λn=>∃p0,((e==0)=aF->cM m p 4 p0)/\∃d,((e==0)=aF->aD c (p0.add 0) [O U d])/\Q ((e==0)&&(d !=5)) (∃q,cM m p 4 q/\A c (q.add 3) λh=>∀F,az [k3] c F->n 4 h F) (n e L c))):G 375 #[ae s] w R:=
 fC (.d 4 (.j [2,3,5,6] [.b 5 [E,E]] .o .o)) B
def ar5{x b:Int}{c:M}{d:Int}{a:Sl}{l:Int}(r:P w λk C=>nr 0 C λm z i f=>Q (VM (i<(a.n:Int))) (jS a i f λs t B u A v=>jM [k] 365 #[bN s t B u A v] f λn j=>Q (!n) (R (ak aM) j) (nx z λk3=>m k3 (au U (i+1)) j)) (jM [k] 259 #[ae c] f λo g=>Q (x==1) (R (ak ((((VM (b>=0))&&(c.toList==((aq #[]).toList)))&&(d==0))&&((a.n:Int)==0))) g) (ob (λp e=>Q p (R (ak ((((b==0)&&o)&&(d==0))&&((a.n:Int)==0))) e) (Q (x==4) (R (ak ((((b==0)&&(c.toList==((aq #[]).toList)))&&((d==14)||(d==15)))&&((a.n:Int)==1))) e) (Q (x==5) (ob (λq D=>R (ak q) D) λh=>Q ((b==0)&&(c.toList==((aq #[]).toList))) (pC [k] 388 #[bN x b c d a l] e λy F=>h ((VM (y<6))&&((a.n:Int)==2)) F) (h aM e)) (R (ak aM) e)))) λJ=>Q (x==2) (J (x==2) g) (J (x==3) g)))):G 365 #[bN x b c d a l] w R:=
 fC (.s .o (.s (.s .o (.j [1] [.s 3 E] .o .o)) (.d 2 (.s (.d 3 (.j [1,5,6,29] [.s 49 .bool] .o (.d 4 (.s (.s (.j [1] [.s 2 .bool] .o .o) .o) .o)))) .o)))) r
def ar6{p:Addr}{x W:Int}{c:M}{h:Int}{b:Sl}{x5:Int}(am:P w λk a=>jp a (p.add 0) λl0=>Q (VM ((l0.n:Int)>16384)) (R (aj #[]) a) (Q (x==1) (qx [k] 207 #[O U W] a λs0 w1=>F [k] 389 #[N p,ae s0] w1 λw2=>R (aj #[]) w2) (Q (x==2) (F [k] 389 #[N p,ae c] a λw3=>R (aj #[]) w3) (Q (x==3) ((3+(c.size:Int))<=9223372036854775807/\((((aq #[105,110,40])++c).size:Int)+1)<=9223372036854775807/\F [k] 389 #[N p,ae (((aq #[105,110,40])++c)++(aq #[41]))] a λw4=>R (aj #[]) w4) (Q (x==4) (xH (λw5=>∃p0,cM b 0 6 p0/\o0 w5 λV=>ja V p0 λi0 i1 s1 i2 l1 i3=>∃p1,cM b 0 6 p1/\A V (p1.add 0) λi4=>F [k] 390 #[N p,bN i0 i1 s1 i2 l1 i3,ak (i4==5)] V λw7=>R (aj #[]) w7) λX=>Q (h==14) (F [k] 389 #[N p,ae (aq #[45])] a λw8=>X w8) (F [k] 389 #[N p,ae (aq #[33])] a λw9=>X w9)) (Q (x==5) (pC [k] 388 #[bN x W c h b x5] a λf dk=>sH [k] 364 #[] dk λl2 Z=>VC l2 f Z λl3=>o0 Z λe=>∃J:aK,J k/\∃K,cM b 0 6 K/\J K.block/\ja e K λi6 i7 s2 i8 l4 i9=>jS b 0 e λl n s3 o l5 q=>pC [k] 388 #[bN l n s3 o l5 q] e λr j=>cj J e j/\F [k] 390 #[N p,bN i6 i7 s2 i8 l4 i9,ak (VM (r<f))] j λfR=>cj J j fR/\nr 0 fR λJ2 k2 i g=>Q (VM (i<(l3.n:Int))) (xH (λiO=>nx k2 λk3=>J2 k3 (au U (i+1)) iO) λY=>Z0 l3 i g λs=>Q (s==h) (o0 g λiz=>sH [k] 363 #[] iz λl6 I=>VC l6 f I λl7=>Dd l7 i I λT=>(1+(T.size:Int))<=9223372036854775807/\((((aq #[32])++T).size:Int)+1)<=9223372036854775807/\F [k] 389 #[N p,ae (((aq #[32])++T)++(aq #[32]))] I λli=>Y li) (o0 g λjN=>Y jN)) (o0 g λm=>∃d:aK,d k/\∃L,cM b 1 6 L/\d L.block/\ja m L λt u s5 v l8 y=>jS b 1 m λz B s6 C l9 D=>pC [k] 388 #[bN z B s6 C l9 D] m λH S=>cj d m S/\F [k] 390 #[N p,bN t u s5 v l8 y,ak (VM (H<=f))] S λtw=>cj d S tw/\R (aj #[]) tw)) (R (aj #[]) a))))))):G 366 #[N p,bN x W c h b x5] w R:=
 fC (.d 10 (.s (.j [0,3] [] .o .o) (.s .o (.s (.d 3 (.s (.s .o (.j [0,3,4,5] [.s 6 E] (.s .o (.j [0,3,4,5,6] [] .o .o)) .o)) .o)) .o)))) am
def ar7{s:M}(x:uO w λk a L=>wN [k,a] 83 #[ae s] L λl n y r=>Q (n !=0) (P r λh N=>k≠a->k≠h->a≠h->∃J:aK,J h/\qV J k/\qV J a/\∀t,az [a,k] N t->R (aj #[bN 0 0 (aq #[]) 0 Sl.nil 0,vO n y]) t) (P r λk3 S=>kZ [k,a,k3] 258 #[l.v,O U 0] S λB C K D I E o q F e=>Q (q !=0) (∀b j,e.heap.size<=b->b<j.heap.size->az [k3] e j->k≠a->k≠k3->k≠b->a≠k3->a≠b->k3≠b->∃f:aK,f k3/\qV f k/\qV f a/\∀u,az [a,k] j u->R (aj #[bN 0 0 (aq #[]) 0 Sl.nil 0,vO q F]) u) (∃p0,cM l o 4 p0/\∀c d,e.heap.size<=c->c<d.heap.size->az [k3] e d->A d (p0.add 0) λH=>Q (H !=5) (o0 d λv=>k≠a->k≠k3->k≠c->a≠k3->a≠c->k3≠c->∃g:aK,∃p,cM l o 4 p/\g ((p.add 3).block)/\A v (p.add 3) λi=>qV g k/\qV g a/\∀m,az [a,k] v m->R (aj #[bN 0 0 (aq #[]) 0 Sl.nil 0,vO 4 i]) m) (∀z,az [a,k] d z->R (aj #[bN B C K D I E,vO 0 0]) z)))):G 367 #[ae s] w R:=
 iA x
def ar8{f y:Int}{H:M}{c:Int}{X:Sl}{d k g:Int}{h:M}{e:Int}{T:Sl}{j:Int}{a:L}(p:uO w λA B l=>Q ((((((f !=k)||(y !=g))||(!(H.toList==h.toList)))||(c !=e))||(a&&(d !=j)))||((X.n:Int) !=(T.n:Int))) (R (ak aM) l) (nr 0 l λJ k3 i m=>Q (VM (i<(X.n:Int))) (∃p0,cM X i 6 p0/\o0 m λb=>ja b p0 λq r I s D t=>jS T i b λu v K x F z=>jM [A,B] 161 #[bN q r I s D t,bN u v K x F z,ak a] b λo n=>Q (!o) (R (ak aM) n) (nx k3 λC=>J C (au U (i+1)) n)) (R (ak aF) m))):G 161 #[bN f y H c X d,bN k g h e T j,ak a] w R:=
 fC (.d 2 (.s (.s .o (.j [2,3,4] [.s 7 E] .o .o)) .o)) p
def ar9(r:Addr)(R:aH)(am:aw)(aC:uO am λa k w0=>vN [a,k] 379 #[N (r.add 0)] w0 λq K i1 c w1=>uO w1 λb k3 w2=>∃J:Option Addr->Int->Int->M->Int->Sl->Int->Int->Int->M->Int->Sl->Int->aw->Prop,(∀I i3 i4 s1 i5,∀l0:Sl,∀i6 i7 i8 s2 i9,∀l1:Sl,∀d w,J I i3 i4 s1 i5 l0 i6 i7 i8 s2 i9 l1 d w->∃p0,I=(Hg p0)/\A w ((p0.add 0).add 1) λs=>∃p1,I=(Hg p1)/\sT ((p1.add 0).add 1) w 1 λj k5 z0 k6=>a≠j/\k≠j/\b≠j/\k3≠j/\sS w j k5 z0 k6 [O U (au U (s+1))] λw4=>∀w5,az [k] w4 w5->R (bN i7 i8 s2 i9 l1 d) w5)/\jM [a,k,b,k3] 335 #[N (r.add 0)] w2 λb0 L=>Q b0 (∀w7,az [k] L w7->R (bN 0 0 (aq #[]) 0 Sl.nil c) w7) (LD 37 (ae (aq #[45])) (ae (aq #[33])) L λl2 w8=>cF [a,k,b,k3] L w8/\jM [a,k,b,k3] 380 #[N (r.add 0),l2.v] w8 λb1 P=>Q b1 (∀p,az [k3] P p->∃m:Int->Int->M->Int->Sl->Int->aw->Prop,(∀e f s3 g,∀l3:Sl,∀h T,m e f s3 g l3 h T->fp [a,k,b,k3] 381 #[N r,.func (.func 356) #[N r] #[]] T λt u s4 v l4 x V=>nG 74 (bN t u s4 v l4 x) V λl5 W=>cF [a,k,b,k3] V W/\∀Y,az [k,k3] W Y->R (bN e f s3 g l5 h) Y)/\Q (K.toList==((aq #[33]).toList)) (∀Z,az [k3] p Z->m 4 0 (aq #[]) 15 Sl.nil c Z) (m 4 0 (aq #[]) 14 Sl.nil c p)) (nG 37 (ae (aq #[40])) P λl6 iO=>cF [a,k,b,k3] P iO/\jM [a,k,b,k3] 380 #[N (r.add 0),l6.v] iO λb2 i=>Q b2 (aG i a 353 [N r]->k≠a->b≠a->k3≠a->fp [k,b,k3] 381 #[N r,.func (.func 382) #[] #[pB a]] i λy z s5 B l7 C iU=>U3 iU a 353 λq1=>∀H,az [k] iU H->aG H a 353 [ah q1]->R (bN y z s5 B l7 C) H) (Q (q==3) (o0 i λjN=>a≠k->a≠b->a≠k3->k≠b->k≠k3->b≠k3->∃n:aK,n b/\qV n k3/\qV n k3/\∀mD,az [k3] jN mD->J (Hg r) 0 0 (aq #[]) 0 Sl.nil 0 1 i1 (aq #[]) 0 Sl.nil c mD) (Q (q==1) (o0 i λra=>a≠k->a≠b->a≠k3->k≠b->k≠k3->b≠k3->∃o:aK,o b/\qV o k3/\qV o k3/\∀tw,az [k3] ra tw->J (Hg r) 0 0 (aq #[]) 0 Sl.nil 0 2 0 K 0 Sl.nil c tw) (Q ((q==2)&&(K.toList==((aq #[105,110]).toList))) (A i ((r.add 0).add 1) λD=>sT ((r.add 0).add 1) i 1 λl k8 z1 k9=>a≠l/\k≠l/\b≠l/\k3≠l/\sS i l k8 z1 k9 [O U (au U (D+1))] λvh=>F [a,k,b,k3] 383 #[N (r.add 0),ae (aq #[40])] vh λpN=>qx [a,k,b,k3] 384 #[N r] pN λs6 qR=>∀tB,az [k3] qR tB->F [a,k,b,k3] 383 #[N (r.add 0),ae (aq #[41])] tB λxy=>∀S,az [k] xy S->R (bN 3 0 s6 0 Sl.nil c) S) (F [a,k,b,k3] 385 #[N (r.add 0)] i λLV=>∀X,az [k] LV X->R (bN 0 0 (aq #[]) 0 Sl.nil c) X))))))):G 356 #[N r] am R:=
 fC (.d 3 (.j [1,2,3,4] [.b 1 [.ptr],.b 2 [E,E,.str,E,.sl,E],.b 4 [E,E,.str,E,.sl,E]] (.d 3 (.s (.s .o (.j [1,2,3,4] [.b 4 [E,E,.str,E,.sl,E]] .o .o)) .o)) .o)) aC
def asa{r:Addr}{k:Int}(h:nr 1 w λd j i b=>Q (VM (i<=13)) (ob (λe c=>Q e (R (O U i) c) (nx j λl=>d l (au U (i+1)) c)) λJ=>o0 b λo=>cI 386 #[O U i] o λg a=>Q (g==k) (jp a (r.add 5) λm=>Dd m i a λs=>nG 37 (ae s) a λn p=>cB 380 #[N (r.add 0),n.v] p λf q=>J f q) (J aM a)) (R (O U 0) b)):G 357 #[N r,O U k] w R:=
 fC (.s .o (.s (.s .o (.j [0,1] [.s 5 E] (.s .o (.s (.s (.j [0,1,5] [.s 27 .bool] .o .o) .o) .o)) .o)) .o)) h
def asb{op:Int}(h:Q ((VM (op>=3))&&(VM (op<=5))) (R (O U 5) w) (ob (λd a=>Q d (R (O U 4) a) (Q ((VM (op>=6))&&(VM (op<=9))) (R (O U 3) a) (ob (λe b=>Q e (R (O U 2) b) (Q (op==12) (R (O U 1) b) (Q (op==13) (R (O U 0) b) (R (O U 6) b)))) λc=>Q (op==10) (c (op==10) a) (c (op==11) a)))) λJ=>Q (op==1) (J (op==1) w) (J (op==2) w))):G 386 #[O U op] w R:=
 fC (.s .o (.s (.d 2 (.j [0] [.s 10 .bool] .o (.d 3 (.j [0] [.s 22 .bool] .o .o)))) .o)) h
def alS(s:Sl)(f:OV){R:aH}(w:aw)(h:cI 402 #[s.v,f.v] w λi a=>R (ak (VM (i>=0))) a):G 395 #[s.v,f.v] w R:=
 fB (an:=.o) (args:=[.sl s,.raw f]) h
def asc{e s:Int}{a:M}{b:Int}{c:Sl}{d:Int}(h:P w λk g=>jM [k] 373 #[bN e s a b c d] g λf i=>R (ak (!f)) i):G 396 #[bN e s a b c d] w R:=
 iA h
def Uz(b:Addr)(c:Int)(R:aH)(h:aw):Prop:=
 cU 311 #[N b] h λw=>jp w (b.add 1) λl=>nG 256 (.int .u8 c) w λf i=>yY 256 l f i λg a=>sT (b.add 1) a 1 λk d z e=>sS a k d z e [g.v] λj=>R .nilIface j
def alT{b:Addr}{c:Int}{R:aH}(w:aw)(h:Uz b c R w):G 397 #[N b,.int .u8 c] w R:=
 iA h
def aed{b:Addr}{c:Int}{R:aH}(w:aw)(h:Uz b c R w):mH ar 397 #[N b,.int .u8 c] w R:=
 aj9 (an:=.o) (args:=[.ad b,.int .u8 c]) Tryz.checked.mixed D D h
def asd{x e:Int}{f:M}{a:Int}{g:Sl}{j:Int}(h:Q (x !=5) (P w λl b=>R (O U 6) b) (P w λk c=>pC [k] 386 #[O U a] c λi d=>R (O U i) d)):G 398 #[bN x e f a g j] w R:=
 iA h
def ase{x u:Int}{v:M}{d:Int}{y:Sl}{z:Int}(h:P w λk q=>sH [k] 364 #[] q λl r=>nr 0 r λJ g i c=>Q ((VM (i<6))&&(x==5)) (nr 0 c λe j b a=>VC l i a λo=>Q (VM (b<(o.n:Int))) (VC l i a λp=>Z0 p b a λf=>Q (f==d) (o0 a λs=>R (O U i) s) (o0 a λt=>nx j λm=>e m (au U (b+1)) t)) (nx g λn=>J n (au U (i+1)) a)) (R (O U 6) c)):G 388 #[bN x u v d y z] w R:=
 fC (.d 2 (.s (.s .o (.j [1,3] [.s 4 E] (.s .o (.s (.s .o (.j [1,3,4] [.s 5 E] .o .o)) .o)) .o)) .o)) h
def asf{p:Addr}{s:M}(h:jp w (p.add 0) λd=>Q (VM ((d.n:Int)<=16384)) (jp w (p.add 0) λe=>∃l:Sl,∃a,((Builtin.append_ #[256,9] 256 #[e.v,ae s]).run ar w)=(.ok l.v a)/\sT (p.add 0) a 1 λk b z c=>sS a k b z c [l.v] λf=>R (aj #[]) f) (R (aj #[]) w)):G 389 #[N p,ae s] w R:=
 iA h
def asg{p:Addr}{x c:Int}{d:M}{e:Int}{f:Sl}{g:Int}{i:L}(h:P w λk a=>xH (λj=>F [k] 366 #[N p,bN x c d e f g] j λb=>Q i (F [k] 389 #[N p,ae (aq #[41])] b λl=>R (aj #[]) l) (R (aj #[]) b)) λJ=>Q i (F [k] 389 #[N p,ae (aq #[40])] a λm=>J m) (J a)):G 390 #[N p,bN x c d e f g,ak i] w R:=
 fC (.s .o (.j [0,2,4] [] .o .o)) h
def ash(h:∃l:Sl,∃a,((av 43 1 #[.mk 0 (O U 13)]).run ar w)=(.ok l.v a)/\nG 43 (O U 12) a λb i=>LD 43 (O U 10) (O U 11) i λc j=>Z3 43 (O U 6) (O U 7) (O U 8) (O U 9) j λd k=>LD 43 (O U 1) (O U 2) k λe m=>BI 43 (O U 3) (O U 4) (O U 5) m λf n=>S0 (av 57 6 #[.mk 0 l.v,.mk 1 b.v,.mk 2 c.v,.mk 3 d.v,.mk 4 e.v,.mk 5 f.v]) n λg o=>R g.v o):G 364 #[] w R:=
 iA h
def asi(h:∃l:Sl,∃a,((av 37 1 #[.mk 0 (ae (aq #[124,124]))]).run ar w)=(.ok l.v a)/\nG 37 (ae (aq #[38,38])) a λb i=>LD 37 (ae (aq #[61,61])) (ae (aq #[33,61])) i λc j=>Z3 37 (ae (aq #[60])) (ae (aq #[60,61])) (ae (aq #[62])) (ae (aq #[62,61])) j λd k=>LD 37 (ae (aq #[43])) (ae (aq #[45])) k λe m=>BI 37 (ae (aq #[42])) (ae (aq #[47])) (ae (aq #[37])) m λf n=>S0 (av 379 6 #[.mk 0 l.v,.mk 1 b.v,.mk 2 c.v,.mk 3 d.v,.mk 4 e.v,.mk 5 f.v]) n λg o=>R g.v o):G 363 #[] w R:=
 iA h
def alU(s:M)(R:aH)(w:aw):Prop:=
 Q (VM ((s.size:Int)>16384)) (P w λe b=>R (aj #[Sl.nil.v,vO 2 (-1)]) b) (P w λk c=>pC [k] 146 #[ae s,O U 0] c λi d=>∃J:Nat->Sl->Int->Int->Int->aw->Prop,∃a:Nat,J a Sl.nil i 0 0 d/\
  ∀k3,∀l:Sl,∀f p q g,J k3 l f p q g->Q (VM (f<(s.size:Int))) (ab1 [k] 147 #[ae s,O U f] g λu E v x y r m=>Q (r !=0) (∀A n,aE5 m n A<|az [k] m n->R (aj #[Sl.nil.v,vO r f]) n) (P m λj t=>nG 129 (mX u E v x) t λB o=>cF [k,j] t o/\
   yY 129 l B o λK G=>cF [k,j] o G/\
   pC [k,j] 146 #[ae s,O U (au U (f+y))] G λH L=>nx k3 λI=>J I K H p q L)) (nG 129 (mX 5 (aq #[]) 0 (s.size:Int)) g λC h=>cF [k] g h/\
  yY 129 l C h λD z=>cF [k] h z/\
  ∀F,az [k] z F->R (aj #[D.v,vO 0 0]) F))
def asj{s:M}(h:alU s R w):G 83 #[ae s] w R:=
 fC (.d 4 (.s (.j [0,3] [.s 4 .sl,.s 5 E,.b 3 [E,E]] .o .o) .o)) h
def asm(l:Sl)(t:Int)(R:aH)(p:aw)(N:Q ((VM (t<0))||(VM (t>=(l.n:Int)))) (uO p λk0 k1 w0=>R (aj #[bN 0 0 (aq #[]) 0 Sl.nil 0,O U 0,vO 1 (-1)]) w0) (uO p λa k3 w1=>∃J:Nat->Int->Int->Int->M->Int->Sl->Int->Int->Int->aw->Prop,∃W:Nat,J W 0 0 0 (aq #[]) 0 Sl.nil 0 0 0 w1/\∀C e u v F x,∀D:Sl,∀y z B w,J C e u v F x D y z B w->Q (VM (e<(l.n:Int))) (∃p0,cM l e 4 p0/\A w (p0.add 0) λS=>Q (!((S==5)==(e==(au U ((l.n:Int)-1))))) (∀H,az [k3,a] w H->R (aj #[bN 0 0 (aq #[]) 0 Sl.nil 0,O U 0,vO 1 (-1)]) H) (nx C λX=>J X (au U (e+1)) u v F x D y z B w)) (P w λk I=>aG I k 332 [l.v,O U t,O U 0,O U 0,O U 0]->fp [a,k3] 305 #[pB k,O U 0] I λT V Z j Y m q=>aex q k 332 λf b d i c=>Q (i !=0) (P q λn K=>aG K k 332 [f.v,O U b,O U d,O U i,O U c]->a≠k3->a≠k->a≠n->k3≠k->k3≠n->k≠n->∃g:aK,g k/\qV g a/\qV g k3/\∀r,az [k3,a] K r->aG r k 332 [f.v,O U b,O U d,O U i,O U c]->R (aj #[bN 0 0 (aq #[]) 0 Sl.nil 0,O U 0,vO i c]) r) (P q λo L=>aG L k 332 [f.v,O U b,O U d,O U i,O U c]->a≠k3->a≠k->a≠o->k3≠k->k3≠o->k≠o->∃h:aK,h k/\qV h a/\qV h k3/\∀s,az [k3,a] L s->aG s k 332 [f.v,O U b,O U d,O U i,O U c]->R (aj #[bN T V Z j Y m,O U b,vO 0 0]) s)))):G 258 #[l.v,O U t] p R:=
 fC (.d 2 (.s (.s .o (.j [0,1,4,6] [.s 7 E,.b 4 [E,E,.str,E,.sl,E],.b 6 [E,E]] .o .o)) .o)) N
def asn{c:Addr}(h:P w λk a=>jp a (c.add 0) λl=>A a (c.add 1) λi=>Ut l i a λd s e f=>∀b,az [k] a b->R (mX d s e f) b):G 379 #[N c] w R:=
 iA h
def v8w{c:Addr}{a:Sl}(h:yW 379 #[N c] w λi s n o g=>P g λk j=>ob (λd l=>R (ak d) l) λJ=>jM [k] 335 #[N c] j λe b=>Q ((!e)&&(i==4)) (jM [k] 250 #[a.v,ae s] b λf m=>J f m) (J aM b)):G 380 #[N c,a.v] w R:=
 fC (.d 2 (.s (.j [5] [.s 4 .bool] .o .o) .o)) h
def aso(r:Addr)(read:OV)(R:aH)(g:aw)(m:P g λk w=>A w (r.add 4) λn=>Q (n==20) (F [k] 399 #[N (r.add 0),O U 21] w λJ=>∀h,az [k] J h->R (bN 0 0 (aq #[]) 0 Sl.nil 0) h) (A w ((r.add 0).add 1) λo=>sT ((r.add 0).add 1) w 1 λe y T k3=>k≠e/\sS w e y T k3 [O U (au U (o+1))] λc=>A c (r.add 4) λp=>sT (r.add 4) c 1 λf B V C=>k≠f/\sS c f B V C [O U (au U (p+1))] λK=>∃a:Nat,∃z l,read.v=(.func (.func a) z.toArray l.toArray)/\(∀x:Array ay,∀i,((callFunc a x).run ar i)=(.ok (.enter a x) i))/\fp [k] a ((yQ (yQ z []) l).toArray) K λq s I t E u L=>P L λD d=>A d (r.add 4) λv=>sT (r.add 4) d 1 λb H W M=>k≠b/\D≠b/\sS d b H W M [O U (au U (v-1))] λS=>∀j,az [k] S j->R (bN q s I t E u) j)):G 381 #[N r,read.v] g R:=
 fB (an:=.o) (args:=[.ad r,.raw read]) m
def asp(m:Addr){R:aH}(w:aw)(h:P w λk a=>Wn a m λq=>fp [k] 334 #[ah q,O U 0] a λi d s e l f n=>P n λg b=>Wn b m λj=>∃p0,j=(Hg p0)/\F [k,g] 383 #[N (p0.add 0),ae (aq #[41])] b λo=>∀c,az [k] o c->R (bN i d s e l f) c):G 382 #[N m] w R:=
 iA h
def v9w{c:Addr}{sign:M}(h:∃l:Sl,∃b,((av 37 1 #[.mk 0 (ae sign)]).run ar w)=(.ok l.v b)/\cB 380 #[N c,l.v] b λd a=>Q (!d) (cU 385 #[N c] a λg=>R (aj #[]) g) (A a (c.add 1) λi=>sT (c.add 1) a 1 λk e z f=>sS a k e z f [O U (au U (i+1))] λj=>R (aj #[]) j)):G 383 #[N c,ae sign] w R:=
 iA h
def asq(r:Addr)(R:aH)(b:aw)(h:yW 379 #[N (r.add 0)] b λi s m n f=>P f λk g=>jM [k] 335 #[N (r.add 0)] g λc w=>Q (c||(i !=1)) (F [k] 385 #[N (r.add 0)] w λj=>R (ae (aq #[])) j) (A w ((r.add 0).add 1) λd=>sT ((r.add 0).add 1) w 1 λa e z k3=>k≠a/\sS w a e z k3 [O U (au U (d+1))] λl=>R (ae s) l)):G 384 #[N r] b R:=
 iA h
def asr{c:Addr}(h:xH (λb=>cU 399 #[N c,O U 4] b λd=>R (aj #[]) d) λJ=>yW 379 #[N c] w λi s f g a=>Q (i==5) (cU 399 #[N c,O U 3] a λe=>J e) (J a)):G 385 #[N c] w R:=
 fC (.j [0] [] .o .o) h
def alV(s:Sl)(f:OV)(R:aH)(a:aw)(h:nr 0 a λJ n i w=>Q (VM (i<(s.n:Int))) (jS s i w λg j p l o m=>∃k:Nat,∃z d,f.v=(.func (.func k) z.toArray d.toArray)/\(∀x:Array ay,∀b,((callFunc k x).run ar b)=(.ok (.enter k x) b))/\cB k ((yQ (yQ z [bN g j p l o m]) d).toArray) w λe c=>Q e (R (O U i) c) (nx n λk3=>J k3 (au U (i+1)) c)) (R (O U (-1)) w)):G 402 #[s.v,f.v] a R:=
 fB (an:=.s .o (.s (.s .o (.j [0,1,7] [.s 8 (.int .i64)] .o .o)) .o)) (args:=[.sl s,.raw f]) h
def alW(s:M)(a:Int)(R:aH)(d:aw):Prop:=
 ob (λc e=>R (O U c) e) λJ=>nr a d λb k i w=>Q (VM (i<(s.size:Int))) (∃c0:UInt8,(0<=i/\
   (s[Int.toNat i]?)=(Hg c0))/\
  ∃g:UInt8,((((UInt8.toNat c0:Int)==47)&&(VM ((au U (i+1))<(s.size:Int))))=aF->0<=(au U (i+1))/\
   (s[Int.toNat (au U (i+1))]?)=(Hg g))/\
  Q ((((UInt8.toNat c0:Int)==47)&&(VM ((au U (i+1))<(s.size:Int))))&&((UInt8.toNat g:Int)==47)) (nr i w λl m f j=>∃h:UInt8,((VM (f<(s.size:Int)))=aF->0<=f/\
    (s[Int.toNat f]?)=(Hg h))/\
   Q ((VM (f<(s.size:Int)))&&((UInt8.toNat h:Int) !=10)) (nx m λn=>l n (au U (f+1)) j) (nx k λo=>b o f j)) (Q (((((UInt8.toNat c0:Int)==9)||((UInt8.toNat c0:Int)==10))||((UInt8.toNat c0:Int)==13))||((UInt8.toNat c0:Int)==32)) (nx k λp=>b p (au U (i+1)) w) (J i w))) (J i w)
def ass{s:M}{a:Int}(h:alW s a R w):G 146 #[ae s,O U a] w R:=
 fC (.s .o (.j [] [.s 1 E] (.j [0] [.s 1 E] (.d 3 (.s (.j [0] [.s 1 E] .o .o) .o)) .o) .o)) h
def ast(s:M)(a:Int){R:aH}(y:aw)(L:∃c0:UInt8,(0<=a/\(s[Int.toNat a]?)=(Hg c0))/\P y λk T=>jM [k] 197 #[.int .u8 (UInt8.toNat c0:Int)] T λH W=>∃h:UInt8,(0<=a/\(s[Int.toNat a]?)=(Hg h))/\jM [k] 198 #[.int .u8 (UInt8.toNat h:Int)] W λI w=>Q H (pC [k] 199 #[ae s,O U a] w λi X=>∃k3 b:Nat,(a=(k3:Int)/\(au U (a+i))=(b:Int)/\k3<=b/\b<=s.size)/\P X λv Y=>jM [k,v] 200 #[ae (s.extract k3 b)] Y λK A=>∃J:Int->M->Int->Int->aw->Prop,(∀n x o p g,J n x o p g->Q (VM (i>24)) (∀B,az [k] g B->R (aj #[mX 0 (aq #[]) 0 0,O U 0,O U 2]) B) (∀C,az [k] g C->R (aj #[mX n x o p,O U i,O U 0]) C))/\Q K (∀D,az [v] A D->J 2 (s.extract k3 b) 0 a D) (J 1 (s.extract k3 b) 0 a A)) (Q I (∃e:Nat,(a=(e:Int)/\e<=s.size)/\aeA [k] 201 #[ae (s.extract e s.size)] w λN q r j=>Q (r !=0) (∀z,az [k] j z->R (aj #[mX 0 (aq #[]) 0 0,O U 0,O U r]) z) (pC [k] 199 #[ae s,O U a] j λS F=>Q (VM (S>q)) (∀l,az [k] F l->R (aj #[mX 0 (aq #[]) 0 0,O U 0,O U 4]) l) (∀m,az [k] F m->R (aj #[mX 3 (aq #[]) N a,O U q,O U 0]) m))) (pC [k] 202 #[ae s,O U a] w λd V=>Q (d==0) (∀t,az [k] V t->R (aj #[mX 0 (aq #[]) 0 0,O U 0,O U 4]) t) (∃f c:Nat,(a=(f:Int)/\(au U (a+d))=(c:Int)/\f<=c/\c<=s.size)/\∀u,az [k] V u->R (aj #[mX 4 (s.extract f c) 0 a,O U d,O U 0]) u)))):G 147 #[ae s,O U a] y R:=
 fC (.d 3 (.s (.s .o (.s (.d 3 (.j [4,9,10] [.b 10 [E,.str,E,E]] .o .o)) .o)) .o)) L
def alX{r:Addr}{k:Int}{R:aH}(q:aw)(D:Q (k==6) (P q λv w0=>fp [v] 336 #[N r] w0 λH I s0 K l0 L w1=>∀B,az [v] w1 B->R (bN H I s0 K l0 L) B) (P q λd w3=>fp [d] 305 #[N r,O U (au U (k+1))] w3 λS T s1 V l1 W w4=>P w4 λe w5=>pC [d,e] 337 #[N r,O U k] w5 λX w6=>∃J:Nat->Int->Int->Int->M->Int->Sl->Int->aw->Prop,∃k3:Nat,J k3 X S T s1 V l1 W w6/\∀x n a b s c,∀p:Sl,∀i w,J x n a b s c p i w->Q (n !=0) (A w (r.add 1) λf=>sT (r.add 1) w 1 λo Y z0 Z=>d≠o/\e≠o/\sS w o Y z0 Z [O U (au U (f+1))] λw8=>fp [d,e] 305 #[N r,O U (au U (k+1))] w8 λg h s3 j l3 l w9=>P w9 λy t=>LD 74 (bN a b s c p i) (bN g h s3 j l3 l) t λl4 z=>cF [d,e,y] t z/\∀F,az [e] z F->pC [d,e,y] 337 #[N r,O U k] F λm C=>nx x λk9=>J k9 m 5 0 (aq #[]) n l4 i C) (∀u,az [d] w u->R (bN a b s c p i) u))):G 305 #[N r,O U k] q R:=
 fC (.d 4 (.s (.j [0,1,4,5] [.s 6 E,.b 5 [E,E,.str,E,.sl,E]] .o .o) .o)) D
def asu{c:Addr}{err:Int}(h:cB 335 #[N c] w λd a=>Q (!d) (yW 379 #[N c] a λj s l i b=>sT (c.add 2) b 2 λk e z f=>sS b k e z f [O U err,O U i] λg=>R (aj #[]) g) (R (aj #[]) a)):G 399 #[N c,O U err] w R:=
 iA h
def alY(s:M)(R:aH)(g:aw):Prop:=
 Q ((s.size:Int)==0) (R (aj #[O U 0,O U 0,O U 3]) g) (nr 0 g λJ k i w=>∃c0:UInt8,((VM (i<(s.size:Int)))=aF->0<=i/\
  (s[Int.toNat i]?)=(Hg c0))/\
 ∃e:UInt8,(((VM (i<(s.size:Int)))&&(VM ((UInt8.toNat c0:Int)>=48)))=aF->0<=i/\
  (s[Int.toNat i]?)=(Hg e))/\
 Q (((VM (i<(s.size:Int)))&&(VM ((UInt8.toNat c0:Int)>=48)))&&(VM ((UInt8.toNat e:Int)<=57))) (nx k λj=>J j (au U (i+1)) w) (∃f:UInt8,((i==0)=aM->(VM (i>1))=aF->(0:Int)<=0/\
  s[0]? =(Hg f))/\
 Q ((i==0)||((VM (i>1))&&((UInt8.toNat f:Int)==48))) (R (aj #[O U 0,O U 0,O U 4]) w) (Fg 0 0 w λh l b a d=>Q (VM (a<i)) (∃c:UInt8,(0<=a/\
   (s[Int.toNat a]?)=(Hg c))/\
  Q (VM (b>(au U ((au U (9223372036854775807-(au U (au .u8 ((UInt8.toNat c:Int)-48))))).tdiv 10)))) (R (aj #[O U 0,O U 0,O U 20]) d) (nx l λm=>h m (au U ((au U (10*b))+(au U (au .u8 ((UInt8.toNat c:Int)-48))))) (au U (a+1)) d)) (R (aj #[O U b,O U i,O U 0]) d))))
def asv{s:M}(h:alY s R w):G 201 #[ae s] w R:=
 fC (.d 3 (.s (.j [0] [.s 5 E] .o .o) (.d 2 (.s (.s .o (.j [0,5] [.s 6 E,.s 7 E] .o .o)) .o)))) h
def alZ(s:M)(a:Int)(R:aH)(d:aw):Prop:=
 ∃l:Sl,∃b,((av 37 7 #[.mk 0 (ae (aq #[45,62])),.mk 1 (ae (aq #[60,61])),.mk 2 (ae (aq #[62,61])),.mk 3 (ae (aq #[61,61])),.mk 4 (ae (aq #[33,61])),.mk 5 (ae (aq #[38,38])),.mk 6 (ae (aq #[124,124]))]).run ar d)=(.ok l.v b)/\
 nr 0 b λJ c i w=>Q (VM (i<(l.n:Int))) (∃k k3:Nat,((VM ((au U (a+2))<=(s.size:Int)))=aF->a=(k:Int)/\
   (au U (a+2))=(k3:Int)/\
   k<=k3/\
   k3<=s.size)/\
  ∃p0,((VM ((au U (a+2))<=(s.size:Int)))=aF->cM l i 1 p0)/\
  ∃h,((VM ((au U (a+2))<=(s.size:Int)))=aF->aD w p0 [ae h])/\
  Q ((VM ((au U (a+2))<=(s.size:Int)))&&(((s.extract k k3).toList)==h.toList)) (o0 w λp=>R (O U 2) p) (o0 w λq=>nx c λm=>J m (au U (i+1)) q)) (nr 0 w λj n e f=>Q (VM (e<17)) (∃c0:UInt8,(0<=a/\
   (s[Int.toNat a]?)=(Hg c0))/\
  ∃g:UInt8,(0<=e/\
   ((aq #[123,125,40,41,91,93,59,44,61,43,45,42,47,37,60,62,33])[Int.toNat e]?)=(Hg g))/\
  Q ((UInt8.toNat c0:Int)==(UInt8.toNat g:Int)) (o0 f λr=>R (O U 1) r) (o0 f λt=>nx n λo=>j o (au U (e+1)) t)) (R (O U 0) f))
def asw{s:M}{a:Int}(h:alZ s a R w):G 202 #[ae s,O U a] w R:=
 fC (.d 2 (.s (.s .o (.j [0,1,5] [.s 6 E] .o .o)) (.s .o (.s (.s .o (.j [0,1,7] [.s 8 E] .o .o)) .o)))) h
def asx{r:Addr}(R:aH)(Y:aw)(am:P Y λk c=>∃J:aK,J ((r.add 0).block)/\jp c (r.add 0) λl0=>J ((r.add 1).block)/\A c (r.add 1) λi0=>∃p0,cM l0 i0 4 p0/\J p0.block/\xW c p0 λd W i2 t=>P c λa w1=>jM [k,a] 358 #[N r,ae (aq #[45])] w1 λb0 w2=>jM [k,a] 358 #[N r,ae (aq #[33])] w2 λy w3=>jM [k,a] 358 #[N r,ae (aq #[40])] w3 λb2 w=>A w ((r.add 3).add 0) λi4=>Q (i4 !=0) (∀Z,az [k] w Z->R (bN 0 0 (aq #[]) 0 Sl.nil 0) Z) (Q (b0||y) (jM [k,a] 359 #[N r] w λb3 w6=>Q (!b3) (∀w7,az [k] w6 w7->R (bN 0 0 (aq #[]) 0 Sl.nil 0) w7) (fp [k,a] 336 #[N r] w6 λi5 i6 s1 i7 l1 i8 w8=>P w8 λK v=>A v (r.add 2) λi9=>sT (r.add 2) v 1 λk3 k4 z0 k5=>k≠k3/\a≠k3/\K≠k3/\sS v k3 k4 z0 k5 [O U (au U (i9-1))] λz=>ob (λe B=>nG 74 (bN i5 i6 s1 i7 l1 i8) B λl2 C=>cF [k,a,K] B C/\∀M,az [k] C M->R (bN 4 0 (aq #[]) e l2 t) M) λx=>Q y (x 15 z) (x 14 z))) (Q b2 (jM [k,a] 359 #[N r] w λb4 D=>Q (!b4) (∀V,az [k] D V->R (bN 0 0 (aq #[]) 0 Sl.nil 0) V) (fp [k,a] 305 #[N r,O U 0] D λf g s2 h l3 j iO=>P iO λL iz=>F [k,a,L] 360 #[N r,ae (aq #[41])] iz λu=>A u (r.add 2) λl=>sT (r.add 2) u 1 λb k8 z1 k9=>k≠b/\a≠b/\L≠b/\sS u b k8 z1 k9 [O U (au U (l-1))] λli=>∀I,az [k] li I->R (bN f g s2 h l3 j) I)) (Q (d==3) (A w (r.add 1) λm=>sT (r.add 1) w 1 λH pM z2 LQ=>k≠H/\a≠H/\sS w H pM z2 LQ [O U (au U (m+1))] λmD=>∀T,az [k] mD T->R (bN 1 i2 (aq #[]) 0 Sl.nil t) T) (Q (d==1) (A w (r.add 1) λn=>sT (r.add 1) w 1 λi LS z3 Tn=>k≠i/\a≠i/\sS w i LS z3 Tn [O U (au U (n+1))] λtw=>∀X,az [k] tw X->R (bN 2 0 W 0 Sl.nil t) X) (Q ((d==2)&&(W.toList==((aq #[105,110]).toList))) (fp [k,a] 361 #[N r] w λo p s3 q l4 s pN=>∀S,az [k] pN S->R (bN o p s3 q l4 s) S) (F [k,a] 362 #[N r] w λtB=>∀xy,az [k] tB xy->R (bN 0 0 (aq #[]) 0 Sl.nil 0) xy))))))):G 336 #[N r] Y R:=
 fC (.d 5 (.s (.d 3 (.s (.d 5 (.j [2,3,8] [.s 9 E] .o .o)) .o)) .o)) am
def asy{r:Addr}{k:Int}(h:cL 363 #[] w λm c=>VC m k c λl=>cL 364 #[] c λn d=>VC n k d λo=>nr 0 d λJ g i a=>Q (VM (i<(l.n:Int))) (Dd l i a λs=>cB 358 #[N r,ae s] a λe b=>Q e (Z0 o i b λf=>R (O U f) b) (nx g λj=>J j (au U (i+1)) b)) (R (O U 0) a)):G 337 #[N r,O U k] w R:=
 fC (.d 3 (.s (.s .o (.j [0,5,6] [.s 7 E] .o .o)) .o)) h
def asz{r:Addr}{s:M}(h:o0 w λa=>∃J:aK,J ((r.add 0).block)/\jp a (r.add 0) λl=>J ((r.add 1).block)/\A a (r.add 1) λi=>∃p0,cM l i 4 p0/\J p0.block/\xW a p0 λc e f g=>P a λk b=>A b ((r.add 3).add 0) λd=>R (ak (((d==0)&&(c==4))&&(e.toList==s.toList))) b):G 358 #[N r,ae s] w R:=
 iA h
def asA{r:Addr}(h:A w (r.add 2) λi=>Q (i==20) (cU 387 #[N r,O U 21] w λj=>R (ak aM) j) (A w (r.add 2) λb=>sT (r.add 2) w 1 λk d z e=>sS w k d z e [O U (au U (b+1))] λa=>A a (r.add 1) λc=>sT (r.add 1) a 1 λk3 f m g=>sS a k3 f m g [O U (au U (c+1))] λl=>R (ak aF) l)):G 359 #[N r] w R:=
 iA h
def asC{r:Addr}{s:M}(h:cB 358 #[N r,ae s] w λb a=>Q (!b) (cU 362 #[N r] a λe=>R (aj #[]) e) (A a (r.add 1) λi=>sT (r.add 1) a 1 λk c z d=>sS a k c z d [O U (au U (i+1))] λf=>R (aj #[]) f)):G 360 #[N r,ae s] w R:=
 iA h
def asD(r:Addr){R:aH}(l:aw)(q:P l λk b=>∃J:aK,J ((r.add 0).block)/\jp b (r.add 0) λH=>J ((r.add 1).block)/\A b (r.add 1) λs=>∃p0,cM H s 4 p0/\J ((p0.add 3).block)/\A b (p0.add 3) λi=>P b λa g=>A g (r.add 1) λt=>sT (r.add 1) g 1 λe k3 V C=>k≠e/\a≠e/\sS g e k3 V C [O U (au U (t+1))] λM=>F [k,a] 360 #[N r,ae (aq #[40])] M λw=>A w ((r.add 3).add 0) λu=>Q (u !=0) (∀m,az [k] w m->R (bN 3 0 (aq #[]) 0 Sl.nil i) m) (jp w (r.add 0) λI=>A w (r.add 1) λv=>∃p,cM I v 4 p/\A w (p.add 0) λx=>Q (x !=1) (o0 w λS=>F [k,a] 362 #[N r] S λT=>∀n,az [k] T n->R (bN 3 0 (aq #[]) 0 Sl.nil i) n) (o0 w λc=>jp c (r.add 0) λK=>A c (r.add 1) λy=>∃j,cM K y 4 j/\Eo c (j.add 1) λL=>∀d,az [a] c d->A d (r.add 1) λB=>sT (r.add 1) d 1 λf D W E=>k≠f/\a≠f/\sS d f D W E [O U (au U (B+1))] λo=>F [k,a] 360 #[N r,ae (aq #[41])] o λz=>∀h,az [k] z h->R (bN 3 0 L 0 Sl.nil i) h))):G 361 #[N r] l R:=
 iA q
def asE{r:Addr}(h:jp w (r.add 0) λl=>A w (r.add 1) λi=>∃p0,cM l i 4 p0/\A w (p0.add 0) λa=>Q (a==5) (o0 w λb=>cU 387 #[N r,O U 3] b λc=>R (aj #[]) c) (o0 w λd=>cU 387 #[N r,O U 4] d λe=>R (aj #[]) e)):G 362 #[N r] w R:=
 iA h
def asF{r:Addr}{e:Int}(h:A w ((r.add 3).add 0) λi=>Q (i==0) (o0 w λa=>jp a (r.add 0) λl=>A a (r.add 1) λb=>∃p0,cM l b 4 p0/\A a (p0.add 3) λc=>sT (r.add 3) a 2 λk d z f=>sS a k d z f [O U e,O U c] λg=>R (aj #[]) g) (R (aj #[]) w)):G 387 #[N r,O U e] w R:=
 iA h
def asG{b c:Sl}(h:Q ((b.n:Int) !=(c.n:Int)) (R (ak aM) w) (nr 0 w λJ k i a=>Q (VM (i<(b.n:Int))) (Dd b i a λs=>Dd c i a λe=>Q (!(s.toList==e.toList)) (o0 a λf=>R (ak aM) f) (o0 a λg=>nx k λd=>J d (au U (i+1)) g)) (R (ak aF) a))):G 10 #[b.v,c.v] w R:=
 fC (.d 2 (.s (.s .o (.j [0,1] [.s 5 E] .o .o)) .o)) h
def asH{s:M}(gT:uO w λa b w0=>wN [a,b] 83 #[ae s] w0 λl0 i0 i1 w1=>Q (i0 !=0) (P w1 λk2 w2=>a≠b->a≠k2->b≠k2->∃J:aK,J k2/\qV J a/\qV J b/\∀w3,az [b,a] w2 w3->R (aj #[cK Sl.nil 0 (aq #[]) (aq #[]) (aq #[]) Sl.nil Sl.nil Sl.nil Sl.nil 0,vO i0 i1]) w3) (uO w1 λk3 k w4=>aG w4 k 156 [l0.v,O U 0,O U 0,O U 0,O U 0,O U 0,O U 0,O U 0]->k3≠k->F [a,b,k3] 84 #[pB k,O U 2,ae (aq #[99,104,97,114,116])] w4 λw5=>mJ w5 k 156 λl1 i2 i3 i4 i5 i6 i7 i8=>P w5 λc w6=>aG w6 k 156 [l1.v,O U i2,O U i3,O U i4,O U i5,O U i6,O U i7,O U i8]->ii [a,b,k3,c] 85 #[pB k,bS 1 (aq #[]) (aq #[]) (aq #[]) Sl.nil Sl.nil Sl.nil Sl.nil 0] w6 λi9 s0 s1 s2 l2 l3 l4 l5 C w7=>mJ w7 k 156 λl6 D I K L N S T=>P w7 λf w8=>aG w8 k 156 [l6.v,O U D,O U I,O U K,O U L,O U N,O U S,O U T]->F [a,b,k3,c,f] 84 #[pB k,O U 4,ae (aq #[123])] w8 λw9=>mJ w9 k 156 λl7 g8 g9 ip iD iF iN iS=>sH [a,b,k3,c,f] 86 #[pB k] w9 λl8 dk=>mJ dk k 156 λl9 W X Y Z am aC aS=>∀z,az [k,c] dk z->aG z k 156 [l9.v,O U W,O U X,O U Y,O U Z,O U (au U (am+1)),O U aC,O U aS]->a≠k->b≠k->k3≠k->c≠k->f≠k->ii [a,b,k3,c,f] 87 #[pB k,bS i9 s0 s1 s2 l2 l3 l4 l5 C] z λaT s3 s4 s5 gO pr pL xx bv eF=>mJ eF k 156 λAb bV bY cc ce co cC dO=>∀B,az [c] eF B->aG B k 156 [Ab.v,O U bV,O U bY,O U cc,O U ce,O U co,O U cC,O U dO]->F [a,b,k3,c,f] 84 #[pB k,O U 4,ae (aq #[125])] B λv=>mJ v k 156 λA g o p q r i t=>∃x:Sl->Int->Int->Int->Int->Int->Int->Int->aw->Prop,(∀H:Sl,∀h j l m n d e V,x H h j l m n d e V->Q (d !=0) (o0 V λiO=>aG iO k 156 [H.v,O U h,O U j,O U l,O U m,O U n,O U d,O U e]->a≠b->a≠k3->a≠k->a≠c->a≠f->b≠k3->b≠k->b≠c->b≠f->k3≠k->k3≠c->k3≠f->k≠c->k≠f->c≠f->∃y:aK,y k/\qV y a/\qV y b/\∀iz,az [b,a] iO iz->aG iz k 156 [H.v,O U h,O U j,O U l,O U m,O U n,O U d,O U e]->R (aj #[cK Sl.nil 0 (aq #[]) (aq #[]) (aq #[]) Sl.nil Sl.nil Sl.nil Sl.nil 0,vO d e]) iz) (∀iU,az [b,a] V iU->aG iU k 156 [H.v,O U h,O U j,O U l,O U m,O U n,O U d,O U e]->R (aj #[cK l8 aT s3 s4 s5 gO pr pL xx bv,vO 0 0]) iU))/\∃p0,((i==0)=aF->cM A g 4 p0)/\∃u,((i==0)=aF->aD v (p0.add 0) [O U u])/\Q ((i==0)&&(u !=5)) (o0 v λli=>aG li k 156 [A.v,O U g,O U o,O U p,O U q,O U r,O U i,O U t]->F [a,b,k3,c,f] 88 #[pB k] li λjN=>mJ jN k 156 λTj el eQ fd f5 ge gE gG=>x Tj el eQ fd f5 ge gE gG jN) (o0 v λmD=>aG mD k 156 [A.v,O U g,O U o,O U p,O U q,O U r,O U i,O U t]->x A g o p q r i t mD))):G 35 #[ae s] w R:=
 fC (.d 12 (.j [2,3,5,6,7,8,21] [.b 21 [.sl,E,E,E,E,E,E,E]] .o .o)) gT
def asI{d:Sl}{F:Int}{H n X:M}{o I t T:Sl}{g:Int}{h:Sl}{q:Int}{r u p:M}{v j k l:Sl}{m:Int}{a:L}(N:Q ((d.n:Int) !=(h.n:Int)) (uO w λk0 k1 W=>R (ak aM) W) (uO w λP k3 Y=>nr 0 Y λJ S i c=>Q (VM (i<(d.n:Int))) (∃p0,cM d i 3 p0/\Eo c (p0.add 0) λs=>∃z,cM h i 3 z/\Eo c (z.add 0) λb=>∃A,((!(s.toList==b.toList))=aM->cM d i 3 A)/\∃e,((!(s.toList==b.toList))=aM->aD c (A.add 1) [O U e])/\∃B,((!(s.toList==b.toList))=aM->cM h i 3 B)/\∃f,((!(s.toList==b.toList))=aM->aD c (B.add 1) [O U f])/\∃C,(((!(s.toList==b.toList))||(e !=f))=aM->a=aF->cM d i 3 C)/\∃x,(((!(s.toList==b.toList))||(e !=f))=aM->a=aF->aD c (C.add 2) [O U x])/\∃D,(((!(s.toList==b.toList))||(e !=f))=aM->a=aF->cM h i 3 D)/\∃y,(((!(s.toList==b.toList))||(e !=f))=aM->a=aF->aD c (D.add 2) [O U y])/\Q (((!(s.toList==b.toList))||(e !=f))||(a&&(x !=y))) (o0 c λZ=>R (ak aM) Z) (o0 c λw4=>nx S λV=>J V (au U (i+1)) w4)) (jM [P,k3] 37 #[bS F H n X o I t T g,bS q r u p v j k l m,ak a] c λK w5=>R (ak K) w5))):G 8 #[cK d F H n X o I t T g,cK h q r u p v j k l m,ak a] w R:=
 fC (.d 2 (.s (.s .o (.j [2,3,4] [.s 7 E] .o .o)) .o)) N
def asJ{c:Sl}{b:Int}{d e f:M}{g h j l:Sl}{m:Int}(o:P w λk v=>nr 0 v λJ q i a=>Q (VM (i<(c.n:Int))) (∃p0,cM c i 3 p0/\sT p0 a 3 λk3 r z s=>k≠k3/\sS a k3 r z s [ae (aq #[115,112,111,105,108,116]),O U 0,O U 0] λx=>nx q λt=>J t (au U (i+1)) x) (nG 26 (bS b d e f g h j l m) a λu n=>cF [k] a n/\pC [k] 44 #[u.v] n λp y=>R (O U p) y)):G 12 #[cK c b d e f g h j l m] w R:=
 fC (.s .o (.s (.s .o (.j [1] [.s 3 E] .o .o)) .o)) o
def al0{r:Addr}{kind:Int}{text:M}(h:cB 148 #[N r,O U kind,ae text] w λb a=>Q (!b) (cU 88 #[N r] a λc=>R (aj #[]) c) (R (aj #[]) a)):G 84 #[N r,O U kind,ae text] w R:=
 iA h
def al1{r:Addr}{n:Int}{L I u:M}{t S q l:Sl}{H:Int}(s:uO w λk c a=>xH (λb=>xH (λe=>A e (r.add 2) λv=>sT (r.add 2) e 1 λd k3 Z C=>k≠d/\c≠d/\sS e d k3 Z C [O U (au U (v+1))] λP=>lm [k,c] 150 #[N r] P λK x T=>∀m,az [c,k] T m->R (bS n K I u t S q l x) m) λf=>jp b (r.add 0) λD=>A b (r.add 1) λy=>∃p0,cM D y 4 p0/\A b (p0.add 0) λi=>∃g,((i==1)=aF->aD b (r.add 5) [O U g])/\Q ((i==1)&&(g==12)) (o0 b λV=>F [k,c] 149 #[N r,O U 21] V λW=>f W) (o0 b λX=>f X)) λJ=>jp a (r.add 0) λE=>A a (r.add 1) λB=>∃p,cM E B 4 p/\A a (p.add 0) λh=>∃j,((h==1)=aF->aD a (r.add 2) [O U j])/\Q ((h==1)&&(j==64)) (o0 a λY=>F [k,c] 149 #[N r,O U 2] Y λo=>J o) (o0 a λz=>J z)):G 85 #[N r,bS n L I u t S q l H] w R:=
 fC (.s .o (.j [0,3,4] [] .o (.j [0,3,4] [] .o .o))) s
def al2{r:Addr}(u:cB 148 #[N r,O U 2,ae (aq #[118,97,114])] w λn W=>∃J:Nat->Sl->L->aw->Prop,∃I:Nat,J I Sl.nil n W/\∀j,∀l:Sl,∀f a,J j l f a->Q f (xH (λX=>P X λk Y=>lm [k] 150 #[N r] Y λs i Z=>∀m,az [k] Z m->F [k] 84 #[N r,O U 4,ae (aq #[61])] m λw6=>jM [k] 148 #[N r,O U 4,ae (aq #[45])] w6 λo w7=>pC [k] 151 #[N r] w7 λh w8=>∀b,az [k] w8 b->jn3 (λV v x q=>F [k] 84 #[N r,O U 4,ae (aq #[59])] q λz=>nG 23 (PE V v x) z λK e=>cF [k] z e/\yY 23 l K e λS M=>cF [k] e M/\jM [k] 148 #[N r,O U 2,ae (aq #[118,97,114])] M λp t=>nx j λk3=>J k3 S p t) λd=>Q o (∀g,az [k] b g->d s (au U (0-h)) i g) (d s h i b)) λc=>jp a (r.add 0) λT=>A a (r.add 1) λy=>∃p0,cM T y 4 p0/\A a (p0.add 0) λB=>Q ((B==1)&&((l.n:Int)==16)) (o0 a λC=>cU 149 #[N r,O U 2] C λH=>c H) (o0 a λD=>c D)) (R l.v a)):G 86 #[N r] w R:=
 fC (.d 3 (.s (.j [0] [.s 3 .sl,.s 4 .bool] (.s .o (.j [0,3] [] .o (.d 5 (.j [0,3,5] [.b 5 [.str,E,E]] .o .o)))) .o) .o)) u
def al3{r:Addr}{n_:Int}{uU rI uV:M}{tR tS qp nj:Sl}{rJ:Int}(xaa:FW w λk b a w0=>BI 37 (ae (aq #[105,110,105,116,105,97,108])) (ae (aq #[101,110,116,101,114])) (ae (aq #[108,101,97,118,101])) w0 λl0 w1=>cF [k,b,a] w0 w1/\∃J0:Nat->L->Int->M->M->M->Sl->Sl->Sl->Sl->Int->L->L->L->aw->Prop,∃k3:Nat,J0 k3 aF n_ uU rI uV tR tS qp nj rJ aM aM aM w1/\∀k4 b0 i0 s0 s1 s2,∀l1 l2 l3 l4:Sl,∀i1 b1 b2 b3 w2,J0 k4 b0 i0 s0 s1 s2 l1 l2 l3 l4 i1 b1 b2 b3 w2->ob (λb4 w3=>Q b4 (∃J2:Nat->L->Int->Int->M->M->M->Sl->Sl->Sl->Sl->Int->L->L->L->aw->Prop,∃k5:Nat,J2 k5 aM 0 i0 s0 s1 s2 l1 l2 l3 l4 i1 b1 b2 b3 w3/\∀k6 b5 i c s j f,∀g h l e:Sl,∀d m n o w4,J2 k6 b5 i c s j f g h l e d m n o w4->Q (VM (i<3)) (∃J:L->Int->M->M->M->Sl->Sl->Sl->Sl->Int->L->L->L->aw->Prop,(∀b9 i5 s6 s7 s8,∀l9 ce pr pL:Sl,∀i6 QW Sw Sy w5,J b9 i5 s6 s7 s8 l9 ce pr pL i6 QW Sw Sy w5->nx k6 λk7=>J2 k7 b9 (au U (i+1)) i5 s6 s7 s8 l9 ce pr pL i6 QW Sw Sy w5)/\Dd l0 i w4 λs9=>jM [k,b,a] 153 #[N r,O U 2,ae s9] w4 λY Z=>xH (λp=>(0<=i/\i<3)/\((i=0->Q ((!Y)||m) (J b5 c s j f g h l e d m n o p) ((0<=i/\i<3)/\((i=0->∀w8,az [a] p w8->A w8 (r.add 1) λi7=>sT (r.add 1) w8 1 λk8 k9 z0 rH=>k≠k8/\b≠k8/\a≠k8/\sS w8 k8 k9 z0 rH [O U (au U (i7+1))] λw9=>Q (i==0) (lm [k,b,a] 150 #[N r] w9 λEy i8 dk=>∀dz,az [k] dk dz->F [k,b,a] 84 #[N r,O U 4,ae (aq #[59])] dz λeF=>J aF c s Ey f g h l e d aF n o eF) (Q (i==1) (sH [k,b,a] 154 #[N r] w9 λxx eM=>∀fR,az [k] eM fR->J aF c s j f xx h l e d aF n o fR) (Q (i==2) (sH [k,b,a] 154 #[N r] w9 λAb gV=>∀iO,az [k] gV iO->J aF c s j f g Ab l e d aF n o iO) (J aF c s j f g h l e d aF n o w9))))/\(i=1->∀iz,az [a] p iz->A iz (r.add 1) λi9=>sT (r.add 1) iz 1 λpM LQ z1 Ai=>k≠pM/\b≠pM/\a≠pM/\sS iz pM LQ z1 Ai [O U (au U (i9+1))] λiU=>Q (i==0) (lm [k,b,a] 150 #[N r] iU λxQ i10 li=>∀jN,az [k] li jN->F [k,b,a] 84 #[N r,O U 4,ae (aq #[59])] jN λmD=>J aF c s xQ f g h l e d m aF o mD) (Q (i==1) (sH [k,b,a] 154 #[N r] iU λA4 ra=>∀tw,az [k] ra tw->J aF c s j f A4 h l e d m aF o tw) (Q (i==2) (sH [k,b,a] 154 #[N r] iU λH5 vh=>∀pN,az [k] vh pN->J aF c s j f g H5 l e d m aF o pN) (J aF c s j f g h l e d m aF o iU)))))/\(i=2->∀qR,az [a] p qR->A qR (r.add 1) λqr=>sT (r.add 1) qR 1 λLS Tn z2 LU=>k≠LS/\b≠LS/\a≠LS/\sS qR LS Tn z2 LU [O U (au U (qr+1))] λtB=>Q (i==0) (lm [k,b,a] 150 #[N r] tB λEV i12 xy=>∀BP,az [k] xy BP->F [k,b,a] 84 #[N r,O U 4,ae (aq #[59])] BP λLV=>J aF c s EV f g h l e d m n aF LV) (Q (i==1) (sH [k,b,a] 154 #[N r] tB λTj Xc=>∀co,az [k] Xc co->J aF c s j f Tj h l e d m n aF co) (Q (i==2) (sH [k,b,a] 154 #[N r] tB λW7 ON=>∀cC,az [k] ON cC->J aF c s j f g W7 l e d m n aF cC) (J aF c s j f g h l e d m n aF tB))))))/\(i=1->Q ((!Y)||n) (J b5 c s j f g h l e d m n o p) ((0<=i/\i<3)/\((i=0->∀Y1,az [a] p Y1->A Y1 (r.add 1) λro=>sT (r.add 1) Y1 1 λQX Do z3 QY=>k≠QX/\b≠QX/\a≠QX/\sS Y1 QX Do z3 QY [O U (au U (ro+1))] λy=>Q (i==0) (lm [k,b,a] 150 #[N r] y λF4 i14 OR=>∀dO,az [k] OR dO->F [k,b,a] 84 #[N r,O U 4,ae (aq #[59])] dO λPi=>J aF c s F4 f g h l e d aF n o Pi) (Q (i==1) (sH [k,b,a] 154 #[N r] y λYP Pp=>∀el,az [k] Pp el->J aF c s j f YP h l e d aF n o el) (Q (i==2) (sH [k,b,a] 154 #[N r] y λTl RK=>∀eQ,az [k] RK eQ->J aF c s j f g Tl l e d aF n o eQ) (J aF c s j f g h l e d aF n o y))))/\(i=1->∀z,az [a] p z->A z (r.add 1) λrx=>sT (r.add 1) z 1 λIq DO z4 YX=>k≠Iq/\b≠Iq/\a≠Iq/\sS z Iq DO z4 YX [O U (au U (rx+1))] λB=>Q (i==0) (lm [k,b,a] 150 #[N r] B λLb i16 So=>∀fd,az [k] So fd->F [k,b,a] 84 #[N r,O U 4,ae (aq #[59])] fd λST=>J aF c s Lb f g h l e d m aF o ST) (Q (i==1) (sH [k,b,a] 154 #[N r] B λYQ To=>∀f5,az [k] To f5->J aF c s j f YQ h l e d m aF o f5) (Q (i==2) (sH [k,b,a] 154 #[N r] B λH1 TO=>∀ge,az [k] TO ge->J aF c s j f g H1 l e d m aF o ge) (J aF c s j f g h l e d m aF o B)))))/\(i=2->∀C,az [a] p C->A C (r.add 1) λtO=>sT (r.add 1) C 1 λYY EQ z5 Fd=>k≠YY/\b≠YY/\a≠YY/\sS C YY EQ z5 Fd [O U (au U (tO+1))] λD=>Q (i==0) (lm [k,b,a] 150 #[N r] D λF5 i18 UP=>∀gE,az [k] UP gE->F [k,b,a] 84 #[N r,O U 4,ae (aq #[59])] gE λUV=>J aF c s F5 f g h l e d m n aF UV) (Q (i==1) (sH [k,b,a] 154 #[N r] D λId WF=>∀gG,az [k] WF gG->J aF c s j f Id h l e d m n aF gG) (Q (i==2) (sH [k,b,a] 154 #[N r] D λIf WP=>∀gO,az [k] WP gO->J aF c s j f g If l e d m n aF gO) (J aF c s j f g h l e d m n aF D)))))))/\(i=2->Q ((!Y)||o) (J b5 c s j f g h l e d m n o p) ((0<=i/\i<3)/\((i=0->∀H,az [a] p H->A H (r.add 1) λut=>sT (r.add 1) H 1 λTp Fn z6 YZ=>k≠Tp/\b≠Tp/\a≠Tp/\sS H Tp Fn z6 YZ [O U (au U (ut+1))] λI=>Q (i==0) (lm [k,b,a] 150 #[N r] I λSs i20 w64=>∀gT,az [k] w64 gT->F [k,b,a] 84 #[N r,O U 4,ae (aq #[59])] gT λw66=>J aF c s Ss f g h l e d aF n o w66) (Q (i==1) (sH [k,b,a] 154 #[N r] I λIs w67=>∀g8,az [k] w67 g8->J aF c s j f Is h l e d aF n o g8) (Q (i==2) (sH [k,b,a] 154 #[N r] I λID w69=>∀g9,az [k] w69 g9->J aF c s j f g ID l e d aF n o g9) (J aF c s j f g h l e d aF n o I))))/\(i=1->∀K,az [a] p K->A K (r.add 1) λuP=>sT (r.add 1) K 1 λu FS z7 Ge=>k≠u/\b≠u/\a≠u/\sS K u FS z7 Ge [O U (au U (uP+1))] λS=>Q (i==0) (lm [k,b,a] 150 #[N r] S λW8 i22 w73=>∀ip,az [k] w73 ip->F [k,b,a] 84 #[N r,O U 4,ae (aq #[59])] ip λw75=>J aF c s W8 f g h l e d m aF o w75) (Q (i==1) (sH [k,b,a] 154 #[N r] S λYR w76=>∀iD,az [k] w76 iD->J aF c s j f YR h l e d m aF o iD) (Q (i==2) (sH [k,b,a] 154 #[N r] S λYS w78=>∀iF,az [k] w78 iF->J aF c s j f g YS l e d m aF o iF) (J aF c s j f g h l e d m aF o S)))))/\(i=2->∀T,az [a] p T->A T (r.add 1) λwd=>sT (r.add 1) T 1 λv Gg z8 Gt=>k≠v/\b≠v/\a≠v/\sS T v Gg z8 Gt [O U (au U (wd+1))] λV=>Q (i==0) (lm [k,b,a] 150 #[N r] V λNH i24 w82=>∀iN,az [k] w82 iN->F [k,b,a] 84 #[N r,O U 4,ae (aq #[59])] iN λw84=>J aF c s NH f g h l e d m n aF w84) (Q (i==1) (sH [k,b,a] 154 #[N r] V λYU w85=>∀iS,az [k] w85 iS->J aF c s j f YU h l e d m n aF iS) (Q (i==2) (sH [k,b,a] 154 #[N r] V λYV w87=>∀lE,az [k] w87 lE->J aF c s j f g YV l e d m n aF lE) (J aF c s j f g h l e d m n aF V))))))) λX=>(0<=i/\i<3)/\((i=0->Q (Y&&m) (F [k,b,a] 88 #[N r] Z λw89=>X w89) (X Z))/\(i=1->Q (Y&&n) (F [k,b,a] 88 #[N r] Z λw90=>X w90) (X Z)))/\(i=2->Q (Y&&o) (F [k,b,a] 88 #[N r] Z λw91=>X w91) (X Z))) (pC [k,b,a] 155 #[N r] w4 λaC lT=>Q (VM (aC>0)) (ai6 [k,b,a] 156 #[N r,O U aC] lT λwf NO As pm AC AS QS AT YW Bv IF IN BV w93=>P w93 λbV mt=>nG 25 (dZ wf NO As pm AC AS QS AT YW Bv IF IN BV) mt λIO W=>cF [k,b,a,bV] mt W/\yY 25 l IO W λIS mK=>cF [k,b,a,bV] W mK/\∀nO,az [k] mK nO->nx k4 λGE=>J0 GE aF c s j f g h IS e d m n o nO) (nx k4 λGG=>J0 GG b5 c s j f g h l e d m n o lT))) (∃J5:Int->M->M->M->Sl->Sl->Sl->Sl->Int->aw->Prop,(∀aS Lc QT Ld,∀QO QP Su QU:Sl,∀aT oF,J5 aS Lc QT Ld QO QP Su QU aT oF->∀oN,az [b] oF oN->R (bS aS Lc QT Ld QO QP Su QU aT) oN)/\∃J6:Nat->Int->M->M->M->Sl->Sl->Sl->Sl->Int->aw->Prop,∃GO:Nat,J6 GO i0 s0 s1 s2 l1 l2 l3 l4 i1 w3/\∀bY q x Sv Tm,∀W9 Xa Xb QV:Sl,∀t Xk,J6 bY q x Sv Tm W9 Xa Xb QV t Xk->A Xk ((r.add 6).add 0) λBY=>Q (BY==0) (pC [k,b,a] 157 #[N r] Xk λbv Xl=>Q (bv==0) (J5 q x Sv Tm W9 Xa Xb QV t Xl) (ii [k,b,a] 158 #[N r,O U bv] Xl λCc Of Or OF Le Lt LT MK CC oR=>P oR λcc Xm=>nG 26 (bS Cc Of Or OF Le Lt LT MK CC) Xm λNm Xn=>cF [k,b,a,cc] Xm Xn/\yY 26 QV Nm Xn λNo Xo=>cF [k,b,a,cc] Xn Xo/\∀am,az [k] Xo am->nx bY λGT=>J6 GT q x Sv Tm W9 Xa Xb No t am)) (J5 q x Sv Tm W9 Xa Xb QV t Xk))) λJ1=>Q b0 (jM [k,b,a] 152 #[N r] w2 λpP pi=>J1 pP pi) (J1 aM w2)):G 87 #[N r,bS n_ uU rI uV tR tS qp nj rJ] w R:=
 fC (.d 3 (.s (.s .o (.j [0,3,4,5,6] [.s 7 .bool,.b 3 [E,.str,.str,.str,.sl,.sl,.sl,.sl,E],.b 5 [.bool,.bool,.bool]] (.s (.s (.j [0,3,4,5,6] [.s 19 .bool] .o .o) .o) (.s .o (.s (.s .o (.j [0,3,4,5,6] [.s 7 .bool,.s 8 E,.b 3 [E,.str,.str,.str,.sl,.sl,.sl,.sl,E],.b 5 [.bool,.bool,.bool]] (.s .o (.j [0,3,4,5,6,8] [.s 7 .bool,.b 3 [E,.str,.str,.str,.sl,.sl,.sl,.sl,E],.b 5 [.bool,.bool,.bool]] (.s .o (.j [0,3,4,5,6,7,8,9] [] .o .o)) .o)) .o)) .o))) .o)) (.j [3,4,5,11] [.b 3 [E,.str,.str,.str,.sl,.sl,.sl,.sl,E]] (.j [0,3,4,5,11] [.b 3 [E,.str,.str,.str,.sl,.sl,.sl,.sl,E]] .o .o) .o))) xaa
def al4{r:Addr}(h:jp w (r.add 0) λl=>A w (r.add 1) λi=>∃p0,cM l i 4 p0/\A w (p0.add 0) λa=>Q (a==5) (o0 w λb=>cU 149 #[N r,O U 3] b λc=>R (aj #[]) c) (o0 w λd=>cU 149 #[N r,O U 4] d λe=>R (aj #[]) e)):G 88 #[N r] w R:=
 iA h
def asK{D:Int}{Y H v:M}{X x I t:Sl}{T F:Int}{z A B:M}{y C b c:Sl}{d:Int}{a:L}(am:uO w λk f K=>Q (((((((D !=F)||(!(Y.toList==z.toList)))||(!(H.toList==A.toList)))||(!(v.toList==B.toList)))||(a&&(T !=d)))||((I.n:Int) !=(b.n:Int)))||((t.n:Int) !=(c.n:Int))) (R (ak aM) K) (jM [k,f] 93 #[X.v,y.v,ak a] K λb0 w1=>jM [k,f] 93 #[x.v,C.v,ak a] w1 λb1 N=>Q ((!b0)||(!b1)) (R (ak aM) N) (nr 0 N λZ k3 e P=>Q (VM (e<(I.n:Int))) (∃p0,cM I e 13 p0/\o0 P λs=>rb3 s p0 λi1 s0 i2 b2 i3 i4 s1 i5 l0 i6 l1 l2 i7=>ix b e s λi8 s2 i9 b3 g h s3 j l3 l l4 l5 m=>jM [k,f] 94 #[dZ i1 s0 i2 b2 i3 i4 s1 i5 l0 i6 l1 l2 i7,dZ i8 s2 i9 b3 g h s3 j l3 l l4 l5 m,ak a] s λb4 S=>Q (!b4) (R (ak aM) S) (nx k3 λk4=>Z k4 (au U (e+1)) S)) (nr 0 P λJ1 k6 i V=>Q (VM (i<(t.n:Int))) (∃J,cM t i 9 J/\o0 V λu=>aeE u J λn s4 s5 s6 l6 l7 l8 l9 o=>fY c i u λp s7 s8 s9 r pr pL xx q=>jM [k,f] 37 #[bS n s4 s5 s6 l6 l7 l8 l9 o,bS p s7 s8 s9 r pr pL xx q,ak a] u λb5 W=>Q (!b5) (R (ak aM) W) (nx k6 λk7=>J1 k7 (au U (i+1)) W)) (R (ak aF) V))))):G 37 #[bS D Y H v X x I t T,bS F z A B y C b c d,ak a] w R:=
 fC (.d 5 (.s (.s .o (.j [2,3,4] [.s 9 E] .o .o)) (.s (.s .o (.j [2,3,4] [.s 11 E] .o .o)) .o))) am
def asL{l:Sl}(I:Fg 0 0 w λJ M n i k=>Q (VM (i<(l.n:Int))) (∃p0,cM l i 9 p0/\jp k (p0.add 7) λl0=>cI 44 #[l0.v] k λK z=>∃o,cM l i 9 o/\jp z (o.add 4) λl1=>cU 101 #[l1.v] z λA=>∃q,cM l i 9 q/\jp A (q.add 5) λl2=>cU 101 #[l2.v] A λw3=>nr 0 w3 λC k3 b c=>∃r,cM l i 9 r/\jp c (r.add 6) λl3=>Q (VM (b<(l3.n:Int))) (∃s,cM l i 9 s/\jp c (s.add 6) λl4=>∃t,cM l4 b 13 t/\jp c ((t.add 4).add 4) λl5=>cI 102 #[l5.v] c λi4 m=>∃u,cM l i 9 u/\jp m (u.add 6) λl6=>∃v,cM l6 b 13 v/\jp m (v.add 10) λl7=>cU 101 #[l7.v] m λw6=>nr 0 w6 λD N h a=>∃x,cM l i 9 x/\jp a (x.add 6) λl8=>∃y,cM l8 b 13 y/\jp a (y.add 11) λl9=>Q (VM (h<(l9.n:Int))) (∃p,cM l i 9 p/\jp a (p.add 6) λj=>∃d,cM j b 13 d/\jp a (d.add 11) λpr=>∃e,cM pr h 1 e/\sT e a 1 λP V z0 W=>sS a P V z0 W [ae (aq #[115,112,111,105,108,116])] λw8=>nx N λZ=>D Z (au U (h+1)) w8) (∃f,cM l i 9 f/\jp a (f.add 6) λpL=>∃Y,cM pL b 13 Y/\sT Y a 13 λrH pM z1 L=>sS a rH pM z1 L [O U 0,ae (aq #[115,112,111,105,108,116]),O U 0,ak aM,O U 0,O U 0,ae (aq #[]),O U 0,Sl.nil.v,O U 0,Sl.nil.v,Sl.nil.v,O U 0] λw9=>nx k3 λB=>C B (au U (b+1)) w9)) (∃g,cM l i 9 g/\sT g c 9 λS T z2 F=>sS c S T z2 F [O U 0,ae (aq #[115,112,111,105,108,116]),ae (aq #[]),ae (aq #[]),Sl.nil.v,Sl.nil.v,Sl.nil.v,Sl.nil.v,O U 0] λH=>nx M λX=>J X (au U ((au U (n+1))+K)) (au U (i+1)) H)) (R (O U n) k)):G 44 #[l.v] w R:=
 fC (.d 2 (.s (.s .o (.j [0] [.s 3 E,.s 4 E] (.s .o (.s (.d 3 (.s (.s .o (.j [0,3,4] [.s 5 E] (.s .o (.s (.d 2 (.s (.s .o (.j [0,3,4,5] [.s 6 E] .o .o)) .o)) .o)) .o)) .o)) .o)) .o)) .o)) I
def al5{r:Addr}{kind:Int}{text:M}(h:cB 153 #[N r,O U kind,ae text] w λb a=>xH (λe=>R (ak b) e) λJ=>Q b (A a (r.add 1) λi=>sT (r.add 1) a 1 λk c z d=>sS a k c z d [O U (au U (i+1))] λf=>J f) (J a)):G 148 #[N r,O U kind,ae text] w R:=
 fC (.d 2 (.j [7] [] .o .o)) h
def al6{r:Addr}{e:Int}(h:A w ((r.add 6).add 0) λi=>Q (i==0) (o0 w λa=>jp a (r.add 0) λl=>A a (r.add 1) λb=>∃p0,cM l b 4 p0/\A a (p0.add 3) λc=>sT (r.add 6) a 2 λk d z f=>sS a k d z f [O U e,O U c] λg=>R (aj #[]) g) (R (aj #[]) w)):G 149 #[N r,O U e] w R:=
 iA h
def al7{r:Addr}(h:o0 w λb=>∃J:aK,J ((r.add 0).block)/\jp b (r.add 0) λl=>J ((r.add 1).block)/\A b (r.add 1) λi=>∃p0,cM l i 4 p0/\J p0.block/\xW b p0 λd s p e=>P b λk a=>A a ((r.add 6).add 0) λf=>Q ((f !=0)||(d !=1)) (F [k] 88 #[N r] a λm=>R (aj #[ae (aq #[]),O U 0]) m) (A a (r.add 1) λg=>sT (r.add 1) a 1 λc j z k3=>k≠c/\sS a c j z k3 [O U (au U (g+1))] λn=>o0 n λo=>R (aj #[ae s,O U e]) o)):G 150 #[N r] w R:=
 iA h
def al8{r:Addr}(h:o0 w λb=>∃J:aK,J ((r.add 0).block)/\jp b (r.add 0) λl=>J ((r.add 1).block)/\A b (r.add 1) λi=>∃p0,cM l i 4 p0/\J p0.block/\xW b p0 λd s e o=>P b λk a=>A a ((r.add 6).add 0) λf=>Q ((f !=0)||(d !=3)) (F [k] 88 #[N r] a λm=>R (O U 0) m) (A a (r.add 1) λg=>sT (r.add 1) a 1 λc j z k3=>k≠c/\sS a c j z k3 [O U (au U (g+1))] λn=>R (O U e) n)):G 151 #[N r] w R:=
 iA h
def al9{r:Addr}(h:A w ((r.add 6).add 0) λi=>R (ak (i==0)) w):G 152 #[N r] w R:=
 iA h
def ama{r:Addr}{kind:Int}{text:M}(h:o0 w λa=>∃J:aK,J ((r.add 0).block)/\jp a (r.add 0) λl=>J ((r.add 1).block)/\A a (r.add 1) λi=>∃p0,cM l i 4 p0/\J p0.block/\xW a p0 λc s e f=>P a λk b=>A b ((r.add 6).add 0) λd=>R (ak (((d==0)&&(c==kind))&&(s.toList==text.toList))) b):G 153 #[N r,O U kind,ae text] w R:=
 iA h
def asM{r:Addr}(i:cU 84 #[N r,O U 4,ae (aq #[123])] w λC=>ob (λu D=>R u.v D) λc=>∃J:Nat->Sl->aw->Prop,∃t:Nat,J t Sl.nil C/\∀k,∀l:Sl,∀a,J k l a->A a ((r.add 6).add 0) λj=>Q (j==0) (cB 148 #[N r,O U 4,ae (aq #[125])] a λh e=>Q h (c l e) (yV 203 #[N r] e λm z n o B p v q s E=>P E λd f=>nG 24 (iy m z n o B p v q s) f λx b=>cF [d] f b/\yY 24 l x b λy g=>cF [d] b g/\nx k λk3=>J k3 y g)) (c l a)):G 154 #[N r] w R:=
 fC (.d 3 (.j [] [.s 3 .sl] (.j [0] [.s 3 .sl] .o .o) .o)) i
def amb{r:Addr}(h:∃l:Sl,∃b,((av 37 3 #[.mk 0 (ae (aq #[111,110])),.mk 1 (ae (aq #[97,108,119,97,121,115])),.mk 2 (ae (aq #[97,102,116,101,114]))]).run ar w)=(.ok l.v b)/\nr 0 b λJ k i a=>Q (VM (i<3)) (Dd l i a λs=>cB 153 #[N r,O U 2,ae s] a λd c=>Q d (R (O U (au U (i+1))) c) (nx k λe=>J e (au U (i+1)) c)) (R (O U 0) a)):G 155 #[N r] w R:=
 fC (.d 2 (.s (.s .o (.j [0,3] [.s 4 E] .o .o)) .o)) h
def amc{r:Addr}{kind:Int}(bV:P w λa W=>∃Z:aK,Z ((r.add 0).block)/\jp W (r.add 0) λl0=>Z ((r.add 1).block)/\A W (r.add 1) λi0=>∃p0,cM l0 i0 4 p0/\Z ((p0.add 3).block)/\A W (p0.add 3) λi1=>P W λk V=>A V (r.add 3) λi2=>Q (i2==200) (F [a,k] 149 #[N r,O U 2] V λw2=>∀w3,az [a] w2 w3->R (dZ kind (aq #[]) 0 aM 0 0 (aq #[]) 0 Sl.nil 0 Sl.nil Sl.nil i1) w3) (A V (r.add 3) λi3=>sT (r.add 3) V 1 λk2 k3 z0 k4=>a≠k2/\k≠k2/\sS V k2 k3 z0 k4 [O U (au U (i3+1))] λw4=>A w4 (r.add 1) λi4=>sT (r.add 1) w4 1 λk5 k6 z1 k7=>a≠k5/\k≠k5/\sS w4 k5 k6 z1 k7 [O U (au U (i4+1))] λw5=>∃J1:Int->M->Int->L->Int->Int->M->Int->Sl->Int->Sl->Sl->Int->aw->Prop,(∀i5 s0 i6 b0 i7 i8 s1 i9,∀l1:Sl,∀i,∀l2 l3:Sl,∀b w6,J1 i5 s0 i6 b0 i7 i8 s1 i9 l1 i l2 l3 b w6->∃J2:Int->M->Int->L->Int->Int->M->Int->Sl->Int->Sl->Sl->Int->aw->Prop,(∀c s2 d b1 x y s3 z,∀l4:Sl,∀B,∀l5 l6:Sl,∀e w7,J2 c s2 d b1 x y s3 z l4 B l5 l6 e w7->jM [a,k] 148 #[N r,O U 4,ae (aq #[91])] w7 λb2 w8=>∀w9,az [k] w8 w9->∃J3:Int->M->Int->L->Int->Int->M->Int->Sl->Int->Sl->Sl->Int->aw->Prop,(∀f s4 g b3 h j s5 l,∀l7:Sl,∀m,∀l8 l9:Sl,∀n dk,J3 f s4 g b3 h j s5 l l7 m l8 l9 n dk->jM [a,k] 153 #[N r,O U 4,ae (aq #[123])] dk λb4 dz=>∃J4:Int->M->Int->L->Int->Int->M->Int->Sl->Int->Sl->Sl->Int->aw->Prop,(∀C s6 D b5 H I s7 J,∀T:Sl,∀K,∀pr pL:Sl,∀S eF,J4 C s6 D b5 H I s7 J T K pr pL S eF->jM [a,k] 148 #[N r,O U 4,ae (aq #[45,62])] eF λb6 eM=>∃J5:Nat->L->Int->M->Int->L->Int->Int->M->Int->Sl->Int->Sl->Sl->Int->aw->Prop,∃k8:Nat,J5 k8 b6 C s6 D b5 H I s7 J T K pr pL S eM/\∀k9 b7 o s8 p b8 q s s9 t,∀xx:Sl,∀u,∀Y X:Sl,∀v fR,J5 k9 b7 o s8 p b8 q s s9 t xx u Y X v fR->Q b7 (lm [a,k] 150 #[N r] fR λEy bY gV=>nG 37 (ae Ey) gV λH5 iO=>cF [a,k] gV iO/\yY 37 X H5 iO λTj iz=>cF [a,k] iO iz/\∀iU,az [k] iz iU->jM [a,k] 148 #[N r,O U 4,ae (aq #[44])] iU λb9 li=>nx k9 λrH=>J5 rH b9 o s8 p b8 q s s9 t xx u Y Tj v li) (F [a,k] 84 #[N r,O U 4,ae (aq #[59])] fR λjN=>∀mD,az [a] jN mD->R (dZ o s8 p b8 q s s9 t xx u Y X v) mD))/\Q b4 (sH [a,k] 154 #[N r] dz λW7 ra=>∀tw,az [k] ra tw->J4 f s4 g b3 h j s5 l l7 m W7 l9 n tw) (J4 f s4 g b3 h j s5 l l7 m l8 l9 n dz))/\Q b2 (fp [a,k] 204 #[N r] w9 λam aC xQ aS YP aT vh=>∀pN,az [k] vh pN->F [a,k] 84 #[N r,O U 4,ae (aq #[93])] pN λqR=>J3 c s2 d b2 am aC xQ aS YP aT l5 l6 e qR) (J3 c s2 d b2 x y s3 z l4 B l5 l6 e w9))/\Q (kind==3) (pC [a,k] 151 #[N r] w6 λbv tB=>∀xy,az [k] tB xy->J2 i5 s0 bv b0 i7 i8 s1 i9 l1 i l2 l3 b xy) (J2 i5 s0 i6 b0 i7 i8 s1 i9 l1 i l2 l3 b w6))/\Q (kind==1) (lm [a,k] 150 #[N r] w5 λEV cc BP=>∀LV,az [k] BP LV->J1 kind EV 0 aM 0 0 (aq #[]) 0 Sl.nil 0 Sl.nil Sl.nil i1 LV) (J1 kind (aq #[]) 0 aM 0 0 (aq #[]) 0 Sl.nil 0 Sl.nil Sl.nil i1 w5))):G 156 #[N r,O U kind] w R:=
 fC (.d 5 (.j [0,1,4,5] [.b 5 [E,.str,E,.bool,E,E,.str,E,.sl,E,.sl,.sl,E]] .o (.j [0,4,5] [.b 5 [E,.str,E,.bool,E,E,.str,E,.sl,E,.sl,.sl,E]] .o (.s .o (.j [0,4,5] [.b 5 [E,.str,E,.bool,E,E,.str,E,.sl,E,.sl,.sl,E]] .o (.s .o (.j [0,4,5] [.b 5 [E,.str,E,.bool,E,E,.str,E,.sl,E,.sl,.sl,E]] .o (.s .o (.s (.j [0,4,5] [.s 7 .bool,.b 5 [E,.str,E,.bool,E,E,.str,E,.sl,E,.sl,.sl,E]] .o .o) .o))))))))) bV
def amd{r:Addr}(h:∃l:Sl,∃b,((av 37 4 #[.mk 0 (ae (aq #[115,116,97,116,101])),.mk 1 (ae (aq #[112,97,114,97,108,108,101,108])),.mk 2 (ae (aq #[104,105,115,116,111,114,121])),.mk 3 (ae (aq #[100,101,101,112]))]).run ar w)=(.ok l.v b)/\nr 0 b λJ k i a=>Q (VM (i<4)) (Dd l i a λs=>cB 153 #[N r,O U 2,ae s] a λd c=>Q d (R (O U (au U (i+1))) c) (nx k λe=>J e (au U (i+1)) c)) (R (O U 0) a)):G 157 #[N r] w R:=
 fC (.d 2 (.s (.s .o (.j [0,3] [.s 4 E] .o .o)) .o)) h
def ame{r:Addr}{kind:Int}(B:P w λk g=>A g (r.add 1) λC=>sT (r.add 1) g 1 λl J z0 k3=>k≠l/\sS g l J z0 k3 [O U (au U (C+1))] λw1=>ii [k] 85 #[N r,bS kind (aq #[]) (aq #[]) (aq #[]) Sl.nil Sl.nil Sl.nil Sl.nil 0] w1 λi s q Z m n o p h t=>Q (VM (kind>=3)) (P t λb w3=>F [k,b] 84 #[N r,O U 4,ae (aq #[45,62])] w3 λw4=>lm [k,b] 150 #[N r] w4 λs3 i3 w5=>∀u,az [b] w5 u->F [k,b] 84 #[N r,O U 4,ae (aq #[59])] u λw7=>∀v,az [k] w7 v->R (bS i s q s3 m n o p h) v) (P t λa w9=>F [k,a] 84 #[N r,O U 4,ae (aq #[123])] w9 λd=>A d (r.add 5) λD=>sT (r.add 5) d 1 λc K z1 L=>k≠c/\a≠c/\sS d c K z1 L [O U (au U (D+1))] λz=>ii [k,a] 87 #[N r,bS i s q Z m n o p h] z λE s4 s5 s6 M S T W H x=>∀e,az [a] x e->A e (r.add 5) λI=>sT (r.add 5) e 1 λf Y z2 X=>k≠f/\a≠f/\sS e f Y z2 X [O U (au U (I-1))] λy=>F [k,a] 84 #[N r,O U 4,ae (aq #[125])] y λV=>∀j,az [k] V j->R (bS E s4 s5 s6 M S T W H) j)):G 158 #[N r,O U kind] w R:=
 iA B
def asN{f g:Sl}{a:L}(v:Q ((f.n:Int) !=(g.n:Int)) (R (ak aM) w) (nr 0 w λJ H c u=>Q (VM (c<(f.n:Int))) (∃p0,cM f c 9 p0/\o0 u λl=>ja l (p0.add 2) λx y N z K A=>∃p,cM g c 9 p/\ja l (p.add 2) λB C P D M F=>cB 161 #[bN x y N z K A,bN B C P D M F,ak a] l λb e=>∃m,((!b)=aM->cM f c 9 m)/\∃d,((!b)=aM->aD e (m.add 0) [O U d])/\∃n,((!b)=aM->cM g c 9 n)/\∃i,((!b)=aM->aD e (n.add 0) [O U i])/\∃o,(((!b)||(d !=i))=aM->cM f c 9 o)/\∃s,(((!b)||(d !=i))=aM->aD e (o.add 1) [ae s])/\∃q,(((!b)||(d !=i))=aM->cM g c 9 q)/\∃h,(((!b)||(d !=i))=aM->aD e (q.add 1) [ae h])/\∃r,((((!b)||(d !=i))||(!(s.toList==h.toList)))=aM->a=aF->cM f c 9 r)/\∃j,((((!b)||(d !=i))||(!(s.toList==h.toList)))=aM->a=aF->aD e (r.add 8) [O U j])/\∃t,((((!b)||(d !=i))||(!(s.toList==h.toList)))=aM->a=aF->cM g c 9 t)/\∃k,((((!b)||(d !=i))||(!(s.toList==h.toList)))=aM->a=aF->aD e (t.add 8) [O U k])/\Q ((((!b)||(d !=i))||(!(s.toList==h.toList)))||(a&&(j !=k))) (o0 e λS=>R (ak aM) S) (o0 e λT=>nx H λI=>J I (au U (c+1)) T)) (R (ak aF) u))):G 93 #[f.v,g.v,ak a] w R:=
 fC (.d 2 (.s (.s .o (.j [0,1,2] [.s 7 E] .o .o)) .o)) v
def asO{q:Int}{y:M}{H:Int}{h:L}{E i:Int}{I:M}{t:Int}{T:Sl}{b:Int}{n U:Sl}{V r:Int}{l:M}{m:Int}{o:L}{j p:Int}{c:M}{d:Int}{e:Sl}{f:Int}{W X:Sl}{Z:Int}{a:L}(x:uO w λk g z=>jM [k,g] 161 #[bN E i I t T b,bN j p c d e f,ak a] z λs A=>jM [k,g] 93 #[n.v,W.v,ak a] A λu B=>jM [k,g] 10 #[U.v,X.v] B λv C=>R (ak (((((((s&&u)&&v)&&(q==r))&&(y.toList==l.toList))&&(H==m))&&(h==o))&&((!a)||(V==Z)))) C):G 94 #[dZ q y H h E i I t T b n U V,dZ r l m o j p c d e f W X Z,ak a] w R:=
 iA x
def asP{l:Sl}(h:nr 0 w λJ k i a=>Q (VM (i<(l.n:Int))) (∃p0,cM l i 9 p0/\jp a ((p0.add 2).add 4) λf=>cI 102 #[f.v] a λj b=>∃p,cM l i 9 p/\sT p b 9 λc k3 z d=>sS b c k3 z d [O U 0,ae (aq #[115,112,111,105,108,116]),O U 0,O U 0,ae (aq #[]),O U 0,Sl.nil.v,O U 0,O U 0] λg=>nx k λe=>J e (au U (i+1)) g) (R (aj #[]) a)):G 101 #[l.v] w R:=
 fC (.s .o (.j [0] [.s 2 E] .o .o)) h
def asQ{l:Sl}(h:Fg 0 0 w λJ k b i a=>Q (VM (i<(l.n:Int))) (∃p0,cM l i 6 p0/\jp a (p0.add 4) λj=>cI 102 #[j.v] a λd c=>∃p,cM l i 6 p/\sT p c 6 λe k3 z f=>sS c e k3 z f [O U (-7),O U 0,ae (aq #[]),O U 0,Sl.nil.v,O U 0] λm=>nx k λg=>J g (au U ((au U (b+1))+d)) (au U (i+1)) m) (R (O U b) a)):G 102 #[l.v] w R:=
 fC (.d 2 (.s (.s .o (.j [0] [.s 3 E,.s 4 E] .o .o)) .o)) h
def asR{r:Addr}(am:P w λk B=>∃J:aK,J ((r.add 0).block)/\jp B (r.add 0) λl0=>J ((r.add 1).block)/\A B (r.add 1) λi0=>∃p0,cM l0 i0 4 p0/\J ((p0.add 3).block)/\A B (p0.add 3) λi1=>P B λa w1=>BI 37 (ae (aq #[115,101,116])) (ae (aq #[114,97,105,115,101])) (ae (aq #[101,109,105,116])) w1 λl1 w2=>cF [k,a] w1 w2/\∃C:Nat->Int->Int->M->Int->Int->M->Int->Sl->Int->Int->aw->Prop,∃k2:Nat,C k2 0 0 (aq #[]) 0 0 (aq #[]) 0 Sl.nil 0 i1 w2/\∀k3 q i z d e s f,∀l:Sl,∀g c b,C k3 q i z d e s f l g c b->Q (VM (q<3)) (∃D:Int->M->Int->Int->M->Int->Sl->Int->Int->aw->Prop,(∀i9 s2 h j s3 m,∀l3:Sl,∀n o w4,D i9 s2 h j s3 m l3 n o w4->nx k3 λk4=>C k4 (au U (q+1)) i9 s2 h j s3 m l3 n o w4)/\Dd l1 q b λs4=>jM [k,a] 153 #[N r,O U 2,ae s4] b λb0 w5=>Q b0 (∀w6,az [a] w5 w6->D (au U (q+1)) z d e s f l g c w6) (D i z d e s f l g c w5)) (Q (i==0) (F [k,a] 88 #[N r] b λw7=>∀w8,az [k] w7 w8->R (iy i z d e s f l g c) w8) (A b (r.add 4) λL=>Q (L==400) (F [k,a] 149 #[N r,O U 2] b λw9=>∀dk,az [k] w9 dk->R (iy i z d e s f l g c) dk) (A b (r.add 4) λS=>sT (r.add 4) b 1 λZ k6 z0 k7=>k≠Z/\a≠Z/\sS b Z k6 z0 k7 [O U (au U (S+1))] λI=>A I (r.add 1) λT=>sT (r.add 1) I 1 λk8 k9 z1 rH=>k≠k8/\a≠k8/\sS I k8 k9 z1 rH [O U (au U (T+1))] λeF=>lm [k,a] 150 #[N r] eF λs5 aC eM=>∀K,az [a] eM K->∃H:Int->M->Int->Int->M->Int->Sl->Int->Int->aw->Prop,(∀p s6 t u s7 v,∀l4:Sl,∀x y gV,H p s6 t u s7 v l4 x y gV->F [k,a] 84 #[N r,O U 4,ae (aq #[59])] gV λiO=>∀iz,az [k] iO iz->R (iy p s6 t u s7 v l4 x y) iz)/\Q (i !=2) (F [k,a] 84 #[N r,O U 4,ae (aq #[61])] K λiU=>fp [k,a] 204 #[N r] iU λV W s8 X l5 Y li=>∀jN,az [a] li jN->H i s5 V W s8 X l5 Y c jN) (H i s5 d e s f l g c K))))):G 203 #[N r] w R:=
 fC (.d 3 (.s (.s .o (.j [0,2,3,4] [.s 5 E,.b 3 [E,.str,E,E,.str,E,.sl,E,E]] (.s .o (.j [0,2,3,4,5] [.b 3 [E,.str,E,E,.str,E,.sl,E,E]] .o .o)) .o)) (.d 5 (.j [0,2,3] [.b 3 [E,.str,E,E,.str,E,.sl,E,E]] .o .o)))) am
def amf{r:Addr}(p:P w λb h=>A h ((r.add 6).add 0) λq=>Q (q !=0) (∀m,az [b] h m->R (bN 0 0 (aq #[]) 0 Sl.nil 0) m) (o0 h λf=>∃J:aK,o0 f λn=>J ((r.add 0).block)/\jp n (r.add 0) λI=>o0 n λo=>J ((r.add 1).block)/\A o (r.add 1) λs=>o0 o λc=>kZ [b] 258 #[I.v,O U s] c λt u L v K x y l B d=>oa f c d/\cj J c d/\o0 d λg=>∀k,f.heap.size<=k->k<g.heap.size->yT [.mk c.heap.size d.heap.size] k->∀a,f.heap.size<=a->a<g.heap.size->yT [.mk c.heap.size d.heap.size] a->k≠a->Q (l !=0) (∀i,az [a,k] g i->sT (r.add 6) i 2 λk3 C T D=>b≠k3/\k≠k3/\a≠k3/\sS i k3 C T D [O U l,O U B] λS=>∀j,az [b] S j->R (bN 0 0 (aq #[]) 0 Sl.nil 0) j) (∀z,az [a,k] g z->sT (r.add 1) z 1 λe E V H=>b≠e/\k≠e/\a≠e/\sS z e E V H [O U y] λF=>∀M,az [b] F M->R (bN t u L v K x) M))):G 204 #[N r] w R:=
 fC (.d 2 (.s (.l aM [] []) .o)) p
def asS{s:M}(Y:cB 5 #[] w λN w0=>pS 6 #[ae s] w0 λq g y B C r t u v h Z i3 w1=>uO w1 λk a w2=>fP [k,a] 6 #[ae s] w2 λl5 i4 s3 s4 s5 l6 l7 l8 l9 i5 i6 i7 w3=>uO w3 λb k3 w4=>fP [k,a,b,k3] 7 #[ae s] w4 λl o D F H x L I f p j m w5=>uO w5 λc d w6=>jM [k,a,b,k3,c,d] 8 #[cK q g y B C r t u v h,cK l o D F H x L I f p,ak aF] w6 λO w7=>sH [k,a,b,k3,c,d] 9 #[cK q g y B C r t u v h] w7 λA w8=>sH [k,a,b,k3,c,d] 11 #[cK l o D F H x L I f p] w8 λJ w9=>jM [k,a,b,k3,c,d] 10 #[A.v,J.v] w9 λP T=>nr 0 T λK k7 i z=>Q (VM (i<(A.n:Int))) (∃p0,cM A i 1 p0/\sT p0 z 1 λe k9 z0 rH=>k≠e/\a≠e/\b≠e/\k3≠e/\c≠e/\d≠e/\sS z e k9 z0 rH [ae (aq #[115,112,111,105,108,116])] λV=>nx k7 λpM=>K pM (au U (i+1)) V) (pC [k,a,b,k3,c,d] 12 #[cK q g y B C r t u v h] z λn W=>jM [k,a,b,k3,c,d] 8 #[cK l5 i4 s3 s4 s5 l6 l7 l8 l9 i5,cK l o D F H x L I f p,ak aF] W λS X=>R (ak (((((N&&((Z==j)&&(i3==m)))&&O)&&P)&&S)&&(VM (n>0)))) X)):G 3 #[ae s] w R:=
 fC (.d 8 (.s (.s .o (.j [3,4,5,6,7,8,9,10,11,12] [.s 13 E] .o .o)) .o)) Y
def asT(h:pS 6 #[ae (aq #[99,104,97,114,116,32,99,32,123,32,115,116,97,116,101,32,97,32,123,32,125,32,125])] w λC r P Q S D E F H t c d j=>uO j λk a m=>fP [k,a] 6 #[ae (aq #[99,104,97,114,116,32,99,32,123,32,105,110,105,116,105,97,108,32,97,59,32,115,116,97,116,101,32,97,32,123,32,111,110,32,120,32,45,62,32,99,59,32,125,32,125])] m λI u T U V J K L M v e f n=>uO n λg k3 o=>fP [k,a,g,k3] 6 #[ae (aq #[99,104,97,114,116,32,99,32,123,32,105,110,105,116,105,97,108,32,97,59,32,115,116,97,116,101,32,97,32,123,32,111,110,32,120,32,45,62,32,97,59,32,125,32,125])] o λl x s W X O N Y A y i b p=>uO p λz B q=>R (ak (((((c==25)&&(d==6))&&((e==27)&&(f==31)))&&(i==0))&&(s.toList==((aq #[99]).toList)))) q):G 5 #[] w R:=
 iA h
def amg{s:M}(D:uO w λk a F=>fP [k,a] 35 #[ae s] F λm g r t u n o p q h j E v=>Q (j !=0) (uO v λf k3 H=>k≠a->k≠f->k≠k3->a≠f->a≠k3->f≠k3->∃J:aK,J k3/\qV J k/\qV J a/\∀x,az [a,k] H x->R (aj #[cK Sl.nil 0 (aq #[]) (aq #[]) (aq #[]) Sl.nil Sl.nil Sl.nil Sl.nil 0,vO j E]) x) (uO v λc b I=>Uv [k,a,c,b] 36 #[cK m g r t u n o p q h] I λi l y=>Q (i !=0) (∀z,az [b] y z->k≠a->k≠c->k≠b->a≠c->a≠b->c≠b->∃d:aK,d b/\qV d k/\qV d a/\∀A,az [a,k] z A->R (aj #[cK Sl.nil 0 (aq #[]) (aq #[]) (aq #[]) Sl.nil Sl.nil Sl.nil Sl.nil 0,vO i l]) A) (∀B,az [b] y B->k≠a->k≠c->k≠b->a≠c->a≠b->c≠b->∃e:aK,e b/\qV e k/\qV e a/\∀C,az [a,k] B C->R (aj #[cK m g r t u n o p q h,vO i l]) C))):G 7 #[ae s] w R:=
 iA D
def asU{c:Sl}{i:Int}{j l m:M}{n o p q:Sl}{r:Int}(u:P w λb t=>∃s h,((Instr.makeMap 71 ZQ).run ar t)=(.ok (.map s) h)/\cF [b] t h/\FW h λk a k3 d=>aG d k 71 [.map s]->aG d a 79 [.func (.func 38) #[] #[pB k]]->aG d k3 80 [.func (.func 40) #[] #[pB a,pB k,pB k3]]->F [b] 40 #[bS i j l m n o p q r,pB a,pB k,pB k3] d λe=>KX e k 71 λx=>R4 e a 79 λB=>R4 e k3 80 λC=>rVs [b] 42 #[.map x] e λy f=>KX f k 71 λz=>R4 f a 79 λD=>R4 f k3 80 λE=>sH [b] 41 #[y.v] f λv g=>KX g k 71 λA=>R4 g a 79 λH=>R4 g k3 80 λI=>R v.v g):G 9 #[cK c i j l m n o p q r] w R:=
 iA u
def amh{c:Sl}{a:Int}{b d e:M}{f g h i:Sl}{j:Int}(k:P w λl n=>sH [l] 43 #[Sl.nil.v,bS a b d e f g h i j] n λm o=>R m.v o):G 11 #[cK c a b d e f g h i j] w R:=
 iA k
def asV{rows:Sl}{m:Addr}(h:cL 39 #[rows.v] w λl j=>nr 0 j λd k i a=>Q (VM (i<(l.n:Int))) (xH (λn=>nx k λf=>d f (au U (i+1)) n) λJ=>rm l i a λe s p q y r x t u=>Q (e==2) (P a λk3 b=>VV b m λg=>∃c,((Instr.mapUpdate 71 (.map g) (ae s) (ak aF)).run ar b)=(.ok () c)/\cF [k3] b c/\J c) (P a λv o=>J o)) (R (aj #[]) a)):G 38 #[rows.v,N m] w R:=
 fC (.s .o (.j [1,6,7] [.s 8 E] (.d 2 (.j [1,6,7,8] [] .o .o)) .o)) h
def asW{n_:Int}{uU rI uV:M}{t S q n:Sl}{rJ:Int}{m B a:Addr}(Y:P w λk j=>UG j m λv0=>LD 72 t.v S.v j λl0 u=>cF [k] j u/\∃b:Nat,∃H I,v0.v=(.func (.func b) H.toArray I.toArray)/\(∀A:Array ay,∀v,((callFunc b A).run ar v)=(.ok (.enter b A) v))/\F [k] b ((yQ (yQ H [l0.v]) I).toArray) u λw3=>nr 0 w3 λV k3 i l=>Q (VM (i<(q.n:Int))) (ix q i l λZ s0 i2 b0 i3 i4 s1 i5 l1 i6 l2 l3 i7=>P l λh d=>xH (λo=>UG o m λv1=>nG 72 l2.v o λl4 x=>cF [k,h] o x/\∃c:Nat,∃K L,v1.v=(.func (.func c) K.toArray L.toArray)/\(∀C:Array ay,∀y,((callFunc c C).run ar y)=(.ok (.enter c C) y))/\F [k,h] c ((yQ (yQ K [l4.v]) L).toArray) x λw9=>nx k3 λk6=>V k6 (au U (i+1)) w9) λJ=>Q (Z==1) (VV d B λm0=>∃e,((Instr.mapUpdate 71 (.map m0) (ae s0) (ak aF)).run ar d)=(.ok () e)/\cF [k,h] d e/\J e) (J d)) (nr 0 l λW k8 g z=>Q (VM (g<(n.n:Int))) (fY n g z λi9 s2 s3 s4 l5 l6 l7 l8 f=>P z λk9 p=>UG p a λv2=>∃r:Nat,∃O T,v2.v=(.func (.func r) O.toArray T.toArray)/\(∀D:Array ay,∀s,((callFunc r D).run ar s)=(.ok (.enter r D) s))/\F [k,k9] r ((yQ (yQ O [bS i9 s2 s3 s4 l5 l6 l7 l8 f]) T).toArray) p λX=>nx k8 λpM=>W pM (au U (g+1)) X) (R (aj #[]) z))):G 40 #[bS n_ uU rI uV t S q n rJ,N m,N B,N a] w R:=
 fC (.d 2 (.s (.s .o (.j [1,2,3,4,17,18] [.s 19 E] (.d 2 (.s (.s .o (.j [1,2,3,4,6,17,18,19] [] .o .o)) .o)) .o)) (.s .o (.j [3,4,6,36,37] [.s 38 E] .o .o)))) Y
def ami{e:Sl}{L:Int}{uU T uV:M}{t S q n:Sl}{V:Int}(o:P w λk w0=>sH [k] 99 #[e.v,t.v] w0 λz w1=>sH [k] 99 #[z.v,S.v] w1 λB w2=>Fg B 0 w2 λj v c i a=>Q (VM (i<(q.n:Int))) (ob (λC h=>∃p0,cM q i 13 p0/\jp h (p0.add 10) λD=>sH [k] 99 #[C.v,D.v] h λF w5=>nx v λk3=>j k3 F (au U (i+1)) w5) λJ=>∃p,cM q i 13 p/\A a (p.add 0) λr=>Q (r==1) (∃g,cM q i 13 g/\Eo a (g.add 1) λW=>sH [k] 100 #[c.v,ae W] a λH w6=>J H w6) (J c a)) (Fg c 0 a λm x f b d=>Q (VM (b<(n.n:Int))) (fY n b d λs X Y Z I K l O u=>sH [k] 43 #[f.v,bS s X Y Z I K l O u] d λN w8=>nx x λy=>m y N (au U (b+1)) w8) (R f.v d))):G 43 #[e.v,bS L uU T uV t S q n V] w R:=
 fC (.d 3 (.s (.s .o (.j [3] [.s 0 .sl,.s 5 E] (.s .o (.s (.j [3,5] [.s 0 .sl] .o .o) .o)) .o)) (.s (.s .o (.j [3] [.s 0 .sl,.s 6 E] .o .o)) .o))) o
def amj{c a:Sl}(h:Fg c 0 w λd k l i b=>Q (VM (i<(a.n:Int))) (ob (λg m=>nx k λf=>d f g (au U (i+1)) m) λJ=>∃p0,cM a i 9 p0/\A b (p0.add 0) λe=>Q (e==2) (∃p,cM a i 9 p/\Eo b (p.add 1) λs=>cL 100 #[l.v,ae s] b λj n=>J j n) (J l b)) (R l.v b)):G 99 #[c.v,a.v] w R:=
 fC (.s .o (.s (.s .o (.j [1] [.s 0 .sl,.s 5 E] (.s .o (.j [1,5] [.s 0 .sl] .o .o)) .o)) .o)) h
def amk{l:Sl}{s:M}(h:nr 0 w λJ d i a=>∃p0,((VM (i<(l.n:Int)))=aF->cM l i 1 p0)/\∃b,((VM (i<(l.n:Int)))=aF->aD a p0 [ae b])/\Q ((VM (i<(l.n:Int)))&&(Op.bytesLess b.toList s.toList)) (nx d λe=>J e (au U (i+1)) a) (∃p,((VM (i<(l.n:Int)))=aF->cM l i 1 p)/\∃c,((VM (i<(l.n:Int)))=aF->aD a p [ae c])/\Q ((VM (i<(l.n:Int)))&&(c.toList==s.toList)) (R l.v a) (∃k3:Nat,(i=(k3:Int)/\k3<=l.c)/\yY 37 Sl.nil (l.cut 0 k3 l.c 1) a λf n=>nG 37 (ae s) n λg o=>yY 37 f g o λj q=>∃k:Nat,(i=(k:Int)/\k<=l.n/\l.n<=l.c)/\yY 37 j (l.cut k l.n l.c 1) q λm r=>R m.v r))):G 100 #[l.v,ae s] w R:=
 fC (.d 2 (.s (.j [0,1] [.s 5 E] .o .o) .o)) h
end Go.Proofs.YtccbiehilmhodaaGreatDoor.Vc
namespace Go.Proofs
open Go.Shelf
def Tryz.Bq:Go.Shelf.Ren:=⟨λ| 156=>314 | 165=>313 | 166=>275 | 169=>230 | 240=>311 | 241=>344 | 276=>341 | 277=>368 | n=>n,λ| 31=>37 | 9=>9 | 3=>3 | 4=>4 | 0=>0 | 20=>20 | 72=>274 | 76=>313 | 70=>272 | 37=>256 | 75=>312 | 127=>318 | 164=>361 | 5=>5 | 80=>245 | n=>n,λ| n=>n⟩
def Tryz.QH:Go.Proofs.Lays.n156 Tryz.prog Tryz.Bq:={
 mixed:=D
 f156:=Tryz.func314.trans (bK Hg D)
 f165:=Tryz.func313.trans (bK Hg D)
 f166:=Tryz.func275.trans (bK Hg D)
 f169:=Tryz.func230.trans (bK Hg D)
 f240:=Tryz.func311.trans (bK Hg D)
 f241:=Tryz.func344.trans (bK Hg D)
 f276:=Tryz.func341.trans (bK Hg D)
 f277:=Tryz.func368.trans (bK Hg D)
 t0:=Tryz.underlying0
 a0:=Tryz.isAgg0
 z0:=Tryz.sizeOf0
 v0:=Tryz.zeroValue0
 t3:=Tryz.underlying3
 a3:=Tryz.isAgg3
 z3:=Tryz.sizeOf3
 v3:=Tryz.zeroValue3
 t4:=Tryz.underlying4
 a4:=Tryz.isAgg4
 z4:=Tryz.sizeOf4
 v4:=Tryz.zeroValue4
 t9:=Tryz.underlying9
 a9:=Tryz.isAgg9
 z9:=Tryz.sizeOf9
 v9:=Tryz.zeroValue9
 t20:=Tryz.underlying20
 a20:=Tryz.isAgg20
 z20:=Tryz.sizeOf20
 v20:=Tryz.zeroValue20
 t31:=Tryz.underlying37
 a31:=Tryz.isAgg37
 z31:=Tryz.sizeOf37
 v31:=Tryz.zeroValue37
 t37:=Tryz.underlying256
 a37:=Tryz.isAgg256
 z37:=Tryz.sizeOf256
 v37:=Tryz.zeroValue256
 t70:=Tryz.underlying272
 a70:=Tryz.isAgg272
 z70:=Tryz.sizeOf272
 v70:=Tryz.zeroValue272
 t72:=Tryz.underlying274
 a72:=Tryz.isAgg274
 z72:=Tryz.sizeOf274
 v72:=Tryz.zeroValue274
 t75:=Tryz.underlying312
 a75:=Tryz.isAgg312
 z75:=Tryz.sizeOf312
 v75:=Tryz.zeroValue312
 t76:=Tryz.underlying313
 a76:=Tryz.isAgg313
 z76:=Tryz.sizeOf313
 v76:=Tryz.zeroValue313
 t127:=Tryz.underlying318
 a127:=Tryz.isAgg318
 z127:=Tryz.sizeOf318
 v127:=Tryz.zeroValue318
 t164:=Tryz.underlying361
 a164:=Tryz.isAgg361
 z164:=Tryz.sizeOf361
 v164:=Tryz.zeroValue361}
def Tryz.rG:Builder.Extra Tryz.prog Tryz.Bq:={
 sizeBuilder:=D
 liesBuilder:=D
 t5:=Tryz.underlying5
 a5:=Tryz.isAgg5
 z5:=Tryz.sizeOf5
 v5:=Tryz.zeroValue5
 infoByte:=D
 cellsByte:=D
 sizeByte:=D
 neB5:=Z}
open Go.RowKit in
theorem Tryz.strings_Join_none (a:Option Addr) (c:Nat) (sep:ByteArray) (w:World):
 Calls Tryz.prog 314 #[.slice a 0 c,.string sep] w λe w'=>e=.returned (.string ⟨#[]⟩)/\w'=w:=Any.strings_Join_none Tryz.QH Tryz.rG a c sep w
open Go.RowKit in
theorem Tryz.strings_Join (bk o c:Nat) (xs:List ByteArray) (sep:ByteArray) (w:World) (yv:∀(j:Nat) x,xs[j]? =some x->w.cell? ⟨bk,o+j,none⟩=some (.string x)) (Tf:bk<w.heap.size) (hN:xs.length<=140737488355328) (rc:xs.length<=c) (fS:(Lib.join (xs.map (·.data.toList)) sep.data.toList).length<=140737488355328):
 Calls Tryz.prog 314 #[.slice (some ⟨bk,o,none⟩) xs.length c,.string sep] w λe w'=>e=.returned (.string ⟨(Lib.join (xs.map (·.data.toList)) sep.data.toList).toArray⟩)/\Below w.heap.size w w':=Any.strings_Join Tryz.QH Tryz.rG bk o c xs sep w yv Tf hN rc fS
def Tryz.HX:Go.Shelf.Ren:=⟨λ| 171=>279 | 243=>317 | 246=>346 | 283=>369 | 284=>370 | 285=>371 | 286=>372 | 129=>222 | 317=>391 | 318=>392 | 319=>393 | 320=>394 | 337=>400 | 338=>401 | n=>n,λ| 3=>3 | 9=>9 | 2=>2 | 4=>4 | 171=>388 | 0=>0 | 53=>270 | 37=>256 | 5=>5 | 173=>390 | 212=>405 | 51=>268 | 20=>20 | 213=>406 | 46=>235 | 232=>413 | 233=>414 | n=>n,λ| 17=>3 | 18=>4 | 19=>5 | n=>n⟩
def Tryz.WY:Go.Proofs.LaysM.n171 Tryz.prog Tryz.HX:={
 mixed:=D
 f129:=Tryz.func222.trans (bK Hg D)
 f171:=Tryz.func279.trans (bK Hg D)
 f243:=Tryz.func317.trans (bK Hg D)
 f246:=Tryz.func346.trans (bK Hg D)
 f283:=Tryz.func369.trans (bK Hg D)
 f284:=Tryz.func370.trans (bK Hg D)
 f285:=Tryz.func371.trans (bK Hg D)
 f286:=Tryz.func372.trans (bK Hg D)
 f317:=Tryz.func391.trans (bK Hg D)
 f318:=Tryz.func392.trans (bK Hg D)
 f319:=Tryz.func393.trans (bK Hg D)
 f320:=Tryz.func394.trans (bK Hg D)
 f337:=Tryz.func400.trans (bK Hg D)
 f338:=Tryz.func401.trans (bK Hg D)
 t0:=Tryz.underlying0
 a0:=Tryz.isAgg0
 z0:=Tryz.sizeOf0
 v0:=Tryz.zeroValue0
 t2:=Tryz.underlying2
 a2:=Tryz.isAgg2
 z2:=Tryz.sizeOf2
 v2:=Tryz.zeroValue2
 t3:=Tryz.underlying3
 a3:=Tryz.isAgg3
 z3:=Tryz.sizeOf3
 v3:=Tryz.zeroValue3
 t4:=Tryz.underlying4
 a4:=Tryz.isAgg4
 z4:=Tryz.sizeOf4
 v4:=Tryz.zeroValue4
 t5:=Tryz.underlying5
 a5:=Tryz.isAgg5
 z5:=Tryz.sizeOf5
 v5:=Tryz.zeroValue5
 t9:=Tryz.underlying9
 a9:=Tryz.isAgg9
 z9:=Tryz.sizeOf9
 v9:=Tryz.zeroValue9
 t20:=Tryz.underlying20
 a20:=Tryz.isAgg20
 z20:=Tryz.sizeOf20
 v20:=Tryz.zeroValue20
 t37:=Tryz.underlying256
 a37:=Tryz.isAgg256
 z37:=Tryz.sizeOf256
 v37:=Tryz.zeroValue256
 t46:=Tryz.underlying235
 a46:=Tryz.isAgg235
 z46:=Tryz.sizeOf235
 v46:=Tryz.zeroValue235
 t51:=Tryz.underlying268
 a51:=Tryz.isAgg268
 z51:=Tryz.sizeOf268
 v51:=Tryz.zeroValue268
 t53:=Tryz.underlying270
 a53:=Tryz.isAgg270
 z53:=Tryz.sizeOf270
 v53:=Tryz.zeroValue270
 t171:=Tryz.underlying388
 a171:=Tryz.isAgg388
 z171:=Tryz.sizeOf388
 v171:=Tryz.zeroValue388
 t173:=Tryz.underlying390
 a173:=Tryz.isAgg390
 z173:=Tryz.sizeOf390
 v173:=Tryz.zeroValue390
 t212:=Tryz.underlying405
 a212:=Tryz.isAgg405
 z212:=Tryz.sizeOf405
 v212:=Tryz.zeroValue405
 t213:=Tryz.underlying406
 a213:=Tryz.isAgg406
 z213:=Tryz.sizeOf406
 t232:=Tryz.underlying413
 a232:=Tryz.isAgg413
 z232:=Tryz.sizeOf413
 v232:=Tryz.zeroValue413
 t233:=Tryz.underlying414
 a233:=Tryz.isAgg414
 z233:=Tryz.sizeOf414
 v233:=Tryz.zeroValue414
 g17:=D
 g18:=D
 g19:=D
 i0:=D
 i2:=D
 i3:=D
 i4:=D
 i5:=D
 i9:=D
 i20:=D
 i37:=D
 i46:=D
 i51:=D
 i53:=D
 i171:=D
 i173:=D
 i212:=D
 i232:=D
 i233:=D
 m17:=D
 m18:=D
 m19:=D}
open Go.RowKit Go.Sort Go.Lib in
theorem Tryz.strconv_Itoa (n:Int) (h0: -9223372036854775808<=n) (h1:n<=9223372036854775807) (w:World) (atN:Lib.TabIs Tryz.prog w "internal/strconv.uint64pow10" .u64 Lib.pow10Tab):
 Calls Tryz.prog 279 #[.int .i64 n] w λe w'=>e=.returned (.string ⟨(Lib.itoa n).toArray⟩)/\∃k os,w'=grow (w.drewN k) os:=Any.strconv_Itoa Tryz.WY n h0 h1 w atN
def Tryz.HY:Go.Shelf.Ren:=⟨λ| 316=>301 | n=>n,λ| 9=>9 | 3=>3 | 4=>4 | 37=>256 | 0=>0 | 127=>318 | 5=>5 | n=>n,λ| n=>n⟩
def Tryz.WZ:Go.Proofs.LaysM.n316 Tryz.prog Tryz.HY:={
 mixed:=D
 f316:=Tryz.func301.trans (bK Hg D)
 t0:=Tryz.underlying0
 a0:=Tryz.isAgg0
 z0:=Tryz.sizeOf0
 v0:=Tryz.zeroValue0
 t3:=Tryz.underlying3
 a3:=Tryz.isAgg3
 z3:=Tryz.sizeOf3
 v3:=Tryz.zeroValue3
 t4:=Tryz.underlying4
 a4:=Tryz.isAgg4
 z4:=Tryz.sizeOf4
 v4:=Tryz.zeroValue4
 t9:=Tryz.underlying9
 a9:=Tryz.isAgg9
 z9:=Tryz.sizeOf9
 v9:=Tryz.zeroValue9
 t37:=Tryz.underlying256
 a37:=Tryz.isAgg256
 z37:=Tryz.sizeOf256
 v37:=Tryz.zeroValue256
 t127:=Tryz.underlying318
 a127:=Tryz.isAgg318
 z127:=Tryz.sizeOf318
 v127:=Tryz.zeroValue318
 t5:=Tryz.underlying5
 a5:=Tryz.isAgg5
 z5:=Tryz.sizeOf5
 v5:=Tryz.zeroValue5
 i0:=D
 i3:=D
 i4:=D
 i5:=D
 i9:=D
 i37:=D
 i127:=D}
open Go.RowKit in
theorem Tryz.stringslite_Clone (s:ByteArray) (w:World) (ag4:s.size<=281474976710656):
 Calls Tryz.prog 301 #[.string s] w λe w'=>e=.returned (.string s)/\Below w.heap.size w w':=Any.stringslite_Clone Tryz.WZ s w ag4
def Tryz.HZ:Go.Shelf.Ren:=⟨λ| 174=>303 | 247=>329 | 245=>330 | 287=>351 | 279=>352 | 280=>353 | 281=>354 | 282=>355 | 321=>376 | 322=>377 | 316=>301 | 171=>279 | 205=>378 | 243=>317 | 246=>346 | 283=>369 | 284=>370 | 285=>371 | 286=>372 | 129=>222 | 317=>391 | 318=>392 | 319=>393 | 320=>394 | 337=>400 | 338=>401 | n=>n,λ| 9=>9 | 3=>3 | 2=>2 | 75=>312 | 85=>328 | 4=>4 | 167=>371 | 5=>5 | 53=>270 | 175=>372 | 46=>235 | 168=>374 | 37=>256 | 0=>0 | 210=>398 | 21=>21 | 127=>318 | 145=>411 | 143=>409 | 171=>388 | 173=>390 | 212=>405 | 51=>268 | 20=>20 | 213=>406 | 232=>413 | 233=>414 | 80=>245 | n=>n,λ| 15=>1 | 16=>2 | 17=>3 | 18=>4 | 19=>5 | n=>n⟩
def Tryz.K0:Go.Proofs.LaysC.n174 Tryz.prog Tryz.HZ:={
 mixed:=D
 f129:=Tryz.func222.trans (bK Hg D)
 f171:=Tryz.func279.trans (bK Hg D)
 f174:=Tryz.func303.trans (bK Hg D)
 f205:=Tryz.func378.trans (bK Hg D)
 f243:=Tryz.func317.trans (bK Hg D)
 f245:=Tryz.func330.trans (bK Hg D)
 f246:=Tryz.func346.trans (bK Hg D)
 f247:=Tryz.func329.trans (bK Hg D)
 f279:=Tryz.func352.trans (bK Hg D)
 f280:=Tryz.func353.trans (bK Hg D)
 f281:=Tryz.func354.trans (bK Hg D)
 f282:=Tryz.func355.trans (bK Hg D)
 f283:=Tryz.func369.trans (bK Hg D)
 f284:=Tryz.func370.trans (bK Hg D)
 f285:=Tryz.func371.trans (bK Hg D)
 f286:=Tryz.func372.trans (bK Hg D)
 f287:=Tryz.func351.trans (bK Hg D)
 f316:=Tryz.func301.trans (bK Hg D)
 f317:=Tryz.func391.trans (bK Hg D)
 f318:=Tryz.func392.trans (bK Hg D)
 f319:=Tryz.func393.trans (bK Hg D)
 f320:=Tryz.func394.trans (bK Hg D)
 f321:=Tryz.func376.trans (bK Hg D)
 f322:=Tryz.func377.trans (bK Hg D)
 f337:=Tryz.func400.trans (bK Hg D)
 f338:=Tryz.func401.trans (bK Hg D)
 t0:=Tryz.underlying0
 a0:=Tryz.isAgg0
 z0:=Tryz.sizeOf0
 v0:=Tryz.zeroValue0
 t2:=Tryz.underlying2
 a2:=Tryz.isAgg2
 z2:=Tryz.sizeOf2
 v2:=Tryz.zeroValue2
 t3:=Tryz.underlying3
 a3:=Tryz.isAgg3
 z3:=Tryz.sizeOf3
 v3:=Tryz.zeroValue3
 t4:=Tryz.underlying4
 a4:=Tryz.isAgg4
 z4:=Tryz.sizeOf4
 v4:=Tryz.zeroValue4
 t5:=Tryz.underlying5
 a5:=Tryz.isAgg5
 z5:=Tryz.sizeOf5
 v5:=Tryz.zeroValue5
 t9:=Tryz.underlying9
 a9:=Tryz.isAgg9
 z9:=Tryz.sizeOf9
 v9:=Tryz.zeroValue9
 t20:=Tryz.underlying20
 a20:=Tryz.isAgg20
 z20:=Tryz.sizeOf20
 v20:=Tryz.zeroValue20
 t21:=Tryz.underlying21
 a21:=Tryz.isAgg21
 z21:=Tryz.sizeOf21
 v21:=Tryz.zeroValue21
 t37:=Tryz.underlying256
 a37:=Tryz.isAgg256
 z37:=Tryz.sizeOf256
 v37:=Tryz.zeroValue256
 t46:=Tryz.underlying235
 a46:=Tryz.isAgg235
 z46:=Tryz.sizeOf235
 v46:=Tryz.zeroValue235
 t51:=Tryz.underlying268
 a51:=Tryz.isAgg268
 z51:=Tryz.sizeOf268
 v51:=Tryz.zeroValue268
 t53:=Tryz.underlying270
 a53:=Tryz.isAgg270
 z53:=Tryz.sizeOf270
 v53:=Tryz.zeroValue270
 t75:=Tryz.underlying312
 a75:=Tryz.isAgg312
 z75:=Tryz.sizeOf312
 v75:=Tryz.zeroValue312
 t85:=Tryz.underlying328
 a85:=Tryz.isAgg328
 z85:=Tryz.sizeOf328
 v85:=Tryz.zeroValue328
 t127:=Tryz.underlying318
 a127:=Tryz.isAgg318
 z127:=Tryz.sizeOf318
 v127:=Tryz.zeroValue318
 t143:=Tryz.underlying409
 a143:=Tryz.isAgg409
 z143:=Tryz.sizeOf409
 v143:=Tryz.zeroValue409
 t145:=Tryz.underlying411
 a145:=Tryz.isAgg411
 z145:=Tryz.sizeOf411
 v145:=Tryz.zeroValue411
 t167:=Tryz.underlying371
 a167:=Tryz.isAgg371
 z167:=Tryz.sizeOf371
 v167:=Tryz.zeroValue371
 t168:=Tryz.underlying374
 a168:=Tryz.isAgg374
 z168:=Tryz.sizeOf374
 v168:=Tryz.zeroValue374
 t171:=Tryz.underlying388
 a171:=Tryz.isAgg388
 z171:=Tryz.sizeOf388
 v171:=Tryz.zeroValue388
 t173:=Tryz.underlying390
 a173:=Tryz.isAgg390
 z173:=Tryz.sizeOf390
 v173:=Tryz.zeroValue390
 t175:=Tryz.underlying372
 a175:=Tryz.isAgg372
 z175:=Tryz.sizeOf372
 v175:=Tryz.zeroValue372
 t210:=Tryz.underlying398
 a210:=Tryz.isAgg398
 z210:=Tryz.sizeOf398
 v210:=Tryz.zeroValue398
 t212:=Tryz.underlying405
 a212:=Tryz.isAgg405
 z212:=Tryz.sizeOf405
 v212:=Tryz.zeroValue405
 t213:=Tryz.underlying406
 a213:=Tryz.isAgg406
 z213:=Tryz.sizeOf406
 t232:=Tryz.underlying413
 a232:=Tryz.isAgg413
 z232:=Tryz.sizeOf413
 v232:=Tryz.zeroValue413
 t233:=Tryz.underlying414
 a233:=Tryz.isAgg414
 z233:=Tryz.sizeOf414
 v233:=Tryz.zeroValue414
 g15:=D
 g16:=D
 g17:=D
 g18:=D
 g19:=D
 t80:=Tryz.underlying245
 a80:=Tryz.isAgg245
 z80:=Tryz.sizeOf245
 v80:=Tryz.zeroValue245
 i0:=D
 i2:=D
 i3:=D
 i4:=D
 i5:=D
 i9:=D
 i20:=D
 i21:=D
 i37:=D
 i46:=D
 i51:=D
 i53:=D
 i75:=D
 i80:=D
 i85:=D
 i127:=D
 i143:=D
 i145:=D
 i167:=D
 i168:=D
 i171:=D
 i173:=D
 i175:=D
 i210:=D
 i212:=D
 i232:=D
 i233:=D
 m15:=D
 m16:=D
 m17:=D
 m18:=D
 m19:=D
 c0:=D
 c2:=D
 c3:=D
 c4:=D
 c5:=D
 c9:=D
 c20:=D
 c21:=D
 c37:=D
 c46:=D
 c51:=D
 c53:=D
 c75:=D
 c80:=D
 c85:=D
 c127:=D
 c143:=D
 c145:=D
 c167:=D
 c168:=D
 c171:=D
 c173:=D
 c175:=D
 c210:=D
 c212:=D
 c213:=D
 c232:=D
 c233:=D}
open Go.RowKit in
theorem Tryz.strconv_ParseInt_10_at64_ok (s:ByteArray) (ag5:s.size<=9223372036854775806) (v:Int) (h:Lib.parseIntB 64 s.data.toList=.ok v) (w:World):
 Calls Tryz.prog 303 #[.string s,.int .i64 10,.int .i64 64] w λe w'=>e=.returned (.tuple #[.int .i64 v,.nilIface])/\(w'=w∨∃t,w'=Lib.bytesWorld w 5 t):=Any.strconv_ParseInt_10_at64_ok Tryz.K0 s ag5 v h w
open Go.RowKit in
theorem Tryz.strconv_ParseInt_10_at64_range_var (s:ByteArray) (ag4:s.size<=281474976710656) (h:Lib.parseIntB 64 s.data.toList=.range) (tp:TypeId) (p:Value) (w:World) (ag6:w.var? Tryz.prog "strconv.ErrRange" =some #[.iface tp p]):
 Calls Tryz.prog 303 #[.string s,.int .i64 10,.int .i64 64] w λe w'=>∃N,e=.returned (.tuple #[.int .i64 (Lib.intSat 64 s.data.toList),.iface 374 (.pointer (some ⟨N,0,none⟩))])/\w.heap.size<=N/\w'.heap[N]? =some (.cells #[.string ⟨#[80,97,114,115,101,73,110,116]⟩,.string s,.iface tp p] 398 (0,0))/\Below w.heap.size w w':=Any.strconv_ParseInt_10_at64_range_var Tryz.K0 s ag4 h tp p w ag6
def Tryz.K4:Go.Shelf.Ren:=⟨λ| 219=>300 | 217=>325 | 225=>326 | 224=>327 | 267=>328 | 266=>349 | 314=>350 | n=>n,λ| 9=>9 | 3=>3 | 4=>4 | 5=>5 | 46=>235 | 146=>363 | 51=>268 | n=>n,λ| 1=>0 | n=>n⟩
def Tryz.abl:Go.Proofs.Lays.n219 Tryz.prog Tryz.K4:={
 mixed:=D
 f217:=Tryz.func325.trans (bK Hg D)
 f219:=Tryz.func300.trans (bK Hg D)
 f224:=Tryz.func327.trans (bK Hg D)
 f225:=Tryz.func326.trans (bK Hg D)
 f266:=Tryz.func349.trans (bK Hg D)
 f267:=Tryz.func328.trans (bK Hg D)
 f314:=Tryz.func350.trans (bK Hg D)
 t3:=Tryz.underlying3
 a3:=Tryz.isAgg3
 z3:=Tryz.sizeOf3
 v3:=Tryz.zeroValue3
 t4:=Tryz.underlying4
 a4:=Tryz.isAgg4
 z4:=Tryz.sizeOf4
 v4:=Tryz.zeroValue4
 t5:=Tryz.underlying5
 a5:=Tryz.isAgg5
 z5:=Tryz.sizeOf5
 v5:=Tryz.zeroValue5
 t9:=Tryz.underlying9
 a9:=Tryz.isAgg9
 z9:=Tryz.sizeOf9
 v9:=Tryz.zeroValue9
 t46:=Tryz.underlying235
 a46:=Tryz.isAgg235
 z46:=Tryz.sizeOf235
 v46:=Tryz.zeroValue235
 t51:=Tryz.underlying268
 a51:=Tryz.isAgg268
 z51:=Tryz.sizeOf268
 v51:=Tryz.zeroValue268
 t146:=Tryz.underlying363
 a146:=Tryz.isAgg363
 z146:=Tryz.sizeOf363
 v146:=Tryz.zeroValue363
 g1:=D}
open Go.RowKit Go.Lib in
theorem Tryz.stringslite_Index_one (s:ByteArray) (c:UInt8) (w:World):
 Calls Tryz.prog 300 #[.string s,.string ⟨#[c]⟩] w λe w'=>e=.returned (.int .i64 (Lib.indexByte s.data.toList c))/\w'=w:=Any.stringslite_Index_one Tryz.abl s c w
def Tryz.Bs:Go.Shelf.Ren:=⟨λ| 105=>276 | 212=>312 | 99=>180 | 165=>313 | 166=>275 | 170=>284 | 169=>230 | 263=>342 | 264=>343 | 206=>247 | 240=>311 | 241=>344 | 276=>341 | 277=>368 | n=>n,λ| 9=>9 | 3=>3 | 4=>4 | 20=>20 | 0=>0 | 46=>235 | 109=>340 | 5=>5 | 72=>274 | 76=>313 | 51=>268 | 146=>363 | 53=>270 | 148=>365 | 70=>272 | 37=>256 | 75=>312 | 127=>318 | 164=>361 | 80=>245 | n=>n,λ| n=>n⟩
def Tryz.abm:Go.Proofs.Lays.n105 Tryz.prog Tryz.Bs:={
 mixed:=D
 f99:=Tryz.func180.trans (bK Hg D)
 f105:=Tryz.func276.trans (bK Hg D)
 f165:=Tryz.func313.trans (bK Hg D)
 f166:=Tryz.func275.trans (bK Hg D)
 f169:=Tryz.func230.trans (bK Hg D)
 f170:=Tryz.func284.trans (bK Hg D)
 f206:=Tryz.func247.trans (bK Hg D)
 f212:=Tryz.func312.trans (bK Hg D)
 f240:=Tryz.func311.trans (bK Hg D)
 f241:=Tryz.func344.trans (bK Hg D)
 f263:=Tryz.func342.trans (bK Hg D)
 f264:=Tryz.func343.trans (bK Hg D)
 f276:=Tryz.func341.trans (bK Hg D)
 f277:=Tryz.func368.trans (bK Hg D)
 t0:=Tryz.underlying0
 a0:=Tryz.isAgg0
 z0:=Tryz.sizeOf0
 v0:=Tryz.zeroValue0
 t3:=Tryz.underlying3
 a3:=Tryz.isAgg3
 z3:=Tryz.sizeOf3
 v3:=Tryz.zeroValue3
 t4:=Tryz.underlying4
 a4:=Tryz.isAgg4
 z4:=Tryz.sizeOf4
 v4:=Tryz.zeroValue4
 t5:=Tryz.underlying5
 a5:=Tryz.isAgg5
 z5:=Tryz.sizeOf5
 v5:=Tryz.zeroValue5
 t9:=Tryz.underlying9
 a9:=Tryz.isAgg9
 z9:=Tryz.sizeOf9
 v9:=Tryz.zeroValue9
 t20:=Tryz.underlying20
 a20:=Tryz.isAgg20
 z20:=Tryz.sizeOf20
 v20:=Tryz.zeroValue20
 t37:=Tryz.underlying256
 a37:=Tryz.isAgg256
 z37:=Tryz.sizeOf256
 v37:=Tryz.zeroValue256
 t46:=Tryz.underlying235
 a46:=Tryz.isAgg235
 z46:=Tryz.sizeOf235
 v46:=Tryz.zeroValue235
 t51:=Tryz.underlying268
 a51:=Tryz.isAgg268
 z51:=Tryz.sizeOf268
 v51:=Tryz.zeroValue268
 t53:=Tryz.underlying270
 a53:=Tryz.isAgg270
 z53:=Tryz.sizeOf270
 v53:=Tryz.zeroValue270
 t70:=Tryz.underlying272
 a70:=Tryz.isAgg272
 z70:=Tryz.sizeOf272
 v70:=Tryz.zeroValue272
 t72:=Tryz.underlying274
 a72:=Tryz.isAgg274
 z72:=Tryz.sizeOf274
 v72:=Tryz.zeroValue274
 t75:=Tryz.underlying312
 a75:=Tryz.isAgg312
 z75:=Tryz.sizeOf312
 v75:=Tryz.zeroValue312
 t76:=Tryz.underlying313
 a76:=Tryz.isAgg313
 z76:=Tryz.sizeOf313
 v76:=Tryz.zeroValue313
 t109:=Tryz.underlying340
 a109:=Tryz.isAgg340
 z109:=Tryz.sizeOf340
 v109:=Tryz.zeroValue340
 t127:=Tryz.underlying318
 a127:=Tryz.isAgg318
 z127:=Tryz.sizeOf318
 v127:=Tryz.zeroValue318
 t146:=Tryz.underlying363
 a146:=Tryz.isAgg363
 z146:=Tryz.sizeOf363
 v146:=Tryz.zeroValue363
 t148:=Tryz.underlying365
 a148:=Tryz.isAgg365
 z148:=Tryz.sizeOf365
 v148:=Tryz.zeroValue365
 t164:=Tryz.underlying361
 a164:=Tryz.isAgg361
 z164:=Tryz.sizeOf361
 v164:=Tryz.zeroValue361}
def Tryz.zW:Builder.Extra Tryz.prog Tryz.Bs:={
 sizeBuilder:=D
 liesBuilder:=D
 t5:=Tryz.underlying5
 a5:=Tryz.isAgg5
 z5:=Tryz.sizeOf5
 v5:=Tryz.zeroValue5
 infoByte:=D
 cellsByte:=D
 sizeByte:=D
 neB5:=Z}
open Go.RowKit Go.Lib in
theorem Tryz.strings_Repeat (s:ByteArray) (c:Nat) (w:World) (hc:c<=9223372036854775807) (fS:s.size*c<=140737488355328):
 Calls Tryz.prog 276 #[.string s,.int .i64 c] w λe w'=>e=.returned (.string ⟨(Lib.repeatL s.data.toList c).toArray⟩)/\Below w.heap.size w w':=Any.strings_Repeat Tryz.abm Tryz.zW s c w hc fS
end Go.Proofs
namespace Go.Proofs.YtccbiehilmhodaaGreatDoor.Con
open Go.Value renaming int->O,string->ae,pointer->ah,agg->ai,tuple->aj,bool->ak
open Go.IntKind renaming i64->U,wrap->au
open Go.Ending renaming returned->ao
open _root_.ByteArray renaming mk->aq
open _root_.Go.Proofs.Tryz renaming prog->ar
open Go.Instr renaming buildSlice->av
open Go renaming World->aw,Value->ay,Calls->aA
open Go.Kt renaming Only->az,SliceF->aB,Cells->aD,OnlyP->aE,Blk->aG
open Go Go.RowKit Go.Kt Go.Kt.V Go.Proofs.YtccbiehilmhodaaGreatDoor.Vc
def iE{P:Program}{f:FuncId}{a:Array ay}{w:aw}{Q:Ending->aw->Prop}(h:aA P f a w λe b=>∃v,e=ao v/\Q (ao v) b):aA P f a w Q:=h.mono (by rintro e b ⟨v,rfl,q⟩;exact q)
def ret{P}{f}{a}{w}{r}{Q:aw->Prop}(h:aA P f a w λe b=>∃v,e=ao v/\v=r/\Q b):aA P f a w λe b=>e=ao r/\Q b:=
 h.mono (by rintro e b ⟨v,rfl,rfl,q⟩;exact⟨I,q⟩)
def Blk.dx{w}{b}{t}{cs}(a:aG w b t cs) j {v} (c:cs[j]? =Hg v):aD w ((⟨b,0,ZQ⟩:Addr).add j) [v]:=by
 rw[gW,bO];exact a.cells j [v] λk u h=>by
  cases k with
  | zero=>simp at h;subst h;exact c
  | succ k=>simp at h
def Mn:=@Blk.dx
def fT(c:UInt8):L:=(65<=c.toNat&&c.toNat<=90)||(97<=c.toNat&&c.toNat<=122)||c.toNat==95
def dA(c:UInt8):L:=48<=c.toNat&&c.toNat<=57
def fF(c:UInt8):L:=fT c||dA c
def pE(c:UInt8):L:=[9,10,13,32].contains c
def acE:∀n:Fin 256,(((VM (97<=(bits .or .u8 (n.val:Int) 32)))&&(VM ((bits .or .u8 n.val 32)<=122)))||((n.val:Int)==95))=((65<=n.val&&n.val<=90)||(97<=n.val&&n.val<=122)||n.val==95):=VE
def Df w c:aA ar 183 #[.int .u8 c.toNat] w λe a=>e=ao (ak (fT c))/\az [] w a:=by
 exact ret (ak5 w ⟨by rw[acE ⟨c.toNat,c.toNat_lt⟩];rfl,EC _ _⟩)
def OC w c:aA ar 185 #[.int .u8 c.toNat] w λe a=>e=ao (ak (dA c))/\az [] w a:=by
 refine ret (ak7 ?_);refine⟨?_,EC _ _⟩;congr 1;rw[bL];simp[dA,H,bU];omega
def ahD w c:aA ar 302 #[.int .u8 c.toNat] w λe a=>e=ao (ak (dA c))/\az [] w a:=by
 refine ret (v2w ?_);refine⟨?_,EC _ _⟩;have h:∀n:Fin 256,VM ((au .u8 (n.val-48))<10)=(VM (48<=n.val)&&VM (n.val<=57)):=VE
 rw[h ⟨c.toNat,c.toNat_lt⟩];rfl
def acz{w:aw}{F:aK}{s:Sl}{l:S}(h:aB nB 1 w F s l)(c:UInt8):
  aA ar 299 #[Sl.v s,.int .u8 (c.toNat:Int)] w λe b=>∃i:Int,e=ao (O U i)/\VM (i>=0)=l.contains c/\az [] w b:=by
 refine iE (alM ?_);have f:=h.len;have t:=h.big;have r:=h.cap;refine⟨λv i b=>∃n:Nat,n<=Z8 l/\i=(n:Int)/\v=(Z8 l)-n/\(∀x,x∈l.take n->x≠c)/\b=w,Z8 l,⟨0,bh _,I,I,R,I⟩,?_⟩;rintro v _ _ ⟨n,d,rfl,rfl,p,rfl⟩;refine⟨λa=>?_,λa=>?_⟩
 .have T:(n:Int)<s.n:=aO a;obtain⟨ad,x,o,k,g,q,u,m,j⟩:=h.get (bc n) T;rw[aW]at g;unfold nB jk at j;subst j;refine⟨ad,k,_,m,λe=>⟨_,I,?_,EC _ _⟩,λe=>⟨(Z8 l)-(n+1),J,n+1,J,TE,I,?_,I⟩⟩
  .have e:c=x:=Yv.1 (by have:=aO e;omega);rw[bF J];symm;rw[fu,e];exact bA g
  intro y c;rw[bq,g]at c;simp at c;rcases c with c | rfl
  .exact p y c
  rintro rfl;simp at e
 have g:¬((n:Int)<s.n):=aR a;rw[br J]at p;refine⟨_,I,?_,EC _ _⟩;rw[bC J];symm;rw[io];intro e;exact p c (fu.1 e) I
def aiI{w}{F}{s}{l}(h:aB nB 1 w F s l) c:
  aA ar 246 #[Sl.v s,.int .u8 c.toNat] w λe b=>e=ao (ak (l.contains c))/\az [] w b:=by
 refine ret (als ?_);refine(acz h c).mono ?_;rintro _ d ⟨a,rfl,i,O⟩;exact⟨a,I,by rw[i],O⟩
def Jl{w}{F}{s}{l}(h:aB nB 1 w F s l) c:
  aA ar 179 #[.int .u8 c.toNat,Sl.v s] w λe a=>e=ao (ak (l.contains c))/\az [] w a:=by
 refine ret (ak1 ?_);refine(aiI h c).mono ?_;rintro _ b ⟨rfl,O⟩;exact⟨_,I,I,O⟩
def ju:Rp (S):=λ_ _ l c=>c=[ae (T l)]
def cx:ju.Ok where
 keep h _:=h
 inHeap h:=h
 mono h _:=h
 one:=by
  rintro w F x c h v a;subst h;simp at a;subst a;rfl
def adw{w}{F}{s}{l}(h:aB ju 1 w F s l) c:
  aA ar 188 #[Sl.v s,ae (T c)] w λe b=>∃i,e=ao (O U i)/\VM (i>=0)=l.contains c/\az [] w b:=by
 refine iE (ac4 ?_);have f:=h.len;have t:=h.big;have r:=h.cap;refine⟨λv i b=>∃n,n<=Z8 l/\i=n/\v=(Z8 l)-n/\(∀x,x∈l.take n->x≠c)/\b=w,Z8 l,⟨0,bh _,I,I,R,I⟩,?_⟩;rintro v _ _ ⟨n,d,rfl,rfl,p,rfl⟩;refine⟨λa=>?_,λa=>?_⟩
 .have T:=aO a;obtain⟨ad,x,s,c,g,m,o,j,k⟩:=h.get (bc n) T;rw[aW]at g;subst k;refine⟨ad,c,_,j,?_⟩;dsimp only;rw[iC];refine⟨λe=>⟨_,I,?_,EC _ _⟩,λe=>⟨(Z8 l)-_,J,n+1,J,TE,I,?_,I⟩⟩
  .have e:=aO e;rw[bF J];symm;rw[fu,e];exact bA g
  intro y l;rw[bq,g]at l;simp at l;rcases l with l | rfl
  .exact p y l
  rintro rfl;simp at e
 have g:=aR a;rw[br J]at p;refine⟨_,I,?_,EC _ _⟩;rw[bC J];symm;rw[io];intro e;exact p c (fu.1 e) I
def vP{w}{F}{s}{l}(h:aB ju 1 w F s l) c:
  aA ar 250 #[Sl.v s,ae (T c)] w λe b=>e=ao (ak (l.contains c))/\az [] w b:=by
 refine ret (alw ?_);refine(adw h c).mono ?_;rintro _ d ⟨a,rfl,i,O⟩;exact⟨a,I,by rw[i],O⟩
abbrev M6(w:aw)(b:Nat)(t:TypeId)(l:S)(i:Nat)(r:aJ):Prop:=aG w b t (ae (T l)::O U i::r)
def adb{w}{b}{t}{l}{i}{r}(h:M6 w b t l i r):
  aA ar 132 #[ah (Hg ⟨b,0,ZQ⟩)] w λe a=>e=ao (ak (VM (Z8 l<=i)))/\az [] w a:=by
 refine ret (akE ?_);refine⟨i,Mn h 1 I,T l,Mn h 0 I,λc O=>⟨?_,O⟩⟩;rw[cH];congr 1;rw[tK];omega
def Dg{w}{b}{t}{l}{i}{r}(h:M6 w b t l i r)(a:i<=Z8 l):
  aA ar 181 #[ah (Hg ⟨b,0,ZQ⟩)] w λe c=>e=ao (ae (T (l.drop i)))/\az [] w c:=by
 refine ret (ak3 ?_);refine⟨T l,Mn h 0 I,i,Mn h 1 I,i,⟨I,by rw[cH];exact a⟩,λd O=>⟨?_,O⟩⟩;rw[vE,cH,br (by rw[bZ];exact aX _)]
def mL{p}:∀{l:S} {n:Nat},n<=(Z8 l)->(∀x,x∈l.take n->p x=aF)->(∀x,l[n]? =Hg x->p x=aM)->l.takeWhile p=l.take n
 | [],n,_,_,_=>R
 | c::r,0,_,_,h=>by
  have:=h c I;simp[this]
 | c::r,n+1,hn,h,a=>by
  rw[dC,K (h c R),fx,mL (n:=n) Uq (λx hx=>h x Rk) (λx hx=>a x KB)]
def UD{w:aw}{b}{t}{l}{i}{r}(g:M6 w b t l i r)(j:i<=Z8 l)(s:Z8 l<9223372036854775807):
  aA ar 249 #[ah (Hg ⟨b,0,ZQ⟩)] w λe a=>e=ao (ae (T ((l.drop i).takeWhile fF)))/\az [] w a:=by
 refine ret (alv ?_);refine(Dg g j).mono ?_;rintro _ u ⟨rfl,f⟩;have k:Z8 (l.drop i)<=Z8 l:=by rw[bZ];omega
 generalize l.drop i=m at*
 refine⟨T m,I,λv o a=>∃n,n<=Z8 m/\o=n/\v=(Z8 m)-n/\(∀x,x∈m.take n->fF x=aF)/\az [] w a,Z8 m,⟨0,bh _,I,I,R,f⟩,?_⟩;rintro v _ q ⟨n,d,rfl,rfl,p,c⟩;rw[cH];refine⟨λb a=>(b=aF->∃x,m[n]? =Hg x/\fF x=aF)/\(b=aM->∀x,m[n]? =Hg x->fF x=aM)/\az [] w a,?_,λh=>?_,λh=>⟨λe=>Jh,λ_ x hx=>?_,c⟩⟩
 .rintro b r ⟨i,l,O⟩;refine⟨λe=>?_,λe=>⟨n,⟨I,d⟩,?_,O⟩⟩
  .obtain⟨x,hx,t⟩:=i e;have T:=(bd.1 hx).1;refine⟨(Z8 m)-_,J,n+1,J,TE,I,λy b=>?_,O⟩;rw[bq,hx]at b;simp[Option.toList_some,dc,aV]at b;rcases b with b | rfl
   .exact p y b
   exact t
  rw[vE,fA,wC,mL d p (l e)]
 .have z:=aO h;have hx:m[n]? =Hg _:=bH J;generalize m[n]'_=x at hx;have r:(T m)[Int.toNat (n:Int)]? =Hg x:=KS
  refine⟨x,⟨bc n,r⟩,(Df q x).mono ?_⟩;rintro _ t ⟨rfl,l⟩;refine⟨_,I,λi=>⟨λ_=>⟨x,hx,by unfold fF;rw[i];rfl⟩,λe=>Jh,c.cn l⟩,λi=>⟨x,⟨bc n,r⟩,(OC t x).mono ?_⟩⟩;rintro _ A ⟨rfl,D⟩;refine⟨_,I,λhd=>⟨x,hx,by unfold fF;rw[hd,oQ]⟩,λhd y b=>?_,c.cn (l.cn D)⟩;rw[hx]at b;injection b with b;subst b;unfold fF;rw[i,hd];rfl
 have b:=aR h;have:=(bd.1 hx).1;omega
def ahU w l p (b:Z8 l<9223372036854775807) (c:Z8 p<9223372036854775807):aA ar 180 #[ae (T l),ae (T p)] w λe a=>e=ao (ak (VM (l.take (Z8 p)=p)))/\az [] w a:=by
 refine ret (ak2 ?_);refine(ret (arU (λv a=>v=ak (VM (l.take (Z8 p)=p))/\az [] w a) w ?_)).mono ?_
 .rw[cH,cH];refine⟨Z8 p,λh=>⟨I,ZZ⟩,?_,EC _ _⟩;rw[vE,iC,fA,wC];congr 1;rw[bL];simp only[H,bU];constructor
  .exact λh=>h.2
  intro h;refine⟨?_,h⟩;have:=bK List.length h;rw[cf]at this;omega
 rintro _ w ⟨rfl,h⟩;exact⟨_,I,I,h⟩
def uQ:∀l c,Lib.indexByte l c=if c∈l then(Z8 (l.takeWhile (· !=c)):Int)else -1
 | [],c=>rfl
 | b::l,c=>by
  rw[Lib.indexByte,uQ l c];by_cases h:b=c
  .subst h;simp
  .by_cases m:c∈l
   .have a:(b==c)=aM:=by simpa using h
    have d:(b !=c)=aF:=by simpa using h
    have e:c∈b::l:=by simp[m]
    rw[a,K m,K e,dC,K d];simp
   .have a:(b==c)=aM:=by simpa using h
    have d:¬c∈b::l:=by simp[m];exact λe=>h e.symm
    rw[a,W m,W d];simp
def Top{c}:∀{l:S},¬c∈l->l.takeWhile (· !=c)=l
 | [],_=>rfl
 | b::l,h=>by
  simp at h;rw[dC,K (by simpa using λe=>h.1 e.symm),Top h.2]
def oy{p}:∀{l:S},l.takeWhile p=l.take (Z8 (l.takeWhile p))
 | []=>rfl
 | b::l=>by
  rw[dC];split
  .rw[aY,fx,<-oy]
  rfl
def aml w l c (h:Z8 l<9223372036854775807):aA ar 182 #[ae (T l),ae (T [c])] w λe a=>∃(s:M) (b:L),e=ao (aj #[ae (T (l.takeWhile (· !=c))),ae s,ak b])/\az [] w a:=by
 refine iE (ak4 ?_);refine(arV (λv a=>∃(s:M) (b:L),v=(aj #[ae (T (l.takeWhile (· !=c))),ae s,ak b])/\az [] w a) w ?_).mono ?_
 .refine(Tryz.stringslite_Index_one _ c w).mono ?_;rintro _ _ ⟨rfl,rfl⟩;have e:(T l).data.toList=l:=I;rw[e,uQ];refine⟨_,I,λb=>?_,λb=>?_⟩
  .by_cases m:c∈l
   .rw[K m];have g:Z8 (l.takeWhile (· !=c))<Z8 l:=by
     have d:=List.takeWhile_append_dropWhile (p:=(· !=c)) (l:=l);have f:=bK List.length d;rw[aP]at f;have e:l.dropWhile (· !=c)≠[]:=by
      intro e;rw[e,bD]at d;rw[<-d]at m;have:=List.all_takeWhile (p:=(· !=c)) (l:=l);rw[fi]at this;have:=this c (by rw[d]at m⊢;exact m);simp at this
     have i:=vA.2 e;omega
    have k:(T l).extract 0 (Z8 (l.takeWhile (· !=c)))=T (l.takeWhile (· !=c)):=by
     rw[vE,fA,wC,<-oy]
    refine⟨Z8 (l.takeWhile _),⟨I,R5⟩,Z8 (l.takeWhile _)+1,⟨by rw[cH,eS C C];rfl,R5⟩,λw O=>⟨(T l).extract (Z8 (l.takeWhile (· !=c))+1) (T l).size,aF,?_,O⟩⟩;rw[k]
   .rw[W m]at b;exact absurd (aO b) J
  .by_cases m:c∈l
   .rw[K m]at b;exact absurd (aR b) J
   .rw[Top m];exact⟨_,_,I,EC _ _⟩
 .rintro _ w ⟨v,rfl,s,b,rfl,O⟩;exact⟨_,s,b,I,s,b,I,O⟩
def uj w l {n} {parts} (h:parts=(((l.map jk).zipIdx 0).map λx=>(x.2,x.1)).toArray) (hn:Z8 l=n) (c:0<n) (v:n*1<=16777216):
  ∃s b,(av 256 n parts).run ar w=.ok (Sl.v s) b/\Own nB 1 5 w.heap.size b (λ_=>True) s l/\az [] w b/\s.a=Hg ⟨w.heap.size,0,ZQ⟩:=by
 obtain⟨s,b,d,f,g,j,_⟩:=kD (P:=ar) (t:=256) (e:=5) (i:=Tryz.t5) (w:=w) (F:=λ_=>True) (r:=nB) (size:=1) (vs:=l.map jk) (xs:=l) (len:=n) D D I I Z h Vd c v si (by
  clear h hn
  induction l with
  | nil=>exact trivial
  | cons a l i=>exact⟨⟨I,I⟩,i⟩)
 exact⟨s,b,d,f,g,j⟩
def adj l w:ql ju 1 w (λ_=>True) l ((l.map λx=>Value.string (T x)).map λv=>v.cells.toList):=by
 induction l with
 | nil=>exact trivial
 | cons a l i=>exact⟨⟨I,I⟩,i⟩
def jb w l {n} {parts} (p:parts=(((l.map λx=>Value.string (T x)).zipIdx 0).map λx=>(x.2,x.1)).toArray) (hn:Z8 l=n) (h:0<n) (v:n*1<=16777216):
  ∃s a,(av 37 n parts).run ar w=.ok (Sl.v s) a/\Own ju 1 9 w.heap.size a (λ_=>True) s l/\az [] w a:=by
 obtain⟨s,a,b,c,d,_⟩:=kD (P:=ar) (t:=37) (e:=9) (i:=Tryz.t9) (w:=w) (F:=λ_=>True) (r:=ju) (size:=1) (vs:=l.map λx=>Value.string _) (xs:=l) (len:=n) D D I I Z p Vd h v cx (adj l w);exact⟨s,a,b,c,d⟩
def OD{α}{r:Rp α}{size}{e}{B}{w}{F}{s}{xs}(b:r.Ok)(p:∀w F G x a,r w F x a->r w G x a)(h:Own r size e B w F s xs):aB r size w (λk=>B<=k/\s.a=Hg ⟨k,0,ZQ⟩) s xs:=by
 rcases h with⟨rfl,rfl⟩ | ⟨o,c,tail,d,f,g,i,j,l,n,m⟩
 .exact RG _ _ _ _
 have q:Own r size e B w (λ_=>False) s xs:=.inr ⟨o,c,tail,d,f,g,i,j,l,n,jg.imp (λ_ _ h=>⟨h.1,p _ _ _ _ _ h.2⟩) m⟩;exact(q.slice b).mono b λk t=>t.elim False.elim id
def yZ{e}{B}{w}{F}{s}{xs}(h:Own nB 1 e B w F s xs):aB nB 1 w (λk=>B<=k/\s.a=Hg ⟨k,0,ZQ⟩) s xs:=OD si (λ_ _ _ _ _ h=>h) h
def pT{e}{B}{w}{F}{s}{xs}(h:Own ju 1 e B w F s xs):aB ju 1 w (λk=>B<=k/\s.a=Hg ⟨k,0,ZQ⟩) s xs:=OD cx (λ_ _ _ _ _ h=>h) h
def ld:L->S->Nat
 | _,[]=>0
 | true,c::r=>1+ld (c !=10) r
 | false,c::r=>if pE c then 1+ld aM r else if c==47&&r.head? ==Hg 47 then 1+ld aF r else 0
def GY:∀{b:L} {l:S},ld b l<=Z8 l
 | b,[]=>by simp[ld]
 | true,c::r=>by
  rw[ld,aY];have:=GY (b:=c !=10) (l:=r);omega
 | false,c::r=>by
  rw[ld,aY];have h:=GY (b:=aM) (l:=r);have a:=GY (b:=aF) (l:=r);split
  .omega
  split<;>omega
def Jn:∀l,ld aF l=Z8 (l.takeWhile (· !=10))+ld aM (l.drop (Z8 (l.takeWhile (· !=10))))
 | []=>rfl
 | c::r=>by
  by_cases hc:c=10
  .subst hc;simp[ld,pE]
  .have h:(c !=10)=aF:=R0
   rw[ld,h,Jn r,dC,K h,aY,lH];omega
def af4{l}(h:l.take 2=[47,47]):ld aM l=Z8 (l.takeWhile (· !=10))+ld aM (l.drop (Z8 (l.takeWhile (· !=10)))):=by
 match l,h with
 | a::b::r,h=>
  obtain⟨rfl,rfl⟩:=h;have e:ld aM (47::47::r)=1+ld aF (47::r):=by
   conv=>lhs;rw[ld]
   rw[W Z,K R]
  have c:(47::47::r).takeWhile (· !=10)=47::(47::r).takeWhile (· !=10):=by
   rw[dC,K Z]
  rw[e,Jn _,c,aY,lH];omega
def oz{l:S}{j}{x}(h:l[j]? =Hg x):l.drop j=x::l.drop (j+1):=by
 obtain⟨a,b⟩:=bd.1 h;rw[gA a,b]
def UE{w}{b}{t}{l}{i}{r}(o:M6 w b t l i r)(A:i<=Z8 l)(B:Z8 l<9223372036854775807):
  aA ar 131 #[ah (Hg ⟨b,0,ZQ⟩)] w λe c=>e=ao (aj #[])/\az [b] w c/\M6 c b t l (i+ld aM (l.drop i)) r:=by
 refine ret (akD ?_);refine⟨λv c=>∃j,j<=Z8 l/\v=(Z8 l)-j/\i+ld aM _=j+ld aM (l.drop j)/\az [b] w c/\M6 c b t l j r,(Z8 l)-i,⟨i,A,I,I,EC _ _,o⟩,?_⟩;rintro v D ⟨j,k,rfl,h,f,g⟩;have kp:∀{u m:aw} {n:Nat},az [] u m->M6 u b t l n r->M6 m b t l n r:=λq C=>(q.block b C.lt R).trans C;refine(adb g).mono ?_;rintro _ E ⟨rfl,p⟩;have d:=kp p g;refine⟨_,I,λhc=>?_,λhc=>⟨I,f.trans p R,?_⟩⟩
 .have L:j<Z8 l:=R0
  have hx:l[j]? =Hg l[j]:=bH L;generalize l[j]=x at hx;have hd:=oz hx;refine⟨T l,Mn d 0 I,j,Mn d 1 I,x,⟨bc j,KS⟩,λV M=>?_⟩;obtain⟨s,X,Q,S,k3,_⟩:=uj V [9,10,13,32] (n:=4) (parts:=#[(0,.int .u8 9),_,_,_]) I I Z Z;refine⟨s,X,Q,(Jl (yZ S) x).mono ?_⟩;rintro _ Y ⟨rfl,N⟩;have F:=M.cn (k3.cn N);have r:=kp F d;have w:=f.trans (p.cn F) R;refine⟨_,I,λi=>⟨j,Mn r 1 I,b,1,_,t,I,r,R,λw5 P G=>⟨(Z8 l)-_,J,j+1,J,I,?_,w.trans P R,?_⟩⟩,λi=>(Dg r k).mono ?_⟩
  .have e:pE x=aF:=i;rw[h,hd,ld,K e];omega
  .rw[eS J J]at G;exact G
  rintro _ w6 ⟨rfl,e⟩;have am:Z8 (l.drop j)<=Z8 l:=by rw[bZ];omega
  refine⟨_,I,(ahU w6 _ [47,47] J Z).mono ?_⟩;rintro _ w7 ⟨rfl,T⟩;have h7:=kp T (kp e r);refine⟨_,I,λs=>(Dg h7 k).mono ?_,λs=>⟨I,w.trans (e.cn T) R,?_⟩⟩
  .rintro _ w8 ⟨rfl,z⟩;refine⟨_,I,(aml w8 _ 10 J).mono ?_⟩;rintro _ w9 ⟨s9,b9,rfl,y⟩;have h9:=kp y (kp z h7);have x:=aO s;have hk:=af4 x;have fS:Z8 ((l.drop j).takeWhile (· !=10))<=Z8 (l.drop j):=by
    rw[oy,cf];exact Nat.min_le_right _ _
   have aC:0<Z8 ((l.drop j).takeWhile (· !=10)):=by
    match b:l.drop j,x with
    | a::l,x=>
     have:a=47:=by
      match l,x with
      | n::a,x=>simp at x;exact x.1
     subst this;simp
   have aS:Z8 (l.drop j)=(Z8 l)-j:=bZ;generalize hn:Z8 ((l.drop j).takeWhile _)=n at*
   refine⟨_,s9,b9,I,j,Mn h9 1 I,b,1,_,t,I,h9,R,λdk dS nS=>⟨(Z8 l)-_,J,j+n,J,I,?_,(w.trans (e.cn (T.cn (z.cn y))) R).trans dS R,?_⟩⟩
   .rw[h,hk,lQ];omega
   .rw[cH,hn,eS J J]at nS;exact nS
  .have s:¬(l.drop j).take 2=[47,47]:=aR s;have i:pE x=aM:=i;have n:ld aM (l.drop j)=0:=by
    rw[hd,ld,W (by simp[i]),W];intro a;apply s;rw[hd];simp only[H,eX]at a;obtain⟨rfl,a⟩:=a;cases b:l.drop _ with
    | nil=>rw[b]at a;simp at a
    | cons y z=>
     rw[b]at a;simp at a;rw[a];rfl
   rw[h,n];exact h7
 .have z:=dJ R0;rw[h,z];exact d
def Er(w:aw):Prop:=∃t p,w.var? ar "strconv.ErrRange" =Hg #[.iface t p]
def er_num:Tryz.prog.globalNamed "strconv.ErrRange" =Hg 2:=D
def Er.keep{w w'}(h:Er w)(k:2<w.heap.size->w'.heap[2]? =w.heap[2]?):Er w':=by
 obtain⟨t,p,h⟩:=h;refine⟨t,p,?_⟩;unfold World.var? at h⊢;rw[er_num]at h⊢;simp at h⊢;rw[k]
 .exact h
 refine bM λn=>?_;rw[iq J]at h;cases h
def Er.lt{w}(h:Er w):2<w.heap.size:=by
 obtain⟨t,p,h⟩:=h;unfold World.var? at h;rw[er_num]at h;simp at h;refine bM λn=>?_;rw[iq J]at h;cases h
def Er.only{w w'}(h:Er w)(O:az [] w w'):Er w':=h.keep λb=>O.block _ b R
def lY(a:Nat)(d:S):Nat:=d.foldl (λa c=>a*10+(c.toNat-48)) a
def GZ:∀d a,a<=lY a d
 | [],a=>aX _
 | c::r,a=>by
  have:=GZ r (a*10+(c.toNat-48));show a<=lY (a*10+_) r;omega
def pum:∀d a,(∀c,c∈d->dA c=aF)->a<=18446744073709551615->
  Lib.parseUintM 18446744073709551615 a d=if lY a d<=18446744073709551615 then .ok (lY a d)else .range
 | [],a,_,h=>by rw[Lib.parseUintM];exact(K h).symm
 | c::r,a,hd,b=>by
  have h:=hd c R;simp[dA,H,bU]at h;have e:lY a (c::r)=lY (a*10+_) r:=I;have p:=GZ r (a*10+(c.toNat-48));rw[Lib.parseUintM,K h,e];split
  .rw[W J]
  split
  .rw[W J]
  rw[pum r _ (λx hx=>hd x Rk) J]
def pib{ds}(hd:∀c,c∈ds->dA c=aF)(i:ds≠[]):Lib.parseIntB 64 ds=if lY 0 ds<9223372036854775808 then .ok (lY 0 ds)else .range:=by
 match ds,i with
 | c::r,_=>
  have e:=hd c R;simp[dA,H,bU]at e;have a:¬(c.toNat=43∨c.toNat=45):=J
  have b:¬c.toNat=45:=J
  have d:Lib.parseUintB 64 (c::r)=Lib.parseUintM 18446744073709551615 0 (c::r):=by
   rw[Lib.parseUintB,W R]
  unfold Lib.parseIntB;dsimp only;rw[W a,d,pum _ _ hd Z];by_cases h:lY 0 (c::r)<=18446744073709551615
  .rw[K h];by_cases w:lY 0 (c::r)<9223372036854775808
   .rw[K w];simp[b];omega
   rw[W w];simp;omega
  rw[W h,W J]
def gL(l:S):Nat×Nat×Int:=
 if l=[]then(0,0,3)else if l.takeWhile dA=[]∨(1<Z8 (l.takeWhile dA)/\l.head? =Hg 48)then(0,0,4)
 else if lY 0 (l.takeWhile dA)<9223372036854775808 then(lY 0 (l.takeWhile dA),Z8 (l.takeWhile dA),0)else(0,0,20)
def Ax{p}{l:S}:∀c,c∈l.takeWhile p->p c=aF:=by
 have:=List.all_takeWhile (p:=p) (l:=l);rwa[fi]at this
def acV{a:aw}{l:S}(E:Er a)(i:Z8 l<281474976710656):
  aA ar 252 #[ae (T l)] a λe w=>e=ao (aj #[O U (gL l).1,O U (gL l).2.1,O U (gL l).2.2])/\az [] a w:=by
 refine ret (v0w ?_);refine⟨λv j w=>∃n,n<=Z8 l/\j=n/\v=(Z8 l)-n/\(∀x,x∈l.take n->dA x=aF)/\az [] a w,Z8 l,⟨0,bh _,I,I,R,EC _ _⟩,?_⟩;rintro v _ g ⟨n,d,rfl,rfl,f,c⟩;rw[cH];refine⟨λb w=>(b=aF->∃x,l[n]? =Hg x/\dA x=aF)/\(b=aM->∀x,l[n]? =Hg x->dA x=aM)/\az [] a w,?_,λh=>?_,λh=>⟨λe=>Jh,λ_ x hx=>?_,c⟩⟩
 .rintro b r ⟨o,q,m⟩;refine⟨λk=>?_,λk=>?_⟩
  .obtain⟨x,hx,e⟩:=o k;have T:=(bd.1 hx).1;refine⟨(Z8 l)-(n+1),J,n+1,J,TE,I,λy b=>?_,m⟩;rw[bq,hx]at b;simp at b;rcases b with b | rfl
   .exact f y b
   exact e
  have A:=mL d f (q k);have B:Z8 (l.takeWhile dA)=n:=by rw[A,cf];omega
  have u:(aq #[])=T []:=I;rw[u,iC];refine⟨λt=>⟨?_,m⟩,λt=>?_⟩
  .have t:l=[]:=aO t;rw[gL,K t];rfl
  have t:¬l=[]:=aR t;refine⟨λb w=>b=VM (l.takeWhile dA=[]∨(1<Z8 (l.takeWhile dA)/\l.head? =Hg 48))/\az [] a w,?_,λhz=>?_,λhz=>?_⟩
  .rintro b y ⟨rfl,x⟩;refine⟨λk=>⟨?_,x⟩,λk=>⟨n,⟨I,d⟩,?_⟩⟩
   .rw[gL,W t,K (aO k)];rfl
   have k:=aR k;have hx:(T l).extract 0 n=T (l.takeWhile dA):=by rw[vE,fA,wC,A]
   rw[hx];have D:l.takeWhile dA≠[]:=λe=>k (.inl e);have b:=pib (Ax (p:=dA) (l:=l)) D;have z:(T (l.takeWhile dA)).size<=281474976710656:=R5
   by_cases C:lY 0 (l.takeWhile dA)<9223372036854775808
   .rw[K C]at b;refine(Tryz.strconv_ParseInt_10_at64_ok (T (l.takeWhile dA)) (bp z Z) _ b y).mono ?_;rintro _ F ⟨rfl,p⟩;have n:az [] y F:=by
     rcases p with rfl | ⟨s,rfl⟩
     .exact EC _ _
     exact IA (Lib.bytesWorld_below _ _ _)
    refine⟨_,⟨.nilIface,I⟩,I,.inl I,λe=>Jh,λ_=>⟨?_,x.cn n⟩⟩;rw[gL,W t,W k,K C,B]
   rw[W C]at b;obtain⟨F,p,n⟩:=E.only x;refine(Tryz.strconv_ParseInt_10_at64_range_var (T (l.takeWhile dA)) z b F p y n).mono ?_;rintro _ G ⟨N,rfl,_,_,s⟩;refine⟨_,⟨.iface _ _,I⟩,I,.inr ⟨_,_,I⟩,λ_=>⟨?_,x.cn (IA s)⟩,λe=>Jh⟩;rw[gL,W t,W k,W C];rfl
  .have hz:n=0:=Z7
   subst hz;refine⟨?_,m⟩;symm;rw[bF (.inl (bJ B))];rfl
  have hz:n≠0:=Z7
  obtain⟨x,b,rfl⟩:∃x b,l=x::b:=by
   cases l with
   | nil=>exact absurd I t
   | cons x b=>exact⟨x,b,I⟩
  refine⟨x,λ_=>⟨kQ _,by rw[pR];rfl⟩,?_,m⟩;have p:(x::b).takeWhile dA≠[]:=λe=>by rw[e]at B;exact hz B.symm
  rw[B,bL];simp;constructor
  .rintro⟨o,q⟩;exact .inr ⟨J,Yv.1 (by show x.toNat=48;omega)⟩
  rintro(e | ⟨o,rfl⟩)
  .exact absurd e p
  exact⟨J,I⟩
 .have T:(n:Int)<Z8 l:=aO h;have hx:l[n]? =Hg (l[n]' J):=bH J;generalize l[n]' J=x at hx;refine⟨x,⟨bc n,KS⟩,(ahD g x).mono ?_⟩;rintro _ m ⟨rfl,e⟩;refine⟨_,I,λk=>⟨x,hx,k⟩,λhd y b=>?_,c.cn e⟩;rw[hx]at b;injection b with b;subst b;exact hd
 have p:¬(n:Int)<Z8 l:=aR h;have:=(bd.1 hx).1;omega
structure Tk where
 k:Int
 t:S
 n:Int
 a:Int
deriving DecidableEq
def Tk.v(x:Tk):ay:=ai #[O U x.k,ae (T x.t),O U x.n,O U x.a]
def MN:Rp Tk:=λ_ _ x c=>c=[O U x.k,ae (T x.t),O U x.n,O U x.a]
def gz:MN.Ok where
 keep h _:=h
 inHeap h:=h
 mono h _:=h
 one:=by
  rintro w F x c h v a;subst h;simp at a;rcases a with rfl | rfl | rfl | rfl<;>rfl
abbrev nW(B:Nat)(w:aw)(s:Sl)(x:X Tk):Prop:=Own MN 4 146 B w (λ_=>True) s x
def nW.of{B}{w}{F}{s}{xs}(h:Own MN 4 146 B w F s xs):nW B w s xs:=h.mono gz λ_ _=>trivial
def nW.sl{B}{w}{s}{xs}(h:nW B w s xs):aB MN 4 w (λk=>B<=k/\s.a=Hg ⟨k,0,ZQ⟩) s xs:=OD gz (λ_ _ _ _ _ h=>h) h
def nW.flat{B}{w}{s}{xs}(h:nW B w s xs):Own MN 4 146 B w (λ_=>False) s xs:=by
 rcases h with h | ⟨k,c,tail,a,b,d,e,f,g,j,i⟩
 .exact .inl h
 exact .inr ⟨k,c,tail,a,b,d,e,f,g,j,jg.imp (λ_ _ h=>h) i⟩
def nW.keep{B}{w w'}{s}{xs}(h:nW B w s xs)(a:∀k,B<=k/\s.a=Hg ⟨k,0,ZQ⟩->k<w.heap.size->w'.heap[k]? =w.heap[k]?):nW B w' s xs:=
 nW.of (h.flat.keep gz λk F b=>a k (F.elim False.elim id) b)
def nW.only{B}{w w'}{s}{xs}(h:nW B w s xs)(O:az [] w w'):nW B w' s xs:=h.keep λk _ b=>O.block k b R
def nW.p{B}{w w'}{s}{xs}{D}(a:nW B w s xs)(O:aE D w w')(c:∀k,B<=k->s.a=Hg ⟨k,0,ZQ⟩->¬D k):nW B w' s xs:=a.keep λk h b=>O.block k b (c k h.1 h.2)
def xCV{w}{B}{s}{xs} t (l:nW B w s xs) (f:B<=w.heap.size) (m:(Z8 xs+1)*40<=140737488355328):
  ∃y a,(av 129 1 #[(0,t.v)]).run ar w=.ok (Sl.v y) a/\az [] w a/\∃c b,(Builtin.append_ #[129,129] 129 #[Sl.v s,Sl.v y]).run ar a=.ok (Sl.v c) b/\nW B b c (xs++[t])/\aE (λk=>B<=k/\s.a=Hg ⟨k,0,ZQ⟩) a b:=by
 obtain⟨y,a,n,o,c,b,k3,p,⟨r,q,d⟩,_⟩:=jy (P:=ar) (t:=129) (ty:=129) (e:=146) (i:=Tryz.t146) (bytes:=40) (size:=4) (v:=t.v) (x:=t) (G:=λ_=>False) D D I I I I Z Z Z gz l f I I (λk j _=>j.elim) m;exact⟨y,a,n,o,c,b,k3,nW.of p,q.p λg h=>.inl ⟨(d g h).2.1,(d g h).1⟩⟩
def kI:X (S):=[[97,102,116,101,114],[97,108,119,97,121,115],[99,104,97,114,116],[100,101,101,112],[101,109,105,116],[101,110,116,101,114],[104,105,115,116,111,114,121],[105,110],[105,110,105,116,105,97,108],[108,101,97,118,101],[111,110],[112,97,114,97,108,108,101,108],[114,97,105,115,101],[115,101,116],[115,116,97,116,101],[118,97,114]]
def OE w:aA ar 130 #[] w λe a=>∃s,e=ao s.v/\Own ju 1 9 w.heap.size a (λ_=>True) s kI/\az [] w a:=by
 refine iE (akC ?_);obtain⟨s,a,h,b,c⟩:=jb w kI (n:=16) I I Z Z;exact⟨s,a,h,s,I,b,c⟩
structure Cut (w:aw) (b:Nat) (l:S) (i:Nat) (rs:Sl) (acc:List Tk):Prop where
 blk:∃ws:Sl,aG w b 203 [ae (T l),O U (i:Int),ws.v,rs.v]/\aB ju 1 w (λk=>k<b) ws kI
 own:nW (b+1) w rs acc
 er:Er w
 gb:2<b
 il:i<=Z8 l
 ll:Z8 l<=16384
def Cut.lt{w}{b}{l}{i}{rs}{acc}(h:Cut w b l i rs acc):b<w.heap.size:=by
 obtain⟨s,a,_⟩:=h.blk;exact a.lt
def Cut.only{w w'}{b}{l}{i}{rs}{acc}(h:Cut w b l i rs acc)(O:az [] w w'):Cut w' b l i rs acc:=by
 obtain⟨s,a,c⟩:=h.blk;exact⟨⟨s,(O.block b a.lt R).trans a,Aw cx Z c O R⟩,h.own.only O,h.er.only O,h.gb,h.il,h.ll⟩
def Cut.move{w w'}{b}{l}{i j}{rs}{acc}(h:Cut w b l i rs acc)(c:az [b] w w')(f:j<=Z8 l)(B:∀s:Sl,aG w b 203 [ae (T l),O U i,s.v,rs.v]->aG w' b 203 [ae (T l),O U j,s.v,rs.v]):Cut w' b l j rs acc:=by
 obtain⟨s,d,e⟩:=h.blk;exact⟨⟨s,B s d,Aw cx Z e c (by intro k g _;simp;omega)⟩,h.own.keep λk g a=>c.block k a C,h.er.keep λa=>c.block _ a (by simp;have:=h.gb;omega),h.gb,f,h.ll⟩
def OG{w:aw}{b:Nat}{l:S}{i:Nat}{r:Sl}{a:X Tk}(d:Cut w b l i r a)(k:Int)(t:S)(B N:Int)(n:Nat)(Y:i+n<=Z8 l)(ha:Z8 a<=16384):
  aA ar 134 #[ah (Hg ⟨b,0,ZQ⟩),ai #[O U k,ae (T t),O U B,O U N],O U (n:Int)] w λe K=>e=ao (aj #[])/\aE (λk=>b<=k) w K/\∃D,Cut K b l (i+n) D (a++[⟨k,t,B,i⟩]):=by
 refine ret (akG ?_);intro A w0 fQ dL o;have L:=d.lt;have W:=d.ll;have H:=d.only o;obtain⟨m,f,am⟩:=H.blk;refine⟨i,Mn f 1 I,λu p=>?_⟩;have E:=f.lt;have G:aG u b 203 _:=(p.block b E Gs).trans f;have M:nW (b+1) u r a:=H.own.keep λq h c=>by
  refine p.block q c ?_;simp only[aV];rintro rfl;have:=(d.own.blk h.2).2;dsimp only at this;omega
 have z1:=p.size;obtain⟨y,w2,P,g,s,v,Q,V,j⟩:=xCV ⟨k,t,B,i⟩ M J (bp (fM 40 (show (Z8 a)+1<=16385 by omega)) Z);have z2:=g.size;have z3:=j.size;have z:∀q,r.a=Hg ⟨q,0,ZQ⟩->q≠A:=λq h=>by
  have:=(d.own.blk h).2;dsimp only at this;omega
 refine⟨λq=>q=b,I,r,Mn G 3 I,y,w2,P,g.same C,VI g,s,v,Q,?_,?_,?_⟩
 .exact j.same (by intro x b;simp only[aV]at b;subst b;exact⟨J,λe=>z _ e.2 I⟩)
 .intro q h c;exact j.block q c J
 have aC:aG v b 203 [ae (T l),O U (i:Int),m.v,r.v]:=(j.block b J J).trans ((g.block b J R).trans G);refine⟨b,3,_,203,by rw[gW],aC,R,J,λy x t=>?_⟩;have t:aG y b 203 [ae (T l),O U (i:Int),m.v,s.v]:=t;refine⟨i,Mn t 1 I,b,1,_,203,by rw[abD,gW],t,R,J,λw5 dP e=>⟨I,?_,s,?_⟩⟩
 .have n:aE (λk=>b<=k) w u:=o.p0.trans (p.p (F:=λq=>q=A) λb hb=>.inl Ma) λq h=>J
  have O:aE (λk=>b<=k) w v:=(n.cn g).trans j λq h=>.inl J;have T:aE (λk=>b<=k) w y:=O.trans (x.p (F:=λq=>q=b) λb hb=>.inl Ma) λq h=>.inl J;exact T.trans (dP.p (F:=λq=>q=b) λb hb=>.inl Ma) λq h=>.inl J
 have z4:=x.size;have e:aG w5 b 203 [ae (T l),O U (IntKind.i64.wrap ((i:Int)+n)),m.v,s.v]:=e;rw[eS J J]at e;have up:aE (λk=>b<=k) w w5:=by
  have n:aE (λk=>b<=k) w u:=o.p0.trans (p.p (F:=λq=>q=A) λb hb=>.inl Ma) λq h=>J
  have O:aE (λk=>b<=k) w v:=(n.cn g).trans j λq h=>.inl J;have T:aE (λk=>b<=k) w y:=O.trans (x.p (F:=λq=>q=b) λb hb=>.inl Ma) λq h=>.inl J;exact T.trans (dP.p (F:=λq=>q=b) λb hb=>.inl Ma) λq h=>.inl J
 have aS:=d.gb;obtain⟨SB,pw,aT⟩:=d.blk;have bv:SB=m:=by
  have:aG w0 b 203 [ae (T l),O U (i:Int),SB.v,r.v]:=(o.block b L R).trans pw;unfold aG at this f;rw[this]at f;simp[Sl.v]at f;cases m;cases SB;simp_all
 subst bv;refine⟨⟨SB,e,Rx cx Z aT up λq h _ hd=>J⟩,?_,d.er.keep λc=>up.block _ c J,aS,Y,W⟩;have e4:nW (b+1) y s _:=V.keep λq h c=>x.block q c Gs;exact e4.keep λq h c=>dP.block q c Gs
abbrev Tq:=Int×S×Int×Nat
def nH(m:S):Except Int Tq:=
 if 24<Z8 (m.takeWhile fF) then .error 2 else .ok (if kI.contains (m.takeWhile fF)then 2 else 1,m.takeWhile fF,0,Z8 (m.takeWhile fF))
def sJ(m:S):Except Int Tq:=
 if(gL m).2.2≠0 then .error (gL m).2.2 else if(gL m).2.1<Z8 (m.takeWhile fF) then .error 4 else .ok (3,[],(gL m).1,(gL m).2.1)
def pF:S:=[123,125,40,41,91,93,59,44,61,43,45,42,47,37,60,62,33]
def sK(m:S):L:=match m with
 | c::d::_=>(d==61&&[60,62,61,33].contains c)||(d==c&&[38,124].contains c)||(c==45&&d==62)
 | _=>aM
def jD(m:S):Nat:=if sK m then 2 else match m with
 | c::_=>if pF.contains c then 1 else 0
 | []=>0
def oc(m:S):Except Int Tq:=if jD m=0 then .error 4 else .ok (4,m.take (jD m),0,jD m)
def lZ(m:S):Except Int Tq:=match m with
 | []=>.error 4
 | c::_=>if fT c then nH m else if dA c then sJ m else oc m
def UH(w:aw)(b:Nat)(l:S)(i:Nat)(a:X Tk)(r:Except Int Tq)(v:ay):Prop:=match r with
 | .error e=>v=O U e/\∃s,Cut w b l i s a
 | .ok q=>v=O U 0/\∃s,Cut w b l (i+q.2.2.2) s (a++[⟨q.1,q.2.1,q.2.2.1,i⟩])
def sL{p}{l:S}:Z8 (l.takeWhile p)<=Z8 l:=by
 rw[oy,cf];exact Nat.min_le_right _ _
def afu{w}{b}{l}{i}{rs}{acc}(h:Cut w b l i rs acc)(g:Z8 acc<=16384):
  aA ar 184 #[ah (Hg ⟨b,0,ZQ⟩)] w λe a=>∃v,e=ao v/\aE (λk=>b<=k) w a/\UH a b l i acc (nH (l.drop i)) v:=by
 refine ak6 ⟨b,0,ZQ⟩ w ?_;obtain⟨s,d,f⟩:=h.blk;have L:=h.ll;refine(UD d h.il J).mono ?_;rintro _ m ⟨rfl,c⟩;have j:=by
  have:=sL (p:=fF) (l:=l.drop i);rwa[bZ]at this
 have Z:=h.il;refine⟨_,I,λhc=>⟨c.p0,?_⟩,λhc=>?_⟩
 .rw[cH]at hc;rw[nH,K Ro];exact⟨I,rs,h.only c⟩
 rw[cH]at hc;have hc:¬24<Z8 ((l.drop i).takeWhile fF):=M1
 rw[nH,W hc];generalize n:(l.drop i).takeWhile fF=b at*
 obtain⟨S,p,e⟩:=(h.only c).blk;refine⟨λk a=>k=(if kI.contains b then 2 else 1)/\az [] w a,?_,S,Mn p 2 I,(vP e b).mono ?_⟩
 .rintro _ w ⟨rfl,i⟩;refine(ret (ac7 _ (λv a=>v=ae (T b)/\az [] w a) w ?_)).mono ?_
  .refine(Tryz.stringslite_Clone _ w R5).mono ?_;rintro _ k ⟨rfl,f⟩;exact⟨_,I,I,IA f⟩
  rintro _ l ⟨rfl,O⟩;rw[cH];refine⟨_,I,(OG (h.only (i.cn O)) _ b 0 0 (Z8 b) J g).mono ?_⟩;rintro _ o ⟨rfl,k,r,C⟩;exact⟨I,(i.cn O).AY k,I,r,C⟩
 rintro _ w ⟨rfl,D⟩;refine⟨_,I,λd=>⟨by rw[K d],c.cn D⟩,λd=>⟨by rw[d];rfl,c.cn D⟩⟩
def aiW{w}{b}{l:S}{i}{rs}{acc}(h:Cut w b l i rs acc)(f:Z8 acc<=16384):
  aA ar 186 #[ah (Hg ⟨b,0,ZQ⟩)] w λe a=>∃v,e=ao v/\aE (λk=>b<=k) w a/\UH a b l i acc (sJ (l.drop i)) v:=by
 refine ak8 ⟨b,0,ZQ⟩ (λv a=>aE (λk=>b<=k) w a/\UH a b l i acc (sJ (l.drop i)) v) w ?_;obtain⟨s,j,m⟩:=h.blk;have L:=h.ll;have Z:=h.il;refine(Dg j h.il).mono ?_;rintro _ n ⟨rfl,c⟩;have B:Z8 (l.drop i)=(Z8 l)-i:=bZ;refine⟨_,I,(acV (h.er.only c) J).mono ?_⟩;rintro _ o ⟨rfl,d⟩;have g:=c.cn d;refine⟨_,_,_,I,λhe=>⟨g.p0,?_⟩,λhe=>?_⟩
 .rw[sJ,K RH];exact⟨I,rs,h.only g⟩
 have he:¬(gL (l.drop i)).2.2≠0:=RH
 have q:(gL (l.drop i)).2.1<=Z8 (l.drop i):=by
  have:=sL (p:=dA) (l:=l.drop i);unfold gL;split
  .exact bh _
  split
  .exact bh _
  split
  .exact this
  exact bh _
 obtain⟨e,b,w⟩:=(h.only g).blk;refine(UD b h.il J).mono ?_;rintro _ r ⟨rfl,O⟩;have k:=g.cn O;refine⟨_,I,?_⟩;dsimp only;rw[cH];refine⟨λhc=>⟨k.p0,?_⟩,λhc=>?_⟩
 .rw[sJ,W he,K Ro];exact⟨I,rs,h.only k⟩
 rw[sJ,W he,W M1];refine(OG (h.only k) 3 [] _ 0 (gL _).2.1 J f).mono ?_;rintro _ t ⟨rfl,p,i,C⟩;exact⟨I,k.AY p,I,i,C⟩
def vQ(w:aw)(p:Addr)(n:Nat)(a:Addr):(w.freeze p n).cell? a=w.cell? a:=by
 unfold World.freeze;split
 .rfl
 unfold World.cell?;simp only[En];by_cases b:p.block=a.block
 .rw[K b];rcases h:w.heap[a.block]? with _|o
  .rfl
  cases o with
  | cells c e f=>obtain⟨l,h⟩:=f;rfl
  | _=>rfl
 rw[W b]
def vR(w:aw)(p:Addr)(n:Nat):aE (λk=>k=p.block) w (w.freeze p n):=by
 unfold World.freeze;split
 .exact Jk _ _
 exact⟨I,I,I,R,λk a h=>by
  simp only[En];rw[W λe=>h e.symm]⟩
def afv{w:aw}{F:aK}{s:Sl}{g B:Nat}{l:S}(b:s.a=Hg ⟨g,0,ZQ⟩)(i:Own nB 1 5 B w F s l)(T:g<w.heap.size):
  ∃d,(convert 256 256 (Sl.v s)).run ar w=.ok (Sl.v s) d/\aB nB 1 d (λ_=>True) s l/\aE (λk=>k=g) w d:=by
 have h:=yZ i;obtain⟨p,c,tail,a,o,f,_⟩:=i.resolve_left (λe=>by rw[e.1]at b;cases b);rw[b]at a;injection a with a;injection a with a;subst a;have W:w.shape? g=Hg (5,(c.flatten++tail).toArray.size):=by
  unfold World.shape?;unfold aG at f;rw[f]
 have m:Tryz.prog.underlying 256=Hg (.slice 5):=D
 have u:Tryz.prog.underlying 5=Hg (.int .u8):=D
 refine⟨w.freeze ⟨g,(c.flatten++tail).toArray.size,ZQ⟩ 1,?_,⟨h.len,h.cap,h.nil0,h.big,λn x j=>?_⟩,vR w ⟨g,(c.flatten++tail).toArray.size,ZQ⟩ 1⟩
 .unfold Sl.v;rw[b];simp[convert,run_underlying m,run_underlying u,markStringish,W,Result.andThen]
 obtain⟨s,e,k,A,r,t,y⟩:=h.at_ n x j;exact⟨s,e,k,trivial,r,λq v z=>by rw[vQ];exact t q v z,y⟩
def OH{c d:UInt8}:((c.toNat:Int)==(d.toNat:Int))=(c==d):=by
 rw[bL];simp only[eX];constructor
 .intro h;exact Yv.1 J
 rintro rfl;rfl
def abV{m:S}(h:sK m=aF):2<=Z8 m:=by
 match m,h with
 | _::_::_,_=>simp
def y9{m:S}:jD m<=Z8 m:=by
 unfold jD;split
 .exact abV (by assumption)
 split
 .split
  .simp
  exact bh _
 exact bh _
def afw{f:aw}{b:Nat}{l:S}{i:Nat}{q:Sl}{a:X Tk}(j:Cut f b l i q a)(u:Z8 a<=16384)(A:i<Z8 l):
  aA ar 187 #[ah (Hg ⟨b,0,ZQ⟩)] f λe w=>∃v,e=ao v/\aE (λk=>b<=k) f w/\UH w b l i a (oc (l.drop i)) v:=by
 refine ak9 ⟨b,0,ZQ⟩ (λv w=>aE (λk=>b<=k) f w/\UH w b l i a (oc (l.drop i)) v) f ?_;obtain⟨C,h,p⟩:=j.blk;have L:=j.ll;have y:=j.il;refine(Dg h j.il).mono ?_;rintro _ o ⟨rfl,t⟩;have B:Z8 (l.drop i)=(Z8 l)-i:=bZ;generalize z:l.drop i=m at*
 obtain⟨c,r,rfl⟩:∃c r,m=c::r:=by
  cases m with
  | nil=>simp at B;omega
  | cons c r=>exact⟨c,r,I⟩
 have g:(0:Int)<=0/\(T (c::r))[0]? =Hg c:=⟨kQ _,by rw[pR];rfl⟩
 refine⟨T (c::r),I,λx w=>x=(if pF.contains c then 1 else 0:Int)/\az [] f w,?_,c,g,?_⟩
 .rintro _ E ⟨rfl,k⟩;refine⟨λD w=>D=(jD (c::r):Int)/\az [] f w,?_,λb w=>b=sK (c::r)/\az [] f w,?_,?_,?_⟩
  .rintro _ d ⟨rfl,b⟩;refine⟨λhz=>⟨b.p0,?_⟩,λhz=>⟨jD (c::r),⟨I,by rw[cH];exact y9⟩,?_⟩⟩
   .rw[oc,K (by have:(jD (c::r):Int)=0:=Z7;omega)];exact⟨I,q,j.only b⟩
   have hz:¬jD (c::r)=0:=by
    intro e;rw[e]at hz;simp at hz
   rw[oc,W hz,vE,fA,wC];have n:=y9 (m:=c::r);refine(ret (ac7 (T _) (λv w=>v=ae (T ((c::r).take (jD (c::r))))/\az [] d w) d ?_)).mono ?_
   .refine(Tryz.stringslite_Clone (T _) d (by rw[cH,cf];omega)).mono ?_;rintro _ c ⟨rfl,p⟩;exact⟨_,I,I,IA p⟩
   rintro _ G ⟨rfl,e⟩;refine⟨_,I,(OG (j.only (b.cn e)) 4 _ 0 0 (jD (c::r)) J u).mono ?_⟩;rintro _ H ⟨rfl,v,s,F⟩;exact⟨I,(b.cn e).AY v,I,s,F⟩
  .rintro _ b ⟨rfl,d⟩;refine⟨λhs=>⟨by rw[jD,K hs];rfl,d⟩,λhs=>⟨?_,d⟩⟩;have e:jD (c::r)=if pF.contains c then 1 else 0:=by rw[jD,W VW]
   rw[e];split<;>rfl
  .intro b;rw[cH]at b;obtain⟨d,r,rfl⟩:∃d e,r=d::e:=by
    cases r with
    | nil=>simp at b
    | cons d r=>exact⟨d,r,I⟩
   have H:(0:Int)<=1/\(T (c::d::r))[1]? =Hg d:=⟨Z,by rw[pR];rfl⟩
   have ex:(T (c::d::r)).extract 0 2=T [c,d]:=by rw[vE];rfl
   have sz:2<=(T (c::d::r)).size:=by rw[cH];simp
   have N:(aq #[45,62])=T [45,62]:=I;have G:((T [c,d]).toList==(T [45,62]).toList)=(c==45&&d==62):=by
    rw[iC,bL];simp
   have F:((d.toNat:Int)==61)=(d==61):=OH (d:=61);have R:sK (c::d::r)=((d==61&&[60,62,61,33].contains c)||(d==c&&[38,124].contains c)||(c==45&&d==62)):=I;rw[R];generalize M:([60,62,61,33]:S).contains c=p1;generalize P:([38,124]:S).contains c=p2;have Y:((((T (c::d::r)).extract 0 2).toList)==((aq #[45,62]).toList))=(c==45&&d==62):=by rw[ex,N,G]
   refine⟨d,H,λQ=>⟨c,g,λw6 V=>?_⟩,λQ=>⟨d,H,c,g,λv=>⟨c,g,λdz dl=>?_⟩,λv=>⟨sz,λfR eH=>⟨?_,k.cn eH⟩⟩⟩⟩
   .rw[F]at Q;obtain⟨s,w7,k1,k2,k3,_⟩:=uj w6 [60,62,61,33] (n:=4) (parts:=#[(0,.int .u8 60),(1,.int .u8 62),(2,.int .u8 61),(3,.int .u8 33)]) I I Z Z;refine⟨s,w7,k1,(Jl (yZ k2) c).mono ?_⟩;rintro _ w8 ⟨rfl,ft⟩;have T:=k.cn (V.cn (k3.cn ft));rw[M];refine⟨_,I,λh=>⟨by rw[Q,h];rfl,T⟩,λh=>⟨d,H,c,g,λv=>⟨c,g,?_⟩,λv=>⟨sz,?_,T⟩⟩⟩
    .rw[OH]at v;obtain⟨s,w9,k1,k2,k3,_⟩:=uj w8 [38,124] (n:=2) (parts:=#[(0,.int .u8 38),(1,.int .u8 124)]) I I Z Z;refine⟨s,w9,k1,(Jl (yZ k2) c).mono ?_⟩;rintro _ dk ⟨rfl,dS⟩;have hO:=T.cn (k3.cn dS);rw[P];exact⟨_,I,λd=>⟨by rw[Q,h,v,d];rfl,hO⟩,λd=>⟨sz,by rw[Y,Q,h,v,d];rfl,hO⟩⟩
    rw[OH]at v;rw[Y,Q,h,v];rfl
   .rw[F]at Q;rw[OH]at v;obtain⟨s,eF,k1,k2,k3,_⟩:=uj dz [38,124] (n:=2) (parts:=#[(0,.int .u8 38),(1,.int .u8 124)]) I I Z Z;refine⟨s,eF,k1,(Jl (yZ k2) c).mono ?_⟩;rintro _ eM ⟨rfl,dF⟩;have T:=k.cn (dl.cn (k3.cn dF));rw[P];exact⟨_,I,λd=>⟨by rw[Q,v,d];rfl,T⟩,λd=>⟨sz,by rw[Y,Q,v,d];rfl,T⟩⟩
   rw[F]at Q;rw[OH]at v;rw[Y,Q,v];rfl
  intro c V e;rw[cH]at c;have b:r=[]:=by
   cases r with
   | nil=>rfl
   | cons d r=>exact absurd (aR c) (by simp only[aY];omega)
  subst b;exact⟨I,k.cn e⟩
 obtain⟨s,N,Q,v,k3,D⟩:=uj o pF (n:=17) (parts:=#[(0,.int .u8 123),(1,.int .u8 125),(2,.int .u8 40),(3,.int .u8 41),(4,.int .u8 91),(5,.int .u8 93),(6,.int .u8 59),(7,.int .u8 44),(8,.int .u8 61),(9,.int .u8 43),(10,.int .u8 45),(11,.int .u8 42),(12,.int .u8 47),(13,.int .u8 37),(14,.int .u8 60),(15,.int .u8 62),(16,.int .u8 33)]) I I Z Z;obtain⟨e,E,G,H⟩:=afv D v (v.blk D).2;have M:az [] o e:=((k3.p0 (F:=λk=>o.heap.size<=k)).trans H λk d=>.inl J).only λk d=>d;refine⟨s,N,Q,s,e,E,(Jl G c).mono ?_⟩;rintro _ R ⟨rfl,P⟩;have b:=t.cn (M.cn P);exact⟨_,I,λh=>⟨by rw[K h],b⟩,λh=>⟨by rw[h];rfl,b⟩⟩
def UH.int{w:aw}{b:Nat}{l:S}{i:Nat}{a:X Tk}{r:Except Int Tq}{v:ay}(h:UH w b l i a r v):∃k:Int,v=O U k:=by
 unfold UH at h;split at h
 .exact⟨_,h.1⟩
 exact⟨_,h.1⟩
def aiF{w:aw}{b:Nat}{l:S}{i:Nat}{r:Sl}{a:X Tk}(h:Cut w b l i r a)(d:Z8 a<=16384)(m:i<Z8 l):
  aA ar 133 #[ah (Hg ⟨b,0,ZQ⟩)] w λe c=>∃v,e=ao v/\aE (λk=>b<=k) w c/\UH c b l i a (lZ (l.drop i)) v:=by
 refine akF ⟨b,0,ZQ⟩ (λv c=>aE (λk=>b<=k) w c/\UH c b l i a (lZ (l.drop i)) v) w ?_;obtain⟨u,j,s⟩:=h.blk;have hx:l[i]? =Hg l[i]:=bH m;generalize l[i]=x at hx;have t:lZ (l.drop i)=if fT x then nH (l.drop i)else if dA x then sJ (l.drop i)else oc (l.drop i):=by
  rw[oz hx];rfl
 rw[t];refine⟨T l,Mn j 0 I,i,Mn j 1 I,x,⟨bc i,KS⟩,λo n=>(Df o x).mono ?_⟩;rintro _ q ⟨rfl,p⟩;have g:=n.cn p;refine⟨_,I,λf=>?_,λf=>(OC q x).mono ?_⟩
 .rw[K f];refine(afu (h.only g) d).mono ?_;rintro _ b ⟨v,rfl,O,hd⟩;obtain⟨k,rfl⟩:=hd.int;exact⟨k,I,g.AY O,hd⟩
 rintro _ e ⟨rfl,b⟩;have O:=g.cn b;rw[W (by rw[f];decide)];refine⟨_,I,λhd=>?_,λhd=>?_⟩
 .rw[K hd];refine(aiW (h.only O) d).mono ?_;rintro _ y ⟨v,rfl,x,hd⟩;obtain⟨k,rfl⟩:=hd.int;exact⟨k,I,O.AY x,hd⟩
 rw[W (by rw[hd];decide)];refine(afw (h.only O) d m).mono ?_;rintro _ y ⟨v,rfl,x,hd⟩;obtain⟨k,rfl⟩:=hd.int;exact⟨k,I,O.AY x,hd⟩
def uo{m:S}{q:Tq}(h:lZ m=.ok q):1<=q.2.2.2:=by
 cases m with
 | nil=>cases h
 | cons c r=>
  simp only[lZ]at h;split at h
  .rename_i a;unfold nH at h;split at h
   .cases h
   injection h with h;subst h;have:fF c=aF:=by unfold fF;rw[a];rfl
   dsimp only;rw[dC,K this,aY];omega
  split at h
  .rename_i c;unfold sJ at h;split at h
   .cases h
   split at h
   .cases h
   rename_i b a;injection h with h;subst h;dsimp only;rw[dC,K (by unfold fF;rw[c,oQ]),aY]at a;omega
  unfold oc at h;split at h
  .cases h
  injection h with h;subst h;dsimp only;omega
def G0{m:S}{e:Int}(h:lZ m=.error e):e≠0:=by
 cases m with
 | nil=>injection h with h;omega
 | cons c r=>
  simp only[lZ]at h;split at h
  .unfold nH at h;split at h
   .injection h with h;omega
   cases h
  split at h
  .unfold sJ at h;split at h
   .injection h with h;omega
   split at h
   .injection h with h;omega
   cases h
  unfold oc at h;split at h
  .injection h with h;omega
  cases h
def Di(l:S):Nat->Nat->Except (Int×Nat) (X Tk)
 | 0,_=>.ok []
 | f+1,i=>
  if (Z8 l)<=i+ld aM (l.drop i)then .ok [⟨5,[],0,(i+ld aM (l.drop i):Nat)⟩]
  else match lZ (l.drop (i+ld aM (l.drop i)))with
   | .error e=>.error (e,i+ld aM (l.drop i))
   | .ok q=>match Di l f (i+ld aM (l.drop i)+q.2.2.2)with
    | .error x=>.error x
    | .ok r=>.ok (⟨q.1,q.2.1,q.2.2.1,(i+ld aM (l.drop i):Nat)⟩::r)
def aeq{l:S}:(gL l).2.1<=Z8 l:=by
 have:=sL (p:=dA) (l:=l);unfold gL;split
 .exact bh _
 split
 .exact bh _
 split
 .exact this
 exact bh _
def Ay{m:S}{q:Tq}(h:lZ m=.ok q):q.2.2.2<=Z8 m:=by
 cases m with
 | nil=>cases h
 | cons c r=>
  simp only[lZ]at h;split at h
  .unfold nH at h;split at h
   .cases h
   injection h with h;subst h;exact sL
  split at h
  .unfold sJ at h;split at h
   .cases h
   split at h
   .cases h
   injection h with h;subst h;exact aeq
  unfold oc at h;split at h
  .cases h
  injection h with h;subst h;exact y9
def Jo{l:S}{i:Nat}(h:i<=Z8 l):i+ld aM (l.drop i)<=Z8 l:=by
 have:=GY (b:=aM) (l:=l.drop i);rw[bZ]at this;omega
def afl(l:S):∀(f g i:Nat),i<=(Z8 l)->Z8 l<i+f->Z8 l<i+g->Di l f i=Di l g i
 | 0,_,i,a,h,_=>J
 | _,0,i,a,_,h=>J
 | f+1,g+1,i,b,h,a=>by
  rw[Di,Di];split
  .rfl
  split
  .rfl
  rename_i q c;have e:=uo c;have d:=Ay c;rw[bZ]at d;rw[afl l f g _ J J J]
def j8(l:S)(i:Nat):Except (Int×Nat) (X Tk):=Di l (Z8 l+1) i
def jT{l:S}{i:Nat}(h:i<=Z8 l):j8 l i=if (Z8 l)<=i+ld aM (l.drop i)then .ok [⟨5,[],0,(i+ld aM (l.drop i):Nat)⟩]
  else match lZ (l.drop (i+ld aM (l.drop i)))with
   | .error e=>.error (e,i+ld aM (l.drop i))
   | .ok q=>match j8 l (i+ld aM (l.drop i)+q.2.2.2)with
    | .error x=>.error x
    | .ok r=>.ok (⟨q.1,q.2.1,q.2.2.1,(i+ld aM (l.drop i):Nat)⟩::r):=by
 unfold j8;rw[Di];split
 .rfl
 split
 .rfl
 rename_i q a;have c:=uo a;have b:=Ay a;rw[bZ]at b;rw[afl l (Z8 l) (Z8 l+1) _ J J J]
def cQ(l:S):X Tk×Int×Int:=if 16384<Z8 l then([],2, -1)else match j8 l 0 with
 | .error x=>([],x.1,(x.2:Nat))
 | .ok r=>(r,0,0)
def j9(a:X Tk):Except (Int×Nat) (X Tk)->Except (Int×Nat) (X Tk)
 | .error x=>.error x
 | .ok r=>.ok (a++r)
def rn(b:L):∀(l:S),ld aM (l.drop (ld b l))=0
 | []=>by simp[ld]
 | c::r=>by
  cases b
  .rw[ld];split
   .rw[oS,lH];exact rn _ r
   split
   .rw[oS,lH];exact rn _ r
   rename_i h a;rw[fA,ld,W h,W a]
  rw[ld,oS,lH];exact rn _ r
def oA{l:S}{i:Nat}(h:i<=Z8 l):j8 l i=j8 l (i+ld aM (l.drop i)):=by
 have a:=Jo h;have b:ld aM (l.drop (i+ld aM (l.drop i)))=0:=by
  rw[<-lQ];exact rn aM (l.drop i)
 rw[jT h,jT a,b,gP]
def OI{a b:X Tk}{x:Except (Int×Nat) (X Tk)}:j9 a (j9 b x)=j9 (a++b) x:=by
 cases x with
 | error _=>rfl
 | ok r=>simp[j9]
def neN{w:aw}(l:S)(E:Er w):
  aA ar 72 #[ae (T l)] w λe a=>∃r:Sl,e=ao (aj #[r.v,ai #[O U (cQ l).2.1,O U (cQ l).2.2]])/\nW w.heap.size a r (cQ l).1/\az [] w a:=by
 refine iE (akp ?_);rw[cH];refine⟨λhc f j _ _ h=>⟨Sl.nil,?_,?_,h⟩,λhc c d g i p=>(OE d).mono ?_⟩
 .rw[cQ,K Ro]
 .rw[cQ,K Ro];exact Vf _ _ _ _ _ _
 have LW:Z8 l<=16384:=M1
 have t:cQ l=match j8 l 0 with
  | .error x=>([],x.1,(x.2:Nat))
  | .ok b=>(b,0,0):=by rw[cQ,W J]
 rintro _ w2 ⟨y,rfl,M,A⟩;refine⟨y,I,A.same C,λb u hb pw G N=>?_⟩;have D:=p.cn (A.cn G);have z1:=p.size;have z2:=A.size;have z3:=G.size;have H:Cut u b l 0 Sl.nil []:=⟨⟨y,N,(Aw cx Z ((pT M).inHeap cx Z) G R).mono cx λk n=>J⟩,Vf _ _ _ _ _ _,E.only D,by have:=E.lt;omega,bh _,LW⟩
 have sm:∀{P u':aw},w2.heap.size<=P.heap.size->aE (λk=>b<=k) P u'->cF [c] P u':=λhu h=>h.same (by intro x hx;simp only[aV]at hx;subst hx;omega);refine(UE N (bh _) J).mono ?_;rintro _ w4 ⟨rfl,Q,Y⟩;have p4:aE (λk=>b<=k) u w4:=Q.p λx hx=>.inl IG;have L:Cut w4 b l (0+ld aM (l.drop 0)) Sl.nil []:=H.move Q (Jo (bh _)) λB s=>by
  have:B=y:=by
   unfold aG at s N;rw[s]at N;simp[Sl.v]at N;cases y;cases B;simp_all
  subst this;exact Y
 refine⟨I,sm J p4,T l,_,y,Sl.nil,Y,λnv e1 e2 s0 i0 z V a=>e1=0/\e2=0/\s0=T l/\∃(m:Nat) (o:X Tk),i0=(m:Int)/\Cut a b l m V o/\Z8 o<=m/\ld aM (l.drop m)=0/\j8 l 0=j9 o (j8 l m)/\nv=(Z8 l)-m/\aE (λk=>b<=k) u a/\aG a b 203 [ae (T l),O U (m:Int),z.v,V.v],(Z8 l)-(0+ld aM (l.drop 0)),?_,?_⟩
 .refine⟨I,I,I,_,[],I,L,bh _,?_,?_,I,p4,Y⟩
  .rw[<-lQ];exact rn aM (l.drop 0)
  rw[<-oA (bh _)];cases j8 l 0<;>rfl
 rintro nv _ _ _ _ z r w5 ⟨rfl,rfl,rfl,m,o,rfl,hC,fS,aS,pU,rfl,dP,Tg⟩;have z5:=dP.size;have Za:=hC.il;refine(adb Tg).mono ?_;rintro _ w6 ⟨rfl,dN⟩;have am:=hC.only dN;have aC:aG w6 b 203 [ae (T l),O U (m:Int),z.v,r.v]:=(dN.block b Tg.lt R).trans Tg;have z6:=dN.size;have ky:=jT hC.il;rw[aS,gP]at ky;refine⟨_,I,dN.same C,T l,m,z,r,aC,λhc=>?_,λhc=>?_⟩
 .have bT:m<Z8 l:=R0
  rw[W J]at ky;refine(aiF am J bT).mono ?_;rintro _ w7 ⟨v,rfl,ga,hd⟩;have p7:aE (λk=>b<=k) u w7:=(dP.cn dN).trans ga λk n=>.inl n;have z7:=ga.size;unfold UH at hd;cases hq:lZ (l.drop m)with
  | error e=>
   rw[hq]at hd ky;obtain⟨rfl,v,b⟩:=hd;obtain⟨aT,q,_⟩:=b.blk;refine⟨e,I,sm J ga,T l,m,aT,v,q,λ_ w8 ft _=>⟨Sl.nil,?_,?_,?_⟩,λhe=>absurd (G0 hq) RH⟩
   .rw[t,pU,ky];rfl
   .rw[t,pU,ky];exact Vf _ _ _ _ _ _
   exact(((D.p0 (F:=λk=>w.heap.size<=k)).trans p7 λk n=>.inl J).trans (ft.p (F:=λk=>k=c) λx hx=>.inl KB) λk n=>.inl J).only λk n=>n
  | ok q=>
   rw[hq]at hd ky;obtain⟨rfl,bY,bv⟩:=hd;obtain⟨v,e,_⟩:=bv.blk;have ce:=uo hq;have F:=bv.il;refine⟨0,I,sm J ga,T l,(m+q.2.2.2:Nat),v,bY,e,λhe=>(by simp at he),λ_=>(UE e F J).mono ?_⟩;rintro _ w9 ⟨rfl,fm,bV⟩;have p9:aE (λk=>b<=k) w7 w9:=fm.p λx hx=>.inl IG;have cc:=bv.move fm (Jo F) λB s=>by
    have:B=v:=by
     unfold aG at s e;rw[s]at e;simp[Sl.v]at e;cases v;cases B;simp_all
    subst this;exact bV
   refine⟨I,sm J p9,T l,_,v,bY,bV,(Z8 l)-(m+q.2.2.2+ld aM (l.drop (m+q.2.2.2))),J,I,I,I,_,_,I,cc,?_,?_,?_,I,p7.trans p9 λk n=>.inl n,bV⟩
   .rw[aP,bf];omega
   .rw[<-lQ];exact rn aM _
   rw[pU,ky,<-oA F,<-OI];dsimp only;cases j8 l (m+q.2.2.2)<;>rfl
 have pf:Z8 l<=m:=R0
 rw[K pf]at ky;refine(OG am 5 [] 0 0 0 J J).mono ?_;rintro _ dk ⟨rfl,dS,e,q⟩;obtain⟨co,cC,_⟩:=q.blk;have dO:aE (λk=>b<=k) u dk:=(dP.cn dN).trans dS λk n=>.inl n;have v:cQ l=(o++[⟨5,[],0,(m:Nat)⟩],0,0):=by
  rw[t,pU,ky];rfl
 refine⟨I,sm J dS,T l,_,co,e,cC,λdz dl _=>⟨e,?_,?_,?_⟩⟩
 .rw[v]
 .rw[v];have:nW (b+1) dz e _:=q.own.keep λk n T=>dl.block k T Gs;exact Own.low this J
 exact(((D.p0 (F:=λk=>w.heap.size<=k)).trans dO λk n=>.inl J).trans (dl.p (F:=λk=>k=c) λx hx=>.inl KB) λk n=>.inl J).only λk n=>n
inductive Ex where
 | mk (k n:Int) (s:S) (op:Int) (subs:List Ex) (a:Int)
def Ex.k:Ex->Int | .mk k _ _ _ _ _=>k
def Ex.n:Ex->Int | .mk _ n _ _ _ _=>n
def Ex.s:Ex->S | .mk _ _ s _ _ _=>s
def Ex.op:Ex->Int | .mk _ _ _ op _ _=>op
def Ex.dK:Ex->X Ex | .mk _ _ _ _ l _=>l
def Ex.a:Ex->Int | .mk _ _ _ _ _ a=>a
def tk0:Tk:=⟨5,[],0, -1⟩
def tk(t:X Tk)(i:Nat):Tk:=(t[i]?).getD tk0
def sg(t:X Tk)(i:Nat)(s:S):L:=(tk t i).k==4&&VM ((tk t i).t=s)
def jq(t:X Tk)(i:Nat):Int×Int:=(if(tk t i).k=5 then 3 else 4,(tk t i).a)
def za{ts}{i}(h:i<Z8 ts):ts[i]? =Hg (tk ts i):=by
 rw[tk];rw[bH h];rfl
def pG(t:X Tk):Prop:=∀i,i<(Z8 t)->((tk t i).k=5↔i+1=Z8 t)
def pG.next{ts}(h:pG ts){i}(a:i<Z8 ts)(k:(tk ts i).k≠5):i+1<Z8 ts:=by
 have b:¬_:=λe=>k ((h i a).2 e);omega
def zd{ts}{i}{s}(h:sg ts i s=aF):(tk ts i).k≠5:=by
 simp[sg,H,eX]at h;rw[h.1];decide
def xX:X (S):=[[],[43],[45],[42],[47],[37],[60],[60,61],[62],[62,61],[61,61],[33,61],[38,38],[124,124],[45],[33]]
def gj(op:Int):Int:=if 3<=op/\op<=5 then 5 else if op=1∨op=2 then 4 else if 6<=op/\op<=9 then 3 else if op=10∨op=11 then 2 else if op=12 then 1 else if op=13 then 0 else 6
def eP(op:Nat):S:=(xX[op]?).getD []
def jU(t:X Tk)(k:Int)(i:Nat):Nat->Nat->Int
 | 0,_=>0
 | f+1,op=>if gj op=k/\sg t i (eP op)=aF then op else jU t k i f (op+1)
def lf(t:X Tk)(k:Int)(i:Nat):Int:=jU t k i 13 1
def qn{ts}{k}{i}:∀f op,jU ts k i f op≠0->(tk ts i).k≠5
 | 0,_,h=>absurd I h
 | f+1,op,h=>by
  rw[jU]at h;split at h
  .rename_i c;exact zd c.2
  exact qn f _ h
abbrev Pr:=Except (Int×Int) (Ex×Nat)
def Z6(g:Ex->Ex):Pr->Pr
 | .error e=>.error e
 | .ok (x,j)=>.ok (g x,j)
def EM:Pr->(Ex->Nat->Pr)->Pr
 | .error e,_=>.error e
 | .ok (x,j),g=>g x j
def ze(t:X Tk):Pr->Pr
 | .error e=>.error e
 | .ok (x,j)=>if sg t j [41]then .ok (x,j+1)else .error (jq t j)
def lc(d:Nat)(a:Int)(r:Pr):Pr:=if d=20 then .error (21,a)else r
def Ik(t:X Tk)(i:Nat):Pr:=
 if sg t (i+1) [40]then
  (if(tk t (i+2)).k=1 then
   (if sg t (i+3) [41]then .ok (.mk 3 0 (tk t (i+2)).t 0 [] (tk t i).a,i+4)else .error (jq t (i+3)))
  else .error (jq t (i+2)))
 else .error (jq t (i+1))
def rP(t:X Tk)(E n:Nat->Pr)(d i:Nat):Pr:=
 if(sg t i [45]||sg t i [33])=aF then Z6 (λx=>.mk 4 0 [] (if(tk t i).t=[33]then 15 else 14) [x] (tk t i).a) (lc d (tk t i).a (n (i+1)))
 else if sg t i [40]=aF then lc d (tk t i).a (ze t (E (i+1)))
 else if(tk t i).k=3 then .ok (.mk 1 (tk t i).n [] 0 [] (tk t i).a,i+1)
 else if(tk t i).k=1 then .ok (.mk 2 0 (tk t i).t 0 [] (tk t i).a,i+1)
 else if(tk t i).k=2/\(tk t i).t=[105,110]then Ik t i
 else .error (jq t i)
def iR(t:X Tk)(E:Nat->Pr)(k:Int):Nat->Ex->Nat->Pr
 | 0,x,j=>.ok (x,j)
 | g+1,x,j=>if lf t k j=0 then .ok (x,j)else EM (E (j+1)) λy a=>iR t E k g (.mk 5 0 [] (lf t k j) [x,y] x.a) a
def dy(t:X Tk):Nat->Nat->Nat->Nat->Pr
 | 0,_,_,_=>.error (1,0)
 | f+1,k,d,i=>if k=6 then rP t (dy t f 0 (d+1)) (dy t f 6 (d+1)) d i else EM (dy t f (k+1) d i) λx j=>iR t (dy t f (k+1) d) k ((Z8 t)-j) x j
def B1{g}{r}{x}{j}(h:Z6 g r=.ok (x,j)):∃y,r=.ok (y,j)/\x=g y:=by
 cases r with
 | error e=>cases h
 | ok q=>
  have⟨y,j⟩:=q;obtain⟨rfl,rfl⟩:=h;exact⟨y,I,I⟩
def qy{d}{a}{r}{q}(h:lc d a r=.ok q):r=.ok q/\d≠20:=by
 rw[lc]at h;split at h
 .cases h
 exact⟨h,by assumption⟩
def Ca{ts}{r}{x}{j}(h:ze ts r=.ok (x,j)):∃a,r=.ok (x,a)/\sg ts a [41]=aF/\j=a+1:=by
 cases r with
 | error e=>cases h
 | ok q=>
  have⟨y,a⟩:=q;simp[ze]at h;split at h
  .obtain⟨rfl,rfl⟩:=h;exact⟨a,I,by assumption,I⟩
  cases h
def uq{r}{g}{q}(h:EM r g=.ok q):∃x j,r=.ok (x,j)/\g x j=.ok q:=by
 cases r with
 | error e=>cases h
 | ok p=>exact⟨p.1,p.2,I,h⟩
def MO{ts}{i}{x}{j}(h:Ik ts i=.ok (x,j)):j=i+4/\x=.mk 3 0 (tk ts (i+2)).t 0 [] (tk ts i).a:=by
 rw[Ik]at h;split at h
 .split at h
  .split at h
   .simp at h;exact⟨h.2.symm,h.1.symm⟩
   cases h
  cases h
 cases h
def abR{ts}{E0 One}{d i}{x}{j}(E:∀i x j,E0 i=.ok (x,j)->i<j)(a:∀i x j,One i=.ok (x,j)->i<j)(h:rP ts E0 One d i=.ok (x,j)):i<j:=by
 unfold rP at h;split at h
 .have⟨y,b,_⟩:=B1 h;have:=a _ _ _ (qy b).1;omega
 split at h
 .obtain⟨c,b,_,rfl⟩:=Ca (qy h).1;have:=E _ _ _ b;omega
 split at h
 .simp at h;omega
 split at h
 .simp at h;omega
 split at h
 .have:=(MO h).1;omega
 cases h
def aeB{ts}{E}{k}(h:∀i x j,E i=.ok (x,j)->i<j):∀g x j {b:Ex} {a:Nat},iR ts E k g x j=.ok (b,a)->j<=a
 | 0,x,j,b,a,c=>by
  simp[iR,kH,nq]at c;omega
 | g+1,x,j,b,a,c=>by
  rw[iR]at c;split at c
  .simp at c;omega
  have⟨y,m,d,e⟩:=uq c;have:=h _ _ _ d;have:=aeB h g _ _ e;omega
def lp{ts}:∀f k d i {x:Ex} {j:Nat},dy ts f k d i=.ok (x,j)->i<j
 | 0,_,_,_,_,_,h=>Rl
 | f+1,k,d,i,x,j,h=>by
  rw[dy]at h;split at h
  .exact abR (λi x j h=>lp f _ _ i h) (λi x j h=>lp f _ _ i h) h
  have⟨y,m,a,b⟩:=uq h;have:=lp f _ _ _ a;have:=aeB (λi x j h=>lp f _ _ i h) _ _ _ b;omega
def gM(k d:Nat):Nat:=(20-d)*8+(7-k)
def oB(t:X Tk)(i:Nat):Pr:=dy t (gM 0 0) 0 0 i
structure Rd (F G:aK) (ts:List Tk) (w:aw) (b:Nat) (l sn:Sl) (i:Nat) (fc fa d:Int):Prop where
 blk:aG w b 357 [l.v,O U (i:Int),O U fc,O U fa,O U d,sn.v]
 tok:aB MN 4 w F l ts
 sig:aB ju 1 w G sn xX
 hF:∀k,F k->k<b
 hG:∀k,G k->k<b
 en:pG ts
 lt:i<Z8 ts
section
variable {F G:aK} {ts:X Tk} {w w':aw} {b:Nat} {l sn:Sl} {i:Nat} {fc fa d:Int}
def Rd.only(h:Rd F G ts w b l sn i fc fa d)(O:az [] w w'):Rd F G ts w' b l sn i fc fa d:=
 ⟨O.blk h.blk R,Aw gz Z h.tok O R,Aw cx Z h.sig O R,h.hF,h.hG,h.en,h.lt⟩
def Rd.gN(h:Rd F G ts w b l sn i fc fa d)(c:az [b] w w'){a:Nat}{fc' fa' d'}(B:aG w' b 357 [l.v,O U a,O U fc',O U fa',O U d',sn.v])(e:a<Z8 ts):Rd F G ts w' b l sn a fc' fa' d':=
 ⟨B,Aw gz Z h.tok c λk hk _ hm=>Wy,Aw cx Z h.sig c λk hk _ hm=>ZP,h.hF,h.hG,h.en,e⟩
def Rd.own(h:Rd F G ts w b l sn i fc fa d){bs}(O:az bs w w')(hb:∀x,x∈bs->b<x):Rd F G ts w' b l sn i fc fa d:=
 ⟨O.blk h.blk λhm=>TL,Aw gz Z h.tok O λk hk _ hm=>P9,Aw cx Z h.sig O λk hk _ hm=>(by have:=h.hG k hk;have:=hb k hm;omega),h.hF,h.hG,h.en,h.lt⟩
def Rd.lb(h:Rd F G ts w b l sn i fc fa d):b<w.heap.size:=h.blk.lt
def Rd.big(h:Rd F G ts w b l sn i fc fa d):Z8 ts<=9223372036854775807:=by
 have a:=h.tok.len;have c:=h.tok.cap;have e:=h.tok.big;omega
def Rd.now(h:Rd F G ts w b l sn i fc fa d):∃ad,cM l i 4 ad/\aD w ad [O U (tk ts i).k,ae (T (tk ts i).t),O U (tk ts i).n,O U (tk ts i).a]:=by
 have m:=h.tok.len;have f:=h.lt;obtain⟨ad,x,s,c,g,j,k,e,a⟩:=h.tok.get (bc i) J;rw[aW,za h.lt]at g;injection g with g;subst g;unfold MN at a;subst a;exact⟨ad,c,e⟩
def Jr(f:Rd F G ts w b l sn i fc fa d):aA ar 379 #[ah (Hg ⟨b,0,ZQ⟩)] w λe w'=>e=ao (tk ts i).v/\az [] w w':=by
 refine ret (asn ?_);intro j m k r O;have h:=f.only O;obtain⟨ad,g,a⟩:=h.now;exact⟨l,Mn h.blk 0 I,_,Mn h.blk 1 I,ad,g,_,_,_,_,a,λn c=>⟨I,O.new c k⟩⟩
def Fi(h:Rd F G ts w b l sn i fc fa d):aA ar 335 #[ah (Hg ⟨b,0,ZQ⟩)] w λe w'=>e=ao (ak (fc !=0))/\az [] w w':=by
 exact ret (v7w w ⟨fc,Mn h.blk 2 I,I,EC _ _⟩)
def G1(h:Rd F G ts w b l sn i fc fa d) c:aA ar 399 #[ah (Hg ⟨b,0,ZQ⟩),O U c] w λe w'=>e=ao (aj #[])/\az [b] w w'/\
  Rd F G ts w' b l sn i (if fc=0 then c else fc) (if fc=0 then(tk ts i).a else fa) d:=by
 refine ret (asu ?_);refine(Fi h).mono ?_;rintro _ g ⟨rfl,a⟩;have f:=h.only a;refine⟨_,I,λhc=>(Jr f).mono ?_,λhc=>?_⟩
 .have hc:=R0
  subst hc;rintro _ w ⟨rfl,p⟩;have d:=f.only p;exact⟨_,_,_,_,I,b,2,_,_,I,d.blk,R,λi c j=>⟨I,(a.cn p).weaken (λ_ h=>Rl) |>.trans c (λx e=>.inl e),d.gN c j h.lt⟩⟩
 have hc:=R0
 rw[W hc,W hc];exact⟨I,a.weaken λ_ h=>Rl,f⟩
def G2(h:Rd F G ts w b l sn i fc fa d):aA ar 385 #[ah (Hg ⟨b,0,ZQ⟩)] w λe w'=>e=ao (aj #[])/\az [b] w w'/\
  Rd F G ts w' b l sn i (if fc=0 then(jq ts i).1 else fc) (if fc=0 then(jq ts i).2 else fa) d:=by
 refine ret (asr ?_);refine⟨λw'=>az [b] w w'/\((tk ts i).k=5->Rd F G ts w' b l sn i (if fc=0 then 3 else fc) (if fc=0 then(tk ts i).a else fa) d)/\((tk ts i).k≠5->Rd F G ts w' b l sn i fc fa d),?_,(Jr h).mono ?_⟩
 .rintro w ⟨c,a,b⟩;by_cases h:(tk ts i).k=5
  .refine(G1 (a h) 4).mono ?_;rintro _ e ⟨rfl,p,R⟩;refine⟨I,I,c.trans p (λx d=>.inl d),?_⟩;unfold jq;rw[K h];by_cases hc:fc=0
   .rw[K hc,K hc,W Z,W Z]at R;rw[K hc,K hc];exact R
   rw[W hc,W hc,W hc,W hc]at R;rw[W hc,W hc];exact R
  refine(G1 (b h) 4).mono ?_;rintro _ e ⟨rfl,p,R⟩;refine⟨I,I,c.trans p (λx d=>.inl d),?_⟩;unfold jq;rw[W h];exact R
 rintro _ w ⟨rfl,c⟩;have a:=h.only c;refine⟨_,_,_,_,I,λhc=>(G1 a 3).mono ?_,λhc=>⟨c.weaken λ_ h=>Rl,λe=>?_,λ_=>a⟩⟩
 .rintro _ f ⟨rfl,d,R⟩;exact⟨I,c.weaken (λ_ h=>Rl) |>.trans d (λx b=>.inl b),λ_=>R,λe=>absurd R0 e⟩
 rw[e]at hc;simp at hc
def amm(f:Rd F G ts w b l sn i fc fa d){H}{s}{ss}(m:aB ju 1 w H s ss):aA ar 380 #[ah (Hg ⟨b,0,ZQ⟩),s.v] w λe w'=>
  e=ao (ak (fc==0&&(tk ts i).k==4&&ss.contains (tk ts i).t))/\az [] w w':=by
 refine ret (v8w ?_);refine(Jr f).mono ?_;rintro _ q ⟨rfl,k⟩;refine⟨_,_,_,_,I,λo t n r p=>⟨λc w'=>c=_/\az [] w w',λc u j=>⟨by rw[j.1],j.2⟩,?_⟩⟩;have g:=k.cn p;refine(Fi (f.only g)).mono ?_;rintro _ v ⟨rfl,a⟩;have e:(!(fc !=0))=(fc==0):=by cases f:(fc==0)<;>simp[bne,f]
 refine⟨_,I,a.same C,λh=>(vP (Aw cx Z m (g.cn a) R) _).mono ?_,λh=>⟨?_,g.cn a⟩⟩
 .rintro _ w ⟨rfl,d⟩;rw[e]at h;have z:=a.size;exact⟨_,I,d.same C,by rw[h,cr],g.cn (a.cn d)⟩
 rw[e]at h;rw[h,di]
def Fc(h:Rd F G ts w b l sn i fc fa d) s:∃(c:Sl) (a:aw),(av 37 1 #[.mk 0 (ae (T s))]).run ar w=.ok c.v a/\az [] w a/\
  aA ar 380 #[ah (Hg ⟨b,0,ZQ⟩),c.v] a λe w'=>e=ao (ak (fc==0&&sg ts i s))/\az [] a w':=by
 obtain⟨c,a,k,f,k3⟩:=jb w [s] (n:=1) (parts:=#[_]) I I Z Z;refine⟨c,a,k,k3,(amm (h.only k3) (pT f)).mono ?_⟩;rintro _ g ⟨rfl,p⟩;have e:[s].contains (tk ts i).t=VM ((tk ts i).t=s):=by
  by_cases e:(tk ts i).t=s
  .rw[bF e,e];simp
  rw[bC e];simp[e]
 refine⟨?_,p⟩;unfold sg;rw[xE,e]
def is2(h:Rd F G ts w b l sn i fc fa d):∃(s:Sl) (a:aw),(av 37 2 #[.mk 0 (ae (aq #[45])),.mk 1 (ae (aq #[33]))]).run ar w=.ok s.v a/\az [] w a/\
  aA ar 380 #[ah (Hg ⟨b,0,ZQ⟩),s.v] a λe w'=>e=ao (ak (fc==0&&(sg ts i [45]||sg ts i [33])))/\az [] a w':=by
 obtain⟨s,a,k,f,k3⟩:=jb w [[45],[33]] (n:=2) (parts:=#[_,_]) I I Z Z;refine⟨s,a,k,k3,(amm (h.only k3) (pT f)).mono ?_⟩;rintro _ g ⟨rfl,c⟩;have e:[[45],[33]].contains (tk ts i).t=(VM ((tk ts i).t=[45])||VM ((tk ts i).t=[33])):=by
  simp
 refine⟨?_,c⟩;unfold sg;rw[xE,<-Bool.and_or_distrib_left,e]
def Dk(h:Rd F G ts w b l sn i fc fa d) s:aA ar 383 #[ah (Hg ⟨b,0,ZQ⟩),ae (T s)] w λe w'=>e=ao (aj #[])/\az [b] w w'/\
  (if fc==0&&sg ts i s then Rd F G ts w' b l sn (i+1) fc fa d else Rd F G ts w' b l sn i (if fc=0 then(jq ts i).1 else fc) (if fc=0 then(jq ts i).2 else fa) d):=by
 refine ret (v9w ?_);obtain⟨j,m,f,k,k3⟩:=Fc h s;refine⟨j,m,f,k3.mono ?_⟩;rintro _ n ⟨rfl,p⟩;have a:=h.only (k.cn p);have g:az [b] w n:=(k.cn p).weaken λ_ h=>Rl
 refine⟨_,I,λc=>(G2 a).mono ?_,λc=>?_⟩
 .rintro _ w ⟨rfl,O,h⟩;have c:(fc==0&&sg ts i s)=aM:=by rwa[ey]at c
  rw[c];exact⟨I,I,g.trans O (λx b=>.inl b),h⟩
 have c:=by rwa[fO]at c
 rw[c];simp at c;have e:=h.en.next h.lt (zd c.2);have o:=h.big;refine⟨i,Mn a.blk 1 I,b,1,_,_,I,a.blk,R,λw d q=>⟨I,g.trans d (λx l=>.inl l),a.gN d ?_ e⟩⟩;rw[eS J J]at q;exact q
def OJ(h:Rd F G ts w b l sn i fc fa d):aA ar 384 #[ah (Hg ⟨b,0,ZQ⟩)] w λe w'=>az [b] w w'/\
  (if fc=0/\(tk ts i).k=1 then e=ao (ae (T (tk ts i).t))/\Rd F G ts w' b l sn (i+1) fc fa d else e=ao (ae (T []))/\Rd F G ts w' b l sn i (if fc=0 then(jq ts i).1 else fc) (if fc=0 then(jq ts i).2 else fa) d):=by
 refine(asq ⟨b,0,ZQ⟩ (λv w'=>az [b] w w'/\(if fc=0/\(tk ts i).k=1 then v=_/\Rd F G ts w' b l sn _ fc fa d else v=_/\Rd F G ts w' b l sn i _ _ d)) w ?_).mono (by
  rintro e w' ⟨v,rfl,O,h⟩;refine⟨O,?_⟩;split at h
  .rename_i hc;rw[K hc];exact⟨by rw[h.1],h.2⟩
  rename_i hc;rw[W hc];exact⟨by rw[h.1],h.2⟩)
 refine(Jr h).mono ?_;rintro _ q ⟨rfl,f⟩;refine⟨_,_,_,_,I,λo s m r p=>?_⟩;have g:=f.cn p;have z:=f.size;have n:=h.lb;refine(Fi (h.only g)).mono ?_;rintro _ j ⟨rfl,c⟩;have t:=c.size;have a:=h.only (g.cn c);have k:az [b] w j:=(g.cn c).weaken λ_ h=>Rl
 refine⟨_,I,c.same C,λhc=>(G2 a).mono ?_,λhc=>?_⟩
 .rintro _ w ⟨rfl,d,b⟩;refine⟨I,d.same C,k.trans d (λx e=>.inl e),?_⟩;rw[W (λh=>by rw[h.1,h.2]at hc;simp at hc)];exact⟨I,b⟩
 have hc:=R0
 have l:=h.en.next h.lt (by rw[hc.2];decide);have v:=h.big;refine⟨i,Mn a.blk 1 I,b,1,_,_,I,a.blk,R,J,λw d e=>⟨k.trans d (λx u=>.inl u),?_⟩⟩;rw[K hc];refine⟨I,a.gN d ?_ l⟩;rw[eS J J]at e;exact e
end
def MP w op:aA ar 386 #[O U op] w λe c=>e=ao (O U (gj op))/\c=w:=by
 refine ret (asb ?_);have f:∀{k:Int} {a:aw},gj op=k->(Value.int U k=O U (gj op)/\a=a):=λe=>⟨UK,I⟩
 refine⟨λh=>f ?_,λh=>⟨λb c=>b=VM (op=1∨op=2)/\c=w,?_,λh1=>⟨?_,I⟩,λh1=>⟨?_,I⟩⟩⟩
 .simp at h;rw[gj];rw[K J]
 .rintro _ a ⟨rfl,rfl⟩;have h:¬(3<=op/\op<=5):=λg=>by rw[bF g.1,bF g.2]at h;cases h
  refine⟨λh1=>f ?_,λh1=>⟨λe=>f ?_,λe=>⟨λb w=>b=VM (op=10∨op=11)/\w=a,?_,λd=>⟨?_,I⟩,λd=>⟨?_,I⟩⟩⟩⟩
  .have h1:=aO h1;rw[gj];rw[W h,K h1]
  .have h1:=aR h1;simp at e;rw[gj];rw[W h,W h1,K J]
  .rintro _ _ ⟨rfl,rfl⟩;have h1:=aR h1;have e:¬(6<=op/\op<=9):=λg=>by rw[bF g.1,bF g.2]at e;cases e
   refine⟨λd=>f ?_,λd=>⟨λh4=>f ?_,λh4=>⟨λb=>f ?_,λb=>f ?_⟩⟩⟩
   .have d:=aO d;rw[gj];rw[W h,W h1,W e,K d]
   .have d:=aR d;have h4:=Me
    rw[gj];rw[W h,W h1,W e,W d,K h4]
   .have d:=aR d;have h4:=Me
    have b:=by simpa using b
    rw[gj];rw[W h,W h1,W e,W d,W h4,K b]
   have d:=aR d;have b:=by simpa using b
   rw[gj];rw[W h,W h1,W e,W d,W Me,W b]
  .have d:=by simpa using d
   rw[d];rfl
  rw[bL];simp[by simpa using d]
 .have h1:=Wl
  rw[h1];rfl
 rw[bL];simp[by simpa using h1]
section
variable {F G:aK} {ts:X Tk} {w w':aw} {b:Nat} {l sn:Sl} {i:Nat} {fc fa d:Int}
def Dl(f:Rd F G ts w b l sn i fc fa d) k:aA ar 357 #[ah (Hg ⟨b,0,ZQ⟩),O U k] w λe w'=>e=ao (O U (if fc=0 then lf ts k i else 0))/\az [] w w':=by
 refine ret (asa ?_);refine⟨λn g w'=>∃op:Nat,1<=op/\op<=14/\g=(op:Int)/\n=14-op/\(if fc=0 then lf ts k i else 0)=(if fc=0 then jU ts k i (14-op) op else 0)/\az [] w w',13,⟨1,Z,Z,I,I,I,EC _ _⟩,?_⟩;rintro n _ o ⟨op,j,m,rfl,rfl,V,a⟩;refine⟨λh=>?_,λh=>?_⟩
 .have h:(op:Int)<=13:=aO h;obtain⟨b,e⟩:∃b,14-op=b+1:=⟨13-op,J⟩
  rw[e,jU]at V;refine⟨λc w'=>c=(VM (gj (op:Int)=k)&&(fc==0&&sg ts i (eP op)))/\az [] w w',?_,λl d=>(MP l _).mono ?_⟩
  .rintro _ w ⟨rfl,p⟩;refine⟨λc=>⟨?_,p⟩,λc=>⟨b,J,op+1,J,J,TE,J,?_,p⟩⟩
   .simp at c;rw[V,K c.2.1,K ⟨c.1,c.2.2⟩]
   rw[V,show 14-_=b by omega];by_cases i:fc=0
   .rw[K i,K i,W];rintro⟨k,q⟩;rw[bF k,q,i]at c;simp at c
   rw[W i,W i]
  rintro _ w ⟨rfl,rfl⟩;have c:=f.only (a.cn d);refine⟨_,I,λhk=>?_,λhk=>?_⟩
  .have hk:=Mi
   have D:=c.sig.len;have s:Z8 xX=16:=I;have⟨ad,x,A,p,k,B,C,q,r⟩:=c.sig.get (i:=↑op) J J;subst r;rw[aW]at k;have t:eP op=x:=by unfold eP;rw[k];rfl
   subst t;obtain⟨y,z,u,v,k3⟩:=Fc c _;refine⟨sn,Mn c.blk 5 I,ad,p,_,q,y,z,u,k3.mono ?_⟩;rintro _ E ⟨rfl,P⟩;exact⟨_,I,by rw[bF hk,cr],a.cn (d.cn (v.cn P))⟩
  exact⟨by rw[bC Mi,di],a.cn d⟩
 have h:=aR h;have:op=14:=J
 subst this;rw[V];refine⟨?_,a⟩;split<;>rfl
end
abbrev nI(k n:Int)(s:S)(op:Int)(sl:Sl)(a:Int):aJ:=[O U k,O U n,ae (T s),O U op,sl.v,O U a]
inductive RXN (w:aw) (N:aK):Nat->Nat->Ex->aJ->Prop
 | leaf (lo hi:Nat) (k n:Int) (s:S) (op a:Int):RXN w N lo hi (.mk k n s op [] a) (nI k n s op Sl.nil a)
 | one (lo m g hi:Nat) (k n:Int) (s:S) (op a:Int) (x:Ex) (cs:aJ):RXN w N lo m x cs->lo<=g->m<=g->g<hi->¬N g->aG w g 76 cs->RXN w N lo hi (.mk k n s op [x] a) (nI k n s op ⟨Hg ⟨g,0,ZQ⟩,1,1⟩ a)
 | two (lo m m' m2 g hi:Nat) (k n:Int) (s:S) (op a:Int) (x y:Ex) (cs ds:aJ):RXN w N lo m x cs->m<=m'->RXN w N m' m2 y ds->lo<=m'->m<=g->m'<=g->m2<=g->g<hi->¬N g->aG w g 76 (cs++ds)->RXN w N lo hi (.mk k n s op [x,y] a) (nI k n s op ⟨Hg ⟨g,0,ZQ⟩,2,2⟩ a)
abbrev RX(w:aw):Nat->Nat->Ex->aJ->Prop:=RXN w λ_=>False
section
variable {w w':aw} {N N':aK} {lo hi:Nat} {x:Ex} {cs:aJ}
def RXN.keep(h:RXN w N lo hi x cs):(∀k,lo<=k->k<hi->¬N k->k<w.heap.size->w'.heap[k]? =w.heap[k]?)->RXN w' N lo hi x cs:=by
 induction h with
 | leaf lo hi k n s op a=>exact λ_=>.leaf ..
 | one lo p g hi k n s op a x cs q b i c f d m=>
  intro e;exact .one lo p g hi k n s op a x cs (m λo j r l=>e o j J l) b i c f ((e g b c f d.lt).trans d)
 | two lo u v w g hi k n s op a x y cs m z o A p q r t e i f E I=>
  intro c;exact .two lo u v w g hi k n s op a x y cs m (E λj d l b=>c j d J b) o (I λj d l b=>c j J J b) p q r t e i ((c g J e i f.lt).trans f)
def RXN.wide(h:RXN w N lo hi x cs):∀{l B:Nat},l<=lo->hi<=B->RXN w N l B x cs:=by
 induction h with
 | leaf lo hi k n s op a=>exact λ_ _=>.leaf ..
 | one lo m g hi k n s op a x cs j o c p e d i=>
  intro l B b f;exact .one l m g B k n s op a x cs (i b J) J c J e d
 | two lo p q r g hi k n s op a x y cs d u c e v f i j w o m E I=>
  intro l B b t;exact .two l p q r g B k n s op a x y cs d (E b J) c e J f i j J o m
def RXN.FZ(h:RXN w N lo hi x cs):(∀k,lo<=k->k<hi->¬N k->¬N' k)->RXN w N' lo hi x cs:=by
 induction h with
 | leaf lo hi k n s op a=>exact λ_=>.leaf ..
 | one lo o g hi k n s op a x cs p b e c j f l=>
  intro d;exact .one lo o g hi k n s op a x cs (l λm i q=>d m i J) b e c (d g b c j) f
 | two lo t u v g hi k n s op a x y cs f w i z l m o p d r q E I=>
  intro b;exact .two lo t u v g hi k n s op a x y cs f (E λj c e=>b j c J) i (I λj c e=>b j J J) l m o p d (b g J d r) q
def RXN.cells(h:RXN w N lo hi x cs):∃sl,cs=nI x.k x.n x.s x.op sl x.a/\(sl.n=Z8 x.dK):=by
 cases h with
 | leaf=>exact⟨_,I,I⟩
 | one=>exact⟨_,I,I⟩
 | two=>exact⟨_,I,I⟩
def RXN.only(h:RXN w N lo hi x cs){bs}(O:az bs w w')(b:∀k,k∈bs->k<lo∨hi<=k∨N k):RXN w' N lo hi x cs:=
 h.keep λk c d n a=>O.block k a λm=>by
  rcases b k m with e | e | e
  .omega
  .omega
  exact n e
end
def G3 w (a:X _) (d:∀v,v∈a->Z8 v=6) (e:0<Z8 a) (h:Z8 a<=100) {parts} (p:parts=(((a.map λv=>Value.agg v.toArray).zipIdx 0).map λx=>(x.2,x.1)).toArray):
  ∃c,(av 74 (Z8 a) parts).run ar w=.ok (Sl.v ⟨Hg ⟨w.heap.size,0,ZQ⟩,Z8 a,Z8 a⟩) c/\aG c w.heap.size 76 a.flatten/\az [] w c:=by
 have f:((a.map λv=>Value.agg v.toArray).flatMap λv=>v.cells.toList)=a.flatten:=by
  clear d e h p
  induction a with
  | nil=>rfl
  | cons v a i=>rw[cu,yE,i,fk];rfl
 have b:Tryz.t76.size=6:=I;have y:=run_buildSlice (P:=ar) w 74 76 (Z8 a) parts ((a.map λv=>Value.agg v.toArray).flatMap λv=>v.cells.toList).toArray Tryz.t76 _ D D I (by rw[b];omega) (by rw[b];omega)
  (by
   subst p;rw[lG,b];refine Go.Great.fill_whole (s:=6) Z _ _ (λv h=>?_) ?_
   .obtain⟨x,g,rfl⟩:=oP.1 h;have:=d x g;simpa[Value.cells]using this
   simp)
 rw[f]at y;exact⟨_,y,KC w _ _,WJ _ _⟩
def R3(v:ay):Prop:=∃(k n:Int) (s:S) (op:Int) (sl:Sl) (a:Int),v=ai (nI k n s op sl a).toArray
def sM(F G:aK)(t:X Tk)(a w:aw)(b:Nat)(l sn:Sl)(d:Nat)(r:Pr)(v:ay):Prop:=az [b] a w/\match r with
 | .ok (x,j)=>∃c,v=ai c.toArray/\RX w a.heap.size w.heap.size x c/\Rd F G t w b l sn j 0 0 d
 | .error e=>e.1≠0/\R3 v/\∃j,Rd F G t w b l sn j e.1 e.2 d
section
variable {F G:aK} {ts:X Tk} {w w':aw} {b:Nat} {l sn:Sl} {i:Nat} {fc fa d:Int}
def gv:(jq ts i).1≠0:=by
 rw[jq];dsimp only;split<;>decide
def Js{d:Nat}(hd:d<=20)(h:Rd F G ts w b l sn i 0 0 d)(n:i+1<Z8 ts){g:Nat}{z1 z2:aJ}(p:∀x w,(callFunc g x).run ar w=.ok (.enter g x) w)(f:OV)(o:f.v=.func (.func g) z1.toArray z2.toArray){r}
  (s:d≠20->∀j,az [b] w j->Rd F G ts j b l sn (i+1) 0 0 ((d+1:Nat))->aA ar g (z1++z2).toArray j λe w'=>∃v,e=ao v/\sM F G ts j w' b l sn (d+1) r v):
  aA ar 381 #[ah (Hg ⟨b,0,ZQ⟩),f.v] w λe w'=>∃v,e=ao v/\sM F G ts w w' b l sn d (lc d (tk ts i).a r) v:=by
 refine aso ⟨b,0,ZQ⟩ f (λv w'=>sM F G ts w w' b l sn d (lc d (tk ts i).a r) v) w ?_;intro c u hk L m;have t:=h.lb;have a:=h.only m;refine⟨d,Mn a.blk 4 I,λhc=>(G1 a 21).mono ?_,λhc=>?_⟩
 .have hc:d=20:=by have:(d:Int)=20:=R0;omega
  rintro _ j ⟨rfl,f,g⟩;rw[K I,K I]at g;refine⟨I,f.same C,λw e=>⟨?_,?_⟩⟩
  .exact((m.weaken (bs':=[b]) λ_ h=>Rl).trans f λx hx=>.inl hx).new e hk
  rw[lc,K hc];exact⟨(by decide:(21:Int)≠0),⟨0,0,[],0,Sl.nil,0,I⟩,i,g.own e C⟩
 have hc:d≠20:=λe=>Um
 have Q0:=h.big;refine⟨i,Mn a.blk 1 I,b,1,_,_,I,a.blk,R,J,λw3 Q Z=>?_⟩;rw[eS J J]at Z;have y:=a.gN Q Z n;have z3:=Q.size;refine⟨d,Mn y.blk 4 I,b,4,_,_,I,y.blk,R,J,λw4 N Y=>?_⟩;rw[eS J J]at Y;have h4:=y.gN N Y n;have E:=N.size;have rT:=((m.weaken (bs':=[b]) λ_ h=>Rl).trans Q λx hx=>.inl hx).trans N λx hx=>.inl hx;refine⟨g,z1,z2,o,p,?_⟩;have e:yQ (yQ z1 []) z2=z1++z2:=by unfold yQ;rw[bD]
 rw[e];refine(s hc w4 rT h4).mono ?_;rintro _ T ⟨v,rfl,P,hd⟩;have z6:=P.size;rw[lc,W hc];have hv:=by
  cases r with
  | error e=>exact hd.2.1
  | ok q=>
   obtain⟨b,rfl,hx,_⟩:=hd;obtain⟨sl,rfl,_⟩:=hx.cells;exact⟨_,_,_,_,_,_,I⟩
 obtain⟨vk,vn,vs,vo,aS,va,rfl⟩:=hv;refine⟨_,_,_,_,_,_,I,P.same C,λk8 V aC am S=>?_⟩;have z7:=S.size;have D:∀{B:Nat} {fc fa:Int},Rd F G ts T b l sn B fc fa _->∃A,aD V (Addr.add _ 4) [O U A]/\∃f H,∃E,∃M,(Addr.add ⟨b,0,ZQ⟩ 4)=⟨f,H,ZQ⟩/\aG V f M E/\(H+1)<=Z8 E/\c≠f/\k8≠f/\
   ∀k,az [f] V k->aG k f M (eY E H [O U (au U (A-1))])->∀e,az [c] k e->az [b] w e/\az [b,c] T e/\Rd F G ts e b l sn B fc fa d:=fun{B fc fa} h6=>by
  have i:=h6.only S;refine⟨_,Mn i.blk 4 I,b,4,_,_,I,i.blk,R,J,J,λk r v e q=>?_⟩;have z:((d+1:Nat):Int)-1=d:=J
  rw[z,eS J J]at v;have h8:=i.gN r v i.lt;have g:az [b,c] T e:=((S.weaken (bs':=[b,c]) λ_ h=>Rl).trans r λx hx=>.inl Vx).trans q λx hx=>.inl Vx;exact⟨(rT.trans P λx hx=>.inl hx).trans g (λx hx=>by
   simp at hx;rcases hx with rfl | rfl
   .exact .inl R
   exact .inr hk),g,h8.own q C⟩
 have X:=hd;cases r with
 | error e=>
  have⟨i,k,B,y⟩:=X;obtain⟨A,l,f,H,z,M,q,k3,r,v,w,x⟩:=D y;refine⟨A,l,f,H,z,M,q,k3,r,v,w,λG h F w9 g=>?_⟩;have⟨b,a2,d⟩:=x G h F w9 g;exact⟨b,i,k,B,d⟩
 | ok q=>
  have⟨g,l,r,y⟩:=X;have⟨A,v,f,H,z,M,w,k3,x,F,G,k7⟩:=D y;refine⟨A,v,f,H,z,M,w,k3,x,F,G,λw8 i re w9 h=>?_⟩;have⟨d,b,e⟩:=k7 w8 i re w9 h;have z9:=b.size;exact⟨d,g,l,(r.only b λk hk=>.inl Z2).wide J z9,e⟩
end
section
variable {F G:aK} {ts:X Tk} {w w':aw} {b:Nat} {l sn:Sl} {i:Nat} {fc fa d:Int}
def sM.qN{w w'}{d}{r}{v}(h:sM F G ts w w' b l sn d r v):R3 v:=by
 obtain⟨_,h⟩:=h;cases r with
 | error e=>exact h.2.1
 | ok q=>
  obtain⟨c,rfl,x,_⟩:=h;obtain⟨sl,rfl,_⟩:=x.cells;exact⟨_,_,_,_,_,_,I⟩
def sM.Eg{w0 w1 w2 w3}{d}{r}{v}(a:sM F G ts w1 w2 b l sn d r v)(g:az [b] w0 w1){bs}(c:az bs w2 w3)(f:∀x,x∈bs->b<x/\w0.heap.size<=x/\x<w1.heap.size):sM F G ts w0 w3 b l sn d r v:=by
 obtain⟨i,a⟩:=a;refine⟨(g.trans i λx h=>.inl h).trans c λx h=>.inr (f x h).2.1,?_⟩;cases r with
 | error e=>
  obtain⟨b,d,k,j⟩:=a;exact⟨b,d,k,j.own c λx h=>(f x h).1⟩
 | ok q=>
  obtain⟨s,b,d,e⟩:=a;exact⟨s,b,(d.only c λx h=>.inl (f x h).2.2).wide g.size c.size,e.own c λx h=>(f x h).1⟩
def amo{d:Nat}{r:Pr}{f:Nat}(h:Rd F G ts w b l sn i 0 0 (d:Int))(hk:b<f)(B:aG w f 353 [ah (Hg ⟨b,0,ZQ⟩)])
  (E:∀j,az [] w j->aA ar 334 #[ah (Hg ⟨b,0,ZQ⟩),O U 0] j λe w'=>∃v,e=ao v/\sM F G ts j w' b l sn d r v):
  aA ar 382 #[ah (Hg ⟨f,0,ZQ⟩)] w λe w'=>∃v,e=ao v/\sM F G ts w w' b l sn d (ze ts r) v:=by
 refine asp ⟨f,0,ZQ⟩ w ?_;intro H p o D m;have A:=h.lb;have Z:aG p f 353 [ah (Hg ⟨b,0,ZQ⟩)]:=m.blk B R;have y:=B.lt;refine⟨_,Mn Z 0 I,(E p m).mono ?_⟩;rintro _ j ⟨v,rfl,hd⟩;obtain⟨k,n,s,op,sl,a,rfl⟩:=hd.qN;have N:=hd.1.size;refine⟨_,_,_,_,_,_,I,hd.1.same C,λL t M T c=>?_⟩;have P:=c.size;have Y:aG t f 353 [ah (Hg ⟨b,0,ZQ⟩)]:=c.blk (hd.1.blk Z C) R;refine⟨_,Mn Y 0 I,_,I,?_⟩;obtain⟨u,hd⟩:=hd;have z:az [b] w t:=((m.weaken λ_ h=>Rl).trans u λx g=>.inl g).cn c;cases r with
 | error e=>
  obtain⟨h,l,k,a⟩:=hd;have a:=a.only c;refine(Dk a [41]).mono ?_;rintro _ w ⟨rfl,b,i⟩;rw[W (by simp[h]),W h,W h]at i;refine⟨I,b.same C,λn d=>⟨((z.trans b λx g=>.inl g).new d o),h,⟨_,_,_,_,_,_,I⟩,k,i.own d C⟩⟩
 | ok q=>
  obtain⟨x,e⟩:=q;obtain⟨i,l,n,a⟩:=hd;have a:=a.only c;refine(Dk a [41]).mono ?_;rintro _ w ⟨rfl,b,h⟩;have F:=b.size;refine⟨I,b.same C,λv d=>⟨((z.trans b λx g=>.inl g).new d o),?_⟩⟩;have G:=d.size;by_cases s:sg ts e [41]=aF
  .rw[K (by simp[s])]at h;simp only[ze,s,yC];exact⟨i,l,(((n.only c R).only b λk hk=>.inl Mo).only d λk hk=>.inl Mo).wide J J,h.own d C⟩
  rw[W (by simp[s]),K I,K I]at h;simp only[ze,s,kP];exact⟨gv,⟨_,_,_,_,_,_,I⟩,e,h.own d C⟩
def afx{f d:Nat}(hd:d<=20)(h:Rd F G ts w b l sn i 0 0 (d:Int))
  (hE:d≠20->∀w i,Rd F G ts w b l sn i 0 0 ((d+1:Nat):Int)->aA ar 334 #[ah (Hg ⟨b,0,ZQ⟩),O U 0] w λe w'=>∃v,e=ao v/\sM F G ts w w' b l sn (d+1) (dy ts f 0 (d+1) i) v)
  (Y:d≠20->∀w i,Rd F G ts w b l sn i 0 0 ((d+1:Nat):Int)->aA ar 356 #[ah (Hg ⟨b,0,ZQ⟩)] w λe w'=>∃v,e=ao v/\sM F G ts w w' b l sn (d+1) (dy ts f 6 (d+1) i) v):
  aA ar 356 #[ah (Hg ⟨b,0,ZQ⟩)] w λe w'=>∃v,e=ao v/\sM F G ts w w' b l sn d (dy ts (f+1) 6 d i) v:=by
 have eR:dy ts (f+1) 6 d i=rP ts (dy ts f 0 (d+1)) (dy ts f 6 (d+1)) d i:=by rw[dy,K I]
 rw[eR];generalize am:dy ts f 0 (d+1)=E0 at*
 generalize aC:dy ts f 6 (d+1)=o at*
 generalize j:rP ts E0 o d i=S;rw[rP]at j;refine ar9 ⟨b,0,ZQ⟩ (λv w'=>sM F G ts w w' b l sn d S v) w ?_;intro N B w0 fQ dL ki ik ch;have hb:=h.lb;refine(Jr (h.only ch)).mono ?_;rintro _ w1 ⟨rfl,L⟩;have z1:=L.size;have gC:=ch.cn L;refine⟨_,_,_,_,I,L.same C,λP k3 V mE nT yw tD cO=>?_⟩;have z2:=cO.size;have z0:=ch.size;have kz:=gC.cn cO;have m:=h.only kz;have Q0:=h.big;have sm:∀{u Q:aw},V.heap.size<=u.heap.size->az [b] u Q->cF [N,B,P,k3] u Q:=λhu hO=>hO.same Px;have Z:∀{u Q:aw},V.heap.size<=u.heap.size->az [] u Q->cF [N,B,P,k3] u Q:=λhu hO=>hO.same (by intro x hx;simp only[aZ,bB,cE]at hx;exact⟨J,R⟩);refine⟨λq _ _ _ _ _ _ y z H A E p w'=>q=Hg ⟨b,0,ZQ⟩/\az [] w w'/\(tk ts i).k≠5/\∃t,H=T t/\E=Sl.nil/\S=.ok (.mk y z t A [] p,i+1),?_,?_⟩
 .rintro _ _ _ _ _ _ _ y z _ A _ p r ⟨rfl,f,w,t,rfl,rfl,X⟩;have a:=h.only f;have n:=h.en.next h.lt w;refine⟨_,I,(i:Int),Mn a.blk 1 I,_,I,b,1,_,_,I,a.blk,R,J,J,J,J,λq c g s e=>?_⟩;rw[eS J J]at g;have k:Rd F G ts q b l sn (i+1) 0 0 (d:Int):=a.gN c g n;rw[X];refine⟨((f.weaken (bs':=[b]) λ_ h=>Rl).trans c λx hx=>.inl hx).new e J,_,I,.leaf ..,k.own e C⟩
 refine(Fi m).mono ?_;rintro _ w6 ⟨rfl,t⟩;have z6:=t.size;have h6:=m.only t;refine⟨_,I,Z J t,λhc=>(by simp at hc),λ_=>?_⟩;obtain⟨s8,w8,k8,ft,aS⟩:=is2 h6;have z8:=ft.size;refine⟨s8,w8,k8,Z J ft,aS.mono ?_⟩;rintro _ w9 ⟨rfl,fm⟩;have z9:=fm.size;have f:=t.cn (ft.cn fm);have h9:=m.only f;rw[show((0:Int)==0)=aF from rfl,cr];have Xr:=kz.cn f;refine⟨_,I,Z J fm,λhc dk dS=>?_,λhc=>?_⟩
 .rw[K hc]at j;have iw:(tk ts i).k≠5:=by
   rcases dq _ _▸hc with e | e<;>exact zd e
  have hn:=h.en.next h.lt iw;have aT:∀op:Int,op=(if(tk ts i).t=[33]then 15 else 14)->∀l,az [] w l->V.heap.size<=l.heap.size->_:=λop rh l F c=>Js hd (h.only F) hn (g:=356) (z1:=[ah (Hg ⟨b,0,ZQ⟩)]) (z2:=[]) (jB D) ⟨.func (.func 356) #[ah (Hg ⟨b,0,ZQ⟩)] #[],I⟩ I (r:=o (i+1)) λG w1 _ h1=>Y G w1 (i+1) h1;refine⟨λk n s op sl a w'=>k=4/\n=0/\s=T []/\op=(if(tk ts i).t=[33]then 15 else 14)/\sl=Sl.nil/\a=(tk ts i).a/\az [] w w'/\V.heap.size<=w'.heap.size,?_,?_,?_⟩
  .rintro _ _ _ _ _ _ l ⟨rfl,rfl,rfl,rh,rfl,rfl,F,c⟩;refine(aT _ rh l F c).mono ?_;rintro _ n ⟨v,rfl,a⟩;obtain⟨y,z,H,A,E,p,rfl⟩:=a.qN;have bV:=a.1.size;obtain⟨eM,Ai,vj,g⟩:=G3 n [nI y z H A E p] R R R (parts:=#[(0,ai (nI y z H A E p).toArray)]) I;refine⟨_,_,_,_,_,_,I,sm c a.1,⟨Hg ⟨n.heap.size,0,ZQ⟩,1,1⟩,eM,Ai,Z J g,λfR r=>?_⟩;have Tu:=g.size;have bY:=r.size;have bv:az [b] w fR:=(((F.weaken (bs':=[b]) λ_ h=>Rl).trans a.1 λx hx=>.inl hx).cn g).trans r λx hx=>.inr Wq;have s:∀x,x∈[B,k3]->b<x:=C
   have T:∀x,x∈[B,k3]->x<l.heap.size:=C
   refine⟨bv,?_⟩;obtain⟨_,a⟩:=a;rw[<-j];cases hN:lc d (tk ts i).a (o (i+1))with
   | error e=>
    rw[hN]at a;obtain⟨b,i,h,d⟩:=a;exact⟨b,⟨_,_,_,_,_,_,I⟩,h,(d.only g).own r s⟩
   | ok q=>
    obtain⟨x,cc⟩:=q;rw[hN]at a;obtain⟨b,h,i,v⟩:=a;refine⟨_,I,?_,(v.only g).own r s⟩;have gZ:(nI y z H A E p)=b:=bK Array.toList (Value.agg.inj h);rw[rh];have d:RX fR l.heap.size n.heap.size x b:=(i.only g R).only r λk hk=>.inl (T k hk);have e:aG fR n.heap.size 76 b:=by
     have:=r.blk vj λk=>by have:=T _ k;omega
     rw[fk,Bb,bD]at this;rw[<-gZ];exact this
    exact .one w.heap.size n.heap.size n.heap.size _ _ _ _ _ _ x b (d.wide J (aX _)) J (aX _) WR id e
  .rw[show(aq #[33])=T [33]from rfl,iC];intro h g a;have h:=aO h;exact⟨I,I,I,by rw[K h],I,I,(Xr.new dS J).new a J,by have:=a.size;have:=dS.size;omega⟩
  rw[show(aq #[33])=T [33]from rfl,iC];intro h;have h:=aR h;exact⟨I,I,I,by rw[W h],I,I,Xr.new dS J,by have:=dS.size;omega⟩
 rw[W Zs]at j;obtain⟨Ss,iO,LU,ic,ce⟩:=Fc h9 [40];have co:=ic.size;refine⟨Ss,iO,LU,Z J ic,ce.mono ?_⟩;rintro _ iz ⟨rfl,iK⟩;have cC:=iK.size;have q:=Xr.cn (ic.cn iK);have n:=h.only q;have s:az [b] w iz:=q.weaken λ_ h=>Rl
 rw[show((0:Int)==0)=aF from rfl,cr];refine⟨_,I,Z J iK,λhp hB _ _ _=>?_,λhp=>?_⟩
 .rw[K hp]at j;have e:=h.en.next h.lt (zd hp);subst j;refine(Js hd n e (g:=382) (z1:=[]) (z2:=[ah (Hg ⟨N,0,ZQ⟩)]) (jB D) ⟨.func (.func 382) #[] #[ah (Hg ⟨N,0,ZQ⟩)],I⟩ I (r:=ze ts (E0 (i+1))) λb w1 L d=>amo d J (L.blk hB C) λw c=>hE b w (i+1) (d.only c)).mono ?_;rintro _ x ⟨v,rfl,a⟩;obtain⟨y,z,H,A,E,p,rfl⟩:=a.qN;have k:=a.1.size;refine⟨_,_,_,_,_,_,I,a.1.same C,_,a.1.blk hB C,λF l _=>?_⟩;exact a.Eg s l C
 rw[W WS]at j;have r:(tk ts i).k≠5->i+1<Z8 ts:=h.en.next h.lt;refine⟨λhi jN mT _ _ _ _ _ g=>⟨λk=>k=P,I,λe=>g e.symm,λe=>g e.symm,λmD v=>?_⟩,λhi=>⟨λhv ra rU _ _ _ _ _ g=>⟨λk=>k=P,I,λe=>g e.symm,λe=>g e.symm,λtw rV=>?_⟩,λhv=>⟨λhw=>?_,λhw=>?_⟩⟩⟩
 .have hi:(tk ts i).k=3:=UB
  rw[K hi]at j;exact⟨I,(q.cn mT).new v J,by rw[hi];decide,[],I,I,j.symm⟩
 .have hi:¬(tk ts i).k=3:=UB
  have hv:(tk ts i).k=1:=Gm
  rw[W hi,K hv]at j;exact⟨I,(q.cn rU).new rV J,by rw[hv];decide,_,I,I,j.symm⟩
 .have hi:¬(tk ts i).k=3:=UB
  have hv:¬(tk ts i).k=1:=Gm
  rw[show(aq #[105,110])=T [105,110]from rfl,iC]at hw;have hw:(tk ts i).k=2/\(tk ts i).t=[105,110]:=Mg
  rw[W hi,W hv,K hw]at j;have hn:=r (by rw[hw.1];decide);refine⟨(i:Int),Mn n.blk 1 I,b,1,_,_,I,n.blk,R,J,J,J,J,λvh EZ fd=>?_⟩;rw[eS J J]at fd;have SE:Rd F G ts vh b l sn (i+1) 0 0 (d:Int):=n.gN EZ fd hn;have ge:=EZ.size;refine(Dk SE [40]).mono ?_;rintro _ pN ⟨rfl,xz,dO⟩;have gE:=xz.size;refine⟨I,sm J xz,?_⟩;have eQ:az [b] w pN:=(s.trans EZ λx hx=>.inl hx).trans xz λx hx=>.inl hx;have bad:∀{el:Nat} {c a:Int},Rd F G ts pN b l sn el c a (d:Int)->c≠0->aA ar 384 #[ah (Hg ⟨b,0,ZQ⟩)] pN λe w'=>e=ao (ae (T []))/\az [b] pN w'/\Rd F G ts w' b l sn el c a (d:Int):=fun{el c a} SF hc=>by
   refine(OJ SF).mono ?_;rintro e qR ⟨h,a⟩;rw[W (λa=>hc a.1),W hc,W hc]at a;exact⟨a.1,h,a.2⟩
  have f5:∀{qR tB:aw} {el:Nat} {c a:Int},az [b] pN qR->az [k3] qR tB->Rd F G ts qR b l sn el c a (d:Int)->c≠0->S=.error (c,a)->∀s6:M,aA ar 383 #[ah (Hg (Addr.add ⟨b,0,ZQ⟩ 0)),ae (aq #[41])] tB λe8 xy=>e8=(ao (aj #[]))/\cF [N,B,P,k3] tB xy/\∀BP:aw,az [B] xy BP->sM F G ts w BP b l sn d S (ai #[O U 3,O U 0,ae s6,O U 0,Sl.nil.v,O U (tk ts i).a]):=fun{qR tB el c a} h k Zc hc X s6=>by
   have c:=h.size;have d:=k.size;refine(Dk (Zc.own k C) [41]).mono ?_;rintro _ xy ⟨rfl,b,a⟩;rw[W (by simp[hc]),W hc,W hc]at a;refine⟨I,sm J b,λBP f=>?_⟩;rw[X];refine⟨((((eQ.trans h λx hx=>.inl hx).new k J).trans b λx hx=>.inl hx).new f J),hc,⟨3,0,s6.data.toList,0,Sl.nil,_,by unfold nI;rw[<-T_of]⟩,el,a.own f C⟩
  by_cases h1:sg ts (i+1) [40]=aF
  .rw[K (by simp[h1])]at dO;rw[Ik,K h1]at j;refine(OJ dO).mono ?_;rintro _ qR ⟨h,a⟩;have c:=h.size;by_cases m:(tk ts (i+2)).k=1
   .rw[K ⟨I,m⟩]at a;obtain⟨rfl,T⟩:=a;rw[K m]at j;refine⟨_,I,sm J h,λtB k=>?_⟩;have gG:=k.size;have l:=T.own k C;refine(Dk l [41]).mono ?_;rintro _ xy ⟨rfl,G,d⟩;refine⟨I,sm J G,λBP f=>?_⟩;have F:az [b] w BP:=(((eQ.trans h λx hx=>.inl hx).new k J).trans G λx hx=>.inl hx).new f J;refine⟨F,?_⟩;by_cases e:sg ts (i+3) [41]=aF
    .rw[K (by simp[e])]at d;rw[K e]at j;rw[<-j];exact⟨_,I,.leaf ..,d.own f C⟩
    rw[W (by simp[e]),K I,K I]at d;rw[W e]at j;rw[<-j];exact⟨gv,⟨_,_,_,_,_,_,I⟩,_,d.own f C⟩
   rw[W (λa=>m a.2),K I,K I]at a;obtain⟨rfl,b⟩:=a;rw[W m]at j;exact⟨_,I,sm J h,λtB k=>f5 h k b gv j.symm _⟩
  rw[W (by simp[h1]),K I,K I]at dO;rw[Ik,W h1]at j;refine(bad dO gv).mono ?_;rintro _ qR ⟨rfl,h,a⟩;exact⟨_,I,sm J h,λtB k=>f5 h k a gv j.symm _⟩
 have hi:¬(tk ts i).k=3:=UB
 have hv:¬(tk ts i).k=1:=Gm
 rw[show(aq #[105,110])=T [105,110]from rfl,iC]at hw;rw[W hi,W hv,W (λh=>by rw[h.1,h.2]at hw;simp at hw)]at j;refine(G2 n).mono ?_;rintro _ d ⟨rfl,a,b⟩;rw[K I,K I]at b;refine⟨I,sm J a,λe c=>⟨(s.trans a λx hx=>.inl hx).new c J,?_⟩⟩;rw[<-j];exact⟨gv,⟨0,0,[],0,Sl.nil,_,I⟩,i,b.own c C⟩
end
end Go.Proofs.YtccbiehilmhodaaGreatDoor.Con
