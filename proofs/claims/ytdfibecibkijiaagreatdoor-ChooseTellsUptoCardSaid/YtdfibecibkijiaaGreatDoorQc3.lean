import Derived.Test.YtdfibecibkijiaaGreatDoorQc2
set_option linter.defProp false
set_option linter.unusedSectionVars false
set_option linter.unusedVariables false
set_option maxRecDepth 100000
set_option maxHeartbeats 40000000
set_option linter.unusedSimpArgs false
open Bool renaming true->aF,false->aM
open Option renaming some->aN,none->Pw
open List renaming length->qj
open Decidable renaming decide->YR
namespace Go.Proofs.YtdfibecibkijiaaGreatDoor.Vc
open Go.Value renaming int->O,string->ab,pointer->ae,agg->ah,tuple->ai,bool->aj
open Go.IntKind renaming i64->U,wrap->au
open Go.Ending renaming returned->ak
open _root_.ByteArray renaming mk->ao
open _root_.Go.Proofs.Tryz renaming prog->aq
open Go.Instr renaming buildSlice->av
open Go renaming World->aw,Value->ay,Calls->aA
open Go.Kt renaming Only->az,SliceF->aB,Cells->aD,OnlyP->aE,Blk->aG
open Go Go.RowKit Go.Kt Go.Kt.V
def aof(c:Addr)(R:aH)(o:aw)(A:cS 205 #[Q (c.add 0)] o λs W=>lK (λC w=>lK (λi p=>N (i==0) (R (O U 4) p) (∃k:Nat,(i=(k:Int)/\k<=s.size)/\cS 246 #[ab (s.extract 0 k)] p λS X=>cU 156 #[Q c,nT 4 S 0 0,O U i] X λZ=>R (O U 0) Z)) λd=>lK (λt r=>N t (d 2 r) (d C r)) λJ=>N (YR ((s.size:Int)>1)) (∃c0:UInt8,((0:Int)<=1/\s[1]? =(aN c0))/\N ((UInt8.toNat c0:Int)==61) (∃e:UInt8,((0:Int)<=0/\s[0]? =(aN e))/\o0 w λw6=>W2 230 (.int .u8 60) (.int .u8 62) (.int .u8 61) (.int .u8 33) w6 λD w7=>cB 203 #[.int .u8 (UInt8.toNat e:Int),D.v] w7 λu a=>N u (J aF a) (∃f:UInt8,((0:Int)<=1/\s[1]? =(aN f))/\∃g:UInt8,((0:Int)<=0/\s[0]? =(aN g))/\N ((UInt8.toNat f:Int)==(UInt8.toNat g:Int)) (∃h:UInt8,((0:Int)<=0/\s[0]? =(aN h))/\N1 230 (.int .u8 38) (.int .u8 124) a λI w9=>cB 203 #[.int .u8 (UInt8.toNat h:Int),I.v] w9 λv q=>N v (J aF q) (2<=s.size/\J (((s.extract 0 2).toList)==((ao #[45,62]).toList)) q)) (2<=s.size/\J (((s.extract 0 2).toList)==((ao #[45,62]).toList)) a))) (∃j:UInt8,((0:Int)<=1/\s[1]? =(aN j))/\∃l:UInt8,((0:Int)<=0/\s[0]? =(aN l))/\N ((UInt8.toNat j:Int)==(UInt8.toNat l:Int)) (∃m:UInt8,((0:Int)<=0/\s[0]? =(aN m))/\o0 w λB=>N1 230 (.int .u8 38) (.int .u8 124) B λK z=>cB 203 #[.int .u8 (UInt8.toNat m:Int),K.v] z λx Y=>N x (J aF Y) (2<=s.size/\J (((s.extract 0 2).toList)==((ao #[45,62]).toList)) Y)) (2<=s.size/\o0 w λV=>J (((s.extract 0 2).toList)==((ao #[45,62]).toList)) V))) (o0 w λT=>J aM T)) λb=>∃n:UInt8,((0:Int)<=0/\s[0]? =(aN n))/\LG (av 230 17 #[.mk 0 (.int .u8 123),.mk 1 (.int .u8 125),.mk 2 (.int .u8 40),.mk 3 (.int .u8 41),.mk 4 (.int .u8 91),.mk 5 (.int .u8 93),.mk 6 (.int .u8 59),.mk 7 (.int .u8 44),.mk 8 (.int .u8 61),.mk 9 (.int .u8 43),.mk 10 (.int .u8 45),.mk 11 (.int .u8 42),.mk 12 (.int .u8 47),.mk 13 (.int .u8 37),.mk 14 (.int .u8 60),.mk 15 (.int .u8 62),.mk 16 (.int .u8 33)]) W λM E=>LG (convert 230 230 M.v) E λP L=>cB 203 #[.int .u8 (UInt8.toNat n:Int),P.v] L λy H=>N y (b 1 H) (b 0 H)):F 211 #[Q c] o R:=
 fC (.d 3 (.j [0,3] [.s 4 G] .o (.j [0,3] [.s 4 G] (.s (.j [0,3,4] [.s 45 .bool] .o .o) .o) .o))) A
variable {R:aH}{w:aw}
def aog{r:Addr}{kind:Int}(ce:z w λa L=>∃S:A,S (((r.add 0).add 0).block)/\j9 L ((r.add 0).add 0) λl0=>S (((r.add 0).add 1).block)/\gw L ((r.add 0).add 1) λi0=>∃p0,cK l0 i0 4 p0/\S ((p0.add 3).block)/\gw L (p0.add 3) λK=>z L λk w1=>gn [a,k] 157 #[Q r,Q ((r.add 4).add 3),O U 2] w1 λw2=>lf [a,k] 122 #[Q (r.add 0)] w2 λb0 P=>N (!b0) (∀w4,az [a] P w4->R (gZ kind (ao #[]) 0 aM 0 0 (ao #[]) 0 Sl.nil 0 Sl.nil Sl.nil K) w4) (gw P ((r.add 0).add 1) λi2=>sT ((r.add 0).add 1) P 1 λk2 k3 z0 k4=>a≠k2/\k≠k2/\sS P k2 k3 z0 k4 [O U (au U (i2+1))] λw5=>∃J:Int->D->Int->M->Int->Int->D->Int->Sl->Int->Sl->Sl->Int->aw->Prop,(∀i3 s0 i4 b1 i5 i6 s1 i7,∀l1:Sl,∀i8,∀l2 l3:Sl,∀i9 w6,J i3 s0 i4 b1 i5 i6 s1 i7 l1 i8 l2 l3 i9 w6->∃T:Int->D->Int->M->Int->Int->D->Int->Sl->Int->Sl->Sl->Int->aw->Prop,(∀i s2 b Z c d s3 e,∀l4:Sl,∀f,∀l5 l6:Sl,∀g w7,T i s2 b Z c d s3 e l4 f l5 l6 g w7->∃W:Int->D->Int->M->Int->Int->D->Int->Sl->Int->Sl->Sl->Int->aw->Prop,(∀t s4 u b3 v x s5 y,∀l7:Sl,∀B,∀l8 l9:Sl,∀C w8,W t s4 u b3 v x s5 y l7 B l8 l9 C w8->∃X:Nat->D->Int->D->Int->M->Int->Int->D->Int->Sl->Int->Sl->Sl->Int->aw->Prop,∃k5:Nat,X k5 (ao #[45,62]) t s4 u b3 v x s5 y l7 B l8 l9 C w8/\∀k6 s6 h s7 j b4 l m s8 n,∀s:Sl,∀o,∀qJ qy:Sl,∀p w9,X k6 s6 h s7 j b4 l m s8 n s o qJ qy p w9->lH 80 (ab s6) w9 λtT dq=>cj [a,k] w9 dq/\oT [a,k] 119 #[Q (r.add 0),tT.v] dq λam dB=>N (YR (am>0)) (o0 dB λey=>∃I:A,I k/\rN [a,k] 214 #[Q (r.add 0)] ey λs9 Y=>bX I ey Y/\lH 80 (ab s9) Y λB6 V=>cj [a,k] Y V/\bX I Y V/\po 80 qy B6 V λC2 fT=>cj [a,k] V fT/\bX I V fT/\∀iE,az [k] fT iE->nx k6 λk7=>X k7 (ao #[44]) h s7 j b4 l m s8 n s o qJ C2 p iE) (lH 80 (ab (ao #[59])) dB λTu gL=>cj [a,k] dB gL/\gn [a,k] 117 #[Q (r.add 0),Tu.v] gL λjH=>∀kf,az [a] jH kf->R (gZ h s7 j b4 l m s8 n s o qJ qy p) kf))/\lH 80 (ab (ao #[123])) w7 λP5 j8=>cj [a,k] w7 j8/\oT [a,k] 160 #[Q (r.add 0),P5.v] j8 λaC mB=>N (YR (aC>0)) (wP [a,k] 215 #[Q r] mB λNH oH=>∀sM,az [k] oH sM->W i s2 b Z c d s3 e l4 f NH l6 g sM) (W i s2 b Z c d s3 e l4 f l5 l6 g mB))/\lH 80 (ab (ao #[91])) w6 λKB qK=>cj [a,k] w6 qK/\oT [a,k] 119 #[Q (r.add 0),KB.v] qK λq pI=>N (YR (q>0)) (∀ry,az [k] pI ry->fW [a,k] 248 #[Q (r.add 0)] ry λaS aT HU bv KC bV uZ=>∀we,az [k] uZ we->lH 80 (ab (ao #[93])) we λP6 CN=>cj [a,k] we CN/\gn [a,k] 117 #[Q (r.add 0),P6.v] CN λP7=>T i3 s0 i4 (YR (q>0)) aS aT HU bv KC bV l2 l3 i9 P7) (∀KD,az [k] pI KD->T i3 s0 i4 (YR (q>0)) i5 i6 s1 i7 l1 i8 l2 l3 i9 KD))/\N (kind==1) (rN [a,k] 214 #[Q (r.add 0)] w5 λHV ZZ=>∀E,az [k] ZZ E->J kind HV 0 aM 0 0 (ao #[]) 0 Sl.nil 0 Sl.nil Sl.nil K E) (N (kind==3) (wS [a,k] 159 #[Q (r.add 0),O U 3] w5 λco NI bY cC cc=>∀H,az [k] cc H->J kind (ao #[]) bY aM 0 0 (ao #[]) 0 Sl.nil 0 Sl.nil Sl.nil K H) (J kind (ao #[]) 0 aM 0 0 (ao #[]) 0 Sl.nil 0 Sl.nil Sl.nil K w5)))):F 213 #[Q r,O U kind] w R:=
 fC (.d 4 (.j [0,4,5] [.b 5 [G,.str,G,.bool,G,G,.str,G,.sl,G,.sl,.sl,G]] .o (.j [0,4,5] [.b 5 [G,.str,G,.bool,G,G,.str,G,.sl,G,.sl,.sl,G]] .o (.j [0,4,5] [.b 5 [G,.str,G,.bool,G,G,.str,G,.sl,G,.sl,.sl,G]] .o (.s (.s .o (.j [0,4,5] [.s 6 .str,.b 5 [G,.str,G,.bool,G,G,.str,G,.sl,G,.sl,.sl,G]] .o .o)) .o))))) ce
def aoh{r:Addr}(h:zH w λk a d=>lH 80 (ab (ao #[123])) d λl e=>cj [k,a] d e/\gn [k,a] 117 #[Q (r.add 0),l.v] e λb=>(aG b k 170 [Q r]->aG b a 23 [Sl.nil.v]->cU 249 #[Q r,ab (ao #[125]),.func (.func 250) #[] #[pB a,pB k]] b λc=>Gc c k 170 λq=>Ks c a 23 λf=>R f.v c)):F 215 #[Q r] w R:=
 iI h
def aoi{s:Sl}{n:Int}(h:CU (λb=>lK (λe f=>R e.v f) λJ=>N (YR ((au U (n-(au U ((s.c:Int)-(s.n:Int)))))>0)) (∃k:Nat,((s.c:Int)=(k:Int)/\k<=s.c)/\∃l:Sl,∃c,((Builtin.append_ #[23,3] 23 #[(s.cut 0 k s.c 9).v,O U (au U (n-(au U ((s.c:Int)-(s.n:Int)))))]).run aq b)=(.ok l.v c)/\∃a:Nat,((s.n:Int)=(a:Int)/\a<=l.c)/\J (l.cut 0 a l.c 9) c) (J s b)) λd=>N (YR (n<0)) (False) (d w)):F 216 #[s.v,O U n] w R:=
 fC (.s .o (.j [0,1] [] .o (.j [] [.s 0 .sl] .o .o))) h
def afz{b:Addr}{s:D}(h:cU 252 #[Q b] w λa=>j9 a (b.add 1) λl=>LG (Builtin.append_ #[230,9] 230 #[l.v,ab s]) a λf c=>sT (b.add 1) c 1 λk d z e=>sS c k d z e [f.v] λg=>R (ai #[O U (s.size:Int),.nilIface]) g):F 217 #[Q b,ab s] w R:=
 iI h
def aoj{words:Sl}(h:cL 256 #[words.v,.func (.func 257) #[] #[]] w λl a=>cS 255 #[l.v,ab (ao #[32])] a λs b=>R (ab s) b):F 219 #[words.v] w R:=
 iI h
def aok{s:D}(i:z w λk c=>jn3 (λf u r q=>R (aj f) q) λJ=>N ((!(s.toList==((ao #[]).toList)))&&(YR ((s.size:Int)<=24))) (∃c0:UInt8,((0:Int)<=0/\s[0]? =(aN c0))/\lf [k] 207 #[.int .u8 (UInt8.toNat c0:Int)] c λg a=>N g (aG a k 210 [ab s,O U 0]->cS 244 #[pB k] a λn b=>Xh b k 210 λo j=>N (n.toList==s.toList) (cL 152 #[] b λm d=>Xh d k 210 λv t=>cB 245 #[m.v,ab s] d λh e=>Xh e k 210 λp l=>J (!h) p l e) (J aM o j b)) (J aM s 0 a)) (J aM s 0 c)):F 220 #[ab s] w R:=
 fC (.d 2 (.s (.j [3] [.s 2 .bool,.b 3 [.str,G]] .o .o) .o)) i
def aol{p:Addr}{deep:Int}{word t:D}(h:N (!(t.toList==((ao #[]).toList))) (∃l:Sl,∃a,((av 80 2 #[.mk 0 (ab word),.mk 1 (ab t)]).run aq w)=(.ok l.v a)/\cU 171 #[Q p,O U deep,l.v] a λb=>R (ai #[]) b) (R (ai #[]) w)):F 222 #[Q p,O U deep,ab word,ab t] w R:=
 iI h
def aom{p:Addr}{l:Sl}(j:N ((l.n:Int)==0) (R (ab (ao #[])) w) (gw w (p.add 3) λm=>sT (p.add 3) w 1 λv x z0 y=>sS w v x z0 y [O U (au U (m+(l.n:Int)))] λe=>gw e (p.add 3) λn=>cU 170 #[Q p,aj (YR (n<=400))] e λW=>lH 80 (ab (ao #[123])) W λD X=>lK (λE Y=>lH 80 (ab (ao #[125])) Y λH Z=>po 80 E H Z λI w5=>cS 219 #[I.v] w5 λP w6=>R (ab P) w6) λJ=>Dk D 0 X λg A a i b=>N (YR (i<(l.n:Int))) (wR l i b λo S q r T s K t u=>z b λk c=>Oo c (p.add 2) λh=>N h (J a c) (rN [k] 259 #[Q p,mj o S q r T s K t u] c λV f=>lH 80 (ab V) f λL d=>cj [k] f d/\po 80 a L d λM B=>cj [k] d B/\nx A λC=>g C M (au U (i+1)) B)) (J a b))):F 223 #[Q p,l.v] w R:=
 fC (.d 5 (.j [] [.s 5 .sl] (.s .o (.j [0,28,29] [.s 5 .sl,.s 30 G] .o .o)) .o)) j
def aon{p:Addr}{h:Int}{a:D}{m:Int}{i:M}{b c:Int}{d:D}{e:Int}{f:Sl}{g:Int}{K B:Sl}{l:Int}(X:z w λk o=>lK (λs0 w1=>gn [k] 170 #[Q p,aj (((a.toList==((ao #[]).toList))||(h==1))&&((m==0)||(h==3)))] w1 λv=>lK (λs1 w3=>nW 0 w3 λE k2 n j=>N (YR (n<(B.n:Int))) (IJ B n j λs2=>rN [k] 172 #[Q p,ab s2] j λs3 w5=>nx k2 λk3=>E k3 (au U (n+1)) w5) (lK (λs4 w6=>rN [k] 223 #[Q p,K.v] w6 λs5 x=>W2 80 (ab s0) (ab s1) (ab s5) (ab s4) x λl0 y=>cj [k] x y/\rN [k] 219 #[l0.v] y λt w9=>((t.size:Int)+1)<=9223372036854775807/\R (ab (t++(ao #[59]))) w9) λr=>N (YR ((B.n:Int)>0)) (rN [k] 255 #[B.v,ab (ao #[44,32])] j λu S=>(3+(u.size:Int))<=9223372036854775807/\r ((ao #[45,62,32])++u) S) (r (ao #[]) j))) λq=>N i (rN [k] 260 #[Q p,bT b c d e f g] v λs P=>(1+(s.size:Int))<=9223372036854775807/\((((ao #[91])++s).size:Int)+1)<=9223372036854775807/\q (((ao #[91])++s)++(ao #[93])) P) (gn [k] 261 #[Q p,bT b c d e f g] v λT=>q (ao #[]) T)) λJ=>N (h==1) (rN [k] 172 #[Q p,ab a] o λs9 Y=>N1 80 (ab (ao #[111,110])) (ab s9) Y λl1 V=>cj [k] Y V/\rN [k] 219 #[l1.v] V λA W=>J A W) (N (h==3) (gn [k] 170 #[Q p,aj (YR (m>=0))] o λZ=>rN [k] 173 #[O U m] Z λC L=>N1 80 (ab (ao #[97,102,116,101,114])) (ab C) L λl2 H=>cj [k] L H/\rN [k] 219 #[l2.v] H λI kf=>J I kf) (gn [k] 170 #[Q p,aj (h==2)] o λj8=>J (ao #[97,108,119,97,121,115]) j8))):F 224 #[Q p,gZ h a m i b c d e f g K B l] w R:=
 fC (.d 2 (.j [0,3] [.s 5 .str] .o (.d 2 (.j [0,3,5,7] [.s 6 .str] .o (.s (.s .o (.j [0,3,5,6,7,70,71] [.s 72 G] .o .o)) (.j [0,3,5,6] [.s 7 .str] .o .o)))))) X
def aoo{p:Addr}{n:Int}{y u e:D}{G H v o:Sl}{I deep:Int}(W:z w λk b=>Oo b (p.add 2) λM=>N (M||(YR (deep>=12))) (gn [k] 170 #[Q p,aj aM] b λw1=>R (ai #[]) w1) (LG (av 80 5 #[.mk 0 (ab (ao #[])),.mk 1 (ab (ao #[115,116,97,116,101])),.mk 2 (ab (ao #[112,97,114,97,108,108,101,108])),.mk 3 (ab (ao #[104,105,115,116,111,114,121])),.mk 4 (ab (ao #[100,101,101,112]))]) b λB j=>cj [k] b j/\lK (λP l=>N P (gn [k] 170 #[Q p,aj (e.toList==((ao #[]).toList))] l λw4=>o0 w4 λm=>∃a:A,a k/\∃p0,cK B n 1 p0/\a p0.block/\Eu m p0 λs0=>rN [k] 172 #[Q p,ab y] m λs1 c=>bX a m c/\Oj 80 (ab s0) (ab s1) (ab (ao #[123])) c λZ d=>cj [k] c d/\bX a c d/\gn [k] 171 #[Q p,O U deep,Z.v] d λK=>bX a d K/\gn [k] 174 #[Q p,cF n y u e G H v o I,O U (au U (deep+1))] K λL=>lH 80 (ab (ao #[125])) L λl2 s=>cj [k] L s/\gn [k] 171 #[Q p,O U deep,l2.v] s λT=>R (ai #[]) T) (lK (λS t=>N S (gn [k] 170 #[Q p,aj ((u.toList==((ao #[]).toList))&&((au U ((au U ((au U ((G.n:Int)+(H.n:Int)))+(v.n:Int)))+(o.n:Int)))==0))] t λY=>o0 Y λV=>∃J:A,J k/\∃h,cK B n 1 h/\J h.block/\Eu V h λs2=>J k/\rN [k] 172 #[Q p,ab y] V λs3 f=>bX J V f/\rN [k] 172 #[Q p,ab e] f λE i=>bX J f i/\((E.size:Int)+1)<=9223372036854775807/\∃C:Sl,∃g,((av 80 4 #[.mk 0 (ab s2),.mk 1 (ab s3),.mk 2 (ab (ao #[45,62])),.mk 3 (ab (E++(ao #[59])))]).run aq i)=(.ok C.v g)/\cj [k] i g/\bX J i g/\gn [k] 171 #[Q p,O U deep,C.v] g λx=>bX J g x/\R (ai #[]) x) (gn [k] 170 #[Q p,aj aM] t λX=>R (ai #[]) X)) λr=>N (n==3) (r (n==3) l) (r (n==4) l))) λq=>N (n==1) (q (n==1) j) (q (n==2) j))):F 225 #[Q p,cF n y u e G H v o I,O U deep] w R:=
 fC (.d 4 (.j [0,2,4,6,19] [.s 22 .bool] .o (.s .o (.j [0,2,4,6] [.s 52 .bool] .o .o)))) W
def afA{b:Addr}(R:aH)(w:aw)(h:j9 w (b.add 1) λl=>R (O U (l.n:Int)) w):F 226 #[Q b] w R:=
 iI h
def avr{s:D}(h:N ((s.toList==((ao #[]).toList))||(YR ((s.size:Int)>24))) (R (aj aM) w) (∃c0:UInt8,((0:Int)<=0/\s[0]? =(aN c0))/\cB 262 #[.int .u8 (UInt8.toNat c0:Int)] w λb e=>cB 263 #[ab s] e λc a=>lK (λd f=>R (aj d) f) λJ=>N (b&&(!c)) (cI 264 #[ab s,O U 0] a λi g=>J (i==(s.size:Int)) g) (J aM a))):F 227 #[ab s] w R:=
 fC (.d 4 (.s (.j [] [.s 2 .bool] .o .o) .o)) h
def aop{n:Addr}{x:Int}{y b m:D}{o p c d:Sl}{x8 deep:Int}(T:z w λk h=>gw h (n.add 0) λV=>sT (n.add 0) h 1 λt k2 z0 k3=>k≠t/\sS h t k2 z0 k3 [O U (au U (V+1))] λw1=>lf [k] 227 #[ab y] w1 λq a=>∃s,(((!q)||(YR (deep>=12)))=aM->aD a (n.add 0) [O U s])/\N (((!q)||(YR (deep>=12)))||(YR (s>64))) (R (aj aM) a) (N ((x==3)||(x==4)) (lf [k] 227 #[ab m] a λC w3=>R (aj (((((C&&(b.toList==((ao #[]).toList)))&&((o.n:Int)==0))&&((p.n:Int)==0))&&((c.n:Int)==0))&&((d.n:Int)==0))) w3) (lK (λE w4=>lf [k] 265 #[Q n,o.v] w4 λH w5=>lf [k] 265 #[Q n,p.v] w5 λI u=>N ((((((x !=1)&&(x !=2))||(!(m.toList==((ao #[]).toList))))||(!E))||(!H))||(!I)) (R (aj aM) u) (nW 0 u λA k5 g j=>N (YR (g<(c.n:Int))) (iY c g j λW s0 X K Y Z s1 i7 l0 i8 l1 l2 i9=>lf [k] 266 #[Q n,gZ W s0 X K Y Z s1 i7 l0 i8 l1 l2 i9] j λL v=>N (!L) (R (aj aM) v) (nx k5 λk6=>A k6 (au U (g+1)) v)) (nW 0 j λB k8 i l=>N (YR (i<(d.n:Int))) (gP d i l λe s2 s3 s4 l3 l4 l5 l6 f=>lf [k] 228 #[Q n,cF e s2 s3 s4 l3 l4 l5 l6 f,O U (au U (deep+1))] l λM r=>N (!M) (R (aj aM) r) (nx k8 λk9=>B k9 (au U (i+1)) r)) (R (aj aF) l)))) λJ=>N (!(b.toList==((ao #[]).toList))) (lf [k] 227 #[ab b] a λP S=>J P S) (J (b.toList==((ao #[]).toList)) a)))):F 228 #[Q n,cF x y b m o p c d x8,O U deep] w R:=
 fC (.d 6 (.j [0,2,4] [.s 9 .bool] .o (.d 3 (.s (.s .o (.j [0,2,4] [.s 12 G] .o .o)) (.s (.s .o (.j [0,2,4] [.s 14 G] .o .o)) .o))))) T
def avs{u:Int}(j:N (u==0) (R (ab (ao #[])) w) (lK (λk m=>R (ab k) m) λf=>o0 w λb=>∃J:A,(cS 229 #[.int .u64 (au .u64 (u.tdiv 10))] b λs d=>bX J b d/\∃g:Sl,∃c,((av 230 1 #[.mk 0 (.int .u8 (au .u8 (au .u64 (48+(u.tmod 10)))))]).run aq d)=(.ok g.v c)/\bX J d c/\∃z:C,vW c g z/\((s.size:Int)+((ao z.toArray).size:Int))<=9223372036854775807/\f (s++(ao z.toArray)) c)/\∃l:Sl,∃a,((av 230 1 #[.mk 0 (.int .u8 (au .u8 (au .u64 (48+(u.tmod 10)))))]).run aq b)=(.ok l.v a)/\bX J b a/\∃e:C,(∀p0,l.a=(aN p0)->J p0.block)/\vW a l e/\cS 229 #[.int .u64 (au .u64 (u.tdiv 10))] a λh i=>bX J a i/\((h.size:Int)+((ao e.toArray).size:Int))<=9223372036854775807/\f (h++(ao e.toArray)) i)):F 229 #[.int .u64 u] w R:=
 fC (.d 2 (.s (.j [] [.s 2 .str] .o .o) .o)) j
def aoq(n:Int)(R:aH)(w:aw)(h:N (YR (n<0)) (R (.int .u64 (au .u64 ((au .u64 (au U (0-(au U (n+1)))))+1))) w) (R (.int .u64 (au .u64 n)) w)):F 230 #[O U n] w R:=
 iI h
def aor{l:Sl}(h:Dk (ao #[123]) 0 w λJ k s i a=>N (YR (i<(l.n:Int))) (((s.size:Int)+1)<=9223372036854775807/\wR l i a λc o d e p f n g j=>cS 267 #[mj c o d e p f n g j] a λb q=>(((s++(ao #[32])).size:Int)+(b.size:Int))<=9223372036854775807/\nx k λm=>J m ((s++(ao #[32]))++b) (au U (i+1)) q) (((s.size:Int)+2)<=9223372036854775807/\R (ab (s++(ao #[32,125]))) a)):F 231 #[l.v] w R:=
 fC (.d 2 (.s (.s .o (.j [0] [.s 3 .str,.s 4 G] .o .o)) .o)) h
def aos(o:Int)(m:D)(a:Int)(b:M)(c d:Int)(e:D)(f:Int)(g:Sl)(h:Int)(K B:Sl)(l:Int)(R:aH)(C:aw)(S:z C λn E=>lK (λV H=>lK (λi I=>lK (λk L=>lK (λW X=>Dk W 0 X λQ T s j w=>N (YR (j<(B.n:Int))) (lK (λv P=>IJ B j P λx=>((v.size:Int)+(x.size:Int))<=9223372036854775807/\nx T λk3=>Q k3 (v++x) (au U (j+1)) P) λu=>N (j==0) (((s.size:Int)+4)<=9223372036854775807/\u (s++(ao #[32,45,62,32])) w) (((s.size:Int)+2)<=9223372036854775807/\u (s++(ao #[44,32])) w)) (((s.size:Int)+1)<=9223372036854775807/\R (ab (s++(ao #[59]))) w)) λt=>N (YR ((K.n:Int)>0)) (((k.size:Int)+1)<=9223372036854775807/\rN [n] 231 #[K.v] L λy Y=>(((k++(ao #[32])).size:Int)+(y.size:Int))<=9223372036854775807/\t ((k++(ao #[32]))++y) Y) (t k L)) λr=>N b (((i.size:Int)+2)<=9223372036854775807/\rN [n] 268 #[bT c d e f g h] I λp Z=>(((i++(ao #[32,91])).size:Int)+(p.size:Int))<=9223372036854775807/\((((i++(ao #[32,91]))++p).size:Int)+1)<=9223372036854775807/\r (((i++(ao #[32,91]))++p)++(ao #[93])) Z) (r i I)) λq=>N (o==3) (rN [n] 182 #[O U a] H λA w9=>(6+(A.size:Int))<=9223372036854775807/\q ((ao #[97,102,116,101,114,32])++A) w9) (q V H)) λJ=>N (o==1) ((3+(m.size:Int))<=9223372036854775807/\J ((ao #[111,110,32])++m) E) (J (ao #[97,108,119,97,121,115]) E)):F 232 #[gZ o m a b c d e f g h K B l] C R:=
 fC (.d 2 (.j [1] [.s 3 .str] .o (.j [1] [.s 3 .str] .o (.j [1] [.s 3 .str] .o (.j [1] [.s 3 .str] .o (.s (.s .o (.j [1] [.s 3 .str,.s 4 G] (.s .o (.s (.j [1,4] [.s 3 .str] .o .o) .o)) .o)) .o)))))) S
def aot{p:Addr}{x:Int}{a d b:D}{e f g h:Sl}{i deep:Int}(j:z w λk c=>CU (λl=>gn [k] 183 #[Q p,cF x a d b e f g h i,O U (au U (deep+1))] l λm=>gn [k] 181 #[Q p,O U deep,ab (ao #[125])] m λn=>R (ai #[]) n) λJ=>N (x==3) ((8+(a.size:Int))<=9223372036854775807/\((((ao #[104,105,115,116,111,114,121,32])++a).size:Int)+4)<=9223372036854775807/\(((((ao #[104,105,115,116,111,114,121,32])++a)++(ao #[32,45,62,32])).size:Int)+(b.size:Int))<=9223372036854775807/\((((((ao #[104,105,115,116,111,114,121,32])++a)++(ao #[32,45,62,32]))++b).size:Int)+1)<=9223372036854775807/\gn [k] 181 #[Q p,O U deep,ab (((((ao #[104,105,115,116,111,114,121,32])++a)++(ao #[32,45,62,32]))++b)++(ao #[59]))] c λo=>R (ai #[]) o) (N (x==4) ((5+(a.size:Int))<=9223372036854775807/\((((ao #[100,101,101,112,32])++a).size:Int)+4)<=9223372036854775807/\(((((ao #[100,101,101,112,32])++a)++(ao #[32,45,62,32])).size:Int)+(b.size:Int))<=9223372036854775807/\((((((ao #[100,101,101,112,32])++a)++(ao #[32,45,62,32]))++b).size:Int)+1)<=9223372036854775807/\gn [k] 181 #[Q p,O U deep,ab (((((ao #[100,101,101,112,32])++a)++(ao #[32,45,62,32]))++b)++(ao #[59]))] c λq=>R (ai #[]) q) (N (x==1) ((6+(a.size:Int))<=9223372036854775807/\((((ao #[115,116,97,116,101,32])++a).size:Int)+2)<=9223372036854775807/\gn [k] 181 #[Q p,O U deep,ab (((ao #[115,116,97,116,101,32])++a)++(ao #[32,123]))] c λr=>J r) ((9+(a.size:Int))<=9223372036854775807/\((((ao #[112,97,114,97,108,108,101,108,32])++a).size:Int)+2)<=9223372036854775807/\gn [k] 181 #[Q p,O U deep,ab (((ao #[112,97,114,97,108,108,101,108,32])++a)++(ao #[32,123]))] c λs=>J s)))):F 233 #[Q p,cF x a d b e f g h i,O U deep] w R:=
 fC (.s .o (.j [0,2,4] [] .o .o)) j
def aou{k:Addr}{name:D}(h:nW 0 w λJ b i a=>j9 a ((k.add 0).add 0) λl=>N (YR (i<(l.n:Int))) (j9 a ((k.add 0).add 0) λd=>∃p0,cK d i 3 p0/\Eu a (p0.add 0) λs=>N (s.toList==name.toList) (R (aj aF) a) (nx b λc=>J c (au U (i+1)) a)) (R (aj aM) a)):F 234 #[Q k,ab name] w R:=
 fC (.s .o (.s (.s .o (.j [0,1] [.s 5 G] .o .o)) .o)) h
def aov{k:Addr}{name:D}(h:j9 w (k.add 10) λl=>cI 39 #[l.v,ab name] w λi a=>lK (λb f=>R (aj b) f) λJ=>N (YR (i>=0)) (j9 a (k.add 10) λe=>∃p0,cK e i 5 p0/\gw a (p0.add 0) λd=>cB 109 #[O U d] a λc g=>J (!c) g) (J aM a)):F 235 #[Q k,ab name] w R:=
 fC (.d 2 (.s (.j [] [.s 4 .bool] .o .o) .o)) h
def aow{l n:Sl}(s:Dk (-1) 0 w λq v i a m=>N ((YR (a<(l.n:Int)))&&(YR ((n.n:Int)>0))) (lK (λt A=>nx v λx=>q x t (au U (a+1)) A) λJ=>Dk aF 0 m λr y b d c=>N (YR (d<(n.n:Int))) (yu n d c λu=>cB 54 #[l.v,O U u,O U a] c λe o=>∃p,(b=aF->e=aM->cK n d 1 p)/\∃f,(b=aF->e=aM->aD o p [O U f])/\nx y λz=>r z (b&&(e||(f==a))) (au U (d+1)) o) (∃j,(b=aF->(YR (i<0))=aM->cK l a 5 j)/\∃g,(b=aF->(YR (i<0))=aM->aD c (j.add 3) [O U g])/\∃k,(b=aF->(YR (i<0))=aM->cK l i 5 k)/\∃h,(b=aF->(YR (i<0))=aM->aD c (k.add 3) [O U h])/\N (b&&((YR (i<0))||(YR (g>h)))) (o0 c λB=>J a B) (o0 c λC=>J i C))) (R (O U i) m)):F 236 #[l.v,n.v] w R:=
 fC (.d 2 (.s (.s .o (.j [0,1] [.s 5 G,.s 6 G] (.s .o (.j [0,1,6] [.s 5 G] (.s .o (.s (.s .o (.j [0,1,5,6] [.s 7 .bool,.s 8 G] .o .o)) .o)) .o)) .o)) .o)) s
def aox{s:Sl}{v:Int}(h:cI 270 #[s.v,.int .u8 v] w λi a=>R (aj (YR (i>=0))) a):F 241 #[s.v,.int .u8 v] w R:=
 iI h
def avt{s t:D}(R:aH)(w:aw)(h:∃k:Nat,((YR ((s.size:Int)>=(t.size:Int)))=aF->(t.size:Int)=(k:Int)/\k<=s.size)/\R (aj ((YR ((s.size:Int)>=(t.size:Int)))&&(((s.extract 0 k).toList)==t.toList))) w):F 242 #[ab s,ab t] w R:=
 iI h
def avu{s e:D}(R:aH)(w:aw)(h:cI 271 #[ab s,ab e] w λi b=>N (YR (i>=0)) (∃k:Nat,(i=(k:Int)/\k<=s.size)/\∃a:Nat,((au U (i+(e.size:Int)))=(a:Int)/\a<=s.size)/\o0 b λc=>R (ai #[ab (s.extract 0 k),ab (s.extract a s.size),aj aF]) c) (R (ai #[ab s,ab (ao #[]),aj aM]) b)):F 243 #[ab s,ab e] w R:=
 iI h
def aoy{c:Addr}(k:cS 205 #[Q c] w λs n=>nW 0 n λf l i b=>lK (λg d=>N g (nx l λm=>f m (au U (i+1)) d) (∃k3:Nat,(i=(k3:Int)/\k3<=s.size)/\R (ab (s.extract 0 k3)) d)) λJ=>N (YR (i<(s.size:Int))) (∃c0:UInt8,(0<=i/\(s[Int.toNat i]?)=(aN c0))/\cB 207 #[.int .u8 (UInt8.toNat c0:Int)] b λh e=>N h (J aF e) (∃a:UInt8,(0<=i/\(s[Int.toNat i]?)=(aN a))/\cB 209 #[.int .u8 (UInt8.toNat a:Int)] e λj o=>J j o)) (J aM b)):F 244 #[Q c] w R:=
 fC (.d 3 (.s (.j [3] [.s 4 G] (.s (.s (.j [3,4] [.s 22 .bool] .o .o) .o) .o) .o) .o)) k
def aoz{s:Sl}{v:D}(h:cI 212 #[s.v,ab v] w λi a=>R (aj (YR (i>=0))) a):F 245 #[s.v,ab v] w R:=
 iI h
def afB(s:D)(R:aH)(w:aw)(h:cS 272 #[ab s] w λa b=>R (ab a) b):F 246 #[ab s] w R:=
 iI h
def v0w{s:D}(l:nW 0 w λg n i d=>lK (λh a=>N h (nx n λo=>g o (au U (i+1)) a) (N (s.toList==((ao #[]).toList)) (R (ai #[O U 0,O U 0,O U 3]) a) (lK (λj e=>N j (R (ai #[O U 0,O U 0,O U 4]) e) (∃k3:Nat,(i=(k3:Int)/\k3<=s.size)/\afv 274 #[ab (s.extract 0 k3),O U 10,O U 64] e λm v f=>Zr v.v/\N (!(W5 v.v)) (R (ai #[O U 0,O U 0,O U 20]) f) (R (ai #[O U m,O U i,O U 0]) f))) λb=>N (i==0) (b (i==0) a) (∃c0:UInt8,((YR (i>1))=aF->(0:Int)<=0/\s[0]? =(aN c0))/\b ((YR (i>1))&&((UInt8.toNat c0:Int)==48)) a)))) λJ=>N (YR (i<(s.size:Int))) (∃c:UInt8,(0<=i/\(s[Int.toNat i]?)=(aN c))/\cB 273 #[.int .u8 (UInt8.toNat c:Int)] d λk p=>J k p) (J aM d)):F 247 #[ab s] w R:=
 fC (.d 2 (.s (.j [0] [.s 5 G] (.s (.s (.j [0,5] [.s 17 .bool] .o .o) .o) .o) .o) (.s (.d 2 (.j [0,5] [.s 23 .bool] .o .o)) .o))) l
def aoA{c:Addr}(C:z w λk M=>lf [k] 122 #[Q c] M λx r=>N (!x) (∀t,az [k] r t->R (bT 0 0 (ao #[]) 0 Sl.nil 0) t) (o0 r λh=>∃J:A,o0 h λu=>J ((c.add 0).block)/\j9 u (c.add 0) λL=>o0 u λv=>J ((c.add 1).block)/\gw v (c.add 1) λD=>o0 v λb=>oh [k] 275 #[L.v,O U D] b λl m s n q o E p G d=>qR h b d/\bX J b d/\o0 d λi=>∀a,h.heap.size<=a->a<i.heap.size->Ep [.mk b.heap.size d.heap.size] a->N (p !=0) (∀j,az [a,k] i j->sT (c.add 2) j 2 λf k3 P H=>k≠f/\a≠f/\sS j f k3 P H [O U p,O U G] λy=>∀B,az [k] y B->R (bT l m s n q o) B) (∀e,az [a,k] i e->sT (c.add 1) e 1 λg I S K=>k≠g/\a≠g/\sS e g I S K [O U E] λY=>∀V,az [k] Y V->R (bT l m s n q o) V))):F 248 #[Q c] w R:=
 fC (.d 2 (.s (.l aM [] []) .o)) C
def aoB(r:Addr){sign:D}(read:OV){R:aH}(w:aw)(h:lp0 w λe j m=>lK (λf a=>N f (∃k:Nat,∃z d,read.v=(.func (.func k) z.toArray d.toArray)/\(∀x:Array ay,∀b,((callFunc k x).run aq b)=(.ok (.enter k x) b))/\cU k ((za (za z []) d).toArray) a λn=>nx j λk3=>e k3 n) (R (ai #[]) a)) λJ=>cB 122 #[Q (r.add 0)] m λg c=>N g (lH 80 (ab sign) c λl o=>cI 119 #[Q (r.add 0),l.v] o λi p=>J (i==0) p) (J aM c)):F 249 #[Q r,ab sign,read.v] w R:=
 fB (an:=.j [0,1,2] [] (.s (.s (.j [0,1,2] [.s 18 .bool] .o .o) .o) .o) .o) (args:=[.ad r,.str sign,.raw read]) h
def aoC{i t:Addr}(h:o0 w λa=>∃J:A,J i.block/\j9 a i λp=>Ow a t λu=>rE0 251 #[ae u] a λe v f g x j q k l b=>bX J a b/\lH 23 (mj e v f g x j q k l) b λr c=>bX J b c/\po 23 p r c λs d=>bX J c d/\sT i d 1 λm n z o=>sS d m n z o [s.v] λy=>R (ai #[]) y):F 250 #[Q i,Q t] w R:=
 iI h
def aoD{r:Addr}(am:z w λa e=>∃J:A,o0 e λX=>J (((r.add 0).add 0).block)/\j9 X ((r.add 0).add 0) λl0=>o0 X λY=>J (((r.add 0).add 1).block)/\gw Y ((r.add 0).add 1) λi0=>∃p0,cK l0 i0 4 p0/\o0 Y λZ=>J ((p0.add 3).block)/\gw Z (p0.add 3) λd=>o0 Z λb=>Oj 80 (ab (ao #[115,101,116])) (ab (ao #[114,97,105,115,101])) (ab (ao #[101,109,105,116])) b λl1 c=>cj [a] b c/\qR e b c/\bX J b c/\o0 c λg=>oT [a] 160 #[Q (r.add 0),l1.v] g λi h=>qR e g h/\bX J g h/\o0 h λt=>∀k,e.heap.size<=k->k<t.heap.size->Ep [.mk g.heap.size h.heap.size,.mk b.heap.size c.heap.size] k->N (i==0) (∀w9,az [k] t w9->gn [a,k] 123 #[Q (r.add 0)] w9 λdq=>∀B,az [a] dq B->R (mj i (ao #[]) 0 0 (ao #[]) 0 Sl.nil 0 d) B) (∀y,az [k] t y->gn [a,k] 157 #[Q r,Q ((r.add 4).add 4),O U 2] y λeY=>lf [a,k] 122 #[Q (r.add 0)] eY λb0 f=>N (!b0) (∀T,az [a] f T->R (mj i (ao #[]) 0 0 (ao #[]) 0 Sl.nil 0 d) T) (gw f ((r.add 0).add 1) λi3=>sT ((r.add 0).add 1) f 1 λq k3 z0 k4=>a≠q/\k≠q/\sS f q k3 z0 k4 [O U (au U (i3+1))] λiE=>rN [a,k] 214 #[Q (r.add 0)] iE λP gL=>∀j,az [k] gL j->∃l:Int->D->Int->Int->D->Int->Sl->Int->Int->aw->Prop,(∀u S v x V C,∀K:Sl,∀E H s,l u S v x V C K E H s->lH 80 (ab (ao #[59])) s λl3 I=>cj [a,k] s I/\gn [a,k] 117 #[Q (r.add 0),l3.v] I λmB=>∀L,az [a] mB L->R (mj u S v x V C K E H) L)/\N (i !=2) (lH 80 (ab (ao #[61])) j λl4 W=>cj [a,k] j W/\gn [a,k] 117 #[Q (r.add 0),l4.v] W λqK=>fW [a,k] 248 #[Q (r.add 0)] qK λm n s3 o l5 p pI=>∀M,az [k] pI M->l i P m n s3 o l5 p d M) (l i P 0 0 (ao #[]) 0 Sl.nil 0 d j)))):F 251 #[Q r] w R:=
 fC (.s .o (.s (.l aM [] []) (.d 4 (.j [0,2,3] [.b 3 [G,.str,G,G,.str,G,.sl,G,G]] .o .o)))) am
def afC{b:Addr}(h:Ow w (b.add 0) λl=>N l.isNone (∃v:OV,∃e,((convert 229 318 (Q b)).run aq w)=(.ok v.v e)/\∃d:OV,∃f,((T4 276 #[v.v]).run aq e)=(.ok d.v f)/\∃q a,((convert 318 229 d.v).run aq f)=(.ok (ae q) a)/\sT (b.add 0) a 1 λk i z j=>sS a k i z j [ae q] λn=>R (ai #[]) n) (Ow w (b.add 0) λm=>∃c g,((binOp .neq 229 (ae m) (Q b)).run aq w)=(.ok (aj c) g)/\N c (False) (R (ai #[]) g))):F 252 #[Q b] w R:=
 iI h
def aoE(s:Sl)(d:OV)(R:aH)(g:aw)(q:cI 280 #[s.v,d.v] g λa h=>N (a==(-1)) (R s.v h) (Dk a (au U (a+1)) h λn t i b w=>N (YR (b<(s.n:Int))) (lK (λr B=>nx t λu=>n u r (au U (b+1)) B) λJ=>IJ s b w λf=>∃k3:Nat,∃z m,d.v=(.func (.func k3) z.toArray m.toArray)/\(∀x:Array ay,∀j,((callFunc k3 x).run aq j)=(.ok (.enter k3 x) j))/\cB k3 ((za (za z [ab f]) m).toArray) w λo e=>N (!o) (∃p,cK s i 1 p/\sT p e 1 λv y D A=>sS e v y D A [ab f] λC=>J (au U (i+1)) C) (J i e)) (∃k:Nat,(i=(k:Int)/\k<=s.n/\s.n<=s.c)/\∃l,((Builtin.clear_ #[80] 0 #[(s.cut k s.n s.c 1).v]).run aq w)=(.ok (ai #[]) l)/\∃c:Nat,(i=(c:Int)/\c<=s.c)/\R ((s.cut 0 c s.c 1).v) l))):F 256 #[s.v,d.v] g R:=
 fB (an:=.d 3 (.s (.s .o (.j [0,1] [.s 5 (.int .i64),.s 6 (.int .i64)] (.s .o (.j [0,1,6] [.s 5 (.int .i64)] .o .o)) .o)) .o)) (args:=[.sl s,.raw d]) q
def aoF{s:D}(h:R (aj (s.toList==((ao #[]).toList))) w):F 257 #[ab s] w R:=
 iI h
def aoG{p:Addr}{f:Int}{G:D}{a b:Int}{V:D}{c:Int}{d:Sl}{e l:Int}(C:z w λk v=>W2 80 (ab (ao #[])) (ab (ao #[115,101,116])) (ab (ao #[114,97,105,115,101])) (ab (ao #[101,109,105,116])) v λs h=>cj [k] v h/\N ((YR (f<1))||(YR (f>3))) (gn [k] 170 #[Q p,aj aM] h λS=>R (ab (ao #[])) S) (N (f==2) (gn [k] 261 #[Q p,bT a b V c d e] h λT=>o0 T λn=>∃g:A,g k/\∃p0,cK s f 1 p0/\g p0.block/\Eu n p0 λI=>rN [k] 172 #[Q p,ab G] n λK i=>bX g n i/\N1 80 (ab I) (ab K) i λE j=>cj [k] i j/\bX g i j/\rN [k] 219 #[E.v] j λt x=>bX g j x/\((t.size:Int)+1)<=9223372036854775807/\R (ab (t++(ao #[59]))) x) (o0 h λo=>∃J:A,J k/\∃m,cK s f 1 m/\J m.block/\Eu o m λL=>J k/\rN [k] 172 #[Q p,ab G] o λM r=>bX J o r/\rN [k] 260 #[Q p,bT a b V c d e] r λP q=>bX J r q/\W2 80 (ab L) (ab M) (ab (ao #[61])) (ab P) q λH B=>cj [k] q B/\bX J q B/\rN [k] 219 #[H.v] B λu y=>bX J B y/\((u.size:Int)+1)<=9223372036854775807/\R (ab (u++(ao #[59]))) y))):F 259 #[Q p,mj f G a b V c d e l] w R:=
 iI C
def aoH{p:Addr}{x a:Int}{b:D}{c:Int}{d:Sl}{e:Int}(h:z w λk f=>rN [k] 282 #[bT x a b c d e] f λs g=>gn [k] 170 #[Q p,aj (!(s.toList==((ao #[]).toList)))] g λi=>R (ab s) i):F 260 #[Q p,bT x a b c d e] w R:=
 iI h
def aoI{p:Addr}{x a:Int}{b:D}{c:Int}{d:Sl}{g:Int}(h:z w λk e=>gn [k] 170 #[Q p,aj (((((x==0)&&(a==0))&&(b.toList==((ao #[]).toList)))&&(c==0))&&((d.n:Int)==0))] e λf=>R (ai #[]) f):F 261 #[Q p,bT x a b c d g] w R:=
 iI h
def avv{c:Int}(h:R (aj ((((YR (c>=65))&&(YR (c<=90)))||((YR (c>=97))&&(YR (c<=122))))||(c==95))) w):F 262 #[.int .u8 c] w R:=
 iI h
def avw{s:D}(h:cL 283 #[] w λl d=>nW 0 d λJ k i a=>N (YR (i<(l.n:Int))) (IJ l i a λc=>N (c.toList==s.toList) (R (aj aF) a) (nx k λb=>J b (au U (i+1)) a)) (R (aj aM) a)):F 263 #[ab s] w R:=
 fC (.d 2 (.s (.s .o (.j [0,3] [.s 4 G] .o .o)) .o)) h
def avx{s:D}{at_:Int}(h:lK (λg l=>R (O U g) l) λJ=>nW 0 w λd k i a=>N (YR ((au U (at_+i))<(s.size:Int))) (∃c0:UInt8,(0<=(au U (at_+i))/\(s[Int.toNat (au U (at_+i))]?)=(aN c0))/\cB 262 #[.int .u8 (UInt8.toNat c0:Int)] a λe m=>∃c:UInt8,(0<=(au U (at_+i))/\(s[Int.toNat (au U (at_+i))]?)=(aN c))/\cB 284 #[.int .u8 (UInt8.toNat c:Int)] m λf b=>N ((!e)&&(!f)) (J i b) (nx k λj=>d j (au U (i+1)) b)) (J i a)):F 264 #[ab s,O U at_] w R:=
 fC (.d 2 (.j [] [.s 5 G] (.j [0,1] [.s 5 G] .o .o) .o)) h
def aoJ{n:Addr}{l:Sl}(y:nW 0 w λs I i a=>N (YR (i<(l.n:Int))) (gw a (n.add 2) λz=>sT (n.add 2) a 1 λK k3 Y L=>sS a K k3 Y L [O U (au U (z+1))] λq=>∃p0,cK l i 9 p0/\Eu q (p0.add 1) λT=>cB 227 #[ab T] q λt r=>∃p,cK l i 9 p/\kH r (p.add 2) λA B V C P D=>cB 285 #[bT A B V C P D] r λu b=>lK (λv c=>∃j,cK l i 9 j/\gw c (j.add 0) λg=>∃k,((YR (g<1))=aM->cK l i 9 k)/\∃h,((YR (g<1))=aM->aD c (k.add 0) [O U h])/\N ((((YR (g<1))||(YR (h>3)))||(!t))||(!v)) (R (aj aM) c) (nx I λM=>s M (au U (i+1)) c)) λJ=>∃m,cK l i 9 m/\gw b (m.add 0) λE=>N (E==2) (∃o,cK l i 9 o/\kH b (o.add 2) λH d W e S f=>cB 286 #[bT H d W e S f] b λx X=>J x X) (J u b)) (R (aj aF) a)):F 265 #[Q n,l.v] w R:=
 fC (.s .o (.s (.s .o (.j [0,1] [.s 5 G] (.s .o (.s (.d 3 (.j [0,1,5,6] [.s 7 .bool] .o .o)) .o)) .o)) .o)) y
def aoK{n:Addr}{h:Int}{m:D}{a:Int}{i:M}{b c:Int}{d:D}{e:Int}{f:Sl}{g:Int}{K B:Sl}{j:Int}(L:z w λk o=>gw o (n.add 1) λP=>sT (n.add 1) o 1 λr S z0 k3=>k≠r/\sS o r S z0 k3 [O U (au U (P+1))] λs=>lK (λx X=>lf [k] 286 #[bT b c d e f g] X λy t=>lK (λA Y=>lf [k] 265 #[Q n,K.v] Y λC Z=>nW 0 Z λv T l p=>N (YR (l<(B.n:Int))) (IJ B l p λW=>lf [k] 227 #[ab W] p λE u=>N (!E) (R (aj aM) u) (nx T λV=>v V (au U (l+1)) u)) (R (aj ((((((YR (h>=1))&&(YR (h<=3)))&&x)&&A)&&C)&&((a==0)||((h==3)&&(YR (a>0)))))) p)) λq=>N i (lf [k] 285 #[bT b c d e f g] t λH w8=>q H w8) (q y t)) λJ=>N (h==1) (lf [k] 227 #[ab m] s λI w9=>J I w9) (J (m.toList==((ao #[]).toList)) s)):F 266 #[Q n,gZ h m a i b c d e f g K B j] w R:=
 fC (.d 3 (.j [0,3] [.s 5 .bool] .o (.s .o (.j [0,3,5] [.s 6 .bool] .o (.s .o (.s (.s .o (.j [3,5,6,7] [.s 8 G] .o .o)) .o)))))) L
def aoL{f:Int}{G:D}{a b:Int}{V:D}{c:Int}{d:Sl}{e g:Int}(p:N (f==1) (z w λk l=>∃J:A,J k/\(4+(G.size:Int))<=9223372036854775807/\((((ao #[115,101,116,32])++G).size:Int)+3)<=9223372036854775807/\rN [k] 268 #[bT a b V c d e] l λs m=>bX J l m/\(((((ao #[115,101,116,32])++G)++(ao #[32,61,32])).size:Int)+(s.size:Int))<=9223372036854775807/\((((((ao #[115,101,116,32])++G)++(ao #[32,61,32]))++s).size:Int)+1)<=9223372036854775807/\R (ab (((((ao #[115,101,116,32])++G)++(ao #[32,61,32]))++s)++(ao #[59]))) m) (N (f==2) ((6+(G.size:Int))<=9223372036854775807/\((((ao #[114,97,105,115,101,32])++G).size:Int)+1)<=9223372036854775807/\z w λr q=>R (ab (((ao #[114,97,105,115,101,32])++G)++(ao #[59]))) q) (z w λj n=>∃i:A,i j/\(5+(G.size:Int))<=9223372036854775807/\((((ao #[101,109,105,116,32])++G).size:Int)+3)<=9223372036854775807/\rN [j] 268 #[bT a b V c d e] n λh o=>bX i n o/\(((((ao #[101,109,105,116,32])++G)++(ao #[32,61,32])).size:Int)+(h.size:Int))<=9223372036854775807/\((((((ao #[101,109,105,116,32])++G)++(ao #[32,61,32]))++h).size:Int)+1)<=9223372036854775807/\R (ab (((((ao #[101,109,105,116,32])++G)++(ao #[32,61,32]))++h)++(ao #[59]))) o))):F 267 #[mj f G a b V c d e g] w R:=
 iI p
def aoM{x a:Int}{b:D}{c:Int}{d:Sl}{e:Int}(h:z w λk f=>W8 [k] 287 #[bT x a b c d e] f λs i g=>R (ab s) g):F 268 #[bT x a b c d e] w R:=
 iI h
def aoN{s:Sl}{v:Int}(h:nW 0 w λJ k i a=>N (YR (i<(s.n:Int))) (∃p0,cK s i 1 p0/\∃b,aD a p0 [.int .u8 b]/\N (v==b) (R (O U i) a) (nx k λc=>J c (au U (i+1)) a)) (R (O U (-1)) a)):F 270 #[s.v,.int .u8 v] w R:=
 fC (.s .o (.s (.s .o (.j [0,1,7] [.s 8 G] .o .o)) .o)) h
def v2w{c:Int}(h:R (aj (YR ((au .u8 (c-48))<10))) w):F 273 #[.int .u8 c] w R:=
 iI h
def avy{l:Sl}{at_:Int}(v:zH w λa b T=>oT [a,b] 294 #[l.v,.func (.func 295) #[] #[]] T λx n=>N (((YR (at_<0))||(YR (at_>=(l.n:Int))))||(x !=(au U ((l.n:Int)-1)))) (∀o,az [b,a] n o->R (ai #[bT 0 0 (ao #[]) 0 Sl.nil 0,O U 0,yw 1 (-1)]) o) (wP [a,b] 296 #[] n λL V=>z V λk p=>aG p k 337 [l.v,O U at_,O U 0,O U 0,O U 0,L.v]->fW [a,b] 297 #[pB k,O U 0] p λy C S D M E r=>agK r k 337 λP G H I K Q=>z r λk3 s=>aG s k 337 [P.v,O U G,O U H,O U I,O U K,Q.v]->lf [a,b,k3] 298 #[pB k] s λu j=>agK j k 337 λf e i c d g=>N u (o0 j λt=>aG t k 337 [f.v,O U e,O U i,O U c,O U d,g.v]->a≠b->a≠k->a≠k3->b≠k->b≠k3->k≠k3->∃J:A,J k/\vt J a/\vt J b/\∀m,az [b,a] t m->aG m k 337 [f.v,O U e,O U i,O U c,O U d,g.v]->R (ai #[bT 0 0 (ao #[]) 0 Sl.nil 0,O U 0,yw i c]) m) (o0 j λq=>aG q k 337 [f.v,O U e,O U i,O U c,O U d,g.v]->a≠b->a≠k->a≠k3->b≠k->b≠k3->k≠k3->∃h:A,h k/\vt h a/\vt h b/\∀B,az [b,a] q B->aG B k 337 [f.v,O U e,O U i,O U c,O U d,g.v]->R (ai #[bT y C S D M E,O U e,yw 0 0]) B))):F 275 #[l.v,O U at_] w R:=
 iI v
def aoO(s:Sl)(f:OV)(R:aH)(a:aw)(h:nW 0 a λJ g i w=>N (YR (i<(s.n:Int))) (IJ s i w λj=>∃k:Nat,∃z d,f.v=(.func (.func k) z.toArray d.toArray)/\(∀x:Array ay,∀b,((callFunc k x).run aq b)=(.ok (.enter k x) b))/\cB k ((za (za z [ab j]) d).toArray) w λe c=>N e (R (O U i) c) (nx g λk3=>J k3 (au U (i+1)) c)) (R (O U (-1)) w)):F 280 #[s.v,f.v] a R:=
 fB (an:=.s .o (.s (.s .o (.j [0,1,7] [.s 8 (.int .i64)] .o .o)) .o)) (args:=[.sl s,.raw f]) h
def avz{x c:Int}{d:D}{e:Int}{f:Sl}{g:Int}(t:z w λa E=>lf [a] 304 #[bT x c d e f g] E λs i=>N (!s) (R (ab (ao #[])) i) (wP [a] 296 #[] i λA G=>z G λk j=>aG j k 346 [ae Pw,Sl.nil.v,A.v]->gn [a] 305 #[pB k,bT x c d e f g,aj aM] j λm=>Q9 m k 346 λW O P=>rN [a] 176 #[pB k] m λB n=>Q9 n k 346 λX Q S=>agR [a] 306 #[ab B] n λH I Y J T K u L b=>Q9 b k 346 λq l h=>N (u !=0) (zH b λM k3 o=>aG o k 346 [ae q,l.v,h.v]->R (ab (ao #[])) o) (zH b λv y p=>aG p k 346 [ae q,l.v,h.v]->rN [a,v,y] 176 #[pB k] p λC r=>Q9 r k 346 λq3 U V=>R (ab C) r))):F 282 #[bT x c d e f g] w R:=
 iI t
def avA(h:∃l:Sl,∃a,((av 80 16 #[.mk 0 (ab (ao #[97,102,116,101,114])),.mk 1 (ab (ao #[97,108,119,97,121,115])),.mk 2 (ab (ao #[99,104,97,114,116])),.mk 3 (ab (ao #[100,101,101,112])),.mk 4 (ab (ao #[101,109,105,116])),.mk 5 (ab (ao #[101,110,116,101,114])),.mk 6 (ab (ao #[104,105,115,116,111,114,121])),.mk 7 (ab (ao #[105,110])),.mk 8 (ab (ao #[105,110,105,116,105,97,108])),.mk 9 (ab (ao #[108,101,97,118,101])),.mk 10 (ab (ao #[111,110])),.mk 11 (ab (ao #[112,97,114,97,108,108,101,108])),.mk 12 (ab (ao #[114,97,105,115,101])),.mk 13 (ab (ao #[115,101,116])),.mk 14 (ab (ao #[115,116,97,116,101])),.mk 15 (ab (ao #[118,97,114]))]).run aq w)=(.ok l.v a)/\R l.v a):F 283 #[] w R:=
 iI h
def avB{c:Int}(h:R (aj ((YR (c>=48))&&(YR (c<=57)))) w):F 284 #[.int .u8 c] w R:=
 iI h
def aoP{x a:Int}{b:D}{c:Int}{d:Sl}{e:Int}(h:z w λk g=>W8 [k] 287 #[bT x a b c d e] g λs f i=>R (aj f) i):F 285 #[bT x a b c d e] w R:=
 iI h
def aoQ{x a:Int}{b:D}{c:Int}{d:Sl}{f:Int}(h:z w λk e=>R (aj (((((x==0)&&(a==0))&&(b.toList==((ao #[]).toList)))&&(c==0))&&((d.n:Int)==0))) e):F 286 #[bT x a b c d f] w R:=
 iI h
def avC{x b:Int}{c:D}{d:Int}{e:Sl}{f:Int}(q:z w λa H=>lf [a] 307 #[bT x b c d e f] H λo j=>N (!o) (R (ai #[ab (ao #[]),aj aM]) j) (z j λk l=>aG l k 352 [Sl.nil.v]->gn [a] 308 #[pB k,bT x b c d e f] l λh=>Ks h k 352 λA=>∃g:C,vW h A g/\agR [a] 309 #[ab (ao g.toArray)] h λr s G t B u v I m=>Ks m k 352 λE=>zH m λy k3 n=>aG n k 352 [E.v]->lf [a,y,k3] 310 #[bT x b c d e f,bT r s G t B u,aj aM] n λp i=>Ks i k 352 λJ=>N (((YR (((ao g.toArray).size:Int)>16384))||(v !=0))||(!p)) (R (ai #[ab (ao #[]),aj aM]) i) (R (ai #[ab (ao g.toArray),aj aF]) i))):F 287 #[bT x b c d e f] w R:=
 iI q
def aoR(s:Sl)(f:OV){R:aH}(a:aw)(h:nW 0 a λJ m i w=>N (YR (i<(s.n:Int))) (niV s i w λg n j l=>∃k:Nat,∃z d,f.v=(.func (.func k) z.toArray d.toArray)/\(∀x:Array ay,∀b,((callFunc k x).run aq b)=(.ok (.enter k x) b))/\cB k ((za (za z [nT g n j l]) d).toArray) w λe c=>N e (R (O U i) c) (nx m λk3=>J k3 (au U (i+1)) c)) (R (O U (-1)) w)):F 294 #[s.v,f.v] a R:=
 fB (an:=.s .o (.s (.s .o (.j [0,1,7] [.s 8 (.int .i64)] .o .o)) .o)) (args:=[.sl s,.raw f]) h
def avD(t:Int){a:D}(b c:Int){R:aH}(w:aw)(h:z w λk d=>R (aj (t==5)) d):F 295 #[nT t a b c] w R:=
 iI h
def avE(h:∃l:Sl,∃a,((av 80 16 #[.mk 1 (ab (ao #[43])),.mk 2 (ab (ao #[45])),.mk 3 (ab (ao #[42])),.mk 4 (ab (ao #[47])),.mk 5 (ab (ao #[37])),.mk 6 (ab (ao #[60])),.mk 7 (ab (ao #[60,61])),.mk 8 (ab (ao #[62])),.mk 9 (ab (ao #[62,61])),.mk 10 (ab (ao #[61,61])),.mk 11 (ab (ao #[33,61])),.mk 12 (ab (ao #[38,38])),.mk 13 (ab (ao #[124,124])),.mk 14 (ab (ao #[45])),.mk 15 (ab (ao #[33]))]).run aq w)=(.ok l.v a)/\R l.v a):F 296 #[] w R:=
 iI h
def aoS{r:Addr}{k:Int}{R:aH}(q:aw)(C:N (k==6) (z q λu w0=>fW [u] 318 #[Q r] w0 λE H s0 I l0 K w1=>∀A,az [u] w1 A->R (bT E H s0 I l0 K) A) (z q λd w3=>fW [d] 297 #[Q r,O U (au U (k+1))] w3 λL M s1 P l1 S w4=>z w4 λe w5=>oT [d,e] 319 #[Q r,O U k] w5 λT w6=>∃J:Nat->Int->Int->Int->D->Int->Sl->Int->aw->Prop,∃k3:Nat,J k3 T L M s1 P l1 S w6/\∀v n a b s c,∀p:Sl,∀i w,J v n a b s c p i w->N (n !=0) (gw w ((r.add 0).add 1) λf=>sT ((r.add 0).add 1) w 1 λo W z0 X=>d≠o/\e≠o/\sS w o W z0 X [O U (au U (f+1))] λw8=>fW [d,e] 297 #[Q r,O U (au U (k+1))] w8 λg h s3 j l3 l w9=>z w9 λx t=>N1 77 (bT a b s c p i) (bT g h s3 j l3 l) t λl4 B=>cj [d,e,x] t B/\∀y,az [e] B y->oT [d,e,x] 319 #[Q r,O U k] y λm Y=>nx v λZ=>J Z m 5 0 (ao #[]) n l4 i Y) (∀V,az [d] w V->R (bT a b s c p i) V))):F 297 #[Q r,O U k] q R:=
 fC (.d 3 (.s (.s .o (.j [0,1,4,5] [.s 6 G,.b 5 [G,G,.str,G,.sl,G]] .o .o)) .o)) C
def avF{c:Addr}{R:aH}(w:aw)(h:gw w ((c.add 2).add 0) λi=>R (aj (i !=0)) w):F 298 #[Q c] w R:=
 iI h
def avG{x d:Int}{e:D}{c:Int}{i:Sl}{a:Int}(E:zH w λf k g=>∃J:Int->Int->Int->D->Int->Sl->Int->aw->Prop,(∀m H n s o,∀L:Sl,∀I h,J m H n s o L I h->lK (λy M=>R (aj y) M) λj=>N ((((d==n)&&(e.toList==s.toList))&&(c==o))&&((i.n:Int)==m)) (lf [f,k] 325 #[i.v,.func (.func 326) #[] #[]] h λz P=>j (!z) P) (j aM h))/\N (x==1) (∀p,az [k] g p->J 0 x (if 0>d then 0 else d) (ao #[]) 0 Sl.nil a p) (lK (λA b=>N A (lf [f,k] 220 #[ab e] b λC r=>N (!C) (R (aj aM) r) (∀t,az [k] r t->J 0 x 0 e 0 Sl.nil a t)) (N (x==4) (N (c==15) (∀u,az [k] b u->J 1 x 0 (ao #[]) 15 Sl.nil a u) (∀v,az [k] b v->J 1 x 0 (ao #[]) 14 Sl.nil a v)) (N (x==5) (oT [f,k] 324 #[O U c] b λK q=>N (K==6) (R (aj aM) q) (∀B,az [k] q B->J 2 x 0 (ao #[]) c Sl.nil a B)) (R (aj aM) b)))) λl=>N (x==2) (l (x==2) g) (l (x==3) g))):F 304 #[bT x d e c i a] w R:=
 fC (.d 3 (.j [1,3] [.s 4 G,.b 3 [G,G,.str,G,.sl,G]] (.d 3 (.j [1,3,4,11] [.s 18 .bool] .o .o)) (.s (.j [1,3] [.s 2 .bool] .o .o) .o))) E
def avH(p:Addr)(x o:Int)(b:D)(e:Int)(a:Sl)(x5:Int)(wrapped:M)(R:aH)(AT:aw)(Bv:z AT λk w0=>oT [k] 226 #[Q (p.add 0)] w0 λi0 h=>N (YR (i0>16384)) (R (ai #[]) h) (N wrapped (rVs [k] 327 #[Q (p.add 0),.int .u8 40] h λv0 s=>N (x==1) (o0 s λw3=>rN [k] 173 #[O U o] w3 λs0 w4=>tI [k] 217 #[Q (p.add 0),ab s0] w4 λi1 v1 w5=>nG aq 327 #[Q (p.add 0),.int .u8 41] w5 (λx0 w6=>R (ai #[]) w6)) (N (x==2) (o0 s λw7=>tI [k] 217 #[Q (p.add 0),ab b] w7 λi2 v2 w8=>nG aq 327 #[Q (p.add 0),.int .u8 41] w8 (λo w9=>R (ai #[]) w9)) (N (x==3) ((3+(b.size:Int))<=9223372036854775807/\((((ao #[105,110,40])++b).size:Int)+1)<=9223372036854775807/\o0 s λdq=>tI [k] 217 #[Q (p.add 0),ab (((ao #[105,110,40])++b)++(ao #[41]))] dq λi3 v3 dB=>nG aq 327 #[Q (p.add 0),.int .u8 41] dB (λb ey=>R (ai #[]) ey)) (N (x==4) (o0 s λY=>j9 Y (p.add 2) λl0=>IJ l0 e Y λs1=>tI [k] 217 #[Q (p.add 0),ab s1] Y λi4 v4 fV=>o0 fV λT=>∃J:A,J k/\∃p1,cK a 0 6 p1/\J p1.block/\kH T p1 λi5 i6 s2 i7 l1 i8=>kO a 0 T λi9 L s3 P l2 S=>oT [k] 328 #[bT i9 L s3 P l2 S] T λV iE=>bX J T iE/\gn [k] 305 #[Q p,bT i5 i6 s2 i7 l1 i8,aj (YR (V<6))] iE λgL=>bX J iE gL/\nG aq 327 #[Q (p.add 0),.int .u8 41] gL (λe jH=>R (ai #[]) jH)) (oT [k] 328 #[bT x o b e a x5] s λq kf=>o0 kf λH=>∃y:A,y k/\∃p3,cK a 0 6 p3/\y p3.block/\kH H p3 λW X s4 Z l3 am=>kO a 0 H λaC aS s5 aT l4 bv=>oT [k] 328 #[bT aC aS s5 aT l4 bv] H λbV mB=>bX y H mB/\gn [k] 305 #[Q p,bT W X s4 Z l3 am,aj (YR (bV<q))] mB λoH=>bX y mB oH/\o0 oH λsM=>j9 sM (p.add 2) λl5=>IJ l5 e sM λs6=>(1+(s6.size:Int))<=9223372036854775807/\((((ao #[32])++s6).size:Int)+1)<=9223372036854775807/\tI [k] 217 #[Q (p.add 0),ab (((ao #[32])++s6)++(ao #[32]))] sM λBy v5 qK=>o0 qK λI=>∃B:A,B k/\∃p6,cK a 1 6 p6/\B p6.block/\kH I p6 λbY cc s7 ce l6 co=>kO a 1 I λcC dO s8 el l7 eQ=>oT [k] 328 #[bT cC dO s8 el l7 eQ] I λfd ry=>bX B I ry/\gn [k] 305 #[Q p,bT bY cc s7 ce l6 co,aj (YR (fd<=q))] ry λuZ=>bX B ry uZ/\nG aq 327 #[Q (p.add 0),.int .u8 41] uZ (λa we=>R (ai #[]) we)))))) (N (x==1) (o0 h λCN=>rN [k] 173 #[O U o] CN λs9 P7=>tI [k] 217 #[Q (p.add 0),ab s9] P7 λBV v6 KD=>R (ai #[]) KD) (N (x==2) (o0 h λZZ=>tI [k] 217 #[Q (p.add 0),ab b] ZZ λBY v7 ut=>R (ai #[]) ut) (N (x==3) ((3+(b.size:Int))<=9223372036854775807/\((((ao #[105,110,40])++b).size:Int)+1)<=9223372036854775807/\o0 h λuP=>tI [k] 217 #[Q (p.add 0),ab (((ao #[105,110,40])++b)++(ao #[41]))] uP λCc v8 wd=>R (ai #[]) wd) (N (x==4) (o0 h λi=>j9 i (p.add 2) λl8=>IJ l8 e i λHU=>tI [k] 217 #[Q (p.add 0),ab HU] i λCC v9 As=>o0 As λw=>∃C:A,C k/\∃p9,cK a 0 6 p9/\C p9.block/\kH w p9 λf5 f6 HV f7 l9 f8=>kO a 0 w λgE gG NI gO rx gT=>oT [k] 328 #[bT gE gG NI gO rx gT] w λg8 j=>bX C w j/\gn [k] 305 #[Q p,bT f5 f6 HV f7 l9 f8,aj (YR (g8<6))] j λt=>bX C j t/\R (ai #[]) t) (oT [k] 328 #[bT x o b e a x5] h λr AC=>o0 AC λc=>∃E:A,E k/\∃f,cK a 0 6 f/\E f.block/\kH c f λg9 ip P8 iD qJ iF=>kO a 0 c λiN iS P9 lE qy lT=>oT [k] 328 #[bT iN iS P9 lE qy lT] c λmt l=>bX E c l/\gn [k] 305 #[Q p,bT g9 ip P8 iD qJ iF,aj (YR (mt<r))] l λu=>bX E l u/\o0 u λm=>j9 m (p.add 2) λtT=>IJ tT e m λK=>(1+(K.size:Int))<=9223372036854775807/\((((ao #[32])++K).size:Int)+1)<=9223372036854775807/\tI [k] 217 #[Q (p.add 0),ab (((ao #[32])++K)++(ao #[32]))] m λDo DO AS=>o0 AS λd=>∃G:A,G k/\∃g,cK a 1 6 g/\G g.block/\kH d g λmK nO Z9 oF B6 oN=>kO a 1 d λoR pi tO pm C2 pP=>oT [k] 328 #[bT oR pi tO pm C2 pP] d λrg n=>bX G d n/\gn [k] 305 #[Q p,bT mK nO Z9 oF B6 oN,aj (YR (rg<=r))] n λv=>bX G n v/\R (ai #[]) v))))))):F 305 #[Q p,bT x o b e a x5,aj wrapped] AT R:=
 iI Bv
def avI{s:D}(E:zH w λk a T=>Bs [k,a] 116 #[ab s] T λm o H r=>N (o !=0) (z r λl V=>k≠a->k≠l->a≠l->∃J:A,J l/\vt J k/\vt J a/\∀t,az [a,k] V t->R (ai #[bT 0 0 (ao #[]) 0 Sl.nil 0,yw o H]) t) (z r λk3 W=>oh [k,a,k3] 275 #[m.v,O U 0] W λI K S L Q M p e P u=>∀b c,u.heap.size<=b->b<c.heap.size->az [k3] u c->WR (λj i v=>N (j !=0) (o0 v λX=>k≠a->k≠k3->k≠b->a≠k3->a≠b->k3≠b->∃f:A,f k3/\vt f k/\vt f a/\∀x,az [a,k] X x->R (ai #[bT 0 0 (ao #[]) 0 Sl.nil 0,yw j i]) x) (o0 v λC=>k≠a->k≠k3->k≠b->a≠k3->a≠b->k3≠b->∃g:A,g k3/\vt g k/\vt g a/\∀B,az [a,k] C B->R (ai #[bT I K S L Q M,yw j i]) B)) λn=>∃p0,((e==0)=aF->cK m p 4 p0)/\∃d,((e==0)=aF->aD c (p0.add 0) [O U d])/\N ((e==0)&&(d !=5)) (∃q,cK m p 4 q/\gw c (q.add 3) λh=>∀y,az [k3] c y->n 4 h y) (n e P c))):F 306 #[ab s] w R:=
 fC (.d 4 (.j [2,3,5,6] [.b 5 [G,G]] .o .o)) E
def aoT{x b:Int}{c:D}{d:Int}{a:Sl}{l:Int}(r:z w λk E=>nW 0 E λm A i f=>N (YR (i<(a.n:Int))) (kO a i f λs t C u B v=>lf [k] 307 #[bT s t C u B v] f λn j=>N (!n) (R (aj aM) j) (nx A λk3=>m k3 (au U (i+1)) j)) (lf [k] 227 #[ab c] f λo g=>N (x==1) (R (aj ((((YR (b>=0))&&(c.toList==((ao #[]).toList)))&&(d==0))&&((a.n:Int)==0))) g) (lK (λp e=>N p (R (aj ((((b==0)&&o)&&(d==0))&&((a.n:Int)==0))) e) (N (x==4) (R (aj ((((b==0)&&(c.toList==((ao #[]).toList)))&&((d==14)||(d==15)))&&((a.n:Int)==1))) e) (N (x==5) (lK (λq H=>R (aj q) H) λh=>N ((b==0)&&(c.toList==((ao #[]).toList))) (oT [k] 329 #[bT x b c d a l] e λy I=>h ((YR (y<6))&&((a.n:Int)==2)) I) (h aM e)) (R (aj aM) e)))) λJ=>N (x==2) (J (x==2) g) (J (x==3) g)))):F 307 #[bT x b c d a l] w R:=
 fC (.s .o (.s (.s .o (.j [1] [.s 3 G] .o .o)) (.d 2 (.s (.d 3 (.j [1,5,6,29] [.s 49 .bool] .o (.d 4 (.s (.s (.j [1] [.s 2 .bool] .o .o) .o) .o)))) .o)))) r
def aoU{p:Addr}{x T:Int}{c:D}{h:Int}{b:Sl}{x5:Int}(am:z w λk a=>j9 a (p.add 0) λl0=>N (YR ((l0.n:Int)>16384)) (R (ai #[]) a) (N (x==1) (rN [k] 182 #[O U T] a λs0 w1=>gn [k] 330 #[Q p,ab s0] w1 λw2=>R (ai #[]) w2) (N (x==2) (gn [k] 330 #[Q p,ab c] a λw3=>R (ai #[]) w3) (N (x==3) ((3+(c.size:Int))<=9223372036854775807/\((((ao #[105,110,40])++c).size:Int)+1)<=9223372036854775807/\gn [k] 330 #[Q p,ab (((ao #[105,110,40])++c)++(ao #[41]))] a λw4=>R (ai #[]) w4) (N (x==4) (CU (λw5=>∃p0,cK b 0 6 p0/\o0 w5 λS=>kH S p0 λi0 i1 s1 i2 l1 i3=>∃p1,cK b 0 6 p1/\gw S (p1.add 0) λi4=>gn [k] 331 #[Q p,bT i0 i1 s1 i2 l1 i3,aj (i4==5)] S λw7=>R (ai #[]) w7) λV=>N (h==14) (gn [k] 330 #[Q p,ab (ao #[45])] a λw8=>V w8) (gn [k] 330 #[Q p,ab (ao #[33])] a λw9=>V w9)) (N (x==5) (oT [k] 329 #[bT x T c h b x5] a λg dq=>wP [k] 332 #[] dq λl2 X=>Ra l2 g X λl3=>o0 X λe=>∃J:A,J k/\∃L,cK b 0 6 L/\J L.block/\kH e L λi6 i7 s2 i8 l4 i9=>kO b 0 e λj l s3 n l5 o=>oT [k] 329 #[bT j l s3 n l5 o] e λq Y=>bX J e Y/\gn [k] 331 #[Q p,bT i6 i7 s2 i8 l4 i9,aj (YR (q<g))] Y λZ=>bX J Y Z/\nW 0 Z λJ2 k2 i f=>N (YR (i<(l3.n:Int))) (CU (λiE=>nx k2 λk3=>J2 k3 (au U (i+1)) iE) λW=>yu l3 i f λr=>N (r==h) (o0 f λgL=>wP [k] 333 #[] gL λl6 I=>Ra l6 g I λl7=>IJ l7 i I λP=>(1+(P.size:Int))<=9223372036854775807/\((((ao #[32])++P).size:Int)+1)<=9223372036854775807/\gn [k] 330 #[Q p,ab (((ao #[32])++P)++(ao #[32]))] I λkf=>W kf) (o0 f λj8=>W j8)) (o0 f λm=>∃d:A,d k/\∃M,cK b 1 6 M/\d M.block/\kH m M λs t s5 u l8 v=>kO b 1 m λy B s6 C l9 E=>oT [k] 329 #[bT y B s6 C l9 E] m λH K=>bX d m K/\gn [k] 331 #[Q p,bT s t s5 u l8 v,aj (YR (H<=g))] K λsM=>bX d K sM/\R (ai #[]) sM)) (R (ai #[]) a))))))):F 308 #[Q p,bT x T c h b x5] w R:=
 fC (.d 10 (.s (.j [0,3] [] .o .o) (.s .o (.s (.d 3 (.s (.s .o (.j [0,3,4,5] [.s 6 G] (.s .o (.j [0,3,4,5,6] [] .o .o)) .o)) .o)) .o)))) am
def avJ{s:D}(x:zH w λk a P=>Bs [k,a] 334 #[ab s] P λl m y r=>N (m !=0) (z r λh Q=>k≠a->k≠h->a≠h->∃J:A,J h/\vt J k/\vt J a/\∀t,az [a,k] Q t->R (ai #[bT 0 0 (ao #[]) 0 Sl.nil 0,yw m y]) t) (z r λk3 S=>oh [k,a,k3] 335 #[l.v,O U 0] S λC E M G L H n o I e=>N (o !=0) (∀b j,e.heap.size<=b->b<j.heap.size->az [k3] e j->k≠a->k≠k3->k≠b->a≠k3->a≠b->k3≠b->∃f:A,f k3/\vt f k/\vt f a/\∀u,az [a,k] j u->R (ai #[bT 0 0 (ao #[]) 0 Sl.nil 0,yw o I]) u) (∃p0,cK l n 4 p0/\∀c d,e.heap.size<=c->c<d.heap.size->az [k3] e d->gw d (p0.add 0) λK=>N (K !=5) (o0 d λv=>k≠a->k≠k3->k≠c->a≠k3->a≠c->k3≠c->∃g:A,∃p,cK l n 4 p/\g ((p.add 3).block)/\gw v (p.add 3) λi=>vt g k/\vt g a/\∀q,az [a,k] v q->R (ai #[bT 0 0 (ao #[]) 0 Sl.nil 0,yw 4 i]) q) (∀B,az [a,k] d B->R (ai #[bT C E M G L H,yw 0 0]) B)))):F 309 #[ab s] w R:=
 iI x
def avK{k A:Int}{a:D}{c:Int}{V:Sl}{d l e:Int}{f:D}{g:Int}{b:Sl}{h:Int}{at_:M}(q:zH w λB C m=>N ((((((k !=l)||(A !=e))||(!(a.toList==f.toList)))||(c !=g))||(at_&&(d !=h)))||((V.n:Int) !=(b.n:Int))) (R (aj aM) m) (nW 0 m λJ k3 i n=>N (YR (i<(V.n:Int))) (∃p0,cK V i 6 p0/\o0 n λj=>kH j p0 λr s K t H u=>kO b i j λv x L y I z=>lf [B,C] 310 #[bT r s K t H u,bT v x L y I z,aj at_] j λp o=>N (!p) (R (aj aM) o) (nx k3 λE=>J E (au U (i+1)) o)) (R (aj aF) n))):F 310 #[bT k A a c V d,bT l e f g b h,aj at_] w R:=
 fC (.d 2 (.s (.s .o (.j [2,3,4] [.s 7 G] .o .o)) .o)) q
def avL(r:Addr)(R:aH)(am:aw)(aC:zH am λa k w0=>wS [a,k] 339 #[Q (r.add 0)] w0 λp K i1 i w1=>zH w1 λb k3 w2=>∃J:Option Addr->Int->Int->D->Int->Sl->Int->Int->Int->D->Int->Sl->Int->aw->Prop,(∀I i3 i4 s1 i5,∀l0:Sl,∀i6 Z i8 s2 i9,∀l1:Sl,∀c w,J I i3 i4 s1 i5 l0 i6 Z i8 s2 i9 l1 c w->∃p0,I=(aN p0)/\gw w ((p0.add 0).add 1) λs=>∃p1,I=(aN p1)/\sT ((p1.add 0).add 1) w 1 λj k5 z0 k6=>a≠j/\k≠j/\b≠j/\k3≠j/\sS w j k5 z0 k6 [O U (au U (s+1))] λw4=>∀w5,az [k] w4 w5->R (bT Z i8 s2 i9 l1 c) w5)/\lf [a,k,b,k3] 298 #[Q (r.add 0)] w2 λb0 L=>N b0 (∀w7,az [k] L w7->R (bT 0 0 (ao #[]) 0 Sl.nil i) w7) (N1 80 (ab (ao #[45])) (ab (ao #[33])) L λl2 w8=>cj [a,k,b,k3] L w8/\lf [a,k,b,k3] 340 #[Q (r.add 0),l2.v] w8 λb1 M=>N b1 (∀q,az [k3] M q->∃m:Int->Int->D->Int->Sl->Int->aw->Prop,(∀d e s3 f,∀l3:Sl,∀h T,m d e s3 f l3 h T->fW [a,k,b,k3] 341 #[Q r,.func (.func 318) #[Q r] #[]] T λt u s4 v l4 x V=>lH 77 (bT t u s4 v l4 x) V λl5 Y=>cj [a,k,b,k3] V Y/\∀X,az [k,k3] Y X->R (bT d e s3 f l5 h) X)/\N (K.toList==((ao #[33]).toList)) (∀W,az [k3] q W->m 4 0 (ao #[]) 15 Sl.nil i W) (m 4 0 (ao #[]) 14 Sl.nil i q)) (lH 80 (ab (ao #[40])) M λl6 iE=>cj [a,k,b,k3] M iE/\lf [a,k,b,k3] 340 #[Q (r.add 0),l6.v] iE λb2 g=>N b2 (aG g a 333 [Q r]->k≠a->b≠a->k3≠a->fW [k,b,k3] 341 #[Q r,.func (.func 342) #[] #[pB a]] g λy z s5 B l7 C jH=>Gc jH a 333 λq1=>∀H,az [k] jH H->aG H a 333 [ae q1]->R (bT y z s5 B l7 C) H) (N (p==3) (o0 g λj8=>a≠k->a≠b->a≠k3->k≠b->k≠k3->b≠k3->∃n:A,n b/\vt n k3/\vt n k3/\∀mB,az [k3] j8 mB->J (aN r) 0 0 (ao #[]) 0 Sl.nil 0 1 i1 (ao #[]) 0 Sl.nil i mB) (N (p==1) (o0 g λoH=>a≠k->a≠b->a≠k3->k≠b->k≠k3->b≠k3->∃o:A,o b/\vt o k3/\vt o k3/\∀sM,az [k3] oH sM->J (aN r) 0 0 (ao #[]) 0 Sl.nil 0 2 0 K 0 Sl.nil i sM) (N ((p==2)&&(K.toList==((ao #[105,110]).toList))) (gw g ((r.add 0).add 1) λE=>sT ((r.add 0).add 1) g 1 λl k8 z1 k9=>a≠l/\k≠l/\b≠l/\k3≠l/\sS g l k8 z1 k9 [O U (au U (E+1))] λqK=>gn [a,k,b,k3] 343 #[Q (r.add 0),ab (ao #[40])] qK λpI=>rN [a,k,b,k3] 344 #[Q r] pI λs6 ry=>∀uZ,az [k3] ry uZ->gn [a,k,b,k3] 343 #[Q (r.add 0),ab (ao #[41])] uZ λwe=>∀P,az [k] we P->R (bT 3 0 s6 0 Sl.nil i) P) (gn [a,k,b,k3] 345 #[Q (r.add 0)] g λP7=>∀S,az [k] P7 S->R (bT 0 0 (ao #[]) 0 Sl.nil i) S))))))):F 318 #[Q r] am R:=
 fC (.d 3 (.j [1,2,3,4] [.b 1 [.ptr],.b 2 [G,G,.str,G,.sl,G],.b 4 [G,G,.str,G,.sl,G]] (.d 3 (.s (.s .o (.j [1,2,3,4] [.b 4 [G,G,.str,G,.sl,G]] .o .o)) .o)) .o)) aC
def avM{r:Addr}{k:Int}(h:nW 1 w λd j i b=>N (YR (i<=13)) (lK (λe c=>N e (R (O U i) c) (nx j λl=>d l (au U (i+1)) c)) λJ=>o0 b λo=>cI 324 #[O U i] o λg a=>N (g==k) (j9 a (r.add 5) λm=>IJ m i a λs=>lH 80 (ab s) a λn p=>cB 340 #[Q (r.add 0),n.v] p λf q=>J f q) (J aM a)) (R (O U 0) b)):F 319 #[Q r,O U k] w R:=
 fC (.s .o (.s (.s .o (.j [0,1] [.s 5 G] (.s .o (.s (.s (.j [0,1,5] [.s 27 .bool] .o .o) .o) .o)) .o)) .o)) h
def avN{op:Int}(h:N ((YR (op>=3))&&(YR (op<=5))) (R (O U 5) w) (lK (λd a=>N d (R (O U 4) a) (N ((YR (op>=6))&&(YR (op<=9))) (R (O U 3) a) (lK (λe b=>N e (R (O U 2) b) (N (op==12) (R (O U 1) b) (N (op==13) (R (O U 0) b) (R (O U 6) b)))) λc=>N (op==10) (c (op==10) a) (c (op==11) a)))) λJ=>N (op==1) (J (op==1) w) (J (op==2) w))):F 324 #[O U op] w R:=
 fC (.s .o (.s (.d 2 (.j [0] [.s 10 .bool] .o (.d 3 (.j [0] [.s 22 .bool] .o .o)))) .o)) h
def aoV(s:Sl)(f:OV){R:aH}(w:aw)(h:cI 348 #[s.v,f.v] w λi a=>R (aj (YR (i>=0))) a):F 325 #[s.v,f.v] w R:=
 fB (an:=.o) (args:=[.sl s,.raw f]) h
def avO{e s:Int}{a:D}{b:Int}{c:Sl}{d:Int}(h:z w λk g=>lf [k] 304 #[bT e s a b c d] g λf i=>R (aj (!f)) i):F 326 #[bT e s a b c d] w R:=
 iI h
def Xc(b:Addr)(c:Int)(R:aH)(h:aw):Prop:=
 cU 252 #[Q b] h λw=>j9 w (b.add 1) λl=>lH 230 (.int .u8 c) w λf i=>po 230 l f i λg a=>sT (b.add 1) a 1 λk d z e=>sS a k d z e [g.v] λj=>R .nilIface j
def aoW{b:Addr}{c:Int}{R:aH}(w:aw)(h:Xc b c R w):F 327 #[Q b,.int .u8 c] w R:=
 iI h
def aab{b:Addr}{c:Int}{R:aH}(w:aw)(h:Xc b c R w):nG aq 327 #[Q b,.int .u8 c] w R:=
 amM (an:=.o) (args:=[.ad b,.int .u8 c]) Tryz.checked.mixed E E h
def avP{x e:Int}{f:D}{a:Int}{g:Sl}{j:Int}(h:N (x !=5) (z w λl b=>R (O U 6) b) (z w λk c=>oT [k] 324 #[O U a] c λi d=>R (O U i) d)):F 328 #[bT x e f a g j] w R:=
 iI h
def avQ{x u:Int}{v:D}{d:Int}{y:Sl}{A:Int}(h:z w λk q=>wP [k] 332 #[] q λl r=>nW 0 r λJ g i c=>N ((YR (i<6))&&(x==5)) (nW 0 c λe j b a=>Ra l i a λo=>N (YR (b<(o.n:Int))) (Ra l i a λp=>yu p b a λf=>N (f==d) (o0 a λs=>R (O U i) s) (o0 a λt=>nx j λm=>e m (au U (b+1)) t)) (nx g λn=>J n (au U (i+1)) a)) (R (O U 6) c)):F 329 #[bT x u v d y A] w R:=
 fC (.d 2 (.s (.s .o (.j [1,3] [.s 4 G] (.s .o (.s (.s .o (.j [1,3,4] [.s 5 G] .o .o)) .o)) .o)) .o)) h
def aoX{p:Addr}{s:D}(h:j9 w (p.add 0) λd=>N (YR ((d.n:Int)<=16384)) (j9 w (p.add 0) λe=>∃l:Sl,∃a,((Builtin.append_ #[230,9] 230 #[e.v,ab s]).run aq w)=(.ok l.v a)/\sT (p.add 0) a 1 λk b z c=>sS a k b z c [l.v] λf=>R (ai #[]) f) (R (ai #[]) w)):F 330 #[Q p,ab s] w R:=
 iI h
def aoY{p:Addr}{x c:Int}{d:D}{e:Int}{f:Sl}{g:Int}{i:M}(h:z w λk a=>CU (λj=>gn [k] 308 #[Q p,bT x c d e f g] j λb=>N i (gn [k] 330 #[Q p,ab (ao #[41])] b λl=>R (ai #[]) l) (R (ai #[]) b)) λJ=>N i (gn [k] 330 #[Q p,ab (ao #[40])] a λm=>J m) (J a)):F 331 #[Q p,bT x c d e f g,aj i] w R:=
 fC (.s .o (.j [0,2,4] [] .o .o)) h
def aoZ(h:∃l:Sl,∃a,((av 31 1 #[.mk 0 (O U 13)]).run aq w)=(.ok l.v a)/\lH 31 (O U 12) a λb i=>N1 31 (O U 10) (O U 11) i λc j=>W2 31 (O U 6) (O U 7) (O U 8) (O U 9) j λd k=>N1 31 (O U 1) (O U 2) k λe m=>Oj 31 (O U 3) (O U 4) (O U 5) m λf n=>LG (av 45 6 #[.mk 0 l.v,.mk 1 b.v,.mk 2 c.v,.mk 3 d.v,.mk 4 e.v,.mk 5 f.v]) n λg o=>R g.v o):F 332 #[] w R:=
 iI h
def ao0(h:∃l:Sl,∃a,((av 80 1 #[.mk 0 (ab (ao #[124,124]))]).run aq w)=(.ok l.v a)/\lH 80 (ab (ao #[38,38])) a λb i=>N1 80 (ab (ao #[61,61])) (ab (ao #[33,61])) i λc j=>W2 80 (ab (ao #[60])) (ab (ao #[60,61])) (ab (ao #[62])) (ab (ao #[62,61])) j λd k=>N1 80 (ab (ao #[43])) (ab (ao #[45])) k λe m=>Oj 80 (ab (ao #[42])) (ab (ao #[47])) (ab (ao #[37])) m λf n=>LG (av 370 6 #[.mk 0 l.v,.mk 1 b.v,.mk 2 c.v,.mk 3 d.v,.mk 4 e.v,.mk 5 f.v]) n λg o=>R g.v o):F 333 #[] w R:=
 iI h
def avR{s:D}(p:N (YR ((s.size:Int)>16384)) (z w λT M=>R (ai #[Sl.nil.v,yw 2 (-1)]) M) (z w λk P=>oT [k] 349 #[ab s,O U 0] P λq Q=>∃J:Nat->Sl->Int->Int->Int->aw->Prop,∃A:Nat,J A Sl.nil q 0 0 Q/\∀k3,∀l:Sl,∀i g h a,J k3 l i g h a->N (YR (i<(s.size:Int))) (afL [k] 350 #[ab s,O U i] a λr L t u v j c=>N (j !=0) (∀m e,c.heap.size<=m->m<e.heap.size->az [k] c e->R (ai #[Sl.nil.v,yw j i]) e) (z c λb n=>lH 167 (nT r L t u) n λE f=>cj [k,b] n f/\po 167 l E f λH o=>cj [k,b] f o/\oT [k,b] 349 #[ab s,O U (au U (i+v))] o λx S=>nx k3 λC=>J C H x g h S)) (lH 167 (nT 5 (ao #[]) 0 (s.size:Int)) a λI d=>cj [k] a d/\po 167 l I d λK B=>cj [k] d B/\∀y,az [k] B y->R (ai #[K.v,yw 0 0]) y))):F 334 #[ab s] w R:=
 fC (.d 4 (.s (.j [0,3] [.s 4 .sl,.s 5 G,.b 3 [G,G]] .o .o) .o)) p
def avS(l:Sl)(at_:Int)(R:aH)(p:aw)(P:N ((YR (at_<0))||(YR (at_>=(l.n:Int)))) (zH p λk0 k1 Z=>R (ai #[bT 0 0 (ao #[]) 0 Sl.nil 0,O U 0,yw 1 (-1)]) Z) (zH p λa k3 w1=>∃J:Nat->Int->Int->Int->D->Int->Sl->Int->Int->Int->aw->Prop,∃V:Nat,J V 0 0 0 (ao #[]) 0 Sl.nil 0 0 0 w1/\∀C e t u H v,∀E:Sl,∀x y B w,J C e t u H v E x y B w->N (YR (e<(l.n:Int))) (∃p0,cK l e 4 p0/\gw w (p0.add 0) λQ=>N (!((Q==5)==(e==(au U ((l.n:Int)-1))))) (∀I,az [k3,a] w I->R (ai #[bT 0 0 (ao #[]) 0 Sl.nil 0,O U 0,yw 1 (-1)]) I) (nx C λW=>J W (au U (e+1)) t u H v E x y B w)) (z w λk K=>aG K k 384 [l.v,O U at_,O U 0,O U 0,O U 0]->fW [a,k3] 351 #[pB k,O U 0] K λS T Y j X m q=>acO q k 384 λf b d i c=>N (i !=0) (z q λn L=>aG L k 384 [f.v,O U b,O U d,O U i,O U c]->a≠k3->a≠k->a≠n->k3≠k->k3≠n->k≠n->∃g:A,g k/\vt g a/\vt g k3/\∀r,az [k3,a] L r->aG r k 384 [f.v,O U b,O U d,O U i,O U c]->R (ai #[bT 0 0 (ao #[]) 0 Sl.nil 0,O U 0,yw i c]) r) (z q λo M=>aG M k 384 [f.v,O U b,O U d,O U i,O U c]->a≠k3->a≠k->a≠o->k3≠k->k3≠o->k≠o->∃h:A,h k/\vt h a/\vt h k3/\∀s,az [k3,a] M s->aG s k 384 [f.v,O U b,O U d,O U i,O U c]->R (ai #[bT S T Y j X m,O U b,yw 0 0]) s)))):F 335 #[l.v,O U at_] p R:=
 fC (.d 2 (.s (.s .o (.j [0,1,4,6] [.s 7 G,.b 4 [G,G,.str,G,.sl,G],.b 6 [G,G]] .o .o)) .o)) P
def avT{c:Addr}(h:z w λk a=>j9 a (c.add 0) λl=>gw a (c.add 1) λi=>niV l i a λd s e f=>∀b,az [k] a b->R (nT d s e f) b):F 339 #[Q c] w R:=
 iI h
def avU{c:Addr}{a:Sl}(h:Ae 339 #[Q c] w λi s n o g=>z g λk j=>lK (λd l=>R (aj d) l) λJ=>lf [k] 298 #[Q c] j λe b=>N ((!e)&&(i==4)) (lf [k] 245 #[a.v,ab s] b λf m=>J f m) (J aM b)):F 340 #[Q c,a.v] w R:=
 fC (.d 2 (.s (.j [5] [.s 4 .bool] .o .o) .o)) h
def avV(r:Addr)(read:OV)(R:aH)(g:aw)(n:z g λk w=>gw w (r.add 4) λo=>N (o==20) (gn [k] 352 #[Q (r.add 0),O U 21] w λJ=>∀h,az [k] J h->R (bT 0 0 (ao #[]) 0 Sl.nil 0) h) (gw w ((r.add 0).add 1) λp=>sT ((r.add 0).add 1) w 1 λe A P k3=>k≠e/\sS w e A P k3 [O U (au U (p+1))] λc=>gw c (r.add 4) λq=>sT (r.add 4) c 1 λf B S C=>k≠f/\sS c f B S C [O U (au U (q+1))] λK=>∃a:Nat,∃l m,read.v=(.func (.func a) l.toArray m.toArray)/\(∀x:Array ay,∀i,((callFunc a x).run aq i)=(.ok (.enter a x) i))/\fW [k] a ((za (za l []) m).toArray) K λs t I u E v L=>z L λD d=>gw d (r.add 4) λy=>sT (r.add 4) d 1 λb G T H=>k≠b/\D≠b/\sS d b G T H [O U (au U (y-1))] λM=>∀j,az [k] M j->R (bT s t I u E v) j)):F 341 #[Q r,read.v] g R:=
 fB (an:=.o) (args:=[.ad r,.raw read]) n
def avW(i:Addr){R:aH}(w:aw)(h:z w λk a=>Ow a i λq=>fW [k] 297 #[ae q,O U 0] a λd e s f l g n=>z n λj b=>Ow b i λm=>∃p0,m=(aN p0)/\gn [k,j] 343 #[Q (p0.add 0),ab (ao #[41])] b λo=>∀c,az [k] o c->R (bT d e s f l g) c):F 342 #[Q i] w R:=
 iI h
def avX{c:Addr}{sign:D}(h:∃l:Sl,∃b,((av 80 1 #[.mk 0 (ab sign)]).run aq w)=(.ok l.v b)/\cB 340 #[Q c,l.v] b λd a=>N (!d) (cU 345 #[Q c] a λg=>R (ai #[]) g) (gw a (c.add 1) λi=>sT (c.add 1) a 1 λk e z f=>sS a k e z f [O U (au U (i+1))] λj=>R (ai #[]) j)):F 343 #[Q c,ab sign] w R:=
 iI h
def avY(r:Addr)(R:aH)(b:aw)(h:Ae 339 #[Q (r.add 0)] b λi s n o f=>z f λk g=>lf [k] 298 #[Q (r.add 0)] g λc w=>N (c||(i !=1)) (gn [k] 345 #[Q (r.add 0)] w λj=>R (ab (ao #[])) j) (gw w ((r.add 0).add 1) λd=>sT ((r.add 0).add 1) w 1 λa e m k3=>k≠a/\sS w a e m k3 [O U (au U (d+1))] λl=>R (ab s) l)):F 344 #[Q r] b R:=
 iI h
def avZ{c:Addr}(h:CU (λb=>cU 352 #[Q c,O U 4] b λd=>R (ai #[]) d) λJ=>Ae 339 #[Q c] w λi s f g a=>N (i==5) (cU 352 #[Q c,O U 3] a λe=>J e) (J a)):F 345 #[Q c] w R:=
 fC (.j [0] [] .o .o) h
def ao1(s:Sl)(f:OV)(R:aH)(a:aw)(h:nW 0 a λJ n i w=>N (YR (i<(s.n:Int))) (kO s i w λg j p l o m=>∃k:Nat,∃z d,f.v=(.func (.func k) z.toArray d.toArray)/\(∀x:Array ay,∀b,((callFunc k x).run aq b)=(.ok (.enter k x) b))/\cB k ((za (za z [bT g j p l o m]) d).toArray) w λe c=>N e (R (O U i) c) (nx n λk3=>J k3 (au U (i+1)) c)) (R (O U (-1)) w)):F 348 #[s.v,f.v] a R:=
 fB (an:=.s .o (.s (.s .o (.j [0,1,7] [.s 8 (.int .i64)] .o .o)) .o)) (args:=[.sl s,.raw f]) h
def av0{s:D}{at_:Int}(h:lK (λj p=>R (O U j) p) λJ=>nW at_ w λc k i b=>N (YR (i<(s.size:Int))) (∃c0:UInt8,(0<=i/\(s[Int.toNat i]?)=(aN c0))/\∃d:UInt8,((((UInt8.toNat c0:Int)==47)&&(YR ((au U (i+1))<(s.size:Int))))=aF->0<=(au U (i+1))/\(s[Int.toNat (au U (i+1))]?)=(aN d))/\N ((((UInt8.toNat c0:Int)==47)&&(YR ((au U (i+1))<(s.size:Int))))&&((UInt8.toNat d:Int)==47)) (nW i b λg l a f=>∃e:UInt8,((YR (a<(s.size:Int)))=aF->0<=a/\(s[Int.toNat a]?)=(aN e))/\N ((YR (a<(s.size:Int)))&&((UInt8.toNat e:Int) !=10)) (nx l λm=>g m (au U (a+1)) f) (nx k λn=>c n a f)) (N (((((UInt8.toNat c0:Int)==9)||((UInt8.toNat c0:Int)==10))||((UInt8.toNat c0:Int)==13))||((UInt8.toNat c0:Int)==32)) (nx k λo=>c o (au U (i+1)) b) (J i b))) (J i b)):F 349 #[ab s,O U at_] w R:=
 fC (.s .o (.j [] [.s 1 G] (.j [0] [.s 1 G] (.d 3 (.s (.j [0] [.s 1 G] .o .o) .o)) .o) .o)) h
def av1(s:D)(at_:Int)(R:aH)(r:aw)(I:∃c0:UInt8,(0<=at_/\(s[Int.toNat at_]?)=(aN c0))/\z r λk P=>lf [k] 262 #[.int .u8 (UInt8.toNat c0:Int)] P λA Q=>∃g:UInt8,(0<=at_/\(s[Int.toNat at_]?)=(aN g))/\lf [k] 284 #[.int .u8 (UInt8.toNat g:Int)] Q λC w=>N A (oT [k] 264 #[ab s,O U at_] w λi S=>∃k3 a:Nat,(at_=(k3:Int)/\(au U (at_+i))=(a:Int)/\k3<=a/\a<=s.size)/\z S λo W=>lf [k,o] 263 #[ab (s.extract k3 a)] W λH t=>∃J:Int->D->Int->Int->aw->Prop,(∀h p j l f,J h p j l f->N (YR (i>24)) (∀u,az [k] f u->R (ai #[nT 0 (ao #[]) 0 0,O U 0,O U 2]) u) (∀v,az [k] f v->R (ai #[nT h p j l,O U i,O U 0]) v))/\N H (∀x,az [o] t x->J 2 (s.extract k3 a) 0 at_ x) (J 1 (s.extract k3 a) 0 at_ t)) (N C (∃d:Nat,(at_=(d:Int)/\d<=s.size)/\acR [k] 353 #[ab (s.extract d s.size)] w λK m n q=>N (n !=0) (∀B,az [k] q B->R (ai #[nT 0 (ao #[]) 0 0,O U 0,O U n]) B) (oT [k] 264 #[ab s,O U at_] q λM y=>N (YR (M>m)) (∀Y,az [k] y Y->R (ai #[nT 0 (ao #[]) 0 0,O U 0,O U 4]) Y) (∀V,az [k] y V->R (ai #[nT 3 (ao #[]) K at_,O U m,O U 0]) V))) (oT [k] 354 #[ab s,O U at_] w λc T=>N (c==0) (∀E,az [k] T E->R (ai #[nT 0 (ao #[]) 0 0,O U 0,O U 4]) E) (∃e b:Nat,(at_=(e:Int)/\(au U (at_+c))=(b:Int)/\e<=b/\b<=s.size)/\∀L,az [k] T L->R (ai #[nT 4 (s.extract e b) 0 at_,O U c,O U 0]) L)))):F 350 #[ab s,O U at_] r R:=
 fC (.d 3 (.s (.s .o (.s (.d 3 (.j [4,9,10] [.b 10 [G,.str,G,G]] .o .o)) .o)) .o)) I
def afD{r:Addr}{k:Int}{R:aH}(q:aw)(C:N (k==6) (z q λu w0=>fW [u] 355 #[Q r] w0 λE H s0 I l0 K w1=>∀A,az [u] w1 A->R (bT E H s0 I l0 K) A) (z q λd w3=>fW [d] 351 #[Q r,O U (au U (k+1))] w3 λL M s1 P l1 S w4=>z w4 λe w5=>oT [d,e] 356 #[Q r,O U k] w5 λT w6=>∃J:Nat->Int->Int->Int->D->Int->Sl->Int->aw->Prop,∃k3:Nat,J k3 T L M s1 P l1 S w6/\∀v n a b s c,∀p:Sl,∀i w,J v n a b s c p i w->N (n !=0) (gw w (r.add 1) λf=>sT (r.add 1) w 1 λo W z0 X=>d≠o/\e≠o/\sS w o W z0 X [O U (au U (f+1))] λw8=>fW [d,e] 351 #[Q r,O U (au U (k+1))] w8 λg h s3 j l3 l w9=>z w9 λx t=>N1 77 (bT a b s c p i) (bT g h s3 j l3 l) t λl4 B=>cj [d,e,x] t B/\∀y,az [e] B y->oT [d,e,x] 356 #[Q r,O U k] y λm Y=>nx v λZ=>J Z m 5 0 (ao #[]) n l4 i Y) (∀V,az [d] w V->R (bT a b s c p i) V))):F 351 #[Q r,O U k] q R:=
 fC (.d 4 (.s (.j [0,1,4,5] [.s 6 G,.b 5 [G,G,.str,G,.sl,G]] .o .o) .o)) C
def av2{c:Addr}{err:Int}(h:cB 298 #[Q c] w λd a=>N (!d) (Ae 339 #[Q c] a λj s l i b=>sT (c.add 2) b 2 λk e z f=>sS b k e z f [O U err,O U i] λg=>R (ai #[]) g) (R (ai #[]) a)):F 352 #[Q c,O U err] w R:=
 iI h
def av3{s:D}(j:N ((s.size:Int)==0) (R (ai #[O U 0,O U 0,O U 3]) w) (nW 0 w λJ k i d=>∃c0:UInt8,((YR (i<(s.size:Int)))=aF->0<=i/\(s[Int.toNat i]?)=(aN c0))/\∃f:UInt8,(((YR (i<(s.size:Int)))&&(YR ((UInt8.toNat c0:Int)>=48)))=aF->0<=i/\(s[Int.toNat i]?)=(aN f))/\N (((YR (i<(s.size:Int)))&&(YR ((UInt8.toNat c0:Int)>=48)))&&(YR ((UInt8.toNat f:Int)<=57))) (nx k λl=>J l (au U (i+1)) d) (∃g:UInt8,((i==0)=aM->(YR (i>1))=aF->(0:Int)<=0/\s[0]? =(aN g))/\N ((i==0)||((YR (i>1))&&((UInt8.toNat g:Int)==48))) (R (ai #[O U 0,O U 0,O U 4]) d) (Dk 0 0 d λh m b a e=>N (YR (a<i)) (∃c:UInt8,(0<=a/\(s[Int.toNat a]?)=(aN c))/\N (YR (b>(au U ((au U (9223372036854775807-(au U (au .u8 ((UInt8.toNat c:Int)-48))))).tdiv 10)))) (R (ai #[O U 0,O U 0,O U 20]) e) (nx m λn=>h n (au U ((au U (10*b))+(au U (au .u8 ((UInt8.toNat c:Int)-48))))) (au U (a+1)) e)) (R (ai #[O U b,O U i,O U 0]) e))))):F 353 #[ab s] w R:=
 fC (.d 3 (.s (.j [0] [.s 5 G] .o .o) (.d 2 (.s (.s .o (.j [0,5] [.s 6 G,.s 7 G] .o .o)) .o)))) j
def av4{s:D}{at_:Int}(h:∃l:Sl,∃f,((av 80 7 #[.mk 0 (ab (ao #[45,62])),.mk 1 (ab (ao #[60,61])),.mk 2 (ab (ao #[62,61])),.mk 3 (ab (ao #[61,61])),.mk 4 (ab (ao #[33,61])),.mk 5 (ab (ao #[38,38])),.mk 6 (ab (ao #[124,124]))]).run aq w)=(.ok l.v f)/\nW 0 f λJ j b a=>N (YR (b<(l.n:Int))) (∃k k3:Nat,((YR ((au U (at_+2))<=(s.size:Int)))=aF->at_=(k:Int)/\(au U (at_+2))=(k3:Int)/\k<=k3/\k3<=s.size)/\∃p0,((YR ((au U (at_+2))<=(s.size:Int)))=aF->cK l b 1 p0)/\∃e,((YR ((au U (at_+2))<=(s.size:Int)))=aF->aD a p0 [ab e])/\N ((YR ((au U (at_+2))<=(s.size:Int)))&&(((s.extract k k3).toList)==e.toList)) (o0 a λp=>R (O U 2) p) (o0 a λq=>nx j λm=>J m (au U (b+1)) q)) (nW 0 a λg n i c=>N (YR (i<17)) (∃c0:UInt8,(0<=at_/\(s[Int.toNat at_]?)=(aN c0))/\∃d:UInt8,(0<=i/\((ao #[123,125,40,41,91,93,59,44,61,43,45,42,47,37,60,62,33])[Int.toNat i]?)=(aN d))/\N ((UInt8.toNat c0:Int)==(UInt8.toNat d:Int)) (o0 c λr=>R (O U 1) r) (o0 c λt=>nx n λo=>g o (au U (i+1)) t)) (R (O U 0) c))):F 354 #[ab s,O U at_] w R:=
 fC (.d 2 (.s (.s .o (.j [0,1,5] [.s 6 G] .o .o)) (.s .o (.s (.s .o (.j [0,1,7] [.s 8 G] .o .o)) .o)))) h
def ao2{r:Addr}(R:aH)(W:aw)(am:z W λk c=>∃J:A,J ((r.add 0).block)/\j9 c (r.add 0) λl0=>J ((r.add 1).block)/\gw c (r.add 1) λi0=>∃p0,cK l0 i0 4 p0/\J p0.block/\IH c p0 λi S i2 s=>z c λa w1=>lf [k,a] 357 #[Q r,ab (ao #[45])] w1 λb0 w2=>lf [k,a] 357 #[Q r,ab (ao #[33])] w2 λx w3=>lf [k,a] 357 #[Q r,ab (ao #[40])] w3 λb2 w=>gw w ((r.add 3).add 0) λi4=>N (i4 !=0) (∀X,az [k] w X->R (bT 0 0 (ao #[]) 0 Sl.nil 0) X) (N (b0||x) (lf [k,a] 358 #[Q r] w λb3 Z=>N (!b3) (∀w7,az [k] Z w7->R (bT 0 0 (ao #[]) 0 Sl.nil 0) w7) (fW [k,a] 355 #[Q r] Z λi5 i6 s1 i7 l1 i8 w8=>z w8 λI u=>gw u (r.add 2) λi9=>sT (r.add 2) u 1 λk3 k4 z0 k5=>k≠k3/\a≠k3/\I≠k3/\sS u k3 k4 z0 k5 [O U (au U (i9-1))] λC=>lK (λd B=>lH 77 (bT i5 i6 s1 i7 l1 i8) B λl2 D=>cj [k,a,I] B D/\∀Y,az [k] D Y->R (bT 4 0 (ao #[]) d l2 s) Y) λv=>N x (v 15 C) (v 14 C))) (N b2 (lf [k,a] 358 #[Q r] w λb4 V=>N (!b4) (∀T,az [k] V T->R (bT 0 0 (ao #[]) 0 Sl.nil 0) T) (fW [k,a] 351 #[Q r,O U 0] V λe f s2 g l3 h iE=>z iE λK gL=>gn [k,a,K] 359 #[Q r,ab (ao #[41])] gL λH=>gw H (r.add 2) λj=>sT (r.add 2) H 1 λb k8 z1 k9=>k≠b/\a≠b/\K≠b/\sS H b k8 z1 k9 [O U (au U (j-1))] λkf=>∀E,az [k] kf E->R (bT e f s2 g l3 h) E)) (N (i==3) (gw w (r.add 1) λl=>sT (r.add 1) w 1 λt qz z2 Gz=>k≠t/\a≠t/\sS w t qz z2 Gz [O U (au U (l+1))] λmB=>∀L,az [k] mB L->R (bT 1 i2 (ao #[]) 0 Sl.nil s) L) (N (i==1) (gw w (r.add 1) λm=>sT (r.add 1) w 1 λy Oa z3 Tx=>k≠y/\a≠y/\sS w y Oa z3 Tx [O U (au U (m+1))] λsM=>∀M,az [k] sM M->R (bT 2 0 S 0 Sl.nil s) M) (N ((i==2)&&(S.toList==((ao #[105,110]).toList))) (fW [k,a] 360 #[Q r] w λn o s3 p l4 q pI=>∀P,az [k] pI P->R (bT n o s3 p l4 q) P) (gn [k,a] 361 #[Q r] w λuZ=>∀we,az [k] uZ we->R (bT 0 0 (ao #[]) 0 Sl.nil 0) we))))))):F 355 #[Q r] W R:=
 fC (.d 5 (.s (.d 3 (.s (.d 5 (.j [2,3,8] [.s 9 G] .o .o)) .o)) .o)) am
def ao3{r:Addr}{k:Int}(h:cL 333 #[] w λm c=>Ra m k c λl=>cL 332 #[] c λn d=>Ra n k d λo=>nW 0 d λJ g i a=>N (YR (i<(l.n:Int))) (IJ l i a λs=>cB 357 #[Q r,ab s] a λe b=>N e (yu o i b λf=>R (O U f) b) (nx g λj=>J j (au U (i+1)) b)) (R (O U 0) a)):F 356 #[Q r,O U k] w R:=
 fC (.d 3 (.s (.s .o (.j [0,5,6] [.s 7 G] .o .o)) .o)) h
def ao4{r:Addr}{s:D}(h:o0 w λa=>∃J:A,J ((r.add 0).block)/\j9 a (r.add 0) λl=>J ((r.add 1).block)/\gw a (r.add 1) λi=>∃p0,cK l i 4 p0/\J p0.block/\IH a p0 λc e f g=>z a λk b=>gw b ((r.add 3).add 0) λd=>R (aj (((d==0)&&(c==4))&&(e.toList==s.toList))) b):F 357 #[Q r,ab s] w R:=
 iI h
def ao5{r:Addr}(h:gw w (r.add 2) λi=>N (i==20) (cU 362 #[Q r,O U 21] w λj=>R (aj aM) j) (gw w (r.add 2) λb=>sT (r.add 2) w 1 λk d z e=>sS w k d z e [O U (au U (b+1))] λa=>gw a (r.add 1) λc=>sT (r.add 1) a 1 λk3 f m g=>sS a k3 f m g [O U (au U (c+1))] λl=>R (aj aF) l)):F 358 #[Q r] w R:=
 iI h
def ao6{r:Addr}{s:D}(h:cB 357 #[Q r,ab s] w λb a=>N (!b) (cU 361 #[Q r] a λe=>R (ai #[]) e) (gw a (r.add 1) λi=>sT (r.add 1) a 1 λk c z d=>sS a k c z d [O U (au U (i+1))] λf=>R (ai #[]) f)):F 359 #[Q r,ab s] w R:=
 iI h
def ao7(r:Addr){R:aH}(j:aw)(n:z j λk b=>∃J:A,J ((r.add 0).block)/\j9 b (r.add 0) λH=>J ((r.add 1).block)/\gw b (r.add 1) λo=>∃p0,cK H o 4 p0/\J ((p0.add 3).block)/\gw b (p0.add 3) λi=>z b λa g=>gw g (r.add 1) λs=>sT (r.add 1) g 1 λe k3 T D=>k≠e/\a≠e/\sS g e k3 T D [O U (au U (s+1))] λM=>gn [k,a] 359 #[Q r,ab (ao #[40])] M λw=>gw w ((r.add 3).add 0) λt=>N (t !=0) (∀l,az [k] w l->R (bT 3 0 (ao #[]) 0 Sl.nil i) l) (j9 w (r.add 0) λI=>gw w (r.add 1) λu=>∃p,cK I u 4 p/\gw w (p.add 0) λv=>N (v !=1) (o0 w λP=>gn [k,a] 361 #[Q r] P λS=>∀m,az [k] S m->R (bT 3 0 (ao #[]) 0 Sl.nil i) m) (o0 w λc=>j9 c (r.add 0) λK=>gw c (r.add 1) λx=>∃h,cK K x 4 h/\Eu c (h.add 1) λL=>∀d,az [a] c d->gw d (r.add 1) λC=>sT (r.add 1) d 1 λf E V G=>k≠f/\a≠f/\sS d f E V G [O U (au U (C+1))] λq=>gn [k,a] 359 #[Q r,ab (ao #[41])] q λB=>∀y,az [k] B y->R (bT 3 0 L 0 Sl.nil i) y))):F 360 #[Q r] j R:=
 iI n
def ao8{r:Addr}(h:j9 w (r.add 0) λl=>gw w (r.add 1) λi=>∃p0,cK l i 4 p0/\gw w (p0.add 0) λa=>N (a==5) (o0 w λb=>cU 362 #[Q r,O U 3] b λc=>R (ai #[]) c) (o0 w λd=>cU 362 #[Q r,O U 4] d λe=>R (ai #[]) e)):F 361 #[Q r] w R:=
 iI h
def ao9{r:Addr}{e:Int}(h:gw w ((r.add 3).add 0) λi=>N (i==0) (o0 w λa=>j9 a (r.add 0) λl=>gw a (r.add 1) λb=>∃p0,cK l b 4 p0/\gw a (p0.add 3) λc=>sT (r.add 3) a 2 λk d z f=>sS a k d z f [O U e,O U c] λg=>R (ai #[]) g) (R (ai #[]) w)):F 362 #[Q r,O U e] w R:=
 iI h
end Go.Proofs.YtdfibecibkijiaaGreatDoor.Vc
namespace Go.Proofs
open Go.Shelf
def Tryz.CJ:Go.Shelf.Ren:=⟨λ| 156=>255 | 165=>254 | 166=>217 | 169=>176 | 240=>252 | 241=>279 | 276=>276 | 277=>299 | n=>n,λ| 31=>80 | 9=>9 | 3=>3 | 4=>4 | 0=>0 | 20=>20 | 72=>232 | 76=>273 | 70=>229 | 37=>230 | 75=>272 | 127=>282 | 164=>318 | 5=>5 | 80=>241 | n=>n,λ| n=>n⟩
def Tryz.Tg:Go.Proofs.Lays.n156 Tryz.prog Tryz.CJ:={
 mixed:=E
 f156:=Tryz.func255.trans (bN aN E)
 f165:=Tryz.func254.trans (bN aN E)
 f166:=Tryz.func217.trans (bN aN E)
 f169:=Tryz.func176.trans (bN aN E)
 f240:=Tryz.func252.trans (bN aN E)
 f241:=Tryz.func279.trans (bN aN E)
 f276:=Tryz.func276.trans (bN aN E)
 f277:=Tryz.func299.trans (bN aN E)
 t0:=Tryz.underlying0
 a0:=Tryz.isAgg0
 z0:=Tryz.sizeOf0
 v0:=Tryz.zeroValue0
 t3:=Tryz.underlying3
 a3:=Tryz.isAgg3
 z3:=Tryz.sizeOf3
 v3:=Tryz.zeroValue3
 t4:=Tryz.underlying4
 a4:=Tryz.isAgg4
 z4:=Tryz.sizeOf4
 v4:=Tryz.zeroValue4
 t9:=Tryz.underlying9
 a9:=Tryz.isAgg9
 z9:=Tryz.sizeOf9
 v9:=Tryz.zeroValue9
 t20:=Tryz.underlying20
 a20:=Tryz.isAgg20
 z20:=Tryz.sizeOf20
 v20:=Tryz.zeroValue20
 t31:=Tryz.underlying80
 a31:=Tryz.isAgg80
 z31:=Tryz.sizeOf80
 v31:=Tryz.zeroValue80
 t37:=Tryz.underlying230
 a37:=Tryz.isAgg230
 z37:=Tryz.sizeOf230
 v37:=Tryz.zeroValue230
 t70:=Tryz.underlying229
 a70:=Tryz.isAgg229
 z70:=Tryz.sizeOf229
 v70:=Tryz.zeroValue229
 t72:=Tryz.underlying232
 a72:=Tryz.isAgg232
 z72:=Tryz.sizeOf232
 v72:=Tryz.zeroValue232
 t75:=Tryz.underlying272
 a75:=Tryz.isAgg272
 z75:=Tryz.sizeOf272
 v75:=Tryz.zeroValue272
 t76:=Tryz.underlying273
 a76:=Tryz.isAgg273
 z76:=Tryz.sizeOf273
 v76:=Tryz.zeroValue273
 t127:=Tryz.underlying282
 a127:=Tryz.isAgg282
 z127:=Tryz.sizeOf282
 v127:=Tryz.zeroValue282
 t164:=Tryz.underlying318
 a164:=Tryz.isAgg318
 z164:=Tryz.sizeOf318
 v164:=Tryz.zeroValue318}
def Tryz.tE:Builder.Extra Tryz.prog Tryz.CJ:={
 sizeBuilder:=E
 liesBuilder:=E
 t5:=Tryz.underlying5
 a5:=Tryz.isAgg5
 z5:=Tryz.sizeOf5
 v5:=Tryz.zeroValue5
 infoByte:=E
 cellsByte:=E
 sizeByte:=E
 neB5:=Z}
open Go.RowKit in
theorem Tryz.strings_Join_none (a:Option Addr) (c:Nat) (sep:ByteArray) (w:World):
 Calls Tryz.prog 255 #[.slice a 0 c,.string sep] w λe w'=>e=.returned (.string ⟨#[]⟩)/\w'=w:=Any.strings_Join_none Tryz.Tg Tryz.tE a c sep w
open Go.RowKit in
theorem Tryz.strings_Join (bk o c:Nat) (xs:List ByteArray) (sep:ByteArray) (w:World) (zD:∀(j:Nat) x,xs[j]? =some x->w.cell? ⟨bk,o+j,none⟩=some (.string x)) (VX:bk<w.heap.size) (hN:xs.length<=140737488355328) (pJ:xs.length<=c) (fi:(Lib.join (xs.map (·.data.toList)) sep.data.toList).length<=140737488355328):
 Calls Tryz.prog 255 #[.slice (some ⟨bk,o,none⟩) xs.length c,.string sep] w λe w'=>e=.returned (.string ⟨(Lib.join (xs.map (·.data.toList)) sep.data.toList).toArray⟩)/\Below w.heap.size w w':=Any.strings_Join Tryz.Tg Tryz.tE bk o c xs sep w zD VX hN pJ fi
def Tryz.JV:Go.Shelf.Ren:=⟨λ| 171=>221 | 243=>258 | 246=>281 | 283=>300 | 284=>301 | 285=>302 | 286=>303 | 129=>147 | 317=>320 | 318=>321 | 319=>322 | 320=>323 | 337=>346 | 338=>347 | n=>n,λ| 3=>3 | 9=>9 | 2=>2 | 4=>4 | 171=>340 | 0=>0 | 53=>206 | 37=>230 | 5=>5 | 173=>342 | 212=>363 | 51=>204 | 20=>20 | 213=>364 | 46=>157 | 232=>388 | 233=>389 | n=>n,λ| 17=>1 | 18=>4 | 19=>5 | n=>n⟩
def Tryz.ZJ:Go.Proofs.LaysM.n171 Tryz.prog Tryz.JV:={
 mixed:=E
 f129:=Tryz.func147.trans (bN aN E)
 f171:=Tryz.func221.trans (bN aN E)
 f243:=Tryz.func258.trans (bN aN E)
 f246:=Tryz.func281.trans (bN aN E)
 f283:=Tryz.func300.trans (bN aN E)
 f284:=Tryz.func301.trans (bN aN E)
 f285:=Tryz.func302.trans (bN aN E)
 f286:=Tryz.func303.trans (bN aN E)
 f317:=Tryz.func320.trans (bN aN E)
 f318:=Tryz.func321.trans (bN aN E)
 f319:=Tryz.func322.trans (bN aN E)
 f320:=Tryz.func323.trans (bN aN E)
 f337:=Tryz.func346.trans (bN aN E)
 f338:=Tryz.func347.trans (bN aN E)
 t0:=Tryz.underlying0
 a0:=Tryz.isAgg0
 z0:=Tryz.sizeOf0
 v0:=Tryz.zeroValue0
 t2:=Tryz.underlying2
 a2:=Tryz.isAgg2
 z2:=Tryz.sizeOf2
 v2:=Tryz.zeroValue2
 t3:=Tryz.underlying3
 a3:=Tryz.isAgg3
 z3:=Tryz.sizeOf3
 v3:=Tryz.zeroValue3
 t4:=Tryz.underlying4
 a4:=Tryz.isAgg4
 z4:=Tryz.sizeOf4
 v4:=Tryz.zeroValue4
 t5:=Tryz.underlying5
 a5:=Tryz.isAgg5
 z5:=Tryz.sizeOf5
 v5:=Tryz.zeroValue5
 t9:=Tryz.underlying9
 a9:=Tryz.isAgg9
 z9:=Tryz.sizeOf9
 v9:=Tryz.zeroValue9
 t20:=Tryz.underlying20
 a20:=Tryz.isAgg20
 z20:=Tryz.sizeOf20
 v20:=Tryz.zeroValue20
 t37:=Tryz.underlying230
 a37:=Tryz.isAgg230
 z37:=Tryz.sizeOf230
 v37:=Tryz.zeroValue230
 t46:=Tryz.underlying157
 a46:=Tryz.isAgg157
 z46:=Tryz.sizeOf157
 v46:=Tryz.zeroValue157
 t51:=Tryz.underlying204
 a51:=Tryz.isAgg204
 z51:=Tryz.sizeOf204
 v51:=Tryz.zeroValue204
 t53:=Tryz.underlying206
 a53:=Tryz.isAgg206
 z53:=Tryz.sizeOf206
 v53:=Tryz.zeroValue206
 t171:=Tryz.underlying340
 a171:=Tryz.isAgg340
 z171:=Tryz.sizeOf340
 v171:=Tryz.zeroValue340
 t173:=Tryz.underlying342
 a173:=Tryz.isAgg342
 z173:=Tryz.sizeOf342
 v173:=Tryz.zeroValue342
 t212:=Tryz.underlying363
 a212:=Tryz.isAgg363
 z212:=Tryz.sizeOf363
 v212:=Tryz.zeroValue363
 t213:=Tryz.underlying364
 a213:=Tryz.isAgg364
 z213:=Tryz.sizeOf364
 t232:=Tryz.underlying388
 a232:=Tryz.isAgg388
 z232:=Tryz.sizeOf388
 v232:=Tryz.zeroValue388
 t233:=Tryz.underlying389
 a233:=Tryz.isAgg389
 z233:=Tryz.sizeOf389
 v233:=Tryz.zeroValue389
 g17:=E
 g18:=E
 g19:=E
 i0:=E
 i2:=E
 i3:=E
 i4:=E
 i5:=E
 i9:=E
 i20:=E
 i37:=E
 i46:=E
 i51:=E
 i53:=E
 i171:=E
 i173:=E
 i212:=E
 i232:=E
 i233:=E
 m17:=E
 m18:=E
 m19:=E}
open Go.RowKit Go.Sort Go.Lib in
theorem Tryz.strconv_Itoa (n:Int) (h0: -9223372036854775808<=n) (h1:n<=9223372036854775807) (w:World) (awX:Lib.TabIs Tryz.prog w "internal/strconv.uint64pow10" .u64 Lib.pow10Tab):
 Calls Tryz.prog 221 #[.int .i64 n] w λe w'=>e=.returned (.string ⟨(Lib.itoa n).toArray⟩)/\∃k os,w'=grow (w.drewN k) os:=Any.strconv_Itoa Tryz.ZJ n h0 h1 w awX
def Tryz.JW:Go.Shelf.Ren:=⟨λ| 316=>272 | n=>n,λ| 9=>9 | 3=>3 | 4=>4 | 37=>230 | 0=>0 | 127=>282 | 5=>5 | n=>n,λ| n=>n⟩
def Tryz.ZK:Go.Proofs.LaysM.n316 Tryz.prog Tryz.JW:={
 mixed:=E
 f316:=Tryz.func272.trans (bN aN E)
 t0:=Tryz.underlying0
 a0:=Tryz.isAgg0
 z0:=Tryz.sizeOf0
 v0:=Tryz.zeroValue0
 t3:=Tryz.underlying3
 a3:=Tryz.isAgg3
 z3:=Tryz.sizeOf3
 v3:=Tryz.zeroValue3
 t4:=Tryz.underlying4
 a4:=Tryz.isAgg4
 z4:=Tryz.sizeOf4
 v4:=Tryz.zeroValue4
 t9:=Tryz.underlying9
 a9:=Tryz.isAgg9
 z9:=Tryz.sizeOf9
 v9:=Tryz.zeroValue9
 t37:=Tryz.underlying230
 a37:=Tryz.isAgg230
 z37:=Tryz.sizeOf230
 v37:=Tryz.zeroValue230
 t127:=Tryz.underlying282
 a127:=Tryz.isAgg282
 z127:=Tryz.sizeOf282
 v127:=Tryz.zeroValue282
 t5:=Tryz.underlying5
 a5:=Tryz.isAgg5
 z5:=Tryz.sizeOf5
 v5:=Tryz.zeroValue5
 i0:=E
 i3:=E
 i4:=E
 i5:=E
 i9:=E
 i37:=E
 i127:=E}
open Go.RowKit in
theorem Tryz.stringslite_Clone (s:ByteArray) (w:World) (ajs:s.size<=281474976710656):
 Calls Tryz.prog 272 #[.string s] w λe w'=>e=.returned (.string s)/\Below w.heap.size w w':=Any.stringslite_Clone Tryz.ZK s w ajs
def Tryz.JX:Go.Shelf.Ren:=⟨λ| 174=>274 | 247=>292 | 245=>293 | 287=>313 | 279=>314 | 280=>315 | 281=>316 | 282=>317 | 321=>336 | 322=>337 | 316=>272 | 171=>221 | 205=>338 | 243=>258 | 246=>281 | 283=>300 | 284=>301 | 285=>302 | 286=>303 | 129=>147 | 317=>320 | 318=>321 | 319=>322 | 320=>323 | 337=>346 | 338=>347 | n=>n,λ| 9=>9 | 3=>3 | 2=>2 | 75=>272 | 85=>314 | 4=>4 | 167=>355 | 5=>5 | 53=>206 | 175=>356 | 46=>157 | 168=>358 | 37=>230 | 0=>0 | 210=>374 | 21=>21 | 127=>282 | 145=>387 | 143=>385 | 171=>340 | 173=>342 | 212=>363 | 51=>204 | 20=>20 | 213=>364 | 232=>388 | 233=>389 | 80=>241 | n=>n,λ| 15=>2 | 16=>3 | 17=>1 | 18=>4 | 19=>5 | n=>n⟩
def Tryz.ND:Go.Proofs.LaysC.n174 Tryz.prog Tryz.JX:={
 mixed:=E
 f129:=Tryz.func147.trans (bN aN E)
 f171:=Tryz.func221.trans (bN aN E)
 f174:=Tryz.func274.trans (bN aN E)
 f205:=Tryz.func338.trans (bN aN E)
 f243:=Tryz.func258.trans (bN aN E)
 f245:=Tryz.func293.trans (bN aN E)
 f246:=Tryz.func281.trans (bN aN E)
 f247:=Tryz.func292.trans (bN aN E)
 f279:=Tryz.func314.trans (bN aN E)
 f280:=Tryz.func315.trans (bN aN E)
 f281:=Tryz.func316.trans (bN aN E)
 f282:=Tryz.func317.trans (bN aN E)
 f283:=Tryz.func300.trans (bN aN E)
 f284:=Tryz.func301.trans (bN aN E)
 f285:=Tryz.func302.trans (bN aN E)
 f286:=Tryz.func303.trans (bN aN E)
 f287:=Tryz.func313.trans (bN aN E)
 f316:=Tryz.func272.trans (bN aN E)
 f317:=Tryz.func320.trans (bN aN E)
 f318:=Tryz.func321.trans (bN aN E)
 f319:=Tryz.func322.trans (bN aN E)
 f320:=Tryz.func323.trans (bN aN E)
 f321:=Tryz.func336.trans (bN aN E)
 f322:=Tryz.func337.trans (bN aN E)
 f337:=Tryz.func346.trans (bN aN E)
 f338:=Tryz.func347.trans (bN aN E)
 t0:=Tryz.underlying0
 a0:=Tryz.isAgg0
 z0:=Tryz.sizeOf0
 v0:=Tryz.zeroValue0
 t2:=Tryz.underlying2
 a2:=Tryz.isAgg2
 z2:=Tryz.sizeOf2
 v2:=Tryz.zeroValue2
 t3:=Tryz.underlying3
 a3:=Tryz.isAgg3
 z3:=Tryz.sizeOf3
 v3:=Tryz.zeroValue3
 t4:=Tryz.underlying4
 a4:=Tryz.isAgg4
 z4:=Tryz.sizeOf4
 v4:=Tryz.zeroValue4
 t5:=Tryz.underlying5
 a5:=Tryz.isAgg5
 z5:=Tryz.sizeOf5
 v5:=Tryz.zeroValue5
 t9:=Tryz.underlying9
 a9:=Tryz.isAgg9
 z9:=Tryz.sizeOf9
 v9:=Tryz.zeroValue9
 t20:=Tryz.underlying20
 a20:=Tryz.isAgg20
 z20:=Tryz.sizeOf20
 v20:=Tryz.zeroValue20
 t21:=Tryz.underlying21
 a21:=Tryz.isAgg21
 z21:=Tryz.sizeOf21
 v21:=Tryz.zeroValue21
 t37:=Tryz.underlying230
 a37:=Tryz.isAgg230
 z37:=Tryz.sizeOf230
 v37:=Tryz.zeroValue230
 t46:=Tryz.underlying157
 a46:=Tryz.isAgg157
 z46:=Tryz.sizeOf157
 v46:=Tryz.zeroValue157
 t51:=Tryz.underlying204
 a51:=Tryz.isAgg204
 z51:=Tryz.sizeOf204
 v51:=Tryz.zeroValue204
 t53:=Tryz.underlying206
 a53:=Tryz.isAgg206
 z53:=Tryz.sizeOf206
 v53:=Tryz.zeroValue206
 t75:=Tryz.underlying272
 a75:=Tryz.isAgg272
 z75:=Tryz.sizeOf272
 v75:=Tryz.zeroValue272
 t85:=Tryz.underlying314
 a85:=Tryz.isAgg314
 z85:=Tryz.sizeOf314
 v85:=Tryz.zeroValue314
 t127:=Tryz.underlying282
 a127:=Tryz.isAgg282
 z127:=Tryz.sizeOf282
 v127:=Tryz.zeroValue282
 t143:=Tryz.underlying385
 a143:=Tryz.isAgg385
 z143:=Tryz.sizeOf385
 v143:=Tryz.zeroValue385
 t145:=Tryz.underlying387
 a145:=Tryz.isAgg387
 z145:=Tryz.sizeOf387
 v145:=Tryz.zeroValue387
 t167:=Tryz.underlying355
 a167:=Tryz.isAgg355
 z167:=Tryz.sizeOf355
 v167:=Tryz.zeroValue355
 t168:=Tryz.underlying358
 a168:=Tryz.isAgg358
 z168:=Tryz.sizeOf358
 v168:=Tryz.zeroValue358
 t171:=Tryz.underlying340
 a171:=Tryz.isAgg340
 z171:=Tryz.sizeOf340
 v171:=Tryz.zeroValue340
 t173:=Tryz.underlying342
 a173:=Tryz.isAgg342
 z173:=Tryz.sizeOf342
 v173:=Tryz.zeroValue342
 t175:=Tryz.underlying356
 a175:=Tryz.isAgg356
 z175:=Tryz.sizeOf356
 v175:=Tryz.zeroValue356
 t210:=Tryz.underlying374
 a210:=Tryz.isAgg374
 z210:=Tryz.sizeOf374
 v210:=Tryz.zeroValue374
 t212:=Tryz.underlying363
 a212:=Tryz.isAgg363
 z212:=Tryz.sizeOf363
 v212:=Tryz.zeroValue363
 t213:=Tryz.underlying364
 a213:=Tryz.isAgg364
 z213:=Tryz.sizeOf364
 t232:=Tryz.underlying388
 a232:=Tryz.isAgg388
 z232:=Tryz.sizeOf388
 v232:=Tryz.zeroValue388
 t233:=Tryz.underlying389
 a233:=Tryz.isAgg389
 z233:=Tryz.sizeOf389
 v233:=Tryz.zeroValue389
 g15:=E
 g16:=E
 g17:=E
 g18:=E
 g19:=E
 t80:=Tryz.underlying241
 a80:=Tryz.isAgg241
 z80:=Tryz.sizeOf241
 v80:=Tryz.zeroValue241
 i0:=E
 i2:=E
 i3:=E
 i4:=E
 i5:=E
 i9:=E
 i20:=E
 i21:=E
 i37:=E
 i46:=E
 i51:=E
 i53:=E
 i75:=E
 i80:=E
 i85:=E
 i127:=E
 i143:=E
 i145:=E
 i167:=E
 i168:=E
 i171:=E
 i173:=E
 i175:=E
 i210:=E
 i212:=E
 i232:=E
 i233:=E
 m15:=E
 m16:=E
 m17:=E
 m18:=E
 m19:=E
 c0:=E
 c2:=E
 c3:=E
 c4:=E
 c5:=E
 c9:=E
 c20:=E
 c21:=E
 c37:=E
 c46:=E
 c51:=E
 c53:=E
 c75:=E
 c80:=E
 c85:=E
 c127:=E
 c143:=E
 c145:=E
 c167:=E
 c168:=E
 c171:=E
 c173:=E
 c175:=E
 c210:=E
 c212:=E
 c213:=E
 c232:=E
 c233:=E}
open Go.RowKit in
theorem Tryz.strconv_ParseInt_10_at64_ok (s:ByteArray) (Vh:s.size<=9223372036854775806) (v:Int) (h:Lib.parseIntB 64 s.data.toList=.ok v) (w:World):
 Calls Tryz.prog 274 #[.string s,.int .i64 10,.int .i64 64] w λe w'=>e=.returned (.tuple #[.int .i64 v,.nilIface])/\(w'=w∨∃t,w'=Lib.bytesWorld w 5 t):=Any.strconv_ParseInt_10_at64_ok Tryz.ND s Vh v h w
open Go.RowKit in
theorem Tryz.strconv_ParseInt_10_at64_range_var (s:ByteArray) (ajs:s.size<=281474976710656) (h:Lib.parseIntB 64 s.data.toList=.range) (tp:TypeId) (p:Value) (w:World) (ajt:w.var? Tryz.prog "strconv.ErrRange" =some #[.iface tp p]):
 Calls Tryz.prog 274 #[.string s,.int .i64 10,.int .i64 64] w λe w'=>∃N,e=.returned (.tuple #[.int .i64 (Lib.intSat 64 s.data.toList),.iface 358 (.pointer (some ⟨N,0,none⟩))])/\w.heap.size<=N/\w'.heap[N]? =some (.cells #[.string ⟨#[80,97,114,115,101,73,110,116]⟩,.string s,.iface tp p] 374 (0,0))/\Below w.heap.size w w':=Any.strconv_ParseInt_10_at64_range_var Tryz.ND s ajs h tp p w ajt
def Tryz.NE:Go.Shelf.Ren:=⟨λ| 219=>271 | 217=>288 | 225=>289 | 224=>290 | 267=>291 | 266=>311 | 314=>312 | n=>n,λ| 9=>9 | 3=>3 | 4=>4 | 5=>5 | 46=>157 | 146=>320 | 51=>204 | n=>n,λ| 1=>0 | n=>n⟩
def Tryz.aek:Go.Proofs.Lays.n219 Tryz.prog Tryz.NE:={
 mixed:=E
 f217:=Tryz.func288.trans (bN aN E)
 f219:=Tryz.func271.trans (bN aN E)
 f224:=Tryz.func290.trans (bN aN E)
 f225:=Tryz.func289.trans (bN aN E)
 f266:=Tryz.func311.trans (bN aN E)
 f267:=Tryz.func291.trans (bN aN E)
 f314:=Tryz.func312.trans (bN aN E)
 t3:=Tryz.underlying3
 a3:=Tryz.isAgg3
 z3:=Tryz.sizeOf3
 v3:=Tryz.zeroValue3
 t4:=Tryz.underlying4
 a4:=Tryz.isAgg4
 z4:=Tryz.sizeOf4
 v4:=Tryz.zeroValue4
 t5:=Tryz.underlying5
 a5:=Tryz.isAgg5
 z5:=Tryz.sizeOf5
 v5:=Tryz.zeroValue5
 t9:=Tryz.underlying9
 a9:=Tryz.isAgg9
 z9:=Tryz.sizeOf9
 v9:=Tryz.zeroValue9
 t46:=Tryz.underlying157
 a46:=Tryz.isAgg157
 z46:=Tryz.sizeOf157
 v46:=Tryz.zeroValue157
 t51:=Tryz.underlying204
 a51:=Tryz.isAgg204
 z51:=Tryz.sizeOf204
 v51:=Tryz.zeroValue204
 t146:=Tryz.underlying320
 a146:=Tryz.isAgg320
 z146:=Tryz.sizeOf320
 v146:=Tryz.zeroValue320
 g1:=E}
open Go.RowKit Go.Lib in
theorem Tryz.stringslite_Index_one (s:ByteArray) (c:UInt8) (w:World):
 Calls Tryz.prog 271 #[.string s,.string ⟨#[c]⟩] w λe w'=>e=.returned (.int .i64 (Lib.indexByte s.data.toList c))/\w'=w:=Any.stringslite_Index_one Tryz.aek s c w
def Tryz.NF:Go.Shelf.Ren:=⟨λ| 189=>51 | 125=>97 | 257=>96 | 128=>146 | 129=>147 | 294=>137 | 295=>138 | 296=>139 | 297=>140 | 298=>141 | 299=>142 | 216=>143 | 300=>144 | 301=>145 | 328=>189 | 329=>190 | 330=>191 | 331=>192 | 332=>193 | 215=>149 | 343=>237 | n=>n,λ| 28=>31 | 3=>3 | 46=>157 | 0=>0 | 51=>204 | 53=>206 | 4=>4 | 183=>198 | 182=>197 | 131=>185 | 5=>5 | 9=>9 | 218=>250 | 222=>218 | 228=>290 | 229=>235 | n=>n,λ| n=>n⟩
def Tryz.Th:Go.Proofs.Lays.n189 Tryz.prog Tryz.NF:={
 mixed:=E
 f125:=Tryz.func97.trans (bN aN E)
 f128:=Tryz.func146.trans (bN aN E)
 f129:=Tryz.func147.trans (bN aN E)
 f189:=Tryz.func51.trans (bN aN E)
 f215:=Tryz.func149.trans (bN aN E)
 f216:=Tryz.func143.trans (bN aN E)
 f257:=Tryz.func96.trans (bN aN E)
 f294:=Tryz.func137.trans (bN aN E)
 f295:=Tryz.func138.trans (bN aN E)
 f296:=Tryz.func139.trans (bN aN E)
 f297:=Tryz.func140.trans (bN aN E)
 f298:=Tryz.func141.trans (bN aN E)
 f299:=Tryz.func142.trans (bN aN E)
 f300:=Tryz.func144.trans (bN aN E)
 f301:=Tryz.func145.trans (bN aN E)
 f328:=Tryz.func189.trans (bN aN E)
 f329:=Tryz.func190.trans (bN aN E)
 f330:=Tryz.func191.trans (bN aN E)
 f331:=Tryz.func192.trans (bN aN E)
 f332:=Tryz.func193.trans (bN aN E)
 f343:=Tryz.func237.trans (bN aN E)
 t0:=Tryz.underlying0
 a0:=Tryz.isAgg0
 z0:=Tryz.sizeOf0
 v0:=Tryz.zeroValue0
 t3:=Tryz.underlying3
 a3:=Tryz.isAgg3
 z3:=Tryz.sizeOf3
 v3:=Tryz.zeroValue3
 t4:=Tryz.underlying4
 a4:=Tryz.isAgg4
 z4:=Tryz.sizeOf4
 v4:=Tryz.zeroValue4
 t5:=Tryz.underlying5
 a5:=Tryz.isAgg5
 z5:=Tryz.sizeOf5
 v5:=Tryz.zeroValue5
 t9:=Tryz.underlying9
 a9:=Tryz.isAgg9
 z9:=Tryz.sizeOf9
 v9:=Tryz.zeroValue9
 t28:=Tryz.underlying31
 a28:=Tryz.isAgg31
 z28:=Tryz.sizeOf31
 v28:=Tryz.zeroValue31
 t46:=Tryz.underlying157
 a46:=Tryz.isAgg157
 z46:=Tryz.sizeOf157
 v46:=Tryz.zeroValue157
 t51:=Tryz.underlying204
 a51:=Tryz.isAgg204
 z51:=Tryz.sizeOf204
 v51:=Tryz.zeroValue204
 t53:=Tryz.underlying206
 a53:=Tryz.isAgg206
 z53:=Tryz.sizeOf206
 v53:=Tryz.zeroValue206
 t131:=Tryz.underlying185
 a131:=Tryz.isAgg185
 z131:=Tryz.sizeOf185
 v131:=Tryz.zeroValue185
 t182:=Tryz.underlying197
 a182:=Tryz.isAgg197
 z182:=Tryz.sizeOf197
 v182:=Tryz.zeroValue197
 t183:=Tryz.underlying198
 a183:=Tryz.isAgg198
 z183:=Tryz.sizeOf198
 v183:=Tryz.zeroValue198
 t218:=Tryz.underlying250
 a218:=Tryz.isAgg250
 z218:=Tryz.sizeOf250
 v218:=Tryz.zeroValue250
 t222:=Tryz.underlying218
 a222:=Tryz.isAgg218
 z222:=Tryz.sizeOf218
 v222:=Tryz.zeroValue218
 t228:=Tryz.underlying290
 a228:=Tryz.isAgg290
 z228:=Tryz.sizeOf290
 v228:=Tryz.zeroValue290
 t229:=Tryz.underlying235
 a229:=Tryz.isAgg235
 z229:=Tryz.sizeOf235
 v229:=Tryz.zeroValue235}
open Go.Sort Go.RowKit in
theorem Tryz.slices_Sort_int (blk off cap:Nat) (zs:List Int) (w:World) (hH:Holds (Value.int .i64) w blk off zs.toArray) (Qc:blk<w.heap.size) (hsz:zs.length<4611686018427387904):
 Calls Tryz.prog 51 #[.slice (some ⟨blk,off,none⟩) zs.length cap] w λe w'=>
  e=.returned (.tuple #[])/\∃n os,w'=grow (putRow (Value.int .i64) (Sort.ahead w n) blk off (zs.mergeSort λx y=>decide (x<=y)).toArray) os:=Any.slices_Sort_int Tryz.Th blk off cap zs w hH Qc hsz
def Tryz.CK:Go.Shelf.Ren:=⟨λ| 105=>218 | 212=>253 | 99=>204 | 165=>254 | 166=>217 | 170=>226 | 169=>176 | 263=>277 | 264=>278 | 206=>242 | 240=>252 | 241=>279 | 276=>276 | 277=>299 | n=>n,λ| 9=>9 | 3=>3 | 4=>4 | 20=>20 | 0=>0 | 46=>157 | 109=>301 | 5=>5 | 72=>232 | 76=>273 | 51=>204 | 146=>320 | 53=>206 | 148=>322 | 70=>229 | 37=>230 | 75=>272 | 127=>282 | 164=>318 | 80=>241 | n=>n,λ| n=>n⟩
def Tryz.ael:Go.Proofs.Lays.n105 Tryz.prog Tryz.CK:={
 mixed:=E
 f99:=Tryz.func204.trans (bN aN E)
 f105:=Tryz.func218.trans (bN aN E)
 f165:=Tryz.func254.trans (bN aN E)
 f166:=Tryz.func217.trans (bN aN E)
 f169:=Tryz.func176.trans (bN aN E)
 f170:=Tryz.func226.trans (bN aN E)
 f206:=Tryz.func242.trans (bN aN E)
 f212:=Tryz.func253.trans (bN aN E)
 f240:=Tryz.func252.trans (bN aN E)
 f241:=Tryz.func279.trans (bN aN E)
 f263:=Tryz.func277.trans (bN aN E)
 f264:=Tryz.func278.trans (bN aN E)
 f276:=Tryz.func276.trans (bN aN E)
 f277:=Tryz.func299.trans (bN aN E)
 t0:=Tryz.underlying0
 a0:=Tryz.isAgg0
 z0:=Tryz.sizeOf0
 v0:=Tryz.zeroValue0
 t3:=Tryz.underlying3
 a3:=Tryz.isAgg3
 z3:=Tryz.sizeOf3
 v3:=Tryz.zeroValue3
 t4:=Tryz.underlying4
 a4:=Tryz.isAgg4
 z4:=Tryz.sizeOf4
 v4:=Tryz.zeroValue4
 t5:=Tryz.underlying5
 a5:=Tryz.isAgg5
 z5:=Tryz.sizeOf5
 v5:=Tryz.zeroValue5
 t9:=Tryz.underlying9
 a9:=Tryz.isAgg9
 z9:=Tryz.sizeOf9
 v9:=Tryz.zeroValue9
 t20:=Tryz.underlying20
 a20:=Tryz.isAgg20
 z20:=Tryz.sizeOf20
 v20:=Tryz.zeroValue20
 t37:=Tryz.underlying230
 a37:=Tryz.isAgg230
 z37:=Tryz.sizeOf230
 v37:=Tryz.zeroValue230
 t46:=Tryz.underlying157
 a46:=Tryz.isAgg157
 z46:=Tryz.sizeOf157
 v46:=Tryz.zeroValue157
 t51:=Tryz.underlying204
 a51:=Tryz.isAgg204
 z51:=Tryz.sizeOf204
 v51:=Tryz.zeroValue204
 t53:=Tryz.underlying206
 a53:=Tryz.isAgg206
 z53:=Tryz.sizeOf206
 v53:=Tryz.zeroValue206
 t70:=Tryz.underlying229
 a70:=Tryz.isAgg229
 z70:=Tryz.sizeOf229
 v70:=Tryz.zeroValue229
 t72:=Tryz.underlying232
 a72:=Tryz.isAgg232
 z72:=Tryz.sizeOf232
 v72:=Tryz.zeroValue232
 t75:=Tryz.underlying272
 a75:=Tryz.isAgg272
 z75:=Tryz.sizeOf272
 v75:=Tryz.zeroValue272
 t76:=Tryz.underlying273
 a76:=Tryz.isAgg273
 z76:=Tryz.sizeOf273
 v76:=Tryz.zeroValue273
 t109:=Tryz.underlying301
 a109:=Tryz.isAgg301
 z109:=Tryz.sizeOf301
 v109:=Tryz.zeroValue301
 t127:=Tryz.underlying282
 a127:=Tryz.isAgg282
 z127:=Tryz.sizeOf282
 v127:=Tryz.zeroValue282
 t146:=Tryz.underlying320
 a146:=Tryz.isAgg320
 z146:=Tryz.sizeOf320
 v146:=Tryz.zeroValue320
 t148:=Tryz.underlying322
 a148:=Tryz.isAgg322
 z148:=Tryz.sizeOf322
 v148:=Tryz.zeroValue322
 t164:=Tryz.underlying318
 a164:=Tryz.isAgg318
 z164:=Tryz.sizeOf318
 v164:=Tryz.zeroValue318}
def Tryz.A9:Builder.Extra Tryz.prog Tryz.CK:={
 sizeBuilder:=E
 liesBuilder:=E
 t5:=Tryz.underlying5
 a5:=Tryz.isAgg5
 z5:=Tryz.sizeOf5
 v5:=Tryz.zeroValue5
 infoByte:=E
 cellsByte:=E
 sizeByte:=E
 neB5:=Z}
open Go.RowKit Go.Lib in
theorem Tryz.strings_Repeat (s:ByteArray) (c:Nat) (w:World) (hc:c<=9223372036854775807) (fi:s.size*c<=140737488355328):
 Calls Tryz.prog 218 #[.string s,.int .i64 c] w λe w'=>e=.returned (.string ⟨(Lib.repeatL s.data.toList c).toArray⟩)/\Below w.heap.size w w':=Any.strings_Repeat Tryz.ael Tryz.A9 s c w hc fi
def Tryz.Gu:Go.Shelf.Ren:=⟨λ| 15=>61 | n=>n,λ| 22=>31 | 3=>3 | 4=>4 | n=>n,λ| n=>n⟩
def Tryz.B3:Go.Proofs.Lays2.n15 Tryz.prog Tryz.Gu:={
 mixed:=E
 f15:=Tryz.func61.trans (bN aN E)
 t3:=Tryz.underlying3
 a3:=Tryz.isAgg3
 z3:=Tryz.sizeOf3
 v3:=Tryz.zeroValue3
 t4:=Tryz.underlying4
 a4:=Tryz.isAgg4
 z4:=Tryz.sizeOf4
 v4:=Tryz.zeroValue4
 t22:=Tryz.underlying31
 a22:=Tryz.isAgg31
 z22:=Tryz.sizeOf31
 v22:=Tryz.zeroValue31
 i3:=E}
open Go.RowKit Go.Lib in
theorem Tryz.slices_Clone_int (b off n c:Nat) (zs:List Int) (w:World) (hz:n<=zs.length) (sH:n*8<=140737488355328) (hc:∀j,j<zs.length->w.cell? ⟨b,off+j,none⟩=some (.int .i64 (zs.getD j 0))):
 Calls Tryz.prog 61 #[.slice (some ⟨b,off,none⟩) n c] w λe w'=>∃v',e=.returned v'/\w'.ownsRow w.heap.size 3 1 v' n ((zs.take n).map (Value.int .i64))/\v'≠.slice none 0 0/\Below w.heap.size w w':=Any.slices_Clone_int Tryz.B3 b off n c zs w hz sH hc
open Go.RowKit Go.Lib in
theorem Tryz.slices_Clone_int_nil (n c:Nat) (w:World):
 Calls Tryz.prog 61 #[.slice none n c] w λe w'=>e=.returned (.slice none 0 0)/\w'=w:=Any.slices_Clone_int_nil Tryz.B3 n c w
open Go.RowKit Go.Lib in
theorem Tryz.slices_Clone_int_zero (a:Addr) (c:Nat) (w:World):
 Calls Tryz.prog 61 #[.slice (some a) 0 c] w λe w'=>∃v',e=.returned v'/\w'.ownsRow w.heap.size 3 1 v' 0 []/\v'≠.slice none 0 0/\Below w.heap.size w w':=Any.slices_Clone_int_zero Tryz.B3 a c w
def Tryz.Gv:Go.Shelf.Ren:=⟨λ| 20=>52 | n=>n,λ| 22=>31 | 3=>3 | 4=>4 | 0=>0 | n=>n,λ| n=>n⟩
def Tryz.HO:Go.Proofs.Lays2.n20 Tryz.prog Tryz.Gv:={
 mixed:=E
 f20:=Tryz.func52.trans (bN aN E)
 t0:=Tryz.underlying0
 a0:=Tryz.isAgg0
 z0:=Tryz.sizeOf0
 v0:=Tryz.zeroValue0
 t3:=Tryz.underlying3
 a3:=Tryz.isAgg3
 z3:=Tryz.sizeOf3
 v3:=Tryz.zeroValue3
 t4:=Tryz.underlying4
 a4:=Tryz.isAgg4
 z4:=Tryz.sizeOf4
 v4:=Tryz.zeroValue4
 t22:=Tryz.underlying31
 a22:=Tryz.isAgg31
 z22:=Tryz.sizeOf31
 v22:=Tryz.zeroValue31
 i3:=E}
open Go.RowKit Go.Lib Go.Sort in
theorem Tryz.slices_Compact_int (blk off cap:Nat) (zs:List Int) (w:World) (hH:Holds (Value.int .i64) w blk off zs.toArray) (hsz:zs.length<=9223372036854775807) (pJ:zs.length<=cap):
 Calls Tryz.prog 52 #[.slice (some ⟨blk,off,none⟩) zs.length cap] w λe w'=>e=.returned (.slice (some ⟨blk,off,none⟩) (Lib.compact zs).length cap)/\∃q,w'=putRow (Value.int .i64) (Sort.ahead w q) blk off (Lib.compact zs++List.replicate (zs.length-(Lib.compact zs).length) 0).toArray:=Any.slices_Compact_int Tryz.HO blk off cap zs w hH hsz pJ
open Go.RowKit Go.Lib Go.Sort in
theorem Tryz.slices_Compact_int_empty (a:Option Addr) (cap:Nat) (w:World):
 Calls Tryz.prog 52 #[.slice a 0 cap] w λe w'=>e=.returned (.slice a 0 cap)/\w'=w:=Any.slices_Compact_int_empty Tryz.HO a cap w
open Go.RowKit Go.Sort in
theorem Tryz.slices_Sort_int_none (p:Option Addr) (cap:Nat) (w:World):
 Calls Tryz.prog 51 #[.slice p 0 cap] w λe w'=>e=.returned (.tuple #[])/\w'=w:=Any.slices_Sort_int_none Tryz.Th p cap w
end Go.Proofs
namespace Go.Proofs.YtdfibecibkijiaaGreatDoor.Con
open Go.Value renaming int->O,string->ab,pointer->ae,agg->ah,tuple->ai,bool->aj
open Go.IntKind renaming i64->U,wrap->au
open Go.Ending renaming returned->ak
open _root_.ByteArray renaming mk->ao
open _root_.Go.Proofs.Tryz renaming prog->aq
open Go.Instr renaming buildSlice->av
open Go renaming World->aw,Value->ay,Calls->aA
open Go.Kt renaming Only->az,SliceF->aB,Cells->aD,OnlyP->aE,Blk->aG
open Go Go.RowKit Go.Kt Go.Kt.V Go.Proofs.YtdfibecibkijiaaGreatDoor.Vc
def gX{P:Program}{f:FuncId}{a:Array ay}{w:aw}{Q:Ending->aw->Prop}(h:aA P f a w λe b=>∃v,e=ak v/\Q (ak v) b):aA P f a w Q:=h.mono (by rintro e b ⟨v,rfl,q⟩;exact q)
def ret{P}{f}{a}{w}{r}{Q:aw->Prop}(h:aA P f a w λe b=>∃v,e=ak v/\v=r/\Q b):aA P f a w λe b=>e=ak r/\Q b:=
 h.mono (by rintro e b ⟨v,rfl,rfl,q⟩;exact⟨I,q⟩)
def Blk.dP{w}{b}{t}{cs}(h:aG w b t cs) j {v} (a:cs[j]? =aN v):aD w ((⟨b,0,Pw⟩:Addr).add j) [v]:=by
 rw[iK,bR];exact h.cells j [v] λk u hk=>by
  cases k with
  | zero=>simp at hk;subst hk;exact a
  | succ k=>simp at hk
def Om:=@Blk.dP
def fU(c:UInt8):M:=(65<=c.toNat&&c.toNat<=90)||(97<=c.toNat&&c.toNat<=122)||c.toNat==95
def dw(c:UInt8):M:=48<=c.toNat&&c.toNat<=57
def fx(c:UInt8):M:=fU c||dw c
def qB(c:UInt8):M:=[9,10,13,32].contains c
def bxi:∀n:Fin 256,(((YR (97<=(bits .or .u8 (n.val:Int) 32)))&&(YR ((bits .or .u8 n.val 32)<=122)))||((n.val:Int)==95))=((65<=n.val&&n.val<=90)||(97<=n.val&&n.val<=122)||n.val==95):=KR
def EA w c:aA aq 207 #[.int .u8 c.toNat] w λe a=>e=ak (aj (fU c))/\az [] w a:=by
 exact ret (aoa w ⟨by rw[bxi ⟨c.toNat,c.toNat_lt⟩];rfl,Ib _ _⟩)
def acD w c:aA aq 209 #[.int .u8 c.toNat] w λe a=>e=ak (aj (dw c))/\az [] w a:=by
 refine ret (aoc ?_);refine⟨?_,Ib _ _⟩;congr 1;rw[bK];simp[dw,B,bF];omega
def abp w c:aA aq 273 #[.int .u8 c.toNat] w λe a=>e=ak (aj (dw c))/\az [] w a:=by
 refine ret (v2w ?_);refine⟨?_,Ib _ _⟩;have h:∀n:Fin 256,YR ((au .u8 (n.val-48))<10)=(YR (48<=n.val)&&YR (n.val<=57)):=KR
 rw[h ⟨c.toNat,c.toNat_lt⟩];rfl
def ajr{w:aw}{F:A}{s:Sl}{l:C}(h:aB ma 1 w F s l)(c:UInt8):
  aA aq 270 #[Sl.v s,.int .u8 (c.toNat:Int)] w λe b=>∃i:Int,e=ak (O U i)/\YR (i>=0)=l.contains c/\az [] w b:=by
 refine gX (aoN ?_);have f:=h.len;have H:=h.big;have g:=h.cap;refine⟨λv i b=>∃n:Nat,n<=qj l/\i=(n:Int)/\v=(qj l)-n/\(∀x,x∈l.take n->x≠c)/\b=w,qj l,⟨0,bf _,I,I,X,I⟩,?_⟩;rintro v _ _ ⟨n,d,rfl,rfl,p,rfl⟩;refine⟨λa=>?_,λa=>?_⟩
 .have W:(n:Int)<s.n:=u a;obtain⟨ad,x,q,m,j,r,t,o,k⟩:=h.get (be n) W;rw[ba]at j;unfold ma jc at k;subst k;refine⟨ad,m,_,o,λe=>⟨_,I,?_,Ib _ _⟩,λe=>⟨(qj l)-(n+1),J,n+1,J,Ye,I,?_,I⟩⟩
  .have e:c=x:=aa7.1 (by have:=u e;omega);rw[bG J];symm;rw[fy,e];exact bp j
  intro y c;rw[bn,j]at c;simp at c;rcases c with c | rfl
  .exact p y c
  rintro rfl;simp at e
 have j:¬((n:Int)<s.n):=aU a;rw[bm J]at p;refine⟨_,I,?_,Ib _ _⟩;rw[bD J];symm;rw[eF];intro e;exact p c (fy.1 e) I
def roM{w}{F}{s}{l}(h:aB ma 1 w F s l) c:
  aA aq 241 #[Sl.v s,.int .u8 c.toNat] w λe b=>e=ak (aj (l.contains c))/\az [] w b:=by
 refine ret (aox ?_);refine(ajr h c).mono ?_;rintro _ d ⟨a,rfl,i,O⟩;exact⟨a,I,by rw[i],O⟩
def LK{w}{F}{s}{l}(h:aB ma 1 w F s l) c:
  aA aq 203 #[.int .u8 c.toNat,Sl.v s] w λe a=>e=ak (aj (l.contains c))/\az [] w a:=by
 refine ret (an6 ?_);refine(roM h c).mono ?_;rintro _ b ⟨rfl,O⟩;exact⟨_,I,I,O⟩
def nU:Rp (C):=λ_ _ l c=>c=[ab (T l)]
def dG:nU.Ok where
 keep h _:=h
 inHeap h:=h
 mono h _:=h
 one:=by
  rintro w F x c h v a;subst h;simp at a;subst a;rfl
def acE{w}{F}{s}{l}(h:aB nU 1 w F s l) c:
  aA aq 212 #[Sl.v s,ab (T c)] w λe b=>∃i,e=ak (O U i)/\YR (i>=0)=l.contains c/\az [] w b:=by
 refine gX (afy ?_);have f:=h.len;have H:=h.big;have g:=h.cap;refine⟨λv i b=>∃n,n<=qj l/\i=n/\v=(qj l)-n/\(∀x,x∈l.take n->x≠c)/\b=w,qj l,⟨0,bf _,I,I,X,I⟩,?_⟩;rintro v _ _ ⟨n,d,rfl,rfl,p,rfl⟩;refine⟨λa=>?_,λa=>?_⟩
 .have W:=u a;obtain⟨ad,x,s,j,c,o,q,k,m⟩:=h.get (be n) W;rw[ba]at c;subst m;refine⟨ad,j,_,k,?_⟩;dsimp only;rw[ji];refine⟨λe=>⟨_,I,?_,Ib _ _⟩,λe=>⟨(qj l)-_,J,n+1,J,Ye,I,?_,I⟩⟩
  .have e:=u e;rw[bG J];symm;rw[fy,e];exact bp c
  intro y l;rw[bn,c]at l;simp at l;rcases l with l | rfl
  .exact p y l
  rintro rfl;simp at e
 have l:=aU a;rw[bm J]at p;refine⟨_,I,?_,Ib _ _⟩;rw[bD J];symm;rw[eF];intro e;exact p c (fy.1 e) I
def wT{w}{F}{s}{l}(h:aB nU 1 w F s l) c:
  aA aq 245 #[Sl.v s,ab (T c)] w λe b=>e=ak (aj (l.contains c))/\az [] w b:=by
 refine ret (aoz ?_);refine(acE h c).mono ?_;rintro _ d ⟨a,rfl,i,O⟩;exact⟨a,I,by rw[i],O⟩
abbrev XM(w:aw)(b:Nat)(t:TypeId)(l:C)(i:Nat)(r:aJ):Prop:=aG w b t (ab (T l)::O U i::r)
def afF{w}{b}{t}{l}{i}{r}(h:XM w b t l i r):
  aA aq 154 #[ae (aN ⟨b,0,Pw⟩)] w λe a=>e=ak (aj (YR (qj l<=i)))/\az [] w a:=by
 refine ret (anH ?_);refine⟨i,Om h 1 I,T l,Om h 0 I,λc O=>⟨?_,O⟩⟩;rw[cJ];congr 1;rw[mN];omega
def EB{w}{b}{t}{l}{i}{r}(h:XM w b t l i r)(a:i<=qj l):
  aA aq 205 #[ae (aN ⟨b,0,Pw⟩)] w λe c=>e=ak (ab (T (l.drop i)))/\az [] w c:=by
 refine ret (an8 ?_);refine⟨T l,Om h 0 I,i,Om h 1 I,i,⟨I,by rw[cJ];exact a⟩,λd O=>⟨?_,O⟩⟩;rw[wG,cJ,bm (by rw[cD];exact H _)]
def nH{p}:∀{l:C} {n:Nat},n<=(qj l)->(∀x,x∈l.take n->p x=aF)->(∀x,l[n]? =aN x->p x=aM)->l.takeWhile p=l.take n
 | [],n,_,_,_=>X
 | c::r,0,_,_,h=>by
  have:=h c I;simp[this]
 | c::r,n+1,hn,h,a=>by
  rw[dF,K (h c X),fF,nH (n:=n) H7 (λx hx=>h x Ze) (λx hx=>a x Xi)]
def Xg{w:aw}{b}{t}{l}{i}{r}(g:XM w b t l i r)(j:i<=qj l)(s:qj l<9223372036854775807):
  aA aq 244 #[ae (aN ⟨b,0,Pw⟩)] w λe a=>e=ak (ab (T ((l.drop i).takeWhile fx)))/\az [] w a:=by
 refine ret (aoy ?_);refine(EB g j).mono ?_;rintro _ z ⟨rfl,f⟩;have k:qj (l.drop i)<=qj l:=by rw[cD];omega
 generalize l.drop i=m at*
 refine⟨T m,I,λv o a=>∃n,n<=qj m/\o=n/\v=(qj m)-n/\(∀x,x∈m.take n->fx x=aF)/\az [] w a,qj m,⟨0,bf _,I,I,X,f⟩,?_⟩;rintro v _ q ⟨n,d,rfl,rfl,p,c⟩;rw[cJ];refine⟨λb a=>(b=aF->∃x,m[n]? =aN x/\fx x=aF)/\(b=aM->∀x,m[n]? =aN x->fx x=aM)/\az [] w a,?_,λh=>?_,λh=>⟨λe=>U4,λ_ x hx=>?_,c⟩⟩
 .rintro b r ⟨i,l,P⟩;refine⟨λe=>?_,λe=>⟨n,⟨I,d⟩,?_,P⟩⟩
  .obtain⟨x,hx,t⟩:=i e;have W:=(bc.1 hx).1;refine⟨(qj m)-_,J,n+1,J,Ye,I,λy b=>?_,P⟩;rw[bn,hx]at b;simp[jz,bQ,aV]at b;rcases b with b | rfl
   .exact p y b
   exact t
  rw[wG,gJ,pM,nH d p (l e)]
 .have W:=u h;have hx:m[n]? =aN _:=aX J;generalize m[n]'_=x at hx;have l:(T m)[Int.toNat (n:Int)]? =aN x:=Xf
  refine⟨x,⟨be n,l⟩,(EA q x).mono ?_⟩;rintro _ r ⟨rfl,Z⟩;refine⟨_,I,λi=>⟨λ_=>⟨x,hx,by unfold fx;rw[i];rfl⟩,λe=>U4,c.bU Z⟩,λi=>⟨x,⟨be n,l⟩,(acD r x).mono ?_⟩⟩;rintro _ t ⟨rfl,Q⟩;refine⟨_,I,λhd=>⟨x,hx,by unfold fx;rw[hd,pL]⟩,λhd y b=>?_,c.bU (Z.bU Q)⟩;rw[hx]at b;injection b with b;subst b;unfold fx;rw[i,hd];rfl
 have l:=aU h;have:=(bc.1 hx).1;omega
def abc w l p (b:qj l<9223372036854775807) (c:qj p<9223372036854775807):aA aq 204 #[ab (T l),ab (T p)] w λe a=>e=ak (aj (YR (l.take (qj p)=p)))/\az [] w a:=by
 refine ret (an7 ?_);refine(ret (avt (λv a=>v=aj (YR (l.take (qj p)=p))/\az [] w a) w ?_)).mono ?_
 .rw[cJ,cJ];refine⟨qj p,λh=>⟨I,KO⟩,?_,Ib _ _⟩;rw[wG,ji,gJ,pM];congr 1;rw[bK];simp only[B,bF];constructor
  .exact λh=>h.2
  intro h;refine⟨?_,h⟩;have:=bN List.length h;rw[ci]at this;omega
 rintro _ w ⟨rfl,h⟩;exact⟨_,I,I,h⟩
def vX:∀l c,Lib.indexByte l c=if c∈l then(qj (l.takeWhile (· !=c)):Int)else -1
 | [],c=>rfl
 | b::l,c=>by
  rw[Lib.indexByte,vX l c];by_cases h:b=c
  .subst h;simp
  .by_cases m:c∈l
   .have a:(b==c)=aM:=by simpa using h
    have d:(b !=c)=aF:=by simpa using h
    have e:c∈b::l:=by simp[m]
    rw[a,K m,K e,dF,K d];simp
   .have a:(b==c)=aM:=by simpa using h
    have d:¬c∈b::l:=by simp[m];exact λe=>h e.symm
    rw[a,R m,R d];simp
def agV{c}:∀{l:C},¬c∈l->l.takeWhile (· !=c)=l
 | [],_=>rfl
 | b::l,h=>by
  simp at h;rw[dF,K (by simpa using λe=>h.1 e.symm),agV h.2]
def pq{p}:∀{l:C},l.takeWhile p=l.take (qj (l.takeWhile p))
 | []=>rfl
 | b::l=>by
  rw[dF];split
  .rw[aZ,fF,<-pq]
  rfl
def apa w l c (h:qj l<9223372036854775807):aA aq 206 #[ab (T l),ab (T [c])] w λe a=>∃(s:D) (b:M),e=ak (ai #[ab (T (l.takeWhile (· !=c))),ab s,aj b])/\az [] w a:=by
 refine gX (an9 ?_);refine(avu (λv a=>∃(s:D) (b:M),v=(ai #[ab (T (l.takeWhile (· !=c))),ab s,aj b])/\az [] w a) w ?_).mono ?_
 .refine(Tryz.stringslite_Index_one _ c w).mono ?_;rintro _ _ ⟨rfl,rfl⟩;have e:(T l).data.toList=l:=I;rw[e,vX];refine⟨_,I,λb=>?_,λb=>?_⟩
  .by_cases m:c∈l
   .rw[K m];have W:qj (l.takeWhile (· !=c))<qj l:=by
     have d:=List.takeWhile_append_dropWhile (p:=(· !=c)) (l:=l);have f:=bN List.length d;rw[aP]at f;have e:l.dropWhile (· !=c)≠[]:=by
      intro e;rw[e,bC]at d;rw[<-d]at m;have:=List.all_takeWhile (p:=(· !=c)) (l:=l);rw[du]at this;have:=this c (by rw[d]at m⊢;exact m);simp at this
     have g:=mD.2 e;omega
    have hk:(T l).extract 0 (qj (l.takeWhile (· !=c)))=T (l.takeWhile (· !=c)):=by
     rw[wG,gJ,pM,<-pq]
    refine⟨qj (l.takeWhile _),⟨I,Yv⟩,qj (l.takeWhile _)+1,⟨by rw[cJ,eS S S];rfl,Yv⟩,λw O=>⟨(T l).extract (qj (l.takeWhile (· !=c))+1) (T l).size,aF,?_,O⟩⟩;rw[hk]
   .rw[R m]at b;exact absurd (u b) J
  .by_cases m:c∈l
   .rw[K m]at b;exact absurd (aU b) J
   .rw[agV m];exact⟨_,_,I,Ib _ _⟩
 .rintro _ w ⟨v,rfl,s,b,rfl,O⟩;exact⟨_,s,b,I,s,b,I,O⟩
def vA w l {n} {parts} (h:parts=(((l.map jc).zipIdx 0).map λx=>(x.2,x.1)).toArray) (hn:qj l=n) (c:0<n) (y:n*1<=16777216):
  ∃s b,(av 230 n parts).run aq w=.ok (Sl.v s) b/\Own ma 1 5 w.heap.size b (λ_=>True) s l/\az [] w b/\s.a=aN ⟨w.heap.size,0,Pw⟩:=by
 obtain⟨s,b,d,f,g,j,_⟩:=iU (P:=aq) (t:=230) (e:=5) (i:=Tryz.t5) (w:=w) (F:=λ_=>True) (r:=ma) (size:=1) (vs:=l.map jc) (xs:=l) (len:=n) E E I I Z h Mc c y tZ (by
  clear h hn
  induction l with
  | nil=>exact trivial
  | cons a l i=>exact⟨⟨I,I⟩,i⟩)
 exact⟨s,b,d,f,g,j⟩
def acU l w:pR nU 1 w (λ_=>True) l ((l.map λx=>Value.string (T x)).map λv=>v.cells.toList):=by
 induction l with
 | nil=>exact trivial
 | cons a l i=>exact⟨⟨I,I⟩,i⟩
def lp w l {n} {parts} (p:parts=(((l.map λx=>Value.string (T x)).zipIdx 0).map λx=>(x.2,x.1)).toArray) (hn:qj l=n) (h:0<n) (y:n*1<=16777216):
  ∃s a,(av 80 n parts).run aq w=.ok (Sl.v s) a/\Own nU 1 9 w.heap.size a (λ_=>True) s l/\az [] w a:=by
 obtain⟨s,a,b,c,d,_⟩:=iU (P:=aq) (t:=80) (e:=9) (i:=Tryz.t9) (w:=w) (F:=λ_=>True) (r:=nU) (size:=1) (vs:=l.map λx=>Value.string _) (xs:=l) (len:=n) E E I I Z p Mc h y dG (acU l w);exact⟨s,a,b,c,d⟩
def Rc{α}{r:Rp α}{size}{e}{B}{w}{F}{s}{xs}(b:r.Ok)(p:∀w F G x a,r w F x a->r w G x a)(h:Own r size e B w F s xs):aB r size w (λk=>B<=k/\s.a=aN ⟨k,0,Pw⟩) s xs:=by
 rcases h with⟨rfl,rfl⟩ | ⟨o,c,tail,d,f,g,i,j,l,n,m⟩
 .exact Zn _ _ _ _
 have q:Own r size e B w (λ_=>False) s xs:=.inr ⟨o,c,tail,d,f,g,i,j,l,n,iL.imp (λ_ _ h=>⟨h.1,p _ _ _ _ _ h.2⟩) m⟩;exact(q.slice b).mono b λk hk=>hk.elim False.elim id
def Af{e}{B}{w}{F}{s}{xs}(h:Own ma 1 e B w F s xs):aB ma 1 w (λk=>B<=k/\s.a=aN ⟨k,0,Pw⟩) s xs:=Rc tZ (λ_ _ _ _ _ h=>h) h
def vY{e}{B}{w}{F}{s}{xs}(h:Own nU 1 e B w F s xs):aB nU 1 w (λk=>B<=k/\s.a=aN ⟨k,0,Pw⟩) s xs:=Rc dG (λ_ _ _ _ _ h=>h) h
def lM:M->C->Nat
 | _,[]=>0
 | true,c::r=>1+lM (c !=10) r
 | false,c::r=>if qB c then 1+lM aM r else if c==47&&r.head? ==aN 47 then 1+lM aF r else 0
def IM:∀{b:M} {l:C},lM b l<=qj l
 | b,[]=>by simp[lM]
 | true,c::r=>by
  rw[lM,aZ];have:=IM (b:=c !=10) (l:=r);omega
 | false,c::r=>by
  rw[lM,aZ];have h:=IM (b:=aM) (l:=r);have a:=IM (b:=aF) (l:=r);split
  .omega
  split<;>omega
def LN:∀l,lM aF l=qj (l.takeWhile (· !=10))+lM aM (l.drop (qj (l.takeWhile (· !=10))))
 | []=>rfl
 | c::r=>by
  by_cases hc:c=10
  .subst hc;simp[lM,qB]
  .have h:(c !=10)=aF:=Yc
   rw[lM,h,LN r,dF,K h,aZ,ki];omega
def G2{l}(h:l.take 2=[47,47]):lM aM l=qj (l.takeWhile (· !=10))+lM aM (l.drop (qj (l.takeWhile (· !=10)))):=by
 match l,h with
 | a::b::r,h=>
  obtain⟨rfl,rfl⟩:=h;have e:lM aM (47::47::r)=1+lM aF (47::r):=by
   conv=>lhs;rw[lM]
   rw[R Z,K X]
  have c:(47::47::r).takeWhile (· !=10)=47::(47::r).takeWhile (· !=10):=by
   rw[dF,K Z]
  rw[e,LN _,c,aZ,ki];omega
def pu{l:C}{j}{x}(h:l[j]? =aN x):l.drop j=x::l.drop (j+1):=by
 obtain⟨a,b⟩:=bc.1 h;rw[eu a,b]
def ahQ{w}{b}{t}{l}{i}{r}(q:XM w b t l i r)(D:i<=qj l)(E:qj l<9223372036854775807):
  aA aq 153 #[ae (aN ⟨b,0,Pw⟩)] w λe c=>e=ak (ai #[])/\az [b] w c/\XM c b t l (i+lM aM (l.drop i)) r:=by
 refine ret (anG ?_);refine⟨λv c=>∃j,j<=qj l/\v=(qj l)-j/\i+lM aM _=j+lM aM (l.drop j)/\az [b] w c/\XM c b t l j r,(qj l)-i,⟨i,D,I,I,Ib _ _,q⟩,?_⟩;rintro v F ⟨j,m,rfl,h,g,k⟩;have kp:∀{o p:aw} {n:Nat},az [] o p->XM o b t l n r->XM p b t l n r:=λA C=>(A.block b C.lt X).trans C;refine(afF k).mono ?_;rintro _ G ⟨rfl,f⟩;have d:=kp f k;refine⟨_,I,λhc=>?_,λhc=>⟨I,g.trans f X,?_⟩⟩
 .have W:j<qj l:=Yc
  have hx:l[j]? =aN l[j]:=aX W;generalize l[j]=x at hx;have hd:=pu hx;refine⟨T l,Om d 0 I,j,Om d 1 I,x,⟨be j,Xf⟩,λV P=>?_⟩;obtain⟨s,Y,N,S,k3,_⟩:=vA V [9,10,13,32] (n:=4) (parts:=#[(0,.int .u8 9),_,_,_]) I I Z Z;refine⟨s,Y,N,(LK (Af S) x).mono ?_⟩;rintro _ w4 ⟨rfl,Q⟩;have H:=P.bU (k3.bU Q);have r:=kp H d;have w:=g.trans (f.bU H) X;refine⟨_,I,λi=>⟨j,Om r 1 I,b,1,_,t,I,r,X,λw5 M L=>⟨(qj l)-_,J,j+1,J,I,?_,w.trans M X,?_⟩⟩,λi=>(EB r m).mono ?_⟩
  .have e:qB x=aF:=i;rw[h,hd,lM,K e];omega
  .rw[eS J J]at L;exact L
  rintro _ w6 ⟨rfl,e⟩;have am:qj (l.drop j)<=qj l:=by rw[cD];omega
  refine⟨_,I,(abc w6 _ [47,47] J Z).mono ?_⟩;rintro _ w7 ⟨rfl,T⟩;have h7:=kp T (kp e r);refine⟨_,I,λs=>(EB h7 m).mono ?_,λs=>⟨I,w.trans (e.bU T) X,?_⟩⟩
  .rintro _ w8 ⟨rfl,x⟩;refine⟨_,I,(apa w8 _ 10 J).mono ?_⟩;rintro _ w9 ⟨s9,b9,rfl,y⟩;have h9:=kp y (kp x h7);have z:=u s;have hk:=G2 z;have fi:qj ((l.drop j).takeWhile (· !=10))<=qj (l.drop j):=by
    rw[pq,ci];exact Nat.min_le_right _ _
   have NK:0<qj ((l.drop j).takeWhile (· !=10)):=by
    match b:l.drop j,z with
    | a::l,z=>
     have:a=47:=by
      match l,z with
      | n::a,z=>simp at z;exact z.1
     subst this;simp
   have aC:qj (l.drop j)=(qj l)-j:=cD;generalize hn:qj ((l.drop j).takeWhile _)=n at*
   refine⟨_,s9,b9,I,j,Om h9 1 I,b,1,_,t,I,h9,X,λdq dN pK=>⟨(qj l)-_,J,j+n,J,I,?_,(w.trans (e.bU (T.bU (x.bU y))) X).trans dN X,?_⟩⟩
   .rw[h,hk,jI];omega
   .rw[cJ,hn,eS J J]at pK;exact pK
  .have s:¬(l.drop j).take 2=[47,47]:=aU s;have i:qB x=aM:=i;have n:lM aM (l.drop j)=0:=by
    rw[hd,lM,R (by simp[i]),R];intro a;apply s;rw[hd];simp only[B,dr]at a;obtain⟨rfl,a⟩:=a;cases b:l.drop _ with
    | nil=>rw[b]at a;simp at a
    | cons y z=>
     rw[b]at a;simp at a;rw[a];rfl
   rw[h,n];exact h7
 .have z:=dT Yc;rw[h,z];exact d
def Er(w:aw):Prop:=∃t p,w.var? aq "strconv.ErrRange" =aN #[.iface t p]
def er_num:Tryz.prog.globalNamed "strconv.ErrRange" =aN 3:=E
def Er.keep{w w'}(h:Er w)(hk:3<w.heap.size->w'.heap[3]? =w.heap[3]?):Er w':=by
 obtain⟨t,p,h⟩:=h;refine⟨t,p,?_⟩;unfold World.var? at h⊢;rw[er_num]at h⊢;simp at h⊢;rw[hk]
 .exact h
 refine bS λn=>?_;rw[iR J]at h;cases h
def Er.lt{w}(h:Er w):3<w.heap.size:=by
 obtain⟨t,p,h⟩:=h;unfold World.var? at h;rw[er_num]at h;simp at h;refine bS λn=>?_;rw[iR J]at h;cases h
def Er.only{w w'}(h:Er w)(O:az [] w w'):Er w':=h.keep λb=>O.block _ b X
def mF(a:Nat)(d:C):Nat:=d.foldl (λa c=>a*10+(c.toNat-48)) a
def IP:∀d a,a<=mF a d
 | [],a=>H _
 | c::r,a=>by
  have:=IP r (a*10+(c.toNat-48));show a<=mF (a*10+_) r;omega
def pum:∀d a,(∀c,c∈d->dw c=aF)->a<=18446744073709551615->
  Lib.parseUintM 18446744073709551615 a d=if mF a d<=18446744073709551615 then .ok (mF a d)else .range
 | [],a,_,h=>by rw[Lib.parseUintM];exact(K h).symm
 | c::r,a,hd,b=>by
  have h:=hd c X;simp[dw,B,bF]at h;have e:mF a (c::r)=mF (a*10+_) r:=I;have l:=IP r (a*10+(c.toNat-48));rw[Lib.parseUintM,K h,e];split
  .rw[R J]
  split
  .rw[R J]
  rw[pum r _ (λx hx=>hd x Ze) J]
def pib{ds}(hd:∀c,c∈ds->dw c=aF)(i:ds≠[]):Lib.parseIntB 64 ds=if mF 0 ds<9223372036854775808 then .ok (mF 0 ds)else .range:=by
 match ds,i with
 | c::r,_=>
  have e:=hd c X;simp[dw,B,bF]at e;have a:¬(c.toNat=43∨c.toNat=45):=J
  have b:¬c.toNat=45:=J
  have d:Lib.parseUintB 64 (c::r)=Lib.parseUintM 18446744073709551615 0 (c::r):=by
   rw[Lib.parseUintB,R X]
  unfold Lib.parseIntB;dsimp only;rw[R a,d,pum _ _ hd Z];by_cases h:mF 0 (c::r)<=18446744073709551615
  .rw[K h];by_cases w:mF 0 (c::r)<9223372036854775808
   .rw[K w];simp[b];omega
   rw[R w];simp;omega
  rw[R h,R J]
def gK(l:C):Nat×Nat×Int:=
 if l=[]then(0,0,3)else if l.takeWhile dw=[]∨(1<qj (l.takeWhile dw)/\l.head? =aN 48)then(0,0,4)
 else if mF 0 (l.takeWhile dw)<9223372036854775808 then(mF 0 (l.takeWhile dw),qj (l.takeWhile dw),0)else(0,0,20)
def Bt{p}{l:C}:∀c,c∈l.takeWhile p->p c=aF:=by
 have:=List.all_takeWhile (p:=p) (l:=l);rwa[du]at this
def abw{a:aw}{l:C}(E:Er a)(i:qj l<281474976710656):
  aA aq 247 #[ab (T l)] a λe w=>e=ak (ai #[O U (gK l).1,O U (gK l).2.1,O U (gK l).2.2])/\az [] a w:=by
 refine ret (v0w ?_);refine⟨λv j w=>∃n,n<=qj l/\j=n/\v=(qj l)-n/\(∀x,x∈l.take n->dw x=aF)/\az [] a w,qj l,⟨0,bf _,I,I,X,Ib _ _⟩,?_⟩;rintro v _ g ⟨n,d,rfl,rfl,f,c⟩;rw[cJ];refine⟨λb w=>(b=aF->∃x,l[n]? =aN x/\dw x=aF)/\(b=aM->∀x,l[n]? =aN x->dw x=aM)/\az [] a w,?_,λh=>?_,λh=>⟨λe=>U4,λ_ x hx=>?_,c⟩⟩
 .rintro b q ⟨m,o,r⟩;refine⟨λk=>?_,λk=>?_⟩
  .obtain⟨x,hx,e⟩:=m k;have W:=(bc.1 hx).1;refine⟨(qj l)-(n+1),J,n+1,J,Ye,I,λy b=>?_,r⟩;rw[bn,hx]at b;simp at b;rcases b with b | rfl
   .exact f y b
   exact e
  have y:=nH d f (o k);have B:qj (l.takeWhile dw)=n:=by rw[y,ci];omega
  have z:(ao #[])=T []:=I;rw[z,ji];refine⟨λt=>⟨?_,r⟩,λt=>?_⟩
  .have t:l=[]:=u t;rw[gK,K t];rfl
  have t:¬l=[]:=aU t;refine⟨λb w=>b=YR (l.takeWhile dw=[]∨(1<qj (l.takeWhile dw)/\l.head? =aN 48))/\az [] a w,?_,λhz=>?_,λhz=>?_⟩
  .rintro b x ⟨rfl,P⟩;refine⟨λk=>⟨?_,P⟩,λk=>⟨n,⟨I,d⟩,?_⟩⟩
   .rw[gK,R t,K (u k)];rfl
   have k:=aU k;have hx:(T l).extract 0 n=T (l.takeWhile dw):=by rw[wG,gJ,pM,y]
   rw[hx];have F:l.takeWhile dw≠[]:=λe=>k (.inl e);have b:=pib (Bt (p:=dw) (l:=l)) F;have A:(T (l.takeWhile dw)).size<=281474976710656:=Yv
   by_cases D:mF 0 (l.takeWhile dw)<9223372036854775808
   .rw[K D]at b;refine(Tryz.strconv_ParseInt_10_at64_ok (T (l.takeWhile dw)) (bB A Z) _ b x).mono ?_;rintro _ G ⟨rfl,p⟩;have n:az [] x G:=by
     rcases p with rfl | ⟨s,rfl⟩
     .exact Ib _ _
     exact Ou (Lib.bytesWorld_below _ _ _)
    refine⟨_,⟨.nilIface,I⟩,I,.inl I,λe=>U4,λ_=>⟨?_,P.bU n⟩⟩;rw[gK,R t,R k,K D,B]
   rw[R D]at b;obtain⟨G,p,n⟩:=E.only P;refine(Tryz.strconv_ParseInt_10_at64_range_var (T (l.takeWhile dw)) A b G p x n).mono ?_;rintro _ H ⟨N,rfl,_,_,s⟩;refine⟨_,⟨.iface _ _,I⟩,I,.inr ⟨_,_,I⟩,λ_=>⟨?_,P.bU (Ou s)⟩,λe=>U4⟩;rw[gK,R t,R k,R D];rfl
  .have hz:n=0:=SE
   subst hz;refine⟨?_,r⟩;symm;rw[bG (.inl (bL B))];rfl
  have hz:n≠0:=SE
  obtain⟨x,b,rfl⟩:∃x b,l=x::b:=by
   cases l with
   | nil=>exact absurd I t
   | cons x b=>exact⟨x,b,I⟩
  refine⟨x,λ_=>⟨ja _,Xo⟩,?_,r⟩;have p:(x::b).takeWhile dw≠[]:=λe=>by rw[e]at B;exact hz B.symm
  rw[B,bK];simp;constructor
  .rintro⟨m,o⟩;exact .inr ⟨J,aa7.1 (by show x.toNat=48;omega)⟩
  rintro(e | ⟨m,rfl⟩)
  .exact absurd e p
  exact⟨J,I⟩
 .have W:(n:Int)<qj l:=u h;have hx:l[n]? =aN (l[n]' J):=aX J;generalize l[n]' J=x at hx;refine⟨x,⟨be n,Xf⟩,(abp g x).mono ?_⟩;rintro _ m ⟨rfl,e⟩;refine⟨_,I,λk=>⟨x,hx,k⟩,λhd y b=>?_,c.bU e⟩;rw[hx]at b;injection b with b;subst b;exact hd
 have A:¬(n:Int)<qj l:=aU h;have:=(bc.1 hx).1;omega
structure Tk where
 k:Int
 t:C
 n:Int
 a:Int
deriving DecidableEq
def Tk.v(x:Tk):ay:=ah #[O U x.k,ab (T x.t),O U x.n,O U x.a]
def OZ:Rp Tk:=λ_ _ x c=>c=[O U x.k,ab (T x.t),O U x.n,O U x.a]
def jk:OZ.Ok where
 keep h _:=h
 inHeap h:=h
 mono h _:=h
 one:=by
  rintro w F x c h v a;subst h;simp at a;rcases a with rfl | rfl | rfl | rfl<;>rfl
abbrev ol(B:Nat)(w:aw)(s:Sl)(x:L Tk):Prop:=Own OZ 4 184 B w (λ_=>True) s x
def ol.of{B}{w}{F}{s}{xs}(h:Own OZ 4 184 B w F s xs):ol B w s xs:=h.mono jk λ_ _=>trivial
def ol.sl{B}{w}{s}{xs}(h:ol B w s xs):aB OZ 4 w (λk=>B<=k/\s.a=aN ⟨k,0,Pw⟩) s xs:=Rc jk (λ_ _ _ _ _ h=>h) h
def ol.flat{B}{w}{s}{xs}(h:ol B w s xs):Own OZ 4 184 B w (λ_=>False) s xs:=by
 rcases h with h | ⟨k,c,tail,a,b,d,e,f,g,j,i⟩
 .exact .inl h
 exact .inr ⟨k,c,tail,a,b,d,e,f,g,j,iL.imp (λ_ _ h=>h) i⟩
def ol.keep{B}{w w'}{s}{xs}(h:ol B w s xs)(hk:∀k,B<=k/\s.a=aN ⟨k,0,Pw⟩->k<w.heap.size->w'.heap[k]? =w.heap[k]?):ol B w' s xs:=
 ol.of (h.flat.keep jk λk F b=>hk k (F.elim False.elim id) b)
def ol.only{B}{w w'}{s}{xs}(h:ol B w s xs)(O:az [] w w'):ol B w' s xs:=h.keep λk _ b=>O.block k b X
def ol.p{B}{w w'}{s}{xs}{D}(h:ol B w s xs)(O:aE D w w')(a:∀k,B<=k->s.a=aN ⟨k,0,Pw⟩->¬D k):ol B w' s xs:=h.keep λk hk b=>O.block k b (a k hk.1 hk.2)
def ahD{w}{B}{s}{xs} t (j:ol B w s xs) (f:B<=w.heap.size) (m:(qj xs+1)*40<=140737488355328):
  ∃y a,(av 167 1 #[(0,t.v)]).run aq w=.ok (Sl.v y) a/\az [] w a/\∃c b,(Builtin.append_ #[167,167] 167 #[Sl.v s,Sl.v y]).run aq a=.ok (Sl.v c) b/\ol B b c (xs++[t])/\aE (λk=>B<=k/\s.a=aN ⟨k,0,Pw⟩) a b:=by
 obtain⟨y,a,l,n,c,b,k3,o,⟨q,p,d⟩,_⟩:=kx (P:=aq) (t:=167) (ty:=167) (e:=184) (i:=Tryz.t184) (bytes:=40) (size:=4) (v:=t.v) (x:=t) (G:=λ_=>False) E E I I I I Z Z Z jk j f I I (λk hk _=>hk.elim) m;exact⟨y,a,l,n,c,b,k3,ol.of o,p.p λg h=>.inl ⟨(d g h).2.1,(d g h).1⟩⟩
def lq:L (C):=[[97,102,116,101,114],[97,108,119,97,121,115],[99,104,97,114,116],[100,101,101,112],[101,109,105,116],[101,110,116,101,114],[104,105,115,116,111,114,121],[105,110],[105,110,105,116,105,97,108],[108,101,97,118,101],[111,110],[112,97,114,97,108,108,101,108],[114,97,105,115,101],[115,101,116],[115,116,97,116,101],[118,97,114]]
def ahz w:aA aq 152 #[] w λe a=>∃s,e=ak s.v/\Own nU 1 9 w.heap.size a (λ_=>True) s lq/\az [] w a:=by
 refine gX (anF ?_);obtain⟨s,a,h,b,c⟩:=lp w lq (n:=16) I I Z Z;exact⟨s,a,h,s,I,b,c⟩
structure Cut (w:aw) (b:Nat) (l:C) (i:Nat) (rs:Sl) (acc:List Tk):Prop where
 blk:∃ws:Sl,aG w b 213 [ab (T l),O U (i:Int),ws.v,rs.v]/\aB nU 1 w (λk=>k<b) ws lq
 own:ol (b+1) w rs acc
 er:Er w
 gb:3<b
 il:i<=qj l
 ll:qj l<=16384
def Cut.lt{w}{b}{l}{i}{rs}{acc}(h:Cut w b l i rs acc):b<w.heap.size:=by
 obtain⟨s,a,_⟩:=h.blk;exact a.lt
def Cut.only{w w'}{b}{l}{i}{rs}{acc}(h:Cut w b l i rs acc)(O:az [] w w'):Cut w' b l i rs acc:=by
 obtain⟨s,a,c⟩:=h.blk;exact⟨⟨s,(O.block b a.lt X).trans a,Wg dG Z c O X⟩,h.own.only O,h.er.only O,h.gb,h.il,h.ll⟩
def Cut.move{w w'}{b}{l}{i j}{rs}{acc}(h:Cut w b l i rs acc)(a:az [b] w w')(e:j<=qj l)(B:∀s:Sl,aG w b 213 [ab (T l),O U i,s.v,rs.v]->aG w' b 213 [ab (T l),O U j,s.v,rs.v]):Cut w' b l j rs acc:=by
 obtain⟨s,c,d⟩:=h.blk;exact⟨⟨s,B s c,Wg dG Z d a (by intro k hk _;simp;omega)⟩,h.own.keep λk hk W=>a.block k W S,h.er.keep λW=>a.block _ W (by simp;have:=h.gb;omega),h.gb,e,h.ll⟩
def Rf{w:aw}{b:Nat}{l:C}{i:Nat}{r:Sl}{a:L Tk}(c:Cut w b l i r a)(k:Int)(t:C)(z N:Int)(n:Nat)(V:i+n<=qj l)(ha:qj a<=16384):
  aA aq 156 #[ae (aN ⟨b,0,Pw⟩),ah #[O U k,ab (T t),O U z,O U N],O U (n:Int)] w λe G=>e=ak (ai #[])/\aE (λk=>b<=k) w G/\∃A,Cut G b l (i+n) A (a++[⟨k,t,z,i⟩]):=by
 refine ret (anJ ?_);intro v w0 fN dS m;have K:=c.lt;have M:=c.ll;have E:=c.only m;obtain⟨j,D,am⟩:=E.blk;refine⟨i,Om D 1 I,λo g=>?_⟩;have B:=D.lt;have H:aG o b 213 _:=(g.block b B Uf).trans D;have u:ol (b+1) o r a:=E.own.keep λq h W=>by
  refine g.block q W ?_;simp only[aV];rintro rfl;have:=(c.own.blk h.2).2;dsimp only at this;omega
 have z1:=g.size;obtain⟨y,w2,P,d,s,p,Q,R,f⟩:=ahD ⟨k,t,z,i⟩ u J (bB (fS 40 (show (qj a)+1<=16385 by omega)) Z);have z2:=d.size;have z3:=f.size;have Y:∀q,r.a=aN ⟨q,0,Pw⟩->q≠v:=λq h=>by
  have:=(c.own.blk h).2;dsimp only at this;omega
 refine⟨λq=>q=b,I,r,Om H 3 I,y,w2,P,d.same S,Uy d,s,p,Q,?_,?_,?_⟩
 .exact f.same (by intro x b;simp only[aV]at b;subst b;exact⟨J,λe=>Y _ e.2 I⟩)
 .intro q h W;exact f.block q W J
 have aC:aG p b 213 [ab (T l),O U (i:Int),j.v,r.v]:=(f.block b J J).trans ((d.block b J X).trans H);refine⟨b,3,_,213,by rw[iK],aC,X,J,λy x e=>?_⟩;have e:aG y b 213 [ab (T l),O U (i:Int),j.v,s.v]:=e;refine⟨i,Om e 1 I,b,1,_,213,by rw[spv,iK],e,X,J,λw5 eJ t=>⟨I,?_,s,?_⟩⟩
 .have n:aE (λk=>b<=k) w o:=m.p0.trans (g.p (F:=λq=>q=v) λb hb=>.inl Xu) λq h=>J
  have O:aE (λk=>b<=k) w p:=(n.bU d).trans f λq h=>.inl J;have T:aE (λk=>b<=k) w y:=O.trans (x.p (F:=λq=>q=b) λb hb=>.inl Xu) λq h=>.inl J;exact T.trans (eJ.p (F:=λq=>q=b) λb hb=>.inl Xu) λq h=>.inl J
 have z4:=x.size;have t:aG w5 b 213 [ab (T l),O U (IntKind.i64.wrap ((i:Int)+n)),j.v,s.v]:=t;rw[eS J J]at t;have up:aE (λk=>b<=k) w w5:=by
  have n:aE (λk=>b<=k) w o:=m.p0.trans (g.p (F:=λq=>q=v) λb hb=>.inl Xu) λq h=>J
  have O:aE (λk=>b<=k) w p:=(n.bU d).trans f λq h=>.inl J;have T:aE (λk=>b<=k) w y:=O.trans (x.p (F:=λq=>q=b) λb hb=>.inl Xu) λq h=>.inl J;exact T.trans (eJ.p (F:=λq=>q=b) λb hb=>.inl Xu) λq h=>.inl J
 have aS:=c.gb;obtain⟨Vi,oI,aT⟩:=c.blk;have bv:Vi=j:=by
  have:aG w0 b 213 [ab (T l),O U (i:Int),Vi.v,r.v]:=(m.block b K X).trans oI;unfold aG at this D;rw[this]at D;simp[Sl.v]at D;cases j;cases Vi;simp_all
 subst bv;refine⟨⟨Vi,t,U6 dG Z aT up λq h _ hd=>J⟩,?_,c.er.keep λW=>up.block _ W J,aS,V,M⟩;have e4:ol (b+1) y s _:=R.keep λq h W=>x.block q W Uf;exact e4.keep λq h W=>eJ.block q W Uf
abbrev Tq:=Int×C×Int×Nat
def oU(m:C):Except Int Tq:=
 if 24<qj (m.takeWhile fx) then .error 2 else .ok (if lq.contains (m.takeWhile fx)then 2 else 1,m.takeWhile fx,0,qj (m.takeWhile fx))
def vB(m:C):Except Int Tq:=
 if(gK m).2.2≠0 then .error (gK m).2.2 else if(gK m).2.1<qj (m.takeWhile fx) then .error 4 else .ok (3,[],(gK m).1,(gK m).2.1)
def qC:C:=[123,125,40,41,91,93,59,44,61,43,45,42,47,37,60,62,33]
def uk(m:C):M:=match m with
 | c::d::_=>(d==61&&[60,62,61,33].contains c)||(d==c&&[38,124].contains c)||(c==45&&d==62)
 | _=>aM
def jV(m:C):Nat:=if uk m then 2 else match m with
 | c::_=>if qC.contains c then 1 else 0
 | []=>0
def qk(m:C):Except Int Tq:=if jV m=0 then .error 4 else .ok (4,m.take (jV m),0,jV m)
def nI(m:C):Except Int Tq:=match m with
 | []=>.error 4
 | c::_=>if fU c then oU m else if dw c then vB m else qk m
def Xk(w:aw)(b:Nat)(l:C)(i:Nat)(a:L Tk)(r:Except Int Tq)(v:ay):Prop:=match r with
 | .error e=>v=O U e/\∃s,Cut w b l i s a
 | .ok q=>v=O U 0/\∃s,Cut w b l (i+q.2.2.2) s (a++[⟨q.1,q.2.1,q.2.2.1,i⟩])
def ul{p}{l:C}:qj (l.takeWhile p)<=qj l:=by
 rw[pq,ci];exact Nat.min_le_right _ _
def ahT{w}{b}{l}{i}{rs}{acc}(h:Cut w b l i rs acc)(g:qj acc<=16384):
  aA aq 208 #[ae (aN ⟨b,0,Pw⟩)] w λe a=>∃v,e=ak v/\aE (λk=>b<=k) w a/\Xk a b l i acc (oU (l.drop i)) v:=by
 refine aob ⟨b,0,Pw⟩ w ?_;obtain⟨s,d,f⟩:=h.blk;have m:=h.ll;refine(Xg d h.il J).mono ?_;rintro _ n ⟨rfl,c⟩;have j:=by
  have:=ul (p:=fx) (l:=l.drop i);rwa[cD]at this
 have Q:=h.il;refine⟨_,I,λhc=>⟨c.p0,?_⟩,λhc=>?_⟩
 .rw[cJ]at hc;rw[oU,K Zm];exact⟨I,rs,h.only c⟩
 rw[cJ]at hc;have hc:¬24<qj ((l.drop i).takeWhile fx):=Xt
 rw[oU,R hc];generalize p:(l.drop i).takeWhile fx=b at*
 obtain⟨V,o,e⟩:=(h.only c).blk;refine⟨λk a=>k=(if lq.contains b then 2 else 1)/\az [] w a,?_,V,Om o 2 I,(wT e b).mono ?_⟩
 .rintro _ w ⟨rfl,r⟩;refine(ret (afB _ (λv a=>v=ab (T b)/\az [] w a) w ?_)).mono ?_
  .refine(Tryz.stringslite_Clone _ w Yv).mono ?_;rintro _ i ⟨rfl,f⟩;exact⟨_,I,I,Ou f⟩
  rintro _ k ⟨rfl,P⟩;rw[cJ];refine⟨_,I,(Rf (h.only (r.bU P)) _ b 0 0 (qj b) J g).mono ?_⟩;rintro _ l ⟨rfl,Z,i,C⟩;exact⟨I,(r.bU P).nP Z,I,i,C⟩
 rintro _ w ⟨rfl,i⟩;refine⟨_,I,λd=>⟨by rw[K d],c.bU i⟩,λd=>⟨by rw[d];rfl,c.bU i⟩⟩
def bsz{w}{b}{l:C}{i}{rs}{acc}(h:Cut w b l i rs acc)(d:qj acc<=16384):
  aA aq 210 #[ae (aN ⟨b,0,Pw⟩)] w λe a=>∃v,e=ak v/\aE (λk=>b<=k) w a/\Xk a b l i acc (vB (l.drop i)) v:=by
 refine aod ⟨b,0,Pw⟩ (λv a=>aE (λk=>b<=k) w a/\Xk a b l i acc (vB (l.drop i)) v) w ?_;obtain⟨s,f,m⟩:=h.blk;have g:=h.ll;have Q:=h.il;refine(EB f h.il).mono ?_;rintro _ n ⟨rfl,c⟩;have B:qj (l.drop i)=(qj l)-i:=cD;refine⟨_,I,(abw (h.er.only c) J).mono ?_⟩;rintro _ o ⟨rfl,r⟩;have j:=c.bU r;refine⟨_,_,_,I,λhe=>⟨j.p0,?_⟩,λhe=>?_⟩
 .rw[vB,K UB];exact⟨I,rs,h.only j⟩
 have he:¬(gK (l.drop i)).2.2≠0:=UB
 have hk:(gK (l.drop i)).2.1<=qj (l.drop i):=by
  have:=ul (p:=dw) (l:=l.drop i);unfold gK;split
  .exact bf _
  split
  .exact bf _
  split
  .exact this
  exact bf _
 obtain⟨V,b,w⟩:=(h.only j).blk;refine(Xg b h.il J).mono ?_;rintro _ e ⟨rfl,P⟩;have q:=j.bU P;refine⟨_,I,?_⟩;dsimp only;rw[cJ];refine⟨λhc=>⟨q.p0,?_⟩,λhc=>?_⟩
 .rw[vB,R he,K Zm];exact⟨I,rs,h.only q⟩
 rw[vB,R he,R Xt];refine(Rf (h.only q) 3 [] _ 0 (gK _).2.1 J d).mono ?_;rintro _ p ⟨rfl,Z,i,k⟩;exact⟨I,q.nP Z,I,i,k⟩
def wU(w:aw)(p:Addr)(n:Nat)(a:Addr):(w.freeze p n).cell? a=w.cell? a:=by
 unfold World.freeze;split
 .rfl
 unfold World.cell?;simp only[n8];by_cases b:p.block=a.block
 .rw[K b];rcases h:w.heap[a.block]? with _|o
  .rfl
  cases o with
  | cells c e f=>obtain⟨l,h⟩:=f;rfl
  | _=>rfl
 rw[R b]
def wV(w:aw)(p:Addr)(n:Nat):aE (λk=>k=p.block) w (w.freeze p n):=by
 unfold World.freeze;split
 .exact YW _ _
 exact⟨I,I,I,X,λk hk h=>by
  simp only[n8];rw[R λe=>h e.symm]⟩
def ahU{w:aw}{F:A}{s:Sl}{g B:Nat}{l:C}(b:s.a=aN ⟨g,0,Pw⟩)(i:Own ma 1 5 B w F s l)(W:g<w.heap.size):
  ∃d,(convert 230 230 (Sl.v s)).run aq w=.ok (Sl.v s) d/\aB ma 1 d (λ_=>True) s l/\aE (λk=>k=g) w d:=by
 have h:=Af i;obtain⟨r,c,tail,a,p,f,_⟩:=i.resolve_left (λe=>by rw[e.1]at b;cases b);rw[b]at a;injection a with a;injection a with a;subst a;have o:w.shape? g=aN (5,(c.flatten++tail).toArray.size):=by
  unfold World.shape?;unfold aG at f;rw[f]
 have m:Tryz.prog.underlying 230=aN (.slice 5):=E
 have u:Tryz.prog.underlying 5=aN (.int .u8):=E
 refine⟨w.freeze ⟨g,(c.flatten++tail).toArray.size,Pw⟩ 1,?_,⟨h.len,h.cap,h.nil0,h.big,λn x j=>?_⟩,wV w ⟨g,(c.flatten++tail).toArray.size,Pw⟩ 1⟩
 .unfold Sl.v;rw[b];simp[convert,run_underlying m,run_underlying u,markStringish,o,Result.andThen]
 obtain⟨s,e,k,G,t,y,z⟩:=h.at_ n x j;exact⟨s,e,k,trivial,t,λq v D=>by rw[wU];exact y q v D,z⟩
def Rg{c d:UInt8}:((c.toNat:Int)==(d.toNat:Int))=(c==d):=by
 rw[bK];simp only[dr];constructor
 .intro h;exact aa7.1 J
 rintro rfl;rfl
def aeI{m:C}(h:uk m=aF):2<=qj m:=by
 match m,h with
 | _::_::_,_=>simp
def Ag{m:C}:jV m<=qj m:=by
 unfold jV;split
 .exact aeI (by assumption)
 split
 .split
  .simp
  exact bf _
 exact bf _
def ahV{f:aw}{b:Nat}{l:C}{i:Nat}{q:Sl}{a:L Tk}(j:Cut f b l i q a)(u:qj a<=16384)(A:i<qj l):
  aA aq 211 #[ae (aN ⟨b,0,Pw⟩)] f λe w=>∃v,e=ak v/\aE (λk=>b<=k) f w/\Xk w b l i a (qk (l.drop i)) v:=by
 refine aof ⟨b,0,Pw⟩ (λv w=>aE (λk=>b<=k) f w/\Xk w b l i a (qk (l.drop i)) v) f ?_;obtain⟨D,h,p⟩:=j.blk;have y:=j.ll;have Q:=j.il;refine(EB h j.il).mono ?_;rintro _ o ⟨rfl,t⟩;have B:qj (l.drop i)=(qj l)-i:=cD;generalize z:l.drop i=m at*
 obtain⟨c,r,rfl⟩:∃c r,m=c::r:=by
  cases m with
  | nil=>simp at B;omega
  | cons c r=>exact⟨c,r,I⟩
 have g:(0:Int)<=0/\(T (c::r))[0]? =aN c:=⟨ja _,Xo⟩
 refine⟨T (c::r),I,λx w=>x=(if qC.contains c then 1 else 0:Int)/\az [] f w,?_,c,g,?_⟩
 .rintro _ F ⟨rfl,k⟩;refine⟨λE w=>E=(jV (c::r):Int)/\az [] f w,?_,λb w=>b=uk (c::r)/\az [] f w,?_,?_,?_⟩
  .rintro _ b ⟨rfl,P⟩;refine⟨λhz=>⟨P.p0,?_⟩,λhz=>⟨jV (c::r),⟨I,by rw[cJ];exact Ag⟩,?_⟩⟩
   .rw[qk,K (by have:(jV (c::r):Int)=0:=SE;omega)];exact⟨I,q,j.only P⟩
   have hz:¬jV (c::r)=0:=by
    intro e;rw[e]at hz;simp at hz
   rw[qk,R hz,wG,gJ,pM];have n:=Ag (m:=c::r);refine(ret (afB (T _) (λv w=>v=ab (T ((c::r).take (jV (c::r))))/\az [] b w) b ?_)).mono ?_
   .refine(Tryz.stringslite_Clone (T _) b (by rw[cJ,ci];omega)).mono ?_;rintro _ c ⟨rfl,p⟩;exact⟨_,I,I,Ou p⟩
   rintro _ G ⟨rfl,d⟩;refine⟨_,I,(Rf (j.only (P.bU d)) 4 _ 0 0 (jV (c::r)) J u).mono ?_⟩;rintro _ H ⟨rfl,e,s,v⟩;exact⟨I,(P.bU d).nP e,I,s,v⟩
  .rintro _ d ⟨rfl,b⟩;refine⟨λhs=>⟨by rw[jV,K hs];rfl,b⟩,λhs=>⟨?_,b⟩⟩;have e:jV (c::r)=if qC.contains c then 1 else 0:=by rw[jV,R H9]
   rw[e];split<;>rfl
  .intro b;rw[cJ]at b;obtain⟨d,r,rfl⟩:∃d e,r=d::e:=by
    cases r with
    | nil=>simp at b
    | cons d r=>exact⟨d,r,I⟩
   have P:(0:Int)<=1/\(T (c::d::r))[1]? =aN d:=⟨Z,Xo⟩
   have ex:(T (c::d::r)).extract 0 2=T [c,d]:=by rw[wG];rfl
   have sz:2<=(T (c::d::r)).size:=by rw[cJ];simp
   have S:(ao #[45,62])=T [45,62]:=I;have N:((T [c,d]).toList==(T [45,62]).toList)=(c==45&&d==62):=by
    rw[ji,bK];simp
   have H:((d.toNat:Int)==61)=(d==61):=Rg (d:=61);have W:uk (c::d::r)=((d==61&&[60,62,61,33].contains c)||(d==c&&[38,124].contains c)||(c==45&&d==62)):=I;rw[W];generalize X:([60,62,61,33]:C).contains c=p1;generalize M:([38,124]:C).contains c=p2;have G:((((T (c::d::r)).extract 0 2).toList)==((ao #[45,62]).toList))=(c==45&&d==62):=by rw[ex,S,N]
   refine⟨d,P,λv=>⟨c,g,λw6 dV=>?_⟩,λv=>⟨d,P,c,g,λV=>⟨c,g,λY eG=>?_⟩,λV=>⟨sz,λfV eZ=>⟨?_,k.bU eZ⟩⟩⟩⟩
   .rw[H]at v;obtain⟨s,w7,T,k2,k3,_⟩:=vA w6 [60,62,61,33] (n:=4) (parts:=#[(0,.int .u8 60),(1,.int .u8 62),(2,.int .u8 61),(3,.int .u8 33)]) I I Z Z;refine⟨s,w7,T,(LK (Af k2) c).mono ?_⟩;rintro _ w8 ⟨rfl,fK⟩;have kg:=k.bU (dV.bU (k3.bU fK));rw[X];refine⟨_,I,λh=>⟨by rw[v,h];rfl,kg⟩,λh=>⟨d,P,c,g,λV=>⟨c,g,?_⟩,λV=>⟨sz,?_,kg⟩⟩⟩
    .rw[Rg]at V;obtain⟨s,w9,T,k2,k3,_⟩:=vA w8 [38,124] (n:=2) (parts:=#[(0,.int .u8 38),(1,.int .u8 124)]) I I Z Z;refine⟨s,w9,T,(LK (Af k2) c).mono ?_⟩;rintro _ dq ⟨rfl,dN⟩;have hO:=kg.bU (k3.bU dN);rw[M];exact⟨_,I,λd=>⟨by rw[v,h,V,d];rfl,hO⟩,λd=>⟨sz,by rw[G,v,h,V,d];rfl,hO⟩⟩
    rw[Rg]at V;rw[G,v,h,V];rfl
   .rw[H]at v;rw[Rg]at V;obtain⟨s,ey,k1,k2,k3,_⟩:=vA Y [38,124] (n:=2) (parts:=#[(0,.int .u8 38),(1,.int .u8 124)]) I I Z Z;refine⟨s,ey,k1,(LK (Af k2) c).mono ?_⟩;rintro _ eY ⟨rfl,dE⟩;have T:=k.bU (eG.bU (k3.bU dE));rw[M];exact⟨_,I,λd=>⟨by rw[v,V,d];rfl,T⟩,λd=>⟨sz,by rw[G,v,V,d];rfl,T⟩⟩
   rw[H]at v;rw[Rg]at V;rw[G,v,V];rfl
  intro c T e;rw[cJ]at c;have b:r=[]:=by
   cases r with
   | nil=>rfl
   | cons d r=>exact absurd (aU c) (by simp only[aZ];omega)
  subst b;exact⟨I,k.bU e⟩
 obtain⟨s,N,P,e,k3,v⟩:=vA o qC (n:=17) (parts:=#[(0,.int .u8 123),(1,.int .u8 125),(2,.int .u8 40),(3,.int .u8 41),(4,.int .u8 91),(5,.int .u8 93),(6,.int .u8 59),(7,.int .u8 44),(8,.int .u8 61),(9,.int .u8 43),(10,.int .u8 45),(11,.int .u8 42),(12,.int .u8 47),(13,.int .u8 37),(14,.int .u8 60),(15,.int .u8 62),(16,.int .u8 33)]) I I Z Z;obtain⟨b,E,G,H⟩:=ahU v e (e.blk v).2;have M:az [] o b:=((k3.p0 (F:=λk=>o.heap.size<=k)).trans H λk hk=>.inl J).only λk hk=>hk;refine⟨s,N,P,s,b,E,(LK G c).mono ?_⟩;rintro _ T ⟨rfl,S⟩;have d:=t.bU (M.bU S);exact⟨_,I,λh=>⟨by rw[K h],d⟩,λh=>⟨by rw[h];rfl,d⟩⟩
def Xk.int{w:aw}{b:Nat}{l:C}{i:Nat}{a:L Tk}{r:Except Int Tq}{v:ay}(h:Xk w b l i a r v):∃k:Int,v=O U k:=by
 unfold Xk at h;split at h
 .exact⟨_,h.1⟩
 exact⟨_,h.1⟩
def acV{w:aw}{b:Nat}{l:C}{i:Nat}{s:Sl}{a:L Tk}(h:Cut w b l i s a)(d:qj a<=16384)(m:i<qj l):
  aA aq 155 #[ae (aN ⟨b,0,Pw⟩)] w λe c=>∃v,e=ak v/\aE (λk=>b<=k) w c/\Xk c b l i a (nI (l.drop i)) v:=by
 refine anI ⟨b,0,Pw⟩ (λv c=>aE (λk=>b<=k) w c/\Xk c b l i a (nI (l.drop i)) v) w ?_;obtain⟨u,g,q⟩:=h.blk;have hx:l[i]? =aN l[i]:=aX m;generalize l[i]=x at hx;have t:nI (l.drop i)=if fU x then oU (l.drop i)else if dw x then vB (l.drop i)else qk (l.drop i):=by
  rw[pu hx];rfl
 rw[t];refine⟨T l,Om g 0 I,i,Om g 1 I,x,⟨be i,Xf⟩,λo n=>(EA o x).mono ?_⟩;rintro _ p ⟨rfl,r⟩;have j:=n.bU r;refine⟨_,I,λf=>?_,λf=>(acD p x).mono ?_⟩
 .rw[K f];refine(ahT (h.only j) d).mono ?_;rintro _ b ⟨v,rfl,P,hd⟩;obtain⟨k,rfl⟩:=hd.int;exact⟨k,I,j.nP P,hd⟩
 rintro _ e ⟨rfl,Z⟩;have b:=j.bU Z;rw[R (by rw[f];decide)];refine⟨_,I,λhd=>?_,λhd=>?_⟩
 .rw[K hd];refine(bsz (h.only b) d).mono ?_;rintro _ x ⟨v,rfl,P,hd⟩;obtain⟨k,rfl⟩:=hd.int;exact⟨k,I,b.nP P,hd⟩
 rw[R (by rw[hd];decide)];refine(ahV (h.only b) d m).mono ?_;rintro _ x ⟨v,rfl,P,hd⟩;obtain⟨k,rfl⟩:=hd.int;exact⟨k,I,b.nP P,hd⟩
def xR{m:C}{q:Tq}(h:nI m=.ok q):1<=q.2.2.2:=by
 cases m with
 | nil=>cases h
 | cons c r=>
  simp only[nI]at h;split at h
  .rename_i a;unfold oU at h;split at h
   .cases h
   injection h with h;subst h;have:fx c=aF:=by unfold fx;rw[a];rfl
   dsimp only;rw[dF,K this,aZ];omega
  split at h
  .rename_i c;unfold vB at h;split at h
   .cases h
   split at h
   .cases h
   rename_i b a;injection h with h;subst h;dsimp only;rw[dF,K (by unfold fx;rw[c,pL]),aZ]at a;omega
  unfold qk at h;split at h
  .cases h
  injection h with h;subst h;dsimp only;omega
def IQ{m:C}{e:Int}(h:nI m=.error e):e≠0:=by
 cases m with
 | nil=>injection h with h;omega
 | cons c r=>
  simp only[nI]at h;split at h
  .unfold oU at h;split at h
   .injection h with h;omega
   cases h
  split at h
  .unfold vB at h;split at h
   .injection h with h;omega
   split at h
   .injection h with h;omega
   cases h
  unfold qk at h;split at h
  .injection h with h;omega
  cases h
def ED(l:C):Nat->Nat->Except (Int×Nat) (L Tk)
 | 0,_=>.ok []
 | f+1,i=>
  if (qj l)<=i+lM aM (l.drop i)then .ok [⟨5,[],0,(i+lM aM (l.drop i):Nat)⟩]
  else match nI (l.drop (i+lM aM (l.drop i)))with
   | .error e=>.error (e,i+lM aM (l.drop i))
   | .ok q=>match ED l f (i+lM aM (l.drop i)+q.2.2.2)with
    | .error x=>.error x
    | .ok r=>.ok (⟨q.1,q.2.1,q.2.2.1,(i+lM aM (l.drop i):Nat)⟩::r)
def aaK{l:C}:(gK l).2.1<=qj l:=by
 have:=ul (p:=dw) (l:=l);unfold gK;split
 .exact bf _
 split
 .exact bf _
 split
 .exact this
 exact bf _
def EF{m:C}{q:Tq}(h:nI m=.ok q):q.2.2.2<=qj m:=by
 cases m with
 | nil=>cases h
 | cons c r=>
  simp only[nI]at h;split at h
  .unfold oU at h;split at h
   .cases h
   injection h with h;subst h;exact ul
  split at h
  .unfold vB at h;split at h
   .cases h
   split at h
   .cases h
   injection h with h;subst h;exact aaK
  unfold qk at h;split at h
  .cases h
  injection h with h;subst h;exact Ag
def LO{l:C}{i:Nat}(h:i<=qj l):i+lM aM (l.drop i)<=qj l:=by
 have:=IM (b:=aM) (l:=l.drop i);rw[cD]at this;omega
def acx(l:C):∀(f g i:Nat),i<=(qj l)->qj l<i+f->qj l<i+g->ED l f i=ED l g i
 | 0,_,i,a,h,_=>J
 | _,0,i,a,_,h=>J
 | f+1,g+1,i,b,h,a=>by
  rw[ED,ED];split
  .rfl
  split
  .rfl
  rename_i q c;have e:=xR c;have d:=EF c;rw[cD]at d;rw[acx l f g _ J J J]
def lN(l:C)(i:Nat):Except (Int×Nat) (L Tk):=ED l (qj l+1) i
def lI{l:C}{i:Nat}(h:i<=qj l):lN l i=if (qj l)<=i+lM aM (l.drop i)then .ok [⟨5,[],0,(i+lM aM (l.drop i):Nat)⟩]
  else match nI (l.drop (i+lM aM (l.drop i)))with
   | .error e=>.error (e,i+lM aM (l.drop i))
   | .ok q=>match lN l (i+lM aM (l.drop i)+q.2.2.2)with
    | .error x=>.error x
    | .ok r=>.ok (⟨q.1,q.2.1,q.2.2.1,(i+lM aM (l.drop i):Nat)⟩::r):=by
 unfold lN;rw[ED];split
 .rfl
 split
 .rfl
 rename_i q a;have c:=xR a;have b:=EF a;rw[cD]at b;rw[acx l (qj l) (qj l+1) _ J J J]
def de(l:C):L Tk×Int×Int:=if 16384<qj l then([],2, -1)else match lN l 0 with
 | .error x=>([],x.1,(x.2:Nat))
 | .ok r=>(r,0,0)
def lr(a:L Tk):Except (Int×Nat) (L Tk)->Except (Int×Nat) (L Tk)
 | .error x=>.error x
 | .ok r=>.ok (a++r)
def tq(b:M):∀(l:C),lM aM (l.drop (lM b l))=0
 | []=>by simp[lM]
 | c::r=>by
  cases b
  .rw[lM];split
   .rw[kw,ki];exact tq _ r
   split
   .rw[kw,ki];exact tq _ r
   rename_i h a;rw[gJ,lM,R h,R a]
  rw[lM,kw,ki];exact tq _ r
def pv{l:C}{i:Nat}(h:i<=qj l):lN l i=lN l (i+lM aM (l.drop i)):=by
 have a:=LO h;have b:lM aM (l.drop (i+lM aM (l.drop i)))=0:=by
  rw[<-jI];exact tq aM (l.drop i)
 rw[lI h,lI a,b,gy]
def fqG{a b:L Tk}{x:Except (Int×Nat) (L Tk)}:lr a (lr b x)=lr (a++b) x:=by
 cases x with
 | error _=>rfl
 | ok r=>simp[lr]
def LQ{w:aw}(l:C)(E:Er w):
  aA aq 116 #[ab (T l)] w λe a=>∃r:Sl,e=ak (ai #[r.v,ah #[O U (de l).2.1,O U (de l).2.2]])/\ol w.heap.size a r (de l).1/\az [] w a:=by
 refine gX (anr ?_);rw[cJ];refine⟨λhc g i _ _ h=>⟨Sl.nil,?_,?_,h⟩,λhc c f m j d=>(ahz f).mono ?_⟩
 .rw[de,K Zm]
 .rw[de,K Zm];exact Yb _ _ _ _ _ _
 have Ke:qj l<=16384:=Xt
 have t:de l=match lN l 0 with
  | .error x=>([],x.1,(x.2:Nat))
  | .ok b=>(b,0,0):=by rw[de,R J]
 rintro _ w2 ⟨z,rfl,M,P⟩;refine⟨z,I,P.same S,λb y hb oI B Q=>?_⟩;have D:=d.bU (P.bU B);have z1:=d.size;have z2:=P.size;have z3:=B.size;have G:Cut y b l 0 Sl.nil []:=⟨⟨z,Q,(Wg dG Z ((vY M).inHeap dG Z) B X).mono dG λk hk=>J⟩,Yb _ _ _ _ _ _,E.only D,by have:=E.lt;omega,bf _,Ke⟩
 have sm:∀{N u':aw},w2.heap.size<=N.heap.size->aE (λk=>b<=k) N u'->cj [c] N u':=λhu h=>h.same (by intro x hx;simp only[aV]at hx;subst hx;omega);refine(ahQ Q (bf _) J).mono ?_;rintro _ w4 ⟨rfl,W,p⟩;have p4:aE (λk=>b<=k) y w4:=W.p λx hx=>.inl CQ;have H:Cut w4 b l (0+lM aM (l.drop 0)) Sl.nil []:=G.move W (LO (bf _)) λV s=>by
  have:V=z:=by
   unfold aG at s Q;rw[s]at Q;simp[Sl.v]at Q;cases z;cases V;simp_all
  subst this;exact p
 refine⟨I,sm J p4,T l,_,z,Sl.nil,p,λnv e1 e2 s0 i0 A Y a=>e1=0/\e2=0/\s0=T l/\∃(n:Nat) (o:L Tk),i0=(n:Int)/\Cut a b l n Y o/\qj o<=n/\lM aM (l.drop n)=0/\lN l 0=lr o (lN l n)/\nv=(qj l)-n/\aE (λk=>b<=k) y a/\aG a b 213 [ab (T l),O U (n:Int),A.v,Y.v],(qj l)-(0+lM aM (l.drop 0)),?_,?_⟩
 .refine⟨I,I,I,_,[],I,H,bf _,?_,?_,I,p4,p⟩
  .rw[<-jI];exact tq aM (l.drop 0)
  rw[<-pv (bf _)];cases lN l 0<;>rfl
 rintro nv _ _ _ _ A r w5 ⟨rfl,rfl,rfl,n,o,rfl,hC,fi,aS,lS,rfl,eJ,VY⟩;have z5:=eJ.size;have Qd:=hC.il;refine(afF VY).mono ?_;rintro _ w6 ⟨rfl,dV⟩;have am:=hC.only dV;have aC:aG w6 b 213 [ab (T l),O U (n:Int),A.v,r.v]:=(dV.block b VY.lt X).trans VY;have z6:=dV.size;have lh:=lI hC.il;rw[aS,gy]at lh;refine⟨_,I,dV.same S,T l,n,A,r,aC,λhc=>?_,λhc=>?_⟩
 .have bW:n<qj l:=Yc
  rw[R J]at lh;refine(acV am J bW).mono ?_;rintro _ w7 ⟨v,rfl,gq,hd⟩;have p7:aE (λk=>b<=k) y w7:=(eJ.bU dV).trans gq λk hk=>.inl hk;have z7:=gq.size;unfold Xk at hd;cases hq:nI (l.drop n)with
  | error e=>
   rw[hq]at hd lh;obtain⟨rfl,q,b⟩:=hd;obtain⟨v,Vk,_⟩:=b.blk;refine⟨e,I,sm J gq,T l,n,v,q,Vk,λ_ w8 fK _=>⟨Sl.nil,?_,?_,?_⟩,λhe=>absurd (IQ hq) UB⟩
   .rw[t,lS,lh];rfl
   .rw[t,lS,lh];exact Yb _ _ _ _ _ _
   exact(((D.p0 (F:=λk=>w.heap.size<=k)).trans p7 λk hk=>.inl J).trans (fK.p (F:=λk=>k=c) λx hx=>.inl Xi) λk hk=>.inl J).only λk hk=>hk
  | ok q=>
   rw[hq]at hd lh;obtain⟨rfl,bv,F⟩:=hd;obtain⟨e,Vk,_⟩:=F.blk;have bY:=xR hq;have v:=F.il;refine⟨0,I,sm J gq,T l,(n+q.2.2.2:Nat),e,bv,Vk,λhe=>(by simp at he),λ_=>(ahQ Vk v J).mono ?_⟩;rintro _ w9 ⟨rfl,gA,aT⟩;have p9:aE (λk=>b<=k) w7 w9:=gA.p λx hx=>.inl CQ;have bV:=F.move gA (LO v) λV s=>by
    have:V=e:=by
     unfold aG at s Vk;rw[s]at Vk;simp[Sl.v]at Vk;cases e;cases V;simp_all
    subst this;exact aT
   refine⟨I,sm J p9,T l,_,e,bv,aT,(qj l)-(n+q.2.2.2+lM aM (l.drop (n+q.2.2.2))),J,I,I,I,_,_,I,bV,?_,?_,?_,I,p7.trans p9 λk hk=>.inl hk,aT⟩
   .rw[aP,bA];omega
   .rw[<-jI];exact tq aM _
   rw[lS,lh,<-pv v,<-fqG];dsimp only;cases lN l (n+q.2.2.2)<;>rfl
 have lA:qj l<=n:=Yc
 rw[K lA]at lh;refine(Rf am 5 [] 0 0 0 J J).mono ?_;rintro _ dq ⟨rfl,dN,e,q⟩;obtain⟨cc,ce,_⟩:=q.blk;have co:aE (λk=>b<=k) y dq:=(eJ.bU dV).trans dN λk hk=>.inl hk;have v:de l=(o++[⟨5,[],0,(n:Nat)⟩],0,0):=by
  rw[t,lS,lh];rfl
 refine⟨I,sm J dN,T l,_,cc,e,ce,λdB eG _=>⟨e,?_,?_,?_⟩⟩
 .rw[v]
 .rw[v];have:ol (b+1) dB e _:=q.own.keep λk hk x=>eG.block k x Uf;exact Oq this J
 exact(((D.p0 (F:=λk=>w.heap.size<=k)).trans co λk hk=>.inl J).trans (eG.p (F:=λk=>k=c) λx hx=>.inl Xi) λk hk=>.inl J).only λk hk=>hk
inductive Ex where
 | mk (k n:Int) (s:C) (op:Int) (subs:List Ex) (a:Int)
def Ex.k:Ex->Int | .mk k _ _ _ _ _=>k
def Ex.n:Ex->Int | .mk _ n _ _ _ _=>n
def Ex.s:Ex->C | .mk _ _ s _ _ _=>s
def Ex.op:Ex->Int | .mk _ _ _ op _ _=>op
def Ex.dK:Ex->L Ex | .mk _ _ _ _ l _=>l
def Ex.a:Ex->Int | .mk _ _ _ _ _ a=>a
def tk0:Tk:=⟨5,[],0, -1⟩
def tk(t:L Tk)(i:Nat):Tk:=(t[i]?).getD tk0
def sg(t:L Tk)(i:Nat)(s:C):M:=(tk t i).k==4&&YR ((tk t i).t=s)
def jE(t:L Tk)(i:Nat):Int×Int:=(if(tk t i).k=5 then 3 else 4,(tk t i).a)
def EG{t:L Tk}{i:Nat}(h:i<qj t):t[i]? =aN (tk t i):=by
 unfold tk;rw[aX h];rfl
def um(t:L Tk):Prop:=∀i,i<(qj t)->((tk t i).k=5↔i+1=qj t)
def um.next{t:L Tk}(h:um t){i:Nat}(a:i<qj t)(hk:(tk t i).k≠5):i+1<qj t:=by
 have b:¬(i+1=qj t):=λe=>hk ((h i a).2 e);omega
def yx{t:L Tk}{i:Nat}{s:C}(h:sg t i s=aF):(tk t i).k≠5:=by
 simp only[sg,B,dr]at h;rw[h.1];decide
def ze:L (C):=[[],[43],[45],[42],[47],[37],[60],[60,61],[62],[62,61],[61,61],[33,61],[38,38],[124,124],[45],[33]]
def gf(op:Int):Int:=if 3<=op/\op<=5 then 5 else if op=1∨op=2 then 4 else if 6<=op/\op<=9 then 3 else if op=10∨op=11 then 2 else if op=12 then 1 else if op=13 then 0 else 6
def eX(op:Nat):C:=(ze[op]?).getD []
def kP(t:L Tk)(k:Int)(i:Nat):Nat->Nat->Int
 | 0,_=>0
 | f+1,op=>if gf (op:Int)=k/\sg t i (eX op)=aF then(op:Int)else kP t k i f (op+1)
def lO(t:L Tk)(k:Int)(i:Nat):Int:=kP t k i 13 1
def rC{t:L Tk}{k:Int}{i:Nat}:∀(f op:Nat),kP t k i f op≠0->(tk t i).k≠5
 | 0,_,h=>absurd I h
 | f+1,op,h=>by
  rw[kP]at h;split at h
  .rename_i c;exact yx c.2
  exact rC f _ h
abbrev Pr:=Except (Int×Int) (Ex×Nat)
def LR(g:Ex->Ex):Pr->Pr
 | .error e=>.error e
 | .ok (x,j)=>.ok (g x,j)
def Gl:Pr->(Ex->Nat->Pr)->Pr
 | .error e,_=>.error e
 | .ok (x,j),g=>g x j
def wi(t:L Tk):Pr->Pr
 | .error e=>.error e
 | .ok (x,j)=>if sg t j [41]then .ok (x,j+1)else .error (jE t j)
def kl(d:Nat)(a:Int)(r:Pr):Pr:=if d=20 then .error (21,a)else r
def F1(t:L Tk)(i:Nat):Pr:=
 if sg t (i+1) [40]then
  (if(tk t (i+2)).k=1 then
   (if sg t (i+3) [41]then .ok (.mk 3 0 (tk t (i+2)).t 0 [] (tk t i).a,i+4)else .error (jE t (i+3)))
  else .error (jE t (i+2)))
 else .error (jE t (i+1))
def rh(t:L Tk)(E EV:Nat->Pr)(d i:Nat):Pr:=
 if(sg t i [45]||sg t i [33])=aF then LR (λx=>.mk 4 0 [] (if(tk t i).t=[33]then 15 else 14) [x] (tk t i).a) (kl d (tk t i).a (EV (i+1)))
 else if sg t i [40]=aF then kl d (tk t i).a (wi t (E (i+1)))
 else if(tk t i).k=3 then .ok (.mk 1 (tk t i).n [] 0 [] (tk t i).a,i+1)
 else if(tk t i).k=1 then .ok (.mk 2 0 (tk t i).t 0 [] (tk t i).a,i+1)
 else if(tk t i).k=2/\(tk t i).t=[105,110]then F1 t i
 else .error (jE t i)
def jW(t:L Tk)(E:Nat->Pr)(k:Int):Nat->Ex->Nat->Pr
 | 0,x,j=>.ok (x,j)
 | g+1,x,j=>if lO t k j=0 then .ok (x,j)else Gl (E (j+1)) λy a=>jW t E k g (.mk 5 0 [] (lO t k j) [x,y] x.a) a
def dy(t:L Tk):Nat->Nat->Nat->Nat->Pr
 | 0,_,_,_=>.error (1,0)
 | f+1,k,d,i=>if k=6 then rh t (dy t f 0 (d+1)) (dy t f 6 (d+1)) d i else Gl (dy t f (k+1) d i) λx j=>jW t (dy t f (k+1) d) (k:Int) ((qj t)-j) x j
def Dl{g:Ex->Ex}{r:Pr}{x:Ex}{j:Nat}(h:LR g r=.ok (x,j)):∃y,r=.ok (y,j)/\x=g y:=by
 cases r with
 | error e=>cases h
 | ok q=>
  obtain⟨y,a⟩:=q;simp only[LR,fZ,im]at h;obtain⟨rfl,rfl⟩:=h;exact⟨y,I,I⟩
def uo{d:Nat}{a:Int}{r:Pr}{q:Ex×Nat}(h:kl d a r=.ok q):r=.ok q/\d≠20:=by
 unfold kl at h;split at h
 .cases h
 exact⟨h,by assumption⟩
def Dm{t:L Tk}{r:Pr}{x:Ex}{a:Nat}(h:wi t r=.ok (x,a)):∃j,r=.ok (x,j)/\sg t j [41]=aF/\a=j+1:=by
 cases r with
 | error e=>cases h
 | ok q=>
  obtain⟨y,j⟩:=q;simp only[wi]at h;split at h
  .simp only[fZ,im]at h;obtain⟨rfl,rfl⟩:=h;exact⟨j,I,by assumption,I⟩
  cases h
def Ah{r:Pr}{g:Ex->Nat->Pr}{q:Ex×Nat}(h:Gl r g=.ok q):∃x j,r=.ok (x,j)/\g x j=.ok q:=by
 cases r with
 | error e=>cases h
 | ok p=>exact⟨p.1,p.2,I,h⟩
def O0{t:L Tk}{i:Nat}{x:Ex}{j:Nat}(h:F1 t i=.ok (x,j)):j=i+4/\x=.mk 3 0 (tk t (i+2)).t 0 [] (tk t i).a:=by
 unfold F1 at h;split at h
 .split at h
  .split at h
   .simp only[fZ,im]at h;exact⟨h.2.symm,h.1.symm⟩
   cases h
  cases h
 cases h
def abx{t:L Tk}{E EV:Nat->Pr}{d i:Nat}{x:Ex}{j:Nat}(a:∀i x j,E i=.ok (x,j)->i<j)(O:∀i x j,EV i=.ok (x,j)->i<j)(h:rh t E EV d i=.ok (x,j)):i<j:=by
 unfold rh at h;split at h
 .obtain⟨y,b,_⟩:=Dl h;have:=O _ _ _ (uo b).1;omega
 split at h
 .obtain⟨c,b,_,rfl⟩:=Dm (uo h).1;have:=a _ _ _ b;omega
 split at h
 .simp only[fZ,im]at h;omega
 split at h
 .simp only[fZ,im]at h;omega
 split at h
 .have:=(O0 h).1;omega
 cases h
def acM{t:L Tk}{E:Nat->Pr}{k:Int}(h:∀i x j,E i=.ok (x,j)->i<j):∀(g:Nat) (x:Ex) (j:Nat) {b:Ex} {a:Nat},jW t E k g x j=.ok (b,a)->j<=a
 | 0,x,j,b,a,c=>by
  simp only[jW,fZ,im]at c;omega
 | g+1,x,j,b,a,c=>by
  rw[jW]at c;split at c
  .simp only[fZ,im]at c;omega
  obtain⟨y,m,d,e⟩:=Ah c;have:=h _ _ _ d;have:=acM h g _ _ e;omega
def ml{t:L Tk}:∀(f k d i:Nat) {x:Ex} {j:Nat},dy t f k d i=.ok (x,j)->i<j
 | 0,_,_,_,_,_,h=>Ue
 | f+1,k,d,i,x,j,h=>by
  rw[dy]at h;split at h
  .exact abx (λi x j h=>ml f _ _ i h) (λi x j h=>ml f _ _ i h) h
  obtain⟨y,m,a,b⟩:=Ah h;have:=ml f _ _ _ a;have:=acM (λi x j h=>ml f _ _ i h) _ _ _ b;omega
def ia(k d:Nat):Nat:=(20-d)*8+(7-k)
def tJ(t:L Tk)(i:Nat):Pr:=dy t (ia 0 0) 0 0 i
structure Rd (F G:A) (ts:List Tk) (w:aw) (b:Nat) (l sn:Sl) (i:Nat) (fc fa d:Int):Prop where
 blk:aG w b 337 [l.v,O U (i:Int),O U fc,O U fa,O U d,sn.v]
 tok:aB OZ 4 w F l ts
 sig:aB nU 1 w G sn ze
 hF:∀k,F k->k<b
 hG:∀k,G k->k<b
 en:um ts
 lt:i<qj ts
section
variable {F G:A} {ts:L Tk} {w w':aw} {b:Nat} {l sn:Sl} {i:Nat} {fc fa d:Int}
def Rd.only(h:Rd F G ts w b l sn i fc fa d)(O:az [] w w'):Rd F G ts w' b l sn i fc fa d:=
 ⟨O.blk h.blk X,Wg jk Z h.tok O X,Wg dG Z h.sig O X,h.hF,h.hG,h.en,h.lt⟩
def Rd.lG(h:Rd F G ts w b l sn i fc fa d)(c:az [b] w w'){a:Nat}{fc' fa' d'}(B:aG w' b 337 [l.v,O U a,O U fc',O U fa',O U d',sn.v])(e:a<qj ts):Rd F G ts w' b l sn a fc' fa' d':=
 ⟨B,Wg jk Z h.tok c λk hk _ hm=>Ta,Wg dG Z h.sig c λk hk _ hm=>Uj,h.hF,h.hG,h.en,e⟩
def Rd.own(h:Rd F G ts w b l sn i fc fa d){bs}(O:az bs w w')(hb:∀x,x∈bs->b<x):Rd F G ts w' b l sn i fc fa d:=
 ⟨O.blk h.blk λhm=>by have:=hb b hm;omega,Wg jk Z h.tok O λk hk _ hm=>NA,Wg dG Z h.sig O λk hk _ hm=>(by have:=h.hG k hk;have:=hb k hm;omega),h.hF,h.hG,h.en,h.lt⟩
def Rd.lb(h:Rd F G ts w b l sn i fc fa d):b<w.heap.size:=h.blk.lt
def Rd.big(h:Rd F G ts w b l sn i fc fa d):qj ts<=9223372036854775807:=by
 have a:=h.tok.len;have c:=h.tok.cap;have e:=h.tok.big;omega
def Rd.now(h:Rd F G ts w b l sn i fc fa d):∃ad,cK l i 4 ad/\aD w ad [O U (tk ts i).k,ab (T (tk ts i).t),O U (tk ts i).n,O U (tk ts i).a]:=by
 have k:=h.tok.len;have W:=h.lt;obtain⟨ad,x,s,c,g,f,j,e,a⟩:=h.tok.get (be i) J;rw[ba,EG h.lt]at g;injection g with g;subst g;unfold OZ at a;subst a;exact⟨ad,c,e⟩
def LS(f:Rd F G ts w b l sn i fc fa d):aA aq 339 #[ae (aN ⟨b,0,Pw⟩)] w λe w'=>e=ak (tk ts i).v/\az [] w w':=by
 refine ret (avT ?_);intro k m hk j O;have h:=f.only O;obtain⟨ad,g,a⟩:=h.now;exact⟨l,Om h.blk 0 I,_,Om h.blk 1 I,ad,g,_,_,_,_,a,λn c=>⟨I,O.new c hk⟩⟩
def G3(h:Rd F G ts w b l sn i fc fa d):aA aq 298 #[ae (aN ⟨b,0,Pw⟩)] w λe w'=>e=ak (aj (fc !=0))/\az [] w w':=by
 exact ret (avF w ⟨fc,Om h.blk 2 I,I,Ib _ _⟩)
def IR(h:Rd F G ts w b l sn i fc fa d) c:aA aq 352 #[ae (aN ⟨b,0,Pw⟩),O U c] w λe w'=>e=ak (ai #[])/\az [b] w w'/\
  Rd F G ts w' b l sn i (if fc=0 then c else fc) (if fc=0 then(tk ts i).a else fa) d:=by
 refine ret (av2 ?_);refine(G3 h).mono ?_;rintro _ f ⟨rfl,n⟩;have a:=h.only n;refine⟨_,I,λhc=>(LS a).mono ?_,λhc=>?_⟩
 .have hc:=Yc
  subst hc;rintro _ w ⟨rfl,r⟩;have d:=a.only r;exact⟨_,_,_,_,I,b,2,_,_,I,d.blk,X,λg c m=>⟨I,(n.bU r).weaken (λ_ h=>Ue) |>.trans c (λx e=>.inl e),d.lG c m h.lt⟩⟩
 have hc:=Yc
 rw[R hc,R hc];exact⟨I,n.weaken λ_ h=>Ue,a⟩
def IT(h:Rd F G ts w b l sn i fc fa d):aA aq 345 #[ae (aN ⟨b,0,Pw⟩)] w λe w'=>e=ak (ai #[])/\az [b] w w'/\
  Rd F G ts w' b l sn i (if fc=0 then(jE ts i).1 else fc) (if fc=0 then(jE ts i).2 else fa) d:=by
 refine ret (avZ ?_);refine⟨λw'=>az [b] w w'/\((tk ts i).k=5->Rd F G ts w' b l sn i (if fc=0 then 3 else fc) (if fc=0 then(tk ts i).a else fa) d)/\((tk ts i).k≠5->Rd F G ts w' b l sn i fc fa d),?_,(LS h).mono ?_⟩
 .rintro w ⟨c,h,a⟩;by_cases hk:(tk ts i).k=5
  .refine(IR (h hk) 4).mono ?_;rintro _ e ⟨rfl,r,b⟩;refine⟨I,I,c.trans r (λx d=>.inl d),?_⟩;unfold jE;rw[K hk];by_cases hc:fc=0
   .rw[K hc,K hc,R Z,R Z]at b;rw[K hc,K hc];exact b
   rw[R hc,R hc,R hc,R hc]at b;rw[R hc,R hc];exact b
  refine(IR (a hk) 4).mono ?_;rintro _ e ⟨rfl,r,b⟩;refine⟨I,I,c.trans r (λx d=>.inl d),?_⟩;unfold jE;rw[R hk];exact b
 rintro _ w ⟨rfl,c⟩;have a:=h.only c;refine⟨_,_,_,_,I,λhc=>(IR a 3).mono ?_,λhc=>⟨c.weaken λ_ h=>Ue,λe=>?_,λ_=>a⟩⟩
 .rintro _ g ⟨rfl,b,d⟩;exact⟨I,c.weaken (λ_ h=>Ue) |>.trans b (λx f=>.inl f),λ_=>d,λe=>absurd Yc e⟩
 rw[e]at hc;simp at hc
def apb(f:Rd F G ts w b l sn i fc fa d){H}{s}{ss}(k:aB nU 1 w H s ss):aA aq 340 #[ae (aN ⟨b,0,Pw⟩),s.v] w λe w'=>
  e=ak (aj (fc==0&&(tk ts i).k==4&&ss.contains (tk ts i).t))/\az [] w w':=by
 refine ret (avU ?_);refine(LS f).mono ?_;rintro _ p ⟨rfl,n⟩;refine⟨_,_,_,_,I,λo q hk m r=>⟨λc w'=>c=_/\az [] w w',λc t g=>⟨by rw[g.1],g.2⟩,?_⟩⟩;have j:=n.bU r;refine(G3 (f.only j)).mono ?_;rintro _ u ⟨rfl,a⟩;have e:(!(fc !=0))=(fc==0):=by cases f:(fc==0)<;>simp[bne,f]
 refine⟨_,I,a.same S,λh=>(wT (Wg dG Z k (j.bU a) X) _).mono ?_,λh=>⟨?_,j.bU a⟩⟩
 .rintro _ w ⟨rfl,d⟩;rw[e]at h;have z:=a.size;exact⟨_,I,d.same S,by rw[h,ch],j.bU (a.bU d)⟩
 rw[e]at h;rw[h,cR]
def Td(h:Rd F G ts w b l sn i fc fa d) s:∃(c:Sl) (a:aw),(av 80 1 #[.mk 0 (ab (T s))]).run aq w=.ok c.v a/\az [] w a/\
  aA aq 340 #[ae (aN ⟨b,0,Pw⟩),c.v] a λe w'=>e=ak (aj (fc==0&&sg ts i s))/\az [] a w':=by
 obtain⟨c,a,k,f,k3⟩:=lp w [s] (n:=1) (parts:=#[_]) I I Z Z;refine⟨c,a,k,k3,(apb (h.only k3) (vY f)).mono ?_⟩;rintro _ g ⟨rfl,r⟩;have e:[s].contains (tk ts i).t=YR ((tk ts i).t=s):=by
  by_cases e:(tk ts i).t=s
  .rw[bG e,e];simp
  rw[bD e];simp[e]
 refine⟨?_,r⟩;unfold sg;rw[sZ,e]
def is2(h:Rd F G ts w b l sn i fc fa d):∃(s:Sl) (a:aw),(av 80 2 #[.mk 0 (ab (ao #[45])),.mk 1 (ab (ao #[33]))]).run aq w=.ok s.v a/\az [] w a/\
  aA aq 340 #[ae (aN ⟨b,0,Pw⟩),s.v] a λe w'=>e=ak (aj (fc==0&&(sg ts i [45]||sg ts i [33])))/\az [] a w':=by
 obtain⟨s,a,k,f,k3⟩:=lp w [[45],[33]] (n:=2) (parts:=#[_,_]) I I Z Z;refine⟨s,a,k,k3,(apb (h.only k3) (vY f)).mono ?_⟩;rintro _ g ⟨rfl,c⟩;have e:[[45],[33]].contains (tk ts i).t=(YR ((tk ts i).t=[45])||YR ((tk ts i).t=[33])):=by
  simp
 refine⟨?_,c⟩;unfold sg;rw[sZ,<-Bool.and_or_distrib_left,e]
def EI(h:Rd F G ts w b l sn i fc fa d) s:aA aq 343 #[ae (aN ⟨b,0,Pw⟩),ab (T s)] w λe w'=>e=ak (ai #[])/\az [b] w w'/\
  (if fc==0&&sg ts i s then Rd F G ts w' b l sn (i+1) fc fa d else Rd F G ts w' b l sn i (if fc=0 then(jE ts i).1 else fc) (if fc=0 then(jE ts i).2 else fa) d):=by
 refine ret (avX ?_);obtain⟨g,m,f,k,k3⟩:=Td h s;refine⟨g,m,f,k3.mono ?_⟩;rintro _ n ⟨rfl,r⟩;have a:=h.only (k.bU r);have j:az [b] w n:=(k.bU r).weaken λ_ h=>Ue
 refine⟨_,I,λc=>(IT a).mono ?_,λc=>?_⟩
 .rintro _ w ⟨rfl,P,h⟩;have c:(fc==0&&sg ts i s)=aM:=by rwa[da]at c
  rw[c];exact⟨I,I,j.trans P (λx b=>.inl b),h⟩
 have c:=by rwa[jA]at c
 rw[c];simp at c;have d:=h.en.next h.lt (yx c.2);have l:=h.big;refine⟨i,Om a.blk 1 I,b,1,_,_,I,a.blk,X,λo Z w=>⟨I,j.trans Z (λx e=>.inl e),a.lG Z ?_ d⟩⟩;rw[eS J J]at w;exact w
def Ri(h:Rd F G ts w b l sn i fc fa d):aA aq 344 #[ae (aN ⟨b,0,Pw⟩)] w λe w'=>az [b] w w'/\
  (if fc=0/\(tk ts i).k=1 then e=ak (ab (T (tk ts i).t))/\Rd F G ts w' b l sn (i+1) fc fa d else e=ak (ab (T []))/\Rd F G ts w' b l sn i (if fc=0 then(jE ts i).1 else fc) (if fc=0 then(jE ts i).2 else fa) d):=by
 refine(avY ⟨b,0,Pw⟩ (λv w'=>az [b] w w'/\(if fc=0/\(tk ts i).k=1 then v=_/\Rd F G ts w' b l sn _ fc fa d else v=_/\Rd F G ts w' b l sn i _ _ d)) w ?_).mono (by
  rintro e w' ⟨v,rfl,O,h⟩;refine⟨O,?_⟩;split at h
  .rename_i hc;rw[K hc];exact⟨by rw[h.1],h.2⟩
  rename_i hc;rw[R hc];exact⟨by rw[h.1],h.2⟩)
 refine(LS h).mono ?_;rintro _ o ⟨rfl,n⟩;refine⟨_,_,_,_,I,λm p hk k r=>?_⟩;have j:=n.bU r;have z:=n.size;have g:=h.lb;refine(G3 (h.only j)).mono ?_;rintro _ f ⟨rfl,c⟩;have s:=c.size;have a:=h.only (j.bU c);have q:az [b] w f:=(j.bU c).weaken λ_ h=>Ue
 refine⟨_,I,c.same S,λhc=>(IT a).mono ?_,λhc=>?_⟩
 .rintro _ w ⟨rfl,Z,b⟩;refine⟨I,Z.same S,q.trans Z (λx d=>.inl d),?_⟩;rw[R (λh=>by rw[h.1,h.2]at hc;simp at hc)];exact⟨I,b⟩
 have hc:=Yc
 have d:=h.en.next h.lt (by rw[hc.2];decide);have l:=h.big;refine⟨i,Om a.blk 1 I,b,1,_,_,I,a.blk,X,J,λt Z w=>⟨q.trans Z (λx e=>.inl e),?_⟩⟩;rw[K hc];refine⟨I,a.lG Z ?_ d⟩;rw[eS J J]at w;exact w
end
def O1(a:aw)(op:Int):aA aq 324 #[O U op] a λe c=>e=ak (O U (gf op))/\c=a:=by
 refine ret (avN ?_);have f:∀{k:Int} {w:aw},gf op=k->(Value.int U k=O U (gf op)/\w=w):=λe=>⟨by rw[e],I⟩
 refine⟨λh=>f ?_,λh=>⟨λb c=>b=YR (op=1∨op=2)/\c=a,?_,λh1=>⟨?_,I⟩,λh1=>⟨?_,I⟩⟩⟩
 .simp only[B,bF]at h;unfold gf;rw[K J]
 .rintro _ w ⟨rfl,rfl⟩;have h:¬(3<=op/\op<=5):=λg=>by rw[bG g.1,bG g.2]at h;cases h
  refine⟨λh1=>f ?_,λh1=>⟨λe=>f ?_,λe=>⟨λb i=>b=YR (op=10∨op=11)/\i=w,?_,λd=>⟨?_,I⟩,λd=>⟨?_,I⟩⟩⟩⟩
  .have h1:=u h1;unfold gf;rw[R h,K h1]
  .have h1:=aU h1;simp only[B,bF]at e;unfold gf;rw[R h,R h1,K J]
  .rintro _ _ ⟨rfl,rfl⟩;have h1:=aU h1;have e:¬(6<=op/\op<=9):=λg=>by rw[bG g.1,bG g.2]at e;cases e
   refine⟨λd=>f ?_,λd=>⟨λh4=>f ?_,λh4=>⟨λb=>f ?_,λb=>f ?_⟩⟩⟩
   .have d:=u d;unfold gf;rw[R h,R h1,R e,K d]
   .have d:=aU d;have h4:op=12:=Zo
    unfold gf;rw[R h,R h1,R e,R d,K h4]
   .have d:=aU d;have h4:¬op=12:=Zo
    have b:op=13:=by simpa using b
    unfold gf;rw[R h,R h1,R e,R d,R h4,K b]
   have d:=aU d;have h4:¬op=12:=Zo
   have b:¬op=13:=by simpa using b
   unfold gf;rw[R h,R h1,R e,R d,R h4,R b]
  .have d:op=10:=by simpa using d
   rw[d];rfl
  have d:¬op=10:=by simpa using d
  rw[bK];simp[d]
 .have h1:op=1:=Gb
  rw[h1];rfl
 have h1:¬op=1:=Gb
 rw[bK];simp[h1]
section
variable {F G:A} {ts:L Tk} {w w':aw} {b:Nat} {l sn:Sl} {i:Nat} {fc fa d:Int}
def acI(a:Rd F G ts w b l sn i fc fa d)(k:Int):aA aq 319 #[ae (aN ⟨b,0,Pw⟩),O U k] w λe w'=>e=ak (O U (if fc=0 then lO ts k i else 0))/\az [] w w':=by
 refine ret (avM ?_);refine⟨λv f w'=>∃op:Nat,1<=op/\op<=14/\f=(op:Int)/\v=14-op/\(if fc=0 then lO ts k i else 0)=(if fc=0 then kP ts k i (14-op) op else 0)/\az [] w w',13,⟨1,Z,Z,I,I,I,Ib _ _⟩,?_⟩;rintro v _ m ⟨op,g,j,rfl,rfl,V,n⟩;refine⟨λh=>?_,λh=>?_⟩
 .have h:(op:Int)<=13:=u h;obtain⟨b,d⟩:∃b,14-op=b+1:=⟨13-op,J⟩
  rw[d,kP]at V;refine⟨λc w'=>c=(YR (gf (op:Int)=k)&&(fc==0&&sg ts i (eX op)))/\az [] w w',?_,λe P=>(O1 e _).mono ?_⟩
  .rintro _ w ⟨rfl,r⟩;refine⟨λc=>⟨?_,r⟩,λc=>⟨b,J,op+1,J,J,Ye,J,?_,r⟩⟩
   .simp only[B,bF,dr]at c;rw[V,K c.2.1,K ⟨c.1,c.2.2⟩]
   rw[V,show 14-(op+1)=b by omega];by_cases i:fc=0
   .rw[K i,K i,R];rintro⟨k,l⟩;rw[bG k,l,i]at c;simp at c
   rw[R i,R i]
  rintro _ w ⟨rfl,rfl⟩;have c:=a.only (n.bU P);refine⟨_,I,λhk=>?_,λhk=>?_⟩
  .have hk:gf (op:Int)=k:=WH
   have G:=c.sig.len;have s:qj ze=16:=I;obtain⟨ad,x,D,q,l,E,F,r,o⟩:=c.sig.get (i:=(op:Int)) J J;unfold nU at o;subst o;rw[ba]at l;have t:eX op=x:=by unfold eX;rw[l];rfl
   subst t;obtain⟨A,C,y,z,k3⟩:=Td c (eX op);refine⟨sn,Om c.blk 5 I,ad,q,_,r,A,C,y,k3.mono ?_⟩;rintro _ H ⟨rfl,p⟩;exact⟨_,I,by rw[bG hk,ch],n.bU (P.bU (z.bU p))⟩
  have hk:¬gf (op:Int)=k:=WH
  exact⟨by rw[bD hk,cR],n.bU P⟩
 have h:¬(op:Int)<=13:=aU h;have:op=14:=J
 subst this;rw[V];refine⟨?_,n⟩;split<;>rfl
end
abbrev oM(k n:Int)(s:C)(op:Int)(sl:Sl)(a:Int):aJ:=[O U k,O U n,ab (T s),O U op,sl.v,O U a]
inductive RXN (w:aw) (N:A):Nat->Nat->Ex->aJ->Prop
 | leaf (lo hi:Nat) (k n:Int) (s:C) (op a:Int):RXN w N lo hi (.mk k n s op [] a) (oM k n s op Sl.nil a)
 | one (lo m g hi:Nat) (k n:Int) (s:C) (op a:Int) (x:Ex) (cs:aJ):RXN w N lo m x cs->lo<=g->m<=g->g<hi->¬N g->aG w g 79 cs->RXN w N lo hi (.mk k n s op [x] a) (oM k n s op ⟨aN ⟨g,0,Pw⟩,1,1⟩ a)
 | two (lo m m' m2 g hi:Nat) (k n:Int) (s:C) (op a:Int) (x y:Ex) (cs ds:aJ):RXN w N lo m x cs->m<=m'->RXN w N m' m2 y ds->lo<=m'->m<=g->m'<=g->m2<=g->g<hi->¬N g->aG w g 79 (cs++ds)->RXN w N lo hi (.mk k n s op [x,y] a) (oM k n s op ⟨aN ⟨g,0,Pw⟩,2,2⟩ a)
abbrev RX(w:aw):Nat->Nat->Ex->aJ->Prop:=RXN w λ_=>False
section
variable {w w':aw} {N N':A} {lo hi:Nat} {x:Ex} {cs:aJ}
def RXN.keep(h:RXN w N lo hi x cs):(∀k,lo<=k->k<hi->¬N k->k<w.heap.size->w'.heap[k]? =w.heap[k]?)->RXN w' N lo hi x cs:=by
 induction h with
 | leaf lo hi k n s op a=>exact λ_=>.leaf ..
 | one lo o g hi k n s op a x cs p b f c e d l=>
  intro hk;exact .one lo o g hi k n s op a x cs (l λm i q j=>hk m i J j) b f c e ((hk g b c e d.lt).trans d)
 | two lo t u v g hi k n s op a x y cs l w m z o p q r d f e G K=>
  intro hk;exact .two lo t u v g hi k n s op a x y cs l (G λj c i b=>hk j c J b) m (K λj c i b=>hk j J J b) o p q r d f ((hk g J d f e.lt).trans e)
def RXN.wide(h:RXN w N lo hi x cs):∀{l F:Nat},l<=lo->hi<=F->RXN w N l F x cs:=by
 induction h with
 | leaf lo hi k n s op a=>exact λ_ _=>.leaf ..
 | one lo m g hi k n s op a x cs j o c p e d i=>
  intro l F b f;exact .one l m g F k n s op a x cs (i b (H _)) J c J e d
 | two lo p q r g hi k n s op a x y cs d u c e v f i j w o m G K=>
  intro l F b t;exact .two l p q r g F k n s op a x y cs d (G b (H _)) c e J f i j J o m
def RXN.HP(h:RXN w N lo hi x cs):(∀k,lo<=k->k<hi->¬N k->¬N' k)->RXN w N' lo hi x cs:=by
 induction h with
 | leaf lo hi k n s op a=>exact λ_=>.leaf ..
 | one lo m g hi k n s op a x cs o b d c i e j=>
  intro hk;exact .one lo m g hi k n s op a x cs (j λl f p=>hk l f J) b d c (hk g b c i) e
 | two lo r t u g hi k n s op a x y cs e v f w i l m o c q p G K=>
  intro hk;exact .two lo r t u g hi k n s op a x y cs e (G λj b d=>hk j b J) f (K λj b d=>hk j J J) i l m o c (hk g J c q) p
def RXN.cells(h:RXN w N lo hi x cs):∃sl:Sl,cs=oM x.k x.n x.s x.op sl x.a/\(sl.n=qj x.dK):=by
 cases h with
 | leaf=>exact⟨_,I,I⟩
 | one=>exact⟨_,I,I⟩
 | two=>exact⟨_,I,I⟩
def RXN.only(h:RXN w N lo hi x cs){b:L Nat}(O:az b w w')(c:∀k,k∈b->k<lo∨hi<=k∨N k):RXN w' N lo hi x cs:=
 h.keep λk d f n a=>O.block k a λm=>by
  rcases c k m with e | e | e
  .omega
  .omega
  exact n e
end
def IU(w:aw)(a:L (aJ))(d:∀v,v∈a->qj v=6)(e:0<qj a)(h:qj a<=100){parts:Array (Nat×ay)}(p:parts=(((a.map λv=>Value.agg v.toArray).zipIdx 0).map λx=>(x.2,x.1)).toArray):
  ∃c,(av 77 (qj a) parts).run aq w=.ok (Sl.v ⟨aN ⟨w.heap.size,0,Pw⟩,qj a,qj a⟩) c/\aG c w.heap.size 79 a.flatten/\az [] w c:=by
 have f:((a.map λv=>Value.agg v.toArray).flatMap λv=>v.cells.toList)=a.flatten:=by
  clear d e h p
  induction a with
  | nil=>rfl
  | cons v a i=>rw[cf,lW,i,fk];rfl
 have b:Tryz.t79.size=6:=I;have z:=run_buildSlice (P:=aq) w 77 79 (qj a) parts ((a.map λv=>Value.agg v.toArray).flatMap λv=>v.cells.toList).toArray Tryz.t79 _ E E I (by rw[b];omega) (by rw[b];omega)
  (by
   subst p;rw[mC,b];refine Go.Great.fill_whole (s:=6) Z (a.map λv=>Value.agg v.toArray) _ (λv h=>?_) ?_
   .obtain⟨x,g,rfl⟩:=eo.1 h;have:=d x g;simpa[Value.cells]using this
   simp)
 rw[f]at z;exact⟨_,z,Yf w _ _,X0 _ _⟩
def DY(v:ay):Prop:=∃(k n:Int) (s:C) (op:Int) (sl:Sl) (a:Int),v=ah (oM k n s op sl a).toArray
def uq(F G:A)(t:L Tk)(a w:aw)(b:Nat)(l sn:Sl)(d:Nat)(r:Pr)(v:ay):Prop:=az [b] a w/\match r with
 | .ok (x,j)=>∃c,v=ah c.toArray/\RX w a.heap.size w.heap.size x c/\Rd F G t w b l sn j 0 0 (d:Int)
 | .error e=>e.1≠0/\DY v/\∃j,Rd F G t w b l sn j e.1 e.2 (d:Int)
section
variable {F G:A} {ts:L Tk} {w w':aw} {b:Nat} {l sn:Sl} {i:Nat} {fc fa d:Int}
def gQ:(jE ts i).1≠0:=by
 unfold jE;dsimp only;split<;>decide
def aiQ{d:Nat}(hd:d<=20)(h:Rd F G ts w b l sn i 0 0 (d:Int))(p:i+1<qj ts){g:Nat}{z1 z2:aJ}(u:∀(x:Array ay) (w:aw),(callFunc g x).run aq w=.ok (.enter g x) w)(f:OV)(t:f.v=.func (.func g) z1.toArray z2.toArray){r:Pr}
  (y:d≠20->∀m,az [b] w m->Rd F G ts m b l sn (i+1) 0 0 ((d+1:Nat):Int)->aA aq g (z1++z2).toArray m λe w'=>∃v,e=ak v/\uq F G ts m w' b l sn (d+1) r v):
  aA aq 341 #[ae (aN ⟨b,0,Pw⟩),f.v] w λe w'=>∃v,e=ak v/\uq F G ts w w' b l sn d (kl d (tk ts i).a r) v:=by
 refine avV ⟨b,0,Pw⟩ f (λv w'=>uq F G ts w w' b l sn d (kl d (tk ts i).a r) v) w ?_;intro j D hk B o;have A:=h.lb;have c:=h.only o;refine⟨(d:Int),Om c.blk 4 I,λhc=>(IR c 21).mono ?_,λhc=>?_⟩
 .have hc:d=20:=by have:(d:Int)=20:=Yc;omega
  rintro _ m ⟨rfl,r,a⟩;rw[K I,K I]at a;have z1:=r.size;refine⟨I,r.same S,λw P=>⟨?_,?_⟩⟩
  .exact((o.weaken (bs':=[b]) λ_ h=>Ue).trans r λx hx=>.inl hx).new P hk
  rw[kl,K hc];exact⟨(by decide:(21:Int)≠0),⟨0,0,[],0,Sl.nil,0,I⟩,i,a.own P S⟩
 have hc:d≠20:=λe=>Si
 have Qe:=h.big;refine⟨(i:Int),Om c.blk 1 I,b,1,_,_,I,c.blk,X,J,λw3 Z wv=>?_⟩;rw[eS J J]at wv;have E:Rd F G ts w3 b l sn (i+1) 0 0 (d:Int):=c.lG Z wv p;have z3:=Z.size;refine⟨(d:Int),Om E.blk 4 I,b,4,_,_,I,E.blk,X,J,λw4 V sO=>?_⟩;rw[eS J J]at sO;have h4:Rd F G ts w4 b l sn (i+1) 0 0 ((d+1:Nat):Int):=E.lG V sO p;have T:=V.size;have xE:az [b] w w4:=((o.weaken (bs':=[b]) λ_ h=>Ue).trans Z λx hx=>.inl hx).trans V λx hx=>.inl hx;refine⟨g,z1,z2,t,u,?_⟩;have e:za (za z1 []) z2=z1++z2:=by unfold za;rw[bC]
 rw[e];refine(y hc w4 xE h4).mono ?_;rintro _ w6 ⟨v,rfl,W,hd⟩;have z6:=W.size;rw[kl,R hc];have hv:∃(k n:Int) (s:C) (op:Int) (sl:Sl) (a:Int),v=ah (oM k n s op sl a).toArray:=by
  cases r with
  | error e=>exact hd.2.1
  | ok q=>
   obtain⟨s,rfl,hx,_⟩:=hd;obtain⟨sl,rfl,_⟩:=hx.cells;exact⟨_,_,_,_,_,_,I⟩
 obtain⟨vk,vn,vs,vo,aS,va,rfl⟩:=hv;refine⟨_,_,_,_,_,_,I,W.same S,λk8 w7 aC am Y=>?_⟩;have z7:=Y.size;have Q:∀{H:Nat} {fc fa:Int},Rd F G ts w6 b l sn H fc fa ((d+1:Nat):Int)->∃M:Int,aD w7 (Addr.add ⟨b,0,Pw⟩ 4) [O U M]/\∃f L:Nat,∃T:aJ,∃N:Nat,(Addr.add ⟨b,0,Pw⟩ 4)=⟨f,L,Pw⟩/\aG w7 f N T/\(L+1)<=qj T/\j≠f/\k8≠f/\
   ∀e:aw,az [f] w7 e->aG e f N (gD T L [O U (au U (M-1))])->∀a:aw,az [j] e a->az [b] w a/\az [b,j] w6 a/\Rd F G ts a b l sn H fc fa (d:Int):=fun{H fc fa} h6=>by
  have g:=h6.only Y;refine⟨((d+1:Nat):Int),Om g.blk 4 I,b,4,_,_,I,g.blk,X,J,J,λe i n a k=>?_⟩;have r:((d+1:Nat):Int)-1=d:=J
  rw[r,eS J J]at n;have s:Rd F G ts e b l sn H fc fa (d:Int):=g.lG i n g.lt;have q:az [b,j] w6 a:=((Y.weaken (bs':=[b,j]) λ_ h=>Ue).trans i λx hx=>.inl Wl).trans k λx hx=>.inl Wl;exact⟨(xE.trans W λx hx=>.inl hx).trans q (λx hx=>by
   simp only[bh,bI,cO]at hx;rcases hx with rfl | rfl
   .exact .inl X
   exact .inr hk),q,s.own k S⟩
 have P:=hd;cases r with
 | error e=>
  obtain⟨h,i,H,E⟩:=P;obtain⟨M,k,f,L,z,N,l,k3,n,q,r,s⟩:=Q E;refine⟨M,k,f,L,z,N,l,k3,n,q,r,λw d x v g=>?_⟩;obtain⟨a,F,b⟩:=s w d x v g;exact⟨a,h,i,H,b⟩
 | ok q=>
  obtain⟨x,H⟩:=q;obtain⟨s,h,i,E⟩:=P;obtain⟨M,l,f,L,z,N,n,k3,r,v,w,F⟩:=Q E;refine⟨M,l,f,L,z,N,n,k3,r,v,w,λG e yW w9 g=>?_⟩;obtain⟨b,a,d⟩:=F G e yW w9 g;have z9:=a.size;exact⟨b,s,h,(i.only a λk hk=>.inl (by simp only[bh,bI,cO]at hk;omega)).wide J z9,d⟩
end
section
variable {F G:A} {ts:L Tk} {w w':aw} {b:Nat} {l sn:Sl} {i:Nat} {fc fa d:Int}
def uq.sC{w w'}{d}{r}{v}(h:uq F G ts w w' b l sn d r v):DY v:=by
 obtain⟨_,h⟩:=h;cases r with
 | error e=>exact h.2.1
 | ok q=>
  obtain⟨c,rfl,x,_⟩:=h;obtain⟨sl,rfl,_⟩:=x.cells;exact⟨_,_,_,_,_,_,I⟩
def uq.FK{w0 w1 w2 w3}{d}{r}{v}(a:uq F G ts w1 w2 b l sn d r v)(n:az [b] w0 w1){bs}(c:az bs w2 w3)(f:∀x,x∈bs->b<x/\w0.heap.size<=x/\x<w1.heap.size):uq F G ts w0 w3 b l sn d r v:=by
 obtain⟨g,a⟩:=a;refine⟨(n.trans g λx h=>.inl h).trans c λx h=>.inr (f x h).2.1,?_⟩;cases r with
 | error e=>
  obtain⟨b,d,j,i⟩:=a;exact⟨b,d,j,i.own c λx h=>(f x h).1⟩
 | ok q=>
  obtain⟨s,b,d,e⟩:=a;exact⟨s,b,(d.only c λx h=>.inl (f x h).2.2).wide n.size c.size,e.own c λx h=>(f x h).1⟩
def apd{d:Nat}{r:Pr}{f:Nat}(h:Rd F G ts w b l sn i 0 0 (d:Int))(hk:b<f)(B:aG w f 333 [ae (aN ⟨b,0,Pw⟩)])
  (E:∀j,az [] w j->aA aq 297 #[ae (aN ⟨b,0,Pw⟩),O U 0] j λe w'=>∃v,e=ak v/\uq F G ts j w' b l sn d r v):
  aA aq 342 #[ae (aN ⟨f,0,Pw⟩)] w λe w'=>∃v,e=ak v/\uq F G ts w w' b l sn d (wi ts r) v:=by
 refine avW ⟨f,0,Pw⟩ w ?_;intro H t o P m;have D:=h.lb;have y:aG t f 333 [ae (aN ⟨b,0,Pw⟩)]:=m.blk B X;have C:=B.lt;refine⟨_,Om y 0 I,(E t m).mono ?_⟩;rintro _ j ⟨v,rfl,hd⟩;obtain⟨k,n,s,op,sl,a,rfl⟩:=hd.sC;have Q:=hd.1.size;refine⟨_,_,_,_,_,_,I,hd.1.same S,λL u M N c=>?_⟩;have T:=c.size;have A:aG u f 333 [ae (aN ⟨b,0,Pw⟩)]:=c.blk (hd.1.blk y S) X;refine⟨_,Om A 0 I,_,I,?_⟩;obtain⟨z,hd⟩:=hd;have p:az [b] w u:=((m.weaken λ_ h=>Ue).trans z λx g=>.inl g).bU c;cases r with
 | error e=>
  obtain⟨h,k,i,a⟩:=hd;have a:=a.only c;refine(EI a [41]).mono ?_;rintro _ w ⟨rfl,Z,b⟩;rw[R (by simp[h]),R h,R h]at b;refine⟨I,Z.same S,λl d=>⟨((p.trans Z λx g=>.inl g).new d o),h,⟨_,_,_,_,_,_,I⟩,i,b.own d S⟩⟩
 | ok q=>
  obtain⟨x,b⟩:=q;obtain⟨e,i,l,a⟩:=hd;have a:=a.only c;refine(EI a [41]).mono ?_;rintro _ w ⟨rfl,Z,h⟩;have v:=Z.size;refine⟨I,Z.same S,λn d=>⟨((p.trans Z λx g=>.inl g).new d o),?_⟩⟩;have F:=d.size;by_cases s:sg ts b [41]=aF
  .rw[K (by simp[s])]at h;simp only[wi,s,H2];exact⟨e,i,(((l.only c X).only Z λk hk=>.inl TQ).only d λk hk=>.inl TQ).wide J J,h.own d S⟩
  rw[R (by simp[s]),K I,K I]at h;simp only[wi,s,lV];exact⟨gQ,⟨_,_,_,_,_,_,I⟩,b,h.own d S⟩
def ahW{f d:Nat}(hd:d<=20)(h:Rd F G ts w b l sn i 0 0 (d:Int))
  (hE:d≠20->∀w i,Rd F G ts w b l sn i 0 0 ((d+1:Nat):Int)->aA aq 297 #[ae (aN ⟨b,0,Pw⟩),O U 0] w λe w'=>∃v,e=ak v/\uq F G ts w w' b l sn (d+1) (dy ts f 0 (d+1) i) v)
  (am:d≠20->∀w i,Rd F G ts w b l sn i 0 0 ((d+1:Nat):Int)->aA aq 318 #[ae (aN ⟨b,0,Pw⟩)] w λe w'=>∃v,e=ak v/\uq F G ts w w' b l sn (d+1) (dy ts f 6 (d+1) i) v):
  aA aq 318 #[ae (aN ⟨b,0,Pw⟩)] w λe w'=>∃v,e=ak v/\uq F G ts w w' b l sn d (dy ts (f+1) 6 d i) v:=by
 have eR:dy ts (f+1) 6 d i=rh ts (dy ts f 0 (d+1)) (dy ts f 6 (d+1)) d i:=by rw[dy,K I]
 rw[eR];generalize aC:dy ts f 0 (d+1)=E0 at*
 generalize aS:dy ts f 6 (d+1)=EV at*
 generalize j:rh ts E0 EV d i=W;rw[rh]at j;refine avL ⟨b,0,Pw⟩ (λv w'=>uq F G ts w w' b l sn d W v) w ?_;intro P C w0 fN dS lm jP cn;have hb:=h.lb;refine(LS (h.only cn)).mono ?_;rintro _ w1 ⟨rfl,N⟩;have z1:=N.size;have jO:=cn.bU N;refine⟨_,_,_,_,I,N.same S,λQ k3 Y rF sR zE uQ cP=>?_⟩;have z2:=cP.size;have z0:=cn.size;have nq:=jO.bU cP;have o:=h.only nq;have Qe:=h.big;have sm:∀{p V:aw},Y.heap.size<=p.heap.size->az [b] p V->cj [P,C,Q,k3] p V:=λhu hO=>hO.same Rx;have m:∀{p V:aw},Y.heap.size<=p.heap.size->az [] p V->cj [P,C,Q,k3] p V:=λhu hO=>hO.same (by intro x hx;simp only[bh,bI,cO]at hx;exact⟨J,X⟩);refine⟨λq _ _ _ _ _ _ z A M B L y w'=>q=aN ⟨b,0,Pw⟩/\az [] w w'/\(tk ts i).k≠5/\∃t,M=T t/\L=Sl.nil/\W=.ok (.mk z A t B [] y,i+1),?_,?_⟩
 .rintro _ _ _ _ _ _ _ z A _ B _ y q ⟨rfl,c,k,t,rfl,rfl,Z⟩;have a:=h.only c;have n:=h.en.next h.lt k;refine⟨_,I,(i:Int),Om a.blk 1 I,_,I,b,1,_,_,I,a.blk,X,J,J,J,J,λw e s r f=>?_⟩;rw[eS J J]at s;have g:Rd F G ts w b l sn (i+1) 0 0 (d:Int):=a.lG e s n;rw[Z];refine⟨((c.weaken (bs':=[b]) λ_ h=>Ue).trans e λx hx=>.inl hx).new f J,_,I,.leaf ..,g.own f S⟩
 refine(G3 o).mono ?_;rintro _ w6 ⟨rfl,dV⟩;have z6:=dV.size;have h6:=o.only dV;refine⟨_,I,m J dV,λf=>(by simp at f),λ_=>?_⟩;obtain⟨s8,w8,k8,fK,bv⟩:=is2 h6;have z8:=fK.size;refine⟨s8,w8,k8,m J fK,bv.mono ?_⟩;rintro _ w9 ⟨rfl,gA⟩;have z9:=gA.size;have t:=dV.bU (fK.bU gA);have h9:=o.only t;rw[show((0:Int)==0)=aF from rfl,ch];have aT:=nq.bU t;refine⟨_,I,m J gA,λf dq dN=>?_,λf=>?_⟩
 .rw[K f]at j;have ig:(tk ts i).k≠5:=by
   rcases cy _ _▸f with e | e<;>exact yx e
  have hn:=h.en.next h.lt ig;have bV:∀op:Int,op=(if(tk ts i).t=[33]then 15 else 14)->∀l,az [] w l->Y.heap.size<=l.heap.size->_:=λop rz l G c=>aiQ hd (h.only G) hn (g:=318) (z1:=[ae (aN ⟨b,0,Pw⟩)]) (z2:=[]) (gN E) ⟨.func (.func 318) #[ae (aN ⟨b,0,Pw⟩)] #[],I⟩ I (r:=EV (i+1)) λF w1 _ h1=>am F w1 (i+1) h1;refine⟨λk n s op sl a w'=>k=4/\n=0/\s=T []/\op=(if(tk ts i).t=[33]then 15 else 14)/\sl=Sl.nil/\a=(tk ts i).a/\az [] w w'/\Y.heap.size<=w'.heap.size,?_,?_,?_⟩
  .rintro _ _ _ _ _ _ l ⟨rfl,rfl,rfl,rz,rfl,rfl,G,c⟩;refine(bV _ rz l G c).mono ?_;rintro _ r ⟨v,rfl,a⟩;obtain⟨z,A,M,B,L,y,rfl⟩:=a.sC;have cc:=a.1.size;obtain⟨eY,yF,xF,g⟩:=IU r [oM z A M B L y] X X X (parts:=#[(0,ah (oM z A M B L y).toArray)]) I;refine⟨_,_,_,_,_,_,I,sm c a.1,⟨aN ⟨r.heap.size,0,Pw⟩,1,1⟩,eY,yF,m J g,λfV n=>?_⟩;have Vl:=g.size;have ce:=n.size;have bY:az [b] w fV:=(((G.weaken (bs':=[b]) λ_ h=>Ue).trans a.1 λx hx=>.inl hx).bU g).trans n λx hx=>.inr LM;have s:∀x,x∈[C,k3]->b<x:=S
   have T:∀x,x∈[C,k3]->x<l.heap.size:=S
   refine⟨bY,?_⟩;obtain⟨_,a⟩:=a;rw[<-j];cases hN:kl d (tk ts i).a (EV (i+1))with
   | error e=>
    rw[hN]at a;obtain⟨b,i,h,d⟩:=a;exact⟨b,⟨_,_,_,_,_,_,I⟩,h,(d.only g).own n s⟩
   | ok q=>
    obtain⟨x,co⟩:=q;rw[hN]at a;obtain⟨b,h,i,v⟩:=a;refine⟨_,I,?_,(v.only g).own n s⟩;have jh:(oM z A M B L y)=b:=bN Array.toList (Value.agg.inj h);rw[rz];have d:RX fV l.heap.size r.heap.size x b:=(i.only g X).only n λk hk=>.inl (T k hk);have e:aG fV r.heap.size 79 b:=by
     have:=n.blk xF λk=>by have:=T _ k;omega
     rw[fk,List.flatten_nil,bC]at this;rw[<-jh];exact this
    exact .one w.heap.size r.heap.size r.heap.size _ _ _ _ _ _ x b (d.wide J (H _)) J (H _) Md id e
  .rw[show(ao #[33])=T [33]from rfl,ji];intro h a i;have h:=u h;exact⟨I,I,I,by rw[K h],I,I,(aT.new dN J).new i J,by have:=i.size;have:=dN.size;omega⟩
  rw[show(ao #[33])=T [33]from rfl,ji];intro h;have h:=aU h;exact⟨I,I,I,by rw[R h],I,I,aT.new dN J,by have:=dN.size;omega⟩
 rw[R (by rw[f];decide)]at j;obtain⟨Z9,iE,KE,iH,cC⟩:=Td h9 [40];have dO:=iH.size;refine⟨Z9,iE,KE,m J iH,cC.mono ?_⟩;rintro _ gL ⟨rfl,gC⟩;have el:=gC.size;have q:=aT.bU (iH.bU gC);have n:=h.only q;have s:az [b] w gL:=q.weaken λ_ h=>Ue
 rw[show((0:Int)==0)=aF from rfl,ch];refine⟨_,I,m J gC,λhp hB _ _ _=>?_,λhp=>?_⟩
 .rw[K hp]at j;have d:=h.en.next h.lt (yx hp);subst j;refine(aiQ hd n d (g:=342) (z1:=[]) (z2:=[ae (aN ⟨P,0,Pw⟩)]) (gN E) ⟨.func (.func 342) #[] #[ae (aN ⟨P,0,Pw⟩)],I⟩ I (r:=wi ts (E0 (i+1))) λb w1 N c=>apd c J (N.blk hB S) λw x=>hE b w (i+1) (c.only x)).mono ?_;rintro _ l ⟨v,rfl,a⟩;obtain⟨z,A,M,B,L,y,rfl⟩:=a.sC;have e:=a.1.size;refine⟨_,_,_,_,_,_,I,a.1.same S,_,a.1.blk hB S,λF k _=>?_⟩;exact a.FK s k S
 rw[R Rl]at j;have v:(tk ts i).k≠5->i+1<qj ts:=h.en.next h.lt;refine⟨λhi j8 lc _ _ _ _ _ r=>⟨λk=>k=Q,I,λe=>r e.symm,λe=>r e.symm,λmB jq=>?_⟩,λhi=>⟨λhv oH qL _ _ _ _ _ r=>⟨λk=>k=Q,I,λe=>r e.symm,λe=>r e.symm,λsM uR=>?_⟩,λhv=>⟨λg=>?_,λg=>?_⟩⟩⟩
 .have hi:(tk ts i).k=3:=XS
  rw[K hi]at j;exact⟨I,(q.bU lc).new jq J,by rw[hi];decide,[],I,I,j.symm⟩
 .have hi:¬(tk ts i).k=3:=XS
  have hv:(tk ts i).k=1:=WN
  rw[R hi,K hv]at j;exact⟨I,(q.bU qL).new uR J,by rw[hv];decide,_,I,I,j.symm⟩
 .have hi:¬(tk ts i).k=3:=XS
  have hv:¬(tk ts i).k=1:=WN
  rw[show(ao #[105,110])=T [105,110]from rfl,ji]at g;have g:(tk ts i).k=2/\(tk ts i).t=[105,110]:=by simpa using g
  rw[R hi,R hv,K g]at j;have hn:=v (by rw[g.1];decide);refine⟨(i:Int),Om n.blk 1 I,b,1,_,_,I,n.blk,X,J,J,J,J,λqK C3 f6=>?_⟩;rw[eS J J]at f6;have f8:Rd F G ts qK b l sn (i+1) 0 0 (d:Int):=n.lG C3 f6 hn;have gE:=C3.size;refine(EI f8 [40]).mono ?_;rintro _ pI ⟨rfl,sU,eQ⟩;have gG:=sU.size;refine⟨I,sm J sU,?_⟩;have f5:az [b] w pI:=(s.trans C3 λx hx=>.inl hx).trans sU λx hx=>.inl hx;have bad:∀{fd:Nat} {c a:Int},Rd F G ts pI b l sn fd c a (d:Int)->c≠0->aA aq 344 #[ae (aN ⟨b,0,Pw⟩)] pI λe w'=>e=ak (ab (T []))/\az [b] pI w'/\Rd F G ts w' b l sn fd c a (d:Int):=fun{fd c a} h25 f=>by
   refine(Ri h25).mono ?_;rintro e ry ⟨h,a⟩;rw[R (λa=>f a.1),R f,R f]at a;exact⟨a.1,h,a.2⟩
  have f7:∀{ry uZ:aw} {fd:Nat} {c a:Int},az [b] pI ry->az [k3] ry uZ->Rd F G ts ry b l sn fd c a (d:Int)->c≠0->W=.error (c,a)->∀s6:D,aA aq 343 #[ae (aN (Addr.add ⟨b,0,Pw⟩ 0)),ab (ao #[41])] uZ λe8 we=>e8=(ak (ai #[]))/\cj [P,C,Q,k3] uZ we/\∀CN:aw,az [C] we CN->uq F G ts w CN b l sn d W (ah #[O U 3,O U 0,ab s6,O U 0,Sl.nil.v,O U (tk ts i).a]):=fun{ry uZ fd c a} h k h26 f Z s6=>by
   have c:=h.size;have d:=k.size;refine(EI (h26.own k S) [41]).mono ?_;rintro _ we ⟨rfl,b,a⟩;rw[R (by simp[f]),R f,R f]at a;refine⟨I,sm J b,λCN t=>?_⟩;rw[Z];refine⟨((((f5.trans h λx hx=>.inl hx).new k J).trans b λx hx=>.inl hx).new t J),f,⟨3,0,s6.data.toList,0,Sl.nil,_,by unfold oM;rw[<-K4]⟩,fd,a.own t S⟩
  by_cases h1:sg ts (i+1) [40]=aF
  .rw[K (by simp[h1])]at eQ;rw[F1,K h1]at j;refine(Ri eQ).mono ?_;rintro _ ry ⟨h,a⟩;have c:=h.size;by_cases o:(tk ts (i+2)).k=1
   .rw[K ⟨I,o⟩]at a;obtain⟨rfl,l⟩:=a;rw[K o]at j;refine⟨_,I,sm J h,λuZ k=>?_⟩;have gO:=k.size;have F:=l.own k S;refine(EI F [41]).mono ?_;rintro _ we ⟨rfl,T,d⟩;refine⟨I,sm J T,λCN t=>?_⟩;have G:az [b] w CN:=(((f5.trans h λx hx=>.inl hx).new k J).trans T λx hx=>.inl hx).new t J;refine⟨G,?_⟩;by_cases e:sg ts (i+3) [41]=aF
    .rw[K (by simp[e])]at d;rw[K e]at j;rw[<-j];exact⟨_,I,.leaf ..,d.own t S⟩
    rw[R (by simp[e]),K I,K I]at d;rw[R e]at j;rw[<-j];exact⟨gQ,⟨_,_,_,_,_,_,I⟩,_,d.own t S⟩
   rw[R (λa=>o a.2),K I,K I]at a;obtain⟨rfl,b⟩:=a;rw[R o]at j;exact⟨_,I,sm J h,λuZ k=>f7 h k b gQ j.symm _⟩
  rw[R (by simp[h1]),K I,K I]at eQ;rw[F1,R h1]at j;refine(bad eQ gQ).mono ?_;rintro _ ry ⟨rfl,h,a⟩;exact⟨_,I,sm J h,λuZ k=>f7 h k a gQ j.symm _⟩
 have hi:¬(tk ts i).k=3:=XS
 have hv:¬(tk ts i).k=1:=WN
 rw[show(ao #[105,110])=T [105,110]from rfl,ji]at g;rw[R hi,R hv,R (λh=>by rw[h.1,h.2]at g;simp at g)]at j;refine(IT n).mono ?_;rintro _ e ⟨rfl,a,b⟩;rw[K I,K I]at b;refine⟨I,sm J a,λd c=>⟨(s.trans a λx hx=>.inl hx).new c J,?_⟩⟩;rw[<-j];exact⟨gQ,⟨0,0,[],0,Sl.nil,_,I⟩,i,b.own c S⟩
end
section
variable {F G:A} {ts:L Tk} {w w':aw} {b:Nat} {l sn:Sl} {i:Nat} {fc fa d:Int}
def ofV{E}{k}{g}{x}{j}(h:lO ts k j=0):jW ts E k g x j=.ok (x,j):=by
 cases g with
 | zero=>rfl
 | succ g=>rw[jW,K h]
def Wy(F G:A)(t:L Tk)(e:aw)(b:Nat)(l sn:Sl)(d:Nat)(N:A)(E:Nat->Pr)(k:Int)(R:Pr)(n:Nat)(op:Int)(s:aJ)(w:aw):Prop:=az [b] e w/\
 ((∃(c a:Int) (j:Nat),op=0/\c≠0/\R=.error (c,a)/\Rd F G t w b l sn j c a d)∨
  (∃(x:Ex) (j:Nat),op=lO t k j/\RXN w N e.heap.size w.heap.size x s/\Rd F G t w b l sn j 0 0 d/\R=jW t E k n x j/\(qj t)-j<=n))
def pur{f k d:Nat}(aC:k<6)(h:Rd F G ts w b l sn i 0 0 (d:Int))
  (hE:∀w i,Rd F G ts w b l sn i 0 0 (d:Int)->aA aq 297 #[ae (aN ⟨b,0,Pw⟩),O U ((k+1:Nat):Int)] w λe w'=>∃v,e=ak v/\uq F G ts w w' b l sn d (dy ts f (k+1) d i) v):
  aA aq 297 #[ae (aN ⟨b,0,Pw⟩),O U (k:Int)] w λe w'=>∃v,e=ak v/\uq F G ts w w' b l sn d (dy ts (f+1) k d i) v:=by
 have eR:dy ts (f+1) k d i=Gl (dy ts f (k+1) d i) λx j=>jW ts (dy ts f (k+1) d) (k:Int) ((qj ts)-j) x j:=by rw[dy,R J]
 rw[eR];have L:∀i x j,dy ts f (k+1) d i=.ok (x,j)->i<j:=λi x j h=>ml f _ _ i h;generalize am:dy ts f (k+1) d=E at*
 generalize B:(Gl (E i) λx j=>jW ts E (k:Int) _ x j)=C;refine aoS w ?_;have ek:au U ((k:Int)+1)=((k+1:Nat):Int):=Ye
 refine⟨λhc=>absurd Yc (by omega:¬(k:Int)=6),λ_ z w3 lm jP A=>?_⟩;have hb:=h.lb;rw[ek];refine(hE w3 i (h.only A)).mono ?_;rintro _ w4 ⟨v,rfl,D⟩;obtain⟨vk,vn,vs,vo,vl,va,rfl⟩:=D.sC;have z3:=A.size;have z4:=D.1.size;refine⟨_,_,_,_,_,_,I,D.1.same S,λr w5 rF sR M=>?_⟩;have B9:=((A.weaken (bs':=[b]) λ_ h=>Ue).trans D.1 λx hx=>.inl hx).bU M;have sm:∀{W u':aw},w5.heap.size<=W.heap.size->az [b] W u'->cj [z,r] W u':=λhu hO=>hO.same (by intro x hx;simp at hx⊢;omega);have Qe:=h.big;have Q:∃(j:Nat) (c a:Int),Rd F G ts w4 b l sn j c a (d:Int)/\∀u,az [] w4 u->∃p,Wy F G ts w b l sn d (λq=>q=z∨q=r) E (k:Int) C p (if c=0 then lO ts (k:Int) j else 0) (oM vk vn vs vo vl va) u:=by
  obtain⟨l,f⟩:=D;have k:=(A.weaken (bs':=[b]) λ_ h=>Ue).trans l λx hx=>.inl hx;cases d:E i with
  | error e=>
   rw[d]at f B;obtain⟨c,a⟩:=e;obtain⟨b,i,j,h⟩:=f;exact⟨j,c,a,h,λu V=>⟨0,k.bU V,.inl ⟨c,a,j,R b,b,B.symm,h.only V⟩⟩⟩
  | ok q=>
   obtain⟨x,j⟩:=q;rw[d]at f B;obtain⟨e,b,c,a⟩:=f;have h:(oM vk vn vs vo vl va)=e:=bN Array.toList (Value.agg.inj b);rw[h];exact⟨j,0,0,a,λu V=>⟨(qj ts)-j,k.bU V,.inr ⟨x,j,K I,((c.only V X).HP λq i v _=>J).wide z3 V.size,a.only V,B.symm,H _⟩⟩⟩
 obtain⟨j0,c0,a0,P,Q⟩:=Q;refine(acI (P.only M) (k:Int)).mono ?_;rintro _ u ⟨rfl,V⟩;have z6:=V.size;obtain⟨T,N⟩:=Q u (M.bU V);refine⟨_,I,V.same S,λp op m n t o s g w'=>w5.heap.size<=w'.heap.size/\Wy F G ts w b l sn d _ E (k:Int) C p op [O U m,O U n,ab t,O U o,s.v,O U g] w',T,⟨z6,N⟩,?_⟩;rintro p op m n t o s g w7 ⟨z7,Y,hA⟩;refine⟨λrz=>?_,λrz fV Z=>?_⟩
 .have rz:op≠0:=ET
  rcases hA with⟨_,_,_,e,_⟩ | ⟨x,j,rfl,hX,i,f,aS⟩
  .exact absurd e rz
  have hn:=i.en.next i.lt (rC _ _ rz);obtain⟨bv,rfl⟩:∃bv,p=bv+1:=⟨p-1,J⟩
  rw[jW,R rz]at f;refine⟨(j:Int),Om i.blk 1 I,b,1,_,_,I,i.blk,X,J,J,λw8 fK yW=>?_⟩;rw[eS J J]at yW;have h8:=i.lG fK yW hn;have z8:=fK.size;refine(hE w8 (j+1) h8).mono ?_;rintro _ w9 ⟨v,rfl,aT⟩;obtain⟨yk,yn,ys,yo,yl,ya,rfl⟩:=aT.sC;have z9:=aT.1.size;refine⟨_,_,_,_,_,_,I,sm J aT.1,λk8 dq co ce dN=>?_⟩;have KG:=dN.size;obtain⟨dB,qz,GC,eG⟩:=IU dq [[O U m,O U n,ab t,O U o,s.v,O U g],oM yk yn ys yo yl ya] X X X (parts:=#[_,_]) I;have GD:=eG.size;refine⟨⟨aN _,2,2⟩,dB,qz,eG.same S,λey eV=>?_⟩;have cC:=eV.size;have NM:az [b] w ey:=((((Y.trans fK λx hx=>.inl hx).trans aT.1 λx hx=>.inl hx).bU dN).bU eG).new eV J;have xG:az [r] w9 ey:=((dN.bU eG).weaken (bs':=[r]) λ_ h=>Ue).trans eV λx hx=>.inl hx;have Qh:∃(j':Nat) (c a:Int),Rd F G ts w9 b l sn j' c a (d:Int)/\∀eY,az [] ey eY->∃p,p<bv+1/\Wy F G ts w b l sn d (λq=>q=z∨q=r) E (k:Int) C p (if c=0 then lO ts (k:Int) j' else 0) (oM 5 0 [] (lO ts (k:Int) j) ⟨aN ⟨dq.heap.size,0,Pw⟩,2,2⟩ g) eY:=by
   obtain⟨l,d⟩:=aT;cases h:E (j+1)with
   | error e=>
    rw[h]at d f;obtain⟨c,a⟩:=e;obtain⟨b,q,j',k⟩:=d;exact⟨j',c,a,k,λeY dE=>⟨0,J,NM.bU dE,.inl ⟨c,a,j',R b,b,f,(k.own xG S).only dE⟩⟩⟩
   | ok q=>
    obtain⟨y,j'⟩:=q;rw[h]at d f;obtain⟨c,F,G,v⟩:=d;have jh:_=c:=bN Array.toList (Value.agg.inj F);have dO:=L _ _ _ h;obtain⟨xl,e,_⟩:=hX.cells;have a:=by
     simp only[oM,DV,Value.int.injEq]at e;exact e.2.2.2.2.2.1.2
    refine⟨j',0,0,v,λeY dE=>⟨bv,J,NM.bU dE,.inr ⟨.mk 5 0 [] (lO ts (k:Int) j) [x,y] x.a,j',K I,?_,(v.own xG S).only dE,f,?_⟩⟩⟩
    .have fd:=(((((fK.weaken (bs':=[b,r]) λx hx=>.inl Wl).trans l λx hx=>.inl Wl).trans xG λx hx=>.inl Wl).bU dE))
     have k:=xG.bU dE;have xF:aG eY dq.heap.size 79 ([O U m,O U n,ab t,O U o,s.v,O U g]++c):=by
      have:=dE.blk (eV.blk GC S) X;rw[<-jh];simpa using this
     have el:RXN eY (λq=>q=z∨q=r) w.heap.size w7.heap.size x [O U m,O U n,ab t,O U o,s.v,O U g]:=by
      exact hX.only fd λq hq=>by
       simp only[bh,bI,cO]at hq;rcases hq with rfl | rfl
       .exact .inl hb
       exact .inr (.inr (.inr I))
     have eQ:RXN eY (λq=>q=z∨q=r) w8.heap.size w9.heap.size y c:=(G.only k λq hq=>.inl (by simp only[aV]at hq;omega)).HP λq h1 h2 _=>J
     rw[a];exact .two w.heap.size w7.heap.size w8.heap.size w9.heap.size dq.heap.size _ _ _ _ _ _ x y _ c el z8 eQ J J J J Md J xF
    omega
  obtain⟨j',c',a',bY,Qh⟩:=Qh;refine(acI (bY.own xG S) (k:Int)).mono ?_;rintro _ eY ⟨rfl,dE⟩;obtain⟨cc,bV,Vm⟩:=Qh eY dE;exact⟨_,I,dE.same S,cc,bV,by have:=dE.size;omega,Vm⟩
 have rz:op=0:=ET
 refine⟨Y.new Z J,?_⟩;rcases hA with⟨c,a,j,_,hc,F,G⟩ | ⟨x,j,b,d,G,F,v⟩
 .rw[F];exact⟨hc,⟨m,n,t.data.toList,o,s,g,I⟩,j,G.own Z S⟩
 rw[F,ofV (by rw[<-b,rz])];exact⟨_,I,((d.only Z λq hq=>.inr (.inr (.inl JH))).HP λ_ _ _ _ h=>h).wide (H _) Z.size,G.own Z S⟩
def aeW:∀f,(∀k d i w,k<=6->d<=20->ia k d<=f->Rd F G ts w b l sn i 0 0 d->aA aq 297 #[ae (aN ⟨b,0,Pw⟩),O U k] w λe w'=>∃v,e=ak v/\uq F G ts w w' b l sn d (dy ts f k d i) v)/\
  (∀d i w,d<=20->ia 6 d<=f->Rd F G ts w b l sn i 0 0 d->
   aA aq 318 #[ae (aN ⟨b,0,Pw⟩)] w λe w'=>∃v,e=ak v/\uq F G ts w w' b l sn d (dy ts f 6 d i) v)
 | 0=>⟨λk d i w hk hd hn=>RZ,λd i w hd hn=>RZ⟩
 | f+1=>by
  obtain⟨B,K⟩:=aeW f;have one:∀(d i) w,d<=20->ia 6 d<=f+1->Rd F G ts w b l sn i 0 0 d->
   aA aq 318 #[ae _] w λe w'=>∃v,e=ak v/\uq F G ts w w' b l sn d _ v:=λd i w hd hn h=>by
   unfold ia at hn;exact ahW hd h (λD w i h=>B 0 _ i w J J KT h) (λD w i h=>K _ i w J KT h)
  refine⟨λk d i w hk hd hn h=>?_,one⟩;by_cases a:k=6
  .subst a;refine aoS w ?_;refine⟨λ_ k e N f c=>?_,λb=>absurd b Z⟩;refine(one d i e hd hn (h.only c)).mono ?_;rintro _ p ⟨v,rfl,D⟩;obtain⟨l,n,s,o,m,j,rfl⟩:=D.sC;have g:=h.lb;exact⟨_,_,_,_,_,_,I,D.1.same S,λq P=>D.FK (c.weaken λ_ h=>Ue) P S⟩
  unfold ia at hn;exact pur J h λw i h=>B _ d i w J hd KT h
end
end Go.Proofs.YtdfibecibkijiaaGreatDoor.Con
