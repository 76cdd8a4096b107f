import Derived.Test.YtmgndgpgngcgpaaGreatDoorQk4
set_option linter.unusedSectionVars false
set_option linter.unusedVariables false
set_option maxRecDepth 100000
set_option maxHeartbeats 40000000
set_option linter.unusedSimpArgs false
open Go.Value renaming int->O,string->ab,pointer->ae,agg->ah,tuple->ai,bool->aj
open Go.IntKind renaming i64->U,wrap->ar
open Go.Ending renaming returned->ak
open _root_.ByteArray renaming mk->ao
open _root_.Go.Proofs.Tryz renaming prog->aq
open Go.Instr renaming buildSlice->au
open Go renaming World->av,Value->aw,Calls->az
open Go.Kt renaming Only->ay,SliceF->aA,Cells->aB,OnlyP->aD,Blk->aF
namespace Go.Proofs.YtmgndgpgngcgpaaGreatDoor.Vc
open Go Go.RowKit Go.Kt Go.Kt.V
theorem afQ(m:Int)(m1:aK)(m2:Int)(m3:Bool)(m4 m5:Int)(m6:aK)(m7:Int)(m8:Sl)(m9:Int)(m10 m11:Sl)(m12:Int)(R:aG)(w:av)(h:nw w λk0 w0=>nW (λs0 w1=>nW (λs1 w2=>nW (λs2 w3=>nW (λs3 w4=>Jh s3 0 w4 λJ4 k2 s4 i0 w5=>cp (decide (i0<(m11.n:Int))) (nW (λs5 w6=>EA m11 i0 w6 λs6=>((s5.size:Int)+(s6.size:Int))<=9223372036854775807/\nx k2 λk3=>J4 k3 (s5++s6) (ar U (i0+1)) w6) λJ5=>cp (i0==0) (((s4.size:Int)+4)<=9223372036854775807/\J5 (s4++(ao #[32,45,62,32])) w5) (((s4.size:Int)+2)<=9223372036854775807/\J5 (s4++(ao #[44,32])) w5)) (((s4.size:Int)+1)<=9223372036854775807/\R (ab (s4++(ao #[59]))) w5)) λJ3=>cp (decide ((m10.n:Int)>0)) (((s2.size:Int)+1)<=9223372036854775807/\pf [k0] 70 #[m10.v] w3 λs7 w7=>(((s2++(ao #[32])).size:Int)+(s7.size:Int))<=9223372036854775807/\J3 ((s2++(ao #[32]))++s7) w7) (J3 s2 w3)) λJ2=>cp m3 (((s1.size:Int)+2)<=9223372036854775807/\pf [k0] 69 #[ah #[O U m4,O U m5,ab m6,O U m7,m8.v,O U m9]] w2 λs8 w8=>(((s1++(ao #[32,91])).size:Int)+(s8.size:Int))<=9223372036854775807/\((((s1++(ao #[32,91]))++s8).size:Int)+1)<=9223372036854775807/\J2 (((s1++(ao #[32,91]))++s8)++(ao #[93])) w8) (J2 s1 w2)) λJ1=>cp (m==3) (pf [k0] 67 #[O U m2] w1 λs9 w9=>(6+(s9.size:Int))<=9223372036854775807/\J1 ((ao #[97,102,116,101,114,32])++s9) w9) (J1 s0 w1)) λJ0=>cp (m==1) ((3+(m1.size:Int))<=9223372036854775807/\J0 ((ao #[111,110,32])++m1) w0) (J0 (ao #[97,108,119,97,121,115]) w0)):Cr 30 #[ah #[O U m,ab m1,O U m2,aj m3,O U m4,O U m5,ab m6,O U m7,m8.v,O U m9,m10.v,m11.v,O U m12]] w R:=
 fB (an:=.d 2 (.j [1] [.s 3 .str] .o (.j [1] [.s 3 .str] .o (.j [1] [.s 3 .str] .o (.j [1] [.s 3 .str] .o (.s (.s .o (.j [1] [.s 3 .str,.s 4 (.int .i64)] (.s .o (.s (.j [1,4] [.s 3 .str] .o .o) .o)) .o)) .o)))))) (args:=[.agg (j7 [.int .i64 m,.str m1,.int .i64 m2,.bt m3,.int .i64 m4,.int .i64 m5,.str m6,.int .i64 m7,.sl m8,.int .i64 m9,.sl m10,.sl m11,.int .i64 m12])]) h
theorem afR(p:Addr)(x:Int)(x1 x2 x3:aK)(x4 x5 x6 x7:Sl)(x8 deep:Int)(R:aG)(w:av)(h:nw w λk0 w0=>zF (λw1=>fz [k0] 68 #[ae (some p),ah #[O U x,ab x1,ab x2,ab x3,x4.v,x5.v,x6.v,x7.v,O U x8],O U (ar U (deep+1))] w1 λw2=>fz [k0] 66 #[ae (some p),O U deep,ab (ao #[125])] w2 λw3=>R (ai #[]) w3) λJ0=>cp (x==3) ((8+(x1.size:Int))<=9223372036854775807/\((((ao #[104,105,115,116,111,114,121,32])++x1).size:Int)+4)<=9223372036854775807/\(((((ao #[104,105,115,116,111,114,121,32])++x1)++(ao #[32,45,62,32])).size:Int)+(x3.size:Int))<=9223372036854775807/\((((((ao #[104,105,115,116,111,114,121,32])++x1)++(ao #[32,45,62,32]))++x3).size:Int)+1)<=9223372036854775807/\fz [k0] 66 #[ae (some p),O U deep,ab (((((ao #[104,105,115,116,111,114,121,32])++x1)++(ao #[32,45,62,32]))++x3)++(ao #[59]))] w0 λw4=>R (ai #[]) w4) (cp (x==4) ((5+(x1.size:Int))<=9223372036854775807/\((((ao #[100,101,101,112,32])++x1).size:Int)+4)<=9223372036854775807/\(((((ao #[100,101,101,112,32])++x1)++(ao #[32,45,62,32])).size:Int)+(x3.size:Int))<=9223372036854775807/\((((((ao #[100,101,101,112,32])++x1)++(ao #[32,45,62,32]))++x3).size:Int)+1)<=9223372036854775807/\fz [k0] 66 #[ae (some p),O U deep,ab (((((ao #[100,101,101,112,32])++x1)++(ao #[32,45,62,32]))++x3)++(ao #[59]))] w0 λw5=>R (ai #[]) w5) (cp (x==1) ((6+(x1.size:Int))<=9223372036854775807/\((((ao #[115,116,97,116,101,32])++x1).size:Int)+2)<=9223372036854775807/\fz [k0] 66 #[ae (some p),O U deep,ab (((ao #[115,116,97,116,101,32])++x1)++(ao #[32,123]))] w0 λw6=>J0 w6) ((9+(x1.size:Int))<=9223372036854775807/\((((ao #[112,97,114,97,108,108,101,108,32])++x1).size:Int)+2)<=9223372036854775807/\fz [k0] 66 #[ae (some p),O U deep,ab (((ao #[112,97,114,97,108,108,101,108,32])++x1)++(ao #[32,123]))] w0 λw7=>J0 w7)))):Cr 119 #[ae (some p),ah #[O U x,ab x1,ab x2,ab x3,x4.v,x5.v,x6.v,x7.v,O U x8],O U deep] w R:=
 fB (an:=.s .o (.j [0,2,4] [] .o .o)) (args:=[.ad p,.agg (j7 [.int .i64 x,.str x1,.str x2,.str x3,.sl x4,.sl x5,.sl x6,.sl x7,.int .i64 x8]),.int .i64 deep]) h
theorem alB(l:Addr)(n_:Int)(rC pM sA:aK)(sB sC qx mw:Sl)(pI parent depth:Int)(R:aG)(w:av)(h:nw w λk0 w0=>lD w0 (l.add 0) λl0=>∀w1,ay [] w0 w1->∃J0:aJ,J0 ((l.add 0).block)/\lD w1 (l.add 0) λl1=>fL (au 79 1 #[.mk 0 (ah #[O U n_,ab rC,O U parent,O U depth,O U 0])]) w1 λl2 w2=>bS [k0] w1 w2/\bR J0 w1 w2/\fL (Builtin.append_ #[79,79] 79 #[l1.v,l2.v]) w2 λl3 w3=>bS [k0] w2 w3/\bR J0 w2 w3/\∃k1 k2:Nat,∃z0,∃k3:Nat,(l.add 0)=⟨k1,k2,none⟩/\aF w3 k1 k3 z0/\(k2+1)<=z0.length/\k0≠k1/\∀w4,ay [k1] w3 w4->aF w4 k1 k3 (cj z0 k2 [l3.v])->oB 0 w4 λJ1 k5 i0 w5=>cp (decide (i0<(mw.n:Int))) (eW mw i0 w5 λi1 s0 s1 s2 l4 l5 l6 l7 i2=>nw w5 λk6 w6=>fz [k0,k6] 34 #[ae (some l),ah #[O U i1,ab s0,ab s1,ab s2,l4.v,l5.v,l6.v,l7.v,O U i2],O U (l0.n:Int),O U (ar U (depth+1))] w6 λw7=>nx k5 λk7=>J1 k7 (ar U (i0+1)) w7) (∀w8,ay [] w5 w8->lD w8 (l.add 0) λl8=>lD w8 (l.add 0) λl9=>∃p1,cR l8 (l0.n:Int) 5 p1/\∃k8 k9:Nat,∃z1,∃sw:Nat,(p1.add 4)=⟨k8,k9,none⟩/\aF w8 k8 sw z1/\(k9+1)<=z1.length/\k0≠k8/\∀w9,ay [k8] w8 w9->aF w9 k8 sw (cj z1 k9 [O U (l9.n:Int)])->R (ai #[]) w9)):Cr 34 #[ae (some l),ah #[O U n_,ab rC,ab pM,ab sA,sB.v,sC.v,qx.v,mw.v,O U pI],O U parent,O U depth] w R:=
 fB (an:=.d 3 (.s (.s .o (.j [0,3,5,8,33,34] [.s 35 (.int .i64)] .o .o)) .o)) (args:=[.ad l,.agg (j7 [.int .i64 n_,.str rC,.str pM,.str sA,.sl sB,.sl sC,.sl qx,.sl mw,.int .i64 pI]),.int .i64 parent,.int .i64 depth]) h
theorem alC(l nodes:Sl)(R:aG)(w:av)(h:nw w λk0 w0=>jn2 (λb0 l0 w1=>cp b0 (R (O U (-1)) w1) (Vm nodes 0 w1 λi0=>(1<=nodes.n/\nodes.n<=nodes.c)/\∃J1:Nat->Int->Int->Sl->av->Prop,∃k1:Nat,J1 k1 i0 0 l0 w1/\∀k2 i1 i2,∀l1:Sl,∀w2,J1 k2 i1 i2 l1 w2->cp (decide (i2<((nodes.cut 1 nodes.n nodes.c 1).n:Int))) (Vm (nodes.cut 1 nodes.n nodes.c 1) i2 w2 λi3=>Jh i1 l1 w2 λJ2 k4 i4 l2 w3=>j9 [k0] 122 #[l2.v,O U i4,O U i3] w3 λb1 w4=>cp (!b1) (∃p2,cR l2 i4 5 p2/\gX w4 (p2.add 2) λi5=>nx k4 λk5=>J2 k5 i5 l2 w4) (nx k2 λk6=>J1 k6 i4 (ar U (i2+1)) l2 w4)) (R (O U i1) w2))) λJ0=>cp ((nodes.n:Int)==0) (J0 true l w0) (aF w0 k0 49 [l.v]->cB 77 #[nodes.v,.func (.func 168) #[] #[ae (some ⟨k0,0,none⟩)]] w0 λb2 w5=>Qw w5 k0 49 λl3=>J0 b2 l3 w5)):Cr 125 #[l.v,nodes.v] w R:=
 fB (an:=.s .o (.s (.s (.j [1,2] [.s 15 .bool,.b 2 [.sl]] .o .o) .o) (.s .o (.s (.s .o (.j [2,20,21] [.s 5 (.int .i64),.s 22 (.int .i64),.b 2 [.sl]] (.d 2 (.s (.s .o (.j [2,7,20,21,22] [.s 5 (.int .i64),.b 2 [.sl]] .o .o)) .o)) .o)) .o)))) (args:=[.sl l,.sl nodes]) h
theorem alD(n_:Int)(mJ:Addr)(R:aG)(w:av)(h:lD w mJ λl0=>cB 167 #[l0.v,O U n_] w λb0 w0=>R (aj (!b0)) w0):Cr 168 #[O U n_,ae (some mJ)] w R:=
 iG (args:=[.int .i64 n_,.ad mJ]) h
theorem alE(r:Sl)(n_:Int)(R:aG)(w:av)(h:R (aj ((decide (n_>=0))&&(decide (n_<(r.n:Int))))) w):Cr 167 #[r.v,O U n_] w R:=
 iG (args:=[.sl r,.int .i64 n_]) h
theorem XF(s:Sl)(f:OV)(R:aG)(w:av)(h:cI 124 #[s.v,f.v] w λi0 w0=>R (aj (decide (i0>=0))) w0):Cr 77 #[s.v,f.v] w R:=
 iG (args:=[.sl s,.raw f]) h
theorem XG(s:Sl)(f:OV)(R:aG)(w:av)(h:oB 0 w λJ0 k1 i0 w0=>cp (decide (i0<(s.n:Int))) (Vm s i0 w0 λi1=>∃k2:Nat,∃z0 z1,f.v=(.func (.func k2) z0.toArray z1.toArray)/\(∀x0:Array aw,∀w1,((callFunc k2 x0).run aq w1)=(.ok (.enter k2 x0) w1))/\cB k2 ((A5 (A5 z0 [O U i1]) z1).toArray) w0 λb0 w2=>cp b0 (R (O U i0) w2) (nx k1 λk3=>J0 k3 (ar U (i0+1)) w2)) (R (O U (-1)) w0)):Cr 124 #[s.v,f.v] w R:=
 fB (an:=.s .o (.s (.s .o (.j [0,1,7] [.s 8 (.int .i64)] .o .o)) .o)) (args:=[.sl s,.raw f]) h
theorem alF(r:Sl)(bb a_:Int)(R:aG)(w:av)(h:nW (λb0 w0=>R (aj b0) w0) λJ0=>cB 167 #[r.v,O U a_] w λb1 w1=>cp b1 (cB 167 #[r.v,O U bb] w1 λb2 w2=>∃p0,((b2&&(decide (bb<=a_)))=true->cR r bb 5 p0)/\∃i0,((b2&&(decide (bb<=a_)))=true->aB w2 (p0.add 4) [O U i0])/\J0 ((b2&&(decide (bb<=a_)))&&(decide (a_<i0))) w2) (J0 false w1)):Cr 122 #[r.v,O U bb,O U a_] w R:=
 fB (an:=.s .o (.s (.j [] [.s 6 .bool] .o .o) .o)) (args:=[.sl r,.int .i64 bb,.int .i64 a_]) h
theorem alG(l:Sl)(a_ bb:Int)(R:aG)(w:av)(h:nW (λb0 w0=>R (aj b0) w0) λJ0=>cp (a_ !=bb) (cB 122 #[l.v,O U bb,O U a_] w λb1 w1=>J0 b1 w1) (J0 false w)):Cr 75 #[l.v,O U a_,O U bb] w R:=
 fB (an:=.s .o (.s (.j [] [.s 6 .bool] .o .o) .o)) (args:=[.sl l,.int .i64 a_,.int .i64 bb]) h
theorem afS(c:Sl)(c1:Int)(c2 c3 c4:aK)(c5 c6 c7 c8:Sl)(c9:Int)(R:aG)(w:av)(h:nw w λk0 w0=>az aq 29 #[ah #[c.v,O U c1,ab c2,ab c3,ab c4,c5.v,c6.v,c7.v,c8.v,O U c9]] w0 λe0 w1=>∃s0 i0,e0=(ak (ai #[ab s0,O U i0]))/\bS [k0] w0 w1/\cp (i0 !=0) (R (ai #[Sl.nil.v,O U i0]) w1) (Bc [k0] 42 #[ah #[c.v,O U c1,ab c2,ab c3,ab c4,c5.v,c6.v,c7.v,c8.v,O U c9]] w1 λl0 w2=>R (ai #[l0.v,O U 0]) w2)):Cr 20 #[ah #[c.v,O U c1,ab c2,ab c3,ab c4,c5.v,c6.v,c7.v,c8.v,O U c9]] w R:=
 iG (args:=[.agg (j7 [.sl c,.int .i64 c1,.str c2,.str c3,.str c4,.sl c5,.sl c6,.sl c7,.sl c8,.int .i64 c9])]) h
theorem afT(c:Sl)(c1:Int)(c2 c3 c4:aK)(c5 c6 c7 c8:Sl)(c9:Int)(R:aG)(w:av)(h:nw w λk0 w0=>Bc [k0] 82 #[Sl.nil.v,ah #[O U c1,ab c2,ab c3,ab c4,c5.v,c6.v,c7.v,c8.v,O U c9],O U (-1),O U 0] w0 λl0 w1=>R l0.v w1):Cr 42 #[ah #[c.v,O U c1,ab c2,ab c3,ab c4,c5.v,c6.v,c7.v,c8.v,O U c9]] w R:=
 iG (args:=[.agg (j7 [.sl c,.int .i64 c1,.str c2,.str c3,.str c4,.sl c5,.sl c6,.sl c7,.sl c8,.int .i64 c9])]) h
theorem afU(l:Sl)(n_:Int)(rC pM sA:aK)(sB sC qx mw:Sl)(pI parent depth:Int)(R:aG)(w:av)(h:nw w λk0 w0=>fL (au 49 1 #[.mk 0 (ah #[O U n_,ab rC,O U parent,O U depth,O U 0])]) w0 λl0 w1=>bS [k0] w0 w1/\fL (Builtin.append_ #[49,49] 49 #[l.v,l0.v]) w1 λl1 w2=>bS [k0] w1 w2/\Jh l1 0 w2 λJ0 k2 l2 i0 w3=>cp (decide (i0<(mw.n:Int))) (eW mw i0 w3 λi1 s0 s1 s2 l3 l4 l5 l6 i2=>Bc [k0] 82 #[l2.v,ah #[O U i1,ab s0,ab s1,ab s2,l3.v,l4.v,l5.v,l6.v,O U i2],O U (l.n:Int),O U (ar U (depth+1))] w3 λl7 w4=>nx k2 λk3=>J0 k3 l7 (ar U (i0+1)) w4) (∃p1,cR l2 (l.n:Int) 5 p1/\∃k4 k5:Nat,∃z0,∃k6:Nat,(p1.add 4)=⟨k4,k5,none⟩/\aF w3 k4 k6 z0/\(k5+1)<=z0.length/\k0≠k4/\∀w5,ay [k4] w3 w5->aF w5 k4 k6 (cj z0 k5 [O U (l2.n:Int)])->R l2.v w5)):Cr 82 #[l.v,ah #[O U n_,ab rC,ab pM,ab sA,sB.v,sC.v,qx.v,mw.v,O U pI],O U parent,O U depth] w R:=
 fB (an:=.d 3 (.s (.s .o (.j [3,5,9] [.s 0 .sl,.s 10 (.int .i64)] .o .o)) .o)) (args:=[.sl l,.agg (j7 [.int .i64 n_,.str rC,.str pM,.str sA,.sl sB,.sl sC,.sl qx,.sl mw,.int .i64 pI]),.int .i64 parent,.int .i64 depth]) h
theorem alH(c:Sl)(c1:Int)(c2 c3 c4:aK)(c5 c6 c7 c8:Sl)(c9:Int)(R:aG)(w:av)(h:nw w λk0 w0=>j9 [k0] 5 #[] w0 λb0 w1=>az aq 6 #[ah #[c.v,O U c1,ab c2,ab c3,ab c4,c5.v,c6.v,c7.v,c8.v,O U c9]] w1 λe1 w2=>∃l0:Sl,∃i0 s0 s1 s2,∃l1 l2 l3 l4:Sl,∃i1,e1=(ak (ah #[l0.v,O U i0,ab s0,ab s1,ab s2,l1.v,l2.v,l3.v,l4.v,O U i1]))/\bS [k0] w1 w2/\nw w2 λk1 w3=>az aq 7 #[ah #[c.v,O U c1,ab c2,ab c3,ab c4,c5.v,c6.v,c7.v,c8.v,O U c9]] w3 λe2 w4=>∃i2 i3,e2=(ak (ah #[O U i2,O U i3]))/\bS [k0,k1] w3 w4/\nw w4 λk2 w5=>j9 [k0,k1,k2] 8 #[ah #[c.v,O U c1,ab c2,ab c3,ab c4,c5.v,c6.v,c7.v,c8.v,O U c9],ah #[l0.v,O U i0,ab s0,ab s1,ab s2,l1.v,l2.v,l3.v,l4.v,O U i1],aj true] w5 λb1 w6=>nW (λb2 w7=>R (aj b2) w7) λJ0=>∀w8,ay [] w6 w8->∃J1:aJ,cp b0 (cp b1 (J1 k2/\az aq 9 #[ah #[c.v,O U c1,ab c2,ab c3,ab c4,c5.v,c6.v,c7.v,c8.v,O U c9]] w8 λe4 w9=>∃i4 i5,e4=(ak (ah #[O U i4,O U i5]))/\bS [k0,k1,k2] w8 w9/\bR J1 w8 w9/\J0 ((i2==i4)&&(i3==i5)) w9) (J0 false w8)) (J0 false w8)):Cr 3 #[ah #[c.v,O U c1,ab c2,ab c3,ab c4,c5.v,c6.v,c7.v,c8.v,O U c9]] w R:=
 fB (an:=.d 5 (.s (.j [1,4,5] [.s 2 .bool] .o .o) .o)) (args:=[.agg (j7 [.sl c,.int .i64 c1,.str c2,.str c3,.str c4,.sl c5,.sl c6,.sl c7,.sl c8,.int .i64 c9])]) h
theorem alI(R:aG)(w:av)(h:az aq 13 #[ab (ao #[99,104,97,114,116,32,99,32,123,32,115,116,97,116,101,32,97,32,123,32,125,32,125])] w λe0 w0=>∃l0:Sl,∃i0 s0 s1 s2,∃l1 l2 l3 l4:Sl,∃i1 i2 i3,e0=(ak (ai #[ah #[l0.v,O U i0,ab s0,ab s1,ab s2,l1.v,l2.v,l3.v,l4.v,O U i1],ah #[O U i2,O U i3]]))/\∀k0 k1 w1,w0.heap.size<=k0->k0<w1.heap.size->w0.heap.size<=k1->k1<w1.heap.size->ay [] w0 w1->az aq 13 #[ab (ao #[99,104,97,114,116,32,99,32,123,32,105,110,105,116,105,97,108,32,97,59,32,115,116,97,116,101,32,97,32,123,32,111,110,32,120,32,45,62,32,99,59,32,125,32,125])] w1 λe1 w2=>∃l5:Sl,∃i4 s3 s4 s5,∃l6 l7 l8 l9:Sl,∃i5 i6 i7,e1=(ak (ai #[ah #[l5.v,O U i4,ab s3,ab s4,ab s5,l6.v,l7.v,l8.v,l9.v,O U i5],ah #[O U i6,O U i7]]))/\bS [k0,k1] w1 w2/\∀k2 k3 w3,w2.heap.size<=k2->k2<w3.heap.size->w2.heap.size<=k3->k3<w3.heap.size->ay [] w2 w3->az aq 13 #[ab (ao #[99,104,97,114,116,32,99,32,123,32,105,110,105,116,105,97,108,32,97,59,32,115,116,97,116,101,32,97,32,123,32,111,110,32,120,32,45,62,32,97,59,32,125,32,125])] w3 λe2 w4=>∃l10:Sl,∃i8 s6 s7 s8,∃sU uv zN DR:Sl,∃i9 i10 i11,e2=(ak (ai #[ah #[l10.v,O U i8,ab s6,ab s7,ab s8,sU.v,uv.v,zN.v,DR.v,O U i9],ah #[O U i10,O U i11]]))/\bS [k0,k1,k2,k3] w3 w4/\∀k4 k5 w5,w4.heap.size<=k4->k4<w5.heap.size->w4.heap.size<=k5->k5<w5.heap.size->ay [] w4 w5->R (aj (((((i2==25)&&(i3==6))&&((i6==27)&&(i7==31)))&&(i10==0))&&(s6.toList==((ao #[99]).toList)))) w5):Cr 5 #[] w R:=
 iG (args:=[]) h
theorem alJ(s:aK)(R:aG)(w:av)(h:∀k0 k1 w0,w.heap.size<=k0->k0<w0.heap.size->w.heap.size<=k1->k1<w0.heap.size->ay [] w w0->az aq 25 #[ab s] w0 λe0 w1=>∃l0:Sl,∃i0 s0 s1 s2,∃l1 l2 l3 l4:Sl,∃i1 i2 i3,e0=(ak (ai #[ah #[l0.v,O U i0,ab s0,ab s1,ab s2,l1.v,l2.v,l3.v,l4.v,O U i1],ah #[O U i2,O U i3]]))/\bS [k0,k1] w0 w1/\∀k2 k3 w2,w1.heap.size<=k2->k2<w2.heap.size->w1.heap.size<=k3->k3<w2.heap.size->ay [] w1 w2->jn2 (λi4 i5 w3=>cp (i4 !=0) (∀w4,ay [] w3 w4->k0≠k1->k0≠k2->k0≠k3->k1≠k2->k1≠k3->k2≠k3->∃J1:aJ,J1 k3/\tI J1 k0/\tI J1 k1/\∀w5,ay [k1,k0] w4 w5->R (ai #[ah #[Sl.nil.v,O U 0,ab (ao #[]),ab (ao #[]),ab (ao #[]),Sl.nil.v,Sl.nil.v,Sl.nil.v,Sl.nil.v,O U 0],ah #[O U i4,O U i5]]) w5) (∀w6,ay [] w3 w6->k0≠k1->k0≠k2->k0≠k3->k1≠k2->k1≠k3->k2≠k3->∃J2:aJ,J2 k3/\tI J2 k0/\tI J2 k1/\∀w7,ay [k1,k0] w6 w7->R (ai #[ah #[l0.v,O U i0,ab s0,ab s1,ab s2,l1.v,l2.v,l3.v,l4.v,O U i1],ah #[O U i4,O U i5]]) w7)) λJ0=>cp (i2==0) (az aq 7 #[ah #[l0.v,O U i0,ab s0,ab s1,ab s2,l1.v,l2.v,l3.v,l4.v,O U i1]] w2 λe1 w8=>∃i6 i7,e1=(ak (ah #[O U i6,O U i7]))/\bS [k0,k1,k2,k3] w2 w8/\∀w9,ay [k3] w8 w9->J0 i6 i7 w9) (J0 i2 i3 w2)):Cr 13 #[ab s] w R:=
 fB (an:=.d 2 (.j [2,3,4,5] [.b 5 [.int .i64,.int .i64]] .o .o)) (args:=[.str s]) h
theorem alK(c:Sl)(c1:Int)(c2 c3 c4:aK)(c5 c6 c7 c8:Sl)(c9:Int)(R:aG)(w:av)(h:∀k0 k1 w0,w.heap.size<=k0->k0<w0.heap.size->w.heap.size<=k1->k1<w0.heap.size->ay [] w w0->az aq 15 #[ah #[c.v,O U c1,ab c2,ab c3,ab c4,c5.v,c6.v,c7.v,c8.v,O U c9]] w0 λe0 w1=>∃l0:Sl,∃i0,e0=(ak (ai #[l0.v,O U i0]))/\bS [k0,k1] w0 w1/\cp (i0 !=0) (∀w2,ay [k1] w1 w2->R (ah #[O U i0,O U (-1)]) w2) (∃m0 w3,((Instr.makeMap 54 none).run aq w1)=(.ok (.map m0) w3)/\bS [k0,k1] w1 w3/\∃m1 w4,((Instr.makeMap 54 none).run aq w3)=(.ok (.map m1) w4)/\bS [k0,k1] w3 w4/\nw w4 λk2 w5=>aF w5 k2 56 [.map m0,Sl.nil.v,.map m1,O U 0,O U 0]->fz [k0,k1] 16 #[ae (some ⟨k2,0,none⟩),ah #[O U c1,ab c2,ab c3,ab c4,c5.v,c6.v,c7.v,c8.v,O U c9]] w5 λw6=>Ez w6 k2 56 λm2 l1 m3 i1 i2=>∃J0:Nat->Int->Option Nat->Sl->Option Nat->Int->Int->av->Prop,∃k3:Nat,J0 k3 0 m2 l1 m3 i1 i2 w6/\∀k4 i3 m4,∀l2:Sl,∀m5 i4 i5 w7,J0 k4 i3 m4 l2 m5 i4 i5 w7->cp (decide (i3<(c.n:Int))) (Xx c i3 w7 λs0 i6 i7=>nw w7 λk5 w8=>aF w8 k2 56 [.map m4,l2.v,.map m5,O U i4,O U i5]->fz [k0,k1,k5] 17 #[ae (some ⟨k2,0,none⟩),.map m5,ab s0,O U i3,O U i7] w8 λw9=>Ez w9 k2 56 λm6 l3 m7 i8 i9=>nx k4 λk6=>J0 k6 (ar U (i3+1)) m6 l3 m7 i8 i9 w9) (∀de,ay [k2] w7 de->aF de k2 56 [.map m4,l0.v,.map m5,O U i4,O U i5]->k0≠k2->k1≠k2->pJ [k0,k1] 18 #[ae (some ⟨k2,0,none⟩),ah #[O U c1,ab c2,ab c3,ab c4,c5.v,c6.v,c7.v,c8.v,O U c9],O U 0] de λi10 dz=>Ez dz k2 56 λm8 l4 m9 i11 i12=>∀eu,ay [k1] dz eu->aF eu k2 56 [.map m8,l4.v,.map m9,O U i11,O U i12]->R (ah #[O U i11,O U i12]) eu))):Cr 7 #[ah #[c.v,O U c1,ab c2,ab c3,ab c4,c5.v,c6.v,c7.v,c8.v,O U c9]] w R:=
 fB (an:=.d 5 (.s (.s .o (.j [1,2,3,5,20,26,27] [.s 28 (.int .i64),.b 20 [.map,.sl,.map,.int .i64,.int .i64]] .o .o)) .o)) (args:=[.agg (j7 [.sl c,.int .i64 c1,.str c2,.str c3,.str c4,.sl c5,.sl c6,.sl c7,.sl c8,.int .i64 c9])]) h
theorem alM(k:Addr)(n_:Int)(rC pM sA:aK)(sB sC qx mw:Sl)(pI:Int)(R:aG)(w:av)(h:nw w λk0 w0=>xCM w0 (k.add 0) λm0=>lD w0 (k.add 1) λl0=>fz [k0] 17 #[ae (some k),.map m0,ab rC,O U (l0.n:Int),O U pI] w0 λw1=>lD w1 (k.add 1) λl1=>fL (au 49 1 #[.mk 0 (ah #[O U 0,ab (ao #[]),O U 0,O U 0,O U 0])]) w1 λl2 w2=>bS [k0] w1 w2/\fL (Builtin.append_ #[49,49] 49 #[l1.v,l2.v]) w2 λl3 w3=>bS [k0] w2 w3/\∃k1 k2:Nat,∃z0,∃k3:Nat,(k.add 1)=⟨k1,k2,none⟩/\aF w3 k1 k3 z0/\(k2+1)<=z0.length/\k0≠k1/\∀w4,ay [k1] w3 w4->aF w4 k1 k3 (cj z0 k2 [l3.v])->oB 0 w4 λJ0 k5 i0 w5=>cp (decide (i0<(mw.n:Int))) (eW mw i0 w5 λi1 s0 s1 s2 l4 l5 l6 l7 i2=>nw w5 λk6 w6=>fz [k0,k6] 16 #[ae (some k),ah #[O U i1,ab s0,ab s1,ab s2,l4.v,l5.v,l6.v,l7.v,O U i2]] w6 λw7=>nx k5 λk7=>J0 k7 (ar U (i0+1)) w7) (R (ai #[]) w5)):Cr 16 #[ae (some k),ah #[O U n_,ab rC,ab pM,ab sA,sB.v,sC.v,qx.v,mw.v,O U pI]] w R:=
 fB (an:=.d 4 (.j [0,3,32,33] [.s 34 (.int .i64)] .o .o)) (args:=[.ad k,.agg (j7 [.int .i64 n_,.str rC,.str pM,.str sA,.sl sB,.sl sC,.sl qx,.sl mw,.int .i64 pI])]) h
theorem afV(k:Addr)(m:Option Nat)(name:aK)(place at_:Int)(R:aG)(w:av)(h:∃i0 b0 w0,((Instr.lookup 54 (.map m) (ab name) true).run aq w)=(.ok (ai #[O U i0,aj b0]) w0)/\cU 35 #[ae (some k),aj (!b0),O U 24,O U at_] w0 λw1=>cp (!b0) (∃w2,((Instr.mapUpdate 54 (.map m) (ab name) (O U place)).run aq w1)=(.ok () w2)/\R (ai #[]) w2) (R (ai #[]) w1)):Cr 17 #[ae (some k),.map m,ab name,O U place,O U at_] w R:=
 iG (args:=[.ad k,.map m,.str name,.int .i64 place,.int .i64 at_]) h
theorem alN(k:Addr)(ok:Bool)(err at_:Int)(R:aG)(w:av)(h:∃i0,((!ok)=true->aB w ((k.add 3).add 0) [O U i0])/\cp ((!ok)&&(i0==0)) (∃k0 k1:Nat,∃z0,∃k2:Nat,(k.add 3)=⟨k0,k1,none⟩/\aF w k0 k2 z0/\(k1+2)<=z0.length/\∀w0,ay [k0] w w0->aF w0 k0 k2 (cj z0 k1 [O U err,O U at_])->R (ai #[]) w0) (R (ai #[]) w)):Cr 35 #[ae (some k),aj ok,O U err,O U at_] w R:=
 iG (args:=[.ad k,.bt ok,.int .i64 err,.int .i64 at_]) h
theorem alO(k:Addr)(n_:Int)(rC pM sA:aK)(sB sC qx mw:Sl)(pI at_:Int)(R:aG)(w:av)(h:nw w λk0 w0=>fz [k0] 36 #[ae (some k),ah #[O U n_,ab rC,ab pM,ab sA,sB.v,sC.v,qx.v,mw.v,O U pI],O U at_] w0 λw1=>fL (au 145 2 #[.mk 0 sB.v,.mk 1 sC.v]) w1 λl0 w2=>bS [k0] w1 w2/\fz [k0] 37 #[ae (some k),l0.v] w2 λw3=>oB 0 w3 λJ0 k2 i0 w4=>cp (decide (i0<(qx.n:Int))) (gV qx i0 w4 λi1 s0 i2 b0 i3 i4 s1 i5 l1 i6 l2 l3 i7=>nw w4 λk3 w5=>fz [k0,k3] 35 #[ae (some k),aj ((i1 !=3)||((decide (i2>0))&&(decide (i2<=1099511627776)))),O U 28,O U i7] w5 λw6=>fz [k0,k3] 38 #[ae (some k),ah #[O U i3,O U i4,ab s1,O U i5,l1.v,O U i6]] w6 λw7=>fL (au 145 1 #[.mk 0 l2.v]) w7 λl4 w8=>bS [k0,k3] w7 w8/\fz [k0,k3] 37 #[ae (some k),l4.v] w8 λw9=>∀de,ay [] w9 de->∃J1:aJ,J1 k3/\j9 [k0,k3] 39 #[ae (some k),l3.v] de λb1 dz=>bR J1 de dz/\fz [k0,k3] 35 #[ae (some k),aj b1,O U 27,O U i7] dz λeu=>bR J1 dz eu/\nx k2 λk4=>J0 k4 (ar U (i0+1)) eu) (Jh (ar U (at_+1)) 0 w4 λJ2 k6 i8 i9 eS=>cp (decide (i9<(mw.n:Int))) (eW mw i9 eS λi10 s2 s3 s4 l5 l6 l7 l8 i11=>nw eS λk7 fJ=>pJ [k0,k7] 18 #[ae (some k),ah #[O U i10,ab s2,ab s3,ab s4,l5.v,l6.v,l7.v,l8.v,O U i11],O U i8] fJ λi12 gY=>nx k6 λk8=>J2 k8 i12 (ar U (i9+1)) gY) (R (O U i8) eS))):Cr 18 #[ae (some k),ah #[O U n_,ab rC,ab pM,ab sA,sB.v,sC.v,qx.v,mw.v,O U pI],O U at_] w R:=
 fB (an:=.d 3 (.s (.s .o (.j [0,2,4,23,24] [.s 25 (.int .i64)] .o .o)) (.s .o (.s (.s .o (.j [0,4,8,67,68] [.s 2 (.int .i64),.s 69 (.int .i64)] .o .o)) .o)))) (args:=[.ad k,.agg (j7 [.int .i64 n_,.str rC,.str pM,.str sA,.sl sB,.sl sC,.sl qx,.sl mw,.int .i64 pI]),.int .i64 at_]) h
theorem alP(k:Addr)(n_:Int)(rC pM sA:aK)(sB sC qx mw:Sl)(pI at_:Int)(R:aG)(w:av)(h:nw w λk0 w0=>∃J0:Nat->Int->Bool->Int->av->Prop,∃k1:Nat,J0 k1 0 false 0 w0/\∀k2 i0 b0 i1 w1,J0 k2 i0 b0 i1 w1->cp (decide (i1<(mw.n:Int))) (eW mw i1 w1 λi2 s0 s1 s2 l0 l1 l2 l3 i3=>nw w1 λk3 w2=>nW (λi4 w3=>nx k2 λk4=>J0 k4 i4 (b0||(s0.toList==pM.toList)) (ar U (i1+1)) w3) λJ1=>j9 [k0,k3] 72 #[O U i2] w2 λb1 w4=>cp (!b1) (J1 (ar U (i0+1)) w4) (J1 i0 w4)) (j9 [k0] 72 #[O U n_] w1 λb2 w5=>cp b2 (∀w6,ay [] w5 w6->xCM w6 (k.add 0) λm0=>pJ [k0] 73 #[.map m0,ab sA] w6 λi5 w7=>zF (λw8=>R (ai #[]) w8) λJ2=>∀w9,ay [] w7 w9->∃J3:aJ,J3 k0/\j9 [k0] 74 #[ae (some k),O U i5] w9 λb3 de=>bR J3 w9 de/\cp b3 (lD de (k.add 1) λl4=>lD de (k.add 1) λl5=>∃p1,cR l5 at_ 5 p1/\gX de (p1.add 2) λi6=>j9 [k0] 75 #[l4.v,O U i5,O U i6] de λb4 dz=>bR J3 de dz/\fz [k0] 35 #[ae (some k),aj b4,O U 26,O U pI] dz λeu=>bR J3 dz eu/\J2 eu) (fz [k0] 35 #[ae (some k),aj false,O U 26,O U pI] de λeS=>bR J3 de eS/\J2 eS)) (cp (n_==2) (fz [k0] 35 #[ae (some k),aj ((pM.toList==((ao #[]).toList))&&(decide (i0>1))),O U 25,O U pI] w5 λfJ=>R (ai #[]) fJ) (cp (decide (i0>0)) (fz [k0] 35 #[ae (some k),aj b0,O U 25,O U pI] w5 λgY=>R (ai #[]) gY) (fz [k0] 35 #[ae (some k),aj (pM.toList==((ao #[]).toList)),O U 25,O U pI] w5 λjm=>fz [k0] 35 #[ae (some k),aj ((mw.n:Int)==0),O U 26,O U pI] jm λjd=>R (ai #[]) jd))))):Cr 36 #[ae (some k),ah #[O U n_,ab rC,ab pM,ab sA,sB.v,sC.v,qx.v,mw.v,O U pI],O U at_] w R:=
 fB (an:=.d 3 (.s (.s .o (.j [0,2,4,12,13] [.s 6 (.int .i64),.s 7 .bool,.s 14 (.int .i64)] (.d 2 (.s (.s .o (.j [0,2,4,7,9,12,13,14] [.s 6 (.int .i64)] .o .o)) .o)) .o)) (.s .o (.s (.s .o (.j [4,9] [] .o .o)) .o)))) (args:=[.ad k,.agg (j7 [.int .i64 n_,.str rC,.str pM,.str sA,.sl sB,.sl sC,.sl qx,.sl mw,.int .i64 pI]),.int .i64 at_]) h
theorem alQ(kind:Int)(R:aG)(w:av)(h:R (aj ((kind==3)||(kind==4))) w):Cr 72 #[O U kind] w R:=
 iG (args:=[.int .i64 kind]) h
theorem alR(n_:Option Nat)(name:aK)(R:aG)(w:av)(h:∃i0 b0 w0,((Instr.lookup 54 (.map n_) (ab name) true).run aq w)=(.ok (ai #[O U i0,aj b0]) w0)/\cp b0 (R (O U i0) w0) (R (O U (-1)) w0)):Cr 73 #[.map n_,ab name] w R:=
 iG (args:=[.map n_,.str name]) h
theorem alS(k:Addr)(at_:Int)(R:aG)(w:av)(h:nW (λb0 w0=>R (aj b0) w0) λJ0=>cp (decide (at_>=0)) (lD w (k.add 1) λl0=>∃p0,cR l0 at_ 5 p0/\gX w (p0.add 0) λi0=>cB 72 #[O U i0] w λb1 w1=>J0 (!b1) w1) (J0 false w)):Cr 74 #[ae (some k),O U at_] w R:=
 fB (an:=.s .o (.s (.j [] [.s 4 .bool] .o .o) .o)) (args:=[.ad k,.int .i64 at_]) h
theorem alT(k:Addr)(rows:Sl)(R:aG)(w:av)(h:cL 76 #[rows.v] w λl0 w0=>oB 0 w0 λJ0 k1 i0 w1=>cp (decide (i0<(l0.n:Int))) (pW l0 i0 w1 λi1 s0 i2 i3 s1 i4 l1 i5 i6=>nw w1 λk2 w2=>zF (λw3=>fz [k2] 38 #[ae (some k),ah #[O U i2,O U i3,ab s1,O U i4,l1.v,O U i5]] w3 λw4=>nx k1 λk3=>J0 k3 (ar U (i0+1)) w4) λJ1=>cp (i1==1) (∀w5,ay [] w2 w5->xCM w5 (k.add 2) λm0=>∃i7 b0 w6,((Instr.lookup 54 (.map m0) (ab s0) true).run aq w5)=(.ok (ai #[O U i7,aj b0]) w6)/\bS [k2] w5 w6/\fz [k2] 35 #[ae (some k),aj b0,O U 23,O U i6] w6 λw7=>J1 w7) (J1 w2)) (R (ai #[]) w1)):Cr 37 #[ae (some k),rows.v] w R:=
 fB (an:=.s .o (.j [0,9,10] [.s 11 (.int .i64)] (.d 2 (.s (.s .o (.j [0,5,9,10,11] [] .o .o)) .o)) .o)) (args:=[.ad k,.sl rows]) h
theorem afW(yR:Sl)(R:aG)(w:av)(h:Jh 0 0 w λJ0 k1 i0 i1 w0=>cp (decide (i1<(yR.n:Int))) (nW (λi2 w1=>nx k1 λk2=>J0 k2 i2 (ar U (i1+1)) w1) λJ1=>Xw yR i1 w0 λl0=>cp (decide ((ar U (i0+(l0.n:Int)))<0)) (False) (J1 (ar U (i0+(l0.n:Int))) w0)) (cL 123 #[Sl.nil.v,O U i0] w0 λl1 w2=>Jh l1 0 w2 λJ2 k4 l2 i3 w3=>cp (decide (i3<(yR.n:Int))) (Xw yR i3 w3 λl3=>fL (Builtin.append_ #[23,23] 23 #[l2.v,l3.v]) w3 λl4 w4=>nx k4 λk5=>J2 k5 l4 (ar U (i3+1)) w4) (R l2.v w3))):Cr 76 #[yR.v] w R:=
 fB (an:=.d 2 (.s (.s .o (.j [0,9,10] [.s 3 (.int .i64),.s 11 (.int .i64)] (.d 2 (.j [0,9,10,11] [.s 3 (.int .i64)] .o .o)) .o)) (.s .o (.s (.s .o (.j [25,26] [.s 6 .sl,.s 27 (.int .i64)] .o .o)) .o)))) (args:=[.sl yR]) h
theorem afX(s:Sl)(n_:Int)(R:aG)(w:av)(h:zF (λw0=>nW (λl0 w1=>R l0.v w1) λJ1=>cp (decide ((ar U (n_-(ar U ((s.c:Int)-(s.n:Int)))))>0)) (∃k0:Nat,((s.c:Int)=(k0:Int)/\k0<=s.c)/\∃l1:Sl,∃w2,((Builtin.append_ #[23,3] 23 #[(s.cut 0 k0 s.c 9).v,O U (ar U (n_-(ar U ((s.c:Int)-(s.n:Int)))))]).run aq w0)=(.ok l1.v w2)/\∃k1:Nat,((s.n:Int)=(k1:Int)/\k1<=l1.c)/\J1 (l1.cut 0 k1 l1.c 9) w2) (J1 s w0)) λJ0=>cp (decide (n_<0)) (False) (J0 w)):Cr 123 #[s.v,O U n_] w R:=
 fB (an:=.s .o (.j [0,1] [] .o (.j [] [.s 0 .sl] .o .o))) (args:=[.sl s,.int .i64 n_]) h
theorem alU(k:Addr)(x x1:Int)(x2:aK)(x3:Int)(x4:Sl)(x5:Int)(R:aG)(w:av)(h:nw w λk0 w0=>zF (λw1=>oB 0 w1 λJ1 k2 i0 w2=>cp (decide (i0<(x4.n:Int))) (iQ x4 i0 w2 λi1 i2 s0 i3 l0 i4=>nw w2 λk3 w3=>fz [k0,k3] 38 #[ae (some k),ah #[O U i1,O U i2,ab s0,O U i3,l0.v,O U i4]] w3 λw4=>nx k2 λk4=>J1 k4 (ar U (i0+1)) w4) (R (ai #[]) w2)) λJ0=>cp (x==2) (∀w5,ay [] w0 w5->xCM w5 (k.add 2) λm0=>∃i5 b0 w6,((Instr.lookup 54 (.map m0) (ab x2) true).run aq w5)=(.ok (ai #[O U i5,aj b0]) w6)/\bS [k0] w5 w6/\fz [k0] 35 #[ae (some k),aj b0,O U 23,O U x5] w6 λw7=>J0 w7) (cp (x==3) (∀w8,ay [] w0 w8->∃J2:aJ,xCM w8 (k.add 0) λm1=>J2 k0/\pJ [k0] 73 #[.map m1,ab x2] w8 λi6 w9=>bR J2 w8 w9/\j9 [k0] 74 #[ae (some k),O U i6] w9 λb1 de=>bR J2 w9 de/\fz [k0] 35 #[ae (some k),aj b1,O U 23,O U x5] de λdz=>bR J2 de dz/\J0 dz) (J0 w0))):Cr 38 #[ae (some k),ah #[O U x,O U x1,ab x2,O U x3,x4.v,O U x5]] w R:=
 fB (an:=.s .o (.j [0,3] [] .o (.s .o (.j [0,3,43,44] [.s 45 (.int .i64)] .o .o)))) (args:=[.ad k,.agg (j7 [.int .i64 x,.int .i64 x1,.str x2,.int .i64 x3,.sl x4,.int .i64 x5])]) h
theorem alV(k:Addr)(l:Sl)(R:aG)(w:av)(h:nw w λk0 w0=>∃J0:Nat->Sl->Int->Option Addr->av->Prop,∃k1:Nat,J0 k1 Sl.nil 0 (some k) w0/\∀k2,∀l0:Sl,∀i0 q0 w1,J0 k2 l0 i0 q0 w1->cp (decide (i0<(l.n:Int))) (EA l i0 w1 λs0=>∃p1,q0=(some p1)/\xCM w1 (p1.add 0) λm0=>pJ [k0] 73 #[.map m0,ab s0] w1 λi1 w2=>cp (decide (i1<1)) (nw w2 λk3 w3=>R (aj false) w3) (nw w2 λk4 w4=>jn2 (λq1 i2 w5=>aF w5 k0 52 [ae q1]->aF w5 k4 3 [O U i2]->cB 77 #[l0.v,.func (.func 78) #[] #[ae (some ⟨k0,0,none⟩),ae (some ⟨k4,0,none⟩)]] w5 λb0 w6=>xKQ w6 k0 52 λq2=>xKI w6 k4 3 λi3=>cp b0 (R (aj false) w6) (fL (au 66 1 #[.mk 0 (O U i3)]) w6 λl1 w7=>bS [k0,k4] w6 w7/\fL (Builtin.append_ #[66,66] 66 #[l0.v,l1.v]) w7 λl2 w8=>bS [k0,k4] w7 w8/\nx k2 λk5=>J0 k5 l2 (ar U (i0+1)) q2 w8)) λJ1=>∃p2,q0=(some p2)/\∀w9,ay [] w4 w9->lD w9 (p2.add 1) λl3=>∃p3,cR l3 i1 5 p3/\gX w9 (p3.add 0) λi4=>j9 [k0,k4] 72 #[O U i4] w9 λb1 de=>cp b1 (∃p4,q0=(some p4)/\∀dz,ay [] de dz->lD dz (p4.add 1) λl4=>∃p5,cR l4 i1 5 p5/\gX dz (p5.add 2) λi5=>∀eu,ay [k4] dz eu->J1 q0 i5 eu) (J1 q0 i1 de))) (R (aj true) w1)):Cr 39 #[ae (some k),l.v] w R:=
 fB (an:=.d 2 (.s (.s .o (.j [2,9,10] [.s 5 .sl,.s 11 (.int .i64),.b 2 [.ptr]] (.d 2 (.s (.d 3 (.j [2,5,8,9,10,11] [.b 2 [.ptr],.b 8 [.int .i64]] .o .o)) .o)) .o)) .o)) (args:=[.ad k,.sl l]) h
theorem alW(o:Int)(mJ Cf:Addr)(R:aG)(w:av)(h:xCQ w mJ λq0=>gX w Cf λi0=>cB 79 #[ae q0,O U i0,O U o] w λb0 w0=>R (aj (!b0)) w0):Cr 78 #[O U o,ae (some mJ),ae (some Cf)] w R:=
 iG (args:=[.int .i64 o,.ad mJ,.ad Cf]) h
theorem alX(k:Addr)(a_ bb:Int)(R:aG)(w:av)(h:lD w (k.add 1) λl0=>∃l1:Sl,∃w0,((au 66 2 #[.mk 0 (O U a_),.mk 1 (O U bb)]).run aq w)=(.ok l1.v w0)/\cI 125 #[l0.v,l1.v] w0 λi0 w1=>∃l2:Sl,(((i0 !=a_)&&(i0 !=bb))=true->aB w1 (k.add 1) [l2.v])/\∃p0,(((i0 !=a_)&&(i0 !=bb))=true->cR l2 i0 5 p0)/\∃i1,(((i0 !=a_)&&(i0 !=bb))=true->aB w1 (p0.add 0) [O U i1])/\R (aj (((i0 !=a_)&&(i0 !=bb))&&(i1==2))) w1):Cr 79 #[ae (some k),O U a_,O U bb] w R:=
 iG (args:=[.ad k,.int .i64 a_,.int .i64 bb]) h
theorem afY(c:Sl)(c1:Int)(c2 c3 c4:aK)(c5 c6 c7 c8:Sl)(c9:Int)(R:aG)(w:av)(h:∀k0 k1 w0,w.heap.size<=k0->k0<w0.heap.size->w.heap.size<=k1->k1<w0.heap.size->ay [] w w0->az aq 20 #[ah #[c.v,O U c1,ab c2,ab c3,ab c4,c5.v,c6.v,c7.v,c8.v,O U c9]] w0 λe0 w1=>∃l0:Sl,∃i0,e0=(ak (ai #[l0.v,O U i0]))/\bS [k0,k1] w0 w1/\cp (i0 !=0) (∀w2,ay [k1] w1 w2->R (ah #[O U i0,O U (-1)]) w2) (nw w1 λk2 w3=>Bc [k0,k1,k2] 21 #[ah #[O U c1,ab c2,ab c3,ab c4,c5.v,c6.v,c7.v,c8.v,O U c9],Sl.nil.v] w3 λl1 w4=>∃J0:Nat->Int->Sl->Int->aK->aK->aK->Sl->Sl->Sl->Sl->Int->Sl->Int->Int->av->Prop,∃k3:Nat,J0 k3 0 c c1 c2 c3 c4 c5 c6 c7 c8 c9 l0 0 0 w4/\∀k4 i1,∀l2:Sl,∀i2 s0 s1 s2,∀l3 l4 l5 l6:Sl,∀i3,∀l7:Sl,∀i4 i5 w5,J0 k4 i1 l2 i2 s0 s1 s2 l3 l4 l5 l6 i3 l7 i4 i5 w5->cp (decide (i1<(l0.n:Int))) (∃J1:Sl->Int->aK->aK->aK->Sl->Sl->Sl->Sl->Int->Sl->Int->Int->av->Prop,(∀l8:Sl,∀i6 s3 s4 s5,∀l9 l10 sU uv:Sl,∀i7,∀zN:Sl,∀i8 i9 w6,J1 l8 i6 s3 s4 s5 l9 l10 sU uv i7 zN i8 i9 w6->nx k4 λk5=>J0 k5 (ar U (i1+1)) l8 i6 s3 s4 s5 l9 l10 sU uv i7 zN i8 i9 w6)/\∃p0,cR l0 i1 5 p0/\C9 w5 (p0.add 1) λs6=>pJ [k0,k1,k2] 22 #[l0.v,ab s6] w5 λi10 w7=>cp (i10 !=i1) (Vm l1 i1 w7 λi11=>(aF w7 k2 65 [l2.v,O U i2,ab s0,ab s1,ab s2,l3.v,l4.v,l5.v,l6.v,O U i3,l7.v,O U i4,O U i5]->k0≠k2->k1≠k2->fz [k0,k1] 23 #[ae (some ⟨k2,0,none⟩),O U 24,O U i11] w7 λw8=>oq w8 k2 65 λDR i12 s7 s8 s9 Kk Wx Wy Uo i13 Wz i14 i15=>J1 DR i12 s7 s8 s9 Kk Wx Wy Uo i13 Wz i14 i15 w8)) (J1 l2 i2 s0 s1 s2 l3 l4 l5 l6 i3 l7 i4 i5 w7)) (∃J2:Nat->Int->Sl->Int->aK->aK->aK->Sl->Sl->Sl->Sl->Int->Sl->Int->Int->av->Prop,∃k6:Nat,J2 k6 0 l2 i2 s0 s1 s2 l3 l4 l5 l6 i3 l7 i4 i5 w5/\∀k7 i16,∀OK:Sl,∀i17 CM Cu F4,∀Uq l22 l23 l24:Sl,∀i18,∀l25:Sl,∀i19 i20 w9,J2 k7 i16 OK i17 CM Cu F4 Uq l22 l23 l24 i18 l25 i19 i20 w9->cp (decide (i16<(c.n:Int))) (∃J3:Nat->Int->Sl->Int->aK->aK->aK->Sl->Sl->Sl->Sl->Int->Sl->Int->Int->av->Prop,∃k8:Nat,J3 k8 0 OK i17 CM Cu F4 Uq l22 l23 l24 i18 l25 i19 i20 w9/\∀k9 i21,∀YA:Sl,∀i22 Kl Km F5,∀Ur YC YD YE:Sl,∀i23,∀YG:Sl,∀i24 i25 de,J3 k9 i21 YA i22 Kl Km F5 Ur YC YD YE i23 YG i24 i25 de->cp (decide (i21<i16)) (∃J4:Sl->Int->aK->aK->aK->Sl->Sl->Sl->Sl->Int->Sl->Int->Int->av->Prop,(∀l32:Sl,∀i26 S4 WA S6,∀l33 l34 l35 l36:Sl,∀i27,∀l37:Sl,∀i28 i29 dz,J4 l32 i26 S4 WA S6 l33 l34 l35 l36 i27 l37 i28 i29 dz->nx k9 λsw=>J3 sw (ar U (i21+1)) l32 i26 S4 WA S6 l33 l34 l35 l36 i27 l37 i28 i29 dz)/\∃p2,cR c i21 3 p2/\C9 de (p2.add 0) λs19=>∃p3,cR c i16 3 p3/\C9 de (p3.add 0) λPm=>cp (s19.toList==Pm.toList) (∃p4,cR c i16 3 p4/\∀eu,ay [] de eu->gX eu (p4.add 2) λi30=>(aF eu k2 65 [YA.v,O U i22,ab Kl,ab Km,ab F5,Ur.v,YC.v,YD.v,YE.v,O U i23,YG.v,O U i24,O U i25]->k0≠k2->k1≠k2->fz [k0,k1] 23 #[ae (some ⟨k2,0,none⟩),O U 24,O U i30] eu λeS=>oq eS k2 65 λl38 i31 s21 s22 s23 l39 l40 l41 l42 i32 l43 i33 i34=>J4 l38 i31 s21 s22 s23 l39 l40 l41 l42 i32 l43 i33 i34 eS)) (∀fJ,ay [] de fJ->J4 YA i22 Kl Km F5 Ur YC YD YE i23 YG i24 i25 fJ)) (nx k7 λqj=>J2 qj (ar U (i16+1)) YA i22 Kl Km F5 Ur YC YD YE i23 YG i24 i25 de)) (aF w9 k2 65 [OK.v,O U i17,ab CM,ab Cu,ab F4,Uq.v,l22.v,l23.v,l24.v,O U i18,l25.v,O U i19,O U i20]->k0≠k2->k1≠k2->pJ [k0,k1] 24 #[ae (some ⟨k2,0,none⟩),ah #[O U c1,ab c2,ab c3,ab c4,c5.v,c6.v,c7.v,c8.v,O U c9],O U 0] w9 λi35 gY=>oq gY k2 65 λl44 i36 s24 YJ s26 l45 l46 l47 l48 i37 l49 i38 i39=>∀jm,ay [k1] gY jm->aF jm k2 65 [l44.v,O U i36,ab s24,ab YJ,ab s26,l45.v,l46.v,l47.v,l48.v,O U i37,l49.v,O U i38,O U i39]->R (ah #[O U i38,O U i39]) jm)))):Cr 9 #[ah #[c.v,O U c1,ab c2,ab c3,ab c4,c5.v,c6.v,c7.v,c8.v,O U c9]] w R:=
 fB (an:=.d 5 (.s (.s .o (.j [1,2,3,5,6,22] [.s 7 (.int .i64),.b 22 [.sl,.int .i64,.str,.str,.str,.sl,.sl,.sl,.sl,.int .i64,.sl,.int .i64,.int .i64]] (.s .o (.j [1,2,3,5,6,7,22] [.b 22 [.sl,.int .i64,.str,.str,.str,.sl,.sl,.sl,.sl,.int .i64,.sl,.int .i64,.int .i64]] .o .o)) .o)) (.s (.s .o (.j [1,2,5,22] [.s 8 (.int .i64),.b 22 [.sl,.int .i64,.str,.str,.str,.sl,.sl,.sl,.sl,.int .i64,.sl,.int .i64,.int .i64]] (.s .o (.s (.s .o (.j [1,2,5,8,22] [.s 9 (.int .i64),.b 22 [.sl,.int .i64,.str,.str,.str,.sl,.sl,.sl,.sl,.int .i64,.sl,.int .i64,.int .i64]] (.s .o (.j [1,2,5,8,9,22] [.b 22 [.sl,.int .i64,.str,.str,.str,.sl,.sl,.sl,.sl,.int .i64,.sl,.int .i64,.int .i64]] .o .o)) .o)) .o)) .o)) .o))) (args:=[.agg (j7 [.sl c,.int .i64 c1,.str c2,.str c3,.str c4,.sl c5,.sl c6,.sl c7,.sl c8,.int .i64 c9])]) h
theorem afZ(n_:Int)(rC pM sA:aK)(sB sC qx mw:Sl)(pI:Int)(l:Sl)(R:aG)(w:av)(h:nw w λk0 w0=>fL (au 66 1 #[.mk 0 (O U pI)]) w0 λl0 w1=>bS [k0] w0 w1/\fL (Builtin.append_ #[66,66] 66 #[l.v,l0.v]) w1 λl1 w2=>bS [k0] w1 w2/\Jh l1 0 w2 λJ0 k2 l2 i0 w3=>cp (decide (i0<(mw.n:Int))) (eW mw i0 w3 λi1 s0 s1 s2 l3 l4 l5 l6 i2=>Bc [k0] 21 #[ah #[O U i1,ab s0,ab s1,ab s2,l3.v,l4.v,l5.v,l6.v,O U i2],l2.v] w3 λl7 w4=>nx k2 λk3=>J0 k3 l7 (ar U (i0+1)) w4) (R l2.v w3)):Cr 21 #[ah #[O U n_,ab rC,ab pM,ab sA,sB.v,sC.v,qx.v,mw.v,O U pI],l.v] w R:=
 fB (an:=.d 2 (.s (.s .o (.j [2] [.s 1 .sl,.s 5 (.int .i64)] .o .o)) .o)) (args:=[.agg (j7 [.int .i64 n_,.str rC,.str pM,.str sA,.sl sB,.sl sC,.sl qx,.sl mw,.int .i64 pI]),.sl l]) h
theorem af0(l:Sl)(name:aK)(R:aG)(w:av)(h:oB 0 w λJ0 k1 i0 w0=>cp (decide (i0<(l.n:Int))) (∃p0,cR l i0 5 p0/\C9 w0 (p0.add 1) λs0=>cp (s0.toList==name.toList) (R (O U i0) w0) (nx k1 λk2=>J0 k2 (ar U (i0+1)) w0)) (R (O U (-1)) w0)):Cr 22 #[l.v,ab name] w R:=
 fB (an:=.s .o (.s (.s .o (.j [0,1] [.s 5 (.int .i64)] .o .o)) .o)) (args:=[.sl l,.str name]) h
theorem af1(k:Addr)(e_ at_:Int)(R:aG)(w:av)(h:gX w ((k.add 11).add 0) λi0=>cp (i0==0) (∃k0 k1:Nat,∃z0,∃k2:Nat,(k.add 11)=⟨k0,k1,none⟩/\aF w k0 k2 z0/\(k1+2)<=z0.length/\∀w0,ay [k0] w w0->aF w0 k0 k2 (cj z0 k1 [O U e_,O U at_])->R (ai #[]) w0) (R (ai #[]) w)):Cr 23 #[ae (some k),O U e_,O U at_] w R:=
 iG (args:=[.ad k,.int .i64 e_,.int .i64 at_]) h
theorem af2(k:Addr)(n_:Int)(rC pM sA:aK)(sB sC qx mw:Sl)(pI at_:Int)(R:aG)(w:av)(h:nw w λk0 w0=>fz [k0] 43 #[ae (some k),ah #[O U n_,ab rC,ab pM,ab sA,sB.v,sC.v,qx.v,mw.v,O U pI],O U at_] w0 λw1=>Jh (ar U (at_+1)) 0 w1 λJ0 k2 i0 i1 w2=>cp (decide (i1<(mw.n:Int))) (eW mw i1 w2 λi2 s0 s1 s2 l0 l1 l2 l3 i3=>pJ [k0] 24 #[ae (some k),ah #[O U i2,ab s0,ab s1,ab s2,l0.v,l1.v,l2.v,l3.v,O U i3],O U i0] w2 λi4 w3=>nx k2 λk3=>J0 k3 i4 (ar U (i1+1)) w3) (R (O U i0) w2)):Cr 24 #[ae (some k),ah #[O U n_,ab rC,ab pM,ab sA,sB.v,sC.v,qx.v,mw.v,O U pI],O U at_] w R:=
 fB (an:=.d 3 (.s (.s .o (.j [0,4] [.s 2 (.int .i64),.s 7 (.int .i64)] .o .o)) .o)) (args:=[.ad k,.agg (j7 [.int .i64 n_,.str rC,.str pM,.str sA,.sl sB,.sl sC,.sl qx,.sl mw,.int .i64 pI]),.int .i64 at_]) h
theorem af3(k:Addr)(n_:Int)(rC pM sA:aK)(sB sC qx mw:Sl)(pI at_:Int)(R:aG)(w:av)(h:nw w λk0 w0=>∃J0:Nat->Int->Bool->Int->av->Prop,∃k1:Nat,J0 k1 0 false 0 w0/\∀k2 i0 b0 i1 w1,J0 k2 i0 b0 i1 w1->cp (decide (i1<(mw.n:Int))) (∃p0,cR mw i1 9 p0/\gX w1 (p0.add 0) λi2=>j9 [k0] 83 #[O U i2] w1 λb1 w2=>nW (λi3 w3=>∃p1,(b0=false->cR mw i1 9 p1)/\∃s0,(b0=false->aB w3 (p1.add 1) [ab s0])/\∀w4,ay [] w3 w4->nx k2 λk3=>J0 k3 i3 (b0||(s0.toList==pM.toList)) (ar U (i1+1)) w4) λJ1=>cp (!b1) (J1 (ar U (i0+1)) w2) (J1 i0 w2)) (j9 [k0] 83 #[O U n_] w1 λb2 w5=>zF (λw6=>fz [k0] 85 #[ae (some k),sB.v] w6 λw7=>fz [k0] 85 #[ae (some k),sC.v] w7 λw8=>oB 0 w8 λJ3 k5 i4 w9=>cp (decide (i4<(qx.n:Int))) (zF (λde=>nx k5 λk6=>J3 k6 (ar U (i4+1)) de) λJ4=>gV qx i4 w9 λi5 s1 i6 b3 i7 i8 s2 i9 l0 i10 l1 l2 i11=>nw w9 λk7 dz=>zF (λeu=>fz [k0,k7] 86 #[ae (some k),ah #[O U i7,O U i8,ab s2,O U i9,l0.v,O U i10]] eu λeS=>fz [k0,k7] 85 #[ae (some k),l1.v] eS λfJ=>j9 [k0,k7] 87 #[ae (some k),l2.v] fJ λb4 gY=>cp (!b4) (fz [k0,k7] 23 #[ae (some k),O U 27,O U i11] gY λjm=>J4 jm) (J4 gY)) λJ5=>cp ((i5==3)&&((i6==0)||(decide (i6>1099511627776)))) (fz [k0,k7] 23 #[ae (some k),O U 28,O U i11] dz λjd=>J5 jd) (J5 dz)) (R (ai #[]) w9)) λJ2=>cp b2 (∀jR,ay [] w5 jR->lD jR (k.add 10) λl3=>pJ [k0] 22 #[l3.v,ab sA] jR λi12 lc=>∀jD,ay [] lc jD->lD jD (k.add 10) λl4=>lD jD (k.add 10) λl5=>∃p3,cR l5 at_ 5 p3/\gX jD (p3.add 2) λi13=>j9 [k0] 84 #[l4.v,O U i12,O U i13] jD λb5 my=>nW (λb6 qw=>cp b6 (fz [k0] 23 #[ae (some k),O U 26,O U pI] qw λrB=>J2 rB) (J2 qw)) λJ6=>cp ((decide (i12<0))||(!b5)) (J6 true my) (lD my (k.add 10) λl6=>∃p4,cR l6 i12 5 p4/\gX my (p4.add 0) λi14=>j9 [k0] 83 #[O U i14] my λb7 tq=>J6 b7 tq)) (nW (λb8 oX=>cp b8 (fz [k0] 23 #[ae (some k),O U 25,O U pI] oX λrq=>J2 rq) (cp (((n_==1)&&(i0==0))&&(decide ((mw.n:Int)>0))) (fz [k0] 23 #[ae (some k),O U 26,O U pI] oX λuw=>J2 uw) (J2 oX))) λJ7=>cp ((n_==2)&&((!(pM.toList==((ao #[]).toList)))||(decide (i0<2)))) (J7 ((n_==2)&&((!(pM.toList==((ao #[]).toList)))||(decide (i0<2)))) w5) (cp (((n_==1)&&(decide (i0>0)))&&(!b0)) (J7 (((n_==1)&&(decide (i0>0)))&&(!b0)) w5) (J7 (((n_==1)&&(i0==0))&&(!(pM.toList==((ao #[]).toList)))) w5))))):Cr 43 #[ae (some k),ah #[O U n_,ab rC,ab pM,ab sA,sB.v,sC.v,qx.v,mw.v,O U pI],O U at_] w R:=
 fB (an:=.d 3 (.s (.s .o (.j [0,2,4] [.s 6 (.int .i64),.s 7 .bool,.s 8 (.int .i64)] (.s .o (.s (.s .o (.j [0,2,4,7,8] [.s 6 (.int .i64)] .o .o)) .o)) .o)) (.s .o (.j [0,4] [] (.s .o (.s (.d 2 (.s (.j [0,4] [.s 88 .bool] .o .o) .o)) (.j [0,4,6] [.s 93 .bool] .o .o))) (.d 3 (.j [0,4] [.s 13 (.int .i64)] (.s .o (.j [0,4,13] [] (.s .o (.j [0,4,13,14] [] .o .o)) .o)) .o)))))) (args:=[.ad k,.agg (j7 [.int .i64 n_,.str rC,.str pM,.str sA,.sl sB,.sl sC,.sl qx,.sl mw,.int .i64 pI]),.int .i64 at_]) h
theorem af4(kind:Int)(R:aG)(w:av)(h:R (aj ((kind==3)||(kind==4))) w):Cr 83 #[O U kind] w R:=
 iG (args:=[.int .i64 kind]) h
def XH(l:Sl)(a_ bb:Int)(R:aG)(w:av):Prop:=
 ∃p0,((((decide (bb>=0))&&(decide (bb<(l.n:Int))))&&(decide (a_>bb)))=true->cR l bb 5 p0)/\
 ∃i0,((((decide (bb>=0))&&(decide (bb<(l.n:Int))))&&(decide (a_>bb)))=true->aB w (p0.add 4) [O U i0])/\
 R (aj ((((decide (bb>=0))&&(decide (bb<(l.n:Int))))&&(decide (a_>bb)))&&(decide (a_<i0)))) w
theorem af5(l:Sl)(a_ bb:Int)(R:aG)(w:av)(h:XH l a_ bb R w):Cr 84 #[l.v,O U a_,O U bb] w R:=
 iG (args:=[.sl l,.int .i64 a_,.int .i64 bb]) h
theorem af6(k:Addr)(l:Sl)(R:aG)(w:av)(h:oB 0 w λJ0 k1 i0 w0=>cp (decide (i0<(l.n:Int))) (nW (λb0 w1=>zF (λw2=>∃p0,cR l i0 9 p0/\iA w2 (p0.add 2) λi1 i2 s0 i3 l0 i4=>cU 86 #[ae (some k),ah #[O U i1,O U i2,ab s0,O U i3,l0.v,O U i4]] w2 λw3=>nx k1 λk2=>J0 k2 (ar U (i0+1)) w3) λJ2=>cp (!b0) (∃p1,cR l i0 9 p1/\gX w1 (p1.add 8) λi5=>cU 23 #[ae (some k),O U 23,O U i5] w1 λw4=>J2 w4) (J2 w1)) λJ1=>∃p2,cR l i0 9 p2/\gX w0 (p2.add 0) λi6=>cp (i6 !=1) (J1 true w0) (∃p3,cR l i0 9 p3/\C9 w0 (p3.add 1) λs1=>cB 126 #[ae (some k),ab s1] w0 λb1 w5=>J1 b1 w5)) (R (ai #[]) w0)):Cr 85 #[ae (some k),l.v] w R:=
 fB (an:=.s .o (.j [0,1] [.s 4 (.int .i64)] (.s .o (.s (.s (.j [0,1,4] [.s 5 .bool] .o .o) (.j [0,1,4] [] .o .o)) .o)) .o)) (args:=[.ad k,.sl l]) h
theorem af7(k:Addr)(name:aK)(R:aG)(w:av)(h:oB 0 w λJ0 k1 i0 w0=>lD w0 ((k.add 0).add 0) λl0=>cp (decide (i0<(l0.n:Int))) (lD w0 ((k.add 0).add 0) λl1=>∃p0,cR l1 i0 3 p0/\C9 w0 (p0.add 0) λs0=>cp (s0.toList==name.toList) (R (aj true) w0) (nx k1 λk2=>J0 k2 (ar U (i0+1)) w0)) (R (aj false) w0)):Cr 126 #[ae (some k),ab name] w R:=
 fB (an:=.s .o (.s (.s .o (.j [0,1] [.s 5 (.int .i64)] .o .o)) .o)) (args:=[.ad k,.str name]) h
theorem af8(k:Addr)(x x1:Int)(x2:aK)(x3:Int)(x4:Sl)(x5:Int)(R:aG)(w:av)(h:nw w λk0 w0=>nW (λb0 w1=>nW (λb1 w2=>zF (λw3=>oB 0 w3 λJ3 k2 i0 w4=>cp (decide (i0<(x4.n:Int))) (iQ x4 i0 w4 λi1 i2 s0 i3 l0 i4=>fz [k0] 86 #[ae (some k),ah #[O U i1,O U i2,ab s0,O U i3,l0.v,O U i4]] w4 λw5=>nx k2 λk3=>J3 k3 (ar U (i0+1)) w5) (R (ai #[]) w4)) λJ2=>cp ((!b0)||(!b1)) (fz [k0] 23 #[ae (some k),O U 23,O U x5] w2 λw6=>J2 w6) (J2 w2)) λJ1=>cp (x !=3) (J1 true w1) (j9 [k0] 127 #[ae (some k),ab x2] w1 λb2 w7=>J1 b2 w7)) λJ0=>cp (x !=2) (J0 true w0) (j9 [k0] 126 #[ae (some k),ab x2] w0 λb3 w8=>J0 b3 w8)):Cr 86 #[ae (some k),ah #[O U x,O U x1,ab x2,O U x3,x4.v,O U x5]] w R:=
 fB (an:=.s .o (.s (.j [0,3] [.s 4 .bool] .o .o) (.s (.j [0,3,4] [.s 5 .bool] .o .o) (.j [0,3] [] .o (.s .o (.j [0,3] [.s 6 (.int .i64)] .o .o)))))) (args:=[.ad k,.agg (j7 [.int .i64 x,.int .i64 x1,.str x2,.int .i64 x3,.sl x4,.int .i64 x5])]) h
theorem af9(k:Addr)(name:aK)(R:aG)(w:av)(h:lD w (k.add 10) λl0=>cI 22 #[l0.v,ab name] w λi0 w0=>nW (λb0 w1=>R (aj b0) w1) λJ0=>cp (decide (i0>=0)) (lD w0 (k.add 10) λl1=>∃p0,cR l1 i0 5 p0/\gX w0 (p0.add 0) λi1=>cB 83 #[O U i1] w0 λb1 w2=>J0 (!b1) w2) (J0 false w0)):Cr 127 #[ae (some k),ab name] w R:=
 fB (an:=.d 2 (.s (.j [] [.s 4 .bool] .o .o) .o)) (args:=[.ad k,.str name]) h
theorem aga(k:Addr)(l:Sl)(R:aG)(w:av)(h:∃J0:Nat->Sl->Int->av->Prop,∃k0:Nat,J0 k0 Sl.nil 0 w/\∀k1,∀l0:Sl,∀i0 w0,J0 k1 l0 i0 w0->cp (decide (i0<(l.n:Int))) (∀w1,ay [] w0 w1->lD w1 (k.add 10) λl1=>EA l i0 w1 λs0=>cI 22 #[l1.v,ab s0] w1 λi1 w2=>cp (decide (i1<1)) (R (aj false) w2) (lD w2 (k.add 10) λl2=>∃p1,cR l2 i1 5 p1/\gX w2 (p1.add 0) λi2=>cB 83 #[O U i2] w2 λb0 w3=>nW (λi3 w4=>oB 0 w4 λJ2 k3 i4 w5=>cp (decide (i4<(l0.n:Int))) (∀w6,ay [] w5 w6->∃J3:aJ,J3 ((k.add 10).block)/\lD w6 (k.add 10) λl3=>Vm l0 i4 w6 λi5=>fL (au 66 2 #[.mk 0 (O U i3),.mk 1 (O U i5)]) w6 λl4 w7=>bR J3 w6 w7/\cI 128 #[l3.v,l4.v] w7 λi6 w8=>bR J3 w7 w8/\∃p3,((i6==i3)=false->cR l0 i4 1 p3)/\∃i7,((i6==i3)=false->aB w8 p3 [O U i7])/\∃l5:Sl,(((i6==i3)||(i6==i7))=false->aB w8 (k.add 10) [l5.v])/\∃p4,(((i6==i3)||(i6==i7))=false->cR l5 i6 5 p4)/\∃i8,(((i6==i3)||(i6==i7))=false->aB w8 (p4.add 0) [O U i8])/\cp (((i6==i3)||(i6==i7))||(i8 !=2)) (R (aj false) w8) (nx k3 λk4=>J2 k4 (ar U (i4+1)) w8)) (fL (au 66 1 #[.mk 0 (O U i3)]) w5 λl6 w9=>fL (Builtin.append_ #[66,66] 66 #[l0.v,l6.v]) w9 λl7 de=>nx k1 λk5=>J0 k5 l7 (ar U (i0+1)) de)) λJ1=>cp b0 (lD w3 (k.add 10) λl8=>∃p5,cR l8 i1 5 p5/\gX w3 (p5.add 2) λi9=>J1 i9 w3) (J1 i1 w3))) (R (aj true) w0)):Cr 87 #[ae (some k),l.v] w R:=
 fB (an:=.d 2 (.s (.s .o (.j [0,1] [.s 5 .sl,.s 6 (.int .i64)] (.s .o (.s (.d 3 (.j [0,1,5,6] [.s 7 (.int .i64)] .o (.s (.s .o (.j [0,1,5,6,7] [.s 9 (.int .i64)] .o .o)) .o))) .o)) .o)) .o)) (args:=[.ad k,.sl l]) h
theorem agb(l nodes:Sl)(R:aG)(w:av)(h:Jh (-1) 0 w λJ0 k1 i0 i1 w0=>cp ((decide (i1<(l.n:Int)))&&(decide ((nodes.n:Int)>0))) (nW (λi2 w1=>nx k1 λk2=>J0 k2 i2 (ar U (i1+1)) w1) λJ1=>Jh true 0 w0 λJ2 k4 b0 i3 w2=>cp (decide (i3<(nodes.n:Int))) (Vm nodes i3 w2 λi4=>cB 84 #[l.v,O U i4,O U i1] w2 λb1 w3=>∃p1,(b0=true->b1=false->cR nodes i3 1 p1)/\∃i5,(b0=true->b1=false->aB w3 p1 [O U i5])/\nx k4 λk5=>J2 k5 (b0&&(b1||(i5==i1))) (ar U (i3+1)) w3) (∃p2,(b0=true->(decide (i0<0))=false->cR l i1 5 p2)/\∃i6,(b0=true->(decide (i0<0))=false->aB w2 (p2.add 3) [O U i6])/\∃p3,(b0=true->(decide (i0<0))=false->cR l i0 5 p3)/\∃i7,(b0=true->(decide (i0<0))=false->aB w2 (p3.add 3) [O U i7])/\cp (b0&&((decide (i0<0))||(decide (i6>i7)))) (∀w4,ay [] w2 w4->J1 i1 w4) (∀w5,ay [] w2 w5->J1 i0 w5))) (R (O U i0) w0)):Cr 128 #[l.v,nodes.v] w R:=
 fB (an:=.d 2 (.s (.s .o (.j [0,1] [.s 5 (.int .i64),.s 6 (.int .i64)] (.s .o (.j [0,1,6] [.s 5 (.int .i64)] (.s .o (.s (.s .o (.j [0,1,5,6] [.s 7 .bool,.s 8 (.int .i64)] .o .o)) .o)) .o)) .o)) .o)) (args:=[.sl l,.sl nodes]) h
end Go.Proofs.YtmgndgpgngcgpaaGreatDoor.Vc
namespace Go.Proofs
open Go.Shelf
def Tryz.zn:Go.Shelf.Ren:=⟨λ| 156=>145 | 165=>144 | 166=>99 | 169=>59 | 240=>142 | 241=>181 | 276=>178 | 277=>207 | n=>n,λ| 31=>41 | 9=>9 | 3=>3 | 4=>4 | 0=>0 | 20=>20 | 72=>114 | 76=>171 | 70=>111 | 37=>112 | 75=>170 | 127=>178 | 164=>230 | 5=>5 | 80=>123 | n=>n,λ| n=>n⟩
theorem Tryz.M2:Go.Proofs.Lays.n156 Tryz.prog Tryz.zn:={
 mixed:=by kernel_rfl
 f156:=Tryz.func145.trans (bO some (by kernel_rfl))
 f165:=Tryz.func144.trans (bO some (by kernel_rfl))
 f166:=Tryz.func99.trans (bO some (by kernel_rfl))
 f169:=Tryz.func59.trans (bO some (by kernel_rfl))
 f240:=Tryz.func142.trans (bO some (by kernel_rfl))
 f241:=Tryz.func181.trans (bO some (by kernel_rfl))
 f276:=Tryz.func178.trans (bO some (by kernel_rfl))
 f277:=Tryz.func207.trans (bO some (by kernel_rfl))
 t0:=Tryz.underlying0
 a0:=Tryz.isAgg0
 z0:=Tryz.sizeOf0
 v0:=Tryz.zeroValue0
 t3:=Tryz.underlying3
 a3:=Tryz.isAgg3
 z3:=Tryz.sizeOf3
 v3:=Tryz.zeroValue3
 t4:=Tryz.underlying4
 a4:=Tryz.isAgg4
 z4:=Tryz.sizeOf4
 v4:=Tryz.zeroValue4
 t9:=Tryz.underlying9
 a9:=Tryz.isAgg9
 z9:=Tryz.sizeOf9
 v9:=Tryz.zeroValue9
 t20:=Tryz.underlying20
 a20:=Tryz.isAgg20
 z20:=Tryz.sizeOf20
 v20:=Tryz.zeroValue20
 t31:=Tryz.underlying41
 a31:=Tryz.isAgg41
 z31:=Tryz.sizeOf41
 v31:=Tryz.zeroValue41
 t37:=Tryz.underlying112
 a37:=Tryz.isAgg112
 z37:=Tryz.sizeOf112
 v37:=Tryz.zeroValue112
 t70:=Tryz.underlying111
 a70:=Tryz.isAgg111
 z70:=Tryz.sizeOf111
 v70:=Tryz.zeroValue111
 t72:=Tryz.underlying114
 a72:=Tryz.isAgg114
 z72:=Tryz.sizeOf114
 v72:=Tryz.zeroValue114
 t75:=Tryz.underlying170
 a75:=Tryz.isAgg170
 z75:=Tryz.sizeOf170
 v75:=Tryz.zeroValue170
 t76:=Tryz.underlying171
 a76:=Tryz.isAgg171
 z76:=Tryz.sizeOf171
 v76:=Tryz.zeroValue171
 t127:=Tryz.underlying178
 a127:=Tryz.isAgg178
 z127:=Tryz.sizeOf178
 v127:=Tryz.zeroValue178
 t164:=Tryz.underlying230
 a164:=Tryz.isAgg230
 z164:=Tryz.sizeOf230
 v164:=Tryz.zeroValue230}
theorem Tryz.qi:Builder.Extra Tryz.prog Tryz.zn:={
 sizeBuilder:=by kernel_rfl
 liesBuilder:=by kernel_rfl
 t5:=Tryz.underlying5
 a5:=Tryz.isAgg5
 z5:=Tryz.sizeOf5
 v5:=Tryz.zeroValue5
 infoByte:=by kernel_rfl
 cellsByte:=by kernel_rfl
 sizeByte:=by kernel_rfl
 neB5:=aL}
open Go.RowKit in
theorem Tryz.strings_Join_none (a:Option Addr) (c:Nat) (sep:ByteArray) (w:World):
 Calls Tryz.prog 145 #[.slice a 0 c,.string sep] w λe w'=>e=.returned (.string ⟨#[]⟩)/\w'=w:=Any.strings_Join_none Tryz.M2 Tryz.qi a c sep w
open Go.RowKit in
theorem Tryz.strings_Join (bk o c:Nat) (xs:List ByteArray) (sep:ByteArray) (w:World) (wA:∀(j:Nat) x,xs[j]? =some x->w.cell? ⟨bk,o+j,none⟩=some (.string x)) (Ph:bk<w.heap.size) (hN:xs.length<=140737488355328) (oS:xs.length<=c) (fi:(Lib.join (xs.map (·.data.toList)) sep.data.toList).length<=140737488355328):
 Calls Tryz.prog 145 #[.slice (some ⟨bk,o,none⟩) xs.length c,.string sep] w λe w'=>e=.returned (.string ⟨(Lib.join (xs.map (·.data.toList)) sep.data.toList).toArray⟩)/\Below w.heap.size w w':=Any.strings_Join Tryz.M2 Tryz.qi bk o c xs sep w wA Ph hN oS fi
def Tryz.FE:Go.Shelf.Ren:=⟨λ| 171=>103 | 243=>150 | 246=>183 | 283=>208 | 284=>209 | 285=>210 | 286=>211 | 129=>228 | 317=>227 | 318=>229 | 319=>230 | 320=>231 | 337=>248 | 338=>249 | n=>n,λ| 3=>3 | 9=>9 | 2=>2 | 4=>4 | 171=>258 | 0=>0 | 53=>190 | 37=>112 | 5=>5 | 173=>261 | 212=>282 | 51=>232 | 20=>20 | 213=>283 | 46=>207 | 232=>303 | 233=>304 | n=>n,λ| 17=>3 | 18=>6 | 19=>7 | n=>n⟩
theorem Tryz.SR:Go.Proofs.LaysM.n171 Tryz.prog Tryz.FE:={
 mixed:=by kernel_rfl
 f129:=Tryz.func228.trans (bO some (by kernel_rfl))
 f171:=Tryz.func103.trans (bO some (by kernel_rfl))
 f243:=Tryz.func150.trans (bO some (by kernel_rfl))
 f246:=Tryz.func183.trans (bO some (by kernel_rfl))
 f283:=Tryz.func208.trans (bO some (by kernel_rfl))
 f284:=Tryz.func209.trans (bO some (by kernel_rfl))
 f285:=Tryz.func210.trans (bO some (by kernel_rfl))
 f286:=Tryz.func211.trans (bO some (by kernel_rfl))
 f317:=Tryz.func227.trans (bO some (by kernel_rfl))
 f318:=Tryz.func229.trans (bO some (by kernel_rfl))
 f319:=Tryz.func230.trans (bO some (by kernel_rfl))
 f320:=Tryz.func231.trans (bO some (by kernel_rfl))
 f337:=Tryz.func248.trans (bO some (by kernel_rfl))
 f338:=Tryz.func249.trans (bO some (by kernel_rfl))
 t0:=Tryz.underlying0
 a0:=Tryz.isAgg0
 z0:=Tryz.sizeOf0
 v0:=Tryz.zeroValue0
 t2:=Tryz.underlying2
 a2:=Tryz.isAgg2
 z2:=Tryz.sizeOf2
 v2:=Tryz.zeroValue2
 t3:=Tryz.underlying3
 a3:=Tryz.isAgg3
 z3:=Tryz.sizeOf3
 v3:=Tryz.zeroValue3
 t4:=Tryz.underlying4
 a4:=Tryz.isAgg4
 z4:=Tryz.sizeOf4
 v4:=Tryz.zeroValue4
 t5:=Tryz.underlying5
 a5:=Tryz.isAgg5
 z5:=Tryz.sizeOf5
 v5:=Tryz.zeroValue5
 t9:=Tryz.underlying9
 a9:=Tryz.isAgg9
 z9:=Tryz.sizeOf9
 v9:=Tryz.zeroValue9
 t20:=Tryz.underlying20
 a20:=Tryz.isAgg20
 z20:=Tryz.sizeOf20
 v20:=Tryz.zeroValue20
 t37:=Tryz.underlying112
 a37:=Tryz.isAgg112
 z37:=Tryz.sizeOf112
 v37:=Tryz.zeroValue112
 t46:=Tryz.underlying207
 a46:=Tryz.isAgg207
 z46:=Tryz.sizeOf207
 v46:=Tryz.zeroValue207
 t51:=Tryz.underlying232
 a51:=Tryz.isAgg232
 z51:=Tryz.sizeOf232
 v51:=Tryz.zeroValue232
 t53:=Tryz.underlying190
 a53:=Tryz.isAgg190
 z53:=Tryz.sizeOf190
 v53:=Tryz.zeroValue190
 t171:=Tryz.underlying258
 a171:=Tryz.isAgg258
 z171:=Tryz.sizeOf258
 v171:=Tryz.zeroValue258
 t173:=Tryz.underlying261
 a173:=Tryz.isAgg261
 z173:=Tryz.sizeOf261
 v173:=Tryz.zeroValue261
 t212:=Tryz.underlying282
 a212:=Tryz.isAgg282
 z212:=Tryz.sizeOf282
 v212:=Tryz.zeroValue282
 t213:=Tryz.underlying283
 a213:=Tryz.isAgg283
 z213:=Tryz.sizeOf283
 t232:=Tryz.underlying303
 a232:=Tryz.isAgg303
 z232:=Tryz.sizeOf303
 v232:=Tryz.zeroValue303
 t233:=Tryz.underlying304
 a233:=Tryz.isAgg304
 z233:=Tryz.sizeOf304
 v233:=Tryz.zeroValue304
 g17:=by kernel_rfl
 g18:=by kernel_rfl
 g19:=by kernel_rfl
 i0:=by kernel_rfl
 i2:=by kernel_rfl
 i3:=by kernel_rfl
 i4:=by kernel_rfl
 i5:=by kernel_rfl
 i9:=by kernel_rfl
 i20:=by kernel_rfl
 i37:=by kernel_rfl
 i46:=by kernel_rfl
 i51:=by kernel_rfl
 i53:=by kernel_rfl
 i171:=by kernel_rfl
 i173:=by kernel_rfl
 i212:=by kernel_rfl
 i232:=by kernel_rfl
 i233:=by kernel_rfl
 m17:=by kernel_rfl
 m18:=by kernel_rfl
 m19:=by kernel_rfl}
open Go.RowKit Go.Sort Go.Lib in
theorem Tryz.strconv_Itoa (n:Int) (h0: -9223372036854775808<=n) (h1:n<=9223372036854775807) (w:World) (amU:Lib.TabIs Tryz.prog w "internal/strconv.uint64pow10" .u64 Lib.pow10Tab):
 Calls Tryz.prog 103 #[.int .i64 n] w λe w'=>e=.returned (.string ⟨(Lib.itoa n).toArray⟩)/\∃k os,w'=grow (w.drewN k) os:=Any.strconv_Itoa Tryz.SR n h0 h1 w amU
def Tryz.FF:Go.Shelf.Ren:=⟨λ| 316=>203 | n=>n,λ| 9=>9 | 3=>3 | 4=>4 | 37=>112 | 0=>0 | 127=>178 | 5=>5 | n=>n,λ| n=>n⟩
theorem Tryz.SS:Go.Proofs.LaysM.n316 Tryz.prog Tryz.FF:={
 mixed:=by kernel_rfl
 f316:=Tryz.func203.trans (bO some (by kernel_rfl))
 t0:=Tryz.underlying0
 a0:=Tryz.isAgg0
 z0:=Tryz.sizeOf0
 v0:=Tryz.zeroValue0
 t3:=Tryz.underlying3
 a3:=Tryz.isAgg3
 z3:=Tryz.sizeOf3
 v3:=Tryz.zeroValue3
 t4:=Tryz.underlying4
 a4:=Tryz.isAgg4
 z4:=Tryz.sizeOf4
 v4:=Tryz.zeroValue4
 t9:=Tryz.underlying9
 a9:=Tryz.isAgg9
 z9:=Tryz.sizeOf9
 v9:=Tryz.zeroValue9
 t37:=Tryz.underlying112
 a37:=Tryz.isAgg112
 z37:=Tryz.sizeOf112
 v37:=Tryz.zeroValue112
 t127:=Tryz.underlying178
 a127:=Tryz.isAgg178
 z127:=Tryz.sizeOf178
 v127:=Tryz.zeroValue178
 t5:=Tryz.underlying5
 a5:=Tryz.isAgg5
 z5:=Tryz.sizeOf5
 v5:=Tryz.zeroValue5
 i0:=by kernel_rfl
 i3:=by kernel_rfl
 i4:=by kernel_rfl
 i5:=by kernel_rfl
 i9:=by kernel_rfl
 i37:=by kernel_rfl
 i127:=by kernel_rfl}
open Go.RowKit in
theorem Tryz.stringslite_Clone (s:ByteArray) (w:World) (abk:s.size<=281474976710656):
 Calls Tryz.prog 203 #[.string s] w λe w'=>e=.returned (.string s)/\Below w.heap.size w w':=Any.stringslite_Clone Tryz.SS s w abk
def Tryz.FG:Go.Shelf.Ren:=⟨λ| 174=>205 | 247=>221 | 245=>222 | 287=>241 | 279=>242 | 280=>243 | 281=>244 | 282=>245 | 321=>256 | 322=>257 | 316=>203 | 171=>103 | 205=>258 | 243=>150 | 246=>183 | 283=>208 | 284=>209 | 285=>210 | 286=>211 | 129=>228 | 317=>227 | 318=>229 | 319=>230 | 320=>231 | 337=>248 | 338=>249 | n=>n,λ| 9=>9 | 3=>3 | 2=>2 | 75=>170 | 85=>255 | 4=>4 | 167=>287 | 5=>5 | 53=>190 | 175=>288 | 46=>207 | 168=>290 | 37=>112 | 0=>0 | 210=>298 | 21=>21 | 127=>178 | 145=>307 | 143=>305 | 171=>258 | 173=>261 | 212=>282 | 51=>232 | 20=>20 | 213=>283 | 232=>303 | 233=>304 | 80=>123 | n=>n,λ| 15=>4 | 16=>5 | 17=>3 | 18=>6 | 19=>7 | n=>n⟩
theorem Tryz.H8:Go.Proofs.LaysC.n174 Tryz.prog Tryz.FG:={
 mixed:=by kernel_rfl
 f129:=Tryz.func228.trans (bO some (by kernel_rfl))
 f171:=Tryz.func103.trans (bO some (by kernel_rfl))
 f174:=Tryz.func205.trans (bO some (by kernel_rfl))
 f205:=Tryz.func258.trans (bO some (by kernel_rfl))
 f243:=Tryz.func150.trans (bO some (by kernel_rfl))
 f245:=Tryz.func222.trans (bO some (by kernel_rfl))
 f246:=Tryz.func183.trans (bO some (by kernel_rfl))
 f247:=Tryz.func221.trans (bO some (by kernel_rfl))
 f279:=Tryz.func242.trans (bO some (by kernel_rfl))
 f280:=Tryz.func243.trans (bO some (by kernel_rfl))
 f281:=Tryz.func244.trans (bO some (by kernel_rfl))
 f282:=Tryz.func245.trans (bO some (by kernel_rfl))
 f283:=Tryz.func208.trans (bO some (by kernel_rfl))
 f284:=Tryz.func209.trans (bO some (by kernel_rfl))
 f285:=Tryz.func210.trans (bO some (by kernel_rfl))
 f286:=Tryz.func211.trans (bO some (by kernel_rfl))
 f287:=Tryz.func241.trans (bO some (by kernel_rfl))
 f316:=Tryz.func203.trans (bO some (by kernel_rfl))
 f317:=Tryz.func227.trans (bO some (by kernel_rfl))
 f318:=Tryz.func229.trans (bO some (by kernel_rfl))
 f319:=Tryz.func230.trans (bO some (by kernel_rfl))
 f320:=Tryz.func231.trans (bO some (by kernel_rfl))
 f321:=Tryz.func256.trans (bO some (by kernel_rfl))
 f322:=Tryz.func257.trans (bO some (by kernel_rfl))
 f337:=Tryz.func248.trans (bO some (by kernel_rfl))
 f338:=Tryz.func249.trans (bO some (by kernel_rfl))
 t0:=Tryz.underlying0
 a0:=Tryz.isAgg0
 z0:=Tryz.sizeOf0
 v0:=Tryz.zeroValue0
 t2:=Tryz.underlying2
 a2:=Tryz.isAgg2
 z2:=Tryz.sizeOf2
 v2:=Tryz.zeroValue2
 t3:=Tryz.underlying3
 a3:=Tryz.isAgg3
 z3:=Tryz.sizeOf3
 v3:=Tryz.zeroValue3
 t4:=Tryz.underlying4
 a4:=Tryz.isAgg4
 z4:=Tryz.sizeOf4
 v4:=Tryz.zeroValue4
 t5:=Tryz.underlying5
 a5:=Tryz.isAgg5
 z5:=Tryz.sizeOf5
 v5:=Tryz.zeroValue5
 t9:=Tryz.underlying9
 a9:=Tryz.isAgg9
 z9:=Tryz.sizeOf9
 v9:=Tryz.zeroValue9
 t20:=Tryz.underlying20
 a20:=Tryz.isAgg20
 z20:=Tryz.sizeOf20
 v20:=Tryz.zeroValue20
 t21:=Tryz.underlying21
 a21:=Tryz.isAgg21
 z21:=Tryz.sizeOf21
 v21:=Tryz.zeroValue21
 t37:=Tryz.underlying112
 a37:=Tryz.isAgg112
 z37:=Tryz.sizeOf112
 v37:=Tryz.zeroValue112
 t46:=Tryz.underlying207
 a46:=Tryz.isAgg207
 z46:=Tryz.sizeOf207
 v46:=Tryz.zeroValue207
 t51:=Tryz.underlying232
 a51:=Tryz.isAgg232
 z51:=Tryz.sizeOf232
 v51:=Tryz.zeroValue232
 t53:=Tryz.underlying190
 a53:=Tryz.isAgg190
 z53:=Tryz.sizeOf190
 v53:=Tryz.zeroValue190
 t75:=Tryz.underlying170
 a75:=Tryz.isAgg170
 z75:=Tryz.sizeOf170
 v75:=Tryz.zeroValue170
 t85:=Tryz.underlying255
 a85:=Tryz.isAgg255
 z85:=Tryz.sizeOf255
 v85:=Tryz.zeroValue255
 t127:=Tryz.underlying178
 a127:=Tryz.isAgg178
 z127:=Tryz.sizeOf178
 v127:=Tryz.zeroValue178
 t143:=Tryz.underlying305
 a143:=Tryz.isAgg305
 z143:=Tryz.sizeOf305
 v143:=Tryz.zeroValue305
 t145:=Tryz.underlying307
 a145:=Tryz.isAgg307
 z145:=Tryz.sizeOf307
 v145:=Tryz.zeroValue307
 t167:=Tryz.underlying287
 a167:=Tryz.isAgg287
 z167:=Tryz.sizeOf287
 v167:=Tryz.zeroValue287
 t168:=Tryz.underlying290
 a168:=Tryz.isAgg290
 z168:=Tryz.sizeOf290
 v168:=Tryz.zeroValue290
 t171:=Tryz.underlying258
 a171:=Tryz.isAgg258
 z171:=Tryz.sizeOf258
 v171:=Tryz.zeroValue258
 t173:=Tryz.underlying261
 a173:=Tryz.isAgg261
 z173:=Tryz.sizeOf261
 v173:=Tryz.zeroValue261
 t175:=Tryz.underlying288
 a175:=Tryz.isAgg288
 z175:=Tryz.sizeOf288
 v175:=Tryz.zeroValue288
 t210:=Tryz.underlying298
 a210:=Tryz.isAgg298
 z210:=Tryz.sizeOf298
 v210:=Tryz.zeroValue298
 t212:=Tryz.underlying282
 a212:=Tryz.isAgg282
 z212:=Tryz.sizeOf282
 v212:=Tryz.zeroValue282
 t213:=Tryz.underlying283
 a213:=Tryz.isAgg283
 z213:=Tryz.sizeOf283
 t232:=Tryz.underlying303
 a232:=Tryz.isAgg303
 z232:=Tryz.sizeOf303
 v232:=Tryz.zeroValue303
 t233:=Tryz.underlying304
 a233:=Tryz.isAgg304
 z233:=Tryz.sizeOf304
 v233:=Tryz.zeroValue304
 g15:=by kernel_rfl
 g16:=by kernel_rfl
 g17:=by kernel_rfl
 g18:=by kernel_rfl
 g19:=by kernel_rfl
 t80:=Tryz.underlying123
 a80:=Tryz.isAgg123
 z80:=Tryz.sizeOf123
 v80:=Tryz.zeroValue123
 i0:=by kernel_rfl
 i2:=by kernel_rfl
 i3:=by kernel_rfl
 i4:=by kernel_rfl
 i5:=by kernel_rfl
 i9:=by kernel_rfl
 i20:=by kernel_rfl
 i21:=by kernel_rfl
 i37:=by kernel_rfl
 i46:=by kernel_rfl
 i51:=by kernel_rfl
 i53:=by kernel_rfl
 i75:=by kernel_rfl
 i80:=by kernel_rfl
 i85:=by kernel_rfl
 i127:=by kernel_rfl
 i143:=by kernel_rfl
 i145:=by kernel_rfl
 i167:=by kernel_rfl
 i168:=by kernel_rfl
 i171:=by kernel_rfl
 i173:=by kernel_rfl
 i175:=by kernel_rfl
 i210:=by kernel_rfl
 i212:=by kernel_rfl
 i232:=by kernel_rfl
 i233:=by kernel_rfl
 m15:=by kernel_rfl
 m16:=by kernel_rfl
 m17:=by kernel_rfl
 m18:=by kernel_rfl
 m19:=by kernel_rfl
 c0:=by kernel_rfl
 c2:=by kernel_rfl
 c3:=by kernel_rfl
 c4:=by kernel_rfl
 c5:=by kernel_rfl
 c9:=by kernel_rfl
 c20:=by kernel_rfl
 c21:=by kernel_rfl
 c37:=by kernel_rfl
 c46:=by kernel_rfl
 c51:=by kernel_rfl
 c53:=by kernel_rfl
 c75:=by kernel_rfl
 c80:=by kernel_rfl
 c85:=by kernel_rfl
 c127:=by kernel_rfl
 c143:=by kernel_rfl
 c145:=by kernel_rfl
 c167:=by kernel_rfl
 c168:=by kernel_rfl
 c171:=by kernel_rfl
 c173:=by kernel_rfl
 c175:=by kernel_rfl
 c210:=by kernel_rfl
 c212:=by kernel_rfl
 c213:=by kernel_rfl
 c232:=by kernel_rfl
 c233:=by kernel_rfl}
open Go.RowKit in
theorem Tryz.strconv_ParseInt_10_at64_ok (s:ByteArray) (amV:s.size<=9223372036854775806) (v:Int) (h:Lib.parseIntB 64 s.data.toList=.ok v) (w:World):
 Calls Tryz.prog 205 #[.string s,.int .i64 10,.int .i64 64] w λe w'=>e=.returned (.tuple #[.int .i64 v,.nilIface])/\(w'=w∨∃t,w'=Lib.bytesWorld w 5 t):=Any.strconv_ParseInt_10_at64_ok Tryz.H8 s amV v h w
open Go.RowKit in
theorem Tryz.strconv_ParseInt_10_at64_range_var (s:ByteArray) (abk:s.size<=281474976710656) (h:Lib.parseIntB 64 s.data.toList=.range) (tp:TypeId) (p:Value) (w:World) (abl:w.var? Tryz.prog "strconv.ErrRange" =some #[.iface tp p]):
 Calls Tryz.prog 205 #[.string s,.int .i64 10,.int .i64 64] w λe w'=>∃N,e=.returned (.tuple #[.int .i64 (Lib.intSat 64 s.data.toList),.iface 290 (.pointer (some ⟨N,0,none⟩))])/\w.heap.size<=N/\w'.heap[N]? =some (.cells #[.string ⟨#[80,97,114,115,101,73,110,116]⟩,.string s,.iface tp p] 298 (0,0))/\Below w.heap.size w w':=Any.strconv_ParseInt_10_at64_range_var Tryz.H8 s abk h tp p w abl
def Tryz.H9:Go.Shelf.Ren:=⟨λ| 219=>156 | 217=>185 | 225=>186 | 224=>187 | 267=>188 | 266=>216 | 314=>217 | n=>n,λ| 9=>9 | 3=>3 | 4=>4 | 5=>5 | 46=>207 | 146=>233 | 51=>232 | n=>n,λ| 1=>0 | n=>n⟩
theorem Tryz.Wm:Go.Proofs.Lays.n219 Tryz.prog Tryz.H9:={
 mixed:=by kernel_rfl
 f217:=Tryz.func185.trans (bO some (by kernel_rfl))
 f219:=Tryz.func156.trans (bO some (by kernel_rfl))
 f224:=Tryz.func187.trans (bO some (by kernel_rfl))
 f225:=Tryz.func186.trans (bO some (by kernel_rfl))
 f266:=Tryz.func216.trans (bO some (by kernel_rfl))
 f267:=Tryz.func188.trans (bO some (by kernel_rfl))
 f314:=Tryz.func217.trans (bO some (by kernel_rfl))
 t3:=Tryz.underlying3
 a3:=Tryz.isAgg3
 z3:=Tryz.sizeOf3
 v3:=Tryz.zeroValue3
 t4:=Tryz.underlying4
 a4:=Tryz.isAgg4
 z4:=Tryz.sizeOf4
 v4:=Tryz.zeroValue4
 t5:=Tryz.underlying5
 a5:=Tryz.isAgg5
 z5:=Tryz.sizeOf5
 v5:=Tryz.zeroValue5
 t9:=Tryz.underlying9
 a9:=Tryz.isAgg9
 z9:=Tryz.sizeOf9
 v9:=Tryz.zeroValue9
 t46:=Tryz.underlying207
 a46:=Tryz.isAgg207
 z46:=Tryz.sizeOf207
 v46:=Tryz.zeroValue207
 t51:=Tryz.underlying232
 a51:=Tryz.isAgg232
 z51:=Tryz.sizeOf232
 v51:=Tryz.zeroValue232
 t146:=Tryz.underlying233
 a146:=Tryz.isAgg233
 z146:=Tryz.sizeOf233
 v146:=Tryz.zeroValue233
 g1:=by kernel_rfl}
open Go.RowKit Go.Lib in
theorem Tryz.stringslite_Index_one (s:ByteArray) (c:UInt8) (w:World):
 Calls Tryz.prog 156 #[.string s,.string ⟨#[c]⟩] w λe w'=>e=.returned (.int .i64 (Lib.indexByte s.data.toList c))/\w'=w:=Any.stringslite_Index_one Tryz.Wm s c w
def Tryz.zo:Go.Shelf.Ren:=⟨λ| 105=>100 | 212=>143 | 99=>130 | 165=>144 | 166=>99 | 170=>108 | 169=>59 | 263=>179 | 264=>180 | 206=>170 | 240=>142 | 241=>181 | 276=>178 | 277=>207 | n=>n,λ| 9=>9 | 3=>3 | 4=>4 | 20=>20 | 0=>0 | 46=>207 | 109=>208 | 5=>5 | 72=>114 | 76=>171 | 51=>232 | 146=>233 | 53=>190 | 148=>235 | 70=>111 | 37=>112 | 75=>170 | 127=>178 | 164=>230 | 80=>123 | n=>n,λ| n=>n⟩
theorem Tryz.Wn:Go.Proofs.Lays.n105 Tryz.prog Tryz.zo:={
 mixed:=by kernel_rfl
 f99:=Tryz.func130.trans (bO some (by kernel_rfl))
 f105:=Tryz.func100.trans (bO some (by kernel_rfl))
 f165:=Tryz.func144.trans (bO some (by kernel_rfl))
 f166:=Tryz.func99.trans (bO some (by kernel_rfl))
 f169:=Tryz.func59.trans (bO some (by kernel_rfl))
 f170:=Tryz.func108.trans (bO some (by kernel_rfl))
 f206:=Tryz.func170.trans (bO some (by kernel_rfl))
 f212:=Tryz.func143.trans (bO some (by kernel_rfl))
 f240:=Tryz.func142.trans (bO some (by kernel_rfl))
 f241:=Tryz.func181.trans (bO some (by kernel_rfl))
 f263:=Tryz.func179.trans (bO some (by kernel_rfl))
 f264:=Tryz.func180.trans (bO some (by kernel_rfl))
 f276:=Tryz.func178.trans (bO some (by kernel_rfl))
 f277:=Tryz.func207.trans (bO some (by kernel_rfl))
 t0:=Tryz.underlying0
 a0:=Tryz.isAgg0
 z0:=Tryz.sizeOf0
 v0:=Tryz.zeroValue0
 t3:=Tryz.underlying3
 a3:=Tryz.isAgg3
 z3:=Tryz.sizeOf3
 v3:=Tryz.zeroValue3
 t4:=Tryz.underlying4
 a4:=Tryz.isAgg4
 z4:=Tryz.sizeOf4
 v4:=Tryz.zeroValue4
 t5:=Tryz.underlying5
 a5:=Tryz.isAgg5
 z5:=Tryz.sizeOf5
 v5:=Tryz.zeroValue5
 t9:=Tryz.underlying9
 a9:=Tryz.isAgg9
 z9:=Tryz.sizeOf9
 v9:=Tryz.zeroValue9
 t20:=Tryz.underlying20
 a20:=Tryz.isAgg20
 z20:=Tryz.sizeOf20
 v20:=Tryz.zeroValue20
 t37:=Tryz.underlying112
 a37:=Tryz.isAgg112
 z37:=Tryz.sizeOf112
 v37:=Tryz.zeroValue112
 t46:=Tryz.underlying207
 a46:=Tryz.isAgg207
 z46:=Tryz.sizeOf207
 v46:=Tryz.zeroValue207
 t51:=Tryz.underlying232
 a51:=Tryz.isAgg232
 z51:=Tryz.sizeOf232
 v51:=Tryz.zeroValue232
 t53:=Tryz.underlying190
 a53:=Tryz.isAgg190
 z53:=Tryz.sizeOf190
 v53:=Tryz.zeroValue190
 t70:=Tryz.underlying111
 a70:=Tryz.isAgg111
 z70:=Tryz.sizeOf111
 v70:=Tryz.zeroValue111
 t72:=Tryz.underlying114
 a72:=Tryz.isAgg114
 z72:=Tryz.sizeOf114
 v72:=Tryz.zeroValue114
 t75:=Tryz.underlying170
 a75:=Tryz.isAgg170
 z75:=Tryz.sizeOf170
 v75:=Tryz.zeroValue170
 t76:=Tryz.underlying171
 a76:=Tryz.isAgg171
 z76:=Tryz.sizeOf171
 v76:=Tryz.zeroValue171
 t109:=Tryz.underlying208
 a109:=Tryz.isAgg208
 z109:=Tryz.sizeOf208
 v109:=Tryz.zeroValue208
 t127:=Tryz.underlying178
 a127:=Tryz.isAgg178
 z127:=Tryz.sizeOf178
 v127:=Tryz.zeroValue178
 t146:=Tryz.underlying233
 a146:=Tryz.isAgg233
 z146:=Tryz.sizeOf233
 v146:=Tryz.zeroValue233
 t148:=Tryz.underlying235
 a148:=Tryz.isAgg235
 z148:=Tryz.sizeOf235
 v148:=Tryz.zeroValue235
 t164:=Tryz.underlying230
 a164:=Tryz.isAgg230
 z164:=Tryz.sizeOf230
 v164:=Tryz.zeroValue230}
theorem Tryz.xM:Builder.Extra Tryz.prog Tryz.zo:={
 sizeBuilder:=by kernel_rfl
 liesBuilder:=by kernel_rfl
 t5:=Tryz.underlying5
 a5:=Tryz.isAgg5
 z5:=Tryz.sizeOf5
 v5:=Tryz.zeroValue5
 infoByte:=by kernel_rfl
 cellsByte:=by kernel_rfl
 sizeByte:=by kernel_rfl
 neB5:=aL}
open Go.RowKit Go.Lib in
theorem Tryz.strings_Repeat (s:ByteArray) (c:Nat) (w:World) (hc:c<=9223372036854775807) (fi:s.size*c<=140737488355328):
 Calls Tryz.prog 100 #[.string s,.int .i64 c] w λe w'=>e=.returned (.string ⟨(Lib.repeatL s.data.toList c).toArray⟩)/\Below w.heap.size w w':=Any.strings_Repeat Tryz.Wn Tryz.xM s c w hc fi
end Go.Proofs
namespace Go.Proofs.YtmgndgpgngcgpaaGreatDoor.Con
open Go Go.RowKit Go.Kt Go.Kt.V Go.Proofs.YtmgndgpgngcgpaaGreatDoor.Vc
theorem ret{P:Program}{f:FuncId}{a:Array aw}{w:av}{r:aw}{Q:av->Prop}(h:az P f a w λe w'=>∃v,e=ak v/\v=r/\Q w'):az P f a w λe w'=>e=ak r/\Q w':=
 h.mono (by rintro e w' ⟨v,rfl,rfl,hq⟩;exact⟨rfl,hq⟩)
theorem Blk.dN{w:av}{b:Nat}{t:TypeId}{cs:aI}(h:aF w b t cs)(j:Nat){v:aw}(hv:cs[j]? =some v):aB w ((⟨b,0,none⟩:Addr).add j) [v]:=by
 rw[gH,bM];exact h.cells j [v] λk u hk=>by
  cases k with
  | zero=>simp only[cD,bq]at hk;subst hk;exact hv
  | succ k=>simp at hk
def eZ(c:UInt8):Bool:=(65<=c.toNat&&c.toNat<=90)||(97<=c.toNat&&c.toNat<=122)||c.toNat==95
def cW(c:UInt8):Bool:=48<=c.toNat&&c.toNat<=57
def eF(c:UInt8):Bool:=eZ c||cW c
def ot(c:UInt8):Bool:=[9,10,13,32].contains c
theorem Ji:∀n:Fin 256,(((decide (97<=(bits .or .u8 (n.val:Int) 32)))&&(decide ((bits .or .u8 (n.val:Int) 32)<=122)))||((n.val:Int)==95))=((65<=n.val&&n.val<=90)||(97<=n.val&&n.val<=122)||n.val==95):=adx
theorem Be(w:av)(c:UInt8):az aq 133 #[.int .u8 (c.toNat:Int)] w λe w'=>e=ak (aj (eZ c))/\ay [] w w':=by
 refine ret (aeN _ _ _ ?_);exact⟨by rw[Ji ⟨c.toNat,c.toNat_lt⟩];rfl,Only.refl _ _⟩
theorem Lm(w:av)(c:UInt8):az aq 135 #[.int .u8 (c.toNat:Int)] w λe w'=>e=ak (aj (cW c))/\ay [] w w':=by
 refine ret (aeQ _ _ _ ?_);refine⟨?_,Only.refl _ _⟩;congr 1;rw[bH];simp only[cW,aP,bI];omega
theorem Qy(w:av)(c:UInt8):az aq 204 #[.int .u8 (c.toNat:Int)] w λe w'=>e=ak (aj (cW c))/\ay [] w w':=by
 refine ret (v2w _ _ _ ?_);refine⟨?_,Only.refl _ _⟩;have h:∀n:Fin 256,decide ((ar .u8 ((n.val:Int)-48))<10)=(decide (48<=n.val)&&decide (n.val<=57)):=adx
 rw[h ⟨c.toNat,c.toNat_lt⟩];rfl
theorem QA{w:av}{F:aJ}{s:Sl}{l:aH}(h:aA lj 1 w F s l)(c:UInt8):
  az aq 202 #[Sl.v s,.int .u8 (c.toNat:Int)] w λe w'=>∃i:Int,e=ak (O U i)/\decide (i>=0)=l.contains c/\ay [] w w':=by
 refine(aeI s _ (λv w'=>∃i:Int,v=O U i/\decide (i>=0)=l.contains c/\ay [] w w') w ?_).mono (by
  rintro e w' ⟨v,rfl,i,rfl,h⟩;exact⟨i,rfl,h⟩)
 have fi:=h.len;have qy:=h.big;have oS:=h.cap;refine⟨λnv i w'=>∃n:Nat,n<=l.length/\i=(n:Int)/\nv=l.length-n/\(∀x,x∈l.take n->x≠c)/\w'=w,l.length,⟨0,be _,rfl,rfl,aM,rfl⟩,?_⟩;rintro nv _ _ ⟨n,hn,rfl,rfl,hp,rfl⟩;refine⟨λhc=>?_,λhc=>?_⟩
 ·have bT:(n:Int)<s.n:=aR hc;obtain⟨ad,x,cs,g1,g2,g3,g4,g5,g6⟩:=h.get (aZ n) bT;rw[aX]at g2;unfold lj gC at g6;subst g6;refine⟨ad,g1,_,g5,λhe=>⟨_,rfl,?_,Only.refl _ _⟩,λhe=>⟨l.length-(n+1),aE,n+1,aE,aaa,rfl,?_,rfl⟩⟩
  ·have he:c=x:=T3.1 (by have:=aR he;omega);rw[bE aE];symm;rw[eK,he];exact bh g2
  intro y hy;rw[bn,g2]at hy;simp only[fH,cu,aO]at hy;rcases hy with hy | rfl
  ·exact hp y hy
  rintro rfl;simp at he
 have lR:¬((n:Int)<s.n):=aU hc;rw[bm aE]at hp;refine⟨_,rfl,?_,Only.refl _ _⟩;rw[bA aE];symm;rw[gN];intro hh;exact hp c (eK.1 hh) rfl
theorem GY{w:av}{F:aJ}{s:Sl}{l:aH}(h:aA lj 1 w F s l)(c:UInt8):
  az aq 169 #[Sl.v s,.int .u8 (c.toNat:Int)] w λe w'=>e=ak (aj (l.contains c))/\ay [] w w':=by
 refine ret (aeH _ _ _ _ ?_);refine(QA h c).mono ?_;rintro _ w1 ⟨i,rfl,hi,hO⟩;exact⟨i,rfl,by rw[hi],hO⟩
theorem GZ{w:av}{F:aJ}{s:Sl}{l:aH}(h:aA lj 1 w F s l)(c:UInt8):
  az aq 129 #[.int .u8 (c.toNat:Int),Sl.v s] w λe w'=>e=ak (aj (l.contains c))/\ay [] w w':=by
 refine ret (aeG _ _ _ _ ?_);refine(GY h c).mono ?_;rintro _ w1 ⟨rfl,hO⟩;exact⟨_,rfl,rfl,hO⟩
def kb:Rp (aH):=λ_ _ l cs=>cs=[ab (T l)]
theorem cX:kb.Ok where
 keep h _:=h
 inHeap h:=h
 mono h _:=h
 one:=by
  rintro w F x cs h v hv;unfold kb at h;subst h;simp only[aO]at hv;subst hv;rfl
theorem QB{w:av}{F:aJ}{s:Sl}{l:List (aH)}(h:aA kb 1 w F s l)(c:aH):
  az aq 138 #[Sl.v s,ab (T c)] w λe w'=>∃i:Int,e=ak (O U i)/\decide (i>=0)=l.contains c/\ay [] w w':=by
 refine(Xy s _ (λv w'=>∃i:Int,v=O U i/\decide (i>=0)=l.contains c/\ay [] w w') w ?_).mono (by
  rintro e w' ⟨v,rfl,i,rfl,h⟩;exact⟨i,rfl,h⟩)
 have fi:=h.len;have qy:=h.big;have oS:=h.cap;refine⟨λnv i w'=>∃n:Nat,n<=l.length/\i=(n:Int)/\nv=l.length-n/\(∀x,x∈l.take n->x≠c)/\w'=w,l.length,⟨0,be _,rfl,rfl,aM,rfl⟩,?_⟩;rintro nv _ _ ⟨n,hn,rfl,rfl,hp,rfl⟩;refine⟨λhc=>?_,λhc=>?_⟩
 ·have bT:(n:Int)<s.n:=aR hc;obtain⟨ad,x,cs,g1,g2,g3,g4,g5,g6⟩:=h.get (aZ n) bT;rw[aX]at g2;unfold kb at g6;subst g6;refine⟨ad,g1,_,g5,?_⟩;dsimp only;rw[gU];refine⟨λhe=>⟨_,rfl,?_,Only.refl _ _⟩,λhe=>⟨l.length-(n+1),aE,n+1,aE,aaa,rfl,?_,rfl⟩⟩
  ·have he:c=x:=aR he;rw[bE aE];symm;rw[eK,he];exact bh g2
  intro y hy;rw[bn,g2]at hy;simp only[fH,cu,aO]at hy;rcases hy with hy | rfl
  ·exact hp y hy
  rintro rfl;simp at he
 have lR:¬((n:Int)<s.n):=aU hc;rw[bm aE]at hp;refine⟨_,rfl,?_,Only.refl _ _⟩;rw[bA aE];symm;rw[gN];intro hh;exact hp c (eK.1 hh) rfl
theorem tK{w:av}{F:aJ}{s:Sl}{l:List (aH)}(h:aA kb 1 w F s l)(c:aH):
  az aq 149 #[Sl.v s,ab (T c)] w λe w'=>e=ak (aj (l.contains c))/\ay [] w w':=by
 refine ret (aeR _ _ _ _ ?_);refine(QB h c).mono ?_;rintro _ w1 ⟨i,rfl,hi,hO⟩;exact⟨i,rfl,by rw[hi],hO⟩
abbrev Vn(w:av)(b:Nat)(t:TypeId)(l:aH)(i:Nat)(r:aI):Prop:=aF w b t (ab (T l)::O U (i:Int)::r)
theorem XI{w:av}{b:Nat}{t:TypeId}{l:aH}{i:Nat}{r:aI}(h:Vn w b t l i r):
  az aq 90 #[ae (some ⟨b,0,none⟩)] w λe w'=>e=ak (aj (decide (l.length<=i)))/\ay [] w w':=by
 refine ret (aeF _ _ _ ?_);refine⟨i,Blk.dN h 1 rfl,T l,Blk.dN h 0 rfl,λw0 hO=>⟨?_,hO⟩⟩;rw[cq];congr 1;rw[ry];omega
theorem Bg{w:av}{b:Nat}{t:TypeId}{l:aH}{i:Nat}{r:aI}(h:Vn w b t l i r)(hi:i<=l.length):
  az aq 131 #[ae (some ⟨b,0,none⟩)] w λe w'=>e=ak (ab (T (l.drop i)))/\ay [] w w':=by
 refine ret (aeJ _ _ _ ?_);refine⟨T l,Blk.dN h 0 rfl,i,Blk.dN h 1 rfl,i,⟨rfl,by rw[cq];exact hi⟩,λw0 hO=>⟨?_,hO⟩⟩;rw[tA,cq,bm (by rw[cr];exact aY _)]
theorem lI{p:UInt8->Bool}:∀{l:aH} {n:Nat},n<=l.length->(∀x,x∈l.take n->p x=true)->(∀x,l[n]? =some x->p x=false)->l.takeWhile p=l.take n
 | [],n,_,_,_=>aM
 | c::r,0,_,_,h=>by
  have:=h c rfl;simp[this]
 | c::r,n+1,hn,h1,h2=>by
  have hc:=h1 c aM;rw[dk,aV hc,fS,lI (n:=n) acM (λx hx=>h1 x acI) (λx hx=>h2 x aa9)]
theorem QC{w:av}{b:Nat}{t:TypeId}{l:aH}{i:Nat}{r:aI}(h:Vn w b t l i r)(hi:i<=l.length)(hl:l.length<9223372036854775807):
  az aq 148 #[ae (some ⟨b,0,none⟩)] w λe w'=>e=ak (ab (T ((l.drop i).takeWhile eF)))/\ay [] w w':=by
 refine ret (aeP _ _ _ ?_);refine(Bg h hi).mono ?_;rintro _ w0 ⟨rfl,cf⟩;have hlr:(l.drop i).length<=l.length:=by rw[cr];omega
 generalize l.drop i=m at*
 refine⟨T m,rfl,λnv j w'=>∃n:Nat,n<=m.length/\j=(n:Int)/\nv=m.length-n/\(∀x,x∈m.take n->eF x=true)/\ay [] w w',m.length,⟨0,be _,rfl,rfl,aM,cf⟩,?_⟩;rintro nv _ w1 ⟨n,hn,rfl,rfl,hp,cn⟩;rw[cq];refine⟨λb w'=>(b=true->∃x,m[n]? =some x/\eF x=true)/\(b=false->∀x,m[n]? =some x->eF x=false)/\ay [] w w',?_,λhc=>?_,λhc=>⟨λe=>adg,λ_ x hx=>?_,cn⟩⟩
 ·rintro b w2 ⟨h1,h2,cH⟩;refine⟨λhb=>?_,λhb=>⟨n,⟨rfl,hn⟩,?_,cH⟩⟩
  ·obtain⟨x,hx,hw⟩:=h1 hb;have bT:=(bc.1 hx).1;refine⟨m.length-(n+1),aE,n+1,aE,aaa,rfl,λy hy=>?_,cH⟩;rw[bn,hx]at hy;simp only[fH,cu,aO]at hy;rcases hy with hy | rfl
   ·exact hp y hy
   exact hw
  rw[tA,fZ,zU,lI hn hp (h2 hb)]
 ·have bT:(n:Int)<m.length:=aR hc;have hx:m[n]? =some (m[n]' aE):=bJ aE;generalize m[n]' aE=x at hx;have hg:(T m)[Int.toNat (n:Int)]? =some x:=acO
  refine⟨x,⟨aZ n,hg⟩,(Be w1 x).mono ?_⟩;rintro _ w3 ⟨rfl,cT⟩;refine⟨_,rfl,λhb=>⟨λ_=>⟨x,hx,by unfold eF;rw[hb];rfl⟩,λe=>adg,cn.ca cT⟩,λhb=>⟨x,⟨aZ n,hg⟩,(Lm w3 x).mono ?_⟩⟩;rintro _ w4 ⟨rfl,dw⟩;refine⟨_,rfl,λhd=>⟨x,hx,by unfold eF;rw[hd,nE]⟩,λhd y hy=>?_,cn.ca (cT.ca dw)⟩;rw[hx]at hy;injection hy with hy;subst hy;unfold eF;rw[hb,hd];rfl
 have lR:¬(n:Int)<m.length:=aU hc;have:=(bc.1 hx).1;omega
theorem G0(w:av)(l p:aH)(hl:l.length<9223372036854775807)(hp:p.length<9223372036854775807):az aq 130 #[ab (T l),ab (T p)] w λe w'=>e=ak (aj (decide (l.take p.length=p)))/\ay [] w w':=by
 refine ret (aeK _ _ _ _ ?_);refine(ret (akB (T l) (T p) (λv w'=>v=aj (decide (l.take p.length=p))/\ay [] w w') w ?_)).mono ?_
 ·rw[cq,cq];refine⟨p.length,λh=>⟨rfl,adb⟩,?_,Only.refl _ _⟩;rw[tA,gU,fZ,zU];congr 1;rw[bH];simp only[aP,bI];constructor
  ·exact λh=>h.2
  intro h;refine⟨?_,h⟩;have:=bO List.length h;rw[cF]at this;omega
 rintro _ w1 ⟨rfl,hO⟩;exact⟨_,rfl,rfl,hO⟩
theorem sE:∀(l:aH) (c:UInt8),Lib.indexByte l c=if c∈l then((l.takeWhile (· !=c)).length:Int)else -1
 | [],c=>by simp[Lib.indexByte]
 | b::l,c=>by
  rw[Lib.indexByte,sE l c];by_cases hbc:b=c
  ·subst hbc;simp
  ·by_cases hm:c∈l
   ·have h1:(b==c)=false:=by simpa using hbc
    have h2:(b !=c)=true:=by simpa using hbc
    have h3:c∈b::l:=by simp[hm]
    rw[h1,aV hm,aV h3,dk,aV h2];simp
   ·have h1:(b==c)=false:=by simpa using hbc
    have h3:¬c∈b::l:=by simp[hm];exact λe=>hbc e.symm
    rw[h1,aQ hm,aQ h3];simp
theorem Bh{c:UInt8}:∀{l:aH},¬c∈l->l.takeWhile (· !=c)=l
 | [],_=>rfl
 | b::l,h=>by
  simp only[ba,not_or]at h;rw[dk,aV (by simpa using λe=>h.1 e.symm),Bh h.2]
theorem mV{p:UInt8->Bool}:∀{l:aH},l.takeWhile p=l.take (l.takeWhile p).length
 | []=>rfl
 | b::l=>by
  rw[dk];split
  ·rw[aW,fS,<-mV]
  rfl
theorem agc(w:av)(l:aH)(c:UInt8)(hl:l.length<9223372036854775807):az aq 132 #[ab (T l),ab (T [c])] w λe w'=>∃(s:aK) (b:Bool),e=ak (ai #[ab (T (l.takeWhile (· !=c))),ab s,aj b])/\ay [] w w':=by
 refine(aeL _ _ (λv w'=>∃(s:aK) (b:Bool),v=(ai #[ab (T (l.takeWhile (· !=c))),ab s,aj b])/\ay [] w w') w ?_).mono (by
  rintro e w' ⟨v,rfl,s,b,rfl,h⟩;exact⟨s,b,rfl,h⟩)
 refine(akC (T l) (T [c]) (λv w'=>∃(s:aK) (b:Bool),v=(ai #[ab (T (l.takeWhile (· !=c))),ab s,aj b])/\ay [] w w') w ?_).mono ?_
 ·refine(Tryz.stringslite_Index_one (T l) c w).mono ?_;rintro _ _ ⟨rfl,rfl⟩;have e:(T l).data.toList=l:=rfl;rw[e,sE];refine⟨_,rfl,λh=>?_,λh=>?_⟩
  ·by_cases hm:c∈l
   ·rw[aV hm];have bT:(l.takeWhile (· !=c)).length<l.length:=by
     have h1:=List.takeWhile_append_dropWhile (p:=(· !=c)) (l:=l);have h2:=bO List.length h1;rw[aN]at h2;have h3:l.dropWhile (· !=c)≠[]:=by
      intro h3;rw[h3,bD]at h1;rw[<-h1]at hm;have:=List.all_takeWhile (p:=(· !=c)) (l:=l);rw[ey]at this;have:=this c (by rw[h1]at hm⊢;exact hm);simp at this
     have h4:=th.2 h3;omega
    have hk:(T l).extract 0 (l.takeWhile (· !=c)).length=T (l.takeWhile (· !=c)):=by
     rw[tA,fZ,zU,<-mV]
    refine⟨(l.takeWhile (· !=c)).length,⟨rfl,aaY⟩,(l.takeWhile (· !=c)).length+1,⟨by rw[cq,eY aaf aaf];rfl,aaY⟩,λw1 hO=>⟨(T l).extract ((l.takeWhile (· !=c)).length+1) (T l).size,true,?_,hO⟩⟩;rw[hk]
   ·rw[aQ hm]at h;exact absurd (aR h) aE
  ·by_cases hm:c∈l
   ·rw[aV hm]at h;exact absurd (aU h) aE
   ·rw[Bh hm];exact⟨_,_,rfl,Only.refl _ _⟩
 ·rintro _ w1 ⟨v,rfl,s,b,rfl,hO⟩;exact⟨_,s,b,rfl,s,b,rfl,hO⟩
theorem rS(w:av)(l:aH){n:Nat}{parts:Array (Nat×aw)}(hp:parts=(((l.map gC).zipIdx 0).map λx=>(x.2,x.1)).toArray)(hn:l.length=n)(h0:0<n)(vG:n*1<=16777216):
  ∃s w',(au 112 n parts).run aq w=.ok (Sl.v s) w'/\Own lj 1 5 w.heap.size w' (λ_=>True) s l/\ay [] w w'/\s.a=some ⟨w.heap.size,0,none⟩:=by
 obtain⟨s,w',h1,h2,h3,h4,_⟩:=jZ (P:=aq) (t:=112) (e:=5) (i:=Tryz.t5) (w:=w) (F:=λ_=>True) (r:=lj) (size:=1) (vs:=l.map gC) (xs:=l) (len:=n) (by kernel_rfl) (by kernel_rfl) rfl rfl aL hp adD h0 vG qJ (by
  clear hp hn
  induction l with
  | nil=>exact trivial
  | cons a l ih=>exact⟨⟨rfl,rfl⟩,ih⟩)
 exact⟨s,w',h1,h2,h3,h4⟩
theorem Vo(l:List (aH))(w:av):pb kb 1 w (λ_=>True) l ((l.map λx=>Value.string (T x)).map λv=>v.cells.toList):=by
 induction l with
 | nil=>exact trivial
 | cons a l ih=>exact⟨⟨rfl,rfl⟩,ih⟩
theorem jJ(w:av)(l:List (aH)){n:Nat}{parts:Array (Nat×aw)}(hp:parts=(((l.map λx=>Value.string (T x)).zipIdx 0).map λx=>(x.2,x.1)).toArray)(hn:l.length=n)(h0:0<n)(vG:n*1<=16777216):
  ∃s w',(au 41 n parts).run aq w=.ok (Sl.v s) w'/\Own kb 1 9 w.heap.size w' (λ_=>True) s l/\ay [] w w':=by
 obtain⟨s,w',h1,h2,h3,_⟩:=jZ (P:=aq) (t:=41) (e:=9) (i:=Tryz.t9) (w:=w) (F:=λ_=>True) (r:=kb) (size:=1) (vs:=l.map λx=>Value.string (T x)) (xs:=l) (len:=n) (by kernel_rfl) (by kernel_rfl) rfl rfl aL hp adD h0 vG cX (Vo l w);exact⟨s,w',h1,h2,h3⟩
theorem Lp{α:Type}{r:Rp α}{size:Nat}{e:TypeId}{B:Nat}{w:av}{F:aJ}{s:Sl}{xs:List α}(hr:r.Ok)(hf:∀w F G x cs,r w F x cs->r w G x cs)(h:Own r size e B w F s xs):aA r size w (λk=>B<=k/\s.a=some ⟨k,0,none⟩) s xs:=by
 rcases h with⟨rfl,rfl⟩ | ⟨g,css,tail,a1,a2,a4,a5,a6,a7,a9,a8⟩
 ·exact SliceF.nil _ _ _ _
 have h':Own r size e B w (λ_=>False) s xs:=.inr ⟨g,css,tail,a1,a2,a4,a5,a6,a7,a9,gI.imp (λ_ _ h=>⟨h.1,hf _ _ _ _ _ h.2⟩) a8⟩;exact(h'.slice hr).mono hr λk hk=>hk.elim False.elim id
theorem wY{e:TypeId}{B:Nat}{w:av}{F:aJ}{s:Sl}{xs:aH}(h:Own lj 1 e B w F s xs):aA lj 1 w (λk=>B<=k/\s.a=some ⟨k,0,none⟩) s xs:=Lp qJ (λ_ _ _ _ _ h=>h) h
theorem sF{e:TypeId}{B:Nat}{w:av}{F:aJ}{s:Sl}{xs:List (aH)}(h:Own kb 1 e B w F s xs):aA kb 1 w (λk=>B<=k/\s.a=some ⟨k,0,none⟩) s xs:=Lp cX (λ_ _ _ _ _ h=>h) h
def jT:Bool->aH->Nat
 | _,[]=>0
 | true,c::r=>1+jT (c !=10) r
 | false,c::r=>if ot c then 1+jT false r else if c==47&&r.head? ==some 47 then 1+jT true r else 0
theorem EB:∀{b:Bool} {l:aH},jT b l<=l.length
 | b,[]=>by simp[jT]
 | true,c::r=>by
  rw[jT,aW];have:=EB (b:=c !=10) (l:=r);omega
 | false,c::r=>by
  rw[jT,aW];have h1:=EB (b:=false) (l:=r);have h2:=EB (b:=true) (l:=r);split
  ·omega
  split<;>omega
theorem G1:∀(l:aH),jT true l=(l.takeWhile (· !=10)).length+jT false (l.drop (l.takeWhile (· !=10)).length)
 | []=>rfl
 | c::r=>by
  by_cases hc:c=10
  ·subst hc;rw[jT];simp[jT,ot]
  ·have h:(c !=10)=true:=aax
   rw[jT,h,G1 r,dk,aV h,aW,nS];omega
theorem Da{l:aH}(h:l.take 2=[47,47]):jT false l=(l.takeWhile (· !=10)).length+jT false (l.drop (l.takeWhile (· !=10)).length):=by
 match l,h with
 | a::b::r,h=>
  simp only[fS,ci,sZ,and_true]at h;obtain⟨rfl,rfl⟩:=h;have e:jT false (47::47::r)=1+jT true (47::r):=by
   conv=>lhs;rw[jT]
   rw[aQ aL,aV aM]
  have e2:=G1 (47::r);have e3:(47::47::r:aH).takeWhile (· !=10)=47::(47::r:aH).takeWhile (· !=10):=by
   rw[dk,aV aL]
  rw[e,e2,e3,aW,nS];omega
theorem mW{l:aH}{j:Nat}{x:UInt8}(h:l[j]? =some x):l.drop j=x::l.drop (j+1):=by
 obtain⟨h1,h2⟩:=bc.1 h;rw[ij h1,h2]
theorem QD{w:av}{b:Nat}{t:TypeId}{l:aH}{i:Nat}{r:aI}(h:Vn w b t l i r)(hi:i<=l.length)(hl:l.length<9223372036854775807):
  az aq 89 #[ae (some ⟨b,0,none⟩)] w λe w'=>e=ak (ai #[])/\ay [b] w w'/\Vn w' b t l (i+jT false (l.drop i)) r:=by
 refine ret (aeE _ _ _ ?_);refine⟨λnv w'=>∃j:Nat,j<=l.length/\nv=l.length-j/\i+jT false (l.drop i)=j+jT false (l.drop j)/\ay [b] w w'/\Vn w' b t l j r,l.length-i,⟨i,hi,rfl,rfl,Only.refl _ _,h⟩,?_⟩;rintro nv w0 ⟨j,hj,rfl,WC,cf,h0⟩;have kp:∀{u u':av} {n:Nat},ay [] u u'->Vn u b t l n r->Vn u' b t l n r:=λhO hC=>(hO.block b hC.lt aM).trans hC;refine(XI h0).mono ?_;rintro _ w1 ⟨rfl,cn⟩;have h1:=kp cn h0;refine⟨_,rfl,λhc=>?_,λhc=>⟨rfl,cf.trans cn aM,?_⟩⟩
 ·have bT:j<l.length:=aax
  have hx:l[j]? =some l[j]:=bJ bT;generalize l[j]=x at hx;have hd:=mW hx;refine⟨T l,Blk.dN h1 0 rfl,j,Blk.dN h1 1 rfl,x,⟨aZ j,acO⟩,λw2 cH=>?_⟩;obtain⟨s,w3,k1,k2,k3,_⟩:=rS w2 [9,10,13,32] (n:=4) (parts:=#[(0,.int .u8 9),(1,.int .u8 10),(2,.int .u8 13),(3,.int .u8 32)]) rfl rfl aL aL;refine⟨s,w3,k1,(GZ (wY k2) x).mono ?_⟩;rintro _ w4 ⟨rfl,dw⟩;have ec:=cH.ca (k3.ca dw);have h4:=kp ec h1;have qz:ay [b] w w4:=cf.trans (cn.ca ec) aM;refine⟨_,rfl,λhb=>⟨j,Blk.dN h4 1 rfl,b,1,_,t,by rw[gH],h4,aM,λw5 dY ux=>⟨l.length-(j+1),aE,j+1,aE,rfl,?_,qz.trans dY aM,?_⟩⟩,λhb=>(Bg h4 hj).mono ?_⟩
  ·have e:ot x=true:=hb;rw[WC,hd,jT,aV e];omega
  ·rw[eY aE aE]at ux;exact ux
  rintro _ w6 ⟨rfl,dK⟩;have h6:=kp dK h4;have hlr:(l.drop j).length<=l.length:=by rw[cr];omega
  refine⟨_,rfl,(G0 w6 (l.drop j) [47,47] aE aL).mono ?_⟩;rintro _ w7 ⟨rfl,fK⟩;have h7:=kp fK h6;refine⟨_,rfl,λhs=>(Bg h7 hj).mono ?_,λhs=>⟨rfl,qz.trans (dK.ca fK) aM,?_⟩⟩
  ·rintro _ w8 ⟨rfl,fj⟩;have h8:=kp fj h7;refine⟨_,rfl,(agc w8 (l.drop j) 10 aE).mono ?_⟩;rintro _ w9 ⟨s9,b9,rfl,fG⟩;have h9:=kp fG h8;have DS:(l.drop j).take 2=[47,47]:=aR hs;have hk:=Da DS;have fi:((l.drop j).takeWhile (· !=10)).length<=(l.drop j).length:=by
    rw[mV,cF];exact Nat.min_le_right _ _
   have WD:0<((l.drop j).takeWhile (· !=10)).length:=by
    match hq:l.drop j,DS with
    | a::r',DS=>
     have:a=47:=by
      match r',DS with
      | b'::r'',DS=>simp at DS;exact DS.1
     subst this;simp
   have hld:(l.drop j).length=l.length-j:=cr;generalize hn:((l.drop j).takeWhile (· !=10)).length=n at*
   refine⟨_,s9,b9,rfl,j,Blk.dN h9 1 rfl,b,1,_,t,by rw[gH],h9,aM,λde dT oy=>⟨l.length-(j+n),aE,j+n,aE,rfl,?_,(qz.trans (dK.ca (fK.ca (fj.ca fG))) aM).trans dT aM,?_⟩⟩
   ·rw[WC,hk,jG];omega
   ·rw[cq,hn,eY aE aE]at oy;exact oy
  ·have hs:¬(l.drop j).take 2=[47,47]:=aU hs;have hb:ot x=false:=hb;have hz:jT false (l.drop j)=0:=by
    rw[hd,jT,aQ (by simp[hb]),aQ];intro hh;apply hs;rw[hd];simp only[aP,du]at hh;obtain⟨rfl,hh⟩:=hh;cases hr:l.drop (j+1)with
    | nil=>rw[hr]at hh;simp at hh
    | cons y z=>
     rw[hr]at hh;simp only[gZ,bq]at hh;rw[hh];rfl
   rw[WC,hz];exact h7
 ·have lR:l.length<=j:=aax
  have hz:l.drop j=[]:=dv lR;rw[WC,hz];exact h1
def Er(w:av):Prop:=∃tp p,w.var? aq "strconv.ErrRange" =some #[.iface tp p]
theorem er_num:Tryz.prog.globalNamed "strconv.ErrRange" =some 5:=by kernel_rfl
theorem Er.keep{w w':av}(h:Er w)(hk:5<w.heap.size->w'.heap[5]? =w.heap[5]?):Er w':=by
 obtain⟨tp,p,h⟩:=h;refine⟨tp,p,?_⟩;unfold World.var? at h⊢;rw[er_num]at h⊢;simp only[O2]at h⊢;rw[hk]
 ·exact h
 refine bL λhn=>?_;rw[gP aE]at h;cases h
theorem Er.lt{w:av}(h:Er w):5<w.heap.size:=by
 obtain⟨tp,p,h⟩:=h;unfold World.var? at h;rw[er_num]at h;simp only[O2]at h;refine bL λhn=>?_;rw[gP aE]at h;cases h
theorem Er.only{w w':av}(h:Er w)(hO:ay [] w w'):Er w':=h.keep λbT=>hO.block _ bT aM
def kI(a:Nat)(ds:aH):Nat:=ds.foldl (λa c=>a*10+(c.toNat-48)) a
theorem EC:∀(ds:aH) (a:Nat),a<=kI a ds
 | [],a=>aY _
 | c::r,a=>by
  have:=EC r (a*10+(c.toNat-48));show a<=kI (a*10+(c.toNat-48)) r;omega
theorem pum:∀(ds:aH) (a:Nat),(∀c,c∈ds->cW c=true)->a<=18446744073709551615->
  Lib.parseUintM 18446744073709551615 a ds=if kI a ds<=18446744073709551615 then .ok (kI a ds)else .range
 | [],a,_,h=>by rw[Lib.parseUintM];exact(aV h).symm
 | c::r,a,hd,h=>by
  have hc:=hd c aM;simp only[cW,aP,bI]at hc;have e:kI a (c::r)=kI (a*10+(c.toNat-48)) r:=rfl;have lR:=EC r (a*10+(c.toNat-48));rw[Lib.parseUintM,aV hc,e];split
  ·rw[aQ aE]
  split
  ·rw[aQ aE]
  rw[pum r _ (λx hx=>hd x acI) aE]
theorem pib{ds:aH}(hd:∀c,c∈ds->cW c=true)(ii:ds≠[]):Lib.parseIntB 64 ds=if kI 0 ds<9223372036854775808 then .ok (kI 0 ds:Int)else .range:=by
 match ds,ii with
 | c::r,_=>
  have hc:=hd c aM;simp only[cW,aP,bI]at hc;have h1:¬(c.toNat=43∨c.toNat=45):=aE
  have h2:¬c.toNat=45:=aE
  have h3:Lib.parseUintB 64 (c::r)=Lib.parseUintM 18446744073709551615 0 (c::r):=by
   rw[Lib.parseUintB,aQ aM]
  unfold Lib.parseIntB;dsimp only;rw[aQ h1,h3,pum _ _ hd aL];by_cases hv:kI 0 (c::r)<=18446744073709551615
  ·rw[aV hv];by_cases hw:kI 0 (c::r)<9223372036854775808
   ·rw[aV hw];simp[h2];omega
   rw[aQ hw];simp[h2];omega
  rw[aQ hv,aQ aE]
def ft(l:aH):Nat×Nat×Int:=
 if l=[]then(0,0,3)else if l.takeWhile cW=[]∨(1<(l.takeWhile cW).length/\l.head? =some 48)then(0,0,4)
 else if kI 0 (l.takeWhile cW)<9223372036854775808 then(kI 0 (l.takeWhile cW),(l.takeWhile cW).length,0)else(0,0,20)
theorem yj{p:UInt8->Bool}{l:aH}:∀c,c∈l.takeWhile p->p c=true:=by
 have:=List.all_takeWhile (p:=p) (l:=l);rwa[ey]at this
theorem QE{w:av}{l:aH}(hE:Er w)(hl:l.length<281474976710656):
  az aq 173 #[ab (T l)] w λe w'=>e=ak (ai #[O U (ft l).1,O U (ft l).2.1,O U (ft l).2.2])/\ay [] w w':=by
 refine ret (v0w _ _ _ ?_);refine⟨λnv j w'=>∃n:Nat,n<=l.length/\j=(n:Int)/\nv=l.length-n/\(∀x,x∈l.take n->cW x=true)/\ay [] w w',l.length,⟨0,be _,rfl,rfl,aM,Only.refl _ _⟩,?_⟩;rintro nv _ w0 ⟨n,hn,rfl,rfl,hp,cf⟩;rw[cq];refine⟨λb w'=>(b=true->∃x,l[n]? =some x/\cW x=true)/\(b=false->∀x,l[n]? =some x->cW x=false)/\ay [] w w',?_,λhc=>?_,λhc=>⟨λe=>adg,λ_ x hx=>?_,cf⟩⟩
 ·rintro b w1 ⟨h1,h2,cn⟩;refine⟨λhb=>?_,λhb=>?_⟩
  ·obtain⟨x,hx,hw⟩:=h1 hb;have bT:=(bc.1 hx).1;refine⟨l.length-(n+1),aE,n+1,aE,aaa,rfl,λy hy=>?_,cn⟩;rw[bn,hx]at hy;simp only[fH,cu,aO]at hy;rcases hy with hy | rfl
   ·exact hp y hy
   exact hw
  have OM:=lI hn hp (h2 hb);have xV:(l.takeWhile cW).length=n:=by rw[OM,cF];omega
  have e0:(ao #[])=T []:=rfl;rw[e0,gU];refine⟨λh0=>⟨?_,cn⟩,λh0=>?_⟩
  ·have h0:l=[]:=aR h0;rw[ft,aV h0];rfl
  have h0:¬l=[]:=aU h0;refine⟨λb w'=>b=decide (l.takeWhile cW=[]∨(1<(l.takeWhile cW).length/\l.head? =some 48))/\ay [] w w',?_,λhz=>?_,λhz=>?_⟩
  ·rintro b w2 ⟨rfl,cH⟩;refine⟨λhb=>⟨?_,cH⟩,λhb=>⟨n,⟨rfl,hn⟩,?_⟩⟩
   ·rw[ft,aQ h0,aV (aR hb)];rfl
   have hb:=aU hb;have hx:(T l).extract 0 n=T (l.takeWhile cW):=by rw[tA,fZ,zU,OM]
   rw[hx];have ii:l.takeWhile cW≠[]:=λe=>hb (.inl e);have hpi:=pib (yj (p:=cW) (l:=l)) ii;have hsz:(T (l.takeWhile cW)).size<=281474976710656:=aaY
   by_cases hv:kI 0 (l.takeWhile cW)<9223372036854775808
   ·rw[aV hv]at hpi;refine(Tryz.strconv_ParseInt_10_at64_ok (T (l.takeWhile cW)) (bB hsz aL) _ hpi w2).mono ?_;rintro _ w3 ⟨rfl,hw⟩;have cT:ay [] w2 w3:=by
     rcases hw with rfl | ⟨s,rfl⟩
     ·exact Only.refl _ _
     exact Only.xL (Lib.bytesWorld_below _ _ _)
    refine⟨_,⟨.nilIface,rfl⟩,rfl,.inl rfl,λe=>adg,λ_=>⟨?_,cH.ca cT⟩⟩;rw[ft,aQ h0,aQ hb,aV hv,xV]
   rw[aQ hv]at hpi;obtain⟨tp,p,abl⟩:=hE.only cH;refine(Tryz.strconv_ParseInt_10_at64_range_var (T (l.takeWhile cW)) hsz hpi tp p w2 abl).mono ?_;rintro _ w3 ⟨N,rfl,_,_,hw⟩;refine⟨_,⟨.iface _ _,rfl⟩,rfl,.inr ⟨_,_,rfl⟩,λ_=>⟨?_,cH.ca (Only.xL hw)⟩,λe=>adg⟩;rw[ft,aQ h0,aQ hb,aQ hv];rfl
  ·have hz:n=0:=adN
   subst hz;refine⟨?_,cn⟩;symm;rw[bE (.inl (bF xV))];rfl
  have hz:n≠0:=adN
  obtain⟨x,r,rfl⟩:∃x r,l=x::r:=by
   cases l with
   | nil=>exact absurd rfl h0
   | cons x r=>exact⟨x,r,rfl⟩
  refine⟨x,λ_=>⟨jt _,adE⟩,?_,cn⟩;have ii:(x::r).takeWhile cW≠[]:=λe=>by rw[e]at xV;exact hz xV.symm
  rw[xV,bH];simp only[aP,bI,du,gZ,bq];constructor
  ·rintro⟨h1,h2⟩;exact .inr ⟨aE,T3.1 (by show x.toNat=48;omega)⟩
  rintro(h | ⟨h1,rfl⟩)
  ·exact absurd h ii
  exact⟨aE,rfl⟩
 ·have bT:(n:Int)<l.length:=aR hc;have hx:l[n]? =some (l[n]' aE):=bJ aE;generalize l[n]' aE=x at hx;refine⟨x,⟨aZ n,acO⟩,(Qy w0 x).mono ?_⟩;rintro _ w3 ⟨rfl,cT⟩;refine⟨_,rfl,λhb=>⟨x,hx,hb⟩,λhd y hy=>?_,cf.ca cT⟩;rw[hx]at hy;injection hy with hy;subst hy;exact hd
 have lR:¬(n:Int)<l.length:=aU hc;have:=(bc.1 hx).1;omega
structure Tk where
 k:Int
 t:aH
 n:Int
 a:Int
deriving DecidableEq
def Tk.v(x:Tk):aw:=ah #[O U x.k,ab (T x.t),O U x.n,O U x.a]
def ED:Rp Tk:=λ_ _ x cs=>cs=[O U x.k,ab (T x.t),O U x.n,O U x.a]
theorem ik:ED.Ok where
 keep h _:=h
 inHeap h:=h
 mono h _:=h
 one:=by
  rintro w F x cs h v hv;unfold ED at h;subst h;simp only[ba,bp,cb]at hv;rcases hv with rfl | rfl | rfl | rfl<;>rfl
abbrev lJ(B:Nat)(w:av)(s:Sl)(xs:List Tk):Prop:=Own ED 4 109 B w (λ_=>True) s xs
theorem lJ.of{B:Nat}{w:av}{F:aJ}{s:Sl}{xs:List Tk}(h:Own ED 4 109 B w F s xs):lJ B w s xs:=h.mono ik λ_ _=>trivial
theorem lJ.sl{B:Nat}{w:av}{s:Sl}{xs:List Tk}(h:lJ B w s xs):aA ED 4 w (λk=>B<=k/\s.a=some ⟨k,0,none⟩) s xs:=Lp ik (λ_ _ _ _ _ h=>h) h
theorem lJ.flat{B:Nat}{w:av}{s:Sl}{xs:List Tk}(h:lJ B w s xs):Own ED 4 109 B w (λ_=>False) s xs:=by
 rcases h with h | ⟨g,css,tail,a1,a2,a4,a5,a6,a7,a9,a8⟩
 ·exact .inl h
 exact .inr ⟨g,css,tail,a1,a2,a4,a5,a6,a7,a9,gI.imp (λ_ _ h=>h) a8⟩
theorem lJ.keep{B:Nat}{w w':av}{s:Sl}{xs:List Tk}(h:lJ B w s xs)(hk:∀k,B<=k/\s.a=some ⟨k,0,none⟩->k<w.heap.size->w'.heap[k]? =w.heap[k]?):lJ B w' s xs:=
 lJ.of (h.flat.keep ik λk hF bT=>hk k (hF.elim False.elim id) bT)
theorem lJ.only{B:Nat}{w w':av}{s:Sl}{xs:List Tk}(h:lJ B w s xs)(hO:ay [] w w'):lJ B w' s xs:=h.keep λk _ bT=>hO.block k bT aM
theorem lJ.p{B:Nat}{w w':av}{s:Sl}{xs:List Tk}{D:aJ}(h:lJ B w s xs)(hO:aD D w w')(hD:∀k,B<=k->s.a=some ⟨k,0,none⟩->¬D k):lJ B w' s xs:=h.keep λk hk bT=>hO.block k bT (hD k hk.1 hk.2)
theorem QF{w:av}{B:Nat}{s:Sl}{xs:List Tk}(t:Tk)(hs:lJ B w s xs)(hB:B<=w.heap.size)(hm:(xs.length+1)*40<=140737488355328):
  ∃y w1,(au 92 1 #[(0,t.v)]).run aq w=.ok (Sl.v y) w1/\ay [] w w1/\∃s' w2,(Builtin.append_ #[92,92] 92 #[Sl.v s,Sl.v y]).run aq w1=.ok (Sl.v s') w2/\lJ B w2 s' (xs++[t])/\aD (λk=>B<=k/\s.a=some ⟨k,0,none⟩) w1 w2:=by
 obtain⟨y,w1,k1,k2,s',w2,k3,k4,⟨gs,k5,k6⟩,_⟩:=lz (P:=aq) (t:=92) (ty:=92) (e:=109) (i:=Tryz.t109) (bytes:=40) (size:=4) (v:=t.v) (x:=t) (G:=λ_=>False) (by kernel_rfl) (by kernel_rfl) rfl rfl rfl rfl aL aL aL ik hs hB rfl rfl (λk hk _=>hk.elim) hm;exact⟨y,w1,k1,k2,s',w2,k3,lJ.of k4,k5.p λg hg=>.inl ⟨(k6 g hg).2.1,(k6 g hg).1⟩⟩
def jb:List (aH):=[[97,102,116,101,114],[97,108,119,97,121,115],[99,104,97,114,116],[100,101,101,112],[101,109,105,116],[101,110,116,101,114],[104,105,115,116,111,114,121],[105,110],[105,110,105,116,105,97,108],[108,101,97,118,101],[111,110],[112,97,114,97,108,108,101,108],[114,97,105,115,101],[115,101,116],[115,116,97,116,101],[118,97,114]]
theorem Lr(w:av):az aq 88 #[] w λe w'=>∃s:Sl,e=ak s.v/\Own kb 1 9 w.heap.size w' (λ_=>True) s jb/\ay [] w w':=by
 refine(aeD (λv w'=>∃s:Sl,v=s.v/\Own kb 1 9 w.heap.size w' (λ_=>True) s jb/\ay [] w w') w ?_).mono (by
  rintro e w' ⟨v,rfl,s,rfl,h⟩;exact⟨s,rfl,h⟩)
 obtain⟨s,w',h1,h2,h3⟩:=jJ w jb (n:=16) rfl rfl aL aL;exact⟨s,w',h1,s,rfl,h2,h3⟩
structure Cut (w:av) (b:Nat) (l:aH) (i:Nat) (rs:Sl) (acc:List Tk):Prop where
 blk:∃ws:Sl,aF w b 158 [ab (T l),O U (i:Int),ws.v,rs.v]/\aA kb 1 w (λk=>k<b) ws jb
 own:lJ (b+1) w rs acc
 er:Er w
 gb:5<b
 il:i<=l.length
 ll:l.length<=16384
theorem Cut.lt{w:av}{b:Nat}{l:aH}{i:Nat}{rs:Sl}{acc:List Tk}(h:Cut w b l i rs acc):b<w.heap.size:=by
 obtain⟨ws,h1,_⟩:=h.blk;exact h1.lt
theorem Cut.only{w w':av}{b:Nat}{l:aH}{i:Nat}{rs:Sl}{acc:List Tk}(h:Cut w b l i rs acc)(hO:ay [] w w'):Cut w' b l i rs acc:=by
 obtain⟨ws,h1,h2⟩:=h.blk;exact⟨⟨ws,(hO.block b h1.lt aM).trans h1,SliceF.only cX aL h2 hO aM⟩,h.own.only hO,h.er.only hO,h.gb,h.il,h.ll⟩
theorem Cut.move{w w':av}{b:Nat}{l:aH}{i j:Nat}{rs:Sl}{acc:List Tk}(h:Cut w b l i rs acc)(hO:ay [b] w w')(hj:j<=l.length)(hB:∀ws:Sl,aF w b 158 [ab (T l),O U (i:Int),ws.v,rs.v]->aF w' b 158 [ab (T l),O U (j:Int),ws.v,rs.v]):Cut w' b l j rs acc:=by
 obtain⟨ws,h1,h2⟩:=h.blk;exact⟨⟨ws,hB ws h1,SliceF.only cX aL h2 hO (by intro k hk _;simp only[aO];omega)⟩,h.own.keep λk hk bT=>hO.block k bT aaW,h.er.keep λbT=>hO.block _ bT (by simp only[aO];have:=h.gb;omega),h.gb,hj,h.ll⟩
theorem Ls{w:av}{b:Nat}{l:aH}{i:Nat}{rs:Sl}{acc:List Tk}(h:Cut w b l i rs acc)(k:Int)(t:aH)(nn a0:Int)(n:Nat)(hn:i+n<=l.length)(ha:acc.length<=16384):
  az aq 92 #[ae (some ⟨b,0,none⟩),ah #[O U k,ab (T t),O U nn,O U a0],O U (n:Int)] w λe w'=>e=ak (ai #[])/\aD (λk=>b<=k) w w'/\∃WE,Cut w' b l (i+n) WE (acc++[⟨k,t,nn,i⟩]):=by
 refine ret (aeS _ _ _ _ _ _ _ _ ?_);intro k0 w0 fO dQ cf;have CK:=h.lt;have FK:=h.ll;have h0:=h.only cf;obtain⟨ws,Aw,hw0⟩:=h0.blk;refine⟨i,Blk.dN Aw 1 rfl,λw1 cn=>?_⟩;have zb0:=Aw.lt;have zr:aF w1 b 158 _:=(cn.block b zb0 aaW).trans Aw;have Tc:lJ (b+1) w1 rs acc:=h0.own.keep λq hq bT=>by
  refine cn.block q bT ?_;simp only[aO];rintro rfl;have:=(h.own.blk hq.2).2;dsimp only at this;omega
 have z1:=cn.size;obtain⟨y,w2,c1,c2,s',w3,c3,c4,c5⟩:=QF ⟨k,t,nn,i⟩ Tc aE (bB (ez 40 (show acc.length+1<=16385 by omega)) aL);have z2:=c2.size;have z3:=c5.size;have amW:∀q,rs.a=some ⟨q,0,none⟩->q≠k0:=λq hq=>by
  have:=(h.own.blk hq).2;dsimp only at this;omega
 refine⟨λq=>q=b,rfl,rs,Blk.dN zr 3 rfl,y,w2,c1,c2.same aaf,bR.only c2,s',w3,c3,?_,?_,?_⟩
 ·exact c5.same (by intro x hx;simp only[aO]at hx;subst hx;exact⟨aE,λe=>amW _ e.2 rfl⟩)
 ·intro q hq bT;exact c5.block q bT aE
 have hb3:aF w3 b 158 [ab (T l),O U (i:Int),ws.v,rs.v]:=(c5.block b aE aE).trans ((c2.block b aE aM).trans zr);refine⟨b,3,_,158,by rw[gH],hb3,aM,aE,λw4 dw WG=>?_⟩;have WG:aF w4 b 158 [ab (T l),O U (i:Int),ws.v,s'.v]:=WG;refine⟨i,Blk.dN WG 1 rfl,b,1,_,158,by rw[C3,gH],WG,aM,aE,λw5 dY M7=>⟨rfl,?_,s',?_⟩⟩
 ·have e1:aD (λk=>b<=k) w w1:=cf.p0.trans (cn.p (F:=λq=>q=k0) λb hb=>.inl aa2) λq hq=>aE
  have e2:aD (λk=>b<=k) w w3:=(e1.ca c2).trans c5 λq hq=>.inl aE;have e3:aD (λk=>b<=k) w w4:=e2.trans (dw.p (F:=λq=>q=b) λb hb=>.inl aa2) λq hq=>.inl aE;exact e3.trans (dY.p (F:=λq=>q=b) λb hb=>.inl aa2) λq hq=>.inl aE
 have z4:=dw.size;have M7:aF w5 b 158 [ab (T l),O U (IntKind.i64.wrap ((i:Int)+n)),ws.v,s'.v]:=M7;rw[eY aE aE]at M7;have up:aD (λk=>b<=k) w w5:=by
  have e1:aD (λk=>b<=k) w w1:=cf.p0.trans (cn.p (F:=λq=>q=k0) λb hb=>.inl aa2) λq hq=>aE
  have e2:aD (λk=>b<=k) w w3:=(e1.ca c2).trans c5 λq hq=>.inl aE;have e3:aD (λk=>b<=k) w w4:=e2.trans (dw.p (F:=λq=>q=b) λb hb=>.inl aa2) λq hq=>.inl aE;exact e3.trans (dY.p (F:=λq=>q=b) λb hb=>.inl aa2) λq hq=>.inl aE
 have hgb:=h.gb;obtain⟨OO,ol,hw'⟩:=h.blk;have hwe:OO=ws:=by
  have:aF w0 b 158 [ab (T l),O U (i:Int),OO.v,rs.v]:=(cf.block b CK aM).trans ol;unfold aF at this Aw;rw[this]at Aw;simp[Sl.v]at Aw;cases ws;cases OO;simp_all
 subst hwe;refine⟨⟨OO,M7,SliceF.pA cX aL hw' up λq hq _ hd=>aE⟩,?_,h.er.keep λbT=>up.block _ bT aE,hgb,hn,FK⟩;have e4:lJ (b+1) w4 s' _:=c4.keep λq hq bT=>dw.block q bT aaW;exact e4.keep λq hq bT=>dY.block q bT aaW
abbrev Tq:=Int×aH×Int×Nat
def lZ(m:aH):Except Int Tq:=
 if 24<(m.takeWhile eF).length then .error 2 else .ok (if jb.contains (m.takeWhile eF)then 2 else 1,m.takeWhile eF,0,(m.takeWhile eF).length)
def rT(m:aH):Except Int Tq:=
 if(ft m).2.2≠0 then .error (ft m).2.2 else if(ft m).2.1<(m.takeWhile eF).length then .error 4 else .ok (3,[],(ft m).1,(ft m).2.1)
def ou:aH:=[123,125,40,41,91,93,59,44,61,43,45,42,47,37,60,62,33]
def qT(m:aH):Bool:=match m with
 | c::d::_=>(d==61&&[60,62,61,33].contains c)||(d==c&&[38,124].contains c)||(c==45&&d==62)
 | _=>false
def iR(m:aH):Nat:=if qT m then 2 else match m with
 | c::_=>if ou.contains c then 1 else 0
 | []=>0
def nY(m:aH):Except Int Tq:=if iR m=0 then .error 4 else .ok (4,m.take (iR m),0,iR m)
def lK(m:aH):Except Int Tq:=match m with
 | []=>.error 4
 | c::_=>if eZ c then lZ m else if cW c then rT m else nY m
def O8(w':av)(b:Nat)(l:aH)(i:Nat)(acc:List Tk)(r:Except Int Tq)(v:aw):Prop:=match r with
 | .error e=>v=O U e/\∃rs,Cut w' b l i rs acc
 | .ok q=>v=O U 0/\∃rs,Cut w' b l (i+q.2.2.2) rs (acc++[⟨q.1,q.2.1,q.2.2.1,i⟩])
theorem qU{p:UInt8->Bool}{l:aH}:(l.takeWhile p).length<=l.length:=by
 rw[mV,cF];exact Nat.min_le_right _ _
theorem ZM{w:av}{b:Nat}{l:aH}{i:Nat}{rs:Sl}{acc:List Tk}(h:Cut w b l i rs acc)(ha:acc.length<=16384):
  az aq 134 #[ae (some ⟨b,0,none⟩)] w λe w'=>∃v,e=ak v/\aD (λk=>b<=k) w w'/\O8 w' b l i acc (lZ (l.drop i)) v:=by
 refine aeO ⟨b,0,none⟩ (λv w'=>aD (λk=>b<=k) w w'/\O8 w' b l i acc (lZ (l.drop i)) v) w ?_;obtain⟨ws,hb,hw⟩:=h.blk;have FK:=h.ll;refine(QC hb h.il aE).mono ?_;rintro _ w0 ⟨rfl,cf⟩;have hwl:((l.drop i).takeWhile eF).length<=l.length-i:=by
  have:=qU (p:=eF) (l:=l.drop i);rwa[cr]at this
 have Uu:=h.il;refine⟨_,rfl,λhc=>⟨cf.p0,?_⟩,λhc=>?_⟩
 ·rw[cq]at hc;rw[lZ,aV aaX];exact⟨rfl,rs,h.only cf⟩
 rw[cq]at hc;have hc:¬24<((l.drop i).takeWhile eF).length:=aa0
 rw[lZ,aQ hc];generalize hm:(l.drop i).takeWhile eF=m at*
 have h0:=h.only cf;obtain⟨OO,ol,hw'⟩:=h0.blk;refine⟨λk w'=>k=(if jb.contains m then 2 else 1)/\ay [] w w',?_,OO,Blk.dN ol 2 rfl,(tK hw' m).mono ?_⟩
 ·rintro _ w1 ⟨rfl,cn⟩;refine(ret (Xz (T m) (λv w'=>v=ab (T m)/\ay [] w1 w') w1 ?_)).mono ?_
  ·refine(Tryz.stringslite_Clone (T m) w1 aaY).mono ?_;rintro _ w2 ⟨rfl,hw⟩;exact⟨_,rfl,rfl,Only.xL hw⟩
  rintro _ w2 ⟨rfl,cH⟩;rw[cq];refine⟨_,rfl,(Ls (h.only (cn.ca cH)) _ m 0 0 m.length aE ha).mono ?_⟩;rintro _ w3 ⟨rfl,cT,WE,hC⟩;exact⟨rfl,(cn.ca cH).vV cT,rfl,WE,hC⟩
 rintro _ w4 ⟨rfl,dw⟩;refine⟨_,rfl,λhb=>⟨by rw[aV hb],cf.ca dw⟩,λhb=>⟨by rw[hb];rfl,cf.ca dw⟩⟩
theorem QG{w:av}{b:Nat}{l:aH}{i:Nat}{rs:Sl}{acc:List Tk}(h:Cut w b l i rs acc)(ha:acc.length<=16384):
  az aq 136 #[ae (some ⟨b,0,none⟩)] w λe w'=>∃v,e=ak v/\aD (λk=>b<=k) w w'/\O8 w' b l i acc (rT (l.drop i)) v:=by
 refine aeT ⟨b,0,none⟩ (λv w'=>aD (λk=>b<=k) w w'/\O8 w' b l i acc (rT (l.drop i)) v) w ?_;obtain⟨ws,hb,hw⟩:=h.blk;have FK:=h.ll;have Uu:=h.il;refine(Bg hb h.il).mono ?_;rintro _ w0 ⟨rfl,cf⟩;have xV:(l.drop i).length=l.length-i:=cr;refine⟨_,rfl,(QE (h.er.only cf) aE).mono ?_⟩;rintro _ w1 ⟨rfl,cn⟩;have gn:=cf.ca cn;refine⟨_,_,_,rfl,λhe=>⟨gn.p0,?_⟩,λhe=>?_⟩
 ·rw[rT,aV acd];exact⟨rfl,rs,h.only gn⟩
 have he:¬(ft (l.drop i)).2.2≠0:=acd
 have hk:(ft (l.drop i)).2.1<=(l.drop i).length:=by
  have:=qU (p:=cW) (l:=l.drop i);unfold ft;split
  ·exact be _
  split
  ·exact be _
  split
  ·exact this
  exact be _
 obtain⟨OO,ol,hw'⟩:=(h.only gn).blk;refine(QC ol h.il aE).mono ?_;rintro _ w2 ⟨rfl,cH⟩;have jY:=gn.ca cH;refine⟨_,rfl,?_⟩;dsimp only;rw[cq];refine⟨λhc=>⟨jY.p0,?_⟩,λhc=>?_⟩
 ·rw[rT,aQ he,aV aaX];exact⟨rfl,rs,h.only jY⟩
 rw[rT,aQ he,aQ aa0];refine(Ls (h.only jY) 3 [] _ 0 (ft (l.drop i)).2.1 aE ha).mono ?_;rintro _ w3 ⟨rfl,cT,WE,hC⟩;exact⟨rfl,jY.vV cT,rfl,WE,hC⟩
theorem tL(w:av)(p:Addr)(n:Nat)(a:Addr):(w.freeze p n).cell? a=w.cell? a:=by
 unfold World.freeze;split
 ·rfl
 unfold World.cell?;simp only[Cp];by_cases WH:p.block=a.block
 ·rw[aV WH];cases h:w.heap[a.block]? with
  | none=>rfl
  | some o=>
   cases o with
   | cells c e f=>obtain⟨lo,hi⟩:=f;rfl
   | _=>rfl
 rw[aQ WH]
theorem tM(w:av)(p:Addr)(n:Nat):aD (λk=>k=p.block) w (w.freeze p n):=by
 unfold World.freeze;split
 ·exact OnlyP.refl _ _
 exact⟨rfl,rfl,rfl,aM,λk hk hn=>by
  simp only[Cp];rw[aQ λe=>hn e.symm]⟩
theorem ZN{w:av}{F:aJ}{s:Sl}{g B:Nat}{l:aH}(ha:s.a=some ⟨g,0,none⟩)(h:Own lj 1 5 B w F s l)(bT:g<w.heap.size):
  ∃w',(convert 112 112 (Sl.v s)).run aq w=.ok (Sl.v s) w'/\aA lj 1 w' (λ_=>True) s l/\aD (λk=>k=g) w w':=by
 have hs:=wY h;obtain⟨g',css,tail,a1,a2,a4,_⟩:=h.resolve_left (λe=>by rw[e.1]at ha;cases ha);rw[ha]at a1;injection a1 with a1;injection a1 with a1;subst a1;have sL:w.shape? g=some (5,(css.flatten++tail).toArray.size):=by
  unfold World.shape?;unfold aF at a4;rw[a4]
 have hu:Tryz.prog.underlying 112=some (.slice 5):=by kernel_rfl
 have hu2:Tryz.prog.underlying 5=some (.int .u8):=by kernel_rfl
 refine⟨w.freeze ⟨g,(css.flatten++tail).toArray.size,none⟩ 1,?_,⟨hs.len,hs.cap,hs.nil0,hs.big,λj x hj=>?_⟩,tM w ⟨g,(css.flatten++tail).toArray.size,none⟩ 1⟩
 ·unfold Sl.v;rw[ha];simp[convert,run_underlying hu,run_underlying hu2,markStringish,sL,Result.andThen]
 obtain⟨base,cs,g1,g2,g3,g4,g5⟩:=hs.at_ j x hj;exact⟨base,cs,g1,trivial,g3,λq v hq=>by rw[tL];exact g4 q v hq,g5⟩
theorem Lu{c d:UInt8}:((c.toNat:Int)==(d.toNat:Int))=(c==d):=by
 rw[bH];simp only[du];constructor
 ·intro h;exact T3.1 aE
 rintro rfl;rfl
theorem NN{m:aH}(h:qT m=true):2<=m.length:=by
 match m,h with
 | _::_::_,_=>simp
theorem wZ{m:aH}:iR m<=m.length:=by
 unfold iR;split
 ·exact NN (by assumption)
 split
 ·split
  ·simp
  exact be _
 exact be _
theorem ZO{w:av}{b:Nat}{l:aH}{i:Nat}{rs:Sl}{acc:List Tk}(h:Cut w b l i rs acc)(ha:acc.length<=16384)(ii:i<l.length):
  az aq 137 #[ae (some ⟨b,0,none⟩)] w λe w'=>∃v,e=ak v/\aD (λk=>b<=k) w w'/\O8 w' b l i acc (nY (l.drop i)) v:=by
 refine aeU ⟨b,0,none⟩ (λv w'=>aD (λk=>b<=k) w w'/\O8 w' b l i acc (nY (l.drop i)) v) w ?_;obtain⟨ws,hb,hw⟩:=h.blk;have FK:=h.ll;have Uu:=h.il;refine(Bg hb h.il).mono ?_;rintro _ w0 ⟨rfl,cf⟩;have xV:(l.drop i).length=l.length-i:=cr;generalize hm:l.drop i=m at*
 obtain⟨c,r,rfl⟩:∃c r,m=c::r:=by
  cases m with
  | nil=>simp at xV;omega
  | cons c r=>exact⟨c,r,rfl⟩
 have g0:(0:Int)<=0/\(T (c::r))[0]? =some c:=⟨jt _,adE⟩
 refine⟨T (c::r),rfl,λi0 w'=>i0=(if ou.contains c then 1 else 0:Int)/\ay [] w w',?_,c,g0,?_⟩
 ·rintro _ w1 ⟨rfl,cn⟩;refine⟨λi1 w'=>i1=(iR (c::r):Int)/\ay [] w w',?_,λb w'=>b=qT (c::r)/\ay [] w w',?_,?_,?_⟩
  ·rintro _ w2 ⟨rfl,cH⟩;refine⟨λhz=>⟨cH.p0,?_⟩,λhz=>⟨iR (c::r),⟨rfl,by rw[cq];exact wZ⟩,?_⟩⟩
   ·rw[nY,aV (by have:(iR (c::r):Int)=0:=adN;omega)];exact⟨rfl,rs,h.only cH⟩
   have hz:¬iR (c::r)=0:=by
    intro e;rw[e]at hz;simp at hz
   rw[nY,aQ hz,tA,fZ,zU];have hn:=wZ (m:=c::r);refine(ret (Xz (T _) (λv w'=>v=ab (T ((c::r).take (iR (c::r))))/\ay [] w2 w') w2 ?_)).mono ?_
   ·refine(Tryz.stringslite_Clone (T _) w2 (by rw[cq,cF];omega)).mono ?_;rintro _ w3 ⟨rfl,hw⟩;exact⟨_,rfl,rfl,Only.xL hw⟩
   rintro _ w3 ⟨rfl,cT⟩;refine⟨_,rfl,(Ls (h.only (cH.ca cT)) 4 _ 0 0 (iR (c::r)) aE ha).mono ?_⟩;rintro _ w4 ⟨rfl,dw,WE,hC⟩;exact⟨rfl,(cH.ca cT).vV dw,rfl,WE,hC⟩
  ·rintro _ w5 ⟨rfl,dY⟩;refine⟨λhs=>⟨by rw[iR,aV hs];rfl,dY⟩,λhs=>⟨?_,dY⟩⟩;have e:iR (c::r)=if ou.contains c then 1 else 0:=by rw[iR,aQ acV]
   rw[e];split<;>rfl
  ·intro hc;rw[cq]at hc;obtain⟨d,r,rfl⟩:∃d r',r=d::r':=by
    cases r with
    | nil=>simp at hc
    | cons d r=>exact⟨d,r,rfl⟩
   have g1:(0:Int)<=1/\(T (c::d::r))[1]? =some d:=⟨aL,adE⟩
   have ex:(T (c::d::r)).extract 0 2=T [c,d]:=by rw[tA];rfl
   have sz:2<=(T (c::d::r)).size:=by rw[cq];simp
   have lit:(ao #[45,62])=T [45,62]:=rfl;have eqx:((T [c,d]).toList==(T [45,62]).toList)=(c==45&&d==62):=by
    rw[gU,bH];simp
   have e61:((d.toNat:Int)==61)=(d==61):=Lu (d:=61);have Ku:qT (c::d::r)=((d==61&&[60,62,61,33].contains c)||(d==c&&[38,124].contains c)||(c==45&&d==62)):=rfl;rw[Ku];generalize hp1:([60,62,61,33]:aH).contains c=p1;generalize Td:([38,124]:aH).contains c=p2;have Un:((((T (c::d::r)).extract 0 2).toList)==((ao #[45,62]).toList))=(c==45&&d==62):=by rw[ex,lit,eqx]
   refine⟨d,g1,λNc=>⟨c,g0,λw6 dK=>?_⟩,λNc=>⟨d,g1,c,g0,λOP=>⟨c,g0,λdz dH=>?_⟩,λOP=>⟨sz,λfJ ec=>⟨?_,cn.ca ec⟩⟩⟩⟩
   ·rw[e61]at Nc;obtain⟨s,w7,k1,k2,k3,_⟩:=rS w6 [60,62,61,33] (n:=4) (parts:=#[(0,.int .u8 60),(1,.int .u8 62),(2,.int .u8 61),(3,.int .u8 33)]) rfl rfl aL aL;refine⟨s,w7,k1,(GZ (wY k2) c).mono ?_⟩;rintro _ w8 ⟨rfl,fj⟩;have kD:=cn.ca (dK.ca (k3.ca fj));rw[hp1];refine⟨_,rfl,λhb=>⟨by rw[Nc,hb];rfl,kD⟩,λhb=>⟨d,g1,c,g0,λOP=>⟨c,g0,?_⟩,λOP=>⟨sz,?_,kD⟩⟩⟩
    ·rw[Lu]at OP;obtain⟨s,w9,k1,k2,k3,_⟩:=rS w8 [38,124] (n:=2) (parts:=#[(0,.int .u8 38),(1,.int .u8 124)]) rfl rfl aL aL;refine⟨s,w9,k1,(GZ (wY k2) c).mono ?_⟩;rintro _ de ⟨rfl,dT⟩;have hO:=kD.ca (k3.ca dT);rw[Td];exact⟨_,rfl,λwx=>⟨by rw[Nc,hb,OP,wx];rfl,hO⟩,λwx=>⟨sz,by rw[Un,Nc,hb,OP,wx];rfl,hO⟩⟩
    rw[Lu]at OP;rw[Un,Nc,hb,OP];rfl
   ·rw[e61]at Nc;rw[Lu]at OP;obtain⟨s,eu,k1,k2,k3,_⟩:=rS dz [38,124] (n:=2) (parts:=#[(0,.int .u8 38),(1,.int .u8 124)]) rfl rfl aL aL;refine⟨s,eu,k1,(GZ (wY k2) c).mono ?_⟩;rintro _ eS ⟨rfl,dU⟩;have hO:=cn.ca (dH.ca (k3.ca dU));rw[Td];exact⟨_,rfl,λwx=>⟨by rw[Nc,OP,wx];rfl,hO⟩,λwx=>⟨sz,by rw[Un,Nc,OP,wx];rfl,hO⟩⟩
   rw[e61]at Nc;rw[Lu]at OP;rw[Un,Nc,OP];rfl
  intro hc gY je;rw[cq]at hc;have hr:r=[]:=by
   cases r with
   | nil=>rfl
   | cons d r=>exact absurd (aU hc) (by simp only[aW];omega)
  subst hr;exact⟨rfl,cn.ca je⟩
 obtain⟨s,jm,k1,k2,k3,k4⟩:=rS w0 ou (n:=17) (parts:=#[(0,.int .u8 123),(1,.int .u8 125),(2,.int .u8 40),(3,.int .u8 41),(4,.int .u8 91),(5,.int .u8 93),(6,.int .u8 59),(7,.int .u8 44),(8,.int .u8 61),(9,.int .u8 43),(10,.int .u8 45),(11,.int .u8 42),(12,.int .u8 47),(13,.int .u8 37),(14,.int .u8 60),(15,.int .u8 62),(16,.int .u8 33)]) rfl rfl aL aL;obtain⟨jd,c1,c2,c3⟩:=ZN k4 k2 (k2.blk k4).2;have iZ:ay [] w0 jd:=((k3.p0 (F:=λk=>w0.heap.size<=k)).trans c3 λk hk=>.inl aE).only λk hk=>hk;refine⟨s,jm,k1,s,jd,c1,(GZ c2 c).mono ?_⟩;rintro _ jR ⟨rfl,kD⟩;have hO:=cf.ca (iZ.ca kD);exact⟨_,rfl,λhb=>⟨by rw[aV hb],hO⟩,λhb=>⟨by rw[hb];rfl,hO⟩⟩
theorem O8.int{w':av}{b:Nat}{l:aH}{i:Nat}{acc:List Tk}{r:Except Int Tq}{v:aw}(h:O8 w' b l i acc r v):∃k:Int,v=O U k:=by
 unfold O8 at h;split at h
 ·exact⟨_,h.1⟩
 exact⟨_,h.1⟩
theorem Vp{w:av}{b:Nat}{l:aH}{i:Nat}{rs:Sl}{acc:List Tk}(h:Cut w b l i rs acc)(ha:acc.length<=16384)(ii:i<l.length):
  az aq 91 #[ae (some ⟨b,0,none⟩)] w λe w'=>∃v,e=ak v/\aD (λk=>b<=k) w w'/\O8 w' b l i acc (lK (l.drop i)) v:=by
 refine aeM ⟨b,0,none⟩ (λv w'=>aD (λk=>b<=k) w w'/\O8 w' b l i acc (lK (l.drop i)) v) w ?_;obtain⟨ws,hb,hw⟩:=h.blk;have hx:l[i]? =some l[i]:=bJ ii;generalize l[i]=x at hx;have ht:lK (l.drop i)=if eZ x then lZ (l.drop i)else if cW x then rT (l.drop i)else nY (l.drop i):=by
  rw[mW hx];rfl
 rw[ht];refine⟨T l,Blk.dN hb 0 rfl,i,Blk.dN hb 1 rfl,x,⟨aZ i,acO⟩,λw0 cf=>(Be w0 x).mono ?_⟩;rintro _ w1 ⟨rfl,cn⟩;have gn:=cf.ca cn;refine⟨_,rfl,λhl=>?_,λhl=>(Lm w1 x).mono ?_⟩
 ·rw[aV hl];refine(ZM (h.only gn) ha).mono ?_;rintro _ w2 ⟨v,rfl,cH,hd⟩;obtain⟨k,rfl⟩:=hd.int;exact⟨k,rfl,gn.vV cH,hd⟩
 rintro _ w3 ⟨rfl,cT⟩;have nB:=gn.ca cT;rw[aQ (by rw[hl];decide)];refine⟨_,rfl,λhd=>?_,λhd=>?_⟩
 ·rw[aV hd];refine(QG (h.only nB) ha).mono ?_;rintro _ w2 ⟨v,rfl,cH,hd⟩;obtain⟨k,rfl⟩:=hd.int;exact⟨k,rfl,nB.vV cH,hd⟩
 rw[aQ (by rw[hd];decide)];refine(ZO (h.only nB) ha ii).mono ?_;rintro _ w2 ⟨v,rfl,cH,hd⟩;obtain⟨k,rfl⟩:=hd.int;exact⟨k,rfl,nB.vV cH,hd⟩
theorem uR{m:aH}{q:Tq}(h:lK m=.ok q):1<=q.2.2.2:=by
 cases m with
 | nil=>cases h
 | cons c r=>
  simp only[lK]at h;split at h
  ·rename_i hc;unfold lZ at h;split at h
   ·cases h
   injection h with h;subst h;have:eF c=true:=by unfold eF;rw[hc];rfl
   dsimp only;rw[dk,aV this,aW];omega
  split at h
  ·rename_i hc;unfold rT at h;split at h
   ·cases h
   split at h
   ·cases h
   rename_i h1 h2;injection h with h;subst h;dsimp only;rw[dk,aV (by unfold eF;rw[hc,nE]),aW]at h2;omega
  unfold nY at h;split at h
  ·cases h
  injection h with h;subst h;dsimp only;omega
theorem EF{m:aH}{e:Int}(h:lK m=.error e):e≠0:=by
 cases m with
 | nil=>injection h with h;omega
 | cons c r=>
  simp only[lK]at h;split at h
  ·unfold lZ at h;split at h
   ·injection h with h;omega
   cases h
  split at h
  ·unfold rT at h;split at h
   ·injection h with h;omega
   split at h
   ·injection h with h;omega
   cases h
  unfold nY at h;split at h
  ·injection h with h;omega
  cases h
def Bi(l:aH):Nat->Nat->Except (Int×Nat) (List Tk)
 | 0,_=>.ok []
 | f+1,i=>
  if l.length<=i+jT false (l.drop i)then .ok [⟨5,[],0,(i+jT false (l.drop i):Nat)⟩]
  else match lK (l.drop (i+jT false (l.drop i)))with
   | .error e=>.error (e,i+jT false (l.drop i))
   | .ok q=>match Bi l f (i+jT false (l.drop i)+q.2.2.2)with
    | .error x=>.error x
    | .ok r=>.ok (⟨q.1,q.2.1,q.2.2.1,(i+jT false (l.drop i):Nat)⟩::r)
theorem QH{l:aH}:(ft l).2.1<=l.length:=by
 have:=qU (p:=cW) (l:=l);unfold ft;split
 ·exact be _
 split
 ·exact be _
 split
 ·exact this
 exact be _
theorem Bj{m:aH}{q:Tq}(h:lK m=.ok q):q.2.2.2<=m.length:=by
 cases m with
 | nil=>cases h
 | cons c r=>
  simp only[lK]at h;split at h
  ·unfold lZ at h;split at h
   ·cases h
   injection h with h;subst h;exact qU
  split at h
  ·unfold rT at h;split at h
   ·cases h
   split at h
   ·cases h
   injection h with h;subst h;exact QH
  unfold nY at h;split at h
  ·cases h
  injection h with h;subst h;exact wZ
theorem G2{l:aH}{i:Nat}(hi:i<=l.length):i+jT false (l.drop i)<=l.length:=by
 have:=EB (b:=false) (l:=l.drop i);rw[cr]at this;omega
theorem G3(l:aH):∀(f g i:Nat),i<=l.length->l.length<i+f->l.length<i+g->Bi l f i=Bi l g i
 | 0,_,i,hi,h,_=>aE
 | _,0,i,hi,_,h=>aE
 | f+1,g+1,i,hi,h1,h2=>by
  rw[Bi,Bi];split
  ·rfl
  split
  ·rfl
  rename_i q hq;have h3:=uR hq;have h4:=Bj hq;rw[cr]at h4;rw[G3 l f g _ aE aE aE]
def kc(l:aH)(i:Nat):Except (Int×Nat) (List Tk):=Bi l (l.length+1) i
theorem j5{l:aH}{i:Nat}(hi:i<=l.length):kc l i=if l.length<=i+jT false (l.drop i)then .ok [⟨5,[],0,(i+jT false (l.drop i):Nat)⟩]
  else match lK (l.drop (i+jT false (l.drop i)))with
   | .error e=>.error (e,i+jT false (l.drop i))
   | .ok q=>match kc l (i+jT false (l.drop i)+q.2.2.2)with
    | .error x=>.error x
    | .ok r=>.ok (⟨q.1,q.2.1,q.2.2.1,(i+jT false (l.drop i):Nat)⟩::r):=by
 unfold kc;rw[Bi];split
 ·rfl
 split
 ·rfl
 rename_i q hq;have h3:=uR hq;have h4:=Bj hq;rw[cr]at h4;rw[G3 l l.length (l.length+1) _ aE aE aE]
def cG(l:aH):List Tk×Int×Int:=if 16384<l.length then([],2, -1)else match kc l 0 with
 | .error x=>([],x.1,(x.2:Nat))
 | .ok r=>(r,0,0)
def jK(acc:List Tk):Except (Int×Nat) (List Tk)->Except (Int×Nat) (List Tk)
 | .error x=>.error x
 | .ok r=>.ok (acc++r)
theorem pX(b:Bool):∀(l:aH),jT false (l.drop (jT b l))=0
 | []=>by simp[jT]
 | c::r=>by
  cases b with
  | true=>
   rw[jT,kf,nS];exact pX _ r
  | false=>
   rw[jT];split
   ·rw[kf,nS];exact pX _ r
   split
   ·rw[kf,nS];exact pX _ r
   rename_i h1 h2;rw[fZ,jT,aQ h1,aQ h2]
theorem mX{l:aH}{i:Nat}(hi:i<=l.length):kc l i=kc l (i+jT false (l.drop i)):=by
 have h1:=G2 hi;have h2:jT false (l.drop (i+jT false (l.drop i)))=0:=by
  rw[<-jG];exact pX false (l.drop i)
 rw[j5 hi,j5 h1,h2,fk]
theorem Lv{a b:List Tk}{x:Except (Int×Nat) (List Tk)}:jK a (jK b x)=jK (a++b) x:=by
 cases x with
 | error _=>rfl
 | ok r=>simp[jK]
theorem G4{w:av}(l:aH)(hE:Er w):
  az aq 44 #[ab (T l)] w λe w'=>∃rs:Sl,e=ak (ai #[rs.v,ah #[O U (cG l).2.1,O U (cG l).2.2]])/\lJ w.heap.size w' rs (cG l).1/\ay [] w w':=by
 refine(aeC (T l) (λv w'=>∃rs:Sl,v=(ai #[rs.v,ah #[O U (cG l).2.1,O U (cG l).2.2]])/\lJ w.heap.size w' rs (cG l).1/\ay [] w w') w ?_).mono (by
  rintro e w' ⟨v,rfl,rs,rfl,h⟩;exact⟨rs,rfl,h⟩)
 rw[cq];refine⟨λhc k0 w0 _ _ hO=>⟨Sl.nil,?_,?_,hO⟩,λhc k1 w1 kU jC cn=>(Lr w1).mono ?_⟩
 ·rw[cG,aV aaX]
 ·rw[cG,aV aaX];exact Own.nil _ _ _ _ _ _
 have FK:l.length<=16384:=aa0
 have htm:cG l=match kc l 0 with
  | .error x=>([],x.1,(x.2:Nat))
  | .ok r=>(r,0,0):=by rw[cG,aQ aE]
 rintro _ w2 ⟨ws,rfl,hws,cH⟩;refine⟨ws,rfl,cH.same aaf,λb w3 hb ol cT Te=>?_⟩;have dU:=cn.ca (cH.ca cT);have z1:=cn.size;have z2:=cH.size;have z3:=cT.size;have hC0:Cut w3 b l 0 Sl.nil []:=⟨⟨ws,Te,(SliceF.only cX aL ((sF hws).inHeap cX aL) cT aM).mono cX λk hk=>aE⟩,Own.nil _ _ _ _ _ _,hE.only dU,by have:=hE.lt;omega,be _,FK⟩
 have sm:∀{u u':av},w2.heap.size<=u.heap.size->aD (λk=>b<=k) u u'->bS [k1] u u':=λhu hO=>hO.same (by intro x hx;simp only[aO]at hx;subst hx;omega);refine(QD Te (be _) aE).mono ?_;rintro _ w4 ⟨rfl,dw,WG⟩;have p4:aD (λk=>b<=k) w3 w4:=dw.p λx hx=>.inl aaL;have hC4:Cut w4 b l (0+jT false (l.drop 0)) Sl.nil []:=hC0.move dw (G2 (be _)) λOO h'=>by
  have:OO=ws:=by
   unfold aF at h' Te;rw[h']at Te;simp[Sl.v]at Te;cases ws;cases OO;simp_all
  subst this;exact WG
 refine⟨rfl,sm aE p4,T l,_,ws,Sl.nil,WG,λnv e1 e2 s0 i0 l1 l2 w'=>e1=0/\e2=0/\s0=T l/\∃(i:Nat) (acc:List Tk),i0=(i:Int)/\Cut w' b l i l2 acc/\acc.length<=i/\jT false (l.drop i)=0/\kc l 0=jK acc (kc l i)/\nv=l.length-i/\aD (λk=>b<=k) w3 w'/\aF w' b 158 [ab (T l),O U (i:Int),l1.v,l2.v],l.length-(0+jT false (l.drop 0)),?_,?_⟩
 ·refine⟨rfl,rfl,rfl,_,[],rfl,hC4,be _,?_,?_,rfl,p4,WG⟩
  ·rw[<-jG];exact pX false (l.drop 0)
  rw[<-mX (be _)];cases kc l 0<;>rfl
 rintro nv _ _ _ _ l1 rs w5 ⟨rfl,rfl,rfl,i,acc,rfl,hC,fi,hsk,oo,rfl,dY,M7⟩;have z5:=dY.size;have Uu:=hC.il;refine(XI M7).mono ?_;rintro _ w6 ⟨rfl,dK⟩;have hC6:=hC.only dK;have hb6:aF w6 b 158 [ab (T l),O U (i:Int),l1.v,rs.v]:=(dK.block b M7.lt aM).trans M7;have z6:=dK.size;have kR:=j5 hC.il;rw[hsk,fk]at kR;refine⟨_,rfl,dK.same aaf,T l,i,l1,rs,hb6,λhc=>?_,λhc=>?_⟩
 ·have bT:i<l.length:=aax
  rw[aQ aE]at kR;refine(Vp hC6 aE bT).mono ?_;rintro _ w7 ⟨v,rfl,fK,hd⟩;have p7:aD (λk=>b<=k) w3 w7:=(dY.ca dK).trans fK λk hk=>.inl hk;have z7:=fK.size;unfold O8 at hd;cases hq:lK (l.drop i)with
  | error e=>
   rw[hq]at hd kR;obtain⟨rfl,rs7,hC7⟩:=hd;obtain⟨ws7,YK,_⟩:=hC7.blk;refine⟨e,rfl,sm aE fK,T l,i,ws7,rs7,YK,λ_ w8 fj _=>⟨Sl.nil,?_,?_,?_⟩,λhe=>absurd (EF hq) acd⟩
   ·rw[htm,oo,kR];rfl
   ·rw[htm,oo,kR];exact Own.nil _ _ _ _ _ _
   exact(((dU.p0 (F:=λk=>w.heap.size<=k)).trans p7 λk hk=>.inl aE).trans (fj.p (F:=λk=>k=k1) λx hx=>.inl aa9) λk hk=>.inl aE).only λk hk=>hk
  | ok q=>
   rw[hq]at hd kR;obtain⟨rfl,rs7,hC7⟩:=hd;obtain⟨ws7,YK,_⟩:=hC7.blk;have hq1:=uR hq;have h7l:=hC7.il;refine⟨0,rfl,sm aE fK,T l,(i+q.2.2.2:Nat),ws7,rs7,YK,λhe=>(by simp at he),λ_=>(QD YK h7l aE).mono ?_⟩;rintro _ w9 ⟨rfl,fG,hb9⟩;have p9:aD (λk=>b<=k) w7 w9:=fG.p λx hx=>.inl aaL;have hC9:=hC7.move fG (G2 h7l) λOO h'=>by
    have:OO=ws7:=by
     unfold aF at h' YK;rw[h']at YK;simp[Sl.v]at YK;cases ws7;cases OO;simp_all
    subst this;exact hb9
   refine⟨rfl,sm aE p9,T l,_,ws7,rs7,hb9,l.length-(i+q.2.2.2+jT false (l.drop (i+q.2.2.2))),aE,rfl,rfl,rfl,_,_,rfl,hC9,?_,?_,?_,rfl,p7.trans p9 λk hk=>.inl hk,hb9⟩
   ·rw[aN,br];omega
   ·rw[<-jG];exact pX false _
   rw[oo,kR,<-mX h7l,<-Lv];dsimp only;cases kc l (i+q.2.2.2)<;>rfl
 have lR:l.length<=i:=aax
 rw[aV lR]at kR;refine(Ls hC6 5 [] 0 0 0 aE aE).mono ?_;rintro _ de ⟨rfl,dT,abo,ahO⟩;obtain⟨am2,am3,_⟩:=ahO.blk;have p10:aD (λk=>b<=k) w3 de:=(dY.ca dK).trans dT λk hk=>.inl hk;have htt:cG l=(acc++[⟨5,[],0,(i:Nat)⟩],0,0):=by
  rw[htm,oo,kR];rfl
 refine⟨rfl,sm aE dT,T l,_,am2,abo,am3,λdz dH _=>⟨abo,?_,?_,?_⟩⟩
 ·rw[htt]
 ·rw[htt];have:lJ (b+1) dz abo _:=ahO.own.keep λk hk bT=>dH.block k bT aaW;exact Own.low this aE
 exact(((dU.p0 (F:=λk=>w.heap.size<=k)).trans p10 λk hk=>.inl aE).trans (dH.p (F:=λk=>k=k1) λx hx=>.inl aa9) λk hk=>.inl aE).only λk hk=>hk
inductive Ex where
 | mk (k n:Int) (s:aH) (op:Int) (subs:List Ex) (a:Int)
def Ex.k:Ex->Int | .mk k _ _ _ _ _=>k
def Ex.n:Ex->Int | .mk _ n _ _ _ _=>n
def Ex.s:Ex->aH | .mk _ _ s _ _ _=>s
def Ex.op:Ex->Int | .mk _ _ _ op _ _=>op
def Ex.dh:Ex->List Ex | .mk _ _ _ _ l _=>l
def Ex.a:Ex->Int | .mk _ _ _ _ _ a=>a
def tk0:Tk:=⟨5,[],0, -1⟩
def tk(ts:List Tk)(i:Nat):Tk:=(ts[i]?).getD tk0
def sg(ts:List Tk)(i:Nat)(s:aH):Bool:=(tk ts i).k==4&&decide ((tk ts i).t=s)
def fA(ts:List Tk)(i:Nat):Int×Int:=(if(tk ts i).k=5 then 3 else 4,(tk ts i).a)
theorem Bk{ts:List Tk}{i:Nat}(h:i<ts.length):ts[i]? =some (tk ts i):=by
 unfold tk;rw[bJ h];rfl
def qm(ts:List Tk):Prop:=∀i,i<ts.length->((tk ts i).k=5↔i+1=ts.length)
theorem qm.next{ts:List Tk}(h:qm ts){i:Nat}(hi:i<ts.length)(hk:(tk ts i).k≠5):i+1<ts.length:=by
 have h2:¬(i+1=ts.length):=λe=>hk ((h i hi).2 e);omega
theorem vq{ts:List Tk}{i:Nat}{s:aH}(h:sg ts i s=true):(tk ts i).k≠5:=by
 simp only[sg,aP,du]at h;rw[h.1];decide
def vu:List (aH):=[[],[43],[45],[42],[47],[37],[60],[60,61],[62],[62,61],[61,61],[33,61],[38,38],[124,124],[45],[33]]
def fl(op:Int):Int:=if 3<=op/\op<=5 then 5 else if op=1∨op=2 then 4 else if 6<=op/\op<=9 then 3 else if op=10∨op=11 then 2 else if op=12 then 1 else if op=13 then 0 else 6
def dL(op:Nat):aH:=(vu[op]?).getD []
def jy(ts:List Tk)(k:Int)(i:Nat):Nat->Nat->Int
 | 0,_=>0
 | f+1,op=>if fl (op:Int)=k/\sg ts i (dL op)=true then(op:Int)else jy ts k i f (op+1)
def jL(ts:List Tk)(k:Int)(i:Nat):Int:=jy ts k i 13 1
theorem oV{ts:List Tk}{k:Int}{i:Nat}:∀(f op:Nat),jy ts k i f op≠0->(tk ts i).k≠5
 | 0,_,h=>absurd rfl h
 | f+1,op,h=>by
  rw[jy]at h;split at h
  ·rename_i hc;exact vq hc.2
  exact oV f _ h
abbrev Pr:=Except (Int×Int) (Ex×Nat)
def G5(g:Ex->Ex):Pr->Pr
 | .error e=>.error e
 | .ok (x,j)=>.ok (g x,j)
def Bl:Pr->(Ex->Nat->Pr)->Pr
 | .error e,_=>.error e
 | .ok (x,j),g=>g x j
def rU(ts:List Tk):Pr->Pr
 | .error e=>.error e
 | .ok (x,j)=>if sg ts j [41]then .ok (x,j+1)else .error (fA ts j)
def jh(d:Nat)(a:Int)(r:Pr):Pr:=if d=20 then .error (21,a)else r
def Bm(ts:List Tk)(i:Nat):Pr:=
 if sg ts (i+1) [40]then
  (if(tk ts (i+2)).k=1 then
   (if sg ts (i+3) [41]then .ok (.mk 3 0 (tk ts (i+2)).t 0 [] (tk ts i).a,i+4)else .error (fA ts (i+3)))
  else .error (fA ts (i+2)))
 else .error (fA ts (i+1))
def oL(ts:List Tk)(E0 One:Nat->Pr)(d i:Nat):Pr:=
 if(sg ts i [45]||sg ts i [33])=true then G5 (λx=>.mk 4 0 [] (if(tk ts i).t=[33]then 15 else 14) [x] (tk ts i).a) (jh d (tk ts i).a (One (i+1)))
 else if sg ts i [40]=true then jh d (tk ts i).a (rU ts (E0 (i+1)))
 else if(tk ts i).k=3 then .ok (.mk 1 (tk ts i).n [] 0 [] (tk ts i).a,i+1)
 else if(tk ts i).k=1 then .ok (.mk 2 0 (tk ts i).t 0 [] (tk ts i).a,i+1)
 else if(tk ts i).k=2/\(tk ts i).t=[105,110]then Bm ts i
 else .error (fA ts i)
def iT(ts:List Tk)(E:Nat->Pr)(k:Int):Nat->Ex->Nat->Pr
 | 0,x,j=>.ok (x,j)
 | g+1,x,j=>if jL ts k j=0 then .ok (x,j)else Bl (E (j+1)) λy j'=>iT ts E k g (.mk 5 0 [] (jL ts k j) [x,y] x.a) j'
def dc(ts:List Tk):Nat->Nat->Nat->Nat->Pr
 | 0,_,_,_=>.error (1,0)
 | f+1,k,d,i=>if k=6 then oL ts (dc ts f 0 (d+1)) (dc ts f 6 (d+1)) d i else Bl (dc ts f (k+1) d i) λx j=>iT ts (dc ts f (k+1) d) (k:Int) (ts.length-j) x j
theorem Ab{g:Ex->Ex}{r:Pr}{x:Ex}{j:Nat}(h:G5 g r=.ok (x,j)):∃y,r=.ok (y,j)/\x=g y:=by
 cases r with
 | error e=>cases h
 | ok q=>
  obtain⟨y,j'⟩:=q;simp only[G5,fp,fx]at h;obtain⟨rfl,rfl⟩:=h;exact⟨y,rfl,rfl⟩
theorem qV{d:Nat}{a:Int}{r:Pr}{q:Ex×Nat}(h:jh d a r=.ok q):r=.ok q/\d≠20:=by
 unfold jh at h;split at h
 ·cases h
 exact⟨h,by assumption⟩
theorem Ad{ts:List Tk}{r:Pr}{x:Ex}{j:Nat}(h:rU ts r=.ok (x,j)):∃j',r=.ok (x,j')/\sg ts j' [41]=true/\j=j'+1:=by
 cases r with
 | error e=>cases h
 | ok q=>
  obtain⟨y,j'⟩:=q;simp only[rU]at h;split at h
  ·simp only[fp,fx]at h;obtain⟨rfl,rfl⟩:=h;exact⟨j',rfl,by assumption,rfl⟩
  cases h
theorem xa{r:Pr}{g:Ex->Nat->Pr}{q:Ex×Nat}(h:Bl r g=.ok q):∃x j,r=.ok (x,j)/\g x j=.ok q:=by
 cases r with
 | error e=>cases h
 | ok p=>exact⟨p.1,p.2,rfl,h⟩
theorem Jj{ts:List Tk}{i:Nat}{x:Ex}{j:Nat}(h:Bm ts i=.ok (x,j)):j=i+4/\x=.mk 3 0 (tk ts (i+2)).t 0 [] (tk ts i).a:=by
 unfold Bm at h;split at h
 ·split at h
  ·split at h
   ·simp only[fp,fx]at h;exact⟨h.2.symm,h.1.symm⟩
   cases h
  cases h
 cases h
theorem NP{ts:List Tk}{E0 One:Nat->Pr}{d i:Nat}{x:Ex}{j:Nat}(hE:∀i x j,E0 i=.ok (x,j)->i<j)(hO:∀i x j,One i=.ok (x,j)->i<j)(h:oL ts E0 One d i=.ok (x,j)):i<j:=by
 unfold oL at h;split at h
 ·obtain⟨y,h1,_⟩:=Ab h;have:=hO _ _ _ (qV h1).1;omega
 split at h
 ·obtain⟨j',h1,_,rfl⟩:=Ad (qV h).1;have:=hE _ _ _ h1;omega
 split at h
 ·simp only[fp,fx]at h;omega
 split at h
 ·simp only[fp,fx]at h;omega
 split at h
 ·have:=(Jj h).1;omega
 cases h
theorem Bn{ts:List Tk}{E:Nat->Pr}{k:Int}(hE:∀i x j,E i=.ok (x,j)->i<j):∀(g:Nat) (x:Ex) (j:Nat) {x':Ex} {j':Nat},iT ts E k g x j=.ok (x',j')->j<=j'
 | 0,x,j,x',j',h=>by
  simp only[iT,fp,fx]at h;omega
 | g+1,x,j,x',j',h=>by
  rw[iT]at h;split at h
  ·simp only[fp,fx]at h;omega
  obtain⟨y,m,h1,h2⟩:=xa h;have:=hE _ _ _ h1;have:=Bn hE g _ _ h2;omega
theorem kq{ts:List Tk}:∀(f k d i:Nat) {x:Ex} {j:Nat},dc ts f k d i=.ok (x,j)->i<j
 | 0,_,_,_,_,_,h=>aaQ
 | f+1,k,d,i,x,j,h=>by
  rw[dc]at h;split at h
  ·exact NP (λi x j h=>kq f _ _ i h) (λi x j h=>kq f _ _ i h) h
  obtain⟨y,m,h1,h2⟩:=xa h;have:=kq f _ _ _ h1;have:=Bn (λi x j h=>kq f _ _ i h) _ _ _ h2;omega
def fR(k d:Nat):Nat:=(20-d)*8+(7-k)
def qn(ts:List Tk)(i:Nat):Pr:=dc ts (fR 0 0) 0 0 i
structure Rd (F G:aJ) (ts:List Tk) (w:av) (b:Nat) (l sn:Sl) (i:Nat) (fc fa d:Int):Prop where
 blk:aF w b 280 [l.v,O U (i:Int),O U fc,O U fa,O U d,sn.v]
 tok:aA ED 4 w F l ts
 sig:aA kb 1 w G sn vu
 hF:∀k,F k->k<b
 hG:∀k,G k->k<b
 en:qm ts
 lt:i<ts.length
section
variable {F G:aJ} {ts:List Tk} {w w':av} {b:Nat} {l sn:Sl} {i:Nat} {fc fa d:Int}
theorem Rd.only(h:Rd F G ts w b l sn i fc fa d)(hO:ay [] w w'):Rd F G ts w' b l sn i fc fa d:=
 ⟨hO.blk h.blk aM,SliceF.only ik aL h.tok hO aM,SliceF.only cX aL h.sig hO aM,h.hF,h.hG,h.en,h.lt⟩
theorem Rd.jX(h:Rd F G ts w b l sn i fc fa d)(hO:ay [b] w w'){i':Nat}{fc' fa' d':Int}(hB:aF w' b 280 [l.v,O U (i':Int),O U fc',O U fa',O U d',sn.v])(hi:i'<ts.length):Rd F G ts w' b l sn i' fc' fa' d':=
 ⟨hB,SliceF.only ik aL h.tok hO λk hk _ hm=>by have:=h.hF k hk;simp only[aO]at hm;omega,SliceF.only cX aL h.sig hO λk hk _ hm=>abd,h.hF,h.hG,h.en,hi⟩
theorem Rd.own(h:Rd F G ts w b l sn i fc fa d){bs:List Nat}(hO:ay bs w w')(hb:∀x,x∈bs->b<x):Rd F G ts w' b l sn i fc fa d:=
 ⟨hO.blk h.blk λhm=>by have:=hb b hm;omega,SliceF.only ik aL h.tok hO λk hk _ hm=>acs,SliceF.only cX aL h.sig hO λk hk _ hm=>(by have:=h.hG k hk;have:=hb k hm;omega),h.hF,h.hG,h.en,h.lt⟩
theorem Rd.lb(h:Rd F G ts w b l sn i fc fa d):b<w.heap.size:=h.blk.lt
theorem Rd.big(h:Rd F G ts w b l sn i fc fa d):ts.length<=9223372036854775807:=by
 have h1:=h.tok.len;have h2:=h.tok.cap;have h3:=h.tok.big;omega
theorem Rd.now(h:Rd F G ts w b l sn i fc fa d):∃ad,cR l (i:Int) 4 ad/\aB w ad [O U (tk ts i).k,ab (T (tk ts i).t),O U (tk ts i).n,O U (tk ts i).a]:=by
 have hl:=h.tok.len;have bT:=h.lt;obtain⟨ad,x,cs,g1,g2,g3,g4,g5,g6⟩:=h.tok.get (aZ i) aE;rw[aX,Bk h.lt]at g2;injection g2 with g2;subst g2;unfold ED at g6;subst g6;exact⟨ad,g1,g5⟩
theorem G6(h:Rd F G ts w b l sn i fc fa d):az aq 259 #[ae (some ⟨b,0,none⟩)] w λe w'=>e=ak (tk ts i).v/\ay [] w w':=by
 refine ret (akF _ _ _ ?_);intro k0 w0 hk tu hO;have h0:=h.only hO;obtain⟨ad,g1,g2⟩:=h0.now;exact⟨l,Blk.dN h0.blk 0 rfl,_,Blk.dN h0.blk 1 rfl,ad,g1,_,_,_,_,g2,λw1 cn=>⟨rfl,hO.new cn hk⟩⟩
theorem Db(h:Rd F G ts w b l sn i fc fa d):az aq 226 #[ae (some ⟨b,0,none⟩)] w λe w'=>e=ak (aj (fc !=0))/\ay [] w w':=by
 refine ret (v7w _ _ _ ?_);exact⟨fc,Blk.dN h.blk 2 rfl,rfl,Only.refl _ _⟩
theorem EG(h:Rd F G ts w b l sn i fc fa d)(c:Int):az aq 267 #[ae (some ⟨b,0,none⟩),O U c] w λe w'=>e=ak (ai #[])/\ay [b] w w'/\
  Rd F G ts w' b l sn i (if fc=0 then c else fc) (if fc=0 then(tk ts i).a else fa) d:=by
 refine ret (akH _ _ _ _ ?_);refine(Db h).mono ?_;rintro _ w0 ⟨rfl,cf⟩;have h0:=h.only cf;refine⟨_,rfl,λhc=>(G6 h0).mono ?_,λhc=>?_⟩
 ·have hc:fc=0:=aax
  subst hc;rintro _ w1 ⟨rfl,cn⟩;have h1:=h0.only cn;refine⟨_,_,_,_,rfl,b,2,_,_,rfl,h1.blk,aM,λw2 cH lS=>⟨rfl,(cf.ca cn).weaken (λ_ h=>aaQ) |>.trans cH (λx hx=>.inl hx),?_⟩⟩;rw[aV rfl,aV rfl];exact h1.jX cH lS h.lt
 have hc:fc≠0:=aax
 rw[aQ hc,aQ hc];exact⟨rfl,cf.weaken λ_ h=>aaQ,h0⟩
theorem EH(h:Rd F G ts w b l sn i fc fa d):az aq 265 #[ae (some ⟨b,0,none⟩)] w λe w'=>e=ak (ai #[])/\ay [b] w w'/\
  Rd F G ts w' b l sn i (if fc=0 then(fA ts i).1 else fc) (if fc=0 then(fA ts i).2 else fa) d:=by
 refine ret (akJ _ _ _ ?_);refine⟨λw'=>ay [b] w w'/\((tk ts i).k=5->Rd F G ts w' b l sn i (if fc=0 then 3 else fc) (if fc=0 then(tk ts i).a else fa) d)/\((tk ts i).k≠5->Rd F G ts w' b l sn i fc fa d),?_,(G6 h).mono ?_⟩
 ·rintro w0 ⟨cf,h1,h2⟩;by_cases hk:(tk ts i).k=5
  ·refine(EG (h1 hk) 4).mono ?_;rintro _ w1 ⟨rfl,cn,hR⟩;refine⟨rfl,rfl,cf.trans cn (λx hx=>.inl hx),?_⟩;unfold fA;rw[aV hk];by_cases hc:fc=0
   ·rw[aV hc,aV hc,aQ aL,aQ aL]at hR;rw[aV hc,aV hc];exact hR
   rw[aQ hc,aQ hc,aQ hc,aQ hc]at hR;rw[aQ hc,aQ hc];exact hR
  refine(EG (h2 hk) 4).mono ?_;rintro _ w1 ⟨rfl,cn,hR⟩;refine⟨rfl,rfl,cf.trans cn (λx hx=>.inl hx),?_⟩;unfold fA;rw[aQ hk];exact hR
 rintro _ w2 ⟨rfl,cH⟩;have h2:=h.only cH;refine⟨_,_,_,_,rfl,λhc=>(EG h2 3).mono ?_,λhc=>⟨cH.weaken λ_ h=>aaQ,λe=>?_,λ_=>h2⟩⟩
 ·rintro _ w3 ⟨rfl,cT,hR⟩;exact⟨rfl,cH.weaken (λ_ h=>aaQ) |>.trans cT (λx hx=>.inl hx),λ_=>hR,λe=>absurd aax e⟩
 rw[e]at hc;simp at hc
theorem agd(h:Rd F G ts w b l sn i fc fa d){H:aJ}{s:Sl}{ss:List (aH)}(hs:aA kb 1 w H s ss):az aq 260 #[ae (some ⟨b,0,none⟩),s.v] w λe w'=>
  e=ak (aj (fc==0&&(tk ts i).k==4&&ss.contains (tk ts i).t))/\ay [] w w':=by
 refine ret (v8w _ _ _ _ ?_);refine(G6 h).mono ?_;rintro _ w0 ⟨rfl,cf⟩;refine⟨_,_,_,_,rfl,λk0 w1 hk tu cn=>⟨λc w'=>c=(fc==0&&(tk ts i).k==4&&ss.contains (tk ts i).t)/\ay [] w w',λc w2 h2=>⟨by rw[h2.1],h2.2⟩,?_⟩⟩;have gn:=cf.ca cn;refine(Db (h.only gn)).mono ?_;rintro _ w3 ⟨rfl,cT⟩;have e:(!(fc !=0))=(fc==0):=by cases h:(fc==0)<;>simp[bne,h]
 refine⟨_,rfl,cT.same aaf,λhc=>(tK (SliceF.only cX aL hs (gn.ca cT) aM) _).mono ?_,λhc=>⟨?_,gn.ca cT⟩⟩
 ·rintro _ w4 ⟨rfl,dw⟩;rw[e]at hc;have hl:=h.lb;have z3:=cT.size;exact⟨_,rfl,dw.same aaf,by rw[hc,bZ],gn.ca (cT.ca dw)⟩
 rw[e]at hc;rw[hc,cQ]
theorem is1(h:Rd F G ts w b l sn i fc fa d)(s:aH):∃(s0:Sl) (w0:av),(au 41 1 #[.mk 0 (ab (T s))]).run aq w=.ok s0.v w0/\ay [] w w0/\
  az aq 260 #[ae (some ⟨b,0,none⟩),s0.v] w0 λe w'=>e=ak (aj (fc==0&&sg ts i s))/\ay [] w0 w':=by
 obtain⟨s0,w0,k1,k2,k3⟩:=jJ w [s] (n:=1) (parts:=#[(0,ab (T s))]) rfl rfl aL aL;refine⟨s0,w0,k1,k3,(agd (h.only k3) (sF k2)).mono ?_⟩;rintro _ w1 ⟨rfl,cn⟩;have e:[s].contains (tk ts i).t=decide ((tk ts i).t=s):=by
  by_cases e:(tk ts i).t=s
  ·rw[bE e,e];simp
  rw[bA e];simp[e]
 refine⟨?_,cn⟩;unfold sg;rw[vN,e]
theorem is2(h:Rd F G ts w b l sn i fc fa d):∃(s0:Sl) (w0:av),(au 41 2 #[.mk 0 (ab (ao #[45])),.mk 1 (ab (ao #[33]))]).run aq w=.ok s0.v w0/\ay [] w w0/\
  az aq 260 #[ae (some ⟨b,0,none⟩),s0.v] w0 λe w'=>e=ak (aj (fc==0&&(sg ts i [45]||sg ts i [33])))/\ay [] w0 w':=by
 obtain⟨s0,w0,k1,k2,k3⟩:=jJ w [[45],[33]] (n:=2) (parts:=#[(0,ab (T [45])),(1,ab (T [33]))]) rfl rfl aL aL;refine⟨s0,w0,k1,k3,(agd (h.only k3) (sF k2)).mono ?_⟩;rintro _ w1 ⟨rfl,cn⟩;have e:[[45],[33]].contains (tk ts i).t=(decide ((tk ts i).t=[45])||decide ((tk ts i).t=[33])):=by
  rw[bH];simp
 refine⟨?_,cn⟩;unfold sg;rw[vN,<-Bool.and_or_distrib_left,e]
theorem Bo(h:Rd F G ts w b l sn i fc fa d)(s:aH):az aq 263 #[ae (some ⟨b,0,none⟩),ab (T s)] w λe w'=>e=ak (ai #[])/\ay [b] w w'/\
  (if fc==0&&sg ts i s then Rd F G ts w' b l sn (i+1) fc fa d else Rd F G ts w' b l sn i (if fc=0 then(fA ts i).1 else fc) (if fc=0 then(fA ts i).2 else fa) d):=by
 refine ret (v9w _ _ _ _ ?_);obtain⟨s0,w0,k1,k2,k3⟩:=is1 h s;refine⟨s0,w0,k1,k3.mono ?_⟩;rintro _ w1 ⟨rfl,cn⟩;have h1:=h.only (k2.ca cn);have gn:ay [b] w w1:=(k2.ca cn).weaken λ_ h=>aaQ
 refine⟨_,rfl,λhc=>(EH h1).mono ?_,λhc=>?_⟩
 ·rintro _ w2 ⟨rfl,cH,hR⟩;have hc:(fc==0&&sg ts i s)=false:=by rwa[cV]at hc
  rw[hc];exact⟨rfl,rfl,gn.trans cH (λx hx=>.inl hx),hR⟩
 have hc:(fc==0&&sg ts i s)=true:=by rwa[gx]at hc
 rw[hc];simp only[aP]at hc;have hn:=h.en.next h.lt (vq hc.2);have hb:=h.big;refine⟨(i:Int),Blk.dN h1.blk 1 rfl,b,1,_,_,rfl,h1.blk,aM,λw3 cT sV=>⟨rfl,gn.trans cT (λx hx=>.inl hx),h1.jX cT ?_ hn⟩⟩;rw[eY aE aE]at sV;exact sV
theorem Lw(h:Rd F G ts w b l sn i fc fa d):az aq 264 #[ae (some ⟨b,0,none⟩)] w λe w'=>ay [b] w w'/\
  (if fc=0/\(tk ts i).k=1 then e=ak (ab (T (tk ts i).t))/\Rd F G ts w' b l sn (i+1) fc fa d else e=ak (ab (T []))/\Rd F G ts w' b l sn i (if fc=0 then(fA ts i).1 else fc) (if fc=0 then(fA ts i).2 else fa) d):=by
 refine(akK ⟨b,0,none⟩ (λv w'=>ay [b] w w'/\(if fc=0/\(tk ts i).k=1 then v=(ab (T (tk ts i).t))/\Rd F G ts w' b l sn (i+1) fc fa d else v=(ab (T []))/\Rd F G ts w' b l sn i (if fc=0 then(fA ts i).1 else fc) (if fc=0 then(fA ts i).2 else fa) d)) w ?_).mono (by
  rintro e w' ⟨v,rfl,hO,hv⟩;refine⟨hO,?_⟩;split at hv
  ·rename_i hc;rw[aV hc];exact⟨by rw[hv.1],hv.2⟩
  rename_i hc;rw[aQ hc];exact⟨by rw[hv.1],hv.2⟩)
 refine(G6 h).mono ?_;rintro _ w0 ⟨rfl,cf⟩;refine⟨_,_,_,_,rfl,λk0 w1 hk tu cn=>?_⟩;have gn:=cf.ca cn;have z0:=cf.size;have hl:=h.lb;refine(Db (h.only gn)).mono ?_;rintro _ w2 ⟨rfl,cH⟩;have z2:=cH.size;have h2:=h.only (gn.ca cH);have jY:ay [b] w w2:=(gn.ca cH).weaken λ_ h=>aaQ
 refine⟨_,rfl,cH.same aaf,λhc=>(EH h2).mono ?_,λhc=>?_⟩
 ·rintro _ w3 ⟨rfl,cT,hR⟩;refine⟨rfl,cT.same aaf,jY.trans cT (λx hx=>.inl hx),?_⟩;rw[aQ (λhh=>by rw[hh.1,hh.2]at hc;simp at hc)];exact⟨rfl,hR⟩
 have hc:fc=0/\(tk ts i).k=1:=aax
 have hn:=h.en.next h.lt (by rw[hc.2];decide);have hb:=h.big;refine⟨(i:Int),Blk.dN h2.blk 1 rfl,b,1,_,_,rfl,h2.blk,aM,aE,λw3 cT sV=>⟨jY.trans cT (λx hx=>.inl hx),?_⟩⟩;rw[aV hc];refine⟨rfl,h2.jX cT ?_ hn⟩;rw[eY aE aE]at sV;exact sV
end
theorem Jk(w:av)(op:Int):az aq 232 #[O U op] w λe w'=>e=ak (O U (fl op))/\w'=w:=by
 refine ret (akM _ _ _ ?_);have fin:∀{k:Int} {w1:av},fl op=k->(Value.int U k=O U (fl op)/\w1=w1):=λe=>⟨by rw[e],rfl⟩
 refine⟨λh=>fin ?_,λh=>⟨λb w'=>b=decide (op=1∨op=2)/\w'=w,?_,λh1=>⟨?_,rfl⟩,λh1=>⟨?_,rfl⟩⟩⟩
 ·simp only[aP,bI]at h;unfold fl;rw[aV aE]
 ·rintro _ w1 ⟨rfl,rfl⟩;have h:¬(3<=op/\op<=5):=λhh=>by rw[bE hh.1,bE hh.2]at h;cases h
  refine⟨λh1=>fin ?_,λh1=>⟨λh2=>fin ?_,λh2=>⟨λb w2=>b=decide (op=10∨op=11)/\w2=w1,?_,λh3=>⟨?_,rfl⟩,λh3=>⟨?_,rfl⟩⟩⟩⟩
  ·have h1:=aR h1;unfold fl;rw[aQ h,aV h1]
  ·have h1:=aU h1;simp only[aP,bI]at h2;unfold fl;rw[aQ h,aQ h1,aV aE]
  ·rintro _ _ ⟨rfl,rfl⟩;have h1:=aU h1;have h2:¬(6<=op/\op<=9):=λhh=>by rw[bE hh.1,bE hh.2]at h2;cases h2
   refine⟨λh3=>fin ?_,λh3=>⟨λh4=>fin ?_,λh4=>⟨λh5=>fin ?_,λh5=>fin ?_⟩⟩⟩
   ·have h3:=aR h3;unfold fl;rw[aQ h,aQ h1,aQ h2,aV h3]
   ·have h3:=aU h3;have h4:op=12:=adp
    unfold fl;rw[aQ h,aQ h1,aQ h2,aQ h3,aV h4]
   ·have h3:=aU h3;have h4:¬op=12:=adp
    have h5:op=13:=by simpa using h5
    unfold fl;rw[aQ h,aQ h1,aQ h2,aQ h3,aQ h4,aV h5]
   have h3:=aU h3;have h4:¬op=12:=adp
   have h5:¬op=13:=by simpa using h5
   unfold fl;rw[aQ h,aQ h1,aQ h2,aQ h3,aQ h4,aQ h5]
  ·have h3:op=10:=by simpa using h3
   rw[h3];rfl
  have h3:¬op=10:=by simpa using h3
  rw[bH];simp[h3]
 ·have h1:op=1:=abv
  rw[h1];rfl
 have h1:¬op=1:=abv
 rw[bH];simp[h1]
section
variable {F G:aJ} {ts:List Tk} {w w':av} {b:Nat} {l sn:Sl} {i:Nat} {fc fa d:Int}
theorem Bp(h:Rd F G ts w b l sn i fc fa d)(k:Int):az aq 247 #[ae (some ⟨b,0,none⟩),O U k] w λe w'=>e=ak (O U (if fc=0 then jL ts k i else 0))/\ay [] w w':=by
 refine ret (akL _ _ _ _ ?_);refine⟨λnv i0 w'=>∃op:Nat,1<=op/\op<=14/\i0=(op:Int)/\nv=14-op/\(if fc=0 then jL ts k i else 0)=(if fc=0 then jy ts k i (14-op) op else 0)/\ay [] w w',13,⟨1,aL,aL,rfl,rfl,rfl,Only.refl _ _⟩,?_⟩;rintro nv _ w0 ⟨op,h1,h2,rfl,rfl,hV,cf⟩;refine⟨λhc=>?_,λhc=>?_⟩
 ·have hc:(op:Int)<=13:=aR hc;obtain⟨m,hm⟩:∃m,14-op=m+1:=⟨13-op,aE⟩
  rw[hm,jy]at hV;refine⟨λc w'=>c=(decide (fl (op:Int)=k)&&(fc==0&&sg ts i (dL op)))/\ay [] w w',?_,λw2 cH=>(Jk w2 _).mono ?_⟩
  ·rintro _ w1 ⟨rfl,cn⟩;refine⟨λhb=>⟨?_,cn⟩,λhb=>⟨m,aE,op+1,aE,aE,aaa,aE,?_,cn⟩⟩
   ·simp only[aP,bI,du]at hb;rw[hV,aV hb.2.1,aV ⟨hb.1,hb.2.2⟩]
   rw[hV,show 14-(op+1)=m by omega];by_cases h0:fc=0
   ·rw[aV h0,aV h0,aQ];rintro⟨e1,e2⟩;rw[bE e1,e2,h0]at hb;simp at hb
   rw[aQ h0,aQ h0]
  rintro _ w3 ⟨rfl,rfl⟩;have h3:=h.only (cf.ca cH);refine⟨_,rfl,λhk=>?_,λhk=>?_⟩
  ·have hk:fl (op:Int)=k:=aaU
   have hn:=h3.sig.len;have hol:vu.length=16:=rfl;obtain⟨ad,x,cs,g1,g2,g3,g4,g5,g6⟩:=h3.sig.get (i:=(op:Int)) aE aE;unfold kb at g6;subst g6;rw[aX]at g2;have hx:dL op=x:=by unfold dL;rw[g2];rfl
   subst hx;obtain⟨s0,w4,k1,k2,k3⟩:=is1 h3 (dL op);refine⟨sn,Blk.dN h3.blk 5 rfl,ad,g1,_,g5,s0,w4,k1,k3.mono ?_⟩;rintro _ w5 ⟨rfl,dY⟩;exact⟨_,rfl,by rw[bE hk,bZ],cf.ca (cH.ca (k2.ca dY))⟩
  have hk:¬fl (op:Int)=k:=aaU
  exact⟨by rw[bA hk,cQ],cf.ca cH⟩
 have hc:¬(op:Int)<=13:=aU hc;have:op=14:=aE
 subst this;rw[hV];refine⟨?_,cf⟩;split<;>rfl
end
abbrev lf(k n:Int)(s:aH)(op:Int)(sl:Sl)(a:Int):aI:=[O U k,O U n,ab (T s),O U op,sl.v,O U a]
inductive RXN (w:av) (N:aJ):Nat->Nat->Ex->aI->Prop
 | leaf (lo hi:Nat) (k n:Int) (s:aH) (op a:Int):RXN w N lo hi (.mk k n s op [] a) (lf k n s op Sl.nil a)
 | one (lo m g hi:Nat) (k n:Int) (s:aH) (op a:Int) (x:Ex) (cs:aI):RXN w N lo m x cs->lo<=g->m<=g->g<hi->¬N g->aF w g 40 cs->RXN w N lo hi (.mk k n s op [x] a) (lf k n s op ⟨some ⟨g,0,none⟩,1,1⟩ a)
 | two (lo m m' m2 g hi:Nat) (k n:Int) (s:aH) (op a:Int) (x y:Ex) (cs ds:aI):RXN w N lo m x cs->m<=m'->RXN w N m' m2 y ds->lo<=m'->m<=g->m'<=g->m2<=g->g<hi->¬N g->aF w g 40 (cs++ds)->RXN w N lo hi (.mk k n s op [x,y] a) (lf k n s op ⟨some ⟨g,0,none⟩,2,2⟩ a)
abbrev RX(w:av):Nat->Nat->Ex->aI->Prop:=RXN w λ_=>False
section
variable {w w':av} {N N':aJ} {lo hi:Nat} {x:Ex} {cs:aI}
theorem RXN.keep(h:RXN w N lo hi x cs):(∀k,lo<=k->k<hi->¬N k->k<w.heap.size->w'.heap[k]? =w.heap[k]?)->RXN w' N lo hi x cs:=by
 induction h with
 | leaf lo hi k n s op a=>exact λ_=>.leaf ..
 | one lo m g hi k n s op a x cs h1 h2 h3 h4 hn h5 ih=>
  intro hk;exact .one lo m g hi k n s op a x cs (ih λj h6 h7 h8=>hk j h6 aE h8) h2 h3 h4 hn ((hk g h2 h4 hn h5.lt).trans h5)
 | two lo m m' m2 g hi k n s op a x y cs ds h1 h2 h3 h4 h5 h6 h7 h8 hn h9 CO F6=>
  intro hk;exact .two lo m m' m2 g hi k n s op a x y cs ds (CO λj a1 a2 a3=>hk j a1 aE a3) h2 (F6 λj a1 a2 a3=>hk j aE aE a3) h4 h5 h6 h7 h8 hn ((hk g aE h8 hn h9.lt).trans h9)
theorem RXN.wide(h:RXN w N lo hi x cs):∀{lo' Ce:Nat},lo'<=lo->hi<=Ce->RXN w N lo' Ce x cs:=by
 induction h with
 | leaf lo hi k n s op a=>exact λ_ _=>.leaf ..
 | one lo m g hi k n s op a x cs h1 h2 h3 h4 hn h5 ih=>
  intro lo' Ce a1 a2;exact .one lo' m g Ce k n s op a x cs (ih a1 (aY _)) aE h3 aE hn h5
 | two lo m m' m2 g hi k n s op a x y cs ds h1 h2 h3 h4 h5 h6 h7 h8 hn h9 CO F6=>
  intro lo' Ce a1 a2;exact .two lo' m m' m2 g Ce k n s op a x y cs ds (CO a1 (aY _)) h2 h3 aE h5 h6 h7 aE hn h9
theorem RXN.DN(h:RXN w N lo hi x cs):(∀k,lo<=k->k<hi->¬N k->¬N' k)->RXN w N' lo hi x cs:=by
 induction h with
 | leaf lo hi k n s op a=>exact λ_=>.leaf ..
 | one lo m g hi k n s op a x cs h1 h2 h3 h4 hn h5 ih=>
  intro hk;exact .one lo m g hi k n s op a x cs (ih λj h6 h7=>hk j h6 aE) h2 h3 h4 (hk g h2 h4 hn) h5
 | two lo m m' m2 g hi k n s op a x y cs ds h1 h2 h3 h4 h5 h6 h7 h8 hn h9 CO F6=>
  intro hk;exact .two lo m m' m2 g hi k n s op a x y cs ds (CO λj a1 a2=>hk j a1 aE) h2 (F6 λj a1 a2=>hk j aE aE) h4 h5 h6 h7 h8 (hk g aE h8 hn) h9
theorem RXN.cells(h:RXN w N lo hi x cs):∃sl:Sl,cs=lf x.k x.n x.s x.op sl x.a/\(sl.n=x.dh.length):=by
 cases h with
 | leaf=>exact⟨_,rfl,rfl⟩
 | one=>exact⟨_,rfl,rfl⟩
 | two=>exact⟨_,rfl,rfl⟩
theorem RXN.only(h:RXN w N lo hi x cs){bs:List Nat}(hO:ay bs w w')(hb:∀k,k∈bs->k<lo∨hi<=k∨N k):RXN w' N lo hi x cs:=
 h.keep λk h1 h2 hn h3=>hO.block k h3 λhm=>by
  rcases hb k hm with e | e | e
  ·omega
  ·omega
  exact hn e
end
theorem Bq(w:av)(vs:List (aI))(hv:∀v,v∈vs->v.length=6)(h0:0<vs.length)(hm:vs.length<=100){parts:Array (Nat×aw)}(hp:parts=(((vs.map λv=>Value.agg v.toArray).zipIdx 0).map λx=>(x.2,x.1)).toArray):
  ∃w',(au 38 vs.length parts).run aq w=.ok (Sl.v ⟨some ⟨w.heap.size,0,none⟩,vs.length,vs.length⟩) w'/\aF w' w.heap.size 40 vs.flatten/\ay [] w w':=by
 have hc:((vs.map λv=>Value.agg v.toArray).flatMap λv=>v.cells.toList)=vs.flatten:=by
  clear hv h0 hm hp
  induction vs with
  | nil=>rfl
  | cons v vs ih=>rw[bK,wJ,ih,dC];rfl
 have hs:Tryz.t40.size=6:=rfl;have ww:=run_buildSlice (P:=aq) w 38 40 vs.length parts ((vs.map λv=>Value.agg v.toArray).flatMap λv=>v.cells.toList).toArray Tryz.t40 _ (by kernel_rfl) (by kernel_rfl) rfl (by rw[hs];omega) (by rw[hs];omega)
  (by
   subst hp;rw[jg,hs];refine Go.Great.fill_whole (s:=6) aL (vs.map λv=>Value.agg v.toArray) _ (λv hm=>?_) ?_
   ·obtain⟨x,hx,rfl⟩:=gM.1 hm;have:=hv x hx;simpa[Value.cells]using this
   simp)
 rw[hc]at ww;exact⟨_,ww,Blk.alloc w _ _,Only.alloc _ _⟩
def exT(v:aw):Prop:=∃(k n:Int) (s:aH) (op:Int) (sl:Sl) (a:Int),v=ah (lf k n s op sl a).toArray
def qo(F G:aJ)(ts:List Tk)(w w':av)(b:Nat)(l sn:Sl)(d:Nat)(r:Pr)(v:aw):Prop:=ay [b] w w'/\match r with
 | .ok (x,j)=>∃cs,v=ah cs.toArray/\RX w' w.heap.size w'.heap.size x cs/\Rd F G ts w' b l sn j 0 0 (d:Int)
 | .error e=>e.1≠0/\exT v/\∃j,Rd F G ts w' b l sn j e.1 e.2 (d:Int)
section
variable {F G:aJ} {ts:List Tk} {w w':av} {b:Nat} {l sn:Sl} {i:Nat} {fc fa d:Int}
theorem fM:(fA ts i).1≠0:=by
 unfold fA;dsimp only;split<;>decide
theorem G7{d:Nat}(hd:d<=20)(h:Rd F G ts w b l sn i 0 0 (d:Int))(hi:i+1<ts.length){g:Nat}{z1 z2:aI}(hg:∀(x:Array aw) (w:av),(callFunc g x).run aq w=.ok (.enter g x) w)(f:OV)(hf:f.v=.func (.func g) z1.toArray z2.toArray){r:Pr}
  (hr:d≠20->∀w1,ay [b] w w1->Rd F G ts w1 b l sn (i+1) 0 0 ((d+1:Nat):Int)->az aq g (z1++z2).toArray w1 λe w'=>∃v,e=ak v/\qo F G ts w1 w' b l sn (d+1) r v):
  az aq 261 #[ae (some ⟨b,0,none⟩),f.v] w λe w'=>∃v,e=ak v/\qo F G ts w w' b l sn d (jh d (tk ts i).a r) v:=by
 refine akG ⟨b,0,none⟩ f (λv w'=>qo F G ts w w' b l sn d (jh d (tk ts i).a r) v) w ?_;intro k0 w0 hk tu cf;have hb:=h.lb;have h0:=h.only cf;refine⟨(d:Int),Blk.dN h0.blk 4 rfl,λhc=>(EG h0 21).mono ?_,λhc=>?_⟩
 ·have hc:d=20:=by have:(d:Int)=20:=aax;omega
  rintro _ w1 ⟨rfl,cn,hR⟩;rw[aV rfl,aV rfl]at hR;have z1:=cn.size;refine⟨rfl,cn.same aaf,λw2 cH=>⟨?_,?_⟩⟩
  ·exact((cf.weaken (bs':=[b]) λ_ h=>aaQ).trans cn λx hx=>.inl hx).new cH hk
  rw[jh,aV hc];exact⟨(by decide:(21:Int)≠0),⟨0,0,[],0,Sl.nil,0,rfl⟩,i,hR.own cH aaf⟩
 have hc:d≠20:=λe=>adl
 have OQ:=h.big;refine⟨(i:Int),Blk.dN h0.blk 1 rfl,b,1,_,_,rfl,h0.blk,aM,aE,λw3 cT sV=>?_⟩;rw[eY aE aE]at sV;have h3:Rd F G ts w3 b l sn (i+1) 0 0 (d:Int):=h0.jX cT sV hi;have z3:=cT.size;refine⟨(d:Int),Blk.dN h3.blk 4 rfl,b,4,_,_,rfl,h3.blk,aM,aE,λw4 dw pN=>?_⟩;rw[eY aE aE]at pN;have h4:Rd F G ts w4 b l sn (i+1) 0 0 ((d+1:Nat):Int):=h3.jX dw pN hi;have z4:=dw.size;have qz:ay [b] w w4:=((cf.weaken (bs':=[b]) λ_ h=>aaQ).trans cT λx hx=>.inl hx).trans dw λx hx=>.inl hx;refine⟨g,z1,z2,hf,hg,?_⟩;have e:A5 (A5 z1 []) z2=z1++z2:=by unfold A5;rw[bD]
 rw[e];refine(hr hc w4 qz h4).mono ?_;rintro _ w6 ⟨v,rfl,dK,hd⟩;have z6:=dK.size;rw[jh,aQ hc];have hv:∃(k n:Int) (s:aH) (op:Int) (sl:Sl) (a:Int),v=ah (lf k n s op sl a).toArray:=by
  cases r with
  | error e=>exact hd.2.1
  | ok q=>
   obtain⟨cs,rfl,hx,_⟩:=hd;obtain⟨sl,rfl,_⟩:=hx.cells;exact⟨_,_,_,_,_,_,rfl⟩
 obtain⟨vk,vn,vs,vo,vsl,va,rfl⟩:=hv;refine⟨_,_,_,_,_,_,rfl,dK.same aaf,λk8 w7 hk8 WI fK=>?_⟩;have z7:=fK.size;have key:∀{j:Nat} {fc fa:Int},Rd F G ts w6 b l sn j fc fa ((d+1:Nat):Int)->∃i7:Int,aB w7 (Addr.add ⟨b,0,none⟩ 4) [O U i7]/\∃k9 sw:Nat,∃z4:aI,∃qj:Nat,(Addr.add ⟨b,0,none⟩ 4)=⟨k9,sw,none⟩/\aF w7 k9 qj z4/\(sw+1)<=z4.length/\k0≠k9/\k8≠k9/\
   ∀w8:av,ay [k9] w7 w8->aF w8 k9 qj (cj z4 sw [O U (ar U (i7-1))])->∀w9:av,ay [k0] w8 w9->ay [b] w w9/\ay [b,k0] w6 w9/\Rd F G ts w9 b l sn j fc fa (d:Int):=fun{j fc fa} h6=>by
  have h7:=h6.only fK;refine⟨((d+1:Nat):Int),Blk.dN h7.blk 4 rfl,b,4,_,_,rfl,h7.blk,aM,aE,aE,λw8 fj wB w9 fG=>?_⟩;have ed:((d+1:Nat):Int)-1=d:=aE
  rw[ed,eY aE aE]at wB;have h8:Rd F G ts w8 b l sn j fc fa (d:Int):=h7.jX fj wB h7.lt;have ahS:ay [b,k0] w6 w9:=((fK.weaken (bs':=[b,k0]) λ_ h=>aaQ).trans fj λx hx=>.inl aaT).trans fG λx hx=>.inl aaT;exact⟨(qz.trans dK λx hx=>.inl hx).trans ahS (λx hx=>by
   simp only[ba,bp,cb]at hx;rcases hx with rfl | rfl
   ·exact .inl aM
   exact .inr hk),ahS,h8.own fG aaf⟩
 have hd2:=hd;cases r with
 | error e=>
  obtain⟨h1,h2,j,h3⟩:=hd2;obtain⟨i7,k1,k9,sw,z,qj,k2,k3,k4,k5,k6,k7⟩:=key h3;refine⟨i7,k1,k9,sw,z,qj,k2,k3,k4,k5,k6,λw8 fj wB w9 fG=>?_⟩;obtain⟨a1,a2,a3⟩:=k7 w8 fj wB w9 fG;exact⟨a1,h1,h2,j,a3⟩
 | ok q=>
  obtain⟨x,j⟩:=q;obtain⟨cs,h1,h2,h3⟩:=hd2;obtain⟨i7,k1,k9,sw,z,qj,k2,k3,k4,k5,k6,k7⟩:=key h3;refine⟨i7,k1,k9,sw,z,qj,k2,k3,k4,k5,k6,λw8 fj wB w9 fG=>?_⟩;obtain⟨a1,a2,a3⟩:=k7 w8 fj wB w9 fG;have z9:=a2.size;exact⟨a1,cs,h1,(h2.only a2 λk hk=>.inl (by simp only[ba,bp,cb]at hk;omega)).wide aE z9,a3⟩
end
end Go.Proofs.YtmgndgpgngcgpaaGreatDoor.Con
