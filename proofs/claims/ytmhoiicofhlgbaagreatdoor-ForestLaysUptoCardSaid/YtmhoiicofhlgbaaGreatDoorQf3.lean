import Derived.Test.YtmhoiicofhlgbaaGreatDoorQf2
set_option linter.unusedSectionVars false
namespace Go.Proofs.YtmhoiicofhlgbaaGreatDoor.Vc
open Go.Value renaming int->O,string->ab,pointer->ae,agg->ah,tuple->ai,bool->aj
open Go.IntKind renaming i64->U,wrap->ar
open Go.Ending renaming returned->ak
open _root_.ByteArray renaming mk->ao
open _root_.Go.Proofs.Tryz renaming prog->aq
open Go.Instr renaming buildSlice->au
open Go renaming World->av,Value->aw,Calls->az
open Go.Kt renaming Only->ay,SliceF->aA,Cells->aB,OnlyP->aD,Blk->aF
open Go Go.RowKit Go.Kt Go.Kt.V
set_option linter.unusedVariables false
set_option maxRecDepth 100000
set_option maxHeartbeats 40000000
abbrev Cr(f:FuncId)(a:Array aw)(w:av)(R:aG):Prop:=az aq f a w fun e w'=>∃v,e=ak v/\R v w'
theorem fB{f:FuncId}{an:Ann}{args:List SV}{R:aG}{w:av}{vs:Array aw}{vc:Prop}(h:vc)(hv:vs=(cp β0 args).toArray:=by kernel_rfl)(he:vc=Vfn aq f an args R w:=by kernel_rfl):Cr f vs w R:=aah Tryz.checked.mixed hv he h
theorem iJ{f:FuncId}{args:List SV}{R:aG}{w:av}{vs:Array aw}{vc:Prop}(h:vc)(hv:vs=(cp β0 args).toArray:=by kernel_rfl)(he:vc=Vfn aq f .o args R w:=by kernel_rfl):Cr f vs w R:=fB h hv he
theorem aam(s:aK)(R:aG)(w:av)(h:∀k0 k1 w0,w.heap.size<=k0->k0<w0.heap.size->w.heap.size<=k1->k1<w0.heap.size->ay [] w w0->az aq 72 #[ab s] w0 fun e0 w1=>∃l0:Sl,∃i0 i1,e0=(ak (ai #[l0.v,ah #[O U i0,O U i1]]))/\bS [k0,k1] w0 w1/\cy (i0 !=0) (nw w1 fun k2 w2=>k0≠k1->k0≠k2->k1≠k2->∃J0:aJ,J0 k2/\ux J0 k0/\ux J0 k1/\∀w3,ay [k1,k0] w2 w3->R (ai #[ah #[Sl.nil.v,O U 0,ab (ao #[]),ab (ao #[]),ab (ao #[]),Sl.nil.v,Sl.nil.v,Sl.nil.v,Sl.nil.v,O U 0],ah #[O U i0,O U i1]]) w3) (∀k3 k4 k5 w4,w1.heap.size<=k3->k3<w4.heap.size->w1.heap.size<=k4->k4<w4.heap.size->w1.heap.size<=k5->k5<w4.heap.size->ay [] w1 w4->fL (au 52 1 #[.mk 0 (ab (ao #[99,104,97,114,116]))]) w4 fun l1 w5=>bS [k0,k1,k3,k4,k5] w4 w5/\(aF w5 k4 133 [l0.v,O U 0,O U 0,O U 0,O U 16,O U 64,O U 12,O U 200,O U 400]->k0≠k4->k1≠k4->k3≠k4->k5≠k4->gy [k0,k1,k3,k5] 73 #[ae (some ⟨k4,0,none⟩),l1.v] w5 fun w6=>io w6 k4 133 fun l2 i2 i3 i4 i5 i6 i7 i8 i9=>az aq 74 #[ae (some ⟨k4,0,none⟩),O U 1] w6 fun e2 w7=>∃i10 s0 s1 s2,∃l3 l4 l5 l6:Sl,∃i11,e2=(ak (ah #[O U i10,ab s0,ab s1,ab s2,l3.v,l4.v,l5.v,l6.v,O U i11]))/\bS [k0,k1,k3,k5] w6 w7/\io w7 k4 133 fun l7 i12 i13 i14 i15 i16 i17 i18 i19=>∀w8,ay [k5] w7 w8->aF w8 k4 133 [l7.v,O U i12,O U i13,O U i14,O U i15,O U i16,O U i17,O U i18,O U i19]->fL (au 52 1 #[.mk 0 (ab (ao #[123]))]) w8 fun l8 w9=>bS [k0,k1,k3,k4,k5] w8 w9/\gy [k0,k1,k3,k5] 73 #[ae (some ⟨k4,0,none⟩),l8.v] w9 fun dw=>io dw k4 133 fun l9 i20 i21 i22 i23 i24 i25 i26 i27=>∃J1:Nat->Sl->Int->aK->aK->aK->Sl->Sl->Sl->Sl->Int->Sl->Int->Int->Int->Int->Int->Int->Int->Int->av->Prop,∃k6:Nat,J1 k6 Sl.nil i10 s0 s1 s2 l3 l4 l5 l6 i11 l9 i20 i21 i22 i23 i24 i25 i26 i27 dw/\∀k7,∀l10:Sl,∀i28 s3 s4 s5,∀uk uQ BX GA:Sl,∀i29,∀LV:Sl,∀i30 i31 i32 i33 i34 i35 i36 i37 dJ,J1 k7 l10 i28 s3 s4 s5 uk uQ BX GA i29 LV i30 i31 i32 i33 i34 i35 i36 i37 dJ->fL (au 52 1 #[.mk 0 (ab (ao #[118,97,114]))]) dJ fun W6 eM=>bS [k0,k1,k3,k4,k5] dJ eM/\rj [k0,k1,k3,k5] 75 #[ae (some ⟨k4,0,none⟩),W6.v] eM fun i38 eU=>io eU k4 133 fun W7 i39 i40 i41 i42 i43 i44 i45 i46=>cy (decide (i38>0)) (∀fM,ay [] eU fM->aF fM k4 133 [W7.v,O U i39,O U i40,O U i41,O U i42,O U i43,O U i44,O U i45,O U i46]->∃J2:aJ,J2 k5/\az aq 76 #[ae (some ⟨k4,0,none⟩)] fM fun e5 iy=>∃s6 i47 i48,e5=(ak (ah #[ab s6,O U i47,O U i48]))/\bS [k0,k1,k3,k5] fM iy/\io iy k4 133 fun UW i49 i50 i51 i52 i53 i54 i55 i56=>bO J2 fM iy/\fL (au 22 1 #[.mk 0 (ah #[ab s6,O U i47,O U i48])]) iy fun W8 jK=>bS [k0,k1,k3,k4,k5] iy jK/\bO J2 iy jK/\fL (Builtin.append_ #[22,22] 22 #[l10.v,W8.v]) jK fun Tl iZ=>bS [k0,k1,k3,k4,k5] jK iZ/\bO J2 jK iZ/\∀jM,ay [k5] iZ jM->aF jM k4 133 [UW.v,O U i49,O U i50,O U i51,O U i52,O U i53,O U i54,O U i55,O U i56]->nx k7 fun k8=>J1 k8 Tl i28 s3 s4 s5 uk uQ BX GA i29 UW i49 i50 i51 i52 i53 i54 i55 i56 jM) (aF eU k5 29 [l10.v,O U i28,ab s3,ab s4,ab s5,uk.v,uQ.v,BX.v,GA.v,O U i29]->k0≠k5->k1≠k5->k3≠k5->gy [k0,k1,k3] 77 #[ae (some ⟨k4,0,none⟩),ae (some ⟨k5,1,none⟩)] eU fun kf=>io kf k4 133 fun Y5 i57 i58 i59 i60 i61 i62 i63 i64=>nK kf k5 29 fun l22 i65 s7 s8 s9 l23 l24 l25 l26 i66=>∃J3:Sl->Int->aK->aK->aK->Sl->Sl->Sl->Sl->Int->Sl->Int->Int->Int->Int->Int->Int->Int->Int->av->Prop,(∀l27:Sl,∀i67 Ms Kv Tm,∀l28 l29 l30 l31:Sl,∀i68,∀l32:Sl,∀i69 i70 i71 i72 i73 i74 i75 i76 jL,J3 l27 i67 Ms Kv Tm l28 l29 l30 l31 i68 l32 i69 i70 i71 i72 i73 i74 i75 i76 jL->kP [k0,k1,k3] 78 #[ae (some ⟨k4,0,none⟩)] jL fun b0 mX=>io mX k4 133 fun l33 i77 i78 i79 i80 i81 i82 i83 i84=>nK mX k5 29 fun l34 i85 Y6 Y7 UX l35 l36 l37 l38 i86=>cy (!b0) (∀qS,ay [] mX qS->aF qS k4 133 [l33.v,O U i77,O U i78,O U i79,O U i80,O U i81,O U i82,O U i83,O U i84]->aF qS k5 29 [l34.v,O U i85,ab Y6,ab Y7,ab UX,l35.v,l36.v,l37.v,l38.v,O U i86]->k0≠k1->k0≠k3->k0≠k4->k0≠k5->k1≠k3->k1≠k4->k1≠k5->k3≠k4->k3≠k5->k4≠k5->∃J4:aJ,J4 k4/\ux J4 k0/\ux J4 k1/\∀rh,ay [k1,k0] qS rh->aF rh k4 133 [l33.v,O U i77,O U i78,O U i79,O U i80,O U i81,O U i82,O U i83,O U i84]->aF rh k5 29 [l34.v,O U i85,ab Y6,ab Y7,ab UX,l35.v,l36.v,l37.v,l38.v,O U i86]->R (ai #[ah #[Sl.nil.v,O U 0,ab (ao #[]),ab (ao #[]),ab (ao #[]),Sl.nil.v,Sl.nil.v,Sl.nil.v,Sl.nil.v,O U 0],ah #[O U i78,O U i79]]) rh) (∀tG,ay [k1,k0] mX tG->aF tG k4 133 [l33.v,O U i77,O U i78,O U i79,O U i80,O U i81,O U i82,O U i83,O U i84]->aF tG k5 29 [l34.v,O U i85,ab Y6,ab Y7,ab UX,l35.v,l36.v,l37.v,l38.v,O U i86]->R (ai #[ah #[l34.v,O U i85,ab Y6,ab Y7,ab UX,l35.v,l36.v,l37.v,l38.v,O U i86],ah #[O U 0,O U 0]]) tG))/\∃J5:Bool->Sl->Int->aK->aK->aK->Sl->Sl->Sl->Sl->Int->Sl->Int->Int->Int->Int->Int->Int->Int->Int->av->Prop,(∀b1,∀l39:Sl,∀i87 UY Y8 s18,∀l40 l41 l42 l43:Sl,∀i88,∀l44:Sl,∀i89 i90 i91 i92 i93 i94 i95 i96 po,J5 b1 l39 i87 UY Y8 s18 l40 l41 l42 l43 i88 l44 i89 i90 i91 i92 i93 i94 i95 i96 po->cy b1 (gy [k0,k1,k3] 79 #[ae (some ⟨k4,0,none⟩)] po fun qT=>io qT k4 133 fun l45 i97 i98 i99 i100 i101 i102 i103 i104=>nK qT k5 29 fun l46 i105 s19 s20 s21 l47 l48 l49 l50 i106=>J3 l46 i105 s19 s20 s21 l47 l48 l49 l50 i106 l45 i97 i98 i99 i100 i101 i102 i103 i104 qT) (J3 l39 i87 UY Y8 s18 l40 l41 l42 l43 i88 l44 i89 i90 i91 i92 i93 i94 i95 i96 po))/\∀tW,ay [] kf tW->aF tW k4 133 [Y5.v,O U i57,O U i58,O U i59,O U i60,O U i61,O U i62,O U i63,O U i64]->aF tW k5 29 [l22.v,O U i65,ab s7,ab s8,ab s9,l23.v,l24.v,l25.v,l26.v,O U i66]->kP [k0,k1,k3] 78 #[ae (some ⟨k4,0,none⟩)] tW fun b2 wY=>io wY k4 133 fun l51 i107 i108 i109 i110 i111 i112 i113 i114=>nK wY k5 29 fun l52 i115 s22 s23 s24 l53 l54 l55 l56 i116=>cy b2 (∃p0,dl l51 i107 4 p0/\iz wY (p0.add 0) fun i117=>J5 (i117 !=5) l52 i115 s22 s23 s24 l53 l54 l55 l56 i116 l51 i107 i108 i109 i110 i111 i112 i113 i114 wY) (J5 false l52 i115 s22 s23 s24 l53 l54 l55 l56 i116 l51 i107 i108 i109 i110 i111 i112 i113 i114 wY))))):Cr 34 #[ab s] w R:=
 fB (an:=.d 8 (.s (.j [2,3,5,6,7,22] [.b 7 [.sl,.int .i64,.str,.str,.str,.sl,.sl,.sl,.sl,.int .i64],.b 22 [.sl,.int .i64,.int .i64,.int .i64,.int .i64,.int .i64,.int .i64,.int .i64,.int .i64]] .o .o) (.s .o (.j [2,3,5,6,7,22] [.b 7 [.sl,.int .i64,.str,.str,.str,.sl,.sl,.sl,.sl,.int .i64],.b 22 [.sl,.int .i64,.int .i64,.int .i64,.int .i64,.int .i64,.int .i64,.int .i64,.int .i64]] (.s (.j [2,3,5,6,7,22] [.s 71 .bool,.b 7 [.sl,.int .i64,.str,.str,.str,.sl,.sl,.sl,.sl,.int .i64],.b 22 [.sl,.int .i64,.int .i64,.int .i64,.int .i64,.int .i64,.int .i64,.int .i64,.int .i64]] .o .o) .o) .o)))) (args:=[.str s]) h
theorem aan(s:aK)(R:aG)(w:av)(h:cy (decide ((s.size:Int)>16384)) (nw w fun k0 w0=>R (ai #[Sl.nil.v,ah #[O U 2,O U (-1)]]) w0) (nw w fun k1 w1=>AQ [k1] 133 #[] w1 fun l0 w2=>nw w2 fun k2 w3=>aF w3 k2 198 [ab s,O U 0,l0.v,Sl.nil.v]->gy [k1] 134 #[ae (some ⟨k2,0,none⟩)] w3 fun w4=>zq w4 k2 198 fun s0 i0 l1 l2=>∃J0:Nat->Int->Int->aK->Int->Sl->Sl->av->Prop,∃k3:Nat,J0 k3 0 0 s0 i0 l1 l2 w4/\∀k4 i1 i2 s1 i3,∀l3 l4:Sl,∀w5,J0 k4 i1 i2 s1 i3 l3 l4 w5->kP [k1] 135 #[ae (some ⟨k2,0,none⟩)] w5 fun b0 w6=>zq w6 k2 198 fun s2 i4 l5 l6=>cy (!b0) (rj [k1] 136 #[ae (some ⟨k2,0,none⟩)] w6 fun i5 w7=>zq w7 k2 198 fun s3 i6 l7 l8=>cy (i5 !=0) (∀w8,ay [k1] w7 w8->aF w8 k2 198 [ab s3,O U i6,l7.v,l8.v]->R (ai #[Sl.nil.v,ah #[O U i5,O U i6]]) w8) (gy [k1] 134 #[ae (some ⟨k2,0,none⟩)] w7 fun w9=>zq w9 k2 198 fun s4 i7 l9 l10=>nx k4 fun k5=>J0 k5 i1 i2 s4 i7 l9 l10 w9)) (gy [k1] 137 #[ae (some ⟨k2,0,none⟩),ah #[O U 5,ab (ao #[]),O U 0,O U 0],O U 0] w6 fun dw=>zq dw k2 198 fun s5 i8 uk uQ=>∀dJ,ay [k1] dw dJ->aF dJ k2 198 [ab s5,O U i8,uk.v,uQ.v]->R (ai #[uQ.v,ah #[O U 0,O U 0]]) dJ))):Cr 72 #[ab s] w R:=
 fB (an:=.d 3 (.s (.s .o (.j [3,4,14] [.b 3 [.int .i64,.int .i64],.b 14 [.str,.int .i64,.sl,.sl]] .o .o)) .o)) (args:=[.str s]) h
theorem aao(R:aG)(w:av)(h:∃l0:Sl,∃w0,((au 52 16 #[.mk 0 (ab (ao #[97,102,116,101,114])),.mk 1 (ab (ao #[97,108,119,97,121,115])),.mk 2 (ab (ao #[99,104,97,114,116])),.mk 3 (ab (ao #[100,101,101,112])),.mk 4 (ab (ao #[101,109,105,116])),.mk 5 (ab (ao #[101,110,116,101,114])),.mk 6 (ab (ao #[104,105,115,116,111,114,121])),.mk 7 (ab (ao #[105,110])),.mk 8 (ab (ao #[105,110,105,116,105,97,108])),.mk 9 (ab (ao #[108,101,97,118,101])),.mk 10 (ab (ao #[111,110])),.mk 11 (ab (ao #[112,97,114,97,108,108,101,108])),.mk 12 (ab (ao #[114,97,105,115,101])),.mk 13 (ab (ao #[115,101,116])),.mk 14 (ab (ao #[115,116,97,116,101])),.mk 15 (ab (ao #[118,97,114]))]).run aq w)=(.ok l0.v w0)/\R l0.v w0):Cr 133 #[] w R:=
 iJ (args:=[]) h
theorem aap(c:Addr)(R:aG)(w:av)(h:lp0 w fun J0 k1 w0=>cB 135 #[ae (some c)] w0 fun b0 w1=>cy (!b0) (IV w1 (c.add 0) fun s0=>iz w1 (c.add 1) fun i0=>∃c0:UInt8,(0<=i0/\(s0[Int.toNat i0]?)=(some c0))/\∀w2,ay [] w1 w2->fL (au 68 4 #[.mk 0 (.int .u8 9),.mk 1 (.int .u8 10),.mk 2 (.int .u8 13),.mk 3 (.int .u8 32)]) w2 fun l0 w3=>cB 200 #[.int .u8 (UInt8.toNat c0:Int),l0.v] w3 fun b1 w4=>cy b1 (iz w4 (c.add 1) fun i1=>∃k3 k4:Nat,∃z0,∃k5:Nat,(c.add 1)=⟨k3,k4,none⟩/\aF w4 k3 k5 z0/\(k4+1)<=z0.length/\∀w5,ay [k3] w4 w5->aF w5 k3 k5 (ca z0 k4 [O U (ar U (i1+1))])->nx k1 fun k6=>J0 k6 w5) (cS 201 #[ae (some c)] w4 fun s2 w6=>cB 147 #[ab s2,ab (ao #[47,47])] w6 fun b2 w7=>cy b2 (cS 201 #[ae (some c)] w7 fun s3 w8=>az aq 202 #[ab s3,ab (ao #[10])] w8 fun e5 w9=>∃s4 s5 b3,e5=(ak (ai #[ab s4,ab s5,aj b3]))/\iz w9 (c.add 1) fun i2=>∃k7 k8:Nat,∃z1,∃k9:Nat,(c.add 1)=⟨k7,k8,none⟩/\aF w9 k7 k9 z1/\(k8+1)<=z1.length/\∀dw,ay [k7] w9 dw->aF dw k7 k9 (ca z1 k8 [O U (ar U (i2+(s4.size:Int)))])->nx k1 fun rr=>J0 rr dw) (R (ai #[]) w7))) (R (ai #[]) w1)):Cr 134 #[ae (some c)] w R:=
 fB (an:=.j [0] [] .o .o) (args:=[.ad c]) h
theorem aaq(c:Addr)(R:aG)(w:av)(h:iz w (c.add 1) fun i0=>IV w (c.add 0) fun s0=>∀w0,ay [] w w0->R (aj (decide (i0>=(s0.size:Int)))) w0):Cr 135 #[ae (some c)] w R:=
 iJ (args:=[.ad c]) h
theorem aar(c:Int)(of_:Sl)(R:aG)(w:av)(h:cB 249 #[of_.v,.int .u8 c] w fun b0 w0=>R (aj b0) w0):Cr 200 #[.int .u8 c,of_.v] w R:=
 iJ (args:=[.int .u8 c,.sl of_]) h
theorem aas(s:Sl)(v1:Int)(R:aG)(w:av)(h:cI 284 #[s.v,.int .u8 v1] w fun i0 w0=>R (aj (decide (i0>=0))) w0):Cr 249 #[s.v,.int .u8 v1] w R:=
 iJ (args:=[.sl s,.int .u8 v1]) h
theorem aat(s:Sl)(v1:Int)(R:aG)(w:av)(h:pB 0 w fun J0 k1 i0 w0=>cy (decide (i0<(s.n:Int))) (∃p0,dl s i0 1 p0/\∃i1,aB w0 p0 [.int .u8 i1]/\cy (v1==i1) (R (O U i0) w0) (nx k1 fun k2=>J0 k2 (ar U (i0+1)) w0)) (R (O U (-1)) w0)):Cr 284 #[s.v,.int .u8 v1] w R:=
 fB (an:=.s .o (.s (.s .o (.j [0,1,7] [.s 8 (.int .i64)] .o .o)) .o)) (args:=[.sl s,.int .u8 v1]) h
theorem aau(c:Addr)(R:aG)(w:av)(h:IV w (c.add 0) fun s0=>iz w (c.add 1) fun i0=>∃k0:Nat,(i0=(k0:Int)/\k0<=s0.size)/\∀w0,ay [] w w0->R (ab (s0.extract k0 s0.size)) w0):Cr 201 #[ae (some c)] w R:=
 iJ (args:=[.ad c]) h
theorem aav(s mH:aK)(R:aG)(w:av)(h:cB 214 #[ab s,ab mH] w fun b0 w0=>R (aj b0) w0):Cr 147 #[ab s,ab mH] w R:=
 iJ (args:=[.str s,.str mH]) h
theorem af6(s mH:aK)(R:aG)(w:av)(h:∃k0:Nat,((decide ((s.size:Int)>=(mH.size:Int)))=true->(mH.size:Int)=(k0:Int)/\k0<=s.size)/\R (aj ((decide ((s.size:Int)>=(mH.size:Int)))&&(((s.extract 0 k0).toList)==mH.toList))) w):Cr 214 #[ab s,ab mH] w R:=
 iJ (args:=[.str s,.str mH]) h
theorem aaw(s sep:aK)(R:aG)(w:av)(h:az aq 250 #[ab s,ab sep] w fun e0 w0=>∃s0 s1 b0,e0=(ak (ai #[ab s0,ab s1,aj b0]))/\R (ai #[ab s0,ab s1,aj b0]) w0):Cr 202 #[ab s,ab sep] w R:=
 iJ (args:=[.str s,.str sep]) h
theorem af7(s sep:aK)(R:aG)(w:av)(h:cI 228 #[ab s,ab sep] w fun i0 w0=>cy (decide (i0>=0)) (∃k0:Nat,(i0=(k0:Int)/\k0<=s.size)/\∃k1:Nat,((ar U (i0+(sep.size:Int)))=(k1:Int)/\k1<=s.size)/\∀w1,ay [] w0 w1->R (ai #[ab (s.extract 0 k0),ab (s.extract k1 s.size),aj true]) w1) (R (ai #[ab s,ab (ao #[]),aj false]) w0)):Cr 250 #[ab s,ab sep] w R:=
 iJ (args:=[.str s,.str sep]) h
theorem aax(c:Addr)(R:aG)(w:av)(h:IV w ((c.add 0).add 0) fun s0=>iz w ((c.add 0).add 1) fun i0=>∃c0:UInt8,(0<=i0/\(s0[Int.toNat i0]?)=(some c0))/\∀w0,ay [] w w0->cB 152 #[.int .u8 (UInt8.toNat c0:Int)] w0 fun b0 w1=>cy b0 (cI 203 #[ae (some c)] w1 fun i1 w2=>R (O U i1) w2) (cB 204 #[.int .u8 (UInt8.toNat c0:Int)] w1 fun b1 w3=>cy b1 (cI 205 #[ae (some c)] w3 fun i2 w4=>R (O U i2) w4) (cI 206 #[ae (some c)] w3 fun i3 w5=>R (O U i3) w5))):Cr 136 #[ae (some c)] w R:=
 iJ (args:=[.ad c]) h
theorem aay(c:Int)(R:aG)(w:av)(h:R (aj (((decide (97<=(bits .or .u8 c 32)))&&(decide ((bits .or .u8 c 32)<=122)))||(c==95))) w):Cr 152 #[.int .u8 c] w R:=
 iJ (args:=[.int .u8 c]) h
theorem aaz(c:Addr)(R:aG)(w:av)(h:cS 153 #[ae (some (c.add 0))] w fun s0 w0=>cy (decide ((s0.size:Int)>24)) (R (O U 2) w0) (qp (fun i0 w1=>cS 251 #[ab s0] w1 fun s1 w2=>cU 137 #[ae (some c),ah #[O U i0,ab s1,O U 0,O U 0],O U (s0.size:Int)] w2 fun w3=>R (O U 0) w3) fun J0=>oJ w0 (c.add 2) fun l0=>cB 154 #[l0.v,ab s0] w0 fun b0 w4=>cy b0 (J0 2 w4) (J0 1 w4))):Cr 203 #[ae (some c)] w R:=
 fB (an:=.d 4 (.j [0,3] [.s 4 (.int .i64)] .o .o)) (args:=[.ad c]) h
theorem aaA(c:Addr)(R:aG)(w:av)(h:cS 201 #[ae (some c)] w fun s0 w0=>pB 0 w0 fun J0 k1 i0 w1=>qp (fun b0 w2=>cy b0 (nx k1 fun k2=>J0 k2 (ar U (i0+1)) w2) (∃k3:Nat,(i0=(k3:Int)/\k3<=s0.size)/\R (ab (s0.extract 0 k3)) w2)) fun J1=>cy (decide (i0<(s0.size:Int))) (∃c0:UInt8,(0<=i0/\(s0[Int.toNat i0]?)=(some c0))/\cB 152 #[.int .u8 (UInt8.toNat c0:Int)] w1 fun b1 w3=>cy b1 (J1 true w3) (∃c1:UInt8,(0<=i0/\(s0[Int.toNat i0]?)=(some c1))/\cB 204 #[.int .u8 (UInt8.toNat c1:Int)] w3 fun b2 w4=>J1 b2 w4)) (J1 false w1)):Cr 153 #[ae (some c)] w R:=
 fB (an:=.d 3 (.s (.j [3] [.s 4 (.int .i64)] (.s (.s (.j [3,4] [.s 22 .bool] .o .o) .o) .o) .o) .o)) (args:=[.ad c]) h
theorem aaB(c:Int)(R:aG)(w:av)(h:R (aj ((decide (48<=c))&&(decide (c<=57)))) w):Cr 204 #[.int .u8 c] w R:=
 iJ (args:=[.int .u8 c]) h
theorem aaC(s:Sl)(v1:aK)(R:aG)(w:av)(h:cI 207 #[s.v,ab v1] w fun i0 w0=>R (aj (decide (i0>=0))) w0):Cr 154 #[s.v,ab v1] w R:=
 iJ (args:=[.sl s,.str v1]) h
theorem T8(s:Sl)(v1:aK)(R:aG)(w:av)(h:pB 0 w fun J0 k1 i0 w0=>cy (decide (i0<(s.n:Int))) (EP s i0 w0 fun s0=>cy (v1.toList==s0.toList) (R (O U i0) w0) (nx k1 fun k2=>J0 k2 (ar U (i0+1)) w0)) (R (O U (-1)) w0)):Cr 207 #[s.v,ab v1] w R:=
 fB (an:=.s .o (.s (.s .o (.j [0,1,7] [.s 8 (.int .i64)] .o .o)) .o)) (args:=[.sl s,.str v1]) h
theorem T9(s:aK)(R:aG)(w:av)(h:cS 285 #[ab s] w fun s0 w0=>R (ab s0) w0):Cr 251 #[ab s] w R:=
 iJ (args:=[.str s]) h
theorem aaD(c:Addr)(t:Int)(t1:aK)(t2 t3 n_:Int)(R:aG)(w:av)(h:nw w fun k0 w0=>iz w0 ((c.add 0).add 1) fun i0=>∀w1,ay [k0] w0 w1->∃J0:aJ,J0 ((c.add 3).block)/\oJ w1 (c.add 3) fun l0=>fL (au 124 1 #[.mk 0 (ah #[O U t,ab t1,O U t2,O U i0])]) w1 fun l1 w2=>bS [k0] w1 w2/\bO J0 w1 w2/\fL (Builtin.append_ #[124,124] 124 #[l0.v,l1.v]) w2 fun l2 w3=>bS [k0] w2 w3/\bO J0 w2 w3/\∃k1 k2:Nat,∃z0,∃k3:Nat,(c.add 3)=⟨k1,k2,none⟩/\aF w3 k1 k3 z0/\(k2+1)<=z0.length/\k0≠k1/\∀w4,ay [k1] w3 w4->aF w4 k1 k3 (ca z0 k2 [l2.v])->iz w4 ((c.add 0).add 1) fun i1=>∃k4 k5:Nat,∃z1,∃k6:Nat,((c.add 0).add 1)=⟨k4,k5,none⟩/\aF w4 k4 k6 z1/\(k5+1)<=z1.length/\k0≠k4/\∀w5,ay [k4] w4 w5->aF w5 k4 k6 (ca z1 k5 [O U (ar U (i1+n_))])->R (ai #[]) w5):Cr 137 #[ae (some c),ah #[O U t,ab t1,O U t2,O U t3],O U n_] w R:=
 iJ (args:=[.ad c,.agg (j5 [.int .i64 t,.str t1,.int .i64 t2,.int .i64 t3]),.int .i64 n_]) h
theorem aaE(c:Addr)(R:aG)(w:av)(h:cS 201 #[ae (some (c.add 0))] w fun s0 w0=>az aq 252 #[ab s0] w0 fun e1 w1=>∃i0 i1 i2,e1=(ak (ai #[O U i0,O U i1,O U i2]))/\cy (i2 !=0) (R (O U i2) w1) (cS 153 #[ae (some (c.add 0))] w1 fun s1 w2=>cy (decide ((s1.size:Int)>i1)) (R (O U 4) w2) (cU 137 #[ae (some c),ah #[O U 3,ab (ao #[]),O U i0,O U 0],O U i1] w2 fun w3=>R (O U 0) w3))):Cr 205 #[ae (some c)] w R:=
 iJ (args:=[.ad c]) h
theorem v0w(s:aK)(R:aG)(w:av)(h:pB 0 w fun J0 k1 i0 w0=>qp (fun b0 w1=>cy b0 (nx k1 fun k2=>J0 k2 (ar U (i0+1)) w1) (cy (s.toList==((ao #[]).toList)) (R (ai #[O U 0,O U 0,O U 3]) w1) (qp (fun b1 w2=>cy b1 (R (ai #[O U 0,O U 0,O U 4]) w2) (∃k3:Nat,(i0=(k3:Int)/\k3<=s.size)/\az aq 287 #[ab (s.extract 0 k3),O U 10,O U 64] w2 fun e0 w3=>∃i1,∃v0:OV,e0=(ak (ai #[O U i1,v0.v]))/\ZZ v0.v/\cy (!(niV v0.v)) (R (ai #[O U 0,O U 0,O U 20]) w3) (R (ai #[O U i1,O U i0,O U 0]) w3))) fun J2=>cy (i0==0) (J2 (i0==0) w1) (∃c0:UInt8,((decide (i0>1))=true->(0:Int)<=0/\s[0]? =(some c0))/\J2 ((decide (i0>1))&&((UInt8.toNat c0:Int)==48)) w1)))) fun J1=>cy (decide (i0<(s.size:Int))) (∃c1:UInt8,(0<=i0/\(s[Int.toNat i0]?)=(some c1))/\cB 286 #[.int .u8 (UInt8.toNat c1:Int)] w0 fun b2 w4=>J1 b2 w4) (J1 false w0)):Cr 252 #[ab s] w R:=
 fB (an:=.d 2 (.s (.j [0] [.s 5 (.int .i64)] (.s (.s (.j [0,5] [.s 17 .bool] .o .o) .o) .o) .o) (.s (.d 2 (.j [0,5] [.s 23 .bool] .o .o)) .o))) (args:=[.str s]) h
theorem v2w(c:Int)(R:aG)(w:av)(h:R (aj (decide ((ar .u8 (c-48))<10))) w):Cr 286 #[.int .u8 c] w R:=
 iJ (args:=[.int .u8 c]) h
theorem aaF(c:Addr)(R:aG)(w:av)(h:cS 201 #[ae (some (c.add 0))] w fun s0 w0=>qp (fun i0 w1=>qp (fun i1 w2=>cy (i1==0) (R (O U 4) w2) (∃k0:Nat,(i1=(k0:Int)/\k0<=s0.size)/\cS 251 #[ab (s0.extract 0 k0)] w2 fun s1 w3=>cU 137 #[ae (some c),ah #[O U 4,ab s1,O U 0,O U 0],O U i1] w3 fun w4=>R (O U 0) w4)) fun J1=>qp (fun b0 w5=>cy b0 (J1 2 w5) (J1 i0 w5)) fun J2=>cy (decide ((s0.size:Int)>1)) (∃c0:UInt8,((0:Int)<=1/\s0[1]? =(some c0))/\cy ((UInt8.toNat c0:Int)==61) (∃c1:UInt8,((0:Int)<=0/\s0[0]? =(some c1))/\∀w6,ay [] w1 w6->fL (au 68 4 #[.mk 0 (.int .u8 60),.mk 1 (.int .u8 62),.mk 2 (.int .u8 61),.mk 3 (.int .u8 33)]) w6 fun l0 w7=>cB 200 #[.int .u8 (UInt8.toNat c1:Int),l0.v] w7 fun b1 w8=>cy b1 (J2 true w8) (∃c2:UInt8,((0:Int)<=1/\s0[1]? =(some c2))/\∃c3:UInt8,((0:Int)<=0/\s0[0]? =(some c3))/\cy ((UInt8.toNat c2:Int)==(UInt8.toNat c3:Int)) (∃c4:UInt8,((0:Int)<=0/\s0[0]? =(some c4))/\fL (au 68 2 #[.mk 0 (.int .u8 38),.mk 1 (.int .u8 124)]) w8 fun l1 w9=>cB 200 #[.int .u8 (UInt8.toNat c4:Int),l1.v] w9 fun b2 dw=>cy b2 (J2 true dw) (2<=s0.size/\J2 (((s0.extract 0 2).toList)==((ao #[45,62]).toList)) dw)) (2<=s0.size/\J2 (((s0.extract 0 2).toList)==((ao #[45,62]).toList)) w8))) (∃c5:UInt8,((0:Int)<=1/\s0[1]? =(some c5))/\∃c6:UInt8,((0:Int)<=0/\s0[0]? =(some c6))/\cy ((UInt8.toNat c5:Int)==(UInt8.toNat c6:Int)) (∃c7:UInt8,((0:Int)<=0/\s0[0]? =(some c7))/\∀dJ,ay [] w1 dJ->fL (au 68 2 #[.mk 0 (.int .u8 38),.mk 1 (.int .u8 124)]) dJ fun l2 eM=>cB 200 #[.int .u8 (UInt8.toNat c7:Int),l2.v] eM fun b3 eU=>cy b3 (J2 true eU) (2<=s0.size/\J2 (((s0.extract 0 2).toList)==((ao #[45,62]).toList)) eU)) (2<=s0.size/\∀fM,ay [] w1 fM->J2 (((s0.extract 0 2).toList)==((ao #[45,62]).toList)) fM))) (∀iy,ay [] w1 iy->J2 false iy)) fun J0=>∃c8:UInt8,((0:Int)<=0/\s0[0]? =(some c8))/\fL (au 68 17 #[.mk 0 (.int .u8 123),.mk 1 (.int .u8 125),.mk 2 (.int .u8 40),.mk 3 (.int .u8 41),.mk 4 (.int .u8 91),.mk 5 (.int .u8 93),.mk 6 (.int .u8 59),.mk 7 (.int .u8 44),.mk 8 (.int .u8 61),.mk 9 (.int .u8 43),.mk 10 (.int .u8 45),.mk 11 (.int .u8 42),.mk 12 (.int .u8 47),.mk 13 (.int .u8 37),.mk 14 (.int .u8 60),.mk 15 (.int .u8 62),.mk 16 (.int .u8 33)]) w0 fun l3 jK=>fL (convert 68 68 l3.v) jK fun l4 iZ=>cB 200 #[.int .u8 (UInt8.toNat c8:Int),l4.v] iZ fun b4 jM=>cy b4 (J0 1 jM) (J0 0 jM)):Cr 206 #[ae (some c)] w R:=
 fB (an:=.d 3 (.j [0,3] [.s 4 (.int .i64)] .o (.j [0,3] [.s 4 (.int .i64)] (.s (.j [0,3,4] [.s 45 .bool] .o .o) .o) .o))) (args:=[.ad c]) h
theorem aaG(c:Addr)(texts:Sl)(R:aG)(w:av)(h:pB 0 w fun J0 k1 i0 w0=>cy (decide (i0<(texts.n:Int))) (Gs (fun w1=>nx k1 fun k2=>J0 k2 (ar U (i0+1)) w1) fun J1=>EP texts i0 w0 fun s0=>fL (au 52 1 #[.mk 0 (ab s0)]) w0 fun l0 w2=>cI 75 #[ae (some c),l0.v] w2 fun i1 w3=>cy (i1==0) (cU 79 #[ae (some c)] w3 fun w4=>J1 w4) (J1 w3)) (R (ai #[]) w0)):Cr 73 #[ae (some c),texts.v] w R:=
 fB (an:=.s .o (.j [0,6,7] [.s 8 (.int .i64)] (.d 2 (.j [0,6,7,8] [] .o .o)) .o)) (args:=[.ad c,.sl texts]) h
theorem aaH(c:Addr)(texts:Sl)(R:aG)(w:av)(h:cI 141 #[ae (some c),texts.v] w fun i0 w0=>Gs (fun w1=>R (O U i0) w1) fun J0=>cy (decide (i0>0)) (iz w0 (c.add 1) fun i1=>∃k0 k1:Nat,∃z0,∃k2:Nat,(c.add 1)=⟨k0,k1,none⟩/\aF w0 k0 k2 z0/\(k1+1)<=z0.length/\∀w2,ay [k0] w0 w2->aF w2 k0 k2 (ca z0 k1 [O U (ar U (i1+1))])->J0 w2) (J0 w0)):Cr 75 #[ae (some c),texts.v] w R:=
 fB (an:=.d 2 (.j [5] [] .o .o)) (args:=[.ad c,.sl texts]) h
theorem aaI(c:Addr)(texts:Sl)(R:aG)(w:av)(h:∀w0,ay [] w w0->∃J0:aJ,J0 ((c.add 0).block)/\oJ w0 (c.add 0) fun l0=>J0 ((c.add 1).block)/\iz w0 (c.add 1) fun i0=>∃p0,dl l0 i0 4 p0/\J0 p0.block/\CH w0 p0 fun i1 s0 i2 i3=>nw w0 fun k0 w1=>kP [k0] 78 #[ae (some c)] w1 fun b0 w2=>cy ((!b0)||((i1 !=2)&&(i1 !=4))) (R (O U 0) w2) (rj [k0] 207 #[texts.v,ab s0] w2 fun i4 w3=>R (O U (ar U (i4+1))) w3)):Cr 141 #[ae (some c),texts.v] w R:=
 iJ (args:=[.ad c,.sl texts]) h
theorem aaJ(c:Addr)(R:aG)(w:av)(h:iz w ((c.add 2).add 0) fun i0=>R (aj (i0==0)) w):Cr 78 #[ae (some c)] w R:=
 iJ (args:=[.ad c]) h
theorem aaK(c:Addr)(R:aG)(w:av)(h:Gs (fun w0=>cU 139 #[ae (some c),O U 4] w0 fun w1=>R (ai #[]) w1) fun J0=>oJ w (c.add 0) fun l0=>iz w (c.add 1) fun i0=>∃p0,dl l0 i0 4 p0/\iz w (p0.add 0) fun i1=>cy (i1==5) (∀w2,ay [] w w2->cU 139 #[ae (some c),O U 3] w2 fun w3=>J0 w3) (∀w4,ay [] w w4->J0 w4)):Cr 79 #[ae (some c)] w R:=
 fB (an:=.j [0] [] .o .o) (args:=[.ad c]) h
theorem aaL(c:Addr)(err:Int)(R:aG)(w:av)(h:cB 78 #[ae (some c)] w fun b0 w0=>cy b0 (∀w1,ay [] w0 w1->oJ w1 (c.add 0) fun l0=>iz w1 (c.add 1) fun i0=>∃p0,dl l0 i0 4 p0/\iz w1 (p0.add 3) fun i1=>∃k0 k1:Nat,∃z0,∃k2:Nat,(c.add 2)=⟨k0,k1,none⟩/\aF w1 k0 k2 z0/\(k1+2)<=z0.length/\∀w2,ay [k0] w1 w2->aF w2 k0 k2 (ca z0 k1 [O U err,O U i1])->R (ai #[]) w2) (R (ai #[]) w0)):Cr 139 #[ae (some c),O U err] w R:=
 iJ (args:=[.ad c,.int .i64 err]) h
theorem aaM(r:Addr)(kind:Int)(R:aG)(w:av)(h:∀k0 k1 w0,w.heap.size<=k0->k0<w0.heap.size->w.heap.size<=k1->k1<w0.heap.size->ay [] w w0->Gs (fun w1=>az aq 140 #[ae (some (r.add 0)),O U 1] w1 fun e0 w2=>∃i0 s0 i1 i2,e0=(ak (ah #[O U i0,ab s0,O U i1,O U i2]))/\bS [k0,k1] w1 w2/\nw w2 fun k2 w3=>k0≠k1->k0≠k2->k1≠k2->∃J1:aJ,J1 k2/\ux J1 k1/\ux J1 k1/\∀w4,ay [k0,k1] w3 w4->R (ah #[O U kind,ab s0,ab (ao #[]),ab (ao #[]),Sl.nil.v,Sl.nil.v,Sl.nil.v,Sl.nil.v,O U i2]) w4) fun J0=>oJ w0 ((r.add 0).add 0) fun l0=>iz w0 ((r.add 0).add 1) fun i3=>∃p0,dl l0 i3 4 p0/\iz w0 (p0.add 0) fun i4=>cy (i4==1) (∀w5,ay [] w0 w5->gy [k0,k1] 138 #[ae (some r),ae (some ((r.add 4).add 1)),O U 2] w5 fun w6=>iz w6 ((r.add 4).add 2) fun i5=>cy (i5==0) (gy [k0,k1] 139 #[ae (some (r.add 0)),O U 21] w6 fun w7=>J0 w7) (J0 w6)) (∀w8,ay [] w0 w8->J0 w8)):Cr 74 #[ae (some r),O U kind] w R:=
 fB (an:=.d 2 (.j [0,4,5] [] .o .o)) (args:=[.ad r,.int .i64 kind]) h
theorem aaN(r:Addr)(F6:Option Addr)(err:Int)(R:aG)(w:av)(h:Gs (fun w0=>∃p0,F6=(some p0)/\iz w0 p0 fun i0=>∃p1,F6=(some p1)/\∃k0 k1:Nat,∃z0,∃k2:Nat,p1=⟨k0,k1,none⟩/\aF w0 k0 k2 z0/\(k1+1)<=z0.length/\∀w1,ay [k0] w0 w1->aF w1 k0 k2 (ca z0 k1 [O U (ar U (i0-1))])->R (ai #[]) w1) fun J0=>∃p2,F6=(some p2)/\iz w p2 fun i1=>cy (i1==0) (cU 139 #[ae (some (r.add 0)),O U err] w fun w2=>J0 w2) (J0 w)):Cr 138 #[ae (some r),ae F6,O U err] w R:=
 fB (an:=.j [1] [] .o .o) (args:=[.ad r,.ptr F6,.int .i64 err]) h
theorem aaO(c:Addr)(kind:Int)(R:aG)(w:av)(h:nw w fun k0 w0=>∃J0:aJ,J0 ((c.add 0).block)/\oJ w0 (c.add 0) fun l0=>J0 ((c.add 1).block)/\iz w0 (c.add 1) fun i0=>∃p0,dl l0 i0 4 p0/\J0 p0.block/\CH w0 p0 fun i1 s0 i2 i3=>nw w0 fun k1 w1=>kP [k0,k1] 78 #[ae (some c)] w1 fun b0 w2=>cy ((!b0)||(i1 !=kind)) (gy [k0,k1] 79 #[ae (some c)] w2 fun w3=>∀w4,ay [k0] w3 w4->R (ah #[O U 0,ab (ao #[]),O U 0,O U 0]) w4) (iz w2 (c.add 1) fun i4=>∃k2 k3:Nat,∃z0,∃k4:Nat,(c.add 1)=⟨k2,k3,none⟩/\aF w2 k2 k4 z0/\(k3+1)<=z0.length/\k0≠k2/\k1≠k2/\∀w5,ay [k2] w2 w5->aF w5 k2 k4 (ca z0 k3 [O U (ar U (i4+1))])->∀w6,ay [k0] w5 w6->R (ah #[O U i1,ab s0,O U i2,O U i3]) w6)):Cr 140 #[ae (some c),O U kind] w R:=
 iJ (args:=[.ad c,.int .i64 kind]) h
theorem aaP(r:Addr)(R:aG)(w:av)(h:nw w fun k0 w0=>Gs (fun w1=>az aq 140 #[ae (some (r.add 0)),O U 1] w1 fun e0 w2=>∃i0 s0 i1 i2,e0=(ak (ah #[O U i0,ab s0,O U i1,O U i2]))/\bS [k0] w1 w2/\nw w2 fun k1 w3=>fL (au 52 1 #[.mk 0 (ab (ao #[61]))]) w3 fun l0 w4=>bS [k0,k1] w3 w4/\gy [k0,k1] 73 #[ae (some (r.add 0)),l0.v] w4 fun w5=>fL (au 52 1 #[.mk 0 (ab (ao #[45]))]) w5 fun l1 w6=>bS [k0,k1] w5 w6/\rj [k0,k1] 75 #[ae (some (r.add 0)),l1.v] w6 fun i3 w7=>az aq 140 #[ae (some (r.add 0)),O U 3] w7 fun e3 w8=>∃i4 s1 i5 i6,e3=(ak (ah #[O U i4,ab s1,O U i5,O U i6]))/\bS [k0,k1] w7 w8/\fL (au 52 1 #[.mk 0 (ab (ao #[59]))]) w8 fun l2 w9=>bS [k0,k1] w8 w9/\gy [k0,k1] 73 #[ae (some (r.add 0)),l2.v] w9 fun dw=>∀dJ,ay [k0] dw dJ->R (ah #[ab s0,O U (ar U ((ar U (1-(ar U (2*i3))))*i5)),O U i2]) dJ) fun J0=>oJ w0 ((r.add 0).add 0) fun l3=>iz w0 ((r.add 0).add 1) fun i7=>∃p0,dl l3 i7 4 p0/\iz w0 (p0.add 0) fun i8=>cy (i8==1) (∀eM,ay [] w0 eM->gy [k0] 138 #[ae (some r),ae (some ((r.add 4).add 0)),O U 2] eM fun eU=>J0 eU) (∀fM,ay [] w0 fM->J0 fM)):Cr 76 #[ae (some r)] w R:=
 fB (an:=.s .o (.j [0,2] [] .o .o)) (args:=[.ad r]) h
theorem aaQ(r:Addr)(n_:Option Addr)(R:aG)(w:av)(h:nw w fun k0 w0=>iz w0 ((r.add 4).add 2) fun i0=>∃k1 k2:Nat,∃z0,∃k3:Nat,((r.add 4).add 2)=⟨k1,k2,none⟩/\aF w0 k1 k3 z0/\(k2+1)<=z0.length/\k0≠k1/\∀w1,ay [k1] w0 w1->aF w1 k1 k3 (ca z0 k2 [O U (ar U (i0-1))])->∃J0:Nat->Bool->Bool->Bool->Bool->av->Prop,∃k4:Nat,J0 k4 false false false false w1/\∀k5 b0 b1 b2 b3 w2,J0 k5 b0 b1 b2 b3 w2->∃J1:Bool->Bool->Bool->Bool->Bool->av->Prop,(∀b4 b5 b6 b7 b8 w3,J1 b4 b5 b6 b7 b8 w3->cy b4 (nx k5 fun k6=>J0 k6 b5 b6 b7 b8 w3) (fL (au 52 4 #[.mk 0 (ab (ao #[115,116,97,116,101])),.mk 1 (ab (ao #[112,97,114,97,108,108,101,108])),.mk 2 (ab (ao #[104,105,115,116,111,114,121])),.mk 3 (ab (ao #[100,101,101,112]))]) w3 fun l0 w4=>bS [k0] w3 w4/\rj [k0] 141 #[ae (some (r.add 0)),l0.v] w4 fun i1 w5=>∃J2:Nat->Int->Bool->Bool->Bool->Bool->av->Prop,∃k7:Nat,J2 k7 i1 b5 b6 b7 b8 w5/\∀k8 i2 b9 UZ W9 Xa w6,J2 k8 i2 b9 UZ W9 Xa w6->cy (decide (i2>0)) (iz w6 ((r.add 0).add 1) fun i3=>∃k9 rr:Nat,∃z1,∃pE:Nat,((r.add 0).add 1)=⟨k9,rr,none⟩/\aF w6 k9 pE z1/\(rr+1)<=z1.length/\k0≠k9/\∀w7,ay [k9] w6 w7->aF w7 k9 pE (ca z1 rr [O U (ar U (i3+1))])->∃J3:Bool->Bool->Bool->Bool->av->Prop,(∀Y9 b14 b15 b16 w8,J3 Y9 b14 b15 b16 w8->fL (au 52 4 #[.mk 0 (ab (ao #[115,116,97,116,101])),.mk 1 (ab (ao #[112,97,114,97,108,108,101,108])),.mk 2 (ab (ao #[104,105,115,116,111,114,121])),.mk 3 (ab (ao #[100,101,101,112]))]) w8 fun l1 w9=>bS [k0] w8 w9/\rj [k0] 141 #[ae (some (r.add 0)),l1.v] w9 fun i4 dw=>nx k8 fun GB=>J2 GB i4 Y9 b14 b15 b16 dw)/\∀dJ,ay [] w7 dJ->∃J4:aJ,∃p0,n_=(some p0)/\J4 ((p0.add 7).block)/\oJ dJ (p0.add 7) fun l2=>(az aq 143 #[ae (some r),O U i2] dJ fun e2 eM=>∃i5 s0 s1 s2,∃l3 l4 l5 l6:Sl,∃i6,e2=(ak (ah #[O U i5,ab s0,ab s1,ab s2,l3.v,l4.v,l5.v,l6.v,O U i6]))/\bS [k0] dJ eM/\bO J4 dJ eM/\fL (au 25 1 #[.mk 0 (ah #[O U 0,ab (ao #[]),ab (ao #[]),ab (ao #[]),Sl.nil.v,Sl.nil.v,Sl.nil.v,Sl.nil.v,O U 0])]) eM fun l7 eU=>bS [k0] eM eU/\bO J4 eM eU/\fL (Builtin.append_ #[25,25] 25 #[l2.v,l7.v]) eU fun l8 fM=>bS [k0] eU fM/\bO J4 eU fM/\∃p1,dl l8 (l2.n:Int) 9 p1/\∃p2,n_=(some p2)/\(∃ul Kw:Nat,∃z2,∃LW:Nat,p1=⟨ul,Kw,none⟩/\aF fM ul LW z2/\(Kw+9)<=z2.length/\k0≠ul/\∀iy,ay [ul] fM iy->aF iy ul LW (ca z2 Kw [O U i5,ab s0,ab s1,ab s2,l3.v,l4.v,l5.v,l6.v,O U i6])->∃F7 Rf:Nat,∃z3,∃k18:Nat,(p2.add 7)=⟨F7,Rf,none⟩/\aF iy F7 k18 z3/\(Rf+1)<=z3.length/\k0≠F7/\∀jK,ay [F7] iy jK->aF jK F7 k18 (ca z3 Rf [l8.v])->J3 b9 UZ W9 Xa jK)/\∃HY HZ:Nat,∃z4,∃k21:Nat,(p2.add 7)=⟨HY,HZ,none⟩/\aF fM HY k21 z4/\(HZ+1)<=z4.length/\k0≠HY/\∀iZ,ay [HY] fM iZ->aF iZ HY k21 (ca z4 HZ [l8.v])->∃PV Xb:Nat,∃z5,∃k24:Nat,p1=⟨PV,Xb,none⟩/\aF iZ PV k24 z5/\(Xb+9)<=z5.length/\k0≠PV/\∀jM,ay [PV] iZ jM->aF jM PV k24 (ca z5 Xb [O U i5,ab s0,ab s1,ab s2,l3.v,l4.v,l5.v,l6.v,O U i6])->J3 b9 UZ W9 Xa jM)/\fL (au 25 1 #[.mk 0 (ah #[O U 0,ab (ao #[]),ab (ao #[]),ab (ao #[]),Sl.nil.v,Sl.nil.v,Sl.nil.v,Sl.nil.v,O U 0])]) dJ fun l9 kf=>bS [k0] dJ kf/\bO J4 dJ kf/\az aq 143 #[ae (some r),O U i2] kf fun e3 jL=>∃i7 s3 s4 s5,∃l10 uk uQ BX:Sl,∃i8,e3=(ak (ah #[O U i7,ab s3,ab s4,ab s5,l10.v,uk.v,uQ.v,BX.v,O U i8]))/\bS [k0] kf jL/\bO J4 kf jL/\fL (Builtin.append_ #[25,25] 25 #[l2.v,l9.v]) jL fun GA mX=>bS [k0] jL mX/\bO J4 jL mX/\∃p3,dl GA (l2.n:Int) 9 p3/\∃p4,n_=(some p4)/\(∃k25 Tn:Nat,∃z6,∃k27:Nat,p3=⟨k25,Tn,none⟩/\aF mX k25 k27 z6/\(Tn+9)<=z6.length/\k0≠k25/\∀qS,ay [k25] mX qS->aF qS k25 k27 (ca z6 Tn [O U i7,ab s3,ab s4,ab s5,l10.v,uk.v,uQ.v,BX.v,O U i8])->∃PW k29:Nat,∃z7,∃k30:Nat,(p4.add 7)=⟨PW,k29,none⟩/\aF qS PW k30 z7/\(k29+1)<=z7.length/\k0≠PW/\∀rh,ay [PW] qS rh->aF rh PW k30 (ca z7 k29 [GA.v])->J3 b9 UZ W9 Xa rh)/\∃k31 k32:Nat,∃z8,∃k33:Nat,(p4.add 7)=⟨k31,k32,none⟩/\aF mX k31 k33 z8/\(k32+1)<=z8.length/\k0≠k31/\∀tG,ay [k31] mX tG->aF tG k31 k33 (ca z8 k32 [GA.v])->∃k34 k35:Nat,∃z9,∃k36:Nat,p3=⟨k34,k35,none⟩/\aF tG k34 k36 z9/\(k35+9)<=z9.length/\k0≠k34/\∀po,ay [k34] tG po->aF po k34 k36 (ca z9 k35 [O U i7,ab s3,ab s4,ab s5,l10.v,uk.v,uQ.v,BX.v,O U i8])->J3 b9 UZ W9 Xa po) (iz w6 ((r.add 4).add 2) fun i9=>∃k37 k38:Nat,∃H0,∃k39:Nat,((r.add 4).add 2)=⟨k37,k38,none⟩/\aF w6 k37 k39 H0/\(k38+1)<=H0.length/\k0≠k37/\∀qT,ay [k37] w6 qT->aF qT k37 k39 (ca H0 k38 [O U (ar U (i9+1))])->fL (au 52 1 #[.mk 0 (ab (ao #[125]))]) qT fun LV tW=>bS [k0] qT tW/\gy [k0] 73 #[ae (some (r.add 0)),LV.v] tW fun wY=>R (ai #[]) wY)))/\kP [k0] 78 #[ae (some (r.add 0))] w2 fun b17 AZ=>cy b17 (aF AZ k0 206 [aj b0,aj b1,aj b2,aj b3]->cB 142 #[ae (some r),ae n_,ae (some ⟨k0,0,none⟩)] AZ fun b18 Mu=>VO Mu k0 206 fun b19 b20 b21 b22=>J1 b18 b19 b20 b21 b22 Mu) (J1 false b0 b1 b2 b3 AZ)):Cr 77 #[ae (some r),ae n_] w R:=
 fB (an:=.d 2 (.s (.j [0,1,4] [.b 4 [.bool,.bool,.bool,.bool]] (.s (.s (.j [0,1,4] [.s 23 .bool,.b 4 [.bool,.bool,.bool,.bool]] .o .o) .o) .o) .o) (.s (.s .o (.j [0,1,4] [.s 5 (.int .i64),.b 4 [.bool,.bool,.bool,.bool]] (.s .o (.s (.s .o (.j [0,1,4] [.b 4 [.bool,.bool,.bool,.bool]] .o .o)) .o)) .o)) .o))) (args:=[.ad r,.ptr n_]) h
theorem aaR(r:Addr)(n_:Option Addr)(had:Option Addr)(R:aG)(w:av)(h:∃l0:Sl,∃w0,((au 52 3 #[.mk 0 (ab (ao #[111,110])),.mk 1 (ab (ao #[97,108,119,97,121,115])),.mk 2 (ab (ao #[97,102,116,101,114]))]).run aq w)=(.ok l0.v w0)/\cI 141 #[ae (some (r.add 0)),l0.v] w0 fun i0 w1=>cy (decide (i0>0)) (∀w2,ay [] w1 w2->∃J0:aJ,∃p0,n_=(some p0)/\J0 ((p0.add 6).block)/\oJ w2 (p0.add 6) fun l1=>az aq 208 #[ae (some r),O U i0] w2 fun e1 w3=>∃i1 s0 i2 b0 i3 i4 s1 i5,∃l2:Sl,∃i6,∃l3 l4:Sl,∃i7,e1=(ak (ah #[O U i1,ab s0,O U i2,aj b0,O U i3,O U i4,ab s1,O U i5,l2.v,O U i6,l3.v,l4.v,O U i7]))/\bO J0 w2 w3/\fL (au 24 1 #[.mk 0 (ah #[O U i1,ab s0,O U i2,aj b0,O U i3,O U i4,ab s1,O U i5,l2.v,O U i6,l3.v,l4.v,O U i7])]) w3 fun l5 w4=>bO J0 w3 w4/\fL (Builtin.append_ #[24,24] 24 #[l1.v,l5.v]) w4 fun l6 w5=>bO J0 w4 w5/\∃p1,n_=(some p1)/\∃k0 k1:Nat,∃z0,∃k2:Nat,(p1.add 6)=⟨k0,k1,none⟩/\aF w5 k0 k2 z0/\(k1+1)<=z0.length/\∀w6,ay [k0] w5 w6->aF w6 k0 k2 (ca z0 k1 [l6.v])->R (aj true) w6) (fL (au 52 3 #[.mk 0 (ab (ao #[105,110,105,116,105,97,108])),.mk 1 (ab (ao #[101,110,116,101,114])),.mk 2 (ab (ao #[108,101,97,118,101]))]) w1 fun l7 w7=>cI 141 #[ae (some (r.add 0)),l7.v] w7 fun i8 w8=>cy (i8==0) (R (aj false) w8) (∃p2,had=(some p2)/\∃p3,Iy p2 i8 4 1 p3/\xCB w8 p3 fun b1=>cy b1 (cU 79 #[ae (some (r.add 0))] w8 fun w9=>R (aj false) w9) (∃p4,had=(some p4)/\∃p5,Iy p4 i8 4 1 p5/\∃k3 k4:Nat,∃z1,∃k5:Nat,p5=⟨k3,k4,none⟩/\aF w8 k3 k5 z1/\(k4+1)<=z1.length/\∀dw,ay [k3] w8 dw->aF dw k3 k5 (ca z1 k4 [aj true])->iz dw ((r.add 0).add 1) fun i9=>∃k6 k7:Nat,∃z2,∃k8:Nat,((r.add 0).add 1)=⟨k6,k7,none⟩/\aF dw k6 k8 z2/\(k7+1)<=z2.length/\∀dJ,ay [k6] dw dJ->aF dJ k6 k8 (ca z2 k7 [O U (ar U (i9+1))])->Gs (fun eM=>R (aj true) eM) fun J1=>cy (i8==1) (cS 209 #[ae (some (r.add 0))] dJ fun s2 eU=>∃p6,n_=(some p6)/\∃k9 rr:Nat,∃z3,∃pE:Nat,(p6.add 2)=⟨k9,rr,none⟩/\aF eU k9 pE z3/\(rr+1)<=z3.length/\∀fM,ay [k9] eU fM->aF fM k9 pE (ca z3 rr [ab s2])->fL (au 52 1 #[.mk 0 (ab (ao #[59]))]) fM fun l8 iy=>cU 73 #[ae (some (r.add 0)),l8.v] iy fun jK=>J1 jK) (cy (i8==2) (cL 210 #[ae (some r)] dJ fun l9 iZ=>∃p7,n_=(some p7)/\∃GB ul:Nat,∃z4,∃Kw:Nat,(p7.add 4)=⟨GB,ul,none⟩/\aF iZ GB Kw z4/\(ul+1)<=z4.length/\∀jM,ay [GB] iZ jM->aF jM GB Kw (ca z4 ul [l9.v])->J1 jM) (cL 210 #[ae (some r)] dJ fun l10 kf=>∃p8,n_=(some p8)/\∃LW F7:Nat,∃z5,∃Rf:Nat,(p8.add 5)=⟨LW,F7,none⟩/\aF kf LW Rf z5/\(F7+1)<=z5.length/\∀jL,ay [LW] kf jL->aF jL LW Rf (ca z5 F7 [l10.v])->J1 jL)))))):Cr 142 #[ae (some r),ae n_,ae had] w R:=
 fB (an:=.d 7 (.j [] [] .o .o)) (args:=[.ad r,.ptr n_,.ptr had]) h
theorem aaS(r:Addr)(kind:Int)(R:aG)(w:av)(h:nw w fun k0 w0=>∃J0:aJ,J0 (((r.add 0).add 0).block)/\oJ w0 ((r.add 0).add 0) fun l0=>J0 (((r.add 0).add 1).block)/\iz w0 ((r.add 0).add 1) fun i0=>∃p0,dl l0 i0 4 p0/\J0 ((p0.add 3).block)/\iz w0 (p0.add 3) fun i1=>nw w0 fun k1 w1=>gy [k0,k1] 138 #[ae (some r),ae (some ((r.add 4).add 3)),O U 2] w1 fun w2=>kP [k0,k1] 78 #[ae (some (r.add 0))] w2 fun b0 w3=>cy (!b0) (∀w4,ay [k0] w3 w4->R (ah #[O U kind,ab (ao #[]),O U 0,aj false,O U 0,O U 0,ab (ao #[]),O U 0,Sl.nil.v,O U 0,Sl.nil.v,Sl.nil.v,O U i1]) w4) (iz w3 ((r.add 0).add 1) fun i2=>∃k2 k3:Nat,∃z0,∃k4:Nat,((r.add 0).add 1)=⟨k2,k3,none⟩/\aF w3 k2 k4 z0/\(k3+1)<=z0.length/\k0≠k2/\k1≠k2/\∀w5,ay [k2] w3 w5->aF w5 k2 k4 (ca z0 k3 [O U (ar U (i2+1))])->∃J1:Int->aK->Int->Bool->Int->Int->aK->Int->Sl->Int->Sl->Sl->Int->av->Prop,(∀i3 s0 i4 b1 i5 i6 s1 i7,∀l1:Sl,∀i8,∀l2 l3:Sl,∀i9 w6,J1 i3 s0 i4 b1 i5 i6 s1 i7 l1 i8 l2 l3 i9 w6->∃J2:Int->aK->Int->Bool->Int->Int->aK->Int->Sl->Int->Sl->Sl->Int->av->Prop,(∀i10 s2 i11 b2 i12 i13 s3 i14,∀l4:Sl,∀i15,∀l5 l6:Sl,∀i16 w7,J2 i10 s2 i11 b2 i12 i13 s3 i14 l4 i15 l5 l6 i16 w7->∃J3:Int->aK->Int->Bool->Int->Int->aK->Int->Sl->Int->Sl->Sl->Int->av->Prop,(∀i17 s4 i18 b3 i19 i20 s5 i21,∀l7:Sl,∀i22,∀l8 l9:Sl,∀i23 w8,J3 i17 s4 i18 b3 i19 i20 s5 i21 l7 i22 l8 l9 i23 w8->∃J4:Nat->aK->Int->aK->Int->Bool->Int->Int->aK->Int->Sl->Int->Sl->Sl->Int->av->Prop,∃k5:Nat,J4 k5 (ao #[45,62]) i17 s4 i18 b3 i19 i20 s5 i21 l7 i22 l8 l9 i23 w8/\∀k6 s6 i24 s7 i25 b4 i26 i27 s8 i28,∀l10:Sl,∀i29,∀uk uQ:Sl,∀i30 w9,J4 k6 s6 i24 s7 i25 b4 i26 i27 s8 i28 l10 i29 uk uQ i30 w9->fL (au 52 1 #[.mk 0 (ab s6)]) w9 fun BX dw=>bS [k0,k1] w9 dw/\rj [k0,k1] 75 #[ae (some (r.add 0)),BX.v] dw fun i31 dJ=>cy (decide (i31>0)) (∀eM,ay [] dJ eM->∃J5:aJ,J5 k1/\oe [k0,k1] 209 #[ae (some (r.add 0))] eM fun s9 eU=>bO J5 eM eU/\fL (au 52 1 #[.mk 0 (ab s9)]) eU fun GA fM=>bS [k0,k1] eU fM/\bO J5 eU fM/\fL (Builtin.append_ #[52,52] 52 #[uQ.v,GA.v]) fM fun LV iy=>bS [k0,k1] fM iy/\bO J5 fM iy/\∀jK,ay [k1] iy jK->nx k6 fun k7=>J4 k7 (ao #[44]) i24 s7 i25 b4 i26 i27 s8 i28 l10 i29 uk LV i30 jK) (fL (au 52 1 #[.mk 0 (ab (ao #[59]))]) dJ fun W6 iZ=>bS [k0,k1] dJ iZ/\gy [k0,k1] 73 #[ae (some (r.add 0)),W6.v] iZ fun jM=>∀kf,ay [k0] jM kf->R (ah #[O U i24,ab s7,O U i25,aj b4,O U i26,O U i27,ab s8,O U i28,l10.v,O U i29,uk.v,uQ.v,O U i30]) kf))/\fL (au 52 1 #[.mk 0 (ab (ao #[123]))]) w7 fun W7 jL=>bS [k0,k1] w7 jL/\rj [k0,k1] 141 #[ae (some (r.add 0)),W7.v] jL fun i32 mX=>cy (decide (i32>0)) (AQ [k0,k1] 210 #[ae (some r)] mX fun UW qS=>∀rh,ay [k1] qS rh->J3 i10 s2 i11 b2 i12 i13 s3 i14 l4 i15 UW l6 i16 rh) (J3 i10 s2 i11 b2 i12 i13 s3 i14 l4 i15 l5 l6 i16 mX))/\fL (au 52 1 #[.mk 0 (ab (ao #[91]))]) w6 fun W8 tG=>bS [k0,k1] w6 tG/\rj [k0,k1] 75 #[ae (some (r.add 0)),W8.v] tG fun i33 po=>cy (decide (i33>0)) (∀qT,ay [k1] po qT->az aq 253 #[ae (some (r.add 0))] qT fun e8 tW=>∃i34 i35 Ms i36,∃Tl:Sl,∃i37,e8=(ak (ah #[O U i34,O U i35,ab Ms,O U i36,Tl.v,O U i37]))/\bS [k0,k1] qT tW/\∀wY,ay [k1] tW wY->fL (au 52 1 #[.mk 0 (ab (ao #[93]))]) wY fun Y5 AZ=>bS [k0,k1] wY AZ/\gy [k0,k1] 73 #[ae (some (r.add 0)),Y5.v] AZ fun Mu=>J2 i3 s0 i4 (decide (i33>0)) i34 i35 Ms i36 Tl i37 l2 l3 i9 Mu) (∀Rg,ay [k1] po Rg->J2 i3 s0 i4 (decide (i33>0)) i5 i6 s1 i7 l1 i8 l2 l3 i9 Rg))/\cy (kind==1) (oe [k0,k1] 209 #[ae (some (r.add 0))] w5 fun Kv Za=>∀Zb,ay [k1] Za Zb->J1 kind Kv 0 false 0 0 (ao #[]) 0 Sl.nil 0 Sl.nil Sl.nil i1 Zb) (cy (kind==3) (az aq 140 #[ae (some (r.add 0)),O U 3] w5 fun e11 Xc=>∃i38 Tm i39 i40,e11=(ak (ah #[O U i38,ab Tm,O U i39,O U i40]))/\bS [k0,k1] w5 Xc/\∀Zc,ay [k1] Xc Zc->J1 kind (ao #[]) i39 false 0 0 (ao #[]) 0 Sl.nil 0 Sl.nil Sl.nil i1 Zc) (J1 kind (ao #[]) 0 false 0 0 (ao #[]) 0 Sl.nil 0 Sl.nil Sl.nil i1 w5)))):Cr 208 #[ae (some r),O U kind] w R:=
 fB (an:=.d 4 (.j [0,4,5] [.b 5 [.int .i64,.str,.int .i64,.bool,.int .i64,.int .i64,.str,.int .i64,.sl,.int .i64,.sl,.sl,.int .i64]] .o (.j [0,4,5] [.b 5 [.int .i64,.str,.int .i64,.bool,.int .i64,.int .i64,.str,.int .i64,.sl,.int .i64,.sl,.sl,.int .i64]] .o (.j [0,4,5] [.b 5 [.int .i64,.str,.int .i64,.bool,.int .i64,.int .i64,.str,.int .i64,.sl,.int .i64,.sl,.sl,.int .i64]] .o (.s (.s .o (.j [0,4,5] [.s 6 .str,.b 5 [.int .i64,.str,.int .i64,.bool,.int .i64,.int .i64,.str,.int .i64,.sl,.int .i64,.sl,.sl,.int .i64]] .o .o)) .o))))) (args:=[.ad r,.int .i64 kind]) h
theorem aaT(c:Addr)(R:aG)(w:av)(h:az aq 140 #[ae (some c),O U 1] w fun e0 w0=>∃i0 s0 i1 i2,e0=(ak (ah #[O U i0,ab s0,O U i1,O U i2]))/\R (ab s0) w0):Cr 209 #[ae (some c)] w R:=
 iJ (args:=[.ad c]) h
theorem aaU(c:Addr)(R:aG)(w:av)(h:nw w fun k0 w0=>kP [k0] 78 #[ae (some c)] w0 fun b0 w1=>cy (!b0) (∀w2,ay [k0] w1 w2->R (ah #[O U 0,O U 0,ab (ao #[]),O U 0,Sl.nil.v,O U 0]) w2) (∀w3,ay [] w1 w3->∃J0:aJ,∀w4,ay [] w3 w4->J0 ((c.add 0).block)/\oJ w4 (c.add 0) fun l0=>∀w5,ay [] w4 w5->J0 ((c.add 1).block)/\iz w5 (c.add 1) fun i0=>∀w6,ay [] w5 w6->az aq 288 #[l0.v,O U i0] w6 fun e1 w7=>∃i1 i2 s0 i3,∃l1:Sl,∃i4 i5 i6 i7,e1=(ak (ai #[ah #[O U i1,O U i2,ab s0,O U i3,l1.v,O U i4],O U i5,ah #[O U i6,O U i7]]))/\bS [k0] w6 w7/\nu w3 w6 w7/\bO J0 w6 w7/\∀w8,ay [] w7 w8->∀k1,w3.heap.size<=k1->k1<w8.heap.size->zm [.mk w6.heap.size w7.heap.size] k1->cy (i6 !=0) (∀w9,ay [k1,k0] w8 w9->∃k2 k3:Nat,∃z0,∃k4:Nat,(c.add 2)=⟨k2,k3,none⟩/\aF w9 k2 k4 z0/\(k3+2)<=z0.length/\k0≠k2/\k1≠k2/\∀dw,ay [k2] w9 dw->aF dw k2 k4 (ca z0 k3 [O U i6,O U i7])->∀dJ,ay [k0] dw dJ->R (ah #[O U i1,O U i2,ab s0,O U i3,l1.v,O U i4]) dJ) (∀eM,ay [k1,k0] w8 eM->∃k5 k6:Nat,∃z1,∃k7:Nat,(c.add 1)=⟨k5,k6,none⟩/\aF eM k5 k7 z1/\(k6+1)<=z1.length/\k0≠k5/\k1≠k5/\∀eU,ay [k5] eM eU->aF eU k5 k7 (ca z1 k6 [O U i5])->∀fM,ay [k0] eU fM->R (ah #[O U i1,O U i2,ab s0,O U i3,l1.v,O U i4]) fM))):Cr 253 #[ae (some c)] w R:=
 fB (an:=.d 2 (.s (.l false [] []) .o)) (args:=[.ad c]) h
theorem v4w(l:Sl)(at_:Int)(R:aG)(w:av)(h:∀k0 k1 w0,w.heap.size<=k0->k0<w0.heap.size->w.heap.size<=k1->k1<w0.heap.size->ay [] w w0->rj [k0,k1] 304 #[l.v,.func (.func 305) #[] #[]] w0 fun i0 w1=>cy (((decide (at_<0))||(decide (at_>=(l.n:Int))))||(i0 !=(ar U ((l.n:Int)-1)))) (∀w2,ay [k1,k0] w1 w2->R (ai #[ah #[O U 0,O U 0,ab (ao #[]),O U 0,Sl.nil.v,O U 0],O U 0,ah #[O U 1,O U (-1)]]) w2) (AQ [k0,k1] 263 #[] w1 fun l0 w3=>nw w3 fun k2 w4=>aF w4 k2 331 [l.v,O U at_,O U 0,O U 0,O U 0,l0.v]->az aq 306 #[ae (some ⟨k2,0,none⟩),O U 0] w4 fun e2 w5=>∃i1 i2 s0 i3,∃l1:Sl,∃i4,e2=(ak (ah #[O U i1,O U i2,ab s0,O U i3,l1.v,O U i4]))/\bS [k0,k1] w4 w5/\EO w5 k2 331 fun l2 i5 i6 i7 i8 l3=>nw w5 fun k3 w6=>aF w6 k2 331 [l2.v,O U i5,O U i6,O U i7,O U i8,l3.v]->kP [k0,k1,k3] 307 #[ae (some ⟨k2,0,none⟩)] w6 fun b0 w7=>EO w7 k2 331 fun l4 i9 i10 i11 i12 l5=>cy b0 (∀w8,ay [] w7 w8->aF w8 k2 331 [l4.v,O U i9,O U i10,O U i11,O U i12,l5.v]->k0≠k1->k0≠k2->k0≠k3->k1≠k2->k1≠k3->k2≠k3->∃J0:aJ,J0 k2/\ux J0 k0/\ux J0 k1/\∀w9,ay [k1,k0] w8 w9->aF w9 k2 331 [l4.v,O U i9,O U i10,O U i11,O U i12,l5.v]->R (ai #[ah #[O U 0,O U 0,ab (ao #[]),O U 0,Sl.nil.v,O U 0],O U 0,ah #[O U i10,O U i11]]) w9) (∀dw,ay [] w7 dw->aF dw k2 331 [l4.v,O U i9,O U i10,O U i11,O U i12,l5.v]->k0≠k1->k0≠k2->k0≠k3->k1≠k2->k1≠k3->k2≠k3->∃J1:aJ,J1 k2/\ux J1 k0/\ux J1 k1/\∀dJ,ay [k1,k0] dw dJ->aF dJ k2 331 [l4.v,O U i9,O U i10,O U i11,O U i12,l5.v]->R (ai #[ah #[O U i1,O U i2,ab s0,O U i3,l1.v,O U i4],O U i9,ah #[O U 0,O U 0]]) dJ))):Cr 288 #[l.v,O U at_] w R:=
 iJ (args:=[.sl l,.int .i64 at_]) h
theorem aaV(s:Sl)(f:OV)(R:aG)(w:av)(h:pB 0 w fun J0 k1 i0 w0=>cy (decide (i0<(s.n:Int))) (NA s i0 w0 fun i1 s0 i2 i3=>∃k2:Nat,∃z0 z1,f.v=(.func (.func k2) z0.toArray z1.toArray)/\(∀x0:Array aw,∀w1,((callFunc k2 x0).run aq w1)=(.ok (.enter k2 x0) w1))/\cB k2 ((zi (zi z0 [ah #[O U i1,ab s0,O U i2,O U i3]]) z1).toArray) w0 fun b0 w2=>cy b0 (R (O U i0) w2) (nx k1 fun k3=>J0 k3 (ar U (i0+1)) w2)) (R (O U (-1)) w0)):Cr 304 #[s.v,f.v] w R:=
 fB (an:=.s .o (.s (.s .o (.j [0,1,7] [.s 8 (.int .i64)] .o .o)) .o)) (args:=[.sl s,.raw f]) h
theorem v3w(t:Int)(t1:aK)(t2 t3:Int)(R:aG)(w:av)(h:nw w fun k0 w0=>R (aj (t==5)) w0):Cr 305 #[ah #[O U t,ab t1,O U t2,O U t3]] w R:=
 iJ (args:=[.agg (j5 [.int .i64 t,.str t1,.int .i64 t2,.int .i64 t3])]) h
theorem af8(R:aG)(w:av)(h:∃l0:Sl,∃w0,((au 52 16 #[.mk 1 (ab (ao #[43])),.mk 2 (ab (ao #[45])),.mk 3 (ab (ao #[42])),.mk 4 (ab (ao #[47])),.mk 5 (ab (ao #[37])),.mk 6 (ab (ao #[60])),.mk 7 (ab (ao #[60,61])),.mk 8 (ab (ao #[62])),.mk 9 (ab (ao #[62,61])),.mk 10 (ab (ao #[61,61])),.mk 11 (ab (ao #[33,61])),.mk 12 (ab (ao #[38,38])),.mk 13 (ab (ao #[124,124])),.mk 14 (ab (ao #[45])),.mk 15 (ab (ao #[33]))]).run aq w)=(.ok l0.v w0)/\R l0.v w0):Cr 263 #[] w R:=
 iJ (args:=[]) h
theorem aaW(r:Addr)(k:Int)(R:aG)(w:av)(h:cy (k==6) (nw w fun k0 w0=>az aq 318 #[ae (some r)] w0 fun e0 w1=>∃i0 i1 s0 i2,∃l0:Sl,∃i3,e0=(ak (ah #[O U i0,O U i1,ab s0,O U i2,l0.v,O U i3]))/\bS [k0] w0 w1/\∀w2,ay [k0] w1 w2->R (ah #[O U i0,O U i1,ab s0,O U i2,l0.v,O U i3]) w2) (nw w fun k1 w3=>az aq 306 #[ae (some r),O U (ar U (k+1))] w3 fun e1 w4=>∃i4 i5 s1 i6,∃l1:Sl,∃i7,e1=(ak (ah #[O U i4,O U i5,ab s1,O U i6,l1.v,O U i7]))/\bS [k1] w3 w4/\nw w4 fun k2 w5=>rj [k1,k2] 319 #[ae (some r),O U k] w5 fun i8 w6=>∃J0:Nat->Int->Int->Int->aK->Int->Sl->Int->av->Prop,∃k3:Nat,J0 k3 i8 i4 i5 s1 i6 l1 i7 w6/\∀k4 i9 i10 i11 s2 i12,∀l2:Sl,∀i13 w7,J0 k4 i9 i10 i11 s2 i12 l2 i13 w7->cy (i9 !=0) (iz w7 ((r.add 0).add 1) fun i14=>∃k5 k6:Nat,∃z0,∃k7:Nat,((r.add 0).add 1)=⟨k5,k6,none⟩/\aF w7 k5 k7 z0/\(k6+1)<=z0.length/\k1≠k5/\k2≠k5/\∀w8,ay [k5] w7 w8->aF w8 k5 k7 (ca z0 k6 [O U (ar U (i14+1))])->az aq 306 #[ae (some r),O U (ar U (k+1))] w8 fun e3 w9=>∃i15 i16 s3 i17,∃l3:Sl,∃i18,e3=(ak (ah #[O U i15,O U i16,ab s3,O U i17,l3.v,O U i18]))/\bS [k1,k2] w8 w9/\nw w9 fun k8 dw=>fL (au 49 2 #[.mk 0 (ah #[O U i10,O U i11,ab s2,O U i12,l2.v,O U i13]),.mk 1 (ah #[O U i15,O U i16,ab s3,O U i17,l3.v,O U i18])]) dw fun l4 dJ=>bS [k1,k2,k8] dw dJ/\∀eM,ay [k2] dJ eM->rj [k1,k2,k8] 319 #[ae (some r),O U k] eM fun i19 eU=>nx k4 fun k9=>J0 k9 i19 5 0 (ao #[]) i9 l4 i13 eU) (∀fM,ay [k1] w7 fM->R (ah #[O U i10,O U i11,ab s2,O U i12,l2.v,O U i13]) fM))):Cr 306 #[ae (some r),O U k] w R:=
 fB (an:=.d 3 (.s (.s .o (.j [0,1,4,5] [.s 6 (.int .i64),.b 5 [.int .i64,.int .i64,.str,.int .i64,.sl,.int .i64]] .o .o)) .o)) (args:=[.ad r,.int .i64 k]) h
theorem af9(r:Addr)(R:aG)(w:av)(h:∀k0 k1 w0,w.heap.size<=k0->k0<w0.heap.size->w.heap.size<=k1->k1<w0.heap.size->ay [] w w0->az aq 328 #[ae (some (r.add 0))] w0 fun e0 w1=>∃i0 s0 i1 i2,e0=(ak (ah #[O U i0,ab s0,O U i1,O U i2]))/\bS [k0,k1] w0 w1/\∀k2 k3 w2,w1.heap.size<=k2->k2<w2.heap.size->w1.heap.size<=k3->k3<w2.heap.size->ay [] w1 w2->∃J0:Option Addr->Int->Int->aK->Int->Sl->Int->Int->Int->aK->Int->Sl->Int->av->Prop,(∀q0 i3 i4 s1 i5,∀l0:Sl,∀i6 i7 i8 s2 i9,∀l1:Sl,∀i10 w3,J0 q0 i3 i4 s1 i5 l0 i6 i7 i8 s2 i9 l1 i10 w3->∃p0,q0=(some p0)/\iz w3 ((p0.add 0).add 1) fun i11=>∃p1,q0=(some p1)/\∃k4 k5:Nat,∃z0,∃k6:Nat,((p1.add 0).add 1)=⟨k4,k5,none⟩/\aF w3 k4 k6 z0/\(k5+1)<=z0.length/\k0≠k4/\k1≠k4/\k2≠k4/\k3≠k4/\∀w4,ay [k4] w3 w4->aF w4 k4 k6 (ca z0 k5 [O U (ar U (i11+1))])->∀w5,ay [k1] w4 w5->R (ah #[O U i7,O U i8,ab s2,O U i9,l1.v,O U i10]) w5)/\kP [k0,k1,k2,k3] 307 #[ae (some (r.add 0))] w2 fun b0 w6=>cy b0 (∀w7,ay [k1] w6 w7->R (ah #[O U 0,O U 0,ab (ao #[]),O U 0,Sl.nil.v,O U i2]) w7) (fL (au 52 2 #[.mk 0 (ab (ao #[45])),.mk 1 (ab (ao #[33]))]) w6 fun l2 w8=>bS [k0,k1,k2,k3] w6 w8/\kP [k0,k1,k2,k3] 329 #[ae (some (r.add 0)),l2.v] w8 fun b1 w9=>cy b1 (∀dw,ay [k3] w9 dw->∃J1:Int->Int->aK->Int->Sl->Int->av->Prop,(∀i12 i13 s3 i14,∀l3:Sl,∀i15 dJ,J1 i12 i13 s3 i14 l3 i15 dJ->az aq 330 #[ae (some r),.func (.func 318) #[ae (some r)] #[]] dJ fun e3 eM=>∃i16 i17 s4 i18,∃l4:Sl,∃i19,e3=(ak (ah #[O U i16,O U i17,ab s4,O U i18,l4.v,O U i19]))/\bS [k0,k1,k2,k3] dJ eM/\fL (au 49 1 #[.mk 0 (ah #[O U i16,O U i17,ab s4,O U i18,l4.v,O U i19])]) eM fun l5 eU=>bS [k0,k1,k2,k3] eM eU/\∀fM,ay [k1,k3] eU fM->R (ah #[O U i12,O U i13,ab s3,O U i14,l5.v,O U i15]) fM)/\cy (s0.toList==((ao #[33]).toList)) (∀iy,ay [k3] dw iy->J1 4 0 (ao #[]) 15 Sl.nil i2 iy) (J1 4 0 (ao #[]) 14 Sl.nil i2 dw)) (fL (au 52 1 #[.mk 0 (ab (ao #[40]))]) w9 fun l6 jK=>bS [k0,k1,k2,k3] w9 jK/\kP [k0,k1,k2,k3] 329 #[ae (some (r.add 0)),l6.v] jK fun b2 iZ=>cy b2 (aF iZ k0 327 [ae (some r)]->k1≠k0->k2≠k0->k3≠k0->az aq 330 #[ae (some r),.func (.func 331) #[] #[ae (some ⟨k0,0,none⟩)]] iZ fun e5 jM=>∃i20 i21 s5 i22,∃l7:Sl,∃i23,e5=(ak (ah #[O U i20,O U i21,ab s5,O U i22,l7.v,O U i23]))/\bS [k1,k2,k3] iZ jM/\xKQ jM k0 327 fun q1=>∀kf,ay [k1] jM kf->aF kf k0 327 [ae q1]->R (ah #[O U i20,O U i21,ab s5,O U i22,l7.v,O U i23]) kf) (cy (i0==3) (∀jL,ay [] iZ jL->k0≠k1->k0≠k2->k0≠k3->k1≠k2->k1≠k3->k2≠k3->∃J2:aJ,J2 k2/\ux J2 k3/\ux J2 k3/\∀mX,ay [k3] jL mX->J0 (some r) 0 0 (ao #[]) 0 Sl.nil 0 1 i1 (ao #[]) 0 Sl.nil i2 mX) (cy (i0==1) (∀qS,ay [] iZ qS->k0≠k1->k0≠k2->k0≠k3->k1≠k2->k1≠k3->k2≠k3->∃J3:aJ,J3 k2/\ux J3 k3/\ux J3 k3/\∀rh,ay [k3] qS rh->J0 (some r) 0 0 (ao #[]) 0 Sl.nil 0 2 0 s0 0 Sl.nil i2 rh) (cy ((i0==2)&&(s0.toList==((ao #[105,110]).toList))) (iz iZ ((r.add 0).add 1) fun i24=>∃k7 k8:Nat,∃z1,∃k9:Nat,((r.add 0).add 1)=⟨k7,k8,none⟩/\aF iZ k7 k9 z1/\(k8+1)<=z1.length/\k0≠k7/\k1≠k7/\k2≠k7/\k3≠k7/\∀tG,ay [k7] iZ tG->aF tG k7 k9 (ca z1 k8 [O U (ar U (i24+1))])->gy [k0,k1,k2,k3] 332 #[ae (some (r.add 0)),ab (ao #[40])] tG fun po=>oe [k0,k1,k2,k3] 333 #[ae (some r)] po fun s6 qT=>∀tW,ay [k3] qT tW->gy [k0,k1,k2,k3] 332 #[ae (some (r.add 0)),ab (ao #[41])] tW fun wY=>∀AZ,ay [k1] wY AZ->R (ah #[O U 3,O U 0,ab s6,O U 0,Sl.nil.v,O U i2]) AZ) (gy [k0,k1,k2,k3] 334 #[ae (some (r.add 0))] iZ fun Mu=>∀Rg,ay [k1] Mu Rg->R (ah #[O U 0,O U 0,ab (ao #[]),O U 0,Sl.nil.v,O U i2]) Rg))))))):Cr 318 #[ae (some r)] w R:=
 fB (an:=.d 3 (.j [1,2,3,4] [.b 1 [.ptr],.b 2 [.int .i64,.int .i64,.str,.int .i64,.sl,.int .i64],.b 4 [.int .i64,.int .i64,.str,.int .i64,.sl,.int .i64]] (.d 3 (.s (.s .o (.j [1,2,3,4] [.b 4 [.int .i64,.int .i64,.str,.int .i64,.sl,.int .i64]] .o .o)) .o)) .o)) (args:=[.ad r]) h
theorem aga(c:Addr)(R:aG)(w:av)(h:nw w fun k0 w0=>oJ w0 (c.add 0) fun l0=>iz w0 (c.add 1) fun i0=>NA l0 i0 w0 fun i1 s0 i2 i3=>∀w1,ay [k0] w0 w1->R (ah #[O U i1,ab s0,O U i2,O U i3]) w1):Cr 328 #[ae (some c)] w R:=
 iJ (args:=[.ad c]) h
theorem v7w(c:Addr)(R:aG)(w:av)(h:iz w ((c.add 2).add 0) fun i0=>R (aj (i0 !=0)) w):Cr 307 #[ae (some c)] w R:=
 iJ (args:=[.ad c]) h
theorem v8w(c:Addr)(PX:Sl)(R:aG)(w:av)(h:az aq 328 #[ae (some c)] w fun e0 w0=>∃i0 s0 i1 i2,e0=(ak (ah #[O U i0,ab s0,O U i1,O U i2]))/\nw w0 fun k0 w1=>qp (fun b0 w2=>R (aj b0) w2) fun J0=>kP [k0] 307 #[ae (some c)] w1 fun b1 w3=>cy ((!b1)&&(i0==4)) (kP [k0] 154 #[PX.v,ab s0] w3 fun b2 w4=>J0 b2 w4) (J0 false w3)):Cr 329 #[ae (some c),PX.v] w R:=
 fB (an:=.d 2 (.s (.j [5] [.s 4 .bool] .o .o) .o)) (args:=[.ad c,.sl PX]) h
theorem agb(r:Addr)(read:OV)(R:aG)(w:av)(h:nw w fun k0 w0=>iz w0 (r.add 4) fun i0=>cy (i0==20) (gy [k0] 336 #[ae (some (r.add 0)),O U 21] w0 fun w1=>∀w2,ay [k0] w1 w2->R (ah #[O U 0,O U 0,ab (ao #[]),O U 0,Sl.nil.v,O U 0]) w2) (iz w0 ((r.add 0).add 1) fun i1=>∃k1 k2:Nat,∃z0,∃k3:Nat,((r.add 0).add 1)=⟨k1,k2,none⟩/\aF w0 k1 k3 z0/\(k2+1)<=z0.length/\k0≠k1/\∀w3,ay [k1] w0 w3->aF w3 k1 k3 (ca z0 k2 [O U (ar U (i1+1))])->iz w3 (r.add 4) fun i2=>∃k4 k5:Nat,∃z1,∃k6:Nat,(r.add 4)=⟨k4,k5,none⟩/\aF w3 k4 k6 z1/\(k5+1)<=z1.length/\k0≠k4/\∀w4,ay [k4] w3 w4->aF w4 k4 k6 (ca z1 k5 [O U (ar U (i2+1))])->∃k7:Nat,∃z2 z3,read.v=(.func (.func k7) z2.toArray z3.toArray)/\(∀x0:Array aw,∀w5,((callFunc k7 x0).run aq w5)=(.ok (.enter k7 x0) w5))/\az aq k7 ((zi (zi z2 []) z3).toArray) w4 fun e1 w6=>∃i3 i4 s0 i5,∃l0:Sl,∃i6,e1=(ak (ah #[O U i3,O U i4,ab s0,O U i5,l0.v,O U i6]))/\bS [k0] w4 w6/\nw w6 fun k8 w7=>iz w7 (r.add 4) fun i7=>∃k9 rr:Nat,∃z4,∃pE:Nat,(r.add 4)=⟨k9,rr,none⟩/\aF w7 k9 pE z4/\(rr+1)<=z4.length/\k0≠k9/\k8≠k9/\∀w8,ay [k9] w7 w8->aF w8 k9 pE (ca z4 rr [O U (ar U (i7-1))])->∀w9,ay [k0] w8 w9->R (ah #[O U i3,O U i4,ab s0,O U i5,l0.v,O U i6]) w9)):Cr 330 #[ae (some r),read.v] w R:=
 iJ (args:=[.ad r,.raw read]) h
theorem agc(c:Addr)(err:Int)(R:aG)(w:av)(h:cB 307 #[ae (some c)] w fun b0 w0=>cy (!b0) (az aq 328 #[ae (some c)] w0 fun e1 w1=>∃i0 s0 i1 i2,e1=(ak (ah #[O U i0,ab s0,O U i1,O U i2]))/\∃k0 k1:Nat,∃z0,∃k2:Nat,(c.add 2)=⟨k0,k1,none⟩/\aF w1 k0 k2 z0/\(k1+2)<=z0.length/\∀w2,ay [k0] w1 w2->aF w2 k0 k2 (ca z0 k1 [O U err,O U i2])->R (ai #[]) w2) (R (ai #[]) w0)):Cr 336 #[ae (some c),O U err] w R:=
 iJ (args:=[.ad c,.int .i64 err]) h
theorem agd(oX:Addr)(R:aG)(w:av)(h:nw w fun k0 w0=>xCQ w0 oX fun q0=>az aq 306 #[ae q0,O U 0] w0 fun e0 w1=>∃i0 i1 s0 i2,∃l0:Sl,∃i3,e0=(ak (ah #[O U i0,O U i1,ab s0,O U i2,l0.v,O U i3]))/\bS [k0] w0 w1/\nw w1 fun k1 w2=>xCQ w2 oX fun q1=>∃p0,q1=(some p0)/\gy [k0,k1] 332 #[ae (some (p0.add 0)),ab (ao #[41])] w2 fun w3=>∀w4,ay [k0] w3 w4->R (ah #[O U i0,O U i1,ab s0,O U i2,l0.v,O U i3]) w4):Cr 331 #[ae (some oX)] w R:=
 iJ (args:=[.ad oX]) h
theorem v9w(c:Addr)(sign:aK)(R:aG)(w:av)(h:∃l0:Sl,∃w0,((au 52 1 #[.mk 0 (ab sign)]).run aq w)=(.ok l0.v w0)/\cB 329 #[ae (some c),l0.v] w0 fun b0 w1=>cy (!b0) (cU 334 #[ae (some c)] w1 fun w2=>R (ai #[]) w2) (iz w1 (c.add 1) fun i0=>∃k0 k1:Nat,∃z0,∃k2:Nat,(c.add 1)=⟨k0,k1,none⟩/\aF w1 k0 k2 z0/\(k1+1)<=z0.length/\∀w3,ay [k0] w1 w3->aF w3 k0 k2 (ca z0 k1 [O U (ar U (i0+1))])->R (ai #[]) w3)):Cr 332 #[ae (some c),ab sign] w R:=
 iJ (args:=[.ad c,.str sign]) h
theorem age(c:Addr)(R:aG)(w:av)(h:Gs (fun w0=>cU 336 #[ae (some c),O U 4] w0 fun w1=>R (ai #[]) w1) fun J0=>az aq 328 #[ae (some c)] w fun e1 w2=>∃i0 s0 i1 i2,e1=(ak (ah #[O U i0,ab s0,O U i1,O U i2]))/\cy (i0==5) (cU 336 #[ae (some c),O U 3] w2 fun w3=>J0 w3) (J0 w2)):Cr 334 #[ae (some c)] w R:=
 fB (an:=.j [0] [] .o .o) (args:=[.ad c]) h
theorem agf(r:Addr)(R:aG)(w:av)(h:az aq 328 #[ae (some (r.add 0))] w fun e0 w0=>∃i0 s0 i1 i2,e0=(ak (ah #[O U i0,ab s0,O U i1,O U i2]))/\nw w0 fun k0 w1=>kP [k0] 307 #[ae (some (r.add 0))] w1 fun b0 w2=>cy (b0||(i0 !=1)) (gy [k0] 334 #[ae (some (r.add 0))] w2 fun w3=>R (ab (ao #[])) w3) (iz w2 ((r.add 0).add 1) fun i3=>∃k1 k2:Nat,∃z0,∃k3:Nat,((r.add 0).add 1)=⟨k1,k2,none⟩/\aF w2 k1 k3 z0/\(k2+1)<=z0.length/\k0≠k1/\∀w4,ay [k1] w2 w4->aF w4 k1 k3 (ca z0 k2 [O U (ar U (i3+1))])->R (ab s0) w4)):Cr 333 #[ae (some r)] w R:=
 iJ (args:=[.ad r]) h
theorem agh(r:Addr)(k:Int)(R:aG)(w:av)(h:pB 1 w fun J0 k1 i0 w0=>cy (decide (i0<=13)) (qp (fun b0 w1=>cy b0 (R (O U i0) w1) (nx k1 fun k2=>J0 k2 (ar U (i0+1)) w1)) fun J1=>∀w2,ay [] w0 w2->cI 293 #[O U i0] w2 fun i1 w3=>cy (i1==k) (oJ w3 (r.add 5) fun l0=>EP l0 i0 w3 fun s0=>fL (au 52 1 #[.mk 0 (ab s0)]) w3 fun l1 w4=>cB 329 #[ae (some (r.add 0)),l1.v] w4 fun b1 w5=>J1 b1 w5) (J1 false w3)) (R (O U 0) w0)):Cr 319 #[ae (some r),O U k] w R:=
 fB (an:=.s .o (.s (.s .o (.j [0,1] [.s 5 (.int .i64)] (.s .o (.s (.s (.j [0,1,5] [.s 27 .bool] .o .o) .o) .o)) .o)) .o)) (args:=[.ad r,.int .i64 k]) h
theorem agi(op:Int)(R:aG)(w:av)(h:cy ((decide (op>=3))&&(decide (op<=5))) (R (O U 5) w) (qp (fun b0 w0=>cy b0 (R (O U 4) w0) (cy ((decide (op>=6))&&(decide (op<=9))) (R (O U 3) w0) (qp (fun b1 w1=>cy b1 (R (O U 2) w1) (cy (op==12) (R (O U 1) w1) (cy (op==13) (R (O U 0) w1) (R (O U 6) w1)))) fun J1=>cy (op==10) (J1 (op==10) w0) (J1 (op==11) w0)))) fun J0=>cy (op==1) (J0 (op==1) w) (J0 (op==2) w))):Cr 293 #[O U op] w R:=
 fB (an:=.s .o (.s (.d 2 (.j [0] [.s 10 .bool] .o (.d 3 (.j [0] [.s 22 .bool] .o .o)))) .o)) (args:=[.int .i64 op]) h
theorem aaX(r:Addr)(R:aG)(w:av)(h:∀k0 k1 w0,w.heap.size<=k0->k0<w0.heap.size->w.heap.size<=k1->k1<w0.heap.size->ay [] w w0->fL (au 52 1 #[.mk 0 (ab (ao #[123]))]) w0 fun l0 w1=>bS [k0,k1] w0 w1/\gy [k0,k1] 73 #[ae (some (r.add 0)),l0.v] w1 fun w2=>(aF w2 k0 127 [ae (some r)]->aF w2 k1 23 [Sl.nil.v]->cU 254 #[ae (some r),ab (ao #[125]),.func (.func 255) #[] #[ae (some ⟨k1,0,none⟩),ae (some ⟨k0,0,none⟩)]] w2 fun w3=>xKQ w3 k0 127 fun q0=>Nz w3 k1 23 fun l1=>R l1.v w3)):Cr 210 #[ae (some r)] w R:=
 iJ (args:=[.ad r]) h
theorem aaY(oX PY:Addr)(R:aG)(w:av)(h:∀w0,ay [] w w0->∃J0:aJ,J0 oX.block/\oJ w0 oX fun l0=>xCQ w0 PY fun q0=>az aq 256 #[ae q0] w0 fun e0 w1=>∃i0 s0 i1 i2 s1 i3,∃l1:Sl,∃i4 i5,e0=(ak (ah #[O U i0,ab s0,O U i1,O U i2,ab s1,O U i3,l1.v,O U i4,O U i5]))/\bO J0 w0 w1/\fL (au 23 1 #[.mk 0 (ah #[O U i0,ab s0,O U i1,O U i2,ab s1,O U i3,l1.v,O U i4,O U i5])]) w1 fun l2 w2=>bO J0 w1 w2/\fL (Builtin.append_ #[23,23] 23 #[l0.v,l2.v]) w2 fun l3 w3=>bO J0 w2 w3/\∃k0 k1:Nat,∃z0,∃k2:Nat,oX=⟨k0,k1,none⟩/\aF w3 k0 k2 z0/\(k1+1)<=z0.length/\∀w4,ay [k0] w3 w4->aF w4 k0 k2 (ca z0 k1 [l3.v])->R (ai #[]) w4):Cr 255 #[ae (some oX),ae (some PY)] w R:=
 iJ (args:=[.ad oX,.ad PY]) h
theorem aaZ(r:Addr)(R:aG)(w:av)(h:nw w fun k0 w0=>∃J0:aJ,∀w1,ay [] w0 w1->J0 (((r.add 0).add 0).block)/\oJ w1 ((r.add 0).add 0) fun l0=>∀w2,ay [] w1 w2->J0 (((r.add 0).add 1).block)/\iz w2 ((r.add 0).add 1) fun i0=>∃p0,dl l0 i0 4 p0/\∀w3,ay [] w2 w3->J0 ((p0.add 3).block)/\iz w3 (p0.add 3) fun i1=>∀w4,ay [] w3 w4->fL (au 52 3 #[.mk 0 (ab (ao #[115,101,116])),.mk 1 (ab (ao #[114,97,105,115,101])),.mk 2 (ab (ao #[101,109,105,116]))]) w4 fun l1 w5=>bS [k0] w4 w5/\nu w0 w4 w5/\bO J0 w4 w5/\∀w6,ay [] w5 w6->rj [k0] 141 #[ae (some (r.add 0)),l1.v] w6 fun i2 w7=>nu w0 w6 w7/\bO J0 w6 w7/\∀w8,ay [] w7 w8->∀k1,w0.heap.size<=k1->k1<w8.heap.size->zm [.mk w6.heap.size w7.heap.size,.mk w4.heap.size w5.heap.size] k1->cy (i2==0) (∀w9,ay [k1] w8 w9->gy [k0,k1] 79 #[ae (some (r.add 0))] w9 fun dw=>∀dJ,ay [k0] dw dJ->R (ah #[O U i2,ab (ao #[]),O U 0,O U 0,ab (ao #[]),O U 0,Sl.nil.v,O U 0,O U i1]) dJ) (∀eM,ay [k1] w8 eM->gy [k0,k1] 138 #[ae (some r),ae (some ((r.add 4).add 4)),O U 2] eM fun eU=>kP [k0,k1] 78 #[ae (some (r.add 0))] eU fun b0 fM=>cy (!b0) (∀iy,ay [k0] fM iy->R (ah #[O U i2,ab (ao #[]),O U 0,O U 0,ab (ao #[]),O U 0,Sl.nil.v,O U 0,O U i1]) iy) (iz fM ((r.add 0).add 1) fun i3=>∃k2 k3:Nat,∃z0,∃k4:Nat,((r.add 0).add 1)=⟨k2,k3,none⟩/\aF fM k2 k4 z0/\(k3+1)<=z0.length/\k0≠k2/\k1≠k2/\∀jK,ay [k2] fM jK->aF jK k2 k4 (ca z0 k3 [O U (ar U (i3+1))])->oe [k0,k1] 209 #[ae (some (r.add 0))] jK fun s0 iZ=>∀jM,ay [k1] iZ jM->∃J1:Int->aK->Int->Int->aK->Int->Sl->Int->Int->av->Prop,(∀i4 s1 i5 i6 s2 i7,∀l2:Sl,∀i8 i9 kf,J1 i4 s1 i5 i6 s2 i7 l2 i8 i9 kf->fL (au 52 1 #[.mk 0 (ab (ao #[59]))]) kf fun l3 jL=>bS [k0,k1] kf jL/\gy [k0,k1] 73 #[ae (some (r.add 0)),l3.v] jL fun mX=>∀qS,ay [k0] mX qS->R (ah #[O U i4,ab s1,O U i5,O U i6,ab s2,O U i7,l2.v,O U i8,O U i9]) qS)/\cy (i2 !=2) (fL (au 52 1 #[.mk 0 (ab (ao #[61]))]) jM fun l4 rh=>bS [k0,k1] jM rh/\gy [k0,k1] 73 #[ae (some (r.add 0)),l4.v] rh fun tG=>az aq 253 #[ae (some (r.add 0))] tG fun e7 po=>∃i10 i11 s3 i12,∃l5:Sl,∃i13,e7=(ak (ah #[O U i10,O U i11,ab s3,O U i12,l5.v,O U i13]))/\bS [k0,k1] tG po/\∀qT,ay [k1] po qT->J1 i2 s0 i10 i11 s3 i12 l5 i13 i1 qT) (J1 i2 s0 0 0 (ao #[]) 0 Sl.nil 0 i1 jM)))):Cr 256 #[ae (some r)] w R:=
 fB (an:=.s .o (.s (.l false [] []) (.d 4 (.j [0,2,3] [.b 3 [.int .i64,.str,.int .i64,.int .i64,.str,.int .i64,.sl,.int .i64,.int .i64]] .o .o)))) (args:=[.ad r]) h
theorem aa0(r:Addr)(sign:aK)(read:OV)(R:aG)(w:av)(h:lp0 w fun J0 k1 w0=>qp (fun b0 w1=>cy b0 (∃k2:Nat,∃z0 z1,read.v=(.func (.func k2) z0.toArray z1.toArray)/\(∀x0:Array aw,∀w2,((callFunc k2 x0).run aq w2)=(.ok (.enter k2 x0) w2))/\cU k2 ((zi (zi z0 []) z1).toArray) w1 fun w3=>nx k1 fun k3=>J0 k3 w3) (R (ai #[]) w1)) fun J1=>cB 78 #[ae (some (r.add 0))] w0 fun b1 w4=>cy b1 (fL (au 52 1 #[.mk 0 (ab sign)]) w4 fun l0 w5=>cI 75 #[ae (some (r.add 0)),l0.v] w5 fun i0 w6=>J1 (i0==0) w6) (J1 false w4)):Cr 254 #[ae (some r),ab sign,read.v] w R:=
 fB (an:=.j [0,1,2] [] (.s (.s (.j [0,1,2] [.s 18 .bool] .o .o) .o) .o) .o) (args:=[.ad r,.str sign,.raw read]) h
theorem aa1(r:Addr)(kind:Int)(R:aG)(w:av)(h:nw w fun k0 w0=>az aq 74 #[ae (some r),O U kind] w0 fun e0 w1=>∃i0 s0 s1 s2,∃l0 l1 l2 l3:Sl,∃i1,e0=(ak (ah #[O U i0,ab s0,ab s1,ab s2,l0.v,l1.v,l2.v,l3.v,O U i1]))/\bS [k0] w0 w1/\cy (decide (kind>=3)) (nw w1 fun k1 w2=>fL (au 52 1 #[.mk 0 (ab (ao #[45,62]))]) w2 fun l4 w3=>bS [k0,k1] w2 w3/\gy [k0,k1] 73 #[ae (some (r.add 0)),l4.v] w3 fun w4=>oe [k0,k1] 209 #[ae (some (r.add 0))] w4 fun s3 w5=>∀w6,ay [k1] w5 w6->fL (au 52 1 #[.mk 0 (ab (ao #[59]))]) w6 fun l5 w7=>bS [k0,k1] w6 w7/\gy [k0,k1] 73 #[ae (some (r.add 0)),l5.v] w7 fun w8=>∀w9,ay [k0] w8 w9->R (ah #[O U i0,ab s0,ab s1,ab s3,l0.v,l1.v,l2.v,l3.v,O U i1]) w9) (nw w1 fun k2 dw=>fL (au 52 1 #[.mk 0 (ab (ao #[123]))]) dw fun l6 dJ=>bS [k0,k2] dw dJ/\gy [k0,k2] 73 #[ae (some (r.add 0)),l6.v] dJ fun eM=>(aF eM k2 27 [O U i0,ab s0,ab s1,ab s2,l0.v,l1.v,l2.v,l3.v,O U i1]->k0≠k2->gy [k0] 77 #[ae (some r),ae (some ⟨k2,0,none⟩)] eM fun eU=>EN eU k2 27 fun i2 s4 s5 s6 l7 l8 l9 l10 i3=>∀fM,ay [k0] eU fM->aF fM k2 27 [O U i2,ab s4,ab s5,ab s6,l7.v,l8.v,l9.v,l10.v,O U i3]->R (ah #[O U i2,ab s4,ab s5,ab s6,l7.v,l8.v,l9.v,l10.v,O U i3]) fM))):Cr 143 #[ae (some r),O U kind] w R:=
 iJ (args:=[.ad r,.int .i64 kind]) h
theorem agj(c:Sl)(c1:Int)(c2 c3 c4:aK)(c5 c6 c7 c8:Sl)(c9:Int)(R:aG)(w:av)(h:∀k0 k1 w0,w.heap.size<=k0->k0<w0.heap.size->w.heap.size<=k1->k1<w0.heap.size->ay [] w w0->az aq 36 #[ah #[O U c1,ab c2,ab c3,ab c4,c5.v,c6.v,c7.v,c8.v,O U c9]] w0 fun e0 w1=>∃i0 i1,e0=(ak (ai #[O U i0,O U i1]))/\bS [k0,k1] w0 w1/\(aF w1 k1 72 [ae none,Sl.nil.v,aj false,O U 0]->k0≠k1->gy [k0] 37 #[ae (some ⟨k1,0,none⟩),aj (((((c1==1)&&(c4.toList==((ao #[]).toList)))&&(decide ((c.n:Int)<=16)))&&(decide (i0<=64)))&&(decide (i1<=200)))] w1 fun w2=>mc w2 k1 72 fun q0 l0 b0 i2=>oe [k0] 39 #[ae (some ⟨k1,0,none⟩),ab c2] w2 fun s0 w3=>mc w3 k1 72 fun q1 l1 b1 i3=>fL (au 52 3 #[.mk 0 (ab (ao #[99,104,97,114,116])),.mk 1 (ab s0),.mk 2 (ab (ao #[123]))]) w3 fun l2 w4=>bS [k0,k1] w3 w4/\gy [k0] 38 #[ae (some ⟨k1,0,none⟩),O U 0,l2.v] w4 fun w5=>mc w5 k1 72 fun q2 l3 b2 i4=>∃J0:Nat->Int->Option Addr->Sl->Bool->Int->av->Prop,∃k2:Nat,J0 k2 0 q2 l3 b2 i4 w5/\∀k3 i5 q3,∀l4:Sl,∀b3 i6 w6,J0 k3 i5 q3 l4 b3 i6 w6->cy (decide (i5<(c.n:Int))) (aal c i5 w6 fun s1 i7 i8=>nw w6 fun k4 w7=>aF w7 k1 72 [ae q3,l4.v,aj b3,O U i6]->gy [k0,k4] 37 #[ae (some ⟨k1,0,none⟩),aj (i7 !=(-9223372036854775808))] w7 fun w8=>mc w8 k1 72 fun q4 l5 b4 i9=>∀w9,ay [] w8 w9->aF w9 k1 72 [ae q4,l5.v,aj b4,O U i9]->∃J1:aJ,J1 k4/\oe [k0,k4] 39 #[ae (some ⟨k1,0,none⟩),ab s1] w9 fun s2 dw=>mc dw k1 72 fun q5 l6 b5 i10=>bO J1 w9 dw/\oe [k0,k4] 40 #[O U i7] dw fun s3 dJ=>mc dJ k1 72 fun q6 l7 b6 i11=>bO J1 dw dJ/\((s3.size:Int)+1)<=9223372036854775807/\∃l8:Sl,∃eM,((au 52 4 #[.mk 0 (ab (ao #[118,97,114])),.mk 1 (ab s2),.mk 2 (ab (ao #[61])),.mk 3 (ab (s3++(ao #[59])))]).run aq dJ)=(.ok l8.v eM)/\bS [k0,k1,k4] dJ eM/\bO J1 dJ eM/\gy [k0,k4] 38 #[ae (some ⟨k1,0,none⟩),O U 1,l8.v] eM fun eU=>mc eU k1 72 fun q7 l9 b7 i12=>bO J1 eM eU/\nx k3 fun k5=>J0 k5 (ar U (i5+1)) q7 l9 b7 i12 eU) (gy [k0] 41 #[ae (some ⟨k1,0,none⟩),ah #[O U c1,ab c2,ab c3,ab c4,c5.v,c6.v,c7.v,c8.v,O U c9],O U 1] w6 fun fM=>mc fM k1 72 fun q8 l10 b8 i13=>fL (au 52 1 #[.mk 0 (ab (ao #[125]))]) fM fun uk iy=>bS [k0,k1] fM iy/\gy [k0] 38 #[ae (some ⟨k1,0,none⟩),O U 0,uk.v] iy fun jK=>mc jK k1 72 fun q9 uQ b9 i14=>cy b9 (R (ai #[ab (ao #[]),O U 22]) jK) (kP [k0] 42 #[ae (some ⟨k1,0,none⟩)] jK fun UZ iZ=>mc iZ k1 72 fun U0 BX W9 i15=>cy UZ (R (ai #[ab (ao #[]),O U 2]) iZ) (oe [k0] 43 #[ae (some ⟨k1,0,none⟩)] iZ fun s4 jM=>mc jM k1 72 fun Zd GA Xa i16=>az aq 34 #[ab s4] jM fun e12 kf=>∃LV:Sl,∃i17 s5 s6 s7,∃W6 W7 UW W8:Sl,∃i18 i19 i20,e12=(ak (ai #[ah #[LV.v,O U i17,ab s5,ab s6,ab s7,W6.v,W7.v,UW.v,W8.v,O U i18],ah #[O U i19,O U i20]]))/\bS [k0] jM kf/\mc kf k1 72 fun q12 Tl Y9 i21=>cy (i19 !=0) (∀k6 k7 jL,kf.heap.size<=k6->k6<jL.heap.size->kf.heap.size<=k7->k7<jL.heap.size->ay [] kf jL->aF jL k1 72 [ae q12,Tl.v,aj Y9,O U i21]->R (ai #[ab (ao #[]),O U 22]) jL) (∀k8 k9 mX,kf.heap.size<=k8->k8<mX.heap.size->kf.heap.size<=k9->k9<mX.heap.size->ay [] kf mX->aF mX k1 72 [ae q12,Tl.v,aj Y9,O U i21]->oe [k0,k8,k9] 43 #[ae (some ⟨k1,0,none⟩)] mX fun s8 qS=>mc qS k1 72 fun Ze Y5 b14 i22=>R (ai #[ab s8,O U 0]) qS)))))):Cr 14 #[ah #[c.v,O U c1,ab c2,ab c3,ab c4,c5.v,c6.v,c7.v,c8.v,O U c9]] w R:=
 fB (an:=.d 5 (.s (.s .o (.j [1,4,12,54,55] [.s 56 (.int .i64),.b 12 [.ptr,.sl,.bool,.int .i64]] .o .o)) .o)) (args:=[.agg (j5 [.sl c,.int .i64 c1,.str c2,.str c3,.str c4,.sl c5,.sl c6,.sl c7,.sl c8,.int .i64 c9])]) h
theorem aa2(n_:Int)(DC DW F8:aK)(F9 Ga DD yE:Sl)(H2:Int)(R:aG)(w:av)(h:nw w fun k0 w0=>∀w1,ay [] w0 w1->∃J0:Nat->Int->Int->Int->av->Prop,∃k1:Nat,J0 k1 1 (DD.n:Int) 0 w1/\∀k2 i0 i1 i2 w2,J0 k2 i0 i1 i2 w2->cy (decide (i2<(yE.n:Int))) (ga yE i2 w2 fun i3 s0 s1 s2 l0 l1 l2 l3 i4=>nw w2 fun k3 w3=>az aq 36 #[ah #[O U i3,ab s0,ab s1,ab s2,l0.v,l1.v,l2.v,l3.v,O U i4]] w3 fun e0 w4=>∃i5 i6,e0=(ak (ai #[O U i5,O U i6]))/\bS [k0,k3] w3 w4/\nx k2 fun k4=>J0 k4 (ar U (i0+i5)) (ar U (i1+i6)) (ar U (i2+1)) w4) (R (ai #[O U i0,O U i1]) w2)):Cr 36 #[ah #[O U n_,ab DC,ab DW,ab F8,F9.v,Ga.v,DD.v,yE.v,O U H2]] w R:=
 fB (an:=.d 2 (.s (.s .o (.j [1,12,13] [.s 2 (.int .i64),.s 3 (.int .i64),.s 14 (.int .i64)] .o .o)) .o)) (args:=[.agg (j5 [.int .i64 n_,.str DC,.str DW,.str F8,.sl F9,.sl Ga,.sl DD,.sl yE,.int .i64 H2])]) h
theorem aa3(p:Addr)(ok:Bool)(R:aG)(w:av)(h:xCB w (p.add 2) fun b0=>∃k0 k1:Nat,∃z0,∃k2:Nat,(p.add 2)=⟨k0,k1,none⟩/\aF w k0 k2 z0/\(k1+1)<=z0.length/\∀w0,ay [k0] w w0->aF w0 k0 k2 (ca z0 k1 [aj (b0||(!ok))])->R (ai #[]) w0):Cr 37 #[ae (some p),aj ok] w R:=
 iJ (args:=[.ad p,.bt ok]) h
theorem aa4(p:Addr)(s:aK)(R:aG)(w:av)(h:cB 85 #[ab s] w fun b0 w0=>cU 37 #[ae (some p),aj b0] w0 fun w1=>R (ab s) w1):Cr 39 #[ae (some p),ab s] w R:=
 iJ (args:=[.ad p,.str s]) h
theorem aa5(s:aK)(R:aG)(w:av)(h:nw w fun k0 w0=>jn3 (fun b0 s0 i0 w1=>R (aj b0) w1) fun J0=>cy ((!(s.toList==((ao #[]).toList)))&&(decide ((s.size:Int)<=24))) (∃c0:UInt8,((0:Int)<=0/\s[0]? =(some c0))/\kP [k0] 152 #[.int .u8 (UInt8.toNat c0:Int)] w0 fun b1 w2=>cy b1 (aF w2 k0 195 [ab s,O U 0]->cS 153 #[ae (some ⟨k0,0,none⟩)] w2 fun s2 w3=>VP w3 k0 195 fun s3 i1=>cy (s2.toList==s.toList) (cL 133 #[] w3 fun l0 w4=>VP w4 k0 195 fun s4 i2=>cB 154 #[l0.v,ab s] w4 fun b2 w5=>VP w5 k0 195 fun s5 i3=>J0 (!b2) s5 i3 w5) (J0 false s3 i1 w3)) (J0 false s 0 w2)) (J0 false s 0 w0)):Cr 85 #[ab s] w R:=
 fB (an:=.d 2 (.s (.j [3] [.s 2 .bool,.b 3 [.str,.int .i64]] .o .o) .o)) (args:=[.str s]) h
theorem aa6(p:Addr)(deep:Int)(words:Sl)(R:aG)(w:av)(h:cB 42 #[ae (some p)] w fun b0 w0=>∃b1,((!b0)=true->aB w0 (p.add 2) [aj b1])/\cy ((!b0)&&(!b1)) (∀w1,ay [] w0 w1->cS 83 #[ab (ao #[32,32]),O U deep] w1 fun s0 w2=>cS 84 #[words.v] w2 fun s1 w3=>((s0.size:Int)+(s1.size:Int))<=9223372036854775807/\(((s0++s1).size:Int)+1)<=9223372036854775807/\az aq 82 #[ae (some (p.add 0)),ab ((s0++s1)++(ao #[10]))] w3 fun e3 w4=>∃i0,∃v0:OV,e3=(ak (ai #[O U i0,v0.v]))/\R (ai #[]) w4) (R (ai #[]) w0)):Cr 38 #[ae (some p),O U deep,words.v] w R:=
 iJ (args:=[.ad p,.int .i64 deep,.sl words]) h
theorem aa7(p:Addr)(R:aG)(w:av)(h:cI 91 #[ae (some (p.add 0))] w fun i0 w0=>R (aj (decide (i0>16384))) w0):Cr 42 #[ae (some p)] w R:=
 iJ (args:=[.ad p]) h
theorem Ua(bb:Addr)(R:aG)(w:av)(h:oJ w (bb.add 1) fun l0=>R (O U (l0.n:Int)) w):Cr 91 #[ae (some bb)] w R:=
 iJ (args:=[.ad bb]) h
theorem aa8(words:Sl)(R:aG)(w:av)(h:cL 150 #[words.v,.func (.func 151) #[] #[]] w fun l0 w0=>cS 149 #[l0.v,ab (ao #[32])] w0 fun s0 w1=>R (ab s0) w1):Cr 84 #[words.v] w R:=
 iJ (args:=[.sl words]) h
theorem aa9(s:Sl)(del:OV)(R:aG)(w:av)(h:cI 216 #[s.v,del.v] w fun i0 w0=>cy (i0==(-1)) (R s.v w0) (T7 i0 (ar U (i0+1)) w0 fun J0 k1 i1 i2 w1=>cy (decide (i2<(s.n:Int))) (qp (fun i3 w2=>nx k1 fun k2=>J0 k2 i3 (ar U (i2+1)) w2) fun J1=>EP s i2 w1 fun s0=>∃k3:Nat,∃z0 z1,del.v=(.func (.func k3) z0.toArray z1.toArray)/\(∀x0:Array aw,∀w3,((callFunc k3 x0).run aq w3)=(.ok (.enter k3 x0) w3))/\cB k3 ((zi (zi z0 [ab s0]) z1).toArray) w1 fun b0 w4=>cy (!b0) (∃p1,dl s i1 1 p1/\∃k4 k5:Nat,∃z2,∃k6:Nat,p1=⟨k4,k5,none⟩/\aF w4 k4 k6 z2/\(k5+1)<=z2.length/\∀w5,ay [k4] w4 w5->aF w5 k4 k6 (ca z2 k5 [ab s0])->J1 (ar U (i1+1)) w5) (J1 i1 w4)) (∃k7:Nat,(i1=(k7:Int)/\k7<=s.n/\s.n<=s.c)/\∃w6,((Builtin.clear_ #[52] 0 #[(s.cut k7 s.n s.c 1).v]).run aq w1)=(.ok (ai #[]) w6)/\∃k8:Nat,(i1=(k8:Int)/\k8<=s.c)/\R ((s.cut 0 k8 s.c 1).v) w6))):Cr 150 #[s.v,del.v] w R:=
 fB (an:=.d 3 (.s (.s .o (.j [0,1] [.s 5 (.int .i64),.s 6 (.int .i64)] (.s .o (.j [0,1,6] [.s 5 (.int .i64)] .o .o)) .o)) .o)) (args:=[.sl s,.raw del]) h
theorem aba(s:Sl)(f:OV)(R:aG)(w:av)(h:pB 0 w fun J0 k1 i0 w0=>cy (decide (i0<(s.n:Int))) (EP s i0 w0 fun s0=>∃k2:Nat,∃z0 z1,f.v=(.func (.func k2) z0.toArray z1.toArray)/\(∀x0:Array aw,∀w1,((callFunc k2 x0).run aq w1)=(.ok (.enter k2 x0) w1))/\cB k2 ((zi (zi z0 [ab s0]) z1).toArray) w0 fun b0 w2=>cy b0 (R (O U i0) w2) (nx k1 fun k3=>J0 k3 (ar U (i0+1)) w2)) (R (O U (-1)) w0)):Cr 216 #[s.v,f.v] w R:=
 fB (an:=.s .o (.s (.s .o (.j [0,1,7] [.s 8 (.int .i64)] .o .o)) .o)) (args:=[.sl s,.raw f]) h
theorem abb(s:aK)(R:aG)(w:av)(h:R (aj (s.toList==((ao #[]).toList))) w):Cr 151 #[ab s] w R:=
 iJ (args:=[.str s]) h
theorem Ub(bb:Addr)(s:aK)(R:aG)(w:av)(h:cU 145 #[ae (some bb)] w fun w0=>oJ w0 (bb.add 1) fun l0=>fL (Builtin.append_ #[68,9] 68 #[l0.v,ab s]) w0 fun l1 w1=>∃k0 k1:Nat,∃z0,∃k2:Nat,(bb.add 1)=⟨k0,k1,none⟩/\aF w1 k0 k2 z0/\(k1+1)<=z0.length/\∀w2,ay [k0] w1 w2->aF w2 k0 k2 (ca z0 k1 [l1.v])->R (ai #[O U (s.size:Int),.nilIface]) w2):Cr 82 #[ae (some bb),ab s] w R:=
 iJ (args:=[.ad bb,.str s]) h
theorem Uc(bb:Addr)(R:aG)(w:av)(h:xCQ w (bb.add 0) fun q0=>cy q0.isNone (∃v0:OV,∃w0,((convert 67 248 (ae (some bb))).run aq w)=(.ok v0.v w0)/\∃v1:OV,∃w1,((KV 211 #[v0.v]).run aq w0)=(.ok v1.v w1)/\∃q1 w2,((convert 248 67 v1.v).run aq w1)=(.ok (ae q1) w2)/\∃k0 k1:Nat,∃z0,∃k2:Nat,(bb.add 0)=⟨k0,k1,none⟩/\aF w2 k0 k2 z0/\(k1+1)<=z0.length/\∀w3,ay [k0] w2 w3->aF w3 k0 k2 (ca z0 k1 [ae q1])->R (ai #[]) w3) (xCQ w (bb.add 0) fun q2=>∃b0 w4,((binOp .neq 67 (ae q2) (ae (some bb))).run aq w)=(.ok (aj b0) w4)/\cy b0 (False) (R (ai #[]) w4))):Cr 145 #[ae (some bb)] w R:=
 iJ (args:=[.ad bb]) h
theorem v1w(n_:Int)(R:aG)(w:av)(h:cS 86 #[O U n_] w fun s0 w0=>R (ab s0) w0):Cr 40 #[O U n_] w R:=
 iJ (args:=[.int .i64 n_]) h
theorem abc(p:Addr)(n_:Int)(DC DW F8:aK)(F9 Ga DD yE:Sl)(H2 deep:Int)(R:aG)(w:av)(h:nw w fun k0 w0=>Gs (fun w1=>oe [k0] 88 #[ae (some p),F9.v] w1 fun s0 w2=>gy [k0] 87 #[ae (some p),O U deep,ab (ao #[101,110,116,101,114]),ab s0] w2 fun w3=>oe [k0] 88 #[ae (some p),Ga.v] w3 fun s1 w4=>gy [k0] 87 #[ae (some p),O U deep,ab (ao #[108,101,97,118,101]),ab s1] w4 fun w5=>pB 0 w5 fun J1 k2 i0 w6=>cy (decide (i0<(DD.n:Int))) (jp DD i0 w6 fun i1 s2 i2 b0 i3 i4 s3 i5 l0 i6 l1 l2 i7=>nw w6 fun k3 w7=>oe [k0,k3] 89 #[ae (some p),ah #[O U i1,ab s2,O U i2,aj b0,O U i3,O U i4,ab s3,O U i5,l0.v,O U i6,l1.v,l2.v,O U i7]] w7 fun s4 w8=>fL (au 52 1 #[.mk 0 (ab s4)]) w8 fun l3 w9=>bS [k0,k3] w8 w9/\gy [k0,k3] 38 #[ae (some p),O U deep,l3.v] w9 fun dw=>nx k2 fun k4=>J1 k4 (ar U (i0+1)) dw) (pB 0 w6 fun J2 k6 i8 dJ=>cy (decide (i8<(yE.n:Int))) (ga yE i8 dJ fun i9 s5 s6 s7 l4 l5 l6 l7 i10=>nw dJ fun k7 eM=>gy [k0,k7] 90 #[ae (some p),ah #[O U i9,ab s5,ab s6,ab s7,l4.v,l5.v,l6.v,l7.v,O U i10],O U deep] eM fun eU=>nx k6 fun k8=>J2 k8 (ar U (i8+1)) eU) (R (ai #[]) dJ))) fun J0=>cy (!(DW.toList==((ao #[]).toList))) (oe [k0] 39 #[ae (some p),ab DW] w0 fun s8 fM=>((s8.size:Int)+1)<=9223372036854775807/\gy [k0] 87 #[ae (some p),O U deep,ab (ao #[105,110,105,116,105,97,108]),ab (s8++(ao #[59]))] fM fun iy=>J0 iy) (J0 w0)):Cr 41 #[ae (some p),ah #[O U n_,ab DC,ab DW,ab F8,F9.v,Ga.v,DD.v,yE.v,O U H2],O U deep] w R:=
 fB (an:=.s .o (.j [0,2,4] [] .o (.d 2 (.s (.s .o (.j [0,2,4,36,37] [.s 38 (.int .i64)] .o .o)) (.s .o (.j [0,2,4,7,51,52] [.s 53 (.int .i64)] .o .o)))))) (args:=[.ad p,.agg (j5 [.int .i64 n_,.str DC,.str DW,.str F8,.sl F9,.sl Ga,.sl DD,.sl yE,.int .i64 H2]),.int .i64 deep]) h
theorem abd(p:Addr)(deep:Int)(word text:aK)(R:aG)(w:av)(h:cy (!(text.toList==((ao #[]).toList))) (∃l0:Sl,∃w0,((au 52 2 #[.mk 0 (ab word),.mk 1 (ab text)]).run aq w)=(.ok l0.v w0)/\cU 38 #[ae (some p),O U deep,l0.v] w0 fun w1=>R (ai #[]) w1) (R (ai #[]) w)):Cr 87 #[ae (some p),O U deep,ab word,ab text] w R:=
 iJ (args:=[.ad p,.int .i64 deep,.str word,.str text]) h
theorem abe(p:Addr)(l:Sl)(R:aG)(w:av)(h:cy ((l.n:Int)==0) (R (ab (ao #[])) w) (iz w (p.add 3) fun i0=>∃k0 k1:Nat,∃z0,∃k2:Nat,(p.add 3)=⟨k0,k1,none⟩/\aF w k0 k2 z0/\(k1+1)<=z0.length/\∀w0,ay [k0] w w0->aF w0 k0 k2 (ca z0 k1 [O U (ar U (i0+(l.n:Int)))])->iz w0 (p.add 3) fun i1=>cU 37 #[ae (some p),aj (decide (i1<=400))] w0 fun w1=>fL (au 52 1 #[.mk 0 (ab (ao #[123]))]) w1 fun l0 w2=>qp (fun l1 w3=>fL (au 52 1 #[.mk 0 (ab (ao #[125]))]) w3 fun l2 w4=>fL (Builtin.append_ #[52,52] 52 #[l1.v,l2.v]) w4 fun l3 w5=>cS 84 #[l3.v] w5 fun s0 w6=>R (ab s0) w6) fun J0=>T7 l0 0 w2 fun J1 k4 l4 i2 w7=>cy (decide (i2<(l.n:Int))) (rR l i2 w7 fun i3 s1 i4 i5 s2 i6 l5 i7 i8=>nw w7 fun k5 w8=>xCB w8 (p.add 2) fun b0=>cy b0 (J0 l4 w8) (oe [k5] 156 #[ae (some p),ah #[O U i3,ab s1,O U i4,O U i5,ab s2,O U i6,l5.v,O U i7,O U i8]] w8 fun s3 w9=>fL (au 52 1 #[.mk 0 (ab s3)]) w9 fun l6 dw=>bS [k5] w9 dw/\fL (Builtin.append_ #[52,52] 52 #[l4.v,l6.v]) dw fun l7 dJ=>bS [k5] dw dJ/\nx k4 fun k6=>J1 k6 l7 (ar U (i2+1)) dJ)) (J0 l4 w7))):Cr 88 #[ae (some p),l.v] w R:=
 fB (an:=.d 5 (.j [] [.s 5 .sl] (.s .o (.j [0,28,29] [.s 5 .sl,.s 30 (.int .i64)] .o .o)) .o)) (args:=[.ad p,.sl l]) h
theorem abf(p:Addr)(a_:Int)(rG:aK)(xR xS:Int)(wZ:aK)(xT:Int)(Av:Sl)(Aw Gb:Int)(R:aG)(w:av)(h:nw w fun k0 w0=>fL (au 52 4 #[.mk 0 (ab (ao #[])),.mk 1 (ab (ao #[115,101,116])),.mk 2 (ab (ao #[114,97,105,115,101])),.mk 3 (ab (ao #[101,109,105,116]))]) w0 fun l0 w1=>bS [k0] w0 w1/\cy ((decide (a_<1))||(decide (a_>3))) (gy [k0] 37 #[ae (some p),aj false] w1 fun w2=>R (ab (ao #[])) w2) (cy (a_==2) (gy [k0] 158 #[ae (some p),ah #[O U xR,O U xS,ab wZ,O U xT,Av.v,O U Aw]] w1 fun w3=>∀w4,ay [] w3 w4->∃J0:aJ,J0 k0/\∃p0,dl l0 a_ 1 p0/\J0 p0.block/\IV w4 p0 fun s0=>oe [k0] 39 #[ae (some p),ab rG] w4 fun s1 w5=>bO J0 w4 w5/\fL (au 52 2 #[.mk 0 (ab s0),.mk 1 (ab s1)]) w5 fun l1 w6=>bS [k0] w5 w6/\bO J0 w5 w6/\oe [k0] 84 #[l1.v] w6 fun s2 w7=>bO J0 w6 w7/\((s2.size:Int)+1)<=9223372036854775807/\R (ab (s2++(ao #[59]))) w7) (∀w8,ay [] w1 w8->∃J1:aJ,J1 k0/\∃p1,dl l0 a_ 1 p1/\J1 p1.block/\IV w8 p1 fun s3=>J1 k0/\oe [k0] 39 #[ae (some p),ab rG] w8 fun s4 w9=>bO J1 w8 w9/\oe [k0] 157 #[ae (some p),ah #[O U xR,O U xS,ab wZ,O U xT,Av.v,O U Aw]] w9 fun s5 dw=>bO J1 w9 dw/\fL (au 52 4 #[.mk 0 (ab s3),.mk 1 (ab s4),.mk 2 (ab (ao #[61])),.mk 3 (ab s5)]) dw fun l2 dJ=>bS [k0] dw dJ/\bO J1 dw dJ/\oe [k0] 84 #[l2.v] dJ fun s6 eM=>bO J1 dJ eM/\((s6.size:Int)+1)<=9223372036854775807/\R (ab (s6++(ao #[59]))) eM))):Cr 156 #[ae (some p),ah #[O U a_,ab rG,O U xR,O U xS,ab wZ,O U xT,Av.v,O U Aw,O U Gb]] w R:=
 iJ (args:=[.ad p,.agg (j5 [.int .i64 a_,.str rG,.int .i64 xR,.int .i64 xS,.str wZ,.int .i64 xT,.sl Av,.int .i64 Aw,.int .i64 Gb])]) h
theorem abg(p:Addr)(x x1:Int)(x2:aK)(x3:Int)(x4:Sl)(x5:Int)(R:aG)(w:av)(h:nw w fun k0 w0=>gy [k0] 37 #[ae (some p),aj (((((x==0)&&(x1==0))&&(x2.toList==((ao #[]).toList)))&&(x3==0))&&((x4.n:Int)==0))] w0 fun w1=>R (ai #[]) w1):Cr 158 #[ae (some p),ah #[O U x,O U x1,ab x2,O U x3,x4.v,O U x5]] w R:=
 iJ (args:=[.ad p,.agg (j5 [.int .i64 x,.int .i64 x1,.str x2,.int .i64 x3,.sl x4,.int .i64 x5])]) h
theorem abh(p:Addr)(x x1:Int)(x2:aK)(x3:Int)(x4:Sl)(x5:Int)(R:aG)(w:av)(h:nw w fun k0 w0=>oe [k0] 218 #[ah #[O U x,O U x1,ab x2,O U x3,x4.v,O U x5]] w0 fun s0 w1=>gy [k0] 37 #[ae (some p),aj (!(s0.toList==((ao #[]).toList)))] w1 fun w2=>R (ab s0) w2):Cr 157 #[ae (some p),ah #[O U x,O U x1,ab x2,O U x3,x4.v,O U x5]] w R:=
 iJ (args:=[.ad p,.agg (j5 [.int .i64 x,.int .i64 x1,.str x2,.int .i64 x3,.sl x4,.int .i64 x5])]) h
theorem v6w(x x1:Int)(x2:aK)(x3:Int)(x4:Sl)(x5:Int)(R:aG)(w:av)(h:nw w fun k0 w0=>kP [k0] 262 #[ah #[O U x,O U x1,ab x2,O U x3,x4.v,O U x5]] w0 fun b0 w1=>cy (!b0) (R (ab (ao #[])) w1) (AQ [k0] 263 #[] w1 fun l0 w2=>nw w2 fun k1 w3=>aF w3 k1 288 [ae none,Sl.nil.v,l0.v]->gy [k0] 264 #[ae (some ⟨k1,0,none⟩),ah #[O U x,O U x1,ab x2,O U x3,x4.v,O U x5],aj false] w3 fun w4=>IW w4 k1 288 fun q0 l1 l2=>oe [k0] 43 #[ae (some ⟨k1,0,none⟩)] w4 fun s0 w5=>IW w5 k1 288 fun q1 l3 l4=>az aq 265 #[ab s0] w5 fun e4 w6=>∃i0 i1 s1 i2,∃l5:Sl,∃i3 i4 i5,e4=(ak (ai #[ah #[O U i0,O U i1,ab s1,O U i2,l5.v,O U i3],ah #[O U i4,O U i5]]))/\bS [k0] w5 w6/\IW w6 k1 288 fun q2 l6 l7=>cy (i4 !=0) (∀k2 k3 w7,w6.heap.size<=k2->k2<w7.heap.size->w6.heap.size<=k3->k3<w7.heap.size->ay [] w6 w7->aF w7 k1 288 [ae q2,l6.v,l7.v]->R (ab (ao #[])) w7) (∀k4 k5 w8,w6.heap.size<=k4->k4<w8.heap.size->w6.heap.size<=k5->k5<w8.heap.size->ay [] w6 w8->aF w8 k1 288 [ae q2,l6.v,l7.v]->oe [k0,k4,k5] 43 #[ae (some ⟨k1,0,none⟩)] w8 fun s2 w9=>IW w9 k1 288 fun q3 l8 l9=>R (ab s2) w9))):Cr 218 #[ah #[O U x,O U x1,ab x2,O U x3,x4.v,O U x5]] w R:=
 iJ (args:=[.agg (j5 [.int .i64 x,.int .i64 x1,.str x2,.int .i64 x3,.sl x4,.int .i64 x5])]) h
theorem agk(x x1:Int)(x2:aK)(x3:Int)(x4:Sl)(x5:Int)(R:aG)(w:av)(h:∀k0 k1 w0,w.heap.size<=k0->k0<w0.heap.size->w.heap.size<=k1->k1<w0.heap.size->ay [] w w0->∃J0:Int->Int->Int->aK->Int->Sl->Int->av->Prop,(∀i0 i1 i2 s0 i3,∀l0:Sl,∀i4 w1,J0 i0 i1 i2 s0 i3 l0 i4 w1->qp (fun b0 w2=>R (aj b0) w2) fun J1=>cy ((((x1==i2)&&(x2.toList==s0.toList))&&(x3==i3))&&((x4.n:Int)==i0)) (kP [k0,k1] 294 #[x4.v,.func (.func 295) #[] #[]] w1 fun b1 w3=>J1 (!b1) w3) (J1 false w1))/\cy (x==1) (∀w4,ay [k1] w0 w4->J0 0 x (if 0>x1 then 0 else x1) (ao #[]) 0 Sl.nil x5 w4) (qp (fun b2 w5=>cy b2 (kP [k0,k1] 85 #[ab x2] w5 fun b3 w6=>cy (!b3) (R (aj false) w6) (∀w7,ay [k1] w6 w7->J0 0 x 0 x2 0 Sl.nil x5 w7)) (cy (x==4) (cy (x3==15) (∀w8,ay [k1] w5 w8->J0 1 x 0 (ao #[]) 15 Sl.nil x5 w8) (∀w9,ay [k1] w5 w9->J0 1 x 0 (ao #[]) 14 Sl.nil x5 w9)) (cy (x==5) (rj [k0,k1] 293 #[O U x3] w5 fun i5 dw=>cy (i5==6) (R (aj false) dw) (∀dJ,ay [k1] dw dJ->J0 2 x 0 (ao #[]) x3 Sl.nil x5 dJ)) (R (aj false) w5)))) fun J2=>cy (x==2) (J2 (x==2) w0) (J2 (x==3) w0))):Cr 262 #[ah #[O U x,O U x1,ab x2,O U x3,x4.v,O U x5]] w R:=
 fB (an:=.d 3 (.j [1,3] [.s 4 (.int .i64),.b 3 [.int .i64,.int .i64,.str,.int .i64,.sl,.int .i64]] (.d 3 (.j [1,3,4,11] [.s 18 .bool] .o .o)) (.s (.j [1,3] [.s 2 .bool] .o .o) .o))) (args:=[.agg (j5 [.int .i64 x,.int .i64 x1,.str x2,.int .i64 x3,.sl x4,.int .i64 x5])]) h
theorem abi(s:Sl)(f:OV)(R:aG)(w:av)(h:cI 310 #[s.v,f.v] w fun i0 w0=>R (aj (decide (i0>=0))) w0):Cr 294 #[s.v,f.v] w R:=
 iJ (args:=[.sl s,.raw f]) h
theorem abj(s:Sl)(f:OV)(R:aG)(w:av)(h:pB 0 w fun J0 k1 i0 w0=>cy (decide (i0<(s.n:Int))) (jo s i0 w0 fun i1 i2 s0 i3 l0 i4=>∃k2:Nat,∃z0 z1,f.v=(.func (.func k2) z0.toArray z1.toArray)/\(∀x0:Array aw,∀w1,((callFunc k2 x0).run aq w1)=(.ok (.enter k2 x0) w1))/\cB k2 ((zi (zi z0 [ah #[O U i1,O U i2,ab s0,O U i3,l0.v,O U i4]]) z1).toArray) w0 fun b0 w2=>cy b0 (R (O U i0) w2) (nx k1 fun k3=>J0 k3 (ar U (i0+1)) w2)) (R (O U (-1)) w0)):Cr 310 #[s.v,f.v] w R:=
 fB (an:=.s .o (.s (.s .o (.j [0,1,7] [.s 8 (.int .i64)] .o .o)) .o)) (args:=[.sl s,.raw f]) h
theorem agl(s s1:Int)(s2:aK)(s3:Int)(s4:Sl)(s5:Int)(R:aG)(w:av)(h:nw w fun k0 w0=>kP [k0] 262 #[ah #[O U s,O U s1,ab s2,O U s3,s4.v,O U s5]] w0 fun b0 w1=>R (aj (!b0)) w1):Cr 295 #[ah #[O U s,O U s1,ab s2,O U s3,s4.v,O U s5]] w R:=
 iJ (args:=[.agg (j5 [.int .i64 s,.int .i64 s1,.str s2,.int .i64 s3,.sl s4,.int .i64 s5])]) h
theorem agm(p:Addr)(x x1:Int)(x2:aK)(x3:Int)(x4:Sl)(x5:Int)(wrapped:Bool)(R:aG)(w:av)(h:nw w fun k0 w0=>rj [k0] 91 #[ae (some (p.add 0))] w0 fun i0 w1=>cy (decide (i0>16384)) (R (ai #[]) w1) (cy wrapped (az aq 296 #[ae (some (p.add 0)),.int .u8 40] w1 fun e1 w2=>∃v0:OV,e1=(ak v0.v)/\bS [k0] w1 w2/\cy (x==1) (∀w3,ay [] w2 w3->oe [k0] 40 #[O U x1] w3 fun s0 w4=>az aq 82 #[ae (some (p.add 0)),ab s0] w4 fun e3 w5=>∃i1,∃v1:OV,e3=(ak (ai #[O U i1,v1.v]))/\bS [k0] w4 w5/\kR aq 296 #[ae (some (p.add 0)),.int .u8 41] w5 (fun x0 w6=>R (ai #[]) w6)) (cy (x==2) (∀w7,ay [] w2 w7->az aq 82 #[ae (some (p.add 0)),ab x2] w7 fun e4 w8=>∃i2,∃v2:OV,e4=(ak (ai #[O U i2,v2.v]))/\bS [k0] w7 w8/\kR aq 296 #[ae (some (p.add 0)),.int .u8 41] w8 (fun x1 w9=>R (ai #[]) w9)) (cy (x==3) ((3+(x2.size:Int))<=9223372036854775807/\((((ao #[105,110,40])++x2).size:Int)+1)<=9223372036854775807/\∀dw,ay [] w2 dw->az aq 82 #[ae (some (p.add 0)),ab (((ao #[105,110,40])++x2)++(ao #[41]))] dw fun e5 dJ=>∃i3,∃v3:OV,e5=(ak (ai #[O U i3,v3.v]))/\bS [k0] dw dJ/\kR aq 296 #[ae (some (p.add 0)),.int .u8 41] dJ (fun x2 eM=>R (ai #[]) eM)) (cy (x==4) (∀eU,ay [] w2 eU->oJ eU (p.add 2) fun l0=>EP l0 x3 eU fun s1=>az aq 82 #[ae (some (p.add 0)),ab s1] eU fun e6 fM=>∃i4,∃v4:OV,e6=(ak (ai #[O U i4,v4.v]))/\bS [k0] eU fM/\∀iy,ay [] fM iy->∃J0:aJ,J0 k0/\∃p1,dl x4 0 6 p1/\J0 p1.block/\im iy p1 fun i5 i6 s2 i7 l1 i8=>jo x4 0 iy fun i9 i10 s3 i11 l2 i12=>rj [k0] 297 #[ah #[O U i9,O U i10,ab s3,O U i11,l2.v,O U i12]] iy fun i13 jK=>bO J0 iy jK/\gy [k0] 264 #[ae (some p),ah #[O U i5,O U i6,ab s2,O U i7,l1.v,O U i8],aj (decide (i13<6))] jK fun iZ=>bO J0 jK iZ/\kR aq 296 #[ae (some (p.add 0)),.int .u8 41] iZ (fun x3 jM=>R (ai #[]) jM)) (rj [k0] 297 #[ah #[O U x,O U x1,ab x2,O U x3,x4.v,O U x5]] w2 fun i14 kf=>∀jL,ay [] kf jL->∃J1:aJ,J1 k0/\∃p3,dl x4 0 6 p3/\J1 p3.block/\im jL p3 fun i15 i16 s4 i17 l3 i18=>jo x4 0 jL fun i19 i20 s5 i21 l4 i22=>rj [k0] 297 #[ah #[O U i19,O U i20,ab s5,O U i21,l4.v,O U i22]] jL fun i23 mX=>bO J1 jL mX/\gy [k0] 264 #[ae (some p),ah #[O U i15,O U i16,ab s4,O U i17,l3.v,O U i18],aj (decide (i23<i14))] mX fun qS=>bO J1 mX qS/\∀rh,ay [] qS rh->oJ rh (p.add 2) fun l5=>EP l5 x3 rh fun s6=>(1+(s6.size:Int))<=9223372036854775807/\((((ao #[32])++s6).size:Int)+1)<=9223372036854775807/\az aq 82 #[ae (some (p.add 0)),ab (((ao #[32])++s6)++(ao #[32]))] rh fun e12 tG=>∃i24,∃v5:OV,e12=(ak (ai #[O U i24,v5.v]))/\bS [k0] rh tG/\∀po,ay [] tG po->∃J2:aJ,J2 k0/\∃p6,dl x4 1 6 p6/\J2 p6.block/\im po p6 fun i25 i26 s7 i27 l6 i28=>jo x4 1 po fun i29 i30 s8 i31 l7 i32=>rj [k0] 297 #[ah #[O U i29,O U i30,ab s8,O U i31,l7.v,O U i32]] po fun i33 qT=>bO J2 po qT/\gy [k0] 264 #[ae (some p),ah #[O U i25,O U i26,ab s7,O U i27,l6.v,O U i28],aj (decide (i33<=i14))] qT fun tW=>bO J2 qT tW/\kR aq 296 #[ae (some (p.add 0)),.int .u8 41] tW (fun x4 wY=>R (ai #[]) wY)))))) (cy (x==1) (∀AZ,ay [] w1 AZ->oe [k0] 40 #[O U x1] AZ fun s9 Mu=>az aq 82 #[ae (some (p.add 0)),ab s9] Mu fun e16 Rg=>∃i34,∃v6:OV,e16=(ak (ai #[O U i34,v6.v]))/\bS [k0] Mu Rg/\R (ai #[]) Rg) (cy (x==2) (∀Za,ay [] w1 Za->az aq 82 #[ae (some (p.add 0)),ab x2] Za fun e17 Zb=>∃i35,∃v7:OV,e17=(ak (ai #[O U i35,v7.v]))/\bS [k0] Za Zb/\R (ai #[]) Zb) (cy (x==3) ((3+(x2.size:Int))<=9223372036854775807/\((((ao #[105,110,40])++x2).size:Int)+1)<=9223372036854775807/\∀Xc,ay [] w1 Xc->az aq 82 #[ae (some (p.add 0)),ab (((ao #[105,110,40])++x2)++(ao #[41]))] Xc fun e18 Zc=>∃i36,∃v8:OV,e18=(ak (ai #[O U i36,v8.v]))/\bS [k0] Xc Zc/\R (ai #[]) Zc) (cy (x==4) (∀w36,ay [] w1 w36->oJ w36 (p.add 2) fun l8=>EP l8 x3 w36 fun Ms=>az aq 82 #[ae (some (p.add 0)),ab Ms] w36 fun e19 w37=>∃i37,∃v9:OV,e19=(ak (ai #[O U i37,v9.v]))/\bS [k0] w36 w37/\∀w38,ay [] w37 w38->∃J3:aJ,J3 k0/\∃p9,dl x4 0 6 p9/\J3 p9.block/\im w38 p9 fun i38 i39 Kv i40 l9 i41=>jo x4 0 w38 fun i42 i43 Tm i44 l10 i45=>rj [k0] 297 #[ah #[O U i42,O U i43,ab Tm,O U i44,l10.v,O U i45]] w38 fun i46 w39=>bO J3 w38 w39/\gy [k0] 264 #[ae (some p),ah #[O U i38,O U i39,ab Kv,O U i40,l9.v,O U i41],aj (decide (i46<6))] w39 fun w40=>bO J3 w39 w40/\R (ai #[]) w40) (rj [k0] 297 #[ah #[O U x,O U x1,ab x2,O U x3,x4.v,O U x5]] w1 fun i47 w41=>∀w42,ay [] w41 w42->∃J4:aJ,J4 k0/\∃p11,dl x4 0 6 p11/\J4 p11.block/\im w42 p11 fun i48 i49 Y6 i50 uk i51=>jo x4 0 w42 fun i52 i53 Y7 i54 uQ i55=>rj [k0] 297 #[ah #[O U i52,O U i53,ab Y7,O U i54,uQ.v,O U i55]] w42 fun i56 w43=>bO J4 w42 w43/\gy [k0] 264 #[ae (some p),ah #[O U i48,O U i49,ab Y6,O U i50,uk.v,O U i51],aj (decide (i56<i47))] w43 fun w44=>bO J4 w43 w44/\∀w45,ay [] w44 w45->oJ w45 (p.add 2) fun BX=>EP BX x3 w45 fun UX=>(1+(UX.size:Int))<=9223372036854775807/\((((ao #[32])++UX).size:Int)+1)<=9223372036854775807/\az aq 82 #[ae (some (p.add 0)),ab (((ao #[32])++UX)++(ao #[32]))] w45 fun e25 w46=>∃i57,∃v10:OV,e25=(ak (ai #[O U i57,v10.v]))/\bS [k0] w45 w46/\∀w47,ay [] w46 w47->∃J5:aJ,J5 k0/\∃p14,dl x4 1 6 p14/\J5 p14.block/\im w47 p14 fun i58 i59 UY i60 GA i61=>jo x4 1 w47 fun i62 i63 Y8 i64 LV i65=>rj [k0] 297 #[ah #[O U i62,O U i63,ab Y8,O U i64,LV.v,O U i65]] w47 fun i66 w48=>bO J5 w47 w48/\gy [k0] 264 #[ae (some p),ah #[O U i58,O U i59,ab UY,O U i60,GA.v,O U i61],aj (decide (i66<=i47))] w48 fun w49=>bO J5 w48 w49/\R (ai #[]) w49))))))):Cr 264 #[ae (some p),ah #[O U x,O U x1,ab x2,O U x3,x4.v,O U x5],aj wrapped] w R:=
 iJ (args:=[.ad p,.agg (j5 [.int .i64 x,.int .i64 x1,.str x2,.int .i64 x3,.sl x4,.int .i64 x5]),.bt wrapped]) h
def IY(bb:Addr)(c:Int)(R:aG)(w:av):Prop:=
 cU 145 #[ae (some bb)] w fun w0=>oJ w0 (bb.add 1) fun l0=>fL (au 68 1 #[.mk 0 (.int .u8 c)]) w0 fun l1 w1=>fL (Builtin.append_ #[68,68] 68 #[l0.v,l1.v]) w1 fun l2 w2=>∃k0 k1:Nat,∃z0,∃k2:Nat,(bb.add 1)=⟨k0,k1,none⟩/\
  aF w2 k0 k2 z0/\
  (k1+1)<=z0.length/\
  ∀w3,ay [k0] w2 w3->aF w3 k0 k2 (ca z0 k1 [l2.v])->R .nilIface w3
theorem abk(bb:Addr)(c:Int)(R:aG)(w:av)(h:IY bb c R w):Cr 296 #[ae (some bb),.int .u8 c] w R:=
 iJ (args:=[.ad bb,.int .u8 c]) h
theorem mP(bb:Addr)(c:Int)(R:aG)(w:av)(h:IY bb c R w):kR aq 296 #[ae (some bb),.int .u8 c] w R:=
 aai (an:=.o) (args:=[.ad bb,.int .u8 c]) Tryz.checked.mixed (by kernel_rfl) (by kernel_rfl) h
theorem agn(x x1:Int)(x2:aK)(x3:Int)(x4:Sl)(x5:Int)(R:aG)(w:av)(h:cy (x !=5) (nw w fun k0 w0=>R (O U 6) w0) (nw w fun k1 w1=>rj [k1] 293 #[O U x3] w1 fun i0 w2=>R (O U i0) w2)):Cr 297 #[ah #[O U x,O U x1,ab x2,O U x3,x4.v,O U x5]] w R:=
 iJ (args:=[.agg (j5 [.int .i64 x,.int .i64 x1,.str x2,.int .i64 x3,.sl x4,.int .i64 x5])]) h
theorem Ud(bb:Addr)(R:aG)(w:av)(h:∀w0,ay [] w w0->∃J0:aJ,oJ w0 (bb.add 1) fun l0=>J0 ((bb.add 1).block)/\oJ w0 (bb.add 1) fun l1=>∃q0 w1,((Builtin.unsafeSliceData_ #[68] 153 #[l0.v]).run aq w0)=(.ok (ae q0) w1)/\bO J0 w0 w1/\∃s0 w2,((Builtin.unsafeString_ #[153,3] 9 #[ae q0,O U (l1.n:Int)]).run aq w1)=(.ok (ab s0) w2)/\bO J0 w1 w2/\R (ab s0) w2):Cr 43 #[ae (some bb)] w R:=
 iJ (args:=[.ad bb]) h
theorem v5w(s:aK)(R:aG)(w:av)(h:∀k0 k1 w0,w.heap.size<=k0->k0<w0.heap.size->w.heap.size<=k1->k1<w0.heap.size->ay [] w w0->az aq 72 #[ab s] w0 fun e0 w1=>∃l0:Sl,∃i0 i1,e0=(ak (ai #[l0.v,ah #[O U i0,O U i1]]))/\bS [k0,k1] w0 w1/\cy (i0 !=0) (nw w1 fun k2 w2=>k0≠k1->k0≠k2->k1≠k2->∃J0:aJ,J0 k2/\ux J0 k0/\ux J0 k1/\∀w3,ay [k1,k0] w2 w3->R (ai #[ah #[O U 0,O U 0,ab (ao #[]),O U 0,Sl.nil.v,O U 0],ah #[O U i0,O U i1]]) w3) (nw w1 fun k3 w4=>az aq 288 #[l0.v,O U 0] w4 fun e1 w5=>∃i2 i3 s0 i4,∃l1:Sl,∃i5 i6 i7 i8,e1=(ak (ai #[ah #[O U i2,O U i3,ab s0,O U i4,l1.v,O U i5],O U i6,ah #[O U i7,O U i8]]))/\bS [k0,k1,k3] w4 w5/\∀k4 w6,w5.heap.size<=k4->k4<w6.heap.size->ay [k3] w5 w6->jn2 (fun i9 i10 w7=>cy (i9 !=0) (∀w8,ay [] w7 w8->k0≠k1->k0≠k3->k0≠k4->k1≠k3->k1≠k4->k3≠k4->∃J2:aJ,J2 k3/\ux J2 k0/\ux J2 k1/\∀w9,ay [k1,k0] w8 w9->R (ai #[ah #[O U 0,O U 0,ab (ao #[]),O U 0,Sl.nil.v,O U 0],ah #[O U i9,O U i10]]) w9) (∀dw,ay [] w7 dw->k0≠k1->k0≠k3->k0≠k4->k1≠k3->k1≠k4->k3≠k4->∃J3:aJ,J3 k3/\ux J3 k0/\ux J3 k1/\∀dJ,ay [k1,k0] dw dJ->R (ai #[ah #[O U i2,O U i3,ab s0,O U i4,l1.v,O U i5],ah #[O U i9,O U i10]]) dJ)) fun J1=>∃p0,((i7==0)=true->dl l0 i6 4 p0)/\∃i11,((i7==0)=true->aB w6 (p0.add 0) [O U i11])/\cy ((i7==0)&&(i11 !=5)) (∃p1,dl l0 i6 4 p1/\iz w6 (p1.add 3) fun i12=>∀eM,ay [k3] w6 eM->J1 4 i12 eM) (J1 i7 i8 w6))):Cr 265 #[ab s] w R:=
 fB (an:=.d 4 (.j [2,3,5,6] [.b 5 [.int .i64,.int .i64]] .o .o)) (args:=[.str s]) h
theorem abl(p:Addr)(m:Int)(m1:aK)(m2:Int)(m3:Bool)(m4 m5:Int)(m6:aK)(m7:Int)(m8:Sl)(m9:Int)(m10 m11:Sl)(m12:Int)(R:aG)(w:av)(h:nw w fun k0 w0=>qp (fun s0 w1=>gy [k0] 37 #[ae (some p),aj (((m1.toList==((ao #[]).toList))||(m==1))&&((m2==0)||(m==3)))] w1 fun w2=>qp (fun s1 w3=>pB 0 w3 fun J2 k2 i0 w4=>cy (decide (i0<(m11.n:Int))) (EP m11 i0 w4 fun s2=>oe [k0] 39 #[ae (some p),ab s2] w4 fun s3 w5=>nx k2 fun k3=>J2 k3 (ar U (i0+1)) w5) (qp (fun s4 w6=>oe [k0] 88 #[ae (some p),m10.v] w6 fun s5 w7=>fL (au 52 4 #[.mk 0 (ab s0),.mk 1 (ab s1),.mk 2 (ab s5),.mk 3 (ab s4)]) w7 fun l0 w8=>bS [k0] w7 w8/\oe [k0] 84 #[l0.v] w8 fun s6 w9=>((s6.size:Int)+1)<=9223372036854775807/\R (ab (s6++(ao #[59]))) w9) fun J3=>cy (decide ((m11.n:Int)>0)) (oe [k0] 149 #[m11.v,ab (ao #[44,32])] w4 fun s7 dw=>(3+(s7.size:Int))<=9223372036854775807/\J3 ((ao #[45,62,32])++s7) dw) (J3 (ao #[]) w4))) fun J1=>cy m3 (oe [k0] 157 #[ae (some p),ah #[O U m4,O U m5,ab m6,O U m7,m8.v,O U m9]] w2 fun s8 dJ=>(1+(s8.size:Int))<=9223372036854775807/\((((ao #[91])++s8).size:Int)+1)<=9223372036854775807/\J1 (((ao #[91])++s8)++(ao #[93])) dJ) (gy [k0] 158 #[ae (some p),ah #[O U m4,O U m5,ab m6,O U m7,m8.v,O U m9]] w2 fun eM=>J1 (ao #[]) eM)) fun J0=>cy (m==1) (oe [k0] 39 #[ae (some p),ab m1] w0 fun s9 eU=>fL (au 52 2 #[.mk 0 (ab (ao #[111,110])),.mk 1 (ab s9)]) eU fun l1 fM=>bS [k0] eU fM/\oe [k0] 84 #[l1.v] fM fun Ms iy=>J0 Ms iy) (cy (m==3) (gy [k0] 37 #[ae (some p),aj (decide (m2>=0))] w0 fun jK=>oe [k0] 40 #[O U m2] jK fun Kv iZ=>fL (au 52 2 #[.mk 0 (ab (ao #[97,102,116,101,114])),.mk 1 (ab Kv)]) iZ fun l2 jM=>bS [k0] iZ jM/\oe [k0] 84 #[l2.v] jM fun Tm kf=>J0 Tm kf) (gy [k0] 37 #[ae (some p),aj (m==2)] w0 fun jL=>J0 (ao #[97,108,119,97,121,115]) jL))):Cr 89 #[ae (some p),ah #[O U m,ab m1,O U m2,aj m3,O U m4,O U m5,ab m6,O U m7,m8.v,O U m9,m10.v,m11.v,O U m12]] w R:=
 fB (an:=.d 2 (.j [0,3] [.s 5 .str] .o (.d 2 (.j [0,3,5,7] [.s 6 .str] .o (.s (.s .o (.j [0,3,5,6,7,70,71] [.s 72 (.int .i64)] .o .o)) (.j [0,3,5,6] [.s 7 .str] .o .o)))))) (args:=[.ad p,.agg (j5 [.int .i64 m,.str m1,.int .i64 m2,.bt m3,.int .i64 m4,.int .i64 m5,.str m6,.int .i64 m7,.sl m8,.int .i64 m9,.sl m10,.sl m11,.int .i64 m12])]) h
theorem abm(p:Addr)(n_:Int)(DC DW F8:aK)(F9 Ga DD yE:Sl)(H2 deep:Int)(R:aG)(w:av)(h:nw w fun k0 w0=>xCB w0 (p.add 2) fun b0=>cy (b0||(decide (deep>=12))) (gy [k0] 37 #[ae (some p),aj false] w0 fun w1=>R (ai #[]) w1) (fL (au 52 5 #[.mk 0 (ab (ao #[])),.mk 1 (ab (ao #[115,116,97,116,101])),.mk 2 (ab (ao #[112,97,114,97,108,108,101,108])),.mk 3 (ab (ao #[104,105,115,116,111,114,121])),.mk 4 (ab (ao #[100,101,101,112]))]) w0 fun l0 w2=>bS [k0] w0 w2/\qp (fun b1 w3=>cy b1 (gy [k0] 37 #[ae (some p),aj (F8.toList==((ao #[]).toList))] w3 fun w4=>∀w5,ay [] w4 w5->∃J1:aJ,J1 k0/\∃p0,dl l0 n_ 1 p0/\J1 p0.block/\IV w5 p0 fun s0=>oe [k0] 39 #[ae (some p),ab DC] w5 fun s1 w6=>bO J1 w5 w6/\fL (au 52 3 #[.mk 0 (ab s0),.mk 1 (ab s1),.mk 2 (ab (ao #[123]))]) w6 fun l1 w7=>bS [k0] w6 w7/\bO J1 w6 w7/\gy [k0] 38 #[ae (some p),O U deep,l1.v] w7 fun w8=>bO J1 w7 w8/\gy [k0] 41 #[ae (some p),ah #[O U n_,ab DC,ab DW,ab F8,F9.v,Ga.v,DD.v,yE.v,O U H2],O U (ar U (deep+1))] w8 fun w9=>fL (au 52 1 #[.mk 0 (ab (ao #[125]))]) w9 fun l2 dw=>bS [k0] w9 dw/\gy [k0] 38 #[ae (some p),O U deep,l2.v] dw fun dJ=>R (ai #[]) dJ) (qp (fun b2 eM=>cy b2 (gy [k0] 37 #[ae (some p),aj ((DW.toList==((ao #[]).toList))&&((ar U ((ar U ((ar U ((F9.n:Int)+(Ga.n:Int)))+(DD.n:Int)))+(yE.n:Int)))==0))] eM fun eU=>∀fM,ay [] eU fM->∃J3:aJ,J3 k0/\∃p1,dl l0 n_ 1 p1/\J3 p1.block/\IV fM p1 fun s2=>J3 k0/\oe [k0] 39 #[ae (some p),ab DC] fM fun s3 iy=>bO J3 fM iy/\oe [k0] 39 #[ae (some p),ab F8] iy fun s4 jK=>bO J3 iy jK/\((s4.size:Int)+1)<=9223372036854775807/\∃l3:Sl,∃iZ,((au 52 4 #[.mk 0 (ab s2),.mk 1 (ab s3),.mk 2 (ab (ao #[45,62])),.mk 3 (ab (s4++(ao #[59])))]).run aq jK)=(.ok l3.v iZ)/\bS [k0] jK iZ/\bO J3 jK iZ/\gy [k0] 38 #[ae (some p),O U deep,l3.v] iZ fun jM=>bO J3 iZ jM/\R (ai #[]) jM) (gy [k0] 37 #[ae (some p),aj false] eM fun kf=>R (ai #[]) kf)) fun J2=>cy (n_==3) (J2 (n_==3) w3) (J2 (n_==4) w3))) fun J0=>cy (n_==1) (J0 (n_==1) w2) (J0 (n_==2) w2))):Cr 90 #[ae (some p),ah #[O U n_,ab DC,ab DW,ab F8,F9.v,Ga.v,DD.v,yE.v,O U H2],O U deep] w R:=
 fB (an:=.d 4 (.j [0,2,4,6,19] [.s 22 .bool] .o (.s .o (.j [0,2,4,6] [.s 52 .bool] .o .o)))) (args:=[.ad p,.agg (j5 [.int .i64 n_,.str DC,.str DW,.str F8,.sl F9,.sl Ga,.sl DD,.sl yE,.int .i64 H2]),.int .i64 deep]) h
theorem ago(a_:Sl)(rG:Int)(xR xS wZ:aK)(xT Av Aw Gb:Sl)(Xd:Int)(bb:Sl)(H3:Int)(H4 H5 GC:aK)(H6 Mx My PZ:Sl)(Xe:Int)(at_:Bool)(R:aG)(w:av)(h:cy ((a_.n:Int) !=(bb.n:Int)) (∀k0 k1 w0,w.heap.size<=k0->k0<w0.heap.size->w.heap.size<=k1->k1<w0.heap.size->ay [] w w0->R (aj false) w0) (∀k2 k3 w1,w.heap.size<=k2->k2<w1.heap.size->w.heap.size<=k3->k3<w1.heap.size->ay [] w w1->pB 0 w1 fun J0 k5 i0 w2=>cy (decide (i0<(a_.n:Int))) (∃p0,dl a_ i0 3 p0/\IV w2 (p0.add 0) fun s0=>∃p1,dl bb i0 3 p1/\IV w2 (p1.add 0) fun s1=>∃p2,((!(s0.toList==s1.toList))=false->dl a_ i0 3 p2)/\∃i1,((!(s0.toList==s1.toList))=false->aB w2 (p2.add 1) [O U i1])/\∃p3,((!(s0.toList==s1.toList))=false->dl bb i0 3 p3)/\∃i2,((!(s0.toList==s1.toList))=false->aB w2 (p3.add 1) [O U i2])/\∃p4,(((!(s0.toList==s1.toList))||(i1 !=i2))=false->at_=true->dl a_ i0 3 p4)/\∃i3,(((!(s0.toList==s1.toList))||(i1 !=i2))=false->at_=true->aB w2 (p4.add 2) [O U i3])/\∃p5,(((!(s0.toList==s1.toList))||(i1 !=i2))=false->at_=true->dl bb i0 3 p5)/\∃i4,(((!(s0.toList==s1.toList))||(i1 !=i2))=false->at_=true->aB w2 (p5.add 2) [O U i4])/\cy (((!(s0.toList==s1.toList))||(i1 !=i2))||(at_&&(i3 !=i4))) (∀w3,ay [] w2 w3->R (aj false) w3) (∀w4,ay [] w2 w4->nx k5 fun k6=>J0 k6 (ar U (i0+1)) w4)) (kP [k2,k3] 44 #[ah #[O U rG,ab xR,ab xS,ab wZ,xT.v,Av.v,Aw.v,Gb.v,O U Xd],ah #[O U H3,ab H4,ab H5,ab GC,H6.v,Mx.v,My.v,PZ.v,O U Xe],aj at_] w2 fun b0 w5=>R (aj b0) w5))):Cr 15 #[ah #[a_.v,O U rG,ab xR,ab xS,ab wZ,xT.v,Av.v,Aw.v,Gb.v,O U Xd],ah #[bb.v,O U H3,ab H4,ab H5,ab GC,H6.v,Mx.v,My.v,PZ.v,O U Xe],aj at_] w R:=
 fB (an:=.d 2 (.s (.s .o (.j [2,3,4] [.s 7 (.int .i64)] .o .o)) .o)) (args:=[.agg (j5 [.sl a_,.int .i64 rG,.str xR,.str xS,.str wZ,.sl xT,.sl Av,.sl Aw,.sl Gb,.int .i64 Xd]),.agg (j5 [.sl bb,.int .i64 H3,.str H4,.str H5,.str GC,.sl H6,.sl Mx,.sl My,.sl PZ,.int .i64 Xe]),.bt at_]) h
theorem agp(a_:Int)(rG xR xS:aK)(wZ xT Av Aw:Sl)(Gb bb:Int)(H3 H4 H5:aK)(GC H6 Mx My:Sl)(PZ:Int)(at_:Bool)(R:aG)(w:av)(h:∀k0 k1 w0,w.heap.size<=k0->k0<w0.heap.size->w.heap.size<=k1->k1<w0.heap.size->ay [] w w0->cy (((((((a_ !=bb)||(!(rG.toList==H3.toList)))||(!(xR.toList==H4.toList)))||(!(xS.toList==H5.toList)))||(at_&&(Gb !=PZ)))||((Av.n:Int) !=(Mx.n:Int)))||((Aw.n:Int) !=(My.n:Int))) (R (aj false) w0) (kP [k0,k1] 92 #[wZ.v,GC.v,aj at_] w0 fun b0 w1=>kP [k0,k1] 92 #[xT.v,H6.v,aj at_] w1 fun b1 w2=>cy ((!b0)||(!b1)) (R (aj false) w2) (pB 0 w2 fun J0 k3 i0 w3=>cy (decide (i0<(Av.n:Int))) (∃p0,dl Av i0 13 p0/\∀w4,ay [] w3 w4->xK w4 p0 fun i1 s0 i2 b2 i3 i4 s1 i5 l0 i6 l1 l2 i7=>jp Mx i0 w4 fun i8 s2 i9 b3 i10 i11 s3 i12 l3 i13 l4 l5 i14=>kP [k0,k1] 93 #[ah #[O U i1,ab s0,O U i2,aj b2,O U i3,O U i4,ab s1,O U i5,l0.v,O U i6,l1.v,l2.v,O U i7],ah #[O U i8,ab s2,O U i9,aj b3,O U i10,O U i11,ab s3,O U i12,l3.v,O U i13,l4.v,l5.v,O U i14],aj at_] w4 fun b4 w5=>cy (!b4) (R (aj false) w5) (nx k3 fun k4=>J0 k4 (ar U (i0+1)) w5)) (pB 0 w3 fun J1 k6 i15 w6=>cy (decide (i15<(Aw.n:Int))) (∃p2,dl Aw i15 9 p2/\∀w7,ay [] w6 w7->EM w7 p2 fun i16 s4 s5 s6 l6 l7 l8 l9 i17=>ga My i15 w7 fun i18 s7 s8 s9 l10 uk uQ BX i19=>kP [k0,k1] 44 #[ah #[O U i16,ab s4,ab s5,ab s6,l6.v,l7.v,l8.v,l9.v,O U i17],ah #[O U i18,ab s7,ab s8,ab s9,l10.v,uk.v,uQ.v,BX.v,O U i19],aj at_] w7 fun b5 w8=>cy (!b5) (R (aj false) w8) (nx k6 fun k7=>J1 k7 (ar U (i15+1)) w8)) (R (aj true) w6))))):Cr 44 #[ah #[O U a_,ab rG,ab xR,ab xS,wZ.v,xT.v,Av.v,Aw.v,O U Gb],ah #[O U bb,ab H3,ab H4,ab H5,GC.v,H6.v,Mx.v,My.v,O U PZ],aj at_] w R:=
 fB (an:=.d 5 (.s (.s .o (.j [2,3,4] [.s 9 (.int .i64)] .o .o)) (.s (.s .o (.j [2,3,4] [.s 11 (.int .i64)] .o .o)) .o))) (args:=[.agg (j5 [.int .i64 a_,.str rG,.str xR,.str xS,.sl wZ,.sl xT,.sl Av,.sl Aw,.int .i64 Gb]),.agg (j5 [.int .i64 bb,.str H3,.str H4,.str H5,.sl GC,.sl H6,.sl Mx,.sl My,.int .i64 PZ]),.bt at_]) h
theorem agq(a_ bb:Sl)(at_:Bool)(R:aG)(w:av)(h:cy ((a_.n:Int) !=(bb.n:Int)) (R (aj false) w) (pB 0 w fun J0 k1 i0 w0=>cy (decide (i0<(a_.n:Int))) (∃p0,dl a_ i0 9 p0/\∀w1,ay [] w0 w1->im w1 (p0.add 2) fun i1 i2 s0 i3 l0 i4=>∃p1,dl bb i0 9 p1/\im w1 (p1.add 2) fun i5 i6 s1 i7 l1 i8=>cB 159 #[ah #[O U i1,O U i2,ab s0,O U i3,l0.v,O U i4],ah #[O U i5,O U i6,ab s1,O U i7,l1.v,O U i8],aj at_] w1 fun b0 w2=>∃p2,((!b0)=false->dl a_ i0 9 p2)/\∃i9,((!b0)=false->aB w2 (p2.add 0) [O U i9])/\∃p3,((!b0)=false->dl bb i0 9 p3)/\∃i10,((!b0)=false->aB w2 (p3.add 0) [O U i10])/\∃p4,(((!b0)||(i9 !=i10))=false->dl a_ i0 9 p4)/\∃s2,(((!b0)||(i9 !=i10))=false->aB w2 (p4.add 1) [ab s2])/\∃p5,(((!b0)||(i9 !=i10))=false->dl bb i0 9 p5)/\∃s3,(((!b0)||(i9 !=i10))=false->aB w2 (p5.add 1) [ab s3])/\∃p6,((((!b0)||(i9 !=i10))||(!(s2.toList==s3.toList)))=false->at_=true->dl a_ i0 9 p6)/\∃i11,((((!b0)||(i9 !=i10))||(!(s2.toList==s3.toList)))=false->at_=true->aB w2 (p6.add 8) [O U i11])/\∃p7,((((!b0)||(i9 !=i10))||(!(s2.toList==s3.toList)))=false->at_=true->dl bb i0 9 p7)/\∃i12,((((!b0)||(i9 !=i10))||(!(s2.toList==s3.toList)))=false->at_=true->aB w2 (p7.add 8) [O U i12])/\cy ((((!b0)||(i9 !=i10))||(!(s2.toList==s3.toList)))||(at_&&(i11 !=i12))) (∀w3,ay [] w2 w3->R (aj false) w3) (∀w4,ay [] w2 w4->nx k1 fun k2=>J0 k2 (ar U (i0+1)) w4)) (R (aj true) w0))):Cr 92 #[a_.v,bb.v,aj at_] w R:=
 fB (an:=.d 2 (.s (.s .o (.j [0,1,2] [.s 7 (.int .i64)] .o .o)) .o)) (args:=[.sl a_,.sl bb,.bt at_]) h
theorem agr(a_ rG:Int)(xR:aK)(xS:Int)(wZ:Sl)(xT bb H3:Int)(H4:aK)(H5:Int)(GC:Sl)(H6:Int)(at_:Bool)(R:aG)(w:av)(h:∀k0 k1 w0,w.heap.size<=k0->k0<w0.heap.size->w.heap.size<=k1->k1<w0.heap.size->ay [] w w0->cy ((((((a_ !=bb)||(rG !=H3))||(!(xR.toList==H4.toList)))||(xS !=H5))||(at_&&(xT !=H6)))||((wZ.n:Int) !=(GC.n:Int))) (R (aj false) w0) (pB 0 w0 fun J0 k3 i0 w1=>cy (decide (i0<(wZ.n:Int))) (∃p0,dl wZ i0 6 p0/\∀w2,ay [] w1 w2->im w2 p0 fun i1 i2 s0 i3 l0 i4=>jo GC i0 w2 fun i5 i6 s1 i7 l1 i8=>kP [k0,k1] 159 #[ah #[O U i1,O U i2,ab s0,O U i3,l0.v,O U i4],ah #[O U i5,O U i6,ab s1,O U i7,l1.v,O U i8],aj at_] w2 fun b0 w3=>cy (!b0) (R (aj false) w3) (nx k3 fun k4=>J0 k4 (ar U (i0+1)) w3)) (R (aj true) w1))):Cr 159 #[ah #[O U a_,O U rG,ab xR,O U xS,wZ.v,O U xT],ah #[O U bb,O U H3,ab H4,O U H5,GC.v,O U H6],aj at_] w R:=
 fB (an:=.d 2 (.s (.s .o (.j [2,3,4] [.s 7 (.int .i64)] .o .o)) .o)) (args:=[.agg (j5 [.int .i64 a_,.int .i64 rG,.str xR,.int .i64 xS,.sl wZ,.int .i64 xT]),.agg (j5 [.int .i64 bb,.int .i64 H3,.str H4,.int .i64 H5,.sl GC,.int .i64 H6]),.bt at_]) h
theorem ags(a_:Int)(rG:aK)(xR:Int)(xS:Bool)(wZ xT:Int)(Av:aK)(Aw:Int)(Gb:Sl)(Xd:Int)(Xf Xg:Sl)(Xh bb:Int)(H3:aK)(H4:Int)(H5:Bool)(GC H6:Int)(Mx:aK)(My:Int)(PZ:Sl)(Xe:Int)(Xi Xj:Sl)(Xk:Int)(at_:Bool)(R:aG)(w:av)(h:∀k0 k1 w0,w.heap.size<=k0->k0<w0.heap.size->w.heap.size<=k1->k1<w0.heap.size->ay [] w w0->kP [k0,k1] 159 #[ah #[O U wZ,O U xT,ab Av,O U Aw,Gb.v,O U Xd],ah #[O U GC,O U H6,ab Mx,O U My,PZ.v,O U Xe],aj at_] w0 fun b0 w1=>kP [k0,k1] 92 #[Xf.v,Xi.v,aj at_] w1 fun b1 w2=>kP [k0,k1] 31 #[Xg.v,Xj.v] w2 fun b2 w3=>R (aj (((((((b0&&b1)&&b2)&&(a_==bb))&&(rG.toList==H3.toList))&&(xR==H4))&&(xS==H5))&&((!at_)||(Xh==Xk)))) w3):Cr 93 #[ah #[O U a_,ab rG,O U xR,aj xS,O U wZ,O U xT,ab Av,O U Aw,Gb.v,O U Xd,Xf.v,Xg.v,O U Xh],ah #[O U bb,ab H3,O U H4,aj H5,O U GC,O U H6,ab Mx,O U My,PZ.v,O U Xe,Xi.v,Xj.v,O U Xk],aj at_] w R:=
 iJ (args:=[.agg (j5 [.int .i64 a_,.str rG,.int .i64 xR,.bt xS,.int .i64 wZ,.int .i64 xT,.str Av,.int .i64 Aw,.sl Gb,.int .i64 Xd,.sl Xf,.sl Xg,.int .i64 Xh]),.agg (j5 [.int .i64 bb,.str H3,.int .i64 H4,.bt H5,.int .i64 GC,.int .i64 H6,.str Mx,.int .i64 My,.sl PZ,.int .i64 Xe,.sl Xi,.sl Xj,.int .i64 Xk]),.bt at_]) h
theorem agt(a_ bb:Sl)(R:aG)(w:av)(h:cy ((a_.n:Int) !=(bb.n:Int)) (R (aj false) w) (pB 0 w fun J0 k1 i0 w0=>cy (decide (i0<(a_.n:Int))) (EP a_ i0 w0 fun s0=>EP bb i0 w0 fun s1=>cy (!(s0.toList==s1.toList)) (∀w1,ay [] w0 w1->R (aj false) w1) (∀w2,ay [] w0 w2->nx k1 fun k2=>J0 k2 (ar U (i0+1)) w2)) (R (aj true) w0))):Cr 31 #[a_.v,bb.v] w R:=
 fB (an:=.d 2 (.s (.s .o (.j [0,1] [.s 5 (.int .i64)] .o .o)) .o)) (args:=[.sl a_,.sl bb]) h
theorem agu(c:Sl)(c1:Int)(c2 c3 c4:aK)(c5 c6 c7 c8:Sl)(c9:Int)(R:aG)(w:av)(h:∀k0 k1 w0,w.heap.size<=k0->k0<w0.heap.size->w.heap.size<=k1->k1<w0.heap.size->ay [] w w0->∃J0:Sl->Int->aK->aK->aK->Sl->Sl->Sl->Sl->Int->av->Prop,(∀l0:Sl,∀i0 s0 s1 s2,∀l1 l2 l3 l4:Sl,∀i1 w1,J0 l0 i0 s0 s1 s2 l1 l2 l3 l4 i1 w1->R (ah #[l0.v,O U i0,ab s0,ab s1,ab s2,l1.v,l2.v,l3.v,l4.v,O U i1]) w1)/\∀w2,ay [] w0 w2->∃J1:aJ,J1 k0/\J1 k0/\(fL (au 22 0 #[]) w2 fun l5 w3=>bS [k0,k1] w2 w3/\bO J1 w2 w3/\(fL (Builtin.append_ #[22,22] 22 #[l5.v,c.v]) w3 fun l6 w4=>bS [k0,k1] w3 w4/\bO J1 w3 w4/\fL (au 25 1 #[.mk 0 (ah #[O U c1,ab c2,ab c3,ab c4,c5.v,c6.v,c7.v,c8.v,O U c9])]) w4 fun l7 w5=>bS [k0,k1] w4 w5/\bO J1 w4 w5/\AQ [k0,k1] 35 #[l7.v] w5 fun l8 w6=>bO J1 w5 w6/\ga l8 0 w6 fun i2 s3 s4 s5 l9 l10 uk uQ i3=>∀w7,ay [k1] w6 w7->J0 l6 i2 s3 s4 s5 l9 l10 uk uQ i3 w7)/\fL (au 25 1 #[.mk 0 (ah #[O U c1,ab c2,ab c3,ab c4,c5.v,c6.v,c7.v,c8.v,O U c9])]) w3 fun BX w8=>bS [k0,k1] w3 w8/\bO J1 w3 w8/\fL (Builtin.append_ #[22,22] 22 #[l5.v,c.v]) w8 fun GA w9=>bS [k0,k1] w8 w9/\bO J1 w8 w9/\AQ [k0,k1] 35 #[BX.v] w9 fun LV dw=>bO J1 w9 dw/\ga LV 0 dw fun i4 s6 s7 s8 W6 W7 UW W8 i5=>∀dJ,ay [k1] dw dJ->J0 GA i4 s6 s7 s8 W6 W7 UW W8 i5 dJ)/\fL (au 25 1 #[.mk 0 (ah #[O U c1,ab c2,ab c3,ab c4,c5.v,c6.v,c7.v,c8.v,O U c9])]) w2 fun Tl eM=>bS [k0,k1] w2 eM/\bO J1 w2 eM/\fL (au 22 0 #[]) eM fun Y5 eU=>bS [k0,k1] eM eU/\bO J1 eM eU/\fL (Builtin.append_ #[22,22] 22 #[Y5.v,c.v]) eU fun l22 fM=>bS [k0,k1] eU fM/\bO J1 eU fM/\AQ [k0,k1] 35 #[Tl.v] fM fun l23 iy=>bO J1 fM iy/\ga l23 0 iy fun i6 s9 Ms Kv l24 l25 l26 l27 i7=>∀jK,ay [k1] iy jK->J0 l22 i6 s9 Ms Kv l24 l25 l26 l27 i7 jK):Cr 12 #[ah #[c.v,O U c1,ab c2,ab c3,ab c4,c5.v,c6.v,c7.v,c8.v,O U c9]] w R:=
 fB (an:=.s .o (.s (.j [1,2] [.b 2 [.sl,.int .i64,.str,.str,.str,.sl,.sl,.sl,.sl,.int .i64]] .o .o) .o)) (args:=[.agg (j5 [.sl c,.int .i64 c1,.str c2,.str c3,.str c4,.sl c5,.sl c6,.sl c7,.sl c8,.int .i64 c9])]) h
theorem abn(l:Sl)(R:aG)(w:av)(h:∃J0:Nat->Sl->Int->av->Prop,∃k0:Nat,J0 k0 Sl.nil 0 w/\∀k1,∀l0:Sl,∀i0 w0,J0 k1 l0 i0 w0->cy (decide (i0<(l.n:Int))) (ga l i0 w0 fun i1 s0 s1 s2 l1 l2 l3 l4 i2=>nw w0 fun k2 w1=>AQ [k2] 80 #[l1.v] w1 fun l5 w2=>∀w3,ay [k2] w2 w3->AQ [k2] 80 #[l2.v] w3 fun l6 w4=>∀w5,ay [k2] w4 w5->AQ [k2] 81 #[l3.v] w5 fun l7 w6=>∀w7,ay [k2] w6 w7->AQ [k2] 35 #[l4.v] w7 fun l8 w8=>∀w9,ay [k2] w8 w9->fL (au 25 1 #[.mk 0 (ah #[O U i1,ab s0,ab s1,ab s2,l5.v,l6.v,l7.v,l8.v,O U i2])]) w9 fun l9 dw=>bS [k2] w9 dw/\fL (Builtin.append_ #[25,25] 25 #[l0.v,l9.v]) dw fun l10 dJ=>bS [k2] dw dJ/\nx k1 fun k3=>J0 k3 l10 (ar U (i0+1)) dJ) (R l0.v w0)):Cr 35 #[l.v] w R:=
 fB (an:=.d 2 (.s (.s .o (.j [0] [.s 3 .sl,.s 4 (.int .i64)] .o .o)) .o)) (args:=[.sl l]) h
theorem agv(l:Sl)(R:aG)(w:av)(h:∃J0:Nat->Sl->Int->av->Prop,∃k0:Nat,J0 k0 Sl.nil 0 w/\∀k1,∀l0:Sl,∀i0 w0,J0 k1 l0 i0 w0->cy (decide (i0<(l.n:Int))) (rR l i0 w0 fun i1 s0 i2 i3 s1 i4 l1 i5 i6=>nw w0 fun k2 w1=>AQ [k2] 144 #[l1.v] w1 fun l2 w2=>∀w3,ay [k2] w2 w3->fL (au 23 1 #[.mk 0 (ah #[O U i1,ab s0,O U i2,O U i3,ab s1,O U i4,l2.v,O U i5,O U i6])]) w3 fun l3 w4=>bS [k2] w3 w4/\fL (Builtin.append_ #[23,23] 23 #[l0.v,l3.v]) w4 fun l4 w5=>bS [k2] w4 w5/\nx k1 fun k3=>J0 k3 l4 (ar U (i0+1)) w5) (R l0.v w0)):Cr 80 #[l.v] w R:=
 fB (an:=.d 2 (.s (.s .o (.j [0] [.s 3 .sl,.s 4 (.int .i64)] .o .o)) .o)) (args:=[.sl l]) h
theorem abo(l:Sl)(R:aG)(w:av)(h:∃J0:Nat->Sl->Int->av->Prop,∃k0:Nat,J0 k0 Sl.nil 0 w/\∀k1,∀l0:Sl,∀i0 w0,J0 k1 l0 i0 w0->cy (decide (i0<(l.n:Int))) (jo l i0 w0 fun i1 i2 s0 i3 l1 i4=>nw w0 fun k2 w1=>AQ [k2] 144 #[l1.v] w1 fun l2 w2=>∀w3,ay [k2] w2 w3->fL (au 49 1 #[.mk 0 (ah #[O U i1,O U i2,ab s0,O U i3,l2.v,O U i4])]) w3 fun l3 w4=>bS [k2] w3 w4/\fL (Builtin.append_ #[49,49] 49 #[l0.v,l3.v]) w4 fun l4 w5=>bS [k2] w4 w5/\nx k1 fun k3=>J0 k3 l4 (ar U (i0+1)) w5) (R l0.v w0)):Cr 144 #[l.v] w R:=
 fB (an:=.d 2 (.s (.s .o (.j [0] [.s 3 .sl,.s 4 (.int .i64)] .o .o)) .o)) (args:=[.sl l]) h
theorem agw(l:Sl)(R:aG)(w:av)(h:∃J0:Nat->Sl->Int->av->Prop,∃k0:Nat,J0 k0 Sl.nil 0 w/\∀k1,∀l0:Sl,∀i0 w0,J0 k1 l0 i0 w0->cy (decide (i0<(l.n:Int))) (jp l i0 w0 fun i1 s0 i2 b0 i3 i4 s1 i5 l1 i6 l2 l3 i7=>nw w0 fun k2 w1=>AQ [k2] 144 #[l1.v] w1 fun l4 w2=>∀w3,ay [k2] w2 w3->AQ [k2] 80 #[l2.v] w3 fun l5 w4=>∀w5,ay [k2] w4 w5->fL (au 52 0 #[]) w5 fun l6 w6=>bS [k2] w5 w6/\fL (Builtin.append_ #[52,52] 52 #[l6.v,l3.v]) w6 fun l7 w7=>bS [k2] w6 w7/\∀w8,ay [k2] w7 w8->fL (au 24 1 #[.mk 0 (ah #[O U i1,ab s0,O U i2,aj b0,O U i3,O U i4,ab s1,O U i5,l4.v,O U i6,l5.v,l7.v,O U i7])]) w8 fun l8 w9=>bS [k2] w8 w9/\fL (Builtin.append_ #[24,24] 24 #[l0.v,l8.v]) w9 fun l9 dw=>bS [k2] w9 dw/\nx k1 fun k3=>J0 k3 l9 (ar U (i0+1)) dw) (R l0.v w0)):Cr 81 #[l.v] w R:=
 fB (an:=.d 2 (.s (.s .o (.j [0] [.s 3 .sl,.s 4 (.int .i64)] .o .o)) .o)) (args:=[.sl l]) h
theorem agx(c:Sl)(c1:Int)(c2 c3 c4:aK)(c5 c6 c7 c8:Sl)(c9:Int)(R:aG)(w:av)(h:nw w fun k0 w0=>az aq 14 #[ah #[c.v,O U c1,ab c2,ab c3,ab c4,c5.v,c6.v,c7.v,c8.v,O U c9]] w0 fun e0 w1=>∃s0 i0,e0=(ak (ai #[ab s0,O U i0]))/\bS [k0] w0 w1/\R (O U i0) w1):Cr 13 #[ah #[c.v,O U c1,ab c2,ab c3,ab c4,c5.v,c6.v,c7.v,c8.v,O U c9]] w R:=
 iJ (args:=[.agg (j5 [.sl c,.int .i64 c1,.str c2,.str c3,.str c4,.sl c5,.sl c6,.sl c7,.sl c8,.int .i64 c9])]) h
theorem agy(c:Sl)(c1:Int)(c2 c3 c4:aK)(c5 c6 c7 c8:Sl)(c9:Int)(R:aG)(w:av)(h:nw w fun k0 w0=>kP [k0] 45 #[ah #[c.v,O U c1,ab c2,ab c3,ab c4,c5.v,c6.v,c7.v,c8.v,O U c9]] w0 fun b0 w1=>cy (!b0) (R (ai #[ab (ao #[]),O U 22]) w1) ((6+(c2.size:Int))<=9223372036854775807/\((((ao #[99,104,97,114,116,32])++c2).size:Int)+2)<=9223372036854775807/\nw w1 fun k1 w2=>aF w2 k1 86 [Sl.nil.v]->gy [k0] 46 #[ae (some ⟨k1,0,none⟩),O U 0,ab (((ao #[99,104,97,114,116,32])++c2)++(ao #[32,123]))] w2 fun w3=>Nz w3 k1 86 fun l0=>T7 0 l0 w3 fun J0 k3 i0 l1 w4=>cy (decide (i0<(c.n:Int))) (∀w5,ay [] w4 w5->aF w5 k1 86 [l1.v]->∃J1:aJ,J1 k0/\∃p0,dl c i0 3 p0/\J1 ((p0.add 0).block)/\IV w5 (p0.add 0) fun s0=>(4+(s0.size:Int))<=9223372036854775807/\((((ao #[118,97,114,32])++s0).size:Int)+3)<=9223372036854775807/\∃p1,dl c i0 3 p1/\iz w5 (p1.add 1) fun i1=>oe [k0] 47 #[O U i1] w5 fun s1 w6=>Nz w6 k1 86 fun l2=>bO J1 w5 w6/\(((((ao #[118,97,114,32])++s0)++(ao #[32,61,32])).size:Int)+(s1.size:Int))<=9223372036854775807/\((((((ao #[118,97,114,32])++s0)++(ao #[32,61,32]))++s1).size:Int)+1)<=9223372036854775807/\gy [k0] 46 #[ae (some ⟨k1,0,none⟩),O U 1,ab (((((ao #[118,97,114,32])++s0)++(ao #[32,61,32]))++s1)++(ao #[59]))] w6 fun w7=>Nz w7 k1 86 fun l3=>bO J1 w6 w7/\nx k3 fun k4=>J0 k4 (ar U (i0+1)) l3 w7) (gy [k0] 48 #[ae (some ⟨k1,0,none⟩),ah #[O U c1,ab c2,ab c3,ab c4,c5.v,c6.v,c7.v,c8.v,O U c9],O U 1] w4 fun w8=>Nz w8 k1 86 fun l4=>gy [k0] 46 #[ae (some ⟨k1,0,none⟩),O U 0,ab (ao #[125])] w8 fun w9=>Nz w9 k1 86 fun l5=>cy (decide ((l5.n:Int)>16384)) (R (ai #[ab (ao #[]),O U 2]) w9) (∃z0:aH,qW w9 l5 z0/\R (ai #[ab (ao z0.toArray),O U 0]) w9)))):Cr 16 #[ah #[c.v,O U c1,ab c2,ab c3,ab c4,c5.v,c6.v,c7.v,c8.v,O U c9]] w R:=
 fB (an:=.d 5 (.s (.s .o (.j [1,5,12] [.s 6 (.int .i64),.b 12 [.sl]] .o .o)) .o)) (args:=[.agg (j5 [.sl c,.int .i64 c1,.str c2,.str c3,.str c4,.sl c5,.sl c6,.sl c7,.sl c8,.int .i64 c9])]) h
theorem agz(c:Sl)(c1:Int)(c2 c3 c4:aK)(c5 c6 c7 c8:Sl)(c9:Int)(R:aG)(w:av)(h:nw w fun k0 w0=>pB 0 w0 fun J0 k2 i0 w1=>cy (decide (i0<(c.n:Int))) (∃p0,dl c i0 3 p0/\IV w1 (p0.add 0) fun s0=>kP [k0] 94 #[ab s0] w1 fun b0 w2=>∃p1,((!b0)=false->dl c i0 3 p1)/\∃i1,((!b0)=false->aB w2 (p1.add 1) [O U i1])/\cy ((!b0)||(i1==(-9223372036854775808))) (R (aj false) w2) (nx k2 fun k3=>J0 k3 (ar U (i0+1)) w2)) (nw w1 fun k4 w3=>aF w3 k4 158 [O U 0,O U 0,O U 0]->kP [k0] 95 #[ae (some ⟨k4,0,none⟩),ah #[O U c1,ab c2,ab c3,ab c4,c5.v,c6.v,c7.v,c8.v,O U c9],O U 0] w3 fun b1 w4=>aak w4 k4 158 fun i2 i3 i4=>R (aj ((((b1&&(c1==1))&&(decide ((c.n:Int)<=16)))&&(decide (i3<=200)))&&(decide (i4<=400)))) w4)):Cr 45 #[ah #[c.v,O U c1,ab c2,ab c3,ab c4,c5.v,c6.v,c7.v,c8.v,O U c9]] w R:=
 fB (an:=.s .o (.s (.s .o (.j [1] [.s 3 (.int .i64)] .o .o)) .o)) (args:=[.agg (j5 [.sl c,.int .i64 c1,.str c2,.str c3,.str c4,.sl c5,.sl c6,.sl c7,.sl c8,.int .i64 c9])]) h
theorem agA(s:aK)(R:aG)(w:av)(h:cy ((s.toList==((ao #[]).toList))||(decide ((s.size:Int)>24))) (R (aj false) w) (∃c0:UInt8,((0:Int)<=0/\s[0]? =(some c0))/\cB 160 #[.int .u8 (UInt8.toNat c0:Int)] w fun b0 w0=>cB 161 #[ab s] w0 fun b1 w1=>qp (fun b2 w2=>R (aj b2) w2) fun J0=>cy (b0&&(!b1)) (cI 162 #[ab s,O U 0] w1 fun i0 w3=>J0 (i0==(s.size:Int)) w3) (J0 false w1))):Cr 94 #[ab s] w R:=
 fB (an:=.d 4 (.s (.j [] [.s 2 .bool] .o .o) .o)) (args:=[.str s]) h
theorem agB(c:Int)(R:aG)(w:av)(h:R (aj ((((decide (c>=65))&&(decide (c<=90)))||((decide (c>=97))&&(decide (c<=122))))||(c==95))) w):Cr 160 #[.int .u8 c] w R:=
 iJ (args:=[.int .u8 c]) h
theorem agC(s:aK)(R:aG)(w:av)(h:cL 219 #[] w fun l0 w0=>pB 0 w0 fun J0 k1 i0 w1=>cy (decide (i0<(l0.n:Int))) (EP l0 i0 w1 fun s0=>cy (s0.toList==s.toList) (R (aj true) w1) (nx k1 fun k2=>J0 k2 (ar U (i0+1)) w1)) (R (aj false) w1)):Cr 161 #[ab s] w R:=
 fB (an:=.d 2 (.s (.s .o (.j [0,3] [.s 4 (.int .i64)] .o .o)) .o)) (args:=[.str s]) h
theorem agD(R:aG)(w:av)(h:∃l0:Sl,∃w0,((au 52 16 #[.mk 0 (ab (ao #[97,102,116,101,114])),.mk 1 (ab (ao #[97,108,119,97,121,115])),.mk 2 (ab (ao #[99,104,97,114,116])),.mk 3 (ab (ao #[100,101,101,112])),.mk 4 (ab (ao #[101,109,105,116])),.mk 5 (ab (ao #[101,110,116,101,114])),.mk 6 (ab (ao #[104,105,115,116,111,114,121])),.mk 7 (ab (ao #[105,110])),.mk 8 (ab (ao #[105,110,105,116,105,97,108])),.mk 9 (ab (ao #[108,101,97,118,101])),.mk 10 (ab (ao #[111,110])),.mk 11 (ab (ao #[112,97,114,97,108,108,101,108])),.mk 12 (ab (ao #[114,97,105,115,101])),.mk 13 (ab (ao #[115,101,116])),.mk 14 (ab (ao #[115,116,97,116,101])),.mk 15 (ab (ao #[118,97,114]))]).run aq w)=(.ok l0.v w0)/\R l0.v w0):Cr 219 #[] w R:=
 iJ (args:=[]) h
theorem agE(s:aK)(at_:Int)(R:aG)(w:av)(h:qp (fun i0 w0=>R (O U i0) w0) fun J0=>pB 0 w fun J1 k1 i1 w1=>cy (decide ((ar U (at_+i1))<(s.size:Int))) (∃c0:UInt8,(0<=(ar U (at_+i1))/\(s[Int.toNat (ar U (at_+i1))]?)=(some c0))/\cB 160 #[.int .u8 (UInt8.toNat c0:Int)] w1 fun b0 w2=>∃c1:UInt8,(0<=(ar U (at_+i1))/\(s[Int.toNat (ar U (at_+i1))]?)=(some c1))/\cB 220 #[.int .u8 (UInt8.toNat c1:Int)] w2 fun b1 w3=>cy ((!b0)&&(!b1)) (J0 i1 w3) (nx k1 fun k4=>J1 k4 (ar U (i1+1)) w3)) (J0 i1 w1)):Cr 162 #[ab s,O U at_] w R:=
 fB (an:=.d 2 (.j [] [.s 5 (.int .i64)] (.j [0,1] [.s 5 (.int .i64)] .o .o) .o)) (args:=[.str s,.int .i64 at_]) h
theorem agF(c:Int)(R:aG)(w:av)(h:R (aj ((decide (c>=48))&&(decide (c<=57)))) w):Cr 220 #[.int .u8 c] w R:=
 iJ (args:=[.int .u8 c]) h
theorem agG(n_:Addr)(x:Int)(x1 x2 x3:aK)(x4 x5 x6 x7:Sl)(x8 deep:Int)(R:aG)(w:av)(h:nw w fun k0 w0=>iz w0 (n_.add 0) fun i0=>∃k1 k2:Nat,∃z0,∃k3:Nat,(n_.add 0)=⟨k1,k2,none⟩/\aF w0 k1 k3 z0/\(k2+1)<=z0.length/\k0≠k1/\∀w1,ay [k1] w0 w1->aF w1 k1 k3 (ca z0 k2 [O U (ar U (i0+1))])->kP [k0] 94 #[ab x1] w1 fun b0 w2=>∃i1,(((!b0)||(decide (deep>=12)))=false->aB w2 (n_.add 0) [O U i1])/\cy (((!b0)||(decide (deep>=12)))||(decide (i1>64))) (R (aj false) w2) (cy ((x==3)||(x==4)) (kP [k0] 94 #[ab x3] w2 fun b1 w3=>R (aj (((((b1&&(x2.toList==((ao #[]).toList)))&&((x4.n:Int)==0))&&((x5.n:Int)==0))&&((x6.n:Int)==0))&&((x7.n:Int)==0))) w3) (qp (fun b2 w4=>kP [k0] 163 #[ae (some n_),x4.v] w4 fun b3 w5=>kP [k0] 163 #[ae (some n_),x5.v] w5 fun b4 w6=>cy ((((((x !=1)&&(x !=2))||(!(x3.toList==((ao #[]).toList))))||(!b2))||(!b3))||(!b4)) (R (aj false) w6) (pB 0 w6 fun J1 k5 i2 w7=>cy (decide (i2<(x6.n:Int))) (jp x6 i2 w7 fun i3 s0 i4 b5 i5 i6 s1 i7 l0 i8 l1 l2 i9=>kP [k0] 164 #[ae (some n_),ah #[O U i3,ab s0,O U i4,aj b5,O U i5,O U i6,ab s1,O U i7,l0.v,O U i8,l1.v,l2.v,O U i9]] w7 fun b6 w8=>cy (!b6) (R (aj false) w8) (nx k5 fun k6=>J1 k6 (ar U (i2+1)) w8)) (pB 0 w7 fun J2 k8 i10 w9=>cy (decide (i10<(x7.n:Int))) (ga x7 i10 w9 fun i11 s2 s3 s4 l3 l4 l5 l6 i12=>kP [k0] 95 #[ae (some n_),ah #[O U i11,ab s2,ab s3,ab s4,l3.v,l4.v,l5.v,l6.v,O U i12],O U (ar U (deep+1))] w9 fun b7 dw=>cy (!b7) (R (aj false) dw) (nx k8 fun k9=>J2 k9 (ar U (i10+1)) dw)) (R (aj true) w9)))) fun J0=>cy (!(x2.toList==((ao #[]).toList))) (kP [k0] 94 #[ab x2] w2 fun b8 dJ=>J0 b8 dJ) (J0 (x2.toList==((ao #[]).toList)) w2)))):Cr 95 #[ae (some n_),ah #[O U x,ab x1,ab x2,ab x3,x4.v,x5.v,x6.v,x7.v,O U x8],O U deep] w R:=
 fB (an:=.d 6 (.j [0,2,4] [.s 9 .bool] .o (.d 3 (.s (.s .o (.j [0,2,4] [.s 12 (.int .i64)] .o .o)) (.s (.s .o (.j [0,2,4] [.s 14 (.int .i64)] .o .o)) .o))))) (args:=[.ad n_,.agg (j5 [.int .i64 x,.str x1,.str x2,.str x3,.sl x4,.sl x5,.sl x6,.sl x7,.int .i64 x8]),.int .i64 deep]) h
theorem agH(n_:Addr)(l:Sl)(R:aG)(w:av)(h:pB 0 w fun J0 k1 i0 w0=>cy (decide (i0<(l.n:Int))) (iz w0 (n_.add 2) fun i1=>∃k2 k3:Nat,∃z0,∃k4:Nat,(n_.add 2)=⟨k2,k3,none⟩/\aF w0 k2 k4 z0/\(k3+1)<=z0.length/\∀w1,ay [k2] w0 w1->aF w1 k2 k4 (ca z0 k3 [O U (ar U (i1+1))])->∃p0,dl l i0 9 p0/\IV w1 (p0.add 1) fun s0=>cB 94 #[ab s0] w1 fun b0 w2=>∃p1,dl l i0 9 p1/\im w2 (p1.add 2) fun i2 i3 s1 i4 l0 i5=>cB 221 #[ah #[O U i2,O U i3,ab s1,O U i4,l0.v,O U i5]] w2 fun b1 w3=>qp (fun b2 w4=>∃p2,dl l i0 9 p2/\iz w4 (p2.add 0) fun i6=>∃p3,((decide (i6<1))=false->dl l i0 9 p3)/\∃i7,((decide (i6<1))=false->aB w4 (p3.add 0) [O U i7])/\cy ((((decide (i6<1))||(decide (i7>3)))||(!b0))||(!b2)) (R (aj false) w4) (nx k1 fun k5=>J0 k5 (ar U (i0+1)) w4)) fun J1=>∃p4,dl l i0 9 p4/\iz w3 (p4.add 0) fun i8=>cy (i8==2) (∃p5,dl l i0 9 p5/\im w3 (p5.add 2) fun i9 i10 s2 i11 l1 i12=>cB 222 #[ah #[O U i9,O U i10,ab s2,O U i11,l1.v,O U i12]] w3 fun b3 w5=>J1 b3 w5) (J1 b1 w3)) (R (aj true) w0)):Cr 163 #[ae (some n_),l.v] w R:=
 fB (an:=.s .o (.s (.s .o (.j [0,1] [.s 5 (.int .i64)] (.s .o (.s (.d 3 (.j [0,1,5,6] [.s 7 .bool] .o .o)) .o)) .o)) .o)) (args:=[.ad n_,.sl l]) h
theorem agI(x x1:Int)(x2:aK)(x3:Int)(x4:Sl)(x5:Int)(R:aG)(w:av)(h:nw w fun k0 w0=>az aq 183 #[ah #[O U x,O U x1,ab x2,O U x3,x4.v,O U x5]] w0 fun e0 w1=>∃s0 b0,e0=(ak (ai #[ab s0,aj b0]))/\bS [k0] w0 w1/\R (aj b0) w1):Cr 221 #[ah #[O U x,O U x1,ab x2,O U x3,x4.v,O U x5]] w R:=
 iJ (args:=[.agg (j5 [.int .i64 x,.int .i64 x1,.str x2,.int .i64 x3,.sl x4,.int .i64 x5])]) h
theorem agJ(x x1:Int)(x2:aK)(x3:Int)(x4:Sl)(x5:Int)(R:aG)(w:av)(h:nw w fun k0 w0=>kP [k0] 231 #[ah #[O U x,O U x1,ab x2,O U x3,x4.v,O U x5]] w0 fun b0 w1=>cy (!b0) (R (ai #[ab (ao #[]),aj false]) w1) (nw w1 fun k1 w2=>aF w2 k1 263 [Sl.nil.v]->gy [k0] 232 #[ae (some ⟨k1,0,none⟩),ah #[O U x,O U x1,ab x2,O U x3,x4.v,O U x5]] w2 fun w3=>Nz w3 k1 263 fun l0=>∃z0:aH,qW w3 l0 z0/\az aq 233 #[ab (ao z0.toArray)] w3 fun e2 w4=>∃i0 i1 s0 i2,∃l1:Sl,∃i3 i4 i5,e2=(ak (ai #[ah #[O U i0,O U i1,ab s0,O U i2,l1.v,O U i3],ah #[O U i4,O U i5]]))/\bS [k0] w3 w4/\Nz w4 k1 263 fun l2=>∀k2 k3 w5,w4.heap.size<=k2->k2<w5.heap.size->w4.heap.size<=k3->k3<w5.heap.size->ay [] w4 w5->aF w5 k1 263 [l2.v]->kP [k0,k2,k3] 159 #[ah #[O U x,O U x1,ab x2,O U x3,x4.v,O U x5],ah #[O U i0,O U i1,ab s0,O U i2,l1.v,O U i3],aj false] w5 fun b1 w6=>Nz w6 k1 263 fun l3=>cy (((decide (((ao z0.toArray).size:Int)>16384))||(i4 !=0))||(!b1)) (R (ai #[ab (ao #[]),aj false]) w6) (R (ai #[ab (ao z0.toArray),aj true]) w6))):Cr 183 #[ah #[O U x,O U x1,ab x2,O U x3,x4.v,O U x5]] w R:=
 iJ (args:=[.agg (j5 [.int .i64 x,.int .i64 x1,.str x2,.int .i64 x3,.sl x4,.int .i64 x5])]) h
theorem agK(x x1:Int)(x2:aK)(x3:Int)(x4:Sl)(x5:Int)(R:aG)(w:av)(h:nw w fun k0 w0=>pB 0 w0 fun J0 k2 i0 w1=>cy (decide (i0<(x4.n:Int))) (jo x4 i0 w1 fun i1 i2 s0 i3 l0 i4=>kP [k0] 231 #[ah #[O U i1,O U i2,ab s0,O U i3,l0.v,O U i4]] w1 fun b0 w2=>cy (!b0) (R (aj false) w2) (nx k2 fun k3=>J0 k3 (ar U (i0+1)) w2)) (kP [k0] 94 #[ab x2] w1 fun b1 w3=>cy (x==1) (R (aj ((((decide (x1>=0))&&(x2.toList==((ao #[]).toList)))&&(x3==0))&&((x4.n:Int)==0))) w3) (qp (fun b2 w4=>cy b2 (R (aj ((((x1==0)&&b1)&&(x3==0))&&((x4.n:Int)==0))) w4) (cy (x==4) (R (aj ((((x1==0)&&(x2.toList==((ao #[]).toList)))&&((x3==14)||(x3==15)))&&((x4.n:Int)==1))) w4) (cy (x==5) (qp (fun b3 w5=>R (aj b3) w5) fun J2=>cy ((x1==0)&&(x2.toList==((ao #[]).toList))) (rj [k0] 272 #[ah #[O U x,O U x1,ab x2,O U x3,x4.v,O U x5]] w4 fun i5 w6=>J2 ((decide (i5<6))&&((x4.n:Int)==2)) w6) (J2 false w4)) (R (aj false) w4)))) fun J1=>cy (x==2) (J1 (x==2) w3) (J1 (x==3) w3)))):Cr 231 #[ah #[O U x,O U x1,ab x2,O U x3,x4.v,O U x5]] w R:=
 fB (an:=.s .o (.s (.s .o (.j [1] [.s 3 (.int .i64)] .o .o)) (.d 2 (.s (.d 3 (.j [1,5,6,29] [.s 49 .bool] .o (.d 4 (.s (.s (.j [1] [.s 2 .bool] .o .o) .o) .o)))) .o)))) (args:=[.agg (j5 [.int .i64 x,.int .i64 x1,.str x2,.int .i64 x3,.sl x4,.int .i64 x5])]) h
theorem agL(x x1:Int)(x2:aK)(x3:Int)(x4:Sl)(x5:Int)(R:aG)(w:av)(h:nw w fun k0 w0=>AQ [k0] 275 #[] w0 fun l0 w1=>pB 0 w1 fun J0 k2 i0 w2=>cy ((decide (i0<6))&&(x==5)) (pB 0 w2 fun J1 k4 i1 w3=>YP l0 i0 w3 fun l1=>cy (decide (i1<(l1.n:Int))) (YP l0 i0 w3 fun l2=>YO l2 i1 w3 fun i2=>cy (i2==x3) (∀w4,ay [] w3 w4->R (O U i0) w4) (∀w5,ay [] w3 w5->nx k4 fun k5=>J1 k5 (ar U (i1+1)) w5)) (nx k2 fun k6=>J0 k6 (ar U (i0+1)) w3)) (R (O U 6) w2)):Cr 272 #[ah #[O U x,O U x1,ab x2,O U x3,x4.v,O U x5]] w R:=
 fB (an:=.d 2 (.s (.s .o (.j [1,3] [.s 4 (.int .i64)] (.s .o (.s (.s .o (.j [1,3,4] [.s 5 (.int .i64)] .o .o)) .o)) .o)) .o)) (args:=[.agg (j5 [.int .i64 x,.int .i64 x1,.str x2,.int .i64 x3,.sl x4,.int .i64 x5])]) h
theorem agM(R:aG)(w:av)(h:∃l0:Sl,∃w0,((au 106 1 #[.mk 0 (O U 13)]).run aq w)=(.ok l0.v w0)/\fL (au 106 1 #[.mk 0 (O U 12)]) w0 fun l1 w1=>fL (au 106 2 #[.mk 0 (O U 10),.mk 1 (O U 11)]) w1 fun l2 w2=>fL (au 106 4 #[.mk 0 (O U 6),.mk 1 (O U 7),.mk 2 (O U 8),.mk 3 (O U 9)]) w2 fun l3 w3=>fL (au 106 2 #[.mk 0 (O U 1),.mk 1 (O U 2)]) w3 fun l4 w4=>fL (au 106 3 #[.mk 0 (O U 3),.mk 1 (O U 4),.mk 2 (O U 5)]) w4 fun l5 w5=>fL (au 298 6 #[.mk 0 l0.v,.mk 1 l1.v,.mk 2 l2.v,.mk 3 l3.v,.mk 4 l4.v,.mk 5 l5.v]) w5 fun l6 w6=>R l6.v w6):Cr 275 #[] w R:=
 iJ (args:=[]) h
theorem agN(p:Addr)(x x1:Int)(x2:aK)(x3:Int)(x4:Sl)(x5:Int)(R:aG)(w:av)(h:nw w fun k0 w0=>oJ w0 (p.add 0) fun l0=>cy (decide ((l0.n:Int)>16384)) (R (ai #[]) w0) (cy (x==1) (oe [k0] 47 #[O U x1] w0 fun s0 w1=>gy [k0] 273 #[ae (some p),ab s0] w1 fun w2=>R (ai #[]) w2) (cy (x==2) (gy [k0] 273 #[ae (some p),ab x2] w0 fun w3=>R (ai #[]) w3) (cy (x==3) ((3+(x2.size:Int))<=9223372036854775807/\((((ao #[105,110,40])++x2).size:Int)+1)<=9223372036854775807/\gy [k0] 273 #[ae (some p),ab (((ao #[105,110,40])++x2)++(ao #[41]))] w0 fun w4=>R (ai #[]) w4) (cy (x==4) (Gs (fun w5=>∃p0,dl x4 0 6 p0/\∀w6,ay [] w5 w6->im w6 p0 fun i0 i1 s1 i2 l1 i3=>∃p1,dl x4 0 6 p1/\iz w6 (p1.add 0) fun i4=>gy [k0] 274 #[ae (some p),ah #[O U i0,O U i1,ab s1,O U i2,l1.v,O U i3],aj (i4==5)] w6 fun w7=>R (ai #[]) w7) fun J0=>cy (x3==14) (gy [k0] 273 #[ae (some p),ab (ao #[45])] w0 fun w8=>J0 w8) (gy [k0] 273 #[ae (some p),ab (ao #[33])] w0 fun w9=>J0 w9)) (cy (x==5) (rj [k0] 272 #[ah #[O U x,O U x1,ab x2,O U x3,x4.v,O U x5]] w0 fun i5 dw=>AQ [k0] 275 #[] dw fun l2 dJ=>YP l2 i5 dJ fun l3=>∀eM,ay [] dJ eM->∃J1:aJ,J1 k0/\∃p3,dl x4 0 6 p3/\J1 p3.block/\im eM p3 fun i6 i7 s2 i8 l4 i9=>jo x4 0 eM fun i10 i11 s3 i12 l5 i13=>rj [k0] 272 #[ah #[O U i10,O U i11,ab s3,O U i12,l5.v,O U i13]] eM fun i14 eU=>bO J1 eM eU/\gy [k0] 274 #[ae (some p),ah #[O U i6,O U i7,ab s2,O U i8,l4.v,O U i9],aj (decide (i14<i5))] eU fun fM=>bO J1 eU fM/\pB 0 fM fun J2 k2 i15 iy=>cy (decide (i15<(l3.n:Int))) (Gs (fun jK=>nx k2 fun k3=>J2 k3 (ar U (i15+1)) jK) fun J3=>YO l3 i15 iy fun i16=>cy (i16==x3) (∀iZ,ay [] iy iZ->AQ [k0] 276 #[] iZ fun l6 jM=>YP l6 i5 jM fun l7=>EP l7 i15 jM fun s4=>(1+(s4.size:Int))<=9223372036854775807/\((((ao #[32])++s4).size:Int)+1)<=9223372036854775807/\gy [k0] 273 #[ae (some p),ab (((ao #[32])++s4)++(ao #[32]))] jM fun kf=>J3 kf) (∀jL,ay [] iy jL->J3 jL)) (∀mX,ay [] iy mX->∃J4:aJ,J4 k0/\∃p8,dl x4 1 6 p8/\J4 p8.block/\im mX p8 fun i17 i18 s5 i19 l8 i20=>jo x4 1 mX fun i21 i22 s6 i23 l9 i24=>rj [k0] 272 #[ah #[O U i21,O U i22,ab s6,O U i23,l9.v,O U i24]] mX fun i25 qS=>bO J4 mX qS/\gy [k0] 274 #[ae (some p),ah #[O U i17,O U i18,ab s5,O U i19,l8.v,O U i20],aj (decide (i25<=i5))] qS fun rh=>bO J4 qS rh/\R (ai #[]) rh)) (R (ai #[]) w0))))))):Cr 232 #[ae (some p),ah #[O U x,O U x1,ab x2,O U x3,x4.v,O U x5]] w R:=
 fB (an:=.d 10 (.s (.j [0,3] [] .o .o) (.s .o (.s (.d 3 (.s (.s .o (.j [0,3,4,5] [.s 6 (.int .i64)] (.s .o (.j [0,3,4,5,6] [] .o .o)) .o)) .o)) .o)))) (args:=[.ad p,.agg (j5 [.int .i64 x,.int .i64 x1,.str x2,.int .i64 x3,.sl x4,.int .i64 x5])]) h
theorem abp(n_:Int)(R:aG)(w:av)(h:cy (n_==0) (R (ab (ao #[48])) w) (cy (decide (n_<0)) (az aq 97 #[O U n_] w fun e0 w0=>∃i0,e0=(ak (.int .u64 i0))/\cS 96 #[.int .u64 i0] w0 fun s0 w1=>(1+(s0.size:Int))<=9223372036854775807/\R (ab ((ao #[45])++s0)) w1) (az aq 97 #[O U n_] w fun e2 w2=>∃i1,e2=(ak (.int .u64 i1))/\cS 96 #[.int .u64 i1] w2 fun s1 w3=>R (ab s1) w3))):Cr 47 #[O U n_] w R:=
 iJ (args:=[.int .i64 n_]) h
theorem abq(n_:Int)(R:aG)(w:av)(h:cy (decide (n_<0)) (R (.int .u64 (ar .u64 ((ar .u64 (ar U (0-(ar U (n_+1)))))+1))) w) (R (.int .u64 (ar .u64 n_)) w)):Cr 97 #[O U n_] w R:=
 iJ (args:=[.int .i64 n_]) h
theorem agO(u:Int)(R:aG)(w:av)(h:cy (u==0) (R (ab (ao #[])) w) (qp (fun s0 w0=>R (ab s0) w0) fun J0=>∀w1,ay [] w w1->∃J1:aJ,(cS 96 #[.int .u64 (ar .u64 (u.tdiv 10))] w1 fun s1 w2=>bO J1 w1 w2/\∃l0:Sl,∃w3,((au 68 1 #[.mk 0 (.int .u8 (ar .u8 (ar .u64 (48+(u.tmod 10)))))]).run aq w2)=(.ok l0.v w3)/\bO J1 w2 w3/\∃z0:aH,qW w3 l0 z0/\((s1.size:Int)+((ao z0.toArray).size:Int))<=9223372036854775807/\J0 (s1++(ao z0.toArray)) w3)/\∃l1:Sl,∃w4,((au 68 1 #[.mk 0 (.int .u8 (ar .u8 (ar .u64 (48+(u.tmod 10)))))]).run aq w1)=(.ok l1.v w4)/\bO J1 w1 w4/\∃z1:aH,(∀p0,l1.a=(some p0)->J1 p0.block)/\qW w4 l1 z1/\cS 96 #[.int .u64 (ar .u64 (u.tdiv 10))] w4 fun s2 w5=>bO J1 w4 w5/\((s2.size:Int)+((ao z1.toArray).size:Int))<=9223372036854775807/\J0 (s2++(ao z1.toArray)) w5)):Cr 96 #[.int .u64 u] w R:=
 fB (an:=.d 2 (.s (.j [] [.s 2 .str] .o .o) .o)) (args:=[.int .u64 u]) h
theorem agP(p:Addr)(s:aK)(R:aG)(w:av)(h:oJ w (p.add 0) fun l0=>cy (decide ((l0.n:Int)<=16384)) (oJ w (p.add 0) fun l1=>∃l2:Sl,∃w0,((Builtin.append_ #[68,9] 68 #[l1.v,ab s]).run aq w)=(.ok l2.v w0)/\∃k0 k1:Nat,∃z0,∃k2:Nat,(p.add 0)=⟨k0,k1,none⟩/\aF w0 k0 k2 z0/\(k1+1)<=z0.length/\∀w1,ay [k0] w0 w1->aF w1 k0 k2 (ca z0 k1 [l2.v])->R (ai #[]) w1) (R (ai #[]) w)):Cr 273 #[ae (some p),ab s] w R:=
 iJ (args:=[.ad p,.str s]) h
theorem agQ(p:Addr)(x x1:Int)(x2:aK)(x3:Int)(x4:Sl)(x5:Int)(is:Bool)(R:aG)(w:av)(h:nw w fun k0 w0=>Gs (fun w1=>gy [k0] 232 #[ae (some p),ah #[O U x,O U x1,ab x2,O U x3,x4.v,O U x5]] w1 fun w2=>cy is (gy [k0] 273 #[ae (some p),ab (ao #[41])] w2 fun w3=>R (ai #[]) w3) (R (ai #[]) w2)) fun J0=>cy is (gy [k0] 273 #[ae (some p),ab (ao #[40])] w0 fun w4=>J0 w4) (J0 w0)):Cr 274 #[ae (some p),ah #[O U x,O U x1,ab x2,O U x3,x4.v,O U x5],aj is] w R:=
 fB (an:=.s .o (.j [0,2,4] [] .o .o)) (args:=[.ad p,.agg (j5 [.int .i64 x,.int .i64 x1,.str x2,.int .i64 x3,.sl x4,.int .i64 x5]),.bt is]) h
theorem agR(R:aG)(w:av)(h:∃l0:Sl,∃w0,((au 52 1 #[.mk 0 (ab (ao #[124,124]))]).run aq w)=(.ok l0.v w0)/\fL (au 52 1 #[.mk 0 (ab (ao #[38,38]))]) w0 fun l1 w1=>fL (au 52 2 #[.mk 0 (ab (ao #[61,61])),.mk 1 (ab (ao #[33,61]))]) w1 fun l2 w2=>fL (au 52 4 #[.mk 0 (ab (ao #[60])),.mk 1 (ab (ao #[60,61])),.mk 2 (ab (ao #[62])),.mk 3 (ab (ao #[62,61]))]) w2 fun l3 w3=>fL (au 52 2 #[.mk 0 (ab (ao #[43])),.mk 1 (ab (ao #[45]))]) w3 fun l4 w4=>fL (au 52 3 #[.mk 0 (ab (ao #[42])),.mk 1 (ab (ao #[47])),.mk 2 (ab (ao #[37]))]) w4 fun l5 w5=>fL (au 300 6 #[.mk 0 l0.v,.mk 1 l1.v,.mk 2 l2.v,.mk 3 l3.v,.mk 4 l4.v,.mk 5 l5.v]) w5 fun l6 w6=>R l6.v w6):Cr 276 #[] w R:=
 iJ (args:=[]) h
theorem agS(s:aK)(R:aG)(w:av)(h:∀k0 k1 w0,w.heap.size<=k0->k0<w0.heap.size->w.heap.size<=k1->k1<w0.heap.size->ay [] w w0->az aq 119 #[ab s] w0 fun e0 w1=>∃l0:Sl,∃i0 i1,e0=(ak (ai #[l0.v,ah #[O U i0,O U i1]]))/\bS [k0,k1] w0 w1/\cy (i0 !=0) (nw w1 fun k2 w2=>k0≠k1->k0≠k2->k1≠k2->∃J0:aJ,J0 k2/\ux J0 k0/\ux J0 k1/\∀w3,ay [k1,k0] w2 w3->R (ai #[ah #[O U 0,O U 0,ab (ao #[]),O U 0,Sl.nil.v,O U 0],ah #[O U i0,O U i1]]) w3) (nw w1 fun k3 w4=>az aq 277 #[l0.v,O U 0] w4 fun e1 w5=>∃i2 i3 s0 i4,∃l1:Sl,∃i5 i6 i7 i8,e1=(ak (ai #[ah #[O U i2,O U i3,ab s0,O U i4,l1.v,O U i5],O U i6,ah #[O U i7,O U i8]]))/\bS [k0,k1,k3] w4 w5/\cy (i7 !=0) (∀k4 w6,w5.heap.size<=k4->k4<w6.heap.size->ay [k3] w5 w6->k0≠k1->k0≠k3->k0≠k4->k1≠k3->k1≠k4->k3≠k4->∃J1:aJ,J1 k3/\ux J1 k0/\ux J1 k1/\∀w7,ay [k1,k0] w6 w7->R (ai #[ah #[O U 0,O U 0,ab (ao #[]),O U 0,Sl.nil.v,O U 0],ah #[O U i7,O U i8]]) w7) (∃p0,dl l0 i6 4 p0/\∀k5 w8,w5.heap.size<=k5->k5<w8.heap.size->ay [k3] w5 w8->iz w8 (p0.add 0) fun i9=>cy (i9 !=5) (∀w9,ay [] w8 w9->k0≠k1->k0≠k3->k0≠k5->k1≠k3->k1≠k5->k3≠k5->∃J2:aJ,∃p1,dl l0 i6 4 p1/\J2 ((p1.add 3).block)/\iz w9 (p1.add 3) fun i10=>ux J2 k0/\ux J2 k1/\∀dw,ay [k1,k0] w9 dw->R (ai #[ah #[O U 0,O U 0,ab (ao #[]),O U 0,Sl.nil.v,O U 0],ah #[O U 4,O U i10]]) dw) (∀dJ,ay [k1,k0] w8 dJ->R (ai #[ah #[O U i2,O U i3,ab s0,O U i4,l1.v,O U i5],ah #[O U 0,O U 0]]) dJ)))):Cr 233 #[ab s] w R:=
 iJ (args:=[.str s]) h
theorem agT(s:aK)(R:aG)(w:av)(h:cy (decide ((s.size:Int)>16384)) (nw w fun k0 w0=>R (ai #[Sl.nil.v,ah #[O U 2,O U (-1)]]) w0) (nw w fun k1 w1=>rj [k1] 184 #[ab s,O U 0] w1 fun i0 w2=>∃J0:Nat->Sl->Int->Int->Int->av->Prop,∃k2:Nat,J0 k2 Sl.nil i0 0 0 w2/\∀k3,∀l0:Sl,∀i1 i2 i3 w3,J0 k3 l0 i1 i2 i3 w3->cy (decide (i1<(s.size:Int))) (az aq 185 #[ab s,O U i1] w3 fun e1 w4=>∃i4 s0 i5 i6 i7 i8,e1=(ak (ai #[ah #[O U i4,ab s0,O U i5,O U i6],O U i7,O U i8]))/\bS [k1] w3 w4/\cy (i8 !=0) (∀k4 w5,w4.heap.size<=k4->k4<w5.heap.size->ay [k1] w4 w5->R (ai #[Sl.nil.v,ah #[O U i8,O U i1]]) w5) (nw w4 fun k5 w6=>fL (au 124 1 #[.mk 0 (ah #[O U i4,ab s0,O U i5,O U i6])]) w6 fun l1 w7=>bS [k1,k5] w6 w7/\fL (Builtin.append_ #[124,124] 124 #[l0.v,l1.v]) w7 fun l2 w8=>bS [k1,k5] w7 w8/\rj [k1,k5] 184 #[ab s,O U (ar U (i1+i7))] w8 fun i9 w9=>nx k3 fun k6=>J0 k6 l2 i9 i2 i3 w9)) (fL (au 124 1 #[.mk 0 (ah #[O U 5,ab (ao #[]),O U 0,O U (s.size:Int)])]) w3 fun l3 dw=>bS [k1] w3 dw/\fL (Builtin.append_ #[124,124] 124 #[l0.v,l3.v]) dw fun l4 dJ=>bS [k1] dw dJ/\∀eM,ay [k1] dJ eM->R (ai #[l4.v,ah #[O U 0,O U 0]]) eM))):Cr 119 #[ab s] w R:=
 fB (an:=.d 4 (.s (.j [0,3] [.s 4 .sl,.s 5 (.int .i64),.b 3 [.int .i64,.int .i64]] .o .o) .o)) (args:=[.str s]) h
theorem agU(s:aK)(at_:Int)(R:aG)(w:av)(h:qp (fun i0 w0=>R (O U i0) w0) fun J0=>pB at_ w fun J1 k1 i1 w1=>cy (decide (i1<(s.size:Int))) (∃c0:UInt8,(0<=i1/\(s[Int.toNat i1]?)=(some c0))/\∃c1:UInt8,((((UInt8.toNat c0:Int)==47)&&(decide ((ar U (i1+1))<(s.size:Int))))=true->0<=(ar U (i1+1))/\(s[Int.toNat (ar U (i1+1))]?)=(some c1))/\cy ((((UInt8.toNat c0:Int)==47)&&(decide ((ar U (i1+1))<(s.size:Int))))&&((UInt8.toNat c1:Int)==47)) (pB i1 w1 fun J2 k5 i2 w2=>∃c2:UInt8,((decide (i2<(s.size:Int)))=true->0<=i2/\(s[Int.toNat i2]?)=(some c2))/\cy ((decide (i2<(s.size:Int)))&&((UInt8.toNat c2:Int) !=10)) (nx k5 fun k7=>J2 k7 (ar U (i2+1)) w2) (nx k1 fun k8=>J1 k8 i2 w2)) (cy (((((UInt8.toNat c0:Int)==9)||((UInt8.toNat c0:Int)==10))||((UInt8.toNat c0:Int)==13))||((UInt8.toNat c0:Int)==32)) (nx k1 fun k9=>J1 k9 (ar U (i1+1)) w1) (J0 i1 w1))) (J0 i1 w1)):Cr 184 #[ab s,O U at_] w R:=
 fB (an:=.s .o (.j [] [.s 1 (.int .i64)] (.j [0] [.s 1 (.int .i64)] (.d 3 (.s (.j [0] [.s 1 (.int .i64)] .o .o) .o)) .o) .o)) (args:=[.str s,.int .i64 at_]) h
theorem agV(s:aK)(at_:Int)(R:aG)(w:av)(h:∃c0:UInt8,(0<=at_/\(s[Int.toNat at_]?)=(some c0))/\nw w fun k1 w0=>kP [k1] 160 #[.int .u8 (UInt8.toNat c0:Int)] w0 fun b0 w1=>∃c1:UInt8,(0<=at_/\(s[Int.toNat at_]?)=(some c1))/\kP [k1] 220 #[.int .u8 (UInt8.toNat c1:Int)] w1 fun b1 w2=>cy b0 (rj [k1] 162 #[ab s,O U at_] w2 fun i0 w3=>∃k3 k4:Nat,(at_=(k3:Int)/\(ar U (at_+i0))=(k4:Int)/\k3<=k4/\k4<=s.size)/\nw w3 fun k5 w4=>kP [k1,k5] 161 #[ab (s.extract k3 k4)] w4 fun b2 w5=>∃J0:Int->aK->Int->Int->av->Prop,(∀i1 s2 i2 i3 w6,J0 i1 s2 i2 i3 w6->cy (decide (i0>24)) (∀w7,ay [k1] w6 w7->R (ai #[ah #[O U 0,ab (ao #[]),O U 0,O U 0],O U 0,O U 2]) w7) (∀w8,ay [k1] w6 w8->R (ai #[ah #[O U i1,ab s2,O U i2,O U i3],O U i0,O U 0]) w8))/\cy b2 (∀w9,ay [k5] w5 w9->J0 2 (s.extract k3 k4) 0 at_ w9) (J0 1 (s.extract k3 k4) 0 at_ w5)) (cy b1 (∃k6:Nat,(at_=(k6:Int)/\k6<=s.size)/\az aq 234 #[ab (s.extract k6 s.size)] w2 fun e4 dw=>∃i4 i5 i6,e4=(ak (ai #[O U i4,O U i5,O U i6]))/\bS [k1] w2 dw/\cy (i6 !=0) (∀dJ,ay [k1] dw dJ->R (ai #[ah #[O U 0,ab (ao #[]),O U 0,O U 0],O U 0,O U i6]) dJ) (rj [k1] 162 #[ab s,O U at_] dw fun i7 eM=>cy (decide (i7>i5)) (∀eU,ay [k1] eM eU->R (ai #[ah #[O U 0,ab (ao #[]),O U 0,O U 0],O U 0,O U 4]) eU) (∀fM,ay [k1] eM fM->R (ai #[ah #[O U 3,ab (ao #[]),O U i4,O U at_],O U i5,O U 0]) fM))) (rj [k1] 235 #[ab s,O U at_] w2 fun i8 iy=>cy (i8==0) (∀jK,ay [k1] iy jK->R (ai #[ah #[O U 0,ab (ao #[]),O U 0,O U 0],O U 0,O U 4]) jK) (∃k7 k8:Nat,(at_=(k7:Int)/\(ar U (at_+i8))=(k8:Int)/\k7<=k8/\k8<=s.size)/\∀iZ,ay [k1] iy iZ->R (ai #[ah #[O U 4,ab (s.extract k7 k8),O U 0,O U at_],O U i8,O U 0]) iZ)))):Cr 185 #[ab s,O U at_] w R:=
 fB (an:=.d 3 (.s (.s .o (.s (.d 3 (.j [4,9,10] [.b 10 [.int .i64,.str,.int .i64,.int .i64]] .o .o)) .o)) .o)) (args:=[.str s,.int .i64 at_]) h
theorem agW(s:aK)(R:aG)(w:av)(h:cy ((s.size:Int)==0) (R (ai #[O U 0,O U 0,O U 3]) w) (pB 0 w fun J0 k1 i0 w0=>∃c0:UInt8,((decide (i0<(s.size:Int)))=true->0<=i0/\(s[Int.toNat i0]?)=(some c0))/\∃c1:UInt8,(((decide (i0<(s.size:Int)))&&(decide ((UInt8.toNat c0:Int)>=48)))=true->0<=i0/\(s[Int.toNat i0]?)=(some c1))/\cy (((decide (i0<(s.size:Int)))&&(decide ((UInt8.toNat c0:Int)>=48)))&&(decide ((UInt8.toNat c1:Int)<=57))) (nx k1 fun k4=>J0 k4 (ar U (i0+1)) w0) (∃c2:UInt8,((i0==0)=false->(decide (i0>1))=true->(0:Int)<=0/\s[0]? =(some c2))/\cy ((i0==0)||((decide (i0>1))&&((UInt8.toNat c2:Int)==48))) (R (ai #[O U 0,O U 0,O U 4]) w0) (T7 0 0 w0 fun J1 k7 i1 i2 w1=>cy (decide (i2<i0)) (∃c3:UInt8,(0<=i2/\(s[Int.toNat i2]?)=(some c3))/\cy (decide (i1>(ar U ((ar U (9223372036854775807-(ar U (ar .u8 ((UInt8.toNat c3:Int)-48))))).tdiv 10)))) (R (ai #[O U 0,O U 0,O U 20]) w1) (nx k7 fun k9=>J1 k9 (ar U ((ar U (10*i1))+(ar U (ar .u8 ((UInt8.toNat c3:Int)-48))))) (ar U (i2+1)) w1)) (R (ai #[O U i1,O U i0,O U 0]) w1))))):Cr 234 #[ab s] w R:=
 fB (an:=.d 3 (.s (.j [0] [.s 5 (.int .i64)] .o .o) (.d 2 (.s (.s .o (.j [0,5] [.s 6 (.int .i64),.s 7 (.int .i64)] .o .o)) .o)))) (args:=[.str s]) h
theorem agX(s:aK)(at_:Int)(R:aG)(w:av)(h:∃l0:Sl,∃w0,((au 52 7 #[.mk 0 (ab (ao #[45,62])),.mk 1 (ab (ao #[60,61])),.mk 2 (ab (ao #[62,61])),.mk 3 (ab (ao #[61,61])),.mk 4 (ab (ao #[33,61])),.mk 5 (ab (ao #[38,38])),.mk 6 (ab (ao #[124,124]))]).run aq w)=(.ok l0.v w0)/\pB 0 w0 fun J0 k1 i0 w1=>cy (decide (i0<(l0.n:Int))) (∃k2 k3:Nat,((decide ((ar U (at_+2))<=(s.size:Int)))=true->at_=(k2:Int)/\(ar U (at_+2))=(k3:Int)/\k2<=k3/\k3<=s.size)/\∃p0,((decide ((ar U (at_+2))<=(s.size:Int)))=true->dl l0 i0 1 p0)/\∃s0,((decide ((ar U (at_+2))<=(s.size:Int)))=true->aB w1 p0 [ab s0])/\cy ((decide ((ar U (at_+2))<=(s.size:Int)))&&(((s.extract k2 k3).toList)==s0.toList)) (∀w2,ay [] w1 w2->R (O U 2) w2) (∀w3,ay [] w1 w3->nx k1 fun k4=>J0 k4 (ar U (i0+1)) w3)) (pB 0 w1 fun J1 k6 i1 w4=>cy (decide (i1<17)) (∃c0:UInt8,(0<=at_/\(s[Int.toNat at_]?)=(some c0))/\∃c1:UInt8,(0<=i1/\((ao #[123,125,40,41,91,93,59,44,61,43,45,42,47,37,60,62,33])[Int.toNat i1]?)=(some c1))/\cy ((UInt8.toNat c0:Int)==(UInt8.toNat c1:Int)) (∀w5,ay [] w4 w5->R (O U 1) w5) (∀w6,ay [] w4 w6->nx k6 fun k9=>J1 k9 (ar U (i1+1)) w6)) (R (O U 0) w4))):Cr 235 #[ab s,O U at_] w R:=
 fB (an:=.d 2 (.s (.s .o (.j [0,1,5] [.s 6 (.int .i64)] .o .o)) (.s .o (.s (.s .o (.j [0,1,7] [.s 8 (.int .i64)] .o .o)) .o)))) (args:=[.str s,.int .i64 at_]) h
theorem agY(l:Sl)(at_:Int)(R:aG)(w:av)(h:cy ((decide (at_<0))||(decide (at_>=(l.n:Int)))) (∀k0 k1 w0,w.heap.size<=k0->k0<w0.heap.size->w.heap.size<=k1->k1<w0.heap.size->ay [] w w0->R (ai #[ah #[O U 0,O U 0,ab (ao #[]),O U 0,Sl.nil.v,O U 0],O U 0,ah #[O U 1,O U (-1)]]) w0) (∀k2 k3 w1,w.heap.size<=k2->k2<w1.heap.size->w.heap.size<=k3->k3<w1.heap.size->ay [] w w1->∃J0:Nat->Int->Int->Int->aK->Int->Sl->Int->Int->Int->av->Prop,∃k4:Nat,J0 k4 0 0 0 (ao #[]) 0 Sl.nil 0 0 0 w1/\∀k5 i0 i1 i2 s0 i3,∀l0:Sl,∀i4 i5 i6 w2,J0 k5 i0 i1 i2 s0 i3 l0 i4 i5 i6 w2->cy (decide (i0<(l.n:Int))) (∃p0,dl l i0 4 p0/\iz w2 (p0.add 0) fun i7=>cy (!((i7==5)==(i0==(ar U ((l.n:Int)-1))))) (∀w3,ay [k3,k2] w2 w3->R (ai #[ah #[O U 0,O U 0,ab (ao #[]),O U 0,Sl.nil.v,O U 0],O U 0,ah #[O U 1,O U (-1)]]) w3) (nx k5 fun k6=>J0 k6 (ar U (i0+1)) i1 i2 s0 i3 l0 i4 i5 i6 w2)) (nw w2 fun k7 w4=>aF w4 k7 320 [l.v,O U at_,O U 0,O U 0,O U 0]->az aq 300 #[ae (some ⟨k7,0,none⟩),O U 0] w4 fun e0 w5=>∃i8 i9 s1 i10,∃l1:Sl,∃i11,e0=(ak (ah #[O U i8,O U i9,ab s1,O U i10,l1.v,O U i11]))/\bS [k2,k3] w4 w5/\Sd w5 k7 320 fun l2 i12 i13 i14 i15=>cy (i14 !=0) (nw w5 fun k8 w6=>aF w6 k7 320 [l2.v,O U i12,O U i13,O U i14,O U i15]->k2≠k3->k2≠k7->k2≠k8->k3≠k7->k3≠k8->k7≠k8->∃J1:aJ,J1 k7/\ux J1 k2/\ux J1 k3/\∀w7,ay [k3,k2] w6 w7->aF w7 k7 320 [l2.v,O U i12,O U i13,O U i14,O U i15]->R (ai #[ah #[O U 0,O U 0,ab (ao #[]),O U 0,Sl.nil.v,O U 0],O U 0,ah #[O U i14,O U i15]]) w7) (nw w5 fun k9 w8=>aF w8 k7 320 [l2.v,O U i12,O U i13,O U i14,O U i15]->k2≠k3->k2≠k7->k2≠k9->k3≠k7->k3≠k9->k7≠k9->∃J2:aJ,J2 k7/\ux J2 k2/\ux J2 k3/\∀w9,ay [k3,k2] w8 w9->aF w9 k7 320 [l2.v,O U i12,O U i13,O U i14,O U i15]->R (ai #[ah #[O U i8,O U i9,ab s1,O U i10,l1.v,O U i11],O U i12,ah #[O U 0,O U 0]]) w9)))):Cr 277 #[l.v,O U at_] w R:=
 fB (an:=.d 2 (.s (.s .o (.j [0,1,4,6] [.s 7 (.int .i64),.b 4 [.int .i64,.int .i64,.str,.int .i64,.sl,.int .i64],.b 6 [.int .i64,.int .i64]] .o .o)) .o)) (args:=[.sl l,.int .i64 at_]) h
theorem abr(r:Addr)(k:Int)(R:aG)(w:av)(h:cy (k==6) (nw w fun k0 w0=>az aq 311 #[ae (some r)] w0 fun e0 w1=>∃i0 i1 s0 i2,∃l0:Sl,∃i3,e0=(ak (ah #[O U i0,O U i1,ab s0,O U i2,l0.v,O U i3]))/\bS [k0] w0 w1/\∀w2,ay [k0] w1 w2->R (ah #[O U i0,O U i1,ab s0,O U i2,l0.v,O U i3]) w2) (nw w fun k1 w3=>az aq 300 #[ae (some r),O U (ar U (k+1))] w3 fun e1 w4=>∃i4 i5 s1 i6,∃l1:Sl,∃i7,e1=(ak (ah #[O U i4,O U i5,ab s1,O U i6,l1.v,O U i7]))/\bS [k1] w3 w4/\nw w4 fun k2 w5=>rj [k1,k2] 312 #[ae (some r),O U k] w5 fun i8 w6=>∃J0:Nat->Int->Int->Int->aK->Int->Sl->Int->av->Prop,∃k3:Nat,J0 k3 i8 i4 i5 s1 i6 l1 i7 w6/\∀k4 i9 i10 i11 s2 i12,∀l2:Sl,∀i13 w7,J0 k4 i9 i10 i11 s2 i12 l2 i13 w7->cy (i9 !=0) (iz w7 (r.add 1) fun i14=>∃k5 k6:Nat,∃z0,∃k7:Nat,(r.add 1)=⟨k5,k6,none⟩/\aF w7 k5 k7 z0/\(k6+1)<=z0.length/\k1≠k5/\k2≠k5/\∀w8,ay [k5] w7 w8->aF w8 k5 k7 (ca z0 k6 [O U (ar U (i14+1))])->az aq 300 #[ae (some r),O U (ar U (k+1))] w8 fun e3 w9=>∃i15 i16 s3 i17,∃l3:Sl,∃i18,e3=(ak (ah #[O U i15,O U i16,ab s3,O U i17,l3.v,O U i18]))/\bS [k1,k2] w8 w9/\nw w9 fun k8 dw=>fL (au 49 2 #[.mk 0 (ah #[O U i10,O U i11,ab s2,O U i12,l2.v,O U i13]),.mk 1 (ah #[O U i15,O U i16,ab s3,O U i17,l3.v,O U i18])]) dw fun l4 dJ=>bS [k1,k2,k8] dw dJ/\∀eM,ay [k2] dJ eM->rj [k1,k2,k8] 312 #[ae (some r),O U k] eM fun i19 eU=>nx k4 fun k9=>J0 k9 i19 5 0 (ao #[]) i9 l4 i13 eU) (∀fM,ay [k1] w7 fM->R (ah #[O U i10,O U i11,ab s2,O U i12,l2.v,O U i13]) fM))):Cr 300 #[ae (some r),O U k] w R:=
 fB (an:=.d 4 (.s (.j [0,1,4,5] [.s 6 (.int .i64),.b 5 [.int .i64,.int .i64,.str,.int .i64,.sl,.int .i64]] .o .o) .o)) (args:=[.ad r,.int .i64 k]) h
theorem agZ(r:Addr)(R:aG)(w:av)(h:nw w fun k0 w0=>∃J0:aJ,J0 ((r.add 0).block)/\oJ w0 (r.add 0) fun l0=>J0 ((r.add 1).block)/\iz w0 (r.add 1) fun i0=>∃p0,dl l0 i0 4 p0/\J0 p0.block/\CH w0 p0 fun i1 s0 i2 i3=>nw w0 fun k1 w1=>kP [k0,k1] 320 #[ae (some r),ab (ao #[45])] w1 fun b0 w2=>kP [k0,k1] 320 #[ae (some r),ab (ao #[33])] w2 fun b1 w3=>kP [k0,k1] 320 #[ae (some r),ab (ao #[40])] w3 fun b2 w4=>iz w4 ((r.add 3).add 0) fun i4=>cy (i4 !=0) (∀w5,ay [k0] w4 w5->R (ah #[O U 0,O U 0,ab (ao #[]),O U 0,Sl.nil.v,O U 0]) w5) (cy (b0||b1) (kP [k0,k1] 321 #[ae (some r)] w4 fun b3 w6=>cy (!b3) (∀w7,ay [k0] w6 w7->R (ah #[O U 0,O U 0,ab (ao #[]),O U 0,Sl.nil.v,O U 0]) w7) (az aq 311 #[ae (some r)] w6 fun e4 w8=>∃i5 i6 s1 i7,∃l1:Sl,∃i8,e4=(ak (ah #[O U i5,O U i6,ab s1,O U i7,l1.v,O U i8]))/\bS [k0,k1] w6 w8/\nw w8 fun k2 w9=>iz w9 (r.add 2) fun i9=>∃k3 k4:Nat,∃z0,∃k5:Nat,(r.add 2)=⟨k3,k4,none⟩/\aF w9 k3 k5 z0/\(k4+1)<=z0.length/\k0≠k3/\k1≠k3/\k2≠k3/\∀dw,ay [k3] w9 dw->aF dw k3 k5 (ca z0 k4 [O U (ar U (i9-1))])->qp (fun i10 dJ=>fL (au 49 1 #[.mk 0 (ah #[O U i5,O U i6,ab s1,O U i7,l1.v,O U i8])]) dJ fun l2 eM=>bS [k0,k1,k2] dJ eM/\∀eU,ay [k0] eM eU->R (ah #[O U 4,O U 0,ab (ao #[]),O U i10,l2.v,O U i3]) eU) fun J1=>cy b1 (J1 15 dw) (J1 14 dw))) (cy b2 (kP [k0,k1] 321 #[ae (some r)] w4 fun b4 fM=>cy (!b4) (∀iy,ay [k0] fM iy->R (ah #[O U 0,O U 0,ab (ao #[]),O U 0,Sl.nil.v,O U 0]) iy) (az aq 300 #[ae (some r),O U 0] fM fun e6 jK=>∃i11 i12 s2 i13,∃l3:Sl,∃i14,e6=(ak (ah #[O U i11,O U i12,ab s2,O U i13,l3.v,O U i14]))/\bS [k0,k1] fM jK/\nw jK fun k6 iZ=>gy [k0,k1,k6] 322 #[ae (some r),ab (ao #[41])] iZ fun jM=>iz jM (r.add 2) fun i15=>∃k7 k8:Nat,∃z1,∃k9:Nat,(r.add 2)=⟨k7,k8,none⟩/\aF jM k7 k9 z1/\(k8+1)<=z1.length/\k0≠k7/\k1≠k7/\k6≠k7/\∀kf,ay [k7] jM kf->aF kf k7 k9 (ca z1 k8 [O U (ar U (i15-1))])->∀jL,ay [k0] kf jL->R (ah #[O U i11,O U i12,ab s2,O U i13,l3.v,O U i14]) jL)) (cy (i1==3) (iz w4 (r.add 1) fun i16=>∃rr pE:Nat,∃z2,∃GB:Nat,(r.add 1)=⟨rr,pE,none⟩/\aF w4 rr GB z2/\(pE+1)<=z2.length/\k0≠rr/\k1≠rr/\∀mX,ay [rr] w4 mX->aF mX rr GB (ca z2 pE [O U (ar U (i16+1))])->∀qS,ay [k0] mX qS->R (ah #[O U 1,O U i2,ab (ao #[]),O U 0,Sl.nil.v,O U i3]) qS) (cy (i1==1) (iz w4 (r.add 1) fun i17=>∃ul Kw:Nat,∃z3,∃LW:Nat,(r.add 1)=⟨ul,Kw,none⟩/\aF w4 ul LW z3/\(Kw+1)<=z3.length/\k0≠ul/\k1≠ul/\∀rh,ay [ul] w4 rh->aF rh ul LW (ca z3 Kw [O U (ar U (i17+1))])->∀tG,ay [k0] rh tG->R (ah #[O U 2,O U 0,ab s0,O U 0,Sl.nil.v,O U i3]) tG) (cy ((i1==2)&&(s0.toList==((ao #[105,110]).toList))) (az aq 323 #[ae (some r)] w4 fun e8 po=>∃i18 i19 s3 i20,∃l4:Sl,∃i21,e8=(ak (ah #[O U i18,O U i19,ab s3,O U i20,l4.v,O U i21]))/\bS [k0,k1] w4 po/\∀qT,ay [k0] po qT->R (ah #[O U i18,O U i19,ab s3,O U i20,l4.v,O U i21]) qT) (gy [k0,k1] 324 #[ae (some r)] w4 fun tW=>∀wY,ay [k0] tW wY->R (ah #[O U 0,O U 0,ab (ao #[]),O U 0,Sl.nil.v,O U 0]) wY))))))):Cr 311 #[ae (some r)] w R:=
 fB (an:=.d 5 (.s (.d 3 (.s (.d 5 (.j [2,3,8] [.s 9 (.int .i64)] .o .o)) .o)) .o)) (args:=[.ad r]) h
theorem ag0(r:Addr)(s:aK)(R:aG)(w:av)(h:∀w0,ay [] w w0->∃J0:aJ,J0 ((r.add 0).block)/\oJ w0 (r.add 0) fun l0=>J0 ((r.add 1).block)/\iz w0 (r.add 1) fun i0=>∃p0,dl l0 i0 4 p0/\J0 p0.block/\CH w0 p0 fun i1 s0 i2 i3=>nw w0 fun k0 w1=>iz w1 ((r.add 3).add 0) fun i4=>R (aj (((i4==0)&&(i1==4))&&(s0.toList==s.toList))) w1):Cr 320 #[ae (some r),ab s] w R:=
 iJ (args:=[.ad r,.str s]) h
theorem ag1(r:Addr)(R:aG)(w:av)(h:iz w (r.add 2) fun i0=>cy (i0==20) (cU 335 #[ae (some r),O U 21] w fun w0=>R (aj false) w0) (iz w (r.add 2) fun i1=>∃k0 k1:Nat,∃z0,∃k2:Nat,(r.add 2)=⟨k0,k1,none⟩/\aF w k0 k2 z0/\(k1+1)<=z0.length/\∀w1,ay [k0] w w1->aF w1 k0 k2 (ca z0 k1 [O U (ar U (i1+1))])->iz w1 (r.add 1) fun i2=>∃k3 k4:Nat,∃z1,∃k5:Nat,(r.add 1)=⟨k3,k4,none⟩/\aF w1 k3 k5 z1/\(k4+1)<=z1.length/\∀w2,ay [k3] w1 w2->aF w2 k3 k5 (ca z1 k4 [O U (ar U (i2+1))])->R (aj true) w2)):Cr 321 #[ae (some r)] w R:=
 iJ (args:=[.ad r]) h
theorem ag2(r:Addr)(e_:Int)(R:aG)(w:av)(h:iz w ((r.add 3).add 0) fun i0=>cy (i0==0) (∀w0,ay [] w w0->oJ w0 (r.add 0) fun l0=>iz w0 (r.add 1) fun i1=>∃p0,dl l0 i1 4 p0/\iz w0 (p0.add 3) fun i2=>∃k0 k1:Nat,∃z0,∃k2:Nat,(r.add 3)=⟨k0,k1,none⟩/\aF w0 k0 k2 z0/\(k1+2)<=z0.length/\∀w1,ay [k0] w0 w1->aF w1 k0 k2 (ca z0 k1 [O U e_,O U i2])->R (ai #[]) w1) (R (ai #[]) w)):Cr 335 #[ae (some r),O U e_] w R:=
 iJ (args:=[.ad r,.int .i64 e_]) h
theorem ag3(r:Addr)(s:aK)(R:aG)(w:av)(h:cB 320 #[ae (some r),ab s] w fun b0 w0=>cy (!b0) (cU 324 #[ae (some r)] w0 fun w1=>R (ai #[]) w1) (iz w0 (r.add 1) fun i0=>∃k0 k1:Nat,∃z0,∃k2:Nat,(r.add 1)=⟨k0,k1,none⟩/\aF w0 k0 k2 z0/\(k1+1)<=z0.length/\∀w2,ay [k0] w0 w2->aF w2 k0 k2 (ca z0 k1 [O U (ar U (i0+1))])->R (ai #[]) w2)):Cr 322 #[ae (some r),ab s] w R:=
 iJ (args:=[.ad r,.str s]) h
theorem ag4(r:Addr)(R:aG)(w:av)(h:oJ w (r.add 0) fun l0=>iz w (r.add 1) fun i0=>∃p0,dl l0 i0 4 p0/\iz w (p0.add 0) fun i1=>cy (i1==5) (∀w0,ay [] w w0->cU 335 #[ae (some r),O U 3] w0 fun w1=>R (ai #[]) w1) (∀w2,ay [] w w2->cU 335 #[ae (some r),O U 4] w2 fun w3=>R (ai #[]) w3)):Cr 324 #[ae (some r)] w R:=
 iJ (args:=[.ad r]) h
theorem ag5(r:Addr)(R:aG)(w:av)(h:nw w fun k0 w0=>∃J0:aJ,J0 ((r.add 0).block)/\oJ w0 (r.add 0) fun l0=>J0 ((r.add 1).block)/\iz w0 (r.add 1) fun i0=>∃p0,dl l0 i0 4 p0/\J0 ((p0.add 3).block)/\iz w0 (p0.add 3) fun i1=>nw w0 fun k1 w1=>iz w1 (r.add 1) fun i2=>∃k2 k3:Nat,∃z0,∃k4:Nat,(r.add 1)=⟨k2,k3,none⟩/\aF w1 k2 k4 z0/\(k3+1)<=z0.length/\k0≠k2/\k1≠k2/\∀w2,ay [k2] w1 w2->aF w2 k2 k4 (ca z0 k3 [O U (ar U (i2+1))])->gy [k0,k1] 322 #[ae (some r),ab (ao #[40])] w2 fun w3=>iz w3 ((r.add 3).add 0) fun i3=>cy (i3 !=0) (∀w4,ay [k0] w3 w4->R (ah #[O U 3,O U 0,ab (ao #[]),O U 0,Sl.nil.v,O U i1]) w4) (oJ w3 (r.add 0) fun l1=>iz w3 (r.add 1) fun i4=>∃p1,dl l1 i4 4 p1/\iz w3 (p1.add 0) fun i5=>cy (i5 !=1) (∀w5,ay [] w3 w5->gy [k0,k1] 324 #[ae (some r)] w5 fun w6=>∀w7,ay [k0] w6 w7->R (ah #[O U 3,O U 0,ab (ao #[]),O U 0,Sl.nil.v,O U i1]) w7) (∀w8,ay [] w3 w8->oJ w8 (r.add 0) fun l2=>iz w8 (r.add 1) fun i6=>∃p2,dl l2 i6 4 p2/\IV w8 (p2.add 1) fun s0=>∀w9,ay [k1] w8 w9->iz w9 (r.add 1) fun i7=>∃k5 k6:Nat,∃z1,∃k7:Nat,(r.add 1)=⟨k5,k6,none⟩/\aF w9 k5 k7 z1/\(k6+1)<=z1.length/\k0≠k5/\k1≠k5/\∀dw,ay [k5] w9 dw->aF dw k5 k7 (ca z1 k6 [O U (ar U (i7+1))])->gy [k0,k1] 322 #[ae (some r),ab (ao #[41])] dw fun dJ=>∀eM,ay [k0] dJ eM->R (ah #[O U 3,O U 0,ab s0,O U 0,Sl.nil.v,O U i1]) eM))):Cr 323 #[ae (some r)] w R:=
 iJ (args:=[.ad r]) h
theorem ag6(r:Addr)(k:Int)(R:aG)(w:av)(h:cL 276 #[] w fun l0 w0=>YP l0 k w0 fun l1=>cL 275 #[] w0 fun l2 w1=>YP l2 k w1 fun l3=>pB 0 w1 fun J0 k1 i0 w2=>cy (decide (i0<(l1.n:Int))) (EP l1 i0 w2 fun s0=>cB 320 #[ae (some r),ab s0] w2 fun b0 w3=>cy b0 (YO l3 i0 w3 fun i1=>R (O U i1) w3) (nx k1 fun k2=>J0 k2 (ar U (i0+1)) w3)) (R (O U 0) w2)):Cr 312 #[ae (some r),O U k] w R:=
 fB (an:=.d 3 (.s (.s .o (.j [0,5,6] [.s 7 (.int .i64)] .o .o)) .o)) (args:=[.ad r,.int .i64 k]) h
theorem ag7(x x1:Int)(x2:aK)(x3:Int)(x4:Sl)(x5:Int)(R:aG)(w:av)(h:nw w fun k0 w0=>R (aj (((((x==0)&&(x1==0))&&(x2.toList==((ao #[]).toList)))&&(x3==0))&&((x4.n:Int)==0))) w0):Cr 222 #[ah #[O U x,O U x1,ab x2,O U x3,x4.v,O U x5]] w R:=
 iJ (args:=[.agg (j5 [.int .i64 x,.int .i64 x1,.str x2,.int .i64 x3,.sl x4,.int .i64 x5])]) h
theorem ag8(n_:Addr)(m:Int)(m1:aK)(m2:Int)(m3:Bool)(m4 m5:Int)(m6:aK)(m7:Int)(m8:Sl)(m9:Int)(m10 m11:Sl)(m12:Int)(R:aG)(w:av)(h:nw w fun k0 w0=>iz w0 (n_.add 1) fun i0=>∃k1 k2:Nat,∃z0,∃k3:Nat,(n_.add 1)=⟨k1,k2,none⟩/\aF w0 k1 k3 z0/\(k2+1)<=z0.length/\k0≠k1/\∀w1,ay [k1] w0 w1->aF w1 k1 k3 (ca z0 k2 [O U (ar U (i0+1))])->qp (fun b0 w2=>kP [k0] 222 #[ah #[O U m4,O U m5,ab m6,O U m7,m8.v,O U m9]] w2 fun b1 w3=>qp (fun b2 w4=>kP [k0] 163 #[ae (some n_),m10.v] w4 fun b3 w5=>pB 0 w5 fun J2 k5 i1 w6=>cy (decide (i1<(m11.n:Int))) (EP m11 i1 w6 fun s0=>kP [k0] 94 #[ab s0] w6 fun b4 w7=>cy (!b4) (R (aj false) w7) (nx k5 fun k6=>J2 k6 (ar U (i1+1)) w7)) (R (aj ((((((decide (m>=1))&&(decide (m<=3)))&&b0)&&b2)&&b3)&&((m2==0)||((m==3)&&(decide (m2>0)))))) w6)) fun J1=>cy m3 (kP [k0] 221 #[ah #[O U m4,O U m5,ab m6,O U m7,m8.v,O U m9]] w3 fun b5 w8=>J1 b5 w8) (J1 b1 w3)) fun J0=>cy (m==1) (kP [k0] 94 #[ab m1] w1 fun b6 w9=>J0 b6 w9) (J0 (m1.toList==((ao #[]).toList)) w1)):Cr 164 #[ae (some n_),ah #[O U m,ab m1,O U m2,aj m3,O U m4,O U m5,ab m6,O U m7,m8.v,O U m9,m10.v,m11.v,O U m12]] w R:=
 fB (an:=.d 3 (.j [0,3] [.s 5 .bool] .o (.s .o (.j [0,3,5] [.s 6 .bool] .o (.s .o (.s (.s .o (.j [3,5,6,7] [.s 8 (.int .i64)] .o .o)) .o)))))) (args:=[.ad n_,.agg (j5 [.int .i64 m,.str m1,.int .i64 m2,.bt m3,.int .i64 m4,.int .i64 m5,.str m6,.int .i64 m7,.sl m8,.int .i64 m9,.sl m10,.sl m11,.int .i64 m12])]) h
theorem ag9(p:Addr)(deep:Int)(s:aK)(R:aG)(w:av)(h:oJ w (p.add 0) fun l0=>cy (decide ((l0.n:Int)>16384)) (R (ai #[]) w) (pB 0 w fun J0 k1 i0 w0=>cy (decide (i0<deep)) (oJ w0 (p.add 0) fun l1=>fL (au 68 2 #[.mk 0 (.int .u8 32),.mk 1 (.int .u8 32)]) w0 fun l2 w1=>fL (Builtin.append_ #[68,68] 68 #[l1.v,l2.v]) w1 fun l3 w2=>∃k2 k3:Nat,∃z0,∃k4:Nat,(p.add 0)=⟨k2,k3,none⟩/\aF w2 k2 k4 z0/\(k3+1)<=z0.length/\∀w3,ay [k2] w2 w3->aF w3 k2 k4 (ca z0 k3 [l3.v])->nx k1 fun k5=>J0 k5 (ar U (i0+1)) w3) (oJ w0 (p.add 0) fun l4=>fL (Builtin.append_ #[68,9] 68 #[l4.v,ab s]) w0 fun l5 w4=>∃k6 k7:Nat,∃z1,∃k8:Nat,(p.add 0)=⟨k6,k7,none⟩/\aF w4 k6 k8 z1/\(k7+1)<=z1.length/\∀w5,ay [k6] w4 w5->aF w5 k6 k8 (ca z1 k7 [l5.v])->oJ w5 (p.add 0) fun l6=>fL (au 68 1 #[.mk 0 (.int .u8 10)]) w5 fun l7 w6=>fL (Builtin.append_ #[68,68] 68 #[l6.v,l7.v]) w6 fun l8 w7=>∃k9 rr:Nat,∃z2,∃pE:Nat,(p.add 0)=⟨k9,rr,none⟩/\aF w7 k9 pE z2/\(rr+1)<=z2.length/\∀w8,ay [k9] w7 w8->aF w8 k9 pE (ca z2 rr [l8.v])->R (ai #[]) w8))):Cr 46 #[ae (some p),O U deep,ab s] w R:=
 fB (an:=.s .o (.s (.s .o (.j [0,1,2] [.s 6 (.int .i64)] .o .o)) .o)) (args:=[.ad p,.int .i64 deep,.str s]) h
theorem aha(p:Addr)(x:Int)(x1 x2 x3:aK)(x4 x5 x6 x7:Sl)(x8 deep:Int)(R:aG)(w:av)(h:nw w fun k0 w0=>Gs (fun w1=>Gs (fun w2=>Gs (fun w3=>pB 0 w3 fun J3 k2 i0 w4=>∃l0:Sl,((decide (i0<(x6.n:Int)))=true->aB w4 (p.add 0) [l0.v])/\cy ((decide (i0<(x6.n:Int)))&&(decide ((l0.n:Int)<=16384))) (jp x6 i0 w4 fun i1 s0 i2 b0 i3 i4 s1 i5 l1 i6 l2 l3 i7=>oe [k0] 63 #[ah #[O U i1,ab s0,O U i2,aj b0,O U i3,O U i4,ab s1,O U i5,l1.v,O U i6,l2.v,l3.v,O U i7]] w4 fun s2 w5=>gy [k0] 46 #[ae (some p),O U deep,ab s2] w5 fun w6=>nx k2 fun k3=>J3 k3 (ar U (i0+1)) w6) (pB 0 w4 fun J4 k5 i8 w7=>cy (decide (i8<(x7.n:Int))) (ga x7 i8 w7 fun i9 s3 s4 s5 l4 l5 l6 l7 i10=>gy [k0] 99 #[ae (some p),ah #[O U i9,ab s3,ab s4,ab s5,l4.v,l5.v,l6.v,l7.v,O U i10],O U deep] w7 fun w8=>nx k5 fun k6=>J4 k6 (ar U (i8+1)) w8) (R (ai #[]) w7))) fun J2=>cy (decide ((x5.n:Int)>0)) (oe [k0] 98 #[x5.v] w2 fun s6 w9=>(6+(s6.size:Int))<=9223372036854775807/\gy [k0] 46 #[ae (some p),O U deep,ab ((ao #[108,101,97,118,101,32])++s6)] w9 fun dw=>J2 dw) (J2 w2)) fun J1=>cy (decide ((x4.n:Int)>0)) (oe [k0] 98 #[x4.v] w1 fun s7 dJ=>(6+(s7.size:Int))<=9223372036854775807/\gy [k0] 46 #[ae (some p),O U deep,ab ((ao #[101,110,116,101,114,32])++s7)] dJ fun eM=>J1 eM) (J1 w1)) fun J0=>cy (!(x2.toList==((ao #[]).toList))) ((8+(x2.size:Int))<=9223372036854775807/\((((ao #[105,110,105,116,105,97,108,32])++x2).size:Int)+1)<=9223372036854775807/\gy [k0] 46 #[ae (some p),O U deep,ab (((ao #[105,110,105,116,105,97,108,32])++x2)++(ao #[59]))] w0 fun eU=>J0 eU) (J0 w0)):Cr 48 #[ae (some p),ah #[O U x,ab x1,ab x2,ab x3,x4.v,x5.v,x6.v,x7.v,O U x8],O U deep] w R:=
 fB (an:=.s .o (.j [0,2,4] [] .o (.j [0,2,4] [] .o (.j [0,2,4] [] .o (.s (.s .o (.j [0,2,4] [.s 6 (.int .i64)] .o .o)) (.s .o (.j [0,2,4] [.s 7 (.int .i64)] .o .o))))))) (args:=[.ad p,.agg (j5 [.int .i64 x,.str x1,.str x2,.str x3,.sl x4,.sl x5,.sl x6,.sl x7,.int .i64 x8]),.int .i64 deep]) h
theorem ahb(l:Sl)(R:aG)(w:av)(h:T7 (ao #[123]) 0 w fun J0 k1 s0 i0 w0=>cy (decide (i0<(l.n:Int))) (((s0.size:Int)+1)<=9223372036854775807/\rR l i0 w0 fun i1 s1 i2 i3 s2 i4 l0 i5 i6=>cS 165 #[ah #[O U i1,ab s1,O U i2,O U i3,ab s2,O U i4,l0.v,O U i5,O U i6]] w0 fun s3 w1=>(((s0++(ao #[32])).size:Int)+(s3.size:Int))<=9223372036854775807/\nx k1 fun k2=>J0 k2 ((s0++(ao #[32]))++s3) (ar U (i0+1)) w1) (((s0.size:Int)+2)<=9223372036854775807/\R (ab (s0++(ao #[32,125]))) w0)):Cr 98 #[l.v] w R:=
 fB (an:=.d 2 (.s (.s .o (.j [0] [.s 3 .str,.s 4 (.int .i64)] .o .o)) .o)) (args:=[.sl l]) h
theorem ahc(a_:Int)(rG:aK)(xR xS:Int)(wZ:aK)(xT:Int)(Av:Sl)(Aw Gb:Int)(R:aG)(w:av)(h:cy (a_==1) (nw w fun k0 w0=>∃J0:aJ,J0 k0/\(4+(rG.size:Int))<=9223372036854775807/\((((ao #[115,101,116,32])++rG).size:Int)+3)<=9223372036854775807/\oe [k0] 118 #[ah #[O U xR,O U xS,ab wZ,O U xT,Av.v,O U Aw]] w0 fun s0 w1=>bO J0 w0 w1/\(((((ao #[115,101,116,32])++rG)++(ao #[32,61,32])).size:Int)+(s0.size:Int))<=9223372036854775807/\((((((ao #[115,101,116,32])++rG)++(ao #[32,61,32]))++s0).size:Int)+1)<=9223372036854775807/\R (ab (((((ao #[115,101,116,32])++rG)++(ao #[32,61,32]))++s0)++(ao #[59]))) w1) (cy (a_==2) ((6+(rG.size:Int))<=9223372036854775807/\((((ao #[114,97,105,115,101,32])++rG).size:Int)+1)<=9223372036854775807/\nw w fun k1 w2=>R (ab (((ao #[114,97,105,115,101,32])++rG)++(ao #[59]))) w2) (nw w fun k2 w3=>∃J1:aJ,J1 k2/\(5+(rG.size:Int))<=9223372036854775807/\((((ao #[101,109,105,116,32])++rG).size:Int)+3)<=9223372036854775807/\oe [k2] 118 #[ah #[O U xR,O U xS,ab wZ,O U xT,Av.v,O U Aw]] w3 fun s1 w4=>bO J1 w3 w4/\(((((ao #[101,109,105,116,32])++rG)++(ao #[32,61,32])).size:Int)+(s1.size:Int))<=9223372036854775807/\((((((ao #[101,109,105,116,32])++rG)++(ao #[32,61,32]))++s1).size:Int)+1)<=9223372036854775807/\R (ab (((((ao #[101,109,105,116,32])++rG)++(ao #[32,61,32]))++s1)++(ao #[59]))) w4))):Cr 165 #[ah #[O U a_,ab rG,O U xR,O U xS,ab wZ,O U xT,Av.v,O U Aw,O U Gb]] w R:=
 iJ (args:=[.agg (j5 [.int .i64 a_,.str rG,.int .i64 xR,.int .i64 xS,.str wZ,.int .i64 xT,.sl Av,.int .i64 Aw,.int .i64 Gb])]) h
theorem ahd(x x1:Int)(x2:aK)(x3:Int)(x4:Sl)(x5:Int)(R:aG)(w:av)(h:nw w fun k0 w0=>az aq 183 #[ah #[O U x,O U x1,ab x2,O U x3,x4.v,O U x5]] w0 fun e0 w1=>∃s0 b0,e0=(ak (ai #[ab s0,aj b0]))/\bS [k0] w0 w1/\R (ab s0) w1):Cr 118 #[ah #[O U x,O U x1,ab x2,O U x3,x4.v,O U x5]] w R:=
 iJ (args:=[.agg (j5 [.int .i64 x,.int .i64 x1,.str x2,.int .i64 x3,.sl x4,.int .i64 x5])]) h
theorem ahe(n_:Int)(oX:Addr)(R:aG)(w:av)(h:oJ w oX fun l0=>cB 102 #[l0.v,O U n_] w fun b0 w0=>R (aj (!b0)) w0):Cr 101 #[O U n_,ae (some oX)] w R:=
 iJ (args:=[.int .i64 n_,.ad oX]) h
theorem ahf(r:Sl)(n_:Int)(R:aG)(w:av)(h:R (aj ((decide (n_>=0))&&(decide (n_<(r.n:Int))))) w):Cr 102 #[r.v,O U n_] w R:=
 iJ (args:=[.sl r,.int .i64 n_]) h
theorem ahg(m:Int)(m1:aK)(m2:Int)(m3:Bool)(m4 m5:Int)(m6:aK)(m7:Int)(m8:Sl)(m9:Int)(m10 m11:Sl)(m12:Int)(R:aG)(w:av)(h:nw w fun k0 w0=>qp (fun s0 w1=>qp (fun s1 w2=>qp (fun s2 w3=>qp (fun s3 w4=>T7 s3 0 w4 fun J4 k2 s4 i0 w5=>cy (decide (i0<(m11.n:Int))) (qp (fun s5 w6=>EP m11 i0 w6 fun s6=>((s5.size:Int)+(s6.size:Int))<=9223372036854775807/\nx k2 fun k3=>J4 k3 (s5++s6) (ar U (i0+1)) w6) fun J5=>cy (i0==0) (((s4.size:Int)+4)<=9223372036854775807/\J5 (s4++(ao #[32,45,62,32])) w5) (((s4.size:Int)+2)<=9223372036854775807/\J5 (s4++(ao #[44,32])) w5)) (((s4.size:Int)+1)<=9223372036854775807/\R (ab (s4++(ao #[59]))) w5)) fun J3=>cy (decide ((m10.n:Int)>0)) (((s2.size:Int)+1)<=9223372036854775807/\oe [k0] 98 #[m10.v] w3 fun s7 w7=>(((s2++(ao #[32])).size:Int)+(s7.size:Int))<=9223372036854775807/\J3 ((s2++(ao #[32]))++s7) w7) (J3 s2 w3)) fun J2=>cy m3 (((s1.size:Int)+2)<=9223372036854775807/\oe [k0] 118 #[ah #[O U m4,O U m5,ab m6,O U m7,m8.v,O U m9]] w2 fun s8 w8=>(((s1++(ao #[32,91])).size:Int)+(s8.size:Int))<=9223372036854775807/\((((s1++(ao #[32,91]))++s8).size:Int)+1)<=9223372036854775807/\J2 (((s1++(ao #[32,91]))++s8)++(ao #[93])) w8) (J2 s1 w2)) fun J1=>cy (m==3) (oe [k0] 47 #[O U m2] w1 fun s9 w9=>(6+(s9.size:Int))<=9223372036854775807/\J1 ((ao #[97,102,116,101,114,32])++s9) w9) (J1 s0 w1)) fun J0=>cy (m==1) ((3+(m1.size:Int))<=9223372036854775807/\J0 ((ao #[111,110,32])++m1) w0) (J0 (ao #[97,108,119,97,121,115]) w0)):Cr 63 #[ah #[O U m,ab m1,O U m2,aj m3,O U m4,O U m5,ab m6,O U m7,m8.v,O U m9,m10.v,m11.v,O U m12]] w R:=
 fB (an:=.d 2 (.j [1] [.s 3 .str] .o (.j [1] [.s 3 .str] .o (.j [1] [.s 3 .str] .o (.j [1] [.s 3 .str] .o (.s (.s .o (.j [1] [.s 3 .str,.s 4 (.int .i64)] (.s .o (.s (.j [1,4] [.s 3 .str] .o .o) .o)) .o)) .o)))))) (args:=[.agg (j5 [.int .i64 m,.str m1,.int .i64 m2,.bt m3,.int .i64 m4,.int .i64 m5,.str m6,.int .i64 m7,.sl m8,.int .i64 m9,.sl m10,.sl m11,.int .i64 m12])]) h
theorem ahh(p:Addr)(x:Int)(x1 x2 x3:aK)(x4 x5 x6 x7:Sl)(x8 deep:Int)(R:aG)(w:av)(h:nw w fun k0 w0=>Gs (fun w1=>gy [k0] 48 #[ae (some p),ah #[O U x,ab x1,ab x2,ab x3,x4.v,x5.v,x6.v,x7.v,O U x8],O U (ar U (deep+1))] w1 fun w2=>gy [k0] 46 #[ae (some p),O U deep,ab (ao #[125])] w2 fun w3=>R (ai #[]) w3) fun J0=>cy (x==3) ((8+(x1.size:Int))<=9223372036854775807/\((((ao #[104,105,115,116,111,114,121,32])++x1).size:Int)+4)<=9223372036854775807/\(((((ao #[104,105,115,116,111,114,121,32])++x1)++(ao #[32,45,62,32])).size:Int)+(x3.size:Int))<=9223372036854775807/\((((((ao #[104,105,115,116,111,114,121,32])++x1)++(ao #[32,45,62,32]))++x3).size:Int)+1)<=9223372036854775807/\gy [k0] 46 #[ae (some p),O U deep,ab (((((ao #[104,105,115,116,111,114,121,32])++x1)++(ao #[32,45,62,32]))++x3)++(ao #[59]))] w0 fun w4=>R (ai #[]) w4) (cy (x==4) ((5+(x1.size:Int))<=9223372036854775807/\((((ao #[100,101,101,112,32])++x1).size:Int)+4)<=9223372036854775807/\(((((ao #[100,101,101,112,32])++x1)++(ao #[32,45,62,32])).size:Int)+(x3.size:Int))<=9223372036854775807/\((((((ao #[100,101,101,112,32])++x1)++(ao #[32,45,62,32]))++x3).size:Int)+1)<=9223372036854775807/\gy [k0] 46 #[ae (some p),O U deep,ab (((((ao #[100,101,101,112,32])++x1)++(ao #[32,45,62,32]))++x3)++(ao #[59]))] w0 fun w5=>R (ai #[]) w5) (cy (x==1) ((6+(x1.size:Int))<=9223372036854775807/\((((ao #[115,116,97,116,101,32])++x1).size:Int)+2)<=9223372036854775807/\gy [k0] 46 #[ae (some p),O U deep,ab (((ao #[115,116,97,116,101,32])++x1)++(ao #[32,123]))] w0 fun w6=>J0 w6) ((9+(x1.size:Int))<=9223372036854775807/\((((ao #[112,97,114,97,108,108,101,108,32])++x1).size:Int)+2)<=9223372036854775807/\gy [k0] 46 #[ae (some p),O U deep,ab (((ao #[112,97,114,97,108,108,101,108,32])++x1)++(ao #[32,123]))] w0 fun w7=>J0 w7)))):Cr 99 #[ae (some p),ah #[O U x,ab x1,ab x2,ab x3,x4.v,x5.v,x6.v,x7.v,O U x8],O U deep] w R:=
 fB (an:=.s .o (.j [0,2,4] [] .o .o)) (args:=[.ad p,.agg (j5 [.int .i64 x,.str x1,.str x2,.str x3,.sl x4,.sl x5,.sl x6,.sl x7,.int .i64 x8]),.int .i64 deep]) h
theorem ahi(c:Sl)(c1:Int)(c2 c3 c4:aK)(c5 c6 c7 c8:Sl)(c9:Int)(R:aG)(w:av)(h:nw w fun k0 w0=>kP [k0] 17 #[] w0 fun b0 w1=>az aq 12 #[ah #[c.v,O U c1,ab c2,ab c3,ab c4,c5.v,c6.v,c7.v,c8.v,O U c9]] w1 fun e1 w2=>∃l0:Sl,∃i0 s0 s1 s2,∃l1 l2 l3 l4:Sl,∃i1,e1=(ak (ah #[l0.v,O U i0,ab s0,ab s1,ab s2,l1.v,l2.v,l3.v,l4.v,O U i1]))/\bS [k0] w1 w2/\nw w2 fun k1 w3=>az aq 18 #[ah #[c.v,O U c1,ab c2,ab c3,ab c4,c5.v,c6.v,c7.v,c8.v,O U c9]] w3 fun e2 w4=>∃l5:Sl,∃i2,e2=(ak (ai #[l5.v,O U i2]))/\bS [k0,k1] w3 w4/\az aq 18 #[ah #[c.v,O U c1,ab c2,ab c3,ab c4,c5.v,c6.v,c7.v,c8.v,O U c9]] w4 fun e3 w5=>∃l6:Sl,∃i3,e3=(ak (ai #[l6.v,O U i3]))/\bS [k0,k1] w4 w5/\az aq 19 #[ah #[c.v,O U c1,ab c2,ab c3,ab c4,c5.v,c6.v,c7.v,c8.v,O U c9]] w5 fun e4 w6=>∃l7:Sl,∃i4,e4=(ak (ai #[l7.v,O U i4]))/\bS [k0,k1] w5 w6/\kP [k0,k1] 15 #[ah #[c.v,O U c1,ab c2,ab c3,ab c4,c5.v,c6.v,c7.v,c8.v,O U c9],ah #[l0.v,O U i0,ab s0,ab s1,ab s2,l1.v,l2.v,l3.v,l4.v,O U i1],aj true] w6 fun b1 w7=>kP [k0,k1] 20 #[l5.v,l7.v] w7 fun b2 w8=>pB 0 w8 fun J0 k3 i5 w9=>cy (decide (i5<(l5.n:Int))) (∃p0,dl l5 i5 5 p0/\∃k4 k5:Nat,∃z0,∃k6:Nat,p0=⟨k4,k5,none⟩/\aF w9 k4 k6 z0/\(k5+5)<=z0.length/\k0≠k4/\k1≠k4/\∀dw,ay [k4] w9 dw->aF dw k4 k6 (ca z0 k5 [O U (-7),ab (ao #[]),O U 0,O U 0,O U 0])->nx k3 fun k7=>J0 k7 (ar U (i5+1)) dw) (kP [k0,k1] 20 #[l6.v,l7.v] w9 fun b3 dJ=>R (aj ((((b0&&b1)&&b2)&&b3)&&(i2==i4))) dJ)):Cr 4 #[ah #[c.v,O U c1,ab c2,ab c3,ab c4,c5.v,c6.v,c7.v,c8.v,O U c9]] w R:=
 fB (an:=.d 8 (.s (.s .o (.j [1,3,4,5,6,7,9,10,11,12] [.s 13 (.int .i64)] .o .o)) .o)) (args:=[.agg (j5 [.sl c,.int .i64 c1,.str c2,.str c3,.str c4,.sl c5,.sl c6,.sl c7,.sl c8,.int .i64 c9])]) h
theorem ahj(R:aG)(w:av)(h:az aq 34 #[ab (ao #[99,104,97,114,116,32,99,32,123,32,105,110,105,116,105,97,108,32,97,59,32,115,116,97,116,101,32,97,32,123,32,105,110,105,116,105,97,108,32,98,59,32,115,116,97,116,101,32,98,32,123,32,125,32,115,116,97,116,101,32,100,32,123,32,125,32,125,32,112,97,114,97,108,108,101,108,32,112,32,123,32,115,116,97,116,101,32,113,32,123,32,125,32,115,116,97,116,101,32,114,32,123,32,125,32,125,32,125])] w fun e0 w0=>∃l0:Sl,∃i0 s0 s1 s2,∃l1 l2 l3 l4:Sl,∃i1 i2 i3,e0=(ak (ai #[ah #[l0.v,O U i0,ab s0,ab s1,ab s2,l1.v,l2.v,l3.v,l4.v,O U i1],ah #[O U i2,O U i3]]))/\∀k0 k1 w1,w0.heap.size<=k0->k0<w1.heap.size->w0.heap.size<=k1->k1<w1.heap.size->ay [] w0 w1->az aq 18 #[ah #[l0.v,O U i0,ab s0,ab s1,ab s2,l1.v,l2.v,l3.v,l4.v,O U i1]] w1 fun e1 w2=>∃l5:Sl,∃i4,e1=(ak (ai #[l5.v,O U i4]))/\bS [k0,k1] w1 w2/\qp (fun b0 w3=>R (aj b0) w3) fun J0=>∃p0,((((i2==0)&&(i4==0))&&((l5.n:Int)==7))=true->dl l5 4 5 p0)/\∃i5 s3 i6 i7 i8,((((i2==0)&&(i4==0))&&((l5.n:Int)==7))=true->aB w2 p0 [O U i5,ab s3,O U i6,O U i7,O U i8])/\cy ((((i2==0)&&(i4==0))&&((l5.n:Int)==7))&&((i5==2)&&((s3==(ao #[112]))&&((i6==0)&&((i7==1)&&(i8==7)))))) (fL (au 106 2 #[.mk 0 (O U 2),.mk 1 (O U 3)]) w2 fun l6 w4=>bS [k0,k1] w2 w4/\rj [k0,k1] 49 #[l5.v,l6.v] w4 fun i9 w5=>cy (i9==1) (kP [k0,k1] 50 #[l5.v,O U 6,O U 4] w5 fun b1 w6=>J0 b1 w6) (J0 false w5)) (J0 false w2)):Cr 17 #[] w R:=
 fB (an:=.d 3 (.s (.j [1,2] [.s 0 .bool] .o .o) .o)) (args:=[]) h
theorem ahk(c:Sl)(c1:Int)(c2 c3 c4:aK)(c5 c6 c7 c8:Sl)(c9:Int)(R:aG)(w:av)(h:nw w fun k0 w0=>rj [k0] 13 #[ah #[c.v,O U c1,ab c2,ab c3,ab c4,c5.v,c6.v,c7.v,c8.v,O U c9]] w0 fun i0 w1=>cy (i0 !=0) (R (ai #[Sl.nil.v,O U i0]) w1) (nw w1 fun k1 w2=>aF w2 k1 92 [Sl.nil.v]->gy [k0] 51 #[ae (some ⟨k1,0,none⟩),ah #[O U c1,ab c2,ab c3,ab c4,c5.v,c6.v,c7.v,c8.v,O U c9],O U (-1),O U 0] w2 fun w3=>Nz w3 k1 92 fun l0=>R (ai #[l0.v,O U 0]) w3)):Cr 18 #[ah #[c.v,O U c1,ab c2,ab c3,ab c4,c5.v,c6.v,c7.v,c8.v,O U c9]] w R:=
 iJ (args:=[.agg (j5 [.sl c,.int .i64 c1,.str c2,.str c3,.str c4,.sl c5,.sl c6,.sl c7,.sl c8,.int .i64 c9])]) h
theorem ahl(l:Addr)(n_:Int)(DC DW F8:aK)(F9 Ga DD yE:Sl)(H2 parent depth:Int)(R:aG)(w:av)(h:nw w fun k0 w0=>oJ w0 (l.add 0) fun l0=>∀w1,ay [] w0 w1->∃J0:aJ,J0 ((l.add 0).block)/\oJ w1 (l.add 0) fun l1=>fL (au 90 1 #[.mk 0 (ah #[O U n_,ab DC,O U parent,O U depth,O U 0])]) w1 fun l2 w2=>bS [k0] w1 w2/\bO J0 w1 w2/\fL (Builtin.append_ #[90,90] 90 #[l1.v,l2.v]) w2 fun l3 w3=>bS [k0] w2 w3/\bO J0 w2 w3/\∃k1 k2:Nat,∃z0,∃k3:Nat,(l.add 0)=⟨k1,k2,none⟩/\aF w3 k1 k3 z0/\(k2+1)<=z0.length/\k0≠k1/\∀w4,ay [k1] w3 w4->aF w4 k1 k3 (ca z0 k2 [l3.v])->pB 0 w4 fun J1 k5 i0 w5=>cy (decide (i0<(yE.n:Int))) (ga yE i0 w5 fun i1 s0 s1 s2 l4 l5 l6 l7 i2=>nw w5 fun k6 w6=>gy [k0,k6] 51 #[ae (some l),ah #[O U i1,ab s0,ab s1,ab s2,l4.v,l5.v,l6.v,l7.v,O U i2],O U (l0.n:Int),O U (ar U (depth+1))] w6 fun w7=>nx k5 fun k7=>J1 k7 (ar U (i0+1)) w7) (∀w8,ay [] w5 w8->oJ w8 (l.add 0) fun l8=>oJ w8 (l.add 0) fun l9=>∃p1,dl l8 (l0.n:Int) 5 p1/\∃k8 k9:Nat,∃z1,∃rr:Nat,(p1.add 4)=⟨k8,k9,none⟩/\aF w8 k8 rr z1/\(k9+1)<=z1.length/\k0≠k8/\∀w9,ay [k8] w8 w9->aF w9 k8 rr (ca z1 k9 [O U (l9.n:Int)])->R (ai #[]) w9)):Cr 51 #[ae (some l),ah #[O U n_,ab DC,ab DW,ab F8,F9.v,Ga.v,DD.v,yE.v,O U H2],O U parent,O U depth] w R:=
 fB (an:=.d 3 (.s (.s .o (.j [0,3,5,8,33,34] [.s 35 (.int .i64)] .o .o)) .o)) (args:=[.ad l,.agg (j5 [.int .i64 n_,.str DC,.str DW,.str F8,.sl F9,.sl Ga,.sl DD,.sl yE,.int .i64 H2]),.int .i64 parent,.int .i64 depth]) h
theorem ahm(l nodes:Sl)(R:aG)(w:av)(h:nw w fun k0 w0=>jn2 (fun b0 l0 w1=>cy b0 (R (O U (-1)) w1) (YO nodes 0 w1 fun i0=>(1<=nodes.n/\nodes.n<=nodes.c)/\∃J1:Nat->Int->Int->Sl->av->Prop,∃k1:Nat,J1 k1 i0 0 l0 w1/\∀k2 i1 i2,∀l1:Sl,∀w2,J1 k2 i1 i2 l1 w2->cy (decide (i2<((nodes.cut 1 nodes.n nodes.c 1).n:Int))) (YO (nodes.cut 1 nodes.n nodes.c 1) i2 w2 fun i3=>T7 i1 l1 w2 fun J2 k4 i4 l2 w3=>kP [k0] 103 #[l2.v,O U i4,O U i3] w3 fun b1 w4=>cy (!b1) (∃p2,dl l2 i4 5 p2/\iz w4 (p2.add 2) fun i5=>nx k4 fun k5=>J2 k5 i5 l2 w4) (nx k2 fun k6=>J1 k6 i4 (ar U (i2+1)) l2 w4)) (R (O U i1) w2))) fun J0=>cy ((nodes.n:Int)==0) (J0 true l w0) (aF w0 k0 38 [l.v]->cB 100 #[nodes.v,.func (.func 101) #[] #[ae (some ⟨k0,0,none⟩)]] w0 fun b2 w5=>Nz w5 k0 38 fun l3=>J0 b2 l3 w5)):Cr 49 #[l.v,nodes.v] w R:=
 fB (an:=.s .o (.s (.s (.j [1,2] [.s 15 .bool,.b 2 [.sl]] .o .o) .o) (.s .o (.s (.s .o (.j [2,20,21] [.s 5 (.int .i64),.s 22 (.int .i64),.b 2 [.sl]] (.d 2 (.s (.s .o (.j [2,7,20,21,22] [.s 5 (.int .i64),.b 2 [.sl]] .o .o)) .o)) .o)) .o)))) (args:=[.sl l,.sl nodes]) h
theorem abt(s:Sl)(f:OV)(R:aG)(w:av)(h:cI 166 #[s.v,f.v] w fun i0 w0=>R (aj (decide (i0>=0))) w0):Cr 100 #[s.v,f.v] w R:=
 iJ (args:=[.sl s,.raw f]) h
theorem abu(s:Sl)(f:OV)(R:aG)(w:av)(h:pB 0 w fun J0 k1 i0 w0=>cy (decide (i0<(s.n:Int))) (YO s i0 w0 fun i1=>∃k2:Nat,∃z0 z1,f.v=(.func (.func k2) z0.toArray z1.toArray)/\(∀x0:Array aw,∀w1,((callFunc k2 x0).run aq w1)=(.ok (.enter k2 x0) w1))/\cB k2 ((zi (zi z0 [O U i1]) z1).toArray) w0 fun b0 w2=>cy b0 (R (O U i0) w2) (nx k1 fun k3=>J0 k3 (ar U (i0+1)) w2)) (R (O U (-1)) w0)):Cr 166 #[s.v,f.v] w R:=
 fB (an:=.s .o (.s (.s .o (.j [0,1,7] [.s 8 (.int .i64)] .o .o)) .o)) (args:=[.sl s,.raw f]) h
theorem ahn(r:Sl)(bb a_:Int)(R:aG)(w:av)(h:qp (fun b0 w0=>R (aj b0) w0) fun J0=>cB 102 #[r.v,O U a_] w fun b1 w1=>cy b1 (cB 102 #[r.v,O U bb] w1 fun b2 w2=>∃p0,((b2&&(decide (bb<=a_)))=true->dl r bb 5 p0)/\∃i0,((b2&&(decide (bb<=a_)))=true->aB w2 (p0.add 4) [O U i0])/\J0 ((b2&&(decide (bb<=a_)))&&(decide (a_<i0))) w2) (J0 false w1)):Cr 103 #[r.v,O U bb,O U a_] w R:=
 fB (an:=.s .o (.s (.j [] [.s 6 .bool] .o .o) .o)) (args:=[.sl r,.int .i64 bb,.int .i64 a_]) h
theorem aho(l:Sl)(a_ bb:Int)(R:aG)(w:av)(h:qp (fun b0 w0=>R (aj b0) w0) fun J0=>cy (a_ !=bb) (cB 103 #[l.v,O U bb,O U a_] w fun b1 w1=>J0 b1 w1) (J0 false w)):Cr 50 #[l.v,O U a_,O U bb] w R:=
 fB (an:=.s .o (.s (.j [] [.s 6 .bool] .o .o) .o)) (args:=[.sl l,.int .i64 a_,.int .i64 bb]) h
theorem ahp(c:Sl)(c1:Int)(c2 c3 c4:aK)(c5 c6 c7 c8:Sl)(c9:Int)(R:aG)(w:av)(h:nw w fun k0 w0=>az aq 16 #[ah #[c.v,O U c1,ab c2,ab c3,ab c4,c5.v,c6.v,c7.v,c8.v,O U c9]] w0 fun e0 w1=>∃s0 i0,e0=(ak (ai #[ab s0,O U i0]))/\bS [k0] w0 w1/\cy (i0 !=0) (R (ai #[Sl.nil.v,O U i0]) w1) (AQ [k0] 52 #[ah #[c.v,O U c1,ab c2,ab c3,ab c4,c5.v,c6.v,c7.v,c8.v,O U c9]] w1 fun l0 w2=>R (ai #[l0.v,O U 0]) w2)):Cr 19 #[ah #[c.v,O U c1,ab c2,ab c3,ab c4,c5.v,c6.v,c7.v,c8.v,O U c9]] w R:=
 iJ (args:=[.agg (j5 [.sl c,.int .i64 c1,.str c2,.str c3,.str c4,.sl c5,.sl c6,.sl c7,.sl c8,.int .i64 c9])]) h
theorem ahq(c:Sl)(c1:Int)(c2 c3 c4:aK)(c5 c6 c7 c8:Sl)(c9:Int)(R:aG)(w:av)(h:nw w fun k0 w0=>AQ [k0] 104 #[Sl.nil.v,ah #[O U c1,ab c2,ab c3,ab c4,c5.v,c6.v,c7.v,c8.v,O U c9],O U (-1),O U 0] w0 fun l0 w1=>R l0.v w1):Cr 52 #[ah #[c.v,O U c1,ab c2,ab c3,ab c4,c5.v,c6.v,c7.v,c8.v,O U c9]] w R:=
 iJ (args:=[.agg (j5 [.sl c,.int .i64 c1,.str c2,.str c3,.str c4,.sl c5,.sl c6,.sl c7,.sl c8,.int .i64 c9])]) h
theorem ahr(l:Sl)(n_:Int)(DC DW F8:aK)(F9 Ga DD yE:Sl)(H2 parent depth:Int)(R:aG)(w:av)(h:nw w fun k0 w0=>fL (au 38 1 #[.mk 0 (ah #[O U n_,ab DC,O U parent,O U depth,O U 0])]) w0 fun l0 w1=>bS [k0] w0 w1/\fL (Builtin.append_ #[38,38] 38 #[l.v,l0.v]) w1 fun l1 w2=>bS [k0] w1 w2/\T7 l1 0 w2 fun J0 k2 l2 i0 w3=>cy (decide (i0<(yE.n:Int))) (ga yE i0 w3 fun i1 s0 s1 s2 l3 l4 l5 l6 i2=>AQ [k0] 104 #[l2.v,ah #[O U i1,ab s0,ab s1,ab s2,l3.v,l4.v,l5.v,l6.v,O U i2],O U (l.n:Int),O U (ar U (depth+1))] w3 fun l7 w4=>nx k2 fun k3=>J0 k3 l7 (ar U (i0+1)) w4) (∃p1,dl l2 (l.n:Int) 5 p1/\∃k4 k5:Nat,∃z0,∃k6:Nat,(p1.add 4)=⟨k4,k5,none⟩/\aF w3 k4 k6 z0/\(k5+1)<=z0.length/\k0≠k4/\∀w5,ay [k4] w3 w5->aF w5 k4 k6 (ca z0 k5 [O U (l2.n:Int)])->R l2.v w5)):Cr 104 #[l.v,ah #[O U n_,ab DC,ab DW,ab F8,F9.v,Ga.v,DD.v,yE.v,O U H2],O U parent,O U depth] w R:=
 fB (an:=.d 3 (.s (.s .o (.j [3,5,9] [.s 0 .sl,.s 10 (.int .i64)] .o .o)) .o)) (args:=[.sl l,.agg (j5 [.int .i64 n_,.str DC,.str DW,.str F8,.sl F9,.sl Ga,.sl DD,.sl yE,.int .i64 H2]),.int .i64 parent,.int .i64 depth]) h
theorem ahs(a_ bb:Sl)(R:aG)(w:av)(h:cy ((a_.n:Int) !=(bb.n:Int)) (R (aj false) w) (pB 0 w fun J0 k1 i0 w0=>cy (decide (i0<(a_.n:Int))) (IX a_ i0 w0 fun i1 s0 i2 i3 i4=>IX bb i0 w0 fun i5 s1 i6 i7 i8=>cy (!((i1==i5)&&((s0==s1)&&((i2==i6)&&((i3==i7)&&(i4==i8)))))) (∀w1,ay [] w0 w1->R (aj false) w1) (∀w2,ay [] w0 w2->nx k1 fun k2=>J0 k2 (ar U (i0+1)) w2)) (R (aj true) w0))):Cr 20 #[a_.v,bb.v] w R:=
 fB (an:=.d 2 (.s (.s .o (.j [0,1] [.s 5 (.int .i64)] .o .o)) .o)) (args:=[.sl a_,.sl bb]) h
end Go.Proofs.YtmhoiicofhlgbaaGreatDoor.Vc
namespace Go.Proofs
open Go.Shelf
def Tryz.xB:Go.Shelf.Ren:=⟨fun | 156=>149 | 165=>148 | 166=>82 | 169=>43 | 240=>145 | 241=>215 | 276=>211 | 277=>257 | n=>n,fun | 31=>52 | 9=>9 | 3=>3 | 4=>4 | 0=>0 | 20=>20 | 72=>70 | 76=>146 | 70=>67 | 37=>68 | 75=>145 | 127=>153 | 164=>248 | 5=>5 | 80=>82 | n=>n,fun | n=>n⟩
theorem Tryz.Kn:Go.Proofs.Lays.n156 Tryz.prog Tryz.xB:={
 mixed:=by kernel_rfl
 f156:=Tryz.func149.trans (bK some (by kernel_rfl))
 f165:=Tryz.func148.trans (bK some (by kernel_rfl))
 f166:=Tryz.func82.trans (bK some (by kernel_rfl))
 f169:=Tryz.func43.trans (bK some (by kernel_rfl))
 f240:=Tryz.func145.trans (bK some (by kernel_rfl))
 f241:=Tryz.func215.trans (bK some (by kernel_rfl))
 f276:=Tryz.func211.trans (bK some (by kernel_rfl))
 f277:=Tryz.func257.trans (bK some (by kernel_rfl))
 t0:=Tryz.underlying0
 a0:=Tryz.isAgg0
 z0:=Tryz.sizeOf0
 v0:=Tryz.zeroValue0
 t3:=Tryz.underlying3
 a3:=Tryz.isAgg3
 z3:=Tryz.sizeOf3
 v3:=Tryz.zeroValue3
 t4:=Tryz.underlying4
 a4:=Tryz.isAgg4
 z4:=Tryz.sizeOf4
 v4:=Tryz.zeroValue4
 t9:=Tryz.underlying9
 a9:=Tryz.isAgg9
 z9:=Tryz.sizeOf9
 v9:=Tryz.zeroValue9
 t20:=Tryz.underlying20
 a20:=Tryz.isAgg20
 z20:=Tryz.sizeOf20
 v20:=Tryz.zeroValue20
 t31:=Tryz.underlying52
 a31:=Tryz.isAgg52
 z31:=Tryz.sizeOf52
 v31:=Tryz.zeroValue52
 t37:=Tryz.underlying68
 a37:=Tryz.isAgg68
 z37:=Tryz.sizeOf68
 v37:=Tryz.zeroValue68
 t70:=Tryz.underlying67
 a70:=Tryz.isAgg67
 z70:=Tryz.sizeOf67
 v70:=Tryz.zeroValue67
 t72:=Tryz.underlying70
 a72:=Tryz.isAgg70
 z72:=Tryz.sizeOf70
 v72:=Tryz.zeroValue70
 t75:=Tryz.underlying145
 a75:=Tryz.isAgg145
 z75:=Tryz.sizeOf145
 v75:=Tryz.zeroValue145
 t76:=Tryz.underlying146
 a76:=Tryz.isAgg146
 z76:=Tryz.sizeOf146
 v76:=Tryz.zeroValue146
 t127:=Tryz.underlying153
 a127:=Tryz.isAgg153
 z127:=Tryz.sizeOf153
 v127:=Tryz.zeroValue153
 t164:=Tryz.underlying248
 a164:=Tryz.isAgg248
 z164:=Tryz.sizeOf248
 v164:=Tryz.zeroValue248}
theorem Tryz.oW:Builder.Extra Tryz.prog Tryz.xB:={
 sizeBuilder:=by kernel_rfl
 liesBuilder:=by kernel_rfl
 t5:=Tryz.underlying5
 a5:=Tryz.isAgg5
 z5:=Tryz.sizeOf5
 v5:=Tryz.zeroValue5
 infoByte:=by kernel_rfl
 cellsByte:=by kernel_rfl
 sizeByte:=by kernel_rfl
 neB5:=by decide}
open Go.RowKit in
theorem Tryz.strings_Join_none (a:Option Addr) (c:Nat) (sep:ByteArray) (w:World):
 Calls Tryz.prog 149 #[.slice a 0 c,.string sep] w fun e w'=>e=.returned (.string ⟨#[]⟩)/\w'=w:=Any.strings_Join_none Tryz.Kn Tryz.oW a c sep w
open Go.RowKit in
theorem Tryz.strings_Join (bk o c:Nat) (xs:List ByteArray) (sep:ByteArray) (w:World) (uK:∀(j:Nat) x,xs[j]? =some x->w.cell? ⟨bk,o+j,none⟩=some (.string x)) (Mp:bk<w.heap.size) (hN:xs.length<=140737488355328) (nS:xs.length<=c) (ey:(Lib.join (xs.map (·.data.toList)) sep.data.toList).length<=140737488355328):
 Calls Tryz.prog 149 #[.slice (some ⟨bk,o,none⟩) xs.length c,.string sep] w fun e w'=>e=.returned (.string ⟨(Lib.join (xs.map (·.data.toList)) sep.data.toList).toArray⟩)/\Below w.heap.size w w':=Any.strings_Join Tryz.Kn Tryz.oW bk o c xs sep w uK Mp hN nS ey
def Tryz.Dw:Go.Shelf.Ren:=⟨fun | 171=>86 | 243=>155 | 246=>217 | 283=>258 | 284=>259 | 285=>260 | 286=>261 | 129=>248 | 317=>289 | 318=>290 | 319=>291 | 320=>292 | 337=>308 | 338=>309 | n=>n,fun | 3=>3 | 9=>9 | 2=>2 | 4=>4 | 171=>282 | 0=>0 | 53=>161 | 37=>68 | 5=>5 | 173=>284 | 212=>313 | 51=>250 | 20=>20 | 213=>314 | 46=>210 | 232=>340 | 233=>341 | n=>n,fun | 17=>3 | 18=>4 | 19=>5 | n=>n⟩
theorem Tryz.PH:Go.Proofs.LaysM.n171 Tryz.prog Tryz.Dw:={
 mixed:=by kernel_rfl
 f129:=Tryz.func248.trans (bK some (by kernel_rfl))
 f171:=Tryz.func86.trans (bK some (by kernel_rfl))
 f243:=Tryz.func155.trans (bK some (by kernel_rfl))
 f246:=Tryz.func217.trans (bK some (by kernel_rfl))
 f283:=Tryz.func258.trans (bK some (by kernel_rfl))
 f284:=Tryz.func259.trans (bK some (by kernel_rfl))
 f285:=Tryz.func260.trans (bK some (by kernel_rfl))
 f286:=Tryz.func261.trans (bK some (by kernel_rfl))
 f317:=Tryz.func289.trans (bK some (by kernel_rfl))
 f318:=Tryz.func290.trans (bK some (by kernel_rfl))
 f319:=Tryz.func291.trans (bK some (by kernel_rfl))
 f320:=Tryz.func292.trans (bK some (by kernel_rfl))
 f337:=Tryz.func308.trans (bK some (by kernel_rfl))
 f338:=Tryz.func309.trans (bK some (by kernel_rfl))
 t0:=Tryz.underlying0
 a0:=Tryz.isAgg0
 z0:=Tryz.sizeOf0
 v0:=Tryz.zeroValue0
 t2:=Tryz.underlying2
 a2:=Tryz.isAgg2
 z2:=Tryz.sizeOf2
 v2:=Tryz.zeroValue2
 t3:=Tryz.underlying3
 a3:=Tryz.isAgg3
 z3:=Tryz.sizeOf3
 v3:=Tryz.zeroValue3
 t4:=Tryz.underlying4
 a4:=Tryz.isAgg4
 z4:=Tryz.sizeOf4
 v4:=Tryz.zeroValue4
 t5:=Tryz.underlying5
 a5:=Tryz.isAgg5
 z5:=Tryz.sizeOf5
 v5:=Tryz.zeroValue5
 t9:=Tryz.underlying9
 a9:=Tryz.isAgg9
 z9:=Tryz.sizeOf9
 v9:=Tryz.zeroValue9
 t20:=Tryz.underlying20
 a20:=Tryz.isAgg20
 z20:=Tryz.sizeOf20
 v20:=Tryz.zeroValue20
 t37:=Tryz.underlying68
 a37:=Tryz.isAgg68
 z37:=Tryz.sizeOf68
 v37:=Tryz.zeroValue68
 t46:=Tryz.underlying210
 a46:=Tryz.isAgg210
 z46:=Tryz.sizeOf210
 v46:=Tryz.zeroValue210
 t51:=Tryz.underlying250
 a51:=Tryz.isAgg250
 z51:=Tryz.sizeOf250
 v51:=Tryz.zeroValue250
 t53:=Tryz.underlying161
 a53:=Tryz.isAgg161
 z53:=Tryz.sizeOf161
 v53:=Tryz.zeroValue161
 t171:=Tryz.underlying282
 a171:=Tryz.isAgg282
 z171:=Tryz.sizeOf282
 v171:=Tryz.zeroValue282
 t173:=Tryz.underlying284
 a173:=Tryz.isAgg284
 z173:=Tryz.sizeOf284
 v173:=Tryz.zeroValue284
 t212:=Tryz.underlying313
 a212:=Tryz.isAgg313
 z212:=Tryz.sizeOf313
 v212:=Tryz.zeroValue313
 t213:=Tryz.underlying314
 a213:=Tryz.isAgg314
 z213:=Tryz.sizeOf314
 t232:=Tryz.underlying340
 a232:=Tryz.isAgg340
 z232:=Tryz.sizeOf340
 v232:=Tryz.zeroValue340
 t233:=Tryz.underlying341
 a233:=Tryz.isAgg341
 z233:=Tryz.sizeOf341
 v233:=Tryz.zeroValue341
 g17:=by kernel_rfl
 g18:=by kernel_rfl
 g19:=by kernel_rfl
 i0:=by kernel_rfl
 i2:=by kernel_rfl
 i3:=by kernel_rfl
 i4:=by kernel_rfl
 i5:=by kernel_rfl
 i9:=by kernel_rfl
 i20:=by kernel_rfl
 i37:=by kernel_rfl
 i46:=by kernel_rfl
 i51:=by kernel_rfl
 i53:=by kernel_rfl
 i171:=by kernel_rfl
 i173:=by kernel_rfl
 i212:=by kernel_rfl
 i232:=by kernel_rfl
 i233:=by kernel_rfl
 m17:=by kernel_rfl
 m18:=by kernel_rfl
 m19:=by kernel_rfl}
open Go.RowKit Go.Sort Go.Lib in
theorem Tryz.strconv_Itoa (n:Int) (h0: -9223372036854775808<=n) (h1:n<=9223372036854775807) (w:World) (aiA:Lib.TabIs Tryz.prog w "internal/strconv.uint64pow10" .u64 Lib.pow10Tab):
 Calls Tryz.prog 86 #[.int .i64 n] w fun e w'=>e=.returned (.string ⟨(Lib.itoa n).toArray⟩)/\∃k os,w'=grow (w.drewN k) os:=Any.strconv_Itoa Tryz.PH n h0 h1 w aiA
def Tryz.Dx:Go.Shelf.Ren:=⟨fun | 316=>285 | n=>n,fun | 9=>9 | 3=>3 | 4=>4 | 37=>68 | 0=>0 | 127=>153 | 5=>5 | n=>n,fun | n=>n⟩
theorem Tryz.PI:Go.Proofs.LaysM.n316 Tryz.prog Tryz.Dx:={
 mixed:=by kernel_rfl
 f316:=Tryz.func285.trans (bK some (by kernel_rfl))
 t0:=Tryz.underlying0
 a0:=Tryz.isAgg0
 z0:=Tryz.sizeOf0
 v0:=Tryz.zeroValue0
 t3:=Tryz.underlying3
 a3:=Tryz.isAgg3
 z3:=Tryz.sizeOf3
 v3:=Tryz.zeroValue3
 t4:=Tryz.underlying4
 a4:=Tryz.isAgg4
 z4:=Tryz.sizeOf4
 v4:=Tryz.zeroValue4
 t9:=Tryz.underlying9
 a9:=Tryz.isAgg9
 z9:=Tryz.sizeOf9
 v9:=Tryz.zeroValue9
 t37:=Tryz.underlying68
 a37:=Tryz.isAgg68
 z37:=Tryz.sizeOf68
 v37:=Tryz.zeroValue68
 t127:=Tryz.underlying153
 a127:=Tryz.isAgg153
 z127:=Tryz.sizeOf153
 v127:=Tryz.zeroValue153
 t5:=Tryz.underlying5
 a5:=Tryz.isAgg5
 z5:=Tryz.sizeOf5
 v5:=Tryz.zeroValue5
 i0:=by kernel_rfl
 i3:=by kernel_rfl
 i4:=by kernel_rfl
 i5:=by kernel_rfl
 i9:=by kernel_rfl
 i37:=by kernel_rfl
 i127:=by kernel_rfl}
open Go.RowKit in
theorem Tryz.stringslite_Clone (s:ByteArray) (w:World) (Xl:s.size<=281474976710656):
 Calls Tryz.prog 285 #[.string s] w fun e w'=>e=.returned (.string s)/\Below w.heap.size w w':=Any.stringslite_Clone Tryz.PI s w Xl
def Tryz.Dy:Go.Shelf.Ren:=⟨fun | 174=>287 | 247=>302 | 245=>303 | 287=>313 | 279=>314 | 280=>315 | 281=>316 | 282=>317 | 321=>325 | 322=>326 | 316=>285 | 171=>86 | 205=>327 | 243=>155 | 246=>217 | 283=>258 | 284=>259 | 285=>260 | 286=>261 | 129=>248 | 317=>289 | 318=>290 | 319=>291 | 320=>292 | 337=>308 | 338=>309 | n=>n,fun | 9=>9 | 3=>3 | 2=>2 | 75=>145 | 85=>310 | 4=>4 | 167=>333 | 5=>5 | 53=>161 | 175=>334 | 46=>210 | 168=>336 | 37=>68 | 0=>0 | 210=>344 | 21=>21 | 127=>153 | 145=>351 | 143=>349 | 171=>282 | 173=>284 | 212=>313 | 51=>250 | 20=>20 | 213=>314 | 232=>340 | 233=>341 | 80=>82 | n=>n,fun | 15=>6 | 16=>7 | 17=>3 | 18=>4 | 19=>5 | n=>n⟩
theorem Tryz.F1:Go.Proofs.LaysC.n174 Tryz.prog Tryz.Dy:={
 mixed:=by kernel_rfl
 f129:=Tryz.func248.trans (bK some (by kernel_rfl))
 f171:=Tryz.func86.trans (bK some (by kernel_rfl))
 f174:=Tryz.func287.trans (bK some (by kernel_rfl))
 f205:=Tryz.func327.trans (bK some (by kernel_rfl))
 f243:=Tryz.func155.trans (bK some (by kernel_rfl))
 f245:=Tryz.func303.trans (bK some (by kernel_rfl))
 f246:=Tryz.func217.trans (bK some (by kernel_rfl))
 f247:=Tryz.func302.trans (bK some (by kernel_rfl))
 f279:=Tryz.func314.trans (bK some (by kernel_rfl))
 f280:=Tryz.func315.trans (bK some (by kernel_rfl))
 f281:=Tryz.func316.trans (bK some (by kernel_rfl))
 f282:=Tryz.func317.trans (bK some (by kernel_rfl))
 f283:=Tryz.func258.trans (bK some (by kernel_rfl))
 f284:=Tryz.func259.trans (bK some (by kernel_rfl))
 f285:=Tryz.func260.trans (bK some (by kernel_rfl))
 f286:=Tryz.func261.trans (bK some (by kernel_rfl))
 f287:=Tryz.func313.trans (bK some (by kernel_rfl))
 f316:=Tryz.func285.trans (bK some (by kernel_rfl))
 f317:=Tryz.func289.trans (bK some (by kernel_rfl))
 f318:=Tryz.func290.trans (bK some (by kernel_rfl))
 f319:=Tryz.func291.trans (bK some (by kernel_rfl))
 f320:=Tryz.func292.trans (bK some (by kernel_rfl))
 f321:=Tryz.func325.trans (bK some (by kernel_rfl))
 f322:=Tryz.func326.trans (bK some (by kernel_rfl))
 f337:=Tryz.func308.trans (bK some (by kernel_rfl))
 f338:=Tryz.func309.trans (bK some (by kernel_rfl))
 t0:=Tryz.underlying0
 a0:=Tryz.isAgg0
 z0:=Tryz.sizeOf0
 v0:=Tryz.zeroValue0
 t2:=Tryz.underlying2
 a2:=Tryz.isAgg2
 z2:=Tryz.sizeOf2
 v2:=Tryz.zeroValue2
 t3:=Tryz.underlying3
 a3:=Tryz.isAgg3
 z3:=Tryz.sizeOf3
 v3:=Tryz.zeroValue3
 t4:=Tryz.underlying4
 a4:=Tryz.isAgg4
 z4:=Tryz.sizeOf4
 v4:=Tryz.zeroValue4
 t5:=Tryz.underlying5
 a5:=Tryz.isAgg5
 z5:=Tryz.sizeOf5
 v5:=Tryz.zeroValue5
 t9:=Tryz.underlying9
 a9:=Tryz.isAgg9
 z9:=Tryz.sizeOf9
 v9:=Tryz.zeroValue9
 t20:=Tryz.underlying20
 a20:=Tryz.isAgg20
 z20:=Tryz.sizeOf20
 v20:=Tryz.zeroValue20
 t21:=Tryz.underlying21
 a21:=Tryz.isAgg21
 z21:=Tryz.sizeOf21
 v21:=Tryz.zeroValue21
 t37:=Tryz.underlying68
 a37:=Tryz.isAgg68
 z37:=Tryz.sizeOf68
 v37:=Tryz.zeroValue68
 t46:=Tryz.underlying210
 a46:=Tryz.isAgg210
 z46:=Tryz.sizeOf210
 v46:=Tryz.zeroValue210
 t51:=Tryz.underlying250
 a51:=Tryz.isAgg250
 z51:=Tryz.sizeOf250
 v51:=Tryz.zeroValue250
 t53:=Tryz.underlying161
 a53:=Tryz.isAgg161
 z53:=Tryz.sizeOf161
 v53:=Tryz.zeroValue161
 t75:=Tryz.underlying145
 a75:=Tryz.isAgg145
 z75:=Tryz.sizeOf145
 v75:=Tryz.zeroValue145
 t85:=Tryz.underlying310
 a85:=Tryz.isAgg310
 z85:=Tryz.sizeOf310
 v85:=Tryz.zeroValue310
 t127:=Tryz.underlying153
 a127:=Tryz.isAgg153
 z127:=Tryz.sizeOf153
 v127:=Tryz.zeroValue153
 t143:=Tryz.underlying349
 a143:=Tryz.isAgg349
 z143:=Tryz.sizeOf349
 v143:=Tryz.zeroValue349
 t145:=Tryz.underlying351
 a145:=Tryz.isAgg351
 z145:=Tryz.sizeOf351
 v145:=Tryz.zeroValue351
 t167:=Tryz.underlying333
 a167:=Tryz.isAgg333
 z167:=Tryz.sizeOf333
 v167:=Tryz.zeroValue333
 t168:=Tryz.underlying336
 a168:=Tryz.isAgg336
 z168:=Tryz.sizeOf336
 v168:=Tryz.zeroValue336
 t171:=Tryz.underlying282
 a171:=Tryz.isAgg282
 z171:=Tryz.sizeOf282
 v171:=Tryz.zeroValue282
 t173:=Tryz.underlying284
 a173:=Tryz.isAgg284
 z173:=Tryz.sizeOf284
 v173:=Tryz.zeroValue284
 t175:=Tryz.underlying334
 a175:=Tryz.isAgg334
 z175:=Tryz.sizeOf334
 v175:=Tryz.zeroValue334
 t210:=Tryz.underlying344
 a210:=Tryz.isAgg344
 z210:=Tryz.sizeOf344
 v210:=Tryz.zeroValue344
 t212:=Tryz.underlying313
 a212:=Tryz.isAgg313
 z212:=Tryz.sizeOf313
 v212:=Tryz.zeroValue313
 t213:=Tryz.underlying314
 a213:=Tryz.isAgg314
 z213:=Tryz.sizeOf314
 t232:=Tryz.underlying340
 a232:=Tryz.isAgg340
 z232:=Tryz.sizeOf340
 v232:=Tryz.zeroValue340
 t233:=Tryz.underlying341
 a233:=Tryz.isAgg341
 z233:=Tryz.sizeOf341
 v233:=Tryz.zeroValue341
 g15:=by kernel_rfl
 g16:=by kernel_rfl
 g17:=by kernel_rfl
 g18:=by kernel_rfl
 g19:=by kernel_rfl
 t80:=Tryz.underlying82
 a80:=Tryz.isAgg82
 z80:=Tryz.sizeOf82
 v80:=Tryz.zeroValue82
 i0:=by kernel_rfl
 i2:=by kernel_rfl
 i3:=by kernel_rfl
 i4:=by kernel_rfl
 i5:=by kernel_rfl
 i9:=by kernel_rfl
 i20:=by kernel_rfl
 i21:=by kernel_rfl
 i37:=by kernel_rfl
 i46:=by kernel_rfl
 i51:=by kernel_rfl
 i53:=by kernel_rfl
 i75:=by kernel_rfl
 i80:=by kernel_rfl
 i85:=by kernel_rfl
 i127:=by kernel_rfl
 i143:=by kernel_rfl
 i145:=by kernel_rfl
 i167:=by kernel_rfl
 i168:=by kernel_rfl
 i171:=by kernel_rfl
 i173:=by kernel_rfl
 i175:=by kernel_rfl
 i210:=by kernel_rfl
 i212:=by kernel_rfl
 i232:=by kernel_rfl
 i233:=by kernel_rfl
 m15:=by kernel_rfl
 m16:=by kernel_rfl
 m17:=by kernel_rfl
 m18:=by kernel_rfl
 m19:=by kernel_rfl
 c0:=by kernel_rfl
 c2:=by kernel_rfl
 c3:=by kernel_rfl
 c4:=by kernel_rfl
 c5:=by kernel_rfl
 c9:=by kernel_rfl
 c20:=by kernel_rfl
 c21:=by kernel_rfl
 c37:=by kernel_rfl
 c46:=by kernel_rfl
 c51:=by kernel_rfl
 c53:=by kernel_rfl
 c75:=by kernel_rfl
 c80:=by kernel_rfl
 c85:=by kernel_rfl
 c127:=by kernel_rfl
 c143:=by kernel_rfl
 c145:=by kernel_rfl
 c167:=by kernel_rfl
 c168:=by kernel_rfl
 c171:=by kernel_rfl
 c173:=by kernel_rfl
 c175:=by kernel_rfl
 c210:=by kernel_rfl
 c212:=by kernel_rfl
 c213:=by kernel_rfl
 c232:=by kernel_rfl
 c233:=by kernel_rfl}
open Go.RowKit in
theorem Tryz.strconv_ParseInt_10_at64_ok (s:ByteArray) (aiB:s.size<=9223372036854775806) (v:Int) (h:Lib.parseIntB 64 s.data.toList=.ok v) (w:World):
 Calls Tryz.prog 287 #[.string s,.int .i64 10,.int .i64 64] w fun e w'=>e=.returned (.tuple #[.int .i64 v,.nilIface])/\(w'=w∨∃t,w'=Lib.bytesWorld w 5 t):=Any.strconv_ParseInt_10_at64_ok Tryz.F1 s aiB v h w
open Go.RowKit in
theorem Tryz.strconv_ParseInt_10_at64_range_var (s:ByteArray) (Xl:s.size<=281474976710656) (h:Lib.parseIntB 64 s.data.toList=.range) (tp:TypeId) (p:Value) (w:World) (Xm:w.var? Tryz.prog "strconv.ErrRange" =some #[.iface tp p]):
 Calls Tryz.prog 287 #[.string s,.int .i64 10,.int .i64 64] w fun e w'=>∃N,e=.returned (.tuple #[.int .i64 (Lib.intSat 64 s.data.toList),.iface 336 (.pointer (some ⟨N,0,none⟩))])/\w.heap.size<=N/\w'.heap[N]? =some (.cells #[.string ⟨#[80,97,114,115,101,73,110,116]⟩,.string s,.iface tp p] 344 (0,0))/\Below w.heap.size w w':=Any.strconv_ParseInt_10_at64_range_var Tryz.F1 s Xl h tp p w Xm
def Tryz.F2:Go.Shelf.Ren:=⟨fun | 219=>228 | 217=>266 | 225=>267 | 224=>268 | 267=>269 | 266=>298 | 314=>299 | n=>n,fun | 9=>9 | 3=>3 | 4=>4 | 5=>5 | 46=>210 | 146=>251 | 51=>250 | n=>n,fun | 1=>0 | n=>n⟩
theorem Tryz.Tc:Go.Proofs.Lays.n219 Tryz.prog Tryz.F2:={
 mixed:=by kernel_rfl
 f217:=Tryz.func266.trans (bK some (by kernel_rfl))
 f219:=Tryz.func228.trans (bK some (by kernel_rfl))
 f224:=Tryz.func268.trans (bK some (by kernel_rfl))
 f225:=Tryz.func267.trans (bK some (by kernel_rfl))
 f266:=Tryz.func298.trans (bK some (by kernel_rfl))
 f267:=Tryz.func269.trans (bK some (by kernel_rfl))
 f314:=Tryz.func299.trans (bK some (by kernel_rfl))
 t3:=Tryz.underlying3
 a3:=Tryz.isAgg3
 z3:=Tryz.sizeOf3
 v3:=Tryz.zeroValue3
 t4:=Tryz.underlying4
 a4:=Tryz.isAgg4
 z4:=Tryz.sizeOf4
 v4:=Tryz.zeroValue4
 t5:=Tryz.underlying5
 a5:=Tryz.isAgg5
 z5:=Tryz.sizeOf5
 v5:=Tryz.zeroValue5
 t9:=Tryz.underlying9
 a9:=Tryz.isAgg9
 z9:=Tryz.sizeOf9
 v9:=Tryz.zeroValue9
 t46:=Tryz.underlying210
 a46:=Tryz.isAgg210
 z46:=Tryz.sizeOf210
 v46:=Tryz.zeroValue210
 t51:=Tryz.underlying250
 a51:=Tryz.isAgg250
 z51:=Tryz.sizeOf250
 v51:=Tryz.zeroValue250
 t146:=Tryz.underlying251
 a146:=Tryz.isAgg251
 z146:=Tryz.sizeOf251
 v146:=Tryz.zeroValue251
 g1:=by kernel_rfl}
open Go.RowKit Go.Lib in
theorem Tryz.stringslite_Index_one (s:ByteArray) (c:UInt8) (w:World):
 Calls Tryz.prog 228 #[.string s,.string ⟨#[c]⟩] w fun e w'=>e=.returned (.int .i64 (Lib.indexByte s.data.toList c))/\w'=w:=Any.stringslite_Index_one Tryz.Tc s c w
def Tryz.xC:Go.Shelf.Ren:=⟨fun | 105=>83 | 212=>146 | 99=>147 | 165=>148 | 166=>82 | 170=>91 | 169=>43 | 263=>212 | 264=>213 | 206=>214 | 240=>145 | 241=>215 | 276=>211 | 277=>257 | n=>n,fun | 9=>9 | 3=>3 | 4=>4 | 20=>20 | 0=>0 | 46=>210 | 109=>211 | 5=>5 | 72=>70 | 76=>146 | 51=>250 | 146=>251 | 53=>161 | 148=>253 | 70=>67 | 37=>68 | 75=>145 | 127=>153 | 164=>248 | 80=>82 | n=>n,fun | n=>n⟩
theorem Tryz.Td:Go.Proofs.Lays.n105 Tryz.prog Tryz.xC:={
 mixed:=by kernel_rfl
 f99:=Tryz.func147.trans (bK some (by kernel_rfl))
 f105:=Tryz.func83.trans (bK some (by kernel_rfl))
 f165:=Tryz.func148.trans (bK some (by kernel_rfl))
 f166:=Tryz.func82.trans (bK some (by kernel_rfl))
 f169:=Tryz.func43.trans (bK some (by kernel_rfl))
 f170:=Tryz.func91.trans (bK some (by kernel_rfl))
 f206:=Tryz.func214.trans (bK some (by kernel_rfl))
 f212:=Tryz.func146.trans (bK some (by kernel_rfl))
 f240:=Tryz.func145.trans (bK some (by kernel_rfl))
 f241:=Tryz.func215.trans (bK some (by kernel_rfl))
 f263:=Tryz.func212.trans (bK some (by kernel_rfl))
 f264:=Tryz.func213.trans (bK some (by kernel_rfl))
 f276:=Tryz.func211.trans (bK some (by kernel_rfl))
 f277:=Tryz.func257.trans (bK some (by kernel_rfl))
 t0:=Tryz.underlying0
 a0:=Tryz.isAgg0
 z0:=Tryz.sizeOf0
 v0:=Tryz.zeroValue0
 t3:=Tryz.underlying3
 a3:=Tryz.isAgg3
 z3:=Tryz.sizeOf3
 v3:=Tryz.zeroValue3
 t4:=Tryz.underlying4
 a4:=Tryz.isAgg4
 z4:=Tryz.sizeOf4
 v4:=Tryz.zeroValue4
 t5:=Tryz.underlying5
 a5:=Tryz.isAgg5
 z5:=Tryz.sizeOf5
 v5:=Tryz.zeroValue5
 t9:=Tryz.underlying9
 a9:=Tryz.isAgg9
 z9:=Tryz.sizeOf9
 v9:=Tryz.zeroValue9
 t20:=Tryz.underlying20
 a20:=Tryz.isAgg20
 z20:=Tryz.sizeOf20
 v20:=Tryz.zeroValue20
 t37:=Tryz.underlying68
 a37:=Tryz.isAgg68
 z37:=Tryz.sizeOf68
 v37:=Tryz.zeroValue68
 t46:=Tryz.underlying210
 a46:=Tryz.isAgg210
 z46:=Tryz.sizeOf210
 v46:=Tryz.zeroValue210
 t51:=Tryz.underlying250
 a51:=Tryz.isAgg250
 z51:=Tryz.sizeOf250
 v51:=Tryz.zeroValue250
 t53:=Tryz.underlying161
 a53:=Tryz.isAgg161
 z53:=Tryz.sizeOf161
 v53:=Tryz.zeroValue161
 t70:=Tryz.underlying67
 a70:=Tryz.isAgg67
 z70:=Tryz.sizeOf67
 v70:=Tryz.zeroValue67
 t72:=Tryz.underlying70
 a72:=Tryz.isAgg70
 z72:=Tryz.sizeOf70
 v72:=Tryz.zeroValue70
 t75:=Tryz.underlying145
 a75:=Tryz.isAgg145
 z75:=Tryz.sizeOf145
 v75:=Tryz.zeroValue145
 t76:=Tryz.underlying146
 a76:=Tryz.isAgg146
 z76:=Tryz.sizeOf146
 v76:=Tryz.zeroValue146
 t109:=Tryz.underlying211
 a109:=Tryz.isAgg211
 z109:=Tryz.sizeOf211
 v109:=Tryz.zeroValue211
 t127:=Tryz.underlying153
 a127:=Tryz.isAgg153
 z127:=Tryz.sizeOf153
 v127:=Tryz.zeroValue153
 t146:=Tryz.underlying251
 a146:=Tryz.isAgg251
 z146:=Tryz.sizeOf251
 v146:=Tryz.zeroValue251
 t148:=Tryz.underlying253
 a148:=Tryz.isAgg253
 z148:=Tryz.sizeOf253
 v148:=Tryz.zeroValue253
 t164:=Tryz.underlying248
 a164:=Tryz.isAgg248
 z164:=Tryz.sizeOf248
 v164:=Tryz.zeroValue248}
theorem Tryz.vU:Builder.Extra Tryz.prog Tryz.xC:={
 sizeBuilder:=by kernel_rfl
 liesBuilder:=by kernel_rfl
 t5:=Tryz.underlying5
 a5:=Tryz.isAgg5
 z5:=Tryz.sizeOf5
 v5:=Tryz.zeroValue5
 infoByte:=by kernel_rfl
 cellsByte:=by kernel_rfl
 sizeByte:=by kernel_rfl
 neB5:=by decide}
open Go.RowKit Go.Lib in
theorem Tryz.strings_Repeat (s:ByteArray) (c:Nat) (w:World) (hc:c<=9223372036854775807) (ey:s.size*c<=140737488355328):
 Calls Tryz.prog 83 #[.string s,.int .i64 c] w fun e w'=>e=.returned (.string ⟨(Lib.repeatL s.data.toList c).toArray⟩)/\Below w.heap.size w w':=Any.strings_Repeat Tryz.Td Tryz.vU s c w hc ey
end Go.Proofs
namespace Go.Proofs.YtmhoiicofhlgbaaGreatDoor.Con
open Go.Value renaming int->O,string->ab,pointer->ae,agg->ah,tuple->ai,bool->aj
open Go.IntKind renaming i64->U,wrap->ar
open Go.Ending renaming returned->ak
open _root_.ByteArray renaming mk->ao
open _root_.Go.Proofs.Tryz renaming prog->aq
open Go.Instr renaming buildSlice->au
open Go renaming World->av,Value->aw,Calls->az
open Go.Kt renaming Only->ay,SliceF->aA,Cells->aB,OnlyP->aD,Blk->aF
open Go Go.RowKit Go.Kt Go.Kt.V Go.Proofs.YtmhoiicofhlgbaaGreatDoor.Vc
set_option linter.unusedSimpArgs false
set_option linter.unusedVariables false
theorem ret{P:Program}{f:FuncId}{a:Array aw}{w:av}{r:aw}{Q:av->Prop}(h:az P f a w fun e w'=>∃v,e=ak v/\v=r/\Q w'):az P f a w fun e w'=>e=ak r/\Q w':=
 h.mono (by rintro e w' ⟨v,rfl,rfl,hq⟩;exact⟨rfl,hq⟩)
theorem Blk.ec{w:av}{b:Nat}{t:TypeId}{cs:aI}(h:aF w b t cs)(j:Nat){v:aw}(hv:cs[j]? =some v):aB w ((⟨b,0,none⟩:Addr).add j) [v]:=by
 rw[fZ,bD];exact h.cells j [v] fun k u hk=>by
  cases k with
  | zero=>simp only[bP,aV]at hk;subst hk;exact hv
  | succ k=>simp at hk
def eG(c:UInt8):Bool:=(65<=c.toNat&&c.toNat<=90)||(97<=c.toNat&&c.toNat<=122)||c.toNat==95
def cN(c:UInt8):Bool:=48<=c.toNat&&c.toNat<=57
def dV(c:UInt8):Bool:=eG c||cN c
def mZ(c:UInt8):Bool:=[9,10,13,32].contains c
theorem Hb:∀n:Fin 256,(((decide (97<=(bits .or .u8 (n.val:Int) 32)))&&(decide ((bits .or .u8 (n.val:Int) 32)<=122)))||((n.val:Int)==95))=((65<=n.val&&n.val<=90)||(97<=n.val&&n.val<=122)||n.val==95):=by decide+kernel
theorem zr(w:av)(c:UInt8):az aq 152 #[.int .u8 (c.toNat:Int)] w fun e w'=>e=ak (aj (eG c))/\ay [] w w':=by
 refine ret (aay _ _ _ ?_);exact⟨by rw[Hb ⟨c.toNat,c.toNat_lt⟩];rfl,Only.refl _ _⟩
theorem IZ(w:av)(c:UInt8):az aq 204 #[.int .u8 (c.toNat:Int)] w fun e w'=>e=ak (aj (cN c))/\ay [] w w':=by
 refine ret (aaB _ _ _ ?_);refine⟨?_,Only.refl _ _⟩;congr 1;rw[bI];simp only[cN,aP,bA];omega
theorem NB(w:av)(c:UInt8):az aq 286 #[.int .u8 (c.toNat:Int)] w fun e w'=>e=ak (aj (cN c))/\ay [] w w':=by
 refine ret (v2w _ _ _ ?_);refine⟨?_,Only.refl _ _⟩;have h:∀n:Fin 256,decide ((ar .u8 ((n.val:Int)-48))<10)=(decide (48<=n.val)&&decide (n.val<=57)):=by decide+kernel
 rw[h ⟨c.toNat,c.toNat_lt⟩];rfl
theorem NC{w:av}{F:aJ}{s:Sl}{l:aH}(h:aA ki 1 w F s l)(c:UInt8):
  az aq 284 #[Sl.v s,.int .u8 (c.toNat:Int)] w fun e w'=>∃i:Int,e=ak (O U i)/\decide (i>=0)=l.contains c/\ay [] w w':=by
 refine(aat s _ (fun v w'=>∃i:Int,v=O U i/\decide (i>=0)=l.contains c/\ay [] w w') w ?_).mono (by
  rintro e w' ⟨v,rfl,i,rfl,h⟩;exact⟨i,rfl,h⟩)
 have ey:=h.len;have pq:=h.big;have nS:=h.cap;refine⟨fun nv i w'=>∃n:Nat,n<=l.length/\i=(n:Int)/\nv=l.length-n/\(∀x,x∈l.take n->x≠c)/\w'=w,l.length,⟨0,bd _,rfl,rfl,by simp,rfl⟩,?_⟩;rintro nv _ _ ⟨n,hn,rfl,rfl,hp,rfl⟩;refine⟨fun hc=>?_,fun hc=>?_⟩
 ·have bQ:(n:Int)<s.n:=aQ hc;obtain⟨ad,x,cs,g1,g2,g3,g4,g5,g6⟩:=h.get (ba n) bQ;rw[aX]at g2;unfold ki fW at g6;subst g6;refine⟨ad,g1,_,g5,fun he=>⟨_,rfl,?_,Only.refl _ _⟩,fun he=>⟨l.length-(n+1),by omega,n+1,by omega,by rw[fH (by omega) (by omega)];rfl,rfl,?_,rfl⟩⟩
  ·have he:c=x:=QS.1 (by have:=aQ he;omega);rw[bF (by omega)];symm;rw[ei,he];exact br g2
  ·intro y hy;rw[bB,g2]at hy;simp only[fi,cH,aO]at hy;rcases hy with hy | rfl
   ·exact hp y hy
   ·rintro rfl;simp at he
 ·have lR:¬((n:Int)<s.n):=aU hc;rw[bH (by omega)]at hp;refine⟨_,rfl,?_,Only.refl _ _⟩;rw[bn (by omega)];symm;rw[gr];intro hh;exact hp c (ei.1 hh) rfl
theorem ER{w:av}{F:aJ}{s:Sl}{l:aH}(h:aA ki 1 w F s l)(c:UInt8):
  az aq 249 #[Sl.v s,.int .u8 (c.toNat:Int)] w fun e w'=>e=ak (aj (l.contains c))/\ay [] w w':=by
 refine ret (aas _ _ _ _ ?_);refine(NC h c).mono ?_;rintro _ w1 ⟨i,rfl,hi,hO⟩;exact⟨i,rfl,by rw[hi],hO⟩
theorem ES{w:av}{F:aJ}{s:Sl}{l:aH}(h:aA ki 1 w F s l)(c:UInt8):
  az aq 200 #[.int .u8 (c.toNat:Int),Sl.v s] w fun e w'=>e=ak (aj (l.contains c))/\ay [] w w':=by
 refine ret (aar _ _ _ _ ?_);refine(ER h c).mono ?_;rintro _ w1 ⟨rfl,hO⟩;exact⟨_,rfl,rfl,hO⟩
def jB:Rp (aH):=fun _ _ l cs=>cs=[ab (T l)]
theorem cZ:jB.Ok where
 keep h _:=h
 inHeap h:=h
 mono h _:=h
 one:=by
  rintro w F x cs h v hv;unfold jB at h;subst h;simp only[aO]at hv;subst hv;rfl
theorem ND{w:av}{F:aJ}{s:Sl}{l:List (aH)}(h:aA jB 1 w F s l)(c:aH):
  az aq 207 #[Sl.v s,ab (T c)] w fun e w'=>∃i:Int,e=ak (O U i)/\decide (i>=0)=l.contains c/\ay [] w w':=by
 refine(T8 s _ (fun v w'=>∃i:Int,v=O U i/\decide (i>=0)=l.contains c/\ay [] w w') w ?_).mono (by
  rintro e w' ⟨v,rfl,i,rfl,h⟩;exact⟨i,rfl,h⟩)
 have ey:=h.len;have pq:=h.big;have nS:=h.cap;refine⟨fun nv i w'=>∃n:Nat,n<=l.length/\i=(n:Int)/\nv=l.length-n/\(∀x,x∈l.take n->x≠c)/\w'=w,l.length,⟨0,bd _,rfl,rfl,by simp,rfl⟩,?_⟩;rintro nv _ _ ⟨n,hn,rfl,rfl,hp,rfl⟩;refine⟨fun hc=>?_,fun hc=>?_⟩
 ·have bQ:(n:Int)<s.n:=aQ hc;obtain⟨ad,x,cs,g1,g2,g3,g4,g5,g6⟩:=h.get (ba n) bQ;rw[aX]at g2;unfold jB at g6;subst g6;refine⟨ad,g1,_,g5,?_⟩;dsimp only;rw[iO];refine⟨fun he=>⟨_,rfl,?_,Only.refl _ _⟩,fun he=>⟨l.length-(n+1),by omega,n+1,by omega,by rw[fH (by omega) (by omega)];rfl,rfl,?_,rfl⟩⟩
  ·have he:c=x:=aQ he;rw[bF (by omega)];symm;rw[ei,he];exact br g2
  ·intro y hy;rw[bB,g2]at hy;simp only[fi,cH,aO]at hy;rcases hy with hy | rfl
   ·exact hp y hy
   ·rintro rfl;simp at he
 ·have lR:¬((n:Int)<s.n):=aU hc;rw[bH (by omega)]at hp;refine⟨_,rfl,?_,Only.refl _ _⟩;rw[bn (by omega)];symm;rw[gr];intro hh;exact hp c (ei.1 hh) rfl
theorem rS{w:av}{F:aJ}{s:Sl}{l:List (aH)}(h:aA jB 1 w F s l)(c:aH):
  az aq 154 #[Sl.v s,ab (T c)] w fun e w'=>e=ak (aj (l.contains c))/\ay [] w w':=by
 refine ret (aaC _ _ _ _ ?_);refine(ND h c).mono ?_;rintro _ w1 ⟨i,rfl,hi,hO⟩;exact⟨i,rfl,by rw[hi],hO⟩
abbrev Se(w:av)(b:Nat)(t:TypeId)(l:aH)(i:Nat)(r:aI):Prop:=aF w b t (ab (T l)::O U (i:Int)::r)
theorem Ue{w:av}{b:Nat}{t:TypeId}{l:aH}{i:Nat}{r:aI}(h:Se w b t l i r):
  az aq 135 #[ae (some ⟨b,0,none⟩)] w fun e w'=>e=ak (aj (decide (l.length<=i)))/\ay [] w w':=by
 refine ret (aaq _ _ _ ?_);refine⟨i,Blk.ec h 1 rfl,T l,Blk.ec h 0 rfl,fun w0 hO=>⟨?_,hO⟩⟩;rw[bW];congr 1;rw[Mc];omega
theorem zu{w:av}{b:Nat}{t:TypeId}{l:aH}{i:Nat}{r:aI}(h:Se w b t l i r)(hi:i<=l.length):
  az aq 201 #[ae (some ⟨b,0,none⟩)] w fun e w'=>e=ak (ab (T (l.drop i)))/\ay [] w w':=by
 refine ret (aau _ _ _ ?_);refine⟨T l,Blk.ec h 0 rfl,i,Blk.ec h 1 rfl,i,⟨rfl,by rw[bW];exact hi⟩,fun w0 hO=>⟨?_,hO⟩⟩;rw[rI,bW,bH (by rw[bX];exact aW _)]
theorem kU{p:UInt8->Bool}:∀{l:aH} {n:Nat},n<=l.length->(∀x,x∈l.take n->p x=true)->(∀x,l[n]? =some x->p x=false)->l.takeWhile p=l.take n
 | [],n,_,_,_=>by simp
 | c::r,0,_,_,h=>by
  have:=h c rfl;simp[this]
 | c::r,n+1,hn,h1,h2=>by
  have hc:=h1 c (by simp);rw[da,if_pos hc,fC,kU (n:=n) (by simpa using hn) (fun x hx=>h1 x (by simp[hx])) (fun x hx=>h2 x (by simpa using hx))]
theorem NE{w:av}{b:Nat}{t:TypeId}{l:aH}{i:Nat}{r:aI}(h:Se w b t l i r)(hi:i<=l.length)(hl:l.length<9223372036854775807):
  az aq 153 #[ae (some ⟨b,0,none⟩)] w fun e w'=>e=ak (ab (T ((l.drop i).takeWhile dV)))/\ay [] w w':=by
 refine ret (aaA _ _ _ ?_);refine(zu h hi).mono ?_;rintro _ w0 ⟨rfl,ch⟩;have hlr:(l.drop i).length<=l.length:=by rw[bX];omega
 generalize l.drop i=m at*
 refine⟨T m,rfl,fun nv j w'=>∃n:Nat,n<=m.length/\j=(n:Int)/\nv=m.length-n/\(∀x,x∈m.take n->dV x=true)/\ay [] w w',m.length,⟨0,bd _,rfl,rfl,by simp,ch⟩,?_⟩;rintro nv _ w1 ⟨n,hn,rfl,rfl,hp,cn⟩;rw[bW];refine⟨fun b w'=>(b=true->∃x,m[n]? =some x/\dV x=true)/\(b=false->∀x,m[n]? =some x->dV x=false)/\ay [] w w',?_,fun hc=>?_,fun hc=>⟨fun e=>(by cases e),fun _ x hx=>?_,cn⟩⟩
 ·rintro b w2 ⟨h1,h2,cG⟩;refine⟨fun hb=>?_,fun hb=>⟨n,⟨rfl,hn⟩,?_,cG⟩⟩
  ·obtain⟨x,hx,hw⟩:=h1 hb;have bQ:=(bc.1 hx).1;refine⟨m.length-(n+1),by omega,n+1,by omega,by rw[fH (by omega) (by omega)];rfl,rfl,fun y hy=>?_,cG⟩;rw[bB,hx]at hy;simp only[fi,cH,aO]at hy;rcases hy with hy | rfl
   ·exact hp y hy
   ·exact hw
  ·rw[rI,fK,sQ,kU hn hp (h2 hb)]
 ·have bQ:(n:Int)<m.length:=aQ hc;have hx:m[n]? =some (m[n]'(by omega)):=bG (by omega);generalize m[n]'(by omega)=x at hx;have hg:(T m)[Int.toNat (n:Int)]? =some x:=by rw[lq,aX,hx]
  refine⟨x,⟨ba n,hg⟩,(zr w1 x).mono ?_⟩;rintro _ w3 ⟨rfl,dh⟩;refine⟨_,rfl,fun hb=>⟨fun _=>⟨x,hx,by unfold dV;rw[hb];rfl⟩,fun e=>(by cases e),cn.cd dh⟩,fun hb=>⟨x,⟨ba n,hg⟩,(IZ w3 x).mono ?_⟩⟩;rintro _ w4 ⟨rfl,dI⟩;refine⟨_,rfl,fun hd=>⟨x,hx,by unfold dV;rw[hd,mA]⟩,fun hd y hy=>?_,cn.cd (dh.cd dI)⟩;rw[hx]at hy;injection hy with hy;subst hy;unfold dV;rw[hb,hd];rfl
 ·have lR:¬(n:Int)<m.length:=aU hc;have:=(bc.1 hx).1;omega
theorem ET(w:av)(l p:aH)(hl:l.length<9223372036854775807)(hp:p.length<9223372036854775807):az aq 147 #[ab (T l),ab (T p)] w fun e w'=>e=ak (aj (decide (l.take p.length=p)))/\ay [] w w':=by
 refine ret (aav _ _ _ _ ?_);refine(ret (af6 (T l) (T p) (fun v w'=>v=aj (decide (l.take p.length=p))/\ay [] w w') w ?_)).mono ?_
 ·rw[bW,bW];refine⟨p.length,fun h=>⟨rfl,by have:=aQ h;omega⟩,?_,Only.refl _ _⟩;rw[rI,iO,fK,sQ];congr 1;rw[bI];simp only[aP,bA];constructor
  ·exact fun h=>h.2
  ·intro h;refine⟨?_,h⟩;have:=bK List.length h;rw[cP]at this;omega
 ·rintro _ w1 ⟨rfl,hO⟩;exact⟨_,rfl,rfl,hO⟩
theorem qX:∀(l:aH) (c:UInt8),Lib.indexByte l c=if c∈l then((l.takeWhile (· !=c)).length:Int)else -1
 | [],c=>by simp[Lib.indexByte]
 | b::l,c=>by
  rw[Lib.indexByte,qX l c];by_cases hbc:b=c
  ·subst hbc;simp
  ·by_cases hm:c∈l
   ·have h1:(b==c)=false:=by simpa using hbc
    have h2:(b !=c)=true:=by simpa using hbc
    have h3:c∈b::l:=by simp[hm]
    rw[h1,if_pos hm,if_pos h3,da,if_pos h2];simp
   ·have h1:(b==c)=false:=by simpa using hbc
    have h3:¬c∈b::l:=by simp[hm];exact fun e=>hbc e.symm
    rw[h1,if_neg hm,if_neg h3];simp
theorem zv{c:UInt8}:∀{l:aH},¬c∈l->l.takeWhile (· !=c)=l
 | [],_=>rfl
 | b::l,h=>by
  simp only[aY,not_or]at h;rw[da,if_pos (by simpa using fun e=>h.1 e.symm),zv h.2]
theorem me{p:UInt8->Bool}:∀{l:aH},l.takeWhile p=l.take (l.takeWhile p).length
 | []=>rfl
 | b::l=>by
  rw[da];split
  ·rw[aR,fC,<-me]
  ·rfl
theorem abv(w:av)(l:aH)(c:UInt8)(hl:l.length<9223372036854775807):az aq 202 #[ab (T l),ab (T [c])] w fun e w'=>∃(s:aK) (b:Bool),e=ak (ai #[ab (T (l.takeWhile (· !=c))),ab s,aj b])/\ay [] w w':=by
 refine(aaw _ _ (fun v w'=>∃(s:aK) (b:Bool),v=(ai #[ab (T (l.takeWhile (· !=c))),ab s,aj b])/\ay [] w w') w ?_).mono (by
  rintro e w' ⟨v,rfl,s,b,rfl,h⟩;exact⟨s,b,rfl,h⟩)
 refine(af7 (T l) (T [c]) (fun v w'=>∃(s:aK) (b:Bool),v=(ai #[ab (T (l.takeWhile (· !=c))),ab s,aj b])/\ay [] w w') w ?_).mono ?_
 ·refine(Tryz.stringslite_Index_one (T l) c w).mono ?_;rintro _ _ ⟨rfl,rfl⟩;have e:(T l).data.toList=l:=rfl;rw[e,qX];refine⟨_,rfl,fun h=>?_,fun h=>?_⟩
  ·by_cases hm:c∈l
   ·rw[if_pos hm];have bQ:(l.takeWhile (· !=c)).length<l.length:=by
     have h1:=List.takeWhile_append_dropWhile (p:=(· !=c)) (l:=l);have h2:=bK List.length h1;rw[aN]at h2;have h3:l.dropWhile (· !=c)≠[]:=by
      intro h3;rw[h3,bL]at h1;rw[<-h1]at hm;have:=List.all_takeWhile (p:=(· !=c)) (l:=l);rw[dT]at this;have:=this c (by rw[h1]at hm⊢;exact hm);simp at this
     have h4:=rD.2 h3;omega
    have hk:(T l).extract 0 (l.takeWhile (· !=c)).length=T (l.takeWhile (· !=c)):=by
     rw[rI,fK,sQ,<-me]
    refine⟨(l.takeWhile (· !=c)).length,⟨rfl,by rw[bW];omega⟩,(l.takeWhile (· !=c)).length+1,⟨by rw[bW,fH (by simp;omega) (by simp;omega)];rfl,by rw[bW];omega⟩,fun w1 hO=>⟨(T l).extract ((l.takeWhile (· !=c)).length+1) (T l).size,true,?_,hO⟩⟩;rw[hk]
   ·rw[if_neg hm]at h;exact absurd (aQ h) (by omega)
  ·by_cases hm:c∈l
   ·rw[if_pos hm]at h;exact absurd (aU h) (by omega)
   ·rw[zv hm];exact⟨_,_,rfl,Only.refl _ _⟩
 ·rintro _ w1 ⟨v,rfl,s,b,rfl,hO⟩;exact⟨_,s,b,rfl,s,b,rfl,hO⟩
end Go.Proofs.YtmhoiicofhlgbaaGreatDoor.Con
