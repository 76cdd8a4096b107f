import Derived.Test.YtbkjcdocjfknfaaGreatDoorQt5
set_option linter.unusedSectionVars false
namespace Go.Proofs.YtbkjcdocjfknfaaGreatDoor.Vc
open Go.Value renaming int->O,string->ab,pointer->ae,agg->ah,tuple->ai,bool->aj
open Go.IntKind renaming i64->U,wrap->ar
open Go.Ending renaming returned->ak
open _root_.ByteArray renaming mk->ao
open _root_.Go.Proofs.Tryz renaming prog->aq
open Go.Instr renaming buildSlice->au
open Go renaming World->av,Value->aw,Calls->az
open Go.Kt renaming Only->ay,SliceF->aA,Cells->aB,OnlyP->aD,Blk->aF
open Go Go.RowKit Go.Kt Go.Kt.V
set_option linter.unusedVariables false
set_option maxRecDepth 100000
set_option maxHeartbeats 40000000
theorem ZG(m:Addr)(n_:Int)(qX qy rG:aK)(rH rI ou mz:Sl)(qz:Int)(R:aG)(w:av)(h:nw w fun k0 w0=>jy w0 ((m.add 0).add 3) fun l0=>jy w0 ((m.add 5).add 0) fun l1=>GU l1 (l0.n:Int) w0 fun i0 s0 i1 i2 i3=>nw w0 fun k1 w1=>∃J0:aJ,J0 k0/\J0 k1/\∀w2,ay [] w1 w2->J0 (((m.add 5).add 1).block)/\jy w2 ((m.add 5).add 1) fun l2=>∃p1,dy l2 (l0.n:Int) 1 p1/\∀w3,ay [] w2 w3->J0 p1.block/\ju w3 p1 fun i4=>∀w4,ay [] w3 w4->J0 (((m.add 5).add 2).block)/\jy w4 ((m.add 5).add 2) fun l3=>∃p2,dy l3 (l0.n:Int) 1 p2/\∀w5,ay [] w4 w5->J0 p2.block/\ju w5 p2 fun i5=>J0 k0/\J0 k0/\∀w6,ay [] w5 w6->J0 (((m.add 0).add 4).block)/\jy w6 ((m.add 0).add 4) fun l4=>∀w7,ay [] w6 w7->Qh [k0,k1] 81 #[rH.v] w7 fun l5 w8=>ik w1 w7 w8/\bL J0 w7 w8/\∀w9,ay [] w8 w9->Qh [k0,k1] 81 #[rI.v] w9 fun l6 dw=>ik w1 w9 dw/\bL J0 w9 dw/\∀dr,ay [] dw dr->∀k2,w1.heap.size<=k2->k2<dr.heap.size->tq [.mk w9.heap.size dw.heap.size,.mk w7.heap.size w8.heap.size] k2->∀dX,ay [k2] dr dX->∃J1:Int->Int->Int->Int->Int->Int->Int->Sl->Sl->Int->Int->av->Prop,(∀i6 i7 i8 i9 i10 i11 i12,∀l7 l8:Sl,∀i13 i14 eS,J1 i6 i7 i8 i9 i10 i11 i12 l7 l8 i13 i14 eS->∃J2:Nat->Int->Int->Int->Int->Int->Int->Int->Int->Sl->Sl->Int->Int->av->Prop,∃k3:Nat,J2 k3 (ar U ((l0.n:Int)+1)) i6 i7 i8 i9 i10 i11 i12 l7 l8 i13 i14 eS/\∀k4 i15 i16 i17 i18 i19 i20 i21 i22,∀l9 l10:Sl,∀i23 i24 eZ,J2 k4 i15 i16 i17 i18 i19 i20 i21 i22 l9 l10 i23 i24 eZ->cM (decide (i15<i3)) (∃J3:Int->Int->Int->Int->Int->Int->Int->Sl->Sl->Int->Int->av->Prop,(∀i25 i26 i27 i28 i29 i30 i31,∀pD qx:Sl,∀i32 i33 fU,J3 i25 i26 i27 i28 i29 i30 i31 pD qx i32 i33 fU->nx k4 fun k5=>J2 k5 (ar U (i15+1)) i25 i26 i27 i28 i29 i30 i31 pD qx i32 i33 fU)/\∀gy,ay [] eZ gy->∃J4:aJ,J4 k2/\az aq 39 #[O U i15] gy fun e2 fR=>∃i34,e2=(ak (.int .u64 i34))/\bS [k0,k1,k2] gy fR/\bL J4 gy fR/\∀gI,ay [k2] fR gI->qM (fun b0 iL=>cM b0 (∀gJ,ay [] iL gJ->∃J6:aJ,J6 k2/\az aq 39 #[O U i15] gJ fun e3 jO=>∃i35,e3=(ak (.int .u64 i35))/\bS [k0,k1,k2] gJ jO/\bL J6 gJ jO/\∀mR,ay [k2] jO mR->J3 i16 i17 i18 (bits .or .u64 i19 i34) (bits .or .u64 i20 i35) i21 i22 l9 l10 i23 i24 mR) (J3 i16 i17 i18 (bits .or .u64 i19 i34) i20 i21 i22 l9 l10 i23 i24 iL)) fun J5=>jy gI ((m.add 5).add 0) fun yp=>∃p3,dy yp i15 5 p3/\ju gI (p3.add 2) fun i36=>cM (i36==(l0.n:Int)) (jy gI ((m.add 5).add 0) fun yV=>∃p4,dy yV i15 5 p4/\ju gI (p4.add 0) fun i37=>rr [k0,k1,k2] 53 #[O U i37] gI fun b1 mw=>J5 b1 mw) (J5 false gI)) (GR (fun mS=>ru 0 mS fun J8 k7 i38 kX=>cM (decide (i38<(ou.n:Int))) (je ou i38 kX fun i39 s1 i40 b2 i41 i42 s2 i43 B7 i44 KF N6 i45=>nw kX fun k8 my=>∃J9:aJ,J9 (((m.add 5).add 3).block)/\jy my ((m.add 5).add 3) fun JN=>J9 k2/\∃p6,dy JN (ar U (i23+i38)) 7 p6/\J9 p6.block/\I9 my p6 fun i46 i47 i48 s3 i49 KG i50=>nw my fun k9 pN=>∃Px:aJ,Px k8/\Px k8/\Px k8/\Px k9/\Px k9/\Px k8/\Px k8/\Px k8/\∀sM,ay [] pN sM->Qh [k0,k1,k2,k8,k9] 48 #[KG.v] sM fun JO uV=>ik pN sM uV/\bL Px sM uV/\∀BP,ay [] uV BP->Qh [k0,k1,k2,k8,k9] 81 #[KF.v] BP fun Po Ev=>ik pN BP Ev/\bL Px BP Ev/\∀Oc,ay [] Ev Oc->∀iu,pN.heap.size<=iu->iu<Oc.heap.size->tq [.mk BP.heap.size Ev.heap.size,.mk sM.heap.size uV.heap.size] iu->∀Od,ay [iu] Oc Od->Qh [k0,k1,k2,k8,k9,iu] 82 #[B7.v] Od fun VO Ps=>∀JV,ay [iu] Ps JV->∃J11:Int->Int->Int->aK->Int->Sl->Int->Int->Bool->Int->Int->aK->Int->Sl->Int->Sl->av->Prop,(∀i51 i52 i53 s4 i54,∀XO:Sl,∀i55 i56 b3 i57 i58 s5 i59,∀XP:Sl,∀i60,∀XQ:Sl,∀RB,J11 i51 i52 i53 s4 i54 XO i55 i56 b3 i57 i58 s5 i59 XP i60 XQ RB->∀Pu,ay [] RB Pu->∃J12:aJ,J12 (((m.add 0).add 4).block)/\jy Pu ((m.add 0).add 4) fun l26=>eG (au 34 1 #[.mk 0 (ah #[O U i51,O U i52,O U i53,ab s4,O U i54,XO.v,O U i55,.int .u64 i56,aj b3,O U i57,O U i58,ab s5,O U i59,XP.v,O U i60,XQ.v])]) Pu fun VP Ew=>bS [k0,k1,k2,k8,k9,iu] Pu Ew/\bL J12 Pu Ew/\eG (Builtin.append_ #[34,34] 34 #[l26.v,VP.v]) Ew fun VQ Pv=>bS [k0,k1,k2,k8,k9,iu] Ew Pv/\bL J12 Ew Pv/\∃lR B8:Nat,∃z0,∃sO:Nat,((m.add 0).add 4)=⟨lR,B8,none⟩/\aF Pv lR sO z0/\(B8+1)<=z0.length/\k0≠lR/\k1≠lR/\k2≠lR/\k8≠lR/\k9≠lR/\iu≠lR/\∀Tv,ay [lR] Pv Tv->aF Tv lR sO (cd z0 B8 [VQ.v])->nx k7 fun zR=>J8 zR (ar U (i38+1)) Tv)/\cM (decide (i50>=0)) (∀V3,ay [] JV V3->jy V3 ((m.add 0).add 3) fun VR=>∃p7,dy VR i50 11 p7/\∃i61,aB V3 (p7.add 3) [.int .u64 i61]/\∀RC,ay [iu] V3 RC->J11 (l0.n:Int) i38 i39 s1 i40 JO i50 i61 b2 i41 i42 s2 i43 VO i44 Po RC) (J11 (l0.n:Int) i38 i39 s1 i40 JO i50 0 b2 i41 i42 s2 i43 VO i44 Po JV)) (ru 0 kX fun J13 yD i62 Tw=>cM (decide (i62<(mz.n:Int))) (gA mz i62 Tw fun i63 s6 s7 s8 VS VT VU Rv i64=>nw Tw fun FV w44=>fC [k0,k1,k2,FV] 38 #[ae (some m),ah #[O U i63,ab s6,ab s7,ab s8,VS.v,VT.v,VU.v,Rv.v,O U i64]] w44 fun Tx=>nx yD fun VZ=>J13 VZ (ar U (i62+1)) Tx) (R (ai #[]) Tw))) fun J7=>∀yE,ay [] eZ yE->∃FX:aJ,FX (((m.add 0).add 0).block)/\jy yE ((m.add 0).add 0) fun KI=>FX k0/\FX (((m.add 0).add 3).block)/\jy yE ((m.add 0).add 3) fun KJ=>FX k2/\(eG (au 31 1 #[.mk 0 (ab qX)]) yE fun N8 Eb=>bS [k0,k1,k2] yE Eb/\bL FX yE Eb/\(eG (Builtin.append_ #[31,31] 31 #[KI.v,N8.v]) Eb fun Pq KK=>bS [k0,k1,k2] Eb KK/\bL FX Eb KK/\eG (au 33 1 #[.mk 0 (ah #[O U i16,O U i17,.int .u64 i18,.int .u64 i19,.int .u64 i20,O U i21,O U i22,l9.v,l10.v,O U i23,O U i24])]) KK fun Rx Pw=>bS [k0,k1,k2] KK Pw/\bL FX KK Pw/\eG (Builtin.append_ #[33,33] 33 #[KJ.v,Rx.v]) Pw fun Ry XZ=>bS [k0,k1,k2] Pw XZ/\bL FX Pw XZ/\∃ri vB:Nat,∃z1,∃JP:Nat,((m.add 0).add 0)=⟨ri,vB,none⟩/\aF XZ ri JP z1/\(vB+1)<=z1.length/\k0≠ri/\k1≠ri/\k2≠ri/\∀Og,ay [ri] XZ Og->aF Og ri JP (cd z1 vB [Pq.v])->∃uU FW:Nat,∃z2,∃Oa:Nat,((m.add 0).add 3)=⟨uU,FW,none⟩/\aF Og uU Oa z2/\(FW+1)<=z2.length/\k0≠uU/\k1≠uU/\k2≠uU/\∀Oh,ay [uU] Og Oh->aF Oh uU Oa (cd z2 FW [Ry.v])->J7 Oh)/\eG (au 33 1 #[.mk 0 (ah #[O U i16,O U i17,.int .u64 i18,.int .u64 i19,.int .u64 i20,O U i21,O U i22,l9.v,l10.v,O U i23,O U i24])]) Eb fun Rz V4=>bS [k0,k1,k2] Eb V4/\bL FX Eb V4/\eG (Builtin.append_ #[31,31] 31 #[KI.v,N8.v]) V4 fun RA V5=>bS [k0,k1,k2] V4 V5/\bL FX V4 V5/\eG (Builtin.append_ #[33,33] 33 #[KJ.v,Rz.v]) V5 fun XU X1=>bS [k0,k1,k2] V5 X1/\bL FX V5 X1/\∃JQ JR:Nat,∃z3,∃Tu:Nat,((m.add 0).add 0)=⟨JQ,JR,none⟩/\aF X1 JQ Tu z3/\(JR+1)<=z3.length/\k0≠JQ/\k1≠JQ/\k2≠JQ/\∀w56,ay [JQ] X1 w56->aF w56 JQ Tu (cd z3 JR [RA.v])->∃BO V0:Nat,∃z4,∃k30:Nat,((m.add 0).add 3)=⟨BO,V0,none⟩/\aF w56 BO k30 z4/\(V0+1)<=z4.length/\k0≠BO/\k1≠BO/\k2≠BO/\∀w57,ay [BO] w56 w57->aF w57 BO k30 (cd z4 V0 [XU.v])->J7 w57)/\eG (au 33 1 #[.mk 0 (ah #[O U i16,O U i17,.int .u64 i18,.int .u64 i19,.int .u64 i20,O U i21,O U i22,l9.v,l10.v,O U i23,O U i24])]) yE fun XV Ty=>bS [k0,k1,k2] yE Ty/\bL FX yE Ty/\eG (au 31 1 #[.mk 0 (ab qX)]) Ty fun XW V6=>bS [k0,k1,k2] Ty V6/\bL FX Ty V6/\eG (Builtin.append_ #[31,31] 31 #[KI.v,XW.v]) V6 fun l45 V7=>bS [k0,k1,k2] V6 V7/\bL FX V6 V7/\eG (Builtin.append_ #[33,33] 33 #[KJ.v,XV.v]) V7 fun l46 X2=>bS [k0,k1,k2] V7 X2/\bL FX V7 X2/\∃JS V1:Nat,∃z5,∃k33:Nat,((m.add 0).add 0)=⟨JS,V1,none⟩/\aF X2 JS k33 z5/\(V1+1)<=z5.length/\k0≠JS/\k1≠JS/\k2≠JS/\∀w62,ay [JS] X2 w62->aF w62 JS k33 (cd z5 V1 [l45.v])->∃JU V2:Nat,∃z6,∃k36:Nat,((m.add 0).add 3)=⟨JU,V2,none⟩/\aF w62 JU k36 z6/\(V2+1)<=z6.length/\k0≠JU/\k1≠JU/\k2≠JU/\∀w63,ay [JU] w62 w63->aF w63 JU k36 (cd z6 V2 [l46.v])->J7 w63))/\cM (decide (i1>=0)) (∀RD,ay [] dX RD->∃J15:aJ,J15 (((m.add 0).add 3).block)/\jy RD ((m.add 0).add 3) fun l47=>J15 k1/\∃p9,dy l47 i1 11 p9/\J15 ((p9.add 2).block)/\∃i65,aB RD (p9.add 2) [.int .u64 i65]/\az aq 39 #[O U i1] RD fun e9 w65=>∃i66,e9=(ak (.int .u64 i66))/\bS [k0,k1,k2] RD w65/\bL J15 RD w65/\∀w66,ay [k2] w65 w66->J1 n_ i1 (bits .or .u64 i65 i66) 0 0 i4 i5 l5 l6 (l4.n:Int) (ar U ((l4.n:Int)+(ou.n:Int))) w66) (J1 n_ i1 0 0 0 i4 i5 l5 l6 (l4.n:Int) (ar U ((l4.n:Int)+(ou.n:Int))) dX)):Cr 38 #[ae (some m),ah #[O U n_,ab qX,ab qy,ab rG,rH.v,rI.v,ou.v,mz.v,O U qz]] w R:=
 fB (an:=.d 3 (.s (.l false [] []) (.s .o (.j [0,3,4,5,6] [.b 6 [.int .i64,.int .i64,.int .u64,.int .u64,.int .u64,.int .i64,.int .i64,.sl,.sl,.int .i64,.int .i64]] .o (.s (.s .o (.j [0,3,4,5,6] [.s 7 (.int .i64),.b 6 [.int .i64,.int .i64,.int .u64,.int .u64,.int .u64,.int .i64,.int .i64,.sl,.sl,.int .i64,.int .i64]] (.s .o (.j [0,3,4,5,6,7] [.b 6 [.int .i64,.int .i64,.int .u64,.int .u64,.int .u64,.int .i64,.int .i64,.sl,.sl,.int .i64,.int .i64]] (.s .o (.s (.j [0,3,4,5,6,7] [.s 122 .bool] .o .o) .o)) .o)) .o)) (.s (.j [0,3,4,5,6] [] .o .o) (.s (.s .o (.j [0,3,4,5,6,155,156] [.s 157 (.int .i64)] (.d 2 (.s (.d 2 (.s (.l false [] []) (.s .o (.j [0,3,4,5,6,9,10,11,155,156,157] [.b 11 [.int .i64,.int .i64,.int .i64,.str,.int .i64,.sl,.int .i64,.int .u64,.bool,.int .i64,.int .i64,.str,.int .i64,.sl,.int .i64,.sl]] .o .o)))) .o)) .o)) (.s .o (.j [0,3,5,6,9,10,11,228,229] [.s 230 (.int .i64)] .o .o))))))))) (args:=[.ad m,.agg (lV [.int .i64 n_,.str qX,.str qy,.str rG,.sl rH,.sl rI,.sl ou,.sl mz,.int .i64 qz])]) h
theorem ZH(n_:Int)(R:aG)(w:av)(h:cM ((decide (n_<0))||(decide (n_>63))) (R (.int .u64 0) w) (0<=n_/\R (.int .u64 (ar .u64 (1*(2 ^ (min (Int.toNat n_) 64))))) w)):Cr 39 #[O U n_] w R:=
 gP (args:=[.int .i64 n_]) h
theorem afJ(l:Addr)(n_:Int)(qX qy rG:aK)(rH rI ou mz:Sl)(qz:Int)(R:aG)(w:av)(h:nw w fun k0 w0=>jy w0 ((l.add 0).add 1) fun l0=>∀w1,ay [] w0 w1->∃J0:aJ,J0 (((l.add 0).add 1).block)/\jy w1 ((l.add 0).add 1) fun l1=>qL [k0] 88 #[ae (some l),ab qy] w1 fun i0 w2=>bL J0 w1 w2/\eG (au 32 1 #[.mk 0 (O U i0)]) w2 fun l2 w3=>bS [k0] w2 w3/\bL J0 w2 w3/\eG (Builtin.append_ #[32,32] 32 #[l1.v,l2.v]) w3 fun l3 w4=>bS [k0] w3 w4/\bL J0 w3 w4/\∃k1 k2:Nat,∃z0,∃k3:Nat,((l.add 0).add 1)=⟨k1,k2,none⟩/\aF w4 k1 k3 z0/\(k2+1)<=z0.length/\k0≠k1/\∀w5,ay [k1] w4 w5->aF w5 k1 k3 (cd z0 k2 [l3.v])->∀w6,ay [] w5 w6->∃J1:aJ,J1 (((l.add 0).add 2).block)/\jy w6 ((l.add 0).add 2) fun l4=>qL [k0] 88 #[ae (some l),ab rG] w6 fun i1 w7=>bL J1 w6 w7/\eG (au 32 1 #[.mk 0 (O U i1)]) w7 fun l5 w8=>bS [k0] w7 w8/\bL J1 w7 w8/\eG (Builtin.append_ #[32,32] 32 #[l4.v,l5.v]) w8 fun l6 w9=>bS [k0] w8 w9/\bL J1 w8 w9/\∃k4 k5:Nat,∃z1,∃k6:Nat,((l.add 0).add 2)=⟨k4,k5,none⟩/\aF w9 k4 k6 z1/\(k5+1)<=z1.length/\k0≠k4/\∀dw,ay [k4] w9 dw->aF dw k4 k6 (cd z1 k5 [l6.v])->ru 0 dw fun J2 k8 i2 dr=>cM (decide (i2<(ou.n:Int))) (je ou i2 dr fun i3 s0 i4 b0 i5 i6 s1 i7 l7 i8 l8 l9 i9=>∀k9 iu dX,dr.heap.size<=k9->k9<dX.heap.size->dr.heap.size<=iu->iu<dX.heap.size->ay [] dr dX->∃J3:Nat->Int->Int->Int->Int->aK->Int->Sl->Int->av->Prop,∃lR:Nat,J3 lR 0 (l0.n:Int) i2 i3 s0 i4 Sl.nil 0 dX/\∀B8 i10 i11 i12 i13 s2 i14,∀l10:Sl,∀i15 eS,J3 B8 i10 i11 i12 i13 s2 i14 l10 i15 eS->cM (decide (i10<(l9.n:Int))) (Ks l9 i10 eS fun s3=>∀eZ,ay [] eS eZ->∃J4:aJ,J4 iu/\qL [k0,k9,iu] 88 #[ae (some l),ab s3] eZ fun i16 fU=>bL J4 eZ fU/\eG (au 32 1 #[.mk 0 (O U i16)]) fU fun pD gy=>bS [k0,k9,iu] fU gy/\bL J4 fU gy/\eG (Builtin.append_ #[32,32] 32 #[l10.v,pD.v]) gy fun qx fR=>bS [k0,k9,iu] gy fR/\bL J4 gy fR/\∀gI,ay [iu] fR gI->nx B8 fun sO=>J3 sO (ar U (i10+1)) i11 i12 i13 s2 i14 qx i15 gI) (qL [k0,k9,iu] 89 #[ae (some l),O U (l0.n:Int),l10.v] eS fun i17 iL=>∀gJ,ay [iu] iL gJ->∃J5:aJ,J5 (((l.add 0).add 3).block)/\jy gJ ((l.add 0).add 3) fun yp=>eG (au 53 1 #[.mk 0 (ah #[O U i11,O U i12,O U i13,ab s2,O U i14,l10.v,O U i17])]) gJ fun yV jO=>bS [k0,k9,iu] gJ jO/\bL J5 gJ jO/\eG (Builtin.append_ #[53,53] 53 #[yp.v,yV.v]) jO fun B7 mR=>bS [k0,k9,iu] jO mR/\bL J5 jO mR/\∃zR IG:Nat,∃z2,∃yD:Nat,((l.add 0).add 3)=⟨zR,IG,none⟩/\aF mR zR yD z2/\(IG+1)<=z2.length/\k0≠zR/\k9≠zR/\iu≠zR/\∀mw,ay [zR] mR mw->aF mw zR yD (cd z2 IG [B7.v])->nx k8 fun FV=>J2 FV (ar U (i2+1)) mw)) (ru 0 dr fun J6 ri i18 mS=>cM (decide (i18<(mz.n:Int))) (gA mz i18 mS fun i19 s4 s5 s6 KF N6 JN KG i20=>nw mS fun vB kX=>fC [k0,vB] 43 #[ae (some l),ah #[O U i19,ab s4,ab s5,ab s6,KF.v,N6.v,JN.v,KG.v,O U i20]] kX fun my=>nx ri fun JP=>J6 JP (ar U (i18+1)) my) (R (ai #[]) mS))):Cr 43 #[ae (some l),ah #[O U n_,ab qX,ab qy,ab rG,rH.v,rI.v,ou.v,mz.v,O U qz]] w R:=
 fB (an:=.d 4 (.s (.s .o (.j [0,3,4,49,50] [.s 51 (.int .i64)] (.d 2 (.s (.d 2 (.s (.s .o (.j [0,3,4,6,7,49,50,51,66,67] [.s 68 (.int .i64),.b 7 [.int .i64,.int .i64,.int .i64,.str,.int .i64,.sl,.int .i64]] .o .o)) .o)) .o)) .o)) (.s .o (.j [0,3,6,7,101,102] [.s 103 (.int .i64)] .o .o)))) (args:=[.ad l,.agg (lV [.int .i64 n_,.str qX,.str qy,.str rG,.sl rH,.sl rI,.sl ou,.sl mz,.int .i64 qz])]) h
theorem ZI(kind:Int)(R:aG)(w:av)(h:R (aj ((kind==1)||(kind==2))) w):Cr 53 #[O U kind] w R:=
 gP (args:=[.int .i64 kind]) h
theorem ZJ(s:Sl)(v1:Int)(R:aG)(w:av)(h:cI 99 #[s.v,O U v1] w fun i0 w0=>R (aj (decide (i0>=0))) w0):Cr 56 #[s.v,O U v1] w R:=
 gP (args:=[.sl s,.int .i64 v1]) h
theorem ZK(l:Sl)(R:aG)(w:av)(h:cL 121 #[l.v] w fun l0 w0=>ru 0 w0 fun J0 k1 i0 w1=>cM (decide (i0<(l0.n:Int))) (∃p0,dy l0 i0 9 p0/\jy w1 ((p0.add 2).add 4) fun l1=>cL 82 #[l1.v] w1 fun l2 w2=>∃p1,dy l0 i0 9 p1/\∃k2 k3:Nat,∃z0,∃k4:Nat,((p1.add 2).add 4)=⟨k2,k3,none⟩/\aF w2 k2 k4 z0/\(k3+1)<=z0.length/\∀w3,ay [k2] w2 w3->aF w3 k2 k4 (cd z0 k3 [l2.v])->nx k1 fun k5=>J0 k5 (ar U (i0+1)) w3) (R l0.v w1)):Cr 81 #[l.v] w R:=
 fB (an:=.d 2 (.s (.s .o (.j [3,8] [.s 9 (.int .i64)] .o .o)) .o)) (args:=[.sl l]) h
theorem SC(l:Sl)(R:aG)(w:av)(h:cL 122 #[l.v] w fun l0 w0=>ru 0 w0 fun J0 k1 i0 w1=>cM (decide (i0<(l0.n:Int))) (∃p0,dy l0 i0 6 p0/\jy w1 (p0.add 4) fun l1=>cL 82 #[l1.v] w1 fun l2 w2=>∃p1,dy l0 i0 6 p1/\∃k2 k3:Nat,∃z0,∃k4:Nat,(p1.add 4)=⟨k2,k3,none⟩/\aF w2 k2 k4 z0/\(k3+1)<=z0.length/\∀w3,ay [k2] w2 w3->aF w3 k2 k4 (cd z0 k3 [l2.v])->nx k1 fun k5=>J0 k5 (ar U (i0+1)) w3) (R l0.v w1)):Cr 82 #[l.v] w R:=
 fB (an:=.d 2 (.s (.s .o (.j [3,8] [.s 9 (.int .i64)] .o .o)) .o)) (args:=[.sl l]) h
theorem afK(l:Addr)(name:aK)(R:aG)(w:av)(h:cM (name.toList==((ao #[]).toList)) (R (O U (-1)) w) (jy w ((l.add 0).add 0) fun l0=>cI 129 #[l0.v,ab name] w fun i0 w0=>R (O U i0) w0)):Cr 88 #[ae (some l),ab name] w R:=
 gP (args:=[.ad l,.str name]) h
theorem afL(l:Addr)(source:Int)(targets:Sl)(R:aG)(w:av)(h:cM ((targets.n:Int)==0) (R (O U (-1)) w) (∃l0:Sl,∃w0,((au 32 1 #[.mk 0 (O U source)]).run aq w)=(.ok l0.v w0)/\eG (Builtin.append_ #[32,32] 32 #[l0.v,targets.v]) w0 fun l1 w1=>jy w1 ((l.add 0).add 0) fun l2=>cI 130 #[l2.v,l1.v] w1 fun i0 w2=>ru i0 w2 fun J0 k1 i1 w3=>qM (fun b0 w4=>cM b0 (jy w4 ((l.add 0).add 0) fun l3=>∃p0,dy l3 i1 5 p0/\ju w4 (p0.add 2) fun i2=>nx k1 fun k2=>J0 k2 i2 w4) (R (O U i1) w4)) fun J1=>cM (decide (i1>0)) (jy w3 ((l.add 0).add 0) fun l4=>∃p1,dy l4 i1 5 p1/\ju w3 (p1.add 0) fun i3=>cM (i3 !=1) (J1 true w3) (cB 56 #[l1.v,O U i1] w3 fun b1 w5=>J1 b1 w5)) (J1 false w3))):Cr 89 #[ae (some l),O U source,targets.v] w R:=
 fB (an:=.d 4 (.s (.j [0,7] [.s 8 (.int .i64)] (.s (.s (.j [0,7,8] [.s 41 .bool] .o .o) .o) .o) .o) .o)) (args:=[.ad l,.int .i64 source,.sl targets]) h
theorem ZL(s:Sl)(v1:Int)(R:aG)(w:av)(h:ru 0 w fun J0 k1 i0 w0=>cM (decide (i0<(s.n:Int))) (O3 s i0 w0 fun i1=>cM (v1==i1) (R (O U i0) w0) (nx k1 fun k2=>J0 k2 (ar U (i0+1)) w0)) (R (O U (-1)) w0)):Cr 99 #[s.v,O U v1] w R:=
 fB (an:=.s .o (.s (.s .o (.j [0,1,7] [.s 8 (.int .i64)] .o .o)) .o)) (args:=[.sl s,.int .i64 v1]) h
theorem afM(s:Sl)(R:aG)(w:av)(h:cM s.a.isNone (R Sl.nil.v w) (∃l0:Sl,∃w0,((au 23 0 #[]).run aq w)=(.ok l0.v w0)/\eG (Builtin.append_ #[23,23] 23 #[l0.v,s.v]) w0 fun l1 w1=>R l1.v w1)):Cr 121 #[s.v] w R:=
 gP (args:=[.sl s]) h
theorem afN(s:Sl)(R:aG)(w:av)(h:cM s.a.isNone (R Sl.nil.v w) (∃l0:Sl,∃w0,((au 62 0 #[]).run aq w)=(.ok l0.v w0)/\eG (Builtin.append_ #[62,62] 62 #[l0.v,s.v]) w0 fun l1 w1=>R l1.v w1)):Cr 122 #[s.v] w R:=
 gP (args:=[.sl s]) h
theorem afO(x:Int)(R:aG)(w:av)(h:cM (x==0) (R (O U 64) w) (∃p0,CF ⟨0,0,none⟩ ((ar .u64 ((bits .and .u64 x (ar .u64 (0-x)))*285870213051353865)).fdiv 288230376151711744) 64 1 p0/\∃i0,aB w p0 [.int .u8 i0]/\R (O U (ar U i0)) w)):Cr 40 #[.int .u64 x] w R:=
 gP (args:=[.int .u64 x]) h
end Go.Proofs.YtbkjcdocjfknfaaGreatDoor.Vc
namespace Go.Proofs
open Go.Shelf
def Tryz.vt:Go.Shelf.Ren:=⟨fun | 156=>228 | 165=>227 | 166=>202 | 169=>175 | 240=>225 | 241=>244 | 276=>241 | 277=>259 | n=>n,fun | 31=>31 | 9=>9 | 3=>3 | 4=>4 | 0=>0 | 20=>20 | 72=>243 | 76=>275 | 70=>240 | 37=>241 | 75=>274 | 127=>284 | 164=>308 | 5=>5 | 80=>252 | n=>n,fun | n=>n⟩
theorem Tryz.Iw:Go.Proofs.Lays.n156 Tryz.prog Tryz.vt:={
 mixed:=by kernel_rfl
 f156:=Tryz.func228.trans (bO some (by kernel_rfl))
 f165:=Tryz.func227.trans (bO some (by kernel_rfl))
 f166:=Tryz.func202.trans (bO some (by kernel_rfl))
 f169:=Tryz.func175.trans (bO some (by kernel_rfl))
 f240:=Tryz.func225.trans (bO some (by kernel_rfl))
 f241:=Tryz.func244.trans (bO some (by kernel_rfl))
 f276:=Tryz.func241.trans (bO some (by kernel_rfl))
 f277:=Tryz.func259.trans (bO some (by kernel_rfl))
 t0:=Tryz.underlying0
 a0:=Tryz.isAgg0
 z0:=Tryz.sizeOf0
 v0:=Tryz.zeroValue0
 t3:=Tryz.underlying3
 a3:=Tryz.isAgg3
 z3:=Tryz.sizeOf3
 v3:=Tryz.zeroValue3
 t4:=Tryz.underlying4
 a4:=Tryz.isAgg4
 z4:=Tryz.sizeOf4
 v4:=Tryz.zeroValue4
 t9:=Tryz.underlying9
 a9:=Tryz.isAgg9
 z9:=Tryz.sizeOf9
 v9:=Tryz.zeroValue9
 t20:=Tryz.underlying20
 a20:=Tryz.isAgg20
 z20:=Tryz.sizeOf20
 v20:=Tryz.zeroValue20
 t31:=Tryz.underlying31
 a31:=Tryz.isAgg31
 z31:=Tryz.sizeOf31
 v31:=Tryz.zeroValue31
 t37:=Tryz.underlying241
 a37:=Tryz.isAgg241
 z37:=Tryz.sizeOf241
 v37:=Tryz.zeroValue241
 t70:=Tryz.underlying240
 a70:=Tryz.isAgg240
 z70:=Tryz.sizeOf240
 v70:=Tryz.zeroValue240
 t72:=Tryz.underlying243
 a72:=Tryz.isAgg243
 z72:=Tryz.sizeOf243
 v72:=Tryz.zeroValue243
 t75:=Tryz.underlying274
 a75:=Tryz.isAgg274
 z75:=Tryz.sizeOf274
 v75:=Tryz.zeroValue274
 t76:=Tryz.underlying275
 a76:=Tryz.isAgg275
 z76:=Tryz.sizeOf275
 v76:=Tryz.zeroValue275
 t127:=Tryz.underlying284
 a127:=Tryz.isAgg284
 z127:=Tryz.sizeOf284
 v127:=Tryz.zeroValue284
 t164:=Tryz.underlying308
 a164:=Tryz.isAgg308
 z164:=Tryz.sizeOf308
 v164:=Tryz.zeroValue308}
theorem Tryz.mQ:Builder.Extra Tryz.prog Tryz.vt:={
 sizeBuilder:=by kernel_rfl
 liesBuilder:=by kernel_rfl
 t5:=Tryz.underlying5
 a5:=Tryz.isAgg5
 z5:=Tryz.sizeOf5
 v5:=Tryz.zeroValue5
 infoByte:=by kernel_rfl
 cellsByte:=by kernel_rfl
 sizeByte:=by kernel_rfl
 neB5:=by decide}
open Go.RowKit in
theorem Tryz.strings_Join_none (a:Option Addr) (c:Nat) (sep:ByteArray) (w:World):
 Calls Tryz.prog 228 #[.slice a 0 c,.string sep] w fun e w'=>e=.returned (.string ⟨#[]⟩)/\w'=w:=Any.strings_Join_none Tryz.Iw Tryz.mQ a c sep w
open Go.RowKit in
theorem Tryz.strings_Join (bk o c:Nat) (xs:List ByteArray) (sep:ByteArray) (w:World) (sD:∀(j:Nat) x,xs[j]? =some x->w.cell? ⟨bk,o+j,none⟩=some (.string x)) (KC:bk<w.heap.size) (hN:xs.length<=140737488355328) (mY:xs.length<=c) (eH:(Lib.join (xs.map (·.data.toList)) sep.data.toList).length<=140737488355328):
 Calls Tryz.prog 228 #[.slice (some ⟨bk,o,none⟩) xs.length c,.string sep] w fun e w'=>e=.returned (.string ⟨(Lib.join (xs.map (·.data.toList)) sep.data.toList).toArray⟩)/\Below w.heap.size w w':=Any.strings_Join Tryz.Iw Tryz.mQ bk o c xs sep w sD KC hN mY eH
def Tryz.BH:Go.Shelf.Ren:=⟨fun | 171=>206 | 243=>231 | 246=>246 | 283=>260 | 284=>261 | 285=>262 | 286=>263 | 129=>140 | 317=>276 | 318=>277 | 319=>278 | 320=>279 | 337=>295 | 338=>40 | n=>n,fun | 3=>3 | 9=>9 | 2=>2 | 4=>4 | 171=>327 | 0=>0 | 53=>42 | 37=>241 | 5=>5 | 173=>329 | 212=>347 | 51=>215 | 20=>20 | 213=>348 | 46=>150 | 232=>364 | 233=>149 | n=>n,fun | 17=>2 | 18=>5 | 19=>0 | n=>n⟩
theorem Tryz.NN:Go.Proofs.LaysM.n171 Tryz.prog Tryz.BH:={
 mixed:=by kernel_rfl
 f129:=Tryz.func140.trans (bO some (by kernel_rfl))
 f171:=Tryz.func206.trans (bO some (by kernel_rfl))
 f243:=Tryz.func231.trans (bO some (by kernel_rfl))
 f246:=Tryz.func246.trans (bO some (by kernel_rfl))
 f283:=Tryz.func260.trans (bO some (by kernel_rfl))
 f284:=Tryz.func261.trans (bO some (by kernel_rfl))
 f285:=Tryz.func262.trans (bO some (by kernel_rfl))
 f286:=Tryz.func263.trans (bO some (by kernel_rfl))
 f317:=Tryz.func276.trans (bO some (by kernel_rfl))
 f318:=Tryz.func277.trans (bO some (by kernel_rfl))
 f319:=Tryz.func278.trans (bO some (by kernel_rfl))
 f320:=Tryz.func279.trans (bO some (by kernel_rfl))
 f337:=Tryz.func295.trans (bO some (by kernel_rfl))
 f338:=Tryz.func40.trans (bO some (by kernel_rfl))
 t0:=Tryz.underlying0
 a0:=Tryz.isAgg0
 z0:=Tryz.sizeOf0
 v0:=Tryz.zeroValue0
 t2:=Tryz.underlying2
 a2:=Tryz.isAgg2
 z2:=Tryz.sizeOf2
 v2:=Tryz.zeroValue2
 t3:=Tryz.underlying3
 a3:=Tryz.isAgg3
 z3:=Tryz.sizeOf3
 v3:=Tryz.zeroValue3
 t4:=Tryz.underlying4
 a4:=Tryz.isAgg4
 z4:=Tryz.sizeOf4
 v4:=Tryz.zeroValue4
 t5:=Tryz.underlying5
 a5:=Tryz.isAgg5
 z5:=Tryz.sizeOf5
 v5:=Tryz.zeroValue5
 t9:=Tryz.underlying9
 a9:=Tryz.isAgg9
 z9:=Tryz.sizeOf9
 v9:=Tryz.zeroValue9
 t20:=Tryz.underlying20
 a20:=Tryz.isAgg20
 z20:=Tryz.sizeOf20
 v20:=Tryz.zeroValue20
 t37:=Tryz.underlying241
 a37:=Tryz.isAgg241
 z37:=Tryz.sizeOf241
 v37:=Tryz.zeroValue241
 t46:=Tryz.underlying150
 a46:=Tryz.isAgg150
 z46:=Tryz.sizeOf150
 v46:=Tryz.zeroValue150
 t51:=Tryz.underlying215
 a51:=Tryz.isAgg215
 z51:=Tryz.sizeOf215
 v51:=Tryz.zeroValue215
 t53:=Tryz.underlying42
 a53:=Tryz.isAgg42
 z53:=Tryz.sizeOf42
 v53:=Tryz.zeroValue42
 t171:=Tryz.underlying327
 a171:=Tryz.isAgg327
 z171:=Tryz.sizeOf327
 v171:=Tryz.zeroValue327
 t173:=Tryz.underlying329
 a173:=Tryz.isAgg329
 z173:=Tryz.sizeOf329
 v173:=Tryz.zeroValue329
 t212:=Tryz.underlying347
 a212:=Tryz.isAgg347
 z212:=Tryz.sizeOf347
 v212:=Tryz.zeroValue347
 t213:=Tryz.underlying348
 a213:=Tryz.isAgg348
 z213:=Tryz.sizeOf348
 t232:=Tryz.underlying364
 a232:=Tryz.isAgg364
 z232:=Tryz.sizeOf364
 v232:=Tryz.zeroValue364
 t233:=Tryz.underlying149
 a233:=Tryz.isAgg149
 z233:=Tryz.sizeOf149
 v233:=Tryz.zeroValue149
 g17:=by kernel_rfl
 g18:=by kernel_rfl
 g19:=by kernel_rfl
 i0:=by kernel_rfl
 i2:=by kernel_rfl
 i3:=by kernel_rfl
 i4:=by kernel_rfl
 i5:=by kernel_rfl
 i9:=by kernel_rfl
 i20:=by kernel_rfl
 i37:=by kernel_rfl
 i46:=by kernel_rfl
 i51:=by kernel_rfl
 i53:=by kernel_rfl
 i171:=by kernel_rfl
 i173:=by kernel_rfl
 i212:=by kernel_rfl
 i232:=by kernel_rfl
 i233:=by kernel_rfl
 m17:=by kernel_rfl
 m18:=by kernel_rfl
 m19:=by kernel_rfl}
open Go.RowKit Go.Sort Go.Lib in
theorem Tryz.strconv_Itoa (n:Int) (h0: -9223372036854775808<=n) (h1:n<=9223372036854775807) (w:World) (agZ:Lib.TabIs Tryz.prog w "internal/strconv.uint64pow10" .u64 Lib.pow10Tab):
 Calls Tryz.prog 206 #[.int .i64 n] w fun e w'=>e=.returned (.string ⟨(Lib.itoa n).toArray⟩)/\∃k os,w'=grow (w.drewN k) os:=Any.strconv_Itoa Tryz.NN n h0 h1 w agZ
def Tryz.BI:Go.Shelf.Ren:=⟨fun | 316=>237 | n=>n,fun | 9=>9 | 3=>3 | 4=>4 | 37=>241 | 0=>0 | 127=>284 | 5=>5 | n=>n,fun | n=>n⟩
theorem Tryz.NP:Go.Proofs.LaysM.n316 Tryz.prog Tryz.BI:={
 mixed:=by kernel_rfl
 f316:=Tryz.func237.trans (bO some (by kernel_rfl))
 t0:=Tryz.underlying0
 a0:=Tryz.isAgg0
 z0:=Tryz.sizeOf0
 v0:=Tryz.zeroValue0
 t3:=Tryz.underlying3
 a3:=Tryz.isAgg3
 z3:=Tryz.sizeOf3
 v3:=Tryz.zeroValue3
 t4:=Tryz.underlying4
 a4:=Tryz.isAgg4
 z4:=Tryz.sizeOf4
 v4:=Tryz.zeroValue4
 t9:=Tryz.underlying9
 a9:=Tryz.isAgg9
 z9:=Tryz.sizeOf9
 v9:=Tryz.zeroValue9
 t37:=Tryz.underlying241
 a37:=Tryz.isAgg241
 z37:=Tryz.sizeOf241
 v37:=Tryz.zeroValue241
 t127:=Tryz.underlying284
 a127:=Tryz.isAgg284
 z127:=Tryz.sizeOf284
 v127:=Tryz.zeroValue284
 t5:=Tryz.underlying5
 a5:=Tryz.isAgg5
 z5:=Tryz.sizeOf5
 v5:=Tryz.zeroValue5
 i0:=by kernel_rfl
 i3:=by kernel_rfl
 i4:=by kernel_rfl
 i5:=by kernel_rfl
 i9:=by kernel_rfl
 i37:=by kernel_rfl
 i127:=by kernel_rfl}
open Go.RowKit in
theorem Tryz.stringslite_Clone (s:ByteArray) (w:World) (V8:s.size<=281474976710656):
 Calls Tryz.prog 237 #[.string s] w fun e w'=>e=.returned (.string s)/\Below w.heap.size w w':=Any.stringslite_Clone Tryz.NP s w V8
def Tryz.BJ:Go.Shelf.Ren:=⟨fun | 174=>239 | 247=>252 | 245=>253 | 287=>269 | 279=>270 | 280=>271 | 281=>272 | 282=>273 | 321=>285 | 322=>286 | 316=>237 | 171=>206 | 205=>287 | 243=>231 | 246=>246 | 283=>260 | 284=>261 | 285=>262 | 286=>263 | 129=>140 | 317=>276 | 318=>277 | 319=>278 | 320=>279 | 337=>295 | 338=>40 | n=>n,fun | 9=>9 | 3=>3 | 2=>2 | 75=>274 | 85=>304 | 4=>4 | 167=>339 | 5=>5 | 53=>42 | 175=>340 | 46=>150 | 168=>342 | 37=>241 | 0=>0 | 210=>354 | 21=>21 | 127=>284 | 145=>363 | 143=>361 | 171=>327 | 173=>329 | 212=>347 | 51=>215 | 20=>20 | 213=>348 | 232=>364 | 233=>149 | 80=>252 | n=>n,fun | 15=>3 | 16=>4 | 17=>2 | 18=>5 | 19=>0 | n=>n⟩
theorem Tryz.D5:Go.Proofs.LaysC.n174 Tryz.prog Tryz.BJ:={
 mixed:=by kernel_rfl
 f129:=Tryz.func140.trans (bO some (by kernel_rfl))
 f171:=Tryz.func206.trans (bO some (by kernel_rfl))
 f174:=Tryz.func239.trans (bO some (by kernel_rfl))
 f205:=Tryz.func287.trans (bO some (by kernel_rfl))
 f243:=Tryz.func231.trans (bO some (by kernel_rfl))
 f245:=Tryz.func253.trans (bO some (by kernel_rfl))
 f246:=Tryz.func246.trans (bO some (by kernel_rfl))
 f247:=Tryz.func252.trans (bO some (by kernel_rfl))
 f279:=Tryz.func270.trans (bO some (by kernel_rfl))
 f280:=Tryz.func271.trans (bO some (by kernel_rfl))
 f281:=Tryz.func272.trans (bO some (by kernel_rfl))
 f282:=Tryz.func273.trans (bO some (by kernel_rfl))
 f283:=Tryz.func260.trans (bO some (by kernel_rfl))
 f284:=Tryz.func261.trans (bO some (by kernel_rfl))
 f285:=Tryz.func262.trans (bO some (by kernel_rfl))
 f286:=Tryz.func263.trans (bO some (by kernel_rfl))
 f287:=Tryz.func269.trans (bO some (by kernel_rfl))
 f316:=Tryz.func237.trans (bO some (by kernel_rfl))
 f317:=Tryz.func276.trans (bO some (by kernel_rfl))
 f318:=Tryz.func277.trans (bO some (by kernel_rfl))
 f319:=Tryz.func278.trans (bO some (by kernel_rfl))
 f320:=Tryz.func279.trans (bO some (by kernel_rfl))
 f321:=Tryz.func285.trans (bO some (by kernel_rfl))
 f322:=Tryz.func286.trans (bO some (by kernel_rfl))
 f337:=Tryz.func295.trans (bO some (by kernel_rfl))
 f338:=Tryz.func40.trans (bO some (by kernel_rfl))
 t0:=Tryz.underlying0
 a0:=Tryz.isAgg0
 z0:=Tryz.sizeOf0
 v0:=Tryz.zeroValue0
 t2:=Tryz.underlying2
 a2:=Tryz.isAgg2
 z2:=Tryz.sizeOf2
 v2:=Tryz.zeroValue2
 t3:=Tryz.underlying3
 a3:=Tryz.isAgg3
 z3:=Tryz.sizeOf3
 v3:=Tryz.zeroValue3
 t4:=Tryz.underlying4
 a4:=Tryz.isAgg4
 z4:=Tryz.sizeOf4
 v4:=Tryz.zeroValue4
 t5:=Tryz.underlying5
 a5:=Tryz.isAgg5
 z5:=Tryz.sizeOf5
 v5:=Tryz.zeroValue5
 t9:=Tryz.underlying9
 a9:=Tryz.isAgg9
 z9:=Tryz.sizeOf9
 v9:=Tryz.zeroValue9
 t20:=Tryz.underlying20
 a20:=Tryz.isAgg20
 z20:=Tryz.sizeOf20
 v20:=Tryz.zeroValue20
 t21:=Tryz.underlying21
 a21:=Tryz.isAgg21
 z21:=Tryz.sizeOf21
 v21:=Tryz.zeroValue21
 t37:=Tryz.underlying241
 a37:=Tryz.isAgg241
 z37:=Tryz.sizeOf241
 v37:=Tryz.zeroValue241
 t46:=Tryz.underlying150
 a46:=Tryz.isAgg150
 z46:=Tryz.sizeOf150
 v46:=Tryz.zeroValue150
 t51:=Tryz.underlying215
 a51:=Tryz.isAgg215
 z51:=Tryz.sizeOf215
 v51:=Tryz.zeroValue215
 t53:=Tryz.underlying42
 a53:=Tryz.isAgg42
 z53:=Tryz.sizeOf42
 v53:=Tryz.zeroValue42
 t75:=Tryz.underlying274
 a75:=Tryz.isAgg274
 z75:=Tryz.sizeOf274
 v75:=Tryz.zeroValue274
 t85:=Tryz.underlying304
 a85:=Tryz.isAgg304
 z85:=Tryz.sizeOf304
 v85:=Tryz.zeroValue304
 t127:=Tryz.underlying284
 a127:=Tryz.isAgg284
 z127:=Tryz.sizeOf284
 v127:=Tryz.zeroValue284
 t143:=Tryz.underlying361
 a143:=Tryz.isAgg361
 z143:=Tryz.sizeOf361
 v143:=Tryz.zeroValue361
 t145:=Tryz.underlying363
 a145:=Tryz.isAgg363
 z145:=Tryz.sizeOf363
 v145:=Tryz.zeroValue363
 t167:=Tryz.underlying339
 a167:=Tryz.isAgg339
 z167:=Tryz.sizeOf339
 v167:=Tryz.zeroValue339
 t168:=Tryz.underlying342
 a168:=Tryz.isAgg342
 z168:=Tryz.sizeOf342
 v168:=Tryz.zeroValue342
 t171:=Tryz.underlying327
 a171:=Tryz.isAgg327
 z171:=Tryz.sizeOf327
 v171:=Tryz.zeroValue327
 t173:=Tryz.underlying329
 a173:=Tryz.isAgg329
 z173:=Tryz.sizeOf329
 v173:=Tryz.zeroValue329
 t175:=Tryz.underlying340
 a175:=Tryz.isAgg340
 z175:=Tryz.sizeOf340
 v175:=Tryz.zeroValue340
 t210:=Tryz.underlying354
 a210:=Tryz.isAgg354
 z210:=Tryz.sizeOf354
 v210:=Tryz.zeroValue354
 t212:=Tryz.underlying347
 a212:=Tryz.isAgg347
 z212:=Tryz.sizeOf347
 v212:=Tryz.zeroValue347
 t213:=Tryz.underlying348
 a213:=Tryz.isAgg348
 z213:=Tryz.sizeOf348
 t232:=Tryz.underlying364
 a232:=Tryz.isAgg364
 z232:=Tryz.sizeOf364
 v232:=Tryz.zeroValue364
 t233:=Tryz.underlying149
 a233:=Tryz.isAgg149
 z233:=Tryz.sizeOf149
 v233:=Tryz.zeroValue149
 g15:=by kernel_rfl
 g16:=by kernel_rfl
 g17:=by kernel_rfl
 g18:=by kernel_rfl
 g19:=by kernel_rfl
 t80:=Tryz.underlying252
 a80:=Tryz.isAgg252
 z80:=Tryz.sizeOf252
 v80:=Tryz.zeroValue252
 i0:=by kernel_rfl
 i2:=by kernel_rfl
 i3:=by kernel_rfl
 i4:=by kernel_rfl
 i5:=by kernel_rfl
 i9:=by kernel_rfl
 i20:=by kernel_rfl
 i21:=by kernel_rfl
 i37:=by kernel_rfl
 i46:=by kernel_rfl
 i51:=by kernel_rfl
 i53:=by kernel_rfl
 i75:=by kernel_rfl
 i80:=by kernel_rfl
 i85:=by kernel_rfl
 i127:=by kernel_rfl
 i143:=by kernel_rfl
 i145:=by kernel_rfl
 i167:=by kernel_rfl
 i168:=by kernel_rfl
 i171:=by kernel_rfl
 i173:=by kernel_rfl
 i175:=by kernel_rfl
 i210:=by kernel_rfl
 i212:=by kernel_rfl
 i232:=by kernel_rfl
 i233:=by kernel_rfl
 m15:=by kernel_rfl
 m16:=by kernel_rfl
 m17:=by kernel_rfl
 m18:=by kernel_rfl
 m19:=by kernel_rfl
 c0:=by kernel_rfl
 c2:=by kernel_rfl
 c3:=by kernel_rfl
 c4:=by kernel_rfl
 c5:=by kernel_rfl
 c9:=by kernel_rfl
 c20:=by kernel_rfl
 c21:=by kernel_rfl
 c37:=by kernel_rfl
 c46:=by kernel_rfl
 c51:=by kernel_rfl
 c53:=by kernel_rfl
 c75:=by kernel_rfl
 c80:=by kernel_rfl
 c85:=by kernel_rfl
 c127:=by kernel_rfl
 c143:=by kernel_rfl
 c145:=by kernel_rfl
 c167:=by kernel_rfl
 c168:=by kernel_rfl
 c171:=by kernel_rfl
 c173:=by kernel_rfl
 c175:=by kernel_rfl
 c210:=by kernel_rfl
 c212:=by kernel_rfl
 c213:=by kernel_rfl
 c232:=by kernel_rfl
 c233:=by kernel_rfl}
open Go.RowKit in
theorem Tryz.strconv_ParseInt_10_at64_ok (s:ByteArray) (ag0:s.size<=9223372036854775806) (v:Int) (h:Lib.parseIntB 64 s.data.toList=.ok v) (w:World):
 Calls Tryz.prog 239 #[.string s,.int .i64 10,.int .i64 64] w fun e w'=>e=.returned (.tuple #[.int .i64 v,.nilIface])/\(w'=w∨∃t,w'=Lib.bytesWorld w 5 t):=Any.strconv_ParseInt_10_at64_ok Tryz.D5 s ag0 v h w
open Go.RowKit in
theorem Tryz.strconv_ParseInt_10_at64_range_var (s:ByteArray) (V8:s.size<=281474976710656) (h:Lib.parseIntB 64 s.data.toList=.range) (tp:TypeId) (p:Value) (w:World) (V9:w.var? Tryz.prog "strconv.ErrRange" =some #[.iface tp p]):
 Calls Tryz.prog 239 #[.string s,.int .i64 10,.int .i64 64] w fun e w'=>∃N,e=.returned (.tuple #[.int .i64 (Lib.intSat 64 s.data.toList),.iface 342 (.pointer (some ⟨N,0,none⟩))])/\w.heap.size<=N/\w'.heap[N]? =some (.cells #[.string ⟨#[80,97,114,115,101,73,110,116]⟩,.string s,.iface tp p] 354 (0,0))/\Below w.heap.size w w':=Any.strconv_ParseInt_10_at64_range_var Tryz.D5 s V8 h tp p w V9
def Tryz.D6:Go.Shelf.Ren:=⟨fun | 219=>236 | 217=>248 | 225=>249 | 224=>250 | 267=>251 | 266=>267 | 314=>268 | n=>n,fun | 9=>9 | 3=>3 | 4=>4 | 5=>5 | 46=>150 | 146=>310 | 51=>215 | n=>n,fun | 1=>1 | n=>n⟩
theorem Tryz.Rl:Go.Proofs.Lays.n219 Tryz.prog Tryz.D6:={
 mixed:=by kernel_rfl
 f217:=Tryz.func248.trans (bO some (by kernel_rfl))
 f219:=Tryz.func236.trans (bO some (by kernel_rfl))
 f224:=Tryz.func250.trans (bO some (by kernel_rfl))
 f225:=Tryz.func249.trans (bO some (by kernel_rfl))
 f266:=Tryz.func267.trans (bO some (by kernel_rfl))
 f267:=Tryz.func251.trans (bO some (by kernel_rfl))
 f314:=Tryz.func268.trans (bO some (by kernel_rfl))
 t3:=Tryz.underlying3
 a3:=Tryz.isAgg3
 z3:=Tryz.sizeOf3
 v3:=Tryz.zeroValue3
 t4:=Tryz.underlying4
 a4:=Tryz.isAgg4
 z4:=Tryz.sizeOf4
 v4:=Tryz.zeroValue4
 t5:=Tryz.underlying5
 a5:=Tryz.isAgg5
 z5:=Tryz.sizeOf5
 v5:=Tryz.zeroValue5
 t9:=Tryz.underlying9
 a9:=Tryz.isAgg9
 z9:=Tryz.sizeOf9
 v9:=Tryz.zeroValue9
 t46:=Tryz.underlying150
 a46:=Tryz.isAgg150
 z46:=Tryz.sizeOf150
 v46:=Tryz.zeroValue150
 t51:=Tryz.underlying215
 a51:=Tryz.isAgg215
 z51:=Tryz.sizeOf215
 v51:=Tryz.zeroValue215
 t146:=Tryz.underlying310
 a146:=Tryz.isAgg310
 z146:=Tryz.sizeOf310
 v146:=Tryz.zeroValue310
 g1:=by kernel_rfl}
open Go.RowKit Go.Lib in
theorem Tryz.stringslite_Index_one (s:ByteArray) (c:UInt8) (w:World):
 Calls Tryz.prog 236 #[.string s,.string ⟨#[c]⟩] w fun e w'=>e=.returned (.int .i64 (Lib.indexByte s.data.toList c))/\w'=w:=Any.stringslite_Index_one Tryz.Rl s c w
def Tryz.vu:Go.Shelf.Ren:=⟨fun | 105=>203 | 212=>226 | 99=>189 | 165=>227 | 166=>202 | 170=>211 | 169=>175 | 263=>242 | 264=>243 | 206=>215 | 240=>225 | 241=>244 | 276=>241 | 277=>259 | n=>n,fun | 9=>9 | 3=>3 | 4=>4 | 20=>20 | 0=>0 | 46=>150 | 109=>295 | 5=>5 | 72=>243 | 76=>275 | 51=>215 | 146=>310 | 53=>42 | 148=>312 | 70=>240 | 37=>241 | 75=>274 | 127=>284 | 164=>308 | 80=>252 | n=>n,fun | n=>n⟩
theorem Tryz.Rm:Go.Proofs.Lays.n105 Tryz.prog Tryz.vu:={
 mixed:=by kernel_rfl
 f99:=Tryz.func189.trans (bO some (by kernel_rfl))
 f105:=Tryz.func203.trans (bO some (by kernel_rfl))
 f165:=Tryz.func227.trans (bO some (by kernel_rfl))
 f166:=Tryz.func202.trans (bO some (by kernel_rfl))
 f169:=Tryz.func175.trans (bO some (by kernel_rfl))
 f170:=Tryz.func211.trans (bO some (by kernel_rfl))
 f206:=Tryz.func215.trans (bO some (by kernel_rfl))
 f212:=Tryz.func226.trans (bO some (by kernel_rfl))
 f240:=Tryz.func225.trans (bO some (by kernel_rfl))
 f241:=Tryz.func244.trans (bO some (by kernel_rfl))
 f263:=Tryz.func242.trans (bO some (by kernel_rfl))
 f264:=Tryz.func243.trans (bO some (by kernel_rfl))
 f276:=Tryz.func241.trans (bO some (by kernel_rfl))
 f277:=Tryz.func259.trans (bO some (by kernel_rfl))
 t0:=Tryz.underlying0
 a0:=Tryz.isAgg0
 z0:=Tryz.sizeOf0
 v0:=Tryz.zeroValue0
 t3:=Tryz.underlying3
 a3:=Tryz.isAgg3
 z3:=Tryz.sizeOf3
 v3:=Tryz.zeroValue3
 t4:=Tryz.underlying4
 a4:=Tryz.isAgg4
 z4:=Tryz.sizeOf4
 v4:=Tryz.zeroValue4
 t5:=Tryz.underlying5
 a5:=Tryz.isAgg5
 z5:=Tryz.sizeOf5
 v5:=Tryz.zeroValue5
 t9:=Tryz.underlying9
 a9:=Tryz.isAgg9
 z9:=Tryz.sizeOf9
 v9:=Tryz.zeroValue9
 t20:=Tryz.underlying20
 a20:=Tryz.isAgg20
 z20:=Tryz.sizeOf20
 v20:=Tryz.zeroValue20
 t37:=Tryz.underlying241
 a37:=Tryz.isAgg241
 z37:=Tryz.sizeOf241
 v37:=Tryz.zeroValue241
 t46:=Tryz.underlying150
 a46:=Tryz.isAgg150
 z46:=Tryz.sizeOf150
 v46:=Tryz.zeroValue150
 t51:=Tryz.underlying215
 a51:=Tryz.isAgg215
 z51:=Tryz.sizeOf215
 v51:=Tryz.zeroValue215
 t53:=Tryz.underlying42
 a53:=Tryz.isAgg42
 z53:=Tryz.sizeOf42
 v53:=Tryz.zeroValue42
 t70:=Tryz.underlying240
 a70:=Tryz.isAgg240
 z70:=Tryz.sizeOf240
 v70:=Tryz.zeroValue240
 t72:=Tryz.underlying243
 a72:=Tryz.isAgg243
 z72:=Tryz.sizeOf243
 v72:=Tryz.zeroValue243
 t75:=Tryz.underlying274
 a75:=Tryz.isAgg274
 z75:=Tryz.sizeOf274
 v75:=Tryz.zeroValue274
 t76:=Tryz.underlying275
 a76:=Tryz.isAgg275
 z76:=Tryz.sizeOf275
 v76:=Tryz.zeroValue275
 t109:=Tryz.underlying295
 a109:=Tryz.isAgg295
 z109:=Tryz.sizeOf295
 v109:=Tryz.zeroValue295
 t127:=Tryz.underlying284
 a127:=Tryz.isAgg284
 z127:=Tryz.sizeOf284
 v127:=Tryz.zeroValue284
 t146:=Tryz.underlying310
 a146:=Tryz.isAgg310
 z146:=Tryz.sizeOf310
 v146:=Tryz.zeroValue310
 t148:=Tryz.underlying312
 a148:=Tryz.isAgg312
 z148:=Tryz.sizeOf312
 v148:=Tryz.zeroValue312
 t164:=Tryz.underlying308
 a164:=Tryz.isAgg308
 z164:=Tryz.sizeOf308
 v164:=Tryz.zeroValue308}
theorem Tryz.tX:Builder.Extra Tryz.prog Tryz.vu:={
 sizeBuilder:=by kernel_rfl
 liesBuilder:=by kernel_rfl
 t5:=Tryz.underlying5
 a5:=Tryz.isAgg5
 z5:=Tryz.sizeOf5
 v5:=Tryz.zeroValue5
 infoByte:=by kernel_rfl
 cellsByte:=by kernel_rfl
 sizeByte:=by kernel_rfl
 neB5:=by decide}
open Go.RowKit Go.Lib in
theorem Tryz.strings_Repeat (s:ByteArray) (c:Nat) (w:World) (hc:c<=9223372036854775807) (eH:s.size*c<=140737488355328):
 Calls Tryz.prog 203 #[.string s,.int .i64 c] w fun e w'=>e=.returned (.string ⟨(Lib.repeatL s.data.toList c).toArray⟩)/\Below w.heap.size w w':=Any.strings_Repeat Tryz.Rm Tryz.tX s c w hc eH
def Tryz.yT:Go.Shelf.Ren:=⟨fun | 15=>48 | n=>n,fun | 22=>32 | 3=>3 | 4=>4 | n=>n,fun | n=>n⟩
theorem Tryz.uS:Go.Proofs.Lays2.n15 Tryz.prog Tryz.yT:={
 mixed:=by kernel_rfl
 f15:=Tryz.func48.trans (bO some (by kernel_rfl))
 t3:=Tryz.underlying3
 a3:=Tryz.isAgg3
 z3:=Tryz.sizeOf3
 v3:=Tryz.zeroValue3
 t4:=Tryz.underlying4
 a4:=Tryz.isAgg4
 z4:=Tryz.sizeOf4
 v4:=Tryz.zeroValue4
 t22:=Tryz.underlying32
 a22:=Tryz.isAgg32
 z22:=Tryz.sizeOf32
 v22:=Tryz.zeroValue32
 i3:=by kernel_rfl}
open Go.RowKit Go.Lib in
theorem Tryz.slices_Clone_int (b off n c:Nat) (zs:List Int) (w:World) (hz:n<=zs.length) (pE:n*8<=140737488355328) (hc:∀j,j<zs.length->w.cell? ⟨b,off+j,none⟩=some (.int .i64 (zs.getD j 0))):
 Calls Tryz.prog 48 #[.slice (some ⟨b,off,none⟩) n c] w fun e w'=>∃v',e=.returned v'/\w'.ownsRow w.heap.size 3 1 v' n ((zs.take n).map (Value.int .i64))/\v'≠.slice none 0 0/\Below w.heap.size w w':=Any.slices_Clone_int Tryz.uS b off n c zs w hz pE hc
open Go.RowKit Go.Lib in
theorem Tryz.slices_Clone_int_nil (n c:Nat) (w:World):
 Calls Tryz.prog 48 #[.slice none n c] w fun e w'=>e=.returned (.slice none 0 0)/\w'=w:=Any.slices_Clone_int_nil Tryz.uS n c w
open Go.RowKit Go.Lib in
theorem Tryz.slices_Clone_int_zero (a:Addr) (c:Nat) (w:World):
 Calls Tryz.prog 48 #[.slice (some a) 0 c] w fun e w'=>∃v',e=.returned v'/\w'.ownsRow w.heap.size 3 1 v' 0 []/\v'≠.slice none 0 0/\Below w.heap.size w w':=Any.slices_Clone_int_zero Tryz.uS a c w
end Go.Proofs
namespace Go.Proofs.YtbkjcdocjfknfaaGreatDoor.Con
open Go.Value renaming int->O,string->ab,pointer->ae,agg->ah,tuple->ai,bool->aj
open Go.IntKind renaming i64->U,wrap->ar
open Go.Ending renaming returned->ak
open _root_.ByteArray renaming mk->ao
open _root_.Go.Proofs.Tryz renaming prog->aq
open Go.Instr renaming buildSlice->au
open Go renaming World->av,Value->aw,Calls->az
open Go.Kt renaming Only->ay,SliceF->aA,Cells->aB,OnlyP->aD,Blk->aF
open Go Go.RowKit Go.Kt Go.Kt.V Go.Proofs.YtbkjcdocjfknfaaGreatDoor.Vc
set_option linter.unusedSimpArgs false
set_option linter.unusedVariables false
set_option maxHeartbeats 4000000
theorem ret{P:Program}{f:FuncId}{a:Array aw}{w:av}{r:aw}{Q:av->Prop}(h:az P f a w fun e w'=>∃v,e=ak v/\v=r/\Q w'):az P f a w fun e w'=>e=ak r/\Q w':=
 h.mono (by rintro e w' ⟨v,rfl,rfl,hq⟩;exact⟨rfl,hq⟩)
theorem Blk.dT{w:av}{b:Nat}{t:TypeId}{cs:aI}(h:aF w b t cs)(j:Nat){v:aw}(hv:cs[j]? =some v):aB w ((⟨b,0,none⟩:Addr).add j) [v]:=by
 rw[eU,bJ];exact h.cells j [v] fun k u hk=>by
  cases k with
  | zero=>simp only[ck,aX]at hk;subst hk;exact hv
  | succ k=>simp at hk
def oL(c:UInt8):Bool:=(65<=c.toNat&&c.toNat<=90)||(97<=c.toNat&&c.toNat<=122)||c.toNat==95
def eo(c:UInt8):Bool:=48<=c.toNat&&c.toNat<=57
def gj(c:UInt8):Bool:=oL c||eo c
def AH(c:UInt8):Bool:=[9,10,13,32].contains c
theorem E9:∀n:Fin 256,(((decide (97<=(bits .or .u8 (n.val:Int) 32)))&&(decide ((bits .or .u8 (n.val:Int) 32)<=122)))||((n.val:Int)==95))=((65<=n.val&&n.val<=90)||(97<=n.val&&n.val<=122)||n.val==95):=by decide+kernel
theorem xp(w:av)(c:UInt8):az aq 192 #[.int .u8 (c.toNat:Int)] w fun e w'=>e=ak (aj (oL c))/\ay [] w w':=by
 refine ret (aey _ _ _ ?_);exact⟨by rw[E9 ⟨c.toNat,c.toNat_lt⟩];rfl,Only.refl _ _⟩
theorem GW(w:av)(c:UInt8):az aq 194 #[.int .u8 (c.toNat:Int)] w fun e w'=>e=ak (aj (eo c))/\ay [] w w':=by
 refine ret (aeB _ _ _ ?_);refine⟨?_,Only.refl _ _⟩;congr 1;rw[bT];simp only[eo,aR,bW];omega
theorem LX(w:av)(c:UInt8):az aq 238 #[.int .u8 (c.toNat:Int)] w fun e w'=>e=ak (aj (eo c))/\ay [] w w':=by
 refine ret (v2w _ _ _ ?_);refine⟨?_,Only.refl _ _⟩;have h:∀n:Fin 256,decide ((ar .u8 ((n.val:Int)-48))<10)=(decide (48<=n.val)&&decide (n.val<=57)):=by decide+kernel
 rw[h ⟨c.toNat,c.toNat_lt⟩];rfl
theorem LY{w:av}{F:aJ}{s:Sl}{l:aH}(h:aA ij 1 w F s l)(c:UInt8):
  az aq 235 #[Sl.v s,.int .u8 (c.toNat:Int)] w fun e w'=>∃i:Int,e=ak (O U i)/\decide (i>=0)=l.contains c/\ay [] w w':=by
 refine(Y3 s _ (fun v w'=>∃i:Int,v=O U i/\decide (i>=0)=l.contains c/\ay [] w w') w ?_).mono (by
  rintro e w' ⟨v,rfl,i,rfl,h⟩;exact⟨i,rfl,h⟩)
 have eH:=h.len;have pE:=h.big;have mY:=h.cap;refine⟨fun nv i w'=>∃n:Nat,n<=l.length/\i=(n:Int)/\nv=l.length-n/\(∀x,x∈l.take n->x≠c)/\w'=w,l.length,⟨0,bp _,rfl,rfl,by simp,rfl⟩,?_⟩;rintro nv _ _ ⟨n,hn,rfl,rfl,hp,rfl⟩;refine⟨fun hc=>?_,fun hc=>?_⟩
 ·have bQ:(n:Int)<s.n:=aP hc;obtain⟨ad,x,cs,g1,g2,g3,g4,g5,g6⟩:=h.get (bm n) bQ;rw[aZ]at g2;unfold ij fi at g6;subst g6;refine⟨ad,g1,_,g5,fun he=>⟨_,rfl,?_,Only.refl _ _⟩,fun he=>⟨l.length-(n+1),by omega,n+1,by omega,by rw[fQ (by omega) (by omega)];rfl,rfl,?_,rfl⟩⟩
  ·have he:c=x:=OY.1 (by have:=aP he;omega);rw[bI (by omega)];symm;rw[nq,he];exact bG g2
  ·intro y hy;rw[bH,g2]at hy;simp only[lM,cr,aN]at hy;rcases hy with hy | rfl
   ·exact hp y hy
   ·rintro rfl;simp at he
 ·have sP:¬((n:Int)<s.n):=aU hc;rw[bA (by omega)]at hp;refine⟨_,rfl,?_,Only.refl _ _⟩;rw[bq (by omega)];symm;rw[dL];intro hh;exact hp c (nq.1 hh) rfl
theorem C0{w:av}{F:aJ}{s:Sl}{l:aH}(h:aA ij 1 w F s l)(c:UInt8):
  az aq 214 #[Sl.v s,.int .u8 (c.toNat:Int)] w fun e w'=>e=ak (aj (l.contains c))/\ay [] w w':=by
 refine ret (Y2 _ _ _ _ ?_);refine(LY h c).mono ?_;rintro _ w1 ⟨i,rfl,hi,hO⟩;exact⟨i,rfl,by rw[hi],hO⟩
theorem C1{w:av}{F:aJ}{s:Sl}{l:aH}(h:aA ij 1 w F s l)(c:UInt8):
  az aq 188 #[.int .u8 (c.toNat:Int),Sl.v s] w fun e w'=>e=ak (aj (l.contains c))/\ay [] w w':=by
 refine ret (aet _ _ _ _ ?_);refine(C0 h c).mono ?_;rintro _ w1 ⟨rfl,hO⟩;exact⟨_,rfl,rfl,hO⟩
def im:Rp (aH):=fun _ _ l cs=>cs=[ab (T l)]
theorem cG:im.Ok where
 keep h _:=h
 inHeap h:=h
 mono h _:=h
 one:=by
  rintro w F x cs h v hv;unfold im at h;subst h;simp only[aN]at hv;subst hv;rfl
theorem L0{w:av}{F:aJ}{s:Sl}{l:List (aH)}(h:aA im 1 w F s l)(c:aH):
  az aq 197 #[Sl.v s,ab (T c)] w fun e w'=>∃i:Int,e=ak (O U i)/\decide (i>=0)=l.contains c/\ay [] w w':=by
 refine(Ss s _ (fun v w'=>∃i:Int,v=O U i/\decide (i>=0)=l.contains c/\ay [] w w') w ?_).mono (by
  rintro e w' ⟨v,rfl,i,rfl,h⟩;exact⟨i,rfl,h⟩)
 have eH:=h.len;have pE:=h.big;have mY:=h.cap;refine⟨fun nv i w'=>∃n:Nat,n<=l.length/\i=(n:Int)/\nv=l.length-n/\(∀x,x∈l.take n->x≠c)/\w'=w,l.length,⟨0,bp _,rfl,rfl,by simp,rfl⟩,?_⟩;rintro nv _ _ ⟨n,hn,rfl,rfl,hp,rfl⟩;refine⟨fun hc=>?_,fun hc=>?_⟩
 ·have bQ:(n:Int)<s.n:=aP hc;obtain⟨ad,x,cs,g1,g2,g3,g4,g5,g6⟩:=h.get (bm n) bQ;rw[aZ]at g2;unfold im at g6;subst g6;refine⟨ad,g1,_,g5,?_⟩;dsimp only;rw[kH];refine⟨fun he=>⟨_,rfl,?_,Only.refl _ _⟩,fun he=>⟨l.length-(n+1),by omega,n+1,by omega,by rw[fQ (by omega) (by omega)];rfl,rfl,?_,rfl⟩⟩
  ·have he:c=x:=aP he;rw[bI (by omega)];symm;rw[nq,he];exact bG g2
  ·intro y hy;rw[bH,g2]at hy;simp only[lM,cr,aN]at hy;rcases hy with hy | rfl
   ·exact hp y hy
   ·rintro rfl;simp at he
 ·have sP:¬((n:Int)<s.n):=aU hc;rw[bA (by omega)]at hp;refine⟨_,rfl,?_,Only.refl _ _⟩;rw[bq (by omega)];symm;rw[dL];intro hh;exact hp c (nq.1 hh) rfl
theorem pX{w:av}{F:aJ}{s:Sl}{l:List (aH)}(h:aA im 1 w F s l)(c:aH):
  az aq 218 #[Sl.v s,ab (T c)] w fun e w'=>e=ak (aj (l.contains c))/\ay [] w w':=by
 refine ret (Y6 _ _ _ _ ?_);refine(L0 h c).mono ?_;rintro _ w1 ⟨i,rfl,hi,hO⟩;exact⟨i,rfl,by rw[hi],hO⟩
abbrev Qj(w:av)(b:Nat)(t:TypeId)(l:aH)(i:Nat)(r:aI):Prop:=aF w b t (ab (T l)::O U (i:Int)::r)
theorem SD{w:av}{b:Nat}{t:TypeId}{l:aH}{i:Nat}{r:aI}(h:Qj w b t l i r):
  az aq 153 #[ae (some ⟨b,0,none⟩)] w fun e w'=>e=ak (aj (decide (l.length<=i)))/\ay [] w w':=by
 refine ret (aes _ _ _ ?_);refine⟨i,Blk.dT h 1 rfl,T l,Blk.dT h 0 rfl,fun w0 hO=>⟨?_,hO⟩⟩;rw[de];congr 1;rw[gw];omega
theorem xq{w:av}{b:Nat}{t:TypeId}{l:aH}{i:Nat}{r:aI}(h:Qj w b t l i r)(hi:i<=l.length):
  az aq 190 #[ae (some ⟨b,0,none⟩)] w fun e w'=>e=ak (ab (T (l.drop i)))/\ay [] w w':=by
 refine ret (aeu _ _ _ ?_);refine⟨T l,Blk.dT h 0 rfl,i,Blk.dT h 1 rfl,i,⟨rfl,by rw[de];exact hi⟩,fun w0 hO=>⟨?_,hO⟩⟩;rw[wJ,de,bA (by rw[cy];exact aV _)]
theorem rS{p:UInt8->Bool}:∀{l:aH} {n:Nat},n<=l.length->(∀x,x∈l.take n->p x=true)->(∀x,l[n]? =some x->p x=false)->l.takeWhile p=l.take n
 | [],n,_,_,_=>by simp
 | c::r,0,_,_,h=>by
  have:=h c rfl;simp[this]
 | c::r,n+1,hn,h1,h2=>by
  have hc:=h1 c (by simp);rw[dF,if_pos hc,ec,rS (n:=n) (by simpa using hn) (fun x hx=>h1 x (by simp[hx])) (fun x hx=>h2 x (by simpa using hx))]
theorem L1{w:av}{b:Nat}{t:TypeId}{l:aH}{i:Nat}{r:aI}(h:Qj w b t l i r)(hi:i<=l.length)(hl:l.length<9223372036854775807):
  az aq 217 #[ae (some ⟨b,0,none⟩)] w fun e w'=>e=ak (ab (T ((l.drop i).takeWhile gj)))/\ay [] w w':=by
 refine ret (aeA _ _ _ ?_);refine(xq h hi).mono ?_;rintro _ w0 ⟨rfl,cE⟩;have hlr:(l.drop i).length<=l.length:=by rw[cy];omega
 generalize l.drop i=m at*
 refine⟨T m,rfl,fun nv j w'=>∃n:Nat,n<=m.length/\j=(n:Int)/\nv=m.length-n/\(∀x,x∈m.take n->gj x=true)/\ay [] w w',m.length,⟨0,bp _,rfl,rfl,by simp,cE⟩,?_⟩;rintro nv _ w1 ⟨n,hn,rfl,rfl,hp,cA⟩;rw[de];refine⟨fun b w'=>(b=true->∃x,m[n]? =some x/\gj x=true)/\(b=false->∀x,m[n]? =some x->gj x=false)/\ay [] w w',?_,fun hc=>?_,fun hc=>⟨fun e=>(by cases e),fun _ x hx=>?_,cA⟩⟩
 ·rintro b w2 ⟨h1,h2,cR⟩;refine⟨fun hb=>?_,fun hb=>⟨n,⟨rfl,hn⟩,?_,cR⟩⟩
  ·obtain⟨x,hx,hw⟩:=h1 hb;have bQ:=(aY.1 hx).1;refine⟨m.length-(n+1),by omega,n+1,by omega,by rw[fQ (by omega) (by omega)];rfl,rfl,fun y hy=>?_,cR⟩;rw[bH,hx]at hy;simp only[lM,cr,aN]at hy;rcases hy with hy | rfl
   ·exact hp y hy
   ·exact hw
  ·rw[wJ,iJ,vX,rS hn hp (h2 hb)]
 ·have bQ:(n:Int)<m.length:=aP hc;have hx:m[n]? =some (m[n]'(by omega)):=bB (by omega);generalize m[n]'(by omega)=x at hx;have hg:(T m)[Int.toNat (n:Int)]? =some x:=by rw[vd,aZ,hx]
  refine⟨x,⟨bm n,hg⟩,(xp w1 x).mono ?_⟩;rintro _ w3 ⟨rfl,dl⟩;refine⟨_,rfl,fun hb=>⟨fun _=>⟨x,hx,by unfold gj;rw[hb];rfl⟩,fun e=>(by cases e),cA.cp dl⟩,fun hb=>⟨x,⟨bm n,hg⟩,(GW w3 x).mono ?_⟩⟩;rintro _ w4 ⟨rfl,dA⟩;refine⟨_,rfl,fun hd=>⟨x,hx,by unfold gj;rw[hd,Gf]⟩,fun hd y hy=>?_,cA.cp (dl.cp dA)⟩;rw[hx]at hy;injection hy with hy;subst hy;unfold gj;rw[hb,hd];rfl
 ·have sP:¬(n:Int)<m.length:=aU hc;have:=(aY.1 hx).1;omega
theorem C2(w:av)(l p:aH)(hl:l.length<9223372036854775807)(hp:p.length<9223372036854775807):az aq 189 #[ab (T l),ab (T p)] w fun e w'=>e=ak (aj (decide (l.take p.length=p)))/\ay [] w w':=by
 refine ret (Y4 _ _ _ _ ?_);refine(ret (aev (T l) (T p) (fun v w'=>v=aj (decide (l.take p.length=p))/\ay [] w w') w ?_)).mono ?_
 ·rw[de,de];refine⟨p.length,fun h=>⟨rfl,by have:=aP h;omega⟩,?_,Only.refl _ _⟩;rw[wJ,kH,iJ,vX];congr 1;rw[bT];simp only[aR,bW];constructor
  ·exact fun h=>h.2
  ·intro h;refine⟨?_,h⟩;have:=bO List.length h;rw[cO]at this;omega
 ·rintro _ w1 ⟨rfl,hO⟩;exact⟨_,rfl,rfl,hO⟩
theorem pc:∀(l:aH) (c:UInt8),Lib.indexByte l c=if c∈l then((l.takeWhile (· !=c)).length:Int)else -1
 | [],c=>by simp[Lib.indexByte]
 | b::l,c=>by
  rw[Lib.indexByte,pc l c];by_cases hbc:b=c
  ·subst hbc;simp
  ·by_cases hm:c∈l
   ·have h1:(b==c)=false:=by simpa using hbc
    have h2:(b !=c)=true:=by simpa using hbc
    have h3:c∈b::l:=by simp[hm]
    rw[h1,if_pos hm,if_pos h3,dF,if_pos h2];simp
   ·have h1:(b==c)=false:=by simpa using hbc
    have h3:¬c∈b::l:=by simp[hm];exact fun e=>hbc e.symm
    rw[h1,if_neg hm,if_neg h3];simp
theorem xr{c:UInt8}:∀{l:aH},¬c∈l->l.takeWhile (· !=c)=l
 | [],_=>rfl
 | b::l,h=>by
  simp only[aQ,not_or]at h;rw[dF,if_pos (by simpa using fun e=>h.1 e.symm),xr h.2]
theorem oM{p:UInt8->Bool}:∀{l:aH},l.takeWhile p=l.take (l.takeWhile p).length
 | []=>rfl
 | b::l=>by
  rw[dF];split
  ·rw[bf,ec,<-oM]
  ·rfl
theorem ZM(w:av)(l:aH)(c:UInt8)(hl:l.length<9223372036854775807):az aq 191 #[ab (T l),ab (T [c])] w fun e w'=>∃(s:aK) (b:Bool),e=ak (ai #[ab (T (l.takeWhile (· !=c))),ab s,aj b])/\ay [] w w':=by
 refine(Y5 _ _ (fun v w'=>∃(s:aK) (b:Bool),v=(ai #[ab (T (l.takeWhile (· !=c))),ab s,aj b])/\ay [] w w') w ?_).mono (by
  rintro e w' ⟨v,rfl,s,b,rfl,h⟩;exact⟨s,b,rfl,h⟩)
 refine(aew (T l) (T [c]) (fun v w'=>∃(s:aK) (b:Bool),v=(ai #[ab (T (l.takeWhile (· !=c))),ab s,aj b])/\ay [] w w') w ?_).mono ?_
 ·refine(Tryz.stringslite_Index_one (T l) c w).mono ?_;rintro _ _ ⟨rfl,rfl⟩;have e:(T l).data.toList=l:=rfl;rw[e,pc];refine⟨_,rfl,fun h=>?_,fun h=>?_⟩
  ·by_cases hm:c∈l
   ·rw[if_pos hm];have bQ:(l.takeWhile (· !=c)).length<l.length:=by
     have h1:=List.takeWhile_append_dropWhile (p:=(· !=c)) (l:=l);have h2:=bO List.length h1;rw[aO]at h2;have h3:l.dropWhile (· !=c)≠[]:=by
      intro h3;rw[h3,bN]at h1;rw[<-h1]at hm;have:=List.all_takeWhile (p:=(· !=c)) (l:=l);rw[eb]at this;have:=this c (by rw[h1]at hm⊢;exact hm);simp at this
     have h4:=pJ.2 h3;omega
    have hk:(T l).extract 0 (l.takeWhile (· !=c)).length=T (l.takeWhile (· !=c)):=by
     rw[wJ,iJ,vX,<-oM]
    refine⟨(l.takeWhile (· !=c)).length,⟨rfl,by rw[de];omega⟩,(l.takeWhile (· !=c)).length+1,⟨by rw[de,fQ (by simp;omega) (by simp;omega)];rfl,by rw[de];omega⟩,fun w1 hO=>⟨(T l).extract ((l.takeWhile (· !=c)).length+1) (T l).size,true,?_,hO⟩⟩;rw[hk]
   ·rw[if_neg hm]at h;exact absurd (aP h) (by omega)
  ·by_cases hm:c∈l
   ·rw[if_pos hm]at h;exact absurd (aU h) (by omega)
   ·rw[xr hm];exact⟨_,_,rfl,Only.refl _ _⟩
 ·rintro _ w1 ⟨v,rfl,s,b,rfl,hO⟩;exact⟨_,s,b,rfl,s,b,rfl,hO⟩
theorem uB(w:av)(l:aH){n:Nat}{parts:Array (Nat×aw)}(hp:parts=(((l.map fi).zipIdx 0).map fun x=>(x.2,x.1)).toArray)(hn:l.length=n)(h0:0<n)(wx:n*1<=16777216):
  ∃s w',(au 241 n parts).run aq w=.ok (Sl.v s) w'/\Own ij 1 5 w.heap.size w' (fun _=>True) s l/\ay [] w w'/\s.a=some ⟨w.heap.size,0,none⟩:=by
 obtain⟨s,w',h1,h2,h3,h4,_⟩:=gV (P:=aq) (t:=241) (e:=5) (i:=Tryz.t5) (w:=w) (F:=fun _=>True) (r:=ij) (size:=1) (vs:=l.map fi) (xs:=l) (len:=n) (by kernel_rfl) (by kernel_rfl) rfl rfl (by decide) hp (by rw[bC];exact hn) h0 wx sU (by
  clear hp hn
  induction l with
  | nil=>exact trivial
  | cons a l ih=>exact⟨⟨rfl,rfl⟩,ih⟩)
 exact⟨s,w',h1,h2,h3,h4⟩
theorem Qk(l:List (aH))(w:av):kY im 1 w (fun _=>True) l ((l.map fun x=>Value.string (T x)).map fun v=>v.cells.toList):=by
 induction l with
 | nil=>exact trivial
 | cons a l ih=>exact⟨⟨rfl,rfl⟩,ih⟩
theorem lZ(w:av)(l:List (aH)){n:Nat}{parts:Array (Nat×aw)}(hp:parts=(((l.map fun x=>Value.string (T x)).zipIdx 0).map fun x=>(x.2,x.1)).toArray)(hn:l.length=n)(h0:0<n)(wx:n*1<=16777216):
  ∃s w',(au 31 n parts).run aq w=.ok (Sl.v s) w'/\Own im 1 9 w.heap.size w' (fun _=>True) s l/\ay [] w w':=by
 obtain⟨s,w',h1,h2,h3,_⟩:=gV (P:=aq) (t:=31) (e:=9) (i:=Tryz.t9) (w:=w) (F:=fun _=>True) (r:=im) (size:=1) (vs:=l.map fun x=>Value.string (T x)) (xs:=l) (len:=n) (by kernel_rfl) (by kernel_rfl) rfl rfl (by decide) hp (by rw[bC];exact hn) h0 wx cG (Qk l w);exact⟨s,w',h1,h2,h3⟩
theorem L2{α:Type}{r:Rp α}{size:Nat}{e:TypeId}{B:Nat}{w:av}{F:aJ}{s:Sl}{xs:List α}(hr:r.Ok)(hf:∀w F G x cs,r w F x cs->r w G x cs)(h:Own r size e B w F s xs):aA r size w (fun k=>B<=k/\s.a=some ⟨k,0,none⟩) s xs:=by
 rcases h with⟨rfl,rfl⟩ | ⟨g,css,tail,a1,a2,a4,a5,a6,a7,a9,a8⟩
 ·exact SliceF.nil _ _ _ _
 ·have h':Own r size e B w (fun _=>False) s xs:=.inr ⟨g,css,tail,a1,a2,a4,a5,a6,a7,a9,ff.imp (fun _ _ h=>⟨h.1,hf _ _ _ _ _ h.2⟩) a8⟩;exact(h'.slice hr).mono hr fun k hk=>hk.elim False.elim id
theorem zj{e:TypeId}{B:Nat}{w:av}{F:aJ}{s:Sl}{xs:aH}(h:Own ij 1 e B w F s xs):aA ij 1 w (fun k=>B<=k/\s.a=some ⟨k,0,none⟩) s xs:=L2 sU (fun _ _ _ _ _ h=>h) h
theorem tu{e:TypeId}{B:Nat}{w:av}{F:aJ}{s:Sl}{xs:List (aH)}(h:Own im 1 e B w F s xs):aA im 1 w (fun k=>B<=k/\s.a=some ⟨k,0,none⟩) s xs:=L2 cG (fun _ _ _ _ _ h=>h) h
def lh:Bool->aH->Nat
 | _,[]=>0
 | true,c::r=>1+lh (c !=10) r
 | false,c::r=>if AH c then 1+lh false r else if c==47&&r.head? ==some 47 then 1+lh true r else 0
theorem AI:∀{b:Bool} {l:aH},lh b l<=l.length
 | b,[]=>by simp[lh]
 | true,c::r=>by
  rw[lh,bf];have:=AI (b:=c !=10) (l:=r);omega
 | false,c::r=>by
  rw[lh,bf];have h1:=AI (b:=false) (l:=r);have h2:=AI (b:=true) (l:=r);split
  ·omega
  ·split<;>omega
theorem C3:∀(l:aH),lh true l=(l.takeWhile (· !=10)).length+lh false (l.drop (l.takeWhile (· !=10)).length)
 | []=>rfl
 | c::r=>by
  by_cases hc:c=10
  ·subst hc;rw[lh];simp[lh,AH]
  ·have h:(c !=10)=true:=by simpa using hc
   rw[lh,h,C3 r,dF,if_pos h,bf,kF];omega
theorem Ja{l:aH}(h:l.take 2=[47,47]):lh false l=(l.takeWhile (· !=10)).length+lh false (l.drop (l.takeWhile (· !=10)).length):=by
 match l,h with
 | a::b::r,h=>
  simp only[ec,cK,pG,and_true]at h;obtain⟨rfl,rfl⟩:=h;have e:lh false (47::47::r)=1+lh true (47::r):=by
   conv=>lhs;rw[lh]
   rw[if_neg (by decide),if_pos (by simp)]
  have e2:=C3 (47::r);have e3:(47::47::r:aH).takeWhile (· !=10)=47::(47::r:aH).takeWhile (· !=10):=by
   rw[dF,if_pos (by decide)]
  rw[e,e2,e3,bf,kF];omega
theorem zl{l:aH}{j:Nat}{x:UInt8}(h:l[j]? =some x):l.drop j=x::l.drop (j+1):=by
 obtain⟨h1,h2⟩:=aY.1 h;rw[gU h1,h2]
theorem L3{w:av}{b:Nat}{t:TypeId}{l:aH}{i:Nat}{r:aI}(h:Qj w b t l i r)(hi:i<=l.length)(hl:l.length<9223372036854775807):
  az aq 152 #[ae (some ⟨b,0,none⟩)] w fun e w'=>e=ak (ai #[])/\ay [b] w w'/\Qj w' b t l (i+lh false (l.drop i)) r:=by
 refine ret (aer _ _ _ ?_);refine⟨fun nv w'=>∃j:Nat,j<=l.length/\nv=l.length-j/\i+lh false (l.drop i)=j+lh false (l.drop j)/\ay [b] w w'/\Qj w' b t l j r,l.length-i,⟨i,hi,rfl,rfl,Only.refl _ _,h⟩,?_⟩;rintro nv w0 ⟨j,hj,rfl,hjs,cE,h0⟩;have kp:∀{u u':av} {n:Nat},ay [] u u'->Qj u b t l n r->Qj u' b t l n r:=fun hO hC=>(hO.block b hC.lt (by simp)).trans hC;refine(SD h0).mono ?_;rintro _ w1 ⟨rfl,cA⟩;have h1:=kp cA h0;refine⟨_,rfl,fun hc=>?_,fun hc=>⟨rfl,cE.trans cA (by simp),?_⟩⟩
 ·have bQ:j<l.length:=by simpa using hc
  have hx:l[j]? =some l[j]:=bB bQ;generalize l[j]=x at hx;have hd:=zl hx;refine⟨T l,Blk.dT h1 0 rfl,j,Blk.dT h1 1 rfl,x,⟨bm j,by rw[vd,aZ,hx]⟩,fun w2 cR=>?_⟩;obtain⟨s,w3,k1,k2,k3,_⟩:=uB w2 [9,10,13,32] (n:=4) (parts:=#[(0,.int .u8 9),(1,.int .u8 10),(2,.int .u8 13),(3,.int .u8 32)]) rfl rfl (by decide) (by decide);refine⟨s,w3,k1,(C1 (zj k2) x).mono ?_⟩;rintro _ w4 ⟨rfl,dA⟩;have dN:=cR.cp (k3.cp dA);have h4:=kp dN h1;have BQ:ay [b] w w4:=cE.trans (cA.cp dN) (by simp);refine⟨_,rfl,fun hb=>⟨j,Blk.dT h4 1 rfl,b,1,_,t,by rw[eU],h4,by simp,fun w5 eJ uX=>⟨l.length-(j+1),by omega,j+1,by omega,rfl,?_,BQ.trans eJ (by simp),?_⟩⟩,fun hb=>(xq h4 hj).mono ?_⟩
  ·have e:AH x=true:=hb;rw[hjs,hd,lh,if_pos e];omega
  ·rw[fQ (by omega) (by omega)]at uX;exact uX
  rintro _ w6 ⟨rfl,eh⟩;have h6:=kp eh h4;have hlr:(l.drop j).length<=l.length:=by rw[cy];omega
  refine⟨_,rfl,(C2 w6 (l.drop j) [47,47] (by omega) (by decide)).mono ?_⟩;rintro _ w7 ⟨rfl,fm⟩;have h7:=kp fm h6;refine⟨_,rfl,fun hs=>(xq h7 hj).mono ?_,fun hs=>⟨rfl,BQ.trans (eh.cp fm) (by simp),?_⟩⟩
  ·rintro _ w8 ⟨rfl,fp⟩;have h8:=kp fp h7;refine⟨_,rfl,(ZM w8 (l.drop j) 10 (by omega)).mono ?_⟩;rintro _ w9 ⟨s9,b9,rfl,fS⟩;have h9:=kp fS h8;have JW:(l.drop j).take 2=[47,47]:=aP hs;have hk:=Ja JW;have eH:((l.drop j).takeWhile (· !=10)).length<=(l.drop j).length:=by
    rw[oM,cO];exact Nat.min_le_right _ _
   have RE:0<((l.drop j).takeWhile (· !=10)).length:=by
    match hq:l.drop j,JW with
    | a::r',JW=>
     have:a=47:=by
      match r',JW with
      | b'::r'',JW=>simp at JW;exact JW.1
     subst this;simp
   have hld:(l.drop j).length=l.length-j:=cy;generalize hn:((l.drop j).takeWhile (· !=10)).length=n at*
   refine⟨_,s9,b9,rfl,j,Blk.dT h9 1 rfl,b,1,_,t,by rw[eU],h9,by simp,fun dw dR ua=>⟨l.length-(j+n),by omega,j+n,by omega,rfl,?_,(BQ.trans (eh.cp (fm.cp (fp.cp fS))) (by simp)).trans dR (by simp),?_⟩⟩
   ·rw[hjs,hk,rl];omega
   ·rw[de,hn,fQ (by omega) (by omega)]at ua;exact ua
  ·have hs:¬(l.drop j).take 2=[47,47]:=aU hs;have hb:AH x=false:=hb;have hz:lh false (l.drop j)=0:=by
    rw[hd,lh,if_neg (by simp[hb]),if_neg];intro hh;apply hs;rw[hd];simp only[aR,ol]at hh;obtain⟨rfl,hh⟩:=hh;cases hr:l.drop (j+1)with
    | nil=>rw[hr]at hh;simp at hh
    | cons y z=>
     rw[hr]at hh;simp only[List.head?_cons,aX]at hh;rw[hh];rfl
   rw[hjs,hz];exact h7
 ·have sP:l.length<=j:=by simpa using hc
  have hz:l.drop j=[]:=iZ sP;rw[hjs,hz];exact h1
def Er(w:av):Prop:=∃tp p,w.var? aq "strconv.ErrRange" =some #[.iface tp p]
theorem er_num:Tryz.prog.globalNamed "strconv.ErrRange" =some 4:=by kernel_rfl
theorem Er.keep{w w':av}(h:Er w)(hk:4<w.heap.size->w'.heap[4]? =w.heap[4]?):Er w':=by
 obtain⟨tp,p,h⟩:=h;refine⟨tp,p,?_⟩;unfold World.var? at h⊢;rw[er_num]at h⊢;simp only[kr]at h⊢;rw[hk]
 ·exact h
 ·refine ch fun hn=>?_;rw[dU (by omega)]at h;cases h
theorem Er.lt{w:av}(h:Er w):4<w.heap.size:=by
 obtain⟨tp,p,h⟩:=h;unfold World.var? at h;rw[er_num]at h;simp only[kr]at h;refine ch fun hn=>?_;rw[dU (by omega)]at h;cases h
theorem Er.only{w w':av}(h:Er w)(hO:ay [] w w'):Er w':=h.keep fun bQ=>hO.block _ bQ (by simp)
def uC(a:Nat)(ds:aH):Nat:=ds.foldl (fun a c=>a*10+(c.toNat-48)) a
theorem GX:∀(ds:aH) (a:Nat),a<=uC a ds
 | [],a=>aV _
 | c::r,a=>by
  have:=GX r (a*10+(c.toNat-48));show a<=uC (a*10+(c.toNat-48)) r;omega
theorem pum:∀(ds:aH) (a:Nat),(∀c,c∈ds->eo c=true)->a<=18446744073709551615->
  Lib.parseUintM 18446744073709551615 a ds=if uC a ds<=18446744073709551615 then .ok (uC a ds)else .range
 | [],a,_,h=>by rw[Lib.parseUintM];exact(if_pos h).symm
 | c::r,a,hd,h=>by
  have hc:=hd c (by simp);simp only[eo,aR,bW]at hc;have e:uC a (c::r)=uC (a*10+(c.toNat-48)) r:=rfl;have sP:=GX r (a*10+(c.toNat-48));rw[Lib.parseUintM,if_pos hc,e];split
  ·rw[if_neg (by omega)]
  ·split
   ·rw[if_neg (by omega)]
   ·rw[pum r _ (fun x hx=>hd x (by simp[hx])) (by omega)]
theorem pib{ds:aH}(hd:∀c,c∈ds->eo c=true)(gL:ds≠[]):Lib.parseIntB 64 ds=if uC 0 ds<9223372036854775808 then .ok (uC 0 ds:Int)else .range:=by
 match ds,gL with
 | c::r,_=>
  have hc:=hd c (by simp);simp only[eo,aR,bW]at hc;have h1:¬(c.toNat=43∨c.toNat=45):=by omega
  have h2:¬c.toNat=45:=by omega
  have h3:Lib.parseUintB 64 (c::r)=Lib.parseUintM 18446744073709551615 0 (c::r):=by
   rw[Lib.parseUintB,if_neg (by simp)]
  unfold Lib.parseIntB;dsimp only;rw[if_neg h1,h3,pum _ _ hd (by decide)];by_cases hv:uC 0 (c::r)<=18446744073709551615
  ·rw[if_pos hv];by_cases hw:uC 0 (c::r)<9223372036854775808
   ·rw[if_pos hw];simp[h2];omega
   ·rw[if_neg hw];simp[h2];omega
  ·rw[if_neg hv,if_neg (by omega)]
def fG(l:aH):Nat×Nat×Int:=
 if l=[]then(0,0,3)else if l.takeWhile eo=[]∨(1<(l.takeWhile eo).length/\l.head? =some 48)then(0,0,4)
 else if uC 0 (l.takeWhile eo)<9223372036854775808 then(uC 0 (l.takeWhile eo),(l.takeWhile eo).length,0)else(0,0,20)
theorem Jb{p:UInt8->Bool}{l:aH}:∀c,c∈l.takeWhile p->p c=true:=by
 have:=List.all_takeWhile (p:=p) (l:=l);rwa[eb]at this
theorem L4{w:av}{l:aH}(hE:Er w)(hl:l.length<281474976710656):
  az aq 220 #[ab (T l)] w fun e w'=>e=ak (ai #[O U (fG l).1,O U (fG l).2.1,O U (fG l).2.2])/\ay [] w w':=by
 refine ret (v0w _ _ _ ?_);refine⟨fun nv j w'=>∃n:Nat,n<=l.length/\j=(n:Int)/\nv=l.length-n/\(∀x,x∈l.take n->eo x=true)/\ay [] w w',l.length,⟨0,bp _,rfl,rfl,by simp,Only.refl _ _⟩,?_⟩;rintro nv _ w0 ⟨n,hn,rfl,rfl,hp,cE⟩;rw[de];refine⟨fun b w'=>(b=true->∃x,l[n]? =some x/\eo x=true)/\(b=false->∀x,l[n]? =some x->eo x=false)/\ay [] w w',?_,fun hc=>?_,fun hc=>⟨fun e=>(by cases e),fun _ x hx=>?_,cE⟩⟩
 ·rintro b w1 ⟨h1,h2,cA⟩;refine⟨fun hb=>?_,fun hb=>?_⟩
  ·obtain⟨x,hx,hw⟩:=h1 hb;have bQ:=(aY.1 hx).1;refine⟨l.length-(n+1),by omega,n+1,by omega,by rw[fQ (by omega) (by omega)];rfl,rfl,fun y hy=>?_,cA⟩;rw[bH,hx]at hy;simp only[lM,cr,aN]at hy;rcases hy with hy | rfl
   ·exact hp y hy
   ·exact hw
  have hds:=rS hn hp (h2 hb);have zQ:(l.takeWhile eo).length=n:=by rw[hds,cO];omega
  have e0:(ao #[])=T []:=rfl;rw[e0,kH];refine⟨fun h0=>⟨?_,cA⟩,fun h0=>?_⟩
  ·have h0:l=[]:=aP h0;rw[fG,if_pos h0];rfl
  have h0:¬l=[]:=aU h0;refine⟨fun b w'=>b=decide (l.takeWhile eo=[]∨(1<(l.takeWhile eo).length/\l.head? =some 48))/\ay [] w w',?_,fun hz=>?_,fun hz=>?_⟩
  ·rintro b w2 ⟨rfl,cR⟩;refine⟨fun hb=>⟨?_,cR⟩,fun hb=>⟨n,⟨rfl,hn⟩,?_⟩⟩
   ·rw[fG,if_neg h0,if_pos (aP hb)];rfl
   have hb:=aU hb;have hx:(T l).extract 0 n=T (l.takeWhile eo):=by rw[wJ,iJ,vX,hds]
   rw[hx];have gL:l.takeWhile eo≠[]:=fun e=>hb (.inl e);have hpi:=pib (Jb (p:=eo) (l:=l)) gL;have hsz:(T (l.takeWhile eo)).size<=281474976710656:=by rw[de];omega
   by_cases hv:uC 0 (l.takeWhile eo)<9223372036854775808
   ·rw[if_pos hv]at hpi;refine(Tryz.strconv_ParseInt_10_at64_ok (T (l.takeWhile eo)) (bh hsz (by decide)) _ hpi w2).mono ?_;rintro _ w3 ⟨rfl,hw⟩;have dl:ay [] w2 w3:=by
     rcases hw with rfl | ⟨s,rfl⟩
     ·exact Only.refl _ _
     ·exact Only.nZ (Lib.bytesWorld_below _ _ _)
    refine⟨_,⟨.nilIface,rfl⟩,rfl,.inl rfl,fun e=>(by cases e),fun _=>⟨?_,cR.cp dl⟩⟩;rw[fG,if_neg h0,if_neg hb,if_pos hv,zQ]
   ·rw[if_neg hv]at hpi;obtain⟨tp,p,V9⟩:=hE.only cR;refine(Tryz.strconv_ParseInt_10_at64_range_var (T (l.takeWhile eo)) hsz hpi tp p w2 V9).mono ?_;rintro _ w3 ⟨N,rfl,_,_,hw⟩;refine⟨_,⟨.iface _ _,rfl⟩,rfl,.inr ⟨_,_,rfl⟩,fun _=>⟨?_,cR.cp (Only.nZ hw)⟩,fun e=>(by cases e)⟩;rw[fG,if_neg h0,if_neg hb,if_neg hv];rfl
  ·have hz:n=0:=by simpa using hz
   subst hz;refine⟨?_,cA⟩;symm;rw[bI (.inl (ca zQ))];rfl
  ·have hz:n≠0:=by simpa using hz
   obtain⟨x,r,rfl⟩:∃x r,l=x::r:=by
    cases l with
    | nil=>exact absurd rfl h0
    | cons x r=>exact⟨x,r,rfl⟩
   refine⟨x,fun _=>⟨lU _,by rw[vd];rfl⟩,?_,cA⟩;have gL:(x::r).takeWhile eo≠[]:=fun e=>by rw[e]at zQ;exact hz zQ.symm
   rw[zQ,bT];simp only[aR,bW,ol,List.head?_cons,aX];constructor
   ·rintro⟨h1,h2⟩;exact .inr ⟨by omega,OY.1 (by show x.toNat=48;omega)⟩
   ·rintro(h | ⟨h1,rfl⟩)
    ·exact absurd h gL
    ·exact⟨by omega,rfl⟩
 ·have bQ:(n:Int)<l.length:=aP hc;have hx:l[n]? =some (l[n]'(by omega)):=bB (by omega);generalize l[n]'(by omega)=x at hx;refine⟨x,⟨bm n,by rw[vd,aZ,hx]⟩,(LX w0 x).mono ?_⟩;rintro _ w3 ⟨rfl,dl⟩;refine⟨_,rfl,fun hb=>⟨x,hx,hb⟩,fun hd y hy=>?_,cE.cp dl⟩;rw[hx]at hy;injection hy with hy;subst hy;exact hd
 ·have sP:¬(n:Int)<l.length:=aU hc;have:=(aY.1 hx).1;omega
structure Tk where
 k:Int
 t:aH
 n:Int
 a:Int
deriving DecidableEq
def Tk.v(x:Tk):aw:=ah #[O U x.k,ab (T x.t),O U x.n,O U x.a]
def GY:Rp Tk:=fun _ _ x cs=>cs=[O U x.k,ab (T x.t),O U x.n,O U x.a]
theorem iy:GY.Ok where
 keep h _:=h
 inHeap h:=h
 mono h _:=h
 one:=by
  rintro w F x cs h v hv;unfold GY at h;subst h;simp only[aQ,aW,bP]at hv;rcases hv with rfl | rfl | rfl | rfl<;>rfl
abbrev kZ(B:Nat)(w:av)(s:Sl)(xs:List Tk):Prop:=Own GY 4 194 B w (fun _=>True) s xs
theorem kZ.of{B:Nat}{w:av}{F:aJ}{s:Sl}{xs:List Tk}(h:Own GY 4 194 B w F s xs):kZ B w s xs:=h.mono iy fun _ _=>trivial
theorem kZ.sl{B:Nat}{w:av}{s:Sl}{xs:List Tk}(h:kZ B w s xs):aA GY 4 w (fun k=>B<=k/\s.a=some ⟨k,0,none⟩) s xs:=L2 iy (fun _ _ _ _ _ h=>h) h
theorem kZ.flat{B:Nat}{w:av}{s:Sl}{xs:List Tk}(h:kZ B w s xs):Own GY 4 194 B w (fun _=>False) s xs:=by
 rcases h with h | ⟨g,css,tail,a1,a2,a4,a5,a6,a7,a9,a8⟩
 ·exact .inl h
 ·exact .inr ⟨g,css,tail,a1,a2,a4,a5,a6,a7,a9,ff.imp (fun _ _ h=>h) a8⟩
theorem kZ.keep{B:Nat}{w w':av}{s:Sl}{xs:List Tk}(h:kZ B w s xs)(hk:∀k,B<=k/\s.a=some ⟨k,0,none⟩->k<w.heap.size->w'.heap[k]? =w.heap[k]?):kZ B w' s xs:=
 kZ.of (h.flat.keep iy fun k hF bQ=>hk k (hF.elim False.elim id) bQ)
theorem kZ.only{B:Nat}{w w':av}{s:Sl}{xs:List Tk}(h:kZ B w s xs)(hO:ay [] w w'):kZ B w' s xs:=h.keep fun k _ bQ=>hO.block k bQ (by simp)
theorem kZ.p{B:Nat}{w w':av}{s:Sl}{xs:List Tk}{D:aJ}(h:kZ B w s xs)(hO:aD D w w')(hD:∀k,B<=k->s.a=some ⟨k,0,none⟩->¬D k):kZ B w' s xs:=h.keep fun k hk bQ=>hO.block k bQ (hD k hk.1 hk.2)
theorem Uv{w:av}{B:Nat}{s:Sl}{xs:List Tk}(t:Tk)(hs:kZ B w s xs)(hB:B<=w.heap.size)(hm:(xs.length+1)*40<=140737488355328):
  ∃y w1,(au 177 1 #[(0,t.v)]).run aq w=.ok (Sl.v y) w1/\ay [] w w1/\∃s' w2,(Builtin.append_ #[177,177] 177 #[Sl.v s,Sl.v y]).run aq w1=.ok (Sl.v s') w2/\kZ B w2 s' (xs++[t])/\aD (fun k=>B<=k/\s.a=some ⟨k,0,none⟩) w1 w2:=by
 obtain⟨y,w1,k1,k2,s',w2,k3,k4,⟨gs,k5,k6⟩,_⟩:=ja (P:=aq) (t:=177) (ty:=177) (e:=194) (i:=Tryz.t194) (bytes:=40) (size:=4) (v:=t.v) (x:=t) (G:=fun _=>False) (by kernel_rfl) (by kernel_rfl) rfl rfl rfl rfl (by decide) (by decide) (by decide) iy hs hB rfl rfl (fun k hk _=>hk.elim) hm;exact⟨y,w1,k1,k2,s',w2,k3,kZ.of k4,k5.p fun g hg=>.inl ⟨(k6 g hg).2.1,(k6 g hg).1⟩⟩
def pY:List (aH):=[[97,102,116,101,114],[97,108,119,97,121,115],[99,104,97,114,116],[100,101,101,112],[101,109,105,116],[101,110,116,101,114],[104,105,115,116,111,114,121],[105,110],[105,110,105,116,105,97,108],[108,101,97,118,101],[111,110],[112,97,114,97,108,108,101,108],[114,97,105,115,101],[115,101,116],[115,116,97,116,101],[118,97,114]]
theorem GZ(w:av):az aq 151 #[] w fun e w'=>∃s:Sl,e=ak s.v/\Own im 1 9 w.heap.size w' (fun _=>True) s pY/\ay [] w w':=by
 refine(aeq (fun v w'=>∃s:Sl,v=s.v/\Own im 1 9 w.heap.size w' (fun _=>True) s pY/\ay [] w w') w ?_).mono (by
  rintro e w' ⟨v,rfl,s,rfl,h⟩;exact⟨s,rfl,h⟩)
 obtain⟨s,w',h1,h2,h3⟩:=lZ w pY (n:=16) rfl rfl (by decide) (by decide);exact⟨s,w',h1,s,rfl,h2,h3⟩
structure Cut (w:av) (b:Nat) (l:aH) (i:Nat) (rs:Sl) (acc:List Tk):Prop where
 blk:∃ws:Sl,aF w b 226 [ab (T l),O U (i:Int),ws.v,rs.v]/\aA im 1 w (fun k=>k<b) ws pY
 own:kZ (b+1) w rs acc
 er:Er w
 gb:4<b
 il:i<=l.length
 ll:l.length<=16384
theorem Cut.lt{w:av}{b:Nat}{l:aH}{i:Nat}{rs:Sl}{acc:List Tk}(h:Cut w b l i rs acc):b<w.heap.size:=by
 obtain⟨ws,h1,_⟩:=h.blk;exact h1.lt
theorem Cut.only{w w':av}{b:Nat}{l:aH}{i:Nat}{rs:Sl}{acc:List Tk}(h:Cut w b l i rs acc)(hO:ay [] w w'):Cut w' b l i rs acc:=by
 obtain⟨ws,h1,h2⟩:=h.blk;exact⟨⟨ws,(hO.block b h1.lt (by simp)).trans h1,SliceF.only cG (by decide) h2 hO (by simp)⟩,h.own.only hO,h.er.only hO,h.gb,h.il,h.ll⟩
theorem Cut.move{w w':av}{b:Nat}{l:aH}{i j:Nat}{rs:Sl}{acc:List Tk}(h:Cut w b l i rs acc)(hO:ay [b] w w')(hj:j<=l.length)(hB:∀ws:Sl,aF w b 226 [ab (T l),O U (i:Int),ws.v,rs.v]->aF w' b 226 [ab (T l),O U (j:Int),ws.v,rs.v]):Cut w' b l j rs acc:=by
 obtain⟨ws,h1,h2⟩:=h.blk;exact⟨⟨ws,hB ws h1,SliceF.only cG (by decide) h2 hO (by intro k hk _;simp only[aN];omega)⟩,h.own.keep fun k hk bQ=>hO.block k bQ (by simp only[aN];omega),h.er.keep fun bQ=>hO.block _ bQ (by simp only[aN];have:=h.gb;omega),h.gb,hj,h.ll⟩
theorem G0{w:av}{b:Nat}{l:aH}{i:Nat}{rs:Sl}{acc:List Tk}(h:Cut w b l i rs acc)(k:Int)(t:aH)(nn a0:Int)(n:Nat)(hn:i+n<=l.length)(ha:acc.length<=16384):
  az aq 155 #[ae (some ⟨b,0,none⟩),ah #[O U k,ab (T t),O U nn,O U a0],O U (n:Int)] w fun e w'=>e=ak (ai #[])/\aD (fun k=>b<=k) w w'/\∃RF,Cut w' b l (i+n) RF (acc++[⟨k,t,nn,i⟩]):=by
 refine ret (aeC _ _ _ _ _ _ _ _ ?_);intro k0 w0 gH eW cE;have BM:=h.lt;have X3:=h.ll;have h0:=h.only cE;obtain⟨ws,yj,hw0⟩:=h0.blk;refine⟨i,Blk.dT yj 1 rfl,fun w1 cA=>?_⟩;have zb0:=yj.lt;have yU:aF w1 b 226 _:=(cA.block b zb0 (by simp only[aN];omega)).trans yj;have ho1:kZ (b+1) w1 rs acc:=h0.own.keep fun q hq bQ=>by
  refine cA.block q bQ ?_;simp only[aN];rintro rfl;have:=(h.own.blk hq.2).2;dsimp only at this;omega
 have z1:=cA.size;obtain⟨y,w2,c1,c2,s',w3,c3,c4,c5⟩:=Uv ⟨k,t,nn,i⟩ ho1 (by omega) (bh (fE 40 (show acc.length+1<=16385 by omega)) (by decide));have z2:=c2.size;have z3:=c5.size;have ag2:∀q,rs.a=some ⟨q,0,none⟩->q≠k0:=fun q hq=>by
  have:=(h.own.blk hq).2;dsimp only at this;omega
 refine⟨fun q=>q=b,rfl,rs,Blk.dT yU 3 rfl,y,w2,c1,c2.same (by simp;omega),bL.only c2,s',w3,c3,?_,?_,?_⟩
 ·exact c5.same (by intro x hx;simp only[aN]at hx;subst hx;exact⟨by omega,fun e=>ag2 _ e.2 rfl⟩)
 ·intro q hq bQ;exact c5.block q bQ (by omega)
 have hb3:aF w3 b 226 [ab (T l),O U (i:Int),ws.v,rs.v]:=(c5.block b (by omega) (by omega)).trans ((c2.block b (by omega) (by simp)).trans yU);refine⟨b,3,_,226,by rw[eU],hb3,by simp,by omega,fun w4 dA RG=>?_⟩;have RG:aF w4 b 226 [ab (T l),O U (i:Int),ws.v,s'.v]:=RG;refine⟨i,Blk.dT RG 1 rfl,b,1,_,226,by rw[zd,eU],RG,by simp,by omega,fun w5 eJ IB=>⟨rfl,?_,s',?_⟩⟩
 ·have e1:aD (fun k=>b<=k) w w1:=cE.p0.trans (cA.p (F:=fun q=>q=k0) fun b hb=>.inl (by simpa using hb)) fun q hq=>by omega
  have e2:aD (fun k=>b<=k) w w3:=(e1.cp c2).trans c5 fun q hq=>.inl (by omega);have e3:aD (fun k=>b<=k) w w4:=e2.trans (dA.p (F:=fun q=>q=b) fun b hb=>.inl (by simpa using hb)) fun q hq=>.inl (by omega);exact e3.trans (eJ.p (F:=fun q=>q=b) fun b hb=>.inl (by simpa using hb)) fun q hq=>.inl (by omega)
 ·have z4:=dA.size;have IB:aF w5 b 226 [ab (T l),O U (IntKind.i64.wrap ((i:Int)+n)),ws.v,s'.v]:=IB;rw[fQ (by omega) (by omega)]at IB;have up:aD (fun k=>b<=k) w w5:=by
   have e1:aD (fun k=>b<=k) w w1:=cE.p0.trans (cA.p (F:=fun q=>q=k0) fun b hb=>.inl (by simpa using hb)) fun q hq=>by omega
   have e2:aD (fun k=>b<=k) w w3:=(e1.cp c2).trans c5 fun q hq=>.inl (by omega);have e3:aD (fun k=>b<=k) w w4:=e2.trans (dA.p (F:=fun q=>q=b) fun b hb=>.inl (by simpa using hb)) fun q hq=>.inl (by omega);exact e3.trans (eJ.p (F:=fun q=>q=b) fun b hb=>.inl (by simpa using hb)) fun q hq=>.inl (by omega)
  have hgb:=h.gb;obtain⟨JX,kV,XG⟩:=h.blk;have hwe:JX=ws:=by
   have:aF w0 b 226 [ab (T l),O U (i:Int),JX.v,rs.v]:=(cE.block b BM (by simp)).trans kV;unfold aF at this yj;rw[this]at yj;simp[Sl.v]at yj;cases ws;cases JX;simp_all
  subst hwe;refine⟨⟨JX,IB,SliceF.kU cG (by decide) XG up fun q hq _ hd=>by omega⟩,?_,h.er.keep fun bQ=>up.block _ bQ (by omega),hgb,hn,X3⟩;have e4:kZ (b+1) w4 s' _:=c4.keep fun q hq bQ=>dA.block q bQ (by simp only[aN];omega);exact e4.keep fun q hq bQ=>eJ.block q bQ (by simp only[aN];omega)
abbrev Tq:=Int×aH×Int×Nat
def rv(m:aH):Except Int Tq:=
 if 24<(m.takeWhile gj).length then .error 2 else .ok (if pY.contains (m.takeWhile gj)then 2 else 1,m.takeWhile gj,0,(m.takeWhile gj).length)
def xt(m:aH):Except Int Tq:=
 if(fG m).2.2≠0 then .error (fG m).2.2 else if(fG m).2.1<(m.takeWhile gj).length then .error 4 else .ok (3,[],(fG m).1,(fG m).2.1)
def AJ:aH:=[123,125,40,41,91,93,59,44,61,43,45,42,47,37,60,62,33]
def G3(m:aH):Bool:=match m with
 | c::d::_=>(d==61&&[60,62,61,33].contains c)||(d==c&&[38,124].contains c)||(c==45&&d==62)
 | _=>false
def li(m:aH):Nat:=if G3 m then 2 else match m with
 | c::_=>if AJ.contains c then 1 else 0
 | []=>0
def ry(m:aH):Except Int Tq:=if li m=0 then .error 4 else .ok (4,m.take (li m),0,li m)
def tv(m:aH):Except Int Tq:=match m with
 | []=>.error 4
 | c::_=>if oL c then rv m else if eo c then xt m else ry m
def Ku(w':av)(b:Nat)(l:aH)(i:Nat)(acc:List Tk)(r:Except Int Tq)(v:aw):Prop:=match r with
 | .error e=>v=O U e/\∃rs,Cut w' b l i rs acc
 | .ok q=>v=O U 0/\∃rs,Cut w' b l (i+q.2.2.2) rs (acc++[⟨q.1,q.2.1,q.2.2.1,i⟩])
theorem qN{p:UInt8->Bool}{l:aH}:(l.takeWhile p).length<=l.length:=by
 rw[oM,cO];exact Nat.min_le_right _ _
theorem Uw{w:av}{b:Nat}{l:aH}{i:Nat}{rs:Sl}{acc:List Tk}(h:Cut w b l i rs acc)(ha:acc.length<=16384):
  az aq 193 #[ae (some ⟨b,0,none⟩)] w fun e w'=>∃v,e=ak v/\aD (fun k=>b<=k) w w'/\Ku w' b l i acc (rv (l.drop i)) v:=by
 refine aez ⟨b,0,none⟩ (fun v w'=>aD (fun k=>b<=k) w w'/\Ku w' b l i acc (rv (l.drop i)) v) w ?_;obtain⟨ws,hb,hw⟩:=h.blk;have X3:=h.ll;refine(L1 hb h.il (by omega)).mono ?_;rintro _ w0 ⟨rfl,cE⟩;have hwl:((l.drop i).takeWhile gj).length<=l.length-i:=by
  have:=qN (p:=gj) (l:=l.drop i);rwa[cy]at this
 have IH:=h.il;refine⟨_,rfl,fun hc=>⟨cE.p0,?_⟩,fun hc=>?_⟩
 ·rw[de]at hc;rw[rv,if_pos (by have:=aP hc;omega)];exact⟨rfl,rs,h.only cE⟩
 rw[de]at hc;have hc:¬24<((l.drop i).takeWhile gj).length:=by have:=aU hc;omega
 rw[rv,if_neg hc];generalize hm:(l.drop i).takeWhile gj=m at*
 have h0:=h.only cE;obtain⟨JX,kV,XG⟩:=h0.blk;refine⟨fun k w'=>k=(if pY.contains m then 2 else 1)/\ay [] w w',?_,JX,Blk.dT kV 2 rfl,(pX XG m).mono ?_⟩
 ·rintro _ w1 ⟨rfl,cA⟩;refine(ret (Su (T m) (fun v w'=>v=ab (T m)/\ay [] w1 w') w1 ?_)).mono ?_
  ·refine(Tryz.stringslite_Clone (T m) w1 (by rw[de];omega)).mono ?_;rintro _ w2 ⟨rfl,hw⟩;exact⟨_,rfl,rfl,Only.nZ hw⟩
  rintro _ w2 ⟨rfl,cR⟩;rw[de];refine⟨_,rfl,(G0 (h.only (cA.cp cR)) _ m 0 0 m.length (by omega) ha).mono ?_⟩;rintro _ w3 ⟨rfl,dl,RF,hC⟩;exact⟨rfl,(cA.cp cR).oZ dl,rfl,RF,hC⟩
 ·rintro _ w4 ⟨rfl,dA⟩;refine⟨_,rfl,fun hb=>⟨by rw[if_pos hb],cE.cp dA⟩,fun hb=>⟨by rw[hb];rfl,cE.cp dA⟩⟩
theorem L5{w:av}{b:Nat}{l:aH}{i:Nat}{rs:Sl}{acc:List Tk}(h:Cut w b l i rs acc)(ha:acc.length<=16384):
  az aq 195 #[ae (some ⟨b,0,none⟩)] w fun e w'=>∃v,e=ak v/\aD (fun k=>b<=k) w w'/\Ku w' b l i acc (xt (l.drop i)) v:=by
 refine aeD ⟨b,0,none⟩ (fun v w'=>aD (fun k=>b<=k) w w'/\Ku w' b l i acc (xt (l.drop i)) v) w ?_;obtain⟨ws,hb,hw⟩:=h.blk;have X3:=h.ll;have IH:=h.il;refine(xq hb h.il).mono ?_;rintro _ w0 ⟨rfl,cE⟩;have zQ:(l.drop i).length=l.length-i:=cy;refine⟨_,rfl,(L4 (h.er.only cE) (by omega)).mono ?_⟩;rintro _ w1 ⟨rfl,cA⟩;have iw:=cE.cp cA;refine⟨_,_,_,rfl,fun he=>⟨iw.p0,?_⟩,fun he=>?_⟩
 ·rw[xt,if_pos (by simpa using he)];exact⟨rfl,rs,h.only iw⟩
 have he:¬(fG (l.drop i)).2.2≠0:=by simpa using he
 have hk:(fG (l.drop i)).2.1<=(l.drop i).length:=by
  have:=qN (p:=eo) (l:=l.drop i);unfold fG;split
  ·exact bp _
  ·split
   ·exact bp _
   ·split
    ·exact this
    ·exact bp _
 obtain⟨JX,kV,XG⟩:=(h.only iw).blk;refine(L1 kV h.il (by omega)).mono ?_;rintro _ w2 ⟨rfl,cR⟩;have mZ:=iw.cp cR;refine⟨_,rfl,?_⟩;dsimp only;rw[de];refine⟨fun hc=>⟨mZ.p0,?_⟩,fun hc=>?_⟩
 ·rw[xt,if_neg he,if_pos (by have:=aP hc;omega)];exact⟨rfl,rs,h.only mZ⟩
 ·rw[xt,if_neg he,if_neg (by have:=aU hc;omega)];refine(G0 (h.only mZ) 3 [] _ 0 (fG (l.drop i)).2.1 (by omega) ha).mono ?_;rintro _ w3 ⟨rfl,dl,RF,hC⟩;exact⟨rfl,mZ.oZ dl,rfl,RF,hC⟩
theorem pZ(w:av)(p:Addr)(n:Nat)(a:Addr):(w.freeze p n).cell? a=w.cell? a:=by
 unfold World.freeze;split
 ·rfl
 ·unfold World.cell?;simp only[yx];by_cases KL:p.block=a.block
  ·rw[if_pos KL];cases h:w.heap[a.block]? with
   | none=>rfl
   | some o=>
    cases o with
    | cells c e f=>obtain⟨lo,hi⟩:=f;rfl
    | _=>rfl
  ·rw[if_neg KL]
theorem qb(w:av)(p:Addr)(n:Nat):aD (fun k=>k=p.block) w (w.freeze p n):=by
 unfold World.freeze;split
 ·exact OnlyP.refl _ _
 ·exact⟨rfl,rfl,rfl,by simp,fun k hk hn=>by
   simp only[yx];rw[if_neg fun e=>hn e.symm]⟩
theorem Ux{w:av}{F:aJ}{s:Sl}{g B:Nat}{l:aH}(ha:s.a=some ⟨g,0,none⟩)(h:Own ij 1 5 B w F s l)(bQ:g<w.heap.size):
  ∃w',(convert 241 241 (Sl.v s)).run aq w=.ok (Sl.v s) w'/\aA ij 1 w' (fun _=>True) s l/\aD (fun k=>k=g) w w':=by
 have hs:=zj h;obtain⟨g',css,tail,a1,a2,a4,_⟩:=h.resolve_left (fun e=>by rw[e.1]at ha;cases ha);rw[ha]at a1;injection a1 with a1;injection a1 with a1;subst a1;have Ey:w.shape? g=some (5,(css.flatten++tail).toArray.size):=by
  unfold World.shape?;unfold aF at a4;rw[a4]
 have hu:Tryz.prog.underlying 241=some (.slice 5):=by kernel_rfl
 have VL:Tryz.prog.underlying 5=some (.int .u8):=by kernel_rfl
 refine⟨w.freeze ⟨g,(css.flatten++tail).toArray.size,none⟩ 1,?_,⟨hs.len,hs.cap,hs.nil0,hs.big,fun j x hj=>?_⟩,qb w ⟨g,(css.flatten++tail).toArray.size,none⟩ 1⟩
 ·unfold Sl.v;rw[ha];simp[convert,run_underlying hu,run_underlying VL,markStringish,Ey,Result.andThen]
 ·obtain⟨base,cs,g1,g2,g3,g4,g5⟩:=hs.at_ j x hj;exact⟨base,cs,g1,trivial,g3,fun q v hq=>by rw[pZ];exact g4 q v hq,g5⟩
theorem ZN{c d:UInt8}:((c.toNat:Int)==(d.toNat:Int))=(c==d):=by
 rw[bT];simp only[ol];constructor
 ·intro h;exact OY.1 (by omega)
 ·rintro rfl;rfl
theorem Jc{m:aH}(h:G3 m=true):2<=m.length:=by
 match m,h with
 | _::_::_,_=>simp
theorem xu{m:aH}:li m<=m.length:=by
 unfold li;split
 ·exact Jc (by assumption)
 ·split
  ·split
   ·simp
   ·exact bp _
  ·exact bp _
theorem Uy{w:av}{b:Nat}{l:aH}{i:Nat}{rs:Sl}{acc:List Tk}(h:Cut w b l i rs acc)(ha:acc.length<=16384)(gL:i<l.length):
  az aq 196 #[ae (some ⟨b,0,none⟩)] w fun e w'=>∃v,e=ak v/\aD (fun k=>b<=k) w w'/\Ku w' b l i acc (ry (l.drop i)) v:=by
 refine aeE ⟨b,0,none⟩ (fun v w'=>aD (fun k=>b<=k) w w'/\Ku w' b l i acc (ry (l.drop i)) v) w ?_;obtain⟨ws,hb,hw⟩:=h.blk;have X3:=h.ll;have IH:=h.il;refine(xq hb h.il).mono ?_;rintro _ w0 ⟨rfl,cE⟩;have zQ:(l.drop i).length=l.length-i:=cy;generalize hm:l.drop i=m at*
 obtain⟨c,r,rfl⟩:∃c r,m=c::r:=by
  cases m with
  | nil=>simp at zQ;omega
  | cons c r=>exact⟨c,r,rfl⟩
 have g0:(0:Int)<=0/\(T (c::r))[0]? =some c:=⟨lU _,by rw[vd];rfl⟩
 refine⟨T (c::r),rfl,fun i0 w'=>i0=(if AJ.contains c then 1 else 0:Int)/\ay [] w w',?_,c,g0,?_⟩
 ·rintro _ w1 ⟨rfl,cA⟩;refine⟨fun i1 w'=>i1=(li (c::r):Int)/\ay [] w w',?_,fun b w'=>b=G3 (c::r)/\ay [] w w',?_,?_,?_⟩
  ·rintro _ w2 ⟨rfl,cR⟩;refine⟨fun hz=>⟨cR.p0,?_⟩,fun hz=>⟨li (c::r),⟨rfl,by rw[de];exact xu⟩,?_⟩⟩
   ·rw[ry,if_pos (by have:(li (c::r):Int)=0:=(by simpa using hz);omega)];exact⟨rfl,rs,h.only cR⟩
   have hz:¬li (c::r)=0:=by
    intro e;rw[e]at hz;simp at hz
   rw[ry,if_neg hz,wJ,iJ,vX];have hn:=xu (m:=c::r);refine(ret (Su (T _) (fun v w'=>v=ab (T ((c::r).take (li (c::r))))/\ay [] w2 w') w2 ?_)).mono ?_
   ·refine(Tryz.stringslite_Clone (T _) w2 (by rw[de,cO];omega)).mono ?_;rintro _ w3 ⟨rfl,hw⟩;exact⟨_,rfl,rfl,Only.nZ hw⟩
   rintro _ w3 ⟨rfl,dl⟩;refine⟨_,rfl,(G0 (h.only (cR.cp dl)) 4 _ 0 0 (li (c::r)) (by omega) ha).mono ?_⟩;rintro _ w4 ⟨rfl,dA,RF,hC⟩;exact⟨rfl,(cR.cp dl).oZ dA,rfl,RF,hC⟩
  ·rintro _ w5 ⟨rfl,eJ⟩;refine⟨fun hs=>⟨by rw[li,if_pos hs];rfl,eJ⟩,fun hs=>⟨?_,eJ⟩⟩;have e:li (c::r)=if AJ.contains c then 1 else 0:=by rw[li,if_neg (by rw[hs];decide)]
   rw[e];split<;>rfl
  ·intro hc;rw[de]at hc;obtain⟨d,r,rfl⟩:∃d r',r=d::r':=by
    cases r with
    | nil=>simp at hc
    | cons d r=>exact⟨d,r,rfl⟩
   have g1:(0:Int)<=1/\(T (c::d::r))[1]? =some d:=⟨by decide,by rw[vd];rfl⟩
   have ex:(T (c::d::r)).extract 0 2=T [c,d]:=by rw[wJ];rfl
   have sz:2<=(T (c::d::r)).size:=by rw[de];simp
   have lit:(ao #[45,62])=T [45,62]:=rfl;have eqx:((T [c,d]).toList==(T [45,62]).toList)=(c==45&&d==62):=by
    rw[kH,bT];simp
   have e61:((d.toNat:Int)==61)=(d==61):=ZN (d:=61);have hs2:G3 (c::d::r)=((d==61&&[60,62,61,33].contains c)||(d==c&&[38,124].contains c)||(c==45&&d==62)):=rfl;rw[hs2];generalize VK:([60,62,61,33]:aH).contains c=p1;generalize hp2:([38,124]:aH).contains c=p2;have Pj:((((T (c::d::r)).extract 0 2).toList)==((ao #[45,62]).toList))=(c==45&&d==62):=by rw[ex,lit,eqx]
   refine⟨d,g1,fun Oi=>⟨c,g0,fun w6 eh=>?_⟩,fun Oi=>⟨d,g1,c,g0,fun JY=>⟨c,g0,fun dr dS=>?_⟩,fun JY=>⟨sz,fun eZ dN=>⟨?_,cA.cp dN⟩⟩⟩⟩
   ·rw[e61]at Oi;obtain⟨s,w7,k1,k2,k3,_⟩:=uB w6 [60,62,61,33] (n:=4) (parts:=#[(0,.int .u8 60),(1,.int .u8 62),(2,.int .u8 61),(3,.int .u8 33)]) rfl rfl (by decide) (by decide);refine⟨s,w7,k1,(C1 (zj k2) c).mono ?_⟩;rintro _ w8 ⟨rfl,fp⟩;have lf:=cA.cp (eh.cp (k3.cp fp));rw[VK];refine⟨_,rfl,fun hb=>⟨by rw[Oi,hb];rfl,lf⟩,fun hb=>⟨d,g1,c,g0,fun JY=>⟨c,g0,?_⟩,fun JY=>⟨sz,?_,lf⟩⟩⟩
    ·rw[ZN]at JY;obtain⟨s,w9,k1,k2,k3,_⟩:=uB w8 [38,124] (n:=2) (parts:=#[(0,.int .u8 38),(1,.int .u8 124)]) rfl rfl (by decide) (by decide);refine⟨s,w9,k1,(C1 (zj k2) c).mono ?_⟩;rintro _ dw ⟨rfl,dR⟩;have hO:=lf.cp (k3.cp dR);rw[hp2];exact⟨_,rfl,fun ym=>⟨by rw[Oi,hb,JY,ym];rfl,hO⟩,fun ym=>⟨sz,by rw[Pj,Oi,hb,JY,ym];rfl,hO⟩⟩
    ·rw[ZN]at JY;rw[Pj,Oi,hb,JY];rfl
   ·rw[e61]at Oi;rw[ZN]at JY;obtain⟨s,dX,k1,k2,k3,_⟩:=uB dr [38,124] (n:=2) (parts:=#[(0,.int .u8 38),(1,.int .u8 124)]) rfl rfl (by decide) (by decide);refine⟨s,dX,k1,(C1 (zj k2) c).mono ?_⟩;rintro _ eS ⟨rfl,ez⟩;have hO:=cA.cp (dS.cp (k3.cp ez));rw[hp2];exact⟨_,rfl,fun ym=>⟨by rw[Oi,JY,ym];rfl,hO⟩,fun ym=>⟨sz,by rw[Pj,Oi,JY,ym];rfl,hO⟩⟩
   ·rw[e61]at Oi;rw[ZN]at JY;rw[Pj,Oi,JY];rfl
  ·intro hc fU ix;rw[de]at hc;have hr:r=[]:=by
    cases r with
    | nil=>rfl
    | cons d r=>exact absurd (aU hc) (by simp only[bf];omega)
   subst hr;exact⟨rfl,cA.cp ix⟩
 ·obtain⟨s,gy,k1,k2,k3,k4⟩:=uB w0 AJ (n:=17) (parts:=#[(0,.int .u8 123),(1,.int .u8 125),(2,.int .u8 40),(3,.int .u8 41),(4,.int .u8 91),(5,.int .u8 93),(6,.int .u8 59),(7,.int .u8 44),(8,.int .u8 61),(9,.int .u8 43),(10,.int .u8 45),(11,.int .u8 42),(12,.int .u8 47),(13,.int .u8 37),(14,.int .u8 60),(15,.int .u8 62),(16,.int .u8 33)]) rfl rfl (by decide) (by decide);obtain⟨fR,c1,c2,c3⟩:=Ux k4 k2 (k2.blk k4).2;have jp:ay [] w0 fR:=((k3.p0 (F:=fun k=>w0.heap.size<=k)).trans c3 fun k hk=>.inl (by omega)).only fun k hk=>hk;refine⟨s,gy,k1,s,fR,c1,(C1 c2 c).mono ?_⟩;rintro _ gI ⟨rfl,lf⟩;have hO:=cE.cp (jp.cp lf);exact⟨_,rfl,fun hb=>⟨by rw[if_pos hb],hO⟩,fun hb=>⟨by rw[hb];rfl,hO⟩⟩
theorem Ku.int{w':av}{b:Nat}{l:aH}{i:Nat}{acc:List Tk}{r:Except Int Tq}{v:aw}(h:Ku w' b l i acc r v):∃k:Int,v=O U k:=by
 unfold Ku at h;split at h
 ·exact⟨_,h.1⟩
 ·exact⟨_,h.1⟩
theorem Ql{w:av}{b:Nat}{l:aH}{i:Nat}{rs:Sl}{acc:List Tk}(h:Cut w b l i rs acc)(ha:acc.length<=16384)(gL:i<l.length):
  az aq 154 #[ae (some ⟨b,0,none⟩)] w fun e w'=>∃v,e=ak v/\aD (fun k=>b<=k) w w'/\Ku w' b l i acc (tv (l.drop i)) v:=by
 refine aex ⟨b,0,none⟩ (fun v w'=>aD (fun k=>b<=k) w w'/\Ku w' b l i acc (tv (l.drop i)) v) w ?_;obtain⟨ws,hb,hw⟩:=h.blk;have hx:l[i]? =some l[i]:=bB gL;generalize l[i]=x at hx;have ht:tv (l.drop i)=if oL x then rv (l.drop i)else if eo x then xt (l.drop i)else ry (l.drop i):=by
  rw[zl hx];rfl
 rw[ht];refine⟨T l,Blk.dT hb 0 rfl,i,Blk.dT hb 1 rfl,x,⟨bm i,by rw[vd,aZ,hx]⟩,fun w0 cE=>(xp w0 x).mono ?_⟩;rintro _ w1 ⟨rfl,cA⟩;have iw:=cE.cp cA;refine⟨_,rfl,fun hl=>?_,fun hl=>(GW w1 x).mono ?_⟩
 ·rw[if_pos hl];refine(Uw (h.only iw) ha).mono ?_;rintro _ w2 ⟨v,rfl,cR,hd⟩;obtain⟨k,rfl⟩:=hd.int;exact⟨k,rfl,iw.oZ cR,hd⟩
 rintro _ w3 ⟨rfl,dl⟩;have yr:=iw.cp dl;rw[if_neg (by rw[hl];decide)];refine⟨_,rfl,fun hd=>?_,fun hd=>?_⟩
 ·rw[if_pos hd];refine(L5 (h.only yr) ha).mono ?_;rintro _ w2 ⟨v,rfl,cR,hd⟩;obtain⟨k,rfl⟩:=hd.int;exact⟨k,rfl,yr.oZ cR,hd⟩
 ·rw[if_neg (by rw[hd];decide)];refine(Uy (h.only yr) ha gL).mono ?_;rintro _ w2 ⟨v,rfl,cR,hd⟩;obtain⟨k,rfl⟩:=hd.int;exact⟨k,rfl,yr.oZ cR,hd⟩
theorem tw{m:aH}{q:Tq}(h:tv m=.ok q):1<=q.2.2.2:=by
 cases m with
 | nil=>cases h
 | cons c r=>
  simp only[tv]at h;split at h
  ·rename_i hc;unfold rv at h;split at h
   ·cases h
   ·injection h with h;subst h;have:gj c=true:=by unfold gj;rw[hc];rfl
    dsimp only;rw[dF,if_pos this,bf];omega
  ·split at h
   ·rename_i hc;unfold xt at h;split at h
    ·cases h
    ·split at h
     ·cases h
     ·rename_i h1 h2;injection h with h;subst h;dsimp only;rw[dF,if_pos (by unfold gj;rw[hc,Gf]),bf]at h2;omega
   ·unfold ry at h;split at h
    ·cases h
    ·injection h with h;subst h;dsimp only;omega
theorem G4{m:aH}{e:Int}(h:tv m=.error e):e≠0:=by
 cases m with
 | nil=>injection h with h;omega
 | cons c r=>
  simp only[tv]at h;split at h
  ·unfold rv at h;split at h
   ·injection h with h;omega
   ·cases h
  ·split at h
   ·unfold xt at h;split at h
    ·injection h with h;omega
    ·split at h
     ·injection h with h;omega
     ·cases h
   ·unfold ry at h;split at h
    ·injection h with h;omega
    ·cases h
def xv(l:aH):Nat->Nat->Except (Int×Nat) (List Tk)
 | 0,_=>.ok []
 | f+1,i=>
  if l.length<=i+lh false (l.drop i)then .ok [⟨5,[],0,(i+lh false (l.drop i):Nat)⟩]
  else match tv (l.drop (i+lh false (l.drop i)))with
   | .error e=>.error (e,i+lh false (l.drop i))
   | .ok q=>match xv l f (i+lh false (l.drop i)+q.2.2.2)with
    | .error x=>.error x
    | .ok r=>.ok (⟨q.1,q.2.1,q.2.2.1,(i+lh false (l.drop i):Nat)⟩::r)
theorem L6{l:aH}:(fG l).2.1<=l.length:=by
 have:=qN (p:=eo) (l:=l);unfold fG;split
 ·exact bp _
 ·split
  ·exact bp _
  ·split
   ·exact this
   ·exact bp _
theorem AK{m:aH}{q:Tq}(h:tv m=.ok q):q.2.2.2<=m.length:=by
 cases m with
 | nil=>cases h
 | cons c r=>
  simp only[tv]at h;split at h
  ·unfold rv at h;split at h
   ·cases h
   ·injection h with h;subst h;exact qN
  ·split at h
   ·unfold xt at h;split at h
    ·cases h
    ·split at h
     ·cases h
     ·injection h with h;subst h;exact L6
   ·unfold ry at h;split at h
    ·cases h
    ·injection h with h;subst h;exact xu
theorem L7{l:aH}{i:Nat}(hi:i<=l.length):i+lh false (l.drop i)<=l.length:=by
 have:=AI (b:=false) (l:=l.drop i);rw[cy]at this;omega
theorem C4(l:aH):∀(f g i:Nat),i<=l.length->l.length<i+f->l.length<i+g->xv l f i=xv l g i
 | 0,_,i,hi,h,_=>by omega
 | _,0,i,hi,_,h=>by omega
 | f+1,g+1,i,hi,h1,h2=>by
  rw[xv,xv];split
  ·rfl
  ·split
   ·rfl
   ·rename_i q hq;have h3:=tw hq;have h4:=AK hq;rw[cy]at h4;rw[C4 l f g _ (by omega) (by omega) (by omega)]
def tz(l:aH)(i:Nat):Except (Int×Nat) (List Tk):=xv l (l.length+1) i
theorem nH{l:aH}{i:Nat}(hi:i<=l.length):tz l i=if l.length<=i+lh false (l.drop i)then .ok [⟨5,[],0,(i+lh false (l.drop i):Nat)⟩]
  else match tv (l.drop (i+lh false (l.drop i)))with
   | .error e=>.error (e,i+lh false (l.drop i))
   | .ok q=>match tz l (i+lh false (l.drop i)+q.2.2.2)with
    | .error x=>.error x
    | .ok r=>.ok (⟨q.1,q.2.1,q.2.2.1,(i+lh false (l.drop i):Nat)⟩::r):=by
 unfold tz;rw[xv];split
 ·rfl
 ·split
  ·rfl
  ·rename_i q hq;have h3:=tw hq;have h4:=AK hq;rw[cy]at h4;rw[C4 l l.length (l.length+1) _ (by omega) (by omega) (by omega)]
def cW(l:aH):List Tk×Int×Int:=if 16384<l.length then([],2, -1)else match tz l 0 with
 | .error x=>([],x.1,(x.2:Nat))
 | .ok r=>(r,0,0)
def gK(acc:List Tk):Except (Int×Nat) (List Tk)->Except (Int×Nat) (List Tk)
 | .error x=>.error x
 | .ok r=>.ok (acc++r)
theorem qO(b:Bool):∀(l:aH),lh false (l.drop (lh b l))=0
 | []=>by simp[lh]
 | c::r=>by
  cases b with
  | true=>
   rw[lh,ku,kF];exact qO _ r
  | false=>
   rw[lh];split
   ·rw[ku,kF];exact qO _ r
   ·split
    ·rw[ku,kF];exact qO _ r
    ·rename_i h1 h2;rw[iJ,lh,if_neg h1,if_neg h2]
theorem zm{l:aH}{i:Nat}(hi:i<=l.length):tz l i=tz l (i+lh false (l.drop i)):=by
 have h1:=L7 hi;have h2:lh false (l.drop (i+lh false (l.drop i)))=0:=by
  rw[<-rl];exact qO false (l.drop i)
 rw[nH hi,nH h1,h2,dx]
theorem Qm{a b:List Tk}{x:Except (Int×Nat) (List Tk)}:gK a (gK b x)=gK (a++b) x:=by
 cases x with
 | error _=>rfl
 | ok r=>simp[gK]
theorem C5{w:av}(l:aH)(hE:Er w):
  az aq 113 #[ab (T l)] w fun e w'=>∃rs:Sl,e=ak (ai #[rs.v,ah #[O U (cW l).2.1,O U (cW l).2.2]])/\kZ w.heap.size w' rs (cW l).1/\ay [] w w':=by
 refine(aep (T l) (fun v w'=>∃rs:Sl,v=(ai #[rs.v,ah #[O U (cW l).2.1,O U (cW l).2.2]])/\kZ w.heap.size w' rs (cW l).1/\ay [] w w') w ?_).mono (by
  rintro e w' ⟨v,rfl,rs,rfl,h⟩;exact⟨rs,rfl,h⟩)
 rw[de];refine⟨fun hc k0 w0 _ _ hO=>⟨Sl.nil,?_,?_,hO⟩,fun hc k1 w1 lr jq cA=>(GZ w1).mono ?_⟩
 ·rw[cW,if_pos (by have:=aP hc;omega)]
 ·rw[cW,if_pos (by have:=aP hc;omega)];exact Own.nil _ _ _ _ _ _
 have X3:l.length<=16384:=by have:=aU hc;omega
 have htm:cW l=match tz l 0 with
  | .error x=>([],x.1,(x.2:Nat))
  | .ok r=>(r,0,0):=by rw[cW,if_neg (by omega)]
 rintro _ w2 ⟨ws,rfl,hws,cR⟩;refine⟨ws,rfl,cR.same (by simp;omega),fun b w3 hb kV dl Oj=>?_⟩;have ez:=cA.cp (cR.cp dl);have z1:=cA.size;have z2:=cR.size;have z3:=dl.size;have hC0:Cut w3 b l 0 Sl.nil []:=⟨⟨ws,Oj,(SliceF.only cG (by decide) ((tu hws).inHeap cG (by decide)) dl (by simp)).mono cG fun k hk=>by omega⟩,Own.nil _ _ _ _ _ _,hE.only ez,by have:=hE.lt;omega,bp _,X3⟩
 have sm:∀{u u':av},w2.heap.size<=u.heap.size->aD (fun k=>b<=k) u u'->bS [k1] u u':=fun hu hO=>hO.same (by intro x hx;simp only[aN]at hx;subst hx;omega);refine(L3 Oj (bp _) (by omega)).mono ?_;rintro _ w4 ⟨rfl,dA,RG⟩;have p4:aD (fun k=>b<=k) w3 w4:=dA.p fun x hx=>.inl (by simp only[aN]at hx;omega);have hC4:Cut w4 b l (0+lh false (l.drop 0)) Sl.nil []:=hC0.move dA (L7 (bp _)) fun JX h'=>by
  have:JX=ws:=by
   unfold aF at h' Oj;rw[h']at Oj;simp[Sl.v]at Oj;cases ws;cases JX;simp_all
  subst this;exact RG
 refine⟨rfl,sm (by omega) p4,T l,_,ws,Sl.nil,RG,fun nv e1 e2 s0 i0 l1 l2 w'=>e1=0/\e2=0/\s0=T l/\∃(i:Nat) (acc:List Tk),i0=(i:Int)/\Cut w' b l i l2 acc/\acc.length<=i/\lh false (l.drop i)=0/\tz l 0=gK acc (tz l i)/\nv=l.length-i/\aD (fun k=>b<=k) w3 w'/\aF w' b 226 [ab (T l),O U (i:Int),l1.v,l2.v],l.length-(0+lh false (l.drop 0)),?_,?_⟩
 ·refine⟨rfl,rfl,rfl,_,[],rfl,hC4,bp _,?_,?_,rfl,p4,RG⟩
  ·rw[<-rl];exact qO false (l.drop 0)
  ·rw[<-zm (bp _)];cases tz l 0<;>rfl
 rintro nv _ _ _ _ l1 rs w5 ⟨rfl,rfl,rfl,i,acc,rfl,hC,eH,hsk,pM,rfl,eJ,IB⟩;have z5:=eJ.size;have IH:=hC.il;refine(SD IB).mono ?_;rintro _ w6 ⟨rfl,eh⟩;have hC6:=hC.only eh;have hb6:aF w6 b 226 [ab (T l),O U (i:Int),l1.v,rs.v]:=(eh.block b IB.lt (by simp)).trans IB;have z6:=eh.size;have uj:=nH hC.il;rw[hsk,dx]at uj;refine⟨_,rfl,eh.same (by simp;omega),T l,i,l1,rs,hb6,fun hc=>?_,fun hc=>?_⟩
 ·have bQ:i<l.length:=by simpa using hc
  rw[if_neg (by omega)]at uj;refine(Ql hC6 (by omega) bQ).mono ?_;rintro _ w7 ⟨v,rfl,fm,hd⟩;have p7:aD (fun k=>b<=k) w3 w7:=(eJ.cp eh).trans fm fun k hk=>.inl hk;have z7:=fm.size;unfold Ku at hd;cases hq:tv (l.drop i)with
  | error e=>
   rw[hq]at hd uj;obtain⟨rfl,rs7,hC7⟩:=hd;obtain⟨X4,Tz,_⟩:=hC7.blk;refine⟨e,rfl,sm (by omega) fm,T l,i,X4,rs7,Tz,fun _ w8 fp _=>⟨Sl.nil,?_,?_,?_⟩,fun he=>absurd (G4 hq) (by simpa using he)⟩
   ·rw[htm,pM,uj];rfl
   ·rw[htm,pM,uj];exact Own.nil _ _ _ _ _ _
   ·exact(((ez.p0 (F:=fun k=>w.heap.size<=k)).trans p7 fun k hk=>.inl (by omega)).trans (fp.p (F:=fun k=>k=k1) fun x hx=>.inl (by simpa using hx)) fun k hk=>.inl (by omega)).only fun k hk=>hk
  | ok q=>
   rw[hq]at hd uj;obtain⟨rfl,rs7,hC7⟩:=hd;obtain⟨X4,Tz,_⟩:=hC7.blk;have hq1:=tw hq;have h7l:=hC7.il;refine⟨0,rfl,sm (by omega) fm,T l,(i+q.2.2.2:Nat),X4,rs7,Tz,fun he=>(by simp at he),fun _=>(L3 Tz h7l (by omega)).mono ?_⟩;rintro _ w9 ⟨rfl,fS,hb9⟩;have p9:aD (fun k=>b<=k) w7 w9:=fS.p fun x hx=>.inl (by simp only[aN]at hx;omega);have hC9:=hC7.move fS (L7 h7l) fun JX h'=>by
    have:JX=X4:=by
     unfold aF at h' Tz;rw[h']at Tz;simp[Sl.v]at Tz;cases X4;cases JX;simp_all
    subst this;exact hb9
   refine⟨rfl,sm (by omega) p9,T l,_,X4,rs7,hb9,l.length-(i+q.2.2.2+lh false (l.drop (i+q.2.2.2))),by omega,rfl,rfl,rfl,_,_,rfl,hC9,?_,?_,?_,rfl,p7.trans p9 fun k hk=>.inl hk,hb9⟩
   ·rw[aO,bK];omega
   ·rw[<-rl];exact qO false _
   ·rw[pM,uj,<-zm h7l,<-Qm];dsimp only;cases tz l (i+q.2.2.2)<;>rfl
 ·have sP:l.length<=i:=by simpa using hc
  rw[if_pos sP]at uj;refine(G0 hC6 5 [] 0 0 0 (by omega) (by omega)).mono ?_;rintro _ dw ⟨rfl,dR,Wa,aaS⟩;obtain⟨ag9,aha,_⟩:=aaS.blk;have p10:aD (fun k=>b<=k) w3 dw:=(eJ.cp eh).trans dR fun k hk=>.inl hk;have htt:cW l=(acc++[⟨5,[],0,(i:Nat)⟩],0,0):=by
   rw[htm,pM,uj];rfl
  refine⟨rfl,sm (by omega) dR,T l,_,ag9,Wa,aha,fun dr dS _=>⟨Wa,?_,?_,?_⟩⟩
  ·rw[htt]
  ·rw[htt];have:kZ (b+1) dr Wa _:=aaS.own.keep fun k hk bQ=>dS.block k bQ (by simp only[aN];omega);exact Own.low this (by omega)
  ·exact(((ez.p0 (F:=fun k=>w.heap.size<=k)).trans p10 fun k hk=>.inl (by omega)).trans (dS.p (F:=fun k=>k=k1) fun x hx=>.inl (by simpa using hx)) fun k hk=>.inl (by omega)).only fun k hk=>hk
inductive Ex where
 | mk (k n:Int) (s:aH) (op:Int) (subs:List Ex) (a:Int)
def Ex.k:Ex->Int | .mk k _ _ _ _ _=>k
def Ex.n:Ex->Int | .mk _ n _ _ _ _=>n
def Ex.s:Ex->aH | .mk _ _ s _ _ _=>s
def Ex.op:Ex->Int | .mk _ _ _ op _ _=>op
def Ex.eN:Ex->List Ex | .mk _ _ _ _ l _=>l
def Ex.a:Ex->Int | .mk _ _ _ _ _ a=>a
def tk0:Tk:=⟨5,[],0, -1⟩
def tk(ts:List Tk)(i:Nat):Tk:=(ts[i]?).getD tk0
def sg(ts:List Tk)(i:Nat)(s:aH):Bool:=(tk ts i).k==4&&decide ((tk ts i).t=s)
def fT(ts:List Tk)(i:Nat):Int×Int:=(if(tk ts i).k=5 then 3 else 4,(tk ts i).a)
theorem G5{ts:List Tk}{i:Nat}(h:i<ts.length):ts[i]? =some (tk ts i):=by
 unfold tk;rw[bB h];rfl
def uD(ts:List Tk):Prop:=∀i,i<ts.length->((tk ts i).k=5↔i+1=ts.length)
theorem uD.next{ts:List Tk}(h:uD ts){i:Nat}(hi:i<ts.length)(hk:(tk ts i).k≠5):i+1<ts.length:=by
 have h2:¬(i+1=ts.length):=fun e=>hk ((h i hi).2 e);omega
theorem AM{ts:List Tk}{i:Nat}{s:aH}(h:sg ts i s=true):(tk ts i).k≠5:=by
 simp only[sg,aR,ol]at h;rw[h.1];decide
def yP:List (aH):=[[],[43],[45],[42],[47],[37],[60],[60,61],[62],[62,61],[61,61],[33,61],[38,38],[124,124],[45],[33]]
def jD(op:Int):Int:=if 3<=op/\op<=5 then 5 else if op=1∨op=2 then 4 else if 6<=op/\op<=9 then 3 else if op=10∨op=11 then 2 else if op=12 then 1 else if op=13 then 0 else 6
def ka(op:Nat):aH:=(yP[op]?).getD []
def uE(ts:List Tk)(k:Int)(i:Nat):Nat->Nat->Int
 | 0,_=>0
 | f+1,op=>if jD (op:Int)=k/\sg ts i (ka op)=true then(op:Int)else uE ts k i f (op+1)
def xw(ts:List Tk)(k:Int)(i:Nat):Int:=uE ts k i 13 1
theorem uF{ts:List Tk}{k:Int}{i:Nat}:∀(f op:Nat),uE ts k i f op≠0->(tk ts i).k≠5
 | 0,_,h=>absurd rfl h
 | f+1,op,h=>by
  rw[uE]at h;split at h
  ·rename_i hc;exact AM hc.2
  ·exact uF f _ h
abbrev Pr:=Except (Int×Int) (Ex×Nat)
def Qn(g:Ex->Ex):Pr->Pr
 | .error e=>.error e
 | .ok (x,j)=>.ok (g x,j)
def Jd:Pr->(Ex->Nat->Pr)->Pr
 | .error e,_=>.error e
 | .ok (x,j),g=>g x j
def yQ(ts:List Tk):Pr->Pr
 | .error e=>.error e
 | .ok (x,j)=>if sg ts j [41]then .ok (x,j+1)else .error (fT ts j)
def pd(d:Nat)(a:Int)(r:Pr):Pr:=if d=20 then .error (21,a)else r
def Qo(ts:List Tk)(i:Nat):Pr:=
 if sg ts (i+1) [40]then
  (if(tk ts (i+2)).k=1 then
   (if sg ts (i+3) [41]then .ok (.mk 3 0 (tk ts (i+2)).t 0 [] (tk ts i).a,i+4)else .error (fT ts (i+3)))
  else .error (fT ts (i+2)))
 else .error (fT ts (i+1))
def AN(ts:List Tk)(E0 Kx:Nat->Pr)(d i:Nat):Pr:=
 if(sg ts i [45]||sg ts i [33])=true then Qn (fun x=>.mk 4 0 [] (if(tk ts i).t=[33]then 15 else 14) [x] (tk ts i).a) (pd d (tk ts i).a (Kx (i+1)))
 else if sg ts i [40]=true then pd d (tk ts i).a (yQ ts (E0 (i+1)))
 else if(tk ts i).k=3 then .ok (.mk 1 (tk ts i).n [] 0 [] (tk ts i).a,i+1)
 else if(tk ts i).k=1 then .ok (.mk 2 0 (tk ts i).t 0 [] (tk ts i).a,i+1)
 else if(tk ts i).k=2/\(tk ts i).t=[105,110]then Qo ts i
 else .error (fT ts i)
def lj(ts:List Tk)(E:Nat->Pr)(k:Int):Nat->Ex->Nat->Pr
 | 0,x,j=>.ok (x,j)
 | g+1,x,j=>if xw ts k j=0 then .ok (x,j)else Jd (E (j+1)) fun y j'=>lj ts E k g (.mk 5 0 [] (xw ts k j) [x,y] x.a) j'
def eP(ts:List Tk):Nat->Nat->Nat->Nat->Pr
 | 0,_,_,_=>.error (1,0)
 | f+1,k,d,i=>if k=6 then AN ts (eP ts f 0 (d+1)) (eP ts f 6 (d+1)) d i else Jd (eP ts f (k+1) d i) fun x j=>lj ts (eP ts f (k+1) d) (k:Int) (ts.length-j) x j
theorem G6{g:Ex->Ex}{r:Pr}{x:Ex}{j:Nat}(h:Qn g r=.ok (x,j)):∃y,r=.ok (y,j)/\x=g y:=by
 cases r with
 | error e=>cases h
 | ok q=>
  obtain⟨y,j'⟩:=q;simp only[Qn,eC,eB]at h;obtain⟨rfl,rfl⟩:=h;exact⟨y,rfl,rfl⟩
theorem tA{d:Nat}{a:Int}{r:Pr}{q:Ex×Nat}(h:pd d a r=.ok q):r=.ok q/\d≠20:=by
 unfold pd at h;split at h
 ·cases h
 ·exact⟨h,by assumption⟩
theorem G7{ts:List Tk}{r:Pr}{x:Ex}{j:Nat}(h:yQ ts r=.ok (x,j)):∃j',r=.ok (x,j')/\sg ts j' [41]=true/\j=j'+1:=by
 cases r with
 | error e=>cases h
 | ok q=>
  obtain⟨y,j'⟩:=q;simp only[yQ]at h;split at h
  ·simp only[eC,eB]at h;obtain⟨rfl,rfl⟩:=h;exact⟨j',rfl,by assumption,rfl⟩
  ·cases h
theorem wc{r:Pr}{g:Ex->Nat->Pr}{q:Ex×Nat}(h:Jd r g=.ok q):∃x j,r=.ok (x,j)/\g x j=.ok q:=by
 cases r with
 | error e=>cases h
 | ok p=>exact⟨p.1,p.2,rfl,h⟩
theorem Uz{ts:List Tk}{i:Nat}{x:Ex}{j:Nat}(h:Qo ts i=.ok (x,j)):j=i+4/\x=.mk 3 0 (tk ts (i+2)).t 0 [] (tk ts i).a:=by
 unfold Qo at h;split at h
 ·split at h
  ·split at h
   ·simp only[eC,eB]at h;exact⟨h.2.symm,h.1.symm⟩
   ·cases h
  ·cases h
 ·cases h
theorem Je{ts:List Tk}{E0 Kx:Nat->Pr}{d i:Nat}{x:Ex}{j:Nat}(hE:∀i x j,E0 i=.ok (x,j)->i<j)(hO:∀i x j,Kx i=.ok (x,j)->i<j)(h:AN ts E0 Kx d i=.ok (x,j)):i<j:=by
 unfold AN at h;split at h
 ·obtain⟨y,h1,_⟩:=G6 h;have:=hO _ _ _ (tA h1).1;omega
 ·split at h
  ·obtain⟨j',h1,_,rfl⟩:=G7 (tA h).1;have:=hE _ _ _ h1;omega
  ·split at h
   ·simp only[eC,eB]at h;omega
   ·split at h
    ·simp only[eC,eB]at h;omega
    ·split at h
     ·have:=(Uz h).1;omega
     ·cases h
theorem xx{ts:List Tk}{E:Nat->Pr}{k:Int}(hE:∀i x j,E i=.ok (x,j)->i<j):∀(g:Nat) (x:Ex) (j:Nat) {x':Ex} {j':Nat},lj ts E k g x j=.ok (x',j')->j<=j'
 | 0,x,j,x',j',h=>by
  simp only[lj,eC,eB]at h;omega
 | g+1,x,j,x',j',h=>by
  rw[lj]at h;split at h
  ·simp only[eC,eB]at h;omega
  ·obtain⟨y,m,h1,h2⟩:=wc h;have:=hE _ _ _ h1;have:=xx hE g _ _ h2;omega
theorem kb{ts:List Tk}:∀(f k d i:Nat) {x:Ex} {j:Nat},eP ts f k d i=.ok (x,j)->i<j
 | 0,_,_,_,_,_,h=>by cases h
 | f+1,k,d,i,x,j,h=>by
  rw[eP]at h;split at h
  ·exact Je (fun i x j h=>kb f _ _ i h) (fun i x j h=>kb f _ _ i h) h
  ·obtain⟨y,m,h1,h2⟩:=wc h;have:=kb f _ _ _ h1;have:=xx (fun i x j h=>kb f _ _ i h) _ _ _ h2;omega
def jE(k d:Nat):Nat:=(20-d)*8+(7-k)
def Fa(ts:List Tk)(i:Nat):Pr:=eP ts (jE 0 0) 0 0 i
end Go.Proofs.YtbkjcdocjfknfaaGreatDoor.Con
