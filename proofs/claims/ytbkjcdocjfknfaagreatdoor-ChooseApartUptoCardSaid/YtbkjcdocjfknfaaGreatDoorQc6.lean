import Derived.Test.YtbkjcdocjfknfaaGreatDoorQc5
set_option linter.unusedSectionVars false
namespace Go.Proofs.YtbkjcdocjfknfaaGreatDoor.Vc
open Go.Value renaming int->O,string->ab,pointer->ae,agg->ah,tuple->ai,bool->aj
open Go.IntKind renaming i64->U,wrap->ar
open Go.Ending renaming returned->ak
open _root_.ByteArray renaming mk->ao
open _root_.Go.Proofs.Tryz renaming prog->aq
open Go.Instr renaming buildSlice->au
open Go renaming World->av,Value->aw,Calls->az
open Go.Kt renaming Only->ay,SliceF->aA,Cells->aB,OnlyP->aD,Blk->aF
open Go Go.RowKit Go.Kt Go.Kt.V
set_option linter.unusedVariables false
set_option maxRecDepth 100000
set_option maxHeartbeats 40000000
theorem afT(m:Addr)(n_:Int)(tX tj uA:aK)(uB uC qz oq:Sl)(tq:Int)(R:aG)(w:av)(h:nw w fun k0 w0=>iz w0 ((m.add 0).add 3) fun l0=>iz w0 ((m.add 5).add 0) fun l1=>Lc l1 (l0.n:Int) w0 fun i0 s0 i1 i2 i3=>nw w0 fun k1 w1=>∃J0:aJ,J0 k0/\J0 k1/\∀w2,ay [] w1 w2->J0 (((m.add 5).add 1).block)/\iz w2 ((m.add 5).add 1) fun l2=>∃p1,cW l2 (l0.n:Int) 1 p1/\∀w3,ay [] w2 w3->J0 p1.block/\iT w3 p1 fun i4=>∀w4,ay [] w3 w4->J0 (((m.add 5).add 2).block)/\iz w4 ((m.add 5).add 2) fun l3=>∃p2,cW l3 (l0.n:Int) 1 p2/\∀w5,ay [] w4 w5->J0 p2.block/\iT w5 p2 fun i5=>J0 k0/\J0 k0/\∀w6,ay [] w5 w6->J0 (((m.add 0).add 4).block)/\iz w6 ((m.add 0).add 4) fun l4=>∀w7,ay [] w6 w7->BJ [k0,k1] 81 #[uB.v] w7 fun l5 w8=>jt w1 w7 w8/\bP J0 w7 w8/\∀w9,ay [] w8 w9->BJ [k0,k1] 81 #[uC.v] w9 fun l6 du=>jt w1 w9 du/\bP J0 w9 du/\∀dC,ay [] du dC->∀k2,w1.heap.size<=k2->k2<dC.heap.size->vR [.mk w9.heap.size du.heap.size,.mk w7.heap.size w8.heap.size] k2->∀dN,ay [k2] dC dN->∃J1:Int->Int->Int->Int->Int->Int->Int->Sl->Sl->Int->Int->av->Prop,(∀i6 i7 i8 i9 i10 i11 i12,∀l7 l8:Sl,∀i13 i14 fb,J1 i6 i7 i8 i9 i10 i11 i12 l7 l8 i13 i14 fb->∃J2:Nat->Int->Int->Int->Int->Int->Int->Int->Int->Sl->Sl->Int->Int->av->Prop,∃k3:Nat,J2 k3 (ar U ((l0.n:Int)+1)) i6 i7 i8 i9 i10 i11 i12 l7 l8 i13 i14 fb/\∀k4 i15 i16 i17 i18 i19 i20 i21 i22,∀l9 l10:Sl,∀i23 i24 fk,J2 k4 i15 i16 i17 i18 i19 i20 i21 i22 l9 l10 i23 i24 fk->cK (decide (i15<i3)) (∃J3:Int->Int->Int->Int->Int->Int->Int->Sl->Sl->Int->Int->av->Prop,(∀i25 i26 i27 i28 i29 i30 i31,∀mP qm:Sl,∀i32 i33 fZ,J3 i25 i26 i27 i28 i29 i30 i31 mP qm i32 i33 fZ->nx k4 fun k5=>J2 k5 (ar U (i15+1)) i25 i26 i27 i28 i29 i30 i31 mP qm i32 i33 fZ)/\∀gI,ay [] fk gI->∃J4:aJ,J4 k2/\az aq 39 #[O U i15] gI fun e2 gf=>∃i34,e2=(ak (.int .u64 i34))/\bU [k0,k1,k2] gI gf/\bP J4 gI gf/\∀iy,ay [k2] gf iy->rG (fun b0 jA=>cK b0 (∀iW,ay [] jA iW->∃J6:aJ,J6 k2/\az aq 39 #[O U i15] iW fun e3 lu=>∃i35,e3=(ak (.int .u64 i35))/\bU [k0,k1,k2] iW lu/\bP J6 iW lu/\∀oT,ay [k2] lu oT->J3 i16 i17 i18 (bits .or .u64 i19 i34) (bits .or .u64 i20 i35) i21 i22 l9 l10 i23 i24 oT) (J3 i16 i17 i18 (bits .or .u64 i19 i34) i20 i21 i22 l9 l10 i23 i24 jA)) fun J5=>iz iy ((m.add 5).add 0) fun xD=>∃p3,cW xD i15 5 p3/\iT iy (p3.add 2) fun i36=>cK (i36==(l0.n:Int)) (iz iy ((m.add 5).add 0) fun zi=>∃p4,cW zi i15 5 p4/\iT iy (p4.add 0) fun i37=>pu [k0,k1,k2] 53 #[O U i37] iy fun b1 om=>J5 b1 om) (J5 false iy)) (K9 (fun oU=>sf 0 oU fun J8 k7 i38 mM=>cK (decide (i38<(qz.n:Int))) (kr qz i38 mM fun i39 s1 i40 b2 i41 i42 s2 i43 BS i44 Kb Nk i45=>nw mM fun k8 oo=>∃J9:aJ,J9 (((m.add 5).add 3).block)/\iz oo ((m.add 5).add 3) fun Ij=>J9 k2/\∃p6,cW Ij (ar U (i23+i38)) 7 p6/\J9 p6.block/\NM oo p6 fun i46 i47 i48 s3 i49 Ke i50=>nw oo fun k9 rP=>∃UI:aJ,UI k8/\UI k8/\UI k8/\UI k9/\UI k9/\UI k8/\UI k8/\UI k8/\∀vp,ay [] rP vp->BJ [k0,k1,k2,k8,k9] 48 #[Ke.v] vp fun Ik xF=>jt rP vp xF/\bP UI vp xF/\∀E5,ay [] xF E5->BJ [k0,k1,k2,k8,k9] 81 #[Kb.v] E5 fun OC Ip=>jt rP E5 Ip/\bP UI E5 Ip/\∀Ti,ay [] Ip Ti->∀jd,rP.heap.size<=jd->jd<Ti.heap.size->vR [.mk E5.heap.size Ip.heap.size,.mk vp.heap.size xF.heap.size] jd->∀Tj,ay [jd] Ti Tj->BJ [k0,k1,k2,k8,k9,jd] 82 #[BS.v] Tj fun Uv UE=>∀OO,ay [jd] UE OO->∃J11:Int->Int->Int->aK->Int->Sl->Int->Int->Bool->Int->Int->aK->Int->Sl->Int->Sl->av->Prop,(∀i51 i52 i53 s4 i54,∀WR:Sl,∀i55 i56 b3 i57 i58 s5 i59,∀WS:Sl,∀i60,∀WT:Sl,∀WV,J11 i51 i52 i53 s4 i54 WR i55 i56 b3 i57 i58 s5 i59 WS i60 WT WV->∀UF,ay [] WV UF->∃J12:aJ,J12 (((m.add 0).add 4).block)/\iz UF ((m.add 0).add 4) fun YL=>fg (au 34 1 #[.mk 0 (ah #[O U i51,O U i52,O U i53,ab s4,O U i54,WR.v,O U i55,.int .u64 i56,aj b3,O U i57,O U i58,ab s5,O U i59,WS.v,O U i60,WT.v])]) UF fun Uw Iq=>bU [k0,k1,k2,k8,k9,jd] UF Iq/\bP J12 UF Iq/\fg (Builtin.append_ #[34,34] 34 #[YL.v,Uw.v]) Iq fun Ux UG=>bU [k0,k1,k2,k8,k9,jd] Iq UG/\bP J12 Iq UG/\∃mQ FA:Nat,∃z0,∃vq:Nat,((m.add 0).add 4)=⟨mQ,FA,none⟩/\aF UG mQ vq z0/\(FA+1)<=z0.length/\k0≠mQ/\k1≠mQ/\k2≠mQ/\k8≠mQ/\k9≠mQ/\jd≠mQ/\∀YQ,ay [mQ] UG YQ->aF YQ mQ vq (cj z0 FA [Ux.v])->nx k7 fun C5=>J8 C5 (ar U (i38+1)) YQ)/\cK (decide (i50>=0)) (∀w41,ay [] OO w41->iz w41 ((m.add 0).add 3) fun Uy=>∃p7,cW Uy i50 11 p7/\∃i61,aB w41 (p7.add 3) [.int .u64 i61]/\∀WW,ay [jd] w41 WW->J11 (l0.n:Int) i38 i39 s1 i40 Ik i50 i61 b2 i41 i42 s2 i43 Uv i44 OC WW) (J11 (l0.n:Int) i38 i39 s1 i40 Ik i50 0 b2 i41 i42 s2 i43 Uv i44 OC OO)) (sf 0 mM fun J13 Bt i62 YR=>cK (decide (i62<(oq.n:Int))) (iU oq i62 YR fun i63 s6 s7 s8 Uz UA UB OD i64=>nw YR fun Kg w44=>gJ [k0,k1,k2,Kg] 38 #[ae (some m),ah #[O U i63,ab s6,ab s7,ab s8,Uz.v,UA.v,UB.v,OD.v,O U i64]] w44 fun YS=>nx Bt fun k18=>J13 k18 (ar U (i62+1)) YS) (R (ai #[]) YR))) fun J7=>∀Bw,ay [] fk Bw->∃Kj:aJ,Kj (((m.add 0).add 0).block)/\iz Bw ((m.add 0).add 0) fun Im=>Kj k0/\Kj (((m.add 0).add 3).block)/\iz Bw ((m.add 0).add 3) fun Io=>Kj k2/\(fg (au 31 1 #[.mk 0 (ab tX)]) Bw fun Kf HX=>bU [k0,k1,k2] Bw HX/\bP Kj Bw HX/\(fg (Builtin.append_ #[31,31] 31 #[Im.v,Kf.v]) HX fun Nl PC=>bU [k0,k1,k2] HX PC/\bP Kj HX PC/\fg (au 33 1 #[.mk 0 (ah #[O U i16,O U i17,.int .u64 i18,.int .u64 i19,.int .u64 i20,O U i21,O U i22,l9.v,l10.v,O U i23,O U i24])]) PC fun OE UH=>bU [k0,k1,k2] PC UH/\bP Kj PC UH/\fg (Builtin.append_ #[33,33] 33 #[Io.v,OE.v]) UH fun OG w50=>bU [k0,k1,k2] UH w50/\bP Kj UH w50/\∃uf yp:Nat,∃z1,∃Kh:Nat,((m.add 0).add 0)=⟨uf,yp,none⟩/\aF w50 uf Kh z1/\(yp+1)<=z1.length/\k0≠uf/\k1≠uf/\k2≠uf/\∀Tm,ay [uf] w50 Tm->aF Tm uf Kh (cj z1 yp [Nl.v])->∃xE Ki:Nat,∃z2,∃Th:Nat,((m.add 0).add 3)=⟨xE,Ki,none⟩/\aF Tm xE Th z2/\(Ki+1)<=z2.length/\k0≠xE/\k1≠xE/\k2≠xE/\∀Tn,ay [xE] Tm Tn->aF Tn xE Th (cj z2 Ki [OG.v])->J7 Tn)/\fg (au 33 1 #[.mk 0 (ah #[O U i16,O U i17,.int .u64 i18,.int .u64 i19,.int .u64 i20,O U i21,O U i22,l9.v,l10.v,O U i23,O U i24])]) HX fun OH w53=>bU [k0,k1,k2] HX w53/\bP Kj HX w53/\fg (Builtin.append_ #[31,31] 31 #[Im.v,Kf.v]) w53 fun OI w54=>bU [k0,k1,k2] w53 w54/\bP Kj w53 w54/\fg (Builtin.append_ #[33,33] 33 #[Io.v,OH.v]) w54 fun UC w55=>bU [k0,k1,k2] w54 w55/\bP Kj w54 w55/\∃OJ OK:Nat,∃z3,∃YP:Nat,((m.add 0).add 0)=⟨OJ,OK,none⟩/\aF w55 OJ YP z3/\(OK+1)<=z3.length/\k0≠OJ/\k1≠OJ/\k2≠OJ/\∀w56,ay [OJ] w55 w56->aF w56 OJ YP (cj z3 OK [OI.v])->∃E4 k29:Nat,∃z4,∃k30:Nat,((m.add 0).add 3)=⟨E4,k29,none⟩/\aF w56 E4 k30 z4/\(k29+1)<=z4.length/\k0≠E4/\k1≠E4/\k2≠E4/\∀w57,ay [E4] w56 w57->aF w57 E4 k30 (cj z4 k29 [UC.v])->J7 w57)/\fg (au 33 1 #[.mk 0 (ah #[O U i16,O U i17,.int .u64 i18,.int .u64 i19,.int .u64 i20,O U i21,O U i22,l9.v,l10.v,O U i23,O U i24])]) Bw fun UD YU=>bU [k0,k1,k2] Bw YU/\bP Kj Bw YU/\fg (au 31 1 #[.mk 0 (ab tX)]) YU fun YM w59=>bU [k0,k1,k2] YU w59/\bP Kj YU w59/\fg (Builtin.append_ #[31,31] 31 #[Im.v,YM.v]) w59 fun l45 w60=>bU [k0,k1,k2] w59 w60/\bP Kj w59 w60/\fg (Builtin.append_ #[33,33] 33 #[Io.v,UD.v]) w60 fun l46 w61=>bU [k0,k1,k2] w60 w61/\bP Kj w60 w61/\∃OL k32:Nat,∃z5,∃k33:Nat,((m.add 0).add 0)=⟨OL,k32,none⟩/\aF w61 OL k33 z5/\(k32+1)<=z5.length/\k0≠OL/\k1≠OL/\k2≠OL/\∀w62,ay [OL] w61 w62->aF w62 OL k33 (cj z5 k32 [l45.v])->∃OM k35:Nat,∃z6,∃k36:Nat,((m.add 0).add 3)=⟨OM,k35,none⟩/\aF w62 OM k36 z6/\(k35+1)<=z6.length/\k0≠OM/\k1≠OM/\k2≠OM/\∀w63,ay [OM] w62 w63->aF w63 OM k36 (cj z6 k35 [l46.v])->J7 w63))/\cK (decide (i1>=0)) (∀WX,ay [] dN WX->∃J15:aJ,J15 (((m.add 0).add 3).block)/\iz WX ((m.add 0).add 3) fun l47=>J15 k1/\∃p9,cW l47 i1 11 p9/\J15 ((p9.add 2).block)/\∃i65,aB WX (p9.add 2) [.int .u64 i65]/\az aq 39 #[O U i1] WX fun e9 w65=>∃i66,e9=(ak (.int .u64 i66))/\bU [k0,k1,k2] WX w65/\bP J15 WX w65/\∀w66,ay [k2] w65 w66->J1 n_ i1 (bits .or .u64 i65 i66) 0 0 i4 i5 l5 l6 (l4.n:Int) (ar U ((l4.n:Int)+(qz.n:Int))) w66) (J1 n_ i1 0 0 0 i4 i5 l5 l6 (l4.n:Int) (ar U ((l4.n:Int)+(qz.n:Int))) dN)):Cr 38 #[ae (some m),ah #[O U n_,ab tX,ab tj,ab uA,uB.v,uC.v,qz.v,oq.v,O U tq]] w R:=
 fB (an:=.d 3 (.s (.l false [] []) (.s .o (.j [0,3,4,5,6] [.b 6 [.int .i64,.int .i64,.int .u64,.int .u64,.int .u64,.int .i64,.int .i64,.sl,.sl,.int .i64,.int .i64]] .o (.s (.s .o (.j [0,3,4,5,6] [.s 7 (.int .i64),.b 6 [.int .i64,.int .i64,.int .u64,.int .u64,.int .u64,.int .i64,.int .i64,.sl,.sl,.int .i64,.int .i64]] (.s .o (.j [0,3,4,5,6,7] [.b 6 [.int .i64,.int .i64,.int .u64,.int .u64,.int .u64,.int .i64,.int .i64,.sl,.sl,.int .i64,.int .i64]] (.s .o (.s (.j [0,3,4,5,6,7] [.s 122 .bool] .o .o) .o)) .o)) .o)) (.s (.j [0,3,4,5,6] [] .o .o) (.s (.s .o (.j [0,3,4,5,6,155,156] [.s 157 (.int .i64)] (.d 2 (.s (.d 2 (.s (.l false [] []) (.s .o (.j [0,3,4,5,6,9,10,11,155,156,157] [.b 11 [.int .i64,.int .i64,.int .i64,.str,.int .i64,.sl,.int .i64,.int .u64,.bool,.int .i64,.int .i64,.str,.int .i64,.sl,.int .i64,.sl]] .o .o)))) .o)) .o)) (.s .o (.j [0,3,5,6,9,10,11,228,229] [.s 230 (.int .i64)] .o .o))))))))) (args:=[.ad m,.agg (lJ [.int .i64 n_,.str tX,.str tj,.str uA,.sl uB,.sl uC,.sl qz,.sl oq,.int .i64 tq])]) h
theorem al4(l:Addr)(n_:Int)(tX tj uA:aK)(uB uC qz oq:Sl)(tq:Int)(R:aG)(w:av)(h:nw w fun k0 w0=>iz w0 ((l.add 0).add 1) fun l0=>∀w1,ay [] w0 w1->∃J0:aJ,J0 (((l.add 0).add 1).block)/\iz w1 ((l.add 0).add 1) fun l1=>pK [k0] 88 #[ae (some l),ab tj] w1 fun i0 w2=>bP J0 w1 w2/\fg (au 32 1 #[.mk 0 (O U i0)]) w2 fun l2 w3=>bU [k0] w2 w3/\bP J0 w2 w3/\fg (Builtin.append_ #[32,32] 32 #[l1.v,l2.v]) w3 fun l3 w4=>bU [k0] w3 w4/\bP J0 w3 w4/\∃k1 k2:Nat,∃z0,∃k3:Nat,((l.add 0).add 1)=⟨k1,k2,none⟩/\aF w4 k1 k3 z0/\(k2+1)<=z0.length/\k0≠k1/\∀w5,ay [k1] w4 w5->aF w5 k1 k3 (cj z0 k2 [l3.v])->∀w6,ay [] w5 w6->∃J1:aJ,J1 (((l.add 0).add 2).block)/\iz w6 ((l.add 0).add 2) fun l4=>pK [k0] 88 #[ae (some l),ab uA] w6 fun i1 w7=>bP J1 w6 w7/\fg (au 32 1 #[.mk 0 (O U i1)]) w7 fun l5 w8=>bU [k0] w7 w8/\bP J1 w7 w8/\fg (Builtin.append_ #[32,32] 32 #[l4.v,l5.v]) w8 fun l6 w9=>bU [k0] w8 w9/\bP J1 w8 w9/\∃k4 k5:Nat,∃z1,∃k6:Nat,((l.add 0).add 2)=⟨k4,k5,none⟩/\aF w9 k4 k6 z1/\(k5+1)<=z1.length/\k0≠k4/\∀du,ay [k4] w9 du->aF du k4 k6 (cj z1 k5 [l6.v])->sf 0 du fun J2 k8 i2 dC=>cK (decide (i2<(qz.n:Int))) (kr qz i2 dC fun i3 s0 i4 b0 i5 i6 s1 i7 l7 i8 l8 l9 i9=>∀k9 jd dN,dC.heap.size<=k9->k9<dN.heap.size->dC.heap.size<=jd->jd<dN.heap.size->ay [] dC dN->∃J3:Nat->Int->Int->Int->Int->aK->Int->Sl->Int->av->Prop,∃mQ:Nat,J3 mQ 0 (l0.n:Int) i2 i3 s0 i4 Sl.nil 0 dN/\∀FA i10 i11 i12 i13 s2 i14,∀l10:Sl,∀i15 fb,J3 FA i10 i11 i12 i13 s2 i14 l10 i15 fb->cK (decide (i10<(l9.n:Int))) (Pa l9 i10 fb fun s3=>∀fk,ay [] fb fk->∃J4:aJ,J4 jd/\pK [k0,k9,jd] 88 #[ae (some l),ab s3] fk fun i16 fZ=>bP J4 fk fZ/\fg (au 32 1 #[.mk 0 (O U i16)]) fZ fun mP gI=>bU [k0,k9,jd] fZ gI/\bP J4 fZ gI/\fg (Builtin.append_ #[32,32] 32 #[l10.v,mP.v]) gI fun qm gf=>bU [k0,k9,jd] gI gf/\bP J4 gI gf/\∀iy,ay [jd] gf iy->nx FA fun vq=>J3 vq (ar U (i10+1)) i11 i12 i13 s2 i14 qm i15 iy) (pK [k0,k9,jd] 89 #[ae (some l),O U (l0.n:Int),l10.v] fb fun i17 jA=>∀iW,ay [jd] jA iW->∃J5:aJ,J5 (((l.add 0).add 3).block)/\iz iW ((l.add 0).add 3) fun xD=>fg (au 53 1 #[.mk 0 (ah #[O U i11,O U i12,O U i13,ab s2,O U i14,l10.v,O U i17])]) iW fun zi lu=>bU [k0,k9,jd] iW lu/\bP J5 iW lu/\fg (Builtin.append_ #[53,53] 53 #[xD.v,zi.v]) lu fun BS oT=>bU [k0,k9,jd] lu oT/\bP J5 lu oT/\∃C5 Nn:Nat,∃z2,∃Bt:Nat,((l.add 0).add 3)=⟨C5,Nn,none⟩/\aF oT C5 Bt z2/\(Nn+1)<=z2.length/\k0≠C5/\k9≠C5/\jd≠C5/\∀om,ay [C5] oT om->aF om C5 Bt (cj z2 Nn [BS.v])->nx k8 fun Kg=>J2 Kg (ar U (i2+1)) om)) (sf 0 dC fun J6 uf i18 oU=>cK (decide (i18<(oq.n:Int))) (iU oq i18 oU fun i19 s4 s5 s6 Kb Nk Ij Ke i20=>nw oU fun yp mM=>gJ [k0,yp] 43 #[ae (some l),ah #[O U i19,ab s4,ab s5,ab s6,Kb.v,Nk.v,Ij.v,Ke.v,O U i20]] mM fun oo=>nx uf fun Kh=>J6 Kh (ar U (i18+1)) oo) (R (ai #[]) oU))):Cr 43 #[ae (some l),ah #[O U n_,ab tX,ab tj,ab uA,uB.v,uC.v,qz.v,oq.v,O U tq]] w R:=
 fB (an:=.d 4 (.s (.s .o (.j [0,3,4,49,50] [.s 51 (.int .i64)] (.d 2 (.s (.d 2 (.s (.s .o (.j [0,3,4,6,7,49,50,51,66,67] [.s 68 (.int .i64),.b 7 [.int .i64,.int .i64,.int .i64,.str,.int .i64,.sl,.int .i64]] .o .o)) .o)) .o)) .o)) (.s .o (.j [0,3,6,7,101,102] [.s 103 (.int .i64)] .o .o)))) (args:=[.ad l,.agg (lJ [.int .i64 n_,.str tX,.str tj,.str uA,.sl uB,.sl uC,.sl qz,.sl oq,.int .i64 tq])]) h
theorem al5(l:Sl)(R:aG)(w:av)(h:∃l0:Sl,∃w0,((Instr.makeSlice 32 (O U (l.n:Int)) (O U (l.n:Int))).run aq w)=(.ok l0.v w0)/\nw w0 fun k0 w1=>∃J0:Nat->Int->Sl->Sl->av->Prop,∃k1:Nat,J0 k1 (ar U ((l.n:Int)-1)) l l0 w1/\∀k2 i0,∀l1 l2:Sl,∀w2,J0 k2 i0 l1 l2 w2->cK (decide (i0>=0)) (∀w3,ay [] w2 w3->∃J1:aJ,J1 k0/\(aF w3 k0 106 [l1.v,l2.v]->cI 90 #[ae (some ⟨k0,0,none⟩),O U i0] w3 fun i1 w4=>akU w4 k0 106 fun l3 l4=>bP J1 w3 w4/\∃p0,cW l2 i0 1 p0/\∃k3 k4:Nat,∃z0,∃k5:Nat,p0=⟨k3,k4,none⟩/\aF w4 k3 k5 z0/\(k4+1)<=z0.length/\k0≠k3/\∀w5,ay [k3] w4 w5->aF w5 k3 k5 (cj z0 k4 [O U i1])->nx k2 fun k6=>J0 k6 (ar U (i0-1)) l3 l4 w5)) (aF w2 k0 106 [l1.v,l2.v]->R (ae (some ⟨k0,0,none⟩)) w2)):Cr 44 #[l.v] w R:=
 fB (an:=.d 2 (.s (.s .o (.j [3,10] [.s 4 (.int .i64),.b 10 [.sl,.sl]] .o .o)) .o)) (args:=[.sl l]) h
theorem al6(c:Addr)(out:Sl)(n_ k:Int)(R:aG)(w:av)(h:∃l0:Sl,∃w0,((au 32 1 #[.mk 0 (O U n_)]).run aq w)=(.ok l0.v w0)/\fg (Builtin.append_ #[32,32] 32 #[out.v,l0.v]) w0 fun l1 w1=>iz w1 (c.add 0) fun l2=>cL 76 #[l2.v,O U n_] w1 fun l3 w2=>iz w2 (c.add 0) fun l4=>∃p0,cW l4 n_ 5 p0/\iT w2 (p0.add 0) fun i0=>cK (i0==1) (QF k 0 w2 fun J0 k1 i1 i2 w3=>cK (decide (i2<(l3.n:Int))) (yz l3 i2 w3 fun i3=>iz w3 (c.add 1) fun l5=>yz l5 i3 w3 fun i4=>cK (decide (i1<i4)) (cL 45 #[ae (some c),l1.v,O U i3,O U i1] w3 fun l6 w4=>R l6.v w4) (iz w3 (c.add 1) fun l7=>yz l7 i3 w3 fun i5=>nx k1 fun k2=>J0 k2 (ar U (i1-i5)) (ar U (i2+1)) w3)) (R l1.v w3)) (fg (Instr.makeSlice 32 (O U (l3.n:Int)) (O U (l3.n:Int))) w2 fun l8 w5=>∃J1:Nat->Int->Int->av->Prop,∃k3:Nat,J1 k3 k (ar U ((l3.n:Int)-1)) w5/\∀k4 i6 i7 w6,J1 k4 i6 i7 w6->cK (decide (i7>=0)) (∀w7,ay [] w6 w7->iz w7 (c.add 1) fun l9=>yz l3 i7 w7 fun i8=>yz l9 i8 w7 fun i9=>i9≠0/\∃p6,cW l8 i7 1 p6/\∃k5 k6:Nat,∃z0,∃k7:Nat,p6=⟨k5,k6,none⟩/\aF w7 k5 k7 z0/\(k6+1)<=z0.length/\∀w8,ay [k5] w7 w8->aF w8 k5 k7 (cj z0 k6 [O U (i6.tmod i9)])->iz w8 (c.add 1) fun l10=>yz l3 i7 w8 fun i10=>yz l10 i10 w8 fun i11=>i11≠0/\∀w9,ay [] w8 w9->nx k4 fun k8=>J1 k8 (ar U (i6.tdiv i11)) (ar U (i7-1)) w9) (QF l1 0 w6 fun J2 jd mP i12 du=>cK (decide (i12<(l3.n:Int))) (yz l3 i12 du fun i13=>yz l8 i12 du fun i14=>cL 45 #[ae (some c),mP.v,O U i13,O U i14] du fun qm dC=>nx jd fun mQ=>J2 mQ qm (ar U (i12+1)) dC) (R mP.v du)))):Cr 45 #[ae (some c),out.v,O U n_,O U k] w R:=
 fB (an:=.d 3 (.s (.s .o (.s (.s (.s .o (.j [0,1,35,36] [.s 3 (.int .i64),.s 37 (.int .i64)] .o .o)) .o) .o)) (.s .o (.s (.s .o (.j [0,1,9,12] [.s 3 (.int .i64),.s 13 (.int .i64)] .o .o)) (.s (.s .o (.j [0,12,103,104] [.s 1 .sl,.s 105 (.int .i64)] .o .o)) .o))))) (args:=[.ad c,.sl out,.int .i64 n_,.int .i64 k]) h
theorem al7(p p1 p2 p3 past:Sl)(R:aG)(w:av)(h:nw w fun k0 w0=>∃m0 w1,((Instr.makeMap 127 none).run aq w0)=(.ok (.map m0) w1)/\bU [k0] w0 w1/\∃m1 w2,((Instr.makeMap 129 none).run aq w1)=(.ok (.map m1) w2)/\bU [k0] w1 w2/\nw w2 fun k1 w3=>sf 0 w3 fun J0 k3 i0 w4=>cK (decide (i0<(past.n:Int))) (akW past i0 w4 fun i1 l0=>nw w4 fun k4 w5=>∃w6,((Instr.mapUpdate 127 (.map m0) (O U i1) l0.v).run aq w5)=(.ok () w6)/\bU [k0,k1,k4] w5 w6/\nx k3 fun k5=>J0 k5 (ar U (i0+1)) w6) (aF w4 k1 131 [p.v,p1.v,p2.v,p3.v,.map m0,.map m1]->k0≠k1->R (ae (some ⟨k1,0,none⟩)) w4)):Cr 46 #[ah #[p.v,p1.v,p2.v,p3.v],past.v] w R:=
 fB (an:=.d 2 (.s (.s .o (.j [2,5,12,13,14] [.s 15 (.int .i64)] .o .o)) .o)) (args:=[.agg (lJ [.sl p,.sl p1,.sl p2,.sl p3]),.sl past]) h
theorem al8(w_:Addr)(k:Int)(R:aG)(w:av)(h:nw w fun k0 w0=>∃l0:Sl,((decide (k<0))=false->aB w0 ((w_.add 0).add 3) [l0.v])/\∃l1:Sl,(((decide (k<0))||(decide (k>=(l0.n:Int))))=false->aB w0 ((w_.add 0).add 3) [l1.v])/\∃p0,(((decide (k<0))||(decide (k>=(l0.n:Int))))=false->cW l1 k 7 p0)/\∃i0,(((decide (k<0))||(decide (k>=(l0.n:Int))))=false->aB w0 (p0.add 6) [O U i0])/\cK (((decide (k<0))||(decide (k>=(l0.n:Int))))||(decide (i0<0))) (∀w1,ay [k0] w0 w1->R (ai #[ah #[O U 0,O U 0,O U 0,ab (ao #[]),O U 0,Sl.nil.v,O U 0],aj false]) w1) (iz w0 ((w_.add 0).add 3) fun l2=>Cf l2 k w0 fun i1 i2 i3 s0 i4 l3 i5=>∀w2,ay [k0] w0 w2->R (ai #[ah #[O U i1,O U i2,O U i3,ab s0,O U i4,l3.v,O U i5],aj true]) w2)):Cr 47 #[ae (some w_),O U k] w R:=
 gH (args:=[.ad w_,.int .i64 k]) h
theorem afU(s:Sl)(del:OV)(R:aG)(w:av)(h:cI 91 #[s.v,del.v] w fun i0 w0=>cK (i0==(-1)) (R s.v w0) (QF i0 (ar U (i0+1)) w0 fun J0 k1 i1 i2 w1=>cK (decide (i2<(s.n:Int))) (rG (fun i3 w2=>nx k1 fun k2=>J0 k2 i3 (ar U (i2+1)) w2) fun J1=>yz s i2 w1 fun i4=>∃k3:Nat,∃z0 z1,del.v=(.func (.func k3) z0.toArray z1.toArray)/\(∀x0:Array aw,∀w3,((callFunc k3 x0).run aq w3)=(.ok (.enter k3 x0) w3))/\cB k3 ((uJ (uJ z0 [O U i4]) z1).toArray) w1 fun b0 w4=>cK (!b0) (∃p1,cW s i1 1 p1/\∃k4 k5:Nat,∃z2,∃k6:Nat,p1=⟨k4,k5,none⟩/\aF w4 k4 k6 z2/\(k5+1)<=z2.length/\∀w5,ay [k4] w4 w5->aF w5 k4 k6 (cj z2 k5 [O U i4])->J1 (ar U (i1+1)) w5) (J1 i1 w4)) (∃k7:Nat,(i1=(k7:Int)/\k7<=s.n/\s.n<=s.c)/\∃w6,((Builtin.clear_ #[32] 0 #[(s.cut k7 s.n s.c 1).v]).run aq w1)=(.ok (ai #[]) w6)/\∃k8:Nat,(i1=(k8:Int)/\k8<=s.c)/\R ((s.cut 0 k8 s.c 1).v) w6))):Cr 49 #[s.v,del.v] w R:=
 fB (an:=.d 3 (.s (.s .o (.j [0,1] [.s 5 (.int .i64),.s 6 (.int .i64)] (.s .o (.j [0,1,6] [.s 5 (.int .i64)] .o .o)) .o)) .o)) (args:=[.sl s,.raw del]) h
theorem al9(n_:Int)(eJ lr tt:Addr)(R:aG)(w:av)(h:rG (fun b0 w0=>R (aj b0) w0) fun J0=>xCB w eJ fun b1=>cK (!b1) (J0 true w) (iz w (lr.add 0) fun l0=>iT w (tt.add 6) fun i0=>cB 51 #[l0.v,O U n_,O U i0] w fun b2 w1=>J0 (!b2) w1)):Cr 50 #[O U n_,ae (some eJ),ae (some lr),ae (some tt)] w R:=
 fB (an:=.s .o (.s (.j [] [.s 5 .bool] .o .o) .o)) (args:=[.int .i64 n_,.ad eJ,.ad lr,.ad tt]) h
theorem ama(x:Int)(R:aG)(w:av)(h:R (O U (bits .and U (ar U (ar .u64 ((ar .u64 ((ar .u64 ((bits .and .u64 (ar .u64 (((ar .u64 ((bits .and .u64 ((ar .u64 ((bits .and .u64 (x.fdiv 2) 6148914691236517205)+(bits .and .u64 x 6148914691236517205))).fdiv 4) 3689348814741910323)+(bits .and .u64 (ar .u64 ((bits .and .u64 (x.fdiv 2) 6148914691236517205)+(bits .and .u64 x 6148914691236517205))) 3689348814741910323))).fdiv 16)+(ar .u64 ((bits .and .u64 ((ar .u64 ((bits .and .u64 (x.fdiv 2) 6148914691236517205)+(bits .and .u64 x 6148914691236517205))).fdiv 4) 3689348814741910323)+(bits .and .u64 (ar .u64 ((bits .and .u64 (x.fdiv 2) 6148914691236517205)+(bits .and .u64 x 6148914691236517205))) 3689348814741910323))))) 1085102592571150095)+((bits .and .u64 (ar .u64 (((ar .u64 ((bits .and .u64 ((ar .u64 ((bits .and .u64 (x.fdiv 2) 6148914691236517205)+(bits .and .u64 x 6148914691236517205))).fdiv 4) 3689348814741910323)+(bits .and .u64 (ar .u64 ((bits .and .u64 (x.fdiv 2) 6148914691236517205)+(bits .and .u64 x 6148914691236517205))) 3689348814741910323))).fdiv 16)+(ar .u64 ((bits .and .u64 ((ar .u64 ((bits .and .u64 (x.fdiv 2) 6148914691236517205)+(bits .and .u64 x 6148914691236517205))).fdiv 4) 3689348814741910323)+(bits .and .u64 (ar .u64 ((bits .and .u64 (x.fdiv 2) 6148914691236517205)+(bits .and .u64 x 6148914691236517205))) 3689348814741910323))))) 1085102592571150095).fdiv 256)))+((ar .u64 ((bits .and .u64 (ar .u64 (((ar .u64 ((bits .and .u64 ((ar .u64 ((bits .and .u64 (x.fdiv 2) 6148914691236517205)+(bits .and .u64 x 6148914691236517205))).fdiv 4) 3689348814741910323)+(bits .and .u64 (ar .u64 ((bits .and .u64 (x.fdiv 2) 6148914691236517205)+(bits .and .u64 x 6148914691236517205))) 3689348814741910323))).fdiv 16)+(ar .u64 ((bits .and .u64 ((ar .u64 ((bits .and .u64 (x.fdiv 2) 6148914691236517205)+(bits .and .u64 x 6148914691236517205))).fdiv 4) 3689348814741910323)+(bits .and .u64 (ar .u64 ((bits .and .u64 (x.fdiv 2) 6148914691236517205)+(bits .and .u64 x 6148914691236517205))) 3689348814741910323))))) 1085102592571150095)+((bits .and .u64 (ar .u64 (((ar .u64 ((bits .and .u64 ((ar .u64 ((bits .and .u64 (x.fdiv 2) 6148914691236517205)+(bits .and .u64 x 6148914691236517205))).fdiv 4) 3689348814741910323)+(bits .and .u64 (ar .u64 ((bits .and .u64 (x.fdiv 2) 6148914691236517205)+(bits .and .u64 x 6148914691236517205))) 3689348814741910323))).fdiv 16)+(ar .u64 ((bits .and .u64 ((ar .u64 ((bits .and .u64 (x.fdiv 2) 6148914691236517205)+(bits .and .u64 x 6148914691236517205))).fdiv 4) 3689348814741910323)+(bits .and .u64 (ar .u64 ((bits .and .u64 (x.fdiv 2) 6148914691236517205)+(bits .and .u64 x 6148914691236517205))) 3689348814741910323))))) 1085102592571150095).fdiv 256))).fdiv 65536)))+((ar .u64 ((ar .u64 ((bits .and .u64 (ar .u64 (((ar .u64 ((bits .and .u64 ((ar .u64 ((bits .and .u64 (x.fdiv 2) 6148914691236517205)+(bits .and .u64 x 6148914691236517205))).fdiv 4) 3689348814741910323)+(bits .and .u64 (ar .u64 ((bits .and .u64 (x.fdiv 2) 6148914691236517205)+(bits .and .u64 x 6148914691236517205))) 3689348814741910323))).fdiv 16)+(ar .u64 ((bits .and .u64 ((ar .u64 ((bits .and .u64 (x.fdiv 2) 6148914691236517205)+(bits .and .u64 x 6148914691236517205))).fdiv 4) 3689348814741910323)+(bits .and .u64 (ar .u64 ((bits .and .u64 (x.fdiv 2) 6148914691236517205)+(bits .and .u64 x 6148914691236517205))) 3689348814741910323))))) 1085102592571150095)+((bits .and .u64 (ar .u64 (((ar .u64 ((bits .and .u64 ((ar .u64 ((bits .and .u64 (x.fdiv 2) 6148914691236517205)+(bits .and .u64 x 6148914691236517205))).fdiv 4) 3689348814741910323)+(bits .and .u64 (ar .u64 ((bits .and .u64 (x.fdiv 2) 6148914691236517205)+(bits .and .u64 x 6148914691236517205))) 3689348814741910323))).fdiv 16)+(ar .u64 ((bits .and .u64 ((ar .u64 ((bits .and .u64 (x.fdiv 2) 6148914691236517205)+(bits .and .u64 x 6148914691236517205))).fdiv 4) 3689348814741910323)+(bits .and .u64 (ar .u64 ((bits .and .u64 (x.fdiv 2) 6148914691236517205)+(bits .and .u64 x 6148914691236517205))) 3689348814741910323))))) 1085102592571150095).fdiv 256)))+((ar .u64 ((bits .and .u64 (ar .u64 (((ar .u64 ((bits .and .u64 ((ar .u64 ((bits .and .u64 (x.fdiv 2) 6148914691236517205)+(bits .and .u64 x 6148914691236517205))).fdiv 4) 3689348814741910323)+(bits .and .u64 (ar .u64 ((bits .and .u64 (x.fdiv 2) 6148914691236517205)+(bits .and .u64 x 6148914691236517205))) 3689348814741910323))).fdiv 16)+(ar .u64 ((bits .and .u64 ((ar .u64 ((bits .and .u64 (x.fdiv 2) 6148914691236517205)+(bits .and .u64 x 6148914691236517205))).fdiv 4) 3689348814741910323)+(bits .and .u64 (ar .u64 ((bits .and .u64 (x.fdiv 2) 6148914691236517205)+(bits .and .u64 x 6148914691236517205))) 3689348814741910323))))) 1085102592571150095)+((bits .and .u64 (ar .u64 (((ar .u64 ((bits .and .u64 ((ar .u64 ((bits .and .u64 (x.fdiv 2) 6148914691236517205)+(bits .and .u64 x 6148914691236517205))).fdiv 4) 3689348814741910323)+(bits .and .u64 (ar .u64 ((bits .and .u64 (x.fdiv 2) 6148914691236517205)+(bits .and .u64 x 6148914691236517205))) 3689348814741910323))).fdiv 16)+(ar .u64 ((bits .and .u64 ((ar .u64 ((bits .and .u64 (x.fdiv 2) 6148914691236517205)+(bits .and .u64 x 6148914691236517205))).fdiv 4) 3689348814741910323)+(bits .and .u64 (ar .u64 ((bits .and .u64 (x.fdiv 2) 6148914691236517205)+(bits .and .u64 x 6148914691236517205))) 3689348814741910323))))) 1085102592571150095).fdiv 256))).fdiv 65536))).fdiv 4294967296)))) 127)) w):Cr 52 #[.int .u64 x] w R:=
 gH (args:=[.int .u64 x]) h
theorem afV(kind:Int)(R:aG)(w:av)(h:R (aj ((kind==1)||(kind==2))) w):Cr 53 #[O U kind] w R:=
 gH (args:=[.int .i64 kind]) h
theorem amb(l fO:Sl)(R:aG)(w:av)(h:nw w fun k0 w0=>BJ [k0] 48 #[fO.v] w0 fun l0 w1=>(aF w1 k0 52 [l.v]->cL 49 #[l0.v,.func (.func 94) #[] #[ae (some ⟨k0,0,none⟩)]] w1 fun l1 w2=>Ue w2 k0 52 fun l2=>cL 93 #[l1.v] w2 fun l3 w3=>Ue w3 k0 52 fun l4=>R l3.v w3)):Cr 54 #[l.v,fO.v] w R:=
 gH (args:=[.sl l,.sl fO]) h
theorem v9w(c:Addr)(leaf:Int)(R:aG)(w:av)(h:∃l0:Sl,∃w0,((au 32 1 #[.mk 0 (O U leaf)]).run aq w)=(.ok l0.v w0)/\iz w0 ((c.add 0).add 0) fun l1=>cL 96 #[l1.v,O U leaf] w0 fun l2 w1=>fg (Builtin.append_ #[32,32] 32 #[l0.v,l2.v]) w1 fun l3 w2=>sf 0 w2 fun J0 k1 i0 w3=>cK (decide (i0<(l3.n:Int))) (yz l3 i0 w3 fun i1=>nw w3 fun k2 w4=>iz w4 ((c.add 0).add 3) fun l4=>(aF w4 k2 3 [O U i1]->cI 97 #[l4.v,.func (.func 98) #[] #[ae (some ⟨k2,0,none⟩)]] w4 fun i2 w5=>xKI w5 k2 3 fun i3=>sf i2 w5 fun J1 k4 i4 w6=>∃l5:Sl,((decide (i4>=0))=true->aB w6 ((c.add 0).add 3) [l5.v])/\∃l6:Sl,((decide (i4>=0))=true->aB w6 (c.add 5) [l6.v])/\∃l7:Sl,(((decide (i4>=0))&&(decide (i4<(if(l6.n:Int)<(l5.n:Int)then(l6.n:Int)else(l5.n:Int)))))=true->aB w6 ((c.add 0).add 3) [l7.v])/\∃p1,(((decide (i4>=0))&&(decide (i4<(if(l6.n:Int)<(l5.n:Int)then(l6.n:Int)else(l5.n:Int)))))=true->cW l7 i4 7 p1)/\∃i5,(((decide (i4>=0))&&(decide (i4<(if(l6.n:Int)<(l5.n:Int)then(l6.n:Int)else(l5.n:Int)))))=true->aB w6 (p1.add 0) [O U i5])/\cK (((decide (i4>=0))&&(decide (i4<(if(l6.n:Int)<(l5.n:Int)then(l6.n:Int)else(l5.n:Int)))))&&(i5==i3)) (∀w7,ay [] w6 w7->aF w7 k2 3 [O U i3]->iz w7 (c.add 5) fun l8=>xYB l8 i4 w7 fun b0=>cK b0 (R (O U i4) w7) (nx k4 fun k5=>J1 k5 (ar U (i4+1)) w7)) (∀w8,ay [] w6 w8->aF w8 k2 3 [O U i3]->nx k1 fun k6=>J0 k6 (ar U (i0+1)) w8))) (R (O U (-1)) w3)):Cr 55 #[ae (some c),O U leaf] w R:=
 fB (an:=.s .o (.s (.s .o (.j [0,17,18] [.s 19 (.int .i64)] (.d 2 (.s (.d 2 (.j [0,6,17,18,19] [.s 7 (.int .i64)] .o .o)) .o)) .o)) .o)) (args:=[.ad c,.int .i64 leaf]) h
theorem afW(s:Sl)(v1:Int)(R:aG)(w:av)(h:cI 99 #[s.v,O U v1] w fun i0 w0=>R (aj (decide (i0>=0))) w0):Cr 56 #[s.v,O U v1] w R:=
 gH (args:=[.sl s,.int .i64 v1]) h
theorem v3w(o:Int)(eJ lr tt:Addr)(R:aG)(w:av)(h:ZX w eJ fun l0 l1 l2 l3=>iz w lr fun l4=>iT w tt fun i0=>cB 27 #[ah #[l0.v,l1.v,l2.v,l3.v],l4.v,O U i0,O U o] w fun b0 w0=>R (aj b0) w0):Cr 57 #[O U o,ae (some eJ),ae (some lr),ae (some tt)] w R:=
 gH (args:=[.int .i64 o,.ad eJ,.ad lr,.ad tt]) h
theorem v4w(o:Int)(eJ lr tt:Addr)(R:aG)(w:av)(h:rG (fun b0 w0=>R (aj b0) w0) fun J0=>xCV w eJ fun v0=>∃k0:Nat,∃z0 z1,v0.v=(.func (.func k0) z0.toArray z1.toArray)/\(∀x0:Array aw,∀w1,((callFunc k0 x0).run aq w1)=(.ok (.enter k0 x0) w1))/\cB k0 ((uJ (uJ z0 [O U o]) z1).toArray) w fun b1 w2=>cK b1 (ZY w2 lr fun q0=>iT w2 tt fun i0=>cB 60 #[ae q0,O U i0,O U o] w2 fun b2 w3=>J0 (!b2) w3) (J0 false w2)):Cr 59 #[O U o,ae (some eJ),ae (some lr),ae (some tt)] w R:=
 fB (an:=.s .o (.s (.j [] [.s 5 .bool] .o .o) .o)) (args:=[.int .i64 o,.ad eJ,.ad lr,.ad tt]) h
theorem amc(c:Addr)(a_ bb:Int)(R:aG)(w:av)(h:∀w0,ay [] w w0->iz w0 ((c.add 0).add 0) fun l0=>iz w0 ((c.add 0).add 3) fun l1=>∃p0,cW l1 a_ 7 p0/\iT w0 (p0.add 0) fun i0=>iz w0 ((c.add 0).add 3) fun l2=>∃p1,cW l2 bb 7 p1/\iT w0 (p1.add 0) fun i1=>cB 51 #[l0.v,O U i0,O U i1] w0 fun b0 w1=>R (aj b0) w1):Cr 60 #[ae (some c),O U a_,O U bb] w R:=
 gH (args:=[.ad c,.int .i64 a_,.int .i64 bb]) h
theorem v6w(n_:Int)(eJ:Addr)(R:aG)(w:av)(h:iz w eJ fun l0=>cB 56 #[l0.v,O U n_] w fun b0 w0=>R (aj b0) w0):Cr 61 #[O U n_,ae (some eJ)] w R:=
 gH (args:=[.int .i64 n_,.ad eJ]) h
theorem amd(l:Sl)(n_:Int)(R:aG)(w:av)(h:cB 100 #[l.v,O U n_] w fun b0 w0=>cK (!b0) (R Sl.nil.v w0) (∃J0:Nat->Sl->Int->av->Prop,∃k0:Nat,J0 k0 Sl.nil (ar U (n_+1)) w0/\∀k1,∀l0:Sl,∀i0 w1,J0 k1 l0 i0 w1->∃p0,cW l n_ 5 p0/\iT w1 (p0.add 4) fun i1=>cK (decide (i0<i1)) (fg (au 32 1 #[.mk 0 (O U i0)]) w1 fun l1 w2=>fg (Builtin.append_ #[32,32] 32 #[l0.v,l1.v]) w2 fun l2 w3=>∃p1,cW l i0 5 p1/\iT w3 (p1.add 4) fun i2=>nx k1 fun k2=>J0 k2 l2 i2 w3) (R l0.v w1))):Cr 65 #[l.v,O U n_] w R:=
 fB (an:=.d 3 (.s (.s .o (.j [0,1] [.s 5 .sl,.s 6 (.int .i64)] .o .o)) .o)) (args:=[.sl l,.int .i64 n_]) h
theorem ame(r:Sl)(n_:Int)(R:aG)(w:av)(h:nw w fun k0 w0=>BJ [k0] 65 #[r.v,O U n_] w0 fun l0 w1=>(aF w1 k0 104 [r.v]->cL 49 #[l0.v,.func (.func 108) #[] #[ae (some ⟨k0,0,none⟩)]] w1 fun l1 w2=>Ue w2 k0 104 fun l2=>R l1.v w2)):Cr 76 #[r.v,O U n_] w R:=
 gH (args:=[.sl r,.int .i64 n_]) h
theorem afX(l:Sl)(R:aG)(w:av)(h:cL 121 #[l.v] w fun l0 w0=>sf 0 w0 fun J0 k1 i0 w1=>cK (decide (i0<(l0.n:Int))) (∃p0,cW l0 i0 9 p0/\iz w1 ((p0.add 2).add 4) fun l1=>cL 82 #[l1.v] w1 fun l2 w2=>∃p1,cW l0 i0 9 p1/\∃k2 k3:Nat,∃z0,∃k4:Nat,((p1.add 2).add 4)=⟨k2,k3,none⟩/\aF w2 k2 k4 z0/\(k3+1)<=z0.length/\∀w3,ay [k2] w2 w3->aF w3 k2 k4 (cj z0 k3 [l2.v])->nx k1 fun k5=>J0 k5 (ar U (i0+1)) w3) (R l0.v w1)):Cr 81 #[l.v] w R:=
 fB (an:=.d 2 (.s (.s .o (.j [3,8] [.s 9 (.int .i64)] .o .o)) .o)) (args:=[.sl l]) h
theorem XS(l:Sl)(R:aG)(w:av)(h:cL 122 #[l.v] w fun l0 w0=>sf 0 w0 fun J0 k1 i0 w1=>cK (decide (i0<(l0.n:Int))) (∃p0,cW l0 i0 6 p0/\iz w1 (p0.add 4) fun l1=>cL 82 #[l1.v] w1 fun l2 w2=>∃p1,cW l0 i0 6 p1/\∃k2 k3:Nat,∃z0,∃k4:Nat,(p1.add 4)=⟨k2,k3,none⟩/\aF w2 k2 k4 z0/\(k3+1)<=z0.length/\∀w3,ay [k2] w2 w3->aF w3 k2 k4 (cj z0 k3 [l2.v])->nx k1 fun k5=>J0 k5 (ar U (i0+1)) w3) (R l0.v w1)):Cr 82 #[l.v] w R:=
 fB (an:=.d 2 (.s (.s .o (.j [3,8] [.s 9 (.int .i64)] .o .o)) .o)) (args:=[.sl l]) h
theorem amf(l:Addr)(name:aK)(R:aG)(w:av)(h:cK (name.toList==((ao #[]).toList)) (R (O U (-1)) w) (iz w ((l.add 0).add 0) fun l0=>cI 129 #[l0.v,ab name] w fun i0 w0=>R (O U i0) w0)):Cr 88 #[ae (some l),ab name] w R:=
 gH (args:=[.ad l,.str name]) h
theorem amg(l:Addr)(source:Int)(targets:Sl)(R:aG)(w:av)(h:cK ((targets.n:Int)==0) (R (O U (-1)) w) (∃l0:Sl,∃w0,((au 32 1 #[.mk 0 (O U source)]).run aq w)=(.ok l0.v w0)/\fg (Builtin.append_ #[32,32] 32 #[l0.v,targets.v]) w0 fun l1 w1=>iz w1 ((l.add 0).add 0) fun l2=>cI 130 #[l2.v,l1.v] w1 fun i0 w2=>sf i0 w2 fun J0 k1 i1 w3=>rG (fun b0 w4=>cK b0 (iz w4 ((l.add 0).add 0) fun l3=>∃p0,cW l3 i1 5 p0/\iT w4 (p0.add 2) fun i2=>nx k1 fun k2=>J0 k2 i2 w4) (R (O U i1) w4)) fun J1=>cK (decide (i1>0)) (iz w3 ((l.add 0).add 0) fun l4=>∃p1,cW l4 i1 5 p1/\iT w3 (p1.add 0) fun i3=>cK (i3 !=1) (J1 true w3) (cB 56 #[l1.v,O U i1] w3 fun b1 w5=>J1 b1 w5)) (J1 false w3))):Cr 89 #[ae (some l),O U source,targets.v] w R:=
 fB (an:=.d 4 (.s (.j [0,7] [.s 8 (.int .i64)] (.s (.s (.j [0,7,8] [.s 41 .bool] .o .o) .o) .o) .o) .o)) (args:=[.ad l,.int .i64 source,.sl targets]) h
theorem amh(c:Addr)(n_:Int)(R:aG)(w:av)(h:iz w (c.add 0) fun l0=>cL 76 #[l0.v,O U n_] w fun l1 w0=>cK ((l1.n:Int)==0) (R (O U 1) w0) (∃J0:Nat->Int->Int->Int->av->Prop,∃k0:Nat,J0 k0 0 1 0 w0/\∀k1 i0 i1 i2 w1,J0 k1 i0 i1 i2 w1->cK (decide (i2<(l1.n:Int))) (yz l1 i2 w1 fun i3=>iz w1 (c.add 1) fun l2=>yz l2 i3 w1 fun i4=>iz w1 (c.add 1) fun l3=>yz l3 i3 w1 fun i5=>∀w2,ay [] w1 w2->nx k1 fun k2=>J0 k2 (ar U (i0+i4)) (ar U (i1*i5)) (ar U (i2+1)) w2) (iz w1 (c.add 0) fun l4=>∃p3,cW l4 n_ 5 p3/\iT w1 (p3.add 0) fun i6=>cK (i6==2) (R (O U i1) w1) (R (O U i0) w1)))):Cr 90 #[ae (some c),O U n_] w R:=
 fB (an:=.d 4 (.s (.s .o (.j [0,1,19,20] [.s 6 (.int .i64),.s 7 (.int .i64),.s 21 (.int .i64)] .o .o)) .o)) (args:=[.ad c,.int .i64 n_]) h
theorem ami(l:Sl)(R:aG)(w:av)(h:cU 78 #[l.v] w fun w0=>cL 79 #[l.v] w0 fun l0 w1=>R l0.v w1):Cr 93 #[l.v] w R:=
 gH (args:=[.sl l]) h
theorem amj(n_:Int)(eJ:Addr)(R:aG)(w:av)(h:iz w eJ fun l0=>cB 95 #[l0.v,O U n_] w fun b0 w0=>R (aj (!b0)) w0):Cr 94 #[O U n_,ae (some eJ)] w R:=
 gH (args:=[.int .i64 n_,.ad eJ]) h
theorem amk(r:Sl)(n_:Int)(R:aG)(w:av)(h:rG (fun b0 w0=>R (aj b0) w0) fun J0=>∃p0,(((decide (n_>=0))&&(decide (n_<(r.n:Int))))=true->cW r n_ 5 p0)/\∃i0,(((decide (n_>=0))&&(decide (n_<(r.n:Int))))=true->aB w (p0.add 0) [O U i0])/\cK (((decide (n_>=0))&&(decide (n_<(r.n:Int))))&&(i0==1)) (cL 76 #[r.v,O U n_] w fun l0 w1=>J0 ((l0.n:Int)==0) w1) (J0 false w)):Cr 95 #[r.v,O U n_] w R:=
 fB (an:=.s .o (.s (.j [] [.s 4 .bool] .o .o) .o)) (args:=[.sl r,.int .i64 n_]) h
theorem aml(l:Sl)(n_:Int)(R:aG)(w:av)(h:cB 100 #[l.v,O U n_] w fun b0 w0=>cK (!b0) (R Sl.nil.v w0) (∃p0,cW l n_ 5 p0/\iT w0 (p0.add 2) fun i0=>∃J0:Nat->Int->Sl->av->Prop,∃k0:Nat,J0 k0 i0 Sl.nil w0/\∀k1 i1,∀l0:Sl,∀w1,J0 k1 i1 l0 w1->cK (decide (i1>=0)) (fg (au 32 1 #[.mk 0 (O U i1)]) w1 fun l1 w2=>fg (Builtin.append_ #[32,32] 32 #[l0.v,l1.v]) w2 fun l2 w3=>∃p1,cW l i1 5 p1/\iT w3 (p1.add 2) fun i2=>nx k1 fun k2=>J0 k2 i2 l2 w3) (R l0.v w1))):Cr 96 #[l.v,O U n_] w R:=
 fB (an:=.d 3 (.s (.s .o (.j [0] [.s 1 (.int .i64),.s 5 .sl] .o .o)) .o)) (args:=[.sl l,.int .i64 n_]) h
theorem afY(s:Sl)(f:OV)(R:aG)(w:av)(h:sf 0 w fun J0 k1 i0 w0=>cK (decide (i0<(s.n:Int))) (Cf s i0 w0 fun i1 i2 i3 s0 i4 l0 i5=>∃k2:Nat,∃z0 z1,f.v=(.func (.func k2) z0.toArray z1.toArray)/\(∀x0:Array aw,∀w1,((callFunc k2 x0).run aq w1)=(.ok (.enter k2 x0) w1))/\cB k2 ((uJ (uJ z0 [ah #[O U i1,O U i2,O U i3,ab s0,O U i4,l0.v,O U i5]]) z1).toArray) w0 fun b0 w2=>cK b0 (R (O U i0) w2) (nx k1 fun k3=>J0 k3 (ar U (i0+1)) w2)) (R (O U (-1)) w0)):Cr 97 #[s.v,f.v] w R:=
 fB (an:=.s .o (.s (.s .o (.j [0,1,7] [.s 8 (.int .i64)] .o .o)) .o)) (args:=[.sl s,.raw f]) h
theorem v8w(r r1 r2:Int)(r3:aK)(r4:Int)(r5:Sl)(r6:Int)(eJ:Addr)(R:aG)(w:av)(h:nw w fun k0 w0=>iT w0 eJ fun i0=>R (aj (r==i0)) w0):Cr 98 #[ah #[O U r,O U r1,O U r2,ab r3,O U r4,r5.v,O U r6],ae (some eJ)] w R:=
 gH (args:=[.agg (lJ [.int .i64 r,.int .i64 r1,.int .i64 r2,.str r3,.int .i64 r4,.sl r5,.int .i64 r6]),.ad eJ]) h
theorem afZ(s:Sl)(v1:Int)(R:aG)(w:av)(h:sf 0 w fun J0 k1 i0 w0=>cK (decide (i0<(s.n:Int))) (yz s i0 w0 fun i1=>cK (v1==i1) (R (O U i0) w0) (nx k1 fun k2=>J0 k2 (ar U (i0+1)) w0)) (R (O U (-1)) w0)):Cr 99 #[s.v,O U v1] w R:=
 fB (an:=.s .o (.s (.s .o (.j [0,1,7] [.s 8 (.int .i64)] .o .o)) .o)) (args:=[.sl s,.int .i64 v1]) h
theorem amm(k:Int)(eJ:Addr)(R:aG)(w:av)(h:iz w eJ fun l0=>∃p0,cW l0 k 5 p0/\iT w (p0.add 0) fun i0=>cB 109 #[O U i0] w fun b0 w0=>R (aj (!b0)) w0):Cr 108 #[O U k,ae (some eJ)] w R:=
 gH (args:=[.int .i64 k,.ad eJ]) h
theorem amn(kind:Int)(R:aG)(w:av)(h:R (aj ((kind==1)||(kind==2))) w):Cr 109 #[O U kind] w R:=
 gH (args:=[.int .i64 kind]) h
theorem af0(s:Sl)(R:aG)(w:av)(h:cK s.a.isNone (R Sl.nil.v w) (∃l0:Sl,∃w0,((au 23 0 #[]).run aq w)=(.ok l0.v w0)/\fg (Builtin.append_ #[23,23] 23 #[l0.v,s.v]) w0 fun l1 w1=>R l1.v w1)):Cr 121 #[s.v] w R:=
 gH (args:=[.sl s]) h
theorem af1(s:Sl)(R:aG)(w:av)(h:cK s.a.isNone (R Sl.nil.v w) (∃l0:Sl,∃w0,((au 62 0 #[]).run aq w)=(.ok l0.v w0)/\fg (Builtin.append_ #[62,62] 62 #[l0.v,s.v]) w0 fun l1 w1=>R l1.v w1)):Cr 122 #[s.v] w R:=
 gH (args:=[.sl s]) h
theorem amo(x:Int)(R:aG)(w:av)(h:cK (x==0) (R (O U 64) w) (∃p0,F1 ⟨0,0,none⟩ ((ar .u64 ((bits .and .u64 x (ar .u64 (0-x)))*285870213051353865)).fdiv 288230376151711744) 64 1 p0/\∃i0,aB w p0 [.int .u8 i0]/\R (O U (ar U i0)) w)):Cr 40 #[.int .u64 x] w R:=
 gH (args:=[.int .u64 x]) h
end Go.Proofs.YtbkjcdocjfknfaaGreatDoor.Vc
namespace Go.Proofs
open Go.Shelf
def Tryz.ye:Go.Shelf.Ren:=⟨fun | 156=>228 | 165=>227 | 166=>202 | 169=>175 | 240=>225 | 241=>244 | 276=>241 | 277=>259 | n=>n,fun | 31=>31 | 9=>9 | 3=>3 | 4=>4 | 0=>0 | 20=>20 | 72=>243 | 76=>275 | 70=>240 | 37=>241 | 75=>274 | 127=>284 | 164=>308 | 5=>5 | 80=>252 | n=>n,fun | n=>n⟩
theorem Tryz.M6:Go.Proofs.Lays.n156 Tryz.prog Tryz.ye:={
 mixed:=by kernel_rfl
 f156:=Tryz.func228.trans (bI some (by kernel_rfl))
 f165:=Tryz.func227.trans (bI some (by kernel_rfl))
 f166:=Tryz.func202.trans (bI some (by kernel_rfl))
 f169:=Tryz.func175.trans (bI some (by kernel_rfl))
 f240:=Tryz.func225.trans (bI some (by kernel_rfl))
 f241:=Tryz.func244.trans (bI some (by kernel_rfl))
 f276:=Tryz.func241.trans (bI some (by kernel_rfl))
 f277:=Tryz.func259.trans (bI some (by kernel_rfl))
 t0:=Tryz.underlying0
 a0:=Tryz.isAgg0
 z0:=Tryz.sizeOf0
 v0:=Tryz.zeroValue0
 t3:=Tryz.underlying3
 a3:=Tryz.isAgg3
 z3:=Tryz.sizeOf3
 v3:=Tryz.zeroValue3
 t4:=Tryz.underlying4
 a4:=Tryz.isAgg4
 z4:=Tryz.sizeOf4
 v4:=Tryz.zeroValue4
 t9:=Tryz.underlying9
 a9:=Tryz.isAgg9
 z9:=Tryz.sizeOf9
 v9:=Tryz.zeroValue9
 t20:=Tryz.underlying20
 a20:=Tryz.isAgg20
 z20:=Tryz.sizeOf20
 v20:=Tryz.zeroValue20
 t31:=Tryz.underlying31
 a31:=Tryz.isAgg31
 z31:=Tryz.sizeOf31
 v31:=Tryz.zeroValue31
 t37:=Tryz.underlying241
 a37:=Tryz.isAgg241
 z37:=Tryz.sizeOf241
 v37:=Tryz.zeroValue241
 t70:=Tryz.underlying240
 a70:=Tryz.isAgg240
 z70:=Tryz.sizeOf240
 v70:=Tryz.zeroValue240
 t72:=Tryz.underlying243
 a72:=Tryz.isAgg243
 z72:=Tryz.sizeOf243
 v72:=Tryz.zeroValue243
 t75:=Tryz.underlying274
 a75:=Tryz.isAgg274
 z75:=Tryz.sizeOf274
 v75:=Tryz.zeroValue274
 t76:=Tryz.underlying275
 a76:=Tryz.isAgg275
 z76:=Tryz.sizeOf275
 v76:=Tryz.zeroValue275
 t127:=Tryz.underlying284
 a127:=Tryz.isAgg284
 z127:=Tryz.sizeOf284
 v127:=Tryz.zeroValue284
 t164:=Tryz.underlying308
 a164:=Tryz.isAgg308
 z164:=Tryz.sizeOf308
 v164:=Tryz.zeroValue308}
theorem Tryz.oS:Builder.Extra Tryz.prog Tryz.ye:={
 sizeBuilder:=by kernel_rfl
 liesBuilder:=by kernel_rfl
 t5:=Tryz.underlying5
 a5:=Tryz.isAgg5
 z5:=Tryz.sizeOf5
 v5:=Tryz.zeroValue5
 infoByte:=by kernel_rfl
 cellsByte:=by kernel_rfl
 sizeByte:=by kernel_rfl
 neB5:=by decide}
open Go.RowKit in
theorem Tryz.strings_Join_none (a:Option Addr) (c:Nat) (sep:ByteArray) (w:World):
 Calls Tryz.prog 228 #[.slice a 0 c,.string sep] w fun e w'=>e=.returned (.string ⟨#[]⟩)/\w'=w:=Any.strings_Join_none Tryz.M6 Tryz.oS a c sep w
open Go.RowKit in
theorem Tryz.strings_Join (bk o c:Nat) (xs:List ByteArray) (sep:ByteArray) (w:World) (uZ:∀(j:Nat) x,xs[j]? =some x->w.cell? ⟨bk,o+j,none⟩=some (.string x)) (Pv:bk<w.heap.size) (hN:xs.length<=140737488355328) (mU:xs.length<=c) (fi:(Lib.join (xs.map (·.data.toList)) sep.data.toList).length<=140737488355328):
 Calls Tryz.prog 228 #[.slice (some ⟨bk,o,none⟩) xs.length c,.string sep] w fun e w'=>e=.returned (.string ⟨(Lib.join (xs.map (·.data.toList)) sep.data.toList).toArray⟩)/\Below w.heap.size w w':=Any.strings_Join Tryz.M6 Tryz.oS bk o c xs sep w uZ Pv hN mU fi
def Tryz.ET:Go.Shelf.Ren:=⟨fun | 171=>206 | 243=>231 | 246=>246 | 283=>260 | 284=>261 | 285=>262 | 286=>263 | 129=>140 | 317=>276 | 318=>277 | 319=>278 | 320=>279 | 337=>295 | 338=>40 | n=>n,fun | 3=>3 | 9=>9 | 2=>2 | 4=>4 | 171=>327 | 0=>0 | 53=>42 | 37=>241 | 5=>5 | 173=>329 | 212=>347 | 51=>215 | 20=>20 | 213=>348 | 46=>150 | 232=>364 | 233=>149 | n=>n,fun | 17=>2 | 18=>5 | 19=>0 | n=>n⟩
theorem Tryz.S1:Go.Proofs.LaysM.n171 Tryz.prog Tryz.ET:={
 mixed:=by kernel_rfl
 f129:=Tryz.func140.trans (bI some (by kernel_rfl))
 f171:=Tryz.func206.trans (bI some (by kernel_rfl))
 f243:=Tryz.func231.trans (bI some (by kernel_rfl))
 f246:=Tryz.func246.trans (bI some (by kernel_rfl))
 f283:=Tryz.func260.trans (bI some (by kernel_rfl))
 f284:=Tryz.func261.trans (bI some (by kernel_rfl))
 f285:=Tryz.func262.trans (bI some (by kernel_rfl))
 f286:=Tryz.func263.trans (bI some (by kernel_rfl))
 f317:=Tryz.func276.trans (bI some (by kernel_rfl))
 f318:=Tryz.func277.trans (bI some (by kernel_rfl))
 f319:=Tryz.func278.trans (bI some (by kernel_rfl))
 f320:=Tryz.func279.trans (bI some (by kernel_rfl))
 f337:=Tryz.func295.trans (bI some (by kernel_rfl))
 f338:=Tryz.func40.trans (bI some (by kernel_rfl))
 t0:=Tryz.underlying0
 a0:=Tryz.isAgg0
 z0:=Tryz.sizeOf0
 v0:=Tryz.zeroValue0
 t2:=Tryz.underlying2
 a2:=Tryz.isAgg2
 z2:=Tryz.sizeOf2
 v2:=Tryz.zeroValue2
 t3:=Tryz.underlying3
 a3:=Tryz.isAgg3
 z3:=Tryz.sizeOf3
 v3:=Tryz.zeroValue3
 t4:=Tryz.underlying4
 a4:=Tryz.isAgg4
 z4:=Tryz.sizeOf4
 v4:=Tryz.zeroValue4
 t5:=Tryz.underlying5
 a5:=Tryz.isAgg5
 z5:=Tryz.sizeOf5
 v5:=Tryz.zeroValue5
 t9:=Tryz.underlying9
 a9:=Tryz.isAgg9
 z9:=Tryz.sizeOf9
 v9:=Tryz.zeroValue9
 t20:=Tryz.underlying20
 a20:=Tryz.isAgg20
 z20:=Tryz.sizeOf20
 v20:=Tryz.zeroValue20
 t37:=Tryz.underlying241
 a37:=Tryz.isAgg241
 z37:=Tryz.sizeOf241
 v37:=Tryz.zeroValue241
 t46:=Tryz.underlying150
 a46:=Tryz.isAgg150
 z46:=Tryz.sizeOf150
 v46:=Tryz.zeroValue150
 t51:=Tryz.underlying215
 a51:=Tryz.isAgg215
 z51:=Tryz.sizeOf215
 v51:=Tryz.zeroValue215
 t53:=Tryz.underlying42
 a53:=Tryz.isAgg42
 z53:=Tryz.sizeOf42
 v53:=Tryz.zeroValue42
 t171:=Tryz.underlying327
 a171:=Tryz.isAgg327
 z171:=Tryz.sizeOf327
 v171:=Tryz.zeroValue327
 t173:=Tryz.underlying329
 a173:=Tryz.isAgg329
 z173:=Tryz.sizeOf329
 v173:=Tryz.zeroValue329
 t212:=Tryz.underlying347
 a212:=Tryz.isAgg347
 z212:=Tryz.sizeOf347
 v212:=Tryz.zeroValue347
 t213:=Tryz.underlying348
 a213:=Tryz.isAgg348
 z213:=Tryz.sizeOf348
 t232:=Tryz.underlying364
 a232:=Tryz.isAgg364
 z232:=Tryz.sizeOf364
 v232:=Tryz.zeroValue364
 t233:=Tryz.underlying149
 a233:=Tryz.isAgg149
 z233:=Tryz.sizeOf149
 v233:=Tryz.zeroValue149
 g17:=by kernel_rfl
 g18:=by kernel_rfl
 g19:=by kernel_rfl
 i0:=by kernel_rfl
 i2:=by kernel_rfl
 i3:=by kernel_rfl
 i4:=by kernel_rfl
 i5:=by kernel_rfl
 i9:=by kernel_rfl
 i20:=by kernel_rfl
 i37:=by kernel_rfl
 i46:=by kernel_rfl
 i51:=by kernel_rfl
 i53:=by kernel_rfl
 i171:=by kernel_rfl
 i173:=by kernel_rfl
 i212:=by kernel_rfl
 i232:=by kernel_rfl
 i233:=by kernel_rfl
 m17:=by kernel_rfl
 m18:=by kernel_rfl
 m19:=by kernel_rfl}
open Go.RowKit Go.Sort Go.Lib in
theorem Tryz.strconv_Itoa (n:Int) (h0: -9223372036854775808<=n) (h1:n<=9223372036854775807) (w:World) (anw:Lib.TabIs Tryz.prog w "internal/strconv.uint64pow10" .u64 Lib.pow10Tab):
 Calls Tryz.prog 206 #[.int .i64 n] w fun e w'=>e=.returned (.string ⟨(Lib.itoa n).toArray⟩)/\∃k os,w'=grow (w.drewN k) os:=Any.strconv_Itoa Tryz.S1 n h0 h1 w anw
def Tryz.EU:Go.Shelf.Ren:=⟨fun | 316=>237 | n=>n,fun | 9=>9 | 3=>3 | 4=>4 | 37=>241 | 0=>0 | 127=>284 | 5=>5 | n=>n,fun | n=>n⟩
theorem Tryz.S2:Go.Proofs.LaysM.n316 Tryz.prog Tryz.EU:={
 mixed:=by kernel_rfl
 f316:=Tryz.func237.trans (bI some (by kernel_rfl))
 t0:=Tryz.underlying0
 a0:=Tryz.isAgg0
 z0:=Tryz.sizeOf0
 v0:=Tryz.zeroValue0
 t3:=Tryz.underlying3
 a3:=Tryz.isAgg3
 z3:=Tryz.sizeOf3
 v3:=Tryz.zeroValue3
 t4:=Tryz.underlying4
 a4:=Tryz.isAgg4
 z4:=Tryz.sizeOf4
 v4:=Tryz.zeroValue4
 t9:=Tryz.underlying9
 a9:=Tryz.isAgg9
 z9:=Tryz.sizeOf9
 v9:=Tryz.zeroValue9
 t37:=Tryz.underlying241
 a37:=Tryz.isAgg241
 z37:=Tryz.sizeOf241
 v37:=Tryz.zeroValue241
 t127:=Tryz.underlying284
 a127:=Tryz.isAgg284
 z127:=Tryz.sizeOf284
 v127:=Tryz.zeroValue284
 t5:=Tryz.underlying5
 a5:=Tryz.isAgg5
 z5:=Tryz.sizeOf5
 v5:=Tryz.zeroValue5
 i0:=by kernel_rfl
 i3:=by kernel_rfl
 i4:=by kernel_rfl
 i5:=by kernel_rfl
 i9:=by kernel_rfl
 i37:=by kernel_rfl
 i127:=by kernel_rfl}
open Go.RowKit in
theorem Tryz.stringslite_Clone (s:ByteArray) (w:World) (abC:s.size<=281474976710656):
 Calls Tryz.prog 237 #[.string s] w fun e w'=>e=.returned (.string s)/\Below w.heap.size w w':=Any.stringslite_Clone Tryz.S2 s w abC
def Tryz.EV:Go.Shelf.Ren:=⟨fun | 174=>239 | 247=>252 | 245=>253 | 287=>269 | 279=>270 | 280=>271 | 281=>272 | 282=>273 | 321=>285 | 322=>286 | 316=>237 | 171=>206 | 205=>287 | 243=>231 | 246=>246 | 283=>260 | 284=>261 | 285=>262 | 286=>263 | 129=>140 | 317=>276 | 318=>277 | 319=>278 | 320=>279 | 337=>295 | 338=>40 | n=>n,fun | 9=>9 | 3=>3 | 2=>2 | 75=>274 | 85=>304 | 4=>4 | 167=>339 | 5=>5 | 53=>42 | 175=>340 | 46=>150 | 168=>342 | 37=>241 | 0=>0 | 210=>354 | 21=>21 | 127=>284 | 145=>363 | 143=>361 | 171=>327 | 173=>329 | 212=>347 | 51=>215 | 20=>20 | 213=>348 | 232=>364 | 233=>149 | 80=>252 | n=>n,fun | 15=>3 | 16=>4 | 17=>2 | 18=>5 | 19=>0 | n=>n⟩
theorem Tryz.HQ:Go.Proofs.LaysC.n174 Tryz.prog Tryz.EV:={
 mixed:=by kernel_rfl
 f129:=Tryz.func140.trans (bI some (by kernel_rfl))
 f171:=Tryz.func206.trans (bI some (by kernel_rfl))
 f174:=Tryz.func239.trans (bI some (by kernel_rfl))
 f205:=Tryz.func287.trans (bI some (by kernel_rfl))
 f243:=Tryz.func231.trans (bI some (by kernel_rfl))
 f245:=Tryz.func253.trans (bI some (by kernel_rfl))
 f246:=Tryz.func246.trans (bI some (by kernel_rfl))
 f247:=Tryz.func252.trans (bI some (by kernel_rfl))
 f279:=Tryz.func270.trans (bI some (by kernel_rfl))
 f280:=Tryz.func271.trans (bI some (by kernel_rfl))
 f281:=Tryz.func272.trans (bI some (by kernel_rfl))
 f282:=Tryz.func273.trans (bI some (by kernel_rfl))
 f283:=Tryz.func260.trans (bI some (by kernel_rfl))
 f284:=Tryz.func261.trans (bI some (by kernel_rfl))
 f285:=Tryz.func262.trans (bI some (by kernel_rfl))
 f286:=Tryz.func263.trans (bI some (by kernel_rfl))
 f287:=Tryz.func269.trans (bI some (by kernel_rfl))
 f316:=Tryz.func237.trans (bI some (by kernel_rfl))
 f317:=Tryz.func276.trans (bI some (by kernel_rfl))
 f318:=Tryz.func277.trans (bI some (by kernel_rfl))
 f319:=Tryz.func278.trans (bI some (by kernel_rfl))
 f320:=Tryz.func279.trans (bI some (by kernel_rfl))
 f321:=Tryz.func285.trans (bI some (by kernel_rfl))
 f322:=Tryz.func286.trans (bI some (by kernel_rfl))
 f337:=Tryz.func295.trans (bI some (by kernel_rfl))
 f338:=Tryz.func40.trans (bI some (by kernel_rfl))
 t0:=Tryz.underlying0
 a0:=Tryz.isAgg0
 z0:=Tryz.sizeOf0
 v0:=Tryz.zeroValue0
 t2:=Tryz.underlying2
 a2:=Tryz.isAgg2
 z2:=Tryz.sizeOf2
 v2:=Tryz.zeroValue2
 t3:=Tryz.underlying3
 a3:=Tryz.isAgg3
 z3:=Tryz.sizeOf3
 v3:=Tryz.zeroValue3
 t4:=Tryz.underlying4
 a4:=Tryz.isAgg4
 z4:=Tryz.sizeOf4
 v4:=Tryz.zeroValue4
 t5:=Tryz.underlying5
 a5:=Tryz.isAgg5
 z5:=Tryz.sizeOf5
 v5:=Tryz.zeroValue5
 t9:=Tryz.underlying9
 a9:=Tryz.isAgg9
 z9:=Tryz.sizeOf9
 v9:=Tryz.zeroValue9
 t20:=Tryz.underlying20
 a20:=Tryz.isAgg20
 z20:=Tryz.sizeOf20
 v20:=Tryz.zeroValue20
 t21:=Tryz.underlying21
 a21:=Tryz.isAgg21
 z21:=Tryz.sizeOf21
 v21:=Tryz.zeroValue21
 t37:=Tryz.underlying241
 a37:=Tryz.isAgg241
 z37:=Tryz.sizeOf241
 v37:=Tryz.zeroValue241
 t46:=Tryz.underlying150
 a46:=Tryz.isAgg150
 z46:=Tryz.sizeOf150
 v46:=Tryz.zeroValue150
 t51:=Tryz.underlying215
 a51:=Tryz.isAgg215
 z51:=Tryz.sizeOf215
 v51:=Tryz.zeroValue215
 t53:=Tryz.underlying42
 a53:=Tryz.isAgg42
 z53:=Tryz.sizeOf42
 v53:=Tryz.zeroValue42
 t75:=Tryz.underlying274
 a75:=Tryz.isAgg274
 z75:=Tryz.sizeOf274
 v75:=Tryz.zeroValue274
 t85:=Tryz.underlying304
 a85:=Tryz.isAgg304
 z85:=Tryz.sizeOf304
 v85:=Tryz.zeroValue304
 t127:=Tryz.underlying284
 a127:=Tryz.isAgg284
 z127:=Tryz.sizeOf284
 v127:=Tryz.zeroValue284
 t143:=Tryz.underlying361
 a143:=Tryz.isAgg361
 z143:=Tryz.sizeOf361
 v143:=Tryz.zeroValue361
 t145:=Tryz.underlying363
 a145:=Tryz.isAgg363
 z145:=Tryz.sizeOf363
 v145:=Tryz.zeroValue363
 t167:=Tryz.underlying339
 a167:=Tryz.isAgg339
 z167:=Tryz.sizeOf339
 v167:=Tryz.zeroValue339
 t168:=Tryz.underlying342
 a168:=Tryz.isAgg342
 z168:=Tryz.sizeOf342
 v168:=Tryz.zeroValue342
 t171:=Tryz.underlying327
 a171:=Tryz.isAgg327
 z171:=Tryz.sizeOf327
 v171:=Tryz.zeroValue327
 t173:=Tryz.underlying329
 a173:=Tryz.isAgg329
 z173:=Tryz.sizeOf329
 v173:=Tryz.zeroValue329
 t175:=Tryz.underlying340
 a175:=Tryz.isAgg340
 z175:=Tryz.sizeOf340
 v175:=Tryz.zeroValue340
 t210:=Tryz.underlying354
 a210:=Tryz.isAgg354
 z210:=Tryz.sizeOf354
 v210:=Tryz.zeroValue354
 t212:=Tryz.underlying347
 a212:=Tryz.isAgg347
 z212:=Tryz.sizeOf347
 v212:=Tryz.zeroValue347
 t213:=Tryz.underlying348
 a213:=Tryz.isAgg348
 z213:=Tryz.sizeOf348
 t232:=Tryz.underlying364
 a232:=Tryz.isAgg364
 z232:=Tryz.sizeOf364
 v232:=Tryz.zeroValue364
 t233:=Tryz.underlying149
 a233:=Tryz.isAgg149
 z233:=Tryz.sizeOf149
 v233:=Tryz.zeroValue149
 g15:=by kernel_rfl
 g16:=by kernel_rfl
 g17:=by kernel_rfl
 g18:=by kernel_rfl
 g19:=by kernel_rfl
 t80:=Tryz.underlying252
 a80:=Tryz.isAgg252
 z80:=Tryz.sizeOf252
 v80:=Tryz.zeroValue252
 i0:=by kernel_rfl
 i2:=by kernel_rfl
 i3:=by kernel_rfl
 i4:=by kernel_rfl
 i5:=by kernel_rfl
 i9:=by kernel_rfl
 i20:=by kernel_rfl
 i21:=by kernel_rfl
 i37:=by kernel_rfl
 i46:=by kernel_rfl
 i51:=by kernel_rfl
 i53:=by kernel_rfl
 i75:=by kernel_rfl
 i80:=by kernel_rfl
 i85:=by kernel_rfl
 i127:=by kernel_rfl
 i143:=by kernel_rfl
 i145:=by kernel_rfl
 i167:=by kernel_rfl
 i168:=by kernel_rfl
 i171:=by kernel_rfl
 i173:=by kernel_rfl
 i175:=by kernel_rfl
 i210:=by kernel_rfl
 i212:=by kernel_rfl
 i232:=by kernel_rfl
 i233:=by kernel_rfl
 m15:=by kernel_rfl
 m16:=by kernel_rfl
 m17:=by kernel_rfl
 m18:=by kernel_rfl
 m19:=by kernel_rfl
 c0:=by kernel_rfl
 c2:=by kernel_rfl
 c3:=by kernel_rfl
 c4:=by kernel_rfl
 c5:=by kernel_rfl
 c9:=by kernel_rfl
 c20:=by kernel_rfl
 c21:=by kernel_rfl
 c37:=by kernel_rfl
 c46:=by kernel_rfl
 c51:=by kernel_rfl
 c53:=by kernel_rfl
 c75:=by kernel_rfl
 c80:=by kernel_rfl
 c85:=by kernel_rfl
 c127:=by kernel_rfl
 c143:=by kernel_rfl
 c145:=by kernel_rfl
 c167:=by kernel_rfl
 c168:=by kernel_rfl
 c171:=by kernel_rfl
 c173:=by kernel_rfl
 c175:=by kernel_rfl
 c210:=by kernel_rfl
 c212:=by kernel_rfl
 c213:=by kernel_rfl
 c232:=by kernel_rfl
 c233:=by kernel_rfl}
open Go.RowKit in
theorem Tryz.strconv_ParseInt_10_at64_ok (s:ByteArray) (anx:s.size<=9223372036854775806) (v:Int) (h:Lib.parseIntB 64 s.data.toList=.ok v) (w:World):
 Calls Tryz.prog 239 #[.string s,.int .i64 10,.int .i64 64] w fun e w'=>e=.returned (.tuple #[.int .i64 v,.nilIface])/\(w'=w∨∃t,w'=Lib.bytesWorld w 5 t):=Any.strconv_ParseInt_10_at64_ok Tryz.HQ s anx v h w
open Go.RowKit in
theorem Tryz.strconv_ParseInt_10_at64_range_var (s:ByteArray) (abC:s.size<=281474976710656) (h:Lib.parseIntB 64 s.data.toList=.range) (tp:TypeId) (p:Value) (w:World) (abD:w.var? Tryz.prog "strconv.ErrRange" =some #[.iface tp p]):
 Calls Tryz.prog 239 #[.string s,.int .i64 10,.int .i64 64] w fun e w'=>∃N,e=.returned (.tuple #[.int .i64 (Lib.intSat 64 s.data.toList),.iface 342 (.pointer (some ⟨N,0,none⟩))])/\w.heap.size<=N/\w'.heap[N]? =some (.cells #[.string ⟨#[80,97,114,115,101,73,110,116]⟩,.string s,.iface tp p] 354 (0,0))/\Below w.heap.size w w':=Any.strconv_ParseInt_10_at64_range_var Tryz.HQ s abC h tp p w abD
def Tryz.HR:Go.Shelf.Ren:=⟨fun | 219=>236 | 217=>248 | 225=>249 | 224=>250 | 267=>251 | 266=>267 | 314=>268 | n=>n,fun | 9=>9 | 3=>3 | 4=>4 | 5=>5 | 46=>150 | 146=>310 | 51=>215 | n=>n,fun | 1=>1 | n=>n⟩
theorem Tryz.WD:Go.Proofs.Lays.n219 Tryz.prog Tryz.HR:={
 mixed:=by kernel_rfl
 f217:=Tryz.func248.trans (bI some (by kernel_rfl))
 f219:=Tryz.func236.trans (bI some (by kernel_rfl))
 f224:=Tryz.func250.trans (bI some (by kernel_rfl))
 f225:=Tryz.func249.trans (bI some (by kernel_rfl))
 f266:=Tryz.func267.trans (bI some (by kernel_rfl))
 f267:=Tryz.func251.trans (bI some (by kernel_rfl))
 f314:=Tryz.func268.trans (bI some (by kernel_rfl))
 t3:=Tryz.underlying3
 a3:=Tryz.isAgg3
 z3:=Tryz.sizeOf3
 v3:=Tryz.zeroValue3
 t4:=Tryz.underlying4
 a4:=Tryz.isAgg4
 z4:=Tryz.sizeOf4
 v4:=Tryz.zeroValue4
 t5:=Tryz.underlying5
 a5:=Tryz.isAgg5
 z5:=Tryz.sizeOf5
 v5:=Tryz.zeroValue5
 t9:=Tryz.underlying9
 a9:=Tryz.isAgg9
 z9:=Tryz.sizeOf9
 v9:=Tryz.zeroValue9
 t46:=Tryz.underlying150
 a46:=Tryz.isAgg150
 z46:=Tryz.sizeOf150
 v46:=Tryz.zeroValue150
 t51:=Tryz.underlying215
 a51:=Tryz.isAgg215
 z51:=Tryz.sizeOf215
 v51:=Tryz.zeroValue215
 t146:=Tryz.underlying310
 a146:=Tryz.isAgg310
 z146:=Tryz.sizeOf310
 v146:=Tryz.zeroValue310
 g1:=by kernel_rfl}
open Go.RowKit Go.Lib in
theorem Tryz.stringslite_Index_one (s:ByteArray) (c:UInt8) (w:World):
 Calls Tryz.prog 236 #[.string s,.string ⟨#[c]⟩] w fun e w'=>e=.returned (.int .i64 (Lib.indexByte s.data.toList c))/\w'=w:=Any.stringslite_Index_one Tryz.WD s c w
def Tryz.HS:Go.Shelf.Ren:=⟨fun | 189=>78 | 125=>102 | 257=>112 | 128=>139 | 129=>140 | 294=>143 | 295=>144 | 296=>145 | 297=>146 | 298=>147 | 299=>148 | 216=>110 | 300=>149 | 301=>150 | 328=>185 | 329=>180 | 330=>181 | 331=>186 | 332=>187 | 215=>103 | 343=>213 | n=>n,fun | 28=>32 | 3=>3 | 46=>150 | 0=>0 | 51=>215 | 53=>42 | 4=>4 | 183=>209 | 182=>208 | 131=>142 | 5=>5 | 9=>9 | 218=>255 | 222=>231 | 228=>285 | 229=>246 | n=>n,fun | n=>n⟩
theorem Tryz.M7:Go.Proofs.Lays.n189 Tryz.prog Tryz.HS:={
 mixed:=by kernel_rfl
 f125:=Tryz.func102.trans (bI some (by kernel_rfl))
 f128:=Tryz.func139.trans (bI some (by kernel_rfl))
 f129:=Tryz.func140.trans (bI some (by kernel_rfl))
 f189:=Tryz.func78.trans (bI some (by kernel_rfl))
 f215:=Tryz.func103.trans (bI some (by kernel_rfl))
 f216:=Tryz.func110.trans (bI some (by kernel_rfl))
 f257:=Tryz.func112.trans (bI some (by kernel_rfl))
 f294:=Tryz.func143.trans (bI some (by kernel_rfl))
 f295:=Tryz.func144.trans (bI some (by kernel_rfl))
 f296:=Tryz.func145.trans (bI some (by kernel_rfl))
 f297:=Tryz.func146.trans (bI some (by kernel_rfl))
 f298:=Tryz.func147.trans (bI some (by kernel_rfl))
 f299:=Tryz.func148.trans (bI some (by kernel_rfl))
 f300:=Tryz.func149.trans (bI some (by kernel_rfl))
 f301:=Tryz.func150.trans (bI some (by kernel_rfl))
 f328:=Tryz.func185.trans (bI some (by kernel_rfl))
 f329:=Tryz.func180.trans (bI some (by kernel_rfl))
 f330:=Tryz.func181.trans (bI some (by kernel_rfl))
 f331:=Tryz.func186.trans (bI some (by kernel_rfl))
 f332:=Tryz.func187.trans (bI some (by kernel_rfl))
 f343:=Tryz.func213.trans (bI some (by kernel_rfl))
 t0:=Tryz.underlying0
 a0:=Tryz.isAgg0
 z0:=Tryz.sizeOf0
 v0:=Tryz.zeroValue0
 t3:=Tryz.underlying3
 a3:=Tryz.isAgg3
 z3:=Tryz.sizeOf3
 v3:=Tryz.zeroValue3
 t4:=Tryz.underlying4
 a4:=Tryz.isAgg4
 z4:=Tryz.sizeOf4
 v4:=Tryz.zeroValue4
 t5:=Tryz.underlying5
 a5:=Tryz.isAgg5
 z5:=Tryz.sizeOf5
 v5:=Tryz.zeroValue5
 t9:=Tryz.underlying9
 a9:=Tryz.isAgg9
 z9:=Tryz.sizeOf9
 v9:=Tryz.zeroValue9
 t28:=Tryz.underlying32
 a28:=Tryz.isAgg32
 z28:=Tryz.sizeOf32
 v28:=Tryz.zeroValue32
 t46:=Tryz.underlying150
 a46:=Tryz.isAgg150
 z46:=Tryz.sizeOf150
 v46:=Tryz.zeroValue150
 t51:=Tryz.underlying215
 a51:=Tryz.isAgg215
 z51:=Tryz.sizeOf215
 v51:=Tryz.zeroValue215
 t53:=Tryz.underlying42
 a53:=Tryz.isAgg42
 z53:=Tryz.sizeOf42
 v53:=Tryz.zeroValue42
 t131:=Tryz.underlying142
 a131:=Tryz.isAgg142
 z131:=Tryz.sizeOf142
 v131:=Tryz.zeroValue142
 t182:=Tryz.underlying208
 a182:=Tryz.isAgg208
 z182:=Tryz.sizeOf208
 v182:=Tryz.zeroValue208
 t183:=Tryz.underlying209
 a183:=Tryz.isAgg209
 z183:=Tryz.sizeOf209
 v183:=Tryz.zeroValue209
 t218:=Tryz.underlying255
 a218:=Tryz.isAgg255
 z218:=Tryz.sizeOf255
 v218:=Tryz.zeroValue255
 t222:=Tryz.underlying231
 a222:=Tryz.isAgg231
 z222:=Tryz.sizeOf231
 v222:=Tryz.zeroValue231
 t228:=Tryz.underlying285
 a228:=Tryz.isAgg285
 z228:=Tryz.sizeOf285
 v228:=Tryz.zeroValue285
 t229:=Tryz.underlying246
 a229:=Tryz.isAgg246
 z229:=Tryz.sizeOf246
 v229:=Tryz.zeroValue246}
open Go.Sort Go.RowKit in
theorem Tryz.slices_Sort_int (blk off cap:Nat) (zs:List Int) (w:World) (hH:Holds (Value.int .i64) w blk off zs.toArray) (Kk:blk<w.heap.size) (hsz:zs.length<4611686018427387904):
 Calls Tryz.prog 78 #[.slice (some ⟨blk,off,none⟩) zs.length cap] w fun e w'=>
  e=.returned (.tuple #[])/\∃n os,w'=grow (putRow (Value.int .i64) (Sort.ahead w n) blk off (zs.mergeSort fun x y=>decide (x<=y)).toArray) os:=Any.slices_Sort_int Tryz.M7 blk off cap zs w hH Kk hsz
def Tryz.yf:Go.Shelf.Ren:=⟨fun | 105=>203 | 212=>226 | 99=>189 | 165=>227 | 166=>202 | 170=>211 | 169=>175 | 263=>242 | 264=>243 | 206=>215 | 240=>225 | 241=>244 | 276=>241 | 277=>259 | n=>n,fun | 9=>9 | 3=>3 | 4=>4 | 20=>20 | 0=>0 | 46=>150 | 109=>295 | 5=>5 | 72=>243 | 76=>275 | 51=>215 | 146=>310 | 53=>42 | 148=>312 | 70=>240 | 37=>241 | 75=>274 | 127=>284 | 164=>308 | 80=>252 | n=>n,fun | n=>n⟩
theorem Tryz.WE:Go.Proofs.Lays.n105 Tryz.prog Tryz.yf:={
 mixed:=by kernel_rfl
 f99:=Tryz.func189.trans (bI some (by kernel_rfl))
 f105:=Tryz.func203.trans (bI some (by kernel_rfl))
 f165:=Tryz.func227.trans (bI some (by kernel_rfl))
 f166:=Tryz.func202.trans (bI some (by kernel_rfl))
 f169:=Tryz.func175.trans (bI some (by kernel_rfl))
 f170:=Tryz.func211.trans (bI some (by kernel_rfl))
 f206:=Tryz.func215.trans (bI some (by kernel_rfl))
 f212:=Tryz.func226.trans (bI some (by kernel_rfl))
 f240:=Tryz.func225.trans (bI some (by kernel_rfl))
 f241:=Tryz.func244.trans (bI some (by kernel_rfl))
 f263:=Tryz.func242.trans (bI some (by kernel_rfl))
 f264:=Tryz.func243.trans (bI some (by kernel_rfl))
 f276:=Tryz.func241.trans (bI some (by kernel_rfl))
 f277:=Tryz.func259.trans (bI some (by kernel_rfl))
 t0:=Tryz.underlying0
 a0:=Tryz.isAgg0
 z0:=Tryz.sizeOf0
 v0:=Tryz.zeroValue0
 t3:=Tryz.underlying3
 a3:=Tryz.isAgg3
 z3:=Tryz.sizeOf3
 v3:=Tryz.zeroValue3
 t4:=Tryz.underlying4
 a4:=Tryz.isAgg4
 z4:=Tryz.sizeOf4
 v4:=Tryz.zeroValue4
 t5:=Tryz.underlying5
 a5:=Tryz.isAgg5
 z5:=Tryz.sizeOf5
 v5:=Tryz.zeroValue5
 t9:=Tryz.underlying9
 a9:=Tryz.isAgg9
 z9:=Tryz.sizeOf9
 v9:=Tryz.zeroValue9
 t20:=Tryz.underlying20
 a20:=Tryz.isAgg20
 z20:=Tryz.sizeOf20
 v20:=Tryz.zeroValue20
 t37:=Tryz.underlying241
 a37:=Tryz.isAgg241
 z37:=Tryz.sizeOf241
 v37:=Tryz.zeroValue241
 t46:=Tryz.underlying150
 a46:=Tryz.isAgg150
 z46:=Tryz.sizeOf150
 v46:=Tryz.zeroValue150
 t51:=Tryz.underlying215
 a51:=Tryz.isAgg215
 z51:=Tryz.sizeOf215
 v51:=Tryz.zeroValue215
 t53:=Tryz.underlying42
 a53:=Tryz.isAgg42
 z53:=Tryz.sizeOf42
 v53:=Tryz.zeroValue42
 t70:=Tryz.underlying240
 a70:=Tryz.isAgg240
 z70:=Tryz.sizeOf240
 v70:=Tryz.zeroValue240
 t72:=Tryz.underlying243
 a72:=Tryz.isAgg243
 z72:=Tryz.sizeOf243
 v72:=Tryz.zeroValue243
 t75:=Tryz.underlying274
 a75:=Tryz.isAgg274
 z75:=Tryz.sizeOf274
 v75:=Tryz.zeroValue274
 t76:=Tryz.underlying275
 a76:=Tryz.isAgg275
 z76:=Tryz.sizeOf275
 v76:=Tryz.zeroValue275
 t109:=Tryz.underlying295
 a109:=Tryz.isAgg295
 z109:=Tryz.sizeOf295
 v109:=Tryz.zeroValue295
 t127:=Tryz.underlying284
 a127:=Tryz.isAgg284
 z127:=Tryz.sizeOf284
 v127:=Tryz.zeroValue284
 t146:=Tryz.underlying310
 a146:=Tryz.isAgg310
 z146:=Tryz.sizeOf310
 v146:=Tryz.zeroValue310
 t148:=Tryz.underlying312
 a148:=Tryz.isAgg312
 z148:=Tryz.sizeOf312
 v148:=Tryz.zeroValue312
 t164:=Tryz.underlying308
 a164:=Tryz.isAgg308
 z164:=Tryz.sizeOf308
 v164:=Tryz.zeroValue308}
theorem Tryz.wB:Builder.Extra Tryz.prog Tryz.yf:={
 sizeBuilder:=by kernel_rfl
 liesBuilder:=by kernel_rfl
 t5:=Tryz.underlying5
 a5:=Tryz.isAgg5
 z5:=Tryz.sizeOf5
 v5:=Tryz.zeroValue5
 infoByte:=by kernel_rfl
 cellsByte:=by kernel_rfl
 sizeByte:=by kernel_rfl
 neB5:=by decide}
open Go.RowKit Go.Lib in
theorem Tryz.strings_Repeat (s:ByteArray) (c:Nat) (w:World) (hc:c<=9223372036854775807) (fi:s.size*c<=140737488355328):
 Calls Tryz.prog 203 #[.string s,.int .i64 c] w fun e w'=>e=.returned (.string ⟨(Lib.repeatL s.data.toList c).toArray⟩)/\Below w.heap.size w w':=Any.strings_Repeat Tryz.WE Tryz.wB s c w hc fi
def Tryz.BO:Go.Shelf.Ren:=⟨fun | 15=>48 | n=>n,fun | 22=>32 | 3=>3 | 4=>4 | n=>n,fun | n=>n⟩
theorem Tryz.xB:Go.Proofs.Lays2.n15 Tryz.prog Tryz.BO:={
 mixed:=by kernel_rfl
 f15:=Tryz.func48.trans (bI some (by kernel_rfl))
 t3:=Tryz.underlying3
 a3:=Tryz.isAgg3
 z3:=Tryz.sizeOf3
 v3:=Tryz.zeroValue3
 t4:=Tryz.underlying4
 a4:=Tryz.isAgg4
 z4:=Tryz.sizeOf4
 v4:=Tryz.zeroValue4
 t22:=Tryz.underlying32
 a22:=Tryz.isAgg32
 z22:=Tryz.sizeOf32
 v22:=Tryz.zeroValue32
 i3:=by kernel_rfl}
open Go.RowKit Go.Lib in
theorem Tryz.slices_Clone_int (b off n c:Nat) (zs:List Int) (w:World) (hz:n<=zs.length) (rK:n*8<=140737488355328) (hc:∀j,j<zs.length->w.cell? ⟨b,off+j,none⟩=some (.int .i64 (zs.getD j 0))):
 Calls Tryz.prog 48 #[.slice (some ⟨b,off,none⟩) n c] w fun e w'=>∃v',e=.returned v'/\w'.ownsRow w.heap.size 3 1 v' n ((zs.take n).map (Value.int .i64))/\v'≠.slice none 0 0/\Below w.heap.size w w':=Any.slices_Clone_int Tryz.xB b off n c zs w hz rK hc
open Go.RowKit Go.Lib in
theorem Tryz.slices_Clone_int_nil (n c:Nat) (w:World):
 Calls Tryz.prog 48 #[.slice none n c] w fun e w'=>e=.returned (.slice none 0 0)/\w'=w:=Any.slices_Clone_int_nil Tryz.xB n c w
open Go.RowKit Go.Lib in
theorem Tryz.slices_Clone_int_zero (a:Addr) (c:Nat) (w:World):
 Calls Tryz.prog 48 #[.slice (some a) 0 c] w fun e w'=>∃v',e=.returned v'/\w'.ownsRow w.heap.size 3 1 v' 0 []/\v'≠.slice none 0 0/\Below w.heap.size w w':=Any.slices_Clone_int_zero Tryz.xB a c w
def Tryz.BP:Go.Shelf.Ren:=⟨fun | 20=>79 | n=>n,fun | 22=>32 | 3=>3 | 4=>4 | 0=>0 | n=>n,fun | n=>n⟩
theorem Tryz.C2:Go.Proofs.Lays2.n20 Tryz.prog Tryz.BP:={
 mixed:=by kernel_rfl
 f20:=Tryz.func79.trans (bI some (by kernel_rfl))
 t0:=Tryz.underlying0
 a0:=Tryz.isAgg0
 z0:=Tryz.sizeOf0
 v0:=Tryz.zeroValue0
 t3:=Tryz.underlying3
 a3:=Tryz.isAgg3
 z3:=Tryz.sizeOf3
 v3:=Tryz.zeroValue3
 t4:=Tryz.underlying4
 a4:=Tryz.isAgg4
 z4:=Tryz.sizeOf4
 v4:=Tryz.zeroValue4
 t22:=Tryz.underlying32
 a22:=Tryz.isAgg32
 z22:=Tryz.sizeOf32
 v22:=Tryz.zeroValue32
 i3:=by kernel_rfl}
open Go.RowKit Go.Lib Go.Sort in
theorem Tryz.slices_Compact_int (blk off cap:Nat) (zs:List Int) (w:World) (hH:Holds (Value.int .i64) w blk off zs.toArray) (hsz:zs.length<=9223372036854775807) (mU:zs.length<=cap):
 Calls Tryz.prog 79 #[.slice (some ⟨blk,off,none⟩) zs.length cap] w fun e w'=>e=.returned (.slice (some ⟨blk,off,none⟩) (Lib.compact zs).length cap)/\∃q,w'=putRow (Value.int .i64) (Sort.ahead w q) blk off (Lib.compact zs++List.replicate (zs.length-(Lib.compact zs).length) 0).toArray:=Any.slices_Compact_int Tryz.C2 blk off cap zs w hH hsz mU
open Go.RowKit Go.Lib Go.Sort in
theorem Tryz.slices_Compact_int_empty (a:Option Addr) (cap:Nat) (w:World):
 Calls Tryz.prog 79 #[.slice a 0 cap] w fun e w'=>e=.returned (.slice a 0 cap)/\w'=w:=Any.slices_Compact_int_empty Tryz.C2 a cap w
open Go.RowKit Go.Sort in
theorem Tryz.slices_Sort_int_none (p:Option Addr) (cap:Nat) (w:World):
 Calls Tryz.prog 78 #[.slice p 0 cap] w fun e w'=>e=.returned (.tuple #[])/\w'=w:=Any.slices_Sort_int_none Tryz.M7 p cap w
end Go.Proofs
namespace Go.Proofs.YtbkjcdocjfknfaaGreatDoor.Con
open Go.Value renaming int->O,string->ab,pointer->ae,agg->ah,tuple->ai,bool->aj
open Go.IntKind renaming i64->U,wrap->ar
open Go.Ending renaming returned->ak
open _root_.ByteArray renaming mk->ao
open _root_.Go.Proofs.Tryz renaming prog->aq
open Go.Instr renaming buildSlice->au
open Go renaming World->av,Value->aw,Calls->az
open Go.Kt renaming Only->ay,SliceF->aA,Cells->aB,OnlyP->aD,Blk->aF
open Go Go.RowKit Go.Kt Go.Kt.V Go.Proofs.YtbkjcdocjfknfaaGreatDoor.Vc
set_option linter.unusedSimpArgs false
set_option linter.unusedVariables false
set_option maxHeartbeats 4000000
theorem ret{P:Program}{f:FuncId}{a:Array aw}{w:av}{r:aw}{Q:av->Prop}(h:az P f a w fun e w'=>∃v,e=ak v/\v=r/\Q w'):az P f a w fun e w'=>e=ak r/\Q w':=
 h.mono (by rintro e w' ⟨v,rfl,rfl,hq⟩;exact⟨rfl,hq⟩)
theorem Blk.dQ{w:av}{b:Nat}{t:TypeId}{cs:aI}(h:aF w b t cs)(j:Nat){v:aw}(hv:cs[j]? =some v):aB w ((⟨b,0,none⟩:Addr).add j) [v]:=by
 rw[fL,bO];exact h.cells j [v] fun k u hk=>by
  cases k with
  | zero=>simp only[ci,aZ]at hk;subst hk;exact hv
  | succ k=>simp at hk
def qN(c:UInt8):Bool:=(65<=c.toNat&&c.toNat<=90)||(97<=c.toNat&&c.toNat<=122)||c.toNat==95
def ff(c:UInt8):Bool:=48<=c.toNat&&c.toNat<=57
def iG(c:UInt8):Bool:=qN c||ff c
def DM(c:UInt8):Bool:=[9,10,13,32].contains c
theorem I8:∀n:Fin 256,(((decide (97<=(bits .or .u8 (n.val:Int) 32)))&&(decide ((bits .or .u8 (n.val:Int) 32)<=122)))||((n.val:Int)==95))=((65<=n.val&&n.val<=90)||(97<=n.val&&n.val<=122)||n.val==95):=by decide+kernel
theorem Aa(w:av)(c:UInt8):az aq 192 #[.int .u8 (c.toNat:Int)] w fun e w'=>e=ak (aj (qN c))/\ay [] w w':=by
 refine ret (ae4 _ _ _ ?_);exact⟨by rw[I8 ⟨c.toNat,c.toNat_lt⟩];rfl,Only.refl _ _⟩
theorem Lh(w:av)(c:UInt8):az aq 194 #[.int .u8 (c.toNat:Int)] w fun e w'=>e=ak (aj (ff c))/\ay [] w w':=by
 refine ret (ae7 _ _ _ ?_);refine⟨?_,Only.refl _ _⟩;congr 1;rw[bX];simp only[ff,aQ,bM];omega
theorem QM(w:av)(c:UInt8):az aq 238 #[.int .u8 (c.toNat:Int)] w fun e w'=>e=ak (aj (ff c))/\ay [] w w':=by
 refine ret (v2w _ _ _ ?_);refine⟨?_,Only.refl _ _⟩;have h:∀n:Fin 256,decide ((ar .u8 ((n.val:Int)-48))<10)=(decide (48<=n.val)&&decide (n.val<=57)):=by decide+kernel
 rw[h ⟨c.toNat,c.toNat_lt⟩];rfl
theorem QN{w:av}{F:aJ}{s:Sl}{l:aH}(h:aA jr 1 w F s l)(c:UInt8):
  az aq 235 #[Sl.v s,.int .u8 (c.toNat:Int)] w fun e w'=>∃i:Int,e=ak (O U i)/\decide (i>=0)=l.contains c/\ay [] w w':=by
 refine(aeZ s _ (fun v w'=>∃i:Int,v=O U i/\decide (i>=0)=l.contains c/\ay [] w w') w ?_).mono (by
  rintro e w' ⟨v,rfl,i,rfl,h⟩;exact⟨i,rfl,h⟩)
 have fi:=h.len;have rK:=h.big;have mU:=h.cap;refine⟨fun nv i w'=>∃n:Nat,n<=l.length/\i=(n:Int)/\nv=l.length-n/\(∀x,x∈l.take n->x≠c)/\w'=w,l.length,⟨0,bh _,rfl,rfl,by simp,rfl⟩,?_⟩;rintro nv _ _ ⟨n,hn,rfl,rfl,hp,rfl⟩;refine⟨fun hc=>?_,fun hc=>?_⟩
 ·have bS:(n:Int)<s.n:=aO hc;obtain⟨ad,x,cs,g1,g2,g3,g4,g5,g6⟩:=h.get (bA n) bS;rw[aY]at g2;unfold jr fY at g6;subst g6;refine⟨ad,g1,_,g5,fun he=>⟨_,rfl,?_,Only.refl _ _⟩,fun he=>⟨l.length-(n+1),by omega,n+1,by omega,by rw[fR (by omega) (by omega)];rfl,rfl,?_,rfl⟩⟩
  ·have he:c=x:=T7.1 (by have:=aO he;omega);rw[bL (by omega)];symm;rw[pA,he];exact bF g2
  ·intro y hy;rw[bJ,g2]at hy;simp only[nK,bR,aN]at hy;rcases hy with hy | rfl
   ·exact hp y hy
   ·rintro rfl;simp at he
 ·have rl:¬((n:Int)<s.n):=aR hc;rw[bq (by omega)]at hp;refine⟨_,rfl,?_,Only.refl _ _⟩;rw[bC (by omega)];symm;rw[dx];intro hh;exact hp c (pA.1 hh) rfl
theorem Gp{w:av}{F:aJ}{s:Sl}{l:aH}(h:aA jr 1 w F s l)(c:UInt8):
  az aq 214 #[Sl.v s,.int .u8 (c.toNat:Int)] w fun e w'=>e=ak (aj (l.contains c))/\ay [] w w':=by
 refine ret (aeY _ _ _ _ ?_);refine(QN h c).mono ?_;rintro _ w1 ⟨i,rfl,hi,hO⟩;exact⟨i,rfl,by rw[hi],hO⟩
theorem Gq{w:av}{F:aJ}{s:Sl}{l:aH}(h:aA jr 1 w F s l)(c:UInt8):
  az aq 188 #[.int .u8 (c.toNat:Int),Sl.v s] w fun e w'=>e=ak (aj (l.contains c))/\ay [] w w':=by
 refine ret (aeX _ _ _ _ ?_);refine(Gp h c).mono ?_;rintro _ w1 ⟨rfl,hO⟩;exact⟨_,rfl,rfl,hO⟩
def ju:Rp (aH):=fun _ _ l cs=>cs=[ab (T l)]
theorem cP:ju.Ok where
 keep h _:=h
 inHeap h:=h
 mono h _:=h
 one:=by
  rintro w F x cs h v hv;unfold ju at h;subst h;simp only[aN]at hv;subst hv;rfl
theorem QO{w:av}{F:aJ}{s:Sl}{l:List (aH)}(h:aA ju 1 w F s l)(c:aH):
  az aq 197 #[Sl.v s,ab (T c)] w fun e w'=>∃i:Int,e=ak (O U i)/\decide (i>=0)=l.contains c/\ay [] w w':=by
 refine(XM s _ (fun v w'=>∃i:Int,v=O U i/\decide (i>=0)=l.contains c/\ay [] w w') w ?_).mono (by
  rintro e w' ⟨v,rfl,i,rfl,h⟩;exact⟨i,rfl,h⟩)
 have fi:=h.len;have rK:=h.big;have mU:=h.cap;refine⟨fun nv i w'=>∃n:Nat,n<=l.length/\i=(n:Int)/\nv=l.length-n/\(∀x,x∈l.take n->x≠c)/\w'=w,l.length,⟨0,bh _,rfl,rfl,by simp,rfl⟩,?_⟩;rintro nv _ _ ⟨n,hn,rfl,rfl,hp,rfl⟩;refine⟨fun hc=>?_,fun hc=>?_⟩
 ·have bS:(n:Int)<s.n:=aO hc;obtain⟨ad,x,cs,g1,g2,g3,g4,g5,g6⟩:=h.get (bA n) bS;rw[aY]at g2;unfold ju at g6;subst g6;refine⟨ad,g1,_,g5,?_⟩;dsimp only;rw[mA];refine⟨fun he=>⟨_,rfl,?_,Only.refl _ _⟩,fun he=>⟨l.length-(n+1),by omega,n+1,by omega,by rw[fR (by omega) (by omega)];rfl,rfl,?_,rfl⟩⟩
  ·have he:c=x:=aO he;rw[bL (by omega)];symm;rw[pA,he];exact bF g2
  ·intro y hy;rw[bJ,g2]at hy;simp only[nK,bR,aN]at hy;rcases hy with hy | rfl
   ·exact hp y hy
   ·rintro rfl;simp at he
 ·have rl:¬((n:Int)<s.n):=aR hc;rw[bq (by omega)]at hp;refine⟨_,rfl,?_,Only.refl _ _⟩;rw[bC (by omega)];symm;rw[dx];intro hh;exact hp c (pA.1 hh) rfl
theorem sB{w:av}{F:aJ}{s:Sl}{l:List (aH)}(h:aA ju 1 w F s l)(c:aH):
  az aq 218 #[Sl.v s,ab (T c)] w fun e w'=>e=ak (aj (l.contains c))/\ay [] w w':=by
 refine ret (ae8 _ _ _ _ ?_);refine(QO h c).mono ?_;rintro _ w1 ⟨i,rfl,hi,hO⟩;exact⟨i,rfl,by rw[hi],hO⟩
abbrev Vy(w:av)(b:Nat)(t:TypeId)(l:aH)(i:Nat)(r:aI):Prop:=aF w b t (ab (T l)::O U (i:Int)::r)
theorem XU{w:av}{b:Nat}{t:TypeId}{l:aH}{i:Nat}{r:aI}(h:Vy w b t l i r):
  az aq 153 #[ae (some ⟨b,0,none⟩)] w fun e w'=>e=ak (aj (decide (l.length<=i)))/\ay [] w w':=by
 refine ret (aeW _ _ _ ?_);refine⟨i,Blk.dQ h 1 rfl,T l,Blk.dQ h 0 rfl,fun w0 hO=>⟨?_,hO⟩⟩;rw[dI];congr 1;rw[iP];omega
theorem Ab{w:av}{b:Nat}{t:TypeId}{l:aH}{i:Nat}{r:aI}(h:Vy w b t l i r)(hi:i<=l.length):
  az aq 190 #[ae (some ⟨b,0,none⟩)] w fun e w'=>e=ak (ab (T (l.drop i)))/\ay [] w w':=by
 refine ret (ae0 _ _ _ ?_);refine⟨T l,Blk.dQ h 0 rfl,i,Blk.dQ h 1 rfl,i,⟨rfl,by rw[dI];exact hi⟩,fun w0 hO=>⟨?_,hO⟩⟩;rw[zx,dI,bq (by rw[cH];exact aX _)]
theorem uN{p:UInt8->Bool}:∀{l:aH} {n:Nat},n<=l.length->(∀x,x∈l.take n->p x=true)->(∀x,l[n]? =some x->p x=false)->l.takeWhile p=l.take n
 | [],n,_,_,_=>by simp
 | c::r,0,_,_,h=>by
  have:=h c rfl;simp[this]
 | c::r,n+1,hn,h1,h2=>by
  have hc:=h1 c (by simp);rw[eF,if_pos hc,dV,uN (n:=n) (by simpa using hn) (fun x hx=>h1 x (by simp[hx])) (fun x hx=>h2 x (by simpa using hx))]
theorem QP{w:av}{b:Nat}{t:TypeId}{l:aH}{i:Nat}{r:aI}(h:Vy w b t l i r)(hi:i<=l.length)(hl:l.length<9223372036854775807):
  az aq 217 #[ae (some ⟨b,0,none⟩)] w fun e w'=>e=ak (ab (T ((l.drop i).takeWhile iG)))/\ay [] w w':=by
 refine ret (ae6 _ _ _ ?_);refine(Ab h hi).mono ?_;rintro _ w0 ⟨rfl,cD⟩;have hlr:(l.drop i).length<=l.length:=by rw[cH];omega
 generalize l.drop i=m at*
 refine⟨T m,rfl,fun nv j w'=>∃n:Nat,n<=m.length/\j=(n:Int)/\nv=m.length-n/\(∀x,x∈m.take n->iG x=true)/\ay [] w w',m.length,⟨0,bh _,rfl,rfl,by simp,cD⟩,?_⟩;rintro nv _ w1 ⟨n,hn,rfl,rfl,hp,cr⟩;rw[dI];refine⟨fun b w'=>(b=true->∃x,m[n]? =some x/\iG x=true)/\(b=false->∀x,m[n]? =some x->iG x=false)/\ay [] w w',?_,fun hc=>?_,fun hc=>⟨fun e=>(by cases e),fun _ x hx=>?_,cr⟩⟩
 ·rintro b w2 ⟨h1,h2,cR⟩;refine⟨fun hb=>?_,fun hb=>⟨n,⟨rfl,hn⟩,?_,cR⟩⟩
  ·obtain⟨x,hx,hw⟩:=h1 hb;have bS:=(aV.1 hx).1;refine⟨m.length-(n+1),by omega,n+1,by omega,by rw[fR (by omega) (by omega)];rfl,rfl,fun y hy=>?_,cR⟩;rw[bJ,hx]at hy;simp only[nK,bR,aN]at hy;rcases hy with hy | rfl
   ·exact hp y hy
   ·exact hw
  ·rw[zx,fV,oC,uN hn hp (h2 hb)]
 ·have bS:(n:Int)<m.length:=aO hc;have hx:m[n]? =some (m[n]'(by omega)):=aW (by omega);generalize m[n]'(by omega)=x at hx;have hg:(T m)[Int.toNat (n:Int)]? =some x:=by rw[xO,aY,hx]
  refine⟨x,⟨bA n,hg⟩,(Aa w1 x).mono ?_⟩;rintro _ w3 ⟨rfl,de⟩;refine⟨_,rfl,fun hb=>⟨fun _=>⟨x,hx,by unfold iG;rw[hb];rfl⟩,fun e=>(by cases e),cr.cf de⟩,fun hb=>⟨x,⟨bA n,hg⟩,(Lh w3 x).mono ?_⟩⟩;rintro _ w4 ⟨rfl,dL⟩;refine⟨_,rfl,fun hd=>⟨x,hx,by unfold iG;rw[hd,KE]⟩,fun hd y hy=>?_,cr.cf (de.cf dL)⟩;rw[hx]at hy;injection hy with hy;subst hy;unfold iG;rw[hb,hd];rfl
 ·have rl:¬(n:Int)<m.length:=aR hc;have:=(aV.1 hx).1;omega
theorem Gs(w:av)(l p:aH)(hl:l.length<9223372036854775807)(hp:p.length<9223372036854775807):az aq 189 #[ab (T l),ab (T p)] w fun e w'=>e=ak (aj (decide (l.take p.length=p)))/\ay [] w w':=by
 refine ret (ae1 _ _ _ _ ?_);refine(ret (akX (T l) (T p) (fun v w'=>v=aj (decide (l.take p.length=p))/\ay [] w w') w ?_)).mono ?_
 ·rw[dI,dI];refine⟨p.length,fun h=>⟨rfl,by have:=aO h;omega⟩,?_,Only.refl _ _⟩;rw[zx,mA,fV,oC];congr 1;rw[bX];simp only[aQ,bM];constructor
  ·exact fun h=>h.2
  ·intro h;refine⟨?_,h⟩;have:=bI List.length h;rw[cT]at this;omega
 ·rintro _ w1 ⟨rfl,hO⟩;exact⟨_,rfl,rfl,hO⟩
theorem rr:∀(l:aH) (c:UInt8),Lib.indexByte l c=if c∈l then((l.takeWhile (· !=c)).length:Int)else -1
 | [],c=>by simp[Lib.indexByte]
 | b::l,c=>by
  rw[Lib.indexByte,rr l c];by_cases hbc:b=c
  ·subst hbc;simp
  ·by_cases hm:c∈l
   ·have h1:(b==c)=false:=by simpa using hbc
    have h2:(b !=c)=true:=by simpa using hbc
    have h3:c∈b::l:=by simp[hm]
    rw[h1,if_pos hm,if_pos h3,eF,if_pos h2];simp
   ·have h1:(b==c)=false:=by simpa using hbc
    have h3:¬c∈b::l:=by simp[hm];exact fun e=>hbc e.symm
    rw[h1,if_neg hm,if_neg h3];simp
theorem Ad{c:UInt8}:∀{l:aH},¬c∈l->l.takeWhile (· !=c)=l
 | [],_=>rfl
 | b::l,h=>by
  simp only[aU,not_or]at h;rw[eF,if_pos (by simpa using fun e=>h.1 e.symm),Ad h.2]
theorem qO{p:UInt8->Bool}:∀{l:aH},l.takeWhile p=l.take (l.takeWhile p).length
 | []=>rfl
 | b::l=>by
  rw[eF];split
  ·rw[bf,dV,<-qO]
  ·rfl
theorem af2(w:av)(l:aH)(c:UInt8)(hl:l.length<9223372036854775807):az aq 191 #[ab (T l),ab (T [c])] w fun e w'=>∃(s:aK) (b:Bool),e=ak (ai #[ab (T (l.takeWhile (· !=c))),ab s,aj b])/\ay [] w w':=by
 refine(ae2 _ _ (fun v w'=>∃(s:aK) (b:Bool),v=(ai #[ab (T (l.takeWhile (· !=c))),ab s,aj b])/\ay [] w w') w ?_).mono (by
  rintro e w' ⟨v,rfl,s,b,rfl,h⟩;exact⟨s,b,rfl,h⟩)
 refine(akY (T l) (T [c]) (fun v w'=>∃(s:aK) (b:Bool),v=(ai #[ab (T (l.takeWhile (· !=c))),ab s,aj b])/\ay [] w w') w ?_).mono ?_
 ·refine(Tryz.stringslite_Index_one (T l) c w).mono ?_;rintro _ _ ⟨rfl,rfl⟩;have e:(T l).data.toList=l:=rfl;rw[e,rr];refine⟨_,rfl,fun h=>?_,fun h=>?_⟩
  ·by_cases hm:c∈l
   ·rw[if_pos hm];have bS:(l.takeWhile (· !=c)).length<l.length:=by
     have h1:=List.takeWhile_append_dropWhile (p:=(· !=c)) (l:=l);have h2:=bI List.length h1;rw[aP]at h2;have h3:l.dropWhile (· !=c)≠[]:=by
      intro h3;rw[h3,bQ]at h1;rw[<-h1]at hm;have:=List.all_takeWhile (p:=(· !=c)) (l:=l);rw[dY]at this;have:=this c (by rw[h1]at hm⊢;exact hm);simp at this
     have h4:=jH.2 h3;omega
    have hk:(T l).extract 0 (l.takeWhile (· !=c)).length=T (l.takeWhile (· !=c)):=by
     rw[zx,fV,oC,<-qO]
    refine⟨(l.takeWhile (· !=c)).length,⟨rfl,by rw[dI];omega⟩,(l.takeWhile (· !=c)).length+1,⟨by rw[dI,fR (by simp;omega) (by simp;omega)];rfl,by rw[dI];omega⟩,fun w1 hO=>⟨(T l).extract ((l.takeWhile (· !=c)).length+1) (T l).size,true,?_,hO⟩⟩;rw[hk]
   ·rw[if_neg hm]at h;exact absurd (aO h) (by omega)
  ·by_cases hm:c∈l
   ·rw[if_pos hm]at h;exact absurd (aR h) (by omega)
   ·rw[Ad hm];exact⟨_,_,rfl,Only.refl _ _⟩
 ·rintro _ w1 ⟨v,rfl,s,b,rfl,hO⟩;exact⟨_,s,b,rfl,s,b,rfl,hO⟩
theorem wY(w:av)(l:aH){n:Nat}{parts:Array (Nat×aw)}(hp:parts=(((l.map fY).zipIdx 0).map fun x=>(x.2,x.1)).toArray)(hn:l.length=n)(h0:0<n)(zg:n*1<=16777216):
  ∃s w',(au 241 n parts).run aq w=.ok (Sl.v s) w'/\Own jr 1 5 w.heap.size w' (fun _=>True) s l/\ay [] w w'/\s.a=some ⟨w.heap.size,0,none⟩:=by
 obtain⟨s,w',h1,h2,h3,h4,_⟩:=gY (P:=aq) (t:=241) (e:=5) (i:=Tryz.t5) (w:=w) (F:=fun _=>True) (r:=jr) (size:=1) (vs:=l.map fY) (xs:=l) (len:=n) (by kernel_rfl) (by kernel_rfl) rfl rfl (by decide) hp (by rw[bm];exact hn) h0 zg vH (by
  clear hp hn
  induction l with
  | nil=>exact trivial
  | cons a l ih=>exact⟨⟨rfl,rfl⟩,ih⟩)
 exact⟨s,w',h1,h2,h3,h4⟩
theorem Vz(l:List (aH))(w:av):mN ju 1 w (fun _=>True) l ((l.map fun x=>Value.string (T x)).map fun v=>v.cells.toList):=by
 induction l with
 | nil=>exact trivial
 | cons a l ih=>exact⟨⟨rfl,rfl⟩,ih⟩
theorem nU(w:av)(l:List (aH)){n:Nat}{parts:Array (Nat×aw)}(hp:parts=(((l.map fun x=>Value.string (T x)).zipIdx 0).map fun x=>(x.2,x.1)).toArray)(hn:l.length=n)(h0:0<n)(zg:n*1<=16777216):
  ∃s w',(au 31 n parts).run aq w=.ok (Sl.v s) w'/\Own ju 1 9 w.heap.size w' (fun _=>True) s l/\ay [] w w':=by
 obtain⟨s,w',h1,h2,h3,_⟩:=gY (P:=aq) (t:=31) (e:=9) (i:=Tryz.t9) (w:=w) (F:=fun _=>True) (r:=ju) (size:=1) (vs:=l.map fun x=>Value.string (T x)) (xs:=l) (len:=n) (by kernel_rfl) (by kernel_rfl) rfl rfl (by decide) hp (by rw[bm];exact hn) h0 zg cP (Vz l w);exact⟨s,w',h1,h2,h3⟩
theorem QQ{α:Type}{r:Rp α}{size:Nat}{e:TypeId}{B:Nat}{w:av}{F:aJ}{s:Sl}{xs:List α}(hr:r.Ok)(hf:∀w F G x cs,r w F x cs->r w G x cs)(h:Own r size e B w F s xs):aA r size w (fun k=>B<=k/\s.a=some ⟨k,0,none⟩) s xs:=by
 rcases h with⟨rfl,rfl⟩ | ⟨g,css,tail,a1,a2,a4,a5,a6,a7,a9,a8⟩
 ·exact SliceF.nil _ _ _ _
 ·have h':Own r size e B w (fun _=>False) s xs:=.inr ⟨g,css,tail,a1,a2,a4,a5,a6,a7,a9,fS.imp (fun _ _ h=>⟨h.1,hf _ _ _ _ _ h.2⟩) a8⟩;exact(h'.slice hr).mono hr fun k hk=>hk.elim False.elim id
theorem Cg{e:TypeId}{B:Nat}{w:av}{F:aJ}{s:Sl}{xs:aH}(h:Own jr 1 e B w F s xs):aA jr 1 w (fun k=>B<=k/\s.a=some ⟨k,0,none⟩) s xs:=QQ vH (fun _ _ _ _ _ h=>h) h
theorem vT{e:TypeId}{B:Nat}{w:av}{F:aJ}{s:Sl}{xs:List (aH)}(h:Own ju 1 e B w F s xs):aA ju 1 w (fun k=>B<=k/\s.a=some ⟨k,0,none⟩) s xs:=QQ cP (fun _ _ _ _ _ h=>h) h
def nc:Bool->aH->Nat
 | _,[]=>0
 | true,c::r=>1+nc (c !=10) r
 | false,c::r=>if DM c then 1+nc false r else if c==47&&r.head? ==some 47 then 1+nc true r else 0
theorem DN:∀{b:Bool} {l:aH},nc b l<=l.length
 | b,[]=>by simp[nc]
 | true,c::r=>by
  rw[nc,bf];have:=DN (b:=c !=10) (l:=r);omega
 | false,c::r=>by
  rw[nc,bf];have h1:=DN (b:=false) (l:=r);have h2:=DN (b:=true) (l:=r);split
  ·omega
  ·split<;>omega
theorem Gu:∀(l:aH),nc true l=(l.takeWhile (· !=10)).length+nc false (l.drop (l.takeWhile (· !=10)).length)
 | []=>rfl
 | c::r=>by
  by_cases hc:c=10
  ·subst hc;rw[nc];simp[nc,DM]
  ·have h:(c !=10)=true:=by simpa using hc
   rw[nc,h,Gu r,eF,if_pos h,bf,my];omega
theorem NP{l:aH}(h:l.take 2=[47,47]):nc false l=(l.takeWhile (· !=10)).length+nc false (l.drop (l.takeWhile (· !=10)).length):=by
 match l,h with
 | a::b::r,h=>
  simp only[dV,cM,rN,and_true]at h;obtain⟨rfl,rfl⟩:=h;have e:nc false (47::47::r)=1+nc true (47::r):=by
   conv=>lhs;rw[nc]
   rw[if_neg (by decide),if_pos (by simp)]
  have e2:=Gu (47::r);have e3:(47::47::r:aH).takeWhile (· !=10)=47::(47::r:aH).takeWhile (· !=10):=by
   rw[eF,if_pos (by decide)]
  rw[e,e2,e3,bf,my];omega
theorem Ci{l:aH}{j:Nat}{x:UInt8}(h:l[j]? =some x):l.drop j=x::l.drop (j+1):=by
 obtain⟨h1,h2⟩:=aV.1 h;rw[dW h1,h2]
theorem QS{w:av}{b:Nat}{t:TypeId}{l:aH}{i:Nat}{r:aI}(h:Vy w b t l i r)(hi:i<=l.length)(hl:l.length<9223372036854775807):
  az aq 152 #[ae (some ⟨b,0,none⟩)] w fun e w'=>e=ak (ai #[])/\ay [b] w w'/\Vy w' b t l (i+nc false (l.drop i)) r:=by
 refine ret (aeV _ _ _ ?_);refine⟨fun nv w'=>∃j:Nat,j<=l.length/\nv=l.length-j/\i+nc false (l.drop i)=j+nc false (l.drop j)/\ay [b] w w'/\Vy w' b t l j r,l.length-i,⟨i,hi,rfl,rfl,Only.refl _ _,h⟩,?_⟩;rintro nv w0 ⟨j,hj,rfl,hjs,cD,h0⟩;have kp:∀{u u':av} {n:Nat},ay [] u u'->Vy u b t l n r->Vy u' b t l n r:=fun hO hC=>(hO.block b hC.lt (by simp)).trans hC;refine(XU h0).mono ?_;rintro _ w1 ⟨rfl,cr⟩;have h1:=kp cr h0;refine⟨_,rfl,fun hc=>?_,fun hc=>⟨rfl,cD.trans cr (by simp),?_⟩⟩
 ·have bS:j<l.length:=by simpa using hc
  have hx:l[j]? =some l[j]:=aW bS;generalize l[j]=x at hx;have hd:=Ci hx;refine⟨T l,Blk.dQ h1 0 rfl,j,Blk.dQ h1 1 rfl,x,⟨bA j,by rw[xO,aY,hx]⟩,fun w2 cR=>?_⟩;obtain⟨s,w3,k1,k2,k3,_⟩:=wY w2 [9,10,13,32] (n:=4) (parts:=#[(0,.int .u8 9),(1,.int .u8 10),(2,.int .u8 13),(3,.int .u8 32)]) rfl rfl (by decide) (by decide);refine⟨s,w3,k1,(Gq (Cg k2) x).mono ?_⟩;rintro _ w4 ⟨rfl,dL⟩;have ep:=cR.cf (k3.cf dL);have h4:=kp ep h1;have E6:ay [b] w w4:=cD.trans (cr.cf ep) (by simp);refine⟨_,rfl,fun hb=>⟨j,Blk.dQ h4 1 rfl,b,1,_,t,by rw[fL],h4,by simp,fun w5 eP u7=>⟨l.length-(j+1),by omega,j+1,by omega,rfl,?_,E6.trans eP (by simp),?_⟩⟩,fun hb=>(Ab h4 hj).mono ?_⟩
  ·have e:DM x=true:=hb;rw[hjs,hd,nc,if_pos e];omega
  ·rw[fR (by omega) (by omega)]at u7;exact u7
  rintro _ w6 ⟨rfl,eB⟩;have h6:=kp eB h4;have hlr:(l.drop j).length<=l.length:=by rw[cH];omega
  refine⟨_,rfl,(Gs w6 (l.drop j) [47,47] (by omega) (by decide)).mono ?_⟩;rintro _ w7 ⟨rfl,fE⟩;have h7:=kp fE h6;refine⟨_,rfl,fun hs=>(Ab h7 hj).mono ?_,fun hs=>⟨rfl,E6.trans (eB.cf fE) (by simp),?_⟩⟩
  ·rintro _ w8 ⟨rfl,fy⟩;have h8:=kp fy h7;refine⟨_,rfl,(af2 w8 (l.drop j) 10 (by omega)).mono ?_⟩;rintro _ w9 ⟨s9,b9,rfl,fQ⟩;have h9:=kp fQ h8;have E7:(l.drop j).take 2=[47,47]:=aO hs;have hk:=NP E7;have fi:((l.drop j).takeWhile (· !=10)).length<=(l.drop j).length:=by
    rw[qO,cT];exact Nat.min_le_right _ _
   have ug:0<((l.drop j).takeWhile (· !=10)).length:=by
    match hq:l.drop j,E7 with
    | a::r',E7=>
     have:a=47:=by
      match r',E7 with
      | b'::r'',E7=>simp at E7;exact E7.1
     subst this;simp
   have hld:(l.drop j).length=l.length-j:=cH;generalize hn:((l.drop j).takeWhile (· !=10)).length=n at*
   refine⟨_,s9,b9,rfl,j,Blk.dQ h9 1 rfl,b,1,_,t,by rw[fL],h9,by simp,fun du dM wF=>⟨l.length-(j+n),by omega,j+n,by omega,rfl,?_,(E6.trans (eB.cf (fE.cf (fy.cf fQ))) (by simp)).trans dM (by simp),?_⟩⟩
   ·rw[hjs,hk,oE];omega
   ·rw[dI,hn,fR (by omega) (by omega)]at wF;exact wF
  ·have hs:¬(l.drop j).take 2=[47,47]:=aR hs;have hb:DM x=false:=hb;have hz:nc false (l.drop j)=0:=by
    rw[hd,nc,if_neg (by simp[hb]),if_neg];intro hh;apply hs;rw[hd];simp only[aQ,ey]at hh;obtain⟨rfl,hh⟩:=hh;cases hr:l.drop (j+1)with
    | nil=>rw[hr]at hh;simp at hh
    | cons y z=>
     rw[hr]at hh;simp only[List.head?_cons,aZ]at hh;rw[hh];rfl
   rw[hjs,hz];exact h7
 ·have rl:l.length<=j:=by simpa using hc
  have hz:l.drop j=[]:=ki rl;rw[hjs,hz];exact h1
def Er(w:av):Prop:=∃tp p,w.var? aq "strconv.ErrRange" =some #[.iface tp p]
theorem er_num:Tryz.prog.globalNamed "strconv.ErrRange" =some 4:=by kernel_rfl
theorem Er.keep{w w':av}(h:Er w)(hk:4<w.heap.size->w'.heap[4]? =w.heap[4]?):Er w':=by
 obtain⟨tp,p,h⟩:=h;refine⟨tp,p,?_⟩;unfold World.var? at h⊢;rw[er_num]at h⊢;simp only[mf]at h⊢;rw[hk]
 ·exact h
 ·refine cx fun hn=>?_;rw[eU (by omega)]at h;cases h
theorem Er.lt{w:av}(h:Er w):4<w.heap.size:=by
 obtain⟨tp,p,h⟩:=h;unfold World.var? at h;rw[er_num]at h;simp only[mf]at h;refine cx fun hn=>?_;rw[eU (by omega)]at h;cases h
theorem Er.only{w w':av}(h:Er w)(hO:ay [] w w'):Er w':=h.keep fun bS=>hO.block _ bS (by simp)
def wZ(a:Nat)(ds:aH):Nat:=ds.foldl (fun a c=>a*10+(c.toNat-48)) a
theorem Li:∀(ds:aH) (a:Nat),a<=wZ a ds
 | [],a=>aX _
 | c::r,a=>by
  have:=Li r (a*10+(c.toNat-48));show a<=wZ (a*10+(c.toNat-48)) r;omega
theorem pum:∀(ds:aH) (a:Nat),(∀c,c∈ds->ff c=true)->a<=18446744073709551615->
  Lib.parseUintM 18446744073709551615 a ds=if wZ a ds<=18446744073709551615 then .ok (wZ a ds)else .range
 | [],a,_,h=>by rw[Lib.parseUintM];exact(if_pos h).symm
 | c::r,a,hd,h=>by
  have hc:=hd c (by simp);simp only[ff,aQ,bM]at hc;have e:wZ a (c::r)=wZ (a*10+(c.toNat-48)) r:=rfl;have rl:=Li r (a*10+(c.toNat-48));rw[Lib.parseUintM,if_pos hc,e];split
  ·rw[if_neg (by omega)]
  ·split
   ·rw[if_neg (by omega)]
   ·rw[pum r _ (fun x hx=>hd x (by simp[hx])) (by omega)]
theorem pib{ds:aH}(hd:∀c,c∈ds->ff c=true)(ik:ds≠[]):Lib.parseIntB 64 ds=if wZ 0 ds<9223372036854775808 then .ok (wZ 0 ds:Int)else .range:=by
 match ds,ik with
 | c::r,_=>
  have hc:=hd c (by simp);simp only[ff,aQ,bM]at hc;have h1:¬(c.toNat=43∨c.toNat=45):=by omega
  have h2:¬c.toNat=45:=by omega
  have h3:Lib.parseUintB 64 (c::r)=Lib.parseUintM 18446744073709551615 0 (c::r):=by
   rw[Lib.parseUintB,if_neg (by simp)]
  unfold Lib.parseIntB;dsimp only;rw[if_neg h1,h3,pum _ _ hd (by decide)];by_cases hv:wZ 0 (c::r)<=18446744073709551615
  ·rw[if_pos hv];by_cases hw:wZ 0 (c::r)<9223372036854775808
   ·rw[if_pos hw];simp[h2];omega
   ·rw[if_neg hw];simp[h2];omega
  ·rw[if_neg hv,if_neg (by omega)]
def gR(l:aH):Nat×Nat×Int:=
 if l=[]then(0,0,3)else if l.takeWhile ff=[]∨(1<(l.takeWhile ff).length/\l.head? =some 48)then(0,0,4)
 else if wZ 0 (l.takeWhile ff)<9223372036854775808 then(wZ 0 (l.takeWhile ff),(l.takeWhile ff).length,0)else(0,0,20)
theorem NQ{p:UInt8->Bool}{l:aH}:∀c,c∈l.takeWhile p->p c=true:=by
 have:=List.all_takeWhile (p:=p) (l:=l);rwa[dY]at this
theorem QT{w:av}{l:aH}(hE:Er w)(hl:l.length<281474976710656):
  az aq 220 #[ab (T l)] w fun e w'=>e=ak (ai #[O U (gR l).1,O U (gR l).2.1,O U (gR l).2.2])/\ay [] w w':=by
 refine ret (v0w _ _ _ ?_);refine⟨fun nv j w'=>∃n:Nat,n<=l.length/\j=(n:Int)/\nv=l.length-n/\(∀x,x∈l.take n->ff x=true)/\ay [] w w',l.length,⟨0,bh _,rfl,rfl,by simp,Only.refl _ _⟩,?_⟩;rintro nv _ w0 ⟨n,hn,rfl,rfl,hp,cD⟩;rw[dI];refine⟨fun b w'=>(b=true->∃x,l[n]? =some x/\ff x=true)/\(b=false->∀x,l[n]? =some x->ff x=false)/\ay [] w w',?_,fun hc=>?_,fun hc=>⟨fun e=>(by cases e),fun _ x hx=>?_,cD⟩⟩
 ·rintro b w1 ⟨h1,h2,cr⟩;refine⟨fun hb=>?_,fun hb=>?_⟩
  ·obtain⟨x,hx,hw⟩:=h1 hb;have bS:=(aV.1 hx).1;refine⟨l.length-(n+1),by omega,n+1,by omega,by rw[fR (by omega) (by omega)];rfl,rfl,fun y hy=>?_,cr⟩;rw[bJ,hx]at hy;simp only[nK,bR,aN]at hy;rcases hy with hy | rfl
   ·exact hp y hy
   ·exact hw
  have hds:=uN hn hp (h2 hb);have zf:(l.takeWhile ff).length=n:=by rw[hds,cT];omega
  have e0:(ao #[])=T []:=rfl;rw[e0,mA];refine⟨fun h0=>⟨?_,cr⟩,fun h0=>?_⟩
  ·have h0:l=[]:=aO h0;rw[gR,if_pos h0];rfl
  have h0:¬l=[]:=aR h0;refine⟨fun b w'=>b=decide (l.takeWhile ff=[]∨(1<(l.takeWhile ff).length/\l.head? =some 48))/\ay [] w w',?_,fun hz=>?_,fun hz=>?_⟩
  ·rintro b w2 ⟨rfl,cR⟩;refine⟨fun hb=>⟨?_,cR⟩,fun hb=>⟨n,⟨rfl,hn⟩,?_⟩⟩
   ·rw[gR,if_neg h0,if_pos (aO hb)];rfl
   have hb:=aR hb;have hx:(T l).extract 0 n=T (l.takeWhile ff):=by rw[zx,fV,oC,hds]
   rw[hx];have ik:l.takeWhile ff≠[]:=fun e=>hb (.inl e);have hpi:=pib (NQ (p:=ff) (l:=l)) ik;have hsz:(T (l.takeWhile ff)).size<=281474976710656:=by rw[dI];omega
   by_cases hv:wZ 0 (l.takeWhile ff)<9223372036854775808
   ·rw[if_pos hv]at hpi;refine(Tryz.strconv_ParseInt_10_at64_ok (T (l.takeWhile ff)) (bp hsz (by decide)) _ hpi w2).mono ?_;rintro _ w3 ⟨rfl,hw⟩;have de:ay [] w2 w3:=by
     rcases hw with rfl | ⟨s,rfl⟩
     ·exact Only.refl _ _
     ·exact Only.qk (Lib.bytesWorld_below _ _ _)
    refine⟨_,⟨.nilIface,rfl⟩,rfl,.inl rfl,fun e=>(by cases e),fun _=>⟨?_,cR.cf de⟩⟩;rw[gR,if_neg h0,if_neg hb,if_pos hv,zf]
   ·rw[if_neg hv]at hpi;obtain⟨tp,p,abD⟩:=hE.only cR;refine(Tryz.strconv_ParseInt_10_at64_range_var (T (l.takeWhile ff)) hsz hpi tp p w2 abD).mono ?_;rintro _ w3 ⟨N,rfl,_,_,hw⟩;refine⟨_,⟨.iface _ _,rfl⟩,rfl,.inr ⟨_,_,rfl⟩,fun _=>⟨?_,cR.cf (Only.qk hw)⟩,fun e=>(by cases e)⟩;rw[gR,if_neg h0,if_neg hb,if_neg hv];rfl
  ·have hz:n=0:=by simpa using hz
   subst hz;refine⟨?_,cr⟩;symm;rw[bL (.inl (cb zf))];rfl
  ·have hz:n≠0:=by simpa using hz
   obtain⟨x,r,rfl⟩:∃x r,l=x::r:=by
    cases l with
    | nil=>exact absurd rfl h0
    | cons x r=>exact⟨x,r,rfl⟩
   refine⟨x,fun _=>⟨iB _,by rw[xO];rfl⟩,?_,cr⟩;have ik:(x::r).takeWhile ff≠[]:=fun e=>by rw[e]at zf;exact hz zf.symm
   rw[zf,bX];simp only[aQ,bM,ey,List.head?_cons,aZ];constructor
   ·rintro⟨h1,h2⟩;exact .inr ⟨by omega,T7.1 (by show x.toNat=48;omega)⟩
   ·rintro(h | ⟨h1,rfl⟩)
    ·exact absurd h ik
    ·exact⟨by omega,rfl⟩
 ·have bS:(n:Int)<l.length:=aO hc;have hx:l[n]? =some (l[n]'(by omega)):=aW (by omega);generalize l[n]'(by omega)=x at hx;refine⟨x,⟨bA n,by rw[xO,aY,hx]⟩,(QM w0 x).mono ?_⟩;rintro _ w3 ⟨rfl,de⟩;refine⟨_,rfl,fun hb=>⟨x,hx,hb⟩,fun hd y hy=>?_,cD.cf de⟩;rw[hx]at hy;injection hy with hy;subst hy;exact hd
 ·have rl:¬(n:Int)<l.length:=aR hc;have:=(aV.1 hx).1;omega
structure Tk where
 k:Int
 t:aH
 n:Int
 a:Int
deriving DecidableEq
def Tk.v(x:Tk):aw:=ah #[O U x.k,ab (T x.t),O U x.n,O U x.a]
def Lj:Rp Tk:=fun _ _ x cs=>cs=[O U x.k,ab (T x.t),O U x.n,O U x.a]
theorem jB:Lj.Ok where
 keep h _:=h
 inHeap h:=h
 mono h _:=h
 one:=by
  rintro w F x cs h v hv;unfold Lj at h;subst h;simp only[aU,ba,bW]at hv;rcases hv with rfl | rfl | rfl | rfl<;>rfl
abbrev mR(B:Nat)(w:av)(s:Sl)(xs:List Tk):Prop:=Own Lj 4 194 B w (fun _=>True) s xs
theorem mR.of{B:Nat}{w:av}{F:aJ}{s:Sl}{xs:List Tk}(h:Own Lj 4 194 B w F s xs):mR B w s xs:=h.mono jB fun _ _=>trivial
theorem mR.sl{B:Nat}{w:av}{s:Sl}{xs:List Tk}(h:mR B w s xs):aA Lj 4 w (fun k=>B<=k/\s.a=some ⟨k,0,none⟩) s xs:=QQ jB (fun _ _ _ _ _ h=>h) h
theorem mR.flat{B:Nat}{w:av}{s:Sl}{xs:List Tk}(h:mR B w s xs):Own Lj 4 194 B w (fun _=>False) s xs:=by
 rcases h with h | ⟨g,css,tail,a1,a2,a4,a5,a6,a7,a9,a8⟩
 ·exact .inl h
 ·exact .inr ⟨g,css,tail,a1,a2,a4,a5,a6,a7,a9,fS.imp (fun _ _ h=>h) a8⟩
theorem mR.keep{B:Nat}{w w':av}{s:Sl}{xs:List Tk}(h:mR B w s xs)(hk:∀k,B<=k/\s.a=some ⟨k,0,none⟩->k<w.heap.size->w'.heap[k]? =w.heap[k]?):mR B w' s xs:=
 mR.of (h.flat.keep jB fun k hF bS=>hk k (hF.elim False.elim id) bS)
theorem mR.only{B:Nat}{w w':av}{s:Sl}{xs:List Tk}(h:mR B w s xs)(hO:ay [] w w'):mR B w' s xs:=h.keep fun k _ bS=>hO.block k bS (by simp)
theorem mR.p{B:Nat}{w w':av}{s:Sl}{xs:List Tk}{D:aJ}(h:mR B w s xs)(hO:aD D w w')(hD:∀k,B<=k->s.a=some ⟨k,0,none⟩->¬D k):mR B w' s xs:=h.keep fun k hk bS=>hO.block k bS (hD k hk.1 hk.2)
theorem Z1{w:av}{B:Nat}{s:Sl}{xs:List Tk}(t:Tk)(hs:mR B w s xs)(hB:B<=w.heap.size)(hm:(xs.length+1)*40<=140737488355328):
  ∃y w1,(au 177 1 #[(0,t.v)]).run aq w=.ok (Sl.v y) w1/\ay [] w w1/\∃s' w2,(Builtin.append_ #[177,177] 177 #[Sl.v s,Sl.v y]).run aq w1=.ok (Sl.v s') w2/\mR B w2 s' (xs++[t])/\aD (fun k=>B<=k/\s.a=some ⟨k,0,none⟩) w1 w2:=by
 obtain⟨y,w1,k1,k2,s',w2,k3,k4,⟨gs,k5,k6⟩,_⟩:=jK (P:=aq) (t:=177) (ty:=177) (e:=194) (i:=Tryz.t194) (bytes:=40) (size:=4) (v:=t.v) (x:=t) (G:=fun _=>False) (by kernel_rfl) (by kernel_rfl) rfl rfl rfl rfl (by decide) (by decide) (by decide) jB hs hB rfl rfl (fun k hk _=>hk.elim) hm;exact⟨y,w1,k1,k2,s',w2,k3,mR.of k4,k5.p fun g hg=>.inl ⟨(k6 g hg).2.1,(k6 g hg).1⟩⟩
def sC:List (aH):=[[97,102,116,101,114],[97,108,119,97,121,115],[99,104,97,114,116],[100,101,101,112],[101,109,105,116],[101,110,116,101,114],[104,105,115,116,111,114,121],[105,110],[105,110,105,116,105,97,108],[108,101,97,118,101],[111,110],[112,97,114,97,108,108,101,108],[114,97,105,115,101],[115,101,116],[115,116,97,116,101],[118,97,114]]
theorem Lk(w:av):az aq 151 #[] w fun e w'=>∃s:Sl,e=ak s.v/\Own ju 1 9 w.heap.size w' (fun _=>True) s sC/\ay [] w w':=by
 refine(aeU (fun v w'=>∃s:Sl,v=s.v/\Own ju 1 9 w.heap.size w' (fun _=>True) s sC/\ay [] w w') w ?_).mono (by
  rintro e w' ⟨v,rfl,s,rfl,h⟩;exact⟨s,rfl,h⟩)
 obtain⟨s,w',h1,h2,h3⟩:=nU w sC (n:=16) rfl rfl (by decide) (by decide);exact⟨s,w',h1,s,rfl,h2,h3⟩
structure Cut (w:av) (b:Nat) (l:aH) (i:Nat) (rs:Sl) (acc:List Tk):Prop where
 blk:∃ws:Sl,aF w b 226 [ab (T l),O U (i:Int),ws.v,rs.v]/\aA ju 1 w (fun k=>k<b) ws sC
 own:mR (b+1) w rs acc
 er:Er w
 gb:4<b
 il:i<=l.length
 ll:l.length<=16384
theorem Cut.lt{w:av}{b:Nat}{l:aH}{i:Nat}{rs:Sl}{acc:List Tk}(h:Cut w b l i rs acc):b<w.heap.size:=by
 obtain⟨ws,h1,_⟩:=h.blk;exact h1.lt
theorem Cut.only{w w':av}{b:Nat}{l:aH}{i:Nat}{rs:Sl}{acc:List Tk}(h:Cut w b l i rs acc)(hO:ay [] w w'):Cut w' b l i rs acc:=by
 obtain⟨ws,h1,h2⟩:=h.blk;exact⟨⟨ws,(hO.block b h1.lt (by simp)).trans h1,SliceF.only cP (by decide) h2 hO (by simp)⟩,h.own.only hO,h.er.only hO,h.gb,h.il,h.ll⟩
theorem Cut.move{w w':av}{b:Nat}{l:aH}{i j:Nat}{rs:Sl}{acc:List Tk}(h:Cut w b l i rs acc)(hO:ay [b] w w')(hj:j<=l.length)(hB:∀ws:Sl,aF w b 226 [ab (T l),O U (i:Int),ws.v,rs.v]->aF w' b 226 [ab (T l),O U (j:Int),ws.v,rs.v]):Cut w' b l j rs acc:=by
 obtain⟨ws,h1,h2⟩:=h.blk;exact⟨⟨ws,hB ws h1,SliceF.only cP (by decide) h2 hO (by intro k hk _;simp only[aN];omega)⟩,h.own.keep fun k hk bS=>hO.block k bS (by simp only[aN];omega),h.er.keep fun bS=>hO.block _ bS (by simp only[aN];have:=h.gb;omega),h.gb,hj,h.ll⟩
theorem Ll{w:av}{b:Nat}{l:aH}{i:Nat}{rs:Sl}{acc:List Tk}(h:Cut w b l i rs acc)(k:Int)(t:aH)(nn a0:Int)(n:Nat)(hn:i+n<=l.length)(ha:acc.length<=16384):
  az aq 155 #[ae (some ⟨b,0,none⟩),ah #[O U k,ab (T t),O U nn,O U a0],O U (n:Int)] w fun e w'=>e=ak (ai #[])/\aD (fun k=>b<=k) w w'/\∃WY,Cut w' b l (i+n) WY (acc++[⟨k,t,nn,i⟩]):=by
 refine ret (ae9 _ _ _ _ _ _ _ _ ?_);intro k0 w0 gu fe cD;have C4:=h.lt;have hll:=h.ll;have h0:=h.only cD;obtain⟨ws,yi,hw0⟩:=h0.blk;refine⟨i,Blk.dQ yi 1 rfl,fun w1 cr=>?_⟩;have zb0:=yi.lt;have zh:aF w1 b 226 _:=(cr.block b zb0 (by simp only[aN];omega)).trans yi;have ho1:mR (b+1) w1 rs acc:=h0.own.keep fun q hq bS=>by
  refine cr.block q bS ?_;simp only[aN];rintro rfl;have:=(h.own.blk hq.2).2;dsimp only at this;omega
 have z1:=cr.size;obtain⟨y,w2,c1,c2,s',w3,c3,c4,c5⟩:=Z1 ⟨k,t,nn,i⟩ ho1 (by omega) (bp (jo 40 (show acc.length+1<=16385 by omega)) (by decide));have z2:=c2.size;have z3:=c5.size;have anA:∀q,rs.a=some ⟨q,0,none⟩->q≠k0:=fun q hq=>by
  have:=(h.own.blk hq).2;dsimp only at this;omega
 refine⟨fun q=>q=b,rfl,rs,Blk.dQ zh 3 rfl,y,w2,c1,c2.same (by simp;omega),bP.only c2,s',w3,c3,?_,?_,?_⟩
 ·exact c5.same (by intro x hx;simp only[aN]at hx;subst hx;exact⟨by omega,fun e=>anA _ e.2 rfl⟩)
 ·intro q hq bS;exact c5.block q bS (by omega)
 have hb3:aF w3 b 226 [ab (T l),O U (i:Int),ws.v,rs.v]:=(c5.block b (by omega) (by omega)).trans ((c2.block b (by omega) (by simp)).trans zh);refine⟨b,3,_,226,by rw[fL],hb3,by simp,by omega,fun w4 dL WZ=>?_⟩;have WZ:aF w4 b 226 [ab (T l),O U (i:Int),ws.v,s'.v]:=WZ;refine⟨i,Blk.dQ WZ 1 rfl,b,1,_,226,by rw[B5,fL],WZ,by simp,by omega,fun w5 eP Ni=>⟨rfl,?_,s',?_⟩⟩
 ·have e1:aD (fun k=>b<=k) w w1:=cD.p0.trans (cr.p (F:=fun q=>q=k0) fun b hb=>.inl (by simpa using hb)) fun q hq=>by omega
  have e2:aD (fun k=>b<=k) w w3:=(e1.cf c2).trans c5 fun q hq=>.inl (by omega);have e3:aD (fun k=>b<=k) w w4:=e2.trans (dL.p (F:=fun q=>q=b) fun b hb=>.inl (by simpa using hb)) fun q hq=>.inl (by omega);exact e3.trans (eP.p (F:=fun q=>q=b) fun b hb=>.inl (by simpa using hb)) fun q hq=>.inl (by omega)
 ·have z4:=dL.size;have Ni:aF w5 b 226 [ab (T l),O U (IntKind.i64.wrap ((i:Int)+n)),ws.v,s'.v]:=Ni;rw[fR (by omega) (by omega)]at Ni;have up:aD (fun k=>b<=k) w w5:=by
   have e1:aD (fun k=>b<=k) w w1:=cD.p0.trans (cr.p (F:=fun q=>q=k0) fun b hb=>.inl (by simpa using hb)) fun q hq=>by omega
   have e2:aD (fun k=>b<=k) w w3:=(e1.cf c2).trans c5 fun q hq=>.inl (by omega);have e3:aD (fun k=>b<=k) w w4:=e2.trans (dL.p (F:=fun q=>q=b) fun b hb=>.inl (by simpa using hb)) fun q hq=>.inl (by omega);exact e3.trans (eP.p (F:=fun q=>q=b) fun b hb=>.inl (by simpa using hb)) fun q hq=>.inl (by omega)
  have hgb:=h.gb;obtain⟨OP,j9,hw'⟩:=h.blk;have hwe:OP=ws:=by
   have:aF w0 b 226 [ab (T l),O U (i:Int),OP.v,rs.v]:=(cD.block b C4 (by simp)).trans j9;unfold aF at this yi;rw[this]at yi;simp[Sl.v]at yi;cases ws;cases OP;simp_all
  subst hwe;refine⟨⟨OP,Ni,SliceF.jV cP (by decide) hw' up fun q hq _ hd=>by omega⟩,?_,h.er.keep fun bS=>up.block _ bS (by omega),hgb,hn,hll⟩;have e4:mR (b+1) w4 s' _:=c4.keep fun q hq bS=>dL.block q bS (by simp only[aN];omega);exact e4.keep fun q hq bS=>eP.block q bS (by simp only[aN];omega)
abbrev Tq:=Int×aH×Int×Nat
def uq(m:aH):Except Int Tq:=
 if 24<(m.takeWhile iG).length then .error 2 else .ok (if sC.contains (m.takeWhile iG)then 2 else 1,m.takeWhile iG,0,(m.takeWhile iG).length)
def Ae(m:aH):Except Int Tq:=
 if(gR m).2.2≠0 then .error (gR m).2.2 else if(gR m).2.1<(m.takeWhile iG).length then .error 4 else .ok (3,[],(gR m).1,(gR m).2.1)
def DP:aH:=[123,125,40,41,91,93,59,44,61,43,45,42,47,37,60,62,33]
def Lm(m:aH):Bool:=match m with
 | c::d::_=>(d==61&&[60,62,61,33].contains c)||(d==c&&[38,124].contains c)||(c==45&&d==62)
 | _=>false
def nf(m:aH):Nat:=if Lm m then 2 else match m with
 | c::_=>if DP.contains c then 1 else 0
 | []=>0
def ur(m:aH):Except Int Tq:=if nf m=0 then .error 4 else .ok (4,m.take (nf m),0,nf m)
def vU(m:aH):Except Int Tq:=match m with
 | []=>.error 4
 | c::_=>if qN c then uq m else if ff c then Ae m else ur m
def Pb(w':av)(b:Nat)(l:aH)(i:Nat)(acc:List Tk)(r:Except Int Tq)(v:aw):Prop:=match r with
 | .error e=>v=O U e/\∃rs,Cut w' b l i rs acc
 | .ok q=>v=O U 0/\∃rs,Cut w' b l (i+q.2.2.2) rs (acc++[⟨q.1,q.2.1,q.2.2.1,i⟩])
theorem tH{p:UInt8->Bool}{l:aH}:(l.takeWhile p).length<=l.length:=by
 rw[qO,cT];exact Nat.min_le_right _ _
theorem Z2{w:av}{b:Nat}{l:aH}{i:Nat}{rs:Sl}{acc:List Tk}(h:Cut w b l i rs acc)(ha:acc.length<=16384):
  az aq 193 #[ae (some ⟨b,0,none⟩)] w fun e w'=>∃v,e=ak v/\aD (fun k=>b<=k) w w'/\Pb w' b l i acc (uq (l.drop i)) v:=by
 refine ae5 ⟨b,0,none⟩ (fun v w'=>aD (fun k=>b<=k) w w'/\Pb w' b l i acc (uq (l.drop i)) v) w ?_;obtain⟨ws,hb,hw⟩:=h.blk;have hll:=h.ll;refine(QP hb h.il (by omega)).mono ?_;rintro _ w0 ⟨rfl,cD⟩;have hwl:((l.drop i).takeWhile iG).length<=l.length-i:=by
  have:=tH (p:=iG) (l:=l.drop i);rwa[cH]at this
 have Bg:=h.il;refine⟨_,rfl,fun hc=>⟨cD.p0,?_⟩,fun hc=>?_⟩
 ·rw[dI]at hc;rw[uq,if_pos (by have:=aO hc;omega)];exact⟨rfl,rs,h.only cD⟩
 rw[dI]at hc;have hc:¬24<((l.drop i).takeWhile iG).length:=by have:=aR hc;omega
 rw[uq,if_neg hc];generalize hm:(l.drop i).takeWhile iG=m at*
 have h0:=h.only cD;obtain⟨OP,j9,hw'⟩:=h0.blk;refine⟨fun k w'=>k=(if sC.contains m then 2 else 1)/\ay [] w w',?_,OP,Blk.dQ j9 2 rfl,(sB hw' m).mono ?_⟩
 ·rintro _ w1 ⟨rfl,cr⟩;refine(ret (XN (T m) (fun v w'=>v=ab (T m)/\ay [] w1 w') w1 ?_)).mono ?_
  ·refine(Tryz.stringslite_Clone (T m) w1 (by rw[dI];omega)).mono ?_;rintro _ w2 ⟨rfl,hw⟩;exact⟨_,rfl,rfl,Only.qk hw⟩
  rintro _ w2 ⟨rfl,cR⟩;rw[dI];refine⟨_,rfl,(Ll (h.only (cr.cf cR)) _ m 0 0 m.length (by omega) ha).mono ?_⟩;rintro _ w3 ⟨rfl,de,WY,hC⟩;exact⟨rfl,(cr.cf cR).mL de,rfl,WY,hC⟩
 ·rintro _ w4 ⟨rfl,dL⟩;refine⟨_,rfl,fun hb=>⟨by rw[if_pos hb],cD.cf dL⟩,fun hb=>⟨by rw[hb];rfl,cD.cf dL⟩⟩
theorem QU{w:av}{b:Nat}{l:aH}{i:Nat}{rs:Sl}{acc:List Tk}(h:Cut w b l i rs acc)(ha:acc.length<=16384):
  az aq 195 #[ae (some ⟨b,0,none⟩)] w fun e w'=>∃v,e=ak v/\aD (fun k=>b<=k) w w'/\Pb w' b l i acc (Ae (l.drop i)) v:=by
 refine afa ⟨b,0,none⟩ (fun v w'=>aD (fun k=>b<=k) w w'/\Pb w' b l i acc (Ae (l.drop i)) v) w ?_;obtain⟨ws,hb,hw⟩:=h.blk;have hll:=h.ll;have Bg:=h.il;refine(Ab hb h.il).mono ?_;rintro _ w0 ⟨rfl,cD⟩;have zf:(l.drop i).length=l.length-i:=cH;refine⟨_,rfl,(QT (h.er.only cD) (by omega)).mono ?_⟩;rintro _ w1 ⟨rfl,cr⟩;have jz:=cD.cf cr;refine⟨_,_,_,rfl,fun he=>⟨jz.p0,?_⟩,fun he=>?_⟩
 ·rw[Ae,if_pos (by simpa using he)];exact⟨rfl,rs,h.only jz⟩
 have he:¬(gR (l.drop i)).2.2≠0:=by simpa using he
 have hk:(gR (l.drop i)).2.1<=(l.drop i).length:=by
  have:=tH (p:=ff) (l:=l.drop i);unfold gR;split
  ·exact bh _
  ·split
   ·exact bh _
   ·split
    ·exact this
    ·exact bh _
 obtain⟨OP,j9,hw'⟩:=(h.only jz).blk;refine(QP j9 h.il (by omega)).mono ?_;rintro _ w2 ⟨rfl,cR⟩;have pj:=jz.cf cR;refine⟨_,rfl,?_⟩;dsimp only;rw[dI];refine⟨fun hc=>⟨pj.p0,?_⟩,fun hc=>?_⟩
 ·rw[Ae,if_neg he,if_pos (by have:=aO hc;omega)];exact⟨rfl,rs,h.only pj⟩
 ·rw[Ae,if_neg he,if_neg (by have:=aR hc;omega)];refine(Ll (h.only pj) 3 [] _ 0 (gR (l.drop i)).2.1 (by omega) ha).mono ?_;rintro _ w3 ⟨rfl,de,WY,hC⟩;exact⟨rfl,pj.mL de,rfl,WY,hC⟩
end Go.Proofs.YtbkjcdocjfknfaaGreatDoor.Con
