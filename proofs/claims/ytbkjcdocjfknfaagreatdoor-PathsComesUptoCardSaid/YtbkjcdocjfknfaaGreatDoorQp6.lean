import Derived.Test.YtbkjcdocjfknfaaGreatDoorQp5
set_option linter.unusedSectionVars false
namespace Go.Proofs.YtbkjcdocjfknfaaGreatDoor.Vc
open Go.Value renaming int->O,string->ah,pointer->ai,agg->aj,tuple->ak,bool->ao
open Go.IntKind renaming i64->ae,wrap->av
open Go.Ending renaming returned->aq
open _root_.ByteArray renaming mk->ar
open _root_.Go.Proofs.Tryz renaming prog->au
open Go.Instr renaming buildSlice->aw
open Go renaming World->ay,Value->az,Calls->aB
open Go.Kt renaming Only->aA,SliceF->aD,Cells->aE,OnlyP->aF,Blk->aH
open Go Go.RowKit Go.Kt Go.Kt.V
set_option linter.unusedVariables false
set_option maxRecDepth 100000
set_option maxHeartbeats 40000000
theorem ajH(R:aI)(w:ay)(h:aB au 37 #[ah (ar #[99,104,97,114,116,32,99,32,123,32,105,110,105,116,105,97,108,32,97,59,32,115,116,97,116,101,32,97,32,123,32,111,110,32,120,32,45,62,32,100,59,32,111,110,32,121,32,45,62,32,104,59,32,125,32,112,97,114,97,108,108,101,108,32,112,32,123,32,115,116,97,116,101,32,113,32,123,32,105,110,105,116,105,97,108,32,98,59,32,115,116,97,116,101,32,98,32,123,32,125,32,115,116,97,116,101,32,100,32,123,32,125,32,125,32,115,116,97,116,101,32,114,32,123,32,125,32,104,105,115,116,111,114,121,32,104,32,45,62,32,113,59,32,125,32,125])] w fun e0 w0=>∃l0:Sl,∃i0 s0 s1 s2,∃l1 l2 l3 l4:Sl,∃i1 i2 i3,e0=(aq (ak #[aj #[l0.v,O ae i0,ah s0,ah s1,ah s2,l1.v,l2.v,l3.v,l4.v,O ae i1],aj #[O ae i2,O ae i3]]))/\∀k0 k1 w1,w0.heap.size<=k0->k0<w1.heap.size->w0.heap.size<=k1->k1<w1.heap.size->aA [] w0 w1->aB au 19 #[aj #[l0.v,O ae i0,ah s0,ah s1,ah s2,l1.v,l2.v,l3.v,l4.v,O ae i1]] w1 fun e1 w2=>∃l5 l6 l7 l8:Sl,∃i4 i5,e1=(aq (ak #[aj #[l5.v,l6.v,l7.v,l8.v],aj #[O ae i4,O ae i5]]))/\ci [k0,k1] w1 w2/\∀k2 k3 w3,w2.heap.size<=k2->k2<w3.heap.size->w2.heap.size<=k3->k3<w3.heap.size->aA [] w2 w3->yg [k0,k1,k2,k3] 33 #[aj #[l5.v,l6.v,l7.v,l8.v]] w3 fun l9 w4=>gf (aw 32 1 #[.mk 0 (O ae 0)]) w4 fun l10 w5=>ci [k0,k1,k2,k3] w4 w5/\yg [k0,k1,k2,k3] 30 #[aj #[l5.v,l6.v,l7.v,l8.v],Sl.nil.v,l10.v] w5 fun oh w6=>∃p0,((((i2==0)&&(i4==0))&&((l8.n:Int)==2))=true->dL l8 0 7 p0)/\∃i6,((((i2==0)&&(i4==0))&&((l8.n:Int)==2))=true->aE w6 (p0.add 6) [O ae i6])/\∃p1,(((((((i2==0)&&(i4==0))&&((l8.n:Int)==2))&&(i6==0))&&((l9.n:Int)==2))&&((oh.n:Int)==4))=true->dL oh 2 1 p1)/\∃i7,(((((((i2==0)&&(i4==0))&&((l8.n:Int)==2))&&(i6==0))&&((l9.n:Int)==2))&&((oh.n:Int)==4))=true->aE w6 p1 [O ae i7])/\R (ao (((((((i2==0)&&(i4==0))&&((l8.n:Int)==2))&&(i6==0))&&((l9.n:Int)==2))&&((oh.n:Int)==4))&&(i7==5))) w6):Cr 28 #[] w R:=
 gQ (args:=[]) h
theorem ajI(p p1 p2 p3 oe vD past:Sl)(R:aI)(w:ay)(h:∀k0 k1 w0,w.heap.size<=k0->k0<w0.heap.size->w.heap.size<=k1->k1<w0.heap.size->aA [] w w0->aB au 46 #[aj #[p.v,p1.v,p2.v,p3.v],past.v] w0 fun e0 w1=>∃q0,e0=(aq (ai q0))/\ci [k0,k1] w0 w1/\(aH w1 k1 32 [oe.v]->k0≠k1->yg [k0] 62 #[vD.v,ai (some ⟨k1,0,none⟩)] w1 fun l0 w2=>HP w2 k1 32 fun l1=>∃J0:Nat->Int->Sl->Sl->Sl->Sl->Sl->ay->Prop,∃k2:Nat,J0 k2 0 p p1 p2 p3 l1 w2/\∀k3 i0,∀l2 l3 l4 l5 l6:Sl,∀w3,J0 k3 i0 l2 l3 l4 l5 l6 w3->cR (decide (i0<(p.n:Int))) (∃J1:Sl->Sl->Sl->Sl->Sl->ay->Prop,(∀l7 l8 l9 l10 oh:Sl,∀w4,J1 l7 l8 l9 l10 oh w4->nx k3 fun k4=>J0 k4 (av ae (i0+1)) l7 l8 l9 l10 oh w4)/\C6 p i0 w3 fun i1 s0 i2 i3 i4=>nw w3 fun k5 w5=>aH w5 k1 32 [l6.v]->∃J2:Bool->Sl->Sl->Sl->Sl->Sl->Int->aM->Int->Int->Int->ay->Prop,(∀b0,∀ql vC xR AK IL:Sl,∀i5 s1 i6 i7 i8 w6,J2 b0 ql vC xR AK IL i5 s1 i6 i7 i8 w6->cR b0 (J1 ql vC xR AK IL w6) (yg [k0,k5] 65 #[ql.v,O ae i6] w6 fun US w7=>HP w7 k1 32 fun Rq=>∃J3:Sl->Sl->Sl->Sl->Sl->Sl->Int->aM->Int->Int->Int->ay->Prop,(∀LG NM UT l22 l23 l24:Sl,∀i9 s2 i10 i11 i12 w8,J3 LG NM UT l22 l23 l24 i9 s2 i10 i11 i12 w8->∃p1,q0=(some p1)/\Ha w8 (p1.add 4) fun m0=>∃w9,((Builtin.delete_ #[127,3] 0 #[.map m0,O ae i0]).run au w8)=(.ok (ak #[]) w9)/\ci [k0,k1,k5] w8 w9/\∀dI,aA [] w9 dI->aH dI k1 32 [l24.v]->∃J4:aL,∃p2,q0=(some p2)/\J4 ((p2.add 4).block)/\Ha dI (p2.add 4) fun m1=>yg [k0,k5] 62 #[LG.v,ai (some ⟨k1,0,none⟩)] dI fun l25 dJ=>HP dJ k1 32 fun l26=>bS J4 dI dJ/\∃fg,((Instr.mapUpdate 127 (.map m1) (O ae i0) l25.v).run au dJ)=(.ok () fg)/\ci [k0,k1,k5] dJ fg/\bS J4 dJ fg/\J1 NM UT l22 l23 l26 fg)/\cR (i5==4) (yg [k0,k5] 54 #[ql.v,Rq.v] w7 fun l27 fC=>HP fC k1 32 fun l28=>(aH fC k0 55 [ql.v,vC.v,xR.v,AK.v]->aH fC k5 125 [O ae i5,ah s1,O ae i6,O ae i7,O ae i8]->cL 49 #[l27.v,.func (.func 66) #[] #[ai (some ⟨k0,0,none⟩),ai (some ⟨k5,0,none⟩)]] fC fun l29 fT=>HQ fT k0 55 fun l30 l31 l32 l33=>HP fT k1 32 fun l34=>Tw fT k5 125 fun i13 s3 i14 i15 i16=>J3 l29 l30 l31 l32 l33 l34 i13 s3 i14 i15 i16 fT)) (J3 US ql vC xR AK Rq i5 s1 i6 i7 i8 w7)))/\rz [k0,k5] 64 #[O ae i1] w5 fun b1 iJ=>HP iJ k1 32 fun l35=>cR (!b1) (J2 true l2 l3 l4 l5 l35 i1 s0 i2 i3 i4 iJ) (rz [k0,k5] 56 #[l0.v,O ae i2] iJ fun b2 iX=>HP iX k1 32 fun l36=>J2 (!b2) l2 l3 l4 l5 l36 i1 s0 i2 i3 i4 iX)) (∃p3,q0=(some p3)/\Ha w3 (p3.add 4) fun m2=>∃q1 fR,((Instr.range 127 (.map m2)).run au w3)=(.ok (ai q1) fR)/\ci [k0,k1] w3 fR/\∃J5:Nat->Sl->Sl->Sl->Sl->Sl->Sl->ay->Prop,∃k6:Nat,J5 k6 Sl.nil l2 l3 l4 l5 l6 fR/\∀k7,∀IM UW UX UY UZ WG:Sl,∀jA,J5 k7 IM UW UX UY UZ WG jA->Or (Exists (fun jO=>((Instr.next (ai q1) false 0).run au jA)=(.ok (ak #[ao false]) jO)/\ci [k0,k1] jA jO/\gF [k0] 67 #[IM.v,.func (.func 68) #[] #[]] jO fun jm=>HP jm k1 32 fun l43=>R IM.v jm)) (Exists (fun v0:OV=>∃v1:OV,∃kV,((Instr.next (ai q1) false 0).run au jA)=(.ok (ak #[ao true,v0.v,v1.v]) kV)/\ci [k0,k1] jA kV/\∃v2 v3:OV,∃oS,((Instr.entry (ai q1)).run au kV)=(.ok (ak #[v2.v,v3.v]) oS)/\ci [k0,k1] kV oS/\∃i17,v2.v=(O ae i17)/\∃Zw:Sl,v3.v=Zw.v/\yg [k0] 48 #[Zw.v] oS fun l45 nH=>HP nH k1 32 fun l46=>gf (aw 77 1 #[.mk 0 (aj #[O ae i17,l45.v])]) nH fun l47 ot=>ci [k0,k1] nH ot/\gf (Builtin.append_ #[77,77] 77 #[IM.v,l47.v]) ot fun l48 nB=>ci [k0,k1] ot nB/\nx k7 fun k8=>J5 k8 l48 UW UX UY UZ l46 nB))))):Cr 29 #[aj #[p.v,p1.v,p2.v,p3.v],oe.v,vD.v,past.v] w R:=
 fB (an:=.d 4 (.s (.s .o (.j [4,5,9,10,11,26,27] [.s 28 (.int .i64),.b 4 [.sl,.sl,.sl,.sl],.b 5 [.sl]] (.d 2 (.j [4,5,9,10,11,26,27,28] [.b 4 [.sl,.sl,.sl,.sl],.b 5 [.sl]] (.s .o (.s (.s (.j [4,5,9,10,11,12,13,26,27,28] [.s 43 .bool,.b 4 [.sl,.sl,.sl,.sl],.b 5 [.sl],.b 13 [.int .i64,.str,.int .i64,.int .i64,.int .i64]] .o .o) .o) (.s .o (.j [4,5,9,10,11,12,13,26,27,28] [.s 14 .sl,.b 4 [.sl,.sl,.sl,.sl],.b 5 [.sl],.b 13 [.int .i64,.str,.int .i64,.int .i64,.int .i64]] .o .o)))) .o)) .o)) (.s .o (.s (.s .o (.j [4,5,76] [.s 15 .sl,.b 4 [.sl,.sl,.sl,.sl],.b 5 [.sl]] .o .o)) .o)))) (args:=[.agg (mA [.sl p,.sl p1,.sl p2,.sl p3]),.sl oe,.sl vD,.sl past]) h
theorem ajJ(p p1 p2 p3 past targets:Sl)(R:aI)(w:ay)(h:nw w fun k0 w0=>aB au 46 #[aj #[p.v,p1.v,p2.v,p3.v],past.v] w0 fun e0 w1=>∃q0,e0=(aq (ai q0))/\ci [k0] w0 w1/\aB au 71 #[ai q0,targets.v] w1 fun e1 w2=>∃m0,e1=(aq (.map m0))/\ci [k0] w1 w2/\yg [k0] 73 #[.map m0] w2 fun l0 w3=>R l0.v w3):Cr 31 #[aj #[p.v,p1.v,p2.v,p3.v],past.v,targets.v] w R:=
 gQ (args:=[.agg (mA [.sl p,.sl p1,.sl p2,.sl p3]),.sl past,.sl targets]) h
theorem ajK(p p1 p2 p3:Sl)(R:aI)(w:ay)(h:nw w fun k0 w0=>aB au 46 #[aj #[p.v,p1.v,p2.v,p3.v],Sl.nil.v] w0 fun e0 w1=>∃q0,e0=(aq (ai q0))/\ci [k0] w0 w1/\G9 (fun w2=>yg [k0] 72 #[ai q0] w2 fun l0 w3=>R l0.v w3) fun J0=>cR (decide ((p.n:Int)>0)) (∃p0,q0=(some p0)/\Ha w1 (p0.add 5) fun m0=>gf (aw 32 1 #[.mk 0 (O ae 0)]) w1 fun l1 w4=>ci [k0] w1 w4/\gF [k0] 74 #[.map m0,l1.v] w4 fun w5=>J0 w5) (J0 w1)):Cr 33 #[aj #[p.v,p1.v,p2.v,p3.v]] w R:=
 fB (an:=.d 2 (.j [1,3] [] .o .o)) (args:=[.agg (mA [.sl p,.sl p1,.sl p2,.sl p3])]) h
theorem ajL(l:Addr)(n_:Int)(vE tS vF:aM)(vK vL tC qm:Sl)(tT:Int)(R:aI)(w:ay)(h:nw w fun k0 w0=>jr w0 ((l.add 0).add 1) fun l0=>∀w1,aA [] w0 w1->∃J0:aL,J0 (((l.add 0).add 1).block)/\jr w1 ((l.add 0).add 1) fun l1=>rL [k0] 88 #[ai (some l),ah tS] w1 fun i0 w2=>bS J0 w1 w2/\gf (aw 32 1 #[.mk 0 (O ae i0)]) w2 fun l2 w3=>ci [k0] w2 w3/\bS J0 w2 w3/\gf (Builtin.append_ #[32,32] 32 #[l1.v,l2.v]) w3 fun l3 w4=>ci [k0] w3 w4/\bS J0 w3 w4/\∃k1 k2:Nat,∃z0,∃k3:Nat,((l.add 0).add 1)=⟨k1,k2,none⟩/\aH w4 k1 k3 z0/\(k2+1)<=z0.length/\k0≠k1/\∀w5,aA [k1] w4 w5->aH w5 k1 k3 (cD z0 k2 [l3.v])->∀w6,aA [] w5 w6->∃J1:aL,J1 (((l.add 0).add 2).block)/\jr w6 ((l.add 0).add 2) fun l4=>rL [k0] 88 #[ai (some l),ah vF] w6 fun i1 w7=>bS J1 w6 w7/\gf (aw 32 1 #[.mk 0 (O ae i1)]) w7 fun l5 w8=>ci [k0] w7 w8/\bS J1 w7 w8/\gf (Builtin.append_ #[32,32] 32 #[l4.v,l5.v]) w8 fun l6 w9=>ci [k0] w8 w9/\bS J1 w8 w9/\∃k4 k5:Nat,∃z1,∃k6:Nat,((l.add 0).add 2)=⟨k4,k5,none⟩/\aH w9 k4 k6 z1/\(k5+1)<=z1.length/\k0≠k4/\∀dI,aA [k4] w9 dI->aH dI k4 k6 (cD z1 k5 [l6.v])->ub 0 dI fun J2 k8 i2 dJ=>cR (decide (i2<(tC.n:Int))) (mC tC i2 dJ fun i3 s0 i4 b0 i5 i6 s1 i7 l7 i8 l8 l9 i9=>∀k9 po fg,dJ.heap.size<=k9->k9<fg.heap.size->dJ.heap.size<=po->po<fg.heap.size->aA [] dJ fg->∃J3:Nat->Int->Int->Int->Int->aM->Int->Sl->Int->ay->Prop,∃qR:Nat,J3 qR 0 (l0.n:Int) i2 i3 s0 i4 Sl.nil 0 fg/\∀Hg i10 i11 i12 i13 s2 i14,∀l10:Sl,∀i15 fC,J3 Hg i10 i11 i12 i13 s2 i14 l10 i15 fC->cR (decide (i10<(l9.n:Int))) (Nt l9 i10 fC fun s3=>∀fT,aA [] fC fT->∃J4:aL,J4 po/\rL [k0,k9,po] 88 #[ai (some l),ah s3] fT fun i16 iJ=>bS J4 fT iJ/\gf (aw 32 1 #[.mk 0 (O ae i16)]) iJ fun oh iX=>ci [k0,k9,po] iJ iX/\bS J4 iJ iX/\gf (Builtin.append_ #[32,32] 32 #[l10.v,oh.v]) iX fun ql fR=>ci [k0,k9,po] iX fR/\bS J4 iX fR/\∀jA,aA [po] fR jA->nx Hg fun wJ=>J3 wJ (av ae (i10+1)) i11 i12 i13 s2 i14 ql i15 jA) (rL [k0,k9,po] 89 #[ai (some l),O ae (l0.n:Int),l10.v] fC fun i17 jO=>∀jm,aA [po] jO jm->∃J5:aL,J5 (((l.add 0).add 3).block)/\jr jm ((l.add 0).add 3) fun vC=>gf (aw 53 1 #[.mk 0 (aj #[O ae i11,O ae i12,O ae i13,ah s2,O ae i14,l10.v,O ae i17])]) jm fun xR kV=>ci [k0,k9,po] jm kV/\bS J5 jm kV/\gf (Builtin.append_ #[53,53] 53 #[vC.v,xR.v]) kV fun AK oS=>ci [k0,k9,po] kV oS/\bS J5 kV oS/\∃EC LI:Nat,∃z2,∃Cm:Nat,((l.add 0).add 3)=⟨EC,LI,none⟩/\aH oS EC Cm z2/\(LI+1)<=z2.length/\k0≠EC/\k9≠EC/\po≠EC/\∀nH,aA [EC] oS nH->aH nH EC Cm (cD z2 LI [AK.v])->nx k8 fun NN=>J2 NN (av ae (i2+1)) nH)) (ub 0 dJ fun J6 GW i18 ot=>cR (decide (i18<(qm.n:Int))) (jt qm i18 ot fun i19 s4 s5 s6 IL US Rq LG i20=>nw ot fun ED nB=>gF [k0,ED] 43 #[ai (some l),aj #[O ae i19,ah s4,ah s5,ah s6,IL.v,US.v,Rq.v,LG.v,O ae i20]] nB fun rb=>nx GW fun Zy=>J6 Zy (av ae (i18+1)) rb) (R (ak #[]) ot))):Cr 43 #[ai (some l),aj #[O ae n_,ah vE,ah tS,ah vF,vK.v,vL.v,tC.v,qm.v,O ae tT]] w R:=
 fB (an:=.d 4 (.s (.s .o (.j [0,3,4,49,50] [.s 51 (.int .i64)] (.d 2 (.s (.d 2 (.s (.s .o (.j [0,3,4,6,7,49,50,51,66,67] [.s 68 (.int .i64),.b 7 [.int .i64,.int .i64,.int .i64,.str,.int .i64,.sl,.int .i64]] .o .o)) .o)) .o)) .o)) (.s .o (.j [0,3,6,7,101,102] [.s 103 (.int .i64)] .o .o)))) (args:=[.ad l,.agg (mA [.int .i64 n_,.str vE,.str tS,.str vF,.sl vK,.sl vL,.sl tC,.sl qm,.int .i64 tT])]) h
theorem ajM(l:Sl)(R:aI)(w:ay)(h:∃l0:Sl,∃w0,((Instr.makeSlice 32 (O ae (l.n:Int)) (O ae (l.n:Int))).run au w)=(.ok l0.v w0)/\nw w0 fun k0 w1=>∃J0:Nat->Int->Sl->Sl->ay->Prop,∃k1:Nat,J0 k1 (av ae ((l.n:Int)-1)) l l0 w1/\∀k2 i0,∀l1 l2:Sl,∀w2,J0 k2 i0 l1 l2 w2->cR (decide (i0>=0)) (∀w3,aA [] w2 w3->∃J1:aL,J1 k0/\(aH w3 k0 106 [l1.v,l2.v]->cI 90 #[ai (some ⟨k0,0,none⟩),O ae i0] w3 fun i1 w4=>aiL w4 k0 106 fun l3 l4=>bS J1 w3 w4/\∃p0,dL l2 i0 1 p0/\∃k3 k4:Nat,∃z0,∃k5:Nat,p0=⟨k3,k4,none⟩/\aH w4 k3 k5 z0/\(k4+1)<=z0.length/\k0≠k3/\∀w5,aA [k3] w4 w5->aH w5 k3 k5 (cD z0 k4 [O ae i1])->nx k2 fun k6=>J0 k6 (av ae (i0-1)) l3 l4 w5)) (aH w2 k0 106 [l1.v,l2.v]->R (ai (some ⟨k0,0,none⟩)) w2)):Cr 44 #[l.v] w R:=
 fB (an:=.d 2 (.s (.s .o (.j [3,10] [.s 4 (.int .i64),.b 10 [.sl,.sl]] .o .o)) .o)) (args:=[.sl l]) h
theorem ajN(c:Addr)(out:Sl)(n_ k:Int)(R:aI)(w:ay)(h:∃l0:Sl,∃w0,((aw 32 1 #[.mk 0 (O ae n_)]).run au w)=(.ok l0.v w0)/\gf (Builtin.append_ #[32,32] 32 #[out.v,l0.v]) w0 fun l1 w1=>jr w1 (c.add 0) fun l2=>cL 76 #[l2.v,O ae n_] w1 fun l3 w2=>jr w2 (c.add 0) fun l4=>∃p0,dL l4 n_ 5 p0/\jz w2 (p0.add 0) fun i0=>cR (i0==1) (Tu k 0 w2 fun J0 k1 i1 i2 w3=>cR (decide (i2<(l3.n:Int))) (xG l3 i2 w3 fun i3=>jr w3 (c.add 1) fun l5=>xG l5 i3 w3 fun i4=>cR (decide (i1<i4)) (cL 45 #[ai (some c),l1.v,O ae i3,O ae i1] w3 fun l6 w4=>R l6.v w4) (jr w3 (c.add 1) fun l7=>xG l7 i3 w3 fun i5=>nx k1 fun k2=>J0 k2 (av ae (i1-i5)) (av ae (i2+1)) w3)) (R l1.v w3)) (gf (Instr.makeSlice 32 (O ae (l3.n:Int)) (O ae (l3.n:Int))) w2 fun l8 w5=>∃J1:Nat->Int->Int->ay->Prop,∃k3:Nat,J1 k3 k (av ae ((l3.n:Int)-1)) w5/\∀k4 i6 i7 w6,J1 k4 i6 i7 w6->cR (decide (i7>=0)) (∀w7,aA [] w6 w7->jr w7 (c.add 1) fun l9=>xG l3 i7 w7 fun i8=>xG l9 i8 w7 fun i9=>i9≠0/\∃p6,dL l8 i7 1 p6/\∃k5 k6:Nat,∃z0,∃k7:Nat,p6=⟨k5,k6,none⟩/\aH w7 k5 k7 z0/\(k6+1)<=z0.length/\∀w8,aA [k5] w7 w8->aH w8 k5 k7 (cD z0 k6 [O ae (i6.tmod i9)])->jr w8 (c.add 1) fun l10=>xG l3 i7 w8 fun i10=>xG l10 i10 w8 fun i11=>i11≠0/\∀w9,aA [] w8 w9->nx k4 fun k8=>J1 k8 (av ae (i6.tdiv i11)) (av ae (i7-1)) w9) (Tu l1 0 w6 fun J2 po oh i12 dI=>cR (decide (i12<(l3.n:Int))) (xG l3 i12 dI fun i13=>xG l8 i12 dI fun i14=>cL 45 #[ai (some c),oh.v,O ae i13,O ae i14] dI fun ql dJ=>nx po fun qR=>J2 qR ql (av ae (i12+1)) dJ) (R oh.v dI)))):Cr 45 #[ai (some c),out.v,O ae n_,O ae k] w R:=
 fB (an:=.d 3 (.s (.s .o (.s (.s (.s .o (.j [0,1,35,36] [.s 3 (.int .i64),.s 37 (.int .i64)] .o .o)) .o) .o)) (.s .o (.s (.s .o (.j [0,1,9,12] [.s 3 (.int .i64),.s 13 (.int .i64)] .o .o)) (.s (.s .o (.j [0,12,103,104] [.s 1 .sl,.s 105 (.int .i64)] .o .o)) .o))))) (args:=[.ad c,.sl out,.int .i64 n_,.int .i64 k]) h
theorem adA(p p1 p2 p3 past:Sl)(R:aI)(w:ay)(h:nw w fun k0 w0=>∃m0 w1,((Instr.makeMap 127 none).run au w0)=(.ok (.map m0) w1)/\ci [k0] w0 w1/\∃m1 w2,((Instr.makeMap 129 none).run au w1)=(.ok (.map m1) w2)/\ci [k0] w1 w2/\nw w2 fun k1 w3=>ub 0 w3 fun J0 k3 i0 w4=>cR (decide (i0<(past.n:Int))) (aiM past i0 w4 fun i1 l0=>nw w4 fun k4 w5=>∃w6,((Instr.mapUpdate 127 (.map m0) (O ae i1) l0.v).run au w5)=(.ok () w6)/\ci [k0,k1,k4] w5 w6/\nx k3 fun k5=>J0 k5 (av ae (i0+1)) w6) (aH w4 k1 131 [p.v,p1.v,p2.v,p3.v,.map m0,.map m1]->k0≠k1->R (ai (some ⟨k1,0,none⟩)) w4)):Cr 46 #[aj #[p.v,p1.v,p2.v,p3.v],past.v] w R:=
 fB (an:=.d 2 (.s (.s .o (.j [2,5,12,13,14] [.s 15 (.int .i64)] .o .o)) .o)) (args:=[.agg (mA [.sl p,.sl p1,.sl p2,.sl p3]),.sl past]) h
theorem ajO(w_:Addr)(k:Int)(R:aI)(w:ay)(h:nw w fun k0 w0=>∃l0:Sl,((decide (k<0))=false->aE w0 ((w_.add 0).add 3) [l0.v])/\∃l1:Sl,(((decide (k<0))||(decide (k>=(l0.n:Int))))=false->aE w0 ((w_.add 0).add 3) [l1.v])/\∃p0,(((decide (k<0))||(decide (k>=(l0.n:Int))))=false->dL l1 k 7 p0)/\∃i0,(((decide (k<0))||(decide (k>=(l0.n:Int))))=false->aE w0 (p0.add 6) [O ae i0])/\cR (((decide (k<0))||(decide (k>=(l0.n:Int))))||(decide (i0<0))) (∀w1,aA [k0] w0 w1->R (ak #[aj #[O ae 0,O ae 0,O ae 0,ah (ar #[]),O ae 0,Sl.nil.v,O ae 0],ao false]) w1) (jr w0 ((w_.add 0).add 3) fun l2=>Bq l2 k w0 fun i1 i2 i3 s0 i4 l3 i5=>∀w2,aA [k0] w0 w2->R (ak #[aj #[O ae i1,O ae i2,O ae i3,ah s0,O ae i4,l3.v,O ae i5],ao true]) w2)):Cr 47 #[ai (some w_),O ae k] w R:=
 gQ (args:=[.ad w_,.int .i64 k]) h
theorem adB(s:Sl)(del:OV)(R:aI)(w:ay)(h:cI 91 #[s.v,del.v] w fun i0 w0=>cR (i0==(-1)) (R s.v w0) (Tu i0 (av ae (i0+1)) w0 fun J0 k1 i1 i2 w1=>cR (decide (i2<(s.n:Int))) (tJ (fun i3 w2=>nx k1 fun k2=>J0 k2 i3 (av ae (i2+1)) w2) fun J1=>xG s i2 w1 fun i4=>∃k3:Nat,∃z0 z1,del.v=(.func (.func k3) z0.toArray z1.toArray)/\(∀x0:Array az,∀w3,((callFunc k3 x0).run au w3)=(.ok (.enter k3 x0) w3))/\cB k3 ((vU (vU z0 [O ae i4]) z1).toArray) w1 fun b0 w4=>cR (!b0) (∃p1,dL s i1 1 p1/\∃k4 k5:Nat,∃z2,∃k6:Nat,p1=⟨k4,k5,none⟩/\aH w4 k4 k6 z2/\(k5+1)<=z2.length/\∀w5,aA [k4] w4 w5->aH w5 k4 k6 (cD z2 k5 [O ae i4])->J1 (av ae (i1+1)) w5) (J1 i1 w4)) (∃k7:Nat,(i1=(k7:Int)/\k7<=s.n/\s.n<=s.c)/\∃w6,((Builtin.clear_ #[32] 0 #[(s.cut k7 s.n s.c 1).v]).run au w1)=(.ok (ak #[]) w6)/\∃k8:Nat,(i1=(k8:Int)/\k8<=s.c)/\R ((s.cut 0 k8 s.c 1).v) w6))):Cr 49 #[s.v,del.v] w R:=
 fB (an:=.d 3 (.s (.s .o (.j [0,1] [.s 5 (.int .i64),.s 6 (.int .i64)] (.s .o (.j [0,1,6] [.s 5 (.int .i64)] .o .o)) .o)) .o)) (args:=[.sl s,.raw del]) h
theorem ajP(n_:Int)(ey od Rv:Addr)(R:aI)(w:ay)(h:tJ (fun b0 w0=>R (ao b0) w0) fun J0=>xCB w ey fun b1=>cR (!b1) (J0 true w) (jr w (od.add 0) fun l0=>jz w (Rv.add 6) fun i0=>cB 51 #[l0.v,O ae n_,O ae i0] w fun b2 w1=>J0 (!b2) w1)):Cr 50 #[O ae n_,ai (some ey),ai (some od),ai (some Rv)] w R:=
 fB (an:=.s .o (.s (.j [] [.s 5 .bool] .o .o) .o)) (args:=[.int .i64 n_,.ad ey,.ad od,.ad Rv]) h
theorem ajQ(l oe:Sl)(R:aI)(w:ay)(h:nw w fun k0 w0=>yg [k0] 48 #[oe.v] w0 fun l0 w1=>(aH w1 k0 52 [l.v]->cL 49 #[l0.v,.func (.func 94) #[] #[ai (some ⟨k0,0,none⟩)]] w1 fun l1 w2=>HP w2 k0 52 fun l2=>cL 93 #[l1.v] w2 fun l3 w3=>HP w3 k0 52 fun l4=>R l3.v w3)):Cr 54 #[l.v,oe.v] w R:=
 gQ (args:=[.sl l,.sl oe]) h
theorem adC(s:Sl)(v1:Int)(R:aI)(w:ay)(h:cI 99 #[s.v,O ae v1] w fun i0 w0=>R (ao (decide (i0>=0))) w0):Cr 56 #[s.v,O ae v1] w R:=
 gQ (args:=[.sl s,.int .i64 v1]) h
theorem ajR(l:Sl)(ey:Addr)(R:aI)(w:ay)(h:cL 48 #[l.v] w fun l0 w0=>cL 49 #[l0.v,.func (.func 63) #[] #[ai (some ey)]] w0 fun l1 w1=>R l1.v w1):Cr 62 #[l.v,ai (some ey)] w R:=
 gQ (args:=[.sl l,.ad ey]) h
theorem ajS(n_:Int)(ey:Addr)(R:aI)(w:ay)(h:jr w ey fun l0=>cB 56 #[l0.v,O ae n_] w fun b0 w0=>R (ao (!b0)) w0):Cr 63 #[O ae n_,ai (some ey)] w R:=
 gQ (args:=[.int .i64 n_,.ad ey]) h
theorem ajT(kind:Int)(R:aI)(w:ay)(h:R (ao ((kind==3)||(kind==4))) w):Cr 64 #[O ae kind] w R:=
 gQ (args:=[.int .i64 kind]) h
theorem ajU(l:Sl)(n_:Int)(R:aI)(w:ay)(h:cB 100 #[l.v,O ae n_] w fun b0 w0=>cR (!b0) (R Sl.nil.v w0) (∃J0:Nat->Sl->Int->ay->Prop,∃k0:Nat,J0 k0 Sl.nil (av ae (n_+1)) w0/\∀k1,∀l0:Sl,∀i0 w1,J0 k1 l0 i0 w1->∃p0,dL l n_ 5 p0/\jz w1 (p0.add 4) fun i1=>cR (decide (i0<i1)) (gf (aw 32 1 #[.mk 0 (O ae i0)]) w1 fun l1 w2=>gf (Builtin.append_ #[32,32] 32 #[l0.v,l1.v]) w2 fun l2 w3=>∃p1,dL l i0 5 p1/\jz w3 (p1.add 4) fun i2=>nx k1 fun k2=>J0 k2 l2 i2 w3) (R l0.v w1))):Cr 65 #[l.v,O ae n_] w R:=
 fB (an:=.d 3 (.s (.s .o (.j [0,1] [.s 5 .sl,.s 6 (.int .i64)] .o .o)) .o)) (args:=[.sl l,.int .i64 n_]) h
theorem ajV(k:Int)(ey od:Addr)(R:aI)(w:ay)(h:jr w (ey.add 0) fun l0=>jz w (od.add 2) fun i0=>cB 51 #[l0.v,O ae k,O ae i0] w fun b0 w0=>R (ao (!b0)) w0):Cr 66 #[O ae k,ai (some ey),ai (some od)] w R:=
 gQ (args:=[.int .i64 k,.ad ey,.ad od]) h
theorem ajW(w_:Addr)(Rw:Option Nat)(domain:Int)(R:aI)(w:ay)(h:∃q0 w0,((Instr.range 129 (.map Rw)).run au w)=(.ok (ai q0) w0)/\lp0 w0 fun J0 k1 w1=>Or (Exists (fun w2=>((Instr.next (ai q0) false 0).run au w1)=(.ok (ak #[ao false]) w2)/\R (ak #[]) w2)) (Exists (fun v0:OV=>∃v1:OV,∃w3,((Instr.next (ai q0) false 0).run au w1)=(.ok (ak #[ao true,v0.v,v1.v]) w3)/\∃v2 v3:OV,∃w4,((Instr.entry (ai q0)).run au w3)=(.ok (ak #[v2.v,v3.v]) w4)/\∃i0,v2.v=(O ae i0)/\ub i0 w4 fun J1 k3 i1 w5=>cR (decide (i1>domain)) (Ha w5 (w_.add 5) fun m0=>gf (aw 32 1 #[.mk 0 (O ae i1)]) w5 fun l0 w6=>cU 74 #[.map m0,l0.v] w6 fun w7=>jr w7 ((w_.add 0).add 0) fun l1=>∃p0,dL l1 i1 5 p0/\jz w7 (p0.add 2) fun i2=>nx k3 fun k4=>J1 k4 i2 w7) (nx k1 fun k5=>J0 k5 w5)))):Cr 70 #[ai (some w_),.map Rw,O ae domain] w R:=
 fB (an:=.s .o (.j [0,2,8] [] (.d 3 (.j [0,2,8] [.s 6 (.int .i64)] .o .o)) .o)) (args:=[.ad w_,.map Rw,.int .i64 domain]) h
theorem ajX(w_:Addr)(targets:Sl)(R:aI)(w:ay)(h:∃m0 w0,((Instr.makeMap 129 none).run au w)=(.ok (.map m0) w0)/\ub 0 w0 fun J0 k1 i0 w1=>cR (decide (i0<(targets.n:Int))) (G9 (fun w2=>nx k1 fun k2=>J0 k2 (av ae (i0+1)) w2) fun J1=>xG targets i0 w1 fun i1=>Ha w1 (w_.add 4) fun m1=>∃l0:Sl,∃b0 w3,((Instr.lookup 127 (.map m1) (O ae i1) true).run au w1)=(.ok (ak #[l0.v,ao b0]) w3)/\∃l1:Sl,((decide (i1<0))=false->aE w3 ((w_.add 0).add 0) [l1.v])/\cR ((decide (i1<0))||(decide (i1>=(l1.n:Int)))) (J1 w3) (jr w3 ((w_.add 0).add 0) fun l2=>∃p1,dL l2 i1 5 p1/\jz w3 (p1.add 0) fun i2=>cB 64 #[O ae i2] w3 fun b1 w4=>cR (!b1) (gf (aw 32 1 #[.mk 0 (O ae i1)]) w4 fun l3 w5=>cU 74 #[.map m0,l3.v] w5 fun w6=>J1 w6) (cR b0 (cU 74 #[.map m0,l0.v] w4 fun w7=>J1 w7) (jr w4 ((w_.add 0).add 2) fun l4=>xG l4 i1 w4 fun i3=>gf (aw 32 1 #[.mk 0 (O ae i3)]) w4 fun l5 w8=>cU 74 #[.map m0,l5.v] w8 fun w9=>J1 w9)))) (R (.map m0) w1)):Cr 71 #[ai (some w_),targets.v] w R:=
 fB (an:=.d 2 (.s (.s .o (.j [0,5,11,12] [.s 13 (.int .i64)] (.d 2 (.j [0,5,11,12,13] [] .o .o)) .o)) .o)) (args:=[.ad w_,.sl targets]) h
theorem ajY(w_:Addr)(R:aI)(w:ay)(h:nw w fun k0 w0=>jr w0 ((w_.add 0).add 0) fun l0=>∃J0:Nat->Int->Option Addr->ay->Prop,∃k1:Nat,J0 k1 0 (some w_) w0/\∀k2 i0 q0 w1,J0 k2 i0 q0 w1->cR (decide (i0<(l0.n:Int))) (tJ (fun q1 w2=>nx k2 fun k3=>J0 k3 (av ae (i0+1)) q1 w2) fun J1=>C6 l0 i0 w1 fun i1 s0 i2 i3 i4=>∃p1,q0=(some p1)/\nw w1 fun k4 w3=>Ha w3 (p1.add 5) fun m0=>∃b0 w4,((Instr.lookup 129 (.map m0) (O ae i0) false).run au w3)=(.ok (ao b0) w4)/\ci [k0,k4] w3 w4/\cR (!b0) (J1 q0 w4) (∃p2,q0=(some p2)/\jr w4 ((p2.add 0).add 0) fun l1=>yg [k0,k4] 65 #[l1.v,O ae i0] w4 fun l2 w5=>(aH w5 k0 111 [ai q0]->k4≠k0->yg [k4] 49 #[l2.v,.func (.func 104) #[] #[ai (some ⟨k0,0,none⟩)]] w5 fun l3 w6=>VL w6 k0 111 fun q2=>cR (i1==2) (∃p3,q2=(some p3)/\Ha w6 (p3.add 5) fun m1=>gF [k4] 74 #[.map m1,l3.v] w6 fun w7=>VL w7 k0 111 fun q3=>J1 q3 w7) (jn2 (fun b1 q4 w8=>cR b1 (∀w9,aA [] w8 w9->aH w9 k0 111 [ai q4]->∃J3:aL,J3 k0/\J3 k0/\∃p4,q4=(some p4)/\jr w9 ((p4.add 0).add 1) fun l4=>xG l4 i0 w9 fun i5=>gf (aw 32 1 #[.mk 0 (O ae i5)]) w9 fun l5 dI=>ci [k0,k4] w9 dI/\bS J3 w9 dI/\aB au 71 #[ai q4,l5.v] dI fun e3 dJ=>∃m2,e3=(aq (.map m2))/\ci [k4] dI dJ/\VL dJ k0 111 fun q5=>bS J3 dI dJ/\gF [k4] 70 #[ai q4,.map m2,O ae i0] dJ fun fg=>VL fg k0 111 fun q6=>bS J3 dJ fg/\J1 q6 fg) (J1 q4 w8)) fun J2=>cR (decide ((l3.n:Int)>0)) (rz [k4] 58 #[l3.v,.func (.func 105) #[] #[ai (some ⟨k0,0,none⟩)]] w6 fun b2 fC=>VL fC k0 111 fun q7=>J2 (!b2) q7 fC) (J2 false q2 w6))))) (∃p6,q0=(some p6)/\Ha w1 (p6.add 5) fun m3=>yg [k0] 73 #[.map m3] w1 fun l6 fT=>R l6.v fT)):Cr 72 #[ai (some w_)] w R:=
 fB (an:=.s .o (.s (.s .o (.j [1,10,11] [.s 12 (.int .i64),.b 1 [.ptr]] (.d 2 (.j [1,10,11,12] [.b 1 [.ptr]] (.d 5 (.s (.j [1,3,4,10,11,12] [.s 43 .bool,.b 1 [.ptr]] .o .o) .o)) .o)) .o)) .o)) (args:=[.ad w_]) h
theorem ajZ(s:Option Nat)(R:aI)(w:ay)(h:aB au 107 #[.map s] w fun e0 w0=>∃v0:OV,e0=(aq v0.v)/\cL 106 #[v0.v] w0 fun l0 w1=>R l0.v w1):Cr 73 #[.map s] w R:=
 gQ (args:=[.map s]) h
theorem aj0(s:Option Nat)(l:Sl)(R:aI)(w:ay)(h:ub 0 w fun J0 k1 i0 w0=>cR (decide (i0<(l.n:Int))) (xG l i0 w0 fun i1=>∃w1,((Instr.mapUpdate 129 (.map s) (O ae i1) (ao true)).run au w0)=(.ok () w1)/\nx k1 fun k2=>J0 k2 (av ae (i0+1)) w1) (R (ak #[]) w0)):Cr 74 #[.map s,l.v] w R:=
 fB (an:=.s .o (.j [0,6,7] [.s 8 (.int .i64)] .o .o)) (args:=[.map s,.sl l]) h
theorem aj1(r:Sl)(n_:Int)(R:aI)(w:ay)(h:nw w fun k0 w0=>yg [k0] 65 #[r.v,O ae n_] w0 fun l0 w1=>(aH w1 k0 104 [r.v]->cL 49 #[l0.v,.func (.func 108) #[] #[ai (some ⟨k0,0,none⟩)]] w1 fun l1 w2=>HP w2 k0 104 fun l2=>R l1.v w2)):Cr 76 #[r.v,O ae n_] w R:=
 gQ (args:=[.sl r,.int .i64 n_]) h
theorem aj2(l:Addr)(name:aM)(R:aI)(w:ay)(h:cR (name.toList==((ar #[]).toList)) (R (O ae (-1)) w) (jr w ((l.add 0).add 0) fun l0=>cI 129 #[l0.v,ah name] w fun i0 w0=>R (O ae i0) w0)):Cr 88 #[ai (some l),ah name] w R:=
 gQ (args:=[.ad l,.str name]) h
theorem aj3(l:Addr)(source:Int)(targets:Sl)(R:aI)(w:ay)(h:cR ((targets.n:Int)==0) (R (O ae (-1)) w) (∃l0:Sl,∃w0,((aw 32 1 #[.mk 0 (O ae source)]).run au w)=(.ok l0.v w0)/\gf (Builtin.append_ #[32,32] 32 #[l0.v,targets.v]) w0 fun l1 w1=>jr w1 ((l.add 0).add 0) fun l2=>cI 130 #[l2.v,l1.v] w1 fun i0 w2=>ub i0 w2 fun J0 k1 i1 w3=>tJ (fun b0 w4=>cR b0 (jr w4 ((l.add 0).add 0) fun l3=>∃p0,dL l3 i1 5 p0/\jz w4 (p0.add 2) fun i2=>nx k1 fun k2=>J0 k2 i2 w4) (R (O ae i1) w4)) fun J1=>cR (decide (i1>0)) (jr w3 ((l.add 0).add 0) fun l4=>∃p1,dL l4 i1 5 p1/\jz w3 (p1.add 0) fun i3=>cR (i3 !=1) (J1 true w3) (cB 56 #[l1.v,O ae i1] w3 fun b1 w5=>J1 b1 w5)) (J1 false w3))):Cr 89 #[ai (some l),O ae source,targets.v] w R:=
 fB (an:=.d 4 (.s (.j [0,7] [.s 8 (.int .i64)] (.s (.s (.j [0,7,8] [.s 41 .bool] .o .o) .o) .o) .o) .o)) (args:=[.ad l,.int .i64 source,.sl targets]) h
theorem aj4(c:Addr)(n_:Int)(R:aI)(w:ay)(h:jr w (c.add 0) fun l0=>cL 76 #[l0.v,O ae n_] w fun l1 w0=>cR ((l1.n:Int)==0) (R (O ae 1) w0) (∃J0:Nat->Int->Int->Int->ay->Prop,∃k0:Nat,J0 k0 0 1 0 w0/\∀k1 i0 i1 i2 w1,J0 k1 i0 i1 i2 w1->cR (decide (i2<(l1.n:Int))) (xG l1 i2 w1 fun i3=>jr w1 (c.add 1) fun l2=>xG l2 i3 w1 fun i4=>jr w1 (c.add 1) fun l3=>xG l3 i3 w1 fun i5=>∀w2,aA [] w1 w2->nx k1 fun k2=>J0 k2 (av ae (i0+i4)) (av ae (i1*i5)) (av ae (i2+1)) w2) (jr w1 (c.add 0) fun l4=>∃p3,dL l4 n_ 5 p3/\jz w1 (p3.add 0) fun i6=>cR (i6==2) (R (O ae i1) w1) (R (O ae i0) w1)))):Cr 90 #[ai (some c),O ae n_] w R:=
 fB (an:=.d 4 (.s (.s .o (.j [0,1,19,20] [.s 6 (.int .i64),.s 7 (.int .i64),.s 21 (.int .i64)] .o .o)) .o)) (args:=[.ad c,.int .i64 n_]) h
theorem aj5(l:Sl)(R:aI)(w:ay)(h:cU 78 #[l.v] w fun w0=>cL 79 #[l.v] w0 fun l0 w1=>R l0.v w1):Cr 93 #[l.v] w R:=
 gQ (args:=[.sl l]) h
theorem aj6(n_:Int)(ey:Addr)(R:aI)(w:ay)(h:jr w ey fun l0=>cB 95 #[l0.v,O ae n_] w fun b0 w0=>R (ao (!b0)) w0):Cr 94 #[O ae n_,ai (some ey)] w R:=
 gQ (args:=[.int .i64 n_,.ad ey]) h
theorem aj7(r:Sl)(n_:Int)(R:aI)(w:ay)(h:tJ (fun b0 w0=>R (ao b0) w0) fun J0=>∃p0,(((decide (n_>=0))&&(decide (n_<(r.n:Int))))=true->dL r n_ 5 p0)/\∃i0,(((decide (n_>=0))&&(decide (n_<(r.n:Int))))=true->aE w (p0.add 0) [O ae i0])/\cR (((decide (n_>=0))&&(decide (n_<(r.n:Int))))&&(i0==1)) (cL 76 #[r.v,O ae n_] w fun l0 w1=>J0 ((l0.n:Int)==0) w1) (J0 false w)):Cr 95 #[r.v,O ae n_] w R:=
 fB (an:=.s .o (.s (.j [] [.s 4 .bool] .o .o) .o)) (args:=[.sl r,.int .i64 n_]) h
theorem adE(s:Sl)(v1:Int)(R:aI)(w:ay)(h:ub 0 w fun J0 k1 i0 w0=>cR (decide (i0<(s.n:Int))) (xG s i0 w0 fun i1=>cR (v1==i1) (R (O ae i0) w0) (nx k1 fun k2=>J0 k2 (av ae (i0+1)) w0)) (R (O ae (-1)) w0)):Cr 99 #[s.v,O ae v1] w R:=
 fB (an:=.s .o (.s (.s .o (.j [0,1,7] [.s 8 (.int .i64)] .o .o)) .o)) (args:=[.sl s,.int .i64 v1]) h
theorem aj8(k:Int)(ey:Addr)(R:aI)(w:ay)(h:VK w ey fun q0=>∃p0,q0=(some p0)/\jr w ((p0.add 0).add 0) fun l0=>∃p1,dL l0 k 5 p1/\jz w (p1.add 0) fun i0=>cB 64 #[O ae i0] w fun b0 w0=>R (ao b0) w0):Cr 104 #[O ae k,ai (some ey)] w R:=
 gQ (args:=[.int .i64 k,.ad ey]) h
theorem aj9(k:Int)(ey:Addr)(R:aI)(w:ay)(h:VK w ey fun q0=>∃p0,q0=(some p0)/\Ha w (p0.add 5) fun m0=>∃b0 w0,((Instr.lookup 129 (.map m0) (O ae k) false).run au w)=(.ok (ao b0) w0)/\R (ao b0) w0):Cr 105 #[O ae k,ai (some ey)] w R:=
 gQ (args:=[.int .i64 k,.ad ey]) h
theorem aka(k:Int)(ey:Addr)(R:aI)(w:ay)(h:jr w ey fun l0=>∃p0,dL l0 k 5 p0/\jz w (p0.add 0) fun i0=>cB 109 #[O ae i0] w fun b0 w0=>R (ao (!b0)) w0):Cr 108 #[O ae k,ai (some ey)] w R:=
 gQ (args:=[.int .i64 k,.ad ey]) h
theorem akb(kind:Int)(R:aI)(w:ay)(h:R (ao ((kind==1)||(kind==2))) w):Cr 109 #[O ae kind] w R:=
 gQ (args:=[.int .i64 kind]) h
end Go.Proofs.YtbkjcdocjfknfaaGreatDoor.Vc
namespace Go.Proofs
open Go.Shelf
def Tryz.xp:Go.Shelf.Ren:=⟨fun | 156=>228 | 165=>227 | 166=>202 | 169=>175 | 240=>225 | 241=>244 | 276=>241 | 277=>259 | n=>n,fun | 31=>31 | 9=>9 | 3=>3 | 4=>4 | 0=>0 | 20=>20 | 72=>243 | 76=>275 | 70=>240 | 37=>241 | 75=>274 | 127=>284 | 164=>308 | 5=>5 | 80=>252 | n=>n,fun | n=>n⟩
theorem Tryz.Lr:Go.Proofs.Lays.n156 Tryz.prog Tryz.xp:={
 mixed:=by kernel_rfl
 f156:=Tryz.func228.trans (bm some (by kernel_rfl))
 f165:=Tryz.func227.trans (bm some (by kernel_rfl))
 f166:=Tryz.func202.trans (bm some (by kernel_rfl))
 f169:=Tryz.func175.trans (bm some (by kernel_rfl))
 f240:=Tryz.func225.trans (bm some (by kernel_rfl))
 f241:=Tryz.func244.trans (bm some (by kernel_rfl))
 f276:=Tryz.func241.trans (bm some (by kernel_rfl))
 f277:=Tryz.func259.trans (bm some (by kernel_rfl))
 t0:=Tryz.underlying0
 a0:=Tryz.isAgg0
 z0:=Tryz.sizeOf0
 v0:=Tryz.zeroValue0
 t3:=Tryz.underlying3
 a3:=Tryz.isAgg3
 z3:=Tryz.sizeOf3
 v3:=Tryz.zeroValue3
 t4:=Tryz.underlying4
 a4:=Tryz.isAgg4
 z4:=Tryz.sizeOf4
 v4:=Tryz.zeroValue4
 t9:=Tryz.underlying9
 a9:=Tryz.isAgg9
 z9:=Tryz.sizeOf9
 v9:=Tryz.zeroValue9
 t20:=Tryz.underlying20
 a20:=Tryz.isAgg20
 z20:=Tryz.sizeOf20
 v20:=Tryz.zeroValue20
 t31:=Tryz.underlying31
 a31:=Tryz.isAgg31
 z31:=Tryz.sizeOf31
 v31:=Tryz.zeroValue31
 t37:=Tryz.underlying241
 a37:=Tryz.isAgg241
 z37:=Tryz.sizeOf241
 v37:=Tryz.zeroValue241
 t70:=Tryz.underlying240
 a70:=Tryz.isAgg240
 z70:=Tryz.sizeOf240
 v70:=Tryz.zeroValue240
 t72:=Tryz.underlying243
 a72:=Tryz.isAgg243
 z72:=Tryz.sizeOf243
 v72:=Tryz.zeroValue243
 t75:=Tryz.underlying274
 a75:=Tryz.isAgg274
 z75:=Tryz.sizeOf274
 v75:=Tryz.zeroValue274
 t76:=Tryz.underlying275
 a76:=Tryz.isAgg275
 z76:=Tryz.sizeOf275
 v76:=Tryz.zeroValue275
 t127:=Tryz.underlying284
 a127:=Tryz.isAgg284
 z127:=Tryz.sizeOf284
 v127:=Tryz.zeroValue284
 t164:=Tryz.underlying308
 a164:=Tryz.isAgg308
 z164:=Tryz.sizeOf308
 v164:=Tryz.zeroValue308}
theorem Tryz.oQ:Builder.Extra Tryz.prog Tryz.xp:={
 sizeBuilder:=by kernel_rfl
 liesBuilder:=by kernel_rfl
 t5:=Tryz.underlying5
 a5:=Tryz.isAgg5
 z5:=Tryz.sizeOf5
 v5:=Tryz.zeroValue5
 infoByte:=by kernel_rfl
 cellsByte:=by kernel_rfl
 sizeByte:=by kernel_rfl
 neB5:=by decide}
open Go.RowKit in
theorem Tryz.strings_Join_none (a:Option Addr) (c:Nat) (sep:ByteArray) (w:World):
 Calls Tryz.prog 228 #[.slice a 0 c,.string sep] w fun e w'=>e=.returned (.string ⟨#[]⟩)/\w'=w:=Any.strings_Join_none Tryz.Lr Tryz.oQ a c sep w
open Go.RowKit in
theorem Tryz.strings_Join (bk o c:Nat) (xs:List ByteArray) (sep:ByteArray) (w:World) (ur:∀(j:Nat) x,xs[j]? =some x->w.cell? ⟨bk,o+j,none⟩=some (.string x)) (NH:bk<w.heap.size) (hN:xs.length<=140737488355328) (mJ:xs.length<=c) (fu:(Lib.join (xs.map (·.data.toList)) sep.data.toList).length<=140737488355328):
 Calls Tryz.prog 228 #[.slice (some ⟨bk,o,none⟩) xs.length c,.string sep] w fun e w'=>e=.returned (.string ⟨(Lib.join (xs.map (·.data.toList)) sep.data.toList).toArray⟩)/\Below w.heap.size w w':=Any.strings_Join Tryz.Lr Tryz.oQ bk o c xs sep w ur NH hN mJ fu
def Tryz.D2:Go.Shelf.Ren:=⟨fun | 171=>206 | 243=>231 | 246=>246 | 283=>260 | 284=>261 | 285=>262 | 286=>263 | 129=>140 | 317=>276 | 318=>277 | 319=>278 | 320=>279 | 337=>295 | 338=>40 | n=>n,fun | 3=>3 | 9=>9 | 2=>2 | 4=>4 | 171=>327 | 0=>0 | 53=>42 | 37=>241 | 5=>5 | 173=>329 | 212=>347 | 51=>215 | 20=>20 | 213=>348 | 46=>150 | 232=>364 | 233=>149 | n=>n,fun | 17=>2 | 18=>5 | 19=>0 | n=>n⟩
theorem Tryz.Q2:Go.Proofs.LaysM.n171 Tryz.prog Tryz.D2:={
 mixed:=by kernel_rfl
 f129:=Tryz.func140.trans (bm some (by kernel_rfl))
 f171:=Tryz.func206.trans (bm some (by kernel_rfl))
 f243:=Tryz.func231.trans (bm some (by kernel_rfl))
 f246:=Tryz.func246.trans (bm some (by kernel_rfl))
 f283:=Tryz.func260.trans (bm some (by kernel_rfl))
 f284:=Tryz.func261.trans (bm some (by kernel_rfl))
 f285:=Tryz.func262.trans (bm some (by kernel_rfl))
 f286:=Tryz.func263.trans (bm some (by kernel_rfl))
 f317:=Tryz.func276.trans (bm some (by kernel_rfl))
 f318:=Tryz.func277.trans (bm some (by kernel_rfl))
 f319:=Tryz.func278.trans (bm some (by kernel_rfl))
 f320:=Tryz.func279.trans (bm some (by kernel_rfl))
 f337:=Tryz.func295.trans (bm some (by kernel_rfl))
 f338:=Tryz.func40.trans (bm some (by kernel_rfl))
 t0:=Tryz.underlying0
 a0:=Tryz.isAgg0
 z0:=Tryz.sizeOf0
 v0:=Tryz.zeroValue0
 t2:=Tryz.underlying2
 a2:=Tryz.isAgg2
 z2:=Tryz.sizeOf2
 v2:=Tryz.zeroValue2
 t3:=Tryz.underlying3
 a3:=Tryz.isAgg3
 z3:=Tryz.sizeOf3
 v3:=Tryz.zeroValue3
 t4:=Tryz.underlying4
 a4:=Tryz.isAgg4
 z4:=Tryz.sizeOf4
 v4:=Tryz.zeroValue4
 t5:=Tryz.underlying5
 a5:=Tryz.isAgg5
 z5:=Tryz.sizeOf5
 v5:=Tryz.zeroValue5
 t9:=Tryz.underlying9
 a9:=Tryz.isAgg9
 z9:=Tryz.sizeOf9
 v9:=Tryz.zeroValue9
 t20:=Tryz.underlying20
 a20:=Tryz.isAgg20
 z20:=Tryz.sizeOf20
 v20:=Tryz.zeroValue20
 t37:=Tryz.underlying241
 a37:=Tryz.isAgg241
 z37:=Tryz.sizeOf241
 v37:=Tryz.zeroValue241
 t46:=Tryz.underlying150
 a46:=Tryz.isAgg150
 z46:=Tryz.sizeOf150
 v46:=Tryz.zeroValue150
 t51:=Tryz.underlying215
 a51:=Tryz.isAgg215
 z51:=Tryz.sizeOf215
 v51:=Tryz.zeroValue215
 t53:=Tryz.underlying42
 a53:=Tryz.isAgg42
 z53:=Tryz.sizeOf42
 v53:=Tryz.zeroValue42
 t171:=Tryz.underlying327
 a171:=Tryz.isAgg327
 z171:=Tryz.sizeOf327
 v171:=Tryz.zeroValue327
 t173:=Tryz.underlying329
 a173:=Tryz.isAgg329
 z173:=Tryz.sizeOf329
 v173:=Tryz.zeroValue329
 t212:=Tryz.underlying347
 a212:=Tryz.isAgg347
 z212:=Tryz.sizeOf347
 v212:=Tryz.zeroValue347
 t213:=Tryz.underlying348
 a213:=Tryz.isAgg348
 z213:=Tryz.sizeOf348
 t232:=Tryz.underlying364
 a232:=Tryz.isAgg364
 z232:=Tryz.sizeOf364
 v232:=Tryz.zeroValue364
 t233:=Tryz.underlying149
 a233:=Tryz.isAgg149
 z233:=Tryz.sizeOf149
 v233:=Tryz.zeroValue149
 g17:=by kernel_rfl
 g18:=by kernel_rfl
 g19:=by kernel_rfl
 i0:=by kernel_rfl
 i2:=by kernel_rfl
 i3:=by kernel_rfl
 i4:=by kernel_rfl
 i5:=by kernel_rfl
 i9:=by kernel_rfl
 i20:=by kernel_rfl
 i37:=by kernel_rfl
 i46:=by kernel_rfl
 i51:=by kernel_rfl
 i53:=by kernel_rfl
 i171:=by kernel_rfl
 i173:=by kernel_rfl
 i212:=by kernel_rfl
 i232:=by kernel_rfl
 i233:=by kernel_rfl
 m17:=by kernel_rfl
 m18:=by kernel_rfl
 m19:=by kernel_rfl}
open Go.RowKit Go.Sort Go.Lib in
theorem Tryz.strconv_Itoa (n:Int) (h0: -9223372036854775808<=n) (h1:n<=9223372036854775807) (w:World) (alk:Lib.TabIs Tryz.prog w "internal/strconv.uint64pow10" .u64 Lib.pow10Tab):
 Calls Tryz.prog 206 #[.int .i64 n] w fun e w'=>e=.returned (.string ⟨(Lib.itoa n).toArray⟩)/\∃k os,w'=grow (w.drewN k) os:=Any.strconv_Itoa Tryz.Q2 n h0 h1 w alk
def Tryz.D3:Go.Shelf.Ren:=⟨fun | 316=>237 | n=>n,fun | 9=>9 | 3=>3 | 4=>4 | 37=>241 | 0=>0 | 127=>284 | 5=>5 | n=>n,fun | n=>n⟩
theorem Tryz.Q4:Go.Proofs.LaysM.n316 Tryz.prog Tryz.D3:={
 mixed:=by kernel_rfl
 f316:=Tryz.func237.trans (bm some (by kernel_rfl))
 t0:=Tryz.underlying0
 a0:=Tryz.isAgg0
 z0:=Tryz.sizeOf0
 v0:=Tryz.zeroValue0
 t3:=Tryz.underlying3
 a3:=Tryz.isAgg3
 z3:=Tryz.sizeOf3
 v3:=Tryz.zeroValue3
 t4:=Tryz.underlying4
 a4:=Tryz.isAgg4
 z4:=Tryz.sizeOf4
 v4:=Tryz.zeroValue4
 t9:=Tryz.underlying9
 a9:=Tryz.isAgg9
 z9:=Tryz.sizeOf9
 v9:=Tryz.zeroValue9
 t37:=Tryz.underlying241
 a37:=Tryz.isAgg241
 z37:=Tryz.sizeOf241
 v37:=Tryz.zeroValue241
 t127:=Tryz.underlying284
 a127:=Tryz.isAgg284
 z127:=Tryz.sizeOf284
 v127:=Tryz.zeroValue284
 t5:=Tryz.underlying5
 a5:=Tryz.isAgg5
 z5:=Tryz.sizeOf5
 v5:=Tryz.zeroValue5
 i0:=by kernel_rfl
 i3:=by kernel_rfl
 i4:=by kernel_rfl
 i5:=by kernel_rfl
 i9:=by kernel_rfl
 i37:=by kernel_rfl
 i127:=by kernel_rfl}
open Go.RowKit in
theorem Tryz.stringslite_Clone (s:ByteArray) (w:World) (ZC:s.size<=281474976710656):
 Calls Tryz.prog 237 #[.string s] w fun e w'=>e=.returned (.string s)/\Below w.heap.size w w':=Any.stringslite_Clone Tryz.Q4 s w ZC
def Tryz.D4:Go.Shelf.Ren:=⟨fun | 174=>239 | 247=>252 | 245=>253 | 287=>269 | 279=>270 | 280=>271 | 281=>272 | 282=>273 | 321=>285 | 322=>286 | 316=>237 | 171=>206 | 205=>287 | 243=>231 | 246=>246 | 283=>260 | 284=>261 | 285=>262 | 286=>263 | 129=>140 | 317=>276 | 318=>277 | 319=>278 | 320=>279 | 337=>295 | 338=>40 | n=>n,fun | 9=>9 | 3=>3 | 2=>2 | 75=>274 | 85=>304 | 4=>4 | 167=>339 | 5=>5 | 53=>42 | 175=>340 | 46=>150 | 168=>342 | 37=>241 | 0=>0 | 210=>354 | 21=>21 | 127=>284 | 145=>363 | 143=>361 | 171=>327 | 173=>329 | 212=>347 | 51=>215 | 20=>20 | 213=>348 | 232=>364 | 233=>149 | 80=>252 | n=>n,fun | 15=>3 | 16=>4 | 17=>2 | 18=>5 | 19=>0 | n=>n⟩
theorem Tryz.GQ:Go.Proofs.LaysC.n174 Tryz.prog Tryz.D4:={
 mixed:=by kernel_rfl
 f129:=Tryz.func140.trans (bm some (by kernel_rfl))
 f171:=Tryz.func206.trans (bm some (by kernel_rfl))
 f174:=Tryz.func239.trans (bm some (by kernel_rfl))
 f205:=Tryz.func287.trans (bm some (by kernel_rfl))
 f243:=Tryz.func231.trans (bm some (by kernel_rfl))
 f245:=Tryz.func253.trans (bm some (by kernel_rfl))
 f246:=Tryz.func246.trans (bm some (by kernel_rfl))
 f247:=Tryz.func252.trans (bm some (by kernel_rfl))
 f279:=Tryz.func270.trans (bm some (by kernel_rfl))
 f280:=Tryz.func271.trans (bm some (by kernel_rfl))
 f281:=Tryz.func272.trans (bm some (by kernel_rfl))
 f282:=Tryz.func273.trans (bm some (by kernel_rfl))
 f283:=Tryz.func260.trans (bm some (by kernel_rfl))
 f284:=Tryz.func261.trans (bm some (by kernel_rfl))
 f285:=Tryz.func262.trans (bm some (by kernel_rfl))
 f286:=Tryz.func263.trans (bm some (by kernel_rfl))
 f287:=Tryz.func269.trans (bm some (by kernel_rfl))
 f316:=Tryz.func237.trans (bm some (by kernel_rfl))
 f317:=Tryz.func276.trans (bm some (by kernel_rfl))
 f318:=Tryz.func277.trans (bm some (by kernel_rfl))
 f319:=Tryz.func278.trans (bm some (by kernel_rfl))
 f320:=Tryz.func279.trans (bm some (by kernel_rfl))
 f321:=Tryz.func285.trans (bm some (by kernel_rfl))
 f322:=Tryz.func286.trans (bm some (by kernel_rfl))
 f337:=Tryz.func295.trans (bm some (by kernel_rfl))
 f338:=Tryz.func40.trans (bm some (by kernel_rfl))
 t0:=Tryz.underlying0
 a0:=Tryz.isAgg0
 z0:=Tryz.sizeOf0
 v0:=Tryz.zeroValue0
 t2:=Tryz.underlying2
 a2:=Tryz.isAgg2
 z2:=Tryz.sizeOf2
 v2:=Tryz.zeroValue2
 t3:=Tryz.underlying3
 a3:=Tryz.isAgg3
 z3:=Tryz.sizeOf3
 v3:=Tryz.zeroValue3
 t4:=Tryz.underlying4
 a4:=Tryz.isAgg4
 z4:=Tryz.sizeOf4
 v4:=Tryz.zeroValue4
 t5:=Tryz.underlying5
 a5:=Tryz.isAgg5
 z5:=Tryz.sizeOf5
 v5:=Tryz.zeroValue5
 t9:=Tryz.underlying9
 a9:=Tryz.isAgg9
 z9:=Tryz.sizeOf9
 v9:=Tryz.zeroValue9
 t20:=Tryz.underlying20
 a20:=Tryz.isAgg20
 z20:=Tryz.sizeOf20
 v20:=Tryz.zeroValue20
 t21:=Tryz.underlying21
 a21:=Tryz.isAgg21
 z21:=Tryz.sizeOf21
 v21:=Tryz.zeroValue21
 t37:=Tryz.underlying241
 a37:=Tryz.isAgg241
 z37:=Tryz.sizeOf241
 v37:=Tryz.zeroValue241
 t46:=Tryz.underlying150
 a46:=Tryz.isAgg150
 z46:=Tryz.sizeOf150
 v46:=Tryz.zeroValue150
 t51:=Tryz.underlying215
 a51:=Tryz.isAgg215
 z51:=Tryz.sizeOf215
 v51:=Tryz.zeroValue215
 t53:=Tryz.underlying42
 a53:=Tryz.isAgg42
 z53:=Tryz.sizeOf42
 v53:=Tryz.zeroValue42
 t75:=Tryz.underlying274
 a75:=Tryz.isAgg274
 z75:=Tryz.sizeOf274
 v75:=Tryz.zeroValue274
 t85:=Tryz.underlying304
 a85:=Tryz.isAgg304
 z85:=Tryz.sizeOf304
 v85:=Tryz.zeroValue304
 t127:=Tryz.underlying284
 a127:=Tryz.isAgg284
 z127:=Tryz.sizeOf284
 v127:=Tryz.zeroValue284
 t143:=Tryz.underlying361
 a143:=Tryz.isAgg361
 z143:=Tryz.sizeOf361
 v143:=Tryz.zeroValue361
 t145:=Tryz.underlying363
 a145:=Tryz.isAgg363
 z145:=Tryz.sizeOf363
 v145:=Tryz.zeroValue363
 t167:=Tryz.underlying339
 a167:=Tryz.isAgg339
 z167:=Tryz.sizeOf339
 v167:=Tryz.zeroValue339
 t168:=Tryz.underlying342
 a168:=Tryz.isAgg342
 z168:=Tryz.sizeOf342
 v168:=Tryz.zeroValue342
 t171:=Tryz.underlying327
 a171:=Tryz.isAgg327
 z171:=Tryz.sizeOf327
 v171:=Tryz.zeroValue327
 t173:=Tryz.underlying329
 a173:=Tryz.isAgg329
 z173:=Tryz.sizeOf329
 v173:=Tryz.zeroValue329
 t175:=Tryz.underlying340
 a175:=Tryz.isAgg340
 z175:=Tryz.sizeOf340
 v175:=Tryz.zeroValue340
 t210:=Tryz.underlying354
 a210:=Tryz.isAgg354
 z210:=Tryz.sizeOf354
 v210:=Tryz.zeroValue354
 t212:=Tryz.underlying347
 a212:=Tryz.isAgg347
 z212:=Tryz.sizeOf347
 v212:=Tryz.zeroValue347
 t213:=Tryz.underlying348
 a213:=Tryz.isAgg348
 z213:=Tryz.sizeOf348
 t232:=Tryz.underlying364
 a232:=Tryz.isAgg364
 z232:=Tryz.sizeOf364
 v232:=Tryz.zeroValue364
 t233:=Tryz.underlying149
 a233:=Tryz.isAgg149
 z233:=Tryz.sizeOf149
 v233:=Tryz.zeroValue149
 g15:=by kernel_rfl
 g16:=by kernel_rfl
 g17:=by kernel_rfl
 g18:=by kernel_rfl
 g19:=by kernel_rfl
 t80:=Tryz.underlying252
 a80:=Tryz.isAgg252
 z80:=Tryz.sizeOf252
 v80:=Tryz.zeroValue252
 i0:=by kernel_rfl
 i2:=by kernel_rfl
 i3:=by kernel_rfl
 i4:=by kernel_rfl
 i5:=by kernel_rfl
 i9:=by kernel_rfl
 i20:=by kernel_rfl
 i21:=by kernel_rfl
 i37:=by kernel_rfl
 i46:=by kernel_rfl
 i51:=by kernel_rfl
 i53:=by kernel_rfl
 i75:=by kernel_rfl
 i80:=by kernel_rfl
 i85:=by kernel_rfl
 i127:=by kernel_rfl
 i143:=by kernel_rfl
 i145:=by kernel_rfl
 i167:=by kernel_rfl
 i168:=by kernel_rfl
 i171:=by kernel_rfl
 i173:=by kernel_rfl
 i175:=by kernel_rfl
 i210:=by kernel_rfl
 i212:=by kernel_rfl
 i232:=by kernel_rfl
 i233:=by kernel_rfl
 m15:=by kernel_rfl
 m16:=by kernel_rfl
 m17:=by kernel_rfl
 m18:=by kernel_rfl
 m19:=by kernel_rfl
 c0:=by kernel_rfl
 c2:=by kernel_rfl
 c3:=by kernel_rfl
 c4:=by kernel_rfl
 c5:=by kernel_rfl
 c9:=by kernel_rfl
 c20:=by kernel_rfl
 c21:=by kernel_rfl
 c37:=by kernel_rfl
 c46:=by kernel_rfl
 c51:=by kernel_rfl
 c53:=by kernel_rfl
 c75:=by kernel_rfl
 c80:=by kernel_rfl
 c85:=by kernel_rfl
 c127:=by kernel_rfl
 c143:=by kernel_rfl
 c145:=by kernel_rfl
 c167:=by kernel_rfl
 c168:=by kernel_rfl
 c171:=by kernel_rfl
 c173:=by kernel_rfl
 c175:=by kernel_rfl
 c210:=by kernel_rfl
 c212:=by kernel_rfl
 c213:=by kernel_rfl
 c232:=by kernel_rfl
 c233:=by kernel_rfl}
open Go.RowKit in
theorem Tryz.strconv_ParseInt_10_at64_ok (s:ByteArray) (GX:s.size<=9223372036854775806) (v:Int) (h:Lib.parseIntB 64 s.data.toList=.ok v) (w:World):
 Calls Tryz.prog 239 #[.string s,.int .i64 10,.int .i64 64] w fun e w'=>e=.returned (.tuple #[.int .i64 v,.nilIface])/\(w'=w∨∃t,w'=Lib.bytesWorld w 5 t):=Any.strconv_ParseInt_10_at64_ok Tryz.GQ s GX v h w
open Go.RowKit in
theorem Tryz.strconv_ParseInt_10_at64_range_var (s:ByteArray) (ZC:s.size<=281474976710656) (h:Lib.parseIntB 64 s.data.toList=.range) (tp:TypeId) (p:Value) (w:World) (ZD:w.var? Tryz.prog "strconv.ErrRange" =some #[.iface tp p]):
 Calls Tryz.prog 239 #[.string s,.int .i64 10,.int .i64 64] w fun e w'=>∃N,e=.returned (.tuple #[.int .i64 (Lib.intSat 64 s.data.toList),.iface 342 (.pointer (some ⟨N,0,none⟩))])/\w.heap.size<=N/\w'.heap[N]? =some (.cells #[.string ⟨#[80,97,114,115,101,73,110,116]⟩,.string s,.iface tp p] 354 (0,0))/\Below w.heap.size w w':=Any.strconv_ParseInt_10_at64_range_var Tryz.GQ s ZC h tp p w ZD
def Tryz.GR:Go.Shelf.Ren:=⟨fun | 219=>236 | 217=>248 | 225=>249 | 224=>250 | 267=>251 | 266=>267 | 314=>268 | n=>n,fun | 9=>9 | 3=>3 | 4=>4 | 5=>5 | 46=>150 | 146=>310 | 51=>215 | n=>n,fun | 1=>1 | n=>n⟩
theorem Tryz.Uz:Go.Proofs.Lays.n219 Tryz.prog Tryz.GR:={
 mixed:=by kernel_rfl
 f217:=Tryz.func248.trans (bm some (by kernel_rfl))
 f219:=Tryz.func236.trans (bm some (by kernel_rfl))
 f224:=Tryz.func250.trans (bm some (by kernel_rfl))
 f225:=Tryz.func249.trans (bm some (by kernel_rfl))
 f266:=Tryz.func267.trans (bm some (by kernel_rfl))
 f267:=Tryz.func251.trans (bm some (by kernel_rfl))
 f314:=Tryz.func268.trans (bm some (by kernel_rfl))
 t3:=Tryz.underlying3
 a3:=Tryz.isAgg3
 z3:=Tryz.sizeOf3
 v3:=Tryz.zeroValue3
 t4:=Tryz.underlying4
 a4:=Tryz.isAgg4
 z4:=Tryz.sizeOf4
 v4:=Tryz.zeroValue4
 t5:=Tryz.underlying5
 a5:=Tryz.isAgg5
 z5:=Tryz.sizeOf5
 v5:=Tryz.zeroValue5
 t9:=Tryz.underlying9
 a9:=Tryz.isAgg9
 z9:=Tryz.sizeOf9
 v9:=Tryz.zeroValue9
 t46:=Tryz.underlying150
 a46:=Tryz.isAgg150
 z46:=Tryz.sizeOf150
 v46:=Tryz.zeroValue150
 t51:=Tryz.underlying215
 a51:=Tryz.isAgg215
 z51:=Tryz.sizeOf215
 v51:=Tryz.zeroValue215
 t146:=Tryz.underlying310
 a146:=Tryz.isAgg310
 z146:=Tryz.sizeOf310
 v146:=Tryz.zeroValue310
 g1:=by kernel_rfl}
open Go.RowKit Go.Lib in
theorem Tryz.stringslite_Index_one (s:ByteArray) (c:UInt8) (w:World):
 Calls Tryz.prog 236 #[.string s,.string ⟨#[c]⟩] w fun e w'=>e=.returned (.int .i64 (Lib.indexByte s.data.toList c))/\w'=w:=Any.stringslite_Index_one Tryz.Uz s c w
def Tryz.GS:Go.Shelf.Ren:=⟨fun | 189=>78 | 125=>102 | 257=>112 | 128=>139 | 129=>140 | 294=>143 | 295=>144 | 296=>145 | 297=>146 | 298=>147 | 299=>148 | 216=>110 | 300=>149 | 301=>150 | 328=>185 | 329=>180 | 330=>181 | 331=>186 | 332=>187 | 215=>103 | 343=>213 | n=>n,fun | 28=>32 | 3=>3 | 46=>150 | 0=>0 | 51=>215 | 53=>42 | 4=>4 | 183=>209 | 182=>208 | 131=>142 | 5=>5 | 9=>9 | 218=>255 | 222=>231 | 228=>285 | 229=>246 | n=>n,fun | n=>n⟩
theorem Tryz.Ls:Go.Proofs.Lays.n189 Tryz.prog Tryz.GS:={
 mixed:=by kernel_rfl
 f125:=Tryz.func102.trans (bm some (by kernel_rfl))
 f128:=Tryz.func139.trans (bm some (by kernel_rfl))
 f129:=Tryz.func140.trans (bm some (by kernel_rfl))
 f189:=Tryz.func78.trans (bm some (by kernel_rfl))
 f215:=Tryz.func103.trans (bm some (by kernel_rfl))
 f216:=Tryz.func110.trans (bm some (by kernel_rfl))
 f257:=Tryz.func112.trans (bm some (by kernel_rfl))
 f294:=Tryz.func143.trans (bm some (by kernel_rfl))
 f295:=Tryz.func144.trans (bm some (by kernel_rfl))
 f296:=Tryz.func145.trans (bm some (by kernel_rfl))
 f297:=Tryz.func146.trans (bm some (by kernel_rfl))
 f298:=Tryz.func147.trans (bm some (by kernel_rfl))
 f299:=Tryz.func148.trans (bm some (by kernel_rfl))
 f300:=Tryz.func149.trans (bm some (by kernel_rfl))
 f301:=Tryz.func150.trans (bm some (by kernel_rfl))
 f328:=Tryz.func185.trans (bm some (by kernel_rfl))
 f329:=Tryz.func180.trans (bm some (by kernel_rfl))
 f330:=Tryz.func181.trans (bm some (by kernel_rfl))
 f331:=Tryz.func186.trans (bm some (by kernel_rfl))
 f332:=Tryz.func187.trans (bm some (by kernel_rfl))
 f343:=Tryz.func213.trans (bm some (by kernel_rfl))
 t0:=Tryz.underlying0
 a0:=Tryz.isAgg0
 z0:=Tryz.sizeOf0
 v0:=Tryz.zeroValue0
 t3:=Tryz.underlying3
 a3:=Tryz.isAgg3
 z3:=Tryz.sizeOf3
 v3:=Tryz.zeroValue3
 t4:=Tryz.underlying4
 a4:=Tryz.isAgg4
 z4:=Tryz.sizeOf4
 v4:=Tryz.zeroValue4
 t5:=Tryz.underlying5
 a5:=Tryz.isAgg5
 z5:=Tryz.sizeOf5
 v5:=Tryz.zeroValue5
 t9:=Tryz.underlying9
 a9:=Tryz.isAgg9
 z9:=Tryz.sizeOf9
 v9:=Tryz.zeroValue9
 t28:=Tryz.underlying32
 a28:=Tryz.isAgg32
 z28:=Tryz.sizeOf32
 v28:=Tryz.zeroValue32
 t46:=Tryz.underlying150
 a46:=Tryz.isAgg150
 z46:=Tryz.sizeOf150
 v46:=Tryz.zeroValue150
 t51:=Tryz.underlying215
 a51:=Tryz.isAgg215
 z51:=Tryz.sizeOf215
 v51:=Tryz.zeroValue215
 t53:=Tryz.underlying42
 a53:=Tryz.isAgg42
 z53:=Tryz.sizeOf42
 v53:=Tryz.zeroValue42
 t131:=Tryz.underlying142
 a131:=Tryz.isAgg142
 z131:=Tryz.sizeOf142
 v131:=Tryz.zeroValue142
 t182:=Tryz.underlying208
 a182:=Tryz.isAgg208
 z182:=Tryz.sizeOf208
 v182:=Tryz.zeroValue208
 t183:=Tryz.underlying209
 a183:=Tryz.isAgg209
 z183:=Tryz.sizeOf209
 v183:=Tryz.zeroValue209
 t218:=Tryz.underlying255
 a218:=Tryz.isAgg255
 z218:=Tryz.sizeOf255
 v218:=Tryz.zeroValue255
 t222:=Tryz.underlying231
 a222:=Tryz.isAgg231
 z222:=Tryz.sizeOf231
 v222:=Tryz.zeroValue231
 t228:=Tryz.underlying285
 a228:=Tryz.isAgg285
 z228:=Tryz.sizeOf285
 v228:=Tryz.zeroValue285
 t229:=Tryz.underlying246
 a229:=Tryz.isAgg246
 z229:=Tryz.sizeOf246
 v229:=Tryz.zeroValue246}
open Go.Sort Go.RowKit in
theorem Tryz.slices_Sort_int (blk off cap:Nat) (zs:List Int) (w:World) (hH:Holds (Value.int .i64) w blk off zs.toArray) (hblk:blk<w.heap.size) (hsz:zs.length<4611686018427387904):
 Calls Tryz.prog 78 #[.slice (some ⟨blk,off,none⟩) zs.length cap] w fun e w'=>
  e=.returned (.tuple #[])/\∃n os,w'=grow (putRow (Value.int .i64) (Sort.ahead w n) blk off (zs.mergeSort fun x y=>decide (x<=y)).toArray) os:=Any.slices_Sort_int Tryz.Ls blk off cap zs w hH hblk hsz
def Tryz.xq:Go.Shelf.Ren:=⟨fun | 105=>203 | 212=>226 | 99=>189 | 165=>227 | 166=>202 | 170=>211 | 169=>175 | 263=>242 | 264=>243 | 206=>215 | 240=>225 | 241=>244 | 276=>241 | 277=>259 | n=>n,fun | 9=>9 | 3=>3 | 4=>4 | 20=>20 | 0=>0 | 46=>150 | 109=>295 | 5=>5 | 72=>243 | 76=>275 | 51=>215 | 146=>310 | 53=>42 | 148=>312 | 70=>240 | 37=>241 | 75=>274 | 127=>284 | 164=>308 | 80=>252 | n=>n,fun | n=>n⟩
theorem Tryz.UA:Go.Proofs.Lays.n105 Tryz.prog Tryz.xq:={
 mixed:=by kernel_rfl
 f99:=Tryz.func189.trans (bm some (by kernel_rfl))
 f105:=Tryz.func203.trans (bm some (by kernel_rfl))
 f165:=Tryz.func227.trans (bm some (by kernel_rfl))
 f166:=Tryz.func202.trans (bm some (by kernel_rfl))
 f169:=Tryz.func175.trans (bm some (by kernel_rfl))
 f170:=Tryz.func211.trans (bm some (by kernel_rfl))
 f206:=Tryz.func215.trans (bm some (by kernel_rfl))
 f212:=Tryz.func226.trans (bm some (by kernel_rfl))
 f240:=Tryz.func225.trans (bm some (by kernel_rfl))
 f241:=Tryz.func244.trans (bm some (by kernel_rfl))
 f263:=Tryz.func242.trans (bm some (by kernel_rfl))
 f264:=Tryz.func243.trans (bm some (by kernel_rfl))
 f276:=Tryz.func241.trans (bm some (by kernel_rfl))
 f277:=Tryz.func259.trans (bm some (by kernel_rfl))
 t0:=Tryz.underlying0
 a0:=Tryz.isAgg0
 z0:=Tryz.sizeOf0
 v0:=Tryz.zeroValue0
 t3:=Tryz.underlying3
 a3:=Tryz.isAgg3
 z3:=Tryz.sizeOf3
 v3:=Tryz.zeroValue3
 t4:=Tryz.underlying4
 a4:=Tryz.isAgg4
 z4:=Tryz.sizeOf4
 v4:=Tryz.zeroValue4
 t5:=Tryz.underlying5
 a5:=Tryz.isAgg5
 z5:=Tryz.sizeOf5
 v5:=Tryz.zeroValue5
 t9:=Tryz.underlying9
 a9:=Tryz.isAgg9
 z9:=Tryz.sizeOf9
 v9:=Tryz.zeroValue9
 t20:=Tryz.underlying20
 a20:=Tryz.isAgg20
 z20:=Tryz.sizeOf20
 v20:=Tryz.zeroValue20
 t37:=Tryz.underlying241
 a37:=Tryz.isAgg241
 z37:=Tryz.sizeOf241
 v37:=Tryz.zeroValue241
 t46:=Tryz.underlying150
 a46:=Tryz.isAgg150
 z46:=Tryz.sizeOf150
 v46:=Tryz.zeroValue150
 t51:=Tryz.underlying215
 a51:=Tryz.isAgg215
 z51:=Tryz.sizeOf215
 v51:=Tryz.zeroValue215
 t53:=Tryz.underlying42
 a53:=Tryz.isAgg42
 z53:=Tryz.sizeOf42
 v53:=Tryz.zeroValue42
 t70:=Tryz.underlying240
 a70:=Tryz.isAgg240
 z70:=Tryz.sizeOf240
 v70:=Tryz.zeroValue240
 t72:=Tryz.underlying243
 a72:=Tryz.isAgg243
 z72:=Tryz.sizeOf243
 v72:=Tryz.zeroValue243
 t75:=Tryz.underlying274
 a75:=Tryz.isAgg274
 z75:=Tryz.sizeOf274
 v75:=Tryz.zeroValue274
 t76:=Tryz.underlying275
 a76:=Tryz.isAgg275
 z76:=Tryz.sizeOf275
 v76:=Tryz.zeroValue275
 t109:=Tryz.underlying295
 a109:=Tryz.isAgg295
 z109:=Tryz.sizeOf295
 v109:=Tryz.zeroValue295
 t127:=Tryz.underlying284
 a127:=Tryz.isAgg284
 z127:=Tryz.sizeOf284
 v127:=Tryz.zeroValue284
 t146:=Tryz.underlying310
 a146:=Tryz.isAgg310
 z146:=Tryz.sizeOf310
 v146:=Tryz.zeroValue310
 t148:=Tryz.underlying312
 a148:=Tryz.isAgg312
 z148:=Tryz.sizeOf312
 v148:=Tryz.zeroValue312
 t164:=Tryz.underlying308
 a164:=Tryz.isAgg308
 z164:=Tryz.sizeOf308
 v164:=Tryz.zeroValue308}
theorem Tryz.vB:Builder.Extra Tryz.prog Tryz.xq:={
 sizeBuilder:=by kernel_rfl
 liesBuilder:=by kernel_rfl
 t5:=Tryz.underlying5
 a5:=Tryz.isAgg5
 z5:=Tryz.sizeOf5
 v5:=Tryz.zeroValue5
 infoByte:=by kernel_rfl
 cellsByte:=by kernel_rfl
 sizeByte:=by kernel_rfl
 neB5:=by decide}
open Go.RowKit Go.Lib in
theorem Tryz.strings_Repeat (s:ByteArray) (c:Nat) (w:World) (hc:c<=9223372036854775807) (fu:s.size*c<=140737488355328):
 Calls Tryz.prog 203 #[.string s,.int .i64 c] w fun e w'=>e=.returned (.string ⟨(Lib.repeatL s.data.toList c).toArray⟩)/\Below w.heap.size w w':=Any.strings_Repeat Tryz.UA Tryz.vB s c w hc fu
def Tryz.A2:Go.Shelf.Ren:=⟨fun | 15=>48 | n=>n,fun | 22=>32 | 3=>3 | 4=>4 | n=>n,fun | n=>n⟩
theorem Tryz.wE:Go.Proofs.Lays2.n15 Tryz.prog Tryz.A2:={
 mixed:=by kernel_rfl
 f15:=Tryz.func48.trans (bm some (by kernel_rfl))
 t3:=Tryz.underlying3
 a3:=Tryz.isAgg3
 z3:=Tryz.sizeOf3
 v3:=Tryz.zeroValue3
 t4:=Tryz.underlying4
 a4:=Tryz.isAgg4
 z4:=Tryz.sizeOf4
 v4:=Tryz.zeroValue4
 t22:=Tryz.underlying32
 a22:=Tryz.isAgg32
 z22:=Tryz.sizeOf32
 v22:=Tryz.zeroValue32
 i3:=by kernel_rfl}
open Go.RowKit Go.Lib in
theorem Tryz.slices_Clone_int (b off n c:Nat) (zs:List Int) (w:World) (hz:n<=zs.length) (rl:n*8<=140737488355328) (hc:∀j,j<zs.length->w.cell? ⟨b,off+j,none⟩=some (.int .i64 (zs.getD j 0))):
 Calls Tryz.prog 48 #[.slice (some ⟨b,off,none⟩) n c] w fun e w'=>∃v',e=.returned v'/\w'.ownsRow w.heap.size 3 1 v' n ((zs.take n).map (Value.int .i64))/\v'≠.slice none 0 0/\Below w.heap.size w w':=Any.slices_Clone_int Tryz.wE b off n c zs w hz rl hc
open Go.RowKit Go.Lib in
theorem Tryz.slices_Clone_int_nil (n c:Nat) (w:World):
 Calls Tryz.prog 48 #[.slice none n c] w fun e w'=>e=.returned (.slice none 0 0)/\w'=w:=Any.slices_Clone_int_nil Tryz.wE n c w
open Go.RowKit Go.Lib in
theorem Tryz.slices_Clone_int_zero (a:Addr) (c:Nat) (w:World):
 Calls Tryz.prog 48 #[.slice (some a) 0 c] w fun e w'=>∃v',e=.returned v'/\w'.ownsRow w.heap.size 3 1 v' 0 []/\v'≠.slice none 0 0/\Below w.heap.size w w':=Any.slices_Clone_int_zero Tryz.wE a c w
def Tryz.A3:Go.Shelf.Ren:=⟨fun | 20=>79 | n=>n,fun | 22=>32 | 3=>3 | 4=>4 | 0=>0 | n=>n,fun | n=>n⟩
theorem Tryz.Ci:Go.Proofs.Lays2.n20 Tryz.prog Tryz.A3:={
 mixed:=by kernel_rfl
 f20:=Tryz.func79.trans (bm some (by kernel_rfl))
 t0:=Tryz.underlying0
 a0:=Tryz.isAgg0
 z0:=Tryz.sizeOf0
 v0:=Tryz.zeroValue0
 t3:=Tryz.underlying3
 a3:=Tryz.isAgg3
 z3:=Tryz.sizeOf3
 v3:=Tryz.zeroValue3
 t4:=Tryz.underlying4
 a4:=Tryz.isAgg4
 z4:=Tryz.sizeOf4
 v4:=Tryz.zeroValue4
 t22:=Tryz.underlying32
 a22:=Tryz.isAgg32
 z22:=Tryz.sizeOf32
 v22:=Tryz.zeroValue32
 i3:=by kernel_rfl}
open Go.RowKit Go.Lib Go.Sort in
theorem Tryz.slices_Compact_int (blk off cap:Nat) (zs:List Int) (w:World) (hH:Holds (Value.int .i64) w blk off zs.toArray) (hsz:zs.length<=9223372036854775807) (mJ:zs.length<=cap):
 Calls Tryz.prog 79 #[.slice (some ⟨blk,off,none⟩) zs.length cap] w fun e w'=>e=.returned (.slice (some ⟨blk,off,none⟩) (Lib.compact zs).length cap)/\∃q,w'=putRow (Value.int .i64) (Sort.ahead w q) blk off (Lib.compact zs++List.replicate (zs.length-(Lib.compact zs).length) 0).toArray:=Any.slices_Compact_int Tryz.Ci blk off cap zs w hH hsz mJ
open Go.RowKit Go.Lib Go.Sort in
theorem Tryz.slices_Compact_int_empty (a:Option Addr) (cap:Nat) (w:World):
 Calls Tryz.prog 79 #[.slice a 0 cap] w fun e w'=>e=.returned (.slice a 0 cap)/\w'=w:=Any.slices_Compact_int_empty Tryz.Ci a cap w
open Go.RowKit Go.Sort in
theorem Tryz.slices_Sort_int_none (p:Option Addr) (cap:Nat) (w:World):
 Calls Tryz.prog 78 #[.slice p 0 cap] w fun e w'=>e=.returned (.tuple #[])/\w'=w:=Any.slices_Sort_int_none Tryz.Ls p cap w
end Go.Proofs
namespace Go.Proofs.YtbkjcdocjfknfaaGreatDoor.Con
open Go.Value renaming int->O,string->ah,pointer->ai,agg->aj,tuple->ak,bool->ao
open Go.IntKind renaming i64->ae,wrap->av
open Go.Ending renaming returned->aq
open _root_.ByteArray renaming mk->ar
open _root_.Go.Proofs.Tryz renaming prog->au
open Go.Instr renaming buildSlice->aw
open Go renaming World->ay,Value->az,Calls->aB
open Go.Kt renaming Only->aA,SliceF->aD,Cells->aE,OnlyP->aF,Blk->aH
open Go Go.RowKit Go.Kt Go.Kt.V Go.Proofs.YtbkjcdocjfknfaaGreatDoor.Vc
set_option linter.unusedSimpArgs false
set_option linter.unusedVariables false
set_option maxHeartbeats 4000000
theorem ret{P:Program}{f:FuncId}{a:Array az}{w:ay}{r:az}{Q:ay->Prop}(h:aB P f a w fun e w'=>∃v,e=aq v/\v=r/\Q w'):aB P f a w fun e w'=>e=aq r/\Q w':=
 h.mono (by rintro e w' ⟨v,rfl,rfl,hq⟩;exact⟨rfl,hq⟩)
theorem Blk.dZ{w:ay}{b:Nat}{t:TypeId}{cs:aK}(h:aH w b t cs)(j:Nat){v:az}(hv:cs[j]? =some v):aE w ((⟨b,0,none⟩:Addr).add j) [v]:=by
 rw[fV,bM];exact h.cells j [v] fun k u hk=>by
  cases k with
  | zero=>simp only[cE,ba]at hk;subst hk;exact hv
  | succ k=>simp at hk
def qF(c:UInt8):Bool:=(65<=c.toNat&&c.toNat<=90)||(97<=c.toNat&&c.toNat<=122)||c.toNat==95
def ff(c:UInt8):Bool:=48<=c.toNat&&c.toNat<=57
def iB(c:UInt8):Bool:=qF c||ff c
def C7(c:UInt8):Bool:=[9,10,13,32].contains c
theorem HR:∀n:Fin 256,(((decide (97<=(bits .or .u8 (n.val:Int) 32)))&&(decide ((bits .or .u8 (n.val:Int) 32)<=122)))||((n.val:Int)==95))=((65<=n.val&&n.val<=90)||(97<=n.val&&n.val<=122)||n.val==95):=by decide+kernel
theorem zh(w:ay)(c:UInt8):aB au 192 #[.int .u8 (c.toNat:Int)] w fun e w'=>e=aq (ao (qF c))/\aA [] w w':=by
 refine ret (acI _ _ _ ?_);exact⟨by rw[HR ⟨c.toNat,c.toNat_lt⟩];rfl,Only.refl _ _⟩
theorem JD(w:ay)(c:UInt8):aB au 194 #[.int .u8 (c.toNat:Int)] w fun e w'=>e=aq (ao (ff c))/\aA [] w w':=by
 refine ret (acL _ _ _ ?_);refine⟨?_,Only.refl _ _⟩;congr 1;rw[bT];simp only[ff,aQ,bL];omega
theorem O5(w:ay)(c:UInt8):aB au 238 #[.int .u8 (c.toNat:Int)] w fun e w'=>e=aq (ao (ff c))/\aA [] w w':=by
 refine ret (v2w _ _ _ ?_);refine⟨?_,Only.refl _ _⟩;have h:∀n:Fin 256,decide ((av .u8 ((n.val:Int)-48))<10)=(decide (48<=n.val)&&decide (n.val<=57)):=by decide+kernel
 rw[h ⟨c.toNat,c.toNat_lt⟩];rfl
theorem O6{w:ay}{F:aL}{s:Sl}{l:aJ}(h:aD ji 1 w F s l)(c:UInt8):
  aB au 235 #[Sl.v s,.int .u8 (c.toNat:Int)] w fun e w'=>∃i:Int,e=aq (O ae i)/\decide (i>=0)=l.contains c/\aA [] w w':=by
 refine(acC s _ (fun v w'=>∃i:Int,v=O ae i/\decide (i>=0)=l.contains c/\aA [] w w') w ?_).mono (by
  rintro e w' ⟨v,rfl,i,rfl,h⟩;exact⟨i,rfl,h⟩)
 have fu:=h.len;have rl:=h.big;have mJ:=h.cap;refine⟨fun nv i w'=>∃n:Nat,n<=l.length/\i=(n:Int)/\nv=l.length-n/\(∀x,x∈l.take n->x≠c)/\w'=w,l.length,⟨0,bA _,rfl,rfl,by simp,rfl⟩,?_⟩;rintro nv _ _ ⟨n,hn,rfl,rfl,hp,rfl⟩;refine⟨fun hc=>?_,fun hc=>?_⟩
 ·have bX:(n:Int)<s.n:=aP hc;obtain⟨ad,x,cs,g1,g2,g3,g4,g5,g6⟩:=h.get (bE n) bX;rw[aX]at g2;unfold ji ga at g6;subst g6;refine⟨ad,g1,_,g5,fun he=>⟨_,rfl,?_,Only.refl _ _⟩,fun he=>⟨l.length-(n+1),by omega,n+1,by omega,by rw[gD (by omega) (by omega)];rfl,rfl,?_,rfl⟩⟩
  ·have he:c=x:=R9.1 (by have:=aP he;omega);rw[bK (by omega)];symm;rw[pw,he];exact bD g2
  ·intro y hy;rw[bI,g2]at hy;simp only[nC,ch,aO]at hy;rcases hy with hy | rfl
   ·exact hp y hy
   ·rintro rfl;simp at he
 ·have mz:¬((n:Int)<s.n):=aW hc;rw[bC (by omega)]at hp;refine⟨_,rfl,?_,Only.refl _ _⟩;rw[bG (by omega)];symm;rw[fh];intro hh;exact hp c (pw.1 hh) rfl
theorem Fq{w:ay}{F:aL}{s:Sl}{l:aJ}(h:aD ji 1 w F s l)(c:UInt8):
  aB au 214 #[Sl.v s,.int .u8 (c.toNat:Int)] w fun e w'=>e=aq (ao (l.contains c))/\aA [] w w':=by
 refine ret (acB _ _ _ _ ?_);refine(O6 h c).mono ?_;rintro _ w1 ⟨i,rfl,hi,hO⟩;exact⟨i,rfl,by rw[hi],hO⟩
theorem Fs{w:ay}{F:aL}{s:Sl}{l:aJ}(h:aD ji 1 w F s l)(c:UInt8):
  aB au 188 #[.int .u8 (c.toNat:Int),Sl.v s] w fun e w'=>e=aq (ao (l.contains c))/\aA [] w w':=by
 refine ret (acA _ _ _ _ ?_);refine(Fq h c).mono ?_;rintro _ w1 ⟨rfl,hO⟩;exact⟨_,rfl,rfl,hO⟩
def kz:Rp (aJ):=fun _ _ l cs=>cs=[ah (T l)]
theorem dD:kz.Ok where
 keep h _:=h
 inHeap h:=h
 mono h _:=h
 one:=by
  rintro w F x cs h v hv;unfold kz at h;subst h;simp only[aO]at hv;subst hv;rfl
theorem O7{w:ay}{F:aL}{s:Sl}{l:List (aJ)}(h:aD kz 1 w F s l)(c:aJ):
  aB au 197 #[Sl.v s,ah (T c)] w fun e w'=>∃i:Int,e=aq (O ae i)/\decide (i>=0)=l.contains c/\aA [] w w':=by
 refine(VN s _ (fun v w'=>∃i:Int,v=O ae i/\decide (i>=0)=l.contains c/\aA [] w w') w ?_).mono (by
  rintro e w' ⟨v,rfl,i,rfl,h⟩;exact⟨i,rfl,h⟩)
 have fu:=h.len;have rl:=h.big;have mJ:=h.cap;refine⟨fun nv i w'=>∃n:Nat,n<=l.length/\i=(n:Int)/\nv=l.length-n/\(∀x,x∈l.take n->x≠c)/\w'=w,l.length,⟨0,bA _,rfl,rfl,by simp,rfl⟩,?_⟩;rintro nv _ _ ⟨n,hn,rfl,rfl,hp,rfl⟩;refine⟨fun hc=>?_,fun hc=>?_⟩
 ·have bX:(n:Int)<s.n:=aP hc;obtain⟨ad,x,cs,g1,g2,g3,g4,g5,g6⟩:=h.get (bE n) bX;rw[aX]at g2;unfold kz at g6;subst g6;refine⟨ad,g1,_,g5,?_⟩;dsimp only;rw[mf];refine⟨fun he=>⟨_,rfl,?_,Only.refl _ _⟩,fun he=>⟨l.length-(n+1),by omega,n+1,by omega,by rw[gD (by omega) (by omega)];rfl,rfl,?_,rfl⟩⟩
  ·have he:c=x:=aP he;rw[bK (by omega)];symm;rw[pw,he];exact bD g2
  ·intro y hy;rw[bI,g2]at hy;simp only[nC,ch,aO]at hy;rcases hy with hy | rfl
   ·exact hp y hy
   ·rintro rfl;simp at he
 ·have mz:¬((n:Int)<s.n):=aW hc;rw[bC (by omega)]at hp;refine⟨_,rfl,?_,Only.refl _ _⟩;rw[bG (by omega)];symm;rw[fh];intro hh;exact hp c (pw.1 hh) rfl
theorem rM{w:ay}{F:aL}{s:Sl}{l:List (aJ)}(h:aD kz 1 w F s l)(c:aJ):
  aB au 218 #[Sl.v s,ah (T c)] w fun e w'=>e=aq (ao (l.contains c))/\aA [] w w':=by
 refine ret (acM _ _ _ _ ?_);refine(O7 h c).mono ?_;rintro _ w1 ⟨i,rfl,hi,hO⟩;exact⟨i,rfl,by rw[hi],hO⟩
abbrev Tx(w:ay)(b:Nat)(t:TypeId)(l:aJ)(i:Nat)(r:aK):Prop:=aH w b t (ah (T l)::O ae (i:Int)::r)
theorem VT{w:ay}{b:Nat}{t:TypeId}{l:aJ}{i:Nat}{r:aK}(h:Tx w b t l i r):
  aB au 153 #[ai (some ⟨b,0,none⟩)] w fun e w'=>e=aq (ao (decide (l.length<=i)))/\aA [] w w':=by
 refine ret (acz _ _ _ ?_);refine⟨i,Blk.dZ h 1 rfl,T l,Blk.dZ h 0 rfl,fun w0 hO=>⟨?_,hO⟩⟩;rw[dH];congr 1;rw[fS];omega
theorem zi{w:ay}{b:Nat}{t:TypeId}{l:aJ}{i:Nat}{r:aK}(h:Tx w b t l i r)(hi:i<=l.length):
  aB au 190 #[ai (some ⟨b,0,none⟩)] w fun e w'=>e=aq (ah (T (l.drop i)))/\aA [] w w':=by
 refine ret (acD _ _ _ ?_);refine⟨T l,Blk.dZ h 0 rfl,i,Blk.dZ h 1 rfl,i,⟨rfl,by rw[dH];exact hi⟩,fun w0 hO=>⟨?_,hO⟩⟩;rw[yH,dH,bC (by rw[cG];exact aY _)]
theorem uc{p:UInt8->Bool}:∀{l:aJ} {n:Nat},n<=l.length->(∀x,x∈l.take n->p x=true)->(∀x,l[n]? =some x->p x=false)->l.takeWhile p=l.take n
 | [],n,_,_,_=>by simp
 | c::r,0,_,_,h=>by
  have:=h c rfl;simp[this]
 | c::r,n+1,hn,h1,h2=>by
  have hc:=h1 c (by simp);rw[eF,if_pos hc,fD,uc (n:=n) (by simpa using hn) (fun x hx=>h1 x (by simp[hx])) (fun x hx=>h2 x (by simpa using hx))]
theorem O8{w:ay}{b:Nat}{t:TypeId}{l:aJ}{i:Nat}{r:aK}(h:Tx w b t l i r)(hi:i<=l.length)(hl:l.length<9223372036854775807):
  aB au 217 #[ai (some ⟨b,0,none⟩)] w fun e w'=>e=aq (ah (T ((l.drop i).takeWhile iB)))/\aA [] w w':=by
 refine ret (acK _ _ _ ?_);refine(zi h hi).mono ?_;rintro _ w0 ⟨rfl,cK⟩;have hlr:(l.drop i).length<=l.length:=by rw[cG];omega
 generalize l.drop i=m at*
 refine⟨T m,rfl,fun nv j w'=>∃n:Nat,n<=m.length/\j=(n:Int)/\nv=m.length-n/\(∀x,x∈m.take n->iB x=true)/\aA [] w w',m.length,⟨0,bA _,rfl,rfl,by simp,cK⟩,?_⟩;rintro nv _ w1 ⟨n,hn,rfl,rfl,hp,cF⟩;rw[dH];refine⟨fun b w'=>(b=true->∃x,m[n]? =some x/\iB x=true)/\(b=false->∀x,m[n]? =some x->iB x=false)/\aA [] w w',?_,fun hc=>?_,fun hc=>⟨fun e=>(by cases e),fun _ x hx=>?_,cF⟩⟩
 ·rintro b w2 ⟨h1,h2,dh⟩;refine⟨fun hb=>?_,fun hb=>⟨n,⟨rfl,hn⟩,?_,dh⟩⟩
  ·obtain⟨x,hx,hw⟩:=h1 hb;have bX:=(aZ.1 hx).1;refine⟨m.length-(n+1),by omega,n+1,by omega,by rw[gD (by omega) (by omega)];rfl,rfl,fun y hy=>?_,dh⟩;rw[bI,hx]at hy;simp only[nC,ch,aO]at hy;rcases hy with hy | rfl
   ·exact hp y hy
   ·exact hw
  ·rw[yH,fY,lQ,uc hn hp (h2 hb)]
 ·have bX:(n:Int)<m.length:=aP hc;have hx:m[n]? =some (m[n]'(by omega)):=aV (by omega);generalize m[n]'(by omega)=x at hx;have hg:(T m)[Int.toNat (n:Int)]? =some x:=by rw[wV,aX,hx]
  refine⟨x,⟨bE n,hg⟩,(zh w1 x).mono ?_⟩;rintro _ w3 ⟨rfl,dx⟩;refine⟨_,rfl,fun hb=>⟨fun _=>⟨x,hx,by unfold iB;rw[hb];rfl⟩,fun e=>(by cases e),cF.cz dx⟩,fun hb=>⟨x,⟨bE n,hg⟩,(JD w3 x).mono ?_⟩⟩;rintro _ w4 ⟨rfl,dP⟩;refine⟨_,rfl,fun hd=>⟨x,hx,by unfold iB;rw[hd,xY]⟩,fun hd y hy=>?_,cF.cz (dx.cz dP)⟩;rw[hx]at hy;injection hy with hy;subst hy;unfold iB;rw[hb,hd];rfl
 ·have mz:¬(n:Int)<m.length:=aW hc;have:=(aZ.1 hx).1;omega
theorem Fu(w:ay)(l p:aJ)(hl:l.length<9223372036854775807)(hp:p.length<9223372036854775807):aB au 189 #[ah (T l),ah (T p)] w fun e w'=>e=aq (ao (decide (l.take p.length=p)))/\aA [] w w':=by
 refine ret (acE _ _ _ _ ?_);refine(ret (aiN (T l) (T p) (fun v w'=>v=ao (decide (l.take p.length=p))/\aA [] w w') w ?_)).mono ?_
 ·rw[dH,dH];refine⟨p.length,fun h=>⟨rfl,by have:=aP h;omega⟩,?_,Only.refl _ _⟩;rw[yH,mf,fY,lQ];congr 1;rw[bT];simp only[aQ,bL];constructor
  ·exact fun h=>h.2
  ·intro h;refine⟨?_,h⟩;have:=bm List.length h;rw[dd]at this;omega
 ·rintro _ w1 ⟨rfl,hO⟩;exact⟨_,rfl,rfl,hO⟩
theorem qS:∀(l:aJ) (c:UInt8),Lib.indexByte l c=if c∈l then((l.takeWhile (· !=c)).length:Int)else -1
 | [],c=>by simp[Lib.indexByte]
 | b::l,c=>by
  rw[Lib.indexByte,qS l c];by_cases hbc:b=c
  ·subst hbc;simp
  ·by_cases hm:c∈l
   ·have h1:(b==c)=false:=by simpa using hbc
    have h2:(b !=c)=true:=by simpa using hbc
    have h3:c∈b::l:=by simp[hm]
    rw[h1,if_pos hm,if_pos h3,eF,if_pos h2];simp
   ·have h1:(b==c)=false:=by simpa using hbc
    have h3:¬c∈b::l:=by simp[hm];exact fun e=>hbc e.symm
    rw[h1,if_neg hm,if_neg h3];simp
theorem zj{c:UInt8}:∀{l:aJ},¬c∈l->l.takeWhile (· !=c)=l
 | [],_=>rfl
 | b::l,h=>by
  simp only[aR,not_or]at h;rw[eF,if_pos (by simpa using fun e=>h.1 e.symm),zj h.2]
theorem qG{p:UInt8->Bool}:∀{l:aJ},l.takeWhile p=l.take (l.takeWhile p).length
 | []=>rfl
 | b::l=>by
  rw[eF];split
  ·rw[bp,fD,<-qG]
  ·rfl
theorem adF(w:ay)(l:aJ)(c:UInt8)(hl:l.length<9223372036854775807):aB au 191 #[ah (T l),ah (T [c])] w fun e w'=>∃(s:aM) (b:Bool),e=aq (ak #[ah (T (l.takeWhile (· !=c))),ah s,ao b])/\aA [] w w':=by
 refine(acG _ _ (fun v w'=>∃(s:aM) (b:Bool),v=(ak #[ah (T (l.takeWhile (· !=c))),ah s,ao b])/\aA [] w w') w ?_).mono (by
  rintro e w' ⟨v,rfl,s,b,rfl,h⟩;exact⟨s,b,rfl,h⟩)
 refine(aiO (T l) (T [c]) (fun v w'=>∃(s:aM) (b:Bool),v=(ak #[ah (T (l.takeWhile (· !=c))),ah s,ao b])/\aA [] w w') w ?_).mono ?_
 ·refine(Tryz.stringslite_Index_one (T l) c w).mono ?_;rintro _ _ ⟨rfl,rfl⟩;have e:(T l).data.toList=l:=rfl;rw[e,qS];refine⟨_,rfl,fun h=>?_,fun h=>?_⟩
  ·by_cases hm:c∈l
   ·rw[if_pos hm];have bX:(l.takeWhile (· !=c)).length<l.length:=by
     have h1:=List.takeWhile_append_dropWhile (p:=(· !=c)) (l:=l);have h2:=bm List.length h1;rw[aU]at h2;have h3:l.dropWhile (· !=c)≠[]:=by
      intro h3;rw[h3,bR]at h1;rw[<-h1]at hm;have:=List.all_takeWhile (p:=(· !=c)) (l:=l);rw[dS]at this;have:=this c (by rw[h1]at hm⊢;exact hm);simp at this
     have h4:=io.2 h3;omega
    have hk:(T l).extract 0 (l.takeWhile (· !=c)).length=T (l.takeWhile (· !=c)):=by
     rw[yH,fY,lQ,<-qG]
    refine⟨(l.takeWhile (· !=c)).length,⟨rfl,by rw[dH];omega⟩,(l.takeWhile (· !=c)).length+1,⟨by rw[dH,gD (by simp;omega) (by simp;omega)];rfl,by rw[dH];omega⟩,fun w1 hO=>⟨(T l).extract ((l.takeWhile (· !=c)).length+1) (T l).size,true,?_,hO⟩⟩;rw[hk]
   ·rw[if_neg hm]at h;exact absurd (aP h) (by omega)
  ·by_cases hm:c∈l
   ·rw[if_pos hm]at h;exact absurd (aW h) (by omega)
   ·rw[zj hm];exact⟨_,_,rfl,Only.refl _ _⟩
 ·rintro _ w1 ⟨v,rfl,s,b,rfl,hO⟩;exact⟨_,s,b,rfl,s,b,rfl,hO⟩
theorem vY(w:ay)(l:aJ){n:Nat}{parts:Array (Nat×az)}(hp:parts=(((l.map ga).zipIdx 0).map fun x=>(x.2,x.1)).toArray)(hn:l.length=n)(h0:0<n)(A4:n*1<=16777216):
  ∃s w',(aw 241 n parts).run au w=.ok (Sl.v s) w'/\Own ji 1 5 w.heap.size w' (fun _=>True) s l/\aA [] w w'/\s.a=some ⟨w.heap.size,0,none⟩:=by
 obtain⟨s,w',h1,h2,h3,h4,_⟩:=kx (P:=au) (t:=241) (e:=5) (i:=Tryz.t5) (w:=w) (F:=fun _=>True) (r:=ji) (size:=1) (vs:=l.map ga) (xs:=l) (len:=n) (by kernel_rfl) (by kernel_rfl) rfl rfl (by decide) hp (by rw[bq];exact hn) h0 A4 uG (by
  clear hp hn
  induction l with
  | nil=>exact trivial
  | cons a l ih=>exact⟨⟨rfl,rfl⟩,ih⟩)
 exact⟨s,w',h1,h2,h3,h4⟩
theorem Ty(l:List (aJ))(w:ay):lm kz 1 w (fun _=>True) l ((l.map fun x=>Value.string (T x)).map fun v=>v.cells.toList):=by
 induction l with
 | nil=>exact trivial
 | cons a l ih=>exact⟨⟨rfl,rfl⟩,ih⟩
theorem nP(w:ay)(l:List (aJ)){n:Nat}{parts:Array (Nat×az)}(hp:parts=(((l.map fun x=>Value.string (T x)).zipIdx 0).map fun x=>(x.2,x.1)).toArray)(hn:l.length=n)(h0:0<n)(A4:n*1<=16777216):
  ∃s w',(aw 31 n parts).run au w=.ok (Sl.v s) w'/\Own kz 1 9 w.heap.size w' (fun _=>True) s l/\aA [] w w':=by
 obtain⟨s,w',h1,h2,h3,_⟩:=kx (P:=au) (t:=31) (e:=9) (i:=Tryz.t9) (w:=w) (F:=fun _=>True) (r:=kz) (size:=1) (vs:=l.map fun x=>Value.string (T x)) (xs:=l) (len:=n) (by kernel_rfl) (by kernel_rfl) rfl rfl (by decide) hp (by rw[bq];exact hn) h0 A4 dD (Ty l w);exact⟨s,w',h1,h2,h3⟩
theorem O9{α:Type}{r:Rp α}{size:Nat}{e:TypeId}{B:Nat}{w:ay}{F:aL}{s:Sl}{xs:List α}(hr:r.Ok)(hf:∀w F G x cs,r w F x cs->r w G x cs)(h:Own r size e B w F s xs):aD r size w (fun k=>B<=k/\s.a=some ⟨k,0,none⟩) s xs:=by
 rcases h with⟨rfl,rfl⟩ | ⟨g,css,tail,a1,a2,a4,a5,a6,a7,a9,a8⟩
 ·exact SliceF.nil _ _ _ _
 ·have h':Own r size e B w (fun _=>False) s xs:=.inr ⟨g,css,tail,a1,a2,a4,a5,a6,a7,a9,gp.imp (fun _ _ h=>⟨h.1,hf _ _ _ _ _ h.2⟩) a8⟩;exact(h'.slice hr).mono hr fun k hk=>hk.elim False.elim id
theorem Bs{e:TypeId}{B:Nat}{w:ay}{F:aL}{s:Sl}{xs:aJ}(h:Own ji 1 e B w F s xs):aD ji 1 w (fun k=>B<=k/\s.a=some ⟨k,0,none⟩) s xs:=O9 uG (fun _ _ _ _ _ h=>h) h
theorem uT{e:TypeId}{B:Nat}{w:ay}{F:aL}{s:Sl}{xs:List (aJ)}(h:Own kz 1 e B w F s xs):aD kz 1 w (fun k=>B<=k/\s.a=some ⟨k,0,none⟩) s xs:=O9 dD (fun _ _ _ _ _ h=>h) h
def mS:Bool->aJ->Nat
 | _,[]=>0
 | true,c::r=>1+mS (c !=10) r
 | false,c::r=>if C7 c then 1+mS false r else if c==47&&r.head? ==some 47 then 1+mS true r else 0
theorem C8:∀{b:Bool} {l:aJ},mS b l<=l.length
 | b,[]=>by simp[mS]
 | true,c::r=>by
  rw[mS,bp];have:=C8 (b:=c !=10) (l:=r);omega
 | false,c::r=>by
  rw[mS,bp];have h1:=C8 (b:=false) (l:=r);have h2:=C8 (b:=true) (l:=r);split
  ·omega
  ·split<;>omega
theorem Fv:∀(l:aJ),mS true l=(l.takeWhile (· !=10)).length+mS false (l.drop (l.takeWhile (· !=10)).length)
 | []=>rfl
 | c::r=>by
  by_cases hc:c=10
  ·subst hc;rw[mS];simp[mS,C7]
  ·have h:(c !=10)=true:=by simpa using hc
   rw[mS,h,Fv r,eF,if_pos h,bp,me];omega
theorem Mf{l:aJ}(h:l.take 2=[47,47]):mS false l=(l.takeWhile (· !=10)).length+mS false (l.drop (l.takeWhile (· !=10)).length):=by
 match l,h with
 | a::b::r,h=>
  simp only[fD,dr,rr,and_true]at h;obtain⟨rfl,rfl⟩:=h;have e:mS false (47::47::r)=1+mS true (47::r):=by
   conv=>lhs;rw[mS]
   rw[if_neg (by decide),if_pos (by simp)]
  have e2:=Fv (47::r);have e3:(47::47::r:aJ).takeWhile (· !=10)=47::(47::r:aJ).takeWhile (· !=10):=by
   rw[eF,if_pos (by decide)]
  rw[e,e2,e3,bp,me];omega
theorem Bt{l:aJ}{j:Nat}{x:UInt8}(h:l[j]? =some x):l.drop j=x::l.drop (j+1):=by
 obtain⟨h1,h2⟩:=aZ.1 h;rw[gx h1,h2]
theorem Pa{w:ay}{b:Nat}{t:TypeId}{l:aJ}{i:Nat}{r:aK}(h:Tx w b t l i r)(hi:i<=l.length)(hl:l.length<9223372036854775807):
  aB au 152 #[ai (some ⟨b,0,none⟩)] w fun e w'=>e=aq (ak #[])/\aA [b] w w'/\Tx w' b t l (i+mS false (l.drop i)) r:=by
 refine ret (acy _ _ _ ?_);refine⟨fun nv w'=>∃j:Nat,j<=l.length/\nv=l.length-j/\i+mS false (l.drop i)=j+mS false (l.drop j)/\aA [b] w w'/\Tx w' b t l j r,l.length-i,⟨i,hi,rfl,rfl,Only.refl _ _,h⟩,?_⟩;rintro nv w0 ⟨j,hj,rfl,hjs,cK,h0⟩;have kp:∀{u u':ay} {n:Nat},aA [] u u'->Tx u b t l n r->Tx u' b t l n r:=fun hO hC=>(hO.block b hC.lt (by simp)).trans hC;refine(VT h0).mono ?_;rintro _ w1 ⟨rfl,cF⟩;have h1:=kp cF h0;refine⟨_,rfl,fun hc=>?_,fun hc=>⟨rfl,cK.trans cF (by simp),?_⟩⟩
 ·have bX:j<l.length:=by simpa using hc
  have hx:l[j]? =some l[j]:=aV bX;generalize l[j]=x at hx;have hd:=Bt hx;refine⟨T l,Blk.dZ h1 0 rfl,j,Blk.dZ h1 1 rfl,x,⟨bE j,by rw[wV,aX,hx]⟩,fun w2 dh=>?_⟩;obtain⟨s,w3,k1,k2,k3,_⟩:=vY w2 [9,10,13,32] (n:=4) (parts:=#[(0,.int .u8 9),(1,.int .u8 10),(2,.int .u8 13),(3,.int .u8 32)]) rfl rfl (by decide) (by decide);refine⟨s,w3,k1,(Fs (Bs k2) x).mono ?_⟩;rintro _ w4 ⟨rfl,dP⟩;have dU:=dh.cz (k3.cz dP);have h4:=kp dU h1;have Eb:aA [b] w w4:=cK.trans (cF.cz dU) (by simp);refine⟨_,rfl,fun hb=>⟨j,Blk.dZ h4 1 rfl,b,1,_,t,by rw[fV],h4,by simp,fun w5 eE wL=>⟨l.length-(j+1),by omega,j+1,by omega,rfl,?_,Eb.trans eE (by simp),?_⟩⟩,fun hb=>(zi h4 hj).mono ?_⟩
  ·have e:C7 x=true:=hb;rw[hjs,hd,mS,if_pos e];omega
  ·rw[gD (by omega) (by omega)]at wL;exact wL
  rintro _ w6 ⟨rfl,ez⟩;have h6:=kp ez h4;have hlr:(l.drop j).length<=l.length:=by rw[cG];omega
  refine⟨_,rfl,(Fu w6 (l.drop j) [47,47] (by omega) (by decide)).mono ?_⟩;rintro _ w7 ⟨rfl,fI⟩;have h7:=kp fI h6;refine⟨_,rfl,fun hs=>(zi h7 hj).mono ?_,fun hs=>⟨rfl,Eb.trans (ez.cz fI) (by simp),?_⟩⟩
  ·rintro _ w8 ⟨rfl,gn⟩;have h8:=kp gn h7;refine⟨_,rfl,(adF w8 (l.drop j) 10 (by omega)).mono ?_⟩;rintro _ w9 ⟨s9,b9,rfl,gv⟩;have h9:=kp gv h8;have AM:(l.drop j).take 2=[47,47]:=aP hs;have hk:=Mf AM;have fu:((l.drop j).takeWhile (· !=10)).length<=(l.drop j).length:=by
    rw[qG,dd];exact Nat.min_le_right _ _
   have tD:0<((l.drop j).takeWhile (· !=10)).length:=by
    match hq:l.drop j,AM with
    | a::r',AM=>
     have:a=47:=by
      match r',AM with
      | b'::r'',AM=>simp at AM;exact AM.1
     subst this;simp
   have hld:(l.drop j).length=l.length-j:=cG;generalize hn:((l.drop j).takeWhile (· !=10)).length=n at*
   refine⟨_,s9,b9,rfl,j,Blk.dZ h9 1 rfl,b,1,_,t,by rw[fV],h9,by simp,fun dI eH tE=>⟨l.length-(j+n),by omega,j+n,by omega,rfl,?_,(Eb.trans (ez.cz (fI.cz (gn.cz gv))) (by simp)).trans eH (by simp),?_⟩⟩
   ·rw[hjs,hk,oA];omega
   ·rw[dH,hn,gD (by omega) (by omega)]at tE;exact tE
  ·have hs:¬(l.drop j).take 2=[47,47]:=aW hs;have hb:C7 x=false:=hb;have hz:mS false (l.drop j)=0:=by
    rw[hd,mS,if_neg (by simp[hb]),if_neg];intro hh;apply hs;rw[hd];simp only[aQ,dW]at hh;obtain⟨rfl,hh⟩:=hh;cases hr:l.drop (j+1)with
    | nil=>rw[hr]at hh;simp at hh
    | cons y z=>
     rw[hr]at hh;simp only[List.head?_cons,ba]at hh;rw[hh];rfl
   rw[hjs,hz];exact h7
 ·have mz:l.length<=j:=by simpa using hc
  have hz:l.drop j=[]:=j5 mz;rw[hjs,hz];exact h1
def Er(w:ay):Prop:=∃tp p,w.var? au "strconv.ErrRange" =some #[.iface tp p]
theorem er_num:Tryz.prog.globalNamed "strconv.ErrRange" =some 4:=by kernel_rfl
theorem Er.keep{w w':ay}(h:Er w)(hk:4<w.heap.size->w'.heap[4]? =w.heap[4]?):Er w':=by
 obtain⟨tp,p,h⟩:=h;refine⟨tp,p,?_⟩;unfold World.var? at h⊢;rw[er_num]at h⊢;simp only[lP]at h⊢;rw[hk]
 ·exact h
 ·refine cq fun hn=>?_;rw[eW (by omega)]at h;cases h
theorem Er.lt{w:ay}(h:Er w):4<w.heap.size:=by
 obtain⟨tp,p,h⟩:=h;unfold World.var? at h;rw[er_num]at h;simp only[lP]at h;refine cq fun hn=>?_;rw[eW (by omega)]at h;cases h
theorem Er.only{w w':ay}(h:Er w)(hO:aA [] w w'):Er w':=h.keep fun bX=>hO.block _ bX (by simp)
def vZ(a:Nat)(ds:aJ):Nat:=ds.foldl (fun a c=>a*10+(c.toNat-48)) a
theorem JE:∀(ds:aJ) (a:Nat),a<=vZ a ds
 | [],a=>aY _
 | c::r,a=>by
  have:=JE r (a*10+(c.toNat-48));show a<=vZ (a*10+(c.toNat-48)) r;omega
theorem pum:∀(ds:aJ) (a:Nat),(∀c,c∈ds->ff c=true)->a<=18446744073709551615->
  Lib.parseUintM 18446744073709551615 a ds=if vZ a ds<=18446744073709551615 then .ok (vZ a ds)else .range
 | [],a,_,h=>by rw[Lib.parseUintM];exact(if_pos h).symm
 | c::r,a,hd,h=>by
  have hc:=hd c (by simp);simp only[ff,aQ,bL]at hc;have e:vZ a (c::r)=vZ (a*10+(c.toNat-48)) r:=rfl;have mz:=JE r (a*10+(c.toNat-48));rw[Lib.parseUintM,if_pos hc,e];split
  ·rw[if_neg (by omega)]
  ·split
   ·rw[if_neg (by omega)]
   ·rw[pum r _ (fun x hx=>hd x (by simp[hx])) (by omega)]
theorem pib{ds:aJ}(hd:∀c,c∈ds->ff c=true)(gz:ds≠[]):Lib.parseIntB 64 ds=if vZ 0 ds<9223372036854775808 then .ok (vZ 0 ds:Int)else .range:=by
 match ds,gz with
 | c::r,_=>
  have hc:=hd c (by simp);simp only[ff,aQ,bL]at hc;have h1:¬(c.toNat=43∨c.toNat=45):=by omega
  have h2:¬c.toNat=45:=by omega
  have h3:Lib.parseUintB 64 (c::r)=Lib.parseUintM 18446744073709551615 0 (c::r):=by
   rw[Lib.parseUintB,if_neg (by simp)]
  unfold Lib.parseIntB;dsimp only;rw[if_neg h1,h3,pum _ _ hd (by decide)];by_cases hv:vZ 0 (c::r)<=18446744073709551615
  ·rw[if_pos hv];by_cases hw:vZ 0 (c::r)<9223372036854775808
   ·rw[if_pos hw];simp[h2];omega
   ·rw[if_neg hw];simp[h2];omega
  ·rw[if_neg hv,if_neg (by omega)]
def gV(l:aJ):Nat×Nat×Int:=
 if l=[]then(0,0,3)else if l.takeWhile ff=[]∨(1<(l.takeWhile ff).length/\l.head? =some 48)then(0,0,4)
 else if vZ 0 (l.takeWhile ff)<9223372036854775808 then(vZ 0 (l.takeWhile ff),(l.takeWhile ff).length,0)else(0,0,20)
theorem Mg{p:UInt8->Bool}{l:aJ}:∀c,c∈l.takeWhile p->p c=true:=by
 have:=List.all_takeWhile (p:=p) (l:=l);rwa[dS]at this
theorem Pb{w:ay}{l:aJ}(hE:Er w)(hl:l.length<281474976710656):
  aB au 220 #[ah (T l)] w fun e w'=>e=aq (ak #[O ae (gV l).1,O ae (gV l).2.1,O ae (gV l).2.2])/\aA [] w w':=by
 refine ret (v0w _ _ _ ?_);refine⟨fun nv j w'=>∃n:Nat,n<=l.length/\j=(n:Int)/\nv=l.length-n/\(∀x,x∈l.take n->ff x=true)/\aA [] w w',l.length,⟨0,bA _,rfl,rfl,by simp,Only.refl _ _⟩,?_⟩;rintro nv _ w0 ⟨n,hn,rfl,rfl,hp,cK⟩;rw[dH];refine⟨fun b w'=>(b=true->∃x,l[n]? =some x/\ff x=true)/\(b=false->∀x,l[n]? =some x->ff x=false)/\aA [] w w',?_,fun hc=>?_,fun hc=>⟨fun e=>(by cases e),fun _ x hx=>?_,cK⟩⟩
 ·rintro b w1 ⟨h1,h2,cF⟩;refine⟨fun hb=>?_,fun hb=>?_⟩
  ·obtain⟨x,hx,hw⟩:=h1 hb;have bX:=(aZ.1 hx).1;refine⟨l.length-(n+1),by omega,n+1,by omega,by rw[gD (by omega) (by omega)];rfl,rfl,fun y hy=>?_,cF⟩;rw[bI,hx]at hy;simp only[nC,ch,aO]at hy;rcases hy with hy | rfl
   ·exact hp y hy
   ·exact hw
  have hds:=uc hn hp (h2 hb);have xP:(l.takeWhile ff).length=n:=by rw[hds,dd];omega
  have e0:(ar #[])=T []:=rfl;rw[e0,mf];refine⟨fun h0=>⟨?_,cF⟩,fun h0=>?_⟩
  ·have h0:l=[]:=aP h0;rw[gV,if_pos h0];rfl
  have h0:¬l=[]:=aW h0;refine⟨fun b w'=>b=decide (l.takeWhile ff=[]∨(1<(l.takeWhile ff).length/\l.head? =some 48))/\aA [] w w',?_,fun hz=>?_,fun hz=>?_⟩
  ·rintro b w2 ⟨rfl,dh⟩;refine⟨fun hb=>⟨?_,dh⟩,fun hb=>⟨n,⟨rfl,hn⟩,?_⟩⟩
   ·rw[gV,if_neg h0,if_pos (aP hb)];rfl
   have hb:=aW hb;have hx:(T l).extract 0 n=T (l.takeWhile ff):=by rw[yH,fY,lQ,hds]
   rw[hx];have gz:l.takeWhile ff≠[]:=fun e=>hb (.inl e);have hpi:=pib (Mg (p:=ff) (l:=l)) gz;have hsz:(T (l.takeWhile ff)).size<=281474976710656:=by rw[dH];omega
   by_cases hv:vZ 0 (l.takeWhile ff)<9223372036854775808
   ·rw[if_pos hv]at hpi;refine(Tryz.strconv_ParseInt_10_at64_ok (T (l.takeWhile ff)) (bh hsz (by decide)) _ hpi w2).mono ?_;rintro _ w3 ⟨rfl,hw⟩;have dx:aA [] w2 w3:=by
     rcases hw with rfl | ⟨s,rfl⟩
     ·exact Only.refl _ _
     ·exact Only.oa (Lib.bytesWorld_below _ _ _)
    refine⟨_,⟨.nilIface,rfl⟩,rfl,.inl rfl,fun e=>(by cases e),fun _=>⟨?_,dh.cz dx⟩⟩;rw[gV,if_neg h0,if_neg hb,if_pos hv,xP]
   ·rw[if_neg hv]at hpi;obtain⟨tp,p,ZD⟩:=hE.only dh;refine(Tryz.strconv_ParseInt_10_at64_range_var (T (l.takeWhile ff)) hsz hpi tp p w2 ZD).mono ?_;rintro _ w3 ⟨N,rfl,_,_,hw⟩;refine⟨_,⟨.iface _ _,rfl⟩,rfl,.inr ⟨_,_,rfl⟩,fun _=>⟨?_,dh.cz (Only.oa hw)⟩,fun e=>(by cases e)⟩;rw[gV,if_neg h0,if_neg hb,if_neg hv];rfl
  ·have hz:n=0:=by simpa using hz
   subst hz;refine⟨?_,cF⟩;symm;rw[bK (.inl (bO xP))];rfl
  ·have hz:n≠0:=by simpa using hz
   obtain⟨x,r,rfl⟩:∃x r,l=x::r:=by
    cases l with
    | nil=>exact absurd rfl h0
    | cons x r=>exact⟨x,r,rfl⟩
   refine⟨x,fun _=>⟨nJ _,by rw[wV];rfl⟩,?_,cF⟩;have gz:(x::r).takeWhile ff≠[]:=fun e=>by rw[e]at xP;exact hz xP.symm
   rw[xP,bT];simp only[aQ,bL,dW,List.head?_cons,ba];constructor
   ·rintro⟨h1,h2⟩;exact .inr ⟨by omega,R9.1 (by show x.toNat=48;omega)⟩
   ·rintro(h | ⟨h1,rfl⟩)
    ·exact absurd h gz
    ·exact⟨by omega,rfl⟩
 ·have bX:(n:Int)<l.length:=aP hc;have hx:l[n]? =some (l[n]'(by omega)):=aV (by omega);generalize l[n]'(by omega)=x at hx;refine⟨x,⟨bE n,by rw[wV,aX,hx]⟩,(O5 w0 x).mono ?_⟩;rintro _ w3 ⟨rfl,dx⟩;refine⟨_,rfl,fun hb=>⟨x,hx,hb⟩,fun hd y hy=>?_,cK.cz dx⟩;rw[hx]at hy;injection hy with hy;subst hy;exact hd
 ·have mz:¬(n:Int)<l.length:=aW hc;have:=(aZ.1 hx).1;omega
structure Tk where
 k:Int
 t:aJ
 n:Int
 a:Int
deriving DecidableEq
def Tk.v(x:Tk):az:=aj #[O ae x.k,ah (T x.t),O ae x.n,O ae x.a]
def JF:Rp Tk:=fun _ _ x cs=>cs=[O ae x.k,ah (T x.t),O ae x.n,O ae x.a]
theorem ju:JF.Ok where
 keep h _:=h
 inHeap h:=h
 mono h _:=h
 one:=by
  rintro w F x cs h v hv;unfold JF at h;subst h;simp only[aR,bf,bU]at hv;rcases hv with rfl | rfl | rfl | rfl<;>rfl
abbrev mD(B:Nat)(w:ay)(s:Sl)(xs:List Tk):Prop:=Own JF 4 194 B w (fun _=>True) s xs
theorem mD.of{B:Nat}{w:ay}{F:aL}{s:Sl}{xs:List Tk}(h:Own JF 4 194 B w F s xs):mD B w s xs:=h.mono ju fun _ _=>trivial
theorem mD.sl{B:Nat}{w:ay}{s:Sl}{xs:List Tk}(h:mD B w s xs):aD JF 4 w (fun k=>B<=k/\s.a=some ⟨k,0,none⟩) s xs:=O9 ju (fun _ _ _ _ _ h=>h) h
theorem mD.flat{B:Nat}{w:ay}{s:Sl}{xs:List Tk}(h:mD B w s xs):Own JF 4 194 B w (fun _=>False) s xs:=by
 rcases h with h | ⟨g,css,tail,a1,a2,a4,a5,a6,a7,a9,a8⟩
 ·exact .inl h
 ·exact .inr ⟨g,css,tail,a1,a2,a4,a5,a6,a7,a9,gp.imp (fun _ _ h=>h) a8⟩
theorem mD.keep{B:Nat}{w w':ay}{s:Sl}{xs:List Tk}(h:mD B w s xs)(hk:∀k,B<=k/\s.a=some ⟨k,0,none⟩->k<w.heap.size->w'.heap[k]? =w.heap[k]?):mD B w' s xs:=
 mD.of (h.flat.keep ju fun k hF bX=>hk k (hF.elim False.elim id) bX)
theorem mD.only{B:Nat}{w w':ay}{s:Sl}{xs:List Tk}(h:mD B w s xs)(hO:aA [] w w'):mD B w' s xs:=h.keep fun k _ bX=>hO.block k bX (by simp)
theorem mD.p{B:Nat}{w w':ay}{s:Sl}{xs:List Tk}{D:aL}(h:mD B w s xs)(hO:aF D w w')(hD:∀k,B<=k->s.a=some ⟨k,0,none⟩->¬D k):mD B w' s xs:=h.keep fun k hk bX=>hO.block k bX (hD k hk.1 hk.2)
theorem XQ{w:ay}{B:Nat}{s:Sl}{xs:List Tk}(t:Tk)(hs:mD B w s xs)(hB:B<=w.heap.size)(hm:(xs.length+1)*40<=140737488355328):
  ∃y w1,(aw 177 1 #[(0,t.v)]).run au w=.ok (Sl.v y) w1/\aA [] w w1/\∃s' w2,(Builtin.append_ #[177,177] 177 #[Sl.v s,Sl.v y]).run au w1=.ok (Sl.v s') w2/\mD B w2 s' (xs++[t])/\aF (fun k=>B<=k/\s.a=some ⟨k,0,none⟩) w1 w2:=by
 obtain⟨y,w1,k1,k2,s',w2,k3,k4,⟨gs,k5,k6⟩,_⟩:=jj (P:=au) (t:=177) (ty:=177) (e:=194) (i:=Tryz.t194) (bytes:=40) (size:=4) (v:=t.v) (x:=t) (G:=fun _=>False) (by kernel_rfl) (by kernel_rfl) rfl rfl rfl rfl (by decide) (by decide) (by decide) ju hs hB rfl rfl (fun k hk _=>hk.elim) hm;exact⟨y,w1,k1,k2,s',w2,k3,mD.of k4,k5.p fun g hg=>.inl ⟨(k6 g hg).2.1,(k6 g hg).1⟩⟩
def rN:List (aJ):=[[97,102,116,101,114],[97,108,119,97,121,115],[99,104,97,114,116],[100,101,101,112],[101,109,105,116],[101,110,116,101,114],[104,105,115,116,111,114,121],[105,110],[105,110,105,116,105,97,108],[108,101,97,118,101],[111,110],[112,97,114,97,108,108,101,108],[114,97,105,115,101],[115,101,116],[115,116,97,116,101],[118,97,114]]
theorem JG(w:ay):aB au 151 #[] w fun e w'=>∃s:Sl,e=aq s.v/\Own kz 1 9 w.heap.size w' (fun _=>True) s rN/\aA [] w w':=by
 refine(acx (fun v w'=>∃s:Sl,v=s.v/\Own kz 1 9 w.heap.size w' (fun _=>True) s rN/\aA [] w w') w ?_).mono (by
  rintro e w' ⟨v,rfl,s,rfl,h⟩;exact⟨s,rfl,h⟩)
 obtain⟨s,w',h1,h2,h3⟩:=nP w rN (n:=16) rfl rfl (by decide) (by decide);exact⟨s,w',h1,s,rfl,h2,h3⟩
structure Cut (w:ay) (b:Nat) (l:aJ) (i:Nat) (rs:Sl) (acc:List Tk):Prop where
 blk:∃ws:Sl,aH w b 226 [ah (T l),O ae (i:Int),ws.v,rs.v]/\aD kz 1 w (fun k=>k<b) ws rN
 own:mD (b+1) w rs acc
 er:Er w
 gb:4<b
 il:i<=l.length
 ll:l.length<=16384
theorem Cut.lt{w:ay}{b:Nat}{l:aJ}{i:Nat}{rs:Sl}{acc:List Tk}(h:Cut w b l i rs acc):b<w.heap.size:=by
 obtain⟨ws,h1,_⟩:=h.blk;exact h1.lt
theorem Cut.only{w w':ay}{b:Nat}{l:aJ}{i:Nat}{rs:Sl}{acc:List Tk}(h:Cut w b l i rs acc)(hO:aA [] w w'):Cut w' b l i rs acc:=by
 obtain⟨ws,h1,h2⟩:=h.blk;exact⟨⟨ws,(hO.block b h1.lt (by simp)).trans h1,SliceF.only dD (by decide) h2 hO (by simp)⟩,h.own.only hO,h.er.only hO,h.gb,h.il,h.ll⟩
theorem Cut.move{w w':ay}{b:Nat}{l:aJ}{i j:Nat}{rs:Sl}{acc:List Tk}(h:Cut w b l i rs acc)(hO:aA [b] w w')(hj:j<=l.length)(hB:∀ws:Sl,aH w b 226 [ah (T l),O ae (i:Int),ws.v,rs.v]->aH w' b 226 [ah (T l),O ae (j:Int),ws.v,rs.v]):Cut w' b l j rs acc:=by
 obtain⟨ws,h1,h2⟩:=h.blk;exact⟨⟨ws,hB ws h1,SliceF.only dD (by decide) h2 hO (by intro k hk _;simp only[aO];omega)⟩,h.own.keep fun k hk bX=>hO.block k bX (by simp only[aO];omega),h.er.keep fun bX=>hO.block _ bX (by simp only[aO];have:=h.gb;omega),h.gb,hj,h.ll⟩
theorem JH{w:ay}{b:Nat}{l:aJ}{i:Nat}{rs:Sl}{acc:List Tk}(h:Cut w b l i rs acc)(k:Int)(t:aJ)(nn a0:Int)(n:Nat)(hn:i+n<=l.length)(ha:acc.length<=16384):
  aB au 155 #[ai (some ⟨b,0,none⟩),aj #[O ae k,ah (T t),O ae nn,O ae a0],O ae (n:Int)] w fun e w'=>e=aq (ak #[])/\aF (fun k=>b<=k) w w'/\∃U1,Cut w' b l (i+n) U1 (acc++[⟨k,t,nn,i⟩]):=by
 refine ret (acO _ _ _ _ _ _ _ _ ?_);intro k0 w0 gU fi cK;have Ck:=h.lt;have SC:=h.ll;have h0:=h.only cK;obtain⟨ws,Av,hw0⟩:=h0.blk;refine⟨i,Blk.dZ Av 1 rfl,fun w1 cF=>?_⟩;have zb0:=Av.lt;have tB:aH w1 b 226 _:=(cF.block b zb0 (by simp only[aO];omega)).trans Av;have ho1:mD (b+1) w1 rs acc:=h0.own.keep fun q hq bX=>by
  refine cF.block q bX ?_;simp only[aO];rintro rfl;have:=(h.own.blk hq.2).2;dsimp only at this;omega
 have z1:=cF.size;obtain⟨y,w2,c1,c2,s',w3,c3,c4,c5⟩:=XQ ⟨k,t,nn,i⟩ ho1 (by omega) (bh (jg 40 (show acc.length+1<=16385 by omega)) (by decide));have z2:=c2.size;have z3:=c5.size;have aln:∀q,rs.a=some ⟨q,0,none⟩->q≠k0:=fun q hq=>by
  have:=(h.own.blk hq).2;dsimp only at this;omega
 refine⟨fun q=>q=b,rfl,rs,Blk.dZ tB 3 rfl,y,w2,c1,c2.same (by simp;omega),bS.only c2,s',w3,c3,?_,?_,?_⟩
 ·exact c5.same (by intro x hx;simp only[aO]at hx;subst hx;exact⟨by omega,fun e=>aln _ e.2 rfl⟩)
 ·intro q hq bX;exact c5.block q bX (by omega)
 have hb3:aH w3 b 226 [ah (T l),O ae (i:Int),ws.v,rs.v]:=(c5.block b (by omega) (by omega)).trans ((c2.block b (by omega) (by simp)).trans tB);refine⟨b,3,_,226,by rw[fV],hb3,by simp,by omega,fun w4 dP U2=>?_⟩;have U2:aH w4 b 226 [ah (T l),O ae (i:Int),ws.v,s'.v]:=U2;refine⟨i,Blk.dZ U2 1 rfl,b,1,_,226,by rw[Bk,fV],U2,by simp,by omega,fun w5 eE LD=>⟨rfl,?_,s',?_⟩⟩
 ·have e1:aF (fun k=>b<=k) w w1:=cK.p0.trans (cF.p (F:=fun q=>q=k0) fun b hb=>.inl (by simpa using hb)) fun q hq=>by omega
  have e2:aF (fun k=>b<=k) w w3:=(e1.cz c2).trans c5 fun q hq=>.inl (by omega);have e3:aF (fun k=>b<=k) w w4:=e2.trans (dP.p (F:=fun q=>q=b) fun b hb=>.inl (by simpa using hb)) fun q hq=>.inl (by omega);exact e3.trans (eE.p (F:=fun q=>q=b) fun b hb=>.inl (by simpa using hb)) fun q hq=>.inl (by omega)
 ·have z4:=dP.size;have LD:aH w5 b 226 [ah (T l),O ae (IntKind.i64.wrap ((i:Int)+n)),ws.v,s'.v]:=LD;rw[gD (by omega) (by omega)]at LD;have up:aF (fun k=>b<=k) w w5:=by
   have e1:aF (fun k=>b<=k) w w1:=cK.p0.trans (cF.p (F:=fun q=>q=k0) fun b hb=>.inl (by simpa using hb)) fun q hq=>by omega
   have e2:aF (fun k=>b<=k) w w3:=(e1.cz c2).trans c5 fun q hq=>.inl (by omega);have e3:aF (fun k=>b<=k) w w4:=e2.trans (dP.p (F:=fun q=>q=b) fun b hb=>.inl (by simpa using hb)) fun q hq=>.inl (by omega);exact e3.trans (eE.p (F:=fun q=>q=b) fun b hb=>.inl (by simpa using hb)) fun q hq=>.inl (by omega)
  have hgb:=h.gb;obtain⟨Na,kc,hw'⟩:=h.blk;have hwe:Na=ws:=by
   have:aH w0 b 226 [ah (T l),O ae (i:Int),Na.v,rs.v]:=(cK.block b Ck (by simp)).trans kc;unfold aH at this Av;rw[this]at Av;simp[Sl.v]at Av;cases ws;cases Na;simp_all
  subst hwe;refine⟨⟨Na,LD,SliceF.mw dD (by decide) hw' up fun q hq _ hd=>by omega⟩,?_,h.er.keep fun bX=>up.block _ bX (by omega),hgb,hn,SC⟩;have e4:mD (b+1) w4 s' _:=c4.keep fun q hq bX=>dP.block q bX (by simp only[aO];omega);exact e4.keep fun q hq bX=>eE.block q bX (by simp only[aO];omega)
abbrev Tq:=Int×aJ×Int×Nat
def tK(m:aJ):Except Int Tq:=
 if 24<(m.takeWhile iB).length then .error 2 else .ok (if rN.contains (m.takeWhile iB)then 2 else 1,m.takeWhile iB,0,(m.takeWhile iB).length)
def zl(m:aJ):Except Int Tq:=
 if(gV m).2.2≠0 then .error (gV m).2.2 else if(gV m).2.1<(m.takeWhile iB).length then .error 4 else .ok (3,[],(gV m).1,(gV m).2.1)
def C9:aJ:=[123,125,40,41,91,93,59,44,61,43,45,42,47,37,60,62,33]
def JI(m:aJ):Bool:=match m with
 | c::d::_=>(d==61&&[60,62,61,33].contains c)||(d==c&&[38,124].contains c)||(c==45&&d==62)
 | _=>false
def mT(m:aJ):Nat:=if JI m then 2 else match m with
 | c::_=>if C9.contains c then 1 else 0
 | []=>0
def tL(m:aJ):Except Int Tq:=if mT m=0 then .error 4 else .ok (4,m.take (mT m),0,mT m)
def uU(m:aJ):Except Int Tq:=match m with
 | []=>.error 4
 | c::_=>if qF c then tK m else if ff c then zl m else tL m
def Nu(w':ay)(b:Nat)(l:aJ)(i:Nat)(acc:List Tk)(r:Except Int Tq)(v:az):Prop:=match r with
 | .error e=>v=O ae e/\∃rs,Cut w' b l i rs acc
 | .ok q=>v=O ae 0/\∃rs,Cut w' b l (i+q.2.2.2) rs (acc++[⟨q.1,q.2.1,q.2.2.1,i⟩])
theorem sS{p:UInt8->Bool}{l:aJ}:(l.takeWhile p).length<=l.length:=by
 rw[qG,dd];exact Nat.min_le_right _ _
theorem XR{w:ay}{b:Nat}{l:aJ}{i:Nat}{rs:Sl}{acc:List Tk}(h:Cut w b l i rs acc)(ha:acc.length<=16384):
  aB au 193 #[ai (some ⟨b,0,none⟩)] w fun e w'=>∃v,e=aq v/\aF (fun k=>b<=k) w w'/\Nu w' b l i acc (tK (l.drop i)) v:=by
 refine acJ ⟨b,0,none⟩ (fun v w'=>aF (fun k=>b<=k) w w'/\Nu w' b l i acc (tK (l.drop i)) v) w ?_;obtain⟨ws,hb,hw⟩:=h.blk;have SC:=h.ll;refine(O8 hb h.il (by omega)).mono ?_;rintro _ w0 ⟨rfl,cK⟩;have hwl:((l.drop i).takeWhile iB).length<=l.length-i:=by
  have:=sS (p:=iB) (l:=l.drop i);rwa[cG]at this
 have Hh:=h.il;refine⟨_,rfl,fun hc=>⟨cK.p0,?_⟩,fun hc=>?_⟩
 ·rw[dH]at hc;rw[tK,if_pos (by have:=aP hc;omega)];exact⟨rfl,rs,h.only cK⟩
 rw[dH]at hc;have hc:¬24<((l.drop i).takeWhile iB).length:=by have:=aW hc;omega
 rw[tK,if_neg hc];generalize hm:(l.drop i).takeWhile iB=m at*
 have h0:=h.only cK;obtain⟨Na,kc,hw'⟩:=h0.blk;refine⟨fun k w'=>k=(if rN.contains m then 2 else 1)/\aA [] w w',?_,Na,Blk.dZ kc 2 rfl,(rM hw' m).mono ?_⟩
 ·rintro _ w1 ⟨rfl,cF⟩;refine(ret (VO (T m) (fun v w'=>v=ah (T m)/\aA [] w1 w') w1 ?_)).mono ?_
  ·refine(Tryz.stringslite_Clone (T m) w1 (by rw[dH];omega)).mono ?_;rintro _ w2 ⟨rfl,hw⟩;exact⟨_,rfl,rfl,Only.oa hw⟩
  rintro _ w2 ⟨rfl,dh⟩;rw[dH];refine⟨_,rfl,(JH (h.only (cF.cz dh)) _ m 0 0 m.length (by omega) ha).mono ?_⟩;rintro _ w3 ⟨rfl,dx,U1,hC⟩;exact⟨rfl,(cF.cz dh).pd dx,rfl,U1,hC⟩
 ·rintro _ w4 ⟨rfl,dP⟩;refine⟨_,rfl,fun hb=>⟨by rw[if_pos hb],cK.cz dP⟩,fun hb=>⟨by rw[hb];rfl,cK.cz dP⟩⟩
theorem Pc{w:ay}{b:Nat}{l:aJ}{i:Nat}{rs:Sl}{acc:List Tk}(h:Cut w b l i rs acc)(ha:acc.length<=16384):
  aB au 195 #[ai (some ⟨b,0,none⟩)] w fun e w'=>∃v,e=aq v/\aF (fun k=>b<=k) w w'/\Nu w' b l i acc (zl (l.drop i)) v:=by
 refine acP ⟨b,0,none⟩ (fun v w'=>aF (fun k=>b<=k) w w'/\Nu w' b l i acc (zl (l.drop i)) v) w ?_;obtain⟨ws,hb,hw⟩:=h.blk;have SC:=h.ll;have Hh:=h.il;refine(zi hb h.il).mono ?_;rintro _ w0 ⟨rfl,cK⟩;have xP:(l.drop i).length=l.length-i:=cG;refine⟨_,rfl,(Pb (h.er.only cK) (by omega)).mono ?_⟩;rintro _ w1 ⟨rfl,cF⟩;have jp:=cK.cz cF;refine⟨_,_,_,rfl,fun he=>⟨jp.p0,?_⟩,fun he=>?_⟩
 ·rw[zl,if_pos (by simpa using he)];exact⟨rfl,rs,h.only jp⟩
 have he:¬(gV (l.drop i)).2.2≠0:=by simpa using he
 have hk:(gV (l.drop i)).2.1<=(l.drop i).length:=by
  have:=sS (p:=ff) (l:=l.drop i);unfold gV;split
  ·exact bA _
  ·split
   ·exact bA _
   ·split
    ·exact this
    ·exact bA _
 obtain⟨Na,kc,hw'⟩:=(h.only jp).blk;refine(O8 kc h.il (by omega)).mono ?_;rintro _ w2 ⟨rfl,dh⟩;have pf:=jp.cz dh;refine⟨_,rfl,?_⟩;dsimp only;rw[dH];refine⟨fun hc=>⟨pf.p0,?_⟩,fun hc=>?_⟩
 ·rw[zl,if_neg he,if_pos (by have:=aP hc;omega)];exact⟨rfl,rs,h.only pf⟩
 ·rw[zl,if_neg he,if_neg (by have:=aW hc;omega)];refine(JH (h.only pf) 3 [] _ 0 (gV (l.drop i)).2.1 (by omega) ha).mono ?_;rintro _ w3 ⟨rfl,dx,U1,hC⟩;exact⟨rfl,pf.pd dx,rfl,U1,hC⟩
end Go.Proofs.YtbkjcdocjfknfaaGreatDoor.Con
