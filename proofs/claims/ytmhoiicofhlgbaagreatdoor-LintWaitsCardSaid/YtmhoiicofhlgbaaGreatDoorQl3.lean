import Derived.Test.YtmhoiicofhlgbaaGreatDoorQl2
set_option linter.unusedSectionVars false
namespace Go.Proofs.YtmhoiicofhlgbaaGreatDoor.Vc
open Go Go.RowKit Go.Kt Go.Kt.V
set_option linter.unusedVariables false
set_option maxRecDepth 100000
set_option maxHeartbeats 40000000
def Ry (s:ByteArray) (R:Value->World->Prop) (w:World):Prop:=
 ∀k0 k1:Nat,∀w0:World,w.heap.size<=k0->k0<w0.heap.size->w.heap.size<=k1->k1<w0.heap.size->Only [] w w0->Calls Tryz.prog 72 #[.string s] w0 fun e0 w1=>∃l0:Sl,∃i0 i1:Int,e0=(.returned (.tuple #[l0.v,.agg #[.int .i64 i0,.int .i64 i1]]))/\
  aD [k0,k1] w0 w1/\
  ((i0 !=0)=true->∀k2:Nat,∀w2:World,w1.heap.size<=k2->k2<w2.heap.size->Only [] w1 w2->k0≠k1->k0≠k2->k1≠k2->∃J0:Nat->Prop,J0 k2/\
   vm J0 k0/\
   vm J0 k1/\
   ∀w3:World,Only [k1,k0] w2 w3->R (.tuple #[.agg #[Sl.nil.v,.int .i64 0,.string (ByteArray.mk #[]),.string (ByteArray.mk #[]),.string (ByteArray.mk #[]),Sl.nil.v,Sl.nil.v,Sl.nil.v,Sl.nil.v,.int .i64 0],.agg #[.int .i64 i0,.int .i64 i1]]) w3)/\
  ((i0 !=0)=false->∀k3 k4 k5:Nat,∀w4:World,w1.heap.size<=k3->k3<w4.heap.size->w1.heap.size<=k4->k4<w4.heap.size->w1.heap.size<=k5->k5<w4.heap.size->Only [] w1 w4->∃l1:Sl,∃w5:World,((Instr.buildSlice 52 1 #[.mk 0 (.string (ByteArray.mk #[99,104,97,114,116]))]).run Tryz.prog w4)=(.ok l1.v w5)/\
  aD [k0,k1,k3,k4,k5] w4 w5/\
  (Blk w5 k4 133 [l0.v,.int .i64 0,.int .i64 0,.int .i64 0,.int .i64 16,.int .i64 64,.int .i64 12,.int .i64 200,.int .i64 400]->k0≠k4->k1≠k4->k3≠k4->k5≠k4->Calls Tryz.prog 73 #[.pointer (some ⟨k4,0,none⟩),l1.v] w5 fun e1 w6=>e1=(.returned (.tuple #[]))/\
   aD [k0,k1,k3,k5] w5 w6/\
   ∃l2:Sl,∃i2 i3 i4 i5 i6 i7 i8 i9:Int,Blk w6 k4 133 [l2.v,.int .i64 i2,.int .i64 i3,.int .i64 i4,.int .i64 i5,.int .i64 i6,.int .i64 i7,.int .i64 i8,.int .i64 i9]/\
   Calls Tryz.prog 74 #[.pointer (some ⟨k4,0,none⟩),.int .i64 1] w6 fun e2 w7=>∃i10:Int,∃s0 s1 s2:ByteArray,∃l3 l4 l5 l6:Sl,∃i11:Int,e2=(.returned (.agg #[.int .i64 i10,.string s0,.string s1,.string s2,l3.v,l4.v,l5.v,l6.v,.int .i64 i11]))/\
    aD [k0,k1,k3,k5] w6 w7/\
    ∃l7:Sl,∃i12 i13 i14 i15 i16 i17 i18 i19:Int,Blk w7 k4 133 [l7.v,.int .i64 i12,.int .i64 i13,.int .i64 i14,.int .i64 i15,.int .i64 i16,.int .i64 i17,.int .i64 i18,.int .i64 i19]/\
    ∀w8:World,Only [k5] w7 w8->Blk w8 k4 133 [l7.v,.int .i64 i12,.int .i64 i13,.int .i64 i14,.int .i64 i15,.int .i64 i16,.int .i64 i17,.int .i64 i18,.int .i64 i19]->∃l8:Sl,∃w9:World,((Instr.buildSlice 52 1 #[.mk 0 (.string (ByteArray.mk #[123]))]).run Tryz.prog w8)=(.ok l8.v w9)/\
    aD [k0,k1,k3,k4,k5] w8 w9/\
    Calls Tryz.prog 73 #[.pointer (some ⟨k4,0,none⟩),l8.v] w9 fun e3 cI=>e3=(.returned (.tuple #[]))/\
     aD [k0,k1,k3,k5] w9 cI/\
     ∃l9:Sl,∃i20 i21 i22 i23 i24 i25 i26 i27:Int,Blk cI k4 133 [l9.v,.int .i64 i20,.int .i64 i21,.int .i64 i22,.int .i64 i23,.int .i64 i24,.int .i64 i25,.int .i64 i26,.int .i64 i27]/\
     ∃J1:Nat->Sl->Int->ByteArray->ByteArray->ByteArray->Sl->Sl->Sl->Sl->Int->Sl->Int->Int->Int->Int->Int->Int->Int->Int->World->Prop,∃k6:Nat,J1 k6 Sl.nil i10 s0 s1 s2 l3 l4 l5 l6 i11 l9 i20 i21 i22 i23 i24 i25 i26 i27 cI/\
     ∀k7:Nat,∀l10:Sl,∀i28:Int,∀s3 s4 s5:ByteArray,∀qW rS wi yd:Sl,∀i29:Int,∀D2:Sl,∀i30 i31 i32 i33 i34 i35 i36 i37:Int,∀cS:World,J1 k7 l10 i28 s3 s4 s5 qW rS wi yd i29 D2 i30 i31 i32 i33 i34 i35 i36 i37 cS->∃OH:Sl,∃dK:World,((Instr.buildSlice 52 1 #[.mk 0 (.string (ByteArray.mk #[118,97,114]))]).run Tryz.prog cS)=(.ok OH.v dK)/\
     aD [k0,k1,k3,k4,k5] cS dK/\
     Calls Tryz.prog 75 #[.pointer (some ⟨k4,0,none⟩),OH.v] dK fun e4 dX=>∃i38:Int,e4=(.returned (.int .i64 i38))/\
      aD [k0,k1,k3,k5] dK dX/\
      ∃OI:Sl,∃i39 i40 i41 i42 i43 i44 i45 i46:Int,Blk dX k4 133 [OI.v,.int .i64 i39,.int .i64 i40,.int .i64 i41,.int .i64 i42,.int .i64 i43,.int .i64 i44,.int .i64 i45,.int .i64 i46]/\
      ((decide (i38>0))=true->∀eK:World,Only [] dX eK->Blk eK k4 133 [OI.v,.int .i64 i39,.int .i64 i40,.int .i64 i41,.int .i64 i42,.int .i64 i43,.int .i64 i44,.int .i64 i45,.int .i64 i46]->∃J2:Nat->Prop,J2 k5/\
       Calls Tryz.prog 76 #[.pointer (some ⟨k4,0,none⟩)] eK fun e5 gn=>∃s6:ByteArray,∃i47 i48:Int,e5=(.returned (.agg #[.string s6,.int .i64 i47,.int .i64 i48]))/\
        aD [k0,k1,k3,k5] eK gn/\
        ∃SU:Sl,∃i49 i50 i51 i52 i53 i54 i55 i56:Int,Blk gn k4 133 [SU.v,.int .i64 i49,.int .i64 i50,.int .i64 i51,.int .i64 i52,.int .i64 i53,.int .i64 i54,.int .i64 i55,.int .i64 i56]/\
        be J2 eK gn/\
        ∃Vk:Sl,∃gR:World,((Instr.buildSlice 22 1 #[.mk 0 (.agg #[.string s6,.int .i64 i47,.int .i64 i48])]).run Tryz.prog gn)=(.ok Vk.v gR)/\
        aD [k0,k1,k3,k4,k5] gn gR/\
        be J2 gn gR/\
        ∃QZ:Sl,∃fR:World,((Builtin.append_ #[22,22] 22 #[l10.v,Vk.v]).run Tryz.prog gR)=(.ok QZ.v fR)/\
        aD [k0,k1,k3,k4,k5] gR fR/\
        be J2 gR fR/\
        ∀jH:World,Only [k5] fR jH->Blk jH k4 133 [SU.v,.int .i64 i49,.int .i64 i50,.int .i64 i51,.int .i64 i52,.int .i64 i53,.int .i64 i54,.int .i64 i55,.int .i64 i56]->∃k8:Nat,k8<k7/\
        J1 k8 QZ i28 s3 s4 s5 qW rS wi yd i29 SU i49 i50 i51 i52 i53 i54 i55 i56 jH)/\
      ((decide (i38>0))=false->Blk dX k5 29 [l10.v,.int .i64 i28,.string s3,.string s4,.string s5,qW.v,rS.v,wi.v,yd.v,.int .i64 i29]->k0≠k5->k1≠k5->k3≠k5->Calls Tryz.prog 77 #[.pointer (some ⟨k4,0,none⟩),.pointer (some ⟨k5,1,none⟩)] dX fun e6 jK=>e6=(.returned (.tuple #[]))/\
       aD [k0,k1,k3] dX jK/\
       ∃Vl:Sl,∃i57 i58 i59 i60 i61 i62 i63 i64:Int,Blk jK k4 133 [Vl.v,.int .i64 i57,.int .i64 i58,.int .i64 i59,.int .i64 i60,.int .i64 i61,.int .i64 i62,.int .i64 i63,.int .i64 i64]/\
       ∃l22:Sl,∃i65:Int,∃s7 s8 s9:ByteArray,∃l23 l24 l25 l26:Sl,∃i66:Int,Blk jK k5 29 [l22.v,.int .i64 i65,.string s7,.string s8,.string s9,l23.v,l24.v,l25.v,l26.v,.int .i64 i66]/\
       ∃J3:Sl->Int->ByteArray->ByteArray->ByteArray->Sl->Sl->Sl->Sl->Int->Sl->Int->Int->Int->Int->Int->Int->Int->Int->World->Prop,(∀l27:Sl,∀i67:Int,∀FP FQ NL:ByteArray,∀l28 l29 l30 l31:Sl,∀i68:Int,∀l32:Sl,∀i69 i70 i71 i72 i73 i74 i75 i76:Int,∀jl:World,J3 l27 i67 FP FQ NL l28 l29 l30 l31 i68 l32 i69 i70 i71 i72 i73 i74 i75 i76 jl->Calls Tryz.prog 78 #[.pointer (some ⟨k4,0,none⟩)] jl fun e7 lZ=>∃b0:Bool,e7=(.returned (.bool b0))/\
        aD [k0,k1,k3] jl lZ/\
        ∃l33:Sl,∃i77 i78 i79 i80 i81 i82 i83 i84:Int,Blk lZ k4 133 [l33.v,.int .i64 i77,.int .i64 i78,.int .i64 i79,.int .i64 i80,.int .i64 i81,.int .i64 i82,.int .i64 i83,.int .i64 i84]/\
        ∃l34:Sl,∃i85:Int,∃SW SX OJ:ByteArray,∃l35 l36 l37 l38:Sl,∃i86:Int,Blk lZ k5 29 [l34.v,.int .i64 i85,.string SW,.string SX,.string OJ,l35.v,l36.v,l37.v,l38.v,.int .i64 i86]/\
        ((!b0)=true->∀rq:World,Only [] lZ rq->Blk rq k4 133 [l33.v,.int .i64 i77,.int .i64 i78,.int .i64 i79,.int .i64 i80,.int .i64 i81,.int .i64 i82,.int .i64 i83,.int .i64 i84]->Blk rq k5 29 [l34.v,.int .i64 i85,.string SW,.string SX,.string OJ,l35.v,l36.v,l37.v,l38.v,.int .i64 i86]->k0≠k1->k0≠k3->k0≠k4->k0≠k5->k1≠k3->k1≠k4->k1≠k5->k3≠k4->k3≠k5->k4≠k5->∃J4:Nat->Prop,J4 k4/\
         vm J4 k0/\
         vm J4 k1/\
         ∀rr:World,Only [k1,k0] rq rr->Blk rr k4 133 [l33.v,.int .i64 i77,.int .i64 i78,.int .i64 i79,.int .i64 i80,.int .i64 i81,.int .i64 i82,.int .i64 i83,.int .i64 i84]->Blk rr k5 29 [l34.v,.int .i64 i85,.string SW,.string SX,.string OJ,l35.v,l36.v,l37.v,l38.v,.int .i64 i86]->R (.tuple #[.agg #[Sl.nil.v,.int .i64 0,.string (ByteArray.mk #[]),.string (ByteArray.mk #[]),.string (ByteArray.mk #[]),Sl.nil.v,Sl.nil.v,Sl.nil.v,Sl.nil.v,.int .i64 0],.agg #[.int .i64 i78,.int .i64 i79]]) rr)/\
        ((!b0)=false->∀qe:World,Only [k1,k0] lZ qe->Blk qe k4 133 [l33.v,.int .i64 i77,.int .i64 i78,.int .i64 i79,.int .i64 i80,.int .i64 i81,.int .i64 i82,.int .i64 i83,.int .i64 i84]->Blk qe k5 29 [l34.v,.int .i64 i85,.string SW,.string SX,.string OJ,l35.v,l36.v,l37.v,l38.v,.int .i64 i86]->R (.tuple #[.agg #[l34.v,.int .i64 i85,.string SW,.string SX,.string OJ,l35.v,l36.v,l37.v,l38.v,.int .i64 i86],.agg #[.int .i64 0,.int .i64 0]]) qe))/\
       ∃J5:Bool->Sl->Int->ByteArray->ByteArray->ByteArray->Sl->Sl->Sl->Sl->Int->Sl->Int->Int->Int->Int->Int->Int->Int->Int->World->Prop,(∀b1:Bool,∀l39:Sl,∀i87:Int,∀Q0 Vm s18:ByteArray,∀l40 l41 l42 l43:Sl,∀i88:Int,∀l44:Sl,∀i89 i90 i91 i92 i93 i94 i95 i96:Int,∀mG:World,J5 b1 l39 i87 Q0 Vm s18 l40 l41 l42 l43 i88 l44 i89 i90 i91 i92 i93 i94 i95 i96 mG->(b1=true->Calls Tryz.prog 79 #[.pointer (some ⟨k4,0,none⟩)] mG fun e8 oC=>e8=(.returned (.tuple #[]))/\
         aD [k0,k1,k3] mG oC/\
         ∃l45:Sl,∃i97 i98 i99 i100 i101 i102 i103 i104:Int,Blk oC k4 133 [l45.v,.int .i64 i97,.int .i64 i98,.int .i64 i99,.int .i64 i100,.int .i64 i101,.int .i64 i102,.int .i64 i103,.int .i64 i104]/\
         ∃l46:Sl,∃i105:Int,∃s19 s20 WV:ByteArray,∃l47 l48 l49 l50:Sl,∃i106:Int,Blk oC k5 29 [l46.v,.int .i64 i105,.string s19,.string s20,.string WV,l47.v,l48.v,l49.v,l50.v,.int .i64 i106]/\
         J3 l46 i105 s19 s20 WV l47 l48 l49 l50 i106 l45 i97 i98 i99 i100 i101 i102 i103 i104 oC)/\
        (b1=false->J3 l39 i87 Q0 Vm s18 l40 l41 l42 l43 i88 l44 i89 i90 i91 i92 i93 i94 i95 i96 mG))/\
       ∀qf:World,Only [] jK qf->Blk qf k4 133 [Vl.v,.int .i64 i57,.int .i64 i58,.int .i64 i59,.int .i64 i60,.int .i64 i61,.int .i64 i62,.int .i64 i63,.int .i64 i64]->Blk qf k5 29 [l22.v,.int .i64 i65,.string s7,.string s8,.string s9,l23.v,l24.v,l25.v,l26.v,.int .i64 i66]->Calls Tryz.prog 78 #[.pointer (some ⟨k4,0,none⟩)] qf fun e9 vd=>∃b2:Bool,e9=(.returned (.bool b2))/\
        aD [k0,k1,k3] qf vd/\
        ∃l51:Sl,∃i107 i108 i109 i110 i111 i112 i113 i114:Int,Blk vd k4 133 [l51.v,.int .i64 i107,.int .i64 i108,.int .i64 i109,.int .i64 i110,.int .i64 i111,.int .i64 i112,.int .i64 i113,.int .i64 i114]/\
        ∃l52:Sl,∃i115:Int,∃s22 WW s24:ByteArray,∃l53 l54 l55 l56:Sl,∃i116:Int,Blk vd k5 29 [l52.v,.int .i64 i115,.string s22,.string WW,.string s24,l53.v,l54.v,l55.v,l56.v,.int .i64 i116]/\
        (b2=true->∃p0:Addr,cD l51 i107 4 p0/\
         ∃i117:Int,aB vd (p0.add 0) [.int .i64 i117]/\
         J5 (i117 !=5) l52 i115 s22 WW s24 l53 l54 l55 l56 i116 l51 i107 i108 i109 i110 i111 i112 i113 i114 vd)/\
        (b2=false->J5 false l52 i115 s22 WW s24 l53 l54 l55 l56 i116 l51 i107 i108 i109 i110 i111 i112 i113 i114 vd))))
abbrev Cr (f:FuncId) (a:Array Value) (w:World) (R:Value->World->Prop):Prop:=Calls Tryz.prog f a w fun e w'=>∃v,e=.returned v/\R v w'
theorem fB {f:FuncId} {an:NK} {args:List SV} {R:Value->World->Prop} {w:World} {vs:Array Value} {vc:Prop} (h:vc) (hv:vs=(bq β0 args).toArray:=by kernel_rfl) (he:vc=Vfn Tryz.prog f an args R w:=by kernel_rfl):Cr f vs w R:=X8 Tryz.checked.mixed hv he h
theorem Ya (s:ByteArray) (R:Value->World->Prop) (w:World) (h:Ry s R w):Cr 34 #[.string s] w R:=
 fB (an:=.s .o (.s .o (.s (.s .o (.s (.s .o .o) .o)) (.s .o (.s .o (.s .o (.s .o (.s .o (.s (.j [2,3,5,6,7,22] [.b 7 [.sl,.int .i64,.str,.str,.str,.sl,.sl,.sl,.sl,.int .i64],.b 22 [.sl,.int .i64,.int .i64,.int .i64,.int .i64,.int .i64,.int .i64,.int .i64,.int .i64]] (.s (.s .o (.s .o .o)) .o) .o) (.s .o (.j [2,3,5,6,7,22] [.b 7 [.sl,.int .i64,.str,.str,.str,.sl,.sl,.sl,.sl,.int .i64],.b 22 [.sl,.int .i64,.int .i64,.int .i64,.int .i64,.int .i64,.int .i64,.int .i64,.int .i64]] (.s (.j [2,3,5,6,7,22] [.s 71 .bool,.b 7 [.sl,.int .i64,.str,.str,.str,.sl,.sl,.sl,.sl,.int .i64],.b 22 [.sl,.int .i64,.int .i64,.int .i64,.int .i64,.int .i64,.int .i64,.int .i64,.int .i64]] .o .o) (.s .o .o)) (.s (.s .o (.s (.s .o .o) .o)) (.s .o .o))))))))))))) (args:=[.str s]) h
def Yb (s:ByteArray) (R:Value->World->Prop) (w:World):Prop:=
 ((decide ((s.size:Int)>16384))=true->∀k0:Nat,∀w0:World,w.heap.size<=k0->k0<w0.heap.size->Only [] w w0->R (.tuple #[Sl.nil.v,.agg #[.int .i64 2,.int .i64 (-1)]]) w0)/\
 ((decide ((s.size:Int)>16384))=false->∀k1:Nat,∀w1:World,w.heap.size<=k1->k1<w1.heap.size->Only [] w w1->Calls Tryz.prog 133 #[] w1 fun e0 w2=>∃l0:Sl,e0=(.returned l0.v)/\
  aD [k1] w1 w2/\
  ∀k2:Nat,∀w3:World,w2.heap.size<=k2->k2<w3.heap.size->Only [] w2 w3->Blk w3 k2 198 [.string s,.int .i64 0,l0.v,Sl.nil.v]->Calls Tryz.prog 134 #[.pointer (some ⟨k2,0,none⟩)] w3 fun e1 w4=>e1=(.returned (.tuple #[]))/\
   aD [k1] w3 w4/\
   ∃s0:ByteArray,∃i0:Int,∃l1 l2:Sl,Blk w4 k2 198 [.string s0,.int .i64 i0,l1.v,l2.v]/\
   ∃J0:Nat->Int->Int->ByteArray->Int->Sl->Sl->World->Prop,∃k3:Nat,J0 k3 0 0 s0 i0 l1 l2 w4/\
   ∀k4:Nat,∀i1 i2:Int,∀s1:ByteArray,∀i3:Int,∀l3 l4:Sl,∀w5:World,J0 k4 i1 i2 s1 i3 l3 l4 w5->Calls Tryz.prog 135 #[.pointer (some ⟨k2,0,none⟩)] w5 fun e2 w6=>∃b0:Bool,e2=(.returned (.bool b0))/\
    aD [k1] w5 w6/\
    ∃s2:ByteArray,∃i4:Int,∃l5 l6:Sl,Blk w6 k2 198 [.string s2,.int .i64 i4,l5.v,l6.v]/\
    ((!b0)=true->Calls Tryz.prog 136 #[.pointer (some ⟨k2,0,none⟩)] w6 fun e3 w7=>∃i5:Int,e3=(.returned (.int .i64 i5))/\
     aD [k1] w6 w7/\
     ∃s3:ByteArray,∃i6:Int,∃l7 l8:Sl,Blk w7 k2 198 [.string s3,.int .i64 i6,l7.v,l8.v]/\
     ((i5 !=0)=true->∀w8:World,Only [k1] w7 w8->Blk w8 k2 198 [.string s3,.int .i64 i6,l7.v,l8.v]->R (.tuple #[Sl.nil.v,.agg #[.int .i64 i5,.int .i64 i6]]) w8)/\
     ((i5 !=0)=false->Calls Tryz.prog 134 #[.pointer (some ⟨k2,0,none⟩)] w7 fun e4 w9=>e4=(.returned (.tuple #[]))/\
      aD [k1] w7 w9/\
      ∃s4:ByteArray,∃i7:Int,∃l9 l10:Sl,Blk w9 k2 198 [.string s4,.int .i64 i7,l9.v,l10.v]/\
      ∃k5:Nat,k5<k4/\
      J0 k5 i1 i2 s4 i7 l9 l10 w9))/\
    ((!b0)=false->Calls Tryz.prog 137 #[.pointer (some ⟨k2,0,none⟩),.agg #[.int .i64 5,.string (ByteArray.mk #[]),.int .i64 0,.int .i64 0],.int .i64 0] w6 fun e5 cI=>e5=(.returned (.tuple #[]))/\
     aD [k1] w6 cI/\
     ∃s5:ByteArray,∃i8:Int,∃qW rS:Sl,Blk cI k2 198 [.string s5,.int .i64 i8,qW.v,rS.v]/\
     ∀cS:World,Only [k1] cI cS->Blk cS k2 198 [.string s5,.int .i64 i8,qW.v,rS.v]->R (.tuple #[rS.v,.agg #[.int .i64 0,.int .i64 0]]) cS))
theorem aeO (s:ByteArray) (R:Value->World->Prop) (w:World) (h:Yb s R w):Cr 72 #[.string s] w R:=
 fB (an:=.s .o (.s (.s .o (.s (.s .o .o) .o)) (.s .o (.s (.s .o (.j [3,4,14] [.b 3 [.int .i64,.int .i64],.b 14 [.str,.int .i64,.sl,.sl]] (.s (.s .o (.s .o .o)) (.s (.s .o (.s .o (.s (.s .o .o) .o))) .o)) .o)) (.s .o (.s .o .o)))))) (args:=[.str s]) h
def Yc (R:Value->World->Prop) (w:World):Prop:=
 ∃l0:Sl,∃w0:World,((Instr.buildSlice 52 16 #[.mk 0 (.string (ByteArray.mk #[97,102,116,101,114])),.mk 1 (.string (ByteArray.mk #[97,108,119,97,121,115])),.mk 2 (.string (ByteArray.mk #[99,104,97,114,116])),.mk 3 (.string (ByteArray.mk #[100,101,101,112])),.mk 4 (.string (ByteArray.mk #[101,109,105,116])),.mk 5 (.string (ByteArray.mk #[101,110,116,101,114])),.mk 6 (.string (ByteArray.mk #[104,105,115,116,111,114,121])),.mk 7 (.string (ByteArray.mk #[105,110])),.mk 8 (.string (ByteArray.mk #[105,110,105,116,105,97,108])),.mk 9 (.string (ByteArray.mk #[108,101,97,118,101])),.mk 10 (.string (ByteArray.mk #[111,110])),.mk 11 (.string (ByteArray.mk #[112,97,114,97,108,108,101,108])),.mk 12 (.string (ByteArray.mk #[114,97,105,115,101])),.mk 13 (.string (ByteArray.mk #[115,101,116])),.mk 14 (.string (ByteArray.mk #[115,116,97,116,101])),.mk 15 (.string (ByteArray.mk #[118,97,114]))]).run Tryz.prog w)=(.ok l0.v w0)/\
 R l0.v w0
theorem aeP (R:Value->World->Prop) (w:World) (h:Yc R w):Cr 133 #[] w R:=
 fB (an:=.s .o (.s .o .o)) (args:=[]) h
def Yd (c:Addr) (R:Value->World->Prop) (w:World):Prop:=
 ∃J0:Nat->World->Prop,∃k0:Nat,J0 k0 w/\
 ∀k1:Nat,∀w0:World,J0 k1 w0->Calls Tryz.prog 135 #[.pointer (some c)] w0 fun e0 w1=>∃b0:Bool,e0=(.returned (.bool b0))/\
  ((!b0)=true->∃s0:ByteArray,aB w1 (c.add 0) [.string s0]/\
   ∃i0:Int,aB w1 (c.add 1) [.int .i64 i0]/\
   ∃c0:UInt8,(0<=i0/\
    (s0[Int.toNat i0]?)=(some c0))/\
   ∀w2:World,Only [] w1 w2->∃l0:Sl,∃w3:World,((Instr.buildSlice 68 4 #[.mk 0 (.int .u8 9),.mk 1 (.int .u8 10),.mk 2 (.int .u8 13),.mk 3 (.int .u8 32)]).run Tryz.prog w2)=(.ok l0.v w3)/\
   Calls Tryz.prog 200 #[.int .u8 (UInt8.toNat c0:Int),l0.v] w3 fun e1 w4=>∃b1:Bool,e1=(.returned (.bool b1))/\
    (b1=true->∃i1:Int,aB w4 (c.add 1) [.int .i64 i1]/\
     ∃k3 k4:Nat,∃z0:List Value,∃k5:Nat,(c.add 1)=⟨k3,k4,none⟩/\
     Blk w4 k3 k5 z0/\
     (k4+1)<=z0.length/\
     ∀w5:World,Only [k3] w4 w5->Blk w5 k3 k5 (bF z0 k4 [.int .i64 (IntKind.wrap .i64 (i1+1))])->∃k6:Nat,k6<k1/\
     J0 k6 w5)/\
    (b1=false->Calls Tryz.prog 201 #[.pointer (some c)] w4 fun e2 w6=>∃s2:ByteArray,e2=(.returned (.string s2))/\
     Calls Tryz.prog 147 #[.string s2,.string (ByteArray.mk #[47,47])] w6 fun e3 w7=>∃b2:Bool,e3=(.returned (.bool b2))/\
      (b2=true->Calls Tryz.prog 201 #[.pointer (some c)] w7 fun e4 w8=>∃s3:ByteArray,e4=(.returned (.string s3))/\
       Calls Tryz.prog 202 #[.string s3,.string (ByteArray.mk #[10])] w8 fun e5 w9=>∃s4 s5:ByteArray,∃b3:Bool,e5=(.returned (.tuple #[.string s4,.string s5,.bool b3]))/\
        ∃i2:Int,aB w9 (c.add 1) [.int .i64 i2]/\
        ∃k7 k8:Nat,∃z1:List Value,∃k9:Nat,(c.add 1)=⟨k7,k8,none⟩/\
        Blk w9 k7 k9 z1/\
        (k8+1)<=z1.length/\
        ∀cI:World,Only [k7] w9 cI->Blk cI k7 k9 (bF z1 k8 [.int .i64 (IntKind.wrap .i64 (i2+(s4.size:Int)))])->∃uE:Nat,uE<k1/\
        J0 uE cI)/\
      (b2=false->R (.tuple #[]) w7)))/\
  ((!b0)=false->R (.tuple #[]) w1)
theorem aeQ (c:Addr) (R:Value->World->Prop) (w:World) (h:Yd c R w):Cr 134 #[.pointer (some c)] w R:=
 fB (an:=.j [0] [] (.s (.s .o (.s .o .o)) (.s .o (.s .o (.s .o (.s .o (.s (.s .o .o) .o)))))) .o) (args:=[.ad c]) h
def Ye (c:Addr) (R:Value->World->Prop) (w:World):Prop:=
 ∃i0:Int,aB w (c.add 1) [.int .i64 i0]/\
 ∃s0:ByteArray,aB w (c.add 0) [.string s0]/\
 ∀w0:World,Only [] w w0->R (.bool (decide (i0>=(s0.size:Int)))) w0
theorem aeR (c:Addr) (R:Value->World->Prop) (w:World) (h:Ye c R w):Cr 135 #[.pointer (some c)] w R:=
 fB (an:=.s .o (.s .o .o)) (args:=[.ad c]) h
def Yf (c:Int) (of_:Sl) (R:Value->World->Prop) (w:World):Prop:=
 Calls Tryz.prog 249 #[of_.v,.int .u8 c] w fun e0 w0=>∃b0:Bool,e0=(.returned (.bool b0))/\
  R (.bool b0) w0
theorem aeS (c:Int) (of_:Sl) (R:Value->World->Prop) (w:World) (h:Yf c of_ R w):Cr 200 #[.int .u8 c,of_.v] w R:=
 fB (an:=.s .o (.s .o .o)) (args:=[.int .u8 c,.sl of_]) h
def Yg (s:Sl) (v1:Int) (R:Value->World->Prop) (w:World):Prop:=
 Calls Tryz.prog 284 #[s.v,.int .u8 v1] w fun e0 w0=>∃i0:Int,e0=(.returned (.int .i64 i0))/\
  R (.bool (decide (i0>=0))) w0
theorem aeT (s:Sl) (v1:Int) (R:Value->World->Prop) (w:World) (h:Yg s v1 R w):Cr 249 #[s.v,.int .u8 v1] w R:=
 fB (an:=.s .o (.s .o .o)) (args:=[.sl s,.int .u8 v1]) h
def Rz (s:Sl) (v1:Int) (R:Value->World->Prop) (w:World):Prop:=
 ∃J0:Nat->Int->World->Prop,∃k0:Nat,J0 k0 0 w/\
 ∀k1:Nat,∀i0:Int,∀w0:World,J0 k1 i0 w0->((decide (i0<(s.n:Int)))=true->∃p0:Addr,cD s i0 1 p0/\
  ∃i1:Int,aB w0 p0 [.int .u8 i1]/\
  ((v1==i1)=true->R (.int .i64 i0) w0)/\
  ((v1==i1)=false->∃k2:Nat,k2<k1/\
  J0 k2 (IntKind.wrap .i64 (i0+1)) w0))/\
 ((decide (i0<(s.n:Int)))=false->R (.int .i64 (-1)) w0)
theorem Yh (s:Sl) (v1:Int) (R:Value->World->Prop) (w:World) (h:Rz s v1 R w):Cr 284 #[s.v,.int .u8 v1] w R:=
 fB (an:=.s .o (.s (.s .o (.j [0,1,7] [.s 8 (.int .i64)] (.s .o (.s (.s .o .o) (.s (.s .o (.s .o (.s (.s .o .o) .o))) .o))) .o)) (.s .o .o))) (args:=[.sl s,.int .u8 v1]) h
def Yi (c:Addr) (R:Value->World->Prop) (w:World):Prop:=
 ∃s0:ByteArray,aB w (c.add 0) [.string s0]/\
 ∃i0:Int,aB w (c.add 1) [.int .i64 i0]/\
 ∃k0:Nat,(i0=(k0:Int)/\
  k0<=s0.size)/\
 ∀w0:World,Only [] w w0->R (.string (s0.extract k0 s0.size)) w0
theorem aeU (c:Addr) (R:Value->World->Prop) (w:World) (h:Yi c R w):Cr 201 #[.pointer (some c)] w R:=
 fB (an:=.s .o (.s .o .o)) (args:=[.ad c]) h
def RA (s gU:ByteArray) (R:Value->World->Prop) (w:World):Prop:=
 Calls Tryz.prog 214 #[.string s,.string gU] w fun e0 w0=>∃b0:Bool,e0=(.returned (.bool b0))/\
  R (.bool b0) w0
theorem Yj (s gU:ByteArray) (R:Value->World->Prop) (w:World) (h:RA s gU R w):Cr 147 #[.string s,.string gU] w R:=
 fB (an:=.s .o (.s .o .o)) (args:=[.str s,.str gU]) h
def Yk (s gU:ByteArray) (R:Value->World->Prop) (w:World):Prop:=
 ∃k0:Nat,((decide ((s.size:Int)>=(gU.size:Int)))=true->(gU.size:Int)=(k0:Int)/\
  k0<=s.size)/\
 R (.bool ((decide ((s.size:Int)>=(gU.size:Int)))&&(((s.extract 0 k0).toList)==gU.toList))) w
theorem aeV (s gU:ByteArray) (R:Value->World->Prop) (w:World) (h:Yk s gU R w):Cr 214 #[.string s,.string gU] w R:=
 fB (an:=.s .o (.s .o .o)) (args:=[.str s,.str gU]) h
def RB (s sep:ByteArray) (R:Value->World->Prop) (w:World):Prop:=
 Calls Tryz.prog 250 #[.string s,.string sep] w fun e0 w0=>∃s0 s1:ByteArray,∃b0:Bool,e0=(.returned (.tuple #[.string s0,.string s1,.bool b0]))/\
  R (.tuple #[.string s0,.string s1,.bool b0]) w0
theorem Yl (s sep:ByteArray) (R:Value->World->Prop) (w:World) (h:RB s sep R w):Cr 202 #[.string s,.string sep] w R:=
 fB (an:=.s .o (.s .o .o)) (args:=[.str s,.str sep]) h
def Ym (s sep:ByteArray) (R:Value->World->Prop) (w:World):Prop:=
 Calls Tryz.prog 228 #[.string s,.string sep] w fun e0 w0=>∃i0:Int,e0=(.returned (.int .i64 i0))/\
  ((decide (i0>=0))=true->∃k0:Nat,(i0=(k0:Int)/\
    k0<=s.size)/\
   ∃k1:Nat,((IntKind.wrap .i64 (i0+(sep.size:Int)))=(k1:Int)/\
    k1<=s.size)/\
   ∀w1:World,Only [] w0 w1->R (.tuple #[.string (s.extract 0 k0),.string (s.extract k1 s.size),.bool true]) w1)/\
  ((decide (i0>=0))=false->R (.tuple #[.string s,.string (ByteArray.mk #[]),.bool false]) w0)
theorem aeW (s sep:ByteArray) (R:Value->World->Prop) (w:World) (h:Ym s sep R w):Cr 250 #[.string s,.string sep] w R:=
 fB (an:=.s .o (.s (.s .o (.s .o (.s (.s .o .o) .o))) (.s .o .o))) (args:=[.str s,.str sep]) h
def Yn (c:Addr) (R:Value->World->Prop) (w:World):Prop:=
 ∃s0:ByteArray,aB w ((c.add 0).add 0) [.string s0]/\
 ∃i0:Int,aB w ((c.add 0).add 1) [.int .i64 i0]/\
 ∃c0:UInt8,(0<=i0/\
  (s0[Int.toNat i0]?)=(some c0))/\
 ∀w0:World,Only [] w w0->Calls Tryz.prog 152 #[.int .u8 (UInt8.toNat c0:Int)] w0 fun e0 w1=>∃b0:Bool,e0=(.returned (.bool b0))/\
  (b0=true->Calls Tryz.prog 203 #[.pointer (some c)] w1 fun e1 w2=>∃i1:Int,e1=(.returned (.int .i64 i1))/\
   R (.int .i64 i1) w2)/\
  (b0=false->Calls Tryz.prog 204 #[.int .u8 (UInt8.toNat c0:Int)] w1 fun e2 w3=>∃b1:Bool,e2=(.returned (.bool b1))/\
   (b1=true->Calls Tryz.prog 205 #[.pointer (some c)] w3 fun e3 w4=>∃i2:Int,e3=(.returned (.int .i64 i2))/\
    R (.int .i64 i2) w4)/\
   (b1=false->Calls Tryz.prog 206 #[.pointer (some c)] w3 fun e4 w5=>∃i3:Int,e4=(.returned (.int .i64 i3))/\
    R (.int .i64 i3) w5))
theorem aeX (c:Addr) (R:Value->World->Prop) (w:World) (h:Yn c R w):Cr 136 #[.pointer (some c)] w R:=
 fB (an:=.s .o (.s (.s .o (.s .o (.s (.s .o .o) (.s .o (.s (.s .o .o) .o))))) (.s .o .o))) (args:=[.ad c]) h
def Yo (c:Int) (R:Value->World->Prop) (w:World):Prop:=
 R (.bool (((decide (97<=(bits .or .u8 c 32)))&&(decide ((bits .or .u8 c 32)<=122)))||(c==95))) w
theorem aeY (c:Int) (R:Value->World->Prop) (w:World) (h:Yo c R w):Cr 152 #[.int .u8 c] w R:=
 fB (an:=.s .o (.s .o .o)) (args:=[.int .u8 c]) h
def Yp (c:Addr) (R:Value->World->Prop) (w:World):Prop:=
 Calls Tryz.prog 153 #[.pointer (some (c.add 0))] w fun e0 w0=>∃s0:ByteArray,e0=(.returned (.string s0))/\
  ((decide ((s0.size:Int)>24))=true->R (.int .i64 2) w0)/\
  ((decide ((s0.size:Int)>24))=false->∃J0:Int->World->Prop,(∀i0:Int,∀w1:World,J0 i0 w1->Calls Tryz.prog 251 #[.string s0] w1 fun e1 w2=>∃s1:ByteArray,e1=(.returned (.string s1))/\
   Calls Tryz.prog 137 #[.pointer (some c),.agg #[.int .i64 i0,.string s1,.int .i64 0,.int .i64 0],.int .i64 (s0.size:Int)] w2 fun e2 w3=>e2=(.returned (.tuple #[]))/\
    R (.int .i64 0) w3)/\
  ∃l0:Sl,aB w0 (c.add 2) [l0.v]/\
  Calls Tryz.prog 154 #[l0.v,.string s0] w0 fun e3 w4=>∃b0:Bool,e3=(.returned (.bool b0))/\
   (b0=true->J0 2 w4)/\
   (b0=false->J0 1 w4))
theorem aeZ (c:Addr) (R:Value->World->Prop) (w:World) (h:Yp c R w):Cr 203 #[.pointer (some c)] w R:=
 fB (an:=.s .o (.s .o (.s (.s .o (.s (.s .o .o) .o)) (.s .o (.j [0,3] [.s 4 (.int .i64)] (.s .o (.s .o .o)) (.s .o (.s .o .o))))))) (args:=[.ad c]) h
def Yq (c:Addr) (R:Value->World->Prop) (w:World):Prop:=
 Calls Tryz.prog 201 #[.pointer (some c)] w fun e0 w0=>∃s0:ByteArray,e0=(.returned (.string s0))/\
  ∃J0:Nat->Int->World->Prop,∃k0:Nat,J0 k0 0 w0/\
  ∀k1:Nat,∀i0:Int,∀w1:World,J0 k1 i0 w1->∃J1:Bool->World->Prop,(∀b0:Bool,∀w2:World,J1 b0 w2->(b0=true->∃k2:Nat,k2<k1/\
    J0 k2 (IntKind.wrap .i64 (i0+1)) w2)/\
   (b0=false->∃k3:Nat,(i0=(k3:Int)/\
    k3<=s0.size)/\
   R (.string (s0.extract 0 k3)) w2))/\
  ((decide (i0<(s0.size:Int)))=true->∃c0:UInt8,(0<=i0/\
    (s0[Int.toNat i0]?)=(some c0))/\
   Calls Tryz.prog 152 #[.int .u8 (UInt8.toNat c0:Int)] w1 fun e1 w3=>∃b1:Bool,e1=(.returned (.bool b1))/\
    (b1=true->J1 true w3)/\
    (b1=false->∃c1:UInt8,(0<=i0/\
     (s0[Int.toNat i0]?)=(some c1))/\
    Calls Tryz.prog 204 #[.int .u8 (UInt8.toNat c1:Int)] w3 fun e2 w4=>∃b2:Bool,e2=(.returned (.bool b2))/\
     J1 b2 w4))/\
  ((decide (i0<(s0.size:Int)))=false->J1 false w1)
theorem ae0 (c:Addr) (R:Value->World->Prop) (w:World) (h:Yq c R w):Cr 153 #[.pointer (some c)] w R:=
 fB (an:=.s .o (.s .o (.s .o (.s (.j [3] [.s 4 (.int .i64)] (.s (.s (.j [3,4] [.s 22 .bool] .o .o) (.s .o .o)) .o) .o) (.s .o .o))))) (args:=[.ad c]) h
def Yr (c:Int) (R:Value->World->Prop) (w:World):Prop:=
 R (.bool ((decide (48<=c))&&(decide (c<=57)))) w
theorem ae1 (c:Int) (R:Value->World->Prop) (w:World) (h:Yr c R w):Cr 204 #[.int .u8 c] w R:=
 fB (an:=.s .o (.s .o .o)) (args:=[.int .u8 c]) h
def Ys (s:Sl) (v1:ByteArray) (R:Value->World->Prop) (w:World):Prop:=
 Calls Tryz.prog 207 #[s.v,.string v1] w fun e0 w0=>∃i0:Int,e0=(.returned (.int .i64 i0))/\
  R (.bool (decide (i0>=0))) w0
theorem ae2 (s:Sl) (v1:ByteArray) (R:Value->World->Prop) (w:World) (h:Ys s v1 R w):Cr 154 #[s.v,.string v1] w R:=
 fB (an:=.s .o (.s .o .o)) (args:=[.sl s,.str v1]) h
def K8 (s:Sl) (v1:ByteArray) (R:Value->World->Prop) (w:World):Prop:=
 ∃J0:Nat->Int->World->Prop,∃k0:Nat,J0 k0 0 w/\
 ∀k1:Nat,∀i0:Int,∀w0:World,J0 k1 i0 w0->((decide (i0<(s.n:Int)))=true->∃p0:Addr,cD s i0 1 p0/\
  ∃s0:ByteArray,aB w0 p0 [.string s0]/\
  ((v1.toList==s0.toList)=true->R (.int .i64 i0) w0)/\
  ((v1.toList==s0.toList)=false->∃k2:Nat,k2<k1/\
  J0 k2 (IntKind.wrap .i64 (i0+1)) w0))/\
 ((decide (i0<(s.n:Int)))=false->R (.int .i64 (-1)) w0)
theorem RC (s:Sl) (v1:ByteArray) (R:Value->World->Prop) (w:World) (h:K8 s v1 R w):Cr 207 #[s.v,.string v1] w R:=
 fB (an:=.s .o (.s (.s .o (.j [0,1,7] [.s 8 (.int .i64)] (.s .o (.s (.s .o .o) (.s (.s .o (.s .o (.s (.s .o .o) .o))) .o))) .o)) (.s .o .o))) (args:=[.sl s,.str v1]) h
def K9 (s:ByteArray) (R:Value->World->Prop) (w:World):Prop:=
 Calls Tryz.prog 285 #[.string s] w fun e0 w0=>∃s0:ByteArray,e0=(.returned (.string s0))/\
  R (.string s0) w0
theorem RD (s:ByteArray) (R:Value->World->Prop) (w:World) (h:K9 s R w):Cr 251 #[.string s] w R:=
 fB (an:=.s .o (.s .o .o)) (args:=[.str s]) h
def Yt (c:Addr) (t:Int) (t1:ByteArray) (t2 t3 n_:Int) (R:Value->World->Prop) (w:World):Prop:=
 ∀k0:Nat,∀w0:World,w.heap.size<=k0->k0<w0.heap.size->Only [] w w0->∃i0:Int,aB w0 ((c.add 0).add 1) [.int .i64 i0]/\
 ∀w1:World,Only [k0] w0 w1->∃J0:Nat->Prop,J0 ((c.add 3).block)/\
 ∃l0:Sl,aB w1 (c.add 3) [l0.v]/\
 ∃l1:Sl,∃w2:World,((Instr.buildSlice 124 1 #[.mk 0 (.agg #[.int .i64 t,.string t1,.int .i64 t2,.int .i64 i0])]).run Tryz.prog w1)=(.ok l1.v w2)/\
 aD [k0] w1 w2/\
 be J0 w1 w2/\
 ∃l2:Sl,∃w3:World,((Builtin.append_ #[124,124] 124 #[l0.v,l1.v]).run Tryz.prog w2)=(.ok l2.v w3)/\
 aD [k0] w2 w3/\
 be J0 w2 w3/\
 ∃k1 k2:Nat,∃z0:List Value,∃k3:Nat,(c.add 3)=⟨k1,k2,none⟩/\
 Blk w3 k1 k3 z0/\
 (k2+1)<=z0.length/\
 k0≠k1/\
 ∀w4:World,Only [k1] w3 w4->Blk w4 k1 k3 (bF z0 k2 [l2.v])->∃i1:Int,aB w4 ((c.add 0).add 1) [.int .i64 i1]/\
 ∃k4 k5:Nat,∃z1:List Value,∃k6:Nat,((c.add 0).add 1)=⟨k4,k5,none⟩/\
 Blk w4 k4 k6 z1/\
 (k5+1)<=z1.length/\
 k0≠k4/\
 ∀w5:World,Only [k4] w4 w5->Blk w5 k4 k6 (bF z1 k5 [.int .i64 (IntKind.wrap .i64 (i1+n_))])->R (.tuple #[]) w5
theorem ae3 (c:Addr) (t:Int) (t1:ByteArray) (t2 t3 n_:Int) (R:Value->World->Prop) (w:World) (h:Yt c t t1 t2 t3 n_ R w):Cr 137 #[.pointer (some c),.agg #[.int .i64 t,.string t1,.int .i64 t2,.int .i64 t3],.int .i64 n_] w R:=
 fB (an:=.s .o (.s .o (.s .o .o))) (args:=[.ad c,.agg (ld [.int .i64 t,.str t1,.int .i64 t2,.int .i64 t3]),.int .i64 n_]) h
def Yu (c:Addr) (R:Value->World->Prop) (w:World):Prop:=
 Calls Tryz.prog 201 #[.pointer (some (c.add 0))] w fun e0 w0=>∃s0:ByteArray,e0=(.returned (.string s0))/\
  Calls Tryz.prog 252 #[.string s0] w0 fun e1 w1=>∃i0 i1 i2:Int,e1=(.returned (.tuple #[.int .i64 i0,.int .i64 i1,.int .i64 i2]))/\
   ((i2 !=0)=true->R (.int .i64 i2) w1)/\
   ((i2 !=0)=false->Calls Tryz.prog 153 #[.pointer (some (c.add 0))] w1 fun e2 w2=>∃s1:ByteArray,e2=(.returned (.string s1))/\
    ((decide ((s1.size:Int)>i1))=true->R (.int .i64 4) w2)/\
    ((decide ((s1.size:Int)>i1))=false->Calls Tryz.prog 137 #[.pointer (some c),.agg #[.int .i64 3,.string (ByteArray.mk #[]),.int .i64 i0,.int .i64 0],.int .i64 i1] w2 fun e3 w3=>e3=(.returned (.tuple #[]))/\
     R (.int .i64 0) w3))
theorem ae4 (c:Addr) (R:Value->World->Prop) (w:World) (h:Yu c R w):Cr 205 #[.pointer (some c)] w R:=
 fB (an:=.s .o (.s .o (.s (.s .o (.s (.s .o .o) .o)) (.s (.s .o (.s (.s .o .o) .o)) (.s .o (.s .o .o)))))) (args:=[.ad c]) h
def v0v (s:ByteArray) (R:Value->World->Prop) (w:World):Prop:=
 ∃J0:Nat->Int->World->Prop,∃k0:Nat,J0 k0 0 w/\
 ∀k1:Nat,∀i0:Int,∀w0:World,J0 k1 i0 w0->∃J1:Bool->World->Prop,(∀b0:Bool,∀w1:World,J1 b0 w1->(b0=true->∃k2:Nat,k2<k1/\
   J0 k2 (IntKind.wrap .i64 (i0+1)) w1)/\
  (b0=false->((s.toList==((ByteArray.mk #[]).toList))=true->R (.tuple #[.int .i64 0,.int .i64 0,.int .i64 3]) w1)/\
  ((s.toList==((ByteArray.mk #[]).toList))=false->∃J2:Bool->World->Prop,(∀b1:Bool,∀w2:World,J2 b1 w2->(b1=true->R (.tuple #[.int .i64 0,.int .i64 0,.int .i64 4]) w2)/\
   (b1=false->∃k3:Nat,(i0=(k3:Int)/\
    k3<=s.size)/\
   Calls Tryz.prog 287 #[.string (s.extract 0 k3),.int .i64 10,.int .i64 64] w2 fun e0 w3=>∃i1:Int,∃v0:OV,e0=(.returned (.tuple #[.int .i64 i1,v0.v]))/\
    XP v0.v/\
    ((!(XO v0.v))=true->R (.tuple #[.int .i64 0,.int .i64 0,.int .i64 20]) w3)/\
    ((!(XO v0.v))=false->R (.tuple #[.int .i64 i1,.int .i64 i0,.int .i64 0]) w3)))/\
  ((i0==0)=true->J2 (i0==0) w1)/\
  ((i0==0)=false->∃c0:UInt8,((decide (i0>1))=true->(0:Int)<=0/\
   s[0]? =(some c0))/\
  J2 ((decide (i0>1))&&((UInt8.toNat c0:Int)==48)) w1))))/\
 ((decide (i0<(s.size:Int)))=true->∃c1:UInt8,(0<=i0/\
   (s[Int.toNat i0]?)=(some c1))/\
  Calls Tryz.prog 286 #[.int .u8 (UInt8.toNat c1:Int)] w0 fun e1 w4=>∃b2:Bool,e1=(.returned (.bool b2))/\
   J1 b2 w4)/\
 ((decide (i0<(s.size:Int)))=false->J1 false w0)
theorem v0w (s:ByteArray) (R:Value->World->Prop) (w:World) (h:v0v s R w):Cr 252 #[.string s] w R:=
 fB (an:=.s .o (.s .o (.s (.j [0] [.s 5 (.int .i64)] (.s (.s (.j [0,5] [.s 17 .bool] .o .o) (.s .o .o)) .o) .o) (.s (.s .o (.s (.s .o .o) (.j [0,5] [.s 23 .bool] (.s .o (.s .o .o)) (.s (.s .o .o) .o)))) (.s .o (.s (.s .o (.s (.s .o .o) .o)) (.s .o .o))))))) (args:=[.str s]) h
def v2v (c:Int) (R:Value->World->Prop) (w:World):Prop:=
 R (.bool (decide ((IntKind.wrap .u8 (c-48))<10))) w
theorem v2w (c:Int) (R:Value->World->Prop) (w:World) (h:v2v c R w):Cr 286 #[.int .u8 c] w R:=
 fB (an:=.s .o (.s .o .o)) (args:=[.int .u8 c]) h
def Yv (c:Addr) (R:Value->World->Prop) (w:World):Prop:=
 Calls Tryz.prog 201 #[.pointer (some (c.add 0))] w fun e0 w0=>∃s0:ByteArray,e0=(.returned (.string s0))/\
  ∃J0:Int->World->Prop,(∀i0:Int,∀w1:World,J0 i0 w1->∃J1:Int->World->Prop,(∀i1:Int,∀w2:World,J1 i1 w2->((i1==0)=true->R (.int .i64 4) w2)/\
    ((i1==0)=false->∃k0:Nat,(i1=(k0:Int)/\
     k0<=s0.size)/\
    Calls Tryz.prog 251 #[.string (s0.extract 0 k0)] w2 fun e1 w3=>∃s1:ByteArray,e1=(.returned (.string s1))/\
     Calls Tryz.prog 137 #[.pointer (some c),.agg #[.int .i64 4,.string s1,.int .i64 0,.int .i64 0],.int .i64 i1] w3 fun e2 w4=>e2=(.returned (.tuple #[]))/\
      R (.int .i64 0) w4))/\
   ∃J2:Bool->World->Prop,(∀b0:Bool,∀w5:World,J2 b0 w5->(b0=true->J1 2 w5)/\
    (b0=false->J1 i0 w5))/\
   ((decide ((s0.size:Int)>1))=true->∃c0:UInt8,((0:Int)<=1/\
     s0[1]? =(some c0))/\
    (((UInt8.toNat c0:Int)==61)=true->∃c1:UInt8,((0:Int)<=0/\
      s0[0]? =(some c1))/\
     ∀w6:World,Only [] w1 w6->∃l0:Sl,∃w7:World,((Instr.buildSlice 68 4 #[.mk 0 (.int .u8 60),.mk 1 (.int .u8 62),.mk 2 (.int .u8 61),.mk 3 (.int .u8 33)]).run Tryz.prog w6)=(.ok l0.v w7)/\
     Calls Tryz.prog 200 #[.int .u8 (UInt8.toNat c1:Int),l0.v] w7 fun e3 w8=>∃b1:Bool,e3=(.returned (.bool b1))/\
      (b1=true->J2 true w8)/\
      (b1=false->∃c2:UInt8,((0:Int)<=1/\
       s0[1]? =(some c2))/\
      ∃c3:UInt8,((0:Int)<=0/\
       s0[0]? =(some c3))/\
      (((UInt8.toNat c2:Int)==(UInt8.toNat c3:Int))=true->∃c4:UInt8,((0:Int)<=0/\
        s0[0]? =(some c4))/\
       ∃l1:Sl,∃w9:World,((Instr.buildSlice 68 2 #[.mk 0 (.int .u8 38),.mk 1 (.int .u8 124)]).run Tryz.prog w8)=(.ok l1.v w9)/\
       Calls Tryz.prog 200 #[.int .u8 (UInt8.toNat c4:Int),l1.v] w9 fun e4 cI=>∃b2:Bool,e4=(.returned (.bool b2))/\
        (b2=true->J2 true cI)/\
        (b2=false->2<=s0.size/\
        J2 (((s0.extract 0 2).toList)==((ByteArray.mk #[45,62]).toList)) cI))/\
      (((UInt8.toNat c2:Int)==(UInt8.toNat c3:Int))=false->2<=s0.size/\
      J2 (((s0.extract 0 2).toList)==((ByteArray.mk #[45,62]).toList)) w8)))/\
    (((UInt8.toNat c0:Int)==61)=false->∃c5:UInt8,((0:Int)<=1/\
     s0[1]? =(some c5))/\
    ∃c6:UInt8,((0:Int)<=0/\
     s0[0]? =(some c6))/\
    (((UInt8.toNat c5:Int)==(UInt8.toNat c6:Int))=true->∃c7:UInt8,((0:Int)<=0/\
      s0[0]? =(some c7))/\
     ∀cS:World,Only [] w1 cS->∃l2:Sl,∃dK:World,((Instr.buildSlice 68 2 #[.mk 0 (.int .u8 38),.mk 1 (.int .u8 124)]).run Tryz.prog cS)=(.ok l2.v dK)/\
     Calls Tryz.prog 200 #[.int .u8 (UInt8.toNat c7:Int),l2.v] dK fun e5 dX=>∃b3:Bool,e5=(.returned (.bool b3))/\
      (b3=true->J2 true dX)/\
      (b3=false->2<=s0.size/\
      J2 (((s0.extract 0 2).toList)==((ByteArray.mk #[45,62]).toList)) dX))/\
    (((UInt8.toNat c5:Int)==(UInt8.toNat c6:Int))=false->2<=s0.size/\
    ∀eK:World,Only [] w1 eK->J2 (((s0.extract 0 2).toList)==((ByteArray.mk #[45,62]).toList)) eK)))/\
   ((decide ((s0.size:Int)>1))=false->∀gn:World,Only [] w1 gn->J2 false gn))/\
  ∃c8:UInt8,((0:Int)<=0/\
   s0[0]? =(some c8))/\
  ∃l3:Sl,∃gR:World,((Instr.buildSlice 68 17 #[.mk 0 (.int .u8 123),.mk 1 (.int .u8 125),.mk 2 (.int .u8 40),.mk 3 (.int .u8 41),.mk 4 (.int .u8 91),.mk 5 (.int .u8 93),.mk 6 (.int .u8 59),.mk 7 (.int .u8 44),.mk 8 (.int .u8 61),.mk 9 (.int .u8 43),.mk 10 (.int .u8 45),.mk 11 (.int .u8 42),.mk 12 (.int .u8 47),.mk 13 (.int .u8 37),.mk 14 (.int .u8 60),.mk 15 (.int .u8 62),.mk 16 (.int .u8 33)]).run Tryz.prog w0)=(.ok l3.v gR)/\
  ∃l4:Sl,∃fR:World,((convert 68 68 l3.v).run Tryz.prog gR)=(.ok l4.v fR)/\
  Calls Tryz.prog 200 #[.int .u8 (UInt8.toNat c8:Int),l4.v] fR fun e6 jH=>∃b4:Bool,e6=(.returned (.bool b4))/\
   (b4=true->J0 1 jH)/\
   (b4=false->J0 0 jH)
theorem ae5 (c:Addr) (R:Value->World->Prop) (w:World) (h:Yv c R w):Cr 206 #[.pointer (some c)] w R:=
 fB (an:=.s .o (.s .o (.s .o (.j [0,3] [.s 4 (.int .i64)] (.s .o (.s .o .o)) (.j [0,3] [.s 4 (.int .i64)] (.s (.j [0,3,4] [.s 45 .bool] .o .o) (.s .o .o)) (.s (.s .o (.s (.s .o .o) .o)) (.s .o (.s .o .o)))))))) (args:=[.ad c]) h
def RE (c:Addr) (texts:Sl) (R:Value->World->Prop) (w:World):Prop:=
 ∃J0:Nat->Int->World->Prop,∃k0:Nat,J0 k0 0 w/\
 ∀k1:Nat,∀i0:Int,∀w0:World,J0 k1 i0 w0->((decide (i0<(texts.n:Int)))=true->∃J1:World->Prop,(∀w1:World,J1 w1->∃k2:Nat,k2<k1/\
   J0 k2 (IntKind.wrap .i64 (i0+1)) w1)/\
  ∃p0:Addr,cD texts i0 1 p0/\
  ∃s0:ByteArray,aB w0 p0 [.string s0]/\
  ∃l0:Sl,∃w2:World,((Instr.buildSlice 52 1 #[.mk 0 (.string s0)]).run Tryz.prog w0)=(.ok l0.v w2)/\
  Calls Tryz.prog 75 #[.pointer (some c),l0.v] w2 fun e0 w3=>∃i1:Int,e0=(.returned (.int .i64 i1))/\
   ((i1==0)=true->Calls Tryz.prog 79 #[.pointer (some c)] w3 fun e1 w4=>e1=(.returned (.tuple #[]))/\
    J1 w4)/\
   ((i1==0)=false->J1 w3))/\
 ((decide (i0<(texts.n:Int)))=false->R (.tuple #[]) w0)
theorem Yw (c:Addr) (texts:Sl) (R:Value->World->Prop) (w:World) (h:RE c texts R w):Cr 73 #[.pointer (some c),texts.v] w R:=
 fB (an:=.s .o (.j [0,6,7] [.s 8 (.int .i64)] (.s .o (.s (.s .o .o) (.j [0,6,7,8] [] (.s .o (.s .o (.s .o .o))) .o))) .o)) (args:=[.ad c,.sl texts]) h
def RF (c:Addr) (texts:Sl) (R:Value->World->Prop) (w:World):Prop:=
 Calls Tryz.prog 141 #[.pointer (some c),texts.v] w fun e0 w0=>∃i0:Int,e0=(.returned (.int .i64 i0))/\
  ∃J0:World->Prop,(∀w1:World,J0 w1->R (.int .i64 i0) w1)/\
  ((decide (i0>0))=true->∃i1:Int,aB w0 (c.add 1) [.int .i64 i1]/\
   ∃k0 k1:Nat,∃z0:List Value,∃k2:Nat,(c.add 1)=⟨k0,k1,none⟩/\
   Blk w0 k0 k2 z0/\
   (k1+1)<=z0.length/\
   ∀w2:World,Only [k0] w0 w2->Blk w2 k0 k2 (bF z0 k1 [.int .i64 (IntKind.wrap .i64 (i1+1))])->J0 w2)/\
  ((decide (i0>0))=false->J0 w0)
theorem Yx (c:Addr) (texts:Sl) (R:Value->World->Prop) (w:World) (h:RF c texts R w):Cr 75 #[.pointer (some c),texts.v] w R:=
 fB (an:=.s .o (.s .o (.j [5] [] (.s .o (.s .o .o)) (.s .o .o)))) (args:=[.ad c,.sl texts]) h
def RG (c:Addr) (texts:Sl) (R:Value->World->Prop) (w:World):Prop:=
 ∀w0:World,Only [] w w0->∃J0:Nat->Prop,J0 ((c.add 0).block)/\
 ∃l0:Sl,aB w0 (c.add 0) [l0.v]/\
 J0 ((c.add 1).block)/\
 ∃i0:Int,aB w0 (c.add 1) [.int .i64 i0]/\
 ∃p0:Addr,cD l0 i0 4 p0/\
 J0 p0.block/\
 ∃i1:Int,∃s0:ByteArray,∃i2 i3:Int,aB w0 p0 [.int .i64 i1,.string s0,.int .i64 i2,.int .i64 i3]/\
 ∀k0:Nat,∀w1:World,w0.heap.size<=k0->k0<w1.heap.size->Only [] w0 w1->Calls Tryz.prog 78 #[.pointer (some c)] w1 fun e0 w2=>∃b0:Bool,e0=(.returned (.bool b0))/\
  aD [k0] w1 w2/\
  (((!b0)||((i1 !=2)&&(i1 !=4)))=true->R (.int .i64 0) w2)/\
  (((!b0)||((i1 !=2)&&(i1 !=4)))=false->Calls Tryz.prog 207 #[texts.v,.string s0] w2 fun e1 w3=>∃i4:Int,e1=(.returned (.int .i64 i4))/\
   aD [k0] w2 w3/\
   R (.int .i64 (IntKind.wrap .i64 (i4+1))) w3)
theorem Yy (c:Addr) (texts:Sl) (R:Value->World->Prop) (w:World) (h:RG c texts R w):Cr 141 #[.pointer (some c),texts.v] w R:=
 fB (an:=.s .o (.s .o (.s (.s .o (.s (.s .o .o) .o)) (.s .o .o)))) (args:=[.ad c,.sl texts]) h
def RH (c:Addr) (R:Value->World->Prop) (w:World):Prop:=
 ∃i0:Int,aB w ((c.add 2).add 0) [.int .i64 i0]/\
 R (.bool (i0==0)) w
theorem Yz (c:Addr) (R:Value->World->Prop) (w:World) (h:RH c R w):Cr 78 #[.pointer (some c)] w R:=
 fB (an:=.s .o (.s .o .o)) (args:=[.ad c]) h
def RI (c:Addr) (R:Value->World->Prop) (w:World):Prop:=
 ∃J0:World->Prop,(∀w0:World,J0 w0->Calls Tryz.prog 139 #[.pointer (some c),.int .i64 4] w0 fun e0 w1=>e0=(.returned (.tuple #[]))/\
  R (.tuple #[]) w1)/\
 ∃l0:Sl,aB w (c.add 0) [l0.v]/\
 ∃i0:Int,aB w (c.add 1) [.int .i64 i0]/\
 ∃p0:Addr,cD l0 i0 4 p0/\
 ∃i1:Int,aB w (p0.add 0) [.int .i64 i1]/\
 ((i1==5)=true->∀w2:World,Only [] w w2->Calls Tryz.prog 139 #[.pointer (some c),.int .i64 3] w2 fun e1 w3=>e1=(.returned (.tuple #[]))/\
  J0 w3)/\
 ((i1==5)=false->∀w4:World,Only [] w w4->J0 w4)
theorem YA (c:Addr) (R:Value->World->Prop) (w:World) (h:RI c R w):Cr 79 #[.pointer (some c)] w R:=
 fB (an:=.j [0] [] (.s .o (.s .o .o)) .o) (args:=[.ad c]) h
def RJ (c:Addr) (err:Int) (R:Value->World->Prop) (w:World):Prop:=
 Calls Tryz.prog 78 #[.pointer (some c)] w fun e0 w0=>∃b0:Bool,e0=(.returned (.bool b0))/\
  (b0=true->∀w1:World,Only [] w0 w1->∃l0:Sl,aB w1 (c.add 0) [l0.v]/\
   ∃i0:Int,aB w1 (c.add 1) [.int .i64 i0]/\
   ∃p0:Addr,cD l0 i0 4 p0/\
   ∃i1:Int,aB w1 (p0.add 3) [.int .i64 i1]/\
   ∃k0 k1:Nat,∃z0:List Value,∃k2:Nat,(c.add 2)=⟨k0,k1,none⟩/\
   Blk w1 k0 k2 z0/\
   (k1+2)<=z0.length/\
   ∀w2:World,Only [k0] w1 w2->Blk w2 k0 k2 (bF z0 k1 [.int .i64 err,.int .i64 i1])->R (.tuple #[]) w2)/\
  (b0=false->R (.tuple #[]) w0)
theorem YC (c:Addr) (err:Int) (R:Value->World->Prop) (w:World) (h:RJ c err R w):Cr 139 #[.pointer (some c),.int .i64 err] w R:=
 fB (an:=.s .o (.s .o .o)) (args:=[.ad c,.int .i64 err]) h
def RL (r:Addr) (kind:Int) (R:Value->World->Prop) (w:World):Prop:=
 ∀k0 k1:Nat,∀w0:World,w.heap.size<=k0->k0<w0.heap.size->w.heap.size<=k1->k1<w0.heap.size->Only [] w w0->∃J0:World->Prop,(∀w1:World,J0 w1->Calls Tryz.prog 140 #[.pointer (some (r.add 0)),.int .i64 1] w1 fun e0 w2=>∃i0:Int,∃s0:ByteArray,∃i1 i2:Int,e0=(.returned (.agg #[.int .i64 i0,.string s0,.int .i64 i1,.int .i64 i2]))/\
  aD [k0,k1] w1 w2/\
  ∀k2:Nat,∀w3:World,w2.heap.size<=k2->k2<w3.heap.size->Only [] w2 w3->k0≠k1->k0≠k2->k1≠k2->∃J1:Nat->Prop,J1 k2/\
  vm J1 k1/\
  vm J1 k1/\
  ∀w4:World,Only [k0,k1] w3 w4->R (.agg #[.int .i64 kind,.string s0,.string (ByteArray.mk #[]),.string (ByteArray.mk #[]),Sl.nil.v,Sl.nil.v,Sl.nil.v,Sl.nil.v,.int .i64 i2]) w4)/\
 ∃l0:Sl,aB w0 ((r.add 0).add 0) [l0.v]/\
 ∃i3:Int,aB w0 ((r.add 0).add 1) [.int .i64 i3]/\
 ∃p0:Addr,cD l0 i3 4 p0/\
 ∃i4:Int,aB w0 (p0.add 0) [.int .i64 i4]/\
 ((i4==1)=true->∀w5:World,Only [] w0 w5->Calls Tryz.prog 138 #[.pointer (some r),.pointer (some ((r.add 4).add 1)),.int .i64 2] w5 fun e1 w6=>e1=(.returned (.tuple #[]))/\
  aD [k0,k1] w5 w6/\
  ∃i5:Int,aB w6 ((r.add 4).add 2) [.int .i64 i5]/\
  ((i5==0)=true->Calls Tryz.prog 139 #[.pointer (some (r.add 0)),.int .i64 21] w6 fun e2 w7=>e2=(.returned (.tuple #[]))/\
   aD [k0,k1] w6 w7/\
   J0 w7)/\
  ((i5==0)=false->J0 w6))/\
 ((i4==1)=false->∀w8:World,Only [] w0 w8->J0 w8)
theorem YD (r:Addr) (kind:Int) (R:Value->World->Prop) (w:World) (h:RL r kind R w):Cr 74 #[.pointer (some r),.int .i64 kind] w R:=
 fB (an:=.s .o (.s .o (.j [0,4,5] [] (.s .o (.s (.s .o (.s .o (.s .o .o))) .o)) (.s .o (.s .o (.s .o .o)))))) (args:=[.ad r,.int .i64 kind]) h
def RM (r:Addr) (yf:Option Addr) (err:Int) (R:Value->World->Prop) (w:World):Prop:=
 ∃J0:World->Prop,(∀w0:World,J0 w0->∃p0:Addr,yf=(some p0)/\
  ∃i0:Int,aB w0 p0 [.int .i64 i0]/\
  ∃p1:Addr,yf=(some p1)/\
  ∃k0 k1:Nat,∃z0:List Value,∃k2:Nat,p1=⟨k0,k1,none⟩/\
  Blk w0 k0 k2 z0/\
  (k1+1)<=z0.length/\
  ∀w1:World,Only [k0] w0 w1->Blk w1 k0 k2 (bF z0 k1 [.int .i64 (IntKind.wrap .i64 (i0-1))])->R (.tuple #[]) w1)/\
 ∃p2:Addr,yf=(some p2)/\
 ∃i1:Int,aB w p2 [.int .i64 i1]/\
 ((i1==0)=true->Calls Tryz.prog 139 #[.pointer (some (r.add 0)),.int .i64 err] w fun e0 w2=>e0=(.returned (.tuple #[]))/\
  J0 w2)/\
 ((i1==0)=false->J0 w)
theorem YE (r:Addr) (yf:Option Addr) (err:Int) (R:Value->World->Prop) (w:World) (h:RM r yf err R w):Cr 138 #[.pointer (some r),.pointer yf,.int .i64 err] w R:=
 fB (an:=.j [1] [] (.s .o (.s .o .o)) .o) (args:=[.ad r,.ptr yf,.int .i64 err]) h
def RN (c:Addr) (kind:Int) (R:Value->World->Prop) (w:World):Prop:=
 ∀k0:Nat,∀w0:World,w.heap.size<=k0->k0<w0.heap.size->Only [] w w0->∃J0:Nat->Prop,J0 ((c.add 0).block)/\
 ∃l0:Sl,aB w0 (c.add 0) [l0.v]/\
 J0 ((c.add 1).block)/\
 ∃i0:Int,aB w0 (c.add 1) [.int .i64 i0]/\
 ∃p0:Addr,cD l0 i0 4 p0/\
 J0 p0.block/\
 ∃i1:Int,∃s0:ByteArray,∃i2 i3:Int,aB w0 p0 [.int .i64 i1,.string s0,.int .i64 i2,.int .i64 i3]/\
 ∀k1:Nat,∀w1:World,w0.heap.size<=k1->k1<w1.heap.size->Only [] w0 w1->Calls Tryz.prog 78 #[.pointer (some c)] w1 fun e0 w2=>∃b0:Bool,e0=(.returned (.bool b0))/\
  aD [k0,k1] w1 w2/\
  (((!b0)||(i1 !=kind))=true->Calls Tryz.prog 79 #[.pointer (some c)] w2 fun e1 w3=>e1=(.returned (.tuple #[]))/\
   aD [k0,k1] w2 w3/\
   ∀w4:World,Only [k0] w3 w4->R (.agg #[.int .i64 0,.string (ByteArray.mk #[]),.int .i64 0,.int .i64 0]) w4)/\
  (((!b0)||(i1 !=kind))=false->∃i4:Int,aB w2 (c.add 1) [.int .i64 i4]/\
  ∃k2 k3:Nat,∃z0:List Value,∃k4:Nat,(c.add 1)=⟨k2,k3,none⟩/\
  Blk w2 k2 k4 z0/\
  (k3+1)<=z0.length/\
  k0≠k2/\
  k1≠k2/\
  ∀w5:World,Only [k2] w2 w5->Blk w5 k2 k4 (bF z0 k3 [.int .i64 (IntKind.wrap .i64 (i4+1))])->∀w6:World,Only [k0] w5 w6->R (.agg #[.int .i64 i1,.string s0,.int .i64 i2,.int .i64 i3]) w6)
theorem YG (c:Addr) (kind:Int) (R:Value->World->Prop) (w:World) (h:RN c kind R w):Cr 140 #[.pointer (some c),.int .i64 kind] w R:=
 fB (an:=.s .o (.s .o (.s (.s .o (.s (.s .o (.s .o .o)) .o)) (.s .o (.s .o .o))))) (args:=[.ad c,.int .i64 kind]) h
def RO (r:Addr) (R:Value->World->Prop) (w:World):Prop:=
 ∀k0:Nat,∀w0:World,w.heap.size<=k0->k0<w0.heap.size->Only [] w w0->∃J0:World->Prop,(∀w1:World,J0 w1->Calls Tryz.prog 140 #[.pointer (some (r.add 0)),.int .i64 1] w1 fun e0 w2=>∃i0:Int,∃s0:ByteArray,∃i1 i2:Int,e0=(.returned (.agg #[.int .i64 i0,.string s0,.int .i64 i1,.int .i64 i2]))/\
  aD [k0] w1 w2/\
  ∀k1:Nat,∀w3:World,w2.heap.size<=k1->k1<w3.heap.size->Only [] w2 w3->∃l0:Sl,∃w4:World,((Instr.buildSlice 52 1 #[.mk 0 (.string (ByteArray.mk #[61]))]).run Tryz.prog w3)=(.ok l0.v w4)/\
  aD [k0,k1] w3 w4/\
  Calls Tryz.prog 73 #[.pointer (some (r.add 0)),l0.v] w4 fun e1 w5=>e1=(.returned (.tuple #[]))/\
   aD [k0,k1] w4 w5/\
   ∃l1:Sl,∃w6:World,((Instr.buildSlice 52 1 #[.mk 0 (.string (ByteArray.mk #[45]))]).run Tryz.prog w5)=(.ok l1.v w6)/\
   aD [k0,k1] w5 w6/\
   Calls Tryz.prog 75 #[.pointer (some (r.add 0)),l1.v] w6 fun e2 w7=>∃i3:Int,e2=(.returned (.int .i64 i3))/\
    aD [k0,k1] w6 w7/\
    Calls Tryz.prog 140 #[.pointer (some (r.add 0)),.int .i64 3] w7 fun e3 w8=>∃i4:Int,∃s1:ByteArray,∃i5 i6:Int,e3=(.returned (.agg #[.int .i64 i4,.string s1,.int .i64 i5,.int .i64 i6]))/\
     aD [k0,k1] w7 w8/\
     ∃l2:Sl,∃w9:World,((Instr.buildSlice 52 1 #[.mk 0 (.string (ByteArray.mk #[59]))]).run Tryz.prog w8)=(.ok l2.v w9)/\
     aD [k0,k1] w8 w9/\
     Calls Tryz.prog 73 #[.pointer (some (r.add 0)),l2.v] w9 fun e4 cI=>e4=(.returned (.tuple #[]))/\
      aD [k0,k1] w9 cI/\
      ∀cS:World,Only [k0] cI cS->R (.agg #[.string s0,.int .i64 (IntKind.wrap .i64 ((IntKind.wrap .i64 (1-(IntKind.wrap .i64 (2*i3))))*i5)),.int .i64 i2]) cS)/\
 ∃l3:Sl,aB w0 ((r.add 0).add 0) [l3.v]/\
 ∃i7:Int,aB w0 ((r.add 0).add 1) [.int .i64 i7]/\
 ∃p0:Addr,cD l3 i7 4 p0/\
 ∃i8:Int,aB w0 (p0.add 0) [.int .i64 i8]/\
 ((i8==1)=true->∀dK:World,Only [] w0 dK->Calls Tryz.prog 138 #[.pointer (some r),.pointer (some ((r.add 4).add 0)),.int .i64 2] dK fun e5 dX=>e5=(.returned (.tuple #[]))/\
  aD [k0] dK dX/\
  J0 dX)/\
 ((i8==1)=false->∀eK:World,Only [] w0 eK->J0 eK)
theorem YH (r:Addr) (R:Value->World->Prop) (w:World) (h:RO r R w):Cr 76 #[.pointer (some r)] w R:=
 fB (an:=.s .o (.j [0,2] [] (.s .o (.s .o .o)) (.s .o (.s .o (.s .o (.s .o (.s .o (.s .o .o)))))))) (args:=[.ad r]) h
def RP (r:Addr) (n_:Option Addr) (R:Value->World->Prop) (w:World):Prop:=
 ∀k0:Nat,∀w0:World,w.heap.size<=k0->k0<w0.heap.size->Only [] w w0->∃i0:Int,aB w0 ((r.add 4).add 2) [.int .i64 i0]/\
 ∃k1 k2:Nat,∃z0:List Value,∃k3:Nat,((r.add 4).add 2)=⟨k1,k2,none⟩/\
 Blk w0 k1 k3 z0/\
 (k2+1)<=z0.length/\
 k0≠k1/\
 ∀w1:World,Only [k1] w0 w1->Blk w1 k1 k3 (bF z0 k2 [.int .i64 (IntKind.wrap .i64 (i0-1))])->∃J0:Nat->Bool->Bool->Bool->Bool->World->Prop,∃k4:Nat,J0 k4 false false false false w1/\
 ∀k5:Nat,∀b0 b1 b2 b3:Bool,∀w2:World,J0 k5 b0 b1 b2 b3 w2->∃J1:Bool->Bool->Bool->Bool->Bool->World->Prop,(∀b4 b5 b6 b7 b8:Bool,∀w3:World,J1 b4 b5 b6 b7 b8 w3->(b4=true->∃k6:Nat,k6<k5/\
   J0 k6 b5 b6 b7 b8 w3)/\
  (b4=false->∃l0:Sl,∃w4:World,((Instr.buildSlice 52 4 #[.mk 0 (.string (ByteArray.mk #[115,116,97,116,101])),.mk 1 (.string (ByteArray.mk #[112,97,114,97,108,108,101,108])),.mk 2 (.string (ByteArray.mk #[104,105,115,116,111,114,121])),.mk 3 (.string (ByteArray.mk #[100,101,101,112]))]).run Tryz.prog w3)=(.ok l0.v w4)/\
  aD [k0] w3 w4/\
  Calls Tryz.prog 141 #[.pointer (some (r.add 0)),l0.v] w4 fun e0 w5=>∃i1:Int,e0=(.returned (.int .i64 i1))/\
   aD [k0] w4 w5/\
   ∃J2:Nat->Int->Bool->Bool->Bool->Bool->World->Prop,∃k7:Nat,J2 k7 i1 b5 b6 b7 b8 w5/\
   ∀k8:Nat,∀i2:Int,∀b9 OK SY SZ:Bool,∀w6:World,J2 k8 i2 b9 OK SY SZ w6->((decide (i2>0))=true->∃i3:Int,aB w6 ((r.add 0).add 1) [.int .i64 i3]/\
    ∃k9 uE:Nat,∃z1:List Value,∃qX:Nat,((r.add 0).add 1)=⟨k9,uE,none⟩/\
    Blk w6 k9 qX z1/\
    (uE+1)<=z1.length/\
    k0≠k9/\
    ∀w7:World,Only [k9] w6 w7->Blk w7 k9 qX (bF z1 uE [.int .i64 (IntKind.wrap .i64 (i3+1))])->∃J3:Bool->Bool->Bool->Bool->World->Prop,(∀Vn b14 b15 b16:Bool,∀w8:World,J3 Vn b14 b15 b16 w8->∃l1:Sl,∃w9:World,((Instr.buildSlice 52 4 #[.mk 0 (.string (ByteArray.mk #[115,116,97,116,101])),.mk 1 (.string (ByteArray.mk #[112,97,114,97,108,108,101,108])),.mk 2 (.string (ByteArray.mk #[104,105,115,116,111,114,121])),.mk 3 (.string (ByteArray.mk #[100,101,101,112]))]).run Tryz.prog w8)=(.ok l1.v w9)/\
     aD [k0] w8 w9/\
     Calls Tryz.prog 141 #[.pointer (some (r.add 0)),l1.v] w9 fun e1 cI=>∃i4:Int,e1=(.returned (.int .i64 i4))/\
      aD [k0] w9 cI/\
      ∃J6:Nat,J6<k8/\
      J2 J6 i4 Vn b14 b15 b16 cI)/\
    ∀cS:World,Only [] w7 cS->∃J4:Nat->Prop,∃p0:Addr,n_=(some p0)/\
    J4 ((p0.add 7).block)/\
    ∃l2:Sl,aB cS (p0.add 7) [l2.v]/\
    (Calls Tryz.prog 143 #[.pointer (some r),.int .i64 i2] cS fun e2 dK=>∃i5:Int,∃s0 s1 s2:ByteArray,∃l3 l4 l5 l6:Sl,∃i6:Int,e2=(.returned (.agg #[.int .i64 i5,.string s0,.string s1,.string s2,l3.v,l4.v,l5.v,l6.v,.int .i64 i6]))/\
     aD [k0] cS dK/\
     be J4 cS dK/\
     ∃l7:Sl,∃dX:World,((Instr.buildSlice 25 1 #[.mk 0 (.agg #[.int .i64 0,.string (ByteArray.mk #[]),.string (ByteArray.mk #[]),.string (ByteArray.mk #[]),Sl.nil.v,Sl.nil.v,Sl.nil.v,Sl.nil.v,.int .i64 0])]).run Tryz.prog dK)=(.ok l7.v dX)/\
     aD [k0] dK dX/\
     be J4 dK dX/\
     ∃l8:Sl,∃eK:World,((Builtin.append_ #[25,25] 25 #[l2.v,l7.v]).run Tryz.prog dX)=(.ok l8.v eK)/\
     aD [k0] dX eK/\
     be J4 dX eK/\
     ∃p1:Addr,cD l8 (l2.n:Int) 9 p1/\
     ∃p2:Addr,n_=(some p2)/\
     (∃vI OL:Nat,∃z2:List Value,∃OM:Nat,p1=⟨vI,OL,none⟩/\
      Blk eK vI OM z2/\
      (OL+9)<=z2.length/\
      k0≠vI/\
      ∀gn:World,Only [vI] eK gn->Blk gn vI OM (bF z2 OL [.int .i64 i5,.string s0,.string s1,.string s2,l3.v,l4.v,l5.v,l6.v,.int .i64 i6])->∃D3 OO:Nat,∃z3:List Value,∃k18:Nat,(p2.add 7)=⟨D3,OO,none⟩/\
      Blk gn D3 k18 z3/\
      (OO+1)<=z3.length/\
      k0≠D3/\
      ∀gR:World,Only [D3] gn gR->Blk gR D3 k18 (bF z3 OO [l8.v])->J3 b9 OK SY SZ gR)/\
     ∃FR FT:Nat,∃z4:List Value,∃k21:Nat,(p2.add 7)=⟨FR,FT,none⟩/\
     Blk eK FR k21 z4/\
     (FT+1)<=z4.length/\
     k0≠FR/\
     ∀fR:World,Only [FR] eK fR->Blk fR FR k21 (bF z4 FT [l8.v])->∃NM Vo:Nat,∃z5:List Value,∃k24:Nat,p1=⟨NM,Vo,none⟩/\
     Blk fR NM k24 z5/\
     (Vo+9)<=z5.length/\
     k0≠NM/\
     ∀jH:World,Only [NM] fR jH->Blk jH NM k24 (bF z5 Vo [.int .i64 i5,.string s0,.string s1,.string s2,l3.v,l4.v,l5.v,l6.v,.int .i64 i6])->J3 b9 OK SY SZ jH)/\
    ∃l9:Sl,∃jK:World,((Instr.buildSlice 25 1 #[.mk 0 (.agg #[.int .i64 0,.string (ByteArray.mk #[]),.string (ByteArray.mk #[]),.string (ByteArray.mk #[]),Sl.nil.v,Sl.nil.v,Sl.nil.v,Sl.nil.v,.int .i64 0])]).run Tryz.prog cS)=(.ok l9.v jK)/\
    aD [k0] cS jK/\
    be J4 cS jK/\
    Calls Tryz.prog 143 #[.pointer (some r),.int .i64 i2] jK fun e3 jl=>∃i7:Int,∃s3 s4 s5:ByteArray,∃l10 qW rS wi:Sl,∃i8:Int,e3=(.returned (.agg #[.int .i64 i7,.string s3,.string s4,.string s5,l10.v,qW.v,rS.v,wi.v,.int .i64 i8]))/\
     aD [k0] jK jl/\
     be J4 jK jl/\
     ∃yd:Sl,∃lZ:World,((Builtin.append_ #[25,25] 25 #[l2.v,l9.v]).run Tryz.prog jl)=(.ok yd.v lZ)/\
     aD [k0] jl lZ/\
     be J4 jl lZ/\
     ∃p3:Addr,cD yd (l2.n:Int) 9 p3/\
     ∃p4:Addr,n_=(some p4)/\
     (∃k25 Q1:Nat,∃z6:List Value,∃k27:Nat,p3=⟨k25,Q1,none⟩/\
      Blk lZ k25 k27 z6/\
      (Q1+9)<=z6.length/\
      k0≠k25/\
      ∀rq:World,Only [k25] lZ rq->Blk rq k25 k27 (bF z6 Q1 [.int .i64 i7,.string s3,.string s4,.string s5,l10.v,qW.v,rS.v,wi.v,.int .i64 i8])->∃NN k29:Nat,∃z7:List Value,∃k30:Nat,(p4.add 7)=⟨NN,k29,none⟩/\
      Blk rq NN k30 z7/\
      (k29+1)<=z7.length/\
      k0≠NN/\
      ∀rr:World,Only [NN] rq rr->Blk rr NN k30 (bF z7 k29 [yd.v])->J3 b9 OK SY SZ rr)/\
     ∃k31 k32:Nat,∃z8:List Value,∃k33:Nat,(p4.add 7)=⟨k31,k32,none⟩/\
     Blk lZ k31 k33 z8/\
     (k32+1)<=z8.length/\
     k0≠k31/\
     ∀qe:World,Only [k31] lZ qe->Blk qe k31 k33 (bF z8 k32 [yd.v])->∃k34 k35:Nat,∃z9:List Value,∃k36:Nat,p3=⟨k34,k35,none⟩/\
     Blk qe k34 k36 z9/\
     (k35+9)<=z9.length/\
     k0≠k34/\
     ∀mG:World,Only [k34] qe mG->Blk mG k34 k36 (bF z9 k35 [.int .i64 i7,.string s3,.string s4,.string s5,l10.v,qW.v,rS.v,wi.v,.int .i64 i8])->J3 b9 OK SY SZ mG)/\
   ((decide (i2>0))=false->∃i9:Int,aB w6 ((r.add 4).add 2) [.int .i64 i9]/\
   ∃k37 k38:Nat,∃OP:List Value,∃k39:Nat,((r.add 4).add 2)=⟨k37,k38,none⟩/\
   Blk w6 k37 k39 OP/\
   (k38+1)<=OP.length/\
   k0≠k37/\
   ∀oC:World,Only [k37] w6 oC->Blk oC k37 k39 (bF OP k38 [.int .i64 (IntKind.wrap .i64 (i9+1))])->∃D2:Sl,∃qf:World,((Instr.buildSlice 52 1 #[.mk 0 (.string (ByteArray.mk #[125]))]).run Tryz.prog oC)=(.ok D2.v qf)/\
   aD [k0] oC qf/\
   Calls Tryz.prog 73 #[.pointer (some (r.add 0)),D2.v] qf fun e4 vd=>e4=(.returned (.tuple #[]))/\
    aD [k0] qf vd/\
    R (.tuple #[]) vd)))/\
 Calls Tryz.prog 78 #[.pointer (some (r.add 0))] w2 fun e5 vJ=>∃b17:Bool,e5=(.returned (.bool b17))/\
  aD [k0] w2 vJ/\
  (b17=true->Blk vJ k0 206 [.bool b0,.bool b1,.bool b2,.bool b3]->Calls Tryz.prog 142 #[.pointer (some r),.pointer n_,.pointer (some ⟨k0,0,none⟩)] vJ fun e6 FU=>∃b18:Bool,e6=(.returned (.bool b18))/\
   ∃b19 b20 b21 b22:Bool,Blk FU k0 206 [.bool b19,.bool b20,.bool b21,.bool b22]/\
   J1 b18 b19 b20 b21 b22 FU)/\
  (b17=false->J1 false b0 b1 b2 b3 vJ)
theorem YI (r:Addr) (n_:Option Addr) (R:Value->World->Prop) (w:World) (h:RP r n_ R w):Cr 77 #[.pointer (some r),.pointer n_] w R:=
 fB (an:=.s .o (.s .o (.s (.j [0,1,4] [.b 4 [.bool,.bool,.bool,.bool]] (.s (.s (.j [0,1,4] [.s 23 .bool,.b 4 [.bool,.bool,.bool,.bool]] .o .o) (.s .o .o)) .o) .o) (.s (.s .o (.j [0,1,4] [.s 5 (.int .i64),.b 4 [.bool,.bool,.bool,.bool]] (.s (.s .o (.s .o .o)) (.s (.s .o (.j [0,1,4] [.b 4 [.bool,.bool,.bool,.bool]] .o .o)) .o)) .o)) (.s .o .o))))) (args:=[.ad r,.ptr n_]) h
def RQ (r:Addr) (n_:Option Addr) (WX:Option Addr) (R:Value->World->Prop) (w:World):Prop:=
 ∃l0:Sl,∃w0:World,((Instr.buildSlice 52 3 #[.mk 0 (.string (ByteArray.mk #[111,110])),.mk 1 (.string (ByteArray.mk #[97,108,119,97,121,115])),.mk 2 (.string (ByteArray.mk #[97,102,116,101,114]))]).run Tryz.prog w)=(.ok l0.v w0)/\
 Calls Tryz.prog 141 #[.pointer (some (r.add 0)),l0.v] w0 fun e0 w1=>∃i0:Int,e0=(.returned (.int .i64 i0))/\
  ((decide (i0>0))=true->∀w2:World,Only [] w1 w2->∃J0:Nat->Prop,∃p0:Addr,n_=(some p0)/\
   J0 ((p0.add 6).block)/\
   ∃l1:Sl,aB w2 (p0.add 6) [l1.v]/\
   Calls Tryz.prog 208 #[.pointer (some r),.int .i64 i0] w2 fun e1 w3=>∃i1:Int,∃s0:ByteArray,∃i2:Int,∃b0:Bool,∃i3 i4:Int,∃s1:ByteArray,∃i5:Int,∃l2:Sl,∃i6:Int,∃l3 l4:Sl,∃i7:Int,e1=(.returned (.agg #[.int .i64 i1,.string s0,.int .i64 i2,.bool b0,.int .i64 i3,.int .i64 i4,.string s1,.int .i64 i5,l2.v,.int .i64 i6,l3.v,l4.v,.int .i64 i7]))/\
    be J0 w2 w3/\
    ∃l5:Sl,∃w4:World,((Instr.buildSlice 24 1 #[.mk 0 (.agg #[.int .i64 i1,.string s0,.int .i64 i2,.bool b0,.int .i64 i3,.int .i64 i4,.string s1,.int .i64 i5,l2.v,.int .i64 i6,l3.v,l4.v,.int .i64 i7])]).run Tryz.prog w3)=(.ok l5.v w4)/\
    be J0 w3 w4/\
    ∃l6:Sl,∃w5:World,((Builtin.append_ #[24,24] 24 #[l1.v,l5.v]).run Tryz.prog w4)=(.ok l6.v w5)/\
    be J0 w4 w5/\
    ∃p1:Addr,n_=(some p1)/\
    ∃k0 k1:Nat,∃z0:List Value,∃k2:Nat,(p1.add 6)=⟨k0,k1,none⟩/\
    Blk w5 k0 k2 z0/\
    (k1+1)<=z0.length/\
    ∀w6:World,Only [k0] w5 w6->Blk w6 k0 k2 (bF z0 k1 [l6.v])->R (.bool true) w6)/\
  ((decide (i0>0))=false->∃l7:Sl,∃w7:World,((Instr.buildSlice 52 3 #[.mk 0 (.string (ByteArray.mk #[105,110,105,116,105,97,108])),.mk 1 (.string (ByteArray.mk #[101,110,116,101,114])),.mk 2 (.string (ByteArray.mk #[108,101,97,118,101]))]).run Tryz.prog w1)=(.ok l7.v w7)/\
  Calls Tryz.prog 141 #[.pointer (some (r.add 0)),l7.v] w7 fun e2 w8=>∃i8:Int,e2=(.returned (.int .i64 i8))/\
   ((i8==0)=true->R (.bool false) w8)/\
   ((i8==0)=false->∃p2:Addr,WX=(some p2)/\
   ∃p3:Addr,Gn p2 i8 4 1 p3/\
   ∃b1:Bool,aB w8 p3 [.bool b1]/\
   (b1=true->Calls Tryz.prog 79 #[.pointer (some (r.add 0))] w8 fun e3 w9=>e3=(.returned (.tuple #[]))/\
    R (.bool false) w9)/\
   (b1=false->∃p4:Addr,WX=(some p4)/\
   ∃p5:Addr,Gn p4 i8 4 1 p5/\
   ∃k3 k4:Nat,∃z1:List Value,∃k5:Nat,p5=⟨k3,k4,none⟩/\
   Blk w8 k3 k5 z1/\
   (k4+1)<=z1.length/\
   ∀cI:World,Only [k3] w8 cI->Blk cI k3 k5 (bF z1 k4 [.bool true])->∃i9:Int,aB cI ((r.add 0).add 1) [.int .i64 i9]/\
   ∃k6 k7:Nat,∃z2:List Value,∃k8:Nat,((r.add 0).add 1)=⟨k6,k7,none⟩/\
   Blk cI k6 k8 z2/\
   (k7+1)<=z2.length/\
   ∀cS:World,Only [k6] cI cS->Blk cS k6 k8 (bF z2 k7 [.int .i64 (IntKind.wrap .i64 (i9+1))])->∃J1:World->Prop,(∀dK:World,J1 dK->R (.bool true) dK)/\
   ((i8==1)=true->Calls Tryz.prog 209 #[.pointer (some (r.add 0))] cS fun e4 dX=>∃s2:ByteArray,e4=(.returned (.string s2))/\
    ∃p6:Addr,n_=(some p6)/\
    ∃k9 uE:Nat,∃z3:List Value,∃qX:Nat,(p6.add 2)=⟨k9,uE,none⟩/\
    Blk dX k9 qX z3/\
    (uE+1)<=z3.length/\
    ∀eK:World,Only [k9] dX eK->Blk eK k9 qX (bF z3 uE [.string s2])->∃l8:Sl,∃gn:World,((Instr.buildSlice 52 1 #[.mk 0 (.string (ByteArray.mk #[59]))]).run Tryz.prog eK)=(.ok l8.v gn)/\
    Calls Tryz.prog 73 #[.pointer (some (r.add 0)),l8.v] gn fun e5 gR=>e5=(.returned (.tuple #[]))/\
     J1 gR)/\
   ((i8==1)=false->((i8==2)=true->Calls Tryz.prog 210 #[.pointer (some r)] cS fun e6 fR=>∃l9:Sl,e6=(.returned l9.v)/\
    ∃p7:Addr,n_=(some p7)/\
    ∃J6 vI:Nat,∃z4:List Value,∃OL:Nat,(p7.add 4)=⟨J6,vI,none⟩/\
    Blk fR J6 OL z4/\
    (vI+1)<=z4.length/\
    ∀jH:World,Only [J6] fR jH->Blk jH J6 OL (bF z4 vI [l9.v])->J1 jH)/\
   ((i8==2)=false->Calls Tryz.prog 210 #[.pointer (some r)] cS fun e7 jK=>∃l10:Sl,e7=(.returned l10.v)/\
    ∃p8:Addr,n_=(some p8)/\
    ∃OM D3:Nat,∃z5:List Value,∃OO:Nat,(p8.add 5)=⟨OM,D3,none⟩/\
    Blk jK OM OO z5/\
    (D3+1)<=z5.length/\
    ∀jl:World,Only [OM] jK jl->Blk jl OM OO (bF z5 D3 [l10.v])->J1 jl)))))
theorem YJ (r:Addr) (n_:Option Addr) (WX:Option Addr) (R:Value->World->Prop) (w:World) (h:RQ r n_ WX R w):Cr 142 #[.pointer (some r),.pointer n_,.pointer WX] w R:=
 fB (an:=.s .o (.s (.s .o (.s .o (.s (.s .o (.s .o .o)) .o))) (.s .o (.s (.s .o (.s (.s .o .o) .o)) (.s (.s .o (.s (.s .o (.s .o .o)) .o)) (.s .o (.s .o (.j [] [] (.s .o (.s .o (.s (.s .o .o) (.s .o (.s .o .o))))) (.s .o .o))))))))) (args:=[.ad r,.ptr n_,.ptr WX]) h
def RR (r:Addr) (kind:Int) (R:Value->World->Prop) (w:World):Prop:=
 ∀k0:Nat,∀w0:World,w.heap.size<=k0->k0<w0.heap.size->Only [] w w0->∃J0:Nat->Prop,J0 (((r.add 0).add 0).block)/\
 ∃l0:Sl,aB w0 ((r.add 0).add 0) [l0.v]/\
 J0 (((r.add 0).add 1).block)/\
 ∃i0:Int,aB w0 ((r.add 0).add 1) [.int .i64 i0]/\
 ∃p0:Addr,cD l0 i0 4 p0/\
 J0 ((p0.add 3).block)/\
 ∃i1:Int,aB w0 (p0.add 3) [.int .i64 i1]/\
 ∀k1:Nat,∀w1:World,w0.heap.size<=k1->k1<w1.heap.size->Only [] w0 w1->Calls Tryz.prog 138 #[.pointer (some r),.pointer (some ((r.add 4).add 3)),.int .i64 2] w1 fun e0 w2=>e0=(.returned (.tuple #[]))/\
  aD [k0,k1] w1 w2/\
  Calls Tryz.prog 78 #[.pointer (some (r.add 0))] w2 fun e1 w3=>∃b0:Bool,e1=(.returned (.bool b0))/\
   aD [k0,k1] w2 w3/\
   ((!b0)=true->∀w4:World,Only [k0] w3 w4->R (.agg #[.int .i64 kind,.string (ByteArray.mk #[]),.int .i64 0,.bool false,.int .i64 0,.int .i64 0,.string (ByteArray.mk #[]),.int .i64 0,Sl.nil.v,.int .i64 0,Sl.nil.v,Sl.nil.v,.int .i64 i1]) w4)/\
   ((!b0)=false->∃i2:Int,aB w3 ((r.add 0).add 1) [.int .i64 i2]/\
   ∃k2 k3:Nat,∃z0:List Value,∃k4:Nat,((r.add 0).add 1)=⟨k2,k3,none⟩/\
   Blk w3 k2 k4 z0/\
   (k3+1)<=z0.length/\
   k0≠k2/\
   k1≠k2/\
   ∀w5:World,Only [k2] w3 w5->Blk w5 k2 k4 (bF z0 k3 [.int .i64 (IntKind.wrap .i64 (i2+1))])->∃J1:Int->ByteArray->Int->Bool->Int->Int->ByteArray->Int->Sl->Int->Sl->Sl->Int->World->Prop,(∀i3:Int,∀s0:ByteArray,∀i4:Int,∀b1:Bool,∀i5 i6:Int,∀s1:ByteArray,∀i7:Int,∀l1:Sl,∀i8:Int,∀l2 l3:Sl,∀i9:Int,∀w6:World,J1 i3 s0 i4 b1 i5 i6 s1 i7 l1 i8 l2 l3 i9 w6->∃J2:Int->ByteArray->Int->Bool->Int->Int->ByteArray->Int->Sl->Int->Sl->Sl->Int->World->Prop,(∀i10:Int,∀s2:ByteArray,∀i11:Int,∀b2:Bool,∀i12 i13:Int,∀s3:ByteArray,∀i14:Int,∀l4:Sl,∀i15:Int,∀l5 l6:Sl,∀i16:Int,∀w7:World,J2 i10 s2 i11 b2 i12 i13 s3 i14 l4 i15 l5 l6 i16 w7->∃J3:Int->ByteArray->Int->Bool->Int->Int->ByteArray->Int->Sl->Int->Sl->Sl->Int->World->Prop,(∀i17:Int,∀s4:ByteArray,∀i18:Int,∀b3:Bool,∀i19 i20:Int,∀s5:ByteArray,∀i21:Int,∀l7:Sl,∀i22:Int,∀l8 l9:Sl,∀i23:Int,∀w8:World,J3 i17 s4 i18 b3 i19 i20 s5 i21 l7 i22 l8 l9 i23 w8->∃J4:Nat->ByteArray->Int->ByteArray->Int->Bool->Int->Int->ByteArray->Int->Sl->Int->Sl->Sl->Int->World->Prop,∃k5:Nat,J4 k5 (ByteArray.mk #[45,62]) i17 s4 i18 b3 i19 i20 s5 i21 l7 i22 l8 l9 i23 w8/\
      ∀k6:Nat,∀s6:ByteArray,∀i24:Int,∀s7:ByteArray,∀i25:Int,∀b4:Bool,∀i26 i27:Int,∀s8:ByteArray,∀i28:Int,∀l10:Sl,∀i29:Int,∀qW rS:Sl,∀i30:Int,∀w9:World,J4 k6 s6 i24 s7 i25 b4 i26 i27 s8 i28 l10 i29 qW rS i30 w9->∃wi:Sl,∃cI:World,((Instr.buildSlice 52 1 #[.mk 0 (.string s6)]).run Tryz.prog w9)=(.ok wi.v cI)/\
      aD [k0,k1] w9 cI/\
      Calls Tryz.prog 75 #[.pointer (some (r.add 0)),wi.v] cI fun e2 cS=>∃i31:Int,e2=(.returned (.int .i64 i31))/\
       aD [k0,k1] cI cS/\
       ((decide (i31>0))=true->∀dK:World,Only [] cS dK->∃J5:Nat->Prop,J5 k1/\
        Calls Tryz.prog 209 #[.pointer (some (r.add 0))] dK fun e3 dX=>∃s9:ByteArray,e3=(.returned (.string s9))/\
         aD [k0,k1] dK dX/\
         be J5 dK dX/\
         ∃yd:Sl,∃eK:World,((Instr.buildSlice 52 1 #[.mk 0 (.string s9)]).run Tryz.prog dX)=(.ok yd.v eK)/\
         aD [k0,k1] dX eK/\
         be J5 dX eK/\
         ∃D2:Sl,∃gn:World,((Builtin.append_ #[52,52] 52 #[rS.v,yd.v]).run Tryz.prog eK)=(.ok D2.v gn)/\
         aD [k0,k1] eK gn/\
         be J5 eK gn/\
         ∀gR:World,Only [k1] gn gR->∃k7:Nat,k7<k6/\
         J4 k7 (ByteArray.mk #[44]) i24 s7 i25 b4 i26 i27 s8 i28 l10 i29 qW D2 i30 gR)/\
       ((decide (i31>0))=false->∃OH:Sl,∃fR:World,((Instr.buildSlice 52 1 #[.mk 0 (.string (ByteArray.mk #[59]))]).run Tryz.prog cS)=(.ok OH.v fR)/\
       aD [k0,k1] cS fR/\
       Calls Tryz.prog 73 #[.pointer (some (r.add 0)),OH.v] fR fun e4 jH=>e4=(.returned (.tuple #[]))/\
        aD [k0,k1] fR jH/\
        ∀jK:World,Only [k0] jH jK->R (.agg #[.int .i64 i24,.string s7,.int .i64 i25,.bool b4,.int .i64 i26,.int .i64 i27,.string s8,.int .i64 i28,l10.v,.int .i64 i29,qW.v,rS.v,.int .i64 i30]) jK))/\
     ∃OI:Sl,∃jl:World,((Instr.buildSlice 52 1 #[.mk 0 (.string (ByteArray.mk #[123]))]).run Tryz.prog w7)=(.ok OI.v jl)/\
     aD [k0,k1] w7 jl/\
     Calls Tryz.prog 141 #[.pointer (some (r.add 0)),OI.v] jl fun e5 lZ=>∃i32:Int,e5=(.returned (.int .i64 i32))/\
      aD [k0,k1] jl lZ/\
      ((decide (i32>0))=true->Calls Tryz.prog 210 #[.pointer (some r)] lZ fun e6 rq=>∃SU:Sl,e6=(.returned SU.v)/\
       aD [k0,k1] lZ rq/\
       ∀rr:World,Only [k1] rq rr->J3 i10 s2 i11 b2 i12 i13 s3 i14 l4 i15 SU l6 i16 rr)/\
      ((decide (i32>0))=false->J3 i10 s2 i11 b2 i12 i13 s3 i14 l4 i15 l5 l6 i16 lZ))/\
    ∃Vk:Sl,∃qe:World,((Instr.buildSlice 52 1 #[.mk 0 (.string (ByteArray.mk #[91]))]).run Tryz.prog w6)=(.ok Vk.v qe)/\
    aD [k0,k1] w6 qe/\
    Calls Tryz.prog 75 #[.pointer (some (r.add 0)),Vk.v] qe fun e7 mG=>∃i33:Int,e7=(.returned (.int .i64 i33))/\
     aD [k0,k1] qe mG/\
     ((decide (i33>0))=true->∀oC:World,Only [k1] mG oC->Calls Tryz.prog 253 #[.pointer (some (r.add 0))] oC fun e8 qf=>∃i34 i35:Int,∃FP:ByteArray,∃i36:Int,∃QZ:Sl,∃i37:Int,e8=(.returned (.agg #[.int .i64 i34,.int .i64 i35,.string FP,.int .i64 i36,QZ.v,.int .i64 i37]))/\
      aD [k0,k1] oC qf/\
      ∀vd:World,Only [k1] qf vd->∃Vl:Sl,∃vJ:World,((Instr.buildSlice 52 1 #[.mk 0 (.string (ByteArray.mk #[93]))]).run Tryz.prog vd)=(.ok Vl.v vJ)/\
      aD [k0,k1] vd vJ/\
      Calls Tryz.prog 73 #[.pointer (some (r.add 0)),Vl.v] vJ fun e9 FU=>e9=(.returned (.tuple #[]))/\
       aD [k0,k1] vJ FU/\
       J2 i3 s0 i4 (decide (i33>0)) i34 i35 FP i36 QZ i37 l2 l3 i9 FU)/\
     ((decide (i33>0))=false->∀OQ:World,Only [k1] mG OQ->J2 i3 s0 i4 (decide (i33>0)) i5 i6 s1 i7 l1 i8 l2 l3 i9 OQ))/\
   ((kind==1)=true->Calls Tryz.prog 209 #[.pointer (some (r.add 0))] w5 fun D4 Vp=>∃FQ:ByteArray,D4=(.returned (.string FQ))/\
    aD [k0,k1] w5 Vp/\
    ∀WY:World,Only [k1] Vp WY->J1 kind FQ 0 false 0 0 (ByteArray.mk #[]) 0 Sl.nil 0 Sl.nil Sl.nil i1 WY)/\
   ((kind==1)=false->((kind==3)=true->Calls Tryz.prog 140 #[.pointer (some (r.add 0)),.int .i64 3] w5 fun NP Vq=>∃i38:Int,∃NL:ByteArray,∃i39 i40:Int,NP=(.returned (.agg #[.int .i64 i38,.string NL,.int .i64 i39,.int .i64 i40]))/\
    aD [k0,k1] w5 Vq/\
    ∀WZ:World,Only [k1] Vq WZ->J1 kind (ByteArray.mk #[]) i39 false 0 0 (ByteArray.mk #[]) 0 Sl.nil 0 Sl.nil Sl.nil i1 WZ)/\
   ((kind==3)=false->J1 kind (ByteArray.mk #[]) 0 false 0 0 (ByteArray.mk #[]) 0 Sl.nil 0 Sl.nil Sl.nil i1 w5)))
theorem YK (r:Addr) (kind:Int) (R:Value->World->Prop) (w:World) (h:RR r kind R w):Cr 208 #[.pointer (some r),.int .i64 kind] w R:=
 fB (an:=.s .o (.s .o (.s (.s .o (.s .o (.s (.s .o .o) .o))) (.s .o (.j [0,4,5] [.b 5 [.int .i64,.str,.int .i64,.bool,.int .i64,.int .i64,.str,.int .i64,.sl,.int .i64,.sl,.sl,.int .i64]] (.s .o (.s .o (.s .o (.s .o (.s .o .o))))) (.j [0,4,5] [.b 5 [.int .i64,.str,.int .i64,.bool,.int .i64,.int .i64,.str,.int .i64,.sl,.int .i64,.sl,.sl,.int .i64]] (.s .o (.s .o (.s (.s .o .o) .o))) (.j [0,4,5] [.b 5 [.int .i64,.str,.int .i64,.bool,.int .i64,.int .i64,.str,.int .i64,.sl,.int .i64,.sl,.sl,.int .i64]] (.s .o (.s .o .o)) (.s (.s .o (.j [0,4,5] [.s 6 .str,.b 5 [.int .i64,.str,.int .i64,.bool,.int .i64,.int .i64,.str,.int .i64,.sl,.int .i64,.sl,.sl,.int .i64]] (.s (.s .o (.s .o .o)) (.s .o .o)) .o)) (.s .o (.s .o .o)))))))))) (args:=[.ad r,.int .i64 kind]) h
def RS (c:Addr) (R:Value->World->Prop) (w:World):Prop:=
 Calls Tryz.prog 140 #[.pointer (some c),.int .i64 1] w fun e0 w0=>∃i0:Int,∃s0:ByteArray,∃i1 i2:Int,e0=(.returned (.agg #[.int .i64 i0,.string s0,.int .i64 i1,.int .i64 i2]))/\
  R (.string s0) w0
theorem YL (c:Addr) (R:Value->World->Prop) (w:World) (h:RS c R w):Cr 209 #[.pointer (some c)] w R:=
 fB (an:=.s .o (.s .o .o)) (args:=[.ad c]) h
def RT (c:Addr) (R:Value->World->Prop) (w:World):Prop:=
 ∀k0:Nat,∀w0:World,w.heap.size<=k0->k0<w0.heap.size->Only [] w w0->Calls Tryz.prog 78 #[.pointer (some c)] w0 fun e0 w1=>∃b0:Bool,e0=(.returned (.bool b0))/\
  aD [k0] w0 w1/\
  ((!b0)=true->∀w2:World,Only [k0] w1 w2->R (.agg #[.int .i64 0,.int .i64 0,.string (ByteArray.mk #[]),.int .i64 0,Sl.nil.v,.int .i64 0]) w2)/\
  ((!b0)=false->∀w3:World,Only [] w1 w3->∃J0:Nat->Prop,∀w4:World,Only [] w3 w4->J0 ((c.add 0).block)/\
  ∃l0:Sl,aB w4 (c.add 0) [l0.v]/\
  ∀w5:World,Only [] w4 w5->J0 ((c.add 1).block)/\
  ∃i0:Int,aB w5 (c.add 1) [.int .i64 i0]/\
  ∀w6:World,Only [] w5 w6->Calls Tryz.prog 288 #[l0.v,.int .i64 i0] w6 fun e1 w7=>∃i1 i2:Int,∃s0:ByteArray,∃i3:Int,∃l1:Sl,∃i4 i5 i6 i7:Int,e1=(.returned (.tuple #[.agg #[.int .i64 i1,.int .i64 i2,.string s0,.int .i64 i3,l1.v,.int .i64 i4],.int .i64 i5,.agg #[.int .i64 i6,.int .i64 i7]]))/\
   aD [k0] w6 w7/\
   iz w3 w6 w7/\
   be J0 w6 w7/\
   ∀w8:World,Only [] w7 w8->∀k1:Nat,w3.heap.size<=k1->k1<w8.heap.size->pv [.mk w6.heap.size w7.heap.size] k1->((i6 !=0)=true->∀w9:World,Only [k1,k0] w8 w9->∃k2 k3:Nat,∃z0:List Value,∃k4:Nat,(c.add 2)=⟨k2,k3,none⟩/\
    Blk w9 k2 k4 z0/\
    (k3+2)<=z0.length/\
    k0≠k2/\
    k1≠k2/\
    ∀cI:World,Only [k2] w9 cI->Blk cI k2 k4 (bF z0 k3 [.int .i64 i6,.int .i64 i7])->∀cS:World,Only [k0] cI cS->R (.agg #[.int .i64 i1,.int .i64 i2,.string s0,.int .i64 i3,l1.v,.int .i64 i4]) cS)/\
   ((i6 !=0)=false->∀dK:World,Only [k1,k0] w8 dK->∃k5 k6:Nat,∃z1:List Value,∃k7:Nat,(c.add 1)=⟨k5,k6,none⟩/\
   Blk dK k5 k7 z1/\
   (k6+1)<=z1.length/\
   k0≠k5/\
   k1≠k5/\
   ∀dX:World,Only [k5] dK dX->Blk dX k5 k7 (bF z1 k6 [.int .i64 i5])->∀eK:World,Only [k0] dX eK->R (.agg #[.int .i64 i1,.int .i64 i2,.string s0,.int .i64 i3,l1.v,.int .i64 i4]) eK))
theorem YM (c:Addr) (R:Value->World->Prop) (w:World) (h:RT c R w):Cr 253 #[.pointer (some c)] w R:=
 fB (an:=.s .o (.s (.s .o (.s (.s .o .o) .o)) (.s (.l false [] []) (.s (.s .o (.s (.s .o (.s .o .o)) .o)) (.s .o (.s .o .o)))))) (args:=[.ad c]) h
def v4v (l:Sl) (at_:Int) (R:Value->World->Prop) (w:World):Prop:=
 ∀k0 k1:Nat,∀w0:World,w.heap.size<=k0->k0<w0.heap.size->w.heap.size<=k1->k1<w0.heap.size->Only [] w w0->Calls Tryz.prog 304 #[l.v,.func (.func 305) #[] #[]] w0 fun e0 w1=>∃i0:Int,e0=(.returned (.int .i64 i0))/\
  aD [k0,k1] w0 w1/\
  ((((decide (at_<0))||(decide (at_>=(l.n:Int))))||(i0 !=(IntKind.wrap .i64 ((l.n:Int)-1))))=true->∀w2:World,Only [k1,k0] w1 w2->R (.tuple #[.agg #[.int .i64 0,.int .i64 0,.string (ByteArray.mk #[]),.int .i64 0,Sl.nil.v,.int .i64 0],.int .i64 0,.agg #[.int .i64 1,.int .i64 (-1)]]) w2)/\
  ((((decide (at_<0))||(decide (at_>=(l.n:Int))))||(i0 !=(IntKind.wrap .i64 ((l.n:Int)-1))))=false->Calls Tryz.prog 263 #[] w1 fun e1 w3=>∃l0:Sl,e1=(.returned l0.v)/\
   aD [k0,k1] w1 w3/\
   ∀k2:Nat,∀w4:World,w3.heap.size<=k2->k2<w4.heap.size->Only [] w3 w4->Blk w4 k2 331 [l.v,.int .i64 at_,.int .i64 0,.int .i64 0,.int .i64 0,l0.v]->Calls Tryz.prog 306 #[.pointer (some ⟨k2,0,none⟩),.int .i64 0] w4 fun e2 w5=>∃i1 i2:Int,∃s0:ByteArray,∃i3:Int,∃l1:Sl,∃i4:Int,e2=(.returned (.agg #[.int .i64 i1,.int .i64 i2,.string s0,.int .i64 i3,l1.v,.int .i64 i4]))/\
    aD [k0,k1] w4 w5/\
    ∃l2:Sl,∃i5 i6 i7 i8:Int,∃l3:Sl,Blk w5 k2 331 [l2.v,.int .i64 i5,.int .i64 i6,.int .i64 i7,.int .i64 i8,l3.v]/\
    ∀k3:Nat,∀w6:World,w5.heap.size<=k3->k3<w6.heap.size->Only [] w5 w6->Blk w6 k2 331 [l2.v,.int .i64 i5,.int .i64 i6,.int .i64 i7,.int .i64 i8,l3.v]->Calls Tryz.prog 307 #[.pointer (some ⟨k2,0,none⟩)] w6 fun e3 w7=>∃b0:Bool,e3=(.returned (.bool b0))/\
     aD [k0,k1,k3] w6 w7/\
     ∃l4:Sl,∃i9 i10 i11 i12:Int,∃l5:Sl,Blk w7 k2 331 [l4.v,.int .i64 i9,.int .i64 i10,.int .i64 i11,.int .i64 i12,l5.v]/\
     (b0=true->∀w8:World,Only [] w7 w8->Blk w8 k2 331 [l4.v,.int .i64 i9,.int .i64 i10,.int .i64 i11,.int .i64 i12,l5.v]->k0≠k1->k0≠k2->k0≠k3->k1≠k2->k1≠k3->k2≠k3->∃J0:Nat->Prop,J0 k2/\
      vm J0 k0/\
      vm J0 k1/\
      ∀w9:World,Only [k1,k0] w8 w9->Blk w9 k2 331 [l4.v,.int .i64 i9,.int .i64 i10,.int .i64 i11,.int .i64 i12,l5.v]->R (.tuple #[.agg #[.int .i64 0,.int .i64 0,.string (ByteArray.mk #[]),.int .i64 0,Sl.nil.v,.int .i64 0],.int .i64 0,.agg #[.int .i64 i10,.int .i64 i11]]) w9)/\
     (b0=false->∀cI:World,Only [] w7 cI->Blk cI k2 331 [l4.v,.int .i64 i9,.int .i64 i10,.int .i64 i11,.int .i64 i12,l5.v]->k0≠k1->k0≠k2->k0≠k3->k1≠k2->k1≠k3->k2≠k3->∃J1:Nat->Prop,J1 k2/\
     vm J1 k0/\
     vm J1 k1/\
     ∀cS:World,Only [k1,k0] cI cS->Blk cS k2 331 [l4.v,.int .i64 i9,.int .i64 i10,.int .i64 i11,.int .i64 i12,l5.v]->R (.tuple #[.agg #[.int .i64 i1,.int .i64 i2,.string s0,.int .i64 i3,l1.v,.int .i64 i4],.int .i64 i9,.agg #[.int .i64 0,.int .i64 0]]) cS))
theorem v4w (l:Sl) (at_:Int) (R:Value->World->Prop) (w:World) (h:v4v l at_ R w):Cr 288 #[l.v,.int .i64 at_] w R:=
 fB (an:=.s .o (.s .o (.s (.s .o (.s (.s .o .o) .o)) (.s .o (.s .o (.s (.s .o (.s (.s .o .o) .o)) (.s .o .o))))))) (args:=[.sl l,.int .i64 at_]) h
def YN (s:Sl) (f:OV) (R:Value->World->Prop) (w:World):Prop:=
 ∃J0:Nat->Int->World->Prop,∃k0:Nat,J0 k0 0 w/\
 ∀k1:Nat,∀i0:Int,∀w0:World,J0 k1 i0 w0->((decide (i0<(s.n:Int)))=true->∃p0:Addr,cD s i0 4 p0/\
  ∃i1:Int,∃s0:ByteArray,∃i2 i3:Int,aB w0 p0 [.int .i64 i1,.string s0,.int .i64 i2,.int .i64 i3]/\
  ∃k2:Nat,∃z0:List Value,∃z1:List Value,f.v=(.func (.func k2) z0.toArray z1.toArray)/\
  (∀x0:Array Value,∀w1:World,((callFunc k2 x0).run Tryz.prog w1)=(.ok (.enter k2 x0) w1))/\
  Calls Tryz.prog k2 ((vi (vi z0 [.agg #[.int .i64 i1,.string s0,.int .i64 i2,.int .i64 i3]]) z1).toArray) w0 fun e0 w2=>∃b0:Bool,e0=(.returned (.bool b0))/\
   (b0=true->R (.int .i64 i0) w2)/\
   (b0=false->∃k3:Nat,k3<k1/\
   J0 k3 (IntKind.wrap .i64 (i0+1)) w2))/\
 ((decide (i0<(s.n:Int)))=false->R (.int .i64 (-1)) w0)
theorem ae6 (s:Sl) (f:OV) (R:Value->World->Prop) (w:World) (h:YN s f R w):Cr 304 #[s.v,f.v] w R:=
 fB (an:=.s .o (.s (.s .o (.j [0,1,7] [.s 8 (.int .i64)] (.s .o (.s (.s .o .o) (.s (.s .o (.s .o (.s (.s .o .o) .o))) .o))) .o)) (.s .o .o))) (args:=[.sl s,.raw f]) h
def v3v (t:Int) (t1:ByteArray) (t2 t3:Int) (R:Value->World->Prop) (w:World):Prop:=
 ∀k0:Nat,∀w0:World,w.heap.size<=k0->k0<w0.heap.size->Only [] w w0->R (.bool (t==5)) w0
theorem v3w (t:Int) (t1:ByteArray) (t2 t3:Int) (R:Value->World->Prop) (w:World) (h:v3v t t1 t2 t3 R w):Cr 305 #[.agg #[.int .i64 t,.string t1,.int .i64 t2,.int .i64 t3]] w R:=
 fB (an:=.s .o (.s .o .o)) (args:=[.agg (ld [.int .i64 t,.str t1,.int .i64 t2,.int .i64 t3])]) h
def YO (R:Value->World->Prop) (w:World):Prop:=
 ∃l0:Sl,∃w0:World,((Instr.buildSlice 52 16 #[.mk 1 (.string (ByteArray.mk #[43])),.mk 2 (.string (ByteArray.mk #[45])),.mk 3 (.string (ByteArray.mk #[42])),.mk 4 (.string (ByteArray.mk #[47])),.mk 5 (.string (ByteArray.mk #[37])),.mk 6 (.string (ByteArray.mk #[60])),.mk 7 (.string (ByteArray.mk #[60,61])),.mk 8 (.string (ByteArray.mk #[62])),.mk 9 (.string (ByteArray.mk #[62,61])),.mk 10 (.string (ByteArray.mk #[61,61])),.mk 11 (.string (ByteArray.mk #[33,61])),.mk 12 (.string (ByteArray.mk #[38,38])),.mk 13 (.string (ByteArray.mk #[124,124])),.mk 14 (.string (ByteArray.mk #[45])),.mk 15 (.string (ByteArray.mk #[33]))]).run Tryz.prog w)=(.ok l0.v w0)/\
 R l0.v w0
theorem ae7 (R:Value->World->Prop) (w:World) (h:YO R w):Cr 263 #[] w R:=
 fB (an:=.s .o (.s .o .o)) (args:=[]) h
def TV (r:Addr) (k:Int) (R:Value->World->Prop) (w:World):Prop:=
 ((k==6)=true->∀k0:Nat,∀w0:World,w.heap.size<=k0->k0<w0.heap.size->Only [] w w0->Calls Tryz.prog 318 #[.pointer (some r)] w0 fun e0 w1=>∃i0 i1:Int,∃s0:ByteArray,∃i2:Int,∃l0:Sl,∃i3:Int,e0=(.returned (.agg #[.int .i64 i0,.int .i64 i1,.string s0,.int .i64 i2,l0.v,.int .i64 i3]))/\
  aD [k0] w0 w1/\
  ∀w2:World,Only [k0] w1 w2->R (.agg #[.int .i64 i0,.int .i64 i1,.string s0,.int .i64 i2,l0.v,.int .i64 i3]) w2)/\
 ((k==6)=false->∀k1:Nat,∀w3:World,w.heap.size<=k1->k1<w3.heap.size->Only [] w w3->Calls Tryz.prog 306 #[.pointer (some r),.int .i64 (IntKind.wrap .i64 (k+1))] w3 fun e1 w4=>∃i4 i5:Int,∃s1:ByteArray,∃i6:Int,∃l1:Sl,∃i7:Int,e1=(.returned (.agg #[.int .i64 i4,.int .i64 i5,.string s1,.int .i64 i6,l1.v,.int .i64 i7]))/\
  aD [k1] w3 w4/\
  ∀k2:Nat,∀w5:World,w4.heap.size<=k2->k2<w5.heap.size->Only [] w4 w5->Calls Tryz.prog 319 #[.pointer (some r),.int .i64 k] w5 fun e2 w6=>∃i8:Int,e2=(.returned (.int .i64 i8))/\
   aD [k1,k2] w5 w6/\
   ∃J0:Nat->Int->Int->Int->ByteArray->Int->Sl->Int->World->Prop,∃k3:Nat,J0 k3 i8 i4 i5 s1 i6 l1 i7 w6/\
   ∀k4:Nat,∀i9 i10 i11:Int,∀s2:ByteArray,∀i12:Int,∀l2:Sl,∀i13:Int,∀w7:World,J0 k4 i9 i10 i11 s2 i12 l2 i13 w7->((i9 !=0)=true->∃i14:Int,aB w7 ((r.add 0).add 1) [.int .i64 i14]/\
    ∃k5 k6:Nat,∃z0:List Value,∃k7:Nat,((r.add 0).add 1)=⟨k5,k6,none⟩/\
    Blk w7 k5 k7 z0/\
    (k6+1)<=z0.length/\
    k1≠k5/\
    k2≠k5/\
    ∀w8:World,Only [k5] w7 w8->Blk w8 k5 k7 (bF z0 k6 [.int .i64 (IntKind.wrap .i64 (i14+1))])->Calls Tryz.prog 306 #[.pointer (some r),.int .i64 (IntKind.wrap .i64 (k+1))] w8 fun e3 w9=>∃i15 i16:Int,∃s3:ByteArray,∃i17:Int,∃l3:Sl,∃i18:Int,e3=(.returned (.agg #[.int .i64 i15,.int .i64 i16,.string s3,.int .i64 i17,l3.v,.int .i64 i18]))/\
     aD [k1,k2] w8 w9/\
     ∀k8:Nat,∀cI:World,w9.heap.size<=k8->k8<cI.heap.size->Only [] w9 cI->∃l4:Sl,∃cS:World,((Instr.buildSlice 49 2 #[.mk 0 (.agg #[.int .i64 i10,.int .i64 i11,.string s2,.int .i64 i12,l2.v,.int .i64 i13]),.mk 1 (.agg #[.int .i64 i15,.int .i64 i16,.string s3,.int .i64 i17,l3.v,.int .i64 i18])]).run Tryz.prog cI)=(.ok l4.v cS)/\
     aD [k1,k2,k8] cI cS/\
     ∀dK:World,Only [k2] cS dK->Calls Tryz.prog 319 #[.pointer (some r),.int .i64 k] dK fun e4 dX=>∃i19:Int,e4=(.returned (.int .i64 i19))/\
      aD [k1,k2,k8] dK dX/\
      ∃k9:Nat,k9<k4/\
      J0 k9 i19 5 0 (ByteArray.mk #[]) i9 l4 i13 dX)/\
   ((i9 !=0)=false->∀eK:World,Only [k1] w7 eK->R (.agg #[.int .i64 i10,.int .i64 i11,.string s2,.int .i64 i12,l2.v,.int .i64 i13]) eK))
theorem YP (r:Addr) (k:Int) (R:Value->World->Prop) (w:World) (h:TV r k R w):Cr 306 #[.pointer (some r),.int .i64 k] w R:=
 fB (an:=.s .o (.s (.s .o (.s (.s .o .o) .o)) (.s .o (.s (.s .o (.j [0,1,4,5] [.s 6 (.int .i64),.b 5 [.int .i64,.int .i64,.str,.int .i64,.sl,.int .i64]] (.s (.s .o (.s .o .o)) (.s (.s .o (.s .o .o)) .o)) .o)) (.s .o .o))))) (args:=[.ad r,.int .i64 k]) h
def YQ (r:Addr) (R:Value->World->Prop) (w:World):Prop:=
 ∀k0 k1:Nat,∀w0:World,w.heap.size<=k0->k0<w0.heap.size->w.heap.size<=k1->k1<w0.heap.size->Only [] w w0->Calls Tryz.prog 328 #[.pointer (some (r.add 0))] w0 fun e0 w1=>∃i0:Int,∃s0:ByteArray,∃i1 i2:Int,e0=(.returned (.agg #[.int .i64 i0,.string s0,.int .i64 i1,.int .i64 i2]))/\
  aD [k0,k1] w0 w1/\
  ∀k2 k3:Nat,∀w2:World,w1.heap.size<=k2->k2<w2.heap.size->w1.heap.size<=k3->k3<w2.heap.size->Only [] w1 w2->∃J0:Option Addr->Int->Int->ByteArray->Int->Sl->Int->Int->Int->ByteArray->Int->Sl->Int->World->Prop,(∀q0:Option Addr,∀i3 i4:Int,∀s1:ByteArray,∀i5:Int,∀l0:Sl,∀i6 i7 i8:Int,∀s2:ByteArray,∀i9:Int,∀l1:Sl,∀i10:Int,∀w3:World,J0 q0 i3 i4 s1 i5 l0 i6 i7 i8 s2 i9 l1 i10 w3->∃p0:Addr,q0=(some p0)/\
   ∃i11:Int,aB w3 ((p0.add 0).add 1) [.int .i64 i11]/\
   ∃p1:Addr,q0=(some p1)/\
   ∃k4 k5:Nat,∃z0:List Value,∃k6:Nat,((p1.add 0).add 1)=⟨k4,k5,none⟩/\
   Blk w3 k4 k6 z0/\
   (k5+1)<=z0.length/\
   k0≠k4/\
   k1≠k4/\
   k2≠k4/\
   k3≠k4/\
   ∀w4:World,Only [k4] w3 w4->Blk w4 k4 k6 (bF z0 k5 [.int .i64 (IntKind.wrap .i64 (i11+1))])->∀w5:World,Only [k1] w4 w5->R (.agg #[.int .i64 i7,.int .i64 i8,.string s2,.int .i64 i9,l1.v,.int .i64 i10]) w5)/\
  Calls Tryz.prog 307 #[.pointer (some (r.add 0))] w2 fun e1 w6=>∃b0:Bool,e1=(.returned (.bool b0))/\
   aD [k0,k1,k2,k3] w2 w6/\
   (b0=true->∀w7:World,Only [k1] w6 w7->R (.agg #[.int .i64 0,.int .i64 0,.string (ByteArray.mk #[]),.int .i64 0,Sl.nil.v,.int .i64 i2]) w7)/\
   (b0=false->∃l2:Sl,∃w8:World,((Instr.buildSlice 52 2 #[.mk 0 (.string (ByteArray.mk #[45])),.mk 1 (.string (ByteArray.mk #[33]))]).run Tryz.prog w6)=(.ok l2.v w8)/\
   aD [k0,k1,k2,k3] w6 w8/\
   Calls Tryz.prog 329 #[.pointer (some (r.add 0)),l2.v] w8 fun e2 w9=>∃b1:Bool,e2=(.returned (.bool b1))/\
    aD [k0,k1,k2,k3] w8 w9/\
    (b1=true->∀cI:World,Only [k3] w9 cI->∃J1:Int->Int->ByteArray->Int->Sl->Int->World->Prop,(∀i12 i13:Int,∀s3:ByteArray,∀i14:Int,∀l3:Sl,∀i15:Int,∀cS:World,J1 i12 i13 s3 i14 l3 i15 cS->Calls Tryz.prog 330 #[.pointer (some r),.func (.func 318) #[.pointer (some r)] #[]] cS fun e3 dK=>∃i16 i17:Int,∃s4:ByteArray,∃i18:Int,∃l4:Sl,∃i19:Int,e3=(.returned (.agg #[.int .i64 i16,.int .i64 i17,.string s4,.int .i64 i18,l4.v,.int .i64 i19]))/\
      aD [k0,k1,k2,k3] cS dK/\
      ∃l5:Sl,∃dX:World,((Instr.buildSlice 49 1 #[.mk 0 (.agg #[.int .i64 i16,.int .i64 i17,.string s4,.int .i64 i18,l4.v,.int .i64 i19])]).run Tryz.prog dK)=(.ok l5.v dX)/\
      aD [k0,k1,k2,k3] dK dX/\
      ∀eK:World,Only [k1,k3] dX eK->R (.agg #[.int .i64 i12,.int .i64 i13,.string s3,.int .i64 i14,l5.v,.int .i64 i15]) eK)/\
     ((s0.toList==((ByteArray.mk #[33]).toList))=true->∀gn:World,Only [k3] cI gn->J1 4 0 (ByteArray.mk #[]) 15 Sl.nil i2 gn)/\
     ((s0.toList==((ByteArray.mk #[33]).toList))=false->J1 4 0 (ByteArray.mk #[]) 14 Sl.nil i2 cI))/\
    (b1=false->∃l6:Sl,∃gR:World,((Instr.buildSlice 52 1 #[.mk 0 (.string (ByteArray.mk #[40]))]).run Tryz.prog w9)=(.ok l6.v gR)/\
    aD [k0,k1,k2,k3] w9 gR/\
    Calls Tryz.prog 329 #[.pointer (some (r.add 0)),l6.v] gR fun e4 fR=>∃b2:Bool,e4=(.returned (.bool b2))/\
     aD [k0,k1,k2,k3] gR fR/\
     (b2=true->Blk fR k0 327 [.pointer (some r)]->k1≠k0->k2≠k0->k3≠k0->Calls Tryz.prog 330 #[.pointer (some r),.func (.func 331) #[] #[.pointer (some ⟨k0,0,none⟩)]] fR fun e5 jH=>∃i20 i21:Int,∃s5:ByteArray,∃i22:Int,∃l7:Sl,∃i23:Int,e5=(.returned (.agg #[.int .i64 i20,.int .i64 i21,.string s5,.int .i64 i22,l7.v,.int .i64 i23]))/\
      aD [k1,k2,k3] fR jH/\
      ∃q1:Option Addr,Blk jH k0 327 [.pointer q1]/\
      ∀jK:World,Only [k1] jH jK->Blk jK k0 327 [.pointer q1]->R (.agg #[.int .i64 i20,.int .i64 i21,.string s5,.int .i64 i22,l7.v,.int .i64 i23]) jK)/\
     (b2=false->((i0==3)=true->∀jl:World,Only [] fR jl->k0≠k1->k0≠k2->k0≠k3->k1≠k2->k1≠k3->k2≠k3->∃J2:Nat->Prop,J2 k2/\
      vm J2 k3/\
      vm J2 k3/\
      ∀lZ:World,Only [k3] jl lZ->J0 (some r) 0 0 (ByteArray.mk #[]) 0 Sl.nil 0 1 i1 (ByteArray.mk #[]) 0 Sl.nil i2 lZ)/\
     ((i0==3)=false->((i0==1)=true->∀rq:World,Only [] fR rq->k0≠k1->k0≠k2->k0≠k3->k1≠k2->k1≠k3->k2≠k3->∃J3:Nat->Prop,J3 k2/\
      vm J3 k3/\
      vm J3 k3/\
      ∀rr:World,Only [k3] rq rr->J0 (some r) 0 0 (ByteArray.mk #[]) 0 Sl.nil 0 2 0 s0 0 Sl.nil i2 rr)/\
     ((i0==1)=false->(((i0==2)&&(s0.toList==((ByteArray.mk #[105,110]).toList)))=true->∃i24:Int,aB fR ((r.add 0).add 1) [.int .i64 i24]/\
      ∃k7 k8:Nat,∃z1:List Value,∃k9:Nat,((r.add 0).add 1)=⟨k7,k8,none⟩/\
      Blk fR k7 k9 z1/\
      (k8+1)<=z1.length/\
      k0≠k7/\
      k1≠k7/\
      k2≠k7/\
      k3≠k7/\
      ∀qe:World,Only [k7] fR qe->Blk qe k7 k9 (bF z1 k8 [.int .i64 (IntKind.wrap .i64 (i24+1))])->Calls Tryz.prog 332 #[.pointer (some (r.add 0)),.string (ByteArray.mk #[40])] qe fun e6 mG=>e6=(.returned (.tuple #[]))/\
       aD [k0,k1,k2,k3] qe mG/\
       Calls Tryz.prog 333 #[.pointer (some r)] mG fun e7 oC=>∃s6:ByteArray,e7=(.returned (.string s6))/\
        aD [k0,k1,k2,k3] mG oC/\
        ∀qf:World,Only [k3] oC qf->Calls Tryz.prog 332 #[.pointer (some (r.add 0)),.string (ByteArray.mk #[41])] qf fun e8 vd=>e8=(.returned (.tuple #[]))/\
         aD [k0,k1,k2,k3] qf vd/\
         ∀vJ:World,Only [k1] vd vJ->R (.agg #[.int .i64 3,.int .i64 0,.string s6,.int .i64 0,Sl.nil.v,.int .i64 i2]) vJ)/\
     (((i0==2)&&(s0.toList==((ByteArray.mk #[105,110]).toList)))=false->Calls Tryz.prog 334 #[.pointer (some (r.add 0))] fR fun e9 FU=>e9=(.returned (.tuple #[]))/\
      aD [k0,k1,k2,k3] fR FU/\
      ∀OQ:World,Only [k1] FU OQ->R (.agg #[.int .i64 0,.int .i64 0,.string (ByteArray.mk #[]),.int .i64 0,Sl.nil.v,.int .i64 i2]) OQ))))))
theorem ae8 (r:Addr) (R:Value->World->Prop) (w:World) (h:YQ r R w):Cr 318 #[.pointer (some r)] w R:=
 fB (an:=.s .o (.s .o (.s .o (.j [1,2,3,4] [.b 1 [.ptr],.b 2 [.int .i64,.int .i64,.str,.int .i64,.sl,.int .i64],.b 4 [.int .i64,.int .i64,.str,.int .i64,.sl,.int .i64]] (.s .o (.s (.s .o .o) (.s .o (.s (.s .o (.j [1,2,3,4] [.b 4 [.int .i64,.int .i64,.str,.int .i64,.sl,.int .i64]] (.s .o (.s .o .o)) (.s .o (.s .o .o)))) (.s .o (.s (.s .o .o) (.s .o (.s .o (.s .o (.s .o (.s .o (.s (.s .o (.s .o (.s .o (.s .o (.s .o .o))))) (.s .o (.s .o .o)))))))))))))) (.s .o (.s .o .o)))))) (args:=[.ad r]) h
def YR (c:Addr) (R:Value->World->Prop) (w:World):Prop:=
 ∀k0:Nat,∀w0:World,w.heap.size<=k0->k0<w0.heap.size->Only [] w w0->∃l0:Sl,aB w0 (c.add 0) [l0.v]/\
 ∃i0:Int,aB w0 (c.add 1) [.int .i64 i0]/\
 ∃p0:Addr,cD l0 i0 4 p0/\
 ∃i1:Int,∃s0:ByteArray,∃i2 i3:Int,aB w0 p0 [.int .i64 i1,.string s0,.int .i64 i2,.int .i64 i3]/\
 ∀w1:World,Only [k0] w0 w1->R (.agg #[.int .i64 i1,.string s0,.int .i64 i2,.int .i64 i3]) w1
theorem ae9 (c:Addr) (R:Value->World->Prop) (w:World) (h:YR c R w):Cr 328 #[.pointer (some c)] w R:=
 fB (an:=.s .o (.s .o .o)) (args:=[.ad c]) h
def v7v (c:Addr) (R:Value->World->Prop) (w:World):Prop:=
 ∃i0:Int,aB w ((c.add 2).add 0) [.int .i64 i0]/\
 R (.bool (i0 !=0)) w
theorem v7w (c:Addr) (R:Value->World->Prop) (w:World) (h:v7v c R w):Cr 307 #[.pointer (some c)] w R:=
 fB (an:=.s .o (.s .o .o)) (args:=[.ad c]) h
def v8v (c:Addr) (D5:Sl) (R:Value->World->Prop) (w:World):Prop:=
 Calls Tryz.prog 328 #[.pointer (some c)] w fun e0 w0=>∃i0:Int,∃s0:ByteArray,∃i1 i2:Int,e0=(.returned (.agg #[.int .i64 i0,.string s0,.int .i64 i1,.int .i64 i2]))/\
  ∀k0:Nat,∀w1:World,w0.heap.size<=k0->k0<w1.heap.size->Only [] w0 w1->∃J0:Bool->World->Prop,(∀b0:Bool,∀w2:World,J0 b0 w2->R (.bool b0) w2)/\
  Calls Tryz.prog 307 #[.pointer (some c)] w1 fun e1 w3=>∃b1:Bool,e1=(.returned (.bool b1))/\
   aD [k0] w1 w3/\
   (((!b1)&&(i0==4))=true->Calls Tryz.prog 154 #[D5.v,.string s0] w3 fun e2 w4=>∃b2:Bool,e2=(.returned (.bool b2))/\
    aD [k0] w3 w4/\
    J0 b2 w4)/\
   (((!b1)&&(i0==4))=false->J0 false w3)
theorem v8w (c:Addr) (D5:Sl) (R:Value->World->Prop) (w:World) (h:v8v c D5 R w):Cr 329 #[.pointer (some c),D5.v] w R:=
 fB (an:=.s .o (.s .o (.s (.j [5] [.s 4 .bool] .o .o) .o))) (args:=[.ad c,.sl D5]) h
def YS (r:Addr) (read:OV) (R:Value->World->Prop) (w:World):Prop:=
 ∀k0:Nat,∀w0:World,w.heap.size<=k0->k0<w0.heap.size->Only [] w w0->∃i0:Int,aB w0 (r.add 4) [.int .i64 i0]/\
 ((i0==20)=true->Calls Tryz.prog 336 #[.pointer (some (r.add 0)),.int .i64 21] w0 fun e0 w1=>e0=(.returned (.tuple #[]))/\
  aD [k0] w0 w1/\
  ∀w2:World,Only [k0] w1 w2->R (.agg #[.int .i64 0,.int .i64 0,.string (ByteArray.mk #[]),.int .i64 0,Sl.nil.v,.int .i64 0]) w2)/\
 ((i0==20)=false->∃i1:Int,aB w0 ((r.add 0).add 1) [.int .i64 i1]/\
 ∃k1 k2:Nat,∃z0:List Value,∃k3:Nat,((r.add 0).add 1)=⟨k1,k2,none⟩/\
 Blk w0 k1 k3 z0/\
 (k2+1)<=z0.length/\
 k0≠k1/\
 ∀w3:World,Only [k1] w0 w3->Blk w3 k1 k3 (bF z0 k2 [.int .i64 (IntKind.wrap .i64 (i1+1))])->∃i2:Int,aB w3 (r.add 4) [.int .i64 i2]/\
 ∃k4 k5:Nat,∃z1:List Value,∃k6:Nat,(r.add 4)=⟨k4,k5,none⟩/\
 Blk w3 k4 k6 z1/\
 (k5+1)<=z1.length/\
 k0≠k4/\
 ∀w4:World,Only [k4] w3 w4->Blk w4 k4 k6 (bF z1 k5 [.int .i64 (IntKind.wrap .i64 (i2+1))])->∃k7:Nat,∃z2:List Value,∃z3:List Value,read.v=(.func (.func k7) z2.toArray z3.toArray)/\
 (∀x0:Array Value,∀w5:World,((callFunc k7 x0).run Tryz.prog w5)=(.ok (.enter k7 x0) w5))/\
 Calls Tryz.prog k7 ((vi (vi z2 []) z3).toArray) w4 fun e1 w6=>∃i3 i4:Int,∃s0:ByteArray,∃i5:Int,∃l0:Sl,∃i6:Int,e1=(.returned (.agg #[.int .i64 i3,.int .i64 i4,.string s0,.int .i64 i5,l0.v,.int .i64 i6]))/\
  aD [k0] w4 w6/\
  ∀k8:Nat,∀w7:World,w6.heap.size<=k8->k8<w7.heap.size->Only [] w6 w7->∃i7:Int,aB w7 (r.add 4) [.int .i64 i7]/\
  ∃k9 uE:Nat,∃z4:List Value,∃qX:Nat,(r.add 4)=⟨k9,uE,none⟩/\
  Blk w7 k9 qX z4/\
  (uE+1)<=z4.length/\
  k0≠k9/\
  k8≠k9/\
  ∀w8:World,Only [k9] w7 w8->Blk w8 k9 qX (bF z4 uE [.int .i64 (IntKind.wrap .i64 (i7-1))])->∀w9:World,Only [k0] w8 w9->R (.agg #[.int .i64 i3,.int .i64 i4,.string s0,.int .i64 i5,l0.v,.int .i64 i6]) w9)
theorem afa (r:Addr) (read:OV) (R:Value->World->Prop) (w:World) (h:YS r read R w):Cr 330 #[.pointer (some r),read.v] w R:=
 fB (an:=.s .o (.s (.s .o (.s (.s .o (.s .o .o)) .o)) (.s .o (.s .o (.s .o (.s .o (.s .o .o))))))) (args:=[.ad r,.raw read]) h
def YU (c:Addr) (err:Int) (R:Value->World->Prop) (w:World):Prop:=
 Calls Tryz.prog 307 #[.pointer (some c)] w fun e0 w0=>∃b0:Bool,e0=(.returned (.bool b0))/\
  ((!b0)=true->Calls Tryz.prog 328 #[.pointer (some c)] w0 fun e1 w1=>∃i0:Int,∃s0:ByteArray,∃i1 i2:Int,e1=(.returned (.agg #[.int .i64 i0,.string s0,.int .i64 i1,.int .i64 i2]))/\
   ∃k0 k1:Nat,∃z0:List Value,∃k2:Nat,(c.add 2)=⟨k0,k1,none⟩/\
   Blk w1 k0 k2 z0/\
   (k1+2)<=z0.length/\
   ∀w2:World,Only [k0] w1 w2->Blk w2 k0 k2 (bF z0 k1 [.int .i64 err,.int .i64 i2])->R (.tuple #[]) w2)/\
  ((!b0)=false->R (.tuple #[]) w0)
theorem afb (c:Addr) (err:Int) (R:Value->World->Prop) (w:World) (h:YU c err R w):Cr 336 #[.pointer (some c),.int .i64 err] w R:=
 fB (an:=.s .o (.s .o .o)) (args:=[.ad c,.int .i64 err]) h
def YV (fe:Addr) (R:Value->World->Prop) (w:World):Prop:=
 ∀k0:Nat,∀w0:World,w.heap.size<=k0->k0<w0.heap.size->Only [] w w0->∃q0:Option Addr,aB w0 fe [.pointer q0]/\
 Calls Tryz.prog 306 #[.pointer q0,.int .i64 0] w0 fun e0 w1=>∃i0 i1:Int,∃s0:ByteArray,∃i2:Int,∃l0:Sl,∃i3:Int,e0=(.returned (.agg #[.int .i64 i0,.int .i64 i1,.string s0,.int .i64 i2,l0.v,.int .i64 i3]))/\
  aD [k0] w0 w1/\
  ∀k1:Nat,∀w2:World,w1.heap.size<=k1->k1<w2.heap.size->Only [] w1 w2->∃q1:Option Addr,aB w2 fe [.pointer q1]/\
  ∃p0:Addr,q1=(some p0)/\
  Calls Tryz.prog 332 #[.pointer (some (p0.add 0)),.string (ByteArray.mk #[41])] w2 fun e1 w3=>e1=(.returned (.tuple #[]))/\
   aD [k0,k1] w2 w3/\
   ∀w4:World,Only [k0] w3 w4->R (.agg #[.int .i64 i0,.int .i64 i1,.string s0,.int .i64 i2,l0.v,.int .i64 i3]) w4
theorem afc (fe:Addr) (R:Value->World->Prop) (w:World) (h:YV fe R w):Cr 331 #[.pointer (some fe)] w R:=
 fB (an:=.s .o (.s .o (.s .o (.s .o .o)))) (args:=[.ad fe]) h
def v9v (c:Addr) (sign:ByteArray) (R:Value->World->Prop) (w:World):Prop:=
 ∃l0:Sl,∃w0:World,((Instr.buildSlice 52 1 #[.mk 0 (.string sign)]).run Tryz.prog w)=(.ok l0.v w0)/\
 Calls Tryz.prog 329 #[.pointer (some c),l0.v] w0 fun e0 w1=>∃b0:Bool,e0=(.returned (.bool b0))/\
  ((!b0)=true->Calls Tryz.prog 334 #[.pointer (some c)] w1 fun e1 w2=>e1=(.returned (.tuple #[]))/\
   R (.tuple #[]) w2)/\
  ((!b0)=false->∃i0:Int,aB w1 (c.add 1) [.int .i64 i0]/\
  ∃k0 k1:Nat,∃z0:List Value,∃k2:Nat,(c.add 1)=⟨k0,k1,none⟩/\
  Blk w1 k0 k2 z0/\
  (k1+1)<=z0.length/\
  ∀w3:World,Only [k0] w1 w3->Blk w3 k0 k2 (bF z0 k1 [.int .i64 (IntKind.wrap .i64 (i0+1))])->R (.tuple #[]) w3)
theorem v9w (c:Addr) (sign:ByteArray) (R:Value->World->Prop) (w:World) (h:v9v c sign R w):Cr 332 #[.pointer (some c),.string sign] w R:=
 fB (an:=.s (.s .o (.s (.s .o .o) .o)) .o) (args:=[.ad c,.str sign]) h
def YW (c:Addr) (R:Value->World->Prop) (w:World):Prop:=
 ∃J0:World->Prop,(∀w0:World,J0 w0->Calls Tryz.prog 336 #[.pointer (some c),.int .i64 4] w0 fun e0 w1=>e0=(.returned (.tuple #[]))/\
  R (.tuple #[]) w1)/\
 Calls Tryz.prog 328 #[.pointer (some c)] w fun e1 w2=>∃i0:Int,∃s0:ByteArray,∃i1 i2:Int,e1=(.returned (.agg #[.int .i64 i0,.string s0,.int .i64 i1,.int .i64 i2]))/\
  ((i0==5)=true->Calls Tryz.prog 336 #[.pointer (some c),.int .i64 3] w2 fun e2 w3=>e2=(.returned (.tuple #[]))/\
   J0 w3)/\
  ((i0==5)=false->J0 w2)
theorem afd (c:Addr) (R:Value->World->Prop) (w:World) (h:YW c R w):Cr 334 #[.pointer (some c)] w R:=
 fB (an:=.j [0] [] (.s .o (.s .o .o)) .o) (args:=[.ad c]) h
def YX (r:Addr) (R:Value->World->Prop) (w:World):Prop:=
 Calls Tryz.prog 328 #[.pointer (some (r.add 0))] w fun e0 w0=>∃i0:Int,∃s0:ByteArray,∃i1 i2:Int,e0=(.returned (.agg #[.int .i64 i0,.string s0,.int .i64 i1,.int .i64 i2]))/\
  ∀k0:Nat,∀w1:World,w0.heap.size<=k0->k0<w1.heap.size->Only [] w0 w1->Calls Tryz.prog 307 #[.pointer (some (r.add 0))] w1 fun e1 w2=>∃b0:Bool,e1=(.returned (.bool b0))/\
   aD [k0] w1 w2/\
   ((b0||(i0 !=1))=true->Calls Tryz.prog 334 #[.pointer (some (r.add 0))] w2 fun e2 w3=>e2=(.returned (.tuple #[]))/\
    aD [k0] w2 w3/\
    R (.string (ByteArray.mk #[])) w3)/\
   ((b0||(i0 !=1))=false->∃i3:Int,aB w2 ((r.add 0).add 1) [.int .i64 i3]/\
   ∃k1 k2:Nat,∃z0:List Value,∃k3:Nat,((r.add 0).add 1)=⟨k1,k2,none⟩/\
   Blk w2 k1 k3 z0/\
   (k2+1)<=z0.length/\
   k0≠k1/\
   ∀w4:World,Only [k1] w2 w4->Blk w4 k1 k3 (bF z0 k2 [.int .i64 (IntKind.wrap .i64 (i3+1))])->R (.string s0) w4)
theorem afe (r:Addr) (R:Value->World->Prop) (w:World) (h:YX r R w):Cr 333 #[.pointer (some r)] w R:=
 fB (an:=.s .o (.s .o (.s (.s .o (.s (.s .o (.s .o .o)) .o)) (.s .o (.s .o .o))))) (args:=[.ad r]) h
def YY (r:Addr) (k:Int) (R:Value->World->Prop) (w:World):Prop:=
 ∃J0:Nat->Int->World->Prop,∃k0:Nat,J0 k0 1 w/\
 ∀k1:Nat,∀i0:Int,∀w0:World,J0 k1 i0 w0->((decide (i0<=13))=true->∃J1:Bool->World->Prop,(∀b0:Bool,∀w1:World,J1 b0 w1->(b0=true->R (.int .i64 i0) w1)/\
   (b0=false->∃k2:Nat,k2<k1/\
   J0 k2 (IntKind.wrap .i64 (i0+1)) w1))/\
  ∀w2:World,Only [] w0 w2->Calls Tryz.prog 293 #[.int .i64 i0] w2 fun e0 w3=>∃i1:Int,e0=(.returned (.int .i64 i1))/\
   ((i1==k)=true->∃l0:Sl,aB w3 (r.add 5) [l0.v]/\
    ∃p0:Addr,cD l0 i0 1 p0/\
    ∃s0:ByteArray,aB w3 p0 [.string s0]/\
    ∃l1:Sl,∃w4:World,((Instr.buildSlice 52 1 #[.mk 0 (.string s0)]).run Tryz.prog w3)=(.ok l1.v w4)/\
    Calls Tryz.prog 329 #[.pointer (some (r.add 0)),l1.v] w4 fun e1 w5=>∃b1:Bool,e1=(.returned (.bool b1))/\
     J1 b1 w5)/\
   ((i1==k)=false->J1 false w3))/\
 ((decide (i0<=13))=false->R (.int .i64 0) w0)
theorem aff (r:Addr) (k:Int) (R:Value->World->Prop) (w:World) (h:YY r k R w):Cr 319 #[.pointer (some r),.int .i64 k] w R:=
 fB (an:=.s .o (.s (.s .o (.j [0,1] [.s 5 (.int .i64)] (.s (.s .o (.s .o .o)) (.s (.s (.j [0,1,5] [.s 27 .bool] .o .o) (.s (.s .o .o) .o)) .o)) .o)) (.s .o .o))) (args:=[.ad r,.int .i64 k]) h
def YZ (op:Int) (R:Value->World->Prop) (w:World):Prop:=
 (((decide (op>=3))&&(decide (op<=5)))=true->R (.int .i64 5) w)/\
 (((decide (op>=3))&&(decide (op<=5)))=false->∃J0:Bool->World->Prop,(∀b0:Bool,∀w0:World,J0 b0 w0->(b0=true->R (.int .i64 4) w0)/\
  (b0=false->(((decide (op>=6))&&(decide (op<=9)))=true->R (.int .i64 3) w0)/\
  (((decide (op>=6))&&(decide (op<=9)))=false->∃J1:Bool->World->Prop,(∀b1:Bool,∀w1:World,J1 b1 w1->(b1=true->R (.int .i64 2) w1)/\
   (b1=false->((op==12)=true->R (.int .i64 1) w1)/\
   ((op==12)=false->((op==13)=true->R (.int .i64 0) w1)/\
   ((op==13)=false->R (.int .i64 6) w1))))/\
  ((op==10)=true->J1 (op==10) w0)/\
  ((op==10)=false->J1 (op==11) w0))))/\
 ((op==1)=true->J0 (op==1) w)/\
 ((op==1)=false->J0 (op==2) w))
theorem afg (op:Int) (R:Value->World->Prop) (w:World) (h:YZ op R w):Cr 293 #[.int .i64 op] w R:=
 fB (an:=.s .o (.s (.s .o (.s (.s .o .o) (.j [0] [.s 10 .bool] (.s .o (.s .o .o)) (.s (.s .o .o) (.s .o (.s (.s .o .o) (.j [0] [.s 22 .bool] (.s .o (.s .o .o)) (.s (.s .o .o) (.s .o (.s (.s .o .o) (.s .o (.s (.s .o .o) .o)))))))))))) (.s .o .o))) (args:=[.int .i64 op]) h
def RU (r:Addr) (R:Value->World->Prop) (w:World):Prop:=
 ∀k0 k1:Nat,∀w0:World,w.heap.size<=k0->k0<w0.heap.size->w.heap.size<=k1->k1<w0.heap.size->Only [] w w0->∃l0:Sl,∃w1:World,((Instr.buildSlice 52 1 #[.mk 0 (.string (ByteArray.mk #[123]))]).run Tryz.prog w0)=(.ok l0.v w1)/\
 aD [k0,k1] w0 w1/\
 Calls Tryz.prog 73 #[.pointer (some (r.add 0)),l0.v] w1 fun e0 w2=>e0=(.returned (.tuple #[]))/\
  aD [k0,k1] w1 w2/\
  (Blk w2 k0 127 [.pointer (some r)]->Blk w2 k1 23 [Sl.nil.v]->Calls Tryz.prog 254 #[.pointer (some r),.string (ByteArray.mk #[125]),.func (.func 255) #[] #[.pointer (some ⟨k1,0,none⟩),.pointer (some ⟨k0,0,none⟩)]] w2 fun e1 w3=>e1=(.returned (.tuple #[]))/\
   ∃q0:Option Addr,Blk w3 k0 127 [.pointer q0]/\
   ∃l1:Sl,Blk w3 k1 23 [l1.v]/\
   R l1.v w3)
theorem Y1 (r:Addr) (R:Value->World->Prop) (w:World) (h:RU r R w):Cr 210 #[.pointer (some r)] w R:=
 fB (an:=.s .o (.s .o (.s .o (.s .o (.s .o .o))))) (args:=[.ad r]) h
def RV (fe qg:Addr) (R:Value->World->Prop) (w:World):Prop:=
 ∀w0:World,Only [] w w0->∃J0:Nat->Prop,J0 fe.block/\
 ∃l0:Sl,aB w0 fe [l0.v]/\
 ∃q0:Option Addr,aB w0 qg [.pointer q0]/\
 Calls Tryz.prog 256 #[.pointer q0] w0 fun e0 w1=>∃i0:Int,∃s0:ByteArray,∃i1 i2:Int,∃s1:ByteArray,∃i3:Int,∃l1:Sl,∃i4 i5:Int,e0=(.returned (.agg #[.int .i64 i0,.string s0,.int .i64 i1,.int .i64 i2,.string s1,.int .i64 i3,l1.v,.int .i64 i4,.int .i64 i5]))/\
  be J0 w0 w1/\
  ∃l2:Sl,∃w2:World,((Instr.buildSlice 23 1 #[.mk 0 (.agg #[.int .i64 i0,.string s0,.int .i64 i1,.int .i64 i2,.string s1,.int .i64 i3,l1.v,.int .i64 i4,.int .i64 i5])]).run Tryz.prog w1)=(.ok l2.v w2)/\
  be J0 w1 w2/\
  ∃l3:Sl,∃w3:World,((Builtin.append_ #[23,23] 23 #[l0.v,l2.v]).run Tryz.prog w2)=(.ok l3.v w3)/\
  be J0 w2 w3/\
  ∃k0 k1:Nat,∃z0:List Value,∃k2:Nat,fe=⟨k0,k1,none⟩/\
  Blk w3 k0 k2 z0/\
  (k1+1)<=z0.length/\
  ∀w4:World,Only [k0] w3 w4->Blk w4 k0 k2 (bF z0 k1 [l3.v])->R (.tuple #[]) w4
theorem Y2 (fe qg:Addr) (R:Value->World->Prop) (w:World) (h:RV fe qg R w):Cr 255 #[.pointer (some fe),.pointer (some qg)] w R:=
 fB (an:=.o) (args:=[.ad fe,.ad qg]) h
def RW (r:Addr) (R:Value->World->Prop) (w:World):Prop:=
 ∀k0:Nat,∀w0:World,w.heap.size<=k0->k0<w0.heap.size->Only [] w w0->∃J0:Nat->Prop,∀w1:World,Only [] w0 w1->J0 (((r.add 0).add 0).block)/\
 ∃l0:Sl,aB w1 ((r.add 0).add 0) [l0.v]/\
 ∀w2:World,Only [] w1 w2->J0 (((r.add 0).add 1).block)/\
 ∃i0:Int,aB w2 ((r.add 0).add 1) [.int .i64 i0]/\
 ∃p0:Addr,cD l0 i0 4 p0/\
 ∀w3:World,Only [] w2 w3->J0 ((p0.add 3).block)/\
 ∃i1:Int,aB w3 (p0.add 3) [.int .i64 i1]/\
 ∀w4:World,Only [] w3 w4->∃l1:Sl,∃w5:World,((Instr.buildSlice 52 3 #[.mk 0 (.string (ByteArray.mk #[115,101,116])),.mk 1 (.string (ByteArray.mk #[114,97,105,115,101])),.mk 2 (.string (ByteArray.mk #[101,109,105,116]))]).run Tryz.prog w4)=(.ok l1.v w5)/\
 aD [k0] w4 w5/\
 iz w0 w4 w5/\
 be J0 w4 w5/\
 ∀w6:World,Only [] w5 w6->Calls Tryz.prog 141 #[.pointer (some (r.add 0)),l1.v] w6 fun e0 w7=>∃i2:Int,e0=(.returned (.int .i64 i2))/\
  aD [k0] w6 w7/\
  iz w0 w6 w7/\
  be J0 w6 w7/\
  ∀w8:World,Only [] w7 w8->∀k1:Nat,w0.heap.size<=k1->k1<w8.heap.size->pv [.mk w6.heap.size w7.heap.size,.mk w4.heap.size w5.heap.size] k1->((i2==0)=true->∀w9:World,Only [k1] w8 w9->Calls Tryz.prog 79 #[.pointer (some (r.add 0))] w9 fun e1 cI=>e1=(.returned (.tuple #[]))/\
   aD [k0,k1] w9 cI/\
   ∀cS:World,Only [k0] cI cS->R (.agg #[.int .i64 i2,.string (ByteArray.mk #[]),.int .i64 0,.int .i64 0,.string (ByteArray.mk #[]),.int .i64 0,Sl.nil.v,.int .i64 0,.int .i64 i1]) cS)/\
  ((i2==0)=false->∀dK:World,Only [k1] w8 dK->Calls Tryz.prog 138 #[.pointer (some r),.pointer (some ((r.add 4).add 4)),.int .i64 2] dK fun e2 dX=>e2=(.returned (.tuple #[]))/\
   aD [k0,k1] dK dX/\
   Calls Tryz.prog 78 #[.pointer (some (r.add 0))] dX fun e3 eK=>∃b0:Bool,e3=(.returned (.bool b0))/\
    aD [k0,k1] dX eK/\
    ((!b0)=true->∀gn:World,Only [k0] eK gn->R (.agg #[.int .i64 i2,.string (ByteArray.mk #[]),.int .i64 0,.int .i64 0,.string (ByteArray.mk #[]),.int .i64 0,Sl.nil.v,.int .i64 0,.int .i64 i1]) gn)/\
    ((!b0)=false->∃i3:Int,aB eK ((r.add 0).add 1) [.int .i64 i3]/\
    ∃k2 k3:Nat,∃z0:List Value,∃k4:Nat,((r.add 0).add 1)=⟨k2,k3,none⟩/\
    Blk eK k2 k4 z0/\
    (k3+1)<=z0.length/\
    k0≠k2/\
    k1≠k2/\
    ∀gR:World,Only [k2] eK gR->Blk gR k2 k4 (bF z0 k3 [.int .i64 (IntKind.wrap .i64 (i3+1))])->Calls Tryz.prog 209 #[.pointer (some (r.add 0))] gR fun e4 fR=>∃s0:ByteArray,e4=(.returned (.string s0))/\
     aD [k0,k1] gR fR/\
     ∀jH:World,Only [k1] fR jH->∃J1:Int->ByteArray->Int->Int->ByteArray->Int->Sl->Int->Int->World->Prop,(∀i4:Int,∀s1:ByteArray,∀i5 i6:Int,∀s2:ByteArray,∀i7:Int,∀l2:Sl,∀i8 i9:Int,∀jK:World,J1 i4 s1 i5 i6 s2 i7 l2 i8 i9 jK->∃l3:Sl,∃jl:World,((Instr.buildSlice 52 1 #[.mk 0 (.string (ByteArray.mk #[59]))]).run Tryz.prog jK)=(.ok l3.v jl)/\
      aD [k0,k1] jK jl/\
      Calls Tryz.prog 73 #[.pointer (some (r.add 0)),l3.v] jl fun e5 lZ=>e5=(.returned (.tuple #[]))/\
       aD [k0,k1] jl lZ/\
       ∀rq:World,Only [k0] lZ rq->R (.agg #[.int .i64 i4,.string s1,.int .i64 i5,.int .i64 i6,.string s2,.int .i64 i7,l2.v,.int .i64 i8,.int .i64 i9]) rq)/\
     ((i2 !=2)=true->∃l4:Sl,∃rr:World,((Instr.buildSlice 52 1 #[.mk 0 (.string (ByteArray.mk #[61]))]).run Tryz.prog jH)=(.ok l4.v rr)/\
      aD [k0,k1] jH rr/\
      Calls Tryz.prog 73 #[.pointer (some (r.add 0)),l4.v] rr fun e6 qe=>e6=(.returned (.tuple #[]))/\
       aD [k0,k1] rr qe/\
       Calls Tryz.prog 253 #[.pointer (some (r.add 0))] qe fun e7 mG=>∃i10 i11:Int,∃s3:ByteArray,∃i12:Int,∃l5:Sl,∃i13:Int,e7=(.returned (.agg #[.int .i64 i10,.int .i64 i11,.string s3,.int .i64 i12,l5.v,.int .i64 i13]))/\
        aD [k0,k1] qe mG/\
        ∀oC:World,Only [k1] mG oC->J1 i2 s0 i10 i11 s3 i12 l5 i13 i1 oC)/\
     ((i2 !=2)=false->J1 i2 s0 0 0 (ByteArray.mk #[]) 0 Sl.nil 0 i1 jH)))
theorem Y3 (r:Addr) (R:Value->World->Prop) (w:World) (h:RW r R w):Cr 256 #[.pointer (some r)] w R:=
 fB (an:=.s .o (.s (.l false [] []) (.s (.s .o (.s (.s .o (.s .o .o)) .o)) (.s (.s .o (.s .o (.s (.s .o .o) .o))) (.s .o (.s .o (.j [0,2,3] [.b 3 [.int .i64,.str,.int .i64,.int .i64,.str,.int .i64,.sl,.int .i64,.int .i64]] (.s .o (.s (.s .o .o) .o)) (.s .o (.s .o .o))))))))) (args:=[.ad r]) h
def RY (r:Addr) (sign:ByteArray) (read:OV) (R:Value->World->Prop) (w:World):Prop:=
 ∃J0:Nat->World->Prop,∃k0:Nat,J0 k0 w/\
 ∀k1:Nat,∀w0:World,J0 k1 w0->∃J1:Bool->World->Prop,(∀b0:Bool,∀w1:World,J1 b0 w1->(b0=true->∃k2:Nat,∃z0:List Value,∃z1:List Value,read.v=(.func (.func k2) z0.toArray z1.toArray)/\
   (∀x0:Array Value,∀w2:World,((callFunc k2 x0).run Tryz.prog w2)=(.ok (.enter k2 x0) w2))/\
   Calls Tryz.prog k2 ((vi (vi z0 []) z1).toArray) w1 fun e0 w3=>e0=(.returned (.tuple #[]))/\
    ∃k3:Nat,k3<k1/\
    J0 k3 w3)/\
  (b0=false->R (.tuple #[]) w1))/\
 Calls Tryz.prog 78 #[.pointer (some (r.add 0))] w0 fun e1 w4=>∃b1:Bool,e1=(.returned (.bool b1))/\
  (b1=true->∃l0:Sl,∃w5:World,((Instr.buildSlice 52 1 #[.mk 0 (.string sign)]).run Tryz.prog w4)=(.ok l0.v w5)/\
   Calls Tryz.prog 75 #[.pointer (some (r.add 0)),l0.v] w5 fun e2 w6=>∃i0:Int,e2=(.returned (.int .i64 i0))/\
    J1 (i0==0) w6)/\
  (b1=false->J1 false w4)
theorem Y4 (r:Addr) (sign:ByteArray) (read:OV) (R:Value->World->Prop) (w:World) (h:RY r sign read R w):Cr 254 #[.pointer (some r),.string sign,read.v] w R:=
 fB (an:=.j [0,1,2] [] (.s (.s (.j [0,1,2] [.s 18 .bool] .o .o) (.s .o .o)) .o) .o) (args:=[.ad r,.str sign,.raw read]) h
def RZ (r:Addr) (kind:Int) (R:Value->World->Prop) (w:World):Prop:=
 ∀k0:Nat,∀w0:World,w.heap.size<=k0->k0<w0.heap.size->Only [] w w0->Calls Tryz.prog 74 #[.pointer (some r),.int .i64 kind] w0 fun e0 w1=>∃i0:Int,∃s0 s1 s2:ByteArray,∃l0 l1 l2 l3:Sl,∃i1:Int,e0=(.returned (.agg #[.int .i64 i0,.string s0,.string s1,.string s2,l0.v,l1.v,l2.v,l3.v,.int .i64 i1]))/\
  aD [k0] w0 w1/\
  ((decide (kind>=3))=true->∀k1:Nat,∀w2:World,w1.heap.size<=k1->k1<w2.heap.size->Only [] w1 w2->∃l4:Sl,∃w3:World,((Instr.buildSlice 52 1 #[.mk 0 (.string (ByteArray.mk #[45,62]))]).run Tryz.prog w2)=(.ok l4.v w3)/\
   aD [k0,k1] w2 w3/\
   Calls Tryz.prog 73 #[.pointer (some (r.add 0)),l4.v] w3 fun e1 w4=>e1=(.returned (.tuple #[]))/\
    aD [k0,k1] w3 w4/\
    Calls Tryz.prog 209 #[.pointer (some (r.add 0))] w4 fun e2 w5=>∃s3:ByteArray,e2=(.returned (.string s3))/\
     aD [k0,k1] w4 w5/\
     ∀w6:World,Only [k1] w5 w6->∃l5:Sl,∃w7:World,((Instr.buildSlice 52 1 #[.mk 0 (.string (ByteArray.mk #[59]))]).run Tryz.prog w6)=(.ok l5.v w7)/\
     aD [k0,k1] w6 w7/\
     Calls Tryz.prog 73 #[.pointer (some (r.add 0)),l5.v] w7 fun e3 w8=>e3=(.returned (.tuple #[]))/\
      aD [k0,k1] w7 w8/\
      ∀w9:World,Only [k0] w8 w9->R (.agg #[.int .i64 i0,.string s0,.string s1,.string s3,l0.v,l1.v,l2.v,l3.v,.int .i64 i1]) w9)/\
  ((decide (kind>=3))=false->∀k2:Nat,∀cI:World,w1.heap.size<=k2->k2<cI.heap.size->Only [] w1 cI->∃l6:Sl,∃cS:World,((Instr.buildSlice 52 1 #[.mk 0 (.string (ByteArray.mk #[123]))]).run Tryz.prog cI)=(.ok l6.v cS)/\
  aD [k0,k2] cI cS/\
  Calls Tryz.prog 73 #[.pointer (some (r.add 0)),l6.v] cS fun e4 dK=>e4=(.returned (.tuple #[]))/\
   aD [k0,k2] cS dK/\
   (Blk dK k2 27 [.int .i64 i0,.string s0,.string s1,.string s2,l0.v,l1.v,l2.v,l3.v,.int .i64 i1]->k0≠k2->Calls Tryz.prog 77 #[.pointer (some r),.pointer (some ⟨k2,0,none⟩)] dK fun e5 dX=>e5=(.returned (.tuple #[]))/\
    aD [k0] dK dX/\
    ∃i2:Int,∃s4 s5 s6:ByteArray,∃l7 l8 l9 l10:Sl,∃i3:Int,Blk dX k2 27 [.int .i64 i2,.string s4,.string s5,.string s6,l7.v,l8.v,l9.v,l10.v,.int .i64 i3]/\
    ∀eK:World,Only [k0] dX eK->Blk eK k2 27 [.int .i64 i2,.string s4,.string s5,.string s6,l7.v,l8.v,l9.v,l10.v,.int .i64 i3]->R (.agg #[.int .i64 i2,.string s4,.string s5,.string s6,l7.v,l8.v,l9.v,l10.v,.int .i64 i3]) eK))
theorem Y5 (r:Addr) (kind:Int) (R:Value->World->Prop) (w:World) (h:RZ r kind R w):Cr 143 #[.pointer (some r),.int .i64 kind] w R:=
 fB (an:=.s .o (.s .o (.s (.s .o (.s (.s .o (.s .o (.s .o (.s .o .o)))) .o)) (.s .o (.s .o (.s .o .o)))))) (args:=[.ad r,.int .i64 kind]) h
def Y6 (c:Sl) (c1:Int) (c2 c3 c4:ByteArray) (c5 c6 c7 c8:Sl) (c9:Int) (R:Value->World->Prop) (w:World):Prop:=
 ∀k0 k1:Nat,∀w0:World,w.heap.size<=k0->k0<w0.heap.size->w.heap.size<=k1->k1<w0.heap.size->Only [] w w0->Calls Tryz.prog 36 #[.agg #[.int .i64 c1,.string c2,.string c3,.string c4,c5.v,c6.v,c7.v,c8.v,.int .i64 c9]] w0 fun e0 w1=>∃i0 i1:Int,e0=(.returned (.tuple #[.int .i64 i0,.int .i64 i1]))/\
  aD [k0,k1] w0 w1/\
  (Blk w1 k1 72 [.pointer none,Sl.nil.v,.bool false,.int .i64 0]->k0≠k1->Calls Tryz.prog 37 #[.pointer (some ⟨k1,0,none⟩),.bool (((((c1==1)&&(c4.toList==((ByteArray.mk #[]).toList)))&&(decide ((c.n:Int)<=16)))&&(decide (i0<=64)))&&(decide (i1<=200)))] w1 fun e1 w2=>e1=(.returned (.tuple #[]))/\
   aD [k0] w1 w2/\
   ∃q0:Option Addr,∃l0:Sl,∃b0:Bool,∃i2:Int,Blk w2 k1 72 [.pointer q0,l0.v,.bool b0,.int .i64 i2]/\
   Calls Tryz.prog 39 #[.pointer (some ⟨k1,0,none⟩),.string c2] w2 fun e2 w3=>∃s0:ByteArray,e2=(.returned (.string s0))/\
    aD [k0] w2 w3/\
    ∃q1:Option Addr,∃l1:Sl,∃b1:Bool,∃i3:Int,Blk w3 k1 72 [.pointer q1,l1.v,.bool b1,.int .i64 i3]/\
    ∃l2:Sl,∃w4:World,((Instr.buildSlice 52 3 #[.mk 0 (.string (ByteArray.mk #[99,104,97,114,116])),.mk 1 (.string s0),.mk 2 (.string (ByteArray.mk #[123]))]).run Tryz.prog w3)=(.ok l2.v w4)/\
    aD [k0,k1] w3 w4/\
    Calls Tryz.prog 38 #[.pointer (some ⟨k1,0,none⟩),.int .i64 0,l2.v] w4 fun e3 w5=>e3=(.returned (.tuple #[]))/\
     aD [k0] w4 w5/\
     ∃q2:Option Addr,∃l3:Sl,∃b2:Bool,∃i4:Int,Blk w5 k1 72 [.pointer q2,l3.v,.bool b2,.int .i64 i4]/\
     ∃J0:Nat->Int->Option Addr->Sl->Bool->Int->World->Prop,∃k2:Nat,J0 k2 0 q2 l3 b2 i4 w5/\
     ∀k3:Nat,∀i5:Int,∀q3:Option Addr,∀l4:Sl,∀b3:Bool,∀i6:Int,∀w6:World,J0 k3 i5 q3 l4 b3 i6 w6->((decide (i5<(c.n:Int)))=true->∃p0:Addr,cD c i5 3 p0/\
      ∃s1:ByteArray,∃i7 i8:Int,aB w6 p0 [.string s1,.int .i64 i7,.int .i64 i8]/\
      ∀k4:Nat,∀w7:World,w6.heap.size<=k4->k4<w7.heap.size->Only [] w6 w7->Blk w7 k1 72 [.pointer q3,l4.v,.bool b3,.int .i64 i6]->Calls Tryz.prog 37 #[.pointer (some ⟨k1,0,none⟩),.bool (i7 !=(-9223372036854775808))] w7 fun e4 w8=>e4=(.returned (.tuple #[]))/\
       aD [k0,k4] w7 w8/\
       ∃q4:Option Addr,∃l5:Sl,∃b4:Bool,∃i9:Int,Blk w8 k1 72 [.pointer q4,l5.v,.bool b4,.int .i64 i9]/\
       ∀w9:World,Only [] w8 w9->Blk w9 k1 72 [.pointer q4,l5.v,.bool b4,.int .i64 i9]->∃J1:Nat->Prop,J1 k4/\
       Calls Tryz.prog 39 #[.pointer (some ⟨k1,0,none⟩),.string s1] w9 fun e5 cI=>∃s2:ByteArray,e5=(.returned (.string s2))/\
        aD [k0,k4] w9 cI/\
        ∃q5:Option Addr,∃l6:Sl,∃b5:Bool,∃i10:Int,Blk cI k1 72 [.pointer q5,l6.v,.bool b5,.int .i64 i10]/\
        be J1 w9 cI/\
        Calls Tryz.prog 40 #[.int .i64 i7] cI fun e6 cS=>∃s3:ByteArray,e6=(.returned (.string s3))/\
         aD [k0,k4] cI cS/\
         ∃q6:Option Addr,∃l7:Sl,∃b6:Bool,∃i11:Int,Blk cS k1 72 [.pointer q6,l7.v,.bool b6,.int .i64 i11]/\
         be J1 cI cS/\
         ((s3.size:Int)+1)<=9223372036854775807/\
         ∃l8:Sl,∃dK:World,((Instr.buildSlice 52 4 #[.mk 0 (.string (ByteArray.mk #[118,97,114])),.mk 1 (.string s2),.mk 2 (.string (ByteArray.mk #[61])),.mk 3 (.string (s3++(ByteArray.mk #[59])))]).run Tryz.prog cS)=(.ok l8.v dK)/\
         aD [k0,k1,k4] cS dK/\
         be J1 cS dK/\
         Calls Tryz.prog 38 #[.pointer (some ⟨k1,0,none⟩),.int .i64 1,l8.v] dK fun e7 dX=>e7=(.returned (.tuple #[]))/\
          aD [k0,k4] dK dX/\
          ∃q7:Option Addr,∃l9:Sl,∃b7:Bool,∃i12:Int,Blk dX k1 72 [.pointer q7,l9.v,.bool b7,.int .i64 i12]/\
          be J1 dK dX/\
          ∃k5:Nat,k5<k3/\
          J0 k5 (IntKind.wrap .i64 (i5+1)) q7 l9 b7 i12 dX)/\
     ((decide (i5<(c.n:Int)))=false->Calls Tryz.prog 41 #[.pointer (some ⟨k1,0,none⟩),.agg #[.int .i64 c1,.string c2,.string c3,.string c4,c5.v,c6.v,c7.v,c8.v,.int .i64 c9],.int .i64 1] w6 fun e8 eK=>e8=(.returned (.tuple #[]))/\
      aD [k0] w6 eK/\
      ∃q8:Option Addr,∃l10:Sl,∃b8:Bool,∃i13:Int,Blk eK k1 72 [.pointer q8,l10.v,.bool b8,.int .i64 i13]/\
      ∃qW:Sl,∃gn:World,((Instr.buildSlice 52 1 #[.mk 0 (.string (ByteArray.mk #[125]))]).run Tryz.prog eK)=(.ok qW.v gn)/\
      aD [k0,k1] eK gn/\
      Calls Tryz.prog 38 #[.pointer (some ⟨k1,0,none⟩),.int .i64 0,qW.v] gn fun e9 gR=>e9=(.returned (.tuple #[]))/\
       aD [k0] gn gR/\
       ∃q9:Option Addr,∃rS:Sl,∃b9:Bool,∃i14:Int,Blk gR k1 72 [.pointer q9,rS.v,.bool b9,.int .i64 i14]/\
       (b9=true->R (.tuple #[.string (ByteArray.mk #[]),.int .i64 22]) gR)/\
       (b9=false->Calls Tryz.prog 42 #[.pointer (some ⟨k1,0,none⟩)] gR fun D4 fR=>∃OK:Bool,D4=(.returned (.bool OK))/\
        aD [k0] gR fR/\
        ∃q10:Option Addr,∃wi:Sl,∃SY:Bool,∃i15:Int,Blk fR k1 72 [.pointer q10,wi.v,.bool SY,.int .i64 i15]/\
        (OK=true->R (.tuple #[.string (ByteArray.mk #[]),.int .i64 2]) fR)/\
        (OK=false->Calls Tryz.prog 43 #[.pointer (some ⟨k1,0,none⟩)] fR fun NP jH=>∃s4:ByteArray,NP=(.returned (.string s4))/\
         aD [k0] fR jH/\
         ∃Vs:Option Addr,∃yd:Sl,∃SZ:Bool,∃i16:Int,Blk jH k1 72 [.pointer Vs,yd.v,.bool SZ,.int .i64 i16]/\
         Calls Tryz.prog 34 #[.string s4] jH fun e12 jK=>∃D2:Sl,∃i17:Int,∃s5 s6 s7:ByteArray,∃OH OI SU Vk:Sl,∃i18 i19 i20:Int,e12=(.returned (.tuple #[.agg #[D2.v,.int .i64 i17,.string s5,.string s6,.string s7,OH.v,OI.v,SU.v,Vk.v,.int .i64 i18],.agg #[.int .i64 i19,.int .i64 i20]]))/\
          aD [k0] jH jK/\
          ∃q12:Option Addr,∃QZ:Sl,∃Vn:Bool,∃i21:Int,Blk jK k1 72 [.pointer q12,QZ.v,.bool Vn,.int .i64 i21]/\
          ((i19 !=0)=true->∀k6 k7:Nat,∀jl:World,jK.heap.size<=k6->k6<jl.heap.size->jK.heap.size<=k7->k7<jl.heap.size->Only [] jK jl->Blk jl k1 72 [.pointer q12,QZ.v,.bool Vn,.int .i64 i21]->R (.tuple #[.string (ByteArray.mk #[]),.int .i64 22]) jl)/\
          ((i19 !=0)=false->∀k8 k9:Nat,∀lZ:World,jK.heap.size<=k8->k8<lZ.heap.size->jK.heap.size<=k9->k9<lZ.heap.size->Only [] jK lZ->Blk lZ k1 72 [.pointer q12,QZ.v,.bool Vn,.int .i64 i21]->Calls Tryz.prog 43 #[.pointer (some ⟨k1,0,none⟩)] lZ fun e13 rq=>∃s8:ByteArray,e13=(.returned (.string s8))/\
           aD [k0,k8,k9] lZ rq/\
           ∃q13:Option Addr,∃Vl:Sl,∃b14:Bool,∃i22:Int,Blk rq k1 72 [.pointer q13,Vl.v,.bool b14,.int .i64 i22]/\
           R (.tuple #[.string s8,.int .i64 0]) rq)))))
theorem afh (c:Sl) (c1:Int) (c2 c3 c4:ByteArray) (c5 c6 c7 c8:Sl) (c9:Int) (R:Value->World->Prop) (w:World) (h:Y6 c c1 c2 c3 c4 c5 c6 c7 c8 c9 R w):Cr 14 #[.agg #[c.v,.int .i64 c1,.string c2,.string c3,.string c4,c5.v,c6.v,c7.v,c8.v,.int .i64 c9]] w R:=
 fB (an:=.s .o (.s .o (.s .o (.s .o (.s .o (.s (.s .o (.j [1,4,12,54,55] [.s 56 (.int .i64),.b 12 [.ptr,.sl,.bool,.int .i64]] (.s .o (.s (.s .o .o) (.s (.s .o (.s .o .o)) .o))) .o)) (.s .o (.s .o (.s (.s .o (.s (.s .o .o) (.s .o (.s (.s .o .o) .o)))) (.s (.s .o (.s .o (.s (.s .o .o) .o))) (.s .o .o))))))))))) (args:=[.agg (ld [.sl c,.int .i64 c1,.str c2,.str c3,.str c4,.sl c5,.sl c6,.sl c7,.sl c8,.int .i64 c9])]) h
def Y7 (n_:Int) (kM jP kI:ByteArray) (kU kV jm gZ:Sl) (kw:Int) (R:Value->World->Prop) (w:World):Prop:=
 ∀k0:Nat,∀w0:World,w.heap.size<=k0->k0<w0.heap.size->Only [] w w0->∀w1:World,Only [] w0 w1->∃J0:Nat->Int->Int->Int->World->Prop,∃k1:Nat,J0 k1 1 (jm.n:Int) 0 w1/\
 ∀k2:Nat,∀i0 i1 i2:Int,∀w2:World,J0 k2 i0 i1 i2 w2->((decide (i2<(gZ.n:Int)))=true->∃p0:Addr,cD gZ i2 9 p0/\
  ∃i3:Int,∃s0 s1 s2:ByteArray,∃l0 l1 l2 l3:Sl,∃i4:Int,aB w2 p0 [.int .i64 i3,.string s0,.string s1,.string s2,l0.v,l1.v,l2.v,l3.v,.int .i64 i4]/\
  ∀k3:Nat,∀w3:World,w2.heap.size<=k3->k3<w3.heap.size->Only [] w2 w3->Calls Tryz.prog 36 #[.agg #[.int .i64 i3,.string s0,.string s1,.string s2,l0.v,l1.v,l2.v,l3.v,.int .i64 i4]] w3 fun e0 w4=>∃i5 i6:Int,e0=(.returned (.tuple #[.int .i64 i5,.int .i64 i6]))/\
   aD [k0,k3] w3 w4/\
   ∃k4:Nat,k4<k2/\
   J0 k4 (IntKind.wrap .i64 (i0+i5)) (IntKind.wrap .i64 (i1+i6)) (IntKind.wrap .i64 (i2+1)) w4)/\
 ((decide (i2<(gZ.n:Int)))=false->R (.tuple #[.int .i64 i0,.int .i64 i1]) w2)
theorem afi (n_:Int) (kM jP kI:ByteArray) (kU kV jm gZ:Sl) (kw:Int) (R:Value->World->Prop) (w:World) (h:Y7 n_ kM jP kI kU kV jm gZ kw R w):Cr 36 #[.agg #[.int .i64 n_,.string kM,.string jP,.string kI,kU.v,kV.v,jm.v,gZ.v,.int .i64 kw]] w R:=
 fB (an:=.s .o (.s .o (.s (.s .o (.j [1,12,13] [.s 2 (.int .i64),.s 3 (.int .i64),.s 14 (.int .i64)] (.s .o (.s (.s .o .o) (.s (.s .o (.s .o .o)) .o))) .o)) (.s .o .o)))) (args:=[.agg (ld [.int .i64 n_,.str kM,.str jP,.str kI,.sl kU,.sl kV,.sl jm,.sl gZ,.int .i64 kw])]) h
def Y8 (p:Addr) (ok:Bool) (R:Value->World->Prop) (w:World):Prop:=
 ∃b0:Bool,aB w (p.add 2) [.bool b0]/\
 ∃k0 k1:Nat,∃z0:List Value,∃k2:Nat,(p.add 2)=⟨k0,k1,none⟩/\
 Blk w k0 k2 z0/\
 (k1+1)<=z0.length/\
 ∀w0:World,Only [k0] w w0->Blk w0 k0 k2 (bF z0 k1 [.bool (b0||(!ok))])->R (.tuple #[]) w0
theorem afj (p:Addr) (ok:Bool) (R:Value->World->Prop) (w:World) (h:Y8 p ok R w):Cr 37 #[.pointer (some p),.bool ok] w R:=
 fB (an:=.o) (args:=[.ad p,.bt ok]) h
def Y9 (p:Addr) (s:ByteArray) (R:Value->World->Prop) (w:World):Prop:=
 Calls Tryz.prog 85 #[.string s] w fun e0 w0=>∃b0:Bool,e0=(.returned (.bool b0))/\
  Calls Tryz.prog 37 #[.pointer (some p),.bool b0] w0 fun e1 w1=>e1=(.returned (.tuple #[]))/\
   R (.string s) w1
theorem afk (p:Addr) (s:ByteArray) (R:Value->World->Prop) (w:World) (h:Y9 p s R w):Cr 39 #[.pointer (some p),.string s] w R:=
 fB (an:=.s .o (.s .o (.s .o .o))) (args:=[.ad p,.str s]) h
def Za (s:ByteArray) (R:Value->World->Prop) (w:World):Prop:=
 ∀k0:Nat,∀w0:World,w.heap.size<=k0->k0<w0.heap.size->Only [] w w0->∃J0:Bool->ByteArray->Int->World->Prop,(∀b0:Bool,∀s0:ByteArray,∀i0:Int,∀w1:World,J0 b0 s0 i0 w1->R (.bool b0) w1)/\
 (((!(s.toList==((ByteArray.mk #[]).toList)))&&(decide ((s.size:Int)<=24)))=true->∃c0:UInt8,((0:Int)<=0/\
   s[0]? =(some c0))/\
  Calls Tryz.prog 152 #[.int .u8 (UInt8.toNat c0:Int)] w0 fun e0 w2=>∃b1:Bool,e0=(.returned (.bool b1))/\
   aD [k0] w0 w2/\
   (b1=true->Blk w2 k0 195 [.string s,.int .i64 0]->Calls Tryz.prog 153 #[.pointer (some ⟨k0,0,none⟩)] w2 fun e1 w3=>∃s2:ByteArray,e1=(.returned (.string s2))/\
    ∃s3:ByteArray,∃i1:Int,Blk w3 k0 195 [.string s3,.int .i64 i1]/\
    ((s2.toList==s.toList)=true->Calls Tryz.prog 133 #[] w3 fun e2 w4=>∃l0:Sl,e2=(.returned l0.v)/\
     ∃s4:ByteArray,∃i2:Int,Blk w4 k0 195 [.string s4,.int .i64 i2]/\
     Calls Tryz.prog 154 #[l0.v,.string s] w4 fun e3 w5=>∃b2:Bool,e3=(.returned (.bool b2))/\
      ∃s5:ByteArray,∃i3:Int,Blk w5 k0 195 [.string s5,.int .i64 i3]/\
      J0 (!b2) s5 i3 w5)/\
    ((s2.toList==s.toList)=false->J0 false s3 i1 w3))/\
   (b1=false->J0 false s 0 w2))/\
 (((!(s.toList==((ByteArray.mk #[]).toList)))&&(decide ((s.size:Int)<=24)))=false->J0 false s 0 w0)
theorem afl (s:ByteArray) (R:Value->World->Prop) (w:World) (h:Za s R w):Cr 85 #[.string s] w R:=
 fB (an:=.s .o (.s .o (.s (.j [3] [.s 2 .bool,.b 3 [.str,.int .i64]] .o .o) .o))) (args:=[.str s]) h
def Zb (p:Addr) (deep:Int) (words:Sl) (R:Value->World->Prop) (w:World):Prop:=
 Calls Tryz.prog 42 #[.pointer (some p)] w fun e0 w0=>∃b0:Bool,e0=(.returned (.bool b0))/\
  ∃b1:Bool,((!b0)=true->aB w0 (p.add 2) [.bool b1])/\
  (((!b0)&&(!b1))=true->∀w1:World,Only [] w0 w1->Calls Tryz.prog 83 #[.string (ByteArray.mk #[32,32]),.int .i64 deep] w1 fun e1 w2=>∃s0:ByteArray,e1=(.returned (.string s0))/\
   Calls Tryz.prog 84 #[words.v] w2 fun e2 w3=>∃s1:ByteArray,e2=(.returned (.string s1))/\
    ((s0.size:Int)+(s1.size:Int))<=9223372036854775807/\
    (((s0++s1).size:Int)+1)<=9223372036854775807/\
    Calls Tryz.prog 82 #[.pointer (some (p.add 0)),.string ((s0++s1)++(ByteArray.mk #[10]))] w3 fun e3 w4=>∃i0:Int,∃v0:OV,e3=(.returned (.tuple #[.int .i64 i0,v0.v]))/\
     R (.tuple #[]) w4)/\
  (((!b0)&&(!b1))=false->R (.tuple #[]) w0)
theorem afm (p:Addr) (deep:Int) (words:Sl) (R:Value->World->Prop) (w:World) (h:Zb p deep words R w):Cr 38 #[.pointer (some p),.int .i64 deep,words.v] w R:=
 fB (an:=.s .o (.s .o .o)) (args:=[.ad p,.int .i64 deep,.sl words]) h
def Zc (p:Addr) (R:Value->World->Prop) (w:World):Prop:=
 Calls Tryz.prog 91 #[.pointer (some (p.add 0))] w fun e0 w0=>∃i0:Int,e0=(.returned (.int .i64 i0))/\
  R (.bool (decide (i0>16384))) w0
theorem afn (p:Addr) (R:Value->World->Prop) (w:World) (h:Zc p R w):Cr 42 #[.pointer (some p)] w R:=
 fB (an:=.s .o (.s .o .o)) (args:=[.ad p]) h
def La (bb:Addr) (R:Value->World->Prop) (w:World):Prop:=
 ∃l0:Sl,aB w (bb.add 1) [l0.v]/\
 R (.int .i64 (l0.n:Int)) w
theorem R0 (bb:Addr) (R:Value->World->Prop) (w:World) (h:La bb R w):Cr 91 #[.pointer (some bb)] w R:=
 fB (an:=.s .o (.s .o .o)) (args:=[.ad bb]) h
def Zd (words:Sl) (R:Value->World->Prop) (w:World):Prop:=
 Calls Tryz.prog 150 #[words.v,.func (.func 151) #[] #[]] w fun e0 w0=>∃l0:Sl,e0=(.returned l0.v)/\
  Calls Tryz.prog 149 #[l0.v,.string (ByteArray.mk #[32])] w0 fun e1 w1=>∃s0:ByteArray,e1=(.returned (.string s0))/\
   R (.string s0) w1
theorem afo (words:Sl) (R:Value->World->Prop) (w:World) (h:Zd words R w):Cr 84 #[words.v] w R:=
 fB (an:=.s .o (.s .o .o)) (args:=[.sl words]) h
def Ze (s:Sl) (del:OV) (R:Value->World->Prop) (w:World):Prop:=
 Calls Tryz.prog 216 #[s.v,del.v] w fun e0 w0=>∃i0:Int,e0=(.returned (.int .i64 i0))/\
  ((i0==(-1))=true->R s.v w0)/\
  ((i0==(-1))=false->∃J0:Nat->Int->Int->World->Prop,∃k0:Nat,J0 k0 i0 (IntKind.wrap .i64 (i0+1)) w0/\
  ∀k1:Nat,∀i1 i2:Int,∀w1:World,J0 k1 i1 i2 w1->((decide (i2<(s.n:Int)))=true->∃J1:Int->World->Prop,(∀i3:Int,∀w2:World,J1 i3 w2->∃k2:Nat,k2<k1/\
    J0 k2 i3 (IntKind.wrap .i64 (i2+1)) w2)/\
   ∃p0:Addr,cD s i2 1 p0/\
   ∃s0:ByteArray,aB w1 p0 [.string s0]/\
   ∃k3:Nat,∃z0:List Value,∃z1:List Value,del.v=(.func (.func k3) z0.toArray z1.toArray)/\
   (∀x0:Array Value,∀w3:World,((callFunc k3 x0).run Tryz.prog w3)=(.ok (.enter k3 x0) w3))/\
   Calls Tryz.prog k3 ((vi (vi z0 [.string s0]) z1).toArray) w1 fun e1 w4=>∃b0:Bool,e1=(.returned (.bool b0))/\
    ((!b0)=true->∃p1:Addr,cD s i1 1 p1/\
     ∃k4 k5:Nat,∃z2:List Value,∃k6:Nat,p1=⟨k4,k5,none⟩/\
     Blk w4 k4 k6 z2/\
     (k5+1)<=z2.length/\
     ∀w5:World,Only [k4] w4 w5->Blk w5 k4 k6 (bF z2 k5 [.string s0])->J1 (IntKind.wrap .i64 (i1+1)) w5)/\
    ((!b0)=false->J1 i1 w4))/\
  ((decide (i2<(s.n:Int)))=false->∃k7:Nat,(i1=(k7:Int)/\
   k7<=s.n/\
   s.n<=s.c)/\
  ∃w6:World,((Builtin.clear_ #[52] 0 #[(s.cut k7 s.n s.c 1).v]).run Tryz.prog w1)=(.ok (.tuple #[]) w6)/\
  ∃k8:Nat,(i1=(k8:Int)/\
   k8<=s.c)/\
  R ((s.cut 0 k8 s.c 1).v) w6))
theorem afp (s:Sl) (del:OV) (R:Value->World->Prop) (w:World) (h:Ze s del R w):Cr 150 #[s.v,del.v] w R:=
 fB (an:=.s .o (.s .o (.s (.s .o (.s (.s .o .o) .o)) (.s (.s .o (.j [0,1] [.s 5 (.int .i64),.s 6 (.int .i64)] (.s (.s .o (.s .o .o)) (.j [0,1,6] [.s 5 (.int .i64)] (.s .o (.s .o (.s (.s .o .o) .o))) .o)) .o)) (.s .o (.s .o .o)))))) (args:=[.sl s,.raw del]) h
def R4 (s:Sl) (f:OV) (R:Value->World->Prop) (w:World):Prop:=
 ∃J0:Nat->Int->World->Prop,∃k0:Nat,J0 k0 0 w/\
 ∀k1:Nat,∀i0:Int,∀w0:World,J0 k1 i0 w0->((decide (i0<(s.n:Int)))=true->∃p0:Addr,cD s i0 1 p0/\
  ∃s0:ByteArray,aB w0 p0 [.string s0]/\
  ∃k2:Nat,∃z0:List Value,∃z1:List Value,f.v=(.func (.func k2) z0.toArray z1.toArray)/\
  (∀x0:Array Value,∀w1:World,((callFunc k2 x0).run Tryz.prog w1)=(.ok (.enter k2 x0) w1))/\
  Calls Tryz.prog k2 ((vi (vi z0 [.string s0]) z1).toArray) w0 fun e0 w2=>∃b0:Bool,e0=(.returned (.bool b0))/\
   (b0=true->R (.int .i64 i0) w2)/\
   (b0=false->∃k3:Nat,k3<k1/\
   J0 k3 (IntKind.wrap .i64 (i0+1)) w2))/\
 ((decide (i0<(s.n:Int)))=false->R (.int .i64 (-1)) w0)
theorem Zf (s:Sl) (f:OV) (R:Value->World->Prop) (w:World) (h:R4 s f R w):Cr 216 #[s.v,f.v] w R:=
 fB (an:=.s .o (.s (.s .o (.j [0,1,7] [.s 8 (.int .i64)] (.s .o (.s (.s .o .o) (.s (.s .o (.s .o (.s (.s .o .o) .o))) .o))) .o)) (.s .o .o))) (args:=[.sl s,.raw f]) h
def Zg (s:ByteArray) (R:Value->World->Prop) (w:World):Prop:=
 R (.bool (s.toList==((ByteArray.mk #[]).toList))) w
theorem afq (s:ByteArray) (R:Value->World->Prop) (w:World) (h:Zg s R w):Cr 151 #[.string s] w R:=
 fB (an:=.s .o (.s .o .o)) (args:=[.str s]) h
def Lb (bb:Addr) (s:ByteArray) (R:Value->World->Prop) (w:World):Prop:=
 Calls Tryz.prog 145 #[.pointer (some bb)] w fun e0 w0=>e0=(.returned (.tuple #[]))/\
  ∃l0:Sl,aB w0 (bb.add 1) [l0.v]/\
  ∃l1:Sl,∃w1:World,((Builtin.append_ #[68,9] 68 #[l0.v,.string s]).run Tryz.prog w0)=(.ok l1.v w1)/\
  ∃k0 k1:Nat,∃z0:List Value,∃k2:Nat,(bb.add 1)=⟨k0,k1,none⟩/\
  Blk w1 k0 k2 z0/\
  (k1+1)<=z0.length/\
  ∀w2:World,Only [k0] w1 w2->Blk w2 k0 k2 (bF z0 k1 [l1.v])->R (.tuple #[.int .i64 (s.size:Int),.nilIface]) w2
theorem R5 (bb:Addr) (s:ByteArray) (R:Value->World->Prop) (w:World) (h:Lb bb s R w):Cr 82 #[.pointer (some bb),.string s] w R:=
 fB (an:=.s .o (.s .o (.s .o (.s .o .o)))) (args:=[.ad bb,.str s]) h
def Lc (bb:Addr) (R:Value->World->Prop) (w:World):Prop:=
 ∃q0:Option Addr,aB w (bb.add 0) [.pointer q0]/\
 (q0.isNone=true->∃v0:OV,∃w0:World,((convert 67 248 (.pointer (some bb))).run Tryz.prog w)=(.ok v0.v w0)/\
  ∃v1:OV,∃w1:World,((IK 211 #[v0.v]).run Tryz.prog w0)=(.ok v1.v w1)/\
  ∃q1:Option Addr,∃w2:World,((convert 248 67 v1.v).run Tryz.prog w1)=(.ok (.pointer q1) w2)/\
  ∃k0 k1:Nat,∃z0:List Value,∃k2:Nat,(bb.add 0)=⟨k0,k1,none⟩/\
  Blk w2 k0 k2 z0/\
  (k1+1)<=z0.length/\
  ∀w3:World,Only [k0] w2 w3->Blk w3 k0 k2 (bF z0 k1 [.pointer q1])->R (.tuple #[]) w3)/\
 (q0.isNone=false->∃q2:Option Addr,aB w (bb.add 0) [.pointer q2]/\
 ∃b0:Bool,∃w4:World,((binOp .neq 67 (.pointer q2) (.pointer (some bb))).run Tryz.prog w)=(.ok (.bool b0) w4)/\
 (b0=true->False)/\
 (b0=false->R (.tuple #[]) w4))
theorem R6 (bb:Addr) (R:Value->World->Prop) (w:World) (h:Lc bb R w):Cr 145 #[.pointer (some bb)] w R:=
 fB (an:=.s .o (.s .o (.s .o (.s .o .o)))) (args:=[.ad bb]) h
def v1v (n_:Int) (R:Value->World->Prop) (w:World):Prop:=
 Calls Tryz.prog 86 #[.int .i64 n_] w fun e0 w0=>∃s0:ByteArray,e0=(.returned (.string s0))/\
  R (.string s0) w0
theorem v1w (n_:Int) (R:Value->World->Prop) (w:World) (h:v1v n_ R w):Cr 40 #[.int .i64 n_] w R:=
 fB (an:=.s .o (.s .o .o)) (args:=[.int .i64 n_]) h
def Zh (p:Addr) (n_:Int) (kM jP kI:ByteArray) (kU kV jm gZ:Sl) (kw deep:Int) (R:Value->World->Prop) (w:World):Prop:=
 ∀k0:Nat,∀w0:World,w.heap.size<=k0->k0<w0.heap.size->Only [] w w0->∃J0:World->Prop,(∀w1:World,J0 w1->Calls Tryz.prog 88 #[.pointer (some p),kU.v] w1 fun e0 w2=>∃s0:ByteArray,e0=(.returned (.string s0))/\
  aD [k0] w1 w2/\
  Calls Tryz.prog 87 #[.pointer (some p),.int .i64 deep,.string (ByteArray.mk #[101,110,116,101,114]),.string s0] w2 fun e1 w3=>e1=(.returned (.tuple #[]))/\
   aD [k0] w2 w3/\
   Calls Tryz.prog 88 #[.pointer (some p),kV.v] w3 fun e2 w4=>∃s1:ByteArray,e2=(.returned (.string s1))/\
    aD [k0] w3 w4/\
    Calls Tryz.prog 87 #[.pointer (some p),.int .i64 deep,.string (ByteArray.mk #[108,101,97,118,101]),.string s1] w4 fun e3 w5=>e3=(.returned (.tuple #[]))/\
     aD [k0] w4 w5/\
     ∃J1:Nat->Int->World->Prop,∃k1:Nat,J1 k1 0 w5/\
     ∀k2:Nat,∀i0:Int,∀w6:World,J1 k2 i0 w6->((decide (i0<(jm.n:Int)))=true->∃p0:Addr,cD jm i0 13 p0/\
      ∃i1:Int,∃s2:ByteArray,∃i2:Int,∃b0:Bool,∃i3 i4:Int,∃s3:ByteArray,∃i5:Int,∃l0:Sl,∃i6:Int,∃l1 l2:Sl,∃i7:Int,aB w6 p0 [.int .i64 i1,.string s2,.int .i64 i2,.bool b0,.int .i64 i3,.int .i64 i4,.string s3,.int .i64 i5,l0.v,.int .i64 i6,l1.v,l2.v,.int .i64 i7]/\
      ∀k3:Nat,∀w7:World,w6.heap.size<=k3->k3<w7.heap.size->Only [] w6 w7->Calls Tryz.prog 89 #[.pointer (some p),.agg #[.int .i64 i1,.string s2,.int .i64 i2,.bool b0,.int .i64 i3,.int .i64 i4,.string s3,.int .i64 i5,l0.v,.int .i64 i6,l1.v,l2.v,.int .i64 i7]] w7 fun e4 w8=>∃s4:ByteArray,e4=(.returned (.string s4))/\
       aD [k0,k3] w7 w8/\
       ∃l3:Sl,∃w9:World,((Instr.buildSlice 52 1 #[.mk 0 (.string s4)]).run Tryz.prog w8)=(.ok l3.v w9)/\
       aD [k0,k3] w8 w9/\
       Calls Tryz.prog 38 #[.pointer (some p),.int .i64 deep,l3.v] w9 fun e5 cI=>e5=(.returned (.tuple #[]))/\
        aD [k0,k3] w9 cI/\
        ∃k4:Nat,k4<k2/\
        J1 k4 (IntKind.wrap .i64 (i0+1)) cI)/\
     ((decide (i0<(jm.n:Int)))=false->∃J2:Nat->Int->World->Prop,∃k5:Nat,J2 k5 0 w6/\
     ∀k6:Nat,∀i8:Int,∀cS:World,J2 k6 i8 cS->((decide (i8<(gZ.n:Int)))=true->∃p1:Addr,cD gZ i8 9 p1/\
      ∃i9:Int,∃s5 s6 s7:ByteArray,∃l4 l5 l6 l7:Sl,∃i10:Int,aB cS p1 [.int .i64 i9,.string s5,.string s6,.string s7,l4.v,l5.v,l6.v,l7.v,.int .i64 i10]/\
      ∀k7:Nat,∀dK:World,cS.heap.size<=k7->k7<dK.heap.size->Only [] cS dK->Calls Tryz.prog 90 #[.pointer (some p),.agg #[.int .i64 i9,.string s5,.string s6,.string s7,l4.v,l5.v,l6.v,l7.v,.int .i64 i10],.int .i64 deep] dK fun e6 dX=>e6=(.returned (.tuple #[]))/\
       aD [k0,k7] dK dX/\
       ∃k8:Nat,k8<k6/\
       J2 k8 (IntKind.wrap .i64 (i8+1)) dX)/\
     ((decide (i8<(gZ.n:Int)))=false->R (.tuple #[]) cS)))/\
 ((!(jP.toList==((ByteArray.mk #[]).toList)))=true->Calls Tryz.prog 39 #[.pointer (some p),.string jP] w0 fun e7 eK=>∃s8:ByteArray,e7=(.returned (.string s8))/\
  aD [k0] w0 eK/\
  ((s8.size:Int)+1)<=9223372036854775807/\
  Calls Tryz.prog 87 #[.pointer (some p),.int .i64 deep,.string (ByteArray.mk #[105,110,105,116,105,97,108]),.string (s8++(ByteArray.mk #[59]))] eK fun e8 gn=>e8=(.returned (.tuple #[]))/\
   aD [k0] eK gn/\
   J0 gn)/\
 ((!(jP.toList==((ByteArray.mk #[]).toList)))=false->J0 w0)
theorem afr (p:Addr) (n_:Int) (kM jP kI:ByteArray) (kU kV jm gZ:Sl) (kw deep:Int) (R:Value->World->Prop) (w:World) (h:Zh p n_ kM jP kI kU kV jm gZ kw deep R w):Cr 41 #[.pointer (some p),.agg #[.int .i64 n_,.string kM,.string jP,.string kI,kU.v,kV.v,jm.v,gZ.v,.int .i64 kw],.int .i64 deep] w R:=
 fB (an:=.s .o (.j [0,2,4] [] (.s .o (.s .o .o)) (.s .o (.s .o (.s (.s .o (.j [0,2,4,36,37] [.s 38 (.int .i64)] (.s .o (.s (.s .o .o) (.s (.s .o .o) .o))) .o)) (.s .o (.j [0,2,4,7,51,52] [.s 53 (.int .i64)] (.s .o (.s (.s .o .o) (.s (.s .o .o) .o))) .o))))))) (args:=[.ad p,.agg (ld [.int .i64 n_,.str kM,.str jP,.str kI,.sl kU,.sl kV,.sl jm,.sl gZ,.int .i64 kw]),.int .i64 deep]) h
def Zj (p:Addr) (deep:Int) (word text:ByteArray) (R:Value->World->Prop) (w:World):Prop:=
 ((!(text.toList==((ByteArray.mk #[]).toList)))=true->∃l0:Sl,∃w0:World,((Instr.buildSlice 52 2 #[.mk 0 (.string word),.mk 1 (.string text)]).run Tryz.prog w)=(.ok l0.v w0)/\
  Calls Tryz.prog 38 #[.pointer (some p),.int .i64 deep,l0.v] w0 fun e0 w1=>e0=(.returned (.tuple #[]))/\
   R (.tuple #[]) w1)/\
 ((!(text.toList==((ByteArray.mk #[]).toList)))=false->R (.tuple #[]) w)
theorem afs (p:Addr) (deep:Int) (word text:ByteArray) (R:Value->World->Prop) (w:World) (h:Zj p deep word text R w):Cr 87 #[.pointer (some p),.int .i64 deep,.string word,.string text] w R:=
 fB (an:=.s .o (.s .o .o)) (args:=[.ad p,.int .i64 deep,.str word,.str text]) h
def Zk (p:Addr) (l:Sl) (R:Value->World->Prop) (w:World):Prop:=
 (((l.n:Int)==0)=true->R (.string (ByteArray.mk #[])) w)/\
 (((l.n:Int)==0)=false->∃i0:Int,aB w (p.add 3) [.int .i64 i0]/\
 ∃k0 k1:Nat,∃z0:List Value,∃k2:Nat,(p.add 3)=⟨k0,k1,none⟩/\
 Blk w k0 k2 z0/\
 (k1+1)<=z0.length/\
 ∀w0:World,Only [k0] w w0->Blk w0 k0 k2 (bF z0 k1 [.int .i64 (IntKind.wrap .i64 (i0+(l.n:Int)))])->∃i1:Int,aB w0 (p.add 3) [.int .i64 i1]/\
 Calls Tryz.prog 37 #[.pointer (some p),.bool (decide (i1<=400))] w0 fun e0 w1=>e0=(.returned (.tuple #[]))/\
  ∃l0:Sl,∃w2:World,((Instr.buildSlice 52 1 #[.mk 0 (.string (ByteArray.mk #[123]))]).run Tryz.prog w1)=(.ok l0.v w2)/\
  ∃J0:Sl->World->Prop,(∀l1:Sl,∀w3:World,J0 l1 w3->∃l2:Sl,∃w4:World,((Instr.buildSlice 52 1 #[.mk 0 (.string (ByteArray.mk #[125]))]).run Tryz.prog w3)=(.ok l2.v w4)/\
   ∃l3:Sl,∃w5:World,((Builtin.append_ #[52,52] 52 #[l1.v,l2.v]).run Tryz.prog w4)=(.ok l3.v w5)/\
   Calls Tryz.prog 84 #[l3.v] w5 fun e1 w6=>∃s0:ByteArray,e1=(.returned (.string s0))/\
    R (.string s0) w6)/\
  ∃J1:Nat->Sl->Int->World->Prop,∃k3:Nat,J1 k3 l0 0 w2/\
  ∀k4:Nat,∀l4:Sl,∀i2:Int,∀w7:World,J1 k4 l4 i2 w7->((decide (i2<(l.n:Int)))=true->∃p0:Addr,cD l i2 9 p0/\
   ∃i3:Int,∃s1:ByteArray,∃i4 i5:Int,∃s2:ByteArray,∃i6:Int,∃l5:Sl,∃i7 i8:Int,aB w7 p0 [.int .i64 i3,.string s1,.int .i64 i4,.int .i64 i5,.string s2,.int .i64 i6,l5.v,.int .i64 i7,.int .i64 i8]/\
   ∀k5:Nat,∀w8:World,w7.heap.size<=k5->k5<w8.heap.size->Only [] w7 w8->∃b0:Bool,aB w8 (p.add 2) [.bool b0]/\
   (b0=true->J0 l4 w8)/\
   (b0=false->Calls Tryz.prog 156 #[.pointer (some p),.agg #[.int .i64 i3,.string s1,.int .i64 i4,.int .i64 i5,.string s2,.int .i64 i6,l5.v,.int .i64 i7,.int .i64 i8]] w8 fun e2 w9=>∃s3:ByteArray,e2=(.returned (.string s3))/\
    aD [k5] w8 w9/\
    ∃l6:Sl,∃cI:World,((Instr.buildSlice 52 1 #[.mk 0 (.string s3)]).run Tryz.prog w9)=(.ok l6.v cI)/\
    aD [k5] w9 cI/\
    ∃l7:Sl,∃cS:World,((Builtin.append_ #[52,52] 52 #[l4.v,l6.v]).run Tryz.prog cI)=(.ok l7.v cS)/\
    aD [k5] cI cS/\
    ∃k6:Nat,k6<k4/\
    J1 k6 l7 (IntKind.wrap .i64 (i2+1)) cS))/\
  ((decide (i2<(l.n:Int)))=false->J0 l4 w7))
theorem aft (p:Addr) (l:Sl) (R:Value->World->Prop) (w:World) (h:Zk p l R w):Cr 88 #[.pointer (some p),l.v] w R:=
 fB (an:=.s .o (.s (.s .o (.s (.s .o .o) .o)) (.s .o (.s .o (.s .o (.j [] [.s 5 .sl] (.s .o (.j [0,28,29] [.s 5 .sl,.s 30 (.int .i64)] (.s .o (.s (.s .o .o) (.s (.s .o (.s (.s .o (.s .o .o)) .o)) .o))) .o)) (.s .o .o))))))) (args:=[.ad p,.sl l]) h
def Zl (p:Addr) (a_:Int) (W0:ByteArray) (W1 W2:Int) (W3:ByteArray) (W4:Int) (W5:Sl) (W6 a_8:Int) (R:Value->World->Prop) (w:World):Prop:=
 ∀k0:Nat,∀w0:World,w.heap.size<=k0->k0<w0.heap.size->Only [] w w0->∃l0:Sl,∃w1:World,((Instr.buildSlice 52 4 #[.mk 0 (.string (ByteArray.mk #[])),.mk 1 (.string (ByteArray.mk #[115,101,116])),.mk 2 (.string (ByteArray.mk #[114,97,105,115,101])),.mk 3 (.string (ByteArray.mk #[101,109,105,116]))]).run Tryz.prog w0)=(.ok l0.v w1)/\
 aD [k0] w0 w1/\
 (((decide (a_<1))||(decide (a_>3)))=true->Calls Tryz.prog 37 #[.pointer (some p),.bool false] w1 fun e0 w2=>e0=(.returned (.tuple #[]))/\
  aD [k0] w1 w2/\
  R (.string (ByteArray.mk #[])) w2)/\
 (((decide (a_<1))||(decide (a_>3)))=false->((a_==2)=true->Calls Tryz.prog 158 #[.pointer (some p),.agg #[.int .i64 W1,.int .i64 W2,.string W3,.int .i64 W4,W5.v,.int .i64 W6]] w1 fun e1 w3=>e1=(.returned (.tuple #[]))/\
  aD [k0] w1 w3/\
  ∀w4:World,Only [] w3 w4->∃J0:Nat->Prop,J0 k0/\
  ∃p0:Addr,cD l0 a_ 1 p0/\
  J0 p0.block/\
  ∃s0:ByteArray,aB w4 p0 [.string s0]/\
  Calls Tryz.prog 39 #[.pointer (some p),.string W0] w4 fun e2 w5=>∃s1:ByteArray,e2=(.returned (.string s1))/\
   aD [k0] w4 w5/\
   be J0 w4 w5/\
   ∃l1:Sl,∃w6:World,((Instr.buildSlice 52 2 #[.mk 0 (.string s0),.mk 1 (.string s1)]).run Tryz.prog w5)=(.ok l1.v w6)/\
   aD [k0] w5 w6/\
   be J0 w5 w6/\
   Calls Tryz.prog 84 #[l1.v] w6 fun e3 w7=>∃s2:ByteArray,e3=(.returned (.string s2))/\
    aD [k0] w6 w7/\
    be J0 w6 w7/\
    ((s2.size:Int)+1)<=9223372036854775807/\
    R (.string (s2++(ByteArray.mk #[59]))) w7)/\
 ((a_==2)=false->∀w8:World,Only [] w1 w8->∃J1:Nat->Prop,J1 k0/\
 ∃p1:Addr,cD l0 a_ 1 p1/\
 J1 p1.block/\
 ∃s3:ByteArray,aB w8 p1 [.string s3]/\
 J1 k0/\
 Calls Tryz.prog 39 #[.pointer (some p),.string W0] w8 fun e4 w9=>∃s4:ByteArray,e4=(.returned (.string s4))/\
  aD [k0] w8 w9/\
  be J1 w8 w9/\
  Calls Tryz.prog 157 #[.pointer (some p),.agg #[.int .i64 W1,.int .i64 W2,.string W3,.int .i64 W4,W5.v,.int .i64 W6]] w9 fun e5 cI=>∃s5:ByteArray,e5=(.returned (.string s5))/\
   aD [k0] w9 cI/\
   be J1 w9 cI/\
   ∃l2:Sl,∃cS:World,((Instr.buildSlice 52 4 #[.mk 0 (.string s3),.mk 1 (.string s4),.mk 2 (.string (ByteArray.mk #[61])),.mk 3 (.string s5)]).run Tryz.prog cI)=(.ok l2.v cS)/\
   aD [k0] cI cS/\
   be J1 cI cS/\
   Calls Tryz.prog 84 #[l2.v] cS fun e6 dK=>∃s6:ByteArray,e6=(.returned (.string s6))/\
    aD [k0] cS dK/\
    be J1 cS dK/\
    ((s6.size:Int)+1)<=9223372036854775807/\
    R (.string (s6++(ByteArray.mk #[59]))) dK))
theorem afu (p:Addr) (a_:Int) (W0:ByteArray) (W1 W2:Int) (W3:ByteArray) (W4:Int) (W5:Sl) (W6 a_8:Int) (R:Value->World->Prop) (w:World) (h:Zl p a_ W0 W1 W2 W3 W4 W5 W6 a_8 R w):Cr 156 #[.pointer (some p),.agg #[.int .i64 a_,.string W0,.int .i64 W1,.int .i64 W2,.string W3,.int .i64 W4,W5.v,.int .i64 W6,.int .i64 a_8]] w R:=
 fB (an:=.s .o (.s .o (.s (.s .o (.s (.s .o (.s .o .o)) .o)) (.s (.s .o (.s (.s .o (.s .o .o)) .o)) (.s .o .o))))) (args:=[.ad p,.agg (ld [.int .i64 a_,.str W0,.int .i64 W1,.int .i64 W2,.str W3,.int .i64 W4,.sl W5,.int .i64 W6,.int .i64 a_8])]) h
def Zm (p:Addr) (x x1:Int) (x2:ByteArray) (x3:Int) (x4:Sl) (x5:Int) (R:Value->World->Prop) (w:World):Prop:=
 ∀k0:Nat,∀w0:World,w.heap.size<=k0->k0<w0.heap.size->Only [] w w0->Calls Tryz.prog 37 #[.pointer (some p),.bool (((((x==0)&&(x1==0))&&(x2.toList==((ByteArray.mk #[]).toList)))&&(x3==0))&&((x4.n:Int)==0))] w0 fun e0 w1=>e0=(.returned (.tuple #[]))/\
  aD [k0] w0 w1/\
  R (.tuple #[]) w1
theorem afv (p:Addr) (x x1:Int) (x2:ByteArray) (x3:Int) (x4:Sl) (x5:Int) (R:Value->World->Prop) (w:World) (h:Zm p x x1 x2 x3 x4 x5 R w):Cr 158 #[.pointer (some p),.agg #[.int .i64 x,.int .i64 x1,.string x2,.int .i64 x3,x4.v,.int .i64 x5]] w R:=
 fB (an:=.s .o .o) (args:=[.ad p,.agg (ld [.int .i64 x,.int .i64 x1,.str x2,.int .i64 x3,.sl x4,.int .i64 x5])]) h
def Zn (p:Addr) (x x1:Int) (x2:ByteArray) (x3:Int) (x4:Sl) (x5:Int) (R:Value->World->Prop) (w:World):Prop:=
 ∀k0:Nat,∀w0:World,w.heap.size<=k0->k0<w0.heap.size->Only [] w w0->Calls Tryz.prog 218 #[.agg #[.int .i64 x,.int .i64 x1,.string x2,.int .i64 x3,x4.v,.int .i64 x5]] w0 fun e0 w1=>∃s0:ByteArray,e0=(.returned (.string s0))/\
  aD [k0] w0 w1/\
  Calls Tryz.prog 37 #[.pointer (some p),.bool (!(s0.toList==((ByteArray.mk #[]).toList)))] w1 fun e1 w2=>e1=(.returned (.tuple #[]))/\
   aD [k0] w1 w2/\
   R (.string s0) w2
theorem afw (p:Addr) (x x1:Int) (x2:ByteArray) (x3:Int) (x4:Sl) (x5:Int) (R:Value->World->Prop) (w:World) (h:Zn p x x1 x2 x3 x4 x5 R w):Cr 157 #[.pointer (some p),.agg #[.int .i64 x,.int .i64 x1,.string x2,.int .i64 x3,x4.v,.int .i64 x5]] w R:=
 fB (an:=.s .o (.s .o (.s .o (.s .o .o)))) (args:=[.ad p,.agg (ld [.int .i64 x,.int .i64 x1,.str x2,.int .i64 x3,.sl x4,.int .i64 x5])]) h
def v6v (x x1:Int) (x2:ByteArray) (x3:Int) (x4:Sl) (x5:Int) (R:Value->World->Prop) (w:World):Prop:=
 ∀k0:Nat,∀w0:World,w.heap.size<=k0->k0<w0.heap.size->Only [] w w0->Calls Tryz.prog 262 #[.agg #[.int .i64 x,.int .i64 x1,.string x2,.int .i64 x3,x4.v,.int .i64 x5]] w0 fun e0 w1=>∃b0:Bool,e0=(.returned (.bool b0))/\
  aD [k0] w0 w1/\
  ((!b0)=true->R (.string (ByteArray.mk #[])) w1)/\
  ((!b0)=false->Calls Tryz.prog 263 #[] w1 fun e1 w2=>∃l0:Sl,e1=(.returned l0.v)/\
   aD [k0] w1 w2/\
   ∀k1:Nat,∀w3:World,w2.heap.size<=k1->k1<w3.heap.size->Only [] w2 w3->Blk w3 k1 288 [.pointer none,Sl.nil.v,l0.v]->Calls Tryz.prog 264 #[.pointer (some ⟨k1,0,none⟩),.agg #[.int .i64 x,.int .i64 x1,.string x2,.int .i64 x3,x4.v,.int .i64 x5],.bool false] w3 fun e2 w4=>e2=(.returned (.tuple #[]))/\
    aD [k0] w3 w4/\
    ∃q0:Option Addr,∃l1 l2:Sl,Blk w4 k1 288 [.pointer q0,l1.v,l2.v]/\
    Calls Tryz.prog 43 #[.pointer (some ⟨k1,0,none⟩)] w4 fun e3 w5=>∃s0:ByteArray,e3=(.returned (.string s0))/\
     aD [k0] w4 w5/\
     ∃q1:Option Addr,∃l3 l4:Sl,Blk w5 k1 288 [.pointer q1,l3.v,l4.v]/\
     Calls Tryz.prog 265 #[.string s0] w5 fun e4 w6=>∃i0 i1:Int,∃s1:ByteArray,∃i2:Int,∃l5:Sl,∃i3 i4 i5:Int,e4=(.returned (.tuple #[.agg #[.int .i64 i0,.int .i64 i1,.string s1,.int .i64 i2,l5.v,.int .i64 i3],.agg #[.int .i64 i4,.int .i64 i5]]))/\
      aD [k0] w5 w6/\
      ∃q2:Option Addr,∃l6 l7:Sl,Blk w6 k1 288 [.pointer q2,l6.v,l7.v]/\
      ((i4 !=0)=true->∀k2 k3:Nat,∀w7:World,w6.heap.size<=k2->k2<w7.heap.size->w6.heap.size<=k3->k3<w7.heap.size->Only [] w6 w7->Blk w7 k1 288 [.pointer q2,l6.v,l7.v]->R (.string (ByteArray.mk #[])) w7)/\
      ((i4 !=0)=false->∀k4 k5:Nat,∀w8:World,w6.heap.size<=k4->k4<w8.heap.size->w6.heap.size<=k5->k5<w8.heap.size->Only [] w6 w8->Blk w8 k1 288 [.pointer q2,l6.v,l7.v]->Calls Tryz.prog 43 #[.pointer (some ⟨k1,0,none⟩)] w8 fun e5 w9=>∃s2:ByteArray,e5=(.returned (.string s2))/\
       aD [k0,k4,k5] w8 w9/\
       ∃q3:Option Addr,∃l8 l9:Sl,Blk w9 k1 288 [.pointer q3,l8.v,l9.v]/\
       R (.string s2) w9))
theorem v6w (x x1:Int) (x2:ByteArray) (x3:Int) (x4:Sl) (x5:Int) (R:Value->World->Prop) (w:World) (h:v6v x x1 x2 x3 x4 x5 R w):Cr 218 #[.agg #[.int .i64 x,.int .i64 x1,.string x2,.int .i64 x3,x4.v,.int .i64 x5]] w R:=
 fB (an:=.s .o (.s (.s .o (.s (.s .o .o) .o)) (.s .o (.s .o (.s (.s .o (.s .o (.s (.s .o .o) .o))) (.s .o .o)))))) (args:=[.agg (ld [.int .i64 x,.int .i64 x1,.str x2,.int .i64 x3,.sl x4,.int .i64 x5])]) h
def Zo (x x1:Int) (x2:ByteArray) (x3:Int) (x4:Sl) (x5:Int) (R:Value->World->Prop) (w:World):Prop:=
 ∀k0 k1:Nat,∀w0:World,w.heap.size<=k0->k0<w0.heap.size->w.heap.size<=k1->k1<w0.heap.size->Only [] w w0->∃J0:Int->Int->Int->ByteArray->Int->Sl->Int->World->Prop,(∀i0 i1 i2:Int,∀s0:ByteArray,∀i3:Int,∀l0:Sl,∀i4:Int,∀w1:World,J0 i0 i1 i2 s0 i3 l0 i4 w1->∃J1:Bool->World->Prop,(∀b0:Bool,∀w2:World,J1 b0 w2->R (.bool b0) w2)/\
  (((((x1==i2)&&(x2.toList==s0.toList))&&(x3==i3))&&((x4.n:Int)==i0))=true->Calls Tryz.prog 294 #[x4.v,.func (.func 295) #[] #[]] w1 fun e0 w3=>∃b1:Bool,e0=(.returned (.bool b1))/\
   aD [k0,k1] w1 w3/\
   J1 (!b1) w3)/\
  (((((x1==i2)&&(x2.toList==s0.toList))&&(x3==i3))&&((x4.n:Int)==i0))=false->J1 false w1))/\
 ((x==1)=true->∀w4:World,Only [k1] w0 w4->J0 0 x (if 0>x1 then 0 else x1) (ByteArray.mk #[]) 0 Sl.nil x5 w4)/\
 ((x==1)=false->∃J2:Bool->World->Prop,(∀b2:Bool,∀w5:World,J2 b2 w5->(b2=true->Calls Tryz.prog 85 #[.string x2] w5 fun e1 w6=>∃b3:Bool,e1=(.returned (.bool b3))/\
    aD [k0,k1] w5 w6/\
    ((!b3)=true->R (.bool false) w6)/\
    ((!b3)=false->∀w7:World,Only [k1] w6 w7->J0 0 x 0 x2 0 Sl.nil x5 w7))/\
  (b2=false->((x==4)=true->((x3==15)=true->∀w8:World,Only [k1] w5 w8->J0 1 x 0 (ByteArray.mk #[]) 15 Sl.nil x5 w8)/\
   ((x3==15)=false->∀w9:World,Only [k1] w5 w9->J0 1 x 0 (ByteArray.mk #[]) 14 Sl.nil x5 w9))/\
  ((x==4)=false->((x==5)=true->Calls Tryz.prog 293 #[.int .i64 x3] w5 fun e2 cI=>∃i5:Int,e2=(.returned (.int .i64 i5))/\
   aD [k0,k1] w5 cI/\
   ((i5==6)=true->R (.bool false) cI)/\
   ((i5==6)=false->∀cS:World,Only [k1] cI cS->J0 2 x 0 (ByteArray.mk #[]) x3 Sl.nil x5 cS))/\
  ((x==5)=false->R (.bool false) w5))))/\
 ((x==2)=true->J2 (x==2) w0)/\
 ((x==2)=false->J2 (x==3) w0))
theorem afx (x x1:Int) (x2:ByteArray) (x3:Int) (x4:Sl) (x5:Int) (R:Value->World->Prop) (w:World) (h:Zo x x1 x2 x3 x4 x5 R w):Cr 262 #[.agg #[.int .i64 x,.int .i64 x1,.string x2,.int .i64 x3,x4.v,.int .i64 x5]] w R:=
 fB (an:=.s .o (.s .o (.s .o (.j [1,3] [.s 4 (.int .i64),.b 3 [.int .i64,.int .i64,.str,.int .i64,.sl,.int .i64]] (.s .o (.s .o (.s .o (.j [1,3,4,11] [.s 18 .bool] (.s .o (.s .o .o)) (.s (.s (.s .o (.s (.s .o .o) .o)) .o) (.s .o (.s (.s .o (.s .o (.s .o .o))) (.s .o (.s (.s (.s .o (.s (.s .o .o) .o)) .o) (.s .o .o)))))))))) (.s (.j [1,3] [.s 2 .bool] .o .o) .o))))) (args:=[.agg (ld [.int .i64 x,.int .i64 x1,.str x2,.int .i64 x3,.sl x4,.int .i64 x5])]) h
def Zp (s:Sl) (f:OV) (R:Value->World->Prop) (w:World):Prop:=
 Calls Tryz.prog 310 #[s.v,f.v] w fun e0 w0=>∃i0:Int,e0=(.returned (.int .i64 i0))/\
  R (.bool (decide (i0>=0))) w0
theorem afy (s:Sl) (f:OV) (R:Value->World->Prop) (w:World) (h:Zp s f R w):Cr 294 #[s.v,f.v] w R:=
 fB (an:=.s .o (.s .o .o)) (args:=[.sl s,.raw f]) h
def Zr (s:Sl) (f:OV) (R:Value->World->Prop) (w:World):Prop:=
 ∃J0:Nat->Int->World->Prop,∃k0:Nat,J0 k0 0 w/\
 ∀k1:Nat,∀i0:Int,∀w0:World,J0 k1 i0 w0->((decide (i0<(s.n:Int)))=true->∃p0:Addr,cD s i0 6 p0/\
  ∃i1 i2:Int,∃s0:ByteArray,∃i3:Int,∃l0:Sl,∃i4:Int,aB w0 p0 [.int .i64 i1,.int .i64 i2,.string s0,.int .i64 i3,l0.v,.int .i64 i4]/\
  ∃k2:Nat,∃z0:List Value,∃z1:List Value,f.v=(.func (.func k2) z0.toArray z1.toArray)/\
  (∀x0:Array Value,∀w1:World,((callFunc k2 x0).run Tryz.prog w1)=(.ok (.enter k2 x0) w1))/\
  Calls Tryz.prog k2 ((vi (vi z0 [.agg #[.int .i64 i1,.int .i64 i2,.string s0,.int .i64 i3,l0.v,.int .i64 i4]]) z1).toArray) w0 fun e0 w2=>∃b0:Bool,e0=(.returned (.bool b0))/\
   (b0=true->R (.int .i64 i0) w2)/\
   (b0=false->∃k3:Nat,k3<k1/\
   J0 k3 (IntKind.wrap .i64 (i0+1)) w2))/\
 ((decide (i0<(s.n:Int)))=false->R (.int .i64 (-1)) w0)
theorem afz (s:Sl) (f:OV) (R:Value->World->Prop) (w:World) (h:Zr s f R w):Cr 310 #[s.v,f.v] w R:=
 fB (an:=.s .o (.s (.s .o (.j [0,1,7] [.s 8 (.int .i64)] (.s .o (.s (.s .o .o) (.s (.s .o (.s .o (.s (.s .o .o) .o))) .o))) .o)) (.s .o .o))) (args:=[.sl s,.raw f]) h
def Zs (s s1:Int) (s2:ByteArray) (s3:Int) (s4:Sl) (s5:Int) (R:Value->World->Prop) (w:World):Prop:=
 ∀k0:Nat,∀w0:World,w.heap.size<=k0->k0<w0.heap.size->Only [] w w0->Calls Tryz.prog 262 #[.agg #[.int .i64 s,.int .i64 s1,.string s2,.int .i64 s3,s4.v,.int .i64 s5]] w0 fun e0 w1=>∃b0:Bool,e0=(.returned (.bool b0))/\
  aD [k0] w0 w1/\
  R (.bool (!b0)) w1
theorem afA (s s1:Int) (s2:ByteArray) (s3:Int) (s4:Sl) (s5:Int) (R:Value->World->Prop) (w:World) (h:Zs s s1 s2 s3 s4 s5 R w):Cr 295 #[.agg #[.int .i64 s,.int .i64 s1,.string s2,.int .i64 s3,s4.v,.int .i64 s5]] w R:=
 fB (an:=.s .o (.s .o .o)) (args:=[.agg (ld [.int .i64 s,.int .i64 s1,.str s2,.int .i64 s3,.sl s4,.int .i64 s5])]) h
def Zu (p:Addr) (x x1:Int) (x2:ByteArray) (x3:Int) (x4:Sl) (x5:Int) (wrapped:Bool) (R:Value->World->Prop) (w:World):Prop:=
 ∀k0:Nat,∀w0:World,w.heap.size<=k0->k0<w0.heap.size->Only [] w w0->Calls Tryz.prog 91 #[.pointer (some (p.add 0))] w0 fun e0 w1=>∃i0:Int,e0=(.returned (.int .i64 i0))/\
  aD [k0] w0 w1/\
  ((decide (i0>16384))=true->R (.tuple #[]) w1)/\
  ((decide (i0>16384))=false->(wrapped=true->Calls Tryz.prog 296 #[.pointer (some (p.add 0)),.int .u8 40] w1 fun e1 w2=>∃v0:OV,e1=(.returned v0.v)/\
   aD [k0] w1 w2/\
   ((x==1)=true->∀w3:World,Only [] w2 w3->Calls Tryz.prog 40 #[.int .i64 x1] w3 fun e2 w4=>∃s0:ByteArray,e2=(.returned (.string s0))/\
    aD [k0] w3 w4/\
    Calls Tryz.prog 82 #[.pointer (some (p.add 0)),.string s0] w4 fun e3 w5=>∃i1:Int,∃v1:OV,e3=(.returned (.tuple #[.int .i64 i1,v1.v]))/\
     aD [k0] w4 w5/\
     iZ Tryz.prog 296 #[.pointer (some (p.add 0)),.int .u8 41] w5 (fun x0 w6=>R (.tuple #[]) w6))/\
   ((x==1)=false->((x==2)=true->∀w7:World,Only [] w2 w7->Calls Tryz.prog 82 #[.pointer (some (p.add 0)),.string x2] w7 fun e4 w8=>∃i2:Int,∃v2:OV,e4=(.returned (.tuple #[.int .i64 i2,v2.v]))/\
    aD [k0] w7 w8/\
    iZ Tryz.prog 296 #[.pointer (some (p.add 0)),.int .u8 41] w8 (fun x1 w9=>R (.tuple #[]) w9))/\
   ((x==2)=false->((x==3)=true->(3+(x2.size:Int))<=9223372036854775807/\
    ((((ByteArray.mk #[105,110,40])++x2).size:Int)+1)<=9223372036854775807/\
    ∀cI:World,Only [] w2 cI->Calls Tryz.prog 82 #[.pointer (some (p.add 0)),.string (((ByteArray.mk #[105,110,40])++x2)++(ByteArray.mk #[41]))] cI fun e5 cS=>∃i3:Int,∃v3:OV,e5=(.returned (.tuple #[.int .i64 i3,v3.v]))/\
     aD [k0] cI cS/\
     iZ Tryz.prog 296 #[.pointer (some (p.add 0)),.int .u8 41] cS (fun x2 dK=>R (.tuple #[]) dK))/\
   ((x==3)=false->((x==4)=true->∀dX:World,Only [] w2 dX->∃l0:Sl,aB dX (p.add 2) [l0.v]/\
    ∃p0:Addr,cD l0 x3 1 p0/\
    ∃s1:ByteArray,aB dX p0 [.string s1]/\
    Calls Tryz.prog 82 #[.pointer (some (p.add 0)),.string s1] dX fun e6 eK=>∃i4:Int,∃v4:OV,e6=(.returned (.tuple #[.int .i64 i4,v4.v]))/\
     aD [k0] dX eK/\
     ∀gn:World,Only [] eK gn->∃J0:Nat->Prop,J0 k0/\
     ∃p1:Addr,cD x4 0 6 p1/\
     J0 p1.block/\
     ∃i5 i6:Int,∃s2:ByteArray,∃i7:Int,∃l1:Sl,∃i8:Int,aB gn p1 [.int .i64 i5,.int .i64 i6,.string s2,.int .i64 i7,l1.v,.int .i64 i8]/\
     ∃p2:Addr,cD x4 0 6 p2/\
     ∃i9 i10:Int,∃s3:ByteArray,∃i11:Int,∃l2:Sl,∃i12:Int,aB gn p2 [.int .i64 i9,.int .i64 i10,.string s3,.int .i64 i11,l2.v,.int .i64 i12]/\
     Calls Tryz.prog 297 #[.agg #[.int .i64 i9,.int .i64 i10,.string s3,.int .i64 i11,l2.v,.int .i64 i12]] gn fun e7 gR=>∃i13:Int,e7=(.returned (.int .i64 i13))/\
      aD [k0] gn gR/\
      be J0 gn gR/\
      Calls Tryz.prog 264 #[.pointer (some p),.agg #[.int .i64 i5,.int .i64 i6,.string s2,.int .i64 i7,l1.v,.int .i64 i8],.bool (decide (i13<6))] gR fun e8 fR=>e8=(.returned (.tuple #[]))/\
       aD [k0] gR fR/\
       be J0 gR fR/\
       iZ Tryz.prog 296 #[.pointer (some (p.add 0)),.int .u8 41] fR (fun x3 jH=>R (.tuple #[]) jH))/\
   ((x==4)=false->Calls Tryz.prog 297 #[.agg #[.int .i64 x,.int .i64 x1,.string x2,.int .i64 x3,x4.v,.int .i64 x5]] w2 fun e9 jK=>∃i14:Int,e9=(.returned (.int .i64 i14))/\
    aD [k0] w2 jK/\
    ∀jl:World,Only [] jK jl->∃J1:Nat->Prop,J1 k0/\
    ∃p3:Addr,cD x4 0 6 p3/\
    J1 p3.block/\
    ∃i15 i16:Int,∃s4:ByteArray,∃i17:Int,∃l3:Sl,∃i18:Int,aB jl p3 [.int .i64 i15,.int .i64 i16,.string s4,.int .i64 i17,l3.v,.int .i64 i18]/\
    ∃p4:Addr,cD x4 0 6 p4/\
    ∃i19 i20:Int,∃s5:ByteArray,∃i21:Int,∃l4:Sl,∃i22:Int,aB jl p4 [.int .i64 i19,.int .i64 i20,.string s5,.int .i64 i21,l4.v,.int .i64 i22]/\
    Calls Tryz.prog 297 #[.agg #[.int .i64 i19,.int .i64 i20,.string s5,.int .i64 i21,l4.v,.int .i64 i22]] jl fun D4 lZ=>∃i23:Int,D4=(.returned (.int .i64 i23))/\
     aD [k0] jl lZ/\
     be J1 jl lZ/\
     Calls Tryz.prog 264 #[.pointer (some p),.agg #[.int .i64 i15,.int .i64 i16,.string s4,.int .i64 i17,l3.v,.int .i64 i18],.bool (decide (i23<i14))] lZ fun NP rq=>NP=(.returned (.tuple #[]))/\
      aD [k0] lZ rq/\
      be J1 lZ rq/\
      ∀rr:World,Only [] rq rr->∃l5:Sl,aB rr (p.add 2) [l5.v]/\
      ∃p5:Addr,cD l5 x3 1 p5/\
      ∃s6:ByteArray,aB rr p5 [.string s6]/\
      (1+(s6.size:Int))<=9223372036854775807/\
      ((((ByteArray.mk #[32])++s6).size:Int)+1)<=9223372036854775807/\
      Calls Tryz.prog 82 #[.pointer (some (p.add 0)),.string (((ByteArray.mk #[32])++s6)++(ByteArray.mk #[32]))] rr fun e12 qe=>∃i24:Int,∃v5:OV,e12=(.returned (.tuple #[.int .i64 i24,v5.v]))/\
       aD [k0] rr qe/\
       ∀mG:World,Only [] qe mG->∃J2:Nat->Prop,J2 k0/\
       ∃p6:Addr,cD x4 1 6 p6/\
       J2 p6.block/\
       ∃i25 i26:Int,∃s7:ByteArray,∃i27:Int,∃l6:Sl,∃i28:Int,aB mG p6 [.int .i64 i25,.int .i64 i26,.string s7,.int .i64 i27,l6.v,.int .i64 i28]/\
       ∃p7:Addr,cD x4 1 6 p7/\
       ∃i29 i30:Int,∃s8:ByteArray,∃i31:Int,∃l7:Sl,∃i32:Int,aB mG p7 [.int .i64 i29,.int .i64 i30,.string s8,.int .i64 i31,l7.v,.int .i64 i32]/\
       Calls Tryz.prog 297 #[.agg #[.int .i64 i29,.int .i64 i30,.string s8,.int .i64 i31,l7.v,.int .i64 i32]] mG fun e13 oC=>∃i33:Int,e13=(.returned (.int .i64 i33))/\
        aD [k0] mG oC/\
        be J2 mG oC/\
        Calls Tryz.prog 264 #[.pointer (some p),.agg #[.int .i64 i25,.int .i64 i26,.string s7,.int .i64 i27,l6.v,.int .i64 i28],.bool (decide (i33<=i14))] oC fun e14 qf=>e14=(.returned (.tuple #[]))/\
         aD [k0] oC qf/\
         be J2 oC qf/\
         iZ Tryz.prog 296 #[.pointer (some (p.add 0)),.int .u8 41] qf (fun x4 vd=>R (.tuple #[]) vd))))))/\
  (wrapped=false->((x==1)=true->∀vJ:World,Only [] w1 vJ->Calls Tryz.prog 40 #[.int .i64 x1] vJ fun e15 FU=>∃s9:ByteArray,e15=(.returned (.string s9))/\
   aD [k0] vJ FU/\
   Calls Tryz.prog 82 #[.pointer (some (p.add 0)),.string s9] FU fun e16 OQ=>∃i34:Int,∃v6:OV,e16=(.returned (.tuple #[.int .i64 i34,v6.v]))/\
    aD [k0] FU OQ/\
    R (.tuple #[]) OQ)/\
  ((x==1)=false->((x==2)=true->∀Vp:World,Only [] w1 Vp->Calls Tryz.prog 82 #[.pointer (some (p.add 0)),.string x2] Vp fun e17 WY=>∃i35:Int,∃v7:OV,e17=(.returned (.tuple #[.int .i64 i35,v7.v]))/\
   aD [k0] Vp WY/\
   R (.tuple #[]) WY)/\
  ((x==2)=false->((x==3)=true->(3+(x2.size:Int))<=9223372036854775807/\
   ((((ByteArray.mk #[105,110,40])++x2).size:Int)+1)<=9223372036854775807/\
   ∀Vq:World,Only [] w1 Vq->Calls Tryz.prog 82 #[.pointer (some (p.add 0)),.string (((ByteArray.mk #[105,110,40])++x2)++(ByteArray.mk #[41]))] Vq fun e18 WZ=>∃i36:Int,∃v8:OV,e18=(.returned (.tuple #[.int .i64 i36,v8.v]))/\
    aD [k0] Vq WZ/\
    R (.tuple #[]) WZ)/\
  ((x==3)=false->((x==4)=true->∀w36:World,Only [] w1 w36->∃l8:Sl,aB w36 (p.add 2) [l8.v]/\
   ∃p8:Addr,cD l8 x3 1 p8/\
   ∃FP:ByteArray,aB w36 p8 [.string FP]/\
   Calls Tryz.prog 82 #[.pointer (some (p.add 0)),.string FP] w36 fun e19 w37=>∃i37:Int,∃v9:OV,e19=(.returned (.tuple #[.int .i64 i37,v9.v]))/\
    aD [k0] w36 w37/\
    ∀W7:World,Only [] w37 W7->∃J3:Nat->Prop,J3 k0/\
    ∃p9:Addr,cD x4 0 6 p9/\
    J3 p9.block/\
    ∃i38 i39:Int,∃FQ:ByteArray,∃i40:Int,∃l9:Sl,∃i41:Int,aB W7 p9 [.int .i64 i38,.int .i64 i39,.string FQ,.int .i64 i40,l9.v,.int .i64 i41]/\
    ∃Vt:Addr,cD x4 0 6 Vt/\
    ∃i42 i43:Int,∃NL:ByteArray,∃i44:Int,∃l10:Sl,∃i45:Int,aB W7 Vt [.int .i64 i42,.int .i64 i43,.string NL,.int .i64 i44,l10.v,.int .i64 i45]/\
    Calls Tryz.prog 297 #[.agg #[.int .i64 i42,.int .i64 i43,.string NL,.int .i64 i44,l10.v,.int .i64 i45]] W7 fun e20 w39=>∃i46:Int,e20=(.returned (.int .i64 i46))/\
     aD [k0] W7 w39/\
     be J3 W7 w39/\
     Calls Tryz.prog 264 #[.pointer (some p),.agg #[.int .i64 i38,.int .i64 i39,.string FQ,.int .i64 i40,l9.v,.int .i64 i41],.bool (decide (i46<6))] w39 fun e21 w40=>e21=(.returned (.tuple #[]))/\
      aD [k0] w39 w40/\
      be J3 w39 w40/\
      R (.tuple #[]) w40)/\
  ((x==4)=false->Calls Tryz.prog 297 #[.agg #[.int .i64 x,.int .i64 x1,.string x2,.int .i64 x3,x4.v,.int .i64 x5]] w1 fun e22 w41=>∃i47:Int,e22=(.returned (.int .i64 i47))/\
   aD [k0] w1 w41/\
   ∀W8:World,Only [] w41 W8->∃J4:Nat->Prop,J4 k0/\
   ∃p11:Addr,cD x4 0 6 p11/\
   J4 p11.block/\
   ∃i48 i49:Int,∃SW:ByteArray,∃i50:Int,∃qW:Sl,∃i51:Int,aB W8 p11 [.int .i64 i48,.int .i64 i49,.string SW,.int .i64 i50,qW.v,.int .i64 i51]/\
   ∃p12:Addr,cD x4 0 6 p12/\
   ∃i52 i53:Int,∃SX:ByteArray,∃i54:Int,∃rS:Sl,∃i55:Int,aB W8 p12 [.int .i64 i52,.int .i64 i53,.string SX,.int .i64 i54,rS.v,.int .i64 i55]/\
   Calls Tryz.prog 297 #[.agg #[.int .i64 i52,.int .i64 i53,.string SX,.int .i64 i54,rS.v,.int .i64 i55]] W8 fun e23 w43=>∃i56:Int,e23=(.returned (.int .i64 i56))/\
    aD [k0] W8 w43/\
    be J4 W8 w43/\
    Calls Tryz.prog 264 #[.pointer (some p),.agg #[.int .i64 i48,.int .i64 i49,.string SW,.int .i64 i50,qW.v,.int .i64 i51],.bool (decide (i56<i47))] w43 fun e24 w44=>e24=(.returned (.tuple #[]))/\
     aD [k0] w43 w44/\
     be J4 w43 w44/\
     ∀w45:World,Only [] w44 w45->∃wi:Sl,aB w45 (p.add 2) [wi.v]/\
     ∃p13:Addr,cD wi x3 1 p13/\
     ∃OJ:ByteArray,aB w45 p13 [.string OJ]/\
     (1+(OJ.size:Int))<=9223372036854775807/\
     ((((ByteArray.mk #[32])++OJ).size:Int)+1)<=9223372036854775807/\
     Calls Tryz.prog 82 #[.pointer (some (p.add 0)),.string (((ByteArray.mk #[32])++OJ)++(ByteArray.mk #[32]))] w45 fun e25 w46=>∃i57:Int,∃v10:OV,e25=(.returned (.tuple #[.int .i64 i57,v10.v]))/\
      aD [k0] w45 w46/\
      ∀W9:World,Only [] w46 W9->∃J5:Nat->Prop,J5 k0/\
      ∃p14:Addr,cD x4 1 6 p14/\
      J5 p14.block/\
      ∃i58 i59:Int,∃Q0:ByteArray,∃i60:Int,∃yd:Sl,∃i61:Int,aB W9 p14 [.int .i64 i58,.int .i64 i59,.string Q0,.int .i64 i60,yd.v,.int .i64 i61]/\
      ∃p15:Addr,cD x4 1 6 p15/\
      ∃i62 i63:Int,∃Vm:ByteArray,∃i64:Int,∃D2:Sl,∃i65:Int,aB W9 p15 [.int .i64 i62,.int .i64 i63,.string Vm,.int .i64 i64,D2.v,.int .i64 i65]/\
      Calls Tryz.prog 297 #[.agg #[.int .i64 i62,.int .i64 i63,.string Vm,.int .i64 i64,D2.v,.int .i64 i65]] W9 fun e26 w48=>∃i66:Int,e26=(.returned (.int .i64 i66))/\
       aD [k0] W9 w48/\
       be J5 W9 w48/\
       Calls Tryz.prog 264 #[.pointer (some p),.agg #[.int .i64 i58,.int .i64 i59,.string Q0,.int .i64 i60,yd.v,.int .i64 i61],.bool (decide (i66<=i47))] w48 fun e27 w49=>e27=(.returned (.tuple #[]))/\
        aD [k0] w48 w49/\
        be J5 w48 w49/\
        R (.tuple #[]) w49))))))
theorem afB (p:Addr) (x x1:Int) (x2:ByteArray) (x3:Int) (x4:Sl) (x5:Int) (wrapped:Bool) (R:Value->World->Prop) (w:World) (h:Zu p x x1 x2 x3 x4 x5 wrapped R w):Cr 264 #[.pointer (some p),.agg #[.int .i64 x,.int .i64 x1,.string x2,.int .i64 x3,x4.v,.int .i64 x5],.bool wrapped] w R:=
 fB (an:=.s .o (.s (.s .o (.s .o .o)) (.s (.s .o (.s (.s .o .o) .o)) (.s .o (.s .o (.s .o (.s .o (.s .o (.s .o (.s .o (.s .o (.s (.s .o .o) (.s .o (.s .o (.s .o .o))))))))))))))) (args:=[.ad p,.agg (ld [.int .i64 x,.int .i64 x1,.str x2,.int .i64 x3,.sl x4,.int .i64 x5]),.bt wrapped]) h
def GJ (bb:Addr) (c:Int) (R:Value->World->Prop) (w:World):Prop:=
 Calls Tryz.prog 145 #[.pointer (some bb)] w fun e0 w0=>e0=(.returned (.tuple #[]))/\
  ∃l0:Sl,aB w0 (bb.add 1) [l0.v]/\
  ∃l1:Sl,∃w1:World,((Instr.buildSlice 68 1 #[.mk 0 (.int .u8 c)]).run Tryz.prog w0)=(.ok l1.v w1)/\
  ∃l2:Sl,∃w2:World,((Builtin.append_ #[68,68] 68 #[l0.v,l1.v]).run Tryz.prog w1)=(.ok l2.v w2)/\
  ∃k0 k1:Nat,∃z0:List Value,∃k2:Nat,(bb.add 1)=⟨k0,k1,none⟩/\
  Blk w2 k0 k2 z0/\
  (k1+1)<=z0.length/\
  ∀w3:World,Only [k0] w2 w3->Blk w3 k0 k2 (bF z0 k1 [l2.v])->R .nilIface w3
theorem Zv (bb:Addr) (c:Int) (R:Value->World->Prop) (w:World) (h:GJ bb c R w):Cr 296 #[.pointer (some bb),.int .u8 c] w R:=
 fB (an:=.s .o (.s .o (.s .o (.s .o .o)))) (args:=[.ad bb,.int .u8 c]) h
theorem kD (bb:Addr) (c:Int) (R:Value->World->Prop) (w:World) (h:GJ bb c R w):iZ Tryz.prog 296 #[.pointer (some bb),.int .u8 c] w R:=
 X9 (an:=.s .o (.s .o (.s .o (.s .o .o)))) (args:=[.ad bb,.int .u8 c]) Tryz.checked.mixed (by kernel_rfl) (by kernel_rfl) h
def Zw (x x1:Int) (x2:ByteArray) (x3:Int) (x4:Sl) (x5:Int) (R:Value->World->Prop) (w:World):Prop:=
 ((x !=5)=true->∀k0:Nat,∀w0:World,w.heap.size<=k0->k0<w0.heap.size->Only [] w w0->R (.int .i64 6) w0)/\
 ((x !=5)=false->∀k1:Nat,∀w1:World,w.heap.size<=k1->k1<w1.heap.size->Only [] w w1->Calls Tryz.prog 293 #[.int .i64 x3] w1 fun e0 w2=>∃i0:Int,e0=(.returned (.int .i64 i0))/\
  aD [k1] w1 w2/\
  R (.int .i64 i0) w2)
theorem afC (x x1:Int) (x2:ByteArray) (x3:Int) (x4:Sl) (x5:Int) (R:Value->World->Prop) (w:World) (h:Zw x x1 x2 x3 x4 x5 R w):Cr 297 #[.agg #[.int .i64 x,.int .i64 x1,.string x2,.int .i64 x3,x4.v,.int .i64 x5]] w R:=
 fB (an:=.s .o (.s (.s .o (.s (.s .o .o) .o)) (.s .o .o))) (args:=[.agg (ld [.int .i64 x,.int .i64 x1,.str x2,.int .i64 x3,.sl x4,.int .i64 x5])]) h
def Ld (bb:Addr) (R:Value->World->Prop) (w:World):Prop:=
 ∀w0:World,Only [] w w0->∃J0:Nat->Prop,∃l0:Sl,aB w0 (bb.add 1) [l0.v]/\
 J0 ((bb.add 1).block)/\
 ∃l1:Sl,aB w0 (bb.add 1) [l1.v]/\
 ∃q0:Option Addr,∃w1:World,((Builtin.unsafeSliceData_ #[68] 153 #[l0.v]).run Tryz.prog w0)=(.ok (.pointer q0) w1)/\
 be J0 w0 w1/\
 ∃s0:ByteArray,∃w2:World,((Builtin.unsafeString_ #[153,3] 9 #[.pointer q0,.int .i64 (l1.n:Int)]).run Tryz.prog w1)=(.ok (.string s0) w2)/\
 be J0 w1 w2/\
 R (.string s0) w2
theorem R7 (bb:Addr) (R:Value->World->Prop) (w:World) (h:Ld bb R w):Cr 43 #[.pointer (some bb)] w R:=
 fB (an:=.s .o (.s .o .o)) (args:=[.ad bb]) h
def v5v (s:ByteArray) (R:Value->World->Prop) (w:World):Prop:=
 ∀k0 k1:Nat,∀w0:World,w.heap.size<=k0->k0<w0.heap.size->w.heap.size<=k1->k1<w0.heap.size->Only [] w w0->Calls Tryz.prog 72 #[.string s] w0 fun e0 w1=>∃l0:Sl,∃i0 i1:Int,e0=(.returned (.tuple #[l0.v,.agg #[.int .i64 i0,.int .i64 i1]]))/\
  aD [k0,k1] w0 w1/\
  ((i0 !=0)=true->∀k2:Nat,∀w2:World,w1.heap.size<=k2->k2<w2.heap.size->Only [] w1 w2->k0≠k1->k0≠k2->k1≠k2->∃J0:Nat->Prop,J0 k2/\
   vm J0 k0/\
   vm J0 k1/\
   ∀w3:World,Only [k1,k0] w2 w3->R (.tuple #[.agg #[.int .i64 0,.int .i64 0,.string (ByteArray.mk #[]),.int .i64 0,Sl.nil.v,.int .i64 0],.agg #[.int .i64 i0,.int .i64 i1]]) w3)/\
  ((i0 !=0)=false->∀k3:Nat,∀w4:World,w1.heap.size<=k3->k3<w4.heap.size->Only [] w1 w4->Calls Tryz.prog 288 #[l0.v,.int .i64 0] w4 fun e1 w5=>∃i2 i3:Int,∃s0:ByteArray,∃i4:Int,∃l1:Sl,∃i5 i6 i7 i8:Int,e1=(.returned (.tuple #[.agg #[.int .i64 i2,.int .i64 i3,.string s0,.int .i64 i4,l1.v,.int .i64 i5],.int .i64 i6,.agg #[.int .i64 i7,.int .i64 i8]]))/\
   aD [k0,k1,k3] w4 w5/\
   ∀k4:Nat,∀w6:World,w5.heap.size<=k4->k4<w6.heap.size->Only [k3] w5 w6->∃J1:Int->Int->World->Prop,(∀i9 i10:Int,∀w7:World,J1 i9 i10 w7->((i9 !=0)=true->∀w8:World,Only [] w7 w8->k0≠k1->k0≠k3->k0≠k4->k1≠k3->k1≠k4->k3≠k4->∃J2:Nat->Prop,J2 k3/\
     vm J2 k0/\
     vm J2 k1/\
     ∀w9:World,Only [k1,k0] w8 w9->R (.tuple #[.agg #[.int .i64 0,.int .i64 0,.string (ByteArray.mk #[]),.int .i64 0,Sl.nil.v,.int .i64 0],.agg #[.int .i64 i9,.int .i64 i10]]) w9)/\
    ((i9 !=0)=false->∀cI:World,Only [] w7 cI->k0≠k1->k0≠k3->k0≠k4->k1≠k3->k1≠k4->k3≠k4->∃J3:Nat->Prop,J3 k3/\
    vm J3 k0/\
    vm J3 k1/\
    ∀cS:World,Only [k1,k0] cI cS->R (.tuple #[.agg #[.int .i64 i2,.int .i64 i3,.string s0,.int .i64 i4,l1.v,.int .i64 i5],.agg #[.int .i64 i9,.int .i64 i10]]) cS))/\
   ∃p0:Addr,((i7==0)=true->cD l0 i6 4 p0)/\
   ∃i11:Int,((i7==0)=true->aB w6 (p0.add 0) [.int .i64 i11])/\
   (((i7==0)&&(i11 !=5))=true->∃p1:Addr,cD l0 i6 4 p1/\
    ∃i12:Int,aB w6 (p1.add 3) [.int .i64 i12]/\
    ∀dK:World,Only [k3] w6 dK->J1 4 i12 dK)/\
   (((i7==0)&&(i11 !=5))=false->J1 i7 i8 w6))
theorem v5w (s:ByteArray) (R:Value->World->Prop) (w:World) (h:v5v s R w):Cr 265 #[.string s] w R:=
 fB (an:=.s .o (.s .o (.s (.s .o (.s (.s .o .o) .o)) (.s .o (.j [2,3,5,6] [.b 5 [.int .i64,.int .i64]] (.s .o (.s .o .o)) (.s (.s .o (.s (.s .o .o) .o)) (.s .o .o))))))) (args:=[.str s]) h
def Zx (p:Addr) (m:Int) (m1:ByteArray) (m2:Int) (m3:Bool) (m4 m5:Int) (m6:ByteArray) (m7:Int) (m8:Sl) (m9:Int) (m10 m11:Sl) (m12:Int) (R:Value->World->Prop) (w:World):Prop:=
 ∀k0:Nat,∀w0:World,w.heap.size<=k0->k0<w0.heap.size->Only [] w w0->∃J0:ByteArray->World->Prop,(∀s0:ByteArray,∀w1:World,J0 s0 w1->Calls Tryz.prog 37 #[.pointer (some p),.bool (((m1.toList==((ByteArray.mk #[]).toList))||(m==1))&&((m2==0)||(m==3)))] w1 fun e0 w2=>e0=(.returned (.tuple #[]))/\
  aD [k0] w1 w2/\
  ∃J1:ByteArray->World->Prop,(∀s1:ByteArray,∀w3:World,J1 s1 w3->∃J2:Nat->Int->World->Prop,∃k1:Nat,J2 k1 0 w3/\
   ∀k2:Nat,∀i0:Int,∀w4:World,J2 k2 i0 w4->((decide (i0<(m11.n:Int)))=true->∃p0:Addr,cD m11 i0 1 p0/\
    ∃s2:ByteArray,aB w4 p0 [.string s2]/\
    Calls Tryz.prog 39 #[.pointer (some p),.string s2] w4 fun e1 w5=>∃s3:ByteArray,e1=(.returned (.string s3))/\
     aD [k0] w4 w5/\
     ∃k3:Nat,k3<k2/\
     J2 k3 (IntKind.wrap .i64 (i0+1)) w5)/\
   ((decide (i0<(m11.n:Int)))=false->∃J3:ByteArray->World->Prop,(∀s4:ByteArray,∀w6:World,J3 s4 w6->Calls Tryz.prog 88 #[.pointer (some p),m10.v] w6 fun e2 w7=>∃s5:ByteArray,e2=(.returned (.string s5))/\
    aD [k0] w6 w7/\
    ∃l0:Sl,∃w8:World,((Instr.buildSlice 52 4 #[.mk 0 (.string s0),.mk 1 (.string s1),.mk 2 (.string s5),.mk 3 (.string s4)]).run Tryz.prog w7)=(.ok l0.v w8)/\
    aD [k0] w7 w8/\
    Calls Tryz.prog 84 #[l0.v] w8 fun e3 w9=>∃s6:ByteArray,e3=(.returned (.string s6))/\
     aD [k0] w8 w9/\
     ((s6.size:Int)+1)<=9223372036854775807/\
     R (.string (s6++(ByteArray.mk #[59]))) w9)/\
   ((decide ((m11.n:Int)>0))=true->Calls Tryz.prog 149 #[m11.v,.string (ByteArray.mk #[44,32])] w4 fun e4 cI=>∃s7:ByteArray,e4=(.returned (.string s7))/\
    aD [k0] w4 cI/\
    (3+(s7.size:Int))<=9223372036854775807/\
    J3 ((ByteArray.mk #[45,62,32])++s7) cI)/\
   ((decide ((m11.n:Int)>0))=false->J3 (ByteArray.mk #[]) w4)))/\
  (m3=true->Calls Tryz.prog 157 #[.pointer (some p),.agg #[.int .i64 m4,.int .i64 m5,.string m6,.int .i64 m7,m8.v,.int .i64 m9]] w2 fun e5 cS=>∃s8:ByteArray,e5=(.returned (.string s8))/\
   aD [k0] w2 cS/\
   (1+(s8.size:Int))<=9223372036854775807/\
   ((((ByteArray.mk #[91])++s8).size:Int)+1)<=9223372036854775807/\
   J1 (((ByteArray.mk #[91])++s8)++(ByteArray.mk #[93])) cS)/\
  (m3=false->Calls Tryz.prog 158 #[.pointer (some p),.agg #[.int .i64 m4,.int .i64 m5,.string m6,.int .i64 m7,m8.v,.int .i64 m9]] w2 fun e6 dK=>e6=(.returned (.tuple #[]))/\
   aD [k0] w2 dK/\
   J1 (ByteArray.mk #[]) dK))/\
 ((m==1)=true->Calls Tryz.prog 39 #[.pointer (some p),.string m1] w0 fun e7 dX=>∃s9:ByteArray,e7=(.returned (.string s9))/\
  aD [k0] w0 dX/\
  ∃l1:Sl,∃eK:World,((Instr.buildSlice 52 2 #[.mk 0 (.string (ByteArray.mk #[111,110])),.mk 1 (.string s9)]).run Tryz.prog dX)=(.ok l1.v eK)/\
  aD [k0] dX eK/\
  Calls Tryz.prog 84 #[l1.v] eK fun e8 gn=>∃FP:ByteArray,e8=(.returned (.string FP))/\
   aD [k0] eK gn/\
   J0 FP gn)/\
 ((m==1)=false->((m==3)=true->Calls Tryz.prog 37 #[.pointer (some p),.bool (decide (m2>=0))] w0 fun e9 gR=>e9=(.returned (.tuple #[]))/\
  aD [k0] w0 gR/\
  Calls Tryz.prog 40 #[.int .i64 m2] gR fun D4 fR=>∃FQ:ByteArray,D4=(.returned (.string FQ))/\
   aD [k0] gR fR/\
   ∃l2:Sl,∃jH:World,((Instr.buildSlice 52 2 #[.mk 0 (.string (ByteArray.mk #[97,102,116,101,114])),.mk 1 (.string FQ)]).run Tryz.prog fR)=(.ok l2.v jH)/\
   aD [k0] fR jH/\
   Calls Tryz.prog 84 #[l2.v] jH fun NP jK=>∃NL:ByteArray,NP=(.returned (.string NL))/\
    aD [k0] jH jK/\
    J0 NL jK)/\
 ((m==3)=false->Calls Tryz.prog 37 #[.pointer (some p),.bool (m==2)] w0 fun e12 jl=>e12=(.returned (.tuple #[]))/\
  aD [k0] w0 jl/\
  J0 (ByteArray.mk #[97,108,119,97,121,115]) jl))
theorem afD (p:Addr) (m:Int) (m1:ByteArray) (m2:Int) (m3:Bool) (m4 m5:Int) (m6:ByteArray) (m7:Int) (m8:Sl) (m9:Int) (m10 m11:Sl) (m12:Int) (R:Value->World->Prop) (w:World) (h:Zx p m m1 m2 m3 m4 m5 m6 m7 m8 m9 m10 m11 m12 R w):Cr 89 #[.pointer (some p),.agg #[.int .i64 m,.string m1,.int .i64 m2,.bool m3,.int .i64 m4,.int .i64 m5,.string m6,.int .i64 m7,m8.v,.int .i64 m9,m10.v,m11.v,.int .i64 m12]] w R:=
 fB (an:=.s .o (.s .o (.j [0,3] [.s 5 .str] (.s .o (.s .o (.s .o (.s .o (.s (.s .o .o) .o))))) (.s .o (.s .o (.j [0,3,5,7] [.s 6 .str] (.s .o (.s .o .o)) (.s (.s .o (.j [0,3,5,6,7,70,71] [.s 72 (.int .i64)] (.s .o (.s (.s .o .o) (.s (.s .o .o) .o))) .o)) (.j [0,3,5,6] [.s 7 .str] (.s .o (.s .o .o)) (.s .o .o))))))))) (args:=[.ad p,.agg (ld [.int .i64 m,.str m1,.int .i64 m2,.bt m3,.int .i64 m4,.int .i64 m5,.str m6,.int .i64 m7,.sl m8,.int .i64 m9,.sl m10,.sl m11,.int .i64 m12])]) h
def Zy (p:Addr) (n_:Int) (kM jP kI:ByteArray) (kU kV jm gZ:Sl) (kw deep:Int) (R:Value->World->Prop) (w:World):Prop:=
 ∀k0:Nat,∀w0:World,w.heap.size<=k0->k0<w0.heap.size->Only [] w w0->∃b0:Bool,aB w0 (p.add 2) [.bool b0]/\
 ((b0||(decide (deep>=12)))=true->Calls Tryz.prog 37 #[.pointer (some p),.bool false] w0 fun e0 w1=>e0=(.returned (.tuple #[]))/\
  aD [k0] w0 w1/\
  R (.tuple #[]) w1)/\
 ((b0||(decide (deep>=12)))=false->∃l0:Sl,∃w2:World,((Instr.buildSlice 52 5 #[.mk 0 (.string (ByteArray.mk #[])),.mk 1 (.string (ByteArray.mk #[115,116,97,116,101])),.mk 2 (.string (ByteArray.mk #[112,97,114,97,108,108,101,108])),.mk 3 (.string (ByteArray.mk #[104,105,115,116,111,114,121])),.mk 4 (.string (ByteArray.mk #[100,101,101,112]))]).run Tryz.prog w0)=(.ok l0.v w2)/\
 aD [k0] w0 w2/\
 ∃J0:Bool->World->Prop,(∀b1:Bool,∀w3:World,J0 b1 w3->(b1=true->Calls Tryz.prog 37 #[.pointer (some p),.bool (kI.toList==((ByteArray.mk #[]).toList))] w3 fun e1 w4=>e1=(.returned (.tuple #[]))/\
    aD [k0] w3 w4/\
    ∀w5:World,Only [] w4 w5->∃J1:Nat->Prop,J1 k0/\
    ∃p0:Addr,cD l0 n_ 1 p0/\
    J1 p0.block/\
    ∃s0:ByteArray,aB w5 p0 [.string s0]/\
    Calls Tryz.prog 39 #[.pointer (some p),.string kM] w5 fun e2 w6=>∃s1:ByteArray,e2=(.returned (.string s1))/\
     aD [k0] w5 w6/\
     be J1 w5 w6/\
     ∃l1:Sl,∃w7:World,((Instr.buildSlice 52 3 #[.mk 0 (.string s0),.mk 1 (.string s1),.mk 2 (.string (ByteArray.mk #[123]))]).run Tryz.prog w6)=(.ok l1.v w7)/\
     aD [k0] w6 w7/\
     be J1 w6 w7/\
     Calls Tryz.prog 38 #[.pointer (some p),.int .i64 deep,l1.v] w7 fun e3 w8=>e3=(.returned (.tuple #[]))/\
      aD [k0] w7 w8/\
      be J1 w7 w8/\
      Calls Tryz.prog 41 #[.pointer (some p),.agg #[.int .i64 n_,.string kM,.string jP,.string kI,kU.v,kV.v,jm.v,gZ.v,.int .i64 kw],.int .i64 (IntKind.wrap .i64 (deep+1))] w8 fun e4 w9=>e4=(.returned (.tuple #[]))/\
       aD [k0] w8 w9/\
       ∃l2:Sl,∃cI:World,((Instr.buildSlice 52 1 #[.mk 0 (.string (ByteArray.mk #[125]))]).run Tryz.prog w9)=(.ok l2.v cI)/\
       aD [k0] w9 cI/\
       Calls Tryz.prog 38 #[.pointer (some p),.int .i64 deep,l2.v] cI fun e5 cS=>e5=(.returned (.tuple #[]))/\
        aD [k0] cI cS/\
        R (.tuple #[]) cS)/\
  (b1=false->∃J2:Bool->World->Prop,(∀b2:Bool,∀dK:World,J2 b2 dK->(b2=true->Calls Tryz.prog 37 #[.pointer (some p),.bool ((jP.toList==((ByteArray.mk #[]).toList))&&((IntKind.wrap .i64 ((IntKind.wrap .i64 ((IntKind.wrap .i64 ((kU.n:Int)+(kV.n:Int)))+(jm.n:Int)))+(gZ.n:Int)))==0))] dK fun e6 dX=>e6=(.returned (.tuple #[]))/\
     aD [k0] dK dX/\
     ∀eK:World,Only [] dX eK->∃J3:Nat->Prop,J3 k0/\
     ∃p1:Addr,cD l0 n_ 1 p1/\
     J3 p1.block/\
     ∃s2:ByteArray,aB eK p1 [.string s2]/\
     J3 k0/\
     Calls Tryz.prog 39 #[.pointer (some p),.string kM] eK fun e7 gn=>∃s3:ByteArray,e7=(.returned (.string s3))/\
      aD [k0] eK gn/\
      be J3 eK gn/\
      Calls Tryz.prog 39 #[.pointer (some p),.string kI] gn fun e8 gR=>∃s4:ByteArray,e8=(.returned (.string s4))/\
       aD [k0] gn gR/\
       be J3 gn gR/\
       ((s4.size:Int)+1)<=9223372036854775807/\
       ∃l3:Sl,∃fR:World,((Instr.buildSlice 52 4 #[.mk 0 (.string s2),.mk 1 (.string s3),.mk 2 (.string (ByteArray.mk #[45,62])),.mk 3 (.string (s4++(ByteArray.mk #[59])))]).run Tryz.prog gR)=(.ok l3.v fR)/\
       aD [k0] gR fR/\
       be J3 gR fR/\
       Calls Tryz.prog 38 #[.pointer (some p),.int .i64 deep,l3.v] fR fun e9 jH=>e9=(.returned (.tuple #[]))/\
        aD [k0] fR jH/\
        be J3 fR jH/\
        R (.tuple #[]) jH)/\
   (b2=false->Calls Tryz.prog 37 #[.pointer (some p),.bool false] dK fun D4 jK=>D4=(.returned (.tuple #[]))/\
    aD [k0] dK jK/\
    R (.tuple #[]) jK))/\
  ((n_==3)=true->J2 (n_==3) w3)/\
  ((n_==3)=false->J2 (n_==4) w3)))/\
 ((n_==1)=true->J0 (n_==1) w2)/\
 ((n_==1)=false->J0 (n_==2) w2))
theorem afE (p:Addr) (n_:Int) (kM jP kI:ByteArray) (kU kV jm gZ:Sl) (kw deep:Int) (R:Value->World->Prop) (w:World) (h:Zy p n_ kM jP kI kU kV jm gZ kw deep R w):Cr 90 #[.pointer (some p),.agg #[.int .i64 n_,.string kM,.string jP,.string kI,kU.v,kV.v,jm.v,gZ.v,.int .i64 kw],.int .i64 deep] w R:=
 fB (an:=.s .o (.s (.s .o (.s (.s .o .o) .o)) (.s .o (.s .o (.j [0,2,4,6,19] [.s 22 .bool] (.s .o (.s .o .o)) (.s (.s .o (.s .o (.s .o .o))) (.j [0,2,4,6] [.s 52 .bool] (.s .o (.s .o .o)) (.s (.s .o .o) .o)))))))) (args:=[.ad p,.agg (ld [.int .i64 n_,.str kM,.str jP,.str kI,.sl kU,.sl kV,.sl jm,.sl gZ,.int .i64 kw]),.int .i64 deep]) h
def Zz (c:Sl) (c1:Int) (c2 c3 c4:ByteArray) (c5 c6 c7 c8:Sl) (c9:Int) (R:Value->World->Prop) (w:World):Prop:=
 ∀k0:Nat,∀w0:World,w.heap.size<=k0->k0<w0.heap.size->Only [] w w0->Calls Tryz.prog 14 #[.agg #[c.v,.int .i64 c1,.string c2,.string c3,.string c4,c5.v,c6.v,c7.v,c8.v,.int .i64 c9]] w0 fun e0 w1=>∃s0:ByteArray,∃i0:Int,e0=(.returned (.tuple #[.string s0,.int .i64 i0]))/\
  aD [k0] w0 w1/\
  R (.int .i64 i0) w1
theorem afF (c:Sl) (c1:Int) (c2 c3 c4:ByteArray) (c5 c6 c7 c8:Sl) (c9:Int) (R:Value->World->Prop) (w:World) (h:Zz c c1 c2 c3 c4 c5 c6 c7 c8 c9 R w):Cr 13 #[.agg #[c.v,.int .i64 c1,.string c2,.string c3,.string c4,c5.v,c6.v,c7.v,c8.v,.int .i64 c9]] w R:=
 fB (an:=.s .o (.s .o (.s .o .o))) (args:=[.agg (ld [.sl c,.int .i64 c1,.str c2,.str c3,.str c4,.sl c5,.sl c6,.sl c7,.sl c8,.int .i64 c9])]) h
def ZA (c:Sl) (c1:Int) (c2 c3 c4:ByteArray) (c5 c6 c7 c8:Sl) (c9:Int) (R:Value->World->Prop) (w:World):Prop:=
 ∀k0:Nat,∀w0:World,w.heap.size<=k0->k0<w0.heap.size->Only [] w w0->Calls Tryz.prog 13 #[.agg #[c.v,.int .i64 c1,.string c2,.string c3,.string c4,c5.v,c6.v,c7.v,c8.v,.int .i64 c9]] w0 fun e0 w1=>∃i0:Int,e0=(.returned (.int .i64 i0))/\
  aD [k0] w0 w1/\
  ((i0 !=0)=true->R (.tuple #[Sl.nil.v,.int .i64 i0]) w1)/\
  ((i0 !=0)=false->∀k1:Nat,∀w2:World,w1.heap.size<=k1->k1<w2.heap.size->Only [] w1 w2->Blk w2 k1 92 [Sl.nil.v]->Calls Tryz.prog 51 #[.pointer (some ⟨k1,0,none⟩),.agg #[.int .i64 c1,.string c2,.string c3,.string c4,c5.v,c6.v,c7.v,c8.v,.int .i64 c9],.int .i64 (-1),.int .i64 0] w2 fun e1 w3=>e1=(.returned (.tuple #[]))/\
   aD [k0] w2 w3/\
   ∃l0:Sl,Blk w3 k1 92 [l0.v]/\
   R (.tuple #[l0.v,.int .i64 0]) w3)
theorem afG (c:Sl) (c1:Int) (c2 c3 c4:ByteArray) (c5 c6 c7 c8:Sl) (c9:Int) (R:Value->World->Prop) (w:World) (h:ZA c c1 c2 c3 c4 c5 c6 c7 c8 c9 R w):Cr 18 #[.agg #[c.v,.int .i64 c1,.string c2,.string c3,.string c4,c5.v,c6.v,c7.v,c8.v,.int .i64 c9]] w R:=
 fB (an:=.s .o (.s (.s .o (.s .o (.s (.s .o .o) .o))) (.s .o (.s .o (.s .o .o))))) (args:=[.agg (ld [.sl c,.int .i64 c1,.str c2,.str c3,.str c4,.sl c5,.sl c6,.sl c7,.sl c8,.int .i64 c9])]) h
def ZB (l:Addr) (n_:Int) (kM jP kI:ByteArray) (kU kV jm gZ:Sl) (kw parent depth:Int) (R:Value->World->Prop) (w:World):Prop:=
 ∀k0:Nat,∀w0:World,w.heap.size<=k0->k0<w0.heap.size->Only [] w w0->∃l0:Sl,aB w0 (l.add 0) [l0.v]/\
 ∀w1:World,Only [] w0 w1->∃J0:Nat->Prop,J0 ((l.add 0).block)/\
 ∃l1:Sl,aB w1 (l.add 0) [l1.v]/\
 ∃l2:Sl,∃w2:World,((Instr.buildSlice 90 1 #[.mk 0 (.agg #[.int .i64 n_,.string kM,.int .i64 parent,.int .i64 depth,.int .i64 0])]).run Tryz.prog w1)=(.ok l2.v w2)/\
 aD [k0] w1 w2/\
 be J0 w1 w2/\
 ∃l3:Sl,∃w3:World,((Builtin.append_ #[90,90] 90 #[l1.v,l2.v]).run Tryz.prog w2)=(.ok l3.v w3)/\
 aD [k0] w2 w3/\
 be J0 w2 w3/\
 ∃k1 k2:Nat,∃z0:List Value,∃k3:Nat,(l.add 0)=⟨k1,k2,none⟩/\
 Blk w3 k1 k3 z0/\
 (k2+1)<=z0.length/\
 k0≠k1/\
 ∀w4:World,Only [k1] w3 w4->Blk w4 k1 k3 (bF z0 k2 [l3.v])->∃J1:Nat->Int->World->Prop,∃k4:Nat,J1 k4 0 w4/\
 ∀k5:Nat,∀i0:Int,∀w5:World,J1 k5 i0 w5->((decide (i0<(gZ.n:Int)))=true->∃p0:Addr,cD gZ i0 9 p0/\
  ∃i1:Int,∃s0 s1 s2:ByteArray,∃l4 l5 l6 l7:Sl,∃i2:Int,aB w5 p0 [.int .i64 i1,.string s0,.string s1,.string s2,l4.v,l5.v,l6.v,l7.v,.int .i64 i2]/\
  ∀k6:Nat,∀w6:World,w5.heap.size<=k6->k6<w6.heap.size->Only [] w5 w6->Calls Tryz.prog 51 #[.pointer (some l),.agg #[.int .i64 i1,.string s0,.string s1,.string s2,l4.v,l5.v,l6.v,l7.v,.int .i64 i2],.int .i64 (l0.n:Int),.int .i64 (IntKind.wrap .i64 (depth+1))] w6 fun e0 w7=>e0=(.returned (.tuple #[]))/\
   aD [k0,k6] w6 w7/\
   ∃k7:Nat,k7<k5/\
   J1 k7 (IntKind.wrap .i64 (i0+1)) w7)/\
 ((decide (i0<(gZ.n:Int)))=false->∀w8:World,Only [] w5 w8->∃l8:Sl,aB w8 (l.add 0) [l8.v]/\
 ∃l9:Sl,aB w8 (l.add 0) [l9.v]/\
 ∃p1:Addr,cD l8 (l0.n:Int) 5 p1/\
 ∃k8 k9:Nat,∃z1:List Value,∃uE:Nat,(p1.add 4)=⟨k8,k9,none⟩/\
 Blk w8 k8 uE z1/\
 (k9+1)<=z1.length/\
 k0≠k8/\
 ∀w9:World,Only [k8] w8 w9->Blk w9 k8 uE (bF z1 k9 [.int .i64 (l9.n:Int)])->R (.tuple #[]) w9)
theorem afH (l:Addr) (n_:Int) (kM jP kI:ByteArray) (kU kV jm gZ:Sl) (kw parent depth:Int) (R:Value->World->Prop) (w:World) (h:ZB l n_ kM jP kI kU kV jm gZ kw parent depth R w):Cr 51 #[.pointer (some l),.agg #[.int .i64 n_,.string kM,.string jP,.string kI,kU.v,kV.v,jm.v,gZ.v,.int .i64 kw],.int .i64 parent,.int .i64 depth] w R:=
 fB (an:=.s .o (.s .o (.s .o (.s (.s .o (.j [0,3,5,8,33,34] [.s 35 (.int .i64)] (.s .o (.s (.s .o .o) (.s (.s .o .o) .o))) .o)) .o)))) (args:=[.ad l,.agg (ld [.int .i64 n_,.str kM,.str jP,.str kI,.sl kU,.sl kV,.sl jm,.sl gZ,.int .i64 kw]),.int .i64 parent,.int .i64 depth]) h
def ZC (l nodes:Sl) (R:Value->World->Prop) (w:World):Prop:=
 ∀k0:Nat,∀w0:World,w.heap.size<=k0->k0<w0.heap.size->Only [] w w0->∃J0:Bool->Sl->World->Prop,(∀b0:Bool,∀l0:Sl,∀w1:World,J0 b0 l0 w1->(b0=true->R (.int .i64 (-1)) w1)/\
  (b0=false->∃p0:Addr,cD nodes 0 1 p0/\
  ∃i0:Int,aB w1 p0 [.int .i64 i0]/\
  (1<=nodes.n/\
   nodes.n<=nodes.c)/\
  ∃J1:Nat->Int->Int->Sl->World->Prop,∃k1:Nat,J1 k1 i0 0 l0 w1/\
  ∀k2:Nat,∀i1 i2:Int,∀l1:Sl,∀w2:World,J1 k2 i1 i2 l1 w2->((decide (i2<((nodes.cut 1 nodes.n nodes.c 1).n:Int)))=true->∃p1:Addr,cD (nodes.cut 1 nodes.n nodes.c 1) i2 1 p1/\
   ∃i3:Int,aB w2 p1 [.int .i64 i3]/\
   ∃J2:Nat->Int->Sl->World->Prop,∃k3:Nat,J2 k3 i1 l1 w2/\
   ∀k4:Nat,∀i4:Int,∀l2:Sl,∀w3:World,J2 k4 i4 l2 w3->Calls Tryz.prog 103 #[l2.v,.int .i64 i4,.int .i64 i3] w3 fun e0 w4=>∃b1:Bool,e0=(.returned (.bool b1))/\
    aD [k0] w3 w4/\
    ((!b1)=true->∃p2:Addr,cD l2 i4 5 p2/\
     ∃i5:Int,aB w4 (p2.add 2) [.int .i64 i5]/\
     ∃k5:Nat,k5<k4/\
     J2 k5 i5 l2 w4)/\
    ((!b1)=false->∃k6:Nat,k6<k2/\
    J1 k6 i4 (IntKind.wrap .i64 (i2+1)) l2 w4))/\
  ((decide (i2<((nodes.cut 1 nodes.n nodes.c 1).n:Int)))=false->R (.int .i64 i1) w2)))/\
 (((nodes.n:Int)==0)=true->J0 true l w0)/\
 (((nodes.n:Int)==0)=false->Blk w0 k0 38 [l.v]->Calls Tryz.prog 100 #[nodes.v,.func (.func 101) #[] #[.pointer (some ⟨k0,0,none⟩)]] w0 fun e1 w5=>∃b2:Bool,e1=(.returned (.bool b2))/\
  ∃l3:Sl,Blk w5 k0 38 [l3.v]/\
  J0 b2 l3 w5)
theorem afI (l nodes:Sl) (R:Value->World->Prop) (w:World) (h:ZC l nodes R w):Cr 49 #[l.v,nodes.v] w R:=
 fB (an:=.s .o (.s (.s (.j [1,2] [.s 15 .bool,.b 2 [.sl]] .o .o) (.s (.s .o .o) .o)) (.s .o (.s (.s .o (.j [2,20,21] [.s 5 (.int .i64),.s 22 (.int .i64),.b 2 [.sl]] (.s .o (.s (.s .o .o) (.s (.s .o (.j [2,7,20,21,22] [.s 5 (.int .i64),.b 2 [.sl]] (.s (.s .o (.s .o .o)) .o) .o)) .o))) .o)) (.s .o .o))))) (args:=[.sl l,.sl nodes]) h
def ZD (n_:Int) (fe:Addr) (R:Value->World->Prop) (w:World):Prop:=
 ∃l0:Sl,aB w fe [l0.v]/\
 Calls Tryz.prog 102 #[l0.v,.int .i64 n_] w fun e0 w0=>∃b0:Bool,e0=(.returned (.bool b0))/\
  R (.bool (!b0)) w0
theorem afJ (n_:Int) (fe:Addr) (R:Value->World->Prop) (w:World) (h:ZD n_ fe R w):Cr 101 #[.int .i64 n_,.pointer (some fe)] w R:=
 fB (an:=.s .o (.s .o .o)) (args:=[.int .i64 n_,.ad fe]) h
def ZE (r:Sl) (n_:Int) (R:Value->World->Prop) (w:World):Prop:=
 R (.bool ((decide (n_>=0))&&(decide (n_<(r.n:Int))))) w
theorem afK (r:Sl) (n_:Int) (R:Value->World->Prop) (w:World) (h:ZE r n_ R w):Cr 102 #[r.v,.int .i64 n_] w R:=
 fB (an:=.s .o (.s .o .o)) (args:=[.sl r,.int .i64 n_]) h
def TW (s:Sl) (f:OV) (R:Value->World->Prop) (w:World):Prop:=
 Calls Tryz.prog 166 #[s.v,f.v] w fun e0 w0=>∃i0:Int,e0=(.returned (.int .i64 i0))/\
  R (.bool (decide (i0>=0))) w0
theorem ZF (s:Sl) (f:OV) (R:Value->World->Prop) (w:World) (h:TW s f R w):Cr 100 #[s.v,f.v] w R:=
 fB (an:=.s .o (.s .o .o)) (args:=[.sl s,.raw f]) h
def TX (s:Sl) (f:OV) (R:Value->World->Prop) (w:World):Prop:=
 ∃J0:Nat->Int->World->Prop,∃k0:Nat,J0 k0 0 w/\
 ∀k1:Nat,∀i0:Int,∀w0:World,J0 k1 i0 w0->((decide (i0<(s.n:Int)))=true->∃p0:Addr,cD s i0 1 p0/\
  ∃i1:Int,aB w0 p0 [.int .i64 i1]/\
  ∃k2:Nat,∃z0:List Value,∃z1:List Value,f.v=(.func (.func k2) z0.toArray z1.toArray)/\
  (∀x0:Array Value,∀w1:World,((callFunc k2 x0).run Tryz.prog w1)=(.ok (.enter k2 x0) w1))/\
  Calls Tryz.prog k2 ((vi (vi z0 [.int .i64 i1]) z1).toArray) w0 fun e0 w2=>∃b0:Bool,e0=(.returned (.bool b0))/\
   (b0=true->R (.int .i64 i0) w2)/\
   (b0=false->∃k3:Nat,k3<k1/\
   J0 k3 (IntKind.wrap .i64 (i0+1)) w2))/\
 ((decide (i0<(s.n:Int)))=false->R (.int .i64 (-1)) w0)
theorem ZG (s:Sl) (f:OV) (R:Value->World->Prop) (w:World) (h:TX s f R w):Cr 166 #[s.v,f.v] w R:=
 fB (an:=.s .o (.s (.s .o (.j [0,1,7] [.s 8 (.int .i64)] (.s .o (.s (.s .o .o) (.s (.s .o (.s .o (.s (.s .o .o) .o))) .o))) .o)) (.s .o .o))) (args:=[.sl s,.raw f]) h
def ZH (r:Sl) (bb a_:Int) (R:Value->World->Prop) (w:World):Prop:=
 ∃J0:Bool->World->Prop,(∀b0:Bool,∀w0:World,J0 b0 w0->R (.bool b0) w0)/\
 Calls Tryz.prog 102 #[r.v,.int .i64 a_] w fun e0 w1=>∃b1:Bool,e0=(.returned (.bool b1))/\
  (b1=true->Calls Tryz.prog 102 #[r.v,.int .i64 bb] w1 fun e1 w2=>∃b2:Bool,e1=(.returned (.bool b2))/\
   ∃p0:Addr,((b2&&(decide (bb<=a_)))=true->cD r bb 5 p0)/\
   ∃i0:Int,((b2&&(decide (bb<=a_)))=true->aB w2 (p0.add 4) [.int .i64 i0])/\
   J0 ((b2&&(decide (bb<=a_)))&&(decide (a_<i0))) w2)/\
  (b1=false->J0 false w1)
theorem afL (r:Sl) (bb a_:Int) (R:Value->World->Prop) (w:World) (h:ZH r bb a_ R w):Cr 103 #[r.v,.int .i64 bb,.int .i64 a_] w R:=
 fB (an:=.s .o (.s (.j [] [.s 6 .bool] .o .o) .o)) (args:=[.sl r,.int .i64 bb,.int .i64 a_]) h
def ZI (l:Sl) (a_ bb:Int) (R:Value->World->Prop) (w:World):Prop:=
 ∃J0:Bool->World->Prop,(∀b0:Bool,∀w0:World,J0 b0 w0->R (.bool b0) w0)/\
 ((a_ !=bb)=true->Calls Tryz.prog 103 #[l.v,.int .i64 bb,.int .i64 a_] w fun e0 w1=>∃b1:Bool,e0=(.returned (.bool b1))/\
  J0 b1 w1)/\
 ((a_ !=bb)=false->J0 false w)
theorem afM (l:Sl) (a_ bb:Int) (R:Value->World->Prop) (w:World) (h:ZI l a_ bb R w):Cr 50 #[l.v,.int .i64 a_,.int .i64 bb] w R:=
 fB (an:=.s .o (.s (.j [] [.s 6 .bool] .o .o) .o)) (args:=[.sl l,.int .i64 a_,.int .i64 bb]) h
def ZJ (R:Value->World->Prop) (w:World):Prop:=
 Calls Tryz.prog 28 #[.string (ByteArray.mk #[99,104,97,114,116,32,99,32,123,32,115,116,97,116,101,32,97,32,123,32,125,32,125])] w fun e0 w0=>∃l0:Sl,∃i0:Int,∃s0 s1 s2:ByteArray,∃l1 l2 l3 l4:Sl,∃i1 i2 i3:Int,e0=(.returned (.tuple #[.agg #[l0.v,.int .i64 i0,.string s0,.string s1,.string s2,l1.v,l2.v,l3.v,l4.v,.int .i64 i1],.agg #[.int .i64 i2,.int .i64 i3]]))/\
  ∀k0 k1:Nat,∀w1:World,w0.heap.size<=k0->k0<w1.heap.size->w0.heap.size<=k1->k1<w1.heap.size->Only [] w0 w1->Calls Tryz.prog 28 #[.string (ByteArray.mk #[99,104,97,114,116,32,99,32,123,32,105,110,105,116,105,97,108,32,97,59,32,115,116,97,116,101,32,97,32,123,32,111,110,32,120,32,45,62,32,99,59,32,125,32,125])] w1 fun e1 w2=>∃l5:Sl,∃i4:Int,∃s3 s4 s5:ByteArray,∃l6 l7 l8 l9:Sl,∃i5 i6 i7:Int,e1=(.returned (.tuple #[.agg #[l5.v,.int .i64 i4,.string s3,.string s4,.string s5,l6.v,l7.v,l8.v,l9.v,.int .i64 i5],.agg #[.int .i64 i6,.int .i64 i7]]))/\
   aD [k0,k1] w1 w2/\
   ∀k2 k3:Nat,∀w3:World,w2.heap.size<=k2->k2<w3.heap.size->w2.heap.size<=k3->k3<w3.heap.size->Only [] w2 w3->Calls Tryz.prog 28 #[.string (ByteArray.mk #[99,104,97,114,116,32,99,32,123,32,105,110,105,116,105,97,108,32,97,59,32,115,116,97,116,101,32,97,32,123,32,111,110,32,120,32,45,62,32,97,59,32,125,32,125])] w3 fun e2 w4=>∃l10:Sl,∃i8:Int,∃s6 s7 s8:ByteArray,∃qW rS wi yd:Sl,∃i9 i10 i11:Int,e2=(.returned (.tuple #[.agg #[l10.v,.int .i64 i8,.string s6,.string s7,.string s8,qW.v,rS.v,wi.v,yd.v,.int .i64 i9],.agg #[.int .i64 i10,.int .i64 i11]]))/\
    aD [k0,k1,k2,k3] w3 w4/\
    ∀k4 k5:Nat,∀w5:World,w4.heap.size<=k4->k4<w5.heap.size->w4.heap.size<=k5->k5<w5.heap.size->Only [] w4 w5->R (.bool (((((i2==25)&&(i3==6))&&((i6==27)&&(i7==31)))&&(i10==0))&&(s6.toList==((ByteArray.mk #[99]).toList)))) w5
theorem afN (R:Value->World->Prop) (w:World) (h:ZJ R w):Cr 21 #[] w R:=
 fB (an:=.s .o (.s .o (.s .o (.s .o (.s .o .o))))) (args:=[]) h
def ZK (s:ByteArray) (R:Value->World->Prop) (w:World):Prop:=
 ∀k0 k1:Nat,∀w0:World,w.heap.size<=k0->k0<w0.heap.size->w.heap.size<=k1->k1<w0.heap.size->Only [] w w0->Calls Tryz.prog 34 #[.string s] w0 fun e0 w1=>∃l0:Sl,∃i0:Int,∃s0 s1 s2:ByteArray,∃l1 l2 l3 l4:Sl,∃i1 i2 i3:Int,e0=(.returned (.tuple #[.agg #[l0.v,.int .i64 i0,.string s0,.string s1,.string s2,l1.v,l2.v,l3.v,l4.v,.int .i64 i1],.agg #[.int .i64 i2,.int .i64 i3]]))/\
  aD [k0,k1] w0 w1/\
  ∀k2 k3:Nat,∀w2:World,w1.heap.size<=k2->k2<w2.heap.size->w1.heap.size<=k3->k3<w2.heap.size->Only [] w1 w2->∃J0:Int->Int->World->Prop,(∀i4 i5:Int,∀w3:World,J0 i4 i5 w3->((i4 !=0)=true->∀w4:World,Only [] w3 w4->k0≠k1->k0≠k2->k0≠k3->k1≠k2->k1≠k3->k2≠k3->∃J1:Nat->Prop,J1 k3/\
    vm J1 k0/\
    vm J1 k1/\
    ∀w5:World,Only [k1,k0] w4 w5->R (.tuple #[.agg #[Sl.nil.v,.int .i64 0,.string (ByteArray.mk #[]),.string (ByteArray.mk #[]),.string (ByteArray.mk #[]),Sl.nil.v,Sl.nil.v,Sl.nil.v,Sl.nil.v,.int .i64 0],.agg #[.int .i64 i4,.int .i64 i5]]) w5)/\
   ((i4 !=0)=false->∀w6:World,Only [] w3 w6->k0≠k1->k0≠k2->k0≠k3->k1≠k2->k1≠k3->k2≠k3->∃J2:Nat->Prop,J2 k3/\
   vm J2 k0/\
   vm J2 k1/\
   ∀w7:World,Only [k1,k0] w6 w7->R (.tuple #[.agg #[l0.v,.int .i64 i0,.string s0,.string s1,.string s2,l1.v,l2.v,l3.v,l4.v,.int .i64 i1],.agg #[.int .i64 i4,.int .i64 i5]]) w7))/\
  ((i2==0)=true->Calls Tryz.prog 22 #[.agg #[l0.v,.int .i64 i0,.string s0,.string s1,.string s2,l1.v,l2.v,l3.v,l4.v,.int .i64 i1]] w2 fun e1 w8=>∃i6 i7:Int,e1=(.returned (.agg #[.int .i64 i6,.int .i64 i7]))/\
   aD [k0,k1,k2,k3] w2 w8/\
   ∀w9:World,Only [k3] w8 w9->J0 i6 i7 w9)/\
  ((i2==0)=false->J0 i2 i3 w2)
theorem afO (s:ByteArray) (R:Value->World->Prop) (w:World) (h:ZK s R w):Cr 28 #[.string s] w R:=
 fB (an:=.s .o (.s .o (.j [2,3,4,5] [.b 5 [.int .i64,.int .i64]] (.s .o (.s .o .o)) (.s (.s .o (.s (.s .o .o) .o)) (.s .o .o))))) (args:=[.str s]) h
def ZL (c:Sl) (c1:Int) (c2 c3 c4:ByteArray) (c5 c6 c7 c8:Sl) (c9:Int) (R:Value->World->Prop) (w:World):Prop:=
 ∀k0 k1:Nat,∀w0:World,w.heap.size<=k0->k0<w0.heap.size->w.heap.size<=k1->k1<w0.heap.size->Only [] w w0->Calls Tryz.prog 18 #[.agg #[c.v,.int .i64 c1,.string c2,.string c3,.string c4,c5.v,c6.v,c7.v,c8.v,.int .i64 c9]] w0 fun e0 w1=>∃l0:Sl,∃i0:Int,e0=(.returned (.tuple #[l0.v,.int .i64 i0]))/\
  aD [k0,k1] w0 w1/\
  ((i0 !=0)=true->∀w2:World,Only [k1] w1 w2->R (.agg #[.int .i64 i0,.int .i64 (-1)]) w2)/\
  ((i0 !=0)=false->∃m0:Option Nat,∃w3:World,((Instr.makeMap 97 none).run Tryz.prog w1)=(.ok (.map m0) w3)/\
  aD [k0,k1] w1 w3/\
  ∃m1:Option Nat,∃w4:World,((Instr.makeMap 97 none).run Tryz.prog w3)=(.ok (.map m1) w4)/\
  aD [k0,k1] w3 w4/\
  ∀k2:Nat,∀w5:World,w4.heap.size<=k2->k2<w5.heap.size->Only [] w4 w5->Blk w5 k2 99 [.map m0,Sl.nil.v,.map m1,.int .i64 0,.int .i64 0]->Calls Tryz.prog 53 #[.pointer (some ⟨k2,0,none⟩),.agg #[.int .i64 c1,.string c2,.string c3,.string c4,c5.v,c6.v,c7.v,c8.v,.int .i64 c9]] w5 fun e1 w6=>e1=(.returned (.tuple #[]))/\
   aD [k0,k1] w5 w6/\
   ∃m2:Option Nat,∃l1:Sl,∃m3:Option Nat,∃i1 i2:Int,Blk w6 k2 99 [.map m2,l1.v,.map m3,.int .i64 i1,.int .i64 i2]/\
   ∃J0:Nat->Int->Option Nat->Sl->Option Nat->Int->Int->World->Prop,∃k3:Nat,J0 k3 0 m2 l1 m3 i1 i2 w6/\
   ∀k4:Nat,∀i3:Int,∀m4:Option Nat,∀l2:Sl,∀m5:Option Nat,∀i4 i5:Int,∀w7:World,J0 k4 i3 m4 l2 m5 i4 i5 w7->((decide (i3<(c.n:Int)))=true->∃p0:Addr,cD c i3 3 p0/\
    ∃s0:ByteArray,∃i6 i7:Int,aB w7 p0 [.string s0,.int .i64 i6,.int .i64 i7]/\
    ∀k5:Nat,∀w8:World,w7.heap.size<=k5->k5<w8.heap.size->Only [] w7 w8->Blk w8 k2 99 [.map m4,l2.v,.map m5,.int .i64 i4,.int .i64 i5]->Calls Tryz.prog 54 #[.pointer (some ⟨k2,0,none⟩),.map m5,.string s0,.int .i64 i3,.int .i64 i7] w8 fun e2 w9=>e2=(.returned (.tuple #[]))/\
     aD [k0,k1,k5] w8 w9/\
     ∃m6:Option Nat,∃l3:Sl,∃m7:Option Nat,∃i8 i9:Int,Blk w9 k2 99 [.map m6,l3.v,.map m7,.int .i64 i8,.int .i64 i9]/\
     ∃k6:Nat,k6<k4/\
     J0 k6 (IntKind.wrap .i64 (i3+1)) m6 l3 m7 i8 i9 w9)/\
   ((decide (i3<(c.n:Int)))=false->∀cI:World,Only [k2] w7 cI->Blk cI k2 99 [.map m4,l0.v,.map m5,.int .i64 i4,.int .i64 i5]->k0≠k2->k1≠k2->Calls Tryz.prog 55 #[.pointer (some ⟨k2,0,none⟩),.agg #[.int .i64 c1,.string c2,.string c3,.string c4,c5.v,c6.v,c7.v,c8.v,.int .i64 c9],.int .i64 0] cI fun e3 cS=>∃i10:Int,e3=(.returned (.int .i64 i10))/\
    aD [k0,k1] cI cS/\
    ∃m8:Option Nat,∃l4:Sl,∃m9:Option Nat,∃i11 i12:Int,Blk cS k2 99 [.map m8,l4.v,.map m9,.int .i64 i11,.int .i64 i12]/\
    ∀dK:World,Only [k1] cS dK->Blk dK k2 99 [.map m8,l4.v,.map m9,.int .i64 i11,.int .i64 i12]->R (.agg #[.int .i64 i11,.int .i64 i12]) dK))
theorem afP (c:Sl) (c1:Int) (c2 c3 c4:ByteArray) (c5 c6 c7 c8:Sl) (c9:Int) (R:Value->World->Prop) (w:World) (h:ZL c c1 c2 c3 c4 c5 c6 c7 c8 c9 R w):Cr 22 #[.agg #[c.v,.int .i64 c1,.string c2,.string c3,.string c4,c5.v,c6.v,c7.v,c8.v,.int .i64 c9]] w R:=
 fB (an:=.s .o (.s .o (.s (.s .o (.s (.s .o .o) .o)) (.s .o (.s .o (.s (.s .o (.j [1,2,3,5,20,26,27] [.s 28 (.int .i64),.b 20 [.map,.sl,.map,.int .i64,.int .i64]] (.s .o (.s (.s .o .o) (.s (.s .o .o) .o))) .o)) (.s .o (.s .o (.s .o .o))))))))) (args:=[.agg (ld [.sl c,.int .i64 c1,.str c2,.str c3,.str c4,.sl c5,.sl c6,.sl c7,.sl c8,.int .i64 c9])]) h
def ZM (k:Addr) (n_:Int) (kM jP kI:ByteArray) (kU kV jm gZ:Sl) (kw:Int) (R:Value->World->Prop) (w:World):Prop:=
 ∀k0:Nat,∀w0:World,w.heap.size<=k0->k0<w0.heap.size->Only [] w w0->∃m0:Option Nat,aB w0 (k.add 0) [.map m0]/\
 ∃l0:Sl,aB w0 (k.add 1) [l0.v]/\
 Calls Tryz.prog 54 #[.pointer (some k),.map m0,.string kM,.int .i64 (l0.n:Int),.int .i64 kw] w0 fun e0 w1=>e0=(.returned (.tuple #[]))/\
  aD [k0] w0 w1/\
  ∃l1:Sl,aB w1 (k.add 1) [l1.v]/\
  ∃l2:Sl,∃w2:World,((Instr.buildSlice 38 1 #[.mk 0 (.agg #[.int .i64 0,.string (ByteArray.mk #[]),.int .i64 0,.int .i64 0,.int .i64 0])]).run Tryz.prog w1)=(.ok l2.v w2)/\
  aD [k0] w1 w2/\
  ∃l3:Sl,∃w3:World,((Builtin.append_ #[38,38] 38 #[l1.v,l2.v]).run Tryz.prog w2)=(.ok l3.v w3)/\
  aD [k0] w2 w3/\
  ∃k1 k2:Nat,∃z0:List Value,∃k3:Nat,(k.add 1)=⟨k1,k2,none⟩/\
  Blk w3 k1 k3 z0/\
  (k2+1)<=z0.length/\
  k0≠k1/\
  ∀w4:World,Only [k1] w3 w4->Blk w4 k1 k3 (bF z0 k2 [l3.v])->∃J0:Nat->Int->World->Prop,∃k4:Nat,J0 k4 0 w4/\
  ∀k5:Nat,∀i0:Int,∀w5:World,J0 k5 i0 w5->((decide (i0<(gZ.n:Int)))=true->∃p0:Addr,cD gZ i0 9 p0/\
   ∃i1:Int,∃s0 s1 s2:ByteArray,∃l4 l5 l6 l7:Sl,∃i2:Int,aB w5 p0 [.int .i64 i1,.string s0,.string s1,.string s2,l4.v,l5.v,l6.v,l7.v,.int .i64 i2]/\
   ∀k6:Nat,∀w6:World,w5.heap.size<=k6->k6<w6.heap.size->Only [] w5 w6->Calls Tryz.prog 53 #[.pointer (some k),.agg #[.int .i64 i1,.string s0,.string s1,.string s2,l4.v,l5.v,l6.v,l7.v,.int .i64 i2]] w6 fun e1 w7=>e1=(.returned (.tuple #[]))/\
    aD [k0,k6] w6 w7/\
    ∃k7:Nat,k7<k5/\
    J0 k7 (IntKind.wrap .i64 (i0+1)) w7)/\
  ((decide (i0<(gZ.n:Int)))=false->R (.tuple #[]) w5)
theorem afQ (k:Addr) (n_:Int) (kM jP kI:ByteArray) (kU kV jm gZ:Sl) (kw:Int) (R:Value->World->Prop) (w:World) (h:ZM k n_ kM jP kI kU kV jm gZ kw R w):Cr 53 #[.pointer (some k),.agg #[.int .i64 n_,.string kM,.string jP,.string kI,kU.v,kV.v,jm.v,gZ.v,.int .i64 kw]] w R:=
 fB (an:=.s .o (.s .o (.s .o (.s .o (.j [0,3,32,33] [.s 34 (.int .i64)] (.s .o (.s (.s .o .o) (.s (.s .o .o) .o))) .o))))) (args:=[.ad k,.agg (ld [.int .i64 n_,.str kM,.str jP,.str kI,.sl kU,.sl kV,.sl jm,.sl gZ,.int .i64 kw])]) h
def TY (k:Addr) (m:Option Nat) (name:ByteArray) (place at_:Int) (R:Value->World->Prop) (w:World):Prop:=
 ∃i0:Int,∃b0:Bool,∃w0:World,((Instr.lookup 97 (.map m) (.string name) true).run Tryz.prog w)=(.ok (.tuple #[.int .i64 i0,.bool b0]) w0)/\
 Calls Tryz.prog 105 #[.pointer (some k),.bool (!b0),.int .i64 24,.int .i64 at_] w0 fun e0 w1=>e0=(.returned (.tuple #[]))/\
  ((!b0)=true->∃w2:World,((Instr.mapUpdate 97 (.map m) (.string name) (.int .i64 place)).run Tryz.prog w1)=(.ok () w2)/\
   R (.tuple #[]) w2)/\
  ((!b0)=false->R (.tuple #[]) w1)
theorem ZN (k:Addr) (m:Option Nat) (name:ByteArray) (place at_:Int) (R:Value->World->Prop) (w:World) (h:TY k m name place at_ R w):Cr 54 #[.pointer (some k),.map m,.string name,.int .i64 place,.int .i64 at_] w R:=
 fB (an:=.s .o (.s .o (.s .o (.s .o .o)))) (args:=[.ad k,.map m,.str name,.int .i64 place,.int .i64 at_]) h
def ZO (k:Addr) (ok:Bool) (err at_:Int) (R:Value->World->Prop) (w:World):Prop:=
 ∃i0:Int,((!ok)=true->aB w ((k.add 3).add 0) [.int .i64 i0])/\
 (((!ok)&&(i0==0))=true->∃k0 k1:Nat,∃z0:List Value,∃k2:Nat,(k.add 3)=⟨k0,k1,none⟩/\
  Blk w k0 k2 z0/\
  (k1+2)<=z0.length/\
  ∀w0:World,Only [k0] w w0->Blk w0 k0 k2 (bF z0 k1 [.int .i64 err,.int .i64 at_])->R (.tuple #[]) w0)/\
 (((!ok)&&(i0==0))=false->R (.tuple #[]) w)
theorem afR (k:Addr) (ok:Bool) (err at_:Int) (R:Value->World->Prop) (w:World) (h:ZO k ok err at_ R w):Cr 105 #[.pointer (some k),.bool ok,.int .i64 err,.int .i64 at_] w R:=
 fB (an:=.s .o (.s .o .o)) (args:=[.ad k,.bt ok,.int .i64 err,.int .i64 at_]) h
def ZP (k:Addr) (n_:Int) (kM jP kI:ByteArray) (kU kV jm gZ:Sl) (kw at_:Int) (R:Value->World->Prop) (w:World):Prop:=
 ∀k0:Nat,∀w0:World,w.heap.size<=k0->k0<w0.heap.size->Only [] w w0->Calls Tryz.prog 106 #[.pointer (some k),.agg #[.int .i64 n_,.string kM,.string jP,.string kI,kU.v,kV.v,jm.v,gZ.v,.int .i64 kw],.int .i64 at_] w0 fun e0 w1=>e0=(.returned (.tuple #[]))/\
  aD [k0] w0 w1/\
  ∃l0:Sl,∃w2:World,((Instr.buildSlice 113 2 #[.mk 0 kU.v,.mk 1 kV.v]).run Tryz.prog w1)=(.ok l0.v w2)/\
  aD [k0] w1 w2/\
  Calls Tryz.prog 107 #[.pointer (some k),l0.v] w2 fun e1 w3=>e1=(.returned (.tuple #[]))/\
   aD [k0] w2 w3/\
   ∃J0:Nat->Int->World->Prop,∃k1:Nat,J0 k1 0 w3/\
   ∀k2:Nat,∀i0:Int,∀w4:World,J0 k2 i0 w4->((decide (i0<(jm.n:Int)))=true->∃p0:Addr,cD jm i0 13 p0/\
    ∃i1:Int,∃s0:ByteArray,∃i2:Int,∃b0:Bool,∃i3 i4:Int,∃s1:ByteArray,∃i5:Int,∃l1:Sl,∃i6:Int,∃l2 l3:Sl,∃i7:Int,aB w4 p0 [.int .i64 i1,.string s0,.int .i64 i2,.bool b0,.int .i64 i3,.int .i64 i4,.string s1,.int .i64 i5,l1.v,.int .i64 i6,l2.v,l3.v,.int .i64 i7]/\
    ∀k3:Nat,∀w5:World,w4.heap.size<=k3->k3<w5.heap.size->Only [] w4 w5->Calls Tryz.prog 105 #[.pointer (some k),.bool ((i1 !=3)||((decide (i2>0))&&(decide (i2<=1099511627776)))),.int .i64 28,.int .i64 i7] w5 fun e2 w6=>e2=(.returned (.tuple #[]))/\
     aD [k0,k3] w5 w6/\
     Calls Tryz.prog 108 #[.pointer (some k),.agg #[.int .i64 i3,.int .i64 i4,.string s1,.int .i64 i5,l1.v,.int .i64 i6]] w6 fun e3 w7=>e3=(.returned (.tuple #[]))/\
      aD [k0,k3] w6 w7/\
      ∃l4:Sl,∃w8:World,((Instr.buildSlice 113 1 #[.mk 0 l2.v]).run Tryz.prog w7)=(.ok l4.v w8)/\
      aD [k0,k3] w7 w8/\
      Calls Tryz.prog 107 #[.pointer (some k),l4.v] w8 fun e4 w9=>e4=(.returned (.tuple #[]))/\
       aD [k0,k3] w8 w9/\
       ∀cI:World,Only [] w9 cI->∃J1:Nat->Prop,J1 k3/\
       Calls Tryz.prog 109 #[.pointer (some k),l3.v] cI fun e5 cS=>∃b1:Bool,e5=(.returned (.bool b1))/\
        aD [k0,k3] cI cS/\
        be J1 cI cS/\
        Calls Tryz.prog 105 #[.pointer (some k),.bool b1,.int .i64 27,.int .i64 i7] cS fun e6 dK=>e6=(.returned (.tuple #[]))/\
         aD [k0,k3] cS dK/\
         be J1 cS dK/\
         ∃k4:Nat,k4<k2/\
         J0 k4 (IntKind.wrap .i64 (i0+1)) dK)/\
   ((decide (i0<(jm.n:Int)))=false->∃J2:Nat->Int->Int->World->Prop,∃k5:Nat,J2 k5 (IntKind.wrap .i64 (at_+1)) 0 w4/\
   ∀k6:Nat,∀i8 i9:Int,∀dX:World,J2 k6 i8 i9 dX->((decide (i9<(gZ.n:Int)))=true->∃p1:Addr,cD gZ i9 9 p1/\
    ∃i10:Int,∃s2 s3 s4:ByteArray,∃l5 l6 l7 l8:Sl,∃i11:Int,aB dX p1 [.int .i64 i10,.string s2,.string s3,.string s4,l5.v,l6.v,l7.v,l8.v,.int .i64 i11]/\
    ∀k7:Nat,∀eK:World,dX.heap.size<=k7->k7<eK.heap.size->Only [] dX eK->Calls Tryz.prog 55 #[.pointer (some k),.agg #[.int .i64 i10,.string s2,.string s3,.string s4,l5.v,l6.v,l7.v,l8.v,.int .i64 i11],.int .i64 i8] eK fun e7 gn=>∃i12:Int,e7=(.returned (.int .i64 i12))/\
     aD [k0,k7] eK gn/\
     ∃k8:Nat,k8<k6/\
     J2 k8 i12 (IntKind.wrap .i64 (i9+1)) gn)/\
   ((decide (i9<(gZ.n:Int)))=false->R (.int .i64 i8) dX))
theorem afS (k:Addr) (n_:Int) (kM jP kI:ByteArray) (kU kV jm gZ:Sl) (kw at_:Int) (R:Value->World->Prop) (w:World) (h:ZP k n_ kM jP kI kU kV jm gZ kw at_ R w):Cr 55 #[.pointer (some k),.agg #[.int .i64 n_,.string kM,.string jP,.string kI,kU.v,kV.v,jm.v,gZ.v,.int .i64 kw],.int .i64 at_] w R:=
 fB (an:=.s .o (.s .o (.s .o (.s (.s .o (.j [0,2,4,23,24] [.s 25 (.int .i64)] (.s .o (.s (.s .o .o) (.s (.s .o (.s .o (.s .o (.s .o .o)))) .o))) .o)) (.s .o (.s (.s .o (.j [0,4,8,67,68] [.s 2 (.int .i64),.s 69 (.int .i64)] (.s .o (.s (.s .o .o) (.s (.s .o .o) .o))) .o)) (.s .o .o))))))) (args:=[.ad k,.agg (ld [.int .i64 n_,.str kM,.str jP,.str kI,.sl kU,.sl kV,.sl jm,.sl gZ,.int .i64 kw]),.int .i64 at_]) h
def ZQ (k:Addr) (n_:Int) (kM jP kI:ByteArray) (kU kV jm gZ:Sl) (kw at_:Int) (R:Value->World->Prop) (w:World):Prop:=
 ∀k0:Nat,∀w0:World,w.heap.size<=k0->k0<w0.heap.size->Only [] w w0->∃J0:Nat->Int->Bool->Int->World->Prop,∃k1:Nat,J0 k1 0 false 0 w0/\
 ∀k2:Nat,∀i0:Int,∀b0:Bool,∀i1:Int,∀w1:World,J0 k2 i0 b0 i1 w1->((decide (i1<(gZ.n:Int)))=true->∃p0:Addr,cD gZ i1 9 p0/\
  ∃i2:Int,∃s0 s1 s2:ByteArray,∃l0 l1 l2 l3:Sl,∃i3:Int,aB w1 p0 [.int .i64 i2,.string s0,.string s1,.string s2,l0.v,l1.v,l2.v,l3.v,.int .i64 i3]/\
  ∀k3:Nat,∀w2:World,w1.heap.size<=k3->k3<w2.heap.size->Only [] w1 w2->∃J1:Int->World->Prop,(∀i4:Int,∀w3:World,J1 i4 w3->∃k4:Nat,k4<k2/\
   J0 k4 i4 (b0||(s0.toList==jP.toList)) (IntKind.wrap .i64 (i1+1)) w3)/\
  Calls Tryz.prog 167 #[.int .i64 i2] w2 fun e0 w4=>∃b1:Bool,e0=(.returned (.bool b1))/\
   aD [k0,k3] w2 w4/\
   ((!b1)=true->J1 (IntKind.wrap .i64 (i0+1)) w4)/\
   ((!b1)=false->J1 i0 w4))/\
 ((decide (i1<(gZ.n:Int)))=false->Calls Tryz.prog 167 #[.int .i64 n_] w1 fun e1 w5=>∃b2:Bool,e1=(.returned (.bool b2))/\
  aD [k0] w1 w5/\
  (b2=true->∀w6:World,Only [] w5 w6->∃m0:Option Nat,aB w6 (k.add 0) [.map m0]/\
   Calls Tryz.prog 168 #[.map m0,.string kI] w6 fun e2 w7=>∃i5:Int,e2=(.returned (.int .i64 i5))/\
    aD [k0] w6 w7/\
    ∃J2:World->Prop,(∀w8:World,J2 w8->R (.tuple #[]) w8)/\
    ∀w9:World,Only [] w7 w9->∃J3:Nat->Prop,J3 k0/\
    Calls Tryz.prog 169 #[.pointer (some k),.int .i64 i5] w9 fun e3 cI=>∃b3:Bool,e3=(.returned (.bool b3))/\
     aD [k0] w9 cI/\
     be J3 w9 cI/\
     (b3=true->∃l4:Sl,aB cI (k.add 1) [l4.v]/\
      ∃l5:Sl,aB cI (k.add 1) [l5.v]/\
      ∃p1:Addr,cD l5 at_ 5 p1/\
      ∃i6:Int,aB cI (p1.add 2) [.int .i64 i6]/\
      Calls Tryz.prog 50 #[l4.v,.int .i64 i5,.int .i64 i6] cI fun e4 cS=>∃b4:Bool,e4=(.returned (.bool b4))/\
       aD [k0] cI cS/\
       be J3 cI cS/\
       Calls Tryz.prog 105 #[.pointer (some k),.bool b4,.int .i64 26,.int .i64 kw] cS fun e5 dK=>e5=(.returned (.tuple #[]))/\
        aD [k0] cS dK/\
        be J3 cS dK/\
        J2 dK)/\
     (b3=false->Calls Tryz.prog 105 #[.pointer (some k),.bool false,.int .i64 26,.int .i64 kw] cI fun e6 dX=>e6=(.returned (.tuple #[]))/\
      aD [k0] cI dX/\
      be J3 cI dX/\
      J2 dX))/\
  (b2=false->((n_==2)=true->Calls Tryz.prog 105 #[.pointer (some k),.bool ((jP.toList==((ByteArray.mk #[]).toList))&&(decide (i0>1))),.int .i64 25,.int .i64 kw] w5 fun e7 eK=>e7=(.returned (.tuple #[]))/\
   aD [k0] w5 eK/\
   R (.tuple #[]) eK)/\
  ((n_==2)=false->((decide (i0>0))=true->Calls Tryz.prog 105 #[.pointer (some k),.bool b0,.int .i64 25,.int .i64 kw] w5 fun e8 gn=>e8=(.returned (.tuple #[]))/\
   aD [k0] w5 gn/\
   R (.tuple #[]) gn)/\
  ((decide (i0>0))=false->Calls Tryz.prog 105 #[.pointer (some k),.bool (jP.toList==((ByteArray.mk #[]).toList)),.int .i64 25,.int .i64 kw] w5 fun e9 gR=>e9=(.returned (.tuple #[]))/\
   aD [k0] w5 gR/\
   Calls Tryz.prog 105 #[.pointer (some k),.bool ((gZ.n:Int)==0),.int .i64 26,.int .i64 kw] gR fun D4 fR=>D4=(.returned (.tuple #[]))/\
    aD [k0] gR fR/\
    R (.tuple #[]) fR))))
theorem afT (k:Addr) (n_:Int) (kM jP kI:ByteArray) (kU kV jm gZ:Sl) (kw at_:Int) (R:Value->World->Prop) (w:World) (h:ZQ k n_ kM jP kI kU kV jm gZ kw at_ R w):Cr 106 #[.pointer (some k),.agg #[.int .i64 n_,.string kM,.string jP,.string kI,kU.v,kV.v,jm.v,gZ.v,.int .i64 kw],.int .i64 at_] w R:=
 fB (an:=.s .o (.s .o (.s .o (.s (.s .o (.j [0,2,4,12,13] [.s 6 (.int .i64),.s 7 .bool,.s 14 (.int .i64)] (.s .o (.s (.s .o .o) (.s (.s .o (.j [0,2,4,7,9,12,13,14] [.s 6 (.int .i64)] (.s .o (.s .o .o)) .o)) .o))) .o)) (.s .o (.s (.s .o (.j [4,9] [] .o .o)) (.s .o (.s .o (.s .o (.s .o (.s .o .o))))))))))) (args:=[.ad k,.agg (ld [.int .i64 n_,.str kM,.str jP,.str kI,.sl kU,.sl kV,.sl jm,.sl gZ,.int .i64 kw]),.int .i64 at_]) h
def ZR (kind:Int) (R:Value->World->Prop) (w:World):Prop:=
 R (.bool ((kind==3)||(kind==4))) w
theorem afU (kind:Int) (R:Value->World->Prop) (w:World) (h:ZR kind R w):Cr 167 #[.int .i64 kind] w R:=
 fB (an:=.s .o (.s .o .o)) (args:=[.int .i64 kind]) h
def ZS (n_:Option Nat) (name:ByteArray) (R:Value->World->Prop) (w:World):Prop:=
 ∃i0:Int,∃b0:Bool,∃w0:World,((Instr.lookup 97 (.map n_) (.string name) true).run Tryz.prog w)=(.ok (.tuple #[.int .i64 i0,.bool b0]) w0)/\
 (b0=true->R (.int .i64 i0) w0)/\
 (b0=false->R (.int .i64 (-1)) w0)
theorem afV (n_:Option Nat) (name:ByteArray) (R:Value->World->Prop) (w:World) (h:ZS n_ name R w):Cr 168 #[.map n_,.string name] w R:=
 fB (an:=.s .o (.s (.s .o (.s .o (.s (.s .o .o) .o))) (.s .o .o))) (args:=[.map n_,.str name]) h
def ZT (k:Addr) (at_:Int) (R:Value->World->Prop) (w:World):Prop:=
 ∃J0:Bool->World->Prop,(∀b0:Bool,∀w0:World,J0 b0 w0->R (.bool b0) w0)/\
 ((decide (at_>=0))=true->∃l0:Sl,aB w (k.add 1) [l0.v]/\
  ∃p0:Addr,cD l0 at_ 5 p0/\
  ∃i0:Int,aB w (p0.add 0) [.int .i64 i0]/\
  Calls Tryz.prog 167 #[.int .i64 i0] w fun e0 w1=>∃b1:Bool,e0=(.returned (.bool b1))/\
   J0 (!b1) w1)/\
 ((decide (at_>=0))=false->J0 false w)
theorem afW (k:Addr) (at_:Int) (R:Value->World->Prop) (w:World) (h:ZT k at_ R w):Cr 169 #[.pointer (some k),.int .i64 at_] w R:=
 fB (an:=.s .o (.s (.j [] [.s 4 .bool] .o .o) .o)) (args:=[.ad k,.int .i64 at_]) h
def ZU (k:Addr) (rows:Sl) (R:Value->World->Prop) (w:World):Prop:=
 Calls Tryz.prog 66 #[rows.v] w fun e0 w0=>∃l0:Sl,e0=(.returned l0.v)/\
  ∃J0:Nat->Int->World->Prop,∃k0:Nat,J0 k0 0 w0/\
  ∀k1:Nat,∀i0:Int,∀w1:World,J0 k1 i0 w1->((decide (i0<(l0.n:Int)))=true->∃p0:Addr,cD l0 i0 9 p0/\
   ∃i1:Int,∃s0:ByteArray,∃i2 i3:Int,∃s1:ByteArray,∃i4:Int,∃l1:Sl,∃i5 i6:Int,aB w1 p0 [.int .i64 i1,.string s0,.int .i64 i2,.int .i64 i3,.string s1,.int .i64 i4,l1.v,.int .i64 i5,.int .i64 i6]/\
   ∀k2:Nat,∀w2:World,w1.heap.size<=k2->k2<w2.heap.size->Only [] w1 w2->∃J1:World->Prop,(∀w3:World,J1 w3->Calls Tryz.prog 108 #[.pointer (some k),.agg #[.int .i64 i2,.int .i64 i3,.string s1,.int .i64 i4,l1.v,.int .i64 i5]] w3 fun e1 w4=>e1=(.returned (.tuple #[]))/\
    aD [k2] w3 w4/\
    ∃k3:Nat,k3<k1/\
    J0 k3 (IntKind.wrap .i64 (i0+1)) w4)/\
   ((i1==1)=true->∀w5:World,Only [] w2 w5->∃m0:Option Nat,aB w5 (k.add 2) [.map m0]/\
    ∃i7:Int,∃b0:Bool,∃w6:World,((Instr.lookup 97 (.map m0) (.string s0) true).run Tryz.prog w5)=(.ok (.tuple #[.int .i64 i7,.bool b0]) w6)/\
    aD [k2] w5 w6/\
    Calls Tryz.prog 105 #[.pointer (some k),.bool b0,.int .i64 23,.int .i64 i6] w6 fun e2 w7=>e2=(.returned (.tuple #[]))/\
     aD [k2] w6 w7/\
     J1 w7)/\
   ((i1==1)=false->J1 w2))/\
  ((decide (i0<(l0.n:Int)))=false->R (.tuple #[]) w1)
theorem afX (k:Addr) (rows:Sl) (R:Value->World->Prop) (w:World) (h:ZU k rows R w):Cr 107 #[.pointer (some k),rows.v] w R:=
 fB (an:=.s .o (.j [0,9,10] [.s 11 (.int .i64)] (.s .o (.s (.s .o .o) (.s (.s .o (.j [0,5,9,10,11] [] (.s .o (.s (.s .o .o) .o)) .o)) .o))) .o)) (args:=[.ad k,.sl rows]) h
def ZV (mR:Sl) (R:Value->World->Prop) (w:World):Prop:=
 ∃J0:Nat->Int->Int->World->Prop,∃k0:Nat,J0 k0 0 0 w/\
 ∀k1:Nat,∀i0 i1:Int,∀w0:World,J0 k1 i0 i1 w0->((decide (i1<(mR.n:Int)))=true->∃J1:Int->World->Prop,(∀i2:Int,∀w1:World,J1 i2 w1->∃k2:Nat,k2<k1/\
   J0 k2 i2 (IntKind.wrap .i64 (i1+1)) w1)/\
  ∃p0:Addr,cD mR i1 1 p0/\
  ∃l0:Sl,aB w0 p0 [l0.v]/\
  ((decide ((IntKind.wrap .i64 (i0+(l0.n:Int)))<0))=true->False)/\
  ((decide ((IntKind.wrap .i64 (i0+(l0.n:Int)))<0))=false->J1 (IntKind.wrap .i64 (i0+(l0.n:Int))) w0))/\
 ((decide (i1<(mR.n:Int)))=false->Calls Tryz.prog 125 #[Sl.nil.v,.int .i64 i0] w0 fun e0 w2=>∃l1:Sl,e0=(.returned l1.v)/\
  ∃J2:Nat->Sl->Int->World->Prop,∃k3:Nat,J2 k3 l1 0 w2/\
  ∀k4:Nat,∀l2:Sl,∀i3:Int,∀w3:World,J2 k4 l2 i3 w3->((decide (i3<(mR.n:Int)))=true->∃p1:Addr,cD mR i3 1 p1/\
   ∃l3:Sl,aB w3 p1 [l3.v]/\
   ∃l4:Sl,∃w4:World,((Builtin.append_ #[23,23] 23 #[l2.v,l3.v]).run Tryz.prog w3)=(.ok l4.v w4)/\
   ∃k5:Nat,k5<k4/\
   J2 k5 l4 (IntKind.wrap .i64 (i3+1)) w4)/\
  ((decide (i3<(mR.n:Int)))=false->R l2.v w3))
theorem afY (mR:Sl) (R:Value->World->Prop) (w:World) (h:ZV mR R w):Cr 66 #[mR.v] w R:=
 fB (an:=.s .o (.s .o (.s (.s .o (.j [0,9,10] [.s 3 (.int .i64),.s 11 (.int .i64)] (.s .o (.s (.s .o .o) (.j [0,9,10,11] [.s 3 (.int .i64)] (.s .o (.s .o (.s .o (.s .o .o)))) .o))) .o)) (.s .o (.s (.s .o (.j [25,26] [.s 6 .sl,.s 27 (.int .i64)] (.s .o (.s (.s .o .o) (.s (.s .o .o) .o))) .o)) (.s .o .o)))))) (args:=[.sl mR]) h
def ZW (s:Sl) (n_:Int) (R:Value->World->Prop) (w:World):Prop:=
 ∃J0:World->Prop,(∀w0:World,J0 w0->∃J1:Sl->World->Prop,(∀l0:Sl,∀w1:World,J1 l0 w1->R l0.v w1)/\
  ((decide ((IntKind.wrap .i64 (n_-(IntKind.wrap .i64 ((s.c:Int)-(s.n:Int)))))>0))=true->∃k0:Nat,((s.c:Int)=(k0:Int)/\
    k0<=s.c)/\
   ∃l1:Sl,∃w2:World,((Builtin.append_ #[23,3] 23 #[(s.cut 0 k0 s.c 9).v,.int .i64 (IntKind.wrap .i64 (n_-(IntKind.wrap .i64 ((s.c:Int)-(s.n:Int)))))]).run Tryz.prog w0)=(.ok l1.v w2)/\
   ∃k1:Nat,((s.n:Int)=(k1:Int)/\
    k1<=l1.c)/\
   J1 (l1.cut 0 k1 l1.c 9) w2)/\
  ((decide ((IntKind.wrap .i64 (n_-(IntKind.wrap .i64 ((s.c:Int)-(s.n:Int)))))>0))=false->J1 s w0))/\
 ((decide (n_<0))=true->False)/\
 ((decide (n_<0))=false->J0 w)
theorem afZ (s:Sl) (n_:Int) (R:Value->World->Prop) (w:World) (h:ZW s n_ R w):Cr 125 #[s.v,.int .i64 n_] w R:=
 fB (an:=.s .o (.j [0,1] [] (.s .o (.s .o .o)) (.j [] [.s 0 .sl] (.s .o (.s .o (.s .o .o))) (.s .o .o)))) (args:=[.sl s,.int .i64 n_]) h
def ZX (k:Addr) (x x1:Int) (x2:ByteArray) (x3:Int) (x4:Sl) (x5:Int) (R:Value->World->Prop) (w:World):Prop:=
 ∀k0:Nat,∀w0:World,w.heap.size<=k0->k0<w0.heap.size->Only [] w w0->∃J0:World->Prop,(∀w1:World,J0 w1->∃J1:Nat->Int->World->Prop,∃k1:Nat,J1 k1 0 w1/\
  ∀k2:Nat,∀i0:Int,∀w2:World,J1 k2 i0 w2->((decide (i0<(x4.n:Int)))=true->∃p0:Addr,cD x4 i0 6 p0/\
   ∃i1 i2:Int,∃s0:ByteArray,∃i3:Int,∃l0:Sl,∃i4:Int,aB w2 p0 [.int .i64 i1,.int .i64 i2,.string s0,.int .i64 i3,l0.v,.int .i64 i4]/\
   ∀k3:Nat,∀w3:World,w2.heap.size<=k3->k3<w3.heap.size->Only [] w2 w3->Calls Tryz.prog 108 #[.pointer (some k),.agg #[.int .i64 i1,.int .i64 i2,.string s0,.int .i64 i3,l0.v,.int .i64 i4]] w3 fun e0 w4=>e0=(.returned (.tuple #[]))/\
    aD [k0,k3] w3 w4/\
    ∃k4:Nat,k4<k2/\
    J1 k4 (IntKind.wrap .i64 (i0+1)) w4)/\
  ((decide (i0<(x4.n:Int)))=false->R (.tuple #[]) w2))/\
 ((x==2)=true->∀w5:World,Only [] w0 w5->∃m0:Option Nat,aB w5 (k.add 2) [.map m0]/\
  ∃i5:Int,∃b0:Bool,∃w6:World,((Instr.lookup 97 (.map m0) (.string x2) true).run Tryz.prog w5)=(.ok (.tuple #[.int .i64 i5,.bool b0]) w6)/\
  aD [k0] w5 w6/\
  Calls Tryz.prog 105 #[.pointer (some k),.bool b0,.int .i64 23,.int .i64 x5] w6 fun e1 w7=>e1=(.returned (.tuple #[]))/\
   aD [k0] w6 w7/\
   J0 w7)/\
 ((x==2)=false->((x==3)=true->∀w8:World,Only [] w0 w8->∃J2:Nat->Prop,∃m1:Option Nat,aB w8 (k.add 0) [.map m1]/\
  J2 k0/\
  Calls Tryz.prog 168 #[.map m1,.string x2] w8 fun e2 w9=>∃i6:Int,e2=(.returned (.int .i64 i6))/\
   aD [k0] w8 w9/\
   be J2 w8 w9/\
   Calls Tryz.prog 169 #[.pointer (some k),.int .i64 i6] w9 fun e3 cI=>∃b1:Bool,e3=(.returned (.bool b1))/\
    aD [k0] w9 cI/\
    be J2 w9 cI/\
    Calls Tryz.prog 105 #[.pointer (some k),.bool b1,.int .i64 23,.int .i64 x5] cI fun e4 cS=>e4=(.returned (.tuple #[]))/\
     aD [k0] cI cS/\
     be J2 cI cS/\
     J0 cS)/\
 ((x==3)=false->J0 w0))
theorem af0 (k:Addr) (x x1:Int) (x2:ByteArray) (x3:Int) (x4:Sl) (x5:Int) (R:Value->World->Prop) (w:World) (h:ZX k x x1 x2 x3 x4 x5 R w):Cr 108 #[.pointer (some k),.agg #[.int .i64 x,.int .i64 x1,.string x2,.int .i64 x3,x4.v,.int .i64 x5]] w R:=
 fB (an:=.s .o (.j [0,3] [] (.s .o (.s .o (.s (.s .o .o) (.s .o (.s .o .o))))) (.s .o (.j [0,3,43,44] [.s 45 (.int .i64)] (.s .o (.s (.s .o .o) (.s (.s .o .o) .o))) .o)))) (args:=[.ad k,.agg (ld [.int .i64 x,.int .i64 x1,.str x2,.int .i64 x3,.sl x4,.int .i64 x5])]) h
def ZY (k:Addr) (l:Sl) (R:Value->World->Prop) (w:World):Prop:=
 ∀k0:Nat,∀w0:World,w.heap.size<=k0->k0<w0.heap.size->Only [] w w0->∃J0:Nat->Sl->Int->Option Addr->World->Prop,∃k1:Nat,J0 k1 Sl.nil 0 (some k) w0/\
 ∀k2:Nat,∀l0:Sl,∀i0:Int,∀q0:Option Addr,∀w1:World,J0 k2 l0 i0 q0 w1->((decide (i0<(l.n:Int)))=true->∃p0:Addr,cD l i0 1 p0/\
  ∃s0:ByteArray,aB w1 p0 [.string s0]/\
  ∃p1:Addr,q0=(some p1)/\
  ∃m0:Option Nat,aB w1 (p1.add 0) [.map m0]/\
  Calls Tryz.prog 168 #[.map m0,.string s0] w1 fun e0 w2=>∃i1:Int,e0=(.returned (.int .i64 i1))/\
   aD [k0] w1 w2/\
   ((decide (i1<1))=true->∀k3:Nat,∀w3:World,w2.heap.size<=k3->k3<w3.heap.size->Only [] w2 w3->R (.bool false) w3)/\
   ((decide (i1<1))=false->∀k4:Nat,∀w4:World,w2.heap.size<=k4->k4<w4.heap.size->Only [] w2 w4->∃J1:Option Addr->Int->World->Prop,(∀q1:Option Addr,∀i2:Int,∀w5:World,J1 q1 i2 w5->Blk w5 k0 95 [.pointer q1]->Blk w5 k4 3 [.int .i64 i2]->Calls Tryz.prog 100 #[l0.v,.func (.func 170) #[] #[.pointer (some ⟨k0,0,none⟩),.pointer (some ⟨k4,0,none⟩)]] w5 fun e1 w6=>∃b0:Bool,e1=(.returned (.bool b0))/\
    ∃q2:Option Addr,Blk w6 k0 95 [.pointer q2]/\
    ∃i3:Int,Blk w6 k4 3 [.int .i64 i3]/\
    (b0=true->R (.bool false) w6)/\
    (b0=false->∃l1:Sl,∃w7:World,((Instr.buildSlice 106 1 #[.mk 0 (.int .i64 i3)]).run Tryz.prog w6)=(.ok l1.v w7)/\
    aD [k0,k4] w6 w7/\
    ∃l2:Sl,∃w8:World,((Builtin.append_ #[106,106] 106 #[l0.v,l1.v]).run Tryz.prog w7)=(.ok l2.v w8)/\
    aD [k0,k4] w7 w8/\
    ∃k5:Nat,k5<k2/\
    J0 k5 l2 (IntKind.wrap .i64 (i0+1)) q2 w8))/\
   ∃p2:Addr,q0=(some p2)/\
   ∀w9:World,Only [] w4 w9->∃l3:Sl,aB w9 (p2.add 1) [l3.v]/\
   ∃p3:Addr,cD l3 i1 5 p3/\
   ∃i4:Int,aB w9 (p3.add 0) [.int .i64 i4]/\
   Calls Tryz.prog 167 #[.int .i64 i4] w9 fun e2 cI=>∃b1:Bool,e2=(.returned (.bool b1))/\
    aD [k0,k4] w9 cI/\
    (b1=true->∃p4:Addr,q0=(some p4)/\
     ∀cS:World,Only [] cI cS->∃l4:Sl,aB cS (p4.add 1) [l4.v]/\
     ∃p5:Addr,cD l4 i1 5 p5/\
     ∃i5:Int,aB cS (p5.add 2) [.int .i64 i5]/\
     ∀dK:World,Only [k4] cS dK->J1 q0 i5 dK)/\
    (b1=false->J1 q0 i1 cI)))/\
 ((decide (i0<(l.n:Int)))=false->R (.bool true) w1)
theorem af1 (k:Addr) (l:Sl) (R:Value->World->Prop) (w:World) (h:ZY k l R w):Cr 109 #[.pointer (some k),l.v] w R:=
 fB (an:=.s .o (.s .o (.s (.s .o (.j [2,9,10] [.s 5 .sl,.s 11 (.int .i64),.b 2 [.ptr]] (.s .o (.s (.s .o .o) (.s (.s .o (.s .o (.s (.s .o (.s (.s .o .o) .o)) (.j [2,5,8,9,10,11] [.b 2 [.ptr],.b 8 [.int .i64]] (.s .o (.s .o .o)) (.s (.s .o (.s (.s .o .o) .o)) .o))))) .o))) .o)) (.s .o .o)))) (args:=[.ad k,.sl l]) h
def ZZ (o:Int) (fe qg:Addr) (R:Value->World->Prop) (w:World):Prop:=
 ∃q0:Option Addr,aB w fe [.pointer q0]/\
 ∃i0:Int,aB w qg [.int .i64 i0]/\
 Calls Tryz.prog 171 #[.pointer q0,.int .i64 i0,.int .i64 o] w fun e0 w0=>∃b0:Bool,e0=(.returned (.bool b0))/\
  R (.bool (!b0)) w0
theorem af2 (o:Int) (fe qg:Addr) (R:Value->World->Prop) (w:World) (h:ZZ o fe qg R w):Cr 170 #[.int .i64 o,.pointer (some fe),.pointer (some qg)] w R:=
 fB (an:=.s .o (.s .o .o)) (args:=[.int .i64 o,.ad fe,.ad qg]) h
def Z0 (k:Addr) (a_ bb:Int) (R:Value->World->Prop) (w:World):Prop:=
 ∃l0:Sl,aB w (k.add 1) [l0.v]/\
 ∃l1:Sl,∃w0:World,((Instr.buildSlice 106 2 #[.mk 0 (.int .i64 a_),.mk 1 (.int .i64 bb)]).run Tryz.prog w)=(.ok l1.v w0)/\
 Calls Tryz.prog 49 #[l0.v,l1.v] w0 fun e0 w1=>∃i0:Int,e0=(.returned (.int .i64 i0))/\
  ∃l2:Sl,(((i0 !=a_)&&(i0 !=bb))=true->aB w1 (k.add 1) [l2.v])/\
  ∃p0:Addr,(((i0 !=a_)&&(i0 !=bb))=true->cD l2 i0 5 p0)/\
  ∃i1:Int,(((i0 !=a_)&&(i0 !=bb))=true->aB w1 (p0.add 0) [.int .i64 i1])/\
  R (.bool (((i0 !=a_)&&(i0 !=bb))&&(i1==2))) w1
theorem af3 (k:Addr) (a_ bb:Int) (R:Value->World->Prop) (w:World) (h:Z0 k a_ bb R w):Cr 171 #[.pointer (some k),.int .i64 a_,.int .i64 bb] w R:=
 fB (an:=.s .o (.s .o (.s .o .o))) (args:=[.ad k,.int .i64 a_,.int .i64 bb]) h
def Z1 (c:Sl) (c1:Int) (c2 c3 c4:ByteArray) (c5 c6 c7 c8:Sl) (c9 k:Int) (R:Value->World->Prop) (w:World):Prop:=
 ∀k0:Nat,∀w0:World,w.heap.size<=k0->k0<w0.heap.size->Only [] w w0->Calls Tryz.prog 21 #[] w0 fun e0 w1=>∃b0:Bool,e0=(.returned (.bool b0))/\
  aD [k0] w0 w1/\
  Calls Tryz.prog 22 #[.agg #[c.v,.int .i64 c1,.string c2,.string c3,.string c4,c5.v,c6.v,c7.v,c8.v,.int .i64 c9]] w1 fun e1 w2=>∃i0 i1:Int,e1=(.returned (.agg #[.int .i64 i0,.int .i64 i1]))/\
   aD [k0] w1 w2/\
   ∀k1:Nat,∀w3:World,w2.heap.size<=k1->k1<w3.heap.size->Only [] w2 w3->(((!b0)||(i0 !=0))=true->R (.bool b0) w3)/\
   (((!b0)||(i0 !=0))=false->∀w4:World,Only [] w3 w4->∃J0:Nat->Prop,J0 k0/\
   J0 k0/\
   ∀w5:World,Only [] w4 w5->Calls Tryz.prog 24 #[.agg #[.int .i64 c1,.string c2,.string c3,.string c4,c5.v,c6.v,c7.v,c8.v,.int .i64 c9],.int .i64 k] w5 fun e2 w6=>∃i2:Int,∃s0 s1 s2:ByteArray,∃l0 l1 l2 l3:Sl,∃i3:Int,e2=(.returned (.agg #[.int .i64 i2,.string s0,.string s1,.string s2,l0.v,l1.v,l2.v,l3.v,.int .i64 i3]))/\
    aD [k0,k1] w5 w6/\
    iz w4 w5 w6/\
    be J0 w5 w6/\
    ∀w7:World,Only [] w6 w7->Calls Tryz.prog 22 #[.agg #[c.v,.int .i64 i2,.string s0,.string s1,.string s2,l0.v,l1.v,l2.v,l3.v,.int .i64 i3]] w7 fun e3 w8=>∃i4 i5:Int,e3=(.returned (.agg #[.int .i64 i4,.int .i64 i5]))/\
     aD [k0,k1] w7 w8/\
     iz w4 w7 w8/\
     be J0 w7 w8/\
     ∀w9:World,Only [] w8 w9->∀k2:Nat,w4.heap.size<=k2->k2<w9.heap.size->pv [.mk w7.heap.size w8.heap.size,.mk w5.heap.size w6.heap.size] k2->∀cI:World,Only [k2] w9 cI->R (.bool (i4==0)) cI)
theorem af4 (c:Sl) (c1:Int) (c2 c3 c4:ByteArray) (c5 c6 c7 c8:Sl) (c9 k:Int) (R:Value->World->Prop) (w:World) (h:Z1 c c1 c2 c3 c4 c5 c6 c7 c8 c9 k R w):Cr 6 #[.agg #[c.v,.int .i64 c1,.string c2,.string c3,.string c4,c5.v,c6.v,c7.v,c8.v,.int .i64 c9],.int .i64 k] w R:=
 fB (an:=.s .o (.s .o (.s .o (.s (.s .o (.s (.s .o .o) .o)) (.s (.l false [] []) (.s .o .o)))))) (args:=[.agg (ld [.sl c,.int .i64 c1,.str c2,.str c3,.str c4,.sl c5,.sl c6,.sl c7,.sl c8,.int .i64 c9]),.int .i64 k]) h
def Z2 (n_:Int) (kM jP kI:ByteArray) (kU kV jm gZ:Sl) (kw k:Int) (R:Value->World->Prop) (w:World):Prop:=
 ∀k0 k1:Nat,∀w0:World,w.heap.size<=k0->k0<w0.heap.size->w.heap.size<=k1->k1<w0.heap.size->Only [] w w0->∃J0:Nat->Sl->Int->World->Prop,∃k2:Nat,J0 k2 Sl.nil 0 w0/\
 ∀k3:Nat,∀l0:Sl,∀i0:Int,∀w1:World,J0 k3 l0 i0 w1->((decide (i0<(jm.n:Int)))=true->∃J1:Sl->World->Prop,(∀l1:Sl,∀w2:World,J1 l1 w2->∃k4:Nat,k4<k3/\
   J0 k4 l1 (IntKind.wrap .i64 (i0+1)) w2)/\
  ((i0 !=k)=true->∃p0:Addr,cD jm i0 13 p0/\
   ∃i1:Int,∃s0:ByteArray,∃i2:Int,∃b0:Bool,∃i3 i4:Int,∃s1:ByteArray,∃i5:Int,∃l2:Sl,∃i6:Int,∃l3 l4:Sl,∃i7:Int,aB w1 p0 [.int .i64 i1,.string s0,.int .i64 i2,.bool b0,.int .i64 i3,.int .i64 i4,.string s1,.int .i64 i5,l2.v,.int .i64 i6,l3.v,l4.v,.int .i64 i7]/\
   ∃l5:Sl,∃w3:World,((Instr.buildSlice 24 1 #[.mk 0 (.agg #[.int .i64 i1,.string s0,.int .i64 i2,.bool b0,.int .i64 i3,.int .i64 i4,.string s1,.int .i64 i5,l2.v,.int .i64 i6,l3.v,l4.v,.int .i64 i7])]).run Tryz.prog w1)=(.ok l5.v w3)/\
   aD [k0,k1] w1 w3/\
   ∃l6:Sl,∃w4:World,((Builtin.append_ #[24,24] 24 #[l0.v,l5.v]).run Tryz.prog w3)=(.ok l6.v w4)/\
   aD [k0,k1] w3 w4/\
   J1 l6 w4)/\
  ((i0 !=k)=false->J1 l0 w1))/\
 ((decide (i0<(jm.n:Int)))=false->∃J2:Nat->Sl->Int->World->Prop,∃k5:Nat,J2 k5 Sl.nil 0 w1/\
 ∀k6:Nat,∀l7:Sl,∀i8:Int,∀w5:World,J2 k6 l7 i8 w5->((decide (i8<(gZ.n:Int)))=true->∃p1:Addr,cD gZ i8 9 p1/\
  ∃i9:Int,∃s2 s3 s4:ByteArray,∃l8 l9 l10 qW:Sl,∃i10:Int,aB w5 p1 [.int .i64 i9,.string s2,.string s3,.string s4,l8.v,l9.v,l10.v,qW.v,.int .i64 i10]/\
  Calls Tryz.prog 24 #[.agg #[.int .i64 i9,.string s2,.string s3,.string s4,l8.v,l9.v,l10.v,qW.v,.int .i64 i10],.int .i64 k] w5 fun e0 w6=>∃i11:Int,∃s5 s6 s7:ByteArray,∃rS wi yd D2:Sl,∃i12:Int,e0=(.returned (.agg #[.int .i64 i11,.string s5,.string s6,.string s7,rS.v,wi.v,yd.v,D2.v,.int .i64 i12]))/\
   aD [k0,k1] w5 w6/\
   ∀k7:Nat,∀w7:World,w6.heap.size<=k7->k7<w7.heap.size->Only [] w6 w7->∃OH:Sl,∃w8:World,((Instr.buildSlice 25 1 #[.mk 0 (.agg #[.int .i64 i11,.string s5,.string s6,.string s7,rS.v,wi.v,yd.v,D2.v,.int .i64 i12])]).run Tryz.prog w7)=(.ok OH.v w8)/\
   aD [k0,k1,k7] w7 w8/\
   ∃OI:Sl,∃w9:World,((Builtin.append_ #[25,25] 25 #[l7.v,OH.v]).run Tryz.prog w8)=(.ok OI.v w9)/\
   aD [k0,k1,k7] w8 w9/\
   ∃k8:Nat,k8<k6/\
   J2 k8 OI (IntKind.wrap .i64 (i8+1)) w9)/\
 ((decide (i8<(gZ.n:Int)))=false->∀cI:World,Only [k1,k0] w5 cI->R (.agg #[.int .i64 n_,.string kM,.string jP,.string kI,kU.v,kV.v,l0.v,l7.v,.int .i64 kw]) cI))
theorem af5 (n_:Int) (kM jP kI:ByteArray) (kU kV jm gZ:Sl) (kw k:Int) (R:Value->World->Prop) (w:World) (h:Z2 n_ kM jP kI kU kV jm gZ kw k R w):Cr 24 #[.agg #[.int .i64 n_,.string kM,.string jP,.string kI,kU.v,kV.v,jm.v,gZ.v,.int .i64 kw],.int .i64 k] w R:=
 fB (an:=.s .o (.s .o (.s (.s .o (.j [1,2,4] [.s 5 .sl,.s 6 (.int .i64)] (.s (.s .o (.s .o .o)) (.j [1,2,4,6] [.s 5 .sl] (.s .o (.s .o .o)) .o)) .o)) (.s .o (.s (.s .o (.j [1,2,4,5] [.s 7 .sl,.s 8 (.int .i64)] (.s (.s .o (.s .o .o)) (.s (.s .o .o) .o)) .o)) (.s .o (.s .o (.s .o .o)))))))) (args:=[.agg (ld [.int .i64 n_,.str kM,.str jP,.str kI,.sl kU,.sl kV,.sl jm,.sl gZ,.int .i64 kw]),.int .i64 k]) h
def Z3 (n_:Int) (R:Value->World->Prop) (w:World):Prop:=
 Calls Tryz.prog 21 #[] w fun e0 w0=>∃b0:Bool,e0=(.returned (.bool b0))/\
  ∀k0:Nat,∀w1:World,w0.heap.size<=k0->k0<w1.heap.size->Only [] w0 w1->∃l0:Sl,∃w2:World,((Instr.buildSlice 24 1 #[.mk 0 (.agg #[.int .i64 3,.string (ByteArray.mk #[]),.int .i64 (if 0>n_ then 0 else n_),.bool false,.int .i64 0,.int .i64 0,.string (ByteArray.mk #[]),.int .i64 0,Sl.nil.v,.int .i64 0,Sl.nil.v,Sl.nil.v,.int .i64 7])]).run Tryz.prog w1)=(.ok l0.v w2)/\
  aD [k0] w1 w2/\
  Calls Tryz.prog 22 #[.agg #[Sl.nil.v,.int .i64 1,.string (ByteArray.mk #[99]),.string (ByteArray.mk #[]),.string (ByteArray.mk #[]),Sl.nil.v,Sl.nil.v,l0.v,Sl.nil.v,.int .i64 0]] w2 fun e1 w3=>∃i0 i1:Int,e1=(.returned (.agg #[.int .i64 i0,.int .i64 i1]))/\
   aD [k0] w2 w3/\
   (((decide (n_<1))||(decide (n_>1099511627776)))=true->∀k1:Nat,∀w4:World,w3.heap.size<=k1->k1<w4.heap.size->Only [] w3 w4->R (.bool (b0&&((i0==28)&&(i1==7)))) w4)/\
   (((decide (n_<1))||(decide (n_>1099511627776)))=false->∀k2:Nat,∀w5:World,w3.heap.size<=k2->k2<w5.heap.size->Only [] w3 w5->R (.bool (b0&&(i0==0))) w5)
theorem af6 (n_:Int) (R:Value->World->Prop) (w:World) (h:Z3 n_ R w):Cr 7 #[.int .i64 n_] w R:=
 fB (an:=.s .o (.s .o (.s .o (.s .o (.s (.s .o (.s (.s .o .o) .o)) (.s .o .o)))))) (args:=[.int .i64 n_]) h
def Z4 (c:Sl) (c1:Int) (c2 c3 c4:ByteArray) (c5 c6 c7 c8:Sl) (c9:Int) (R:Value->World->Prop) (w:World):Prop:=
 ∀k0:Nat,∀w0:World,w.heap.size<=k0->k0<w0.heap.size->Only [] w w0->Calls Tryz.prog 21 #[] w0 fun e0 w1=>∃b0:Bool,e0=(.returned (.bool b0))/\
  aD [k0] w0 w1/\
  Calls Tryz.prog 22 #[.agg #[c.v,.int .i64 c1,.string c2,.string c3,.string c4,c5.v,c6.v,c7.v,c8.v,.int .i64 c9]] w1 fun e1 w2=>∃i0 i1:Int,e1=(.returned (.agg #[.int .i64 i0,.int .i64 i1]))/\
   aD [k0] w1 w2/\
   ∀k1:Nat,∀w3:World,w2.heap.size<=k1->k1<w3.heap.size->Only [] w2 w3->Calls Tryz.prog 18 #[.agg #[c.v,.int .i64 c1,.string c2,.string c3,.string c4,c5.v,c6.v,c7.v,c8.v,.int .i64 c9]] w3 fun e2 w4=>∃l0:Sl,∃i2:Int,e2=(.returned (.tuple #[l0.v,.int .i64 i2]))/\
    aD [k0,k1] w3 w4/\
    (((!b0)||(i0 !=0))=true->R (.bool b0) w4)/\
    (((!b0)||(i0 !=0))=false->((i2 !=0)=true->R (.bool false) w4)/\
    ((i2 !=0)=false->Calls Tryz.prog 25 #[l0.v,.agg #[.int .i64 c1,.string c2,.string c3,.string c4,c5.v,c6.v,c7.v,c8.v,.int .i64 c9]] w4 fun e3 w5=>∃b1:Bool,e3=(.returned (.bool b1))/\
     aD [k0,k1] w4 w5/\
     R (.bool b1) w5))
theorem af7 (c:Sl) (c1:Int) (c2 c3 c4:ByteArray) (c5 c6 c7 c8:Sl) (c9:Int) (R:Value->World->Prop) (w:World) (h:Z4 c c1 c2 c3 c4 c5 c6 c7 c8 c9 R w):Cr 8 #[.agg #[c.v,.int .i64 c1,.string c2,.string c3,.string c4,c5.v,c6.v,c7.v,c8.v,.int .i64 c9]] w R:=
 fB (an:=.s .o (.s .o (.s .o (.s .o (.s (.s .o (.s (.s .o .o) .o)) (.s (.s .o (.s (.s .o .o) .o)) (.s .o .o))))))) (args:=[.agg (ld [.sl c,.int .i64 c1,.str c2,.str c3,.str c4,.sl c5,.sl c6,.sl c7,.sl c8,.int .i64 c9])]) h
def Z5 (l:Sl) (n_:Int) (kM jP kI:ByteArray) (kU kV jm gZ:Sl) (kw:Int) (R:Value->World->Prop) (w:World):Prop:=
 ∀k0:Nat,∀w0:World,w.heap.size<=k0->k0<w0.heap.size->Only [] w w0->Calls Tryz.prog 60 #[l.v,.string kM] w0 fun e0 w1=>∃i0:Int,e0=(.returned (.int .i64 i0))/\
  aD [k0] w0 w1/\
  ∃J0:Bool->World->Prop,(∀b0:Bool,∀w2:World,J0 b0 w2->∃J1:Bool->World->Prop,(∀b1:Bool,∀w3:World,J1 b1 w3->((((decide (i0<0))||(!b0))||(!b1))=true->R (.bool false) w3)/\
    ((((decide (i0<0))||(!b0))||(!b1))=false->∃J2:Nat->Int->World->Prop,∃k1:Nat,J2 k1 0 w3/\
    ∀k2:Nat,∀i1:Int,∀w4:World,J2 k2 i1 w4->((decide (i1<(jm.n:Int)))=true->∃J3:Nat->Int->World->Prop,∃k3:Nat,J3 k3 0 w4/\
     ∀k4:Nat,∀i2:Int,∀w5:World,J3 k4 i2 w5->∃p0:Addr,cD jm i1 13 p0/\
     ∃l0:Sl,aB w5 (p0.add 11) [l0.v]/\
     ((decide (i2<(l0.n:Int)))=true->∃p1:Addr,cD jm i1 13 p1/\
      ∃l1:Sl,aB w5 (p1.add 11) [l1.v]/\
      ∃p2:Addr,cD l1 i2 1 p2/\
      ∃s0:ByteArray,aB w5 p2 [.string s0]/\
      Calls Tryz.prog 60 #[l.v,.string s0] w5 fun e1 w6=>∃i3:Int,e1=(.returned (.int .i64 i3))/\
       aD [k0] w5 w6/\
       ((decide (i3<1))=true->R (.bool false) w6)/\
       ((decide (i3<1))=false->∃k5:Nat,k5<k4/\
       J3 k5 (IntKind.wrap .i64 (i2+1)) w6))/\
     ((decide (i2<(l0.n:Int)))=false->∃k6:Nat,k6<k2/\
     J2 k6 (IntKind.wrap .i64 (i1+1)) w5))/\
    ((decide (i1<(jm.n:Int)))=false->∃J4:Nat->Int->World->Prop,∃k7:Nat,J4 k7 0 w4/\
    ∀k8:Nat,∀i4:Int,∀w7:World,J4 k8 i4 w7->((decide (i4<(gZ.n:Int)))=true->∃p3:Addr,cD gZ i4 9 p3/\
     ∃i5:Int,∃s1 s2 s3:ByteArray,∃l2 l3 l4 l5:Sl,∃i6:Int,aB w7 p3 [.int .i64 i5,.string s1,.string s2,.string s3,l2.v,l3.v,l4.v,l5.v,.int .i64 i6]/\
     Calls Tryz.prog 25 #[l.v,.agg #[.int .i64 i5,.string s1,.string s2,.string s3,l2.v,l3.v,l4.v,l5.v,.int .i64 i6]] w7 fun e2 w8=>∃b2:Bool,e2=(.returned (.bool b2))/\
      aD [k0] w7 w8/\
      ((!b2)=true->R (.bool false) w8)/\
      ((!b2)=false->∃k9:Nat,k9<k8/\
      J4 k9 (IntKind.wrap .i64 (i4+1)) w8))/\
    ((decide (i4<(gZ.n:Int)))=false->R (.bool true) w7))))/\
   ((kI.toList==((ByteArray.mk #[]).toList))=true->J1 true w2)/\
   ((kI.toList==((ByteArray.mk #[]).toList))=false->Calls Tryz.prog 60 #[l.v,.string kI] w2 fun e3 w9=>∃i7:Int,e3=(.returned (.int .i64 i7))/\
    aD [k0] w2 w9/\
    J1 (decide (i7>0)) w9))/\
  ((jP.toList==((ByteArray.mk #[]).toList))=true->J0 true w1)/\
  ((jP.toList==((ByteArray.mk #[]).toList))=false->Calls Tryz.prog 60 #[l.v,.string jP] w1 fun e4 cI=>∃i8:Int,e4=(.returned (.int .i64 i8))/\
   aD [k0] w1 cI/\
   ∃p4:Addr,cD l (if i8>0 then i8 else 0) 5 p4/\
   ∃i9:Int,aB cI (p4.add 2) [.int .i64 i9]/\
   J0 (i9==i0) cI)
theorem af8 (l:Sl) (n_:Int) (kM jP kI:ByteArray) (kU kV jm gZ:Sl) (kw:Int) (R:Value->World->Prop) (w:World) (h:Z5 l n_ kM jP kI kU kV jm gZ kw R w):Cr 25 #[l.v,.agg #[.int .i64 n_,.string kM,.string jP,.string kI,kU.v,kV.v,jm.v,gZ.v,.int .i64 kw]] w R:=
 fB (an:=.s .o (.s .o (.s (.j [0,3,5] [.s 6 .bool] .o .o) (.s (.j [0,3,5,6] [.s 7 .bool] .o .o) (.s (.s .o (.s (.s .o .o) .o)) (.s (.s .o (.j [0,3] [.s 8 (.int .i64)] (.s (.s .o (.s .o .o)) (.s (.s .o (.j [0,3,8] [.s 9 (.int .i64)] (.s (.s .o (.s .o .o)) (.s (.s .o (.s (.s .o .o) .o)) .o)) .o)) .o)) .o)) (.s (.s .o (.j [0,3] [.s 10 (.int .i64)] (.s (.s .o (.s .o .o)) (.s (.s .o (.s .o (.s (.s .o .o) .o))) .o)) .o)) (.s .o .o)))))))) (args:=[.sl l,.agg (ld [.int .i64 n_,.str kM,.str jP,.str kI,.sl kU,.sl kV,.sl jm,.sl gZ,.int .i64 kw])]) h
def Z6 (l:Sl) (name:ByteArray) (R:Value->World->Prop) (w:World):Prop:=
 ∀k0:Nat,∀w0:World,w.heap.size<=k0->k0<w0.heap.size->Only [] w w0->Blk w0 k0 9 [.string name]->Calls Tryz.prog 111 #[l.v,.func (.func 112) #[] #[.pointer (some ⟨k0,0,none⟩)]] w0 fun e0 w1=>∃i0:Int,e0=(.returned (.int .i64 i0))/\
  ∃s0:ByteArray,Blk w1 k0 9 [.string s0]/\
  R (.int .i64 i0) w1
theorem af9 (l:Sl) (name:ByteArray) (R:Value->World->Prop) (w:World) (h:Z6 l name R w):Cr 60 #[l.v,.string name] w R:=
 fB (an:=.s .o (.s .o .o)) (args:=[.sl l,.str name]) h
def Z7 (s:Int) (s1:ByteArray) (s2 s3 s4:Int) (fe:Addr) (R:Value->World->Prop) (w:World):Prop:=
 ∀k0:Nat,∀w0:World,w.heap.size<=k0->k0<w0.heap.size->Only [] w w0->∃s0:ByteArray,aB w0 fe [.string s0]/\
 R (.bool (s1.toList==s0.toList)) w0
theorem aga (s:Int) (s1:ByteArray) (s2 s3 s4:Int) (fe:Addr) (R:Value->World->Prop) (w:World) (h:Z7 s s1 s2 s3 s4 fe R w):Cr 112 #[.agg #[.int .i64 s,.string s1,.int .i64 s2,.int .i64 s3,.int .i64 s4],.pointer (some fe)] w R:=
 fB (an:=.s .o (.s .o .o)) (args:=[.agg (ld [.int .i64 s,.str s1,.int .i64 s2,.int .i64 s3,.int .i64 s4]),.ad fe]) h
def Z8 (s:Sl) (f:OV) (R:Value->World->Prop) (w:World):Prop:=
 ∃J0:Nat->Int->World->Prop,∃k0:Nat,J0 k0 0 w/\
 ∀k1:Nat,∀i0:Int,∀w0:World,J0 k1 i0 w0->((decide (i0<(s.n:Int)))=true->∃p0:Addr,cD s i0 5 p0/\
  ∃i1:Int,∃s0:ByteArray,∃i2 i3 i4:Int,aB w0 p0 [.int .i64 i1,.string s0,.int .i64 i2,.int .i64 i3,.int .i64 i4]/\
  ∃k2:Nat,∃z0:List Value,∃z1:List Value,f.v=(.func (.func k2) z0.toArray z1.toArray)/\
  (∀x0:Array Value,∀w1:World,((callFunc k2 x0).run Tryz.prog w1)=(.ok (.enter k2 x0) w1))/\
  Calls Tryz.prog k2 ((vi (vi z0 [.agg #[.int .i64 i1,.string s0,.int .i64 i2,.int .i64 i3,.int .i64 i4]]) z1).toArray) w0 fun e0 w2=>∃b0:Bool,e0=(.returned (.bool b0))/\
   (b0=true->R (.int .i64 i0) w2)/\
   (b0=false->∃k3:Nat,k3<k1/\
   J0 k3 (IntKind.wrap .i64 (i0+1)) w2))/\
 ((decide (i0<(s.n:Int)))=false->R (.int .i64 (-1)) w0)
theorem agb (s:Sl) (f:OV) (R:Value->World->Prop) (w:World) (h:Z8 s f R w):Cr 111 #[s.v,f.v] w R:=
 fB (an:=.s .o (.s (.s .o (.j [0,1,7] [.s 8 (.int .i64)] (.s .o (.s (.s .o .o) (.s (.s .o (.s .o (.s (.s .o .o) .o))) .o))) .o)) (.s .o .o))) (args:=[.sl s,.raw f]) h
end Go.Proofs.YtmhoiicofhlgbaaGreatDoor.Vc
