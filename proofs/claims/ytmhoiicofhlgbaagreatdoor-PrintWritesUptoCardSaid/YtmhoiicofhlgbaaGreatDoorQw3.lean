import Derived.Test.YtmhoiicofhlgbaaGreatDoorQw2
set_option linter.unusedSectionVars false
namespace Go.Proofs.YtmhoiicofhlgbaaGreatDoor.Vc
open Go.Value renaming int->O,string->ab,pointer->ae,agg->ah,tuple->ai,bool->aj
open Go.IntKind renaming i64->U,wrap->ar
open Go.Ending renaming returned->ak
open _root_.ByteArray renaming mk->ao
open _root_.Go.Proofs.Tryz renaming prog->aq
open Go.Instr renaming buildSlice->au
open Go renaming World->av,Value->aw,Calls->az
open Go.Kt renaming Only->ay
open Go Go.RowKit Go.Kt Go.Kt.V
set_option linter.unusedVariables false
set_option maxRecDepth 100000
set_option maxHeartbeats 40000000
def Zo (R:aA) (w:av):Prop:=
 az aq 34 #[ab (ao #[99,104,97,114,116,32,99,123,118,97,114,32,110,61,45,50,59,115,116,97,116,101,32,97,123,111,110,32,103,111,91,110,60,48,93,123,115,101,116,32,110,61,110,43,49,59,125,45,62,98,44,97,59,101,110,116,101,114,123,125,125,100,101,101,112,32,104,45,62,97,59,125])] w fun e0 w0=>∃l0:Sl,∃i0:Int,∃s0 s1 s2:asw,∃l1 l2 l3 l4:Sl,∃i1 i2 i3:Int,e0=(ak (ai #[ah #[l0.v,O U i0,ab s0,ab s1,ab s2,l1.v,l2.v,l3.v,l4.v,O U i1],ah #[O U i2,O U i3]]))/\
  ∀k0 k1:Nat,∀w1:av,w0.heap.size<=k0->k0<w1.heap.size->w0.heap.size<=k1->k1<w1.heap.size->ay [] w0 w1->az aq 14 #[ah #[l0.v,O U i0,ab s0,ab s1,ab s2,l1.v,l2.v,l3.v,l4.v,O U i1]] w1 fun e1 w2=>∃s3:asw,∃i4:Int,e1=(ak (ai #[ab s3,O U i4]))/\
   aR [k0,k1] w1 w2/\
   R (aj (((i2==0)&&(i4==0))&&(s3.toList==((ao #[99,104,97,114,116,32,99,32,123,10,32,32,118,97,114,32,110,32,61,32,45,50,59,10,32,32,115,116,97,116,101,32,97,32,123,10,32,32,32,32,111,110,32,103,111,32,91,110,32,60,32,48,93,32,123,32,115,101,116,32,110,32,61,32,110,32,43,32,49,59,32,125,32,45,62,32,98,44,32,97,59,10,32,32,125,10,32,32,100,101,101,112,32,104,32,45,62,32,97,59,10,125,10]).toList)))) w2
abbrev Cr (f:FuncId) (a:Array aw) (w:av) (R:aA):Prop:=az aq f a w fun e w'=>∃v,e=ak v/\R v w'
theorem fB {f:FuncId} {an:N4} {args:List SV} {R:aA} {w:av} {vs:Array aw} {vc:Prop} (h:vc) (hv:vs=(bR β0 args).toArray:=by kernel_rfl) (he:vc=Vfn aq f an args R w:=by kernel_rfl):Cr f vs w R:=Zm Tryz.checked.mixed hv he h
theorem agc (R:aA) (w:av) (h:Zo R w):Cr 11 #[] w R:=
 fB (an:=.s .o (.s .o (.s .o (.s .o .o)))) (args:=[]) h
def Sy (s:asw) (R:aA) (w:av):Prop:=
 ∀k0 k1:Nat,∀w0:av,w.heap.size<=k0->k0<w0.heap.size->w.heap.size<=k1->k1<w0.heap.size->ay [] w w0->az aq 72 #[ab s] w0 fun e0 w1=>∃l0:Sl,∃i0 i1:Int,e0=(ak (ai #[l0.v,ah #[O U i0,O U i1]]))/\
  aR [k0,k1] w0 w1/\
  ((i0 !=0)=true->∀k2:Nat,∀w2:av,w1.heap.size<=k2->k2<w2.heap.size->ay [] w1 w2->k0≠k1->k0≠k2->k1≠k2->∃J0:Nat->Prop,J0 k2/\
   th J0 k0/\
   th J0 k1/\
   ∀w3:av,ay [k1,k0] w2 w3->R (ai #[ah #[Sl.nil.v,O U 0,ab (ao #[]),ab (ao #[]),ab (ao #[]),Sl.nil.v,Sl.nil.v,Sl.nil.v,Sl.nil.v,O U 0],ah #[O U i0,O U i1]]) w3)/\
  ((i0 !=0)=false->∀k3 k4 k5:Nat,∀w4:av,w1.heap.size<=k3->k3<w4.heap.size->w1.heap.size<=k4->k4<w4.heap.size->w1.heap.size<=k5->k5<w4.heap.size->ay [] w1 w4->∃l1:Sl,∃w5:av,((au 52 1 #[.mk 0 (ab (ao #[99,104,97,114,116]))]).run aq w4)=(.ok l1.v w5)/\
  aR [k0,k1,k3,k4,k5] w4 w5/\
  (Blk w5 k4 133 [l0.v,O U 0,O U 0,O U 0,O U 16,O U 64,O U 12,O U 200,O U 400]->k0≠k4->k1≠k4->k3≠k4->k5≠k4->az aq 73 #[ae (some ⟨k4,0,none⟩),l1.v] w5 fun e1 w6=>e1=(ak (ai #[]))/\
   aR [k0,k1,k3,k5] w5 w6/\
   ∃l2:Sl,∃i2 i3 i4 i5 i6 i7 i8 i9:Int,Blk w6 k4 133 [l2.v,O U i2,O U i3,O U i4,O U i5,O U i6,O U i7,O U i8,O U i9]/\
   az aq 74 #[ae (some ⟨k4,0,none⟩),O U 1] w6 fun e2 w7=>∃i10:Int,∃s0 s1 s2:asw,∃l3 l4 l5 l6:Sl,∃i11:Int,e2=(ak (ah #[O U i10,ab s0,ab s1,ab s2,l3.v,l4.v,l5.v,l6.v,O U i11]))/\
    aR [k0,k1,k3,k5] w6 w7/\
    ∃l7:Sl,∃i12 i13 i14 i15 i16 i17 i18 i19:Int,Blk w7 k4 133 [l7.v,O U i12,O U i13,O U i14,O U i15,O U i16,O U i17,O U i18,O U i19]/\
    ∀w8:av,ay [k5] w7 w8->Blk w8 k4 133 [l7.v,O U i12,O U i13,O U i14,O U i15,O U i16,O U i17,O U i18,O U i19]->∃l8:Sl,∃w9:av,((au 52 1 #[.mk 0 (ab (ao #[123]))]).run aq w8)=(.ok l8.v w9)/\
    aR [k0,k1,k3,k4,k5] w8 w9/\
    az aq 73 #[ae (some ⟨k4,0,none⟩),l8.v] w9 fun e3 cK=>e3=(ak (ai #[]))/\
     aR [k0,k1,k3,k5] w9 cK/\
     ∃l9:Sl,∃i20 i21 i22 i23 i24 i25 i26 i27:Int,Blk cK k4 133 [l9.v,O U i20,O U i21,O U i22,O U i23,O U i24,O U i25,O U i26,O U i27]/\
     ∃J1:Nat->Sl->Int->asw->asw->asw->Sl->Sl->Sl->Sl->Int->Sl->Int->Int->Int->Int->Int->Int->Int->Int->av->Prop,∃k6:Nat,J1 k6 Sl.nil i10 s0 s1 s2 l3 l4 l5 l6 i11 l9 i20 i21 i22 i23 i24 i25 i26 i27 cK/\
     ∀k7:Nat,∀l10:Sl,∀i28:Int,∀s3 s4 s5:asw,∀qo rm wC zC:Sl,∀i29:Int,∀EP:Sl,∀i30 i31 i32 i33 i34 i35 i36 i37:Int,∀cY:av,J1 k7 l10 i28 s3 s4 s5 qo rm wC zC i29 EP i30 i31 i32 i33 i34 i35 i36 i37 cY->∃PH:Sl,∃dz:av,((au 52 1 #[.mk 0 (ab (ao #[118,97,114]))]).run aq cY)=(.ok PH.v dz)/\
     aR [k0,k1,k3,k4,k5] cY dz/\
     az aq 75 #[ae (some ⟨k4,0,none⟩),PH.v] dz fun e4 dF=>∃i38:Int,e4=(ak (O U i38))/\
      aR [k0,k1,k3,k5] dz dF/\
      ∃PI:Sl,∃i39 i40 i41 i42 i43 i44 i45 i46:Int,Blk dF k4 133 [PI.v,O U i39,O U i40,O U i41,O U i42,O U i43,O U i44,O U i45,O U i46]/\
      ((decide (i38>0))=true->∀eI:av,ay [] dF eI->Blk eI k4 133 [PI.v,O U i39,O U i40,O U i41,O U i42,O U i43,O U i44,O U i45,O U i46]->∃J2:Nat->Prop,J2 k5/\
       az aq 76 #[ae (some ⟨k4,0,none⟩)] eI fun e5 fQ=>∃s6:asw,∃i47 i48:Int,e5=(ak (ah #[ab s6,O U i47,O U i48]))/\
        aR [k0,k1,k3,k5] eI fQ/\
        ∃N5:Sl,∃i49 i50 i51 i52 i53 i54 i55 i56:Int,Blk fQ k4 133 [N5.v,O U i49,O U i50,O U i51,O U i52,O U i53,O U i54,O U i55,O U i56]/\
        bE J2 eI fQ/\
        ∃PJ:Sl,∃gP:av,((au 22 1 #[.mk 0 (ah #[ab s6,O U i47,O U i48])]).run aq fQ)=(.ok PJ.v gP)/\
        aR [k0,k1,k3,k4,k5] fQ gP/\
        bE J2 fQ gP/\
        ∃KS:Sl,∃fY:av,((Builtin.append_ #[22,22] 22 #[l10.v,PJ.v]).run aq gP)=(.ok KS.v fY)/\
        aR [k0,k1,k3,k4,k5] gP fY/\
        bE J2 gP fY/\
        ∀iv:av,ay [k5] fY iv->Blk iv k4 133 [N5.v,O U i49,O U i50,O U i51,O U i52,O U i53,O U i54,O U i55,O U i56]->∃k8:Nat,k8<k7/\
        J1 k8 KS i28 s3 s4 s5 qo rm wC zC i29 N5 i49 i50 i51 i52 i53 i54 i55 i56 iv)/\
      ((decide (i38>0))=false->Blk dF k5 29 [l10.v,O U i28,ab s3,ab s4,ab s5,qo.v,rm.v,wC.v,zC.v,O U i29]->k0≠k5->k1≠k5->k3≠k5->az aq 77 #[ae (some ⟨k4,0,none⟩),ae (some ⟨k5,1,none⟩)] dF fun e6 ji=>e6=(ak (ai #[]))/\
       aR [k0,k1,k3] dF ji/\
       ∃PK:Sl,∃i57 i58 i59 i60 i61 i62 i63 i64:Int,Blk ji k4 133 [PK.v,O U i57,O U i58,O U i59,O U i60,O U i61,O U i62,O U i63,O U i64]/\
       ∃l22:Sl,∃i65:Int,∃s7 s8 s9:asw,∃l23 l24 l25 l26:Sl,∃i66:Int,Blk ji k5 29 [l22.v,O U i65,ab s7,ab s8,ab s9,l23.v,l24.v,l25.v,l26.v,O U i66]/\
       ∃J3:Sl->Int->asw->asw->asw->Sl->Sl->Sl->Sl->Int->Sl->Int->Int->Int->Int->Int->Int->Int->Int->av->Prop,(∀X9:Sl,∀i67:Int,∀GD CP N6:asw,∀l28 l29 l30 l31:Sl,∀i68:Int,∀l32:Sl,∀i69 i70 i71 i72 i73 i74 i75 i76:Int,∀iw:av,J3 X9 i67 GD CP N6 l28 l29 l30 l31 i68 l32 i69 i70 i71 i72 i73 i74 i75 i76 iw->az aq 78 #[ae (some ⟨k4,0,none⟩)] iw fun e7 j9=>∃b0:Bool,e7=(ak (aj b0))/\
        aR [k0,k1,k3] iw j9/\
        ∃l33:Sl,∃i77 i78 i79 i80 i81 i82 i83 i84:Int,Blk j9 k4 133 [l33.v,O U i77,O U i78,O U i79,O U i80,O U i81,O U i82,O U i83,O U i84]/\
        ∃l34:Sl,∃i85:Int,∃Ug Uh PL:asw,∃l35 l36 l37 l38:Sl,∃i86:Int,Blk j9 k5 29 [l34.v,O U i85,ab Ug,ab Uh,ab PL,l35.v,l36.v,l37.v,l38.v,O U i86]/\
        ((!b0)=true->∀nU:av,ay [] j9 nU->Blk nU k4 133 [l33.v,O U i77,O U i78,O U i79,O U i80,O U i81,O U i82,O U i83,O U i84]->Blk nU k5 29 [l34.v,O U i85,ab Ug,ab Uh,ab PL,l35.v,l36.v,l37.v,l38.v,O U i86]->k0≠k1->k0≠k3->k0≠k4->k0≠k5->k1≠k3->k1≠k4->k1≠k5->k3≠k4->k3≠k5->k4≠k5->∃J4:Nat->Prop,J4 k4/\
         th J4 k0/\
         th J4 k1/\
         ∀pc:av,ay [k1,k0] nU pc->Blk pc k4 133 [l33.v,O U i77,O U i78,O U i79,O U i80,O U i81,O U i82,O U i83,O U i84]->Blk pc k5 29 [l34.v,O U i85,ab Ug,ab Uh,ab PL,l35.v,l36.v,l37.v,l38.v,O U i86]->R (ai #[ah #[Sl.nil.v,O U 0,ab (ao #[]),ab (ao #[]),ab (ao #[]),Sl.nil.v,Sl.nil.v,Sl.nil.v,Sl.nil.v,O U 0],ah #[O U i78,O U i79]]) pc)/\
        ((!b0)=false->∀qg:av,ay [k1,k0] j9 qg->Blk qg k4 133 [l33.v,O U i77,O U i78,O U i79,O U i80,O U i81,O U i82,O U i83,O U i84]->Blk qg k5 29 [l34.v,O U i85,ab Ug,ab Uh,ab PL,l35.v,l36.v,l37.v,l38.v,O U i86]->R (ai #[ah #[l34.v,O U i85,ab Ug,ab Uh,ab PL,l35.v,l36.v,l37.v,l38.v,O U i86],ah #[O U 0,O U 0]]) qg))/\
       ∃J5:Bool->Sl->Int->asw->asw->asw->Sl->Sl->Sl->Sl->Int->Sl->Int->Int->Int->Int->Int->Int->Int->Int->av->Prop,(∀b1:Bool,∀l39:Sl,∀i87:Int,∀RJ Wl s18:asw,∀l40 l41 l42 l43:Sl,∀i88:Int,∀l44:Sl,∀i89 i90 i91 i92 i93 i94 i95 i96:Int,∀mL:av,J5 b1 l39 i87 RJ Wl s18 l40 l41 l42 l43 i88 l44 i89 i90 i91 i92 i93 i94 i95 i96 mL->(b1=true->az aq 79 #[ae (some ⟨k4,0,none⟩)] mL fun e8 oe=>e8=(ak (ai #[]))/\
         aR [k0,k1,k3] mL oe/\
         ∃l45:Sl,∃i97 i98 i99 i100 i101 i102 i103 i104:Int,Blk oe k4 133 [l45.v,O U i97,O U i98,O U i99,O U i100,O U i101,O U i102,O U i103,O U i104]/\
         ∃l46:Sl,∃i105:Int,∃s19 s20 Ya:asw,∃l47 l48 l49 l50:Sl,∃i106:Int,Blk oe k5 29 [l46.v,O U i105,ab s19,ab s20,ab Ya,l47.v,l48.v,l49.v,l50.v,O U i106]/\
         J3 l46 i105 s19 s20 Ya l47 l48 l49 l50 i106 l45 i97 i98 i99 i100 i101 i102 i103 i104 oe)/\
        (b1=false->J3 l39 i87 RJ Wl s18 l40 l41 l42 l43 i88 l44 i89 i90 i91 i92 i93 i94 i95 i96 mL))/\
       ∀pT:av,ay [] ji pT->Blk pT k4 133 [PK.v,O U i57,O U i58,O U i59,O U i60,O U i61,O U i62,O U i63,O U i64]->Blk pT k5 29 [l22.v,O U i65,ab s7,ab s8,ab s9,l23.v,l24.v,l25.v,l26.v,O U i66]->az aq 78 #[ae (some ⟨k4,0,none⟩)] pT fun e9 tI=>∃b2:Bool,e9=(ak (aj b2))/\
        aR [k0,k1,k3] pT tI/\
        ∃l51:Sl,∃i107 i108 i109 i110 i111 i112 i113 i114:Int,Blk tI k4 133 [l51.v,O U i107,O U i108,O U i109,O U i110,O U i111,O U i112,O U i113,O U i114]/\
        ∃l52:Sl,∃i115:Int,∃s22 Yb s24:asw,∃l53 l54 l55 l56:Sl,∃i116:Int,Blk tI k5 29 [l52.v,O U i115,ab s22,ab Yb,ab s24,l53.v,l54.v,l55.v,l56.v,O U i116]/\
        (b2=true->∃p0:Addr,ck l51 i107 4 p0/\
         ∃i117:Int,Cells tI (p0.add 0) [O U i117]/\
         J5 (i117 !=5) l52 i115 s22 Yb s24 l53 l54 l55 l56 i116 l51 i107 i108 i109 i110 i111 i112 i113 i114 tI)/\
        (b2=false->J5 false l52 i115 s22 Yb s24 l53 l54 l55 l56 i116 l51 i107 i108 i109 i110 i111 i112 i113 i114 tI))))
theorem Zp (s:asw) (R:aA) (w:av) (h:Sy s R w):Cr 34 #[ab s] w R:=
 fB (an:=.s .o (.s .o (.s (.s .o (.s (.s .o .o) .o)) (.s .o (.s .o (.s .o (.s .o (.s .o (.s (.j [2,3,5,6,7,22] [.b 7 [.sl,.int .i64,.str,.str,.str,.sl,.sl,.sl,.sl,.int .i64],.b 22 [.sl,.int .i64,.int .i64,.int .i64,.int .i64,.int .i64,.int .i64,.int .i64,.int .i64]] (.s (.s .o (.s .o .o)) .o) .o) (.s .o (.j [2,3,5,6,7,22] [.b 7 [.sl,.int .i64,.str,.str,.str,.sl,.sl,.sl,.sl,.int .i64],.b 22 [.sl,.int .i64,.int .i64,.int .i64,.int .i64,.int .i64,.int .i64,.int .i64,.int .i64]] (.s (.j [2,3,5,6,7,22] [.s 71 .bool,.b 7 [.sl,.int .i64,.str,.str,.str,.sl,.sl,.sl,.sl,.int .i64],.b 22 [.sl,.int .i64,.int .i64,.int .i64,.int .i64,.int .i64,.int .i64,.int .i64,.int .i64]] .o .o) (.s .o .o)) (.s (.s .o (.s (.s .o .o) .o)) (.s .o .o))))))))))))) (args:=[.str s]) h
def Sz (s:asw) (R:aA) (w:av):Prop:=
 ((decide ((s.size:Int)>16384))=true->∀k0:Nat,∀w0:av,w.heap.size<=k0->k0<w0.heap.size->ay [] w w0->R (ai #[Sl.nil.v,ah #[O U 2,O U (-1)]]) w0)/\
 ((decide ((s.size:Int)>16384))=false->∀k1:Nat,∀w1:av,w.heap.size<=k1->k1<w1.heap.size->ay [] w w1->az aq 133 #[] w1 fun e0 w2=>∃l0:Sl,e0=(ak l0.v)/\
  aR [k1] w1 w2/\
  ∀k2:Nat,∀w3:av,w2.heap.size<=k2->k2<w3.heap.size->ay [] w2 w3->Blk w3 k2 198 [ab s,O U 0,l0.v,Sl.nil.v]->az aq 134 #[ae (some ⟨k2,0,none⟩)] w3 fun e1 w4=>e1=(ak (ai #[]))/\
   aR [k1] w3 w4/\
   ∃s0:asw,∃i0:Int,∃l1 l2:Sl,Blk w4 k2 198 [ab s0,O U i0,l1.v,l2.v]/\
   ∃J0:Nat->Int->Int->asw->Int->Sl->Sl->av->Prop,∃k3:Nat,J0 k3 0 0 s0 i0 l1 l2 w4/\
   ∀k4:Nat,∀i1 i2:Int,∀s1:asw,∀i3:Int,∀l3 l4:Sl,∀w5:av,J0 k4 i1 i2 s1 i3 l3 l4 w5->az aq 135 #[ae (some ⟨k2,0,none⟩)] w5 fun e2 w6=>∃b0:Bool,e2=(ak (aj b0))/\
    aR [k1] w5 w6/\
    ∃s2:asw,∃i4:Int,∃l5 l6:Sl,Blk w6 k2 198 [ab s2,O U i4,l5.v,l6.v]/\
    ((!b0)=true->az aq 136 #[ae (some ⟨k2,0,none⟩)] w6 fun e3 w7=>∃i5:Int,e3=(ak (O U i5))/\
     aR [k1] w6 w7/\
     ∃s3:asw,∃i6:Int,∃l7 l8:Sl,Blk w7 k2 198 [ab s3,O U i6,l7.v,l8.v]/\
     ((i5 !=0)=true->∀w8:av,ay [k1] w7 w8->Blk w8 k2 198 [ab s3,O U i6,l7.v,l8.v]->R (ai #[Sl.nil.v,ah #[O U i5,O U i6]]) w8)/\
     ((i5 !=0)=false->az aq 134 #[ae (some ⟨k2,0,none⟩)] w7 fun e4 w9=>e4=(ak (ai #[]))/\
      aR [k1] w7 w9/\
      ∃s4:asw,∃i7:Int,∃l9 l10:Sl,Blk w9 k2 198 [ab s4,O U i7,l9.v,l10.v]/\
      ∃k5:Nat,k5<k4/\
      J0 k5 i1 i2 s4 i7 l9 l10 w9))/\
    ((!b0)=false->az aq 137 #[ae (some ⟨k2,0,none⟩),ah #[O U 5,ab (ao #[]),O U 0,O U 0],O U 0] w6 fun e5 cK=>e5=(ak (ai #[]))/\
     aR [k1] w6 cK/\
     ∃s5:asw,∃i8:Int,∃qo rm:Sl,Blk cK k2 198 [ab s5,O U i8,qo.v,rm.v]/\
     ∀cY:av,ay [k1] cK cY->Blk cY k2 198 [ab s5,O U i8,qo.v,rm.v]->R (ai #[rm.v,ah #[O U 0,O U 0]]) cY))
theorem Zr (s:asw) (R:aA) (w:av) (h:Sz s R w):Cr 72 #[ab s] w R:=
 fB (an:=.s .o (.s (.s .o (.s (.s .o .o) .o)) (.s .o (.s (.s .o (.j [3,4,14] [.b 3 [.int .i64,.int .i64],.b 14 [.str,.int .i64,.sl,.sl]] (.s (.s .o (.s .o .o)) (.s (.s .o (.s .o (.s (.s .o .o) .o))) .o)) .o)) (.s .o (.s .o .o)))))) (args:=[.str s]) h
def SA (R:aA) (w:av):Prop:=
 ∃l0:Sl,∃w0:av,((au 52 16 #[.mk 0 (ab (ao #[97,102,116,101,114])),.mk 1 (ab (ao #[97,108,119,97,121,115])),.mk 2 (ab (ao #[99,104,97,114,116])),.mk 3 (ab (ao #[100,101,101,112])),.mk 4 (ab (ao #[101,109,105,116])),.mk 5 (ab (ao #[101,110,116,101,114])),.mk 6 (ab (ao #[104,105,115,116,111,114,121])),.mk 7 (ab (ao #[105,110])),.mk 8 (ab (ao #[105,110,105,116,105,97,108])),.mk 9 (ab (ao #[108,101,97,118,101])),.mk 10 (ab (ao #[111,110])),.mk 11 (ab (ao #[112,97,114,97,108,108,101,108])),.mk 12 (ab (ao #[114,97,105,115,101])),.mk 13 (ab (ao #[115,101,116])),.mk 14 (ab (ao #[115,116,97,116,101])),.mk 15 (ab (ao #[118,97,114]))]).run aq w)=(.ok l0.v w0)/\
 R l0.v w0
theorem Zs (R:aA) (w:av) (h:SA R w):Cr 133 #[] w R:=
 fB (an:=.s .o (.s .o .o)) (args:=[]) h
def SB (c:Addr) (R:aA) (w:av):Prop:=
 ∃J0:Nat->av->Prop,∃k0:Nat,J0 k0 w/\
 ∀k1:Nat,∀w0:av,J0 k1 w0->az aq 135 #[ae (some c)] w0 fun e0 w1=>∃b0:Bool,e0=(ak (aj b0))/\
  ((!b0)=true->∃s0:asw,Cells w1 (c.add 0) [ab s0]/\
   ∃i0:Int,Cells w1 (c.add 1) [O U i0]/\
   ∃c0:UInt8,(0<=i0/\
    (s0[Int.toNat i0]?)=(some c0))/\
   ∀w2:av,ay [] w1 w2->∃l0:Sl,∃w3:av,((au 68 4 #[.mk 0 (.int .u8 9),.mk 1 (.int .u8 10),.mk 2 (.int .u8 13),.mk 3 (.int .u8 32)]).run aq w2)=(.ok l0.v w3)/\
   az aq 200 #[.int .u8 (UInt8.toNat c0:Int),l0.v] w3 fun e1 w4=>∃b1:Bool,e1=(ak (aj b1))/\
    (b1=true->∃i1:Int,Cells w4 (c.add 1) [O U i1]/\
     ∃k3 k4:Nat,∃z0:List aw,∃k5:Nat,(c.add 1)=⟨k3,k4,none⟩/\
     Blk w4 k3 k5 z0/\
     (k4+1)<=z0.length/\
     ∀w5:av,ay [k3] w4 w5->Blk w5 k3 k5 (bO z0 k4 [O U (ar U (i1+1))])->∃k6:Nat,k6<k1/\
     J0 k6 w5)/\
    (b1=false->az aq 201 #[ae (some c)] w4 fun e2 w6=>∃s2:asw,e2=(ak (ab s2))/\
     az aq 147 #[ab s2,ab (ao #[47,47])] w6 fun e3 w7=>∃b2:Bool,e3=(ak (aj b2))/\
      (b2=true->az aq 201 #[ae (some c)] w7 fun e4 w8=>∃s3:asw,e4=(ak (ab s3))/\
       az aq 202 #[ab s3,ab (ao #[10])] w8 fun e5 w9=>∃s4 s5:asw,∃b3:Bool,e5=(ak (ai #[ab s4,ab s5,aj b3]))/\
        ∃i2:Int,Cells w9 (c.add 1) [O U i2]/\
        ∃k7 k8:Nat,∃z1:List aw,∃k9:Nat,(c.add 1)=⟨k7,k8,none⟩/\
        Blk w9 k7 k9 z1/\
        (k8+1)<=z1.length/\
        ∀cK:av,ay [k7] w9 cK->Blk cK k7 k9 (bO z1 k8 [O U (ar U (i2+(s4.size:Int)))])->∃rn:Nat,rn<k1/\
        J0 rn cK)/\
      (b2=false->R (ai #[]) w7)))/\
  ((!b0)=false->R (ai #[]) w1)
theorem Zu (c:Addr) (R:aA) (w:av) (h:SB c R w):Cr 134 #[ae (some c)] w R:=
 fB (an:=.j [0] [] (.s (.s .o (.s .o .o)) (.s .o (.s .o (.s .o (.s .o (.s (.s .o .o) .o)))))) .o) (args:=[.ad c]) h
def SC (c:Addr) (R:aA) (w:av):Prop:=
 ∃i0:Int,Cells w (c.add 1) [O U i0]/\
 ∃s0:asw,Cells w (c.add 0) [ab s0]/\
 ∀w0:av,ay [] w w0->R (aj (decide (i0>=(s0.size:Int)))) w0
theorem Zv (c:Addr) (R:aA) (w:av) (h:SC c R w):Cr 135 #[ae (some c)] w R:=
 fB (an:=.s .o (.s .o .o)) (args:=[.ad c]) h
def SD (c:Int) (of_:Sl) (R:aA) (w:av):Prop:=
 az aq 249 #[of_.v,.int .u8 c] w fun e0 w0=>∃b0:Bool,e0=(ak (aj b0))/\
  R (aj b0) w0
theorem Zw (c:Int) (of_:Sl) (R:aA) (w:av) (h:SD c of_ R w):Cr 200 #[.int .u8 c,of_.v] w R:=
 fB (an:=.s .o (.s .o .o)) (args:=[.int .u8 c,.sl of_]) h
def SE (s:Sl) (v1:Int) (R:aA) (w:av):Prop:=
 az aq 284 #[s.v,.int .u8 v1] w fun e0 w0=>∃i0:Int,e0=(ak (O U i0))/\
  R (aj (decide (i0>=0))) w0
theorem Zx (s:Sl) (v1:Int) (R:aA) (w:av) (h:SE s v1 R w):Cr 249 #[s.v,.int .u8 v1] w R:=
 fB (an:=.s .o (.s .o .o)) (args:=[.sl s,.int .u8 v1]) h
def SF (s:Sl) (v1:Int) (R:aA) (w:av):Prop:=
 ∃J0:Nat->Int->av->Prop,∃k0:Nat,J0 k0 0 w/\
 ∀k1:Nat,∀i0:Int,∀w0:av,J0 k1 i0 w0->((decide (i0<(s.n:Int)))=true->∃p0:Addr,ck s i0 1 p0/\
  ∃i1:Int,Cells w0 p0 [.int .u8 i1]/\
  ((v1==i1)=true->R (O U i0) w0)/\
  ((v1==i1)=false->∃k2:Nat,k2<k1/\
  J0 k2 (ar U (i0+1)) w0))/\
 ((decide (i0<(s.n:Int)))=false->R (O U (-1)) w0)
theorem Zy (s:Sl) (v1:Int) (R:aA) (w:av) (h:SF s v1 R w):Cr 284 #[s.v,.int .u8 v1] w R:=
 fB (an:=.s .o (.s (.s .o (.j [0,1,7] [.s 8 (.int .i64)] (.s .o (.s (.s .o .o) (.s (.s .o (.s .o (.s (.s .o .o) .o))) .o))) .o)) (.s .o .o))) (args:=[.sl s,.int .u8 v1]) h
def SG (c:Addr) (R:aA) (w:av):Prop:=
 ∃s0:asw,Cells w (c.add 0) [ab s0]/\
 ∃i0:Int,Cells w (c.add 1) [O U i0]/\
 ∃k0:Nat,(i0=(k0:Int)/\
  k0<=s0.size)/\
 ∀w0:av,ay [] w w0->R (ab (s0.extract k0 s0.size)) w0
theorem Zz (c:Addr) (R:aA) (w:av) (h:SG c R w):Cr 201 #[ae (some c)] w R:=
 fB (an:=.s .o (.s .o .o)) (args:=[.ad c]) h
def SH (s jg:asw) (R:aA) (w:av):Prop:=
 az aq 214 #[ab s,ab jg] w fun e0 w0=>∃b0:Bool,e0=(ak (aj b0))/\
  R (aj b0) w0
theorem ZA (s jg:asw) (R:aA) (w:av) (h:SH s jg R w):Cr 147 #[ab s,ab jg] w R:=
 fB (an:=.s .o (.s .o .o)) (args:=[.str s,.str jg]) h
def ZB (s jg:asw) (R:aA) (w:av):Prop:=
 ∃k0:Nat,((decide ((s.size:Int)>=(jg.size:Int)))=true->(jg.size:Int)=(k0:Int)/\
  k0<=s.size)/\
 R (aj ((decide ((s.size:Int)>=(jg.size:Int)))&&(((s.extract 0 k0).toList)==jg.toList))) w
theorem agd (s jg:asw) (R:aA) (w:av) (h:ZB s jg R w):Cr 214 #[ab s,ab jg] w R:=
 fB (an:=.s .o (.s .o .o)) (args:=[.str s,.str jg]) h
def SI (s sep:asw) (R:aA) (w:av):Prop:=
 az aq 250 #[ab s,ab sep] w fun e0 w0=>∃s0 s1:asw,∃b0:Bool,e0=(ak (ai #[ab s0,ab s1,aj b0]))/\
  R (ai #[ab s0,ab s1,aj b0]) w0
theorem ZC (s sep:asw) (R:aA) (w:av) (h:SI s sep R w):Cr 202 #[ab s,ab sep] w R:=
 fB (an:=.s .o (.s .o .o)) (args:=[.str s,.str sep]) h
def ZD (s sep:asw) (R:aA) (w:av):Prop:=
 az aq 228 #[ab s,ab sep] w fun e0 w0=>∃i0:Int,e0=(ak (O U i0))/\
  ((decide (i0>=0))=true->∃k0:Nat,(i0=(k0:Int)/\
    k0<=s.size)/\
   ∃k1:Nat,((ar U (i0+(sep.size:Int)))=(k1:Int)/\
    k1<=s.size)/\
   ∀w1:av,ay [] w0 w1->R (ai #[ab (s.extract 0 k0),ab (s.extract k1 s.size),aj true]) w1)/\
  ((decide (i0>=0))=false->R (ai #[ab s,ab (ao #[]),aj false]) w0)
theorem age (s sep:asw) (R:aA) (w:av) (h:ZD s sep R w):Cr 250 #[ab s,ab sep] w R:=
 fB (an:=.s .o (.s (.s .o (.s .o (.s (.s .o .o) .o))) (.s .o .o))) (args:=[.str s,.str sep]) h
def SJ (c:Addr) (R:aA) (w:av):Prop:=
 ∃s0:asw,Cells w ((c.add 0).add 0) [ab s0]/\
 ∃i0:Int,Cells w ((c.add 0).add 1) [O U i0]/\
 ∃c0:UInt8,(0<=i0/\
  (s0[Int.toNat i0]?)=(some c0))/\
 ∀w0:av,ay [] w w0->az aq 152 #[.int .u8 (UInt8.toNat c0:Int)] w0 fun e0 w1=>∃b0:Bool,e0=(ak (aj b0))/\
  (b0=true->az aq 203 #[ae (some c)] w1 fun e1 w2=>∃i1:Int,e1=(ak (O U i1))/\
   R (O U i1) w2)/\
  (b0=false->az aq 204 #[.int .u8 (UInt8.toNat c0:Int)] w1 fun e2 w3=>∃b1:Bool,e2=(ak (aj b1))/\
   (b1=true->az aq 205 #[ae (some c)] w3 fun e3 w4=>∃i2:Int,e3=(ak (O U i2))/\
    R (O U i2) w4)/\
   (b1=false->az aq 206 #[ae (some c)] w3 fun e4 w5=>∃i3:Int,e4=(ak (O U i3))/\
    R (O U i3) w5))
theorem ZE (c:Addr) (R:aA) (w:av) (h:SJ c R w):Cr 136 #[ae (some c)] w R:=
 fB (an:=.s .o (.s (.s .o (.s .o (.s (.s .o .o) (.s .o (.s (.s .o .o) .o))))) (.s .o .o))) (args:=[.ad c]) h
def SK (c:Int) (R:aA) (w:av):Prop:=
 R (aj (((decide (97<=(bits .or .u8 c 32)))&&(decide ((bits .or .u8 c 32)<=122)))||(c==95))) w
theorem ZF (c:Int) (R:aA) (w:av) (h:SK c R w):Cr 152 #[.int .u8 c] w R:=
 fB (an:=.s .o (.s .o .o)) (args:=[.int .u8 c]) h
def SL (c:Addr) (R:aA) (w:av):Prop:=
 az aq 153 #[ae (some (c.add 0))] w fun e0 w0=>∃s0:asw,e0=(ak (ab s0))/\
  ((decide ((s0.size:Int)>24))=true->R (O U 2) w0)/\
  ((decide ((s0.size:Int)>24))=false->∃J0:Int->av->Prop,(∀i0:Int,∀w1:av,J0 i0 w1->az aq 251 #[ab s0] w1 fun e1 w2=>∃s1:asw,e1=(ak (ab s1))/\
   az aq 137 #[ae (some c),ah #[O U i0,ab s1,O U 0,O U 0],O U (s0.size:Int)] w2 fun e2 w3=>e2=(ak (ai #[]))/\
    R (O U 0) w3)/\
  ∃l0:Sl,Cells w0 (c.add 2) [l0.v]/\
  az aq 154 #[l0.v,ab s0] w0 fun e3 w4=>∃b0:Bool,e3=(ak (aj b0))/\
   (b0=true->J0 2 w4)/\
   (b0=false->J0 1 w4))
theorem ZG (c:Addr) (R:aA) (w:av) (h:SL c R w):Cr 203 #[ae (some c)] w R:=
 fB (an:=.s .o (.s .o (.s (.s .o (.s (.s .o .o) .o)) (.s .o (.j [0,3] [.s 4 (.int .i64)] (.s .o (.s .o .o)) (.s .o (.s .o .o))))))) (args:=[.ad c]) h
def SM (c:Addr) (R:aA) (w:av):Prop:=
 az aq 201 #[ae (some c)] w fun e0 w0=>∃s0:asw,e0=(ak (ab s0))/\
  ∃J0:Nat->Int->av->Prop,∃k0:Nat,J0 k0 0 w0/\
  ∀k1:Nat,∀i0:Int,∀w1:av,J0 k1 i0 w1->∃J1:Bool->av->Prop,(∀b0:Bool,∀w2:av,J1 b0 w2->(b0=true->∃k2:Nat,k2<k1/\
    J0 k2 (ar U (i0+1)) w2)/\
   (b0=false->∃k3:Nat,(i0=(k3:Int)/\
    k3<=s0.size)/\
   R (ab (s0.extract 0 k3)) w2))/\
  ((decide (i0<(s0.size:Int)))=true->∃c0:UInt8,(0<=i0/\
    (s0[Int.toNat i0]?)=(some c0))/\
   az aq 152 #[.int .u8 (UInt8.toNat c0:Int)] w1 fun e1 w3=>∃b1:Bool,e1=(ak (aj b1))/\
    (b1=true->J1 true w3)/\
    (b1=false->∃c1:UInt8,(0<=i0/\
     (s0[Int.toNat i0]?)=(some c1))/\
    az aq 204 #[.int .u8 (UInt8.toNat c1:Int)] w3 fun e2 w4=>∃b2:Bool,e2=(ak (aj b2))/\
     J1 b2 w4))/\
  ((decide (i0<(s0.size:Int)))=false->J1 false w1)
theorem ZH (c:Addr) (R:aA) (w:av) (h:SM c R w):Cr 153 #[ae (some c)] w R:=
 fB (an:=.s .o (.s .o (.s .o (.s (.j [3] [.s 4 (.int .i64)] (.s (.s (.j [3,4] [.s 22 .bool] .o .o) (.s .o .o)) .o) .o) (.s .o .o))))) (args:=[.ad c]) h
def SN (c:Int) (R:aA) (w:av):Prop:=
 R (aj ((decide (48<=c))&&(decide (c<=57)))) w
theorem ZI (c:Int) (R:aA) (w:av) (h:SN c R w):Cr 204 #[.int .u8 c] w R:=
 fB (an:=.s .o (.s .o .o)) (args:=[.int .u8 c]) h
def SO (s:Sl) (v1:asw) (R:aA) (w:av):Prop:=
 az aq 207 #[s.v,ab v1] w fun e0 w0=>∃i0:Int,e0=(ak (O U i0))/\
  R (aj (decide (i0>=0))) w0
theorem ZJ (s:Sl) (v1:asw) (R:aA) (w:av) (h:SO s v1 R w):Cr 154 #[s.v,ab v1] w R:=
 fB (an:=.s .o (.s .o .o)) (args:=[.sl s,.str v1]) h
def LX (s:Sl) (v1:asw) (R:aA) (w:av):Prop:=
 ∃J0:Nat->Int->av->Prop,∃k0:Nat,J0 k0 0 w/\
 ∀k1:Nat,∀i0:Int,∀w0:av,J0 k1 i0 w0->((decide (i0<(s.n:Int)))=true->∃p0:Addr,ck s i0 1 p0/\
  ∃s0:asw,Cells w0 p0 [ab s0]/\
  ((v1.toList==s0.toList)=true->R (O U i0) w0)/\
  ((v1.toList==s0.toList)=false->∃k2:Nat,k2<k1/\
  J0 k2 (ar U (i0+1)) w0))/\
 ((decide (i0<(s.n:Int)))=false->R (O U (-1)) w0)
theorem SP (s:Sl) (v1:asw) (R:aA) (w:av) (h:LX s v1 R w):Cr 207 #[s.v,ab v1] w R:=
 fB (an:=.s .o (.s (.s .o (.j [0,1,7] [.s 8 (.int .i64)] (.s .o (.s (.s .o .o) (.s (.s .o (.s .o (.s (.s .o .o) .o))) .o))) .o)) (.s .o .o))) (args:=[.sl s,.str v1]) h
def LY (s:asw) (R:aA) (w:av):Prop:=
 az aq 285 #[ab s] w fun e0 w0=>∃s0:asw,e0=(ak (ab s0))/\
  R (ab s0) w0
theorem SQ (s:asw) (R:aA) (w:av) (h:LY s R w):Cr 251 #[ab s] w R:=
 fB (an:=.s .o (.s .o .o)) (args:=[.str s]) h
def SR (c:Addr) (t:Int) (t1:asw) (t2 t3 n_:Int) (R:aA) (w:av):Prop:=
 ∀k0:Nat,∀w0:av,w.heap.size<=k0->k0<w0.heap.size->ay [] w w0->∃i0:Int,Cells w0 ((c.add 0).add 1) [O U i0]/\
 ∀w1:av,ay [k0] w0 w1->∃J0:Nat->Prop,J0 ((c.add 3).block)/\
 ∃l0:Sl,Cells w1 (c.add 3) [l0.v]/\
 ∃l1:Sl,∃w2:av,((au 124 1 #[.mk 0 (ah #[O U t,ab t1,O U t2,O U i0])]).run aq w1)=(.ok l1.v w2)/\
 aR [k0] w1 w2/\
 bE J0 w1 w2/\
 ∃l2:Sl,∃w3:av,((Builtin.append_ #[124,124] 124 #[l0.v,l1.v]).run aq w2)=(.ok l2.v w3)/\
 aR [k0] w2 w3/\
 bE J0 w2 w3/\
 ∃k1 k2:Nat,∃z0:List aw,∃k3:Nat,(c.add 3)=⟨k1,k2,none⟩/\
 Blk w3 k1 k3 z0/\
 (k2+1)<=z0.length/\
 k0≠k1/\
 ∀w4:av,ay [k1] w3 w4->Blk w4 k1 k3 (bO z0 k2 [l2.v])->∃i1:Int,Cells w4 ((c.add 0).add 1) [O U i1]/\
 ∃k4 k5:Nat,∃z1:List aw,∃k6:Nat,((c.add 0).add 1)=⟨k4,k5,none⟩/\
 Blk w4 k4 k6 z1/\
 (k5+1)<=z1.length/\
 k0≠k4/\
 ∀w5:av,ay [k4] w4 w5->Blk w5 k4 k6 (bO z1 k5 [O U (ar U (i1+n_))])->R (ai #[]) w5
theorem ZK (c:Addr) (t:Int) (t1:asw) (t2 t3 n_:Int) (R:aA) (w:av) (h:SR c t t1 t2 t3 n_ R w):Cr 137 #[ae (some c),ah #[O U t,ab t1,O U t2,O U t3],O U n_] w R:=
 fB (an:=.s .o (.s .o (.s .o .o))) (args:=[.ad c,.agg (jU [.int .i64 t,.str t1,.int .i64 t2,.int .i64 t3]),.int .i64 n_]) h
def SS (c:Addr) (R:aA) (w:av):Prop:=
 az aq 201 #[ae (some (c.add 0))] w fun e0 w0=>∃s0:asw,e0=(ak (ab s0))/\
  az aq 252 #[ab s0] w0 fun e1 w1=>∃i0 i1 i2:Int,e1=(ak (ai #[O U i0,O U i1,O U i2]))/\
   ((i2 !=0)=true->R (O U i2) w1)/\
   ((i2 !=0)=false->az aq 153 #[ae (some (c.add 0))] w1 fun e2 w2=>∃s1:asw,e2=(ak (ab s1))/\
    ((decide ((s1.size:Int)>i1))=true->R (O U 4) w2)/\
    ((decide ((s1.size:Int)>i1))=false->az aq 137 #[ae (some c),ah #[O U 3,ab (ao #[]),O U i0,O U 0],O U i1] w2 fun e3 w3=>e3=(ak (ai #[]))/\
     R (O U 0) w3))
theorem ZL (c:Addr) (R:aA) (w:av) (h:SS c R w):Cr 205 #[ae (some c)] w R:=
 fB (an:=.s .o (.s .o (.s (.s .o (.s (.s .o .o) .o)) (.s (.s .o (.s (.s .o .o) .o)) (.s .o (.s .o .o)))))) (args:=[.ad c]) h
def v0v (s:asw) (R:aA) (w:av):Prop:=
 ∃J0:Nat->Int->av->Prop,∃k0:Nat,J0 k0 0 w/\
 ∀k1:Nat,∀i0:Int,∀w0:av,J0 k1 i0 w0->∃J1:Bool->av->Prop,(∀b0:Bool,∀w1:av,J1 b0 w1->(b0=true->∃k2:Nat,k2<k1/\
   J0 k2 (ar U (i0+1)) w1)/\
  (b0=false->((s.toList==((ao #[]).toList))=true->R (ai #[O U 0,O U 0,O U 3]) w1)/\
  ((s.toList==((ao #[]).toList))=false->∃J2:Bool->av->Prop,(∀b1:Bool,∀w2:av,J2 b1 w2->(b1=true->R (ai #[O U 0,O U 0,O U 4]) w2)/\
   (b1=false->∃k3:Nat,(i0=(k3:Int)/\
    k3<=s.size)/\
   az aq 287 #[ab (s.extract 0 k3),O U 10,O U 64] w2 fun e0 w3=>∃i1:Int,∃v0:OV,e0=(ak (ai #[O U i1,v0.v]))/\
    Y4 v0.v/\
    ((!(Y3 v0.v))=true->R (ai #[O U 0,O U 0,O U 20]) w3)/\
    ((!(Y3 v0.v))=false->R (ai #[O U i1,O U i0,O U 0]) w3)))/\
  ((i0==0)=true->J2 (i0==0) w1)/\
  ((i0==0)=false->∃c0:UInt8,((decide (i0>1))=true->(0:Int)<=0/\
   s[0]? =(some c0))/\
  J2 ((decide (i0>1))&&((UInt8.toNat c0:Int)==48)) w1))))/\
 ((decide (i0<(s.size:Int)))=true->∃c1:UInt8,(0<=i0/\
   (s[Int.toNat i0]?)=(some c1))/\
  az aq 286 #[.int .u8 (UInt8.toNat c1:Int)] w0 fun e1 w4=>∃b2:Bool,e1=(ak (aj b2))/\
   J1 b2 w4)/\
 ((decide (i0<(s.size:Int)))=false->J1 false w0)
theorem v0w (s:asw) (R:aA) (w:av) (h:v0v s R w):Cr 252 #[ab s] w R:=
 fB (an:=.s .o (.s .o (.s (.j [0] [.s 5 (.int .i64)] (.s (.s (.j [0,5] [.s 17 .bool] .o .o) (.s .o .o)) .o) .o) (.s (.s .o (.s (.s .o .o) (.j [0,5] [.s 23 .bool] (.s .o (.s .o .o)) (.s (.s .o .o) .o)))) (.s .o (.s (.s .o (.s (.s .o .o) .o)) (.s .o .o))))))) (args:=[.str s]) h
def v2v (c:Int) (R:aA) (w:av):Prop:=
 R (aj (decide ((ar .u8 (c-48))<10))) w
theorem v2w (c:Int) (R:aA) (w:av) (h:v2v c R w):Cr 286 #[.int .u8 c] w R:=
 fB (an:=.s .o (.s .o .o)) (args:=[.int .u8 c]) h
def SU (c:Addr) (R:aA) (w:av):Prop:=
 az aq 201 #[ae (some (c.add 0))] w fun e0 w0=>∃s0:asw,e0=(ak (ab s0))/\
  ∃J0:Int->av->Prop,(∀i0:Int,∀w1:av,J0 i0 w1->∃J1:Int->av->Prop,(∀i1:Int,∀w2:av,J1 i1 w2->((i1==0)=true->R (O U 4) w2)/\
    ((i1==0)=false->∃k0:Nat,(i1=(k0:Int)/\
     k0<=s0.size)/\
    az aq 251 #[ab (s0.extract 0 k0)] w2 fun e1 w3=>∃s1:asw,e1=(ak (ab s1))/\
     az aq 137 #[ae (some c),ah #[O U 4,ab s1,O U 0,O U 0],O U i1] w3 fun e2 w4=>e2=(ak (ai #[]))/\
      R (O U 0) w4))/\
   ∃J2:Bool->av->Prop,(∀b0:Bool,∀w5:av,J2 b0 w5->(b0=true->J1 2 w5)/\
    (b0=false->J1 i0 w5))/\
   ((decide ((s0.size:Int)>1))=true->∃c0:UInt8,((0:Int)<=1/\
     s0[1]? =(some c0))/\
    (((UInt8.toNat c0:Int)==61)=true->∃c1:UInt8,((0:Int)<=0/\
      s0[0]? =(some c1))/\
     ∀w6:av,ay [] w1 w6->∃l0:Sl,∃w7:av,((au 68 4 #[.mk 0 (.int .u8 60),.mk 1 (.int .u8 62),.mk 2 (.int .u8 61),.mk 3 (.int .u8 33)]).run aq w6)=(.ok l0.v w7)/\
     az aq 200 #[.int .u8 (UInt8.toNat c1:Int),l0.v] w7 fun e3 w8=>∃b1:Bool,e3=(ak (aj b1))/\
      (b1=true->J2 true w8)/\
      (b1=false->∃c2:UInt8,((0:Int)<=1/\
       s0[1]? =(some c2))/\
      ∃c3:UInt8,((0:Int)<=0/\
       s0[0]? =(some c3))/\
      (((UInt8.toNat c2:Int)==(UInt8.toNat c3:Int))=true->∃c4:UInt8,((0:Int)<=0/\
        s0[0]? =(some c4))/\
       ∃l1:Sl,∃w9:av,((au 68 2 #[.mk 0 (.int .u8 38),.mk 1 (.int .u8 124)]).run aq w8)=(.ok l1.v w9)/\
       az aq 200 #[.int .u8 (UInt8.toNat c4:Int),l1.v] w9 fun e4 cK=>∃b2:Bool,e4=(ak (aj b2))/\
        (b2=true->J2 true cK)/\
        (b2=false->2<=s0.size/\
        J2 (((s0.extract 0 2).toList)==((ao #[45,62]).toList)) cK))/\
      (((UInt8.toNat c2:Int)==(UInt8.toNat c3:Int))=false->2<=s0.size/\
      J2 (((s0.extract 0 2).toList)==((ao #[45,62]).toList)) w8)))/\
    (((UInt8.toNat c0:Int)==61)=false->∃c5:UInt8,((0:Int)<=1/\
     s0[1]? =(some c5))/\
    ∃c6:UInt8,((0:Int)<=0/\
     s0[0]? =(some c6))/\
    (((UInt8.toNat c5:Int)==(UInt8.toNat c6:Int))=true->∃c7:UInt8,((0:Int)<=0/\
      s0[0]? =(some c7))/\
     ∀cY:av,ay [] w1 cY->∃l2:Sl,∃dz:av,((au 68 2 #[.mk 0 (.int .u8 38),.mk 1 (.int .u8 124)]).run aq cY)=(.ok l2.v dz)/\
     az aq 200 #[.int .u8 (UInt8.toNat c7:Int),l2.v] dz fun e5 dF=>∃b3:Bool,e5=(ak (aj b3))/\
      (b3=true->J2 true dF)/\
      (b3=false->2<=s0.size/\
      J2 (((s0.extract 0 2).toList)==((ao #[45,62]).toList)) dF))/\
    (((UInt8.toNat c5:Int)==(UInt8.toNat c6:Int))=false->2<=s0.size/\
    ∀eI:av,ay [] w1 eI->J2 (((s0.extract 0 2).toList)==((ao #[45,62]).toList)) eI)))/\
   ((decide ((s0.size:Int)>1))=false->∀fQ:av,ay [] w1 fQ->J2 false fQ))/\
  ∃c8:UInt8,((0:Int)<=0/\
   s0[0]? =(some c8))/\
  ∃l3:Sl,∃gP:av,((au 68 17 #[.mk 0 (.int .u8 123),.mk 1 (.int .u8 125),.mk 2 (.int .u8 40),.mk 3 (.int .u8 41),.mk 4 (.int .u8 91),.mk 5 (.int .u8 93),.mk 6 (.int .u8 59),.mk 7 (.int .u8 44),.mk 8 (.int .u8 61),.mk 9 (.int .u8 43),.mk 10 (.int .u8 45),.mk 11 (.int .u8 42),.mk 12 (.int .u8 47),.mk 13 (.int .u8 37),.mk 14 (.int .u8 60),.mk 15 (.int .u8 62),.mk 16 (.int .u8 33)]).run aq w0)=(.ok l3.v gP)/\
  ∃l4:Sl,∃fY:av,((convert 68 68 l3.v).run aq gP)=(.ok l4.v fY)/\
  az aq 200 #[.int .u8 (UInt8.toNat c8:Int),l4.v] fY fun e6 iv=>∃b4:Bool,e6=(ak (aj b4))/\
   (b4=true->J0 1 iv)/\
   (b4=false->J0 0 iv)
theorem ZM (c:Addr) (R:aA) (w:av) (h:SU c R w):Cr 206 #[ae (some c)] w R:=
 fB (an:=.s .o (.s .o (.s .o (.j [0,3] [.s 4 (.int .i64)] (.s .o (.s .o .o)) (.j [0,3] [.s 4 (.int .i64)] (.s (.j [0,3,4] [.s 45 .bool] .o .o) (.s .o .o)) (.s (.s .o (.s (.s .o .o) .o)) (.s .o (.s .o .o)))))))) (args:=[.ad c]) h
def SW (c:Addr) (texts:Sl) (R:aA) (w:av):Prop:=
 ∃J0:Nat->Int->av->Prop,∃k0:Nat,J0 k0 0 w/\
 ∀k1:Nat,∀i0:Int,∀w0:av,J0 k1 i0 w0->((decide (i0<(texts.n:Int)))=true->∃J1:av->Prop,(∀w1:av,J1 w1->∃k2:Nat,k2<k1/\
   J0 k2 (ar U (i0+1)) w1)/\
  ∃p0:Addr,ck texts i0 1 p0/\
  ∃s0:asw,Cells w0 p0 [ab s0]/\
  ∃l0:Sl,∃w2:av,((au 52 1 #[.mk 0 (ab s0)]).run aq w0)=(.ok l0.v w2)/\
  az aq 75 #[ae (some c),l0.v] w2 fun e0 w3=>∃i1:Int,e0=(ak (O U i1))/\
   ((i1==0)=true->az aq 79 #[ae (some c)] w3 fun e1 w4=>e1=(ak (ai #[]))/\
    J1 w4)/\
   ((i1==0)=false->J1 w3))/\
 ((decide (i0<(texts.n:Int)))=false->R (ai #[]) w0)
theorem ZN (c:Addr) (texts:Sl) (R:aA) (w:av) (h:SW c texts R w):Cr 73 #[ae (some c),texts.v] w R:=
 fB (an:=.s .o (.j [0,6,7] [.s 8 (.int .i64)] (.s .o (.s (.s .o .o) (.j [0,6,7,8] [] (.s .o (.s .o (.s .o .o))) .o))) .o)) (args:=[.ad c,.sl texts]) h
def SX (c:Addr) (texts:Sl) (R:aA) (w:av):Prop:=
 az aq 141 #[ae (some c),texts.v] w fun e0 w0=>∃i0:Int,e0=(ak (O U i0))/\
  ∃J0:av->Prop,(∀w1:av,J0 w1->R (O U i0) w1)/\
  ((decide (i0>0))=true->∃i1:Int,Cells w0 (c.add 1) [O U i1]/\
   ∃k0 k1:Nat,∃z0:List aw,∃k2:Nat,(c.add 1)=⟨k0,k1,none⟩/\
   Blk w0 k0 k2 z0/\
   (k1+1)<=z0.length/\
   ∀w2:av,ay [k0] w0 w2->Blk w2 k0 k2 (bO z0 k1 [O U (ar U (i1+1))])->J0 w2)/\
  ((decide (i0>0))=false->J0 w0)
theorem ZO (c:Addr) (texts:Sl) (R:aA) (w:av) (h:SX c texts R w):Cr 75 #[ae (some c),texts.v] w R:=
 fB (an:=.s .o (.s .o (.j [5] [] (.s .o (.s .o .o)) (.s .o .o)))) (args:=[.ad c,.sl texts]) h
def SY (c:Addr) (texts:Sl) (R:aA) (w:av):Prop:=
 ∀w0:av,ay [] w w0->∃J0:Nat->Prop,J0 ((c.add 0).block)/\
 ∃l0:Sl,Cells w0 (c.add 0) [l0.v]/\
 J0 ((c.add 1).block)/\
 ∃i0:Int,Cells w0 (c.add 1) [O U i0]/\
 ∃p0:Addr,ck l0 i0 4 p0/\
 J0 p0.block/\
 ∃i1:Int,∃s0:asw,∃i2 i3:Int,Cells w0 p0 [O U i1,ab s0,O U i2,O U i3]/\
 ∀k0:Nat,∀w1:av,w0.heap.size<=k0->k0<w1.heap.size->ay [] w0 w1->az aq 78 #[ae (some c)] w1 fun e0 w2=>∃b0:Bool,e0=(ak (aj b0))/\
  aR [k0] w1 w2/\
  (((!b0)||((i1 !=2)&&(i1 !=4)))=true->R (O U 0) w2)/\
  (((!b0)||((i1 !=2)&&(i1 !=4)))=false->az aq 207 #[texts.v,ab s0] w2 fun e1 w3=>∃i4:Int,e1=(ak (O U i4))/\
   aR [k0] w2 w3/\
   R (O U (ar U (i4+1))) w3)
theorem ZP (c:Addr) (texts:Sl) (R:aA) (w:av) (h:SY c texts R w):Cr 141 #[ae (some c),texts.v] w R:=
 fB (an:=.s .o (.s .o (.s (.s .o (.s (.s .o .o) .o)) (.s .o .o)))) (args:=[.ad c,.sl texts]) h
def SZ (c:Addr) (R:aA) (w:av):Prop:=
 ∃i0:Int,Cells w ((c.add 2).add 0) [O U i0]/\
 R (aj (i0==0)) w
theorem ZQ (c:Addr) (R:aA) (w:av) (h:SZ c R w):Cr 78 #[ae (some c)] w R:=
 fB (an:=.s .o (.s .o .o)) (args:=[.ad c]) h
def S0 (c:Addr) (R:aA) (w:av):Prop:=
 ∃J0:av->Prop,(∀w0:av,J0 w0->az aq 139 #[ae (some c),O U 4] w0 fun e0 w1=>e0=(ak (ai #[]))/\
  R (ai #[]) w1)/\
 ∃l0:Sl,Cells w (c.add 0) [l0.v]/\
 ∃i0:Int,Cells w (c.add 1) [O U i0]/\
 ∃p0:Addr,ck l0 i0 4 p0/\
 ∃i1:Int,Cells w (p0.add 0) [O U i1]/\
 ((i1==5)=true->∀w2:av,ay [] w w2->az aq 139 #[ae (some c),O U 3] w2 fun e1 w3=>e1=(ak (ai #[]))/\
  J0 w3)/\
 ((i1==5)=false->∀w4:av,ay [] w w4->J0 w4)
theorem ZR (c:Addr) (R:aA) (w:av) (h:S0 c R w):Cr 79 #[ae (some c)] w R:=
 fB (an:=.j [0] [] (.s .o (.s .o .o)) .o) (args:=[.ad c]) h
def S1 (c:Addr) (err:Int) (R:aA) (w:av):Prop:=
 az aq 78 #[ae (some c)] w fun e0 w0=>∃b0:Bool,e0=(ak (aj b0))/\
  (b0=true->∀w1:av,ay [] w0 w1->∃l0:Sl,Cells w1 (c.add 0) [l0.v]/\
   ∃i0:Int,Cells w1 (c.add 1) [O U i0]/\
   ∃p0:Addr,ck l0 i0 4 p0/\
   ∃i1:Int,Cells w1 (p0.add 3) [O U i1]/\
   ∃k0 k1:Nat,∃z0:List aw,∃k2:Nat,(c.add 2)=⟨k0,k1,none⟩/\
   Blk w1 k0 k2 z0/\
   (k1+2)<=z0.length/\
   ∀w2:av,ay [k0] w1 w2->Blk w2 k0 k2 (bO z0 k1 [O U err,O U i1])->R (ai #[]) w2)/\
  (b0=false->R (ai #[]) w0)
theorem ZS (c:Addr) (err:Int) (R:aA) (w:av) (h:S1 c err R w):Cr 139 #[ae (some c),O U err] w R:=
 fB (an:=.s .o (.s .o .o)) (args:=[.ad c,.int .i64 err]) h
def S2 (r:Addr) (kind:Int) (R:aA) (w:av):Prop:=
 ∀k0 k1:Nat,∀w0:av,w.heap.size<=k0->k0<w0.heap.size->w.heap.size<=k1->k1<w0.heap.size->ay [] w w0->∃J0:av->Prop,(∀w1:av,J0 w1->az aq 140 #[ae (some (r.add 0)),O U 1] w1 fun e0 w2=>∃i0:Int,∃s0:asw,∃i1 i2:Int,e0=(ak (ah #[O U i0,ab s0,O U i1,O U i2]))/\
  aR [k0,k1] w1 w2/\
  ∀k2:Nat,∀w3:av,w2.heap.size<=k2->k2<w3.heap.size->ay [] w2 w3->k0≠k1->k0≠k2->k1≠k2->∃J1:Nat->Prop,J1 k2/\
  th J1 k1/\
  th J1 k1/\
  ∀w4:av,ay [k0,k1] w3 w4->R (ah #[O U kind,ab s0,ab (ao #[]),ab (ao #[]),Sl.nil.v,Sl.nil.v,Sl.nil.v,Sl.nil.v,O U i2]) w4)/\
 ∃l0:Sl,Cells w0 ((r.add 0).add 0) [l0.v]/\
 ∃i3:Int,Cells w0 ((r.add 0).add 1) [O U i3]/\
 ∃p0:Addr,ck l0 i3 4 p0/\
 ∃i4:Int,Cells w0 (p0.add 0) [O U i4]/\
 ((i4==1)=true->∀w5:av,ay [] w0 w5->az aq 138 #[ae (some r),ae (some ((r.add 4).add 1)),O U 2] w5 fun e1 w6=>e1=(ak (ai #[]))/\
  aR [k0,k1] w5 w6/\
  ∃i5:Int,Cells w6 ((r.add 4).add 2) [O U i5]/\
  ((i5==0)=true->az aq 139 #[ae (some (r.add 0)),O U 21] w6 fun e2 w7=>e2=(ak (ai #[]))/\
   aR [k0,k1] w6 w7/\
   J0 w7)/\
  ((i5==0)=false->J0 w6))/\
 ((i4==1)=false->∀w8:av,ay [] w0 w8->J0 w8)
theorem ZT (r:Addr) (kind:Int) (R:aA) (w:av) (h:S2 r kind R w):Cr 74 #[ae (some r),O U kind] w R:=
 fB (an:=.s .o (.s .o (.j [0,4,5] [] (.s .o (.s (.s .o (.s .o (.s .o .o))) .o)) (.s .o (.s .o (.s .o .o)))))) (args:=[.ad r,.int .i64 kind]) h
def S3 (r:Addr) (yW:Option Addr) (err:Int) (R:aA) (w:av):Prop:=
 ∃J0:av->Prop,(∀w0:av,J0 w0->∃p0:Addr,yW=(some p0)/\
  ∃i0:Int,Cells w0 p0 [O U i0]/\
  ∃p1:Addr,yW=(some p1)/\
  ∃k0 k1:Nat,∃z0:List aw,∃k2:Nat,p1=⟨k0,k1,none⟩/\
  Blk w0 k0 k2 z0/\
  (k1+1)<=z0.length/\
  ∀w1:av,ay [k0] w0 w1->Blk w1 k0 k2 (bO z0 k1 [O U (ar U (i0-1))])->R (ai #[]) w1)/\
 ∃p2:Addr,yW=(some p2)/\
 ∃i1:Int,Cells w p2 [O U i1]/\
 ((i1==0)=true->az aq 139 #[ae (some (r.add 0)),O U err] w fun e0 w2=>e0=(ak (ai #[]))/\
  J0 w2)/\
 ((i1==0)=false->J0 w)
theorem ZU (r:Addr) (yW:Option Addr) (err:Int) (R:aA) (w:av) (h:S3 r yW err R w):Cr 138 #[ae (some r),ae yW,O U err] w R:=
 fB (an:=.j [1] [] (.s .o (.s .o .o)) .o) (args:=[.ad r,.ptr yW,.int .i64 err]) h
def S4 (c:Addr) (kind:Int) (R:aA) (w:av):Prop:=
 ∀k0:Nat,∀w0:av,w.heap.size<=k0->k0<w0.heap.size->ay [] w w0->∃J0:Nat->Prop,J0 ((c.add 0).block)/\
 ∃l0:Sl,Cells w0 (c.add 0) [l0.v]/\
 J0 ((c.add 1).block)/\
 ∃i0:Int,Cells w0 (c.add 1) [O U i0]/\
 ∃p0:Addr,ck l0 i0 4 p0/\
 J0 p0.block/\
 ∃i1:Int,∃s0:asw,∃i2 i3:Int,Cells w0 p0 [O U i1,ab s0,O U i2,O U i3]/\
 ∀k1:Nat,∀w1:av,w0.heap.size<=k1->k1<w1.heap.size->ay [] w0 w1->az aq 78 #[ae (some c)] w1 fun e0 w2=>∃b0:Bool,e0=(ak (aj b0))/\
  aR [k0,k1] w1 w2/\
  (((!b0)||(i1 !=kind))=true->az aq 79 #[ae (some c)] w2 fun e1 w3=>e1=(ak (ai #[]))/\
   aR [k0,k1] w2 w3/\
   ∀w4:av,ay [k0] w3 w4->R (ah #[O U 0,ab (ao #[]),O U 0,O U 0]) w4)/\
  (((!b0)||(i1 !=kind))=false->∃i4:Int,Cells w2 (c.add 1) [O U i4]/\
  ∃k2 k3:Nat,∃z0:List aw,∃k4:Nat,(c.add 1)=⟨k2,k3,none⟩/\
  Blk w2 k2 k4 z0/\
  (k3+1)<=z0.length/\
  k0≠k2/\
  k1≠k2/\
  ∀w5:av,ay [k2] w2 w5->Blk w5 k2 k4 (bO z0 k3 [O U (ar U (i4+1))])->∀w6:av,ay [k0] w5 w6->R (ah #[O U i1,ab s0,O U i2,O U i3]) w6)
theorem ZV (c:Addr) (kind:Int) (R:aA) (w:av) (h:S4 c kind R w):Cr 140 #[ae (some c),O U kind] w R:=
 fB (an:=.s .o (.s .o (.s (.s .o (.s (.s .o (.s .o .o)) .o)) (.s .o (.s .o .o))))) (args:=[.ad c,.int .i64 kind]) h
def S5 (r:Addr) (R:aA) (w:av):Prop:=
 ∀k0:Nat,∀w0:av,w.heap.size<=k0->k0<w0.heap.size->ay [] w w0->∃J0:av->Prop,(∀w1:av,J0 w1->az aq 140 #[ae (some (r.add 0)),O U 1] w1 fun e0 w2=>∃i0:Int,∃s0:asw,∃i1 i2:Int,e0=(ak (ah #[O U i0,ab s0,O U i1,O U i2]))/\
  aR [k0] w1 w2/\
  ∀k1:Nat,∀w3:av,w2.heap.size<=k1->k1<w3.heap.size->ay [] w2 w3->∃l0:Sl,∃w4:av,((au 52 1 #[.mk 0 (ab (ao #[61]))]).run aq w3)=(.ok l0.v w4)/\
  aR [k0,k1] w3 w4/\
  az aq 73 #[ae (some (r.add 0)),l0.v] w4 fun e1 w5=>e1=(ak (ai #[]))/\
   aR [k0,k1] w4 w5/\
   ∃l1:Sl,∃w6:av,((au 52 1 #[.mk 0 (ab (ao #[45]))]).run aq w5)=(.ok l1.v w6)/\
   aR [k0,k1] w5 w6/\
   az aq 75 #[ae (some (r.add 0)),l1.v] w6 fun e2 w7=>∃i3:Int,e2=(ak (O U i3))/\
    aR [k0,k1] w6 w7/\
    az aq 140 #[ae (some (r.add 0)),O U 3] w7 fun e3 w8=>∃i4:Int,∃s1:asw,∃i5 i6:Int,e3=(ak (ah #[O U i4,ab s1,O U i5,O U i6]))/\
     aR [k0,k1] w7 w8/\
     ∃l2:Sl,∃w9:av,((au 52 1 #[.mk 0 (ab (ao #[59]))]).run aq w8)=(.ok l2.v w9)/\
     aR [k0,k1] w8 w9/\
     az aq 73 #[ae (some (r.add 0)),l2.v] w9 fun e4 cK=>e4=(ak (ai #[]))/\
      aR [k0,k1] w9 cK/\
      ∀cY:av,ay [k0] cK cY->R (ah #[ab s0,O U (ar U ((ar U (1-(ar U (2*i3))))*i5)),O U i2]) cY)/\
 ∃l3:Sl,Cells w0 ((r.add 0).add 0) [l3.v]/\
 ∃i7:Int,Cells w0 ((r.add 0).add 1) [O U i7]/\
 ∃p0:Addr,ck l3 i7 4 p0/\
 ∃i8:Int,Cells w0 (p0.add 0) [O U i8]/\
 ((i8==1)=true->∀dz:av,ay [] w0 dz->az aq 138 #[ae (some r),ae (some ((r.add 4).add 0)),O U 2] dz fun e5 dF=>e5=(ak (ai #[]))/\
  aR [k0] dz dF/\
  J0 dF)/\
 ((i8==1)=false->∀eI:av,ay [] w0 eI->J0 eI)
theorem ZW (r:Addr) (R:aA) (w:av) (h:S5 r R w):Cr 76 #[ae (some r)] w R:=
 fB (an:=.s .o (.j [0,2] [] (.s .o (.s .o .o)) (.s .o (.s .o (.s .o (.s .o (.s .o (.s .o .o)))))))) (args:=[.ad r]) h
def S6 (r:Addr) (n_:Option Addr) (R:aA) (w:av):Prop:=
 ∀k0:Nat,∀w0:av,w.heap.size<=k0->k0<w0.heap.size->ay [] w w0->∃i0:Int,Cells w0 ((r.add 4).add 2) [O U i0]/\
 ∃k1 k2:Nat,∃z0:List aw,∃k3:Nat,((r.add 4).add 2)=⟨k1,k2,none⟩/\
 Blk w0 k1 k3 z0/\
 (k2+1)<=z0.length/\
 k0≠k1/\
 ∀w1:av,ay [k1] w0 w1->Blk w1 k1 k3 (bO z0 k2 [O U (ar U (i0-1))])->∃J0:Nat->Bool->Bool->Bool->Bool->av->Prop,∃k4:Nat,J0 k4 false false false false w1/\
 ∀k5:Nat,∀b0 b1 b2 b3:Bool,∀w2:av,J0 k5 b0 b1 b2 b3 w2->∃J1:Bool->Bool->Bool->Bool->Bool->av->Prop,(∀b4 b5 b6 b7 b8:Bool,∀w3:av,J1 b4 b5 b6 b7 b8 w3->(b4=true->∃k6:Nat,k6<k5/\
   J0 k6 b5 b6 b7 b8 w3)/\
  (b4=false->∃l0:Sl,∃w4:av,((au 52 4 #[.mk 0 (ab (ao #[115,116,97,116,101])),.mk 1 (ab (ao #[112,97,114,97,108,108,101,108])),.mk 2 (ab (ao #[104,105,115,116,111,114,121])),.mk 3 (ab (ao #[100,101,101,112]))]).run aq w3)=(.ok l0.v w4)/\
  aR [k0] w3 w4/\
  az aq 141 #[ae (some (r.add 0)),l0.v] w4 fun e0 w5=>∃i1:Int,e0=(ak (O U i1))/\
   aR [k0] w4 w5/\
   ∃J2:Nat->Int->Bool->Bool->Bool->Bool->av->Prop,∃k7:Nat,J2 k7 i1 b5 b6 b7 b8 w5/\
   ∀k8:Nat,∀i2:Int,∀b9 PM Ui Uj:Bool,∀w6:av,J2 k8 i2 b9 PM Ui Uj w6->((decide (i2>0))=true->∃i3:Int,Cells w6 ((r.add 0).add 1) [O U i3]/\
    ∃k9 rn:Nat,∃z1:List aw,∃ou:Nat,((r.add 0).add 1)=⟨k9,rn,none⟩/\
    Blk w6 k9 ou z1/\
    (rn+1)<=z1.length/\
    k0≠k9/\
    ∀w7:av,ay [k9] w6 w7->Blk w7 k9 ou (bO z1 rn [O U (ar U (i3+1))])->∃J3:Bool->Bool->Bool->Bool->av->Prop,(∀Wm b14 b15 b16:Bool,∀w8:av,J3 Wm b14 b15 b16 w8->∃l1:Sl,∃w9:av,((au 52 4 #[.mk 0 (ab (ao #[115,116,97,116,101])),.mk 1 (ab (ao #[112,97,114,97,108,108,101,108])),.mk 2 (ab (ao #[104,105,115,116,111,114,121])),.mk 3 (ab (ao #[100,101,101,112]))]).run aq w8)=(.ok l1.v w9)/\
     aR [k0] w8 w9/\
     az aq 141 #[ae (some (r.add 0)),l1.v] w9 fun e1 cK=>∃i4:Int,e1=(ak (O U i4))/\
      aR [k0] w9 cK/\
      ∃ER:Nat,ER<k8/\
      J2 ER i4 Wm b14 b15 b16 cK)/\
    ∀cY:av,ay [] w7 cY->∃J4:Nat->Prop,∃p0:Addr,n_=(some p0)/\
    J4 ((p0.add 7).block)/\
    ∃l2:Sl,Cells cY (p0.add 7) [l2.v]/\
    (az aq 143 #[ae (some r),O U i2] cY fun e2 dz=>∃i5:Int,∃s0 s1 s2:asw,∃l3 l4 l5 l6:Sl,∃i6:Int,e2=(ak (ah #[O U i5,ab s0,ab s1,ab s2,l3.v,l4.v,l5.v,l6.v,O U i6]))/\
     aR [k0] cY dz/\
     bE J4 cY dz/\
     ∃l7:Sl,∃dF:av,((au 25 1 #[.mk 0 (ah #[O U 0,ab (ao #[]),ab (ao #[]),ab (ao #[]),Sl.nil.v,Sl.nil.v,Sl.nil.v,Sl.nil.v,O U 0])]).run aq dz)=(.ok l7.v dF)/\
     aR [k0] dz dF/\
     bE J4 dz dF/\
     ∃l8:Sl,∃eI:av,((Builtin.append_ #[25,25] 25 #[l2.v,l7.v]).run aq dF)=(.ok l8.v eI)/\
     aR [k0] dF eI/\
     bE J4 dF eI/\
     ∃p1:Addr,ck l8 (l2.n:Int) 9 p1/\
     ∃p2:Addr,n_=(some p2)/\
     (∃sY I3:Nat,∃z2:List aw,∃Kn:Nat,p1=⟨sY,I3,none⟩/\
      Blk eI sY Kn z2/\
      (I3+9)<=z2.length/\
      k0≠sY/\
      ∀fQ:av,ay [sY] eI fQ->Blk fQ sY Kn (bO z2 I3 [O U i5,ab s0,ab s1,ab s2,l3.v,l4.v,l5.v,l6.v,O U i6])->∃ES PN:Nat,∃z3:List aw,∃k18:Nat,(p2.add 7)=⟨ES,PN,none⟩/\
      Blk fQ ES k18 z3/\
      (PN+1)<=z3.length/\
      k0≠ES/\
      ∀gP:av,ay [ES] fQ gP->Blk gP ES k18 (bO z3 PN [l8.v])->J3 b9 PM Ui Uj gP)/\
     ∃GF GH:Nat,∃z4:List aw,∃k21:Nat,(p2.add 7)=⟨GF,GH,none⟩/\
     Blk eI GF k21 z4/\
     (GH+1)<=z4.length/\
     k0≠GF/\
     ∀fY:av,ay [GF] eI fY->Blk fY GF k21 (bO z4 GH [l8.v])->∃N7 Wn:Nat,∃z5:List aw,∃k24:Nat,p1=⟨N7,Wn,none⟩/\
     Blk fY N7 k24 z5/\
     (Wn+9)<=z5.length/\
     k0≠N7/\
     ∀iv:av,ay [N7] fY iv->Blk iv N7 k24 (bO z5 Wn [O U i5,ab s0,ab s1,ab s2,l3.v,l4.v,l5.v,l6.v,O U i6])->J3 b9 PM Ui Uj iv)/\
    ∃l9:Sl,∃ji:av,((au 25 1 #[.mk 0 (ah #[O U 0,ab (ao #[]),ab (ao #[]),ab (ao #[]),Sl.nil.v,Sl.nil.v,Sl.nil.v,Sl.nil.v,O U 0])]).run aq cY)=(.ok l9.v ji)/\
    aR [k0] cY ji/\
    bE J4 cY ji/\
    az aq 143 #[ae (some r),O U i2] ji fun e3 iw=>∃i7:Int,∃s3 s4 s5:asw,∃l10 qo rm wC:Sl,∃i8:Int,e3=(ak (ah #[O U i7,ab s3,ab s4,ab s5,l10.v,qo.v,rm.v,wC.v,O U i8]))/\
     aR [k0] ji iw/\
     bE J4 ji iw/\
     ∃zC:Sl,∃j9:av,((Builtin.append_ #[25,25] 25 #[l2.v,l9.v]).run aq iw)=(.ok zC.v j9)/\
     aR [k0] iw j9/\
     bE J4 iw j9/\
     ∃p3:Addr,ck zC (l2.n:Int) 9 p3/\
     ∃p4:Addr,n_=(some p4)/\
     (∃k25 RL:Nat,∃z6:List aw,∃k27:Nat,p3=⟨k25,RL,none⟩/\
      Blk j9 k25 k27 z6/\
      (RL+9)<=z6.length/\
      k0≠k25/\
      ∀nU:av,ay [k25] j9 nU->Blk nU k25 k27 (bO z6 RL [O U i7,ab s3,ab s4,ab s5,l10.v,qo.v,rm.v,wC.v,O U i8])->∃N8 k29:Nat,∃z7:List aw,∃k30:Nat,(p4.add 7)=⟨N8,k29,none⟩/\
      Blk nU N8 k30 z7/\
      (k29+1)<=z7.length/\
      k0≠N8/\
      ∀pc:av,ay [N8] nU pc->Blk pc N8 k30 (bO z7 k29 [zC.v])->J3 b9 PM Ui Uj pc)/\
     ∃k31 k32:Nat,∃z8:List aw,∃k33:Nat,(p4.add 7)=⟨k31,k32,none⟩/\
     Blk j9 k31 k33 z8/\
     (k32+1)<=z8.length/\
     k0≠k31/\
     ∀qg:av,ay [k31] j9 qg->Blk qg k31 k33 (bO z8 k32 [zC.v])->∃k34 k35:Nat,∃z9:List aw,∃k36:Nat,p3=⟨k34,k35,none⟩/\
     Blk qg k34 k36 z9/\
     (k35+9)<=z9.length/\
     k0≠k34/\
     ∀mL:av,ay [k34] qg mL->Blk mL k34 k36 (bO z9 k35 [O U i7,ab s3,ab s4,ab s5,l10.v,qo.v,rm.v,wC.v,O U i8])->J3 b9 PM Ui Uj mL)/\
   ((decide (i2>0))=false->∃i9:Int,Cells w6 ((r.add 4).add 2) [O U i9]/\
   ∃k37 k38:Nat,∃GI:List aw,∃k39:Nat,((r.add 4).add 2)=⟨k37,k38,none⟩/\
   Blk w6 k37 k39 GI/\
   (k38+1)<=GI.length/\
   k0≠k37/\
   ∀oe:av,ay [k37] w6 oe->Blk oe k37 k39 (bO GI k38 [O U (ar U (i9+1))])->∃EP:Sl,∃pT:av,((au 52 1 #[.mk 0 (ab (ao #[125]))]).run aq oe)=(.ok EP.v pT)/\
   aR [k0] oe pT/\
   az aq 73 #[ae (some (r.add 0)),EP.v] pT fun e4 tI=>e4=(ak (ai #[]))/\
    aR [k0] pT tI/\
    R (ai #[]) tI)))/\
 az aq 78 #[ae (some (r.add 0))] w2 fun e5 wD=>∃b17:Bool,e5=(ak (aj b17))/\
  aR [k0] w2 wD/\
  (b17=true->Blk wD k0 206 [aj b0,aj b1,aj b2,aj b3]->az aq 142 #[ae (some r),ae n_,ae (some ⟨k0,0,none⟩)] wD fun e6 GJ=>∃b18:Bool,e6=(ak (aj b18))/\
   ∃b19 b20 b21 b22:Bool,Blk GJ k0 206 [aj b19,aj b20,aj b21,aj b22]/\
   J1 b18 b19 b20 b21 b22 GJ)/\
  (b17=false->J1 false b0 b1 b2 b3 wD)
theorem ZX (r:Addr) (n_:Option Addr) (R:aA) (w:av) (h:S6 r n_ R w):Cr 77 #[ae (some r),ae n_] w R:=
 fB (an:=.s .o (.s .o (.s (.j [0,1,4] [.b 4 [.bool,.bool,.bool,.bool]] (.s (.s (.j [0,1,4] [.s 23 .bool,.b 4 [.bool,.bool,.bool,.bool]] .o .o) (.s .o .o)) .o) .o) (.s (.s .o (.j [0,1,4] [.s 5 (.int .i64),.b 4 [.bool,.bool,.bool,.bool]] (.s (.s .o (.s .o .o)) (.s (.s .o (.j [0,1,4] [.b 4 [.bool,.bool,.bool,.bool]] .o .o)) .o)) .o)) (.s .o .o))))) (args:=[.ad r,.ptr n_]) h
def S7 (r:Addr) (n_:Option Addr) (Yc:Option Addr) (R:aA) (w:av):Prop:=
 ∃l0:Sl,∃w0:av,((au 52 3 #[.mk 0 (ab (ao #[111,110])),.mk 1 (ab (ao #[97,108,119,97,121,115])),.mk 2 (ab (ao #[97,102,116,101,114]))]).run aq w)=(.ok l0.v w0)/\
 az aq 141 #[ae (some (r.add 0)),l0.v] w0 fun e0 w1=>∃i0:Int,e0=(ak (O U i0))/\
  ((decide (i0>0))=true->∀w2:av,ay [] w1 w2->∃J0:Nat->Prop,∃p0:Addr,n_=(some p0)/\
   J0 ((p0.add 6).block)/\
   ∃l1:Sl,Cells w2 (p0.add 6) [l1.v]/\
   az aq 208 #[ae (some r),O U i0] w2 fun e1 w3=>∃i1:Int,∃s0:asw,∃i2:Int,∃b0:Bool,∃i3 i4:Int,∃s1:asw,∃i5:Int,∃l2:Sl,∃i6:Int,∃l3 l4:Sl,∃i7:Int,e1=(ak (ah #[O U i1,ab s0,O U i2,aj b0,O U i3,O U i4,ab s1,O U i5,l2.v,O U i6,l3.v,l4.v,O U i7]))/\
    bE J0 w2 w3/\
    ∃l5:Sl,∃w4:av,((au 24 1 #[.mk 0 (ah #[O U i1,ab s0,O U i2,aj b0,O U i3,O U i4,ab s1,O U i5,l2.v,O U i6,l3.v,l4.v,O U i7])]).run aq w3)=(.ok l5.v w4)/\
    bE J0 w3 w4/\
    ∃l6:Sl,∃w5:av,((Builtin.append_ #[24,24] 24 #[l1.v,l5.v]).run aq w4)=(.ok l6.v w5)/\
    bE J0 w4 w5/\
    ∃p1:Addr,n_=(some p1)/\
    ∃k0 k1:Nat,∃z0:List aw,∃k2:Nat,(p1.add 6)=⟨k0,k1,none⟩/\
    Blk w5 k0 k2 z0/\
    (k1+1)<=z0.length/\
    ∀w6:av,ay [k0] w5 w6->Blk w6 k0 k2 (bO z0 k1 [l6.v])->R (aj true) w6)/\
  ((decide (i0>0))=false->∃l7:Sl,∃w7:av,((au 52 3 #[.mk 0 (ab (ao #[105,110,105,116,105,97,108])),.mk 1 (ab (ao #[101,110,116,101,114])),.mk 2 (ab (ao #[108,101,97,118,101]))]).run aq w1)=(.ok l7.v w7)/\
  az aq 141 #[ae (some (r.add 0)),l7.v] w7 fun e2 w8=>∃i8:Int,e2=(ak (O U i8))/\
   ((i8==0)=true->R (aj false) w8)/\
   ((i8==0)=false->∃p2:Addr,Yc=(some p2)/\
   ∃p3:Addr,Hb p2 i8 4 1 p3/\
   ∃b1:Bool,Cells w8 p3 [aj b1]/\
   (b1=true->az aq 79 #[ae (some (r.add 0))] w8 fun e3 w9=>e3=(ak (ai #[]))/\
    R (aj false) w9)/\
   (b1=false->∃p4:Addr,Yc=(some p4)/\
   ∃p5:Addr,Hb p4 i8 4 1 p5/\
   ∃k3 k4:Nat,∃z1:List aw,∃k5:Nat,p5=⟨k3,k4,none⟩/\
   Blk w8 k3 k5 z1/\
   (k4+1)<=z1.length/\
   ∀cK:av,ay [k3] w8 cK->Blk cK k3 k5 (bO z1 k4 [aj true])->∃i9:Int,Cells cK ((r.add 0).add 1) [O U i9]/\
   ∃k6 k7:Nat,∃z2:List aw,∃k8:Nat,((r.add 0).add 1)=⟨k6,k7,none⟩/\
   Blk cK k6 k8 z2/\
   (k7+1)<=z2.length/\
   ∀cY:av,ay [k6] cK cY->Blk cY k6 k8 (bO z2 k7 [O U (ar U (i9+1))])->∃J1:av->Prop,(∀dz:av,J1 dz->R (aj true) dz)/\
   ((i8==1)=true->az aq 209 #[ae (some (r.add 0))] cY fun e4 dF=>∃s2:asw,e4=(ak (ab s2))/\
    ∃p6:Addr,n_=(some p6)/\
    ∃k9 rn:Nat,∃z3:List aw,∃ou:Nat,(p6.add 2)=⟨k9,rn,none⟩/\
    Blk dF k9 ou z3/\
    (rn+1)<=z3.length/\
    ∀eI:av,ay [k9] dF eI->Blk eI k9 ou (bO z3 rn [ab s2])->∃l8:Sl,∃fQ:av,((au 52 1 #[.mk 0 (ab (ao #[59]))]).run aq eI)=(.ok l8.v fQ)/\
    az aq 73 #[ae (some (r.add 0)),l8.v] fQ fun e5 gP=>e5=(ak (ai #[]))/\
     J1 gP)/\
   ((i8==1)=false->((i8==2)=true->az aq 210 #[ae (some r)] cY fun e6 fY=>∃l9:Sl,e6=(ak l9.v)/\
    ∃p7:Addr,n_=(some p7)/\
    ∃ER sY:Nat,∃z4:List aw,∃I3:Nat,(p7.add 4)=⟨ER,sY,none⟩/\
    Blk fY ER I3 z4/\
    (sY+1)<=z4.length/\
    ∀iv:av,ay [ER] fY iv->Blk iv ER I3 (bO z4 sY [l9.v])->J1 iv)/\
   ((i8==2)=false->az aq 210 #[ae (some r)] cY fun e7 ji=>∃l10:Sl,e7=(ak l10.v)/\
    ∃p8:Addr,n_=(some p8)/\
    ∃Kn ES:Nat,∃z5:List aw,∃PN:Nat,(p8.add 5)=⟨Kn,ES,none⟩/\
    Blk ji Kn PN z5/\
    (ES+1)<=z5.length/\
    ∀iw:av,ay [Kn] ji iw->Blk iw Kn PN (bO z5 ES [l10.v])->J1 iw)))))
theorem ZY (r:Addr) (n_:Option Addr) (Yc:Option Addr) (R:aA) (w:av) (h:S7 r n_ Yc R w):Cr 142 #[ae (some r),ae n_,ae Yc] w R:=
 fB (an:=.s .o (.s (.s .o (.s .o (.s (.s .o (.s .o .o)) .o))) (.s .o (.s (.s .o (.s (.s .o .o) .o)) (.s (.s .o (.s (.s .o (.s .o .o)) .o)) (.s .o (.s .o (.j [] [] (.s .o (.s .o (.s (.s .o .o) (.s .o (.s .o .o))))) (.s .o .o))))))))) (args:=[.ad r,.ptr n_,.ptr Yc]) h
def S8 (r:Addr) (kind:Int) (R:aA) (w:av):Prop:=
 ∀k0:Nat,∀w0:av,w.heap.size<=k0->k0<w0.heap.size->ay [] w w0->∃J0:Nat->Prop,J0 (((r.add 0).add 0).block)/\
 ∃l0:Sl,Cells w0 ((r.add 0).add 0) [l0.v]/\
 J0 (((r.add 0).add 1).block)/\
 ∃i0:Int,Cells w0 ((r.add 0).add 1) [O U i0]/\
 ∃p0:Addr,ck l0 i0 4 p0/\
 J0 ((p0.add 3).block)/\
 ∃i1:Int,Cells w0 (p0.add 3) [O U i1]/\
 ∀k1:Nat,∀w1:av,w0.heap.size<=k1->k1<w1.heap.size->ay [] w0 w1->az aq 138 #[ae (some r),ae (some ((r.add 4).add 3)),O U 2] w1 fun e0 w2=>e0=(ak (ai #[]))/\
  aR [k0,k1] w1 w2/\
  az aq 78 #[ae (some (r.add 0))] w2 fun e1 w3=>∃b0:Bool,e1=(ak (aj b0))/\
   aR [k0,k1] w2 w3/\
   ((!b0)=true->∀w4:av,ay [k0] w3 w4->R (ah #[O U kind,ab (ao #[]),O U 0,aj false,O U 0,O U 0,ab (ao #[]),O U 0,Sl.nil.v,O U 0,Sl.nil.v,Sl.nil.v,O U i1]) w4)/\
   ((!b0)=false->∃i2:Int,Cells w3 ((r.add 0).add 1) [O U i2]/\
   ∃k2 k3:Nat,∃z0:List aw,∃k4:Nat,((r.add 0).add 1)=⟨k2,k3,none⟩/\
   Blk w3 k2 k4 z0/\
   (k3+1)<=z0.length/\
   k0≠k2/\
   k1≠k2/\
   ∀w5:av,ay [k2] w3 w5->Blk w5 k2 k4 (bO z0 k3 [O U (ar U (i2+1))])->∃J1:Int->asw->Int->Bool->Int->Int->asw->Int->Sl->Int->Sl->Sl->Int->av->Prop,(∀i3:Int,∀s0:asw,∀i4:Int,∀b1:Bool,∀i5 i6:Int,∀s1:asw,∀i7:Int,∀l1:Sl,∀i8:Int,∀l2 l3:Sl,∀i9:Int,∀w6:av,J1 i3 s0 i4 b1 i5 i6 s1 i7 l1 i8 l2 l3 i9 w6->∃J2:Int->asw->Int->Bool->Int->Int->asw->Int->Sl->Int->Sl->Sl->Int->av->Prop,(∀i10:Int,∀s2:asw,∀i11:Int,∀b2:Bool,∀i12 i13:Int,∀s3:asw,∀i14:Int,∀l4:Sl,∀i15:Int,∀l5 l6:Sl,∀i16:Int,∀w7:av,J2 i10 s2 i11 b2 i12 i13 s3 i14 l4 i15 l5 l6 i16 w7->∃J3:Int->asw->Int->Bool->Int->Int->asw->Int->Sl->Int->Sl->Sl->Int->av->Prop,(∀i17:Int,∀s4:asw,∀i18:Int,∀b3:Bool,∀i19 i20:Int,∀s5:asw,∀i21:Int,∀l7:Sl,∀i22:Int,∀l8 l9:Sl,∀i23:Int,∀w8:av,J3 i17 s4 i18 b3 i19 i20 s5 i21 l7 i22 l8 l9 i23 w8->∃J4:Nat->asw->Int->asw->Int->Bool->Int->Int->asw->Int->Sl->Int->Sl->Sl->Int->av->Prop,∃k5:Nat,J4 k5 (ao #[45,62]) i17 s4 i18 b3 i19 i20 s5 i21 l7 i22 l8 l9 i23 w8/\
      ∀k6:Nat,∀s6:asw,∀i24:Int,∀s7:asw,∀i25:Int,∀b4:Bool,∀i26 i27:Int,∀s8:asw,∀i28:Int,∀l10:Sl,∀i29:Int,∀qo rm:Sl,∀i30:Int,∀w9:av,J4 k6 s6 i24 s7 i25 b4 i26 i27 s8 i28 l10 i29 qo rm i30 w9->∃wC:Sl,∃cK:av,((au 52 1 #[.mk 0 (ab s6)]).run aq w9)=(.ok wC.v cK)/\
      aR [k0,k1] w9 cK/\
      az aq 75 #[ae (some (r.add 0)),wC.v] cK fun e2 cY=>∃i31:Int,e2=(ak (O U i31))/\
       aR [k0,k1] cK cY/\
       ((decide (i31>0))=true->∀dz:av,ay [] cY dz->∃J5:Nat->Prop,J5 k1/\
        az aq 209 #[ae (some (r.add 0))] dz fun e3 dF=>∃s9:asw,e3=(ak (ab s9))/\
         aR [k0,k1] dz dF/\
         bE J5 dz dF/\
         ∃zC:Sl,∃eI:av,((au 52 1 #[.mk 0 (ab s9)]).run aq dF)=(.ok zC.v eI)/\
         aR [k0,k1] dF eI/\
         bE J5 dF eI/\
         ∃EP:Sl,∃fQ:av,((Builtin.append_ #[52,52] 52 #[rm.v,zC.v]).run aq eI)=(.ok EP.v fQ)/\
         aR [k0,k1] eI fQ/\
         bE J5 eI fQ/\
         ∀gP:av,ay [k1] fQ gP->∃k7:Nat,k7<k6/\
         J4 k7 (ao #[44]) i24 s7 i25 b4 i26 i27 s8 i28 l10 i29 qo EP i30 gP)/\
       ((decide (i31>0))=false->∃PH:Sl,∃fY:av,((au 52 1 #[.mk 0 (ab (ao #[59]))]).run aq cY)=(.ok PH.v fY)/\
       aR [k0,k1] cY fY/\
       az aq 73 #[ae (some (r.add 0)),PH.v] fY fun e4 iv=>e4=(ak (ai #[]))/\
        aR [k0,k1] fY iv/\
        ∀ji:av,ay [k0] iv ji->R (ah #[O U i24,ab s7,O U i25,aj b4,O U i26,O U i27,ab s8,O U i28,l10.v,O U i29,qo.v,rm.v,O U i30]) ji))/\
     ∃PI:Sl,∃iw:av,((au 52 1 #[.mk 0 (ab (ao #[123]))]).run aq w7)=(.ok PI.v iw)/\
     aR [k0,k1] w7 iw/\
     az aq 141 #[ae (some (r.add 0)),PI.v] iw fun e5 j9=>∃i32:Int,e5=(ak (O U i32))/\
      aR [k0,k1] iw j9/\
      ((decide (i32>0))=true->az aq 210 #[ae (some r)] j9 fun e6 nU=>∃N5:Sl,e6=(ak N5.v)/\
       aR [k0,k1] j9 nU/\
       ∀pc:av,ay [k1] nU pc->J3 i10 s2 i11 b2 i12 i13 s3 i14 l4 i15 N5 l6 i16 pc)/\
      ((decide (i32>0))=false->J3 i10 s2 i11 b2 i12 i13 s3 i14 l4 i15 l5 l6 i16 j9))/\
    ∃PJ:Sl,∃qg:av,((au 52 1 #[.mk 0 (ab (ao #[91]))]).run aq w6)=(.ok PJ.v qg)/\
    aR [k0,k1] w6 qg/\
    az aq 75 #[ae (some (r.add 0)),PJ.v] qg fun e7 mL=>∃i33:Int,e7=(ak (O U i33))/\
     aR [k0,k1] qg mL/\
     ((decide (i33>0))=true->∀oe:av,ay [k1] mL oe->az aq 253 #[ae (some (r.add 0))] oe fun e8 pT=>∃i34 i35:Int,∃GD:asw,∃i36:Int,∃KS:Sl,∃i37:Int,e8=(ak (ah #[O U i34,O U i35,ab GD,O U i36,KS.v,O U i37]))/\
      aR [k0,k1] oe pT/\
      ∀tI:av,ay [k1] pT tI->∃PK:Sl,∃wD:av,((au 52 1 #[.mk 0 (ab (ao #[93]))]).run aq tI)=(.ok PK.v wD)/\
      aR [k0,k1] tI wD/\
      az aq 73 #[ae (some (r.add 0)),PK.v] wD fun e9 GJ=>e9=(ak (ai #[]))/\
       aR [k0,k1] wD GJ/\
       J2 i3 s0 i4 (decide (i33>0)) i34 i35 GD i36 KS i37 l2 l3 i9 GJ)/\
     ((decide (i33>0))=false->∀PO:av,ay [k1] mL PO->J2 i3 s0 i4 (decide (i33>0)) i5 i6 s1 i7 l1 i8 l2 l3 i9 PO))/\
   ((kind==1)=true->az aq 209 #[ae (some (r.add 0))] w5 fun Cs Wo=>∃CP:asw,Cs=(ak (ab CP))/\
    aR [k0,k1] w5 Wo/\
    ∀Yd:av,ay [k1] Wo Yd->J1 kind CP 0 false 0 0 (ao #[]) 0 Sl.nil 0 Sl.nil Sl.nil i1 Yd)/\
   ((kind==1)=false->((kind==3)=true->az aq 140 #[ae (some (r.add 0)),O U 3] w5 fun Ko Wp=>∃i38:Int,∃N6:asw,∃i39 i40:Int,Ko=(ak (ah #[O U i38,ab N6,O U i39,O U i40]))/\
    aR [k0,k1] w5 Wp/\
    ∀Ye:av,ay [k1] Wp Ye->J1 kind (ao #[]) i39 false 0 0 (ao #[]) 0 Sl.nil 0 Sl.nil Sl.nil i1 Ye)/\
   ((kind==3)=false->J1 kind (ao #[]) 0 false 0 0 (ao #[]) 0 Sl.nil 0 Sl.nil Sl.nil i1 w5)))
theorem ZZ (r:Addr) (kind:Int) (R:aA) (w:av) (h:S8 r kind R w):Cr 208 #[ae (some r),O U kind] w R:=
 fB (an:=.s .o (.s .o (.s (.s .o (.s .o (.s (.s .o .o) .o))) (.s .o (.j [0,4,5] [.b 5 [.int .i64,.str,.int .i64,.bool,.int .i64,.int .i64,.str,.int .i64,.sl,.int .i64,.sl,.sl,.int .i64]] (.s .o (.s .o (.s .o (.s .o (.s .o .o))))) (.j [0,4,5] [.b 5 [.int .i64,.str,.int .i64,.bool,.int .i64,.int .i64,.str,.int .i64,.sl,.int .i64,.sl,.sl,.int .i64]] (.s .o (.s .o (.s (.s .o .o) .o))) (.j [0,4,5] [.b 5 [.int .i64,.str,.int .i64,.bool,.int .i64,.int .i64,.str,.int .i64,.sl,.int .i64,.sl,.sl,.int .i64]] (.s .o (.s .o .o)) (.s (.s .o (.j [0,4,5] [.s 6 .str,.b 5 [.int .i64,.str,.int .i64,.bool,.int .i64,.int .i64,.str,.int .i64,.sl,.int .i64,.sl,.sl,.int .i64]] (.s (.s .o (.s .o .o)) (.s .o .o)) .o)) (.s .o (.s .o .o)))))))))) (args:=[.ad r,.int .i64 kind]) h
def S9 (c:Addr) (R:aA) (w:av):Prop:=
 az aq 140 #[ae (some c),O U 1] w fun e0 w0=>∃i0:Int,∃s0:asw,∃i1 i2:Int,e0=(ak (ah #[O U i0,ab s0,O U i1,O U i2]))/\
  R (ab s0) w0
theorem Z0 (c:Addr) (R:aA) (w:av) (h:S9 c R w):Cr 209 #[ae (some c)] w R:=
 fB (an:=.s .o (.s .o .o)) (args:=[.ad c]) h
def Ta (c:Addr) (R:aA) (w:av):Prop:=
 ∀k0:Nat,∀w0:av,w.heap.size<=k0->k0<w0.heap.size->ay [] w w0->az aq 78 #[ae (some c)] w0 fun e0 w1=>∃b0:Bool,e0=(ak (aj b0))/\
  aR [k0] w0 w1/\
  ((!b0)=true->∀w2:av,ay [k0] w1 w2->R (ah #[O U 0,O U 0,ab (ao #[]),O U 0,Sl.nil.v,O U 0]) w2)/\
  ((!b0)=false->∀w3:av,ay [] w1 w3->∃J0:Nat->Prop,∀w4:av,ay [] w3 w4->J0 ((c.add 0).block)/\
  ∃l0:Sl,Cells w4 (c.add 0) [l0.v]/\
  ∀w5:av,ay [] w4 w5->J0 ((c.add 1).block)/\
  ∃i0:Int,Cells w5 (c.add 1) [O U i0]/\
  ∀w6:av,ay [] w5 w6->az aq 288 #[l0.v,O U i0] w6 fun e1 w7=>∃i1 i2:Int,∃s0:asw,∃i3:Int,∃l1:Sl,∃i4 i5 i6 i7:Int,e1=(ak (ai #[ah #[O U i1,O U i2,ab s0,O U i3,l1.v,O U i4],O U i5,ah #[O U i6,O U i7]]))/\
   aR [k0] w6 w7/\
   mf w3 w6 w7/\
   bE J0 w6 w7/\
   ∀w8:av,ay [] w7 w8->∀k1:Nat,w3.heap.size<=k1->k1<w8.heap.size->xS [.mk w6.heap.size w7.heap.size] k1->((i6 !=0)=true->∀w9:av,ay [k1,k0] w8 w9->∃k2 k3:Nat,∃z0:List aw,∃k4:Nat,(c.add 2)=⟨k2,k3,none⟩/\
    Blk w9 k2 k4 z0/\
    (k3+2)<=z0.length/\
    k0≠k2/\
    k1≠k2/\
    ∀cK:av,ay [k2] w9 cK->Blk cK k2 k4 (bO z0 k3 [O U i6,O U i7])->∀cY:av,ay [k0] cK cY->R (ah #[O U i1,O U i2,ab s0,O U i3,l1.v,O U i4]) cY)/\
   ((i6 !=0)=false->∀dz:av,ay [k1,k0] w8 dz->∃k5 k6:Nat,∃z1:List aw,∃k7:Nat,(c.add 1)=⟨k5,k6,none⟩/\
   Blk dz k5 k7 z1/\
   (k6+1)<=z1.length/\
   k0≠k5/\
   k1≠k5/\
   ∀dF:av,ay [k5] dz dF->Blk dF k5 k7 (bO z1 k6 [O U i5])->∀eI:av,ay [k0] dF eI->R (ah #[O U i1,O U i2,ab s0,O U i3,l1.v,O U i4]) eI))
theorem Z1 (c:Addr) (R:aA) (w:av) (h:Ta c R w):Cr 253 #[ae (some c)] w R:=
 fB (an:=.s .o (.s (.s .o (.s (.s .o .o) .o)) (.s (.l false [] []) (.s (.s .o (.s (.s .o (.s .o .o)) .o)) (.s .o (.s .o .o)))))) (args:=[.ad c]) h
def v4v (l:Sl) (at_:Int) (R:aA) (w:av):Prop:=
 ∀k0 k1:Nat,∀w0:av,w.heap.size<=k0->k0<w0.heap.size->w.heap.size<=k1->k1<w0.heap.size->ay [] w w0->az aq 304 #[l.v,.func (.func 305) #[] #[]] w0 fun e0 w1=>∃i0:Int,e0=(ak (O U i0))/\
  aR [k0,k1] w0 w1/\
  ((((decide (at_<0))||(decide (at_>=(l.n:Int))))||(i0 !=(ar U ((l.n:Int)-1))))=true->∀w2:av,ay [k1,k0] w1 w2->R (ai #[ah #[O U 0,O U 0,ab (ao #[]),O U 0,Sl.nil.v,O U 0],O U 0,ah #[O U 1,O U (-1)]]) w2)/\
  ((((decide (at_<0))||(decide (at_>=(l.n:Int))))||(i0 !=(ar U ((l.n:Int)-1))))=false->az aq 263 #[] w1 fun e1 w3=>∃l0:Sl,e1=(ak l0.v)/\
   aR [k0,k1] w1 w3/\
   ∀k2:Nat,∀w4:av,w3.heap.size<=k2->k2<w4.heap.size->ay [] w3 w4->Blk w4 k2 331 [l.v,O U at_,O U 0,O U 0,O U 0,l0.v]->az aq 306 #[ae (some ⟨k2,0,none⟩),O U 0] w4 fun e2 w5=>∃i1 i2:Int,∃s0:asw,∃i3:Int,∃l1:Sl,∃i4:Int,e2=(ak (ah #[O U i1,O U i2,ab s0,O U i3,l1.v,O U i4]))/\
    aR [k0,k1] w4 w5/\
    ∃l2:Sl,∃i5 i6 i7 i8:Int,∃l3:Sl,Blk w5 k2 331 [l2.v,O U i5,O U i6,O U i7,O U i8,l3.v]/\
    ∀k3:Nat,∀w6:av,w5.heap.size<=k3->k3<w6.heap.size->ay [] w5 w6->Blk w6 k2 331 [l2.v,O U i5,O U i6,O U i7,O U i8,l3.v]->az aq 307 #[ae (some ⟨k2,0,none⟩)] w6 fun e3 w7=>∃b0:Bool,e3=(ak (aj b0))/\
     aR [k0,k1,k3] w6 w7/\
     ∃l4:Sl,∃i9 i10 i11 i12:Int,∃l5:Sl,Blk w7 k2 331 [l4.v,O U i9,O U i10,O U i11,O U i12,l5.v]/\
     (b0=true->∀w8:av,ay [] w7 w8->Blk w8 k2 331 [l4.v,O U i9,O U i10,O U i11,O U i12,l5.v]->k0≠k1->k0≠k2->k0≠k3->k1≠k2->k1≠k3->k2≠k3->∃J0:Nat->Prop,J0 k2/\
      th J0 k0/\
      th J0 k1/\
      ∀w9:av,ay [k1,k0] w8 w9->Blk w9 k2 331 [l4.v,O U i9,O U i10,O U i11,O U i12,l5.v]->R (ai #[ah #[O U 0,O U 0,ab (ao #[]),O U 0,Sl.nil.v,O U 0],O U 0,ah #[O U i10,O U i11]]) w9)/\
     (b0=false->∀cK:av,ay [] w7 cK->Blk cK k2 331 [l4.v,O U i9,O U i10,O U i11,O U i12,l5.v]->k0≠k1->k0≠k2->k0≠k3->k1≠k2->k1≠k3->k2≠k3->∃J1:Nat->Prop,J1 k2/\
     th J1 k0/\
     th J1 k1/\
     ∀cY:av,ay [k1,k0] cK cY->Blk cY k2 331 [l4.v,O U i9,O U i10,O U i11,O U i12,l5.v]->R (ai #[ah #[O U i1,O U i2,ab s0,O U i3,l1.v,O U i4],O U i9,ah #[O U 0,O U 0]]) cY))
theorem v4w (l:Sl) (at_:Int) (R:aA) (w:av) (h:v4v l at_ R w):Cr 288 #[l.v,O U at_] w R:=
 fB (an:=.s .o (.s .o (.s (.s .o (.s (.s .o .o) .o)) (.s .o (.s .o (.s (.s .o (.s (.s .o .o) .o)) (.s .o .o))))))) (args:=[.sl l,.int .i64 at_]) h
def Tc (s:Sl) (f:OV) (R:aA) (w:av):Prop:=
 ∃J0:Nat->Int->av->Prop,∃k0:Nat,J0 k0 0 w/\
 ∀k1:Nat,∀i0:Int,∀w0:av,J0 k1 i0 w0->((decide (i0<(s.n:Int)))=true->∃p0:Addr,ck s i0 4 p0/\
  ∃i1:Int,∃s0:asw,∃i2 i3:Int,Cells w0 p0 [O U i1,ab s0,O U i2,O U i3]/\
  ∃k2:Nat,∃z0:List aw,∃z1:List aw,f.v=(.func (.func k2) z0.toArray z1.toArray)/\
  (∀x0:Array aw,∀w1:av,((callFunc k2 x0).run aq w1)=(.ok (.enter k2 x0) w1))/\
  az aq k2 ((zq (zq z0 [ah #[O U i1,ab s0,O U i2,O U i3]]) z1).toArray) w0 fun e0 w2=>∃b0:Bool,e0=(ak (aj b0))/\
   (b0=true->R (O U i0) w2)/\
   (b0=false->∃k3:Nat,k3<k1/\
   J0 k3 (ar U (i0+1)) w2))/\
 ((decide (i0<(s.n:Int)))=false->R (O U (-1)) w0)
theorem Z2 (s:Sl) (f:OV) (R:aA) (w:av) (h:Tc s f R w):Cr 304 #[s.v,f.v] w R:=
 fB (an:=.s .o (.s (.s .o (.j [0,1,7] [.s 8 (.int .i64)] (.s .o (.s (.s .o .o) (.s (.s .o (.s .o (.s (.s .o .o) .o))) .o))) .o)) (.s .o .o))) (args:=[.sl s,.raw f]) h
def v3v (t:Int) (t1:asw) (t2 t3:Int) (R:aA) (w:av):Prop:=
 ∀k0:Nat,∀w0:av,w.heap.size<=k0->k0<w0.heap.size->ay [] w w0->R (aj (t==5)) w0
theorem v3w (t:Int) (t1:asw) (t2 t3:Int) (R:aA) (w:av) (h:v3v t t1 t2 t3 R w):Cr 305 #[ah #[O U t,ab t1,O U t2,O U t3]] w R:=
 fB (an:=.s .o (.s .o .o)) (args:=[.agg (jU [.int .i64 t,.str t1,.int .i64 t2,.int .i64 t3])]) h
def Z3 (R:aA) (w:av):Prop:=
 ∃l0:Sl,∃w0:av,((au 52 16 #[.mk 1 (ab (ao #[43])),.mk 2 (ab (ao #[45])),.mk 3 (ab (ao #[42])),.mk 4 (ab (ao #[47])),.mk 5 (ab (ao #[37])),.mk 6 (ab (ao #[60])),.mk 7 (ab (ao #[60,61])),.mk 8 (ab (ao #[62])),.mk 9 (ab (ao #[62,61])),.mk 10 (ab (ao #[61,61])),.mk 11 (ab (ao #[33,61])),.mk 12 (ab (ao #[38,38])),.mk 13 (ab (ao #[124,124])),.mk 14 (ab (ao #[45])),.mk 15 (ab (ao #[33]))]).run aq w)=(.ok l0.v w0)/\
 R l0.v w0
theorem agf (R:aA) (w:av) (h:Z3 R w):Cr 263 #[] w R:=
 fB (an:=.s .o (.s .o .o)) (args:=[]) h
def U6 (r:Addr) (k:Int) (R:aA) (w:av):Prop:=
 ((k==6)=true->∀k0:Nat,∀w0:av,w.heap.size<=k0->k0<w0.heap.size->ay [] w w0->az aq 318 #[ae (some r)] w0 fun e0 w1=>∃i0 i1:Int,∃s0:asw,∃i2:Int,∃l0:Sl,∃i3:Int,e0=(ak (ah #[O U i0,O U i1,ab s0,O U i2,l0.v,O U i3]))/\
  aR [k0] w0 w1/\
  ∀w2:av,ay [k0] w1 w2->R (ah #[O U i0,O U i1,ab s0,O U i2,l0.v,O U i3]) w2)/\
 ((k==6)=false->∀k1:Nat,∀w3:av,w.heap.size<=k1->k1<w3.heap.size->ay [] w w3->az aq 306 #[ae (some r),O U (ar U (k+1))] w3 fun e1 w4=>∃i4 i5:Int,∃s1:asw,∃i6:Int,∃l1:Sl,∃i7:Int,e1=(ak (ah #[O U i4,O U i5,ab s1,O U i6,l1.v,O U i7]))/\
  aR [k1] w3 w4/\
  ∀k2:Nat,∀w5:av,w4.heap.size<=k2->k2<w5.heap.size->ay [] w4 w5->az aq 319 #[ae (some r),O U k] w5 fun e2 w6=>∃i8:Int,e2=(ak (O U i8))/\
   aR [k1,k2] w5 w6/\
   ∃J0:Nat->Int->Int->Int->asw->Int->Sl->Int->av->Prop,∃k3:Nat,J0 k3 i8 i4 i5 s1 i6 l1 i7 w6/\
   ∀k4:Nat,∀i9 i10 i11:Int,∀s2:asw,∀i12:Int,∀l2:Sl,∀i13:Int,∀w7:av,J0 k4 i9 i10 i11 s2 i12 l2 i13 w7->((i9 !=0)=true->∃i14:Int,Cells w7 ((r.add 0).add 1) [O U i14]/\
    ∃k5 k6:Nat,∃z0:List aw,∃k7:Nat,((r.add 0).add 1)=⟨k5,k6,none⟩/\
    Blk w7 k5 k7 z0/\
    (k6+1)<=z0.length/\
    k1≠k5/\
    k2≠k5/\
    ∀w8:av,ay [k5] w7 w8->Blk w8 k5 k7 (bO z0 k6 [O U (ar U (i14+1))])->az aq 306 #[ae (some r),O U (ar U (k+1))] w8 fun e3 w9=>∃i15 i16:Int,∃s3:asw,∃i17:Int,∃l3:Sl,∃i18:Int,e3=(ak (ah #[O U i15,O U i16,ab s3,O U i17,l3.v,O U i18]))/\
     aR [k1,k2] w8 w9/\
     ∀k8:Nat,∀cK:av,w9.heap.size<=k8->k8<cK.heap.size->ay [] w9 cK->∃l4:Sl,∃cY:av,((au 49 2 #[.mk 0 (ah #[O U i10,O U i11,ab s2,O U i12,l2.v,O U i13]),.mk 1 (ah #[O U i15,O U i16,ab s3,O U i17,l3.v,O U i18])]).run aq cK)=(.ok l4.v cY)/\
     aR [k1,k2,k8] cK cY/\
     ∀dz:av,ay [k2] cY dz->az aq 319 #[ae (some r),O U k] dz fun e4 dF=>∃i19:Int,e4=(ak (O U i19))/\
      aR [k1,k2,k8] dz dF/\
      ∃k9:Nat,k9<k4/\
      J0 k9 i19 5 0 (ao #[]) i9 l4 i13 dF)/\
   ((i9 !=0)=false->∀eI:av,ay [k1] w7 eI->R (ah #[O U i10,O U i11,ab s2,O U i12,l2.v,O U i13]) eI))
theorem Z4 (r:Addr) (k:Int) (R:aA) (w:av) (h:U6 r k R w):Cr 306 #[ae (some r),O U k] w R:=
 fB (an:=.s .o (.s (.s .o (.s (.s .o .o) .o)) (.s .o (.s (.s .o (.j [0,1,4,5] [.s 6 (.int .i64),.b 5 [.int .i64,.int .i64,.str,.int .i64,.sl,.int .i64]] (.s (.s .o (.s .o .o)) (.s (.s .o (.s .o .o)) .o)) .o)) (.s .o .o))))) (args:=[.ad r,.int .i64 k]) h
def Z5 (r:Addr) (R:aA) (w:av):Prop:=
 ∀k0 k1:Nat,∀w0:av,w.heap.size<=k0->k0<w0.heap.size->w.heap.size<=k1->k1<w0.heap.size->ay [] w w0->az aq 328 #[ae (some (r.add 0))] w0 fun e0 w1=>∃i0:Int,∃s0:asw,∃i1 i2:Int,e0=(ak (ah #[O U i0,ab s0,O U i1,O U i2]))/\
  aR [k0,k1] w0 w1/\
  ∀k2 k3:Nat,∀w2:av,w1.heap.size<=k2->k2<w2.heap.size->w1.heap.size<=k3->k3<w2.heap.size->ay [] w1 w2->∃J0:Option Addr->Int->Int->asw->Int->Sl->Int->Int->Int->asw->Int->Sl->Int->av->Prop,(∀q0:Option Addr,∀i3 i4:Int,∀s1:asw,∀i5:Int,∀l0:Sl,∀i6 i7 i8:Int,∀s2:asw,∀i9:Int,∀l1:Sl,∀i10:Int,∀w3:av,J0 q0 i3 i4 s1 i5 l0 i6 i7 i8 s2 i9 l1 i10 w3->∃p0:Addr,q0=(some p0)/\
   ∃i11:Int,Cells w3 ((p0.add 0).add 1) [O U i11]/\
   ∃p1:Addr,q0=(some p1)/\
   ∃k4 k5:Nat,∃z0:List aw,∃k6:Nat,((p1.add 0).add 1)=⟨k4,k5,none⟩/\
   Blk w3 k4 k6 z0/\
   (k5+1)<=z0.length/\
   k0≠k4/\
   k1≠k4/\
   k2≠k4/\
   k3≠k4/\
   ∀w4:av,ay [k4] w3 w4->Blk w4 k4 k6 (bO z0 k5 [O U (ar U (i11+1))])->∀w5:av,ay [k1] w4 w5->R (ah #[O U i7,O U i8,ab s2,O U i9,l1.v,O U i10]) w5)/\
  az aq 307 #[ae (some (r.add 0))] w2 fun e1 w6=>∃b0:Bool,e1=(ak (aj b0))/\
   aR [k0,k1,k2,k3] w2 w6/\
   (b0=true->∀w7:av,ay [k1] w6 w7->R (ah #[O U 0,O U 0,ab (ao #[]),O U 0,Sl.nil.v,O U i2]) w7)/\
   (b0=false->∃l2:Sl,∃w8:av,((au 52 2 #[.mk 0 (ab (ao #[45])),.mk 1 (ab (ao #[33]))]).run aq w6)=(.ok l2.v w8)/\
   aR [k0,k1,k2,k3] w6 w8/\
   az aq 329 #[ae (some (r.add 0)),l2.v] w8 fun e2 w9=>∃b1:Bool,e2=(ak (aj b1))/\
    aR [k0,k1,k2,k3] w8 w9/\
    (b1=true->∀cK:av,ay [k3] w9 cK->∃J1:Int->Int->asw->Int->Sl->Int->av->Prop,(∀i12 i13:Int,∀s3:asw,∀i14:Int,∀l3:Sl,∀i15:Int,∀cY:av,J1 i12 i13 s3 i14 l3 i15 cY->az aq 330 #[ae (some r),.func (.func 318) #[ae (some r)] #[]] cY fun e3 dz=>∃i16 i17:Int,∃s4:asw,∃i18:Int,∃l4:Sl,∃i19:Int,e3=(ak (ah #[O U i16,O U i17,ab s4,O U i18,l4.v,O U i19]))/\
      aR [k0,k1,k2,k3] cY dz/\
      ∃l5:Sl,∃dF:av,((au 49 1 #[.mk 0 (ah #[O U i16,O U i17,ab s4,O U i18,l4.v,O U i19])]).run aq dz)=(.ok l5.v dF)/\
      aR [k0,k1,k2,k3] dz dF/\
      ∀eI:av,ay [k1,k3] dF eI->R (ah #[O U i12,O U i13,ab s3,O U i14,l5.v,O U i15]) eI)/\
     ((s0.toList==((ao #[33]).toList))=true->∀fQ:av,ay [k3] cK fQ->J1 4 0 (ao #[]) 15 Sl.nil i2 fQ)/\
     ((s0.toList==((ao #[33]).toList))=false->J1 4 0 (ao #[]) 14 Sl.nil i2 cK))/\
    (b1=false->∃l6:Sl,∃gP:av,((au 52 1 #[.mk 0 (ab (ao #[40]))]).run aq w9)=(.ok l6.v gP)/\
    aR [k0,k1,k2,k3] w9 gP/\
    az aq 329 #[ae (some (r.add 0)),l6.v] gP fun e4 fY=>∃b2:Bool,e4=(ak (aj b2))/\
     aR [k0,k1,k2,k3] gP fY/\
     (b2=true->Blk fY k0 327 [ae (some r)]->k1≠k0->k2≠k0->k3≠k0->az aq 330 #[ae (some r),.func (.func 331) #[] #[ae (some ⟨k0,0,none⟩)]] fY fun e5 iv=>∃i20 i21:Int,∃s5:asw,∃i22:Int,∃l7:Sl,∃i23:Int,e5=(ak (ah #[O U i20,O U i21,ab s5,O U i22,l7.v,O U i23]))/\
      aR [k1,k2,k3] fY iv/\
      ∃q1:Option Addr,Blk iv k0 327 [ae q1]/\
      ∀ji:av,ay [k1] iv ji->Blk ji k0 327 [ae q1]->R (ah #[O U i20,O U i21,ab s5,O U i22,l7.v,O U i23]) ji)/\
     (b2=false->((i0==3)=true->∀iw:av,ay [] fY iw->k0≠k1->k0≠k2->k0≠k3->k1≠k2->k1≠k3->k2≠k3->∃J2:Nat->Prop,J2 k2/\
      th J2 k3/\
      th J2 k3/\
      ∀j9:av,ay [k3] iw j9->J0 (some r) 0 0 (ao #[]) 0 Sl.nil 0 1 i1 (ao #[]) 0 Sl.nil i2 j9)/\
     ((i0==3)=false->((i0==1)=true->∀nU:av,ay [] fY nU->k0≠k1->k0≠k2->k0≠k3->k1≠k2->k1≠k3->k2≠k3->∃J3:Nat->Prop,J3 k2/\
      th J3 k3/\
      th J3 k3/\
      ∀pc:av,ay [k3] nU pc->J0 (some r) 0 0 (ao #[]) 0 Sl.nil 0 2 0 s0 0 Sl.nil i2 pc)/\
     ((i0==1)=false->(((i0==2)&&(s0.toList==((ao #[105,110]).toList)))=true->∃i24:Int,Cells fY ((r.add 0).add 1) [O U i24]/\
      ∃k7 k8:Nat,∃z1:List aw,∃k9:Nat,((r.add 0).add 1)=⟨k7,k8,none⟩/\
      Blk fY k7 k9 z1/\
      (k8+1)<=z1.length/\
      k0≠k7/\
      k1≠k7/\
      k2≠k7/\
      k3≠k7/\
      ∀qg:av,ay [k7] fY qg->Blk qg k7 k9 (bO z1 k8 [O U (ar U (i24+1))])->az aq 332 #[ae (some (r.add 0)),ab (ao #[40])] qg fun e6 mL=>e6=(ak (ai #[]))/\
       aR [k0,k1,k2,k3] qg mL/\
       az aq 333 #[ae (some r)] mL fun e7 oe=>∃s6:asw,e7=(ak (ab s6))/\
        aR [k0,k1,k2,k3] mL oe/\
        ∀pT:av,ay [k3] oe pT->az aq 332 #[ae (some (r.add 0)),ab (ao #[41])] pT fun e8 tI=>e8=(ak (ai #[]))/\
         aR [k0,k1,k2,k3] pT tI/\
         ∀wD:av,ay [k1] tI wD->R (ah #[O U 3,O U 0,ab s6,O U 0,Sl.nil.v,O U i2]) wD)/\
     (((i0==2)&&(s0.toList==((ao #[105,110]).toList)))=false->az aq 334 #[ae (some (r.add 0))] fY fun e9 GJ=>e9=(ak (ai #[]))/\
      aR [k0,k1,k2,k3] fY GJ/\
      ∀PO:av,ay [k1] GJ PO->R (ah #[O U 0,O U 0,ab (ao #[]),O U 0,Sl.nil.v,O U i2]) PO))))))
theorem agh (r:Addr) (R:aA) (w:av) (h:Z5 r R w):Cr 318 #[ae (some r)] w R:=
 fB (an:=.s .o (.s .o (.s .o (.j [1,2,3,4] [.b 1 [.ptr],.b 2 [.int .i64,.int .i64,.str,.int .i64,.sl,.int .i64],.b 4 [.int .i64,.int .i64,.str,.int .i64,.sl,.int .i64]] (.s .o (.s (.s .o .o) (.s .o (.s (.s .o (.j [1,2,3,4] [.b 4 [.int .i64,.int .i64,.str,.int .i64,.sl,.int .i64]] (.s .o (.s .o .o)) (.s .o (.s .o .o)))) (.s .o (.s (.s .o .o) (.s .o (.s .o (.s .o (.s .o (.s .o (.s (.s .o (.s .o (.s .o (.s .o (.s .o .o))))) (.s .o (.s .o .o)))))))))))))) (.s .o (.s .o .o)))))) (args:=[.ad r]) h
def Z6 (c:Addr) (R:aA) (w:av):Prop:=
 ∀k0:Nat,∀w0:av,w.heap.size<=k0->k0<w0.heap.size->ay [] w w0->∃l0:Sl,Cells w0 (c.add 0) [l0.v]/\
 ∃i0:Int,Cells w0 (c.add 1) [O U i0]/\
 ∃p0:Addr,ck l0 i0 4 p0/\
 ∃i1:Int,∃s0:asw,∃i2 i3:Int,Cells w0 p0 [O U i1,ab s0,O U i2,O U i3]/\
 ∀w1:av,ay [k0] w0 w1->R (ah #[O U i1,ab s0,O U i2,O U i3]) w1
theorem agi (c:Addr) (R:aA) (w:av) (h:Z6 c R w):Cr 328 #[ae (some c)] w R:=
 fB (an:=.s .o (.s .o .o)) (args:=[.ad c]) h
def v7v (c:Addr) (R:aA) (w:av):Prop:=
 ∃i0:Int,Cells w ((c.add 2).add 0) [O U i0]/\
 R (aj (i0 !=0)) w
theorem v7w (c:Addr) (R:aA) (w:av) (h:v7v c R w):Cr 307 #[ae (some c)] w R:=
 fB (an:=.s .o (.s .o .o)) (args:=[.ad c]) h
def v8v (c:Addr) (ET:Sl) (R:aA) (w:av):Prop:=
 az aq 328 #[ae (some c)] w fun e0 w0=>∃i0:Int,∃s0:asw,∃i1 i2:Int,e0=(ak (ah #[O U i0,ab s0,O U i1,O U i2]))/\
  ∀k0:Nat,∀w1:av,w0.heap.size<=k0->k0<w1.heap.size->ay [] w0 w1->∃J0:Bool->av->Prop,(∀b0:Bool,∀w2:av,J0 b0 w2->R (aj b0) w2)/\
  az aq 307 #[ae (some c)] w1 fun e1 w3=>∃b1:Bool,e1=(ak (aj b1))/\
   aR [k0] w1 w3/\
   (((!b1)&&(i0==4))=true->az aq 154 #[ET.v,ab s0] w3 fun e2 w4=>∃b2:Bool,e2=(ak (aj b2))/\
    aR [k0] w3 w4/\
    J0 b2 w4)/\
   (((!b1)&&(i0==4))=false->J0 false w3)
theorem v8w (c:Addr) (ET:Sl) (R:aA) (w:av) (h:v8v c ET R w):Cr 329 #[ae (some c),ET.v] w R:=
 fB (an:=.s .o (.s .o (.s (.j [5] [.s 4 .bool] .o .o) .o))) (args:=[.ad c,.sl ET]) h
def Z7 (r:Addr) (read:OV) (R:aA) (w:av):Prop:=
 ∀k0:Nat,∀w0:av,w.heap.size<=k0->k0<w0.heap.size->ay [] w w0->∃i0:Int,Cells w0 (r.add 4) [O U i0]/\
 ((i0==20)=true->az aq 336 #[ae (some (r.add 0)),O U 21] w0 fun e0 w1=>e0=(ak (ai #[]))/\
  aR [k0] w0 w1/\
  ∀w2:av,ay [k0] w1 w2->R (ah #[O U 0,O U 0,ab (ao #[]),O U 0,Sl.nil.v,O U 0]) w2)/\
 ((i0==20)=false->∃i1:Int,Cells w0 ((r.add 0).add 1) [O U i1]/\
 ∃k1 k2:Nat,∃z0:List aw,∃k3:Nat,((r.add 0).add 1)=⟨k1,k2,none⟩/\
 Blk w0 k1 k3 z0/\
 (k2+1)<=z0.length/\
 k0≠k1/\
 ∀w3:av,ay [k1] w0 w3->Blk w3 k1 k3 (bO z0 k2 [O U (ar U (i1+1))])->∃i2:Int,Cells w3 (r.add 4) [O U i2]/\
 ∃k4 k5:Nat,∃z1:List aw,∃k6:Nat,(r.add 4)=⟨k4,k5,none⟩/\
 Blk w3 k4 k6 z1/\
 (k5+1)<=z1.length/\
 k0≠k4/\
 ∀w4:av,ay [k4] w3 w4->Blk w4 k4 k6 (bO z1 k5 [O U (ar U (i2+1))])->∃k7:Nat,∃z2:List aw,∃z3:List aw,read.v=(.func (.func k7) z2.toArray z3.toArray)/\
 (∀x0:Array aw,∀w5:av,((callFunc k7 x0).run aq w5)=(.ok (.enter k7 x0) w5))/\
 az aq k7 ((zq (zq z2 []) z3).toArray) w4 fun e1 w6=>∃i3 i4:Int,∃s0:asw,∃i5:Int,∃l0:Sl,∃i6:Int,e1=(ak (ah #[O U i3,O U i4,ab s0,O U i5,l0.v,O U i6]))/\
  aR [k0] w4 w6/\
  ∀k8:Nat,∀w7:av,w6.heap.size<=k8->k8<w7.heap.size->ay [] w6 w7->∃i7:Int,Cells w7 (r.add 4) [O U i7]/\
  ∃k9 rn:Nat,∃z4:List aw,∃ou:Nat,(r.add 4)=⟨k9,rn,none⟩/\
  Blk w7 k9 ou z4/\
  (rn+1)<=z4.length/\
  k0≠k9/\
  k8≠k9/\
  ∀w8:av,ay [k9] w7 w8->Blk w8 k9 ou (bO z4 rn [O U (ar U (i7-1))])->∀w9:av,ay [k0] w8 w9->R (ah #[O U i3,O U i4,ab s0,O U i5,l0.v,O U i6]) w9)
theorem agj (r:Addr) (read:OV) (R:aA) (w:av) (h:Z7 r read R w):Cr 330 #[ae (some r),read.v] w R:=
 fB (an:=.s .o (.s (.s .o (.s (.s .o (.s .o .o)) .o)) (.s .o (.s .o (.s .o (.s .o (.s .o .o))))))) (args:=[.ad r,.raw read]) h
def Z8 (c:Addr) (err:Int) (R:aA) (w:av):Prop:=
 az aq 307 #[ae (some c)] w fun e0 w0=>∃b0:Bool,e0=(ak (aj b0))/\
  ((!b0)=true->az aq 328 #[ae (some c)] w0 fun e1 w1=>∃i0:Int,∃s0:asw,∃i1 i2:Int,e1=(ak (ah #[O U i0,ab s0,O U i1,O U i2]))/\
   ∃k0 k1:Nat,∃z0:List aw,∃k2:Nat,(c.add 2)=⟨k0,k1,none⟩/\
   Blk w1 k0 k2 z0/\
   (k1+2)<=z0.length/\
   ∀w2:av,ay [k0] w1 w2->Blk w2 k0 k2 (bO z0 k1 [O U err,O U i2])->R (ai #[]) w2)/\
  ((!b0)=false->R (ai #[]) w0)
theorem agk (c:Addr) (err:Int) (R:aA) (w:av) (h:Z8 c err R w):Cr 336 #[ae (some c),O U err] w R:=
 fB (an:=.s .o (.s .o .o)) (args:=[.ad c,.int .i64 err]) h
def Z9 (nV:Addr) (R:aA) (w:av):Prop:=
 ∀k0:Nat,∀w0:av,w.heap.size<=k0->k0<w0.heap.size->ay [] w w0->∃q0:Option Addr,Cells w0 nV [ae q0]/\
 az aq 306 #[ae q0,O U 0] w0 fun e0 w1=>∃i0 i1:Int,∃s0:asw,∃i2:Int,∃l0:Sl,∃i3:Int,e0=(ak (ah #[O U i0,O U i1,ab s0,O U i2,l0.v,O U i3]))/\
  aR [k0] w0 w1/\
  ∀k1:Nat,∀w2:av,w1.heap.size<=k1->k1<w2.heap.size->ay [] w1 w2->∃q1:Option Addr,Cells w2 nV [ae q1]/\
  ∃p0:Addr,q1=(some p0)/\
  az aq 332 #[ae (some (p0.add 0)),ab (ao #[41])] w2 fun e1 w3=>e1=(ak (ai #[]))/\
   aR [k0,k1] w2 w3/\
   ∀w4:av,ay [k0] w3 w4->R (ah #[O U i0,O U i1,ab s0,O U i2,l0.v,O U i3]) w4
theorem agl (nV:Addr) (R:aA) (w:av) (h:Z9 nV R w):Cr 331 #[ae (some nV)] w R:=
 fB (an:=.s .o (.s .o (.s .o (.s .o .o)))) (args:=[.ad nV]) h
def v9v (c:Addr) (sign:asw) (R:aA) (w:av):Prop:=
 ∃l0:Sl,∃w0:av,((au 52 1 #[.mk 0 (ab sign)]).run aq w)=(.ok l0.v w0)/\
 az aq 329 #[ae (some c),l0.v] w0 fun e0 w1=>∃b0:Bool,e0=(ak (aj b0))/\
  ((!b0)=true->az aq 334 #[ae (some c)] w1 fun e1 w2=>e1=(ak (ai #[]))/\
   R (ai #[]) w2)/\
  ((!b0)=false->∃i0:Int,Cells w1 (c.add 1) [O U i0]/\
  ∃k0 k1:Nat,∃z0:List aw,∃k2:Nat,(c.add 1)=⟨k0,k1,none⟩/\
  Blk w1 k0 k2 z0/\
  (k1+1)<=z0.length/\
  ∀w3:av,ay [k0] w1 w3->Blk w3 k0 k2 (bO z0 k1 [O U (ar U (i0+1))])->R (ai #[]) w3)
theorem v9w (c:Addr) (sign:asw) (R:aA) (w:av) (h:v9v c sign R w):Cr 332 #[ae (some c),ab sign] w R:=
 fB (an:=.s (.s .o (.s (.s .o .o) .o)) .o) (args:=[.ad c,.str sign]) h
def aaa (c:Addr) (R:aA) (w:av):Prop:=
 ∃J0:av->Prop,(∀w0:av,J0 w0->az aq 336 #[ae (some c),O U 4] w0 fun e0 w1=>e0=(ak (ai #[]))/\
  R (ai #[]) w1)/\
 az aq 328 #[ae (some c)] w fun e1 w2=>∃i0:Int,∃s0:asw,∃i1 i2:Int,e1=(ak (ah #[O U i0,ab s0,O U i1,O U i2]))/\
  ((i0==5)=true->az aq 336 #[ae (some c),O U 3] w2 fun e2 w3=>e2=(ak (ai #[]))/\
   J0 w3)/\
  ((i0==5)=false->J0 w2)
theorem agm (c:Addr) (R:aA) (w:av) (h:aaa c R w):Cr 334 #[ae (some c)] w R:=
 fB (an:=.j [0] [] (.s .o (.s .o .o)) .o) (args:=[.ad c]) h
def aab (r:Addr) (R:aA) (w:av):Prop:=
 az aq 328 #[ae (some (r.add 0))] w fun e0 w0=>∃i0:Int,∃s0:asw,∃i1 i2:Int,e0=(ak (ah #[O U i0,ab s0,O U i1,O U i2]))/\
  ∀k0:Nat,∀w1:av,w0.heap.size<=k0->k0<w1.heap.size->ay [] w0 w1->az aq 307 #[ae (some (r.add 0))] w1 fun e1 w2=>∃b0:Bool,e1=(ak (aj b0))/\
   aR [k0] w1 w2/\
   ((b0||(i0 !=1))=true->az aq 334 #[ae (some (r.add 0))] w2 fun e2 w3=>e2=(ak (ai #[]))/\
    aR [k0] w2 w3/\
    R (ab (ao #[])) w3)/\
   ((b0||(i0 !=1))=false->∃i3:Int,Cells w2 ((r.add 0).add 1) [O U i3]/\
   ∃k1 k2:Nat,∃z0:List aw,∃k3:Nat,((r.add 0).add 1)=⟨k1,k2,none⟩/\
   Blk w2 k1 k3 z0/\
   (k2+1)<=z0.length/\
   k0≠k1/\
   ∀w4:av,ay [k1] w2 w4->Blk w4 k1 k3 (bO z0 k2 [O U (ar U (i3+1))])->R (ab s0) w4)
theorem agn (r:Addr) (R:aA) (w:av) (h:aab r R w):Cr 333 #[ae (some r)] w R:=
 fB (an:=.s .o (.s .o (.s (.s .o (.s (.s .o (.s .o .o)) .o)) (.s .o (.s .o .o))))) (args:=[.ad r]) h
def aac (r:Addr) (k:Int) (R:aA) (w:av):Prop:=
 ∃J0:Nat->Int->av->Prop,∃k0:Nat,J0 k0 1 w/\
 ∀k1:Nat,∀i0:Int,∀w0:av,J0 k1 i0 w0->((decide (i0<=13))=true->∃J1:Bool->av->Prop,(∀b0:Bool,∀w1:av,J1 b0 w1->(b0=true->R (O U i0) w1)/\
   (b0=false->∃k2:Nat,k2<k1/\
   J0 k2 (ar U (i0+1)) w1))/\
  ∀w2:av,ay [] w0 w2->az aq 293 #[O U i0] w2 fun e0 w3=>∃i1:Int,e0=(ak (O U i1))/\
   ((i1==k)=true->∃l0:Sl,Cells w3 (r.add 5) [l0.v]/\
    ∃p0:Addr,ck l0 i0 1 p0/\
    ∃s0:asw,Cells w3 p0 [ab s0]/\
    ∃l1:Sl,∃w4:av,((au 52 1 #[.mk 0 (ab s0)]).run aq w3)=(.ok l1.v w4)/\
    az aq 329 #[ae (some (r.add 0)),l1.v] w4 fun e1 w5=>∃b1:Bool,e1=(ak (aj b1))/\
     J1 b1 w5)/\
   ((i1==k)=false->J1 false w3))/\
 ((decide (i0<=13))=false->R (O U 0) w0)
theorem ago (r:Addr) (k:Int) (R:aA) (w:av) (h:aac r k R w):Cr 319 #[ae (some r),O U k] w R:=
 fB (an:=.s .o (.s (.s .o (.j [0,1] [.s 5 (.int .i64)] (.s (.s .o (.s .o .o)) (.s (.s (.j [0,1,5] [.s 27 .bool] .o .o) (.s (.s .o .o) .o)) .o)) .o)) (.s .o .o))) (args:=[.ad r,.int .i64 k]) h
def aad (op:Int) (R:aA) (w:av):Prop:=
 (((decide (op>=3))&&(decide (op<=5)))=true->R (O U 5) w)/\
 (((decide (op>=3))&&(decide (op<=5)))=false->∃J0:Bool->av->Prop,(∀b0:Bool,∀w0:av,J0 b0 w0->(b0=true->R (O U 4) w0)/\
  (b0=false->(((decide (op>=6))&&(decide (op<=9)))=true->R (O U 3) w0)/\
  (((decide (op>=6))&&(decide (op<=9)))=false->∃J1:Bool->av->Prop,(∀b1:Bool,∀w1:av,J1 b1 w1->(b1=true->R (O U 2) w1)/\
   (b1=false->((op==12)=true->R (O U 1) w1)/\
   ((op==12)=false->((op==13)=true->R (O U 0) w1)/\
   ((op==13)=false->R (O U 6) w1))))/\
  ((op==10)=true->J1 (op==10) w0)/\
  ((op==10)=false->J1 (op==11) w0))))/\
 ((op==1)=true->J0 (op==1) w)/\
 ((op==1)=false->J0 (op==2) w))
theorem agp (op:Int) (R:aA) (w:av) (h:aad op R w):Cr 293 #[O U op] w R:=
 fB (an:=.s .o (.s (.s .o (.s (.s .o .o) (.j [0] [.s 10 .bool] (.s .o (.s .o .o)) (.s (.s .o .o) (.s .o (.s (.s .o .o) (.j [0] [.s 22 .bool] (.s .o (.s .o .o)) (.s (.s .o .o) (.s .o (.s (.s .o .o) (.s .o (.s (.s .o .o) .o)))))))))))) (.s .o .o))) (args:=[.int .i64 op]) h
def Td (r:Addr) (R:aA) (w:av):Prop:=
 ∀k0 k1:Nat,∀w0:av,w.heap.size<=k0->k0<w0.heap.size->w.heap.size<=k1->k1<w0.heap.size->ay [] w w0->∃l0:Sl,∃w1:av,((au 52 1 #[.mk 0 (ab (ao #[123]))]).run aq w0)=(.ok l0.v w1)/\
 aR [k0,k1] w0 w1/\
 az aq 73 #[ae (some (r.add 0)),l0.v] w1 fun e0 w2=>e0=(ak (ai #[]))/\
  aR [k0,k1] w1 w2/\
  (Blk w2 k0 127 [ae (some r)]->Blk w2 k1 23 [Sl.nil.v]->az aq 254 #[ae (some r),ab (ao #[125]),.func (.func 255) #[] #[ae (some ⟨k1,0,none⟩),ae (some ⟨k0,0,none⟩)]] w2 fun e1 w3=>e1=(ak (ai #[]))/\
   ∃q0:Option Addr,Blk w3 k0 127 [ae q0]/\
   ∃l1:Sl,Blk w3 k1 23 [l1.v]/\
   R l1.v w3)
theorem aae (r:Addr) (R:aA) (w:av) (h:Td r R w):Cr 210 #[ae (some r)] w R:=
 fB (an:=.s .o (.s .o (.s .o (.s .o (.s .o .o))))) (args:=[.ad r]) h
def Te (nV EU:Addr) (R:aA) (w:av):Prop:=
 ∀w0:av,ay [] w w0->∃J0:Nat->Prop,J0 nV.block/\
 ∃l0:Sl,Cells w0 nV [l0.v]/\
 ∃q0:Option Addr,Cells w0 EU [ae q0]/\
 az aq 256 #[ae q0] w0 fun e0 w1=>∃i0:Int,∃s0:asw,∃i1 i2:Int,∃s1:asw,∃i3:Int,∃l1:Sl,∃i4 i5:Int,e0=(ak (ah #[O U i0,ab s0,O U i1,O U i2,ab s1,O U i3,l1.v,O U i4,O U i5]))/\
  bE J0 w0 w1/\
  ∃l2:Sl,∃w2:av,((au 23 1 #[.mk 0 (ah #[O U i0,ab s0,O U i1,O U i2,ab s1,O U i3,l1.v,O U i4,O U i5])]).run aq w1)=(.ok l2.v w2)/\
  bE J0 w1 w2/\
  ∃l3:Sl,∃w3:av,((Builtin.append_ #[23,23] 23 #[l0.v,l2.v]).run aq w2)=(.ok l3.v w3)/\
  bE J0 w2 w3/\
  ∃k0 k1:Nat,∃z0:List aw,∃k2:Nat,nV=⟨k0,k1,none⟩/\
  Blk w3 k0 k2 z0/\
  (k1+1)<=z0.length/\
  ∀w4:av,ay [k0] w3 w4->Blk w4 k0 k2 (bO z0 k1 [l3.v])->R (ai #[]) w4
theorem aaf (nV EU:Addr) (R:aA) (w:av) (h:Te nV EU R w):Cr 255 #[ae (some nV),ae (some EU)] w R:=
 fB (an:=.o) (args:=[.ad nV,.ad EU]) h
def Tf (r:Addr) (R:aA) (w:av):Prop:=
 ∀k0:Nat,∀w0:av,w.heap.size<=k0->k0<w0.heap.size->ay [] w w0->∃J0:Nat->Prop,∀w1:av,ay [] w0 w1->J0 (((r.add 0).add 0).block)/\
 ∃l0:Sl,Cells w1 ((r.add 0).add 0) [l0.v]/\
 ∀w2:av,ay [] w1 w2->J0 (((r.add 0).add 1).block)/\
 ∃i0:Int,Cells w2 ((r.add 0).add 1) [O U i0]/\
 ∃p0:Addr,ck l0 i0 4 p0/\
 ∀w3:av,ay [] w2 w3->J0 ((p0.add 3).block)/\
 ∃i1:Int,Cells w3 (p0.add 3) [O U i1]/\
 ∀w4:av,ay [] w3 w4->∃l1:Sl,∃w5:av,((au 52 3 #[.mk 0 (ab (ao #[115,101,116])),.mk 1 (ab (ao #[114,97,105,115,101])),.mk 2 (ab (ao #[101,109,105,116]))]).run aq w4)=(.ok l1.v w5)/\
 aR [k0] w4 w5/\
 mf w0 w4 w5/\
 bE J0 w4 w5/\
 ∀w6:av,ay [] w5 w6->az aq 141 #[ae (some (r.add 0)),l1.v] w6 fun e0 w7=>∃i2:Int,e0=(ak (O U i2))/\
  aR [k0] w6 w7/\
  mf w0 w6 w7/\
  bE J0 w6 w7/\
  ∀w8:av,ay [] w7 w8->∀k1:Nat,w0.heap.size<=k1->k1<w8.heap.size->xS [.mk w6.heap.size w7.heap.size,.mk w4.heap.size w5.heap.size] k1->((i2==0)=true->∀w9:av,ay [k1] w8 w9->az aq 79 #[ae (some (r.add 0))] w9 fun e1 cK=>e1=(ak (ai #[]))/\
   aR [k0,k1] w9 cK/\
   ∀cY:av,ay [k0] cK cY->R (ah #[O U i2,ab (ao #[]),O U 0,O U 0,ab (ao #[]),O U 0,Sl.nil.v,O U 0,O U i1]) cY)/\
  ((i2==0)=false->∀dz:av,ay [k1] w8 dz->az aq 138 #[ae (some r),ae (some ((r.add 4).add 4)),O U 2] dz fun e2 dF=>e2=(ak (ai #[]))/\
   aR [k0,k1] dz dF/\
   az aq 78 #[ae (some (r.add 0))] dF fun e3 eI=>∃b0:Bool,e3=(ak (aj b0))/\
    aR [k0,k1] dF eI/\
    ((!b0)=true->∀fQ:av,ay [k0] eI fQ->R (ah #[O U i2,ab (ao #[]),O U 0,O U 0,ab (ao #[]),O U 0,Sl.nil.v,O U 0,O U i1]) fQ)/\
    ((!b0)=false->∃i3:Int,Cells eI ((r.add 0).add 1) [O U i3]/\
    ∃k2 k3:Nat,∃z0:List aw,∃k4:Nat,((r.add 0).add 1)=⟨k2,k3,none⟩/\
    Blk eI k2 k4 z0/\
    (k3+1)<=z0.length/\
    k0≠k2/\
    k1≠k2/\
    ∀gP:av,ay [k2] eI gP->Blk gP k2 k4 (bO z0 k3 [O U (ar U (i3+1))])->az aq 209 #[ae (some (r.add 0))] gP fun e4 fY=>∃s0:asw,e4=(ak (ab s0))/\
     aR [k0,k1] gP fY/\
     ∀iv:av,ay [k1] fY iv->∃J1:Int->asw->Int->Int->asw->Int->Sl->Int->Int->av->Prop,(∀i4:Int,∀s1:asw,∀i5 i6:Int,∀s2:asw,∀i7:Int,∀l2:Sl,∀i8 i9:Int,∀ji:av,J1 i4 s1 i5 i6 s2 i7 l2 i8 i9 ji->∃l3:Sl,∃iw:av,((au 52 1 #[.mk 0 (ab (ao #[59]))]).run aq ji)=(.ok l3.v iw)/\
      aR [k0,k1] ji iw/\
      az aq 73 #[ae (some (r.add 0)),l3.v] iw fun e5 j9=>e5=(ak (ai #[]))/\
       aR [k0,k1] iw j9/\
       ∀nU:av,ay [k0] j9 nU->R (ah #[O U i4,ab s1,O U i5,O U i6,ab s2,O U i7,l2.v,O U i8,O U i9]) nU)/\
     ((i2 !=2)=true->∃l4:Sl,∃pc:av,((au 52 1 #[.mk 0 (ab (ao #[61]))]).run aq iv)=(.ok l4.v pc)/\
      aR [k0,k1] iv pc/\
      az aq 73 #[ae (some (r.add 0)),l4.v] pc fun e6 qg=>e6=(ak (ai #[]))/\
       aR [k0,k1] pc qg/\
       az aq 253 #[ae (some (r.add 0))] qg fun e7 mL=>∃i10 i11:Int,∃s3:asw,∃i12:Int,∃l5:Sl,∃i13:Int,e7=(ak (ah #[O U i10,O U i11,ab s3,O U i12,l5.v,O U i13]))/\
        aR [k0,k1] qg mL/\
        ∀oe:av,ay [k1] mL oe->J1 i2 s0 i10 i11 s3 i12 l5 i13 i1 oe)/\
     ((i2 !=2)=false->J1 i2 s0 0 0 (ao #[]) 0 Sl.nil 0 i1 iv)))
theorem aag (r:Addr) (R:aA) (w:av) (h:Tf r R w):Cr 256 #[ae (some r)] w R:=
 fB (an:=.s .o (.s (.l false [] []) (.s (.s .o (.s (.s .o (.s .o .o)) .o)) (.s (.s .o (.s .o (.s (.s .o .o) .o))) (.s .o (.s .o (.j [0,2,3] [.b 3 [.int .i64,.str,.int .i64,.int .i64,.str,.int .i64,.sl,.int .i64,.int .i64]] (.s .o (.s (.s .o .o) .o)) (.s .o (.s .o .o))))))))) (args:=[.ad r]) h
def Tg (r:Addr) (sign:asw) (read:OV) (R:aA) (w:av):Prop:=
 ∃J0:Nat->av->Prop,∃k0:Nat,J0 k0 w/\
 ∀k1:Nat,∀w0:av,J0 k1 w0->∃J1:Bool->av->Prop,(∀b0:Bool,∀w1:av,J1 b0 w1->(b0=true->∃k2:Nat,∃z0:List aw,∃z1:List aw,read.v=(.func (.func k2) z0.toArray z1.toArray)/\
   (∀x0:Array aw,∀w2:av,((callFunc k2 x0).run aq w2)=(.ok (.enter k2 x0) w2))/\
   az aq k2 ((zq (zq z0 []) z1).toArray) w1 fun e0 w3=>e0=(ak (ai #[]))/\
    ∃k3:Nat,k3<k1/\
    J0 k3 w3)/\
  (b0=false->R (ai #[]) w1))/\
 az aq 78 #[ae (some (r.add 0))] w0 fun e1 w4=>∃b1:Bool,e1=(ak (aj b1))/\
  (b1=true->∃l0:Sl,∃w5:av,((au 52 1 #[.mk 0 (ab sign)]).run aq w4)=(.ok l0.v w5)/\
   az aq 75 #[ae (some (r.add 0)),l0.v] w5 fun e2 w6=>∃i0:Int,e2=(ak (O U i0))/\
    J1 (i0==0) w6)/\
  (b1=false->J1 false w4)
theorem aah (r:Addr) (sign:asw) (read:OV) (R:aA) (w:av) (h:Tg r sign read R w):Cr 254 #[ae (some r),ab sign,read.v] w R:=
 fB (an:=.j [0,1,2] [] (.s (.s (.j [0,1,2] [.s 18 .bool] .o .o) (.s .o .o)) .o) .o) (args:=[.ad r,.str sign,.raw read]) h
def Th (r:Addr) (kind:Int) (R:aA) (w:av):Prop:=
 ∀k0:Nat,∀w0:av,w.heap.size<=k0->k0<w0.heap.size->ay [] w w0->az aq 74 #[ae (some r),O U kind] w0 fun e0 w1=>∃i0:Int,∃s0 s1 s2:asw,∃l0 l1 l2 l3:Sl,∃i1:Int,e0=(ak (ah #[O U i0,ab s0,ab s1,ab s2,l0.v,l1.v,l2.v,l3.v,O U i1]))/\
  aR [k0] w0 w1/\
  ((decide (kind>=3))=true->∀k1:Nat,∀w2:av,w1.heap.size<=k1->k1<w2.heap.size->ay [] w1 w2->∃l4:Sl,∃w3:av,((au 52 1 #[.mk 0 (ab (ao #[45,62]))]).run aq w2)=(.ok l4.v w3)/\
   aR [k0,k1] w2 w3/\
   az aq 73 #[ae (some (r.add 0)),l4.v] w3 fun e1 w4=>e1=(ak (ai #[]))/\
    aR [k0,k1] w3 w4/\
    az aq 209 #[ae (some (r.add 0))] w4 fun e2 w5=>∃s3:asw,e2=(ak (ab s3))/\
     aR [k0,k1] w4 w5/\
     ∀w6:av,ay [k1] w5 w6->∃l5:Sl,∃w7:av,((au 52 1 #[.mk 0 (ab (ao #[59]))]).run aq w6)=(.ok l5.v w7)/\
     aR [k0,k1] w6 w7/\
     az aq 73 #[ae (some (r.add 0)),l5.v] w7 fun e3 w8=>e3=(ak (ai #[]))/\
      aR [k0,k1] w7 w8/\
      ∀w9:av,ay [k0] w8 w9->R (ah #[O U i0,ab s0,ab s1,ab s3,l0.v,l1.v,l2.v,l3.v,O U i1]) w9)/\
  ((decide (kind>=3))=false->∀k2:Nat,∀cK:av,w1.heap.size<=k2->k2<cK.heap.size->ay [] w1 cK->∃l6:Sl,∃cY:av,((au 52 1 #[.mk 0 (ab (ao #[123]))]).run aq cK)=(.ok l6.v cY)/\
  aR [k0,k2] cK cY/\
  az aq 73 #[ae (some (r.add 0)),l6.v] cY fun e4 dz=>e4=(ak (ai #[]))/\
   aR [k0,k2] cY dz/\
   (Blk dz k2 27 [O U i0,ab s0,ab s1,ab s2,l0.v,l1.v,l2.v,l3.v,O U i1]->k0≠k2->az aq 77 #[ae (some r),ae (some ⟨k2,0,none⟩)] dz fun e5 dF=>e5=(ak (ai #[]))/\
    aR [k0] dz dF/\
    ∃i2:Int,∃s4 s5 s6:asw,∃l7 l8 l9 l10:Sl,∃i3:Int,Blk dF k2 27 [O U i2,ab s4,ab s5,ab s6,l7.v,l8.v,l9.v,l10.v,O U i3]/\
    ∀eI:av,ay [k0] dF eI->Blk eI k2 27 [O U i2,ab s4,ab s5,ab s6,l7.v,l8.v,l9.v,l10.v,O U i3]->R (ah #[O U i2,ab s4,ab s5,ab s6,l7.v,l8.v,l9.v,l10.v,O U i3]) eI))
theorem aai (r:Addr) (kind:Int) (R:aA) (w:av) (h:Th r kind R w):Cr 143 #[ae (some r),O U kind] w R:=
 fB (an:=.s .o (.s .o (.s (.s .o (.s (.s .o (.s .o (.s .o (.s .o .o)))) .o)) (.s .o (.s .o (.s .o .o)))))) (args:=[.ad r,.int .i64 kind]) h
def aaj (c:Sl) (c1:Int) (c2 c3 c4:asw) (c5 c6 c7 c8:Sl) (c9:Int) (R:aA) (w:av):Prop:=
 ∀k0 k1:Nat,∀w0:av,w.heap.size<=k0->k0<w0.heap.size->w.heap.size<=k1->k1<w0.heap.size->ay [] w w0->az aq 36 #[ah #[O U c1,ab c2,ab c3,ab c4,c5.v,c6.v,c7.v,c8.v,O U c9]] w0 fun e0 w1=>∃i0 i1:Int,e0=(ak (ai #[O U i0,O U i1]))/\
  aR [k0,k1] w0 w1/\
  (Blk w1 k1 72 [ae none,Sl.nil.v,aj false,O U 0]->k0≠k1->az aq 37 #[ae (some ⟨k1,0,none⟩),aj (((((c1==1)&&(c4.toList==((ao #[]).toList)))&&(decide ((c.n:Int)<=16)))&&(decide (i0<=64)))&&(decide (i1<=200)))] w1 fun e1 w2=>e1=(ak (ai #[]))/\
   aR [k0] w1 w2/\
   ∃q0:Option Addr,∃l0:Sl,∃b0:Bool,∃i2:Int,Blk w2 k1 72 [ae q0,l0.v,aj b0,O U i2]/\
   az aq 39 #[ae (some ⟨k1,0,none⟩),ab c2] w2 fun e2 w3=>∃s0:asw,e2=(ak (ab s0))/\
    aR [k0] w2 w3/\
    ∃q1:Option Addr,∃l1:Sl,∃b1:Bool,∃i3:Int,Blk w3 k1 72 [ae q1,l1.v,aj b1,O U i3]/\
    ∃l2:Sl,∃w4:av,((au 52 3 #[.mk 0 (ab (ao #[99,104,97,114,116])),.mk 1 (ab s0),.mk 2 (ab (ao #[123]))]).run aq w3)=(.ok l2.v w4)/\
    aR [k0,k1] w3 w4/\
    az aq 38 #[ae (some ⟨k1,0,none⟩),O U 0,l2.v] w4 fun e3 w5=>e3=(ak (ai #[]))/\
     aR [k0] w4 w5/\
     ∃q2:Option Addr,∃l3:Sl,∃b2:Bool,∃i4:Int,Blk w5 k1 72 [ae q2,l3.v,aj b2,O U i4]/\
     ∃J0:Nat->Int->Option Addr->Sl->Bool->Int->av->Prop,∃k2:Nat,J0 k2 0 q2 l3 b2 i4 w5/\
     ∀k3:Nat,∀i5:Int,∀q3:Option Addr,∀l4:Sl,∀b3:Bool,∀i6:Int,∀w6:av,J0 k3 i5 q3 l4 b3 i6 w6->((decide (i5<(c.n:Int)))=true->∃p0:Addr,ck c i5 3 p0/\
      ∃s1:asw,∃i7 i8:Int,Cells w6 p0 [ab s1,O U i7,O U i8]/\
      ∀k4:Nat,∀w7:av,w6.heap.size<=k4->k4<w7.heap.size->ay [] w6 w7->Blk w7 k1 72 [ae q3,l4.v,aj b3,O U i6]->az aq 37 #[ae (some ⟨k1,0,none⟩),aj (i7 !=(-9223372036854775808))] w7 fun e4 w8=>e4=(ak (ai #[]))/\
       aR [k0,k4] w7 w8/\
       ∃q4:Option Addr,∃l5:Sl,∃b4:Bool,∃i9:Int,Blk w8 k1 72 [ae q4,l5.v,aj b4,O U i9]/\
       ∀w9:av,ay [] w8 w9->Blk w9 k1 72 [ae q4,l5.v,aj b4,O U i9]->∃J1:Nat->Prop,J1 k4/\
       az aq 39 #[ae (some ⟨k1,0,none⟩),ab s1] w9 fun e5 cK=>∃s2:asw,e5=(ak (ab s2))/\
        aR [k0,k4] w9 cK/\
        ∃q5:Option Addr,∃l6:Sl,∃b5:Bool,∃i10:Int,Blk cK k1 72 [ae q5,l6.v,aj b5,O U i10]/\
        bE J1 w9 cK/\
        az aq 40 #[O U i7] cK fun e6 cY=>∃s3:asw,e6=(ak (ab s3))/\
         aR [k0,k4] cK cY/\
         ∃q6:Option Addr,∃l7:Sl,∃b6:Bool,∃i11:Int,Blk cY k1 72 [ae q6,l7.v,aj b6,O U i11]/\
         bE J1 cK cY/\
         ((s3.size:Int)+1)<=9223372036854775807/\
         ∃l8:Sl,∃dz:av,((au 52 4 #[.mk 0 (ab (ao #[118,97,114])),.mk 1 (ab s2),.mk 2 (ab (ao #[61])),.mk 3 (ab (s3++(ao #[59])))]).run aq cY)=(.ok l8.v dz)/\
         aR [k0,k1,k4] cY dz/\
         bE J1 cY dz/\
         az aq 38 #[ae (some ⟨k1,0,none⟩),O U 1,l8.v] dz fun e7 dF=>e7=(ak (ai #[]))/\
          aR [k0,k4] dz dF/\
          ∃q7:Option Addr,∃l9:Sl,∃b7:Bool,∃i12:Int,Blk dF k1 72 [ae q7,l9.v,aj b7,O U i12]/\
          bE J1 dz dF/\
          ∃k5:Nat,k5<k3/\
          J0 k5 (ar U (i5+1)) q7 l9 b7 i12 dF)/\
     ((decide (i5<(c.n:Int)))=false->az aq 41 #[ae (some ⟨k1,0,none⟩),ah #[O U c1,ab c2,ab c3,ab c4,c5.v,c6.v,c7.v,c8.v,O U c9],O U 1] w6 fun e8 eI=>e8=(ak (ai #[]))/\
      aR [k0] w6 eI/\
      ∃q8:Option Addr,∃l10:Sl,∃b8:Bool,∃i13:Int,Blk eI k1 72 [ae q8,l10.v,aj b8,O U i13]/\
      ∃qo:Sl,∃fQ:av,((au 52 1 #[.mk 0 (ab (ao #[125]))]).run aq eI)=(.ok qo.v fQ)/\
      aR [k0,k1] eI fQ/\
      az aq 38 #[ae (some ⟨k1,0,none⟩),O U 0,qo.v] fQ fun e9 gP=>e9=(ak (ai #[]))/\
       aR [k0] fQ gP/\
       ∃q9:Option Addr,∃rm:Sl,∃b9:Bool,∃i14:Int,Blk gP k1 72 [ae q9,rm.v,aj b9,O U i14]/\
       (b9=true->R (ai #[ab (ao #[]),O U 22]) gP)/\
       (b9=false->az aq 42 #[ae (some ⟨k1,0,none⟩)] gP fun Cs fY=>∃PM:Bool,Cs=(ak (aj PM))/\
        aR [k0] gP fY/\
        ∃RM:Option Addr,∃wC:Sl,∃Ui:Bool,∃i15:Int,Blk fY k1 72 [ae RM,wC.v,aj Ui,O U i15]/\
        (PM=true->R (ai #[ab (ao #[]),O U 2]) fY)/\
        (PM=false->az aq 43 #[ae (some ⟨k1,0,none⟩)] fY fun Ko iv=>∃s4:asw,Ko=(ak (ab s4))/\
         aR [k0] fY iv/\
         ∃Wq:Option Addr,∃zC:Sl,∃Uj:Bool,∃i16:Int,Blk iv k1 72 [ae Wq,zC.v,aj Uj,O U i16]/\
         az aq 34 #[ab s4] iv fun Ws ji=>∃EP:Sl,∃i17:Int,∃s5 s6 s7:asw,∃PH PI N5 PJ:Sl,∃i18 i19 i20:Int,Ws=(ak (ai #[ah #[EP.v,O U i17,ab s5,ab s6,ab s7,PH.v,PI.v,N5.v,PJ.v,O U i18],ah #[O U i19,O U i20]]))/\
          aR [k0] iv ji/\
          ∃q12:Option Addr,∃KS:Sl,∃Wm:Bool,∃i21:Int,Blk ji k1 72 [ae q12,KS.v,aj Wm,O U i21]/\
          ((i19 !=0)=true->∀k6 k7:Nat,∀iw:av,ji.heap.size<=k6->k6<iw.heap.size->ji.heap.size<=k7->k7<iw.heap.size->ay [] ji iw->Blk iw k1 72 [ae q12,KS.v,aj Wm,O U i21]->R (ai #[ab (ao #[]),O U 22]) iw)/\
          ((i19 !=0)=false->∀k8 k9:Nat,∀j9:av,ji.heap.size<=k8->k8<j9.heap.size->ji.heap.size<=k9->k9<j9.heap.size->ay [] ji j9->Blk j9 k1 72 [ae q12,KS.v,aj Wm,O U i21]->az aq 43 #[ae (some ⟨k1,0,none⟩)] j9 fun Wt nU=>∃s8:asw,Wt=(ak (ab s8))/\
           aR [k0,k8,k9] j9 nU/\
           ∃Wu:Option Addr,∃PK:Sl,∃b14:Bool,∃i22:Int,Blk nU k1 72 [ae Wu,PK.v,aj b14,O U i22]/\
           R (ai #[ab s8,O U 0]) nU)))))
theorem agq (c:Sl) (c1:Int) (c2 c3 c4:asw) (c5 c6 c7 c8:Sl) (c9:Int) (R:aA) (w:av) (h:aaj c c1 c2 c3 c4 c5 c6 c7 c8 c9 R w):Cr 14 #[ah #[c.v,O U c1,ab c2,ab c3,ab c4,c5.v,c6.v,c7.v,c8.v,O U c9]] w R:=
 fB (an:=.s .o (.s .o (.s .o (.s .o (.s .o (.s (.s .o (.j [1,4,12,54,55] [.s 56 (.int .i64),.b 12 [.ptr,.sl,.bool,.int .i64]] (.s .o (.s (.s .o .o) (.s (.s .o (.s .o .o)) .o))) .o)) (.s .o (.s .o (.s (.s .o (.s (.s .o .o) (.s .o (.s (.s .o .o) .o)))) (.s (.s .o (.s .o (.s (.s .o .o) .o))) (.s .o .o))))))))))) (args:=[.agg (jU [.sl c,.int .i64 c1,.str c2,.str c3,.str c4,.sl c5,.sl c6,.sl c7,.sl c8,.int .i64 c9])]) h
def Ti (n_:Int) (EV Ct EW:asw) (EX EY AJ zg:Sl) (GK:Int) (R:aA) (w:av):Prop:=
 ∀k0:Nat,∀w0:av,w.heap.size<=k0->k0<w0.heap.size->ay [] w w0->∀w1:av,ay [] w0 w1->∃J0:Nat->Int->Int->Int->av->Prop,∃k1:Nat,J0 k1 1 (AJ.n:Int) 0 w1/\
 ∀k2:Nat,∀i0 i1 i2:Int,∀w2:av,J0 k2 i0 i1 i2 w2->((decide (i2<(zg.n:Int)))=true->∃p0:Addr,ck zg i2 9 p0/\
  ∃i3:Int,∃s0 s1 s2:asw,∃l0 l1 l2 l3:Sl,∃i4:Int,Cells w2 p0 [O U i3,ab s0,ab s1,ab s2,l0.v,l1.v,l2.v,l3.v,O U i4]/\
  ∀k3:Nat,∀w3:av,w2.heap.size<=k3->k3<w3.heap.size->ay [] w2 w3->az aq 36 #[ah #[O U i3,ab s0,ab s1,ab s2,l0.v,l1.v,l2.v,l3.v,O U i4]] w3 fun e0 w4=>∃i5 i6:Int,e0=(ak (ai #[O U i5,O U i6]))/\
   aR [k0,k3] w3 w4/\
   ∃k4:Nat,k4<k2/\
   J0 k4 (ar U (i0+i5)) (ar U (i1+i6)) (ar U (i2+1)) w4)/\
 ((decide (i2<(zg.n:Int)))=false->R (ai #[O U i0,O U i1]) w2)
theorem aak (n_:Int) (EV Ct EW:asw) (EX EY AJ zg:Sl) (GK:Int) (R:aA) (w:av) (h:Ti n_ EV Ct EW EX EY AJ zg GK R w):Cr 36 #[ah #[O U n_,ab EV,ab Ct,ab EW,EX.v,EY.v,AJ.v,zg.v,O U GK]] w R:=
 fB (an:=.s .o (.s .o (.s (.s .o (.j [1,12,13] [.s 2 (.int .i64),.s 3 (.int .i64),.s 14 (.int .i64)] (.s .o (.s (.s .o .o) (.s (.s .o (.s .o .o)) .o))) .o)) (.s .o .o)))) (args:=[.agg (jU [.int .i64 n_,.str EV,.str Ct,.str EW,.sl EX,.sl EY,.sl AJ,.sl zg,.int .i64 GK])]) h
def aal (p:Addr) (ok:Bool) (R:aA) (w:av):Prop:=
 ∃b0:Bool,Cells w (p.add 2) [aj b0]/\
 ∃k0 k1:Nat,∃z0:List aw,∃k2:Nat,(p.add 2)=⟨k0,k1,none⟩/\
 Blk w k0 k2 z0/\
 (k1+1)<=z0.length/\
 ∀w0:av,ay [k0] w w0->Blk w0 k0 k2 (bO z0 k1 [aj (b0||(!ok))])->R (ai #[]) w0
theorem agr (p:Addr) (ok:Bool) (R:aA) (w:av) (h:aal p ok R w):Cr 37 #[ae (some p),aj ok] w R:=
 fB (an:=.o) (args:=[.ad p,.bt ok]) h
def Tj (p:Addr) (s:asw) (R:aA) (w:av):Prop:=
 az aq 85 #[ab s] w fun e0 w0=>∃b0:Bool,e0=(ak (aj b0))/\
  az aq 37 #[ae (some p),aj b0] w0 fun e1 w1=>e1=(ak (ai #[]))/\
   R (ab s) w1
theorem aam (p:Addr) (s:asw) (R:aA) (w:av) (h:Tj p s R w):Cr 39 #[ae (some p),ab s] w R:=
 fB (an:=.s .o (.s .o (.s .o .o))) (args:=[.ad p,.str s]) h
def Tl (s:asw) (R:aA) (w:av):Prop:=
 ∀k0:Nat,∀w0:av,w.heap.size<=k0->k0<w0.heap.size->ay [] w w0->∃J0:Bool->asw->Int->av->Prop,(∀b0:Bool,∀s0:asw,∀i0:Int,∀w1:av,J0 b0 s0 i0 w1->R (aj b0) w1)/\
 (((!(s.toList==((ao #[]).toList)))&&(decide ((s.size:Int)<=24)))=true->∃c0:UInt8,((0:Int)<=0/\
   s[0]? =(some c0))/\
  az aq 152 #[.int .u8 (UInt8.toNat c0:Int)] w0 fun e0 w2=>∃b1:Bool,e0=(ak (aj b1))/\
   aR [k0] w0 w2/\
   (b1=true->Blk w2 k0 195 [ab s,O U 0]->az aq 153 #[ae (some ⟨k0,0,none⟩)] w2 fun e1 w3=>∃s2:asw,e1=(ak (ab s2))/\
    ∃s3:asw,∃i1:Int,Blk w3 k0 195 [ab s3,O U i1]/\
    ((s2.toList==s.toList)=true->az aq 133 #[] w3 fun e2 w4=>∃l0:Sl,e2=(ak l0.v)/\
     ∃s4:asw,∃i2:Int,Blk w4 k0 195 [ab s4,O U i2]/\
     az aq 154 #[l0.v,ab s] w4 fun e3 w5=>∃b2:Bool,e3=(ak (aj b2))/\
      ∃s5:asw,∃i3:Int,Blk w5 k0 195 [ab s5,O U i3]/\
      J0 (!b2) s5 i3 w5)/\
    ((s2.toList==s.toList)=false->J0 false s3 i1 w3))/\
   (b1=false->J0 false s 0 w2))/\
 (((!(s.toList==((ao #[]).toList)))&&(decide ((s.size:Int)<=24)))=false->J0 false s 0 w0)
theorem aan (s:asw) (R:aA) (w:av) (h:Tl s R w):Cr 85 #[ab s] w R:=
 fB (an:=.s .o (.s .o (.s (.j [3] [.s 2 .bool,.b 3 [.str,.int .i64]] .o .o) .o))) (args:=[.str s]) h
def aao (p:Addr) (deep:Int) (words:Sl) (R:aA) (w:av):Prop:=
 az aq 42 #[ae (some p)] w fun e0 w0=>∃b0:Bool,e0=(ak (aj b0))/\
  ∃b1:Bool,((!b0)=true->Cells w0 (p.add 2) [aj b1])/\
  (((!b0)&&(!b1))=true->∀w1:av,ay [] w0 w1->az aq 83 #[ab (ao #[32,32]),O U deep] w1 fun e1 w2=>∃s0:asw,e1=(ak (ab s0))/\
   az aq 84 #[words.v] w2 fun e2 w3=>∃s1:asw,e2=(ak (ab s1))/\
    ((s0.size:Int)+(s1.size:Int))<=9223372036854775807/\
    (((s0++s1).size:Int)+1)<=9223372036854775807/\
    az aq 82 #[ae (some (p.add 0)),ab ((s0++s1)++(ao #[10]))] w3 fun e3 w4=>∃i0:Int,∃v0:OV,e3=(ak (ai #[O U i0,v0.v]))/\
     R (ai #[]) w4)/\
  (((!b0)&&(!b1))=false->R (ai #[]) w0)
theorem ags (p:Addr) (deep:Int) (words:Sl) (R:aA) (w:av) (h:aao p deep words R w):Cr 38 #[ae (some p),O U deep,words.v] w R:=
 fB (an:=.s .o (.s .o .o)) (args:=[.ad p,.int .i64 deep,.sl words]) h
def Tm (p:Addr) (R:aA) (w:av):Prop:=
 az aq 91 #[ae (some (p.add 0))] w fun e0 w0=>∃i0:Int,e0=(ak (O U i0))/\
  R (aj (decide (i0>16384))) w0
theorem aap (p:Addr) (R:aA) (w:av) (h:Tm p R w):Cr 42 #[ae (some p)] w R:=
 fB (an:=.s .o (.s .o .o)) (args:=[.ad p]) h
def L0 (bb:Addr) (R:aA) (w:av):Prop:=
 ∃l0:Sl,Cells w (bb.add 1) [l0.v]/\
 R (O U (l0.n:Int)) w
theorem Tn (bb:Addr) (R:aA) (w:av) (h:L0 bb R w):Cr 91 #[ae (some bb)] w R:=
 fB (an:=.s .o (.s .o .o)) (args:=[.ad bb]) h
def aaq (words:Sl) (R:aA) (w:av):Prop:=
 az aq 150 #[words.v,.func (.func 151) #[] #[]] w fun e0 w0=>∃l0:Sl,e0=(ak l0.v)/\
  az aq 149 #[l0.v,ab (ao #[32])] w0 fun e1 w1=>∃s0:asw,e1=(ak (ab s0))/\
   R (ab s0) w1
theorem agt (words:Sl) (R:aA) (w:av) (h:aaq words R w):Cr 84 #[words.v] w R:=
 fB (an:=.s .o (.s .o .o)) (args:=[.sl words]) h
def Tp (s:Sl) (del:OV) (R:aA) (w:av):Prop:=
 az aq 216 #[s.v,del.v] w fun e0 w0=>∃i0:Int,e0=(ak (O U i0))/\
  ((i0==(-1))=true->R s.v w0)/\
  ((i0==(-1))=false->∃J0:Nat->Int->Int->av->Prop,∃k0:Nat,J0 k0 i0 (ar U (i0+1)) w0/\
  ∀k1:Nat,∀i1 i2:Int,∀w1:av,J0 k1 i1 i2 w1->((decide (i2<(s.n:Int)))=true->∃J1:Int->av->Prop,(∀i3:Int,∀w2:av,J1 i3 w2->∃k2:Nat,k2<k1/\
    J0 k2 i3 (ar U (i2+1)) w2)/\
   ∃p0:Addr,ck s i2 1 p0/\
   ∃s0:asw,Cells w1 p0 [ab s0]/\
   ∃k3:Nat,∃z0:List aw,∃z1:List aw,del.v=(.func (.func k3) z0.toArray z1.toArray)/\
   (∀x0:Array aw,∀w3:av,((callFunc k3 x0).run aq w3)=(.ok (.enter k3 x0) w3))/\
   az aq k3 ((zq (zq z0 [ab s0]) z1).toArray) w1 fun e1 w4=>∃b0:Bool,e1=(ak (aj b0))/\
    ((!b0)=true->∃p1:Addr,ck s i1 1 p1/\
     ∃k4 k5:Nat,∃z2:List aw,∃k6:Nat,p1=⟨k4,k5,none⟩/\
     Blk w4 k4 k6 z2/\
     (k5+1)<=z2.length/\
     ∀w5:av,ay [k4] w4 w5->Blk w5 k4 k6 (bO z2 k5 [ab s0])->J1 (ar U (i1+1)) w5)/\
    ((!b0)=false->J1 i1 w4))/\
  ((decide (i2<(s.n:Int)))=false->∃k7:Nat,(i1=(k7:Int)/\
   k7<=s.n/\
   s.n<=s.c)/\
  ∃w6:av,((Builtin.clear_ #[52] 0 #[(s.cut k7 s.n s.c 1).v]).run aq w1)=(.ok (ai #[]) w6)/\
  ∃k8:Nat,(i1=(k8:Int)/\
   k8<=s.c)/\
  R ((s.cut 0 k8 s.c 1).v) w6))
theorem aar (s:Sl) (del:OV) (R:aA) (w:av) (h:Tp s del R w):Cr 150 #[s.v,del.v] w R:=
 fB (an:=.s .o (.s .o (.s (.s .o (.s (.s .o .o) .o)) (.s (.s .o (.j [0,1] [.s 5 (.int .i64),.s 6 (.int .i64)] (.s (.s .o (.s .o .o)) (.j [0,1,6] [.s 5 (.int .i64)] (.s .o (.s .o (.s (.s .o .o) .o))) .o)) .o)) (.s .o (.s .o .o)))))) (args:=[.sl s,.raw del]) h
def Ts (s:Sl) (f:OV) (R:aA) (w:av):Prop:=
 ∃J0:Nat->Int->av->Prop,∃k0:Nat,J0 k0 0 w/\
 ∀k1:Nat,∀i0:Int,∀w0:av,J0 k1 i0 w0->((decide (i0<(s.n:Int)))=true->∃p0:Addr,ck s i0 1 p0/\
  ∃s0:asw,Cells w0 p0 [ab s0]/\
  ∃k2:Nat,∃z0:List aw,∃z1:List aw,f.v=(.func (.func k2) z0.toArray z1.toArray)/\
  (∀x0:Array aw,∀w1:av,((callFunc k2 x0).run aq w1)=(.ok (.enter k2 x0) w1))/\
  az aq k2 ((zq (zq z0 [ab s0]) z1).toArray) w0 fun e0 w2=>∃b0:Bool,e0=(ak (aj b0))/\
   (b0=true->R (O U i0) w2)/\
   (b0=false->∃k3:Nat,k3<k1/\
   J0 k3 (ar U (i0+1)) w2))/\
 ((decide (i0<(s.n:Int)))=false->R (O U (-1)) w0)
theorem aas (s:Sl) (f:OV) (R:aA) (w:av) (h:Ts s f R w):Cr 216 #[s.v,f.v] w R:=
 fB (an:=.s .o (.s (.s .o (.j [0,1,7] [.s 8 (.int .i64)] (.s .o (.s (.s .o .o) (.s (.s .o (.s .o (.s (.s .o .o) .o))) .o))) .o)) (.s .o .o))) (args:=[.sl s,.raw f]) h
def aat (s:asw) (R:aA) (w:av):Prop:=
 R (aj (s.toList==((ao #[]).toList))) w
theorem agu (s:asw) (R:aA) (w:av) (h:aat s R w):Cr 151 #[ab s] w R:=
 fB (an:=.s .o (.s .o .o)) (args:=[.str s]) h
def L1 (bb:Addr) (s:asw) (R:aA) (w:av):Prop:=
 az aq 145 #[ae (some bb)] w fun e0 w0=>e0=(ak (ai #[]))/\
  ∃l0:Sl,Cells w0 (bb.add 1) [l0.v]/\
  ∃l1:Sl,∃w1:av,((Builtin.append_ #[68,9] 68 #[l0.v,ab s]).run aq w0)=(.ok l1.v w1)/\
  ∃k0 k1:Nat,∃z0:List aw,∃k2:Nat,(bb.add 1)=⟨k0,k1,none⟩/\
  Blk w1 k0 k2 z0/\
  (k1+1)<=z0.length/\
  ∀w2:av,ay [k0] w1 w2->Blk w2 k0 k2 (bO z0 k1 [l1.v])->R (ai #[O U (s.size:Int),.nilIface]) w2
theorem Tt (bb:Addr) (s:asw) (R:aA) (w:av) (h:L1 bb s R w):Cr 82 #[ae (some bb),ab s] w R:=
 fB (an:=.s .o (.s .o (.s .o (.s .o .o)))) (args:=[.ad bb,.str s]) h
def L2 (bb:Addr) (R:aA) (w:av):Prop:=
 ∃q0:Option Addr,Cells w (bb.add 0) [ae q0]/\
 (q0.isNone=true->∃v0:OV,∃w0:av,((convert 67 248 (ae (some bb))).run aq w)=(.ok v0.v w0)/\
  ∃v1:OV,∃w1:av,((Jt 211 #[v0.v]).run aq w0)=(.ok v1.v w1)/\
  ∃q1:Option Addr,∃w2:av,((convert 248 67 v1.v).run aq w1)=(.ok (ae q1) w2)/\
  ∃k0 k1:Nat,∃z0:List aw,∃k2:Nat,(bb.add 0)=⟨k0,k1,none⟩/\
  Blk w2 k0 k2 z0/\
  (k1+1)<=z0.length/\
  ∀w3:av,ay [k0] w2 w3->Blk w3 k0 k2 (bO z0 k1 [ae q1])->R (ai #[]) w3)/\
 (q0.isNone=false->∃q2:Option Addr,Cells w (bb.add 0) [ae q2]/\
 ∃b0:Bool,∃w4:av,((binOp .neq 67 (ae q2) (ae (some bb))).run aq w)=(.ok (aj b0) w4)/\
 (b0=true->False)/\
 (b0=false->R (ai #[]) w4))
theorem Tu (bb:Addr) (R:aA) (w:av) (h:L2 bb R w):Cr 145 #[ae (some bb)] w R:=
 fB (an:=.s .o (.s .o (.s .o (.s .o .o)))) (args:=[.ad bb]) h
def v1v (n_:Int) (R:aA) (w:av):Prop:=
 az aq 86 #[O U n_] w fun e0 w0=>∃s0:asw,e0=(ak (ab s0))/\
  R (ab s0) w0
theorem v1w (n_:Int) (R:aA) (w:av) (h:v1v n_ R w):Cr 40 #[O U n_] w R:=
 fB (an:=.s .o (.s .o .o)) (args:=[.int .i64 n_]) h
def aau (p:Addr) (n_:Int) (EV Ct EW:asw) (EX EY AJ zg:Sl) (GK deep:Int) (R:aA) (w:av):Prop:=
 ∀k0:Nat,∀w0:av,w.heap.size<=k0->k0<w0.heap.size->ay [] w w0->∃J0:av->Prop,(∀w1:av,J0 w1->az aq 88 #[ae (some p),EX.v] w1 fun e0 w2=>∃s0:asw,e0=(ak (ab s0))/\
  aR [k0] w1 w2/\
  az aq 87 #[ae (some p),O U deep,ab (ao #[101,110,116,101,114]),ab s0] w2 fun e1 w3=>e1=(ak (ai #[]))/\
   aR [k0] w2 w3/\
   az aq 88 #[ae (some p),EY.v] w3 fun e2 w4=>∃s1:asw,e2=(ak (ab s1))/\
    aR [k0] w3 w4/\
    az aq 87 #[ae (some p),O U deep,ab (ao #[108,101,97,118,101]),ab s1] w4 fun e3 w5=>e3=(ak (ai #[]))/\
     aR [k0] w4 w5/\
     ∃J1:Nat->Int->av->Prop,∃k1:Nat,J1 k1 0 w5/\
     ∀k2:Nat,∀i0:Int,∀w6:av,J1 k2 i0 w6->((decide (i0<(AJ.n:Int)))=true->∃p0:Addr,ck AJ i0 13 p0/\
      ∃i1:Int,∃s2:asw,∃i2:Int,∃b0:Bool,∃i3 i4:Int,∃s3:asw,∃i5:Int,∃l0:Sl,∃i6:Int,∃l1 l2:Sl,∃i7:Int,Cells w6 p0 [O U i1,ab s2,O U i2,aj b0,O U i3,O U i4,ab s3,O U i5,l0.v,O U i6,l1.v,l2.v,O U i7]/\
      ∀k3:Nat,∀w7:av,w6.heap.size<=k3->k3<w7.heap.size->ay [] w6 w7->az aq 89 #[ae (some p),ah #[O U i1,ab s2,O U i2,aj b0,O U i3,O U i4,ab s3,O U i5,l0.v,O U i6,l1.v,l2.v,O U i7]] w7 fun e4 w8=>∃s4:asw,e4=(ak (ab s4))/\
       aR [k0,k3] w7 w8/\
       ∃l3:Sl,∃w9:av,((au 52 1 #[.mk 0 (ab s4)]).run aq w8)=(.ok l3.v w9)/\
       aR [k0,k3] w8 w9/\
       az aq 38 #[ae (some p),O U deep,l3.v] w9 fun e5 cK=>e5=(ak (ai #[]))/\
        aR [k0,k3] w9 cK/\
        ∃k4:Nat,k4<k2/\
        J1 k4 (ar U (i0+1)) cK)/\
     ((decide (i0<(AJ.n:Int)))=false->∃J2:Nat->Int->av->Prop,∃k5:Nat,J2 k5 0 w6/\
     ∀k6:Nat,∀i8:Int,∀cY:av,J2 k6 i8 cY->((decide (i8<(zg.n:Int)))=true->∃p1:Addr,ck zg i8 9 p1/\
      ∃i9:Int,∃s5 s6 s7:asw,∃l4 l5 l6 l7:Sl,∃i10:Int,Cells cY p1 [O U i9,ab s5,ab s6,ab s7,l4.v,l5.v,l6.v,l7.v,O U i10]/\
      ∀k7:Nat,∀dz:av,cY.heap.size<=k7->k7<dz.heap.size->ay [] cY dz->az aq 90 #[ae (some p),ah #[O U i9,ab s5,ab s6,ab s7,l4.v,l5.v,l6.v,l7.v,O U i10],O U deep] dz fun e6 dF=>e6=(ak (ai #[]))/\
       aR [k0,k7] dz dF/\
       ∃k8:Nat,k8<k6/\
       J2 k8 (ar U (i8+1)) dF)/\
     ((decide (i8<(zg.n:Int)))=false->R (ai #[]) cY)))/\
 ((!(Ct.toList==((ao #[]).toList)))=true->az aq 39 #[ae (some p),ab Ct] w0 fun e7 eI=>∃s8:asw,e7=(ak (ab s8))/\
  aR [k0] w0 eI/\
  ((s8.size:Int)+1)<=9223372036854775807/\
  az aq 87 #[ae (some p),O U deep,ab (ao #[105,110,105,116,105,97,108]),ab (s8++(ao #[59]))] eI fun e8 fQ=>e8=(ak (ai #[]))/\
   aR [k0] eI fQ/\
   J0 fQ)/\
 ((!(Ct.toList==((ao #[]).toList)))=false->J0 w0)
theorem agv (p:Addr) (n_:Int) (EV Ct EW:asw) (EX EY AJ zg:Sl) (GK deep:Int) (R:aA) (w:av) (h:aau p n_ EV Ct EW EX EY AJ zg GK deep R w):Cr 41 #[ae (some p),ah #[O U n_,ab EV,ab Ct,ab EW,EX.v,EY.v,AJ.v,zg.v,O U GK],O U deep] w R:=
 fB (an:=.s .o (.j [0,2,4] [] (.s .o (.s .o .o)) (.s .o (.s .o (.s (.s .o (.j [0,2,4,36,37] [.s 38 (.int .i64)] (.s .o (.s (.s .o .o) (.s (.s .o .o) .o))) .o)) (.s .o (.j [0,2,4,7,51,52] [.s 53 (.int .i64)] (.s .o (.s (.s .o .o) (.s (.s .o .o) .o))) .o))))))) (args:=[.ad p,.agg (jU [.int .i64 n_,.str EV,.str Ct,.str EW,.sl EX,.sl EY,.sl AJ,.sl zg,.int .i64 GK]),.int .i64 deep]) h
def aav (p:Addr) (deep:Int) (word text:asw) (R:aA) (w:av):Prop:=
 ((!(text.toList==((ao #[]).toList)))=true->∃l0:Sl,∃w0:av,((au 52 2 #[.mk 0 (ab word),.mk 1 (ab text)]).run aq w)=(.ok l0.v w0)/\
  az aq 38 #[ae (some p),O U deep,l0.v] w0 fun e0 w1=>e0=(ak (ai #[]))/\
   R (ai #[]) w1)/\
 ((!(text.toList==((ao #[]).toList)))=false->R (ai #[]) w)
theorem agw (p:Addr) (deep:Int) (word text:asw) (R:aA) (w:av) (h:aav p deep word text R w):Cr 87 #[ae (some p),O U deep,ab word,ab text] w R:=
 fB (an:=.s .o (.s .o .o)) (args:=[.ad p,.int .i64 deep,.str word,.str text]) h
def aaw (p:Addr) (l:Sl) (R:aA) (w:av):Prop:=
 (((l.n:Int)==0)=true->R (ab (ao #[])) w)/\
 (((l.n:Int)==0)=false->∃i0:Int,Cells w (p.add 3) [O U i0]/\
 ∃k0 k1:Nat,∃z0:List aw,∃k2:Nat,(p.add 3)=⟨k0,k1,none⟩/\
 Blk w k0 k2 z0/\
 (k1+1)<=z0.length/\
 ∀w0:av,ay [k0] w w0->Blk w0 k0 k2 (bO z0 k1 [O U (ar U (i0+(l.n:Int)))])->∃i1:Int,Cells w0 (p.add 3) [O U i1]/\
 az aq 37 #[ae (some p),aj (decide (i1<=400))] w0 fun e0 w1=>e0=(ak (ai #[]))/\
  ∃l0:Sl,∃w2:av,((au 52 1 #[.mk 0 (ab (ao #[123]))]).run aq w1)=(.ok l0.v w2)/\
  ∃J0:Sl->av->Prop,(∀l1:Sl,∀w3:av,J0 l1 w3->∃l2:Sl,∃w4:av,((au 52 1 #[.mk 0 (ab (ao #[125]))]).run aq w3)=(.ok l2.v w4)/\
   ∃l3:Sl,∃w5:av,((Builtin.append_ #[52,52] 52 #[l1.v,l2.v]).run aq w4)=(.ok l3.v w5)/\
   az aq 84 #[l3.v] w5 fun e1 w6=>∃s0:asw,e1=(ak (ab s0))/\
    R (ab s0) w6)/\
  ∃J1:Nat->Sl->Int->av->Prop,∃k3:Nat,J1 k3 l0 0 w2/\
  ∀k4:Nat,∀l4:Sl,∀i2:Int,∀w7:av,J1 k4 l4 i2 w7->((decide (i2<(l.n:Int)))=true->∃p0:Addr,ck l i2 9 p0/\
   ∃i3:Int,∃s1:asw,∃i4 i5:Int,∃s2:asw,∃i6:Int,∃l5:Sl,∃i7 i8:Int,Cells w7 p0 [O U i3,ab s1,O U i4,O U i5,ab s2,O U i6,l5.v,O U i7,O U i8]/\
   ∀k5:Nat,∀w8:av,w7.heap.size<=k5->k5<w8.heap.size->ay [] w7 w8->∃b0:Bool,Cells w8 (p.add 2) [aj b0]/\
   (b0=true->J0 l4 w8)/\
   (b0=false->az aq 156 #[ae (some p),ah #[O U i3,ab s1,O U i4,O U i5,ab s2,O U i6,l5.v,O U i7,O U i8]] w8 fun e2 w9=>∃s3:asw,e2=(ak (ab s3))/\
    aR [k5] w8 w9/\
    ∃l6:Sl,∃cK:av,((au 52 1 #[.mk 0 (ab s3)]).run aq w9)=(.ok l6.v cK)/\
    aR [k5] w9 cK/\
    ∃l7:Sl,∃cY:av,((Builtin.append_ #[52,52] 52 #[l4.v,l6.v]).run aq cK)=(.ok l7.v cY)/\
    aR [k5] cK cY/\
    ∃k6:Nat,k6<k4/\
    J1 k6 l7 (ar U (i2+1)) cY))/\
  ((decide (i2<(l.n:Int)))=false->J0 l4 w7))
theorem agx (p:Addr) (l:Sl) (R:aA) (w:av) (h:aaw p l R w):Cr 88 #[ae (some p),l.v] w R:=
 fB (an:=.s .o (.s (.s .o (.s (.s .o .o) .o)) (.s .o (.s .o (.s .o (.j [] [.s 5 .sl] (.s .o (.j [0,28,29] [.s 5 .sl,.s 30 (.int .i64)] (.s .o (.s (.s .o .o) (.s (.s .o (.s (.s .o (.s .o .o)) .o)) .o))) .o)) (.s .o .o))))))) (args:=[.ad p,.sl l]) h
def aax (p:Addr) (a_:Int) (mo:asw) (pU pV:Int) (pd:asw) (qh:Int) (rq:Sl) (rr uS:Int) (R:aA) (w:av):Prop:=
 ∀k0:Nat,∀w0:av,w.heap.size<=k0->k0<w0.heap.size->ay [] w w0->∃l0:Sl,∃w1:av,((au 52 4 #[.mk 0 (ab (ao #[])),.mk 1 (ab (ao #[115,101,116])),.mk 2 (ab (ao #[114,97,105,115,101])),.mk 3 (ab (ao #[101,109,105,116]))]).run aq w0)=(.ok l0.v w1)/\
 aR [k0] w0 w1/\
 (((decide (a_<1))||(decide (a_>3)))=true->az aq 37 #[ae (some p),aj false] w1 fun e0 w2=>e0=(ak (ai #[]))/\
  aR [k0] w1 w2/\
  R (ab (ao #[])) w2)/\
 (((decide (a_<1))||(decide (a_>3)))=false->((a_==2)=true->az aq 158 #[ae (some p),ah #[O U pU,O U pV,ab pd,O U qh,rq.v,O U rr]] w1 fun e1 w3=>e1=(ak (ai #[]))/\
  aR [k0] w1 w3/\
  ∀w4:av,ay [] w3 w4->∃J0:Nat->Prop,J0 k0/\
  ∃p0:Addr,ck l0 a_ 1 p0/\
  J0 p0.block/\
  ∃s0:asw,Cells w4 p0 [ab s0]/\
  az aq 39 #[ae (some p),ab mo] w4 fun e2 w5=>∃s1:asw,e2=(ak (ab s1))/\
   aR [k0] w4 w5/\
   bE J0 w4 w5/\
   ∃l1:Sl,∃w6:av,((au 52 2 #[.mk 0 (ab s0),.mk 1 (ab s1)]).run aq w5)=(.ok l1.v w6)/\
   aR [k0] w5 w6/\
   bE J0 w5 w6/\
   az aq 84 #[l1.v] w6 fun e3 w7=>∃s2:asw,e3=(ak (ab s2))/\
    aR [k0] w6 w7/\
    bE J0 w6 w7/\
    ((s2.size:Int)+1)<=9223372036854775807/\
    R (ab (s2++(ao #[59]))) w7)/\
 ((a_==2)=false->∀w8:av,ay [] w1 w8->∃J1:Nat->Prop,J1 k0/\
 ∃p1:Addr,ck l0 a_ 1 p1/\
 J1 p1.block/\
 ∃s3:asw,Cells w8 p1 [ab s3]/\
 J1 k0/\
 az aq 39 #[ae (some p),ab mo] w8 fun e4 w9=>∃s4:asw,e4=(ak (ab s4))/\
  aR [k0] w8 w9/\
  bE J1 w8 w9/\
  az aq 157 #[ae (some p),ah #[O U pU,O U pV,ab pd,O U qh,rq.v,O U rr]] w9 fun e5 cK=>∃s5:asw,e5=(ak (ab s5))/\
   aR [k0] w9 cK/\
   bE J1 w9 cK/\
   ∃l2:Sl,∃cY:av,((au 52 4 #[.mk 0 (ab s3),.mk 1 (ab s4),.mk 2 (ab (ao #[61])),.mk 3 (ab s5)]).run aq cK)=(.ok l2.v cY)/\
   aR [k0] cK cY/\
   bE J1 cK cY/\
   az aq 84 #[l2.v] cY fun e6 dz=>∃s6:asw,e6=(ak (ab s6))/\
    aR [k0] cY dz/\
    bE J1 cY dz/\
    ((s6.size:Int)+1)<=9223372036854775807/\
    R (ab (s6++(ao #[59]))) dz))
theorem agy (p:Addr) (a_:Int) (mo:asw) (pU pV:Int) (pd:asw) (qh:Int) (rq:Sl) (rr uS:Int) (R:aA) (w:av) (h:aax p a_ mo pU pV pd qh rq rr uS R w):Cr 156 #[ae (some p),ah #[O U a_,ab mo,O U pU,O U pV,ab pd,O U qh,rq.v,O U rr,O U uS]] w R:=
 fB (an:=.s .o (.s .o (.s (.s .o (.s (.s .o (.s .o .o)) .o)) (.s (.s .o (.s (.s .o (.s .o .o)) .o)) (.s .o .o))))) (args:=[.ad p,.agg (jU [.int .i64 a_,.str mo,.int .i64 pU,.int .i64 pV,.str pd,.int .i64 qh,.sl rq,.int .i64 rr,.int .i64 uS])]) h
def aay (p:Addr) (x x1:Int) (x2:asw) (x3:Int) (x4:Sl) (x5:Int) (R:aA) (w:av):Prop:=
 ∀k0:Nat,∀w0:av,w.heap.size<=k0->k0<w0.heap.size->ay [] w w0->az aq 37 #[ae (some p),aj (((((x==0)&&(x1==0))&&(x2.toList==((ao #[]).toList)))&&(x3==0))&&((x4.n:Int)==0))] w0 fun e0 w1=>e0=(ak (ai #[]))/\
  aR [k0] w0 w1/\
  R (ai #[]) w1
theorem agz (p:Addr) (x x1:Int) (x2:asw) (x3:Int) (x4:Sl) (x5:Int) (R:aA) (w:av) (h:aay p x x1 x2 x3 x4 x5 R w):Cr 158 #[ae (some p),ah #[O U x,O U x1,ab x2,O U x3,x4.v,O U x5]] w R:=
 fB (an:=.s .o .o) (args:=[.ad p,.agg (jU [.int .i64 x,.int .i64 x1,.str x2,.int .i64 x3,.sl x4,.int .i64 x5])]) h
def aaz (p:Addr) (x x1:Int) (x2:asw) (x3:Int) (x4:Sl) (x5:Int) (R:aA) (w:av):Prop:=
 ∀k0:Nat,∀w0:av,w.heap.size<=k0->k0<w0.heap.size->ay [] w w0->az aq 218 #[ah #[O U x,O U x1,ab x2,O U x3,x4.v,O U x5]] w0 fun e0 w1=>∃s0:asw,e0=(ak (ab s0))/\
  aR [k0] w0 w1/\
  az aq 37 #[ae (some p),aj (!(s0.toList==((ao #[]).toList)))] w1 fun e1 w2=>e1=(ak (ai #[]))/\
   aR [k0] w1 w2/\
   R (ab s0) w2
theorem agA (p:Addr) (x x1:Int) (x2:asw) (x3:Int) (x4:Sl) (x5:Int) (R:aA) (w:av) (h:aaz p x x1 x2 x3 x4 x5 R w):Cr 157 #[ae (some p),ah #[O U x,O U x1,ab x2,O U x3,x4.v,O U x5]] w R:=
 fB (an:=.s .o (.s .o (.s .o (.s .o .o)))) (args:=[.ad p,.agg (jU [.int .i64 x,.int .i64 x1,.str x2,.int .i64 x3,.sl x4,.int .i64 x5])]) h
def v6v (x x1:Int) (x2:asw) (x3:Int) (x4:Sl) (x5:Int) (R:aA) (w:av):Prop:=
 ∀k0:Nat,∀w0:av,w.heap.size<=k0->k0<w0.heap.size->ay [] w w0->az aq 262 #[ah #[O U x,O U x1,ab x2,O U x3,x4.v,O U x5]] w0 fun e0 w1=>∃b0:Bool,e0=(ak (aj b0))/\
  aR [k0] w0 w1/\
  ((!b0)=true->R (ab (ao #[])) w1)/\
  ((!b0)=false->az aq 263 #[] w1 fun e1 w2=>∃l0:Sl,e1=(ak l0.v)/\
   aR [k0] w1 w2/\
   ∀k1:Nat,∀w3:av,w2.heap.size<=k1->k1<w3.heap.size->ay [] w2 w3->Blk w3 k1 288 [ae none,Sl.nil.v,l0.v]->az aq 264 #[ae (some ⟨k1,0,none⟩),ah #[O U x,O U x1,ab x2,O U x3,x4.v,O U x5],aj false] w3 fun e2 w4=>e2=(ak (ai #[]))/\
    aR [k0] w3 w4/\
    ∃q0:Option Addr,∃l1 l2:Sl,Blk w4 k1 288 [ae q0,l1.v,l2.v]/\
    az aq 43 #[ae (some ⟨k1,0,none⟩)] w4 fun e3 w5=>∃s0:asw,e3=(ak (ab s0))/\
     aR [k0] w4 w5/\
     ∃q1:Option Addr,∃l3 l4:Sl,Blk w5 k1 288 [ae q1,l3.v,l4.v]/\
     az aq 265 #[ab s0] w5 fun e4 w6=>∃i0 i1:Int,∃s1:asw,∃i2:Int,∃l5:Sl,∃i3 i4 i5:Int,e4=(ak (ai #[ah #[O U i0,O U i1,ab s1,O U i2,l5.v,O U i3],ah #[O U i4,O U i5]]))/\
      aR [k0] w5 w6/\
      ∃q2:Option Addr,∃l6 l7:Sl,Blk w6 k1 288 [ae q2,l6.v,l7.v]/\
      ((i4 !=0)=true->∀k2 k3:Nat,∀w7:av,w6.heap.size<=k2->k2<w7.heap.size->w6.heap.size<=k3->k3<w7.heap.size->ay [] w6 w7->Blk w7 k1 288 [ae q2,l6.v,l7.v]->R (ab (ao #[])) w7)/\
      ((i4 !=0)=false->∀k4 k5:Nat,∀w8:av,w6.heap.size<=k4->k4<w8.heap.size->w6.heap.size<=k5->k5<w8.heap.size->ay [] w6 w8->Blk w8 k1 288 [ae q2,l6.v,l7.v]->az aq 43 #[ae (some ⟨k1,0,none⟩)] w8 fun e5 w9=>∃s2:asw,e5=(ak (ab s2))/\
       aR [k0,k4,k5] w8 w9/\
       ∃q3:Option Addr,∃l8 l9:Sl,Blk w9 k1 288 [ae q3,l8.v,l9.v]/\
       R (ab s2) w9))
theorem v6w (x x1:Int) (x2:asw) (x3:Int) (x4:Sl) (x5:Int) (R:aA) (w:av) (h:v6v x x1 x2 x3 x4 x5 R w):Cr 218 #[ah #[O U x,O U x1,ab x2,O U x3,x4.v,O U x5]] w R:=
 fB (an:=.s .o (.s (.s .o (.s (.s .o .o) .o)) (.s .o (.s .o (.s (.s .o (.s .o (.s (.s .o .o) .o))) (.s .o .o)))))) (args:=[.agg (jU [.int .i64 x,.int .i64 x1,.str x2,.int .i64 x3,.sl x4,.int .i64 x5])]) h
def aaA (x x1:Int) (x2:asw) (x3:Int) (x4:Sl) (x5:Int) (R:aA) (w:av):Prop:=
 ∀k0 k1:Nat,∀w0:av,w.heap.size<=k0->k0<w0.heap.size->w.heap.size<=k1->k1<w0.heap.size->ay [] w w0->∃J0:Int->Int->Int->asw->Int->Sl->Int->av->Prop,(∀i0 i1 i2:Int,∀s0:asw,∀i3:Int,∀l0:Sl,∀i4:Int,∀w1:av,J0 i0 i1 i2 s0 i3 l0 i4 w1->∃J1:Bool->av->Prop,(∀b0:Bool,∀w2:av,J1 b0 w2->R (aj b0) w2)/\
  (((((x1==i2)&&(x2.toList==s0.toList))&&(x3==i3))&&((x4.n:Int)==i0))=true->az aq 294 #[x4.v,.func (.func 295) #[] #[]] w1 fun e0 w3=>∃b1:Bool,e0=(ak (aj b1))/\
   aR [k0,k1] w1 w3/\
   J1 (!b1) w3)/\
  (((((x1==i2)&&(x2.toList==s0.toList))&&(x3==i3))&&((x4.n:Int)==i0))=false->J1 false w1))/\
 ((x==1)=true->∀w4:av,ay [k1] w0 w4->J0 0 x (if 0>x1 then 0 else x1) (ao #[]) 0 Sl.nil x5 w4)/\
 ((x==1)=false->∃J2:Bool->av->Prop,(∀b2:Bool,∀w5:av,J2 b2 w5->(b2=true->az aq 85 #[ab x2] w5 fun e1 w6=>∃b3:Bool,e1=(ak (aj b3))/\
    aR [k0,k1] w5 w6/\
    ((!b3)=true->R (aj false) w6)/\
    ((!b3)=false->∀w7:av,ay [k1] w6 w7->J0 0 x 0 x2 0 Sl.nil x5 w7))/\
  (b2=false->((x==4)=true->((x3==15)=true->∀w8:av,ay [k1] w5 w8->J0 1 x 0 (ao #[]) 15 Sl.nil x5 w8)/\
   ((x3==15)=false->∀w9:av,ay [k1] w5 w9->J0 1 x 0 (ao #[]) 14 Sl.nil x5 w9))/\
  ((x==4)=false->((x==5)=true->az aq 293 #[O U x3] w5 fun e2 cK=>∃i5:Int,e2=(ak (O U i5))/\
   aR [k0,k1] w5 cK/\
   ((i5==6)=true->R (aj false) cK)/\
   ((i5==6)=false->∀cY:av,ay [k1] cK cY->J0 2 x 0 (ao #[]) x3 Sl.nil x5 cY))/\
  ((x==5)=false->R (aj false) w5))))/\
 ((x==2)=true->J2 (x==2) w0)/\
 ((x==2)=false->J2 (x==3) w0))
theorem agB (x x1:Int) (x2:asw) (x3:Int) (x4:Sl) (x5:Int) (R:aA) (w:av) (h:aaA x x1 x2 x3 x4 x5 R w):Cr 262 #[ah #[O U x,O U x1,ab x2,O U x3,x4.v,O U x5]] w R:=
 fB (an:=.s .o (.s .o (.s .o (.j [1,3] [.s 4 (.int .i64),.b 3 [.int .i64,.int .i64,.str,.int .i64,.sl,.int .i64]] (.s .o (.s .o (.s .o (.j [1,3,4,11] [.s 18 .bool] (.s .o (.s .o .o)) (.s (.s (.s .o (.s (.s .o .o) .o)) .o) (.s .o (.s (.s .o (.s .o (.s .o .o))) (.s .o (.s (.s (.s .o (.s (.s .o .o) .o)) .o) (.s .o .o)))))))))) (.s (.j [1,3] [.s 2 .bool] .o .o) .o))))) (args:=[.agg (jU [.int .i64 x,.int .i64 x1,.str x2,.int .i64 x3,.sl x4,.int .i64 x5])]) h
def Tv (s:Sl) (f:OV) (R:aA) (w:av):Prop:=
 az aq 310 #[s.v,f.v] w fun e0 w0=>∃i0:Int,e0=(ak (O U i0))/\
  R (aj (decide (i0>=0))) w0
theorem aaB (s:Sl) (f:OV) (R:aA) (w:av) (h:Tv s f R w):Cr 294 #[s.v,f.v] w R:=
 fB (an:=.s .o (.s .o .o)) (args:=[.sl s,.raw f]) h
def Tw (s:Sl) (f:OV) (R:aA) (w:av):Prop:=
 ∃J0:Nat->Int->av->Prop,∃k0:Nat,J0 k0 0 w/\
 ∀k1:Nat,∀i0:Int,∀w0:av,J0 k1 i0 w0->((decide (i0<(s.n:Int)))=true->∃p0:Addr,ck s i0 6 p0/\
  ∃i1 i2:Int,∃s0:asw,∃i3:Int,∃l0:Sl,∃i4:Int,Cells w0 p0 [O U i1,O U i2,ab s0,O U i3,l0.v,O U i4]/\
  ∃k2:Nat,∃z0:List aw,∃z1:List aw,f.v=(.func (.func k2) z0.toArray z1.toArray)/\
  (∀x0:Array aw,∀w1:av,((callFunc k2 x0).run aq w1)=(.ok (.enter k2 x0) w1))/\
  az aq k2 ((zq (zq z0 [ah #[O U i1,O U i2,ab s0,O U i3,l0.v,O U i4]]) z1).toArray) w0 fun e0 w2=>∃b0:Bool,e0=(ak (aj b0))/\
   (b0=true->R (O U i0) w2)/\
   (b0=false->∃k3:Nat,k3<k1/\
   J0 k3 (ar U (i0+1)) w2))/\
 ((decide (i0<(s.n:Int)))=false->R (O U (-1)) w0)
theorem aaC (s:Sl) (f:OV) (R:aA) (w:av) (h:Tw s f R w):Cr 310 #[s.v,f.v] w R:=
 fB (an:=.s .o (.s (.s .o (.j [0,1,7] [.s 8 (.int .i64)] (.s .o (.s (.s .o .o) (.s (.s .o (.s .o (.s (.s .o .o) .o))) .o))) .o)) (.s .o .o))) (args:=[.sl s,.raw f]) h
def aaD (s s1:Int) (s2:asw) (s3:Int) (s4:Sl) (s5:Int) (R:aA) (w:av):Prop:=
 ∀k0:Nat,∀w0:av,w.heap.size<=k0->k0<w0.heap.size->ay [] w w0->az aq 262 #[ah #[O U s,O U s1,ab s2,O U s3,s4.v,O U s5]] w0 fun e0 w1=>∃b0:Bool,e0=(ak (aj b0))/\
  aR [k0] w0 w1/\
  R (aj (!b0)) w1
theorem agC (s s1:Int) (s2:asw) (s3:Int) (s4:Sl) (s5:Int) (R:aA) (w:av) (h:aaD s s1 s2 s3 s4 s5 R w):Cr 295 #[ah #[O U s,O U s1,ab s2,O U s3,s4.v,O U s5]] w R:=
 fB (an:=.s .o (.s .o .o)) (args:=[.agg (jU [.int .i64 s,.int .i64 s1,.str s2,.int .i64 s3,.sl s4,.int .i64 s5])]) h
def aaE (p:Addr) (x x1:Int) (x2:asw) (x3:Int) (x4:Sl) (x5:Int) (wrapped:Bool) (R:aA) (w:av):Prop:=
 ∀k0:Nat,∀w0:av,w.heap.size<=k0->k0<w0.heap.size->ay [] w w0->az aq 91 #[ae (some (p.add 0))] w0 fun e0 w1=>∃i0:Int,e0=(ak (O U i0))/\
  aR [k0] w0 w1/\
  ((decide (i0>16384))=true->R (ai #[]) w1)/\
  ((decide (i0>16384))=false->(wrapped=true->az aq 296 #[ae (some (p.add 0)),.int .u8 40] w1 fun e1 w2=>∃v0:OV,e1=(ak v0.v)/\
   aR [k0] w1 w2/\
   ((x==1)=true->∀w3:av,ay [] w2 w3->az aq 40 #[O U x1] w3 fun e2 w4=>∃s0:asw,e2=(ak (ab s0))/\
    aR [k0] w3 w4/\
    az aq 82 #[ae (some (p.add 0)),ab s0] w4 fun e3 w5=>∃i1:Int,∃v1:OV,e3=(ak (ai #[O U i1,v1.v]))/\
     aR [k0] w4 w5/\
     jW aq 296 #[ae (some (p.add 0)),.int .u8 41] w5 (fun x0 w6=>R (ai #[]) w6))/\
   ((x==1)=false->((x==2)=true->∀w7:av,ay [] w2 w7->az aq 82 #[ae (some (p.add 0)),ab x2] w7 fun e4 w8=>∃i2:Int,∃v2:OV,e4=(ak (ai #[O U i2,v2.v]))/\
    aR [k0] w7 w8/\
    jW aq 296 #[ae (some (p.add 0)),.int .u8 41] w8 (fun x1 w9=>R (ai #[]) w9))/\
   ((x==2)=false->((x==3)=true->(3+(x2.size:Int))<=9223372036854775807/\
    ((((ao #[105,110,40])++x2).size:Int)+1)<=9223372036854775807/\
    ∀cK:av,ay [] w2 cK->az aq 82 #[ae (some (p.add 0)),ab (((ao #[105,110,40])++x2)++(ao #[41]))] cK fun e5 cY=>∃i3:Int,∃v3:OV,e5=(ak (ai #[O U i3,v3.v]))/\
     aR [k0] cK cY/\
     jW aq 296 #[ae (some (p.add 0)),.int .u8 41] cY (fun x2 dz=>R (ai #[]) dz))/\
   ((x==3)=false->((x==4)=true->∀dF:av,ay [] w2 dF->∃l0:Sl,Cells dF (p.add 2) [l0.v]/\
    ∃p0:Addr,ck l0 x3 1 p0/\
    ∃s1:asw,Cells dF p0 [ab s1]/\
    az aq 82 #[ae (some (p.add 0)),ab s1] dF fun e6 eI=>∃i4:Int,∃v4:OV,e6=(ak (ai #[O U i4,v4.v]))/\
     aR [k0] dF eI/\
     ∀fQ:av,ay [] eI fQ->∃J0:Nat->Prop,J0 k0/\
     ∃p1:Addr,ck x4 0 6 p1/\
     J0 p1.block/\
     ∃i5 i6:Int,∃s2:asw,∃i7:Int,∃l1:Sl,∃i8:Int,Cells fQ p1 [O U i5,O U i6,ab s2,O U i7,l1.v,O U i8]/\
     ∃p2:Addr,ck x4 0 6 p2/\
     ∃i9 i10:Int,∃s3:asw,∃i11:Int,∃l2:Sl,∃i12:Int,Cells fQ p2 [O U i9,O U i10,ab s3,O U i11,l2.v,O U i12]/\
     az aq 297 #[ah #[O U i9,O U i10,ab s3,O U i11,l2.v,O U i12]] fQ fun e7 gP=>∃i13:Int,e7=(ak (O U i13))/\
      aR [k0] fQ gP/\
      bE J0 fQ gP/\
      az aq 264 #[ae (some p),ah #[O U i5,O U i6,ab s2,O U i7,l1.v,O U i8],aj (decide (i13<6))] gP fun e8 fY=>e8=(ak (ai #[]))/\
       aR [k0] gP fY/\
       bE J0 gP fY/\
       jW aq 296 #[ae (some (p.add 0)),.int .u8 41] fY (fun x3 iv=>R (ai #[]) iv))/\
   ((x==4)=false->az aq 297 #[ah #[O U x,O U x1,ab x2,O U x3,x4.v,O U x5]] w2 fun e9 ji=>∃i14:Int,e9=(ak (O U i14))/\
    aR [k0] w2 ji/\
    ∀iw:av,ay [] ji iw->∃J1:Nat->Prop,J1 k0/\
    ∃p3:Addr,ck x4 0 6 p3/\
    J1 p3.block/\
    ∃i15 i16:Int,∃s4:asw,∃i17:Int,∃l3:Sl,∃i18:Int,Cells iw p3 [O U i15,O U i16,ab s4,O U i17,l3.v,O U i18]/\
    ∃p4:Addr,ck x4 0 6 p4/\
    ∃i19 i20:Int,∃s5:asw,∃i21:Int,∃l4:Sl,∃i22:Int,Cells iw p4 [O U i19,O U i20,ab s5,O U i21,l4.v,O U i22]/\
    az aq 297 #[ah #[O U i19,O U i20,ab s5,O U i21,l4.v,O U i22]] iw fun Cs j9=>∃i23:Int,Cs=(ak (O U i23))/\
     aR [k0] iw j9/\
     bE J1 iw j9/\
     az aq 264 #[ae (some p),ah #[O U i15,O U i16,ab s4,O U i17,l3.v,O U i18],aj (decide (i23<i14))] j9 fun Ko nU=>Ko=(ak (ai #[]))/\
      aR [k0] j9 nU/\
      bE J1 j9 nU/\
      ∀pc:av,ay [] nU pc->∃l5:Sl,Cells pc (p.add 2) [l5.v]/\
      ∃p5:Addr,ck l5 x3 1 p5/\
      ∃s6:asw,Cells pc p5 [ab s6]/\
      (1+(s6.size:Int))<=9223372036854775807/\
      ((((ao #[32])++s6).size:Int)+1)<=9223372036854775807/\
      az aq 82 #[ae (some (p.add 0)),ab (((ao #[32])++s6)++(ao #[32]))] pc fun Ws qg=>∃i24:Int,∃v5:OV,Ws=(ak (ai #[O U i24,v5.v]))/\
       aR [k0] pc qg/\
       ∀mL:av,ay [] qg mL->∃J2:Nat->Prop,J2 k0/\
       ∃p6:Addr,ck x4 1 6 p6/\
       J2 p6.block/\
       ∃i25 i26:Int,∃s7:asw,∃i27:Int,∃l6:Sl,∃i28:Int,Cells mL p6 [O U i25,O U i26,ab s7,O U i27,l6.v,O U i28]/\
       ∃p7:Addr,ck x4 1 6 p7/\
       ∃i29 i30:Int,∃s8:asw,∃i31:Int,∃l7:Sl,∃i32:Int,Cells mL p7 [O U i29,O U i30,ab s8,O U i31,l7.v,O U i32]/\
       az aq 297 #[ah #[O U i29,O U i30,ab s8,O U i31,l7.v,O U i32]] mL fun Wt oe=>∃i33:Int,Wt=(ak (O U i33))/\
        aR [k0] mL oe/\
        bE J2 mL oe/\
        az aq 264 #[ae (some p),ah #[O U i25,O U i26,ab s7,O U i27,l6.v,O U i28],aj (decide (i33<=i14))] oe fun e14 pT=>e14=(ak (ai #[]))/\
         aR [k0] oe pT/\
         bE J2 oe pT/\
         jW aq 296 #[ae (some (p.add 0)),.int .u8 41] pT (fun x4 tI=>R (ai #[]) tI))))))/\
  (wrapped=false->((x==1)=true->∀wD:av,ay [] w1 wD->az aq 40 #[O U x1] wD fun e15 GJ=>∃s9:asw,e15=(ak (ab s9))/\
   aR [k0] wD GJ/\
   az aq 82 #[ae (some (p.add 0)),ab s9] GJ fun e16 PO=>∃i34:Int,∃v6:OV,e16=(ak (ai #[O U i34,v6.v]))/\
    aR [k0] GJ PO/\
    R (ai #[]) PO)/\
  ((x==1)=false->((x==2)=true->∀Wo:av,ay [] w1 Wo->az aq 82 #[ae (some (p.add 0)),ab x2] Wo fun e17 Yd=>∃i35:Int,∃v7:OV,e17=(ak (ai #[O U i35,v7.v]))/\
   aR [k0] Wo Yd/\
   R (ai #[]) Yd)/\
  ((x==2)=false->((x==3)=true->(3+(x2.size:Int))<=9223372036854775807/\
   ((((ao #[105,110,40])++x2).size:Int)+1)<=9223372036854775807/\
   ∀Wp:av,ay [] w1 Wp->az aq 82 #[ae (some (p.add 0)),ab (((ao #[105,110,40])++x2)++(ao #[41]))] Wp fun e18 Ye=>∃i36:Int,∃v8:OV,e18=(ak (ai #[O U i36,v8.v]))/\
    aR [k0] Wp Ye/\
    R (ai #[]) Ye)/\
  ((x==3)=false->((x==4)=true->∀w36:av,ay [] w1 w36->∃l8:Sl,Cells w36 (p.add 2) [l8.v]/\
   ∃p8:Addr,ck l8 x3 1 p8/\
   ∃GD:asw,Cells w36 p8 [ab GD]/\
   az aq 82 #[ae (some (p.add 0)),ab GD] w36 fun e19 w37=>∃i37:Int,∃v9:OV,e19=(ak (ai #[O U i37,v9.v]))/\
    aR [k0] w36 w37/\
    ∀Yf:av,ay [] w37 Yf->∃J3:Nat->Prop,J3 k0/\
    ∃p9:Addr,ck x4 0 6 p9/\
    J3 p9.block/\
    ∃i38 i39:Int,∃CP:asw,∃i40:Int,∃l9:Sl,∃i41:Int,Cells Yf p9 [O U i38,O U i39,ab CP,O U i40,l9.v,O U i41]/\
    ∃p10:Addr,ck x4 0 6 p10/\
    ∃i42 i43:Int,∃N6:asw,∃i44:Int,∃l10:Sl,∃i45:Int,Cells Yf p10 [O U i42,O U i43,ab N6,O U i44,l10.v,O U i45]/\
    az aq 297 #[ah #[O U i42,O U i43,ab N6,O U i44,l10.v,O U i45]] Yf fun e20 w39=>∃i46:Int,e20=(ak (O U i46))/\
     aR [k0] Yf w39/\
     bE J3 Yf w39/\
     az aq 264 #[ae (some p),ah #[O U i38,O U i39,ab CP,O U i40,l9.v,O U i41],aj (decide (i46<6))] w39 fun e21 w40=>e21=(ak (ai #[]))/\
      aR [k0] w39 w40/\
      bE J3 w39 w40/\
      R (ai #[]) w40)/\
  ((x==4)=false->az aq 297 #[ah #[O U x,O U x1,ab x2,O U x3,x4.v,O U x5]] w1 fun e22 w41=>∃i47:Int,e22=(ak (O U i47))/\
   aR [k0] w1 w41/\
   ∀Yg:av,ay [] w41 Yg->∃J4:Nat->Prop,J4 k0/\
   ∃p11:Addr,ck x4 0 6 p11/\
   J4 p11.block/\
   ∃i48 i49:Int,∃Ug:asw,∃i50:Int,∃qo:Sl,∃i51:Int,Cells Yg p11 [O U i48,O U i49,ab Ug,O U i50,qo.v,O U i51]/\
   ∃p12:Addr,ck x4 0 6 p12/\
   ∃i52 i53:Int,∃Uh:asw,∃i54:Int,∃rm:Sl,∃i55:Int,Cells Yg p12 [O U i52,O U i53,ab Uh,O U i54,rm.v,O U i55]/\
   az aq 297 #[ah #[O U i52,O U i53,ab Uh,O U i54,rm.v,O U i55]] Yg fun e23 w43=>∃i56:Int,e23=(ak (O U i56))/\
    aR [k0] Yg w43/\
    bE J4 Yg w43/\
    az aq 264 #[ae (some p),ah #[O U i48,O U i49,ab Ug,O U i50,qo.v,O U i51],aj (decide (i56<i47))] w43 fun e24 w44=>e24=(ak (ai #[]))/\
     aR [k0] w43 w44/\
     bE J4 w43 w44/\
     ∀w45:av,ay [] w44 w45->∃wC:Sl,Cells w45 (p.add 2) [wC.v]/\
     ∃p13:Addr,ck wC x3 1 p13/\
     ∃PL:asw,Cells w45 p13 [ab PL]/\
     (1+(PL.size:Int))<=9223372036854775807/\
     ((((ao #[32])++PL).size:Int)+1)<=9223372036854775807/\
     az aq 82 #[ae (some (p.add 0)),ab (((ao #[32])++PL)++(ao #[32]))] w45 fun e25 w46=>∃i57:Int,∃v10:OV,e25=(ak (ai #[O U i57,v10.v]))/\
      aR [k0] w45 w46/\
      ∀Yh:av,ay [] w46 Yh->∃J5:Nat->Prop,J5 k0/\
      ∃p14:Addr,ck x4 1 6 p14/\
      J5 p14.block/\
      ∃i58 i59:Int,∃RJ:asw,∃i60:Int,∃zC:Sl,∃i61:Int,Cells Yh p14 [O U i58,O U i59,ab RJ,O U i60,zC.v,O U i61]/\
      ∃p15:Addr,ck x4 1 6 p15/\
      ∃i62 i63:Int,∃Wl:asw,∃i64:Int,∃EP:Sl,∃i65:Int,Cells Yh p15 [O U i62,O U i63,ab Wl,O U i64,EP.v,O U i65]/\
      az aq 297 #[ah #[O U i62,O U i63,ab Wl,O U i64,EP.v,O U i65]] Yh fun e26 w48=>∃i66:Int,e26=(ak (O U i66))/\
       aR [k0] Yh w48/\
       bE J5 Yh w48/\
       az aq 264 #[ae (some p),ah #[O U i58,O U i59,ab RJ,O U i60,zC.v,O U i61],aj (decide (i66<=i47))] w48 fun e27 w49=>e27=(ak (ai #[]))/\
        aR [k0] w48 w49/\
        bE J5 w48 w49/\
        R (ai #[]) w49))))))
theorem agD (p:Addr) (x x1:Int) (x2:asw) (x3:Int) (x4:Sl) (x5:Int) (wrapped:Bool) (R:aA) (w:av) (h:aaE p x x1 x2 x3 x4 x5 wrapped R w):Cr 264 #[ae (some p),ah #[O U x,O U x1,ab x2,O U x3,x4.v,O U x5],aj wrapped] w R:=
 fB (an:=.s .o (.s (.s .o (.s .o .o)) (.s (.s .o (.s (.s .o .o) .o)) (.s .o (.s .o (.s .o (.s .o (.s .o (.s .o (.s .o (.s .o (.s (.s .o .o) (.s .o (.s .o (.s .o .o))))))))))))))) (args:=[.ad p,.agg (jU [.int .i64 x,.int .i64 x1,.str x2,.int .i64 x3,.sl x4,.int .i64 x5]),.bt wrapped]) h
def Ht (bb:Addr) (c:Int) (R:aA) (w:av):Prop:=
 az aq 145 #[ae (some bb)] w fun e0 w0=>e0=(ak (ai #[]))/\
  ∃l0:Sl,Cells w0 (bb.add 1) [l0.v]/\
  ∃l1:Sl,∃w1:av,((au 68 1 #[.mk 0 (.int .u8 c)]).run aq w0)=(.ok l1.v w1)/\
  ∃l2:Sl,∃w2:av,((Builtin.append_ #[68,68] 68 #[l0.v,l1.v]).run aq w1)=(.ok l2.v w2)/\
  ∃k0 k1:Nat,∃z0:List aw,∃k2:Nat,(bb.add 1)=⟨k0,k1,none⟩/\
  Blk w2 k0 k2 z0/\
  (k1+1)<=z0.length/\
  ∀w3:av,ay [k0] w2 w3->Blk w3 k0 k2 (bO z0 k1 [l2.v])->R .nilIface w3
theorem aaF (bb:Addr) (c:Int) (R:aA) (w:av) (h:Ht bb c R w):Cr 296 #[ae (some bb),.int .u8 c] w R:=
 fB (an:=.s .o (.s .o (.s .o (.s .o .o)))) (args:=[.ad bb,.int .u8 c]) h
theorem lP (bb:Addr) (c:Int) (R:aA) (w:av) (h:Ht bb c R w):jW aq 296 #[ae (some bb),.int .u8 c] w R:=
 Zn (an:=.s .o (.s .o (.s .o (.s .o .o)))) (args:=[.ad bb,.int .u8 c]) Tryz.checked.mixed (by kernel_rfl) (by kernel_rfl) h
def aaG (x x1:Int) (x2:asw) (x3:Int) (x4:Sl) (x5:Int) (R:aA) (w:av):Prop:=
 ((x !=5)=true->∀k0:Nat,∀w0:av,w.heap.size<=k0->k0<w0.heap.size->ay [] w w0->R (O U 6) w0)/\
 ((x !=5)=false->∀k1:Nat,∀w1:av,w.heap.size<=k1->k1<w1.heap.size->ay [] w w1->az aq 293 #[O U x3] w1 fun e0 w2=>∃i0:Int,e0=(ak (O U i0))/\
  aR [k1] w1 w2/\
  R (O U i0) w2)
theorem agE (x x1:Int) (x2:asw) (x3:Int) (x4:Sl) (x5:Int) (R:aA) (w:av) (h:aaG x x1 x2 x3 x4 x5 R w):Cr 297 #[ah #[O U x,O U x1,ab x2,O U x3,x4.v,O U x5]] w R:=
 fB (an:=.s .o (.s (.s .o (.s (.s .o .o) .o)) (.s .o .o))) (args:=[.agg (jU [.int .i64 x,.int .i64 x1,.str x2,.int .i64 x3,.sl x4,.int .i64 x5])]) h
def L3 (bb:Addr) (R:aA) (w:av):Prop:=
 ∀w0:av,ay [] w w0->∃J0:Nat->Prop,∃l0:Sl,Cells w0 (bb.add 1) [l0.v]/\
 J0 ((bb.add 1).block)/\
 ∃l1:Sl,Cells w0 (bb.add 1) [l1.v]/\
 ∃q0:Option Addr,∃w1:av,((Builtin.unsafeSliceData_ #[68] 153 #[l0.v]).run aq w0)=(.ok (ae q0) w1)/\
 bE J0 w0 w1/\
 ∃s0:asw,∃w2:av,((Builtin.unsafeString_ #[153,3] 9 #[ae q0,O U (l1.n:Int)]).run aq w1)=(.ok (ab s0) w2)/\
 bE J0 w1 w2/\
 R (ab s0) w2
theorem Tx (bb:Addr) (R:aA) (w:av) (h:L3 bb R w):Cr 43 #[ae (some bb)] w R:=
 fB (an:=.s .o (.s .o .o)) (args:=[.ad bb]) h
def v5v (s:asw) (R:aA) (w:av):Prop:=
 ∀k0 k1:Nat,∀w0:av,w.heap.size<=k0->k0<w0.heap.size->w.heap.size<=k1->k1<w0.heap.size->ay [] w w0->az aq 72 #[ab s] w0 fun e0 w1=>∃l0:Sl,∃i0 i1:Int,e0=(ak (ai #[l0.v,ah #[O U i0,O U i1]]))/\
  aR [k0,k1] w0 w1/\
  ((i0 !=0)=true->∀k2:Nat,∀w2:av,w1.heap.size<=k2->k2<w2.heap.size->ay [] w1 w2->k0≠k1->k0≠k2->k1≠k2->∃J0:Nat->Prop,J0 k2/\
   th J0 k0/\
   th J0 k1/\
   ∀w3:av,ay [k1,k0] w2 w3->R (ai #[ah #[O U 0,O U 0,ab (ao #[]),O U 0,Sl.nil.v,O U 0],ah #[O U i0,O U i1]]) w3)/\
  ((i0 !=0)=false->∀k3:Nat,∀w4:av,w1.heap.size<=k3->k3<w4.heap.size->ay [] w1 w4->az aq 288 #[l0.v,O U 0] w4 fun e1 w5=>∃i2 i3:Int,∃s0:asw,∃i4:Int,∃l1:Sl,∃i5 i6 i7 i8:Int,e1=(ak (ai #[ah #[O U i2,O U i3,ab s0,O U i4,l1.v,O U i5],O U i6,ah #[O U i7,O U i8]]))/\
   aR [k0,k1,k3] w4 w5/\
   ∀k4:Nat,∀w6:av,w5.heap.size<=k4->k4<w6.heap.size->ay [k3] w5 w6->∃J1:Int->Int->av->Prop,(∀i9 i10:Int,∀w7:av,J1 i9 i10 w7->((i9 !=0)=true->∀w8:av,ay [] w7 w8->k0≠k1->k0≠k3->k0≠k4->k1≠k3->k1≠k4->k3≠k4->∃J2:Nat->Prop,J2 k3/\
     th J2 k0/\
     th J2 k1/\
     ∀w9:av,ay [k1,k0] w8 w9->R (ai #[ah #[O U 0,O U 0,ab (ao #[]),O U 0,Sl.nil.v,O U 0],ah #[O U i9,O U i10]]) w9)/\
    ((i9 !=0)=false->∀cK:av,ay [] w7 cK->k0≠k1->k0≠k3->k0≠k4->k1≠k3->k1≠k4->k3≠k4->∃J3:Nat->Prop,J3 k3/\
    th J3 k0/\
    th J3 k1/\
    ∀cY:av,ay [k1,k0] cK cY->R (ai #[ah #[O U i2,O U i3,ab s0,O U i4,l1.v,O U i5],ah #[O U i9,O U i10]]) cY))/\
   ∃p0:Addr,((i7==0)=true->ck l0 i6 4 p0)/\
   ∃i11:Int,((i7==0)=true->Cells w6 (p0.add 0) [O U i11])/\
   (((i7==0)&&(i11 !=5))=true->∃p1:Addr,ck l0 i6 4 p1/\
    ∃i12:Int,Cells w6 (p1.add 3) [O U i12]/\
    ∀dz:av,ay [k3] w6 dz->J1 4 i12 dz)/\
   (((i7==0)&&(i11 !=5))=false->J1 i7 i8 w6))
theorem v5w (s:asw) (R:aA) (w:av) (h:v5v s R w):Cr 265 #[ab s] w R:=
 fB (an:=.s .o (.s .o (.s (.s .o (.s (.s .o .o) .o)) (.s .o (.j [2,3,5,6] [.b 5 [.int .i64,.int .i64]] (.s .o (.s .o .o)) (.s (.s .o (.s (.s .o .o) .o)) (.s .o .o))))))) (args:=[.str s]) h
def aaH (p:Addr) (m:Int) (m1:asw) (m2:Int) (m3:Bool) (m4 m5:Int) (m6:asw) (m7:Int) (m8:Sl) (m9:Int) (m10 m11:Sl) (m12:Int) (R:aA) (w:av):Prop:=
 ∀k0:Nat,∀w0:av,w.heap.size<=k0->k0<w0.heap.size->ay [] w w0->∃J0:asw->av->Prop,(∀s0:asw,∀w1:av,J0 s0 w1->az aq 37 #[ae (some p),aj (((m1.toList==((ao #[]).toList))||(m==1))&&((m2==0)||(m==3)))] w1 fun e0 w2=>e0=(ak (ai #[]))/\
  aR [k0] w1 w2/\
  ∃J1:asw->av->Prop,(∀s1:asw,∀w3:av,J1 s1 w3->∃J2:Nat->Int->av->Prop,∃k1:Nat,J2 k1 0 w3/\
   ∀k2:Nat,∀i0:Int,∀w4:av,J2 k2 i0 w4->((decide (i0<(m11.n:Int)))=true->∃p0:Addr,ck m11 i0 1 p0/\
    ∃s2:asw,Cells w4 p0 [ab s2]/\
    az aq 39 #[ae (some p),ab s2] w4 fun e1 w5=>∃s3:asw,e1=(ak (ab s3))/\
     aR [k0] w4 w5/\
     ∃k3:Nat,k3<k2/\
     J2 k3 (ar U (i0+1)) w5)/\
   ((decide (i0<(m11.n:Int)))=false->∃J3:asw->av->Prop,(∀s4:asw,∀w6:av,J3 s4 w6->az aq 88 #[ae (some p),m10.v] w6 fun e2 w7=>∃s5:asw,e2=(ak (ab s5))/\
    aR [k0] w6 w7/\
    ∃l0:Sl,∃w8:av,((au 52 4 #[.mk 0 (ab s0),.mk 1 (ab s1),.mk 2 (ab s5),.mk 3 (ab s4)]).run aq w7)=(.ok l0.v w8)/\
    aR [k0] w7 w8/\
    az aq 84 #[l0.v] w8 fun e3 w9=>∃s6:asw,e3=(ak (ab s6))/\
     aR [k0] w8 w9/\
     ((s6.size:Int)+1)<=9223372036854775807/\
     R (ab (s6++(ao #[59]))) w9)/\
   ((decide ((m11.n:Int)>0))=true->az aq 149 #[m11.v,ab (ao #[44,32])] w4 fun e4 cK=>∃s7:asw,e4=(ak (ab s7))/\
    aR [k0] w4 cK/\
    (3+(s7.size:Int))<=9223372036854775807/\
    J3 ((ao #[45,62,32])++s7) cK)/\
   ((decide ((m11.n:Int)>0))=false->J3 (ao #[]) w4)))/\
  (m3=true->az aq 157 #[ae (some p),ah #[O U m4,O U m5,ab m6,O U m7,m8.v,O U m9]] w2 fun e5 cY=>∃s8:asw,e5=(ak (ab s8))/\
   aR [k0] w2 cY/\
   (1+(s8.size:Int))<=9223372036854775807/\
   ((((ao #[91])++s8).size:Int)+1)<=9223372036854775807/\
   J1 (((ao #[91])++s8)++(ao #[93])) cY)/\
  (m3=false->az aq 158 #[ae (some p),ah #[O U m4,O U m5,ab m6,O U m7,m8.v,O U m9]] w2 fun e6 dz=>e6=(ak (ai #[]))/\
   aR [k0] w2 dz/\
   J1 (ao #[]) dz))/\
 ((m==1)=true->az aq 39 #[ae (some p),ab m1] w0 fun e7 dF=>∃s9:asw,e7=(ak (ab s9))/\
  aR [k0] w0 dF/\
  ∃l1:Sl,∃eI:av,((au 52 2 #[.mk 0 (ab (ao #[111,110])),.mk 1 (ab s9)]).run aq dF)=(.ok l1.v eI)/\
  aR [k0] dF eI/\
  az aq 84 #[l1.v] eI fun e8 fQ=>∃GD:asw,e8=(ak (ab GD))/\
   aR [k0] eI fQ/\
   J0 GD fQ)/\
 ((m==1)=false->((m==3)=true->az aq 37 #[ae (some p),aj (decide (m2>=0))] w0 fun e9 gP=>e9=(ak (ai #[]))/\
  aR [k0] w0 gP/\
  az aq 40 #[O U m2] gP fun Cs fY=>∃CP:asw,Cs=(ak (ab CP))/\
   aR [k0] gP fY/\
   ∃l2:Sl,∃iv:av,((au 52 2 #[.mk 0 (ab (ao #[97,102,116,101,114])),.mk 1 (ab CP)]).run aq fY)=(.ok l2.v iv)/\
   aR [k0] fY iv/\
   az aq 84 #[l2.v] iv fun Ko ji=>∃N6:asw,Ko=(ak (ab N6))/\
    aR [k0] iv ji/\
    J0 N6 ji)/\
 ((m==3)=false->az aq 37 #[ae (some p),aj (m==2)] w0 fun Ws iw=>Ws=(ak (ai #[]))/\
  aR [k0] w0 iw/\
  J0 (ao #[97,108,119,97,121,115]) iw))
theorem agF (p:Addr) (m:Int) (m1:asw) (m2:Int) (m3:Bool) (m4 m5:Int) (m6:asw) (m7:Int) (m8:Sl) (m9:Int) (m10 m11:Sl) (m12:Int) (R:aA) (w:av) (h:aaH p m m1 m2 m3 m4 m5 m6 m7 m8 m9 m10 m11 m12 R w):Cr 89 #[ae (some p),ah #[O U m,ab m1,O U m2,aj m3,O U m4,O U m5,ab m6,O U m7,m8.v,O U m9,m10.v,m11.v,O U m12]] w R:=
 fB (an:=.s .o (.s .o (.j [0,3] [.s 5 .str] (.s .o (.s .o (.s .o (.s .o (.s (.s .o .o) .o))))) (.s .o (.s .o (.j [0,3,5,7] [.s 6 .str] (.s .o (.s .o .o)) (.s (.s .o (.j [0,3,5,6,7,70,71] [.s 72 (.int .i64)] (.s .o (.s (.s .o .o) (.s (.s .o .o) .o))) .o)) (.j [0,3,5,6] [.s 7 .str] (.s .o (.s .o .o)) (.s .o .o))))))))) (args:=[.ad p,.agg (jU [.int .i64 m,.str m1,.int .i64 m2,.bt m3,.int .i64 m4,.int .i64 m5,.str m6,.int .i64 m7,.sl m8,.int .i64 m9,.sl m10,.sl m11,.int .i64 m12])]) h
def Ty (p:Addr) (n_:Int) (EV Ct EW:asw) (EX EY AJ zg:Sl) (GK deep:Int) (R:aA) (w:av):Prop:=
 ∀k0:Nat,∀w0:av,w.heap.size<=k0->k0<w0.heap.size->ay [] w w0->∃b0:Bool,Cells w0 (p.add 2) [aj b0]/\
 ((b0||(decide (deep>=12)))=true->az aq 37 #[ae (some p),aj false] w0 fun e0 w1=>e0=(ak (ai #[]))/\
  aR [k0] w0 w1/\
  R (ai #[]) w1)/\
 ((b0||(decide (deep>=12)))=false->∃l0:Sl,∃w2:av,((au 52 5 #[.mk 0 (ab (ao #[])),.mk 1 (ab (ao #[115,116,97,116,101])),.mk 2 (ab (ao #[112,97,114,97,108,108,101,108])),.mk 3 (ab (ao #[104,105,115,116,111,114,121])),.mk 4 (ab (ao #[100,101,101,112]))]).run aq w0)=(.ok l0.v w2)/\
 aR [k0] w0 w2/\
 ∃J0:Bool->av->Prop,(∀b1:Bool,∀w3:av,J0 b1 w3->(b1=true->az aq 37 #[ae (some p),aj (EW.toList==((ao #[]).toList))] w3 fun e1 w4=>e1=(ak (ai #[]))/\
    aR [k0] w3 w4/\
    ∀w5:av,ay [] w4 w5->∃J1:Nat->Prop,J1 k0/\
    ∃p0:Addr,ck l0 n_ 1 p0/\
    J1 p0.block/\
    ∃s0:asw,Cells w5 p0 [ab s0]/\
    az aq 39 #[ae (some p),ab EV] w5 fun e2 w6=>∃s1:asw,e2=(ak (ab s1))/\
     aR [k0] w5 w6/\
     bE J1 w5 w6/\
     ∃l1:Sl,∃w7:av,((au 52 3 #[.mk 0 (ab s0),.mk 1 (ab s1),.mk 2 (ab (ao #[123]))]).run aq w6)=(.ok l1.v w7)/\
     aR [k0] w6 w7/\
     bE J1 w6 w7/\
     az aq 38 #[ae (some p),O U deep,l1.v] w7 fun e3 w8=>e3=(ak (ai #[]))/\
      aR [k0] w7 w8/\
      bE J1 w7 w8/\
      az aq 41 #[ae (some p),ah #[O U n_,ab EV,ab Ct,ab EW,EX.v,EY.v,AJ.v,zg.v,O U GK],O U (ar U (deep+1))] w8 fun e4 w9=>e4=(ak (ai #[]))/\
       aR [k0] w8 w9/\
       ∃l2:Sl,∃cK:av,((au 52 1 #[.mk 0 (ab (ao #[125]))]).run aq w9)=(.ok l2.v cK)/\
       aR [k0] w9 cK/\
       az aq 38 #[ae (some p),O U deep,l2.v] cK fun e5 cY=>e5=(ak (ai #[]))/\
        aR [k0] cK cY/\
        R (ai #[]) cY)/\
  (b1=false->∃J2:Bool->av->Prop,(∀b2:Bool,∀dz:av,J2 b2 dz->(b2=true->az aq 37 #[ae (some p),aj ((Ct.toList==((ao #[]).toList))&&((ar U ((ar U ((ar U ((EX.n:Int)+(EY.n:Int)))+(AJ.n:Int)))+(zg.n:Int)))==0))] dz fun e6 dF=>e6=(ak (ai #[]))/\
     aR [k0] dz dF/\
     ∀eI:av,ay [] dF eI->∃J3:Nat->Prop,J3 k0/\
     ∃p1:Addr,ck l0 n_ 1 p1/\
     J3 p1.block/\
     ∃s2:asw,Cells eI p1 [ab s2]/\
     J3 k0/\
     az aq 39 #[ae (some p),ab EV] eI fun e7 fQ=>∃s3:asw,e7=(ak (ab s3))/\
      aR [k0] eI fQ/\
      bE J3 eI fQ/\
      az aq 39 #[ae (some p),ab EW] fQ fun e8 gP=>∃s4:asw,e8=(ak (ab s4))/\
       aR [k0] fQ gP/\
       bE J3 fQ gP/\
       ((s4.size:Int)+1)<=9223372036854775807/\
       ∃l3:Sl,∃fY:av,((au 52 4 #[.mk 0 (ab s2),.mk 1 (ab s3),.mk 2 (ab (ao #[45,62])),.mk 3 (ab (s4++(ao #[59])))]).run aq gP)=(.ok l3.v fY)/\
       aR [k0] gP fY/\
       bE J3 gP fY/\
       az aq 38 #[ae (some p),O U deep,l3.v] fY fun e9 iv=>e9=(ak (ai #[]))/\
        aR [k0] fY iv/\
        bE J3 fY iv/\
        R (ai #[]) iv)/\
   (b2=false->az aq 37 #[ae (some p),aj false] dz fun Cs ji=>Cs=(ak (ai #[]))/\
    aR [k0] dz ji/\
    R (ai #[]) ji))/\
  ((n_==3)=true->J2 (n_==3) w3)/\
  ((n_==3)=false->J2 (n_==4) w3)))/\
 ((n_==1)=true->J0 (n_==1) w2)/\
 ((n_==1)=false->J0 (n_==2) w2))
theorem aaI (p:Addr) (n_:Int) (EV Ct EW:asw) (EX EY AJ zg:Sl) (GK deep:Int) (R:aA) (w:av) (h:Ty p n_ EV Ct EW EX EY AJ zg GK deep R w):Cr 90 #[ae (some p),ah #[O U n_,ab EV,ab Ct,ab EW,EX.v,EY.v,AJ.v,zg.v,O U GK],O U deep] w R:=
 fB (an:=.s .o (.s (.s .o (.s (.s .o .o) .o)) (.s .o (.s .o (.j [0,2,4,6,19] [.s 22 .bool] (.s .o (.s .o .o)) (.s (.s .o (.s .o (.s .o .o))) (.j [0,2,4,6] [.s 52 .bool] (.s .o (.s .o .o)) (.s (.s .o .o) .o)))))))) (args:=[.ad p,.agg (jU [.int .i64 n_,.str EV,.str Ct,.str EW,.sl EX,.sl EY,.sl AJ,.sl zg,.int .i64 GK]),.int .i64 deep]) h
def aaJ (a_:Sl) (mo:Int) (pU pV pd:asw) (qh rq rr uS:Sl) (N9:Int) (bb:Sl) (wE:Int) (wF wG wH:asw) (xo Cu Cv CQ:Sl) (Oa:Int) (at_:Bool) (R:aA) (w:av):Prop:=
 (((a_.n:Int) !=(bb.n:Int))=true->∀k0 k1:Nat,∀w0:av,w.heap.size<=k0->k0<w0.heap.size->w.heap.size<=k1->k1<w0.heap.size->ay [] w w0->R (aj false) w0)/\
 (((a_.n:Int) !=(bb.n:Int))=false->∀k2 k3:Nat,∀w1:av,w.heap.size<=k2->k2<w1.heap.size->w.heap.size<=k3->k3<w1.heap.size->ay [] w w1->∃J0:Nat->Int->av->Prop,∃k4:Nat,J0 k4 0 w1/\
 ∀k5:Nat,∀i0:Int,∀w2:av,J0 k5 i0 w2->((decide (i0<(a_.n:Int)))=true->∃p0:Addr,ck a_ i0 3 p0/\
  ∃s0:asw,Cells w2 (p0.add 0) [ab s0]/\
  ∃p1:Addr,ck bb i0 3 p1/\
  ∃s1:asw,Cells w2 (p1.add 0) [ab s1]/\
  ∃p2:Addr,((!(s0.toList==s1.toList))=false->ck a_ i0 3 p2)/\
  ∃i1:Int,((!(s0.toList==s1.toList))=false->Cells w2 (p2.add 1) [O U i1])/\
  ∃p3:Addr,((!(s0.toList==s1.toList))=false->ck bb i0 3 p3)/\
  ∃i2:Int,((!(s0.toList==s1.toList))=false->Cells w2 (p3.add 1) [O U i2])/\
  ∃p4:Addr,(((!(s0.toList==s1.toList))||(i1 !=i2))=false->at_=true->ck a_ i0 3 p4)/\
  ∃i3:Int,(((!(s0.toList==s1.toList))||(i1 !=i2))=false->at_=true->Cells w2 (p4.add 2) [O U i3])/\
  ∃p5:Addr,(((!(s0.toList==s1.toList))||(i1 !=i2))=false->at_=true->ck bb i0 3 p5)/\
  ∃i4:Int,(((!(s0.toList==s1.toList))||(i1 !=i2))=false->at_=true->Cells w2 (p5.add 2) [O U i4])/\
  ((((!(s0.toList==s1.toList))||(i1 !=i2))||(at_&&(i3 !=i4)))=true->∀w3:av,ay [] w2 w3->R (aj false) w3)/\
  ((((!(s0.toList==s1.toList))||(i1 !=i2))||(at_&&(i3 !=i4)))=false->∀w4:av,ay [] w2 w4->∃k6:Nat,k6<k5/\
  J0 k6 (ar U (i0+1)) w4))/\
 ((decide (i0<(a_.n:Int)))=false->az aq 44 #[ah #[O U mo,ab pU,ab pV,ab pd,qh.v,rq.v,rr.v,uS.v,O U N9],ah #[O U wE,ab wF,ab wG,ab wH,xo.v,Cu.v,Cv.v,CQ.v,O U Oa],aj at_] w2 fun e0 w5=>∃b0:Bool,e0=(ak (aj b0))/\
  aR [k2,k3] w2 w5/\
  R (aj b0) w5))
theorem agG (a_:Sl) (mo:Int) (pU pV pd:asw) (qh rq rr uS:Sl) (N9:Int) (bb:Sl) (wE:Int) (wF wG wH:asw) (xo Cu Cv CQ:Sl) (Oa:Int) (at_:Bool) (R:aA) (w:av) (h:aaJ a_ mo pU pV pd qh rq rr uS N9 bb wE wF wG wH xo Cu Cv CQ Oa at_ R w):Cr 15 #[ah #[a_.v,O U mo,ab pU,ab pV,ab pd,qh.v,rq.v,rr.v,uS.v,O U N9],ah #[bb.v,O U wE,ab wF,ab wG,ab wH,xo.v,Cu.v,Cv.v,CQ.v,O U Oa],aj at_] w R:=
 fB (an:=.s .o (.s (.s .o (.s (.s .o .o) .o)) (.s (.s .o (.j [2,3,4] [.s 7 (.int .i64)] (.s (.s .o (.s .o .o)) (.s (.s .o (.s (.s .o .o) .o)) .o)) .o)) (.s .o .o)))) (args:=[.agg (jU [.sl a_,.int .i64 mo,.str pU,.str pV,.str pd,.sl qh,.sl rq,.sl rr,.sl uS,.int .i64 N9]),.agg (jU [.sl bb,.int .i64 wE,.str wF,.str wG,.str wH,.sl xo,.sl Cu,.sl Cv,.sl CQ,.int .i64 Oa]),.bt at_]) h
def aaK (a_:Int) (mo pU pV:asw) (pd qh rq rr:Sl) (uS bb:Int) (wE wF wG:asw) (wH xo Cu Cv:Sl) (CQ:Int) (at_:Bool) (R:aA) (w:av):Prop:=
 ∀k0 k1:Nat,∀w0:av,w.heap.size<=k0->k0<w0.heap.size->w.heap.size<=k1->k1<w0.heap.size->ay [] w w0->((((((((a_ !=bb)||(!(mo.toList==wE.toList)))||(!(pU.toList==wF.toList)))||(!(pV.toList==wG.toList)))||(at_&&(uS !=CQ)))||((rq.n:Int) !=(Cu.n:Int)))||((rr.n:Int) !=(Cv.n:Int)))=true->R (aj false) w0)/\
 ((((((((a_ !=bb)||(!(mo.toList==wE.toList)))||(!(pU.toList==wF.toList)))||(!(pV.toList==wG.toList)))||(at_&&(uS !=CQ)))||((rq.n:Int) !=(Cu.n:Int)))||((rr.n:Int) !=(Cv.n:Int)))=false->az aq 92 #[pd.v,wH.v,aj at_] w0 fun e0 w1=>∃b0:Bool,e0=(ak (aj b0))/\
  aR [k0,k1] w0 w1/\
  az aq 92 #[qh.v,xo.v,aj at_] w1 fun e1 w2=>∃b1:Bool,e1=(ak (aj b1))/\
   aR [k0,k1] w1 w2/\
   (((!b0)||(!b1))=true->R (aj false) w2)/\
   (((!b0)||(!b1))=false->∃J0:Nat->Int->av->Prop,∃k2:Nat,J0 k2 0 w2/\
   ∀k3:Nat,∀i0:Int,∀w3:av,J0 k3 i0 w3->((decide (i0<(rq.n:Int)))=true->∃p0:Addr,ck rq i0 13 p0/\
    ∀w4:av,ay [] w3 w4->∃i1:Int,∃s0:asw,∃i2:Int,∃b2:Bool,∃i3 i4:Int,∃s1:asw,∃i5:Int,∃l0:Sl,∃i6:Int,∃l1 l2:Sl,∃i7:Int,Cells w4 p0 [O U i1,ab s0,O U i2,aj b2,O U i3,O U i4,ab s1,O U i5,l0.v,O U i6,l1.v,l2.v,O U i7]/\
    ∃p1:Addr,ck Cu i0 13 p1/\
    ∃i8:Int,∃s2:asw,∃i9:Int,∃b3:Bool,∃i10 i11:Int,∃s3:asw,∃i12:Int,∃l3:Sl,∃i13:Int,∃l4 l5:Sl,∃i14:Int,Cells w4 p1 [O U i8,ab s2,O U i9,aj b3,O U i10,O U i11,ab s3,O U i12,l3.v,O U i13,l4.v,l5.v,O U i14]/\
    az aq 93 #[ah #[O U i1,ab s0,O U i2,aj b2,O U i3,O U i4,ab s1,O U i5,l0.v,O U i6,l1.v,l2.v,O U i7],ah #[O U i8,ab s2,O U i9,aj b3,O U i10,O U i11,ab s3,O U i12,l3.v,O U i13,l4.v,l5.v,O U i14],aj at_] w4 fun e2 w5=>∃b4:Bool,e2=(ak (aj b4))/\
     aR [k0,k1] w4 w5/\
     ((!b4)=true->R (aj false) w5)/\
     ((!b4)=false->∃k4:Nat,k4<k3/\
     J0 k4 (ar U (i0+1)) w5))/\
   ((decide (i0<(rq.n:Int)))=false->∃J1:Nat->Int->av->Prop,∃k5:Nat,J1 k5 0 w3/\
   ∀k6:Nat,∀i15:Int,∀w6:av,J1 k6 i15 w6->((decide (i15<(rr.n:Int)))=true->∃p2:Addr,ck rr i15 9 p2/\
    ∀w7:av,ay [] w6 w7->∃i16:Int,∃s4 s5 s6:asw,∃l6 l7 l8 l9:Sl,∃i17:Int,Cells w7 p2 [O U i16,ab s4,ab s5,ab s6,l6.v,l7.v,l8.v,l9.v,O U i17]/\
    ∃p3:Addr,ck Cv i15 9 p3/\
    ∃i18:Int,∃s7 s8 s9:asw,∃l10 qo rm wC:Sl,∃i19:Int,Cells w7 p3 [O U i18,ab s7,ab s8,ab s9,l10.v,qo.v,rm.v,wC.v,O U i19]/\
    az aq 44 #[ah #[O U i16,ab s4,ab s5,ab s6,l6.v,l7.v,l8.v,l9.v,O U i17],ah #[O U i18,ab s7,ab s8,ab s9,l10.v,qo.v,rm.v,wC.v,O U i19],aj at_] w7 fun e3 w8=>∃b5:Bool,e3=(ak (aj b5))/\
     aR [k0,k1] w7 w8/\
     ((!b5)=true->R (aj false) w8)/\
     ((!b5)=false->∃k7:Nat,k7<k6/\
     J1 k7 (ar U (i15+1)) w8))/\
   ((decide (i15<(rr.n:Int)))=false->R (aj true) w6))))
theorem agH (a_:Int) (mo pU pV:asw) (pd qh rq rr:Sl) (uS bb:Int) (wE wF wG:asw) (wH xo Cu Cv:Sl) (CQ:Int) (at_:Bool) (R:aA) (w:av) (h:aaK a_ mo pU pV pd qh rq rr uS bb wE wF wG wH xo Cu Cv CQ at_ R w):Cr 44 #[ah #[O U a_,ab mo,ab pU,ab pV,pd.v,qh.v,rq.v,rr.v,O U uS],ah #[O U bb,ab wE,ab wF,ab wG,wH.v,xo.v,Cu.v,Cv.v,O U CQ],aj at_] w R:=
 fB (an:=.s .o (.s (.s .o (.s (.s .o .o) .o)) (.s .o (.s .o (.s (.s .o (.s (.s .o .o) .o)) (.s (.s .o (.j [2,3,4] [.s 9 (.int .i64)] (.s (.s .o (.s .o .o)) (.s (.s .o (.s .o (.s (.s .o .o) .o))) .o)) .o)) (.s (.s .o (.j [2,3,4] [.s 11 (.int .i64)] (.s (.s .o (.s .o .o)) (.s (.s .o (.s .o (.s (.s .o .o) .o))) .o)) .o)) (.s .o .o)))))))) (args:=[.agg (jU [.int .i64 a_,.str mo,.str pU,.str pV,.sl pd,.sl qh,.sl rq,.sl rr,.int .i64 uS]),.agg (jU [.int .i64 bb,.str wE,.str wF,.str wG,.sl wH,.sl xo,.sl Cu,.sl Cv,.int .i64 CQ]),.bt at_]) h
def aaL (a_ bb:Sl) (at_:Bool) (R:aA) (w:av):Prop:=
 (((a_.n:Int) !=(bb.n:Int))=true->R (aj false) w)/\
 (((a_.n:Int) !=(bb.n:Int))=false->∃J0:Nat->Int->av->Prop,∃k0:Nat,J0 k0 0 w/\
 ∀k1:Nat,∀i0:Int,∀w0:av,J0 k1 i0 w0->((decide (i0<(a_.n:Int)))=true->∃p0:Addr,ck a_ i0 9 p0/\
  ∀w1:av,ay [] w0 w1->∃i1 i2:Int,∃s0:asw,∃i3:Int,∃l0:Sl,∃i4:Int,Cells w1 (p0.add 2) [O U i1,O U i2,ab s0,O U i3,l0.v,O U i4]/\
  ∃p1:Addr,ck bb i0 9 p1/\
  ∃i5 i6:Int,∃s1:asw,∃i7:Int,∃l1:Sl,∃i8:Int,Cells w1 (p1.add 2) [O U i5,O U i6,ab s1,O U i7,l1.v,O U i8]/\
  az aq 159 #[ah #[O U i1,O U i2,ab s0,O U i3,l0.v,O U i4],ah #[O U i5,O U i6,ab s1,O U i7,l1.v,O U i8],aj at_] w1 fun e0 w2=>∃b0:Bool,e0=(ak (aj b0))/\
   ∃p2:Addr,((!b0)=false->ck a_ i0 9 p2)/\
   ∃i9:Int,((!b0)=false->Cells w2 (p2.add 0) [O U i9])/\
   ∃p3:Addr,((!b0)=false->ck bb i0 9 p3)/\
   ∃i10:Int,((!b0)=false->Cells w2 (p3.add 0) [O U i10])/\
   ∃p4:Addr,(((!b0)||(i9 !=i10))=false->ck a_ i0 9 p4)/\
   ∃s2:asw,(((!b0)||(i9 !=i10))=false->Cells w2 (p4.add 1) [ab s2])/\
   ∃p5:Addr,(((!b0)||(i9 !=i10))=false->ck bb i0 9 p5)/\
   ∃s3:asw,(((!b0)||(i9 !=i10))=false->Cells w2 (p5.add 1) [ab s3])/\
   ∃p6:Addr,((((!b0)||(i9 !=i10))||(!(s2.toList==s3.toList)))=false->at_=true->ck a_ i0 9 p6)/\
   ∃i11:Int,((((!b0)||(i9 !=i10))||(!(s2.toList==s3.toList)))=false->at_=true->Cells w2 (p6.add 8) [O U i11])/\
   ∃p7:Addr,((((!b0)||(i9 !=i10))||(!(s2.toList==s3.toList)))=false->at_=true->ck bb i0 9 p7)/\
   ∃i12:Int,((((!b0)||(i9 !=i10))||(!(s2.toList==s3.toList)))=false->at_=true->Cells w2 (p7.add 8) [O U i12])/\
   (((((!b0)||(i9 !=i10))||(!(s2.toList==s3.toList)))||(at_&&(i11 !=i12)))=true->∀w3:av,ay [] w2 w3->R (aj false) w3)/\
   (((((!b0)||(i9 !=i10))||(!(s2.toList==s3.toList)))||(at_&&(i11 !=i12)))=false->∀w4:av,ay [] w2 w4->∃k2:Nat,k2<k1/\
   J0 k2 (ar U (i0+1)) w4))/\
 ((decide (i0<(a_.n:Int)))=false->R (aj true) w0))
theorem agI (a_ bb:Sl) (at_:Bool) (R:aA) (w:av) (h:aaL a_ bb at_ R w):Cr 92 #[a_.v,bb.v,aj at_] w R:=
 fB (an:=.s .o (.s (.s .o (.s (.s .o .o) .o)) (.s (.s .o (.j [0,1,2] [.s 7 (.int .i64)] (.s (.s .o (.s .o .o)) (.s (.s .o (.s .o (.s (.s .o .o) .o))) .o)) .o)) (.s .o .o)))) (args:=[.sl a_,.sl bb,.bt at_]) h
def aaM (a_ mo:Int) (pU:asw) (pV:Int) (pd:Sl) (qh bb wE:Int) (wF:asw) (wG:Int) (wH:Sl) (xo:Int) (at_:Bool) (R:aA) (w:av):Prop:=
 ∀k0 k1:Nat,∀w0:av,w.heap.size<=k0->k0<w0.heap.size->w.heap.size<=k1->k1<w0.heap.size->ay [] w w0->(((((((a_ !=bb)||(mo !=wE))||(!(pU.toList==wF.toList)))||(pV !=wG))||(at_&&(qh !=xo)))||((pd.n:Int) !=(wH.n:Int)))=true->R (aj false) w0)/\
 (((((((a_ !=bb)||(mo !=wE))||(!(pU.toList==wF.toList)))||(pV !=wG))||(at_&&(qh !=xo)))||((pd.n:Int) !=(wH.n:Int)))=false->∃J0:Nat->Int->av->Prop,∃k2:Nat,J0 k2 0 w0/\
 ∀k3:Nat,∀i0:Int,∀w1:av,J0 k3 i0 w1->((decide (i0<(pd.n:Int)))=true->∃p0:Addr,ck pd i0 6 p0/\
  ∀w2:av,ay [] w1 w2->∃i1 i2:Int,∃s0:asw,∃i3:Int,∃l0:Sl,∃i4:Int,Cells w2 p0 [O U i1,O U i2,ab s0,O U i3,l0.v,O U i4]/\
  ∃p1:Addr,ck wH i0 6 p1/\
  ∃i5 i6:Int,∃s1:asw,∃i7:Int,∃l1:Sl,∃i8:Int,Cells w2 p1 [O U i5,O U i6,ab s1,O U i7,l1.v,O U i8]/\
  az aq 159 #[ah #[O U i1,O U i2,ab s0,O U i3,l0.v,O U i4],ah #[O U i5,O U i6,ab s1,O U i7,l1.v,O U i8],aj at_] w2 fun e0 w3=>∃b0:Bool,e0=(ak (aj b0))/\
   aR [k0,k1] w2 w3/\
   ((!b0)=true->R (aj false) w3)/\
   ((!b0)=false->∃k4:Nat,k4<k3/\
   J0 k4 (ar U (i0+1)) w3))/\
 ((decide (i0<(pd.n:Int)))=false->R (aj true) w1))
theorem agJ (a_ mo:Int) (pU:asw) (pV:Int) (pd:Sl) (qh bb wE:Int) (wF:asw) (wG:Int) (wH:Sl) (xo:Int) (at_:Bool) (R:aA) (w:av) (h:aaM a_ mo pU pV pd qh bb wE wF wG wH xo at_ R w):Cr 159 #[ah #[O U a_,O U mo,ab pU,O U pV,pd.v,O U qh],ah #[O U bb,O U wE,ab wF,O U wG,wH.v,O U xo],aj at_] w R:=
 fB (an:=.s .o (.s (.s .o (.s (.s .o .o) .o)) (.s (.s .o (.j [2,3,4] [.s 7 (.int .i64)] (.s (.s .o (.s .o .o)) (.s (.s .o (.s .o (.s (.s .o .o) .o))) .o)) .o)) (.s .o .o)))) (args:=[.agg (jU [.int .i64 a_,.int .i64 mo,.str pU,.int .i64 pV,.sl pd,.int .i64 qh]),.agg (jU [.int .i64 bb,.int .i64 wE,.str wF,.int .i64 wG,.sl wH,.int .i64 xo]),.bt at_]) h
def aaN (a_:Int) (mo:asw) (pU:Int) (pV:Bool) (pd qh:Int) (rq:asw) (rr:Int) (uS:Sl) (N9:Int) (Ob Oc:Sl) (Od bb:Int) (wE:asw) (wF:Int) (wG:Bool) (wH xo:Int) (Cu:asw) (Cv:Int) (CQ:Sl) (Oa:Int) (Oe Og:Sl) (Oh:Int) (at_:Bool) (R:aA) (w:av):Prop:=
 ∀k0 k1:Nat,∀w0:av,w.heap.size<=k0->k0<w0.heap.size->w.heap.size<=k1->k1<w0.heap.size->ay [] w w0->az aq 159 #[ah #[O U pd,O U qh,ab rq,O U rr,uS.v,O U N9],ah #[O U wH,O U xo,ab Cu,O U Cv,CQ.v,O U Oa],aj at_] w0 fun e0 w1=>∃b0:Bool,e0=(ak (aj b0))/\
  aR [k0,k1] w0 w1/\
  az aq 92 #[Ob.v,Oe.v,aj at_] w1 fun e1 w2=>∃b1:Bool,e1=(ak (aj b1))/\
   aR [k0,k1] w1 w2/\
   az aq 31 #[Oc.v,Og.v] w2 fun e2 w3=>∃b2:Bool,e2=(ak (aj b2))/\
    aR [k0,k1] w2 w3/\
    R (aj (((((((b0&&b1)&&b2)&&(a_==bb))&&(mo.toList==wE.toList))&&(pU==wF))&&(pV==wG))&&((!at_)||(Od==Oh)))) w3
theorem agK (a_:Int) (mo:asw) (pU:Int) (pV:Bool) (pd qh:Int) (rq:asw) (rr:Int) (uS:Sl) (N9:Int) (Ob Oc:Sl) (Od bb:Int) (wE:asw) (wF:Int) (wG:Bool) (wH xo:Int) (Cu:asw) (Cv:Int) (CQ:Sl) (Oa:Int) (Oe Og:Sl) (Oh:Int) (at_:Bool) (R:aA) (w:av) (h:aaN a_ mo pU pV pd qh rq rr uS N9 Ob Oc Od bb wE wF wG wH xo Cu Cv CQ Oa Oe Og Oh at_ R w):Cr 93 #[ah #[O U a_,ab mo,O U pU,aj pV,O U pd,O U qh,ab rq,O U rr,uS.v,O U N9,Ob.v,Oc.v,O U Od],ah #[O U bb,ab wE,O U wF,aj wG,O U wH,O U xo,ab Cu,O U Cv,CQ.v,O U Oa,Oe.v,Og.v,O U Oh],aj at_] w R:=
 fB (an:=.s .o (.s .o (.s .o (.s .o (.s .o .o))))) (args:=[.agg (jU [.int .i64 a_,.str mo,.int .i64 pU,.bt pV,.int .i64 pd,.int .i64 qh,.str rq,.int .i64 rr,.sl uS,.int .i64 N9,.sl Ob,.sl Oc,.int .i64 Od]),.agg (jU [.int .i64 bb,.str wE,.int .i64 wF,.bt wG,.int .i64 wH,.int .i64 xo,.str Cu,.int .i64 Cv,.sl CQ,.int .i64 Oa,.sl Oe,.sl Og,.int .i64 Oh]),.bt at_]) h
def aaO (a_ bb:Sl) (R:aA) (w:av):Prop:=
 (((a_.n:Int) !=(bb.n:Int))=true->R (aj false) w)/\
 (((a_.n:Int) !=(bb.n:Int))=false->∃J0:Nat->Int->av->Prop,∃k0:Nat,J0 k0 0 w/\
 ∀k1:Nat,∀i0:Int,∀w0:av,J0 k1 i0 w0->((decide (i0<(a_.n:Int)))=true->∃p0:Addr,ck a_ i0 1 p0/\
  ∃s0:asw,Cells w0 p0 [ab s0]/\
  ∃p1:Addr,ck bb i0 1 p1/\
  ∃s1:asw,Cells w0 p1 [ab s1]/\
  ((!(s0.toList==s1.toList))=true->∀w1:av,ay [] w0 w1->R (aj false) w1)/\
  ((!(s0.toList==s1.toList))=false->∀w2:av,ay [] w0 w2->∃k2:Nat,k2<k1/\
  J0 k2 (ar U (i0+1)) w2))/\
 ((decide (i0<(a_.n:Int)))=false->R (aj true) w0))
theorem agL (a_ bb:Sl) (R:aA) (w:av) (h:aaO a_ bb R w):Cr 31 #[a_.v,bb.v] w R:=
 fB (an:=.s .o (.s (.s .o (.s (.s .o .o) .o)) (.s (.s .o (.j [0,1] [.s 5 (.int .i64)] (.s (.s .o (.s .o .o)) (.s (.s .o (.s (.s .o .o) .o)) .o)) .o)) (.s .o .o)))) (args:=[.sl a_,.sl bb]) h
def aaP (c:Sl) (c1:Int) (c2 c3 c4:asw) (c5 c6 c7 c8:Sl) (c9:Int) (R:aA) (w:av):Prop:=
 ∀k0:Nat,∀w0:av,w.heap.size<=k0->k0<w0.heap.size->ay [] w w0->az aq 11 #[] w0 fun e0 w1=>∃b0:Bool,e0=(ak (aj b0))/\
  aR [k0] w0 w1/\
  az aq 12 #[ah #[c.v,O U c1,ab c2,ab c3,ab c4,c5.v,c6.v,c7.v,c8.v,O U c9]] w1 fun e1 w2=>∃l0:Sl,∃i0:Int,∃s0 s1 s2:asw,∃l1 l2 l3 l4:Sl,∃i1:Int,e1=(ak (ah #[l0.v,O U i0,ab s0,ab s1,ab s2,l1.v,l2.v,l3.v,l4.v,O U i1]))/\
   aR [k0] w1 w2/\
   ∀k1:Nat,∀w3:av,w2.heap.size<=k1->k1<w3.heap.size->ay [] w2 w3->az aq 13 #[ah #[c.v,O U c1,ab c2,ab c3,ab c4,c5.v,c6.v,c7.v,c8.v,O U c9]] w3 fun e2 w4=>∃i2:Int,e2=(ak (O U i2))/\
    aR [k0,k1] w3 w4/\
    az aq 14 #[ah #[c.v,O U c1,ab c2,ab c3,ab c4,c5.v,c6.v,c7.v,c8.v,O U c9]] w4 fun e3 w5=>∃s3:asw,∃i3:Int,e3=(ak (ai #[ab s3,O U i3]))/\
     aR [k0,k1] w4 w5/\
     az aq 15 #[ah #[c.v,O U c1,ab c2,ab c3,ab c4,c5.v,c6.v,c7.v,c8.v,O U c9],ah #[l0.v,O U i0,ab s0,ab s1,ab s2,l1.v,l2.v,l3.v,l4.v,O U i1],aj true] w5 fun e4 w6=>∃b1:Bool,e4=(ak (aj b1))/\
      aR [k0,k1] w5 w6/\
      az aq 16 #[ah #[c.v,O U c1,ab c2,ab c3,ab c4,c5.v,c6.v,c7.v,c8.v,O U c9]] w6 fun e5 w7=>∃s4:asw,∃i4:Int,e5=(ak (ai #[ab s4,O U i4]))/\
       aR [k0,k1] w6 w7/\
       R (aj ((((b0&&b1)&&(s3.toList==s4.toList))&&(i3==i4))&&(i2==i4))) w7
theorem agM (c:Sl) (c1:Int) (c2 c3 c4:asw) (c5 c6 c7 c8:Sl) (c9:Int) (R:aA) (w:av) (h:aaP c c1 c2 c3 c4 c5 c6 c7 c8 c9 R w):Cr 3 #[ah #[c.v,O U c1,ab c2,ab c3,ab c4,c5.v,c6.v,c7.v,c8.v,O U c9]] w R:=
 fB (an:=.s .o (.s .o (.s .o (.s .o (.s .o (.s .o (.s .o (.s .o .o)))))))) (args:=[.agg (jU [.sl c,.int .i64 c1,.str c2,.str c3,.str c4,.sl c5,.sl c6,.sl c7,.sl c8,.int .i64 c9])]) h
def aaQ (c:Sl) (c1:Int) (c2 c3 c4:asw) (c5 c6 c7 c8:Sl) (c9:Int) (R:aA) (w:av):Prop:=
 ∀k0 k1:Nat,∀w0:av,w.heap.size<=k0->k0<w0.heap.size->w.heap.size<=k1->k1<w0.heap.size->ay [] w w0->∃J0:Sl->Int->asw->asw->asw->Sl->Sl->Sl->Sl->Int->av->Prop,(∀l0:Sl,∀i0:Int,∀s0 s1 s2:asw,∀l1 l2 l3 l4:Sl,∀i1:Int,∀w1:av,J0 l0 i0 s0 s1 s2 l1 l2 l3 l4 i1 w1->R (ah #[l0.v,O U i0,ab s0,ab s1,ab s2,l1.v,l2.v,l3.v,l4.v,O U i1]) w1)/\
 ∀w2:av,ay [] w0 w2->∃J1:Nat->Prop,J1 k0/\
 J1 k0/\
 (∃l5:Sl,∃w3:av,((au 22 0 #[]).run aq w2)=(.ok l5.v w3)/\
  aR [k0,k1] w2 w3/\
  bE J1 w2 w3/\
  (∃l6:Sl,∃w4:av,((Builtin.append_ #[22,22] 22 #[l5.v,c.v]).run aq w3)=(.ok l6.v w4)/\
   aR [k0,k1] w3 w4/\
   bE J1 w3 w4/\
   ∃l7:Sl,∃w5:av,((au 25 1 #[.mk 0 (ah #[O U c1,ab c2,ab c3,ab c4,c5.v,c6.v,c7.v,c8.v,O U c9])]).run aq w4)=(.ok l7.v w5)/\
   aR [k0,k1] w4 w5/\
   bE J1 w4 w5/\
   az aq 35 #[l7.v] w5 fun e0 w6=>∃l8:Sl,e0=(ak l8.v)/\
    aR [k0,k1] w5 w6/\
    bE J1 w5 w6/\
    ∃p0:Addr,ck l8 0 9 p0/\
    ∃i2:Int,∃s3 s4 s5:asw,∃l9 l10 qo rm:Sl,∃i3:Int,Cells w6 p0 [O U i2,ab s3,ab s4,ab s5,l9.v,l10.v,qo.v,rm.v,O U i3]/\
    ∀w7:av,ay [k1] w6 w7->J0 l6 i2 s3 s4 s5 l9 l10 qo rm i3 w7)/\
  ∃wC:Sl,∃w8:av,((au 25 1 #[.mk 0 (ah #[O U c1,ab c2,ab c3,ab c4,c5.v,c6.v,c7.v,c8.v,O U c9])]).run aq w3)=(.ok wC.v w8)/\
  aR [k0,k1] w3 w8/\
  bE J1 w3 w8/\
  ∃zC:Sl,∃w9:av,((Builtin.append_ #[22,22] 22 #[l5.v,c.v]).run aq w8)=(.ok zC.v w9)/\
  aR [k0,k1] w8 w9/\
  bE J1 w8 w9/\
  az aq 35 #[wC.v] w9 fun e1 cK=>∃EP:Sl,e1=(ak EP.v)/\
   aR [k0,k1] w9 cK/\
   bE J1 w9 cK/\
   ∃p1:Addr,ck EP 0 9 p1/\
   ∃i4:Int,∃s6 s7 s8:asw,∃PH PI N5 PJ:Sl,∃i5:Int,Cells cK p1 [O U i4,ab s6,ab s7,ab s8,PH.v,PI.v,N5.v,PJ.v,O U i5]/\
   ∀cY:av,ay [k1] cK cY->J0 zC i4 s6 s7 s8 PH PI N5 PJ i5 cY)/\
 ∃KS:Sl,∃dz:av,((au 25 1 #[.mk 0 (ah #[O U c1,ab c2,ab c3,ab c4,c5.v,c6.v,c7.v,c8.v,O U c9])]).run aq w2)=(.ok KS.v dz)/\
 aR [k0,k1] w2 dz/\
 bE J1 w2 dz/\
 ∃PK:Sl,∃dF:av,((au 22 0 #[]).run aq dz)=(.ok PK.v dF)/\
 aR [k0,k1] dz dF/\
 bE J1 dz dF/\
 ∃l22:Sl,∃eI:av,((Builtin.append_ #[22,22] 22 #[PK.v,c.v]).run aq dF)=(.ok l22.v eI)/\
 aR [k0,k1] dF eI/\
 bE J1 dF eI/\
 az aq 35 #[KS.v] eI fun e2 fQ=>∃l23:Sl,e2=(ak l23.v)/\
  aR [k0,k1] eI fQ/\
  bE J1 eI fQ/\
  ∃p2:Addr,ck l23 0 9 p2/\
  ∃i6:Int,∃s9 GD CP:asw,∃l24 l25 l26 X9:Sl,∃i7:Int,Cells fQ p2 [O U i6,ab s9,ab GD,ab CP,l24.v,l25.v,l26.v,X9.v,O U i7]/\
  ∀gP:av,ay [k1] fQ gP->J0 l22 i6 s9 GD CP l24 l25 l26 X9 i7 gP
theorem agN (c:Sl) (c1:Int) (c2 c3 c4:asw) (c5 c6 c7 c8:Sl) (c9:Int) (R:aA) (w:av) (h:aaQ c c1 c2 c3 c4 c5 c6 c7 c8 c9 R w):Cr 12 #[ah #[c.v,O U c1,ab c2,ab c3,ab c4,c5.v,c6.v,c7.v,c8.v,O U c9]] w R:=
 fB (an:=.s .o (.s (.j [1,2] [.b 2 [.sl,.int .i64,.str,.str,.str,.sl,.sl,.sl,.sl,.int .i64]] .o .o) .o)) (args:=[.agg (jU [.sl c,.int .i64 c1,.str c2,.str c3,.str c4,.sl c5,.sl c6,.sl c7,.sl c8,.int .i64 c9])]) h
def U7 (l:Sl) (R:aA) (w:av):Prop:=
 ∃J0:Nat->Sl->Int->av->Prop,∃k0:Nat,J0 k0 Sl.nil 0 w/\
 ∀k1:Nat,∀l0:Sl,∀i0:Int,∀w0:av,J0 k1 l0 i0 w0->((decide (i0<(l.n:Int)))=true->∃p0:Addr,ck l i0 9 p0/\
  ∃i1:Int,∃s0 s1 s2:asw,∃l1 l2 l3 l4:Sl,∃i2:Int,Cells w0 p0 [O U i1,ab s0,ab s1,ab s2,l1.v,l2.v,l3.v,l4.v,O U i2]/\
  ∀k2:Nat,∀w1:av,w0.heap.size<=k2->k2<w1.heap.size->ay [] w0 w1->az aq 80 #[l1.v] w1 fun e0 w2=>∃l5:Sl,e0=(ak l5.v)/\
   aR [k2] w1 w2/\
   ∀w3:av,ay [k2] w2 w3->az aq 80 #[l2.v] w3 fun e1 w4=>∃l6:Sl,e1=(ak l6.v)/\
    aR [k2] w3 w4/\
    ∀w5:av,ay [k2] w4 w5->az aq 81 #[l3.v] w5 fun e2 w6=>∃l7:Sl,e2=(ak l7.v)/\
     aR [k2] w5 w6/\
     ∀w7:av,ay [k2] w6 w7->az aq 35 #[l4.v] w7 fun e3 w8=>∃l8:Sl,e3=(ak l8.v)/\
      aR [k2] w7 w8/\
      ∀w9:av,ay [k2] w8 w9->∃l9:Sl,∃cK:av,((au 25 1 #[.mk 0 (ah #[O U i1,ab s0,ab s1,ab s2,l5.v,l6.v,l7.v,l8.v,O U i2])]).run aq w9)=(.ok l9.v cK)/\
      aR [k2] w9 cK/\
      ∃l10:Sl,∃cY:av,((Builtin.append_ #[25,25] 25 #[l0.v,l9.v]).run aq cK)=(.ok l10.v cY)/\
      aR [k2] cK cY/\
      ∃k3:Nat,k3<k1/\
      J0 k3 l10 (ar U (i0+1)) cY)/\
 ((decide (i0<(l.n:Int)))=false->R l0.v w0)
theorem aaR (l:Sl) (R:aA) (w:av) (h:U7 l R w):Cr 35 #[l.v] w R:=
 fB (an:=.s .o (.s .o (.s (.s .o (.j [0] [.s 3 .sl,.s 4 (.int .i64)] (.s (.s .o (.s .o .o)) (.s (.s .o (.s .o (.s .o (.s .o (.s .o .o))))) .o)) .o)) (.s .o .o)))) (args:=[.sl l]) h
def aaS (l:Sl) (R:aA) (w:av):Prop:=
 ∃J0:Nat->Sl->Int->av->Prop,∃k0:Nat,J0 k0 Sl.nil 0 w/\
 ∀k1:Nat,∀l0:Sl,∀i0:Int,∀w0:av,J0 k1 l0 i0 w0->((decide (i0<(l.n:Int)))=true->∃p0:Addr,ck l i0 9 p0/\
  ∃i1:Int,∃s0:asw,∃i2 i3:Int,∃s1:asw,∃i4:Int,∃l1:Sl,∃i5 i6:Int,Cells w0 p0 [O U i1,ab s0,O U i2,O U i3,ab s1,O U i4,l1.v,O U i5,O U i6]/\
  ∀k2:Nat,∀w1:av,w0.heap.size<=k2->k2<w1.heap.size->ay [] w0 w1->az aq 144 #[l1.v] w1 fun e0 w2=>∃l2:Sl,e0=(ak l2.v)/\
   aR [k2] w1 w2/\
   ∀w3:av,ay [k2] w2 w3->∃l3:Sl,∃w4:av,((au 23 1 #[.mk 0 (ah #[O U i1,ab s0,O U i2,O U i3,ab s1,O U i4,l2.v,O U i5,O U i6])]).run aq w3)=(.ok l3.v w4)/\
   aR [k2] w3 w4/\
   ∃l4:Sl,∃w5:av,((Builtin.append_ #[23,23] 23 #[l0.v,l3.v]).run aq w4)=(.ok l4.v w5)/\
   aR [k2] w4 w5/\
   ∃k3:Nat,k3<k1/\
   J0 k3 l4 (ar U (i0+1)) w5)/\
 ((decide (i0<(l.n:Int)))=false->R l0.v w0)
theorem agO (l:Sl) (R:aA) (w:av) (h:aaS l R w):Cr 80 #[l.v] w R:=
 fB (an:=.s .o (.s .o (.s (.s .o (.j [0] [.s 3 .sl,.s 4 (.int .i64)] (.s (.s .o (.s .o .o)) (.s (.s .o (.s .o .o)) .o)) .o)) (.s .o .o)))) (args:=[.sl l]) h
def U8 (l:Sl) (R:aA) (w:av):Prop:=
 ∃J0:Nat->Sl->Int->av->Prop,∃k0:Nat,J0 k0 Sl.nil 0 w/\
 ∀k1:Nat,∀l0:Sl,∀i0:Int,∀w0:av,J0 k1 l0 i0 w0->((decide (i0<(l.n:Int)))=true->∃p0:Addr,ck l i0 6 p0/\
  ∃i1 i2:Int,∃s0:asw,∃i3:Int,∃l1:Sl,∃i4:Int,Cells w0 p0 [O U i1,O U i2,ab s0,O U i3,l1.v,O U i4]/\
  ∀k2:Nat,∀w1:av,w0.heap.size<=k2->k2<w1.heap.size->ay [] w0 w1->az aq 144 #[l1.v] w1 fun e0 w2=>∃l2:Sl,e0=(ak l2.v)/\
   aR [k2] w1 w2/\
   ∀w3:av,ay [k2] w2 w3->∃l3:Sl,∃w4:av,((au 49 1 #[.mk 0 (ah #[O U i1,O U i2,ab s0,O U i3,l2.v,O U i4])]).run aq w3)=(.ok l3.v w4)/\
   aR [k2] w3 w4/\
   ∃l4:Sl,∃w5:av,((Builtin.append_ #[49,49] 49 #[l0.v,l3.v]).run aq w4)=(.ok l4.v w5)/\
   aR [k2] w4 w5/\
   ∃k3:Nat,k3<k1/\
   J0 k3 l4 (ar U (i0+1)) w5)/\
 ((decide (i0<(l.n:Int)))=false->R l0.v w0)
theorem aaT (l:Sl) (R:aA) (w:av) (h:U8 l R w):Cr 144 #[l.v] w R:=
 fB (an:=.s .o (.s .o (.s (.s .o (.j [0] [.s 3 .sl,.s 4 (.int .i64)] (.s (.s .o (.s .o .o)) (.s (.s .o (.s .o .o)) .o)) .o)) (.s .o .o)))) (args:=[.sl l]) h
def aaU (l:Sl) (R:aA) (w:av):Prop:=
 ∃J0:Nat->Sl->Int->av->Prop,∃k0:Nat,J0 k0 Sl.nil 0 w/\
 ∀k1:Nat,∀l0:Sl,∀i0:Int,∀w0:av,J0 k1 l0 i0 w0->((decide (i0<(l.n:Int)))=true->∃p0:Addr,ck l i0 13 p0/\
  ∃i1:Int,∃s0:asw,∃i2:Int,∃b0:Bool,∃i3 i4:Int,∃s1:asw,∃i5:Int,∃l1:Sl,∃i6:Int,∃l2 l3:Sl,∃i7:Int,Cells w0 p0 [O U i1,ab s0,O U i2,aj b0,O U i3,O U i4,ab s1,O U i5,l1.v,O U i6,l2.v,l3.v,O U i7]/\
  ∀k2:Nat,∀w1:av,w0.heap.size<=k2->k2<w1.heap.size->ay [] w0 w1->az aq 144 #[l1.v] w1 fun e0 w2=>∃l4:Sl,e0=(ak l4.v)/\
   aR [k2] w1 w2/\
   ∀w3:av,ay [k2] w2 w3->az aq 80 #[l2.v] w3 fun e1 w4=>∃l5:Sl,e1=(ak l5.v)/\
    aR [k2] w3 w4/\
    ∀w5:av,ay [k2] w4 w5->∃l6:Sl,∃w6:av,((au 52 0 #[]).run aq w5)=(.ok l6.v w6)/\
    aR [k2] w5 w6/\
    ∃l7:Sl,∃w7:av,((Builtin.append_ #[52,52] 52 #[l6.v,l3.v]).run aq w6)=(.ok l7.v w7)/\
    aR [k2] w6 w7/\
    ∀w8:av,ay [k2] w7 w8->∃l8:Sl,∃w9:av,((au 24 1 #[.mk 0 (ah #[O U i1,ab s0,O U i2,aj b0,O U i3,O U i4,ab s1,O U i5,l4.v,O U i6,l5.v,l7.v,O U i7])]).run aq w8)=(.ok l8.v w9)/\
    aR [k2] w8 w9/\
    ∃l9:Sl,∃cK:av,((Builtin.append_ #[24,24] 24 #[l0.v,l8.v]).run aq w9)=(.ok l9.v cK)/\
    aR [k2] w9 cK/\
    ∃k3:Nat,k3<k1/\
    J0 k3 l9 (ar U (i0+1)) cK)/\
 ((decide (i0<(l.n:Int)))=false->R l0.v w0)
theorem agP (l:Sl) (R:aA) (w:av) (h:aaU l R w):Cr 81 #[l.v] w R:=
 fB (an:=.s .o (.s .o (.s (.s .o (.j [0] [.s 3 .sl,.s 4 (.int .i64)] (.s (.s .o (.s .o .o)) (.s (.s .o (.s .o (.s .o (.s .o .o)))) .o)) .o)) (.s .o .o)))) (args:=[.sl l]) h
def aaV (c:Sl) (c1:Int) (c2 c3 c4:asw) (c5 c6 c7 c8:Sl) (c9:Int) (R:aA) (w:av):Prop:=
 ∀k0:Nat,∀w0:av,w.heap.size<=k0->k0<w0.heap.size->ay [] w w0->az aq 14 #[ah #[c.v,O U c1,ab c2,ab c3,ab c4,c5.v,c6.v,c7.v,c8.v,O U c9]] w0 fun e0 w1=>∃s0:asw,∃i0:Int,e0=(ak (ai #[ab s0,O U i0]))/\
  aR [k0] w0 w1/\
  R (O U i0) w1
theorem agQ (c:Sl) (c1:Int) (c2 c3 c4:asw) (c5 c6 c7 c8:Sl) (c9:Int) (R:aA) (w:av) (h:aaV c c1 c2 c3 c4 c5 c6 c7 c8 c9 R w):Cr 13 #[ah #[c.v,O U c1,ab c2,ab c3,ab c4,c5.v,c6.v,c7.v,c8.v,O U c9]] w R:=
 fB (an:=.s .o (.s .o (.s .o .o))) (args:=[.agg (jU [.sl c,.int .i64 c1,.str c2,.str c3,.str c4,.sl c5,.sl c6,.sl c7,.sl c8,.int .i64 c9])]) h
def aaW (c:Sl) (c1:Int) (c2 c3 c4:asw) (c5 c6 c7 c8:Sl) (c9:Int) (R:aA) (w:av):Prop:=
 ∀k0:Nat,∀w0:av,w.heap.size<=k0->k0<w0.heap.size->ay [] w w0->az aq 45 #[ah #[c.v,O U c1,ab c2,ab c3,ab c4,c5.v,c6.v,c7.v,c8.v,O U c9]] w0 fun e0 w1=>∃b0:Bool,e0=(ak (aj b0))/\
  aR [k0] w0 w1/\
  ((!b0)=true->R (ai #[ab (ao #[]),O U 22]) w1)/\
  ((!b0)=false->(6+(c2.size:Int))<=9223372036854775807/\
  ((((ao #[99,104,97,114,116,32])++c2).size:Int)+2)<=9223372036854775807/\
  ∀k1:Nat,∀w2:av,w1.heap.size<=k1->k1<w2.heap.size->ay [] w1 w2->Blk w2 k1 86 [Sl.nil.v]->az aq 46 #[ae (some ⟨k1,0,none⟩),O U 0,ab (((ao #[99,104,97,114,116,32])++c2)++(ao #[32,123]))] w2 fun e1 w3=>e1=(ak (ai #[]))/\
   aR [k0] w2 w3/\
   ∃l0:Sl,Blk w3 k1 86 [l0.v]/\
   ∃J0:Nat->Int->Sl->av->Prop,∃k2:Nat,J0 k2 0 l0 w3/\
   ∀k3:Nat,∀i0:Int,∀l1:Sl,∀w4:av,J0 k3 i0 l1 w4->((decide (i0<(c.n:Int)))=true->∀w5:av,ay [] w4 w5->Blk w5 k1 86 [l1.v]->∃J1:Nat->Prop,J1 k0/\
    ∃p0:Addr,ck c i0 3 p0/\
    J1 ((p0.add 0).block)/\
    ∃s0:asw,Cells w5 (p0.add 0) [ab s0]/\
    (4+(s0.size:Int))<=9223372036854775807/\
    ((((ao #[118,97,114,32])++s0).size:Int)+3)<=9223372036854775807/\
    ∃p1:Addr,ck c i0 3 p1/\
    ∃i1:Int,Cells w5 (p1.add 1) [O U i1]/\
    az aq 47 #[O U i1] w5 fun e2 w6=>∃s1:asw,e2=(ak (ab s1))/\
     aR [k0] w5 w6/\
     ∃l2:Sl,Blk w6 k1 86 [l2.v]/\
     bE J1 w5 w6/\
     (((((ao #[118,97,114,32])++s0)++(ao #[32,61,32])).size:Int)+(s1.size:Int))<=9223372036854775807/\
     ((((((ao #[118,97,114,32])++s0)++(ao #[32,61,32]))++s1).size:Int)+1)<=9223372036854775807/\
     az aq 46 #[ae (some ⟨k1,0,none⟩),O U 1,ab (((((ao #[118,97,114,32])++s0)++(ao #[32,61,32]))++s1)++(ao #[59]))] w6 fun e3 w7=>e3=(ak (ai #[]))/\
      aR [k0] w6 w7/\
      ∃l3:Sl,Blk w7 k1 86 [l3.v]/\
      bE J1 w6 w7/\
      ∃k4:Nat,k4<k3/\
      J0 k4 (ar U (i0+1)) l3 w7)/\
   ((decide (i0<(c.n:Int)))=false->az aq 48 #[ae (some ⟨k1,0,none⟩),ah #[O U c1,ab c2,ab c3,ab c4,c5.v,c6.v,c7.v,c8.v,O U c9],O U 1] w4 fun e4 w8=>e4=(ak (ai #[]))/\
    aR [k0] w4 w8/\
    ∃l4:Sl,Blk w8 k1 86 [l4.v]/\
    az aq 46 #[ae (some ⟨k1,0,none⟩),O U 0,ab (ao #[125])] w8 fun e5 w9=>e5=(ak (ai #[]))/\
     aR [k0] w8 w9/\
     ∃l5:Sl,Blk w9 k1 86 [l5.v]/\
     ((decide ((l5.n:Int)>16384))=true->R (ai #[ab (ao #[]),O U 2]) w9)/\
     ((decide ((l5.n:Int)>16384))=false->∃z0:aB,pY w9 l5 z0/\
     R (ai #[ab (ao z0.toArray),O U 0]) w9)))
theorem agR (c:Sl) (c1:Int) (c2 c3 c4:asw) (c5 c6 c7 c8:Sl) (c9:Int) (R:aA) (w:av) (h:aaW c c1 c2 c3 c4 c5 c6 c7 c8 c9 R w):Cr 16 #[ah #[c.v,O U c1,ab c2,ab c3,ab c4,c5.v,c6.v,c7.v,c8.v,O U c9]] w R:=
 fB (an:=.s .o (.s .o (.s (.s .o (.s (.s .o .o) .o)) (.s .o (.s .o (.s (.s .o (.j [1,5,12] [.s 6 (.int .i64),.b 12 [.sl]] (.s (.s .o (.s .o .o)) (.s .o .o)) .o)) (.s .o (.s .o (.s (.s .o (.s (.s .o .o) .o)) (.s .o .o)))))))))) (args:=[.agg (jU [.sl c,.int .i64 c1,.str c2,.str c3,.str c4,.sl c5,.sl c6,.sl c7,.sl c8,.int .i64 c9])]) h
def aaX (c:Sl) (c1:Int) (c2 c3 c4:asw) (c5 c6 c7 c8:Sl) (c9:Int) (R:aA) (w:av):Prop:=
 ∀k0:Nat,∀w0:av,w.heap.size<=k0->k0<w0.heap.size->ay [] w w0->∃J0:Nat->Int->av->Prop,∃k1:Nat,J0 k1 0 w0/\
 ∀k2:Nat,∀i0:Int,∀w1:av,J0 k2 i0 w1->((decide (i0<(c.n:Int)))=true->∃p0:Addr,ck c i0 3 p0/\
  ∃s0:asw,Cells w1 (p0.add 0) [ab s0]/\
  az aq 94 #[ab s0] w1 fun e0 w2=>∃b0:Bool,e0=(ak (aj b0))/\
   aR [k0] w1 w2/\
   ∃p1:Addr,((!b0)=false->ck c i0 3 p1)/\
   ∃i1:Int,((!b0)=false->Cells w2 (p1.add 1) [O U i1])/\
   (((!b0)||(i1==(-9223372036854775808)))=true->R (aj false) w2)/\
   (((!b0)||(i1==(-9223372036854775808)))=false->∃k3:Nat,k3<k2/\
   J0 k3 (ar U (i0+1)) w2))/\
 ((decide (i0<(c.n:Int)))=false->∀k4:Nat,∀w3:av,w1.heap.size<=k4->k4<w3.heap.size->ay [] w1 w3->Blk w3 k4 158 [O U 0,O U 0,O U 0]->az aq 95 #[ae (some ⟨k4,0,none⟩),ah #[O U c1,ab c2,ab c3,ab c4,c5.v,c6.v,c7.v,c8.v,O U c9],O U 0] w3 fun e1 w4=>∃b1:Bool,e1=(ak (aj b1))/\
  aR [k0] w3 w4/\
  ∃i2 i3 i4:Int,Blk w4 k4 158 [O U i2,O U i3,O U i4]/\
  R (aj ((((b1&&(c1==1))&&(decide ((c.n:Int)<=16)))&&(decide (i3<=200)))&&(decide (i4<=400)))) w4)
theorem agS (c:Sl) (c1:Int) (c2 c3 c4:asw) (c5 c6 c7 c8:Sl) (c9:Int) (R:aA) (w:av) (h:aaX c c1 c2 c3 c4 c5 c6 c7 c8 c9 R w):Cr 45 #[ah #[c.v,O U c1,ab c2,ab c3,ab c4,c5.v,c6.v,c7.v,c8.v,O U c9]] w R:=
 fB (an:=.s .o (.s (.s .o (.j [1] [.s 3 (.int .i64)] (.s (.s .o (.s .o .o)) (.s (.s .o (.s .o (.s (.s .o .o) .o))) .o)) .o)) (.s .o (.s .o (.s .o .o))))) (args:=[.agg (jU [.sl c,.int .i64 c1,.str c2,.str c3,.str c4,.sl c5,.sl c6,.sl c7,.sl c8,.int .i64 c9])]) h
def aaY (c:Int) (R:aA) (w:av):Prop:=
 R (aj ((((decide (c>=65))&&(decide (c<=90)))||((decide (c>=97))&&(decide (c<=122))))||(c==95))) w
theorem agT (c:Int) (R:aA) (w:av) (h:aaY c R w):Cr 160 #[.int .u8 c] w R:=
 fB (an:=.s .o (.s .o .o)) (args:=[.int .u8 c]) h
end Go.Proofs.YtmhoiicofhlgbaaGreatDoor.Vc
