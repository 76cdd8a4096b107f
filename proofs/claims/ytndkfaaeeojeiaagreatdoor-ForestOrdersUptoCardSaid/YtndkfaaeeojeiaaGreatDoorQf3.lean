import Derived.Test.YtndkfaaeeojeiaaGreatDoorQf2
set_option linter.unusedSectionVars false
namespace Go.Proofs.YtndkfaaeeojeiaaGreatDoor.Vc
open Go Go.RowKit Go.Kt Go.Kt.V
set_option linter.unusedVariables false
set_option maxRecDepth 100000
set_option maxHeartbeats 40000000
def v93v (s : ByteArray) (R : Value -> World -> Prop) (w : World) : Prop :=
  ∀ k0 k1 : Nat, ∀ w0 : World, w.heap.size <= k0 -> k0 < w0.heap.size -> w.heap.size <= k1 -> k1 < w0.heap.size -> Only [] w w0 -> Calls Tryz.prog 37 #[.string s] w0 fun e0 w1 => ∃ l0 : Sl, ∃ i0 i1 : Int, e0 = (.returned (.tuple #[l0.v, .agg #[.int .i64 i0, .int .i64 i1]])) /\
   Same [k0, k1] w0 w1 /\
   ((i0 != 0) = true -> ∀ k2 : Nat, ∀ w2 : World, w1.heap.size <= k2 -> k2 < w2.heap.size -> Only [] w1 w2 -> k0 ≠ k1 -> k0 ≠ k2 -> k1 ≠ k2 -> ∃ J0 : Nat -> Prop, J0 k2 /\
    Out J0 k0 /\
    Out J0 k1 /\
    ∀ w3 : World, Only [k1, k0] w2 w3 -> R (.tuple #[.agg #[Sl.nil.v, .int .i64 0, .string (ByteArray.mk #[]), .string (ByteArray.mk #[]), .string (ByteArray.mk #[]), Sl.nil.v, Sl.nil.v, Sl.nil.v, Sl.nil.v, .int .i64 0], .agg #[.int .i64 i0, .int .i64 i1]]) w3) /\
   ((i0 != 0) = false -> ∀ k3 k4 k5 : Nat, ∀ w4 : World, w1.heap.size <= k3 -> k3 < w4.heap.size -> w1.heap.size <= k4 -> k4 < w4.heap.size -> w1.heap.size <= k5 -> k5 < w4.heap.size -> Only [] w1 w4 -> ∃ l1 : Sl, ∃ w5 : World, ((Instr.buildSlice 57 1 #[.mk 0 (.string (ByteArray.mk #[99, 104, 97, 114, 116]))]).run Tryz.prog w4) = (.ok l1.v w5) /\
   Same [k0, k1, k3, k4, k5] w4 w5 /\
   (Blk w5 k4 88 [l0.v, .int .i64 0, .int .i64 0, .int .i64 0, .int .i64 16, .int .i64 64, .int .i64 12, .int .i64 200, .int .i64 400] -> k0 ≠ k4 -> k1 ≠ k4 -> k3 ≠ k4 -> k5 ≠ k4 -> Calls Tryz.prog 38 #[.pointer (some ⟨k4, 0, none⟩), l1.v] w5 fun e1 w6 => e1 = (.returned (.tuple #[])) /\
    Same [k0, k1, k3, k5] w5 w6 /\
    ∃ l2 : Sl, ∃ i2 i3 i4 i5 i6 i7 i8 i9 : Int, Blk w6 k4 88 [l2.v, .int .i64 i2, .int .i64 i3, .int .i64 i4, .int .i64 i5, .int .i64 i6, .int .i64 i7, .int .i64 i8, .int .i64 i9] /\
    Calls Tryz.prog 39 #[.pointer (some ⟨k4, 0, none⟩), .int .i64 1] w6 fun e2 w7 => ∃ i10 : Int, ∃ s0 s1 s2 : ByteArray, ∃ l3 l4 l5 l6 : Sl, ∃ i11 : Int, e2 = (.returned (.agg #[.int .i64 i10, .string s0, .string s1, .string s2, l3.v, l4.v, l5.v, l6.v, .int .i64 i11])) /\
     Same [k0, k1, k3, k5] w6 w7 /\
     ∃ l7 : Sl, ∃ i12 i13 i14 i15 i16 i17 i18 i19 : Int, Blk w7 k4 88 [l7.v, .int .i64 i12, .int .i64 i13, .int .i64 i14, .int .i64 i15, .int .i64 i16, .int .i64 i17, .int .i64 i18, .int .i64 i19] /\
     ∀ w8 : World, Only [k5] w7 w8 -> Blk w8 k4 88 [l7.v, .int .i64 i12, .int .i64 i13, .int .i64 i14, .int .i64 i15, .int .i64 i16, .int .i64 i17, .int .i64 i18, .int .i64 i19] -> ∃ l8 : Sl, ∃ w9 : World, ((Instr.buildSlice 57 1 #[.mk 0 (.string (ByteArray.mk #[123]))]).run Tryz.prog w8) = (.ok l8.v w9) /\
     Same [k0, k1, k3, k4, k5] w8 w9 /\
     Calls Tryz.prog 38 #[.pointer (some ⟨k4, 0, none⟩), l8.v] w9 fun e3 w10 => e3 = (.returned (.tuple #[])) /\
      Same [k0, k1, k3, k5] w9 w10 /\
      ∃ l9 : Sl, ∃ i20 i21 i22 i23 i24 i25 i26 i27 : Int, Blk w10 k4 88 [l9.v, .int .i64 i20, .int .i64 i21, .int .i64 i22, .int .i64 i23, .int .i64 i24, .int .i64 i25, .int .i64 i26, .int .i64 i27] /\
      ∃ J1 : Nat -> Sl -> Int -> ByteArray -> ByteArray -> ByteArray -> Sl -> Sl -> Sl -> Sl -> Int -> Sl -> Int -> Int -> Int -> Int -> Int -> Int -> Int -> Int -> World -> Prop, ∃ k6 : Nat, J1 k6 Sl.nil i10 s0 s1 s2 l3 l4 l5 l6 i11 l9 i20 i21 i22 i23 i24 i25 i26 i27 w10 /\
      ∀ k7 : Nat, ∀ l10 : Sl, ∀ i28 : Int, ∀ s3 s4 s5 : ByteArray, ∀ l11 l12 l13 l14 : Sl, ∀ i29 : Int, ∀ l15 : Sl, ∀ i30 i31 i32 i33 i34 i35 i36 i37 : Int, ∀ w11 : World, J1 k7 l10 i28 s3 s4 s5 l11 l12 l13 l14 i29 l15 i30 i31 i32 i33 i34 i35 i36 i37 w11 -> ∃ l16 : Sl, ∃ w12 : World, ((Instr.buildSlice 57 1 #[.mk 0 (.string (ByteArray.mk #[118, 97, 114]))]).run Tryz.prog w11) = (.ok l16.v w12) /\
      Same [k0, k1, k3, k4, k5] w11 w12 /\
      Calls Tryz.prog 40 #[.pointer (some ⟨k4, 0, none⟩), l16.v] w12 fun e4 w13 => ∃ i38 : Int, e4 = (.returned (.int .i64 i38)) /\
       Same [k0, k1, k3, k5] w12 w13 /\
       ∃ l17 : Sl, ∃ i39 i40 i41 i42 i43 i44 i45 i46 : Int, Blk w13 k4 88 [l17.v, .int .i64 i39, .int .i64 i40, .int .i64 i41, .int .i64 i42, .int .i64 i43, .int .i64 i44, .int .i64 i45, .int .i64 i46] /\
       ((decide (i38 > 0)) = true -> ∀ w14 : World, Only [] w13 w14 -> Blk w14 k4 88 [l17.v, .int .i64 i39, .int .i64 i40, .int .i64 i41, .int .i64 i42, .int .i64 i43, .int .i64 i44, .int .i64 i45, .int .i64 i46] -> ∃ J2 : Nat -> Prop, J2 k5 /\
        Calls Tryz.prog 41 #[.pointer (some ⟨k4, 0, none⟩)] w14 fun e5 w15 => ∃ s6 : ByteArray, ∃ i47 i48 : Int, e5 = (.returned (.agg #[.string s6, .int .i64 i47, .int .i64 i48])) /\
         Same [k0, k1, k3, k5] w14 w15 /\
         ∃ l18 : Sl, ∃ i49 i50 i51 i52 i53 i54 i55 i56 : Int, Blk w15 k4 88 [l18.v, .int .i64 i49, .int .i64 i50, .int .i64 i51, .int .i64 i52, .int .i64 i53, .int .i64 i54, .int .i64 i55, .int .i64 i56] /\
         Keeps J2 w14 w15 /\
         ∃ l19 : Sl, ∃ w16 : World, ((Instr.buildSlice 22 1 #[.mk 0 (.agg #[.string s6, .int .i64 i47, .int .i64 i48])]).run Tryz.prog w15) = (.ok l19.v w16) /\
         Same [k0, k1, k3, k4, k5] w15 w16 /\
         Keeps J2 w15 w16 /\
         ∃ l20 : Sl, ∃ w17 : World, ((Builtin.append_ #[22, 22] 22 #[l10.v, l19.v]).run Tryz.prog w16) = (.ok l20.v w17) /\
         Same [k0, k1, k3, k4, k5] w16 w17 /\
         Keeps J2 w16 w17 /\
         ∀ w18 : World, Only [k5] w17 w18 -> Blk w18 k4 88 [l18.v, .int .i64 i49, .int .i64 i50, .int .i64 i51, .int .i64 i52, .int .i64 i53, .int .i64 i54, .int .i64 i55, .int .i64 i56] -> ∃ k8 : Nat, k8 < k7 /\
         J1 k8 l20 i28 s3 s4 s5 l11 l12 l13 l14 i29 l18 i49 i50 i51 i52 i53 i54 i55 i56 w18) /\
       ((decide (i38 > 0)) = false -> Blk w13 k5 29 [l10.v, .int .i64 i28, .string s3, .string s4, .string s5, l11.v, l12.v, l13.v, l14.v, .int .i64 i29] -> k0 ≠ k5 -> k1 ≠ k5 -> k3 ≠ k5 -> Calls Tryz.prog 42 #[.pointer (some ⟨k4, 0, none⟩), .pointer (some ⟨k5, 1, none⟩)] w13 fun e6 w19 => e6 = (.returned (.tuple #[])) /\
        Same [k0, k1, k3] w13 w19 /\
        ∃ l21 : Sl, ∃ i57 i58 i59 i60 i61 i62 i63 i64 : Int, Blk w19 k4 88 [l21.v, .int .i64 i57, .int .i64 i58, .int .i64 i59, .int .i64 i60, .int .i64 i61, .int .i64 i62, .int .i64 i63, .int .i64 i64] /\
        ∃ l22 : Sl, ∃ i65 : Int, ∃ s7 s8 s9 : ByteArray, ∃ l23 l24 l25 l26 : Sl, ∃ i66 : Int, Blk w19 k5 29 [l22.v, .int .i64 i65, .string s7, .string s8, .string s9, l23.v, l24.v, l25.v, l26.v, .int .i64 i66] /\
        ∃ J3 : Sl -> Int -> ByteArray -> ByteArray -> ByteArray -> Sl -> Sl -> Sl -> Sl -> Int -> Sl -> Int -> Int -> Int -> Int -> Int -> Int -> Int -> Int -> World -> Prop, (∀ l27 : Sl, ∀ i67 : Int, ∀ s10 s11 s12 : ByteArray, ∀ l28 l29 l30 l31 : Sl, ∀ i68 : Int, ∀ l32 : Sl, ∀ i69 i70 i71 i72 i73 i74 i75 i76 : Int, ∀ w20 : World, J3 l27 i67 s10 s11 s12 l28 l29 l30 l31 i68 l32 i69 i70 i71 i72 i73 i74 i75 i76 w20 -> Calls Tryz.prog 43 #[.pointer (some ⟨k4, 0, none⟩)] w20 fun e7 w21 => ∃ b0 : Bool, e7 = (.returned (.bool b0)) /\
          Same [k0, k1, k3] w20 w21 /\
          ∃ l33 : Sl, ∃ i77 i78 i79 i80 i81 i82 i83 i84 : Int, Blk w21 k4 88 [l33.v, .int .i64 i77, .int .i64 i78, .int .i64 i79, .int .i64 i80, .int .i64 i81, .int .i64 i82, .int .i64 i83, .int .i64 i84] /\
          ∃ l34 : Sl, ∃ i85 : Int, ∃ s13 s14 s15 : ByteArray, ∃ l35 l36 l37 l38 : Sl, ∃ i86 : Int, Blk w21 k5 29 [l34.v, .int .i64 i85, .string s13, .string s14, .string s15, l35.v, l36.v, l37.v, l38.v, .int .i64 i86] /\
          ((!b0) = true -> ∀ w22 : World, Only [] w21 w22 -> Blk w22 k4 88 [l33.v, .int .i64 i77, .int .i64 i78, .int .i64 i79, .int .i64 i80, .int .i64 i81, .int .i64 i82, .int .i64 i83, .int .i64 i84] -> Blk w22 k5 29 [l34.v, .int .i64 i85, .string s13, .string s14, .string s15, l35.v, l36.v, l37.v, l38.v, .int .i64 i86] -> k0 ≠ k1 -> k0 ≠ k3 -> k0 ≠ k4 -> k0 ≠ k5 -> k1 ≠ k3 -> k1 ≠ k4 -> k1 ≠ k5 -> k3 ≠ k4 -> k3 ≠ k5 -> k4 ≠ k5 -> ∃ J4 : Nat -> Prop, J4 k4 /\
           Out J4 k0 /\
           Out J4 k1 /\
           ∀ w23 : World, Only [k1, k0] w22 w23 -> Blk w23 k4 88 [l33.v, .int .i64 i77, .int .i64 i78, .int .i64 i79, .int .i64 i80, .int .i64 i81, .int .i64 i82, .int .i64 i83, .int .i64 i84] -> Blk w23 k5 29 [l34.v, .int .i64 i85, .string s13, .string s14, .string s15, l35.v, l36.v, l37.v, l38.v, .int .i64 i86] -> R (.tuple #[.agg #[Sl.nil.v, .int .i64 0, .string (ByteArray.mk #[]), .string (ByteArray.mk #[]), .string (ByteArray.mk #[]), Sl.nil.v, Sl.nil.v, Sl.nil.v, Sl.nil.v, .int .i64 0], .agg #[.int .i64 i78, .int .i64 i79]]) w23) /\
          ((!b0) = false -> ∀ w24 : World, Only [k1, k0] w21 w24 -> Blk w24 k4 88 [l33.v, .int .i64 i77, .int .i64 i78, .int .i64 i79, .int .i64 i80, .int .i64 i81, .int .i64 i82, .int .i64 i83, .int .i64 i84] -> Blk w24 k5 29 [l34.v, .int .i64 i85, .string s13, .string s14, .string s15, l35.v, l36.v, l37.v, l38.v, .int .i64 i86] -> R (.tuple #[.agg #[l34.v, .int .i64 i85, .string s13, .string s14, .string s15, l35.v, l36.v, l37.v, l38.v, .int .i64 i86], .agg #[.int .i64 0, .int .i64 0]]) w24)) /\
        ∃ J5 : Bool -> Sl -> Int -> ByteArray -> ByteArray -> ByteArray -> Sl -> Sl -> Sl -> Sl -> Int -> Sl -> Int -> Int -> Int -> Int -> Int -> Int -> Int -> Int -> World -> Prop, (∀ b1 : Bool, ∀ l39 : Sl, ∀ i87 : Int, ∀ s16 s17 s18 : ByteArray, ∀ l40 l41 l42 l43 : Sl, ∀ i88 : Int, ∀ l44 : Sl, ∀ i89 i90 i91 i92 i93 i94 i95 i96 : Int, ∀ w25 : World, J5 b1 l39 i87 s16 s17 s18 l40 l41 l42 l43 i88 l44 i89 i90 i91 i92 i93 i94 i95 i96 w25 -> (b1 = true -> Calls Tryz.prog 44 #[.pointer (some ⟨k4, 0, none⟩)] w25 fun e8 w26 => e8 = (.returned (.tuple #[])) /\
           Same [k0, k1, k3] w25 w26 /\
           ∃ l45 : Sl, ∃ i97 i98 i99 i100 i101 i102 i103 i104 : Int, Blk w26 k4 88 [l45.v, .int .i64 i97, .int .i64 i98, .int .i64 i99, .int .i64 i100, .int .i64 i101, .int .i64 i102, .int .i64 i103, .int .i64 i104] /\
           ∃ l46 : Sl, ∃ i105 : Int, ∃ s19 s20 s21 : ByteArray, ∃ l47 l48 l49 l50 : Sl, ∃ i106 : Int, Blk w26 k5 29 [l46.v, .int .i64 i105, .string s19, .string s20, .string s21, l47.v, l48.v, l49.v, l50.v, .int .i64 i106] /\
           J3 l46 i105 s19 s20 s21 l47 l48 l49 l50 i106 l45 i97 i98 i99 i100 i101 i102 i103 i104 w26) /\
         (b1 = false -> J3 l39 i87 s16 s17 s18 l40 l41 l42 l43 i88 l44 i89 i90 i91 i92 i93 i94 i95 i96 w25)) /\
        ∀ w27 : World, Only [] w19 w27 -> Blk w27 k4 88 [l21.v, .int .i64 i57, .int .i64 i58, .int .i64 i59, .int .i64 i60, .int .i64 i61, .int .i64 i62, .int .i64 i63, .int .i64 i64] -> Blk w27 k5 29 [l22.v, .int .i64 i65, .string s7, .string s8, .string s9, l23.v, l24.v, l25.v, l26.v, .int .i64 i66] -> Calls Tryz.prog 43 #[.pointer (some ⟨k4, 0, none⟩)] w27 fun e9 w28 => ∃ b2 : Bool, e9 = (.returned (.bool b2)) /\
         Same [k0, k1, k3] w27 w28 /\
         ∃ l51 : Sl, ∃ i107 i108 i109 i110 i111 i112 i113 i114 : Int, Blk w28 k4 88 [l51.v, .int .i64 i107, .int .i64 i108, .int .i64 i109, .int .i64 i110, .int .i64 i111, .int .i64 i112, .int .i64 i113, .int .i64 i114] /\
         ∃ l52 : Sl, ∃ i115 : Int, ∃ s22 s23 s24 : ByteArray, ∃ l53 l54 l55 l56 : Sl, ∃ i116 : Int, Blk w28 k5 29 [l52.v, .int .i64 i115, .string s22, .string s23, .string s24, l53.v, l54.v, l55.v, l56.v, .int .i64 i116] /\
         (b2 = true -> ∃ p0 : Addr, SlAt l51 i107 4 p0 /\
          ∃ i117 : Int, Cells w28 (p0.add 0) [.int .i64 i117] /\
          J5 (i117 != 5) l52 i115 s22 s23 s24 l53 l54 l55 l56 i116 l51 i107 i108 i109 i110 i111 i112 i113 i114 w28) /\
         (b2 = false -> J5 false l52 i115 s22 s23 s24 l53 l54 l55 l56 i116 l51 i107 i108 i109 i110 i111 i112 i113 i114 w28))))
abbrev Cr (f : FuncId) (a : Array Value) (w : World) (R : Value -> World -> Prop) : Prop := Calls Tryz.prog f a w fun e w' => ∃ v, e = .returned v /\ R v w'
theorem fB {f : FuncId} {an : Ann} {args : List SV} {R : Value -> World -> Prop} {w : World} {vs : Array Value} {vc : Prop} (h : vc) (hv : vs = (vals β0 args).toArray := by kernel_rfl) (he : vc = Vfn Tryz.prog f an args R w := by kernel_rfl) : Cr f vs w R := fn_by Tryz.checked.mixed hv he h
theorem v93w (s : ByteArray) (R : Value -> World -> Prop) (w : World) (h : v93v s R w) : Cr 13 #[.string s] w R :=
 fB (an := .s .o (.s .o (.s (.s .o (.s (.s .o .o) .o)) (.s .o (.s .o (.s .o (.s .o (.s .o (.s (.j [2, 3, 5, 6, 7, 22] [.b 7 [.sl, .int .i64, .str, .str, .str, .sl, .sl, .sl, .sl, .int .i64], .b 22 [.sl, .int .i64, .int .i64, .int .i64, .int .i64, .int .i64, .int .i64, .int .i64, .int .i64]] (.s (.s .o (.s .o .o)) .o) .o) (.s .o (.j [2, 3, 5, 6, 7, 22] [.b 7 [.sl, .int .i64, .str, .str, .str, .sl, .sl, .sl, .sl, .int .i64], .b 22 [.sl, .int .i64, .int .i64, .int .i64, .int .i64, .int .i64, .int .i64, .int .i64, .int .i64]] (.s (.j [2, 3, 5, 6, 7, 22] [.s 71 .bool, .b 7 [.sl, .int .i64, .str, .str, .str, .sl, .sl, .sl, .sl, .int .i64], .b 22 [.sl, .int .i64, .int .i64, .int .i64, .int .i64, .int .i64, .int .i64, .int .i64, .int .i64]] .o .o) (.s .o .o)) (.s (.s .o (.s (.s .o .o) .o)) (.s .o .o))))))))))))) (args := [.str s]) h
def v60v (s : ByteArray) (R : Value -> World -> Prop) (w : World) : Prop :=
  ((decide ((s.size : Int) > 16384)) = true -> ∀ k0 : Nat, ∀ w0 : World, w.heap.size <= k0 -> k0 < w0.heap.size -> Only [] w w0 -> R (.tuple #[Sl.nil.v, .agg #[.int .i64 2, .int .i64 (-1)]]) w0) /\
  ((decide ((s.size : Int) > 16384)) = false -> ∀ k1 : Nat, ∀ w1 : World, w.heap.size <= k1 -> k1 < w1.heap.size -> Only [] w w1 -> Calls Tryz.prog 70 #[] w1 fun e0 w2 => ∃ l0 : Sl, e0 = (.returned l0.v) /\
   Same [k1] w1 w2 /\
   ∀ k2 : Nat, ∀ w3 : World, w2.heap.size <= k2 -> k2 < w3.heap.size -> Only [] w2 w3 -> Blk w3 k2 129 [.string s, .int .i64 0, l0.v, Sl.nil.v] -> Calls Tryz.prog 71 #[.pointer (some ⟨k2, 0, none⟩)] w3 fun e1 w4 => e1 = (.returned (.tuple #[])) /\
    Same [k1] w3 w4 /\
    ∃ s0 : ByteArray, ∃ i0 : Int, ∃ l1 l2 : Sl, Blk w4 k2 129 [.string s0, .int .i64 i0, l1.v, l2.v] /\
    ∃ J0 : Nat -> Int -> Int -> ByteArray -> Int -> Sl -> Sl -> World -> Prop, ∃ k3 : Nat, J0 k3 0 0 s0 i0 l1 l2 w4 /\
    ∀ k4 : Nat, ∀ i1 i2 : Int, ∀ s1 : ByteArray, ∀ i3 : Int, ∀ l3 l4 : Sl, ∀ w5 : World, J0 k4 i1 i2 s1 i3 l3 l4 w5 -> Calls Tryz.prog 72 #[.pointer (some ⟨k2, 0, none⟩)] w5 fun e2 w6 => ∃ b0 : Bool, e2 = (.returned (.bool b0)) /\
     Same [k1] w5 w6 /\
     ∃ s2 : ByteArray, ∃ i4 : Int, ∃ l5 l6 : Sl, Blk w6 k2 129 [.string s2, .int .i64 i4, l5.v, l6.v] /\
     ((!b0) = true -> Calls Tryz.prog 73 #[.pointer (some ⟨k2, 0, none⟩)] w6 fun e3 w7 => ∃ i5 : Int, e3 = (.returned (.int .i64 i5)) /\
       Same [k1] w6 w7 /\
       ∃ s3 : ByteArray, ∃ i6 : Int, ∃ l7 l8 : Sl, Blk w7 k2 129 [.string s3, .int .i64 i6, l7.v, l8.v] /\
       ((i5 != 0) = true -> ∀ w8 : World, Only [k1] w7 w8 -> Blk w8 k2 129 [.string s3, .int .i64 i6, l7.v, l8.v] -> R (.tuple #[Sl.nil.v, .agg #[.int .i64 i5, .int .i64 i6]]) w8) /\
       ((i5 != 0) = false -> Calls Tryz.prog 71 #[.pointer (some ⟨k2, 0, none⟩)] w7 fun e4 w9 => e4 = (.returned (.tuple #[])) /\
        Same [k1] w7 w9 /\
        ∃ s4 : ByteArray, ∃ i7 : Int, ∃ l9 l10 : Sl, Blk w9 k2 129 [.string s4, .int .i64 i7, l9.v, l10.v] /\
        ∃ k5 : Nat, k5 < k4 /\
        J0 k5 i1 i2 s4 i7 l9 l10 w9)) /\
     ((!b0) = false -> Calls Tryz.prog 74 #[.pointer (some ⟨k2, 0, none⟩), .agg #[.int .i64 5, .string (ByteArray.mk #[]), .int .i64 0, .int .i64 0], .int .i64 0] w6 fun e5 w10 => e5 = (.returned (.tuple #[])) /\
      Same [k1] w6 w10 /\
      ∃ s5 : ByteArray, ∃ i8 : Int, ∃ l11 l12 : Sl, Blk w10 k2 129 [.string s5, .int .i64 i8, l11.v, l12.v] /\
      ∀ w11 : World, Only [k1] w10 w11 -> Blk w11 k2 129 [.string s5, .int .i64 i8, l11.v, l12.v] -> R (.tuple #[l12.v, .agg #[.int .i64 0, .int .i64 0]]) w11))
theorem v60w (s : ByteArray) (R : Value -> World -> Prop) (w : World) (h : v60v s R w) : Cr 37 #[.string s] w R :=
 fB (an := .s .o (.s (.s .o (.s (.s .o .o) .o)) (.s .o (.s (.s .o (.j [3, 4, 14] [.b 3 [.int .i64, .int .i64], .b 14 [.str, .int .i64, .sl, .sl]] (.s (.s .o (.s .o .o)) (.s (.s .o (.s .o (.s (.s .o .o) .o))) .o)) .o)) (.s .o (.s .o .o)))))) (args := [.str s]) h
def v61v (R : Value -> World -> Prop) (w : World) : Prop :=
 ∃ l0 : Sl, ∃ w0 : World, ((Instr.buildSlice 57 16 #[.mk 0 (.string (ByteArray.mk #[97, 102, 116, 101, 114])), .mk 1 (.string (ByteArray.mk #[97, 108, 119, 97, 121, 115])), .mk 2 (.string (ByteArray.mk #[99, 104, 97, 114, 116])), .mk 3 (.string (ByteArray.mk #[100, 101, 101, 112])), .mk 4 (.string (ByteArray.mk #[101, 109, 105, 116])), .mk 5 (.string (ByteArray.mk #[101, 110, 116, 101, 114])), .mk 6 (.string (ByteArray.mk #[104, 105, 115, 116, 111, 114, 121])), .mk 7 (.string (ByteArray.mk #[105, 110])), .mk 8 (.string (ByteArray.mk #[105, 110, 105, 116, 105, 97, 108])), .mk 9 (.string (ByteArray.mk #[108, 101, 97, 118, 101])), .mk 10 (.string (ByteArray.mk #[111, 110])), .mk 11 (.string (ByteArray.mk #[112, 97, 114, 97, 108, 108, 101, 108])), .mk 12 (.string (ByteArray.mk #[114, 97, 105, 115, 101])), .mk 13 (.string (ByteArray.mk #[115, 101, 116])), .mk 14 (.string (ByteArray.mk #[115, 116, 97, 116, 101])), .mk 15 (.string (ByteArray.mk #[118, 97, 114]))]).run Tryz.prog w) = (.ok l0.v w0) /\
 R l0.v w0
theorem v61w (R : Value -> World -> Prop) (w : World) (h : v61v R w) : Cr 70 #[] w R :=
 fB (an := .s .o (.s .o .o)) (args := []) h
def v65v (c : Addr) (R : Value -> World -> Prop) (w : World) : Prop :=
  ∃ J0 : Nat -> World -> Prop, ∃ k0 : Nat, J0 k0 w /\
  ∀ k1 : Nat, ∀ w0 : World, J0 k1 w0 -> Calls Tryz.prog 72 #[.pointer (some c)] w0 fun e0 w1 => ∃ b0 : Bool, e0 = (.returned (.bool b0)) /\
   ((!b0) = true -> ∃ s0 : ByteArray, Cells w1 (c.add 0) [.string s0] /\
    ∃ i0 : Int, Cells w1 (c.add 1) [.int .i64 i0] /\
    ∃ c0 : UInt8, (0 <= i0 /\
     (s0[Int.toNat i0]?) = (some c0)) /\
    ∀ w2 : World, Only [] w1 w2 -> ∃ l0 : Sl, ∃ w3 : World, ((Instr.buildSlice 64 4 #[.mk 0 (.int .u8 9), .mk 1 (.int .u8 10), .mk 2 (.int .u8 13), .mk 3 (.int .u8 32)]).run Tryz.prog w2) = (.ok l0.v w3) /\
    Calls Tryz.prog 113 #[.int .u8 (UInt8.toNat c0 : Int), l0.v] w3 fun e1 w4 => ∃ b1 : Bool, e1 = (.returned (.bool b1)) /\
     (b1 = true -> ∃ i1 : Int, Cells w4 (c.add 1) [.int .i64 i1] /\
      ∃ k3 k4 : Nat, ∃ z0 : List Value, ∃ k5 : Nat, (c.add 1) = ⟨k3, k4, none⟩ /\
      Blk w4 k3 k5 z0 /\
      (k4 + 1) <= z0.length /\
      ∀ w5 : World, Only [k3] w4 w5 -> Blk w5 k3 k5 (splice z0 k4 [.int .i64 (IntKind.wrap .i64 (i1 + 1))]) -> ∃ k6 : Nat, k6 < k1 /\
      J0 k6 w5) /\
     (b1 = false -> Calls Tryz.prog 114 #[.pointer (some c)] w4 fun e2 w6 => ∃ s2 : ByteArray, e2 = (.returned (.string s2)) /\
      Calls Tryz.prog 101 #[.string s2, .string (ByteArray.mk #[47, 47])] w6 fun e3 w7 => ∃ b2 : Bool, e3 = (.returned (.bool b2)) /\
       (b2 = true -> Calls Tryz.prog 114 #[.pointer (some c)] w7 fun e4 w8 => ∃ s3 : ByteArray, e4 = (.returned (.string s3)) /\
         Calls Tryz.prog 115 #[.string s3, .string (ByteArray.mk #[10])] w8 fun e5 w9 => ∃ s4 s5 : ByteArray, ∃ b3 : Bool, e5 = (.returned (.tuple #[.string s4, .string s5, .bool b3])) /\
          ∃ i2 : Int, Cells w9 (c.add 1) [.int .i64 i2] /\
          ∃ k7 k8 : Nat, ∃ z1 : List Value, ∃ k9 : Nat, (c.add 1) = ⟨k7, k8, none⟩ /\
          Blk w9 k7 k9 z1 /\
          (k8 + 1) <= z1.length /\
          ∀ w10 : World, Only [k7] w9 w10 -> Blk w10 k7 k9 (splice z1 k8 [.int .i64 (IntKind.wrap .i64 (i2 + (s4.size : Int)))]) -> ∃ k10 : Nat, k10 < k1 /\
          J0 k10 w10) /\
       (b2 = false -> R (.tuple #[]) w7))) /\
   ((!b0) = false -> R (.tuple #[]) w1)
theorem v65w (c : Addr) (R : Value -> World -> Prop) (w : World) (h : v65v c R w) : Cr 71 #[.pointer (some c)] w R :=
 fB (an := .j [0] [] (.s (.s .o (.s .o .o)) (.s .o (.s .o (.s .o (.s .o (.s (.s .o .o) .o)))))) .o) (args := [.ad c]) h
def v62v (c : Addr) (R : Value -> World -> Prop) (w : World) : Prop :=
 ∃ i0 : Int, Cells w (c.add 1) [.int .i64 i0] /\
 ∃ s0 : ByteArray, Cells w (c.add 0) [.string s0] /\
 ∀ w0 : World, Only [] w w0 -> R (.bool (decide (i0 >= (s0.size : Int)))) w0
theorem v62w (c : Addr) (R : Value -> World -> Prop) (w : World) (h : v62v c R w) : Cr 72 #[.pointer (some c)] w R :=
 fB (an := .s .o (.s .o .o)) (args := [.ad c]) h
def v73v (c : Int) (of_ : Sl) (R : Value -> World -> Prop) (w : World) : Prop :=
  Calls Tryz.prog 148 #[of_.v, .int .u8 c] w fun e0 w0 => ∃ b0 : Bool, e0 = (.returned (.bool b0)) /\
   R (.bool b0) w0
theorem v73w (c : Int) (of_ : Sl) (R : Value -> World -> Prop) (w : World) (h : v73v c of_ R w) : Cr 113 #[.int .u8 c, of_.v] w R :=
 fB (an := .s .o (.s .o .o)) (args := [.int .u8 c, .sl of_]) h
def v76v (s : Sl) (v1 : Int) (R : Value -> World -> Prop) (w : World) : Prop :=
  Calls Tryz.prog 177 #[s.v, .int .u8 v1] w fun e0 w0 => ∃ i0 : Int, e0 = (.returned (.int .i64 i0)) /\
   R (.bool (decide (i0 >= 0))) w0
theorem v76w (s : Sl) (v1 : Int) (R : Value -> World -> Prop) (w : World) (h : v76v s v1 R w) : Cr 148 #[s.v, .int .u8 v1] w R :=
 fB (an := .s .o (.s .o .o)) (args := [.sl s, .int .u8 v1]) h
def v83v (s : Sl) (v1 : Int) (R : Value -> World -> Prop) (w : World) : Prop :=
  ∃ J0 : Nat -> Int -> World -> Prop, ∃ k0 : Nat, J0 k0 0 w /\
  ∀ k1 : Nat, ∀ i0 : Int, ∀ w0 : World, J0 k1 i0 w0 -> ((decide (i0 < (s.n : Int))) = true -> ∃ p0 : Addr, SlAt s i0 1 p0 /\
   ∃ i1 : Int, Cells w0 p0 [.int .u8 i1] /\
   ((v1 == i1) = true -> R (.int .i64 i0) w0) /\
   ((v1 == i1) = false -> ∃ k2 : Nat, k2 < k1 /\
   J0 k2 (IntKind.wrap .i64 (i0 + 1)) w0)) /\
  ((decide (i0 < (s.n : Int))) = false -> R (.int .i64 (-1)) w0)
theorem v83w (s : Sl) (v1 : Int) (R : Value -> World -> Prop) (w : World) (h : v83v s v1 R w) : Cr 177 #[s.v, .int .u8 v1] w R :=
 fB (an := .s .o (.s (.s .o (.j [0, 1, 7] [.s 8 (.int .i64)] (.s .o (.s (.s .o .o) (.s (.s .o (.s .o (.s (.s .o .o) .o))) .o))) .o)) (.s .o .o))) (args := [.sl s, .int .u8 v1]) h
def v63v (c : Addr) (R : Value -> World -> Prop) (w : World) : Prop :=
  ∃ s0 : ByteArray, Cells w (c.add 0) [.string s0] /\
  ∃ i0 : Int, Cells w (c.add 1) [.int .i64 i0] /\
  ∃ k0 : Nat, (i0 = (k0 : Int) /\
   k0 <= s0.size) /\
  ∀ w0 : World, Only [] w w0 -> R (.string (s0.extract k0 s0.size)) w0
theorem v63w (c : Addr) (R : Value -> World -> Prop) (w : World) (h : v63v c R w) : Cr 114 #[.pointer (some c)] w R :=
 fB (an := .s .o (.s .o .o)) (args := [.ad c]) h
def v92v (s prefix_ : ByteArray) (R : Value -> World -> Prop) (w : World) : Prop :=
  Calls Tryz.prog 143 #[.string s, .string prefix_] w fun e0 w0 => ∃ b0 : Bool, e0 = (.returned (.bool b0)) /\
   R (.bool b0) w0
theorem v92w (s prefix_ : ByteArray) (R : Value -> World -> Prop) (w : World) (h : v92v s prefix_ R w) : Cr 101 #[.string s, .string prefix_] w R :=
 fB (an := .s .o (.s .o .o)) (args := [.str s, .str prefix_]) h
def v35v (s prefix_ : ByteArray) (R : Value -> World -> Prop) (w : World) : Prop :=
  ∃ k0 : Nat, ((decide ((s.size : Int) >= (prefix_.size : Int))) = true -> (prefix_.size : Int) = (k0 : Int) /\
   k0 <= s.size) /\
  R (.bool ((decide ((s.size : Int) >= (prefix_.size : Int))) && (((s.extract 0 k0).toList) == prefix_.toList))) w
theorem v35w (s prefix_ : ByteArray) (R : Value -> World -> Prop) (w : World) (h : v35v s prefix_ R w) : Cr 143 #[.string s, .string prefix_] w R :=
 fB (an := .s .o (.s .o .o)) (args := [.str s, .str prefix_]) h
def v91v (s sep : ByteArray) (R : Value -> World -> Prop) (w : World) : Prop :=
  Calls Tryz.prog 149 #[.string s, .string sep] w fun e0 w0 => ∃ s0 s1 : ByteArray, ∃ b0 : Bool, e0 = (.returned (.tuple #[.string s0, .string s1, .bool b0])) /\
   R (.tuple #[.string s0, .string s1, .bool b0]) w0
theorem v91w (s sep : ByteArray) (R : Value -> World -> Prop) (w : World) (h : v91v s sep R w) : Cr 115 #[.string s, .string sep] w R :=
 fB (an := .s .o (.s .o .o)) (args := [.str s, .str sep]) h
def v34v (s sep : ByteArray) (R : Value -> World -> Prop) (w : World) : Prop :=
  Calls Tryz.prog 162 #[.string s, .string sep] w fun e0 w0 => ∃ i0 : Int, e0 = (.returned (.int .i64 i0)) /\
   ((decide (i0 >= 0)) = true -> ∃ k0 : Nat, (i0 = (k0 : Int) /\
     k0 <= s.size) /\
    ∃ k1 : Nat, ((IntKind.wrap .i64 (i0 + (sep.size : Int))) = (k1 : Int) /\
     k1 <= s.size) /\
    ∀ w1 : World, Only [] w0 w1 -> R (.tuple #[.string (s.extract 0 k0), .string (s.extract k1 s.size), .bool true]) w1) /\
   ((decide (i0 >= 0)) = false -> R (.tuple #[.string s, .string (ByteArray.mk #[]), .bool false]) w0)
theorem v34w (s sep : ByteArray) (R : Value -> World -> Prop) (w : World) (h : v34v s sep R w) : Cr 149 #[.string s, .string sep] w R :=
 fB (an := .s .o (.s (.s .o (.s .o (.s (.s .o .o) .o))) (.s .o .o))) (args := [.str s, .str sep]) h
def v69v (c : Addr) (R : Value -> World -> Prop) (w : World) : Prop :=
  ∃ s0 : ByteArray, Cells w ((c.add 0).add 0) [.string s0] /\
  ∃ i0 : Int, Cells w ((c.add 0).add 1) [.int .i64 i0] /\
  ∃ c0 : UInt8, (0 <= i0 /\
   (s0[Int.toNat i0]?) = (some c0)) /\
  ∀ w0 : World, Only [] w w0 -> Calls Tryz.prog 106 #[.int .u8 (UInt8.toNat c0 : Int)] w0 fun e0 w1 => ∃ b0 : Bool, e0 = (.returned (.bool b0)) /\
   (b0 = true -> Calls Tryz.prog 116 #[.pointer (some c)] w1 fun e1 w2 => ∃ i1 : Int, e1 = (.returned (.int .i64 i1)) /\
     R (.int .i64 i1) w2) /\
   (b0 = false -> Calls Tryz.prog 117 #[.int .u8 (UInt8.toNat c0 : Int)] w1 fun e2 w3 => ∃ b1 : Bool, e2 = (.returned (.bool b1)) /\
    (b1 = true -> Calls Tryz.prog 118 #[.pointer (some c)] w3 fun e3 w4 => ∃ i2 : Int, e3 = (.returned (.int .i64 i2)) /\
      R (.int .i64 i2) w4) /\
    (b1 = false -> Calls Tryz.prog 119 #[.pointer (some c)] w3 fun e4 w5 => ∃ i3 : Int, e4 = (.returned (.int .i64 i3)) /\
     R (.int .i64 i3) w5))
theorem v69w (c : Addr) (R : Value -> World -> Prop) (w : World) (h : v69v c R w) : Cr 73 #[.pointer (some c)] w R :=
 fB (an := .s .o (.s (.s .o (.s .o (.s (.s .o .o) (.s .o (.s (.s .o .o) .o))))) (.s .o .o))) (args := [.ad c]) h
def v72v (c : Int) (R : Value -> World -> Prop) (w : World) : Prop :=
 R (.bool (((decide (97 <= (bits .or .u8 c 32))) && (decide ((bits .or .u8 c 32) <= 122))) || (c == 95))) w
theorem v72w (c : Int) (R : Value -> World -> Prop) (w : World) (h : v72v c R w) : Cr 106 #[.int .u8 c] w R :=
 fB (an := .s .o (.s .o .o)) (args := [.int .u8 c]) h
def v70v (c : Addr) (R : Value -> World -> Prop) (w : World) : Prop :=
  Calls Tryz.prog 107 #[.pointer (some (c.add 0))] w fun e0 w0 => ∃ s0 : ByteArray, e0 = (.returned (.string s0)) /\
   ((decide ((s0.size : Int) > 24)) = true -> R (.int .i64 2) w0) /\
   ((decide ((s0.size : Int) > 24)) = false -> ∃ J0 : Int -> World -> Prop, (∀ i0 : Int, ∀ w1 : World, J0 i0 w1 -> Calls Tryz.prog 150 #[.string s0] w1 fun e1 w2 => ∃ s1 : ByteArray, e1 = (.returned (.string s1)) /\
     Calls Tryz.prog 74 #[.pointer (some c), .agg #[.int .i64 i0, .string s1, .int .i64 0, .int .i64 0], .int .i64 (s0.size : Int)] w2 fun e2 w3 => e2 = (.returned (.tuple #[])) /\
      R (.int .i64 0) w3) /\
   ∃ l0 : Sl, Cells w0 (c.add 2) [l0.v] /\
   Calls Tryz.prog 108 #[l0.v, .string s0] w0 fun e3 w4 => ∃ b0 : Bool, e3 = (.returned (.bool b0)) /\
    (b0 = true -> J0 2 w4) /\
    (b0 = false -> J0 1 w4))
theorem v70w (c : Addr) (R : Value -> World -> Prop) (w : World) (h : v70v c R w) : Cr 116 #[.pointer (some c)] w R :=
 fB (an := .s .o (.s .o (.s (.s .o (.s (.s .o .o) .o)) (.s .o (.j [0, 3] [.s 4 (.int .i64)] (.s .o (.s .o .o)) (.s .o (.s .o .o))))))) (args := [.ad c]) h
def v64v (c : Addr) (R : Value -> World -> Prop) (w : World) : Prop :=
  Calls Tryz.prog 114 #[.pointer (some c)] w fun e0 w0 => ∃ s0 : ByteArray, e0 = (.returned (.string s0)) /\
   ∃ J0 : Nat -> Int -> World -> Prop, ∃ k0 : Nat, J0 k0 0 w0 /\
   ∀ k1 : Nat, ∀ i0 : Int, ∀ w1 : World, J0 k1 i0 w1 -> ∃ J1 : Bool -> World -> Prop, (∀ b0 : Bool, ∀ w2 : World, J1 b0 w2 -> (b0 = true -> ∃ k2 : Nat, k2 < k1 /\
     J0 k2 (IntKind.wrap .i64 (i0 + 1)) w2) /\
    (b0 = false -> ∃ k3 : Nat, (i0 = (k3 : Int) /\
     k3 <= s0.size) /\
    R (.string (s0.extract 0 k3)) w2)) /\
   ((decide (i0 < (s0.size : Int))) = true -> ∃ c0 : UInt8, (0 <= i0 /\
     (s0[Int.toNat i0]?) = (some c0)) /\
    Calls Tryz.prog 106 #[.int .u8 (UInt8.toNat c0 : Int)] w1 fun e1 w3 => ∃ b1 : Bool, e1 = (.returned (.bool b1)) /\
     (b1 = true -> J1 true w3) /\
     (b1 = false -> ∃ c1 : UInt8, (0 <= i0 /\
      (s0[Int.toNat i0]?) = (some c1)) /\
     Calls Tryz.prog 117 #[.int .u8 (UInt8.toNat c1 : Int)] w3 fun e2 w4 => ∃ b2 : Bool, e2 = (.returned (.bool b2)) /\
      J1 b2 w4)) /\
   ((decide (i0 < (s0.size : Int))) = false -> J1 false w1)
theorem v64w (c : Addr) (R : Value -> World -> Prop) (w : World) (h : v64v c R w) : Cr 107 #[.pointer (some c)] w R :=
 fB (an := .s .o (.s .o (.s .o (.s (.j [3] [.s 4 (.int .i64)] (.s (.s (.j [3, 4] [.s 22 .bool] .o .o) (.s .o .o)) .o) .o) (.s .o .o))))) (args := [.ad c]) h
def v71v (c : Int) (R : Value -> World -> Prop) (w : World) : Prop :=
 R (.bool ((decide (48 <= c)) && (decide (c <= 57)))) w
theorem v71w (c : Int) (R : Value -> World -> Prop) (w : World) (h : v71v c R w) : Cr 117 #[.int .u8 c] w R :=
 fB (an := .s .o (.s .o .o)) (args := [.int .u8 c]) h
def v77v (s : Sl) (v1 : ByteArray) (R : Value -> World -> Prop) (w : World) : Prop :=
  Calls Tryz.prog 120 #[s.v, .string v1] w fun e0 w0 => ∃ i0 : Int, e0 = (.returned (.int .i64 i0)) /\
   R (.bool (decide (i0 >= 0))) w0
theorem v77w (s : Sl) (v1 : ByteArray) (R : Value -> World -> Prop) (w : World) (h : v77v s v1 R w) : Cr 108 #[s.v, .string v1] w R :=
 fB (an := .s .o (.s .o .o)) (args := [.sl s, .str v1]) h
def v84v (s : Sl) (v1 : ByteArray) (R : Value -> World -> Prop) (w : World) : Prop :=
  ∃ J0 : Nat -> Int -> World -> Prop, ∃ k0 : Nat, J0 k0 0 w /\
  ∀ k1 : Nat, ∀ i0 : Int, ∀ w0 : World, J0 k1 i0 w0 -> ((decide (i0 < (s.n : Int))) = true -> ∃ p0 : Addr, SlAt s i0 1 p0 /\
   ∃ s0 : ByteArray, Cells w0 p0 [.string s0] /\
   ((v1.toList == s0.toList) = true -> R (.int .i64 i0) w0) /\
   ((v1.toList == s0.toList) = false -> ∃ k2 : Nat, k2 < k1 /\
   J0 k2 (IntKind.wrap .i64 (i0 + 1)) w0)) /\
  ((decide (i0 < (s.n : Int))) = false -> R (.int .i64 (-1)) w0)
theorem v84w (s : Sl) (v1 : ByteArray) (R : Value -> World -> Prop) (w : World) (h : v84v s v1 R w) : Cr 120 #[s.v, .string v1] w R :=
 fB (an := .s .o (.s (.s .o (.j [0, 1, 7] [.s 8 (.int .i64)] (.s .o (.s (.s .o .o) (.s (.s .o (.s .o (.s (.s .o .o) .o))) .o))) .o)) (.s .o .o))) (args := [.sl s, .str v1]) h
def v90v (s : ByteArray) (R : Value -> World -> Prop) (w : World) : Prop :=
  Calls Tryz.prog 178 #[.string s] w fun e0 w0 => ∃ s0 : ByteArray, e0 = (.returned (.string s0)) /\
   R (.string s0) w0
theorem v90w (s : ByteArray) (R : Value -> World -> Prop) (w : World) (h : v90v s R w) : Cr 150 #[.string s] w R :=
 fB (an := .s .o (.s .o .o)) (args := [.str s]) h
def v66v (c : Addr) (t : Int) (t1 : ByteArray) (t2 t3 n_ : Int) (R : Value -> World -> Prop) (w : World) : Prop :=
 ∀ k0 : Nat, ∀ w0 : World, w.heap.size <= k0 -> k0 < w0.heap.size -> Only [] w w0 -> ∃ i0 : Int, Cells w0 ((c.add 0).add 1) [.int .i64 i0] /\
 ∀ w1 : World, Only [k0] w0 w1 -> ∃ J0 : Nat -> Prop, J0 ((c.add 3).block) /\
 ∃ l0 : Sl, Cells w1 (c.add 3) [l0.v] /\
 ∃ l1 : Sl, ∃ w2 : World, ((Instr.buildSlice 79 1 #[.mk 0 (.agg #[.int .i64 t, .string t1, .int .i64 t2, .int .i64 i0])]).run Tryz.prog w1) = (.ok l1.v w2) /\
 Same [k0] w1 w2 /\
 Keeps J0 w1 w2 /\
 ∃ l2 : Sl, ∃ w3 : World, ((Builtin.append_ #[79, 79] 79 #[l0.v, l1.v]).run Tryz.prog w2) = (.ok l2.v w3) /\
 Same [k0] w2 w3 /\
 Keeps J0 w2 w3 /\
 ∃ k1 k2 : Nat, ∃ z0 : List Value, ∃ k3 : Nat, (c.add 3) = ⟨k1, k2, none⟩ /\
 Blk w3 k1 k3 z0 /\
 (k2 + 1) <= z0.length /\
 k0 ≠ k1 /\
 ∀ w4 : World, Only [k1] w3 w4 -> Blk w4 k1 k3 (splice z0 k2 [l2.v]) -> ∃ i1 : Int, Cells w4 ((c.add 0).add 1) [.int .i64 i1] /\
 ∃ k4 k5 : Nat, ∃ z1 : List Value, ∃ k6 : Nat, ((c.add 0).add 1) = ⟨k4, k5, none⟩ /\
 Blk w4 k4 k6 z1 /\
 (k5 + 1) <= z1.length /\
 k0 ≠ k4 /\
 ∀ w5 : World, Only [k4] w4 w5 -> Blk w5 k4 k6 (splice z1 k5 [.int .i64 (IntKind.wrap .i64 (i1 + n_))]) -> R (.tuple #[]) w5
theorem v66w (c : Addr) (t : Int) (t1 : ByteArray) (t2 t3 n_ : Int) (R : Value -> World -> Prop) (w : World) (h : v66v c t t1 t2 t3 n_ R w) : Cr 74 #[.pointer (some c), .agg #[.int .i64 t, .string t1, .int .i64 t2, .int .i64 t3], .int .i64 n_] w R :=
 fB (an := .s .o (.s .o (.s .o .o))) (args := [.ad c, .agg (ofL [.int .i64 t, .str t1, .int .i64 t2, .int .i64 t3]), .int .i64 n_]) h
def v67v (c : Addr) (R : Value -> World -> Prop) (w : World) : Prop :=
  Calls Tryz.prog 114 #[.pointer (some (c.add 0))] w fun e0 w0 => ∃ s0 : ByteArray, e0 = (.returned (.string s0)) /\
   Calls Tryz.prog 151 #[.string s0] w0 fun e1 w1 => ∃ i0 i1 i2 : Int, e1 = (.returned (.tuple #[.int .i64 i0, .int .i64 i1, .int .i64 i2])) /\
    ((i2 != 0) = true -> R (.int .i64 i2) w1) /\
    ((i2 != 0) = false -> Calls Tryz.prog 107 #[.pointer (some (c.add 0))] w1 fun e2 w2 => ∃ s1 : ByteArray, e2 = (.returned (.string s1)) /\
     ((decide ((s1.size : Int) > i1)) = true -> R (.int .i64 4) w2) /\
     ((decide ((s1.size : Int) > i1)) = false -> Calls Tryz.prog 74 #[.pointer (some c), .agg #[.int .i64 3, .string (ByteArray.mk #[]), .int .i64 i0, .int .i64 0], .int .i64 i1] w2 fun e3 w3 => e3 = (.returned (.tuple #[])) /\
      R (.int .i64 0) w3))
theorem v67w (c : Addr) (R : Value -> World -> Prop) (w : World) (h : v67v c R w) : Cr 118 #[.pointer (some c)] w R :=
 fB (an := .s .o (.s .o (.s (.s .o (.s (.s .o .o) .o)) (.s (.s .o (.s (.s .o .o) .o)) (.s .o (.s .o .o)))))) (args := [.ad c]) h
def v0v (s : ByteArray) (R : Value -> World -> Prop) (w : World) : Prop :=
  ∃ J0 : Nat -> Int -> World -> Prop, ∃ k0 : Nat, J0 k0 0 w /\
  ∀ k1 : Nat, ∀ i0 : Int, ∀ w0 : World, J0 k1 i0 w0 -> ∃ J1 : Bool -> World -> Prop, (∀ b0 : Bool, ∀ w1 : World, J1 b0 w1 -> (b0 = true -> ∃ k2 : Nat, k2 < k1 /\
    J0 k2 (IntKind.wrap .i64 (i0 + 1)) w1) /\
   (b0 = false -> ((s.toList == ((ByteArray.mk #[]).toList)) = true -> R (.tuple #[.int .i64 0, .int .i64 0, .int .i64 3]) w1) /\
   ((s.toList == ((ByteArray.mk #[]).toList)) = false -> ∃ J2 : Bool -> World -> Prop, (∀ b1 : Bool, ∀ w2 : World, J2 b1 w2 -> (b1 = true -> R (.tuple #[.int .i64 0, .int .i64 0, .int .i64 4]) w2) /\
    (b1 = false -> ∃ k3 : Nat, (i0 = (k3 : Int) /\
     k3 <= s.size) /\
    Calls Tryz.prog 180 #[.string (s.extract 0 k3), .int .i64 10, .int .i64 64] w2 fun e0 w3 => ∃ i1 : Int, ∃ v0 : OV, e0 = (.returned (.tuple #[.int .i64 i1, v0.v])) /\
     Ifc v0.v /\
     ((!(niV v0.v)) = true -> R (.tuple #[.int .i64 0, .int .i64 0, .int .i64 20]) w3) /\
     ((!(niV v0.v)) = false -> R (.tuple #[.int .i64 i1, .int .i64 i0, .int .i64 0]) w3))) /\
   ((i0 == 0) = true -> J2 (i0 == 0) w1) /\
   ((i0 == 0) = false -> ∃ c0 : UInt8, ((decide (i0 > 1)) = true -> (0 : Int) <= 0 /\
    s[0]? = (some c0)) /\
   J2 ((decide (i0 > 1)) && ((UInt8.toNat c0 : Int) == 48)) w1)))) /\
  ((decide (i0 < (s.size : Int))) = true -> ∃ c1 : UInt8, (0 <= i0 /\
    (s[Int.toNat i0]?) = (some c1)) /\
   Calls Tryz.prog 179 #[.int .u8 (UInt8.toNat c1 : Int)] w0 fun e1 w4 => ∃ b2 : Bool, e1 = (.returned (.bool b2)) /\
    J1 b2 w4) /\
  ((decide (i0 < (s.size : Int))) = false -> J1 false w0)
theorem v0w (s : ByteArray) (R : Value -> World -> Prop) (w : World) (h : v0v s R w) : Cr 151 #[.string s] w R :=
 fB (an := .s .o (.s .o (.s (.j [0] [.s 5 (.int .i64)] (.s (.s (.j [0, 5] [.s 17 .bool] .o .o) (.s .o .o)) .o) .o) (.s (.s .o (.s (.s .o .o) (.j [0, 5] [.s 23 .bool] (.s .o (.s .o .o)) (.s (.s .o .o) .o)))) (.s .o (.s (.s .o (.s (.s .o .o) .o)) (.s .o .o))))))) (args := [.str s]) h
def v2v (c : Int) (R : Value -> World -> Prop) (w : World) : Prop :=
 R (.bool (decide ((IntKind.wrap .u8 (c - 48)) < 10))) w
theorem v2w (c : Int) (R : Value -> World -> Prop) (w : World) (h : v2v c R w) : Cr 179 #[.int .u8 c] w R :=
 fB (an := .s .o (.s .o .o)) (args := [.int .u8 c]) h
def v68v (c : Addr) (R : Value -> World -> Prop) (w : World) : Prop :=
  Calls Tryz.prog 114 #[.pointer (some (c.add 0))] w fun e0 w0 => ∃ s0 : ByteArray, e0 = (.returned (.string s0)) /\
   ∃ J0 : Int -> World -> Prop, (∀ i0 : Int, ∀ w1 : World, J0 i0 w1 -> ∃ J1 : Int -> World -> Prop, (∀ i1 : Int, ∀ w2 : World, J1 i1 w2 -> ((i1 == 0) = true -> R (.int .i64 4) w2) /\
     ((i1 == 0) = false -> ∃ k0 : Nat, (i1 = (k0 : Int) /\
      k0 <= s0.size) /\
     Calls Tryz.prog 150 #[.string (s0.extract 0 k0)] w2 fun e1 w3 => ∃ s1 : ByteArray, e1 = (.returned (.string s1)) /\
      Calls Tryz.prog 74 #[.pointer (some c), .agg #[.int .i64 4, .string s1, .int .i64 0, .int .i64 0], .int .i64 i1] w3 fun e2 w4 => e2 = (.returned (.tuple #[])) /\
       R (.int .i64 0) w4)) /\
    ∃ J2 : Bool -> World -> Prop, (∀ b0 : Bool, ∀ w5 : World, J2 b0 w5 -> (b0 = true -> J1 2 w5) /\
     (b0 = false -> J1 i0 w5)) /\
    ((decide ((s0.size : Int) > 1)) = true -> ∃ c0 : UInt8, ((0 : Int) <= 1 /\
      s0[1]? = (some c0)) /\
     (((UInt8.toNat c0 : Int) == 61) = true -> ∃ c1 : UInt8, ((0 : Int) <= 0 /\
       s0[0]? = (some c1)) /\
      ∀ w6 : World, Only [] w1 w6 -> ∃ l0 : Sl, ∃ w7 : World, ((Instr.buildSlice 64 4 #[.mk 0 (.int .u8 60), .mk 1 (.int .u8 62), .mk 2 (.int .u8 61), .mk 3 (.int .u8 33)]).run Tryz.prog w6) = (.ok l0.v w7) /\
      Calls Tryz.prog 113 #[.int .u8 (UInt8.toNat c1 : Int), l0.v] w7 fun e3 w8 => ∃ b1 : Bool, e3 = (.returned (.bool b1)) /\
       (b1 = true -> J2 true w8) /\
       (b1 = false -> ∃ c2 : UInt8, ((0 : Int) <= 1 /\
        s0[1]? = (some c2)) /\
       ∃ c3 : UInt8, ((0 : Int) <= 0 /\
        s0[0]? = (some c3)) /\
       (((UInt8.toNat c2 : Int) == (UInt8.toNat c3 : Int)) = true -> ∃ c4 : UInt8, ((0 : Int) <= 0 /\
         s0[0]? = (some c4)) /\
        ∃ l1 : Sl, ∃ w9 : World, ((Instr.buildSlice 64 2 #[.mk 0 (.int .u8 38), .mk 1 (.int .u8 124)]).run Tryz.prog w8) = (.ok l1.v w9) /\
        Calls Tryz.prog 113 #[.int .u8 (UInt8.toNat c4 : Int), l1.v] w9 fun e4 w10 => ∃ b2 : Bool, e4 = (.returned (.bool b2)) /\
         (b2 = true -> J2 true w10) /\
         (b2 = false -> 2 <= s0.size /\
         J2 (((s0.extract 0 2).toList) == ((ByteArray.mk #[45, 62]).toList)) w10)) /\
       (((UInt8.toNat c2 : Int) == (UInt8.toNat c3 : Int)) = false -> 2 <= s0.size /\
       J2 (((s0.extract 0 2).toList) == ((ByteArray.mk #[45, 62]).toList)) w8))) /\
     (((UInt8.toNat c0 : Int) == 61) = false -> ∃ c5 : UInt8, ((0 : Int) <= 1 /\
      s0[1]? = (some c5)) /\
     ∃ c6 : UInt8, ((0 : Int) <= 0 /\
      s0[0]? = (some c6)) /\
     (((UInt8.toNat c5 : Int) == (UInt8.toNat c6 : Int)) = true -> ∃ c7 : UInt8, ((0 : Int) <= 0 /\
       s0[0]? = (some c7)) /\
      ∀ w11 : World, Only [] w1 w11 -> ∃ l2 : Sl, ∃ w12 : World, ((Instr.buildSlice 64 2 #[.mk 0 (.int .u8 38), .mk 1 (.int .u8 124)]).run Tryz.prog w11) = (.ok l2.v w12) /\
      Calls Tryz.prog 113 #[.int .u8 (UInt8.toNat c7 : Int), l2.v] w12 fun e5 w13 => ∃ b3 : Bool, e5 = (.returned (.bool b3)) /\
       (b3 = true -> J2 true w13) /\
       (b3 = false -> 2 <= s0.size /\
       J2 (((s0.extract 0 2).toList) == ((ByteArray.mk #[45, 62]).toList)) w13)) /\
     (((UInt8.toNat c5 : Int) == (UInt8.toNat c6 : Int)) = false -> 2 <= s0.size /\
     ∀ w14 : World, Only [] w1 w14 -> J2 (((s0.extract 0 2).toList) == ((ByteArray.mk #[45, 62]).toList)) w14))) /\
    ((decide ((s0.size : Int) > 1)) = false -> ∀ w15 : World, Only [] w1 w15 -> J2 false w15)) /\
   ∃ c8 : UInt8, ((0 : Int) <= 0 /\
    s0[0]? = (some c8)) /\
   ∃ l3 : Sl, ∃ w16 : World, ((Instr.buildSlice 64 17 #[.mk 0 (.int .u8 123), .mk 1 (.int .u8 125), .mk 2 (.int .u8 40), .mk 3 (.int .u8 41), .mk 4 (.int .u8 91), .mk 5 (.int .u8 93), .mk 6 (.int .u8 59), .mk 7 (.int .u8 44), .mk 8 (.int .u8 61), .mk 9 (.int .u8 43), .mk 10 (.int .u8 45), .mk 11 (.int .u8 42), .mk 12 (.int .u8 47), .mk 13 (.int .u8 37), .mk 14 (.int .u8 60), .mk 15 (.int .u8 62), .mk 16 (.int .u8 33)]).run Tryz.prog w0) = (.ok l3.v w16) /\
   ∃ l4 : Sl, ∃ w17 : World, ((convert 64 64 l3.v).run Tryz.prog w16) = (.ok l4.v w17) /\
   Calls Tryz.prog 113 #[.int .u8 (UInt8.toNat c8 : Int), l4.v] w17 fun e6 w18 => ∃ b4 : Bool, e6 = (.returned (.bool b4)) /\
    (b4 = true -> J0 1 w18) /\
    (b4 = false -> J0 0 w18)
theorem v68w (c : Addr) (R : Value -> World -> Prop) (w : World) (h : v68v c R w) : Cr 119 #[.pointer (some c)] w R :=
 fB (an := .s .o (.s .o (.s .o (.j [0, 3] [.s 4 (.int .i64)] (.s .o (.s .o .o)) (.j [0, 3] [.s 4 (.int .i64)] (.s (.j [0, 3, 4] [.s 45 .bool] .o .o) (.s .o .o)) (.s (.s .o (.s (.s .o .o) .o)) (.s .o (.s .o .o)))))))) (args := [.ad c]) h
def v97v (c : Addr) (texts : Sl) (R : Value -> World -> Prop) (w : World) : Prop :=
  ∃ J0 : Nat -> Int -> World -> Prop, ∃ k0 : Nat, J0 k0 0 w /\
  ∀ k1 : Nat, ∀ i0 : Int, ∀ w0 : World, J0 k1 i0 w0 -> ((decide (i0 < (texts.n : Int))) = true -> ∃ J1 : World -> Prop, (∀ w1 : World, J1 w1 -> ∃ k2 : Nat, k2 < k1 /\
    J0 k2 (IntKind.wrap .i64 (i0 + 1)) w1) /\
   ∃ p0 : Addr, SlAt texts i0 1 p0 /\
   ∃ s0 : ByteArray, Cells w0 p0 [.string s0] /\
   ∃ l0 : Sl, ∃ w2 : World, ((Instr.buildSlice 57 1 #[.mk 0 (.string s0)]).run Tryz.prog w0) = (.ok l0.v w2) /\
   Calls Tryz.prog 40 #[.pointer (some c), l0.v] w2 fun e0 w3 => ∃ i1 : Int, e0 = (.returned (.int .i64 i1)) /\
    ((i1 == 0) = true -> Calls Tryz.prog 44 #[.pointer (some c)] w3 fun e1 w4 => e1 = (.returned (.tuple #[])) /\
      J1 w4) /\
    ((i1 == 0) = false -> J1 w3)) /\
  ((decide (i0 < (texts.n : Int))) = false -> R (.tuple #[]) w0)
theorem v97w (c : Addr) (texts : Sl) (R : Value -> World -> Prop) (w : World) (h : v97v c texts R w) : Cr 38 #[.pointer (some c), texts.v] w R :=
 fB (an := .s .o (.j [0, 6, 7] [.s 8 (.int .i64)] (.s .o (.s (.s .o .o) (.j [0, 6, 7, 8] [] (.s .o (.s .o (.s .o .o))) .o))) .o)) (args := [.ad c, .sl texts]) h
def v100v (c : Addr) (texts : Sl) (R : Value -> World -> Prop) (w : World) : Prop :=
  Calls Tryz.prog 78 #[.pointer (some c), texts.v] w fun e0 w0 => ∃ i0 : Int, e0 = (.returned (.int .i64 i0)) /\
   ∃ J0 : World -> Prop, (∀ w1 : World, J0 w1 -> R (.int .i64 i0) w1) /\
   ((decide (i0 > 0)) = true -> ∃ i1 : Int, Cells w0 (c.add 1) [.int .i64 i1] /\
    ∃ k0 k1 : Nat, ∃ z0 : List Value, ∃ k2 : Nat, (c.add 1) = ⟨k0, k1, none⟩ /\
    Blk w0 k0 k2 z0 /\
    (k1 + 1) <= z0.length /\
    ∀ w2 : World, Only [k0] w0 w2 -> Blk w2 k0 k2 (splice z0 k1 [.int .i64 (IntKind.wrap .i64 (i1 + 1))]) -> J0 w2) /\
   ((decide (i0 > 0)) = false -> J0 w0)
theorem v100w (c : Addr) (texts : Sl) (R : Value -> World -> Prop) (w : World) (h : v100v c texts R w) : Cr 40 #[.pointer (some c), texts.v] w R :=
 fB (an := .s .o (.s .o (.j [5] [] (.s .o (.s .o .o)) (.s .o .o)))) (args := [.ad c, .sl texts]) h
def v101v (c : Addr) (texts : Sl) (R : Value -> World -> Prop) (w : World) : Prop :=
  ∀ w0 : World, Only [] w w0 -> ∃ J0 : Nat -> Prop, J0 ((c.add 0).block) /\
  ∃ l0 : Sl, Cells w0 (c.add 0) [l0.v] /\
  J0 ((c.add 1).block) /\
  ∃ i0 : Int, Cells w0 (c.add 1) [.int .i64 i0] /\
  ∃ p0 : Addr, SlAt l0 i0 4 p0 /\
  J0 p0.block /\
  ∃ i1 : Int, ∃ s0 : ByteArray, ∃ i2 i3 : Int, Cells w0 p0 [.int .i64 i1, .string s0, .int .i64 i2, .int .i64 i3] /\
  ∀ k0 : Nat, ∀ w1 : World, w0.heap.size <= k0 -> k0 < w1.heap.size -> Only [] w0 w1 -> Calls Tryz.prog 43 #[.pointer (some c)] w1 fun e0 w2 => ∃ b0 : Bool, e0 = (.returned (.bool b0)) /\
   Same [k0] w1 w2 /\
   (((!b0) || ((i1 != 2) && (i1 != 4))) = true -> R (.int .i64 0) w2) /\
   (((!b0) || ((i1 != 2) && (i1 != 4))) = false -> Calls Tryz.prog 120 #[texts.v, .string s0] w2 fun e1 w3 => ∃ i4 : Int, e1 = (.returned (.int .i64 i4)) /\
    Same [k0] w2 w3 /\
    R (.int .i64 (IntKind.wrap .i64 (i4 + 1))) w3)
theorem v101w (c : Addr) (texts : Sl) (R : Value -> World -> Prop) (w : World) (h : v101v c texts R w) : Cr 78 #[.pointer (some c), texts.v] w R :=
 fB (an := .s .o (.s .o (.s (.s .o (.s (.s .o .o) .o)) (.s .o .o)))) (args := [.ad c, .sl texts]) h
def v95v (c : Addr) (R : Value -> World -> Prop) (w : World) : Prop :=
 ∃ i0 : Int, Cells w ((c.add 2).add 0) [.int .i64 i0] /\
 R (.bool (i0 == 0)) w
theorem v95w (c : Addr) (R : Value -> World -> Prop) (w : World) (h : v95v c R w) : Cr 43 #[.pointer (some c)] w R :=
 fB (an := .s .o (.s .o .o)) (args := [.ad c]) h
def v102v (c : Addr) (R : Value -> World -> Prop) (w : World) : Prop :=
 ∃ J0 : World -> Prop, (∀ w0 : World, J0 w0 -> Calls Tryz.prog 76 #[.pointer (some c), .int .i64 4] w0 fun e0 w1 => e0 = (.returned (.tuple #[])) /\
  R (.tuple #[]) w1) /\
 ∃ l0 : Sl, Cells w (c.add 0) [l0.v] /\
 ∃ i0 : Int, Cells w (c.add 1) [.int .i64 i0] /\
 ∃ p0 : Addr, SlAt l0 i0 4 p0 /\
 ∃ i1 : Int, Cells w (p0.add 0) [.int .i64 i1] /\
 ((i1 == 5) = true -> ∀ w2 : World, Only [] w w2 -> Calls Tryz.prog 76 #[.pointer (some c), .int .i64 3] w2 fun e1 w3 => e1 = (.returned (.tuple #[])) /\
  J0 w3) /\
 ((i1 == 5) = false -> ∀ w4 : World, Only [] w w4 -> J0 w4)
theorem v102w (c : Addr) (R : Value -> World -> Prop) (w : World) (h : v102v c R w) : Cr 44 #[.pointer (some c)] w R :=
 fB (an := .j [0] [] (.s .o (.s .o .o)) .o) (args := [.ad c]) h
def v99v (c : Addr) (err : Int) (R : Value -> World -> Prop) (w : World) : Prop :=
  Calls Tryz.prog 43 #[.pointer (some c)] w fun e0 w0 => ∃ b0 : Bool, e0 = (.returned (.bool b0)) /\
   (b0 = true -> ∀ w1 : World, Only [] w0 w1 -> ∃ l0 : Sl, Cells w1 (c.add 0) [l0.v] /\
    ∃ i0 : Int, Cells w1 (c.add 1) [.int .i64 i0] /\
    ∃ p0 : Addr, SlAt l0 i0 4 p0 /\
    ∃ i1 : Int, Cells w1 (p0.add 3) [.int .i64 i1] /\
    ∃ k0 k1 : Nat, ∃ z0 : List Value, ∃ k2 : Nat, (c.add 2) = ⟨k0, k1, none⟩ /\
    Blk w1 k0 k2 z0 /\
    (k1 + 2) <= z0.length /\
    ∀ w2 : World, Only [k0] w1 w2 -> Blk w2 k0 k2 (splice z0 k1 [.int .i64 err, .int .i64 i1]) -> R (.tuple #[]) w2) /\
   (b0 = false -> R (.tuple #[]) w0)
theorem v99w (c : Addr) (err : Int) (R : Value -> World -> Prop) (w : World) (h : v99v c err R w) : Cr 76 #[.pointer (some c), .int .i64 err] w R :=
 fB (an := .s .o (.s .o .o)) (args := [.ad c, .int .i64 err]) h
def v109v (r : Addr) (kind : Int) (R : Value -> World -> Prop) (w : World) : Prop :=
 ∀ k0 k1 : Nat, ∀ w0 : World, w.heap.size <= k0 -> k0 < w0.heap.size -> w.heap.size <= k1 -> k1 < w0.heap.size -> Only [] w w0 -> ∃ J0 : World -> Prop, (∀ w1 : World, J0 w1 -> Calls Tryz.prog 77 #[.pointer (some (r.add 0)), .int .i64 1] w1 fun e0 w2 => ∃ i0 : Int, ∃ s0 : ByteArray, ∃ i1 i2 : Int, e0 = (.returned (.agg #[.int .i64 i0, .string s0, .int .i64 i1, .int .i64 i2])) /\
  Same [k0, k1] w1 w2 /\
  ∀ k2 : Nat, ∀ w3 : World, w2.heap.size <= k2 -> k2 < w3.heap.size -> Only [] w2 w3 -> k0 ≠ k1 -> k0 ≠ k2 -> k1 ≠ k2 -> ∃ J1 : Nat -> Prop, J1 k2 /\
  Out J1 k1 /\
  Out J1 k1 /\
  ∀ w4 : World, Only [k0, k1] w3 w4 -> R (.agg #[.int .i64 kind, .string s0, .string (ByteArray.mk #[]), .string (ByteArray.mk #[]), Sl.nil.v, Sl.nil.v, Sl.nil.v, Sl.nil.v, .int .i64 i2]) w4) /\
 ∃ l0 : Sl, Cells w0 ((r.add 0).add 0) [l0.v] /\
 ∃ i3 : Int, Cells w0 ((r.add 0).add 1) [.int .i64 i3] /\
 ∃ p0 : Addr, SlAt l0 i3 4 p0 /\
 ∃ i4 : Int, Cells w0 (p0.add 0) [.int .i64 i4] /\
 ((i4 == 1) = true -> ∀ w5 : World, Only [] w0 w5 -> Calls Tryz.prog 75 #[.pointer (some r), .pointer (some ((r.add 4).add 1)), .int .i64 2] w5 fun e1 w6 => e1 = (.returned (.tuple #[])) /\
  Same [k0, k1] w5 w6 /\
  ∃ i5 : Int, Cells w6 ((r.add 4).add 2) [.int .i64 i5] /\
  ((i5 == 0) = true -> Calls Tryz.prog 76 #[.pointer (some (r.add 0)), .int .i64 21] w6 fun e2 w7 => e2 = (.returned (.tuple #[])) /\
   Same [k0, k1] w6 w7 /\
   J0 w7) /\
  ((i5 == 0) = false -> J0 w6)) /\
 ((i4 == 1) = false -> ∀ w8 : World, Only [] w0 w8 -> J0 w8)
theorem v109w (r : Addr) (kind : Int) (R : Value -> World -> Prop) (w : World) (h : v109v r kind R w) : Cr 39 #[.pointer (some r), .int .i64 kind] w R :=
 fB (an := .s .o (.s .o (.j [0, 4, 5] [] (.s .o (.s (.s .o (.s .o (.s .o .o))) .o)) (.s .o (.s .o (.s .o .o)))))) (args := [.ad r, .int .i64 kind]) h
def v112v (r : Addr) (left_ : Option Addr) (err : Int) (R : Value -> World -> Prop) (w : World) : Prop :=
  ∃ J0 : World -> Prop, (∀ w0 : World, J0 w0 -> ∃ p0 : Addr, left_ = (some p0) /\
   ∃ i0 : Int, Cells w0 p0 [.int .i64 i0] /\
   ∃ p1 : Addr, left_ = (some p1) /\
   ∃ k0 k1 : Nat, ∃ z0 : List Value, ∃ k2 : Nat, p1 = ⟨k0, k1, none⟩ /\
   Blk w0 k0 k2 z0 /\
   (k1 + 1) <= z0.length /\
   ∀ w1 : World, Only [k0] w0 w1 -> Blk w1 k0 k2 (splice z0 k1 [.int .i64 (IntKind.wrap .i64 (i0 - 1))]) -> R (.tuple #[]) w1) /\
  ∃ p2 : Addr, left_ = (some p2) /\
  ∃ i1 : Int, Cells w p2 [.int .i64 i1] /\
  ((i1 == 0) = true -> Calls Tryz.prog 76 #[.pointer (some (r.add 0)), .int .i64 err] w fun e0 w2 => e0 = (.returned (.tuple #[])) /\
    J0 w2) /\
  ((i1 == 0) = false -> J0 w)
theorem v112w (r : Addr) (left_ : Option Addr) (err : Int) (R : Value -> World -> Prop) (w : World) (h : v112v r left_ err R w) : Cr 75 #[.pointer (some r), .pointer left_, .int .i64 err] w R :=
 fB (an := .j [1] [] (.s .o (.s .o .o)) .o) (args := [.ad r, .ptr left_, .int .i64 err]) h
def v96v (c : Addr) (kind : Int) (R : Value -> World -> Prop) (w : World) : Prop :=
  ∀ k0 : Nat, ∀ w0 : World, w.heap.size <= k0 -> k0 < w0.heap.size -> Only [] w w0 -> ∃ J0 : Nat -> Prop, J0 ((c.add 0).block) /\
  ∃ l0 : Sl, Cells w0 (c.add 0) [l0.v] /\
  J0 ((c.add 1).block) /\
  ∃ i0 : Int, Cells w0 (c.add 1) [.int .i64 i0] /\
  ∃ p0 : Addr, SlAt l0 i0 4 p0 /\
  J0 p0.block /\
  ∃ i1 : Int, ∃ s0 : ByteArray, ∃ i2 i3 : Int, Cells w0 p0 [.int .i64 i1, .string s0, .int .i64 i2, .int .i64 i3] /\
  ∀ k1 : Nat, ∀ w1 : World, w0.heap.size <= k1 -> k1 < w1.heap.size -> Only [] w0 w1 -> Calls Tryz.prog 43 #[.pointer (some c)] w1 fun e0 w2 => ∃ b0 : Bool, e0 = (.returned (.bool b0)) /\
   Same [k0, k1] w1 w2 /\
   (((!b0) || (i1 != kind)) = true -> Calls Tryz.prog 44 #[.pointer (some c)] w2 fun e1 w3 => e1 = (.returned (.tuple #[])) /\
     Same [k0, k1] w2 w3 /\
     ∀ w4 : World, Only [k0] w3 w4 -> R (.agg #[.int .i64 0, .string (ByteArray.mk #[]), .int .i64 0, .int .i64 0]) w4) /\
   (((!b0) || (i1 != kind)) = false -> ∃ i4 : Int, Cells w2 (c.add 1) [.int .i64 i4] /\
   ∃ k2 k3 : Nat, ∃ z0 : List Value, ∃ k4 : Nat, (c.add 1) = ⟨k2, k3, none⟩ /\
   Blk w2 k2 k4 z0 /\
   (k3 + 1) <= z0.length /\
   k0 ≠ k2 /\
   k1 ≠ k2 /\
   ∀ w5 : World, Only [k2] w2 w5 -> Blk w5 k2 k4 (splice z0 k3 [.int .i64 (IntKind.wrap .i64 (i4 + 1))]) -> ∀ w6 : World, Only [k0] w5 w6 -> R (.agg #[.int .i64 i1, .string s0, .int .i64 i2, .int .i64 i3]) w6)
theorem v96w (c : Addr) (kind : Int) (R : Value -> World -> Prop) (w : World) (h : v96v c kind R w) : Cr 77 #[.pointer (some c), .int .i64 kind] w R :=
 fB (an := .s .o (.s .o (.s (.s .o (.s (.s .o (.s .o .o)) .o)) (.s .o (.s .o .o))))) (args := [.ad c, .int .i64 kind]) h
def v113v (r : Addr) (R : Value -> World -> Prop) (w : World) : Prop :=
  ∀ k0 : Nat, ∀ w0 : World, w.heap.size <= k0 -> k0 < w0.heap.size -> Only [] w w0 -> ∃ J0 : World -> Prop, (∀ w1 : World, J0 w1 -> Calls Tryz.prog 77 #[.pointer (some (r.add 0)), .int .i64 1] w1 fun e0 w2 => ∃ i0 : Int, ∃ s0 : ByteArray, ∃ i1 i2 : Int, e0 = (.returned (.agg #[.int .i64 i0, .string s0, .int .i64 i1, .int .i64 i2])) /\
    Same [k0] w1 w2 /\
    ∀ k1 : Nat, ∀ w3 : World, w2.heap.size <= k1 -> k1 < w3.heap.size -> Only [] w2 w3 -> ∃ l0 : Sl, ∃ w4 : World, ((Instr.buildSlice 57 1 #[.mk 0 (.string (ByteArray.mk #[61]))]).run Tryz.prog w3) = (.ok l0.v w4) /\
    Same [k0, k1] w3 w4 /\
    Calls Tryz.prog 38 #[.pointer (some (r.add 0)), l0.v] w4 fun e1 w5 => e1 = (.returned (.tuple #[])) /\
     Same [k0, k1] w4 w5 /\
     ∃ l1 : Sl, ∃ w6 : World, ((Instr.buildSlice 57 1 #[.mk 0 (.string (ByteArray.mk #[45]))]).run Tryz.prog w5) = (.ok l1.v w6) /\
     Same [k0, k1] w5 w6 /\
     Calls Tryz.prog 40 #[.pointer (some (r.add 0)), l1.v] w6 fun e2 w7 => ∃ i3 : Int, e2 = (.returned (.int .i64 i3)) /\
      Same [k0, k1] w6 w7 /\
      Calls Tryz.prog 77 #[.pointer (some (r.add 0)), .int .i64 3] w7 fun e3 w8 => ∃ i4 : Int, ∃ s1 : ByteArray, ∃ i5 i6 : Int, e3 = (.returned (.agg #[.int .i64 i4, .string s1, .int .i64 i5, .int .i64 i6])) /\
       Same [k0, k1] w7 w8 /\
       ∃ l2 : Sl, ∃ w9 : World, ((Instr.buildSlice 57 1 #[.mk 0 (.string (ByteArray.mk #[59]))]).run Tryz.prog w8) = (.ok l2.v w9) /\
       Same [k0, k1] w8 w9 /\
       Calls Tryz.prog 38 #[.pointer (some (r.add 0)), l2.v] w9 fun e4 w10 => e4 = (.returned (.tuple #[])) /\
        Same [k0, k1] w9 w10 /\
        ∀ w11 : World, Only [k0] w10 w11 -> R (.agg #[.string s0, .int .i64 (IntKind.wrap .i64 ((IntKind.wrap .i64 (1 - (IntKind.wrap .i64 (2 * i3)))) * i5)), .int .i64 i2]) w11) /\
  ∃ l3 : Sl, Cells w0 ((r.add 0).add 0) [l3.v] /\
  ∃ i7 : Int, Cells w0 ((r.add 0).add 1) [.int .i64 i7] /\
  ∃ p0 : Addr, SlAt l3 i7 4 p0 /\
  ∃ i8 : Int, Cells w0 (p0.add 0) [.int .i64 i8] /\
  ((i8 == 1) = true -> ∀ w12 : World, Only [] w0 w12 -> Calls Tryz.prog 75 #[.pointer (some r), .pointer (some ((r.add 4).add 0)), .int .i64 2] w12 fun e5 w13 => e5 = (.returned (.tuple #[])) /\
    Same [k0] w12 w13 /\
    J0 w13) /\
  ((i8 == 1) = false -> ∀ w14 : World, Only [] w0 w14 -> J0 w14)
theorem v113w (r : Addr) (R : Value -> World -> Prop) (w : World) (h : v113v r R w) : Cr 41 #[.pointer (some r)] w R :=
 fB (an := .s .o (.j [0, 2] [] (.s .o (.s .o .o)) (.s .o (.s .o (.s .o (.s .o (.s .o (.s .o .o)))))))) (args := [.ad r]) h
def v106v (r : Addr) (n_ : Option Addr) (R : Value -> World -> Prop) (w : World) : Prop :=
  ∀ k0 : Nat, ∀ w0 : World, w.heap.size <= k0 -> k0 < w0.heap.size -> Only [] w w0 -> ∃ i0 : Int, Cells w0 ((r.add 4).add 2) [.int .i64 i0] /\
  ∃ k1 k2 : Nat, ∃ z0 : List Value, ∃ k3 : Nat, ((r.add 4).add 2) = ⟨k1, k2, none⟩ /\
  Blk w0 k1 k3 z0 /\
  (k2 + 1) <= z0.length /\
  k0 ≠ k1 /\
  ∀ w1 : World, Only [k1] w0 w1 -> Blk w1 k1 k3 (splice z0 k2 [.int .i64 (IntKind.wrap .i64 (i0 - 1))]) -> ∃ J0 : Nat -> Bool -> Bool -> Bool -> Bool -> World -> Prop, ∃ k4 : Nat, J0 k4 false false false false w1 /\
  ∀ k5 : Nat, ∀ b0 b1 b2 b3 : Bool, ∀ w2 : World, J0 k5 b0 b1 b2 b3 w2 -> ∃ J1 : Bool -> Bool -> Bool -> Bool -> Bool -> World -> Prop, (∀ b4 b5 b6 b7 b8 : Bool, ∀ w3 : World, J1 b4 b5 b6 b7 b8 w3 -> (b4 = true -> ∃ k6 : Nat, k6 < k5 /\
    J0 k6 b5 b6 b7 b8 w3) /\
   (b4 = false -> ∃ l0 : Sl, ∃ w4 : World, ((Instr.buildSlice 57 4 #[.mk 0 (.string (ByteArray.mk #[115, 116, 97, 116, 101])), .mk 1 (.string (ByteArray.mk #[112, 97, 114, 97, 108, 108, 101, 108])), .mk 2 (.string (ByteArray.mk #[104, 105, 115, 116, 111, 114, 121])), .mk 3 (.string (ByteArray.mk #[100, 101, 101, 112]))]).run Tryz.prog w3) = (.ok l0.v w4) /\
   Same [k0] w3 w4 /\
   Calls Tryz.prog 78 #[.pointer (some (r.add 0)), l0.v] w4 fun e0 w5 => ∃ i1 : Int, e0 = (.returned (.int .i64 i1)) /\
    Same [k0] w4 w5 /\
    ∃ J2 : Nat -> Int -> Bool -> Bool -> Bool -> Bool -> World -> Prop, ∃ k7 : Nat, J2 k7 i1 b5 b6 b7 b8 w5 /\
    ∀ k8 : Nat, ∀ i2 : Int, ∀ b9 b10 b11 b12 : Bool, ∀ w6 : World, J2 k8 i2 b9 b10 b11 b12 w6 -> ((decide (i2 > 0)) = true -> ∃ i3 : Int, Cells w6 ((r.add 0).add 1) [.int .i64 i3] /\
     ∃ k9 k10 : Nat, ∃ z1 : List Value, ∃ k11 : Nat, ((r.add 0).add 1) = ⟨k9, k10, none⟩ /\
     Blk w6 k9 k11 z1 /\
     (k10 + 1) <= z1.length /\
     k0 ≠ k9 /\
     ∀ w7 : World, Only [k9] w6 w7 -> Blk w7 k9 k11 (splice z1 k10 [.int .i64 (IntKind.wrap .i64 (i3 + 1))]) -> ∃ J3 : Bool -> Bool -> Bool -> Bool -> World -> Prop, (∀ b13 b14 b15 b16 : Bool, ∀ w8 : World, J3 b13 b14 b15 b16 w8 -> ∃ l1 : Sl, ∃ w9 : World, ((Instr.buildSlice 57 4 #[.mk 0 (.string (ByteArray.mk #[115, 116, 97, 116, 101])), .mk 1 (.string (ByteArray.mk #[112, 97, 114, 97, 108, 108, 101, 108])), .mk 2 (.string (ByteArray.mk #[104, 105, 115, 116, 111, 114, 121])), .mk 3 (.string (ByteArray.mk #[100, 101, 101, 112]))]).run Tryz.prog w8) = (.ok l1.v w9) /\
      Same [k0] w8 w9 /\
      Calls Tryz.prog 78 #[.pointer (some (r.add 0)), l1.v] w9 fun e1 w10 => ∃ i4 : Int, e1 = (.returned (.int .i64 i4)) /\
       Same [k0] w9 w10 /\
       ∃ k12 : Nat, k12 < k8 /\
       J2 k12 i4 b13 b14 b15 b16 w10) /\
     ∀ w11 : World, Only [] w7 w11 -> ∃ J4 : Nat -> Prop, ∃ p0 : Addr, n_ = (some p0) /\
     J4 ((p0.add 7).block) /\
     ∃ l2 : Sl, Cells w11 (p0.add 7) [l2.v] /\
     (Calls Tryz.prog 80 #[.pointer (some r), .int .i64 i2] w11 fun e2 w12 => ∃ i5 : Int, ∃ s0 s1 s2 : ByteArray, ∃ l3 l4 l5 l6 : Sl, ∃ i6 : Int, e2 = (.returned (.agg #[.int .i64 i5, .string s0, .string s1, .string s2, l3.v, l4.v, l5.v, l6.v, .int .i64 i6])) /\
       Same [k0] w11 w12 /\
       Keeps J4 w11 w12 /\
       ∃ l7 : Sl, ∃ w13 : World, ((Instr.buildSlice 25 1 #[.mk 0 (.agg #[.int .i64 0, .string (ByteArray.mk #[]), .string (ByteArray.mk #[]), .string (ByteArray.mk #[]), Sl.nil.v, Sl.nil.v, Sl.nil.v, Sl.nil.v, .int .i64 0])]).run Tryz.prog w12) = (.ok l7.v w13) /\
       Same [k0] w12 w13 /\
       Keeps J4 w12 w13 /\
       ∃ l8 : Sl, ∃ w14 : World, ((Builtin.append_ #[25, 25] 25 #[l2.v, l7.v]).run Tryz.prog w13) = (.ok l8.v w14) /\
       Same [k0] w13 w14 /\
       Keeps J4 w13 w14 /\
       ∃ p1 : Addr, SlAt l8 (l2.n : Int) 9 p1 /\
       ∃ p2 : Addr, n_ = (some p2) /\
       (∃ k13 k14 : Nat, ∃ z2 : List Value, ∃ k15 : Nat, p1 = ⟨k13, k14, none⟩ /\
        Blk w14 k13 k15 z2 /\
        (k14 + 9) <= z2.length /\
        k0 ≠ k13 /\
        ∀ w15 : World, Only [k13] w14 w15 -> Blk w15 k13 k15 (splice z2 k14 [.int .i64 i5, .string s0, .string s1, .string s2, l3.v, l4.v, l5.v, l6.v, .int .i64 i6]) -> ∃ k16 k17 : Nat, ∃ z3 : List Value, ∃ k18 : Nat, (p2.add 7) = ⟨k16, k17, none⟩ /\
        Blk w15 k16 k18 z3 /\
        (k17 + 1) <= z3.length /\
        k0 ≠ k16 /\
        ∀ w16 : World, Only [k16] w15 w16 -> Blk w16 k16 k18 (splice z3 k17 [l8.v]) -> J3 b9 b10 b11 b12 w16) /\
       ∃ k19 k20 : Nat, ∃ z4 : List Value, ∃ k21 : Nat, (p2.add 7) = ⟨k19, k20, none⟩ /\
       Blk w14 k19 k21 z4 /\
       (k20 + 1) <= z4.length /\
       k0 ≠ k19 /\
       ∀ w17 : World, Only [k19] w14 w17 -> Blk w17 k19 k21 (splice z4 k20 [l8.v]) -> ∃ k22 k23 : Nat, ∃ z5 : List Value, ∃ k24 : Nat, p1 = ⟨k22, k23, none⟩ /\
       Blk w17 k22 k24 z5 /\
       (k23 + 9) <= z5.length /\
       k0 ≠ k22 /\
       ∀ w18 : World, Only [k22] w17 w18 -> Blk w18 k22 k24 (splice z5 k23 [.int .i64 i5, .string s0, .string s1, .string s2, l3.v, l4.v, l5.v, l6.v, .int .i64 i6]) -> J3 b9 b10 b11 b12 w18) /\
     ∃ l9 : Sl, ∃ w19 : World, ((Instr.buildSlice 25 1 #[.mk 0 (.agg #[.int .i64 0, .string (ByteArray.mk #[]), .string (ByteArray.mk #[]), .string (ByteArray.mk #[]), Sl.nil.v, Sl.nil.v, Sl.nil.v, Sl.nil.v, .int .i64 0])]).run Tryz.prog w11) = (.ok l9.v w19) /\
     Same [k0] w11 w19 /\
     Keeps J4 w11 w19 /\
     Calls Tryz.prog 80 #[.pointer (some r), .int .i64 i2] w19 fun e3 w20 => ∃ i7 : Int, ∃ s3 s4 s5 : ByteArray, ∃ l10 l11 l12 l13 : Sl, ∃ i8 : Int, e3 = (.returned (.agg #[.int .i64 i7, .string s3, .string s4, .string s5, l10.v, l11.v, l12.v, l13.v, .int .i64 i8])) /\
      Same [k0] w19 w20 /\
      Keeps J4 w19 w20 /\
      ∃ l14 : Sl, ∃ w21 : World, ((Builtin.append_ #[25, 25] 25 #[l2.v, l9.v]).run Tryz.prog w20) = (.ok l14.v w21) /\
      Same [k0] w20 w21 /\
      Keeps J4 w20 w21 /\
      ∃ p3 : Addr, SlAt l14 (l2.n : Int) 9 p3 /\
      ∃ p4 : Addr, n_ = (some p4) /\
      (∃ k25 k26 : Nat, ∃ z6 : List Value, ∃ k27 : Nat, p3 = ⟨k25, k26, none⟩ /\
       Blk w21 k25 k27 z6 /\
       (k26 + 9) <= z6.length /\
       k0 ≠ k25 /\
       ∀ w22 : World, Only [k25] w21 w22 -> Blk w22 k25 k27 (splice z6 k26 [.int .i64 i7, .string s3, .string s4, .string s5, l10.v, l11.v, l12.v, l13.v, .int .i64 i8]) -> ∃ k28 k29 : Nat, ∃ z7 : List Value, ∃ k30 : Nat, (p4.add 7) = ⟨k28, k29, none⟩ /\
       Blk w22 k28 k30 z7 /\
       (k29 + 1) <= z7.length /\
       k0 ≠ k28 /\
       ∀ w23 : World, Only [k28] w22 w23 -> Blk w23 k28 k30 (splice z7 k29 [l14.v]) -> J3 b9 b10 b11 b12 w23) /\
      ∃ k31 k32 : Nat, ∃ z8 : List Value, ∃ k33 : Nat, (p4.add 7) = ⟨k31, k32, none⟩ /\
      Blk w21 k31 k33 z8 /\
      (k32 + 1) <= z8.length /\
      k0 ≠ k31 /\
      ∀ w24 : World, Only [k31] w21 w24 -> Blk w24 k31 k33 (splice z8 k32 [l14.v]) -> ∃ k34 k35 : Nat, ∃ z9 : List Value, ∃ k36 : Nat, p3 = ⟨k34, k35, none⟩ /\
      Blk w24 k34 k36 z9 /\
      (k35 + 9) <= z9.length /\
      k0 ≠ k34 /\
      ∀ w25 : World, Only [k34] w24 w25 -> Blk w25 k34 k36 (splice z9 k35 [.int .i64 i7, .string s3, .string s4, .string s5, l10.v, l11.v, l12.v, l13.v, .int .i64 i8]) -> J3 b9 b10 b11 b12 w25) /\
    ((decide (i2 > 0)) = false -> ∃ i9 : Int, Cells w6 ((r.add 4).add 2) [.int .i64 i9] /\
    ∃ k37 k38 : Nat, ∃ z10 : List Value, ∃ k39 : Nat, ((r.add 4).add 2) = ⟨k37, k38, none⟩ /\
    Blk w6 k37 k39 z10 /\
    (k38 + 1) <= z10.length /\
    k0 ≠ k37 /\
    ∀ w26 : World, Only [k37] w6 w26 -> Blk w26 k37 k39 (splice z10 k38 [.int .i64 (IntKind.wrap .i64 (i9 + 1))]) -> ∃ l15 : Sl, ∃ w27 : World, ((Instr.buildSlice 57 1 #[.mk 0 (.string (ByteArray.mk #[125]))]).run Tryz.prog w26) = (.ok l15.v w27) /\
    Same [k0] w26 w27 /\
    Calls Tryz.prog 38 #[.pointer (some (r.add 0)), l15.v] w27 fun e4 w28 => e4 = (.returned (.tuple #[])) /\
     Same [k0] w27 w28 /\
     R (.tuple #[]) w28))) /\
  Calls Tryz.prog 43 #[.pointer (some (r.add 0))] w2 fun e5 w29 => ∃ b17 : Bool, e5 = (.returned (.bool b17)) /\
   Same [k0] w2 w29 /\
   (b17 = true -> Blk w29 k0 137 [.bool b0, .bool b1, .bool b2, .bool b3] -> Calls Tryz.prog 79 #[.pointer (some r), .pointer n_, .pointer (some ⟨k0, 0, none⟩)] w29 fun e6 w30 => ∃ b18 : Bool, e6 = (.returned (.bool b18)) /\
     ∃ b19 b20 b21 b22 : Bool, Blk w30 k0 137 [.bool b19, .bool b20, .bool b21, .bool b22] /\
     J1 b18 b19 b20 b21 b22 w30) /\
   (b17 = false -> J1 false b0 b1 b2 b3 w29)
theorem v106w (r : Addr) (n_ : Option Addr) (R : Value -> World -> Prop) (w : World) (h : v106v r n_ R w) : Cr 42 #[.pointer (some r), .pointer n_] w R :=
 fB (an := .s .o (.s .o (.s (.j [0, 1, 4] [.b 4 [.bool, .bool, .bool, .bool]] (.s (.s (.j [0, 1, 4] [.s 23 .bool, .b 4 [.bool, .bool, .bool, .bool]] .o .o) (.s .o .o)) .o) .o) (.s (.s .o (.j [0, 1, 4] [.s 5 (.int .i64), .b 4 [.bool, .bool, .bool, .bool]] (.s (.s .o (.s .o .o)) (.s (.s .o (.j [0, 1, 4] [.b 4 [.bool, .bool, .bool, .bool]] .o .o)) .o)) .o)) (.s .o .o))))) (args := [.ad r, .ptr n_]) h
def v107v (r : Addr) (n_ : Option Addr) (had : Option Addr) (R : Value -> World -> Prop) (w : World) : Prop :=
  ∃ l0 : Sl, ∃ w0 : World, ((Instr.buildSlice 57 3 #[.mk 0 (.string (ByteArray.mk #[111, 110])), .mk 1 (.string (ByteArray.mk #[97, 108, 119, 97, 121, 115])), .mk 2 (.string (ByteArray.mk #[97, 102, 116, 101, 114]))]).run Tryz.prog w) = (.ok l0.v w0) /\
  Calls Tryz.prog 78 #[.pointer (some (r.add 0)), l0.v] w0 fun e0 w1 => ∃ i0 : Int, e0 = (.returned (.int .i64 i0)) /\
   ((decide (i0 > 0)) = true -> ∀ w2 : World, Only [] w1 w2 -> ∃ J0 : Nat -> Prop, ∃ p0 : Addr, n_ = (some p0) /\
    J0 ((p0.add 6).block) /\
    ∃ l1 : Sl, Cells w2 (p0.add 6) [l1.v] /\
    Calls Tryz.prog 121 #[.pointer (some r), .int .i64 i0] w2 fun e1 w3 => ∃ i1 : Int, ∃ s0 : ByteArray, ∃ i2 : Int, ∃ b0 : Bool, ∃ i3 i4 : Int, ∃ s1 : ByteArray, ∃ i5 : Int, ∃ l2 : Sl, ∃ i6 : Int, ∃ l3 l4 : Sl, ∃ i7 : Int, e1 = (.returned (.agg #[.int .i64 i1, .string s0, .int .i64 i2, .bool b0, .int .i64 i3, .int .i64 i4, .string s1, .int .i64 i5, l2.v, .int .i64 i6, l3.v, l4.v, .int .i64 i7])) /\
     Keeps J0 w2 w3 /\
     ∃ l5 : Sl, ∃ w4 : World, ((Instr.buildSlice 24 1 #[.mk 0 (.agg #[.int .i64 i1, .string s0, .int .i64 i2, .bool b0, .int .i64 i3, .int .i64 i4, .string s1, .int .i64 i5, l2.v, .int .i64 i6, l3.v, l4.v, .int .i64 i7])]).run Tryz.prog w3) = (.ok l5.v w4) /\
     Keeps J0 w3 w4 /\
     ∃ l6 : Sl, ∃ w5 : World, ((Builtin.append_ #[24, 24] 24 #[l1.v, l5.v]).run Tryz.prog w4) = (.ok l6.v w5) /\
     Keeps J0 w4 w5 /\
     ∃ p1 : Addr, n_ = (some p1) /\
     ∃ k0 k1 : Nat, ∃ z0 : List Value, ∃ k2 : Nat, (p1.add 6) = ⟨k0, k1, none⟩ /\
     Blk w5 k0 k2 z0 /\
     (k1 + 1) <= z0.length /\
     ∀ w6 : World, Only [k0] w5 w6 -> Blk w6 k0 k2 (splice z0 k1 [l6.v]) -> R (.bool true) w6) /\
   ((decide (i0 > 0)) = false -> ∃ l7 : Sl, ∃ w7 : World, ((Instr.buildSlice 57 3 #[.mk 0 (.string (ByteArray.mk #[105, 110, 105, 116, 105, 97, 108])), .mk 1 (.string (ByteArray.mk #[101, 110, 116, 101, 114])), .mk 2 (.string (ByteArray.mk #[108, 101, 97, 118, 101]))]).run Tryz.prog w1) = (.ok l7.v w7) /\
   Calls Tryz.prog 78 #[.pointer (some (r.add 0)), l7.v] w7 fun e2 w8 => ∃ i8 : Int, e2 = (.returned (.int .i64 i8)) /\
    ((i8 == 0) = true -> R (.bool false) w8) /\
    ((i8 == 0) = false -> ∃ p2 : Addr, had = (some p2) /\
    ∃ p3 : Addr, PtrAt p2 i8 4 1 p3 /\
    ∃ b1 : Bool, Cells w8 p3 [.bool b1] /\
    (b1 = true -> Calls Tryz.prog 44 #[.pointer (some (r.add 0))] w8 fun e3 w9 => e3 = (.returned (.tuple #[])) /\
      R (.bool false) w9) /\
    (b1 = false -> ∃ p4 : Addr, had = (some p4) /\
    ∃ p5 : Addr, PtrAt p4 i8 4 1 p5 /\
    ∃ k3 k4 : Nat, ∃ z1 : List Value, ∃ k5 : Nat, p5 = ⟨k3, k4, none⟩ /\
    Blk w8 k3 k5 z1 /\
    (k4 + 1) <= z1.length /\
    ∀ w10 : World, Only [k3] w8 w10 -> Blk w10 k3 k5 (splice z1 k4 [.bool true]) -> ∃ i9 : Int, Cells w10 ((r.add 0).add 1) [.int .i64 i9] /\
    ∃ k6 k7 : Nat, ∃ z2 : List Value, ∃ k8 : Nat, ((r.add 0).add 1) = ⟨k6, k7, none⟩ /\
    Blk w10 k6 k8 z2 /\
    (k7 + 1) <= z2.length /\
    ∀ w11 : World, Only [k6] w10 w11 -> Blk w11 k6 k8 (splice z2 k7 [.int .i64 (IntKind.wrap .i64 (i9 + 1))]) -> ∃ J1 : World -> Prop, (∀ w12 : World, J1 w12 -> R (.bool true) w12) /\
    ((i8 == 1) = true -> Calls Tryz.prog 122 #[.pointer (some (r.add 0))] w11 fun e4 w13 => ∃ s2 : ByteArray, e4 = (.returned (.string s2)) /\
      ∃ p6 : Addr, n_ = (some p6) /\
      ∃ k9 k10 : Nat, ∃ z3 : List Value, ∃ k11 : Nat, (p6.add 2) = ⟨k9, k10, none⟩ /\
      Blk w13 k9 k11 z3 /\
      (k10 + 1) <= z3.length /\
      ∀ w14 : World, Only [k9] w13 w14 -> Blk w14 k9 k11 (splice z3 k10 [.string s2]) -> ∃ l8 : Sl, ∃ w15 : World, ((Instr.buildSlice 57 1 #[.mk 0 (.string (ByteArray.mk #[59]))]).run Tryz.prog w14) = (.ok l8.v w15) /\
      Calls Tryz.prog 38 #[.pointer (some (r.add 0)), l8.v] w15 fun e5 w16 => e5 = (.returned (.tuple #[])) /\
       J1 w16) /\
    ((i8 == 1) = false -> ((i8 == 2) = true -> Calls Tryz.prog 123 #[.pointer (some r)] w11 fun e6 w17 => ∃ l9 : Sl, e6 = (.returned l9.v) /\
      ∃ p7 : Addr, n_ = (some p7) /\
      ∃ k12 k13 : Nat, ∃ z4 : List Value, ∃ k14 : Nat, (p7.add 4) = ⟨k12, k13, none⟩ /\
      Blk w17 k12 k14 z4 /\
      (k13 + 1) <= z4.length /\
      ∀ w18 : World, Only [k12] w17 w18 -> Blk w18 k12 k14 (splice z4 k13 [l9.v]) -> J1 w18) /\
    ((i8 == 2) = false -> Calls Tryz.prog 123 #[.pointer (some r)] w11 fun e7 w19 => ∃ l10 : Sl, e7 = (.returned l10.v) /\
     ∃ p8 : Addr, n_ = (some p8) /\
     ∃ k15 k16 : Nat, ∃ z5 : List Value, ∃ k17 : Nat, (p8.add 5) = ⟨k15, k16, none⟩ /\
     Blk w19 k15 k17 z5 /\
     (k16 + 1) <= z5.length /\
     ∀ w20 : World, Only [k15] w19 w20 -> Blk w20 k15 k17 (splice z5 k16 [l10.v]) -> J1 w20)))))
theorem v107w (r : Addr) (n_ : Option Addr) (had : Option Addr) (R : Value -> World -> Prop) (w : World) (h : v107v r n_ had R w) : Cr 79 #[.pointer (some r), .pointer n_, .pointer had] w R :=
 fB (an := .s .o (.s (.s .o (.s .o (.s (.s .o (.s .o .o)) .o))) (.s .o (.s (.s .o (.s (.s .o .o) .o)) (.s (.s .o (.s (.s .o (.s .o .o)) .o)) (.s .o (.s .o (.j [] [] (.s .o (.s .o (.s (.s .o .o) (.s .o (.s .o .o))))) (.s .o .o))))))))) (args := [.ad r, .ptr n_, .ptr had]) h
def v108v (r : Addr) (kind : Int) (R : Value -> World -> Prop) (w : World) : Prop :=
  ∀ k0 : Nat, ∀ w0 : World, w.heap.size <= k0 -> k0 < w0.heap.size -> Only [] w w0 -> ∃ J0 : Nat -> Prop, J0 (((r.add 0).add 0).block) /\
  ∃ l0 : Sl, Cells w0 ((r.add 0).add 0) [l0.v] /\
  J0 (((r.add 0).add 1).block) /\
  ∃ i0 : Int, Cells w0 ((r.add 0).add 1) [.int .i64 i0] /\
  ∃ p0 : Addr, SlAt l0 i0 4 p0 /\
  J0 ((p0.add 3).block) /\
  ∃ i1 : Int, Cells w0 (p0.add 3) [.int .i64 i1] /\
  ∀ k1 : Nat, ∀ w1 : World, w0.heap.size <= k1 -> k1 < w1.heap.size -> Only [] w0 w1 -> Calls Tryz.prog 75 #[.pointer (some r), .pointer (some ((r.add 4).add 3)), .int .i64 2] w1 fun e0 w2 => e0 = (.returned (.tuple #[])) /\
   Same [k0, k1] w1 w2 /\
   Calls Tryz.prog 43 #[.pointer (some (r.add 0))] w2 fun e1 w3 => ∃ b0 : Bool, e1 = (.returned (.bool b0)) /\
    Same [k0, k1] w2 w3 /\
    ((!b0) = true -> ∀ w4 : World, Only [k0] w3 w4 -> R (.agg #[.int .i64 kind, .string (ByteArray.mk #[]), .int .i64 0, .bool false, .int .i64 0, .int .i64 0, .string (ByteArray.mk #[]), .int .i64 0, Sl.nil.v, .int .i64 0, Sl.nil.v, Sl.nil.v, .int .i64 i1]) w4) /\
    ((!b0) = false -> ∃ i2 : Int, Cells w3 ((r.add 0).add 1) [.int .i64 i2] /\
    ∃ k2 k3 : Nat, ∃ z0 : List Value, ∃ k4 : Nat, ((r.add 0).add 1) = ⟨k2, k3, none⟩ /\
    Blk w3 k2 k4 z0 /\
    (k3 + 1) <= z0.length /\
    k0 ≠ k2 /\
    k1 ≠ k2 /\
    ∀ w5 : World, Only [k2] w3 w5 -> Blk w5 k2 k4 (splice z0 k3 [.int .i64 (IntKind.wrap .i64 (i2 + 1))]) -> ∃ J1 : Int -> ByteArray -> Int -> Bool -> Int -> Int -> ByteArray -> Int -> Sl -> Int -> Sl -> Sl -> Int -> World -> Prop, (∀ i3 : Int, ∀ s0 : ByteArray, ∀ i4 : Int, ∀ b1 : Bool, ∀ i5 i6 : Int, ∀ s1 : ByteArray, ∀ i7 : Int, ∀ l1 : Sl, ∀ i8 : Int, ∀ l2 l3 : Sl, ∀ i9 : Int, ∀ w6 : World, J1 i3 s0 i4 b1 i5 i6 s1 i7 l1 i8 l2 l3 i9 w6 -> ∃ J2 : Int -> ByteArray -> Int -> Bool -> Int -> Int -> ByteArray -> Int -> Sl -> Int -> Sl -> Sl -> Int -> World -> Prop, (∀ i10 : Int, ∀ s2 : ByteArray, ∀ i11 : Int, ∀ b2 : Bool, ∀ i12 i13 : Int, ∀ s3 : ByteArray, ∀ i14 : Int, ∀ l4 : Sl, ∀ i15 : Int, ∀ l5 l6 : Sl, ∀ i16 : Int, ∀ w7 : World, J2 i10 s2 i11 b2 i12 i13 s3 i14 l4 i15 l5 l6 i16 w7 -> ∃ J3 : Int -> ByteArray -> Int -> Bool -> Int -> Int -> ByteArray -> Int -> Sl -> Int -> Sl -> Sl -> Int -> World -> Prop, (∀ i17 : Int, ∀ s4 : ByteArray, ∀ i18 : Int, ∀ b3 : Bool, ∀ i19 i20 : Int, ∀ s5 : ByteArray, ∀ i21 : Int, ∀ l7 : Sl, ∀ i22 : Int, ∀ l8 l9 : Sl, ∀ i23 : Int, ∀ w8 : World, J3 i17 s4 i18 b3 i19 i20 s5 i21 l7 i22 l8 l9 i23 w8 -> ∃ J4 : Nat -> ByteArray -> Int -> ByteArray -> Int -> Bool -> Int -> Int -> ByteArray -> Int -> Sl -> Int -> Sl -> Sl -> Int -> World -> Prop, ∃ k5 : Nat, J4 k5 (ByteArray.mk #[45, 62]) i17 s4 i18 b3 i19 i20 s5 i21 l7 i22 l8 l9 i23 w8 /\
       ∀ k6 : Nat, ∀ s6 : ByteArray, ∀ i24 : Int, ∀ s7 : ByteArray, ∀ i25 : Int, ∀ b4 : Bool, ∀ i26 i27 : Int, ∀ s8 : ByteArray, ∀ i28 : Int, ∀ l10 : Sl, ∀ i29 : Int, ∀ l11 l12 : Sl, ∀ i30 : Int, ∀ w9 : World, J4 k6 s6 i24 s7 i25 b4 i26 i27 s8 i28 l10 i29 l11 l12 i30 w9 -> ∃ l13 : Sl, ∃ w10 : World, ((Instr.buildSlice 57 1 #[.mk 0 (.string s6)]).run Tryz.prog w9) = (.ok l13.v w10) /\
       Same [k0, k1] w9 w10 /\
       Calls Tryz.prog 40 #[.pointer (some (r.add 0)), l13.v] w10 fun e2 w11 => ∃ i31 : Int, e2 = (.returned (.int .i64 i31)) /\
        Same [k0, k1] w10 w11 /\
        ((decide (i31 > 0)) = true -> ∀ w12 : World, Only [] w11 w12 -> ∃ J5 : Nat -> Prop, J5 k1 /\
         Calls Tryz.prog 122 #[.pointer (some (r.add 0))] w12 fun e3 w13 => ∃ s9 : ByteArray, e3 = (.returned (.string s9)) /\
          Same [k0, k1] w12 w13 /\
          Keeps J5 w12 w13 /\
          ∃ l14 : Sl, ∃ w14 : World, ((Instr.buildSlice 57 1 #[.mk 0 (.string s9)]).run Tryz.prog w13) = (.ok l14.v w14) /\
          Same [k0, k1] w13 w14 /\
          Keeps J5 w13 w14 /\
          ∃ l15 : Sl, ∃ w15 : World, ((Builtin.append_ #[57, 57] 57 #[l12.v, l14.v]).run Tryz.prog w14) = (.ok l15.v w15) /\
          Same [k0, k1] w14 w15 /\
          Keeps J5 w14 w15 /\
          ∀ w16 : World, Only [k1] w15 w16 -> ∃ k7 : Nat, k7 < k6 /\
          J4 k7 (ByteArray.mk #[44]) i24 s7 i25 b4 i26 i27 s8 i28 l10 i29 l11 l15 i30 w16) /\
        ((decide (i31 > 0)) = false -> ∃ l16 : Sl, ∃ w17 : World, ((Instr.buildSlice 57 1 #[.mk 0 (.string (ByteArray.mk #[59]))]).run Tryz.prog w11) = (.ok l16.v w17) /\
        Same [k0, k1] w11 w17 /\
        Calls Tryz.prog 38 #[.pointer (some (r.add 0)), l16.v] w17 fun e4 w18 => e4 = (.returned (.tuple #[])) /\
         Same [k0, k1] w17 w18 /\
         ∀ w19 : World, Only [k0] w18 w19 -> R (.agg #[.int .i64 i24, .string s7, .int .i64 i25, .bool b4, .int .i64 i26, .int .i64 i27, .string s8, .int .i64 i28, l10.v, .int .i64 i29, l11.v, l12.v, .int .i64 i30]) w19)) /\
      ∃ l17 : Sl, ∃ w20 : World, ((Instr.buildSlice 57 1 #[.mk 0 (.string (ByteArray.mk #[123]))]).run Tryz.prog w7) = (.ok l17.v w20) /\
      Same [k0, k1] w7 w20 /\
      Calls Tryz.prog 78 #[.pointer (some (r.add 0)), l17.v] w20 fun e5 w21 => ∃ i32 : Int, e5 = (.returned (.int .i64 i32)) /\
       Same [k0, k1] w20 w21 /\
       ((decide (i32 > 0)) = true -> Calls Tryz.prog 123 #[.pointer (some r)] w21 fun e6 w22 => ∃ l18 : Sl, e6 = (.returned l18.v) /\
         Same [k0, k1] w21 w22 /\
         ∀ w23 : World, Only [k1] w22 w23 -> J3 i10 s2 i11 b2 i12 i13 s3 i14 l4 i15 l18 l6 i16 w23) /\
       ((decide (i32 > 0)) = false -> J3 i10 s2 i11 b2 i12 i13 s3 i14 l4 i15 l5 l6 i16 w21)) /\
     ∃ l19 : Sl, ∃ w24 : World, ((Instr.buildSlice 57 1 #[.mk 0 (.string (ByteArray.mk #[91]))]).run Tryz.prog w6) = (.ok l19.v w24) /\
     Same [k0, k1] w6 w24 /\
     Calls Tryz.prog 40 #[.pointer (some (r.add 0)), l19.v] w24 fun e7 w25 => ∃ i33 : Int, e7 = (.returned (.int .i64 i33)) /\
      Same [k0, k1] w24 w25 /\
      ((decide (i33 > 0)) = true -> ∀ w26 : World, Only [k1] w25 w26 -> Calls Tryz.prog 152 #[.pointer (some (r.add 0))] w26 fun e8 w27 => ∃ i34 i35 : Int, ∃ s10 : ByteArray, ∃ i36 : Int, ∃ l20 : Sl, ∃ i37 : Int, e8 = (.returned (.agg #[.int .i64 i34, .int .i64 i35, .string s10, .int .i64 i36, l20.v, .int .i64 i37])) /\
        Same [k0, k1] w26 w27 /\
        ∀ w28 : World, Only [k1] w27 w28 -> ∃ l21 : Sl, ∃ w29 : World, ((Instr.buildSlice 57 1 #[.mk 0 (.string (ByteArray.mk #[93]))]).run Tryz.prog w28) = (.ok l21.v w29) /\
        Same [k0, k1] w28 w29 /\
        Calls Tryz.prog 38 #[.pointer (some (r.add 0)), l21.v] w29 fun e9 w30 => e9 = (.returned (.tuple #[])) /\
         Same [k0, k1] w29 w30 /\
         J2 i3 s0 i4 (decide (i33 > 0)) i34 i35 s10 i36 l20 i37 l2 l3 i9 w30) /\
      ((decide (i33 > 0)) = false -> ∀ w31 : World, Only [k1] w25 w31 -> J2 i3 s0 i4 (decide (i33 > 0)) i5 i6 s1 i7 l1 i8 l2 l3 i9 w31)) /\
    ((kind == 1) = true -> Calls Tryz.prog 122 #[.pointer (some (r.add 0))] w5 fun e10 w32 => ∃ s11 : ByteArray, e10 = (.returned (.string s11)) /\
      Same [k0, k1] w5 w32 /\
      ∀ w33 : World, Only [k1] w32 w33 -> J1 kind s11 0 false 0 0 (ByteArray.mk #[]) 0 Sl.nil 0 Sl.nil Sl.nil i1 w33) /\
    ((kind == 1) = false -> ((kind == 3) = true -> Calls Tryz.prog 77 #[.pointer (some (r.add 0)), .int .i64 3] w5 fun e11 w34 => ∃ i38 : Int, ∃ s12 : ByteArray, ∃ i39 i40 : Int, e11 = (.returned (.agg #[.int .i64 i38, .string s12, .int .i64 i39, .int .i64 i40])) /\
      Same [k0, k1] w5 w34 /\
      ∀ w35 : World, Only [k1] w34 w35 -> J1 kind (ByteArray.mk #[]) i39 false 0 0 (ByteArray.mk #[]) 0 Sl.nil 0 Sl.nil Sl.nil i1 w35) /\
    ((kind == 3) = false -> J1 kind (ByteArray.mk #[]) 0 false 0 0 (ByteArray.mk #[]) 0 Sl.nil 0 Sl.nil Sl.nil i1 w5)))
theorem v108w (r : Addr) (kind : Int) (R : Value -> World -> Prop) (w : World) (h : v108v r kind R w) : Cr 121 #[.pointer (some r), .int .i64 kind] w R :=
 fB (an := .s .o (.s .o (.s (.s .o (.s .o (.s (.s .o .o) .o))) (.s .o (.j [0, 4, 5] [.b 5 [.int .i64, .str, .int .i64, .bool, .int .i64, .int .i64, .str, .int .i64, .sl, .int .i64, .sl, .sl, .int .i64]] (.s .o (.s .o (.s .o (.s .o (.s .o .o))))) (.j [0, 4, 5] [.b 5 [.int .i64, .str, .int .i64, .bool, .int .i64, .int .i64, .str, .int .i64, .sl, .int .i64, .sl, .sl, .int .i64]] (.s .o (.s .o (.s (.s .o .o) .o))) (.j [0, 4, 5] [.b 5 [.int .i64, .str, .int .i64, .bool, .int .i64, .int .i64, .str, .int .i64, .sl, .int .i64, .sl, .sl, .int .i64]] (.s .o (.s .o .o)) (.s (.s .o (.j [0, 4, 5] [.s 6 .str, .b 5 [.int .i64, .str, .int .i64, .bool, .int .i64, .int .i64, .str, .int .i64, .sl, .int .i64, .sl, .sl, .int .i64]] (.s (.s .o (.s .o .o)) (.s .o .o)) .o)) (.s .o (.s .o .o)))))))))) (args := [.ad r, .int .i64 kind]) h
def v98v (c : Addr) (R : Value -> World -> Prop) (w : World) : Prop :=
  Calls Tryz.prog 77 #[.pointer (some c), .int .i64 1] w fun e0 w0 => ∃ i0 : Int, ∃ s0 : ByteArray, ∃ i1 i2 : Int, e0 = (.returned (.agg #[.int .i64 i0, .string s0, .int .i64 i1, .int .i64 i2])) /\
   R (.string s0) w0
theorem v98w (c : Addr) (R : Value -> World -> Prop) (w : World) (h : v98v c R w) : Cr 122 #[.pointer (some c)] w R :=
 fB (an := .s .o (.s .o .o)) (args := [.ad c]) h
def v94v (c : Addr) (R : Value -> World -> Prop) (w : World) : Prop :=
  ∀ k0 : Nat, ∀ w0 : World, w.heap.size <= k0 -> k0 < w0.heap.size -> Only [] w w0 -> Calls Tryz.prog 43 #[.pointer (some c)] w0 fun e0 w1 => ∃ b0 : Bool, e0 = (.returned (.bool b0)) /\
   Same [k0] w0 w1 /\
   ((!b0) = true -> ∀ w2 : World, Only [k0] w1 w2 -> R (.agg #[.int .i64 0, .int .i64 0, .string (ByteArray.mk #[]), .int .i64 0, Sl.nil.v, .int .i64 0]) w2) /\
   ((!b0) = false -> ∀ w3 : World, Only [] w1 w3 -> ∃ J0 : Nat -> Prop, ∀ w4 : World, Only [] w3 w4 -> J0 ((c.add 0).block) /\
   ∃ l0 : Sl, Cells w4 (c.add 0) [l0.v] /\
   ∀ w5 : World, Only [] w4 w5 -> J0 ((c.add 1).block) /\
   ∃ i0 : Int, Cells w5 (c.add 1) [.int .i64 i0] /\
   ∀ w6 : World, Only [] w5 w6 -> Calls Tryz.prog 181 #[l0.v, .int .i64 i0] w6 fun e1 w7 => ∃ i1 i2 : Int, ∃ s0 : ByteArray, ∃ i3 : Int, ∃ l1 : Sl, ∃ i4 i5 i6 i7 : Int, e1 = (.returned (.tuple #[.agg #[.int .i64 i1, .int .i64 i2, .string s0, .int .i64 i3, l1.v, .int .i64 i4], .int .i64 i5, .agg #[.int .i64 i6, .int .i64 i7]])) /\
    Same [k0] w6 w7 /\
    Newer w3 w6 w7 /\
    Keeps J0 w6 w7 /\
    ∀ w8 : World, Only [] w7 w8 -> ∀ k1 : Nat, w3.heap.size <= k1 -> k1 < w8.heap.size -> Apart [.mk w6.heap.size w7.heap.size] k1 -> ((i6 != 0) = true -> ∀ w9 : World, Only [k1, k0] w8 w9 -> ∃ k2 k3 : Nat, ∃ z0 : List Value, ∃ k4 : Nat, (c.add 2) = ⟨k2, k3, none⟩ /\
     Blk w9 k2 k4 z0 /\
     (k3 + 2) <= z0.length /\
     k0 ≠ k2 /\
     k1 ≠ k2 /\
     ∀ w10 : World, Only [k2] w9 w10 -> Blk w10 k2 k4 (splice z0 k3 [.int .i64 i6, .int .i64 i7]) -> ∀ w11 : World, Only [k0] w10 w11 -> R (.agg #[.int .i64 i1, .int .i64 i2, .string s0, .int .i64 i3, l1.v, .int .i64 i4]) w11) /\
    ((i6 != 0) = false -> ∀ w12 : World, Only [k1, k0] w8 w12 -> ∃ k5 k6 : Nat, ∃ z1 : List Value, ∃ k7 : Nat, (c.add 1) = ⟨k5, k6, none⟩ /\
    Blk w12 k5 k7 z1 /\
    (k6 + 1) <= z1.length /\
    k0 ≠ k5 /\
    k1 ≠ k5 /\
    ∀ w13 : World, Only [k5] w12 w13 -> Blk w13 k5 k7 (splice z1 k6 [.int .i64 i5]) -> ∀ w14 : World, Only [k0] w13 w14 -> R (.agg #[.int .i64 i1, .int .i64 i2, .string s0, .int .i64 i3, l1.v, .int .i64 i4]) w14))
theorem v94w (c : Addr) (R : Value -> World -> Prop) (w : World) (h : v94v c R w) : Cr 152 #[.pointer (some c)] w R :=
 fB (an := .s .o (.s (.s .o (.s (.s .o .o) .o)) (.s (.l false [] []) (.s (.s .o (.s (.s .o (.s .o .o)) .o)) (.s .o (.s .o .o)))))) (args := [.ad c]) h
def v4v (l : Sl) (at_ : Int) (R : Value -> World -> Prop) (w : World) : Prop :=
  ∀ k0 k1 : Nat, ∀ w0 : World, w.heap.size <= k0 -> k0 < w0.heap.size -> w.heap.size <= k1 -> k1 < w0.heap.size -> Only [] w w0 -> Calls Tryz.prog 207 #[l.v, .func (.func 208) #[] #[]] w0 fun e0 w1 => ∃ i0 : Int, e0 = (.returned (.int .i64 i0)) /\
   Same [k0, k1] w0 w1 /\
   ((((decide (at_ < 0)) || (decide (at_ >= (l.n : Int)))) || (i0 != (IntKind.wrap .i64 ((l.n : Int) - 1)))) = true -> ∀ w2 : World, Only [k1, k0] w1 w2 -> R (.tuple #[.agg #[.int .i64 0, .int .i64 0, .string (ByteArray.mk #[]), .int .i64 0, Sl.nil.v, .int .i64 0], .int .i64 0, .agg #[.int .i64 1, .int .i64 (-1)]]) w2) /\
   ((((decide (at_ < 0)) || (decide (at_ >= (l.n : Int)))) || (i0 != (IntKind.wrap .i64 ((l.n : Int) - 1)))) = false -> Calls Tryz.prog 174 #[] w1 fun e1 w3 => ∃ l0 : Sl, e1 = (.returned l0.v) /\
    Same [k0, k1] w1 w3 /\
    ∀ k2 : Nat, ∀ w4 : World, w3.heap.size <= k2 -> k2 < w4.heap.size -> Only [] w3 w4 -> Blk w4 k2 259 [l.v, .int .i64 at_, .int .i64 0, .int .i64 0, .int .i64 0, l0.v] -> Calls Tryz.prog 209 #[.pointer (some ⟨k2, 0, none⟩), .int .i64 0] w4 fun e2 w5 => ∃ i1 i2 : Int, ∃ s0 : ByteArray, ∃ i3 : Int, ∃ l1 : Sl, ∃ i4 : Int, e2 = (.returned (.agg #[.int .i64 i1, .int .i64 i2, .string s0, .int .i64 i3, l1.v, .int .i64 i4])) /\
     Same [k0, k1] w4 w5 /\
     ∃ l2 : Sl, ∃ i5 i6 i7 i8 : Int, ∃ l3 : Sl, Blk w5 k2 259 [l2.v, .int .i64 i5, .int .i64 i6, .int .i64 i7, .int .i64 i8, l3.v] /\
     ∀ k3 : Nat, ∀ w6 : World, w5.heap.size <= k3 -> k3 < w6.heap.size -> Only [] w5 w6 -> Blk w6 k2 259 [l2.v, .int .i64 i5, .int .i64 i6, .int .i64 i7, .int .i64 i8, l3.v] -> Calls Tryz.prog 210 #[.pointer (some ⟨k2, 0, none⟩)] w6 fun e3 w7 => ∃ b0 : Bool, e3 = (.returned (.bool b0)) /\
      Same [k0, k1, k3] w6 w7 /\
      ∃ l4 : Sl, ∃ i9 i10 i11 i12 : Int, ∃ l5 : Sl, Blk w7 k2 259 [l4.v, .int .i64 i9, .int .i64 i10, .int .i64 i11, .int .i64 i12, l5.v] /\
      (b0 = true -> ∀ w8 : World, Only [] w7 w8 -> Blk w8 k2 259 [l4.v, .int .i64 i9, .int .i64 i10, .int .i64 i11, .int .i64 i12, l5.v] -> k0 ≠ k1 -> k0 ≠ k2 -> k0 ≠ k3 -> k1 ≠ k2 -> k1 ≠ k3 -> k2 ≠ k3 -> ∃ J0 : Nat -> Prop, J0 k2 /\
       Out J0 k0 /\
       Out J0 k1 /\
       ∀ w9 : World, Only [k1, k0] w8 w9 -> Blk w9 k2 259 [l4.v, .int .i64 i9, .int .i64 i10, .int .i64 i11, .int .i64 i12, l5.v] -> R (.tuple #[.agg #[.int .i64 0, .int .i64 0, .string (ByteArray.mk #[]), .int .i64 0, Sl.nil.v, .int .i64 0], .int .i64 0, .agg #[.int .i64 i10, .int .i64 i11]]) w9) /\
      (b0 = false -> ∀ w10 : World, Only [] w7 w10 -> Blk w10 k2 259 [l4.v, .int .i64 i9, .int .i64 i10, .int .i64 i11, .int .i64 i12, l5.v] -> k0 ≠ k1 -> k0 ≠ k2 -> k0 ≠ k3 -> k1 ≠ k2 -> k1 ≠ k3 -> k2 ≠ k3 -> ∃ J1 : Nat -> Prop, J1 k2 /\
      Out J1 k0 /\
      Out J1 k1 /\
      ∀ w11 : World, Only [k1, k0] w10 w11 -> Blk w11 k2 259 [l4.v, .int .i64 i9, .int .i64 i10, .int .i64 i11, .int .i64 i12, l5.v] -> R (.tuple #[.agg #[.int .i64 i1, .int .i64 i2, .string s0, .int .i64 i3, l1.v, .int .i64 i4], .int .i64 i9, .agg #[.int .i64 0, .int .i64 0]]) w11))
theorem v4w (l : Sl) (at_ : Int) (R : Value -> World -> Prop) (w : World) (h : v4v l at_ R w) : Cr 181 #[l.v, .int .i64 at_] w R :=
 fB (an := .s .o (.s .o (.s (.s .o (.s (.s .o .o) .o)) (.s .o (.s .o (.s (.s .o (.s (.s .o .o) .o)) (.s .o .o))))))) (args := [.sl l, .int .i64 at_]) h
def v80v (s : Sl) (f : OV) (R : Value -> World -> Prop) (w : World) : Prop :=
  ∃ J0 : Nat -> Int -> World -> Prop, ∃ k0 : Nat, J0 k0 0 w /\
  ∀ k1 : Nat, ∀ i0 : Int, ∀ w0 : World, J0 k1 i0 w0 -> ((decide (i0 < (s.n : Int))) = true -> ∃ p0 : Addr, SlAt s i0 4 p0 /\
   ∃ i1 : Int, ∃ s0 : ByteArray, ∃ i2 i3 : Int, Cells w0 p0 [.int .i64 i1, .string s0, .int .i64 i2, .int .i64 i3] /\
   ∃ k2 : Nat, ∃ z0 : List Value, ∃ z1 : List Value, f.v = (.func (.func k2) z0.toArray z1.toArray) /\
   (∀ x0 : Array Value, ∀ w1 : World, ((callFunc k2 x0).run Tryz.prog w1) = (.ok (.enter k2 x0) w1)) /\
   Calls Tryz.prog k2 ((cat (cat z0 [.agg #[.int .i64 i1, .string s0, .int .i64 i2, .int .i64 i3]]) z1).toArray) w0 fun e0 w2 => ∃ b0 : Bool, e0 = (.returned (.bool b0)) /\
    (b0 = true -> R (.int .i64 i0) w2) /\
    (b0 = false -> ∃ k3 : Nat, k3 < k1 /\
    J0 k3 (IntKind.wrap .i64 (i0 + 1)) w2)) /\
  ((decide (i0 < (s.n : Int))) = false -> R (.int .i64 (-1)) w0)
theorem v80w (s : Sl) (f : OV) (R : Value -> World -> Prop) (w : World) (h : v80v s f R w) : Cr 207 #[s.v, f.v] w R :=
 fB (an := .s .o (.s (.s .o (.j [0, 1, 7] [.s 8 (.int .i64)] (.s .o (.s (.s .o .o) (.s (.s .o (.s .o (.s (.s .o .o) .o))) .o))) .o)) (.s .o .o))) (args := [.sl s, .raw f]) h
def v3v (t : Int) (t1 : ByteArray) (t2 t3 : Int) (R : Value -> World -> Prop) (w : World) : Prop :=
 ∀ k0 : Nat, ∀ w0 : World, w.heap.size <= k0 -> k0 < w0.heap.size -> Only [] w w0 -> R (.bool (t == 5)) w0
theorem v3w (t : Int) (t1 : ByteArray) (t2 t3 : Int) (R : Value -> World -> Prop) (w : World) (h : v3v t t1 t2 t3 R w) : Cr 208 #[.agg #[.int .i64 t, .string t1, .int .i64 t2, .int .i64 t3]] w R :=
 fB (an := .s .o (.s .o .o)) (args := [.agg (ofL [.int .i64 t, .str t1, .int .i64 t2, .int .i64 t3])]) h
def v14v (R : Value -> World -> Prop) (w : World) : Prop :=
 ∃ l0 : Sl, ∃ w0 : World, ((Instr.buildSlice 57 16 #[.mk 1 (.string (ByteArray.mk #[43])), .mk 2 (.string (ByteArray.mk #[45])), .mk 3 (.string (ByteArray.mk #[42])), .mk 4 (.string (ByteArray.mk #[47])), .mk 5 (.string (ByteArray.mk #[37])), .mk 6 (.string (ByteArray.mk #[60])), .mk 7 (.string (ByteArray.mk #[60, 61])), .mk 8 (.string (ByteArray.mk #[62])), .mk 9 (.string (ByteArray.mk #[62, 61])), .mk 10 (.string (ByteArray.mk #[61, 61])), .mk 11 (.string (ByteArray.mk #[33, 61])), .mk 12 (.string (ByteArray.mk #[38, 38])), .mk 13 (.string (ByteArray.mk #[124, 124])), .mk 14 (.string (ByteArray.mk #[45])), .mk 15 (.string (ByteArray.mk #[33]))]).run Tryz.prog w) = (.ok l0.v w0) /\
 R l0.v w0
theorem v14w (R : Value -> World -> Prop) (w : World) (h : v14v R w) : Cr 174 #[] w R :=
 fB (an := .s .o (.s .o .o)) (args := []) h
def v16v (r : Addr) (k : Int) (R : Value -> World -> Prop) (w : World) : Prop :=
  ((k == 6) = true -> ∀ k0 : Nat, ∀ w0 : World, w.heap.size <= k0 -> k0 < w0.heap.size -> Only [] w w0 -> Calls Tryz.prog 224 #[.pointer (some r)] w0 fun e0 w1 => ∃ i0 i1 : Int, ∃ s0 : ByteArray, ∃ i2 : Int, ∃ l0 : Sl, ∃ i3 : Int, e0 = (.returned (.agg #[.int .i64 i0, .int .i64 i1, .string s0, .int .i64 i2, l0.v, .int .i64 i3])) /\
    Same [k0] w0 w1 /\
    ∀ w2 : World, Only [k0] w1 w2 -> R (.agg #[.int .i64 i0, .int .i64 i1, .string s0, .int .i64 i2, l0.v, .int .i64 i3]) w2) /\
  ((k == 6) = false -> ∀ k1 : Nat, ∀ w3 : World, w.heap.size <= k1 -> k1 < w3.heap.size -> Only [] w w3 -> Calls Tryz.prog 209 #[.pointer (some r), .int .i64 (IntKind.wrap .i64 (k + 1))] w3 fun e1 w4 => ∃ i4 i5 : Int, ∃ s1 : ByteArray, ∃ i6 : Int, ∃ l1 : Sl, ∃ i7 : Int, e1 = (.returned (.agg #[.int .i64 i4, .int .i64 i5, .string s1, .int .i64 i6, l1.v, .int .i64 i7])) /\
   Same [k1] w3 w4 /\
   ∀ k2 : Nat, ∀ w5 : World, w4.heap.size <= k2 -> k2 < w5.heap.size -> Only [] w4 w5 -> Calls Tryz.prog 225 #[.pointer (some r), .int .i64 k] w5 fun e2 w6 => ∃ i8 : Int, e2 = (.returned (.int .i64 i8)) /\
    Same [k1, k2] w5 w6 /\
    ∃ J0 : Nat -> Int -> Int -> Int -> ByteArray -> Int -> Sl -> Int -> World -> Prop, ∃ k3 : Nat, J0 k3 i8 i4 i5 s1 i6 l1 i7 w6 /\
    ∀ k4 : Nat, ∀ i9 i10 i11 : Int, ∀ s2 : ByteArray, ∀ i12 : Int, ∀ l2 : Sl, ∀ i13 : Int, ∀ w7 : World, J0 k4 i9 i10 i11 s2 i12 l2 i13 w7 -> ((i9 != 0) = true -> ∃ i14 : Int, Cells w7 ((r.add 0).add 1) [.int .i64 i14] /\
     ∃ k5 k6 : Nat, ∃ z0 : List Value, ∃ k7 : Nat, ((r.add 0).add 1) = ⟨k5, k6, none⟩ /\
     Blk w7 k5 k7 z0 /\
     (k6 + 1) <= z0.length /\
     k1 ≠ k5 /\
     k2 ≠ k5 /\
     ∀ w8 : World, Only [k5] w7 w8 -> Blk w8 k5 k7 (splice z0 k6 [.int .i64 (IntKind.wrap .i64 (i14 + 1))]) -> Calls Tryz.prog 209 #[.pointer (some r), .int .i64 (IntKind.wrap .i64 (k + 1))] w8 fun e3 w9 => ∃ i15 i16 : Int, ∃ s3 : ByteArray, ∃ i17 : Int, ∃ l3 : Sl, ∃ i18 : Int, e3 = (.returned (.agg #[.int .i64 i15, .int .i64 i16, .string s3, .int .i64 i17, l3.v, .int .i64 i18])) /\
      Same [k1, k2] w8 w9 /\
      ∀ k8 : Nat, ∀ w10 : World, w9.heap.size <= k8 -> k8 < w10.heap.size -> Only [] w9 w10 -> ∃ l4 : Sl, ∃ w11 : World, ((Instr.buildSlice 54 2 #[.mk 0 (.agg #[.int .i64 i10, .int .i64 i11, .string s2, .int .i64 i12, l2.v, .int .i64 i13]), .mk 1 (.agg #[.int .i64 i15, .int .i64 i16, .string s3, .int .i64 i17, l3.v, .int .i64 i18])]).run Tryz.prog w10) = (.ok l4.v w11) /\
      Same [k1, k2, k8] w10 w11 /\
      ∀ w12 : World, Only [k2] w11 w12 -> Calls Tryz.prog 225 #[.pointer (some r), .int .i64 k] w12 fun e4 w13 => ∃ i19 : Int, e4 = (.returned (.int .i64 i19)) /\
       Same [k1, k2, k8] w12 w13 /\
       ∃ k9 : Nat, k9 < k4 /\
       J0 k9 i19 5 0 (ByteArray.mk #[]) i9 l4 i13 w13) /\
    ((i9 != 0) = false -> ∀ w14 : World, Only [k1] w7 w14 -> R (.agg #[.int .i64 i10, .int .i64 i11, .string s2, .int .i64 i12, l2.v, .int .i64 i13]) w14))
theorem v16w (r : Addr) (k : Int) (R : Value -> World -> Prop) (w : World) (h : v16v r k R w) : Cr 209 #[.pointer (some r), .int .i64 k] w R :=
 fB (an := .s .o (.s (.s .o (.s (.s .o .o) .o)) (.s .o (.s (.s .o (.j [0, 1, 4, 5] [.s 6 (.int .i64), .b 5 [.int .i64, .int .i64, .str, .int .i64, .sl, .int .i64]] (.s (.s .o (.s .o .o)) (.s (.s .o (.s .o .o)) .o)) .o)) (.s .o .o))))) (args := [.ad r, .int .i64 k]) h
def v19v (r : Addr) (R : Value -> World -> Prop) (w : World) : Prop :=
  ∀ k0 k1 : Nat, ∀ w0 : World, w.heap.size <= k0 -> k0 < w0.heap.size -> w.heap.size <= k1 -> k1 < w0.heap.size -> Only [] w w0 -> Calls Tryz.prog 233 #[.pointer (some (r.add 0))] w0 fun e0 w1 => ∃ i0 : Int, ∃ s0 : ByteArray, ∃ i1 i2 : Int, e0 = (.returned (.agg #[.int .i64 i0, .string s0, .int .i64 i1, .int .i64 i2])) /\
   Same [k0, k1] w0 w1 /\
   ∀ k2 k3 : Nat, ∀ w2 : World, w1.heap.size <= k2 -> k2 < w2.heap.size -> w1.heap.size <= k3 -> k3 < w2.heap.size -> Only [] w1 w2 -> ∃ J0 : Option Addr -> Int -> Int -> ByteArray -> Int -> Sl -> Int -> Int -> Int -> ByteArray -> Int -> Sl -> Int -> World -> Prop, (∀ q0 : Option Addr, ∀ i3 i4 : Int, ∀ s1 : ByteArray, ∀ i5 : Int, ∀ l0 : Sl, ∀ i6 i7 i8 : Int, ∀ s2 : ByteArray, ∀ i9 : Int, ∀ l1 : Sl, ∀ i10 : Int, ∀ w3 : World, J0 q0 i3 i4 s1 i5 l0 i6 i7 i8 s2 i9 l1 i10 w3 -> ∃ p0 : Addr, q0 = (some p0) /\
    ∃ i11 : Int, Cells w3 ((p0.add 0).add 1) [.int .i64 i11] /\
    ∃ p1 : Addr, q0 = (some p1) /\
    ∃ k4 k5 : Nat, ∃ z0 : List Value, ∃ k6 : Nat, ((p1.add 0).add 1) = ⟨k4, k5, none⟩ /\
    Blk w3 k4 k6 z0 /\
    (k5 + 1) <= z0.length /\
    k0 ≠ k4 /\
    k1 ≠ k4 /\
    k2 ≠ k4 /\
    k3 ≠ k4 /\
    ∀ w4 : World, Only [k4] w3 w4 -> Blk w4 k4 k6 (splice z0 k5 [.int .i64 (IntKind.wrap .i64 (i11 + 1))]) -> ∀ w5 : World, Only [k1] w4 w5 -> R (.agg #[.int .i64 i7, .int .i64 i8, .string s2, .int .i64 i9, l1.v, .int .i64 i10]) w5) /\
   Calls Tryz.prog 210 #[.pointer (some (r.add 0))] w2 fun e1 w6 => ∃ b0 : Bool, e1 = (.returned (.bool b0)) /\
    Same [k0, k1, k2, k3] w2 w6 /\
    (b0 = true -> ∀ w7 : World, Only [k1] w6 w7 -> R (.agg #[.int .i64 0, .int .i64 0, .string (ByteArray.mk #[]), .int .i64 0, Sl.nil.v, .int .i64 i2]) w7) /\
    (b0 = false -> ∃ l2 : Sl, ∃ w8 : World, ((Instr.buildSlice 57 2 #[.mk 0 (.string (ByteArray.mk #[45])), .mk 1 (.string (ByteArray.mk #[33]))]).run Tryz.prog w6) = (.ok l2.v w8) /\
    Same [k0, k1, k2, k3] w6 w8 /\
    Calls Tryz.prog 234 #[.pointer (some (r.add 0)), l2.v] w8 fun e2 w9 => ∃ b1 : Bool, e2 = (.returned (.bool b1)) /\
     Same [k0, k1, k2, k3] w8 w9 /\
     (b1 = true -> ∀ w10 : World, Only [k3] w9 w10 -> ∃ J1 : Int -> Int -> ByteArray -> Int -> Sl -> Int -> World -> Prop, (∀ i12 i13 : Int, ∀ s3 : ByteArray, ∀ i14 : Int, ∀ l3 : Sl, ∀ i15 : Int, ∀ w11 : World, J1 i12 i13 s3 i14 l3 i15 w11 -> Calls Tryz.prog 235 #[.pointer (some r), .func (.func 224) #[.pointer (some r)] #[]] w11 fun e3 w12 => ∃ i16 i17 : Int, ∃ s4 : ByteArray, ∃ i18 : Int, ∃ l4 : Sl, ∃ i19 : Int, e3 = (.returned (.agg #[.int .i64 i16, .int .i64 i17, .string s4, .int .i64 i18, l4.v, .int .i64 i19])) /\
        Same [k0, k1, k2, k3] w11 w12 /\
        ∃ l5 : Sl, ∃ w13 : World, ((Instr.buildSlice 54 1 #[.mk 0 (.agg #[.int .i64 i16, .int .i64 i17, .string s4, .int .i64 i18, l4.v, .int .i64 i19])]).run Tryz.prog w12) = (.ok l5.v w13) /\
        Same [k0, k1, k2, k3] w12 w13 /\
        ∀ w14 : World, Only [k1, k3] w13 w14 -> R (.agg #[.int .i64 i12, .int .i64 i13, .string s3, .int .i64 i14, l5.v, .int .i64 i15]) w14) /\
      ((s0.toList == ((ByteArray.mk #[33]).toList)) = true -> ∀ w15 : World, Only [k3] w10 w15 -> J1 4 0 (ByteArray.mk #[]) 15 Sl.nil i2 w15) /\
      ((s0.toList == ((ByteArray.mk #[33]).toList)) = false -> J1 4 0 (ByteArray.mk #[]) 14 Sl.nil i2 w10)) /\
     (b1 = false -> ∃ l6 : Sl, ∃ w16 : World, ((Instr.buildSlice 57 1 #[.mk 0 (.string (ByteArray.mk #[40]))]).run Tryz.prog w9) = (.ok l6.v w16) /\
     Same [k0, k1, k2, k3] w9 w16 /\
     Calls Tryz.prog 234 #[.pointer (some (r.add 0)), l6.v] w16 fun e4 w17 => ∃ b2 : Bool, e4 = (.returned (.bool b2)) /\
      Same [k0, k1, k2, k3] w16 w17 /\
      (b2 = true -> Blk w17 k0 255 [.pointer (some r)] -> k1 ≠ k0 -> k2 ≠ k0 -> k3 ≠ k0 -> Calls Tryz.prog 235 #[.pointer (some r), .func (.func 236) #[] #[.pointer (some ⟨k0, 0, none⟩)]] w17 fun e5 w18 => ∃ i20 i21 : Int, ∃ s5 : ByteArray, ∃ i22 : Int, ∃ l7 : Sl, ∃ i23 : Int, e5 = (.returned (.agg #[.int .i64 i20, .int .i64 i21, .string s5, .int .i64 i22, l7.v, .int .i64 i23])) /\
        Same [k1, k2, k3] w17 w18 /\
        ∃ q1 : Option Addr, Blk w18 k0 255 [.pointer q1] /\
        ∀ w19 : World, Only [k1] w18 w19 -> Blk w19 k0 255 [.pointer q1] -> R (.agg #[.int .i64 i20, .int .i64 i21, .string s5, .int .i64 i22, l7.v, .int .i64 i23]) w19) /\
      (b2 = false -> ((i0 == 3) = true -> ∀ w20 : World, Only [] w17 w20 -> k0 ≠ k1 -> k0 ≠ k2 -> k0 ≠ k3 -> k1 ≠ k2 -> k1 ≠ k3 -> k2 ≠ k3 -> ∃ J2 : Nat -> Prop, J2 k2 /\
       Out J2 k3 /\
       Out J2 k3 /\
       ∀ w21 : World, Only [k3] w20 w21 -> J0 (some r) 0 0 (ByteArray.mk #[]) 0 Sl.nil 0 1 i1 (ByteArray.mk #[]) 0 Sl.nil i2 w21) /\
      ((i0 == 3) = false -> ((i0 == 1) = true -> ∀ w22 : World, Only [] w17 w22 -> k0 ≠ k1 -> k0 ≠ k2 -> k0 ≠ k3 -> k1 ≠ k2 -> k1 ≠ k3 -> k2 ≠ k3 -> ∃ J3 : Nat -> Prop, J3 k2 /\
       Out J3 k3 /\
       Out J3 k3 /\
       ∀ w23 : World, Only [k3] w22 w23 -> J0 (some r) 0 0 (ByteArray.mk #[]) 0 Sl.nil 0 2 0 s0 0 Sl.nil i2 w23) /\
      ((i0 == 1) = false -> (((i0 == 2) && (s0.toList == ((ByteArray.mk #[105, 110]).toList))) = true -> ∃ i24 : Int, Cells w17 ((r.add 0).add 1) [.int .i64 i24] /\
       ∃ k7 k8 : Nat, ∃ z1 : List Value, ∃ k9 : Nat, ((r.add 0).add 1) = ⟨k7, k8, none⟩ /\
       Blk w17 k7 k9 z1 /\
       (k8 + 1) <= z1.length /\
       k0 ≠ k7 /\
       k1 ≠ k7 /\
       k2 ≠ k7 /\
       k3 ≠ k7 /\
       ∀ w24 : World, Only [k7] w17 w24 -> Blk w24 k7 k9 (splice z1 k8 [.int .i64 (IntKind.wrap .i64 (i24 + 1))]) -> Calls Tryz.prog 237 #[.pointer (some (r.add 0)), .string (ByteArray.mk #[40])] w24 fun e6 w25 => e6 = (.returned (.tuple #[])) /\
        Same [k0, k1, k2, k3] w24 w25 /\
        Calls Tryz.prog 238 #[.pointer (some r)] w25 fun e7 w26 => ∃ s6 : ByteArray, e7 = (.returned (.string s6)) /\
         Same [k0, k1, k2, k3] w25 w26 /\
         ∀ w27 : World, Only [k3] w26 w27 -> Calls Tryz.prog 237 #[.pointer (some (r.add 0)), .string (ByteArray.mk #[41])] w27 fun e8 w28 => e8 = (.returned (.tuple #[])) /\
          Same [k0, k1, k2, k3] w27 w28 /\
          ∀ w29 : World, Only [k1] w28 w29 -> R (.agg #[.int .i64 3, .int .i64 0, .string s6, .int .i64 0, Sl.nil.v, .int .i64 i2]) w29) /\
      (((i0 == 2) && (s0.toList == ((ByteArray.mk #[105, 110]).toList))) = false -> Calls Tryz.prog 239 #[.pointer (some (r.add 0))] w17 fun e9 w30 => e9 = (.returned (.tuple #[])) /\
       Same [k0, k1, k2, k3] w17 w30 /\
       ∀ w31 : World, Only [k1] w30 w31 -> R (.agg #[.int .i64 0, .int .i64 0, .string (ByteArray.mk #[]), .int .i64 0, Sl.nil.v, .int .i64 i2]) w31))))))
theorem v19w (r : Addr) (R : Value -> World -> Prop) (w : World) (h : v19v r R w) : Cr 224 #[.pointer (some r)] w R :=
 fB (an := .s .o (.s .o (.s .o (.j [1, 2, 3, 4] [.b 1 [.ptr], .b 2 [.int .i64, .int .i64, .str, .int .i64, .sl, .int .i64], .b 4 [.int .i64, .int .i64, .str, .int .i64, .sl, .int .i64]] (.s .o (.s (.s .o .o) (.s .o (.s (.s .o (.j [1, 2, 3, 4] [.b 4 [.int .i64, .int .i64, .str, .int .i64, .sl, .int .i64]] (.s .o (.s .o .o)) (.s .o (.s .o .o)))) (.s .o (.s (.s .o .o) (.s .o (.s .o (.s .o (.s .o (.s .o (.s (.s .o (.s .o (.s .o (.s .o (.s .o .o))))) (.s .o (.s .o .o)))))))))))))) (.s .o (.s .o .o)))))) (args := [.ad r]) h
def v10v (c : Addr) (R : Value -> World -> Prop) (w : World) : Prop :=
 ∀ k0 : Nat, ∀ w0 : World, w.heap.size <= k0 -> k0 < w0.heap.size -> Only [] w w0 -> ∃ l0 : Sl, Cells w0 (c.add 0) [l0.v] /\
 ∃ i0 : Int, Cells w0 (c.add 1) [.int .i64 i0] /\
 ∃ p0 : Addr, SlAt l0 i0 4 p0 /\
 ∃ i1 : Int, ∃ s0 : ByteArray, ∃ i2 i3 : Int, Cells w0 p0 [.int .i64 i1, .string s0, .int .i64 i2, .int .i64 i3] /\
 ∀ w1 : World, Only [k0] w0 w1 -> R (.agg #[.int .i64 i1, .string s0, .int .i64 i2, .int .i64 i3]) w1
theorem v10w (c : Addr) (R : Value -> World -> Prop) (w : World) (h : v10v c R w) : Cr 233 #[.pointer (some c)] w R :=
 fB (an := .s .o (.s .o .o)) (args := [.ad c]) h
def v7v (c : Addr) (R : Value -> World -> Prop) (w : World) : Prop :=
 ∃ i0 : Int, Cells w ((c.add 2).add 0) [.int .i64 i0] /\
 R (.bool (i0 != 0)) w
theorem v7w (c : Addr) (R : Value -> World -> Prop) (w : World) (h : v7v c R w) : Cr 210 #[.pointer (some c)] w R :=
 fB (an := .s .o (.s .o .o)) (args := [.ad c]) h
def v8v (c : Addr) (signs : Sl) (R : Value -> World -> Prop) (w : World) : Prop :=
  Calls Tryz.prog 233 #[.pointer (some c)] w fun e0 w0 => ∃ i0 : Int, ∃ s0 : ByteArray, ∃ i1 i2 : Int, e0 = (.returned (.agg #[.int .i64 i0, .string s0, .int .i64 i1, .int .i64 i2])) /\
   ∀ k0 : Nat, ∀ w1 : World, w0.heap.size <= k0 -> k0 < w1.heap.size -> Only [] w0 w1 -> ∃ J0 : Bool -> World -> Prop, (∀ b0 : Bool, ∀ w2 : World, J0 b0 w2 -> R (.bool b0) w2) /\
   Calls Tryz.prog 210 #[.pointer (some c)] w1 fun e1 w3 => ∃ b1 : Bool, e1 = (.returned (.bool b1)) /\
    Same [k0] w1 w3 /\
    (((!b1) && (i0 == 4)) = true -> Calls Tryz.prog 108 #[signs.v, .string s0] w3 fun e2 w4 => ∃ b2 : Bool, e2 = (.returned (.bool b2)) /\
      Same [k0] w3 w4 /\
      J0 b2 w4) /\
    (((!b1) && (i0 == 4)) = false -> J0 false w3)
theorem v8w (c : Addr) (signs : Sl) (R : Value -> World -> Prop) (w : World) (h : v8v c signs R w) : Cr 234 #[.pointer (some c), signs.v] w R :=
 fB (an := .s .o (.s .o (.s (.j [5] [.s 4 .bool] .o .o) .o))) (args := [.ad c, .sl signs]) h
def v21v (r : Addr) (read : OV) (R : Value -> World -> Prop) (w : World) : Prop :=
  ∀ k0 : Nat, ∀ w0 : World, w.heap.size <= k0 -> k0 < w0.heap.size -> Only [] w w0 -> ∃ i0 : Int, Cells w0 (r.add 4) [.int .i64 i0] /\
  ((i0 == 20) = true -> Calls Tryz.prog 245 #[.pointer (some (r.add 0)), .int .i64 21] w0 fun e0 w1 => e0 = (.returned (.tuple #[])) /\
    Same [k0] w0 w1 /\
    ∀ w2 : World, Only [k0] w1 w2 -> R (.agg #[.int .i64 0, .int .i64 0, .string (ByteArray.mk #[]), .int .i64 0, Sl.nil.v, .int .i64 0]) w2) /\
  ((i0 == 20) = false -> ∃ i1 : Int, Cells w0 ((r.add 0).add 1) [.int .i64 i1] /\
  ∃ k1 k2 : Nat, ∃ z0 : List Value, ∃ k3 : Nat, ((r.add 0).add 1) = ⟨k1, k2, none⟩ /\
  Blk w0 k1 k3 z0 /\
  (k2 + 1) <= z0.length /\
  k0 ≠ k1 /\
  ∀ w3 : World, Only [k1] w0 w3 -> Blk w3 k1 k3 (splice z0 k2 [.int .i64 (IntKind.wrap .i64 (i1 + 1))]) -> ∃ i2 : Int, Cells w3 (r.add 4) [.int .i64 i2] /\
  ∃ k4 k5 : Nat, ∃ z1 : List Value, ∃ k6 : Nat, (r.add 4) = ⟨k4, k5, none⟩ /\
  Blk w3 k4 k6 z1 /\
  (k5 + 1) <= z1.length /\
  k0 ≠ k4 /\
  ∀ w4 : World, Only [k4] w3 w4 -> Blk w4 k4 k6 (splice z1 k5 [.int .i64 (IntKind.wrap .i64 (i2 + 1))]) -> ∃ k7 : Nat, ∃ z2 : List Value, ∃ z3 : List Value, read.v = (.func (.func k7) z2.toArray z3.toArray) /\
  (∀ x0 : Array Value, ∀ w5 : World, ((callFunc k7 x0).run Tryz.prog w5) = (.ok (.enter k7 x0) w5)) /\
  Calls Tryz.prog k7 ((cat (cat z2 []) z3).toArray) w4 fun e1 w6 => ∃ i3 i4 : Int, ∃ s0 : ByteArray, ∃ i5 : Int, ∃ l0 : Sl, ∃ i6 : Int, e1 = (.returned (.agg #[.int .i64 i3, .int .i64 i4, .string s0, .int .i64 i5, l0.v, .int .i64 i6])) /\
   Same [k0] w4 w6 /\
   ∀ k8 : Nat, ∀ w7 : World, w6.heap.size <= k8 -> k8 < w7.heap.size -> Only [] w6 w7 -> ∃ i7 : Int, Cells w7 (r.add 4) [.int .i64 i7] /\
   ∃ k9 k10 : Nat, ∃ z4 : List Value, ∃ k11 : Nat, (r.add 4) = ⟨k9, k10, none⟩ /\
   Blk w7 k9 k11 z4 /\
   (k10 + 1) <= z4.length /\
   k0 ≠ k9 /\
   k8 ≠ k9 /\
   ∀ w8 : World, Only [k9] w7 w8 -> Blk w8 k9 k11 (splice z4 k10 [.int .i64 (IntKind.wrap .i64 (i7 - 1))]) -> ∀ w9 : World, Only [k0] w8 w9 -> R (.agg #[.int .i64 i3, .int .i64 i4, .string s0, .int .i64 i5, l0.v, .int .i64 i6]) w9)
theorem v21w (r : Addr) (read : OV) (R : Value -> World -> Prop) (w : World) (h : v21v r read R w) : Cr 235 #[.pointer (some r), read.v] w R :=
 fB (an := .s .o (.s (.s .o (.s (.s .o (.s .o .o)) .o)) (.s .o (.s .o (.s .o (.s .o (.s .o .o))))))) (args := [.ad r, .raw read]) h
def v11v (c : Addr) (err : Int) (R : Value -> World -> Prop) (w : World) : Prop :=
  Calls Tryz.prog 210 #[.pointer (some c)] w fun e0 w0 => ∃ b0 : Bool, e0 = (.returned (.bool b0)) /\
   ((!b0) = true -> Calls Tryz.prog 233 #[.pointer (some c)] w0 fun e1 w1 => ∃ i0 : Int, ∃ s0 : ByteArray, ∃ i1 i2 : Int, e1 = (.returned (.agg #[.int .i64 i0, .string s0, .int .i64 i1, .int .i64 i2])) /\
     ∃ k0 k1 : Nat, ∃ z0 : List Value, ∃ k2 : Nat, (c.add 2) = ⟨k0, k1, none⟩ /\
     Blk w1 k0 k2 z0 /\
     (k1 + 2) <= z0.length /\
     ∀ w2 : World, Only [k0] w1 w2 -> Blk w2 k0 k2 (splice z0 k1 [.int .i64 err, .int .i64 i2]) -> R (.tuple #[]) w2) /\
   ((!b0) = false -> R (.tuple #[]) w0)
theorem v11w (c : Addr) (err : Int) (R : Value -> World -> Prop) (w : World) (h : v11v c err R w) : Cr 245 #[.pointer (some c), .int .i64 err] w R :=
 fB (an := .s .o (.s .o .o)) (args := [.ad c, .int .i64 err]) h
def v9v (c : Addr) (sign : ByteArray) (R : Value -> World -> Prop) (w : World) : Prop :=
  ∃ l0 : Sl, ∃ w0 : World, ((Instr.buildSlice 57 1 #[.mk 0 (.string sign)]).run Tryz.prog w) = (.ok l0.v w0) /\
  Calls Tryz.prog 234 #[.pointer (some c), l0.v] w0 fun e0 w1 => ∃ b0 : Bool, e0 = (.returned (.bool b0)) /\
   ((!b0) = true -> Calls Tryz.prog 239 #[.pointer (some c)] w1 fun e1 w2 => e1 = (.returned (.tuple #[])) /\
     R (.tuple #[]) w2) /\
   ((!b0) = false -> ∃ i0 : Int, Cells w1 (c.add 1) [.int .i64 i0] /\
   ∃ k0 k1 : Nat, ∃ z0 : List Value, ∃ k2 : Nat, (c.add 1) = ⟨k0, k1, none⟩ /\
   Blk w1 k0 k2 z0 /\
   (k1 + 1) <= z0.length /\
   ∀ w3 : World, Only [k0] w1 w3 -> Blk w3 k0 k2 (splice z0 k1 [.int .i64 (IntKind.wrap .i64 (i0 + 1))]) -> R (.tuple #[]) w3)
theorem v9w (c : Addr) (sign : ByteArray) (R : Value -> World -> Prop) (w : World) (h : v9v c sign R w) : Cr 237 #[.pointer (some c), .string sign] w R :=
 fB (an := .s (.s .o (.s (.s .o .o) .o)) .o) (args := [.ad c, .str sign]) h
def v12v (c : Addr) (R : Value -> World -> Prop) (w : World) : Prop :=
  ∃ J0 : World -> Prop, (∀ w0 : World, J0 w0 -> Calls Tryz.prog 245 #[.pointer (some c), .int .i64 4] w0 fun e0 w1 => e0 = (.returned (.tuple #[])) /\
    R (.tuple #[]) w1) /\
  Calls Tryz.prog 233 #[.pointer (some c)] w fun e1 w2 => ∃ i0 : Int, ∃ s0 : ByteArray, ∃ i1 i2 : Int, e1 = (.returned (.agg #[.int .i64 i0, .string s0, .int .i64 i1, .int .i64 i2])) /\
   ((i0 == 5) = true -> Calls Tryz.prog 245 #[.pointer (some c), .int .i64 3] w2 fun e2 w3 => e2 = (.returned (.tuple #[])) /\
     J0 w3) /\
   ((i0 == 5) = false -> J0 w2)
theorem v12w (c : Addr) (R : Value -> World -> Prop) (w : World) (h : v12v c R w) : Cr 239 #[.pointer (some c)] w R :=
 fB (an := .j [0] [] (.s .o (.s .o .o)) .o) (args := [.ad c]) h
def v17v (r : Addr) (R : Value -> World -> Prop) (w : World) : Prop :=
  Calls Tryz.prog 233 #[.pointer (some (r.add 0))] w fun e0 w0 => ∃ i0 : Int, ∃ s0 : ByteArray, ∃ i1 i2 : Int, e0 = (.returned (.agg #[.int .i64 i0, .string s0, .int .i64 i1, .int .i64 i2])) /\
   ∀ k0 : Nat, ∀ w1 : World, w0.heap.size <= k0 -> k0 < w1.heap.size -> Only [] w0 w1 -> Calls Tryz.prog 210 #[.pointer (some (r.add 0))] w1 fun e1 w2 => ∃ b0 : Bool, e1 = (.returned (.bool b0)) /\
    Same [k0] w1 w2 /\
    ((b0 || (i0 != 1)) = true -> Calls Tryz.prog 239 #[.pointer (some (r.add 0))] w2 fun e2 w3 => e2 = (.returned (.tuple #[])) /\
      Same [k0] w2 w3 /\
      R (.string (ByteArray.mk #[])) w3) /\
    ((b0 || (i0 != 1)) = false -> ∃ i3 : Int, Cells w2 ((r.add 0).add 1) [.int .i64 i3] /\
    ∃ k1 k2 : Nat, ∃ z0 : List Value, ∃ k3 : Nat, ((r.add 0).add 1) = ⟨k1, k2, none⟩ /\
    Blk w2 k1 k3 z0 /\
    (k2 + 1) <= z0.length /\
    k0 ≠ k1 /\
    ∀ w4 : World, Only [k1] w2 w4 -> Blk w4 k1 k3 (splice z0 k2 [.int .i64 (IntKind.wrap .i64 (i3 + 1))]) -> R (.string s0) w4)
theorem v17w (r : Addr) (R : Value -> World -> Prop) (w : World) (h : v17v r R w) : Cr 238 #[.pointer (some r)] w R :=
 fB (an := .s .o (.s .o (.s (.s .o (.s (.s .o (.s .o .o)) .o)) (.s .o (.s .o .o))))) (args := [.ad r]) h
def v20v (r : Addr) (k : Int) (R : Value -> World -> Prop) (w : World) : Prop :=
  ∃ J0 : Nat -> Int -> World -> Prop, ∃ k0 : Nat, J0 k0 1 w /\
  ∀ k1 : Nat, ∀ i0 : Int, ∀ w0 : World, J0 k1 i0 w0 -> ((decide (i0 <= 13)) = true -> ∃ J1 : Bool -> World -> Prop, (∀ b0 : Bool, ∀ w1 : World, J1 b0 w1 -> (b0 = true -> R (.int .i64 i0) w1) /\
    (b0 = false -> ∃ k2 : Nat, k2 < k1 /\
    J0 k2 (IntKind.wrap .i64 (i0 + 1)) w1)) /\
   ∀ w2 : World, Only [] w0 w2 -> Calls Tryz.prog 200 #[.int .i64 i0] w2 fun e0 w3 => ∃ i1 : Int, e0 = (.returned (.int .i64 i1)) /\
    ((i1 == k) = true -> ∃ l0 : Sl, Cells w3 (r.add 5) [l0.v] /\
     ∃ p0 : Addr, SlAt l0 i0 1 p0 /\
     ∃ s0 : ByteArray, Cells w3 p0 [.string s0] /\
     ∃ l1 : Sl, ∃ w4 : World, ((Instr.buildSlice 57 1 #[.mk 0 (.string s0)]).run Tryz.prog w3) = (.ok l1.v w4) /\
     Calls Tryz.prog 234 #[.pointer (some (r.add 0)), l1.v] w4 fun e1 w5 => ∃ b1 : Bool, e1 = (.returned (.bool b1)) /\
      J1 b1 w5) /\
    ((i1 == k) = false -> J1 false w3)) /\
  ((decide (i0 <= 13)) = false -> R (.int .i64 0) w0)
theorem v20w (r : Addr) (k : Int) (R : Value -> World -> Prop) (w : World) (h : v20v r k R w) : Cr 225 #[.pointer (some r), .int .i64 k] w R :=
 fB (an := .s .o (.s (.s .o (.j [0, 1] [.s 5 (.int .i64)] (.s (.s .o (.s .o .o)) (.s (.s (.j [0, 1, 5] [.s 27 .bool] .o .o) (.s (.s .o .o) .o)) .o)) .o)) (.s .o .o))) (args := [.ad r, .int .i64 k]) h
def v22v (op : Int) (R : Value -> World -> Prop) (w : World) : Prop :=
  (((decide (op >= 3)) && (decide (op <= 5))) = true -> R (.int .i64 5) w) /\
  (((decide (op >= 3)) && (decide (op <= 5))) = false -> ∃ J0 : Bool -> World -> Prop, (∀ b0 : Bool, ∀ w0 : World, J0 b0 w0 -> (b0 = true -> R (.int .i64 4) w0) /\
   (b0 = false -> (((decide (op >= 6)) && (decide (op <= 9))) = true -> R (.int .i64 3) w0) /\
   (((decide (op >= 6)) && (decide (op <= 9))) = false -> ∃ J1 : Bool -> World -> Prop, (∀ b1 : Bool, ∀ w1 : World, J1 b1 w1 -> (b1 = true -> R (.int .i64 2) w1) /\
    (b1 = false -> ((op == 12) = true -> R (.int .i64 1) w1) /\
    ((op == 12) = false -> ((op == 13) = true -> R (.int .i64 0) w1) /\
    ((op == 13) = false -> R (.int .i64 6) w1)))) /\
   ((op == 10) = true -> J1 (op == 10) w0) /\
   ((op == 10) = false -> J1 (op == 11) w0)))) /\
  ((op == 1) = true -> J0 (op == 1) w) /\
  ((op == 1) = false -> J0 (op == 2) w))
theorem v22w (op : Int) (R : Value -> World -> Prop) (w : World) (h : v22v op R w) : Cr 200 #[.int .i64 op] w R :=
 fB (an := .s .o (.s (.s .o (.s (.s .o .o) (.j [0] [.s 10 .bool] (.s .o (.s .o .o)) (.s (.s .o .o) (.s .o (.s (.s .o .o) (.j [0] [.s 22 .bool] (.s .o (.s .o .o)) (.s (.s .o .o) (.s .o (.s (.s .o .o) (.s .o (.s (.s .o .o) .o)))))))))))) (.s .o .o))) (args := [.int .i64 op]) h
def v105v (r : Addr) (R : Value -> World -> Prop) (w : World) : Prop :=
  ∀ k0 k1 : Nat, ∀ w0 : World, w.heap.size <= k0 -> k0 < w0.heap.size -> w.heap.size <= k1 -> k1 < w0.heap.size -> Only [] w w0 -> ∃ l0 : Sl, ∃ w1 : World, ((Instr.buildSlice 57 1 #[.mk 0 (.string (ByteArray.mk #[123]))]).run Tryz.prog w0) = (.ok l0.v w1) /\
  Same [k0, k1] w0 w1 /\
  Calls Tryz.prog 38 #[.pointer (some (r.add 0)), l0.v] w1 fun e0 w2 => e0 = (.returned (.tuple #[])) /\
   Same [k0, k1] w1 w2 /\
   (Blk w2 k0 82 [.pointer (some r)] -> Blk w2 k1 23 [Sl.nil.v] -> Calls Tryz.prog 153 #[.pointer (some r), .string (ByteArray.mk #[125]), .func (.func 154) #[] #[.pointer (some ⟨k1, 0, none⟩), .pointer (some ⟨k0, 0, none⟩)]] w2 fun e1 w3 => e1 = (.returned (.tuple #[])) /\
    ∃ q0 : Option Addr, Blk w3 k0 82 [.pointer q0] /\
    ∃ l1 : Sl, Blk w3 k1 23 [l1.v] /\
    R l1.v w3)
theorem v105w (r : Addr) (R : Value -> World -> Prop) (w : World) (h : v105v r R w) : Cr 123 #[.pointer (some r)] w R :=
 fB (an := .s .o (.s .o (.s .o (.s .o (.s .o .o))))) (args := [.ad r]) h
def v111v (r : Addr) (sign : ByteArray) (read : OV) (R : Value -> World -> Prop) (w : World) : Prop :=
  ∃ J0 : Nat -> World -> Prop, ∃ k0 : Nat, J0 k0 w /\
  ∀ k1 : Nat, ∀ w0 : World, J0 k1 w0 -> ∃ J1 : Bool -> World -> Prop, (∀ b0 : Bool, ∀ w1 : World, J1 b0 w1 -> (b0 = true -> ∃ k2 : Nat, ∃ z0 : List Value, ∃ z1 : List Value, read.v = (.func (.func k2) z0.toArray z1.toArray) /\
    (∀ x0 : Array Value, ∀ w2 : World, ((callFunc k2 x0).run Tryz.prog w2) = (.ok (.enter k2 x0) w2)) /\
    Calls Tryz.prog k2 ((cat (cat z0 []) z1).toArray) w1 fun e0 w3 => e0 = (.returned (.tuple #[])) /\
     ∃ k3 : Nat, k3 < k1 /\
     J0 k3 w3) /\
   (b0 = false -> R (.tuple #[]) w1)) /\
  Calls Tryz.prog 43 #[.pointer (some (r.add 0))] w0 fun e1 w4 => ∃ b1 : Bool, e1 = (.returned (.bool b1)) /\
   (b1 = true -> ∃ l0 : Sl, ∃ w5 : World, ((Instr.buildSlice 57 1 #[.mk 0 (.string sign)]).run Tryz.prog w4) = (.ok l0.v w5) /\
    Calls Tryz.prog 40 #[.pointer (some (r.add 0)), l0.v] w5 fun e2 w6 => ∃ i0 : Int, e2 = (.returned (.int .i64 i0)) /\
     J1 (i0 == 0) w6) /\
   (b1 = false -> J1 false w4)
theorem v111w (r : Addr) (sign : ByteArray) (read : OV) (R : Value -> World -> Prop) (w : World) (h : v111v r sign read R w) : Cr 153 #[.pointer (some r), .string sign, read.v] w R :=
 fB (an := .j [0, 1, 2] [] (.s (.s (.j [0, 1, 2] [.s 18 .bool] .o .o) (.s .o .o)) .o) .o) (args := [.ad r, .str sign, .raw read]) h
def v110v (r : Addr) (kind : Int) (R : Value -> World -> Prop) (w : World) : Prop :=
  ∀ k0 : Nat, ∀ w0 : World, w.heap.size <= k0 -> k0 < w0.heap.size -> Only [] w w0 -> Calls Tryz.prog 39 #[.pointer (some r), .int .i64 kind] w0 fun e0 w1 => ∃ i0 : Int, ∃ s0 s1 s2 : ByteArray, ∃ l0 l1 l2 l3 : Sl, ∃ i1 : Int, e0 = (.returned (.agg #[.int .i64 i0, .string s0, .string s1, .string s2, l0.v, l1.v, l2.v, l3.v, .int .i64 i1])) /\
   Same [k0] w0 w1 /\
   ((decide (kind >= 3)) = true -> ∀ k1 : Nat, ∀ w2 : World, w1.heap.size <= k1 -> k1 < w2.heap.size -> Only [] w1 w2 -> ∃ l4 : Sl, ∃ w3 : World, ((Instr.buildSlice 57 1 #[.mk 0 (.string (ByteArray.mk #[45, 62]))]).run Tryz.prog w2) = (.ok l4.v w3) /\
    Same [k0, k1] w2 w3 /\
    Calls Tryz.prog 38 #[.pointer (some (r.add 0)), l4.v] w3 fun e1 w4 => e1 = (.returned (.tuple #[])) /\
     Same [k0, k1] w3 w4 /\
     Calls Tryz.prog 122 #[.pointer (some (r.add 0))] w4 fun e2 w5 => ∃ s3 : ByteArray, e2 = (.returned (.string s3)) /\
      Same [k0, k1] w4 w5 /\
      ∀ w6 : World, Only [k1] w5 w6 -> ∃ l5 : Sl, ∃ w7 : World, ((Instr.buildSlice 57 1 #[.mk 0 (.string (ByteArray.mk #[59]))]).run Tryz.prog w6) = (.ok l5.v w7) /\
      Same [k0, k1] w6 w7 /\
      Calls Tryz.prog 38 #[.pointer (some (r.add 0)), l5.v] w7 fun e3 w8 => e3 = (.returned (.tuple #[])) /\
       Same [k0, k1] w7 w8 /\
       ∀ w9 : World, Only [k0] w8 w9 -> R (.agg #[.int .i64 i0, .string s0, .string s1, .string s3, l0.v, l1.v, l2.v, l3.v, .int .i64 i1]) w9) /\
   ((decide (kind >= 3)) = false -> ∀ k2 : Nat, ∀ w10 : World, w1.heap.size <= k2 -> k2 < w10.heap.size -> Only [] w1 w10 -> ∃ l6 : Sl, ∃ w11 : World, ((Instr.buildSlice 57 1 #[.mk 0 (.string (ByteArray.mk #[123]))]).run Tryz.prog w10) = (.ok l6.v w11) /\
   Same [k0, k2] w10 w11 /\
   Calls Tryz.prog 38 #[.pointer (some (r.add 0)), l6.v] w11 fun e4 w12 => e4 = (.returned (.tuple #[])) /\
    Same [k0, k2] w11 w12 /\
    (Blk w12 k2 27 [.int .i64 i0, .string s0, .string s1, .string s2, l0.v, l1.v, l2.v, l3.v, .int .i64 i1] -> k0 ≠ k2 -> Calls Tryz.prog 42 #[.pointer (some r), .pointer (some ⟨k2, 0, none⟩)] w12 fun e5 w13 => e5 = (.returned (.tuple #[])) /\
     Same [k0] w12 w13 /\
     ∃ i2 : Int, ∃ s4 s5 s6 : ByteArray, ∃ l7 l8 l9 l10 : Sl, ∃ i3 : Int, Blk w13 k2 27 [.int .i64 i2, .string s4, .string s5, .string s6, l7.v, l8.v, l9.v, l10.v, .int .i64 i3] /\
     ∀ w14 : World, Only [k0] w13 w14 -> Blk w14 k2 27 [.int .i64 i2, .string s4, .string s5, .string s6, l7.v, l8.v, l9.v, l10.v, .int .i64 i3] -> R (.agg #[.int .i64 i2, .string s4, .string s5, .string s6, l7.v, l8.v, l9.v, l10.v, .int .i64 i3]) w14))
theorem v110w (r : Addr) (kind : Int) (R : Value -> World -> Prop) (w : World) (h : v110v r kind R w) : Cr 80 #[.pointer (some r), .int .i64 kind] w R :=
 fB (an := .s .o (.s .o (.s (.s .o (.s (.s .o (.s .o (.s .o (.s .o .o)))) .o)) (.s .o (.s .o (.s .o .o)))))) (args := [.ad r, .int .i64 kind]) h
def v42v (c : Sl) (c1 : Int) (c2 c3 c4 : ByteArray) (c5 c6 c7 c8 : Sl) (c9 : Int) (R : Value -> World -> Prop) (w : World) : Prop :=
  ∀ k0 k1 : Nat, ∀ w0 : World, w.heap.size <= k0 -> k0 < w0.heap.size -> w.heap.size <= k1 -> k1 < w0.heap.size -> Only [] w w0 -> Calls Tryz.prog 29 #[.agg #[.int .i64 c1, .string c2, .string c3, .string c4, c5.v, c6.v, c7.v, c8.v, .int .i64 c9]] w0 fun e0 w1 => ∃ i0 i1 : Int, e0 = (.returned (.tuple #[.int .i64 i0, .int .i64 i1])) /\
   Same [k0, k1] w0 w1 /\
   (Blk w1 k1 68 [.pointer none, Sl.nil.v, .bool false, .int .i64 0] -> k0 ≠ k1 -> Calls Tryz.prog 30 #[.pointer (some ⟨k1, 0, none⟩), .bool (((((c1 == 1) && (c4.toList == ((ByteArray.mk #[]).toList))) && (decide ((c.n : Int) <= 16))) && (decide (i0 <= 64))) && (decide (i1 <= 200)))] w1 fun e1 w2 => e1 = (.returned (.tuple #[])) /\
    Same [k0] w1 w2 /\
    ∃ q0 : Option Addr, ∃ l0 : Sl, ∃ b0 : Bool, ∃ i2 : Int, Blk w2 k1 68 [.pointer q0, l0.v, .bool b0, .int .i64 i2] /\
    Calls Tryz.prog 32 #[.pointer (some ⟨k1, 0, none⟩), .string c2] w2 fun e2 w3 => ∃ s0 : ByteArray, e2 = (.returned (.string s0)) /\
     Same [k0] w2 w3 /\
     ∃ q1 : Option Addr, ∃ l1 : Sl, ∃ b1 : Bool, ∃ i3 : Int, Blk w3 k1 68 [.pointer q1, l1.v, .bool b1, .int .i64 i3] /\
     ∃ l2 : Sl, ∃ w4 : World, ((Instr.buildSlice 57 3 #[.mk 0 (.string (ByteArray.mk #[99, 104, 97, 114, 116])), .mk 1 (.string s0), .mk 2 (.string (ByteArray.mk #[123]))]).run Tryz.prog w3) = (.ok l2.v w4) /\
     Same [k0, k1] w3 w4 /\
     Calls Tryz.prog 31 #[.pointer (some ⟨k1, 0, none⟩), .int .i64 0, l2.v] w4 fun e3 w5 => e3 = (.returned (.tuple #[])) /\
      Same [k0] w4 w5 /\
      ∃ q2 : Option Addr, ∃ l3 : Sl, ∃ b2 : Bool, ∃ i4 : Int, Blk w5 k1 68 [.pointer q2, l3.v, .bool b2, .int .i64 i4] /\
      ∃ J0 : Nat -> Int -> Option Addr -> Sl -> Bool -> Int -> World -> Prop, ∃ k2 : Nat, J0 k2 0 q2 l3 b2 i4 w5 /\
      ∀ k3 : Nat, ∀ i5 : Int, ∀ q3 : Option Addr, ∀ l4 : Sl, ∀ b3 : Bool, ∀ i6 : Int, ∀ w6 : World, J0 k3 i5 q3 l4 b3 i6 w6 -> ((decide (i5 < (c.n : Int))) = true -> ∃ p0 : Addr, SlAt c i5 3 p0 /\
       ∃ s1 : ByteArray, ∃ i7 i8 : Int, Cells w6 p0 [.string s1, .int .i64 i7, .int .i64 i8] /\
       ∀ k4 : Nat, ∀ w7 : World, w6.heap.size <= k4 -> k4 < w7.heap.size -> Only [] w6 w7 -> Blk w7 k1 68 [.pointer q3, l4.v, .bool b3, .int .i64 i6] -> Calls Tryz.prog 30 #[.pointer (some ⟨k1, 0, none⟩), .bool (i7 != (-9223372036854775808))] w7 fun e4 w8 => e4 = (.returned (.tuple #[])) /\
        Same [k0, k4] w7 w8 /\
        ∃ q4 : Option Addr, ∃ l5 : Sl, ∃ b4 : Bool, ∃ i9 : Int, Blk w8 k1 68 [.pointer q4, l5.v, .bool b4, .int .i64 i9] /\
        ∀ w9 : World, Only [] w8 w9 -> Blk w9 k1 68 [.pointer q4, l5.v, .bool b4, .int .i64 i9] -> ∃ J1 : Nat -> Prop, J1 k4 /\
        Calls Tryz.prog 32 #[.pointer (some ⟨k1, 0, none⟩), .string s1] w9 fun e5 w10 => ∃ s2 : ByteArray, e5 = (.returned (.string s2)) /\
         Same [k0, k4] w9 w10 /\
         ∃ q5 : Option Addr, ∃ l6 : Sl, ∃ b5 : Bool, ∃ i10 : Int, Blk w10 k1 68 [.pointer q5, l6.v, .bool b5, .int .i64 i10] /\
         Keeps J1 w9 w10 /\
         Calls Tryz.prog 33 #[.int .i64 i7] w10 fun e6 w11 => ∃ s3 : ByteArray, e6 = (.returned (.string s3)) /\
          Same [k0, k4] w10 w11 /\
          ∃ q6 : Option Addr, ∃ l7 : Sl, ∃ b6 : Bool, ∃ i11 : Int, Blk w11 k1 68 [.pointer q6, l7.v, .bool b6, .int .i64 i11] /\
          Keeps J1 w10 w11 /\
          ((s3.size : Int) + 1) <= 9223372036854775807 /\
          ∃ l8 : Sl, ∃ w12 : World, ((Instr.buildSlice 57 4 #[.mk 0 (.string (ByteArray.mk #[118, 97, 114])), .mk 1 (.string s2), .mk 2 (.string (ByteArray.mk #[61])), .mk 3 (.string (s3 ++ (ByteArray.mk #[59])))]).run Tryz.prog w11) = (.ok l8.v w12) /\
          Same [k0, k1, k4] w11 w12 /\
          Keeps J1 w11 w12 /\
          Calls Tryz.prog 31 #[.pointer (some ⟨k1, 0, none⟩), .int .i64 1, l8.v] w12 fun e7 w13 => e7 = (.returned (.tuple #[])) /\
           Same [k0, k4] w12 w13 /\
           ∃ q7 : Option Addr, ∃ l9 : Sl, ∃ b7 : Bool, ∃ i12 : Int, Blk w13 k1 68 [.pointer q7, l9.v, .bool b7, .int .i64 i12] /\
           Keeps J1 w12 w13 /\
           ∃ k5 : Nat, k5 < k3 /\
           J0 k5 (IntKind.wrap .i64 (i5 + 1)) q7 l9 b7 i12 w13) /\
      ((decide (i5 < (c.n : Int))) = false -> Calls Tryz.prog 34 #[.pointer (some ⟨k1, 0, none⟩), .agg #[.int .i64 c1, .string c2, .string c3, .string c4, c5.v, c6.v, c7.v, c8.v, .int .i64 c9], .int .i64 1] w6 fun e8 w14 => e8 = (.returned (.tuple #[])) /\
       Same [k0] w6 w14 /\
       ∃ q8 : Option Addr, ∃ l10 : Sl, ∃ b8 : Bool, ∃ i13 : Int, Blk w14 k1 68 [.pointer q8, l10.v, .bool b8, .int .i64 i13] /\
       ∃ l11 : Sl, ∃ w15 : World, ((Instr.buildSlice 57 1 #[.mk 0 (.string (ByteArray.mk #[125]))]).run Tryz.prog w14) = (.ok l11.v w15) /\
       Same [k0, k1] w14 w15 /\
       Calls Tryz.prog 31 #[.pointer (some ⟨k1, 0, none⟩), .int .i64 0, l11.v] w15 fun e9 w16 => e9 = (.returned (.tuple #[])) /\
        Same [k0] w15 w16 /\
        ∃ q9 : Option Addr, ∃ l12 : Sl, ∃ b9 : Bool, ∃ i14 : Int, Blk w16 k1 68 [.pointer q9, l12.v, .bool b9, .int .i64 i14] /\
        (b9 = true -> R (.tuple #[.string (ByteArray.mk #[]), .int .i64 22]) w16) /\
        (b9 = false -> Calls Tryz.prog 35 #[.pointer (some ⟨k1, 0, none⟩)] w16 fun e10 w17 => ∃ b10 : Bool, e10 = (.returned (.bool b10)) /\
         Same [k0] w16 w17 /\
         ∃ q10 : Option Addr, ∃ l13 : Sl, ∃ b11 : Bool, ∃ i15 : Int, Blk w17 k1 68 [.pointer q10, l13.v, .bool b11, .int .i64 i15] /\
         (b10 = true -> R (.tuple #[.string (ByteArray.mk #[]), .int .i64 2]) w17) /\
         (b10 = false -> Calls Tryz.prog 36 #[.pointer (some ⟨k1, 0, none⟩)] w17 fun e11 w18 => ∃ s4 : ByteArray, e11 = (.returned (.string s4)) /\
          Same [k0] w17 w18 /\
          ∃ q11 : Option Addr, ∃ l14 : Sl, ∃ b12 : Bool, ∃ i16 : Int, Blk w18 k1 68 [.pointer q11, l14.v, .bool b12, .int .i64 i16] /\
          Calls Tryz.prog 13 #[.string s4] w18 fun e12 w19 => ∃ l15 : Sl, ∃ i17 : Int, ∃ s5 s6 s7 : ByteArray, ∃ l16 l17 l18 l19 : Sl, ∃ i18 i19 i20 : Int, e12 = (.returned (.tuple #[.agg #[l15.v, .int .i64 i17, .string s5, .string s6, .string s7, l16.v, l17.v, l18.v, l19.v, .int .i64 i18], .agg #[.int .i64 i19, .int .i64 i20]])) /\
           Same [k0] w18 w19 /\
           ∃ q12 : Option Addr, ∃ l20 : Sl, ∃ b13 : Bool, ∃ i21 : Int, Blk w19 k1 68 [.pointer q12, l20.v, .bool b13, .int .i64 i21] /\
           ((i19 != 0) = true -> ∀ k6 k7 : Nat, ∀ w20 : World, w19.heap.size <= k6 -> k6 < w20.heap.size -> w19.heap.size <= k7 -> k7 < w20.heap.size -> Only [] w19 w20 -> Blk w20 k1 68 [.pointer q12, l20.v, .bool b13, .int .i64 i21] -> R (.tuple #[.string (ByteArray.mk #[]), .int .i64 22]) w20) /\
           ((i19 != 0) = false -> ∀ k8 k9 : Nat, ∀ w21 : World, w19.heap.size <= k8 -> k8 < w21.heap.size -> w19.heap.size <= k9 -> k9 < w21.heap.size -> Only [] w19 w21 -> Blk w21 k1 68 [.pointer q12, l20.v, .bool b13, .int .i64 i21] -> Calls Tryz.prog 36 #[.pointer (some ⟨k1, 0, none⟩)] w21 fun e13 w22 => ∃ s8 : ByteArray, e13 = (.returned (.string s8)) /\
            Same [k0, k8, k9] w21 w22 /\
            ∃ q13 : Option Addr, ∃ l21 : Sl, ∃ b14 : Bool, ∃ i22 : Int, Blk w22 k1 68 [.pointer q13, l21.v, .bool b14, .int .i64 i22] /\
            R (.tuple #[.string s8, .int .i64 0]) w22)))))
theorem v42w (c : Sl) (c1 : Int) (c2 c3 c4 : ByteArray) (c5 c6 c7 c8 : Sl) (c9 : Int) (R : Value -> World -> Prop) (w : World) (h : v42v c c1 c2 c3 c4 c5 c6 c7 c8 c9 R w) : Cr 12 #[.agg #[c.v, .int .i64 c1, .string c2, .string c3, .string c4, c5.v, c6.v, c7.v, c8.v, .int .i64 c9]] w R :=
 fB (an := .s .o (.s .o (.s .o (.s .o (.s .o (.s (.s .o (.j [1, 4, 12, 54, 55] [.s 56 (.int .i64), .b 12 [.ptr, .sl, .bool, .int .i64]] (.s .o (.s (.s .o .o) (.s (.s .o (.s .o .o)) .o))) .o)) (.s .o (.s .o (.s (.s .o (.s (.s .o .o) (.s .o (.s (.s .o .o) .o)))) (.s (.s .o (.s .o (.s (.s .o .o) .o))) (.s .o .o))))))))))) (args := [.agg (ofL [.sl c, .int .i64 c1, .str c2, .str c3, .str c4, .sl c5, .sl c6, .sl c7, .sl c8, .int .i64 c9])]) h
def v58v (n_ : Int) (n_1 n_2 n_3 : ByteArray) (n_4 n_5 n_6 n_7 : Sl) (n_8 : Int) (R : Value -> World -> Prop) (w : World) : Prop :=
  ∀ k0 : Nat, ∀ w0 : World, w.heap.size <= k0 -> k0 < w0.heap.size -> Only [] w w0 -> ∀ w1 : World, Only [] w0 w1 -> ∃ J0 : Nat -> Int -> Int -> Int -> World -> Prop, ∃ k1 : Nat, J0 k1 1 (n_6.n : Int) 0 w1 /\
  ∀ k2 : Nat, ∀ i0 i1 i2 : Int, ∀ w2 : World, J0 k2 i0 i1 i2 w2 -> ((decide (i2 < (n_7.n : Int))) = true -> ∃ p0 : Addr, SlAt n_7 i2 9 p0 /\
   ∃ i3 : Int, ∃ s0 s1 s2 : ByteArray, ∃ l0 l1 l2 l3 : Sl, ∃ i4 : Int, Cells w2 p0 [.int .i64 i3, .string s0, .string s1, .string s2, l0.v, l1.v, l2.v, l3.v, .int .i64 i4] /\
   ∀ k3 : Nat, ∀ w3 : World, w2.heap.size <= k3 -> k3 < w3.heap.size -> Only [] w2 w3 -> Calls Tryz.prog 29 #[.agg #[.int .i64 i3, .string s0, .string s1, .string s2, l0.v, l1.v, l2.v, l3.v, .int .i64 i4]] w3 fun e0 w4 => ∃ i5 i6 : Int, e0 = (.returned (.tuple #[.int .i64 i5, .int .i64 i6])) /\
    Same [k0, k3] w3 w4 /\
    ∃ k4 : Nat, k4 < k2 /\
    J0 k4 (IntKind.wrap .i64 (i0 + i5)) (IntKind.wrap .i64 (i1 + i6)) (IntKind.wrap .i64 (i2 + 1)) w4) /\
  ((decide (i2 < (n_7.n : Int))) = false -> R (.tuple #[.int .i64 i0, .int .i64 i1]) w2)
theorem v58w (n_ : Int) (n_1 n_2 n_3 : ByteArray) (n_4 n_5 n_6 n_7 : Sl) (n_8 : Int) (R : Value -> World -> Prop) (w : World) (h : v58v n_ n_1 n_2 n_3 n_4 n_5 n_6 n_7 n_8 R w) : Cr 29 #[.agg #[.int .i64 n_, .string n_1, .string n_2, .string n_3, n_4.v, n_5.v, n_6.v, n_7.v, .int .i64 n_8]] w R :=
 fB (an := .s .o (.s .o (.s (.s .o (.j [1, 12, 13] [.s 2 (.int .i64), .s 3 (.int .i64), .s 14 (.int .i64)] (.s .o (.s (.s .o .o) (.s (.s .o (.s .o .o)) .o))) .o)) (.s .o .o)))) (args := [.agg (ofL [.int .i64 n_, .str n_1, .str n_2, .str n_3, .sl n_4, .sl n_5, .sl n_6, .sl n_7, .int .i64 n_8])]) h
def v54v (p : Addr) (ok : Bool) (R : Value -> World -> Prop) (w : World) : Prop :=
 ∃ b0 : Bool, Cells w (p.add 2) [.bool b0] /\
 ∃ k0 k1 : Nat, ∃ z0 : List Value, ∃ k2 : Nat, (p.add 2) = ⟨k0, k1, none⟩ /\
 Blk w k0 k2 z0 /\
 (k1 + 1) <= z0.length /\
 ∀ w0 : World, Only [k0] w w0 -> Blk w0 k0 k2 (splice z0 k1 [.bool (b0 || (!ok))]) -> R (.tuple #[]) w0
theorem v54w (p : Addr) (ok : Bool) (R : Value -> World -> Prop) (w : World) (h : v54v p ok R w) : Cr 30 #[.pointer (some p), .bool ok] w R :=
 fB (an := .o) (args := [.ad p, .bt ok]) h
def v55v (p : Addr) (s : ByteArray) (R : Value -> World -> Prop) (w : World) : Prop :=
  Calls Tryz.prog 63 #[.string s] w fun e0 w0 => ∃ b0 : Bool, e0 = (.returned (.bool b0)) /\
   Calls Tryz.prog 30 #[.pointer (some p), .bool b0] w0 fun e1 w1 => e1 = (.returned (.tuple #[])) /\
    R (.string s) w1
theorem v55w (p : Addr) (s : ByteArray) (R : Value -> World -> Prop) (w : World) (h : v55v p s R w) : Cr 32 #[.pointer (some p), .string s] w R :=
 fB (an := .s .o (.s .o (.s .o .o))) (args := [.ad p, .str s]) h
def v59v (s : ByteArray) (R : Value -> World -> Prop) (w : World) : Prop :=
  ∀ k0 : Nat, ∀ w0 : World, w.heap.size <= k0 -> k0 < w0.heap.size -> Only [] w w0 -> ∃ J0 : Bool -> ByteArray -> Int -> World -> Prop, (∀ b0 : Bool, ∀ s0 : ByteArray, ∀ i0 : Int, ∀ w1 : World, J0 b0 s0 i0 w1 -> R (.bool b0) w1) /\
  (((!(s.toList == ((ByteArray.mk #[]).toList))) && (decide ((s.size : Int) <= 24))) = true -> ∃ c0 : UInt8, ((0 : Int) <= 0 /\
    s[0]? = (some c0)) /\
   Calls Tryz.prog 106 #[.int .u8 (UInt8.toNat c0 : Int)] w0 fun e0 w2 => ∃ b1 : Bool, e0 = (.returned (.bool b1)) /\
    Same [k0] w0 w2 /\
    (b1 = true -> Blk w2 k0 126 [.string s, .int .i64 0] -> Calls Tryz.prog 107 #[.pointer (some ⟨k0, 0, none⟩)] w2 fun e1 w3 => ∃ s2 : ByteArray, e1 = (.returned (.string s2)) /\
      ∃ s3 : ByteArray, ∃ i1 : Int, Blk w3 k0 126 [.string s3, .int .i64 i1] /\
      ((s2.toList == s.toList) = true -> Calls Tryz.prog 70 #[] w3 fun e2 w4 => ∃ l0 : Sl, e2 = (.returned l0.v) /\
        ∃ s4 : ByteArray, ∃ i2 : Int, Blk w4 k0 126 [.string s4, .int .i64 i2] /\
        Calls Tryz.prog 108 #[l0.v, .string s] w4 fun e3 w5 => ∃ b2 : Bool, e3 = (.returned (.bool b2)) /\
         ∃ s5 : ByteArray, ∃ i3 : Int, Blk w5 k0 126 [.string s5, .int .i64 i3] /\
         J0 (!b2) s5 i3 w5) /\
      ((s2.toList == s.toList) = false -> J0 false s3 i1 w3)) /\
    (b1 = false -> J0 false s 0 w2)) /\
  (((!(s.toList == ((ByteArray.mk #[]).toList))) && (decide ((s.size : Int) <= 24))) = false -> J0 false s 0 w0)
theorem v59w (s : ByteArray) (R : Value -> World -> Prop) (w : World) (h : v59v s R w) : Cr 63 #[.string s] w R :=
 fB (an := .s .o (.s .o (.s (.j [3] [.s 2 .bool, .b 3 [.str, .int .i64]] .o .o) .o))) (args := [.str s]) h
def v52v (p : Addr) (deep : Int) (words : Sl) (R : Value -> World -> Prop) (w : World) : Prop :=
  Calls Tryz.prog 35 #[.pointer (some p)] w fun e0 w0 => ∃ b0 : Bool, e0 = (.returned (.bool b0)) /\
   ∃ b1 : Bool, ((!b0) = true -> Cells w0 (p.add 2) [.bool b1]) /\
   (((!b0) && (!b1)) = true -> ∀ w1 : World, Only [] w0 w1 -> Calls Tryz.prog 61 #[.string (ByteArray.mk #[32, 32]), .int .i64 deep] w1 fun e1 w2 => ∃ s0 : ByteArray, e1 = (.returned (.string s0)) /\
     Calls Tryz.prog 62 #[words.v] w2 fun e2 w3 => ∃ s1 : ByteArray, e2 = (.returned (.string s1)) /\
      ((s0.size : Int) + (s1.size : Int)) <= 9223372036854775807 /\
      (((s0 ++ s1).size : Int) + 1) <= 9223372036854775807 /\
      Calls Tryz.prog 60 #[.pointer (some (p.add 0)), .string ((s0 ++ s1) ++ (ByteArray.mk #[10]))] w3 fun e3 w4 => ∃ i0 : Int, ∃ v0 : OV, e3 = (.returned (.tuple #[.int .i64 i0, v0.v])) /\
       R (.tuple #[]) w4) /\
   (((!b0) && (!b1)) = false -> R (.tuple #[]) w0)
theorem v52w (p : Addr) (deep : Int) (words : Sl) (R : Value -> World -> Prop) (w : World) (h : v52v p deep words R w) : Cr 31 #[.pointer (some p), .int .i64 deep, words.v] w R :=
 fB (an := .s .o (.s .o .o)) (args := [.ad p, .int .i64 deep, .sl words]) h
def v57v (p : Addr) (R : Value -> World -> Prop) (w : World) : Prop :=
  Calls Tryz.prog 69 #[.pointer (some (p.add 0))] w fun e0 w0 => ∃ i0 : Int, e0 = (.returned (.int .i64 i0)) /\
   R (.bool (decide (i0 > 16384))) w0
theorem v57w (p : Addr) (R : Value -> World -> Prop) (w : World) (h : v57v p R w) : Cr 35 #[.pointer (some p)] w R :=
 fB (an := .s .o (.s .o .o)) (args := [.ad p]) h
def v85v (bb : Addr) (R : Value -> World -> Prop) (w : World) : Prop :=
 ∃ l0 : Sl, Cells w (bb.add 1) [l0.v] /\
 R (.int .i64 (l0.n : Int)) w
theorem v85w (bb : Addr) (R : Value -> World -> Prop) (w : World) (h : v85v bb R w) : Cr 69 #[.pointer (some bb)] w R :=
 fB (an := .s .o (.s .o .o)) (args := [.ad bb]) h
def v45v (words : Sl) (R : Value -> World -> Prop) (w : World) : Prop :=
  Calls Tryz.prog 104 #[words.v, .func (.func 105) #[] #[]] w fun e0 w0 => ∃ l0 : Sl, e0 = (.returned l0.v) /\
   Calls Tryz.prog 103 #[l0.v, .string (ByteArray.mk #[32])] w0 fun e1 w1 => ∃ s0 : ByteArray, e1 = (.returned (.string s0)) /\
    R (.string s0) w1
theorem v45w (words : Sl) (R : Value -> World -> Prop) (w : World) (h : v45v words R w) : Cr 62 #[words.v] w R :=
 fB (an := .s .o (.s .o .o)) (args := [.sl words]) h
def v78v (s : Sl) (del : OV) (R : Value -> World -> Prop) (w : World) : Prop :=
  Calls Tryz.prog 145 #[s.v, del.v] w fun e0 w0 => ∃ i0 : Int, e0 = (.returned (.int .i64 i0)) /\
   ((i0 == (-1)) = true -> R s.v w0) /\
   ((i0 == (-1)) = false -> ∃ J0 : Nat -> Int -> Int -> World -> Prop, ∃ k0 : Nat, J0 k0 i0 (IntKind.wrap .i64 (i0 + 1)) w0 /\
   ∀ k1 : Nat, ∀ i1 i2 : Int, ∀ w1 : World, J0 k1 i1 i2 w1 -> ((decide (i2 < (s.n : Int))) = true -> ∃ J1 : Int -> World -> Prop, (∀ i3 : Int, ∀ w2 : World, J1 i3 w2 -> ∃ k2 : Nat, k2 < k1 /\
     J0 k2 i3 (IntKind.wrap .i64 (i2 + 1)) w2) /\
    ∃ p0 : Addr, SlAt s i2 1 p0 /\
    ∃ s0 : ByteArray, Cells w1 p0 [.string s0] /\
    ∃ k3 : Nat, ∃ z0 : List Value, ∃ z1 : List Value, del.v = (.func (.func k3) z0.toArray z1.toArray) /\
    (∀ x0 : Array Value, ∀ w3 : World, ((callFunc k3 x0).run Tryz.prog w3) = (.ok (.enter k3 x0) w3)) /\
    Calls Tryz.prog k3 ((cat (cat z0 [.string s0]) z1).toArray) w1 fun e1 w4 => ∃ b0 : Bool, e1 = (.returned (.bool b0)) /\
     ((!b0) = true -> ∃ p1 : Addr, SlAt s i1 1 p1 /\
      ∃ k4 k5 : Nat, ∃ z2 : List Value, ∃ k6 : Nat, p1 = ⟨k4, k5, none⟩ /\
      Blk w4 k4 k6 z2 /\
      (k5 + 1) <= z2.length /\
      ∀ w5 : World, Only [k4] w4 w5 -> Blk w5 k4 k6 (splice z2 k5 [.string s0]) -> J1 (IntKind.wrap .i64 (i1 + 1)) w5) /\
     ((!b0) = false -> J1 i1 w4)) /\
   ((decide (i2 < (s.n : Int))) = false -> ∃ k7 : Nat, (i1 = (k7 : Int) /\
    k7 <= s.n /\
    s.n <= s.c) /\
   ∃ w6 : World, ((Builtin.clear_ #[57] 0 #[(s.cut k7 s.n s.c 1).v]).run Tryz.prog w1) = (.ok (.tuple #[]) w6) /\
   ∃ k8 : Nat, (i1 = (k8 : Int) /\
    k8 <= s.c) /\
   R ((s.cut 0 k8 s.c 1).v) w6))
theorem v78w (s : Sl) (del : OV) (R : Value -> World -> Prop) (w : World) (h : v78v s del R w) : Cr 104 #[s.v, del.v] w R :=
 fB (an := .s .o (.s .o (.s (.s .o (.s (.s .o .o) .o)) (.s (.s .o (.j [0, 1] [.s 5 (.int .i64), .s 6 (.int .i64)] (.s (.s .o (.s .o .o)) (.j [0, 1, 6] [.s 5 (.int .i64)] (.s .o (.s .o (.s (.s .o .o) .o))) .o)) .o)) (.s .o (.s .o .o)))))) (args := [.sl s, .raw del]) h
def v82v (s : Sl) (f : OV) (R : Value -> World -> Prop) (w : World) : Prop :=
  ∃ J0 : Nat -> Int -> World -> Prop, ∃ k0 : Nat, J0 k0 0 w /\
  ∀ k1 : Nat, ∀ i0 : Int, ∀ w0 : World, J0 k1 i0 w0 -> ((decide (i0 < (s.n : Int))) = true -> ∃ p0 : Addr, SlAt s i0 1 p0 /\
   ∃ s0 : ByteArray, Cells w0 p0 [.string s0] /\
   ∃ k2 : Nat, ∃ z0 : List Value, ∃ z1 : List Value, f.v = (.func (.func k2) z0.toArray z1.toArray) /\
   (∀ x0 : Array Value, ∀ w1 : World, ((callFunc k2 x0).run Tryz.prog w1) = (.ok (.enter k2 x0) w1)) /\
   Calls Tryz.prog k2 ((cat (cat z0 [.string s0]) z1).toArray) w0 fun e0 w2 => ∃ b0 : Bool, e0 = (.returned (.bool b0)) /\
    (b0 = true -> R (.int .i64 i0) w2) /\
    (b0 = false -> ∃ k3 : Nat, k3 < k1 /\
    J0 k3 (IntKind.wrap .i64 (i0 + 1)) w2)) /\
  ((decide (i0 < (s.n : Int))) = false -> R (.int .i64 (-1)) w0)
theorem v82w (s : Sl) (f : OV) (R : Value -> World -> Prop) (w : World) (h : v82v s f R w) : Cr 145 #[s.v, f.v] w R :=
 fB (an := .s .o (.s (.s .o (.j [0, 1, 7] [.s 8 (.int .i64)] (.s .o (.s (.s .o .o) (.s (.s .o (.s .o (.s (.s .o .o) .o))) .o))) .o)) (.s .o .o))) (args := [.sl s, .raw f]) h
def v44v (s : ByteArray) (R : Value -> World -> Prop) (w : World) : Prop :=
 R (.bool (s.toList == ((ByteArray.mk #[]).toList))) w
theorem v44w (s : ByteArray) (R : Value -> World -> Prop) (w : World) (h : v44v s R w) : Cr 105 #[.string s] w R :=
 fB (an := .s .o (.s .o .o)) (args := [.str s]) h
def v88v (bb : Addr) (s : ByteArray) (R : Value -> World -> Prop) (w : World) : Prop :=
  Calls Tryz.prog 99 #[.pointer (some bb)] w fun e0 w0 => e0 = (.returned (.tuple #[])) /\
   ∃ l0 : Sl, Cells w0 (bb.add 1) [l0.v] /\
   ∃ l1 : Sl, ∃ w1 : World, ((Builtin.append_ #[64, 9] 64 #[l0.v, .string s]).run Tryz.prog w0) = (.ok l1.v w1) /\
   ∃ k0 k1 : Nat, ∃ z0 : List Value, ∃ k2 : Nat, (bb.add 1) = ⟨k0, k1, none⟩ /\
   Blk w1 k0 k2 z0 /\
   (k1 + 1) <= z0.length /\
   ∀ w2 : World, Only [k0] w1 w2 -> Blk w2 k0 k2 (splice z0 k1 [l1.v]) -> R (.tuple #[.int .i64 (s.size : Int), .nilIface]) w2
theorem v88w (bb : Addr) (s : ByteArray) (R : Value -> World -> Prop) (w : World) (h : v88v bb s R w) : Cr 60 #[.pointer (some bb), .string s] w R :=
 fB (an := .s .o (.s .o (.s .o (.s .o .o)))) (args := [.ad bb, .str s]) h
def v89v (bb : Addr) (R : Value -> World -> Prop) (w : World) : Prop :=
  ∃ q0 : Option Addr, Cells w (bb.add 0) [.pointer q0] /\
  (q0.isNone = true -> ∃ v0 : OV, ∃ w0 : World, ((convert 63 195 (.pointer (some bb))).run Tryz.prog w) = (.ok v0.v w0) /\
   ∃ v1 : OV, ∃ w1 : World, ((extV 140 #[v0.v]).run Tryz.prog w0) = (.ok v1.v w1) /\
   ∃ q1 : Option Addr, ∃ w2 : World, ((convert 195 63 v1.v).run Tryz.prog w1) = (.ok (.pointer q1) w2) /\
   ∃ k0 k1 : Nat, ∃ z0 : List Value, ∃ k2 : Nat, (bb.add 0) = ⟨k0, k1, none⟩ /\
   Blk w2 k0 k2 z0 /\
   (k1 + 1) <= z0.length /\
   ∀ w3 : World, Only [k0] w2 w3 -> Blk w3 k0 k2 (splice z0 k1 [.pointer q1]) -> R (.tuple #[]) w3) /\
  (q0.isNone = false -> ∃ q2 : Option Addr, Cells w (bb.add 0) [.pointer q2] /\
  ∃ b0 : Bool, ∃ w4 : World, ((binOp .neq 63 (.pointer q2) (.pointer (some bb))).run Tryz.prog w) = (.ok (.bool b0) w4) /\
  (b0 = true -> False) /\
  (b0 = false -> R (.tuple #[]) w4))
theorem v89w (bb : Addr) (R : Value -> World -> Prop) (w : World) (h : v89v bb R w) : Cr 99 #[.pointer (some bb)] w R :=
 fB (an := .s .o (.s .o (.s .o (.s .o .o)))) (args := [.ad bb]) h
def v1v (n_ : Int) (R : Value -> World -> Prop) (w : World) : Prop :=
  Calls Tryz.prog 64 #[.int .i64 n_] w fun e0 w0 => ∃ s0 : ByteArray, e0 = (.returned (.string s0)) /\
   R (.string s0) w0
theorem v1w (n_ : Int) (R : Value -> World -> Prop) (w : World) (h : v1v n_ R w) : Cr 33 #[.int .i64 n_] w R :=
 fB (an := .s .o (.s .o .o)) (args := [.int .i64 n_]) h
def v49v (p : Addr) (n_ : Int) (n_1 n_2 n_3 : ByteArray) (n_4 n_5 n_6 n_7 : Sl) (n_8 deep : Int) (R : Value -> World -> Prop) (w : World) : Prop :=
  ∀ k0 : Nat, ∀ w0 : World, w.heap.size <= k0 -> k0 < w0.heap.size -> Only [] w w0 -> ∃ J0 : World -> Prop, (∀ w1 : World, J0 w1 -> Calls Tryz.prog 66 #[.pointer (some p), n_4.v] w1 fun e0 w2 => ∃ s0 : ByteArray, e0 = (.returned (.string s0)) /\
    Same [k0] w1 w2 /\
    Calls Tryz.prog 65 #[.pointer (some p), .int .i64 deep, .string (ByteArray.mk #[101, 110, 116, 101, 114]), .string s0] w2 fun e1 w3 => e1 = (.returned (.tuple #[])) /\
     Same [k0] w2 w3 /\
     Calls Tryz.prog 66 #[.pointer (some p), n_5.v] w3 fun e2 w4 => ∃ s1 : ByteArray, e2 = (.returned (.string s1)) /\
      Same [k0] w3 w4 /\
      Calls Tryz.prog 65 #[.pointer (some p), .int .i64 deep, .string (ByteArray.mk #[108, 101, 97, 118, 101]), .string s1] w4 fun e3 w5 => e3 = (.returned (.tuple #[])) /\
       Same [k0] w4 w5 /\
       ∃ J1 : Nat -> Int -> World -> Prop, ∃ k1 : Nat, J1 k1 0 w5 /\
       ∀ k2 : Nat, ∀ i0 : Int, ∀ w6 : World, J1 k2 i0 w6 -> ((decide (i0 < (n_6.n : Int))) = true -> ∃ p0 : Addr, SlAt n_6 i0 13 p0 /\
        ∃ i1 : Int, ∃ s2 : ByteArray, ∃ i2 : Int, ∃ b0 : Bool, ∃ i3 i4 : Int, ∃ s3 : ByteArray, ∃ i5 : Int, ∃ l0 : Sl, ∃ i6 : Int, ∃ l1 l2 : Sl, ∃ i7 : Int, Cells w6 p0 [.int .i64 i1, .string s2, .int .i64 i2, .bool b0, .int .i64 i3, .int .i64 i4, .string s3, .int .i64 i5, l0.v, .int .i64 i6, l1.v, l2.v, .int .i64 i7] /\
        ∀ k3 : Nat, ∀ w7 : World, w6.heap.size <= k3 -> k3 < w7.heap.size -> Only [] w6 w7 -> Calls Tryz.prog 67 #[.pointer (some p), .agg #[.int .i64 i1, .string s2, .int .i64 i2, .bool b0, .int .i64 i3, .int .i64 i4, .string s3, .int .i64 i5, l0.v, .int .i64 i6, l1.v, l2.v, .int .i64 i7]] w7 fun e4 w8 => ∃ s4 : ByteArray, e4 = (.returned (.string s4)) /\
         Same [k0, k3] w7 w8 /\
         ∃ l3 : Sl, ∃ w9 : World, ((Instr.buildSlice 57 1 #[.mk 0 (.string s4)]).run Tryz.prog w8) = (.ok l3.v w9) /\
         Same [k0, k3] w8 w9 /\
         Calls Tryz.prog 31 #[.pointer (some p), .int .i64 deep, l3.v] w9 fun e5 w10 => e5 = (.returned (.tuple #[])) /\
          Same [k0, k3] w9 w10 /\
          ∃ k4 : Nat, k4 < k2 /\
          J1 k4 (IntKind.wrap .i64 (i0 + 1)) w10) /\
       ((decide (i0 < (n_6.n : Int))) = false -> ∃ J2 : Nat -> Int -> World -> Prop, ∃ k5 : Nat, J2 k5 0 w6 /\
       ∀ k6 : Nat, ∀ i8 : Int, ∀ w11 : World, J2 k6 i8 w11 -> ((decide (i8 < (n_7.n : Int))) = true -> ∃ p1 : Addr, SlAt n_7 i8 9 p1 /\
        ∃ i9 : Int, ∃ s5 s6 s7 : ByteArray, ∃ l4 l5 l6 l7 : Sl, ∃ i10 : Int, Cells w11 p1 [.int .i64 i9, .string s5, .string s6, .string s7, l4.v, l5.v, l6.v, l7.v, .int .i64 i10] /\
        ∀ k7 : Nat, ∀ w12 : World, w11.heap.size <= k7 -> k7 < w12.heap.size -> Only [] w11 w12 -> Calls Tryz.prog 68 #[.pointer (some p), .agg #[.int .i64 i9, .string s5, .string s6, .string s7, l4.v, l5.v, l6.v, l7.v, .int .i64 i10], .int .i64 deep] w12 fun e6 w13 => e6 = (.returned (.tuple #[])) /\
         Same [k0, k7] w12 w13 /\
         ∃ k8 : Nat, k8 < k6 /\
         J2 k8 (IntKind.wrap .i64 (i8 + 1)) w13) /\
       ((decide (i8 < (n_7.n : Int))) = false -> R (.tuple #[]) w11))) /\
  ((!(n_2.toList == ((ByteArray.mk #[]).toList))) = true -> Calls Tryz.prog 32 #[.pointer (some p), .string n_2] w0 fun e7 w14 => ∃ s8 : ByteArray, e7 = (.returned (.string s8)) /\
    Same [k0] w0 w14 /\
    ((s8.size : Int) + 1) <= 9223372036854775807 /\
    Calls Tryz.prog 65 #[.pointer (some p), .int .i64 deep, .string (ByteArray.mk #[105, 110, 105, 116, 105, 97, 108]), .string (s8 ++ (ByteArray.mk #[59]))] w14 fun e8 w15 => e8 = (.returned (.tuple #[])) /\
     Same [k0] w14 w15 /\
     J0 w15) /\
  ((!(n_2.toList == ((ByteArray.mk #[]).toList))) = false -> J0 w0)
theorem v49w (p : Addr) (n_ : Int) (n_1 n_2 n_3 : ByteArray) (n_4 n_5 n_6 n_7 : Sl) (n_8 deep : Int) (R : Value -> World -> Prop) (w : World) (h : v49v p n_ n_1 n_2 n_3 n_4 n_5 n_6 n_7 n_8 deep R w) : Cr 34 #[.pointer (some p), .agg #[.int .i64 n_, .string n_1, .string n_2, .string n_3, n_4.v, n_5.v, n_6.v, n_7.v, .int .i64 n_8], .int .i64 deep] w R :=
 fB (an := .s .o (.j [0, 2, 4] [] (.s .o (.s .o .o)) (.s .o (.s .o (.s (.s .o (.j [0, 2, 4, 36, 37] [.s 38 (.int .i64)] (.s .o (.s (.s .o .o) (.s (.s .o .o) .o))) .o)) (.s .o (.j [0, 2, 4, 7, 51, 52] [.s 53 (.int .i64)] (.s .o (.s (.s .o .o) (.s (.s .o .o) .o))) .o))))))) (args := [.ad p, .agg (ofL [.int .i64 n_, .str n_1, .str n_2, .str n_3, .sl n_4, .sl n_5, .sl n_6, .sl n_7, .int .i64 n_8]), .int .i64 deep]) h
def v50v (p : Addr) (deep : Int) (word text : ByteArray) (R : Value -> World -> Prop) (w : World) : Prop :=
  ((!(text.toList == ((ByteArray.mk #[]).toList))) = true -> ∃ l0 : Sl, ∃ w0 : World, ((Instr.buildSlice 57 2 #[.mk 0 (.string word), .mk 1 (.string text)]).run Tryz.prog w) = (.ok l0.v w0) /\
   Calls Tryz.prog 31 #[.pointer (some p), .int .i64 deep, l0.v] w0 fun e0 w1 => e0 = (.returned (.tuple #[])) /\
    R (.tuple #[]) w1) /\
  ((!(text.toList == ((ByteArray.mk #[]).toList))) = false -> R (.tuple #[]) w)
theorem v50w (p : Addr) (deep : Int) (word text : ByteArray) (R : Value -> World -> Prop) (w : World) (h : v50v p deep word text R w) : Cr 65 #[.pointer (some p), .int .i64 deep, .string word, .string text] w R :=
 fB (an := .s .o (.s .o .o)) (args := [.ad p, .int .i64 deep, .str word, .str text]) h
def v48v (p : Addr) (l : Sl) (R : Value -> World -> Prop) (w : World) : Prop :=
  (((l.n : Int) == 0) = true -> R (.string (ByteArray.mk #[])) w) /\
  (((l.n : Int) == 0) = false -> ∃ i0 : Int, Cells w (p.add 3) [.int .i64 i0] /\
  ∃ k0 k1 : Nat, ∃ z0 : List Value, ∃ k2 : Nat, (p.add 3) = ⟨k0, k1, none⟩ /\
  Blk w k0 k2 z0 /\
  (k1 + 1) <= z0.length /\
  ∀ w0 : World, Only [k0] w w0 -> Blk w0 k0 k2 (splice z0 k1 [.int .i64 (IntKind.wrap .i64 (i0 + (l.n : Int)))]) -> ∃ i1 : Int, Cells w0 (p.add 3) [.int .i64 i1] /\
  Calls Tryz.prog 30 #[.pointer (some p), .bool (decide (i1 <= 400))] w0 fun e0 w1 => e0 = (.returned (.tuple #[])) /\
   ∃ l0 : Sl, ∃ w2 : World, ((Instr.buildSlice 57 1 #[.mk 0 (.string (ByteArray.mk #[123]))]).run Tryz.prog w1) = (.ok l0.v w2) /\
   ∃ J0 : Sl -> World -> Prop, (∀ l1 : Sl, ∀ w3 : World, J0 l1 w3 -> ∃ l2 : Sl, ∃ w4 : World, ((Instr.buildSlice 57 1 #[.mk 0 (.string (ByteArray.mk #[125]))]).run Tryz.prog w3) = (.ok l2.v w4) /\
    ∃ l3 : Sl, ∃ w5 : World, ((Builtin.append_ #[57, 57] 57 #[l1.v, l2.v]).run Tryz.prog w4) = (.ok l3.v w5) /\
    Calls Tryz.prog 62 #[l3.v] w5 fun e1 w6 => ∃ s0 : ByteArray, e1 = (.returned (.string s0)) /\
     R (.string s0) w6) /\
   ∃ J1 : Nat -> Sl -> Int -> World -> Prop, ∃ k3 : Nat, J1 k3 l0 0 w2 /\
   ∀ k4 : Nat, ∀ l4 : Sl, ∀ i2 : Int, ∀ w7 : World, J1 k4 l4 i2 w7 -> ((decide (i2 < (l.n : Int))) = true -> ∃ p0 : Addr, SlAt l i2 9 p0 /\
    ∃ i3 : Int, ∃ s1 : ByteArray, ∃ i4 i5 : Int, ∃ s2 : ByteArray, ∃ i6 : Int, ∃ l5 : Sl, ∃ i7 i8 : Int, Cells w7 p0 [.int .i64 i3, .string s1, .int .i64 i4, .int .i64 i5, .string s2, .int .i64 i6, l5.v, .int .i64 i7, .int .i64 i8] /\
    ∀ k5 : Nat, ∀ w8 : World, w7.heap.size <= k5 -> k5 < w8.heap.size -> Only [] w7 w8 -> ∃ b0 : Bool, Cells w8 (p.add 2) [.bool b0] /\
    (b0 = true -> J0 l4 w8) /\
    (b0 = false -> Calls Tryz.prog 110 #[.pointer (some p), .agg #[.int .i64 i3, .string s1, .int .i64 i4, .int .i64 i5, .string s2, .int .i64 i6, l5.v, .int .i64 i7, .int .i64 i8]] w8 fun e2 w9 => ∃ s3 : ByteArray, e2 = (.returned (.string s3)) /\
     Same [k5] w8 w9 /\
     ∃ l6 : Sl, ∃ w10 : World, ((Instr.buildSlice 57 1 #[.mk 0 (.string s3)]).run Tryz.prog w9) = (.ok l6.v w10) /\
     Same [k5] w9 w10 /\
     ∃ l7 : Sl, ∃ w11 : World, ((Builtin.append_ #[57, 57] 57 #[l4.v, l6.v]).run Tryz.prog w10) = (.ok l7.v w11) /\
     Same [k5] w10 w11 /\
     ∃ k6 : Nat, k6 < k4 /\
     J1 k6 l7 (IntKind.wrap .i64 (i2 + 1)) w11)) /\
   ((decide (i2 < (l.n : Int))) = false -> J0 l4 w7))
theorem v48w (p : Addr) (l : Sl) (R : Value -> World -> Prop) (w : World) (h : v48v p l R w) : Cr 66 #[.pointer (some p), l.v] w R :=
 fB (an := .s .o (.s (.s .o (.s (.s .o .o) .o)) (.s .o (.s .o (.s .o (.j [] [.s 5 .sl] (.s .o (.j [0, 28, 29] [.s 5 .sl, .s 30 (.int .i64)] (.s .o (.s (.s .o .o) (.s (.s .o (.s (.s .o (.s .o .o)) .o)) .o))) .o)) (.s .o .o))))))) (args := [.ad p, .sl l]) h
def v46v (p : Addr) (a_ : Int) (a_1 : ByteArray) (a_2 a_3 : Int) (a_4 : ByteArray) (a_5 : Int) (a_6 : Sl) (a_7 a_8 : Int) (R : Value -> World -> Prop) (w : World) : Prop :=
  ∀ k0 : Nat, ∀ w0 : World, w.heap.size <= k0 -> k0 < w0.heap.size -> Only [] w w0 -> ∃ l0 : Sl, ∃ w1 : World, ((Instr.buildSlice 57 4 #[.mk 0 (.string (ByteArray.mk #[])), .mk 1 (.string (ByteArray.mk #[115, 101, 116])), .mk 2 (.string (ByteArray.mk #[114, 97, 105, 115, 101])), .mk 3 (.string (ByteArray.mk #[101, 109, 105, 116]))]).run Tryz.prog w0) = (.ok l0.v w1) /\
  Same [k0] w0 w1 /\
  (((decide (a_ < 1)) || (decide (a_ > 3))) = true -> Calls Tryz.prog 30 #[.pointer (some p), .bool false] w1 fun e0 w2 => e0 = (.returned (.tuple #[])) /\
    Same [k0] w1 w2 /\
    R (.string (ByteArray.mk #[])) w2) /\
  (((decide (a_ < 1)) || (decide (a_ > 3))) = false -> ((a_ == 2) = true -> Calls Tryz.prog 112 #[.pointer (some p), .agg #[.int .i64 a_2, .int .i64 a_3, .string a_4, .int .i64 a_5, a_6.v, .int .i64 a_7]] w1 fun e1 w3 => e1 = (.returned (.tuple #[])) /\
    Same [k0] w1 w3 /\
    ∀ w4 : World, Only [] w3 w4 -> ∃ J0 : Nat -> Prop, J0 k0 /\
    ∃ p0 : Addr, SlAt l0 a_ 1 p0 /\
    J0 p0.block /\
    ∃ s0 : ByteArray, Cells w4 p0 [.string s0] /\
    Calls Tryz.prog 32 #[.pointer (some p), .string a_1] w4 fun e2 w5 => ∃ s1 : ByteArray, e2 = (.returned (.string s1)) /\
     Same [k0] w4 w5 /\
     Keeps J0 w4 w5 /\
     ∃ l1 : Sl, ∃ w6 : World, ((Instr.buildSlice 57 2 #[.mk 0 (.string s0), .mk 1 (.string s1)]).run Tryz.prog w5) = (.ok l1.v w6) /\
     Same [k0] w5 w6 /\
     Keeps J0 w5 w6 /\
     Calls Tryz.prog 62 #[l1.v] w6 fun e3 w7 => ∃ s2 : ByteArray, e3 = (.returned (.string s2)) /\
      Same [k0] w6 w7 /\
      Keeps J0 w6 w7 /\
      ((s2.size : Int) + 1) <= 9223372036854775807 /\
      R (.string (s2 ++ (ByteArray.mk #[59]))) w7) /\
  ((a_ == 2) = false -> ∀ w8 : World, Only [] w1 w8 -> ∃ J1 : Nat -> Prop, J1 k0 /\
  ∃ p1 : Addr, SlAt l0 a_ 1 p1 /\
  J1 p1.block /\
  ∃ s3 : ByteArray, Cells w8 p1 [.string s3] /\
  J1 k0 /\
  Calls Tryz.prog 32 #[.pointer (some p), .string a_1] w8 fun e4 w9 => ∃ s4 : ByteArray, e4 = (.returned (.string s4)) /\
   Same [k0] w8 w9 /\
   Keeps J1 w8 w9 /\
   Calls Tryz.prog 111 #[.pointer (some p), .agg #[.int .i64 a_2, .int .i64 a_3, .string a_4, .int .i64 a_5, a_6.v, .int .i64 a_7]] w9 fun e5 w10 => ∃ s5 : ByteArray, e5 = (.returned (.string s5)) /\
    Same [k0] w9 w10 /\
    Keeps J1 w9 w10 /\
    ∃ l2 : Sl, ∃ w11 : World, ((Instr.buildSlice 57 4 #[.mk 0 (.string s3), .mk 1 (.string s4), .mk 2 (.string (ByteArray.mk #[61])), .mk 3 (.string s5)]).run Tryz.prog w10) = (.ok l2.v w11) /\
    Same [k0] w10 w11 /\
    Keeps J1 w10 w11 /\
    Calls Tryz.prog 62 #[l2.v] w11 fun e6 w12 => ∃ s6 : ByteArray, e6 = (.returned (.string s6)) /\
     Same [k0] w11 w12 /\
     Keeps J1 w11 w12 /\
     ((s6.size : Int) + 1) <= 9223372036854775807 /\
     R (.string (s6 ++ (ByteArray.mk #[59]))) w12))
theorem v46w (p : Addr) (a_ : Int) (a_1 : ByteArray) (a_2 a_3 : Int) (a_4 : ByteArray) (a_5 : Int) (a_6 : Sl) (a_7 a_8 : Int) (R : Value -> World -> Prop) (w : World) (h : v46v p a_ a_1 a_2 a_3 a_4 a_5 a_6 a_7 a_8 R w) : Cr 110 #[.pointer (some p), .agg #[.int .i64 a_, .string a_1, .int .i64 a_2, .int .i64 a_3, .string a_4, .int .i64 a_5, a_6.v, .int .i64 a_7, .int .i64 a_8]] w R :=
 fB (an := .s .o (.s .o (.s (.s .o (.s (.s .o (.s .o .o)) .o)) (.s (.s .o (.s (.s .o (.s .o .o)) .o)) (.s .o .o))))) (args := [.ad p, .agg (ofL [.int .i64 a_, .str a_1, .int .i64 a_2, .int .i64 a_3, .str a_4, .int .i64 a_5, .sl a_6, .int .i64 a_7, .int .i64 a_8])]) h
def v47v (p : Addr) (x x1 : Int) (x2 : ByteArray) (x3 : Int) (x4 : Sl) (x5 : Int) (R : Value -> World -> Prop) (w : World) : Prop :=
  ∀ k0 : Nat, ∀ w0 : World, w.heap.size <= k0 -> k0 < w0.heap.size -> Only [] w w0 -> Calls Tryz.prog 30 #[.pointer (some p), .bool (((((x == 0) && (x1 == 0)) && (x2.toList == ((ByteArray.mk #[]).toList))) && (x3 == 0)) && ((x4.n : Int) == 0))] w0 fun e0 w1 => e0 = (.returned (.tuple #[])) /\
   Same [k0] w0 w1 /\
   R (.tuple #[]) w1
theorem v47w (p : Addr) (x x1 : Int) (x2 : ByteArray) (x3 : Int) (x4 : Sl) (x5 : Int) (R : Value -> World -> Prop) (w : World) (h : v47v p x x1 x2 x3 x4 x5 R w) : Cr 112 #[.pointer (some p), .agg #[.int .i64 x, .int .i64 x1, .string x2, .int .i64 x3, x4.v, .int .i64 x5]] w R :=
 fB (an := .s .o .o) (args := [.ad p, .agg (ofL [.int .i64 x, .int .i64 x1, .str x2, .int .i64 x3, .sl x4, .int .i64 x5])]) h
def v51v (p : Addr) (x x1 : Int) (x2 : ByteArray) (x3 : Int) (x4 : Sl) (x5 : Int) (R : Value -> World -> Prop) (w : World) : Prop :=
  ∀ k0 : Nat, ∀ w0 : World, w.heap.size <= k0 -> k0 < w0.heap.size -> Only [] w w0 -> Calls Tryz.prog 147 #[.agg #[.int .i64 x, .int .i64 x1, .string x2, .int .i64 x3, x4.v, .int .i64 x5]] w0 fun e0 w1 => ∃ s0 : ByteArray, e0 = (.returned (.string s0)) /\
   Same [k0] w0 w1 /\
   Calls Tryz.prog 30 #[.pointer (some p), .bool (!(s0.toList == ((ByteArray.mk #[]).toList)))] w1 fun e1 w2 => e1 = (.returned (.tuple #[])) /\
    Same [k0] w1 w2 /\
    R (.string s0) w2
theorem v51w (p : Addr) (x x1 : Int) (x2 : ByteArray) (x3 : Int) (x4 : Sl) (x5 : Int) (R : Value -> World -> Prop) (w : World) (h : v51v p x x1 x2 x3 x4 x5 R w) : Cr 111 #[.pointer (some p), .agg #[.int .i64 x, .int .i64 x1, .string x2, .int .i64 x3, x4.v, .int .i64 x5]] w R :=
 fB (an := .s .o (.s .o (.s .o (.s .o .o)))) (args := [.ad p, .agg (ofL [.int .i64 x, .int .i64 x1, .str x2, .int .i64 x3, .sl x4, .int .i64 x5])]) h
def v6v (x x1 : Int) (x2 : ByteArray) (x3 : Int) (x4 : Sl) (x5 : Int) (R : Value -> World -> Prop) (w : World) : Prop :=
  ∀ k0 : Nat, ∀ w0 : World, w.heap.size <= k0 -> k0 < w0.heap.size -> Only [] w w0 -> Calls Tryz.prog 173 #[.agg #[.int .i64 x, .int .i64 x1, .string x2, .int .i64 x3, x4.v, .int .i64 x5]] w0 fun e0 w1 => ∃ b0 : Bool, e0 = (.returned (.bool b0)) /\
   Same [k0] w0 w1 /\
   ((!b0) = true -> R (.string (ByteArray.mk #[])) w1) /\
   ((!b0) = false -> Calls Tryz.prog 174 #[] w1 fun e1 w2 => ∃ l0 : Sl, e1 = (.returned l0.v) /\
    Same [k0] w1 w2 /\
    ∀ k1 : Nat, ∀ w3 : World, w2.heap.size <= k1 -> k1 < w3.heap.size -> Only [] w2 w3 -> Blk w3 k1 227 [.pointer none, Sl.nil.v, l0.v] -> Calls Tryz.prog 175 #[.pointer (some ⟨k1, 0, none⟩), .agg #[.int .i64 x, .int .i64 x1, .string x2, .int .i64 x3, x4.v, .int .i64 x5], .bool false] w3 fun e2 w4 => e2 = (.returned (.tuple #[])) /\
     Same [k0] w3 w4 /\
     ∃ q0 : Option Addr, ∃ l1 l2 : Sl, Blk w4 k1 227 [.pointer q0, l1.v, l2.v] /\
     Calls Tryz.prog 36 #[.pointer (some ⟨k1, 0, none⟩)] w4 fun e3 w5 => ∃ s0 : ByteArray, e3 = (.returned (.string s0)) /\
      Same [k0] w4 w5 /\
      ∃ q1 : Option Addr, ∃ l3 l4 : Sl, Blk w5 k1 227 [.pointer q1, l3.v, l4.v] /\
      Calls Tryz.prog 176 #[.string s0] w5 fun e4 w6 => ∃ i0 i1 : Int, ∃ s1 : ByteArray, ∃ i2 : Int, ∃ l5 : Sl, ∃ i3 i4 i5 : Int, e4 = (.returned (.tuple #[.agg #[.int .i64 i0, .int .i64 i1, .string s1, .int .i64 i2, l5.v, .int .i64 i3], .agg #[.int .i64 i4, .int .i64 i5]])) /\
       Same [k0] w5 w6 /\
       ∃ q2 : Option Addr, ∃ l6 l7 : Sl, Blk w6 k1 227 [.pointer q2, l6.v, l7.v] /\
       ((i4 != 0) = true -> ∀ k2 k3 : Nat, ∀ w7 : World, w6.heap.size <= k2 -> k2 < w7.heap.size -> w6.heap.size <= k3 -> k3 < w7.heap.size -> Only [] w6 w7 -> Blk w7 k1 227 [.pointer q2, l6.v, l7.v] -> R (.string (ByteArray.mk #[])) w7) /\
       ((i4 != 0) = false -> ∀ k4 k5 : Nat, ∀ w8 : World, w6.heap.size <= k4 -> k4 < w8.heap.size -> w6.heap.size <= k5 -> k5 < w8.heap.size -> Only [] w6 w8 -> Blk w8 k1 227 [.pointer q2, l6.v, l7.v] -> Calls Tryz.prog 36 #[.pointer (some ⟨k1, 0, none⟩)] w8 fun e5 w9 => ∃ s2 : ByteArray, e5 = (.returned (.string s2)) /\
        Same [k0, k4, k5] w8 w9 /\
        ∃ q3 : Option Addr, ∃ l8 l9 : Sl, Blk w9 k1 227 [.pointer q3, l8.v, l9.v] /\
        R (.string s2) w9))
theorem v6w (x x1 : Int) (x2 : ByteArray) (x3 : Int) (x4 : Sl) (x5 : Int) (R : Value -> World -> Prop) (w : World) (h : v6v x x1 x2 x3 x4 x5 R w) : Cr 147 #[.agg #[.int .i64 x, .int .i64 x1, .string x2, .int .i64 x3, x4.v, .int .i64 x5]] w R :=
 fB (an := .s .o (.s (.s .o (.s (.s .o .o) .o)) (.s .o (.s .o (.s (.s .o (.s .o (.s (.s .o .o) .o))) (.s .o .o)))))) (args := [.agg (ofL [.int .i64 x, .int .i64 x1, .str x2, .int .i64 x3, .sl x4, .int .i64 x5])]) h
def v24v (x x1 : Int) (x2 : ByteArray) (x3 : Int) (x4 : Sl) (x5 : Int) (R : Value -> World -> Prop) (w : World) : Prop :=
  ∀ k0 k1 : Nat, ∀ w0 : World, w.heap.size <= k0 -> k0 < w0.heap.size -> w.heap.size <= k1 -> k1 < w0.heap.size -> Only [] w w0 -> ∃ J0 : Int -> Int -> Int -> ByteArray -> Int -> Sl -> Int -> World -> Prop, (∀ i0 i1 i2 : Int, ∀ s0 : ByteArray, ∀ i3 : Int, ∀ l0 : Sl, ∀ i4 : Int, ∀ w1 : World, J0 i0 i1 i2 s0 i3 l0 i4 w1 -> ∃ J1 : Bool -> World -> Prop, (∀ b0 : Bool, ∀ w2 : World, J1 b0 w2 -> R (.bool b0) w2) /\
   (((((x1 == i2) && (x2.toList == s0.toList)) && (x3 == i3)) && ((x4.n : Int) == i0)) = true -> Calls Tryz.prog 201 #[x4.v, .func (.func 202) #[] #[]] w1 fun e0 w3 => ∃ b1 : Bool, e0 = (.returned (.bool b1)) /\
     Same [k0, k1] w1 w3 /\
     J1 (!b1) w3) /\
   (((((x1 == i2) && (x2.toList == s0.toList)) && (x3 == i3)) && ((x4.n : Int) == i0)) = false -> J1 false w1)) /\
  ((x == 1) = true -> ∀ w4 : World, Only [k1] w0 w4 -> J0 0 x (if 0 > x1 then 0 else x1) (ByteArray.mk #[]) 0 Sl.nil x5 w4) /\
  ((x == 1) = false -> ∃ J2 : Bool -> World -> Prop, (∀ b2 : Bool, ∀ w5 : World, J2 b2 w5 -> (b2 = true -> Calls Tryz.prog 63 #[.string x2] w5 fun e1 w6 => ∃ b3 : Bool, e1 = (.returned (.bool b3)) /\
     Same [k0, k1] w5 w6 /\
     ((!b3) = true -> R (.bool false) w6) /\
     ((!b3) = false -> ∀ w7 : World, Only [k1] w6 w7 -> J0 0 x 0 x2 0 Sl.nil x5 w7)) /\
   (b2 = false -> ((x == 4) = true -> ((x3 == 15) = true -> ∀ w8 : World, Only [k1] w5 w8 -> J0 1 x 0 (ByteArray.mk #[]) 15 Sl.nil x5 w8) /\
    ((x3 == 15) = false -> ∀ w9 : World, Only [k1] w5 w9 -> J0 1 x 0 (ByteArray.mk #[]) 14 Sl.nil x5 w9)) /\
   ((x == 4) = false -> ((x == 5) = true -> Calls Tryz.prog 200 #[.int .i64 x3] w5 fun e2 w10 => ∃ i5 : Int, e2 = (.returned (.int .i64 i5)) /\
     Same [k0, k1] w5 w10 /\
     ((i5 == 6) = true -> R (.bool false) w10) /\
     ((i5 == 6) = false -> ∀ w11 : World, Only [k1] w10 w11 -> J0 2 x 0 (ByteArray.mk #[]) x3 Sl.nil x5 w11)) /\
   ((x == 5) = false -> R (.bool false) w5)))) /\
  ((x == 2) = true -> J2 (x == 2) w0) /\
  ((x == 2) = false -> J2 (x == 3) w0))
theorem v24w (x x1 : Int) (x2 : ByteArray) (x3 : Int) (x4 : Sl) (x5 : Int) (R : Value -> World -> Prop) (w : World) (h : v24v x x1 x2 x3 x4 x5 R w) : Cr 173 #[.agg #[.int .i64 x, .int .i64 x1, .string x2, .int .i64 x3, x4.v, .int .i64 x5]] w R :=
 fB (an := .s .o (.s .o (.s .o (.j [1, 3] [.s 4 (.int .i64), .b 3 [.int .i64, .int .i64, .str, .int .i64, .sl, .int .i64]] (.s .o (.s .o (.s .o (.j [1, 3, 4, 11] [.s 18 .bool] (.s .o (.s .o .o)) (.s (.s (.s .o (.s (.s .o .o) .o)) .o) (.s .o (.s (.s .o (.s .o (.s .o .o))) (.s .o (.s (.s (.s .o (.s (.s .o .o) .o)) .o) (.s .o .o)))))))))) (.s (.j [1, 3] [.s 2 .bool] .o .o) .o))))) (args := [.agg (ofL [.int .i64 x, .int .i64 x1, .str x2, .int .i64 x3, .sl x4, .int .i64 x5])]) h
def v74v (s : Sl) (f : OV) (R : Value -> World -> Prop) (w : World) : Prop :=
  Calls Tryz.prog 218 #[s.v, f.v] w fun e0 w0 => ∃ i0 : Int, e0 = (.returned (.int .i64 i0)) /\
   R (.bool (decide (i0 >= 0))) w0
theorem v74w (s : Sl) (f : OV) (R : Value -> World -> Prop) (w : World) (h : v74v s f R w) : Cr 201 #[s.v, f.v] w R :=
 fB (an := .s .o (.s .o .o)) (args := [.sl s, .raw f]) h
def v79v (s : Sl) (f : OV) (R : Value -> World -> Prop) (w : World) : Prop :=
  ∃ J0 : Nat -> Int -> World -> Prop, ∃ k0 : Nat, J0 k0 0 w /\
  ∀ k1 : Nat, ∀ i0 : Int, ∀ w0 : World, J0 k1 i0 w0 -> ((decide (i0 < (s.n : Int))) = true -> ∃ p0 : Addr, SlAt s i0 6 p0 /\
   ∃ i1 i2 : Int, ∃ s0 : ByteArray, ∃ i3 : Int, ∃ l0 : Sl, ∃ i4 : Int, Cells w0 p0 [.int .i64 i1, .int .i64 i2, .string s0, .int .i64 i3, l0.v, .int .i64 i4] /\
   ∃ k2 : Nat, ∃ z0 : List Value, ∃ z1 : List Value, f.v = (.func (.func k2) z0.toArray z1.toArray) /\
   (∀ x0 : Array Value, ∀ w1 : World, ((callFunc k2 x0).run Tryz.prog w1) = (.ok (.enter k2 x0) w1)) /\
   Calls Tryz.prog k2 ((cat (cat z0 [.agg #[.int .i64 i1, .int .i64 i2, .string s0, .int .i64 i3, l0.v, .int .i64 i4]]) z1).toArray) w0 fun e0 w2 => ∃ b0 : Bool, e0 = (.returned (.bool b0)) /\
    (b0 = true -> R (.int .i64 i0) w2) /\
    (b0 = false -> ∃ k3 : Nat, k3 < k1 /\
    J0 k3 (IntKind.wrap .i64 (i0 + 1)) w2)) /\
  ((decide (i0 < (s.n : Int))) = false -> R (.int .i64 (-1)) w0)
theorem v79w (s : Sl) (f : OV) (R : Value -> World -> Prop) (w : World) (h : v79v s f R w) : Cr 218 #[s.v, f.v] w R :=
 fB (an := .s .o (.s (.s .o (.j [0, 1, 7] [.s 8 (.int .i64)] (.s .o (.s (.s .o .o) (.s (.s .o (.s .o (.s (.s .o .o) .o))) .o))) .o)) (.s .o .o))) (args := [.sl s, .raw f]) h
def v23v (s s1 : Int) (s2 : ByteArray) (s3 : Int) (s4 : Sl) (s5 : Int) (R : Value -> World -> Prop) (w : World) : Prop :=
  ∀ k0 : Nat, ∀ w0 : World, w.heap.size <= k0 -> k0 < w0.heap.size -> Only [] w w0 -> Calls Tryz.prog 173 #[.agg #[.int .i64 s, .int .i64 s1, .string s2, .int .i64 s3, s4.v, .int .i64 s5]] w0 fun e0 w1 => ∃ b0 : Bool, e0 = (.returned (.bool b0)) /\
   Same [k0] w0 w1 /\
   R (.bool (!b0)) w1
theorem v23w (s s1 : Int) (s2 : ByteArray) (s3 : Int) (s4 : Sl) (s5 : Int) (R : Value -> World -> Prop) (w : World) (h : v23v s s1 s2 s3 s4 s5 R w) : Cr 202 #[.agg #[.int .i64 s, .int .i64 s1, .string s2, .int .i64 s3, s4.v, .int .i64 s5]] w R :=
 fB (an := .s .o (.s .o .o)) (args := [.agg (ofL [.int .i64 s, .int .i64 s1, .str s2, .int .i64 s3, .sl s4, .int .i64 s5])]) h
def v15v (p : Addr) (x x1 : Int) (x2 : ByteArray) (x3 : Int) (x4 : Sl) (x5 : Int) (wrapped : Bool) (R : Value -> World -> Prop) (w : World) : Prop :=
  ∀ k0 : Nat, ∀ w0 : World, w.heap.size <= k0 -> k0 < w0.heap.size -> Only [] w w0 -> Calls Tryz.prog 69 #[.pointer (some (p.add 0))] w0 fun e0 w1 => ∃ i0 : Int, e0 = (.returned (.int .i64 i0)) /\
   Same [k0] w0 w1 /\
   ((decide (i0 > 16384)) = true -> R (.tuple #[]) w1) /\
   ((decide (i0 > 16384)) = false -> (wrapped = true -> Calls Tryz.prog 203 #[.pointer (some (p.add 0)), .int .u8 40] w1 fun e1 w2 => ∃ v0 : OV, e1 = (.returned v0.v) /\
     Same [k0] w1 w2 /\
     ((x == 1) = true -> ∀ w3 : World, Only [] w2 w3 -> Calls Tryz.prog 33 #[.int .i64 x1] w3 fun e2 w4 => ∃ s0 : ByteArray, e2 = (.returned (.string s0)) /\
       Same [k0] w3 w4 /\
       Calls Tryz.prog 60 #[.pointer (some (p.add 0)), .string s0] w4 fun e3 w5 => ∃ i1 : Int, ∃ v1 : OV, e3 = (.returned (.tuple #[.int .i64 i1, v1.v])) /\
        Same [k0] w4 w5 /\
        CallsR Tryz.prog 203 #[.pointer (some (p.add 0)), .int .u8 41] w5 (fun x0 w6 => R (.tuple #[]) w6)) /\
     ((x == 1) = false -> ((x == 2) = true -> ∀ w7 : World, Only [] w2 w7 -> Calls Tryz.prog 60 #[.pointer (some (p.add 0)), .string x2] w7 fun e4 w8 => ∃ i2 : Int, ∃ v2 : OV, e4 = (.returned (.tuple #[.int .i64 i2, v2.v])) /\
       Same [k0] w7 w8 /\
       CallsR Tryz.prog 203 #[.pointer (some (p.add 0)), .int .u8 41] w8 (fun x1 w9 => R (.tuple #[]) w9)) /\
     ((x == 2) = false -> ((x == 3) = true -> (3 + (x2.size : Int)) <= 9223372036854775807 /\
      ((((ByteArray.mk #[105, 110, 40]) ++ x2).size : Int) + 1) <= 9223372036854775807 /\
      ∀ w10 : World, Only [] w2 w10 -> Calls Tryz.prog 60 #[.pointer (some (p.add 0)), .string (((ByteArray.mk #[105, 110, 40]) ++ x2) ++ (ByteArray.mk #[41]))] w10 fun e5 w11 => ∃ i3 : Int, ∃ v3 : OV, e5 = (.returned (.tuple #[.int .i64 i3, v3.v])) /\
       Same [k0] w10 w11 /\
       CallsR Tryz.prog 203 #[.pointer (some (p.add 0)), .int .u8 41] w11 (fun x2 w12 => R (.tuple #[]) w12)) /\
     ((x == 3) = false -> ((x == 4) = true -> ∀ w13 : World, Only [] w2 w13 -> ∃ l0 : Sl, Cells w13 (p.add 2) [l0.v] /\
      ∃ p0 : Addr, SlAt l0 x3 1 p0 /\
      ∃ s1 : ByteArray, Cells w13 p0 [.string s1] /\
      Calls Tryz.prog 60 #[.pointer (some (p.add 0)), .string s1] w13 fun e6 w14 => ∃ i4 : Int, ∃ v4 : OV, e6 = (.returned (.tuple #[.int .i64 i4, v4.v])) /\
       Same [k0] w13 w14 /\
       ∀ w15 : World, Only [] w14 w15 -> ∃ J0 : Nat -> Prop, J0 k0 /\
       ∃ p1 : Addr, SlAt x4 0 6 p1 /\
       J0 p1.block /\
       ∃ i5 i6 : Int, ∃ s2 : ByteArray, ∃ i7 : Int, ∃ l1 : Sl, ∃ i8 : Int, Cells w15 p1 [.int .i64 i5, .int .i64 i6, .string s2, .int .i64 i7, l1.v, .int .i64 i8] /\
       ∃ p2 : Addr, SlAt x4 0 6 p2 /\
       ∃ i9 i10 : Int, ∃ s3 : ByteArray, ∃ i11 : Int, ∃ l2 : Sl, ∃ i12 : Int, Cells w15 p2 [.int .i64 i9, .int .i64 i10, .string s3, .int .i64 i11, l2.v, .int .i64 i12] /\
       Calls Tryz.prog 204 #[.agg #[.int .i64 i9, .int .i64 i10, .string s3, .int .i64 i11, l2.v, .int .i64 i12]] w15 fun e7 w16 => ∃ i13 : Int, e7 = (.returned (.int .i64 i13)) /\
        Same [k0] w15 w16 /\
        Keeps J0 w15 w16 /\
        Calls Tryz.prog 175 #[.pointer (some p), .agg #[.int .i64 i5, .int .i64 i6, .string s2, .int .i64 i7, l1.v, .int .i64 i8], .bool (decide (i13 < 6))] w16 fun e8 w17 => e8 = (.returned (.tuple #[])) /\
         Same [k0] w16 w17 /\
         Keeps J0 w16 w17 /\
         CallsR Tryz.prog 203 #[.pointer (some (p.add 0)), .int .u8 41] w17 (fun x3 w18 => R (.tuple #[]) w18)) /\
     ((x == 4) = false -> Calls Tryz.prog 204 #[.agg #[.int .i64 x, .int .i64 x1, .string x2, .int .i64 x3, x4.v, .int .i64 x5]] w2 fun e9 w19 => ∃ i14 : Int, e9 = (.returned (.int .i64 i14)) /\
      Same [k0] w2 w19 /\
      ∀ w20 : World, Only [] w19 w20 -> ∃ J1 : Nat -> Prop, J1 k0 /\
      ∃ p3 : Addr, SlAt x4 0 6 p3 /\
      J1 p3.block /\
      ∃ i15 i16 : Int, ∃ s4 : ByteArray, ∃ i17 : Int, ∃ l3 : Sl, ∃ i18 : Int, Cells w20 p3 [.int .i64 i15, .int .i64 i16, .string s4, .int .i64 i17, l3.v, .int .i64 i18] /\
      ∃ p4 : Addr, SlAt x4 0 6 p4 /\
      ∃ i19 i20 : Int, ∃ s5 : ByteArray, ∃ i21 : Int, ∃ l4 : Sl, ∃ i22 : Int, Cells w20 p4 [.int .i64 i19, .int .i64 i20, .string s5, .int .i64 i21, l4.v, .int .i64 i22] /\
      Calls Tryz.prog 204 #[.agg #[.int .i64 i19, .int .i64 i20, .string s5, .int .i64 i21, l4.v, .int .i64 i22]] w20 fun e10 w21 => ∃ i23 : Int, e10 = (.returned (.int .i64 i23)) /\
       Same [k0] w20 w21 /\
       Keeps J1 w20 w21 /\
       Calls Tryz.prog 175 #[.pointer (some p), .agg #[.int .i64 i15, .int .i64 i16, .string s4, .int .i64 i17, l3.v, .int .i64 i18], .bool (decide (i23 < i14))] w21 fun e11 w22 => e11 = (.returned (.tuple #[])) /\
        Same [k0] w21 w22 /\
        Keeps J1 w21 w22 /\
        ∀ w23 : World, Only [] w22 w23 -> ∃ l5 : Sl, Cells w23 (p.add 2) [l5.v] /\
        ∃ p5 : Addr, SlAt l5 x3 1 p5 /\
        ∃ s6 : ByteArray, Cells w23 p5 [.string s6] /\
        (1 + (s6.size : Int)) <= 9223372036854775807 /\
        ((((ByteArray.mk #[32]) ++ s6).size : Int) + 1) <= 9223372036854775807 /\
        Calls Tryz.prog 60 #[.pointer (some (p.add 0)), .string (((ByteArray.mk #[32]) ++ s6) ++ (ByteArray.mk #[32]))] w23 fun e12 w24 => ∃ i24 : Int, ∃ v5 : OV, e12 = (.returned (.tuple #[.int .i64 i24, v5.v])) /\
         Same [k0] w23 w24 /\
         ∀ w25 : World, Only [] w24 w25 -> ∃ J2 : Nat -> Prop, J2 k0 /\
         ∃ p6 : Addr, SlAt x4 1 6 p6 /\
         J2 p6.block /\
         ∃ i25 i26 : Int, ∃ s7 : ByteArray, ∃ i27 : Int, ∃ l6 : Sl, ∃ i28 : Int, Cells w25 p6 [.int .i64 i25, .int .i64 i26, .string s7, .int .i64 i27, l6.v, .int .i64 i28] /\
         ∃ p7 : Addr, SlAt x4 1 6 p7 /\
         ∃ i29 i30 : Int, ∃ s8 : ByteArray, ∃ i31 : Int, ∃ l7 : Sl, ∃ i32 : Int, Cells w25 p7 [.int .i64 i29, .int .i64 i30, .string s8, .int .i64 i31, l7.v, .int .i64 i32] /\
         Calls Tryz.prog 204 #[.agg #[.int .i64 i29, .int .i64 i30, .string s8, .int .i64 i31, l7.v, .int .i64 i32]] w25 fun e13 w26 => ∃ i33 : Int, e13 = (.returned (.int .i64 i33)) /\
          Same [k0] w25 w26 /\
          Keeps J2 w25 w26 /\
          Calls Tryz.prog 175 #[.pointer (some p), .agg #[.int .i64 i25, .int .i64 i26, .string s7, .int .i64 i27, l6.v, .int .i64 i28], .bool (decide (i33 <= i14))] w26 fun e14 w27 => e14 = (.returned (.tuple #[])) /\
           Same [k0] w26 w27 /\
           Keeps J2 w26 w27 /\
           CallsR Tryz.prog 203 #[.pointer (some (p.add 0)), .int .u8 41] w27 (fun x4 w28 => R (.tuple #[]) w28)))))) /\
   (wrapped = false -> ((x == 1) = true -> ∀ w29 : World, Only [] w1 w29 -> Calls Tryz.prog 33 #[.int .i64 x1] w29 fun e15 w30 => ∃ s9 : ByteArray, e15 = (.returned (.string s9)) /\
     Same [k0] w29 w30 /\
     Calls Tryz.prog 60 #[.pointer (some (p.add 0)), .string s9] w30 fun e16 w31 => ∃ i34 : Int, ∃ v6 : OV, e16 = (.returned (.tuple #[.int .i64 i34, v6.v])) /\
      Same [k0] w30 w31 /\
      R (.tuple #[]) w31) /\
   ((x == 1) = false -> ((x == 2) = true -> ∀ w32 : World, Only [] w1 w32 -> Calls Tryz.prog 60 #[.pointer (some (p.add 0)), .string x2] w32 fun e17 w33 => ∃ i35 : Int, ∃ v7 : OV, e17 = (.returned (.tuple #[.int .i64 i35, v7.v])) /\
     Same [k0] w32 w33 /\
     R (.tuple #[]) w33) /\
   ((x == 2) = false -> ((x == 3) = true -> (3 + (x2.size : Int)) <= 9223372036854775807 /\
    ((((ByteArray.mk #[105, 110, 40]) ++ x2).size : Int) + 1) <= 9223372036854775807 /\
    ∀ w34 : World, Only [] w1 w34 -> Calls Tryz.prog 60 #[.pointer (some (p.add 0)), .string (((ByteArray.mk #[105, 110, 40]) ++ x2) ++ (ByteArray.mk #[41]))] w34 fun e18 w35 => ∃ i36 : Int, ∃ v8 : OV, e18 = (.returned (.tuple #[.int .i64 i36, v8.v])) /\
     Same [k0] w34 w35 /\
     R (.tuple #[]) w35) /\
   ((x == 3) = false -> ((x == 4) = true -> ∀ w36 : World, Only [] w1 w36 -> ∃ l8 : Sl, Cells w36 (p.add 2) [l8.v] /\
    ∃ p8 : Addr, SlAt l8 x3 1 p8 /\
    ∃ s10 : ByteArray, Cells w36 p8 [.string s10] /\
    Calls Tryz.prog 60 #[.pointer (some (p.add 0)), .string s10] w36 fun e19 w37 => ∃ i37 : Int, ∃ v9 : OV, e19 = (.returned (.tuple #[.int .i64 i37, v9.v])) /\
     Same [k0] w36 w37 /\
     ∀ w38 : World, Only [] w37 w38 -> ∃ J3 : Nat -> Prop, J3 k0 /\
     ∃ p9 : Addr, SlAt x4 0 6 p9 /\
     J3 p9.block /\
     ∃ i38 i39 : Int, ∃ s11 : ByteArray, ∃ i40 : Int, ∃ l9 : Sl, ∃ i41 : Int, Cells w38 p9 [.int .i64 i38, .int .i64 i39, .string s11, .int .i64 i40, l9.v, .int .i64 i41] /\
     ∃ p10 : Addr, SlAt x4 0 6 p10 /\
     ∃ i42 i43 : Int, ∃ s12 : ByteArray, ∃ i44 : Int, ∃ l10 : Sl, ∃ i45 : Int, Cells w38 p10 [.int .i64 i42, .int .i64 i43, .string s12, .int .i64 i44, l10.v, .int .i64 i45] /\
     Calls Tryz.prog 204 #[.agg #[.int .i64 i42, .int .i64 i43, .string s12, .int .i64 i44, l10.v, .int .i64 i45]] w38 fun e20 w39 => ∃ i46 : Int, e20 = (.returned (.int .i64 i46)) /\
      Same [k0] w38 w39 /\
      Keeps J3 w38 w39 /\
      Calls Tryz.prog 175 #[.pointer (some p), .agg #[.int .i64 i38, .int .i64 i39, .string s11, .int .i64 i40, l9.v, .int .i64 i41], .bool (decide (i46 < 6))] w39 fun e21 w40 => e21 = (.returned (.tuple #[])) /\
       Same [k0] w39 w40 /\
       Keeps J3 w39 w40 /\
       R (.tuple #[]) w40) /\
   ((x == 4) = false -> Calls Tryz.prog 204 #[.agg #[.int .i64 x, .int .i64 x1, .string x2, .int .i64 x3, x4.v, .int .i64 x5]] w1 fun e22 w41 => ∃ i47 : Int, e22 = (.returned (.int .i64 i47)) /\
    Same [k0] w1 w41 /\
    ∀ w42 : World, Only [] w41 w42 -> ∃ J4 : Nat -> Prop, J4 k0 /\
    ∃ p11 : Addr, SlAt x4 0 6 p11 /\
    J4 p11.block /\
    ∃ i48 i49 : Int, ∃ s13 : ByteArray, ∃ i50 : Int, ∃ l11 : Sl, ∃ i51 : Int, Cells w42 p11 [.int .i64 i48, .int .i64 i49, .string s13, .int .i64 i50, l11.v, .int .i64 i51] /\
    ∃ p12 : Addr, SlAt x4 0 6 p12 /\
    ∃ i52 i53 : Int, ∃ s14 : ByteArray, ∃ i54 : Int, ∃ l12 : Sl, ∃ i55 : Int, Cells w42 p12 [.int .i64 i52, .int .i64 i53, .string s14, .int .i64 i54, l12.v, .int .i64 i55] /\
    Calls Tryz.prog 204 #[.agg #[.int .i64 i52, .int .i64 i53, .string s14, .int .i64 i54, l12.v, .int .i64 i55]] w42 fun e23 w43 => ∃ i56 : Int, e23 = (.returned (.int .i64 i56)) /\
     Same [k0] w42 w43 /\
     Keeps J4 w42 w43 /\
     Calls Tryz.prog 175 #[.pointer (some p), .agg #[.int .i64 i48, .int .i64 i49, .string s13, .int .i64 i50, l11.v, .int .i64 i51], .bool (decide (i56 < i47))] w43 fun e24 w44 => e24 = (.returned (.tuple #[])) /\
      Same [k0] w43 w44 /\
      Keeps J4 w43 w44 /\
      ∀ w45 : World, Only [] w44 w45 -> ∃ l13 : Sl, Cells w45 (p.add 2) [l13.v] /\
      ∃ p13 : Addr, SlAt l13 x3 1 p13 /\
      ∃ s15 : ByteArray, Cells w45 p13 [.string s15] /\
      (1 + (s15.size : Int)) <= 9223372036854775807 /\
      ((((ByteArray.mk #[32]) ++ s15).size : Int) + 1) <= 9223372036854775807 /\
      Calls Tryz.prog 60 #[.pointer (some (p.add 0)), .string (((ByteArray.mk #[32]) ++ s15) ++ (ByteArray.mk #[32]))] w45 fun e25 w46 => ∃ i57 : Int, ∃ v10 : OV, e25 = (.returned (.tuple #[.int .i64 i57, v10.v])) /\
       Same [k0] w45 w46 /\
       ∀ w47 : World, Only [] w46 w47 -> ∃ J5 : Nat -> Prop, J5 k0 /\
       ∃ p14 : Addr, SlAt x4 1 6 p14 /\
       J5 p14.block /\
       ∃ i58 i59 : Int, ∃ s16 : ByteArray, ∃ i60 : Int, ∃ l14 : Sl, ∃ i61 : Int, Cells w47 p14 [.int .i64 i58, .int .i64 i59, .string s16, .int .i64 i60, l14.v, .int .i64 i61] /\
       ∃ p15 : Addr, SlAt x4 1 6 p15 /\
       ∃ i62 i63 : Int, ∃ s17 : ByteArray, ∃ i64 : Int, ∃ l15 : Sl, ∃ i65 : Int, Cells w47 p15 [.int .i64 i62, .int .i64 i63, .string s17, .int .i64 i64, l15.v, .int .i64 i65] /\
       Calls Tryz.prog 204 #[.agg #[.int .i64 i62, .int .i64 i63, .string s17, .int .i64 i64, l15.v, .int .i64 i65]] w47 fun e26 w48 => ∃ i66 : Int, e26 = (.returned (.int .i64 i66)) /\
        Same [k0] w47 w48 /\
        Keeps J5 w47 w48 /\
        Calls Tryz.prog 175 #[.pointer (some p), .agg #[.int .i64 i58, .int .i64 i59, .string s16, .int .i64 i60, l14.v, .int .i64 i61], .bool (decide (i66 <= i47))] w48 fun e27 w49 => e27 = (.returned (.tuple #[])) /\
         Same [k0] w48 w49 /\
         Keeps J5 w48 w49 /\
         R (.tuple #[]) w49))))))
theorem v15w (p : Addr) (x x1 : Int) (x2 : ByteArray) (x3 : Int) (x4 : Sl) (x5 : Int) (wrapped : Bool) (R : Value -> World -> Prop) (w : World) (h : v15v p x x1 x2 x3 x4 x5 wrapped R w) : Cr 175 #[.pointer (some p), .agg #[.int .i64 x, .int .i64 x1, .string x2, .int .i64 x3, x4.v, .int .i64 x5], .bool wrapped] w R :=
 fB (an := .s .o (.s (.s .o (.s .o .o)) (.s (.s .o (.s (.s .o .o) .o)) (.s .o (.s .o (.s .o (.s .o (.s .o (.s .o (.s .o (.s .o (.s (.s .o .o) (.s .o (.s .o (.s .o .o))))))))))))))) (args := [.ad p, .agg (ofL [.int .i64 x, .int .i64 x1, .str x2, .int .i64 x3, .sl x4, .int .i64 x5]), .bt wrapped]) h
def v87v (bb : Addr) (c : Int) (R : Value -> World -> Prop) (w : World) : Prop :=
  Calls Tryz.prog 99 #[.pointer (some bb)] w fun e0 w0 => e0 = (.returned (.tuple #[])) /\
   ∃ l0 : Sl, Cells w0 (bb.add 1) [l0.v] /\
   ∃ l1 : Sl, ∃ w1 : World, ((Instr.buildSlice 64 1 #[.mk 0 (.int .u8 c)]).run Tryz.prog w0) = (.ok l1.v w1) /\
   ∃ l2 : Sl, ∃ w2 : World, ((Builtin.append_ #[64, 64] 64 #[l0.v, l1.v]).run Tryz.prog w1) = (.ok l2.v w2) /\
   ∃ k0 k1 : Nat, ∃ z0 : List Value, ∃ k2 : Nat, (bb.add 1) = ⟨k0, k1, none⟩ /\
   Blk w2 k0 k2 z0 /\
   (k1 + 1) <= z0.length /\
   ∀ w3 : World, Only [k0] w2 w3 -> Blk w3 k0 k2 (splice z0 k1 [l2.v]) -> R .nilIface w3
theorem v87w (bb : Addr) (c : Int) (R : Value -> World -> Prop) (w : World) (h : v87v bb c R w) : Cr 203 #[.pointer (some bb), .int .u8 c] w R :=
 fB (an := .s .o (.s .o (.s .o (.s .o .o)))) (args := [.ad bb, .int .u8 c]) h
theorem strings_Builder_WriteByte_wpd (bb : Addr) (c : Int) (R : Value -> World -> Prop) (w : World) (h : v87v bb c R w) : CallsR Tryz.prog 203 #[.pointer (some bb), .int .u8 c] w R :=
 fd_by (an := .s .o (.s .o (.s .o (.s .o .o)))) (args := [.ad bb, .int .u8 c]) Tryz.checked.mixed (by kernel_rfl) (by kernel_rfl) h
def v13v (x x1 : Int) (x2 : ByteArray) (x3 : Int) (x4 : Sl) (x5 : Int) (R : Value -> World -> Prop) (w : World) : Prop :=
  ((x != 5) = true -> ∀ k0 : Nat, ∀ w0 : World, w.heap.size <= k0 -> k0 < w0.heap.size -> Only [] w w0 -> R (.int .i64 6) w0) /\
  ((x != 5) = false -> ∀ k1 : Nat, ∀ w1 : World, w.heap.size <= k1 -> k1 < w1.heap.size -> Only [] w w1 -> Calls Tryz.prog 200 #[.int .i64 x3] w1 fun e0 w2 => ∃ i0 : Int, e0 = (.returned (.int .i64 i0)) /\
   Same [k1] w1 w2 /\
   R (.int .i64 i0) w2)
theorem v13w (x x1 : Int) (x2 : ByteArray) (x3 : Int) (x4 : Sl) (x5 : Int) (R : Value -> World -> Prop) (w : World) (h : v13v x x1 x2 x3 x4 x5 R w) : Cr 204 #[.agg #[.int .i64 x, .int .i64 x1, .string x2, .int .i64 x3, x4.v, .int .i64 x5]] w R :=
 fB (an := .s .o (.s (.s .o (.s (.s .o .o) .o)) (.s .o .o))) (args := [.agg (ofL [.int .i64 x, .int .i64 x1, .str x2, .int .i64 x3, .sl x4, .int .i64 x5])]) h
def v86v (bb : Addr) (R : Value -> World -> Prop) (w : World) : Prop :=
 ∀ w0 : World, Only [] w w0 -> ∃ J0 : Nat -> Prop, ∃ l0 : Sl, Cells w0 (bb.add 1) [l0.v] /\
 J0 ((bb.add 1).block) /\
 ∃ l1 : Sl, Cells w0 (bb.add 1) [l1.v] /\
 ∃ q0 : Option Addr, ∃ w1 : World, ((Builtin.unsafeSliceData_ #[64] 123 #[l0.v]).run Tryz.prog w0) = (.ok (.pointer q0) w1) /\
 Keeps J0 w0 w1 /\
 ∃ s0 : ByteArray, ∃ w2 : World, ((Builtin.unsafeString_ #[123, 3] 9 #[.pointer q0, .int .i64 (l1.n : Int)]).run Tryz.prog w1) = (.ok (.string s0) w2) /\
 Keeps J0 w1 w2 /\
 R (.string s0) w2
theorem v86w (bb : Addr) (R : Value -> World -> Prop) (w : World) (h : v86v bb R w) : Cr 36 #[.pointer (some bb)] w R :=
 fB (an := .s .o (.s .o .o)) (args := [.ad bb]) h
def v5v (s : ByteArray) (R : Value -> World -> Prop) (w : World) : Prop :=
  ∀ k0 k1 : Nat, ∀ w0 : World, w.heap.size <= k0 -> k0 < w0.heap.size -> w.heap.size <= k1 -> k1 < w0.heap.size -> Only [] w w0 -> Calls Tryz.prog 37 #[.string s] w0 fun e0 w1 => ∃ l0 : Sl, ∃ i0 i1 : Int, e0 = (.returned (.tuple #[l0.v, .agg #[.int .i64 i0, .int .i64 i1]])) /\
   Same [k0, k1] w0 w1 /\
   ((i0 != 0) = true -> ∀ k2 : Nat, ∀ w2 : World, w1.heap.size <= k2 -> k2 < w2.heap.size -> Only [] w1 w2 -> k0 ≠ k1 -> k0 ≠ k2 -> k1 ≠ k2 -> ∃ J0 : Nat -> Prop, J0 k2 /\
    Out J0 k0 /\
    Out J0 k1 /\
    ∀ w3 : World, Only [k1, k0] w2 w3 -> R (.tuple #[.agg #[.int .i64 0, .int .i64 0, .string (ByteArray.mk #[]), .int .i64 0, Sl.nil.v, .int .i64 0], .agg #[.int .i64 i0, .int .i64 i1]]) w3) /\
   ((i0 != 0) = false -> ∀ k3 : Nat, ∀ w4 : World, w1.heap.size <= k3 -> k3 < w4.heap.size -> Only [] w1 w4 -> Calls Tryz.prog 181 #[l0.v, .int .i64 0] w4 fun e1 w5 => ∃ i2 i3 : Int, ∃ s0 : ByteArray, ∃ i4 : Int, ∃ l1 : Sl, ∃ i5 i6 i7 i8 : Int, e1 = (.returned (.tuple #[.agg #[.int .i64 i2, .int .i64 i3, .string s0, .int .i64 i4, l1.v, .int .i64 i5], .int .i64 i6, .agg #[.int .i64 i7, .int .i64 i8]])) /\
    Same [k0, k1, k3] w4 w5 /\
    ∀ k4 : Nat, ∀ w6 : World, w5.heap.size <= k4 -> k4 < w6.heap.size -> Only [k3] w5 w6 -> ∃ J1 : Int -> Int -> World -> Prop, (∀ i9 i10 : Int, ∀ w7 : World, J1 i9 i10 w7 -> ((i9 != 0) = true -> ∀ w8 : World, Only [] w7 w8 -> k0 ≠ k1 -> k0 ≠ k3 -> k0 ≠ k4 -> k1 ≠ k3 -> k1 ≠ k4 -> k3 ≠ k4 -> ∃ J2 : Nat -> Prop, J2 k3 /\
      Out J2 k0 /\
      Out J2 k1 /\
      ∀ w9 : World, Only [k1, k0] w8 w9 -> R (.tuple #[.agg #[.int .i64 0, .int .i64 0, .string (ByteArray.mk #[]), .int .i64 0, Sl.nil.v, .int .i64 0], .agg #[.int .i64 i9, .int .i64 i10]]) w9) /\
     ((i9 != 0) = false -> ∀ w10 : World, Only [] w7 w10 -> k0 ≠ k1 -> k0 ≠ k3 -> k0 ≠ k4 -> k1 ≠ k3 -> k1 ≠ k4 -> k3 ≠ k4 -> ∃ J3 : Nat -> Prop, J3 k3 /\
     Out J3 k0 /\
     Out J3 k1 /\
     ∀ w11 : World, Only [k1, k0] w10 w11 -> R (.tuple #[.agg #[.int .i64 i2, .int .i64 i3, .string s0, .int .i64 i4, l1.v, .int .i64 i5], .agg #[.int .i64 i9, .int .i64 i10]]) w11)) /\
    ∃ p0 : Addr, ((i7 == 0) = true -> SlAt l0 i6 4 p0) /\
    ∃ i11 : Int, ((i7 == 0) = true -> Cells w6 (p0.add 0) [.int .i64 i11]) /\
    (((i7 == 0) && (i11 != 5)) = true -> ∃ p1 : Addr, SlAt l0 i6 4 p1 /\
     ∃ i12 : Int, Cells w6 (p1.add 3) [.int .i64 i12] /\
     ∀ w12 : World, Only [k3] w6 w12 -> J1 4 i12 w12) /\
    (((i7 == 0) && (i11 != 5)) = false -> J1 i7 i8 w6))
theorem v5w (s : ByteArray) (R : Value -> World -> Prop) (w : World) (h : v5v s R w) : Cr 176 #[.string s] w R :=
 fB (an := .s .o (.s .o (.s (.s .o (.s (.s .o .o) .o)) (.s .o (.j [2, 3, 5, 6] [.b 5 [.int .i64, .int .i64]] (.s .o (.s .o .o)) (.s (.s .o (.s (.s .o .o) .o)) (.s .o .o))))))) (args := [.str s]) h
def v53v (p : Addr) (m : Int) (m1 : ByteArray) (m2 : Int) (m3 : Bool) (m4 m5 : Int) (m6 : ByteArray) (m7 : Int) (m8 : Sl) (m9 : Int) (m10 m11 : Sl) (m12 : Int) (R : Value -> World -> Prop) (w : World) : Prop :=
  ∀ k0 : Nat, ∀ w0 : World, w.heap.size <= k0 -> k0 < w0.heap.size -> Only [] w w0 -> ∃ J0 : ByteArray -> World -> Prop, (∀ s0 : ByteArray, ∀ w1 : World, J0 s0 w1 -> Calls Tryz.prog 30 #[.pointer (some p), .bool (((m1.toList == ((ByteArray.mk #[]).toList)) || (m == 1)) && ((m2 == 0) || (m == 3)))] w1 fun e0 w2 => e0 = (.returned (.tuple #[])) /\
    Same [k0] w1 w2 /\
    ∃ J1 : ByteArray -> World -> Prop, (∀ s1 : ByteArray, ∀ w3 : World, J1 s1 w3 -> ∃ J2 : Nat -> Int -> World -> Prop, ∃ k1 : Nat, J2 k1 0 w3 /\
     ∀ k2 : Nat, ∀ i0 : Int, ∀ w4 : World, J2 k2 i0 w4 -> ((decide (i0 < (m11.n : Int))) = true -> ∃ p0 : Addr, SlAt m11 i0 1 p0 /\
      ∃ s2 : ByteArray, Cells w4 p0 [.string s2] /\
      Calls Tryz.prog 32 #[.pointer (some p), .string s2] w4 fun e1 w5 => ∃ s3 : ByteArray, e1 = (.returned (.string s3)) /\
       Same [k0] w4 w5 /\
       ∃ k3 : Nat, k3 < k2 /\
       J2 k3 (IntKind.wrap .i64 (i0 + 1)) w5) /\
     ((decide (i0 < (m11.n : Int))) = false -> ∃ J3 : ByteArray -> World -> Prop, (∀ s4 : ByteArray, ∀ w6 : World, J3 s4 w6 -> Calls Tryz.prog 66 #[.pointer (some p), m10.v] w6 fun e2 w7 => ∃ s5 : ByteArray, e2 = (.returned (.string s5)) /\
       Same [k0] w6 w7 /\
       ∃ l0 : Sl, ∃ w8 : World, ((Instr.buildSlice 57 4 #[.mk 0 (.string s0), .mk 1 (.string s1), .mk 2 (.string s5), .mk 3 (.string s4)]).run Tryz.prog w7) = (.ok l0.v w8) /\
       Same [k0] w7 w8 /\
       Calls Tryz.prog 62 #[l0.v] w8 fun e3 w9 => ∃ s6 : ByteArray, e3 = (.returned (.string s6)) /\
        Same [k0] w8 w9 /\
        ((s6.size : Int) + 1) <= 9223372036854775807 /\
        R (.string (s6 ++ (ByteArray.mk #[59]))) w9) /\
     ((decide ((m11.n : Int) > 0)) = true -> Calls Tryz.prog 103 #[m11.v, .string (ByteArray.mk #[44, 32])] w4 fun e4 w10 => ∃ s7 : ByteArray, e4 = (.returned (.string s7)) /\
       Same [k0] w4 w10 /\
       (3 + (s7.size : Int)) <= 9223372036854775807 /\
       J3 ((ByteArray.mk #[45, 62, 32]) ++ s7) w10) /\
     ((decide ((m11.n : Int) > 0)) = false -> J3 (ByteArray.mk #[]) w4))) /\
    (m3 = true -> Calls Tryz.prog 111 #[.pointer (some p), .agg #[.int .i64 m4, .int .i64 m5, .string m6, .int .i64 m7, m8.v, .int .i64 m9]] w2 fun e5 w11 => ∃ s8 : ByteArray, e5 = (.returned (.string s8)) /\
      Same [k0] w2 w11 /\
      (1 + (s8.size : Int)) <= 9223372036854775807 /\
      ((((ByteArray.mk #[91]) ++ s8).size : Int) + 1) <= 9223372036854775807 /\
      J1 (((ByteArray.mk #[91]) ++ s8) ++ (ByteArray.mk #[93])) w11) /\
    (m3 = false -> Calls Tryz.prog 112 #[.pointer (some p), .agg #[.int .i64 m4, .int .i64 m5, .string m6, .int .i64 m7, m8.v, .int .i64 m9]] w2 fun e6 w12 => e6 = (.returned (.tuple #[])) /\
     Same [k0] w2 w12 /\
     J1 (ByteArray.mk #[]) w12)) /\
  ((m == 1) = true -> Calls Tryz.prog 32 #[.pointer (some p), .string m1] w0 fun e7 w13 => ∃ s9 : ByteArray, e7 = (.returned (.string s9)) /\
    Same [k0] w0 w13 /\
    ∃ l1 : Sl, ∃ w14 : World, ((Instr.buildSlice 57 2 #[.mk 0 (.string (ByteArray.mk #[111, 110])), .mk 1 (.string s9)]).run Tryz.prog w13) = (.ok l1.v w14) /\
    Same [k0] w13 w14 /\
    Calls Tryz.prog 62 #[l1.v] w14 fun e8 w15 => ∃ s10 : ByteArray, e8 = (.returned (.string s10)) /\
     Same [k0] w14 w15 /\
     J0 s10 w15) /\
  ((m == 1) = false -> ((m == 3) = true -> Calls Tryz.prog 30 #[.pointer (some p), .bool (decide (m2 >= 0))] w0 fun e9 w16 => e9 = (.returned (.tuple #[])) /\
    Same [k0] w0 w16 /\
    Calls Tryz.prog 33 #[.int .i64 m2] w16 fun e10 w17 => ∃ s11 : ByteArray, e10 = (.returned (.string s11)) /\
     Same [k0] w16 w17 /\
     ∃ l2 : Sl, ∃ w18 : World, ((Instr.buildSlice 57 2 #[.mk 0 (.string (ByteArray.mk #[97, 102, 116, 101, 114])), .mk 1 (.string s11)]).run Tryz.prog w17) = (.ok l2.v w18) /\
     Same [k0] w17 w18 /\
     Calls Tryz.prog 62 #[l2.v] w18 fun e11 w19 => ∃ s12 : ByteArray, e11 = (.returned (.string s12)) /\
      Same [k0] w18 w19 /\
      J0 s12 w19) /\
  ((m == 3) = false -> Calls Tryz.prog 30 #[.pointer (some p), .bool (m == 2)] w0 fun e12 w20 => e12 = (.returned (.tuple #[])) /\
   Same [k0] w0 w20 /\
   J0 (ByteArray.mk #[97, 108, 119, 97, 121, 115]) w20))
theorem v53w (p : Addr) (m : Int) (m1 : ByteArray) (m2 : Int) (m3 : Bool) (m4 m5 : Int) (m6 : ByteArray) (m7 : Int) (m8 : Sl) (m9 : Int) (m10 m11 : Sl) (m12 : Int) (R : Value -> World -> Prop) (w : World) (h : v53v p m m1 m2 m3 m4 m5 m6 m7 m8 m9 m10 m11 m12 R w) : Cr 67 #[.pointer (some p), .agg #[.int .i64 m, .string m1, .int .i64 m2, .bool m3, .int .i64 m4, .int .i64 m5, .string m6, .int .i64 m7, m8.v, .int .i64 m9, m10.v, m11.v, .int .i64 m12]] w R :=
 fB (an := .s .o (.s .o (.j [0, 3] [.s 5 .str] (.s .o (.s .o (.s .o (.s .o (.s (.s .o .o) .o))))) (.s .o (.s .o (.j [0, 3, 5, 7] [.s 6 .str] (.s .o (.s .o .o)) (.s (.s .o (.j [0, 3, 5, 6, 7, 70, 71] [.s 72 (.int .i64)] (.s .o (.s (.s .o .o) (.s (.s .o .o) .o))) .o)) (.j [0, 3, 5, 6] [.s 7 .str] (.s .o (.s .o .o)) (.s .o .o))))))))) (args := [.ad p, .agg (ofL [.int .i64 m, .str m1, .int .i64 m2, .bt m3, .int .i64 m4, .int .i64 m5, .str m6, .int .i64 m7, .sl m8, .int .i64 m9, .sl m10, .sl m11, .int .i64 m12])]) h
def v56v (p : Addr) (n_ : Int) (n_1 n_2 n_3 : ByteArray) (n_4 n_5 n_6 n_7 : Sl) (n_8 deep : Int) (R : Value -> World -> Prop) (w : World) : Prop :=
  ∀ k0 : Nat, ∀ w0 : World, w.heap.size <= k0 -> k0 < w0.heap.size -> Only [] w w0 -> ∃ b0 : Bool, Cells w0 (p.add 2) [.bool b0] /\
  ((b0 || (decide (deep >= 12))) = true -> Calls Tryz.prog 30 #[.pointer (some p), .bool false] w0 fun e0 w1 => e0 = (.returned (.tuple #[])) /\
    Same [k0] w0 w1 /\
    R (.tuple #[]) w1) /\
  ((b0 || (decide (deep >= 12))) = false -> ∃ l0 : Sl, ∃ w2 : World, ((Instr.buildSlice 57 5 #[.mk 0 (.string (ByteArray.mk #[])), .mk 1 (.string (ByteArray.mk #[115, 116, 97, 116, 101])), .mk 2 (.string (ByteArray.mk #[112, 97, 114, 97, 108, 108, 101, 108])), .mk 3 (.string (ByteArray.mk #[104, 105, 115, 116, 111, 114, 121])), .mk 4 (.string (ByteArray.mk #[100, 101, 101, 112]))]).run Tryz.prog w0) = (.ok l0.v w2) /\
  Same [k0] w0 w2 /\
  ∃ J0 : Bool -> World -> Prop, (∀ b1 : Bool, ∀ w3 : World, J0 b1 w3 -> (b1 = true -> Calls Tryz.prog 30 #[.pointer (some p), .bool (n_3.toList == ((ByteArray.mk #[]).toList))] w3 fun e1 w4 => e1 = (.returned (.tuple #[])) /\
     Same [k0] w3 w4 /\
     ∀ w5 : World, Only [] w4 w5 -> ∃ J1 : Nat -> Prop, J1 k0 /\
     ∃ p0 : Addr, SlAt l0 n_ 1 p0 /\
     J1 p0.block /\
     ∃ s0 : ByteArray, Cells w5 p0 [.string s0] /\
     Calls Tryz.prog 32 #[.pointer (some p), .string n_1] w5 fun e2 w6 => ∃ s1 : ByteArray, e2 = (.returned (.string s1)) /\
      Same [k0] w5 w6 /\
      Keeps J1 w5 w6 /\
      ∃ l1 : Sl, ∃ w7 : World, ((Instr.buildSlice 57 3 #[.mk 0 (.string s0), .mk 1 (.string s1), .mk 2 (.string (ByteArray.mk #[123]))]).run Tryz.prog w6) = (.ok l1.v w7) /\
      Same [k0] w6 w7 /\
      Keeps J1 w6 w7 /\
      Calls Tryz.prog 31 #[.pointer (some p), .int .i64 deep, l1.v] w7 fun e3 w8 => e3 = (.returned (.tuple #[])) /\
       Same [k0] w7 w8 /\
       Keeps J1 w7 w8 /\
       Calls Tryz.prog 34 #[.pointer (some p), .agg #[.int .i64 n_, .string n_1, .string n_2, .string n_3, n_4.v, n_5.v, n_6.v, n_7.v, .int .i64 n_8], .int .i64 (IntKind.wrap .i64 (deep + 1))] w8 fun e4 w9 => e4 = (.returned (.tuple #[])) /\
        Same [k0] w8 w9 /\
        ∃ l2 : Sl, ∃ w10 : World, ((Instr.buildSlice 57 1 #[.mk 0 (.string (ByteArray.mk #[125]))]).run Tryz.prog w9) = (.ok l2.v w10) /\
        Same [k0] w9 w10 /\
        Calls Tryz.prog 31 #[.pointer (some p), .int .i64 deep, l2.v] w10 fun e5 w11 => e5 = (.returned (.tuple #[])) /\
         Same [k0] w10 w11 /\
         R (.tuple #[]) w11) /\
   (b1 = false -> ∃ J2 : Bool -> World -> Prop, (∀ b2 : Bool, ∀ w12 : World, J2 b2 w12 -> (b2 = true -> Calls Tryz.prog 30 #[.pointer (some p), .bool ((n_2.toList == ((ByteArray.mk #[]).toList)) && ((IntKind.wrap .i64 ((IntKind.wrap .i64 ((IntKind.wrap .i64 ((n_4.n : Int) + (n_5.n : Int))) + (n_6.n : Int))) + (n_7.n : Int))) == 0))] w12 fun e6 w13 => e6 = (.returned (.tuple #[])) /\
      Same [k0] w12 w13 /\
      ∀ w14 : World, Only [] w13 w14 -> ∃ J3 : Nat -> Prop, J3 k0 /\
      ∃ p1 : Addr, SlAt l0 n_ 1 p1 /\
      J3 p1.block /\
      ∃ s2 : ByteArray, Cells w14 p1 [.string s2] /\
      J3 k0 /\
      Calls Tryz.prog 32 #[.pointer (some p), .string n_1] w14 fun e7 w15 => ∃ s3 : ByteArray, e7 = (.returned (.string s3)) /\
       Same [k0] w14 w15 /\
       Keeps J3 w14 w15 /\
       Calls Tryz.prog 32 #[.pointer (some p), .string n_3] w15 fun e8 w16 => ∃ s4 : ByteArray, e8 = (.returned (.string s4)) /\
        Same [k0] w15 w16 /\
        Keeps J3 w15 w16 /\
        ((s4.size : Int) + 1) <= 9223372036854775807 /\
        ∃ l3 : Sl, ∃ w17 : World, ((Instr.buildSlice 57 4 #[.mk 0 (.string s2), .mk 1 (.string s3), .mk 2 (.string (ByteArray.mk #[45, 62])), .mk 3 (.string (s4 ++ (ByteArray.mk #[59])))]).run Tryz.prog w16) = (.ok l3.v w17) /\
        Same [k0] w16 w17 /\
        Keeps J3 w16 w17 /\
        Calls Tryz.prog 31 #[.pointer (some p), .int .i64 deep, l3.v] w17 fun e9 w18 => e9 = (.returned (.tuple #[])) /\
         Same [k0] w17 w18 /\
         Keeps J3 w17 w18 /\
         R (.tuple #[]) w18) /\
    (b2 = false -> Calls Tryz.prog 30 #[.pointer (some p), .bool false] w12 fun e10 w19 => e10 = (.returned (.tuple #[])) /\
     Same [k0] w12 w19 /\
     R (.tuple #[]) w19)) /\
   ((n_ == 3) = true -> J2 (n_ == 3) w3) /\
   ((n_ == 3) = false -> J2 (n_ == 4) w3))) /\
  ((n_ == 1) = true -> J0 (n_ == 1) w2) /\
  ((n_ == 1) = false -> J0 (n_ == 2) w2))
theorem v56w (p : Addr) (n_ : Int) (n_1 n_2 n_3 : ByteArray) (n_4 n_5 n_6 n_7 : Sl) (n_8 deep : Int) (R : Value -> World -> Prop) (w : World) (h : v56v p n_ n_1 n_2 n_3 n_4 n_5 n_6 n_7 n_8 deep R w) : Cr 68 #[.pointer (some p), .agg #[.int .i64 n_, .string n_1, .string n_2, .string n_3, n_4.v, n_5.v, n_6.v, n_7.v, .int .i64 n_8], .int .i64 deep] w R :=
 fB (an := .s .o (.s (.s .o (.s (.s .o .o) .o)) (.s .o (.s .o (.j [0, 2, 4, 6, 19] [.s 22 .bool] (.s .o (.s .o .o)) (.s (.s .o (.s .o (.s .o .o))) (.j [0, 2, 4, 6] [.s 52 .bool] (.s .o (.s .o .o)) (.s (.s .o .o) .o)))))))) (args := [.ad p, .agg (ofL [.int .i64 n_, .str n_1, .str n_2, .str n_3, .sl n_4, .sl n_5, .sl n_6, .sl n_7, .int .i64 n_8]), .int .i64 deep]) h
def v43v (c : Sl) (c1 : Int) (c2 c3 c4 : ByteArray) (c5 c6 c7 c8 : Sl) (c9 : Int) (R : Value -> World -> Prop) (w : World) : Prop :=
  ∀ k0 : Nat, ∀ w0 : World, w.heap.size <= k0 -> k0 < w0.heap.size -> Only [] w w0 -> Calls Tryz.prog 12 #[.agg #[c.v, .int .i64 c1, .string c2, .string c3, .string c4, c5.v, c6.v, c7.v, c8.v, .int .i64 c9]] w0 fun e0 w1 => ∃ s0 : ByteArray, ∃ i0 : Int, e0 = (.returned (.tuple #[.string s0, .int .i64 i0])) /\
   Same [k0] w0 w1 /\
   R (.int .i64 i0) w1
theorem v43w (c : Sl) (c1 : Int) (c2 c3 c4 : ByteArray) (c5 c6 c7 c8 : Sl) (c9 : Int) (R : Value -> World -> Prop) (w : World) (h : v43v c c1 c2 c3 c4 c5 c6 c7 c8 c9 R w) : Cr 16 #[.agg #[c.v, .int .i64 c1, .string c2, .string c3, .string c4, c5.v, c6.v, c7.v, c8.v, .int .i64 c9]] w R :=
 fB (an := .s .o (.s .o (.s .o .o))) (args := [.agg (ofL [.sl c, .int .i64 c1, .str c2, .str c3, .str c4, .sl c5, .sl c6, .sl c7, .sl c8, .int .i64 c9])]) h
def v41v (R : Value -> World -> Prop) (w : World) : Prop :=
  Calls Tryz.prog 13 #[.string (ByteArray.mk #[99, 104, 97, 114, 116, 32, 99, 32, 123, 32, 105, 110, 105, 116, 105, 97, 108, 32, 97, 59, 32, 115, 116, 97, 116, 101, 32, 97, 32, 123, 32, 105, 110, 105, 116, 105, 97, 108, 32, 98, 59, 32, 115, 116, 97, 116, 101, 32, 98, 32, 123, 32, 125, 32, 115, 116, 97, 116, 101, 32, 100, 32, 123, 32, 125, 32, 125, 32, 112, 97, 114, 97, 108, 108, 101, 108, 32, 112, 32, 123, 32, 115, 116, 97, 116, 101, 32, 113, 32, 123, 32, 125, 32, 115, 116, 97, 116, 101, 32, 114, 32, 123, 32, 125, 32, 125, 32, 125])] w fun e0 w0 => ∃ l0 : Sl, ∃ i0 : Int, ∃ s0 s1 s2 : ByteArray, ∃ l1 l2 l3 l4 : Sl, ∃ i1 i2 i3 : Int, e0 = (.returned (.tuple #[.agg #[l0.v, .int .i64 i0, .string s0, .string s1, .string s2, l1.v, l2.v, l3.v, l4.v, .int .i64 i1], .agg #[.int .i64 i2, .int .i64 i3]])) /\
   ∀ k0 k1 : Nat, ∀ w1 : World, w0.heap.size <= k0 -> k0 < w1.heap.size -> w0.heap.size <= k1 -> k1 < w1.heap.size -> Only [] w0 w1 -> Calls Tryz.prog 19 #[.agg #[l0.v, .int .i64 i0, .string s0, .string s1, .string s2, l1.v, l2.v, l3.v, l4.v, .int .i64 i1]] w1 fun e1 w2 => ∃ l5 : Sl, ∃ i4 : Int, e1 = (.returned (.tuple #[l5.v, .int .i64 i4])) /\
    Same [k0, k1] w1 w2 /\
    ∃ J0 : Bool -> World -> Prop, (∀ b0 : Bool, ∀ w3 : World, J0 b0 w3 -> R (.bool b0) w3) /\
    ∃ p0 : Addr, ((((i2 == 0) && (i4 == 0)) && ((l5.n : Int) == 7)) = true -> SlAt l5 4 5 p0) /\
    ∃ i5 : Int, ∃ s3 : ByteArray, ∃ i6 i7 i8 : Int, ((((i2 == 0) && (i4 == 0)) && ((l5.n : Int) == 7)) = true -> Cells w2 p0 [.int .i64 i5, .string s3, .int .i64 i6, .int .i64 i7, .int .i64 i8]) /\
    (((((i2 == 0) && (i4 == 0)) && ((l5.n : Int) == 7)) && ((i5 == 2) && ((s3 == (ByteArray.mk #[112])) && ((i6 == 0) && ((i7 == 1) && (i8 == 7)))))) = true -> ∃ l6 : Sl, ∃ w4 : World, ((Instr.buildSlice 51 2 #[.mk 0 (.int .i64 2), .mk 1 (.int .i64 3)]).run Tryz.prog w2) = (.ok l6.v w4) /\
     Same [k0, k1] w2 w4 /\
     Calls Tryz.prog 22 #[l5.v, l6.v] w4 fun e2 w5 => ∃ i9 : Int, e2 = (.returned (.int .i64 i9)) /\
      Same [k0, k1] w4 w5 /\
      ((i9 == 1) = true -> Calls Tryz.prog 23 #[l5.v, .int .i64 6, .int .i64 4] w5 fun e3 w6 => ∃ b1 : Bool, e3 = (.returned (.bool b1)) /\
        Same [k0, k1] w5 w6 /\
        J0 b1 w6) /\
      ((i9 == 1) = false -> J0 false w5)) /\
    (((((i2 == 0) && (i4 == 0)) && ((l5.n : Int) == 7)) && ((i5 == 2) && ((s3 == (ByteArray.mk #[112])) && ((i6 == 0) && ((i7 == 1) && (i8 == 7)))))) = false -> J0 false w2)
theorem v41w (R : Value -> World -> Prop) (w : World) (h : v41v R w) : Cr 18 #[] w R :=
 fB (an := .s .o (.s .o (.s .o (.s (.j [1, 2] [.s 0 .bool] .o .o) .o)))) (args := []) h
def v25v (c : Sl) (c1 : Int) (c2 c3 c4 : ByteArray) (c5 c6 c7 c8 : Sl) (c9 : Int) (R : Value -> World -> Prop) (w : World) : Prop :=
  ∀ k0 : Nat, ∀ w0 : World, w.heap.size <= k0 -> k0 < w0.heap.size -> Only [] w w0 -> Calls Tryz.prog 16 #[.agg #[c.v, .int .i64 c1, .string c2, .string c3, .string c4, c5.v, c6.v, c7.v, c8.v, .int .i64 c9]] w0 fun e0 w1 => ∃ i0 : Int, e0 = (.returned (.int .i64 i0)) /\
   Same [k0] w0 w1 /\
   ((i0 != 0) = true -> R (.tuple #[Sl.nil.v, .int .i64 i0]) w1) /\
   ((i0 != 0) = false -> ∀ k1 : Nat, ∀ w2 : World, w1.heap.size <= k1 -> k1 < w2.heap.size -> Only [] w1 w2 -> Blk w2 k1 105 [Sl.nil.v] -> Calls Tryz.prog 51 #[.pointer (some ⟨k1, 0, none⟩), .agg #[.int .i64 c1, .string c2, .string c3, .string c4, c5.v, c6.v, c7.v, c8.v, .int .i64 c9], .int .i64 (-1), .int .i64 0] w2 fun e1 w3 => e1 = (.returned (.tuple #[])) /\
    Same [k0] w2 w3 /\
    ∃ l0 : Sl, Blk w3 k1 105 [l0.v] /\
    R (.tuple #[l0.v, .int .i64 0]) w3)
theorem v25w (c : Sl) (c1 : Int) (c2 c3 c4 : ByteArray) (c5 c6 c7 c8 : Sl) (c9 : Int) (R : Value -> World -> Prop) (w : World) (h : v25v c c1 c2 c3 c4 c5 c6 c7 c8 c9 R w) : Cr 19 #[.agg #[c.v, .int .i64 c1, .string c2, .string c3, .string c4, c5.v, c6.v, c7.v, c8.v, .int .i64 c9]] w R :=
 fB (an := .s .o (.s (.s .o (.s .o (.s (.s .o .o) .o))) (.s .o (.s .o (.s .o .o))))) (args := [.agg (ofL [.sl c, .int .i64 c1, .str c2, .str c3, .str c4, .sl c5, .sl c6, .sl c7, .sl c8, .int .i64 c9])]) h
def v31v (l : Addr) (n_ : Int) (n_1 n_2 n_3 : ByteArray) (n_4 n_5 n_6 n_7 : Sl) (n_8 parent depth : Int) (R : Value -> World -> Prop) (w : World) : Prop :=
  ∀ k0 : Nat, ∀ w0 : World, w.heap.size <= k0 -> k0 < w0.heap.size -> Only [] w w0 -> ∃ l0 : Sl, Cells w0 (l.add 0) [l0.v] /\
  ∀ w1 : World, Only [] w0 w1 -> ∃ J0 : Nat -> Prop, J0 ((l.add 0).block) /\
  ∃ l1 : Sl, Cells w1 (l.add 0) [l1.v] /\
  ∃ l2 : Sl, ∃ w2 : World, ((Instr.buildSlice 103 1 #[.mk 0 (.agg #[.int .i64 n_, .string n_1, .int .i64 parent, .int .i64 depth, .int .i64 0])]).run Tryz.prog w1) = (.ok l2.v w2) /\
  Same [k0] w1 w2 /\
  Keeps J0 w1 w2 /\
  ∃ l3 : Sl, ∃ w3 : World, ((Builtin.append_ #[103, 103] 103 #[l1.v, l2.v]).run Tryz.prog w2) = (.ok l3.v w3) /\
  Same [k0] w2 w3 /\
  Keeps J0 w2 w3 /\
  ∃ k1 k2 : Nat, ∃ z0 : List Value, ∃ k3 : Nat, (l.add 0) = ⟨k1, k2, none⟩ /\
  Blk w3 k1 k3 z0 /\
  (k2 + 1) <= z0.length /\
  k0 ≠ k1 /\
  ∀ w4 : World, Only [k1] w3 w4 -> Blk w4 k1 k3 (splice z0 k2 [l3.v]) -> ∃ J1 : Nat -> Int -> World -> Prop, ∃ k4 : Nat, J1 k4 0 w4 /\
  ∀ k5 : Nat, ∀ i0 : Int, ∀ w5 : World, J1 k5 i0 w5 -> ((decide (i0 < (n_7.n : Int))) = true -> ∃ p0 : Addr, SlAt n_7 i0 9 p0 /\
   ∃ i1 : Int, ∃ s0 s1 s2 : ByteArray, ∃ l4 l5 l6 l7 : Sl, ∃ i2 : Int, Cells w5 p0 [.int .i64 i1, .string s0, .string s1, .string s2, l4.v, l5.v, l6.v, l7.v, .int .i64 i2] /\
   ∀ k6 : Nat, ∀ w6 : World, w5.heap.size <= k6 -> k6 < w6.heap.size -> Only [] w5 w6 -> Calls Tryz.prog 51 #[.pointer (some l), .agg #[.int .i64 i1, .string s0, .string s1, .string s2, l4.v, l5.v, l6.v, l7.v, .int .i64 i2], .int .i64 (l0.n : Int), .int .i64 (IntKind.wrap .i64 (depth + 1))] w6 fun e0 w7 => e0 = (.returned (.tuple #[])) /\
    Same [k0, k6] w6 w7 /\
    ∃ k7 : Nat, k7 < k5 /\
    J1 k7 (IntKind.wrap .i64 (i0 + 1)) w7) /\
  ((decide (i0 < (n_7.n : Int))) = false -> ∀ w8 : World, Only [] w5 w8 -> ∃ l8 : Sl, Cells w8 (l.add 0) [l8.v] /\
  ∃ l9 : Sl, Cells w8 (l.add 0) [l9.v] /\
  ∃ p1 : Addr, SlAt l8 (l0.n : Int) 5 p1 /\
  ∃ k8 k9 : Nat, ∃ z1 : List Value, ∃ k10 : Nat, (p1.add 4) = ⟨k8, k9, none⟩ /\
  Blk w8 k8 k10 z1 /\
  (k9 + 1) <= z1.length /\
  k0 ≠ k8 /\
  ∀ w9 : World, Only [k8] w8 w9 -> Blk w9 k8 k10 (splice z1 k9 [.int .i64 (l9.n : Int)]) -> R (.tuple #[]) w9)
theorem v31w (l : Addr) (n_ : Int) (n_1 n_2 n_3 : ByteArray) (n_4 n_5 n_6 n_7 : Sl) (n_8 parent depth : Int) (R : Value -> World -> Prop) (w : World) (h : v31v l n_ n_1 n_2 n_3 n_4 n_5 n_6 n_7 n_8 parent depth R w) : Cr 51 #[.pointer (some l), .agg #[.int .i64 n_, .string n_1, .string n_2, .string n_3, n_4.v, n_5.v, n_6.v, n_7.v, .int .i64 n_8], .int .i64 parent, .int .i64 depth] w R :=
 fB (an := .s .o (.s .o (.s .o (.s (.s .o (.j [0, 3, 5, 8, 33, 34] [.s 35 (.int .i64)] (.s .o (.s (.s .o .o) (.s (.s .o .o) .o))) .o)) .o)))) (args := [.ad l, .agg (ofL [.int .i64 n_, .str n_1, .str n_2, .str n_3, .sl n_4, .sl n_5, .sl n_6, .sl n_7, .int .i64 n_8]), .int .i64 parent, .int .i64 depth]) h
def v28v (l nodes : Sl) (R : Value -> World -> Prop) (w : World) : Prop :=
  ∀ k0 : Nat, ∀ w0 : World, w.heap.size <= k0 -> k0 < w0.heap.size -> Only [] w w0 -> ∃ J0 : Bool -> Sl -> World -> Prop, (∀ b0 : Bool, ∀ l0 : Sl, ∀ w1 : World, J0 b0 l0 w1 -> (b0 = true -> R (.int .i64 (-1)) w1) /\
   (b0 = false -> ∃ p0 : Addr, SlAt nodes 0 1 p0 /\
   ∃ i0 : Int, Cells w1 p0 [.int .i64 i0] /\
   (1 <= nodes.n /\
    nodes.n <= nodes.c) /\
   ∃ J1 : Nat -> Int -> Int -> Sl -> World -> Prop, ∃ k1 : Nat, J1 k1 i0 0 l0 w1 /\
   ∀ k2 : Nat, ∀ i1 i2 : Int, ∀ l1 : Sl, ∀ w2 : World, J1 k2 i1 i2 l1 w2 -> ((decide (i2 < ((nodes.cut 1 nodes.n nodes.c 1).n : Int))) = true -> ∃ p1 : Addr, SlAt (nodes.cut 1 nodes.n nodes.c 1) i2 1 p1 /\
    ∃ i3 : Int, Cells w2 p1 [.int .i64 i3] /\
    ∃ J2 : Nat -> Int -> Sl -> World -> Prop, ∃ k3 : Nat, J2 k3 i1 l1 w2 /\
    ∀ k4 : Nat, ∀ i4 : Int, ∀ l2 : Sl, ∀ w3 : World, J2 k4 i4 l2 w3 -> Calls Tryz.prog 56 #[l2.v, .int .i64 i4, .int .i64 i3] w3 fun e0 w4 => ∃ b1 : Bool, e0 = (.returned (.bool b1)) /\
     Same [k0] w3 w4 /\
     ((!b1) = true -> ∃ p2 : Addr, SlAt l2 i4 5 p2 /\
      ∃ i5 : Int, Cells w4 (p2.add 2) [.int .i64 i5] /\
      ∃ k5 : Nat, k5 < k4 /\
      J2 k5 i5 l2 w4) /\
     ((!b1) = false -> ∃ k6 : Nat, k6 < k2 /\
     J1 k6 i4 (IntKind.wrap .i64 (i2 + 1)) l2 w4)) /\
   ((decide (i2 < ((nodes.cut 1 nodes.n nodes.c 1).n : Int))) = false -> R (.int .i64 i1) w2))) /\
  (((nodes.n : Int) == 0) = true -> J0 true l w0) /\
  (((nodes.n : Int) == 0) = false -> Blk w0 k0 42 [l.v] -> Calls Tryz.prog 53 #[nodes.v, .func (.func 54) #[] #[.pointer (some ⟨k0, 0, none⟩)]] w0 fun e1 w5 => ∃ b2 : Bool, e1 = (.returned (.bool b2)) /\
   ∃ l3 : Sl, Blk w5 k0 42 [l3.v] /\
   J0 b2 l3 w5)
theorem v28w (l nodes : Sl) (R : Value -> World -> Prop) (w : World) (h : v28v l nodes R w) : Cr 22 #[l.v, nodes.v] w R :=
 fB (an := .s .o (.s (.s (.j [1, 2] [.s 15 .bool, .b 2 [.sl]] .o .o) (.s (.s .o .o) .o)) (.s .o (.s (.s .o (.j [2, 20, 21] [.s 5 (.int .i64), .s 22 (.int .i64), .b 2 [.sl]] (.s .o (.s (.s .o .o) (.s (.s .o (.j [2, 7, 20, 21, 22] [.s 5 (.int .i64), .b 2 [.sl]] (.s (.s .o (.s .o .o)) .o) .o)) .o))) .o)) (.s .o .o))))) (args := [.sl l, .sl nodes]) h
def v75v (s : Sl) (f : OV) (R : Value -> World -> Prop) (w : World) : Prop :=
  Calls Tryz.prog 92 #[s.v, f.v] w fun e0 w0 => ∃ i0 : Int, e0 = (.returned (.int .i64 i0)) /\
   R (.bool (decide (i0 >= 0))) w0
theorem v75w (s : Sl) (f : OV) (R : Value -> World -> Prop) (w : World) (h : v75v s f R w) : Cr 53 #[s.v, f.v] w R :=
 fB (an := .s .o (.s .o .o)) (args := [.sl s, .raw f]) h
def v81v (s : Sl) (f : OV) (R : Value -> World -> Prop) (w : World) : Prop :=
  ∃ J0 : Nat -> Int -> World -> Prop, ∃ k0 : Nat, J0 k0 0 w /\
  ∀ k1 : Nat, ∀ i0 : Int, ∀ w0 : World, J0 k1 i0 w0 -> ((decide (i0 < (s.n : Int))) = true -> ∃ p0 : Addr, SlAt s i0 1 p0 /\
   ∃ i1 : Int, Cells w0 p0 [.int .i64 i1] /\
   ∃ k2 : Nat, ∃ z0 : List Value, ∃ z1 : List Value, f.v = (.func (.func k2) z0.toArray z1.toArray) /\
   (∀ x0 : Array Value, ∀ w1 : World, ((callFunc k2 x0).run Tryz.prog w1) = (.ok (.enter k2 x0) w1)) /\
   Calls Tryz.prog k2 ((cat (cat z0 [.int .i64 i1]) z1).toArray) w0 fun e0 w2 => ∃ b0 : Bool, e0 = (.returned (.bool b0)) /\
    (b0 = true -> R (.int .i64 i0) w2) /\
    (b0 = false -> ∃ k3 : Nat, k3 < k1 /\
    J0 k3 (IntKind.wrap .i64 (i0 + 1)) w2)) /\
  ((decide (i0 < (s.n : Int))) = false -> R (.int .i64 (-1)) w0)
theorem v81w (s : Sl) (f : OV) (R : Value -> World -> Prop) (w : World) (h : v81v s f R w) : Cr 92 #[s.v, f.v] w R :=
 fB (an := .s .o (.s (.s .o (.j [0, 1, 7] [.s 8 (.int .i64)] (.s .o (.s (.s .o .o) (.s (.s .o (.s .o (.s (.s .o .o) .o))) .o))) .o)) (.s .o .o))) (args := [.sl s, .raw f]) h
def v32v (r : Sl) (bb a_ : Int) (R : Value -> World -> Prop) (w : World) : Prop :=
  ∃ J0 : Bool -> World -> Prop, (∀ b0 : Bool, ∀ w0 : World, J0 b0 w0 -> R (.bool b0) w0) /\
  Calls Tryz.prog 55 #[r.v, .int .i64 a_] w fun e0 w1 => ∃ b1 : Bool, e0 = (.returned (.bool b1)) /\
   (b1 = true -> Calls Tryz.prog 55 #[r.v, .int .i64 bb] w1 fun e1 w2 => ∃ b2 : Bool, e1 = (.returned (.bool b2)) /\
     ∃ p0 : Addr, ((b2 && (decide (bb <= a_))) = true -> SlAt r bb 5 p0) /\
     ∃ i0 : Int, ((b2 && (decide (bb <= a_))) = true -> Cells w2 (p0.add 4) [.int .i64 i0]) /\
     J0 ((b2 && (decide (bb <= a_))) && (decide (a_ < i0))) w2) /\
   (b1 = false -> J0 false w1)
theorem v32w (r : Sl) (bb a_ : Int) (R : Value -> World -> Prop) (w : World) (h : v32v r bb a_ R w) : Cr 56 #[r.v, .int .i64 bb, .int .i64 a_] w R :=
 fB (an := .s .o (.s (.j [] [.s 6 .bool] .o .o) .o)) (args := [.sl r, .int .i64 bb, .int .i64 a_]) h
def v33v (r : Sl) (n_ : Int) (R : Value -> World -> Prop) (w : World) : Prop :=
 R (.bool ((decide (n_ >= 0)) && (decide (n_ < (r.n : Int))))) w
theorem v33w (r : Sl) (n_ : Int) (R : Value -> World -> Prop) (w : World) (h : v33v r n_ R w) : Cr 55 #[r.v, .int .i64 n_] w R :=
 fB (an := .s .o (.s .o .o)) (args := [.sl r, .int .i64 n_]) h
def v30v (l : Sl) (a_ bb : Int) (R : Value -> World -> Prop) (w : World) : Prop :=
 ∃ J0 : Bool -> World -> Prop, (∀ b0 : Bool, ∀ w0 : World, J0 b0 w0 -> R (.bool b0) w0) /\
 ((a_ != bb) = true -> Calls Tryz.prog 56 #[l.v, .int .i64 bb, .int .i64 a_] w fun e0 w1 => ∃ b1 : Bool, e0 = (.returned (.bool b1)) /\
  J0 b1 w1) /\
 ((a_ != bb) = false -> J0 false w)
theorem v30w (l : Sl) (a_ bb : Int) (R : Value -> World -> Prop) (w : World) (h : v30v l a_ bb R w) : Cr 23 #[l.v, .int .i64 a_, .int .i64 bb] w R :=
 fB (an := .s .o (.s (.j [] [.s 6 .bool] .o .o) .o)) (args := [.sl l, .int .i64 a_, .int .i64 bb]) h
def v38v (c : Sl) (c1 : Int) (c2 c3 c4 : ByteArray) (c5 c6 c7 c8 : Sl) (c9 a_ bb d : Int) (R : Value -> World -> Prop) (w : World) : Prop :=
  ∀ k0 : Nat, ∀ w0 : World, w.heap.size <= k0 -> k0 < w0.heap.size -> Only [] w w0 -> Calls Tryz.prog 18 #[] w0 fun e0 w1 => ∃ b0 : Bool, e0 = (.returned (.bool b0)) /\
   Same [k0] w0 w1 /\
   Calls Tryz.prog 19 #[.agg #[c.v, .int .i64 c1, .string c2, .string c3, .string c4, c5.v, c6.v, c7.v, c8.v, .int .i64 c9]] w1 fun e1 w2 => ∃ l0 : Sl, ∃ i0 : Int, e1 = (.returned (.tuple #[l0.v, .int .i64 i0])) /\
    Same [k0] w1 w2 /\
    (((!b0) || (i0 != 0)) = true -> R (.bool b0) w2) /\
    (((!b0) || (i0 != 0)) = false -> ∃ l1 : Sl, ∃ w3 : World, ((Instr.buildSlice 51 3 #[.mk 0 (.int .i64 a_), .mk 1 (.int .i64 bb), .mk 2 (.int .i64 d)]).run Tryz.prog w2) = (.ok l1.v w3) /\
    Same [k0] w2 w3 /\
    Calls Tryz.prog 22 #[l0.v, l1.v] w3 fun e2 w4 => ∃ i1 : Int, e2 = (.returned (.int .i64 i1)) /\
     Same [k0] w3 w4 /\
     ∃ J0 : Bool -> World -> Prop, (∀ b1 : Bool, ∀ w5 : World, J0 b1 w5 -> ∃ l2 : Sl, ∃ w6 : World, ((Instr.buildSlice 51 2 #[.mk 0 (.int .i64 a_), .mk 1 (.int .i64 bb)]).run Tryz.prog w5) = (.ok l2.v w6) /\
      Same [k0] w5 w6 /\
      Calls Tryz.prog 22 #[l0.v, l2.v] w6 fun e3 w7 => ∃ i2 : Int, e3 = (.returned (.int .i64 i2)) /\
       Same [k0] w6 w7 /\
       ∃ J1 : Bool -> World -> Prop, (∀ b2 : Bool, ∀ w8 : World, J1 b2 w8 -> ∃ J2 : Bool -> World -> Prop, (∀ b3 : Bool, ∀ w9 : World, J2 b3 w9 -> R (.bool ((b1 && b2) && b3)) w9) /\
        Calls Tryz.prog 22 #[l0.v, Sl.nil.v] w8 fun e4 w10 => ∃ i3 : Int, e4 = (.returned (.int .i64 i3)) /\
         Same [k0] w8 w10 /\
         ((i3 == (-1)) = true -> (((decide (i2 < 0)) || (i2 == a_)) = true -> J2 true w10) /\
          (((decide (i2 < 0)) || (i2 == a_)) = false -> Calls Tryz.prog 23 #[l0.v, .int .i64 a_, .int .i64 i2] w10 fun e5 w11 => ∃ b4 : Bool, e5 = (.returned (.bool b4)) /\
           Same [k0] w10 w11 /\
           J2 b4 w11)) /\
         ((i3 == (-1)) = false -> J2 false w10)) /\
       ((decide (i2 < 0)) = true -> J1 true w7) /\
       ((decide (i2 < 0)) = false -> ∃ l3 : Sl, ∃ w12 : World, ((Instr.buildSlice 51 2 #[.mk 0 (.int .i64 i2), .mk 1 (.int .i64 d)]).run Tryz.prog w7) = (.ok l3.v w12) /\
       Same [k0] w7 w12 /\
       Calls Tryz.prog 22 #[l0.v, l3.v] w12 fun e6 w13 => ∃ i4 : Int, e6 = (.returned (.int .i64 i4)) /\
        Same [k0] w12 w13 /\
        J1 (i1 == i4) w13)) /\
     ∃ l4 : Sl, ∃ w14 : World, ((Instr.buildSlice 51 4 #[.mk 0 (.int .i64 d), .mk 1 (.int .i64 a_), .mk 2 (.int .i64 bb), .mk 3 (.int .i64 a_)]).run Tryz.prog w4) = (.ok l4.v w14) /\
     Same [k0] w4 w14 /\
     Calls Tryz.prog 22 #[l0.v, l4.v] w14 fun e7 w15 => ∃ i5 : Int, e7 = (.returned (.int .i64 i5)) /\
      Same [k0] w14 w15 /\
      ((i1 == i5) = true -> ∃ l5 : Sl, ∃ w16 : World, ((Instr.buildSlice 51 3 #[.mk 0 (.int .i64 bb), .mk 1 (.int .i64 d), .mk 2 (.int .i64 a_)]).run Tryz.prog w15) = (.ok l5.v w16) /\
       Same [k0] w15 w16 /\
       Calls Tryz.prog 22 #[l0.v, l5.v] w16 fun e8 w17 => ∃ i6 : Int, e8 = (.returned (.int .i64 i6)) /\
        Same [k0] w16 w17 /\
        J0 (i1 == i6) w17) /\
      ((i1 == i5) = false -> J0 false w15))
theorem v38w (c : Sl) (c1 : Int) (c2 c3 c4 : ByteArray) (c5 c6 c7 c8 : Sl) (c9 a_ bb d : Int) (R : Value -> World -> Prop) (w : World) (h : v38v c c1 c2 c3 c4 c5 c6 c7 c8 c9 a_ bb d R w) : Cr 6 #[.agg #[c.v, .int .i64 c1, .string c2, .string c3, .string c4, c5.v, c6.v, c7.v, c8.v, .int .i64 c9], .int .i64 a_, .int .i64 bb, .int .i64 d] w R :=
 fB (an := .s .o (.s .o (.s .o (.s (.s .o (.s (.s .o .o) .o)) (.s .o (.s (.j [1, 2, 3, 4, 10, 12] [.s 13 .bool] .o .o) (.s .o (.s (.j [1, 4, 10, 13, 14] [.s 15 .bool] .o .o) (.s (.j [4, 13, 15] [.s 16 .bool] .o .o) (.s .o .o)))))))))) (args := [.agg (ofL [.sl c, .int .i64 c1, .str c2, .str c3, .str c4, .sl c5, .sl c6, .sl c7, .sl c8, .int .i64 c9]), .int .i64 a_, .int .i64 bb, .int .i64 d]) h
def v36v (c : Sl) (c1 : Int) (c2 c3 c4 : ByteArray) (c5 c6 c7 c8 : Sl) (c9 : Int) (R : Value -> World -> Prop) (w : World) : Prop :=
  ∀ k0 : Nat, ∀ w0 : World, w.heap.size <= k0 -> k0 < w0.heap.size -> Only [] w w0 -> Calls Tryz.prog 18 #[] w0 fun e0 w1 => ∃ b0 : Bool, e0 = (.returned (.bool b0)) /\
   Same [k0] w0 w1 /\
   Calls Tryz.prog 19 #[.agg #[c.v, .int .i64 c1, .string c2, .string c3, .string c4, c5.v, c6.v, c7.v, c8.v, .int .i64 c9]] w1 fun e1 w2 => ∃ l0 : Sl, ∃ i0 : Int, e1 = (.returned (.tuple #[l0.v, .int .i64 i0])) /\
    Same [k0] w1 w2 /\
    (((!b0) || (i0 != 0)) = true -> R (.bool b0) w2) /\
    (((!b0) || (i0 != 0)) = false -> ∃ J0 : Nat -> Int -> World -> Prop, ∃ k1 : Nat, J0 k1 0 w2 /\
    ∀ k2 : Nat, ∀ i1 : Int, ∀ w3 : World, J0 k2 i1 w3 -> ((decide (i1 < (l0.n : Int))) = true -> ∃ J1 : Nat -> Int -> Int -> World -> Prop, ∃ k3 : Nat, J1 k3 0 0 w3 /\
     ∀ k4 : Nat, ∀ i2 i3 : Int, ∀ w4 : World, J1 k4 i2 i3 w4 -> ((decide (i3 < (l0.n : Int))) = true -> ∃ J2 : Int -> World -> Prop, (∀ i4 : Int, ∀ w5 : World, J2 i4 w5 -> ∃ k5 : Nat, k5 < k4 /\
       J1 k5 i4 (IntKind.wrap .i64 (i3 + 1)) w5) /\
      Calls Tryz.prog 23 #[l0.v, .int .i64 i3, .int .i64 i1] w4 fun e2 w6 => ∃ b1 : Bool, e2 = (.returned (.bool b1)) /\
       Same [k0] w4 w6 /\
       ∃ p0 : Addr, ((decide (i3 > i1)) = true -> SlAt l0 i1 5 p0) /\
       ∃ i5 : Int, ((decide (i3 > i1)) = true -> Cells w6 (p0.add 4) [.int .i64 i5]) /\
       ((!(b1 == ((decide (i3 > i1)) && (decide (i3 < i5))))) = true -> R (.bool false) w6) /\
       ((!(b1 == ((decide (i3 > i1)) && (decide (i3 < i5))))) = false -> (b1 = true -> J2 (IntKind.wrap .i64 (i2 + 1)) w6) /\
       (b1 = false -> J2 i2 w6))) /\
     ((decide (i3 < (l0.n : Int))) = false -> ∃ p1 : Addr, SlAt l0 i1 5 p1 /\
     ∃ i6 : Int, Cells w4 (p1.add 4) [.int .i64 i6] /\
     ∃ p2 : Addr, ((i2 != (IntKind.wrap .i64 ((IntKind.wrap .i64 (i6 - i1)) - 1))) = false -> (decide (i1 > 0)) = true -> SlAt l0 i1 5 p2) /\
     ∃ i7 : Int, ((i2 != (IntKind.wrap .i64 ((IntKind.wrap .i64 (i6 - i1)) - 1))) = false -> (decide (i1 > 0)) = true -> Cells w4 (p2.add 3) [.int .i64 i7]) /\
     ∃ p3 : Addr, ((i2 != (IntKind.wrap .i64 ((IntKind.wrap .i64 (i6 - i1)) - 1))) = false -> (decide (i1 > 0)) = true -> SlAt l0 i1 5 p3) /\
     ∃ i8 : Int, ((i2 != (IntKind.wrap .i64 ((IntKind.wrap .i64 (i6 - i1)) - 1))) = false -> (decide (i1 > 0)) = true -> Cells w4 (p3.add 2) [.int .i64 i8]) /\
     ∃ p4 : Addr, ((i2 != (IntKind.wrap .i64 ((IntKind.wrap .i64 (i6 - i1)) - 1))) = false -> (decide (i1 > 0)) = true -> SlAt l0 i8 5 p4) /\
     ∃ i9 : Int, ((i2 != (IntKind.wrap .i64 ((IntKind.wrap .i64 (i6 - i1)) - 1))) = false -> (decide (i1 > 0)) = true -> Cells w4 (p4.add 3) [.int .i64 i9]) /\
     (((i2 != (IntKind.wrap .i64 ((IntKind.wrap .i64 (i6 - i1)) - 1))) || ((decide (i1 > 0)) && (i7 != (IntKind.wrap .i64 (i9 + 1))))) = true -> ∀ w7 : World, Only [] w4 w7 -> R (.bool false) w7) /\
     (((i2 != (IntKind.wrap .i64 ((IntKind.wrap .i64 (i6 - i1)) - 1))) || ((decide (i1 > 0)) && (i7 != (IntKind.wrap .i64 (i9 + 1))))) = false -> ∀ w8 : World, Only [] w4 w8 -> ∃ k6 : Nat, k6 < k2 /\
     J0 k6 (IntKind.wrap .i64 (i1 + 1)) w8))) /\
    ((decide (i1 < (l0.n : Int))) = false -> ∃ p5 : Addr, ((decide ((l0.n : Int) > 0)) = true -> SlAt l0 0 5 p5) /\
    ∃ i10 : Int, ((decide ((l0.n : Int) > 0)) = true -> Cells w3 (p5.add 4) [.int .i64 i10]) /\
    R (.bool ((decide ((l0.n : Int) > 0)) && (i10 == (l0.n : Int)))) w3))
theorem v36w (c : Sl) (c1 : Int) (c2 c3 c4 : ByteArray) (c5 c6 c7 c8 : Sl) (c9 : Int) (R : Value -> World -> Prop) (w : World) (h : v36v c c1 c2 c3 c4 c5 c6 c7 c8 c9 R w) : Cr 7 #[.agg #[c.v, .int .i64 c1, .string c2, .string c3, .string c4, c5.v, c6.v, c7.v, c8.v, .int .i64 c9]] w R :=
 fB (an := .s .o (.s .o (.s .o (.s (.s .o (.s (.s .o .o) .o)) (.s (.s .o (.j [1, 4] [.s 6 (.int .i64)] (.s (.s .o (.s .o .o)) (.s (.s .o (.s (.s .o (.j [1, 4, 6] [.s 7 (.int .i64), .s 8 (.int .i64)] (.s (.s .o (.s .o .o)) (.j [1, 4, 6, 8] [.s 7 (.int .i64)] (.s .o (.s (.s .o (.s (.s .o .o) .o)) (.s .o (.s .o .o)))) .o)) .o)) (.s .o (.s (.s .o .o) .o)))) .o)) .o)) (.s .o .o)))))) (args := [.agg (ofL [.sl c, .int .i64 c1, .str c2, .str c3, .str c4, .sl c5, .sl c6, .sl c7, .sl c8, .int .i64 c9])]) h
def v29v (l : Sl) (n_ : Int) (R : Value -> World -> Prop) (w : World) : Prop :=
  Calls Tryz.prog 55 #[l.v, .int .i64 n_] w fun e0 w0 => ∃ b0 : Bool, e0 = (.returned (.bool b0)) /\
   ((!b0) = true -> R Sl.nil.v w0) /\
   ((!b0) = false -> ∃ p0 : Addr, SlAt l n_ 5 p0 /\
   ∃ i0 : Int, Cells w0 (p0.add 2) [.int .i64 i0] /\
   ∃ J0 : Nat -> Int -> Sl -> World -> Prop, ∃ k0 : Nat, J0 k0 i0 Sl.nil w0 /\
   ∀ k1 : Nat, ∀ i1 : Int, ∀ l0 : Sl, ∀ w1 : World, J0 k1 i1 l0 w1 -> ((decide (i1 >= 0)) = true -> ∃ l1 : Sl, ∃ w2 : World, ((Instr.buildSlice 51 1 #[.mk 0 (.int .i64 i1)]).run Tryz.prog w1) = (.ok l1.v w2) /\
    ∃ l2 : Sl, ∃ w3 : World, ((Builtin.append_ #[51, 51] 51 #[l0.v, l1.v]).run Tryz.prog w2) = (.ok l2.v w3) /\
    ∃ p1 : Addr, SlAt l i1 5 p1 /\
    ∃ i2 : Int, Cells w3 (p1.add 2) [.int .i64 i2] /\
    ∃ k2 : Nat, k2 < k1 /\
    J0 k2 i2 l2 w3) /\
   ((decide (i1 >= 0)) = false -> R l0.v w1))
theorem v29w (l : Sl) (n_ : Int) (R : Value -> World -> Prop) (w : World) (h : v29v l n_ R w) : Cr 24 #[l.v, .int .i64 n_] w R :=
 fB (an := .s .o (.s .o (.s (.s .o (.s (.s .o .o) .o)) (.s (.s .o (.j [0] [.s 1 (.int .i64), .s 5 .sl] (.s (.s .o (.s .o .o)) (.s .o .o)) .o)) (.s .o .o))))) (args := [.sl l, .int .i64 n_]) h
def v40v (l : Sl) (n_ : Int) (R : Value -> World -> Prop) (w : World) : Prop :=
  ∃ J0 : Nat -> Int -> World -> Prop, ∃ k0 : Nat, J0 k0 0 w /\
  ∀ k1 : Nat, ∀ i0 : Int, ∀ w0 : World, J0 k1 i0 w0 -> ((decide (i0 < (l.n : Int))) = true -> ∃ p0 : Addr, SlAt l i0 1 p0 /\
   ∃ i1 : Int, Cells w0 p0 [.int .i64 i1] /\
   ((i1 == n_) = true -> R (.bool true) w0) /\
   ((i1 == n_) = false -> ∃ k2 : Nat, k2 < k1 /\
   J0 k2 (IntKind.wrap .i64 (i0 + 1)) w0)) /\
  ((decide (i0 < (l.n : Int))) = false -> R (.bool false) w0)
theorem v40w (l : Sl) (n_ : Int) (R : Value -> World -> Prop) (w : World) (h : v40v l n_ R w) : Cr 25 #[l.v, .int .i64 n_] w R :=
 fB (an := .s .o (.s (.s .o (.j [0, 1] [.s 5 (.int .i64)] (.s (.s .o (.s .o .o)) (.s (.s .o (.s (.s .o .o) .o)) .o)) .o)) (.s .o .o))) (args := [.sl l, .int .i64 n_]) h
def v37v (c : Sl) (c1 : Int) (c2 c3 c4 : ByteArray) (c5 c6 c7 c8 : Sl) (c9 : Int) (R : Value -> World -> Prop) (w : World) : Prop :=
  ∀ k0 : Nat, ∀ w0 : World, w.heap.size <= k0 -> k0 < w0.heap.size -> Only [] w w0 -> Calls Tryz.prog 18 #[] w0 fun e0 w1 => ∃ b0 : Bool, e0 = (.returned (.bool b0)) /\
   Same [k0] w0 w1 /\
   Calls Tryz.prog 19 #[.agg #[c.v, .int .i64 c1, .string c2, .string c3, .string c4, c5.v, c6.v, c7.v, c8.v, .int .i64 c9]] w1 fun e1 w2 => ∃ l0 : Sl, ∃ i0 : Int, e1 = (.returned (.tuple #[l0.v, .int .i64 i0])) /\
    Same [k0] w1 w2 /\
    (((!b0) || (i0 != 0)) = true -> R (.bool b0) w2) /\
    (((!b0) || (i0 != 0)) = false -> ∃ J0 : Nat -> Int -> Int -> World -> Prop, ∃ k1 : Nat, J0 k1 0 0 w2 /\
    ∀ k2 : Nat, ∀ i1 i2 : Int, ∀ w3 : World, J0 k2 i1 i2 w3 -> ((decide (i2 < (l0.n : Int))) = true -> Calls Tryz.prog 26 #[l0.v, .int .i64 i2] w3 fun e2 w4 => ∃ l1 : Sl, e2 = (.returned l1.v) /\
      Same [k0] w3 w4 /\
      ∃ J1 : Nat -> Int -> Int -> World -> Prop, ∃ k3 : Nat, J1 k3 i1 0 w4 /\
      ∀ k4 : Nat, ∀ i3 i4 : Int, ∀ w5 : World, J1 k4 i3 i4 w5 -> ((decide (i4 < (l1.n : Int))) = true -> ∃ p0 : Addr, SlAt l1 i4 1 p0 /\
       ∃ i5 : Int, Cells w5 p0 [.int .i64 i5] /\
       Calls Tryz.prog 24 #[l0.v, .int .i64 i5] w5 fun e3 w6 => ∃ l2 : Sl, e3 = (.returned l2.v) /\
        Same [k0] w5 w6 /\
        ∃ p1 : Addr, (((l2.n : Int) == 0) = false -> SlAt l2 0 1 p1) /\
        ∃ i6 : Int, (((l2.n : Int) == 0) = false -> Cells w6 p1 [.int .i64 i6]) /\
        ∃ p2 : Addr, ((((l2.n : Int) == 0) || (i6 != i2)) = false -> (decide (i4 > 0)) = true -> SlAt l1 i4 1 p2) /\
        ∃ i7 : Int, ((((l2.n : Int) == 0) || (i6 != i2)) = false -> (decide (i4 > 0)) = true -> Cells w6 p2 [.int .i64 i7]) /\
        ∃ p3 : Addr, ((((l2.n : Int) == 0) || (i6 != i2)) = false -> (decide (i4 > 0)) = true -> SlAt l1 (IntKind.wrap .i64 (i4 - 1)) 1 p3) /\
        ∃ i8 : Int, ((((l2.n : Int) == 0) || (i6 != i2)) = false -> (decide (i4 > 0)) = true -> Cells w6 p3 [.int .i64 i8]) /\
        (((((l2.n : Int) == 0) || (i6 != i2)) || ((decide (i4 > 0)) && (decide (i7 <= i8)))) = true -> ∀ w7 : World, Only [] w6 w7 -> R (.bool false) w7) /\
        (((((l2.n : Int) == 0) || (i6 != i2)) || ((decide (i4 > 0)) && (decide (i7 <= i8)))) = false -> ∀ w8 : World, Only [] w6 w8 -> ∃ k5 : Nat, k5 < k4 /\
        J1 k5 (IntKind.wrap .i64 (i3 + 1)) (IntKind.wrap .i64 (i4 + 1)) w8)) /\
      ((decide (i4 < (l1.n : Int))) = false -> ∃ k6 : Nat, k6 < k2 /\
      J0 k6 i3 (IntKind.wrap .i64 (i2 + 1)) w5)) /\
    ((decide (i2 < (l0.n : Int))) = false -> ∃ J2 : Bool -> World -> Prop, (∀ b1 : Bool, ∀ w9 : World, J2 b1 w9 -> R (.bool b1) w9) /\
    ((i1 == (IntKind.wrap .i64 ((l0.n : Int) - 1))) = true -> Calls Tryz.prog 24 #[l0.v, .int .i64 0] w3 fun e4 w10 => ∃ l3 : Sl, e4 = (.returned l3.v) /\
      Same [k0] w3 w10 /\
      J2 ((l3.n : Int) == 0) w10) /\
    ((i1 == (IntKind.wrap .i64 ((l0.n : Int) - 1))) = false -> J2 false w3)))
theorem v37w (c : Sl) (c1 : Int) (c2 c3 c4 : ByteArray) (c5 c6 c7 c8 : Sl) (c9 : Int) (R : Value -> World -> Prop) (w : World) (h : v37v c c1 c2 c3 c4 c5 c6 c7 c8 c9 R w) : Cr 9 #[.agg #[c.v, .int .i64 c1, .string c2, .string c3, .string c4, c5.v, c6.v, c7.v, c8.v, .int .i64 c9]] w R :=
 fB (an := .s .o (.s .o (.s .o (.s (.s .o (.s (.s .o .o) .o)) (.s .o (.s (.s .o (.j [1, 4] [.s 6 (.int .i64), .s 7 (.int .i64)] (.s (.s .o (.s .o .o)) (.s (.s .o (.s .o (.j [1, 4, 7, 8] [.s 6 (.int .i64), .s 9 (.int .i64)] (.s (.s .o (.s .o .o)) (.s (.s .o (.s (.s .o (.s (.s .o .o) .o)) .o)) .o)) .o))) .o)) .o)) (.s (.j [1] [.s 2 .bool] .o .o) .o))))))) (args := [.agg (ofL [.sl c, .int .i64 c1, .str c2, .str c3, .str c4, .sl c5, .sl c6, .sl c7, .sl c8, .int .i64 c9])]) h
def v26v (l : Sl) (n_ : Int) (R : Value -> World -> Prop) (w : World) : Prop :=
  Calls Tryz.prog 55 #[l.v, .int .i64 n_] w fun e0 w0 => ∃ b0 : Bool, e0 = (.returned (.bool b0)) /\
   ((!b0) = true -> R Sl.nil.v w0) /\
   ((!b0) = false -> ∃ J0 : Nat -> Sl -> Int -> World -> Prop, ∃ k0 : Nat, J0 k0 Sl.nil (IntKind.wrap .i64 (n_ + 1)) w0 /\
   ∀ k1 : Nat, ∀ l0 : Sl, ∀ i0 : Int, ∀ w1 : World, J0 k1 l0 i0 w1 -> ∃ p0 : Addr, SlAt l n_ 5 p0 /\
   ∃ i1 : Int, Cells w1 (p0.add 4) [.int .i64 i1] /\
   ((decide (i0 < i1)) = true -> ∃ l1 : Sl, ∃ w2 : World, ((Instr.buildSlice 51 1 #[.mk 0 (.int .i64 i0)]).run Tryz.prog w1) = (.ok l1.v w2) /\
    ∃ l2 : Sl, ∃ w3 : World, ((Builtin.append_ #[51, 51] 51 #[l0.v, l1.v]).run Tryz.prog w2) = (.ok l2.v w3) /\
    ∃ p1 : Addr, SlAt l i0 5 p1 /\
    ∃ i2 : Int, Cells w3 (p1.add 4) [.int .i64 i2] /\
    ∃ k2 : Nat, k2 < k1 /\
    J0 k2 l2 i2 w3) /\
   ((decide (i0 < i1)) = false -> R l0.v w1))
theorem v26w (l : Sl) (n_ : Int) (R : Value -> World -> Prop) (w : World) (h : v26v l n_ R w) : Cr 26 #[l.v, .int .i64 n_] w R :=
 fB (an := .s .o (.s .o (.s (.s .o (.s (.s .o .o) .o)) (.s (.s .o (.j [0, 1] [.s 5 .sl, .s 6 (.int .i64)] (.s (.s .o (.s .o .o)) (.s .o .o)) .o)) (.s .o .o))))) (args := [.sl l, .int .i64 n_]) h
def v18v (ccap0 : Addr) (R : Value -> World -> Prop) (w : World) : Prop :=
  ∀ k0 : Nat, ∀ w0 : World, w.heap.size <= k0 -> k0 < w0.heap.size -> Only [] w w0 -> ∃ q0 : Option Addr, Cells w0 ccap0 [.pointer q0] /\
  Calls Tryz.prog 209 #[.pointer q0, .int .i64 0] w0 fun e0 w1 => ∃ i0 i1 : Int, ∃ s0 : ByteArray, ∃ i2 : Int, ∃ l0 : Sl, ∃ i3 : Int, e0 = (.returned (.agg #[.int .i64 i0, .int .i64 i1, .string s0, .int .i64 i2, l0.v, .int .i64 i3])) /\
   Same [k0] w0 w1 /\
   ∀ k1 : Nat, ∀ w2 : World, w1.heap.size <= k1 -> k1 < w2.heap.size -> Only [] w1 w2 -> ∃ q1 : Option Addr, Cells w2 ccap0 [.pointer q1] /\
   ∃ p0 : Addr, q1 = (some p0) /\
   Calls Tryz.prog 237 #[.pointer (some (p0.add 0)), .string (ByteArray.mk #[41])] w2 fun e1 w3 => e1 = (.returned (.tuple #[])) /\
    Same [k0, k1] w2 w3 /\
    ∀ w4 : World, Only [k0] w3 w4 -> R (.agg #[.int .i64 i0, .int .i64 i1, .string s0, .int .i64 i2, l0.v, .int .i64 i3]) w4
theorem v18w (ccap0 : Addr) (R : Value -> World -> Prop) (w : World) (h : v18v ccap0 R w) : Cr 236 #[.pointer (some ccap0)] w R :=
 fB (an := .s .o (.s .o (.s .o (.s .o .o)))) (args := [.ad ccap0]) h
def v104v (ccap0 ccap1 : Addr) (R : Value -> World -> Prop) (w : World) : Prop :=
  ∀ w0 : World, Only [] w w0 -> ∃ J0 : Nat -> Prop, J0 ccap0.block /\
  ∃ l0 : Sl, Cells w0 ccap0 [l0.v] /\
  ∃ q0 : Option Addr, Cells w0 ccap1 [.pointer q0] /\
  Calls Tryz.prog 155 #[.pointer q0] w0 fun e0 w1 => ∃ i0 : Int, ∃ s0 : ByteArray, ∃ i1 i2 : Int, ∃ s1 : ByteArray, ∃ i3 : Int, ∃ l1 : Sl, ∃ i4 i5 : Int, e0 = (.returned (.agg #[.int .i64 i0, .string s0, .int .i64 i1, .int .i64 i2, .string s1, .int .i64 i3, l1.v, .int .i64 i4, .int .i64 i5])) /\
   Keeps J0 w0 w1 /\
   ∃ l2 : Sl, ∃ w2 : World, ((Instr.buildSlice 23 1 #[.mk 0 (.agg #[.int .i64 i0, .string s0, .int .i64 i1, .int .i64 i2, .string s1, .int .i64 i3, l1.v, .int .i64 i4, .int .i64 i5])]).run Tryz.prog w1) = (.ok l2.v w2) /\
   Keeps J0 w1 w2 /\
   ∃ l3 : Sl, ∃ w3 : World, ((Builtin.append_ #[23, 23] 23 #[l0.v, l2.v]).run Tryz.prog w2) = (.ok l3.v w3) /\
   Keeps J0 w2 w3 /\
   ∃ k0 k1 : Nat, ∃ z0 : List Value, ∃ k2 : Nat, ccap0 = ⟨k0, k1, none⟩ /\
   Blk w3 k0 k2 z0 /\
   (k1 + 1) <= z0.length /\
   ∀ w4 : World, Only [k0] w3 w4 -> Blk w4 k0 k2 (splice z0 k1 [l3.v]) -> R (.tuple #[]) w4
theorem v104w (ccap0 ccap1 : Addr) (R : Value -> World -> Prop) (w : World) (h : v104v ccap0 ccap1 R w) : Cr 154 #[.pointer (some ccap0), .pointer (some ccap1)] w R :=
 fB (an := .o) (args := [.ad ccap0, .ad ccap1]) h
def v103v (r : Addr) (R : Value -> World -> Prop) (w : World) : Prop :=
  ∀ k0 : Nat, ∀ w0 : World, w.heap.size <= k0 -> k0 < w0.heap.size -> Only [] w w0 -> ∃ J0 : Nat -> Prop, ∀ w1 : World, Only [] w0 w1 -> J0 (((r.add 0).add 0).block) /\
  ∃ l0 : Sl, Cells w1 ((r.add 0).add 0) [l0.v] /\
  ∀ w2 : World, Only [] w1 w2 -> J0 (((r.add 0).add 1).block) /\
  ∃ i0 : Int, Cells w2 ((r.add 0).add 1) [.int .i64 i0] /\
  ∃ p0 : Addr, SlAt l0 i0 4 p0 /\
  ∀ w3 : World, Only [] w2 w3 -> J0 ((p0.add 3).block) /\
  ∃ i1 : Int, Cells w3 (p0.add 3) [.int .i64 i1] /\
  ∀ w4 : World, Only [] w3 w4 -> ∃ l1 : Sl, ∃ w5 : World, ((Instr.buildSlice 57 3 #[.mk 0 (.string (ByteArray.mk #[115, 101, 116])), .mk 1 (.string (ByteArray.mk #[114, 97, 105, 115, 101])), .mk 2 (.string (ByteArray.mk #[101, 109, 105, 116]))]).run Tryz.prog w4) = (.ok l1.v w5) /\
  Same [k0] w4 w5 /\
  Newer w0 w4 w5 /\
  Keeps J0 w4 w5 /\
  ∀ w6 : World, Only [] w5 w6 -> Calls Tryz.prog 78 #[.pointer (some (r.add 0)), l1.v] w6 fun e0 w7 => ∃ i2 : Int, e0 = (.returned (.int .i64 i2)) /\
   Same [k0] w6 w7 /\
   Newer w0 w6 w7 /\
   Keeps J0 w6 w7 /\
   ∀ w8 : World, Only [] w7 w8 -> ∀ k1 : Nat, w0.heap.size <= k1 -> k1 < w8.heap.size -> Apart [.mk w6.heap.size w7.heap.size, .mk w4.heap.size w5.heap.size] k1 -> ((i2 == 0) = true -> ∀ w9 : World, Only [k1] w8 w9 -> Calls Tryz.prog 44 #[.pointer (some (r.add 0))] w9 fun e1 w10 => e1 = (.returned (.tuple #[])) /\
     Same [k0, k1] w9 w10 /\
     ∀ w11 : World, Only [k0] w10 w11 -> R (.agg #[.int .i64 i2, .string (ByteArray.mk #[]), .int .i64 0, .int .i64 0, .string (ByteArray.mk #[]), .int .i64 0, Sl.nil.v, .int .i64 0, .int .i64 i1]) w11) /\
   ((i2 == 0) = false -> ∀ w12 : World, Only [k1] w8 w12 -> Calls Tryz.prog 75 #[.pointer (some r), .pointer (some ((r.add 4).add 4)), .int .i64 2] w12 fun e2 w13 => e2 = (.returned (.tuple #[])) /\
    Same [k0, k1] w12 w13 /\
    Calls Tryz.prog 43 #[.pointer (some (r.add 0))] w13 fun e3 w14 => ∃ b0 : Bool, e3 = (.returned (.bool b0)) /\
     Same [k0, k1] w13 w14 /\
     ((!b0) = true -> ∀ w15 : World, Only [k0] w14 w15 -> R (.agg #[.int .i64 i2, .string (ByteArray.mk #[]), .int .i64 0, .int .i64 0, .string (ByteArray.mk #[]), .int .i64 0, Sl.nil.v, .int .i64 0, .int .i64 i1]) w15) /\
     ((!b0) = false -> ∃ i3 : Int, Cells w14 ((r.add 0).add 1) [.int .i64 i3] /\
     ∃ k2 k3 : Nat, ∃ z0 : List Value, ∃ k4 : Nat, ((r.add 0).add 1) = ⟨k2, k3, none⟩ /\
     Blk w14 k2 k4 z0 /\
     (k3 + 1) <= z0.length /\
     k0 ≠ k2 /\
     k1 ≠ k2 /\
     ∀ w16 : World, Only [k2] w14 w16 -> Blk w16 k2 k4 (splice z0 k3 [.int .i64 (IntKind.wrap .i64 (i3 + 1))]) -> Calls Tryz.prog 122 #[.pointer (some (r.add 0))] w16 fun e4 w17 => ∃ s0 : ByteArray, e4 = (.returned (.string s0)) /\
      Same [k0, k1] w16 w17 /\
      ∀ w18 : World, Only [k1] w17 w18 -> ∃ J1 : Int -> ByteArray -> Int -> Int -> ByteArray -> Int -> Sl -> Int -> Int -> World -> Prop, (∀ i4 : Int, ∀ s1 : ByteArray, ∀ i5 i6 : Int, ∀ s2 : ByteArray, ∀ i7 : Int, ∀ l2 : Sl, ∀ i8 i9 : Int, ∀ w19 : World, J1 i4 s1 i5 i6 s2 i7 l2 i8 i9 w19 -> ∃ l3 : Sl, ∃ w20 : World, ((Instr.buildSlice 57 1 #[.mk 0 (.string (ByteArray.mk #[59]))]).run Tryz.prog w19) = (.ok l3.v w20) /\
       Same [k0, k1] w19 w20 /\
       Calls Tryz.prog 38 #[.pointer (some (r.add 0)), l3.v] w20 fun e5 w21 => e5 = (.returned (.tuple #[])) /\
        Same [k0, k1] w20 w21 /\
        ∀ w22 : World, Only [k0] w21 w22 -> R (.agg #[.int .i64 i4, .string s1, .int .i64 i5, .int .i64 i6, .string s2, .int .i64 i7, l2.v, .int .i64 i8, .int .i64 i9]) w22) /\
      ((i2 != 2) = true -> ∃ l4 : Sl, ∃ w23 : World, ((Instr.buildSlice 57 1 #[.mk 0 (.string (ByteArray.mk #[61]))]).run Tryz.prog w18) = (.ok l4.v w23) /\
       Same [k0, k1] w18 w23 /\
       Calls Tryz.prog 38 #[.pointer (some (r.add 0)), l4.v] w23 fun e6 w24 => e6 = (.returned (.tuple #[])) /\
        Same [k0, k1] w23 w24 /\
        Calls Tryz.prog 152 #[.pointer (some (r.add 0))] w24 fun e7 w25 => ∃ i10 i11 : Int, ∃ s3 : ByteArray, ∃ i12 : Int, ∃ l5 : Sl, ∃ i13 : Int, e7 = (.returned (.agg #[.int .i64 i10, .int .i64 i11, .string s3, .int .i64 i12, l5.v, .int .i64 i13])) /\
         Same [k0, k1] w24 w25 /\
         ∀ w26 : World, Only [k1] w25 w26 -> J1 i2 s0 i10 i11 s3 i12 l5 i13 i1 w26) /\
      ((i2 != 2) = false -> J1 i2 s0 0 0 (ByteArray.mk #[]) 0 Sl.nil 0 i1 w18)))
theorem v103w (r : Addr) (R : Value -> World -> Prop) (w : World) (h : v103v r R w) : Cr 155 #[.pointer (some r)] w R :=
 fB (an := .s .o (.s (.l false [] []) (.s (.s .o (.s (.s .o (.s .o .o)) .o)) (.s (.s .o (.s .o (.s (.s .o .o) .o))) (.s .o (.s .o (.j [0, 2, 3] [.b 3 [.int .i64, .str, .int .i64, .int .i64, .str, .int .i64, .sl, .int .i64, .int .i64]] (.s .o (.s (.s .o .o) .o)) (.s .o (.s .o .o))))))))) (args := [.ad r]) h
def v27v (n_ : Int) (ccap0 : Addr) (R : Value -> World -> Prop) (w : World) : Prop :=
  ∃ l0 : Sl, Cells w ccap0 [l0.v] /\
  Calls Tryz.prog 55 #[l0.v, .int .i64 n_] w fun e0 w0 => ∃ b0 : Bool, e0 = (.returned (.bool b0)) /\
   R (.bool (!b0)) w0
theorem v27w (n_ : Int) (ccap0 : Addr) (R : Value -> World -> Prop) (w : World) (h : v27v n_ ccap0 R w) : Cr 54 #[.int .i64 n_, .pointer (some ccap0)] w R :=
 fB (an := .s .o (.s .o .o)) (args := [.int .i64 n_, .ad ccap0]) h
end Go.Proofs.YtndkfaaeeojeiaaGreatDoor.Vc
namespace Go.Proofs
open Go.Shelf
def Tryz.lays156_ren : Go.Shelf.Ren := ⟨fun | 156 => 103 | 165 => 102 | 166 => 60 | 169 => 36 | 240 => 99 | 241 => 144 | 276 => 140 | 277 => 168 | n => n, fun | 31 => 57 | 9 => 9 | 3 => 3 | 4 => 4 | 0 => 0 | 20 => 20 | 72 => 66 | 76 => 115 | 70 => 63 | 37 => 64 | 75 => 114 | 127 => 123 | 164 => 195 | 5 => 5 | 80 => 78 | n => n, fun | n => n⟩
theorem Tryz.lays156 : Go.Proofs.Lays.n156 Tryz.prog Tryz.lays156_ren := {
 mixed := by kernel_rfl
 f156 := Tryz.func103.trans (congrArg some (by kernel_rfl))
 f165 := Tryz.func102.trans (congrArg some (by kernel_rfl))
 f166 := Tryz.func60.trans (congrArg some (by kernel_rfl))
 f169 := Tryz.func36.trans (congrArg some (by kernel_rfl))
 f240 := Tryz.func99.trans (congrArg some (by kernel_rfl))
 f241 := Tryz.func144.trans (congrArg some (by kernel_rfl))
 f276 := Tryz.func140.trans (congrArg some (by kernel_rfl))
 f277 := Tryz.func168.trans (congrArg some (by kernel_rfl))
 t0 := Tryz.underlying0
 a0 := Tryz.isAgg0
 z0 := Tryz.sizeOf0
 v0 := Tryz.zeroValue0
 t3 := Tryz.underlying3
 a3 := Tryz.isAgg3
 z3 := Tryz.sizeOf3
 v3 := Tryz.zeroValue3
 t4 := Tryz.underlying4
 a4 := Tryz.isAgg4
 z4 := Tryz.sizeOf4
 v4 := Tryz.zeroValue4
 t9 := Tryz.underlying9
 a9 := Tryz.isAgg9
 z9 := Tryz.sizeOf9
 v9 := Tryz.zeroValue9
 t20 := Tryz.underlying20
 a20 := Tryz.isAgg20
 z20 := Tryz.sizeOf20
 v20 := Tryz.zeroValue20
 t31 := Tryz.underlying57
 a31 := Tryz.isAgg57
 z31 := Tryz.sizeOf57
 v31 := Tryz.zeroValue57
 t37 := Tryz.underlying64
 a37 := Tryz.isAgg64
 z37 := Tryz.sizeOf64
 v37 := Tryz.zeroValue64
 t70 := Tryz.underlying63
 a70 := Tryz.isAgg63
 z70 := Tryz.sizeOf63
 v70 := Tryz.zeroValue63
 t72 := Tryz.underlying66
 a72 := Tryz.isAgg66
 z72 := Tryz.sizeOf66
 v72 := Tryz.zeroValue66
 t75 := Tryz.underlying114
 a75 := Tryz.isAgg114
 z75 := Tryz.sizeOf114
 v75 := Tryz.zeroValue114
 t76 := Tryz.underlying115
 a76 := Tryz.isAgg115
 z76 := Tryz.sizeOf115
 v76 := Tryz.zeroValue115
 t127 := Tryz.underlying123
 a127 := Tryz.isAgg123
 z127 := Tryz.sizeOf123
 v127 := Tryz.zeroValue123
 t164 := Tryz.underlying195
 a164 := Tryz.isAgg195
 z164 := Tryz.sizeOf195
 v164 := Tryz.zeroValue195 }
theorem Tryz.Builder_Extra_156 : Builder.Extra Tryz.prog Tryz.lays156_ren := {
 sizeBuilder := by kernel_rfl
 liesBuilder := by kernel_rfl
 t5 := Tryz.underlying5
 a5 := Tryz.isAgg5
 z5 := Tryz.sizeOf5
 v5 := Tryz.zeroValue5
 infoByte := by kernel_rfl
 cellsByte := by kernel_rfl
 sizeByte := by kernel_rfl
 neB5 := by decide }
open Go.RowKit in
theorem Tryz.strings_Join_none (a : Option Addr) (c : Nat) (sep : ByteArray) (w : World) :
  Calls Tryz.prog 103 #[.slice a 0 c, .string sep] w fun e w' => e = .returned (.string ⟨#[]⟩) /\ w' = w := Any.strings_Join_none Tryz.lays156 Tryz.Builder_Extra_156 a c sep w
open Go.RowKit in
theorem Tryz.strings_Join (bk o c : Nat) (xs : List ByteArray) (sep : ByteArray) (w : World) (hcells : ∀ (j : Nat) x, xs[j]? = some x -> w.cell? ⟨bk, o + j, none⟩ = some (.string x)) (hbk : bk < w.heap.size) (hN : xs.length <= 140737488355328) (hcap : xs.length <= c) (hlen : (Lib.join (xs.map (·.data.toList)) sep.data.toList).length <= 140737488355328) :
  Calls Tryz.prog 103 #[.slice (some ⟨bk, o, none⟩) xs.length c, .string sep] w fun e w' => e = .returned (.string ⟨(Lib.join (xs.map (·.data.toList)) sep.data.toList).toArray⟩) /\ Below w.heap.size w w' := Any.strings_Join Tryz.lays156 Tryz.Builder_Extra_156 bk o c xs sep w hcells hbk hN hcap hlen
def Tryz.laysM171_ren : Go.Shelf.Ren := ⟨fun | 171 => 64 | 243 => 109 | 246 => 146 | 283 => 169 | 284 => 170 | 285 => 171 | 286 => 172 | 129 => 196 | 317 => 195 | 318 => 197 | 319 => 198 | 320 => 199 | 337 => 216 | 338 => 217 | n => n, fun | 3 => 3 | 9 => 9 | 2 => 2 | 4 => 4 | 171 => 220 | 0 => 0 | 53 => 149 | 37 => 64 | 5 => 5 | 173 => 223 | 212 => 247 | 51 => 197 | 20 => 20 | 213 => 248 | 46 => 163 | 232 => 276 | 233 => 277 | n => n, fun | 17 => 3 | 18 => 4 | 19 => 5 | n => n⟩
theorem Tryz.laysM171 : Go.Proofs.LaysM.n171 Tryz.prog Tryz.laysM171_ren := {
 mixed := by kernel_rfl
 f129 := Tryz.func196.trans (congrArg some (by kernel_rfl))
 f171 := Tryz.func64.trans (congrArg some (by kernel_rfl))
 f243 := Tryz.func109.trans (congrArg some (by kernel_rfl))
 f246 := Tryz.func146.trans (congrArg some (by kernel_rfl))
 f283 := Tryz.func169.trans (congrArg some (by kernel_rfl))
 f284 := Tryz.func170.trans (congrArg some (by kernel_rfl))
 f285 := Tryz.func171.trans (congrArg some (by kernel_rfl))
 f286 := Tryz.func172.trans (congrArg some (by kernel_rfl))
 f317 := Tryz.func195.trans (congrArg some (by kernel_rfl))
 f318 := Tryz.func197.trans (congrArg some (by kernel_rfl))
 f319 := Tryz.func198.trans (congrArg some (by kernel_rfl))
 f320 := Tryz.func199.trans (congrArg some (by kernel_rfl))
 f337 := Tryz.func216.trans (congrArg some (by kernel_rfl))
 f338 := Tryz.func217.trans (congrArg some (by kernel_rfl))
 t0 := Tryz.underlying0
 a0 := Tryz.isAgg0
 z0 := Tryz.sizeOf0
 v0 := Tryz.zeroValue0
 t2 := Tryz.underlying2
 a2 := Tryz.isAgg2
 z2 := Tryz.sizeOf2
 v2 := Tryz.zeroValue2
 t3 := Tryz.underlying3
 a3 := Tryz.isAgg3
 z3 := Tryz.sizeOf3
 v3 := Tryz.zeroValue3
 t4 := Tryz.underlying4
 a4 := Tryz.isAgg4
 z4 := Tryz.sizeOf4
 v4 := Tryz.zeroValue4
 t5 := Tryz.underlying5
 a5 := Tryz.isAgg5
 z5 := Tryz.sizeOf5
 v5 := Tryz.zeroValue5
 t9 := Tryz.underlying9
 a9 := Tryz.isAgg9
 z9 := Tryz.sizeOf9
 v9 := Tryz.zeroValue9
 t20 := Tryz.underlying20
 a20 := Tryz.isAgg20
 z20 := Tryz.sizeOf20
 v20 := Tryz.zeroValue20
 t37 := Tryz.underlying64
 a37 := Tryz.isAgg64
 z37 := Tryz.sizeOf64
 v37 := Tryz.zeroValue64
 t46 := Tryz.underlying163
 a46 := Tryz.isAgg163
 z46 := Tryz.sizeOf163
 v46 := Tryz.zeroValue163
 t51 := Tryz.underlying197
 a51 := Tryz.isAgg197
 z51 := Tryz.sizeOf197
 v51 := Tryz.zeroValue197
 t53 := Tryz.underlying149
 a53 := Tryz.isAgg149
 z53 := Tryz.sizeOf149
 v53 := Tryz.zeroValue149
 t171 := Tryz.underlying220
 a171 := Tryz.isAgg220
 z171 := Tryz.sizeOf220
 v171 := Tryz.zeroValue220
 t173 := Tryz.underlying223
 a173 := Tryz.isAgg223
 z173 := Tryz.sizeOf223
 v173 := Tryz.zeroValue223
 t212 := Tryz.underlying247
 a212 := Tryz.isAgg247
 z212 := Tryz.sizeOf247
 v212 := Tryz.zeroValue247
 t213 := Tryz.underlying248
 a213 := Tryz.isAgg248
 z213 := Tryz.sizeOf248
 t232 := Tryz.underlying276
 a232 := Tryz.isAgg276
 z232 := Tryz.sizeOf276
 v232 := Tryz.zeroValue276
 t233 := Tryz.underlying277
 a233 := Tryz.isAgg277
 z233 := Tryz.sizeOf277
 v233 := Tryz.zeroValue277
 g17 := by kernel_rfl
 g18 := by kernel_rfl
 g19 := by kernel_rfl
 i0 := by kernel_rfl
 i2 := by kernel_rfl
 i3 := by kernel_rfl
 i4 := by kernel_rfl
 i5 := by kernel_rfl
 i9 := by kernel_rfl
 i20 := by kernel_rfl
 i37 := by kernel_rfl
 i46 := by kernel_rfl
 i51 := by kernel_rfl
 i53 := by kernel_rfl
 i171 := by kernel_rfl
 i173 := by kernel_rfl
 i212 := by kernel_rfl
 i232 := by kernel_rfl
 i233 := by kernel_rfl
 m17 := by kernel_rfl
 m18 := by kernel_rfl
 m19 := by kernel_rfl }
open Go.RowKit Go.Sort Go.Lib in
theorem Tryz.strconv_Itoa (n : Int) (h0 : -9223372036854775808 <= n) (h1 : n <= 9223372036854775807) (w : World) (htab : Lib.TabIs Tryz.prog w "internal/strconv.uint64pow10" .u64 Lib.pow10Tab) :
  Calls Tryz.prog 64 #[.int .i64 n] w fun e w' => e = .returned (.string ⟨(Lib.itoa n).toArray⟩) /\ ∃ k os, w' = grow (w.drewN k) os := Any.strconv_Itoa Tryz.laysM171 n h0 h1 w htab
def Tryz.laysM316_ren : Go.Shelf.Ren := ⟨fun | 316 => 178 | n => n, fun | 9 => 9 | 3 => 3 | 4 => 4 | 37 => 64 | 0 => 0 | 127 => 123 | 5 => 5 | n => n, fun | n => n⟩
theorem Tryz.laysM316 : Go.Proofs.LaysM.n316 Tryz.prog Tryz.laysM316_ren := {
 mixed := by kernel_rfl
 f316 := Tryz.func178.trans (congrArg some (by kernel_rfl))
 t0 := Tryz.underlying0
 a0 := Tryz.isAgg0
 z0 := Tryz.sizeOf0
 v0 := Tryz.zeroValue0
 t3 := Tryz.underlying3
 a3 := Tryz.isAgg3
 z3 := Tryz.sizeOf3
 v3 := Tryz.zeroValue3
 t4 := Tryz.underlying4
 a4 := Tryz.isAgg4
 z4 := Tryz.sizeOf4
 v4 := Tryz.zeroValue4
 t9 := Tryz.underlying9
 a9 := Tryz.isAgg9
 z9 := Tryz.sizeOf9
 v9 := Tryz.zeroValue9
 t37 := Tryz.underlying64
 a37 := Tryz.isAgg64
 z37 := Tryz.sizeOf64
 v37 := Tryz.zeroValue64
 t127 := Tryz.underlying123
 a127 := Tryz.isAgg123
 z127 := Tryz.sizeOf123
 v127 := Tryz.zeroValue123
 t5 := Tryz.underlying5
 a5 := Tryz.isAgg5
 z5 := Tryz.sizeOf5
 v5 := Tryz.zeroValue5
 i0 := by kernel_rfl
 i3 := by kernel_rfl
 i4 := by kernel_rfl
 i5 := by kernel_rfl
 i9 := by kernel_rfl
 i37 := by kernel_rfl
 i127 := by kernel_rfl }
open Go.RowKit in
theorem Tryz.stringslite_Clone (s : ByteArray) (w : World) (hlim : s.size <= 281474976710656) :
  Calls Tryz.prog 178 #[.string s] w fun e w' => e = .returned (.string s) /\ Below w.heap.size w w' := Any.stringslite_Clone Tryz.laysM316 s w hlim
def Tryz.laysC174_ren : Go.Shelf.Ren := ⟨fun | 174 => 180 | 247 => 205 | 245 => 206 | 287 => 219 | 279 => 220 | 280 => 221 | 281 => 222 | 282 => 223 | 321 => 230 | 322 => 231 | 316 => 178 | 171 => 64 | 205 => 232 | 243 => 109 | 246 => 146 | 283 => 169 | 284 => 170 | 285 => 171 | 286 => 172 | 129 => 196 | 317 => 195 | 318 => 197 | 319 => 198 | 320 => 199 | 337 => 216 | 338 => 217 | n => n, fun | 9 => 9 | 3 => 3 | 2 => 2 | 75 => 114 | 85 => 230 | 4 => 4 | 167 => 269 | 5 => 5 | 53 => 149 | 175 => 270 | 46 => 163 | 168 => 272 | 37 => 64 | 0 => 0 | 210 => 280 | 21 => 21 | 127 => 123 | 145 => 287 | 143 => 285 | 171 => 220 | 173 => 223 | 212 => 247 | 51 => 197 | 20 => 20 | 213 => 248 | 232 => 276 | 233 => 277 | 80 => 78 | n => n, fun | 15 => 6 | 16 => 7 | 17 => 3 | 18 => 4 | 19 => 5 | n => n⟩
theorem Tryz.laysC174 : Go.Proofs.LaysC.n174 Tryz.prog Tryz.laysC174_ren := {
 mixed := by kernel_rfl
 f129 := Tryz.func196.trans (congrArg some (by kernel_rfl))
 f171 := Tryz.func64.trans (congrArg some (by kernel_rfl))
 f174 := Tryz.func180.trans (congrArg some (by kernel_rfl))
 f205 := Tryz.func232.trans (congrArg some (by kernel_rfl))
 f243 := Tryz.func109.trans (congrArg some (by kernel_rfl))
 f245 := Tryz.func206.trans (congrArg some (by kernel_rfl))
 f246 := Tryz.func146.trans (congrArg some (by kernel_rfl))
 f247 := Tryz.func205.trans (congrArg some (by kernel_rfl))
 f279 := Tryz.func220.trans (congrArg some (by kernel_rfl))
 f280 := Tryz.func221.trans (congrArg some (by kernel_rfl))
 f281 := Tryz.func222.trans (congrArg some (by kernel_rfl))
 f282 := Tryz.func223.trans (congrArg some (by kernel_rfl))
 f283 := Tryz.func169.trans (congrArg some (by kernel_rfl))
 f284 := Tryz.func170.trans (congrArg some (by kernel_rfl))
 f285 := Tryz.func171.trans (congrArg some (by kernel_rfl))
 f286 := Tryz.func172.trans (congrArg some (by kernel_rfl))
 f287 := Tryz.func219.trans (congrArg some (by kernel_rfl))
 f316 := Tryz.func178.trans (congrArg some (by kernel_rfl))
 f317 := Tryz.func195.trans (congrArg some (by kernel_rfl))
 f318 := Tryz.func197.trans (congrArg some (by kernel_rfl))
 f319 := Tryz.func198.trans (congrArg some (by kernel_rfl))
 f320 := Tryz.func199.trans (congrArg some (by kernel_rfl))
 f321 := Tryz.func230.trans (congrArg some (by kernel_rfl))
 f322 := Tryz.func231.trans (congrArg some (by kernel_rfl))
 f337 := Tryz.func216.trans (congrArg some (by kernel_rfl))
 f338 := Tryz.func217.trans (congrArg some (by kernel_rfl))
 t0 := Tryz.underlying0
 a0 := Tryz.isAgg0
 z0 := Tryz.sizeOf0
 v0 := Tryz.zeroValue0
 t2 := Tryz.underlying2
 a2 := Tryz.isAgg2
 z2 := Tryz.sizeOf2
 v2 := Tryz.zeroValue2
 t3 := Tryz.underlying3
 a3 := Tryz.isAgg3
 z3 := Tryz.sizeOf3
 v3 := Tryz.zeroValue3
 t4 := Tryz.underlying4
 a4 := Tryz.isAgg4
 z4 := Tryz.sizeOf4
 v4 := Tryz.zeroValue4
 t5 := Tryz.underlying5
 a5 := Tryz.isAgg5
 z5 := Tryz.sizeOf5
 v5 := Tryz.zeroValue5
 t9 := Tryz.underlying9
 a9 := Tryz.isAgg9
 z9 := Tryz.sizeOf9
 v9 := Tryz.zeroValue9
 t20 := Tryz.underlying20
 a20 := Tryz.isAgg20
 z20 := Tryz.sizeOf20
 v20 := Tryz.zeroValue20
 t21 := Tryz.underlying21
 a21 := Tryz.isAgg21
 z21 := Tryz.sizeOf21
 v21 := Tryz.zeroValue21
 t37 := Tryz.underlying64
 a37 := Tryz.isAgg64
 z37 := Tryz.sizeOf64
 v37 := Tryz.zeroValue64
 t46 := Tryz.underlying163
 a46 := Tryz.isAgg163
 z46 := Tryz.sizeOf163
 v46 := Tryz.zeroValue163
 t51 := Tryz.underlying197
 a51 := Tryz.isAgg197
 z51 := Tryz.sizeOf197
 v51 := Tryz.zeroValue197
 t53 := Tryz.underlying149
 a53 := Tryz.isAgg149
 z53 := Tryz.sizeOf149
 v53 := Tryz.zeroValue149
 t75 := Tryz.underlying114
 a75 := Tryz.isAgg114
 z75 := Tryz.sizeOf114
 v75 := Tryz.zeroValue114
 t85 := Tryz.underlying230
 a85 := Tryz.isAgg230
 z85 := Tryz.sizeOf230
 v85 := Tryz.zeroValue230
 t127 := Tryz.underlying123
 a127 := Tryz.isAgg123
 z127 := Tryz.sizeOf123
 v127 := Tryz.zeroValue123
 t143 := Tryz.underlying285
 a143 := Tryz.isAgg285
 z143 := Tryz.sizeOf285
 v143 := Tryz.zeroValue285
 t145 := Tryz.underlying287
 a145 := Tryz.isAgg287
 z145 := Tryz.sizeOf287
 v145 := Tryz.zeroValue287
 t167 := Tryz.underlying269
 a167 := Tryz.isAgg269
 z167 := Tryz.sizeOf269
 v167 := Tryz.zeroValue269
 t168 := Tryz.underlying272
 a168 := Tryz.isAgg272
 z168 := Tryz.sizeOf272
 v168 := Tryz.zeroValue272
 t171 := Tryz.underlying220
 a171 := Tryz.isAgg220
 z171 := Tryz.sizeOf220
 v171 := Tryz.zeroValue220
 t173 := Tryz.underlying223
 a173 := Tryz.isAgg223
 z173 := Tryz.sizeOf223
 v173 := Tryz.zeroValue223
 t175 := Tryz.underlying270
 a175 := Tryz.isAgg270
 z175 := Tryz.sizeOf270
 v175 := Tryz.zeroValue270
 t210 := Tryz.underlying280
 a210 := Tryz.isAgg280
 z210 := Tryz.sizeOf280
 v210 := Tryz.zeroValue280
 t212 := Tryz.underlying247
 a212 := Tryz.isAgg247
 z212 := Tryz.sizeOf247
 v212 := Tryz.zeroValue247
 t213 := Tryz.underlying248
 a213 := Tryz.isAgg248
 z213 := Tryz.sizeOf248
 t232 := Tryz.underlying276
 a232 := Tryz.isAgg276
 z232 := Tryz.sizeOf276
 v232 := Tryz.zeroValue276
 t233 := Tryz.underlying277
 a233 := Tryz.isAgg277
 z233 := Tryz.sizeOf277
 v233 := Tryz.zeroValue277
 g15 := by kernel_rfl
 g16 := by kernel_rfl
 g17 := by kernel_rfl
 g18 := by kernel_rfl
 g19 := by kernel_rfl
 t80 := Tryz.underlying78
 a80 := Tryz.isAgg78
 z80 := Tryz.sizeOf78
 v80 := Tryz.zeroValue78
 i0 := by kernel_rfl
 i2 := by kernel_rfl
 i3 := by kernel_rfl
 i4 := by kernel_rfl
 i5 := by kernel_rfl
 i9 := by kernel_rfl
 i20 := by kernel_rfl
 i21 := by kernel_rfl
 i37 := by kernel_rfl
 i46 := by kernel_rfl
 i51 := by kernel_rfl
 i53 := by kernel_rfl
 i75 := by kernel_rfl
 i80 := by kernel_rfl
 i85 := by kernel_rfl
 i127 := by kernel_rfl
 i143 := by kernel_rfl
 i145 := by kernel_rfl
 i167 := by kernel_rfl
 i168 := by kernel_rfl
 i171 := by kernel_rfl
 i173 := by kernel_rfl
 i175 := by kernel_rfl
 i210 := by kernel_rfl
 i212 := by kernel_rfl
 i232 := by kernel_rfl
 i233 := by kernel_rfl
 m15 := by kernel_rfl
 m16 := by kernel_rfl
 m17 := by kernel_rfl
 m18 := by kernel_rfl
 m19 := by kernel_rfl
 c0 := by kernel_rfl
 c2 := by kernel_rfl
 c3 := by kernel_rfl
 c4 := by kernel_rfl
 c5 := by kernel_rfl
 c9 := by kernel_rfl
 c20 := by kernel_rfl
 c21 := by kernel_rfl
 c37 := by kernel_rfl
 c46 := by kernel_rfl
 c51 := by kernel_rfl
 c53 := by kernel_rfl
 c75 := by kernel_rfl
 c80 := by kernel_rfl
 c85 := by kernel_rfl
 c127 := by kernel_rfl
 c143 := by kernel_rfl
 c145 := by kernel_rfl
 c167 := by kernel_rfl
 c168 := by kernel_rfl
 c171 := by kernel_rfl
 c173 := by kernel_rfl
 c175 := by kernel_rfl
 c210 := by kernel_rfl
 c212 := by kernel_rfl
 c213 := by kernel_rfl
 c232 := by kernel_rfl
 c233 := by kernel_rfl }
open Go.RowKit in
theorem Tryz.strconv_ParseInt_10_at64_ok (s : ByteArray) (hmax : s.size <= 9223372036854775806) (v : Int) (h : Lib.parseIntB 64 s.data.toList = .ok v) (w : World) :
  Calls Tryz.prog 180 #[.string s, .int .i64 10, .int .i64 64] w fun e w' => e = .returned (.tuple #[.int .i64 v, .nilIface]) /\ (w' = w ∨ ∃ t, w' = Lib.bytesWorld w 5 t) := Any.strconv_ParseInt_10_at64_ok Tryz.laysC174 s hmax v h w
open Go.RowKit in
theorem Tryz.strconv_ParseInt_10_at64_range_var (s : ByteArray) (hlim : s.size <= 281474976710656) (h : Lib.parseIntB 64 s.data.toList = .range) (tp : TypeId) (p : Value) (w : World) (hvar : w.var? Tryz.prog "strconv.ErrRange" = some #[.iface tp p]) :
  Calls Tryz.prog 180 #[.string s, .int .i64 10, .int .i64 64] w fun e w' => ∃ N, e = .returned (.tuple #[.int .i64 (Lib.intSat 64 s.data.toList), .iface 272 (.pointer (some ⟨N, 0, none⟩))]) /\ w.heap.size <= N /\ w'.heap[N]? = some (.cells #[.string ⟨#[80, 97, 114, 115, 101, 73, 110, 116]⟩, .string s, .iface tp p] 280 (0, 0)) /\ Below w.heap.size w w' := Any.strconv_ParseInt_10_at64_range_var Tryz.laysC174 s hlim h tp p w hvar
def Tryz.lays219_ren : Go.Shelf.Ren := ⟨fun | 219 => 162 | 217 => 182 | 225 => 183 | 224 => 184 | 267 => 185 | 266 => 211 | 314 => 212 | n => n, fun | 9 => 9 | 3 => 3 | 4 => 4 | 5 => 5 | 46 => 163 | 146 => 198 | 51 => 197 | n => n, fun | 1 => 0 | n => n⟩
theorem Tryz.lays219 : Go.Proofs.Lays.n219 Tryz.prog Tryz.lays219_ren := {
 mixed := by kernel_rfl
 f217 := Tryz.func182.trans (congrArg some (by kernel_rfl))
 f219 := Tryz.func162.trans (congrArg some (by kernel_rfl))
 f224 := Tryz.func184.trans (congrArg some (by kernel_rfl))
 f225 := Tryz.func183.trans (congrArg some (by kernel_rfl))
 f266 := Tryz.func211.trans (congrArg some (by kernel_rfl))
 f267 := Tryz.func185.trans (congrArg some (by kernel_rfl))
 f314 := Tryz.func212.trans (congrArg some (by kernel_rfl))
 t3 := Tryz.underlying3
 a3 := Tryz.isAgg3
 z3 := Tryz.sizeOf3
 v3 := Tryz.zeroValue3
 t4 := Tryz.underlying4
 a4 := Tryz.isAgg4
 z4 := Tryz.sizeOf4
 v4 := Tryz.zeroValue4
 t5 := Tryz.underlying5
 a5 := Tryz.isAgg5
 z5 := Tryz.sizeOf5
 v5 := Tryz.zeroValue5
 t9 := Tryz.underlying9
 a9 := Tryz.isAgg9
 z9 := Tryz.sizeOf9
 v9 := Tryz.zeroValue9
 t46 := Tryz.underlying163
 a46 := Tryz.isAgg163
 z46 := Tryz.sizeOf163
 v46 := Tryz.zeroValue163
 t51 := Tryz.underlying197
 a51 := Tryz.isAgg197
 z51 := Tryz.sizeOf197
 v51 := Tryz.zeroValue197
 t146 := Tryz.underlying198
 a146 := Tryz.isAgg198
 z146 := Tryz.sizeOf198
 v146 := Tryz.zeroValue198
 g1 := by kernel_rfl }
open Go.RowKit Go.Lib in
theorem Tryz.stringslite_Index_one (s : ByteArray) (c : UInt8) (w : World) :
  Calls Tryz.prog 162 #[.string s, .string ⟨#[c]⟩] w fun e w' => e = .returned (.int .i64 (Lib.indexByte s.data.toList c)) /\ w' = w := Any.stringslite_Index_one Tryz.lays219 s c w
def Tryz.lays105_ren : Go.Shelf.Ren := ⟨fun | 105 => 61 | 212 => 100 | 99 => 101 | 165 => 102 | 166 => 60 | 170 => 69 | 169 => 36 | 263 => 141 | 264 => 142 | 206 => 143 | 240 => 99 | 241 => 144 | 276 => 140 | 277 => 168 | n => n, fun | 9 => 9 | 3 => 3 | 4 => 4 | 20 => 20 | 0 => 0 | 46 => 163 | 109 => 164 | 5 => 5 | 72 => 66 | 76 => 115 | 51 => 197 | 146 => 198 | 53 => 149 | 148 => 200 | 70 => 63 | 37 => 64 | 75 => 114 | 127 => 123 | 164 => 195 | 80 => 78 | n => n, fun | n => n⟩
theorem Tryz.lays105 : Go.Proofs.Lays.n105 Tryz.prog Tryz.lays105_ren := {
 mixed := by kernel_rfl
 f99 := Tryz.func101.trans (congrArg some (by kernel_rfl))
 f105 := Tryz.func61.trans (congrArg some (by kernel_rfl))
 f165 := Tryz.func102.trans (congrArg some (by kernel_rfl))
 f166 := Tryz.func60.trans (congrArg some (by kernel_rfl))
 f169 := Tryz.func36.trans (congrArg some (by kernel_rfl))
 f170 := Tryz.func69.trans (congrArg some (by kernel_rfl))
 f206 := Tryz.func143.trans (congrArg some (by kernel_rfl))
 f212 := Tryz.func100.trans (congrArg some (by kernel_rfl))
 f240 := Tryz.func99.trans (congrArg some (by kernel_rfl))
 f241 := Tryz.func144.trans (congrArg some (by kernel_rfl))
 f263 := Tryz.func141.trans (congrArg some (by kernel_rfl))
 f264 := Tryz.func142.trans (congrArg some (by kernel_rfl))
 f276 := Tryz.func140.trans (congrArg some (by kernel_rfl))
 f277 := Tryz.func168.trans (congrArg some (by kernel_rfl))
 t0 := Tryz.underlying0
 a0 := Tryz.isAgg0
 z0 := Tryz.sizeOf0
 v0 := Tryz.zeroValue0
 t3 := Tryz.underlying3
 a3 := Tryz.isAgg3
 z3 := Tryz.sizeOf3
 v3 := Tryz.zeroValue3
 t4 := Tryz.underlying4
 a4 := Tryz.isAgg4
 z4 := Tryz.sizeOf4
 v4 := Tryz.zeroValue4
 t5 := Tryz.underlying5
 a5 := Tryz.isAgg5
 z5 := Tryz.sizeOf5
 v5 := Tryz.zeroValue5
 t9 := Tryz.underlying9
 a9 := Tryz.isAgg9
 z9 := Tryz.sizeOf9
 v9 := Tryz.zeroValue9
 t20 := Tryz.underlying20
 a20 := Tryz.isAgg20
 z20 := Tryz.sizeOf20
 v20 := Tryz.zeroValue20
 t37 := Tryz.underlying64
 a37 := Tryz.isAgg64
 z37 := Tryz.sizeOf64
 v37 := Tryz.zeroValue64
 t46 := Tryz.underlying163
 a46 := Tryz.isAgg163
 z46 := Tryz.sizeOf163
 v46 := Tryz.zeroValue163
 t51 := Tryz.underlying197
 a51 := Tryz.isAgg197
 z51 := Tryz.sizeOf197
 v51 := Tryz.zeroValue197
 t53 := Tryz.underlying149
 a53 := Tryz.isAgg149
 z53 := Tryz.sizeOf149
 v53 := Tryz.zeroValue149
 t70 := Tryz.underlying63
 a70 := Tryz.isAgg63
 z70 := Tryz.sizeOf63
 v70 := Tryz.zeroValue63
 t72 := Tryz.underlying66
 a72 := Tryz.isAgg66
 z72 := Tryz.sizeOf66
 v72 := Tryz.zeroValue66
 t75 := Tryz.underlying114
 a75 := Tryz.isAgg114
 z75 := Tryz.sizeOf114
 v75 := Tryz.zeroValue114
 t76 := Tryz.underlying115
 a76 := Tryz.isAgg115
 z76 := Tryz.sizeOf115
 v76 := Tryz.zeroValue115
 t109 := Tryz.underlying164
 a109 := Tryz.isAgg164
 z109 := Tryz.sizeOf164
 v109 := Tryz.zeroValue164
 t127 := Tryz.underlying123
 a127 := Tryz.isAgg123
 z127 := Tryz.sizeOf123
 v127 := Tryz.zeroValue123
 t146 := Tryz.underlying198
 a146 := Tryz.isAgg198
 z146 := Tryz.sizeOf198
 v146 := Tryz.zeroValue198
 t148 := Tryz.underlying200
 a148 := Tryz.isAgg200
 z148 := Tryz.sizeOf200
 v148 := Tryz.zeroValue200
 t164 := Tryz.underlying195
 a164 := Tryz.isAgg195
 z164 := Tryz.sizeOf195
 v164 := Tryz.zeroValue195 }
theorem Tryz.Builder_Extra_105 : Builder.Extra Tryz.prog Tryz.lays105_ren := {
 sizeBuilder := by kernel_rfl
 liesBuilder := by kernel_rfl
 t5 := Tryz.underlying5
 a5 := Tryz.isAgg5
 z5 := Tryz.sizeOf5
 v5 := Tryz.zeroValue5
 infoByte := by kernel_rfl
 cellsByte := by kernel_rfl
 sizeByte := by kernel_rfl
 neB5 := by decide }
open Go.RowKit Go.Lib in
theorem Tryz.strings_Repeat (s : ByteArray) (c : Nat) (w : World) (hc : c <= 9223372036854775807) (hlen : s.size * c <= 140737488355328) :
  Calls Tryz.prog 61 #[.string s, .int .i64 c] w fun e w' => e = .returned (.string ⟨(Lib.repeatL s.data.toList c).toArray⟩) /\ Below w.heap.size w w' := Any.strings_Repeat Tryz.lays105 Tryz.Builder_Extra_105 s c w hc hlen
end Go.Proofs
namespace Go.Proofs.YtndkfaaeeojeiaaGreatDoor.Con
open Go Go.RowKit Go.Kt Go.Kt.V Go.Proofs.YtndkfaaeeojeiaaGreatDoor.Vc
set_option linter.unusedSimpArgs false
set_option linter.unusedVariables false
theorem ret {P : Program} {f : FuncId} {a : Array Value} {w : World} {r : Value} {Q : World -> Prop} (h : Calls P f a w fun e w' => ∃ v, e = .returned v /\ v = r /\ Q w') : Calls P f a w fun e w' => e = .returned r /\ Q w' :=
 h.mono (by rintro e w' ⟨v, rfl, rfl, hq⟩; exact ⟨rfl, hq⟩)
theorem Blk.at1 {w : World} {b : Nat} {t : TypeId} {cs : List Value} (h : Blk w b t cs) (j : Nat) {v : Value} (hv : cs[j]? = some v) : Cells w ((⟨b, 0, none⟩ : Addr).add j) [v] := by
 rw [addr_lit, Nat.zero_add]
 exact h.cells j [v] fun k u hk => by
  cases k with
  | zero => simp only [List.getElem?_cons_zero, Option.some.injEq] at hk; subst hk; exact hv
  | succ k => simp at hk
def letterB (c : UInt8) : Bool := (65 <= c.toNat && c.toNat <= 90) || (97 <= c.toNat && c.toNat <= 122) || c.toNat == 95
def digitB (c : UInt8) : Bool := 48 <= c.toNat && c.toNat <= 57
def wordB (c : UInt8) : Bool := letterB c || digitB c
def blankB (c : UInt8) : Bool := [9, 10, 13, 32].contains c
theorem letter_all : ∀ n : Fin 256, (((decide (97 <= (bits .or .u8 (n.val : Int) 32))) && (decide ((bits .or .u8 (n.val : Int) 32) <= 122))) || ((n.val : Int) == 95)) = ((65 <= n.val && n.val <= 90) || (97 <= n.val && n.val <= 122) || n.val == 95) := by decide +kernel
theorem letter_c (w : World) (c : UInt8) : Calls Tryz.prog 106 #[.int .u8 (c.toNat : Int)] w fun e w' => e = .returned (.bool (letterB c)) /\ Only [] w w' := by
 refine ret (v72w _ (fun v w' => v = .bool (letterB c) /\ Only [] w w') w ?_)
 unfold v72v
 exact ⟨by rw [letter_all ⟨c.toNat, c.toNat_lt⟩]; rfl, Only.refl _ _⟩
theorem digit_c (w : World) (c : UInt8) : Calls Tryz.prog 117 #[.int .u8 (c.toNat : Int)] w fun e w' => e = .returned (.bool (digitB c)) /\ Only [] w w' := by
 refine ret (v71w _ (fun v w' => v = .bool (digitB c) /\ Only [] w w') w ?_)
 unfold v71v
 refine ⟨?_, Only.refl _ _⟩
 congr 1
 rw [Bool.eq_iff_iff]
 simp only [digitB, Bool.and_eq_true, decide_eq_true_eq]
 omega
theorem cdigit_c (w : World) (c : UInt8) : Calls Tryz.prog 179 #[.int .u8 (c.toNat : Int)] w fun e w' => e = .returned (.bool (digitB c)) /\ Only [] w w' := by
 refine ret (v2w _ (fun v w' => v = .bool (digitB c) /\ Only [] w w') w ?_)
 unfold v2v
 refine ⟨?_, Only.refl _ _⟩
 have h : ∀ n : Fin 256, decide ((IntKind.wrap .u8 ((n.val : Int) - 48)) < 10) = (decide (48 <= n.val) && decide (n.val <= 57)) := by decide +kernel
 rw [h ⟨c.toNat, c.toNat_lt⟩]
 rfl
theorem indexB_c {w : World} {F : Nat -> Prop} {s : Sl} {l : List UInt8} (h : SliceF rByte 1 w F s l) (c : UInt8) :
  Calls Tryz.prog 177 #[Sl.v s, .int .u8 (c.toNat : Int)] w fun e w' => ∃ i : Int, e = .returned (.int .i64 i) /\ decide (i >= 0) = l.contains c /\ Only [] w w' := by
 refine (v83w s _ (fun v w' => ∃ i : Int, v = .int .i64 i /\ decide (i >= 0) = l.contains c /\ Only [] w w') w ?_).mono (by
  rintro e w' ⟨v, rfl, i, rfl, h⟩; exact ⟨i, rfl, h⟩)
 unfold v83v
 have hlen := h.len
 have hbig := h.big
 have hcap := h.cap
 refine ⟨fun nv i w' => ∃ n : Nat, n <= l.length /\ i = (n : Int) /\ nv = l.length - n /\ (∀ x, x ∈ l.take n -> x ≠ c) /\ w' = w, l.length, ⟨0, Nat.zero_le _, rfl, rfl, by simp, rfl⟩, ?_⟩
 rintro nv _ _ ⟨n, hn, rfl, rfl, hp, rfl⟩
 refine ⟨fun hc => ?_, fun hc => ?_⟩
 · have hlt : (n : Int) < s.n := of_decide_eq_true hc
   obtain ⟨ad, x, cs, g1, g2, g3, g4, g5, g6⟩ := h.get (Int.natCast_nonneg n) hlt
   rw [Int.toNat_natCast] at g2
   unfold rByte byteV at g6
   subst g6
   refine ⟨ad, g1, _, g5, fun he => ⟨_, rfl, ?_, Only.refl _ _⟩, fun he => ⟨l.length - (n + 1), by omega, n + 1, by omega, by rw [wr' (by omega) (by omega)]; rfl, rfl, ?_, rfl⟩⟩
   · have he : c = x := UInt8.toNat_inj.1 (by have := of_decide_eq_true he; omega)
     rw [decide_eq_true (by omega)]
     symm
     rw [List.contains_iff_mem, he]
     exact List.mem_of_getElem? g2
   · intro y hy
     rw [List.take_add_one, g2] at hy
     simp only [Option.toList_some, List.mem_append, List.mem_singleton] at hy
     rcases hy with hy | rfl
     · exact hp y hy
     · rintro rfl
       simp at he
 · have hge : ¬ ((n : Int) < s.n) := of_decide_eq_false hc
   rw [List.take_of_length_le (by omega)] at hp
   refine ⟨_, rfl, ?_, Only.refl _ _⟩
   rw [decide_eq_false (by omega)]
   symm
   rw [Bool.eq_false_iff]
   intro hh
   exact hp c (List.contains_iff_mem.1 hh) rfl
theorem containsB_c {w : World} {F : Nat -> Prop} {s : Sl} {l : List UInt8} (h : SliceF rByte 1 w F s l) (c : UInt8) :
  Calls Tryz.prog 148 #[Sl.v s, .int .u8 (c.toNat : Int)] w fun e w' => e = .returned (.bool (l.contains c)) /\ Only [] w w' := by
 refine ret (v76w s _ (fun v w' => v = .bool (l.contains c) /\ Only [] w w') w ?_)
 unfold v76v
 refine (indexB_c h c).mono ?_
 rintro _ w1 ⟨i, rfl, hi, hO⟩
 exact ⟨i, rfl, by rw [hi], hO⟩
theorem one_c {w : World} {F : Nat -> Prop} {s : Sl} {l : List UInt8} (h : SliceF rByte 1 w F s l) (c : UInt8) :
  Calls Tryz.prog 113 #[.int .u8 (c.toNat : Int), Sl.v s] w fun e w' => e = .returned (.bool (l.contains c)) /\ Only [] w w' := by
 refine ret (v73w _ s (fun v w' => v = .bool (l.contains c) /\ Only [] w w') w ?_)
 unfold v73v
 refine (containsB_c h c).mono ?_
 rintro _ w1 ⟨rfl, hO⟩
 exact ⟨_, rfl, rfl, hO⟩
def rTx : Rp (List UInt8) := fun _ _ l cs => cs = [.string (T l)]
theorem rTx_ok : rTx.Ok where
 keep h _ := h
 inHeap h := h
 mono h _ := h
 one := by
  rintro w F x cs h v hv
  unfold rTx at h
  subst h
  simp only [List.mem_singleton] at hv
  subst hv; rfl
theorem indexS_c {w : World} {F : Nat -> Prop} {s : Sl} {l : List (List UInt8)} (h : SliceF rTx 1 w F s l) (c : List UInt8) :
  Calls Tryz.prog 120 #[Sl.v s, .string (T c)] w fun e w' => ∃ i : Int, e = .returned (.int .i64 i) /\ decide (i >= 0) = l.contains c /\ Only [] w w' := by
 refine (v84w s _ (fun v w' => ∃ i : Int, v = .int .i64 i /\ decide (i >= 0) = l.contains c /\ Only [] w w') w ?_).mono (by
  rintro e w' ⟨v, rfl, i, rfl, h⟩; exact ⟨i, rfl, h⟩)
 unfold v84v
 have hlen := h.len
 have hbig := h.big
 have hcap := h.cap
 refine ⟨fun nv i w' => ∃ n : Nat, n <= l.length /\ i = (n : Int) /\ nv = l.length - n /\ (∀ x, x ∈ l.take n -> x ≠ c) /\ w' = w, l.length, ⟨0, Nat.zero_le _, rfl, rfl, by simp, rfl⟩, ?_⟩
 rintro nv _ _ ⟨n, hn, rfl, rfl, hp, rfl⟩
 refine ⟨fun hc => ?_, fun hc => ?_⟩
 · have hlt : (n : Int) < s.n := of_decide_eq_true hc
   obtain ⟨ad, x, cs, g1, g2, g3, g4, g5, g6⟩ := h.get (Int.natCast_nonneg n) hlt
   rw [Int.toNat_natCast] at g2
   unfold rTx at g6
   subst g6
   refine ⟨ad, g1, _, g5, ?_⟩
   rw [T_eq]
   refine ⟨fun he => ⟨_, rfl, ?_, Only.refl _ _⟩, fun he => ⟨l.length - (n + 1), by omega, n + 1, by omega, by rw [wr' (by omega) (by omega)]; rfl, rfl, ?_, rfl⟩⟩
   · have he : c = x := of_decide_eq_true he
     rw [decide_eq_true (by omega)]
     symm
     rw [List.contains_iff_mem, he]
     exact List.mem_of_getElem? g2
   · intro y hy
     rw [List.take_add_one, g2] at hy
     simp only [Option.toList_some, List.mem_append, List.mem_singleton] at hy
     rcases hy with hy | rfl
     · exact hp y hy
     · rintro rfl
       simp at he
 · have hge : ¬ ((n : Int) < s.n) := of_decide_eq_false hc
   rw [List.take_of_length_le (by omega)] at hp
   refine ⟨_, rfl, ?_, Only.refl _ _⟩
   rw [decide_eq_false (by omega)]
   symm
   rw [Bool.eq_false_iff]
   intro hh
   exact hp c (List.contains_iff_mem.1 hh) rfl
theorem containsS_c {w : World} {F : Nat -> Prop} {s : Sl} {l : List (List UInt8)} (h : SliceF rTx 1 w F s l) (c : List UInt8) :
  Calls Tryz.prog 108 #[Sl.v s, .string (T c)] w fun e w' => e = .returned (.bool (l.contains c)) /\ Only [] w w' := by
 refine ret (v77w s _ (fun v w' => v = .bool (l.contains c) /\ Only [] w w') w ?_)
 unfold v77v
 refine (indexS_c h c).mono ?_
 rintro _ w1 ⟨i, rfl, hi, hO⟩
 exact ⟨i, rfl, by rw [hi], hO⟩
abbrev Cur (w : World) (b : Nat) (t : TypeId) (l : List UInt8) (i : Nat) (r : List Value) : Prop := Blk w b t (.string (T l) :: .int .i64 (i : Int) :: r)
theorem end_c {w : World} {b : Nat} {t : TypeId} {l : List UInt8} {i : Nat} {r : List Value} (h : Cur w b t l i r) :
  Calls Tryz.prog 72 #[.pointer (some ⟨b, 0, none⟩)] w fun e w' => e = .returned (.bool (decide (l.length <= i))) /\ Only [] w w' := by
 refine ret (v62w ⟨b, 0, none⟩ (fun v w' => v = .bool (decide (l.length <= i)) /\ Only [] w w') w ?_)
 unfold v62v
 refine ⟨i, Blk.at1 h 1 rfl, T l, Blk.at1 h 0 rfl, fun w0 hO => ⟨?_, hO⟩⟩
 rw [T_size]
 congr 1
 rw [decide_eq_decide]
 omega
theorem rest_c {w : World} {b : Nat} {t : TypeId} {l : List UInt8} {i : Nat} {r : List Value} (h : Cur w b t l i r) (hi : i <= l.length) :
  Calls Tryz.prog 114 #[.pointer (some ⟨b, 0, none⟩)] w fun e w' => e = .returned (.string (T (l.drop i))) /\ Only [] w w' := by
 refine ret (v63w ⟨b, 0, none⟩ (fun v w' => v = .string (T (l.drop i)) /\ Only [] w w') w ?_)
 unfold v63v
 refine ⟨T l, Blk.at1 h 0 rfl, i, Blk.at1 h 1 rfl, i, ⟨rfl, by rw [T_size]; exact hi⟩, fun w0 hO => ⟨?_, hO⟩⟩
 rw [T_ext, T_size, List.take_of_length_le (by rw [List.length_drop]; exact Nat.le_refl _)]
theorem take_while {p : UInt8 -> Bool} : ∀ {l : List UInt8} {n : Nat}, n <= l.length -> (∀ x, x ∈ l.take n -> p x = true) -> (∀ x, l[n]? = some x -> p x = false) -> l.takeWhile p = l.take n
 | [], n, _, _, _ => by simp
 | c :: r, 0, _, _, h => by
  have := h c rfl
  simp [this]
 | c :: r, n + 1, hn, h1, h2 => by
  have hc := h1 c (by simp)
  rw [List.takeWhile_cons, if_pos hc, List.take_succ_cons, take_while (n := n) (by simpa using hn) (fun x hx => h1 x (by simp [hx])) (fun x hx => h2 x (by simpa using hx))]
theorem row_c {w : World} {b : Nat} {t : TypeId} {l : List UInt8} {i : Nat} {r : List Value} (h : Cur w b t l i r) (hi : i <= l.length) (hl : l.length < 9223372036854775807) :
  Calls Tryz.prog 107 #[.pointer (some ⟨b, 0, none⟩)] w fun e w' => e = .returned (.string (T ((l.drop i).takeWhile wordB))) /\ Only [] w w' := by
 refine ret (v64w ⟨b, 0, none⟩ (fun v w' => v = .string (T ((l.drop i).takeWhile wordB)) /\ Only [] w w') w ?_)
 unfold v64v
 refine (rest_c h hi).mono ?_
 rintro _ w0 ⟨rfl, hO0⟩
 have hlr : (l.drop i).length <= l.length := by rw [List.length_drop]; omega
 generalize l.drop i = m at *
 refine ⟨T m, rfl, fun nv j w' => ∃ n : Nat, n <= m.length /\ j = (n : Int) /\ nv = m.length - n /\ (∀ x, x ∈ m.take n -> wordB x = true) /\ Only [] w w', m.length, ⟨0, Nat.zero_le _, rfl, rfl, by simp, hO0⟩, ?_⟩
 rintro nv _ w1 ⟨n, hn, rfl, rfl, hp, hO1⟩
 rw [T_size]
 refine ⟨fun b w' => (b = true -> ∃ x, m[n]? = some x /\ wordB x = true) /\ (b = false -> ∀ x, m[n]? = some x -> wordB x = false) /\ Only [] w w', ?_, fun hc => ?_, fun hc => ⟨fun e => (by cases e), fun _ x hx => ?_, hO1⟩⟩
 · rintro b w2 ⟨h1, h2, hO2⟩
   refine ⟨fun hb => ?_, fun hb => ⟨n, ⟨rfl, hn⟩, ?_, hO2⟩⟩
   · obtain ⟨x, hx, hw⟩ := h1 hb
     have hlt := (List.getElem?_eq_some_iff.1 hx).1
     refine ⟨m.length - (n + 1), by omega, n + 1, by omega, by rw [wr' (by omega) (by omega)]; rfl, rfl, fun y hy => ?_, hO2⟩
     rw [List.take_add_one, hx] at hy
     simp only [Option.toList_some, List.mem_append, List.mem_singleton] at hy
     rcases hy with hy | rfl
     · exact hp y hy
     · exact hw
   · rw [T_ext, List.drop_zero, Nat.sub_zero, take_while hn hp (h2 hb)]
 · have hlt : (n : Int) < m.length := of_decide_eq_true hc
   have hx : m[n]? = some (m[n]'(by omega)) := List.getElem?_eq_getElem (by omega)
   generalize m[n]'(by omega) = x at hx
   have hg : (T m)[Int.toNat (n : Int)]? = some x := by rw [T_get, Int.toNat_natCast, hx]
   refine ⟨x, ⟨Int.natCast_nonneg n, hg⟩, (letter_c w1 x).mono ?_⟩
   rintro _ w3 ⟨rfl, hO3⟩
   refine ⟨_, rfl, fun hb => ⟨fun _ => ⟨x, hx, by unfold wordB; rw [hb]; rfl⟩, fun e => (by cases e), hO1.tr0 hO3⟩, fun hb => ⟨x, ⟨Int.natCast_nonneg n, hg⟩, (digit_c w3 x).mono ?_⟩⟩
   rintro _ w4 ⟨rfl, hO4⟩
   refine ⟨_, rfl, fun hd => ⟨x, hx, by unfold wordB; rw [hd, Bool.or_true]⟩, fun hd y hy => ?_, hO1.tr0 (hO3.tr0 hO4)⟩
   rw [hx] at hy
   injection hy with hy
   subst hy
   unfold wordB
   rw [hb, hd]; rfl
 · have hge : ¬ (n : Int) < m.length := of_decide_eq_false hc
   have := (List.getElem?_eq_some_iff.1 hx).1
   omega
theorem hasPrefix_c (w : World) (l p : List UInt8) (hl : l.length < 9223372036854775807) (hp : p.length < 9223372036854775807) : Calls Tryz.prog 101 #[.string (T l), .string (T p)] w fun e w' => e = .returned (.bool (decide (l.take p.length = p))) /\ Only [] w w' := by
 refine ret (v92w _ _ (fun v w' => v = .bool (decide (l.take p.length = p)) /\ Only [] w w') w ?_)
 unfold v92v
 refine (ret (v35w (T l) (T p) (fun v w' => v = .bool (decide (l.take p.length = p)) /\ Only [] w w') w ?_)).mono ?_
 · unfold v35v
   rw [T_size, T_size]
   refine ⟨p.length, fun h => ⟨rfl, by have := of_decide_eq_true h; omega⟩, ?_, Only.refl _ _⟩
   rw [T_ext, T_eq, List.drop_zero, Nat.sub_zero]
   congr 1
   rw [Bool.eq_iff_iff]
   simp only [Bool.and_eq_true, decide_eq_true_eq]
   constructor
   · exact fun h => h.2
   · intro h
     refine ⟨?_, h⟩
     have := congrArg List.length h
     rw [List.length_take] at this
     omega
 · rintro _ w1 ⟨rfl, hO⟩
   exact ⟨_, rfl, rfl, hO⟩
theorem indexByte_while : ∀ (l : List UInt8) (c : UInt8), Lib.indexByte l c = if c ∈ l then ((l.takeWhile (· != c)).length : Int) else -1
 | [], c => by simp [Lib.indexByte]
 | b :: l, c => by
  rw [Lib.indexByte, indexByte_while l c]
  by_cases hbc : b = c
  · subst hbc; simp
  · by_cases hm : c ∈ l
    · have h1 : (b == c) = false := by simpa using hbc
      have h2 : (b != c) = true := by simpa using hbc
      have h3 : c ∈ b :: l := by simp [hm]
      rw [h1, if_pos hm, if_pos h3, List.takeWhile_cons, if_pos h2]
      simp
    · have h1 : (b == c) = false := by simpa using hbc
      have h3 : ¬ c ∈ b :: l := by simp [hm]; exact fun e => hbc e.symm
      rw [h1, if_neg hm, if_neg h3]
      simp
theorem while_none {c : UInt8} : ∀ {l : List UInt8}, ¬ c ∈ l -> l.takeWhile (· != c) = l
 | [], _ => rfl
 | b :: l, h => by
  simp only [List.mem_cons, not_or] at h
  rw [List.takeWhile_cons, if_pos (by simpa using fun e => h.1 e.symm), while_none h.2]
theorem while_take {p : UInt8 -> Bool} : ∀ {l : List UInt8}, l.takeWhile p = l.take (l.takeWhile p).length
 | [] => rfl
 | b :: l => by
  rw [List.takeWhile_cons]
  split
  · rw [List.length_cons, List.take_succ_cons, <- while_take]
  · rfl
theorem cut_c (w : World) (l : List UInt8) (c : UInt8) (hl : l.length < 9223372036854775807) : Calls Tryz.prog 115 #[.string (T l), .string (T [c])] w fun e w' => ∃ (s : ByteArray) (b : Bool), e = .returned (.tuple #[.string (T (l.takeWhile (· != c))), .string s, .bool b]) /\ Only [] w w' := by
 refine (v91w _ _ (fun v w' => ∃ (s : ByteArray) (b : Bool), v = (.tuple #[.string (T (l.takeWhile (· != c))), .string s, .bool b]) /\ Only [] w w') w ?_).mono (by
  rintro e w' ⟨v, rfl, s, b, rfl, h⟩; exact ⟨s, b, rfl, h⟩)
 unfold v91v
 refine (v34w (T l) (T [c]) (fun v w' => ∃ (s : ByteArray) (b : Bool), v = (.tuple #[.string (T (l.takeWhile (· != c))), .string s, .bool b]) /\ Only [] w w') w ?_).mono ?_
 · unfold v34v
   refine (Tryz.stringslite_Index_one (T l) c w).mono ?_
   rintro _ _ ⟨rfl, rfl⟩
   have e : (T l).data.toList = l := rfl
   rw [e, indexByte_while]
   refine ⟨_, rfl, fun h => ?_, fun h => ?_⟩
   · by_cases hm : c ∈ l
     · rw [if_pos hm]
       have hlt : (l.takeWhile (· != c)).length < l.length := by
        have h1 := List.takeWhile_append_dropWhile (p := (· != c)) (l := l)
        have h2 := congrArg List.length h1
        rw [List.length_append] at h2
        have h3 : l.dropWhile (· != c) ≠ [] := by
         intro h3
         rw [h3, List.append_nil] at h1
         rw [<- h1] at hm
         have := List.all_takeWhile (p := (· != c)) (l := l)
         rw [List.all_eq_true] at this
         have := this c (by rw [h1] at hm ⊢; exact hm)
         simp at this
        have h4 := List.length_pos_iff.2 h3
        omega
       have hk : (T l).extract 0 (l.takeWhile (· != c)).length = T (l.takeWhile (· != c)) := by
        rw [T_ext, List.drop_zero, Nat.sub_zero, <- while_take]
       refine ⟨(l.takeWhile (· != c)).length, ⟨rfl, by rw [T_size]; omega⟩, (l.takeWhile (· != c)).length + 1, ⟨by rw [T_size, wr' (by simp; omega) (by simp; omega)]; rfl, by rw [T_size]; omega⟩, fun w1 hO => ⟨(T l).extract ((l.takeWhile (· != c)).length + 1) (T l).size, true, ?_, hO⟩⟩
       rw [hk]
     · rw [if_neg hm] at h
       exact absurd (of_decide_eq_true h) (by omega)
   · by_cases hm : c ∈ l
     · rw [if_pos hm] at h
       exact absurd (of_decide_eq_false h) (by omega)
     · rw [while_none hm]
       exact ⟨_, _, rfl, Only.refl _ _⟩
 · rintro _ w1 ⟨v, rfl, s, b, rfl, hO⟩
   exact ⟨_, s, b, rfl, s, b, rfl, hO⟩
end Go.Proofs.YtndkfaaeeojeiaaGreatDoor.Con
