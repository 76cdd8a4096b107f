/-
  Own work, printed by a program of ours (vlay.py): of each Go function what is to be shown of a call ('.._vc'), and that it suffices ('.._wp'). Nothing is assumed.
-/
import Derived.Test.YtbklgfggodgddaaV13
import Derived.Test.YtbklgfggodgddaaRows
namespace Go.Proofs.Ytbklgfggodgddaa.Vc
open Go Go.RowKit Go.Kt Go.Kt.V
set_option linter.unusedVariables false
set_option maxRecDepth 100000
set_option maxHeartbeats 40000000
def pavanelaw14_TimersMixes_vc (l : Sl) (a_ : Int) (a_1 : Int) (a_2 : Int) (b : Int) (b1 : Int) (b2 : Int) (R : Value → World → Prop) (w : World) : Prop :=
  ∀ k0 : Nat, ∀ k1 : Nat, ∀ w0 : World, w.heap.size ≤ k0 → k0 < w0.heap.size → w.heap.size ≤ k1 → k1 < w0.heap.size → Only [] w w0 → Calls Try.prog 7 #[] w0 fun e0 w1 => ∃ b0 : Bool, e0 = (.returned (.bool b0)) ∧
   Same [k0, k1] w0 w1 ∧
   ∃ l0 : Sl, ∃ w2 : World, ((Instr.buildSlice 22 2 #[.mk 0 (.agg #[.int .i64 a_, .int .i64 a_1, .int .i64 a_2]), .mk 1 (.agg #[.int .i64 b, .int .i64 b1, .int .i64 b2])]).run Try.prog w1) = (.ok l0.v w2) ∧
   Same [k0, k1] w1 w2 ∧
   Calls Try.prog 8 #[l.v, l0.v] w2 fun e1 w3 => ∃ l1 : Sl, ∃ i0 : Int, e1 = (.returned (.tuple #[l1.v, .int .i64 i0])) ∧
    Same [k0, k1] w2 w3 ∧
    ∃ l2 : Sl, ∃ w4 : World, ((Instr.buildSlice 22 2 #[.mk 0 (.agg #[.int .i64 b, .int .i64 b1, .int .i64 b2]), .mk 1 (.agg #[.int .i64 a_, .int .i64 a_1, .int .i64 a_2])]).run Try.prog w3) = (.ok l2.v w4) ∧
    Same [k0, k1] w3 w4 ∧
    Calls Try.prog 8 #[l.v, l2.v] w4 fun e2 w5 => ∃ l3 : Sl, ∃ i1 : Int, e2 = (.returned (.tuple #[l3.v, .int .i64 i1])) ∧
     Same [k0, k1] w4 w5 ∧
     ∃ l4 : Sl, ∃ w6 : World, ((Instr.buildSlice 22 1 #[.mk 0 (.agg #[.int .i64 a_, .int .i64 a_1, .int .i64 a_2])]).run Try.prog w5) = (.ok l4.v w6) ∧
     Same [k0, k1] w5 w6 ∧
     Calls Try.prog 8 #[l.v, l4.v] w6 fun e3 w7 => ∃ l5 : Sl, ∃ i2 : Int, e3 = (.returned (.tuple #[l5.v, .int .i64 i2])) ∧
      Same [k0, k1] w6 w7 ∧
      ∃ l6 : Sl, ∃ w8 : World, ((Instr.buildSlice 22 1 #[.mk 0 (.agg #[.int .i64 b, .int .i64 b1, .int .i64 b2])]).run Try.prog w7) = (.ok l6.v w8) ∧
      Same [k0, k1] w7 w8 ∧
      Calls Try.prog 8 #[l5.v, l6.v] w8 fun e4 w9 => ∃ l7 : Sl, ∃ i3 : Int, e4 = (.returned (.tuple #[l7.v, .int .i64 i3])) ∧
       Same [k0, k1] w8 w9 ∧
       ((i0 != 0) = true → ∃ J0 : Bool → World → Prop, (∀ b1 : Bool, ∀ w10 : World, J0 b1 w10 → R (.bool b1) w10) ∧
        (((b0 && (i0 == 1)) && (i1 == i0)) = true → Calls Try.prog 9 #[l.v] w9 fun e5 w11 => ∃ b2 : Bool, e5 = (.returned (.bool b2)) ∧
          Same [k0, k1] w9 w11 ∧
          J0 (!b2) w11) ∧
        (((b0 && (i0 == 1)) && (i1 == i0)) = false → J0 false w9)) ∧
       ((i0 != 0) = false → ∃ J1 : Bool → World → Prop, (∀ b3 : Bool, ∀ w12 : World, J1 b3 w12 → R (.bool b3) w12) ∧
       (((b0 && (i1 == 0)) && (i3 == 0)) = true → ((a_1 == b1) = true → Calls Try.prog 10 #[l1.v, l7.v] w9 fun e6 w13 => ∃ b4 : Bool, e6 = (.returned (.bool b4)) ∧
          Same [k0, k1] w9 w13 ∧
          J1 b4 w13) ∧
        ((a_1 == b1) = false → Calls Try.prog 10 #[l1.v, l3.v] w9 fun e7 w14 => ∃ b5 : Bool, e7 = (.returned (.bool b5)) ∧
         Same [k0, k1] w9 w14 ∧
         (b5 = true → Calls Try.prog 10 #[l1.v, l7.v] w14 fun e8 w15 => ∃ b6 : Bool, e8 = (.returned (.bool b6)) ∧
           Same [k0, k1] w14 w15 ∧
           J1 b6 w15) ∧
         (b5 = false → J1 false w14))) ∧
       (((b0 && (i1 == 0)) && (i3 == 0)) = false → J1 false w9))
theorem pavanelaw14_TimersMixes_wp (l : Sl) (a_ : Int) (a_1 : Int) (a_2 : Int) (b : Int) (b1 : Int) (b2 : Int) (R : Value → World → Prop) (w : World) (h : pavanelaw14_TimersMixes_vc l a_ a_1 a_2 b b1 b2 R w) : Calls Try.prog 3 #[l.v, .agg #[.int .i64 a_, .int .i64 a_1, .int .i64 a_2], .agg #[.int .i64 b, .int .i64 b1, .int .i64 b2]] w fun e w' => ∃ v, e = .returned v ∧ R v w' :=
  fn_by (an := .s .o (.s .o (.s .o (.s .o (.s .o (.s .o (.s (.s .o (.s (.s (.j [4, 5] [.s 6 .bool] .o .o) .o) .o)) (.s (.j [4, 5] [.s 6 .bool] .o .o) .o)))))))) (args := [.sl l, .agg (ofL [.int .i64 a_, .int .i64 a_1, .int .i64 a_2]), .agg (ofL [.int .i64 b, .int .i64 b1, .int .i64 b2])]) Try.checked.mixed (by kernel_rfl) (by kernel_rfl) h
def pavanelaw14_TimersTells_vc (l : Sl) (add : Sl) (nodes : Sl) (now : Int) (R : Value → World → Prop) (w : World) : Prop :=
  Calls Try.prog 7 #[] w fun e0 w0 => ∃ b0 : Bool, e0 = (.returned (.bool b0)) ∧
   ∃ l0 : Sl, ∃ w1 : World, ((Instr.buildSlice 22 0 #[]).run Try.prog w0) = (.ok l0.v w1) ∧
   ∃ l1 : Sl, ∃ w2 : World, ((Builtin.append_ #[22, 22] 22 #[l0.v, l.v]).run Try.prog w1) = (.ok l1.v w2) ∧
   ∃ l2 : Sl, ∃ w3 : World, ((Instr.buildSlice 22 0 #[]).run Try.prog w2) = (.ok l2.v w3) ∧
   ∃ l3 : Sl, ∃ w4 : World, ((Builtin.append_ #[22, 22] 22 #[l2.v, add.v]).run Try.prog w3) = (.ok l3.v w4) ∧
   ∃ l4 : Sl, ∃ w5 : World, ((Instr.buildSlice 32 0 #[]).run Try.prog w4) = (.ok l4.v w5) ∧
   ∃ l5 : Sl, ∃ w6 : World, ((Builtin.append_ #[32, 32] 32 #[l4.v, nodes.v]).run Try.prog w5) = (.ok l5.v w6) ∧
   Calls Try.prog 8 #[l1.v, l3.v] w6 fun e1 w7 => ∃ l6 : Sl, ∃ i0 : Int, e1 = (.returned (.tuple #[l6.v, .int .i64 i0])) ∧
    Calls Try.prog 11 #[l1.v, l5.v] w7 fun e2 w8 => ∃ l7 : Sl, ∃ i1 : Int, e2 = (.returned (.tuple #[l7.v, .int .i64 i1])) ∧
     Calls Try.prog 12 #[l1.v, .int .i64 now] w8 fun e3 w9 => ∃ i2 : Int, ∃ i3 : Int, ∃ i4 : Int, ∃ l8 : Sl, ∃ b1 : Bool, e3 = (.returned (.tuple #[.agg #[.int .i64 i2, .int .i64 i3, .int .i64 i4], l8.v, .bool b1])) ∧
      ∀ k0 : Nat, ∀ w10 : World, w9.heap.size ≤ k0 → k0 < w10.heap.size → Only [] w9 w10 → Calls Try.prog 13 #[l.v, add.v] w10 fun e4 w11 => ∃ l9 : Sl, ∃ i5 : Int, e4 = (.returned (.tuple #[l9.v, .int .i64 i5])) ∧
       Same [k0] w10 w11 ∧
       Calls Try.prog 14 #[l.v, nodes.v] w11 fun e5 w12 => ∃ l10 : Sl, ∃ i6 : Int, e5 = (.returned (.tuple #[l10.v, .int .i64 i6])) ∧
        Same [k0] w11 w12 ∧
        Calls Try.prog 15 #[l.v, .int .i64 now] w12 fun e6 w13 => ∃ i7 : Int, ∃ i8 : Int, ∃ i9 : Int, ∃ l11 : Sl, ∃ b2 : Bool, e6 = (.returned (.tuple #[.agg #[.int .i64 i7, .int .i64 i8, .int .i64 i9], l11.v, .bool b2])) ∧
         Same [k0] w12 w13 ∧
         ∀ k1 : Nat, ∀ w14 : World, w13.heap.size ≤ k1 → k1 < w14.heap.size → Only [] w13 w14 → ∃ J0 : Bool → World → Prop, (∀ b3 : Bool, ∀ w15 : World, J0 b3 w15 → ∃ J1 : Bool → World → Prop, (∀ b4 : Bool, ∀ w16 : World, J1 b4 w16 → ∃ J2 : Bool → World → Prop, (∀ b5 : Bool, ∀ w17 : World, J2 b5 w17 → ∃ J3 : Bool → World → Prop, (∀ b6 : Bool, ∀ w18 : World, J3 b6 w18 → R (.bool b6) w18) ∧
            ((((((((b0 && b3) && b4) && b5) && (i0 == i5)) && (i1 == i6)) && ((i2 == i7) && ((i3 == i8) && (i4 == i9)))) && (b1 == b2)) = true → Calls Try.prog 9 #[l.v] w17 fun e7 w19 => ∃ b7 : Bool, e7 = (.returned (.bool b7)) ∧
              Same [k0, k1] w17 w19 ∧
              Calls Try.prog 18 #[l.v] w19 fun e8 w20 => ∃ b8 : Bool, e8 = (.returned (.bool b8)) ∧
               Same [k0, k1] w19 w20 ∧
               J3 (b7 == b8) w20) ∧
            ((((((((b0 && b3) && b4) && b5) && (i0 == i5)) && (i1 == i6)) && ((i2 == i7) && ((i3 == i8) && (i4 == i9)))) && (b1 == b2)) = false → J3 false w17)) ∧
           Calls Try.prog 17 #[l6.v, l1.v, l.v] w16 fun e9 w21 => ∃ b9 : Bool, e9 = (.returned (.bool b9)) ∧
            Same [k0, k1] w16 w21 ∧
            (b9 = true → Calls Try.prog 17 #[l7.v, l1.v, l.v] w21 fun e10 w22 => ∃ b10 : Bool, e10 = (.returned (.bool b10)) ∧
              Same [k0, k1] w21 w22 ∧
              (b10 = true → Calls Try.prog 17 #[l8.v, l1.v, l.v] w22 fun e11 w23 => ∃ b11 : Bool, e11 = (.returned (.bool b11)) ∧
                Same [k0, k1] w22 w23 ∧
                J2 b11 w23) ∧
              (b10 = false → J2 false w22)) ∧
            (b9 = false → J2 false w21)) ∧
          Calls Try.prog 10 #[l6.v, l9.v] w15 fun e12 w24 => ∃ b12 : Bool, e12 = (.returned (.bool b12)) ∧
           Same [k0, k1] w15 w24 ∧
           (b12 = true → Calls Try.prog 10 #[l7.v, l10.v] w24 fun e13 w25 => ∃ b13 : Bool, e13 = (.returned (.bool b13)) ∧
             Same [k0, k1] w24 w25 ∧
             (b13 = true → Calls Try.prog 10 #[l8.v, l11.v] w25 fun e14 w26 => ∃ b14 : Bool, e14 = (.returned (.bool b14)) ∧
               Same [k0, k1] w25 w26 ∧
               J1 b14 w26) ∧
             (b13 = false → J1 false w25)) ∧
           (b12 = false → J1 false w24)) ∧
         Calls Try.prog 10 #[l1.v, l.v] w14 fun e15 w27 => ∃ b15 : Bool, e15 = (.returned (.bool b15)) ∧
          Same [k0, k1] w14 w27 ∧
          (b15 = true → Calls Try.prog 10 #[l3.v, add.v] w27 fun e16 w28 => ∃ b16 : Bool, e16 = (.returned (.bool b16)) ∧
            Same [k0, k1] w27 w28 ∧
            (b16 = true → Calls Try.prog 16 #[l5.v, nodes.v] w28 fun e17 w29 => ∃ b17 : Bool, e17 = (.returned (.bool b17)) ∧
              Same [k0, k1] w28 w29 ∧
              J0 b17 w29) ∧
            (b16 = false → J0 false w28)) ∧
          (b15 = false → J0 false w27)
theorem pavanelaw14_TimersTells_wp (l : Sl) (add : Sl) (nodes : Sl) (now : Int) (R : Value → World → Prop) (w : World) (h : pavanelaw14_TimersTells_vc l add nodes now R w) : Calls Try.prog 4 #[l.v, add.v, nodes.v, .int .i64 now] w fun e w' => ∃ v, e = .returned v ∧ R v w' :=
  fn_by (an := .s .o (.s .o (.s .o (.s .o (.s .o (.s .o (.s .o (.s .o (.s .o (.s .o (.s .o (.s (.j [0, 9, 10, 13, 14, 15, 16, 17, 18, 19, 20, 21, 22, 23, 24, 25, 26] [.s 27 .bool] .o .o) (.s (.j [0, 9, 10, 13, 14, 15, 16, 17, 18, 19, 21, 23, 24, 26, 27] [.s 28 .bool] .o .o) (.s (.j [0, 9, 14, 16, 17, 19, 21, 23, 24, 26, 27, 28] [.s 29 .bool] .o .o) (.s (.j [17, 24] [.s 8 .bool] .o .o) .o))))))))))))))) (args := [.sl l, .sl add, .sl nodes, .int .i64 now]) Try.checked.mixed (by kernel_rfl) (by kernel_rfl) h
def pavanelaw14_TimersCome_vc (add : Sl) (node : Int) (R : Value → World → Prop) (w : World) : Prop :=
  Calls Try.prog 7 #[] w fun e0 w0 => ∃ b0 : Bool, e0 = (.returned (.bool b0)) ∧
   ((decide ((add.n : Int) > 60)) = true → R (.bool b0) w0) ∧
   ((decide ((add.n : Int) > 60)) = false → Calls Try.prog 8 #[Sl.nil.v, add.v] w0 fun e1 w1 => ∃ l0 : Sl, ∃ i0 : Int, e1 = (.returned (.tuple #[l0.v, .int .i64 i0])) ∧
    ∃ l1 : Sl, ∃ w2 : World, ((Instr.buildSlice 32 1 #[.mk 0 (.int .i64 node)]).run Try.prog w1) = (.ok l1.v w2) ∧
    Calls Try.prog 11 #[l0.v, l1.v] w2 fun e2 w3 => ∃ l2 : Sl, ∃ i1 : Int, e2 = (.returned (.tuple #[l2.v, .int .i64 i1])) ∧
     ∃ J0 : Bool → World → Prop, (∀ b1 : Bool, ∀ w4 : World, J0 b1 w4 → (b1 = true → R (.bool false) w4) ∧
      (b1 = false → ∃ J1 : Sl → Sl → World → Prop, (∀ l3 : Sl, ∀ l4 : Sl, ∀ w5 : World, J1 l3 l4 w5 → ∃ J2 : Nat → Int → Int → World → Prop, ∃ k0 : Nat, J2 k0 0 0 w5 ∧
       ∀ k1 : Nat, ∀ i2 : Int, ∀ i3 : Int, ∀ w6 : World, J2 k1 i2 i3 w6 → ((decide (i3 < (add.n : Int))) = true → ∃ J3 : Int → World → Prop, (∀ i4 : Int, ∀ w7 : World, J3 i4 w7 → ∃ k2 : Nat, k2 < k1 ∧
         J2 k2 i4 (IntKind.wrap .i64 (i3 + 1)) w7) ∧
        ∃ p0 : Addr, SlAt add i3 3 p0 ∧
        ∃ i5 : Int, Cells w6 (p0.add 1) [.int .i64 i5] ∧
        ∃ J4 : Nat → Bool → Int → World → Prop, ∃ k3 : Nat, J4 k3 (i5 != node) (IntKind.wrap .i64 (i3 + 1)) w6 ∧
        ∀ k4 : Nat, ∀ b2 : Bool, ∀ i6 : Int, ∀ w8 : World, J4 k4 b2 i6 w8 → ((decide (i6 < (add.n : Int))) = true → ∃ p1 : Addr, (b2 = true → SlAt add i6 3 p1) ∧
         ∃ i7 : Int, (b2 = true → Cells w8 (p1.add 1) [.int .i64 i7]) ∧
         ∃ p2 : Addr, (b2 = true → SlAt add i3 3 p2) ∧
         ∃ i8 : Int, (b2 = true → Cells w8 (p2.add 1) [.int .i64 i8]) ∧
         ∃ p3 : Addr, (b2 = true → (i7 != i8) = false → SlAt add i6 3 p3) ∧
         ∃ i9 : Int, (b2 = true → (i7 != i8) = false → Cells w8 (p3.add 2) [.int .i64 i9]) ∧
         ∃ p4 : Addr, (b2 = true → (i7 != i8) = false → SlAt add i3 3 p4) ∧
         ∃ i10 : Int, (b2 = true → (i7 != i8) = false → Cells w8 (p4.add 2) [.int .i64 i10]) ∧
         ∀ w9 : World, Only [] w8 w9 → ∃ k5 : Nat, k5 < k4 ∧
         J4 k5 (b2 && ((i7 != i8) || (i9 != i10))) (IntKind.wrap .i64 (i6 + 1)) w9) ∧
        ((decide (i6 < (add.n : Int))) = false → ((!b2) = true → J3 i2 w8) ∧
        ((!b2) = false → ∃ J5 : Nat → Int → Int → World → Prop, ∃ k6 : Nat, J5 k6 0 0 w8 ∧
        ∀ k7 : Nat, ∀ i11 : Int, ∀ i12 : Int, ∀ w10 : World, J5 k7 i11 i12 w10 → ((decide (i12 < (l4.n : Int))) = true → ∃ J6 : Int → World → Prop, (∀ i13 : Int, ∀ w11 : World, J6 i13 w11 → ∃ k8 : Nat, k8 < k7 ∧
          J5 k8 i13 (IntKind.wrap .i64 (i12 + 1)) w11) ∧
         ∃ p5 : Addr, SlAt l4 i12 3 p5 ∧
         ∃ i14 : Int, ∃ i15 : Int, ∃ i16 : Int, Cells w10 p5 [.int .i64 i14, .int .i64 i15, .int .i64 i16] ∧
         ∃ p6 : Addr, SlAt add i3 3 p6 ∧
         ∃ i17 : Int, ∃ i18 : Int, ∃ i19 : Int, Cells w10 p6 [.int .i64 i17, .int .i64 i18, .int .i64 i19] ∧
         (((i14 == i17) && ((i15 == i18) && (i16 == i19))) = true → ∀ w12 : World, Only [] w10 w12 → J6 (IntKind.wrap .i64 (i11 + 1)) w12) ∧
         (((i14 == i17) && ((i15 == i18) && (i16 == i19))) = false → ∀ w13 : World, Only [] w10 w13 → J6 i11 w13)) ∧
        ((decide (i12 < (l4.n : Int))) = false → ((i11 != 1) = true → R (.bool false) w10) ∧
        ((i11 != 1) = false → J3 (IntKind.wrap .i64 (i2 + 1)) w10))))) ∧
       ((decide (i3 < (add.n : Int))) = false → ∃ J7 : Nat → Int → World → Prop, ∃ k9 : Nat, J7 k9 1 w6 ∧
       ∀ k10 : Nat, ∀ i20 : Int, ∀ w14 : World, J7 k10 i20 w14 → ((decide (i20 < (l4.n : Int))) = true → ∃ p7 : Addr, SlAt l4 i20 3 p7 ∧
        ∃ i21 : Int, Cells w14 (p7.add 0) [.int .i64 i21] ∧
        ∃ p8 : Addr, SlAt l4 (IntKind.wrap .i64 (i20 - 1)) 3 p8 ∧
        ∃ i22 : Int, Cells w14 (p8.add 0) [.int .i64 i22] ∧
        ((decide (i21 < i22)) = true → ∀ w15 : World, Only [] w14 w15 → R (.bool false) w15) ∧
        ((decide (i21 < i22)) = false → ∀ w16 : World, Only [] w14 w16 → ∃ k11 : Nat, k11 < k10 ∧
        J7 k11 (IntKind.wrap .i64 (i20 + 1)) w16)) ∧
       ((decide (i20 < (l4.n : Int))) = false → R (.bool ((b0 && ((l3.n : Int) == 0)) && (i2 == (l4.n : Int)))) w14))) ∧
      ∃ J8 : Nat → Sl → Sl → Int → World → Prop, ∃ k12 : Nat, J8 k12 l2 Sl.nil 0 w4 ∧
      ∀ k13 : Nat, ∀ l5 : Sl, ∀ l6 : Sl, ∀ i23 : Int, ∀ w17 : World, J8 k13 l5 l6 i23 w17 → ((decide (i23 ≤ (add.n : Int))) = true → Calls Try.prog 12 #[l5.v, .int .i64 9223372036854775807] w17 fun e3 w18 => ∃ i24 : Int, ∃ i25 : Int, ∃ i26 : Int, ∃ l7 : Sl, ∃ b3 : Bool, e3 = (.returned (.tuple #[.agg #[.int .i64 i24, .int .i64 i25, .int .i64 i26], l7.v, .bool b3])) ∧
        ((!b3) = true → ∀ k14 : Nat, ∀ w19 : World, w18.heap.size ≤ k14 → k14 < w19.heap.size → Only [] w18 w19 → J1 l5 l6 w19) ∧
        ((!b3) = false → ∀ k15 : Nat, ∀ w20 : World, w18.heap.size ≤ k15 → k15 < w20.heap.size → Only [] w18 w20 → ∃ l8 : Sl, ∃ w21 : World, ((Instr.buildSlice 22 1 #[.mk 0 (.agg #[.int .i64 i24, .int .i64 i25, .int .i64 i26])]).run Try.prog w20) = (.ok l8.v w21) ∧
        Same [k15] w20 w21 ∧
        ∃ l9 : Sl, ∃ w22 : World, ((Builtin.append_ #[22, 22] 22 #[l6.v, l8.v]).run Try.prog w21) = (.ok l9.v w22) ∧
        Same [k15] w21 w22 ∧
        ∃ k16 : Nat, k16 < k13 ∧
        J8 k16 l7 l9 (IntKind.wrap .i64 (i23 + 1)) w22)) ∧
      ((decide (i23 ≤ (add.n : Int))) = false → J1 l5 l6 w17))) ∧
     (((i0 != 0) || (i1 != 0)) = true → J0 true w3) ∧
     (((i0 != 0) || (i1 != 0)) = false → Calls Try.prog 9 #[l2.v] w3 fun e4 w23 => ∃ b4 : Bool, e4 = (.returned (.bool b4)) ∧
      J0 (!b4) w23))
theorem pavanelaw14_TimersCome_wp (add : Sl) (node : Int) (R : Value → World → Prop) (w : World) (h : pavanelaw14_TimersCome_vc add node R w) : Calls Try.prog 5 #[add.v, .int .i64 node] w fun e w' => ∃ v, e = .returned v ∧ R v w' :=
  fn_by (an := .s .o (.s .o (.s (.s .o (.s (.s .o .o) .o)) (.s .o (.s .o (.s (.s (.j [0, 1, 5, 6] [.s 48 .bool] .o .o) (.s (.s .o .o) .o)) (.s .o (.j [0, 1, 5] [.s 6 .sl, .s 9 .sl] (.s .o (.j [0, 1, 5] [.s 6 .sl, .s 9 .sl, .s 10 (.int .i64)] (.s (.s .o (.s .o .o)) (.s (.s .o (.s (.s .o (.s .o .o)) (.s .o .o))) .o)) .o)) (.s .o (.s (.s .o (.j [0, 1, 5, 6, 9, 11] [.s 14 (.int .i64), .s 15 (.int .i64)] (.s (.s .o (.s .o .o)) (.j [0, 1, 5, 6, 9, 11, 15] [.s 14 (.int .i64)] (.s .o (.s (.s .o (.j [0, 1, 5, 6, 9, 11, 14, 15] [.s 16 .bool, .s 17 (.int .i64)] (.s (.s .o (.s .o .o)) (.s .o .o)) .o)) (.s (.s .o (.s .o .o)) (.s .o (.s .o (.s (.s .o (.j [0, 1, 5, 6, 9, 11, 14, 15] [.s 18 (.int .i64), .s 19 (.int .i64)] (.s (.s .o (.s .o .o)) (.j [0, 1, 5, 6, 9, 11, 14, 15, 19] [.s 18 (.int .i64)] (.s .o (.s .o .o)) .o)) .o)) (.s .o (.s (.s .o .o) .o)))))))) .o)) .o)) (.s (.s .o (.j [5, 6, 9, 11, 14] [.s 20 (.int .i64)] (.s (.s .o (.s .o .o)) (.s (.s .o (.s (.s .o .o) .o)) .o)) .o)) (.s .o .o)))))))))))) (args := [.sl add, .int .i64 node]) Try.checked.mixed (by kernel_rfl) (by kernel_rfl) h
def pavanelaw14_TimersDrops_vc (l : Sl) (node : Int) (R : Value → World → Prop) (w : World) : Prop :=
  Calls Try.prog 7 #[] w fun e0 w0 => ∃ b0 : Bool, e0 = (.returned (.bool b0)) ∧
   ∃ l0 : Sl, ∃ w1 : World, ((Instr.buildSlice 32 1 #[.mk 0 (.int .i64 node)]).run Try.prog w0) = (.ok l0.v w1) ∧
   Calls Try.prog 11 #[l.v, l0.v] w1 fun e1 w2 => ∃ l1 : Sl, ∃ i0 : Int, e1 = (.returned (.tuple #[l1.v, .int .i64 i0])) ∧
    Calls Try.prog 9 #[l.v] w2 fun e2 w3 => ∃ b1 : Bool, e2 = (.returned (.bool b1)) ∧
     ((!b1) = true → R (.bool ((b0 && (i0 == 1)) && ((l1.n : Int) == 0))) w3) ∧
     ((!b1) = false → ∃ J0 : Nat → Sl → Int → World → Prop, ∃ k0 : Nat, J0 k0 Sl.nil 0 w3 ∧
     ∀ k1 : Nat, ∀ l2 : Sl, ∀ i1 : Int, ∀ w4 : World, J0 k1 l2 i1 w4 → ((decide (i1 < (l.n : Int))) = true → ∃ J1 : Sl → World → Prop, (∀ l3 : Sl, ∀ w5 : World, J1 l3 w5 → ∃ k2 : Nat, k2 < k1 ∧
       J0 k2 l3 (IntKind.wrap .i64 (i1 + 1)) w5) ∧
      ∃ p0 : Addr, SlAt l i1 3 p0 ∧
      ∃ i2 : Int, Cells w4 (p0.add 1) [.int .i64 i2] ∧
      ((i2 != node) = true → ∃ p1 : Addr, SlAt l i1 3 p1 ∧
       ∃ i3 : Int, ∃ i4 : Int, ∃ i5 : Int, Cells w4 p1 [.int .i64 i3, .int .i64 i4, .int .i64 i5] ∧
       ∃ l4 : Sl, ∃ w6 : World, ((Instr.buildSlice 22 1 #[.mk 0 (.agg #[.int .i64 i3, .int .i64 i4, .int .i64 i5])]).run Try.prog w4) = (.ok l4.v w6) ∧
       ∃ l5 : Sl, ∃ w7 : World, ((Builtin.append_ #[22, 22] 22 #[l2.v, l4.v]).run Try.prog w6) = (.ok l5.v w7) ∧
       J1 l5 w7) ∧
      ((i2 != node) = false → J1 l2 w4)) ∧
     ((decide (i1 < (l.n : Int))) = false → Calls Try.prog 10 #[l1.v, l2.v] w4 fun e3 w8 => ∃ b2 : Bool, e3 = (.returned (.bool b2)) ∧
      ∃ l6 : Sl, ∃ w9 : World, ((Instr.buildSlice 32 1 #[.mk 0 (.int .i64 node)]).run Try.prog w8) = (.ok l6.v w9) ∧
      Calls Try.prog 11 #[l1.v, l6.v] w9 fun e4 w10 => ∃ l7 : Sl, ∃ i6 : Int, e4 = (.returned (.tuple #[l7.v, .int .i64 i6])) ∧
       ∃ J2 : Bool → World → Prop, (∀ b3 : Bool, ∀ w11 : World, J2 b3 w11 → R (.bool b3) w11) ∧
       ((((b0 && (i0 == 0)) && (i6 == 0)) && b2) = true → Calls Try.prog 10 #[l7.v, l2.v] w10 fun e5 w12 => ∃ b4 : Bool, e5 = (.returned (.bool b4)) ∧
         J2 b4 w12) ∧
       ((((b0 && (i0 == 0)) && (i6 == 0)) && b2) = false → J2 false w10)))
theorem pavanelaw14_TimersDrops_wp (l : Sl) (node : Int) (R : Value → World → Prop) (w : World) (h : pavanelaw14_TimersDrops_vc l node R w) : Calls Try.prog 6 #[l.v, .int .i64 node] w fun e w' => ∃ v, e = .returned v ∧ R v w' :=
  fn_by (an := .s .o (.s .o (.s .o (.s (.s .o (.s (.s .o .o) .o)) (.s .o (.s (.s .o (.j [0, 1, 5, 6, 7] [.s 8 .sl, .s 9 (.int .i64)] (.s (.s .o (.s .o .o)) (.j [0, 1, 5, 6, 7, 9] [.s 8 .sl] (.s .o (.s .o .o)) .o)) .o)) (.s .o (.s .o (.s (.j [] [.s 4 .bool] .o .o) .o))))))))) (args := [.sl l, .int .i64 node]) Try.checked.mixed (by kernel_rfl) (by kernel_rfl) h
def pavanelaw14_small_vc (R : Value → World → Prop) (w : World) : Prop :=
  ∃ l0 : Sl, ∃ w0 : World, ((Instr.buildSlice 22 3 #[.mk 0 (.agg #[.int .i64 5, .int .i64 1, .int .i64 0]), .mk 1 (.agg #[.int .i64 3, .int .i64 2, .int .i64 0]), .mk 2 (.agg #[.int .i64 4, .int .i64 1, .int .i64 0])]).run Try.prog w) = (.ok l0.v w0) ∧
  Calls Try.prog 8 #[Sl.nil.v, l0.v] w0 fun e0 w1 => ∃ l1 : Sl, ∃ i0 : Int, e0 = (.returned (.tuple #[l1.v, .int .i64 i0])) ∧
   Calls Try.prog 12 #[l1.v, .int .i64 3] w1 fun e1 w2 => ∃ i1 : Int, ∃ i2 : Int, ∃ i3 : Int, ∃ l2 : Sl, ∃ b0 : Bool, e1 = (.returned (.tuple #[.agg #[.int .i64 i1, .int .i64 i2, .int .i64 i3], l2.v, .bool b0])) ∧
    ∀ k0 : Nat, ∀ w3 : World, w2.heap.size ≤ k0 → k0 < w3.heap.size → Only [] w2 w3 → ∃ J0 : Bool → World → Prop, (∀ b1 : Bool, ∀ w4 : World, J0 b1 w4 → R (.bool b1) w4) ∧
    ((((((i0 == 0) && ((l1.n : Int) == 2)) && b0) && (i2 == 2)) && ((l2.n : Int) == 1)) = true → Calls Try.prog 9 #[l1.v] w3 fun e2 w5 => ∃ b2 : Bool, e2 = (.returned (.bool b2)) ∧
      Same [k0] w3 w5 ∧
      J0 b2 w5) ∧
    ((((((i0 == 0) && ((l1.n : Int) == 2)) && b0) && (i2 == 2)) && ((l2.n : Int) == 1)) = false → J0 false w3)
theorem pavanelaw14_small_wp (R : Value → World → Prop) (w : World) (h : pavanelaw14_small_vc R w) : Calls Try.prog 7 #[] w fun e w' => ∃ v, e = .returned v ∧ R v w' :=
  fn_by (an := .s .o (.s .o (.s .o (.s (.j [3] [.s 0 .bool] .o .o) .o)))) (args := []) Try.checked.mixed (by kernel_rfl) (by kernel_rfl) h
def timers_Set_vc (l : Sl) (add : Sl) (R : Value → World → Prop) (w : World) : Prop :=
  Calls Try.prog 9 #[l.v] w fun e0 w0 => ∃ b0 : Bool, e0 = (.returned (.bool b0)) ∧
   ((!b0) = true → R (.tuple #[Sl.nil.v, .int .i64 1]) w0) ∧
   ((!b0) = false → Calls Try.prog 19 #[l.v] w0 fun e1 w1 => ∃ l0 : Sl, e1 = (.returned l0.v) ∧
    ∃ J0 : Nat → Sl → Int → World → Prop, ∃ k0 : Nat, J0 k0 l0 0 w1 ∧
    ∀ k1 : Nat, ∀ l1 : Sl, ∀ i0 : Int, ∀ w2 : World, J0 k1 l1 i0 w2 → ((decide (i0 < (add.n : Int))) = true → ∃ p0 : Addr, SlAt add i0 3 p0 ∧
     ∃ i1 : Int, ∃ i2 : Int, ∃ i3 : Int, Cells w2 p0 [.int .i64 i1, .int .i64 i2, .int .i64 i3] ∧
     ∀ k2 : Nat, ∀ w3 : World, w2.heap.size ≤ k2 → k2 < w3.heap.size → Only [] w2 w3 → Blk w3 k2 24 [.int .i64 i1, .int .i64 i2, .int .i64 i3] → Calls Try.prog 20 #[l1.v, .func (.func 21) #[] #[.pointer (some ⟨k2, 0, none⟩)]] w3 fun e2 w4 => ∃ l2 : Sl, e2 = (.returned l2.v) ∧
      ∃ i4 : Int, ∃ i5 : Int, ∃ i6 : Int, Blk w4 k2 24 [.int .i64 i4, .int .i64 i5, .int .i64 i6] ∧
      Calls Try.prog 23 #[l2.v, .agg #[.int .i64 i4, .int .i64 i5, .int .i64 i6], .func (.func 24) #[] #[]] w4 fun e3 w5 => ∃ i7 : Int, ∃ b1 : Bool, e3 = (.returned (.tuple #[.int .i64 i7, .bool b1])) ∧
       ∃ i8 : Int, ∃ i9 : Int, ∃ i10 : Int, Blk w5 k2 24 [.int .i64 i8, .int .i64 i9, .int .i64 i10] ∧
       ∃ l3 : Sl, ∃ w6 : World, ((Instr.buildSlice 22 1 #[.mk 0 (.agg #[.int .i64 i8, .int .i64 i9, .int .i64 i10])]).run Try.prog w5) = (.ok l3.v w6) ∧
       Same [k2] w5 w6 ∧
       Calls Try.prog 25 #[l2.v, .int .i64 i7, l3.v] w6 fun e4 w7 => ∃ l4 : Sl, e4 = (.returned l4.v) ∧
        ∃ i11 : Int, ∃ i12 : Int, ∃ i13 : Int, Blk w7 k2 24 [.int .i64 i11, .int .i64 i12, .int .i64 i13] ∧
        ∃ k3 : Nat, k3 < k1 ∧
        J0 k3 l4 (IntKind.wrap .i64 (i0 + 1)) w7) ∧
    ((decide (i0 < (add.n : Int))) = false → R (.tuple #[l1.v, .int .i64 0]) w2))
theorem timers_Set_wp (l : Sl) (add : Sl) (R : Value → World → Prop) (w : World) (h : timers_Set_vc l add R w) : Calls Try.prog 8 #[l.v, add.v] w fun e w' => ∃ v, e = .returned v ∧ R v w' :=
  fn_by (an := .s .o (.s (.s .o (.s (.s .o .o) .o)) (.s .o (.s (.s .o (.j [16, 17] [.s 6 .sl, .s 18 (.int .i64)] (.s .o (.s (.s .o .o) (.s (.s .o (.s .o (.s .o .o))) .o))) .o)) (.s .o .o))))) (args := [.sl l, .sl add]) Try.checked.mixed (by kernel_rfl) (by kernel_rfl) h
def timers_Right_vc (l : Sl) (R : Value → World → Prop) (w : World) : Prop :=
  ∃ m0 : Option Nat, ∃ w0 : World, ((Instr.makeMap 50 none).run Try.prog w) = (.ok (.map m0) w0) ∧
  ∃ J0 : Nat → Int → World → Prop, ∃ k0 : Nat, J0 k0 0 w0 ∧
  ∀ k1 : Nat, ∀ i0 : Int, ∀ w1 : World, J0 k1 i0 w1 → ((decide (i0 < (l.n : Int))) = true → ∃ p0 : Addr, SlAt l i0 3 p0 ∧
   ∃ i1 : Int, ∃ i2 : Int, ∃ i3 : Int, Cells w1 p0 [.int .i64 i1, .int .i64 i2, .int .i64 i3] ∧
   ∀ k2 : Nat, ∀ w2 : World, w1.heap.size ≤ k2 → k2 < w2.heap.size → Only [] w1 w2 → ∃ J1 : Bool → World → Prop, (∀ b0 : Bool, ∀ w3 : World, J1 b0 w3 → (b0 = true → R (.bool false) w3) ∧
    (b0 = false → Calls Try.prog 22 #[.agg #[.int .i64 i1, .int .i64 i2, .int .i64 i3]] w3 fun e0 w4 => ∃ i4 : Int, ∃ i5 : Int, ∃ i6 : Int, e0 = (.returned (.agg #[.int .i64 i4, .int .i64 i5, .int .i64 i6])) ∧
     Same [k2] w3 w4 ∧
     ∃ w5 : World, ((Instr.mapUpdate 50 (.map m0) (.agg #[.int .i64 i4, .int .i64 i5, .int .i64 i6]) (.bool true)).run Try.prog w4) = (.ok () w5) ∧
     Same [k2] w4 w5 ∧
     ∃ k3 : Nat, k3 < k1 ∧
     J0 k3 (IntKind.wrap .i64 (i0 + 1)) w5)) ∧
   ∀ w6 : World, Only [] w2 w6 → Calls Try.prog 22 #[.agg #[.int .i64 i1, .int .i64 i2, .int .i64 i3]] w6 fun e1 w7 => ∃ i7 : Int, ∃ i8 : Int, ∃ i9 : Int, e1 = (.returned (.agg #[.int .i64 i7, .int .i64 i8, .int .i64 i9])) ∧
    Same [k2] w6 w7 ∧
    ∃ b1 : Bool, ∃ w8 : World, ((Instr.lookup 50 (.map m0) (.agg #[.int .i64 i7, .int .i64 i8, .int .i64 i9]) false).run Try.prog w7) = (.ok (.bool b1) w8) ∧
    Same [k2] w7 w8 ∧
    (b1 = true → J1 true w8) ∧
    (b1 = false → ((decide (i0 > 0)) = true → ∃ p1 : Addr, SlAt l (IntKind.wrap .i64 (i0 - 1)) 3 p1 ∧
     ∃ i10 : Int, ∃ i11 : Int, ∃ i12 : Int, Cells w8 p1 [.int .i64 i10, .int .i64 i11, .int .i64 i12] ∧
     Calls Try.prog 24 #[.agg #[.int .i64 i10, .int .i64 i11, .int .i64 i12], .agg #[.int .i64 i1, .int .i64 i2, .int .i64 i3]] w8 fun e2 w9 => ∃ i13 : Int, e2 = (.returned (.int .i64 i13)) ∧
      Same [k2] w8 w9 ∧
      J1 (decide (i13 > 0)) w9) ∧
    ((decide (i0 > 0)) = false → J1 false w8))) ∧
  ((decide (i0 < (l.n : Int))) = false → R (.bool true) w1)
theorem timers_Right_wp (l : Sl) (R : Value → World → Prop) (w : World) (h : timers_Right_vc l R w) : Calls Try.prog 9 #[l.v] w fun e w' => ∃ v, e = .returned v ∧ R v w' :=
  fn_by (an := .s .o (.s .o (.s (.s .o (.j [0, 3, 7, 8] [.s 9 (.int .i64)] (.s .o (.s (.s .o .o) (.s (.s .o (.s (.s (.j [0, 3, 5, 7, 8, 9] [.s 31 .bool] .o .o) (.s (.s .o .o) .o)) .o)) .o))) .o)) (.s .o .o)))) (args := [.sl l]) Try.checked.mixed (by kernel_rfl) (by kernel_rfl) h
def pavaneref14_Same_vc (a_ : Sl) (b : Sl) (R : Value → World → Prop) (w : World) : Prop :=
  (((a_.n : Int) != (b.n : Int)) = true → R (.bool false) w) ∧
  (((a_.n : Int) != (b.n : Int)) = false → ∃ J0 : Nat → Int → World → Prop, ∃ k0 : Nat, J0 k0 0 w ∧
  ∀ k1 : Nat, ∀ i0 : Int, ∀ w0 : World, J0 k1 i0 w0 → ((decide (i0 < (a_.n : Int))) = true → ∃ p0 : Addr, SlAt a_ i0 3 p0 ∧
   ∃ i1 : Int, ∃ i2 : Int, ∃ i3 : Int, Cells w0 p0 [.int .i64 i1, .int .i64 i2, .int .i64 i3] ∧
   ∃ p1 : Addr, SlAt b i0 3 p1 ∧
   ∃ i4 : Int, ∃ i5 : Int, ∃ i6 : Int, Cells w0 p1 [.int .i64 i4, .int .i64 i5, .int .i64 i6] ∧
   ((!((i1 == i4) && ((i2 == i5) && (i3 == i6)))) = true → ∀ w1 : World, Only [] w0 w1 → R (.bool false) w1) ∧
   ((!((i1 == i4) && ((i2 == i5) && (i3 == i6)))) = false → ∀ w2 : World, Only [] w0 w2 → ∃ k2 : Nat, k2 < k1 ∧
   J0 k2 (IntKind.wrap .i64 (i0 + 1)) w2)) ∧
  ((decide (i0 < (a_.n : Int))) = false → R (.bool true) w0))
theorem pavaneref14_Same_wp (a_ : Sl) (b : Sl) (R : Value → World → Prop) (w : World) (h : pavaneref14_Same_vc a_ b R w) : Calls Try.prog 10 #[a_.v, b.v] w fun e w' => ∃ v, e = .returned v ∧ R v w' :=
  fn_by (an := .s .o (.s (.s .o (.s (.s .o .o) .o)) (.s (.s .o (.j [0, 1] [.s 5 (.int .i64)] (.s (.s .o (.s .o .o)) (.s (.s .o (.s (.s .o .o) .o)) .o)) .o)) (.s .o .o)))) (args := [.sl a_, .sl b]) Try.checked.mixed (by kernel_rfl) (by kernel_rfl) h
def timers_Drop_vc (l : Sl) (nodes : Sl) (R : Value → World → Prop) (w : World) : Prop :=
  ∀ k0 : Nat, ∀ w0 : World, w.heap.size ≤ k0 → k0 < w0.heap.size → Only [] w w0 → Calls Try.prog 9 #[l.v] w0 fun e0 w1 => ∃ b0 : Bool, e0 = (.returned (.bool b0)) ∧
   Same [k0] w0 w1 ∧
   ((!b0) = true → R (.tuple #[Sl.nil.v, .int .i64 1]) w1) ∧
   ((!b0) = false → Calls Try.prog 19 #[l.v] w1 fun e1 w2 => ∃ l0 : Sl, e1 = (.returned l0.v) ∧
    Same [k0] w1 w2 ∧
    (Blk w2 k0 32 [nodes.v] → Calls Try.prog 20 #[l0.v, .func (.func 26) #[] #[.pointer (some ⟨k0, 0, none⟩)]] w2 fun e2 w3 => ∃ l1 : Sl, e2 = (.returned l1.v) ∧
     ∃ l2 : Sl, Blk w3 k0 32 [l2.v] ∧
     R (.tuple #[l1.v, .int .i64 0]) w3))
theorem timers_Drop_wp (l : Sl) (nodes : Sl) (R : Value → World → Prop) (w : World) (h : timers_Drop_vc l nodes R w) : Calls Try.prog 11 #[l.v, nodes.v] w fun e w' => ∃ v, e = .returned v ∧ R v w' :=
  fn_by (an := .s .o (.s (.s .o (.s (.s .o .o) .o)) (.s .o .o))) (args := [.sl l, .sl nodes]) Try.checked.mixed (by kernel_rfl) (by kernel_rfl) h
def timers_Due_vc (l : Sl) (now : Int) (R : Value → World → Prop) (w : World) : Prop :=
  ∀ k0 : Nat, ∀ w0 : World, w.heap.size ≤ k0 → k0 < w0.heap.size → Only [] w w0 → ∃ J0 : Bool → World → Prop, (∀ b0 : Bool, ∀ w1 : World, J0 b0 w1 → (b0 = true → ∀ w2 : World, Only [k0] w1 w2 → R (.tuple #[.agg #[.int .i64 0, .int .i64 0, .int .i64 0], Sl.nil.v, .bool false]) w2) ∧
   (b0 = false → ∀ w3 : World, Only [] w1 w3 → ∃ J1 : Nat → Prop, ∃ p0 : Addr, SlAt l 0 3 p0 ∧
   J1 p0.block ∧
   ∃ i0 : Int, ∃ i1 : Int, ∃ i2 : Int, Cells w3 p0 [.int .i64 i0, .int .i64 i1, .int .i64 i2] ∧
   (1 ≤ l.n ∧
    l.n ≤ l.c) ∧
   Calls Try.prog 19 #[(l.cut 1 l.n l.c 3).v] w3 fun e0 w4 => ∃ l0 : Sl, e0 = (.returned l0.v) ∧
    Same [k0] w3 w4 ∧
    Keeps J1 w3 w4 ∧
    ∀ w5 : World, Only [k0] w4 w5 → R (.tuple #[.agg #[.int .i64 i0, .int .i64 i1, .int .i64 i2], l0.v, .bool true]) w5)) ∧
  ∃ p1 : Addr, (((l.n : Int) == 0) = false → SlAt l 0 3 p1) ∧
  ∃ i3 : Int, (((l.n : Int) == 0) = false → Cells w0 (p1.add 0) [.int .i64 i3]) ∧
  ((((l.n : Int) == 0) || (decide (i3 > now))) = true → J0 true w0) ∧
  ((((l.n : Int) == 0) || (decide (i3 > now))) = false → Calls Try.prog 9 #[l.v] w0 fun e1 w6 => ∃ b1 : Bool, e1 = (.returned (.bool b1)) ∧
   Same [k0] w0 w6 ∧
   J0 (!b1) w6)
theorem timers_Due_wp (l : Sl) (now : Int) (R : Value → World → Prop) (w : World) (h : timers_Due_vc l now R w) : Calls Try.prog 12 #[l.v, .int .i64 now] w fun e w' => ∃ v, e = .returned v ∧ R v w' :=
  fn_by (an := .s .o (.s (.s (.j [0, 4] [.s 22 .bool] .o .o) (.s (.s .o .o) .o)) (.s .o .o))) (args := [.sl l, .int .i64 now]) Try.checked.mixed (by kernel_rfl) (by kernel_rfl) h
def pavaneref14_Set_vc (l : Sl) (add : Sl) (R : Value → World → Prop) (w : World) : Prop :=
  Calls Try.prog 18 #[l.v] w fun e0 w0 => ∃ b0 : Bool, e0 = (.returned (.bool b0)) ∧
   ((!b0) = true → R (.tuple #[Sl.nil.v, .int .i64 1]) w0) ∧
   ((!b0) = false → ∃ l0 : Sl, ∃ w1 : World, ((Instr.buildSlice 22 0 #[]).run Try.prog w0) = (.ok l0.v w1) ∧
   ∃ l1 : Sl, ∃ w2 : World, ((Builtin.append_ #[22, 22] 22 #[l0.v, l.v]).run Try.prog w1) = (.ok l1.v w2) ∧
   ∃ J0 : Nat → Sl → Int → World → Prop, ∃ k0 : Nat, J0 k0 l1 0 w2 ∧
   ∀ k1 : Nat, ∀ l2 : Sl, ∀ i0 : Int, ∀ w3 : World, J0 k1 l2 i0 w3 → ((decide (i0 < (add.n : Int))) = true → ∃ p0 : Addr, SlAt add i0 3 p0 ∧
    ∃ i1 : Int, ∃ i2 : Int, ∃ i3 : Int, Cells w3 p0 [.int .i64 i1, .int .i64 i2, .int .i64 i3] ∧
    Calls Try.prog 28 #[l2.v, .agg #[.int .i64 i1, .int .i64 i2, .int .i64 i3]] w3 fun e1 w4 => ∃ l3 : Sl, e1 = (.returned l3.v) ∧
     ∃ k2 : Nat, k2 < k1 ∧
     J0 k2 l3 (IntKind.wrap .i64 (i0 + 1)) w4) ∧
   ((decide (i0 < (add.n : Int))) = false → R (.tuple #[l2.v, .int .i64 0]) w3))
theorem pavaneref14_Set_wp (l : Sl) (add : Sl) (R : Value → World → Prop) (w : World) (h : pavaneref14_Set_vc l add R w) : Calls Try.prog 13 #[l.v, add.v] w fun e w' => ∃ v, e = .returned v ∧ R v w' :=
  fn_by (an := .s .o (.s .o (.s (.s .o (.s (.s .o .o) .o)) (.s .o (.s (.s .o (.j [1] [.s 7 .sl, .s 8 (.int .i64)] (.s (.s .o (.s .o .o)) (.s .o .o)) .o)) (.s .o .o)))))) (args := [.sl l, .sl add]) Try.checked.mixed (by kernel_rfl) (by kernel_rfl) h
def pavaneref14_Drop_vc (l : Sl) (nodes : Sl) (R : Value → World → Prop) (w : World) : Prop :=
  Calls Try.prog 18 #[l.v] w fun e0 w0 => ∃ b0 : Bool, e0 = (.returned (.bool b0)) ∧
   ((!b0) = true → R (.tuple #[Sl.nil.v, .int .i64 1]) w0) ∧
   ((!b0) = false → ∃ J0 : Nat → Sl → Int → World → Prop, ∃ k0 : Nat, J0 k0 Sl.nil 0 w0 ∧
   ∀ k1 : Nat, ∀ l0 : Sl, ∀ i0 : Int, ∀ w1 : World, J0 k1 l0 i0 w1 → ((decide (i0 < (l.n : Int))) = true → ∃ J1 : Sl → World → Prop, (∀ l1 : Sl, ∀ w2 : World, J1 l1 w2 → ∃ k2 : Nat, k2 < k1 ∧
     J0 k2 l1 (IntKind.wrap .i64 (i0 + 1)) w2) ∧
    ∃ J2 : Nat → Bool → Int → World → Prop, ∃ k3 : Nat, J2 k3 false 0 w1 ∧
    ∀ k4 : Nat, ∀ b1 : Bool, ∀ i1 : Int, ∀ w3 : World, J2 k4 b1 i1 w3 → ((decide (i1 < (nodes.n : Int))) = true → ∃ p0 : Addr, (b1 = false → SlAt nodes i1 1 p0) ∧
     ∃ i2 : Int, (b1 = false → Cells w3 p0 [.int .i64 i2]) ∧
     ∃ p1 : Addr, (b1 = false → SlAt l i0 3 p1) ∧
     ∃ i3 : Int, (b1 = false → Cells w3 (p1.add 1) [.int .i64 i3]) ∧
     ∀ w4 : World, Only [] w3 w4 → ∃ k5 : Nat, k5 < k4 ∧
     J2 k5 (b1 || (i2 == i3)) (IntKind.wrap .i64 (i1 + 1)) w4) ∧
    ((decide (i1 < (nodes.n : Int))) = false → ((!b1) = true → ∃ p2 : Addr, SlAt l i0 3 p2 ∧
     ∃ i4 : Int, ∃ i5 : Int, ∃ i6 : Int, Cells w3 p2 [.int .i64 i4, .int .i64 i5, .int .i64 i6] ∧
     ∃ l2 : Sl, ∃ w5 : World, ((Instr.buildSlice 22 1 #[.mk 0 (.agg #[.int .i64 i4, .int .i64 i5, .int .i64 i6])]).run Try.prog w3) = (.ok l2.v w5) ∧
     ∃ l3 : Sl, ∃ w6 : World, ((Builtin.append_ #[22, 22] 22 #[l0.v, l2.v]).run Try.prog w5) = (.ok l3.v w6) ∧
     J1 l3 w6) ∧
    ((!b1) = false → J1 l0 w3))) ∧
   ((decide (i0 < (l.n : Int))) = false → R (.tuple #[l0.v, .int .i64 0]) w1))
theorem pavaneref14_Drop_wp (l : Sl) (nodes : Sl) (R : Value → World → Prop) (w : World) (h : pavaneref14_Drop_vc l nodes R w) : Calls Try.prog 14 #[l.v, nodes.v] w fun e w' => ∃ v, e = .returned v ∧ R v w' :=
  fn_by (an := .s .o (.s .o (.s (.s .o (.s (.s .o .o) .o)) (.s .o (.s (.s .o (.j [0, 1] [.s 7 .sl, .s 8 (.int .i64)] (.s (.s .o (.s .o .o)) (.j [0, 1, 8] [.s 7 .sl] (.s .o (.s (.s .o (.j [0, 1, 7, 8] [.s 9 .bool, .s 10 (.int .i64)] (.s (.s .o (.s .o .o)) (.s .o .o)) .o)) (.s .o (.s .o .o)))) .o)) .o)) (.s .o .o)))))) (args := [.sl l, .sl nodes]) Try.checked.mixed (by kernel_rfl) (by kernel_rfl) h
def pavaneref14_Due_vc (l : Sl) (now : Int) (R : Value → World → Prop) (w : World) : Prop :=
  ∀ k0 : Nat, ∀ w0 : World, w.heap.size ≤ k0 → k0 < w0.heap.size → Only [] w w0 → Calls Try.prog 18 #[l.v] w0 fun e0 w1 => ∃ b0 : Bool, e0 = (.returned (.bool b0)) ∧
   Same [k0] w0 w1 ∧
   ∃ p0 : Addr, (((!b0) || ((l.n : Int) == 0)) = false → SlAt l 0 3 p0) ∧
   ∃ i0 : Int, (((!b0) || ((l.n : Int) == 0)) = false → Cells w1 (p0.add 0) [.int .i64 i0]) ∧
   ((((!b0) || ((l.n : Int) == 0)) || (decide (i0 > now))) = true → ∀ w2 : World, Only [k0] w1 w2 → R (.tuple #[.agg #[.int .i64 0, .int .i64 0, .int .i64 0], Sl.nil.v, .bool false]) w2) ∧
   ((((!b0) || ((l.n : Int) == 0)) || (decide (i0 > now))) = false → ∀ w3 : World, Only [] w1 w3 → ∃ J0 : Nat → Prop, ∃ p1 : Addr, SlAt l 0 3 p1 ∧
   J0 p1.block ∧
   ∃ i1 : Int, ∃ i2 : Int, ∃ i3 : Int, Cells w3 p1 [.int .i64 i1, .int .i64 i2, .int .i64 i3] ∧
   (1 ≤ l.n ∧
    l.n ≤ l.c) ∧
   ∃ l0 : Sl, ∃ w4 : World, ((Instr.buildSlice 22 0 #[]).run Try.prog w3) = (.ok l0.v w4) ∧
   Same [k0] w3 w4 ∧
   Keeps J0 w3 w4 ∧
   ∃ l1 : Sl, ∃ w5 : World, ((Builtin.append_ #[22, 22] 22 #[l0.v, (l.cut 1 l.n l.c 3).v]).run Try.prog w4) = (.ok l1.v w5) ∧
   Same [k0] w4 w5 ∧
   Keeps J0 w4 w5 ∧
   ∀ w6 : World, Only [k0] w5 w6 → R (.tuple #[.agg #[.int .i64 i1, .int .i64 i2, .int .i64 i3], l1.v, .bool true]) w6)
theorem pavaneref14_Due_wp (l : Sl) (now : Int) (R : Value → World → Prop) (w : World) (h : pavaneref14_Due_vc l now R w) : Calls Try.prog 15 #[l.v, .int .i64 now] w fun e w' => ∃ v, e = .returned v ∧ R v w' :=
  fn_by (an := .s .o (.s .o (.s (.s .o (.s (.s .o .o) .o)) (.s .o .o)))) (args := [.sl l, .int .i64 now]) Try.checked.mixed (by kernel_rfl) (by kernel_rfl) h
def pavaneref01_Same_vc (a_ : Sl) (b : Sl) (R : Value → World → Prop) (w : World) : Prop :=
  (((a_.n : Int) != (b.n : Int)) = true → R (.bool false) w) ∧
  (((a_.n : Int) != (b.n : Int)) = false → ∃ J0 : Nat → Int → World → Prop, ∃ k0 : Nat, J0 k0 0 w ∧
  ∀ k1 : Nat, ∀ i0 : Int, ∀ w0 : World, J0 k1 i0 w0 → ((decide (i0 < (a_.n : Int))) = true → ∃ p0 : Addr, SlAt a_ i0 1 p0 ∧
   ∃ i1 : Int, Cells w0 p0 [.int .i64 i1] ∧
   ∃ p1 : Addr, SlAt b i0 1 p1 ∧
   ∃ i2 : Int, Cells w0 p1 [.int .i64 i2] ∧
   ((i1 != i2) = true → ∀ w1 : World, Only [] w0 w1 → R (.bool false) w1) ∧
   ((i1 != i2) = false → ∀ w2 : World, Only [] w0 w2 → ∃ k2 : Nat, k2 < k1 ∧
   J0 k2 (IntKind.wrap .i64 (i0 + 1)) w2)) ∧
  ((decide (i0 < (a_.n : Int))) = false → R (.bool true) w0))
theorem pavaneref01_Same_wp (a_ : Sl) (b : Sl) (R : Value → World → Prop) (w : World) (h : pavaneref01_Same_vc a_ b R w) : Calls Try.prog 16 #[a_.v, b.v] w fun e w' => ∃ v, e = .returned v ∧ R v w' :=
  fn_by (an := .s .o (.s (.s .o (.s (.s .o .o) .o)) (.s (.s .o (.j [0, 1] [.s 5 (.int .i64)] (.s (.s .o (.s .o .o)) (.s (.s .o (.s (.s .o .o) .o)) .o)) .o)) (.s .o .o)))) (args := [.sl a_, .sl b]) Try.checked.mixed (by kernel_rfl) (by kernel_rfl) h
def pavanelaw14_over_vc (l : Sl) (other : Sl) (was : Sl) (R : Value → World → Prop) (w : World) : Prop :=
  ∃ k0 : Nat, ((l.c : Int) = (k0 : Int) ∧
   k0 ≤ l.c) ∧
  ∃ J0 : Nat → Int → World → Prop, ∃ k1 : Nat, J0 k1 0 w ∧
  ∀ k2 : Nat, ∀ i0 : Int, ∀ w0 : World, J0 k2 i0 w0 → ((decide (i0 < ((l.cut 0 k0 l.c 3).n : Int))) = true → ∃ p0 : Addr, SlAt (l.cut 0 k0 l.c 3) i0 3 p0 ∧
   ∃ k3 : Nat, ∃ k4 : Nat, ∃ z0 : List Value, ∃ k5 : Nat, p0 = ⟨k3, k4, none⟩ ∧
   Blk w0 k3 k5 z0 ∧
   (k4 + 3) ≤ z0.length ∧
   ∀ w1 : World, Only [k3] w0 w1 → Blk w1 k3 k5 (splice z0 k4 [.int .i64 (-7), .int .i64 0, .int .i64 0]) → ∃ k6 : Nat, k6 < k2 ∧
   J0 k6 (IntKind.wrap .i64 (i0 + 1)) w1) ∧
  ((decide (i0 < ((l.cut 0 k0 l.c 3).n : Int))) = false → Calls Try.prog 10 #[other.v, was.v] w0 fun e0 w2 => ∃ b0 : Bool, e0 = (.returned (.bool b0)) ∧
   R (.bool b0) w2)
theorem pavanelaw14_over_wp (l : Sl) (other : Sl) (was : Sl) (R : Value → World → Prop) (w : World) (h : pavanelaw14_over_vc l other was R w) : Calls Try.prog 17 #[l.v, other.v, was.v] w fun e w' => ∃ v, e = .returned v ∧ R v w' :=
  fn_by (an := .s .o (.s .o (.s (.s .o (.j [1, 2, 7] [.s 8 (.int .i64)] (.s (.s .o (.s .o .o)) (.s .o .o)) .o)) (.s .o .o)))) (args := [.sl l, .sl other, .sl was]) Try.checked.mixed (by kernel_rfl) (by kernel_rfl) h
def pavaneref14_Right_vc (l : Sl) (R : Value → World → Prop) (w : World) : Prop :=
  ∃ J0 : Nat → Int → World → Prop, ∃ k0 : Nat, J0 k0 0 w ∧
  ∀ k1 : Nat, ∀ i0 : Int, ∀ w0 : World, J0 k1 i0 w0 → ((decide (i0 < (l.n : Int))) = true → ∃ J1 : Bool → World → Prop, (∀ b0 : Bool, ∀ w1 : World, J1 b0 w1 → (b0 = true → R (.bool false) w1) ∧
    (b0 = false → ∃ J2 : Nat → Int → World → Prop, ∃ k2 : Nat, J2 k2 0 w1 ∧
    ∀ k3 : Nat, ∀ i1 : Int, ∀ w2 : World, J2 k3 i1 w2 → ((decide (i1 < i0)) = true → ∃ p0 : Addr, SlAt l i0 3 p0 ∧
     ∃ i2 : Int, Cells w2 (p0.add 1) [.int .i64 i2] ∧
     ∃ p1 : Addr, SlAt l i1 3 p1 ∧
     ∃ i3 : Int, Cells w2 (p1.add 1) [.int .i64 i3] ∧
     ∃ p2 : Addr, ((i2 == i3) = true → SlAt l i0 3 p2) ∧
     ∃ i4 : Int, ((i2 == i3) = true → Cells w2 (p2.add 2) [.int .i64 i4]) ∧
     ∃ p3 : Addr, ((i2 == i3) = true → SlAt l i1 3 p3) ∧
     ∃ i5 : Int, ((i2 == i3) = true → Cells w2 (p3.add 2) [.int .i64 i5]) ∧
     (((i2 == i3) && (i4 == i5)) = true → ∀ w3 : World, Only [] w2 w3 → R (.bool false) w3) ∧
     (((i2 == i3) && (i4 == i5)) = false → ∀ w4 : World, Only [] w2 w4 → ∃ k4 : Nat, k4 < k3 ∧
     J2 k4 (IntKind.wrap .i64 (i1 + 1)) w4)) ∧
    ((decide (i1 < i0)) = false → ∃ k5 : Nat, k5 < k1 ∧
    J0 k5 (IntKind.wrap .i64 (i0 + 1)) w2))) ∧
   ((decide (i0 > 0)) = true → ∃ p4 : Addr, SlAt l (IntKind.wrap .i64 (i0 - 1)) 3 p4 ∧
    ∀ w5 : World, Only [] w0 w5 → ∃ i6 : Int, ∃ i7 : Int, ∃ i8 : Int, Cells w5 p4 [.int .i64 i6, .int .i64 i7, .int .i64 i8] ∧
    ∃ p5 : Addr, SlAt l i0 3 p5 ∧
    ∃ i9 : Int, ∃ i10 : Int, ∃ i11 : Int, Cells w5 p5 [.int .i64 i9, .int .i64 i10, .int .i64 i11] ∧
    Calls Try.prog 29 #[.agg #[.int .i64 i6, .int .i64 i7, .int .i64 i8], .agg #[.int .i64 i9, .int .i64 i10, .int .i64 i11]] w5 fun e0 w6 => ∃ b1 : Bool, e0 = (.returned (.bool b1)) ∧
     J1 (!b1) w6) ∧
   ((decide (i0 > 0)) = false → ∀ w7 : World, Only [] w0 w7 → J1 false w7)) ∧
  ((decide (i0 < (l.n : Int))) = false → R (.bool true) w0)
theorem pavaneref14_Right_wp (l : Sl) (R : Value → World → Prop) (w : World) (h : pavaneref14_Right_vc l R w) : Calls Try.prog 18 #[l.v] w fun e w' => ∃ v, e = .returned v ∧ R v w' :=
  fn_by (an := .s .o (.s (.s .o (.j [0] [.s 3 (.int .i64)] (.s (.s .o (.s .o .o)) (.s (.s (.s (.j [0, 3] [.s 25 .bool] .o .o) (.s (.s .o .o) .o)) (.s .o (.j [0, 3] [.s 4 (.int .i64)] (.s (.s .o (.s .o .o)) (.s (.s .o (.s (.s .o .o) .o)) .o)) .o))) .o)) .o)) (.s .o .o))) (args := [.sl l]) Try.checked.mixed (by kernel_rfl) (by kernel_rfl) h
def slices_Clone_api_Timer_vc (s : Sl) (R : Value → World → Prop) (w : World) : Prop :=
  (s.a.isNone = true → R Sl.nil.v w) ∧
  (s.a.isNone = false → ∃ l0 : Sl, ∃ w0 : World, ((Instr.buildSlice 22 0 #[]).run Try.prog w) = (.ok l0.v w0) ∧
  ∃ l1 : Sl, ∃ w1 : World, ((Builtin.append_ #[22, 22] 22 #[l0.v, s.v]).run Try.prog w0) = (.ok l1.v w1) ∧
  R l1.v w1)
theorem slices_Clone_api_Timer_wp (s : Sl) (R : Value → World → Prop) (w : World) (h : slices_Clone_api_Timer_vc s R w) : Calls Try.prog 19 #[s.v] w fun e w' => ∃ v, e = .returned v ∧ R v w' :=
  fn_by (an := .s .o (.s (.s .o (.s (.s .o .o) .o)) (.s .o .o))) (args := [.sl s]) Try.checked.mixed (by kernel_rfl) (by kernel_rfl) h
def slices_DeleteFunc_api_Timer_vc (s : Sl) (del : OV) (R : Value → World → Prop) (w : World) : Prop :=
  Calls Try.prog 30 #[s.v, del.v] w fun e0 w0 => ∃ i0 : Int, e0 = (.returned (.int .i64 i0)) ∧
   ((i0 == (-1)) = true → R s.v w0) ∧
   ((i0 == (-1)) = false → ∃ J0 : Nat → Int → Int → World → Prop, ∃ k0 : Nat, J0 k0 i0 (IntKind.wrap .i64 (i0 + 1)) w0 ∧
   ∀ k1 : Nat, ∀ i1 : Int, ∀ i2 : Int, ∀ w1 : World, J0 k1 i1 i2 w1 → ((decide (i2 < (s.n : Int))) = true → ∃ J1 : Int → World → Prop, (∀ i3 : Int, ∀ w2 : World, J1 i3 w2 → ∃ k2 : Nat, k2 < k1 ∧
     J0 k2 i3 (IntKind.wrap .i64 (i2 + 1)) w2) ∧
    ∃ p0 : Addr, SlAt s i2 3 p0 ∧
    ∃ i4 : Int, ∃ i5 : Int, ∃ i6 : Int, Cells w1 p0 [.int .i64 i4, .int .i64 i5, .int .i64 i6] ∧
    ∀ k3 : Nat, ∀ w3 : World, w1.heap.size ≤ k3 → k3 < w3.heap.size → Only [] w1 w3 → ∃ k4 : Nat, ∃ z0 : List Value, del.v = (.func (.func k4) #[] z0.toArray) ∧
    (∀ x0 : Array Value, ∀ w4 : World, ((callFunc k4 x0).run Try.prog w4) = (.ok (.enter k4 x0) w4)) ∧
    Calls Try.prog k4 (((.agg #[.int .i64 i4, .int .i64 i5, .int .i64 i6]) :: z0).toArray) w3 fun e1 w5 => ∃ b0 : Bool, e1 = (.returned (.bool b0)) ∧
     Same [k3] w3 w5 ∧
     ((!b0) = true → ∃ p1 : Addr, SlAt s i1 3 p1 ∧
      ∃ k5 : Nat, ∃ k6 : Nat, ∃ z1 : List Value, ∃ k7 : Nat, p1 = ⟨k5, k6, none⟩ ∧
      Blk w5 k5 k7 z1 ∧
      (k6 + 3) ≤ z1.length ∧
      k3 ≠ k5 ∧
      ∀ w6 : World, Only [k5] w5 w6 → Blk w6 k5 k7 (splice z1 k6 [.int .i64 i4, .int .i64 i5, .int .i64 i6]) → J1 (IntKind.wrap .i64 (i1 + 1)) w6) ∧
     ((!b0) = false → J1 i1 w5)) ∧
   ((decide (i2 < (s.n : Int))) = false → ∃ k8 : Nat, (i1 = (k8 : Int) ∧
    k8 ≤ s.n ∧
    s.n ≤ s.c) ∧
   ∃ w7 : World, ((Builtin.clear_ #[22] 0 #[(s.cut k8 s.n s.c 3).v]).run Try.prog w1) = (.ok (.tuple #[]) w7) ∧
   ∃ k9 : Nat, (i1 = (k9 : Int) ∧
    k9 ≤ s.c) ∧
   R ((s.cut 0 k9 s.c 3).v) w7))
theorem slices_DeleteFunc_api_Timer_wp (s : Sl) (del : OV) (R : Value → World → Prop) (w : World) (h : slices_DeleteFunc_api_Timer_vc s del R w) : Calls Try.prog 20 #[s.v, del.v] w fun e w' => ∃ v, e = .returned v ∧ R v w' :=
  fn_by (an := .s .o (.s .o (.s (.s .o (.s (.s .o .o) .o)) (.s (.s .o (.j [0, 1] [.s 5 (.int .i64), .s 6 (.int .i64)] (.s (.s .o (.s .o .o)) (.j [0, 1, 6] [.s 5 (.int .i64)] (.s .o (.s .o (.s (.s .o .o) .o))) .o)) .o)) (.s .o (.s .o .o)))))) (args := [.sl s, .raw del]) Try.checked.mixed (by kernel_rfl) (by kernel_rfl) h
def timers_Set_1_vc (o : Int) (o1 : Int) (o2 : Int) (ccap0 : Addr) (R : Value → World → Prop) (w : World) : Prop :=
  ∀ k0 : Nat, ∀ w0 : World, w.heap.size ≤ k0 → k0 < w0.heap.size → Only [] w w0 → ∃ J0 : Nat → Prop, J0 ccap0.block ∧
  ∃ i0 : Int, ∃ i1 : Int, ∃ i2 : Int, Cells w0 ccap0 [.int .i64 i0, .int .i64 i1, .int .i64 i2] ∧
  Calls Try.prog 22 #[.agg #[.int .i64 o, .int .i64 o1, .int .i64 o2]] w0 fun e0 w1 => ∃ i3 : Int, ∃ i4 : Int, ∃ i5 : Int, e0 = (.returned (.agg #[.int .i64 i3, .int .i64 i4, .int .i64 i5])) ∧
   Same [k0] w0 w1 ∧
   Keeps J0 w0 w1 ∧
   Calls Try.prog 22 #[.agg #[.int .i64 i0, .int .i64 i1, .int .i64 i2]] w1 fun e1 w2 => ∃ i6 : Int, ∃ i7 : Int, ∃ i8 : Int, e1 = (.returned (.agg #[.int .i64 i6, .int .i64 i7, .int .i64 i8])) ∧
    Same [k0] w1 w2 ∧
    Keeps J0 w1 w2 ∧
    R (.bool ((i3 == i6) && ((i4 == i7) && (i5 == i8)))) w2
theorem timers_Set_1_wp (o : Int) (o1 : Int) (o2 : Int) (ccap0 : Addr) (R : Value → World → Prop) (w : World) (h : timers_Set_1_vc o o1 o2 ccap0 R w) : Calls Try.prog 21 #[.agg #[.int .i64 o, .int .i64 o1, .int .i64 o2], .pointer (some ccap0)] w fun e w' => ∃ v, e = .returned v ∧ R v w' :=
  fn_by (an := .s .o (.s .o .o)) (args := [.agg (ofL [.int .i64 o, .int .i64 o1, .int .i64 o2]), .ad ccap0]) Try.checked.mixed (by kernel_rfl) (by kernel_rfl) h
def timers_whose_vc (t : Int) (t1 : Int) (t2 : Int) (R : Value → World → Prop) (w : World) : Prop :=
  ∀ k0 : Nat, ∀ k1 : Nat, ∀ w0 : World, w.heap.size ≤ k0 → k0 < w0.heap.size → w.heap.size ≤ k1 → k1 < w0.heap.size → Only [] w w0 → R (.agg #[.int .i64 0, .int .i64 t1, .int .i64 t2]) w0
theorem timers_whose_wp (t : Int) (t1 : Int) (t2 : Int) (R : Value → World → Prop) (w : World) (h : timers_whose_vc t t1 t2 R w) : Calls Try.prog 22 #[.agg #[.int .i64 t, .int .i64 t1, .int .i64 t2]] w fun e w' => ∃ v, e = .returned v ∧ R v w' :=
  fn_by (an := .s .o (.s .o .o)) (args := [.agg (ofL [.int .i64 t, .int .i64 t1, .int .i64 t2])]) Try.checked.mixed (by kernel_rfl) (by kernel_rfl) h
def slices_BinarySearchFunc_api_Timer_vc (x : Sl) (target : Int) (target1 : Int) (target2 : Int) (cmp : OV) (R : Value → World → Prop) (w : World) : Prop :=
  ∀ k0 : Nat, ∀ w0 : World, w.heap.size ≤ k0 → k0 < w0.heap.size → Only [] w w0 → ∃ J0 : Nat → Int → Int → World → Prop, ∃ k1 : Nat, J0 k1 0 (x.n : Int) w0 ∧
  ∀ k2 : Nat, ∀ i0 : Int, ∀ i1 : Int, ∀ w1 : World, J0 k2 i0 i1 w1 → ((decide (i0 < i1)) = true → ∃ p0 : Addr, SlAt x (IntKind.wrap .i64 ((IntKind.wrap .u64 (IntKind.wrap .i64 (i0 + i1))).fdiv 2)) 3 p0 ∧
   ∀ w2 : World, Only [] w1 w2 → ∃ i2 : Int, ∃ i3 : Int, ∃ i4 : Int, Cells w2 p0 [.int .i64 i2, .int .i64 i3, .int .i64 i4] ∧
   ∃ k3 : Nat, ∃ z0 : List Value, cmp.v = (.func (.func k3) #[] z0.toArray) ∧
   (∀ x0 : Array Value, ∀ w3 : World, ((callFunc k3 x0).run Try.prog w3) = (.ok (.enter k3 x0) w3)) ∧
   Calls Try.prog k3 (((.agg #[.int .i64 i2, .int .i64 i3, .int .i64 i4]) :: ((.agg #[.int .i64 target, .int .i64 target1, .int .i64 target2]) :: z0)).toArray) w2 fun e0 w4 => ∃ i5 : Int, e0 = (.returned (.int .i64 i5)) ∧
    Same [k0] w2 w4 ∧
    ((decide (i5 < 0)) = true → ∃ k4 : Nat, k4 < k2 ∧
     J0 k4 (IntKind.wrap .i64 ((IntKind.wrap .i64 ((IntKind.wrap .u64 (IntKind.wrap .i64 (i0 + i1))).fdiv 2)) + 1)) i1 w4) ∧
    ((decide (i5 < 0)) = false → ∃ k5 : Nat, k5 < k2 ∧
    J0 k5 i0 (IntKind.wrap .i64 ((IntKind.wrap .u64 (IntKind.wrap .i64 (i0 + i1))).fdiv 2)) w4)) ∧
  ((decide (i0 < i1)) = false → ∃ J1 : Int → Bool → World → Prop, (∀ i6 : Int, ∀ b0 : Bool, ∀ w5 : World, J1 i6 b0 w5 → R (.tuple #[.int .i64 i6, .bool b0]) w5) ∧
  ((decide (i0 < (x.n : Int))) = true → ∃ p1 : Addr, SlAt x i0 3 p1 ∧
   ∀ w6 : World, Only [] w1 w6 → ∃ i7 : Int, ∃ i8 : Int, ∃ i9 : Int, Cells w6 p1 [.int .i64 i7, .int .i64 i8, .int .i64 i9] ∧
   ∃ k6 : Nat, ∃ z1 : List Value, cmp.v = (.func (.func k6) #[] z1.toArray) ∧
   (∀ x1 : Array Value, ∀ w7 : World, ((callFunc k6 x1).run Try.prog w7) = (.ok (.enter k6 x1) w7)) ∧
   Calls Try.prog k6 (((.agg #[.int .i64 i7, .int .i64 i8, .int .i64 i9]) :: ((.agg #[.int .i64 target, .int .i64 target1, .int .i64 target2]) :: z1)).toArray) w6 fun e1 w8 => ∃ i10 : Int, e1 = (.returned (.int .i64 i10)) ∧
    Same [k0] w6 w8 ∧
    J1 i0 (i10 == 0) w8) ∧
  ((decide (i0 < (x.n : Int))) = false → ∀ w9 : World, Only [] w1 w9 → J1 i0 false w9))
theorem slices_BinarySearchFunc_api_Timer_wp (x : Sl) (target : Int) (target1 : Int) (target2 : Int) (cmp : OV) (R : Value → World → Prop) (w : World) (h : slices_BinarySearchFunc_api_Timer_vc x target target1 target2 cmp R w) : Calls Try.prog 23 #[x.v, .agg #[.int .i64 target, .int .i64 target1, .int .i64 target2], cmp.v] w fun e w' => ∃ v, e = .returned v ∧ R v w' :=
  fn_by (an := .s .o (.s .o (.s .o (.s (.j [0, 2, 4, 8] [.s 9 (.int .i64), .s 10 (.int .i64)] (.s (.s .o (.s .o .o)) (.s .o (.s .o (.s .o .o)))) .o) (.s (.j [4] [.s 6 (.int .i64), .s 7 .bool] .o .o) .o))))) (args := [.sl x, .agg (ofL [.int .i64 target, .int .i64 target1, .int .i64 target2]), .raw cmp]) Try.checked.mixed (by kernel_rfl) (by kernel_rfl) h
def timers_order_vc (a_ : Int) (a_1 : Int) (a_2 : Int) (b : Int) (b1 : Int) (b2 : Int) (R : Value → World → Prop) (w : World) : Prop :=
  ∀ k0 : Nat, ∀ k1 : Nat, ∀ w0 : World, w.heap.size ≤ k0 → k0 < w0.heap.size → w.heap.size ≤ k1 → k1 < w0.heap.size → Only [] w w0 → ∃ J0 : Nat → Prop, J0 k0 ∧
  J0 k1 ∧
  J0 k0 ∧
  J0 k1 ∧
  Calls Try.prog 32 #[.int .i64 a_, .int .i64 b] w0 fun e0 w1 => ∃ i0 : Int, e0 = (.returned (.int .i64 i0)) ∧
   Same [k0, k1] w0 w1 ∧
   Keeps J0 w0 w1 ∧
   Calls Try.prog 32 #[.int .i64 a_1, .int .i64 b1] w1 fun e1 w2 => ∃ i1 : Int, e1 = (.returned (.int .i64 i1)) ∧
    Same [k0, k1] w1 w2 ∧
    Keeps J0 w1 w2 ∧
    Calls Try.prog 32 #[.int .i64 a_2, .int .i64 b2] w2 fun e2 w3 => ∃ i2 : Int, e2 = (.returned (.int .i64 i2)) ∧
     Same [k0, k1] w2 w3 ∧
     Keeps J0 w2 w3 ∧
     ∃ l0 : Sl, ∃ w4 : World, ((Instr.buildSlice 32 3 #[.mk 0 (.int .i64 i0), .mk 1 (.int .i64 i1), .mk 2 (.int .i64 i2)]).run Try.prog w3) = (.ok l0.v w4) ∧
     Same [k0, k1] w3 w4 ∧
     Keeps J0 w3 w4 ∧
     Calls Try.prog 31 #[l0.v] w4 fun e3 w5 => ∃ i3 : Int, e3 = (.returned (.int .i64 i3)) ∧
      Same [k0, k1] w4 w5 ∧
      Keeps J0 w4 w5 ∧
      R (.int .i64 i3) w5
theorem timers_order_wp (a_ : Int) (a_1 : Int) (a_2 : Int) (b : Int) (b1 : Int) (b2 : Int) (R : Value → World → Prop) (w : World) (h : timers_order_vc a_ a_1 a_2 b b1 b2 R w) : Calls Try.prog 24 #[.agg #[.int .i64 a_, .int .i64 a_1, .int .i64 a_2], .agg #[.int .i64 b, .int .i64 b1, .int .i64 b2]] w fun e w' => ∃ v, e = .returned v ∧ R v w' :=
  fn_by (an := .s .o (.s .o .o)) (args := [.agg (ofL [.int .i64 a_, .int .i64 a_1, .int .i64 a_2]), .agg (ofL [.int .i64 b, .int .i64 b1, .int .i64 b2])]) Try.checked.mixed (by kernel_rfl) (by kernel_rfl) h
def slices_Insert_api_Timer_vc (s : Sl) (i : Int) (v1 : Sl) (R : Value → World → Prop) (w : World) : Prop :=
  ∃ k0 : Nat, (i = (k0 : Int) ∧
   k0 ≤ s.n ∧
   s.n ≤ s.c) ∧
  (((v1.n : Int) == 0) = true → R s.v w) ∧
  (((v1.n : Int) == 0) = false → ((i == (s.n : Int)) = true → ∃ l0 : Sl, ∃ w0 : World, ((Builtin.append_ #[22, 22] 22 #[s.v, v1.v]).run Try.prog w) = (.ok l0.v w0) ∧
   R l0.v w0) ∧
  ((i == (s.n : Int)) = false → ((decide ((IntKind.wrap .i64 ((s.n : Int) + (v1.n : Int))) > (s.c : Int))) = true → ∃ k1 : Nat, (i = (k1 : Int) ∧
    k1 ≤ s.c) ∧
   ∃ l1 : Sl, ∃ w1 : World, ((Builtin.append_ #[22, 3] 22 #[(s.cut 0 k1 s.c 3).v, .int .i64 (IntKind.wrap .i64 ((IntKind.wrap .i64 ((s.n : Int) + (v1.n : Int))) - i))]).run Try.prog w) = (.ok l1.v w1) ∧
   ∃ k2 : Nat, (i = (k2 : Int) ∧
    k2 ≤ l1.n ∧
    l1.n ≤ l1.c) ∧
   ∃ i0 : Int, ∃ w2 : World, ((Builtin.copy_ #[22, 22] 3 #[(l1.cut k2 l1.n l1.c 3).v, v1.v]).run Try.prog w1) = (.ok (.int .i64 i0) w2) ∧
   ∃ k3 : Nat, ((IntKind.wrap .i64 (i + (v1.n : Int))) = (k3 : Int) ∧
    k3 ≤ l1.n ∧
    l1.n ≤ l1.c) ∧
   ∃ k4 : Nat, (i = (k4 : Int) ∧
    k4 ≤ s.n ∧
    s.n ≤ s.c) ∧
   ∀ w3 : World, Only [] w2 w3 → ∃ i1 : Int, ∃ w4 : World, ((Builtin.copy_ #[22, 22] 3 #[(l1.cut k3 l1.n l1.c 3).v, (s.cut k4 s.n s.c 3).v]).run Try.prog w3) = (.ok (.int .i64 i1) w4) ∧
   R l1.v w4) ∧
  ((decide ((IntKind.wrap .i64 ((s.n : Int) + (v1.n : Int))) > (s.c : Int))) = false → ∃ k5 : Nat, ((IntKind.wrap .i64 ((s.n : Int) + (v1.n : Int))) = (k5 : Int) ∧
   k5 ≤ s.c) ∧
  ∃ k6 : Nat, ((IntKind.wrap .i64 (i + (v1.n : Int))) = (k6 : Int) ∧
   k6 ≤ ((s.cut 0 k5 s.c 3).n) ∧
   ((s.cut 0 k5 s.c 3).n) ≤ ((s.cut 0 k5 s.c 3).c)) ∧
  ∃ b0 : Bool, ∃ w5 : World, ((extV 33 #[v1.v, ((s.cut 0 k5 s.c 3).cut k6 ((s.cut 0 k5 s.c 3).n) ((s.cut 0 k5 s.c 3).c) 3).v]).run Try.prog w) = (.ok (.bool b0) w5) ∧
  ((!b0) = true → ∃ k7 : Nat, ((IntKind.wrap .i64 (i + (v1.n : Int))) = (k7 : Int) ∧
    k7 ≤ ((s.cut 0 k5 s.c 3).n) ∧
    ((s.cut 0 k5 s.c 3).n) ≤ ((s.cut 0 k5 s.c 3).c)) ∧
   ∃ k8 : Nat, (i = (k8 : Int) ∧
    k8 ≤ ((s.cut 0 k5 s.c 3).n) ∧
    ((s.cut 0 k5 s.c 3).n) ≤ ((s.cut 0 k5 s.c 3).c)) ∧
   ∀ w6 : World, Only [] w5 w6 → ∃ i2 : Int, ∃ w7 : World, ((Builtin.copy_ #[22, 22] 3 #[((s.cut 0 k5 s.c 3).cut k7 ((s.cut 0 k5 s.c 3).n) ((s.cut 0 k5 s.c 3).c) 3).v, ((s.cut 0 k5 s.c 3).cut k8 ((s.cut 0 k5 s.c 3).n) ((s.cut 0 k5 s.c 3).c) 3).v]).run Try.prog w6) = (.ok (.int .i64 i2) w7) ∧
   ∃ k9 : Nat, (i = (k9 : Int) ∧
    k9 ≤ ((s.cut 0 k5 s.c 3).n) ∧
    ((s.cut 0 k5 s.c 3).n) ≤ ((s.cut 0 k5 s.c 3).c)) ∧
   ∃ i3 : Int, ∃ w8 : World, ((Builtin.copy_ #[22, 22] 3 #[((s.cut 0 k5 s.c 3).cut k9 ((s.cut 0 k5 s.c 3).n) ((s.cut 0 k5 s.c 3).c) 3).v, v1.v]).run Try.prog w7) = (.ok (.int .i64 i3) w8) ∧
   R ((s.cut 0 k5 s.c 3).v) w8) ∧
  ((!b0) = false → ∃ k10 : Nat, ((s.n : Int) = (k10 : Int) ∧
   k10 ≤ ((s.cut 0 k5 s.c 3).n) ∧
   ((s.cut 0 k5 s.c 3).n) ≤ ((s.cut 0 k5 s.c 3).c)) ∧
  ∃ i4 : Int, ∃ w9 : World, ((Builtin.copy_ #[22, 22] 3 #[((s.cut 0 k5 s.c 3).cut k10 ((s.cut 0 k5 s.c 3).n) ((s.cut 0 k5 s.c 3).c) 3).v, v1.v]).run Try.prog w5) = (.ok (.int .i64 i4) w9) ∧
  ∃ k11 : Nat, (i = (k11 : Int) ∧
   k11 ≤ ((s.cut 0 k5 s.c 3).n) ∧
   ((s.cut 0 k5 s.c 3).n) ≤ ((s.cut 0 k5 s.c 3).c)) ∧
  Calls Try.prog 34 #[((s.cut 0 k5 s.c 3).cut k11 ((s.cut 0 k5 s.c 3).n) ((s.cut 0 k5 s.c 3).c) 3).v, .int .i64 (v1.n : Int)] w9 fun e0 w10 => e0 = (.returned (.tuple #[])) ∧
   R ((s.cut 0 k5 s.c 3).v) w10))))
theorem slices_Insert_api_Timer_wp (s : Sl) (i : Int) (v1 : Sl) (R : Value → World → Prop) (w : World) (h : slices_Insert_api_Timer_vc s i v1 R w) : Calls Try.prog 25 #[s.v, .int .i64 i, v1.v] w fun e w' => ∃ v, e = .returned v ∧ R v w' :=
  fn_by (an := .s .o (.s .o (.s .o (.s (.s .o (.s (.s .o .o) .o)) (.s .o (.s (.s .o (.s (.s .o .o) .o)) (.s (.s .o (.s (.s .o (.s .o (.s .o (.s .o .o)))) .o)) (.s .o (.s (.s .o (.s (.s .o (.s .o (.s .o .o))) .o)) (.s .o (.s .o (.s .o .o)))))))))))) (args := [.sl s, .int .i64 i, .sl v1]) Try.checked.mixed (by kernel_rfl) (by kernel_rfl) h
def timers_Drop_1_vc (t : Int) (t1 : Int) (t2 : Int) (ccap0 : Addr) (R : Value → World → Prop) (w : World) : Prop :=
  ∀ k0 : Nat, ∀ w0 : World, w.heap.size ≤ k0 → k0 < w0.heap.size → Only [] w w0 → ∃ l0 : Sl, Cells w0 ccap0 [l0.v] ∧
  Calls Try.prog 27 #[l0.v, .int .i64 t1] w0 fun e0 w1 => ∃ b0 : Bool, e0 = (.returned (.bool b0)) ∧
   Same [k0] w0 w1 ∧
   R (.bool b0) w1
theorem timers_Drop_1_wp (t : Int) (t1 : Int) (t2 : Int) (ccap0 : Addr) (R : Value → World → Prop) (w : World) (h : timers_Drop_1_vc t t1 t2 ccap0 R w) : Calls Try.prog 26 #[.agg #[.int .i64 t, .int .i64 t1, .int .i64 t2], .pointer (some ccap0)] w fun e w' => ∃ v, e = .returned v ∧ R v w' :=
  fn_by (an := .s .o (.s .o .o)) (args := [.agg (ofL [.int .i64 t, .int .i64 t1, .int .i64 t2]), .ad ccap0]) Try.checked.mixed (by kernel_rfl) (by kernel_rfl) h
def slices_Contains_int_vc (s : Sl) (v1 : Int) (R : Value → World → Prop) (w : World) : Prop :=
  Calls Try.prog 35 #[s.v, .int .i64 v1] w fun e0 w0 => ∃ i0 : Int, e0 = (.returned (.int .i64 i0)) ∧
   R (.bool (decide (i0 ≥ 0))) w0
theorem slices_Contains_int_wp (s : Sl) (v1 : Int) (R : Value → World → Prop) (w : World) (h : slices_Contains_int_vc s v1 R w) : Calls Try.prog 27 #[s.v, .int .i64 v1] w fun e w' => ∃ v, e = .returned v ∧ R v w' :=
  fn_by (an := .s .o (.s .o .o)) (args := [.sl s, .int .i64 v1]) Try.checked.mixed (by kernel_rfl) (by kernel_rfl) h
def pavaneref14_put_vc (l : Sl) (t : Int) (t1 : Int) (t2 : Int) (R : Value → World → Prop) (w : World) : Prop :=
  ∀ k0 : Nat, ∀ w0 : World, w.heap.size ≤ k0 → k0 < w0.heap.size → Only [] w w0 → ∃ J0 : Nat → Sl → Bool → Int → World → Prop, ∃ k1 : Nat, J0 k1 Sl.nil false 0 w0 ∧
  ∀ k2 : Nat, ∀ l0 : Sl, ∀ b0 : Bool, ∀ i0 : Int, ∀ w1 : World, J0 k2 l0 b0 i0 w1 → ((decide (i0 < (l.n : Int))) = true → ∃ J1 : Sl → Bool → World → Prop, (∀ l1 : Sl, ∀ b1 : Bool, ∀ w2 : World, J1 l1 b1 w2 → ∃ k3 : Nat, k3 < k2 ∧
    J0 k3 l1 b1 (IntKind.wrap .i64 (i0 + 1)) w2) ∧
   ∃ p0 : Addr, SlAt l i0 3 p0 ∧
   ∃ i1 : Int, Cells w1 (p0.add 1) [.int .i64 i1] ∧
   ∃ p1 : Addr, ((i1 == t1) = true → SlAt l i0 3 p1) ∧
   ∃ i2 : Int, ((i1 == t1) = true → Cells w1 (p1.add 2) [.int .i64 i2]) ∧
   (((i1 == t1) && (i2 == t2)) = true → ∀ w3 : World, Only [] w1 w3 → J1 l0 b0 w3) ∧
   (((i1 == t1) && (i2 == t2)) = false → ∀ w4 : World, Only [] w1 w4 → ∃ J2 : Sl → Bool → World → Prop, (∀ l2 : Sl, ∀ b2 : Bool, ∀ w5 : World, J2 l2 b2 w5 → ∃ p2 : Addr, SlAt l i0 3 p2 ∧
    ∃ i3 : Int, ∃ i4 : Int, ∃ i5 : Int, Cells w5 p2 [.int .i64 i3, .int .i64 i4, .int .i64 i5] ∧
    ∃ l3 : Sl, ∃ w6 : World, ((Instr.buildSlice 22 1 #[.mk 0 (.agg #[.int .i64 i3, .int .i64 i4, .int .i64 i5])]).run Try.prog w5) = (.ok l3.v w6) ∧
    Same [k0] w5 w6 ∧
    ∃ l4 : Sl, ∃ w7 : World, ((Builtin.append_ #[22, 22] 22 #[l2.v, l3.v]).run Try.prog w6) = (.ok l4.v w7) ∧
    Same [k0] w6 w7 ∧
    J1 l4 b2 w7) ∧
   ∃ J3 : Bool → World → Prop, (∀ b3 : Bool, ∀ w8 : World, J3 b3 w8 → (b3 = true → ∃ l5 : Sl, ∃ w9 : World, ((Instr.buildSlice 22 1 #[.mk 0 (.agg #[.int .i64 t, .int .i64 t1, .int .i64 t2])]).run Try.prog w8) = (.ok l5.v w9) ∧
     Same [k0] w8 w9 ∧
     ∃ l6 : Sl, ∃ w10 : World, ((Builtin.append_ #[22, 22] 22 #[l0.v, l5.v]).run Try.prog w9) = (.ok l6.v w10) ∧
     Same [k0] w9 w10 ∧
     J2 l6 true w10) ∧
    (b3 = false → J2 l0 b0 w8)) ∧
   ((!b0) = true → ∃ p3 : Addr, SlAt l i0 3 p3 ∧
    ∀ w11 : World, Only [] w4 w11 → ∃ i6 : Int, ∃ i7 : Int, ∃ i8 : Int, Cells w11 p3 [.int .i64 i6, .int .i64 i7, .int .i64 i8] ∧
    Calls Try.prog 29 #[.agg #[.int .i64 t, .int .i64 t1, .int .i64 t2], .agg #[.int .i64 i6, .int .i64 i7, .int .i64 i8]] w11 fun e0 w12 => ∃ b4 : Bool, e0 = (.returned (.bool b4)) ∧
     Same [k0] w11 w12 ∧
     J3 b4 w12) ∧
   ((!b0) = false → ∀ w13 : World, Only [] w4 w13 → J3 false w13))) ∧
  ((decide (i0 < (l.n : Int))) = false → ∃ J4 : Sl → World → Prop, (∀ l7 : Sl, ∀ w14 : World, J4 l7 w14 → R l7.v w14) ∧
  ((!b0) = true → ∃ l8 : Sl, ∃ w15 : World, ((Instr.buildSlice 22 1 #[.mk 0 (.agg #[.int .i64 t, .int .i64 t1, .int .i64 t2])]).run Try.prog w1) = (.ok l8.v w15) ∧
   Same [k0] w1 w15 ∧
   ∃ l9 : Sl, ∃ w16 : World, ((Builtin.append_ #[22, 22] 22 #[l0.v, l8.v]).run Try.prog w15) = (.ok l9.v w16) ∧
   Same [k0] w15 w16 ∧
   J4 l9 w16) ∧
  ((!b0) = false → J4 l0 w1))
theorem pavaneref14_put_wp (l : Sl) (t : Int) (t1 : Int) (t2 : Int) (R : Value → World → Prop) (w : World) (h : pavaneref14_put_vc l t t1 t2 R w) : Calls Try.prog 28 #[l.v, .agg #[.int .i64 t, .int .i64 t1, .int .i64 t2]] w fun e w' => ∃ v, e = .returned v ∧ R v w' :=
  fn_by (an := .s .o (.s .o (.s .o (.s (.s .o (.j [0, 3] [.s 5 .sl, .s 6 .bool, .s 7 (.int .i64)] (.s (.s .o (.s .o .o)) (.j [0, 3, 7] [.s 5 .sl, .s 6 .bool] (.s (.s .o (.s .o .o)) (.j [0, 3, 7] [.s 5 .sl, .s 6 .bool] (.s (.j [0, 3, 5, 6, 7] [.s 41 .bool] .o .o) (.s (.s .o .o) .o)) .o)) .o)) .o)) (.j [3] [.s 5 .sl] (.s .o (.s .o .o)) (.s .o .o)))))) (args := [.sl l, .agg (ofL [.int .i64 t, .int .i64 t1, .int .i64 t2])]) Try.checked.mixed (by kernel_rfl) (by kernel_rfl) h
def pavaneref14_before_vc (a_ : Int) (a_1 : Int) (a_2 : Int) (b : Int) (b1 : Int) (b2 : Int) (R : Value → World → Prop) (w : World) : Prop :=
  ((a_ != b) = true → ∀ k0 : Nat, ∀ k1 : Nat, ∀ w0 : World, w.heap.size ≤ k0 → k0 < w0.heap.size → w.heap.size ≤ k1 → k1 < w0.heap.size → Only [] w w0 → R (.bool (decide (a_ < b))) w0) ∧
  ((a_ != b) = false → ((a_1 != b1) = true → ∀ k2 : Nat, ∀ k3 : Nat, ∀ w1 : World, w.heap.size ≤ k2 → k2 < w1.heap.size → w.heap.size ≤ k3 → k3 < w1.heap.size → Only [] w w1 → R (.bool (decide (a_1 < b1))) w1) ∧
  ((a_1 != b1) = false → ∀ k4 : Nat, ∀ k5 : Nat, ∀ w2 : World, w.heap.size ≤ k4 → k4 < w2.heap.size → w.heap.size ≤ k5 → k5 < w2.heap.size → Only [] w w2 → R (.bool (decide (a_2 < b2))) w2))
theorem pavaneref14_before_wp (a_ : Int) (a_1 : Int) (a_2 : Int) (b : Int) (b1 : Int) (b2 : Int) (R : Value → World → Prop) (w : World) (h : pavaneref14_before_vc a_ a_1 a_2 b b1 b2 R w) : Calls Try.prog 29 #[.agg #[.int .i64 a_, .int .i64 a_1, .int .i64 a_2], .agg #[.int .i64 b, .int .i64 b1, .int .i64 b2]] w fun e w' => ∃ v, e = .returned v ∧ R v w' :=
  fn_by (an := .s .o (.s (.s .o (.s (.s .o .o) .o)) (.s (.s .o (.s (.s .o .o) .o)) (.s .o .o)))) (args := [.agg (ofL [.int .i64 a_, .int .i64 a_1, .int .i64 a_2]), .agg (ofL [.int .i64 b, .int .i64 b1, .int .i64 b2])]) Try.checked.mixed (by kernel_rfl) (by kernel_rfl) h
def slices_IndexFunc_api_Timer_vc (s : Sl) (f : OV) (R : Value → World → Prop) (w : World) : Prop :=
  ∃ J0 : Nat → Int → World → Prop, ∃ k0 : Nat, J0 k0 0 w ∧
  ∀ k1 : Nat, ∀ i0 : Int, ∀ w0 : World, J0 k1 i0 w0 → ((decide (i0 < (s.n : Int))) = true → ∃ p0 : Addr, SlAt s i0 3 p0 ∧
   ∃ i1 : Int, ∃ i2 : Int, ∃ i3 : Int, Cells w0 p0 [.int .i64 i1, .int .i64 i2, .int .i64 i3] ∧
   ∃ k2 : Nat, ∃ z0 : List Value, f.v = (.func (.func k2) #[] z0.toArray) ∧
   (∀ x0 : Array Value, ∀ w1 : World, ((callFunc k2 x0).run Try.prog w1) = (.ok (.enter k2 x0) w1)) ∧
   Calls Try.prog k2 (((.agg #[.int .i64 i1, .int .i64 i2, .int .i64 i3]) :: z0).toArray) w0 fun e0 w2 => ∃ b0 : Bool, e0 = (.returned (.bool b0)) ∧
    (b0 = true → R (.int .i64 i0) w2) ∧
    (b0 = false → ∃ k3 : Nat, k3 < k1 ∧
    J0 k3 (IntKind.wrap .i64 (i0 + 1)) w2)) ∧
  ((decide (i0 < (s.n : Int))) = false → R (.int .i64 (-1)) w0)
theorem slices_IndexFunc_api_Timer_wp (s : Sl) (f : OV) (R : Value → World → Prop) (w : World) (h : slices_IndexFunc_api_Timer_vc s f R w) : Calls Try.prog 30 #[s.v, f.v] w fun e w' => ∃ v, e = .returned v ∧ R v w' :=
  fn_by (an := .s .o (.s (.s .o (.j [0, 1, 7] [.s 8 (.int .i64)] (.s .o (.s (.s .o .o) (.s (.s .o (.s .o (.s (.s .o .o) .o))) .o))) .o)) (.s .o .o))) (args := [.sl s, .raw f]) Try.checked.mixed (by kernel_rfl) (by kernel_rfl) h
def cmp_Or_int_vc (vals : Sl) (R : Value → World → Prop) (w : World) : Prop :=
  ∃ J0 : Nat → Int → World → Prop, ∃ k0 : Nat, J0 k0 0 w ∧
  ∀ k1 : Nat, ∀ i0 : Int, ∀ w0 : World, J0 k1 i0 w0 → ((decide (i0 < (vals.n : Int))) = true → ∃ p0 : Addr, SlAt vals i0 1 p0 ∧
   ∃ i1 : Int, Cells w0 p0 [.int .i64 i1] ∧
   ((i1 != 0) = true → R (.int .i64 i1) w0) ∧
   ((i1 != 0) = false → ∃ k2 : Nat, k2 < k1 ∧
   J0 k2 (IntKind.wrap .i64 (i0 + 1)) w0)) ∧
  ((decide (i0 < (vals.n : Int))) = false → R (.int .i64 0) w0)
theorem cmp_Or_int_wp (vals : Sl) (R : Value → World → Prop) (w : World) (h : cmp_Or_int_vc vals R w) : Calls Try.prog 31 #[vals.v] w fun e w' => ∃ v, e = .returned v ∧ R v w' :=
  fn_by (an := .s .o (.s .o (.s (.s .o (.j [3, 6, 7] [.s 8 (.int .i64)] (.s .o (.s (.s .o .o) (.s (.s .o (.s .o (.s (.s .o .o) .o))) .o))) .o)) (.s .o .o)))) (args := [.sl vals]) Try.checked.mixed (by kernel_rfl) (by kernel_rfl) h
def cmp_Compare_int_vc (x : Int) (y : Int) (R : Value → World → Prop) (w : World) : Prop :=
  Calls Try.prog 36 #[.int .i64 x] w fun e0 w0 => ∃ b0 : Bool, e0 = (.returned (.bool b0)) ∧
   Calls Try.prog 36 #[.int .i64 y] w0 fun e1 w1 => ∃ b1 : Bool, e1 = (.returned (.bool b1)) ∧
    (b0 = true → (b1 = true → R (.int .i64 0) w1) ∧
     (b1 = false → R (.int .i64 (-1)) w1)) ∧
    (b0 = false → (b1 = true → R (.int .i64 1) w1) ∧
    (b1 = false → ((decide (x < y)) = true → R (.int .i64 (-1)) w1) ∧
    ((decide (x < y)) = false → ((decide (x > y)) = true → R (.int .i64 1) w1) ∧
    ((decide (x > y)) = false → R (.int .i64 0) w1))))
theorem cmp_Compare_int_wp (x : Int) (y : Int) (R : Value → World → Prop) (w : World) (h : cmp_Compare_int_vc x y R w) : Calls Try.prog 32 #[.int .i64 x, .int .i64 y] w fun e w' => ∃ v, e = .returned v ∧ R v w' :=
  fn_by (an := .s .o (.s .o (.s .o (.s (.s .o (.s (.s (.s .o (.s (.s .o .o) .o)) (.s .o .o)) .o)) (.s (.s .o (.s (.s .o .o) .o)) (.s (.s .o (.s (.s .o .o) .o)) (.s (.s .o (.s (.s .o .o) .o)) (.s .o .o)))))))) (args := [.int .i64 x, .int .i64 y]) Try.checked.mixed (by kernel_rfl) (by kernel_rfl) h
def slices_rotateRight_api_Timer_vc (s : Sl) (r : Int) (R : Value → World → Prop) (w : World) : Prop :=
  Calls Try.prog 37 #[s.v, .int .i64 (IntKind.wrap .i64 ((s.n : Int) - r))] w fun e0 w0 => e0 = (.returned (.tuple #[])) ∧
   R (.tuple #[]) w0
theorem slices_rotateRight_api_Timer_wp (s : Sl) (r : Int) (R : Value → World → Prop) (w : World) (h : slices_rotateRight_api_Timer_vc s r R w) : Calls Try.prog 34 #[s.v, .int .i64 r] w fun e w' => ∃ v, e = .returned v ∧ R v w' :=
  fn_by (an := .o) (args := [.sl s, .int .i64 r]) Try.checked.mixed (by kernel_rfl) (by kernel_rfl) h
def slices_Index_int_vc (s : Sl) (v1 : Int) (R : Value → World → Prop) (w : World) : Prop :=
  ∃ J0 : Nat → Int → World → Prop, ∃ k0 : Nat, J0 k0 0 w ∧
  ∀ k1 : Nat, ∀ i0 : Int, ∀ w0 : World, J0 k1 i0 w0 → ((decide (i0 < (s.n : Int))) = true → ∃ p0 : Addr, SlAt s i0 1 p0 ∧
   ∃ i1 : Int, Cells w0 p0 [.int .i64 i1] ∧
   ((v1 == i1) = true → R (.int .i64 i0) w0) ∧
   ((v1 == i1) = false → ∃ k2 : Nat, k2 < k1 ∧
   J0 k2 (IntKind.wrap .i64 (i0 + 1)) w0)) ∧
  ((decide (i0 < (s.n : Int))) = false → R (.int .i64 (-1)) w0)
theorem slices_Index_int_wp (s : Sl) (v1 : Int) (R : Value → World → Prop) (w : World) (h : slices_Index_int_vc s v1 R w) : Calls Try.prog 35 #[s.v, .int .i64 v1] w fun e w' => ∃ v, e = .returned v ∧ R v w' :=
  fn_by (an := .s .o (.s (.s .o (.j [0, 1, 7] [.s 8 (.int .i64)] (.s .o (.s (.s .o .o) (.s (.s .o (.s .o (.s (.s .o .o) .o))) .o))) .o)) (.s .o .o))) (args := [.sl s, .int .i64 v1]) Try.checked.mixed (by kernel_rfl) (by kernel_rfl) h
def cmp_isNaN_int_vc (x : Int) (R : Value → World → Prop) (w : World) : Prop :=
  R (.bool (x != x)) w
theorem cmp_isNaN_int_wp (x : Int) (R : Value → World → Prop) (w : World) (h : cmp_isNaN_int_vc x R w) : Calls Try.prog 36 #[.int .i64 x] w fun e w' => ∃ v, e = .returned v ∧ R v w' :=
  fn_by (an := .s .o (.s .o .o)) (args := [.int .i64 x]) Try.checked.mixed (by kernel_rfl) (by kernel_rfl) h
def slices_rotateLeft_api_Timer_vc (s : Sl) (r : Int) (R : Value → World → Prop) (w : World) : Prop :=
  ∃ k0 : Nat, (r = (k0 : Int) ∧
   k0 ≤ s.c) ∧
  Calls Try.prog 38 #[(s.cut 0 k0 s.c 3).v] w fun e0 w0 => e0 = (.returned (.tuple #[])) ∧
   ∃ k1 : Nat, (r = (k1 : Int) ∧
    k1 ≤ s.n ∧
    s.n ≤ s.c) ∧
   Calls Try.prog 38 #[(s.cut k1 s.n s.c 3).v] w0 fun e1 w1 => e1 = (.returned (.tuple #[])) ∧
    Calls Try.prog 38 #[s.v] w1 fun e2 w2 => e2 = (.returned (.tuple #[])) ∧
     R (.tuple #[]) w2
theorem slices_rotateLeft_api_Timer_wp (s : Sl) (r : Int) (R : Value → World → Prop) (w : World) (h : slices_rotateLeft_api_Timer_vc s r R w) : Calls Try.prog 37 #[s.v, .int .i64 r] w fun e w' => ∃ v, e = .returned v ∧ R v w' :=
  fn_by (an := .s .o (.s .o .o)) (args := [.sl s, .int .i64 r]) Try.checked.mixed (by kernel_rfl) (by kernel_rfl) h
def slices_Reverse_api_Timer_vc (s : Sl) (R : Value → World → Prop) (w : World) : Prop :=
  ∃ J0 : Nat → Int → Int → World → Prop, ∃ k0 : Nat, J0 k0 0 (IntKind.wrap .i64 ((s.n : Int) - 1)) w ∧
  ∀ k1 : Nat, ∀ i0 : Int, ∀ i1 : Int, ∀ w0 : World, J0 k1 i0 i1 w0 → ((decide (i0 < i1)) = true → ∃ p0 : Addr, SlAt s i1 3 p0 ∧
   ∀ w1 : World, Only [] w0 w1 → ∃ i2 : Int, ∃ i3 : Int, ∃ i4 : Int, Cells w1 p0 [.int .i64 i2, .int .i64 i3, .int .i64 i4] ∧
   ∃ p1 : Addr, SlAt s i0 3 p1 ∧
   ∃ i5 : Int, ∃ i6 : Int, ∃ i7 : Int, Cells w1 p1 [.int .i64 i5, .int .i64 i6, .int .i64 i7] ∧
   ∃ p2 : Addr, SlAt s i0 3 p2 ∧
   ∃ k2 : Nat, ∃ k3 : Nat, ∃ z0 : List Value, ∃ k4 : Nat, p2 = ⟨k2, k3, none⟩ ∧
   Blk w1 k2 k4 z0 ∧
   (k3 + 3) ≤ z0.length ∧
   ∀ w2 : World, Only [k2] w1 w2 → Blk w2 k2 k4 (splice z0 k3 [.int .i64 i2, .int .i64 i3, .int .i64 i4]) → ∃ p3 : Addr, SlAt s i1 3 p3 ∧
   ∃ k5 : Nat, ∃ k6 : Nat, ∃ z1 : List Value, ∃ k7 : Nat, p3 = ⟨k5, k6, none⟩ ∧
   Blk w2 k5 k7 z1 ∧
   (k6 + 3) ≤ z1.length ∧
   ∀ w3 : World, Only [k5] w2 w3 → Blk w3 k5 k7 (splice z1 k6 [.int .i64 i5, .int .i64 i6, .int .i64 i7]) → ∃ k8 : Nat, k8 < k1 ∧
   J0 k8 (IntKind.wrap .i64 (i0 + 1)) (IntKind.wrap .i64 (i1 - 1)) w3) ∧
  ((decide (i0 < i1)) = false → R (.tuple #[]) w0)
theorem slices_Reverse_api_Timer_wp (s : Sl) (R : Value → World → Prop) (w : World) (h : slices_Reverse_api_Timer_vc s R w) : Calls Try.prog 38 #[s.v] w fun e w' => ∃ v, e = .returned v ∧ R v w' :=
  fn_by (an := .s .o (.j [0] [.s 2 (.int .i64), .s 3 (.int .i64)] (.s (.s .o (.s .o .o)) (.s .o .o)) .o)) (args := [.sl s]) Try.checked.mixed (by kernel_rfl) (by kernel_rfl) h
end Go.Proofs.Ytbklgfggodgddaa.Vc
