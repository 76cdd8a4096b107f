import Derived.Test.YtfknfhajdiccgaaGreatDoorQa2
set_option linter.unusedSectionVars false
namespace Go.Proofs.YtfknfhajdiccgaaGreatDoor.Vc
open Go Go.RowKit Go.Kt Go.Kt.V
set_option linter.unusedVariables false
set_option maxRecDepth 100000
set_option maxHeartbeats 40000000
def v34v (R : Value -> World -> Prop) (w : World) : Prop :=
  Calls Tryz.prog 10 #[.string (ByteArray.mk #[121, 32, 38, 38, 32, 120, 32, 47, 32, 121])] w fun e0 w0 => ∃ i0 i1 : Int, ∃ s0 : ByteArray, ∃ i2 : Int, ∃ l0 : Sl, ∃ i3 i4 i5 : Int, e0 = (.returned (.tuple #[.agg #[.int .i64 i0, .int .i64 i1, .string s0, .int .i64 i2, l0.v, .int .i64 i3], .agg #[.int .i64 i4, .int .i64 i5]])) /\
   ∀ k0 k1 : Nat, ∀ w1 : World, w0.heap.size <= k0 -> k0 < w1.heap.size -> w0.heap.size <= k1 -> k1 < w1.heap.size -> Only [] w0 w1 -> ∃ l1 : Sl, ∃ w2 : World, ((Instr.buildSlice 26 2 #[.mk 0 (.string (ByteArray.mk #[120])), .mk 1 (.string (ByteArray.mk #[121]))]).run Tryz.prog w1) = (.ok l1.v w2) /\
   Same [k0, k1] w1 w2 /\
   ∃ l2 : Sl, ∃ w3 : World, ((Instr.buildSlice 31 2 #[.mk 0 (.int .i64 7), .mk 1 (.int .i64 0)]).run Tryz.prog w2) = (.ok l2.v w3) /\
   Same [k0, k1] w2 w3 /\
   Calls Tryz.prog 9 #[.agg #[.int .i64 i0, .int .i64 i1, .string s0, .int .i64 i2, l0.v, .int .i64 i3], .agg #[l1.v, l2.v, Sl.nil.v]] w3 fun e1 w4 => ∃ i6 i7 : Int, e1 = (.returned (.tuple #[.int .i64 i6, .int .i64 i7])) /\
    Same [k0, k1] w3 w4 /\
    Calls Tryz.prog 10 #[.string (ByteArray.mk #[120, 32, 47, 32, 121, 32, 43, 32, 105, 110, 40, 115, 49, 41])] w4 fun e2 w5 => ∃ i8 i9 : Int, ∃ s1 : ByteArray, ∃ i10 : Int, ∃ l3 : Sl, ∃ i11 i12 i13 : Int, e2 = (.returned (.tuple #[.agg #[.int .i64 i8, .int .i64 i9, .string s1, .int .i64 i10, l3.v, .int .i64 i11], .agg #[.int .i64 i12, .int .i64 i13]])) /\
     Same [k0, k1] w4 w5 /\
     ∀ k2 k3 : Nat, ∀ w6 : World, w5.heap.size <= k2 -> k2 < w6.heap.size -> w5.heap.size <= k3 -> k3 < w6.heap.size -> Only [] w5 w6 -> ∃ l4 : Sl, ∃ w7 : World, ((Instr.buildSlice 26 2 #[.mk 0 (.string (ByteArray.mk #[120])), .mk 1 (.string (ByteArray.mk #[121]))]).run Tryz.prog w6) = (.ok l4.v w7) /\
     Same [k0, k1, k2, k3] w6 w7 /\
     ∃ l5 : Sl, ∃ w8 : World, ((Instr.buildSlice 31 2 #[.mk 0 (.int .i64 7), .mk 1 (.int .i64 0)]).run Tryz.prog w7) = (.ok l5.v w8) /\
     Same [k0, k1, k2, k3] w7 w8 /\
     Calls Tryz.prog 9 #[.agg #[.int .i64 i8, .int .i64 i9, .string s1, .int .i64 i10, l3.v, .int .i64 i11], .agg #[l4.v, l5.v, Sl.nil.v]] w8 fun e3 w9 => ∃ i14 i15 : Int, e3 = (.returned (.tuple #[.int .i64 i14, .int .i64 i15])) /\
      Same [k0, k1, k2, k3] w8 w9 /\
      ∃ l6 : Sl, ∃ w10 : World, ((Instr.buildSlice 26 2 #[.mk 0 (.string (ByteArray.mk #[120])), .mk 1 (.string (ByteArray.mk #[121]))]).run Tryz.prog w9) = (.ok l6.v w10) /\
      Same [k0, k1, k2, k3] w9 w10 /\
      ∃ l7 : Sl, ∃ w11 : World, ((Instr.buildSlice 31 2 #[.mk 0 (.int .i64 7), .mk 1 (.int .i64 2)]).run Tryz.prog w10) = (.ok l7.v w11) /\
      Same [k0, k1, k2, k3] w10 w11 /\
      ∃ l8 : Sl, ∃ w12 : World, ((Instr.buildSlice 26 1 #[.mk 0 (.string (ByteArray.mk #[115, 49]))]).run Tryz.prog w11) = (.ok l8.v w12) /\
      Same [k0, k1, k2, k3] w11 w12 /\
      Calls Tryz.prog 9 #[.agg #[.int .i64 i8, .int .i64 i9, .string s1, .int .i64 i10, l3.v, .int .i64 i11], .agg #[l6.v, l7.v, l8.v]] w12 fun e4 w13 => ∃ i16 i17 : Int, e4 = (.returned (.tuple #[.int .i64 i16, .int .i64 i17])) /\
       Same [k0, k1, k2, k3] w12 w13 /\
       R (.bool (((((((i4 == 0) && (i12 == 0)) && (i7 == 0)) && (i6 == 0)) && (i15 == 10)) && (i17 == 0)) && (i16 == 4))) w13
abbrev Cr (f : FuncId) (a : Array Value) (w : World) (R : Value -> World -> Prop) : Prop := Calls Tryz.prog f a w fun e w' => ∃ v, e = .returned v /\ R v w'
theorem fB {f : FuncId} {an : Ann} {args : List SV} {R : Value -> World -> Prop} {w : World} {vs : Array Value} {vc : Prop} (h : vc) (hv : vs = (vals β0 args).toArray := by kernel_rfl) (he : vc = Vfn Tryz.prog f an args R w := by kernel_rfl) : Cr f vs w R := fn_by Tryz.checked.mixed hv he h
theorem v34w (R : Value -> World -> Prop) (w : World) (h : v34v R w) : Cr 5 #[] w R :=
 fB (an := .s .o (.s .o (.s .o (.s .o (.s .o (.s .o (.s .o .o))))))) (args := []) h
def v7v (x x1 : Int) (x2 : ByteArray) (x3 : Int) (x4 : Sl) (x5 : Int) (e_ e_1 e_2 : Sl) (R : Value -> World -> Prop) (w : World) : Prop :=
  ∀ k0 k1 k2 : Nat, ∀ w0 : World, w.heap.size <= k0 -> k0 < w0.heap.size -> w.heap.size <= k1 -> k1 < w0.heap.size -> w.heap.size <= k2 -> k2 < w0.heap.size -> Only [] w w0 -> Blk w0 k2 52 [e_.v, e_1.v, e_2.v, .int .i64 0] -> k0 ≠ k2 -> k1 ≠ k2 -> Calls Tryz.prog 15 #[.pointer (some ⟨k2, 0, none⟩), .agg #[.int .i64 x, .int .i64 x1, .string x2, .int .i64 x3, x4.v, .int .i64 x5]] w0 fun e0 w1 => ∃ i0 : Int, e0 = (.returned (.int .i64 i0)) /\
   Same [k0, k1] w0 w1 /\
   ∃ l0 l1 l2 : Sl, ∃ i1 : Int, Blk w1 k2 52 [l0.v, l1.v, l2.v, .int .i64 i1] /\
   ((i1 != 0) = true -> ∀ w2 : World, Only [] w1 w2 -> Blk w2 k2 52 [l0.v, l1.v, l2.v, .int .i64 i1] -> R (.tuple #[.int .i64 0, .int .i64 i1]) w2) /\
   ((i1 != 0) = false -> R (.tuple #[.int .i64 i0, .int .i64 0]) w1)
theorem v7w (x x1 : Int) (x2 : ByteArray) (x3 : Int) (x4 : Sl) (x5 : Int) (e_ e_1 e_2 : Sl) (R : Value -> World -> Prop) (w : World) (h : v7v x x1 x2 x3 x4 x5 e_ e_1 e_2 R w) : Cr 9 #[.agg #[.int .i64 x, .int .i64 x1, .string x2, .int .i64 x3, x4.v, .int .i64 x5], .agg #[e_.v, e_1.v, e_2.v]] w R :=
 fB (an := .s .o (.s .o (.s .o (.s (.s .o (.s (.s .o .o) .o)) (.s .o .o))))) (args := [.agg (ofL [.int .i64 x, .int .i64 x1, .str x2, .int .i64 x3, .sl x4, .int .i64 x5]), .agg (ofL [.sl e_, .sl e_1, .sl e_2])]) h
def v0v (op a_ bb : Int) (R : Value -> World -> Prop) (w : World) : Prop :=
  ∃ J0 : Int -> World -> Prop, (∀ i0 : Int, ∀ w0 : World, J0 i0 w0 -> R (.tuple #[.int .i64 i0, .int .i64 0]) w0) /\
  ∃ J1 : Int -> Int -> World -> Prop, (∀ i1 i2 : Int, ∀ w1 : World, J1 i1 i2 w1 -> Calls Tryz.prog 42 #[.bool (decide (i1 < i2))] w1 fun e0 w2 => ∃ i3 : Int, e0 = (.returned (.int .i64 i3)) /\
    Calls Tryz.prog 44 #[.int .i64 i3] w2 fun e1 w3 => ∃ i4 : Int, e1 = (.returned (.int .i64 i4)) /\
     J0 i4 w3) /\
  ∃ J2 : Int -> Int -> World -> Prop, (∀ i5 i6 : Int, ∀ w4 : World, J2 i5 i6 w4 -> Calls Tryz.prog 42 #[.bool (decide (i5 < i6))] w4 fun e2 w5 => ∃ i7 : Int, e2 = (.returned (.int .i64 i7)) /\
    J0 i7 w5) /\
  ((op == 1) = true -> J0 (IntKind.wrap .i64 (a_ + bb)) w) /\
  ((op == 1) = false -> ((op == 2) = true -> J0 (IntKind.wrap .i64 (a_ - bb)) w) /\
  ((op == 2) = false -> ((op == 3) = true -> J0 (IntKind.wrap .i64 (a_ * bb)) w) /\
  ((op == 3) = false -> ∃ J3 : Bool -> World -> Prop, (∀ b0 : Bool, ∀ w6 : World, J3 b0 w6 -> (b0 = true -> Calls Tryz.prog 43 #[.int .i64 op, .int .i64 a_, .int .i64 bb] w6 fun e3 w7 => ∃ i8 i9 : Int, e3 = (.returned (.tuple #[.int .i64 i8, .int .i64 i9])) /\
     R (.tuple #[.int .i64 i8, .int .i64 i9]) w7) /\
   (b0 = false -> ((op == 8) = true -> J2 bb a_ w6) /\
   ((op == 8) = false -> ((op == 6) = true -> J2 a_ bb w6) /\
   ((op == 6) = false -> ((op == 7) = true -> J1 bb a_ w6) /\
   ((op == 7) = false -> ((op == 9) = true -> J1 a_ bb w6) /\
   ((op == 9) = false -> ((op == 10) = true -> Calls Tryz.prog 42 #[.bool (a_ == bb)] w6 fun e4 w8 => ∃ i10 : Int, e4 = (.returned (.int .i64 i10)) /\
     J0 i10 w8) /\
   ((op == 10) = false -> ((op == 11) = true -> Calls Tryz.prog 42 #[.bool (a_ == bb)] w6 fun e5 w9 => ∃ i11 : Int, e5 = (.returned (.int .i64 i11)) /\
     Calls Tryz.prog 44 #[.int .i64 i11] w9 fun e6 w10 => ∃ i12 : Int, e6 = (.returned (.int .i64 i12)) /\
      J0 i12 w10) /\
   ((op == 11) = false -> ((op == 12) = true -> Calls Tryz.prog 42 #[.bool (a_ != 0)] w6 fun e7 w11 => ∃ i13 : Int, e7 = (.returned (.int .i64 i13)) /\
     Calls Tryz.prog 42 #[.bool (bb != 0)] w11 fun e8 w12 => ∃ i14 : Int, e8 = (.returned (.int .i64 i14)) /\
      J0 (bits .and .i64 i13 i14) w12) /\
   ((op == 12) = false -> ((op == 13) = true -> Calls Tryz.prog 42 #[.bool ((bits .or .i64 a_ bb) != 0)] w6 fun e9 w13 => ∃ i15 : Int, e9 = (.returned (.int .i64 i15)) /\
     J0 i15 w13) /\
   ((op == 13) = false -> R (.tuple #[.int .i64 0, .int .i64 11]) w6)))))))))) /\
  ((op == 4) = true -> J3 (op == 4) w) /\
  ((op == 4) = false -> J3 (op == 5) w))))
theorem v0w (op a_ bb : Int) (R : Value -> World -> Prop) (w : World) (h : v0v op a_ bb R w) : Cr 27 #[.int .i64 op, .int .i64 a_, .int .i64 bb] w R :=
 fB (an := .s .o (.s .o (.j [] [.s 8 (.int .i64)] (.s .o (.s (.s (.s (.s (.s (.j [] [.s 1 (.int .i64), .s 2 (.int .i64)] (.s (.j [] [.s 1 (.int .i64), .s 2 (.int .i64)] (.s (.s (.s (.s (.s (.s (.s (.s .o (.s .o .o)) (.s (.s .o (.s .o .o)) (.s (.s .o (.s .o .o)) (.s (.j [0, 1, 2, 9] [.s 16 .bool] (.s .o (.s .o .o)) (.s .o .o)) (.s (.s .o (.s .o .o)) (.s (.s .o (.s .o .o)) (.s (.s .o (.s .o .o)) (.s (.s .o (.s .o .o)) (.s (.s .o (.s .o .o)) (.s (.s .o (.s .o .o)) (.s (.s .o (.s .o .o)) (.s .o (.s .o .o))))))))))))) .o) (.s .o .o)) (.s .o .o)) (.s .o .o)) (.s (.s .o .o) .o)) .o) (.s .o .o)) .o) (.s .o .o)) (.s .o .o)) (.s .o .o)) (.s .o .o)) (.s .o .o)) (.s (.s .o .o) .o))) (.s .o .o)))) (args := [.int .i64 op, .int .i64 a_, .int .i64 bb]) h
def v1v (op a_ : Int) (R : Value -> World -> Prop) (w : World) : Prop :=
 ((op == 14) = true -> R (.tuple #[.int .i64 (IntKind.wrap .i64 (0 - a_)), .int .i64 0]) w) /\
 ((op == 14) = false -> ((op == 15) = true -> Calls Tryz.prog 42 #[.bool (a_ == 0)] w fun e0 w0 => ∃ i0 : Int, e0 = (.returned (.int .i64 i0)) /\
  R (.tuple #[.int .i64 i0, .int .i64 0]) w0) /\
 ((op == 15) = false -> R (.tuple #[.int .i64 0, .int .i64 11]) w))
theorem v1w (op a_ : Int) (R : Value -> World -> Prop) (w : World) (h : v1v op a_ R w) : Cr 26 #[.int .i64 op, .int .i64 a_] w R :=
 fB (an := .s .o (.s (.s .o (.s .o (.s (.s .o .o) (.s .o (.s (.s .o .o) .o))))) (.s .o .o))) (args := [.int .i64 op, .int .i64 a_]) h
def v16v (s : ByteArray) (R : Value -> World -> Prop) (w : World) : Prop :=
  ∀ k0 k1 : Nat, ∀ w0 : World, w.heap.size <= k0 -> k0 < w0.heap.size -> w.heap.size <= k1 -> k1 < w0.heap.size -> Only [] w w0 -> Calls Tryz.prog 16 #[.string s] w0 fun e0 w1 => ∃ l0 : Sl, ∃ i0 i1 : Int, e0 = (.returned (.tuple #[l0.v, .agg #[.int .i64 i0, .int .i64 i1]])) /\
   Same [k0, k1] w0 w1 /\
   ((i0 != 0) = true -> ∀ k2 : Nat, ∀ w2 : World, w1.heap.size <= k2 -> k2 < w2.heap.size -> Only [] w1 w2 -> k0 ≠ k1 -> k0 ≠ k2 -> k1 ≠ k2 -> ∃ J0 : Nat -> Prop, J0 k2 /\
    Out J0 k0 /\
    Out J0 k1 /\
    ∀ w3 : World, Only [k1, k0] w2 w3 -> R (.tuple #[.agg #[.int .i64 0, .int .i64 0, .string (ByteArray.mk #[]), .int .i64 0, Sl.nil.v, .int .i64 0], .agg #[.int .i64 i0, .int .i64 i1]]) w3) /\
   ((i0 != 0) = false -> ∀ k3 : Nat, ∀ w4 : World, w1.heap.size <= k3 -> k3 < w4.heap.size -> Only [] w1 w4 -> Calls Tryz.prog 17 #[l0.v, .int .i64 0] w4 fun e1 w5 => ∃ i2 i3 : Int, ∃ s0 : ByteArray, ∃ i4 : Int, ∃ l1 : Sl, ∃ i5 i6 i7 i8 : Int, e1 = (.returned (.tuple #[.agg #[.int .i64 i2, .int .i64 i3, .string s0, .int .i64 i4, l1.v, .int .i64 i5], .int .i64 i6, .agg #[.int .i64 i7, .int .i64 i8]])) /\
    Same [k0, k1, k3] w4 w5 /\
    ∀ k4 : Nat, ∀ w6 : World, w5.heap.size <= k4 -> k4 < w6.heap.size -> Only [k3] w5 w6 -> ∃ J1 : Int -> Int -> World -> Prop, (∀ i9 i10 : Int, ∀ w7 : World, J1 i9 i10 w7 -> ((i9 != 0) = true -> ∀ w8 : World, Only [] w7 w8 -> k0 ≠ k1 -> k0 ≠ k3 -> k0 ≠ k4 -> k1 ≠ k3 -> k1 ≠ k4 -> k3 ≠ k4 -> ∃ J2 : Nat -> Prop, J2 k3 /\
      Out J2 k0 /\
      Out J2 k1 /\
      ∀ w9 : World, Only [k1, k0] w8 w9 -> R (.tuple #[.agg #[.int .i64 0, .int .i64 0, .string (ByteArray.mk #[]), .int .i64 0, Sl.nil.v, .int .i64 0], .agg #[.int .i64 i9, .int .i64 i10]]) w9) /\
     ((i9 != 0) = false -> ∀ w10 : World, Only [] w7 w10 -> k0 ≠ k1 -> k0 ≠ k3 -> k0 ≠ k4 -> k1 ≠ k3 -> k1 ≠ k4 -> k3 ≠ k4 -> ∃ J3 : Nat -> Prop, J3 k3 /\
     Out J3 k0 /\
     Out J3 k1 /\
     ∀ w11 : World, Only [k1, k0] w10 w11 -> R (.tuple #[.agg #[.int .i64 i2, .int .i64 i3, .string s0, .int .i64 i4, l1.v, .int .i64 i5], .agg #[.int .i64 i9, .int .i64 i10]]) w11)) /\
    ∃ p0 : Addr, ((i7 == 0) = true -> SlAt l0 i6 4 p0) /\
    ∃ i11 : Int, ((i7 == 0) = true -> Cells w6 (p0.add 0) [.int .i64 i11]) /\
    (((i7 == 0) && (i11 != 5)) = true -> ∃ p1 : Addr, SlAt l0 i6 4 p1 /\
     ∃ i12 : Int, Cells w6 (p1.add 3) [.int .i64 i12] /\
     ∀ w12 : World, Only [k3] w6 w12 -> J1 4 i12 w12) /\
    (((i7 == 0) && (i11 != 5)) = false -> J1 i7 i8 w6))
theorem v16w (s : ByteArray) (R : Value -> World -> Prop) (w : World) (h : v16v s R w) : Cr 10 #[.string s] w R :=
 fB (an := .s .o (.s .o (.s (.s .o (.s (.s .o .o) .o)) (.s .o (.j [2, 3, 5, 6] [.b 5 [.int .i64, .int .i64]] (.s .o (.s .o .o)) (.s (.s .o (.s (.s .o .o) .o)) (.s .o .o))))))) (args := [.str s]) h
def v10v (w_ : Addr) (x x1 : Int) (x2 : ByteArray) (x3 : Int) (x4 : Sl) (x5 : Int) (R : Value -> World -> Prop) (w : World) : Prop :=
  ∀ k0 : Nat, ∀ w0 : World, w.heap.size <= k0 -> k0 < w0.heap.size -> Only [] w w0 -> ∃ i0 : Int, Cells w0 (w_.add 3) [.int .i64 i0] /\
  (((((i0 != 0) || (decide (x < 1))) || (decide (x > 5))) || ((x4.n : Int) != (if 0 > (IntKind.wrap .i64 (x - 3)) then 0 else IntKind.wrap .i64 (x - 3)))) = true -> Calls Tryz.prog 22 #[.pointer (some w_), .int .i64 22] w0 fun e0 w1 => ∃ i1 : Int, e0 = (.returned (.int .i64 i1)) /\
    Same [k0] w0 w1 /\
    R (.int .i64 i1) w1) /\
  (((((i0 != 0) || (decide (x < 1))) || (decide (x > 5))) || ((x4.n : Int) != (if 0 > (IntKind.wrap .i64 (x - 3)) then 0 else IntKind.wrap .i64 (x - 3)))) = false -> ((x == 1) = true -> R (.int .i64 x1) w0) /\
  ((x == 1) = false -> ((x == 2) = true -> Calls Tryz.prog 23 #[.pointer (some w_), .string x2] w0 fun e1 w2 => ∃ i2 : Int, e1 = (.returned (.int .i64 i2)) /\
    Same [k0] w0 w2 /\
    R (.int .i64 i2) w2) /\
  ((x == 2) = false -> ((x == 3) = true -> ∀ w3 : World, Only [] w0 w3 -> ∃ l0 : Sl, Cells w3 ((w_.add 0).add 2) [l0.v] /\
   Calls Tryz.prog 24 #[l0.v, .string x2] w3 fun e2 w4 => ∃ b0 : Bool, e2 = (.returned (.bool b0)) /\
    Same [k0] w3 w4 /\
    (b0 = true -> R (.int .i64 1) w4) /\
    (b0 = false -> R (.int .i64 0) w4)) /\
  ((x == 3) = false -> ∃ p0 : Addr, SlAt x4 0 6 p0 /\
  ∃ i3 i4 : Int, ∃ s0 : ByteArray, ∃ i5 : Int, ∃ l1 : Sl, ∃ i6 : Int, Cells w0 p0 [.int .i64 i3, .int .i64 i4, .string s0, .int .i64 i5, l1.v, .int .i64 i6] /\
  Calls Tryz.prog 15 #[.pointer (some w_), .agg #[.int .i64 i3, .int .i64 i4, .string s0, .int .i64 i5, l1.v, .int .i64 i6]] w0 fun e3 w5 => ∃ i7 : Int, e3 = (.returned (.int .i64 i7)) /\
   Same [k0] w0 w5 /\
   ∃ i8 : Int, Cells w5 (w_.add 3) [.int .i64 i8] /\
   ((i8 != 0) = true -> R (.int .i64 0) w5) /\
   ((i8 != 0) = false -> ((x == 4) = true -> Calls Tryz.prog 26 #[.int .i64 x3, .int .i64 i7] w5 fun e4 w6 => ∃ i9 i10 : Int, e4 = (.returned (.tuple #[.int .i64 i9, .int .i64 i10])) /\
     Same [k0] w5 w6 /\
     Calls Tryz.prog 25 #[.pointer (some w_), .int .i64 i9, .int .i64 i10] w6 fun e5 w7 => ∃ i11 : Int, e5 = (.returned (.int .i64 i11)) /\
      Same [k0] w6 w7 /\
      R (.int .i64 i11) w7) /\
   ((x == 4) = false -> (((x3 == 12) && (i7 == 0)) = true -> R (.int .i64 0) w5) /\
   (((x3 == 12) && (i7 == 0)) = false -> (((x3 == 13) && (i7 != 0)) = true -> R (.int .i64 1) w5) /\
   (((x3 == 13) && (i7 != 0)) = false -> ∃ p1 : Addr, SlAt x4 1 6 p1 /\
   ∃ i12 i13 : Int, ∃ s1 : ByteArray, ∃ i14 : Int, ∃ l2 : Sl, ∃ i15 : Int, Cells w5 p1 [.int .i64 i12, .int .i64 i13, .string s1, .int .i64 i14, l2.v, .int .i64 i15] /\
   Calls Tryz.prog 15 #[.pointer (some w_), .agg #[.int .i64 i12, .int .i64 i13, .string s1, .int .i64 i14, l2.v, .int .i64 i15]] w5 fun e6 w8 => ∃ i16 : Int, e6 = (.returned (.int .i64 i16)) /\
    Same [k0] w5 w8 /\
    ∃ i17 : Int, Cells w8 (w_.add 3) [.int .i64 i17] /\
    ((i17 != 0) = true -> R (.int .i64 0) w8) /\
    ((i17 != 0) = false -> Calls Tryz.prog 27 #[.int .i64 x3, .int .i64 i7, .int .i64 i16] w8 fun e7 w9 => ∃ i18 i19 : Int, e7 = (.returned (.tuple #[.int .i64 i18, .int .i64 i19])) /\
     Same [k0] w8 w9 /\
     Calls Tryz.prog 25 #[.pointer (some w_), .int .i64 i18, .int .i64 i19] w9 fun e8 w10 => ∃ i20 : Int, e8 = (.returned (.int .i64 i20)) /\
      Same [k0] w9 w10 /\
      R (.int .i64 i20) w10)))))))))
theorem v10w (w_ : Addr) (x x1 : Int) (x2 : ByteArray) (x3 : Int) (x4 : Sl) (x5 : Int) (R : Value -> World -> Prop) (w : World) (h : v10v w_ x x1 x2 x3 x4 x5 R w) : Cr 15 #[.pointer (some w_), .agg #[.int .i64 x, .int .i64 x1, .string x2, .int .i64 x3, x4.v, .int .i64 x5]] w R :=
 fB (an := .s .o (.s .o (.s (.s .o (.s (.s .o .o) .o)) (.s (.s .o (.s .o (.s (.s .o .o) (.s .o (.s (.s .o .o) (.s .o (.s (.s (.s .o (.s (.s .o .o) .o)) (.s .o .o)) .o))))))) (.s .o (.s (.s .o (.s (.s .o .o) (.s .o (.s (.s .o .o) (.s .o (.s (.s .o .o) (.s .o (.s (.s .o .o) .o)))))))) (.s .o (.s (.s .o (.s (.s .o .o) .o)) (.s .o .o))))))))) (args := [.ad w_, .agg (ofL [.int .i64 x, .int .i64 x1, .str x2, .int .i64 x3, .sl x4, .int .i64 x5])]) h
def v4v (op a_ bb : Int) (R : Value -> World -> Prop) (w : World) : Prop :=
  ((bb == 0) = true -> R (.tuple #[.int .i64 0, .int .i64 10]) w) /\
  ((bb == 0) = false -> (((op == 4) && (bb == (-1))) = true -> R (.tuple #[.int .i64 (IntKind.wrap .i64 (0 - a_)), .int .i64 0]) w) /\
  (((op == 4) && (bb == (-1))) = false -> ((op == 4) = true -> bb ≠ 0 /\
   R (.tuple #[.int .i64 (IntKind.wrap .i64 (a_.tdiv bb)), .int .i64 0]) w) /\
  ((op == 4) = false -> ((bb == (-1)) = true -> R (.tuple #[.int .i64 0, .int .i64 0]) w) /\
  ((bb == (-1)) = false -> bb ≠ 0 /\
  R (.tuple #[.int .i64 (a_.tmod bb), .int .i64 0]) w))))
theorem v4w (op a_ bb : Int) (R : Value -> World -> Prop) (w : World) (h : v4v op a_ bb R w) : Cr 43 #[.int .i64 op, .int .i64 a_, .int .i64 bb] w R :=
 fB (an := .s .o (.s (.s .o (.s (.s .o .o) (.s .o (.s (.s .o .o) (.s .o (.s (.s .o .o) (.s .o (.s (.s .o .o) .o)))))))) (.s .o .o))) (args := [.int .i64 op, .int .i64 a_, .int .i64 bb]) h
def v5v (is : Bool) (R : Value -> World -> Prop) (w : World) : Prop :=
 (is = true -> R (.int .i64 1) w) /\
 (is = false -> R (.int .i64 0) w)
theorem v5w (is : Bool) (R : Value -> World -> Prop) (w : World) (h : v5v is R w) : Cr 42 #[.bool is] w R :=
 fB (an := .s .o (.s (.s .o (.s (.s .o .o) .o)) (.s .o .o))) (args := [.bt is]) h
def v6v (n_ : Int) (R : Value -> World -> Prop) (w : World) : Prop :=
 R (.int .i64 (IntKind.wrap .i64 (1 - n_))) w
theorem v6w (n_ : Int) (R : Value -> World -> Prop) (w : World) (h : v6v n_ R w) : Cr 44 #[.int .i64 n_] w R :=
 fB (an := .s .o (.s .o .o)) (args := [.int .i64 n_]) h
def v35v (s : ByteArray) (R : Value -> World -> Prop) (w : World) : Prop :=
  ((decide ((s.size : Int) > 16384)) = true -> ∀ k0 : Nat, ∀ w0 : World, w.heap.size <= k0 -> k0 < w0.heap.size -> Only [] w w0 -> R (.tuple #[Sl.nil.v, .agg #[.int .i64 2, .int .i64 (-1)]]) w0) /\
  ((decide ((s.size : Int) > 16384)) = false -> ∀ k1 : Nat, ∀ w1 : World, w.heap.size <= k1 -> k1 < w1.heap.size -> Only [] w w1 -> Calls Tryz.prog 28 #[] w1 fun e0 w2 => ∃ l0 : Sl, e0 = (.returned l0.v) /\
   Same [k1] w1 w2 /\
   ∀ k2 : Nat, ∀ w3 : World, w2.heap.size <= k2 -> k2 < w3.heap.size -> Only [] w2 w3 -> Blk w3 k2 75 [.string s, .int .i64 0, l0.v, Sl.nil.v] -> Calls Tryz.prog 29 #[.pointer (some ⟨k2, 0, none⟩)] w3 fun e1 w4 => e1 = (.returned (.tuple #[])) /\
    Same [k1] w3 w4 /\
    ∃ s0 : ByteArray, ∃ i0 : Int, ∃ l1 l2 : Sl, Blk w4 k2 75 [.string s0, .int .i64 i0, l1.v, l2.v] /\
    ∃ J0 : Nat -> Int -> Int -> ByteArray -> Int -> Sl -> Sl -> World -> Prop, ∃ k3 : Nat, J0 k3 0 0 s0 i0 l1 l2 w4 /\
    ∀ k4 : Nat, ∀ i1 i2 : Int, ∀ s1 : ByteArray, ∀ i3 : Int, ∀ l3 l4 : Sl, ∀ w5 : World, J0 k4 i1 i2 s1 i3 l3 l4 w5 -> Calls Tryz.prog 30 #[.pointer (some ⟨k2, 0, none⟩)] w5 fun e2 w6 => ∃ b0 : Bool, e2 = (.returned (.bool b0)) /\
     Same [k1] w5 w6 /\
     ∃ s2 : ByteArray, ∃ i4 : Int, ∃ l5 l6 : Sl, Blk w6 k2 75 [.string s2, .int .i64 i4, l5.v, l6.v] /\
     ((!b0) = true -> Calls Tryz.prog 31 #[.pointer (some ⟨k2, 0, none⟩)] w6 fun e3 w7 => ∃ i5 : Int, e3 = (.returned (.int .i64 i5)) /\
       Same [k1] w6 w7 /\
       ∃ s3 : ByteArray, ∃ i6 : Int, ∃ l7 l8 : Sl, Blk w7 k2 75 [.string s3, .int .i64 i6, l7.v, l8.v] /\
       ((i5 != 0) = true -> ∀ w8 : World, Only [k1] w7 w8 -> Blk w8 k2 75 [.string s3, .int .i64 i6, l7.v, l8.v] -> R (.tuple #[Sl.nil.v, .agg #[.int .i64 i5, .int .i64 i6]]) w8) /\
       ((i5 != 0) = false -> Calls Tryz.prog 29 #[.pointer (some ⟨k2, 0, none⟩)] w7 fun e4 w9 => e4 = (.returned (.tuple #[])) /\
        Same [k1] w7 w9 /\
        ∃ s4 : ByteArray, ∃ i7 : Int, ∃ l9 l10 : Sl, Blk w9 k2 75 [.string s4, .int .i64 i7, l9.v, l10.v] /\
        ∃ k5 : Nat, k5 < k4 /\
        J0 k5 i1 i2 s4 i7 l9 l10 w9)) /\
     ((!b0) = false -> Calls Tryz.prog 32 #[.pointer (some ⟨k2, 0, none⟩), .agg #[.int .i64 5, .string (ByteArray.mk #[]), .int .i64 0, .int .i64 0], .int .i64 0] w6 fun e5 w10 => e5 = (.returned (.tuple #[])) /\
      Same [k1] w6 w10 /\
      ∃ s5 : ByteArray, ∃ i8 : Int, ∃ l11 l12 : Sl, Blk w10 k2 75 [.string s5, .int .i64 i8, l11.v, l12.v] /\
      ∀ w11 : World, Only [k1] w10 w11 -> Blk w11 k2 75 [.string s5, .int .i64 i8, l11.v, l12.v] -> R (.tuple #[l12.v, .agg #[.int .i64 0, .int .i64 0]]) w11))
theorem v35w (s : ByteArray) (R : Value -> World -> Prop) (w : World) (h : v35v s R w) : Cr 16 #[.string s] w R :=
 fB (an := .s .o (.s (.s .o (.s (.s .o .o) .o)) (.s .o (.s (.s .o (.j [3, 4, 14] [.b 3 [.int .i64, .int .i64], .b 14 [.str, .int .i64, .sl, .sl]] (.s (.s .o (.s .o .o)) (.s (.s .o (.s .o (.s (.s .o .o) .o))) .o)) .o)) (.s .o (.s .o .o)))))) (args := [.str s]) h
def v15v (l : Sl) (at_ : Int) (R : Value -> World -> Prop) (w : World) : Prop :=
  ∀ k0 k1 : Nat, ∀ w0 : World, w.heap.size <= k0 -> k0 < w0.heap.size -> w.heap.size <= k1 -> k1 < w0.heap.size -> Only [] w w0 -> Calls Tryz.prog 33 #[l.v, .func (.func 34) #[] #[]] w0 fun e0 w1 => ∃ i0 : Int, e0 = (.returned (.int .i64 i0)) /\
   Same [k0, k1] w0 w1 /\
   ((((decide (at_ < 0)) || (decide (at_ >= (l.n : Int)))) || (i0 != (IntKind.wrap .i64 ((l.n : Int) - 1)))) = true -> ∀ w2 : World, Only [k1, k0] w1 w2 -> R (.tuple #[.agg #[.int .i64 0, .int .i64 0, .string (ByteArray.mk #[]), .int .i64 0, Sl.nil.v, .int .i64 0], .int .i64 0, .agg #[.int .i64 1, .int .i64 (-1)]]) w2) /\
   ((((decide (at_ < 0)) || (decide (at_ >= (l.n : Int)))) || (i0 != (IntKind.wrap .i64 ((l.n : Int) - 1)))) = false -> Calls Tryz.prog 35 #[] w1 fun e1 w3 => ∃ l0 : Sl, e1 = (.returned l0.v) /\
    Same [k0, k1] w1 w3 /\
    ∀ k2 : Nat, ∀ w4 : World, w3.heap.size <= k2 -> k2 < w4.heap.size -> Only [] w3 w4 -> Blk w4 k2 84 [l.v, .int .i64 at_, .int .i64 0, .int .i64 0, .int .i64 0, l0.v] -> Calls Tryz.prog 36 #[.pointer (some ⟨k2, 0, none⟩), .int .i64 0] w4 fun e2 w5 => ∃ i1 i2 : Int, ∃ s0 : ByteArray, ∃ i3 : Int, ∃ l1 : Sl, ∃ i4 : Int, e2 = (.returned (.agg #[.int .i64 i1, .int .i64 i2, .string s0, .int .i64 i3, l1.v, .int .i64 i4])) /\
     Same [k0, k1] w4 w5 /\
     ∃ l2 : Sl, ∃ i5 i6 i7 i8 : Int, ∃ l3 : Sl, Blk w5 k2 84 [l2.v, .int .i64 i5, .int .i64 i6, .int .i64 i7, .int .i64 i8, l3.v] /\
     ∀ k3 : Nat, ∀ w6 : World, w5.heap.size <= k3 -> k3 < w6.heap.size -> Only [] w5 w6 -> Blk w6 k2 84 [l2.v, .int .i64 i5, .int .i64 i6, .int .i64 i7, .int .i64 i8, l3.v] -> Calls Tryz.prog 37 #[.pointer (some ⟨k2, 0, none⟩)] w6 fun e3 w7 => ∃ b0 : Bool, e3 = (.returned (.bool b0)) /\
      Same [k0, k1, k3] w6 w7 /\
      ∃ l4 : Sl, ∃ i9 i10 i11 i12 : Int, ∃ l5 : Sl, Blk w7 k2 84 [l4.v, .int .i64 i9, .int .i64 i10, .int .i64 i11, .int .i64 i12, l5.v] /\
      (b0 = true -> ∀ w8 : World, Only [] w7 w8 -> Blk w8 k2 84 [l4.v, .int .i64 i9, .int .i64 i10, .int .i64 i11, .int .i64 i12, l5.v] -> k0 ≠ k1 -> k0 ≠ k2 -> k0 ≠ k3 -> k1 ≠ k2 -> k1 ≠ k3 -> k2 ≠ k3 -> ∃ J0 : Nat -> Prop, J0 k2 /\
       Out J0 k0 /\
       Out J0 k1 /\
       ∀ w9 : World, Only [k1, k0] w8 w9 -> Blk w9 k2 84 [l4.v, .int .i64 i9, .int .i64 i10, .int .i64 i11, .int .i64 i12, l5.v] -> R (.tuple #[.agg #[.int .i64 0, .int .i64 0, .string (ByteArray.mk #[]), .int .i64 0, Sl.nil.v, .int .i64 0], .int .i64 0, .agg #[.int .i64 i10, .int .i64 i11]]) w9) /\
      (b0 = false -> ∀ w10 : World, Only [] w7 w10 -> Blk w10 k2 84 [l4.v, .int .i64 i9, .int .i64 i10, .int .i64 i11, .int .i64 i12, l5.v] -> k0 ≠ k1 -> k0 ≠ k2 -> k0 ≠ k3 -> k1 ≠ k2 -> k1 ≠ k3 -> k2 ≠ k3 -> ∃ J1 : Nat -> Prop, J1 k2 /\
      Out J1 k0 /\
      Out J1 k1 /\
      ∀ w11 : World, Only [k1, k0] w10 w11 -> Blk w11 k2 84 [l4.v, .int .i64 i9, .int .i64 i10, .int .i64 i11, .int .i64 i12, l5.v] -> R (.tuple #[.agg #[.int .i64 i1, .int .i64 i2, .string s0, .int .i64 i3, l1.v, .int .i64 i4], .int .i64 i9, .agg #[.int .i64 0, .int .i64 0]]) w11))
theorem v15w (l : Sl) (at_ : Int) (R : Value -> World -> Prop) (w : World) (h : v15v l at_ R w) : Cr 17 #[l.v, .int .i64 at_] w R :=
 fB (an := .s .o (.s .o (.s (.s .o (.s (.s .o .o) .o)) (.s .o (.s .o (.s (.s .o (.s (.s .o .o) .o)) (.s .o .o))))))) (args := [.sl l, .int .i64 at_]) h
def v11v (w_ : Addr) (err : Int) (R : Value -> World -> Prop) (w : World) : Prop :=
  ∃ J0 : World -> Prop, (∀ w0 : World, J0 w0 -> R (.int .i64 0) w0) /\
  ∃ i0 : Int, Cells w (w_.add 3) [.int .i64 i0] /\
  ((i0 == 0) = true -> ∃ k0 k1 : Nat, ∃ z0 : List Value, ∃ k2 : Nat, (w_.add 3) = ⟨k0, k1, none⟩ /\
   Blk w k0 k2 z0 /\
   (k1 + 1) <= z0.length /\
   ∀ w1 : World, Only [k0] w w1 -> Blk w1 k0 k2 (splice z0 k1 [.int .i64 err]) -> J0 w1) /\
  ((i0 == 0) = false -> J0 w)
theorem v11w (w_ : Addr) (err : Int) (R : Value -> World -> Prop) (w : World) (h : v11v w_ err R w) : Cr 22 #[.pointer (some w_), .int .i64 err] w R :=
 fB (an := .s .o (.j [] [] (.s .o (.s .o .o)) (.s .o .o))) (args := [.ad w_, .int .i64 err]) h
def v12v (w_ : Addr) (name : ByteArray) (R : Value -> World -> Prop) (w : World) : Prop :=
  ∃ l0 : Sl, Cells w ((w_.add 0).add 0) [l0.v] /\
  Calls Tryz.prog 41 #[l0.v, .string name] w fun e0 w0 => ∃ i0 : Int, e0 = (.returned (.int .i64 i0)) /\
   ∃ l1 : Sl, ((decide (i0 < 0)) = false -> Cells w0 ((w_.add 0).add 1) [l1.v]) /\
   (((decide (i0 < 0)) || (decide (i0 >= (l1.n : Int)))) = true -> Calls Tryz.prog 22 #[.pointer (some w_), .int .i64 23] w0 fun e1 w1 => ∃ i1 : Int, e1 = (.returned (.int .i64 i1)) /\
     R (.int .i64 i1) w1) /\
   (((decide (i0 < 0)) || (decide (i0 >= (l1.n : Int)))) = false -> ∃ l2 : Sl, Cells w0 ((w_.add 0).add 1) [l2.v] /\
   ∃ p0 : Addr, SlAt l2 i0 1 p0 /\
   ∃ i2 : Int, Cells w0 p0 [.int .i64 i2] /\
   R (.int .i64 i2) w0)
theorem v12w (w_ : Addr) (name : ByteArray) (R : Value -> World -> Prop) (w : World) (h : v12v w_ name R w) : Cr 23 #[.pointer (some w_), .string name] w R :=
 fB (an := .s .o (.s .o (.s (.s .o (.s (.s .o .o) .o)) (.s .o .o)))) (args := [.ad w_, .str name]) h
def v50v (s : Sl) (v1 : ByteArray) (R : Value -> World -> Prop) (w : World) : Prop :=
  Calls Tryz.prog 41 #[s.v, .string v1] w fun e0 w0 => ∃ i0 : Int, e0 = (.returned (.int .i64 i0)) /\
   R (.bool (decide (i0 >= 0))) w0
theorem v50w (s : Sl) (v1 : ByteArray) (R : Value -> World -> Prop) (w : World) (h : v50v s v1 R w) : Cr 24 #[s.v, .string v1] w R :=
 fB (an := .s .o (.s .o .o)) (args := [.sl s, .str v1]) h
def v13v (w_ : Addr) (n_ err : Int) (R : Value -> World -> Prop) (w : World) : Prop :=
  Calls Tryz.prog 22 #[.pointer (some w_), .int .i64 err] w fun e0 w0 => ∃ i0 : Int, e0 = (.returned (.int .i64 i0)) /\
   ∃ i1 : Int, Cells w0 (w_.add 3) [.int .i64 i1] /\
   ((i1 != 0) = true -> R (.int .i64 0) w0) /\
   ((i1 != 0) = false -> R (.int .i64 n_) w0)
theorem v13w (w_ : Addr) (n_ err : Int) (R : Value -> World -> Prop) (w : World) (h : v13v w_ n_ err R w) : Cr 25 #[.pointer (some w_), .int .i64 n_, .int .i64 err] w R :=
 fB (an := .s .o (.s (.s .o (.s .o (.s (.s .o .o) .o))) (.s .o .o))) (args := [.ad w_, .int .i64 n_, .int .i64 err]) h
def v36v (R : Value -> World -> Prop) (w : World) : Prop :=
 ∃ l0 : Sl, ∃ w0 : World, ((Instr.buildSlice 26 16 #[.mk 0 (.string (ByteArray.mk #[97, 102, 116, 101, 114])), .mk 1 (.string (ByteArray.mk #[97, 108, 119, 97, 121, 115])), .mk 2 (.string (ByteArray.mk #[99, 104, 97, 114, 116])), .mk 3 (.string (ByteArray.mk #[100, 101, 101, 112])), .mk 4 (.string (ByteArray.mk #[101, 109, 105, 116])), .mk 5 (.string (ByteArray.mk #[101, 110, 116, 101, 114])), .mk 6 (.string (ByteArray.mk #[104, 105, 115, 116, 111, 114, 121])), .mk 7 (.string (ByteArray.mk #[105, 110])), .mk 8 (.string (ByteArray.mk #[105, 110, 105, 116, 105, 97, 108])), .mk 9 (.string (ByteArray.mk #[108, 101, 97, 118, 101])), .mk 10 (.string (ByteArray.mk #[111, 110])), .mk 11 (.string (ByteArray.mk #[112, 97, 114, 97, 108, 108, 101, 108])), .mk 12 (.string (ByteArray.mk #[114, 97, 105, 115, 101])), .mk 13 (.string (ByteArray.mk #[115, 101, 116])), .mk 14 (.string (ByteArray.mk #[115, 116, 97, 116, 101])), .mk 15 (.string (ByteArray.mk #[118, 97, 114]))]).run Tryz.prog w) = (.ok l0.v w0) /\
 R l0.v w0
theorem v36w (R : Value -> World -> Prop) (w : World) (h : v36v R w) : Cr 28 #[] w R :=
 fB (an := .s .o (.s .o .o)) (args := []) h
def v40v (c : Addr) (R : Value -> World -> Prop) (w : World) : Prop :=
  ∃ J0 : Nat -> World -> Prop, ∃ k0 : Nat, J0 k0 w /\
  ∀ k1 : Nat, ∀ w0 : World, J0 k1 w0 -> Calls Tryz.prog 30 #[.pointer (some c)] w0 fun e0 w1 => ∃ b0 : Bool, e0 = (.returned (.bool b0)) /\
   ((!b0) = true -> ∃ s0 : ByteArray, Cells w1 (c.add 0) [.string s0] /\
    ∃ i0 : Int, Cells w1 (c.add 1) [.int .i64 i0] /\
    ∃ c0 : UInt8, (0 <= i0 /\
     (s0[Int.toNat i0]?) = (some c0)) /\
    ∀ w2 : World, Only [] w1 w2 -> ∃ l0 : Sl, ∃ w3 : World, ((Instr.buildSlice 114 4 #[.mk 0 (.int .u8 9), .mk 1 (.int .u8 10), .mk 2 (.int .u8 13), .mk 3 (.int .u8 32)]).run Tryz.prog w2) = (.ok l0.v w3) /\
    Calls Tryz.prog 45 #[.int .u8 (UInt8.toNat c0 : Int), l0.v] w3 fun e1 w4 => ∃ b1 : Bool, e1 = (.returned (.bool b1)) /\
     (b1 = true -> ∃ i1 : Int, Cells w4 (c.add 1) [.int .i64 i1] /\
      ∃ k3 k4 : Nat, ∃ z0 : List Value, ∃ k5 : Nat, (c.add 1) = ⟨k3, k4, none⟩ /\
      Blk w4 k3 k5 z0 /\
      (k4 + 1) <= z0.length /\
      ∀ w5 : World, Only [k3] w4 w5 -> Blk w5 k3 k5 (splice z0 k4 [.int .i64 (IntKind.wrap .i64 (i1 + 1))]) -> ∃ k6 : Nat, k6 < k1 /\
      J0 k6 w5) /\
     (b1 = false -> Calls Tryz.prog 47 #[.pointer (some c)] w4 fun e2 w6 => ∃ s2 : ByteArray, e2 = (.returned (.string s2)) /\
      Calls Tryz.prog 46 #[.string s2, .string (ByteArray.mk #[47, 47])] w6 fun e3 w7 => ∃ b2 : Bool, e3 = (.returned (.bool b2)) /\
       (b2 = true -> Calls Tryz.prog 47 #[.pointer (some c)] w7 fun e4 w8 => ∃ s3 : ByteArray, e4 = (.returned (.string s3)) /\
         Calls Tryz.prog 48 #[.string s3, .string (ByteArray.mk #[10])] w8 fun e5 w9 => ∃ s4 s5 : ByteArray, ∃ b3 : Bool, e5 = (.returned (.tuple #[.string s4, .string s5, .bool b3])) /\
          ∃ i2 : Int, Cells w9 (c.add 1) [.int .i64 i2] /\
          ∃ k7 k8 : Nat, ∃ z1 : List Value, ∃ k9 : Nat, (c.add 1) = ⟨k7, k8, none⟩ /\
          Blk w9 k7 k9 z1 /\
          (k8 + 1) <= z1.length /\
          ∀ w10 : World, Only [k7] w9 w10 -> Blk w10 k7 k9 (splice z1 k8 [.int .i64 (IntKind.wrap .i64 (i2 + (s4.size : Int)))]) -> ∃ k10 : Nat, k10 < k1 /\
          J0 k10 w10) /\
       (b2 = false -> R (.tuple #[]) w7))) /\
   ((!b0) = false -> R (.tuple #[]) w1)
theorem v40w (c : Addr) (R : Value -> World -> Prop) (w : World) (h : v40v c R w) : Cr 29 #[.pointer (some c)] w R :=
 fB (an := .j [0] [] (.s (.s .o (.s .o .o)) (.s .o (.s .o (.s .o (.s .o (.s (.s .o .o) .o)))))) .o) (args := [.ad c]) h
def v37v (c : Addr) (R : Value -> World -> Prop) (w : World) : Prop :=
 ∃ i0 : Int, Cells w (c.add 1) [.int .i64 i0] /\
 ∃ s0 : ByteArray, Cells w (c.add 0) [.string s0] /\
 ∀ w0 : World, Only [] w w0 -> R (.bool (decide (i0 >= (s0.size : Int)))) w0
theorem v37w (c : Addr) (R : Value -> World -> Prop) (w : World) (h : v37v c R w) : Cr 30 #[.pointer (some c)] w R :=
 fB (an := .s .o (.s .o .o)) (args := [.ad c]) h
def v44v (c : Addr) (R : Value -> World -> Prop) (w : World) : Prop :=
  ∃ s0 : ByteArray, Cells w ((c.add 0).add 0) [.string s0] /\
  ∃ i0 : Int, Cells w ((c.add 0).add 1) [.int .i64 i0] /\
  ∃ c0 : UInt8, (0 <= i0 /\
   (s0[Int.toNat i0]?) = (some c0)) /\
  ∀ w0 : World, Only [] w w0 -> Calls Tryz.prog 49 #[.int .u8 (UInt8.toNat c0 : Int)] w0 fun e0 w1 => ∃ b0 : Bool, e0 = (.returned (.bool b0)) /\
   (b0 = true -> Calls Tryz.prog 50 #[.pointer (some c)] w1 fun e1 w2 => ∃ i1 : Int, e1 = (.returned (.int .i64 i1)) /\
     R (.int .i64 i1) w2) /\
   (b0 = false -> Calls Tryz.prog 51 #[.int .u8 (UInt8.toNat c0 : Int)] w1 fun e2 w3 => ∃ b1 : Bool, e2 = (.returned (.bool b1)) /\
    (b1 = true -> Calls Tryz.prog 52 #[.pointer (some c)] w3 fun e3 w4 => ∃ i2 : Int, e3 = (.returned (.int .i64 i2)) /\
      R (.int .i64 i2) w4) /\
    (b1 = false -> Calls Tryz.prog 53 #[.pointer (some c)] w3 fun e4 w5 => ∃ i3 : Int, e4 = (.returned (.int .i64 i3)) /\
     R (.int .i64 i3) w5))
theorem v44w (c : Addr) (R : Value -> World -> Prop) (w : World) (h : v44v c R w) : Cr 31 #[.pointer (some c)] w R :=
 fB (an := .s .o (.s (.s .o (.s .o (.s (.s .o .o) (.s .o (.s (.s .o .o) .o))))) (.s .o .o))) (args := [.ad c]) h
def v41v (c : Addr) (t : Int) (t1 : ByteArray) (t2 t3 n_ : Int) (R : Value -> World -> Prop) (w : World) : Prop :=
 ∀ k0 : Nat, ∀ w0 : World, w.heap.size <= k0 -> k0 < w0.heap.size -> Only [] w w0 -> ∃ i0 : Int, Cells w0 ((c.add 0).add 1) [.int .i64 i0] /\
 ∀ w1 : World, Only [k0] w0 w1 -> ∃ J0 : Nat -> Prop, J0 ((c.add 3).block) /\
 ∃ l0 : Sl, Cells w1 (c.add 3) [l0.v] /\
 ∃ l1 : Sl, ∃ w2 : World, ((Instr.buildSlice 54 1 #[.mk 0 (.agg #[.int .i64 t, .string t1, .int .i64 t2, .int .i64 i0])]).run Tryz.prog w1) = (.ok l1.v w2) /\
 Same [k0] w1 w2 /\
 Keeps J0 w1 w2 /\
 ∃ l2 : Sl, ∃ w3 : World, ((Builtin.append_ #[54, 54] 54 #[l0.v, l1.v]).run Tryz.prog w2) = (.ok l2.v w3) /\
 Same [k0] w2 w3 /\
 Keeps J0 w2 w3 /\
 ∃ k1 k2 : Nat, ∃ z0 : List Value, ∃ k3 : Nat, (c.add 3) = ⟨k1, k2, none⟩ /\
 Blk w3 k1 k3 z0 /\
 (k2 + 1) <= z0.length /\
 k0 ≠ k1 /\
 ∀ w4 : World, Only [k1] w3 w4 -> Blk w4 k1 k3 (splice z0 k2 [l2.v]) -> ∃ i1 : Int, Cells w4 ((c.add 0).add 1) [.int .i64 i1] /\
 ∃ k4 k5 : Nat, ∃ z1 : List Value, ∃ k6 : Nat, ((c.add 0).add 1) = ⟨k4, k5, none⟩ /\
 Blk w4 k4 k6 z1 /\
 (k5 + 1) <= z1.length /\
 k0 ≠ k4 /\
 ∀ w5 : World, Only [k4] w4 w5 -> Blk w5 k4 k6 (splice z1 k5 [.int .i64 (IntKind.wrap .i64 (i1 + n_))]) -> R (.tuple #[]) w5
theorem v41w (c : Addr) (t : Int) (t1 : ByteArray) (t2 t3 n_ : Int) (R : Value -> World -> Prop) (w : World) (h : v41v c t t1 t2 t3 n_ R w) : Cr 32 #[.pointer (some c), .agg #[.int .i64 t, .string t1, .int .i64 t2, .int .i64 t3], .int .i64 n_] w R :=
 fB (an := .s .o (.s .o (.s .o .o))) (args := [.ad c, .agg (ofL [.int .i64 t, .str t1, .int .i64 t2, .int .i64 t3]), .int .i64 n_]) h
def v51v (s : Sl) (f : OV) (R : Value -> World -> Prop) (w : World) : Prop :=
  ∃ J0 : Nat -> Int -> World -> Prop, ∃ k0 : Nat, J0 k0 0 w /\
  ∀ k1 : Nat, ∀ i0 : Int, ∀ w0 : World, J0 k1 i0 w0 -> ((decide (i0 < (s.n : Int))) = true -> ∃ p0 : Addr, SlAt s i0 4 p0 /\
   ∃ i1 : Int, ∃ s0 : ByteArray, ∃ i2 i3 : Int, Cells w0 p0 [.int .i64 i1, .string s0, .int .i64 i2, .int .i64 i3] /\
   ∃ k2 : Nat, ∃ z0 : List Value, ∃ z1 : List Value, f.v = (.func (.func k2) z0.toArray z1.toArray) /\
   (∀ x0 : Array Value, ∀ w1 : World, ((callFunc k2 x0).run Tryz.prog w1) = (.ok (.enter k2 x0) w1)) /\
   Calls Tryz.prog k2 ((cat (cat z0 [.agg #[.int .i64 i1, .string s0, .int .i64 i2, .int .i64 i3]]) z1).toArray) w0 fun e0 w2 => ∃ b0 : Bool, e0 = (.returned (.bool b0)) /\
    (b0 = true -> R (.int .i64 i0) w2) /\
    (b0 = false -> ∃ k3 : Nat, k3 < k1 /\
    J0 k3 (IntKind.wrap .i64 (i0 + 1)) w2)) /\
  ((decide (i0 < (s.n : Int))) = false -> R (.int .i64 (-1)) w0)
theorem v51w (s : Sl) (f : OV) (R : Value -> World -> Prop) (w : World) (h : v51v s f R w) : Cr 33 #[s.v, f.v] w R :=
 fB (an := .s .o (.s (.s .o (.j [0, 1, 7] [.s 8 (.int .i64)] (.s .o (.s (.s .o .o) (.s (.s .o (.s .o (.s (.s .o .o) .o))) .o))) .o)) (.s .o .o))) (args := [.sl s, .raw f]) h
def v14v (t : Int) (t1 : ByteArray) (t2 t3 : Int) (R : Value -> World -> Prop) (w : World) : Prop :=
 ∀ k0 : Nat, ∀ w0 : World, w.heap.size <= k0 -> k0 < w0.heap.size -> Only [] w w0 -> R (.bool (t == 5)) w0
theorem v14w (t : Int) (t1 : ByteArray) (t2 t3 : Int) (R : Value -> World -> Prop) (w : World) (h : v14v t t1 t2 t3 R w) : Cr 34 #[.agg #[.int .i64 t, .string t1, .int .i64 t2, .int .i64 t3]] w R :=
 fB (an := .s .o (.s .o .o)) (args := [.agg (ofL [.int .i64 t, .str t1, .int .i64 t2, .int .i64 t3])]) h
def v23v (R : Value -> World -> Prop) (w : World) : Prop :=
 ∃ l0 : Sl, ∃ w0 : World, ((Instr.buildSlice 26 16 #[.mk 1 (.string (ByteArray.mk #[43])), .mk 2 (.string (ByteArray.mk #[45])), .mk 3 (.string (ByteArray.mk #[42])), .mk 4 (.string (ByteArray.mk #[47])), .mk 5 (.string (ByteArray.mk #[37])), .mk 6 (.string (ByteArray.mk #[60])), .mk 7 (.string (ByteArray.mk #[60, 61])), .mk 8 (.string (ByteArray.mk #[62])), .mk 9 (.string (ByteArray.mk #[62, 61])), .mk 10 (.string (ByteArray.mk #[61, 61])), .mk 11 (.string (ByteArray.mk #[33, 61])), .mk 12 (.string (ByteArray.mk #[38, 38])), .mk 13 (.string (ByteArray.mk #[124, 124])), .mk 14 (.string (ByteArray.mk #[45])), .mk 15 (.string (ByteArray.mk #[33]))]).run Tryz.prog w) = (.ok l0.v w0) /\
 R l0.v w0
theorem v23w (R : Value -> World -> Prop) (w : World) (h : v23v R w) : Cr 35 #[] w R :=
 fB (an := .s .o (.s .o .o)) (args := []) h
def v24v (r : Addr) (k : Int) (R : Value -> World -> Prop) (w : World) : Prop :=
  ((k == 6) = true -> ∀ k0 : Nat, ∀ w0 : World, w.heap.size <= k0 -> k0 < w0.heap.size -> Only [] w w0 -> Calls Tryz.prog 54 #[.pointer (some r)] w0 fun e0 w1 => ∃ i0 i1 : Int, ∃ s0 : ByteArray, ∃ i2 : Int, ∃ l0 : Sl, ∃ i3 : Int, e0 = (.returned (.agg #[.int .i64 i0, .int .i64 i1, .string s0, .int .i64 i2, l0.v, .int .i64 i3])) /\
    Same [k0] w0 w1 /\
    ∀ w2 : World, Only [k0] w1 w2 -> R (.agg #[.int .i64 i0, .int .i64 i1, .string s0, .int .i64 i2, l0.v, .int .i64 i3]) w2) /\
  ((k == 6) = false -> ∀ k1 : Nat, ∀ w3 : World, w.heap.size <= k1 -> k1 < w3.heap.size -> Only [] w w3 -> Calls Tryz.prog 36 #[.pointer (some r), .int .i64 (IntKind.wrap .i64 (k + 1))] w3 fun e1 w4 => ∃ i4 i5 : Int, ∃ s1 : ByteArray, ∃ i6 : Int, ∃ l1 : Sl, ∃ i7 : Int, e1 = (.returned (.agg #[.int .i64 i4, .int .i64 i5, .string s1, .int .i64 i6, l1.v, .int .i64 i7])) /\
   Same [k1] w3 w4 /\
   ∀ k2 : Nat, ∀ w5 : World, w4.heap.size <= k2 -> k2 < w5.heap.size -> Only [] w4 w5 -> Calls Tryz.prog 55 #[.pointer (some r), .int .i64 k] w5 fun e2 w6 => ∃ i8 : Int, e2 = (.returned (.int .i64 i8)) /\
    Same [k1, k2] w5 w6 /\
    ∃ J0 : Nat -> Int -> Int -> Int -> ByteArray -> Int -> Sl -> Int -> World -> Prop, ∃ k3 : Nat, J0 k3 i8 i4 i5 s1 i6 l1 i7 w6 /\
    ∀ k4 : Nat, ∀ i9 i10 i11 : Int, ∀ s2 : ByteArray, ∀ i12 : Int, ∀ l2 : Sl, ∀ i13 : Int, ∀ w7 : World, J0 k4 i9 i10 i11 s2 i12 l2 i13 w7 -> ((i9 != 0) = true -> ∃ i14 : Int, Cells w7 ((r.add 0).add 1) [.int .i64 i14] /\
     ∃ k5 k6 : Nat, ∃ z0 : List Value, ∃ k7 : Nat, ((r.add 0).add 1) = ⟨k5, k6, none⟩ /\
     Blk w7 k5 k7 z0 /\
     (k6 + 1) <= z0.length /\
     k1 ≠ k5 /\
     k2 ≠ k5 /\
     ∀ w8 : World, Only [k5] w7 w8 -> Blk w8 k5 k7 (splice z0 k6 [.int .i64 (IntKind.wrap .i64 (i14 + 1))]) -> Calls Tryz.prog 36 #[.pointer (some r), .int .i64 (IntKind.wrap .i64 (k + 1))] w8 fun e3 w9 => ∃ i15 i16 : Int, ∃ s3 : ByteArray, ∃ i17 : Int, ∃ l3 : Sl, ∃ i18 : Int, e3 = (.returned (.agg #[.int .i64 i15, .int .i64 i16, .string s3, .int .i64 i17, l3.v, .int .i64 i18])) /\
      Same [k1, k2] w8 w9 /\
      ∀ k8 : Nat, ∀ w10 : World, w9.heap.size <= k8 -> k8 < w10.heap.size -> Only [] w9 w10 -> ∃ l4 : Sl, ∃ w11 : World, ((Instr.buildSlice 22 2 #[.mk 0 (.agg #[.int .i64 i10, .int .i64 i11, .string s2, .int .i64 i12, l2.v, .int .i64 i13]), .mk 1 (.agg #[.int .i64 i15, .int .i64 i16, .string s3, .int .i64 i17, l3.v, .int .i64 i18])]).run Tryz.prog w10) = (.ok l4.v w11) /\
      Same [k1, k2, k8] w10 w11 /\
      ∀ w12 : World, Only [k2] w11 w12 -> Calls Tryz.prog 55 #[.pointer (some r), .int .i64 k] w12 fun e4 w13 => ∃ i19 : Int, e4 = (.returned (.int .i64 i19)) /\
       Same [k1, k2, k8] w12 w13 /\
       ∃ k9 : Nat, k9 < k4 /\
       J0 k9 i19 5 0 (ByteArray.mk #[]) i9 l4 i13 w13) /\
    ((i9 != 0) = false -> ∀ w14 : World, Only [k1] w7 w14 -> R (.agg #[.int .i64 i10, .int .i64 i11, .string s2, .int .i64 i12, l2.v, .int .i64 i13]) w14))
theorem v24w (r : Addr) (k : Int) (R : Value -> World -> Prop) (w : World) (h : v24v r k R w) : Cr 36 #[.pointer (some r), .int .i64 k] w R :=
 fB (an := .s .o (.s (.s .o (.s (.s .o .o) .o)) (.s .o (.s (.s .o (.j [0, 1, 4, 5] [.s 6 (.int .i64), .b 5 [.int .i64, .int .i64, .str, .int .i64, .sl, .int .i64]] (.s (.s .o (.s .o .o)) (.s (.s .o (.s .o .o)) .o)) .o)) (.s .o .o))))) (args := [.ad r, .int .i64 k]) h
def v17v (c : Addr) (R : Value -> World -> Prop) (w : World) : Prop :=
 ∃ i0 : Int, Cells w ((c.add 2).add 0) [.int .i64 i0] /\
 R (.bool (i0 != 0)) w
theorem v17w (c : Addr) (R : Value -> World -> Prop) (w : World) (h : v17v c R w) : Cr 37 #[.pointer (some c)] w R :=
 fB (an := .s .o (.s .o .o)) (args := [.ad c]) h
def v53v (s : Sl) (v1 : ByteArray) (R : Value -> World -> Prop) (w : World) : Prop :=
  ∃ J0 : Nat -> Int -> World -> Prop, ∃ k0 : Nat, J0 k0 0 w /\
  ∀ k1 : Nat, ∀ i0 : Int, ∀ w0 : World, J0 k1 i0 w0 -> ((decide (i0 < (s.n : Int))) = true -> ∃ p0 : Addr, SlAt s i0 1 p0 /\
   ∃ s0 : ByteArray, Cells w0 p0 [.string s0] /\
   ((v1.toList == s0.toList) = true -> R (.int .i64 i0) w0) /\
   ((v1.toList == s0.toList) = false -> ∃ k2 : Nat, k2 < k1 /\
   J0 k2 (IntKind.wrap .i64 (i0 + 1)) w0)) /\
  ((decide (i0 < (s.n : Int))) = false -> R (.int .i64 (-1)) w0)
theorem v53w (s : Sl) (v1 : ByteArray) (R : Value -> World -> Prop) (w : World) (h : v53v s v1 R w) : Cr 41 #[s.v, .string v1] w R :=
 fB (an := .s .o (.s (.s .o (.j [0, 1, 7] [.s 8 (.int .i64)] (.s .o (.s (.s .o .o) (.s (.s .o (.s .o (.s (.s .o .o) .o))) .o))) .o)) (.s .o .o))) (args := [.sl s, .str v1]) h
def v48v (c : Int) (of_ : Sl) (R : Value -> World -> Prop) (w : World) : Prop :=
  Calls Tryz.prog 67 #[of_.v, .int .u8 c] w fun e0 w0 => ∃ b0 : Bool, e0 = (.returned (.bool b0)) /\
   R (.bool b0) w0
theorem v48w (c : Int) (of_ : Sl) (R : Value -> World -> Prop) (w : World) (h : v48v c of_ R w) : Cr 45 #[.int .u8 c, of_.v] w R :=
 fB (an := .s .o (.s .o .o)) (args := [.int .u8 c, .sl of_]) h
def v56v (s prefix_ : ByteArray) (R : Value -> World -> Prop) (w : World) : Prop :=
  Calls Tryz.prog 68 #[.string s, .string prefix_] w fun e0 w0 => ∃ b0 : Bool, e0 = (.returned (.bool b0)) /\
   R (.bool b0) w0
theorem v56w (s prefix_ : ByteArray) (R : Value -> World -> Prop) (w : World) (h : v56v s prefix_ R w) : Cr 46 #[.string s, .string prefix_] w R :=
 fB (an := .s .o (.s .o .o)) (args := [.str s, .str prefix_]) h
def v38v (c : Addr) (R : Value -> World -> Prop) (w : World) : Prop :=
  ∃ s0 : ByteArray, Cells w (c.add 0) [.string s0] /\
  ∃ i0 : Int, Cells w (c.add 1) [.int .i64 i0] /\
  ∃ k0 : Nat, (i0 = (k0 : Int) /\
   k0 <= s0.size) /\
  ∀ w0 : World, Only [] w w0 -> R (.string (s0.extract k0 s0.size)) w0
theorem v38w (c : Addr) (R : Value -> World -> Prop) (w : World) (h : v38v c R w) : Cr 47 #[.pointer (some c)] w R :=
 fB (an := .s .o (.s .o .o)) (args := [.ad c]) h
def v55v (s sep : ByteArray) (R : Value -> World -> Prop) (w : World) : Prop :=
  Calls Tryz.prog 69 #[.string s, .string sep] w fun e0 w0 => ∃ s0 s1 : ByteArray, ∃ b0 : Bool, e0 = (.returned (.tuple #[.string s0, .string s1, .bool b0])) /\
   R (.tuple #[.string s0, .string s1, .bool b0]) w0
theorem v55w (s sep : ByteArray) (R : Value -> World -> Prop) (w : World) (h : v55v s sep R w) : Cr 48 #[.string s, .string sep] w R :=
 fB (an := .s .o (.s .o .o)) (args := [.str s, .str sep]) h
def v47v (c : Int) (R : Value -> World -> Prop) (w : World) : Prop :=
 R (.bool (((decide (97 <= (bits .or .u8 c 32))) && (decide ((bits .or .u8 c 32) <= 122))) || (c == 95))) w
theorem v47w (c : Int) (R : Value -> World -> Prop) (w : World) (h : v47v c R w) : Cr 49 #[.int .u8 c] w R :=
 fB (an := .s .o (.s .o .o)) (args := [.int .u8 c]) h
def v45v (c : Addr) (R : Value -> World -> Prop) (w : World) : Prop :=
  Calls Tryz.prog 70 #[.pointer (some (c.add 0))] w fun e0 w0 => ∃ s0 : ByteArray, e0 = (.returned (.string s0)) /\
   ((decide ((s0.size : Int) > 24)) = true -> R (.int .i64 2) w0) /\
   ((decide ((s0.size : Int) > 24)) = false -> ∃ J0 : Int -> World -> Prop, (∀ i0 : Int, ∀ w1 : World, J0 i0 w1 -> Calls Tryz.prog 71 #[.string s0] w1 fun e1 w2 => ∃ s1 : ByteArray, e1 = (.returned (.string s1)) /\
     Calls Tryz.prog 32 #[.pointer (some c), .agg #[.int .i64 i0, .string s1, .int .i64 0, .int .i64 0], .int .i64 (s0.size : Int)] w2 fun e2 w3 => e2 = (.returned (.tuple #[])) /\
      R (.int .i64 0) w3) /\
   ∃ l0 : Sl, Cells w0 (c.add 2) [l0.v] /\
   Calls Tryz.prog 24 #[l0.v, .string s0] w0 fun e3 w4 => ∃ b0 : Bool, e3 = (.returned (.bool b0)) /\
    (b0 = true -> J0 2 w4) /\
    (b0 = false -> J0 1 w4))
theorem v45w (c : Addr) (R : Value -> World -> Prop) (w : World) (h : v45v c R w) : Cr 50 #[.pointer (some c)] w R :=
 fB (an := .s .o (.s .o (.s (.s .o (.s (.s .o .o) .o)) (.s .o (.j [0, 3] [.s 4 (.int .i64)] (.s .o (.s .o .o)) (.s .o (.s .o .o))))))) (args := [.ad c]) h
def v46v (c : Int) (R : Value -> World -> Prop) (w : World) : Prop :=
 R (.bool ((decide (48 <= c)) && (decide (c <= 57)))) w
theorem v46w (c : Int) (R : Value -> World -> Prop) (w : World) (h : v46v c R w) : Cr 51 #[.int .u8 c] w R :=
 fB (an := .s .o (.s .o .o)) (args := [.int .u8 c]) h
def v42v (c : Addr) (R : Value -> World -> Prop) (w : World) : Prop :=
  Calls Tryz.prog 47 #[.pointer (some (c.add 0))] w fun e0 w0 => ∃ s0 : ByteArray, e0 = (.returned (.string s0)) /\
   Calls Tryz.prog 72 #[.string s0] w0 fun e1 w1 => ∃ i0 i1 i2 : Int, e1 = (.returned (.tuple #[.int .i64 i0, .int .i64 i1, .int .i64 i2])) /\
    ((i2 != 0) = true -> R (.int .i64 i2) w1) /\
    ((i2 != 0) = false -> Calls Tryz.prog 70 #[.pointer (some (c.add 0))] w1 fun e2 w2 => ∃ s1 : ByteArray, e2 = (.returned (.string s1)) /\
     ((decide ((s1.size : Int) > i1)) = true -> R (.int .i64 4) w2) /\
     ((decide ((s1.size : Int) > i1)) = false -> Calls Tryz.prog 32 #[.pointer (some c), .agg #[.int .i64 3, .string (ByteArray.mk #[]), .int .i64 i0, .int .i64 0], .int .i64 i1] w2 fun e3 w3 => e3 = (.returned (.tuple #[])) /\
      R (.int .i64 0) w3))
theorem v42w (c : Addr) (R : Value -> World -> Prop) (w : World) (h : v42v c R w) : Cr 52 #[.pointer (some c)] w R :=
 fB (an := .s .o (.s .o (.s (.s .o (.s (.s .o .o) .o)) (.s (.s .o (.s (.s .o .o) .o)) (.s .o (.s .o .o)))))) (args := [.ad c]) h
def v43v (c : Addr) (R : Value -> World -> Prop) (w : World) : Prop :=
  Calls Tryz.prog 47 #[.pointer (some (c.add 0))] w fun e0 w0 => ∃ s0 : ByteArray, e0 = (.returned (.string s0)) /\
   ∃ J0 : Int -> World -> Prop, (∀ i0 : Int, ∀ w1 : World, J0 i0 w1 -> ∃ J1 : Int -> World -> Prop, (∀ i1 : Int, ∀ w2 : World, J1 i1 w2 -> ((i1 == 0) = true -> R (.int .i64 4) w2) /\
     ((i1 == 0) = false -> ∃ k0 : Nat, (i1 = (k0 : Int) /\
      k0 <= s0.size) /\
     Calls Tryz.prog 71 #[.string (s0.extract 0 k0)] w2 fun e1 w3 => ∃ s1 : ByteArray, e1 = (.returned (.string s1)) /\
      Calls Tryz.prog 32 #[.pointer (some c), .agg #[.int .i64 4, .string s1, .int .i64 0, .int .i64 0], .int .i64 i1] w3 fun e2 w4 => e2 = (.returned (.tuple #[])) /\
       R (.int .i64 0) w4)) /\
    ∃ J2 : Bool -> World -> Prop, (∀ b0 : Bool, ∀ w5 : World, J2 b0 w5 -> (b0 = true -> J1 2 w5) /\
     (b0 = false -> J1 i0 w5)) /\
    ((decide ((s0.size : Int) > 1)) = true -> ∃ c0 : UInt8, ((0 : Int) <= 1 /\
      s0[1]? = (some c0)) /\
     (((UInt8.toNat c0 : Int) == 61) = true -> ∃ c1 : UInt8, ((0 : Int) <= 0 /\
       s0[0]? = (some c1)) /\
      ∀ w6 : World, Only [] w1 w6 -> ∃ l0 : Sl, ∃ w7 : World, ((Instr.buildSlice 114 4 #[.mk 0 (.int .u8 60), .mk 1 (.int .u8 62), .mk 2 (.int .u8 61), .mk 3 (.int .u8 33)]).run Tryz.prog w6) = (.ok l0.v w7) /\
      Calls Tryz.prog 45 #[.int .u8 (UInt8.toNat c1 : Int), l0.v] w7 fun e3 w8 => ∃ b1 : Bool, e3 = (.returned (.bool b1)) /\
       (b1 = true -> J2 true w8) /\
       (b1 = false -> ∃ c2 : UInt8, ((0 : Int) <= 1 /\
        s0[1]? = (some c2)) /\
       ∃ c3 : UInt8, ((0 : Int) <= 0 /\
        s0[0]? = (some c3)) /\
       (((UInt8.toNat c2 : Int) == (UInt8.toNat c3 : Int)) = true -> ∃ c4 : UInt8, ((0 : Int) <= 0 /\
         s0[0]? = (some c4)) /\
        ∃ l1 : Sl, ∃ w9 : World, ((Instr.buildSlice 114 2 #[.mk 0 (.int .u8 38), .mk 1 (.int .u8 124)]).run Tryz.prog w8) = (.ok l1.v w9) /\
        Calls Tryz.prog 45 #[.int .u8 (UInt8.toNat c4 : Int), l1.v] w9 fun e4 w10 => ∃ b2 : Bool, e4 = (.returned (.bool b2)) /\
         (b2 = true -> J2 true w10) /\
         (b2 = false -> 2 <= s0.size /\
         J2 (((s0.extract 0 2).toList) == ((ByteArray.mk #[45, 62]).toList)) w10)) /\
       (((UInt8.toNat c2 : Int) == (UInt8.toNat c3 : Int)) = false -> 2 <= s0.size /\
       J2 (((s0.extract 0 2).toList) == ((ByteArray.mk #[45, 62]).toList)) w8))) /\
     (((UInt8.toNat c0 : Int) == 61) = false -> ∃ c5 : UInt8, ((0 : Int) <= 1 /\
      s0[1]? = (some c5)) /\
     ∃ c6 : UInt8, ((0 : Int) <= 0 /\
      s0[0]? = (some c6)) /\
     (((UInt8.toNat c5 : Int) == (UInt8.toNat c6 : Int)) = true -> ∃ c7 : UInt8, ((0 : Int) <= 0 /\
       s0[0]? = (some c7)) /\
      ∀ w11 : World, Only [] w1 w11 -> ∃ l2 : Sl, ∃ w12 : World, ((Instr.buildSlice 114 2 #[.mk 0 (.int .u8 38), .mk 1 (.int .u8 124)]).run Tryz.prog w11) = (.ok l2.v w12) /\
      Calls Tryz.prog 45 #[.int .u8 (UInt8.toNat c7 : Int), l2.v] w12 fun e5 w13 => ∃ b3 : Bool, e5 = (.returned (.bool b3)) /\
       (b3 = true -> J2 true w13) /\
       (b3 = false -> 2 <= s0.size /\
       J2 (((s0.extract 0 2).toList) == ((ByteArray.mk #[45, 62]).toList)) w13)) /\
     (((UInt8.toNat c5 : Int) == (UInt8.toNat c6 : Int)) = false -> 2 <= s0.size /\
     ∀ w14 : World, Only [] w1 w14 -> J2 (((s0.extract 0 2).toList) == ((ByteArray.mk #[45, 62]).toList)) w14))) /\
    ((decide ((s0.size : Int) > 1)) = false -> ∀ w15 : World, Only [] w1 w15 -> J2 false w15)) /\
   ∃ c8 : UInt8, ((0 : Int) <= 0 /\
    s0[0]? = (some c8)) /\
   ∃ l3 : Sl, ∃ w16 : World, ((Instr.buildSlice 114 17 #[.mk 0 (.int .u8 123), .mk 1 (.int .u8 125), .mk 2 (.int .u8 40), .mk 3 (.int .u8 41), .mk 4 (.int .u8 91), .mk 5 (.int .u8 93), .mk 6 (.int .u8 59), .mk 7 (.int .u8 44), .mk 8 (.int .u8 61), .mk 9 (.int .u8 43), .mk 10 (.int .u8 45), .mk 11 (.int .u8 42), .mk 12 (.int .u8 47), .mk 13 (.int .u8 37), .mk 14 (.int .u8 60), .mk 15 (.int .u8 62), .mk 16 (.int .u8 33)]).run Tryz.prog w0) = (.ok l3.v w16) /\
   ∃ l4 : Sl, ∃ w17 : World, ((convert 114 114 l3.v).run Tryz.prog w16) = (.ok l4.v w17) /\
   Calls Tryz.prog 45 #[.int .u8 (UInt8.toNat c8 : Int), l4.v] w17 fun e6 w18 => ∃ b4 : Bool, e6 = (.returned (.bool b4)) /\
    (b4 = true -> J0 1 w18) /\
    (b4 = false -> J0 0 w18)
theorem v43w (c : Addr) (R : Value -> World -> Prop) (w : World) (h : v43v c R w) : Cr 53 #[.pointer (some c)] w R :=
 fB (an := .s .o (.s .o (.s .o (.j [0, 3] [.s 4 (.int .i64)] (.s .o (.s .o .o)) (.j [0, 3] [.s 4 (.int .i64)] (.s (.j [0, 3, 4] [.s 45 .bool] .o .o) (.s .o .o)) (.s (.s .o (.s (.s .o .o) .o)) (.s .o (.s .o .o)))))))) (args := [.ad c]) h
def v27v (r : Addr) (R : Value -> World -> Prop) (w : World) : Prop :=
  ∀ k0 k1 : Nat, ∀ w0 : World, w.heap.size <= k0 -> k0 < w0.heap.size -> w.heap.size <= k1 -> k1 < w0.heap.size -> Only [] w w0 -> Calls Tryz.prog 73 #[.pointer (some (r.add 0))] w0 fun e0 w1 => ∃ i0 : Int, ∃ s0 : ByteArray, ∃ i1 i2 : Int, e0 = (.returned (.agg #[.int .i64 i0, .string s0, .int .i64 i1, .int .i64 i2])) /\
   Same [k0, k1] w0 w1 /\
   ∀ k2 k3 : Nat, ∀ w2 : World, w1.heap.size <= k2 -> k2 < w2.heap.size -> w1.heap.size <= k3 -> k3 < w2.heap.size -> Only [] w1 w2 -> ∃ J0 : Option Addr -> Int -> Int -> ByteArray -> Int -> Sl -> Int -> Int -> Int -> ByteArray -> Int -> Sl -> Int -> World -> Prop, (∀ q0 : Option Addr, ∀ i3 i4 : Int, ∀ s1 : ByteArray, ∀ i5 : Int, ∀ l0 : Sl, ∀ i6 i7 i8 : Int, ∀ s2 : ByteArray, ∀ i9 : Int, ∀ l1 : Sl, ∀ i10 : Int, ∀ w3 : World, J0 q0 i3 i4 s1 i5 l0 i6 i7 i8 s2 i9 l1 i10 w3 -> ∃ p0 : Addr, q0 = (some p0) /\
    ∃ i11 : Int, Cells w3 ((p0.add 0).add 1) [.int .i64 i11] /\
    ∃ p1 : Addr, q0 = (some p1) /\
    ∃ k4 k5 : Nat, ∃ z0 : List Value, ∃ k6 : Nat, ((p1.add 0).add 1) = ⟨k4, k5, none⟩ /\
    Blk w3 k4 k6 z0 /\
    (k5 + 1) <= z0.length /\
    k0 ≠ k4 /\
    k1 ≠ k4 /\
    k2 ≠ k4 /\
    k3 ≠ k4 /\
    ∀ w4 : World, Only [k4] w3 w4 -> Blk w4 k4 k6 (splice z0 k5 [.int .i64 (IntKind.wrap .i64 (i11 + 1))]) -> ∀ w5 : World, Only [k1] w4 w5 -> R (.agg #[.int .i64 i7, .int .i64 i8, .string s2, .int .i64 i9, l1.v, .int .i64 i10]) w5) /\
   Calls Tryz.prog 37 #[.pointer (some (r.add 0))] w2 fun e1 w6 => ∃ b0 : Bool, e1 = (.returned (.bool b0)) /\
    Same [k0, k1, k2, k3] w2 w6 /\
    (b0 = true -> ∀ w7 : World, Only [k1] w6 w7 -> R (.agg #[.int .i64 0, .int .i64 0, .string (ByteArray.mk #[]), .int .i64 0, Sl.nil.v, .int .i64 i2]) w7) /\
    (b0 = false -> ∃ l2 : Sl, ∃ w8 : World, ((Instr.buildSlice 26 2 #[.mk 0 (.string (ByteArray.mk #[45])), .mk 1 (.string (ByteArray.mk #[33]))]).run Tryz.prog w6) = (.ok l2.v w8) /\
    Same [k0, k1, k2, k3] w6 w8 /\
    Calls Tryz.prog 74 #[.pointer (some (r.add 0)), l2.v] w8 fun e2 w9 => ∃ b1 : Bool, e2 = (.returned (.bool b1)) /\
     Same [k0, k1, k2, k3] w8 w9 /\
     (b1 = true -> ∀ w10 : World, Only [k3] w9 w10 -> ∃ J1 : Int -> Int -> ByteArray -> Int -> Sl -> Int -> World -> Prop, (∀ i12 i13 : Int, ∀ s3 : ByteArray, ∀ i14 : Int, ∀ l3 : Sl, ∀ i15 : Int, ∀ w11 : World, J1 i12 i13 s3 i14 l3 i15 w11 -> Calls Tryz.prog 75 #[.pointer (some r), .func (.func 54) #[.pointer (some r)] #[]] w11 fun e3 w12 => ∃ i16 i17 : Int, ∃ s4 : ByteArray, ∃ i18 : Int, ∃ l4 : Sl, ∃ i19 : Int, e3 = (.returned (.agg #[.int .i64 i16, .int .i64 i17, .string s4, .int .i64 i18, l4.v, .int .i64 i19])) /\
        Same [k0, k1, k2, k3] w11 w12 /\
        ∃ l5 : Sl, ∃ w13 : World, ((Instr.buildSlice 22 1 #[.mk 0 (.agg #[.int .i64 i16, .int .i64 i17, .string s4, .int .i64 i18, l4.v, .int .i64 i19])]).run Tryz.prog w12) = (.ok l5.v w13) /\
        Same [k0, k1, k2, k3] w12 w13 /\
        ∀ w14 : World, Only [k1, k3] w13 w14 -> R (.agg #[.int .i64 i12, .int .i64 i13, .string s3, .int .i64 i14, l5.v, .int .i64 i15]) w14) /\
      ((s0.toList == ((ByteArray.mk #[33]).toList)) = true -> ∀ w15 : World, Only [k3] w10 w15 -> J1 4 0 (ByteArray.mk #[]) 15 Sl.nil i2 w15) /\
      ((s0.toList == ((ByteArray.mk #[33]).toList)) = false -> J1 4 0 (ByteArray.mk #[]) 14 Sl.nil i2 w10)) /\
     (b1 = false -> ∃ l6 : Sl, ∃ w16 : World, ((Instr.buildSlice 26 1 #[.mk 0 (.string (ByteArray.mk #[40]))]).run Tryz.prog w9) = (.ok l6.v w16) /\
     Same [k0, k1, k2, k3] w9 w16 /\
     Calls Tryz.prog 74 #[.pointer (some (r.add 0)), l6.v] w16 fun e4 w17 => ∃ b2 : Bool, e4 = (.returned (.bool b2)) /\
      Same [k0, k1, k2, k3] w16 w17 /\
      (b2 = true -> Blk w17 k0 80 [.pointer (some r)] -> k1 ≠ k0 -> k2 ≠ k0 -> k3 ≠ k0 -> Calls Tryz.prog 75 #[.pointer (some r), .func (.func 76) #[] #[.pointer (some ⟨k0, 0, none⟩)]] w17 fun e5 w18 => ∃ i20 i21 : Int, ∃ s5 : ByteArray, ∃ i22 : Int, ∃ l7 : Sl, ∃ i23 : Int, e5 = (.returned (.agg #[.int .i64 i20, .int .i64 i21, .string s5, .int .i64 i22, l7.v, .int .i64 i23])) /\
        Same [k1, k2, k3] w17 w18 /\
        ∃ q1 : Option Addr, Blk w18 k0 80 [.pointer q1] /\
        ∀ w19 : World, Only [k1] w18 w19 -> Blk w19 k0 80 [.pointer q1] -> R (.agg #[.int .i64 i20, .int .i64 i21, .string s5, .int .i64 i22, l7.v, .int .i64 i23]) w19) /\
      (b2 = false -> ((i0 == 3) = true -> ∀ w20 : World, Only [] w17 w20 -> k0 ≠ k1 -> k0 ≠ k2 -> k0 ≠ k3 -> k1 ≠ k2 -> k1 ≠ k3 -> k2 ≠ k3 -> ∃ J2 : Nat -> Prop, J2 k2 /\
       Out J2 k3 /\
       Out J2 k3 /\
       ∀ w21 : World, Only [k3] w20 w21 -> J0 (some r) 0 0 (ByteArray.mk #[]) 0 Sl.nil 0 1 i1 (ByteArray.mk #[]) 0 Sl.nil i2 w21) /\
      ((i0 == 3) = false -> ((i0 == 1) = true -> ∀ w22 : World, Only [] w17 w22 -> k0 ≠ k1 -> k0 ≠ k2 -> k0 ≠ k3 -> k1 ≠ k2 -> k1 ≠ k3 -> k2 ≠ k3 -> ∃ J3 : Nat -> Prop, J3 k2 /\
       Out J3 k3 /\
       Out J3 k3 /\
       ∀ w23 : World, Only [k3] w22 w23 -> J0 (some r) 0 0 (ByteArray.mk #[]) 0 Sl.nil 0 2 0 s0 0 Sl.nil i2 w23) /\
      ((i0 == 1) = false -> (((i0 == 2) && (s0.toList == ((ByteArray.mk #[105, 110]).toList))) = true -> ∃ i24 : Int, Cells w17 ((r.add 0).add 1) [.int .i64 i24] /\
       ∃ k7 k8 : Nat, ∃ z1 : List Value, ∃ k9 : Nat, ((r.add 0).add 1) = ⟨k7, k8, none⟩ /\
       Blk w17 k7 k9 z1 /\
       (k8 + 1) <= z1.length /\
       k0 ≠ k7 /\
       k1 ≠ k7 /\
       k2 ≠ k7 /\
       k3 ≠ k7 /\
       ∀ w24 : World, Only [k7] w17 w24 -> Blk w24 k7 k9 (splice z1 k8 [.int .i64 (IntKind.wrap .i64 (i24 + 1))]) -> Calls Tryz.prog 77 #[.pointer (some (r.add 0)), .string (ByteArray.mk #[40])] w24 fun e6 w25 => e6 = (.returned (.tuple #[])) /\
        Same [k0, k1, k2, k3] w24 w25 /\
        Calls Tryz.prog 78 #[.pointer (some r)] w25 fun e7 w26 => ∃ s6 : ByteArray, e7 = (.returned (.string s6)) /\
         Same [k0, k1, k2, k3] w25 w26 /\
         ∀ w27 : World, Only [k3] w26 w27 -> Calls Tryz.prog 77 #[.pointer (some (r.add 0)), .string (ByteArray.mk #[41])] w27 fun e8 w28 => e8 = (.returned (.tuple #[])) /\
          Same [k0, k1, k2, k3] w27 w28 /\
          ∀ w29 : World, Only [k1] w28 w29 -> R (.agg #[.int .i64 3, .int .i64 0, .string s6, .int .i64 0, Sl.nil.v, .int .i64 i2]) w29) /\
      (((i0 == 2) && (s0.toList == ((ByteArray.mk #[105, 110]).toList))) = false -> Calls Tryz.prog 79 #[.pointer (some (r.add 0))] w17 fun e9 w30 => e9 = (.returned (.tuple #[])) /\
       Same [k0, k1, k2, k3] w17 w30 /\
       ∀ w31 : World, Only [k1] w30 w31 -> R (.agg #[.int .i64 0, .int .i64 0, .string (ByteArray.mk #[]), .int .i64 0, Sl.nil.v, .int .i64 i2]) w31))))))
theorem v27w (r : Addr) (R : Value -> World -> Prop) (w : World) (h : v27v r R w) : Cr 54 #[.pointer (some r)] w R :=
 fB (an := .s .o (.s .o (.s .o (.j [1, 2, 3, 4] [.b 1 [.ptr], .b 2 [.int .i64, .int .i64, .str, .int .i64, .sl, .int .i64], .b 4 [.int .i64, .int .i64, .str, .int .i64, .sl, .int .i64]] (.s .o (.s (.s .o .o) (.s .o (.s (.s .o (.j [1, 2, 3, 4] [.b 4 [.int .i64, .int .i64, .str, .int .i64, .sl, .int .i64]] (.s .o (.s .o .o)) (.s .o (.s .o .o)))) (.s .o (.s (.s .o .o) (.s .o (.s .o (.s .o (.s .o (.s .o (.s (.s .o (.s .o (.s .o (.s .o (.s .o .o))))) (.s .o (.s .o .o)))))))))))))) (.s .o (.s .o .o)))))) (args := [.ad r]) h
def v28v (r : Addr) (k : Int) (R : Value -> World -> Prop) (w : World) : Prop :=
  ∃ J0 : Nat -> Int -> World -> Prop, ∃ k0 : Nat, J0 k0 1 w /\
  ∀ k1 : Nat, ∀ i0 : Int, ∀ w0 : World, J0 k1 i0 w0 -> ((decide (i0 <= 13)) = true -> ∃ J1 : Bool -> World -> Prop, (∀ b0 : Bool, ∀ w1 : World, J1 b0 w1 -> (b0 = true -> R (.int .i64 i0) w1) /\
    (b0 = false -> ∃ k2 : Nat, k2 < k1 /\
    J0 k2 (IntKind.wrap .i64 (i0 + 1)) w1)) /\
   ∀ w2 : World, Only [] w0 w2 -> Calls Tryz.prog 80 #[.int .i64 i0] w2 fun e0 w3 => ∃ i1 : Int, e0 = (.returned (.int .i64 i1)) /\
    ((i1 == k) = true -> ∃ l0 : Sl, Cells w3 (r.add 5) [l0.v] /\
     ∃ p0 : Addr, SlAt l0 i0 1 p0 /\
     ∃ s0 : ByteArray, Cells w3 p0 [.string s0] /\
     ∃ l1 : Sl, ∃ w4 : World, ((Instr.buildSlice 26 1 #[.mk 0 (.string s0)]).run Tryz.prog w3) = (.ok l1.v w4) /\
     Calls Tryz.prog 74 #[.pointer (some (r.add 0)), l1.v] w4 fun e1 w5 => ∃ b1 : Bool, e1 = (.returned (.bool b1)) /\
      J1 b1 w5) /\
    ((i1 == k) = false -> J1 false w3)) /\
  ((decide (i0 <= 13)) = false -> R (.int .i64 0) w0)
theorem v28w (r : Addr) (k : Int) (R : Value -> World -> Prop) (w : World) (h : v28v r k R w) : Cr 55 #[.pointer (some r), .int .i64 k] w R :=
 fB (an := .s .o (.s (.s .o (.j [0, 1] [.s 5 (.int .i64)] (.s (.s .o (.s .o .o)) (.s (.s (.j [0, 1, 5] [.s 27 .bool] .o .o) (.s (.s .o .o) .o)) .o)) .o)) (.s .o .o))) (args := [.ad r, .int .i64 k]) h
def v49v (s : Sl) (v1 : Int) (R : Value -> World -> Prop) (w : World) : Prop :=
  Calls Tryz.prog 87 #[s.v, .int .u8 v1] w fun e0 w0 => ∃ i0 : Int, e0 = (.returned (.int .i64 i0)) /\
   R (.bool (decide (i0 >= 0))) w0
theorem v49w (s : Sl) (v1 : Int) (R : Value -> World -> Prop) (w : World) (h : v49v s v1 R w) : Cr 67 #[s.v, .int .u8 v1] w R :=
 fB (an := .s .o (.s .o .o)) (args := [.sl s, .int .u8 v1]) h
def v32v (s prefix_ : ByteArray) (R : Value -> World -> Prop) (w : World) : Prop :=
  ∃ k0 : Nat, ((decide ((s.size : Int) >= (prefix_.size : Int))) = true -> (prefix_.size : Int) = (k0 : Int) /\
   k0 <= s.size) /\
  R (.bool ((decide ((s.size : Int) >= (prefix_.size : Int))) && (((s.extract 0 k0).toList) == prefix_.toList))) w
theorem v32w (s prefix_ : ByteArray) (R : Value -> World -> Prop) (w : World) (h : v32v s prefix_ R w) : Cr 68 #[.string s, .string prefix_] w R :=
 fB (an := .s .o (.s .o .o)) (args := [.str s, .str prefix_]) h
def v31v (s sep : ByteArray) (R : Value -> World -> Prop) (w : World) : Prop :=
  Calls Tryz.prog 88 #[.string s, .string sep] w fun e0 w0 => ∃ i0 : Int, e0 = (.returned (.int .i64 i0)) /\
   ((decide (i0 >= 0)) = true -> ∃ k0 : Nat, (i0 = (k0 : Int) /\
     k0 <= s.size) /\
    ∃ k1 : Nat, ((IntKind.wrap .i64 (i0 + (sep.size : Int))) = (k1 : Int) /\
     k1 <= s.size) /\
    ∀ w1 : World, Only [] w0 w1 -> R (.tuple #[.string (s.extract 0 k0), .string (s.extract k1 s.size), .bool true]) w1) /\
   ((decide (i0 >= 0)) = false -> R (.tuple #[.string s, .string (ByteArray.mk #[]), .bool false]) w0)
theorem v31w (s sep : ByteArray) (R : Value -> World -> Prop) (w : World) (h : v31v s sep R w) : Cr 69 #[.string s, .string sep] w R :=
 fB (an := .s .o (.s (.s .o (.s .o (.s (.s .o .o) .o))) (.s .o .o))) (args := [.str s, .str sep]) h
def v39v (c : Addr) (R : Value -> World -> Prop) (w : World) : Prop :=
  Calls Tryz.prog 47 #[.pointer (some c)] w fun e0 w0 => ∃ s0 : ByteArray, e0 = (.returned (.string s0)) /\
   ∃ J0 : Nat -> Int -> World -> Prop, ∃ k0 : Nat, J0 k0 0 w0 /\
   ∀ k1 : Nat, ∀ i0 : Int, ∀ w1 : World, J0 k1 i0 w1 -> ∃ J1 : Bool -> World -> Prop, (∀ b0 : Bool, ∀ w2 : World, J1 b0 w2 -> (b0 = true -> ∃ k2 : Nat, k2 < k1 /\
     J0 k2 (IntKind.wrap .i64 (i0 + 1)) w2) /\
    (b0 = false -> ∃ k3 : Nat, (i0 = (k3 : Int) /\
     k3 <= s0.size) /\
    R (.string (s0.extract 0 k3)) w2)) /\
   ((decide (i0 < (s0.size : Int))) = true -> ∃ c0 : UInt8, (0 <= i0 /\
     (s0[Int.toNat i0]?) = (some c0)) /\
    Calls Tryz.prog 49 #[.int .u8 (UInt8.toNat c0 : Int)] w1 fun e1 w3 => ∃ b1 : Bool, e1 = (.returned (.bool b1)) /\
     (b1 = true -> J1 true w3) /\
     (b1 = false -> ∃ c1 : UInt8, (0 <= i0 /\
      (s0[Int.toNat i0]?) = (some c1)) /\
     Calls Tryz.prog 51 #[.int .u8 (UInt8.toNat c1 : Int)] w3 fun e2 w4 => ∃ b2 : Bool, e2 = (.returned (.bool b2)) /\
      J1 b2 w4)) /\
   ((decide (i0 < (s0.size : Int))) = false -> J1 false w1)
theorem v39w (c : Addr) (R : Value -> World -> Prop) (w : World) (h : v39v c R w) : Cr 70 #[.pointer (some c)] w R :=
 fB (an := .s .o (.s .o (.s .o (.s (.j [3] [.s 4 (.int .i64)] (.s (.s (.j [3, 4] [.s 22 .bool] .o .o) (.s .o .o)) .o) .o) (.s .o .o))))) (args := [.ad c]) h
def v54v (s : ByteArray) (R : Value -> World -> Prop) (w : World) : Prop :=
  Calls Tryz.prog 89 #[.string s] w fun e0 w0 => ∃ s0 : ByteArray, e0 = (.returned (.string s0)) /\
   R (.string s0) w0
theorem v54w (s : ByteArray) (R : Value -> World -> Prop) (w : World) (h : v54v s R w) : Cr 71 #[.string s] w R :=
 fB (an := .s .o (.s .o .o)) (args := [.str s]) h
def v2v (s : ByteArray) (R : Value -> World -> Prop) (w : World) : Prop :=
  ∃ J0 : Nat -> Int -> World -> Prop, ∃ k0 : Nat, J0 k0 0 w /\
  ∀ k1 : Nat, ∀ i0 : Int, ∀ w0 : World, J0 k1 i0 w0 -> ∃ J1 : Bool -> World -> Prop, (∀ b0 : Bool, ∀ w1 : World, J1 b0 w1 -> (b0 = true -> ∃ k2 : Nat, k2 < k1 /\
    J0 k2 (IntKind.wrap .i64 (i0 + 1)) w1) /\
   (b0 = false -> ((s.toList == ((ByteArray.mk #[]).toList)) = true -> R (.tuple #[.int .i64 0, .int .i64 0, .int .i64 3]) w1) /\
   ((s.toList == ((ByteArray.mk #[]).toList)) = false -> ∃ J2 : Bool -> World -> Prop, (∀ b1 : Bool, ∀ w2 : World, J2 b1 w2 -> (b1 = true -> R (.tuple #[.int .i64 0, .int .i64 0, .int .i64 4]) w2) /\
    (b1 = false -> ∃ k3 : Nat, (i0 = (k3 : Int) /\
     k3 <= s.size) /\
    Calls Tryz.prog 91 #[.string (s.extract 0 k3), .int .i64 10, .int .i64 64] w2 fun e0 w3 => ∃ i1 : Int, ∃ v0 : OV, e0 = (.returned (.tuple #[.int .i64 i1, v0.v])) /\
     Ifc v0.v /\
     ((!(niV v0.v)) = true -> R (.tuple #[.int .i64 0, .int .i64 0, .int .i64 20]) w3) /\
     ((!(niV v0.v)) = false -> R (.tuple #[.int .i64 i1, .int .i64 i0, .int .i64 0]) w3))) /\
   ((i0 == 0) = true -> J2 (i0 == 0) w1) /\
   ((i0 == 0) = false -> ∃ c0 : UInt8, ((decide (i0 > 1)) = true -> (0 : Int) <= 0 /\
    s[0]? = (some c0)) /\
   J2 ((decide (i0 > 1)) && ((UInt8.toNat c0 : Int) == 48)) w1)))) /\
  ((decide (i0 < (s.size : Int))) = true -> ∃ c1 : UInt8, (0 <= i0 /\
    (s[Int.toNat i0]?) = (some c1)) /\
   Calls Tryz.prog 90 #[.int .u8 (UInt8.toNat c1 : Int)] w0 fun e1 w4 => ∃ b2 : Bool, e1 = (.returned (.bool b2)) /\
    J1 b2 w4) /\
  ((decide (i0 < (s.size : Int))) = false -> J1 false w0)
theorem v2w (s : ByteArray) (R : Value -> World -> Prop) (w : World) (h : v2v s R w) : Cr 72 #[.string s] w R :=
 fB (an := .s .o (.s .o (.s (.j [0] [.s 5 (.int .i64)] (.s (.s (.j [0, 5] [.s 17 .bool] .o .o) (.s .o .o)) .o) .o) (.s (.s .o (.s (.s .o .o) (.j [0, 5] [.s 23 .bool] (.s .o (.s .o .o)) (.s (.s .o .o) .o)))) (.s .o (.s (.s .o (.s (.s .o .o) .o)) (.s .o .o))))))) (args := [.str s]) h
def v20v (c : Addr) (R : Value -> World -> Prop) (w : World) : Prop :=
 ∀ k0 : Nat, ∀ w0 : World, w.heap.size <= k0 -> k0 < w0.heap.size -> Only [] w w0 -> ∃ l0 : Sl, Cells w0 (c.add 0) [l0.v] /\
 ∃ i0 : Int, Cells w0 (c.add 1) [.int .i64 i0] /\
 ∃ p0 : Addr, SlAt l0 i0 4 p0 /\
 ∃ i1 : Int, ∃ s0 : ByteArray, ∃ i2 i3 : Int, Cells w0 p0 [.int .i64 i1, .string s0, .int .i64 i2, .int .i64 i3] /\
 ∀ w1 : World, Only [k0] w0 w1 -> R (.agg #[.int .i64 i1, .string s0, .int .i64 i2, .int .i64 i3]) w1
theorem v20w (c : Addr) (R : Value -> World -> Prop) (w : World) (h : v20v c R w) : Cr 73 #[.pointer (some c)] w R :=
 fB (an := .s .o (.s .o .o)) (args := [.ad c]) h
def v18v (c : Addr) (signs : Sl) (R : Value -> World -> Prop) (w : World) : Prop :=
  Calls Tryz.prog 73 #[.pointer (some c)] w fun e0 w0 => ∃ i0 : Int, ∃ s0 : ByteArray, ∃ i1 i2 : Int, e0 = (.returned (.agg #[.int .i64 i0, .string s0, .int .i64 i1, .int .i64 i2])) /\
   ∀ k0 : Nat, ∀ w1 : World, w0.heap.size <= k0 -> k0 < w1.heap.size -> Only [] w0 w1 -> ∃ J0 : Bool -> World -> Prop, (∀ b0 : Bool, ∀ w2 : World, J0 b0 w2 -> R (.bool b0) w2) /\
   Calls Tryz.prog 37 #[.pointer (some c)] w1 fun e1 w3 => ∃ b1 : Bool, e1 = (.returned (.bool b1)) /\
    Same [k0] w1 w3 /\
    (((!b1) && (i0 == 4)) = true -> Calls Tryz.prog 24 #[signs.v, .string s0] w3 fun e2 w4 => ∃ b2 : Bool, e2 = (.returned (.bool b2)) /\
      Same [k0] w3 w4 /\
      J0 b2 w4) /\
    (((!b1) && (i0 == 4)) = false -> J0 false w3)
theorem v18w (c : Addr) (signs : Sl) (R : Value -> World -> Prop) (w : World) (h : v18v c signs R w) : Cr 74 #[.pointer (some c), signs.v] w R :=
 fB (an := .s .o (.s .o (.s (.j [5] [.s 4 .bool] .o .o) .o))) (args := [.ad c, .sl signs]) h
def v29v (r : Addr) (read : OV) (R : Value -> World -> Prop) (w : World) : Prop :=
  ∀ k0 : Nat, ∀ w0 : World, w.heap.size <= k0 -> k0 < w0.heap.size -> Only [] w w0 -> ∃ i0 : Int, Cells w0 (r.add 4) [.int .i64 i0] /\
  ((i0 == 20) = true -> Calls Tryz.prog 92 #[.pointer (some (r.add 0)), .int .i64 21] w0 fun e0 w1 => e0 = (.returned (.tuple #[])) /\
    Same [k0] w0 w1 /\
    ∀ w2 : World, Only [k0] w1 w2 -> R (.agg #[.int .i64 0, .int .i64 0, .string (ByteArray.mk #[]), .int .i64 0, Sl.nil.v, .int .i64 0]) w2) /\
  ((i0 == 20) = false -> ∃ i1 : Int, Cells w0 ((r.add 0).add 1) [.int .i64 i1] /\
  ∃ k1 k2 : Nat, ∃ z0 : List Value, ∃ k3 : Nat, ((r.add 0).add 1) = ⟨k1, k2, none⟩ /\
  Blk w0 k1 k3 z0 /\
  (k2 + 1) <= z0.length /\
  k0 ≠ k1 /\
  ∀ w3 : World, Only [k1] w0 w3 -> Blk w3 k1 k3 (splice z0 k2 [.int .i64 (IntKind.wrap .i64 (i1 + 1))]) -> ∃ i2 : Int, Cells w3 (r.add 4) [.int .i64 i2] /\
  ∃ k4 k5 : Nat, ∃ z1 : List Value, ∃ k6 : Nat, (r.add 4) = ⟨k4, k5, none⟩ /\
  Blk w3 k4 k6 z1 /\
  (k5 + 1) <= z1.length /\
  k0 ≠ k4 /\
  ∀ w4 : World, Only [k4] w3 w4 -> Blk w4 k4 k6 (splice z1 k5 [.int .i64 (IntKind.wrap .i64 (i2 + 1))]) -> ∃ k7 : Nat, ∃ z2 : List Value, ∃ z3 : List Value, read.v = (.func (.func k7) z2.toArray z3.toArray) /\
  (∀ x0 : Array Value, ∀ w5 : World, ((callFunc k7 x0).run Tryz.prog w5) = (.ok (.enter k7 x0) w5)) /\
  Calls Tryz.prog k7 ((cat (cat z2 []) z3).toArray) w4 fun e1 w6 => ∃ i3 i4 : Int, ∃ s0 : ByteArray, ∃ i5 : Int, ∃ l0 : Sl, ∃ i6 : Int, e1 = (.returned (.agg #[.int .i64 i3, .int .i64 i4, .string s0, .int .i64 i5, l0.v, .int .i64 i6])) /\
   Same [k0] w4 w6 /\
   ∀ k8 : Nat, ∀ w7 : World, w6.heap.size <= k8 -> k8 < w7.heap.size -> Only [] w6 w7 -> ∃ i7 : Int, Cells w7 (r.add 4) [.int .i64 i7] /\
   ∃ k9 k10 : Nat, ∃ z4 : List Value, ∃ k11 : Nat, (r.add 4) = ⟨k9, k10, none⟩ /\
   Blk w7 k9 k11 z4 /\
   (k10 + 1) <= z4.length /\
   k0 ≠ k9 /\
   k8 ≠ k9 /\
   ∀ w8 : World, Only [k9] w7 w8 -> Blk w8 k9 k11 (splice z4 k10 [.int .i64 (IntKind.wrap .i64 (i7 - 1))]) -> ∀ w9 : World, Only [k0] w8 w9 -> R (.agg #[.int .i64 i3, .int .i64 i4, .string s0, .int .i64 i5, l0.v, .int .i64 i6]) w9)
theorem v29w (r : Addr) (read : OV) (R : Value -> World -> Prop) (w : World) (h : v29v r read R w) : Cr 75 #[.pointer (some r), read.v] w R :=
 fB (an := .s .o (.s (.s .o (.s (.s .o (.s .o .o)) .o)) (.s .o (.s .o (.s .o (.s .o (.s .o .o))))))) (args := [.ad r, .raw read]) h
def v26v (ccap0 : Addr) (R : Value -> World -> Prop) (w : World) : Prop :=
  ∀ k0 : Nat, ∀ w0 : World, w.heap.size <= k0 -> k0 < w0.heap.size -> Only [] w w0 -> ∃ q0 : Option Addr, Cells w0 ccap0 [.pointer q0] /\
  Calls Tryz.prog 36 #[.pointer q0, .int .i64 0] w0 fun e0 w1 => ∃ i0 i1 : Int, ∃ s0 : ByteArray, ∃ i2 : Int, ∃ l0 : Sl, ∃ i3 : Int, e0 = (.returned (.agg #[.int .i64 i0, .int .i64 i1, .string s0, .int .i64 i2, l0.v, .int .i64 i3])) /\
   Same [k0] w0 w1 /\
   ∀ k1 : Nat, ∀ w2 : World, w1.heap.size <= k1 -> k1 < w2.heap.size -> Only [] w1 w2 -> ∃ q1 : Option Addr, Cells w2 ccap0 [.pointer q1] /\
   ∃ p0 : Addr, q1 = (some p0) /\
   Calls Tryz.prog 77 #[.pointer (some (p0.add 0)), .string (ByteArray.mk #[41])] w2 fun e1 w3 => e1 = (.returned (.tuple #[])) /\
    Same [k0, k1] w2 w3 /\
    ∀ w4 : World, Only [k0] w3 w4 -> R (.agg #[.int .i64 i0, .int .i64 i1, .string s0, .int .i64 i2, l0.v, .int .i64 i3]) w4
theorem v26w (ccap0 : Addr) (R : Value -> World -> Prop) (w : World) (h : v26v ccap0 R w) : Cr 76 #[.pointer (some ccap0)] w R :=
 fB (an := .s .o (.s .o (.s .o (.s .o .o)))) (args := [.ad ccap0]) h
def v19v (c : Addr) (sign : ByteArray) (R : Value -> World -> Prop) (w : World) : Prop :=
  ∃ l0 : Sl, ∃ w0 : World, ((Instr.buildSlice 26 1 #[.mk 0 (.string sign)]).run Tryz.prog w) = (.ok l0.v w0) /\
  Calls Tryz.prog 74 #[.pointer (some c), l0.v] w0 fun e0 w1 => ∃ b0 : Bool, e0 = (.returned (.bool b0)) /\
   ((!b0) = true -> Calls Tryz.prog 79 #[.pointer (some c)] w1 fun e1 w2 => e1 = (.returned (.tuple #[])) /\
     R (.tuple #[]) w2) /\
   ((!b0) = false -> ∃ i0 : Int, Cells w1 (c.add 1) [.int .i64 i0] /\
   ∃ k0 k1 : Nat, ∃ z0 : List Value, ∃ k2 : Nat, (c.add 1) = ⟨k0, k1, none⟩ /\
   Blk w1 k0 k2 z0 /\
   (k1 + 1) <= z0.length /\
   ∀ w3 : World, Only [k0] w1 w3 -> Blk w3 k0 k2 (splice z0 k1 [.int .i64 (IntKind.wrap .i64 (i0 + 1))]) -> R (.tuple #[]) w3)
theorem v19w (c : Addr) (sign : ByteArray) (R : Value -> World -> Prop) (w : World) (h : v19v c sign R w) : Cr 77 #[.pointer (some c), .string sign] w R :=
 fB (an := .s (.s .o (.s (.s .o .o) .o)) .o) (args := [.ad c, .str sign]) h
def v25v (r : Addr) (R : Value -> World -> Prop) (w : World) : Prop :=
  Calls Tryz.prog 73 #[.pointer (some (r.add 0))] w fun e0 w0 => ∃ i0 : Int, ∃ s0 : ByteArray, ∃ i1 i2 : Int, e0 = (.returned (.agg #[.int .i64 i0, .string s0, .int .i64 i1, .int .i64 i2])) /\
   ∀ k0 : Nat, ∀ w1 : World, w0.heap.size <= k0 -> k0 < w1.heap.size -> Only [] w0 w1 -> Calls Tryz.prog 37 #[.pointer (some (r.add 0))] w1 fun e1 w2 => ∃ b0 : Bool, e1 = (.returned (.bool b0)) /\
    Same [k0] w1 w2 /\
    ((b0 || (i0 != 1)) = true -> Calls Tryz.prog 79 #[.pointer (some (r.add 0))] w2 fun e2 w3 => e2 = (.returned (.tuple #[])) /\
      Same [k0] w2 w3 /\
      R (.string (ByteArray.mk #[])) w3) /\
    ((b0 || (i0 != 1)) = false -> ∃ i3 : Int, Cells w2 ((r.add 0).add 1) [.int .i64 i3] /\
    ∃ k1 k2 : Nat, ∃ z0 : List Value, ∃ k3 : Nat, ((r.add 0).add 1) = ⟨k1, k2, none⟩ /\
    Blk w2 k1 k3 z0 /\
    (k2 + 1) <= z0.length /\
    k0 ≠ k1 /\
    ∀ w4 : World, Only [k1] w2 w4 -> Blk w4 k1 k3 (splice z0 k2 [.int .i64 (IntKind.wrap .i64 (i3 + 1))]) -> R (.string s0) w4)
theorem v25w (r : Addr) (R : Value -> World -> Prop) (w : World) (h : v25v r R w) : Cr 78 #[.pointer (some r)] w R :=
 fB (an := .s .o (.s .o (.s (.s .o (.s (.s .o (.s .o .o)) .o)) (.s .o (.s .o .o))))) (args := [.ad r]) h
def v22v (c : Addr) (R : Value -> World -> Prop) (w : World) : Prop :=
  ∃ J0 : World -> Prop, (∀ w0 : World, J0 w0 -> Calls Tryz.prog 92 #[.pointer (some c), .int .i64 4] w0 fun e0 w1 => e0 = (.returned (.tuple #[])) /\
    R (.tuple #[]) w1) /\
  Calls Tryz.prog 73 #[.pointer (some c)] w fun e1 w2 => ∃ i0 : Int, ∃ s0 : ByteArray, ∃ i1 i2 : Int, e1 = (.returned (.agg #[.int .i64 i0, .string s0, .int .i64 i1, .int .i64 i2])) /\
   ((i0 == 5) = true -> Calls Tryz.prog 92 #[.pointer (some c), .int .i64 3] w2 fun e2 w3 => e2 = (.returned (.tuple #[])) /\
     J0 w3) /\
   ((i0 == 5) = false -> J0 w2)
theorem v22w (c : Addr) (R : Value -> World -> Prop) (w : World) (h : v22v c R w) : Cr 79 #[.pointer (some c)] w R :=
 fB (an := .j [0] [] (.s .o (.s .o .o)) .o) (args := [.ad c]) h
def v30v (op : Int) (R : Value -> World -> Prop) (w : World) : Prop :=
  (((decide (op >= 3)) && (decide (op <= 5))) = true -> R (.int .i64 5) w) /\
  (((decide (op >= 3)) && (decide (op <= 5))) = false -> ∃ J0 : Bool -> World -> Prop, (∀ b0 : Bool, ∀ w0 : World, J0 b0 w0 -> (b0 = true -> R (.int .i64 4) w0) /\
   (b0 = false -> (((decide (op >= 6)) && (decide (op <= 9))) = true -> R (.int .i64 3) w0) /\
   (((decide (op >= 6)) && (decide (op <= 9))) = false -> ∃ J1 : Bool -> World -> Prop, (∀ b1 : Bool, ∀ w1 : World, J1 b1 w1 -> (b1 = true -> R (.int .i64 2) w1) /\
    (b1 = false -> ((op == 12) = true -> R (.int .i64 1) w1) /\
    ((op == 12) = false -> ((op == 13) = true -> R (.int .i64 0) w1) /\
    ((op == 13) = false -> R (.int .i64 6) w1)))) /\
   ((op == 10) = true -> J1 (op == 10) w0) /\
   ((op == 10) = false -> J1 (op == 11) w0)))) /\
  ((op == 1) = true -> J0 (op == 1) w) /\
  ((op == 1) = false -> J0 (op == 2) w))
theorem v30w (op : Int) (R : Value -> World -> Prop) (w : World) (h : v30v op R w) : Cr 80 #[.int .i64 op] w R :=
 fB (an := .s .o (.s (.s .o (.s (.s .o .o) (.j [0] [.s 10 .bool] (.s .o (.s .o .o)) (.s (.s .o .o) (.s .o (.s (.s .o .o) (.j [0] [.s 22 .bool] (.s .o (.s .o .o)) (.s (.s .o .o) (.s .o (.s (.s .o .o) (.s .o (.s (.s .o .o) .o)))))))))))) (.s .o .o))) (args := [.int .i64 op]) h
def v52v (s : Sl) (v1 : Int) (R : Value -> World -> Prop) (w : World) : Prop :=
  ∃ J0 : Nat -> Int -> World -> Prop, ∃ k0 : Nat, J0 k0 0 w /\
  ∀ k1 : Nat, ∀ i0 : Int, ∀ w0 : World, J0 k1 i0 w0 -> ((decide (i0 < (s.n : Int))) = true -> ∃ p0 : Addr, SlAt s i0 1 p0 /\
   ∃ i1 : Int, Cells w0 p0 [.int .u8 i1] /\
   ((v1 == i1) = true -> R (.int .i64 i0) w0) /\
   ((v1 == i1) = false -> ∃ k2 : Nat, k2 < k1 /\
   J0 k2 (IntKind.wrap .i64 (i0 + 1)) w0)) /\
  ((decide (i0 < (s.n : Int))) = false -> R (.int .i64 (-1)) w0)
theorem v52w (s : Sl) (v1 : Int) (R : Value -> World -> Prop) (w : World) (h : v52v s v1 R w) : Cr 87 #[s.v, .int .u8 v1] w R :=
 fB (an := .s .o (.s (.s .o (.j [0, 1, 7] [.s 8 (.int .i64)] (.s .o (.s (.s .o .o) (.s (.s .o (.s .o (.s (.s .o .o) .o))) .o))) .o)) (.s .o .o))) (args := [.sl s, .int .u8 v1]) h
def v3v (c : Int) (R : Value -> World -> Prop) (w : World) : Prop :=
 R (.bool (decide ((IntKind.wrap .u8 (c - 48)) < 10))) w
theorem v3w (c : Int) (R : Value -> World -> Prop) (w : World) (h : v3v c R w) : Cr 90 #[.int .u8 c] w R :=
 fB (an := .s .o (.s .o .o)) (args := [.int .u8 c]) h
def v21v (c : Addr) (err : Int) (R : Value -> World -> Prop) (w : World) : Prop :=
  Calls Tryz.prog 37 #[.pointer (some c)] w fun e0 w0 => ∃ b0 : Bool, e0 = (.returned (.bool b0)) /\
   ((!b0) = true -> Calls Tryz.prog 73 #[.pointer (some c)] w0 fun e1 w1 => ∃ i0 : Int, ∃ s0 : ByteArray, ∃ i1 i2 : Int, e1 = (.returned (.agg #[.int .i64 i0, .string s0, .int .i64 i1, .int .i64 i2])) /\
     ∃ k0 k1 : Nat, ∃ z0 : List Value, ∃ k2 : Nat, (c.add 2) = ⟨k0, k1, none⟩ /\
     Blk w1 k0 k2 z0 /\
     (k1 + 2) <= z0.length /\
     ∀ w2 : World, Only [k0] w1 w2 -> Blk w2 k0 k2 (splice z0 k1 [.int .i64 err, .int .i64 i2]) -> R (.tuple #[]) w2) /\
   ((!b0) = false -> R (.tuple #[]) w0)
theorem v21w (c : Addr) (err : Int) (R : Value -> World -> Prop) (w : World) (h : v21v c err R w) : Cr 92 #[.pointer (some c), .int .i64 err] w R :=
 fB (an := .s .o (.s .o .o)) (args := [.ad c, .int .i64 err]) h
def v8v (x x1 : Int) (x2 : ByteArray) (x3 : Int) (x4 : Sl) (x5 : Int) (R : Value -> World -> Prop) (w : World) : Prop :=
  ∀ k0 : Nat, ∀ w0 : World, w.heap.size <= k0 -> k0 < w0.heap.size -> Only [] w w0 -> ∃ m0 : Option Nat, ∃ w1 : World, ((Instr.makeMap 43 none).run Tryz.prog w0) = (.ok (.map m0) w1) /\
  Same [k0] w0 w1 /\
  ∃ m1 : Option Nat, ∃ w2 : World, ((Instr.makeMap 42 none).run Tryz.prog w1) = (.ok (.map m1) w2) /\
  Same [k0] w1 w2 /\
  ∃ w3 : World, ((Instr.mapUpdate 43 (.map m0) (.int .i64 2) (.map m1)).run Tryz.prog w2) = (.ok () w3) /\
  Same [k0] w2 w3 /\
  ∃ m2 : Option Nat, ∃ w4 : World, ((Instr.makeMap 42 none).run Tryz.prog w3) = (.ok (.map m2) w4) /\
  Same [k0] w3 w4 /\
  ∃ w5 : World, ((Instr.mapUpdate 43 (.map m0) (.int .i64 3) (.map m2)).run Tryz.prog w4) = (.ok () w5) /\
  Same [k0] w4 w5 /\
  Calls Tryz.prog 11 #[.agg #[.int .i64 x, .int .i64 x1, .string x2, .int .i64 x3, x4.v, .int .i64 x5], .map m0] w5 fun e0 w6 => e0 = (.returned (.tuple #[])) /\
   Same [k0] w5 w6 /\
   ∃ J0 : Sl -> Sl -> World -> Prop, (∀ l0 l1 : Sl, ∀ w7 : World, J0 l0 l1 w7 -> R (.tuple #[l0.v, l1.v]) w7) /\
   (∀ w8 : World, Only [] w6 w8 -> ∃ m3 : Option Nat, ∃ w9 : World, ((Instr.lookup 43 (.map m0) (.int .i64 2) false).run Tryz.prog w8) = (.ok (.map m3) w9) /\
    Same [k0] w8 w9 /\
    (Calls Tryz.prog 13 #[.map m3] w9 fun e1 w10 => ∃ v0 : OV, e1 = (.returned v0.v) /\
      Same [k0] w9 w10 /\
      (Calls Tryz.prog 12 #[v0.v] w10 fun e2 w11 => ∃ l2 : Sl, e2 = (.returned l2.v) /\
        Same [k0] w10 w11 /\
        ∃ m4 : Option Nat, ∃ w12 : World, ((Instr.lookup 43 (.map m0) (.int .i64 3) false).run Tryz.prog w11) = (.ok (.map m4) w12) /\
        Same [k0] w11 w12 /\
        Calls Tryz.prog 13 #[.map m4] w12 fun e3 w13 => ∃ v1 : OV, e3 = (.returned v1.v) /\
         Same [k0] w12 w13 /\
         Calls Tryz.prog 12 #[v1.v] w13 fun e4 w14 => ∃ l3 : Sl, e4 = (.returned l3.v) /\
          Same [k0] w13 w14 /\
          J0 l2 l3 w14) /\
      ∃ m5 : Option Nat, ∃ w15 : World, ((Instr.lookup 43 (.map m0) (.int .i64 3) false).run Tryz.prog w10) = (.ok (.map m5) w15) /\
      Same [k0] w10 w15 /\
      Calls Tryz.prog 12 #[v0.v] w15 fun e5 w16 => ∃ l4 : Sl, e5 = (.returned l4.v) /\
       Same [k0] w15 w16 /\
       Calls Tryz.prog 13 #[.map m5] w16 fun e6 w17 => ∃ v2 : OV, e6 = (.returned v2.v) /\
        Same [k0] w16 w17 /\
        Calls Tryz.prog 12 #[v2.v] w17 fun e7 w18 => ∃ l5 : Sl, e7 = (.returned l5.v) /\
         Same [k0] w17 w18 /\
         J0 l4 l5 w18) /\
    ∃ m6 : Option Nat, ∃ w19 : World, ((Instr.lookup 43 (.map m0) (.int .i64 3) false).run Tryz.prog w9) = (.ok (.map m6) w19) /\
    Same [k0] w9 w19 /\
    Calls Tryz.prog 13 #[.map m3] w19 fun e8 w20 => ∃ v3 : OV, e8 = (.returned v3.v) /\
     Same [k0] w19 w20 /\
     Calls Tryz.prog 12 #[v3.v] w20 fun e9 w21 => ∃ l6 : Sl, e9 = (.returned l6.v) /\
      Same [k0] w20 w21 /\
      Calls Tryz.prog 13 #[.map m6] w21 fun e10 w22 => ∃ v4 : OV, e10 = (.returned v4.v) /\
       Same [k0] w21 w22 /\
       Calls Tryz.prog 12 #[v4.v] w22 fun e11 w23 => ∃ l7 : Sl, e11 = (.returned l7.v) /\
        Same [k0] w22 w23 /\
        J0 l6 l7 w23) /\
   ∀ w24 : World, Only [] w6 w24 -> ∃ m7 : Option Nat, ∃ w25 : World, ((Instr.lookup 43 (.map m0) (.int .i64 3) false).run Tryz.prog w24) = (.ok (.map m7) w25) /\
   Same [k0] w24 w25 /\
   ∃ m8 : Option Nat, ∃ w26 : World, ((Instr.lookup 43 (.map m0) (.int .i64 2) false).run Tryz.prog w25) = (.ok (.map m8) w26) /\
   Same [k0] w25 w26 /\
   Calls Tryz.prog 13 #[.map m8] w26 fun e12 w27 => ∃ v5 : OV, e12 = (.returned v5.v) /\
    Same [k0] w26 w27 /\
    Calls Tryz.prog 12 #[v5.v] w27 fun e13 w28 => ∃ l8 : Sl, e13 = (.returned l8.v) /\
     Same [k0] w27 w28 /\
     Calls Tryz.prog 13 #[.map m7] w28 fun e14 w29 => ∃ v6 : OV, e14 = (.returned v6.v) /\
      Same [k0] w28 w29 /\
      Calls Tryz.prog 12 #[v6.v] w29 fun e15 w30 => ∃ l9 : Sl, e15 = (.returned l9.v) /\
       Same [k0] w29 w30 /\
       J0 l8 l9 w30
theorem v8w (x x1 : Int) (x2 : ByteArray) (x3 : Int) (x4 : Sl) (x5 : Int) (R : Value -> World -> Prop) (w : World) (h : v8v x x1 x2 x3 x4 x5 R w) : Cr 6 #[.agg #[.int .i64 x, .int .i64 x1, .string x2, .int .i64 x3, x4.v, .int .i64 x5]] w R :=
 fB (an := .s .o (.s .o (.s .o (.s (.j [1] [.s 2 .sl, .s 3 .sl] .o .o) .o)))) (args := [.agg (ofL [.int .i64 x, .int .i64 x1, .str x2, .int .i64 x3, .sl x4, .int .i64 x5])]) h
def v9v (x x1 : Int) (x2 : ByteArray) (x3 : Int) (x4 : Sl) (x5 : Int) (m : Option Nat) (R : Value -> World -> Prop) (w : World) : Prop :=
  ∀ k0 : Nat, ∀ w0 : World, w.heap.size <= k0 -> k0 < w0.heap.size -> Only [] w w0 -> ∃ J0 : World -> Prop, (∀ w1 : World, J0 w1 -> ∃ J1 : Nat -> Int -> World -> Prop, ∃ k1 : Nat, J1 k1 0 w1 /\
   ∀ k2 : Nat, ∀ i0 : Int, ∀ w2 : World, J1 k2 i0 w2 -> ((decide (i0 < (x4.n : Int))) = true -> ∃ p0 : Addr, SlAt x4 i0 6 p0 /\
    ∃ i1 i2 : Int, ∃ s0 : ByteArray, ∃ i3 : Int, ∃ l0 : Sl, ∃ i4 : Int, Cells w2 p0 [.int .i64 i1, .int .i64 i2, .string s0, .int .i64 i3, l0.v, .int .i64 i4] /\
    ∀ k3 : Nat, ∀ w3 : World, w2.heap.size <= k3 -> k3 < w3.heap.size -> Only [] w2 w3 -> Calls Tryz.prog 11 #[.agg #[.int .i64 i1, .int .i64 i2, .string s0, .int .i64 i3, l0.v, .int .i64 i4], .map m] w3 fun e0 w4 => e0 = (.returned (.tuple #[])) /\
     Same [k0, k3] w3 w4 /\
     ∃ k4 : Nat, k4 < k2 /\
     J1 k4 (IntKind.wrap .i64 (i0 + 1)) w4) /\
   ((decide (i0 < (x4.n : Int))) = false -> R (.tuple #[]) w2)) /\
  ∃ m0 : Option Nat, ∃ w5 : World, ((Instr.lookup 43 (.map m) (.int .i64 x) false).run Tryz.prog w0) = (.ok (.map m0) w5) /\
  Same [k0] w0 w5 /\
  ((!m0.isNone) = true -> ∃ w6 : World, ((Instr.mapUpdate 42 (.map m0) (.string x2) (.bool true)).run Tryz.prog w5) = (.ok () w6) /\
   Same [k0] w5 w6 /\
   J0 w6) /\
  ((!m0.isNone) = false -> J0 w5)
theorem v9w (x x1 : Int) (x2 : ByteArray) (x3 : Int) (x4 : Sl) (x5 : Int) (m : Option Nat) (R : Value -> World -> Prop) (w : World) (h : v9v x x1 x2 x3 x4 x5 m R w) : Cr 11 #[.agg #[.int .i64 x, .int .i64 x1, .string x2, .int .i64 x3, x4.v, .int .i64 x5], .map m] w R :=
 fB (an := .s .o (.j [1, 2] [] (.s .o (.s .o (.s .o .o))) (.s .o (.j [1, 2, 17, 18] [.s 19 (.int .i64)] (.s .o (.s (.s .o .o) (.s (.s .o .o) .o))) .o)))) (args := [.agg (ofL [.int .i64 x, .int .i64 x1, .str x2, .int .i64 x3, .sl x4, .int .i64 x5]), .map m]) h
def v33v (x x1 : Int) (x2 : ByteArray) (x3 : Int) (x4 : Sl) (x5 : Int) (e_ e_1 e_2 : Sl) (name : ByteArray) (n_ : Int) (R : Value -> World -> Prop) (w : World) : Prop :=
  ∀ k0 k1 : Nat, ∀ w0 : World, w.heap.size <= k0 -> k0 < w0.heap.size -> w.heap.size <= k1 -> k1 < w0.heap.size -> Only [] w w0 -> Calls Tryz.prog 5 #[] w0 fun e0 w1 => ∃ b0 : Bool, e0 = (.returned (.bool b0)) /\
   Same [k0, k1] w0 w1 /\
   Calls Tryz.prog 6 #[.agg #[.int .i64 x, .int .i64 x1, .string x2, .int .i64 x3, x4.v, .int .i64 x5]] w1 fun e1 w2 => ∃ l0 l1 : Sl, e1 = (.returned (.tuple #[l0.v, l1.v])) /\
    Same [k0, k1] w1 w2 /\
    ∃ J0 : Nat -> Int -> World -> Prop, ∃ k2 : Nat, J0 k2 0 w2 /\
    ∀ k3 : Nat, ∀ i0 : Int, ∀ w3 : World, J0 k3 i0 w3 -> ((decide (i0 < (l0.n : Int))) = true -> ∃ p0 : Addr, SlAt l0 i0 1 p0 /\
     ∃ s0 : ByteArray, Cells w3 p0 [.string s0] /\
     ((s0.toList == name.toList) = true -> R (.bool b0) w3) /\
     ((s0.toList == name.toList) = false -> ∃ k4 : Nat, k4 < k3 /\
     J0 k4 (IntKind.wrap .i64 (i0 + 1)) w3)) /\
    ((decide (i0 < (l0.n : Int))) = false -> ∀ w4 : World, Only [] w3 w4 -> ∃ J1 : Nat -> Prop, ∃ J2 : List (Prod Nat Nat) -> Sl -> Sl -> Sl -> World -> Prop, (∀ z0 : List (Prod Nat Nat), ∀ l2 l3 l4 : Sl, ∀ w5 : World, J2 z0 l2 l3 l4 w5 -> ∀ k5 : Nat, w4.heap.size <= k5 -> k5 < w5.heap.size -> Apart z0 k5 -> ∀ w6 : World, Only [k5] w5 w6 -> ∃ J3 : Nat -> Bool -> Int -> World -> Prop, ∃ k6 : Nat, J3 k6 false 0 w6 /\
     ∀ k7 : Nat, ∀ b1 : Bool, ∀ i1 : Int, ∀ w7 : World, J3 k7 b1 i1 w7 -> ((decide (i1 < (l1.n : Int))) = true -> ∃ p1 : Addr, (b1 = false -> SlAt l1 i1 1 p1) /\
      ∃ s1 : ByteArray, (b1 = false -> Cells w7 p1 [.string s1]) /\
      ∃ k8 : Nat, k8 < k7 /\
      J3 k8 (b1 || (s1.toList == name.toList)) (IntKind.wrap .i64 (i1 + 1)) w7) /\
     ((decide (i1 < (l1.n : Int))) = false -> ∃ J4 : Sl -> Sl -> Sl -> World -> Prop, (∀ l5 l6 l7 : Sl, ∀ w8 : World, J4 l5 l6 l7 w8 -> Calls Tryz.prog 9 #[.agg #[.int .i64 x, .int .i64 x1, .string x2, .int .i64 x3, x4.v, .int .i64 x5], .agg #[e_.v, e_1.v, e_2.v]] w8 fun e2 w9 => ∃ i2 i3 : Int, e2 = (.returned (.tuple #[.int .i64 i2, .int .i64 i3])) /\
       Same [k0, k1, k5] w8 w9 /\
       Calls Tryz.prog 9 #[.agg #[.int .i64 x, .int .i64 x1, .string x2, .int .i64 x3, x4.v, .int .i64 x5], .agg #[l5.v, l6.v, l7.v]] w9 fun e3 w10 => ∃ i4 i5 : Int, e3 = (.returned (.tuple #[.int .i64 i4, .int .i64 i5])) /\
        Same [k0, k1, k5] w9 w10 /\
        R (.bool ((b0 && (i2 == i4)) && (i3 == i5))) w10) /\
     ((!b1) = true -> ∃ l8 : Sl, ∃ w11 : World, ((Instr.buildSlice 26 1 #[.mk 0 (.string name)]).run Tryz.prog w7) = (.ok l8.v w11) /\
      Same [k0, k1, k5] w7 w11 /\
      ∃ l9 : Sl, ∃ w12 : World, ((Builtin.append_ #[26, 26] 26 #[l4.v, l8.v]).run Tryz.prog w11) = (.ok l9.v w12) /\
      Same [k0, k1, k5] w11 w12 /\
      ∀ w13 : World, Only [k5] w12 w13 -> J4 l2 l3 l9 w13) /\
     ((!b1) = false -> J4 l2 l3 l4 w7))) /\
    J1 k1 /\
    J1 k1 /\
    J1 k1 /\
    (∀ w14 : World, Only [] w4 w14 -> ∃ l10 : Sl, ∃ w15 : World, ((Instr.buildSlice 26 1 #[.mk 0 (.string name)]).run Tryz.prog w14) = (.ok l10.v w15) /\
     Same [k0, k1] w14 w15 /\
     Newer w4 w14 w15 /\
     Keeps J1 w14 w15 /\
     (∀ w16 : World, Only [] w15 w16 -> ∃ l11 : Sl, ∃ w17 : World, ((Builtin.append_ #[26, 26] 26 #[l10.v, e_.v]).run Tryz.prog w16) = (.ok l11.v w17) /\
      Same [k0, k1] w16 w17 /\
      Newer w4 w16 w17 /\
      Keeps J1 w16 w17 /\
      (∀ w18 : World, Only [] w17 w18 -> ∃ l12 : Sl, ∃ w19 : World, ((Instr.buildSlice 31 1 #[.mk 0 (.int .i64 n_)]).run Tryz.prog w18) = (.ok l12.v w19) /\
       Same [k0, k1] w18 w19 /\
       Newer w4 w18 w19 /\
       Keeps J1 w18 w19 /\
       (∀ w20 : World, Only [] w19 w20 -> ∃ l13 : Sl, ∃ w21 : World, ((Builtin.append_ #[31, 31] 31 #[l12.v, e_1.v]).run Tryz.prog w20) = (.ok l13.v w21) /\
        Same [k0, k1] w20 w21 /\
        Newer w4 w20 w21 /\
        Keeps J1 w20 w21 /\
        ∀ w22 : World, Only [] w21 w22 -> ∃ l14 : Sl, ∃ w23 : World, ((Instr.buildSlice 26 0 #[]).run Tryz.prog w22) = (.ok l14.v w23) /\
        Same [k0, k1] w22 w23 /\
        Newer w4 w22 w23 /\
        Keeps J1 w22 w23 /\
        ∀ w24 : World, Only [] w23 w24 -> ∃ l15 : Sl, ∃ w25 : World, ((Builtin.append_ #[26, 26] 26 #[l14.v, e_2.v]).run Tryz.prog w24) = (.ok l15.v w25) /\
        Same [k0, k1] w24 w25 /\
        Newer w4 w24 w25 /\
        Keeps J1 w24 w25 /\
        ∀ w26 : World, Only [] w25 w26 -> J2 [.mk w24.heap.size w25.heap.size, .mk w22.heap.size w23.heap.size, .mk w20.heap.size w21.heap.size, .mk w18.heap.size w19.heap.size, .mk w16.heap.size w17.heap.size, .mk w14.heap.size w15.heap.size] l11 l13 l15 w26) /\
       ∀ w27 : World, Only [] w19 w27 -> ∃ l16 : Sl, ∃ w28 : World, ((Instr.buildSlice 26 0 #[]).run Tryz.prog w27) = (.ok l16.v w28) /\
       Same [k0, k1] w27 w28 /\
       Newer w4 w27 w28 /\
       Keeps J1 w27 w28 /\
       ∀ w29 : World, Only [] w28 w29 -> ∃ l17 : Sl, ∃ w30 : World, ((Builtin.append_ #[31, 31] 31 #[l12.v, e_1.v]).run Tryz.prog w29) = (.ok l17.v w30) /\
       Same [k0, k1] w29 w30 /\
       Newer w4 w29 w30 /\
       Keeps J1 w29 w30 /\
       ∀ w31 : World, Only [] w30 w31 -> ∃ l18 : Sl, ∃ w32 : World, ((Builtin.append_ #[26, 26] 26 #[l16.v, e_2.v]).run Tryz.prog w31) = (.ok l18.v w32) /\
       Same [k0, k1] w31 w32 /\
       Newer w4 w31 w32 /\
       Keeps J1 w31 w32 /\
       ∀ w33 : World, Only [] w32 w33 -> J2 [.mk w31.heap.size w32.heap.size, .mk w29.heap.size w30.heap.size, .mk w27.heap.size w28.heap.size, .mk w18.heap.size w19.heap.size, .mk w16.heap.size w17.heap.size, .mk w14.heap.size w15.heap.size] l11 l17 l18 w33) /\
      ∀ w34 : World, Only [] w17 w34 -> ∃ l19 : Sl, ∃ w35 : World, ((Instr.buildSlice 26 0 #[]).run Tryz.prog w34) = (.ok l19.v w35) /\
      Same [k0, k1] w34 w35 /\
      Newer w4 w34 w35 /\
      Keeps J1 w34 w35 /\
      ∀ w36 : World, Only [] w35 w36 -> ∃ l20 : Sl, ∃ w37 : World, ((Instr.buildSlice 31 1 #[.mk 0 (.int .i64 n_)]).run Tryz.prog w36) = (.ok l20.v w37) /\
      Same [k0, k1] w36 w37 /\
      Newer w4 w36 w37 /\
      Keeps J1 w36 w37 /\
      ∀ w38 : World, Only [] w37 w38 -> ∃ l21 : Sl, ∃ w39 : World, ((Builtin.append_ #[31, 31] 31 #[l20.v, e_1.v]).run Tryz.prog w38) = (.ok l21.v w39) /\
      Same [k0, k1] w38 w39 /\
      Newer w4 w38 w39 /\
      Keeps J1 w38 w39 /\
      ∀ w40 : World, Only [] w39 w40 -> ∃ l22 : Sl, ∃ w41 : World, ((Builtin.append_ #[26, 26] 26 #[l19.v, e_2.v]).run Tryz.prog w40) = (.ok l22.v w41) /\
      Same [k0, k1] w40 w41 /\
      Newer w4 w40 w41 /\
      Keeps J1 w40 w41 /\
      ∀ w42 : World, Only [] w41 w42 -> J2 [.mk w40.heap.size w41.heap.size, .mk w38.heap.size w39.heap.size, .mk w36.heap.size w37.heap.size, .mk w34.heap.size w35.heap.size, .mk w16.heap.size w17.heap.size, .mk w14.heap.size w15.heap.size] l11 l21 l22 w42) /\
     (∀ w43 : World, Only [] w15 w43 -> ∃ l23 : Sl, ∃ w44 : World, ((Instr.buildSlice 31 1 #[.mk 0 (.int .i64 n_)]).run Tryz.prog w43) = (.ok l23.v w44) /\
      Same [k0, k1] w43 w44 /\
      Newer w4 w43 w44 /\
      Keeps J1 w43 w44 /\
      (∀ w45 : World, Only [] w44 w45 -> ∃ l24 : Sl, ∃ w46 : World, ((Builtin.append_ #[26, 26] 26 #[l10.v, e_.v]).run Tryz.prog w45) = (.ok l24.v w46) /\
       Same [k0, k1] w45 w46 /\
       Newer w4 w45 w46 /\
       Keeps J1 w45 w46 /\
       (∀ w47 : World, Only [] w46 w47 -> ∃ l25 : Sl, ∃ w48 : World, ((Builtin.append_ #[31, 31] 31 #[l23.v, e_1.v]).run Tryz.prog w47) = (.ok l25.v w48) /\
        Same [k0, k1] w47 w48 /\
        Newer w4 w47 w48 /\
        Keeps J1 w47 w48 /\
        ∀ w49 : World, Only [] w48 w49 -> ∃ l26 : Sl, ∃ w50 : World, ((Instr.buildSlice 26 0 #[]).run Tryz.prog w49) = (.ok l26.v w50) /\
        Same [k0, k1] w49 w50 /\
        Newer w4 w49 w50 /\
        Keeps J1 w49 w50 /\
        ∀ w51 : World, Only [] w50 w51 -> ∃ l27 : Sl, ∃ w52 : World, ((Builtin.append_ #[26, 26] 26 #[l26.v, e_2.v]).run Tryz.prog w51) = (.ok l27.v w52) /\
        Same [k0, k1] w51 w52 /\
        Newer w4 w51 w52 /\
        Keeps J1 w51 w52 /\
        ∀ w53 : World, Only [] w52 w53 -> J2 [.mk w51.heap.size w52.heap.size, .mk w49.heap.size w50.heap.size, .mk w47.heap.size w48.heap.size, .mk w45.heap.size w46.heap.size, .mk w43.heap.size w44.heap.size, .mk w14.heap.size w15.heap.size] l24 l25 l27 w53) /\
       ∀ w54 : World, Only [] w46 w54 -> ∃ l28 : Sl, ∃ w55 : World, ((Instr.buildSlice 26 0 #[]).run Tryz.prog w54) = (.ok l28.v w55) /\
       Same [k0, k1] w54 w55 /\
       Newer w4 w54 w55 /\
       Keeps J1 w54 w55 /\
       ∀ w56 : World, Only [] w55 w56 -> ∃ l29 : Sl, ∃ w57 : World, ((Builtin.append_ #[31, 31] 31 #[l23.v, e_1.v]).run Tryz.prog w56) = (.ok l29.v w57) /\
       Same [k0, k1] w56 w57 /\
       Newer w4 w56 w57 /\
       Keeps J1 w56 w57 /\
       ∀ w58 : World, Only [] w57 w58 -> ∃ l30 : Sl, ∃ w59 : World, ((Builtin.append_ #[26, 26] 26 #[l28.v, e_2.v]).run Tryz.prog w58) = (.ok l30.v w59) /\
       Same [k0, k1] w58 w59 /\
       Newer w4 w58 w59 /\
       Keeps J1 w58 w59 /\
       ∀ w60 : World, Only [] w59 w60 -> J2 [.mk w58.heap.size w59.heap.size, .mk w56.heap.size w57.heap.size, .mk w54.heap.size w55.heap.size, .mk w45.heap.size w46.heap.size, .mk w43.heap.size w44.heap.size, .mk w14.heap.size w15.heap.size] l24 l29 l30 w60) /\
      ∀ w61 : World, Only [] w44 w61 -> ∃ l31 : Sl, ∃ w62 : World, ((Instr.buildSlice 26 0 #[]).run Tryz.prog w61) = (.ok l31.v w62) /\
      Same [k0, k1] w61 w62 /\
      Newer w4 w61 w62 /\
      Keeps J1 w61 w62 /\
      ∀ w63 : World, Only [] w62 w63 -> ∃ l32 : Sl, ∃ w64 : World, ((Builtin.append_ #[26, 26] 26 #[l10.v, e_.v]).run Tryz.prog w63) = (.ok l32.v w64) /\
      Same [k0, k1] w63 w64 /\
      Newer w4 w63 w64 /\
      Keeps J1 w63 w64 /\
      ∀ w65 : World, Only [] w64 w65 -> ∃ l33 : Sl, ∃ w66 : World, ((Builtin.append_ #[31, 31] 31 #[l23.v, e_1.v]).run Tryz.prog w65) = (.ok l33.v w66) /\
      Same [k0, k1] w65 w66 /\
      Newer w4 w65 w66 /\
      Keeps J1 w65 w66 /\
      ∀ w67 : World, Only [] w66 w67 -> ∃ l34 : Sl, ∃ w68 : World, ((Builtin.append_ #[26, 26] 26 #[l31.v, e_2.v]).run Tryz.prog w67) = (.ok l34.v w68) /\
      Same [k0, k1] w67 w68 /\
      Newer w4 w67 w68 /\
      Keeps J1 w67 w68 /\
      ∀ w69 : World, Only [] w68 w69 -> J2 [.mk w67.heap.size w68.heap.size, .mk w65.heap.size w66.heap.size, .mk w63.heap.size w64.heap.size, .mk w61.heap.size w62.heap.size, .mk w43.heap.size w44.heap.size, .mk w14.heap.size w15.heap.size] l32 l33 l34 w69) /\
     ∀ w70 : World, Only [] w15 w70 -> ∃ l35 : Sl, ∃ w71 : World, ((Instr.buildSlice 26 0 #[]).run Tryz.prog w70) = (.ok l35.v w71) /\
     Same [k0, k1] w70 w71 /\
     Newer w4 w70 w71 /\
     Keeps J1 w70 w71 /\
     (∀ w72 : World, Only [] w71 w72 -> ∃ l36 : Sl, ∃ w73 : World, ((Builtin.append_ #[26, 26] 26 #[l10.v, e_.v]).run Tryz.prog w72) = (.ok l36.v w73) /\
      Same [k0, k1] w72 w73 /\
      Newer w4 w72 w73 /\
      Keeps J1 w72 w73 /\
      ∀ w74 : World, Only [] w73 w74 -> ∃ l37 : Sl, ∃ w75 : World, ((Instr.buildSlice 31 1 #[.mk 0 (.int .i64 n_)]).run Tryz.prog w74) = (.ok l37.v w75) /\
      Same [k0, k1] w74 w75 /\
      Newer w4 w74 w75 /\
      Keeps J1 w74 w75 /\
      ∀ w76 : World, Only [] w75 w76 -> ∃ l38 : Sl, ∃ w77 : World, ((Builtin.append_ #[31, 31] 31 #[l37.v, e_1.v]).run Tryz.prog w76) = (.ok l38.v w77) /\
      Same [k0, k1] w76 w77 /\
      Newer w4 w76 w77 /\
      Keeps J1 w76 w77 /\
      ∀ w78 : World, Only [] w77 w78 -> ∃ l39 : Sl, ∃ w79 : World, ((Builtin.append_ #[26, 26] 26 #[l35.v, e_2.v]).run Tryz.prog w78) = (.ok l39.v w79) /\
      Same [k0, k1] w78 w79 /\
      Newer w4 w78 w79 /\
      Keeps J1 w78 w79 /\
      ∀ w80 : World, Only [] w79 w80 -> J2 [.mk w78.heap.size w79.heap.size, .mk w76.heap.size w77.heap.size, .mk w74.heap.size w75.heap.size, .mk w72.heap.size w73.heap.size, .mk w70.heap.size w71.heap.size, .mk w14.heap.size w15.heap.size] l36 l38 l39 w80) /\
     ∀ w81 : World, Only [] w71 w81 -> ∃ l40 : Sl, ∃ w82 : World, ((Instr.buildSlice 31 1 #[.mk 0 (.int .i64 n_)]).run Tryz.prog w81) = (.ok l40.v w82) /\
     Same [k0, k1] w81 w82 /\
     Newer w4 w81 w82 /\
     Keeps J1 w81 w82 /\
     ∀ w83 : World, Only [] w82 w83 -> ∃ l41 : Sl, ∃ w84 : World, ((Builtin.append_ #[26, 26] 26 #[l10.v, e_.v]).run Tryz.prog w83) = (.ok l41.v w84) /\
     Same [k0, k1] w83 w84 /\
     Newer w4 w83 w84 /\
     Keeps J1 w83 w84 /\
     ∀ w85 : World, Only [] w84 w85 -> ∃ l42 : Sl, ∃ w86 : World, ((Builtin.append_ #[31, 31] 31 #[l40.v, e_1.v]).run Tryz.prog w85) = (.ok l42.v w86) /\
     Same [k0, k1] w85 w86 /\
     Newer w4 w85 w86 /\
     Keeps J1 w85 w86 /\
     ∀ w87 : World, Only [] w86 w87 -> ∃ l43 : Sl, ∃ w88 : World, ((Builtin.append_ #[26, 26] 26 #[l35.v, e_2.v]).run Tryz.prog w87) = (.ok l43.v w88) /\
     Same [k0, k1] w87 w88 /\
     Newer w4 w87 w88 /\
     Keeps J1 w87 w88 /\
     ∀ w89 : World, Only [] w88 w89 -> J2 [.mk w87.heap.size w88.heap.size, .mk w85.heap.size w86.heap.size, .mk w83.heap.size w84.heap.size, .mk w81.heap.size w82.heap.size, .mk w70.heap.size w71.heap.size, .mk w14.heap.size w15.heap.size] l41 l42 l43 w89) /\
    (∀ w90 : World, Only [] w4 w90 -> ∃ l44 : Sl, ∃ w91 : World, ((Instr.buildSlice 31 1 #[.mk 0 (.int .i64 n_)]).run Tryz.prog w90) = (.ok l44.v w91) /\
     Same [k0, k1] w90 w91 /\
     Newer w4 w90 w91 /\
     Keeps J1 w90 w91 /\
     (∀ w92 : World, Only [] w91 w92 -> ∃ l45 : Sl, ∃ w93 : World, ((Instr.buildSlice 26 1 #[.mk 0 (.string name)]).run Tryz.prog w92) = (.ok l45.v w93) /\
      Same [k0, k1] w92 w93 /\
      Newer w4 w92 w93 /\
      Keeps J1 w92 w93 /\
      (∀ w94 : World, Only [] w93 w94 -> ∃ l46 : Sl, ∃ w95 : World, ((Builtin.append_ #[26, 26] 26 #[l45.v, e_.v]).run Tryz.prog w94) = (.ok l46.v w95) /\
       Same [k0, k1] w94 w95 /\
       Newer w4 w94 w95 /\
       Keeps J1 w94 w95 /\
       (∀ w96 : World, Only [] w95 w96 -> ∃ l47 : Sl, ∃ w97 : World, ((Builtin.append_ #[31, 31] 31 #[l44.v, e_1.v]).run Tryz.prog w96) = (.ok l47.v w97) /\
        Same [k0, k1] w96 w97 /\
        Newer w4 w96 w97 /\
        Keeps J1 w96 w97 /\
        ∀ w98 : World, Only [] w97 w98 -> ∃ l48 : Sl, ∃ w99 : World, ((Instr.buildSlice 26 0 #[]).run Tryz.prog w98) = (.ok l48.v w99) /\
        Same [k0, k1] w98 w99 /\
        Newer w4 w98 w99 /\
        Keeps J1 w98 w99 /\
        ∀ w100 : World, Only [] w99 w100 -> ∃ l49 : Sl, ∃ w101 : World, ((Builtin.append_ #[26, 26] 26 #[l48.v, e_2.v]).run Tryz.prog w100) = (.ok l49.v w101) /\
        Same [k0, k1] w100 w101 /\
        Newer w4 w100 w101 /\
        Keeps J1 w100 w101 /\
        ∀ w102 : World, Only [] w101 w102 -> J2 [.mk w100.heap.size w101.heap.size, .mk w98.heap.size w99.heap.size, .mk w96.heap.size w97.heap.size, .mk w94.heap.size w95.heap.size, .mk w92.heap.size w93.heap.size, .mk w90.heap.size w91.heap.size] l46 l47 l49 w102) /\
       ∀ w103 : World, Only [] w95 w103 -> ∃ l50 : Sl, ∃ w104 : World, ((Instr.buildSlice 26 0 #[]).run Tryz.prog w103) = (.ok l50.v w104) /\
       Same [k0, k1] w103 w104 /\
       Newer w4 w103 w104 /\
       Keeps J1 w103 w104 /\
       ∀ w105 : World, Only [] w104 w105 -> ∃ l51 : Sl, ∃ w106 : World, ((Builtin.append_ #[31, 31] 31 #[l44.v, e_1.v]).run Tryz.prog w105) = (.ok l51.v w106) /\
       Same [k0, k1] w105 w106 /\
       Newer w4 w105 w106 /\
       Keeps J1 w105 w106 /\
       ∀ w107 : World, Only [] w106 w107 -> ∃ l52 : Sl, ∃ w108 : World, ((Builtin.append_ #[26, 26] 26 #[l50.v, e_2.v]).run Tryz.prog w107) = (.ok l52.v w108) /\
       Same [k0, k1] w107 w108 /\
       Newer w4 w107 w108 /\
       Keeps J1 w107 w108 /\
       ∀ w109 : World, Only [] w108 w109 -> J2 [.mk w107.heap.size w108.heap.size, .mk w105.heap.size w106.heap.size, .mk w103.heap.size w104.heap.size, .mk w94.heap.size w95.heap.size, .mk w92.heap.size w93.heap.size, .mk w90.heap.size w91.heap.size] l46 l51 l52 w109) /\
      ∀ w110 : World, Only [] w93 w110 -> ∃ l53 : Sl, ∃ w111 : World, ((Instr.buildSlice 26 0 #[]).run Tryz.prog w110) = (.ok l53.v w111) /\
      Same [k0, k1] w110 w111 /\
      Newer w4 w110 w111 /\
      Keeps J1 w110 w111 /\
      ∀ w112 : World, Only [] w111 w112 -> ∃ l54 : Sl, ∃ w113 : World, ((Builtin.append_ #[26, 26] 26 #[l45.v, e_.v]).run Tryz.prog w112) = (.ok l54.v w113) /\
      Same [k0, k1] w112 w113 /\
      Newer w4 w112 w113 /\
      Keeps J1 w112 w113 /\
      ∀ w114 : World, Only [] w113 w114 -> ∃ l55 : Sl, ∃ w115 : World, ((Builtin.append_ #[31, 31] 31 #[l44.v, e_1.v]).run Tryz.prog w114) = (.ok l55.v w115) /\
      Same [k0, k1] w114 w115 /\
      Newer w4 w114 w115 /\
      Keeps J1 w114 w115 /\
      ∀ w116 : World, Only [] w115 w116 -> ∃ l56 : Sl, ∃ w117 : World, ((Builtin.append_ #[26, 26] 26 #[l53.v, e_2.v]).run Tryz.prog w116) = (.ok l56.v w117) /\
      Same [k0, k1] w116 w117 /\
      Newer w4 w116 w117 /\
      Keeps J1 w116 w117 /\
      ∀ w118 : World, Only [] w117 w118 -> J2 [.mk w116.heap.size w117.heap.size, .mk w114.heap.size w115.heap.size, .mk w112.heap.size w113.heap.size, .mk w110.heap.size w111.heap.size, .mk w92.heap.size w93.heap.size, .mk w90.heap.size w91.heap.size] l54 l55 l56 w118) /\
     ∀ w119 : World, Only [] w91 w119 -> ∃ l57 : Sl, ∃ w120 : World, ((Instr.buildSlice 26 0 #[]).run Tryz.prog w119) = (.ok l57.v w120) /\
     Same [k0, k1] w119 w120 /\
     Newer w4 w119 w120 /\
     Keeps J1 w119 w120 /\
     ∀ w121 : World, Only [] w120 w121 -> ∃ l58 : Sl, ∃ w122 : World, ((Instr.buildSlice 26 1 #[.mk 0 (.string name)]).run Tryz.prog w121) = (.ok l58.v w122) /\
     Same [k0, k1] w121 w122 /\
     Newer w4 w121 w122 /\
     Keeps J1 w121 w122 /\
     ∀ w123 : World, Only [] w122 w123 -> ∃ l59 : Sl, ∃ w124 : World, ((Builtin.append_ #[26, 26] 26 #[l58.v, e_.v]).run Tryz.prog w123) = (.ok l59.v w124) /\
     Same [k0, k1] w123 w124 /\
     Newer w4 w123 w124 /\
     Keeps J1 w123 w124 /\
     ∀ w125 : World, Only [] w124 w125 -> ∃ l60 : Sl, ∃ w126 : World, ((Builtin.append_ #[31, 31] 31 #[l44.v, e_1.v]).run Tryz.prog w125) = (.ok l60.v w126) /\
     Same [k0, k1] w125 w126 /\
     Newer w4 w125 w126 /\
     Keeps J1 w125 w126 /\
     ∀ w127 : World, Only [] w126 w127 -> ∃ l61 : Sl, ∃ w128 : World, ((Builtin.append_ #[26, 26] 26 #[l57.v, e_2.v]).run Tryz.prog w127) = (.ok l61.v w128) /\
     Same [k0, k1] w127 w128 /\
     Newer w4 w127 w128 /\
     Keeps J1 w127 w128 /\
     ∀ w129 : World, Only [] w128 w129 -> J2 [.mk w127.heap.size w128.heap.size, .mk w125.heap.size w126.heap.size, .mk w123.heap.size w124.heap.size, .mk w121.heap.size w122.heap.size, .mk w119.heap.size w120.heap.size, .mk w90.heap.size w91.heap.size] l59 l60 l61 w129) /\
    ∀ w130 : World, Only [] w4 w130 -> ∃ l62 : Sl, ∃ w131 : World, ((Instr.buildSlice 26 0 #[]).run Tryz.prog w130) = (.ok l62.v w131) /\
    Same [k0, k1] w130 w131 /\
    Newer w4 w130 w131 /\
    Keeps J1 w130 w131 /\
    (∀ w132 : World, Only [] w131 w132 -> ∃ l63 : Sl, ∃ w133 : World, ((Instr.buildSlice 26 1 #[.mk 0 (.string name)]).run Tryz.prog w132) = (.ok l63.v w133) /\
     Same [k0, k1] w132 w133 /\
     Newer w4 w132 w133 /\
     Keeps J1 w132 w133 /\
     (∀ w134 : World, Only [] w133 w134 -> ∃ l64 : Sl, ∃ w135 : World, ((Builtin.append_ #[26, 26] 26 #[l63.v, e_.v]).run Tryz.prog w134) = (.ok l64.v w135) /\
      Same [k0, k1] w134 w135 /\
      Newer w4 w134 w135 /\
      Keeps J1 w134 w135 /\
      ∀ w136 : World, Only [] w135 w136 -> ∃ l65 : Sl, ∃ w137 : World, ((Instr.buildSlice 31 1 #[.mk 0 (.int .i64 n_)]).run Tryz.prog w136) = (.ok l65.v w137) /\
      Same [k0, k1] w136 w137 /\
      Newer w4 w136 w137 /\
      Keeps J1 w136 w137 /\
      ∀ w138 : World, Only [] w137 w138 -> ∃ l66 : Sl, ∃ w139 : World, ((Builtin.append_ #[31, 31] 31 #[l65.v, e_1.v]).run Tryz.prog w138) = (.ok l66.v w139) /\
      Same [k0, k1] w138 w139 /\
      Newer w4 w138 w139 /\
      Keeps J1 w138 w139 /\
      ∀ w140 : World, Only [] w139 w140 -> ∃ l67 : Sl, ∃ w141 : World, ((Builtin.append_ #[26, 26] 26 #[l62.v, e_2.v]).run Tryz.prog w140) = (.ok l67.v w141) /\
      Same [k0, k1] w140 w141 /\
      Newer w4 w140 w141 /\
      Keeps J1 w140 w141 /\
      ∀ w142 : World, Only [] w141 w142 -> J2 [.mk w140.heap.size w141.heap.size, .mk w138.heap.size w139.heap.size, .mk w136.heap.size w137.heap.size, .mk w134.heap.size w135.heap.size, .mk w132.heap.size w133.heap.size, .mk w130.heap.size w131.heap.size] l64 l66 l67 w142) /\
     ∀ w143 : World, Only [] w133 w143 -> ∃ l68 : Sl, ∃ w144 : World, ((Instr.buildSlice 31 1 #[.mk 0 (.int .i64 n_)]).run Tryz.prog w143) = (.ok l68.v w144) /\
     Same [k0, k1] w143 w144 /\
     Newer w4 w143 w144 /\
     Keeps J1 w143 w144 /\
     ∀ w145 : World, Only [] w144 w145 -> ∃ l69 : Sl, ∃ w146 : World, ((Builtin.append_ #[26, 26] 26 #[l63.v, e_.v]).run Tryz.prog w145) = (.ok l69.v w146) /\
     Same [k0, k1] w145 w146 /\
     Newer w4 w145 w146 /\
     Keeps J1 w145 w146 /\
     ∀ w147 : World, Only [] w146 w147 -> ∃ l70 : Sl, ∃ w148 : World, ((Builtin.append_ #[31, 31] 31 #[l68.v, e_1.v]).run Tryz.prog w147) = (.ok l70.v w148) /\
     Same [k0, k1] w147 w148 /\
     Newer w4 w147 w148 /\
     Keeps J1 w147 w148 /\
     ∀ w149 : World, Only [] w148 w149 -> ∃ l71 : Sl, ∃ w150 : World, ((Builtin.append_ #[26, 26] 26 #[l62.v, e_2.v]).run Tryz.prog w149) = (.ok l71.v w150) /\
     Same [k0, k1] w149 w150 /\
     Newer w4 w149 w150 /\
     Keeps J1 w149 w150 /\
     ∀ w151 : World, Only [] w150 w151 -> J2 [.mk w149.heap.size w150.heap.size, .mk w147.heap.size w148.heap.size, .mk w145.heap.size w146.heap.size, .mk w143.heap.size w144.heap.size, .mk w132.heap.size w133.heap.size, .mk w130.heap.size w131.heap.size] l69 l70 l71 w151) /\
    ∀ w152 : World, Only [] w131 w152 -> ∃ l72 : Sl, ∃ w153 : World, ((Instr.buildSlice 31 1 #[.mk 0 (.int .i64 n_)]).run Tryz.prog w152) = (.ok l72.v w153) /\
    Same [k0, k1] w152 w153 /\
    Newer w4 w152 w153 /\
    Keeps J1 w152 w153 /\
    ∀ w154 : World, Only [] w153 w154 -> ∃ l73 : Sl, ∃ w155 : World, ((Instr.buildSlice 26 1 #[.mk 0 (.string name)]).run Tryz.prog w154) = (.ok l73.v w155) /\
    Same [k0, k1] w154 w155 /\
    Newer w4 w154 w155 /\
    Keeps J1 w154 w155 /\
    ∀ w156 : World, Only [] w155 w156 -> ∃ l74 : Sl, ∃ w157 : World, ((Builtin.append_ #[26, 26] 26 #[l73.v, e_.v]).run Tryz.prog w156) = (.ok l74.v w157) /\
    Same [k0, k1] w156 w157 /\
    Newer w4 w156 w157 /\
    Keeps J1 w156 w157 /\
    ∀ w158 : World, Only [] w157 w158 -> ∃ l75 : Sl, ∃ w159 : World, ((Builtin.append_ #[31, 31] 31 #[l72.v, e_1.v]).run Tryz.prog w158) = (.ok l75.v w159) /\
    Same [k0, k1] w158 w159 /\
    Newer w4 w158 w159 /\
    Keeps J1 w158 w159 /\
    ∀ w160 : World, Only [] w159 w160 -> ∃ l76 : Sl, ∃ w161 : World, ((Builtin.append_ #[26, 26] 26 #[l62.v, e_2.v]).run Tryz.prog w160) = (.ok l76.v w161) /\
    Same [k0, k1] w160 w161 /\
    Newer w4 w160 w161 /\
    Keeps J1 w160 w161 /\
    ∀ w162 : World, Only [] w161 w162 -> J2 [.mk w160.heap.size w161.heap.size, .mk w158.heap.size w159.heap.size, .mk w156.heap.size w157.heap.size, .mk w154.heap.size w155.heap.size, .mk w152.heap.size w153.heap.size, .mk w130.heap.size w131.heap.size] l74 l75 l76 w162)
theorem v33w (x x1 : Int) (x2 : ByteArray) (x3 : Int) (x4 : Sl) (x5 : Int) (e_ e_1 e_2 : Sl) (name : ByteArray) (n_ : Int) (R : Value -> World -> Prop) (w : World) (h : v33v x x1 x2 x3 x4 x5 e_ e_1 e_2 name n_ R w) : Cr 4 #[.agg #[.int .i64 x, .int .i64 x1, .string x2, .int .i64 x3, x4.v, .int .i64 x5], .agg #[e_.v, e_1.v, e_2.v], .string name, .int .i64 n_] w R :=
 fB (an := .s .o (.s .o (.s .o (.s (.s .o (.j [2, 3, 4, 5, 9, 10, 11] [.s 12 (.int .i64)] (.s (.s .o (.s .o .o)) (.s (.s .o (.s (.s .o .o) .o)) .o)) .o)) (.s (.l true [2, 4, 5, 9, 11] [.a 53 [.sl, .sl, .sl]]) (.s .o (.s (.s .o (.j [2, 4, 5, 9, 11, 13] [.s 14 .bool, .s 15 (.int .i64)] (.s (.s .o (.s .o .o)) (.s .o .o)) .o)) (.j [4, 5, 9, 13] [.b 13 [.sl, .sl, .sl]] (.s .o (.s .o .o)) (.s .o (.s .o (.s .o .o))))))))))) (args := [.agg (ofL [.int .i64 x, .int .i64 x1, .str x2, .int .i64 x3, .sl x4, .int .i64 x5]), .agg (ofL [.sl e_, .sl e_1, .sl e_2]), .str name, .int .i64 n_]) h
end Go.Proofs.YtfknfhajdiccgaaGreatDoor.Vc
namespace Go.Proofs
open Go.Shelf
def Tryz.laysM316_ren : Go.Shelf.Ren := ⟨fun | 316 => 89 | n => n, fun | 9 => 9 | 3 => 3 | 4 => 4 | 37 => 114 | 0 => 0 | 127 => 140 | 5 => 5 | n => n, fun | n => n⟩
theorem Tryz.laysM316 : Go.Proofs.LaysM.n316 Tryz.prog Tryz.laysM316_ren := {
 mixed := by kernel_rfl
 f316 := Tryz.func89.trans (congrArg some (by kernel_rfl))
 t0 := Tryz.underlying0
 a0 := Tryz.isAgg0
 z0 := Tryz.sizeOf0
 v0 := Tryz.zeroValue0
 t3 := Tryz.underlying3
 a3 := Tryz.isAgg3
 z3 := Tryz.sizeOf3
 v3 := Tryz.zeroValue3
 t4 := Tryz.underlying4
 a4 := Tryz.isAgg4
 z4 := Tryz.sizeOf4
 v4 := Tryz.zeroValue4
 t9 := Tryz.underlying9
 a9 := Tryz.isAgg9
 z9 := Tryz.sizeOf9
 v9 := Tryz.zeroValue9
 t37 := Tryz.underlying114
 a37 := Tryz.isAgg114
 z37 := Tryz.sizeOf114
 v37 := Tryz.zeroValue114
 t127 := Tryz.underlying140
 a127 := Tryz.isAgg140
 z127 := Tryz.sizeOf140
 v127 := Tryz.zeroValue140
 t5 := Tryz.underlying5
 a5 := Tryz.isAgg5
 z5 := Tryz.sizeOf5
 v5 := Tryz.zeroValue5
 i0 := by kernel_rfl
 i3 := by kernel_rfl
 i4 := by kernel_rfl
 i5 := by kernel_rfl
 i9 := by kernel_rfl
 i37 := by kernel_rfl
 i127 := by kernel_rfl }
open Go.RowKit in
theorem Tryz.stringslite_Clone (s : ByteArray) (w : World) (hlim : s.size <= 281474976710656) :
  Calls Tryz.prog 89 #[.string s] w fun e w' => e = .returned (.string s) /\ Below w.heap.size w w' := Any.stringslite_Clone Tryz.laysM316 s w hlim
def Tryz.laysC174_ren : Go.Shelf.Ren := ⟨fun | 174 => 91 | 247 => 98 | 245 => 99 | 287 => 102 | 279 => 103 | 280 => 104 | 281 => 105 | 282 => 106 | 321 => 107 | 322 => 108 | 316 => 89 | 171 => 110 | 205 => 109 | 243 => 111 | 246 => 112 | 283 => 113 | 284 => 114 | 285 => 115 | 286 => 116 | 129 => 66 | 317 => 117 | 318 => 118 | 319 => 119 | 320 => 120 | 337 => 121 | 338 => 122 | n => n, fun | 9 => 9 | 3 => 3 | 2 => 2 | 75 => 132 | 85 => 133 | 4 => 4 | 167 => 144 | 5 => 5 | 53 => 113 | 175 => 145 | 46 => 89 | 168 => 147 | 37 => 114 | 0 => 0 | 210 => 152 | 21 => 21 | 127 => 140 | 145 => 157 | 143 => 155 | 171 => 159 | 173 => 161 | 212 => 163 | 51 => 111 | 20 => 20 | 213 => 164 | 232 => 166 | 233 => 167 | 80 => 96 | n => n, fun | 15 => 1 | 16 => 2 | 17 => 3 | 18 => 4 | 19 => 5 | n => n⟩
theorem Tryz.laysC174 : Go.Proofs.LaysC.n174 Tryz.prog Tryz.laysC174_ren := {
 mixed := by kernel_rfl
 f129 := Tryz.func66.trans (congrArg some (by kernel_rfl))
 f171 := Tryz.func110.trans (congrArg some (by kernel_rfl))
 f174 := Tryz.func91.trans (congrArg some (by kernel_rfl))
 f205 := Tryz.func109.trans (congrArg some (by kernel_rfl))
 f243 := Tryz.func111.trans (congrArg some (by kernel_rfl))
 f245 := Tryz.func99.trans (congrArg some (by kernel_rfl))
 f246 := Tryz.func112.trans (congrArg some (by kernel_rfl))
 f247 := Tryz.func98.trans (congrArg some (by kernel_rfl))
 f279 := Tryz.func103.trans (congrArg some (by kernel_rfl))
 f280 := Tryz.func104.trans (congrArg some (by kernel_rfl))
 f281 := Tryz.func105.trans (congrArg some (by kernel_rfl))
 f282 := Tryz.func106.trans (congrArg some (by kernel_rfl))
 f283 := Tryz.func113.trans (congrArg some (by kernel_rfl))
 f284 := Tryz.func114.trans (congrArg some (by kernel_rfl))
 f285 := Tryz.func115.trans (congrArg some (by kernel_rfl))
 f286 := Tryz.func116.trans (congrArg some (by kernel_rfl))
 f287 := Tryz.func102.trans (congrArg some (by kernel_rfl))
 f316 := Tryz.func89.trans (congrArg some (by kernel_rfl))
 f317 := Tryz.func117.trans (congrArg some (by kernel_rfl))
 f318 := Tryz.func118.trans (congrArg some (by kernel_rfl))
 f319 := Tryz.func119.trans (congrArg some (by kernel_rfl))
 f320 := Tryz.func120.trans (congrArg some (by kernel_rfl))
 f321 := Tryz.func107.trans (congrArg some (by kernel_rfl))
 f322 := Tryz.func108.trans (congrArg some (by kernel_rfl))
 f337 := Tryz.func121.trans (congrArg some (by kernel_rfl))
 f338 := Tryz.func122.trans (congrArg some (by kernel_rfl))
 t0 := Tryz.underlying0
 a0 := Tryz.isAgg0
 z0 := Tryz.sizeOf0
 v0 := Tryz.zeroValue0
 t2 := Tryz.underlying2
 a2 := Tryz.isAgg2
 z2 := Tryz.sizeOf2
 v2 := Tryz.zeroValue2
 t3 := Tryz.underlying3
 a3 := Tryz.isAgg3
 z3 := Tryz.sizeOf3
 v3 := Tryz.zeroValue3
 t4 := Tryz.underlying4
 a4 := Tryz.isAgg4
 z4 := Tryz.sizeOf4
 v4 := Tryz.zeroValue4
 t5 := Tryz.underlying5
 a5 := Tryz.isAgg5
 z5 := Tryz.sizeOf5
 v5 := Tryz.zeroValue5
 t9 := Tryz.underlying9
 a9 := Tryz.isAgg9
 z9 := Tryz.sizeOf9
 v9 := Tryz.zeroValue9
 t20 := Tryz.underlying20
 a20 := Tryz.isAgg20
 z20 := Tryz.sizeOf20
 v20 := Tryz.zeroValue20
 t21 := Tryz.underlying21
 a21 := Tryz.isAgg21
 z21 := Tryz.sizeOf21
 v21 := Tryz.zeroValue21
 t37 := Tryz.underlying114
 a37 := Tryz.isAgg114
 z37 := Tryz.sizeOf114
 v37 := Tryz.zeroValue114
 t46 := Tryz.underlying89
 a46 := Tryz.isAgg89
 z46 := Tryz.sizeOf89
 v46 := Tryz.zeroValue89
 t51 := Tryz.underlying111
 a51 := Tryz.isAgg111
 z51 := Tryz.sizeOf111
 v51 := Tryz.zeroValue111
 t53 := Tryz.underlying113
 a53 := Tryz.isAgg113
 z53 := Tryz.sizeOf113
 v53 := Tryz.zeroValue113
 t75 := Tryz.underlying132
 a75 := Tryz.isAgg132
 z75 := Tryz.sizeOf132
 v75 := Tryz.zeroValue132
 t85 := Tryz.underlying133
 a85 := Tryz.isAgg133
 z85 := Tryz.sizeOf133
 v85 := Tryz.zeroValue133
 t127 := Tryz.underlying140
 a127 := Tryz.isAgg140
 z127 := Tryz.sizeOf140
 v127 := Tryz.zeroValue140
 t143 := Tryz.underlying155
 a143 := Tryz.isAgg155
 z143 := Tryz.sizeOf155
 v143 := Tryz.zeroValue155
 t145 := Tryz.underlying157
 a145 := Tryz.isAgg157
 z145 := Tryz.sizeOf157
 v145 := Tryz.zeroValue157
 t167 := Tryz.underlying144
 a167 := Tryz.isAgg144
 z167 := Tryz.sizeOf144
 v167 := Tryz.zeroValue144
 t168 := Tryz.underlying147
 a168 := Tryz.isAgg147
 z168 := Tryz.sizeOf147
 v168 := Tryz.zeroValue147
 t171 := Tryz.underlying159
 a171 := Tryz.isAgg159
 z171 := Tryz.sizeOf159
 v171 := Tryz.zeroValue159
 t173 := Tryz.underlying161
 a173 := Tryz.isAgg161
 z173 := Tryz.sizeOf161
 v173 := Tryz.zeroValue161
 t175 := Tryz.underlying145
 a175 := Tryz.isAgg145
 z175 := Tryz.sizeOf145
 v175 := Tryz.zeroValue145
 t210 := Tryz.underlying152
 a210 := Tryz.isAgg152
 z210 := Tryz.sizeOf152
 v210 := Tryz.zeroValue152
 t212 := Tryz.underlying163
 a212 := Tryz.isAgg163
 z212 := Tryz.sizeOf163
 v212 := Tryz.zeroValue163
 t213 := Tryz.underlying164
 a213 := Tryz.isAgg164
 z213 := Tryz.sizeOf164
 t232 := Tryz.underlying166
 a232 := Tryz.isAgg166
 z232 := Tryz.sizeOf166
 v232 := Tryz.zeroValue166
 t233 := Tryz.underlying167
 a233 := Tryz.isAgg167
 z233 := Tryz.sizeOf167
 v233 := Tryz.zeroValue167
 g15 := by kernel_rfl
 g16 := by kernel_rfl
 g17 := by kernel_rfl
 g18 := by kernel_rfl
 g19 := by kernel_rfl
 t80 := Tryz.underlying96
 a80 := Tryz.isAgg96
 z80 := Tryz.sizeOf96
 v80 := Tryz.zeroValue96
 i0 := by kernel_rfl
 i2 := by kernel_rfl
 i3 := by kernel_rfl
 i4 := by kernel_rfl
 i5 := by kernel_rfl
 i9 := by kernel_rfl
 i20 := by kernel_rfl
 i21 := by kernel_rfl
 i37 := by kernel_rfl
 i46 := by kernel_rfl
 i51 := by kernel_rfl
 i53 := by kernel_rfl
 i75 := by kernel_rfl
 i80 := by kernel_rfl
 i85 := by kernel_rfl
 i127 := by kernel_rfl
 i143 := by kernel_rfl
 i145 := by kernel_rfl
 i167 := by kernel_rfl
 i168 := by kernel_rfl
 i171 := by kernel_rfl
 i173 := by kernel_rfl
 i175 := by kernel_rfl
 i210 := by kernel_rfl
 i212 := by kernel_rfl
 i232 := by kernel_rfl
 i233 := by kernel_rfl
 m15 := by kernel_rfl
 m16 := by kernel_rfl
 m17 := by kernel_rfl
 m18 := by kernel_rfl
 m19 := by kernel_rfl
 c0 := by kernel_rfl
 c2 := by kernel_rfl
 c3 := by kernel_rfl
 c4 := by kernel_rfl
 c5 := by kernel_rfl
 c9 := by kernel_rfl
 c20 := by kernel_rfl
 c21 := by kernel_rfl
 c37 := by kernel_rfl
 c46 := by kernel_rfl
 c51 := by kernel_rfl
 c53 := by kernel_rfl
 c75 := by kernel_rfl
 c80 := by kernel_rfl
 c85 := by kernel_rfl
 c127 := by kernel_rfl
 c143 := by kernel_rfl
 c145 := by kernel_rfl
 c167 := by kernel_rfl
 c168 := by kernel_rfl
 c171 := by kernel_rfl
 c173 := by kernel_rfl
 c175 := by kernel_rfl
 c210 := by kernel_rfl
 c212 := by kernel_rfl
 c213 := by kernel_rfl
 c232 := by kernel_rfl
 c233 := by kernel_rfl }
open Go.RowKit in
theorem Tryz.strconv_ParseInt_10_at64_ok (s : ByteArray) (hmax : s.size <= 9223372036854775806) (v : Int) (h : Lib.parseIntB 64 s.data.toList = .ok v) (w : World) :
  Calls Tryz.prog 91 #[.string s, .int .i64 10, .int .i64 64] w fun e w' => e = .returned (.tuple #[.int .i64 v, .nilIface]) /\ (w' = w ∨ ∃ t, w' = Lib.bytesWorld w 5 t) := Any.strconv_ParseInt_10_at64_ok Tryz.laysC174 s hmax v h w
open Go.RowKit in
theorem Tryz.strconv_ParseInt_10_at64_range_var (s : ByteArray) (hlim : s.size <= 281474976710656) (h : Lib.parseIntB 64 s.data.toList = .range) (tp : TypeId) (p : Value) (w : World) (hvar : w.var? Tryz.prog "strconv.ErrRange" = some #[.iface tp p]) :
  Calls Tryz.prog 91 #[.string s, .int .i64 10, .int .i64 64] w fun e w' => ∃ N, e = .returned (.tuple #[.int .i64 (Lib.intSat 64 s.data.toList), .iface 147 (.pointer (some ⟨N, 0, none⟩))]) /\ w.heap.size <= N /\ w'.heap[N]? = some (.cells #[.string ⟨#[80, 97, 114, 115, 101, 73, 110, 116]⟩, .string s, .iface tp p] 152 (0, 0)) /\ Below w.heap.size w w' := Any.strconv_ParseInt_10_at64_range_var Tryz.laysC174 s hlim h tp p w hvar
def Tryz.lays219_ren : Go.Shelf.Ren := ⟨fun | 219 => 88 | 217 => 94 | 225 => 95 | 224 => 96 | 267 => 97 | 266 => 100 | 314 => 101 | n => n, fun | 9 => 9 | 3 => 3 | 4 => 4 | 5 => 5 | 46 => 89 | 146 => 142 | 51 => 111 | n => n, fun | 1 => 0 | n => n⟩
theorem Tryz.lays219 : Go.Proofs.Lays.n219 Tryz.prog Tryz.lays219_ren := {
 mixed := by kernel_rfl
 f217 := Tryz.func94.trans (congrArg some (by kernel_rfl))
 f219 := Tryz.func88.trans (congrArg some (by kernel_rfl))
 f224 := Tryz.func96.trans (congrArg some (by kernel_rfl))
 f225 := Tryz.func95.trans (congrArg some (by kernel_rfl))
 f266 := Tryz.func100.trans (congrArg some (by kernel_rfl))
 f267 := Tryz.func97.trans (congrArg some (by kernel_rfl))
 f314 := Tryz.func101.trans (congrArg some (by kernel_rfl))
 t3 := Tryz.underlying3
 a3 := Tryz.isAgg3
 z3 := Tryz.sizeOf3
 v3 := Tryz.zeroValue3
 t4 := Tryz.underlying4
 a4 := Tryz.isAgg4
 z4 := Tryz.sizeOf4
 v4 := Tryz.zeroValue4
 t5 := Tryz.underlying5
 a5 := Tryz.isAgg5
 z5 := Tryz.sizeOf5
 v5 := Tryz.zeroValue5
 t9 := Tryz.underlying9
 a9 := Tryz.isAgg9
 z9 := Tryz.sizeOf9
 v9 := Tryz.zeroValue9
 t46 := Tryz.underlying89
 a46 := Tryz.isAgg89
 z46 := Tryz.sizeOf89
 v46 := Tryz.zeroValue89
 t51 := Tryz.underlying111
 a51 := Tryz.isAgg111
 z51 := Tryz.sizeOf111
 v51 := Tryz.zeroValue111
 t146 := Tryz.underlying142
 a146 := Tryz.isAgg142
 z146 := Tryz.sizeOf142
 v146 := Tryz.zeroValue142
 g1 := by kernel_rfl }
open Go.RowKit Go.Lib in
theorem Tryz.stringslite_Index_one (s : ByteArray) (c : UInt8) (w : World) :
  Calls Tryz.prog 88 #[.string s, .string ⟨#[c]⟩] w fun e w' => e = .returned (.int .i64 (Lib.indexByte s.data.toList c)) /\ w' = w := Any.stringslite_Index_one Tryz.lays219 s c w
end Go.Proofs
namespace Go.Proofs.YtfknfhajdiccgaaGreatDoor.Con
open Go Go.RowKit Go.Kt Go.Kt.V Go.Proofs.YtfknfhajdiccgaaGreatDoor.Vc
set_option linter.unusedSimpArgs false
set_option linter.unusedVariables false
theorem ret {P : Program} {f : FuncId} {a : Array Value} {w : World} {r : Value} {Q : World -> Prop} (h : Calls P f a w fun e w' => ∃ v, e = .returned v /\ v = r /\ Q w') : Calls P f a w fun e w' => e = .returned r /\ Q w' :=
 h.mono (by rintro e w' ⟨v, rfl, rfl, hq⟩; exact ⟨rfl, hq⟩)
theorem Blk.at1 {w : World} {b : Nat} {t : TypeId} {cs : List Value} (h : Blk w b t cs) (j : Nat) {v : Value} (hv : cs[j]? = some v) : Cells w ((⟨b, 0, none⟩ : Addr).add j) [v] := by
 rw [addr_lit, Nat.zero_add]
 exact h.cells j [v] fun k u hk => by
  cases k with
  | zero => simp only [List.getElem?_cons_zero, Option.some.injEq] at hk; subst hk; exact hv
  | succ k => simp at hk
def letterB (c : UInt8) : Bool := (65 <= c.toNat && c.toNat <= 90) || (97 <= c.toNat && c.toNat <= 122) || c.toNat == 95
def digitB (c : UInt8) : Bool := 48 <= c.toNat && c.toNat <= 57
def wordB (c : UInt8) : Bool := letterB c || digitB c
def blankB (c : UInt8) : Bool := [9, 10, 13, 32].contains c
theorem letter_all : ∀ n : Fin 256, (((decide (97 <= (bits .or .u8 (n.val : Int) 32))) && (decide ((bits .or .u8 (n.val : Int) 32) <= 122))) || ((n.val : Int) == 95)) = ((65 <= n.val && n.val <= 90) || (97 <= n.val && n.val <= 122) || n.val == 95) := by decide +kernel
theorem letter_c (w : World) (c : UInt8) : Calls Tryz.prog 49 #[.int .u8 (c.toNat : Int)] w fun e w' => e = .returned (.bool (letterB c)) /\ Only [] w w' := by
 refine ret (v47w _ (fun v w' => v = .bool (letterB c) /\ Only [] w w') w ?_)
 unfold v47v
 exact ⟨by rw [letter_all ⟨c.toNat, c.toNat_lt⟩]; rfl, Only.refl _ _⟩
theorem digit_c (w : World) (c : UInt8) : Calls Tryz.prog 51 #[.int .u8 (c.toNat : Int)] w fun e w' => e = .returned (.bool (digitB c)) /\ Only [] w w' := by
 refine ret (v46w _ (fun v w' => v = .bool (digitB c) /\ Only [] w w') w ?_)
 unfold v46v
 refine ⟨?_, Only.refl _ _⟩
 congr 1
 rw [Bool.eq_iff_iff]
 simp only [digitB, Bool.and_eq_true, decide_eq_true_eq]
 omega
theorem cdigit_c (w : World) (c : UInt8) : Calls Tryz.prog 90 #[.int .u8 (c.toNat : Int)] w fun e w' => e = .returned (.bool (digitB c)) /\ Only [] w w' := by
 refine ret (v3w _ (fun v w' => v = .bool (digitB c) /\ Only [] w w') w ?_)
 unfold v3v
 refine ⟨?_, Only.refl _ _⟩
 have h : ∀ n : Fin 256, decide ((IntKind.wrap .u8 ((n.val : Int) - 48)) < 10) = (decide (48 <= n.val) && decide (n.val <= 57)) := by decide +kernel
 rw [h ⟨c.toNat, c.toNat_lt⟩]
 rfl
theorem indexB_c {w : World} {F : Nat -> Prop} {s : Sl} {l : List UInt8} (h : SliceF rByte 1 w F s l) (c : UInt8) :
  Calls Tryz.prog 87 #[Sl.v s, .int .u8 (c.toNat : Int)] w fun e w' => ∃ i : Int, e = .returned (.int .i64 i) /\ decide (i >= 0) = l.contains c /\ Only [] w w' := by
 refine (v52w s _ (fun v w' => ∃ i : Int, v = .int .i64 i /\ decide (i >= 0) = l.contains c /\ Only [] w w') w ?_).mono (by
  rintro e w' ⟨v, rfl, i, rfl, h⟩; exact ⟨i, rfl, h⟩)
 unfold v52v
 have hlen := h.len
 have hbig := h.big
 have hcap := h.cap
 refine ⟨fun nv i w' => ∃ n : Nat, n <= l.length /\ i = (n : Int) /\ nv = l.length - n /\ (∀ x, x ∈ l.take n -> x ≠ c) /\ w' = w, l.length, ⟨0, Nat.zero_le _, rfl, rfl, by simp, rfl⟩, ?_⟩
 rintro nv _ _ ⟨n, hn, rfl, rfl, hp, rfl⟩
 refine ⟨fun hc => ?_, fun hc => ?_⟩
 · have hlt : (n : Int) < s.n := of_decide_eq_true hc
   obtain ⟨ad, x, cs, g1, g2, g3, g4, g5, g6⟩ := h.get (Int.natCast_nonneg n) hlt
   rw [Int.toNat_natCast] at g2
   unfold rByte byteV at g6
   subst g6
   refine ⟨ad, g1, _, g5, fun he => ⟨_, rfl, ?_, Only.refl _ _⟩, fun he => ⟨l.length - (n + 1), by omega, n + 1, by omega, by rw [wr' (by omega) (by omega)]; rfl, rfl, ?_, rfl⟩⟩
   · have he : c = x := UInt8.toNat_inj.1 (by have := of_decide_eq_true he; omega)
     rw [decide_eq_true (by omega)]
     symm
     rw [List.contains_iff_mem, he]
     exact List.mem_of_getElem? g2
   · intro y hy
     rw [List.take_add_one, g2] at hy
     simp only [Option.toList_some, List.mem_append, List.mem_singleton] at hy
     rcases hy with hy | rfl
     · exact hp y hy
     · rintro rfl
       simp at he
 · have hge : ¬ ((n : Int) < s.n) := of_decide_eq_false hc
   rw [List.take_of_length_le (by omega)] at hp
   refine ⟨_, rfl, ?_, Only.refl _ _⟩
   rw [decide_eq_false (by omega)]
   symm
   rw [Bool.eq_false_iff]
   intro hh
   exact hp c (List.contains_iff_mem.1 hh) rfl
theorem containsB_c {w : World} {F : Nat -> Prop} {s : Sl} {l : List UInt8} (h : SliceF rByte 1 w F s l) (c : UInt8) :
  Calls Tryz.prog 67 #[Sl.v s, .int .u8 (c.toNat : Int)] w fun e w' => e = .returned (.bool (l.contains c)) /\ Only [] w w' := by
 refine ret (v49w s _ (fun v w' => v = .bool (l.contains c) /\ Only [] w w') w ?_)
 unfold v49v
 refine (indexB_c h c).mono ?_
 rintro _ w1 ⟨i, rfl, hi, hO⟩
 exact ⟨i, rfl, by rw [hi], hO⟩
theorem one_c {w : World} {F : Nat -> Prop} {s : Sl} {l : List UInt8} (h : SliceF rByte 1 w F s l) (c : UInt8) :
  Calls Tryz.prog 45 #[.int .u8 (c.toNat : Int), Sl.v s] w fun e w' => e = .returned (.bool (l.contains c)) /\ Only [] w w' := by
 refine ret (v48w _ s (fun v w' => v = .bool (l.contains c) /\ Only [] w w') w ?_)
 unfold v48v
 refine (containsB_c h c).mono ?_
 rintro _ w1 ⟨rfl, hO⟩
 exact ⟨_, rfl, rfl, hO⟩
def rTx : Rp (List UInt8) := fun _ _ l cs => cs = [.string (T l)]
theorem rTx_ok : rTx.Ok where
 keep h _ := h
 inHeap h := h
 mono h _ := h
 one := by
  rintro w F x cs h v hv
  unfold rTx at h
  subst h
  simp only [List.mem_singleton] at hv
  subst hv; rfl
theorem indexS_c {w : World} {F : Nat -> Prop} {s : Sl} {l : List (List UInt8)} (h : SliceF rTx 1 w F s l) (c : List UInt8) :
  Calls Tryz.prog 41 #[Sl.v s, .string (T c)] w fun e w' => ∃ i : Int, e = .returned (.int .i64 i) /\ decide (i >= 0) = l.contains c /\ Only [] w w' := by
 refine (v53w s _ (fun v w' => ∃ i : Int, v = .int .i64 i /\ decide (i >= 0) = l.contains c /\ Only [] w w') w ?_).mono (by
  rintro e w' ⟨v, rfl, i, rfl, h⟩; exact ⟨i, rfl, h⟩)
 unfold v53v
 have hlen := h.len
 have hbig := h.big
 have hcap := h.cap
 refine ⟨fun nv i w' => ∃ n : Nat, n <= l.length /\ i = (n : Int) /\ nv = l.length - n /\ (∀ x, x ∈ l.take n -> x ≠ c) /\ w' = w, l.length, ⟨0, Nat.zero_le _, rfl, rfl, by simp, rfl⟩, ?_⟩
 rintro nv _ _ ⟨n, hn, rfl, rfl, hp, rfl⟩
 refine ⟨fun hc => ?_, fun hc => ?_⟩
 · have hlt : (n : Int) < s.n := of_decide_eq_true hc
   obtain ⟨ad, x, cs, g1, g2, g3, g4, g5, g6⟩ := h.get (Int.natCast_nonneg n) hlt
   rw [Int.toNat_natCast] at g2
   unfold rTx at g6
   subst g6
   refine ⟨ad, g1, _, g5, ?_⟩
   rw [T_eq]
   refine ⟨fun he => ⟨_, rfl, ?_, Only.refl _ _⟩, fun he => ⟨l.length - (n + 1), by omega, n + 1, by omega, by rw [wr' (by omega) (by omega)]; rfl, rfl, ?_, rfl⟩⟩
   · have he : c = x := of_decide_eq_true he
     rw [decide_eq_true (by omega)]
     symm
     rw [List.contains_iff_mem, he]
     exact List.mem_of_getElem? g2
   · intro y hy
     rw [List.take_add_one, g2] at hy
     simp only [Option.toList_some, List.mem_append, List.mem_singleton] at hy
     rcases hy with hy | rfl
     · exact hp y hy
     · rintro rfl
       simp at he
 · have hge : ¬ ((n : Int) < s.n) := of_decide_eq_false hc
   rw [List.take_of_length_le (by omega)] at hp
   refine ⟨_, rfl, ?_, Only.refl _ _⟩
   rw [decide_eq_false (by omega)]
   symm
   rw [Bool.eq_false_iff]
   intro hh
   exact hp c (List.contains_iff_mem.1 hh) rfl
theorem containsS_c {w : World} {F : Nat -> Prop} {s : Sl} {l : List (List UInt8)} (h : SliceF rTx 1 w F s l) (c : List UInt8) :
  Calls Tryz.prog 24 #[Sl.v s, .string (T c)] w fun e w' => e = .returned (.bool (l.contains c)) /\ Only [] w w' := by
 refine ret (v50w s _ (fun v w' => v = .bool (l.contains c) /\ Only [] w w') w ?_)
 unfold v50v
 refine (indexS_c h c).mono ?_
 rintro _ w1 ⟨i, rfl, hi, hO⟩
 exact ⟨i, rfl, by rw [hi], hO⟩
abbrev Cur (w : World) (b : Nat) (t : TypeId) (l : List UInt8) (i : Nat) (r : List Value) : Prop := Blk w b t (.string (T l) :: .int .i64 (i : Int) :: r)
theorem end_c {w : World} {b : Nat} {t : TypeId} {l : List UInt8} {i : Nat} {r : List Value} (h : Cur w b t l i r) :
  Calls Tryz.prog 30 #[.pointer (some ⟨b, 0, none⟩)] w fun e w' => e = .returned (.bool (decide (l.length <= i))) /\ Only [] w w' := by
 refine ret (v37w ⟨b, 0, none⟩ (fun v w' => v = .bool (decide (l.length <= i)) /\ Only [] w w') w ?_)
 unfold v37v
 refine ⟨i, Blk.at1 h 1 rfl, T l, Blk.at1 h 0 rfl, fun w0 hO => ⟨?_, hO⟩⟩
 rw [T_size]
 congr 1
 rw [decide_eq_decide]
 omega
theorem rest_c {w : World} {b : Nat} {t : TypeId} {l : List UInt8} {i : Nat} {r : List Value} (h : Cur w b t l i r) (hi : i <= l.length) :
  Calls Tryz.prog 47 #[.pointer (some ⟨b, 0, none⟩)] w fun e w' => e = .returned (.string (T (l.drop i))) /\ Only [] w w' := by
 refine ret (v38w ⟨b, 0, none⟩ (fun v w' => v = .string (T (l.drop i)) /\ Only [] w w') w ?_)
 unfold v38v
 refine ⟨T l, Blk.at1 h 0 rfl, i, Blk.at1 h 1 rfl, i, ⟨rfl, by rw [T_size]; exact hi⟩, fun w0 hO => ⟨?_, hO⟩⟩
 rw [T_ext, T_size, List.take_of_length_le (by rw [List.length_drop]; exact Nat.le_refl _)]
theorem take_while {p : UInt8 -> Bool} : ∀ {l : List UInt8} {n : Nat}, n <= l.length -> (∀ x, x ∈ l.take n -> p x = true) -> (∀ x, l[n]? = some x -> p x = false) -> l.takeWhile p = l.take n
 | [], n, _, _, _ => by simp
 | c :: r, 0, _, _, h => by
  have := h c rfl
  simp [this]
 | c :: r, n + 1, hn, h1, h2 => by
  have hc := h1 c (by simp)
  rw [List.takeWhile_cons, if_pos hc, List.take_succ_cons, take_while (n := n) (by simpa using hn) (fun x hx => h1 x (by simp [hx])) (fun x hx => h2 x (by simpa using hx))]
theorem row_c {w : World} {b : Nat} {t : TypeId} {l : List UInt8} {i : Nat} {r : List Value} (h : Cur w b t l i r) (hi : i <= l.length) (hl : l.length < 9223372036854775807) :
  Calls Tryz.prog 70 #[.pointer (some ⟨b, 0, none⟩)] w fun e w' => e = .returned (.string (T ((l.drop i).takeWhile wordB))) /\ Only [] w w' := by
 refine ret (v39w ⟨b, 0, none⟩ (fun v w' => v = .string (T ((l.drop i).takeWhile wordB)) /\ Only [] w w') w ?_)
 unfold v39v
 refine (rest_c h hi).mono ?_
 rintro _ w0 ⟨rfl, hO0⟩
 have hlr : (l.drop i).length <= l.length := by rw [List.length_drop]; omega
 generalize l.drop i = m at *
 refine ⟨T m, rfl, fun nv j w' => ∃ n : Nat, n <= m.length /\ j = (n : Int) /\ nv = m.length - n /\ (∀ x, x ∈ m.take n -> wordB x = true) /\ Only [] w w', m.length, ⟨0, Nat.zero_le _, rfl, rfl, by simp, hO0⟩, ?_⟩
 rintro nv _ w1 ⟨n, hn, rfl, rfl, hp, hO1⟩
 rw [T_size]
 refine ⟨fun b w' => (b = true -> ∃ x, m[n]? = some x /\ wordB x = true) /\ (b = false -> ∀ x, m[n]? = some x -> wordB x = false) /\ Only [] w w', ?_, fun hc => ?_, fun hc => ⟨fun e => (by cases e), fun _ x hx => ?_, hO1⟩⟩
 · rintro b w2 ⟨h1, h2, hO2⟩
   refine ⟨fun hb => ?_, fun hb => ⟨n, ⟨rfl, hn⟩, ?_, hO2⟩⟩
   · obtain ⟨x, hx, hw⟩ := h1 hb
     have hlt := (List.getElem?_eq_some_iff.1 hx).1
     refine ⟨m.length - (n + 1), by omega, n + 1, by omega, by rw [wr' (by omega) (by omega)]; rfl, rfl, fun y hy => ?_, hO2⟩
     rw [List.take_add_one, hx] at hy
     simp only [Option.toList_some, List.mem_append, List.mem_singleton] at hy
     rcases hy with hy | rfl
     · exact hp y hy
     · exact hw
   · rw [T_ext, List.drop_zero, Nat.sub_zero, take_while hn hp (h2 hb)]
 · have hlt : (n : Int) < m.length := of_decide_eq_true hc
   have hx : m[n]? = some (m[n]'(by omega)) := List.getElem?_eq_getElem (by omega)
   generalize m[n]'(by omega) = x at hx
   have hg : (T m)[Int.toNat (n : Int)]? = some x := by rw [T_get, Int.toNat_natCast, hx]
   refine ⟨x, ⟨Int.natCast_nonneg n, hg⟩, (letter_c w1 x).mono ?_⟩
   rintro _ w3 ⟨rfl, hO3⟩
   refine ⟨_, rfl, fun hb => ⟨fun _ => ⟨x, hx, by unfold wordB; rw [hb]; rfl⟩, fun e => (by cases e), hO1.tr0 hO3⟩, fun hb => ⟨x, ⟨Int.natCast_nonneg n, hg⟩, (digit_c w3 x).mono ?_⟩⟩
   rintro _ w4 ⟨rfl, hO4⟩
   refine ⟨_, rfl, fun hd => ⟨x, hx, by unfold wordB; rw [hd, Bool.or_true]⟩, fun hd y hy => ?_, hO1.tr0 (hO3.tr0 hO4)⟩
   rw [hx] at hy
   injection hy with hy
   subst hy
   unfold wordB
   rw [hb, hd]; rfl
 · have hge : ¬ (n : Int) < m.length := of_decide_eq_false hc
   have := (List.getElem?_eq_some_iff.1 hx).1
   omega
theorem hasPrefix_c (w : World) (l p : List UInt8) (hl : l.length < 9223372036854775807) (hp : p.length < 9223372036854775807) : Calls Tryz.prog 46 #[.string (T l), .string (T p)] w fun e w' => e = .returned (.bool (decide (l.take p.length = p))) /\ Only [] w w' := by
 refine ret (v56w _ _ (fun v w' => v = .bool (decide (l.take p.length = p)) /\ Only [] w w') w ?_)
 unfold v56v
 refine (ret (v32w (T l) (T p) (fun v w' => v = .bool (decide (l.take p.length = p)) /\ Only [] w w') w ?_)).mono ?_
 · unfold v32v
   rw [T_size, T_size]
   refine ⟨p.length, fun h => ⟨rfl, by have := of_decide_eq_true h; omega⟩, ?_, Only.refl _ _⟩
   rw [T_ext, T_eq, List.drop_zero, Nat.sub_zero]
   congr 1
   rw [Bool.eq_iff_iff]
   simp only [Bool.and_eq_true, decide_eq_true_eq]
   constructor
   · exact fun h => h.2
   · intro h
     refine ⟨?_, h⟩
     have := congrArg List.length h
     rw [List.length_take] at this
     omega
 · rintro _ w1 ⟨rfl, hO⟩
   exact ⟨_, rfl, rfl, hO⟩
theorem indexByte_while : ∀ (l : List UInt8) (c : UInt8), Lib.indexByte l c = if c ∈ l then ((l.takeWhile (· != c)).length : Int) else -1
 | [], c => by simp [Lib.indexByte]
 | b :: l, c => by
  rw [Lib.indexByte, indexByte_while l c]
  by_cases hbc : b = c
  · subst hbc; simp
  · by_cases hm : c ∈ l
    · have h1 : (b == c) = false := by simpa using hbc
      have h2 : (b != c) = true := by simpa using hbc
      have h3 : c ∈ b :: l := by simp [hm]
      rw [h1, if_pos hm, if_pos h3, List.takeWhile_cons, if_pos h2]
      simp
    · have h1 : (b == c) = false := by simpa using hbc
      have h3 : ¬ c ∈ b :: l := by simp [hm]; exact fun e => hbc e.symm
      rw [h1, if_neg hm, if_neg h3]
      simp
theorem while_none {c : UInt8} : ∀ {l : List UInt8}, ¬ c ∈ l -> l.takeWhile (· != c) = l
 | [], _ => rfl
 | b :: l, h => by
  simp only [List.mem_cons, not_or] at h
  rw [List.takeWhile_cons, if_pos (by simpa using fun e => h.1 e.symm), while_none h.2]
theorem while_take {p : UInt8 -> Bool} : ∀ {l : List UInt8}, l.takeWhile p = l.take (l.takeWhile p).length
 | [] => rfl
 | b :: l => by
  rw [List.takeWhile_cons]
  split
  · rw [List.length_cons, List.take_succ_cons, <- while_take]
  · rfl
theorem cut_c (w : World) (l : List UInt8) (c : UInt8) (hl : l.length < 9223372036854775807) : Calls Tryz.prog 48 #[.string (T l), .string (T [c])] w fun e w' => ∃ (s : ByteArray) (b : Bool), e = .returned (.tuple #[.string (T (l.takeWhile (· != c))), .string s, .bool b]) /\ Only [] w w' := by
 refine (v55w _ _ (fun v w' => ∃ (s : ByteArray) (b : Bool), v = (.tuple #[.string (T (l.takeWhile (· != c))), .string s, .bool b]) /\ Only [] w w') w ?_).mono (by
  rintro e w' ⟨v, rfl, s, b, rfl, h⟩; exact ⟨s, b, rfl, h⟩)
 unfold v55v
 refine (v31w (T l) (T [c]) (fun v w' => ∃ (s : ByteArray) (b : Bool), v = (.tuple #[.string (T (l.takeWhile (· != c))), .string s, .bool b]) /\ Only [] w w') w ?_).mono ?_
 · unfold v31v
   refine (Tryz.stringslite_Index_one (T l) c w).mono ?_
   rintro _ _ ⟨rfl, rfl⟩
   have e : (T l).data.toList = l := rfl
   rw [e, indexByte_while]
   refine ⟨_, rfl, fun h => ?_, fun h => ?_⟩
   · by_cases hm : c ∈ l
     · rw [if_pos hm]
       have hlt : (l.takeWhile (· != c)).length < l.length := by
        have h1 := List.takeWhile_append_dropWhile (p := (· != c)) (l := l)
        have h2 := congrArg List.length h1
        rw [List.length_append] at h2
        have h3 : l.dropWhile (· != c) ≠ [] := by
         intro h3
         rw [h3, List.append_nil] at h1
         rw [<- h1] at hm
         have := List.all_takeWhile (p := (· != c)) (l := l)
         rw [List.all_eq_true] at this
         have := this c (by rw [h1] at hm ⊢; exact hm)
         simp at this
        have h4 := List.length_pos_iff.2 h3
        omega
       have hk : (T l).extract 0 (l.takeWhile (· != c)).length = T (l.takeWhile (· != c)) := by
        rw [T_ext, List.drop_zero, Nat.sub_zero, <- while_take]
       refine ⟨(l.takeWhile (· != c)).length, ⟨rfl, by rw [T_size]; omega⟩, (l.takeWhile (· != c)).length + 1, ⟨by rw [T_size, wr' (by simp; omega) (by simp; omega)]; rfl, by rw [T_size]; omega⟩, fun w1 hO => ⟨(T l).extract ((l.takeWhile (· != c)).length + 1) (T l).size, true, ?_, hO⟩⟩
       rw [hk]
     · rw [if_neg hm] at h
       exact absurd (of_decide_eq_true h) (by omega)
   · by_cases hm : c ∈ l
     · rw [if_pos hm] at h
       exact absurd (of_decide_eq_false h) (by omega)
     · rw [while_none hm]
       exact ⟨_, _, rfl, Only.refl _ _⟩
 · rintro _ w1 ⟨v, rfl, s, b, rfl, hO⟩
   exact ⟨_, s, b, rfl, s, b, rfl, hO⟩
end Go.Proofs.YtfknfhajdiccgaaGreatDoor.Con
namespace Go.Proofs.YtfknfhajdiccgaaGreatDoor.Con
open Go Go.RowKit Go.Kt Go.Kt.V Go.Proofs.YtfknfhajdiccgaaGreatDoor.Vc
set_option linter.unusedSimpArgs false
set_option linter.unusedVariables false
set_option maxHeartbeats 4000000
theorem buildB (w : World) (l : List UInt8) {n : Nat} {parts : Array (Nat × Value)} (hp : parts = (((l.map byteV).zipIdx 0).map fun x => (x.2, x.1)).toArray) (hn : l.length = n) (h0 : 0 < n) (hsm : n * 1 <= 16777216) :
  ∃ s w', (Instr.buildSlice 114 n parts).run Tryz.prog w = .ok (Sl.v s) w' /\ Own rByte 1 5 w.heap.size w' (fun _ => True) s l /\ Only [] w w' /\ s.a = some ⟨w.heap.size, 0, none⟩ := by
 obtain ⟨s, w', h1, h2, h3, h4, _⟩ := build_own (P := Tryz.prog) (t := 114) (e := 5) (i := Tryz.t5) (w := w) (F := fun _ => True) (r := rByte) (size := 1) (vs := l.map byteV) (xs := l) (len := n) (by kernel_rfl) (by kernel_rfl) rfl rfl (by decide) hp (by rw [List.length_map]; exact hn) h0 hsm rByte_ok (by
  clear hp hn
  induction l with
  | nil => exact trivial
  | cons a l ih => exact ⟨⟨rfl, rfl⟩, ih⟩)
 exact ⟨s, w', h1, h2, h3, h4⟩
theorem all2_tx (l : List (List UInt8)) (w : World) : Els rTx 1 w (fun _ => True) l ((l.map fun x => Value.string (T x)).map fun v => v.cells.toList) := by
 induction l with
 | nil => exact trivial
 | cons a l ih => exact ⟨⟨rfl, rfl⟩, ih⟩
theorem buildS (w : World) (l : List (List UInt8)) {n : Nat} {parts : Array (Nat × Value)} (hp : parts = (((l.map fun x => Value.string (T x)).zipIdx 0).map fun x => (x.2, x.1)).toArray) (hn : l.length = n) (h0 : 0 < n) (hsm : n * 1 <= 16777216) :
  ∃ s w', (Instr.buildSlice 26 n parts).run Tryz.prog w = .ok (Sl.v s) w' /\ Own rTx 1 9 w.heap.size w' (fun _ => True) s l /\ Only [] w w' := by
 obtain ⟨s, w', h1, h2, h3, _⟩ := build_own (P := Tryz.prog) (t := 26) (e := 9) (i := Tryz.t9) (w := w) (F := fun _ => True) (r := rTx) (size := 1) (vs := l.map fun x => Value.string (T x)) (xs := l) (len := n) (by kernel_rfl) (by kernel_rfl) rfl rfl (by decide) hp (by rw [List.length_map]; exact hn) h0 hsm rTx_ok (all2_tx l w)
 exact ⟨s, w', h1, h2, h3⟩
theorem flatO {α : Type} {r : Rp α} {size : Nat} {e : TypeId} {B : Nat} {w : World} {F : Nat -> Prop} {s : Sl} {xs : List α} (hr : r.Ok) (hf : ∀ w F G x cs, r w F x cs -> r w G x cs) (h : Own r size e B w F s xs) : SliceF r size w (fun k => B <= k /\ s.a = some ⟨k, 0, none⟩) s xs := by
 rcases h with ⟨rfl, rfl⟩ | ⟨g, css, tail, a1, a2, a4, a5, a6, a7, a9, a8⟩
 · exact SliceF.nil _ _ _ _
 · have h' : Own r size e B w (fun _ => False) s xs := .inr ⟨g, css, tail, a1, a2, a4, a5, a6, a7, a9, All2.imp (fun _ _ h => ⟨h.1, hf _ _ _ _ _ h.2⟩) a8⟩
   exact (h'.slice hr).mono hr fun k hk => hk.elim False.elim id
theorem flatB {e : TypeId} {B : Nat} {w : World} {F : Nat -> Prop} {s : Sl} {xs : List UInt8} (h : Own rByte 1 e B w F s xs) : SliceF rByte 1 w (fun k => B <= k /\ s.a = some ⟨k, 0, none⟩) s xs := flatO rByte_ok (fun _ _ _ _ _ h => h) h
theorem flatS {e : TypeId} {B : Nat} {w : World} {F : Nat -> Prop} {s : Sl} {xs : List (List UInt8)} (h : Own rTx 1 e B w F s xs) : SliceF rTx 1 w (fun k => B <= k /\ s.a = some ⟨k, 0, none⟩) s xs := flatO rTx_ok (fun _ _ _ _ _ h => h) h
def skN : Bool -> List UInt8 -> Nat
 | _, [] => 0
 | true, c :: r => 1 + skN (c != 10) r
 | false, c :: r => if blankB c then 1 + skN false r else if c == 47 && r.head? == some 47 then 1 + skN true r else 0
theorem skN_le : ∀ {b : Bool} {l : List UInt8}, skN b l <= l.length
 | b, [] => by simp [skN]
 | true, c :: r => by
  rw [skN, List.length_cons]
  have := skN_le (b := c != 10) (l := r)
  omega
 | false, c :: r => by
  rw [skN, List.length_cons]
  have h1 := skN_le (b := false) (l := r)
  have h2 := skN_le (b := true) (l := r)
  split
  · omega
  · split <;> omega
theorem skN_note : ∀ (l : List UInt8), skN true l = (l.takeWhile (· != 10)).length + skN false (l.drop (l.takeWhile (· != 10)).length)
 | [] => rfl
 | c :: r => by
  by_cases hc : c = 10
  · subst hc
    rw [skN]
    simp [skN, blankB]
  · have h : (c != 10) = true := by simpa using hc
    rw [skN, h, skN_note r, List.takeWhile_cons, if_pos h, List.length_cons, List.drop_succ_cons]
    omega
theorem skN_slash {l : List UInt8} (h : l.take 2 = [47, 47]) : skN false l = (l.takeWhile (· != 10)).length + skN false (l.drop (l.takeWhile (· != 10)).length) := by
 match l, h with
 | a :: b :: r, h =>
  simp only [List.take_succ_cons, List.take_zero, List.cons.injEq, and_true] at h
  obtain ⟨rfl, rfl⟩ := h
  have e : skN false (47 :: 47 :: r) = 1 + skN true (47 :: r) := by
   conv => lhs; rw [skN]
   rw [if_neg (by decide), if_pos (by simp)]
  have e2 := skN_note (47 :: r)
  have e3 : (47 :: 47 :: r : List UInt8).takeWhile (· != 10) = 47 :: (47 :: r : List UInt8).takeWhile (· != 10) := by
   rw [List.takeWhile_cons, if_pos (by decide)]
  rw [e, e2, e3, List.length_cons, List.drop_succ_cons]
  omega
theorem drop_cons {l : List UInt8} {j : Nat} {x : UInt8} (h : l[j]? = some x) : l.drop j = x :: l.drop (j + 1) := by
 obtain ⟨h1, h2⟩ := List.getElem?_eq_some_iff.1 h
 rw [List.drop_eq_getElem_cons h1, h2]
theorem skip_c {w : World} {b : Nat} {t : TypeId} {l : List UInt8} {i : Nat} {r : List Value} (h : Cur w b t l i r) (hi : i <= l.length) (hl : l.length < 9223372036854775807) :
  Calls Tryz.prog 29 #[.pointer (some ⟨b, 0, none⟩)] w fun e w' => e = .returned (.tuple #[]) /\ Only [b] w w' /\ Cur w' b t l (i + skN false (l.drop i)) r := by
 refine ret (v40w ⟨b, 0, none⟩ (fun v w' => v = .tuple #[] /\ Only [b] w w' /\ Cur w' b t l (i + skN false (l.drop i)) r) w ?_)
 unfold v40v
 refine ⟨fun nv w' => ∃ j : Nat, j <= l.length /\ nv = l.length - j /\ i + skN false (l.drop i) = j + skN false (l.drop j) /\ Only [b] w w' /\ Cur w' b t l j r, l.length - i, ⟨i, hi, rfl, rfl, Only.refl _ _, h⟩, ?_⟩
 rintro nv w0 ⟨j, hj, rfl, hjs, hO0, h0⟩
 have kp : ∀ {u u' : World} {n : Nat}, Only [] u u' -> Cur u b t l n r -> Cur u' b t l n r := fun hO hC => (hO.block b hC.lt (by simp)).trans hC
 refine (end_c h0).mono ?_
 rintro _ w1 ⟨rfl, hO1⟩
 have h1 := kp hO1 h0
 refine ⟨_, rfl, fun hc => ?_, fun hc => ⟨rfl, hO0.trans hO1 (by simp), ?_⟩⟩
 · have hlt : j < l.length := by simpa using hc
   have hx : l[j]? = some l[j] := List.getElem?_eq_getElem hlt
   generalize l[j] = x at hx
   have hd := drop_cons hx
   refine ⟨T l, Blk.at1 h1 0 rfl, j, Blk.at1 h1 1 rfl, x, ⟨Int.natCast_nonneg j, by rw [T_get, Int.toNat_natCast, hx]⟩, fun w2 hO2 => ?_⟩
   obtain ⟨s, w3, k1, k2, k3, _⟩ := buildB w2 [9, 10, 13, 32] (n := 4) (parts := #[(0, .int .u8 9), (1, .int .u8 10), (2, .int .u8 13), (3, .int .u8 32)]) rfl rfl (by decide) (by decide)
   refine ⟨s, w3, k1, (one_c (flatB k2) x).mono ?_⟩
   rintro _ w4 ⟨rfl, hO4⟩
   have hO14 := hO2.tr0 (k3.tr0 hO4)
   have h4 := kp hO14 h1
   have hO04 : Only [b] w w4 := hO0.trans (hO1.tr0 hO14) (by simp)
   refine ⟨_, rfl, fun hb => ⟨j, Blk.at1 h4 1 rfl, b, 1, _, t, by rw [addr_lit], h4, by simp, fun w5 hO5 hB5 => ⟨l.length - (j + 1), by omega, j + 1, by omega, rfl, ?_, hO04.trans hO5 (by simp), ?_⟩⟩, fun hb => (rest_c h4 hj).mono ?_⟩
   · have e : blankB x = true := hb
     rw [hjs, hd, skN, if_pos e]
     omega
   · rw [wr' (by omega) (by omega)] at hB5
     exact hB5
   rintro _ w6 ⟨rfl, hO6⟩
   have h6 := kp hO6 h4
   have hlr : (l.drop j).length <= l.length := by rw [List.length_drop]; omega
   refine ⟨_, rfl, (hasPrefix_c w6 (l.drop j) [47, 47] (by omega) (by decide)).mono ?_⟩
   rintro _ w7 ⟨rfl, hO7⟩
   have h7 := kp hO7 h6
   refine ⟨_, rfl, fun hs => (rest_c h7 hj).mono ?_, fun hs => ⟨rfl, hO04.trans (hO6.tr0 hO7) (by simp), ?_⟩⟩
   · rintro _ w8 ⟨rfl, hO8⟩
     have h8 := kp hO8 h7
     refine ⟨_, rfl, (cut_c w8 (l.drop j) 10 (by omega)).mono ?_⟩
     rintro _ w9 ⟨s9, b9, rfl, hO9⟩
     have h9 := kp hO9 h8
     have hs' : (l.drop j).take 2 = [47, 47] := of_decide_eq_true hs
     have hk := skN_slash hs'
     have hlen : ((l.drop j).takeWhile (· != 10)).length <= (l.drop j).length := by
      rw [while_take, List.length_take]
      exact Nat.min_le_right _ _
     have hpos : 0 < ((l.drop j).takeWhile (· != 10)).length := by
      match hq : l.drop j, hs' with
      | a :: r', hs' =>
       have : a = 47 := by
        match r', hs' with
        | b' :: r'', hs' => simp at hs'; exact hs'.1
       subst this
       simp
     have hld : (l.drop j).length = l.length - j := List.length_drop
     generalize hn : ((l.drop j).takeWhile (· != 10)).length = n at *
     refine ⟨_, s9, b9, rfl, j, Blk.at1 h9 1 rfl, b, 1, _, t, by rw [addr_lit], h9, by simp, fun w10 hO10 hB10 => ⟨l.length - (j + n), by omega, j + n, by omega, rfl, ?_, (hO04.trans (hO6.tr0 (hO7.tr0 (hO8.tr0 hO9))) (by simp)).trans hO10 (by simp), ?_⟩⟩
     · rw [hjs, hk, List.drop_drop]
       omega
     · rw [T_size, hn, wr' (by omega) (by omega)] at hB10
       exact hB10
   · have hs : ¬ (l.drop j).take 2 = [47, 47] := of_decide_eq_false hs
     have hb : blankB x = false := hb
     have hz : skN false (l.drop j) = 0 := by
      rw [hd, skN, if_neg (by simp [hb]), if_neg]
      intro hh
      apply hs
      rw [hd]
      simp only [Bool.and_eq_true, beq_iff_eq] at hh
      obtain ⟨rfl, hh⟩ := hh
      cases hr : l.drop (j + 1) with
      | nil => rw [hr] at hh; simp at hh
      | cons y z =>
       rw [hr] at hh
       simp only [List.head?_cons, Option.some.injEq] at hh
       rw [hh]; rfl
     rw [hjs, hz]
     exact h7
 · have hge : l.length <= j := by simpa using hc
   have hz : l.drop j = [] := List.drop_of_length_le hge
   rw [hjs, hz]
   exact h1
def Er (w : World) : Prop := ∃ tp p, w.var? Tryz.prog "strconv.ErrRange" = some #[.iface tp p]
theorem er_num : Tryz.prog.globalNamed "strconv.ErrRange" = some 2 := by kernel_rfl
theorem Er.keep {w w' : World} (h : Er w) (hk : 2 < w.heap.size -> w'.heap[2]? = w.heap[2]?) : Er w' := by
 obtain ⟨tp, p, h⟩ := h
 refine ⟨tp, p, ?_⟩
 unfold World.var? at h ⊢
 rw [er_num] at h ⊢
 simp only [Option.bind_some] at h ⊢
 rw [hk]
 · exact h
 · refine Decidable.byContradiction fun hn => ?_
   rw [Array.getElem?_eq_none (by omega)] at h
   cases h
theorem Er.lt {w : World} (h : Er w) : 2 < w.heap.size := by
 obtain ⟨tp, p, h⟩ := h
 unfold World.var? at h
 rw [er_num] at h
 simp only [Option.bind_some] at h
 refine Decidable.byContradiction fun hn => ?_
 rw [Array.getElem?_eq_none (by omega)] at h
 cases h
theorem Er.only {w w' : World} (h : Er w) (hO : Only [] w w') : Er w' := h.keep fun hlt => hO.block _ hlt (by simp)
def decV (a : Nat) (ds : List UInt8) : Nat := ds.foldl (fun a c => a * 10 + (c.toNat - 48)) a
theorem decV_ge : ∀ (ds : List UInt8) (a : Nat), a <= decV a ds
 | [], a => Nat.le_refl _
 | c :: r, a => by
  have := decV_ge r (a * 10 + (c.toNat - 48))
  show a <= decV (a * 10 + (c.toNat - 48)) r
  omega
theorem pum : ∀ (ds : List UInt8) (a : Nat), (∀ c, c ∈ ds -> digitB c = true) -> a <= 18446744073709551615 ->
  Lib.parseUintM 18446744073709551615 a ds = if decV a ds <= 18446744073709551615 then .ok (decV a ds) else .range
 | [], a, _, h => by rw [Lib.parseUintM]; exact (if_pos h).symm
 | c :: r, a, hd, h => by
  have hc := hd c (by simp)
  simp only [digitB, Bool.and_eq_true, decide_eq_true_eq] at hc
  have e : decV a (c :: r) = decV (a * 10 + (c.toNat - 48)) r := rfl
  have hge := decV_ge r (a * 10 + (c.toNat - 48))
  rw [Lib.parseUintM, if_pos hc, e]
  split
  · rw [if_neg (by omega)]
  · split
    · rw [if_neg (by omega)]
    · rw [pum r _ (fun x hx => hd x (by simp [hx])) (by omega)]
theorem pib {ds : List UInt8} (hd : ∀ c, c ∈ ds -> digitB c = true) (hne : ds ≠ []) : Lib.parseIntB 64 ds = if decV 0 ds < 9223372036854775808 then .ok (decV 0 ds : Int) else .range := by
 match ds, hne with
 | c :: r, _ =>
  have hc := hd c (by simp)
  simp only [digitB, Bool.and_eq_true, decide_eq_true_eq] at hc
  have h1 : ¬ (c.toNat = 43 ∨ c.toNat = 45) := by omega
  have h2 : ¬ c.toNat = 45 := by omega
  have h3 : Lib.parseUintB 64 (c :: r) = Lib.parseUintM 18446744073709551615 0 (c :: r) := by
   rw [Lib.parseUintB, if_neg (by simp)]
  unfold Lib.parseIntB
  dsimp only
  rw [if_neg h1, h3, pum _ _ hd (by decide)]
  by_cases hv : decV 0 (c :: r) <= 18446744073709551615
  · rw [if_pos hv]
    by_cases hw : decV 0 (c :: r) < 9223372036854775808
    · rw [if_pos hw]
      simp [h2]; omega
    · rw [if_neg hw]
      simp [h2]; omega
  · rw [if_neg hv, if_neg (by omega)]
def parseM (l : List UInt8) : Nat × Nat × Int :=
 if l = [] then (0, 0, 3) else if l.takeWhile digitB = [] ∨ (1 < (l.takeWhile digitB).length /\ l.head? = some 48) then (0, 0, 4)
 else if decV 0 (l.takeWhile digitB) < 9223372036854775808 then (decV 0 (l.takeWhile digitB), (l.takeWhile digitB).length, 0) else (0, 0, 20)
theorem while_all {p : UInt8 -> Bool} {l : List UInt8} : ∀ c, c ∈ l.takeWhile p -> p c = true := by
 have := List.all_takeWhile (p := p) (l := l)
 rwa [List.all_eq_true] at this
theorem cparse_c {w : World} {l : List UInt8} (hE : Er w) (hl : l.length < 281474976710656) :
  Calls Tryz.prog 72 #[.string (T l)] w fun e w' => e = .returned (.tuple #[.int .i64 (parseM l).1, .int .i64 (parseM l).2.1, .int .i64 (parseM l).2.2]) /\ Only [] w w' := by
 refine ret (v2w (T l) (fun v w' => v = .tuple #[.int .i64 (parseM l).1, .int .i64 (parseM l).2.1, .int .i64 (parseM l).2.2] /\ Only [] w w') w ?_)
 unfold v2v
 refine ⟨fun nv j w' => ∃ n : Nat, n <= l.length /\ j = (n : Int) /\ nv = l.length - n /\ (∀ x, x ∈ l.take n -> digitB x = true) /\ Only [] w w', l.length, ⟨0, Nat.zero_le _, rfl, rfl, by simp, Only.refl _ _⟩, ?_⟩
 rintro nv _ w0 ⟨n, hn, rfl, rfl, hp, hO0⟩
 rw [T_size]
 refine ⟨fun b w' => (b = true -> ∃ x, l[n]? = some x /\ digitB x = true) /\ (b = false -> ∀ x, l[n]? = some x -> digitB x = false) /\ Only [] w w', ?_, fun hc => ?_, fun hc => ⟨fun e => (by cases e), fun _ x hx => ?_, hO0⟩⟩
 · rintro b w1 ⟨h1, h2, hO1⟩
   refine ⟨fun hb => ?_, fun hb => ?_⟩
   · obtain ⟨x, hx, hw⟩ := h1 hb
     have hlt := (List.getElem?_eq_some_iff.1 hx).1
     refine ⟨l.length - (n + 1), by omega, n + 1, by omega, by rw [wr' (by omega) (by omega)]; rfl, rfl, fun y hy => ?_, hO1⟩
     rw [List.take_add_one, hx] at hy
     simp only [Option.toList_some, List.mem_append, List.mem_singleton] at hy
     rcases hy with hy | rfl
     · exact hp y hy
     · exact hw
   have hds := take_while hn hp (h2 hb)
   have hdl : (l.takeWhile digitB).length = n := by rw [hds, List.length_take]; omega
   have e0 : (ByteArray.mk #[]) = T [] := rfl
   rw [e0, T_eq]
   refine ⟨fun h0 => ⟨?_, hO1⟩, fun h0 => ?_⟩
   · have h0 : l = [] := of_decide_eq_true h0
     rw [parseM, if_pos h0]; rfl
   have h0 : ¬ l = [] := of_decide_eq_false h0
   refine ⟨fun b w' => b = decide (l.takeWhile digitB = [] ∨ (1 < (l.takeWhile digitB).length /\ l.head? = some 48)) /\ Only [] w w', ?_, fun hz => ?_, fun hz => ?_⟩
   · rintro b w2 ⟨rfl, hO2⟩
     refine ⟨fun hb => ⟨?_, hO2⟩, fun hb => ⟨n, ⟨rfl, hn⟩, ?_⟩⟩
     · rw [parseM, if_neg h0, if_pos (of_decide_eq_true hb)]; rfl
     have hb := of_decide_eq_false hb
     have hx : (T l).extract 0 n = T (l.takeWhile digitB) := by rw [T_ext, List.drop_zero, Nat.sub_zero, hds]
     rw [hx]
     have hne : l.takeWhile digitB ≠ [] := fun e => hb (.inl e)
     have hpi := pib (while_all (p := digitB) (l := l)) hne
     have hsz : (T (l.takeWhile digitB)).size <= 281474976710656 := by rw [T_size]; omega
     by_cases hv : decV 0 (l.takeWhile digitB) < 9223372036854775808
     · rw [if_pos hv] at hpi
       refine (Tryz.strconv_ParseInt_10_at64_ok (T (l.takeWhile digitB)) (Nat.le_trans hsz (by decide)) _ hpi w2).mono ?_
       rintro _ w3 ⟨rfl, hw⟩
       have hO3 : Only [] w2 w3 := by
        rcases hw with rfl | ⟨s, rfl⟩
        · exact Only.refl _ _
        · exact Only.of_below (Lib.bytesWorld_below _ _ _)
       refine ⟨_, ⟨.nilIface, rfl⟩, rfl, .inl rfl, fun e => (by cases e), fun _ => ⟨?_, hO2.tr0 hO3⟩⟩
       rw [parseM, if_neg h0, if_neg hb, if_pos hv, hdl]
     · rw [if_neg hv] at hpi
       obtain ⟨tp, p, hvar⟩ := hE.only hO2
       refine (Tryz.strconv_ParseInt_10_at64_range_var (T (l.takeWhile digitB)) hsz hpi tp p w2 hvar).mono ?_
       rintro _ w3 ⟨N, rfl, _, _, hw⟩
       refine ⟨_, ⟨.iface _ _, rfl⟩, rfl, .inr ⟨_, _, rfl⟩, fun _ => ⟨?_, hO2.tr0 (Only.of_below hw)⟩, fun e => (by cases e)⟩
       rw [parseM, if_neg h0, if_neg hb, if_neg hv]; rfl
   · have hz : n = 0 := by simpa using hz
     subst hz
     refine ⟨?_, hO1⟩
     symm
     rw [decide_eq_true (.inl (List.eq_nil_of_length_eq_zero hdl))]
     rfl
   · have hz : n ≠ 0 := by simpa using hz
     obtain ⟨x, r, rfl⟩ : ∃ x r, l = x :: r := by
      cases l with
      | nil => exact absurd rfl h0
      | cons x r => exact ⟨x, r, rfl⟩
     refine ⟨x, fun _ => ⟨Int.le_refl _, by rw [T_get]; rfl⟩, ?_, hO1⟩
     have hne : (x :: r).takeWhile digitB ≠ [] := fun e => by rw [e] at hdl; exact hz hdl.symm
     rw [hdl, Bool.eq_iff_iff]
     simp only [Bool.and_eq_true, decide_eq_true_eq, beq_iff_eq, List.head?_cons, Option.some.injEq]
     constructor
     · rintro ⟨h1, h2⟩
       exact .inr ⟨by omega, UInt8.toNat_inj.1 (by show x.toNat = 48; omega)⟩
     · rintro (h | ⟨h1, rfl⟩)
       · exact absurd h hne
       · exact ⟨by omega, rfl⟩
 · have hlt : (n : Int) < l.length := of_decide_eq_true hc
   have hx : l[n]? = some (l[n]'(by omega)) := List.getElem?_eq_getElem (by omega)
   generalize l[n]'(by omega) = x at hx
   refine ⟨x, ⟨Int.natCast_nonneg n, by rw [T_get, Int.toNat_natCast, hx]⟩, (cdigit_c w0 x).mono ?_⟩
   rintro _ w3 ⟨rfl, hO3⟩
   refine ⟨_, rfl, fun hb => ⟨x, hx, hb⟩, fun hd y hy => ?_, hO0.tr0 hO3⟩
   rw [hx] at hy
   injection hy with hy
   subst hy
   exact hd
 · have hge : ¬ (n : Int) < l.length := of_decide_eq_false hc
   have := (List.getElem?_eq_some_iff.1 hx).1
   omega
structure Tk where
 k : Int
 t : List UInt8
 n : Int
 a : Int
deriving DecidableEq
def Tk.v (x : Tk) : Value := .agg #[.int .i64 x.k, .string (T x.t), .int .i64 x.n, .int .i64 x.a]
def rTk : Rp Tk := fun _ _ x cs => cs = [.int .i64 x.k, .string (T x.t), .int .i64 x.n, .int .i64 x.a]
theorem rTk_ok : rTk.Ok where
 keep h _ := h
 inHeap h := h
 mono h _ := h
 one := by
  rintro w F x cs h v hv
  unfold rTk at h
  subst h
  simp only [List.mem_cons, List.not_mem_nil, or_false] at hv
  rcases hv with rfl | rfl | rfl | rfl <;> rfl
abbrev OwnK (B : Nat) (w : World) (s : Sl) (xs : List Tk) : Prop := Own rTk 4 60 B w (fun _ => True) s xs
theorem OwnK.of {B : Nat} {w : World} {F : Nat -> Prop} {s : Sl} {xs : List Tk} (h : Own rTk 4 60 B w F s xs) : OwnK B w s xs := h.mono rTk_ok fun _ _ => trivial
theorem OwnK.sl {B : Nat} {w : World} {s : Sl} {xs : List Tk} (h : OwnK B w s xs) : SliceF rTk 4 w (fun k => B <= k /\ s.a = some ⟨k, 0, none⟩) s xs := flatO rTk_ok (fun _ _ _ _ _ h => h) h
theorem OwnK.flat {B : Nat} {w : World} {s : Sl} {xs : List Tk} (h : OwnK B w s xs) : Own rTk 4 60 B w (fun _ => False) s xs := by
 rcases h with h | ⟨g, css, tail, a1, a2, a4, a5, a6, a7, a9, a8⟩
 · exact .inl h
 · exact .inr ⟨g, css, tail, a1, a2, a4, a5, a6, a7, a9, All2.imp (fun _ _ h => h) a8⟩
theorem OwnK.keep {B : Nat} {w w' : World} {s : Sl} {xs : List Tk} (h : OwnK B w s xs) (hk : ∀ k, B <= k /\ s.a = some ⟨k, 0, none⟩ -> k < w.heap.size -> w'.heap[k]? = w.heap[k]?) : OwnK B w' s xs :=
 OwnK.of (h.flat.keep rTk_ok fun k hF hlt => hk k (hF.elim False.elim id) hlt)
theorem OwnK.only {B : Nat} {w w' : World} {s : Sl} {xs : List Tk} (h : OwnK B w s xs) (hO : Only [] w w') : OwnK B w' s xs := h.keep fun k _ hlt => hO.block k hlt (by simp)
theorem OwnK.p {B : Nat} {w w' : World} {s : Sl} {xs : List Tk} {D : Nat -> Prop} (h : OwnK B w s xs) (hO : OnlyP D w w') (hD : ∀ k, B <= k -> s.a = some ⟨k, 0, none⟩ -> ¬ D k) : OwnK B w' s xs := h.keep fun k hk hlt => hO.block k hlt (hD k hk.1 hk.2)
theorem push_k {w : World} {B : Nat} {s : Sl} {xs : List Tk} (t : Tk) (hs : OwnK B w s xs) (hB : B <= w.heap.size) (hm : (xs.length + 1) * 40 <= 140737488355328) :
  ∃ y w1, (Instr.buildSlice 54 1 #[(0, t.v)]).run Tryz.prog w = .ok (Sl.v y) w1 /\ Only [] w w1 /\ ∃ s' w2, (Builtin.append_ #[54, 54] 54 #[Sl.v s, Sl.v y]).run Tryz.prog w1 = .ok (Sl.v s') w2 /\ OwnK B w2 s' (xs ++ [t]) /\ OnlyP (fun k => B <= k /\ s.a = some ⟨k, 0, none⟩) w1 w2 := by
 obtain ⟨y, w1, k1, k2, s', w2, k3, k4, ⟨gs, k5, k6⟩, _⟩ := app_one (P := Tryz.prog) (t := 54) (ty := 54) (e := 60) (i := Tryz.t60) (bytes := 40) (size := 4) (v := t.v) (x := t) (G := fun _ => False) (by kernel_rfl) (by kernel_rfl) rfl rfl rfl rfl (by decide) (by decide) (by decide) rTk_ok hs hB rfl rfl (fun k hk _ => hk.elim) hm
 exact ⟨y, w1, k1, k2, s', w2, k3, OwnK.of k4, k5.p fun g hg => .inl ⟨(k6 g hg).2.1, (k6 g hg).1⟩⟩
def wordsL : List (List UInt8) := [[97, 102, 116, 101, 114], [97, 108, 119, 97, 121, 115], [99, 104, 97, 114, 116], [100, 101, 101, 112], [101, 109, 105, 116], [101, 110, 116, 101, 114], [104, 105, 115, 116, 111, 114, 121], [105, 110], [105, 110, 105, 116, 105, 97, 108], [108, 101, 97, 118, 101], [111, 110], [112, 97, 114, 97, 108, 108, 101, 108], [114, 97, 105, 115, 101], [115, 101, 116], [115, 116, 97, 116, 101], [118, 97, 114]]
theorem words_c (w : World) : Calls Tryz.prog 28 #[] w fun e w' => ∃ s : Sl, e = .returned s.v /\ Own rTx 1 9 w.heap.size w' (fun _ => True) s wordsL /\ Only [] w w' := by
 refine (v36w (fun v w' => ∃ s : Sl, v = s.v /\ Own rTx 1 9 w.heap.size w' (fun _ => True) s wordsL /\ Only [] w w') w ?_).mono (by
  rintro e w' ⟨v, rfl, s, rfl, h⟩; exact ⟨s, rfl, h⟩)
 unfold v36v
 obtain ⟨s, w', h1, h2, h3⟩ := buildS w wordsL (n := 16) rfl rfl (by decide) (by decide)
 exact ⟨s, w', h1, s, rfl, h2, h3⟩
structure Cut (w : World) (b : Nat) (l : List UInt8) (i : Nat) (rs : Sl) (acc : List Tk) : Prop where
 blk : ∃ ws : Sl, Blk w b 75 [.string (T l), .int .i64 (i : Int), ws.v, rs.v] /\ SliceF rTx 1 w (fun k => k < b) ws wordsL
 own : OwnK (b + 1) w rs acc
 er : Er w
 gb : 2 < b
 il : i <= l.length
 ll : l.length <= 16384
theorem Cut.lt {w : World} {b : Nat} {l : List UInt8} {i : Nat} {rs : Sl} {acc : List Tk} (h : Cut w b l i rs acc) : b < w.heap.size := by
 obtain ⟨ws, h1, _⟩ := h.blk
 exact h1.lt
theorem Cut.only {w w' : World} {b : Nat} {l : List UInt8} {i : Nat} {rs : Sl} {acc : List Tk} (h : Cut w b l i rs acc) (hO : Only [] w w') : Cut w' b l i rs acc := by
 obtain ⟨ws, h1, h2⟩ := h.blk
 exact ⟨⟨ws, (hO.block b h1.lt (by simp)).trans h1, SliceF.only rTx_ok (by decide) h2 hO (by simp)⟩, h.own.only hO, h.er.only hO, h.gb, h.il, h.ll⟩
theorem Cut.move {w w' : World} {b : Nat} {l : List UInt8} {i j : Nat} {rs : Sl} {acc : List Tk} (h : Cut w b l i rs acc) (hO : Only [b] w w') (hj : j <= l.length) (hB : ∀ ws : Sl, Blk w b 75 [.string (T l), .int .i64 (i : Int), ws.v, rs.v] -> Blk w' b 75 [.string (T l), .int .i64 (j : Int), ws.v, rs.v]) : Cut w' b l j rs acc := by
 obtain ⟨ws, h1, h2⟩ := h.blk
 exact ⟨⟨ws, hB ws h1, SliceF.only rTx_ok (by decide) h2 hO (by intro k hk _; simp only [List.mem_singleton]; omega)⟩, h.own.keep fun k hk hlt => hO.block k hlt (by simp only [List.mem_singleton]; omega), h.er.keep fun hlt => hO.block _ hlt (by simp only [List.mem_singleton]; have := h.gb; omega), h.gb, hj, h.ll⟩
theorem add_c {w : World} {b : Nat} {l : List UInt8} {i : Nat} {rs : Sl} {acc : List Tk} (h : Cut w b l i rs acc) (k : Int) (t : List UInt8) (nn a0 : Int) (n : Nat) (hn : i + n <= l.length) (ha : acc.length <= 16384) :
  Calls Tryz.prog 32 #[.pointer (some ⟨b, 0, none⟩), .agg #[.int .i64 k, .string (T t), .int .i64 nn, .int .i64 a0], .int .i64 (n : Int)] w fun e w' => e = .returned (.tuple #[]) /\ OnlyP (fun k => b <= k) w w' /\ ∃ rs', Cut w' b l (i + n) rs' (acc ++ [⟨k, t, nn, i⟩]) := by
 refine ret (v41w ⟨b, 0, none⟩ k (T t) nn a0 n (fun v w' => v = .tuple #[] /\ OnlyP (fun k => b <= k) w w' /\ ∃ rs', Cut w' b l (i + n) rs' (acc ++ [⟨k, t, nn, i⟩])) w ?_)
 unfold v41v
 intro k0 w0 hk0 hk0' hO0
 have hbl := h.lt
 have hll := h.ll
 have h0 := h.only hO0
 obtain ⟨ws, hb0, hw0⟩ := h0.blk
 refine ⟨i, Blk.at1 hb0 1 rfl, fun w1 hO1 => ?_⟩
 have zb0 := hb0.lt
 have hb1 : Blk w1 b 75 _ := (hO1.block b zb0 (by simp only [List.mem_singleton]; omega)).trans hb0
 have ho1 : OwnK (b + 1) w1 rs acc := h0.own.keep fun q hq hlt => by
  refine hO1.block q hlt ?_
  simp only [List.mem_singleton]
  rintro rfl
  have := (h.own.blk hq.2).2
  dsimp only at this
  omega
 have z1 := hO1.size
 obtain ⟨y, w2, c1, c2, s', w3, c3, c4, c5⟩ := push_k ⟨k, t, nn, i⟩ ho1 (by omega) (Nat.le_trans (Nat.mul_le_mul_right 40 (show acc.length + 1 <= 16385 by omega)) (by decide))
 have z2 := c2.size
 have z3 := c5.size
 have hk0r : ∀ q, rs.a = some ⟨q, 0, none⟩ -> q ≠ k0 := fun q hq => by
  have := (h.own.blk hq).2
  dsimp only at this
  omega
 refine ⟨fun q => q = b, rfl, rs, Blk.at1 hb1 3 rfl, y, w2, c1, c2.same (by simp; omega), Keeps.only c2, s', w3, c3, ?_, ?_, ?_⟩
 · exact c5.same (by intro x hx; simp only [List.mem_singleton] at hx; subst hx; exact ⟨by omega, fun e => hk0r _ e.2 rfl⟩)
 · intro q hq hlt
   exact c5.block q hlt (by omega)
 have hb3 : Blk w3 b 75 [.string (T l), .int .i64 (i : Int), ws.v, rs.v] := (c5.block b (by omega) (by omega)).trans ((c2.block b (by omega) (by simp)).trans hb1)
 refine ⟨b, 3, _, 75, by rw [addr_lit], hb3, by simp, by omega, fun w4 hO4 hb4 => ?_⟩
 have hb4 : Blk w4 b 75 [.string (T l), .int .i64 (i : Int), ws.v, s'.v] := hb4
 refine ⟨i, Blk.at1 hb4 1 rfl, b, 1, _, 75, by rw [addr_zero, addr_lit], hb4, by simp, by omega, fun w5 hO5 hb5 => ⟨rfl, ?_, s', ?_⟩⟩
 · have e1 : OnlyP (fun k => b <= k) w w1 := hO0.p0.trans (hO1.p (F := fun q => q = k0) fun b hb => .inl (by simpa using hb)) fun q hq => by omega
   have e2 : OnlyP (fun k => b <= k) w w3 := (e1.tr0 c2).trans c5 fun q hq => .inl (by omega)
   have e3 : OnlyP (fun k => b <= k) w w4 := e2.trans (hO4.p (F := fun q => q = b) fun b hb => .inl (by simpa using hb)) fun q hq => .inl (by omega)
   exact e3.trans (hO5.p (F := fun q => q = b) fun b hb => .inl (by simpa using hb)) fun q hq => .inl (by omega)
 · have z4 := hO4.size
   have hb5 : Blk w5 b 75 [.string (T l), .int .i64 (IntKind.i64.wrap ((i : Int) + n)), ws.v, s'.v] := hb5
   rw [wr' (by omega) (by omega)] at hb5
   have up : OnlyP (fun k => b <= k) w w5 := by
    have e1 : OnlyP (fun k => b <= k) w w1 := hO0.p0.trans (hO1.p (F := fun q => q = k0) fun b hb => .inl (by simpa using hb)) fun q hq => by omega
    have e2 : OnlyP (fun k => b <= k) w w3 := (e1.tr0 c2).trans c5 fun q hq => .inl (by omega)
    have e3 : OnlyP (fun k => b <= k) w w4 := e2.trans (hO4.p (F := fun q => q = b) fun b hb => .inl (by simpa using hb)) fun q hq => .inl (by omega)
    exact e3.trans (hO5.p (F := fun q => q = b) fun b hb => .inl (by simpa using hb)) fun q hq => .inl (by omega)
   have hgb := h.gb
   obtain ⟨ws', hb', hw'⟩ := h.blk
   have hwe : ws' = ws := by
    have : Blk w0 b 75 [.string (T l), .int .i64 (i : Int), ws'.v, rs.v] := (hO0.block b hbl (by simp)).trans hb'
    unfold Blk at this hb0
    rw [this] at hb0
    simp [Sl.v] at hb0
    cases ws; cases ws'; simp_all
   subst hwe
   refine ⟨⟨ws', hb5, SliceF.onlyP rTx_ok (by decide) hw' up fun q hq _ hd => by omega⟩, ?_, h.er.keep fun hlt => up.block _ hlt (by omega), hgb, hn, hll⟩
   have e4 : OwnK (b + 1) w4 s' _ := c4.keep fun q hq hlt => hO4.block q hlt (by simp only [List.mem_singleton]; omega)
   exact e4.keep fun q hq hlt => hO5.block q hlt (by simp only [List.mem_singleton]; omega)
abbrev Tq := Int × List UInt8 × Int × Nat
def wordR (m : List UInt8) : Except Int Tq :=
 if 24 < (m.takeWhile wordB).length then .error 2 else .ok (if wordsL.contains (m.takeWhile wordB) then 2 else 1, m.takeWhile wordB, 0, (m.takeWhile wordB).length)
def numR (m : List UInt8) : Except Int Tq :=
 if (parseM m).2.2 ≠ 0 then .error (parseM m).2.2 else if (parseM m).2.1 < (m.takeWhile wordB).length then .error 4 else .ok (3, [], (parseM m).1, (parseM m).2.1)
def shortL : List UInt8 := [123, 125, 40, 41, 91, 93, 59, 44, 61, 43, 45, 42, 47, 37, 60, 62, 33]
def sign2 (m : List UInt8) : Bool := match m with
 | c :: d :: _ => (d == 61 && [60, 62, 61, 33].contains c) || (d == c && [38, 124].contains c) || (c == 45 && d == 62)
 | _ => false
def signN (m : List UInt8) : Nat := if sign2 m then 2 else match m with
 | c :: _ => if shortL.contains c then 1 else 0
 | [] => 0
def signR (m : List UInt8) : Except Int Tq := if signN m = 0 then .error 4 else .ok (4, m.take (signN m), 0, signN m)
def tokR (m : List UInt8) : Except Int Tq := match m with
 | [] => .error 4
 | c :: _ => if letterB c then wordR m else if digitB c then numR m else signR m
def Did (w' : World) (b : Nat) (l : List UInt8) (i : Nat) (acc : List Tk) (r : Except Int Tq) (v : Value) : Prop := match r with
 | .error e => v = .int .i64 e /\ ∃ rs, Cut w' b l i rs acc
 | .ok q => v = .int .i64 0 /\ ∃ rs, Cut w' b l (i + q.2.2.2) rs (acc ++ [⟨q.1, q.2.1, q.2.2.1, i⟩])
theorem while_len {p : UInt8 -> Bool} {l : List UInt8} : (l.takeWhile p).length <= l.length := by
 rw [while_take, List.length_take]; exact Nat.min_le_right _ _
theorem word_c {w : World} {b : Nat} {l : List UInt8} {i : Nat} {rs : Sl} {acc : List Tk} (h : Cut w b l i rs acc) (ha : acc.length <= 16384) :
  Calls Tryz.prog 50 #[.pointer (some ⟨b, 0, none⟩)] w fun e w' => ∃ v, e = .returned v /\ OnlyP (fun k => b <= k) w w' /\ Did w' b l i acc (wordR (l.drop i)) v := by
 refine v45w ⟨b, 0, none⟩ (fun v w' => OnlyP (fun k => b <= k) w w' /\ Did w' b l i acc (wordR (l.drop i)) v) w ?_
 unfold v45v
 obtain ⟨ws, hb, hw⟩ := h.blk
 have hll := h.ll
 refine (row_c hb h.il (by omega)).mono ?_
 rintro _ w0 ⟨rfl, hO0⟩
 have hwl : ((l.drop i).takeWhile wordB).length <= l.length - i := by
  have := while_len (p := wordB) (l := l.drop i)
  rwa [List.length_drop] at this
 have hil := h.il
 refine ⟨_, rfl, fun hc => ⟨hO0.p0, ?_⟩, fun hc => ?_⟩
 · rw [T_size] at hc
   rw [wordR, if_pos (by have := of_decide_eq_true hc; omega)]
   exact ⟨rfl, rs, h.only hO0⟩
 rw [T_size] at hc
 have hc : ¬ 24 < ((l.drop i).takeWhile wordB).length := by have := of_decide_eq_false hc; omega
 rw [wordR, if_neg hc]
 generalize hm : (l.drop i).takeWhile wordB = m at *
 have h0 := h.only hO0
 obtain ⟨ws', hb', hw'⟩ := h0.blk
 refine ⟨fun k w' => k = (if wordsL.contains m then 2 else 1) /\ Only [] w w', ?_, ws', Blk.at1 hb' 2 rfl, (containsS_c hw' m).mono ?_⟩
 · rintro _ w1 ⟨rfl, hO1⟩
   refine (ret (v54w (T m) (fun v w' => v = .string (T m) /\ Only [] w1 w') w1 ?_)).mono ?_
   · unfold v54v
     refine (Tryz.stringslite_Clone (T m) w1 (by rw [T_size]; omega)).mono ?_
     rintro _ w2 ⟨rfl, hw⟩
     exact ⟨_, rfl, rfl, Only.of_below hw⟩
   rintro _ w2 ⟨rfl, hO2⟩
   rw [T_size]
   refine ⟨_, rfl, (add_c (h.only (hO1.tr0 hO2)) _ m 0 0 m.length (by omega) ha).mono ?_⟩
   rintro _ w3 ⟨rfl, hO3, rs', hC⟩
   exact ⟨rfl, (hO1.tr0 hO2).trP hO3, rfl, rs', hC⟩
 · rintro _ w4 ⟨rfl, hO4⟩
   refine ⟨_, rfl, fun hb => ⟨by rw [if_pos hb], hO0.tr0 hO4⟩, fun hb => ⟨by rw [hb]; rfl, hO0.tr0 hO4⟩⟩
theorem number_c {w : World} {b : Nat} {l : List UInt8} {i : Nat} {rs : Sl} {acc : List Tk} (h : Cut w b l i rs acc) (ha : acc.length <= 16384) :
  Calls Tryz.prog 52 #[.pointer (some ⟨b, 0, none⟩)] w fun e w' => ∃ v, e = .returned v /\ OnlyP (fun k => b <= k) w w' /\ Did w' b l i acc (numR (l.drop i)) v := by
 refine v42w ⟨b, 0, none⟩ (fun v w' => OnlyP (fun k => b <= k) w w' /\ Did w' b l i acc (numR (l.drop i)) v) w ?_
 unfold v42v
 obtain ⟨ws, hb, hw⟩ := h.blk
 have hll := h.ll
 have hil := h.il
 refine (rest_c hb h.il).mono ?_
 rintro _ w0 ⟨rfl, hO0⟩
 have hdl : (l.drop i).length = l.length - i := List.length_drop
 refine ⟨_, rfl, (cparse_c (h.er.only hO0) (by omega)).mono ?_⟩
 rintro _ w1 ⟨rfl, hO1⟩
 have hO01 := hO0.tr0 hO1
 refine ⟨_, _, _, rfl, fun he => ⟨hO01.p0, ?_⟩, fun he => ?_⟩
 · rw [numR, if_pos (by simpa using he)]
   exact ⟨rfl, rs, h.only hO01⟩
 have he : ¬ (parseM (l.drop i)).2.2 ≠ 0 := by simpa using he
 have hk : (parseM (l.drop i)).2.1 <= (l.drop i).length := by
  have := while_len (p := digitB) (l := l.drop i)
  unfold parseM
  split
  · exact Nat.zero_le _
  · split
    · exact Nat.zero_le _
    · split
      · exact this
      · exact Nat.zero_le _
 obtain ⟨ws', hb', hw'⟩ := (h.only hO01).blk
 refine (row_c hb' h.il (by omega)).mono ?_
 rintro _ w2 ⟨rfl, hO2⟩
 have hO02 := hO01.tr0 hO2
 refine ⟨_, rfl, ?_⟩
 rw [T_size]
 refine ⟨fun hc => ⟨hO02.p0, ?_⟩, fun hc => ?_⟩
 · rw [numR, if_neg he, if_pos (by have := of_decide_eq_true hc; omega)]
   exact ⟨rfl, rs, h.only hO02⟩
 · rw [numR, if_neg he, if_neg (by have := of_decide_eq_false hc; omega)]
   refine (add_c (h.only hO02) 3 [] _ 0 (parseM (l.drop i)).2.1 (by omega) ha).mono ?_
   rintro _ w3 ⟨rfl, hO3, rs', hC⟩
   exact ⟨rfl, hO02.trP hO3, rfl, rs', hC⟩
theorem freeze_cell (w : World) (p : Addr) (n : Nat) (a : Addr) : (w.freeze p n).cell? a = w.cell? a := by
 unfold World.freeze
 split
 · rfl
 · unfold World.cell?
   simp only [Array.getElem?_modify]
   by_cases hpa : p.block = a.block
   · rw [if_pos hpa]
     cases h : w.heap[a.block]? with
     | none => rfl
     | some o =>
      cases o with
      | cells c e f => obtain ⟨lo, hi⟩ := f; rfl
      | _ => rfl
   · rw [if_neg hpa]
theorem freeze_only (w : World) (p : Addr) (n : Nat) : OnlyP (fun k => k = p.block) w (w.freeze p n) := by
 unfold World.freeze
 split
 · exact OnlyP.refl _ _
 · exact ⟨rfl, rfl, rfl, by simp, fun k hk hn => by
    simp only [Array.getElem?_modify]
    rw [if_neg fun e => hn e.symm]⟩
theorem conv_b {w : World} {F : Nat -> Prop} {s : Sl} {g B : Nat} {l : List UInt8} (ha : s.a = some ⟨g, 0, none⟩) (h : Own rByte 1 5 B w F s l) (hlt : g < w.heap.size) :
  ∃ w', (convert 114 114 (Sl.v s)).run Tryz.prog w = .ok (Sl.v s) w' /\ SliceF rByte 1 w' (fun _ => True) s l /\ OnlyP (fun k => k = g) w w' := by
 have hs := flatB h
 obtain ⟨g', css, tail, a1, a2, a4, _⟩ := h.resolve_left (fun e => by rw [e.1] at ha; cases ha)
 rw [ha] at a1
 injection a1 with a1
 injection a1 with a1
 subst a1
 have hsh : w.shape? g = some (5, (css.flatten ++ tail).toArray.size) := by
  unfold World.shape?
  unfold Blk at a4
  rw [a4]
 have hu : Tryz.prog.underlying 114 = some (.slice 5) := by kernel_rfl
 have hu2 : Tryz.prog.underlying 5 = some (.int .u8) := by kernel_rfl
 refine ⟨w.freeze ⟨g, (css.flatten ++ tail).toArray.size, none⟩ 1, ?_, ⟨hs.len, hs.cap, hs.nil0, hs.big, fun j x hj => ?_⟩, freeze_only w ⟨g, (css.flatten ++ tail).toArray.size, none⟩ 1⟩
 · unfold Sl.v
   rw [ha]
   simp [convert, run_underlying hu, run_underlying hu2, markStringish, hsh, Result.andThen]
 · obtain ⟨base, cs, g1, g2, g3, g4, g5⟩ := hs.at_ j x hj
   exact ⟨base, cs, g1, trivial, g3, fun q v hq => by rw [freeze_cell]; exact g4 q v hq, g5⟩
theorem u8i {c d : UInt8} : ((c.toNat : Int) == (d.toNat : Int)) = (c == d) := by
 rw [Bool.eq_iff_iff]
 simp only [beq_iff_eq]
 constructor
 · intro h; exact UInt8.toNat_inj.1 (by omega)
 · rintro rfl; rfl
theorem sign2_len {m : List UInt8} (h : sign2 m = true) : 2 <= m.length := by
 match m, h with
 | _ :: _ :: _, _ => simp
theorem signN_le {m : List UInt8} : signN m <= m.length := by
 unfold signN
 split
 · exact sign2_len (by assumption)
 · split
   · split
     · simp
     · exact Nat.zero_le _
   · exact Nat.zero_le _
theorem sign_c {w : World} {b : Nat} {l : List UInt8} {i : Nat} {rs : Sl} {acc : List Tk} (h : Cut w b l i rs acc) (ha : acc.length <= 16384) (hne : i < l.length) :
    Calls Tryz.prog 53 #[.pointer (some ⟨b, 0, none⟩)] w fun e w' => ∃ v, e = .returned v /\ OnlyP (fun k => b <= k) w w' /\ Did w' b l i acc (signR (l.drop i)) v := by
  refine v43w ⟨b, 0, none⟩ (fun v w' => OnlyP (fun k => b <= k) w w' /\ Did w' b l i acc (signR (l.drop i)) v) w ?_
  unfold v43v
  obtain ⟨ws, hb, hw⟩ := h.blk
  have hll := h.ll
  have hil := h.il
  refine (rest_c hb h.il).mono ?_
  rintro _ w0 ⟨rfl, hO0⟩
  have hdl : (l.drop i).length = l.length - i := List.length_drop
  generalize hm : l.drop i = m at *
  obtain ⟨c, r, rfl⟩ : ∃ c r, m = c :: r := by
    cases m with
    | nil => simp at hdl; omega
    | cons c r => exact ⟨c, r, rfl⟩
  have g0 : (0 : Int) <= 0 /\ (T (c :: r))[0]? = some c := ⟨Int.le_refl _, by rw [T_get]; rfl⟩
  refine ⟨T (c :: r), rfl, fun i0 w' => i0 = (if shortL.contains c then 1 else 0 : Int) /\ Only [] w w', ?_, c, g0, ?_⟩
  · rintro _ w1 ⟨rfl, hO1⟩
    refine ⟨fun i1 w' => i1 = (signN (c :: r) : Int) /\ Only [] w w', ?_, fun b w' => b = sign2 (c :: r) /\ Only [] w w', ?_, ?_, ?_⟩
    · rintro _ w2 ⟨rfl, hO2⟩
      refine ⟨fun hz => ⟨hO2.p0, ?_⟩, fun hz => ⟨signN (c :: r), ⟨rfl, by rw [T_size]; exact signN_le⟩, ?_⟩⟩
      · rw [signR, if_pos (by have : (signN (c :: r) : Int) = 0 := by simpa using hz
                              omega)]
        exact ⟨rfl, rs, h.only hO2⟩
      have hz : ¬ signN (c :: r) = 0 := by
        intro e
        rw [e] at hz
        simp at hz
      rw [signR, if_neg hz, T_ext, List.drop_zero, Nat.sub_zero]
      have hn := signN_le (m := c :: r)
      refine (ret (v54w (T _) (fun v w' => v = .string (T ((c :: r).take (signN (c :: r)))) /\ Only [] w2 w') w2 ?_)).mono ?_
      · unfold v54v
        refine (Tryz.stringslite_Clone (T _) w2 (by rw [T_size, List.length_take]; omega)).mono ?_
        rintro _ w3 ⟨rfl, hw⟩
        exact ⟨_, rfl, rfl, Only.of_below hw⟩
      rintro _ w3 ⟨rfl, hO3⟩
      refine ⟨_, rfl, (add_c (h.only (hO2.tr0 hO3)) 4 _ 0 0 (signN (c :: r)) (by omega) ha).mono ?_⟩
      rintro _ w4 ⟨rfl, hO4, rs', hC⟩
      exact ⟨rfl, (hO2.tr0 hO3).trP hO4, rfl, rs', hC⟩
    · rintro _ w5 ⟨rfl, hO5⟩
      refine ⟨fun hs => ⟨by rw [signN, if_pos hs]; rfl, hO5⟩, fun hs => ⟨?_, hO5⟩⟩
      have e : signN (c :: r) = if shortL.contains c then 1 else 0 := by rw [signN, if_neg (by rw [hs]; decide)]
      rw [e]
      split <;> rfl
    · intro hc
      rw [T_size] at hc
      obtain ⟨d, r, rfl⟩ : ∃ d r', r = d :: r' := by
        cases r with
        | nil => simp at hc
        | cons d r => exact ⟨d, r, rfl⟩
      have g1 : (0 : Int) <= 1 /\ (T (c :: d :: r))[1]? = some d := ⟨by decide, by rw [T_get]; rfl⟩
      have ex : (T (c :: d :: r)).extract 0 2 = T [c, d] := by rw [T_ext]; rfl
      have sz : 2 <= (T (c :: d :: r)).size := by rw [T_size]; simp
      have lit : (ByteArray.mk #[45, 62]) = T [45, 62] := rfl
      have eqx : ((T [c, d]).toList == (T [45, 62]).toList) = (c == 45 && d == 62) := by
        rw [T_eq, Bool.eq_iff_iff]
        simp
      have e61 : ((d.toNat : Int) == 61) = (d == 61) := u8i (d := 61)
      have hs2 : sign2 (c :: d :: r) = ((d == 61 && [60, 62, 61, 33].contains c) || (d == c && [38, 124].contains c) || (c == 45 && d == 62)) := rfl
      rw [hs2]
      generalize hp1 : ([60, 62, 61, 33] : List UInt8).contains c = p1
      generalize hp2 : ([38, 124] : List UInt8).contains c = p2
      have lst : ((((T (c :: d :: r)).extract 0 2).toList) == ((ByteArray.mk #[45, 62]).toList)) = (c == 45 && d == 62) := by rw [ex, lit, eqx]
      refine ⟨d, g1, fun h61 => ⟨c, g0, fun w6 hO6 => ?_⟩, fun h61 => ⟨d, g1, c, g0, fun hdc => ⟨c, g0, fun w11 hO11 => ?_⟩, fun hdc => ⟨sz, fun w14 hO14 => ⟨?_, hO1.tr0 hO14⟩⟩⟩⟩
      · rw [e61] at h61
        obtain ⟨s, w7, k1, k2, k3, _⟩ := buildB w6 [60, 62, 61, 33] (n := 4) (parts := #[(0, .int .u8 60), (1, .int .u8 62), (2, .int .u8 61), (3, .int .u8 33)]) rfl rfl (by decide) (by decide)
        refine ⟨s, w7, k1, (one_c (flatB k2) c).mono ?_⟩
        rintro _ w8 ⟨rfl, hO8⟩
        have hO18 := hO1.tr0 (hO6.tr0 (k3.tr0 hO8))
        rw [hp1]
        refine ⟨_, rfl, fun hb => ⟨by rw [h61, hb]; rfl, hO18⟩, fun hb => ⟨d, g1, c, g0, fun hdc => ⟨c, g0, ?_⟩, fun hdc => ⟨sz, ?_, hO18⟩⟩⟩
        · rw [u8i] at hdc
          obtain ⟨s, w9, k1, k2, k3, _⟩ := buildB w8 [38, 124] (n := 2) (parts := #[(0, .int .u8 38), (1, .int .u8 124)]) rfl rfl (by decide) (by decide)
          refine ⟨s, w9, k1, (one_c (flatB k2) c).mono ?_⟩
          rintro _ w10 ⟨rfl, hO10⟩
          have hO := hO18.tr0 (k3.tr0 hO10)
          rw [hp2]
          exact ⟨_, rfl, fun hb2 => ⟨by rw [h61, hb, hdc, hb2]; rfl, hO⟩, fun hb2 => ⟨sz, by rw [lst, h61, hb, hdc, hb2]; rfl, hO⟩⟩
        · rw [u8i] at hdc
          rw [lst, h61, hb, hdc]; rfl
      · rw [e61] at h61
        rw [u8i] at hdc
        obtain ⟨s, w12, k1, k2, k3, _⟩ := buildB w11 [38, 124] (n := 2) (parts := #[(0, .int .u8 38), (1, .int .u8 124)]) rfl rfl (by decide) (by decide)
        refine ⟨s, w12, k1, (one_c (flatB k2) c).mono ?_⟩
        rintro _ w13 ⟨rfl, hO13⟩
        have hO := hO1.tr0 (hO11.tr0 (k3.tr0 hO13))
        rw [hp2]
        exact ⟨_, rfl, fun hb2 => ⟨by rw [h61, hdc, hb2]; rfl, hO⟩, fun hb2 => ⟨sz, by rw [lst, h61, hdc, hb2]; rfl, hO⟩⟩
      · rw [e61] at h61
        rw [u8i] at hdc
        rw [lst, h61, hdc]; rfl
    · intro hc w15 hO15
      rw [T_size] at hc
      have hr : r = [] := by
        cases r with
        | nil => rfl
        | cons d r => exact absurd (of_decide_eq_false hc) (by simp only [List.length_cons]; omega)
      subst hr
      exact ⟨rfl, hO1.tr0 hO15⟩
  · obtain ⟨s, w16, k1, k2, k3, k4⟩ := buildB w0 shortL (n := 17) (parts := #[(0, .int .u8 123), (1, .int .u8 125), (2, .int .u8 40), (3, .int .u8 41), (4, .int .u8 91), (5, .int .u8 93), (6, .int .u8 59), (7, .int .u8 44), (8, .int .u8 61), (9, .int .u8 43), (10, .int .u8 45), (11, .int .u8 42), (12, .int .u8 47), (13, .int .u8 37), (14, .int .u8 60), (15, .int .u8 62), (16, .int .u8 33)]) rfl rfl (by decide) (by decide)
    obtain ⟨w17, c1, c2, c3⟩ := conv_b k4 k2 (k2.blk k4).2
    have hO17 : Only [] w0 w17 := ((k3.p0 (F := fun k => w0.heap.size <= k)).trans c3 fun k hk => .inl (by omega)).only fun k hk => hk
    refine ⟨s, w16, k1, s, w17, c1, (one_c c2 c).mono ?_⟩
    rintro _ w18 ⟨rfl, hO18⟩
    have hO := hO0.tr0 (hO17.tr0 hO18)
    exact ⟨_, rfl, fun hb => ⟨by rw [if_pos hb], hO⟩, fun hb => ⟨by rw [hb]; rfl, hO⟩⟩
theorem Did.int {w' : World} {b : Nat} {l : List UInt8} {i : Nat} {acc : List Tk} {r : Except Int Tq} {v : Value} (h : Did w' b l i acc r v) : ∃ k : Int, v = .int .i64 k := by
 unfold Did at h
 split at h
 · exact ⟨_, h.1⟩
 · exact ⟨_, h.1⟩
theorem token_c {w : World} {b : Nat} {l : List UInt8} {i : Nat} {rs : Sl} {acc : List Tk} (h : Cut w b l i rs acc) (ha : acc.length <= 16384) (hne : i < l.length) :
  Calls Tryz.prog 31 #[.pointer (some ⟨b, 0, none⟩)] w fun e w' => ∃ v, e = .returned v /\ OnlyP (fun k => b <= k) w w' /\ Did w' b l i acc (tokR (l.drop i)) v := by
 refine v44w ⟨b, 0, none⟩ (fun v w' => OnlyP (fun k => b <= k) w w' /\ Did w' b l i acc (tokR (l.drop i)) v) w ?_
 unfold v44v
 obtain ⟨ws, hb, hw⟩ := h.blk
 have hx : l[i]? = some l[i] := List.getElem?_eq_getElem hne
 generalize l[i] = x at hx
 have ht : tokR (l.drop i) = if letterB x then wordR (l.drop i) else if digitB x then numR (l.drop i) else signR (l.drop i) := by
  rw [drop_cons hx]; rfl
 rw [ht]
 refine ⟨T l, Blk.at1 hb 0 rfl, i, Blk.at1 hb 1 rfl, x, ⟨Int.natCast_nonneg i, by rw [T_get, Int.toNat_natCast, hx]⟩, fun w0 hO0 => (letter_c w0 x).mono ?_⟩
 rintro _ w1 ⟨rfl, hO1⟩
 have hO01 := hO0.tr0 hO1
 refine ⟨_, rfl, fun hl => ?_, fun hl => (digit_c w1 x).mono ?_⟩
 · rw [if_pos hl]
   refine (word_c (h.only hO01) ha).mono ?_
   rintro _ w2 ⟨v, rfl, hO2, hd⟩
   obtain ⟨k, rfl⟩ := hd.int
   exact ⟨k, rfl, hO01.trP hO2, hd⟩
 rintro _ w3 ⟨rfl, hO3⟩
 have hO03 := hO01.tr0 hO3
 rw [if_neg (by rw [hl]; decide)]
 refine ⟨_, rfl, fun hd => ?_, fun hd => ?_⟩
 · rw [if_pos hd]
   refine (number_c (h.only hO03) ha).mono ?_
   rintro _ w2 ⟨v, rfl, hO2, hd⟩
   obtain ⟨k, rfl⟩ := hd.int
   exact ⟨k, rfl, hO03.trP hO2, hd⟩
 · rw [if_neg (by rw [hd]; decide)]
   refine (sign_c (h.only hO03) ha hne).mono ?_
   rintro _ w2 ⟨v, rfl, hO2, hd⟩
   obtain ⟨k, rfl⟩ := hd.int
   exact ⟨k, rfl, hO03.trP hO2, hd⟩
theorem tok_len {m : List UInt8} {q : Tq} (h : tokR m = .ok q) : 1 <= q.2.2.2 := by
 cases m with
 | nil => cases h
 | cons c r =>
  simp only [tokR] at h
  split at h
  · rename_i hc
    unfold wordR at h
    split at h
    · cases h
    · injection h with h
      subst h
      have : wordB c = true := by unfold wordB; rw [hc]; rfl
      dsimp only
      rw [List.takeWhile_cons, if_pos this, List.length_cons]
      omega
  · split at h
    · rename_i hc
      unfold numR at h
      split at h
      · cases h
      · split at h
        · cases h
        · rename_i h1 h2
          injection h with h
          subst h
          dsimp only
          rw [List.takeWhile_cons, if_pos (by unfold wordB; rw [hc, Bool.or_true]), List.length_cons] at h2
          omega
    · unfold signR at h
      split at h
      · cases h
      · injection h with h
        subst h
        dsimp only
        omega
theorem tok_err {m : List UInt8} {e : Int} (h : tokR m = .error e) : e ≠ 0 := by
 cases m with
 | nil => injection h with h; omega
 | cons c r =>
  simp only [tokR] at h
  split at h
  · unfold wordR at h
    split at h
    · injection h with h; omega
    · cases h
  · split at h
    · unfold numR at h
      split at h
      · injection h with h; omega
      · split at h
        · injection h with h; omega
        · cases h
    · unfold signR at h
      split at h
      · injection h with h; omega
      · cases h
def toksF (l : List UInt8) : Nat -> Nat -> Except (Int × Nat) (List Tk)
 | 0, _ => .ok []
 | f + 1, i =>
  if l.length <= i + skN false (l.drop i) then .ok [⟨5, [], 0, (i + skN false (l.drop i) : Nat)⟩]
  else match tokR (l.drop (i + skN false (l.drop i))) with
   | .error e => .error (e, i + skN false (l.drop i))
   | .ok q => match toksF l f (i + skN false (l.drop i) + q.2.2.2) with
    | .error x => .error x
    | .ok r => .ok (⟨q.1, q.2.1, q.2.2.1, (i + skN false (l.drop i) : Nat)⟩ :: r)
theorem parse_le {l : List UInt8} : (parseM l).2.1 <= l.length := by
 have := while_len (p := digitB) (l := l)
 unfold parseM
 split
 · exact Nat.zero_le _
 · split
   · exact Nat.zero_le _
   · split
     · exact this
     · exact Nat.zero_le _
theorem tok_le {m : List UInt8} {q : Tq} (h : tokR m = .ok q) : q.2.2.2 <= m.length := by
 cases m with
 | nil => cases h
 | cons c r =>
  simp only [tokR] at h
  split at h
  · unfold wordR at h
    split at h
    · cases h
    · injection h with h
      subst h
      exact while_len
  · split at h
    · unfold numR at h
      split at h
      · cases h
      · split at h
        · cases h
        · injection h with h
          subst h
          exact parse_le
    · unfold signR at h
      split at h
      · cases h
      · injection h with h
        subst h
        exact signN_le
theorem sk_in {l : List UInt8} {i : Nat} (hi : i <= l.length) : i + skN false (l.drop i) <= l.length := by
 have := skN_le (b := false) (l := l.drop i)
 rw [List.length_drop] at this
 omega
theorem toksF_eq (l : List UInt8) : ∀ (f g i : Nat), i <= l.length -> l.length < i + f -> l.length < i + g -> toksF l f i = toksF l g i
 | 0, _, i, hi, h, _ => by omega
 | _, 0, i, hi, _, h => by omega
 | f + 1, g + 1, i, hi, h1, h2 => by
  rw [toksF, toksF]
  split
  · rfl
  · split
    · rfl
    · rename_i q hq
      have h3 := tok_len hq
      have h4 := tok_le hq
      rw [List.length_drop] at h4
      rw [toksF_eq l f g _ (by omega) (by omega) (by omega)]
def toks (l : List UInt8) (i : Nat) : Except (Int × Nat) (List Tk) := toksF l (l.length + 1) i
theorem toks_step {l : List UInt8} {i : Nat} (hi : i <= l.length) : toks l i = if l.length <= i + skN false (l.drop i) then .ok [⟨5, [], 0, (i + skN false (l.drop i) : Nat)⟩]
  else match tokR (l.drop (i + skN false (l.drop i))) with
   | .error e => .error (e, i + skN false (l.drop i))
   | .ok q => match toks l (i + skN false (l.drop i) + q.2.2.2) with
    | .error x => .error x
    | .ok r => .ok (⟨q.1, q.2.1, q.2.2.1, (i + skN false (l.drop i) : Nat)⟩ :: r) := by
 unfold toks
 rw [toksF]
 split
 · rfl
 · split
   · rfl
   · rename_i q hq
     have h3 := tok_len hq
     have h4 := tok_le hq
     rw [List.length_drop] at h4
     rw [toksF_eq l l.length (l.length + 1) _ (by omega) (by omega) (by omega)]
def tokensM (l : List UInt8) : List Tk × Int × Int := if 16384 < l.length then ([], 2, -1) else match toks l 0 with
 | .error x => ([], x.1, (x.2 : Nat))
 | .ok r => (r, 0, 0)
def pre (acc : List Tk) : Except (Int × Nat) (List Tk) -> Except (Int × Nat) (List Tk)
 | .error x => .error x
 | .ok r => .ok (acc ++ r)
theorem sk_idem (b : Bool) : ∀ (l : List UInt8), skN false (l.drop (skN b l)) = 0
 | [] => by simp [skN]
 | c :: r => by
  cases b with
  | true =>
   rw [skN, Nat.add_comm, List.drop_succ_cons]
   exact sk_idem _ r
  | false =>
   rw [skN]
   split
   · rw [Nat.add_comm, List.drop_succ_cons]
     exact sk_idem _ r
   · split
     · rw [Nat.add_comm, List.drop_succ_cons]
       exact sk_idem _ r
     · rename_i h1 h2
       rw [List.drop_zero, skN, if_neg h1, if_neg h2]
theorem toks_skip {l : List UInt8} {i : Nat} (hi : i <= l.length) : toks l i = toks l (i + skN false (l.drop i)) := by
 have h1 := sk_in hi
 have h2 : skN false (l.drop (i + skN false (l.drop i))) = 0 := by
  rw [<- List.drop_drop]
  exact sk_idem false (l.drop i)
 rw [toks_step hi, toks_step h1, h2, Nat.add_zero]
theorem pre_pre {a b : List Tk} {x : Except (Int × Nat) (List Tk)} : pre a (pre b x) = pre (a ++ b) x := by
 cases x with
 | error _ => rfl
 | ok r => simp [pre]
theorem tokens_c {w : World} (l : List UInt8) (hE : Er w) :
  Calls Tryz.prog 16 #[.string (T l)] w fun e w' => ∃ rs : Sl, e = .returned (.tuple #[rs.v, .agg #[.int .i64 (tokensM l).2.1, .int .i64 (tokensM l).2.2]]) /\ OwnK w.heap.size w' rs (tokensM l).1 /\ Only [] w w' := by
 refine (v35w (T l) (fun v w' => ∃ rs : Sl, v = (.tuple #[rs.v, .agg #[.int .i64 (tokensM l).2.1, .int .i64 (tokensM l).2.2]]) /\ OwnK w.heap.size w' rs (tokensM l).1 /\ Only [] w w') w ?_).mono (by
  rintro e w' ⟨v, rfl, rs, rfl, h⟩; exact ⟨rs, rfl, h⟩)
 unfold v35v
 rw [T_size]
 refine ⟨fun hc k0 w0 _ _ hO => ⟨Sl.nil, ?_, ?_, hO⟩, fun hc k1 w1 hk1 hk1' hO1 => (words_c w1).mono ?_⟩
 · rw [tokensM, if_pos (by have := of_decide_eq_true hc; omega)]
 · rw [tokensM, if_pos (by have := of_decide_eq_true hc; omega)]
   exact Own.nil _ _ _ _ _ _
 have hll : l.length <= 16384 := by have := of_decide_eq_false hc; omega
 have htm : tokensM l = match toks l 0 with
  | .error x => ([], x.1, (x.2 : Nat))
  | .ok r => (r, 0, 0) := by rw [tokensM, if_neg (by omega)]
 rintro _ w2 ⟨ws, rfl, hws, hO2⟩
 refine ⟨ws, rfl, hO2.same (by simp; omega), fun b w3 hb hb' hO3 hblk => ?_⟩
 have hO13 := hO1.tr0 (hO2.tr0 hO3)
 have z1 := hO1.size
 have z2 := hO2.size
 have z3 := hO3.size
 have hC0 : Cut w3 b l 0 Sl.nil [] := ⟨⟨ws, hblk, (SliceF.only rTx_ok (by decide) ((flatS hws).inHeap rTx_ok (by decide)) hO3 (by simp)).mono rTx_ok fun k hk => by omega⟩, Own.nil _ _ _ _ _ _, hE.only hO13, by have := hE.lt; omega, Nat.zero_le _, hll⟩
 have sm : ∀ {u u' : World}, w2.heap.size <= u.heap.size -> OnlyP (fun k => b <= k) u u' -> Same [k1] u u' := fun hu hO => hO.same (by intro x hx; simp only [List.mem_singleton] at hx; subst hx; omega)
 refine (skip_c hblk (Nat.zero_le _) (by omega)).mono ?_
 rintro _ w4 ⟨rfl, hO4, hb4⟩
 have p4 : OnlyP (fun k => b <= k) w3 w4 := hO4.p fun x hx => .inl (by simp only [List.mem_singleton] at hx; omega)
 have hC4 : Cut w4 b l (0 + skN false (l.drop 0)) Sl.nil [] := hC0.move hO4 (sk_in (Nat.zero_le _)) fun ws' h' => by
  have : ws' = ws := by
   unfold Blk at h' hblk
   rw [h'] at hblk
   simp [Sl.v] at hblk
   cases ws; cases ws'; simp_all
  subst this
  exact hb4
 refine ⟨rfl, sm (by omega) p4, T l, _, ws, Sl.nil, hb4, fun nv e1 e2 s0 i0 l1 l2 w' => e1 = 0 /\ e2 = 0 /\ s0 = T l /\ ∃ (i : Nat) (acc : List Tk), i0 = (i : Int) /\ Cut w' b l i l2 acc /\ acc.length <= i /\ skN false (l.drop i) = 0 /\ toks l 0 = pre acc (toks l i) /\ nv = l.length - i /\ OnlyP (fun k => b <= k) w3 w' /\ Blk w' b 75 [.string (T l), .int .i64 (i : Int), l1.v, l2.v], l.length - (0 + skN false (l.drop 0)), ?_, ?_⟩
 · refine ⟨rfl, rfl, rfl, _, [], rfl, hC4, Nat.zero_le _, ?_, ?_, rfl, p4, hb4⟩
   · rw [<- List.drop_drop]
     exact sk_idem false (l.drop 0)
   · rw [<- toks_skip (Nat.zero_le _)]
     cases toks l 0 <;> rfl
 rintro nv _ _ _ _ l1 rs w5 ⟨rfl, rfl, rfl, i, acc, rfl, hC, hlen, hsk, htk, rfl, hO5, hb5⟩
 have z5 := hO5.size
 have hil := hC.il
 refine (end_c hb5).mono ?_
 rintro _ w6 ⟨rfl, hO6⟩
 have hC6 := hC.only hO6
 have hb6 : Blk w6 b 75 [.string (T l), .int .i64 (i : Int), l1.v, rs.v] := (hO6.block b hb5.lt (by simp)).trans hb5
 have z6 := hO6.size
 have hst := toks_step hC.il
 rw [hsk, Nat.add_zero] at hst
 refine ⟨_, rfl, hO6.same (by simp; omega), T l, i, l1, rs, hb6, fun hc => ?_, fun hc => ?_⟩
 · have hlt : i < l.length := by simpa using hc
   rw [if_neg (by omega)] at hst
   refine (token_c hC6 (by omega) hlt).mono ?_
   rintro _ w7 ⟨v, rfl, hO7, hd⟩
   have p7 : OnlyP (fun k => b <= k) w3 w7 := (hO5.tr0 hO6).trans hO7 fun k hk => .inl hk
   have z7 := hO7.size
   unfold Did at hd
   cases hq : tokR (l.drop i) with
   | error e =>
    rw [hq] at hd hst
    obtain ⟨rfl, rs7, hC7⟩ := hd
    obtain ⟨ws7, hb7, _⟩ := hC7.blk
    refine ⟨e, rfl, sm (by omega) hO7, T l, i, ws7, rs7, hb7, fun _ w8 hO8 _ => ⟨Sl.nil, ?_, ?_, ?_⟩, fun he => absurd (tok_err hq) (by simpa using he)⟩
    · rw [htm, htk, hst]; rfl
    · rw [htm, htk, hst]
      exact Own.nil _ _ _ _ _ _
    · exact (((hO13.p0 (F := fun k => w.heap.size <= k)).trans p7 fun k hk => .inl (by omega)).trans (hO8.p (F := fun k => k = k1) fun x hx => .inl (by simpa using hx)) fun k hk => .inl (by omega)).only fun k hk => hk
   | ok q =>
    rw [hq] at hd hst
    obtain ⟨rfl, rs7, hC7⟩ := hd
    obtain ⟨ws7, hb7, _⟩ := hC7.blk
    have hq1 := tok_len hq
    have h7l := hC7.il
    refine ⟨0, rfl, sm (by omega) hO7, T l, (i + q.2.2.2 : Nat), ws7, rs7, hb7, fun he => (by simp at he), fun _ => (skip_c hb7 h7l (by omega)).mono ?_⟩
    rintro _ w9 ⟨rfl, hO9, hb9⟩
    have p9 : OnlyP (fun k => b <= k) w7 w9 := hO9.p fun x hx => .inl (by simp only [List.mem_singleton] at hx; omega)
    have hC9 := hC7.move hO9 (sk_in h7l) fun ws' h' => by
     have : ws' = ws7 := by
      unfold Blk at h' hb7
      rw [h'] at hb7
      simp [Sl.v] at hb7
      cases ws7; cases ws'; simp_all
     subst this
     exact hb9
    refine ⟨rfl, sm (by omega) p9, T l, _, ws7, rs7, hb9, l.length - (i + q.2.2.2 + skN false (l.drop (i + q.2.2.2))), by omega, rfl, rfl, rfl, _, _, rfl, hC9, ?_, ?_, ?_, rfl, p7.trans p9 fun k hk => .inl hk, hb9⟩
    · rw [List.length_append, List.length_singleton]; omega
    · rw [<- List.drop_drop]
      exact sk_idem false _
    · rw [htk, hst, <- toks_skip h7l, <- pre_pre]
      dsimp only
      cases toks l (i + q.2.2.2) <;> rfl
 · have hge : l.length <= i := by simpa using hc
   rw [if_pos hge] at hst
   refine (add_c hC6 5 [] 0 0 0 (by omega) (by omega)).mono ?_
   rintro _ w10 ⟨rfl, hO10, rs10, hC10⟩
   obtain ⟨ws10, hb10, _⟩ := hC10.blk
   have p10 : OnlyP (fun k => b <= k) w3 w10 := (hO5.tr0 hO6).trans hO10 fun k hk => .inl hk
   have htt : tokensM l = (acc ++ [⟨5, [], 0, (i : Nat)⟩], 0, 0) := by
    rw [htm, htk, hst]; rfl
   refine ⟨rfl, sm (by omega) hO10, T l, _, ws10, rs10, hb10, fun w11 hO11 _ => ⟨rs10, ?_, ?_, ?_⟩⟩
   · rw [htt]
   · rw [htt]
     have : OwnK (b + 1) w11 rs10 _ := hC10.own.keep fun k hk hlt => hO11.block k hlt (by simp only [List.mem_singleton]; omega)
     exact Own.low this (by omega)
   · exact (((hO13.p0 (F := fun k => w.heap.size <= k)).trans p10 fun k hk => .inl (by omega)).trans (hO11.p (F := fun k => k = k1) fun x hx => .inl (by simpa using hx)) fun k hk => .inl (by omega)).only fun k hk => hk
end Go.Proofs.YtfknfhajdiccgaaGreatDoor.Con
namespace Go.Proofs.YtfknfhajdiccgaaGreatDoor.Con
open Go Go.RowKit Go.Kt Go.Kt.V
set_option linter.unusedSimpArgs false
set_option linter.unusedVariables false
set_option maxHeartbeats 4000000
inductive Ex where
 | mk (k n : Int) (s : List UInt8) (op : Int) (subs : List Ex) (a : Int)
def Ex.k : Ex -> Int | .mk k _ _ _ _ _ => k
def Ex.n : Ex -> Int | .mk _ n _ _ _ _ => n
def Ex.s : Ex -> List UInt8 | .mk _ _ s _ _ _ => s
def Ex.op : Ex -> Int | .mk _ _ _ op _ _ => op
def Ex.subs : Ex -> List Ex | .mk _ _ _ _ l _ => l
def Ex.a : Ex -> Int | .mk _ _ _ _ _ a => a
def tk0 : Tk := ⟨5, [], 0, -1⟩
def tk (ts : List Tk) (i : Nat) : Tk := (ts[i]?).getD tk0
def sg (ts : List Tk) (i : Nat) (s : List UInt8) : Bool := (tk ts i).k == 4 && decide ((tk ts i).t = s)
def wrongF (ts : List Tk) (i : Nat) : Int × Int := (if (tk ts i).k = 5 then 3 else 4, (tk ts i).a)
theorem tk_at {ts : List Tk} {i : Nat} (h : i < ts.length) : ts[i]? = some (tk ts i) := by
 unfold tk
 rw [List.getElem?_eq_getElem h]
 rfl
def EndL (ts : List Tk) : Prop := ∀ i, i < ts.length -> ((tk ts i).k = 5 ↔ i + 1 = ts.length)
theorem EndL.next {ts : List Tk} (h : EndL ts) {i : Nat} (hi : i < ts.length) (hk : (tk ts i).k ≠ 5) : i + 1 < ts.length := by
 have h2 : ¬ (i + 1 = ts.length) := fun e => hk ((h i hi).2 e)
 omega
theorem sg_k {ts : List Tk} {i : Nat} {s : List UInt8} (h : sg ts i s = true) : (tk ts i).k ≠ 5 := by
 simp only [sg, Bool.and_eq_true, beq_iff_eq] at h
 rw [h.1]
 decide
def opsL : List (List UInt8) := [[], [43], [45], [42], [47], [37], [60], [60, 61], [62], [62, 61], [61, 61], [33, 61], [38, 38], [124, 124], [45], [33]]
def rowOf (op : Int) : Int := if 3 <= op /\ op <= 5 then 5 else if op = 1 ∨ op = 2 then 4 else if 6 <= op /\ op <= 9 then 3 else if op = 10 ∨ op = 11 then 2 else if op = 12 then 1 else if op = 13 then 0 else 6
def opTx (op : Nat) : List UInt8 := (opsL[op]?).getD []
def opFrom (ts : List Tk) (k : Int) (i : Nat) : Nat -> Nat -> Int
 | 0, _ => 0
 | f + 1, op => if rowOf (op : Int) = k /\ sg ts i (opTx op) = true then (op : Int) else opFrom ts k i f (op + 1)
def opAt (ts : List Tk) (k : Int) (i : Nat) : Int := opFrom ts k i 13 1
theorem opFrom_sg {ts : List Tk} {k : Int} {i : Nat} : ∀ (f op : Nat), opFrom ts k i f op ≠ 0 -> (tk ts i).k ≠ 5
 | 0, _, h => absurd rfl h
 | f + 1, op, h => by
  rw [opFrom] at h
  split at h
  · rename_i hc
    exact sg_k hc.2
  · exact opFrom_sg f _ h
abbrev Pr := Except (Int × Int) (Ex × Nat)
def mapR (g : Ex -> Ex) : Pr -> Pr
 | .error e => .error e
 | .ok (x, j) => .ok (g x, j)
def andR : Pr -> (Ex -> Nat -> Pr) -> Pr
 | .error e, _ => .error e
 | .ok (x, j), g => g x j
def parR (ts : List Tk) : Pr -> Pr
 | .error e => .error e
 | .ok (x, j) => if sg ts j [41] then .ok (x, j + 1) else .error (wrongF ts j)
def nestR (d : Nat) (a : Int) (r : Pr) : Pr := if d = 20 then .error (21, a) else r
def inR (ts : List Tk) (i : Nat) : Pr :=
 if sg ts (i + 1) [40] then
  (if (tk ts (i + 2)).k = 1 then
   (if sg ts (i + 3) [41] then .ok (.mk 3 0 (tk ts (i + 2)).t 0 [] (tk ts i).a, i + 4) else .error (wrongF ts (i + 3)))
  else .error (wrongF ts (i + 2)))
 else .error (wrongF ts (i + 1))
def oneR (ts : List Tk) (E0 One : Nat -> Pr) (d i : Nat) : Pr :=
 if (sg ts i [45] || sg ts i [33]) = true then mapR (fun x => .mk 4 0 [] (if (tk ts i).t = [33] then 15 else 14) [x] (tk ts i).a) (nestR d (tk ts i).a (One (i + 1)))
 else if sg ts i [40] = true then nestR d (tk ts i).a (parR ts (E0 (i + 1)))
 else if (tk ts i).k = 3 then .ok (.mk 1 (tk ts i).n [] 0 [] (tk ts i).a, i + 1)
 else if (tk ts i).k = 1 then .ok (.mk 2 0 (tk ts i).t 0 [] (tk ts i).a, i + 1)
 else if (tk ts i).k = 2 /\ (tk ts i).t = [105, 110] then inR ts i
 else .error (wrongF ts i)
def loopR (ts : List Tk) (E : Nat -> Pr) (k : Int) : Nat -> Ex -> Nat -> Pr
 | 0, x, j => .ok (x, j)
 | g + 1, x, j => if opAt ts k j = 0 then .ok (x, j) else andR (E (j + 1)) fun y j' => loopR ts E k g (.mk 5 0 [] (opAt ts k j) [x, y] x.a) j'
def exprR (ts : List Tk) : Nat -> Nat -> Nat -> Nat -> Pr
 | 0, _, _, _ => .error (1, 0)
 | f + 1, k, d, i => if k = 6 then oneR ts (exprR ts f 0 (d + 1)) (exprR ts f 6 (d + 1)) d i else andR (exprR ts f (k + 1) d i) fun x j => loopR ts (exprR ts f (k + 1) d) (k : Int) (ts.length - j) x j
theorem mapR_ok {g : Ex -> Ex} {r : Pr} {x : Ex} {j : Nat} (h : mapR g r = .ok (x, j)) : ∃ y, r = .ok (y, j) /\ x = g y := by
 cases r with
 | error e => cases h
 | ok q =>
  obtain ⟨y, j'⟩ := q
  simp only [mapR, Except.ok.injEq, Prod.mk.injEq] at h
  obtain ⟨rfl, rfl⟩ := h
  exact ⟨y, rfl, rfl⟩
theorem nestR_ok {d : Nat} {a : Int} {r : Pr} {q : Ex × Nat} (h : nestR d a r = .ok q) : r = .ok q /\ d ≠ 20 := by
 unfold nestR at h
 split at h
 · cases h
 · exact ⟨h, by assumption⟩
theorem parR_ok {ts : List Tk} {r : Pr} {x : Ex} {j : Nat} (h : parR ts r = .ok (x, j)) : ∃ j', r = .ok (x, j') /\ sg ts j' [41] = true /\ j = j' + 1 := by
 cases r with
 | error e => cases h
 | ok q =>
  obtain ⟨y, j'⟩ := q
  simp only [parR] at h
  split at h
  · simp only [Except.ok.injEq, Prod.mk.injEq] at h
    obtain ⟨rfl, rfl⟩ := h
    exact ⟨j', rfl, by assumption, rfl⟩
  · cases h
theorem andR_ok {r : Pr} {g : Ex -> Nat -> Pr} {q : Ex × Nat} (h : andR r g = .ok q) : ∃ x j, r = .ok (x, j) /\ g x j = .ok q := by
 cases r with
 | error e => cases h
 | ok p => exact ⟨p.1, p.2, rfl, h⟩
theorem inR_ok {ts : List Tk} {i : Nat} {x : Ex} {j : Nat} (h : inR ts i = .ok (x, j)) : j = i + 4 /\ x = .mk 3 0 (tk ts (i + 2)).t 0 [] (tk ts i).a := by
 unfold inR at h
 split at h
 · split at h
   · split at h
     · simp only [Except.ok.injEq, Prod.mk.injEq] at h
       exact ⟨h.2.symm, h.1.symm⟩
     · cases h
   · cases h
 · cases h
theorem oneR_mono {ts : List Tk} {E0 One : Nat -> Pr} {d i : Nat} {x : Ex} {j : Nat} (hE : ∀ i x j, E0 i = .ok (x, j) -> i < j) (hO : ∀ i x j, One i = .ok (x, j) -> i < j) (h : oneR ts E0 One d i = .ok (x, j)) : i < j := by
 unfold oneR at h
 split at h
 · obtain ⟨y, h1, _⟩ := mapR_ok h
   have := hO _ _ _ (nestR_ok h1).1
   omega
 · split at h
   · obtain ⟨j', h1, _, rfl⟩ := parR_ok (nestR_ok h).1
     have := hE _ _ _ h1
     omega
   · split at h
     · simp only [Except.ok.injEq, Prod.mk.injEq] at h; omega
     · split at h
       · simp only [Except.ok.injEq, Prod.mk.injEq] at h; omega
       · split at h
         · have := (inR_ok h).1; omega
         · cases h
theorem loopR_mono {ts : List Tk} {E : Nat -> Pr} {k : Int} (hE : ∀ i x j, E i = .ok (x, j) -> i < j) : ∀ (g : Nat) (x : Ex) (j : Nat) {x' : Ex} {j' : Nat}, loopR ts E k g x j = .ok (x', j') -> j <= j'
 | 0, x, j, x', j', h => by
  simp only [loopR, Except.ok.injEq, Prod.mk.injEq] at h; omega
 | g + 1, x, j, x', j', h => by
  rw [loopR] at h
  split at h
  · simp only [Except.ok.injEq, Prod.mk.injEq] at h; omega
  · obtain ⟨y, m, h1, h2⟩ := andR_ok h
    have := hE _ _ _ h1
    have := loopR_mono hE g _ _ h2
    omega
theorem exprR_mono {ts : List Tk} : ∀ (f k d i : Nat) {x : Ex} {j : Nat}, exprR ts f k d i = .ok (x, j) -> i < j
 | 0, _, _, _, _, _, h => by cases h
 | f + 1, k, d, i, x, j, h => by
  rw [exprR] at h
  split at h
  · exact oneR_mono (fun i x j h => exprR_mono f _ _ i h) (fun i x j h => exprR_mono f _ _ i h) h
  · obtain ⟨y, m, h1, h2⟩ := andR_ok h
    have := exprR_mono f _ _ _ h1
    have := loopR_mono (fun i x j h => exprR_mono f _ _ i h) _ _ _ h2
    omega
def need (k d : Nat) : Nat := (20 - d) * 8 + (7 - k)
def parseR (ts : List Tk) (i : Nat) : Pr := exprR ts (need 0 0) 0 0 i
end Go.Proofs.YtfknfhajdiccgaaGreatDoor.Con
namespace Go.Proofs.YtfknfhajdiccgaaGreatDoor.Con
open Go Go.RowKit Go.Kt Go.Kt.V Go.Proofs.YtfknfhajdiccgaaGreatDoor.Vc
set_option linter.unusedSimpArgs false
set_option linter.unusedVariables false
set_option maxHeartbeats 4000000
structure Rd (F G : Nat -> Prop) (ts : List Tk) (w : World) (b : Nat) (l sn : Sl) (i : Nat) (fc fa d : Int) : Prop where
 blk : Blk w b 84 [l.v, .int .i64 (i : Int), .int .i64 fc, .int .i64 fa, .int .i64 d, sn.v]
 tok : SliceF rTk 4 w F l ts
 sig : SliceF rTx 1 w G sn opsL
 hF : ∀ k, F k -> k < b
 hG : ∀ k, G k -> k < b
 en : EndL ts
 lt : i < ts.length
section
variable {F G : Nat -> Prop} {ts : List Tk} {w w' : World} {b : Nat} {l sn : Sl} {i : Nat} {fc fa d : Int}
theorem Rd.only (h : Rd F G ts w b l sn i fc fa d) (hO : Only [] w w') : Rd F G ts w' b l sn i fc fa d :=
 ⟨hO.blk h.blk (by simp), SliceF.only rTk_ok (by decide) h.tok hO (by simp), SliceF.only rTx_ok (by decide) h.sig hO (by simp), h.hF, h.hG, h.en, h.lt⟩
theorem Rd.turn (h : Rd F G ts w b l sn i fc fa d) (hO : Only [b] w w') {i' : Nat} {fc' fa' d' : Int} (hB : Blk w' b 84 [l.v, .int .i64 (i' : Int), .int .i64 fc', .int .i64 fa', .int .i64 d', sn.v]) (hi : i' < ts.length) : Rd F G ts w' b l sn i' fc' fa' d' :=
 ⟨hB, SliceF.only rTk_ok (by decide) h.tok hO fun k hk _ hm => by have := h.hF k hk; simp only [List.mem_singleton] at hm; omega, SliceF.only rTx_ok (by decide) h.sig hO fun k hk _ hm => by have := h.hG k hk; simp only [List.mem_singleton] at hm; omega, h.hF, h.hG, h.en, hi⟩
theorem Rd.own (h : Rd F G ts w b l sn i fc fa d) {bs : List Nat} (hO : Only bs w w') (hb : ∀ x, x ∈ bs -> b < x) : Rd F G ts w' b l sn i fc fa d :=
 ⟨hO.blk h.blk fun hm => by have := hb b hm; omega, SliceF.only rTk_ok (by decide) h.tok hO fun k hk _ hm => (by have := h.hF k hk; have := hb k hm; omega), SliceF.only rTx_ok (by decide) h.sig hO fun k hk _ hm => (by have := h.hG k hk; have := hb k hm; omega), h.hF, h.hG, h.en, h.lt⟩
theorem Rd.lb (h : Rd F G ts w b l sn i fc fa d) : b < w.heap.size := h.blk.lt
theorem Rd.big (h : Rd F G ts w b l sn i fc fa d) : ts.length <= 9223372036854775807 := by
 have h1 := h.tok.len
 have h2 := h.tok.cap
 have h3 := h.tok.big
 omega
theorem Rd.now (h : Rd F G ts w b l sn i fc fa d) : ∃ ad, SlAt l (i : Int) 4 ad /\ Cells w ad [.int .i64 (tk ts i).k, .string (T (tk ts i).t), .int .i64 (tk ts i).n, .int .i64 (tk ts i).a] := by
 have hl := h.tok.len
 have hlt := h.lt
 obtain ⟨ad, x, cs, g1, g2, g3, g4, g5, g6⟩ := h.tok.get (Int.natCast_nonneg i) (by omega)
 rw [Int.toNat_natCast, tk_at h.lt] at g2
 injection g2 with g2
 subst g2
 unfold rTk at g6
 subst g6
 exact ⟨ad, g1, g5⟩
theorem now_c (h : Rd F G ts w b l sn i fc fa d) : Calls Tryz.prog 73 #[.pointer (some ⟨b, 0, none⟩)] w fun e w' => e = .returned (tk ts i).v /\ Only [] w w' := by
 refine ret (v20w ⟨b, 0, none⟩ (fun v w' => v = (tk ts i).v /\ Only [] w w') w ?_)
 unfold v20v
 intro k0 w0 hk hk' hO
 have h0 := h.only hO
 obtain ⟨ad, g1, g2⟩ := h0.now
 exact ⟨l, Blk.at1 h0.blk 0 rfl, _, Blk.at1 h0.blk 1 rfl, ad, g1, _, _, _, _, g2, fun w1 hO1 => ⟨rfl, hO.new hO1 hk⟩⟩
theorem bad_c (h : Rd F G ts w b l sn i fc fa d) : Calls Tryz.prog 37 #[.pointer (some ⟨b, 0, none⟩)] w fun e w' => e = .returned (.bool (fc != 0)) /\ Only [] w w' := by
 refine ret (v17w ⟨b, 0, none⟩ (fun v w' => v = (.bool (fc != 0)) /\ Only [] w w') w ?_)
 unfold v17v
 exact ⟨fc, Blk.at1 h.blk 2 rfl, rfl, Only.refl _ _⟩
theorem stop_c (h : Rd F G ts w b l sn i fc fa d) (c : Int) : Calls Tryz.prog 92 #[.pointer (some ⟨b, 0, none⟩), .int .i64 c] w fun e w' => e = .returned (.tuple #[]) /\ Only [b] w w' /\
  Rd F G ts w' b l sn i (if fc = 0 then c else fc) (if fc = 0 then (tk ts i).a else fa) d := by
 refine ret (v21w ⟨b, 0, none⟩ c (fun v w' => v = (.tuple #[]) /\ Only [b] w w' /\ Rd F G ts w' b l sn i (if fc = 0 then c else fc) (if fc = 0 then (tk ts i).a else fa) d) w ?_)
 unfold v21v
 refine (bad_c h).mono ?_
 rintro _ w0 ⟨rfl, hO0⟩
 have h0 := h.only hO0
 refine ⟨_, rfl, fun hc => (now_c h0).mono ?_, fun hc => ?_⟩
 · have hc : fc = 0 := by simpa using hc
   subst hc
   rintro _ w1 ⟨rfl, hO1⟩
   have h1 := h0.only hO1
   refine ⟨_, _, _, _, rfl, b, 2, _, _, rfl, h1.blk, by simp, fun w2 hO2 hB2 => ⟨rfl, (hO0.tr0 hO1).weaken (fun _ h => (by cases h)) |>.trans hO2 (fun x hx => .inl hx), ?_⟩⟩
   rw [if_pos rfl, if_pos rfl]
   exact h1.turn hO2 hB2 h.lt
 · have hc : fc ≠ 0 := by simpa using hc
   rw [if_neg hc, if_neg hc]
   exact ⟨rfl, hO0.weaken fun _ h => (by cases h), h0⟩
theorem wrong_c (h : Rd F G ts w b l sn i fc fa d) : Calls Tryz.prog 79 #[.pointer (some ⟨b, 0, none⟩)] w fun e w' => e = .returned (.tuple #[]) /\ Only [b] w w' /\
  Rd F G ts w' b l sn i (if fc = 0 then (wrongF ts i).1 else fc) (if fc = 0 then (wrongF ts i).2 else fa) d := by
 refine ret (v22w ⟨b, 0, none⟩ (fun v w' => v = (.tuple #[]) /\ Only [b] w w' /\ Rd F G ts w' b l sn i (if fc = 0 then (wrongF ts i).1 else fc) (if fc = 0 then (wrongF ts i).2 else fa) d) w ?_)
 unfold v22v
 refine ⟨fun w' => Only [b] w w' /\ ((tk ts i).k = 5 -> Rd F G ts w' b l sn i (if fc = 0 then 3 else fc) (if fc = 0 then (tk ts i).a else fa) d) /\ ((tk ts i).k ≠ 5 -> Rd F G ts w' b l sn i fc fa d), ?_, (now_c h).mono ?_⟩
 · rintro w0 ⟨hO0, h1, h2⟩
   by_cases hk : (tk ts i).k = 5
   · refine (stop_c (h1 hk) 4).mono ?_
     rintro _ w1 ⟨rfl, hO1, hR⟩
     refine ⟨rfl, rfl, hO0.trans hO1 (fun x hx => .inl hx), ?_⟩
     unfold wrongF
     rw [if_pos hk]
     by_cases hc : fc = 0
     · rw [if_pos hc, if_pos hc, if_neg (by decide), if_neg (by decide)] at hR
       rw [if_pos hc, if_pos hc]; exact hR
     · rw [if_neg hc, if_neg hc, if_neg hc, if_neg hc] at hR
       rw [if_neg hc, if_neg hc]; exact hR
   · refine (stop_c (h2 hk) 4).mono ?_
     rintro _ w1 ⟨rfl, hO1, hR⟩
     refine ⟨rfl, rfl, hO0.trans hO1 (fun x hx => .inl hx), ?_⟩
     unfold wrongF
     rw [if_neg hk]
     exact hR
 · rintro _ w2 ⟨rfl, hO2⟩
   have h2 := h.only hO2
   refine ⟨_, _, _, _, rfl, fun hc => (stop_c h2 3).mono ?_, fun hc => ⟨hO2.weaken fun _ h => (by cases h), fun e => ?_, fun _ => h2⟩⟩
   · rintro _ w3 ⟨rfl, hO3, hR⟩
     exact ⟨rfl, hO2.weaken (fun _ h => (by cases h)) |>.trans hO3 (fun x hx => .inl hx), fun _ => hR, fun e => absurd (by simpa using hc) e⟩
   · rw [e] at hc; simp at hc
theorem is_c (h : Rd F G ts w b l sn i fc fa d) {H : Nat -> Prop} {s : Sl} {ss : List (List UInt8)} (hs : SliceF rTx 1 w H s ss) : Calls Tryz.prog 74 #[.pointer (some ⟨b, 0, none⟩), s.v] w fun e w' =>
  e = .returned (.bool (fc == 0 && (tk ts i).k == 4 && ss.contains (tk ts i).t)) /\ Only [] w w' := by
 refine ret (v18w ⟨b, 0, none⟩ s (fun v w' => v = (.bool (fc == 0 && (tk ts i).k == 4 && ss.contains (tk ts i).t)) /\ Only [] w w') w ?_)
 unfold v18v
 refine (now_c h).mono ?_
 rintro _ w0 ⟨rfl, hO0⟩
 refine ⟨_, _, _, _, rfl, fun k0 w1 hk hk' hO1 => ⟨fun c w' => c = (fc == 0 && (tk ts i).k == 4 && ss.contains (tk ts i).t) /\ Only [] w w', fun c w2 h2 => ⟨by rw [h2.1], h2.2⟩, ?_⟩⟩
 have hO01 := hO0.tr0 hO1
 refine (bad_c (h.only hO01)).mono ?_
 rintro _ w3 ⟨rfl, hO3⟩
 have e : (!(fc != 0)) = (fc == 0) := by cases h : (fc == 0) <;> simp [bne, h]
 refine ⟨_, rfl, hO3.same (by simp; omega), fun hc => (containsS_c (SliceF.only rTx_ok (by decide) hs (hO01.tr0 hO3) (by simp)) _).mono ?_, fun hc => ⟨?_, hO01.tr0 hO3⟩⟩
 · rintro _ w4 ⟨rfl, hO4⟩
   rw [e] at hc
   have hl := h.lb
   have z3 := hO3.size
   exact ⟨_, rfl, hO4.same (by simp; omega), by rw [hc, Bool.true_and], hO01.tr0 (hO3.tr0 hO4)⟩
 · rw [e] at hc
   rw [hc, Bool.false_and]
theorem is1 (h : Rd F G ts w b l sn i fc fa d) (s : List UInt8) : ∃ (s0 : Sl) (w0 : World), (Instr.buildSlice 26 1 #[.mk 0 (.string (T s))]).run Tryz.prog w = .ok s0.v w0 /\ Only [] w w0 /\
  Calls Tryz.prog 74 #[.pointer (some ⟨b, 0, none⟩), s0.v] w0 fun e w' => e = .returned (.bool (fc == 0 && sg ts i s)) /\ Only [] w0 w' := by
 obtain ⟨s0, w0, k1, k2, k3⟩ := buildS w [s] (n := 1) (parts := #[(0, .string (T s))]) rfl rfl (by decide) (by decide)
 refine ⟨s0, w0, k1, k3, (is_c (h.only k3) (flatS k2)).mono ?_⟩
 rintro _ w1 ⟨rfl, hO1⟩
 have e : [s].contains (tk ts i).t = decide ((tk ts i).t = s) := by
  by_cases e : (tk ts i).t = s
  · rw [decide_eq_true e, e]; simp
  · rw [decide_eq_false e]; simp [e]
 refine ⟨?_, hO1⟩
 unfold sg
 rw [Bool.and_assoc, e]
theorem is2 (h : Rd F G ts w b l sn i fc fa d) : ∃ (s0 : Sl) (w0 : World), (Instr.buildSlice 26 2 #[.mk 0 (.string (ByteArray.mk #[45])), .mk 1 (.string (ByteArray.mk #[33]))]).run Tryz.prog w = .ok s0.v w0 /\ Only [] w w0 /\
  Calls Tryz.prog 74 #[.pointer (some ⟨b, 0, none⟩), s0.v] w0 fun e w' => e = .returned (.bool (fc == 0 && (sg ts i [45] || sg ts i [33]))) /\ Only [] w0 w' := by
 obtain ⟨s0, w0, k1, k2, k3⟩ := buildS w [[45], [33]] (n := 2) (parts := #[(0, .string (T [45])), (1, .string (T [33]))]) rfl rfl (by decide) (by decide)
 refine ⟨s0, w0, k1, k3, (is_c (h.only k3) (flatS k2)).mono ?_⟩
 rintro _ w1 ⟨rfl, hO1⟩
 have e : [[45], [33]].contains (tk ts i).t = (decide ((tk ts i).t = [45]) || decide ((tk ts i).t = [33])) := by
  rw [Bool.eq_iff_iff]
  simp
 refine ⟨?_, hO1⟩
 unfold sg
 rw [Bool.and_assoc, <- Bool.and_or_distrib_left, e]
theorem must_c (h : Rd F G ts w b l sn i fc fa d) (s : List UInt8) : Calls Tryz.prog 77 #[.pointer (some ⟨b, 0, none⟩), .string (T s)] w fun e w' => e = .returned (.tuple #[]) /\ Only [b] w w' /\
  (if fc == 0 && sg ts i s then Rd F G ts w' b l sn (i + 1) fc fa d else Rd F G ts w' b l sn i (if fc = 0 then (wrongF ts i).1 else fc) (if fc = 0 then (wrongF ts i).2 else fa) d) := by
 refine ret (v19w ⟨b, 0, none⟩ _ (fun v w' => v = (.tuple #[]) /\ Only [b] w w' /\ (if fc == 0 && sg ts i s then Rd F G ts w' b l sn (i + 1) fc fa d else Rd F G ts w' b l sn i (if fc = 0 then (wrongF ts i).1 else fc) (if fc = 0 then (wrongF ts i).2 else fa) d)) w ?_)
 unfold v19v
 obtain ⟨s0, w0, k1, k2, k3⟩ := is1 h s
 refine ⟨s0, w0, k1, k3.mono ?_⟩
 rintro _ w1 ⟨rfl, hO1⟩
 have h1 := h.only (k2.tr0 hO1)
 have hO01 : Only [b] w w1 := (k2.tr0 hO1).weaken fun _ h => (by cases h)
 refine ⟨_, rfl, fun hc => (wrong_c h1).mono ?_, fun hc => ?_⟩
 · rintro _ w2 ⟨rfl, hO2, hR⟩
   have hc : (fc == 0 && sg ts i s) = false := by rwa [Bool.not_eq_true'] at hc
   rw [hc]
   exact ⟨rfl, rfl, hO01.trans hO2 (fun x hx => .inl hx), hR⟩
 · have hc : (fc == 0 && sg ts i s) = true := by rwa [Bool.not_eq_false'] at hc
   rw [hc]
   simp only [Bool.and_eq_true] at hc
   have hn := h.en.next h.lt (sg_k hc.2)
   have hb := h.big
   refine ⟨(i : Int), Blk.at1 h1.blk 1 rfl, b, 1, _, _, rfl, h1.blk, by simp, fun w3 hO3 hB3 => ⟨rfl, hO01.trans hO3 (fun x hx => .inl hx), h1.turn hO3 ?_ hn⟩⟩
   rw [wr' (by omega) (by omega)] at hB3
   exact hB3
theorem name'_c (h : Rd F G ts w b l sn i fc fa d) : Calls Tryz.prog 78 #[.pointer (some ⟨b, 0, none⟩)] w fun e w' => Only [b] w w' /\
  (if fc = 0 /\ (tk ts i).k = 1 then e = .returned (.string (T (tk ts i).t)) /\ Rd F G ts w' b l sn (i + 1) fc fa d else e = .returned (.string (T [])) /\ Rd F G ts w' b l sn i (if fc = 0 then (wrongF ts i).1 else fc) (if fc = 0 then (wrongF ts i).2 else fa) d) := by
 refine (v25w ⟨b, 0, none⟩ (fun v w' => Only [b] w w' /\ (if fc = 0 /\ (tk ts i).k = 1 then v = (.string (T (tk ts i).t)) /\ Rd F G ts w' b l sn (i + 1) fc fa d else v = (.string (T [])) /\ Rd F G ts w' b l sn i (if fc = 0 then (wrongF ts i).1 else fc) (if fc = 0 then (wrongF ts i).2 else fa) d)) w ?_).mono (by
  rintro e w' ⟨v, rfl, hO, hv⟩
  refine ⟨hO, ?_⟩
  split at hv
  · rename_i hc; rw [if_pos hc]; exact ⟨by rw [hv.1], hv.2⟩
  · rename_i hc; rw [if_neg hc]; exact ⟨by rw [hv.1], hv.2⟩)
 unfold v25v
 refine (now_c h).mono ?_
 rintro _ w0 ⟨rfl, hO0⟩
 refine ⟨_, _, _, _, rfl, fun k0 w1 hk hk' hO1 => ?_⟩
 have hO01 := hO0.tr0 hO1
 have z0 := hO0.size
 have hl := h.lb
 refine (bad_c (h.only hO01)).mono ?_
 rintro _ w2 ⟨rfl, hO2⟩
 have z2 := hO2.size
 have h2 := h.only (hO01.tr0 hO2)
 have hO02 : Only [b] w w2 := (hO01.tr0 hO2).weaken fun _ h => (by cases h)
 refine ⟨_, rfl, hO2.same (by simp; omega), fun hc => (wrong_c h2).mono ?_, fun hc => ?_⟩
 · rintro _ w3 ⟨rfl, hO3, hR⟩
   refine ⟨rfl, hO3.same (by simp; omega), hO02.trans hO3 (fun x hx => .inl hx), ?_⟩
   rw [if_neg (fun hh => by rw [hh.1, hh.2] at hc; simp at hc)]
   exact ⟨rfl, hR⟩
 · have hc : fc = 0 /\ (tk ts i).k = 1 := by simpa using hc
   have hn := h.en.next h.lt (by rw [hc.2]; decide)
   have hb := h.big
   refine ⟨(i : Int), Blk.at1 h2.blk 1 rfl, b, 1, _, _, rfl, h2.blk, by simp, by omega, fun w3 hO3 hB3 => ⟨hO02.trans hO3 (fun x hx => .inl hx), ?_⟩⟩
   rw [if_pos hc]
   refine ⟨rfl, h2.turn hO3 ?_ hn⟩
   rw [wr' (by omega) (by omega)] at hB3
   exact hB3
end
theorem erow_c (w : World) (op : Int) : Calls Tryz.prog 80 #[.int .i64 op] w fun e w' => e = .returned (.int .i64 (rowOf op)) /\ w' = w := by
 refine ret (v30w op (fun v w' => v = .int .i64 (rowOf op) /\ w' = w) w ?_)
 unfold v30v
 have fin : ∀ {k : Int} {w1 : World}, rowOf op = k -> (Value.int .i64 k = .int .i64 (rowOf op) /\ w1 = w1) := fun e => ⟨by rw [e], rfl⟩
 refine ⟨fun h => fin ?_, fun h => ⟨fun b w' => b = decide (op = 1 ∨ op = 2) /\ w' = w, ?_, fun h1 => ⟨?_, rfl⟩, fun h1 => ⟨?_, rfl⟩⟩⟩
 · simp only [Bool.and_eq_true, decide_eq_true_eq] at h
   unfold rowOf
   rw [if_pos (by omega)]
 · rintro _ w1 ⟨rfl, rfl⟩
   have h : ¬ (3 <= op /\ op <= 5) := fun hh => by rw [decide_eq_true hh.1, decide_eq_true hh.2] at h; cases h
   refine ⟨fun h1 => fin ?_, fun h1 => ⟨fun h2 => fin ?_, fun h2 => ⟨fun b w2 => b = decide (op = 10 ∨ op = 11) /\ w2 = w1, ?_, fun h3 => ⟨?_, rfl⟩, fun h3 => ⟨?_, rfl⟩⟩⟩⟩
   · have h1 := of_decide_eq_true h1
     unfold rowOf
     rw [if_neg h, if_pos h1]
   · have h1 := of_decide_eq_false h1
     simp only [Bool.and_eq_true, decide_eq_true_eq] at h2
     unfold rowOf
     rw [if_neg h, if_neg h1, if_pos (by omega)]
   · rintro _ _ ⟨rfl, rfl⟩
     have h1 := of_decide_eq_false h1
     have h2 : ¬ (6 <= op /\ op <= 9) := fun hh => by rw [decide_eq_true hh.1, decide_eq_true hh.2] at h2; cases h2
     refine ⟨fun h3 => fin ?_, fun h3 => ⟨fun h4 => fin ?_, fun h4 => ⟨fun h5 => fin ?_, fun h5 => fin ?_⟩⟩⟩
     · have h3 := of_decide_eq_true h3
       unfold rowOf
       rw [if_neg h, if_neg h1, if_neg h2, if_pos h3]
     · have h3 := of_decide_eq_false h3
       have h4 : op = 12 := by simpa using h4
       unfold rowOf
       rw [if_neg h, if_neg h1, if_neg h2, if_neg h3, if_pos h4]
     · have h3 := of_decide_eq_false h3
       have h4 : ¬ op = 12 := by simpa using h4
       have h5 : op = 13 := by simpa using h5
       unfold rowOf
       rw [if_neg h, if_neg h1, if_neg h2, if_neg h3, if_neg h4, if_pos h5]
     · have h3 := of_decide_eq_false h3
       have h4 : ¬ op = 12 := by simpa using h4
       have h5 : ¬ op = 13 := by simpa using h5
       unfold rowOf
       rw [if_neg h, if_neg h1, if_neg h2, if_neg h3, if_neg h4, if_neg h5]
   · have h3 : op = 10 := by simpa using h3
     rw [h3]; rfl
   · have h3 : ¬ op = 10 := by simpa using h3
     rw [Bool.eq_iff_iff]
     simp [h3]
 · have h1 : op = 1 := by simpa using h1
   rw [h1]; rfl
 · have h1 : ¬ op = 1 := by simpa using h1
   rw [Bool.eq_iff_iff]
   simp [h1]
section
variable {F G : Nat -> Prop} {ts : List Tk} {w w' : World} {b : Nat} {l sn : Sl} {i : Nat} {fc fa d : Int}
theorem operator_c (h : Rd F G ts w b l sn i fc fa d) (k : Int) : Calls Tryz.prog 55 #[.pointer (some ⟨b, 0, none⟩), .int .i64 k] w fun e w' => e = .returned (.int .i64 (if fc = 0 then opAt ts k i else 0)) /\ Only [] w w' := by
 refine ret (v28w ⟨b, 0, none⟩ k (fun v w' => v = .int .i64 (if fc = 0 then opAt ts k i else 0) /\ Only [] w w') w ?_)
 unfold v28v
 refine ⟨fun nv i0 w' => ∃ op : Nat, 1 <= op /\ op <= 14 /\ i0 = (op : Int) /\ nv = 14 - op /\ (if fc = 0 then opAt ts k i else 0) = (if fc = 0 then opFrom ts k i (14 - op) op else 0) /\ Only [] w w', 13, ⟨1, by decide, by decide, rfl, rfl, rfl, Only.refl _ _⟩, ?_⟩
 rintro nv _ w0 ⟨op, h1, h2, rfl, rfl, hV, hO0⟩
 refine ⟨fun hc => ?_, fun hc => ?_⟩
 · have hc : (op : Int) <= 13 := of_decide_eq_true hc
   obtain ⟨m, hm⟩ : ∃ m, 14 - op = m + 1 := ⟨13 - op, by omega⟩
   rw [hm, opFrom] at hV
   refine ⟨fun c w' => c = (decide (rowOf (op : Int) = k) && (fc == 0 && sg ts i (opTx op))) /\ Only [] w w', ?_, fun w2 hO2 => (erow_c w2 _).mono ?_⟩
   · rintro _ w1 ⟨rfl, hO1⟩
     refine ⟨fun hb => ⟨?_, hO1⟩, fun hb => ⟨m, by omega, op + 1, by omega, by omega, by rw [wr' (by omega) (by omega)]; rfl, by omega, ?_, hO1⟩⟩
     · simp only [Bool.and_eq_true, decide_eq_true_eq, beq_iff_eq] at hb
       rw [hV, if_pos hb.2.1, if_pos ⟨hb.1, hb.2.2⟩]
     · rw [hV, show 14 - (op + 1) = m by omega]
       by_cases h0 : fc = 0
       · rw [if_pos h0, if_pos h0, if_neg]
         rintro ⟨e1, e2⟩
         rw [decide_eq_true e1, e2, h0] at hb
         simp at hb
       · rw [if_neg h0, if_neg h0]
   · rintro _ w3 ⟨rfl, rfl⟩
     have h3 := h.only (hO0.tr0 hO2)
     refine ⟨_, rfl, fun hk => ?_, fun hk => ?_⟩
     · have hk : rowOf (op : Int) = k := by simpa using hk
       have hn := h3.sig.len
       have hol : opsL.length = 16 := rfl
       obtain ⟨ad, x, cs, g1, g2, g3, g4, g5, g6⟩ := h3.sig.get (i := (op : Int)) (by omega) (by omega)
       unfold rTx at g6
       subst g6
       rw [Int.toNat_natCast] at g2
       have hx : opTx op = x := by unfold opTx; rw [g2]; rfl
       subst hx
       obtain ⟨s0, w4, k1, k2, k3⟩ := is1 h3 (opTx op)
       refine ⟨sn, Blk.at1 h3.blk 5 rfl, ad, g1, _, g5, s0, w4, k1, k3.mono ?_⟩
       rintro _ w5 ⟨rfl, hO5⟩
       exact ⟨_, rfl, by rw [decide_eq_true hk, Bool.true_and], hO0.tr0 (hO2.tr0 (k2.tr0 hO5))⟩
     · have hk : ¬ rowOf (op : Int) = k := by simpa using hk
       exact ⟨by rw [decide_eq_false hk, Bool.false_and], hO0.tr0 hO2⟩
 · have hc : ¬ (op : Int) <= 13 := of_decide_eq_false hc
   have : op = 14 := by omega
   subst this
   rw [hV]
   refine ⟨?_, hO0⟩
   split <;> rfl
end
abbrev exv (k n : Int) (s : List UInt8) (op : Int) (sl : Sl) (a : Int) : List Value := [.int .i64 k, .int .i64 n, .string (T s), .int .i64 op, sl.v, .int .i64 a]
inductive RXN (w : World) (N : Nat -> Prop) : Nat -> Nat -> Ex -> List Value -> Prop
 | leaf (lo hi : Nat) (k n : Int) (s : List UInt8) (op a : Int) : RXN w N lo hi (.mk k n s op [] a) (exv k n s op Sl.nil a)
 | one (lo m g hi : Nat) (k n : Int) (s : List UInt8) (op a : Int) (x : Ex) (cs : List Value) : RXN w N lo m x cs -> lo <= g -> m <= g -> g < hi -> ¬ N g -> Blk w g 24 cs -> RXN w N lo hi (.mk k n s op [x] a) (exv k n s op ⟨some ⟨g, 0, none⟩, 1, 1⟩ a)
 | two (lo m m' m2 g hi : Nat) (k n : Int) (s : List UInt8) (op a : Int) (x y : Ex) (cs ds : List Value) : RXN w N lo m x cs -> m <= m' -> RXN w N m' m2 y ds -> lo <= m' -> m <= g -> m' <= g -> m2 <= g -> g < hi -> ¬ N g -> Blk w g 24 (cs ++ ds) -> RXN w N lo hi (.mk k n s op [x, y] a) (exv k n s op ⟨some ⟨g, 0, none⟩, 2, 2⟩ a)
abbrev RX (w : World) : Nat -> Nat -> Ex -> List Value -> Prop := RXN w fun _ => False
section
variable {w w' : World} {N N' : Nat -> Prop} {lo hi : Nat} {x : Ex} {cs : List Value}
theorem RXN.keep (h : RXN w N lo hi x cs) : (∀ k, lo <= k -> k < hi -> ¬ N k -> k < w.heap.size -> w'.heap[k]? = w.heap[k]?) -> RXN w' N lo hi x cs := by
 induction h with
 | leaf lo hi k n s op a => exact fun _ => .leaf ..
 | one lo m g hi k n s op a x cs h1 h2 h3 h4 hn h5 ih =>
  intro hk
  exact .one lo m g hi k n s op a x cs (ih fun j h6 h7 h8 => hk j h6 (by omega) h8) h2 h3 h4 hn ((hk g h2 h4 hn h5.lt).trans h5)
 | two lo m m' m2 g hi k n s op a x y cs ds h1 h2 h3 h4 h5 h6 h7 h8 hn h9 ih1 ih2 =>
  intro hk
  exact .two lo m m' m2 g hi k n s op a x y cs ds (ih1 fun j a1 a2 a3 => hk j a1 (by omega) a3) h2 (ih2 fun j a1 a2 a3 => hk j (by omega) (by omega) a3) h4 h5 h6 h7 h8 hn ((hk g (by omega) h8 hn h9.lt).trans h9)
theorem RXN.wide (h : RXN w N lo hi x cs) : ∀ {lo' hi' : Nat}, lo' <= lo -> hi <= hi' -> RXN w N lo' hi' x cs := by
 induction h with
 | leaf lo hi k n s op a => exact fun _ _ => .leaf ..
 | one lo m g hi k n s op a x cs h1 h2 h3 h4 hn h5 ih =>
  intro lo' hi' a1 a2
  exact .one lo' m g hi' k n s op a x cs (ih a1 (Nat.le_refl _)) (by omega) h3 (by omega) hn h5
 | two lo m m' m2 g hi k n s op a x y cs ds h1 h2 h3 h4 h5 h6 h7 h8 hn h9 ih1 ih2 =>
  intro lo' hi' a1 a2
  exact .two lo' m m' m2 g hi' k n s op a x y cs ds (ih1 a1 (Nat.le_refl _)) h2 h3 (by omega) h5 h6 h7 (by omega) hn h9
theorem RXN.holes (h : RXN w N lo hi x cs) : (∀ k, lo <= k -> k < hi -> ¬ N k -> ¬ N' k) -> RXN w N' lo hi x cs := by
 induction h with
 | leaf lo hi k n s op a => exact fun _ => .leaf ..
 | one lo m g hi k n s op a x cs h1 h2 h3 h4 hn h5 ih =>
  intro hk
  exact .one lo m g hi k n s op a x cs (ih fun j h6 h7 => hk j h6 (by omega)) h2 h3 h4 (hk g h2 h4 hn) h5
 | two lo m m' m2 g hi k n s op a x y cs ds h1 h2 h3 h4 h5 h6 h7 h8 hn h9 ih1 ih2 =>
  intro hk
  exact .two lo m m' m2 g hi k n s op a x y cs ds (ih1 fun j a1 a2 => hk j a1 (by omega)) h2 (ih2 fun j a1 a2 => hk j (by omega) (by omega)) h4 h5 h6 h7 h8 (hk g (by omega) h8 hn) h9
theorem RXN.cells (h : RXN w N lo hi x cs) : ∃ sl : Sl, cs = exv x.k x.n x.s x.op sl x.a /\ (sl.n = x.subs.length) := by
 cases h with
 | leaf => exact ⟨_, rfl, rfl⟩
 | one => exact ⟨_, rfl, rfl⟩
 | two => exact ⟨_, rfl, rfl⟩
theorem RXN.only (h : RXN w N lo hi x cs) {bs : List Nat} (hO : Only bs w w') (hb : ∀ k, k ∈ bs -> k < lo ∨ hi <= k ∨ N k) : RXN w' N lo hi x cs :=
 h.keep fun k h1 h2 hn h3 => hO.block k h3 fun hm => by
  rcases hb k hm with e | e | e
  · omega
  · omega
  · exact hn e
end
theorem buildX (w : World) (vs : List (List Value)) (hv : ∀ v, v ∈ vs -> v.length = 6) (h0 : 0 < vs.length) (hm : vs.length <= 100) {parts : Array (Nat × Value)} (hp : parts = (((vs.map fun v => Value.agg v.toArray).zipIdx 0).map fun x => (x.2, x.1)).toArray) :
  ∃ w', (Instr.buildSlice 22 vs.length parts).run Tryz.prog w = .ok (Sl.v ⟨some ⟨w.heap.size, 0, none⟩, vs.length, vs.length⟩) w' /\ Blk w' w.heap.size 24 vs.flatten /\ Only [] w w' := by
 have hc : ((vs.map fun v => Value.agg v.toArray).flatMap fun v => v.cells.toList) = vs.flatten := by
  clear hv h0 hm hp
  induction vs with
  | nil => rfl
  | cons v vs ih => rw [List.map_cons, List.flatMap_cons, ih, List.flatten_cons]; rfl
 have hs : Tryz.t24.size = 6 := rfl
 have hrun := run_buildSlice (P := Tryz.prog) w 22 24 vs.length parts ((vs.map fun v => Value.agg v.toArray).flatMap fun v => v.cells.toList).toArray Tryz.t24 _ (by kernel_rfl) (by kernel_rfl) rfl (by rw [hs]; omega) (by rw [hs]; omega)
  (by
   subst hp
   rw [List.toList_toArray, hs]
   refine Go.Great.fill_whole (s := 6) (by decide) (vs.map fun v => Value.agg v.toArray) _ (fun v hm => ?_) ?_
   · obtain ⟨x, hx, rfl⟩ := List.mem_map.1 hm
     have := hv x hx
     simpa [Value.cells] using this
   · simp)
 rw [hc] at hrun
 exact ⟨_, hrun, Blk.alloc w _ _, Only.alloc _ _⟩
def exT (v : Value) : Prop := ∃ (k n : Int) (s : List UInt8) (op : Int) (sl : Sl) (a : Int), v = .agg (exv k n s op sl a).toArray
def Did5 (F G : Nat -> Prop) (ts : List Tk) (w w' : World) (b : Nat) (l sn : Sl) (d : Nat) (r : Pr) (v : Value) : Prop := Only [b] w w' /\ match r with
 | .ok (x, j) => ∃ cs, v = .agg cs.toArray /\ RX w' w.heap.size w'.heap.size x cs /\ Rd F G ts w' b l sn j 0 0 (d : Int)
 | .error e => e.1 ≠ 0 /\ exT v /\ ∃ j, Rd F G ts w' b l sn j e.1 e.2 (d : Int)
section
variable {F G : Nat -> Prop} {ts : List Tk} {w w' : World} {b : Nat} {l sn : Sl} {i : Nat} {fc fa d : Int}
theorem wrongF_ne : (wrongF ts i).1 ≠ 0 := by
 unfold wrongF
 dsimp only
 split <;> decide
theorem within_c {d : Nat} (hd : d <= 20) (h : Rd F G ts w b l sn i 0 0 (d : Int)) (hi : i + 1 < ts.length) {g : Nat} {z1 z2 : List Value} (hg : ∀ (x : Array Value) (w : World), (callFunc g x).run Tryz.prog w = .ok (.enter g x) w) (f : OV) (hf : f.v = .func (.func g) z1.toArray z2.toArray) {r : Pr}
    (hr : d ≠ 20 -> ∀ w1, Only [b] w w1 -> Rd F G ts w1 b l sn (i + 1) 0 0 ((d + 1 : Nat) : Int) -> Calls Tryz.prog g (z1 ++ z2).toArray w1 fun e w' => ∃ v, e = .returned v /\ Did5 F G ts w1 w' b l sn (d + 1) r v) :
    Calls Tryz.prog 75 #[.pointer (some ⟨b, 0, none⟩), f.v] w fun e w' => ∃ v, e = .returned v /\ Did5 F G ts w w' b l sn d (nestR d (tk ts i).a r) v := by
  refine v29w ⟨b, 0, none⟩ f (fun v w' => Did5 F G ts w w' b l sn d (nestR d (tk ts i).a r) v) w ?_
  unfold v29v
  intro k0 w0 hk hk' hO0
  have hb := h.lb
  have h0 := h.only hO0
  refine ⟨(d : Int), Blk.at1 h0.blk 4 rfl, fun hc => (stop_c h0 21).mono ?_, fun hc => ?_⟩
  · have hc : d = 20 := by have : (d : Int) = 20 := by simpa using hc
                           omega
    rintro _ w1 ⟨rfl, hO1, hR⟩
    rw [if_pos rfl, if_pos rfl] at hR
    have z1 := hO1.size
    refine ⟨rfl, hO1.same (by simp; omega), fun w2 hO2 => ⟨?_, ?_⟩⟩
    · exact ((hO0.weaken (bs' := [b]) fun _ h => (by cases h)).trans hO1 fun x hx => .inl hx).new hO2 hk
    · rw [nestR, if_pos hc]
      exact ⟨(by decide : (21 : Int) ≠ 0), ⟨0, 0, [], 0, Sl.nil, 0, rfl⟩, i, hR.own hO2 (by simp; omega)⟩
  · have hc : d ≠ 20 := fun e => by subst e; simp at hc
    have hbg := h.big
    refine ⟨(i : Int), Blk.at1 h0.blk 1 rfl, b, 1, _, _, rfl, h0.blk, by simp, by omega, fun w3 hO3 hB3 => ?_⟩
    rw [wr' (by omega) (by omega)] at hB3
    have h3 : Rd F G ts w3 b l sn (i + 1) 0 0 (d : Int) := h0.turn hO3 hB3 hi
    have z3 := hO3.size
    refine ⟨(d : Int), Blk.at1 h3.blk 4 rfl, b, 4, _, _, rfl, h3.blk, by simp, by omega, fun w4 hO4 hB4 => ?_⟩
    rw [wr' (by omega) (by omega)] at hB4
    have h4 : Rd F G ts w4 b l sn (i + 1) 0 0 ((d + 1 : Nat) : Int) := h3.turn hO4 hB4 hi
    have z4 := hO4.size
    have hO04 : Only [b] w w4 := ((hO0.weaken (bs' := [b]) fun _ h => (by cases h)).trans hO3 fun x hx => .inl hx).trans hO4 fun x hx => .inl hx
    refine ⟨g, z1, z2, hf, hg, ?_⟩
    have e : cat (cat z1 []) z2 = z1 ++ z2 := by unfold cat; rw [List.append_nil]
    rw [e]
    refine (hr hc w4 hO04 h4).mono ?_
    rintro _ w6 ⟨v, rfl, hO6, hd⟩
    have z6 := hO6.size
    rw [nestR, if_neg hc]
    have hv : ∃ (k n : Int) (s : List UInt8) (op : Int) (sl : Sl) (a : Int), v = .agg (exv k n s op sl a).toArray := by
      cases r with
      | error e => exact hd.2.1
      | ok q =>
        obtain ⟨cs, rfl, hx, _⟩ := hd
        obtain ⟨sl, rfl, _⟩ := hx.cells
        exact ⟨_, _, _, _, _, _, rfl⟩
    obtain ⟨vk, vn, vs, vo, vsl, va, rfl⟩ := hv
    refine ⟨_, _, _, _, _, _, rfl, hO6.same (by simp; omega), fun k8 w7 hk8 hk8' hO7 => ?_⟩
    have z7 := hO7.size
    have key : ∀ {j : Nat} {fc fa : Int}, Rd F G ts w6 b l sn j fc fa ((d + 1 : Nat) : Int) -> ∃ i7 : Int, Cells w7 (Addr.add ⟨b, 0, none⟩ 4) [.int .i64 i7] /\ ∃ k9 k10 : Nat, ∃ z4 : List Value, ∃ k11 : Nat, (Addr.add ⟨b, 0, none⟩ 4) = ⟨k9, k10, none⟩ /\ Blk w7 k9 k11 z4 /\ (k10 + 1) <= z4.length /\ k0 ≠ k9 /\ k8 ≠ k9 /\
        ∀ w8 : World, Only [k9] w7 w8 -> Blk w8 k9 k11 (splice z4 k10 [.int .i64 (IntKind.wrap .i64 (i7 - 1))]) -> ∀ w9 : World, Only [k0] w8 w9 -> Only [b] w w9 /\ Only [b, k0] w6 w9 /\ Rd F G ts w9 b l sn j fc fa (d : Int) := fun {j fc fa} h6 => by
      have h7 := h6.only hO7
      refine ⟨((d + 1 : Nat) : Int), Blk.at1 h7.blk 4 rfl, b, 4, _, _, rfl, h7.blk, by simp, by omega, by omega, fun w8 hO8 hB8 w9 hO9 => ?_⟩
      have ed : ((d + 1 : Nat) : Int) - 1 = d := by omega
      rw [ed, wr' (by omega) (by omega)] at hB8
      have h8 : Rd F G ts w8 b l sn j fc fa (d : Int) := h7.turn hO8 hB8 h7.lt
      have hO69 : Only [b, k0] w6 w9 := ((hO7.weaken (bs' := [b, k0]) fun _ h => (by cases h)).trans hO8 fun x hx => .inl (by simp only [List.mem_singleton] at hx; simp [hx])).trans hO9 fun x hx => .inl (by simp only [List.mem_singleton] at hx; simp [hx])
      exact ⟨(hO04.trans hO6 fun x hx => .inl hx).trans hO69 (fun x hx => by
        simp only [List.mem_cons, List.not_mem_nil, or_false] at hx
        rcases hx with rfl | rfl
        · exact .inl (by simp)
        · exact .inr hk), hO69, h8.own hO9 (by simp; omega)⟩
    have hd2 := hd
    cases r with
    | error e =>
      obtain ⟨h1, h2, j, h3⟩ := hd2
      obtain ⟨i7, k1, k9, k10, z, k11, k2, k3, k4, k5, k6, k7⟩ := key h3
      refine ⟨i7, k1, k9, k10, z, k11, k2, k3, k4, k5, k6, fun w8 hO8 hB8 w9 hO9 => ?_⟩
      obtain ⟨a1, a2, a3⟩ := k7 w8 hO8 hB8 w9 hO9
      exact ⟨a1, h1, h2, j, a3⟩
    | ok q =>
      obtain ⟨x, j⟩ := q
      obtain ⟨cs, h1, h2, h3⟩ := hd2
      obtain ⟨i7, k1, k9, k10, z, k11, k2, k3, k4, k5, k6, k7⟩ := key h3
      refine ⟨i7, k1, k9, k10, z, k11, k2, k3, k4, k5, k6, fun w8 hO8 hB8 w9 hO9 => ?_⟩
      obtain ⟨a1, a2, a3⟩ := k7 w8 hO8 hB8 w9 hO9
      have z9 := a2.size
      exact ⟨a1, cs, h1, (h2.only a2 fun k hk => .inl (by simp only [List.mem_cons, List.not_mem_nil, or_false] at hk; omega)).wide (by omega) z9, a3⟩
end
section
variable {F G : Nat -> Prop} {ts : List Tk} {w w' : World} {b : Nat} {l sn : Sl} {i : Nat} {fc fa d : Int}
theorem Did5.typed {w w' : World} {d : Nat} {r : Pr} {v : Value} (h : Did5 F G ts w w' b l sn d r v) : exT v := by
 obtain ⟨_, h⟩ := h
 cases r with
 | error e => exact h.2.1
 | ok q =>
  obtain ⟨cs, rfl, hx, _⟩ := h
  obtain ⟨sl, rfl, _⟩ := hx.cells
  exact ⟨_, _, _, _, _, _, rfl⟩
theorem Did5.around {w0 w1 w2 w3 : World} {d : Nat} {r : Pr} {v : Value} (h : Did5 F G ts w1 w2 b l sn d r v) (hO0 : Only [b] w0 w1) {bs : List Nat} (hO2 : Only bs w2 w3) (hb : ∀ x, x ∈ bs -> b < x /\ w0.heap.size <= x /\ x < w1.heap.size) : Did5 F G ts w0 w3 b l sn d r v := by
 obtain ⟨hO, h⟩ := h
 have z0 := hO0.size
 have z1 := hO.size
 have z2 := hO2.size
 refine ⟨(hO0.trans hO fun x hx => .inl hx).trans hO2 fun x hx => .inr (hb x hx).2.1, ?_⟩
 cases r with
 | error e =>
  obtain ⟨h1, h2, j, h3⟩ := h
  exact ⟨h1, h2, j, h3.own hO2 fun x hx => (hb x hx).1⟩
 | ok q =>
  obtain ⟨cs, h1, h2, h3⟩ := h
  exact ⟨cs, h1, (h2.only hO2 fun x hx => .inl (hb x hx).2.2).wide z0 z2, h3.own hO2 fun x hx => (hb x hx).1⟩
theorem par_c {d : Nat} {r : Pr} {k0 : Nat} (h : Rd F G ts w b l sn i 0 0 (d : Int)) (hk : b < k0) (hB : Blk w k0 80 [.pointer (some ⟨b, 0, none⟩)])
  (hE : ∀ w1, Only [] w w1 -> Calls Tryz.prog 36 #[.pointer (some ⟨b, 0, none⟩), .int .i64 0] w1 fun e w' => ∃ v, e = .returned v /\ Did5 F G ts w1 w' b l sn d r v) :
  Calls Tryz.prog 76 #[.pointer (some ⟨k0, 0, none⟩)] w fun e w' => ∃ v, e = .returned v /\ Did5 F G ts w w' b l sn d (parR ts r) v := by
 refine v26w ⟨k0, 0, none⟩ (fun v w' => Did5 F G ts w w' b l sn d (parR ts r) v) w ?_
 unfold v26v
 intro k1 w0 hk1 hk1' hO0
 have hb := h.lb
 have hB0 : Blk w0 k0 80 [.pointer (some ⟨b, 0, none⟩)] := hO0.blk hB (by simp)
 have hkl := hB.lt
 refine ⟨_, Blk.at1 hB0 0 rfl, (hE w0 hO0).mono ?_⟩
 rintro _ w1 ⟨v, rfl, hd⟩
 obtain ⟨k, n, s, op, sl, a, rfl⟩ := hd.typed
 have z1 := hd.1.size
 refine ⟨_, _, _, _, _, _, rfl, hd.1.same (by simp; omega), fun k2 w2 hk2 hk2' hO2 => ?_⟩
 have z2 := hO2.size
 have hB2 : Blk w2 k0 80 [.pointer (some ⟨b, 0, none⟩)] := hO2.blk (hd.1.blk hB0 (by simp; omega)) (by simp)
 refine ⟨_, Blk.at1 hB2 0 rfl, _, rfl, ?_⟩
 obtain ⟨hO1, hd⟩ := hd
 have hO02 : Only [b] w w2 := ((hO0.weaken fun _ h => (by cases h)).trans hO1 fun x hx => .inl hx).tr0 hO2
 cases r with
 | error e =>
  obtain ⟨h1, h2, j, h3⟩ := hd
  have h3 := h3.only hO2
  refine (must_c h3 [41]).mono ?_
  rintro _ w3 ⟨rfl, hO3, hR⟩
  rw [if_neg (by simp [h1]), if_neg h1, if_neg h1] at hR
  refine ⟨rfl, hO3.same (by simp; omega), fun w4 hO4 => ⟨((hO02.trans hO3 fun x hx => .inl hx).new hO4 hk1), h1, ⟨_, _, _, _, _, _, rfl⟩, j, hR.own hO4 (by simp; omega)⟩⟩
 | ok q =>
  obtain ⟨x, j⟩ := q
  obtain ⟨cs, h1, h2, h3⟩ := hd
  have h3 := h3.only hO2
  refine (must_c h3 [41]).mono ?_
  rintro _ w3 ⟨rfl, hO3, hR⟩
  have z3 := hO3.size
  refine ⟨rfl, hO3.same (by simp; omega), fun w4 hO4 => ⟨((hO02.trans hO3 fun x hx => .inl hx).new hO4 hk1), ?_⟩⟩
  have z4 := hO4.size
  by_cases hs : sg ts j [41] = true
  · rw [if_pos (by simp [hs])] at hR
    simp only [parR, hs, if_true]
    exact ⟨cs, h1, (((h2.only hO2 (by simp)).only hO3 fun k hk => .inl (by simp only [List.mem_singleton] at hk; omega)).only hO4 fun k hk => .inl (by simp only [List.mem_singleton] at hk; omega)).wide (by omega) (by omega), hR.own hO4 (by simp; omega)⟩
  · rw [if_neg (by simp [hs]), if_pos rfl, if_pos rfl] at hR
    simp only [parR, hs, if_false]
    exact ⟨wrongF_ne, ⟨_, _, _, _, _, _, rfl⟩, j, hR.own hO4 (by simp; omega)⟩
theorem eone_c {f d : Nat} (hd : d <= 20) (h : Rd F G ts w b l sn i 0 0 (d : Int))
  (hE : d ≠ 20 -> ∀ w i, Rd F G ts w b l sn i 0 0 ((d + 1 : Nat) : Int) -> Calls Tryz.prog 36 #[.pointer (some ⟨b, 0, none⟩), .int .i64 0] w fun e w' => ∃ v, e = .returned v /\ Did5 F G ts w w' b l sn (d + 1) (exprR ts f 0 (d + 1) i) v)
  (hOne : d ≠ 20 -> ∀ w i, Rd F G ts w b l sn i 0 0 ((d + 1 : Nat) : Int) -> Calls Tryz.prog 54 #[.pointer (some ⟨b, 0, none⟩)] w fun e w' => ∃ v, e = .returned v /\ Did5 F G ts w w' b l sn (d + 1) (exprR ts f 6 (d + 1) i) v) :
  Calls Tryz.prog 54 #[.pointer (some ⟨b, 0, none⟩)] w fun e w' => ∃ v, e = .returned v /\ Did5 F G ts w w' b l sn d (exprR ts (f + 1) 6 d i) v := by
 have eR : exprR ts (f + 1) 6 d i = oneR ts (exprR ts f 0 (d + 1)) (exprR ts f 6 (d + 1)) d i := by rw [exprR, if_pos rfl]
 rw [eR]
 generalize hgE : exprR ts f 0 (d + 1) = E0 at *
 generalize hgO : exprR ts f 6 (d + 1) = One at *
 generalize hR : oneR ts E0 One d i = R
 rw [oneR] at hR
 refine v27w ⟨b, 0, none⟩ (fun v w' => Did5 F G ts w w' b l sn d R v) w ?_
 unfold v27v
 intro k0 k1 w0 hk0 hk0' hk1 hk1' hO0
 have hb := h.lb
 refine (now_c (h.only hO0)).mono ?_
 rintro _ w1 ⟨rfl, hO1⟩
 have z1 := hO1.size
 have hO01 := hO0.tr0 hO1
 refine ⟨_, _, _, _, rfl, hO1.same (by simp; omega), fun k2 k3 w2 hk2 hk2' hk3 hk3' hO2 => ?_⟩
 have z2 := hO2.size
 have z0 := hO0.size
 have hO02 := hO01.tr0 hO2
 have h2 := h.only hO02
 have hbg := h.big
 have sm : ∀ {u u' : World}, w2.heap.size <= u.heap.size -> Only [b] u u' -> Same [k0, k1, k2, k3] u u' := fun hu hO => hO.same (by intro x hx; simp only [List.mem_cons, List.not_mem_nil, or_false] at hx ⊢; omega)
 have sm0 : ∀ {u u' : World}, w2.heap.size <= u.heap.size -> Only [] u u' -> Same [k0, k1, k2, k3] u u' := fun hu hO => hO.same (by intro x hx; simp only [List.mem_cons, List.not_mem_nil, or_false] at hx; exact ⟨by omega, by simp⟩)
 refine ⟨fun q _ _ _ _ _ _ vk vn vs vo vl va w' => q = some ⟨b, 0, none⟩ /\ Only [] w w' /\ (tk ts i).k ≠ 5 /\ ∃ t, vs = T t /\ vl = Sl.nil /\ R = .ok (.mk vk vn t vo [] va, i + 1), ?_, ?_⟩
 · rintro _ _ _ _ _ _ _ vk vn _ vo _ va w3 ⟨rfl, hO3, hne, t, rfl, rfl, hRe⟩
   have h3 := h.only hO3
   have hn := h.en.next h.lt hne
   refine ⟨_, rfl, (i : Int), Blk.at1 h3.blk 1 rfl, _, rfl, b, 1, _, _, rfl, h3.blk, by simp, by omega, by omega, by omega, by omega, fun w4 hO4 hB4 w5 hO5 => ?_⟩
   rw [wr' (by omega) (by omega)] at hB4
   have h4 : Rd F G ts w4 b l sn (i + 1) 0 0 (d : Int) := h3.turn hO4 hB4 hn
   rw [hRe]
   refine ⟨((hO3.weaken (bs' := [b]) fun _ h => (by cases h)).trans hO4 fun x hx => .inl hx).new hO5 (by omega), _, rfl, .leaf .., h4.own hO5 (by simp; omega)⟩
 refine (bad_c h2).mono ?_
 rintro _ w6 ⟨rfl, hO6⟩
 have z6 := hO6.size
 have h6 := h2.only hO6
 refine ⟨_, rfl, sm0 (by omega) hO6, fun hc => (by simp at hc), fun _ => ?_⟩
 obtain ⟨s8, w8, k8, hO8, hc8⟩ := is2 h6
 have z8 := hO8.size
 refine ⟨s8, w8, k8, sm0 (by omega) hO8, hc8.mono ?_⟩
 rintro _ w9 ⟨rfl, hO9⟩
 have z9 := hO9.size
 have hO29 := hO6.tr0 (hO8.tr0 hO9)
 have h9 := h2.only hO29
 rw [show ((0 : Int) == 0) = true from rfl, Bool.true_and]
 have hO09 := hO02.tr0 hO29
 refine ⟨_, rfl, sm0 (by omega) hO9, fun hc w10 hO10 => ?_, fun hc => ?_⟩
 · rw [if_pos hc] at hR
   have hne : (tk ts i).k ≠ 5 := by
    rcases Bool.or_eq_true _ _ ▸ hc with e | e <;> exact sg_k e
   have hn := h.en.next h.lt hne
   have key : ∀ op : Int, op = (if (tk ts i).t = [33] then 15 else 14) -> ∀ w11, Only [] w w11 -> w2.heap.size <= w11.heap.size -> _ := fun op hop w11 hO11 hz11 => within_c hd (h.only hO11) hn (g := 54) (z1 := [.pointer (some ⟨b, 0, none⟩)]) (z2 := []) (fnOk_run (by kernel_rfl)) ⟨.func (.func 54) #[.pointer (some ⟨b, 0, none⟩)] #[], rfl⟩ rfl (r := One (i + 1)) fun hd20 w1 _ h1 => hOne hd20 w1 (i + 1) h1
   refine ⟨fun k n s op sl a w' => k = 4 /\ n = 0 /\ s = T [] /\ op = (if (tk ts i).t = [33] then 15 else 14) /\ sl = Sl.nil /\ a = (tk ts i).a /\ Only [] w w' /\ w2.heap.size <= w'.heap.size, ?_, ?_, ?_⟩
   · rintro _ _ _ _ _ _ w11 ⟨rfl, rfl, rfl, hop, rfl, rfl, hO11, hz11⟩
     refine (key _ hop w11 hO11 hz11).mono ?_
     rintro _ w12 ⟨v, rfl, hD⟩
     obtain ⟨vk, vn, vs, vo, vl, va, rfl⟩ := hD.typed
     have z12 := hD.1.size
     obtain ⟨w13, k13, hB13, hO13⟩ := buildX w12 [exv vk vn vs vo vl va] (by simp) (by simp) (by simp) (parts := #[(0, .agg (exv vk vn vs vo vl va).toArray)]) rfl
     refine ⟨_, _, _, _, _, _, rfl, sm hz11 hD.1, ⟨some ⟨w12.heap.size, 0, none⟩, 1, 1⟩, w13, k13, sm0 (by omega) hO13, fun w14 hO14 => ?_⟩
     have z13 := hO13.size
     have z14 := hO14.size
     have hOf : Only [b] w w14 := (((hO11.weaken (bs' := [b]) fun _ h => (by cases h)).trans hD.1 fun x hx => .inl hx).tr0 hO13).trans hO14 fun x hx => .inr (by simp only [List.mem_cons, List.not_mem_nil, or_false] at hx; omega)
     have hob : ∀ x, x ∈ [k1, k3] -> b < x := by simp; omega
     have hoo : ∀ x, x ∈ [k1, k3] -> x < w11.heap.size := by simp; omega
     refine ⟨hOf, ?_⟩
     obtain ⟨_, hD⟩ := hD
     rw [<- hR]
     cases hN : nestR d (tk ts i).a (One (i + 1)) with
     | error e =>
      rw [hN] at hD
      obtain ⟨a1, a2, j, a3⟩ := hD
      exact ⟨a1, ⟨_, _, _, _, _, _, rfl⟩, j, (a3.only hO13).own hO14 hob⟩
     | ok q =>
      obtain ⟨x, j⟩ := q
      rw [hN] at hD
      obtain ⟨cs, a1, a2, a3⟩ := hD
      refine ⟨_, rfl, ?_, (a3.only hO13).own hO14 hob⟩
      have hcs : (exv vk vn vs vo vl va) = cs := congrArg Array.toList (Value.agg.inj a1)
      rw [hop]
      have hx14 : RX w14 w11.heap.size w12.heap.size x cs := (a2.only hO13 (by simp)).only hO14 fun k hk => .inl (hoo k hk)
      have hB14 : Blk w14 w12.heap.size 24 cs := by
       have := hO14.blk hB13 fun hm => by have := hoo _ hm; omega
       rw [List.flatten_cons, List.flatten_nil, List.append_nil] at this
       rw [<- hcs]; exact this
      exact .one w.heap.size w12.heap.size w12.heap.size _ _ _ _ _ _ x cs (hx14.wide (by omega) (Nat.le_refl _)) (by omega) (Nat.le_refl _) (by have := hB13.lt; omega) id hB14
   · rw [show (ByteArray.mk #[33]) = T [33] from rfl, T_eq]
     intro he w15 hO15
     have he := of_decide_eq_true he
     exact ⟨rfl, rfl, rfl, by rw [if_pos he], rfl, rfl, (hO09.new hO10 (by omega)).new hO15 (by omega), by have := hO15.size; have := hO10.size; omega⟩
   · rw [show (ByteArray.mk #[33]) = T [33] from rfl, T_eq]
     intro he
     have he := of_decide_eq_false he
     exact ⟨rfl, rfl, rfl, by rw [if_neg he], rfl, rfl, hO09.new hO10 (by omega), by have := hO10.size; omega⟩
 · rw [if_neg (by rw [hc]; decide)] at hR
   obtain ⟨s16, w16, k16, hO16, hc16⟩ := is1 h9 [40]
   have z16 := hO16.size
   refine ⟨s16, w16, k16, sm0 (by omega) hO16, hc16.mono ?_⟩
   rintro _ w17 ⟨rfl, hO17⟩
   have z17 := hO17.size
   have hO017 := hO09.tr0 (hO16.tr0 hO17)
   have h17 := h.only hO017
   have hO017b : Only [b] w w17 := hO017.weaken fun _ h => (by cases h)
   rw [show ((0 : Int) == 0) = true from rfl, Bool.true_and]
   refine ⟨_, rfl, sm0 (by omega) hO17, fun hp hB _ _ _ => ?_, fun hp => ?_⟩
   · rw [if_pos hp] at hR
     have hn := h.en.next h.lt (sg_k hp)
     subst hR
     refine (within_c hd h17 hn (g := 76) (z1 := []) (z2 := [.pointer (some ⟨k0, 0, none⟩)]) (fnOk_run (by kernel_rfl)) ⟨.func (.func 76) #[] #[.pointer (some ⟨k0, 0, none⟩)], rfl⟩ rfl (r := parR ts (E0 (i + 1))) fun hd20 w1 hO1 h1 => par_c h1 (by omega) (hO1.blk hB (by simp; omega)) fun w1' hO1' => hE hd20 w1' (i + 1) (h1.only hO1')).mono ?_
     rintro _ w18 ⟨v, rfl, hD⟩
     obtain ⟨vk, vn, vs, vo, vl, va, rfl⟩ := hD.typed
     have z18 := hD.1.size
     refine ⟨_, _, _, _, _, _, rfl, hD.1.same (by simp; omega), _, hD.1.blk hB (by simp; omega), fun w19 hO19 _ => ?_⟩
     exact hD.around hO017b hO19 (by simp; omega)
   rw [if_neg (by rw [hp]; decide)] at hR
   have hp' : (tk ts i).k ≠ 5 -> i + 1 < ts.length := h.en.next h.lt
   refine ⟨fun hi w20 hO20 _ _ _ _ _ hne => ⟨fun k => k = k2, rfl, fun e => hne e.symm, fun e => hne e.symm, fun w21 hO21 => ?_⟩, fun hi => ⟨fun hv w22 hO22 _ _ _ _ _ hne => ⟨fun k => k = k2, rfl, fun e => hne e.symm, fun e => hne e.symm, fun w23 hO23 => ?_⟩, fun hv => ⟨fun hw => ?_, fun hw => ?_⟩⟩⟩
   · have hi : (tk ts i).k = 3 := by simpa using hi
     rw [if_pos hi] at hR
     exact ⟨rfl, (hO017.tr0 hO20).new hO21 (by omega), by rw [hi]; decide, [], rfl, rfl, hR.symm⟩
   · have hi : ¬ (tk ts i).k = 3 := by simpa using hi
     have hv : (tk ts i).k = 1 := by simpa using hv
     rw [if_neg hi, if_pos hv] at hR
     exact ⟨rfl, (hO017.tr0 hO22).new hO23 (by omega), by rw [hv]; decide, _, rfl, rfl, hR.symm⟩
   · have hi : ¬ (tk ts i).k = 3 := by simpa using hi
     have hv : ¬ (tk ts i).k = 1 := by simpa using hv
     rw [show (ByteArray.mk #[105, 110]) = T [105, 110] from rfl, T_eq] at hw
     have hw : (tk ts i).k = 2 /\ (tk ts i).t = [105, 110] := by simpa using hw
     rw [if_neg hi, if_neg hv, if_pos hw] at hR
     have hn := hp' (by rw [hw.1]; decide)
     refine ⟨(i : Int), Blk.at1 h17.blk 1 rfl, b, 1, _, _, rfl, h17.blk, by simp, by omega, by omega, by omega, by omega, fun w24 hO24 hB24 => ?_⟩
     rw [wr' (by omega) (by omega)] at hB24
     have h24 : Rd F G ts w24 b l sn (i + 1) 0 0 (d : Int) := h17.turn hO24 hB24 hn
     have z24 := hO24.size
     refine (must_c h24 [40]).mono ?_
     rintro _ w25 ⟨rfl, hO25, hR25⟩
     have z25 := hO25.size
     refine ⟨rfl, sm (by omega) hO25, ?_⟩
     have hO025 : Only [b] w w25 := (hO017b.trans hO24 fun x hx => .inl hx).trans hO25 fun x hx => .inl hx
     have bad : ∀ {j : Nat} {c a : Int}, Rd F G ts w25 b l sn j c a (d : Int) -> c ≠ 0 -> Calls Tryz.prog 78 #[.pointer (some ⟨b, 0, none⟩)] w25 fun e w' => e = .returned (.string (T [])) /\ Only [b] w25 w' /\ Rd F G ts w' b l sn j c a (d : Int) := fun {j c a} h25 hc => by
      refine (name'_c h25).mono ?_
      rintro e w26 ⟨hO26, hh⟩
      rw [if_neg (fun hh => hc hh.1), if_neg hc, if_neg hc] at hh
      exact ⟨hh.1, hO26, hh.2⟩
     have badm : ∀ {w26 w27 : World} {j : Nat} {c a : Int}, Only [b] w25 w26 -> Only [k3] w26 w27 -> Rd F G ts w26 b l sn j c a (d : Int) -> c ≠ 0 -> R = .error (c, a) -> ∀ s6 : ByteArray, Calls Tryz.prog 77 #[.pointer (some (Addr.add ⟨b, 0, none⟩ 0)), .string (ByteArray.mk #[41])] w27 fun e8 w28 => e8 = (.returned (.tuple #[])) /\ Same [k0, k1, k2, k3] w27 w28 /\ ∀ w29 : World, Only [k1] w28 w29 -> Did5 F G ts w w29 b l sn d R (.agg #[.int .i64 3, .int .i64 0, .string s6, .int .i64 0, Sl.nil.v, .int .i64 (tk ts i).a]) := fun {w26 w27 j c a} hO26 hO27 h26 hc hRe s6 => by
      have z26 := hO26.size
      have z27 := hO27.size
      refine (must_c (h26.own hO27 (by simp; omega)) [41]).mono ?_
      rintro _ w28 ⟨rfl, hO28, hR28⟩
      rw [if_neg (by simp [hc]), if_neg hc, if_neg hc] at hR28
      refine ⟨rfl, sm (by omega) hO28, fun w29 hO29 => ?_⟩
      rw [hRe]
      refine ⟨((((hO025.trans hO26 fun x hx => .inl hx).new hO27 (by omega)).trans hO28 fun x hx => .inl hx).new hO29 (by omega)), hc, ⟨3, 0, s6.data.toList, 0, Sl.nil, _, by unfold exv; rw [<- T_of]⟩, j, hR28.own hO29 (by simp; omega)⟩
     by_cases h1 : sg ts (i + 1) [40] = true
     · rw [if_pos (by simp [h1])] at hR25
       rw [inR, if_pos h1] at hR
       refine (name'_c hR25).mono ?_
       rintro _ w26 ⟨hO26, hh⟩
       have z26 := hO26.size
       by_cases h2 : (tk ts (i + 2)).k = 1
       · rw [if_pos ⟨rfl, h2⟩] at hh
         obtain ⟨rfl, hR26⟩ := hh
         rw [if_pos h2] at hR
         refine ⟨_, rfl, sm (by omega) hO26, fun w27 hO27 => ?_⟩
         have z27 := hO27.size
         have h27 := hR26.own hO27 (by simp; omega)
         refine (must_c h27 [41]).mono ?_
         rintro _ w28 ⟨rfl, hO28, hR28⟩
         refine ⟨rfl, sm (by omega) hO28, fun w29 hO29 => ?_⟩
         have hOf : Only [b] w w29 := (((hO025.trans hO26 fun x hx => .inl hx).new hO27 (by omega)).trans hO28 fun x hx => .inl hx).new hO29 (by omega)
         refine ⟨hOf, ?_⟩
         by_cases h3 : sg ts (i + 3) [41] = true
         · rw [if_pos (by simp [h3])] at hR28
           rw [if_pos h3] at hR
           rw [<- hR]
           exact ⟨_, rfl, .leaf .., hR28.own hO29 (by simp; omega)⟩
         · rw [if_neg (by simp [h3]), if_pos rfl, if_pos rfl] at hR28
           rw [if_neg h3] at hR
           rw [<- hR]
           exact ⟨wrongF_ne, ⟨_, _, _, _, _, _, rfl⟩, _, hR28.own hO29 (by simp; omega)⟩
       · rw [if_neg (fun hh => h2 hh.2), if_pos rfl, if_pos rfl] at hh
         obtain ⟨rfl, hR26⟩ := hh
         rw [if_neg h2] at hR
         exact ⟨_, rfl, sm (by omega) hO26, fun w27 hO27 => badm hO26 hO27 hR26 wrongF_ne hR.symm _⟩
     · rw [if_neg (by simp [h1]), if_pos rfl, if_pos rfl] at hR25
       rw [inR, if_neg h1] at hR
       refine (bad hR25 wrongF_ne).mono ?_
       rintro _ w26 ⟨rfl, hO26, hR26⟩
       exact ⟨_, rfl, sm (by omega) hO26, fun w27 hO27 => badm hO26 hO27 hR26 wrongF_ne hR.symm _⟩
   · have hi : ¬ (tk ts i).k = 3 := by simpa using hi
     have hv : ¬ (tk ts i).k = 1 := by simpa using hv
     rw [show (ByteArray.mk #[105, 110]) = T [105, 110] from rfl, T_eq] at hw
     rw [if_neg hi, if_neg hv, if_neg (fun hh => by rw [hh.1, hh.2] at hw; simp at hw)] at hR
     refine (wrong_c h17).mono ?_
     rintro _ w30 ⟨rfl, hO30, hR30⟩
     rw [if_pos rfl, if_pos rfl] at hR30
     refine ⟨rfl, sm (by omega) hO30, fun w31 hO31 => ⟨(hO017b.trans hO30 fun x hx => .inl hx).new hO31 (by omega), ?_⟩⟩
     rw [<- hR]
     exact ⟨wrongF_ne, ⟨0, 0, [], 0, Sl.nil, _, rfl⟩, i, hR30.own hO31 (by simp; omega)⟩
end
section
variable {F G : Nat -> Prop} {ts : List Tk} {w w' : World} {b : Nat} {l sn : Sl} {i : Nat} {fc fa d : Int}
theorem loop_zero {E : Nat -> Pr} {k : Int} {g : Nat} {x : Ex} {j : Nat} (h : opAt ts k j = 0) : loopR ts E k g x j = .ok (x, j) := by
 cases g with
 | zero => rfl
 | succ g => rw [loopR, if_pos h]
def At5 (F G : Nat -> Prop) (ts : List Tk) (w : World) (b : Nat) (l sn : Sl) (d : Nat) (N : Nat -> Prop) (E : Nat -> Pr) (k : Int) (R : Pr) (nv : Nat) (op : Int) (cs : List Value) (w' : World) : Prop := Only [b] w w' /\
  ((∃ (c a : Int) (j : Nat), op = 0 /\ c ≠ 0 /\ R = .error (c, a) /\ Rd F G ts w' b l sn j c a (d : Int)) ∨
   (∃ (x : Ex) (j : Nat), op = opAt ts k j /\ RXN w' N w.heap.size w'.heap.size x cs /\ Rd F G ts w' b l sn j 0 0 (d : Int) /\ R = loopR ts E k nv x j /\ ts.length - j <= nv))
theorem expr_step {f k d : Nat} (hk6 : k < 6) (h : Rd F G ts w b l sn i 0 0 (d : Int))
  (hE : ∀ w i, Rd F G ts w b l sn i 0 0 (d : Int) -> Calls Tryz.prog 36 #[.pointer (some ⟨b, 0, none⟩), .int .i64 ((k + 1 : Nat) : Int)] w fun e w' => ∃ v, e = .returned v /\ Did5 F G ts w w' b l sn d (exprR ts f (k + 1) d i) v) :
  Calls Tryz.prog 36 #[.pointer (some ⟨b, 0, none⟩), .int .i64 (k : Int)] w fun e w' => ∃ v, e = .returned v /\ Did5 F G ts w w' b l sn d (exprR ts (f + 1) k d i) v := by
 have eR : exprR ts (f + 1) k d i = andR (exprR ts f (k + 1) d i) fun x j => loopR ts (exprR ts f (k + 1) d) (k : Int) (ts.length - j) x j := by rw [exprR, if_neg (by omega)]
 rw [eR]
 have hmono : ∀ i x j, exprR ts f (k + 1) d i = .ok (x, j) -> i < j := fun i x j h => exprR_mono f _ _ i h
 generalize hgE : exprR ts f (k + 1) d = E at *
 generalize hR : (andR (E i) fun x j => loopR ts E (k : Int) (ts.length - j) x j) = R
 refine v24w ⟨b, 0, none⟩ _ (fun v w' => Did5 F G ts w w' b l sn d R v) w ?_
 unfold v24v
 have ek : IntKind.wrap .i64 ((k : Int) + 1) = ((k + 1 : Nat) : Int) := by rw [wr' (by omega) (by omega)]; rfl
 refine ⟨fun hc => absurd (by simpa using hc) (by omega : ¬ (k : Int) = 6), fun _ k1 w3 hk1 hk1' hO3 => ?_⟩
 have hb := h.lb
 rw [ek]
 refine (hE w3 i (h.only hO3)).mono ?_
 rintro _ w4 ⟨v, rfl, hD⟩
 obtain ⟨vk, vn, vs, vo, vl, va, rfl⟩ := hD.typed
 have z3 := hO3.size
 have z4 := hD.1.size
 refine ⟨_, _, _, _, _, _, rfl, hD.1.same (by simp; omega), fun k2 w5 hk2 hk2' hO5 => ?_⟩
 have z5 := hO5.size
 have hO05 : Only [b] w w5 := ((hO3.weaken (bs' := [b]) fun _ h => (by cases h)).trans hD.1 fun x hx => .inl hx).tr0 hO5
 have sm : ∀ {u u' : World}, w5.heap.size <= u.heap.size -> Only [b] u u' -> Same [k1, k2] u u' := fun hu hO => hO.same (by intro x hx; simp only [List.mem_cons, List.not_mem_nil, or_false] at hx ⊢; omega)
 have hbg := h.big
 have hst : ∃ (j : Nat) (c a : Int), Rd F G ts w4 b l sn j c a (d : Int) /\ ∀ w6, Only [] w4 w6 -> ∃ nv, At5 F G ts w b l sn d (fun q => q = k1 ∨ q = k2) E (k : Int) R nv (if c = 0 then opAt ts (k : Int) j else 0) (exv vk vn vs vo vl va) w6 := by
  obtain ⟨hO4, hD2⟩ := hD
  have hO04 : Only [b] w w4 := (hO3.weaken (bs' := [b]) fun _ h => (by cases h)).trans hO4 fun x hx => .inl hx
  cases hEi : E i with
  | error e =>
   rw [hEi] at hD2 hR
   obtain ⟨c, a⟩ := e
   obtain ⟨a1, a2, j, a3⟩ := hD2
   exact ⟨j, c, a, a3, fun w6 hO6 => ⟨0, hO04.tr0 hO6, .inl ⟨c, a, j, if_neg a1, a1, hR.symm, a3.only hO6⟩⟩⟩
  | ok q =>
   obtain ⟨x, j⟩ := q
   rw [hEi] at hD2 hR
   obtain ⟨cs, a1, a2, a3⟩ := hD2
   have hcs : (exv vk vn vs vo vl va) = cs := congrArg Array.toList (Value.agg.inj a1)
   rw [hcs]
   exact ⟨j, 0, 0, a3, fun w6 hO6 => ⟨ts.length - j, hO04.tr0 hO6, .inr ⟨x, j, if_pos rfl, ((a2.only hO6 (by simp)).holes fun q h1 h2 _ => (by omega)).wide z3 hO6.size, a3.only hO6, hR.symm, Nat.le_refl _⟩⟩⟩
 obtain ⟨j0, c0, a0, hR4, hst⟩ := hst
 refine (operator_c (hR4.only hO5) (k : Int)).mono ?_
 rintro _ w6 ⟨rfl, hO6⟩
 have z6 := hO6.size
 obtain ⟨nv0, hA0⟩ := hst w6 (hO5.tr0 hO6)
 refine ⟨_, rfl, hO6.same (by simp; omega), fun nv op i10 i11 s2 i12 l2 i13 w' => w5.heap.size <= w'.heap.size /\ At5 F G ts w b l sn d (fun q => q = k1 ∨ q = k2) E (k : Int) R nv op [.int .i64 i10, .int .i64 i11, .string s2, .int .i64 i12, l2.v, .int .i64 i13] w', nv0, ⟨z6, hA0⟩, ?_⟩
 rintro nv op i10 i11 s2 i12 l2 i13 w7 ⟨z7, hO7, hA⟩
 refine ⟨fun hop => ?_, fun hop w14 hO14 => ?_⟩
 · have hop : op ≠ 0 := by simpa using hop
   rcases hA with ⟨_, _, _, e, _⟩ | ⟨x, j, rfl, hX, hRd, hRe, hnv⟩
   · exact absurd e hop
   have hn := hRd.en.next hRd.lt (opFrom_sg _ _ hop)
   obtain ⟨g, rfl⟩ : ∃ g, nv = g + 1 := ⟨nv - 1, by omega⟩
   rw [loopR, if_neg hop] at hRe
   refine ⟨(j : Int), Blk.at1 hRd.blk 1 rfl, b, 1, _, _, rfl, hRd.blk, by simp, by omega, by omega, fun w8 hO8 hB8 => ?_⟩
   rw [wr' (by omega) (by omega)] at hB8
   have h8 : Rd F G ts w8 b l sn (j + 1) 0 0 (d : Int) := hRd.turn hO8 hB8 hn
   have z8 := hO8.size
   refine (hE w8 (j + 1) h8).mono ?_
   rintro _ w9 ⟨v, rfl, hD9⟩
   obtain ⟨yk, yn, ys, yo, yl, ya, rfl⟩ := hD9.typed
   have z9 := hD9.1.size
   refine ⟨_, _, _, _, _, _, rfl, sm (by omega) hD9.1, fun k8 w10 hk8 hk8' hO10 => ?_⟩
   have z10 := hO10.size
   obtain ⟨w11, k11, hB11, hO11⟩ := buildX w10 [[.int .i64 i10, .int .i64 i11, .string s2, .int .i64 i12, l2.v, .int .i64 i13], exv yk yn ys yo yl ya] (by simp) (by simp) (by simp) (parts := #[(0, .agg #[.int .i64 i10, .int .i64 i11, .string s2, .int .i64 i12, l2.v, .int .i64 i13]), (1, .agg (exv yk yn ys yo yl ya).toArray)]) rfl
   have z11 := hO11.size
   refine ⟨⟨some ⟨w10.heap.size, 0, none⟩, 2, 2⟩, w11, k11, hO11.same (by simp; omega), fun w12 hO12 => ?_⟩
   have z12 := hO12.size
   have hO012 : Only [b] w w12 := ((((hO7.trans hO8 fun x hx => .inl hx).trans hD9.1 fun x hx => .inl hx).tr0 hO10).tr0 hO11).new hO12 (by omega)
   have hO912 : Only [k2] w9 w12 := ((hO10.tr0 hO11).weaken (bs' := [k2]) fun _ h => (by cases h)).trans hO12 fun x hx => .inl hx
   have hst2 : ∃ (j' : Nat) (c a : Int), Rd F G ts w9 b l sn j' c a (d : Int) /\ ∀ w13, Only [] w12 w13 -> ∃ nv, nv < g + 1 /\ At5 F G ts w b l sn d (fun q => q = k1 ∨ q = k2) E (k : Int) R nv (if c = 0 then opAt ts (k : Int) j' else 0) (exv 5 0 [] (opAt ts (k : Int) j) ⟨some ⟨w10.heap.size, 0, none⟩, 2, 2⟩ i13) w13 := by
    obtain ⟨hO9, hD2⟩ := hD9
    cases hEi : E (j + 1) with
    | error e =>
     rw [hEi] at hD2 hRe
     obtain ⟨c, a⟩ := e
     obtain ⟨a1, a2, j', a3⟩ := hD2
     exact ⟨j', c, a, a3, fun w13 hO13 => ⟨0, by omega, hO012.tr0 hO13, .inl ⟨c, a, j', if_neg a1, a1, hRe, (a3.own hO912 (by simp; omega)).only hO13⟩⟩⟩
    | ok q =>
     obtain ⟨y, j'⟩ := q
     rw [hEi] at hD2 hRe
     obtain ⟨cs, a1, a2, a3⟩ := hD2
     have hcs : (exv yk yn ys yo yl ya) = cs := congrArg Array.toList (Value.agg.inj a1)
     have hjj := hmono _ _ _ hEi
     obtain ⟨xl, hxl, _⟩ := hX.cells
     have hxa : i13 = x.a := by
      simp only [exv, List.cons.injEq, Value.int.injEq] at hxl
      exact hxl.2.2.2.2.2.1.2
     refine ⟨j', 0, 0, a3, fun w13 hO13 => ⟨g, by omega, hO012.tr0 hO13, .inr ⟨.mk 5 0 [] (opAt ts (k : Int) j) [x, y] x.a, j', if_pos rfl, ?_, (a3.own hO912 (by simp; omega)).only hO13, hRe, ?_⟩⟩⟩
     · have z13 := hO13.size
       have hO713 : Only [b, k2] w7 w13 := (((((hO8.weaken (bs' := [b, k2]) fun x hx => .inl (by simp only [List.mem_singleton] at hx; simp [hx])).trans hO9 fun x hx => .inl (by simp only [List.mem_singleton] at hx; simp [hx])).trans hO912 fun x hx => .inl (by simp only [List.mem_singleton] at hx; simp [hx])).tr0 hO13))
       have hO913 : Only [k2] w9 w13 := hO912.tr0 hO13
       have hB13 : Blk w13 w10.heap.size 24 ([.int .i64 i10, .int .i64 i11, .string s2, .int .i64 i12, l2.v, .int .i64 i13] ++ cs) := by
        have := hO13.blk (hO12.blk hB11 (by simp; omega)) (by simp)
        rw [<- hcs]
        simpa using this
       have hx13 : RXN w13 (fun q => q = k1 ∨ q = k2) w.heap.size w7.heap.size x [.int .i64 i10, .int .i64 i11, .string s2, .int .i64 i12, l2.v, .int .i64 i13] := by
        exact hX.only hO713 fun q hq => by
         simp only [List.mem_cons, List.not_mem_nil, or_false] at hq
         rcases hq with rfl | rfl
         · exact .inl hb
         · exact .inr (.inr (.inr rfl))
       have hy13 : RXN w13 (fun q => q = k1 ∨ q = k2) w8.heap.size w9.heap.size y cs := (a2.only hO913 fun q hq => .inl (by simp only [List.mem_singleton] at hq; omega)).holes fun q h1 h2 _ => (by omega)
       rw [hxa]
       exact .two w.heap.size w7.heap.size w8.heap.size w9.heap.size w10.heap.size _ _ _ _ _ _ x y _ cs hx13 z8 hy13 (by omega) (by omega) (by omega) (by omega) (by have := hB13.lt; omega) (by omega) hB13
     · omega
   obtain ⟨j', c', a', hR9, hst2⟩ := hst2
   refine (operator_c (hR9.own hO912 (by simp; omega)) (k : Int)).mono ?_
   rintro _ w13 ⟨rfl, hO13⟩
   obtain ⟨nv', hnv', hA'⟩ := hst2 w13 hO13
   exact ⟨_, rfl, hO13.same (by simp; omega), nv', hnv', by have := hO13.size; omega, hA'⟩
 · have hop : op = 0 := by simpa using hop
   refine ⟨hO7.new hO14 (by omega), ?_⟩
   rcases hA with ⟨c, a, j, _, hc, hRe, hRd⟩ | ⟨x, j, hoj, hX, hRd, hRe, hnv⟩
   · rw [hRe]
     exact ⟨hc, ⟨i10, i11, s2.data.toList, i12, l2, i13, by unfold exv; rw [<- T_of]⟩, j, hRd.own hO14 (by simp; omega)⟩
   · rw [hRe, loop_zero (by rw [<- hoj, hop])]
     exact ⟨_, rfl, ((hX.only hO14 fun q hq => .inr (.inr (.inl (by simpa using hq)))).holes fun _ _ _ _ h => h).wide (Nat.le_refl _) hO14.size, hRd.own hO14 (by simp; omega)⟩
theorem reader_c : ∀ f : Nat, (∀ (k d i : Nat) (w : World), k <= 6 -> d <= 20 -> need k d <= f -> Rd F G ts w b l sn i 0 0 (d : Int) ->
      Calls Tryz.prog 36 #[.pointer (some ⟨b, 0, none⟩), .int .i64 (k : Int)] w fun e w' => ∃ v, e = .returned v /\ Did5 F G ts w w' b l sn d (exprR ts f k d i) v) /\
    (∀ (d i : Nat) (w : World), d <= 20 -> need 6 d <= f -> Rd F G ts w b l sn i 0 0 (d : Int) ->
      Calls Tryz.prog 54 #[.pointer (some ⟨b, 0, none⟩)] w fun e w' => ∃ v, e = .returned v /\ Did5 F G ts w w' b l sn d (exprR ts f 6 d i) v)
  | 0 => ⟨fun k d i w hk hd hn => by unfold need at hn; omega, fun d i w hd hn => by unfold need at hn; omega⟩
  | f + 1 => by
    obtain ⟨ih1, ih2⟩ := reader_c f
    have one : ∀ (d i : Nat) (w : World), d <= 20 -> need 6 d <= f + 1 -> Rd F G ts w b l sn i 0 0 (d : Int) ->
      Calls Tryz.prog 54 #[.pointer (some ⟨b, 0, none⟩)] w fun e w' => ∃ v, e = .returned v /\ Did5 F G ts w w' b l sn d (exprR ts (f + 1) 6 d i) v := fun d i w hd hn h => by
      unfold need at hn
      exact eone_c hd h (fun h20 w i h => ih1 0 (d + 1) i w (by omega) (by omega) (by unfold need; omega) h) (fun h20 w i h => ih2 (d + 1) i w (by omega) (by unfold need; omega) h)
    refine ⟨fun k d i w hk hd hn h => ?_, one⟩
    by_cases h6 : k = 6
    · subst h6
      refine v24w ⟨b, 0, none⟩ _ (fun v w' => Did5 F G ts w w' b l sn d (exprR ts (f + 1) 6 d i) v) w ?_
      unfold v24v
      refine ⟨fun _ k0 w0 hk0 hk0' hO0 => ?_, fun hc => absurd hc (by decide)⟩
      refine (one d i w0 hd hn (h.only hO0)).mono ?_
      rintro _ w1 ⟨v, rfl, hD⟩
      obtain ⟨vk, vn, vs, vo, vl, va, rfl⟩ := hD.typed
      have hb := h.lb
      exact ⟨_, _, _, _, _, _, rfl, hD.1.same (by simp; omega), fun w2 hO2 => hD.around (hO0.weaken fun _ h => (by cases h)) hO2 (by simp; omega)⟩
    · unfold need at hn
      exact expr_step (by omega) h fun w i h => ih1 (k + 1) d i w (by omega) hd (by unfold need; omega) h
end
end Go.Proofs.YtfknfhajdiccgaaGreatDoor.Con
