/-
  Own work, printed by a program of ours (vlay.py): of each Go function what is to be shown of a call ('.._vc'), and that it suffices ('.._wp'). Nothing is assumed.
-/
import Derived.Test.YtadlbafgkibipaaDoorV13
import Derived.Test.YtadlbafgkibipaaDoorRows
namespace Go.Proofs.YtadlbafgkibipaaDoor.Vc
open Go Go.RowKit Go.Kt Go.Kt.V
set_option linter.unusedVariables false
set_option maxRecDepth 100000
set_option maxHeartbeats 40000000
def pavanelaw06_EvalReckons_vc (op : Int) (a_ : Int) (b : Int) (R : Value → World → Prop) (w : World) : Prop :=
  Calls Tryd.prog 4 #[] w fun e0 w0 => ∃ b0 : Bool, e0 = (.returned (.bool b0)) ∧
   ∃ l0 : Sl, ∃ w1 : World, ((Instr.buildSlice 23 2 #[.mk 0 (.agg #[.int .i64 1, .int .i64 a_, .string (ByteArray.mk #[]), .int .i64 0, Sl.nil.v, .int .i64 0]), .mk 1 (.agg #[.int .i64 2, .int .i64 0, .string (ByteArray.mk #[118]), .int .i64 0, Sl.nil.v, .int .i64 0])]).run Tryd.prog w0) = (.ok l0.v w1) ∧
   ∀ k0 : Nat, ∀ w2 : World, w1.heap.size ≤ k0 → k0 < w2.heap.size → Only [] w1 w2 → ∃ l1 : Sl, ∃ w3 : World, ((Instr.buildSlice 29 1 #[.mk 0 (.string (ByteArray.mk #[118]))]).run Tryd.prog w2) = (.ok l1.v w3) ∧
   Same [k0] w2 w3 ∧
   ∃ l2 : Sl, ∃ w4 : World, ((Instr.buildSlice 30 1 #[.mk 0 (.int .i64 b)]).run Tryd.prog w3) = (.ok l2.v w4) ∧
   Same [k0] w3 w4 ∧
   Calls Tryd.prog 5 #[.agg #[.int .i64 5, .int .i64 0, .string (ByteArray.mk #[]), .int .i64 op, l0.v, .int .i64 0], .agg #[l1.v, l2.v, Sl.nil.v]] w4 fun e1 w5 => ∃ i0 : Int, ∃ i1 : Int, e1 = (.returned (.tuple #[.int .i64 i0, .int .i64 i1])) ∧
    Same [k0] w4 w5 ∧
    Calls Tryd.prog 6 #[.int .i64 op, .int .i64 a_, .int .i64 b] w5 fun e2 w6 => ∃ i2 : Int, ∃ i3 : Int, e2 = (.returned (.tuple #[.int .i64 i2, .int .i64 i3])) ∧
     Same [k0] w5 w6 ∧
     ∃ l3 : Sl, ∃ w7 : World, ((Instr.buildSlice 23 1 #[.mk 0 (.agg #[.int .i64 1, .int .i64 a_, .string (ByteArray.mk #[]), .int .i64 0, Sl.nil.v, .int .i64 0])]).run Tryd.prog w6) = (.ok l3.v w7) ∧
     Same [k0] w6 w7 ∧
     ∀ k1 : Nat, ∀ w8 : World, w7.heap.size ≤ k1 → k1 < w8.heap.size → Only [] w7 w8 → Calls Tryd.prog 5 #[.agg #[.int .i64 4, .int .i64 0, .string (ByteArray.mk #[]), .int .i64 op, l3.v, .int .i64 0], .agg #[Sl.nil.v, Sl.nil.v, Sl.nil.v]] w8 fun e3 w9 => ∃ i4 : Int, ∃ i5 : Int, e3 = (.returned (.tuple #[.int .i64 i4, .int .i64 i5])) ∧
      Same [k0, k1] w8 w9 ∧
      Calls Tryd.prog 7 #[.int .i64 op, .int .i64 a_] w9 fun e4 w10 => ∃ i6 : Int, ∃ i7 : Int, e4 = (.returned (.tuple #[.int .i64 i6, .int .i64 i7])) ∧
       Same [k0, k1] w9 w10 ∧
       R (.bool ((((b0 && (i0 == i2)) && (i1 == i3)) && (i4 == i6)) && (i5 == i7))) w10
theorem pavanelaw06_EvalReckons_wp (op : Int) (a_ : Int) (b : Int) (R : Value → World → Prop) (w : World) (h : pavanelaw06_EvalReckons_vc op a_ b R w) : Calls Tryd.prog 3 #[.int .i64 op, .int .i64 a_, .int .i64 b] w fun e w' => ∃ v, e = .returned v ∧ R v w' :=
  fn_by (an := .s .o (.s .o (.s .o (.s .o (.s .o (.s .o (.s .o (.s .o (.s .o .o))))))))) (args := [.int .i64 op, .int .i64 a_, .int .i64 b]) Tryd.checked.mixed (by kernel_rfl) (by kernel_rfl) h
def pavanelaw06_small_vc (R : Value → World → Prop) (w : World) : Prop :=
  Calls Tryd.prog 8 #[.string (ByteArray.mk #[121, 32, 38, 38, 32, 120, 32, 47, 32, 121])] w fun e0 w0 => ∃ i0 : Int, ∃ i1 : Int, ∃ s0 : ByteArray, ∃ i2 : Int, ∃ l0 : Sl, ∃ i3 : Int, ∃ i4 : Int, ∃ i5 : Int, e0 = (.returned (.tuple #[.agg #[.int .i64 i0, .int .i64 i1, .string s0, .int .i64 i2, l0.v, .int .i64 i3], .agg #[.int .i64 i4, .int .i64 i5]])) ∧
   ∀ k0 : Nat, ∀ k1 : Nat, ∀ w1 : World, w0.heap.size ≤ k0 → k0 < w1.heap.size → w0.heap.size ≤ k1 → k1 < w1.heap.size → Only [] w0 w1 → ∃ l1 : Sl, ∃ w2 : World, ((Instr.buildSlice 29 2 #[.mk 0 (.string (ByteArray.mk #[120])), .mk 1 (.string (ByteArray.mk #[121]))]).run Tryd.prog w1) = (.ok l1.v w2) ∧
   Same [k0, k1] w1 w2 ∧
   ∃ l2 : Sl, ∃ w3 : World, ((Instr.buildSlice 30 2 #[.mk 0 (.int .i64 7), .mk 1 (.int .i64 0)]).run Tryd.prog w2) = (.ok l2.v w3) ∧
   Same [k0, k1] w2 w3 ∧
   Calls Tryd.prog 5 #[.agg #[.int .i64 i0, .int .i64 i1, .string s0, .int .i64 i2, l0.v, .int .i64 i3], .agg #[l1.v, l2.v, Sl.nil.v]] w3 fun e1 w4 => ∃ i6 : Int, ∃ i7 : Int, e1 = (.returned (.tuple #[.int .i64 i6, .int .i64 i7])) ∧
    Same [k0, k1] w3 w4 ∧
    Calls Tryd.prog 8 #[.string (ByteArray.mk #[120, 32, 47, 32, 121, 32, 43, 32, 105, 110, 40, 115, 49, 41])] w4 fun e2 w5 => ∃ i8 : Int, ∃ i9 : Int, ∃ s1 : ByteArray, ∃ i10 : Int, ∃ l3 : Sl, ∃ i11 : Int, ∃ i12 : Int, ∃ i13 : Int, e2 = (.returned (.tuple #[.agg #[.int .i64 i8, .int .i64 i9, .string s1, .int .i64 i10, l3.v, .int .i64 i11], .agg #[.int .i64 i12, .int .i64 i13]])) ∧
     Same [k0, k1] w4 w5 ∧
     ∀ k2 : Nat, ∀ k3 : Nat, ∀ w6 : World, w5.heap.size ≤ k2 → k2 < w6.heap.size → w5.heap.size ≤ k3 → k3 < w6.heap.size → Only [] w5 w6 → ∃ l4 : Sl, ∃ w7 : World, ((Instr.buildSlice 29 2 #[.mk 0 (.string (ByteArray.mk #[120])), .mk 1 (.string (ByteArray.mk #[121]))]).run Tryd.prog w6) = (.ok l4.v w7) ∧
     Same [k0, k1, k2, k3] w6 w7 ∧
     ∃ l5 : Sl, ∃ w8 : World, ((Instr.buildSlice 30 2 #[.mk 0 (.int .i64 7), .mk 1 (.int .i64 0)]).run Tryd.prog w7) = (.ok l5.v w8) ∧
     Same [k0, k1, k2, k3] w7 w8 ∧
     Calls Tryd.prog 5 #[.agg #[.int .i64 i8, .int .i64 i9, .string s1, .int .i64 i10, l3.v, .int .i64 i11], .agg #[l4.v, l5.v, Sl.nil.v]] w8 fun e3 w9 => ∃ i14 : Int, ∃ i15 : Int, e3 = (.returned (.tuple #[.int .i64 i14, .int .i64 i15])) ∧
      Same [k0, k1, k2, k3] w8 w9 ∧
      ∃ l6 : Sl, ∃ w10 : World, ((Instr.buildSlice 29 2 #[.mk 0 (.string (ByteArray.mk #[120])), .mk 1 (.string (ByteArray.mk #[121]))]).run Tryd.prog w9) = (.ok l6.v w10) ∧
      Same [k0, k1, k2, k3] w9 w10 ∧
      ∃ l7 : Sl, ∃ w11 : World, ((Instr.buildSlice 30 2 #[.mk 0 (.int .i64 7), .mk 1 (.int .i64 2)]).run Tryd.prog w10) = (.ok l7.v w11) ∧
      Same [k0, k1, k2, k3] w10 w11 ∧
      ∃ l8 : Sl, ∃ w12 : World, ((Instr.buildSlice 29 1 #[.mk 0 (.string (ByteArray.mk #[115, 49]))]).run Tryd.prog w11) = (.ok l8.v w12) ∧
      Same [k0, k1, k2, k3] w11 w12 ∧
      Calls Tryd.prog 5 #[.agg #[.int .i64 i8, .int .i64 i9, .string s1, .int .i64 i10, l3.v, .int .i64 i11], .agg #[l6.v, l7.v, l8.v]] w12 fun e4 w13 => ∃ i16 : Int, ∃ i17 : Int, e4 = (.returned (.tuple #[.int .i64 i16, .int .i64 i17])) ∧
       Same [k0, k1, k2, k3] w12 w13 ∧
       R (.bool (((((((i4 == 0) && (i12 == 0)) && (i7 == 0)) && (i6 == 0)) && (i15 == 10)) && (i17 == 0)) && (i16 == 4))) w13
theorem pavanelaw06_small_wp (R : Value → World → Prop) (w : World) (h : pavanelaw06_small_vc R w) : Calls Tryd.prog 4 #[] w fun e w' => ∃ v, e = .returned v ∧ R v w' :=
  fn_by (an := .s .o (.s .o (.s .o (.s .o (.s .o (.s .o (.s .o .o))))))) (args := []) Tryd.checked.mixed (by kernel_rfl) (by kernel_rfl) h
def eval_Eval_vc (x : Int) (x1 : Int) (x2 : ByteArray) (x3 : Int) (x4 : Sl) (x5 : Int) (e_ : Sl) (e_1 : Sl) (e_2 : Sl) (R : Value → World → Prop) (w : World) : Prop :=
  ∀ k0 : Nat, ∀ k1 : Nat, ∀ k2 : Nat, ∀ w0 : World, w.heap.size ≤ k0 → k0 < w0.heap.size → w.heap.size ≤ k1 → k1 < w0.heap.size → w.heap.size ≤ k2 → k2 < w0.heap.size → Only [] w w0 → Blk w0 k2 42 [e_.v, e_1.v, e_2.v, .int .i64 0] → k0 ≠ k2 → k1 ≠ k2 → Calls Tryd.prog 9 #[.pointer (some ⟨k2, 0, none⟩), .agg #[.int .i64 x, .int .i64 x1, .string x2, .int .i64 x3, x4.v, .int .i64 x5]] w0 fun e0 w1 => ∃ i0 : Int, e0 = (.returned (.int .i64 i0)) ∧
   Same [k0, k1] w0 w1 ∧
   ∃ l0 : Sl, ∃ l1 : Sl, ∃ l2 : Sl, ∃ i1 : Int, Blk w1 k2 42 [l0.v, l1.v, l2.v, .int .i64 i1] ∧
   ((i1 != 0) = true → ∀ w2 : World, Only [] w1 w2 → Blk w2 k2 42 [l0.v, l1.v, l2.v, .int .i64 i1] → R (.tuple #[.int .i64 0, .int .i64 i1]) w2) ∧
   ((i1 != 0) = false → R (.tuple #[.int .i64 i0, .int .i64 0]) w1)
theorem eval_Eval_wp (x : Int) (x1 : Int) (x2 : ByteArray) (x3 : Int) (x4 : Sl) (x5 : Int) (e_ : Sl) (e_1 : Sl) (e_2 : Sl) (R : Value → World → Prop) (w : World) (h : eval_Eval_vc x x1 x2 x3 x4 x5 e_ e_1 e_2 R w) : Calls Tryd.prog 5 #[.agg #[.int .i64 x, .int .i64 x1, .string x2, .int .i64 x3, x4.v, .int .i64 x5], .agg #[e_.v, e_1.v, e_2.v]] w fun e w' => ∃ v, e = .returned v ∧ R v w' :=
  fn_by (an := .s .o (.s .o (.s .o (.s (.s .o (.s (.s .o .o) .o)) (.s .o .o))))) (args := [.agg (ofL [.int .i64 x, .int .i64 x1, .str x2, .int .i64 x3, .sl x4, .int .i64 x5]), .agg (ofL [.sl e_, .sl e_1, .sl e_2])]) Tryd.checked.mixed (by kernel_rfl) (by kernel_rfl) h
def calc_Do_vc (op : Int) (a_ : Int) (b : Int) (R : Value → World → Prop) (w : World) : Prop :=
  ∃ J0 : Int → World → Prop, (∀ i0 : Int, ∀ w0 : World, J0 i0 w0 → R (.tuple #[.int .i64 i0, .int .i64 0]) w0) ∧
  ∃ J1 : Int → Int → World → Prop, (∀ i1 : Int, ∀ i2 : Int, ∀ w1 : World, J1 i1 i2 w1 → Calls Tryd.prog 11 #[.bool (decide (i1 < i2))] w1 fun e0 w2 => ∃ i3 : Int, e0 = (.returned (.int .i64 i3)) ∧
    Calls Tryd.prog 12 #[.int .i64 i3] w2 fun e1 w3 => ∃ i4 : Int, e1 = (.returned (.int .i64 i4)) ∧
     J0 i4 w3) ∧
  ∃ J2 : Int → Int → World → Prop, (∀ i5 : Int, ∀ i6 : Int, ∀ w4 : World, J2 i5 i6 w4 → Calls Tryd.prog 11 #[.bool (decide (i5 < i6))] w4 fun e2 w5 => ∃ i7 : Int, e2 = (.returned (.int .i64 i7)) ∧
    J0 i7 w5) ∧
  ((op == 1) = true → J0 (IntKind.wrap .i64 (a_ + b)) w) ∧
  ((op == 1) = false → ((op == 2) = true → J0 (IntKind.wrap .i64 (a_ - b)) w) ∧
  ((op == 2) = false → ((op == 3) = true → J0 (IntKind.wrap .i64 (a_ * b)) w) ∧
  ((op == 3) = false → ∃ J3 : Bool → World → Prop, (∀ b0 : Bool, ∀ w6 : World, J3 b0 w6 → (b0 = true → Calls Tryd.prog 10 #[.int .i64 op, .int .i64 a_, .int .i64 b] w6 fun e3 w7 => ∃ i8 : Int, ∃ i9 : Int, e3 = (.returned (.tuple #[.int .i64 i8, .int .i64 i9])) ∧
     R (.tuple #[.int .i64 i8, .int .i64 i9]) w7) ∧
   (b0 = false → ((op == 8) = true → J2 b a_ w6) ∧
   ((op == 8) = false → ((op == 6) = true → J2 a_ b w6) ∧
   ((op == 6) = false → ((op == 7) = true → J1 b a_ w6) ∧
   ((op == 7) = false → ((op == 9) = true → J1 a_ b w6) ∧
   ((op == 9) = false → ((op == 10) = true → Calls Tryd.prog 11 #[.bool (a_ == b)] w6 fun e4 w8 => ∃ i10 : Int, e4 = (.returned (.int .i64 i10)) ∧
     J0 i10 w8) ∧
   ((op == 10) = false → ((op == 11) = true → Calls Tryd.prog 11 #[.bool (a_ == b)] w6 fun e5 w9 => ∃ i11 : Int, e5 = (.returned (.int .i64 i11)) ∧
     Calls Tryd.prog 12 #[.int .i64 i11] w9 fun e6 w10 => ∃ i12 : Int, e6 = (.returned (.int .i64 i12)) ∧
      J0 i12 w10) ∧
   ((op == 11) = false → ((op == 12) = true → Calls Tryd.prog 11 #[.bool (a_ != 0)] w6 fun e7 w11 => ∃ i13 : Int, e7 = (.returned (.int .i64 i13)) ∧
     Calls Tryd.prog 11 #[.bool (b != 0)] w11 fun e8 w12 => ∃ i14 : Int, e8 = (.returned (.int .i64 i14)) ∧
      J0 (bits .and .i64 i13 i14) w12) ∧
   ((op == 12) = false → ((op == 13) = true → Calls Tryd.prog 11 #[.bool ((bits .or .i64 a_ b) != 0)] w6 fun e9 w13 => ∃ i15 : Int, e9 = (.returned (.int .i64 i15)) ∧
     J0 i15 w13) ∧
   ((op == 13) = false → R (.tuple #[.int .i64 0, .int .i64 11]) w6)))))))))) ∧
  ((op == 4) = true → J3 (op == 4) w) ∧
  ((op == 4) = false → J3 (op == 5) w))))
theorem calc_Do_wp (op : Int) (a_ : Int) (b : Int) (R : Value → World → Prop) (w : World) (h : calc_Do_vc op a_ b R w) : Calls Tryd.prog 6 #[.int .i64 op, .int .i64 a_, .int .i64 b] w fun e w' => ∃ v, e = .returned v ∧ R v w' :=
  fn_by (an := .s .o (.s .o (.j [] [.s 8 (.int .i64)] (.s .o (.s (.s (.s (.s (.s (.j [] [.s 1 (.int .i64), .s 2 (.int .i64)] (.s (.j [] [.s 1 (.int .i64), .s 2 (.int .i64)] (.s (.s (.s (.s (.s (.s (.s (.s .o (.s .o .o)) (.s (.s .o (.s .o .o)) (.s (.s .o (.s .o .o)) (.s (.j [0, 1, 2, 9] [.s 16 .bool] (.s .o (.s .o .o)) (.s .o .o)) (.s (.s .o (.s .o .o)) (.s (.s .o (.s .o .o)) (.s (.s .o (.s .o .o)) (.s (.s .o (.s .o .o)) (.s (.s .o (.s .o .o)) (.s (.s .o (.s .o .o)) (.s (.s .o (.s .o .o)) (.s .o (.s .o .o))))))))))))) .o) (.s .o .o)) (.s .o .o)) (.s .o .o)) (.s (.s .o .o) .o)) .o) (.s .o .o)) .o) (.s .o .o)) (.s .o .o)) (.s .o .o)) (.s .o .o)) (.s .o .o)) (.s (.s .o .o) .o))) (.s .o .o)))) (args := [.int .i64 op, .int .i64 a_, .int .i64 b]) Tryd.checked.mixed (by kernel_rfl) (by kernel_rfl) h
def calc_One_vc (op : Int) (a_ : Int) (R : Value → World → Prop) (w : World) : Prop :=
  ((op == 14) = true → R (.tuple #[.int .i64 (IntKind.wrap .i64 (0 - a_)), .int .i64 0]) w) ∧
  ((op == 14) = false → ((op == 15) = true → Calls Tryd.prog 11 #[.bool (a_ == 0)] w fun e0 w0 => ∃ i0 : Int, e0 = (.returned (.int .i64 i0)) ∧
    R (.tuple #[.int .i64 i0, .int .i64 0]) w0) ∧
  ((op == 15) = false → R (.tuple #[.int .i64 0, .int .i64 11]) w))
theorem calc_One_wp (op : Int) (a_ : Int) (R : Value → World → Prop) (w : World) (h : calc_One_vc op a_ R w) : Calls Tryd.prog 7 #[.int .i64 op, .int .i64 a_] w fun e w' => ∃ v, e = .returned v ∧ R v w' :=
  fn_by (an := .s .o (.s (.s .o (.s .o (.s (.s .o .o) (.s .o (.s (.s .o .o) .o))))) (.s .o .o))) (args := [.int .i64 op, .int .i64 a_]) Tryd.checked.mixed (by kernel_rfl) (by kernel_rfl) h
def expr_Read_vc (s : ByteArray) (R : Value → World → Prop) (w : World) : Prop :=
  ∀ k0 : Nat, ∀ k1 : Nat, ∀ w0 : World, w.heap.size ≤ k0 → k0 < w0.heap.size → w.heap.size ≤ k1 → k1 < w0.heap.size → Only [] w w0 → Calls Tryd.prog 13 #[.string s] w0 fun e0 w1 => ∃ l0 : Sl, ∃ i0 : Int, ∃ i1 : Int, e0 = (.returned (.tuple #[l0.v, .agg #[.int .i64 i0, .int .i64 i1]])) ∧
   Same [k0, k1] w0 w1 ∧
   ((i0 != 0) = true → ∀ k2 : Nat, ∀ w2 : World, w1.heap.size ≤ k2 → k2 < w2.heap.size → Only [] w1 w2 → k0 ≠ k1 → k0 ≠ k2 → k1 ≠ k2 → ∃ J0 : Nat → Prop, J0 k2 ∧
    Out J0 k0 ∧
    Out J0 k1 ∧
    ∀ w3 : World, Only [k1, k0] w2 w3 → R (.tuple #[.agg #[.int .i64 0, .int .i64 0, .string (ByteArray.mk #[]), .int .i64 0, Sl.nil.v, .int .i64 0], .agg #[.int .i64 i0, .int .i64 i1]]) w3) ∧
   ((i0 != 0) = false → ∀ k3 : Nat, ∀ w4 : World, w1.heap.size ≤ k3 → k3 < w4.heap.size → Only [] w1 w4 → Calls Tryd.prog 14 #[l0.v, .int .i64 0] w4 fun e1 w5 => ∃ i2 : Int, ∃ i3 : Int, ∃ s0 : ByteArray, ∃ i4 : Int, ∃ l1 : Sl, ∃ i5 : Int, ∃ i6 : Int, ∃ i7 : Int, ∃ i8 : Int, e1 = (.returned (.tuple #[.agg #[.int .i64 i2, .int .i64 i3, .string s0, .int .i64 i4, l1.v, .int .i64 i5], .int .i64 i6, .agg #[.int .i64 i7, .int .i64 i8]])) ∧
    Same [k0, k1, k3] w4 w5 ∧
    ∀ k4 : Nat, ∀ w6 : World, w5.heap.size ≤ k4 → k4 < w6.heap.size → Only [k3] w5 w6 → ∃ J1 : Int → Int → World → Prop, (∀ i9 : Int, ∀ i10 : Int, ∀ w7 : World, J1 i9 i10 w7 → ((i9 != 0) = true → ∀ w8 : World, Only [] w7 w8 → k0 ≠ k1 → k0 ≠ k3 → k0 ≠ k4 → k1 ≠ k3 → k1 ≠ k4 → k3 ≠ k4 → ∃ J2 : Nat → Prop, J2 k3 ∧
      Out J2 k0 ∧
      Out J2 k1 ∧
      ∀ w9 : World, Only [k1, k0] w8 w9 → R (.tuple #[.agg #[.int .i64 0, .int .i64 0, .string (ByteArray.mk #[]), .int .i64 0, Sl.nil.v, .int .i64 0], .agg #[.int .i64 i9, .int .i64 i10]]) w9) ∧
     ((i9 != 0) = false → ∀ w10 : World, Only [] w7 w10 → k0 ≠ k1 → k0 ≠ k3 → k0 ≠ k4 → k1 ≠ k3 → k1 ≠ k4 → k3 ≠ k4 → ∃ J3 : Nat → Prop, J3 k3 ∧
     Out J3 k0 ∧
     Out J3 k1 ∧
     ∀ w11 : World, Only [k1, k0] w10 w11 → R (.tuple #[.agg #[.int .i64 i2, .int .i64 i3, .string s0, .int .i64 i4, l1.v, .int .i64 i5], .agg #[.int .i64 i9, .int .i64 i10]]) w11)) ∧
    ∃ p0 : Addr, ((i7 == 0) = true → SlAt l0 i6 4 p0) ∧
    ∃ i11 : Int, ((i7 == 0) = true → Cells w6 (p0.add 0) [.int .i64 i11]) ∧
    (((i7 == 0) && (i11 != 5)) = true → ∃ p1 : Addr, SlAt l0 i6 4 p1 ∧
     ∃ i12 : Int, Cells w6 (p1.add 3) [.int .i64 i12] ∧
     ∀ w12 : World, Only [k3] w6 w12 → J1 4 i12 w12) ∧
    (((i7 == 0) && (i11 != 5)) = false → J1 i7 i8 w6))
theorem expr_Read_wp (s : ByteArray) (R : Value → World → Prop) (w : World) (h : expr_Read_vc s R w) : Calls Tryd.prog 8 #[.string s] w fun e w' => ∃ v, e = .returned v ∧ R v w' :=
  fn_by (an := .s .o (.s .o (.s (.s .o (.s (.s .o .o) .o)) (.s .o (.j [2, 3, 5, 6] [.b 5 [.int .i64, .int .i64]] (.s .o (.s .o .o)) (.s (.s .o (.s (.s .o .o) .o)) (.s .o .o))))))) (args := [.str s]) Tryd.checked.mixed (by kernel_rfl) (by kernel_rfl) h
def eval_worker_expr_vc (w_ : Addr) (x : Int) (x1 : Int) (x2 : ByteArray) (x3 : Int) (x4 : Sl) (x5 : Int) (R : Value → World → Prop) (w : World) : Prop :=
  ∀ k0 : Nat, ∀ w0 : World, w.heap.size ≤ k0 → k0 < w0.heap.size → Only [] w w0 → ∃ i0 : Int, Cells w0 (w_.add 3) [.int .i64 i0] ∧
  (((((i0 != 0) || (decide (x < 1))) || (decide (x > 5))) || ((x4.n : Int) != (if 0 > (IntKind.wrap .i64 (x - 3)) then 0 else IntKind.wrap .i64 (x - 3)))) = true → Calls Tryd.prog 15 #[.pointer (some w_), .int .i64 22] w0 fun e0 w1 => ∃ i1 : Int, e0 = (.returned (.int .i64 i1)) ∧
    Same [k0] w0 w1 ∧
    R (.int .i64 i1) w1) ∧
  (((((i0 != 0) || (decide (x < 1))) || (decide (x > 5))) || ((x4.n : Int) != (if 0 > (IntKind.wrap .i64 (x - 3)) then 0 else IntKind.wrap .i64 (x - 3)))) = false → ((x == 1) = true → R (.int .i64 x1) w0) ∧
  ((x == 1) = false → ((x == 2) = true → Calls Tryd.prog 16 #[.pointer (some w_), .string x2] w0 fun e1 w2 => ∃ i2 : Int, e1 = (.returned (.int .i64 i2)) ∧
    Same [k0] w0 w2 ∧
    R (.int .i64 i2) w2) ∧
  ((x == 2) = false → ((x == 3) = true → ∀ w3 : World, Only [] w0 w3 → ∃ l0 : Sl, Cells w3 ((w_.add 0).add 2) [l0.v] ∧
   Calls Tryd.prog 17 #[l0.v, .string x2] w3 fun e2 w4 => ∃ b0 : Bool, e2 = (.returned (.bool b0)) ∧
    Same [k0] w3 w4 ∧
    (b0 = true → R (.int .i64 1) w4) ∧
    (b0 = false → R (.int .i64 0) w4)) ∧
  ((x == 3) = false → ∃ p0 : Addr, SlAt x4 0 6 p0 ∧
  ∃ i3 : Int, ∃ i4 : Int, ∃ s0 : ByteArray, ∃ i5 : Int, ∃ l1 : Sl, ∃ i6 : Int, Cells w0 p0 [.int .i64 i3, .int .i64 i4, .string s0, .int .i64 i5, l1.v, .int .i64 i6] ∧
  Calls Tryd.prog 9 #[.pointer (some w_), .agg #[.int .i64 i3, .int .i64 i4, .string s0, .int .i64 i5, l1.v, .int .i64 i6]] w0 fun e3 w5 => ∃ i7 : Int, e3 = (.returned (.int .i64 i7)) ∧
   Same [k0] w0 w5 ∧
   ∃ i8 : Int, Cells w5 (w_.add 3) [.int .i64 i8] ∧
   ((i8 != 0) = true → R (.int .i64 0) w5) ∧
   ((i8 != 0) = false → ((x == 4) = true → Calls Tryd.prog 7 #[.int .i64 x3, .int .i64 i7] w5 fun e4 w6 => ∃ i9 : Int, ∃ i10 : Int, e4 = (.returned (.tuple #[.int .i64 i9, .int .i64 i10])) ∧
     Same [k0] w5 w6 ∧
     Calls Tryd.prog 18 #[.pointer (some w_), .int .i64 i9, .int .i64 i10] w6 fun e5 w7 => ∃ i11 : Int, e5 = (.returned (.int .i64 i11)) ∧
      Same [k0] w6 w7 ∧
      R (.int .i64 i11) w7) ∧
   ((x == 4) = false → (((x3 == 12) && (i7 == 0)) = true → R (.int .i64 0) w5) ∧
   (((x3 == 12) && (i7 == 0)) = false → (((x3 == 13) && (i7 != 0)) = true → R (.int .i64 1) w5) ∧
   (((x3 == 13) && (i7 != 0)) = false → ∃ p1 : Addr, SlAt x4 1 6 p1 ∧
   ∃ i12 : Int, ∃ i13 : Int, ∃ s1 : ByteArray, ∃ i14 : Int, ∃ l2 : Sl, ∃ i15 : Int, Cells w5 p1 [.int .i64 i12, .int .i64 i13, .string s1, .int .i64 i14, l2.v, .int .i64 i15] ∧
   Calls Tryd.prog 9 #[.pointer (some w_), .agg #[.int .i64 i12, .int .i64 i13, .string s1, .int .i64 i14, l2.v, .int .i64 i15]] w5 fun e6 w8 => ∃ i16 : Int, e6 = (.returned (.int .i64 i16)) ∧
    Same [k0] w5 w8 ∧
    ∃ i17 : Int, Cells w8 (w_.add 3) [.int .i64 i17] ∧
    ((i17 != 0) = true → R (.int .i64 0) w8) ∧
    ((i17 != 0) = false → Calls Tryd.prog 6 #[.int .i64 x3, .int .i64 i7, .int .i64 i16] w8 fun e7 w9 => ∃ i18 : Int, ∃ i19 : Int, e7 = (.returned (.tuple #[.int .i64 i18, .int .i64 i19])) ∧
     Same [k0] w8 w9 ∧
     Calls Tryd.prog 18 #[.pointer (some w_), .int .i64 i18, .int .i64 i19] w9 fun e8 w10 => ∃ i20 : Int, e8 = (.returned (.int .i64 i20)) ∧
      Same [k0] w9 w10 ∧
      R (.int .i64 i20) w10)))))))))
theorem eval_worker_expr_wp (w_ : Addr) (x : Int) (x1 : Int) (x2 : ByteArray) (x3 : Int) (x4 : Sl) (x5 : Int) (R : Value → World → Prop) (w : World) (h : eval_worker_expr_vc w_ x x1 x2 x3 x4 x5 R w) : Calls Tryd.prog 9 #[.pointer (some w_), .agg #[.int .i64 x, .int .i64 x1, .string x2, .int .i64 x3, x4.v, .int .i64 x5]] w fun e w' => ∃ v, e = .returned v ∧ R v w' :=
  fn_by (an := .s .o (.s .o (.s (.s .o (.s (.s .o .o) .o)) (.s (.s .o (.s .o (.s (.s .o .o) (.s .o (.s (.s .o .o) (.s .o (.s (.s (.s .o (.s (.s .o .o) .o)) (.s .o .o)) .o))))))) (.s .o (.s (.s .o (.s (.s .o .o) (.s .o (.s (.s .o .o) (.s .o (.s (.s .o .o) (.s .o (.s (.s .o .o) .o)))))))) (.s .o (.s (.s .o (.s (.s .o .o) .o)) (.s .o .o))))))))) (args := [.ad w_, .agg (ofL [.int .i64 x, .int .i64 x1, .str x2, .int .i64 x3, .sl x4, .int .i64 x5])]) Tryd.checked.mixed (by kernel_rfl) (by kernel_rfl) h
def calc_divide_vc (op : Int) (a_ : Int) (b : Int) (R : Value → World → Prop) (w : World) : Prop :=
  ((b == 0) = true → R (.tuple #[.int .i64 0, .int .i64 10]) w) ∧
  ((b == 0) = false → (((op == 4) && (b == (-1))) = true → R (.tuple #[.int .i64 (IntKind.wrap .i64 (0 - a_)), .int .i64 0]) w) ∧
  (((op == 4) && (b == (-1))) = false → ((op == 4) = true → b ≠ 0 ∧
   R (.tuple #[.int .i64 (IntKind.wrap .i64 (a_.tdiv b)), .int .i64 0]) w) ∧
  ((op == 4) = false → ((b == (-1)) = true → R (.tuple #[.int .i64 0, .int .i64 0]) w) ∧
  ((b == (-1)) = false → b ≠ 0 ∧
  R (.tuple #[.int .i64 (a_.tmod b), .int .i64 0]) w))))
theorem calc_divide_wp (op : Int) (a_ : Int) (b : Int) (R : Value → World → Prop) (w : World) (h : calc_divide_vc op a_ b R w) : Calls Tryd.prog 10 #[.int .i64 op, .int .i64 a_, .int .i64 b] w fun e w' => ∃ v, e = .returned v ∧ R v w' :=
  fn_by (an := .s .o (.s (.s .o (.s (.s .o .o) (.s .o (.s (.s .o .o) (.s .o (.s (.s .o .o) (.s .o (.s (.s .o .o) .o)))))))) (.s .o .o))) (args := [.int .i64 op, .int .i64 a_, .int .i64 b]) Tryd.checked.mixed (by kernel_rfl) (by kernel_rfl) h
def calc_truth_vc (is : Bool) (R : Value → World → Prop) (w : World) : Prop :=
  (is = true → R (.int .i64 1) w) ∧
  (is = false → R (.int .i64 0) w)
theorem calc_truth_wp (is : Bool) (R : Value → World → Prop) (w : World) (h : calc_truth_vc is R w) : Calls Tryd.prog 11 #[.bool is] w fun e w' => ∃ v, e = .returned v ∧ R v w' :=
  fn_by (an := .s .o (.s (.s .o (.s (.s .o .o) .o)) (.s .o .o))) (args := [.bt is]) Tryd.checked.mixed (by kernel_rfl) (by kernel_rfl) h
def calc_turned_vc (n_ : Int) (R : Value → World → Prop) (w : World) : Prop :=
  R (.int .i64 (IntKind.wrap .i64 (1 - n_))) w
theorem calc_turned_wp (n_ : Int) (R : Value → World → Prop) (w : World) (h : calc_turned_vc n_ R w) : Calls Tryd.prog 12 #[.int .i64 n_] w fun e w' => ∃ v, e = .returned v ∧ R v w' :=
  fn_by (an := .s .o (.s .o .o)) (args := [.int .i64 n_]) Tryd.checked.mixed (by kernel_rfl) (by kernel_rfl) h
def scan_Tokens_vc (s : ByteArray) (R : Value → World → Prop) (w : World) : Prop :=
  ((decide ((s.size : Int) > 16384)) = true → ∀ k0 : Nat, ∀ w0 : World, w.heap.size ≤ k0 → k0 < w0.heap.size → Only [] w w0 → R (.tuple #[Sl.nil.v, .agg #[.int .i64 2, .int .i64 (-1)]]) w0) ∧
  ((decide ((s.size : Int) > 16384)) = false → ∀ k1 : Nat, ∀ w1 : World, w.heap.size ≤ k1 → k1 < w1.heap.size → Only [] w w1 → Calls Tryd.prog 19 #[] w1 fun e0 w2 => ∃ l0 : Sl, e0 = (.returned l0.v) ∧
   Same [k1] w1 w2 ∧
   ∀ k2 : Nat, ∀ w3 : World, w2.heap.size ≤ k2 → k2 < w3.heap.size → Only [] w2 w3 → Blk w3 k2 62 [.string s, .int .i64 0, l0.v, Sl.nil.v] → Calls Tryd.prog 20 #[.pointer (some ⟨k2, 0, none⟩)] w3 fun e1 w4 => e1 = (.returned (.tuple #[])) ∧
    Same [k1] w3 w4 ∧
    ∃ s0 : ByteArray, ∃ i0 : Int, ∃ l1 : Sl, ∃ l2 : Sl, Blk w4 k2 62 [.string s0, .int .i64 i0, l1.v, l2.v] ∧
    ∃ J0 : Nat → Int → Int → ByteArray → Int → Sl → Sl → World → Prop, ∃ k3 : Nat, J0 k3 0 0 s0 i0 l1 l2 w4 ∧
    ∀ k4 : Nat, ∀ i1 : Int, ∀ i2 : Int, ∀ s1 : ByteArray, ∀ i3 : Int, ∀ l3 : Sl, ∀ l4 : Sl, ∀ w5 : World, J0 k4 i1 i2 s1 i3 l3 l4 w5 → Calls Tryd.prog 21 #[.pointer (some ⟨k2, 0, none⟩)] w5 fun e2 w6 => ∃ b0 : Bool, e2 = (.returned (.bool b0)) ∧
     Same [k1] w5 w6 ∧
     ∃ s2 : ByteArray, ∃ i4 : Int, ∃ l5 : Sl, ∃ l6 : Sl, Blk w6 k2 62 [.string s2, .int .i64 i4, l5.v, l6.v] ∧
     ((!b0) = true → Calls Tryd.prog 22 #[.pointer (some ⟨k2, 0, none⟩)] w6 fun e3 w7 => ∃ i5 : Int, e3 = (.returned (.int .i64 i5)) ∧
       Same [k1] w6 w7 ∧
       ∃ s3 : ByteArray, ∃ i6 : Int, ∃ l7 : Sl, ∃ l8 : Sl, Blk w7 k2 62 [.string s3, .int .i64 i6, l7.v, l8.v] ∧
       ((i5 != 0) = true → ∀ w8 : World, Only [k1] w7 w8 → Blk w8 k2 62 [.string s3, .int .i64 i6, l7.v, l8.v] → R (.tuple #[Sl.nil.v, .agg #[.int .i64 i5, .int .i64 i6]]) w8) ∧
       ((i5 != 0) = false → Calls Tryd.prog 20 #[.pointer (some ⟨k2, 0, none⟩)] w7 fun e4 w9 => e4 = (.returned (.tuple #[])) ∧
        Same [k1] w7 w9 ∧
        ∃ s4 : ByteArray, ∃ i7 : Int, ∃ l9 : Sl, ∃ l10 : Sl, Blk w9 k2 62 [.string s4, .int .i64 i7, l9.v, l10.v] ∧
        ∃ k5 : Nat, k5 < k4 ∧
        J0 k5 i1 i2 s4 i7 l9 l10 w9)) ∧
     ((!b0) = false → Calls Tryd.prog 23 #[.pointer (some ⟨k2, 0, none⟩), .agg #[.int .i64 5, .string (ByteArray.mk #[]), .int .i64 0, .int .i64 0], .int .i64 0] w6 fun e5 w10 => e5 = (.returned (.tuple #[])) ∧
      Same [k1] w6 w10 ∧
      ∃ s5 : ByteArray, ∃ i8 : Int, ∃ l11 : Sl, ∃ l12 : Sl, Blk w10 k2 62 [.string s5, .int .i64 i8, l11.v, l12.v] ∧
      ∀ w11 : World, Only [k1] w10 w11 → Blk w11 k2 62 [.string s5, .int .i64 i8, l11.v, l12.v] → R (.tuple #[l12.v, .agg #[.int .i64 0, .int .i64 0]]) w11))
theorem scan_Tokens_wp (s : ByteArray) (R : Value → World → Prop) (w : World) (h : scan_Tokens_vc s R w) : Calls Tryd.prog 13 #[.string s] w fun e w' => ∃ v, e = .returned v ∧ R v w' :=
  fn_by (an := .s .o (.s (.s .o (.s (.s .o .o) .o)) (.s .o (.s (.s .o (.j [3, 4, 14] [.b 3 [.int .i64, .int .i64], .b 14 [.str, .int .i64, .sl, .sl]] (.s (.s .o (.s .o .o)) (.s (.s .o (.s .o (.s (.s .o .o) .o))) .o)) .o)) (.s .o (.s .o .o)))))) (args := [.str s]) Tryd.checked.mixed (by kernel_rfl) (by kernel_rfl) h
def expr_Parse_vc (l : Sl) (at_ : Int) (R : Value → World → Prop) (w : World) : Prop :=
  ∀ k0 : Nat, ∀ k1 : Nat, ∀ w0 : World, w.heap.size ≤ k0 → k0 < w0.heap.size → w.heap.size ≤ k1 → k1 < w0.heap.size → Only [] w w0 → Calls Tryd.prog 24 #[l.v, .func (.func 25) #[] #[]] w0 fun e0 w1 => ∃ i0 : Int, e0 = (.returned (.int .i64 i0)) ∧
   Same [k0, k1] w0 w1 ∧
   ((((decide (at_ < 0)) || (decide (at_ ≥ (l.n : Int)))) || (i0 != (IntKind.wrap .i64 ((l.n : Int) - 1)))) = true → ∀ w2 : World, Only [k1, k0] w1 w2 → R (.tuple #[.agg #[.int .i64 0, .int .i64 0, .string (ByteArray.mk #[]), .int .i64 0, Sl.nil.v, .int .i64 0], .int .i64 0, .agg #[.int .i64 1, .int .i64 (-1)]]) w2) ∧
   ((((decide (at_ < 0)) || (decide (at_ ≥ (l.n : Int)))) || (i0 != (IntKind.wrap .i64 ((l.n : Int) - 1)))) = false → Calls Tryd.prog 26 #[] w1 fun e1 w3 => ∃ l0 : Sl, e1 = (.returned l0.v) ∧
    Same [k0, k1] w1 w3 ∧
    ∀ k2 : Nat, ∀ w4 : World, w3.heap.size ≤ k2 → k2 < w4.heap.size → Only [] w3 w4 → Blk w4 k2 71 [l.v, .int .i64 at_, .int .i64 0, .int .i64 0, .int .i64 0, l0.v] → Calls Tryd.prog 27 #[.pointer (some ⟨k2, 0, none⟩), .int .i64 0] w4 fun e2 w5 => ∃ i1 : Int, ∃ i2 : Int, ∃ s0 : ByteArray, ∃ i3 : Int, ∃ l1 : Sl, ∃ i4 : Int, e2 = (.returned (.agg #[.int .i64 i1, .int .i64 i2, .string s0, .int .i64 i3, l1.v, .int .i64 i4])) ∧
     Same [k0, k1] w4 w5 ∧
     ∃ l2 : Sl, ∃ i5 : Int, ∃ i6 : Int, ∃ i7 : Int, ∃ i8 : Int, ∃ l3 : Sl, Blk w5 k2 71 [l2.v, .int .i64 i5, .int .i64 i6, .int .i64 i7, .int .i64 i8, l3.v] ∧
     ∀ k3 : Nat, ∀ w6 : World, w5.heap.size ≤ k3 → k3 < w6.heap.size → Only [] w5 w6 → Blk w6 k2 71 [l2.v, .int .i64 i5, .int .i64 i6, .int .i64 i7, .int .i64 i8, l3.v] → Calls Tryd.prog 28 #[.pointer (some ⟨k2, 0, none⟩)] w6 fun e3 w7 => ∃ b0 : Bool, e3 = (.returned (.bool b0)) ∧
      Same [k0, k1, k3] w6 w7 ∧
      ∃ l4 : Sl, ∃ i9 : Int, ∃ i10 : Int, ∃ i11 : Int, ∃ i12 : Int, ∃ l5 : Sl, Blk w7 k2 71 [l4.v, .int .i64 i9, .int .i64 i10, .int .i64 i11, .int .i64 i12, l5.v] ∧
      (b0 = true → ∀ w8 : World, Only [] w7 w8 → Blk w8 k2 71 [l4.v, .int .i64 i9, .int .i64 i10, .int .i64 i11, .int .i64 i12, l5.v] → k0 ≠ k1 → k0 ≠ k2 → k0 ≠ k3 → k1 ≠ k2 → k1 ≠ k3 → k2 ≠ k3 → ∃ J0 : Nat → Prop, J0 k2 ∧
       Out J0 k0 ∧
       Out J0 k1 ∧
       ∀ w9 : World, Only [k1, k0] w8 w9 → Blk w9 k2 71 [l4.v, .int .i64 i9, .int .i64 i10, .int .i64 i11, .int .i64 i12, l5.v] → R (.tuple #[.agg #[.int .i64 0, .int .i64 0, .string (ByteArray.mk #[]), .int .i64 0, Sl.nil.v, .int .i64 0], .int .i64 0, .agg #[.int .i64 i10, .int .i64 i11]]) w9) ∧
      (b0 = false → ∀ w10 : World, Only [] w7 w10 → Blk w10 k2 71 [l4.v, .int .i64 i9, .int .i64 i10, .int .i64 i11, .int .i64 i12, l5.v] → k0 ≠ k1 → k0 ≠ k2 → k0 ≠ k3 → k1 ≠ k2 → k1 ≠ k3 → k2 ≠ k3 → ∃ J1 : Nat → Prop, J1 k2 ∧
      Out J1 k0 ∧
      Out J1 k1 ∧
      ∀ w11 : World, Only [k1, k0] w10 w11 → Blk w11 k2 71 [l4.v, .int .i64 i9, .int .i64 i10, .int .i64 i11, .int .i64 i12, l5.v] → R (.tuple #[.agg #[.int .i64 i1, .int .i64 i2, .string s0, .int .i64 i3, l1.v, .int .i64 i4], .int .i64 i9, .agg #[.int .i64 0, .int .i64 0]]) w11))
theorem expr_Parse_wp (l : Sl) (at_ : Int) (R : Value → World → Prop) (w : World) (h : expr_Parse_vc l at_ R w) : Calls Tryd.prog 14 #[l.v, .int .i64 at_] w fun e w' => ∃ v, e = .returned v ∧ R v w' :=
  fn_by (an := .s .o (.s .o (.s (.s .o (.s (.s .o .o) .o)) (.s .o (.s .o (.s (.s .o (.s (.s .o .o) .o)) (.s .o .o))))))) (args := [.sl l, .int .i64 at_]) Tryd.checked.mixed (by kernel_rfl) (by kernel_rfl) h
def eval_worker_fail_vc (w_ : Addr) (err : Int) (R : Value → World → Prop) (w : World) : Prop :=
  ∃ J0 : World → Prop, (∀ w0 : World, J0 w0 → R (.int .i64 0) w0) ∧
  ∃ i0 : Int, Cells w (w_.add 3) [.int .i64 i0] ∧
  ((i0 == 0) = true → ∃ k0 : Nat, ∃ k1 : Nat, ∃ z0 : List Value, ∃ k2 : Nat, (w_.add 3) = ⟨k0, k1, none⟩ ∧
   Blk w k0 k2 z0 ∧
   (k1 + 1) ≤ z0.length ∧
   ∀ w1 : World, Only [k0] w w1 → Blk w1 k0 k2 (splice z0 k1 [.int .i64 err]) → J0 w1) ∧
  ((i0 == 0) = false → J0 w)
theorem eval_worker_fail_wp (w_ : Addr) (err : Int) (R : Value → World → Prop) (w : World) (h : eval_worker_fail_vc w_ err R w) : Calls Tryd.prog 15 #[.pointer (some w_), .int .i64 err] w fun e w' => ∃ v, e = .returned v ∧ R v w' :=
  fn_by (an := .s .o (.j [] [] (.s .o (.s .o .o)) (.s .o .o))) (args := [.ad w_, .int .i64 err]) Tryd.checked.mixed (by kernel_rfl) (by kernel_rfl) h
def eval_worker_named_vc (w_ : Addr) (name : ByteArray) (R : Value → World → Prop) (w : World) : Prop :=
  ∃ l0 : Sl, Cells w ((w_.add 0).add 0) [l0.v] ∧
  Calls Tryd.prog 29 #[l0.v, .string name] w fun e0 w0 => ∃ i0 : Int, e0 = (.returned (.int .i64 i0)) ∧
   ∃ l1 : Sl, ((decide (i0 < 0)) = false → Cells w0 ((w_.add 0).add 1) [l1.v]) ∧
   (((decide (i0 < 0)) || (decide (i0 ≥ (l1.n : Int)))) = true → Calls Tryd.prog 15 #[.pointer (some w_), .int .i64 23] w0 fun e1 w1 => ∃ i1 : Int, e1 = (.returned (.int .i64 i1)) ∧
     R (.int .i64 i1) w1) ∧
   (((decide (i0 < 0)) || (decide (i0 ≥ (l1.n : Int)))) = false → ∃ l2 : Sl, Cells w0 ((w_.add 0).add 1) [l2.v] ∧
   ∃ p0 : Addr, SlAt l2 i0 1 p0 ∧
   ∃ i2 : Int, Cells w0 p0 [.int .i64 i2] ∧
   R (.int .i64 i2) w0)
theorem eval_worker_named_wp (w_ : Addr) (name : ByteArray) (R : Value → World → Prop) (w : World) (h : eval_worker_named_vc w_ name R w) : Calls Tryd.prog 16 #[.pointer (some w_), .string name] w fun e w' => ∃ v, e = .returned v ∧ R v w' :=
  fn_by (an := .s .o (.s .o (.s (.s .o (.s (.s .o .o) .o)) (.s .o .o)))) (args := [.ad w_, .str name]) Tryd.checked.mixed (by kernel_rfl) (by kernel_rfl) h
def slices_Contains_string_vc (s : Sl) (v1 : ByteArray) (R : Value → World → Prop) (w : World) : Prop :=
  Calls Tryd.prog 29 #[s.v, .string v1] w fun e0 w0 => ∃ i0 : Int, e0 = (.returned (.int .i64 i0)) ∧
   R (.bool (decide (i0 ≥ 0))) w0
theorem slices_Contains_string_wp (s : Sl) (v1 : ByteArray) (R : Value → World → Prop) (w : World) (h : slices_Contains_string_vc s v1 R w) : Calls Tryd.prog 17 #[s.v, .string v1] w fun e w' => ∃ v, e = .returned v ∧ R v w' :=
  fn_by (an := .s .o (.s .o .o)) (args := [.sl s, .str v1]) Tryd.checked.mixed (by kernel_rfl) (by kernel_rfl) h
def eval_worker_took_vc (w_ : Addr) (n_ : Int) (err : Int) (R : Value → World → Prop) (w : World) : Prop :=
  Calls Tryd.prog 15 #[.pointer (some w_), .int .i64 err] w fun e0 w0 => ∃ i0 : Int, e0 = (.returned (.int .i64 i0)) ∧
   ∃ i1 : Int, Cells w0 (w_.add 3) [.int .i64 i1] ∧
   ((i1 != 0) = true → R (.int .i64 0) w0) ∧
   ((i1 != 0) = false → R (.int .i64 n_) w0)
theorem eval_worker_took_wp (w_ : Addr) (n_ : Int) (err : Int) (R : Value → World → Prop) (w : World) (h : eval_worker_took_vc w_ n_ err R w) : Calls Tryd.prog 18 #[.pointer (some w_), .int .i64 n_, .int .i64 err] w fun e w' => ∃ v, e = .returned v ∧ R v w' :=
  fn_by (an := .s .o (.s (.s .o (.s .o (.s (.s .o .o) .o))) (.s .o .o))) (args := [.ad w_, .int .i64 n_, .int .i64 err]) Tryd.checked.mixed (by kernel_rfl) (by kernel_rfl) h
def scan_Words_vc (R : Value → World → Prop) (w : World) : Prop :=
  ∃ l0 : Sl, ∃ w0 : World, ((Instr.buildSlice 29 16 #[.mk 0 (.string (ByteArray.mk #[97, 102, 116, 101, 114])), .mk 1 (.string (ByteArray.mk #[97, 108, 119, 97, 121, 115])), .mk 2 (.string (ByteArray.mk #[99, 104, 97, 114, 116])), .mk 3 (.string (ByteArray.mk #[100, 101, 101, 112])), .mk 4 (.string (ByteArray.mk #[101, 109, 105, 116])), .mk 5 (.string (ByteArray.mk #[101, 110, 116, 101, 114])), .mk 6 (.string (ByteArray.mk #[104, 105, 115, 116, 111, 114, 121])), .mk 7 (.string (ByteArray.mk #[105, 110])), .mk 8 (.string (ByteArray.mk #[105, 110, 105, 116, 105, 97, 108])), .mk 9 (.string (ByteArray.mk #[108, 101, 97, 118, 101])), .mk 10 (.string (ByteArray.mk #[111, 110])), .mk 11 (.string (ByteArray.mk #[112, 97, 114, 97, 108, 108, 101, 108])), .mk 12 (.string (ByteArray.mk #[114, 97, 105, 115, 101])), .mk 13 (.string (ByteArray.mk #[115, 101, 116])), .mk 14 (.string (ByteArray.mk #[115, 116, 97, 116, 101])), .mk 15 (.string (ByteArray.mk #[118, 97, 114]))]).run Tryd.prog w) = (.ok l0.v w0) ∧
  R l0.v w0
theorem scan_Words_wp (R : Value → World → Prop) (w : World) (h : scan_Words_vc R w) : Calls Tryd.prog 19 #[] w fun e w' => ∃ v, e = .returned v ∧ R v w' :=
  fn_by (an := .s .o (.s .o .o)) (args := []) Tryd.checked.mixed (by kernel_rfl) (by kernel_rfl) h
def scan_cursor_skip_vc (c : Addr) (R : Value → World → Prop) (w : World) : Prop :=
  ∃ J0 : Nat → World → Prop, ∃ k0 : Nat, J0 k0 w ∧
  ∀ k1 : Nat, ∀ w0 : World, J0 k1 w0 → Calls Tryd.prog 21 #[.pointer (some c)] w0 fun e0 w1 => ∃ b0 : Bool, e0 = (.returned (.bool b0)) ∧
   ((!b0) = true → ∃ s0 : ByteArray, Cells w1 (c.add 0) [.string s0] ∧
    ∃ i0 : Int, Cells w1 (c.add 1) [.int .i64 i0] ∧
    ∃ c0 : UInt8, (0 ≤ i0 ∧
     (s0[Int.toNat i0]?) = (some c0)) ∧
    ∀ w2 : World, Only [] w1 w2 → ∃ l0 : Sl, ∃ w3 : World, ((Instr.buildSlice 83 4 #[.mk 0 (.int .u8 9), .mk 1 (.int .u8 10), .mk 2 (.int .u8 13), .mk 3 (.int .u8 32)]).run Tryd.prog w2) = (.ok l0.v w3) ∧
    Calls Tryd.prog 30 #[.int .u8 (UInt8.toNat c0 : Int), l0.v] w3 fun e1 w4 => ∃ b1 : Bool, e1 = (.returned (.bool b1)) ∧
     (b1 = true → ∃ i1 : Int, Cells w4 (c.add 1) [.int .i64 i1] ∧
      ∃ k3 : Nat, ∃ k4 : Nat, ∃ z0 : List Value, ∃ k5 : Nat, (c.add 1) = ⟨k3, k4, none⟩ ∧
      Blk w4 k3 k5 z0 ∧
      (k4 + 1) ≤ z0.length ∧
      ∀ w5 : World, Only [k3] w4 w5 → Blk w5 k3 k5 (splice z0 k4 [.int .i64 (IntKind.wrap .i64 (i1 + 1))]) → ∃ k6 : Nat, k6 < k1 ∧
      J0 k6 w5) ∧
     (b1 = false → Calls Tryd.prog 32 #[.pointer (some c)] w4 fun e2 w6 => ∃ s2 : ByteArray, e2 = (.returned (.string s2)) ∧
      Calls Tryd.prog 31 #[.string s2, .string (ByteArray.mk #[47, 47])] w6 fun e3 w7 => ∃ b2 : Bool, e3 = (.returned (.bool b2)) ∧
       (b2 = true → Calls Tryd.prog 32 #[.pointer (some c)] w7 fun e4 w8 => ∃ s3 : ByteArray, e4 = (.returned (.string s3)) ∧
         Calls Tryd.prog 33 #[.string s3, .string (ByteArray.mk #[10])] w8 fun e5 w9 => ∃ s4 : ByteArray, ∃ s5 : ByteArray, ∃ b3 : Bool, e5 = (.returned (.tuple #[.string s4, .string s5, .bool b3])) ∧
          ∃ i2 : Int, Cells w9 (c.add 1) [.int .i64 i2] ∧
          ∃ k7 : Nat, ∃ k8 : Nat, ∃ z1 : List Value, ∃ k9 : Nat, (c.add 1) = ⟨k7, k8, none⟩ ∧
          Blk w9 k7 k9 z1 ∧
          (k8 + 1) ≤ z1.length ∧
          ∀ w10 : World, Only [k7] w9 w10 → Blk w10 k7 k9 (splice z1 k8 [.int .i64 (IntKind.wrap .i64 (i2 + (s4.size : Int)))]) → ∃ k10 : Nat, k10 < k1 ∧
          J0 k10 w10) ∧
       (b2 = false → R (.tuple #[]) w7))) ∧
   ((!b0) = false → R (.tuple #[]) w1)
theorem scan_cursor_skip_wp (c : Addr) (R : Value → World → Prop) (w : World) (h : scan_cursor_skip_vc c R w) : Calls Tryd.prog 20 #[.pointer (some c)] w fun e w' => ∃ v, e = .returned v ∧ R v w' :=
  fn_by (an := .j [0] [] (.s (.s .o (.s .o .o)) (.s .o (.s .o (.s .o (.s .o (.s (.s .o .o) .o)))))) .o) (args := [.ad c]) Tryd.checked.mixed (by kernel_rfl) (by kernel_rfl) h
def scan_cursor_end_vc (c : Addr) (R : Value → World → Prop) (w : World) : Prop :=
  ∃ i0 : Int, Cells w (c.add 1) [.int .i64 i0] ∧
  ∃ s0 : ByteArray, Cells w (c.add 0) [.string s0] ∧
  ∀ w0 : World, Only [] w w0 → R (.bool (decide (i0 ≥ (s0.size : Int)))) w0
theorem scan_cursor_end_wp (c : Addr) (R : Value → World → Prop) (w : World) (h : scan_cursor_end_vc c R w) : Calls Tryd.prog 21 #[.pointer (some c)] w fun e w' => ∃ v, e = .returned v ∧ R v w' :=
  fn_by (an := .s .o (.s .o .o)) (args := [.ad c]) Tryd.checked.mixed (by kernel_rfl) (by kernel_rfl) h
def scan_cutter_token_vc (c : Addr) (R : Value → World → Prop) (w : World) : Prop :=
  ∃ s0 : ByteArray, Cells w ((c.add 0).add 0) [.string s0] ∧
  ∃ i0 : Int, Cells w ((c.add 0).add 1) [.int .i64 i0] ∧
  ∃ c0 : UInt8, (0 ≤ i0 ∧
   (s0[Int.toNat i0]?) = (some c0)) ∧
  ∀ w0 : World, Only [] w w0 → Calls Tryd.prog 34 #[.int .u8 (UInt8.toNat c0 : Int)] w0 fun e0 w1 => ∃ b0 : Bool, e0 = (.returned (.bool b0)) ∧
   (b0 = true → Calls Tryd.prog 35 #[.pointer (some c)] w1 fun e1 w2 => ∃ i1 : Int, e1 = (.returned (.int .i64 i1)) ∧
     R (.int .i64 i1) w2) ∧
   (b0 = false → Calls Tryd.prog 36 #[.int .u8 (UInt8.toNat c0 : Int)] w1 fun e2 w3 => ∃ b1 : Bool, e2 = (.returned (.bool b1)) ∧
    (b1 = true → Calls Tryd.prog 37 #[.pointer (some c)] w3 fun e3 w4 => ∃ i2 : Int, e3 = (.returned (.int .i64 i2)) ∧
      R (.int .i64 i2) w4) ∧
    (b1 = false → Calls Tryd.prog 38 #[.pointer (some c)] w3 fun e4 w5 => ∃ i3 : Int, e4 = (.returned (.int .i64 i3)) ∧
     R (.int .i64 i3) w5))
theorem scan_cutter_token_wp (c : Addr) (R : Value → World → Prop) (w : World) (h : scan_cutter_token_vc c R w) : Calls Tryd.prog 22 #[.pointer (some c)] w fun e w' => ∃ v, e = .returned v ∧ R v w' :=
  fn_by (an := .s .o (.s (.s .o (.s .o (.s (.s .o .o) (.s .o (.s (.s .o .o) .o))))) (.s .o .o))) (args := [.ad c]) Tryd.checked.mixed (by kernel_rfl) (by kernel_rfl) h
def scan_cutter_add_vc (c : Addr) (t : Int) (t1 : ByteArray) (t2 : Int) (t3 : Int) (n_ : Int) (R : Value → World → Prop) (w : World) : Prop :=
  ∀ k0 : Nat, ∀ w0 : World, w.heap.size ≤ k0 → k0 < w0.heap.size → Only [] w w0 → ∃ i0 : Int, Cells w0 ((c.add 0).add 1) [.int .i64 i0] ∧
  ∀ w1 : World, Only [k0] w0 w1 → ∃ J0 : Nat → Prop, J0 ((c.add 3).block) ∧
  ∃ l0 : Sl, Cells w1 (c.add 3) [l0.v] ∧
  ∃ l1 : Sl, ∃ w2 : World, ((Instr.buildSlice 46 1 #[.mk 0 (.agg #[.int .i64 t, .string t1, .int .i64 t2, .int .i64 i0])]).run Tryd.prog w1) = (.ok l1.v w2) ∧
  Same [k0] w1 w2 ∧
  Keeps J0 w1 w2 ∧
  ∃ l2 : Sl, ∃ w3 : World, ((Builtin.append_ #[46, 46] 46 #[l0.v, l1.v]).run Tryd.prog w2) = (.ok l2.v w3) ∧
  Same [k0] w2 w3 ∧
  Keeps J0 w2 w3 ∧
  ∃ k1 : Nat, ∃ k2 : Nat, ∃ z0 : List Value, ∃ k3 : Nat, (c.add 3) = ⟨k1, k2, none⟩ ∧
  Blk w3 k1 k3 z0 ∧
  (k2 + 1) ≤ z0.length ∧
  k0 ≠ k1 ∧
  ∀ w4 : World, Only [k1] w3 w4 → Blk w4 k1 k3 (splice z0 k2 [l2.v]) → ∃ i1 : Int, Cells w4 ((c.add 0).add 1) [.int .i64 i1] ∧
  ∃ k4 : Nat, ∃ k5 : Nat, ∃ z1 : List Value, ∃ k6 : Nat, ((c.add 0).add 1) = ⟨k4, k5, none⟩ ∧
  Blk w4 k4 k6 z1 ∧
  (k5 + 1) ≤ z1.length ∧
  k0 ≠ k4 ∧
  ∀ w5 : World, Only [k4] w4 w5 → Blk w5 k4 k6 (splice z1 k5 [.int .i64 (IntKind.wrap .i64 (i1 + n_))]) → R (.tuple #[]) w5
theorem scan_cutter_add_wp (c : Addr) (t : Int) (t1 : ByteArray) (t2 : Int) (t3 : Int) (n_ : Int) (R : Value → World → Prop) (w : World) (h : scan_cutter_add_vc c t t1 t2 t3 n_ R w) : Calls Tryd.prog 23 #[.pointer (some c), .agg #[.int .i64 t, .string t1, .int .i64 t2, .int .i64 t3], .int .i64 n_] w fun e w' => ∃ v, e = .returned v ∧ R v w' :=
  fn_by (an := .s .o (.s .o (.s .o .o))) (args := [.ad c, .agg (ofL [.int .i64 t, .str t1, .int .i64 t2, .int .i64 t3]), .int .i64 n_]) Tryd.checked.mixed (by kernel_rfl) (by kernel_rfl) h
def slices_IndexFunc_api_Token_vc (s : Sl) (f : OV) (R : Value → World → Prop) (w : World) : Prop :=
  ∃ J0 : Nat → Int → World → Prop, ∃ k0 : Nat, J0 k0 0 w ∧
  ∀ k1 : Nat, ∀ i0 : Int, ∀ w0 : World, J0 k1 i0 w0 → ((decide (i0 < (s.n : Int))) = true → ∃ p0 : Addr, SlAt s i0 4 p0 ∧
   ∃ i1 : Int, ∃ s0 : ByteArray, ∃ i2 : Int, ∃ i3 : Int, Cells w0 p0 [.int .i64 i1, .string s0, .int .i64 i2, .int .i64 i3] ∧
   ∃ k2 : Nat, ∃ z0 : List Value, ∃ z1 : List Value, f.v = (.func (.func k2) z0.toArray z1.toArray) ∧
   (∀ x0 : Array Value, ∀ w1 : World, ((callFunc k2 x0).run Tryd.prog w1) = (.ok (.enter k2 x0) w1)) ∧
   Calls Tryd.prog k2 ((cat (cat z0 [.agg #[.int .i64 i1, .string s0, .int .i64 i2, .int .i64 i3]]) z1).toArray) w0 fun e0 w2 => ∃ b0 : Bool, e0 = (.returned (.bool b0)) ∧
    (b0 = true → R (.int .i64 i0) w2) ∧
    (b0 = false → ∃ k3 : Nat, k3 < k1 ∧
    J0 k3 (IntKind.wrap .i64 (i0 + 1)) w2)) ∧
  ((decide (i0 < (s.n : Int))) = false → R (.int .i64 (-1)) w0)
theorem slices_IndexFunc_api_Token_wp (s : Sl) (f : OV) (R : Value → World → Prop) (w : World) (h : slices_IndexFunc_api_Token_vc s f R w) : Calls Tryd.prog 24 #[s.v, f.v] w fun e w' => ∃ v, e = .returned v ∧ R v w' :=
  fn_by (an := .s .o (.s (.s .o (.j [0, 1, 7] [.s 8 (.int .i64)] (.s .o (.s (.s .o .o) (.s (.s .o (.s .o (.s (.s .o .o) .o))) .o))) .o)) (.s .o .o))) (args := [.sl s, .raw f]) Tryd.checked.mixed (by kernel_rfl) (by kernel_rfl) h
def expr_Parse_1_vc (t : Int) (t1 : ByteArray) (t2 : Int) (t3 : Int) (R : Value → World → Prop) (w : World) : Prop :=
  ∀ k0 : Nat, ∀ w0 : World, w.heap.size ≤ k0 → k0 < w0.heap.size → Only [] w w0 → R (.bool (t == 5)) w0
theorem expr_Parse_1_wp (t : Int) (t1 : ByteArray) (t2 : Int) (t3 : Int) (R : Value → World → Prop) (w : World) (h : expr_Parse_1_vc t t1 t2 t3 R w) : Calls Tryd.prog 25 #[.agg #[.int .i64 t, .string t1, .int .i64 t2, .int .i64 t3]] w fun e w' => ∃ v, e = .returned v ∧ R v w' :=
  fn_by (an := .s .o (.s .o .o)) (args := [.agg (ofL [.int .i64 t, .str t1, .int .i64 t2, .int .i64 t3])]) Tryd.checked.mixed (by kernel_rfl) (by kernel_rfl) h
def expr_ops_vc (R : Value → World → Prop) (w : World) : Prop :=
  ∃ l0 : Sl, ∃ w0 : World, ((Instr.buildSlice 29 16 #[.mk 1 (.string (ByteArray.mk #[43])), .mk 2 (.string (ByteArray.mk #[45])), .mk 3 (.string (ByteArray.mk #[42])), .mk 4 (.string (ByteArray.mk #[47])), .mk 5 (.string (ByteArray.mk #[37])), .mk 6 (.string (ByteArray.mk #[60])), .mk 7 (.string (ByteArray.mk #[60, 61])), .mk 8 (.string (ByteArray.mk #[62])), .mk 9 (.string (ByteArray.mk #[62, 61])), .mk 10 (.string (ByteArray.mk #[61, 61])), .mk 11 (.string (ByteArray.mk #[33, 61])), .mk 12 (.string (ByteArray.mk #[38, 38])), .mk 13 (.string (ByteArray.mk #[124, 124])), .mk 14 (.string (ByteArray.mk #[45])), .mk 15 (.string (ByteArray.mk #[33]))]).run Tryd.prog w) = (.ok l0.v w0) ∧
  R l0.v w0
theorem expr_ops_wp (R : Value → World → Prop) (w : World) (h : expr_ops_vc R w) : Calls Tryd.prog 26 #[] w fun e w' => ∃ v, e = .returned v ∧ R v w' :=
  fn_by (an := .s .o (.s .o .o)) (args := []) Tryd.checked.mixed (by kernel_rfl) (by kernel_rfl) h
def expr_reader_expr_vc (r : Addr) (k : Int) (R : Value → World → Prop) (w : World) : Prop :=
  ((k == 6) = true → ∀ k0 : Nat, ∀ w0 : World, w.heap.size ≤ k0 → k0 < w0.heap.size → Only [] w w0 → Calls Tryd.prog 39 #[.pointer (some r)] w0 fun e0 w1 => ∃ i0 : Int, ∃ i1 : Int, ∃ s0 : ByteArray, ∃ i2 : Int, ∃ l0 : Sl, ∃ i3 : Int, e0 = (.returned (.agg #[.int .i64 i0, .int .i64 i1, .string s0, .int .i64 i2, l0.v, .int .i64 i3])) ∧
    Same [k0] w0 w1 ∧
    ∀ w2 : World, Only [k0] w1 w2 → R (.agg #[.int .i64 i0, .int .i64 i1, .string s0, .int .i64 i2, l0.v, .int .i64 i3]) w2) ∧
  ((k == 6) = false → ∀ k1 : Nat, ∀ w3 : World, w.heap.size ≤ k1 → k1 < w3.heap.size → Only [] w w3 → Calls Tryd.prog 27 #[.pointer (some r), .int .i64 (IntKind.wrap .i64 (k + 1))] w3 fun e1 w4 => ∃ i4 : Int, ∃ i5 : Int, ∃ s1 : ByteArray, ∃ i6 : Int, ∃ l1 : Sl, ∃ i7 : Int, e1 = (.returned (.agg #[.int .i64 i4, .int .i64 i5, .string s1, .int .i64 i6, l1.v, .int .i64 i7])) ∧
   Same [k1] w3 w4 ∧
   ∀ k2 : Nat, ∀ w5 : World, w4.heap.size ≤ k2 → k2 < w5.heap.size → Only [] w4 w5 → Calls Tryd.prog 40 #[.pointer (some r), .int .i64 k] w5 fun e2 w6 => ∃ i8 : Int, e2 = (.returned (.int .i64 i8)) ∧
    Same [k1, k2] w5 w6 ∧
    ∃ J0 : Nat → Int → Int → Int → ByteArray → Int → Sl → Int → World → Prop, ∃ k3 : Nat, J0 k3 i8 i4 i5 s1 i6 l1 i7 w6 ∧
    ∀ k4 : Nat, ∀ i9 : Int, ∀ i10 : Int, ∀ i11 : Int, ∀ s2 : ByteArray, ∀ i12 : Int, ∀ l2 : Sl, ∀ i13 : Int, ∀ w7 : World, J0 k4 i9 i10 i11 s2 i12 l2 i13 w7 → ((i9 != 0) = true → ∃ i14 : Int, Cells w7 ((r.add 0).add 1) [.int .i64 i14] ∧
     ∃ k5 : Nat, ∃ k6 : Nat, ∃ z0 : List Value, ∃ k7 : Nat, ((r.add 0).add 1) = ⟨k5, k6, none⟩ ∧
     Blk w7 k5 k7 z0 ∧
     (k6 + 1) ≤ z0.length ∧
     k1 ≠ k5 ∧
     k2 ≠ k5 ∧
     ∀ w8 : World, Only [k5] w7 w8 → Blk w8 k5 k7 (splice z0 k6 [.int .i64 (IntKind.wrap .i64 (i14 + 1))]) → Calls Tryd.prog 27 #[.pointer (some r), .int .i64 (IntKind.wrap .i64 (k + 1))] w8 fun e3 w9 => ∃ i15 : Int, ∃ i16 : Int, ∃ s3 : ByteArray, ∃ i17 : Int, ∃ l3 : Sl, ∃ i18 : Int, e3 = (.returned (.agg #[.int .i64 i15, .int .i64 i16, .string s3, .int .i64 i17, l3.v, .int .i64 i18])) ∧
      Same [k1, k2] w8 w9 ∧
      ∀ k8 : Nat, ∀ w10 : World, w9.heap.size ≤ k8 → k8 < w10.heap.size → Only [] w9 w10 → ∃ l4 : Sl, ∃ w11 : World, ((Instr.buildSlice 23 2 #[.mk 0 (.agg #[.int .i64 i10, .int .i64 i11, .string s2, .int .i64 i12, l2.v, .int .i64 i13]), .mk 1 (.agg #[.int .i64 i15, .int .i64 i16, .string s3, .int .i64 i17, l3.v, .int .i64 i18])]).run Tryd.prog w10) = (.ok l4.v w11) ∧
      Same [k1, k2, k8] w10 w11 ∧
      ∀ w12 : World, Only [k2] w11 w12 → Calls Tryd.prog 40 #[.pointer (some r), .int .i64 k] w12 fun e4 w13 => ∃ i19 : Int, e4 = (.returned (.int .i64 i19)) ∧
       Same [k1, k2, k8] w12 w13 ∧
       ∃ k9 : Nat, k9 < k4 ∧
       J0 k9 i19 5 0 (ByteArray.mk #[]) i9 l4 i13 w13) ∧
    ((i9 != 0) = false → ∀ w14 : World, Only [k1] w7 w14 → R (.agg #[.int .i64 i10, .int .i64 i11, .string s2, .int .i64 i12, l2.v, .int .i64 i13]) w14))
theorem expr_reader_expr_wp (r : Addr) (k : Int) (R : Value → World → Prop) (w : World) (h : expr_reader_expr_vc r k R w) : Calls Tryd.prog 27 #[.pointer (some r), .int .i64 k] w fun e w' => ∃ v, e = .returned v ∧ R v w' :=
  fn_by (an := .s .o (.s (.s .o (.s (.s .o .o) .o)) (.s .o (.s (.s .o (.j [0, 1, 4, 5] [.s 6 (.int .i64), .b 5 [.int .i64, .int .i64, .str, .int .i64, .sl, .int .i64]] (.s (.s .o (.s .o .o)) (.s (.s .o (.s .o .o)) .o)) .o)) (.s .o .o))))) (args := [.ad r, .int .i64 k]) Tryd.checked.mixed (by kernel_rfl) (by kernel_rfl) h
def expr_cursor_bad_vc (c : Addr) (R : Value → World → Prop) (w : World) : Prop :=
  ∃ i0 : Int, Cells w ((c.add 2).add 0) [.int .i64 i0] ∧
  R (.bool (i0 != 0)) w
theorem expr_cursor_bad_wp (c : Addr) (R : Value → World → Prop) (w : World) (h : expr_cursor_bad_vc c R w) : Calls Tryd.prog 28 #[.pointer (some c)] w fun e w' => ∃ v, e = .returned v ∧ R v w' :=
  fn_by (an := .s .o (.s .o .o)) (args := [.ad c]) Tryd.checked.mixed (by kernel_rfl) (by kernel_rfl) h
def slices_Index_string_vc (s : Sl) (v1 : ByteArray) (R : Value → World → Prop) (w : World) : Prop :=
  ∃ J0 : Nat → Int → World → Prop, ∃ k0 : Nat, J0 k0 0 w ∧
  ∀ k1 : Nat, ∀ i0 : Int, ∀ w0 : World, J0 k1 i0 w0 → ((decide (i0 < (s.n : Int))) = true → ∃ p0 : Addr, SlAt s i0 1 p0 ∧
   ∃ s0 : ByteArray, Cells w0 p0 [.string s0] ∧
   ((v1.toList == s0.toList) = true → R (.int .i64 i0) w0) ∧
   ((v1.toList == s0.toList) = false → ∃ k2 : Nat, k2 < k1 ∧
   J0 k2 (IntKind.wrap .i64 (i0 + 1)) w0)) ∧
  ((decide (i0 < (s.n : Int))) = false → R (.int .i64 (-1)) w0)
theorem slices_Index_string_wp (s : Sl) (v1 : ByteArray) (R : Value → World → Prop) (w : World) (h : slices_Index_string_vc s v1 R w) : Calls Tryd.prog 29 #[s.v, .string v1] w fun e w' => ∃ v, e = .returned v ∧ R v w' :=
  fn_by (an := .s .o (.s (.s .o (.j [0, 1, 7] [.s 8 (.int .i64)] (.s .o (.s (.s .o .o) (.s (.s .o (.s .o (.s (.s .o .o) .o))) .o))) .o)) (.s .o .o))) (args := [.sl s, .str v1]) Tryd.checked.mixed (by kernel_rfl) (by kernel_rfl) h
def scan_one_vc (c : Int) (of_ : Sl) (R : Value → World → Prop) (w : World) : Prop :=
  Calls Tryd.prog 41 #[of_.v, .int .u8 c] w fun e0 w0 => ∃ b0 : Bool, e0 = (.returned (.bool b0)) ∧
   R (.bool b0) w0
theorem scan_one_wp (c : Int) (of_ : Sl) (R : Value → World → Prop) (w : World) (h : scan_one_vc c of_ R w) : Calls Tryd.prog 30 #[.int .u8 c, of_.v] w fun e w' => ∃ v, e = .returned v ∧ R v w' :=
  fn_by (an := .s .o (.s .o .o)) (args := [.int .u8 c, .sl of_]) Tryd.checked.mixed (by kernel_rfl) (by kernel_rfl) h
def strings_HasPrefix_vc (s : ByteArray) (prefix_ : ByteArray) (R : Value → World → Prop) (w : World) : Prop :=
  Calls Tryd.prog 42 #[.string s, .string prefix_] w fun e0 w0 => ∃ b0 : Bool, e0 = (.returned (.bool b0)) ∧
   R (.bool b0) w0
theorem strings_HasPrefix_wp (s : ByteArray) (prefix_ : ByteArray) (R : Value → World → Prop) (w : World) (h : strings_HasPrefix_vc s prefix_ R w) : Calls Tryd.prog 31 #[.string s, .string prefix_] w fun e w' => ∃ v, e = .returned v ∧ R v w' :=
  fn_by (an := .s .o (.s .o .o)) (args := [.str s, .str prefix_]) Tryd.checked.mixed (by kernel_rfl) (by kernel_rfl) h
def scan_cursor_rest_vc (c : Addr) (R : Value → World → Prop) (w : World) : Prop :=
  ∃ s0 : ByteArray, Cells w (c.add 0) [.string s0] ∧
  ∃ i0 : Int, Cells w (c.add 1) [.int .i64 i0] ∧
  ∃ k0 : Nat, (i0 = (k0 : Int) ∧
   k0 ≤ s0.size) ∧
  ∀ w0 : World, Only [] w w0 → R (.string (s0.extract k0 s0.size)) w0
theorem scan_cursor_rest_wp (c : Addr) (R : Value → World → Prop) (w : World) (h : scan_cursor_rest_vc c R w) : Calls Tryd.prog 32 #[.pointer (some c)] w fun e w' => ∃ v, e = .returned v ∧ R v w' :=
  fn_by (an := .s .o (.s .o .o)) (args := [.ad c]) Tryd.checked.mixed (by kernel_rfl) (by kernel_rfl) h
def strings_Cut_vc (s : ByteArray) (sep : ByteArray) (R : Value → World → Prop) (w : World) : Prop :=
  Calls Tryd.prog 43 #[.string s, .string sep] w fun e0 w0 => ∃ s0 : ByteArray, ∃ s1 : ByteArray, ∃ b0 : Bool, e0 = (.returned (.tuple #[.string s0, .string s1, .bool b0])) ∧
   R (.tuple #[.string s0, .string s1, .bool b0]) w0
theorem strings_Cut_wp (s : ByteArray) (sep : ByteArray) (R : Value → World → Prop) (w : World) (h : strings_Cut_vc s sep R w) : Calls Tryd.prog 33 #[.string s, .string sep] w fun e w' => ∃ v, e = .returned v ∧ R v w' :=
  fn_by (an := .s .o (.s .o .o)) (args := [.str s, .str sep]) Tryd.checked.mixed (by kernel_rfl) (by kernel_rfl) h
def scan_letter_vc (c : Int) (R : Value → World → Prop) (w : World) : Prop :=
  R (.bool (((decide (97 ≤ (bits .or .u8 c 32))) && (decide ((bits .or .u8 c 32) ≤ 122))) || (c == 95))) w
theorem scan_letter_wp (c : Int) (R : Value → World → Prop) (w : World) (h : scan_letter_vc c R w) : Calls Tryd.prog 34 #[.int .u8 c] w fun e w' => ∃ v, e = .returned v ∧ R v w' :=
  fn_by (an := .s .o (.s .o .o)) (args := [.int .u8 c]) Tryd.checked.mixed (by kernel_rfl) (by kernel_rfl) h
def scan_cutter_word_vc (c : Addr) (R : Value → World → Prop) (w : World) : Prop :=
  Calls Tryd.prog 44 #[.pointer (some (c.add 0))] w fun e0 w0 => ∃ s0 : ByteArray, e0 = (.returned (.string s0)) ∧
   ((decide ((s0.size : Int) > 24)) = true → R (.int .i64 2) w0) ∧
   ((decide ((s0.size : Int) > 24)) = false → ∃ J0 : Int → World → Prop, (∀ i0 : Int, ∀ w1 : World, J0 i0 w1 → Calls Tryd.prog 45 #[.string s0] w1 fun e1 w2 => ∃ s1 : ByteArray, e1 = (.returned (.string s1)) ∧
     Calls Tryd.prog 23 #[.pointer (some c), .agg #[.int .i64 i0, .string s1, .int .i64 0, .int .i64 0], .int .i64 (s0.size : Int)] w2 fun e2 w3 => e2 = (.returned (.tuple #[])) ∧
      R (.int .i64 0) w3) ∧
   ∃ l0 : Sl, Cells w0 (c.add 2) [l0.v] ∧
   Calls Tryd.prog 17 #[l0.v, .string s0] w0 fun e3 w4 => ∃ b0 : Bool, e3 = (.returned (.bool b0)) ∧
    (b0 = true → J0 2 w4) ∧
    (b0 = false → J0 1 w4))
theorem scan_cutter_word_wp (c : Addr) (R : Value → World → Prop) (w : World) (h : scan_cutter_word_vc c R w) : Calls Tryd.prog 35 #[.pointer (some c)] w fun e w' => ∃ v, e = .returned v ∧ R v w' :=
  fn_by (an := .s .o (.s .o (.s (.s .o (.s (.s .o .o) .o)) (.s .o (.j [0, 3] [.s 4 (.int .i64)] (.s .o (.s .o .o)) (.s .o (.s .o .o))))))) (args := [.ad c]) Tryd.checked.mixed (by kernel_rfl) (by kernel_rfl) h
def scan_digit_vc (c : Int) (R : Value → World → Prop) (w : World) : Prop :=
  R (.bool ((decide (48 ≤ c)) && (decide (c ≤ 57)))) w
theorem scan_digit_wp (c : Int) (R : Value → World → Prop) (w : World) (h : scan_digit_vc c R w) : Calls Tryd.prog 36 #[.int .u8 c] w fun e w' => ∃ v, e = .returned v ∧ R v w' :=
  fn_by (an := .s .o (.s .o .o)) (args := [.int .u8 c]) Tryd.checked.mixed (by kernel_rfl) (by kernel_rfl) h
def scan_cutter_number_vc (c : Addr) (R : Value → World → Prop) (w : World) : Prop :=
  Calls Tryd.prog 32 #[.pointer (some (c.add 0))] w fun e0 w0 => ∃ s0 : ByteArray, e0 = (.returned (.string s0)) ∧
   Calls Tryd.prog 46 #[.string s0] w0 fun e1 w1 => ∃ i0 : Int, ∃ i1 : Int, ∃ i2 : Int, e1 = (.returned (.tuple #[.int .i64 i0, .int .i64 i1, .int .i64 i2])) ∧
    ((i2 != 0) = true → R (.int .i64 i2) w1) ∧
    ((i2 != 0) = false → Calls Tryd.prog 44 #[.pointer (some (c.add 0))] w1 fun e2 w2 => ∃ s1 : ByteArray, e2 = (.returned (.string s1)) ∧
     ((decide ((s1.size : Int) > i1)) = true → R (.int .i64 4) w2) ∧
     ((decide ((s1.size : Int) > i1)) = false → Calls Tryd.prog 23 #[.pointer (some c), .agg #[.int .i64 3, .string (ByteArray.mk #[]), .int .i64 i0, .int .i64 0], .int .i64 i1] w2 fun e3 w3 => e3 = (.returned (.tuple #[])) ∧
      R (.int .i64 0) w3))
theorem scan_cutter_number_wp (c : Addr) (R : Value → World → Prop) (w : World) (h : scan_cutter_number_vc c R w) : Calls Tryd.prog 37 #[.pointer (some c)] w fun e w' => ∃ v, e = .returned v ∧ R v w' :=
  fn_by (an := .s .o (.s .o (.s (.s .o (.s (.s .o .o) .o)) (.s (.s .o (.s (.s .o .o) .o)) (.s .o (.s .o .o)))))) (args := [.ad c]) Tryd.checked.mixed (by kernel_rfl) (by kernel_rfl) h
def scan_cutter_sign_vc (c : Addr) (R : Value → World → Prop) (w : World) : Prop :=
  Calls Tryd.prog 32 #[.pointer (some (c.add 0))] w fun e0 w0 => ∃ s0 : ByteArray, e0 = (.returned (.string s0)) ∧
   ∃ J0 : Int → World → Prop, (∀ i0 : Int, ∀ w1 : World, J0 i0 w1 → ∃ J1 : Int → World → Prop, (∀ i1 : Int, ∀ w2 : World, J1 i1 w2 → ((i1 == 0) = true → R (.int .i64 4) w2) ∧
     ((i1 == 0) = false → ∃ k0 : Nat, (i1 = (k0 : Int) ∧
      k0 ≤ s0.size) ∧
     Calls Tryd.prog 45 #[.string (s0.extract 0 k0)] w2 fun e1 w3 => ∃ s1 : ByteArray, e1 = (.returned (.string s1)) ∧
      Calls Tryd.prog 23 #[.pointer (some c), .agg #[.int .i64 4, .string s1, .int .i64 0, .int .i64 0], .int .i64 i1] w3 fun e2 w4 => e2 = (.returned (.tuple #[])) ∧
       R (.int .i64 0) w4)) ∧
    ∃ J2 : Bool → World → Prop, (∀ b0 : Bool, ∀ w5 : World, J2 b0 w5 → (b0 = true → J1 2 w5) ∧
     (b0 = false → J1 i0 w5)) ∧
    ((decide ((s0.size : Int) > 1)) = true → ∃ c0 : UInt8, ((0 : Int) ≤ 1 ∧
      s0[1]? = (some c0)) ∧
     (((UInt8.toNat c0 : Int) == 61) = true → ∃ c1 : UInt8, ((0 : Int) ≤ 0 ∧
       s0[0]? = (some c1)) ∧
      ∀ w6 : World, Only [] w1 w6 → ∃ l0 : Sl, ∃ w7 : World, ((Instr.buildSlice 83 4 #[.mk 0 (.int .u8 60), .mk 1 (.int .u8 62), .mk 2 (.int .u8 61), .mk 3 (.int .u8 33)]).run Tryd.prog w6) = (.ok l0.v w7) ∧
      Calls Tryd.prog 30 #[.int .u8 (UInt8.toNat c1 : Int), l0.v] w7 fun e3 w8 => ∃ b1 : Bool, e3 = (.returned (.bool b1)) ∧
       (b1 = true → J2 true w8) ∧
       (b1 = false → ∃ c2 : UInt8, ((0 : Int) ≤ 1 ∧
        s0[1]? = (some c2)) ∧
       ∃ c3 : UInt8, ((0 : Int) ≤ 0 ∧
        s0[0]? = (some c3)) ∧
       (((UInt8.toNat c2 : Int) == (UInt8.toNat c3 : Int)) = true → ∃ c4 : UInt8, ((0 : Int) ≤ 0 ∧
         s0[0]? = (some c4)) ∧
        ∃ l1 : Sl, ∃ w9 : World, ((Instr.buildSlice 83 2 #[.mk 0 (.int .u8 38), .mk 1 (.int .u8 124)]).run Tryd.prog w8) = (.ok l1.v w9) ∧
        Calls Tryd.prog 30 #[.int .u8 (UInt8.toNat c4 : Int), l1.v] w9 fun e4 w10 => ∃ b2 : Bool, e4 = (.returned (.bool b2)) ∧
         (b2 = true → J2 true w10) ∧
         (b2 = false → 2 ≤ s0.size ∧
         J2 (((s0.extract 0 2).toList) == ((ByteArray.mk #[45, 62]).toList)) w10)) ∧
       (((UInt8.toNat c2 : Int) == (UInt8.toNat c3 : Int)) = false → 2 ≤ s0.size ∧
       J2 (((s0.extract 0 2).toList) == ((ByteArray.mk #[45, 62]).toList)) w8))) ∧
     (((UInt8.toNat c0 : Int) == 61) = false → ∃ c5 : UInt8, ((0 : Int) ≤ 1 ∧
      s0[1]? = (some c5)) ∧
     ∃ c6 : UInt8, ((0 : Int) ≤ 0 ∧
      s0[0]? = (some c6)) ∧
     (((UInt8.toNat c5 : Int) == (UInt8.toNat c6 : Int)) = true → ∃ c7 : UInt8, ((0 : Int) ≤ 0 ∧
       s0[0]? = (some c7)) ∧
      ∀ w11 : World, Only [] w1 w11 → ∃ l2 : Sl, ∃ w12 : World, ((Instr.buildSlice 83 2 #[.mk 0 (.int .u8 38), .mk 1 (.int .u8 124)]).run Tryd.prog w11) = (.ok l2.v w12) ∧
      Calls Tryd.prog 30 #[.int .u8 (UInt8.toNat c7 : Int), l2.v] w12 fun e5 w13 => ∃ b3 : Bool, e5 = (.returned (.bool b3)) ∧
       (b3 = true → J2 true w13) ∧
       (b3 = false → 2 ≤ s0.size ∧
       J2 (((s0.extract 0 2).toList) == ((ByteArray.mk #[45, 62]).toList)) w13)) ∧
     (((UInt8.toNat c5 : Int) == (UInt8.toNat c6 : Int)) = false → 2 ≤ s0.size ∧
     ∀ w14 : World, Only [] w1 w14 → J2 (((s0.extract 0 2).toList) == ((ByteArray.mk #[45, 62]).toList)) w14))) ∧
    ((decide ((s0.size : Int) > 1)) = false → ∀ w15 : World, Only [] w1 w15 → J2 false w15)) ∧
   ∃ c8 : UInt8, ((0 : Int) ≤ 0 ∧
    s0[0]? = (some c8)) ∧
   ∃ l3 : Sl, ∃ w16 : World, ((Instr.buildSlice 83 17 #[.mk 0 (.int .u8 123), .mk 1 (.int .u8 125), .mk 2 (.int .u8 40), .mk 3 (.int .u8 41), .mk 4 (.int .u8 91), .mk 5 (.int .u8 93), .mk 6 (.int .u8 59), .mk 7 (.int .u8 44), .mk 8 (.int .u8 61), .mk 9 (.int .u8 43), .mk 10 (.int .u8 45), .mk 11 (.int .u8 42), .mk 12 (.int .u8 47), .mk 13 (.int .u8 37), .mk 14 (.int .u8 60), .mk 15 (.int .u8 62), .mk 16 (.int .u8 33)]).run Tryd.prog w0) = (.ok l3.v w16) ∧
   ∃ l4 : Sl, ∃ w17 : World, ((convert 83 83 l3.v).run Tryd.prog w16) = (.ok l4.v w17) ∧
   Calls Tryd.prog 30 #[.int .u8 (UInt8.toNat c8 : Int), l4.v] w17 fun e6 w18 => ∃ b4 : Bool, e6 = (.returned (.bool b4)) ∧
    (b4 = true → J0 1 w18) ∧
    (b4 = false → J0 0 w18)
theorem scan_cutter_sign_wp (c : Addr) (R : Value → World → Prop) (w : World) (h : scan_cutter_sign_vc c R w) : Calls Tryd.prog 38 #[.pointer (some c)] w fun e w' => ∃ v, e = .returned v ∧ R v w' :=
  fn_by (an := .s .o (.s .o (.s .o (.j [0, 3] [.s 4 (.int .i64)] (.s .o (.s .o .o)) (.j [0, 3] [.s 4 (.int .i64)] (.s (.j [0, 3, 4] [.s 45 .bool] .o .o) (.s .o .o)) (.s (.s .o (.s (.s .o .o) .o)) (.s .o (.s .o .o)))))))) (args := [.ad c]) Tryd.checked.mixed (by kernel_rfl) (by kernel_rfl) h
def expr_reader_one_vc (r : Addr) (R : Value → World → Prop) (w : World) : Prop :=
  ∀ k0 : Nat, ∀ k1 : Nat, ∀ w0 : World, w.heap.size ≤ k0 → k0 < w0.heap.size → w.heap.size ≤ k1 → k1 < w0.heap.size → Only [] w w0 → Calls Tryd.prog 47 #[.pointer (some (r.add 0))] w0 fun e0 w1 => ∃ i0 : Int, ∃ s0 : ByteArray, ∃ i1 : Int, ∃ i2 : Int, e0 = (.returned (.agg #[.int .i64 i0, .string s0, .int .i64 i1, .int .i64 i2])) ∧
   Same [k0, k1] w0 w1 ∧
   ∀ k2 : Nat, ∀ k3 : Nat, ∀ w2 : World, w1.heap.size ≤ k2 → k2 < w2.heap.size → w1.heap.size ≤ k3 → k3 < w2.heap.size → Only [] w1 w2 → ∃ J0 : Option Addr → Int → Int → ByteArray → Int → Sl → Int → Int → Int → ByteArray → Int → Sl → Int → World → Prop, (∀ q0 : Option Addr, ∀ i3 : Int, ∀ i4 : Int, ∀ s1 : ByteArray, ∀ i5 : Int, ∀ l0 : Sl, ∀ i6 : Int, ∀ i7 : Int, ∀ i8 : Int, ∀ s2 : ByteArray, ∀ i9 : Int, ∀ l1 : Sl, ∀ i10 : Int, ∀ w3 : World, J0 q0 i3 i4 s1 i5 l0 i6 i7 i8 s2 i9 l1 i10 w3 → ∃ p0 : Addr, q0 = (some p0) ∧
    ∃ i11 : Int, Cells w3 ((p0.add 0).add 1) [.int .i64 i11] ∧
    ∃ p1 : Addr, q0 = (some p1) ∧
    ∃ k4 : Nat, ∃ k5 : Nat, ∃ z0 : List Value, ∃ k6 : Nat, ((p1.add 0).add 1) = ⟨k4, k5, none⟩ ∧
    Blk w3 k4 k6 z0 ∧
    (k5 + 1) ≤ z0.length ∧
    k0 ≠ k4 ∧
    k1 ≠ k4 ∧
    k2 ≠ k4 ∧
    k3 ≠ k4 ∧
    ∀ w4 : World, Only [k4] w3 w4 → Blk w4 k4 k6 (splice z0 k5 [.int .i64 (IntKind.wrap .i64 (i11 + 1))]) → ∀ w5 : World, Only [k1] w4 w5 → R (.agg #[.int .i64 i7, .int .i64 i8, .string s2, .int .i64 i9, l1.v, .int .i64 i10]) w5) ∧
   Calls Tryd.prog 28 #[.pointer (some (r.add 0))] w2 fun e1 w6 => ∃ b0 : Bool, e1 = (.returned (.bool b0)) ∧
    Same [k0, k1, k2, k3] w2 w6 ∧
    (b0 = true → ∀ w7 : World, Only [k1] w6 w7 → R (.agg #[.int .i64 0, .int .i64 0, .string (ByteArray.mk #[]), .int .i64 0, Sl.nil.v, .int .i64 i2]) w7) ∧
    (b0 = false → ∃ l2 : Sl, ∃ w8 : World, ((Instr.buildSlice 29 2 #[.mk 0 (.string (ByteArray.mk #[45])), .mk 1 (.string (ByteArray.mk #[33]))]).run Tryd.prog w6) = (.ok l2.v w8) ∧
    Same [k0, k1, k2, k3] w6 w8 ∧
    Calls Tryd.prog 48 #[.pointer (some (r.add 0)), l2.v] w8 fun e2 w9 => ∃ b1 : Bool, e2 = (.returned (.bool b1)) ∧
     Same [k0, k1, k2, k3] w8 w9 ∧
     (b1 = true → ∀ w10 : World, Only [k3] w9 w10 → ∃ J1 : Int → Int → ByteArray → Int → Sl → Int → World → Prop, (∀ i12 : Int, ∀ i13 : Int, ∀ s3 : ByteArray, ∀ i14 : Int, ∀ l3 : Sl, ∀ i15 : Int, ∀ w11 : World, J1 i12 i13 s3 i14 l3 i15 w11 → Calls Tryd.prog 49 #[.pointer (some r), .func (.func 39) #[.pointer (some r)] #[]] w11 fun e3 w12 => ∃ i16 : Int, ∃ i17 : Int, ∃ s4 : ByteArray, ∃ i18 : Int, ∃ l4 : Sl, ∃ i19 : Int, e3 = (.returned (.agg #[.int .i64 i16, .int .i64 i17, .string s4, .int .i64 i18, l4.v, .int .i64 i19])) ∧
        Same [k0, k1, k2, k3] w11 w12 ∧
        ∃ l5 : Sl, ∃ w13 : World, ((Instr.buildSlice 23 1 #[.mk 0 (.agg #[.int .i64 i16, .int .i64 i17, .string s4, .int .i64 i18, l4.v, .int .i64 i19])]).run Tryd.prog w12) = (.ok l5.v w13) ∧
        Same [k0, k1, k2, k3] w12 w13 ∧
        ∀ w14 : World, Only [k1, k3] w13 w14 → R (.agg #[.int .i64 i12, .int .i64 i13, .string s3, .int .i64 i14, l5.v, .int .i64 i15]) w14) ∧
      ((s0.toList == ((ByteArray.mk #[33]).toList)) = true → ∀ w15 : World, Only [k3] w10 w15 → J1 4 0 (ByteArray.mk #[]) 15 Sl.nil i2 w15) ∧
      ((s0.toList == ((ByteArray.mk #[33]).toList)) = false → J1 4 0 (ByteArray.mk #[]) 14 Sl.nil i2 w10)) ∧
     (b1 = false → ∃ l6 : Sl, ∃ w16 : World, ((Instr.buildSlice 29 1 #[.mk 0 (.string (ByteArray.mk #[40]))]).run Tryd.prog w9) = (.ok l6.v w16) ∧
     Same [k0, k1, k2, k3] w9 w16 ∧
     Calls Tryd.prog 48 #[.pointer (some (r.add 0)), l6.v] w16 fun e4 w17 => ∃ b2 : Bool, e4 = (.returned (.bool b2)) ∧
      Same [k0, k1, k2, k3] w16 w17 ∧
      (b2 = true → Blk w17 k0 67 [.pointer (some r)] → Calls Tryd.prog 49 #[.pointer (some r), .func (.func 50) #[] #[.pointer (some ⟨k0, 0, none⟩)]] w17 fun e5 w18 => ∃ i20 : Int, ∃ i21 : Int, ∃ s5 : ByteArray, ∃ i22 : Int, ∃ l7 : Sl, ∃ i23 : Int, e5 = (.returned (.agg #[.int .i64 i20, .int .i64 i21, .string s5, .int .i64 i22, l7.v, .int .i64 i23])) ∧
        Same [k1, k2, k3] w17 w18 ∧
        ∃ q1 : Option Addr, Blk w18 k0 67 [.pointer q1] ∧
        ∀ w19 : World, Only [k1] w18 w19 → Blk w19 k0 67 [.pointer q1] → R (.agg #[.int .i64 i20, .int .i64 i21, .string s5, .int .i64 i22, l7.v, .int .i64 i23]) w19) ∧
      (b2 = false → ((i0 == 3) = true → ∀ w20 : World, Only [] w17 w20 → k0 ≠ k1 → k0 ≠ k2 → k0 ≠ k3 → k1 ≠ k2 → k1 ≠ k3 → k2 ≠ k3 → ∃ J2 : Nat → Prop, J2 k2 ∧
       Out J2 k3 ∧
       Out J2 k3 ∧
       ∀ w21 : World, Only [k3] w20 w21 → J0 (some r) 0 0 (ByteArray.mk #[]) 0 Sl.nil 0 1 i1 (ByteArray.mk #[]) 0 Sl.nil i2 w21) ∧
      ((i0 == 3) = false → ((i0 == 1) = true → ∀ w22 : World, Only [] w17 w22 → k0 ≠ k1 → k0 ≠ k2 → k0 ≠ k3 → k1 ≠ k2 → k1 ≠ k3 → k2 ≠ k3 → ∃ J3 : Nat → Prop, J3 k2 ∧
       Out J3 k3 ∧
       Out J3 k3 ∧
       ∀ w23 : World, Only [k3] w22 w23 → J0 (some r) 0 0 (ByteArray.mk #[]) 0 Sl.nil 0 2 0 s0 0 Sl.nil i2 w23) ∧
      ((i0 == 1) = false → (((i0 == 2) && (s0.toList == ((ByteArray.mk #[105, 110]).toList))) = true → ∃ i24 : Int, Cells w17 ((r.add 0).add 1) [.int .i64 i24] ∧
       ∃ k7 : Nat, ∃ k8 : Nat, ∃ z1 : List Value, ∃ k9 : Nat, ((r.add 0).add 1) = ⟨k7, k8, none⟩ ∧
       Blk w17 k7 k9 z1 ∧
       (k8 + 1) ≤ z1.length ∧
       k0 ≠ k7 ∧
       k1 ≠ k7 ∧
       k2 ≠ k7 ∧
       k3 ≠ k7 ∧
       ∀ w24 : World, Only [k7] w17 w24 → Blk w24 k7 k9 (splice z1 k8 [.int .i64 (IntKind.wrap .i64 (i24 + 1))]) → Calls Tryd.prog 51 #[.pointer (some (r.add 0)), .string (ByteArray.mk #[40])] w24 fun e6 w25 => e6 = (.returned (.tuple #[])) ∧
        Same [k0, k1, k2, k3] w24 w25 ∧
        Calls Tryd.prog 52 #[.pointer (some r)] w25 fun e7 w26 => ∃ s6 : ByteArray, e7 = (.returned (.string s6)) ∧
         Same [k0, k1, k2, k3] w25 w26 ∧
         ∀ w27 : World, Only [k3] w26 w27 → Calls Tryd.prog 51 #[.pointer (some (r.add 0)), .string (ByteArray.mk #[41])] w27 fun e8 w28 => e8 = (.returned (.tuple #[])) ∧
          Same [k0, k1, k2, k3] w27 w28 ∧
          ∀ w29 : World, Only [k1] w28 w29 → R (.agg #[.int .i64 3, .int .i64 0, .string s6, .int .i64 0, Sl.nil.v, .int .i64 i2]) w29) ∧
      (((i0 == 2) && (s0.toList == ((ByteArray.mk #[105, 110]).toList))) = false → Calls Tryd.prog 53 #[.pointer (some (r.add 0))] w17 fun e9 w30 => e9 = (.returned (.tuple #[])) ∧
       Same [k0, k1, k2, k3] w17 w30 ∧
       ∀ w31 : World, Only [k1] w30 w31 → R (.agg #[.int .i64 0, .int .i64 0, .string (ByteArray.mk #[]), .int .i64 0, Sl.nil.v, .int .i64 i2]) w31))))))
theorem expr_reader_one_wp (r : Addr) (R : Value → World → Prop) (w : World) (h : expr_reader_one_vc r R w) : Calls Tryd.prog 39 #[.pointer (some r)] w fun e w' => ∃ v, e = .returned v ∧ R v w' :=
  fn_by (an := .s .o (.s .o (.s .o (.j [1, 2, 3, 4] [.b 1 [.ptr], .b 2 [.int .i64, .int .i64, .str, .int .i64, .sl, .int .i64], .b 4 [.int .i64, .int .i64, .str, .int .i64, .sl, .int .i64]] (.s .o (.s (.s .o .o) (.s .o (.s (.s .o (.j [1, 2, 3, 4] [.b 4 [.int .i64, .int .i64, .str, .int .i64, .sl, .int .i64]] (.s .o (.s .o .o)) (.s .o (.s .o .o)))) (.s .o (.s (.s .o .o) (.s .o (.s .o (.s .o (.s .o (.s .o (.s (.s .o (.s .o (.s .o (.s .o (.s .o .o))))) (.s .o (.s .o .o)))))))))))))) (.s .o (.s .o .o)))))) (args := [.ad r]) Tryd.checked.mixed (by kernel_rfl) (by kernel_rfl) h
def expr_reader_operator_vc (r : Addr) (k : Int) (R : Value → World → Prop) (w : World) : Prop :=
  ∃ J0 : Nat → Int → World → Prop, ∃ k0 : Nat, J0 k0 1 w ∧
  ∀ k1 : Nat, ∀ i0 : Int, ∀ w0 : World, J0 k1 i0 w0 → ((decide (i0 ≤ 13)) = true → ∃ J1 : Bool → World → Prop, (∀ b0 : Bool, ∀ w1 : World, J1 b0 w1 → (b0 = true → R (.int .i64 i0) w1) ∧
    (b0 = false → ∃ k2 : Nat, k2 < k1 ∧
    J0 k2 (IntKind.wrap .i64 (i0 + 1)) w1)) ∧
   ∀ w2 : World, Only [] w0 w2 → Calls Tryd.prog 54 #[.int .i64 i0] w2 fun e0 w3 => ∃ i1 : Int, e0 = (.returned (.int .i64 i1)) ∧
    ((i1 == k) = true → ∃ l0 : Sl, Cells w3 (r.add 5) [l0.v] ∧
     ∃ p0 : Addr, SlAt l0 i0 1 p0 ∧
     ∃ s0 : ByteArray, Cells w3 p0 [.string s0] ∧
     ∃ l1 : Sl, ∃ w4 : World, ((Instr.buildSlice 29 1 #[.mk 0 (.string s0)]).run Tryd.prog w3) = (.ok l1.v w4) ∧
     Calls Tryd.prog 48 #[.pointer (some (r.add 0)), l1.v] w4 fun e1 w5 => ∃ b1 : Bool, e1 = (.returned (.bool b1)) ∧
      J1 b1 w5) ∧
    ((i1 == k) = false → J1 false w3)) ∧
  ((decide (i0 ≤ 13)) = false → R (.int .i64 0) w0)
theorem expr_reader_operator_wp (r : Addr) (k : Int) (R : Value → World → Prop) (w : World) (h : expr_reader_operator_vc r k R w) : Calls Tryd.prog 40 #[.pointer (some r), .int .i64 k] w fun e w' => ∃ v, e = .returned v ∧ R v w' :=
  fn_by (an := .s .o (.s (.s .o (.j [0, 1] [.s 5 (.int .i64)] (.s (.s .o (.s .o .o)) (.s (.s (.j [0, 1, 5] [.s 27 .bool] .o .o) (.s (.s .o .o) .o)) .o)) .o)) (.s .o .o))) (args := [.ad r, .int .i64 k]) Tryd.checked.mixed (by kernel_rfl) (by kernel_rfl) h
def slices_Contains_byte_vc (s : Sl) (v1 : Int) (R : Value → World → Prop) (w : World) : Prop :=
  Calls Tryd.prog 55 #[s.v, .int .u8 v1] w fun e0 w0 => ∃ i0 : Int, e0 = (.returned (.int .i64 i0)) ∧
   R (.bool (decide (i0 ≥ 0))) w0
theorem slices_Contains_byte_wp (s : Sl) (v1 : Int) (R : Value → World → Prop) (w : World) (h : slices_Contains_byte_vc s v1 R w) : Calls Tryd.prog 41 #[s.v, .int .u8 v1] w fun e w' => ∃ v, e = .returned v ∧ R v w' :=
  fn_by (an := .s .o (.s .o .o)) (args := [.sl s, .int .u8 v1]) Tryd.checked.mixed (by kernel_rfl) (by kernel_rfl) h
def internal_stringslite_HasPrefix_vc (s : ByteArray) (prefix_ : ByteArray) (R : Value → World → Prop) (w : World) : Prop :=
  ∃ k0 : Nat, ((decide ((s.size : Int) ≥ (prefix_.size : Int))) = true → (prefix_.size : Int) = (k0 : Int) ∧
   k0 ≤ s.size) ∧
  R (.bool ((decide ((s.size : Int) ≥ (prefix_.size : Int))) && (((s.extract 0 k0).toList) == prefix_.toList))) w
theorem internal_stringslite_HasPrefix_wp (s : ByteArray) (prefix_ : ByteArray) (R : Value → World → Prop) (w : World) (h : internal_stringslite_HasPrefix_vc s prefix_ R w) : Calls Tryd.prog 42 #[.string s, .string prefix_] w fun e w' => ∃ v, e = .returned v ∧ R v w' :=
  fn_by (an := .s .o (.s .o .o)) (args := [.str s, .str prefix_]) Tryd.checked.mixed (by kernel_rfl) (by kernel_rfl) h
def internal_stringslite_Cut_vc (s : ByteArray) (sep : ByteArray) (R : Value → World → Prop) (w : World) : Prop :=
  Calls Tryd.prog 56 #[.string s, .string sep] w fun e0 w0 => ∃ i0 : Int, e0 = (.returned (.int .i64 i0)) ∧
   ((decide (i0 ≥ 0)) = true → ∃ k0 : Nat, (i0 = (k0 : Int) ∧
     k0 ≤ s.size) ∧
    ∃ k1 : Nat, ((IntKind.wrap .i64 (i0 + (sep.size : Int))) = (k1 : Int) ∧
     k1 ≤ s.size) ∧
    ∀ w1 : World, Only [] w0 w1 → R (.tuple #[.string (s.extract 0 k0), .string (s.extract k1 s.size), .bool true]) w1) ∧
   ((decide (i0 ≥ 0)) = false → R (.tuple #[.string s, .string (ByteArray.mk #[]), .bool false]) w0)
theorem internal_stringslite_Cut_wp (s : ByteArray) (sep : ByteArray) (R : Value → World → Prop) (w : World) (h : internal_stringslite_Cut_vc s sep R w) : Calls Tryd.prog 43 #[.string s, .string sep] w fun e w' => ∃ v, e = .returned v ∧ R v w' :=
  fn_by (an := .s .o (.s (.s .o (.s .o (.s (.s .o .o) .o))) (.s .o .o))) (args := [.str s, .str sep]) Tryd.checked.mixed (by kernel_rfl) (by kernel_rfl) h
def scan_cursor_row_vc (c : Addr) (R : Value → World → Prop) (w : World) : Prop :=
  Calls Tryd.prog 32 #[.pointer (some c)] w fun e0 w0 => ∃ s0 : ByteArray, e0 = (.returned (.string s0)) ∧
   ∃ J0 : Nat → Int → World → Prop, ∃ k0 : Nat, J0 k0 0 w0 ∧
   ∀ k1 : Nat, ∀ i0 : Int, ∀ w1 : World, J0 k1 i0 w1 → ∃ J1 : Bool → World → Prop, (∀ b0 : Bool, ∀ w2 : World, J1 b0 w2 → (b0 = true → ∃ k2 : Nat, k2 < k1 ∧
     J0 k2 (IntKind.wrap .i64 (i0 + 1)) w2) ∧
    (b0 = false → ∃ k3 : Nat, (i0 = (k3 : Int) ∧
     k3 ≤ s0.size) ∧
    R (.string (s0.extract 0 k3)) w2)) ∧
   ((decide (i0 < (s0.size : Int))) = true → ∃ c0 : UInt8, (0 ≤ i0 ∧
     (s0[Int.toNat i0]?) = (some c0)) ∧
    Calls Tryd.prog 34 #[.int .u8 (UInt8.toNat c0 : Int)] w1 fun e1 w3 => ∃ b1 : Bool, e1 = (.returned (.bool b1)) ∧
     (b1 = true → J1 true w3) ∧
     (b1 = false → ∃ c1 : UInt8, (0 ≤ i0 ∧
      (s0[Int.toNat i0]?) = (some c1)) ∧
     Calls Tryd.prog 36 #[.int .u8 (UInt8.toNat c1 : Int)] w3 fun e2 w4 => ∃ b2 : Bool, e2 = (.returned (.bool b2)) ∧
      J1 b2 w4)) ∧
   ((decide (i0 < (s0.size : Int))) = false → J1 false w1)
theorem scan_cursor_row_wp (c : Addr) (R : Value → World → Prop) (w : World) (h : scan_cursor_row_vc c R w) : Calls Tryd.prog 44 #[.pointer (some c)] w fun e w' => ∃ v, e = .returned v ∧ R v w' :=
  fn_by (an := .s .o (.s .o (.s .o (.s (.j [3] [.s 4 (.int .i64)] (.s (.s (.j [3, 4] [.s 22 .bool] .o .o) (.s .o .o)) .o) .o) (.s .o .o))))) (args := [.ad c]) Tryd.checked.mixed (by kernel_rfl) (by kernel_rfl) h
def strings_Clone_vc (s : ByteArray) (R : Value → World → Prop) (w : World) : Prop :=
  Calls Tryd.prog 57 #[.string s] w fun e0 w0 => ∃ s0 : ByteArray, e0 = (.returned (.string s0)) ∧
   R (.string s0) w0
theorem strings_Clone_wp (s : ByteArray) (R : Value → World → Prop) (w : World) (h : strings_Clone_vc s R w) : Calls Tryd.prog 45 #[.string s] w fun e w' => ∃ v, e = .returned v ∧ R v w' :=
  fn_by (an := .s .o (.s .o .o)) (args := [.str s]) Tryd.checked.mixed (by kernel_rfl) (by kernel_rfl) h
def calc_Parse_vc (s : ByteArray) (R : Value → World → Prop) (w : World) : Prop :=
  ∃ J0 : Nat → Int → World → Prop, ∃ k0 : Nat, J0 k0 0 w ∧
  ∀ k1 : Nat, ∀ i0 : Int, ∀ w0 : World, J0 k1 i0 w0 → ∃ J1 : Bool → World → Prop, (∀ b0 : Bool, ∀ w1 : World, J1 b0 w1 → (b0 = true → ∃ k2 : Nat, k2 < k1 ∧
    J0 k2 (IntKind.wrap .i64 (i0 + 1)) w1) ∧
   (b0 = false → ((s.toList == ((ByteArray.mk #[]).toList)) = true → R (.tuple #[.int .i64 0, .int .i64 0, .int .i64 3]) w1) ∧
   ((s.toList == ((ByteArray.mk #[]).toList)) = false → ∃ J2 : Bool → World → Prop, (∀ b1 : Bool, ∀ w2 : World, J2 b1 w2 → (b1 = true → R (.tuple #[.int .i64 0, .int .i64 0, .int .i64 4]) w2) ∧
    (b1 = false → ∃ k3 : Nat, (i0 = (k3 : Int) ∧
     k3 ≤ s.size) ∧
    Calls Tryd.prog 59 #[.string (s.extract 0 k3), .int .i64 10, .int .i64 64] w2 fun e0 w3 => ∃ i1 : Int, ∃ v0 : OV, e0 = (.returned (.tuple #[.int .i64 i1, v0.v])) ∧
     Ifc v0.v ∧
     ((!(niV v0.v)) = true → R (.tuple #[.int .i64 0, .int .i64 0, .int .i64 20]) w3) ∧
     ((!(niV v0.v)) = false → R (.tuple #[.int .i64 i1, .int .i64 i0, .int .i64 0]) w3))) ∧
   ((i0 == 0) = true → J2 (i0 == 0) w1) ∧
   ((i0 == 0) = false → ∃ c0 : UInt8, ((decide (i0 > 1)) = true → (0 : Int) ≤ 0 ∧
    s[0]? = (some c0)) ∧
   J2 ((decide (i0 > 1)) && ((UInt8.toNat c0 : Int) == 48)) w1)))) ∧
  ((decide (i0 < (s.size : Int))) = true → ∃ c1 : UInt8, (0 ≤ i0 ∧
    (s[Int.toNat i0]?) = (some c1)) ∧
   Calls Tryd.prog 58 #[.int .u8 (UInt8.toNat c1 : Int)] w0 fun e1 w4 => ∃ b2 : Bool, e1 = (.returned (.bool b2)) ∧
    J1 b2 w4) ∧
  ((decide (i0 < (s.size : Int))) = false → J1 false w0)
theorem calc_Parse_wp (s : ByteArray) (R : Value → World → Prop) (w : World) (h : calc_Parse_vc s R w) : Calls Tryd.prog 46 #[.string s] w fun e w' => ∃ v, e = .returned v ∧ R v w' :=
  fn_by (an := .s .o (.s .o (.s (.j [0] [.s 5 (.int .i64)] (.s (.s (.j [0, 5] [.s 17 .bool] .o .o) (.s .o .o)) .o) .o) (.s (.s .o (.s (.s .o .o) (.j [0, 5] [.s 23 .bool] (.s .o (.s .o .o)) (.s (.s .o .o) .o)))) (.s .o (.s (.s .o (.s (.s .o .o) .o)) (.s .o .o))))))) (args := [.str s]) Tryd.checked.mixed (by kernel_rfl) (by kernel_rfl) h
def expr_cursor_now_vc (c : Addr) (R : Value → World → Prop) (w : World) : Prop :=
  ∀ k0 : Nat, ∀ w0 : World, w.heap.size ≤ k0 → k0 < w0.heap.size → Only [] w w0 → ∃ l0 : Sl, Cells w0 (c.add 0) [l0.v] ∧
  ∃ i0 : Int, Cells w0 (c.add 1) [.int .i64 i0] ∧
  ∃ p0 : Addr, SlAt l0 i0 4 p0 ∧
  ∃ i1 : Int, ∃ s0 : ByteArray, ∃ i2 : Int, ∃ i3 : Int, Cells w0 p0 [.int .i64 i1, .string s0, .int .i64 i2, .int .i64 i3] ∧
  ∀ w1 : World, Only [k0] w0 w1 → R (.agg #[.int .i64 i1, .string s0, .int .i64 i2, .int .i64 i3]) w1
theorem expr_cursor_now_wp (c : Addr) (R : Value → World → Prop) (w : World) (h : expr_cursor_now_vc c R w) : Calls Tryd.prog 47 #[.pointer (some c)] w fun e w' => ∃ v, e = .returned v ∧ R v w' :=
  fn_by (an := .s .o (.s .o .o)) (args := [.ad c]) Tryd.checked.mixed (by kernel_rfl) (by kernel_rfl) h
def expr_cursor_is_vc (c : Addr) (signs : Sl) (R : Value → World → Prop) (w : World) : Prop :=
  Calls Tryd.prog 47 #[.pointer (some c)] w fun e0 w0 => ∃ i0 : Int, ∃ s0 : ByteArray, ∃ i1 : Int, ∃ i2 : Int, e0 = (.returned (.agg #[.int .i64 i0, .string s0, .int .i64 i1, .int .i64 i2])) ∧
   ∀ k0 : Nat, ∀ w1 : World, w0.heap.size ≤ k0 → k0 < w1.heap.size → Only [] w0 w1 → ∃ J0 : Bool → World → Prop, (∀ b0 : Bool, ∀ w2 : World, J0 b0 w2 → R (.bool b0) w2) ∧
   Calls Tryd.prog 28 #[.pointer (some c)] w1 fun e1 w3 => ∃ b1 : Bool, e1 = (.returned (.bool b1)) ∧
    Same [k0] w1 w3 ∧
    (((!b1) && (i0 == 4)) = true → Calls Tryd.prog 17 #[signs.v, .string s0] w3 fun e2 w4 => ∃ b2 : Bool, e2 = (.returned (.bool b2)) ∧
      Same [k0] w3 w4 ∧
      J0 b2 w4) ∧
    (((!b1) && (i0 == 4)) = false → J0 false w3)
theorem expr_cursor_is_wp (c : Addr) (signs : Sl) (R : Value → World → Prop) (w : World) (h : expr_cursor_is_vc c signs R w) : Calls Tryd.prog 48 #[.pointer (some c), signs.v] w fun e w' => ∃ v, e = .returned v ∧ R v w' :=
  fn_by (an := .s .o (.s .o (.s (.j [5] [.s 4 .bool] .o .o) .o))) (args := [.ad c, .sl signs]) Tryd.checked.mixed (by kernel_rfl) (by kernel_rfl) h
def expr_reader_within_vc (r : Addr) (read : OV) (R : Value → World → Prop) (w : World) : Prop :=
  ∀ k0 : Nat, ∀ w0 : World, w.heap.size ≤ k0 → k0 < w0.heap.size → Only [] w w0 → ∃ i0 : Int, Cells w0 (r.add 4) [.int .i64 i0] ∧
  ((i0 == 20) = true → Calls Tryd.prog 60 #[.pointer (some (r.add 0)), .int .i64 21] w0 fun e0 w1 => e0 = (.returned (.tuple #[])) ∧
    Same [k0] w0 w1 ∧
    ∀ w2 : World, Only [k0] w1 w2 → R (.agg #[.int .i64 0, .int .i64 0, .string (ByteArray.mk #[]), .int .i64 0, Sl.nil.v, .int .i64 0]) w2) ∧
  ((i0 == 20) = false → ∃ i1 : Int, Cells w0 ((r.add 0).add 1) [.int .i64 i1] ∧
  ∃ k1 : Nat, ∃ k2 : Nat, ∃ z0 : List Value, ∃ k3 : Nat, ((r.add 0).add 1) = ⟨k1, k2, none⟩ ∧
  Blk w0 k1 k3 z0 ∧
  (k2 + 1) ≤ z0.length ∧
  k0 ≠ k1 ∧
  ∀ w3 : World, Only [k1] w0 w3 → Blk w3 k1 k3 (splice z0 k2 [.int .i64 (IntKind.wrap .i64 (i1 + 1))]) → ∃ i2 : Int, Cells w3 (r.add 4) [.int .i64 i2] ∧
  ∃ k4 : Nat, ∃ k5 : Nat, ∃ z1 : List Value, ∃ k6 : Nat, (r.add 4) = ⟨k4, k5, none⟩ ∧
  Blk w3 k4 k6 z1 ∧
  (k5 + 1) ≤ z1.length ∧
  k0 ≠ k4 ∧
  ∀ w4 : World, Only [k4] w3 w4 → Blk w4 k4 k6 (splice z1 k5 [.int .i64 (IntKind.wrap .i64 (i2 + 1))]) → ∃ k7 : Nat, ∃ z2 : List Value, ∃ z3 : List Value, read.v = (.func (.func k7) z2.toArray z3.toArray) ∧
  (∀ x0 : Array Value, ∀ w5 : World, ((callFunc k7 x0).run Tryd.prog w5) = (.ok (.enter k7 x0) w5)) ∧
  Calls Tryd.prog k7 ((cat (cat z2 []) z3).toArray) w4 fun e1 w6 => ∃ i3 : Int, ∃ i4 : Int, ∃ s0 : ByteArray, ∃ i5 : Int, ∃ l0 : Sl, ∃ i6 : Int, e1 = (.returned (.agg #[.int .i64 i3, .int .i64 i4, .string s0, .int .i64 i5, l0.v, .int .i64 i6])) ∧
   Same [k0] w4 w6 ∧
   ∀ k8 : Nat, ∀ w7 : World, w6.heap.size ≤ k8 → k8 < w7.heap.size → Only [] w6 w7 → ∃ i7 : Int, Cells w7 (r.add 4) [.int .i64 i7] ∧
   ∃ k9 : Nat, ∃ k10 : Nat, ∃ z4 : List Value, ∃ k11 : Nat, (r.add 4) = ⟨k9, k10, none⟩ ∧
   Blk w7 k9 k11 z4 ∧
   (k10 + 1) ≤ z4.length ∧
   k0 ≠ k9 ∧
   k8 ≠ k9 ∧
   ∀ w8 : World, Only [k9] w7 w8 → Blk w8 k9 k11 (splice z4 k10 [.int .i64 (IntKind.wrap .i64 (i7 - 1))]) → ∀ w9 : World, Only [k0] w8 w9 → R (.agg #[.int .i64 i3, .int .i64 i4, .string s0, .int .i64 i5, l0.v, .int .i64 i6]) w9)
theorem expr_reader_within_wp (r : Addr) (read : OV) (R : Value → World → Prop) (w : World) (h : expr_reader_within_vc r read R w) : Calls Tryd.prog 49 #[.pointer (some r), read.v] w fun e w' => ∃ v, e = .returned v ∧ R v w' :=
  fn_by (an := .s .o (.s (.s .o (.s (.s .o (.s .o .o)) .o)) (.s .o (.s .o (.s .o (.s .o (.s .o .o))))))) (args := [.ad r, .raw read]) Tryd.checked.mixed (by kernel_rfl) (by kernel_rfl) h
def expr_reader_one_1_vc (ccap0 : Addr) (R : Value → World → Prop) (w : World) : Prop :=
  ∀ k0 : Nat, ∀ w0 : World, w.heap.size ≤ k0 → k0 < w0.heap.size → Only [] w w0 → ∃ q0 : Option Addr, Cells w0 ccap0 [.pointer q0] ∧
  Calls Tryd.prog 27 #[.pointer q0, .int .i64 0] w0 fun e0 w1 => ∃ i0 : Int, ∃ i1 : Int, ∃ s0 : ByteArray, ∃ i2 : Int, ∃ l0 : Sl, ∃ i3 : Int, e0 = (.returned (.agg #[.int .i64 i0, .int .i64 i1, .string s0, .int .i64 i2, l0.v, .int .i64 i3])) ∧
   Same [k0] w0 w1 ∧
   ∀ k1 : Nat, ∀ w2 : World, w1.heap.size ≤ k1 → k1 < w2.heap.size → Only [] w1 w2 → ∃ q1 : Option Addr, Cells w2 ccap0 [.pointer q1] ∧
   ∃ p0 : Addr, q1 = (some p0) ∧
   Calls Tryd.prog 51 #[.pointer (some (p0.add 0)), .string (ByteArray.mk #[41])] w2 fun e1 w3 => e1 = (.returned (.tuple #[])) ∧
    Same [k0, k1] w2 w3 ∧
    ∀ w4 : World, Only [k0] w3 w4 → R (.agg #[.int .i64 i0, .int .i64 i1, .string s0, .int .i64 i2, l0.v, .int .i64 i3]) w4
theorem expr_reader_one_1_wp (ccap0 : Addr) (R : Value → World → Prop) (w : World) (h : expr_reader_one_1_vc ccap0 R w) : Calls Tryd.prog 50 #[.pointer (some ccap0)] w fun e w' => ∃ v, e = .returned v ∧ R v w' :=
  fn_by (an := .s .o (.s .o (.s .o (.s .o .o)))) (args := [.ad ccap0]) Tryd.checked.mixed (by kernel_rfl) (by kernel_rfl) h
def expr_cursor_must_vc (c : Addr) (sign : ByteArray) (R : Value → World → Prop) (w : World) : Prop :=
  ∃ l0 : Sl, ∃ w0 : World, ((Instr.buildSlice 29 1 #[.mk 0 (.string sign)]).run Tryd.prog w) = (.ok l0.v w0) ∧
  Calls Tryd.prog 48 #[.pointer (some c), l0.v] w0 fun e0 w1 => ∃ b0 : Bool, e0 = (.returned (.bool b0)) ∧
   ((!b0) = true → Calls Tryd.prog 53 #[.pointer (some c)] w1 fun e1 w2 => e1 = (.returned (.tuple #[])) ∧
     R (.tuple #[]) w2) ∧
   ((!b0) = false → ∃ i0 : Int, Cells w1 (c.add 1) [.int .i64 i0] ∧
   ∃ k0 : Nat, ∃ k1 : Nat, ∃ z0 : List Value, ∃ k2 : Nat, (c.add 1) = ⟨k0, k1, none⟩ ∧
   Blk w1 k0 k2 z0 ∧
   (k1 + 1) ≤ z0.length ∧
   ∀ w3 : World, Only [k0] w1 w3 → Blk w3 k0 k2 (splice z0 k1 [.int .i64 (IntKind.wrap .i64 (i0 + 1))]) → R (.tuple #[]) w3)
theorem expr_cursor_must_wp (c : Addr) (sign : ByteArray) (R : Value → World → Prop) (w : World) (h : expr_cursor_must_vc c sign R w) : Calls Tryd.prog 51 #[.pointer (some c), .string sign] w fun e w' => ∃ v, e = .returned v ∧ R v w' :=
  fn_by (an := .s (.s .o (.s (.s .o .o) .o)) .o) (args := [.ad c, .str sign]) Tryd.checked.mixed (by kernel_rfl) (by kernel_rfl) h
def expr_reader_name_vc (r : Addr) (R : Value → World → Prop) (w : World) : Prop :=
  Calls Tryd.prog 47 #[.pointer (some (r.add 0))] w fun e0 w0 => ∃ i0 : Int, ∃ s0 : ByteArray, ∃ i1 : Int, ∃ i2 : Int, e0 = (.returned (.agg #[.int .i64 i0, .string s0, .int .i64 i1, .int .i64 i2])) ∧
   ∀ k0 : Nat, ∀ w1 : World, w0.heap.size ≤ k0 → k0 < w1.heap.size → Only [] w0 w1 → Calls Tryd.prog 28 #[.pointer (some (r.add 0))] w1 fun e1 w2 => ∃ b0 : Bool, e1 = (.returned (.bool b0)) ∧
    Same [k0] w1 w2 ∧
    ((b0 || (i0 != 1)) = true → Calls Tryd.prog 53 #[.pointer (some (r.add 0))] w2 fun e2 w3 => e2 = (.returned (.tuple #[])) ∧
      Same [k0] w2 w3 ∧
      R (.string (ByteArray.mk #[])) w3) ∧
    ((b0 || (i0 != 1)) = false → ∃ i3 : Int, Cells w2 ((r.add 0).add 1) [.int .i64 i3] ∧
    ∃ k1 : Nat, ∃ k2 : Nat, ∃ z0 : List Value, ∃ k3 : Nat, ((r.add 0).add 1) = ⟨k1, k2, none⟩ ∧
    Blk w2 k1 k3 z0 ∧
    (k2 + 1) ≤ z0.length ∧
    k0 ≠ k1 ∧
    ∀ w4 : World, Only [k1] w2 w4 → Blk w4 k1 k3 (splice z0 k2 [.int .i64 (IntKind.wrap .i64 (i3 + 1))]) → R (.string s0) w4)
theorem expr_reader_name_wp (r : Addr) (R : Value → World → Prop) (w : World) (h : expr_reader_name_vc r R w) : Calls Tryd.prog 52 #[.pointer (some r)] w fun e w' => ∃ v, e = .returned v ∧ R v w' :=
  fn_by (an := .s .o (.s .o (.s (.s .o (.s (.s .o (.s .o .o)) .o)) (.s .o (.s .o .o))))) (args := [.ad r]) Tryd.checked.mixed (by kernel_rfl) (by kernel_rfl) h
def expr_cursor_wrong_vc (c : Addr) (R : Value → World → Prop) (w : World) : Prop :=
  ∃ J0 : World → Prop, (∀ w0 : World, J0 w0 → Calls Tryd.prog 60 #[.pointer (some c), .int .i64 4] w0 fun e0 w1 => e0 = (.returned (.tuple #[])) ∧
    R (.tuple #[]) w1) ∧
  Calls Tryd.prog 47 #[.pointer (some c)] w fun e1 w2 => ∃ i0 : Int, ∃ s0 : ByteArray, ∃ i1 : Int, ∃ i2 : Int, e1 = (.returned (.agg #[.int .i64 i0, .string s0, .int .i64 i1, .int .i64 i2])) ∧
   ((i0 == 5) = true → Calls Tryd.prog 60 #[.pointer (some c), .int .i64 3] w2 fun e2 w3 => e2 = (.returned (.tuple #[])) ∧
     J0 w3) ∧
   ((i0 == 5) = false → J0 w2)
theorem expr_cursor_wrong_wp (c : Addr) (R : Value → World → Prop) (w : World) (h : expr_cursor_wrong_vc c R w) : Calls Tryd.prog 53 #[.pointer (some c)] w fun e w' => ∃ v, e = .returned v ∧ R v w' :=
  fn_by (an := .j [0] [] (.s .o (.s .o .o)) .o) (args := [.ad c]) Tryd.checked.mixed (by kernel_rfl) (by kernel_rfl) h
def expr_row_vc (op : Int) (R : Value → World → Prop) (w : World) : Prop :=
  (((decide (op ≥ 3)) && (decide (op ≤ 5))) = true → R (.int .i64 5) w) ∧
  (((decide (op ≥ 3)) && (decide (op ≤ 5))) = false → ∃ J0 : Bool → World → Prop, (∀ b0 : Bool, ∀ w0 : World, J0 b0 w0 → (b0 = true → R (.int .i64 4) w0) ∧
   (b0 = false → (((decide (op ≥ 6)) && (decide (op ≤ 9))) = true → R (.int .i64 3) w0) ∧
   (((decide (op ≥ 6)) && (decide (op ≤ 9))) = false → ∃ J1 : Bool → World → Prop, (∀ b1 : Bool, ∀ w1 : World, J1 b1 w1 → (b1 = true → R (.int .i64 2) w1) ∧
    (b1 = false → ((op == 12) = true → R (.int .i64 1) w1) ∧
    ((op == 12) = false → ((op == 13) = true → R (.int .i64 0) w1) ∧
    ((op == 13) = false → R (.int .i64 6) w1)))) ∧
   ((op == 10) = true → J1 (op == 10) w0) ∧
   ((op == 10) = false → J1 (op == 11) w0)))) ∧
  ((op == 1) = true → J0 (op == 1) w) ∧
  ((op == 1) = false → J0 (op == 2) w))
theorem expr_row_wp (op : Int) (R : Value → World → Prop) (w : World) (h : expr_row_vc op R w) : Calls Tryd.prog 54 #[.int .i64 op] w fun e w' => ∃ v, e = .returned v ∧ R v w' :=
  fn_by (an := .s .o (.s (.s .o (.s (.s .o .o) (.j [0] [.s 10 .bool] (.s .o (.s .o .o)) (.s (.s .o .o) (.s .o (.s (.s .o .o) (.j [0] [.s 22 .bool] (.s .o (.s .o .o)) (.s (.s .o .o) (.s .o (.s (.s .o .o) (.s .o (.s (.s .o .o) .o)))))))))))) (.s .o .o))) (args := [.int .i64 op]) Tryd.checked.mixed (by kernel_rfl) (by kernel_rfl) h
def slices_Index_byte_vc (s : Sl) (v1 : Int) (R : Value → World → Prop) (w : World) : Prop :=
  ∃ J0 : Nat → Int → World → Prop, ∃ k0 : Nat, J0 k0 0 w ∧
  ∀ k1 : Nat, ∀ i0 : Int, ∀ w0 : World, J0 k1 i0 w0 → ((decide (i0 < (s.n : Int))) = true → ∃ p0 : Addr, SlAt s i0 1 p0 ∧
   ∃ i1 : Int, Cells w0 p0 [.int .u8 i1] ∧
   ((v1 == i1) = true → R (.int .i64 i0) w0) ∧
   ((v1 == i1) = false → ∃ k2 : Nat, k2 < k1 ∧
   J0 k2 (IntKind.wrap .i64 (i0 + 1)) w0)) ∧
  ((decide (i0 < (s.n : Int))) = false → R (.int .i64 (-1)) w0)
theorem slices_Index_byte_wp (s : Sl) (v1 : Int) (R : Value → World → Prop) (w : World) (h : slices_Index_byte_vc s v1 R w) : Calls Tryd.prog 55 #[s.v, .int .u8 v1] w fun e w' => ∃ v, e = .returned v ∧ R v w' :=
  fn_by (an := .s .o (.s (.s .o (.j [0, 1, 7] [.s 8 (.int .i64)] (.s .o (.s (.s .o .o) (.s (.s .o (.s .o (.s (.s .o .o) .o))) .o))) .o)) (.s .o .o))) (args := [.sl s, .int .u8 v1]) Tryd.checked.mixed (by kernel_rfl) (by kernel_rfl) h
def calc_digit_vc (c : Int) (R : Value → World → Prop) (w : World) : Prop :=
  R (.bool (decide ((IntKind.wrap .u8 (c - 48)) < 10))) w
theorem calc_digit_wp (c : Int) (R : Value → World → Prop) (w : World) (h : calc_digit_vc c R w) : Calls Tryd.prog 58 #[.int .u8 c] w fun e w' => ∃ v, e = .returned v ∧ R v w' :=
  fn_by (an := .s .o (.s .o .o)) (args := [.int .u8 c]) Tryd.checked.mixed (by kernel_rfl) (by kernel_rfl) h
def expr_cursor_stop_vc (c : Addr) (err : Int) (R : Value → World → Prop) (w : World) : Prop :=
  Calls Tryd.prog 28 #[.pointer (some c)] w fun e0 w0 => ∃ b0 : Bool, e0 = (.returned (.bool b0)) ∧
   ((!b0) = true → Calls Tryd.prog 47 #[.pointer (some c)] w0 fun e1 w1 => ∃ i0 : Int, ∃ s0 : ByteArray, ∃ i1 : Int, ∃ i2 : Int, e1 = (.returned (.agg #[.int .i64 i0, .string s0, .int .i64 i1, .int .i64 i2])) ∧
     ∃ k0 : Nat, ∃ k1 : Nat, ∃ z0 : List Value, ∃ k2 : Nat, (c.add 2) = ⟨k0, k1, none⟩ ∧
     Blk w1 k0 k2 z0 ∧
     (k1 + 2) ≤ z0.length ∧
     ∀ w2 : World, Only [k0] w1 w2 → Blk w2 k0 k2 (splice z0 k1 [.int .i64 err, .int .i64 i2]) → R (.tuple #[]) w2) ∧
   ((!b0) = false → R (.tuple #[]) w0)
theorem expr_cursor_stop_wp (c : Addr) (err : Int) (R : Value → World → Prop) (w : World) (h : expr_cursor_stop_vc c err R w) : Calls Tryd.prog 60 #[.pointer (some c), .int .i64 err] w fun e w' => ∃ v, e = .returned v ∧ R v w' :=
  fn_by (an := .s .o (.s .o .o)) (args := [.ad c, .int .i64 err]) Tryd.checked.mixed (by kernel_rfl) (by kernel_rfl) h
end Go.Proofs.YtadlbafgkibipaaDoor.Vc
