/-
  Own work, printed by a program of ours (vlay.py): of each Go function what is to be shown of a call ('.._vc'), and that it suffices ('.._wp'). Nothing is assumed.
-/
import Derived.Test.YtmanockofcopjaaDoorV13
import Derived.Test.YtmanockofcopjaaDoorRows
namespace Go.Proofs.YtmanockofcopjaaDoor.Vc
open Go Go.RowKit Go.Kt Go.Kt.V
set_option linter.unusedVariables false
set_option maxRecDepth 100000
set_option maxHeartbeats 40000000
def pavanelaw05_ExprLefts_vc (a_ : Int) (b : Int) (R : Value → World → Prop) (w : World) : Prop :=
  Calls Tryd.prog 4 #[] w fun e0 w0 => ∃ b0 : Bool, e0 = (.returned (.bool b0)) ∧
   ∃ l0 : Sl, ∃ w1 : World, ((Instr.buildSlice 23 13 #[.mk 0 (.string (ByteArray.mk #[124, 124])), .mk 1 (.string (ByteArray.mk #[38, 38])), .mk 2 (.string (ByteArray.mk #[61, 61])), .mk 3 (.string (ByteArray.mk #[33, 61])), .mk 4 (.string (ByteArray.mk #[60])), .mk 5 (.string (ByteArray.mk #[60, 61])), .mk 6 (.string (ByteArray.mk #[62])), .mk 7 (.string (ByteArray.mk #[62, 61])), .mk 8 (.string (ByteArray.mk #[43])), .mk 9 (.string (ByteArray.mk #[45])), .mk 10 (.string (ByteArray.mk #[42])), .mk 11 (.string (ByteArray.mk #[47])), .mk 12 (.string (ByteArray.mk #[37]))]).run Tryd.prog w0) = (.ok l0.v w1) ∧
   ∃ l1 : Sl, ∃ w2 : World, ((Instr.buildSlice 24 13 #[.mk 0 (.int .i64 0), .mk 1 (.int .i64 1), .mk 2 (.int .i64 2), .mk 3 (.int .i64 2), .mk 4 (.int .i64 3), .mk 5 (.int .i64 3), .mk 6 (.int .i64 3), .mk 7 (.int .i64 3), .mk 8 (.int .i64 4), .mk 9 (.int .i64 4), .mk 10 (.int .i64 5), .mk 11 (.int .i64 5), .mk 12 (.int .i64 5)]).run Tryd.prog w1) = (.ok l1.v w2) ∧
   ∀ w3 : World, Only [] w2 w3 → ∃ J0 : Nat → Prop, ∃ p0 : Addr, SlAt l0 ((bits .and .i64 a_ 1023).tmod 13) 1 p0 ∧
   ∀ w4 : World, Only [] w3 w4 → J0 p0.block ∧
   ∃ s0 : ByteArray, Cells w4 p0 [.string s0] ∧
   (2 + (s0.size : Int)) ≤ 9223372036854775807 ∧
   ((((ByteArray.mk #[112, 32]) ++ s0).size : Int) + 3) ≤ 9223372036854775807 ∧
   ∃ p1 : Addr, SlAt l0 ((bits .and .i64 b 1023).tmod 13) 1 p1 ∧
   ∀ w5 : World, Only [] w4 w5 → J0 p1.block ∧
   ∃ s1 : ByteArray, Cells w5 p1 [.string s1] ∧
   (((((ByteArray.mk #[112, 32]) ++ s0) ++ (ByteArray.mk #[32, 113, 32])).size : Int) + (s1.size : Int)) ≤ 9223372036854775807 ∧
   ((((((ByteArray.mk #[112, 32]) ++ s0) ++ (ByteArray.mk #[32, 113, 32])) ++ s1).size : Int) + 2) ≤ 9223372036854775807 ∧
   ∀ w6 : World, Only [] w5 w6 → Calls Tryd.prog 5 #[.string (((((ByteArray.mk #[112, 32]) ++ s0) ++ (ByteArray.mk #[32, 113, 32])) ++ s1) ++ (ByteArray.mk #[32, 114]))] w6 fun e1 w7 => ∃ i0 : Int, ∃ i1 : Int, ∃ s2 : ByteArray, ∃ i2 : Int, ∃ l2 : Sl, ∃ i3 : Int, ∃ i4 : Int, ∃ i5 : Int, e1 = (.returned (.tuple #[.agg #[.int .i64 i0, .int .i64 i1, .string s2, .int .i64 i2, l2.v, .int .i64 i3], .agg #[.int .i64 i4, .int .i64 i5]])) ∧
    Newer w3 w6 w7 ∧
    Keeps J0 w6 w7 ∧
    ∀ w8 : World, Only [] w7 w8 → ∀ k0 : Nat, w3.heap.size ≤ k0 → k0 < w8.heap.size → Apart [.mk w6.heap.size w7.heap.size] k0 → ∀ k1 : Nat, w3.heap.size ≤ k1 → k1 < w8.heap.size → Apart [.mk w6.heap.size w7.heap.size] k1 → k0 ≠ k1 → ∀ w9 : World, Only [k1, k0] w8 w9 → ((((!b0) || (i4 != 0)) || ((l2.n : Int) != 2)) = true → R (.bool false) w9) ∧
    ((((!b0) || (i4 != 0)) || ((l2.n : Int) != 2)) = false → ∃ p2 : Addr, SlAt l2 0 6 p2 ∧
    ∃ i6 : Int, Cells w9 (p2.add 0) [.int .i64 i6] ∧
    ∃ p3 : Addr, ((i6 == 5) = true → SlAt l2 1 6 p3) ∧
    ∃ i7 : Int, ((i6 == 5) = true → Cells w9 (p3.add 0) [.int .i64 i7]) ∧
    ∃ p4 : Addr, SlAt l2 0 6 p4 ∧
    ∃ i8 : Int, Cells w9 (p4.add 0) [.int .i64 i8] ∧
    ∃ p5 : Addr, ((i8 == 2) = true → SlAt l2 1 6 p5) ∧
    ∃ i9 : Int, ((i8 == 2) = true → Cells w9 (p5.add 0) [.int .i64 i9]) ∧
    ∃ p6 : Addr, SlAt l1 ((bits .and .i64 a_ 1023).tmod 13) 1 p6 ∧
    ∃ i10 : Int, Cells w9 p6 [.int .i64 i10] ∧
    ∃ p7 : Addr, SlAt l1 ((bits .and .i64 b 1023).tmod 13) 1 p7 ∧
    ∃ i11 : Int, Cells w9 p7 [.int .i64 i11] ∧
    ∀ w10 : World, Only [] w9 w10 → R (.bool ((((i6 == 5) && (i7 == 2)) == (decide (i10 ≥ i11))) && (!(((i8 == 2) && (i9 == 5)) == ((i6 == 5) && (i7 == 2)))))) w10)
theorem pavanelaw05_ExprLefts_wp (a_ : Int) (b : Int) (R : Value → World → Prop) (w : World) (h : pavanelaw05_ExprLefts_vc a_ b R w) : Calls Tryd.prog 3 #[.int .i64 a_, .int .i64 b] w fun e w' => ∃ v, e = .returned v ∧ R v w' :=
  fn_by (an := .s .o (.s .o (.s .o (.s .o (.s .o (.s .o (.s (.l false [] []) (.s (.s .o (.s (.s .o .o) .o)) (.s .o (.s .o (.s .o .o))))))))))) (args := [.int .i64 a_, .int .i64 b]) Tryd.checked.mixed (by kernel_rfl) (by kernel_rfl) h
def pavanelaw05_small_vc (R : Value → World → Prop) (w : World) : Prop :=
  Calls Tryd.prog 5 #[.string (ByteArray.mk #[97, 32, 45, 32, 98, 32, 45, 32, 49])] w fun e0 w0 => ∃ i0 : Int, ∃ i1 : Int, ∃ s0 : ByteArray, ∃ i2 : Int, ∃ l0 : Sl, ∃ i3 : Int, ∃ i4 : Int, ∃ i5 : Int, e0 = (.returned (.tuple #[.agg #[.int .i64 i0, .int .i64 i1, .string s0, .int .i64 i2, l0.v, .int .i64 i3], .agg #[.int .i64 i4, .int .i64 i5]])) ∧
   ∀ k0 : Nat, ∀ k1 : Nat, ∀ w1 : World, w0.heap.size ≤ k0 → k0 < w1.heap.size → w0.heap.size ≤ k1 → k1 < w1.heap.size → Only [] w0 w1 → ∃ J0 : Bool → World → Prop, (∀ b0 : Bool, ∀ w2 : World, J0 b0 w2 → R (.bool b0) w2) ∧
   ∃ p0 : Addr, (((((i4 == 0) && (i0 == 5)) && (i2 == 2)) && ((l0.n : Int) == 2)) = true → SlAt l0 1 6 p0) ∧
   ∃ i6 : Int, (((((i4 == 0) && (i0 == 5)) && (i2 == 2)) && ((l0.n : Int) == 2)) = true → Cells w1 (p0.add 1) [.int .i64 i6]) ∧
   ((((((i4 == 0) && (i0 == 5)) && (i2 == 2)) && ((l0.n : Int) == 2)) && (i6 == 1)) = true → Calls Tryd.prog 6 #[.agg #[.int .i64 i0, .int .i64 i1, .string s0, .int .i64 i2, l0.v, .int .i64 i3]] w1 fun e1 w3 => ∃ s1 : ByteArray, e1 = (.returned (.string s1)) ∧
     Same [k0, k1] w1 w3 ∧
     J0 (s1.toList == ((ByteArray.mk #[97, 32, 45, 32, 98, 32, 45, 32, 49]).toList)) w3) ∧
   ((((((i4 == 0) && (i0 == 5)) && (i2 == 2)) && ((l0.n : Int) == 2)) && (i6 == 1)) = false → J0 false w1)
theorem pavanelaw05_small_wp (R : Value → World → Prop) (w : World) (h : pavanelaw05_small_vc R w) : Calls Tryd.prog 4 #[] w fun e w' => ∃ v, e = .returned v ∧ R v w' :=
  fn_by (an := .s .o (.s .o (.s (.j [1, 2] [.s 0 .bool] .o .o) .o))) (args := []) Tryd.checked.mixed (by kernel_rfl) (by kernel_rfl) h
def expr_Read_vc (s : ByteArray) (R : Value → World → Prop) (w : World) : Prop :=
  ∀ k0 : Nat, ∀ k1 : Nat, ∀ w0 : World, w.heap.size ≤ k0 → k0 < w0.heap.size → w.heap.size ≤ k1 → k1 < w0.heap.size → Only [] w w0 → Calls Tryd.prog 7 #[.string s] w0 fun e0 w1 => ∃ l0 : Sl, ∃ i0 : Int, ∃ i1 : Int, e0 = (.returned (.tuple #[l0.v, .agg #[.int .i64 i0, .int .i64 i1]])) ∧
   Same [k0, k1] w0 w1 ∧
   ((i0 != 0) = true → ∀ k2 : Nat, ∀ w2 : World, w1.heap.size ≤ k2 → k2 < w2.heap.size → Only [] w1 w2 → k0 ≠ k1 → k0 ≠ k2 → k1 ≠ k2 → ∃ J0 : Nat → Prop, J0 k2 ∧
    Out J0 k0 ∧
    Out J0 k1 ∧
    ∀ w3 : World, Only [k1, k0] w2 w3 → R (.tuple #[.agg #[.int .i64 0, .int .i64 0, .string (ByteArray.mk #[]), .int .i64 0, Sl.nil.v, .int .i64 0], .agg #[.int .i64 i0, .int .i64 i1]]) w3) ∧
   ((i0 != 0) = false → ∀ k3 : Nat, ∀ w4 : World, w1.heap.size ≤ k3 → k3 < w4.heap.size → Only [] w1 w4 → Calls Tryd.prog 8 #[l0.v, .int .i64 0] w4 fun e1 w5 => ∃ i2 : Int, ∃ i3 : Int, ∃ s0 : ByteArray, ∃ i4 : Int, ∃ l1 : Sl, ∃ i5 : Int, ∃ i6 : Int, ∃ i7 : Int, ∃ i8 : Int, e1 = (.returned (.tuple #[.agg #[.int .i64 i2, .int .i64 i3, .string s0, .int .i64 i4, l1.v, .int .i64 i5], .int .i64 i6, .agg #[.int .i64 i7, .int .i64 i8]])) ∧
    Same [k0, k1, k3] w4 w5 ∧
    ∀ k4 : Nat, ∀ w6 : World, w5.heap.size ≤ k4 → k4 < w6.heap.size → Only [k3] w5 w6 → ∃ J1 : Int → Int → World → Prop, (∀ i9 : Int, ∀ i10 : Int, ∀ w7 : World, J1 i9 i10 w7 → ((i9 != 0) = true → ∀ w8 : World, Only [] w7 w8 → k0 ≠ k1 → k0 ≠ k3 → k0 ≠ k4 → k1 ≠ k3 → k1 ≠ k4 → k3 ≠ k4 → ∃ J2 : Nat → Prop, J2 k3 ∧
      Out J2 k0 ∧
      Out J2 k1 ∧
      ∀ w9 : World, Only [k1, k0] w8 w9 → R (.tuple #[.agg #[.int .i64 0, .int .i64 0, .string (ByteArray.mk #[]), .int .i64 0, Sl.nil.v, .int .i64 0], .agg #[.int .i64 i9, .int .i64 i10]]) w9) ∧
     ((i9 != 0) = false → ∀ w10 : World, Only [] w7 w10 → k0 ≠ k1 → k0 ≠ k3 → k0 ≠ k4 → k1 ≠ k3 → k1 ≠ k4 → k3 ≠ k4 → ∃ J3 : Nat → Prop, J3 k3 ∧
     Out J3 k0 ∧
     Out J3 k1 ∧
     ∀ w11 : World, Only [k1, k0] w10 w11 → R (.tuple #[.agg #[.int .i64 i2, .int .i64 i3, .string s0, .int .i64 i4, l1.v, .int .i64 i5], .agg #[.int .i64 i9, .int .i64 i10]]) w11)) ∧
    ∃ p0 : Addr, ((i7 == 0) = true → SlAt l0 i6 4 p0) ∧
    ∃ i11 : Int, ((i7 == 0) = true → Cells w6 (p0.add 0) [.int .i64 i11]) ∧
    (((i7 == 0) && (i11 != 5)) = true → ∃ p1 : Addr, SlAt l0 i6 4 p1 ∧
     ∃ i12 : Int, Cells w6 (p1.add 3) [.int .i64 i12] ∧
     ∀ w12 : World, Only [k3] w6 w12 → J1 4 i12 w12) ∧
    (((i7 == 0) && (i11 != 5)) = false → J1 i7 i8 w6))
theorem expr_Read_wp (s : ByteArray) (R : Value → World → Prop) (w : World) (h : expr_Read_vc s R w) : Calls Tryd.prog 5 #[.string s] w fun e w' => ∃ v, e = .returned v ∧ R v w' :=
  fn_by (an := .s .o (.s .o (.s (.s .o (.s (.s .o .o) .o)) (.s .o (.j [2, 3, 5, 6] [.b 5 [.int .i64, .int .i64]] (.s .o (.s .o .o)) (.s (.s .o (.s (.s .o .o) .o)) (.s .o .o))))))) (args := [.str s]) Tryd.checked.mixed (by kernel_rfl) (by kernel_rfl) h
def expr_Text_vc (x : Int) (x1 : Int) (x2 : ByteArray) (x3 : Int) (x4 : Sl) (x5 : Int) (R : Value → World → Prop) (w : World) : Prop :=
  ∀ k0 : Nat, ∀ w0 : World, w.heap.size ≤ k0 → k0 < w0.heap.size → Only [] w w0 → Calls Tryd.prog 9 #[.agg #[.int .i64 x, .int .i64 x1, .string x2, .int .i64 x3, x4.v, .int .i64 x5]] w0 fun e0 w1 => ∃ b0 : Bool, e0 = (.returned (.bool b0)) ∧
   Same [k0] w0 w1 ∧
   ((!b0) = true → R (.string (ByteArray.mk #[])) w1) ∧
   ((!b0) = false → Calls Tryd.prog 10 #[] w1 fun e1 w2 => ∃ l0 : Sl, e1 = (.returned l0.v) ∧
    Same [k0] w1 w2 ∧
    ∀ k1 : Nat, ∀ w3 : World, w2.heap.size ≤ k1 → k1 < w3.heap.size → Only [] w2 w3 → Blk w3 k1 50 [.pointer none, Sl.nil.v, l0.v] → Calls Tryd.prog 11 #[.pointer (some ⟨k1, 0, none⟩), .agg #[.int .i64 x, .int .i64 x1, .string x2, .int .i64 x3, x4.v, .int .i64 x5], .bool false] w3 fun e2 w4 => e2 = (.returned (.tuple #[])) ∧
     Same [k0] w3 w4 ∧
     ∃ q0 : Option Addr, ∃ l1 : Sl, ∃ l2 : Sl, Blk w4 k1 50 [.pointer q0, l1.v, l2.v] ∧
     Calls Tryd.prog 12 #[.pointer (some ⟨k1, 0, none⟩)] w4 fun e3 w5 => ∃ s0 : ByteArray, e3 = (.returned (.string s0)) ∧
      Same [k0] w4 w5 ∧
      ∃ q1 : Option Addr, ∃ l3 : Sl, ∃ l4 : Sl, Blk w5 k1 50 [.pointer q1, l3.v, l4.v] ∧
      Calls Tryd.prog 5 #[.string s0] w5 fun e4 w6 => ∃ i0 : Int, ∃ i1 : Int, ∃ s1 : ByteArray, ∃ i2 : Int, ∃ l5 : Sl, ∃ i3 : Int, ∃ i4 : Int, ∃ i5 : Int, e4 = (.returned (.tuple #[.agg #[.int .i64 i0, .int .i64 i1, .string s1, .int .i64 i2, l5.v, .int .i64 i3], .agg #[.int .i64 i4, .int .i64 i5]])) ∧
       Same [k0] w5 w6 ∧
       ∃ q2 : Option Addr, ∃ l6 : Sl, ∃ l7 : Sl, Blk w6 k1 50 [.pointer q2, l6.v, l7.v] ∧
       ((i4 != 0) = true → ∀ k2 : Nat, ∀ k3 : Nat, ∀ w7 : World, w6.heap.size ≤ k2 → k2 < w7.heap.size → w6.heap.size ≤ k3 → k3 < w7.heap.size → Only [] w6 w7 → Blk w7 k1 50 [.pointer q2, l6.v, l7.v] → R (.string (ByteArray.mk #[])) w7) ∧
       ((i4 != 0) = false → ∀ k4 : Nat, ∀ k5 : Nat, ∀ w8 : World, w6.heap.size ≤ k4 → k4 < w8.heap.size → w6.heap.size ≤ k5 → k5 < w8.heap.size → Only [] w6 w8 → Blk w8 k1 50 [.pointer q2, l6.v, l7.v] → Calls Tryd.prog 12 #[.pointer (some ⟨k1, 0, none⟩)] w8 fun e5 w9 => ∃ s2 : ByteArray, e5 = (.returned (.string s2)) ∧
        Same [k0, k4, k5] w8 w9 ∧
        ∃ q3 : Option Addr, ∃ l8 : Sl, ∃ l9 : Sl, Blk w9 k1 50 [.pointer q3, l8.v, l9.v] ∧
        R (.string s2) w9))
theorem expr_Text_wp (x : Int) (x1 : Int) (x2 : ByteArray) (x3 : Int) (x4 : Sl) (x5 : Int) (R : Value → World → Prop) (w : World) (h : expr_Text_vc x x1 x2 x3 x4 x5 R w) : Calls Tryd.prog 6 #[.agg #[.int .i64 x, .int .i64 x1, .string x2, .int .i64 x3, x4.v, .int .i64 x5]] w fun e w' => ∃ v, e = .returned v ∧ R v w' :=
  fn_by (an := .s .o (.s (.s .o (.s (.s .o .o) .o)) (.s .o (.s .o (.s (.s .o (.s .o (.s (.s .o .o) .o))) (.s .o .o)))))) (args := [.agg (ofL [.int .i64 x, .int .i64 x1, .str x2, .int .i64 x3, .sl x4, .int .i64 x5])]) Tryd.checked.mixed (by kernel_rfl) (by kernel_rfl) h
def scan_Tokens_vc (s : ByteArray) (R : Value → World → Prop) (w : World) : Prop :=
  ((decide ((s.size : Int) > 16384)) = true → ∀ k0 : Nat, ∀ w0 : World, w.heap.size ≤ k0 → k0 < w0.heap.size → Only [] w w0 → R (.tuple #[Sl.nil.v, .agg #[.int .i64 2, .int .i64 (-1)]]) w0) ∧
  ((decide ((s.size : Int) > 16384)) = false → ∀ k1 : Nat, ∀ w1 : World, w.heap.size ≤ k1 → k1 < w1.heap.size → Only [] w w1 → Calls Tryd.prog 13 #[] w1 fun e0 w2 => ∃ l0 : Sl, e0 = (.returned l0.v) ∧
   Same [k1] w1 w2 ∧
   ∀ k2 : Nat, ∀ w3 : World, w2.heap.size ≤ k2 → k2 < w3.heap.size → Only [] w2 w3 → Blk w3 k2 57 [.string s, .int .i64 0, l0.v, Sl.nil.v] → Calls Tryd.prog 14 #[.pointer (some ⟨k2, 0, none⟩)] w3 fun e1 w4 => e1 = (.returned (.tuple #[])) ∧
    Same [k1] w3 w4 ∧
    ∃ s0 : ByteArray, ∃ i0 : Int, ∃ l1 : Sl, ∃ l2 : Sl, Blk w4 k2 57 [.string s0, .int .i64 i0, l1.v, l2.v] ∧
    ∃ J0 : Nat → Int → Int → ByteArray → Int → Sl → Sl → World → Prop, ∃ k3 : Nat, J0 k3 0 0 s0 i0 l1 l2 w4 ∧
    ∀ k4 : Nat, ∀ i1 : Int, ∀ i2 : Int, ∀ s1 : ByteArray, ∀ i3 : Int, ∀ l3 : Sl, ∀ l4 : Sl, ∀ w5 : World, J0 k4 i1 i2 s1 i3 l3 l4 w5 → Calls Tryd.prog 15 #[.pointer (some ⟨k2, 0, none⟩)] w5 fun e2 w6 => ∃ b0 : Bool, e2 = (.returned (.bool b0)) ∧
     Same [k1] w5 w6 ∧
     ∃ s2 : ByteArray, ∃ i4 : Int, ∃ l5 : Sl, ∃ l6 : Sl, Blk w6 k2 57 [.string s2, .int .i64 i4, l5.v, l6.v] ∧
     ((!b0) = true → Calls Tryd.prog 16 #[.pointer (some ⟨k2, 0, none⟩)] w6 fun e3 w7 => ∃ i5 : Int, e3 = (.returned (.int .i64 i5)) ∧
       Same [k1] w6 w7 ∧
       ∃ s3 : ByteArray, ∃ i6 : Int, ∃ l7 : Sl, ∃ l8 : Sl, Blk w7 k2 57 [.string s3, .int .i64 i6, l7.v, l8.v] ∧
       ((i5 != 0) = true → ∀ w8 : World, Only [k1] w7 w8 → Blk w8 k2 57 [.string s3, .int .i64 i6, l7.v, l8.v] → R (.tuple #[Sl.nil.v, .agg #[.int .i64 i5, .int .i64 i6]]) w8) ∧
       ((i5 != 0) = false → Calls Tryd.prog 14 #[.pointer (some ⟨k2, 0, none⟩)] w7 fun e4 w9 => e4 = (.returned (.tuple #[])) ∧
        Same [k1] w7 w9 ∧
        ∃ s4 : ByteArray, ∃ i7 : Int, ∃ l9 : Sl, ∃ l10 : Sl, Blk w9 k2 57 [.string s4, .int .i64 i7, l9.v, l10.v] ∧
        ∃ k5 : Nat, k5 < k4 ∧
        J0 k5 i1 i2 s4 i7 l9 l10 w9)) ∧
     ((!b0) = false → Calls Tryd.prog 17 #[.pointer (some ⟨k2, 0, none⟩), .agg #[.int .i64 5, .string (ByteArray.mk #[]), .int .i64 0, .int .i64 0], .int .i64 0] w6 fun e5 w10 => e5 = (.returned (.tuple #[])) ∧
      Same [k1] w6 w10 ∧
      ∃ s5 : ByteArray, ∃ i8 : Int, ∃ l11 : Sl, ∃ l12 : Sl, Blk w10 k2 57 [.string s5, .int .i64 i8, l11.v, l12.v] ∧
      ∀ w11 : World, Only [k1] w10 w11 → Blk w11 k2 57 [.string s5, .int .i64 i8, l11.v, l12.v] → R (.tuple #[l12.v, .agg #[.int .i64 0, .int .i64 0]]) w11))
theorem scan_Tokens_wp (s : ByteArray) (R : Value → World → Prop) (w : World) (h : scan_Tokens_vc s R w) : Calls Tryd.prog 7 #[.string s] w fun e w' => ∃ v, e = .returned v ∧ R v w' :=
  fn_by (an := .s .o (.s (.s .o (.s (.s .o .o) .o)) (.s .o (.s (.s .o (.j [3, 4, 14] [.b 3 [.int .i64, .int .i64], .b 14 [.str, .int .i64, .sl, .sl]] (.s (.s .o (.s .o .o)) (.s (.s .o (.s .o (.s (.s .o .o) .o))) .o)) .o)) (.s .o (.s .o .o)))))) (args := [.str s]) Tryd.checked.mixed (by kernel_rfl) (by kernel_rfl) h
def expr_Parse_vc (l : Sl) (at_ : Int) (R : Value → World → Prop) (w : World) : Prop :=
  ∀ k0 : Nat, ∀ k1 : Nat, ∀ w0 : World, w.heap.size ≤ k0 → k0 < w0.heap.size → w.heap.size ≤ k1 → k1 < w0.heap.size → Only [] w w0 → Calls Tryd.prog 18 #[l.v, .func (.func 19) #[] #[]] w0 fun e0 w1 => ∃ i0 : Int, e0 = (.returned (.int .i64 i0)) ∧
   Same [k0, k1] w0 w1 ∧
   ((((decide (at_ < 0)) || (decide (at_ ≥ (l.n : Int)))) || (i0 != (IntKind.wrap .i64 ((l.n : Int) - 1)))) = true → ∀ w2 : World, Only [k1, k0] w1 w2 → R (.tuple #[.agg #[.int .i64 0, .int .i64 0, .string (ByteArray.mk #[]), .int .i64 0, Sl.nil.v, .int .i64 0], .int .i64 0, .agg #[.int .i64 1, .int .i64 (-1)]]) w2) ∧
   ((((decide (at_ < 0)) || (decide (at_ ≥ (l.n : Int)))) || (i0 != (IntKind.wrap .i64 ((l.n : Int) - 1)))) = false → Calls Tryd.prog 10 #[] w1 fun e1 w3 => ∃ l0 : Sl, e1 = (.returned l0.v) ∧
    Same [k0, k1] w1 w3 ∧
    ∀ k2 : Nat, ∀ w4 : World, w3.heap.size ≤ k2 → k2 < w4.heap.size → Only [] w3 w4 → Blk w4 k2 66 [l.v, .int .i64 at_, .int .i64 0, .int .i64 0, .int .i64 0, l0.v] → Calls Tryd.prog 20 #[.pointer (some ⟨k2, 0, none⟩), .int .i64 0] w4 fun e2 w5 => ∃ i1 : Int, ∃ i2 : Int, ∃ s0 : ByteArray, ∃ i3 : Int, ∃ l1 : Sl, ∃ i4 : Int, e2 = (.returned (.agg #[.int .i64 i1, .int .i64 i2, .string s0, .int .i64 i3, l1.v, .int .i64 i4])) ∧
     Same [k0, k1] w4 w5 ∧
     ∃ l2 : Sl, ∃ i5 : Int, ∃ i6 : Int, ∃ i7 : Int, ∃ i8 : Int, ∃ l3 : Sl, Blk w5 k2 66 [l2.v, .int .i64 i5, .int .i64 i6, .int .i64 i7, .int .i64 i8, l3.v] ∧
     ∀ k3 : Nat, ∀ w6 : World, w5.heap.size ≤ k3 → k3 < w6.heap.size → Only [] w5 w6 → Blk w6 k2 66 [l2.v, .int .i64 i5, .int .i64 i6, .int .i64 i7, .int .i64 i8, l3.v] → Calls Tryd.prog 21 #[.pointer (some ⟨k2, 0, none⟩)] w6 fun e3 w7 => ∃ b0 : Bool, e3 = (.returned (.bool b0)) ∧
      Same [k0, k1, k3] w6 w7 ∧
      ∃ l4 : Sl, ∃ i9 : Int, ∃ i10 : Int, ∃ i11 : Int, ∃ i12 : Int, ∃ l5 : Sl, Blk w7 k2 66 [l4.v, .int .i64 i9, .int .i64 i10, .int .i64 i11, .int .i64 i12, l5.v] ∧
      (b0 = true → ∀ w8 : World, Only [] w7 w8 → Blk w8 k2 66 [l4.v, .int .i64 i9, .int .i64 i10, .int .i64 i11, .int .i64 i12, l5.v] → k0 ≠ k1 → k0 ≠ k2 → k0 ≠ k3 → k1 ≠ k2 → k1 ≠ k3 → k2 ≠ k3 → ∃ J0 : Nat → Prop, J0 k2 ∧
       Out J0 k0 ∧
       Out J0 k1 ∧
       ∀ w9 : World, Only [k1, k0] w8 w9 → Blk w9 k2 66 [l4.v, .int .i64 i9, .int .i64 i10, .int .i64 i11, .int .i64 i12, l5.v] → R (.tuple #[.agg #[.int .i64 0, .int .i64 0, .string (ByteArray.mk #[]), .int .i64 0, Sl.nil.v, .int .i64 0], .int .i64 0, .agg #[.int .i64 i10, .int .i64 i11]]) w9) ∧
      (b0 = false → ∀ w10 : World, Only [] w7 w10 → Blk w10 k2 66 [l4.v, .int .i64 i9, .int .i64 i10, .int .i64 i11, .int .i64 i12, l5.v] → k0 ≠ k1 → k0 ≠ k2 → k0 ≠ k3 → k1 ≠ k2 → k1 ≠ k3 → k2 ≠ k3 → ∃ J1 : Nat → Prop, J1 k2 ∧
      Out J1 k0 ∧
      Out J1 k1 ∧
      ∀ w11 : World, Only [k1, k0] w10 w11 → Blk w11 k2 66 [l4.v, .int .i64 i9, .int .i64 i10, .int .i64 i11, .int .i64 i12, l5.v] → R (.tuple #[.agg #[.int .i64 i1, .int .i64 i2, .string s0, .int .i64 i3, l1.v, .int .i64 i4], .int .i64 i9, .agg #[.int .i64 0, .int .i64 0]]) w11))
theorem expr_Parse_wp (l : Sl) (at_ : Int) (R : Value → World → Prop) (w : World) (h : expr_Parse_vc l at_ R w) : Calls Tryd.prog 8 #[l.v, .int .i64 at_] w fun e w' => ∃ v, e = .returned v ∧ R v w' :=
  fn_by (an := .s .o (.s .o (.s (.s .o (.s (.s .o .o) .o)) (.s .o (.s .o (.s (.s .o (.s (.s .o .o) .o)) (.s .o .o))))))) (args := [.sl l, .int .i64 at_]) Tryd.checked.mixed (by kernel_rfl) (by kernel_rfl) h
def expr_shape_vc (x : Int) (x1 : Int) (x2 : ByteArray) (x3 : Int) (x4 : Sl) (x5 : Int) (R : Value → World → Prop) (w : World) : Prop :=
  ∀ k0 : Nat, ∀ k1 : Nat, ∀ w0 : World, w.heap.size ≤ k0 → k0 < w0.heap.size → w.heap.size ≤ k1 → k1 < w0.heap.size → Only [] w w0 → ∃ J0 : Int → Int → Int → ByteArray → Int → Sl → Int → World → Prop, (∀ i0 : Int, ∀ i1 : Int, ∀ i2 : Int, ∀ s0 : ByteArray, ∀ i3 : Int, ∀ l0 : Sl, ∀ i4 : Int, ∀ w1 : World, J0 i0 i1 i2 s0 i3 l0 i4 w1 → ∃ J1 : Bool → World → Prop, (∀ b0 : Bool, ∀ w2 : World, J1 b0 w2 → R (.bool b0) w2) ∧
   (((((x1 == i2) && (x2.toList == s0.toList)) && (x3 == i3)) && ((x4.n : Int) == i0)) = true → Calls Tryd.prog 24 #[x4.v, .func (.func 25) #[] #[]] w1 fun e0 w3 => ∃ b1 : Bool, e0 = (.returned (.bool b1)) ∧
     Same [k0, k1] w1 w3 ∧
     J1 (!b1) w3) ∧
   (((((x1 == i2) && (x2.toList == s0.toList)) && (x3 == i3)) && ((x4.n : Int) == i0)) = false → J1 false w1)) ∧
  ((x == 1) = true → ∀ w4 : World, Only [k1] w0 w4 → J0 0 x (if 0 > x1 then 0 else x1) (ByteArray.mk #[]) 0 Sl.nil x5 w4) ∧
  ((x == 1) = false → ∃ J2 : Bool → World → Prop, (∀ b2 : Bool, ∀ w5 : World, J2 b2 w5 → (b2 = true → Calls Tryd.prog 22 #[.string x2] w5 fun e1 w6 => ∃ b3 : Bool, e1 = (.returned (.bool b3)) ∧
     Same [k0, k1] w5 w6 ∧
     ((!b3) = true → R (.bool false) w6) ∧
     ((!b3) = false → ∀ w7 : World, Only [k1] w6 w7 → J0 0 x 0 x2 0 Sl.nil x5 w7)) ∧
   (b2 = false → ((x == 4) = true → ((x3 == 15) = true → ∀ w8 : World, Only [k1] w5 w8 → J0 1 x 0 (ByteArray.mk #[]) 15 Sl.nil x5 w8) ∧
    ((x3 == 15) = false → ∀ w9 : World, Only [k1] w5 w9 → J0 1 x 0 (ByteArray.mk #[]) 14 Sl.nil x5 w9)) ∧
   ((x == 4) = false → ((x == 5) = true → Calls Tryd.prog 23 #[.int .i64 x3] w5 fun e2 w10 => ∃ i5 : Int, e2 = (.returned (.int .i64 i5)) ∧
     Same [k0, k1] w5 w10 ∧
     ((i5 == 6) = true → R (.bool false) w10) ∧
     ((i5 == 6) = false → ∀ w11 : World, Only [k1] w10 w11 → J0 2 x 0 (ByteArray.mk #[]) x3 Sl.nil x5 w11)) ∧
   ((x == 5) = false → R (.bool false) w5)))) ∧
  ((x == 2) = true → J2 (x == 2) w0) ∧
  ((x == 2) = false → J2 (x == 3) w0))
theorem expr_shape_wp (x : Int) (x1 : Int) (x2 : ByteArray) (x3 : Int) (x4 : Sl) (x5 : Int) (R : Value → World → Prop) (w : World) (h : expr_shape_vc x x1 x2 x3 x4 x5 R w) : Calls Tryd.prog 9 #[.agg #[.int .i64 x, .int .i64 x1, .string x2, .int .i64 x3, x4.v, .int .i64 x5]] w fun e w' => ∃ v, e = .returned v ∧ R v w' :=
  fn_by (an := .s .o (.s .o (.s .o (.j [1, 3] [.s 4 (.int .i64), .b 3 [.int .i64, .int .i64, .str, .int .i64, .sl, .int .i64]] (.s .o (.s .o (.s .o (.j [1, 3, 4, 11] [.s 18 .bool] (.s .o (.s .o .o)) (.s (.s (.s .o (.s (.s .o .o) .o)) .o) (.s .o (.s (.s .o (.s .o (.s .o .o))) (.s .o (.s (.s (.s .o (.s (.s .o .o) .o)) .o) (.s .o .o)))))))))) (.s (.j [1, 3] [.s 2 .bool] .o .o) .o))))) (args := [.agg (ofL [.int .i64 x, .int .i64 x1, .str x2, .int .i64 x3, .sl x4, .int .i64 x5])]) Tryd.checked.mixed (by kernel_rfl) (by kernel_rfl) h
def expr_ops_vc (R : Value → World → Prop) (w : World) : Prop :=
  ∃ l0 : Sl, ∃ w0 : World, ((Instr.buildSlice 23 16 #[.mk 1 (.string (ByteArray.mk #[43])), .mk 2 (.string (ByteArray.mk #[45])), .mk 3 (.string (ByteArray.mk #[42])), .mk 4 (.string (ByteArray.mk #[47])), .mk 5 (.string (ByteArray.mk #[37])), .mk 6 (.string (ByteArray.mk #[60])), .mk 7 (.string (ByteArray.mk #[60, 61])), .mk 8 (.string (ByteArray.mk #[62])), .mk 9 (.string (ByteArray.mk #[62, 61])), .mk 10 (.string (ByteArray.mk #[61, 61])), .mk 11 (.string (ByteArray.mk #[33, 61])), .mk 12 (.string (ByteArray.mk #[38, 38])), .mk 13 (.string (ByteArray.mk #[124, 124])), .mk 14 (.string (ByteArray.mk #[45])), .mk 15 (.string (ByteArray.mk #[33]))]).run Tryd.prog w) = (.ok l0.v w0) ∧
  R l0.v w0
theorem expr_ops_wp (R : Value → World → Prop) (w : World) (h : expr_ops_vc R w) : Calls Tryd.prog 10 #[] w fun e w' => ∃ v, e = .returned v ∧ R v w' :=
  fn_by (an := .s .o (.s .o .o)) (args := []) Tryd.checked.mixed (by kernel_rfl) (by kernel_rfl) h
def expr_page_expr_vc (p : Addr) (x : Int) (x1 : Int) (x2 : ByteArray) (x3 : Int) (x4 : Sl) (x5 : Int) (wrapped : Bool) (R : Value → World → Prop) (w : World) : Prop :=
  ∀ k0 : Nat, ∀ w0 : World, w.heap.size ≤ k0 → k0 < w0.heap.size → Only [] w w0 → Calls Tryd.prog 26 #[.pointer (some (p.add 0))] w0 fun e0 w1 => ∃ i0 : Int, e0 = (.returned (.int .i64 i0)) ∧
   Same [k0] w0 w1 ∧
   ((decide (i0 > 16384)) = true → R (.tuple #[]) w1) ∧
   ((decide (i0 > 16384)) = false → (wrapped = true → Calls Tryd.prog 27 #[.pointer (some (p.add 0)), .int .u8 40] w1 fun e1 w2 => ∃ v0 : OV, e1 = (.returned v0.v) ∧
     Same [k0] w1 w2 ∧
     ((x == 1) = true → ∀ w3 : World, Only [] w2 w3 → Calls Tryd.prog 29 #[.int .i64 x1] w3 fun e2 w4 => ∃ s0 : ByteArray, e2 = (.returned (.string s0)) ∧
       Same [k0] w3 w4 ∧
       Calls Tryd.prog 28 #[.pointer (some (p.add 0)), .string s0] w4 fun e3 w5 => ∃ i1 : Int, ∃ v1 : OV, e3 = (.returned (.tuple #[.int .i64 i1, v1.v])) ∧
        Same [k0] w4 w5 ∧
        CallsR Tryd.prog 27 #[.pointer (some (p.add 0)), .int .u8 41] w5 (fun x0 w6 => R (.tuple #[]) w6)) ∧
     ((x == 1) = false → ((x == 2) = true → ∀ w7 : World, Only [] w2 w7 → Calls Tryd.prog 28 #[.pointer (some (p.add 0)), .string x2] w7 fun e4 w8 => ∃ i2 : Int, ∃ v2 : OV, e4 = (.returned (.tuple #[.int .i64 i2, v2.v])) ∧
       Same [k0] w7 w8 ∧
       CallsR Tryd.prog 27 #[.pointer (some (p.add 0)), .int .u8 41] w8 (fun x1 w9 => R (.tuple #[]) w9)) ∧
     ((x == 2) = false → ((x == 3) = true → (3 + (x2.size : Int)) ≤ 9223372036854775807 ∧
      ((((ByteArray.mk #[105, 110, 40]) ++ x2).size : Int) + 1) ≤ 9223372036854775807 ∧
      ∀ w10 : World, Only [] w2 w10 → Calls Tryd.prog 28 #[.pointer (some (p.add 0)), .string (((ByteArray.mk #[105, 110, 40]) ++ x2) ++ (ByteArray.mk #[41]))] w10 fun e5 w11 => ∃ i3 : Int, ∃ v3 : OV, e5 = (.returned (.tuple #[.int .i64 i3, v3.v])) ∧
       Same [k0] w10 w11 ∧
       CallsR Tryd.prog 27 #[.pointer (some (p.add 0)), .int .u8 41] w11 (fun x2 w12 => R (.tuple #[]) w12)) ∧
     ((x == 3) = false → ((x == 4) = true → ∀ w13 : World, Only [] w2 w13 → ∃ l0 : Sl, Cells w13 (p.add 2) [l0.v] ∧
      ∃ p0 : Addr, SlAt l0 x3 1 p0 ∧
      ∃ s1 : ByteArray, Cells w13 p0 [.string s1] ∧
      Calls Tryd.prog 28 #[.pointer (some (p.add 0)), .string s1] w13 fun e6 w14 => ∃ i4 : Int, ∃ v4 : OV, e6 = (.returned (.tuple #[.int .i64 i4, v4.v])) ∧
       Same [k0] w13 w14 ∧
       ∀ w15 : World, Only [] w14 w15 → ∃ J0 : Nat → Prop, J0 k0 ∧
       ∃ p1 : Addr, SlAt x4 0 6 p1 ∧
       J0 p1.block ∧
       ∃ i5 : Int, ∃ i6 : Int, ∃ s2 : ByteArray, ∃ i7 : Int, ∃ l1 : Sl, ∃ i8 : Int, Cells w15 p1 [.int .i64 i5, .int .i64 i6, .string s2, .int .i64 i7, l1.v, .int .i64 i8] ∧
       ∃ p2 : Addr, SlAt x4 0 6 p2 ∧
       ∃ i9 : Int, ∃ i10 : Int, ∃ s3 : ByteArray, ∃ i11 : Int, ∃ l2 : Sl, ∃ i12 : Int, Cells w15 p2 [.int .i64 i9, .int .i64 i10, .string s3, .int .i64 i11, l2.v, .int .i64 i12] ∧
       Calls Tryd.prog 30 #[.agg #[.int .i64 i9, .int .i64 i10, .string s3, .int .i64 i11, l2.v, .int .i64 i12]] w15 fun e7 w16 => ∃ i13 : Int, e7 = (.returned (.int .i64 i13)) ∧
        Same [k0] w15 w16 ∧
        Keeps J0 w15 w16 ∧
        Calls Tryd.prog 11 #[.pointer (some p), .agg #[.int .i64 i5, .int .i64 i6, .string s2, .int .i64 i7, l1.v, .int .i64 i8], .bool (decide (i13 < 6))] w16 fun e8 w17 => e8 = (.returned (.tuple #[])) ∧
         Same [k0] w16 w17 ∧
         Keeps J0 w16 w17 ∧
         CallsR Tryd.prog 27 #[.pointer (some (p.add 0)), .int .u8 41] w17 (fun x3 w18 => R (.tuple #[]) w18)) ∧
     ((x == 4) = false → Calls Tryd.prog 30 #[.agg #[.int .i64 x, .int .i64 x1, .string x2, .int .i64 x3, x4.v, .int .i64 x5]] w2 fun e9 w19 => ∃ i14 : Int, e9 = (.returned (.int .i64 i14)) ∧
      Same [k0] w2 w19 ∧
      ∀ w20 : World, Only [] w19 w20 → ∃ J1 : Nat → Prop, J1 k0 ∧
      ∃ p3 : Addr, SlAt x4 0 6 p3 ∧
      J1 p3.block ∧
      ∃ i15 : Int, ∃ i16 : Int, ∃ s4 : ByteArray, ∃ i17 : Int, ∃ l3 : Sl, ∃ i18 : Int, Cells w20 p3 [.int .i64 i15, .int .i64 i16, .string s4, .int .i64 i17, l3.v, .int .i64 i18] ∧
      ∃ p4 : Addr, SlAt x4 0 6 p4 ∧
      ∃ i19 : Int, ∃ i20 : Int, ∃ s5 : ByteArray, ∃ i21 : Int, ∃ l4 : Sl, ∃ i22 : Int, Cells w20 p4 [.int .i64 i19, .int .i64 i20, .string s5, .int .i64 i21, l4.v, .int .i64 i22] ∧
      Calls Tryd.prog 30 #[.agg #[.int .i64 i19, .int .i64 i20, .string s5, .int .i64 i21, l4.v, .int .i64 i22]] w20 fun e10 w21 => ∃ i23 : Int, e10 = (.returned (.int .i64 i23)) ∧
       Same [k0] w20 w21 ∧
       Keeps J1 w20 w21 ∧
       Calls Tryd.prog 11 #[.pointer (some p), .agg #[.int .i64 i15, .int .i64 i16, .string s4, .int .i64 i17, l3.v, .int .i64 i18], .bool (decide (i23 < i14))] w21 fun e11 w22 => e11 = (.returned (.tuple #[])) ∧
        Same [k0] w21 w22 ∧
        Keeps J1 w21 w22 ∧
        ∀ w23 : World, Only [] w22 w23 → ∃ l5 : Sl, Cells w23 (p.add 2) [l5.v] ∧
        ∃ p5 : Addr, SlAt l5 x3 1 p5 ∧
        ∃ s6 : ByteArray, Cells w23 p5 [.string s6] ∧
        (1 + (s6.size : Int)) ≤ 9223372036854775807 ∧
        ((((ByteArray.mk #[32]) ++ s6).size : Int) + 1) ≤ 9223372036854775807 ∧
        Calls Tryd.prog 28 #[.pointer (some (p.add 0)), .string (((ByteArray.mk #[32]) ++ s6) ++ (ByteArray.mk #[32]))] w23 fun e12 w24 => ∃ i24 : Int, ∃ v5 : OV, e12 = (.returned (.tuple #[.int .i64 i24, v5.v])) ∧
         Same [k0] w23 w24 ∧
         ∀ w25 : World, Only [] w24 w25 → ∃ J2 : Nat → Prop, J2 k0 ∧
         ∃ p6 : Addr, SlAt x4 1 6 p6 ∧
         J2 p6.block ∧
         ∃ i25 : Int, ∃ i26 : Int, ∃ s7 : ByteArray, ∃ i27 : Int, ∃ l6 : Sl, ∃ i28 : Int, Cells w25 p6 [.int .i64 i25, .int .i64 i26, .string s7, .int .i64 i27, l6.v, .int .i64 i28] ∧
         ∃ p7 : Addr, SlAt x4 1 6 p7 ∧
         ∃ i29 : Int, ∃ i30 : Int, ∃ s8 : ByteArray, ∃ i31 : Int, ∃ l7 : Sl, ∃ i32 : Int, Cells w25 p7 [.int .i64 i29, .int .i64 i30, .string s8, .int .i64 i31, l7.v, .int .i64 i32] ∧
         Calls Tryd.prog 30 #[.agg #[.int .i64 i29, .int .i64 i30, .string s8, .int .i64 i31, l7.v, .int .i64 i32]] w25 fun e13 w26 => ∃ i33 : Int, e13 = (.returned (.int .i64 i33)) ∧
          Same [k0] w25 w26 ∧
          Keeps J2 w25 w26 ∧
          Calls Tryd.prog 11 #[.pointer (some p), .agg #[.int .i64 i25, .int .i64 i26, .string s7, .int .i64 i27, l6.v, .int .i64 i28], .bool (decide (i33 ≤ i14))] w26 fun e14 w27 => e14 = (.returned (.tuple #[])) ∧
           Same [k0] w26 w27 ∧
           Keeps J2 w26 w27 ∧
           CallsR Tryd.prog 27 #[.pointer (some (p.add 0)), .int .u8 41] w27 (fun x4 w28 => R (.tuple #[]) w28)))))) ∧
   (wrapped = false → ((x == 1) = true → ∀ w29 : World, Only [] w1 w29 → Calls Tryd.prog 29 #[.int .i64 x1] w29 fun e15 w30 => ∃ s9 : ByteArray, e15 = (.returned (.string s9)) ∧
     Same [k0] w29 w30 ∧
     Calls Tryd.prog 28 #[.pointer (some (p.add 0)), .string s9] w30 fun e16 w31 => ∃ i34 : Int, ∃ v6 : OV, e16 = (.returned (.tuple #[.int .i64 i34, v6.v])) ∧
      Same [k0] w30 w31 ∧
      R (.tuple #[]) w31) ∧
   ((x == 1) = false → ((x == 2) = true → ∀ w32 : World, Only [] w1 w32 → Calls Tryd.prog 28 #[.pointer (some (p.add 0)), .string x2] w32 fun e17 w33 => ∃ i35 : Int, ∃ v7 : OV, e17 = (.returned (.tuple #[.int .i64 i35, v7.v])) ∧
     Same [k0] w32 w33 ∧
     R (.tuple #[]) w33) ∧
   ((x == 2) = false → ((x == 3) = true → (3 + (x2.size : Int)) ≤ 9223372036854775807 ∧
    ((((ByteArray.mk #[105, 110, 40]) ++ x2).size : Int) + 1) ≤ 9223372036854775807 ∧
    ∀ w34 : World, Only [] w1 w34 → Calls Tryd.prog 28 #[.pointer (some (p.add 0)), .string (((ByteArray.mk #[105, 110, 40]) ++ x2) ++ (ByteArray.mk #[41]))] w34 fun e18 w35 => ∃ i36 : Int, ∃ v8 : OV, e18 = (.returned (.tuple #[.int .i64 i36, v8.v])) ∧
     Same [k0] w34 w35 ∧
     R (.tuple #[]) w35) ∧
   ((x == 3) = false → ((x == 4) = true → ∀ w36 : World, Only [] w1 w36 → ∃ l8 : Sl, Cells w36 (p.add 2) [l8.v] ∧
    ∃ p8 : Addr, SlAt l8 x3 1 p8 ∧
    ∃ s10 : ByteArray, Cells w36 p8 [.string s10] ∧
    Calls Tryd.prog 28 #[.pointer (some (p.add 0)), .string s10] w36 fun e19 w37 => ∃ i37 : Int, ∃ v9 : OV, e19 = (.returned (.tuple #[.int .i64 i37, v9.v])) ∧
     Same [k0] w36 w37 ∧
     ∀ w38 : World, Only [] w37 w38 → ∃ J3 : Nat → Prop, J3 k0 ∧
     ∃ p9 : Addr, SlAt x4 0 6 p9 ∧
     J3 p9.block ∧
     ∃ i38 : Int, ∃ i39 : Int, ∃ s11 : ByteArray, ∃ i40 : Int, ∃ l9 : Sl, ∃ i41 : Int, Cells w38 p9 [.int .i64 i38, .int .i64 i39, .string s11, .int .i64 i40, l9.v, .int .i64 i41] ∧
     ∃ p10 : Addr, SlAt x4 0 6 p10 ∧
     ∃ i42 : Int, ∃ i43 : Int, ∃ s12 : ByteArray, ∃ i44 : Int, ∃ l10 : Sl, ∃ i45 : Int, Cells w38 p10 [.int .i64 i42, .int .i64 i43, .string s12, .int .i64 i44, l10.v, .int .i64 i45] ∧
     Calls Tryd.prog 30 #[.agg #[.int .i64 i42, .int .i64 i43, .string s12, .int .i64 i44, l10.v, .int .i64 i45]] w38 fun e20 w39 => ∃ i46 : Int, e20 = (.returned (.int .i64 i46)) ∧
      Same [k0] w38 w39 ∧
      Keeps J3 w38 w39 ∧
      Calls Tryd.prog 11 #[.pointer (some p), .agg #[.int .i64 i38, .int .i64 i39, .string s11, .int .i64 i40, l9.v, .int .i64 i41], .bool (decide (i46 < 6))] w39 fun e21 w40 => e21 = (.returned (.tuple #[])) ∧
       Same [k0] w39 w40 ∧
       Keeps J3 w39 w40 ∧
       R (.tuple #[]) w40) ∧
   ((x == 4) = false → Calls Tryd.prog 30 #[.agg #[.int .i64 x, .int .i64 x1, .string x2, .int .i64 x3, x4.v, .int .i64 x5]] w1 fun e22 w41 => ∃ i47 : Int, e22 = (.returned (.int .i64 i47)) ∧
    Same [k0] w1 w41 ∧
    ∀ w42 : World, Only [] w41 w42 → ∃ J4 : Nat → Prop, J4 k0 ∧
    ∃ p11 : Addr, SlAt x4 0 6 p11 ∧
    J4 p11.block ∧
    ∃ i48 : Int, ∃ i49 : Int, ∃ s13 : ByteArray, ∃ i50 : Int, ∃ l11 : Sl, ∃ i51 : Int, Cells w42 p11 [.int .i64 i48, .int .i64 i49, .string s13, .int .i64 i50, l11.v, .int .i64 i51] ∧
    ∃ p12 : Addr, SlAt x4 0 6 p12 ∧
    ∃ i52 : Int, ∃ i53 : Int, ∃ s14 : ByteArray, ∃ i54 : Int, ∃ l12 : Sl, ∃ i55 : Int, Cells w42 p12 [.int .i64 i52, .int .i64 i53, .string s14, .int .i64 i54, l12.v, .int .i64 i55] ∧
    Calls Tryd.prog 30 #[.agg #[.int .i64 i52, .int .i64 i53, .string s14, .int .i64 i54, l12.v, .int .i64 i55]] w42 fun e23 w43 => ∃ i56 : Int, e23 = (.returned (.int .i64 i56)) ∧
     Same [k0] w42 w43 ∧
     Keeps J4 w42 w43 ∧
     Calls Tryd.prog 11 #[.pointer (some p), .agg #[.int .i64 i48, .int .i64 i49, .string s13, .int .i64 i50, l11.v, .int .i64 i51], .bool (decide (i56 < i47))] w43 fun e24 w44 => e24 = (.returned (.tuple #[])) ∧
      Same [k0] w43 w44 ∧
      Keeps J4 w43 w44 ∧
      ∀ w45 : World, Only [] w44 w45 → ∃ l13 : Sl, Cells w45 (p.add 2) [l13.v] ∧
      ∃ p13 : Addr, SlAt l13 x3 1 p13 ∧
      ∃ s15 : ByteArray, Cells w45 p13 [.string s15] ∧
      (1 + (s15.size : Int)) ≤ 9223372036854775807 ∧
      ((((ByteArray.mk #[32]) ++ s15).size : Int) + 1) ≤ 9223372036854775807 ∧
      Calls Tryd.prog 28 #[.pointer (some (p.add 0)), .string (((ByteArray.mk #[32]) ++ s15) ++ (ByteArray.mk #[32]))] w45 fun e25 w46 => ∃ i57 : Int, ∃ v10 : OV, e25 = (.returned (.tuple #[.int .i64 i57, v10.v])) ∧
       Same [k0] w45 w46 ∧
       ∀ w47 : World, Only [] w46 w47 → ∃ J5 : Nat → Prop, J5 k0 ∧
       ∃ p14 : Addr, SlAt x4 1 6 p14 ∧
       J5 p14.block ∧
       ∃ i58 : Int, ∃ i59 : Int, ∃ s16 : ByteArray, ∃ i60 : Int, ∃ l14 : Sl, ∃ i61 : Int, Cells w47 p14 [.int .i64 i58, .int .i64 i59, .string s16, .int .i64 i60, l14.v, .int .i64 i61] ∧
       ∃ p15 : Addr, SlAt x4 1 6 p15 ∧
       ∃ i62 : Int, ∃ i63 : Int, ∃ s17 : ByteArray, ∃ i64 : Int, ∃ l15 : Sl, ∃ i65 : Int, Cells w47 p15 [.int .i64 i62, .int .i64 i63, .string s17, .int .i64 i64, l15.v, .int .i64 i65] ∧
       Calls Tryd.prog 30 #[.agg #[.int .i64 i62, .int .i64 i63, .string s17, .int .i64 i64, l15.v, .int .i64 i65]] w47 fun e26 w48 => ∃ i66 : Int, e26 = (.returned (.int .i64 i66)) ∧
        Same [k0] w47 w48 ∧
        Keeps J5 w47 w48 ∧
        Calls Tryd.prog 11 #[.pointer (some p), .agg #[.int .i64 i58, .int .i64 i59, .string s16, .int .i64 i60, l14.v, .int .i64 i61], .bool (decide (i66 ≤ i47))] w48 fun e27 w49 => e27 = (.returned (.tuple #[])) ∧
         Same [k0] w48 w49 ∧
         Keeps J5 w48 w49 ∧
         R (.tuple #[]) w49))))))
theorem expr_page_expr_wp (p : Addr) (x : Int) (x1 : Int) (x2 : ByteArray) (x3 : Int) (x4 : Sl) (x5 : Int) (wrapped : Bool) (R : Value → World → Prop) (w : World) (h : expr_page_expr_vc p x x1 x2 x3 x4 x5 wrapped R w) : Calls Tryd.prog 11 #[.pointer (some p), .agg #[.int .i64 x, .int .i64 x1, .string x2, .int .i64 x3, x4.v, .int .i64 x5], .bool wrapped] w fun e w' => ∃ v, e = .returned v ∧ R v w' :=
  fn_by (an := .s .o (.s (.s .o (.s .o .o)) (.s (.s .o (.s (.s .o .o) .o)) (.s .o (.s .o (.s .o (.s .o (.s .o (.s .o (.s .o (.s .o (.s (.s .o .o) (.s .o (.s .o (.s .o .o))))))))))))))) (args := [.ad p, .agg (ofL [.int .i64 x, .int .i64 x1, .str x2, .int .i64 x3, .sl x4, .int .i64 x5]), .bt wrapped]) Tryd.checked.mixed (by kernel_rfl) (by kernel_rfl) h
def strings_Builder_String_vc (b : Addr) (R : Value → World → Prop) (w : World) : Prop :=
  ∀ w0 : World, Only [] w w0 → ∃ J0 : Nat → Prop, ∃ l0 : Sl, Cells w0 (b.add 1) [l0.v] ∧
  J0 ((b.add 1).block) ∧
  ∃ l1 : Sl, Cells w0 (b.add 1) [l1.v] ∧
  ∃ q0 : Option Addr, ∃ w1 : World, ((Builtin.unsafeSliceData_ #[46] 79 #[l0.v]).run Tryd.prog w0) = (.ok (.pointer q0) w1) ∧
  Keeps J0 w0 w1 ∧
  ∃ s0 : ByteArray, ∃ w2 : World, ((Builtin.unsafeString_ #[79, 3] 9 #[.pointer q0, .int .i64 (l1.n : Int)]).run Tryd.prog w1) = (.ok (.string s0) w2) ∧
  Keeps J0 w1 w2 ∧
  R (.string s0) w2
theorem strings_Builder_String_wp (b : Addr) (R : Value → World → Prop) (w : World) (h : strings_Builder_String_vc b R w) : Calls Tryd.prog 12 #[.pointer (some b)] w fun e w' => ∃ v, e = .returned v ∧ R v w' :=
  fn_by (an := .s .o (.s .o .o)) (args := [.ad b]) Tryd.checked.mixed (by kernel_rfl) (by kernel_rfl) h
def scan_Words_vc (R : Value → World → Prop) (w : World) : Prop :=
  ∃ l0 : Sl, ∃ w0 : World, ((Instr.buildSlice 23 16 #[.mk 0 (.string (ByteArray.mk #[97, 102, 116, 101, 114])), .mk 1 (.string (ByteArray.mk #[97, 108, 119, 97, 121, 115])), .mk 2 (.string (ByteArray.mk #[99, 104, 97, 114, 116])), .mk 3 (.string (ByteArray.mk #[100, 101, 101, 112])), .mk 4 (.string (ByteArray.mk #[101, 109, 105, 116])), .mk 5 (.string (ByteArray.mk #[101, 110, 116, 101, 114])), .mk 6 (.string (ByteArray.mk #[104, 105, 115, 116, 111, 114, 121])), .mk 7 (.string (ByteArray.mk #[105, 110])), .mk 8 (.string (ByteArray.mk #[105, 110, 105, 116, 105, 97, 108])), .mk 9 (.string (ByteArray.mk #[108, 101, 97, 118, 101])), .mk 10 (.string (ByteArray.mk #[111, 110])), .mk 11 (.string (ByteArray.mk #[112, 97, 114, 97, 108, 108, 101, 108])), .mk 12 (.string (ByteArray.mk #[114, 97, 105, 115, 101])), .mk 13 (.string (ByteArray.mk #[115, 101, 116])), .mk 14 (.string (ByteArray.mk #[115, 116, 97, 116, 101])), .mk 15 (.string (ByteArray.mk #[118, 97, 114]))]).run Tryd.prog w) = (.ok l0.v w0) ∧
  R l0.v w0
theorem scan_Words_wp (R : Value → World → Prop) (w : World) (h : scan_Words_vc R w) : Calls Tryd.prog 13 #[] w fun e w' => ∃ v, e = .returned v ∧ R v w' :=
  fn_by (an := .s .o (.s .o .o)) (args := []) Tryd.checked.mixed (by kernel_rfl) (by kernel_rfl) h
def scan_cursor_skip_vc (c : Addr) (R : Value → World → Prop) (w : World) : Prop :=
  ∃ J0 : Nat → World → Prop, ∃ k0 : Nat, J0 k0 w ∧
  ∀ k1 : Nat, ∀ w0 : World, J0 k1 w0 → Calls Tryd.prog 15 #[.pointer (some c)] w0 fun e0 w1 => ∃ b0 : Bool, e0 = (.returned (.bool b0)) ∧
   ((!b0) = true → ∃ s0 : ByteArray, Cells w1 (c.add 0) [.string s0] ∧
    ∃ i0 : Int, Cells w1 (c.add 1) [.int .i64 i0] ∧
    ∃ c0 : UInt8, (0 ≤ i0 ∧
     (s0[Int.toNat i0]?) = (some c0)) ∧
    ∀ w2 : World, Only [] w1 w2 → ∃ l0 : Sl, ∃ w3 : World, ((Instr.buildSlice 46 4 #[.mk 0 (.int .u8 9), .mk 1 (.int .u8 10), .mk 2 (.int .u8 13), .mk 3 (.int .u8 32)]).run Tryd.prog w2) = (.ok l0.v w3) ∧
    Calls Tryd.prog 31 #[.int .u8 (UInt8.toNat c0 : Int), l0.v] w3 fun e1 w4 => ∃ b1 : Bool, e1 = (.returned (.bool b1)) ∧
     (b1 = true → ∃ i1 : Int, Cells w4 (c.add 1) [.int .i64 i1] ∧
      ∃ k3 : Nat, ∃ k4 : Nat, ∃ z0 : List Value, ∃ k5 : Nat, (c.add 1) = ⟨k3, k4, none⟩ ∧
      Blk w4 k3 k5 z0 ∧
      (k4 + 1) ≤ z0.length ∧
      ∀ w5 : World, Only [k3] w4 w5 → Blk w5 k3 k5 (splice z0 k4 [.int .i64 (IntKind.wrap .i64 (i1 + 1))]) → ∃ k6 : Nat, k6 < k1 ∧
      J0 k6 w5) ∧
     (b1 = false → Calls Tryd.prog 33 #[.pointer (some c)] w4 fun e2 w6 => ∃ s2 : ByteArray, e2 = (.returned (.string s2)) ∧
      Calls Tryd.prog 32 #[.string s2, .string (ByteArray.mk #[47, 47])] w6 fun e3 w7 => ∃ b2 : Bool, e3 = (.returned (.bool b2)) ∧
       (b2 = true → Calls Tryd.prog 33 #[.pointer (some c)] w7 fun e4 w8 => ∃ s3 : ByteArray, e4 = (.returned (.string s3)) ∧
         Calls Tryd.prog 34 #[.string s3, .string (ByteArray.mk #[10])] w8 fun e5 w9 => ∃ s4 : ByteArray, ∃ s5 : ByteArray, ∃ b3 : Bool, e5 = (.returned (.tuple #[.string s4, .string s5, .bool b3])) ∧
          ∃ i2 : Int, Cells w9 (c.add 1) [.int .i64 i2] ∧
          ∃ k7 : Nat, ∃ k8 : Nat, ∃ z1 : List Value, ∃ k9 : Nat, (c.add 1) = ⟨k7, k8, none⟩ ∧
          Blk w9 k7 k9 z1 ∧
          (k8 + 1) ≤ z1.length ∧
          ∀ w10 : World, Only [k7] w9 w10 → Blk w10 k7 k9 (splice z1 k8 [.int .i64 (IntKind.wrap .i64 (i2 + (s4.size : Int)))]) → ∃ k10 : Nat, k10 < k1 ∧
          J0 k10 w10) ∧
       (b2 = false → R (.tuple #[]) w7))) ∧
   ((!b0) = false → R (.tuple #[]) w1)
theorem scan_cursor_skip_wp (c : Addr) (R : Value → World → Prop) (w : World) (h : scan_cursor_skip_vc c R w) : Calls Tryd.prog 14 #[.pointer (some c)] w fun e w' => ∃ v, e = .returned v ∧ R v w' :=
  fn_by (an := .j [0] [] (.s (.s .o (.s .o .o)) (.s .o (.s .o (.s .o (.s .o (.s (.s .o .o) .o)))))) .o) (args := [.ad c]) Tryd.checked.mixed (by kernel_rfl) (by kernel_rfl) h
def scan_cursor_end_vc (c : Addr) (R : Value → World → Prop) (w : World) : Prop :=
  ∃ i0 : Int, Cells w (c.add 1) [.int .i64 i0] ∧
  ∃ s0 : ByteArray, Cells w (c.add 0) [.string s0] ∧
  ∀ w0 : World, Only [] w w0 → R (.bool (decide (i0 ≥ (s0.size : Int)))) w0
theorem scan_cursor_end_wp (c : Addr) (R : Value → World → Prop) (w : World) (h : scan_cursor_end_vc c R w) : Calls Tryd.prog 15 #[.pointer (some c)] w fun e w' => ∃ v, e = .returned v ∧ R v w' :=
  fn_by (an := .s .o (.s .o .o)) (args := [.ad c]) Tryd.checked.mixed (by kernel_rfl) (by kernel_rfl) h
def scan_cutter_token_vc (c : Addr) (R : Value → World → Prop) (w : World) : Prop :=
  ∃ s0 : ByteArray, Cells w ((c.add 0).add 0) [.string s0] ∧
  ∃ i0 : Int, Cells w ((c.add 0).add 1) [.int .i64 i0] ∧
  ∃ c0 : UInt8, (0 ≤ i0 ∧
   (s0[Int.toNat i0]?) = (some c0)) ∧
  ∀ w0 : World, Only [] w w0 → Calls Tryd.prog 35 #[.int .u8 (UInt8.toNat c0 : Int)] w0 fun e0 w1 => ∃ b0 : Bool, e0 = (.returned (.bool b0)) ∧
   (b0 = true → Calls Tryd.prog 36 #[.pointer (some c)] w1 fun e1 w2 => ∃ i1 : Int, e1 = (.returned (.int .i64 i1)) ∧
     R (.int .i64 i1) w2) ∧
   (b0 = false → Calls Tryd.prog 37 #[.int .u8 (UInt8.toNat c0 : Int)] w1 fun e2 w3 => ∃ b1 : Bool, e2 = (.returned (.bool b1)) ∧
    (b1 = true → Calls Tryd.prog 38 #[.pointer (some c)] w3 fun e3 w4 => ∃ i2 : Int, e3 = (.returned (.int .i64 i2)) ∧
      R (.int .i64 i2) w4) ∧
    (b1 = false → Calls Tryd.prog 39 #[.pointer (some c)] w3 fun e4 w5 => ∃ i3 : Int, e4 = (.returned (.int .i64 i3)) ∧
     R (.int .i64 i3) w5))
theorem scan_cutter_token_wp (c : Addr) (R : Value → World → Prop) (w : World) (h : scan_cutter_token_vc c R w) : Calls Tryd.prog 16 #[.pointer (some c)] w fun e w' => ∃ v, e = .returned v ∧ R v w' :=
  fn_by (an := .s .o (.s (.s .o (.s .o (.s (.s .o .o) (.s .o (.s (.s .o .o) .o))))) (.s .o .o))) (args := [.ad c]) Tryd.checked.mixed (by kernel_rfl) (by kernel_rfl) h
def scan_cutter_add_vc (c : Addr) (t : Int) (t1 : ByteArray) (t2 : Int) (t3 : Int) (n_ : Int) (R : Value → World → Prop) (w : World) : Prop :=
  ∀ k0 : Nat, ∀ w0 : World, w.heap.size ≤ k0 → k0 < w0.heap.size → Only [] w w0 → ∃ i0 : Int, Cells w0 ((c.add 0).add 1) [.int .i64 i0] ∧
  ∀ w1 : World, Only [k0] w0 w1 → ∃ J0 : Nat → Prop, J0 ((c.add 3).block) ∧
  ∃ l0 : Sl, Cells w1 (c.add 3) [l0.v] ∧
  ∃ l1 : Sl, ∃ w2 : World, ((Instr.buildSlice 35 1 #[.mk 0 (.agg #[.int .i64 t, .string t1, .int .i64 t2, .int .i64 i0])]).run Tryd.prog w1) = (.ok l1.v w2) ∧
  Same [k0] w1 w2 ∧
  Keeps J0 w1 w2 ∧
  ∃ l2 : Sl, ∃ w3 : World, ((Builtin.append_ #[35, 35] 35 #[l0.v, l1.v]).run Tryd.prog w2) = (.ok l2.v w3) ∧
  Same [k0] w2 w3 ∧
  Keeps J0 w2 w3 ∧
  ∃ k1 : Nat, ∃ k2 : Nat, ∃ z0 : List Value, ∃ k3 : Nat, (c.add 3) = ⟨k1, k2, none⟩ ∧
  Blk w3 k1 k3 z0 ∧
  (k2 + 1) ≤ z0.length ∧
  k0 ≠ k1 ∧
  ∀ w4 : World, Only [k1] w3 w4 → Blk w4 k1 k3 (splice z0 k2 [l2.v]) → ∃ i1 : Int, Cells w4 ((c.add 0).add 1) [.int .i64 i1] ∧
  ∃ k4 : Nat, ∃ k5 : Nat, ∃ z1 : List Value, ∃ k6 : Nat, ((c.add 0).add 1) = ⟨k4, k5, none⟩ ∧
  Blk w4 k4 k6 z1 ∧
  (k5 + 1) ≤ z1.length ∧
  k0 ≠ k4 ∧
  ∀ w5 : World, Only [k4] w4 w5 → Blk w5 k4 k6 (splice z1 k5 [.int .i64 (IntKind.wrap .i64 (i1 + n_))]) → R (.tuple #[]) w5
theorem scan_cutter_add_wp (c : Addr) (t : Int) (t1 : ByteArray) (t2 : Int) (t3 : Int) (n_ : Int) (R : Value → World → Prop) (w : World) (h : scan_cutter_add_vc c t t1 t2 t3 n_ R w) : Calls Tryd.prog 17 #[.pointer (some c), .agg #[.int .i64 t, .string t1, .int .i64 t2, .int .i64 t3], .int .i64 n_] w fun e w' => ∃ v, e = .returned v ∧ R v w' :=
  fn_by (an := .s .o (.s .o (.s .o .o))) (args := [.ad c, .agg (ofL [.int .i64 t, .str t1, .int .i64 t2, .int .i64 t3]), .int .i64 n_]) Tryd.checked.mixed (by kernel_rfl) (by kernel_rfl) h
def slices_IndexFunc_api_Token_vc (s : Sl) (f : OV) (R : Value → World → Prop) (w : World) : Prop :=
  ∃ J0 : Nat → Int → World → Prop, ∃ k0 : Nat, J0 k0 0 w ∧
  ∀ k1 : Nat, ∀ i0 : Int, ∀ w0 : World, J0 k1 i0 w0 → ((decide (i0 < (s.n : Int))) = true → ∃ p0 : Addr, SlAt s i0 4 p0 ∧
   ∃ i1 : Int, ∃ s0 : ByteArray, ∃ i2 : Int, ∃ i3 : Int, Cells w0 p0 [.int .i64 i1, .string s0, .int .i64 i2, .int .i64 i3] ∧
   ∃ k2 : Nat, ∃ z0 : List Value, ∃ z1 : List Value, f.v = (.func (.func k2) z0.toArray z1.toArray) ∧
   (∀ x0 : Array Value, ∀ w1 : World, ((callFunc k2 x0).run Tryd.prog w1) = (.ok (.enter k2 x0) w1)) ∧
   Calls Tryd.prog k2 ((cat (cat z0 [.agg #[.int .i64 i1, .string s0, .int .i64 i2, .int .i64 i3]]) z1).toArray) w0 fun e0 w2 => ∃ b0 : Bool, e0 = (.returned (.bool b0)) ∧
    (b0 = true → R (.int .i64 i0) w2) ∧
    (b0 = false → ∃ k3 : Nat, k3 < k1 ∧
    J0 k3 (IntKind.wrap .i64 (i0 + 1)) w2)) ∧
  ((decide (i0 < (s.n : Int))) = false → R (.int .i64 (-1)) w0)
theorem slices_IndexFunc_api_Token_wp (s : Sl) (f : OV) (R : Value → World → Prop) (w : World) (h : slices_IndexFunc_api_Token_vc s f R w) : Calls Tryd.prog 18 #[s.v, f.v] w fun e w' => ∃ v, e = .returned v ∧ R v w' :=
  fn_by (an := .s .o (.s (.s .o (.j [0, 1, 7] [.s 8 (.int .i64)] (.s .o (.s (.s .o .o) (.s (.s .o (.s .o (.s (.s .o .o) .o))) .o))) .o)) (.s .o .o))) (args := [.sl s, .raw f]) Tryd.checked.mixed (by kernel_rfl) (by kernel_rfl) h
def expr_Parse_1_vc (t : Int) (t1 : ByteArray) (t2 : Int) (t3 : Int) (R : Value → World → Prop) (w : World) : Prop :=
  ∀ k0 : Nat, ∀ w0 : World, w.heap.size ≤ k0 → k0 < w0.heap.size → Only [] w w0 → R (.bool (t == 5)) w0
theorem expr_Parse_1_wp (t : Int) (t1 : ByteArray) (t2 : Int) (t3 : Int) (R : Value → World → Prop) (w : World) (h : expr_Parse_1_vc t t1 t2 t3 R w) : Calls Tryd.prog 19 #[.agg #[.int .i64 t, .string t1, .int .i64 t2, .int .i64 t3]] w fun e w' => ∃ v, e = .returned v ∧ R v w' :=
  fn_by (an := .s .o (.s .o .o)) (args := [.agg (ofL [.int .i64 t, .str t1, .int .i64 t2, .int .i64 t3])]) Tryd.checked.mixed (by kernel_rfl) (by kernel_rfl) h
def expr_reader_expr_vc (r : Addr) (k : Int) (R : Value → World → Prop) (w : World) : Prop :=
  ((k == 6) = true → ∀ k0 : Nat, ∀ w0 : World, w.heap.size ≤ k0 → k0 < w0.heap.size → Only [] w w0 → Calls Tryd.prog 40 #[.pointer (some r)] w0 fun e0 w1 => ∃ i0 : Int, ∃ i1 : Int, ∃ s0 : ByteArray, ∃ i2 : Int, ∃ l0 : Sl, ∃ i3 : Int, e0 = (.returned (.agg #[.int .i64 i0, .int .i64 i1, .string s0, .int .i64 i2, l0.v, .int .i64 i3])) ∧
    Same [k0] w0 w1 ∧
    ∀ w2 : World, Only [k0] w1 w2 → R (.agg #[.int .i64 i0, .int .i64 i1, .string s0, .int .i64 i2, l0.v, .int .i64 i3]) w2) ∧
  ((k == 6) = false → ∀ k1 : Nat, ∀ w3 : World, w.heap.size ≤ k1 → k1 < w3.heap.size → Only [] w w3 → Calls Tryd.prog 20 #[.pointer (some r), .int .i64 (IntKind.wrap .i64 (k + 1))] w3 fun e1 w4 => ∃ i4 : Int, ∃ i5 : Int, ∃ s1 : ByteArray, ∃ i6 : Int, ∃ l1 : Sl, ∃ i7 : Int, e1 = (.returned (.agg #[.int .i64 i4, .int .i64 i5, .string s1, .int .i64 i6, l1.v, .int .i64 i7])) ∧
   Same [k1] w3 w4 ∧
   ∀ k2 : Nat, ∀ w5 : World, w4.heap.size ≤ k2 → k2 < w5.heap.size → Only [] w4 w5 → Calls Tryd.prog 41 #[.pointer (some r), .int .i64 k] w5 fun e2 w6 => ∃ i8 : Int, e2 = (.returned (.int .i64 i8)) ∧
    Same [k1, k2] w5 w6 ∧
    ∃ J0 : Nat → Int → Int → Int → ByteArray → Int → Sl → Int → World → Prop, ∃ k3 : Nat, J0 k3 i8 i4 i5 s1 i6 l1 i7 w6 ∧
    ∀ k4 : Nat, ∀ i9 : Int, ∀ i10 : Int, ∀ i11 : Int, ∀ s2 : ByteArray, ∀ i12 : Int, ∀ l2 : Sl, ∀ i13 : Int, ∀ w7 : World, J0 k4 i9 i10 i11 s2 i12 l2 i13 w7 → ((i9 != 0) = true → ∃ i14 : Int, Cells w7 ((r.add 0).add 1) [.int .i64 i14] ∧
     ∃ k5 : Nat, ∃ k6 : Nat, ∃ z0 : List Value, ∃ k7 : Nat, ((r.add 0).add 1) = ⟨k5, k6, none⟩ ∧
     Blk w7 k5 k7 z0 ∧
     (k6 + 1) ≤ z0.length ∧
     k1 ≠ k5 ∧
     k2 ≠ k5 ∧
     ∀ w8 : World, Only [k5] w7 w8 → Blk w8 k5 k7 (splice z0 k6 [.int .i64 (IntKind.wrap .i64 (i14 + 1))]) → Calls Tryd.prog 20 #[.pointer (some r), .int .i64 (IntKind.wrap .i64 (k + 1))] w8 fun e3 w9 => ∃ i15 : Int, ∃ i16 : Int, ∃ s3 : ByteArray, ∃ i17 : Int, ∃ l3 : Sl, ∃ i18 : Int, e3 = (.returned (.agg #[.int .i64 i15, .int .i64 i16, .string s3, .int .i64 i17, l3.v, .int .i64 i18])) ∧
      Same [k1, k2] w8 w9 ∧
      ∀ k8 : Nat, ∀ w10 : World, w9.heap.size ≤ k8 → k8 < w10.heap.size → Only [] w9 w10 → ∃ l4 : Sl, ∃ w11 : World, ((Instr.buildSlice 25 2 #[.mk 0 (.agg #[.int .i64 i10, .int .i64 i11, .string s2, .int .i64 i12, l2.v, .int .i64 i13]), .mk 1 (.agg #[.int .i64 i15, .int .i64 i16, .string s3, .int .i64 i17, l3.v, .int .i64 i18])]).run Tryd.prog w10) = (.ok l4.v w11) ∧
      Same [k1, k2, k8] w10 w11 ∧
      ∀ w12 : World, Only [k2] w11 w12 → Calls Tryd.prog 41 #[.pointer (some r), .int .i64 k] w12 fun e4 w13 => ∃ i19 : Int, e4 = (.returned (.int .i64 i19)) ∧
       Same [k1, k2, k8] w12 w13 ∧
       ∃ k9 : Nat, k9 < k4 ∧
       J0 k9 i19 5 0 (ByteArray.mk #[]) i9 l4 i13 w13) ∧
    ((i9 != 0) = false → ∀ w14 : World, Only [k1] w7 w14 → R (.agg #[.int .i64 i10, .int .i64 i11, .string s2, .int .i64 i12, l2.v, .int .i64 i13]) w14))
theorem expr_reader_expr_wp (r : Addr) (k : Int) (R : Value → World → Prop) (w : World) (h : expr_reader_expr_vc r k R w) : Calls Tryd.prog 20 #[.pointer (some r), .int .i64 k] w fun e w' => ∃ v, e = .returned v ∧ R v w' :=
  fn_by (an := .s .o (.s (.s .o (.s (.s .o .o) .o)) (.s .o (.s (.s .o (.j [0, 1, 4, 5] [.s 6 (.int .i64), .b 5 [.int .i64, .int .i64, .str, .int .i64, .sl, .int .i64]] (.s (.s .o (.s .o .o)) (.s (.s .o (.s .o .o)) .o)) .o)) (.s .o .o))))) (args := [.ad r, .int .i64 k]) Tryd.checked.mixed (by kernel_rfl) (by kernel_rfl) h
def expr_cursor_bad_vc (c : Addr) (R : Value → World → Prop) (w : World) : Prop :=
  ∃ i0 : Int, Cells w ((c.add 2).add 0) [.int .i64 i0] ∧
  R (.bool (i0 != 0)) w
theorem expr_cursor_bad_wp (c : Addr) (R : Value → World → Prop) (w : World) (h : expr_cursor_bad_vc c R w) : Calls Tryd.prog 21 #[.pointer (some c)] w fun e w' => ∃ v, e = .returned v ∧ R v w' :=
  fn_by (an := .s .o (.s .o .o)) (args := [.ad c]) Tryd.checked.mixed (by kernel_rfl) (by kernel_rfl) h
def scan_Name_vc (s : ByteArray) (R : Value → World → Prop) (w : World) : Prop :=
  ∀ k0 : Nat, ∀ w0 : World, w.heap.size ≤ k0 → k0 < w0.heap.size → Only [] w w0 → ∃ J0 : Bool → ByteArray → Int → World → Prop, (∀ b0 : Bool, ∀ s0 : ByteArray, ∀ i0 : Int, ∀ w1 : World, J0 b0 s0 i0 w1 → R (.bool b0) w1) ∧
  (((!(s.toList == ((ByteArray.mk #[]).toList))) && (decide ((s.size : Int) ≤ 24))) = true → ∃ c0 : UInt8, ((0 : Int) ≤ 0 ∧
    s[0]? = (some c0)) ∧
   Calls Tryd.prog 35 #[.int .u8 (UInt8.toNat c0 : Int)] w0 fun e0 w2 => ∃ b1 : Bool, e0 = (.returned (.bool b1)) ∧
    Same [k0] w0 w2 ∧
    (b1 = true → Blk w2 k0 55 [.string s, .int .i64 0] → Calls Tryd.prog 42 #[.pointer (some ⟨k0, 0, none⟩)] w2 fun e1 w3 => ∃ s2 : ByteArray, e1 = (.returned (.string s2)) ∧
      ∃ s3 : ByteArray, ∃ i1 : Int, Blk w3 k0 55 [.string s3, .int .i64 i1] ∧
      ((s2.toList == s.toList) = true → Calls Tryd.prog 13 #[] w3 fun e2 w4 => ∃ l0 : Sl, e2 = (.returned l0.v) ∧
        ∃ s4 : ByteArray, ∃ i2 : Int, Blk w4 k0 55 [.string s4, .int .i64 i2] ∧
        Calls Tryd.prog 43 #[l0.v, .string s] w4 fun e3 w5 => ∃ b2 : Bool, e3 = (.returned (.bool b2)) ∧
         ∃ s5 : ByteArray, ∃ i3 : Int, Blk w5 k0 55 [.string s5, .int .i64 i3] ∧
         J0 (!b2) s5 i3 w5) ∧
      ((s2.toList == s.toList) = false → J0 false s3 i1 w3)) ∧
    (b1 = false → J0 false s 0 w2)) ∧
  (((!(s.toList == ((ByteArray.mk #[]).toList))) && (decide ((s.size : Int) ≤ 24))) = false → J0 false s 0 w0)
theorem scan_Name_wp (s : ByteArray) (R : Value → World → Prop) (w : World) (h : scan_Name_vc s R w) : Calls Tryd.prog 22 #[.string s] w fun e w' => ∃ v, e = .returned v ∧ R v w' :=
  fn_by (an := .s .o (.s .o (.s (.j [3] [.s 2 .bool, .b 3 [.str, .int .i64]] .o .o) .o))) (args := [.str s]) Tryd.checked.mixed (by kernel_rfl) (by kernel_rfl) h
def expr_row_vc (op : Int) (R : Value → World → Prop) (w : World) : Prop :=
  (((decide (op ≥ 3)) && (decide (op ≤ 5))) = true → R (.int .i64 5) w) ∧
  (((decide (op ≥ 3)) && (decide (op ≤ 5))) = false → ∃ J0 : Bool → World → Prop, (∀ b0 : Bool, ∀ w0 : World, J0 b0 w0 → (b0 = true → R (.int .i64 4) w0) ∧
   (b0 = false → (((decide (op ≥ 6)) && (decide (op ≤ 9))) = true → R (.int .i64 3) w0) ∧
   (((decide (op ≥ 6)) && (decide (op ≤ 9))) = false → ∃ J1 : Bool → World → Prop, (∀ b1 : Bool, ∀ w1 : World, J1 b1 w1 → (b1 = true → R (.int .i64 2) w1) ∧
    (b1 = false → ((op == 12) = true → R (.int .i64 1) w1) ∧
    ((op == 12) = false → ((op == 13) = true → R (.int .i64 0) w1) ∧
    ((op == 13) = false → R (.int .i64 6) w1)))) ∧
   ((op == 10) = true → J1 (op == 10) w0) ∧
   ((op == 10) = false → J1 (op == 11) w0)))) ∧
  ((op == 1) = true → J0 (op == 1) w) ∧
  ((op == 1) = false → J0 (op == 2) w))
theorem expr_row_wp (op : Int) (R : Value → World → Prop) (w : World) (h : expr_row_vc op R w) : Calls Tryd.prog 23 #[.int .i64 op] w fun e w' => ∃ v, e = .returned v ∧ R v w' :=
  fn_by (an := .s .o (.s (.s .o (.s (.s .o .o) (.j [0] [.s 10 .bool] (.s .o (.s .o .o)) (.s (.s .o .o) (.s .o (.s (.s .o .o) (.j [0] [.s 22 .bool] (.s .o (.s .o .o)) (.s (.s .o .o) (.s .o (.s (.s .o .o) (.s .o (.s (.s .o .o) .o)))))))))))) (.s .o .o))) (args := [.int .i64 op]) Tryd.checked.mixed (by kernel_rfl) (by kernel_rfl) h
def slices_ContainsFunc_api_Expr_vc (s : Sl) (f : OV) (R : Value → World → Prop) (w : World) : Prop :=
  Calls Tryd.prog 44 #[s.v, f.v] w fun e0 w0 => ∃ i0 : Int, e0 = (.returned (.int .i64 i0)) ∧
   R (.bool (decide (i0 ≥ 0))) w0
theorem slices_ContainsFunc_api_Expr_wp (s : Sl) (f : OV) (R : Value → World → Prop) (w : World) (h : slices_ContainsFunc_api_Expr_vc s f R w) : Calls Tryd.prog 24 #[s.v, f.v] w fun e w' => ∃ v, e = .returned v ∧ R v w' :=
  fn_by (an := .s .o (.s .o .o)) (args := [.sl s, .raw f]) Tryd.checked.mixed (by kernel_rfl) (by kernel_rfl) h
def expr_shape_1_vc (s : Int) (s1 : Int) (s2 : ByteArray) (s3 : Int) (s4 : Sl) (s5 : Int) (R : Value → World → Prop) (w : World) : Prop :=
  ∀ k0 : Nat, ∀ w0 : World, w.heap.size ≤ k0 → k0 < w0.heap.size → Only [] w w0 → Calls Tryd.prog 9 #[.agg #[.int .i64 s, .int .i64 s1, .string s2, .int .i64 s3, s4.v, .int .i64 s5]] w0 fun e0 w1 => ∃ b0 : Bool, e0 = (.returned (.bool b0)) ∧
   Same [k0] w0 w1 ∧
   R (.bool (!b0)) w1
theorem expr_shape_1_wp (s : Int) (s1 : Int) (s2 : ByteArray) (s3 : Int) (s4 : Sl) (s5 : Int) (R : Value → World → Prop) (w : World) (h : expr_shape_1_vc s s1 s2 s3 s4 s5 R w) : Calls Tryd.prog 25 #[.agg #[.int .i64 s, .int .i64 s1, .string s2, .int .i64 s3, s4.v, .int .i64 s5]] w fun e w' => ∃ v, e = .returned v ∧ R v w' :=
  fn_by (an := .s .o (.s .o .o)) (args := [.agg (ofL [.int .i64 s, .int .i64 s1, .str s2, .int .i64 s3, .sl s4, .int .i64 s5])]) Tryd.checked.mixed (by kernel_rfl) (by kernel_rfl) h
def strings_Builder_Len_vc (b : Addr) (R : Value → World → Prop) (w : World) : Prop :=
  ∃ l0 : Sl, Cells w (b.add 1) [l0.v] ∧
  R (.int .i64 (l0.n : Int)) w
theorem strings_Builder_Len_wp (b : Addr) (R : Value → World → Prop) (w : World) (h : strings_Builder_Len_vc b R w) : Calls Tryd.prog 26 #[.pointer (some b)] w fun e w' => ∃ v, e = .returned v ∧ R v w' :=
  fn_by (an := .s .o (.s .o .o)) (args := [.ad b]) Tryd.checked.mixed (by kernel_rfl) (by kernel_rfl) h
def strings_Builder_WriteByte_vc (b : Addr) (c : Int) (R : Value → World → Prop) (w : World) : Prop :=
  Calls Tryd.prog 45 #[.pointer (some b)] w fun e0 w0 => e0 = (.returned (.tuple #[])) ∧
   ∃ l0 : Sl, Cells w0 (b.add 1) [l0.v] ∧
   ∃ l1 : Sl, ∃ w1 : World, ((Instr.buildSlice 46 1 #[.mk 0 (.int .u8 c)]).run Tryd.prog w0) = (.ok l1.v w1) ∧
   ∃ l2 : Sl, ∃ w2 : World, ((Builtin.append_ #[46, 46] 46 #[l0.v, l1.v]).run Tryd.prog w1) = (.ok l2.v w2) ∧
   ∃ k0 : Nat, ∃ k1 : Nat, ∃ z0 : List Value, ∃ k2 : Nat, (b.add 1) = ⟨k0, k1, none⟩ ∧
   Blk w2 k0 k2 z0 ∧
   (k1 + 1) ≤ z0.length ∧
   ∀ w3 : World, Only [k0] w2 w3 → Blk w3 k0 k2 (splice z0 k1 [l2.v]) → R .nilIface w3
theorem strings_Builder_WriteByte_wp (b : Addr) (c : Int) (R : Value → World → Prop) (w : World) (h : strings_Builder_WriteByte_vc b c R w) : Calls Tryd.prog 27 #[.pointer (some b), .int .u8 c] w fun e w' => ∃ v, e = .returned v ∧ R v w' :=
  fn_by (an := .s .o (.s .o (.s .o (.s .o .o)))) (args := [.ad b, .int .u8 c]) Tryd.checked.mixed (by kernel_rfl) (by kernel_rfl) h
theorem strings_Builder_WriteByte_wpd (b : Addr) (c : Int) (R : Value → World → Prop) (w : World) (h : strings_Builder_WriteByte_vc b c R w) : CallsR Tryd.prog 27 #[.pointer (some b), .int .u8 c] w R :=
  fd_by (an := .s .o (.s .o (.s .o (.s .o .o)))) (args := [.ad b, .int .u8 c]) Tryd.checked.mixed (by kernel_rfl) (by kernel_rfl) h
def strings_Builder_WriteString_vc (b : Addr) (s : ByteArray) (R : Value → World → Prop) (w : World) : Prop :=
  Calls Tryd.prog 45 #[.pointer (some b)] w fun e0 w0 => e0 = (.returned (.tuple #[])) ∧
   ∃ l0 : Sl, Cells w0 (b.add 1) [l0.v] ∧
   ∃ l1 : Sl, ∃ w1 : World, ((Builtin.append_ #[46, 9] 46 #[l0.v, .string s]).run Tryd.prog w0) = (.ok l1.v w1) ∧
   ∃ k0 : Nat, ∃ k1 : Nat, ∃ z0 : List Value, ∃ k2 : Nat, (b.add 1) = ⟨k0, k1, none⟩ ∧
   Blk w1 k0 k2 z0 ∧
   (k1 + 1) ≤ z0.length ∧
   ∀ w2 : World, Only [k0] w1 w2 → Blk w2 k0 k2 (splice z0 k1 [l1.v]) → R (.tuple #[.int .i64 (s.size : Int), .nilIface]) w2
theorem strings_Builder_WriteString_wp (b : Addr) (s : ByteArray) (R : Value → World → Prop) (w : World) (h : strings_Builder_WriteString_vc b s R w) : Calls Tryd.prog 28 #[.pointer (some b), .string s] w fun e w' => ∃ v, e = .returned v ∧ R v w' :=
  fn_by (an := .s .o (.s .o (.s .o (.s .o .o)))) (args := [.ad b, .str s]) Tryd.checked.mixed (by kernel_rfl) (by kernel_rfl) h
def calc_Text_vc (n_ : Int) (R : Value → World → Prop) (w : World) : Prop :=
  Calls Tryd.prog 46 #[.int .i64 n_] w fun e0 w0 => ∃ s0 : ByteArray, e0 = (.returned (.string s0)) ∧
   R (.string s0) w0
theorem calc_Text_wp (n_ : Int) (R : Value → World → Prop) (w : World) (h : calc_Text_vc n_ R w) : Calls Tryd.prog 29 #[.int .i64 n_] w fun e w' => ∃ v, e = .returned v ∧ R v w' :=
  fn_by (an := .s .o (.s .o .o)) (args := [.int .i64 n_]) Tryd.checked.mixed (by kernel_rfl) (by kernel_rfl) h
def expr_level_vc (x : Int) (x1 : Int) (x2 : ByteArray) (x3 : Int) (x4 : Sl) (x5 : Int) (R : Value → World → Prop) (w : World) : Prop :=
  ((x != 5) = true → ∀ k0 : Nat, ∀ w0 : World, w.heap.size ≤ k0 → k0 < w0.heap.size → Only [] w w0 → R (.int .i64 6) w0) ∧
  ((x != 5) = false → ∀ k1 : Nat, ∀ w1 : World, w.heap.size ≤ k1 → k1 < w1.heap.size → Only [] w w1 → Calls Tryd.prog 23 #[.int .i64 x3] w1 fun e0 w2 => ∃ i0 : Int, e0 = (.returned (.int .i64 i0)) ∧
   Same [k1] w1 w2 ∧
   R (.int .i64 i0) w2)
theorem expr_level_wp (x : Int) (x1 : Int) (x2 : ByteArray) (x3 : Int) (x4 : Sl) (x5 : Int) (R : Value → World → Prop) (w : World) (h : expr_level_vc x x1 x2 x3 x4 x5 R w) : Calls Tryd.prog 30 #[.agg #[.int .i64 x, .int .i64 x1, .string x2, .int .i64 x3, x4.v, .int .i64 x5]] w fun e w' => ∃ v, e = .returned v ∧ R v w' :=
  fn_by (an := .s .o (.s (.s .o (.s (.s .o .o) .o)) (.s .o .o))) (args := [.agg (ofL [.int .i64 x, .int .i64 x1, .str x2, .int .i64 x3, .sl x4, .int .i64 x5])]) Tryd.checked.mixed (by kernel_rfl) (by kernel_rfl) h
def scan_one_vc (c : Int) (of_ : Sl) (R : Value → World → Prop) (w : World) : Prop :=
  Calls Tryd.prog 47 #[of_.v, .int .u8 c] w fun e0 w0 => ∃ b0 : Bool, e0 = (.returned (.bool b0)) ∧
   R (.bool b0) w0
theorem scan_one_wp (c : Int) (of_ : Sl) (R : Value → World → Prop) (w : World) (h : scan_one_vc c of_ R w) : Calls Tryd.prog 31 #[.int .u8 c, of_.v] w fun e w' => ∃ v, e = .returned v ∧ R v w' :=
  fn_by (an := .s .o (.s .o .o)) (args := [.int .u8 c, .sl of_]) Tryd.checked.mixed (by kernel_rfl) (by kernel_rfl) h
def strings_HasPrefix_vc (s : ByteArray) (prefix_ : ByteArray) (R : Value → World → Prop) (w : World) : Prop :=
  Calls Tryd.prog 48 #[.string s, .string prefix_] w fun e0 w0 => ∃ b0 : Bool, e0 = (.returned (.bool b0)) ∧
   R (.bool b0) w0
theorem strings_HasPrefix_wp (s : ByteArray) (prefix_ : ByteArray) (R : Value → World → Prop) (w : World) (h : strings_HasPrefix_vc s prefix_ R w) : Calls Tryd.prog 32 #[.string s, .string prefix_] w fun e w' => ∃ v, e = .returned v ∧ R v w' :=
  fn_by (an := .s .o (.s .o .o)) (args := [.str s, .str prefix_]) Tryd.checked.mixed (by kernel_rfl) (by kernel_rfl) h
def scan_cursor_rest_vc (c : Addr) (R : Value → World → Prop) (w : World) : Prop :=
  ∃ s0 : ByteArray, Cells w (c.add 0) [.string s0] ∧
  ∃ i0 : Int, Cells w (c.add 1) [.int .i64 i0] ∧
  ∃ k0 : Nat, (i0 = (k0 : Int) ∧
   k0 ≤ s0.size) ∧
  ∀ w0 : World, Only [] w w0 → R (.string (s0.extract k0 s0.size)) w0
theorem scan_cursor_rest_wp (c : Addr) (R : Value → World → Prop) (w : World) (h : scan_cursor_rest_vc c R w) : Calls Tryd.prog 33 #[.pointer (some c)] w fun e w' => ∃ v, e = .returned v ∧ R v w' :=
  fn_by (an := .s .o (.s .o .o)) (args := [.ad c]) Tryd.checked.mixed (by kernel_rfl) (by kernel_rfl) h
def strings_Cut_vc (s : ByteArray) (sep : ByteArray) (R : Value → World → Prop) (w : World) : Prop :=
  Calls Tryd.prog 49 #[.string s, .string sep] w fun e0 w0 => ∃ s0 : ByteArray, ∃ s1 : ByteArray, ∃ b0 : Bool, e0 = (.returned (.tuple #[.string s0, .string s1, .bool b0])) ∧
   R (.tuple #[.string s0, .string s1, .bool b0]) w0
theorem strings_Cut_wp (s : ByteArray) (sep : ByteArray) (R : Value → World → Prop) (w : World) (h : strings_Cut_vc s sep R w) : Calls Tryd.prog 34 #[.string s, .string sep] w fun e w' => ∃ v, e = .returned v ∧ R v w' :=
  fn_by (an := .s .o (.s .o .o)) (args := [.str s, .str sep]) Tryd.checked.mixed (by kernel_rfl) (by kernel_rfl) h
def scan_letter_vc (c : Int) (R : Value → World → Prop) (w : World) : Prop :=
  R (.bool (((decide (97 ≤ (bits .or .u8 c 32))) && (decide ((bits .or .u8 c 32) ≤ 122))) || (c == 95))) w
theorem scan_letter_wp (c : Int) (R : Value → World → Prop) (w : World) (h : scan_letter_vc c R w) : Calls Tryd.prog 35 #[.int .u8 c] w fun e w' => ∃ v, e = .returned v ∧ R v w' :=
  fn_by (an := .s .o (.s .o .o)) (args := [.int .u8 c]) Tryd.checked.mixed (by kernel_rfl) (by kernel_rfl) h
def scan_cutter_word_vc (c : Addr) (R : Value → World → Prop) (w : World) : Prop :=
  Calls Tryd.prog 42 #[.pointer (some (c.add 0))] w fun e0 w0 => ∃ s0 : ByteArray, e0 = (.returned (.string s0)) ∧
   ((decide ((s0.size : Int) > 24)) = true → R (.int .i64 2) w0) ∧
   ((decide ((s0.size : Int) > 24)) = false → ∃ J0 : Int → World → Prop, (∀ i0 : Int, ∀ w1 : World, J0 i0 w1 → Calls Tryd.prog 50 #[.string s0] w1 fun e1 w2 => ∃ s1 : ByteArray, e1 = (.returned (.string s1)) ∧
     Calls Tryd.prog 17 #[.pointer (some c), .agg #[.int .i64 i0, .string s1, .int .i64 0, .int .i64 0], .int .i64 (s0.size : Int)] w2 fun e2 w3 => e2 = (.returned (.tuple #[])) ∧
      R (.int .i64 0) w3) ∧
   ∃ l0 : Sl, Cells w0 (c.add 2) [l0.v] ∧
   Calls Tryd.prog 43 #[l0.v, .string s0] w0 fun e3 w4 => ∃ b0 : Bool, e3 = (.returned (.bool b0)) ∧
    (b0 = true → J0 2 w4) ∧
    (b0 = false → J0 1 w4))
theorem scan_cutter_word_wp (c : Addr) (R : Value → World → Prop) (w : World) (h : scan_cutter_word_vc c R w) : Calls Tryd.prog 36 #[.pointer (some c)] w fun e w' => ∃ v, e = .returned v ∧ R v w' :=
  fn_by (an := .s .o (.s .o (.s (.s .o (.s (.s .o .o) .o)) (.s .o (.j [0, 3] [.s 4 (.int .i64)] (.s .o (.s .o .o)) (.s .o (.s .o .o))))))) (args := [.ad c]) Tryd.checked.mixed (by kernel_rfl) (by kernel_rfl) h
def scan_digit_vc (c : Int) (R : Value → World → Prop) (w : World) : Prop :=
  R (.bool ((decide (48 ≤ c)) && (decide (c ≤ 57)))) w
theorem scan_digit_wp (c : Int) (R : Value → World → Prop) (w : World) (h : scan_digit_vc c R w) : Calls Tryd.prog 37 #[.int .u8 c] w fun e w' => ∃ v, e = .returned v ∧ R v w' :=
  fn_by (an := .s .o (.s .o .o)) (args := [.int .u8 c]) Tryd.checked.mixed (by kernel_rfl) (by kernel_rfl) h
def scan_cutter_number_vc (c : Addr) (R : Value → World → Prop) (w : World) : Prop :=
  Calls Tryd.prog 33 #[.pointer (some (c.add 0))] w fun e0 w0 => ∃ s0 : ByteArray, e0 = (.returned (.string s0)) ∧
   Calls Tryd.prog 51 #[.string s0] w0 fun e1 w1 => ∃ i0 : Int, ∃ i1 : Int, ∃ i2 : Int, e1 = (.returned (.tuple #[.int .i64 i0, .int .i64 i1, .int .i64 i2])) ∧
    ((i2 != 0) = true → R (.int .i64 i2) w1) ∧
    ((i2 != 0) = false → Calls Tryd.prog 42 #[.pointer (some (c.add 0))] w1 fun e2 w2 => ∃ s1 : ByteArray, e2 = (.returned (.string s1)) ∧
     ((decide ((s1.size : Int) > i1)) = true → R (.int .i64 4) w2) ∧
     ((decide ((s1.size : Int) > i1)) = false → Calls Tryd.prog 17 #[.pointer (some c), .agg #[.int .i64 3, .string (ByteArray.mk #[]), .int .i64 i0, .int .i64 0], .int .i64 i1] w2 fun e3 w3 => e3 = (.returned (.tuple #[])) ∧
      R (.int .i64 0) w3))
theorem scan_cutter_number_wp (c : Addr) (R : Value → World → Prop) (w : World) (h : scan_cutter_number_vc c R w) : Calls Tryd.prog 38 #[.pointer (some c)] w fun e w' => ∃ v, e = .returned v ∧ R v w' :=
  fn_by (an := .s .o (.s .o (.s (.s .o (.s (.s .o .o) .o)) (.s (.s .o (.s (.s .o .o) .o)) (.s .o (.s .o .o)))))) (args := [.ad c]) Tryd.checked.mixed (by kernel_rfl) (by kernel_rfl) h
def scan_cutter_sign_vc (c : Addr) (R : Value → World → Prop) (w : World) : Prop :=
  Calls Tryd.prog 33 #[.pointer (some (c.add 0))] w fun e0 w0 => ∃ s0 : ByteArray, e0 = (.returned (.string s0)) ∧
   ∃ J0 : Int → World → Prop, (∀ i0 : Int, ∀ w1 : World, J0 i0 w1 → ∃ J1 : Int → World → Prop, (∀ i1 : Int, ∀ w2 : World, J1 i1 w2 → ((i1 == 0) = true → R (.int .i64 4) w2) ∧
     ((i1 == 0) = false → ∃ k0 : Nat, (i1 = (k0 : Int) ∧
      k0 ≤ s0.size) ∧
     Calls Tryd.prog 50 #[.string (s0.extract 0 k0)] w2 fun e1 w3 => ∃ s1 : ByteArray, e1 = (.returned (.string s1)) ∧
      Calls Tryd.prog 17 #[.pointer (some c), .agg #[.int .i64 4, .string s1, .int .i64 0, .int .i64 0], .int .i64 i1] w3 fun e2 w4 => e2 = (.returned (.tuple #[])) ∧
       R (.int .i64 0) w4)) ∧
    ∃ J2 : Bool → World → Prop, (∀ b0 : Bool, ∀ w5 : World, J2 b0 w5 → (b0 = true → J1 2 w5) ∧
     (b0 = false → J1 i0 w5)) ∧
    ((decide ((s0.size : Int) > 1)) = true → ∃ c0 : UInt8, ((0 : Int) ≤ 1 ∧
      s0[1]? = (some c0)) ∧
     (((UInt8.toNat c0 : Int) == 61) = true → ∃ c1 : UInt8, ((0 : Int) ≤ 0 ∧
       s0[0]? = (some c1)) ∧
      ∀ w6 : World, Only [] w1 w6 → ∃ l0 : Sl, ∃ w7 : World, ((Instr.buildSlice 46 4 #[.mk 0 (.int .u8 60), .mk 1 (.int .u8 62), .mk 2 (.int .u8 61), .mk 3 (.int .u8 33)]).run Tryd.prog w6) = (.ok l0.v w7) ∧
      Calls Tryd.prog 31 #[.int .u8 (UInt8.toNat c1 : Int), l0.v] w7 fun e3 w8 => ∃ b1 : Bool, e3 = (.returned (.bool b1)) ∧
       (b1 = true → J2 true w8) ∧
       (b1 = false → ∃ c2 : UInt8, ((0 : Int) ≤ 1 ∧
        s0[1]? = (some c2)) ∧
       ∃ c3 : UInt8, ((0 : Int) ≤ 0 ∧
        s0[0]? = (some c3)) ∧
       (((UInt8.toNat c2 : Int) == (UInt8.toNat c3 : Int)) = true → ∃ c4 : UInt8, ((0 : Int) ≤ 0 ∧
         s0[0]? = (some c4)) ∧
        ∃ l1 : Sl, ∃ w9 : World, ((Instr.buildSlice 46 2 #[.mk 0 (.int .u8 38), .mk 1 (.int .u8 124)]).run Tryd.prog w8) = (.ok l1.v w9) ∧
        Calls Tryd.prog 31 #[.int .u8 (UInt8.toNat c4 : Int), l1.v] w9 fun e4 w10 => ∃ b2 : Bool, e4 = (.returned (.bool b2)) ∧
         (b2 = true → J2 true w10) ∧
         (b2 = false → 2 ≤ s0.size ∧
         J2 (((s0.extract 0 2).toList) == ((ByteArray.mk #[45, 62]).toList)) w10)) ∧
       (((UInt8.toNat c2 : Int) == (UInt8.toNat c3 : Int)) = false → 2 ≤ s0.size ∧
       J2 (((s0.extract 0 2).toList) == ((ByteArray.mk #[45, 62]).toList)) w8))) ∧
     (((UInt8.toNat c0 : Int) == 61) = false → ∃ c5 : UInt8, ((0 : Int) ≤ 1 ∧
      s0[1]? = (some c5)) ∧
     ∃ c6 : UInt8, ((0 : Int) ≤ 0 ∧
      s0[0]? = (some c6)) ∧
     (((UInt8.toNat c5 : Int) == (UInt8.toNat c6 : Int)) = true → ∃ c7 : UInt8, ((0 : Int) ≤ 0 ∧
       s0[0]? = (some c7)) ∧
      ∀ w11 : World, Only [] w1 w11 → ∃ l2 : Sl, ∃ w12 : World, ((Instr.buildSlice 46 2 #[.mk 0 (.int .u8 38), .mk 1 (.int .u8 124)]).run Tryd.prog w11) = (.ok l2.v w12) ∧
      Calls Tryd.prog 31 #[.int .u8 (UInt8.toNat c7 : Int), l2.v] w12 fun e5 w13 => ∃ b3 : Bool, e5 = (.returned (.bool b3)) ∧
       (b3 = true → J2 true w13) ∧
       (b3 = false → 2 ≤ s0.size ∧
       J2 (((s0.extract 0 2).toList) == ((ByteArray.mk #[45, 62]).toList)) w13)) ∧
     (((UInt8.toNat c5 : Int) == (UInt8.toNat c6 : Int)) = false → 2 ≤ s0.size ∧
     ∀ w14 : World, Only [] w1 w14 → J2 (((s0.extract 0 2).toList) == ((ByteArray.mk #[45, 62]).toList)) w14))) ∧
    ((decide ((s0.size : Int) > 1)) = false → ∀ w15 : World, Only [] w1 w15 → J2 false w15)) ∧
   ∃ c8 : UInt8, ((0 : Int) ≤ 0 ∧
    s0[0]? = (some c8)) ∧
   ∃ l3 : Sl, ∃ w16 : World, ((Instr.buildSlice 46 17 #[.mk 0 (.int .u8 123), .mk 1 (.int .u8 125), .mk 2 (.int .u8 40), .mk 3 (.int .u8 41), .mk 4 (.int .u8 91), .mk 5 (.int .u8 93), .mk 6 (.int .u8 59), .mk 7 (.int .u8 44), .mk 8 (.int .u8 61), .mk 9 (.int .u8 43), .mk 10 (.int .u8 45), .mk 11 (.int .u8 42), .mk 12 (.int .u8 47), .mk 13 (.int .u8 37), .mk 14 (.int .u8 60), .mk 15 (.int .u8 62), .mk 16 (.int .u8 33)]).run Tryd.prog w0) = (.ok l3.v w16) ∧
   ∃ l4 : Sl, ∃ w17 : World, ((convert 46 46 l3.v).run Tryd.prog w16) = (.ok l4.v w17) ∧
   Calls Tryd.prog 31 #[.int .u8 (UInt8.toNat c8 : Int), l4.v] w17 fun e6 w18 => ∃ b4 : Bool, e6 = (.returned (.bool b4)) ∧
    (b4 = true → J0 1 w18) ∧
    (b4 = false → J0 0 w18)
theorem scan_cutter_sign_wp (c : Addr) (R : Value → World → Prop) (w : World) (h : scan_cutter_sign_vc c R w) : Calls Tryd.prog 39 #[.pointer (some c)] w fun e w' => ∃ v, e = .returned v ∧ R v w' :=
  fn_by (an := .s .o (.s .o (.s .o (.j [0, 3] [.s 4 (.int .i64)] (.s .o (.s .o .o)) (.j [0, 3] [.s 4 (.int .i64)] (.s (.j [0, 3, 4] [.s 45 .bool] .o .o) (.s .o .o)) (.s (.s .o (.s (.s .o .o) .o)) (.s .o (.s .o .o)))))))) (args := [.ad c]) Tryd.checked.mixed (by kernel_rfl) (by kernel_rfl) h
def expr_reader_one_vc (r : Addr) (R : Value → World → Prop) (w : World) : Prop :=
  ∀ k0 : Nat, ∀ k1 : Nat, ∀ w0 : World, w.heap.size ≤ k0 → k0 < w0.heap.size → w.heap.size ≤ k1 → k1 < w0.heap.size → Only [] w w0 → Calls Tryd.prog 52 #[.pointer (some (r.add 0))] w0 fun e0 w1 => ∃ i0 : Int, ∃ s0 : ByteArray, ∃ i1 : Int, ∃ i2 : Int, e0 = (.returned (.agg #[.int .i64 i0, .string s0, .int .i64 i1, .int .i64 i2])) ∧
   Same [k0, k1] w0 w1 ∧
   ∀ k2 : Nat, ∀ k3 : Nat, ∀ w2 : World, w1.heap.size ≤ k2 → k2 < w2.heap.size → w1.heap.size ≤ k3 → k3 < w2.heap.size → Only [] w1 w2 → ∃ J0 : Option Addr → Int → Int → ByteArray → Int → Sl → Int → Int → Int → ByteArray → Int → Sl → Int → World → Prop, (∀ q0 : Option Addr, ∀ i3 : Int, ∀ i4 : Int, ∀ s1 : ByteArray, ∀ i5 : Int, ∀ l0 : Sl, ∀ i6 : Int, ∀ i7 : Int, ∀ i8 : Int, ∀ s2 : ByteArray, ∀ i9 : Int, ∀ l1 : Sl, ∀ i10 : Int, ∀ w3 : World, J0 q0 i3 i4 s1 i5 l0 i6 i7 i8 s2 i9 l1 i10 w3 → ∃ p0 : Addr, q0 = (some p0) ∧
    ∃ i11 : Int, Cells w3 ((p0.add 0).add 1) [.int .i64 i11] ∧
    ∃ p1 : Addr, q0 = (some p1) ∧
    ∃ k4 : Nat, ∃ k5 : Nat, ∃ z0 : List Value, ∃ k6 : Nat, ((p1.add 0).add 1) = ⟨k4, k5, none⟩ ∧
    Blk w3 k4 k6 z0 ∧
    (k5 + 1) ≤ z0.length ∧
    k0 ≠ k4 ∧
    k1 ≠ k4 ∧
    k2 ≠ k4 ∧
    k3 ≠ k4 ∧
    ∀ w4 : World, Only [k4] w3 w4 → Blk w4 k4 k6 (splice z0 k5 [.int .i64 (IntKind.wrap .i64 (i11 + 1))]) → ∀ w5 : World, Only [k1] w4 w5 → R (.agg #[.int .i64 i7, .int .i64 i8, .string s2, .int .i64 i9, l1.v, .int .i64 i10]) w5) ∧
   Calls Tryd.prog 21 #[.pointer (some (r.add 0))] w2 fun e1 w6 => ∃ b0 : Bool, e1 = (.returned (.bool b0)) ∧
    Same [k0, k1, k2, k3] w2 w6 ∧
    (b0 = true → ∀ w7 : World, Only [k1] w6 w7 → R (.agg #[.int .i64 0, .int .i64 0, .string (ByteArray.mk #[]), .int .i64 0, Sl.nil.v, .int .i64 i2]) w7) ∧
    (b0 = false → ∃ l2 : Sl, ∃ w8 : World, ((Instr.buildSlice 23 2 #[.mk 0 (.string (ByteArray.mk #[45])), .mk 1 (.string (ByteArray.mk #[33]))]).run Tryd.prog w6) = (.ok l2.v w8) ∧
    Same [k0, k1, k2, k3] w6 w8 ∧
    Calls Tryd.prog 53 #[.pointer (some (r.add 0)), l2.v] w8 fun e2 w9 => ∃ b1 : Bool, e2 = (.returned (.bool b1)) ∧
     Same [k0, k1, k2, k3] w8 w9 ∧
     (b1 = true → ∀ w10 : World, Only [k3] w9 w10 → ∃ J1 : Int → Int → ByteArray → Int → Sl → Int → World → Prop, (∀ i12 : Int, ∀ i13 : Int, ∀ s3 : ByteArray, ∀ i14 : Int, ∀ l3 : Sl, ∀ i15 : Int, ∀ w11 : World, J1 i12 i13 s3 i14 l3 i15 w11 → Calls Tryd.prog 54 #[.pointer (some r), .func (.func 40) #[.pointer (some r)] #[]] w11 fun e3 w12 => ∃ i16 : Int, ∃ i17 : Int, ∃ s4 : ByteArray, ∃ i18 : Int, ∃ l4 : Sl, ∃ i19 : Int, e3 = (.returned (.agg #[.int .i64 i16, .int .i64 i17, .string s4, .int .i64 i18, l4.v, .int .i64 i19])) ∧
        Same [k0, k1, k2, k3] w11 w12 ∧
        ∃ l5 : Sl, ∃ w13 : World, ((Instr.buildSlice 25 1 #[.mk 0 (.agg #[.int .i64 i16, .int .i64 i17, .string s4, .int .i64 i18, l4.v, .int .i64 i19])]).run Tryd.prog w12) = (.ok l5.v w13) ∧
        Same [k0, k1, k2, k3] w12 w13 ∧
        ∀ w14 : World, Only [k1, k3] w13 w14 → R (.agg #[.int .i64 i12, .int .i64 i13, .string s3, .int .i64 i14, l5.v, .int .i64 i15]) w14) ∧
      ((s0.toList == ((ByteArray.mk #[33]).toList)) = true → ∀ w15 : World, Only [k3] w10 w15 → J1 4 0 (ByteArray.mk #[]) 15 Sl.nil i2 w15) ∧
      ((s0.toList == ((ByteArray.mk #[33]).toList)) = false → J1 4 0 (ByteArray.mk #[]) 14 Sl.nil i2 w10)) ∧
     (b1 = false → ∃ l6 : Sl, ∃ w16 : World, ((Instr.buildSlice 23 1 #[.mk 0 (.string (ByteArray.mk #[40]))]).run Tryd.prog w9) = (.ok l6.v w16) ∧
     Same [k0, k1, k2, k3] w9 w16 ∧
     Calls Tryd.prog 53 #[.pointer (some (r.add 0)), l6.v] w16 fun e4 w17 => ∃ b2 : Bool, e4 = (.returned (.bool b2)) ∧
      Same [k0, k1, k2, k3] w16 w17 ∧
      (b2 = true → Blk w17 k0 62 [.pointer (some r)] → Calls Tryd.prog 54 #[.pointer (some r), .func (.func 55) #[] #[.pointer (some ⟨k0, 0, none⟩)]] w17 fun e5 w18 => ∃ i20 : Int, ∃ i21 : Int, ∃ s5 : ByteArray, ∃ i22 : Int, ∃ l7 : Sl, ∃ i23 : Int, e5 = (.returned (.agg #[.int .i64 i20, .int .i64 i21, .string s5, .int .i64 i22, l7.v, .int .i64 i23])) ∧
        Same [k1, k2, k3] w17 w18 ∧
        ∃ q1 : Option Addr, Blk w18 k0 62 [.pointer q1] ∧
        ∀ w19 : World, Only [k1] w18 w19 → Blk w19 k0 62 [.pointer q1] → R (.agg #[.int .i64 i20, .int .i64 i21, .string s5, .int .i64 i22, l7.v, .int .i64 i23]) w19) ∧
      (b2 = false → ((i0 == 3) = true → ∀ w20 : World, Only [] w17 w20 → k0 ≠ k1 → k0 ≠ k2 → k0 ≠ k3 → k1 ≠ k2 → k1 ≠ k3 → k2 ≠ k3 → ∃ J2 : Nat → Prop, J2 k2 ∧
       Out J2 k3 ∧
       Out J2 k3 ∧
       ∀ w21 : World, Only [k3] w20 w21 → J0 (some r) 0 0 (ByteArray.mk #[]) 0 Sl.nil 0 1 i1 (ByteArray.mk #[]) 0 Sl.nil i2 w21) ∧
      ((i0 == 3) = false → ((i0 == 1) = true → ∀ w22 : World, Only [] w17 w22 → k0 ≠ k1 → k0 ≠ k2 → k0 ≠ k3 → k1 ≠ k2 → k1 ≠ k3 → k2 ≠ k3 → ∃ J3 : Nat → Prop, J3 k2 ∧
       Out J3 k3 ∧
       Out J3 k3 ∧
       ∀ w23 : World, Only [k3] w22 w23 → J0 (some r) 0 0 (ByteArray.mk #[]) 0 Sl.nil 0 2 0 s0 0 Sl.nil i2 w23) ∧
      ((i0 == 1) = false → (((i0 == 2) && (s0.toList == ((ByteArray.mk #[105, 110]).toList))) = true → ∃ i24 : Int, Cells w17 ((r.add 0).add 1) [.int .i64 i24] ∧
       ∃ k7 : Nat, ∃ k8 : Nat, ∃ z1 : List Value, ∃ k9 : Nat, ((r.add 0).add 1) = ⟨k7, k8, none⟩ ∧
       Blk w17 k7 k9 z1 ∧
       (k8 + 1) ≤ z1.length ∧
       k0 ≠ k7 ∧
       k1 ≠ k7 ∧
       k2 ≠ k7 ∧
       k3 ≠ k7 ∧
       ∀ w24 : World, Only [k7] w17 w24 → Blk w24 k7 k9 (splice z1 k8 [.int .i64 (IntKind.wrap .i64 (i24 + 1))]) → Calls Tryd.prog 56 #[.pointer (some (r.add 0)), .string (ByteArray.mk #[40])] w24 fun e6 w25 => e6 = (.returned (.tuple #[])) ∧
        Same [k0, k1, k2, k3] w24 w25 ∧
        Calls Tryd.prog 57 #[.pointer (some r)] w25 fun e7 w26 => ∃ s6 : ByteArray, e7 = (.returned (.string s6)) ∧
         Same [k0, k1, k2, k3] w25 w26 ∧
         ∀ w27 : World, Only [k3] w26 w27 → Calls Tryd.prog 56 #[.pointer (some (r.add 0)), .string (ByteArray.mk #[41])] w27 fun e8 w28 => e8 = (.returned (.tuple #[])) ∧
          Same [k0, k1, k2, k3] w27 w28 ∧
          ∀ w29 : World, Only [k1] w28 w29 → R (.agg #[.int .i64 3, .int .i64 0, .string s6, .int .i64 0, Sl.nil.v, .int .i64 i2]) w29) ∧
      (((i0 == 2) && (s0.toList == ((ByteArray.mk #[105, 110]).toList))) = false → Calls Tryd.prog 58 #[.pointer (some (r.add 0))] w17 fun e9 w30 => e9 = (.returned (.tuple #[])) ∧
       Same [k0, k1, k2, k3] w17 w30 ∧
       ∀ w31 : World, Only [k1] w30 w31 → R (.agg #[.int .i64 0, .int .i64 0, .string (ByteArray.mk #[]), .int .i64 0, Sl.nil.v, .int .i64 i2]) w31))))))
theorem expr_reader_one_wp (r : Addr) (R : Value → World → Prop) (w : World) (h : expr_reader_one_vc r R w) : Calls Tryd.prog 40 #[.pointer (some r)] w fun e w' => ∃ v, e = .returned v ∧ R v w' :=
  fn_by (an := .s .o (.s .o (.s .o (.j [1, 2, 3, 4] [.b 1 [.ptr], .b 2 [.int .i64, .int .i64, .str, .int .i64, .sl, .int .i64], .b 4 [.int .i64, .int .i64, .str, .int .i64, .sl, .int .i64]] (.s .o (.s (.s .o .o) (.s .o (.s (.s .o (.j [1, 2, 3, 4] [.b 4 [.int .i64, .int .i64, .str, .int .i64, .sl, .int .i64]] (.s .o (.s .o .o)) (.s .o (.s .o .o)))) (.s .o (.s (.s .o .o) (.s .o (.s .o (.s .o (.s .o (.s .o (.s (.s .o (.s .o (.s .o (.s .o (.s .o .o))))) (.s .o (.s .o .o)))))))))))))) (.s .o (.s .o .o)))))) (args := [.ad r]) Tryd.checked.mixed (by kernel_rfl) (by kernel_rfl) h
def expr_reader_operator_vc (r : Addr) (k : Int) (R : Value → World → Prop) (w : World) : Prop :=
  ∃ J0 : Nat → Int → World → Prop, ∃ k0 : Nat, J0 k0 1 w ∧
  ∀ k1 : Nat, ∀ i0 : Int, ∀ w0 : World, J0 k1 i0 w0 → ((decide (i0 ≤ 13)) = true → ∃ J1 : Bool → World → Prop, (∀ b0 : Bool, ∀ w1 : World, J1 b0 w1 → (b0 = true → R (.int .i64 i0) w1) ∧
    (b0 = false → ∃ k2 : Nat, k2 < k1 ∧
    J0 k2 (IntKind.wrap .i64 (i0 + 1)) w1)) ∧
   ∀ w2 : World, Only [] w0 w2 → Calls Tryd.prog 23 #[.int .i64 i0] w2 fun e0 w3 => ∃ i1 : Int, e0 = (.returned (.int .i64 i1)) ∧
    ((i1 == k) = true → ∃ l0 : Sl, Cells w3 (r.add 5) [l0.v] ∧
     ∃ p0 : Addr, SlAt l0 i0 1 p0 ∧
     ∃ s0 : ByteArray, Cells w3 p0 [.string s0] ∧
     ∃ l1 : Sl, ∃ w4 : World, ((Instr.buildSlice 23 1 #[.mk 0 (.string s0)]).run Tryd.prog w3) = (.ok l1.v w4) ∧
     Calls Tryd.prog 53 #[.pointer (some (r.add 0)), l1.v] w4 fun e1 w5 => ∃ b1 : Bool, e1 = (.returned (.bool b1)) ∧
      J1 b1 w5) ∧
    ((i1 == k) = false → J1 false w3)) ∧
  ((decide (i0 ≤ 13)) = false → R (.int .i64 0) w0)
theorem expr_reader_operator_wp (r : Addr) (k : Int) (R : Value → World → Prop) (w : World) (h : expr_reader_operator_vc r k R w) : Calls Tryd.prog 41 #[.pointer (some r), .int .i64 k] w fun e w' => ∃ v, e = .returned v ∧ R v w' :=
  fn_by (an := .s .o (.s (.s .o (.j [0, 1] [.s 5 (.int .i64)] (.s (.s .o (.s .o .o)) (.s (.s (.j [0, 1, 5] [.s 27 .bool] .o .o) (.s (.s .o .o) .o)) .o)) .o)) (.s .o .o))) (args := [.ad r, .int .i64 k]) Tryd.checked.mixed (by kernel_rfl) (by kernel_rfl) h
def scan_cursor_row_vc (c : Addr) (R : Value → World → Prop) (w : World) : Prop :=
  Calls Tryd.prog 33 #[.pointer (some c)] w fun e0 w0 => ∃ s0 : ByteArray, e0 = (.returned (.string s0)) ∧
   ∃ J0 : Nat → Int → World → Prop, ∃ k0 : Nat, J0 k0 0 w0 ∧
   ∀ k1 : Nat, ∀ i0 : Int, ∀ w1 : World, J0 k1 i0 w1 → ∃ J1 : Bool → World → Prop, (∀ b0 : Bool, ∀ w2 : World, J1 b0 w2 → (b0 = true → ∃ k2 : Nat, k2 < k1 ∧
     J0 k2 (IntKind.wrap .i64 (i0 + 1)) w2) ∧
    (b0 = false → ∃ k3 : Nat, (i0 = (k3 : Int) ∧
     k3 ≤ s0.size) ∧
    R (.string (s0.extract 0 k3)) w2)) ∧
   ((decide (i0 < (s0.size : Int))) = true → ∃ c0 : UInt8, (0 ≤ i0 ∧
     (s0[Int.toNat i0]?) = (some c0)) ∧
    Calls Tryd.prog 35 #[.int .u8 (UInt8.toNat c0 : Int)] w1 fun e1 w3 => ∃ b1 : Bool, e1 = (.returned (.bool b1)) ∧
     (b1 = true → J1 true w3) ∧
     (b1 = false → ∃ c1 : UInt8, (0 ≤ i0 ∧
      (s0[Int.toNat i0]?) = (some c1)) ∧
     Calls Tryd.prog 37 #[.int .u8 (UInt8.toNat c1 : Int)] w3 fun e2 w4 => ∃ b2 : Bool, e2 = (.returned (.bool b2)) ∧
      J1 b2 w4)) ∧
   ((decide (i0 < (s0.size : Int))) = false → J1 false w1)
theorem scan_cursor_row_wp (c : Addr) (R : Value → World → Prop) (w : World) (h : scan_cursor_row_vc c R w) : Calls Tryd.prog 42 #[.pointer (some c)] w fun e w' => ∃ v, e = .returned v ∧ R v w' :=
  fn_by (an := .s .o (.s .o (.s .o (.s (.j [3] [.s 4 (.int .i64)] (.s (.s (.j [3, 4] [.s 22 .bool] .o .o) (.s .o .o)) .o) .o) (.s .o .o))))) (args := [.ad c]) Tryd.checked.mixed (by kernel_rfl) (by kernel_rfl) h
def slices_Contains_string_vc (s : Sl) (v1 : ByteArray) (R : Value → World → Prop) (w : World) : Prop :=
  Calls Tryd.prog 59 #[s.v, .string v1] w fun e0 w0 => ∃ i0 : Int, e0 = (.returned (.int .i64 i0)) ∧
   R (.bool (decide (i0 ≥ 0))) w0
theorem slices_Contains_string_wp (s : Sl) (v1 : ByteArray) (R : Value → World → Prop) (w : World) (h : slices_Contains_string_vc s v1 R w) : Calls Tryd.prog 43 #[s.v, .string v1] w fun e w' => ∃ v, e = .returned v ∧ R v w' :=
  fn_by (an := .s .o (.s .o .o)) (args := [.sl s, .str v1]) Tryd.checked.mixed (by kernel_rfl) (by kernel_rfl) h
def slices_IndexFunc_api_Expr_vc (s : Sl) (f : OV) (R : Value → World → Prop) (w : World) : Prop :=
  ∃ J0 : Nat → Int → World → Prop, ∃ k0 : Nat, J0 k0 0 w ∧
  ∀ k1 : Nat, ∀ i0 : Int, ∀ w0 : World, J0 k1 i0 w0 → ((decide (i0 < (s.n : Int))) = true → ∃ p0 : Addr, SlAt s i0 6 p0 ∧
   ∃ i1 : Int, ∃ i2 : Int, ∃ s0 : ByteArray, ∃ i3 : Int, ∃ l0 : Sl, ∃ i4 : Int, Cells w0 p0 [.int .i64 i1, .int .i64 i2, .string s0, .int .i64 i3, l0.v, .int .i64 i4] ∧
   ∃ k2 : Nat, ∃ z0 : List Value, ∃ z1 : List Value, f.v = (.func (.func k2) z0.toArray z1.toArray) ∧
   (∀ x0 : Array Value, ∀ w1 : World, ((callFunc k2 x0).run Tryd.prog w1) = (.ok (.enter k2 x0) w1)) ∧
   Calls Tryd.prog k2 ((cat (cat z0 [.agg #[.int .i64 i1, .int .i64 i2, .string s0, .int .i64 i3, l0.v, .int .i64 i4]]) z1).toArray) w0 fun e0 w2 => ∃ b0 : Bool, e0 = (.returned (.bool b0)) ∧
    (b0 = true → R (.int .i64 i0) w2) ∧
    (b0 = false → ∃ k3 : Nat, k3 < k1 ∧
    J0 k3 (IntKind.wrap .i64 (i0 + 1)) w2)) ∧
  ((decide (i0 < (s.n : Int))) = false → R (.int .i64 (-1)) w0)
theorem slices_IndexFunc_api_Expr_wp (s : Sl) (f : OV) (R : Value → World → Prop) (w : World) (h : slices_IndexFunc_api_Expr_vc s f R w) : Calls Tryd.prog 44 #[s.v, f.v] w fun e w' => ∃ v, e = .returned v ∧ R v w' :=
  fn_by (an := .s .o (.s (.s .o (.j [0, 1, 7] [.s 8 (.int .i64)] (.s .o (.s (.s .o .o) (.s (.s .o (.s .o (.s (.s .o .o) .o))) .o))) .o)) (.s .o .o))) (args := [.sl s, .raw f]) Tryd.checked.mixed (by kernel_rfl) (by kernel_rfl) h
def strings_Builder_copyCheck_vc (b : Addr) (R : Value → World → Prop) (w : World) : Prop :=
  ∃ q0 : Option Addr, Cells w (b.add 0) [.pointer q0] ∧
  (q0.isNone = true → ∃ v0 : OV, ∃ w0 : World, ((convert 45 99 (.pointer (some b))).run Tryd.prog w) = (.ok v0.v w0) ∧
   ∃ v1 : OV, ∃ w1 : World, ((extV 60 #[v0.v]).run Tryd.prog w0) = (.ok v1.v w1) ∧
   ∃ q1 : Option Addr, ∃ w2 : World, ((convert 99 45 v1.v).run Tryd.prog w1) = (.ok (.pointer q1) w2) ∧
   ∃ k0 : Nat, ∃ k1 : Nat, ∃ z0 : List Value, ∃ k2 : Nat, (b.add 0) = ⟨k0, k1, none⟩ ∧
   Blk w2 k0 k2 z0 ∧
   (k1 + 1) ≤ z0.length ∧
   ∀ w3 : World, Only [k0] w2 w3 → Blk w3 k0 k2 (splice z0 k1 [.pointer q1]) → R (.tuple #[]) w3) ∧
  (q0.isNone = false → ∃ q2 : Option Addr, Cells w (b.add 0) [.pointer q2] ∧
  ∃ b0 : Bool, ∃ w4 : World, ((binOp .neq 45 (.pointer q2) (.pointer (some b))).run Tryd.prog w) = (.ok (.bool b0) w4) ∧
  (b0 = true → False) ∧
  (b0 = false → R (.tuple #[]) w4))
theorem strings_Builder_copyCheck_wp (b : Addr) (R : Value → World → Prop) (w : World) (h : strings_Builder_copyCheck_vc b R w) : Calls Tryd.prog 45 #[.pointer (some b)] w fun e w' => ∃ v, e = .returned v ∧ R v w' :=
  fn_by (an := .s .o (.s .o (.s .o (.s .o .o)))) (args := [.ad b]) Tryd.checked.mixed (by kernel_rfl) (by kernel_rfl) h
def slices_Contains_byte_vc (s : Sl) (v1 : Int) (R : Value → World → Prop) (w : World) : Prop :=
  Calls Tryd.prog 62 #[s.v, .int .u8 v1] w fun e0 w0 => ∃ i0 : Int, e0 = (.returned (.int .i64 i0)) ∧
   R (.bool (decide (i0 ≥ 0))) w0
theorem slices_Contains_byte_wp (s : Sl) (v1 : Int) (R : Value → World → Prop) (w : World) (h : slices_Contains_byte_vc s v1 R w) : Calls Tryd.prog 47 #[s.v, .int .u8 v1] w fun e w' => ∃ v, e = .returned v ∧ R v w' :=
  fn_by (an := .s .o (.s .o .o)) (args := [.sl s, .int .u8 v1]) Tryd.checked.mixed (by kernel_rfl) (by kernel_rfl) h
def internal_stringslite_HasPrefix_vc (s : ByteArray) (prefix_ : ByteArray) (R : Value → World → Prop) (w : World) : Prop :=
  ∃ k0 : Nat, ((decide ((s.size : Int) ≥ (prefix_.size : Int))) = true → (prefix_.size : Int) = (k0 : Int) ∧
   k0 ≤ s.size) ∧
  R (.bool ((decide ((s.size : Int) ≥ (prefix_.size : Int))) && (((s.extract 0 k0).toList) == prefix_.toList))) w
theorem internal_stringslite_HasPrefix_wp (s : ByteArray) (prefix_ : ByteArray) (R : Value → World → Prop) (w : World) (h : internal_stringslite_HasPrefix_vc s prefix_ R w) : Calls Tryd.prog 48 #[.string s, .string prefix_] w fun e w' => ∃ v, e = .returned v ∧ R v w' :=
  fn_by (an := .s .o (.s .o .o)) (args := [.str s, .str prefix_]) Tryd.checked.mixed (by kernel_rfl) (by kernel_rfl) h
def internal_stringslite_Cut_vc (s : ByteArray) (sep : ByteArray) (R : Value → World → Prop) (w : World) : Prop :=
  Calls Tryd.prog 63 #[.string s, .string sep] w fun e0 w0 => ∃ i0 : Int, e0 = (.returned (.int .i64 i0)) ∧
   ((decide (i0 ≥ 0)) = true → ∃ k0 : Nat, (i0 = (k0 : Int) ∧
     k0 ≤ s.size) ∧
    ∃ k1 : Nat, ((IntKind.wrap .i64 (i0 + (sep.size : Int))) = (k1 : Int) ∧
     k1 ≤ s.size) ∧
    ∀ w1 : World, Only [] w0 w1 → R (.tuple #[.string (s.extract 0 k0), .string (s.extract k1 s.size), .bool true]) w1) ∧
   ((decide (i0 ≥ 0)) = false → R (.tuple #[.string s, .string (ByteArray.mk #[]), .bool false]) w0)
theorem internal_stringslite_Cut_wp (s : ByteArray) (sep : ByteArray) (R : Value → World → Prop) (w : World) (h : internal_stringslite_Cut_vc s sep R w) : Calls Tryd.prog 49 #[.string s, .string sep] w fun e w' => ∃ v, e = .returned v ∧ R v w' :=
  fn_by (an := .s .o (.s (.s .o (.s .o (.s (.s .o .o) .o))) (.s .o .o))) (args := [.str s, .str sep]) Tryd.checked.mixed (by kernel_rfl) (by kernel_rfl) h
def strings_Clone_vc (s : ByteArray) (R : Value → World → Prop) (w : World) : Prop :=
  Calls Tryd.prog 64 #[.string s] w fun e0 w0 => ∃ s0 : ByteArray, e0 = (.returned (.string s0)) ∧
   R (.string s0) w0
theorem strings_Clone_wp (s : ByteArray) (R : Value → World → Prop) (w : World) (h : strings_Clone_vc s R w) : Calls Tryd.prog 50 #[.string s] w fun e w' => ∃ v, e = .returned v ∧ R v w' :=
  fn_by (an := .s .o (.s .o .o)) (args := [.str s]) Tryd.checked.mixed (by kernel_rfl) (by kernel_rfl) h
def calc_Parse_vc (s : ByteArray) (R : Value → World → Prop) (w : World) : Prop :=
  ∃ J0 : Nat → Int → World → Prop, ∃ k0 : Nat, J0 k0 0 w ∧
  ∀ k1 : Nat, ∀ i0 : Int, ∀ w0 : World, J0 k1 i0 w0 → ∃ J1 : Bool → World → Prop, (∀ b0 : Bool, ∀ w1 : World, J1 b0 w1 → (b0 = true → ∃ k2 : Nat, k2 < k1 ∧
    J0 k2 (IntKind.wrap .i64 (i0 + 1)) w1) ∧
   (b0 = false → ((s.toList == ((ByteArray.mk #[]).toList)) = true → R (.tuple #[.int .i64 0, .int .i64 0, .int .i64 3]) w1) ∧
   ((s.toList == ((ByteArray.mk #[]).toList)) = false → ∃ J2 : Bool → World → Prop, (∀ b1 : Bool, ∀ w2 : World, J2 b1 w2 → (b1 = true → R (.tuple #[.int .i64 0, .int .i64 0, .int .i64 4]) w2) ∧
    (b1 = false → ∃ k3 : Nat, (i0 = (k3 : Int) ∧
     k3 ≤ s.size) ∧
    Calls Tryd.prog 66 #[.string (s.extract 0 k3), .int .i64 10, .int .i64 64] w2 fun e0 w3 => ∃ i1 : Int, ∃ v0 : OV, e0 = (.returned (.tuple #[.int .i64 i1, v0.v])) ∧
     Ifc v0.v ∧
     ((!(niV v0.v)) = true → R (.tuple #[.int .i64 0, .int .i64 0, .int .i64 20]) w3) ∧
     ((!(niV v0.v)) = false → R (.tuple #[.int .i64 i1, .int .i64 i0, .int .i64 0]) w3))) ∧
   ((i0 == 0) = true → J2 (i0 == 0) w1) ∧
   ((i0 == 0) = false → ∃ c0 : UInt8, ((decide (i0 > 1)) = true → (0 : Int) ≤ 0 ∧
    s[0]? = (some c0)) ∧
   J2 ((decide (i0 > 1)) && ((UInt8.toNat c0 : Int) == 48)) w1)))) ∧
  ((decide (i0 < (s.size : Int))) = true → ∃ c1 : UInt8, (0 ≤ i0 ∧
    (s[Int.toNat i0]?) = (some c1)) ∧
   Calls Tryd.prog 65 #[.int .u8 (UInt8.toNat c1 : Int)] w0 fun e1 w4 => ∃ b2 : Bool, e1 = (.returned (.bool b2)) ∧
    J1 b2 w4) ∧
  ((decide (i0 < (s.size : Int))) = false → J1 false w0)
theorem calc_Parse_wp (s : ByteArray) (R : Value → World → Prop) (w : World) (h : calc_Parse_vc s R w) : Calls Tryd.prog 51 #[.string s] w fun e w' => ∃ v, e = .returned v ∧ R v w' :=
  fn_by (an := .s .o (.s .o (.s (.j [0] [.s 5 (.int .i64)] (.s (.s (.j [0, 5] [.s 17 .bool] .o .o) (.s .o .o)) .o) .o) (.s (.s .o (.s (.s .o .o) (.j [0, 5] [.s 23 .bool] (.s .o (.s .o .o)) (.s (.s .o .o) .o)))) (.s .o (.s (.s .o (.s (.s .o .o) .o)) (.s .o .o))))))) (args := [.str s]) Tryd.checked.mixed (by kernel_rfl) (by kernel_rfl) h
def expr_cursor_now_vc (c : Addr) (R : Value → World → Prop) (w : World) : Prop :=
  ∀ k0 : Nat, ∀ w0 : World, w.heap.size ≤ k0 → k0 < w0.heap.size → Only [] w w0 → ∃ l0 : Sl, Cells w0 (c.add 0) [l0.v] ∧
  ∃ i0 : Int, Cells w0 (c.add 1) [.int .i64 i0] ∧
  ∃ p0 : Addr, SlAt l0 i0 4 p0 ∧
  ∃ i1 : Int, ∃ s0 : ByteArray, ∃ i2 : Int, ∃ i3 : Int, Cells w0 p0 [.int .i64 i1, .string s0, .int .i64 i2, .int .i64 i3] ∧
  ∀ w1 : World, Only [k0] w0 w1 → R (.agg #[.int .i64 i1, .string s0, .int .i64 i2, .int .i64 i3]) w1
theorem expr_cursor_now_wp (c : Addr) (R : Value → World → Prop) (w : World) (h : expr_cursor_now_vc c R w) : Calls Tryd.prog 52 #[.pointer (some c)] w fun e w' => ∃ v, e = .returned v ∧ R v w' :=
  fn_by (an := .s .o (.s .o .o)) (args := [.ad c]) Tryd.checked.mixed (by kernel_rfl) (by kernel_rfl) h
def expr_cursor_is_vc (c : Addr) (signs : Sl) (R : Value → World → Prop) (w : World) : Prop :=
  Calls Tryd.prog 52 #[.pointer (some c)] w fun e0 w0 => ∃ i0 : Int, ∃ s0 : ByteArray, ∃ i1 : Int, ∃ i2 : Int, e0 = (.returned (.agg #[.int .i64 i0, .string s0, .int .i64 i1, .int .i64 i2])) ∧
   ∀ k0 : Nat, ∀ w1 : World, w0.heap.size ≤ k0 → k0 < w1.heap.size → Only [] w0 w1 → ∃ J0 : Bool → World → Prop, (∀ b0 : Bool, ∀ w2 : World, J0 b0 w2 → R (.bool b0) w2) ∧
   Calls Tryd.prog 21 #[.pointer (some c)] w1 fun e1 w3 => ∃ b1 : Bool, e1 = (.returned (.bool b1)) ∧
    Same [k0] w1 w3 ∧
    (((!b1) && (i0 == 4)) = true → Calls Tryd.prog 43 #[signs.v, .string s0] w3 fun e2 w4 => ∃ b2 : Bool, e2 = (.returned (.bool b2)) ∧
      Same [k0] w3 w4 ∧
      J0 b2 w4) ∧
    (((!b1) && (i0 == 4)) = false → J0 false w3)
theorem expr_cursor_is_wp (c : Addr) (signs : Sl) (R : Value → World → Prop) (w : World) (h : expr_cursor_is_vc c signs R w) : Calls Tryd.prog 53 #[.pointer (some c), signs.v] w fun e w' => ∃ v, e = .returned v ∧ R v w' :=
  fn_by (an := .s .o (.s .o (.s (.j [5] [.s 4 .bool] .o .o) .o))) (args := [.ad c, .sl signs]) Tryd.checked.mixed (by kernel_rfl) (by kernel_rfl) h
def expr_reader_within_vc (r : Addr) (read : OV) (R : Value → World → Prop) (w : World) : Prop :=
  ∀ k0 : Nat, ∀ w0 : World, w.heap.size ≤ k0 → k0 < w0.heap.size → Only [] w w0 → ∃ i0 : Int, Cells w0 (r.add 4) [.int .i64 i0] ∧
  ((i0 == 20) = true → Calls Tryd.prog 67 #[.pointer (some (r.add 0)), .int .i64 21] w0 fun e0 w1 => e0 = (.returned (.tuple #[])) ∧
    Same [k0] w0 w1 ∧
    ∀ w2 : World, Only [k0] w1 w2 → R (.agg #[.int .i64 0, .int .i64 0, .string (ByteArray.mk #[]), .int .i64 0, Sl.nil.v, .int .i64 0]) w2) ∧
  ((i0 == 20) = false → ∃ i1 : Int, Cells w0 ((r.add 0).add 1) [.int .i64 i1] ∧
  ∃ k1 : Nat, ∃ k2 : Nat, ∃ z0 : List Value, ∃ k3 : Nat, ((r.add 0).add 1) = ⟨k1, k2, none⟩ ∧
  Blk w0 k1 k3 z0 ∧
  (k2 + 1) ≤ z0.length ∧
  k0 ≠ k1 ∧
  ∀ w3 : World, Only [k1] w0 w3 → Blk w3 k1 k3 (splice z0 k2 [.int .i64 (IntKind.wrap .i64 (i1 + 1))]) → ∃ i2 : Int, Cells w3 (r.add 4) [.int .i64 i2] ∧
  ∃ k4 : Nat, ∃ k5 : Nat, ∃ z1 : List Value, ∃ k6 : Nat, (r.add 4) = ⟨k4, k5, none⟩ ∧
  Blk w3 k4 k6 z1 ∧
  (k5 + 1) ≤ z1.length ∧
  k0 ≠ k4 ∧
  ∀ w4 : World, Only [k4] w3 w4 → Blk w4 k4 k6 (splice z1 k5 [.int .i64 (IntKind.wrap .i64 (i2 + 1))]) → ∃ k7 : Nat, ∃ z2 : List Value, ∃ z3 : List Value, read.v = (.func (.func k7) z2.toArray z3.toArray) ∧
  (∀ x0 : Array Value, ∀ w5 : World, ((callFunc k7 x0).run Tryd.prog w5) = (.ok (.enter k7 x0) w5)) ∧
  Calls Tryd.prog k7 ((cat (cat z2 []) z3).toArray) w4 fun e1 w6 => ∃ i3 : Int, ∃ i4 : Int, ∃ s0 : ByteArray, ∃ i5 : Int, ∃ l0 : Sl, ∃ i6 : Int, e1 = (.returned (.agg #[.int .i64 i3, .int .i64 i4, .string s0, .int .i64 i5, l0.v, .int .i64 i6])) ∧
   Same [k0] w4 w6 ∧
   ∀ k8 : Nat, ∀ w7 : World, w6.heap.size ≤ k8 → k8 < w7.heap.size → Only [] w6 w7 → ∃ i7 : Int, Cells w7 (r.add 4) [.int .i64 i7] ∧
   ∃ k9 : Nat, ∃ k10 : Nat, ∃ z4 : List Value, ∃ k11 : Nat, (r.add 4) = ⟨k9, k10, none⟩ ∧
   Blk w7 k9 k11 z4 ∧
   (k10 + 1) ≤ z4.length ∧
   k0 ≠ k9 ∧
   k8 ≠ k9 ∧
   ∀ w8 : World, Only [k9] w7 w8 → Blk w8 k9 k11 (splice z4 k10 [.int .i64 (IntKind.wrap .i64 (i7 - 1))]) → ∀ w9 : World, Only [k0] w8 w9 → R (.agg #[.int .i64 i3, .int .i64 i4, .string s0, .int .i64 i5, l0.v, .int .i64 i6]) w9)
theorem expr_reader_within_wp (r : Addr) (read : OV) (R : Value → World → Prop) (w : World) (h : expr_reader_within_vc r read R w) : Calls Tryd.prog 54 #[.pointer (some r), read.v] w fun e w' => ∃ v, e = .returned v ∧ R v w' :=
  fn_by (an := .s .o (.s (.s .o (.s (.s .o (.s .o .o)) .o)) (.s .o (.s .o (.s .o (.s .o (.s .o .o))))))) (args := [.ad r, .raw read]) Tryd.checked.mixed (by kernel_rfl) (by kernel_rfl) h
def expr_reader_one_1_vc (ccap0 : Addr) (R : Value → World → Prop) (w : World) : Prop :=
  ∀ k0 : Nat, ∀ w0 : World, w.heap.size ≤ k0 → k0 < w0.heap.size → Only [] w w0 → ∃ q0 : Option Addr, Cells w0 ccap0 [.pointer q0] ∧
  Calls Tryd.prog 20 #[.pointer q0, .int .i64 0] w0 fun e0 w1 => ∃ i0 : Int, ∃ i1 : Int, ∃ s0 : ByteArray, ∃ i2 : Int, ∃ l0 : Sl, ∃ i3 : Int, e0 = (.returned (.agg #[.int .i64 i0, .int .i64 i1, .string s0, .int .i64 i2, l0.v, .int .i64 i3])) ∧
   Same [k0] w0 w1 ∧
   ∀ k1 : Nat, ∀ w2 : World, w1.heap.size ≤ k1 → k1 < w2.heap.size → Only [] w1 w2 → ∃ q1 : Option Addr, Cells w2 ccap0 [.pointer q1] ∧
   ∃ p0 : Addr, q1 = (some p0) ∧
   Calls Tryd.prog 56 #[.pointer (some (p0.add 0)), .string (ByteArray.mk #[41])] w2 fun e1 w3 => e1 = (.returned (.tuple #[])) ∧
    Same [k0, k1] w2 w3 ∧
    ∀ w4 : World, Only [k0] w3 w4 → R (.agg #[.int .i64 i0, .int .i64 i1, .string s0, .int .i64 i2, l0.v, .int .i64 i3]) w4
theorem expr_reader_one_1_wp (ccap0 : Addr) (R : Value → World → Prop) (w : World) (h : expr_reader_one_1_vc ccap0 R w) : Calls Tryd.prog 55 #[.pointer (some ccap0)] w fun e w' => ∃ v, e = .returned v ∧ R v w' :=
  fn_by (an := .s .o (.s .o (.s .o (.s .o .o)))) (args := [.ad ccap0]) Tryd.checked.mixed (by kernel_rfl) (by kernel_rfl) h
def expr_cursor_must_vc (c : Addr) (sign : ByteArray) (R : Value → World → Prop) (w : World) : Prop :=
  ∃ l0 : Sl, ∃ w0 : World, ((Instr.buildSlice 23 1 #[.mk 0 (.string sign)]).run Tryd.prog w) = (.ok l0.v w0) ∧
  Calls Tryd.prog 53 #[.pointer (some c), l0.v] w0 fun e0 w1 => ∃ b0 : Bool, e0 = (.returned (.bool b0)) ∧
   ((!b0) = true → Calls Tryd.prog 58 #[.pointer (some c)] w1 fun e1 w2 => e1 = (.returned (.tuple #[])) ∧
     R (.tuple #[]) w2) ∧
   ((!b0) = false → ∃ i0 : Int, Cells w1 (c.add 1) [.int .i64 i0] ∧
   ∃ k0 : Nat, ∃ k1 : Nat, ∃ z0 : List Value, ∃ k2 : Nat, (c.add 1) = ⟨k0, k1, none⟩ ∧
   Blk w1 k0 k2 z0 ∧
   (k1 + 1) ≤ z0.length ∧
   ∀ w3 : World, Only [k0] w1 w3 → Blk w3 k0 k2 (splice z0 k1 [.int .i64 (IntKind.wrap .i64 (i0 + 1))]) → R (.tuple #[]) w3)
theorem expr_cursor_must_wp (c : Addr) (sign : ByteArray) (R : Value → World → Prop) (w : World) (h : expr_cursor_must_vc c sign R w) : Calls Tryd.prog 56 #[.pointer (some c), .string sign] w fun e w' => ∃ v, e = .returned v ∧ R v w' :=
  fn_by (an := .s (.s .o (.s (.s .o .o) .o)) .o) (args := [.ad c, .str sign]) Tryd.checked.mixed (by kernel_rfl) (by kernel_rfl) h
def expr_reader_name_vc (r : Addr) (R : Value → World → Prop) (w : World) : Prop :=
  Calls Tryd.prog 52 #[.pointer (some (r.add 0))] w fun e0 w0 => ∃ i0 : Int, ∃ s0 : ByteArray, ∃ i1 : Int, ∃ i2 : Int, e0 = (.returned (.agg #[.int .i64 i0, .string s0, .int .i64 i1, .int .i64 i2])) ∧
   ∀ k0 : Nat, ∀ w1 : World, w0.heap.size ≤ k0 → k0 < w1.heap.size → Only [] w0 w1 → Calls Tryd.prog 21 #[.pointer (some (r.add 0))] w1 fun e1 w2 => ∃ b0 : Bool, e1 = (.returned (.bool b0)) ∧
    Same [k0] w1 w2 ∧
    ((b0 || (i0 != 1)) = true → Calls Tryd.prog 58 #[.pointer (some (r.add 0))] w2 fun e2 w3 => e2 = (.returned (.tuple #[])) ∧
      Same [k0] w2 w3 ∧
      R (.string (ByteArray.mk #[])) w3) ∧
    ((b0 || (i0 != 1)) = false → ∃ i3 : Int, Cells w2 ((r.add 0).add 1) [.int .i64 i3] ∧
    ∃ k1 : Nat, ∃ k2 : Nat, ∃ z0 : List Value, ∃ k3 : Nat, ((r.add 0).add 1) = ⟨k1, k2, none⟩ ∧
    Blk w2 k1 k3 z0 ∧
    (k2 + 1) ≤ z0.length ∧
    k0 ≠ k1 ∧
    ∀ w4 : World, Only [k1] w2 w4 → Blk w4 k1 k3 (splice z0 k2 [.int .i64 (IntKind.wrap .i64 (i3 + 1))]) → R (.string s0) w4)
theorem expr_reader_name_wp (r : Addr) (R : Value → World → Prop) (w : World) (h : expr_reader_name_vc r R w) : Calls Tryd.prog 57 #[.pointer (some r)] w fun e w' => ∃ v, e = .returned v ∧ R v w' :=
  fn_by (an := .s .o (.s .o (.s (.s .o (.s (.s .o (.s .o .o)) .o)) (.s .o (.s .o .o))))) (args := [.ad r]) Tryd.checked.mixed (by kernel_rfl) (by kernel_rfl) h
def expr_cursor_wrong_vc (c : Addr) (R : Value → World → Prop) (w : World) : Prop :=
  ∃ J0 : World → Prop, (∀ w0 : World, J0 w0 → Calls Tryd.prog 67 #[.pointer (some c), .int .i64 4] w0 fun e0 w1 => e0 = (.returned (.tuple #[])) ∧
    R (.tuple #[]) w1) ∧
  Calls Tryd.prog 52 #[.pointer (some c)] w fun e1 w2 => ∃ i0 : Int, ∃ s0 : ByteArray, ∃ i1 : Int, ∃ i2 : Int, e1 = (.returned (.agg #[.int .i64 i0, .string s0, .int .i64 i1, .int .i64 i2])) ∧
   ((i0 == 5) = true → Calls Tryd.prog 67 #[.pointer (some c), .int .i64 3] w2 fun e2 w3 => e2 = (.returned (.tuple #[])) ∧
     J0 w3) ∧
   ((i0 == 5) = false → J0 w2)
theorem expr_cursor_wrong_wp (c : Addr) (R : Value → World → Prop) (w : World) (h : expr_cursor_wrong_vc c R w) : Calls Tryd.prog 58 #[.pointer (some c)] w fun e w' => ∃ v, e = .returned v ∧ R v w' :=
  fn_by (an := .j [0] [] (.s .o (.s .o .o)) .o) (args := [.ad c]) Tryd.checked.mixed (by kernel_rfl) (by kernel_rfl) h
def slices_Index_string_vc (s : Sl) (v1 : ByteArray) (R : Value → World → Prop) (w : World) : Prop :=
  ∃ J0 : Nat → Int → World → Prop, ∃ k0 : Nat, J0 k0 0 w ∧
  ∀ k1 : Nat, ∀ i0 : Int, ∀ w0 : World, J0 k1 i0 w0 → ((decide (i0 < (s.n : Int))) = true → ∃ p0 : Addr, SlAt s i0 1 p0 ∧
   ∃ s0 : ByteArray, Cells w0 p0 [.string s0] ∧
   ((v1.toList == s0.toList) = true → R (.int .i64 i0) w0) ∧
   ((v1.toList == s0.toList) = false → ∃ k2 : Nat, k2 < k1 ∧
   J0 k2 (IntKind.wrap .i64 (i0 + 1)) w0)) ∧
  ((decide (i0 < (s.n : Int))) = false → R (.int .i64 (-1)) w0)
theorem slices_Index_string_wp (s : Sl) (v1 : ByteArray) (R : Value → World → Prop) (w : World) (h : slices_Index_string_vc s v1 R w) : Calls Tryd.prog 59 #[s.v, .string v1] w fun e w' => ∃ v, e = .returned v ∧ R v w' :=
  fn_by (an := .s .o (.s (.s .o (.j [0, 1, 7] [.s 8 (.int .i64)] (.s .o (.s (.s .o .o) (.s (.s .o (.s .o (.s (.s .o .o) .o))) .o))) .o)) (.s .o .o))) (args := [.sl s, .str v1]) Tryd.checked.mixed (by kernel_rfl) (by kernel_rfl) h
def slices_Index_byte_vc (s : Sl) (v1 : Int) (R : Value → World → Prop) (w : World) : Prop :=
  ∃ J0 : Nat → Int → World → Prop, ∃ k0 : Nat, J0 k0 0 w ∧
  ∀ k1 : Nat, ∀ i0 : Int, ∀ w0 : World, J0 k1 i0 w0 → ((decide (i0 < (s.n : Int))) = true → ∃ p0 : Addr, SlAt s i0 1 p0 ∧
   ∃ i1 : Int, Cells w0 p0 [.int .u8 i1] ∧
   ((v1 == i1) = true → R (.int .i64 i0) w0) ∧
   ((v1 == i1) = false → ∃ k2 : Nat, k2 < k1 ∧
   J0 k2 (IntKind.wrap .i64 (i0 + 1)) w0)) ∧
  ((decide (i0 < (s.n : Int))) = false → R (.int .i64 (-1)) w0)
theorem slices_Index_byte_wp (s : Sl) (v1 : Int) (R : Value → World → Prop) (w : World) (h : slices_Index_byte_vc s v1 R w) : Calls Tryd.prog 62 #[s.v, .int .u8 v1] w fun e w' => ∃ v, e = .returned v ∧ R v w' :=
  fn_by (an := .s .o (.s (.s .o (.j [0, 1, 7] [.s 8 (.int .i64)] (.s .o (.s (.s .o .o) (.s (.s .o (.s .o (.s (.s .o .o) .o))) .o))) .o)) (.s .o .o))) (args := [.sl s, .int .u8 v1]) Tryd.checked.mixed (by kernel_rfl) (by kernel_rfl) h
def calc_digit_vc (c : Int) (R : Value → World → Prop) (w : World) : Prop :=
  R (.bool (decide ((IntKind.wrap .u8 (c - 48)) < 10))) w
theorem calc_digit_wp (c : Int) (R : Value → World → Prop) (w : World) (h : calc_digit_vc c R w) : Calls Tryd.prog 65 #[.int .u8 c] w fun e w' => ∃ v, e = .returned v ∧ R v w' :=
  fn_by (an := .s .o (.s .o .o)) (args := [.int .u8 c]) Tryd.checked.mixed (by kernel_rfl) (by kernel_rfl) h
def expr_cursor_stop_vc (c : Addr) (err : Int) (R : Value → World → Prop) (w : World) : Prop :=
  Calls Tryd.prog 21 #[.pointer (some c)] w fun e0 w0 => ∃ b0 : Bool, e0 = (.returned (.bool b0)) ∧
   ((!b0) = true → Calls Tryd.prog 52 #[.pointer (some c)] w0 fun e1 w1 => ∃ i0 : Int, ∃ s0 : ByteArray, ∃ i1 : Int, ∃ i2 : Int, e1 = (.returned (.agg #[.int .i64 i0, .string s0, .int .i64 i1, .int .i64 i2])) ∧
     ∃ k0 : Nat, ∃ k1 : Nat, ∃ z0 : List Value, ∃ k2 : Nat, (c.add 2) = ⟨k0, k1, none⟩ ∧
     Blk w1 k0 k2 z0 ∧
     (k1 + 2) ≤ z0.length ∧
     ∀ w2 : World, Only [k0] w1 w2 → Blk w2 k0 k2 (splice z0 k1 [.int .i64 err, .int .i64 i2]) → R (.tuple #[]) w2) ∧
   ((!b0) = false → R (.tuple #[]) w0)
theorem expr_cursor_stop_wp (c : Addr) (err : Int) (R : Value → World → Prop) (w : World) (h : expr_cursor_stop_vc c err R w) : Calls Tryd.prog 67 #[.pointer (some c), .int .i64 err] w fun e w' => ∃ v, e = .returned v ∧ R v w' :=
  fn_by (an := .s .o (.s .o .o)) (args := [.ad c, .int .i64 err]) Tryd.checked.mixed (by kernel_rfl) (by kernel_rfl) h
end Go.Proofs.YtmanockofcopjaaDoor.Vc
