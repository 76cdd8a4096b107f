
/-
 Own work, printed by a program of ours (vlay.py): of each Go function what is to be shown of a call ('.._vc'), and that it suffices ('.._wp'). Nothing is assumed.
-/
import Derived.Test.YtmanockofcopjaaGreatDoorV13
import Derived.Test.YtmanockofcopjaaGreatDoorRows
namespace Go.Proofs.YtmanockofcopjaaGreatDoor.Vc
open Go Go.RowKit Go.Kt Go.Kt.V
set_option linter.unusedVariables false
set_option maxRecDepth 100000
set_option maxHeartbeats 40000000
def pavaneref05_Same_vc (a_ a_1 : Int) (a_2 : ByteArray) (a_3 : Int) (a_4 : Sl) (a_5 bb bb1 : Int) (bb2 : ByteArray) (bb3 : Int) (bb4 : Sl) (bb5 : Int) (at_ : Bool) (R : Value → World → Prop) (w : World) : Prop :=
 ∀ k0 k1 : Nat, ∀ w0 : World, w.heap.size ≤ k0 → k0 < w0.heap.size → w.heap.size ≤ k1 → k1 < w0.heap.size → Only [] w w0 → (((((((a_ != bb) || (a_1 != bb1)) || (!(a_2.toList == bb2.toList))) || (a_3 != bb3)) || (at_ && (a_5 != bb5))) || ((a_4.n : Int) != (bb4.n : Int))) = true → R (.bool false) w0) ∧
 (((((((a_ != bb) || (a_1 != bb1)) || (!(a_2.toList == bb2.toList))) || (a_3 != bb3)) || (at_ && (a_5 != bb5))) || ((a_4.n : Int) != (bb4.n : Int))) = false → ∃ J0 : Nat → Int → World → Prop, ∃ k2 : Nat, J0 k2 0 w0 ∧
 ∀ k3 : Nat, ∀ i0 : Int, ∀ w1 : World, J0 k3 i0 w1 → ((decide (i0 < (a_4.n : Int))) = true → ∃ p0 : Addr, SlAt a_4 i0 6 p0 ∧
 ∀ w2 : World, Only [] w1 w2 → ∃ i1 i2 : Int, ∃ s0 : ByteArray, ∃ i3 : Int, ∃ l0 : Sl, ∃ i4 : Int, Cells w2 p0 [.int .i64 i1, .int .i64 i2, .string s0, .int .i64 i3, l0.v, .int .i64 i4] ∧
 ∃ p1 : Addr, SlAt bb4 i0 6 p1 ∧
 ∃ i5 i6 : Int, ∃ s1 : ByteArray, ∃ i7 : Int, ∃ l1 : Sl, ∃ i8 : Int, Cells w2 p1 [.int .i64 i5, .int .i64 i6, .string s1, .int .i64 i7, l1.v, .int .i64 i8] ∧
 Calls Tryz.prog 14 #[.agg #[.int .i64 i1, .int .i64 i2, .string s0, .int .i64 i3, l0.v, .int .i64 i4], .agg #[.int .i64 i5, .int .i64 i6, .string s1, .int .i64 i7, l1.v, .int .i64 i8], .bool at_] w2 fun e0 w3 => ∃ b0 : Bool, e0 = (.returned (.bool b0)) ∧
 Same [k0, k1] w2 w3 ∧
 ((!b0) = true → R (.bool false) w3) ∧
 ((!b0) = false → ∃ k4 : Nat, k4 < k3 ∧
 J0 k4 (IntKind.wrap .i64 (i0 + 1)) w3)) ∧
 ((decide (i0 < (a_4.n : Int))) = false → R (.bool true) w1))
theorem pavaneref05_Same_wp (a_ a_1 : Int) (a_2 : ByteArray) (a_3 : Int) (a_4 : Sl) (a_5 bb bb1 : Int) (bb2 : ByteArray) (bb3 : Int) (bb4 : Sl) (bb5 : Int) (at_ : Bool) (R : Value → World → Prop) (w : World) (h : pavaneref05_Same_vc a_ a_1 a_2 a_3 a_4 a_5 bb bb1 bb2 bb3 bb4 bb5 at_ R w) : Calls Tryz.prog 14 #[.agg #[.int .i64 a_, .int .i64 a_1, .string a_2, .int .i64 a_3, a_4.v, .int .i64 a_5], .agg #[.int .i64 bb, .int .i64 bb1, .string bb2, .int .i64 bb3, bb4.v, .int .i64 bb5], .bool at_] w fun e w' => ∃ v, e = .returned v ∧ R v w' :=
 fn_by (an := .s .o (.s (.s .o (.s (.s .o .o) .o)) (.s (.s .o (.j [2, 3, 4] [.s 7 (.int .i64)] (.s (.s .o (.s .o .o)) (.s (.s .o (.s .o (.s (.s .o .o) .o))) .o)) .o)) (.s .o .o)))) (args := [.agg (ofL [.int .i64 a_, .int .i64 a_1, .str a_2, .int .i64 a_3, .sl a_4, .int .i64 a_5]), .agg (ofL [.int .i64 bb, .int .i64 bb1, .str bb2, .int .i64 bb3, .sl bb4, .int .i64 bb5]), .bt at_]) Tryz.checked.mixed (by kernel_rfl) (by kernel_rfl) h
def pavaneref06_Same_vc (a_ bb : Sl) (R : Value → World → Prop) (w : World) : Prop :=
 (((a_.n : Int) != (bb.n : Int)) = true → R (.bool false) w) ∧
 (((a_.n : Int) != (bb.n : Int)) = false → ∃ J0 : Nat → Int → World → Prop, ∃ k0 : Nat, J0 k0 0 w ∧
 ∀ k1 : Nat, ∀ i0 : Int, ∀ w0 : World, J0 k1 i0 w0 → ((decide (i0 < (a_.n : Int))) = true → ∃ p0 : Addr, SlAt a_ i0 1 p0 ∧
 ∃ s0 : ByteArray, Cells w0 p0 [.string s0] ∧
 ∃ p1 : Addr, SlAt bb i0 1 p1 ∧
 ∃ s1 : ByteArray, Cells w0 p1 [.string s1] ∧
 ((!(s0.toList == s1.toList)) = true → ∀ w1 : World, Only [] w0 w1 → R (.bool false) w1) ∧
 ((!(s0.toList == s1.toList)) = false → ∀ w2 : World, Only [] w0 w2 → ∃ k2 : Nat, k2 < k1 ∧
 J0 k2 (IntKind.wrap .i64 (i0 + 1)) w2)) ∧
 ((decide (i0 < (a_.n : Int))) = false → R (.bool true) w0))
theorem pavaneref06_Same_wp (a_ bb : Sl) (R : Value → World → Prop) (w : World) (h : pavaneref06_Same_vc a_ bb R w) : Calls Tryz.prog 15 #[a_.v, bb.v] w fun e w' => ∃ v, e = .returned v ∧ R v w' :=
 fn_by (an := .s .o (.s (.s .o (.s (.s .o .o) .o)) (.s (.s .o (.j [0, 1] [.s 5 (.int .i64)] (.s (.s .o (.s .o .o)) (.s (.s .o (.s (.s .o .o) .o)) .o)) .o)) (.s .o .o)))) (args := [.sl a_, .sl bb]) Tryz.checked.mixed (by kernel_rfl) (by kernel_rfl) h
def expr_ops_vc (R : Value → World → Prop) (w : World) : Prop :=
 ∃ l0 : Sl, ∃ w0 : World, ((Instr.buildSlice 25 16 #[.mk 1 (.string (ByteArray.mk #[43])), .mk 2 (.string (ByteArray.mk #[45])), .mk 3 (.string (ByteArray.mk #[42])), .mk 4 (.string (ByteArray.mk #[47])), .mk 5 (.string (ByteArray.mk #[37])), .mk 6 (.string (ByteArray.mk #[60])), .mk 7 (.string (ByteArray.mk #[60, 61])), .mk 8 (.string (ByteArray.mk #[62])), .mk 9 (.string (ByteArray.mk #[62, 61])), .mk 10 (.string (ByteArray.mk #[61, 61])), .mk 11 (.string (ByteArray.mk #[33, 61])), .mk 12 (.string (ByteArray.mk #[38, 38])), .mk 13 (.string (ByteArray.mk #[124, 124])), .mk 14 (.string (ByteArray.mk #[45])), .mk 15 (.string (ByteArray.mk #[33]))]).run Tryz.prog w) = (.ok l0.v w0) ∧
 R l0.v w0
theorem expr_ops_wp (R : Value → World → Prop) (w : World) (h : expr_ops_vc R w) : Calls Tryz.prog 91 #[] w fun e w' => ∃ v, e = .returned v ∧ R v w' :=
 fn_by (an := .s .o (.s .o .o)) (args := []) Tryz.checked.mixed (by kernel_rfl) (by kernel_rfl) h
def scan_Tokens_vc (s : ByteArray) (R : Value → World → Prop) (w : World) : Prop :=
 ((decide ((s.size : Int) > 16384)) = true → ∀ k0 : Nat, ∀ w0 : World, w.heap.size ≤ k0 → k0 < w0.heap.size → Only [] w w0 → R (.tuple #[Sl.nil.v, .agg #[.int .i64 2, .int .i64 (-1)]]) w0) ∧
 ((decide ((s.size : Int) > 16384)) = false → ∀ k1 : Nat, ∀ w1 : World, w.heap.size ≤ k1 → k1 < w1.heap.size → Only [] w w1 → Calls Tryz.prog 56 #[] w1 fun e0 w2 => ∃ l0 : Sl, e0 = (.returned l0.v) ∧
 Same [k1] w1 w2 ∧
 ∀ k2 : Nat, ∀ w3 : World, w2.heap.size ≤ k2 → k2 < w3.heap.size → Only [] w2 w3 → Blk w3 k2 116 [.string s, .int .i64 0, l0.v, Sl.nil.v] → Calls Tryz.prog 57 #[.pointer (some ⟨k2, 0, none⟩)] w3 fun e1 w4 => e1 = (.returned (.tuple #[])) ∧
 Same [k1] w3 w4 ∧
 ∃ s0 : ByteArray, ∃ i0 : Int, ∃ l1 l2 : Sl, Blk w4 k2 116 [.string s0, .int .i64 i0, l1.v, l2.v] ∧
 ∃ J0 : Nat → Int → Int → ByteArray → Int → Sl → Sl → World → Prop, ∃ k3 : Nat, J0 k3 0 0 s0 i0 l1 l2 w4 ∧
 ∀ k4 : Nat, ∀ i1 i2 : Int, ∀ s1 : ByteArray, ∀ i3 : Int, ∀ l3 l4 : Sl, ∀ w5 : World, J0 k4 i1 i2 s1 i3 l3 l4 w5 → Calls Tryz.prog 58 #[.pointer (some ⟨k2, 0, none⟩)] w5 fun e2 w6 => ∃ b0 : Bool, e2 = (.returned (.bool b0)) ∧
 Same [k1] w5 w6 ∧
 ∃ s2 : ByteArray, ∃ i4 : Int, ∃ l5 l6 : Sl, Blk w6 k2 116 [.string s2, .int .i64 i4, l5.v, l6.v] ∧
 ((!b0) = true → Calls Tryz.prog 59 #[.pointer (some ⟨k2, 0, none⟩)] w6 fun e3 w7 => ∃ i5 : Int, e3 = (.returned (.int .i64 i5)) ∧
 Same [k1] w6 w7 ∧
 ∃ s3 : ByteArray, ∃ i6 : Int, ∃ l7 l8 : Sl, Blk w7 k2 116 [.string s3, .int .i64 i6, l7.v, l8.v] ∧
 ((i5 != 0) = true → ∀ w8 : World, Only [k1] w7 w8 → Blk w8 k2 116 [.string s3, .int .i64 i6, l7.v, l8.v] → R (.tuple #[Sl.nil.v, .agg #[.int .i64 i5, .int .i64 i6]]) w8) ∧
 ((i5 != 0) = false → Calls Tryz.prog 57 #[.pointer (some ⟨k2, 0, none⟩)] w7 fun e4 w9 => e4 = (.returned (.tuple #[])) ∧
 Same [k1] w7 w9 ∧
 ∃ s4 : ByteArray, ∃ i7 : Int, ∃ l9 l10 : Sl, Blk w9 k2 116 [.string s4, .int .i64 i7, l9.v, l10.v] ∧
 ∃ k5 : Nat, k5 < k4 ∧
 J0 k5 i1 i2 s4 i7 l9 l10 w9)) ∧
 ((!b0) = false → Calls Tryz.prog 60 #[.pointer (some ⟨k2, 0, none⟩), .agg #[.int .i64 5, .string (ByteArray.mk #[]), .int .i64 0, .int .i64 0], .int .i64 0] w6 fun e5 w10 => e5 = (.returned (.tuple #[])) ∧
 Same [k1] w6 w10 ∧
 ∃ s5 : ByteArray, ∃ i8 : Int, ∃ l11 l12 : Sl, Blk w10 k2 116 [.string s5, .int .i64 i8, l11.v, l12.v] ∧
 ∀ w11 : World, Only [k1] w10 w11 → Blk w11 k2 116 [.string s5, .int .i64 i8, l11.v, l12.v] → R (.tuple #[l12.v, .agg #[.int .i64 0, .int .i64 0]]) w11))
theorem scan_Tokens_wp (s : ByteArray) (R : Value → World → Prop) (w : World) (h : scan_Tokens_vc s R w) : Calls Tryz.prog 28 #[.string s] w fun e w' => ∃ v, e = .returned v ∧ R v w' :=
 fn_by (an := .s .o (.s (.s .o (.s (.s .o .o) .o)) (.s .o (.s (.s .o (.j [3, 4, 14] [.b 3 [.int .i64, .int .i64], .b 14 [.str, .int .i64, .sl, .sl]] (.s (.s .o (.s .o .o)) (.s (.s .o (.s .o (.s (.s .o .o) .o))) .o)) .o)) (.s .o (.s .o .o)))))) (args := [.str s]) Tryz.checked.mixed (by kernel_rfl) (by kernel_rfl) h
def expr_Parse_vc (l : Sl) (at_ : Int) (R : Value → World → Prop) (w : World) : Prop :=
 ∀ k0 k1 : Nat, ∀ w0 : World, w.heap.size ≤ k0 → k0 < w0.heap.size → w.heap.size ≤ k1 → k1 < w0.heap.size → Only [] w w0 → Calls Tryz.prog 89 #[l.v, .func (.func 90) #[] #[]] w0 fun e0 w1 => ∃ i0 : Int, e0 = (.returned (.int .i64 i0)) ∧
 Same [k0, k1] w0 w1 ∧
 ((((decide (at_ < 0)) || (decide (at_ ≥ (l.n : Int)))) || (i0 != (IntKind.wrap .i64 ((l.n : Int) - 1)))) = true → ∀ w2 : World, Only [k1, k0] w1 w2 → R (.tuple #[.agg #[.int .i64 0, .int .i64 0, .string (ByteArray.mk #[]), .int .i64 0, Sl.nil.v, .int .i64 0], .int .i64 0, .agg #[.int .i64 1, .int .i64 (-1)]]) w2) ∧
 ((((decide (at_ < 0)) || (decide (at_ ≥ (l.n : Int)))) || (i0 != (IntKind.wrap .i64 ((l.n : Int) - 1)))) = false → Calls Tryz.prog 91 #[] w1 fun e1 w3 => ∃ l0 : Sl, e1 = (.returned l0.v) ∧
 Same [k0, k1] w1 w3 ∧
 ∀ k2 : Nat, ∀ w4 : World, w3.heap.size ≤ k2 → k2 < w4.heap.size → Only [] w3 w4 → Blk w4 k2 148 [l.v, .int .i64 at_, .int .i64 0, .int .i64 0, .int .i64 0, l0.v] → Calls Tryz.prog 92 #[.pointer (some ⟨k2, 0, none⟩), .int .i64 0] w4 fun e2 w5 => ∃ i1 i2 : Int, ∃ s0 : ByteArray, ∃ i3 : Int, ∃ l1 : Sl, ∃ i4 : Int, e2 = (.returned (.agg #[.int .i64 i1, .int .i64 i2, .string s0, .int .i64 i3, l1.v, .int .i64 i4])) ∧
 Same [k0, k1] w4 w5 ∧
 ∃ l2 : Sl, ∃ i5 i6 i7 i8 : Int, ∃ l3 : Sl, Blk w5 k2 148 [l2.v, .int .i64 i5, .int .i64 i6, .int .i64 i7, .int .i64 i8, l3.v] ∧
 ∀ k3 : Nat, ∀ w6 : World, w5.heap.size ≤ k3 → k3 < w6.heap.size → Only [] w5 w6 → Blk w6 k2 148 [l2.v, .int .i64 i5, .int .i64 i6, .int .i64 i7, .int .i64 i8, l3.v] → Calls Tryz.prog 93 #[.pointer (some ⟨k2, 0, none⟩)] w6 fun e3 w7 => ∃ b0 : Bool, e3 = (.returned (.bool b0)) ∧
 Same [k0, k1, k3] w6 w7 ∧
 ∃ l4 : Sl, ∃ i9 i10 i11 i12 : Int, ∃ l5 : Sl, Blk w7 k2 148 [l4.v, .int .i64 i9, .int .i64 i10, .int .i64 i11, .int .i64 i12, l5.v] ∧
 (b0 = true → ∀ w8 : World, Only [] w7 w8 → Blk w8 k2 148 [l4.v, .int .i64 i9, .int .i64 i10, .int .i64 i11, .int .i64 i12, l5.v] → k0 ≠ k1 → k0 ≠ k2 → k0 ≠ k3 → k1 ≠ k2 → k1 ≠ k3 → k2 ≠ k3 → ∃ J0 : Nat → Prop, J0 k2 ∧
 Out J0 k0 ∧
 Out J0 k1 ∧
 ∀ w9 : World, Only [k1, k0] w8 w9 → Blk w9 k2 148 [l4.v, .int .i64 i9, .int .i64 i10, .int .i64 i11, .int .i64 i12, l5.v] → R (.tuple #[.agg #[.int .i64 0, .int .i64 0, .string (ByteArray.mk #[]), .int .i64 0, Sl.nil.v, .int .i64 0], .int .i64 0, .agg #[.int .i64 i10, .int .i64 i11]]) w9) ∧
 (b0 = false → ∀ w10 : World, Only [] w7 w10 → Blk w10 k2 148 [l4.v, .int .i64 i9, .int .i64 i10, .int .i64 i11, .int .i64 i12, l5.v] → k0 ≠ k1 → k0 ≠ k2 → k0 ≠ k3 → k1 ≠ k2 → k1 ≠ k3 → k2 ≠ k3 → ∃ J1 : Nat → Prop, J1 k2 ∧
 Out J1 k0 ∧
 Out J1 k1 ∧
 ∀ w11 : World, Only [k1, k0] w10 w11 → Blk w11 k2 148 [l4.v, .int .i64 i9, .int .i64 i10, .int .i64 i11, .int .i64 i12, l5.v] → R (.tuple #[.agg #[.int .i64 i1, .int .i64 i2, .string s0, .int .i64 i3, l1.v, .int .i64 i4], .int .i64 i9, .agg #[.int .i64 0, .int .i64 0]]) w11))
theorem expr_Parse_wp (l : Sl) (at_ : Int) (R : Value → World → Prop) (w : World) (h : expr_Parse_vc l at_ R w) : Calls Tryz.prog 46 #[l.v, .int .i64 at_] w fun e w' => ∃ v, e = .returned v ∧ R v w' :=
 fn_by (an := .s .o (.s .o (.s (.s .o (.s (.s .o .o) .o)) (.s .o (.s .o (.s (.s .o (.s (.s .o .o) .o)) (.s .o .o))))))) (args := [.sl l, .int .i64 at_]) Tryz.checked.mixed (by kernel_rfl) (by kernel_rfl) h
def slices_Contains_string_vc (s : Sl) (v1 : ByteArray) (R : Value → World → Prop) (w : World) : Prop :=
 Calls Tryz.prog 94 #[s.v, .string v1] w fun e0 w0 => ∃ i0 : Int, e0 = (.returned (.int .i64 i0)) ∧
 R (.bool (decide (i0 ≥ 0))) w0
theorem slices_Contains_string_wp (s : Sl) (v1 : ByteArray) (R : Value → World → Prop) (w : World) (h : slices_Contains_string_vc s v1 R w) : Calls Tryz.prog 49 #[s.v, .string v1] w fun e w' => ∃ v, e = .returned v ∧ R v w' :=
 fn_by (an := .s .o (.s .o .o)) (args := [.sl s, .str v1]) Tryz.checked.mixed (by kernel_rfl) (by kernel_rfl) h
def expr_row_vc (op : Int) (R : Value → World → Prop) (w : World) : Prop :=
 (((decide (op ≥ 3)) && (decide (op ≤ 5))) = true → R (.int .i64 5) w) ∧
 (((decide (op ≥ 3)) && (decide (op ≤ 5))) = false → ∃ J0 : Bool → World → Prop, (∀ b0 : Bool, ∀ w0 : World, J0 b0 w0 → (b0 = true → R (.int .i64 4) w0) ∧
 (b0 = false → (((decide (op ≥ 6)) && (decide (op ≤ 9))) = true → R (.int .i64 3) w0) ∧
 (((decide (op ≥ 6)) && (decide (op ≤ 9))) = false → ∃ J1 : Bool → World → Prop, (∀ b1 : Bool, ∀ w1 : World, J1 b1 w1 → (b1 = true → R (.int .i64 2) w1) ∧
 (b1 = false → ((op == 12) = true → R (.int .i64 1) w1) ∧
 ((op == 12) = false → ((op == 13) = true → R (.int .i64 0) w1) ∧
 ((op == 13) = false → R (.int .i64 6) w1)))) ∧
 ((op == 10) = true → J1 (op == 10) w0) ∧
 ((op == 10) = false → J1 (op == 11) w0)))) ∧
 ((op == 1) = true → J0 (op == 1) w) ∧
 ((op == 1) = false → J0 (op == 2) w))
theorem expr_row_wp (op : Int) (R : Value → World → Prop) (w : World) (h : expr_row_vc op R w) : Calls Tryz.prog 133 #[.int .i64 op] w fun e w' => ∃ v, e = .returned v ∧ R v w' :=
 fn_by (an := .s .o (.s (.s .o (.s (.s .o .o) (.j [0] [.s 10 .bool] (.s .o (.s .o .o)) (.s (.s .o .o) (.s .o (.s (.s .o .o) (.j [0] [.s 22 .bool] (.s .o (.s .o .o)) (.s (.s .o .o) (.s .o (.s (.s .o .o) (.s .o (.s (.s .o .o) .o)))))))))))) (.s .o .o))) (args := [.int .i64 op]) Tryz.checked.mixed (by kernel_rfl) (by kernel_rfl) h
def scan_Words_vc (R : Value → World → Prop) (w : World) : Prop :=
 ∃ l0 : Sl, ∃ w0 : World, ((Instr.buildSlice 25 16 #[.mk 0 (.string (ByteArray.mk #[97, 102, 116, 101, 114])), .mk 1 (.string (ByteArray.mk #[97, 108, 119, 97, 121, 115])), .mk 2 (.string (ByteArray.mk #[99, 104, 97, 114, 116])), .mk 3 (.string (ByteArray.mk #[100, 101, 101, 112])), .mk 4 (.string (ByteArray.mk #[101, 109, 105, 116])), .mk 5 (.string (ByteArray.mk #[101, 110, 116, 101, 114])), .mk 6 (.string (ByteArray.mk #[104, 105, 115, 116, 111, 114, 121])), .mk 7 (.string (ByteArray.mk #[105, 110])), .mk 8 (.string (ByteArray.mk #[105, 110, 105, 116, 105, 97, 108])), .mk 9 (.string (ByteArray.mk #[108, 101, 97, 118, 101])), .mk 10 (.string (ByteArray.mk #[111, 110])), .mk 11 (.string (ByteArray.mk #[112, 97, 114, 97, 108, 108, 101, 108])), .mk 12 (.string (ByteArray.mk #[114, 97, 105, 115, 101])), .mk 13 (.string (ByteArray.mk #[115, 101, 116])), .mk 14 (.string (ByteArray.mk #[115, 116, 97, 116, 101])), .mk 15 (.string (ByteArray.mk #[118, 97, 114]))]).run Tryz.prog w) = (.ok l0.v w0) ∧
 R l0.v w0
theorem scan_Words_wp (R : Value → World → Prop) (w : World) (h : scan_Words_vc R w) : Calls Tryz.prog 56 #[] w fun e w' => ∃ v, e = .returned v ∧ R v w' :=
 fn_by (an := .s .o (.s .o .o)) (args := []) Tryz.checked.mixed (by kernel_rfl) (by kernel_rfl) h
def scan_cursor_skip_vc (c : Addr) (R : Value → World → Prop) (w : World) : Prop :=
 ∃ J0 : Nat → World → Prop, ∃ k0 : Nat, J0 k0 w ∧
 ∀ k1 : Nat, ∀ w0 : World, J0 k1 w0 → Calls Tryz.prog 58 #[.pointer (some c)] w0 fun e0 w1 => ∃ b0 : Bool, e0 = (.returned (.bool b0)) ∧
 ((!b0) = true → ∃ s0 : ByteArray, Cells w1 (c.add 0) [.string s0] ∧
 ∃ i0 : Int, Cells w1 (c.add 1) [.int .i64 i0] ∧
 ∃ c0 : UInt8, (0 ≤ i0 ∧
 (s0[Int.toNat i0]?) = (some c0)) ∧
 ∀ w2 : World, Only [] w1 w2 → ∃ l0 : Sl, ∃ w3 : World, ((Instr.buildSlice 161 4 #[.mk 0 (.int .u8 9), .mk 1 (.int .u8 10), .mk 2 (.int .u8 13), .mk 3 (.int .u8 32)]).run Tryz.prog w2) = (.ok l0.v w3) ∧
 Calls Tryz.prog 98 #[.int .u8 (UInt8.toNat c0 : Int), l0.v] w3 fun e1 w4 => ∃ b1 : Bool, e1 = (.returned (.bool b1)) ∧
 (b1 = true → ∃ i1 : Int, Cells w4 (c.add 1) [.int .i64 i1] ∧
 ∃ k3 k4 : Nat, ∃ z0 : List Value, ∃ k5 : Nat, (c.add 1) = ⟨k3, k4, none⟩ ∧
 Blk w4 k3 k5 z0 ∧
 (k4 + 1) ≤ z0.length ∧
 ∀ w5 : World, Only [k3] w4 w5 → Blk w5 k3 k5 (splice z0 k4 [.int .i64 (IntKind.wrap .i64 (i1 + 1))]) → ∃ k6 : Nat, k6 < k1 ∧
 J0 k6 w5) ∧
 (b1 = false → Calls Tryz.prog 100 #[.pointer (some c)] w4 fun e2 w6 => ∃ s2 : ByteArray, e2 = (.returned (.string s2)) ∧
 Calls Tryz.prog 99 #[.string s2, .string (ByteArray.mk #[47, 47])] w6 fun e3 w7 => ∃ b2 : Bool, e3 = (.returned (.bool b2)) ∧
 (b2 = true → Calls Tryz.prog 100 #[.pointer (some c)] w7 fun e4 w8 => ∃ s3 : ByteArray, e4 = (.returned (.string s3)) ∧
 Calls Tryz.prog 101 #[.string s3, .string (ByteArray.mk #[10])] w8 fun e5 w9 => ∃ s4 s5 : ByteArray, ∃ b3 : Bool, e5 = (.returned (.tuple #[.string s4, .string s5, .bool b3])) ∧
 ∃ i2 : Int, Cells w9 (c.add 1) [.int .i64 i2] ∧
 ∃ k7 k8 : Nat, ∃ z1 : List Value, ∃ k9 : Nat, (c.add 1) = ⟨k7, k8, none⟩ ∧
 Blk w9 k7 k9 z1 ∧
 (k8 + 1) ≤ z1.length ∧
 ∀ w10 : World, Only [k7] w9 w10 → Blk w10 k7 k9 (splice z1 k8 [.int .i64 (IntKind.wrap .i64 (i2 + (s4.size : Int)))]) → ∃ k10 : Nat, k10 < k1 ∧
 J0 k10 w10) ∧
 (b2 = false → R (.tuple #[]) w7))) ∧
 ((!b0) = false → R (.tuple #[]) w1)
theorem scan_cursor_skip_wp (c : Addr) (R : Value → World → Prop) (w : World) (h : scan_cursor_skip_vc c R w) : Calls Tryz.prog 57 #[.pointer (some c)] w fun e w' => ∃ v, e = .returned v ∧ R v w' :=
 fn_by (an := .j [0] [] (.s (.s .o (.s .o .o)) (.s .o (.s .o (.s .o (.s .o (.s (.s .o .o) .o)))))) .o) (args := [.ad c]) Tryz.checked.mixed (by kernel_rfl) (by kernel_rfl) h
def scan_cursor_end_vc (c : Addr) (R : Value → World → Prop) (w : World) : Prop :=
 ∃ i0 : Int, Cells w (c.add 1) [.int .i64 i0] ∧
 ∃ s0 : ByteArray, Cells w (c.add 0) [.string s0] ∧
 ∀ w0 : World, Only [] w w0 → R (.bool (decide (i0 ≥ (s0.size : Int)))) w0
theorem scan_cursor_end_wp (c : Addr) (R : Value → World → Prop) (w : World) (h : scan_cursor_end_vc c R w) : Calls Tryz.prog 58 #[.pointer (some c)] w fun e w' => ∃ v, e = .returned v ∧ R v w' :=
 fn_by (an := .s .o (.s .o .o)) (args := [.ad c]) Tryz.checked.mixed (by kernel_rfl) (by kernel_rfl) h
def scan_cutter_token_vc (c : Addr) (R : Value → World → Prop) (w : World) : Prop :=
 ∃ s0 : ByteArray, Cells w ((c.add 0).add 0) [.string s0] ∧
 ∃ i0 : Int, Cells w ((c.add 0).add 1) [.int .i64 i0] ∧
 ∃ c0 : UInt8, (0 ≤ i0 ∧
 (s0[Int.toNat i0]?) = (some c0)) ∧
 ∀ w0 : World, Only [] w w0 → Calls Tryz.prog 102 #[.int .u8 (UInt8.toNat c0 : Int)] w0 fun e0 w1 => ∃ b0 : Bool, e0 = (.returned (.bool b0)) ∧
 (b0 = true → Calls Tryz.prog 103 #[.pointer (some c)] w1 fun e1 w2 => ∃ i1 : Int, e1 = (.returned (.int .i64 i1)) ∧
 R (.int .i64 i1) w2) ∧
 (b0 = false → Calls Tryz.prog 104 #[.int .u8 (UInt8.toNat c0 : Int)] w1 fun e2 w3 => ∃ b1 : Bool, e2 = (.returned (.bool b1)) ∧
 (b1 = true → Calls Tryz.prog 105 #[.pointer (some c)] w3 fun e3 w4 => ∃ i2 : Int, e3 = (.returned (.int .i64 i2)) ∧
 R (.int .i64 i2) w4) ∧
 (b1 = false → Calls Tryz.prog 106 #[.pointer (some c)] w3 fun e4 w5 => ∃ i3 : Int, e4 = (.returned (.int .i64 i3)) ∧
 R (.int .i64 i3) w5))
theorem scan_cutter_token_wp (c : Addr) (R : Value → World → Prop) (w : World) (h : scan_cutter_token_vc c R w) : Calls Tryz.prog 59 #[.pointer (some c)] w fun e w' => ∃ v, e = .returned v ∧ R v w' :=
 fn_by (an := .s .o (.s (.s .o (.s .o (.s (.s .o .o) (.s .o (.s (.s .o .o) .o))))) (.s .o .o))) (args := [.ad c]) Tryz.checked.mixed (by kernel_rfl) (by kernel_rfl) h
def scan_cutter_add_vc (c : Addr) (t : Int) (t1 : ByteArray) (t2 t3 n_ : Int) (R : Value → World → Prop) (w : World) : Prop :=
 ∀ k0 : Nat, ∀ w0 : World, w.heap.size ≤ k0 → k0 < w0.heap.size → Only [] w w0 → ∃ i0 : Int, Cells w0 ((c.add 0).add 1) [.int .i64 i0] ∧
 ∀ w1 : World, Only [k0] w0 w1 → ∃ J0 : Nat → Prop, J0 ((c.add 3).block) ∧
 ∃ l0 : Sl, Cells w1 (c.add 3) [l0.v] ∧
 ∃ l1 : Sl, ∃ w2 : World, ((Instr.buildSlice 55 1 #[.mk 0 (.agg #[.int .i64 t, .string t1, .int .i64 t2, .int .i64 i0])]).run Tryz.prog w1) = (.ok l1.v w2) ∧
 Same [k0] w1 w2 ∧
 Keeps J0 w1 w2 ∧
 ∃ l2 : Sl, ∃ w3 : World, ((Builtin.append_ #[55, 55] 55 #[l0.v, l1.v]).run Tryz.prog w2) = (.ok l2.v w3) ∧
 Same [k0] w2 w3 ∧
 Keeps J0 w2 w3 ∧
 ∃ k1 k2 : Nat, ∃ z0 : List Value, ∃ k3 : Nat, (c.add 3) = ⟨k1, k2, none⟩ ∧
 Blk w3 k1 k3 z0 ∧
 (k2 + 1) ≤ z0.length ∧
 k0 ≠ k1 ∧
 ∀ w4 : World, Only [k1] w3 w4 → Blk w4 k1 k3 (splice z0 k2 [l2.v]) → ∃ i1 : Int, Cells w4 ((c.add 0).add 1) [.int .i64 i1] ∧
 ∃ k4 k5 : Nat, ∃ z1 : List Value, ∃ k6 : Nat, ((c.add 0).add 1) = ⟨k4, k5, none⟩ ∧
 Blk w4 k4 k6 z1 ∧
 (k5 + 1) ≤ z1.length ∧
 k0 ≠ k4 ∧
 ∀ w5 : World, Only [k4] w4 w5 → Blk w5 k4 k6 (splice z1 k5 [.int .i64 (IntKind.wrap .i64 (i1 + n_))]) → R (.tuple #[]) w5
theorem scan_cutter_add_wp (c : Addr) (t : Int) (t1 : ByteArray) (t2 t3 n_ : Int) (R : Value → World → Prop) (w : World) (h : scan_cutter_add_vc c t t1 t2 t3 n_ R w) : Calls Tryz.prog 60 #[.pointer (some c), .agg #[.int .i64 t, .string t1, .int .i64 t2, .int .i64 t3], .int .i64 n_] w fun e w' => ∃ v, e = .returned v ∧ R v w' :=
 fn_by (an := .s .o (.s .o (.s .o .o))) (args := [.ad c, .agg (ofL [.int .i64 t, .str t1, .int .i64 t2, .int .i64 t3]), .int .i64 n_]) Tryz.checked.mixed (by kernel_rfl) (by kernel_rfl) h
def slices_IndexFunc_api_Token_vc (s : Sl) (f : OV) (R : Value → World → Prop) (w : World) : Prop :=
 ∃ J0 : Nat → Int → World → Prop, ∃ k0 : Nat, J0 k0 0 w ∧
 ∀ k1 : Nat, ∀ i0 : Int, ∀ w0 : World, J0 k1 i0 w0 → ((decide (i0 < (s.n : Int))) = true → ∃ p0 : Addr, SlAt s i0 4 p0 ∧
 ∃ i1 : Int, ∃ s0 : ByteArray, ∃ i2 i3 : Int, Cells w0 p0 [.int .i64 i1, .string s0, .int .i64 i2, .int .i64 i3] ∧
 ∃ k2 : Nat, ∃ z0 : List Value, ∃ z1 : List Value, f.v = (.func (.func k2) z0.toArray z1.toArray) ∧
 (∀ x0 : Array Value, ∀ w1 : World, ((callFunc k2 x0).run Tryz.prog w1) = (.ok (.enter k2 x0) w1)) ∧
 Calls Tryz.prog k2 ((cat (cat z0 [.agg #[.int .i64 i1, .string s0, .int .i64 i2, .int .i64 i3]]) z1).toArray) w0 fun e0 w2 => ∃ b0 : Bool, e0 = (.returned (.bool b0)) ∧
 (b0 = true → R (.int .i64 i0) w2) ∧
 (b0 = false → ∃ k3 : Nat, k3 < k1 ∧
 J0 k3 (IntKind.wrap .i64 (i0 + 1)) w2)) ∧
 ((decide (i0 < (s.n : Int))) = false → R (.int .i64 (-1)) w0)
theorem slices_IndexFunc_api_Token_wp (s : Sl) (f : OV) (R : Value → World → Prop) (w : World) (h : slices_IndexFunc_api_Token_vc s f R w) : Calls Tryz.prog 89 #[s.v, f.v] w fun e w' => ∃ v, e = .returned v ∧ R v w' :=
 fn_by (an := .s .o (.s (.s .o (.j [0, 1, 7] [.s 8 (.int .i64)] (.s .o (.s (.s .o .o) (.s (.s .o (.s .o (.s (.s .o .o) .o))) .o))) .o)) (.s .o .o))) (args := [.sl s, .raw f]) Tryz.checked.mixed (by kernel_rfl) (by kernel_rfl) h
def expr_Parse_1_vc (t : Int) (t1 : ByteArray) (t2 t3 : Int) (R : Value → World → Prop) (w : World) : Prop :=
 ∀ k0 : Nat, ∀ w0 : World, w.heap.size ≤ k0 → k0 < w0.heap.size → Only [] w w0 → R (.bool (t == 5)) w0
theorem expr_Parse_1_wp (t : Int) (t1 : ByteArray) (t2 t3 : Int) (R : Value → World → Prop) (w : World) (h : expr_Parse_1_vc t t1 t2 t3 R w) : Calls Tryz.prog 90 #[.agg #[.int .i64 t, .string t1, .int .i64 t2, .int .i64 t3]] w fun e w' => ∃ v, e = .returned v ∧ R v w' :=
 fn_by (an := .s .o (.s .o .o)) (args := [.agg (ofL [.int .i64 t, .str t1, .int .i64 t2, .int .i64 t3])]) Tryz.checked.mixed (by kernel_rfl) (by kernel_rfl) h
def expr_reader_expr_vc (r : Addr) (k : Int) (R : Value → World → Prop) (w : World) : Prop :=
 ((k == 6) = true → ∀ k0 : Nat, ∀ w0 : World, w.heap.size ≤ k0 → k0 < w0.heap.size → Only [] w w0 → Calls Tryz.prog 113 #[.pointer (some r)] w0 fun e0 w1 => ∃ i0 i1 : Int, ∃ s0 : ByteArray, ∃ i2 : Int, ∃ l0 : Sl, ∃ i3 : Int, e0 = (.returned (.agg #[.int .i64 i0, .int .i64 i1, .string s0, .int .i64 i2, l0.v, .int .i64 i3])) ∧
 Same [k0] w0 w1 ∧
 ∀ w2 : World, Only [k0] w1 w2 → R (.agg #[.int .i64 i0, .int .i64 i1, .string s0, .int .i64 i2, l0.v, .int .i64 i3]) w2) ∧
 ((k == 6) = false → ∀ k1 : Nat, ∀ w3 : World, w.heap.size ≤ k1 → k1 < w3.heap.size → Only [] w w3 → Calls Tryz.prog 92 #[.pointer (some r), .int .i64 (IntKind.wrap .i64 (k + 1))] w3 fun e1 w4 => ∃ i4 i5 : Int, ∃ s1 : ByteArray, ∃ i6 : Int, ∃ l1 : Sl, ∃ i7 : Int, e1 = (.returned (.agg #[.int .i64 i4, .int .i64 i5, .string s1, .int .i64 i6, l1.v, .int .i64 i7])) ∧
 Same [k1] w3 w4 ∧
 ∀ k2 : Nat, ∀ w5 : World, w4.heap.size ≤ k2 → k2 < w5.heap.size → Only [] w4 w5 → Calls Tryz.prog 114 #[.pointer (some r), .int .i64 k] w5 fun e2 w6 => ∃ i8 : Int, e2 = (.returned (.int .i64 i8)) ∧
 Same [k1, k2] w5 w6 ∧
 ∃ J0 : Nat → Int → Int → Int → ByteArray → Int → Sl → Int → World → Prop, ∃ k3 : Nat, J0 k3 i8 i4 i5 s1 i6 l1 i7 w6 ∧
 ∀ k4 : Nat, ∀ i9 i10 i11 : Int, ∀ s2 : ByteArray, ∀ i12 : Int, ∀ l2 : Sl, ∀ i13 : Int, ∀ w7 : World, J0 k4 i9 i10 i11 s2 i12 l2 i13 w7 → ((i9 != 0) = true → ∃ i14 : Int, Cells w7 ((r.add 0).add 1) [.int .i64 i14] ∧
 ∃ k5 k6 : Nat, ∃ z0 : List Value, ∃ k7 : Nat, ((r.add 0).add 1) = ⟨k5, k6, none⟩ ∧
 Blk w7 k5 k7 z0 ∧
 (k6 + 1) ≤ z0.length ∧
 k1 ≠ k5 ∧
 k2 ≠ k5 ∧
 ∀ w8 : World, Only [k5] w7 w8 → Blk w8 k5 k7 (splice z0 k6 [.int .i64 (IntKind.wrap .i64 (i14 + 1))]) → Calls Tryz.prog 92 #[.pointer (some r), .int .i64 (IntKind.wrap .i64 (k + 1))] w8 fun e3 w9 => ∃ i15 i16 : Int, ∃ s3 : ByteArray, ∃ i17 : Int, ∃ l3 : Sl, ∃ i18 : Int, e3 = (.returned (.agg #[.int .i64 i15, .int .i64 i16, .string s3, .int .i64 i17, l3.v, .int .i64 i18])) ∧
 Same [k1, k2] w8 w9 ∧
 ∀ k8 : Nat, ∀ w10 : World, w9.heap.size ≤ k8 → k8 < w10.heap.size → Only [] w9 w10 → ∃ l4 : Sl, ∃ w11 : World, ((Instr.buildSlice 22 2 #[.mk 0 (.agg #[.int .i64 i10, .int .i64 i11, .string s2, .int .i64 i12, l2.v, .int .i64 i13]), .mk 1 (.agg #[.int .i64 i15, .int .i64 i16, .string s3, .int .i64 i17, l3.v, .int .i64 i18])]).run Tryz.prog w10) = (.ok l4.v w11) ∧
 Same [k1, k2, k8] w10 w11 ∧
 ∀ w12 : World, Only [k2] w11 w12 → Calls Tryz.prog 114 #[.pointer (some r), .int .i64 k] w12 fun e4 w13 => ∃ i19 : Int, e4 = (.returned (.int .i64 i19)) ∧
 Same [k1, k2, k8] w12 w13 ∧
 ∃ k9 : Nat, k9 < k4 ∧
 J0 k9 i19 5 0 (ByteArray.mk #[]) i9 l4 i13 w13) ∧
 ((i9 != 0) = false → ∀ w14 : World, Only [k1] w7 w14 → R (.agg #[.int .i64 i10, .int .i64 i11, .string s2, .int .i64 i12, l2.v, .int .i64 i13]) w14))
theorem expr_reader_expr_wp (r : Addr) (k : Int) (R : Value → World → Prop) (w : World) (h : expr_reader_expr_vc r k R w) : Calls Tryz.prog 92 #[.pointer (some r), .int .i64 k] w fun e w' => ∃ v, e = .returned v ∧ R v w' :=
 fn_by (an := .s .o (.s (.s .o (.s (.s .o .o) .o)) (.s .o (.s (.s .o (.j [0, 1, 4, 5] [.s 6 (.int .i64), .b 5 [.int .i64, .int .i64, .str, .int .i64, .sl, .int .i64]] (.s (.s .o (.s .o .o)) (.s (.s .o (.s .o .o)) .o)) .o)) (.s .o .o))))) (args := [.ad r, .int .i64 k]) Tryz.checked.mixed (by kernel_rfl) (by kernel_rfl) h
def expr_cursor_bad_vc (c : Addr) (R : Value → World → Prop) (w : World) : Prop :=
 ∃ i0 : Int, Cells w ((c.add 2).add 0) [.int .i64 i0] ∧
 R (.bool (i0 != 0)) w
theorem expr_cursor_bad_wp (c : Addr) (R : Value → World → Prop) (w : World) (h : expr_cursor_bad_vc c R w) : Calls Tryz.prog 93 #[.pointer (some c)] w fun e w' => ∃ v, e = .returned v ∧ R v w' :=
 fn_by (an := .s .o (.s .o .o)) (args := [.ad c]) Tryz.checked.mixed (by kernel_rfl) (by kernel_rfl) h
def slices_Index_string_vc (s : Sl) (v1 : ByteArray) (R : Value → World → Prop) (w : World) : Prop :=
 ∃ J0 : Nat → Int → World → Prop, ∃ k0 : Nat, J0 k0 0 w ∧
 ∀ k1 : Nat, ∀ i0 : Int, ∀ w0 : World, J0 k1 i0 w0 → ((decide (i0 < (s.n : Int))) = true → ∃ p0 : Addr, SlAt s i0 1 p0 ∧
 ∃ s0 : ByteArray, Cells w0 p0 [.string s0] ∧
 ((v1.toList == s0.toList) = true → R (.int .i64 i0) w0) ∧
 ((v1.toList == s0.toList) = false → ∃ k2 : Nat, k2 < k1 ∧
 J0 k2 (IntKind.wrap .i64 (i0 + 1)) w0)) ∧
 ((decide (i0 < (s.n : Int))) = false → R (.int .i64 (-1)) w0)
theorem slices_Index_string_wp (s : Sl) (v1 : ByteArray) (R : Value → World → Prop) (w : World) (h : slices_Index_string_vc s v1 R w) : Calls Tryz.prog 94 #[s.v, .string v1] w fun e w' => ∃ v, e = .returned v ∧ R v w' :=
 fn_by (an := .s .o (.s (.s .o (.j [0, 1, 7] [.s 8 (.int .i64)] (.s .o (.s (.s .o .o) (.s (.s .o (.s .o (.s (.s .o .o) .o))) .o))) .o)) (.s .o .o))) (args := [.sl s, .str v1]) Tryz.checked.mixed (by kernel_rfl) (by kernel_rfl) h
def scan_letter_vc (c : Int) (R : Value → World → Prop) (w : World) : Prop :=
 R (.bool (((decide (97 ≤ (bits .or .u8 c 32))) && (decide ((bits .or .u8 c 32) ≤ 122))) || (c == 95))) w
theorem scan_letter_wp (c : Int) (R : Value → World → Prop) (w : World) (h : scan_letter_vc c R w) : Calls Tryz.prog 102 #[.int .u8 c] w fun e w' => ∃ v, e = .returned v ∧ R v w' :=
 fn_by (an := .s .o (.s .o .o)) (args := [.int .u8 c]) Tryz.checked.mixed (by kernel_rfl) (by kernel_rfl) h
def scan_cursor_row_vc (c : Addr) (R : Value → World → Prop) (w : World) : Prop :=
 Calls Tryz.prog 100 #[.pointer (some c)] w fun e0 w0 => ∃ s0 : ByteArray, e0 = (.returned (.string s0)) ∧
 ∃ J0 : Nat → Int → World → Prop, ∃ k0 : Nat, J0 k0 0 w0 ∧
 ∀ k1 : Nat, ∀ i0 : Int, ∀ w1 : World, J0 k1 i0 w1 → ∃ J1 : Bool → World → Prop, (∀ b0 : Bool, ∀ w2 : World, J1 b0 w2 → (b0 = true → ∃ k2 : Nat, k2 < k1 ∧
 J0 k2 (IntKind.wrap .i64 (i0 + 1)) w2) ∧
 (b0 = false → ∃ k3 : Nat, (i0 = (k3 : Int) ∧
 k3 ≤ s0.size) ∧
 R (.string (s0.extract 0 k3)) w2)) ∧
 ((decide (i0 < (s0.size : Int))) = true → ∃ c0 : UInt8, (0 ≤ i0 ∧
 (s0[Int.toNat i0]?) = (some c0)) ∧
 Calls Tryz.prog 102 #[.int .u8 (UInt8.toNat c0 : Int)] w1 fun e1 w3 => ∃ b1 : Bool, e1 = (.returned (.bool b1)) ∧
 (b1 = true → J1 true w3) ∧
 (b1 = false → ∃ c1 : UInt8, (0 ≤ i0 ∧
 (s0[Int.toNat i0]?) = (some c1)) ∧
 Calls Tryz.prog 104 #[.int .u8 (UInt8.toNat c1 : Int)] w3 fun e2 w4 => ∃ b2 : Bool, e2 = (.returned (.bool b2)) ∧
 J1 b2 w4)) ∧
 ((decide (i0 < (s0.size : Int))) = false → J1 false w1)
theorem scan_cursor_row_wp (c : Addr) (R : Value → World → Prop) (w : World) (h : scan_cursor_row_vc c R w) : Calls Tryz.prog 118 #[.pointer (some c)] w fun e w' => ∃ v, e = .returned v ∧ R v w' :=
 fn_by (an := .s .o (.s .o (.s .o (.s (.j [3] [.s 4 (.int .i64)] (.s (.s (.j [3, 4] [.s 22 .bool] .o .o) (.s .o .o)) .o) .o) (.s .o .o))))) (args := [.ad c]) Tryz.checked.mixed (by kernel_rfl) (by kernel_rfl) h
def scan_one_vc (c : Int) (of_ : Sl) (R : Value → World → Prop) (w : World) : Prop :=
 Calls Tryz.prog 115 #[of_.v, .int .u8 c] w fun e0 w0 => ∃ b0 : Bool, e0 = (.returned (.bool b0)) ∧
 R (.bool b0) w0
theorem scan_one_wp (c : Int) (of_ : Sl) (R : Value → World → Prop) (w : World) (h : scan_one_vc c of_ R w) : Calls Tryz.prog 98 #[.int .u8 c, of_.v] w fun e w' => ∃ v, e = .returned v ∧ R v w' :=
 fn_by (an := .s .o (.s .o .o)) (args := [.int .u8 c, .sl of_]) Tryz.checked.mixed (by kernel_rfl) (by kernel_rfl) h
def strings_HasPrefix_vc (s prefix_ : ByteArray) (R : Value → World → Prop) (w : World) : Prop :=
 Calls Tryz.prog 116 #[.string s, .string prefix_] w fun e0 w0 => ∃ b0 : Bool, e0 = (.returned (.bool b0)) ∧
 R (.bool b0) w0
theorem strings_HasPrefix_wp (s prefix_ : ByteArray) (R : Value → World → Prop) (w : World) (h : strings_HasPrefix_vc s prefix_ R w) : Calls Tryz.prog 99 #[.string s, .string prefix_] w fun e w' => ∃ v, e = .returned v ∧ R v w' :=
 fn_by (an := .s .o (.s .o .o)) (args := [.str s, .str prefix_]) Tryz.checked.mixed (by kernel_rfl) (by kernel_rfl) h
def scan_cursor_rest_vc (c : Addr) (R : Value → World → Prop) (w : World) : Prop :=
 ∃ s0 : ByteArray, Cells w (c.add 0) [.string s0] ∧
 ∃ i0 : Int, Cells w (c.add 1) [.int .i64 i0] ∧
 ∃ k0 : Nat, (i0 = (k0 : Int) ∧
 k0 ≤ s0.size) ∧
 ∀ w0 : World, Only [] w w0 → R (.string (s0.extract k0 s0.size)) w0
theorem scan_cursor_rest_wp (c : Addr) (R : Value → World → Prop) (w : World) (h : scan_cursor_rest_vc c R w) : Calls Tryz.prog 100 #[.pointer (some c)] w fun e w' => ∃ v, e = .returned v ∧ R v w' :=
 fn_by (an := .s .o (.s .o .o)) (args := [.ad c]) Tryz.checked.mixed (by kernel_rfl) (by kernel_rfl) h
def strings_Cut_vc (s sep : ByteArray) (R : Value → World → Prop) (w : World) : Prop :=
 Calls Tryz.prog 117 #[.string s, .string sep] w fun e0 w0 => ∃ s0 s1 : ByteArray, ∃ b0 : Bool, e0 = (.returned (.tuple #[.string s0, .string s1, .bool b0])) ∧
 R (.tuple #[.string s0, .string s1, .bool b0]) w0
theorem strings_Cut_wp (s sep : ByteArray) (R : Value → World → Prop) (w : World) (h : strings_Cut_vc s sep R w) : Calls Tryz.prog 101 #[.string s, .string sep] w fun e w' => ∃ v, e = .returned v ∧ R v w' :=
 fn_by (an := .s .o (.s .o .o)) (args := [.str s, .str sep]) Tryz.checked.mixed (by kernel_rfl) (by kernel_rfl) h
def scan_cutter_word_vc (c : Addr) (R : Value → World → Prop) (w : World) : Prop :=
 Calls Tryz.prog 118 #[.pointer (some (c.add 0))] w fun e0 w0 => ∃ s0 : ByteArray, e0 = (.returned (.string s0)) ∧
 ((decide ((s0.size : Int) > 24)) = true → R (.int .i64 2) w0) ∧
 ((decide ((s0.size : Int) > 24)) = false → ∃ J0 : Int → World → Prop, (∀ i0 : Int, ∀ w1 : World, J0 i0 w1 → Calls Tryz.prog 119 #[.string s0] w1 fun e1 w2 => ∃ s1 : ByteArray, e1 = (.returned (.string s1)) ∧
 Calls Tryz.prog 60 #[.pointer (some c), .agg #[.int .i64 i0, .string s1, .int .i64 0, .int .i64 0], .int .i64 (s0.size : Int)] w2 fun e2 w3 => e2 = (.returned (.tuple #[])) ∧
 R (.int .i64 0) w3) ∧
 ∃ l0 : Sl, Cells w0 (c.add 2) [l0.v] ∧
 Calls Tryz.prog 49 #[l0.v, .string s0] w0 fun e3 w4 => ∃ b0 : Bool, e3 = (.returned (.bool b0)) ∧
 (b0 = true → J0 2 w4) ∧
 (b0 = false → J0 1 w4))
theorem scan_cutter_word_wp (c : Addr) (R : Value → World → Prop) (w : World) (h : scan_cutter_word_vc c R w) : Calls Tryz.prog 103 #[.pointer (some c)] w fun e w' => ∃ v, e = .returned v ∧ R v w' :=
 fn_by (an := .s .o (.s .o (.s (.s .o (.s (.s .o .o) .o)) (.s .o (.j [0, 3] [.s 4 (.int .i64)] (.s .o (.s .o .o)) (.s .o (.s .o .o))))))) (args := [.ad c]) Tryz.checked.mixed (by kernel_rfl) (by kernel_rfl) h
def scan_digit_vc (c : Int) (R : Value → World → Prop) (w : World) : Prop :=
 R (.bool ((decide (48 ≤ c)) && (decide (c ≤ 57)))) w
theorem scan_digit_wp (c : Int) (R : Value → World → Prop) (w : World) (h : scan_digit_vc c R w) : Calls Tryz.prog 104 #[.int .u8 c] w fun e w' => ∃ v, e = .returned v ∧ R v w' :=
 fn_by (an := .s .o (.s .o .o)) (args := [.int .u8 c]) Tryz.checked.mixed (by kernel_rfl) (by kernel_rfl) h
def scan_cutter_number_vc (c : Addr) (R : Value → World → Prop) (w : World) : Prop :=
 Calls Tryz.prog 100 #[.pointer (some (c.add 0))] w fun e0 w0 => ∃ s0 : ByteArray, e0 = (.returned (.string s0)) ∧
 Calls Tryz.prog 120 #[.string s0] w0 fun e1 w1 => ∃ i0 i1 i2 : Int, e1 = (.returned (.tuple #[.int .i64 i0, .int .i64 i1, .int .i64 i2])) ∧
 ((i2 != 0) = true → R (.int .i64 i2) w1) ∧
 ((i2 != 0) = false → Calls Tryz.prog 118 #[.pointer (some (c.add 0))] w1 fun e2 w2 => ∃ s1 : ByteArray, e2 = (.returned (.string s1)) ∧
 ((decide ((s1.size : Int) > i1)) = true → R (.int .i64 4) w2) ∧
 ((decide ((s1.size : Int) > i1)) = false → Calls Tryz.prog 60 #[.pointer (some c), .agg #[.int .i64 3, .string (ByteArray.mk #[]), .int .i64 i0, .int .i64 0], .int .i64 i1] w2 fun e3 w3 => e3 = (.returned (.tuple #[])) ∧
 R (.int .i64 0) w3))
theorem scan_cutter_number_wp (c : Addr) (R : Value → World → Prop) (w : World) (h : scan_cutter_number_vc c R w) : Calls Tryz.prog 105 #[.pointer (some c)] w fun e w' => ∃ v, e = .returned v ∧ R v w' :=
 fn_by (an := .s .o (.s .o (.s (.s .o (.s (.s .o .o) .o)) (.s (.s .o (.s (.s .o .o) .o)) (.s .o (.s .o .o)))))) (args := [.ad c]) Tryz.checked.mixed (by kernel_rfl) (by kernel_rfl) h
def scan_cutter_sign_vc (c : Addr) (R : Value → World → Prop) (w : World) : Prop :=
 Calls Tryz.prog 100 #[.pointer (some (c.add 0))] w fun e0 w0 => ∃ s0 : ByteArray, e0 = (.returned (.string s0)) ∧
 ∃ J0 : Int → World → Prop, (∀ i0 : Int, ∀ w1 : World, J0 i0 w1 → ∃ J1 : Int → World → Prop, (∀ i1 : Int, ∀ w2 : World, J1 i1 w2 → ((i1 == 0) = true → R (.int .i64 4) w2) ∧
 ((i1 == 0) = false → ∃ k0 : Nat, (i1 = (k0 : Int) ∧
 k0 ≤ s0.size) ∧
 Calls Tryz.prog 119 #[.string (s0.extract 0 k0)] w2 fun e1 w3 => ∃ s1 : ByteArray, e1 = (.returned (.string s1)) ∧
 Calls Tryz.prog 60 #[.pointer (some c), .agg #[.int .i64 4, .string s1, .int .i64 0, .int .i64 0], .int .i64 i1] w3 fun e2 w4 => e2 = (.returned (.tuple #[])) ∧
 R (.int .i64 0) w4)) ∧
 ∃ J2 : Bool → World → Prop, (∀ b0 : Bool, ∀ w5 : World, J2 b0 w5 → (b0 = true → J1 2 w5) ∧
 (b0 = false → J1 i0 w5)) ∧
 ((decide ((s0.size : Int) > 1)) = true → ∃ c0 : UInt8, ((0 : Int) ≤ 1 ∧
 s0[1]? = (some c0)) ∧
 (((UInt8.toNat c0 : Int) == 61) = true → ∃ c1 : UInt8, ((0 : Int) ≤ 0 ∧
 s0[0]? = (some c1)) ∧
 ∀ w6 : World, Only [] w1 w6 → ∃ l0 : Sl, ∃ w7 : World, ((Instr.buildSlice 161 4 #[.mk 0 (.int .u8 60), .mk 1 (.int .u8 62), .mk 2 (.int .u8 61), .mk 3 (.int .u8 33)]).run Tryz.prog w6) = (.ok l0.v w7) ∧
 Calls Tryz.prog 98 #[.int .u8 (UInt8.toNat c1 : Int), l0.v] w7 fun e3 w8 => ∃ b1 : Bool, e3 = (.returned (.bool b1)) ∧
 (b1 = true → J2 true w8) ∧
 (b1 = false → ∃ c2 : UInt8, ((0 : Int) ≤ 1 ∧
 s0[1]? = (some c2)) ∧
 ∃ c3 : UInt8, ((0 : Int) ≤ 0 ∧
 s0[0]? = (some c3)) ∧
 (((UInt8.toNat c2 : Int) == (UInt8.toNat c3 : Int)) = true → ∃ c4 : UInt8, ((0 : Int) ≤ 0 ∧
 s0[0]? = (some c4)) ∧
 ∃ l1 : Sl, ∃ w9 : World, ((Instr.buildSlice 161 2 #[.mk 0 (.int .u8 38), .mk 1 (.int .u8 124)]).run Tryz.prog w8) = (.ok l1.v w9) ∧
 Calls Tryz.prog 98 #[.int .u8 (UInt8.toNat c4 : Int), l1.v] w9 fun e4 w10 => ∃ b2 : Bool, e4 = (.returned (.bool b2)) ∧
 (b2 = true → J2 true w10) ∧
 (b2 = false → 2 ≤ s0.size ∧
 J2 (((s0.extract 0 2).toList) == ((ByteArray.mk #[45, 62]).toList)) w10)) ∧
 (((UInt8.toNat c2 : Int) == (UInt8.toNat c3 : Int)) = false → 2 ≤ s0.size ∧
 J2 (((s0.extract 0 2).toList) == ((ByteArray.mk #[45, 62]).toList)) w8))) ∧
 (((UInt8.toNat c0 : Int) == 61) = false → ∃ c5 : UInt8, ((0 : Int) ≤ 1 ∧
 s0[1]? = (some c5)) ∧
 ∃ c6 : UInt8, ((0 : Int) ≤ 0 ∧
 s0[0]? = (some c6)) ∧
 (((UInt8.toNat c5 : Int) == (UInt8.toNat c6 : Int)) = true → ∃ c7 : UInt8, ((0 : Int) ≤ 0 ∧
 s0[0]? = (some c7)) ∧
 ∀ w11 : World, Only [] w1 w11 → ∃ l2 : Sl, ∃ w12 : World, ((Instr.buildSlice 161 2 #[.mk 0 (.int .u8 38), .mk 1 (.int .u8 124)]).run Tryz.prog w11) = (.ok l2.v w12) ∧
 Calls Tryz.prog 98 #[.int .u8 (UInt8.toNat c7 : Int), l2.v] w12 fun e5 w13 => ∃ b3 : Bool, e5 = (.returned (.bool b3)) ∧
 (b3 = true → J2 true w13) ∧
 (b3 = false → 2 ≤ s0.size ∧
 J2 (((s0.extract 0 2).toList) == ((ByteArray.mk #[45, 62]).toList)) w13)) ∧
 (((UInt8.toNat c5 : Int) == (UInt8.toNat c6 : Int)) = false → 2 ≤ s0.size ∧
 ∀ w14 : World, Only [] w1 w14 → J2 (((s0.extract 0 2).toList) == ((ByteArray.mk #[45, 62]).toList)) w14))) ∧
 ((decide ((s0.size : Int) > 1)) = false → ∀ w15 : World, Only [] w1 w15 → J2 false w15)) ∧
 ∃ c8 : UInt8, ((0 : Int) ≤ 0 ∧
 s0[0]? = (some c8)) ∧
 ∃ l3 : Sl, ∃ w16 : World, ((Instr.buildSlice 161 17 #[.mk 0 (.int .u8 123), .mk 1 (.int .u8 125), .mk 2 (.int .u8 40), .mk 3 (.int .u8 41), .mk 4 (.int .u8 91), .mk 5 (.int .u8 93), .mk 6 (.int .u8 59), .mk 7 (.int .u8 44), .mk 8 (.int .u8 61), .mk 9 (.int .u8 43), .mk 10 (.int .u8 45), .mk 11 (.int .u8 42), .mk 12 (.int .u8 47), .mk 13 (.int .u8 37), .mk 14 (.int .u8 60), .mk 15 (.int .u8 62), .mk 16 (.int .u8 33)]).run Tryz.prog w0) = (.ok l3.v w16) ∧
 ∃ l4 : Sl, ∃ w17 : World, ((convert 161 161 l3.v).run Tryz.prog w16) = (.ok l4.v w17) ∧
 Calls Tryz.prog 98 #[.int .u8 (UInt8.toNat c8 : Int), l4.v] w17 fun e6 w18 => ∃ b4 : Bool, e6 = (.returned (.bool b4)) ∧
 (b4 = true → J0 1 w18) ∧
 (b4 = false → J0 0 w18)
theorem scan_cutter_sign_wp (c : Addr) (R : Value → World → Prop) (w : World) (h : scan_cutter_sign_vc c R w) : Calls Tryz.prog 106 #[.pointer (some c)] w fun e w' => ∃ v, e = .returned v ∧ R v w' :=
 fn_by (an := .s .o (.s .o (.s .o (.j [0, 3] [.s 4 (.int .i64)] (.s .o (.s .o .o)) (.j [0, 3] [.s 4 (.int .i64)] (.s (.j [0, 3, 4] [.s 45 .bool] .o .o) (.s .o .o)) (.s (.s .o (.s (.s .o .o) .o)) (.s .o (.s .o .o)))))))) (args := [.ad c]) Tryz.checked.mixed (by kernel_rfl) (by kernel_rfl) h
def expr_reader_one_vc (r : Addr) (R : Value → World → Prop) (w : World) : Prop :=
 ∀ k0 k1 : Nat, ∀ w0 : World, w.heap.size ≤ k0 → k0 < w0.heap.size → w.heap.size ≤ k1 → k1 < w0.heap.size → Only [] w w0 → Calls Tryz.prog 126 #[.pointer (some (r.add 0))] w0 fun e0 w1 => ∃ i0 : Int, ∃ s0 : ByteArray, ∃ i1 i2 : Int, e0 = (.returned (.agg #[.int .i64 i0, .string s0, .int .i64 i1, .int .i64 i2])) ∧
 Same [k0, k1] w0 w1 ∧
 ∀ k2 k3 : Nat, ∀ w2 : World, w1.heap.size ≤ k2 → k2 < w2.heap.size → w1.heap.size ≤ k3 → k3 < w2.heap.size → Only [] w1 w2 → ∃ J0 : Option Addr → Int → Int → ByteArray → Int → Sl → Int → Int → Int → ByteArray → Int → Sl → Int → World → Prop, (∀ q0 : Option Addr, ∀ i3 i4 : Int, ∀ s1 : ByteArray, ∀ i5 : Int, ∀ l0 : Sl, ∀ i6 i7 i8 : Int, ∀ s2 : ByteArray, ∀ i9 : Int, ∀ l1 : Sl, ∀ i10 : Int, ∀ w3 : World, J0 q0 i3 i4 s1 i5 l0 i6 i7 i8 s2 i9 l1 i10 w3 → ∃ p0 : Addr, q0 = (some p0) ∧
 ∃ i11 : Int, Cells w3 ((p0.add 0).add 1) [.int .i64 i11] ∧
 ∃ p1 : Addr, q0 = (some p1) ∧
 ∃ k4 k5 : Nat, ∃ z0 : List Value, ∃ k6 : Nat, ((p1.add 0).add 1) = ⟨k4, k5, none⟩ ∧
 Blk w3 k4 k6 z0 ∧
 (k5 + 1) ≤ z0.length ∧
 k0 ≠ k4 ∧
 k1 ≠ k4 ∧
 k2 ≠ k4 ∧
 k3 ≠ k4 ∧
 ∀ w4 : World, Only [k4] w3 w4 → Blk w4 k4 k6 (splice z0 k5 [.int .i64 (IntKind.wrap .i64 (i11 + 1))]) → ∀ w5 : World, Only [k1] w4 w5 → R (.agg #[.int .i64 i7, .int .i64 i8, .string s2, .int .i64 i9, l1.v, .int .i64 i10]) w5) ∧
 Calls Tryz.prog 93 #[.pointer (some (r.add 0))] w2 fun e1 w6 => ∃ b0 : Bool, e1 = (.returned (.bool b0)) ∧
 Same [k0, k1, k2, k3] w2 w6 ∧
 (b0 = true → ∀ w7 : World, Only [k1] w6 w7 → R (.agg #[.int .i64 0, .int .i64 0, .string (ByteArray.mk #[]), .int .i64 0, Sl.nil.v, .int .i64 i2]) w7) ∧
 (b0 = false → ∃ l2 : Sl, ∃ w8 : World, ((Instr.buildSlice 25 2 #[.mk 0 (.string (ByteArray.mk #[45])), .mk 1 (.string (ByteArray.mk #[33]))]).run Tryz.prog w6) = (.ok l2.v w8) ∧
 Same [k0, k1, k2, k3] w6 w8 ∧
 Calls Tryz.prog 127 #[.pointer (some (r.add 0)), l2.v] w8 fun e2 w9 => ∃ b1 : Bool, e2 = (.returned (.bool b1)) ∧
 Same [k0, k1, k2, k3] w8 w9 ∧
 (b1 = true → ∀ w10 : World, Only [k3] w9 w10 → ∃ J1 : Int → Int → ByteArray → Int → Sl → Int → World → Prop, (∀ i12 i13 : Int, ∀ s3 : ByteArray, ∀ i14 : Int, ∀ l3 : Sl, ∀ i15 : Int, ∀ w11 : World, J1 i12 i13 s3 i14 l3 i15 w11 → Calls Tryz.prog 128 #[.pointer (some r), .func (.func 113) #[.pointer (some r)] #[]] w11 fun e3 w12 => ∃ i16 i17 : Int, ∃ s4 : ByteArray, ∃ i18 : Int, ∃ l4 : Sl, ∃ i19 : Int, e3 = (.returned (.agg #[.int .i64 i16, .int .i64 i17, .string s4, .int .i64 i18, l4.v, .int .i64 i19])) ∧
 Same [k0, k1, k2, k3] w11 w12 ∧
 ∃ l5 : Sl, ∃ w13 : World, ((Instr.buildSlice 22 1 #[.mk 0 (.agg #[.int .i64 i16, .int .i64 i17, .string s4, .int .i64 i18, l4.v, .int .i64 i19])]).run Tryz.prog w12) = (.ok l5.v w13) ∧
 Same [k0, k1, k2, k3] w12 w13 ∧
 ∀ w14 : World, Only [k1, k3] w13 w14 → R (.agg #[.int .i64 i12, .int .i64 i13, .string s3, .int .i64 i14, l5.v, .int .i64 i15]) w14) ∧
 ((s0.toList == ((ByteArray.mk #[33]).toList)) = true → ∀ w15 : World, Only [k3] w10 w15 → J1 4 0 (ByteArray.mk #[]) 15 Sl.nil i2 w15) ∧
 ((s0.toList == ((ByteArray.mk #[33]).toList)) = false → J1 4 0 (ByteArray.mk #[]) 14 Sl.nil i2 w10)) ∧
 (b1 = false → ∃ l6 : Sl, ∃ w16 : World, ((Instr.buildSlice 25 1 #[.mk 0 (.string (ByteArray.mk #[40]))]).run Tryz.prog w9) = (.ok l6.v w16) ∧
 Same [k0, k1, k2, k3] w9 w16 ∧
 Calls Tryz.prog 127 #[.pointer (some (r.add 0)), l6.v] w16 fun e4 w17 => ∃ b2 : Bool, e4 = (.returned (.bool b2)) ∧
 Same [k0, k1, k2, k3] w16 w17 ∧
 (b2 = true → Blk w17 k0 144 [.pointer (some r)] → k1 ≠ k0 → k2 ≠ k0 → k3 ≠ k0 → Calls Tryz.prog 128 #[.pointer (some r), .func (.func 129) #[] #[.pointer (some ⟨k0, 0, none⟩)]] w17 fun e5 w18 => ∃ i20 i21 : Int, ∃ s5 : ByteArray, ∃ i22 : Int, ∃ l7 : Sl, ∃ i23 : Int, e5 = (.returned (.agg #[.int .i64 i20, .int .i64 i21, .string s5, .int .i64 i22, l7.v, .int .i64 i23])) ∧
 Same [k1, k2, k3] w17 w18 ∧
 ∃ q1 : Option Addr, Blk w18 k0 144 [.pointer q1] ∧
 ∀ w19 : World, Only [k1] w18 w19 → Blk w19 k0 144 [.pointer q1] → R (.agg #[.int .i64 i20, .int .i64 i21, .string s5, .int .i64 i22, l7.v, .int .i64 i23]) w19) ∧
 (b2 = false → ((i0 == 3) = true → ∀ w20 : World, Only [] w17 w20 → k0 ≠ k1 → k0 ≠ k2 → k0 ≠ k3 → k1 ≠ k2 → k1 ≠ k3 → k2 ≠ k3 → ∃ J2 : Nat → Prop, J2 k2 ∧
 Out J2 k3 ∧
 Out J2 k3 ∧
 ∀ w21 : World, Only [k3] w20 w21 → J0 (some r) 0 0 (ByteArray.mk #[]) 0 Sl.nil 0 1 i1 (ByteArray.mk #[]) 0 Sl.nil i2 w21) ∧
 ((i0 == 3) = false → ((i0 == 1) = true → ∀ w22 : World, Only [] w17 w22 → k0 ≠ k1 → k0 ≠ k2 → k0 ≠ k3 → k1 ≠ k2 → k1 ≠ k3 → k2 ≠ k3 → ∃ J3 : Nat → Prop, J3 k2 ∧
 Out J3 k3 ∧
 Out J3 k3 ∧
 ∀ w23 : World, Only [k3] w22 w23 → J0 (some r) 0 0 (ByteArray.mk #[]) 0 Sl.nil 0 2 0 s0 0 Sl.nil i2 w23) ∧
 ((i0 == 1) = false → (((i0 == 2) && (s0.toList == ((ByteArray.mk #[105, 110]).toList))) = true → ∃ i24 : Int, Cells w17 ((r.add 0).add 1) [.int .i64 i24] ∧
 ∃ k7 k8 : Nat, ∃ z1 : List Value, ∃ k9 : Nat, ((r.add 0).add 1) = ⟨k7, k8, none⟩ ∧
 Blk w17 k7 k9 z1 ∧
 (k8 + 1) ≤ z1.length ∧
 k0 ≠ k7 ∧
 k1 ≠ k7 ∧
 k2 ≠ k7 ∧
 k3 ≠ k7 ∧
 ∀ w24 : World, Only [k7] w17 w24 → Blk w24 k7 k9 (splice z1 k8 [.int .i64 (IntKind.wrap .i64 (i24 + 1))]) → Calls Tryz.prog 130 #[.pointer (some (r.add 0)), .string (ByteArray.mk #[40])] w24 fun e6 w25 => e6 = (.returned (.tuple #[])) ∧
 Same [k0, k1, k2, k3] w24 w25 ∧
 Calls Tryz.prog 131 #[.pointer (some r)] w25 fun e7 w26 => ∃ s6 : ByteArray, e7 = (.returned (.string s6)) ∧
 Same [k0, k1, k2, k3] w25 w26 ∧
 ∀ w27 : World, Only [k3] w26 w27 → Calls Tryz.prog 130 #[.pointer (some (r.add 0)), .string (ByteArray.mk #[41])] w27 fun e8 w28 => e8 = (.returned (.tuple #[])) ∧
 Same [k0, k1, k2, k3] w27 w28 ∧
 ∀ w29 : World, Only [k1] w28 w29 → R (.agg #[.int .i64 3, .int .i64 0, .string s6, .int .i64 0, Sl.nil.v, .int .i64 i2]) w29) ∧
 (((i0 == 2) && (s0.toList == ((ByteArray.mk #[105, 110]).toList))) = false → Calls Tryz.prog 132 #[.pointer (some (r.add 0))] w17 fun e9 w30 => e9 = (.returned (.tuple #[])) ∧
 Same [k0, k1, k2, k3] w17 w30 ∧
 ∀ w31 : World, Only [k1] w30 w31 → R (.agg #[.int .i64 0, .int .i64 0, .string (ByteArray.mk #[]), .int .i64 0, Sl.nil.v, .int .i64 i2]) w31))))))
theorem expr_reader_one_wp (r : Addr) (R : Value → World → Prop) (w : World) (h : expr_reader_one_vc r R w) : Calls Tryz.prog 113 #[.pointer (some r)] w fun e w' => ∃ v, e = .returned v ∧ R v w' :=
 fn_by (an := .s .o (.s .o (.s .o (.j [1, 2, 3, 4] [.b 1 [.ptr], .b 2 [.int .i64, .int .i64, .str, .int .i64, .sl, .int .i64], .b 4 [.int .i64, .int .i64, .str, .int .i64, .sl, .int .i64]] (.s .o (.s (.s .o .o) (.s .o (.s (.s .o (.j [1, 2, 3, 4] [.b 4 [.int .i64, .int .i64, .str, .int .i64, .sl, .int .i64]] (.s .o (.s .o .o)) (.s .o (.s .o .o)))) (.s .o (.s (.s .o .o) (.s .o (.s .o (.s .o (.s .o (.s .o (.s (.s .o (.s .o (.s .o (.s .o (.s .o .o))))) (.s .o (.s .o .o)))))))))))))) (.s .o (.s .o .o)))))) (args := [.ad r]) Tryz.checked.mixed (by kernel_rfl) (by kernel_rfl) h
def expr_reader_operator_vc (r : Addr) (k : Int) (R : Value → World → Prop) (w : World) : Prop :=
 ∃ J0 : Nat → Int → World → Prop, ∃ k0 : Nat, J0 k0 1 w ∧
 ∀ k1 : Nat, ∀ i0 : Int, ∀ w0 : World, J0 k1 i0 w0 → ((decide (i0 ≤ 13)) = true → ∃ J1 : Bool → World → Prop, (∀ b0 : Bool, ∀ w1 : World, J1 b0 w1 → (b0 = true → R (.int .i64 i0) w1) ∧
 (b0 = false → ∃ k2 : Nat, k2 < k1 ∧
 J0 k2 (IntKind.wrap .i64 (i0 + 1)) w1)) ∧
 ∀ w2 : World, Only [] w0 w2 → Calls Tryz.prog 133 #[.int .i64 i0] w2 fun e0 w3 => ∃ i1 : Int, e0 = (.returned (.int .i64 i1)) ∧
 ((i1 == k) = true → ∃ l0 : Sl, Cells w3 (r.add 5) [l0.v] ∧
 ∃ p0 : Addr, SlAt l0 i0 1 p0 ∧
 ∃ s0 : ByteArray, Cells w3 p0 [.string s0] ∧
 ∃ l1 : Sl, ∃ w4 : World, ((Instr.buildSlice 25 1 #[.mk 0 (.string s0)]).run Tryz.prog w3) = (.ok l1.v w4) ∧
 Calls Tryz.prog 127 #[.pointer (some (r.add 0)), l1.v] w4 fun e1 w5 => ∃ b1 : Bool, e1 = (.returned (.bool b1)) ∧
 J1 b1 w5) ∧
 ((i1 == k) = false → J1 false w3)) ∧
 ((decide (i0 ≤ 13)) = false → R (.int .i64 0) w0)
theorem expr_reader_operator_wp (r : Addr) (k : Int) (R : Value → World → Prop) (w : World) (h : expr_reader_operator_vc r k R w) : Calls Tryz.prog 114 #[.pointer (some r), .int .i64 k] w fun e w' => ∃ v, e = .returned v ∧ R v w' :=
 fn_by (an := .s .o (.s (.s .o (.j [0, 1] [.s 5 (.int .i64)] (.s (.s .o (.s .o .o)) (.s (.s (.j [0, 1, 5] [.s 27 .bool] .o .o) (.s (.s .o .o) .o)) .o)) .o)) (.s .o .o))) (args := [.ad r, .int .i64 k]) Tryz.checked.mixed (by kernel_rfl) (by kernel_rfl) h
def slices_Contains_byte_vc (s : Sl) (v1 : Int) (R : Value → World → Prop) (w : World) : Prop :=
 Calls Tryz.prog 134 #[s.v, .int .u8 v1] w fun e0 w0 => ∃ i0 : Int, e0 = (.returned (.int .i64 i0)) ∧
 R (.bool (decide (i0 ≥ 0))) w0
theorem slices_Contains_byte_wp (s : Sl) (v1 : Int) (R : Value → World → Prop) (w : World) (h : slices_Contains_byte_vc s v1 R w) : Calls Tryz.prog 115 #[s.v, .int .u8 v1] w fun e w' => ∃ v, e = .returned v ∧ R v w' :=
 fn_by (an := .s .o (.s .o .o)) (args := [.sl s, .int .u8 v1]) Tryz.checked.mixed (by kernel_rfl) (by kernel_rfl) h
def internal_stringslite_HasPrefix_vc (s prefix_ : ByteArray) (R : Value → World → Prop) (w : World) : Prop :=
 ∃ k0 : Nat, ((decide ((s.size : Int) ≥ (prefix_.size : Int))) = true → (prefix_.size : Int) = (k0 : Int) ∧
 k0 ≤ s.size) ∧
 R (.bool ((decide ((s.size : Int) ≥ (prefix_.size : Int))) && (((s.extract 0 k0).toList) == prefix_.toList))) w
theorem internal_stringslite_HasPrefix_wp (s prefix_ : ByteArray) (R : Value → World → Prop) (w : World) (h : internal_stringslite_HasPrefix_vc s prefix_ R w) : Calls Tryz.prog 116 #[.string s, .string prefix_] w fun e w' => ∃ v, e = .returned v ∧ R v w' :=
 fn_by (an := .s .o (.s .o .o)) (args := [.str s, .str prefix_]) Tryz.checked.mixed (by kernel_rfl) (by kernel_rfl) h
def internal_stringslite_Cut_vc (s sep : ByteArray) (R : Value → World → Prop) (w : World) : Prop :=
 Calls Tryz.prog 135 #[.string s, .string sep] w fun e0 w0 => ∃ i0 : Int, e0 = (.returned (.int .i64 i0)) ∧
 ((decide (i0 ≥ 0)) = true → ∃ k0 : Nat, (i0 = (k0 : Int) ∧
 k0 ≤ s.size) ∧
 ∃ k1 : Nat, ((IntKind.wrap .i64 (i0 + (sep.size : Int))) = (k1 : Int) ∧
 k1 ≤ s.size) ∧
 ∀ w1 : World, Only [] w0 w1 → R (.tuple #[.string (s.extract 0 k0), .string (s.extract k1 s.size), .bool true]) w1) ∧
 ((decide (i0 ≥ 0)) = false → R (.tuple #[.string s, .string (ByteArray.mk #[]), .bool false]) w0)
theorem internal_stringslite_Cut_wp (s sep : ByteArray) (R : Value → World → Prop) (w : World) (h : internal_stringslite_Cut_vc s sep R w) : Calls Tryz.prog 117 #[.string s, .string sep] w fun e w' => ∃ v, e = .returned v ∧ R v w' :=
 fn_by (an := .s .o (.s (.s .o (.s .o (.s (.s .o .o) .o))) (.s .o .o))) (args := [.str s, .str sep]) Tryz.checked.mixed (by kernel_rfl) (by kernel_rfl) h
def strings_Clone_vc (s : ByteArray) (R : Value → World → Prop) (w : World) : Prop :=
 Calls Tryz.prog 136 #[.string s] w fun e0 w0 => ∃ s0 : ByteArray, e0 = (.returned (.string s0)) ∧
 R (.string s0) w0
theorem strings_Clone_wp (s : ByteArray) (R : Value → World → Prop) (w : World) (h : strings_Clone_vc s R w) : Calls Tryz.prog 119 #[.string s] w fun e w' => ∃ v, e = .returned v ∧ R v w' :=
 fn_by (an := .s .o (.s .o .o)) (args := [.str s]) Tryz.checked.mixed (by kernel_rfl) (by kernel_rfl) h
def calc_Parse_vc (s : ByteArray) (R : Value → World → Prop) (w : World) : Prop :=
 ∃ J0 : Nat → Int → World → Prop, ∃ k0 : Nat, J0 k0 0 w ∧
 ∀ k1 : Nat, ∀ i0 : Int, ∀ w0 : World, J0 k1 i0 w0 → ∃ J1 : Bool → World → Prop, (∀ b0 : Bool, ∀ w1 : World, J1 b0 w1 → (b0 = true → ∃ k2 : Nat, k2 < k1 ∧
 J0 k2 (IntKind.wrap .i64 (i0 + 1)) w1) ∧
 (b0 = false → ((s.toList == ((ByteArray.mk #[]).toList)) = true → R (.tuple #[.int .i64 0, .int .i64 0, .int .i64 3]) w1) ∧
 ((s.toList == ((ByteArray.mk #[]).toList)) = false → ∃ J2 : Bool → World → Prop, (∀ b1 : Bool, ∀ w2 : World, J2 b1 w2 → (b1 = true → R (.tuple #[.int .i64 0, .int .i64 0, .int .i64 4]) w2) ∧
 (b1 = false → ∃ k3 : Nat, (i0 = (k3 : Int) ∧
 k3 ≤ s.size) ∧
 Calls Tryz.prog 138 #[.string (s.extract 0 k3), .int .i64 10, .int .i64 64] w2 fun e0 w3 => ∃ i1 : Int, ∃ v0 : OV, e0 = (.returned (.tuple #[.int .i64 i1, v0.v])) ∧
 Ifc v0.v ∧
 ((!(niV v0.v)) = true → R (.tuple #[.int .i64 0, .int .i64 0, .int .i64 20]) w3) ∧
 ((!(niV v0.v)) = false → R (.tuple #[.int .i64 i1, .int .i64 i0, .int .i64 0]) w3))) ∧
 ((i0 == 0) = true → J2 (i0 == 0) w1) ∧
 ((i0 == 0) = false → ∃ c0 : UInt8, ((decide (i0 > 1)) = true → (0 : Int) ≤ 0 ∧
 s[0]? = (some c0)) ∧
 J2 ((decide (i0 > 1)) && ((UInt8.toNat c0 : Int) == 48)) w1)))) ∧
 ((decide (i0 < (s.size : Int))) = true → ∃ c1 : UInt8, (0 ≤ i0 ∧
 (s[Int.toNat i0]?) = (some c1)) ∧
 Calls Tryz.prog 137 #[.int .u8 (UInt8.toNat c1 : Int)] w0 fun e1 w4 => ∃ b2 : Bool, e1 = (.returned (.bool b2)) ∧
 J1 b2 w4) ∧
 ((decide (i0 < (s.size : Int))) = false → J1 false w0)
theorem calc_Parse_wp (s : ByteArray) (R : Value → World → Prop) (w : World) (h : calc_Parse_vc s R w) : Calls Tryz.prog 120 #[.string s] w fun e w' => ∃ v, e = .returned v ∧ R v w' :=
 fn_by (an := .s .o (.s .o (.s (.j [0] [.s 5 (.int .i64)] (.s (.s (.j [0, 5] [.s 17 .bool] .o .o) (.s .o .o)) .o) .o) (.s (.s .o (.s (.s .o .o) (.j [0, 5] [.s 23 .bool] (.s .o (.s .o .o)) (.s (.s .o .o) .o)))) (.s .o (.s (.s .o (.s (.s .o .o) .o)) (.s .o .o))))))) (args := [.str s]) Tryz.checked.mixed (by kernel_rfl) (by kernel_rfl) h
def expr_cursor_now_vc (c : Addr) (R : Value → World → Prop) (w : World) : Prop :=
 ∀ k0 : Nat, ∀ w0 : World, w.heap.size ≤ k0 → k0 < w0.heap.size → Only [] w w0 → ∃ l0 : Sl, Cells w0 (c.add 0) [l0.v] ∧
 ∃ i0 : Int, Cells w0 (c.add 1) [.int .i64 i0] ∧
 ∃ p0 : Addr, SlAt l0 i0 4 p0 ∧
 ∃ i1 : Int, ∃ s0 : ByteArray, ∃ i2 i3 : Int, Cells w0 p0 [.int .i64 i1, .string s0, .int .i64 i2, .int .i64 i3] ∧
 ∀ w1 : World, Only [k0] w0 w1 → R (.agg #[.int .i64 i1, .string s0, .int .i64 i2, .int .i64 i3]) w1
theorem expr_cursor_now_wp (c : Addr) (R : Value → World → Prop) (w : World) (h : expr_cursor_now_vc c R w) : Calls Tryz.prog 126 #[.pointer (some c)] w fun e w' => ∃ v, e = .returned v ∧ R v w' :=
 fn_by (an := .s .o (.s .o .o)) (args := [.ad c]) Tryz.checked.mixed (by kernel_rfl) (by kernel_rfl) h
def expr_cursor_is_vc (c : Addr) (signs : Sl) (R : Value → World → Prop) (w : World) : Prop :=
 Calls Tryz.prog 126 #[.pointer (some c)] w fun e0 w0 => ∃ i0 : Int, ∃ s0 : ByteArray, ∃ i1 i2 : Int, e0 = (.returned (.agg #[.int .i64 i0, .string s0, .int .i64 i1, .int .i64 i2])) ∧
 ∀ k0 : Nat, ∀ w1 : World, w0.heap.size ≤ k0 → k0 < w1.heap.size → Only [] w0 w1 → ∃ J0 : Bool → World → Prop, (∀ b0 : Bool, ∀ w2 : World, J0 b0 w2 → R (.bool b0) w2) ∧
 Calls Tryz.prog 93 #[.pointer (some c)] w1 fun e1 w3 => ∃ b1 : Bool, e1 = (.returned (.bool b1)) ∧
 Same [k0] w1 w3 ∧
 (((!b1) && (i0 == 4)) = true → Calls Tryz.prog 49 #[signs.v, .string s0] w3 fun e2 w4 => ∃ b2 : Bool, e2 = (.returned (.bool b2)) ∧
 Same [k0] w3 w4 ∧
 J0 b2 w4) ∧
 (((!b1) && (i0 == 4)) = false → J0 false w3)
theorem expr_cursor_is_wp (c : Addr) (signs : Sl) (R : Value → World → Prop) (w : World) (h : expr_cursor_is_vc c signs R w) : Calls Tryz.prog 127 #[.pointer (some c), signs.v] w fun e w' => ∃ v, e = .returned v ∧ R v w' :=
 fn_by (an := .s .o (.s .o (.s (.j [5] [.s 4 .bool] .o .o) .o))) (args := [.ad c, .sl signs]) Tryz.checked.mixed (by kernel_rfl) (by kernel_rfl) h
def expr_reader_within_vc (r : Addr) (read : OV) (R : Value → World → Prop) (w : World) : Prop :=
 ∀ k0 : Nat, ∀ w0 : World, w.heap.size ≤ k0 → k0 < w0.heap.size → Only [] w w0 → ∃ i0 : Int, Cells w0 (r.add 4) [.int .i64 i0] ∧
 ((i0 == 20) = true → Calls Tryz.prog 140 #[.pointer (some (r.add 0)), .int .i64 21] w0 fun e0 w1 => e0 = (.returned (.tuple #[])) ∧
 Same [k0] w0 w1 ∧
 ∀ w2 : World, Only [k0] w1 w2 → R (.agg #[.int .i64 0, .int .i64 0, .string (ByteArray.mk #[]), .int .i64 0, Sl.nil.v, .int .i64 0]) w2) ∧
 ((i0 == 20) = false → ∃ i1 : Int, Cells w0 ((r.add 0).add 1) [.int .i64 i1] ∧
 ∃ k1 k2 : Nat, ∃ z0 : List Value, ∃ k3 : Nat, ((r.add 0).add 1) = ⟨k1, k2, none⟩ ∧
 Blk w0 k1 k3 z0 ∧
 (k2 + 1) ≤ z0.length ∧
 k0 ≠ k1 ∧
 ∀ w3 : World, Only [k1] w0 w3 → Blk w3 k1 k3 (splice z0 k2 [.int .i64 (IntKind.wrap .i64 (i1 + 1))]) → ∃ i2 : Int, Cells w3 (r.add 4) [.int .i64 i2] ∧
 ∃ k4 k5 : Nat, ∃ z1 : List Value, ∃ k6 : Nat, (r.add 4) = ⟨k4, k5, none⟩ ∧
 Blk w3 k4 k6 z1 ∧
 (k5 + 1) ≤ z1.length ∧
 k0 ≠ k4 ∧
 ∀ w4 : World, Only [k4] w3 w4 → Blk w4 k4 k6 (splice z1 k5 [.int .i64 (IntKind.wrap .i64 (i2 + 1))]) → ∃ k7 : Nat, ∃ z2 : List Value, ∃ z3 : List Value, read.v = (.func (.func k7) z2.toArray z3.toArray) ∧
 (∀ x0 : Array Value, ∀ w5 : World, ((callFunc k7 x0).run Tryz.prog w5) = (.ok (.enter k7 x0) w5)) ∧
 Calls Tryz.prog k7 ((cat (cat z2 []) z3).toArray) w4 fun e1 w6 => ∃ i3 i4 : Int, ∃ s0 : ByteArray, ∃ i5 : Int, ∃ l0 : Sl, ∃ i6 : Int, e1 = (.returned (.agg #[.int .i64 i3, .int .i64 i4, .string s0, .int .i64 i5, l0.v, .int .i64 i6])) ∧
 Same [k0] w4 w6 ∧
 ∀ k8 : Nat, ∀ w7 : World, w6.heap.size ≤ k8 → k8 < w7.heap.size → Only [] w6 w7 → ∃ i7 : Int, Cells w7 (r.add 4) [.int .i64 i7] ∧
 ∃ k9 k10 : Nat, ∃ z4 : List Value, ∃ k11 : Nat, (r.add 4) = ⟨k9, k10, none⟩ ∧
 Blk w7 k9 k11 z4 ∧
 (k10 + 1) ≤ z4.length ∧
 k0 ≠ k9 ∧
 k8 ≠ k9 ∧
 ∀ w8 : World, Only [k9] w7 w8 → Blk w8 k9 k11 (splice z4 k10 [.int .i64 (IntKind.wrap .i64 (i7 - 1))]) → ∀ w9 : World, Only [k0] w8 w9 → R (.agg #[.int .i64 i3, .int .i64 i4, .string s0, .int .i64 i5, l0.v, .int .i64 i6]) w9)
theorem expr_reader_within_wp (r : Addr) (read : OV) (R : Value → World → Prop) (w : World) (h : expr_reader_within_vc r read R w) : Calls Tryz.prog 128 #[.pointer (some r), read.v] w fun e w' => ∃ v, e = .returned v ∧ R v w' :=
 fn_by (an := .s .o (.s (.s .o (.s (.s .o (.s .o .o)) .o)) (.s .o (.s .o (.s .o (.s .o (.s .o .o))))))) (args := [.ad r, .raw read]) Tryz.checked.mixed (by kernel_rfl) (by kernel_rfl) h
def expr_reader_one_1_vc (ccap0 : Addr) (R : Value → World → Prop) (w : World) : Prop :=
 ∀ k0 : Nat, ∀ w0 : World, w.heap.size ≤ k0 → k0 < w0.heap.size → Only [] w w0 → ∃ q0 : Option Addr, Cells w0 ccap0 [.pointer q0] ∧
 Calls Tryz.prog 92 #[.pointer q0, .int .i64 0] w0 fun e0 w1 => ∃ i0 i1 : Int, ∃ s0 : ByteArray, ∃ i2 : Int, ∃ l0 : Sl, ∃ i3 : Int, e0 = (.returned (.agg #[.int .i64 i0, .int .i64 i1, .string s0, .int .i64 i2, l0.v, .int .i64 i3])) ∧
 Same [k0] w0 w1 ∧
 ∀ k1 : Nat, ∀ w2 : World, w1.heap.size ≤ k1 → k1 < w2.heap.size → Only [] w1 w2 → ∃ q1 : Option Addr, Cells w2 ccap0 [.pointer q1] ∧
 ∃ p0 : Addr, q1 = (some p0) ∧
 Calls Tryz.prog 130 #[.pointer (some (p0.add 0)), .string (ByteArray.mk #[41])] w2 fun e1 w3 => e1 = (.returned (.tuple #[])) ∧
 Same [k0, k1] w2 w3 ∧
 ∀ w4 : World, Only [k0] w3 w4 → R (.agg #[.int .i64 i0, .int .i64 i1, .string s0, .int .i64 i2, l0.v, .int .i64 i3]) w4
theorem expr_reader_one_1_wp (ccap0 : Addr) (R : Value → World → Prop) (w : World) (h : expr_reader_one_1_vc ccap0 R w) : Calls Tryz.prog 129 #[.pointer (some ccap0)] w fun e w' => ∃ v, e = .returned v ∧ R v w' :=
 fn_by (an := .s .o (.s .o (.s .o (.s .o .o)))) (args := [.ad ccap0]) Tryz.checked.mixed (by kernel_rfl) (by kernel_rfl) h
def expr_cursor_must_vc (c : Addr) (sign : ByteArray) (R : Value → World → Prop) (w : World) : Prop :=
 ∃ l0 : Sl, ∃ w0 : World, ((Instr.buildSlice 25 1 #[.mk 0 (.string sign)]).run Tryz.prog w) = (.ok l0.v w0) ∧
 Calls Tryz.prog 127 #[.pointer (some c), l0.v] w0 fun e0 w1 => ∃ b0 : Bool, e0 = (.returned (.bool b0)) ∧
 ((!b0) = true → Calls Tryz.prog 132 #[.pointer (some c)] w1 fun e1 w2 => e1 = (.returned (.tuple #[])) ∧
 R (.tuple #[]) w2) ∧
 ((!b0) = false → ∃ i0 : Int, Cells w1 (c.add 1) [.int .i64 i0] ∧
 ∃ k0 k1 : Nat, ∃ z0 : List Value, ∃ k2 : Nat, (c.add 1) = ⟨k0, k1, none⟩ ∧
 Blk w1 k0 k2 z0 ∧
 (k1 + 1) ≤ z0.length ∧
 ∀ w3 : World, Only [k0] w1 w3 → Blk w3 k0 k2 (splice z0 k1 [.int .i64 (IntKind.wrap .i64 (i0 + 1))]) → R (.tuple #[]) w3)
theorem expr_cursor_must_wp (c : Addr) (sign : ByteArray) (R : Value → World → Prop) (w : World) (h : expr_cursor_must_vc c sign R w) : Calls Tryz.prog 130 #[.pointer (some c), .string sign] w fun e w' => ∃ v, e = .returned v ∧ R v w' :=
 fn_by (an := .s (.s .o (.s (.s .o .o) .o)) .o) (args := [.ad c, .str sign]) Tryz.checked.mixed (by kernel_rfl) (by kernel_rfl) h
def expr_reader_name_vc (r : Addr) (R : Value → World → Prop) (w : World) : Prop :=
 Calls Tryz.prog 126 #[.pointer (some (r.add 0))] w fun e0 w0 => ∃ i0 : Int, ∃ s0 : ByteArray, ∃ i1 i2 : Int, e0 = (.returned (.agg #[.int .i64 i0, .string s0, .int .i64 i1, .int .i64 i2])) ∧
 ∀ k0 : Nat, ∀ w1 : World, w0.heap.size ≤ k0 → k0 < w1.heap.size → Only [] w0 w1 → Calls Tryz.prog 93 #[.pointer (some (r.add 0))] w1 fun e1 w2 => ∃ b0 : Bool, e1 = (.returned (.bool b0)) ∧
 Same [k0] w1 w2 ∧
 ((b0 || (i0 != 1)) = true → Calls Tryz.prog 132 #[.pointer (some (r.add 0))] w2 fun e2 w3 => e2 = (.returned (.tuple #[])) ∧
 Same [k0] w2 w3 ∧
 R (.string (ByteArray.mk #[])) w3) ∧
 ((b0 || (i0 != 1)) = false → ∃ i3 : Int, Cells w2 ((r.add 0).add 1) [.int .i64 i3] ∧
 ∃ k1 k2 : Nat, ∃ z0 : List Value, ∃ k3 : Nat, ((r.add 0).add 1) = ⟨k1, k2, none⟩ ∧
 Blk w2 k1 k3 z0 ∧
 (k2 + 1) ≤ z0.length ∧
 k0 ≠ k1 ∧
 ∀ w4 : World, Only [k1] w2 w4 → Blk w4 k1 k3 (splice z0 k2 [.int .i64 (IntKind.wrap .i64 (i3 + 1))]) → R (.string s0) w4)
theorem expr_reader_name_wp (r : Addr) (R : Value → World → Prop) (w : World) (h : expr_reader_name_vc r R w) : Calls Tryz.prog 131 #[.pointer (some r)] w fun e w' => ∃ v, e = .returned v ∧ R v w' :=
 fn_by (an := .s .o (.s .o (.s (.s .o (.s (.s .o (.s .o .o)) .o)) (.s .o (.s .o .o))))) (args := [.ad r]) Tryz.checked.mixed (by kernel_rfl) (by kernel_rfl) h
def expr_cursor_wrong_vc (c : Addr) (R : Value → World → Prop) (w : World) : Prop :=
 ∃ J0 : World → Prop, (∀ w0 : World, J0 w0 → Calls Tryz.prog 140 #[.pointer (some c), .int .i64 4] w0 fun e0 w1 => e0 = (.returned (.tuple #[])) ∧
 R (.tuple #[]) w1) ∧
 Calls Tryz.prog 126 #[.pointer (some c)] w fun e1 w2 => ∃ i0 : Int, ∃ s0 : ByteArray, ∃ i1 i2 : Int, e1 = (.returned (.agg #[.int .i64 i0, .string s0, .int .i64 i1, .int .i64 i2])) ∧
 ((i0 == 5) = true → Calls Tryz.prog 140 #[.pointer (some c), .int .i64 3] w2 fun e2 w3 => e2 = (.returned (.tuple #[])) ∧
 J0 w3) ∧
 ((i0 == 5) = false → J0 w2)
theorem expr_cursor_wrong_wp (c : Addr) (R : Value → World → Prop) (w : World) (h : expr_cursor_wrong_vc c R w) : Calls Tryz.prog 132 #[.pointer (some c)] w fun e w' => ∃ v, e = .returned v ∧ R v w' :=
 fn_by (an := .j [0] [] (.s .o (.s .o .o)) .o) (args := [.ad c]) Tryz.checked.mixed (by kernel_rfl) (by kernel_rfl) h
def slices_Index_byte_vc (s : Sl) (v1 : Int) (R : Value → World → Prop) (w : World) : Prop :=
 ∃ J0 : Nat → Int → World → Prop, ∃ k0 : Nat, J0 k0 0 w ∧
 ∀ k1 : Nat, ∀ i0 : Int, ∀ w0 : World, J0 k1 i0 w0 → ((decide (i0 < (s.n : Int))) = true → ∃ p0 : Addr, SlAt s i0 1 p0 ∧
 ∃ i1 : Int, Cells w0 p0 [.int .u8 i1] ∧
 ((v1 == i1) = true → R (.int .i64 i0) w0) ∧
 ((v1 == i1) = false → ∃ k2 : Nat, k2 < k1 ∧
 J0 k2 (IntKind.wrap .i64 (i0 + 1)) w0)) ∧
 ((decide (i0 < (s.n : Int))) = false → R (.int .i64 (-1)) w0)
theorem slices_Index_byte_wp (s : Sl) (v1 : Int) (R : Value → World → Prop) (w : World) (h : slices_Index_byte_vc s v1 R w) : Calls Tryz.prog 134 #[s.v, .int .u8 v1] w fun e w' => ∃ v, e = .returned v ∧ R v w' :=
 fn_by (an := .s .o (.s (.s .o (.j [0, 1, 7] [.s 8 (.int .i64)] (.s .o (.s (.s .o .o) (.s (.s .o (.s .o (.s (.s .o .o) .o))) .o))) .o)) (.s .o .o))) (args := [.sl s, .int .u8 v1]) Tryz.checked.mixed (by kernel_rfl) (by kernel_rfl) h
def calc_digit_vc (c : Int) (R : Value → World → Prop) (w : World) : Prop :=
 R (.bool (decide ((IntKind.wrap .u8 (c - 48)) < 10))) w
theorem calc_digit_wp (c : Int) (R : Value → World → Prop) (w : World) (h : calc_digit_vc c R w) : Calls Tryz.prog 137 #[.int .u8 c] w fun e w' => ∃ v, e = .returned v ∧ R v w' :=
 fn_by (an := .s .o (.s .o .o)) (args := [.int .u8 c]) Tryz.checked.mixed (by kernel_rfl) (by kernel_rfl) h
def expr_cursor_stop_vc (c : Addr) (err : Int) (R : Value → World → Prop) (w : World) : Prop :=
 Calls Tryz.prog 93 #[.pointer (some c)] w fun e0 w0 => ∃ b0 : Bool, e0 = (.returned (.bool b0)) ∧
 ((!b0) = true → Calls Tryz.prog 126 #[.pointer (some c)] w0 fun e1 w1 => ∃ i0 : Int, ∃ s0 : ByteArray, ∃ i1 i2 : Int, e1 = (.returned (.agg #[.int .i64 i0, .string s0, .int .i64 i1, .int .i64 i2])) ∧
 ∃ k0 k1 : Nat, ∃ z0 : List Value, ∃ k2 : Nat, (c.add 2) = ⟨k0, k1, none⟩ ∧
 Blk w1 k0 k2 z0 ∧
 (k1 + 2) ≤ z0.length ∧
 ∀ w2 : World, Only [k0] w1 w2 → Blk w2 k0 k2 (splice z0 k1 [.int .i64 err, .int .i64 i2]) → R (.tuple #[]) w2) ∧
 ((!b0) = false → R (.tuple #[]) w0)
theorem expr_cursor_stop_wp (c : Addr) (err : Int) (R : Value → World → Prop) (w : World) (h : expr_cursor_stop_vc c err R w) : Calls Tryz.prog 140 #[.pointer (some c), .int .i64 err] w fun e w' => ∃ v, e = .returned v ∧ R v w' :=
 fn_by (an := .s .o (.s .o .o)) (args := [.ad c, .int .i64 err]) Tryz.checked.mixed (by kernel_rfl) (by kernel_rfl) h
def pavanelaw07_SyntaxReads_vc (s : ByteArray) (R : Value → World → Prop) (w : World) : Prop :=
 Calls Tryz.prog 16 #[] w fun e0 w0 => ∃ b0 : Bool, e0 = (.returned (.bool b0)) ∧
 Calls Tryz.prog 17 #[.string s] w0 fun e1 w1 => ∃ l0 : Sl, ∃ i0 : Int, ∃ s0 s1 s2 : ByteArray, ∃ l1 l2 l3 l4 : Sl, ∃ i1 i2 i3 : Int, e1 = (.returned (.tuple #[.agg #[l0.v, .int .i64 i0, .string s0, .string s1, .string s2, l1.v, l2.v, l3.v, l4.v, .int .i64 i1], .agg #[.int .i64 i2, .int .i64 i3]])) ∧
 ∀ k0 k1 : Nat, ∀ w2 : World, w1.heap.size ≤ k0 → k0 < w2.heap.size → w1.heap.size ≤ k1 → k1 < w2.heap.size → Only [] w1 w2 → Calls Tryz.prog 17 #[.string s] w2 fun e2 w3 => ∃ l5 : Sl, ∃ i4 : Int, ∃ s3 s4 s5 : ByteArray, ∃ l6 l7 l8 l9 : Sl, ∃ i5 i6 i7 : Int, e2 = (.returned (.tuple #[.agg #[l5.v, .int .i64 i4, .string s3, .string s4, .string s5, l6.v, l7.v, l8.v, l9.v, .int .i64 i5], .agg #[.int .i64 i6, .int .i64 i7]])) ∧
 Same [k0, k1] w2 w3 ∧
 ∀ k2 k3 : Nat, ∀ w4 : World, w3.heap.size ≤ k2 → k2 < w4.heap.size → w3.heap.size ≤ k3 → k3 < w4.heap.size → Only [] w3 w4 → Calls Tryz.prog 18 #[.string s] w4 fun e3 w5 => ∃ l10 : Sl, ∃ i8 : Int, ∃ s6 s7 s8 : ByteArray, ∃ l11 l12 l13 l14 : Sl, ∃ i9 i10 i11 : Int, e3 = (.returned (.tuple #[.agg #[l10.v, .int .i64 i8, .string s6, .string s7, .string s8, l11.v, l12.v, l13.v, l14.v, .int .i64 i9], .agg #[.int .i64 i10, .int .i64 i11]])) ∧
 Same [k0, k1, k2, k3] w4 w5 ∧
 ∀ k4 k5 : Nat, ∀ w6 : World, w5.heap.size ≤ k4 → k4 < w6.heap.size → w5.heap.size ≤ k5 → k5 < w6.heap.size → Only [] w5 w6 → Calls Tryz.prog 19 #[.agg #[l0.v, .int .i64 i0, .string s0, .string s1, .string s2, l1.v, l2.v, l3.v, l4.v, .int .i64 i1], .agg #[l10.v, .int .i64 i8, .string s6, .string s7, .string s8, l11.v, l12.v, l13.v, l14.v, .int .i64 i9], .bool true] w6 fun e4 w7 => ∃ b1 : Bool, e4 = (.returned (.bool b1)) ∧
 Same [k0, k1, k2, k3, k4, k5] w6 w7 ∧
 Calls Tryz.prog 20 #[.agg #[l0.v, .int .i64 i0, .string s0, .string s1, .string s2, l1.v, l2.v, l3.v, l4.v, .int .i64 i1]] w7 fun e5 w8 => ∃ i12 : Int, e5 = (.returned (.int .i64 i12)) ∧
 Same [k0, k1, k2, k3, k4, k5] w7 w8 ∧
 Calls Tryz.prog 19 #[.agg #[l5.v, .int .i64 i4, .string s3, .string s4, .string s5, l6.v, l7.v, l8.v, l9.v, .int .i64 i5], .agg #[l10.v, .int .i64 i8, .string s6, .string s7, .string s8, l11.v, l12.v, l13.v, l14.v, .int .i64 i9], .bool true] w8 fun e6 w9 => ∃ b2 : Bool, e6 = (.returned (.bool b2)) ∧
 Same [k0, k1, k2, k3, k4, k5] w8 w9 ∧
 R (.bool ((((b0 && ((i2 == i10) && (i3 == i11))) && b1) && b2) && (decide (i12 > 0)))) w9
theorem pavanelaw07_SyntaxReads_wp (s : ByteArray) (R : Value → World → Prop) (w : World) (h : pavanelaw07_SyntaxReads_vc s R w) : Calls Tryz.prog 4 #[.string s] w fun e w' => ∃ v, e = .returned v ∧ R v w' :=
 fn_by (an := .s .o (.s .o (.s .o (.s .o (.s .o (.s .o (.s .o (.s .o (.s .o .o))))))))) (args := [.str s]) Tryz.checked.mixed (by kernel_rfl) (by kernel_rfl) h
def pavanelaw07_small_vc (R : Value → World → Prop) (w : World) : Prop :=
 Calls Tryz.prog 17 #[.string (ByteArray.mk #[99, 104, 97, 114, 116, 32, 99, 32, 123, 32, 118, 97, 114, 32, 110, 32, 61, 32, 45, 50, 59, 32, 105, 110, 105, 116, 105, 97, 108, 32, 97, 59, 32, 115, 116, 97, 116, 101, 32, 97, 32, 123, 32, 111, 110, 32, 103, 111, 32, 91, 110, 32, 60, 32, 48, 93, 32, 123, 32, 115, 101, 116, 32, 110, 32, 61, 32, 110, 32, 43, 32, 49, 59, 32, 125, 32, 45, 62, 32, 98, 59, 32, 125, 32, 115, 116, 97, 116, 101, 32, 98, 32, 123, 32, 125, 32, 125])] w fun e0 w0 => ∃ l0 : Sl, ∃ i0 : Int, ∃ s0 s1 s2 : ByteArray, ∃ l1 l2 l3 l4 : Sl, ∃ i1 i2 i3 : Int, e0 = (.returned (.tuple #[.agg #[l0.v, .int .i64 i0, .string s0, .string s1, .string s2, l1.v, l2.v, l3.v, l4.v, .int .i64 i1], .agg #[.int .i64 i2, .int .i64 i3]])) ∧
 ∀ k0 k1 : Nat, ∀ w1 : World, w0.heap.size ≤ k0 → k0 < w1.heap.size → w0.heap.size ≤ k1 → k1 < w1.heap.size → Only [] w0 w1 → ∃ p0 : Addr, (((i2 == 0) && ((l0.n : Int) == 1)) = true → SlAt l0 0 3 p0) ∧
 ∃ i4 : Int, (((i2 == 0) && ((l0.n : Int) == 1)) = true → Cells w1 (p0.add 1) [.int .i64 i4]) ∧
 ∃ p1 : Addr, ((((((i2 == 0) && ((l0.n : Int) == 1)) && (i4 == (-2))) && (s1.toList == ((ByteArray.mk #[97]).toList))) && ((l4.n : Int) == 2)) = true → SlAt l4 0 9 p1) ∧
 ∃ l5 : Sl, ((((((i2 == 0) && ((l0.n : Int) == 1)) && (i4 == (-2))) && (s1.toList == ((ByteArray.mk #[97]).toList))) && ((l4.n : Int) == 2)) = true → Cells w1 (p1.add 6) [l5.v]) ∧
 ∃ p2 : Addr, (((((((i2 == 0) && ((l0.n : Int) == 1)) && (i4 == (-2))) && (s1.toList == ((ByteArray.mk #[97]).toList))) && ((l4.n : Int) == 2)) && ((l5.n : Int) == 1)) = true → SlAt l4 0 9 p2) ∧
 ∃ l6 : Sl, (((((((i2 == 0) && ((l0.n : Int) == 1)) && (i4 == (-2))) && (s1.toList == ((ByteArray.mk #[97]).toList))) && ((l4.n : Int) == 2)) && ((l5.n : Int) == 1)) = true → Cells w1 (p2.add 6) [l6.v]) ∧
 ∃ p3 : Addr, (((((((i2 == 0) && ((l0.n : Int) == 1)) && (i4 == (-2))) && (s1.toList == ((ByteArray.mk #[97]).toList))) && ((l4.n : Int) == 2)) && ((l5.n : Int) == 1)) = true → SlAt l6 0 13 p3) ∧
 ∃ b0 : Bool, (((((((i2 == 0) && ((l0.n : Int) == 1)) && (i4 == (-2))) && (s1.toList == ((ByteArray.mk #[97]).toList))) && ((l4.n : Int) == 2)) && ((l5.n : Int) == 1)) = true → Cells w1 (p3.add 3) [.bool b0]) ∧
 R (.bool (((((((i2 == 0) && ((l0.n : Int) == 1)) && (i4 == (-2))) && (s1.toList == ((ByteArray.mk #[97]).toList))) && ((l4.n : Int) == 2)) && ((l5.n : Int) == 1)) && b0)) w1
theorem pavanelaw07_small_wp (R : Value → World → Prop) (w : World) (h : pavanelaw07_small_vc R w) : Calls Tryz.prog 16 #[] w fun e w' => ∃ v, e = .returned v ∧ R v w' :=
 fn_by (an := .s .o (.s .o (.s .o .o))) (args := []) Tryz.checked.mixed (by kernel_rfl) (by kernel_rfl) h
def syntax_Parse_vc (s : ByteArray) (R : Value → World → Prop) (w : World) : Prop :=
 ∀ k0 k1 : Nat, ∀ w0 : World, w.heap.size ≤ k0 → k0 < w0.heap.size → w.heap.size ≤ k1 → k1 < w0.heap.size → Only [] w w0 → Calls Tryz.prog 28 #[.string s] w0 fun e0 w1 => ∃ l0 : Sl, ∃ i0 i1 : Int, e0 = (.returned (.tuple #[l0.v, .agg #[.int .i64 i0, .int .i64 i1]])) ∧
 Same [k0, k1] w0 w1 ∧
 ((i0 != 0) = true → ∀ k2 : Nat, ∀ w2 : World, w1.heap.size ≤ k2 → k2 < w2.heap.size → Only [] w1 w2 → k0 ≠ k1 → k0 ≠ k2 → k1 ≠ k2 → ∃ J0 : Nat → Prop, J0 k2 ∧
 Out J0 k0 ∧
 Out J0 k1 ∧
 ∀ w3 : World, Only [k1, k0] w2 w3 → R (.tuple #[.agg #[Sl.nil.v, .int .i64 0, .string (ByteArray.mk #[]), .string (ByteArray.mk #[]), .string (ByteArray.mk #[]), Sl.nil.v, Sl.nil.v, Sl.nil.v, Sl.nil.v, .int .i64 0], .agg #[.int .i64 i0, .int .i64 i1]]) w3) ∧
 ((i0 != 0) = false → ∀ k3 k4 k5 : Nat, ∀ w4 : World, w1.heap.size ≤ k3 → k3 < w4.heap.size → w1.heap.size ≤ k4 → k4 < w4.heap.size → w1.heap.size ≤ k5 → k5 < w4.heap.size → Only [] w1 w4 → ∃ l1 : Sl, ∃ w5 : World, ((Instr.buildSlice 25 1 #[.mk 0 (.string (ByteArray.mk #[99, 104, 97, 114, 116]))]).run Tryz.prog w4) = (.ok l1.v w5) ∧
 Same [k0, k1, k3, k4, k5] w4 w5 ∧
 (Blk w5 k4 82 [l0.v, .int .i64 0, .int .i64 0, .int .i64 0, .int .i64 16, .int .i64 64, .int .i64 12, .int .i64 200, .int .i64 400] → k0 ≠ k4 → k1 ≠ k4 → k3 ≠ k4 → k5 ≠ k4 → Calls Tryz.prog 29 #[.pointer (some ⟨k4, 0, none⟩), l1.v] w5 fun e1 w6 => e1 = (.returned (.tuple #[])) ∧
 Same [k0, k1, k3, k5] w5 w6 ∧
 ∃ l2 : Sl, ∃ i2 i3 i4 i5 i6 i7 i8 i9 : Int, Blk w6 k4 82 [l2.v, .int .i64 i2, .int .i64 i3, .int .i64 i4, .int .i64 i5, .int .i64 i6, .int .i64 i7, .int .i64 i8, .int .i64 i9] ∧
 Calls Tryz.prog 30 #[.pointer (some ⟨k4, 0, none⟩), .int .i64 1] w6 fun e2 w7 => ∃ i10 : Int, ∃ s0 s1 s2 : ByteArray, ∃ l3 l4 l5 l6 : Sl, ∃ i11 : Int, e2 = (.returned (.agg #[.int .i64 i10, .string s0, .string s1, .string s2, l3.v, l4.v, l5.v, l6.v, .int .i64 i11])) ∧
 Same [k0, k1, k3, k5] w6 w7 ∧
 ∃ l7 : Sl, ∃ i12 i13 i14 i15 i16 i17 i18 i19 : Int, Blk w7 k4 82 [l7.v, .int .i64 i12, .int .i64 i13, .int .i64 i14, .int .i64 i15, .int .i64 i16, .int .i64 i17, .int .i64 i18, .int .i64 i19] ∧
 ∀ w8 : World, Only [k5] w7 w8 → Blk w8 k4 82 [l7.v, .int .i64 i12, .int .i64 i13, .int .i64 i14, .int .i64 i15, .int .i64 i16, .int .i64 i17, .int .i64 i18, .int .i64 i19] → ∃ l8 : Sl, ∃ w9 : World, ((Instr.buildSlice 25 1 #[.mk 0 (.string (ByteArray.mk #[123]))]).run Tryz.prog w8) = (.ok l8.v w9) ∧
 Same [k0, k1, k3, k4, k5] w8 w9 ∧
 Calls Tryz.prog 29 #[.pointer (some ⟨k4, 0, none⟩), l8.v] w9 fun e3 w10 => e3 = (.returned (.tuple #[])) ∧
 Same [k0, k1, k3, k5] w9 w10 ∧
 ∃ l9 : Sl, ∃ i20 i21 i22 i23 i24 i25 i26 i27 : Int, Blk w10 k4 82 [l9.v, .int .i64 i20, .int .i64 i21, .int .i64 i22, .int .i64 i23, .int .i64 i24, .int .i64 i25, .int .i64 i26, .int .i64 i27] ∧
 ∃ J1 : Nat → Sl → Int → ByteArray → ByteArray → ByteArray → Sl → Sl → Sl → Sl → Int → Sl → Int → Int → Int → Int → Int → Int → Int → Int → World → Prop, ∃ k6 : Nat, J1 k6 Sl.nil i10 s0 s1 s2 l3 l4 l5 l6 i11 l9 i20 i21 i22 i23 i24 i25 i26 i27 w10 ∧
 ∀ k7 : Nat, ∀ l10 : Sl, ∀ i28 : Int, ∀ s3 s4 s5 : ByteArray, ∀ l11 l12 l13 l14 : Sl, ∀ i29 : Int, ∀ l15 : Sl, ∀ i30 i31 i32 i33 i34 i35 i36 i37 : Int, ∀ w11 : World, J1 k7 l10 i28 s3 s4 s5 l11 l12 l13 l14 i29 l15 i30 i31 i32 i33 i34 i35 i36 i37 w11 → ∃ l16 : Sl, ∃ w12 : World, ((Instr.buildSlice 25 1 #[.mk 0 (.string (ByteArray.mk #[118, 97, 114]))]).run Tryz.prog w11) = (.ok l16.v w12) ∧
 Same [k0, k1, k3, k4, k5] w11 w12 ∧
 Calls Tryz.prog 31 #[.pointer (some ⟨k4, 0, none⟩), l16.v] w12 fun e4 w13 => ∃ i38 : Int, e4 = (.returned (.int .i64 i38)) ∧
 Same [k0, k1, k3, k5] w12 w13 ∧
 ∃ l17 : Sl, ∃ i39 i40 i41 i42 i43 i44 i45 i46 : Int, Blk w13 k4 82 [l17.v, .int .i64 i39, .int .i64 i40, .int .i64 i41, .int .i64 i42, .int .i64 i43, .int .i64 i44, .int .i64 i45, .int .i64 i46] ∧
 ((decide (i38 > 0)) = true → ∀ w14 : World, Only [] w13 w14 → Blk w14 k4 82 [l17.v, .int .i64 i39, .int .i64 i40, .int .i64 i41, .int .i64 i42, .int .i64 i43, .int .i64 i44, .int .i64 i45, .int .i64 i46] → ∃ J2 : Nat → Prop, J2 k5 ∧
 Calls Tryz.prog 32 #[.pointer (some ⟨k4, 0, none⟩)] w14 fun e5 w15 => ∃ s6 : ByteArray, ∃ i47 i48 : Int, e5 = (.returned (.agg #[.string s6, .int .i64 i47, .int .i64 i48])) ∧
 Same [k0, k1, k3, k5] w14 w15 ∧
 ∃ l18 : Sl, ∃ i49 i50 i51 i52 i53 i54 i55 i56 : Int, Blk w15 k4 82 [l18.v, .int .i64 i49, .int .i64 i50, .int .i64 i51, .int .i64 i52, .int .i64 i53, .int .i64 i54, .int .i64 i55, .int .i64 i56] ∧
 Keeps J2 w14 w15 ∧
 ∃ l19 : Sl, ∃ w16 : World, ((Instr.buildSlice 40 1 #[.mk 0 (.agg #[.string s6, .int .i64 i47, .int .i64 i48])]).run Tryz.prog w15) = (.ok l19.v w16) ∧
 Same [k0, k1, k3, k4, k5] w15 w16 ∧
 Keeps J2 w15 w16 ∧
 ∃ l20 : Sl, ∃ w17 : World, ((Builtin.append_ #[40, 40] 40 #[l10.v, l19.v]).run Tryz.prog w16) = (.ok l20.v w17) ∧
 Same [k0, k1, k3, k4, k5] w16 w17 ∧
 Keeps J2 w16 w17 ∧
 ∀ w18 : World, Only [k5] w17 w18 → Blk w18 k4 82 [l18.v, .int .i64 i49, .int .i64 i50, .int .i64 i51, .int .i64 i52, .int .i64 i53, .int .i64 i54, .int .i64 i55, .int .i64 i56] → ∃ k8 : Nat, k8 < k7 ∧
 J1 k8 l20 i28 s3 s4 s5 l11 l12 l13 l14 i29 l18 i49 i50 i51 i52 i53 i54 i55 i56 w18) ∧
 ((decide (i38 > 0)) = false → Blk w13 k5 47 [l10.v, .int .i64 i28, .string s3, .string s4, .string s5, l11.v, l12.v, l13.v, l14.v, .int .i64 i29] → k0 ≠ k5 → k1 ≠ k5 → k3 ≠ k5 → Calls Tryz.prog 33 #[.pointer (some ⟨k4, 0, none⟩), .pointer (some ⟨k5, 1, none⟩)] w13 fun e6 w19 => e6 = (.returned (.tuple #[])) ∧
 Same [k0, k1, k3] w13 w19 ∧
 ∃ l21 : Sl, ∃ i57 i58 i59 i60 i61 i62 i63 i64 : Int, Blk w19 k4 82 [l21.v, .int .i64 i57, .int .i64 i58, .int .i64 i59, .int .i64 i60, .int .i64 i61, .int .i64 i62, .int .i64 i63, .int .i64 i64] ∧
 ∃ l22 : Sl, ∃ i65 : Int, ∃ s7 s8 s9 : ByteArray, ∃ l23 l24 l25 l26 : Sl, ∃ i66 : Int, Blk w19 k5 47 [l22.v, .int .i64 i65, .string s7, .string s8, .string s9, l23.v, l24.v, l25.v, l26.v, .int .i64 i66] ∧
 ∃ J3 : Sl → Int → ByteArray → ByteArray → ByteArray → Sl → Sl → Sl → Sl → Int → Sl → Int → Int → Int → Int → Int → Int → Int → Int → World → Prop, (∀ l27 : Sl, ∀ i67 : Int, ∀ s10 s11 s12 : ByteArray, ∀ l28 l29 l30 l31 : Sl, ∀ i68 : Int, ∀ l32 : Sl, ∀ i69 i70 i71 i72 i73 i74 i75 i76 : Int, ∀ w20 : World, J3 l27 i67 s10 s11 s12 l28 l29 l30 l31 i68 l32 i69 i70 i71 i72 i73 i74 i75 i76 w20 → Calls Tryz.prog 34 #[.pointer (some ⟨k4, 0, none⟩)] w20 fun e7 w21 => ∃ b0 : Bool, e7 = (.returned (.bool b0)) ∧
 Same [k0, k1, k3] w20 w21 ∧
 ∃ l33 : Sl, ∃ i77 i78 i79 i80 i81 i82 i83 i84 : Int, Blk w21 k4 82 [l33.v, .int .i64 i77, .int .i64 i78, .int .i64 i79, .int .i64 i80, .int .i64 i81, .int .i64 i82, .int .i64 i83, .int .i64 i84] ∧
 ∃ l34 : Sl, ∃ i85 : Int, ∃ s13 s14 s15 : ByteArray, ∃ l35 l36 l37 l38 : Sl, ∃ i86 : Int, Blk w21 k5 47 [l34.v, .int .i64 i85, .string s13, .string s14, .string s15, l35.v, l36.v, l37.v, l38.v, .int .i64 i86] ∧
 ((!b0) = true → ∀ w22 : World, Only [] w21 w22 → Blk w22 k4 82 [l33.v, .int .i64 i77, .int .i64 i78, .int .i64 i79, .int .i64 i80, .int .i64 i81, .int .i64 i82, .int .i64 i83, .int .i64 i84] → Blk w22 k5 47 [l34.v, .int .i64 i85, .string s13, .string s14, .string s15, l35.v, l36.v, l37.v, l38.v, .int .i64 i86] → k0 ≠ k1 → k0 ≠ k3 → k0 ≠ k4 → k0 ≠ k5 → k1 ≠ k3 → k1 ≠ k4 → k1 ≠ k5 → k3 ≠ k4 → k3 ≠ k5 → k4 ≠ k5 → ∃ J4 : Nat → Prop, J4 k4 ∧
 Out J4 k0 ∧
 Out J4 k1 ∧
 ∀ w23 : World, Only [k1, k0] w22 w23 → Blk w23 k4 82 [l33.v, .int .i64 i77, .int .i64 i78, .int .i64 i79, .int .i64 i80, .int .i64 i81, .int .i64 i82, .int .i64 i83, .int .i64 i84] → Blk w23 k5 47 [l34.v, .int .i64 i85, .string s13, .string s14, .string s15, l35.v, l36.v, l37.v, l38.v, .int .i64 i86] → R (.tuple #[.agg #[Sl.nil.v, .int .i64 0, .string (ByteArray.mk #[]), .string (ByteArray.mk #[]), .string (ByteArray.mk #[]), Sl.nil.v, Sl.nil.v, Sl.nil.v, Sl.nil.v, .int .i64 0], .agg #[.int .i64 i78, .int .i64 i79]]) w23) ∧
 ((!b0) = false → ∀ w24 : World, Only [k1, k0] w21 w24 → Blk w24 k4 82 [l33.v, .int .i64 i77, .int .i64 i78, .int .i64 i79, .int .i64 i80, .int .i64 i81, .int .i64 i82, .int .i64 i83, .int .i64 i84] → Blk w24 k5 47 [l34.v, .int .i64 i85, .string s13, .string s14, .string s15, l35.v, l36.v, l37.v, l38.v, .int .i64 i86] → R (.tuple #[.agg #[l34.v, .int .i64 i85, .string s13, .string s14, .string s15, l35.v, l36.v, l37.v, l38.v, .int .i64 i86], .agg #[.int .i64 0, .int .i64 0]]) w24)) ∧
 ∃ J5 : Bool → Sl → Int → ByteArray → ByteArray → ByteArray → Sl → Sl → Sl → Sl → Int → Sl → Int → Int → Int → Int → Int → Int → Int → Int → World → Prop, (∀ b1 : Bool, ∀ l39 : Sl, ∀ i87 : Int, ∀ s16 s17 s18 : ByteArray, ∀ l40 l41 l42 l43 : Sl, ∀ i88 : Int, ∀ l44 : Sl, ∀ i89 i90 i91 i92 i93 i94 i95 i96 : Int, ∀ w25 : World, J5 b1 l39 i87 s16 s17 s18 l40 l41 l42 l43 i88 l44 i89 i90 i91 i92 i93 i94 i95 i96 w25 → (b1 = true → Calls Tryz.prog 35 #[.pointer (some ⟨k4, 0, none⟩)] w25 fun e8 w26 => e8 = (.returned (.tuple #[])) ∧
 Same [k0, k1, k3] w25 w26 ∧
 ∃ l45 : Sl, ∃ i97 i98 i99 i100 i101 i102 i103 i104 : Int, Blk w26 k4 82 [l45.v, .int .i64 i97, .int .i64 i98, .int .i64 i99, .int .i64 i100, .int .i64 i101, .int .i64 i102, .int .i64 i103, .int .i64 i104] ∧
 ∃ l46 : Sl, ∃ i105 : Int, ∃ s19 s20 s21 : ByteArray, ∃ l47 l48 l49 l50 : Sl, ∃ i106 : Int, Blk w26 k5 47 [l46.v, .int .i64 i105, .string s19, .string s20, .string s21, l47.v, l48.v, l49.v, l50.v, .int .i64 i106] ∧
 J3 l46 i105 s19 s20 s21 l47 l48 l49 l50 i106 l45 i97 i98 i99 i100 i101 i102 i103 i104 w26) ∧
 (b1 = false → J3 l39 i87 s16 s17 s18 l40 l41 l42 l43 i88 l44 i89 i90 i91 i92 i93 i94 i95 i96 w25)) ∧
 ∀ w27 : World, Only [] w19 w27 → Blk w27 k4 82 [l21.v, .int .i64 i57, .int .i64 i58, .int .i64 i59, .int .i64 i60, .int .i64 i61, .int .i64 i62, .int .i64 i63, .int .i64 i64] → Blk w27 k5 47 [l22.v, .int .i64 i65, .string s7, .string s8, .string s9, l23.v, l24.v, l25.v, l26.v, .int .i64 i66] → Calls Tryz.prog 34 #[.pointer (some ⟨k4, 0, none⟩)] w27 fun e9 w28 => ∃ b2 : Bool, e9 = (.returned (.bool b2)) ∧
 Same [k0, k1, k3] w27 w28 ∧
 ∃ l51 : Sl, ∃ i107 i108 i109 i110 i111 i112 i113 i114 : Int, Blk w28 k4 82 [l51.v, .int .i64 i107, .int .i64 i108, .int .i64 i109, .int .i64 i110, .int .i64 i111, .int .i64 i112, .int .i64 i113, .int .i64 i114] ∧
 ∃ l52 : Sl, ∃ i115 : Int, ∃ s22 s23 s24 : ByteArray, ∃ l53 l54 l55 l56 : Sl, ∃ i116 : Int, Blk w28 k5 47 [l52.v, .int .i64 i115, .string s22, .string s23, .string s24, l53.v, l54.v, l55.v, l56.v, .int .i64 i116] ∧
 (b2 = true → ∃ p0 : Addr, SlAt l51 i107 4 p0 ∧
 ∃ i117 : Int, Cells w28 (p0.add 0) [.int .i64 i117] ∧
 J5 (i117 != 5) l52 i115 s22 s23 s24 l53 l54 l55 l56 i116 l51 i107 i108 i109 i110 i111 i112 i113 i114 w28) ∧
 (b2 = false → J5 false l52 i115 s22 s23 s24 l53 l54 l55 l56 i116 l51 i107 i108 i109 i110 i111 i112 i113 i114 w28))))
theorem syntax_Parse_wp (s : ByteArray) (R : Value → World → Prop) (w : World) (h : syntax_Parse_vc s R w) : Calls Tryz.prog 17 #[.string s] w fun e w' => ∃ v, e = .returned v ∧ R v w' :=
 fn_by (an := .s .o (.s .o (.s (.s .o (.s (.s .o .o) .o)) (.s .o (.s .o (.s .o (.s .o (.s .o (.s (.j [2, 3, 5, 6, 7, 22] [.b 7 [.sl, .int .i64, .str, .str, .str, .sl, .sl, .sl, .sl, .int .i64], .b 22 [.sl, .int .i64, .int .i64, .int .i64, .int .i64, .int .i64, .int .i64, .int .i64, .int .i64]] (.s (.s .o (.s .o .o)) .o) .o) (.s .o (.j [2, 3, 5, 6, 7, 22] [.b 7 [.sl, .int .i64, .str, .str, .str, .sl, .sl, .sl, .sl, .int .i64], .b 22 [.sl, .int .i64, .int .i64, .int .i64, .int .i64, .int .i64, .int .i64, .int .i64, .int .i64]] (.s (.j [2, 3, 5, 6, 7, 22] [.s 71 .bool, .b 7 [.sl, .int .i64, .str, .str, .str, .sl, .sl, .sl, .sl, .int .i64], .b 22 [.sl, .int .i64, .int .i64, .int .i64, .int .i64, .int .i64, .int .i64, .int .i64, .int .i64]] .o .o) (.s .o .o)) (.s (.s .o (.s (.s .o .o) .o)) (.s .o .o))))))))))))) (args := [.str s]) Tryz.checked.mixed (by kernel_rfl) (by kernel_rfl) h
def pavaneref07_Parse_vc (s : ByteArray) (R : Value → World → Prop) (w : World) : Prop :=
 ∀ k0 k1 : Nat, ∀ w0 : World, w.heap.size ≤ k0 → k0 < w0.heap.size → w.heap.size ≤ k1 → k1 < w0.heap.size → Only [] w w0 → Calls Tryz.prog 21 #[.string s] w0 fun e0 w1 => ∃ l0 : Sl, ∃ i0 i1 : Int, e0 = (.returned (.tuple #[l0.v, .agg #[.int .i64 i0, .int .i64 i1]])) ∧
 Same [k0, k1] w0 w1 ∧
 ((i0 != 0) = true → ∀ k2 : Nat, ∀ w2 : World, w1.heap.size ≤ k2 → k2 < w2.heap.size → Only [] w1 w2 → k0 ≠ k1 → k0 ≠ k2 → k1 ≠ k2 → ∃ J0 : Nat → Prop, J0 k2 ∧
 Out J0 k0 ∧
 Out J0 k1 ∧
 ∀ w3 : World, Only [k1, k0] w2 w3 → R (.tuple #[.agg #[Sl.nil.v, .int .i64 0, .string (ByteArray.mk #[]), .string (ByteArray.mk #[]), .string (ByteArray.mk #[]), Sl.nil.v, Sl.nil.v, Sl.nil.v, Sl.nil.v, .int .i64 0], .agg #[.int .i64 i0, .int .i64 i1]]) w3) ∧
 ((i0 != 0) = false → ∀ k3 k4 : Nat, ∀ w4 : World, w1.heap.size ≤ k3 → k3 < w4.heap.size → w1.heap.size ≤ k4 → k4 < w4.heap.size → Only [] w1 w4 → Blk w4 k4 91 [l0.v, .int .i64 0, .int .i64 0, .int .i64 0, .int .i64 0, .int .i64 0, .int .i64 0, .int .i64 0] → k3 ≠ k4 → Calls Tryz.prog 36 #[.pointer (some ⟨k4, 0, none⟩), .int .i64 2, .string (ByteArray.mk #[99, 104, 97, 114, 116])] w4 fun e1 w5 => e1 = (.returned (.tuple #[])) ∧
 Same [k0, k1, k3] w4 w5 ∧
 ∃ l1 : Sl, ∃ i2 i3 i4 i5 i6 i7 i8 : Int, Blk w5 k4 91 [l1.v, .int .i64 i2, .int .i64 i3, .int .i64 i4, .int .i64 i5, .int .i64 i6, .int .i64 i7, .int .i64 i8] ∧
 ∀ k5 : Nat, ∀ w6 : World, w5.heap.size ≤ k5 → k5 < w6.heap.size → Only [] w5 w6 → Blk w6 k4 91 [l1.v, .int .i64 i2, .int .i64 i3, .int .i64 i4, .int .i64 i5, .int .i64 i6, .int .i64 i7, .int .i64 i8] → Calls Tryz.prog 37 #[.pointer (some ⟨k4, 0, none⟩), .agg #[.int .i64 1, .string (ByteArray.mk #[]), .string (ByteArray.mk #[]), .string (ByteArray.mk #[]), Sl.nil.v, Sl.nil.v, Sl.nil.v, Sl.nil.v, .int .i64 0]] w6 fun e2 w7 => ∃ i9 : Int, ∃ s0 s1 s2 : ByteArray, ∃ l2 l3 l4 l5 : Sl, ∃ i10 : Int, e2 = (.returned (.agg #[.int .i64 i9, .string s0, .string s1, .string s2, l2.v, l3.v, l4.v, l5.v, .int .i64 i10])) ∧
 Same [k0, k1, k3, k5] w6 w7 ∧
 ∃ l6 : Sl, ∃ i11 i12 i13 i14 i15 i16 i17 : Int, Blk w7 k4 91 [l6.v, .int .i64 i11, .int .i64 i12, .int .i64 i13, .int .i64 i14, .int .i64 i15, .int .i64 i16, .int .i64 i17] ∧
 ∀ k6 : Nat, ∀ w8 : World, w7.heap.size ≤ k6 → k6 < w8.heap.size → Only [] w7 w8 → Blk w8 k4 91 [l6.v, .int .i64 i11, .int .i64 i12, .int .i64 i13, .int .i64 i14, .int .i64 i15, .int .i64 i16, .int .i64 i17] → Calls Tryz.prog 36 #[.pointer (some ⟨k4, 0, none⟩), .int .i64 4, .string (ByteArray.mk #[123])] w8 fun e3 w9 => e3 = (.returned (.tuple #[])) ∧
 Same [k0, k1, k3, k5, k6] w8 w9 ∧
 ∃ l7 : Sl, ∃ i18 i19 i20 i21 i22 i23 i24 : Int, Blk w9 k4 91 [l7.v, .int .i64 i18, .int .i64 i19, .int .i64 i20, .int .i64 i21, .int .i64 i22, .int .i64 i23, .int .i64 i24] ∧
 Calls Tryz.prog 38 #[.pointer (some ⟨k4, 0, none⟩)] w9 fun e4 w10 => ∃ l8 : Sl, e4 = (.returned l8.v) ∧
 Same [k0, k1, k3, k5, k6] w9 w10 ∧
 ∃ l9 : Sl, ∃ i25 i26 i27 i28 i29 i30 i31 : Int, Blk w10 k4 91 [l9.v, .int .i64 i25, .int .i64 i26, .int .i64 i27, .int .i64 i28, .int .i64 i29, .int .i64 i30, .int .i64 i31] ∧
 ∀ w11 : World, Only [k4, k5] w10 w11 → Blk w11 k4 91 [l9.v, .int .i64 i25, .int .i64 i26, .int .i64 i27, .int .i64 i28, .int .i64 (IntKind.wrap .i64 (i29 + 1)), .int .i64 i30, .int .i64 i31] → k0 ≠ k4 → k1 ≠ k4 → k3 ≠ k4 → k5 ≠ k4 → k6 ≠ k4 → Calls Tryz.prog 39 #[.pointer (some ⟨k4, 0, none⟩), .agg #[.int .i64 i9, .string s0, .string s1, .string s2, l2.v, l3.v, l4.v, l5.v, .int .i64 i10]] w11 fun e5 w12 => ∃ i32 : Int, ∃ s3 s4 s5 : ByteArray, ∃ l10 l11 l12 l13 : Sl, ∃ i33 : Int, e5 = (.returned (.agg #[.int .i64 i32, .string s3, .string s4, .string s5, l10.v, l11.v, l12.v, l13.v, .int .i64 i33])) ∧
 Same [k0, k1, k3, k5, k6] w11 w12 ∧
 ∃ l14 : Sl, ∃ i34 i35 i36 i37 i38 i39 i40 : Int, Blk w12 k4 91 [l14.v, .int .i64 i34, .int .i64 i35, .int .i64 i36, .int .i64 i37, .int .i64 i38, .int .i64 i39, .int .i64 i40] ∧
 ∀ w13 : World, Only [k5] w12 w13 → Blk w13 k4 91 [l14.v, .int .i64 i34, .int .i64 i35, .int .i64 i36, .int .i64 i37, .int .i64 i38, .int .i64 i39, .int .i64 i40] → Calls Tryz.prog 36 #[.pointer (some ⟨k4, 0, none⟩), .int .i64 4, .string (ByteArray.mk #[125])] w13 fun e6 w14 => e6 = (.returned (.tuple #[])) ∧
 Same [k0, k1, k3, k5, k6] w13 w14 ∧
 ∃ l15 : Sl, ∃ i41 i42 i43 i44 i45 i46 i47 : Int, Blk w14 k4 91 [l15.v, .int .i64 i41, .int .i64 i42, .int .i64 i43, .int .i64 i44, .int .i64 i45, .int .i64 i46, .int .i64 i47] ∧
 ∃ J1 : Sl → Int → Int → Int → Int → Int → Int → Int → World → Prop, (∀ l16 : Sl, ∀ i48 i49 i50 i51 i52 i53 i54 : Int, ∀ w15 : World, J1 l16 i48 i49 i50 i51 i52 i53 i54 w15 → ((i53 != 0) = true → ∀ w16 : World, Only [] w15 w16 → Blk w16 k4 91 [l16.v, .int .i64 i48, .int .i64 i49, .int .i64 i50, .int .i64 i51, .int .i64 i52, .int .i64 i53, .int .i64 i54] → k0 ≠ k1 → k0 ≠ k3 → k0 ≠ k4 → k0 ≠ k5 → k0 ≠ k6 → k1 ≠ k3 → k1 ≠ k4 → k1 ≠ k5 → k1 ≠ k6 → k3 ≠ k4 → k3 ≠ k5 → k3 ≠ k6 → k4 ≠ k5 → k4 ≠ k6 → k5 ≠ k6 → ∃ J2 : Nat → Prop, J2 k4 ∧
 Out J2 k0 ∧
 Out J2 k1 ∧
 ∀ w17 : World, Only [k1, k0] w16 w17 → Blk w17 k4 91 [l16.v, .int .i64 i48, .int .i64 i49, .int .i64 i50, .int .i64 i51, .int .i64 i52, .int .i64 i53, .int .i64 i54] → R (.tuple #[.agg #[Sl.nil.v, .int .i64 0, .string (ByteArray.mk #[]), .string (ByteArray.mk #[]), .string (ByteArray.mk #[]), Sl.nil.v, Sl.nil.v, Sl.nil.v, Sl.nil.v, .int .i64 0], .agg #[.int .i64 i53, .int .i64 i54]]) w17) ∧
 ((i53 != 0) = false → ∀ w18 : World, Only [k1, k0] w15 w18 → Blk w18 k4 91 [l16.v, .int .i64 i48, .int .i64 i49, .int .i64 i50, .int .i64 i51, .int .i64 i52, .int .i64 i53, .int .i64 i54] → R (.tuple #[.agg #[l8.v, .int .i64 i32, .string s3, .string s4, .string s5, l10.v, l11.v, l12.v, l13.v, .int .i64 i33], .agg #[.int .i64 0, .int .i64 0]]) w18)) ∧
 ∃ p0 : Addr, ((i46 == 0) = true → SlAt l15 i41 4 p0) ∧
 ∃ i55 : Int, ((i46 == 0) = true → Cells w14 (p0.add 0) [.int .i64 i55]) ∧
 (((i46 == 0) && (i55 != 5)) = true → ∀ w19 : World, Only [] w14 w19 → Blk w19 k4 91 [l15.v, .int .i64 i41, .int .i64 i42, .int .i64 i43, .int .i64 i44, .int .i64 i45, .int .i64 i46, .int .i64 i47] → Calls Tryz.prog 40 #[.pointer (some ⟨k4, 0, none⟩)] w19 fun e7 w20 => e7 = (.returned (.tuple #[])) ∧
 Same [k0, k1, k3, k5, k6] w19 w20 ∧
 ∃ l17 : Sl, ∃ i56 i57 i58 i59 i60 i61 i62 : Int, Blk w20 k4 91 [l17.v, .int .i64 i56, .int .i64 i57, .int .i64 i58, .int .i64 i59, .int .i64 i60, .int .i64 i61, .int .i64 i62] ∧
 J1 l17 i56 i57 i58 i59 i60 i61 i62 w20) ∧
 (((i46 == 0) && (i55 != 5)) = false → ∀ w21 : World, Only [] w14 w21 → Blk w21 k4 91 [l15.v, .int .i64 i41, .int .i64 i42, .int .i64 i43, .int .i64 i44, .int .i64 i45, .int .i64 i46, .int .i64 i47] → J1 l15 i41 i42 i43 i44 i45 i46 i47 w21))
theorem pavaneref07_Parse_wp (s : ByteArray) (R : Value → World → Prop) (w : World) (h : pavaneref07_Parse_vc s R w) : Calls Tryz.prog 18 #[.string s] w fun e w' => ∃ v, e = .returned v ∧ R v w' :=
 fn_by (an := .s .o (.s .o (.s (.s .o (.s (.s .o .o) .o)) (.s .o (.s .o (.s .o (.s .o (.s .o (.s .o (.s .o (.s .o (.s .o (.j [2, 3, 5, 6, 7, 8, 21] [.b 21 [.sl, .int .i64, .int .i64, .int .i64, .int .i64, .int .i64, .int .i64, .int .i64]] (.s .o (.s .o .o)) (.s (.s .o (.s (.s .o .o) .o)) (.s .o .o))))))))))))))) (args := [.str s]) Tryz.checked.mixed (by kernel_rfl) (by kernel_rfl) h
def pavaneref07_Same_vc (a_ : Sl) (a_1 : Int) (a_2 a_3 a_4 : ByteArray) (a_5 a_6 a_7 a_8 : Sl) (a_9 : Int) (bb : Sl) (bb1 : Int) (bb2 bb3 bb4 : ByteArray) (bb5 bb6 bb7 bb8 : Sl) (bb9 : Int) (at_ : Bool) (R : Value → World → Prop) (w : World) : Prop :=
 (((a_.n : Int) != (bb.n : Int)) = true → ∀ k0 k1 : Nat, ∀ w0 : World, w.heap.size ≤ k0 → k0 < w0.heap.size → w.heap.size ≤ k1 → k1 < w0.heap.size → Only [] w w0 → R (.bool false) w0) ∧
 (((a_.n : Int) != (bb.n : Int)) = false → ∀ k2 k3 : Nat, ∀ w1 : World, w.heap.size ≤ k2 → k2 < w1.heap.size → w.heap.size ≤ k3 → k3 < w1.heap.size → Only [] w w1 → ∃ J0 : Nat → Int → World → Prop, ∃ k4 : Nat, J0 k4 0 w1 ∧
 ∀ k5 : Nat, ∀ i0 : Int, ∀ w2 : World, J0 k5 i0 w2 → ((decide (i0 < (a_.n : Int))) = true → ∃ p0 : Addr, SlAt a_ i0 3 p0 ∧
 ∃ s0 : ByteArray, Cells w2 (p0.add 0) [.string s0] ∧
 ∃ p1 : Addr, SlAt bb i0 3 p1 ∧
 ∃ s1 : ByteArray, Cells w2 (p1.add 0) [.string s1] ∧
 ∃ p2 : Addr, ((!(s0.toList == s1.toList)) = false → SlAt a_ i0 3 p2) ∧
 ∃ i1 : Int, ((!(s0.toList == s1.toList)) = false → Cells w2 (p2.add 1) [.int .i64 i1]) ∧
 ∃ p3 : Addr, ((!(s0.toList == s1.toList)) = false → SlAt bb i0 3 p3) ∧
 ∃ i2 : Int, ((!(s0.toList == s1.toList)) = false → Cells w2 (p3.add 1) [.int .i64 i2]) ∧
 ∃ p4 : Addr, (((!(s0.toList == s1.toList)) || (i1 != i2)) = false → at_ = true → SlAt a_ i0 3 p4) ∧
 ∃ i3 : Int, (((!(s0.toList == s1.toList)) || (i1 != i2)) = false → at_ = true → Cells w2 (p4.add 2) [.int .i64 i3]) ∧
 ∃ p5 : Addr, (((!(s0.toList == s1.toList)) || (i1 != i2)) = false → at_ = true → SlAt bb i0 3 p5) ∧
 ∃ i4 : Int, (((!(s0.toList == s1.toList)) || (i1 != i2)) = false → at_ = true → Cells w2 (p5.add 2) [.int .i64 i4]) ∧
 ((((!(s0.toList == s1.toList)) || (i1 != i2)) || (at_ && (i3 != i4))) = true → ∀ w3 : World, Only [] w2 w3 → R (.bool false) w3) ∧
 ((((!(s0.toList == s1.toList)) || (i1 != i2)) || (at_ && (i3 != i4))) = false → ∀ w4 : World, Only [] w2 w4 → ∃ k6 : Nat, k6 < k5 ∧
 J0 k6 (IntKind.wrap .i64 (i0 + 1)) w4)) ∧
 ((decide (i0 < (a_.n : Int))) = false → Calls Tryz.prog 41 #[.agg #[.int .i64 a_1, .string a_2, .string a_3, .string a_4, a_5.v, a_6.v, a_7.v, a_8.v, .int .i64 a_9], .agg #[.int .i64 bb1, .string bb2, .string bb3, .string bb4, bb5.v, bb6.v, bb7.v, bb8.v, .int .i64 bb9], .bool at_] w2 fun e0 w5 => ∃ b0 : Bool, e0 = (.returned (.bool b0)) ∧
 Same [k2, k3] w2 w5 ∧
 R (.bool b0) w5))
theorem pavaneref07_Same_wp (a_ : Sl) (a_1 : Int) (a_2 a_3 a_4 : ByteArray) (a_5 a_6 a_7 a_8 : Sl) (a_9 : Int) (bb : Sl) (bb1 : Int) (bb2 bb3 bb4 : ByteArray) (bb5 bb6 bb7 bb8 : Sl) (bb9 : Int) (at_ : Bool) (R : Value → World → Prop) (w : World) (h : pavaneref07_Same_vc a_ a_1 a_2 a_3 a_4 a_5 a_6 a_7 a_8 a_9 bb bb1 bb2 bb3 bb4 bb5 bb6 bb7 bb8 bb9 at_ R w) : Calls Tryz.prog 19 #[.agg #[a_.v, .int .i64 a_1, .string a_2, .string a_3, .string a_4, a_5.v, a_6.v, a_7.v, a_8.v, .int .i64 a_9], .agg #[bb.v, .int .i64 bb1, .string bb2, .string bb3, .string bb4, bb5.v, bb6.v, bb7.v, bb8.v, .int .i64 bb9], .bool at_] w fun e w' => ∃ v, e = .returned v ∧ R v w' :=
 fn_by (an := .s .o (.s (.s .o (.s (.s .o .o) .o)) (.s (.s .o (.j [2, 3, 4] [.s 7 (.int .i64)] (.s (.s .o (.s .o .o)) (.s (.s .o (.s (.s .o .o) .o)) .o)) .o)) (.s .o .o)))) (args := [.agg (ofL [.sl a_, .int .i64 a_1, .str a_2, .str a_3, .str a_4, .sl a_5, .sl a_6, .sl a_7, .sl a_8, .int .i64 a_9]), .agg (ofL [.sl bb, .int .i64 bb1, .str bb2, .str bb3, .str bb4, .sl bb5, .sl bb6, .sl bb7, .sl bb8, .int .i64 bb9]), .bt at_]) Tryz.checked.mixed (by kernel_rfl) (by kernel_rfl) h
def pavanelaw07_SpoilChart_vc (c : Sl) (c1 : Int) (c2 c3 c4 : ByteArray) (c5 c6 c7 c8 : Sl) (c9 : Int) (R : Value → World → Prop) (w : World) : Prop :=
 ∀ k0 : Nat, ∀ w0 : World, w.heap.size ≤ k0 → k0 < w0.heap.size → Only [] w w0 → ∃ J0 : Nat → Int → World → Prop, ∃ k1 : Nat, J0 k1 0 w0 ∧
 ∀ k2 : Nat, ∀ i0 : Int, ∀ w1 : World, J0 k2 i0 w1 → ((decide (i0 < (c.n : Int))) = true → ∃ p0 : Addr, SlAt c i0 3 p0 ∧
 ∃ k3 k4 : Nat, ∃ z0 : List Value, ∃ k5 : Nat, p0 = ⟨k3, k4, none⟩ ∧
 Blk w1 k3 k5 z0 ∧
 (k4 + 3) ≤ z0.length ∧
 k0 ≠ k3 ∧
 ∀ w2 : World, Only [k3] w1 w2 → Blk w2 k3 k5 (splice z0 k4 [.string (ByteArray.mk #[115, 112, 111, 105, 108, 116]), .int .i64 0, .int .i64 0]) → ∃ k6 : Nat, k6 < k2 ∧
 J0 k6 (IntKind.wrap .i64 (i0 + 1)) w2) ∧
 ((decide (i0 < (c.n : Int))) = false → ∃ l0 : Sl, ∃ w3 : World, ((Instr.buildSlice 43 1 #[.mk 0 (.agg #[.int .i64 c1, .string c2, .string c3, .string c4, c5.v, c6.v, c7.v, c8.v, .int .i64 c9])]).run Tryz.prog w1) = (.ok l0.v w3) ∧
 Same [k0] w1 w3 ∧
 Calls Tryz.prog 42 #[l0.v] w3 fun e0 w4 => ∃ i1 : Int, e0 = (.returned (.int .i64 i1)) ∧
 Same [k0] w3 w4 ∧
 R (.int .i64 i1) w4)
theorem pavanelaw07_SpoilChart_wp (c : Sl) (c1 : Int) (c2 c3 c4 : ByteArray) (c5 c6 c7 c8 : Sl) (c9 : Int) (R : Value → World → Prop) (w : World) (h : pavanelaw07_SpoilChart_vc c c1 c2 c3 c4 c5 c6 c7 c8 c9 R w) : Calls Tryz.prog 20 #[.agg #[c.v, .int .i64 c1, .string c2, .string c3, .string c4, c5.v, c6.v, c7.v, c8.v, .int .i64 c9]] w fun e w' => ∃ v, e = .returned v ∧ R v w' :=
 fn_by (an := .s .o (.s (.s .o (.j [1] [.s 3 (.int .i64)] (.s (.s .o (.s .o .o)) (.s .o .o)) .o)) (.s .o .o))) (args := [.agg (ofL [.sl c, .int .i64 c1, .str c2, .str c3, .str c4, .sl c5, .sl c6, .sl c7, .sl c8, .int .i64 c9])]) Tryz.checked.mixed (by kernel_rfl) (by kernel_rfl) h
def pavaneref04_Tokens_vc (s : ByteArray) (R : Value → World → Prop) (w : World) : Prop :=
 ((decide ((s.size : Int) > 16384)) = true → ∀ k0 : Nat, ∀ w0 : World, w.heap.size ≤ k0 → k0 < w0.heap.size → Only [] w w0 → R (.tuple #[Sl.nil.v, .agg #[.int .i64 2, .int .i64 (-1)]]) w0) ∧
 ((decide ((s.size : Int) > 16384)) = false → ∀ k1 : Nat, ∀ w1 : World, w.heap.size ≤ k1 → k1 < w1.heap.size → Only [] w w1 → Calls Tryz.prog 43 #[.string s, .int .i64 0] w1 fun e0 w2 => ∃ i0 : Int, e0 = (.returned (.int .i64 i0)) ∧
 Same [k1] w1 w2 ∧
 ∃ J0 : Nat → Sl → Int → Int → Int → World → Prop, ∃ k2 : Nat, J0 k2 Sl.nil i0 0 0 w2 ∧
 ∀ k3 : Nat, ∀ l0 : Sl, ∀ i1 i2 i3 : Int, ∀ w3 : World, J0 k3 l0 i1 i2 i3 w3 → ((decide (i1 < (s.size : Int))) = true → Calls Tryz.prog 44 #[.string s, .int .i64 i1] w3 fun e1 w4 => ∃ i4 : Int, ∃ s0 : ByteArray, ∃ i5 i6 i7 i8 : Int, e1 = (.returned (.tuple #[.agg #[.int .i64 i4, .string s0, .int .i64 i5, .int .i64 i6], .int .i64 i7, .int .i64 i8])) ∧
 Same [k1] w3 w4 ∧
 ((i8 != 0) = true → ∀ k4 : Nat, ∀ w5 : World, w4.heap.size ≤ k4 → k4 < w5.heap.size → Only [k1] w4 w5 → R (.tuple #[Sl.nil.v, .agg #[.int .i64 i8, .int .i64 i1]]) w5) ∧
 ((i8 != 0) = false → ∀ k5 : Nat, ∀ w6 : World, w4.heap.size ≤ k5 → k5 < w6.heap.size → Only [] w4 w6 → ∃ l1 : Sl, ∃ w7 : World, ((Instr.buildSlice 55 1 #[.mk 0 (.agg #[.int .i64 i4, .string s0, .int .i64 i5, .int .i64 i6])]).run Tryz.prog w6) = (.ok l1.v w7) ∧
 Same [k1, k5] w6 w7 ∧
 ∃ l2 : Sl, ∃ w8 : World, ((Builtin.append_ #[55, 55] 55 #[l0.v, l1.v]).run Tryz.prog w7) = (.ok l2.v w8) ∧
 Same [k1, k5] w7 w8 ∧
 Calls Tryz.prog 43 #[.string s, .int .i64 (IntKind.wrap .i64 (i1 + i7))] w8 fun e2 w9 => ∃ i9 : Int, e2 = (.returned (.int .i64 i9)) ∧
 Same [k1, k5] w8 w9 ∧
 ∃ k6 : Nat, k6 < k3 ∧
 J0 k6 l2 i9 i2 i3 w9)) ∧
 ((decide (i1 < (s.size : Int))) = false → ∃ l3 : Sl, ∃ w10 : World, ((Instr.buildSlice 55 1 #[.mk 0 (.agg #[.int .i64 5, .string (ByteArray.mk #[]), .int .i64 0, .int .i64 (s.size : Int)])]).run Tryz.prog w3) = (.ok l3.v w10) ∧
 Same [k1] w3 w10 ∧
 ∃ l4 : Sl, ∃ w11 : World, ((Builtin.append_ #[55, 55] 55 #[l0.v, l3.v]).run Tryz.prog w10) = (.ok l4.v w11) ∧
 Same [k1] w10 w11 ∧
 ∀ w12 : World, Only [k1] w11 w12 → R (.tuple #[l4.v, .agg #[.int .i64 0, .int .i64 0]]) w12))
theorem pavaneref04_Tokens_wp (s : ByteArray) (R : Value → World → Prop) (w : World) (h : pavaneref04_Tokens_vc s R w) : Calls Tryz.prog 21 #[.string s] w fun e w' => ∃ v, e = .returned v ∧ R v w' :=
 fn_by (an := .s .o (.s (.s .o (.s (.s .o .o) .o)) (.s .o (.s .o (.s (.j [0, 3] [.s 4 .sl, .s 5 (.int .i64), .b 3 [.int .i64, .int .i64]] (.s (.s .o (.s .o .o)) (.s .o (.s (.s .o (.s (.s .o .o) .o)) (.s .o .o)))) .o) (.s .o .o)))))) (args := [.str s]) Tryz.checked.mixed (by kernel_rfl) (by kernel_rfl) h
def syntax_cursor_must_vc (c : Addr) (texts : Sl) (R : Value → World → Prop) (w : World) : Prop :=
 ∃ J0 : Nat → Int → World → Prop, ∃ k0 : Nat, J0 k0 0 w ∧
 ∀ k1 : Nat, ∀ i0 : Int, ∀ w0 : World, J0 k1 i0 w0 → ((decide (i0 < (texts.n : Int))) = true → ∃ J1 : World → Prop, (∀ w1 : World, J1 w1 → ∃ k2 : Nat, k2 < k1 ∧
 J0 k2 (IntKind.wrap .i64 (i0 + 1)) w1) ∧
 ∃ p0 : Addr, SlAt texts i0 1 p0 ∧
 ∃ s0 : ByteArray, Cells w0 p0 [.string s0] ∧
 ∃ l0 : Sl, ∃ w2 : World, ((Instr.buildSlice 25 1 #[.mk 0 (.string s0)]).run Tryz.prog w0) = (.ok l0.v w2) ∧
 Calls Tryz.prog 31 #[.pointer (some c), l0.v] w2 fun e0 w3 => ∃ i1 : Int, e0 = (.returned (.int .i64 i1)) ∧
 ((i1 == 0) = true → Calls Tryz.prog 35 #[.pointer (some c)] w3 fun e1 w4 => e1 = (.returned (.tuple #[])) ∧
 J1 w4) ∧
 ((i1 == 0) = false → J1 w3)) ∧
 ((decide (i0 < (texts.n : Int))) = false → R (.tuple #[]) w0)
theorem syntax_cursor_must_wp (c : Addr) (texts : Sl) (R : Value → World → Prop) (w : World) (h : syntax_cursor_must_vc c texts R w) : Calls Tryz.prog 29 #[.pointer (some c), texts.v] w fun e w' => ∃ v, e = .returned v ∧ R v w' :=
 fn_by (an := .s .o (.j [0, 6, 7] [.s 8 (.int .i64)] (.s .o (.s (.s .o .o) (.j [0, 6, 7, 8] [] (.s .o (.s .o (.s .o .o))) .o))) .o)) (args := [.ad c, .sl texts]) Tryz.checked.mixed (by kernel_rfl) (by kernel_rfl) h
def syntax_reader_named_vc (r : Addr) (kind : Int) (R : Value → World → Prop) (w : World) : Prop :=
 ∀ k0 k1 : Nat, ∀ w0 : World, w.heap.size ≤ k0 → k0 < w0.heap.size → w.heap.size ≤ k1 → k1 < w0.heap.size → Only [] w w0 → ∃ J0 : World → Prop, (∀ w1 : World, J0 w1 → Calls Tryz.prog 63 #[.pointer (some (r.add 0)), .int .i64 1] w1 fun e0 w2 => ∃ i0 : Int, ∃ s0 : ByteArray, ∃ i1 i2 : Int, e0 = (.returned (.agg #[.int .i64 i0, .string s0, .int .i64 i1, .int .i64 i2])) ∧
 Same [k0, k1] w1 w2 ∧
 ∀ k2 : Nat, ∀ w3 : World, w2.heap.size ≤ k2 → k2 < w3.heap.size → Only [] w2 w3 → k0 ≠ k1 → k0 ≠ k2 → k1 ≠ k2 → ∃ J1 : Nat → Prop, J1 k2 ∧
 Out J1 k1 ∧
 Out J1 k1 ∧
 ∀ w4 : World, Only [k0, k1] w3 w4 → R (.agg #[.int .i64 kind, .string s0, .string (ByteArray.mk #[]), .string (ByteArray.mk #[]), Sl.nil.v, Sl.nil.v, Sl.nil.v, Sl.nil.v, .int .i64 i2]) w4) ∧
 ∃ l0 : Sl, Cells w0 ((r.add 0).add 0) [l0.v] ∧
 ∃ i3 : Int, Cells w0 ((r.add 0).add 1) [.int .i64 i3] ∧
 ∃ p0 : Addr, SlAt l0 i3 4 p0 ∧
 ∃ i4 : Int, Cells w0 (p0.add 0) [.int .i64 i4] ∧
 ((i4 == 1) = true → ∀ w5 : World, Only [] w0 w5 → Calls Tryz.prog 61 #[.pointer (some r), .pointer (some ((r.add 4).add 1)), .int .i64 2] w5 fun e1 w6 => e1 = (.returned (.tuple #[])) ∧
 Same [k0, k1] w5 w6 ∧
 ∃ i5 : Int, Cells w6 ((r.add 4).add 2) [.int .i64 i5] ∧
 ((i5 == 0) = true → Calls Tryz.prog 62 #[.pointer (some (r.add 0)), .int .i64 21] w6 fun e2 w7 => e2 = (.returned (.tuple #[])) ∧
 Same [k0, k1] w6 w7 ∧
 J0 w7) ∧
 ((i5 == 0) = false → J0 w6)) ∧
 ((i4 == 1) = false → ∀ w8 : World, Only [] w0 w8 → J0 w8)
theorem syntax_reader_named_wp (r : Addr) (kind : Int) (R : Value → World → Prop) (w : World) (h : syntax_reader_named_vc r kind R w) : Calls Tryz.prog 30 #[.pointer (some r), .int .i64 kind] w fun e w' => ∃ v, e = .returned v ∧ R v w' :=
 fn_by (an := .s .o (.s .o (.j [0, 4, 5] [] (.s .o (.s (.s .o (.s .o (.s .o .o))) .o)) (.s .o (.s .o (.s .o .o)))))) (args := [.ad r, .int .i64 kind]) Tryz.checked.mixed (by kernel_rfl) (by kernel_rfl) h
def syntax_cursor_take_vc (c : Addr) (texts : Sl) (R : Value → World → Prop) (w : World) : Prop :=
 Calls Tryz.prog 64 #[.pointer (some c), texts.v] w fun e0 w0 => ∃ i0 : Int, e0 = (.returned (.int .i64 i0)) ∧
 ∃ J0 : World → Prop, (∀ w1 : World, J0 w1 → R (.int .i64 i0) w1) ∧
 ((decide (i0 > 0)) = true → ∃ i1 : Int, Cells w0 (c.add 1) [.int .i64 i1] ∧
 ∃ k0 k1 : Nat, ∃ z0 : List Value, ∃ k2 : Nat, (c.add 1) = ⟨k0, k1, none⟩ ∧
 Blk w0 k0 k2 z0 ∧
 (k1 + 1) ≤ z0.length ∧
 ∀ w2 : World, Only [k0] w0 w2 → Blk w2 k0 k2 (splice z0 k1 [.int .i64 (IntKind.wrap .i64 (i1 + 1))]) → J0 w2) ∧
 ((decide (i0 > 0)) = false → J0 w0)
theorem syntax_cursor_take_wp (c : Addr) (texts : Sl) (R : Value → World → Prop) (w : World) (h : syntax_cursor_take_vc c texts R w) : Calls Tryz.prog 31 #[.pointer (some c), texts.v] w fun e w' => ∃ v, e = .returned v ∧ R v w' :=
 fn_by (an := .s .o (.s .o (.j [5] [] (.s .o (.s .o .o)) (.s .o .o)))) (args := [.ad c, .sl texts]) Tryz.checked.mixed (by kernel_rfl) (by kernel_rfl) h
def syntax_reader_variable_vc (r : Addr) (R : Value → World → Prop) (w : World) : Prop :=
 ∀ k0 : Nat, ∀ w0 : World, w.heap.size ≤ k0 → k0 < w0.heap.size → Only [] w w0 → ∃ J0 : World → Prop, (∀ w1 : World, J0 w1 → Calls Tryz.prog 63 #[.pointer (some (r.add 0)), .int .i64 1] w1 fun e0 w2 => ∃ i0 : Int, ∃ s0 : ByteArray, ∃ i1 i2 : Int, e0 = (.returned (.agg #[.int .i64 i0, .string s0, .int .i64 i1, .int .i64 i2])) ∧
 Same [k0] w1 w2 ∧
 ∀ k1 : Nat, ∀ w3 : World, w2.heap.size ≤ k1 → k1 < w3.heap.size → Only [] w2 w3 → ∃ l0 : Sl, ∃ w4 : World, ((Instr.buildSlice 25 1 #[.mk 0 (.string (ByteArray.mk #[61]))]).run Tryz.prog w3) = (.ok l0.v w4) ∧
 Same [k0, k1] w3 w4 ∧
 Calls Tryz.prog 29 #[.pointer (some (r.add 0)), l0.v] w4 fun e1 w5 => e1 = (.returned (.tuple #[])) ∧
 Same [k0, k1] w4 w5 ∧
 ∃ l1 : Sl, ∃ w6 : World, ((Instr.buildSlice 25 1 #[.mk 0 (.string (ByteArray.mk #[45]))]).run Tryz.prog w5) = (.ok l1.v w6) ∧
 Same [k0, k1] w5 w6 ∧
 Calls Tryz.prog 31 #[.pointer (some (r.add 0)), l1.v] w6 fun e2 w7 => ∃ i3 : Int, e2 = (.returned (.int .i64 i3)) ∧
 Same [k0, k1] w6 w7 ∧
 Calls Tryz.prog 63 #[.pointer (some (r.add 0)), .int .i64 3] w7 fun e3 w8 => ∃ i4 : Int, ∃ s1 : ByteArray, ∃ i5 i6 : Int, e3 = (.returned (.agg #[.int .i64 i4, .string s1, .int .i64 i5, .int .i64 i6])) ∧
 Same [k0, k1] w7 w8 ∧
 ∃ l2 : Sl, ∃ w9 : World, ((Instr.buildSlice 25 1 #[.mk 0 (.string (ByteArray.mk #[59]))]).run Tryz.prog w8) = (.ok l2.v w9) ∧
 Same [k0, k1] w8 w9 ∧
 Calls Tryz.prog 29 #[.pointer (some (r.add 0)), l2.v] w9 fun e4 w10 => e4 = (.returned (.tuple #[])) ∧
 Same [k0, k1] w9 w10 ∧
 ∀ w11 : World, Only [k0] w10 w11 → R (.agg #[.string s0, .int .i64 (IntKind.wrap .i64 ((IntKind.wrap .i64 (1 - (IntKind.wrap .i64 (2 * i3)))) * i5)), .int .i64 i2]) w11) ∧
 ∃ l3 : Sl, Cells w0 ((r.add 0).add 0) [l3.v] ∧
 ∃ i7 : Int, Cells w0 ((r.add 0).add 1) [.int .i64 i7] ∧
 ∃ p0 : Addr, SlAt l3 i7 4 p0 ∧
 ∃ i8 : Int, Cells w0 (p0.add 0) [.int .i64 i8] ∧
 ((i8 == 1) = true → ∀ w12 : World, Only [] w0 w12 → Calls Tryz.prog 61 #[.pointer (some r), .pointer (some ((r.add 4).add 0)), .int .i64 2] w12 fun e5 w13 => e5 = (.returned (.tuple #[])) ∧
 Same [k0] w12 w13 ∧
 J0 w13) ∧
 ((i8 == 1) = false → ∀ w14 : World, Only [] w0 w14 → J0 w14)
theorem syntax_reader_variable_wp (r : Addr) (R : Value → World → Prop) (w : World) (h : syntax_reader_variable_vc r R w) : Calls Tryz.prog 32 #[.pointer (some r)] w fun e w' => ∃ v, e = .returned v ∧ R v w' :=
 fn_by (an := .s .o (.j [0, 2] [] (.s .o (.s .o .o)) (.s .o (.s .o (.s .o (.s .o (.s .o (.s .o .o)))))))) (args := [.ad r]) Tryz.checked.mixed (by kernel_rfl) (by kernel_rfl) h
def syntax_reader_body_vc (r : Addr) (n_ : Option Addr) (R : Value → World → Prop) (w : World) : Prop :=
 ∀ k0 : Nat, ∀ w0 : World, w.heap.size ≤ k0 → k0 < w0.heap.size → Only [] w w0 → ∃ i0 : Int, Cells w0 ((r.add 4).add 2) [.int .i64 i0] ∧
 ∃ k1 k2 : Nat, ∃ z0 : List Value, ∃ k3 : Nat, ((r.add 4).add 2) = ⟨k1, k2, none⟩ ∧
 Blk w0 k1 k3 z0 ∧
 (k2 + 1) ≤ z0.length ∧
 k0 ≠ k1 ∧
 ∀ w1 : World, Only [k1] w0 w1 → Blk w1 k1 k3 (splice z0 k2 [.int .i64 (IntKind.wrap .i64 (i0 - 1))]) → ∃ J0 : Nat → Bool → Bool → Bool → Bool → World → Prop, ∃ k4 : Nat, J0 k4 false false false false w1 ∧
 ∀ k5 : Nat, ∀ b0 b1 b2 b3 : Bool, ∀ w2 : World, J0 k5 b0 b1 b2 b3 w2 → ∃ J1 : Bool → Bool → Bool → Bool → Bool → World → Prop, (∀ b4 b5 b6 b7 b8 : Bool, ∀ w3 : World, J1 b4 b5 b6 b7 b8 w3 → (b4 = true → ∃ k6 : Nat, k6 < k5 ∧
 J0 k6 b5 b6 b7 b8 w3) ∧
 (b4 = false → ∃ l0 : Sl, ∃ w4 : World, ((Instr.buildSlice 25 4 #[.mk 0 (.string (ByteArray.mk #[115, 116, 97, 116, 101])), .mk 1 (.string (ByteArray.mk #[112, 97, 114, 97, 108, 108, 101, 108])), .mk 2 (.string (ByteArray.mk #[104, 105, 115, 116, 111, 114, 121])), .mk 3 (.string (ByteArray.mk #[100, 101, 101, 112]))]).run Tryz.prog w3) = (.ok l0.v w4) ∧
 Same [k0] w3 w4 ∧
 Calls Tryz.prog 64 #[.pointer (some (r.add 0)), l0.v] w4 fun e0 w5 => ∃ i1 : Int, e0 = (.returned (.int .i64 i1)) ∧
 Same [k0] w4 w5 ∧
 ∃ J2 : Nat → Int → Bool → Bool → Bool → Bool → World → Prop, ∃ k7 : Nat, J2 k7 i1 b5 b6 b7 b8 w5 ∧
 ∀ k8 : Nat, ∀ i2 : Int, ∀ b9 b10 b11 b12 : Bool, ∀ w6 : World, J2 k8 i2 b9 b10 b11 b12 w6 → ((decide (i2 > 0)) = true → ∃ i3 : Int, Cells w6 ((r.add 0).add 1) [.int .i64 i3] ∧
 ∃ k9 k10 : Nat, ∃ z1 : List Value, ∃ k11 : Nat, ((r.add 0).add 1) = ⟨k9, k10, none⟩ ∧
 Blk w6 k9 k11 z1 ∧
 (k10 + 1) ≤ z1.length ∧
 k0 ≠ k9 ∧
 ∀ w7 : World, Only [k9] w6 w7 → Blk w7 k9 k11 (splice z1 k10 [.int .i64 (IntKind.wrap .i64 (i3 + 1))]) → ∃ J3 : Bool → Bool → Bool → Bool → World → Prop, (∀ b13 b14 b15 b16 : Bool, ∀ w8 : World, J3 b13 b14 b15 b16 w8 → ∃ l1 : Sl, ∃ w9 : World, ((Instr.buildSlice 25 4 #[.mk 0 (.string (ByteArray.mk #[115, 116, 97, 116, 101])), .mk 1 (.string (ByteArray.mk #[112, 97, 114, 97, 108, 108, 101, 108])), .mk 2 (.string (ByteArray.mk #[104, 105, 115, 116, 111, 114, 121])), .mk 3 (.string (ByteArray.mk #[100, 101, 101, 112]))]).run Tryz.prog w8) = (.ok l1.v w9) ∧
 Same [k0] w8 w9 ∧
 Calls Tryz.prog 64 #[.pointer (some (r.add 0)), l1.v] w9 fun e1 w10 => ∃ i4 : Int, e1 = (.returned (.int .i64 i4)) ∧
 Same [k0] w9 w10 ∧
 ∃ k12 : Nat, k12 < k8 ∧
 J2 k12 i4 b13 b14 b15 b16 w10) ∧
 ∀ w11 : World, Only [] w7 w11 → ∃ J4 : Nat → Prop, ∃ p0 : Addr, n_ = (some p0) ∧
 J4 ((p0.add 7).block) ∧
 ∃ l2 : Sl, Cells w11 (p0.add 7) [l2.v] ∧
 (Calls Tryz.prog 66 #[.pointer (some r), .int .i64 i2] w11 fun e2 w12 => ∃ i5 : Int, ∃ s0 s1 s2 : ByteArray, ∃ l3 l4 l5 l6 : Sl, ∃ i6 : Int, e2 = (.returned (.agg #[.int .i64 i5, .string s0, .string s1, .string s2, l3.v, l4.v, l5.v, l6.v, .int .i64 i6])) ∧
 Same [k0] w11 w12 ∧
 Keeps J4 w11 w12 ∧
 ∃ l7 : Sl, ∃ w13 : World, ((Instr.buildSlice 43 1 #[.mk 0 (.agg #[.int .i64 0, .string (ByteArray.mk #[]), .string (ByteArray.mk #[]), .string (ByteArray.mk #[]), Sl.nil.v, Sl.nil.v, Sl.nil.v, Sl.nil.v, .int .i64 0])]).run Tryz.prog w12) = (.ok l7.v w13) ∧
 Same [k0] w12 w13 ∧
 Keeps J4 w12 w13 ∧
 ∃ l8 : Sl, ∃ w14 : World, ((Builtin.append_ #[43, 43] 43 #[l2.v, l7.v]).run Tryz.prog w13) = (.ok l8.v w14) ∧
 Same [k0] w13 w14 ∧
 Keeps J4 w13 w14 ∧
 ∃ p1 : Addr, SlAt l8 (l2.n : Int) 9 p1 ∧
 ∃ p2 : Addr, n_ = (some p2) ∧
 (∃ k13 k14 : Nat, ∃ z2 : List Value, ∃ k15 : Nat, p1 = ⟨k13, k14, none⟩ ∧
 Blk w14 k13 k15 z2 ∧
 (k14 + 9) ≤ z2.length ∧
 k0 ≠ k13 ∧
 ∀ w15 : World, Only [k13] w14 w15 → Blk w15 k13 k15 (splice z2 k14 [.int .i64 i5, .string s0, .string s1, .string s2, l3.v, l4.v, l5.v, l6.v, .int .i64 i6]) → ∃ k16 k17 : Nat, ∃ z3 : List Value, ∃ k18 : Nat, (p2.add 7) = ⟨k16, k17, none⟩ ∧
 Blk w15 k16 k18 z3 ∧
 (k17 + 1) ≤ z3.length ∧
 k0 ≠ k16 ∧
 ∀ w16 : World, Only [k16] w15 w16 → Blk w16 k16 k18 (splice z3 k17 [l8.v]) → J3 b9 b10 b11 b12 w16) ∧
 ∃ k19 k20 : Nat, ∃ z4 : List Value, ∃ k21 : Nat, (p2.add 7) = ⟨k19, k20, none⟩ ∧
 Blk w14 k19 k21 z4 ∧
 (k20 + 1) ≤ z4.length ∧
 k0 ≠ k19 ∧
 ∀ w17 : World, Only [k19] w14 w17 → Blk w17 k19 k21 (splice z4 k20 [l8.v]) → ∃ k22 k23 : Nat, ∃ z5 : List Value, ∃ k24 : Nat, p1 = ⟨k22, k23, none⟩ ∧
 Blk w17 k22 k24 z5 ∧
 (k23 + 9) ≤ z5.length ∧
 k0 ≠ k22 ∧
 ∀ w18 : World, Only [k22] w17 w18 → Blk w18 k22 k24 (splice z5 k23 [.int .i64 i5, .string s0, .string s1, .string s2, l3.v, l4.v, l5.v, l6.v, .int .i64 i6]) → J3 b9 b10 b11 b12 w18) ∧
 ∃ l9 : Sl, ∃ w19 : World, ((Instr.buildSlice 43 1 #[.mk 0 (.agg #[.int .i64 0, .string (ByteArray.mk #[]), .string (ByteArray.mk #[]), .string (ByteArray.mk #[]), Sl.nil.v, Sl.nil.v, Sl.nil.v, Sl.nil.v, .int .i64 0])]).run Tryz.prog w11) = (.ok l9.v w19) ∧
 Same [k0] w11 w19 ∧
 Keeps J4 w11 w19 ∧
 Calls Tryz.prog 66 #[.pointer (some r), .int .i64 i2] w19 fun e3 w20 => ∃ i7 : Int, ∃ s3 s4 s5 : ByteArray, ∃ l10 l11 l12 l13 : Sl, ∃ i8 : Int, e3 = (.returned (.agg #[.int .i64 i7, .string s3, .string s4, .string s5, l10.v, l11.v, l12.v, l13.v, .int .i64 i8])) ∧
 Same [k0] w19 w20 ∧
 Keeps J4 w19 w20 ∧
 ∃ l14 : Sl, ∃ w21 : World, ((Builtin.append_ #[43, 43] 43 #[l2.v, l9.v]).run Tryz.prog w20) = (.ok l14.v w21) ∧
 Same [k0] w20 w21 ∧
 Keeps J4 w20 w21 ∧
 ∃ p3 : Addr, SlAt l14 (l2.n : Int) 9 p3 ∧
 ∃ p4 : Addr, n_ = (some p4) ∧
 (∃ k25 k26 : Nat, ∃ z6 : List Value, ∃ k27 : Nat, p3 = ⟨k25, k26, none⟩ ∧
 Blk w21 k25 k27 z6 ∧
 (k26 + 9) ≤ z6.length ∧
 k0 ≠ k25 ∧
 ∀ w22 : World, Only [k25] w21 w22 → Blk w22 k25 k27 (splice z6 k26 [.int .i64 i7, .string s3, .string s4, .string s5, l10.v, l11.v, l12.v, l13.v, .int .i64 i8]) → ∃ k28 k29 : Nat, ∃ z7 : List Value, ∃ k30 : Nat, (p4.add 7) = ⟨k28, k29, none⟩ ∧
 Blk w22 k28 k30 z7 ∧
 (k29 + 1) ≤ z7.length ∧
 k0 ≠ k28 ∧
 ∀ w23 : World, Only [k28] w22 w23 → Blk w23 k28 k30 (splice z7 k29 [l14.v]) → J3 b9 b10 b11 b12 w23) ∧
 ∃ k31 k32 : Nat, ∃ z8 : List Value, ∃ k33 : Nat, (p4.add 7) = ⟨k31, k32, none⟩ ∧
 Blk w21 k31 k33 z8 ∧
 (k32 + 1) ≤ z8.length ∧
 k0 ≠ k31 ∧
 ∀ w24 : World, Only [k31] w21 w24 → Blk w24 k31 k33 (splice z8 k32 [l14.v]) → ∃ k34 k35 : Nat, ∃ z9 : List Value, ∃ k36 : Nat, p3 = ⟨k34, k35, none⟩ ∧
 Blk w24 k34 k36 z9 ∧
 (k35 + 9) ≤ z9.length ∧
 k0 ≠ k34 ∧
 ∀ w25 : World, Only [k34] w24 w25 → Blk w25 k34 k36 (splice z9 k35 [.int .i64 i7, .string s3, .string s4, .string s5, l10.v, l11.v, l12.v, l13.v, .int .i64 i8]) → J3 b9 b10 b11 b12 w25) ∧
 ((decide (i2 > 0)) = false → ∃ i9 : Int, Cells w6 ((r.add 4).add 2) [.int .i64 i9] ∧
 ∃ k37 k38 : Nat, ∃ z10 : List Value, ∃ k39 : Nat, ((r.add 4).add 2) = ⟨k37, k38, none⟩ ∧
 Blk w6 k37 k39 z10 ∧
 (k38 + 1) ≤ z10.length ∧
 k0 ≠ k37 ∧
 ∀ w26 : World, Only [k37] w6 w26 → Blk w26 k37 k39 (splice z10 k38 [.int .i64 (IntKind.wrap .i64 (i9 + 1))]) → ∃ l15 : Sl, ∃ w27 : World, ((Instr.buildSlice 25 1 #[.mk 0 (.string (ByteArray.mk #[125]))]).run Tryz.prog w26) = (.ok l15.v w27) ∧
 Same [k0] w26 w27 ∧
 Calls Tryz.prog 29 #[.pointer (some (r.add 0)), l15.v] w27 fun e4 w28 => e4 = (.returned (.tuple #[])) ∧
 Same [k0] w27 w28 ∧
 R (.tuple #[]) w28))) ∧
 Calls Tryz.prog 34 #[.pointer (some (r.add 0))] w2 fun e5 w29 => ∃ b17 : Bool, e5 = (.returned (.bool b17)) ∧
 Same [k0] w2 w29 ∧
 (b17 = true → Blk w29 k0 124 [.bool b0, .bool b1, .bool b2, .bool b3] → Calls Tryz.prog 65 #[.pointer (some r), .pointer n_, .pointer (some ⟨k0, 0, none⟩)] w29 fun e6 w30 => ∃ b18 : Bool, e6 = (.returned (.bool b18)) ∧
 ∃ b19 b20 b21 b22 : Bool, Blk w30 k0 124 [.bool b19, .bool b20, .bool b21, .bool b22] ∧
 J1 b18 b19 b20 b21 b22 w30) ∧
 (b17 = false → J1 false b0 b1 b2 b3 w29)
theorem syntax_reader_body_wp (r : Addr) (n_ : Option Addr) (R : Value → World → Prop) (w : World) (h : syntax_reader_body_vc r n_ R w) : Calls Tryz.prog 33 #[.pointer (some r), .pointer n_] w fun e w' => ∃ v, e = .returned v ∧ R v w' :=
 fn_by (an := .s .o (.s .o (.s (.j [0, 1, 4] [.b 4 [.bool, .bool, .bool, .bool]] (.s (.s (.j [0, 1, 4] [.s 23 .bool, .b 4 [.bool, .bool, .bool, .bool]] .o .o) (.s .o .o)) .o) .o) (.s (.s .o (.j [0, 1, 4] [.s 5 (.int .i64), .b 4 [.bool, .bool, .bool, .bool]] (.s (.s .o (.s .o .o)) (.s (.s .o (.j [0, 1, 4] [.b 4 [.bool, .bool, .bool, .bool]] .o .o)) .o)) .o)) (.s .o .o))))) (args := [.ad r, .ptr n_]) Tryz.checked.mixed (by kernel_rfl) (by kernel_rfl) h
def syntax_cursor_fine_vc (c : Addr) (R : Value → World → Prop) (w : World) : Prop :=
 ∃ i0 : Int, Cells w ((c.add 2).add 0) [.int .i64 i0] ∧
 R (.bool (i0 == 0)) w
theorem syntax_cursor_fine_wp (c : Addr) (R : Value → World → Prop) (w : World) (h : syntax_cursor_fine_vc c R w) : Calls Tryz.prog 34 #[.pointer (some c)] w fun e w' => ∃ v, e = .returned v ∧ R v w' :=
 fn_by (an := .s .o (.s .o .o)) (args := [.ad c]) Tryz.checked.mixed (by kernel_rfl) (by kernel_rfl) h
def syntax_cursor_wrong_vc (c : Addr) (R : Value → World → Prop) (w : World) : Prop :=
 ∃ J0 : World → Prop, (∀ w0 : World, J0 w0 → Calls Tryz.prog 62 #[.pointer (some c), .int .i64 4] w0 fun e0 w1 => e0 = (.returned (.tuple #[])) ∧
 R (.tuple #[]) w1) ∧
 ∃ l0 : Sl, Cells w (c.add 0) [l0.v] ∧
 ∃ i0 : Int, Cells w (c.add 1) [.int .i64 i0] ∧
 ∃ p0 : Addr, SlAt l0 i0 4 p0 ∧
 ∃ i1 : Int, Cells w (p0.add 0) [.int .i64 i1] ∧
 ((i1 == 5) = true → ∀ w2 : World, Only [] w w2 → Calls Tryz.prog 62 #[.pointer (some c), .int .i64 3] w2 fun e1 w3 => e1 = (.returned (.tuple #[])) ∧
 J0 w3) ∧
 ((i1 == 5) = false → ∀ w4 : World, Only [] w w4 → J0 w4)
theorem syntax_cursor_wrong_wp (c : Addr) (R : Value → World → Prop) (w : World) (h : syntax_cursor_wrong_vc c R w) : Calls Tryz.prog 35 #[.pointer (some c)] w fun e w' => ∃ v, e = .returned v ∧ R v w' :=
 fn_by (an := .j [0] [] (.s .o (.s .o .o)) .o) (args := [.ad c]) Tryz.checked.mixed (by kernel_rfl) (by kernel_rfl) h
def pavaneref07_reader_must_vc (r : Addr) (kind : Int) (text : ByteArray) (R : Value → World → Prop) (w : World) : Prop :=
 Calls Tryz.prog 67 #[.pointer (some r), .int .i64 kind, .string text] w fun e0 w0 => ∃ b0 : Bool, e0 = (.returned (.bool b0)) ∧
 ((!b0) = true → Calls Tryz.prog 40 #[.pointer (some r)] w0 fun e1 w1 => e1 = (.returned (.tuple #[])) ∧
 R (.tuple #[]) w1) ∧
 ((!b0) = false → R (.tuple #[]) w0)
theorem pavaneref07_reader_must_wp (r : Addr) (kind : Int) (text : ByteArray) (R : Value → World → Prop) (w : World) (h : pavaneref07_reader_must_vc r kind text R w) : Calls Tryz.prog 36 #[.pointer (some r), .int .i64 kind, .string text] w fun e w' => ∃ v, e = .returned v ∧ R v w' :=
 fn_by (an := .s .o (.s .o (.s .o .o))) (args := [.ad r, .int .i64 kind, .str text]) Tryz.checked.mixed (by kernel_rfl) (by kernel_rfl) h
def pavaneref07_reader_named_vc (r : Addr) (n_ : Int) (n_1 n_2 n_3 : ByteArray) (n_4 n_5 n_6 n_7 : Sl) (n_8 : Int) (R : Value → World → Prop) (w : World) : Prop :=
 ∀ k0 k1 : Nat, ∀ w0 : World, w.heap.size ≤ k0 → k0 < w0.heap.size → w.heap.size ≤ k1 → k1 < w0.heap.size → Only [] w w0 → ∃ J0 : World → Prop, (∀ w1 : World, J0 w1 → ∃ J1 : World → Prop, (∀ w2 : World, J1 w2 → ∃ i0 : Int, Cells w2 (r.add 2) [.int .i64 i0] ∧
 ∃ k2 k3 : Nat, ∃ z0 : List Value, ∃ k4 : Nat, (r.add 2) = ⟨k2, k3, none⟩ ∧
 Blk w2 k2 k4 z0 ∧
 (k3 + 1) ≤ z0.length ∧
 k0 ≠ k2 ∧
 k1 ≠ k2 ∧
 ∀ w3 : World, Only [k2] w2 w3 → Blk w3 k2 k4 (splice z0 k3 [.int .i64 (IntKind.wrap .i64 (i0 + 1))]) → Calls Tryz.prog 69 #[.pointer (some r)] w3 fun e0 w4 => ∃ s0 : ByteArray, ∃ i1 : Int, e0 = (.returned (.tuple #[.string s0, .int .i64 i1])) ∧
 Same [k0, k1] w3 w4 ∧
 ∀ w5 : World, Only [k1, k0] w4 w5 → R (.agg #[.int .i64 n_, .string s0, .string n_2, .string n_3, n_4.v, n_5.v, n_6.v, n_7.v, .int .i64 i1]) w5) ∧
 ∃ l0 : Sl, Cells w1 (r.add 0) [l0.v] ∧
 ∃ i2 : Int, Cells w1 (r.add 1) [.int .i64 i2] ∧
 ∃ p0 : Addr, SlAt l0 i2 4 p0 ∧
 ∃ i3 : Int, Cells w1 (p0.add 0) [.int .i64 i3] ∧
 ∃ i4 : Int, ((i3 == 1) = true → Cells w1 (r.add 5) [.int .i64 i4]) ∧
 (((i3 == 1) && (i4 == 12)) = true → ∀ w6 : World, Only [] w1 w6 → Calls Tryz.prog 68 #[.pointer (some r), .int .i64 21] w6 fun e1 w7 => e1 = (.returned (.tuple #[])) ∧
 Same [k0, k1] w6 w7 ∧
 J1 w7) ∧
 (((i3 == 1) && (i4 == 12)) = false → ∀ w8 : World, Only [] w1 w8 → J1 w8)) ∧
 ∃ l1 : Sl, Cells w0 (r.add 0) [l1.v] ∧
 ∃ i5 : Int, Cells w0 (r.add 1) [.int .i64 i5] ∧
 ∃ p1 : Addr, SlAt l1 i5 4 p1 ∧
 ∃ i6 : Int, Cells w0 (p1.add 0) [.int .i64 i6] ∧
 ∃ i7 : Int, ((i6 == 1) = true → Cells w0 (r.add 2) [.int .i64 i7]) ∧
 (((i6 == 1) && (i7 == 64)) = true → ∀ w9 : World, Only [] w0 w9 → Calls Tryz.prog 68 #[.pointer (some r), .int .i64 2] w9 fun e2 w10 => e2 = (.returned (.tuple #[])) ∧
 Same [k0, k1] w9 w10 ∧
 J0 w10) ∧
 (((i6 == 1) && (i7 == 64)) = false → ∀ w11 : World, Only [] w0 w11 → J0 w11)
theorem pavaneref07_reader_named_wp (r : Addr) (n_ : Int) (n_1 n_2 n_3 : ByteArray) (n_4 n_5 n_6 n_7 : Sl) (n_8 : Int) (R : Value → World → Prop) (w : World) (h : pavaneref07_reader_named_vc r n_ n_1 n_2 n_3 n_4 n_5 n_6 n_7 n_8 R w) : Calls Tryz.prog 37 #[.pointer (some r), .agg #[.int .i64 n_, .string n_1, .string n_2, .string n_3, n_4.v, n_5.v, n_6.v, n_7.v, .int .i64 n_8]] w fun e w' => ∃ v, e = .returned v ∧ R v w' :=
 fn_by (an := .s .o (.j [0, 3, 4] [] (.s .o (.s .o .o)) (.j [0, 3, 4] [] (.s .o (.s .o .o)) (.s .o (.s .o (.s .o .o)))))) (args := [.ad r, .agg (ofL [.int .i64 n_, .str n_1, .str n_2, .str n_3, .sl n_4, .sl n_5, .sl n_6, .sl n_7, .int .i64 n_8])]) Tryz.checked.mixed (by kernel_rfl) (by kernel_rfl) h
def pavaneref07_reader_vars_vc (r : Addr) (R : Value → World → Prop) (w : World) : Prop :=
 Calls Tryz.prog 67 #[.pointer (some r), .int .i64 2, .string (ByteArray.mk #[118, 97, 114])] w fun e0 w0 => ∃ b0 : Bool, e0 = (.returned (.bool b0)) ∧
 ∃ J0 : Nat → Sl → Bool → World → Prop, ∃ k0 : Nat, J0 k0 Sl.nil b0 w0 ∧
 ∀ k1 : Nat, ∀ l0 : Sl, ∀ b1 : Bool, ∀ w1 : World, J0 k1 l0 b1 w1 → (b1 = true → ∃ J1 : World → Prop, (∀ w2 : World, J1 w2 → ∀ k2 : Nat, ∀ w3 : World, w2.heap.size ≤ k2 → k2 < w3.heap.size → Only [] w2 w3 → Calls Tryz.prog 69 #[.pointer (some r)] w3 fun e1 w4 => ∃ s0 : ByteArray, ∃ i0 : Int, e1 = (.returned (.tuple #[.string s0, .int .i64 i0])) ∧
 Same [k2] w3 w4 ∧
 ∀ w5 : World, Only [k2] w4 w5 → Calls Tryz.prog 36 #[.pointer (some r), .int .i64 4, .string (ByteArray.mk #[61])] w5 fun e2 w6 => e2 = (.returned (.tuple #[])) ∧
 Same [k2] w5 w6 ∧
 Calls Tryz.prog 67 #[.pointer (some r), .int .i64 4, .string (ByteArray.mk #[45])] w6 fun e3 w7 => ∃ b2 : Bool, e3 = (.returned (.bool b2)) ∧
 Same [k2] w6 w7 ∧
 Calls Tryz.prog 70 #[.pointer (some r)] w7 fun e4 w8 => ∃ i1 : Int, e4 = (.returned (.int .i64 i1)) ∧
 Same [k2] w7 w8 ∧
 ∀ w9 : World, Only [k2] w8 w9 → ∃ J2 : ByteArray → Int → Int → World → Prop, (∀ s1 : ByteArray, ∀ i2 i3 : Int, ∀ w10 : World, J2 s1 i2 i3 w10 → Calls Tryz.prog 36 #[.pointer (some r), .int .i64 4, .string (ByteArray.mk #[59])] w10 fun e5 w11 => e5 = (.returned (.tuple #[])) ∧
 Same [k2] w10 w11 ∧
 ∃ l1 : Sl, ∃ w12 : World, ((Instr.buildSlice 40 1 #[.mk 0 (.agg #[.string s1, .int .i64 i2, .int .i64 i3])]).run Tryz.prog w11) = (.ok l1.v w12) ∧
 Same [k2] w11 w12 ∧
 ∃ l2 : Sl, ∃ w13 : World, ((Builtin.append_ #[40, 40] 40 #[l0.v, l1.v]).run Tryz.prog w12) = (.ok l2.v w13) ∧
 Same [k2] w12 w13 ∧
 Calls Tryz.prog 67 #[.pointer (some r), .int .i64 2, .string (ByteArray.mk #[118, 97, 114])] w13 fun e6 w14 => ∃ b3 : Bool, e6 = (.returned (.bool b3)) ∧
 Same [k2] w13 w14 ∧
 ∃ k3 : Nat, k3 < k1 ∧
 J0 k3 l2 b3 w14) ∧
 (b2 = true → ∀ w15 : World, Only [k2] w9 w15 → J2 s0 (IntKind.wrap .i64 (0 - i1)) i0 w15) ∧
 (b2 = false → J2 s0 i1 i0 w9)) ∧
 ∃ l3 : Sl, Cells w1 (r.add 0) [l3.v] ∧
 ∃ i4 : Int, Cells w1 (r.add 1) [.int .i64 i4] ∧
 ∃ p0 : Addr, SlAt l3 i4 4 p0 ∧
 ∃ i5 : Int, Cells w1 (p0.add 0) [.int .i64 i5] ∧
 (((i5 == 1) && ((l0.n : Int) == 16)) = true → ∀ w16 : World, Only [] w1 w16 → Calls Tryz.prog 68 #[.pointer (some r), .int .i64 2] w16 fun e7 w17 => e7 = (.returned (.tuple #[])) ∧
 J1 w17) ∧
 (((i5 == 1) && ((l0.n : Int) == 16)) = false → ∀ w18 : World, Only [] w1 w18 → J1 w18)) ∧
 (b1 = false → R l0.v w1)
theorem pavaneref07_reader_vars_wp (r : Addr) (R : Value → World → Prop) (w : World) (h : pavaneref07_reader_vars_vc r R w) : Calls Tryz.prog 38 #[.pointer (some r)] w fun e w' => ∃ v, e = .returned v ∧ R v w' :=
 fn_by (an := .s .o (.s .o (.s .o (.s (.j [0] [.s 3 .sl, .s 4 .bool] (.s (.s .o (.s .o .o)) (.j [0, 3] [] (.s .o (.s .o .o)) (.s .o (.s .o (.s .o (.s .o (.s .o (.j [0, 3, 5] [.b 5 [.str, .int .i64, .int .i64]] (.s .o (.s .o .o)) (.s .o (.s .o .o)))))))))) .o) (.s .o .o))))) (args := [.ad r]) Tryz.checked.mixed (by kernel_rfl) (by kernel_rfl) h
def pavaneref07_reader_body_vc (r : Addr) (n_ : Int) (n_1 n_2 n_3 : ByteArray) (n_4 n_5 n_6 n_7 : Sl) (n_8 : Int) (R : Value → World → Prop) (w : World) : Prop :=
 ∀ k0 k1 k2 : Nat, ∀ w0 : World, w.heap.size ≤ k0 → k0 < w0.heap.size → w.heap.size ≤ k1 → k1 < w0.heap.size → w.heap.size ≤ k2 → k2 < w0.heap.size → Only [] w w0 → ∃ l0 : Sl, ∃ w1 : World, ((Instr.buildSlice 25 3 #[.mk 0 (.string (ByteArray.mk #[105, 110, 105, 116, 105, 97, 108])), .mk 1 (.string (ByteArray.mk #[101, 110, 116, 101, 114])), .mk 2 (.string (ByteArray.mk #[108, 101, 97, 118, 101]))]).run Tryz.prog w0) = (.ok l0.v w1) ∧
 Same [k0, k1, k2] w0 w1 ∧
 ∃ J0 : Nat → Bool → Int → ByteArray → ByteArray → ByteArray → Sl → Sl → Sl → Sl → Int → Bool → Bool → Bool → World → Prop, ∃ k3 : Nat, J0 k3 true n_ n_1 n_2 n_3 n_4 n_5 n_6 n_7 n_8 false false false w1 ∧
 ∀ k4 : Nat, ∀ b0 : Bool, ∀ i0 : Int, ∀ s0 s1 s2 : ByteArray, ∀ l1 l2 l3 l4 : Sl, ∀ i1 : Int, ∀ b1 b2 b3 : Bool, ∀ w2 : World, J0 k4 b0 i0 s0 s1 s2 l1 l2 l3 l4 i1 b1 b2 b3 w2 → ∃ J1 : Bool → World → Prop, (∀ b4 : Bool, ∀ w3 : World, J1 b4 w3 → (b4 = true → ∃ J2 : Nat → Bool → Int → Int → ByteArray → ByteArray → ByteArray → Sl → Sl → Sl → Sl → Int → Bool → Bool → Bool → World → Prop, ∃ k5 : Nat, J2 k5 false 0 i0 s0 s1 s2 l1 l2 l3 l4 i1 b1 b2 b3 w3 ∧
 ∀ k6 : Nat, ∀ b5 : Bool, ∀ i2 i3 : Int, ∀ s3 s4 s5 : ByteArray, ∀ l5 l6 l7 l8 : Sl, ∀ i4 : Int, ∀ b6 b7 b8 : Bool, ∀ w4 : World, J2 k6 b5 i2 i3 s3 s4 s5 l5 l6 l7 l8 i4 b6 b7 b8 w4 → ((decide (i2 < 3)) = true → ∃ J3 : Bool → Int → ByteArray → ByteArray → ByteArray → Sl → Sl → Sl → Sl → Int → Bool → Bool → Bool → World → Prop, (∀ b9 : Bool, ∀ i5 : Int, ∀ s6 s7 s8 : ByteArray, ∀ l9 l10 l11 l12 : Sl, ∀ i6 : Int, ∀ b10 b11 b12 : Bool, ∀ w5 : World, J3 b9 i5 s6 s7 s8 l9 l10 l11 l12 i6 b10 b11 b12 w5 → ∃ k7 : Nat, k7 < k6 ∧
 J2 k7 b9 (IntKind.wrap .i64 (i2 + 1)) i5 s6 s7 s8 l9 l10 l11 l12 i6 b10 b11 b12 w5) ∧
 ∃ p0 : Addr, SlAt l0 i2 1 p0 ∧
 ∃ s9 : ByteArray, Cells w4 p0 [.string s9] ∧
 Calls Tryz.prog 72 #[.pointer (some r), .int .i64 2, .string s9] w4 fun e0 w6 => ∃ b13 : Bool, e0 = (.returned (.bool b13)) ∧
 Same [k0, k1, k2] w4 w6 ∧
 ∃ J4 : World → Prop, (∀ w7 : World, J4 w7 → (0 ≤ i2 ∧
 i2 < 3) ∧
 ((i2 = 0 → (((!b13) || b6) = true → J3 b5 i3 s3 s4 s5 l5 l6 l7 l8 i4 b6 b7 b8 w7) ∧
 (((!b13) || b6) = false → (0 ≤ i2 ∧
 i2 < 3) ∧
 ((i2 = 0 → ∀ w8 : World, Only [k2] w7 w8 → ∃ i7 : Int, Cells w8 (r.add 1) [.int .i64 i7] ∧
 ∃ k8 k9 : Nat, ∃ z0 : List Value, ∃ k10 : Nat, (r.add 1) = ⟨k8, k9, none⟩ ∧
 Blk w8 k8 k10 z0 ∧
 (k9 + 1) ≤ z0.length ∧
 k0 ≠ k8 ∧
 k1 ≠ k8 ∧
 k2 ≠ k8 ∧
 ∀ w9 : World, Only [k8] w8 w9 → Blk w9 k8 k10 (splice z0 k9 [.int .i64 (IntKind.wrap .i64 (i7 + 1))]) → ((i2 == 0) = true → Calls Tryz.prog 69 #[.pointer (some r)] w9 fun e1 w10 => ∃ s10 : ByteArray, ∃ i8 : Int, e1 = (.returned (.tuple #[.string s10, .int .i64 i8])) ∧
 Same [k0, k1, k2] w9 w10 ∧
 ∀ w11 : World, Only [k0] w10 w11 → Calls Tryz.prog 36 #[.pointer (some r), .int .i64 4, .string (ByteArray.mk #[59])] w11 fun e2 w12 => e2 = (.returned (.tuple #[])) ∧
 Same [k0, k1, k2] w11 w12 ∧
 J3 true i3 s3 s10 s5 l5 l6 l7 l8 i4 true b7 b8 w12) ∧
 ((i2 == 0) = false → ((i2 == 1) = true → Calls Tryz.prog 73 #[.pointer (some r)] w9 fun e3 w13 => ∃ l13 : Sl, e3 = (.returned l13.v) ∧
 Same [k0, k1, k2] w9 w13 ∧
 ∀ w14 : World, Only [k0] w13 w14 → J3 true i3 s3 s4 s5 l13 l6 l7 l8 i4 true b7 b8 w14) ∧
 ((i2 == 1) = false → ((i2 == 2) = true → Calls Tryz.prog 73 #[.pointer (some r)] w9 fun e4 w15 => ∃ l14 : Sl, e4 = (.returned l14.v) ∧
 Same [k0, k1, k2] w9 w15 ∧
 ∀ w16 : World, Only [k0] w15 w16 → J3 true i3 s3 s4 s5 l5 l14 l7 l8 i4 true b7 b8 w16) ∧
 ((i2 == 2) = false → J3 true i3 s3 s4 s5 l5 l6 l7 l8 i4 true b7 b8 w9)))) ∧
 (i2 = 1 → ∀ w17 : World, Only [k2] w7 w17 → ∃ i9 : Int, Cells w17 (r.add 1) [.int .i64 i9] ∧
 ∃ k11 k12 : Nat, ∃ z1 : List Value, ∃ k13 : Nat, (r.add 1) = ⟨k11, k12, none⟩ ∧
 Blk w17 k11 k13 z1 ∧
 (k12 + 1) ≤ z1.length ∧
 k0 ≠ k11 ∧
 k1 ≠ k11 ∧
 k2 ≠ k11 ∧
 ∀ w18 : World, Only [k11] w17 w18 → Blk w18 k11 k13 (splice z1 k12 [.int .i64 (IntKind.wrap .i64 (i9 + 1))]) → ((i2 == 0) = true → Calls Tryz.prog 69 #[.pointer (some r)] w18 fun e5 w19 => ∃ s11 : ByteArray, ∃ i10 : Int, e5 = (.returned (.tuple #[.string s11, .int .i64 i10])) ∧
 Same [k0, k1, k2] w18 w19 ∧
 ∀ w20 : World, Only [k0] w19 w20 → Calls Tryz.prog 36 #[.pointer (some r), .int .i64 4, .string (ByteArray.mk #[59])] w20 fun e6 w21 => e6 = (.returned (.tuple #[])) ∧
 Same [k0, k1, k2] w20 w21 ∧
 J3 true i3 s3 s11 s5 l5 l6 l7 l8 i4 b6 true b8 w21) ∧
 ((i2 == 0) = false → ((i2 == 1) = true → Calls Tryz.prog 73 #[.pointer (some r)] w18 fun e7 w22 => ∃ l15 : Sl, e7 = (.returned l15.v) ∧
 Same [k0, k1, k2] w18 w22 ∧
 ∀ w23 : World, Only [k0] w22 w23 → J3 true i3 s3 s4 s5 l15 l6 l7 l8 i4 b6 true b8 w23) ∧
 ((i2 == 1) = false → ((i2 == 2) = true → Calls Tryz.prog 73 #[.pointer (some r)] w18 fun e8 w24 => ∃ l16 : Sl, e8 = (.returned l16.v) ∧
 Same [k0, k1, k2] w18 w24 ∧
 ∀ w25 : World, Only [k0] w24 w25 → J3 true i3 s3 s4 s5 l5 l16 l7 l8 i4 b6 true b8 w25) ∧
 ((i2 == 2) = false → J3 true i3 s3 s4 s5 l5 l6 l7 l8 i4 b6 true b8 w18))))) ∧
 (i2 = 2 → ∀ w26 : World, Only [k2] w7 w26 → ∃ i11 : Int, Cells w26 (r.add 1) [.int .i64 i11] ∧
 ∃ k14 k15 : Nat, ∃ z2 : List Value, ∃ k16 : Nat, (r.add 1) = ⟨k14, k15, none⟩ ∧
 Blk w26 k14 k16 z2 ∧
 (k15 + 1) ≤ z2.length ∧
 k0 ≠ k14 ∧
 k1 ≠ k14 ∧
 k2 ≠ k14 ∧
 ∀ w27 : World, Only [k14] w26 w27 → Blk w27 k14 k16 (splice z2 k15 [.int .i64 (IntKind.wrap .i64 (i11 + 1))]) → ((i2 == 0) = true → Calls Tryz.prog 69 #[.pointer (some r)] w27 fun e9 w28 => ∃ s12 : ByteArray, ∃ i12 : Int, e9 = (.returned (.tuple #[.string s12, .int .i64 i12])) ∧
 Same [k0, k1, k2] w27 w28 ∧
 ∀ w29 : World, Only [k0] w28 w29 → Calls Tryz.prog 36 #[.pointer (some r), .int .i64 4, .string (ByteArray.mk #[59])] w29 fun e10 w30 => e10 = (.returned (.tuple #[])) ∧
 Same [k0, k1, k2] w29 w30 ∧
 J3 true i3 s3 s12 s5 l5 l6 l7 l8 i4 b6 b7 true w30) ∧
 ((i2 == 0) = false → ((i2 == 1) = true → Calls Tryz.prog 73 #[.pointer (some r)] w27 fun e11 w31 => ∃ l17 : Sl, e11 = (.returned l17.v) ∧
 Same [k0, k1, k2] w27 w31 ∧
 ∀ w32 : World, Only [k0] w31 w32 → J3 true i3 s3 s4 s5 l17 l6 l7 l8 i4 b6 b7 true w32) ∧
 ((i2 == 1) = false → ((i2 == 2) = true → Calls Tryz.prog 73 #[.pointer (some r)] w27 fun e12 w33 => ∃ l18 : Sl, e12 = (.returned l18.v) ∧
 Same [k0, k1, k2] w27 w33 ∧
 ∀ w34 : World, Only [k0] w33 w34 → J3 true i3 s3 s4 s5 l5 l18 l7 l8 i4 b6 b7 true w34) ∧
 ((i2 == 2) = false → J3 true i3 s3 s4 s5 l5 l6 l7 l8 i4 b6 b7 true w27)))))) ∧
 (i2 = 1 → (((!b13) || b7) = true → J3 b5 i3 s3 s4 s5 l5 l6 l7 l8 i4 b6 b7 b8 w7) ∧
 (((!b13) || b7) = false → (0 ≤ i2 ∧
 i2 < 3) ∧
 ((i2 = 0 → ∀ w35 : World, Only [k2] w7 w35 → ∃ i13 : Int, Cells w35 (r.add 1) [.int .i64 i13] ∧
 ∃ k17 k18 : Nat, ∃ z3 : List Value, ∃ k19 : Nat, (r.add 1) = ⟨k17, k18, none⟩ ∧
 Blk w35 k17 k19 z3 ∧
 (k18 + 1) ≤ z3.length ∧
 k0 ≠ k17 ∧
 k1 ≠ k17 ∧
 k2 ≠ k17 ∧
 ∀ w36 : World, Only [k17] w35 w36 → Blk w36 k17 k19 (splice z3 k18 [.int .i64 (IntKind.wrap .i64 (i13 + 1))]) → ((i2 == 0) = true → Calls Tryz.prog 69 #[.pointer (some r)] w36 fun e13 w37 => ∃ s13 : ByteArray, ∃ i14 : Int, e13 = (.returned (.tuple #[.string s13, .int .i64 i14])) ∧
 Same [k0, k1, k2] w36 w37 ∧
 ∀ w38 : World, Only [k0] w37 w38 → Calls Tryz.prog 36 #[.pointer (some r), .int .i64 4, .string (ByteArray.mk #[59])] w38 fun e14 w39 => e14 = (.returned (.tuple #[])) ∧
 Same [k0, k1, k2] w38 w39 ∧
 J3 true i3 s3 s13 s5 l5 l6 l7 l8 i4 true b7 b8 w39) ∧
 ((i2 == 0) = false → ((i2 == 1) = true → Calls Tryz.prog 73 #[.pointer (some r)] w36 fun e15 w40 => ∃ l19 : Sl, e15 = (.returned l19.v) ∧
 Same [k0, k1, k2] w36 w40 ∧
 ∀ w41 : World, Only [k0] w40 w41 → J3 true i3 s3 s4 s5 l19 l6 l7 l8 i4 true b7 b8 w41) ∧
 ((i2 == 1) = false → ((i2 == 2) = true → Calls Tryz.prog 73 #[.pointer (some r)] w36 fun e16 w42 => ∃ l20 : Sl, e16 = (.returned l20.v) ∧
 Same [k0, k1, k2] w36 w42 ∧
 ∀ w43 : World, Only [k0] w42 w43 → J3 true i3 s3 s4 s5 l5 l20 l7 l8 i4 true b7 b8 w43) ∧
 ((i2 == 2) = false → J3 true i3 s3 s4 s5 l5 l6 l7 l8 i4 true b7 b8 w36)))) ∧
 (i2 = 1 → ∀ w44 : World, Only [k2] w7 w44 → ∃ i15 : Int, Cells w44 (r.add 1) [.int .i64 i15] ∧
 ∃ k20 k21 : Nat, ∃ z4 : List Value, ∃ k22 : Nat, (r.add 1) = ⟨k20, k21, none⟩ ∧
 Blk w44 k20 k22 z4 ∧
 (k21 + 1) ≤ z4.length ∧
 k0 ≠ k20 ∧
 k1 ≠ k20 ∧
 k2 ≠ k20 ∧
 ∀ w45 : World, Only [k20] w44 w45 → Blk w45 k20 k22 (splice z4 k21 [.int .i64 (IntKind.wrap .i64 (i15 + 1))]) → ((i2 == 0) = true → Calls Tryz.prog 69 #[.pointer (some r)] w45 fun e17 w46 => ∃ s14 : ByteArray, ∃ i16 : Int, e17 = (.returned (.tuple #[.string s14, .int .i64 i16])) ∧
 Same [k0, k1, k2] w45 w46 ∧
 ∀ w47 : World, Only [k0] w46 w47 → Calls Tryz.prog 36 #[.pointer (some r), .int .i64 4, .string (ByteArray.mk #[59])] w47 fun e18 w48 => e18 = (.returned (.tuple #[])) ∧
 Same [k0, k1, k2] w47 w48 ∧
 J3 true i3 s3 s14 s5 l5 l6 l7 l8 i4 b6 true b8 w48) ∧
 ((i2 == 0) = false → ((i2 == 1) = true → Calls Tryz.prog 73 #[.pointer (some r)] w45 fun e19 w49 => ∃ l21 : Sl, e19 = (.returned l21.v) ∧
 Same [k0, k1, k2] w45 w49 ∧
 ∀ w50 : World, Only [k0] w49 w50 → J3 true i3 s3 s4 s5 l21 l6 l7 l8 i4 b6 true b8 w50) ∧
 ((i2 == 1) = false → ((i2 == 2) = true → Calls Tryz.prog 73 #[.pointer (some r)] w45 fun e20 w51 => ∃ l22 : Sl, e20 = (.returned l22.v) ∧
 Same [k0, k1, k2] w45 w51 ∧
 ∀ w52 : World, Only [k0] w51 w52 → J3 true i3 s3 s4 s5 l5 l22 l7 l8 i4 b6 true b8 w52) ∧
 ((i2 == 2) = false → J3 true i3 s3 s4 s5 l5 l6 l7 l8 i4 b6 true b8 w45))))) ∧
 (i2 = 2 → ∀ w53 : World, Only [k2] w7 w53 → ∃ i17 : Int, Cells w53 (r.add 1) [.int .i64 i17] ∧
 ∃ k23 k24 : Nat, ∃ z5 : List Value, ∃ k25 : Nat, (r.add 1) = ⟨k23, k24, none⟩ ∧
 Blk w53 k23 k25 z5 ∧
 (k24 + 1) ≤ z5.length ∧
 k0 ≠ k23 ∧
 k1 ≠ k23 ∧
 k2 ≠ k23 ∧
 ∀ w54 : World, Only [k23] w53 w54 → Blk w54 k23 k25 (splice z5 k24 [.int .i64 (IntKind.wrap .i64 (i17 + 1))]) → ((i2 == 0) = true → Calls Tryz.prog 69 #[.pointer (some r)] w54 fun e21 w55 => ∃ s15 : ByteArray, ∃ i18 : Int, e21 = (.returned (.tuple #[.string s15, .int .i64 i18])) ∧
 Same [k0, k1, k2] w54 w55 ∧
 ∀ w56 : World, Only [k0] w55 w56 → Calls Tryz.prog 36 #[.pointer (some r), .int .i64 4, .string (ByteArray.mk #[59])] w56 fun e22 w57 => e22 = (.returned (.tuple #[])) ∧
 Same [k0, k1, k2] w56 w57 ∧
 J3 true i3 s3 s15 s5 l5 l6 l7 l8 i4 b6 b7 true w57) ∧
 ((i2 == 0) = false → ((i2 == 1) = true → Calls Tryz.prog 73 #[.pointer (some r)] w54 fun e23 w58 => ∃ l23 : Sl, e23 = (.returned l23.v) ∧
 Same [k0, k1, k2] w54 w58 ∧
 ∀ w59 : World, Only [k0] w58 w59 → J3 true i3 s3 s4 s5 l23 l6 l7 l8 i4 b6 b7 true w59) ∧
 ((i2 == 1) = false → ((i2 == 2) = true → Calls Tryz.prog 73 #[.pointer (some r)] w54 fun e24 w60 => ∃ l24 : Sl, e24 = (.returned l24.v) ∧
 Same [k0, k1, k2] w54 w60 ∧
 ∀ w61 : World, Only [k0] w60 w61 → J3 true i3 s3 s4 s5 l5 l24 l7 l8 i4 b6 b7 true w61) ∧
 ((i2 == 2) = false → J3 true i3 s3 s4 s5 l5 l6 l7 l8 i4 b6 b7 true w54))))))) ∧
 (i2 = 2 → (((!b13) || b8) = true → J3 b5 i3 s3 s4 s5 l5 l6 l7 l8 i4 b6 b7 b8 w7) ∧
 (((!b13) || b8) = false → (0 ≤ i2 ∧
 i2 < 3) ∧
 ((i2 = 0 → ∀ w62 : World, Only [k2] w7 w62 → ∃ i19 : Int, Cells w62 (r.add 1) [.int .i64 i19] ∧
 ∃ k26 k27 : Nat, ∃ z6 : List Value, ∃ k28 : Nat, (r.add 1) = ⟨k26, k27, none⟩ ∧
 Blk w62 k26 k28 z6 ∧
 (k27 + 1) ≤ z6.length ∧
 k0 ≠ k26 ∧
 k1 ≠ k26 ∧
 k2 ≠ k26 ∧
 ∀ w63 : World, Only [k26] w62 w63 → Blk w63 k26 k28 (splice z6 k27 [.int .i64 (IntKind.wrap .i64 (i19 + 1))]) → ((i2 == 0) = true → Calls Tryz.prog 69 #[.pointer (some r)] w63 fun e25 w64 => ∃ s16 : ByteArray, ∃ i20 : Int, e25 = (.returned (.tuple #[.string s16, .int .i64 i20])) ∧
 Same [k0, k1, k2] w63 w64 ∧
 ∀ w65 : World, Only [k0] w64 w65 → Calls Tryz.prog 36 #[.pointer (some r), .int .i64 4, .string (ByteArray.mk #[59])] w65 fun e26 w66 => e26 = (.returned (.tuple #[])) ∧
 Same [k0, k1, k2] w65 w66 ∧
 J3 true i3 s3 s16 s5 l5 l6 l7 l8 i4 true b7 b8 w66) ∧
 ((i2 == 0) = false → ((i2 == 1) = true → Calls Tryz.prog 73 #[.pointer (some r)] w63 fun e27 w67 => ∃ l25 : Sl, e27 = (.returned l25.v) ∧
 Same [k0, k1, k2] w63 w67 ∧
 ∀ w68 : World, Only [k0] w67 w68 → J3 true i3 s3 s4 s5 l25 l6 l7 l8 i4 true b7 b8 w68) ∧
 ((i2 == 1) = false → ((i2 == 2) = true → Calls Tryz.prog 73 #[.pointer (some r)] w63 fun e28 w69 => ∃ l26 : Sl, e28 = (.returned l26.v) ∧
 Same [k0, k1, k2] w63 w69 ∧
 ∀ w70 : World, Only [k0] w69 w70 → J3 true i3 s3 s4 s5 l5 l26 l7 l8 i4 true b7 b8 w70) ∧
 ((i2 == 2) = false → J3 true i3 s3 s4 s5 l5 l6 l7 l8 i4 true b7 b8 w63)))) ∧
 (i2 = 1 → ∀ w71 : World, Only [k2] w7 w71 → ∃ i21 : Int, Cells w71 (r.add 1) [.int .i64 i21] ∧
 ∃ k29 k30 : Nat, ∃ z7 : List Value, ∃ k31 : Nat, (r.add 1) = ⟨k29, k30, none⟩ ∧
 Blk w71 k29 k31 z7 ∧
 (k30 + 1) ≤ z7.length ∧
 k0 ≠ k29 ∧
 k1 ≠ k29 ∧
 k2 ≠ k29 ∧
 ∀ w72 : World, Only [k29] w71 w72 → Blk w72 k29 k31 (splice z7 k30 [.int .i64 (IntKind.wrap .i64 (i21 + 1))]) → ((i2 == 0) = true → Calls Tryz.prog 69 #[.pointer (some r)] w72 fun e29 w73 => ∃ s17 : ByteArray, ∃ i22 : Int, e29 = (.returned (.tuple #[.string s17, .int .i64 i22])) ∧
 Same [k0, k1, k2] w72 w73 ∧
 ∀ w74 : World, Only [k0] w73 w74 → Calls Tryz.prog 36 #[.pointer (some r), .int .i64 4, .string (ByteArray.mk #[59])] w74 fun e30 w75 => e30 = (.returned (.tuple #[])) ∧
 Same [k0, k1, k2] w74 w75 ∧
 J3 true i3 s3 s17 s5 l5 l6 l7 l8 i4 b6 true b8 w75) ∧
 ((i2 == 0) = false → ((i2 == 1) = true → Calls Tryz.prog 73 #[.pointer (some r)] w72 fun e31 w76 => ∃ l27 : Sl, e31 = (.returned l27.v) ∧
 Same [k0, k1, k2] w72 w76 ∧
 ∀ w77 : World, Only [k0] w76 w77 → J3 true i3 s3 s4 s5 l27 l6 l7 l8 i4 b6 true b8 w77) ∧
 ((i2 == 1) = false → ((i2 == 2) = true → Calls Tryz.prog 73 #[.pointer (some r)] w72 fun e32 w78 => ∃ l28 : Sl, e32 = (.returned l28.v) ∧
 Same [k0, k1, k2] w72 w78 ∧
 ∀ w79 : World, Only [k0] w78 w79 → J3 true i3 s3 s4 s5 l5 l28 l7 l8 i4 b6 true b8 w79) ∧
 ((i2 == 2) = false → J3 true i3 s3 s4 s5 l5 l6 l7 l8 i4 b6 true b8 w72))))) ∧
 (i2 = 2 → ∀ w80 : World, Only [k2] w7 w80 → ∃ i23 : Int, Cells w80 (r.add 1) [.int .i64 i23] ∧
 ∃ k32 k33 : Nat, ∃ z8 : List Value, ∃ k34 : Nat, (r.add 1) = ⟨k32, k33, none⟩ ∧
 Blk w80 k32 k34 z8 ∧
 (k33 + 1) ≤ z8.length ∧
 k0 ≠ k32 ∧
 k1 ≠ k32 ∧
 k2 ≠ k32 ∧
 ∀ w81 : World, Only [k32] w80 w81 → Blk w81 k32 k34 (splice z8 k33 [.int .i64 (IntKind.wrap .i64 (i23 + 1))]) → ((i2 == 0) = true → Calls Tryz.prog 69 #[.pointer (some r)] w81 fun e33 w82 => ∃ s18 : ByteArray, ∃ i24 : Int, e33 = (.returned (.tuple #[.string s18, .int .i64 i24])) ∧
 Same [k0, k1, k2] w81 w82 ∧
 ∀ w83 : World, Only [k0] w82 w83 → Calls Tryz.prog 36 #[.pointer (some r), .int .i64 4, .string (ByteArray.mk #[59])] w83 fun e34 w84 => e34 = (.returned (.tuple #[])) ∧
 Same [k0, k1, k2] w83 w84 ∧
 J3 true i3 s3 s18 s5 l5 l6 l7 l8 i4 b6 b7 true w84) ∧
 ((i2 == 0) = false → ((i2 == 1) = true → Calls Tryz.prog 73 #[.pointer (some r)] w81 fun e35 w85 => ∃ l29 : Sl, e35 = (.returned l29.v) ∧
 Same [k0, k1, k2] w81 w85 ∧
 ∀ w86 : World, Only [k0] w85 w86 → J3 true i3 s3 s4 s5 l29 l6 l7 l8 i4 b6 b7 true w86) ∧
 ((i2 == 1) = false → ((i2 == 2) = true → Calls Tryz.prog 73 #[.pointer (some r)] w81 fun e36 w87 => ∃ l30 : Sl, e36 = (.returned l30.v) ∧
 Same [k0, k1, k2] w81 w87 ∧
 ∀ w88 : World, Only [k0] w87 w88 → J3 true i3 s3 s4 s5 l5 l30 l7 l8 i4 b6 b7 true w88) ∧
 ((i2 == 2) = false → J3 true i3 s3 s4 s5 l5 l6 l7 l8 i4 b6 b7 true w81))))))) ∧
 (0 ≤ i2 ∧
 i2 < 3) ∧
 ((i2 = 0 → ((b13 && b6) = true → Calls Tryz.prog 40 #[.pointer (some r)] w6 fun e37 w89 => e37 = (.returned (.tuple #[])) ∧
 Same [k0, k1, k2] w6 w89 ∧
 J4 w89) ∧
 ((b13 && b6) = false → J4 w6)) ∧
 (i2 = 1 → ((b13 && b7) = true → Calls Tryz.prog 40 #[.pointer (some r)] w6 fun e38 w90 => e38 = (.returned (.tuple #[])) ∧
 Same [k0, k1, k2] w6 w90 ∧
 J4 w90) ∧
 ((b13 && b7) = false → J4 w6))) ∧
 (i2 = 2 → ((b13 && b8) = true → Calls Tryz.prog 40 #[.pointer (some r)] w6 fun e39 w91 => e39 = (.returned (.tuple #[])) ∧
 Same [k0, k1, k2] w6 w91 ∧
 J4 w91) ∧
 ((b13 && b8) = false → J4 w6))) ∧
 ((decide (i2 < 3)) = false → Calls Tryz.prog 74 #[.pointer (some r)] w4 fun e40 w92 => ∃ i25 : Int, e40 = (.returned (.int .i64 i25)) ∧
 Same [k0, k1, k2] w4 w92 ∧
 ((decide (i25 > 0)) = true → Calls Tryz.prog 75 #[.pointer (some r), .int .i64 i25] w92 fun e41 w93 => ∃ i26 : Int, ∃ s19 : ByteArray, ∃ i27 : Int, ∃ b14 : Bool, ∃ i28 i29 : Int, ∃ s20 : ByteArray, ∃ i30 : Int, ∃ l31 : Sl, ∃ i31 : Int, ∃ l32 l33 : Sl, ∃ i32 : Int, e41 = (.returned (.agg #[.int .i64 i26, .string s19, .int .i64 i27, .bool b14, .int .i64 i28, .int .i64 i29, .string s20, .int .i64 i30, l31.v, .int .i64 i31, l32.v, l33.v, .int .i64 i32])) ∧
 Same [k0, k1, k2] w92 w93 ∧
 ∀ k35 : Nat, ∀ w94 : World, w93.heap.size ≤ k35 → k35 < w94.heap.size → Only [] w93 w94 → ∃ l34 : Sl, ∃ w95 : World, ((Instr.buildSlice 42 1 #[.mk 0 (.agg #[.int .i64 i26, .string s19, .int .i64 i27, .bool b14, .int .i64 i28, .int .i64 i29, .string s20, .int .i64 i30, l31.v, .int .i64 i31, l32.v, l33.v, .int .i64 i32])]).run Tryz.prog w94) = (.ok l34.v w95) ∧
 Same [k0, k1, k2, k35] w94 w95 ∧
 ∃ l35 : Sl, ∃ w96 : World, ((Builtin.append_ #[42, 42] 42 #[l7.v, l34.v]).run Tryz.prog w95) = (.ok l35.v w96) ∧
 Same [k0, k1, k2, k35] w95 w96 ∧
 ∀ w97 : World, Only [k0] w96 w97 → ∃ k36 : Nat, k36 < k4 ∧
 J0 k36 true i3 s3 s4 s5 l5 l6 l35 l8 i4 b6 b7 b8 w97) ∧
 ((decide (i25 > 0)) = false → ∃ k37 : Nat, k37 < k4 ∧
 J0 k37 b5 i3 s3 s4 s5 l5 l6 l7 l8 i4 b6 b7 b8 w92))) ∧
 (b4 = false → ∃ J5 : Int → ByteArray → ByteArray → ByteArray → Sl → Sl → Sl → Sl → Int → World → Prop, (∀ i33 : Int, ∀ s21 s22 s23 : ByteArray, ∀ l36 l37 l38 l39 : Sl, ∀ i34 : Int, ∀ w98 : World, J5 i33 s21 s22 s23 l36 l37 l38 l39 i34 w98 → ∀ w99 : World, Only [k1] w98 w99 → R (.agg #[.int .i64 i33, .string s21, .string s22, .string s23, l36.v, l37.v, l38.v, l39.v, .int .i64 i34]) w99) ∧
 ∃ J6 : Nat → Int → ByteArray → ByteArray → ByteArray → Sl → Sl → Sl → Sl → Int → World → Prop, ∃ k38 : Nat, J6 k38 i0 s0 s1 s2 l1 l2 l3 l4 i1 w3 ∧
 ∀ k39 : Nat, ∀ i35 : Int, ∀ s24 s25 s26 : ByteArray, ∀ l40 l41 l42 l43 : Sl, ∀ i36 : Int, ∀ w100 : World, J6 k39 i35 s24 s25 s26 l40 l41 l42 l43 i36 w100 → ∃ i37 : Int, Cells w100 ((r.add 6).add 0) [.int .i64 i37] ∧
 ((i37 == 0) = true → Calls Tryz.prog 76 #[.pointer (some r)] w100 fun e42 w101 => ∃ i38 : Int, e42 = (.returned (.int .i64 i38)) ∧
 Same [k0, k1, k2] w100 w101 ∧
 ((i38 == 0) = true → J5 i35 s24 s25 s26 l40 l41 l42 l43 i36 w101) ∧
 ((i38 == 0) = false → Calls Tryz.prog 77 #[.pointer (some r), .int .i64 i38] w101 fun e43 w102 => ∃ i39 : Int, ∃ s27 s28 s29 : ByteArray, ∃ l44 l45 l46 l47 : Sl, ∃ i40 : Int, e43 = (.returned (.agg #[.int .i64 i39, .string s27, .string s28, .string s29, l44.v, l45.v, l46.v, l47.v, .int .i64 i40])) ∧
 Same [k0, k1, k2] w101 w102 ∧
 ∀ k40 : Nat, ∀ w103 : World, w102.heap.size ≤ k40 → k40 < w103.heap.size → Only [] w102 w103 → ∃ l48 : Sl, ∃ w104 : World, ((Instr.buildSlice 43 1 #[.mk 0 (.agg #[.int .i64 i39, .string s27, .string s28, .string s29, l44.v, l45.v, l46.v, l47.v, .int .i64 i40])]).run Tryz.prog w103) = (.ok l48.v w104) ∧
 Same [k0, k1, k2, k40] w103 w104 ∧
 ∃ l49 : Sl, ∃ w105 : World, ((Builtin.append_ #[43, 43] 43 #[l43.v, l48.v]).run Tryz.prog w104) = (.ok l49.v w105) ∧
 Same [k0, k1, k2, k40] w104 w105 ∧
 ∀ w106 : World, Only [k0] w105 w106 → ∃ k41 : Nat, k41 < k39 ∧
 J6 k41 i35 s24 s25 s26 l40 l41 l42 l49 i36 w106)) ∧
 ((i37 == 0) = false → J5 i35 s24 s25 s26 l40 l41 l42 l43 i36 w100))) ∧
 (b0 = true → Calls Tryz.prog 71 #[.pointer (some r)] w2 fun e44 w107 => ∃ b15 : Bool, e44 = (.returned (.bool b15)) ∧
 Same [k0, k1, k2] w2 w107 ∧
 J1 b15 w107) ∧
 (b0 = false → J1 false w2)
theorem pavaneref07_reader_body_wp (r : Addr) (n_ : Int) (n_1 n_2 n_3 : ByteArray) (n_4 n_5 n_6 n_7 : Sl) (n_8 : Int) (R : Value → World → Prop) (w : World) (h : pavaneref07_reader_body_vc r n_ n_1 n_2 n_3 n_4 n_5 n_6 n_7 n_8 R w) : Calls Tryz.prog 39 #[.pointer (some r), .agg #[.int .i64 n_, .string n_1, .string n_2, .string n_3, n_4.v, n_5.v, n_6.v, n_7.v, .int .i64 n_8]] w fun e w' => ∃ v, e = .returned v ∧ R v w' :=
 fn_by (an := .s .o (.s .o (.s .o (.s (.s .o (.j [0, 3, 4, 5, 6] [.s 7 .bool, .b 3 [.int .i64, .str, .str, .str, .sl, .sl, .sl, .sl, .int .i64], .b 5 [.bool, .bool, .bool]] (.s (.s (.j [0, 3, 4, 5, 6] [.s 19 .bool] .o .o) (.s .o .o)) (.s .o (.s (.s .o (.j [0, 3, 4, 5, 6] [.s 7 .bool, .s 8 (.int .i64), .b 3 [.int .i64, .str, .str, .str, .sl, .sl, .sl, .sl, .int .i64], .b 5 [.bool, .bool, .bool]] (.s (.s .o (.s .o .o)) (.j [0, 3, 4, 5, 6, 8] [.s 7 .bool, .b 3 [.int .i64, .str, .str, .str, .sl, .sl, .sl, .sl, .int .i64], .b 5 [.bool, .bool, .bool]] (.s .o (.j [0, 3, 4, 5, 6, 7, 8, 9] [] (.s .o (.s .o .o)) (.s (.s .o (.s .o .o)) (.s .o (.s .o (.s .o (.s .o (.s .o (.s (.s .o .o) (.s .o (.s .o (.s .o (.s .o .o))))))))))))) .o)) .o)) (.s .o (.s .o (.s (.s .o (.s .o .o)) .o)))))) .o)) (.j [3, 4, 5, 11] [.b 3 [.int .i64, .str, .str, .str, .sl, .sl, .sl, .sl, .int .i64]] (.j [0, 3, 4, 5, 11] [.b 3 [.int .i64, .str, .str, .str, .sl, .sl, .sl, .sl, .int .i64]] (.s (.s .o (.s .o .o)) (.s .o (.s (.s .o (.s .o .o)) (.s .o .o)))) .o) (.s .o .o)))))) (args := [.ad r, .agg (ofL [.int .i64 n_, .str n_1, .str n_2, .str n_3, .sl n_4, .sl n_5, .sl n_6, .sl n_7, .int .i64 n_8])]) Tryz.checked.mixed (by kernel_rfl) (by kernel_rfl) h
def pavaneref07_reader_wrong_vc (r : Addr) (R : Value → World → Prop) (w : World) : Prop :=
 ∃ l0 : Sl, Cells w (r.add 0) [l0.v] ∧
 ∃ i0 : Int, Cells w (r.add 1) [.int .i64 i0] ∧
 ∃ p0 : Addr, SlAt l0 i0 4 p0 ∧
 ∃ i1 : Int, Cells w (p0.add 0) [.int .i64 i1] ∧
 ((i1 == 5) = true → ∀ w0 : World, Only [] w w0 → Calls Tryz.prog 68 #[.pointer (some r), .int .i64 3] w0 fun e0 w1 => e0 = (.returned (.tuple #[])) ∧
 R (.tuple #[]) w1) ∧
 ((i1 == 5) = false → ∀ w2 : World, Only [] w w2 → Calls Tryz.prog 68 #[.pointer (some r), .int .i64 4] w2 fun e1 w3 => e1 = (.returned (.tuple #[])) ∧
 R (.tuple #[]) w3)
theorem pavaneref07_reader_wrong_wp (r : Addr) (R : Value → World → Prop) (w : World) (h : pavaneref07_reader_wrong_vc r R w) : Calls Tryz.prog 40 #[.pointer (some r)] w fun e w' => ∃ v, e = .returned v ∧ R v w' :=
 fn_by (an := .s (.s .o (.s (.s .o .o) .o)) .o) (args := [.ad r]) Tryz.checked.mixed (by kernel_rfl) (by kernel_rfl) h
def pavaneref07_SameNode_vc (a_ : Int) (a_1 a_2 a_3 : ByteArray) (a_4 a_5 a_6 a_7 : Sl) (a_8 bb : Int) (bb1 bb2 bb3 : ByteArray) (bb4 bb5 bb6 bb7 : Sl) (bb8 : Int) (at_ : Bool) (R : Value → World → Prop) (w : World) : Prop :=
 ∀ k0 k1 : Nat, ∀ w0 : World, w.heap.size ≤ k0 → k0 < w0.heap.size → w.heap.size ≤ k1 → k1 < w0.heap.size → Only [] w w0 → ((((((((a_ != bb) || (!(a_1.toList == bb1.toList))) || (!(a_2.toList == bb2.toList))) || (!(a_3.toList == bb3.toList))) || (at_ && (a_8 != bb8))) || ((a_6.n : Int) != (bb6.n : Int))) || ((a_7.n : Int) != (bb7.n : Int))) = true → R (.bool false) w0) ∧
 ((((((((a_ != bb) || (!(a_1.toList == bb1.toList))) || (!(a_2.toList == bb2.toList))) || (!(a_3.toList == bb3.toList))) || (at_ && (a_8 != bb8))) || ((a_6.n : Int) != (bb6.n : Int))) || ((a_7.n : Int) != (bb7.n : Int))) = false → Calls Tryz.prog 78 #[a_4.v, bb4.v, .bool at_] w0 fun e0 w1 => ∃ b0 : Bool, e0 = (.returned (.bool b0)) ∧
 Same [k0, k1] w0 w1 ∧
 Calls Tryz.prog 78 #[a_5.v, bb5.v, .bool at_] w1 fun e1 w2 => ∃ b1 : Bool, e1 = (.returned (.bool b1)) ∧
 Same [k0, k1] w1 w2 ∧
 (((!b0) || (!b1)) = true → R (.bool false) w2) ∧
 (((!b0) || (!b1)) = false → ∃ J0 : Nat → Int → World → Prop, ∃ k2 : Nat, J0 k2 0 w2 ∧
 ∀ k3 : Nat, ∀ i0 : Int, ∀ w3 : World, J0 k3 i0 w3 → ((decide (i0 < (a_6.n : Int))) = true → ∃ p0 : Addr, SlAt a_6 i0 13 p0 ∧
 ∀ w4 : World, Only [] w3 w4 → ∃ i1 : Int, ∃ s0 : ByteArray, ∃ i2 : Int, ∃ b2 : Bool, ∃ i3 i4 : Int, ∃ s1 : ByteArray, ∃ i5 : Int, ∃ l0 : Sl, ∃ i6 : Int, ∃ l1 l2 : Sl, ∃ i7 : Int, Cells w4 p0 [.int .i64 i1, .string s0, .int .i64 i2, .bool b2, .int .i64 i3, .int .i64 i4, .string s1, .int .i64 i5, l0.v, .int .i64 i6, l1.v, l2.v, .int .i64 i7] ∧
 ∃ p1 : Addr, SlAt bb6 i0 13 p1 ∧
 ∃ i8 : Int, ∃ s2 : ByteArray, ∃ i9 : Int, ∃ b3 : Bool, ∃ i10 i11 : Int, ∃ s3 : ByteArray, ∃ i12 : Int, ∃ l3 : Sl, ∃ i13 : Int, ∃ l4 l5 : Sl, ∃ i14 : Int, Cells w4 p1 [.int .i64 i8, .string s2, .int .i64 i9, .bool b3, .int .i64 i10, .int .i64 i11, .string s3, .int .i64 i12, l3.v, .int .i64 i13, l4.v, l5.v, .int .i64 i14] ∧
 Calls Tryz.prog 79 #[.agg #[.int .i64 i1, .string s0, .int .i64 i2, .bool b2, .int .i64 i3, .int .i64 i4, .string s1, .int .i64 i5, l0.v, .int .i64 i6, l1.v, l2.v, .int .i64 i7], .agg #[.int .i64 i8, .string s2, .int .i64 i9, .bool b3, .int .i64 i10, .int .i64 i11, .string s3, .int .i64 i12, l3.v, .int .i64 i13, l4.v, l5.v, .int .i64 i14], .bool at_] w4 fun e2 w5 => ∃ b4 : Bool, e2 = (.returned (.bool b4)) ∧
 Same [k0, k1] w4 w5 ∧
 ((!b4) = true → R (.bool false) w5) ∧
 ((!b4) = false → ∃ k4 : Nat, k4 < k3 ∧
 J0 k4 (IntKind.wrap .i64 (i0 + 1)) w5)) ∧
 ((decide (i0 < (a_6.n : Int))) = false → ∃ J1 : Nat → Int → World → Prop, ∃ k5 : Nat, J1 k5 0 w3 ∧
 ∀ k6 : Nat, ∀ i15 : Int, ∀ w6 : World, J1 k6 i15 w6 → ((decide (i15 < (a_7.n : Int))) = true → ∃ p2 : Addr, SlAt a_7 i15 9 p2 ∧
 ∀ w7 : World, Only [] w6 w7 → ∃ i16 : Int, ∃ s4 s5 s6 : ByteArray, ∃ l6 l7 l8 l9 : Sl, ∃ i17 : Int, Cells w7 p2 [.int .i64 i16, .string s4, .string s5, .string s6, l6.v, l7.v, l8.v, l9.v, .int .i64 i17] ∧
 ∃ p3 : Addr, SlAt bb7 i15 9 p3 ∧
 ∃ i18 : Int, ∃ s7 s8 s9 : ByteArray, ∃ l10 l11 l12 l13 : Sl, ∃ i19 : Int, Cells w7 p3 [.int .i64 i18, .string s7, .string s8, .string s9, l10.v, l11.v, l12.v, l13.v, .int .i64 i19] ∧
 Calls Tryz.prog 41 #[.agg #[.int .i64 i16, .string s4, .string s5, .string s6, l6.v, l7.v, l8.v, l9.v, .int .i64 i17], .agg #[.int .i64 i18, .string s7, .string s8, .string s9, l10.v, l11.v, l12.v, l13.v, .int .i64 i19], .bool at_] w7 fun e3 w8 => ∃ b5 : Bool, e3 = (.returned (.bool b5)) ∧
 Same [k0, k1] w7 w8 ∧
 ((!b5) = true → R (.bool false) w8) ∧
 ((!b5) = false → ∃ k7 : Nat, k7 < k6 ∧
 J1 k7 (IntKind.wrap .i64 (i15 + 1)) w8)) ∧
 ((decide (i15 < (a_7.n : Int))) = false → R (.bool true) w6))))
theorem pavaneref07_SameNode_wp (a_ : Int) (a_1 a_2 a_3 : ByteArray) (a_4 a_5 a_6 a_7 : Sl) (a_8 bb : Int) (bb1 bb2 bb3 : ByteArray) (bb4 bb5 bb6 bb7 : Sl) (bb8 : Int) (at_ : Bool) (R : Value → World → Prop) (w : World) (h : pavaneref07_SameNode_vc a_ a_1 a_2 a_3 a_4 a_5 a_6 a_7 a_8 bb bb1 bb2 bb3 bb4 bb5 bb6 bb7 bb8 at_ R w) : Calls Tryz.prog 41 #[.agg #[.int .i64 a_, .string a_1, .string a_2, .string a_3, a_4.v, a_5.v, a_6.v, a_7.v, .int .i64 a_8], .agg #[.int .i64 bb, .string bb1, .string bb2, .string bb3, bb4.v, bb5.v, bb6.v, bb7.v, .int .i64 bb8], .bool at_] w fun e w' => ∃ v, e = .returned v ∧ R v w' :=
 fn_by (an := .s .o (.s (.s .o (.s (.s .o .o) .o)) (.s .o (.s .o (.s (.s .o (.s (.s .o .o) .o)) (.s (.s .o (.j [2, 3, 4] [.s 9 (.int .i64)] (.s (.s .o (.s .o .o)) (.s (.s .o (.s .o (.s (.s .o .o) .o))) .o)) .o)) (.s (.s .o (.j [2, 3, 4] [.s 11 (.int .i64)] (.s (.s .o (.s .o .o)) (.s (.s .o (.s .o (.s (.s .o .o) .o))) .o)) .o)) (.s .o .o)))))))) (args := [.agg (ofL [.int .i64 a_, .str a_1, .str a_2, .str a_3, .sl a_4, .sl a_5, .sl a_6, .sl a_7, .int .i64 a_8]), .agg (ofL [.int .i64 bb, .str bb1, .str bb2, .str bb3, .sl bb4, .sl bb5, .sl bb6, .sl bb7, .int .i64 bb8]), .bt at_]) Tryz.checked.mixed (by kernel_rfl) (by kernel_rfl) h
def pavanelaw07_Spoil_vc (l : Sl) (R : Value → World → Prop) (w : World) : Prop :=
 ∃ J0 : Nat → Int → Int → World → Prop, ∃ k0 : Nat, J0 k0 0 0 w ∧
 ∀ k1 : Nat, ∀ i0 i1 : Int, ∀ w0 : World, J0 k1 i0 i1 w0 → ((decide (i1 < (l.n : Int))) = true → ∃ p0 : Addr, SlAt l i1 9 p0 ∧
 ∃ l0 : Sl, Cells w0 (p0.add 7) [l0.v] ∧
 Calls Tryz.prog 42 #[l0.v] w0 fun e0 w1 => ∃ i2 : Int, e0 = (.returned (.int .i64 i2)) ∧
 ∃ p1 : Addr, SlAt l i1 9 p1 ∧
 ∃ l1 : Sl, Cells w1 (p1.add 4) [l1.v] ∧
 Calls Tryz.prog 80 #[l1.v] w1 fun e1 w2 => e1 = (.returned (.tuple #[])) ∧
 ∃ p2 : Addr, SlAt l i1 9 p2 ∧
 ∃ l2 : Sl, Cells w2 (p2.add 5) [l2.v] ∧
 Calls Tryz.prog 80 #[l2.v] w2 fun e2 w3 => e2 = (.returned (.tuple #[])) ∧
 ∃ J1 : Nat → Int → World → Prop, ∃ k2 : Nat, J1 k2 0 w3 ∧
 ∀ k3 : Nat, ∀ i3 : Int, ∀ w4 : World, J1 k3 i3 w4 → ∃ p3 : Addr, SlAt l i1 9 p3 ∧
 ∃ l3 : Sl, Cells w4 (p3.add 6) [l3.v] ∧
 ((decide (i3 < (l3.n : Int))) = true → ∃ p4 : Addr, SlAt l i1 9 p4 ∧
 ∃ l4 : Sl, Cells w4 (p4.add 6) [l4.v] ∧
 ∃ p5 : Addr, SlAt l4 i3 13 p5 ∧
 ∃ l5 : Sl, Cells w4 ((p5.add 4).add 4) [l5.v] ∧
 Calls Tryz.prog 81 #[l5.v] w4 fun e3 w5 => ∃ i4 : Int, e3 = (.returned (.int .i64 i4)) ∧
 ∃ p6 : Addr, SlAt l i1 9 p6 ∧
 ∃ l6 : Sl, Cells w5 (p6.add 6) [l6.v] ∧
 ∃ p7 : Addr, SlAt l6 i3 13 p7 ∧
 ∃ l7 : Sl, Cells w5 (p7.add 10) [l7.v] ∧
 Calls Tryz.prog 80 #[l7.v] w5 fun e4 w6 => e4 = (.returned (.tuple #[])) ∧
 ∃ J2 : Nat → Int → World → Prop, ∃ k4 : Nat, J2 k4 0 w6 ∧
 ∀ k5 : Nat, ∀ i5 : Int, ∀ w7 : World, J2 k5 i5 w7 → ∃ p8 : Addr, SlAt l i1 9 p8 ∧
 ∃ l8 : Sl, Cells w7 (p8.add 6) [l8.v] ∧
 ∃ p9 : Addr, SlAt l8 i3 13 p9 ∧
 ∃ l9 : Sl, Cells w7 (p9.add 11) [l9.v] ∧
 ((decide (i5 < (l9.n : Int))) = true → ∃ p10 : Addr, SlAt l i1 9 p10 ∧
 ∃ l10 : Sl, Cells w7 (p10.add 6) [l10.v] ∧
 ∃ p11 : Addr, SlAt l10 i3 13 p11 ∧
 ∃ l11 : Sl, Cells w7 (p11.add 11) [l11.v] ∧
 ∃ p12 : Addr, SlAt l11 i5 1 p12 ∧
 ∃ k6 k7 : Nat, ∃ z0 : List Value, ∃ k8 : Nat, p12 = ⟨k6, k7, none⟩ ∧
 Blk w7 k6 k8 z0 ∧
 (k7 + 1) ≤ z0.length ∧
 ∀ w8 : World, Only [k6] w7 w8 → Blk w8 k6 k8 (splice z0 k7 [.string (ByteArray.mk #[115, 112, 111, 105, 108, 116])]) → ∃ k9 : Nat, k9 < k5 ∧
 J2 k9 (IntKind.wrap .i64 (i5 + 1)) w8) ∧
 ((decide (i5 < (l9.n : Int))) = false → ∃ p13 : Addr, SlAt l i1 9 p13 ∧
 ∃ l12 : Sl, Cells w7 (p13.add 6) [l12.v] ∧
 ∃ p14 : Addr, SlAt l12 i3 13 p14 ∧
 ∃ k10 k11 : Nat, ∃ z1 : List Value, ∃ k12 : Nat, p14 = ⟨k10, k11, none⟩ ∧
 Blk w7 k10 k12 z1 ∧
 (k11 + 13) ≤ z1.length ∧
 ∀ w9 : World, Only [k10] w7 w9 → Blk w9 k10 k12 (splice z1 k11 [.int .i64 0, .string (ByteArray.mk #[115, 112, 111, 105, 108, 116]), .int .i64 0, .bool false, .int .i64 0, .int .i64 0, .string (ByteArray.mk #[]), .int .i64 0, Sl.nil.v, .int .i64 0, Sl.nil.v, Sl.nil.v, .int .i64 0]) → ∃ k13 : Nat, k13 < k3 ∧
 J1 k13 (IntKind.wrap .i64 (i3 + 1)) w9)) ∧
 ((decide (i3 < (l3.n : Int))) = false → ∃ p15 : Addr, SlAt l i1 9 p15 ∧
 ∃ k14 k15 : Nat, ∃ z2 : List Value, ∃ k16 : Nat, p15 = ⟨k14, k15, none⟩ ∧
 Blk w4 k14 k16 z2 ∧
 (k15 + 9) ≤ z2.length ∧
 ∀ w10 : World, Only [k14] w4 w10 → Blk w10 k14 k16 (splice z2 k15 [.int .i64 0, .string (ByteArray.mk #[115, 112, 111, 105, 108, 116]), .string (ByteArray.mk #[]), .string (ByteArray.mk #[]), Sl.nil.v, Sl.nil.v, Sl.nil.v, Sl.nil.v, .int .i64 0]) → ∃ k17 : Nat, k17 < k1 ∧
 J0 k17 (IntKind.wrap .i64 ((IntKind.wrap .i64 (i0 + 1)) + i2)) (IntKind.wrap .i64 (i1 + 1)) w10)) ∧
 ((decide (i1 < (l.n : Int))) = false → R (.int .i64 i0) w0)
theorem pavanelaw07_Spoil_wp (l : Sl) (R : Value → World → Prop) (w : World) (h : pavanelaw07_Spoil_vc l R w) : Calls Tryz.prog 42 #[l.v] w fun e w' => ∃ v, e = .returned v ∧ R v w' :=
 fn_by (an := .s .o (.s .o (.s (.s .o (.j [0] [.s 3 (.int .i64), .s 4 (.int .i64)] (.s (.s .o (.s .o .o)) (.s (.s .o (.s .o (.s .o (.s (.s .o (.j [0, 3, 4] [.s 5 (.int .i64)] (.s (.s .o (.s .o .o)) (.s (.s .o (.s .o (.s (.s .o (.j [0, 3, 4, 5] [.s 6 (.int .i64)] (.s (.s .o (.s .o .o)) (.s .o .o)) .o)) .o))) .o)) .o)) .o)))) .o)) .o)) (.s .o .o)))) (args := [.sl l]) Tryz.checked.mixed (by kernel_rfl) (by kernel_rfl) h
def pavaneref04_blanks_vc (s : ByteArray) (at_ : Int) (R : Value → World → Prop) (w : World) : Prop :=
 ∃ J0 : Int → World → Prop, (∀ i0 : Int, ∀ w0 : World, J0 i0 w0 → R (.int .i64 i0) w0) ∧
 ∃ J1 : Nat → Int → World → Prop, ∃ k0 : Nat, J1 k0 at_ w ∧
 ∀ k1 : Nat, ∀ i1 : Int, ∀ w1 : World, J1 k1 i1 w1 → ((decide (i1 < (s.size : Int))) = true → ∃ c0 : UInt8, (0 ≤ i1 ∧
 (s[Int.toNat i1]?) = (some c0)) ∧
 ∃ c1 : UInt8, ((((UInt8.toNat c0 : Int) == 47) && (decide ((IntKind.wrap .i64 (i1 + 1)) < (s.size : Int)))) = true → 0 ≤ (IntKind.wrap .i64 (i1 + 1)) ∧
 (s[Int.toNat (IntKind.wrap .i64 (i1 + 1))]?) = (some c1)) ∧
 (((((UInt8.toNat c0 : Int) == 47) && (decide ((IntKind.wrap .i64 (i1 + 1)) < (s.size : Int)))) && ((UInt8.toNat c1 : Int) == 47)) = true → ∃ J2 : Nat → Int → World → Prop, ∃ k4 : Nat, J2 k4 i1 w1 ∧
 ∀ k5 : Nat, ∀ i2 : Int, ∀ w2 : World, J2 k5 i2 w2 → ∃ c2 : UInt8, ((decide (i2 < (s.size : Int))) = true → 0 ≤ i2 ∧
 (s[Int.toNat i2]?) = (some c2)) ∧
 (((decide (i2 < (s.size : Int))) && ((UInt8.toNat c2 : Int) != 10)) = true → ∃ k7 : Nat, k7 < k5 ∧
 J2 k7 (IntKind.wrap .i64 (i2 + 1)) w2) ∧
 (((decide (i2 < (s.size : Int))) && ((UInt8.toNat c2 : Int) != 10)) = false → ∃ k8 : Nat, k8 < k1 ∧
 J1 k8 i2 w2)) ∧
 (((((UInt8.toNat c0 : Int) == 47) && (decide ((IntKind.wrap .i64 (i1 + 1)) < (s.size : Int)))) && ((UInt8.toNat c1 : Int) == 47)) = false → ((((((UInt8.toNat c0 : Int) == 9) || ((UInt8.toNat c0 : Int) == 10)) || ((UInt8.toNat c0 : Int) == 13)) || ((UInt8.toNat c0 : Int) == 32)) = true → ∃ k9 : Nat, k9 < k1 ∧
 J1 k9 (IntKind.wrap .i64 (i1 + 1)) w1) ∧
 ((((((UInt8.toNat c0 : Int) == 9) || ((UInt8.toNat c0 : Int) == 10)) || ((UInt8.toNat c0 : Int) == 13)) || ((UInt8.toNat c0 : Int) == 32)) = false → J0 i1 w1))) ∧
 ((decide (i1 < (s.size : Int))) = false → J0 i1 w1)
theorem pavaneref04_blanks_wp (s : ByteArray) (at_ : Int) (R : Value → World → Prop) (w : World) (h : pavaneref04_blanks_vc s at_ R w) : Calls Tryz.prog 43 #[.string s, .int .i64 at_] w fun e w' => ∃ v, e = .returned v ∧ R v w' :=
 fn_by (an := .s .o (.j [] [.s 1 (.int .i64)] (.j [0] [.s 1 (.int .i64)] (.s (.s .o (.s .o .o)) (.s .o (.s .o (.s (.j [0] [.s 1 (.int .i64)] (.s (.s .o (.s .o .o)) .o) .o) (.s .o (.s .o .o)))))) .o) (.s .o .o))) (args := [.str s, .int .i64 at_]) Tryz.checked.mixed (by kernel_rfl) (by kernel_rfl) h
def pavaneref04_token_vc (s : ByteArray) (at_ : Int) (R : Value → World → Prop) (w : World) : Prop :=
 ∃ c0 : UInt8, (0 ≤ at_ ∧
 (s[Int.toNat at_]?) = (some c0)) ∧
 ∀ k1 : Nat, ∀ w0 : World, w.heap.size ≤ k1 → k1 < w0.heap.size → Only [] w w0 → Calls Tryz.prog 82 #[.int .u8 (UInt8.toNat c0 : Int)] w0 fun e0 w1 => ∃ b0 : Bool, e0 = (.returned (.bool b0)) ∧
 Same [k1] w0 w1 ∧
 ∃ c1 : UInt8, (0 ≤ at_ ∧
 (s[Int.toNat at_]?) = (some c1)) ∧
 Calls Tryz.prog 83 #[.int .u8 (UInt8.toNat c1 : Int)] w1 fun e1 w2 => ∃ b1 : Bool, e1 = (.returned (.bool b1)) ∧
 Same [k1] w1 w2 ∧
 (b0 = true → Calls Tryz.prog 84 #[.string s, .int .i64 at_] w2 fun e2 w3 => ∃ i0 : Int, e2 = (.returned (.int .i64 i0)) ∧
 Same [k1] w2 w3 ∧
 ∃ k3 k4 : Nat, (at_ = (k3 : Int) ∧
 (IntKind.wrap .i64 (at_ + i0)) = (k4 : Int) ∧
 k3 ≤ k4 ∧
 k4 ≤ s.size) ∧
 ∀ k5 : Nat, ∀ w4 : World, w3.heap.size ≤ k5 → k5 < w4.heap.size → Only [] w3 w4 → Calls Tryz.prog 85 #[.string (s.extract k3 k4)] w4 fun e3 w5 => ∃ b2 : Bool, e3 = (.returned (.bool b2)) ∧
 Same [k1, k5] w4 w5 ∧
 ∃ J0 : Int → ByteArray → Int → Int → World → Prop, (∀ i1 : Int, ∀ s2 : ByteArray, ∀ i2 i3 : Int, ∀ w6 : World, J0 i1 s2 i2 i3 w6 → ((decide (i0 > 24)) = true → ∀ w7 : World, Only [k1] w6 w7 → R (.tuple #[.agg #[.int .i64 0, .string (ByteArray.mk #[]), .int .i64 0, .int .i64 0], .int .i64 0, .int .i64 2]) w7) ∧
 ((decide (i0 > 24)) = false → ∀ w8 : World, Only [k1] w6 w8 → R (.tuple #[.agg #[.int .i64 i1, .string s2, .int .i64 i2, .int .i64 i3], .int .i64 i0, .int .i64 0]) w8)) ∧
 (b2 = true → ∀ w9 : World, Only [k5] w5 w9 → J0 2 (s.extract k3 k4) 0 at_ w9) ∧
 (b2 = false → J0 1 (s.extract k3 k4) 0 at_ w5)) ∧
 (b0 = false → (b1 = true → ∃ k6 : Nat, (at_ = (k6 : Int) ∧
 k6 ≤ s.size) ∧
 Calls Tryz.prog 86 #[.string (s.extract k6 s.size)] w2 fun e4 w10 => ∃ i4 i5 i6 : Int, e4 = (.returned (.tuple #[.int .i64 i4, .int .i64 i5, .int .i64 i6])) ∧
 Same [k1] w2 w10 ∧
 ((i6 != 0) = true → ∀ w11 : World, Only [k1] w10 w11 → R (.tuple #[.agg #[.int .i64 0, .string (ByteArray.mk #[]), .int .i64 0, .int .i64 0], .int .i64 0, .int .i64 i6]) w11) ∧
 ((i6 != 0) = false → Calls Tryz.prog 84 #[.string s, .int .i64 at_] w10 fun e5 w12 => ∃ i7 : Int, e5 = (.returned (.int .i64 i7)) ∧
 Same [k1] w10 w12 ∧
 ((decide (i7 > i5)) = true → ∀ w13 : World, Only [k1] w12 w13 → R (.tuple #[.agg #[.int .i64 0, .string (ByteArray.mk #[]), .int .i64 0, .int .i64 0], .int .i64 0, .int .i64 4]) w13) ∧
 ((decide (i7 > i5)) = false → ∀ w14 : World, Only [k1] w12 w14 → R (.tuple #[.agg #[.int .i64 3, .string (ByteArray.mk #[]), .int .i64 i4, .int .i64 at_], .int .i64 i5, .int .i64 0]) w14))) ∧
 (b1 = false → Calls Tryz.prog 87 #[.string s, .int .i64 at_] w2 fun e6 w15 => ∃ i8 : Int, e6 = (.returned (.int .i64 i8)) ∧
 Same [k1] w2 w15 ∧
 ((i8 == 0) = true → ∀ w16 : World, Only [k1] w15 w16 → R (.tuple #[.agg #[.int .i64 0, .string (ByteArray.mk #[]), .int .i64 0, .int .i64 0], .int .i64 0, .int .i64 4]) w16) ∧
 ((i8 == 0) = false → ∃ k7 k8 : Nat, (at_ = (k7 : Int) ∧
 (IntKind.wrap .i64 (at_ + i8)) = (k8 : Int) ∧
 k7 ≤ k8 ∧
 k8 ≤ s.size) ∧
 ∀ w17 : World, Only [k1] w15 w17 → R (.tuple #[.agg #[.int .i64 4, .string (s.extract k7 k8), .int .i64 0, .int .i64 at_], .int .i64 i8, .int .i64 0]) w17)))
theorem pavaneref04_token_wp (s : ByteArray) (at_ : Int) (R : Value → World → Prop) (w : World) (h : pavaneref04_token_vc s at_ R w) : Calls Tryz.prog 44 #[.string s, .int .i64 at_] w fun e w' => ∃ v, e = .returned v ∧ R v w' :=
 fn_by (an := .s .o (.s .o (.s .o (.s (.s .o (.s (.s .o (.s .o (.s .o (.j [4, 9, 10] [.b 10 [.int .i64, .str, .int .i64, .int .i64]] (.s .o (.s .o .o)) (.s (.s .o (.s (.s .o .o) .o)) (.s .o .o)))))) .o)) (.s (.s .o (.s (.s .o (.s (.s .o (.s (.s .o .o) .o)) (.s (.s .o (.s (.s .o .o) .o)) (.s .o .o)))) .o)) (.s .o (.s (.s .o (.s (.s .o .o) .o)) (.s .o .o)))))))) (args := [.str s, .int .i64 at_]) Tryz.checked.mixed (by kernel_rfl) (by kernel_rfl) h
def syntax_reader_uses_vc (r : Addr) (left_ : Option Addr) (err : Int) (R : Value → World → Prop) (w : World) : Prop :=
 ∃ J0 : World → Prop, (∀ w0 : World, J0 w0 → ∃ p0 : Addr, left_ = (some p0) ∧
 ∃ i0 : Int, Cells w0 p0 [.int .i64 i0] ∧
 ∃ p1 : Addr, left_ = (some p1) ∧
 ∃ k0 k1 : Nat, ∃ z0 : List Value, ∃ k2 : Nat, p1 = ⟨k0, k1, none⟩ ∧
 Blk w0 k0 k2 z0 ∧
 (k1 + 1) ≤ z0.length ∧
 ∀ w1 : World, Only [k0] w0 w1 → Blk w1 k0 k2 (splice z0 k1 [.int .i64 (IntKind.wrap .i64 (i0 - 1))]) → R (.tuple #[]) w1) ∧
 ∃ p2 : Addr, left_ = (some p2) ∧
 ∃ i1 : Int, Cells w p2 [.int .i64 i1] ∧
 ((i1 == 0) = true → Calls Tryz.prog 62 #[.pointer (some (r.add 0)), .int .i64 err] w fun e0 w2 => e0 = (.returned (.tuple #[])) ∧
 J0 w2) ∧
 ((i1 == 0) = false → J0 w)
theorem syntax_reader_uses_wp (r : Addr) (left_ : Option Addr) (err : Int) (R : Value → World → Prop) (w : World) (h : syntax_reader_uses_vc r left_ err R w) : Calls Tryz.prog 61 #[.pointer (some r), .pointer left_, .int .i64 err] w fun e w' => ∃ v, e = .returned v ∧ R v w' :=
 fn_by (an := .j [1] [] (.s .o (.s .o .o)) .o) (args := [.ad r, .ptr left_, .int .i64 err]) Tryz.checked.mixed (by kernel_rfl) (by kernel_rfl) h
def syntax_cursor_stop_vc (c : Addr) (err : Int) (R : Value → World → Prop) (w : World) : Prop :=
 Calls Tryz.prog 34 #[.pointer (some c)] w fun e0 w0 => ∃ b0 : Bool, e0 = (.returned (.bool b0)) ∧
 (b0 = true → ∀ w1 : World, Only [] w0 w1 → ∃ l0 : Sl, Cells w1 (c.add 0) [l0.v] ∧
 ∃ i0 : Int, Cells w1 (c.add 1) [.int .i64 i0] ∧
 ∃ p0 : Addr, SlAt l0 i0 4 p0 ∧
 ∃ i1 : Int, Cells w1 (p0.add 3) [.int .i64 i1] ∧
 ∃ k0 k1 : Nat, ∃ z0 : List Value, ∃ k2 : Nat, (c.add 2) = ⟨k0, k1, none⟩ ∧
 Blk w1 k0 k2 z0 ∧
 (k1 + 2) ≤ z0.length ∧
 ∀ w2 : World, Only [k0] w1 w2 → Blk w2 k0 k2 (splice z0 k1 [.int .i64 err, .int .i64 i1]) → R (.tuple #[]) w2) ∧
 (b0 = false → R (.tuple #[]) w0)
theorem syntax_cursor_stop_wp (c : Addr) (err : Int) (R : Value → World → Prop) (w : World) (h : syntax_cursor_stop_vc c err R w) : Calls Tryz.prog 62 #[.pointer (some c), .int .i64 err] w fun e w' => ∃ v, e = .returned v ∧ R v w' :=
 fn_by (an := .s .o (.s .o .o)) (args := [.ad c, .int .i64 err]) Tryz.checked.mixed (by kernel_rfl) (by kernel_rfl) h
def syntax_cursor_kind_vc (c : Addr) (kind : Int) (R : Value → World → Prop) (w : World) : Prop :=
 ∀ k0 : Nat, ∀ w0 : World, w.heap.size ≤ k0 → k0 < w0.heap.size → Only [] w w0 → ∃ J0 : Nat → Prop, J0 ((c.add 0).block) ∧
 ∃ l0 : Sl, Cells w0 (c.add 0) [l0.v] ∧
 J0 ((c.add 1).block) ∧
 ∃ i0 : Int, Cells w0 (c.add 1) [.int .i64 i0] ∧
 ∃ p0 : Addr, SlAt l0 i0 4 p0 ∧
 J0 p0.block ∧
 ∃ i1 : Int, ∃ s0 : ByteArray, ∃ i2 i3 : Int, Cells w0 p0 [.int .i64 i1, .string s0, .int .i64 i2, .int .i64 i3] ∧
 ∀ k1 : Nat, ∀ w1 : World, w0.heap.size ≤ k1 → k1 < w1.heap.size → Only [] w0 w1 → Calls Tryz.prog 34 #[.pointer (some c)] w1 fun e0 w2 => ∃ b0 : Bool, e0 = (.returned (.bool b0)) ∧
 Same [k0, k1] w1 w2 ∧
 (((!b0) || (i1 != kind)) = true → Calls Tryz.prog 35 #[.pointer (some c)] w2 fun e1 w3 => e1 = (.returned (.tuple #[])) ∧
 Same [k0, k1] w2 w3 ∧
 ∀ w4 : World, Only [k0] w3 w4 → R (.agg #[.int .i64 0, .string (ByteArray.mk #[]), .int .i64 0, .int .i64 0]) w4) ∧
 (((!b0) || (i1 != kind)) = false → ∃ i4 : Int, Cells w2 (c.add 1) [.int .i64 i4] ∧
 ∃ k2 k3 : Nat, ∃ z0 : List Value, ∃ k4 : Nat, (c.add 1) = ⟨k2, k3, none⟩ ∧
 Blk w2 k2 k4 z0 ∧
 (k3 + 1) ≤ z0.length ∧
 k0 ≠ k2 ∧
 k1 ≠ k2 ∧
 ∀ w5 : World, Only [k2] w2 w5 → Blk w5 k2 k4 (splice z0 k3 [.int .i64 (IntKind.wrap .i64 (i4 + 1))]) → ∀ w6 : World, Only [k0] w5 w6 → R (.agg #[.int .i64 i1, .string s0, .int .i64 i2, .int .i64 i3]) w6)
theorem syntax_cursor_kind_wp (c : Addr) (kind : Int) (R : Value → World → Prop) (w : World) (h : syntax_cursor_kind_vc c kind R w) : Calls Tryz.prog 63 #[.pointer (some c), .int .i64 kind] w fun e w' => ∃ v, e = .returned v ∧ R v w' :=
 fn_by (an := .s .o (.s .o (.s (.s .o (.s (.s .o (.s .o .o)) .o)) (.s .o (.s .o .o))))) (args := [.ad c, .int .i64 kind]) Tryz.checked.mixed (by kernel_rfl) (by kernel_rfl) h
def syntax_cursor_which_vc (c : Addr) (texts : Sl) (R : Value → World → Prop) (w : World) : Prop :=
 ∀ w0 : World, Only [] w w0 → ∃ J0 : Nat → Prop, J0 ((c.add 0).block) ∧
 ∃ l0 : Sl, Cells w0 (c.add 0) [l0.v] ∧
 J0 ((c.add 1).block) ∧
 ∃ i0 : Int, Cells w0 (c.add 1) [.int .i64 i0] ∧
 ∃ p0 : Addr, SlAt l0 i0 4 p0 ∧
 J0 p0.block ∧
 ∃ i1 : Int, ∃ s0 : ByteArray, ∃ i2 i3 : Int, Cells w0 p0 [.int .i64 i1, .string s0, .int .i64 i2, .int .i64 i3] ∧
 ∀ k0 : Nat, ∀ w1 : World, w0.heap.size ≤ k0 → k0 < w1.heap.size → Only [] w0 w1 → Calls Tryz.prog 34 #[.pointer (some c)] w1 fun e0 w2 => ∃ b0 : Bool, e0 = (.returned (.bool b0)) ∧
 Same [k0] w1 w2 ∧
 (((!b0) || ((i1 != 2) && (i1 != 4))) = true → R (.int .i64 0) w2) ∧
 (((!b0) || ((i1 != 2) && (i1 != 4))) = false → Calls Tryz.prog 94 #[texts.v, .string s0] w2 fun e1 w3 => ∃ i4 : Int, e1 = (.returned (.int .i64 i4)) ∧
 Same [k0] w2 w3 ∧
 R (.int .i64 (IntKind.wrap .i64 (i4 + 1))) w3)
theorem syntax_cursor_which_wp (c : Addr) (texts : Sl) (R : Value → World → Prop) (w : World) (h : syntax_cursor_which_vc c texts R w) : Calls Tryz.prog 64 #[.pointer (some c), texts.v] w fun e w' => ∃ v, e = .returned v ∧ R v w' :=
 fn_by (an := .s .o (.s .o (.s (.s .o (.s (.s .o .o) .o)) (.s .o .o)))) (args := [.ad c, .sl texts]) Tryz.checked.mixed (by kernel_rfl) (by kernel_rfl) h
def syntax_reader_clause_vc (r : Addr) (n_ : Option Addr) (had : Option Addr) (R : Value → World → Prop) (w : World) : Prop :=
 ∃ l0 : Sl, ∃ w0 : World, ((Instr.buildSlice 25 3 #[.mk 0 (.string (ByteArray.mk #[111, 110])), .mk 1 (.string (ByteArray.mk #[97, 108, 119, 97, 121, 115])), .mk 2 (.string (ByteArray.mk #[97, 102, 116, 101, 114]))]).run Tryz.prog w) = (.ok l0.v w0) ∧
 Calls Tryz.prog 64 #[.pointer (some (r.add 0)), l0.v] w0 fun e0 w1 => ∃ i0 : Int, e0 = (.returned (.int .i64 i0)) ∧
 ((decide (i0 > 0)) = true → ∀ w2 : World, Only [] w1 w2 → ∃ J0 : Nat → Prop, ∃ p0 : Addr, n_ = (some p0) ∧
 J0 ((p0.add 6).block) ∧
 ∃ l1 : Sl, Cells w2 (p0.add 6) [l1.v] ∧
 Calls Tryz.prog 107 #[.pointer (some r), .int .i64 i0] w2 fun e1 w3 => ∃ i1 : Int, ∃ s0 : ByteArray, ∃ i2 : Int, ∃ b0 : Bool, ∃ i3 i4 : Int, ∃ s1 : ByteArray, ∃ i5 : Int, ∃ l2 : Sl, ∃ i6 : Int, ∃ l3 l4 : Sl, ∃ i7 : Int, e1 = (.returned (.agg #[.int .i64 i1, .string s0, .int .i64 i2, .bool b0, .int .i64 i3, .int .i64 i4, .string s1, .int .i64 i5, l2.v, .int .i64 i6, l3.v, l4.v, .int .i64 i7])) ∧
 Keeps J0 w2 w3 ∧
 ∃ l5 : Sl, ∃ w4 : World, ((Instr.buildSlice 42 1 #[.mk 0 (.agg #[.int .i64 i1, .string s0, .int .i64 i2, .bool b0, .int .i64 i3, .int .i64 i4, .string s1, .int .i64 i5, l2.v, .int .i64 i6, l3.v, l4.v, .int .i64 i7])]).run Tryz.prog w3) = (.ok l5.v w4) ∧
 Keeps J0 w3 w4 ∧
 ∃ l6 : Sl, ∃ w5 : World, ((Builtin.append_ #[42, 42] 42 #[l1.v, l5.v]).run Tryz.prog w4) = (.ok l6.v w5) ∧
 Keeps J0 w4 w5 ∧
 ∃ p1 : Addr, n_ = (some p1) ∧
 ∃ k0 k1 : Nat, ∃ z0 : List Value, ∃ k2 : Nat, (p1.add 6) = ⟨k0, k1, none⟩ ∧
 Blk w5 k0 k2 z0 ∧
 (k1 + 1) ≤ z0.length ∧
 ∀ w6 : World, Only [k0] w5 w6 → Blk w6 k0 k2 (splice z0 k1 [l6.v]) → R (.bool true) w6) ∧
 ((decide (i0 > 0)) = false → ∃ l7 : Sl, ∃ w7 : World, ((Instr.buildSlice 25 3 #[.mk 0 (.string (ByteArray.mk #[105, 110, 105, 116, 105, 97, 108])), .mk 1 (.string (ByteArray.mk #[101, 110, 116, 101, 114])), .mk 2 (.string (ByteArray.mk #[108, 101, 97, 118, 101]))]).run Tryz.prog w1) = (.ok l7.v w7) ∧
 Calls Tryz.prog 64 #[.pointer (some (r.add 0)), l7.v] w7 fun e2 w8 => ∃ i8 : Int, e2 = (.returned (.int .i64 i8)) ∧
 ((i8 == 0) = true → R (.bool false) w8) ∧
 ((i8 == 0) = false → ∃ p2 : Addr, had = (some p2) ∧
 ∃ p3 : Addr, PtrAt p2 i8 4 1 p3 ∧
 ∃ b1 : Bool, Cells w8 p3 [.bool b1] ∧
 (b1 = true → Calls Tryz.prog 35 #[.pointer (some (r.add 0))] w8 fun e3 w9 => e3 = (.returned (.tuple #[])) ∧
 R (.bool false) w9) ∧
 (b1 = false → ∃ p4 : Addr, had = (some p4) ∧
 ∃ p5 : Addr, PtrAt p4 i8 4 1 p5 ∧
 ∃ k3 k4 : Nat, ∃ z1 : List Value, ∃ k5 : Nat, p5 = ⟨k3, k4, none⟩ ∧
 Blk w8 k3 k5 z1 ∧
 (k4 + 1) ≤ z1.length ∧
 ∀ w10 : World, Only [k3] w8 w10 → Blk w10 k3 k5 (splice z1 k4 [.bool true]) → ∃ i9 : Int, Cells w10 ((r.add 0).add 1) [.int .i64 i9] ∧
 ∃ k6 k7 : Nat, ∃ z2 : List Value, ∃ k8 : Nat, ((r.add 0).add 1) = ⟨k6, k7, none⟩ ∧
 Blk w10 k6 k8 z2 ∧
 (k7 + 1) ≤ z2.length ∧
 ∀ w11 : World, Only [k6] w10 w11 → Blk w11 k6 k8 (splice z2 k7 [.int .i64 (IntKind.wrap .i64 (i9 + 1))]) → ∃ J1 : World → Prop, (∀ w12 : World, J1 w12 → R (.bool true) w12) ∧
 ((i8 == 1) = true → Calls Tryz.prog 108 #[.pointer (some (r.add 0))] w11 fun e4 w13 => ∃ s2 : ByteArray, e4 = (.returned (.string s2)) ∧
 ∃ p6 : Addr, n_ = (some p6) ∧
 ∃ k9 k10 : Nat, ∃ z3 : List Value, ∃ k11 : Nat, (p6.add 2) = ⟨k9, k10, none⟩ ∧
 Blk w13 k9 k11 z3 ∧
 (k10 + 1) ≤ z3.length ∧
 ∀ w14 : World, Only [k9] w13 w14 → Blk w14 k9 k11 (splice z3 k10 [.string s2]) → ∃ l8 : Sl, ∃ w15 : World, ((Instr.buildSlice 25 1 #[.mk 0 (.string (ByteArray.mk #[59]))]).run Tryz.prog w14) = (.ok l8.v w15) ∧
 Calls Tryz.prog 29 #[.pointer (some (r.add 0)), l8.v] w15 fun e5 w16 => e5 = (.returned (.tuple #[])) ∧
 J1 w16) ∧
 ((i8 == 1) = false → ((i8 == 2) = true → Calls Tryz.prog 109 #[.pointer (some r)] w11 fun e6 w17 => ∃ l9 : Sl, e6 = (.returned l9.v) ∧
 ∃ p7 : Addr, n_ = (some p7) ∧
 ∃ k12 k13 : Nat, ∃ z4 : List Value, ∃ k14 : Nat, (p7.add 4) = ⟨k12, k13, none⟩ ∧
 Blk w17 k12 k14 z4 ∧
 (k13 + 1) ≤ z4.length ∧
 ∀ w18 : World, Only [k12] w17 w18 → Blk w18 k12 k14 (splice z4 k13 [l9.v]) → J1 w18) ∧
 ((i8 == 2) = false → Calls Tryz.prog 109 #[.pointer (some r)] w11 fun e7 w19 => ∃ l10 : Sl, e7 = (.returned l10.v) ∧
 ∃ p8 : Addr, n_ = (some p8) ∧
 ∃ k15 k16 : Nat, ∃ z5 : List Value, ∃ k17 : Nat, (p8.add 5) = ⟨k15, k16, none⟩ ∧
 Blk w19 k15 k17 z5 ∧
 (k16 + 1) ≤ z5.length ∧
 ∀ w20 : World, Only [k15] w19 w20 → Blk w20 k15 k17 (splice z5 k16 [l10.v]) → J1 w20)))))
theorem syntax_reader_clause_wp (r : Addr) (n_ : Option Addr) (had : Option Addr) (R : Value → World → Prop) (w : World) (h : syntax_reader_clause_vc r n_ had R w) : Calls Tryz.prog 65 #[.pointer (some r), .pointer n_, .pointer had] w fun e w' => ∃ v, e = .returned v ∧ R v w' :=
 fn_by (an := .s .o (.s (.s .o (.s .o (.s (.s .o (.s .o .o)) .o))) (.s .o (.s (.s .o (.s (.s .o .o) .o)) (.s (.s .o (.s (.s .o (.s .o .o)) .o)) (.s .o (.s .o (.j [] [] (.s .o (.s .o (.s (.s .o .o) (.s .o (.s .o .o))))) (.s .o .o))))))))) (args := [.ad r, .ptr n_, .ptr had]) Tryz.checked.mixed (by kernel_rfl) (by kernel_rfl) h
def syntax_reader_node_vc (r : Addr) (kind : Int) (R : Value → World → Prop) (w : World) : Prop :=
 ∀ k0 : Nat, ∀ w0 : World, w.heap.size ≤ k0 → k0 < w0.heap.size → Only [] w w0 → Calls Tryz.prog 30 #[.pointer (some r), .int .i64 kind] w0 fun e0 w1 => ∃ i0 : Int, ∃ s0 s1 s2 : ByteArray, ∃ l0 l1 l2 l3 : Sl, ∃ i1 : Int, e0 = (.returned (.agg #[.int .i64 i0, .string s0, .string s1, .string s2, l0.v, l1.v, l2.v, l3.v, .int .i64 i1])) ∧
 Same [k0] w0 w1 ∧
 ((decide (kind ≥ 3)) = true → ∀ k1 : Nat, ∀ w2 : World, w1.heap.size ≤ k1 → k1 < w2.heap.size → Only [] w1 w2 → ∃ l4 : Sl, ∃ w3 : World, ((Instr.buildSlice 25 1 #[.mk 0 (.string (ByteArray.mk #[45, 62]))]).run Tryz.prog w2) = (.ok l4.v w3) ∧
 Same [k0, k1] w2 w3 ∧
 Calls Tryz.prog 29 #[.pointer (some (r.add 0)), l4.v] w3 fun e1 w4 => e1 = (.returned (.tuple #[])) ∧
 Same [k0, k1] w3 w4 ∧
 Calls Tryz.prog 108 #[.pointer (some (r.add 0))] w4 fun e2 w5 => ∃ s3 : ByteArray, e2 = (.returned (.string s3)) ∧
 Same [k0, k1] w4 w5 ∧
 ∀ w6 : World, Only [k1] w5 w6 → ∃ l5 : Sl, ∃ w7 : World, ((Instr.buildSlice 25 1 #[.mk 0 (.string (ByteArray.mk #[59]))]).run Tryz.prog w6) = (.ok l5.v w7) ∧
 Same [k0, k1] w6 w7 ∧
 Calls Tryz.prog 29 #[.pointer (some (r.add 0)), l5.v] w7 fun e3 w8 => e3 = (.returned (.tuple #[])) ∧
 Same [k0, k1] w7 w8 ∧
 ∀ w9 : World, Only [k0] w8 w9 → R (.agg #[.int .i64 i0, .string s0, .string s1, .string s3, l0.v, l1.v, l2.v, l3.v, .int .i64 i1]) w9) ∧
 ((decide (kind ≥ 3)) = false → ∀ k2 : Nat, ∀ w10 : World, w1.heap.size ≤ k2 → k2 < w10.heap.size → Only [] w1 w10 → ∃ l6 : Sl, ∃ w11 : World, ((Instr.buildSlice 25 1 #[.mk 0 (.string (ByteArray.mk #[123]))]).run Tryz.prog w10) = (.ok l6.v w11) ∧
 Same [k0, k2] w10 w11 ∧
 Calls Tryz.prog 29 #[.pointer (some (r.add 0)), l6.v] w11 fun e4 w12 => e4 = (.returned (.tuple #[])) ∧
 Same [k0, k2] w11 w12 ∧
 (Blk w12 k2 45 [.int .i64 i0, .string s0, .string s1, .string s2, l0.v, l1.v, l2.v, l3.v, .int .i64 i1] → k0 ≠ k2 → Calls Tryz.prog 33 #[.pointer (some r), .pointer (some ⟨k2, 0, none⟩)] w12 fun e5 w13 => e5 = (.returned (.tuple #[])) ∧
 Same [k0] w12 w13 ∧
 ∃ i2 : Int, ∃ s4 s5 s6 : ByteArray, ∃ l7 l8 l9 l10 : Sl, ∃ i3 : Int, Blk w13 k2 45 [.int .i64 i2, .string s4, .string s5, .string s6, l7.v, l8.v, l9.v, l10.v, .int .i64 i3] ∧
 ∀ w14 : World, Only [k0] w13 w14 → Blk w14 k2 45 [.int .i64 i2, .string s4, .string s5, .string s6, l7.v, l8.v, l9.v, l10.v, .int .i64 i3] → R (.agg #[.int .i64 i2, .string s4, .string s5, .string s6, l7.v, l8.v, l9.v, l10.v, .int .i64 i3]) w14))
theorem syntax_reader_node_wp (r : Addr) (kind : Int) (R : Value → World → Prop) (w : World) (h : syntax_reader_node_vc r kind R w) : Calls Tryz.prog 66 #[.pointer (some r), .int .i64 kind] w fun e w' => ∃ v, e = .returned v ∧ R v w' :=
 fn_by (an := .s .o (.s .o (.s (.s .o (.s (.s .o (.s .o (.s .o (.s .o .o)))) .o)) (.s .o (.s .o (.s .o .o)))))) (args := [.ad r, .int .i64 kind]) Tryz.checked.mixed (by kernel_rfl) (by kernel_rfl) h
def pavaneref07_reader_pass_vc (r : Addr) (kind : Int) (text : ByteArray) (R : Value → World → Prop) (w : World) : Prop :=
 Calls Tryz.prog 72 #[.pointer (some r), .int .i64 kind, .string text] w fun e0 w0 => ∃ b0 : Bool, e0 = (.returned (.bool b0)) ∧
 ∃ J0 : World → Prop, (∀ w1 : World, J0 w1 → R (.bool b0) w1) ∧
 (b0 = true → ∃ i0 : Int, Cells w0 (r.add 1) [.int .i64 i0] ∧
 ∃ k0 k1 : Nat, ∃ z0 : List Value, ∃ k2 : Nat, (r.add 1) = ⟨k0, k1, none⟩ ∧
 Blk w0 k0 k2 z0 ∧
 (k1 + 1) ≤ z0.length ∧
 ∀ w2 : World, Only [k0] w0 w2 → Blk w2 k0 k2 (splice z0 k1 [.int .i64 (IntKind.wrap .i64 (i0 + 1))]) → J0 w2) ∧
 (b0 = false → J0 w0)
theorem pavaneref07_reader_pass_wp (r : Addr) (kind : Int) (text : ByteArray) (R : Value → World → Prop) (w : World) (h : pavaneref07_reader_pass_vc r kind text R w) : Calls Tryz.prog 67 #[.pointer (some r), .int .i64 kind, .string text] w fun e w' => ∃ v, e = .returned v ∧ R v w' :=
 fn_by (an := .s .o (.s .o (.j [7] [] (.s .o (.s .o .o)) (.s .o .o)))) (args := [.ad r, .int .i64 kind, .str text]) Tryz.checked.mixed (by kernel_rfl) (by kernel_rfl) h
def pavaneref07_reader_stop_vc (r : Addr) (e_ : Int) (R : Value → World → Prop) (w : World) : Prop :=
 ∃ i0 : Int, Cells w ((r.add 6).add 0) [.int .i64 i0] ∧
 ((i0 == 0) = true → ∀ w0 : World, Only [] w w0 → ∃ l0 : Sl, Cells w0 (r.add 0) [l0.v] ∧
 ∃ i1 : Int, Cells w0 (r.add 1) [.int .i64 i1] ∧
 ∃ p0 : Addr, SlAt l0 i1 4 p0 ∧
 ∃ i2 : Int, Cells w0 (p0.add 3) [.int .i64 i2] ∧
 ∃ k0 k1 : Nat, ∃ z0 : List Value, ∃ k2 : Nat, (r.add 6) = ⟨k0, k1, none⟩ ∧
 Blk w0 k0 k2 z0 ∧
 (k1 + 2) ≤ z0.length ∧
 ∀ w1 : World, Only [k0] w0 w1 → Blk w1 k0 k2 (splice z0 k1 [.int .i64 e_, .int .i64 i2]) → R (.tuple #[]) w1) ∧
 ((i0 == 0) = false → R (.tuple #[]) w)
theorem pavaneref07_reader_stop_wp (r : Addr) (e_ : Int) (R : Value → World → Prop) (w : World) (h : pavaneref07_reader_stop_vc r e_ R w) : Calls Tryz.prog 68 #[.pointer (some r), .int .i64 e_] w fun e w' => ∃ v, e = .returned v ∧ R v w' :=
 fn_by (an := .s .o (.s .o .o)) (args := [.ad r, .int .i64 e_]) Tryz.checked.mixed (by kernel_rfl) (by kernel_rfl) h
def pavaneref07_reader_name_vc (r : Addr) (R : Value → World → Prop) (w : World) : Prop :=
 ∀ w0 : World, Only [] w w0 → ∃ J0 : Nat → Prop, J0 ((r.add 0).block) ∧
 ∃ l0 : Sl, Cells w0 (r.add 0) [l0.v] ∧
 J0 ((r.add 1).block) ∧
 ∃ i0 : Int, Cells w0 (r.add 1) [.int .i64 i0] ∧
 ∃ p0 : Addr, SlAt l0 i0 4 p0 ∧
 J0 p0.block ∧
 ∃ i1 : Int, ∃ s0 : ByteArray, ∃ i2 i3 : Int, Cells w0 p0 [.int .i64 i1, .string s0, .int .i64 i2, .int .i64 i3] ∧
 ∀ k0 : Nat, ∀ w1 : World, w0.heap.size ≤ k0 → k0 < w1.heap.size → Only [] w0 w1 → ∃ i4 : Int, Cells w1 ((r.add 6).add 0) [.int .i64 i4] ∧
 (((i4 != 0) || (i1 != 1)) = true → Calls Tryz.prog 40 #[.pointer (some r)] w1 fun e0 w2 => e0 = (.returned (.tuple #[])) ∧
 Same [k0] w1 w2 ∧
 R (.tuple #[.string (ByteArray.mk #[]), .int .i64 0]) w2) ∧
 (((i4 != 0) || (i1 != 1)) = false → ∃ i5 : Int, Cells w1 (r.add 1) [.int .i64 i5] ∧
 ∃ k1 k2 : Nat, ∃ z0 : List Value, ∃ k3 : Nat, (r.add 1) = ⟨k1, k2, none⟩ ∧
 Blk w1 k1 k3 z0 ∧
 (k2 + 1) ≤ z0.length ∧
 k0 ≠ k1 ∧
 ∀ w3 : World, Only [k1] w1 w3 → Blk w3 k1 k3 (splice z0 k2 [.int .i64 (IntKind.wrap .i64 (i5 + 1))]) → ∀ w4 : World, Only [] w3 w4 → R (.tuple #[.string s0, .int .i64 i3]) w4)
theorem pavaneref07_reader_name_wp (r : Addr) (R : Value → World → Prop) (w : World) (h : pavaneref07_reader_name_vc r R w) : Calls Tryz.prog 69 #[.pointer (some r)] w fun e w' => ∃ v, e = .returned v ∧ R v w' :=
 fn_by (an := .s .o (.s .o (.s (.s .o (.s (.s .o (.s .o .o)) .o)) (.s .o (.s .o .o))))) (args := [.ad r]) Tryz.checked.mixed (by kernel_rfl) (by kernel_rfl) h
def pavaneref07_reader_int_vc (r : Addr) (R : Value → World → Prop) (w : World) : Prop :=
 ∀ w0 : World, Only [] w w0 → ∃ J0 : Nat → Prop, J0 ((r.add 0).block) ∧
 ∃ l0 : Sl, Cells w0 (r.add 0) [l0.v] ∧
 J0 ((r.add 1).block) ∧
 ∃ i0 : Int, Cells w0 (r.add 1) [.int .i64 i0] ∧
 ∃ p0 : Addr, SlAt l0 i0 4 p0 ∧
 J0 p0.block ∧
 ∃ i1 : Int, ∃ s0 : ByteArray, ∃ i2 i3 : Int, Cells w0 p0 [.int .i64 i1, .string s0, .int .i64 i2, .int .i64 i3] ∧
 ∀ k0 : Nat, ∀ w1 : World, w0.heap.size ≤ k0 → k0 < w1.heap.size → Only [] w0 w1 → ∃ i4 : Int, Cells w1 ((r.add 6).add 0) [.int .i64 i4] ∧
 (((i4 != 0) || (i1 != 3)) = true → Calls Tryz.prog 40 #[.pointer (some r)] w1 fun e0 w2 => e0 = (.returned (.tuple #[])) ∧
 Same [k0] w1 w2 ∧
 R (.int .i64 0) w2) ∧
 (((i4 != 0) || (i1 != 3)) = false → ∃ i5 : Int, Cells w1 (r.add 1) [.int .i64 i5] ∧
 ∃ k1 k2 : Nat, ∃ z0 : List Value, ∃ k3 : Nat, (r.add 1) = ⟨k1, k2, none⟩ ∧
 Blk w1 k1 k3 z0 ∧
 (k2 + 1) ≤ z0.length ∧
 k0 ≠ k1 ∧
 ∀ w3 : World, Only [k1] w1 w3 → Blk w3 k1 k3 (splice z0 k2 [.int .i64 (IntKind.wrap .i64 (i5 + 1))]) → R (.int .i64 i2) w3)
theorem pavaneref07_reader_int_wp (r : Addr) (R : Value → World → Prop) (w : World) (h : pavaneref07_reader_int_vc r R w) : Calls Tryz.prog 70 #[.pointer (some r)] w fun e w' => ∃ v, e = .returned v ∧ R v w' :=
 fn_by (an := .s .o (.s .o (.s (.s .o (.s (.s .o (.s .o .o)) .o)) (.s .o (.s .o .o))))) (args := [.ad r]) Tryz.checked.mixed (by kernel_rfl) (by kernel_rfl) h
def pavaneref07_reader_ok_vc (r : Addr) (R : Value → World → Prop) (w : World) : Prop :=
 ∃ i0 : Int, Cells w ((r.add 6).add 0) [.int .i64 i0] ∧
 R (.bool (i0 == 0)) w
theorem pavaneref07_reader_ok_wp (r : Addr) (R : Value → World → Prop) (w : World) (h : pavaneref07_reader_ok_vc r R w) : Calls Tryz.prog 71 #[.pointer (some r)] w fun e w' => ∃ v, e = .returned v ∧ R v w' :=
 fn_by (an := .s .o (.s .o .o)) (args := [.ad r]) Tryz.checked.mixed (by kernel_rfl) (by kernel_rfl) h
def pavaneref07_reader_is_vc (r : Addr) (kind : Int) (text : ByteArray) (R : Value → World → Prop) (w : World) : Prop :=
 ∀ w0 : World, Only [] w w0 → ∃ J0 : Nat → Prop, J0 ((r.add 0).block) ∧
 ∃ l0 : Sl, Cells w0 (r.add 0) [l0.v] ∧
 J0 ((r.add 1).block) ∧
 ∃ i0 : Int, Cells w0 (r.add 1) [.int .i64 i0] ∧
 ∃ p0 : Addr, SlAt l0 i0 4 p0 ∧
 J0 p0.block ∧
 ∃ i1 : Int, ∃ s0 : ByteArray, ∃ i2 i3 : Int, Cells w0 p0 [.int .i64 i1, .string s0, .int .i64 i2, .int .i64 i3] ∧
 ∀ k0 : Nat, ∀ w1 : World, w0.heap.size ≤ k0 → k0 < w1.heap.size → Only [] w0 w1 → ∃ i4 : Int, Cells w1 ((r.add 6).add 0) [.int .i64 i4] ∧
 R (.bool (((i4 == 0) && (i1 == kind)) && (s0.toList == text.toList))) w1
theorem pavaneref07_reader_is_wp (r : Addr) (kind : Int) (text : ByteArray) (R : Value → World → Prop) (w : World) (h : pavaneref07_reader_is_vc r kind text R w) : Calls Tryz.prog 72 #[.pointer (some r), .int .i64 kind, .string text] w fun e w' => ∃ v, e = .returned v ∧ R v w' :=
 fn_by (an := .s .o (.s .o (.s .o .o))) (args := [.ad r, .int .i64 kind, .str text]) Tryz.checked.mixed (by kernel_rfl) (by kernel_rfl) h
def pavaneref07_reader_block_vc (r : Addr) (R : Value → World → Prop) (w : World) : Prop :=
 Calls Tryz.prog 36 #[.pointer (some r), .int .i64 4, .string (ByteArray.mk #[123])] w fun e0 w0 => e0 = (.returned (.tuple #[])) ∧
 ∃ J0 : Sl → World → Prop, (∀ l0 : Sl, ∀ w1 : World, J0 l0 w1 → R l0.v w1) ∧
 ∃ J1 : Nat → Sl → World → Prop, ∃ k0 : Nat, J1 k0 Sl.nil w0 ∧
 ∀ k1 : Nat, ∀ l1 : Sl, ∀ w2 : World, J1 k1 l1 w2 → ∃ i0 : Int, Cells w2 ((r.add 6).add 0) [.int .i64 i0] ∧
 ((i0 == 0) = true → Calls Tryz.prog 67 #[.pointer (some r), .int .i64 4, .string (ByteArray.mk #[125])] w2 fun e1 w3 => ∃ b0 : Bool, e1 = (.returned (.bool b0)) ∧
 (b0 = true → J0 l1 w3) ∧
 (b0 = false → Calls Tryz.prog 110 #[.pointer (some r)] w3 fun e2 w4 => ∃ i1 : Int, ∃ s0 : ByteArray, ∃ i2 i3 : Int, ∃ s1 : ByteArray, ∃ i4 : Int, ∃ l2 : Sl, ∃ i5 i6 : Int, e2 = (.returned (.agg #[.int .i64 i1, .string s0, .int .i64 i2, .int .i64 i3, .string s1, .int .i64 i4, l2.v, .int .i64 i5, .int .i64 i6])) ∧
 ∀ k2 : Nat, ∀ w5 : World, w4.heap.size ≤ k2 → k2 < w5.heap.size → Only [] w4 w5 → ∃ l3 : Sl, ∃ w6 : World, ((Instr.buildSlice 41 1 #[.mk 0 (.agg #[.int .i64 i1, .string s0, .int .i64 i2, .int .i64 i3, .string s1, .int .i64 i4, l2.v, .int .i64 i5, .int .i64 i6])]).run Tryz.prog w5) = (.ok l3.v w6) ∧
 Same [k2] w5 w6 ∧
 ∃ l4 : Sl, ∃ w7 : World, ((Builtin.append_ #[41, 41] 41 #[l1.v, l3.v]).run Tryz.prog w6) = (.ok l4.v w7) ∧
 Same [k2] w6 w7 ∧
 ∃ k3 : Nat, k3 < k1 ∧
 J1 k3 l4 w7)) ∧
 ((i0 == 0) = false → J0 l1 w2)
theorem pavaneref07_reader_block_wp (r : Addr) (R : Value → World → Prop) (w : World) (h : pavaneref07_reader_block_vc r R w) : Calls Tryz.prog 73 #[.pointer (some r)] w fun e w' => ∃ v, e = .returned v ∧ R v w' :=
 fn_by (an := .s .o (.s .o (.s .o (.j [] [.s 3 .sl] (.j [0] [.s 3 .sl] (.s (.s .o (.s .o .o)) (.s .o (.s (.s .o (.s .o .o)) (.s .o .o)))) .o) (.s .o .o))))) (args := [.ad r]) Tryz.checked.mixed (by kernel_rfl) (by kernel_rfl) h
def pavaneref07_reader_moving_vc (r : Addr) (R : Value → World → Prop) (w : World) : Prop :=
 ∃ l0 : Sl, ∃ w0 : World, ((Instr.buildSlice 25 3 #[.mk 0 (.string (ByteArray.mk #[111, 110])), .mk 1 (.string (ByteArray.mk #[97, 108, 119, 97, 121, 115])), .mk 2 (.string (ByteArray.mk #[97, 102, 116, 101, 114]))]).run Tryz.prog w) = (.ok l0.v w0) ∧
 ∃ J0 : Nat → Int → World → Prop, ∃ k0 : Nat, J0 k0 0 w0 ∧
 ∀ k1 : Nat, ∀ i0 : Int, ∀ w1 : World, J0 k1 i0 w1 → ((decide (i0 < 3)) = true → ∃ p0 : Addr, SlAt l0 i0 1 p0 ∧
 ∃ s0 : ByteArray, Cells w1 p0 [.string s0] ∧
 Calls Tryz.prog 72 #[.pointer (some r), .int .i64 2, .string s0] w1 fun e0 w2 => ∃ b0 : Bool, e0 = (.returned (.bool b0)) ∧
 (b0 = true → R (.int .i64 (IntKind.wrap .i64 (i0 + 1))) w2) ∧
 (b0 = false → ∃ k2 : Nat, k2 < k1 ∧
 J0 k2 (IntKind.wrap .i64 (i0 + 1)) w2)) ∧
 ((decide (i0 < 3)) = false → R (.int .i64 0) w1)
theorem pavaneref07_reader_moving_wp (r : Addr) (R : Value → World → Prop) (w : World) (h : pavaneref07_reader_moving_vc r R w) : Calls Tryz.prog 74 #[.pointer (some r)] w fun e w' => ∃ v, e = .returned v ∧ R v w' :=
 fn_by (an := .s .o (.s .o (.s (.s .o (.j [0, 3] [.s 4 (.int .i64)] (.s (.s .o (.s .o .o)) (.s (.s .o (.s .o (.s (.s .o .o) .o))) .o)) .o)) (.s .o .o)))) (args := [.ad r]) Tryz.checked.mixed (by kernel_rfl) (by kernel_rfl) h
def pavaneref07_reader_move_vc (r : Addr) (kind : Int) (R : Value → World → Prop) (w : World) : Prop :=
 ∀ k0 : Nat, ∀ w0 : World, w.heap.size ≤ k0 → k0 < w0.heap.size → Only [] w w0 → ∃ J0 : Nat → Prop, J0 ((r.add 0).block) ∧
 ∃ l0 : Sl, Cells w0 (r.add 0) [l0.v] ∧
 J0 ((r.add 1).block) ∧
 ∃ i0 : Int, Cells w0 (r.add 1) [.int .i64 i0] ∧
 ∃ p0 : Addr, SlAt l0 i0 4 p0 ∧
 J0 ((p0.add 3).block) ∧
 ∃ i1 : Int, Cells w0 (p0.add 3) [.int .i64 i1] ∧
 ∀ k1 : Nat, ∀ w1 : World, w0.heap.size ≤ k1 → k1 < w1.heap.size → Only [] w0 w1 → ∃ i2 : Int, Cells w1 (r.add 3) [.int .i64 i2] ∧
 ((i2 == 200) = true → Calls Tryz.prog 68 #[.pointer (some r), .int .i64 2] w1 fun e0 w2 => e0 = (.returned (.tuple #[])) ∧
 Same [k0, k1] w1 w2 ∧
 ∀ w3 : World, Only [k0] w2 w3 → R (.agg #[.int .i64 kind, .string (ByteArray.mk #[]), .int .i64 0, .bool false, .int .i64 0, .int .i64 0, .string (ByteArray.mk #[]), .int .i64 0, Sl.nil.v, .int .i64 0, Sl.nil.v, Sl.nil.v, .int .i64 i1]) w3) ∧
 ((i2 == 200) = false → ∃ i3 : Int, Cells w1 (r.add 3) [.int .i64 i3] ∧
 ∃ k2 k3 : Nat, ∃ z0 : List Value, ∃ k4 : Nat, (r.add 3) = ⟨k2, k3, none⟩ ∧
 Blk w1 k2 k4 z0 ∧
 (k3 + 1) ≤ z0.length ∧
 k0 ≠ k2 ∧
 k1 ≠ k2 ∧
 ∀ w4 : World, Only [k2] w1 w4 → Blk w4 k2 k4 (splice z0 k3 [.int .i64 (IntKind.wrap .i64 (i3 + 1))]) → ∃ i4 : Int, Cells w4 (r.add 1) [.int .i64 i4] ∧
 ∃ k5 k6 : Nat, ∃ z1 : List Value, ∃ k7 : Nat, (r.add 1) = ⟨k5, k6, none⟩ ∧
 Blk w4 k5 k7 z1 ∧
 (k6 + 1) ≤ z1.length ∧
 k0 ≠ k5 ∧
 k1 ≠ k5 ∧
 ∀ w5 : World, Only [k5] w4 w5 → Blk w5 k5 k7 (splice z1 k6 [.int .i64 (IntKind.wrap .i64 (i4 + 1))]) → ∃ J1 : Int → ByteArray → Int → Bool → Int → Int → ByteArray → Int → Sl → Int → Sl → Sl → Int → World → Prop, (∀ i5 : Int, ∀ s0 : ByteArray, ∀ i6 : Int, ∀ b0 : Bool, ∀ i7 i8 : Int, ∀ s1 : ByteArray, ∀ i9 : Int, ∀ l1 : Sl, ∀ i10 : Int, ∀ l2 l3 : Sl, ∀ i11 : Int, ∀ w6 : World, J1 i5 s0 i6 b0 i7 i8 s1 i9 l1 i10 l2 l3 i11 w6 → ∃ J2 : Int → ByteArray → Int → Bool → Int → Int → ByteArray → Int → Sl → Int → Sl → Sl → Int → World → Prop, (∀ i12 : Int, ∀ s2 : ByteArray, ∀ i13 : Int, ∀ b1 : Bool, ∀ i14 i15 : Int, ∀ s3 : ByteArray, ∀ i16 : Int, ∀ l4 : Sl, ∀ i17 : Int, ∀ l5 l6 : Sl, ∀ i18 : Int, ∀ w7 : World, J2 i12 s2 i13 b1 i14 i15 s3 i16 l4 i17 l5 l6 i18 w7 → Calls Tryz.prog 67 #[.pointer (some r), .int .i64 4, .string (ByteArray.mk #[91])] w7 fun e1 w8 => ∃ b2 : Bool, e1 = (.returned (.bool b2)) ∧
 Same [k0, k1] w7 w8 ∧
 ∀ w9 : World, Only [k1] w8 w9 → ∃ J3 : Int → ByteArray → Int → Bool → Int → Int → ByteArray → Int → Sl → Int → Sl → Sl → Int → World → Prop, (∀ i19 : Int, ∀ s4 : ByteArray, ∀ i20 : Int, ∀ b3 : Bool, ∀ i21 i22 : Int, ∀ s5 : ByteArray, ∀ i23 : Int, ∀ l7 : Sl, ∀ i24 : Int, ∀ l8 l9 : Sl, ∀ i25 : Int, ∀ w10 : World, J3 i19 s4 i20 b3 i21 i22 s5 i23 l7 i24 l8 l9 i25 w10 → Calls Tryz.prog 72 #[.pointer (some r), .int .i64 4, .string (ByteArray.mk #[123])] w10 fun e2 w11 => ∃ b4 : Bool, e2 = (.returned (.bool b4)) ∧
 Same [k0, k1] w10 w11 ∧
 ∃ J4 : Int → ByteArray → Int → Bool → Int → Int → ByteArray → Int → Sl → Int → Sl → Sl → Int → World → Prop, (∀ i26 : Int, ∀ s6 : ByteArray, ∀ i27 : Int, ∀ b5 : Bool, ∀ i28 i29 : Int, ∀ s7 : ByteArray, ∀ i30 : Int, ∀ l10 : Sl, ∀ i31 : Int, ∀ l11 l12 : Sl, ∀ i32 : Int, ∀ w12 : World, J4 i26 s6 i27 b5 i28 i29 s7 i30 l10 i31 l11 l12 i32 w12 → Calls Tryz.prog 67 #[.pointer (some r), .int .i64 4, .string (ByteArray.mk #[45, 62])] w12 fun e3 w13 => ∃ b6 : Bool, e3 = (.returned (.bool b6)) ∧
 Same [k0, k1] w12 w13 ∧
 ∃ J5 : Nat → Bool → Int → ByteArray → Int → Bool → Int → Int → ByteArray → Int → Sl → Int → Sl → Sl → Int → World → Prop, ∃ k8 : Nat, J5 k8 b6 i26 s6 i27 b5 i28 i29 s7 i30 l10 i31 l11 l12 i32 w13 ∧
 ∀ k9 : Nat, ∀ b7 : Bool, ∀ i33 : Int, ∀ s8 : ByteArray, ∀ i34 : Int, ∀ b8 : Bool, ∀ i35 i36 : Int, ∀ s9 : ByteArray, ∀ i37 : Int, ∀ l13 : Sl, ∀ i38 : Int, ∀ l14 l15 : Sl, ∀ i39 : Int, ∀ w14 : World, J5 k9 b7 i33 s8 i34 b8 i35 i36 s9 i37 l13 i38 l14 l15 i39 w14 → (b7 = true → Calls Tryz.prog 69 #[.pointer (some r)] w14 fun e4 w15 => ∃ s10 : ByteArray, ∃ i40 : Int, e4 = (.returned (.tuple #[.string s10, .int .i64 i40])) ∧
 Same [k0, k1] w14 w15 ∧
 ∃ l16 : Sl, ∃ w16 : World, ((Instr.buildSlice 25 1 #[.mk 0 (.string s10)]).run Tryz.prog w15) = (.ok l16.v w16) ∧
 Same [k0, k1] w15 w16 ∧
 ∃ l17 : Sl, ∃ w17 : World, ((Builtin.append_ #[25, 25] 25 #[l15.v, l16.v]).run Tryz.prog w16) = (.ok l17.v w17) ∧
 Same [k0, k1] w16 w17 ∧
 ∀ w18 : World, Only [k1] w17 w18 → Calls Tryz.prog 67 #[.pointer (some r), .int .i64 4, .string (ByteArray.mk #[44])] w18 fun e5 w19 => ∃ b9 : Bool, e5 = (.returned (.bool b9)) ∧
 Same [k0, k1] w18 w19 ∧
 ∃ k10 : Nat, k10 < k9 ∧
 J5 k10 b9 i33 s8 i34 b8 i35 i36 s9 i37 l13 i38 l14 l17 i39 w19) ∧
 (b7 = false → Calls Tryz.prog 36 #[.pointer (some r), .int .i64 4, .string (ByteArray.mk #[59])] w14 fun e6 w20 => e6 = (.returned (.tuple #[])) ∧
 Same [k0, k1] w14 w20 ∧
 ∀ w21 : World, Only [k0] w20 w21 → R (.agg #[.int .i64 i33, .string s8, .int .i64 i34, .bool b8, .int .i64 i35, .int .i64 i36, .string s9, .int .i64 i37, l13.v, .int .i64 i38, l14.v, l15.v, .int .i64 i39]) w21)) ∧
 (b4 = true → Calls Tryz.prog 73 #[.pointer (some r)] w11 fun e7 w22 => ∃ l18 : Sl, e7 = (.returned l18.v) ∧
 Same [k0, k1] w11 w22 ∧
 ∀ w23 : World, Only [k1] w22 w23 → J4 i19 s4 i20 b3 i21 i22 s5 i23 l7 i24 l18 l9 i25 w23) ∧
 (b4 = false → J4 i19 s4 i20 b3 i21 i22 s5 i23 l7 i24 l8 l9 i25 w11)) ∧
 (b2 = true → Calls Tryz.prog 111 #[.pointer (some r)] w9 fun e8 w24 => ∃ i41 i42 : Int, ∃ s11 : ByteArray, ∃ i43 : Int, ∃ l19 : Sl, ∃ i44 : Int, e8 = (.returned (.agg #[.int .i64 i41, .int .i64 i42, .string s11, .int .i64 i43, l19.v, .int .i64 i44])) ∧
 Same [k0, k1] w9 w24 ∧
 ∀ w25 : World, Only [k1] w24 w25 → Calls Tryz.prog 36 #[.pointer (some r), .int .i64 4, .string (ByteArray.mk #[93])] w25 fun e9 w26 => e9 = (.returned (.tuple #[])) ∧
 Same [k0, k1] w25 w26 ∧
 J3 i12 s2 i13 b2 i41 i42 s11 i43 l19 i44 l5 l6 i18 w26) ∧
 (b2 = false → J3 i12 s2 i13 b2 i14 i15 s3 i16 l4 i17 l5 l6 i18 w9)) ∧
 ((kind == 3) = true → Calls Tryz.prog 70 #[.pointer (some r)] w6 fun e10 w27 => ∃ i45 : Int, e10 = (.returned (.int .i64 i45)) ∧
 Same [k0, k1] w6 w27 ∧
 ∀ w28 : World, Only [k1] w27 w28 → J2 i5 s0 i45 b0 i7 i8 s1 i9 l1 i10 l2 l3 i11 w28) ∧
 ((kind == 3) = false → J2 i5 s0 i6 b0 i7 i8 s1 i9 l1 i10 l2 l3 i11 w6)) ∧
 ((kind == 1) = true → Calls Tryz.prog 69 #[.pointer (some r)] w5 fun e11 w29 => ∃ s12 : ByteArray, ∃ i46 : Int, e11 = (.returned (.tuple #[.string s12, .int .i64 i46])) ∧
 Same [k0, k1] w5 w29 ∧
 ∀ w30 : World, Only [k1] w29 w30 → J1 kind s12 0 false 0 0 (ByteArray.mk #[]) 0 Sl.nil 0 Sl.nil Sl.nil i1 w30) ∧
 ((kind == 1) = false → J1 kind (ByteArray.mk #[]) 0 false 0 0 (ByteArray.mk #[]) 0 Sl.nil 0 Sl.nil Sl.nil i1 w5))
theorem pavaneref07_reader_move_wp (r : Addr) (kind : Int) (R : Value → World → Prop) (w : World) (h : pavaneref07_reader_move_vc r kind R w) : Calls Tryz.prog 75 #[.pointer (some r), .int .i64 kind] w fun e w' => ∃ v, e = .returned v ∧ R v w' :=
 fn_by (an := .s .o (.s .o (.s (.s .o (.s (.s .o (.s .o .o)) .o)) (.s .o (.s .o (.j [0, 1, 4, 5] [.b 5 [.int .i64, .str, .int .i64, .bool, .int .i64, .int .i64, .str, .int .i64, .sl, .int .i64, .sl, .sl, .int .i64]] (.s .o (.s .o .o)) (.j [0, 4, 5] [.b 5 [.int .i64, .str, .int .i64, .bool, .int .i64, .int .i64, .str, .int .i64, .sl, .int .i64, .sl, .sl, .int .i64]] (.s .o (.s .o .o)) (.s .o (.j [0, 4, 5] [.b 5 [.int .i64, .str, .int .i64, .bool, .int .i64, .int .i64, .str, .int .i64, .sl, .int .i64, .sl, .sl, .int .i64]] (.s .o (.s (.s .o .o) .o)) (.s .o (.j [0, 4, 5] [.b 5 [.int .i64, .str, .int .i64, .bool, .int .i64, .int .i64, .str, .int .i64, .sl, .int .i64, .sl, .sl, .int .i64]] (.s .o (.s .o .o)) (.s .o (.s (.j [0, 4, 5] [.s 7 .bool, .b 5 [.int .i64, .str, .int .i64, .bool, .int .i64, .int .i64, .str, .int .i64, .sl, .int .i64, .sl, .sl, .int .i64]] (.s (.s .o (.s .o .o)) (.s .o (.s .o .o))) .o) (.s .o (.s .o .o))))))))))))))) (args := [.ad r, .int .i64 kind]) Tryz.checked.mixed (by kernel_rfl) (by kernel_rfl) h
def pavaneref07_reader_kind_vc (r : Addr) (R : Value → World → Prop) (w : World) : Prop :=
 ∃ l0 : Sl, ∃ w0 : World, ((Instr.buildSlice 25 4 #[.mk 0 (.string (ByteArray.mk #[115, 116, 97, 116, 101])), .mk 1 (.string (ByteArray.mk #[112, 97, 114, 97, 108, 108, 101, 108])), .mk 2 (.string (ByteArray.mk #[104, 105, 115, 116, 111, 114, 121])), .mk 3 (.string (ByteArray.mk #[100, 101, 101, 112]))]).run Tryz.prog w) = (.ok l0.v w0) ∧
 ∃ J0 : Nat → Int → World → Prop, ∃ k0 : Nat, J0 k0 0 w0 ∧
 ∀ k1 : Nat, ∀ i0 : Int, ∀ w1 : World, J0 k1 i0 w1 → ((decide (i0 < 4)) = true → ∃ p0 : Addr, SlAt l0 i0 1 p0 ∧
 ∃ s0 : ByteArray, Cells w1 p0 [.string s0] ∧
 Calls Tryz.prog 72 #[.pointer (some r), .int .i64 2, .string s0] w1 fun e0 w2 => ∃ b0 : Bool, e0 = (.returned (.bool b0)) ∧
 (b0 = true → R (.int .i64 (IntKind.wrap .i64 (i0 + 1))) w2) ∧
 (b0 = false → ∃ k2 : Nat, k2 < k1 ∧
 J0 k2 (IntKind.wrap .i64 (i0 + 1)) w2)) ∧
 ((decide (i0 < 4)) = false → R (.int .i64 0) w1)
theorem pavaneref07_reader_kind_wp (r : Addr) (R : Value → World → Prop) (w : World) (h : pavaneref07_reader_kind_vc r R w) : Calls Tryz.prog 76 #[.pointer (some r)] w fun e w' => ∃ v, e = .returned v ∧ R v w' :=
 fn_by (an := .s .o (.s .o (.s (.s .o (.j [0, 3] [.s 4 (.int .i64)] (.s (.s .o (.s .o .o)) (.s (.s .o (.s .o (.s (.s .o .o) .o))) .o)) .o)) (.s .o .o)))) (args := [.ad r]) Tryz.checked.mixed (by kernel_rfl) (by kernel_rfl) h
def pavaneref07_reader_node_vc (r : Addr) (kind : Int) (R : Value → World → Prop) (w : World) : Prop :=
 ∀ k0 : Nat, ∀ w0 : World, w.heap.size ≤ k0 → k0 < w0.heap.size → Only [] w w0 → ∃ i0 : Int, Cells w0 (r.add 1) [.int .i64 i0] ∧
 ∃ k1 k2 : Nat, ∃ z0 : List Value, ∃ k3 : Nat, (r.add 1) = ⟨k1, k2, none⟩ ∧
 Blk w0 k1 k3 z0 ∧
 (k2 + 1) ≤ z0.length ∧
 k0 ≠ k1 ∧
 ∀ w1 : World, Only [k1] w0 w1 → Blk w1 k1 k3 (splice z0 k2 [.int .i64 (IntKind.wrap .i64 (i0 + 1))]) → Calls Tryz.prog 37 #[.pointer (some r), .agg #[.int .i64 kind, .string (ByteArray.mk #[]), .string (ByteArray.mk #[]), .string (ByteArray.mk #[]), Sl.nil.v, Sl.nil.v, Sl.nil.v, Sl.nil.v, .int .i64 0]] w1 fun e0 w2 => ∃ i1 : Int, ∃ s0 s1 s2 : ByteArray, ∃ l0 l1 l2 l3 : Sl, ∃ i2 : Int, e0 = (.returned (.agg #[.int .i64 i1, .string s0, .string s1, .string s2, l0.v, l1.v, l2.v, l3.v, .int .i64 i2])) ∧
 Same [k0] w1 w2 ∧
 ((decide (kind ≥ 3)) = true → ∀ k4 : Nat, ∀ w3 : World, w2.heap.size ≤ k4 → k4 < w3.heap.size → Only [] w2 w3 → Calls Tryz.prog 36 #[.pointer (some r), .int .i64 4, .string (ByteArray.mk #[45, 62])] w3 fun e1 w4 => e1 = (.returned (.tuple #[])) ∧
 Same [k0, k4] w3 w4 ∧
 Calls Tryz.prog 69 #[.pointer (some r)] w4 fun e2 w5 => ∃ s3 : ByteArray, ∃ i3 : Int, e2 = (.returned (.tuple #[.string s3, .int .i64 i3])) ∧
 Same [k0, k4] w4 w5 ∧
 ∀ w6 : World, Only [k4] w5 w6 → Calls Tryz.prog 36 #[.pointer (some r), .int .i64 4, .string (ByteArray.mk #[59])] w6 fun e3 w7 => e3 = (.returned (.tuple #[])) ∧
 Same [k0, k4] w6 w7 ∧
 ∀ w8 : World, Only [k0] w7 w8 → R (.agg #[.int .i64 i1, .string s0, .string s1, .string s3, l0.v, l1.v, l2.v, l3.v, .int .i64 i2]) w8) ∧
 ((decide (kind ≥ 3)) = false → ∀ k5 : Nat, ∀ w9 : World, w2.heap.size ≤ k5 → k5 < w9.heap.size → Only [] w2 w9 → Calls Tryz.prog 36 #[.pointer (some r), .int .i64 4, .string (ByteArray.mk #[123])] w9 fun e4 w10 => e4 = (.returned (.tuple #[])) ∧
 Same [k0, k5] w9 w10 ∧
 ∃ i4 : Int, Cells w10 (r.add 5) [.int .i64 i4] ∧
 ∃ k6 k7 : Nat, ∃ z1 : List Value, ∃ k8 : Nat, (r.add 5) = ⟨k6, k7, none⟩ ∧
 Blk w10 k6 k8 z1 ∧
 (k7 + 1) ≤ z1.length ∧
 k0 ≠ k6 ∧
 k5 ≠ k6 ∧
 ∀ w11 : World, Only [k6] w10 w11 → Blk w11 k6 k8 (splice z1 k7 [.int .i64 (IntKind.wrap .i64 (i4 + 1))]) → Calls Tryz.prog 39 #[.pointer (some r), .agg #[.int .i64 i1, .string s0, .string s1, .string s2, l0.v, l1.v, l2.v, l3.v, .int .i64 i2]] w11 fun e5 w12 => ∃ i5 : Int, ∃ s4 s5 s6 : ByteArray, ∃ l4 l5 l6 l7 : Sl, ∃ i6 : Int, e5 = (.returned (.agg #[.int .i64 i5, .string s4, .string s5, .string s6, l4.v, l5.v, l6.v, l7.v, .int .i64 i6])) ∧
 Same [k0, k5] w11 w12 ∧
 ∀ w13 : World, Only [k5] w12 w13 → ∃ i7 : Int, Cells w13 (r.add 5) [.int .i64 i7] ∧
 ∃ k9 k10 : Nat, ∃ z2 : List Value, ∃ k11 : Nat, (r.add 5) = ⟨k9, k10, none⟩ ∧
 Blk w13 k9 k11 z2 ∧
 (k10 + 1) ≤ z2.length ∧
 k0 ≠ k9 ∧
 k5 ≠ k9 ∧
 ∀ w14 : World, Only [k9] w13 w14 → Blk w14 k9 k11 (splice z2 k10 [.int .i64 (IntKind.wrap .i64 (i7 - 1))]) → Calls Tryz.prog 36 #[.pointer (some r), .int .i64 4, .string (ByteArray.mk #[125])] w14 fun e6 w15 => e6 = (.returned (.tuple #[])) ∧
 Same [k0, k5] w14 w15 ∧
 ∀ w16 : World, Only [k0] w15 w16 → R (.agg #[.int .i64 i5, .string s4, .string s5, .string s6, l4.v, l5.v, l6.v, l7.v, .int .i64 i6]) w16)
theorem pavaneref07_reader_node_wp (r : Addr) (kind : Int) (R : Value → World → Prop) (w : World) (h : pavaneref07_reader_node_vc r kind R w) : Calls Tryz.prog 77 #[.pointer (some r), .int .i64 kind] w fun e w' => ∃ v, e = .returned v ∧ R v w' :=
 fn_by (an := .s .o (.s .o (.s .o (.s (.s .o (.s (.s .o (.s .o (.s .o (.s .o .o)))) .o)) (.s .o (.s .o (.s .o (.s .o (.s .o (.s .o .o)))))))))) (args := [.ad r, .int .i64 kind]) Tryz.checked.mixed (by kernel_rfl) (by kernel_rfl) h
def pavaneref07_SameActs_vc (a_ bb : Sl) (at_ : Bool) (R : Value → World → Prop) (w : World) : Prop :=
 (((a_.n : Int) != (bb.n : Int)) = true → R (.bool false) w) ∧
 (((a_.n : Int) != (bb.n : Int)) = false → ∃ J0 : Nat → Int → World → Prop, ∃ k0 : Nat, J0 k0 0 w ∧
 ∀ k1 : Nat, ∀ i0 : Int, ∀ w0 : World, J0 k1 i0 w0 → ((decide (i0 < (a_.n : Int))) = true → ∃ p0 : Addr, SlAt a_ i0 9 p0 ∧
 ∀ w1 : World, Only [] w0 w1 → ∃ i1 i2 : Int, ∃ s0 : ByteArray, ∃ i3 : Int, ∃ l0 : Sl, ∃ i4 : Int, Cells w1 (p0.add 2) [.int .i64 i1, .int .i64 i2, .string s0, .int .i64 i3, l0.v, .int .i64 i4] ∧
 ∃ p1 : Addr, SlAt bb i0 9 p1 ∧
 ∃ i5 i6 : Int, ∃ s1 : ByteArray, ∃ i7 : Int, ∃ l1 : Sl, ∃ i8 : Int, Cells w1 (p1.add 2) [.int .i64 i5, .int .i64 i6, .string s1, .int .i64 i7, l1.v, .int .i64 i8] ∧
 Calls Tryz.prog 14 #[.agg #[.int .i64 i1, .int .i64 i2, .string s0, .int .i64 i3, l0.v, .int .i64 i4], .agg #[.int .i64 i5, .int .i64 i6, .string s1, .int .i64 i7, l1.v, .int .i64 i8], .bool at_] w1 fun e0 w2 => ∃ b0 : Bool, e0 = (.returned (.bool b0)) ∧
 ∃ p2 : Addr, ((!b0) = false → SlAt a_ i0 9 p2) ∧
 ∃ i9 : Int, ((!b0) = false → Cells w2 (p2.add 0) [.int .i64 i9]) ∧
 ∃ p3 : Addr, ((!b0) = false → SlAt bb i0 9 p3) ∧
 ∃ i10 : Int, ((!b0) = false → Cells w2 (p3.add 0) [.int .i64 i10]) ∧
 ∃ p4 : Addr, (((!b0) || (i9 != i10)) = false → SlAt a_ i0 9 p4) ∧
 ∃ s2 : ByteArray, (((!b0) || (i9 != i10)) = false → Cells w2 (p4.add 1) [.string s2]) ∧
 ∃ p5 : Addr, (((!b0) || (i9 != i10)) = false → SlAt bb i0 9 p5) ∧
 ∃ s3 : ByteArray, (((!b0) || (i9 != i10)) = false → Cells w2 (p5.add 1) [.string s3]) ∧
 ∃ p6 : Addr, ((((!b0) || (i9 != i10)) || (!(s2.toList == s3.toList))) = false → at_ = true → SlAt a_ i0 9 p6) ∧
 ∃ i11 : Int, ((((!b0) || (i9 != i10)) || (!(s2.toList == s3.toList))) = false → at_ = true → Cells w2 (p6.add 8) [.int .i64 i11]) ∧
 ∃ p7 : Addr, ((((!b0) || (i9 != i10)) || (!(s2.toList == s3.toList))) = false → at_ = true → SlAt bb i0 9 p7) ∧
 ∃ i12 : Int, ((((!b0) || (i9 != i10)) || (!(s2.toList == s3.toList))) = false → at_ = true → Cells w2 (p7.add 8) [.int .i64 i12]) ∧
 (((((!b0) || (i9 != i10)) || (!(s2.toList == s3.toList))) || (at_ && (i11 != i12))) = true → ∀ w3 : World, Only [] w2 w3 → R (.bool false) w3) ∧
 (((((!b0) || (i9 != i10)) || (!(s2.toList == s3.toList))) || (at_ && (i11 != i12))) = false → ∀ w4 : World, Only [] w2 w4 → ∃ k2 : Nat, k2 < k1 ∧
 J0 k2 (IntKind.wrap .i64 (i0 + 1)) w4)) ∧
 ((decide (i0 < (a_.n : Int))) = false → R (.bool true) w0))
theorem pavaneref07_SameActs_wp (a_ bb : Sl) (at_ : Bool) (R : Value → World → Prop) (w : World) (h : pavaneref07_SameActs_vc a_ bb at_ R w) : Calls Tryz.prog 78 #[a_.v, bb.v, .bool at_] w fun e w' => ∃ v, e = .returned v ∧ R v w' :=
 fn_by (an := .s .o (.s (.s .o (.s (.s .o .o) .o)) (.s (.s .o (.j [0, 1, 2] [.s 7 (.int .i64)] (.s (.s .o (.s .o .o)) (.s (.s .o (.s .o (.s (.s .o .o) .o))) .o)) .o)) (.s .o .o)))) (args := [.sl a_, .sl bb, .bt at_]) Tryz.checked.mixed (by kernel_rfl) (by kernel_rfl) h
def pavaneref07_SameMove_vc (a_ : Int) (a_1 : ByteArray) (a_2 : Int) (a_3 : Bool) (a_4 a_5 : Int) (a_6 : ByteArray) (a_7 : Int) (a_8 : Sl) (a_9 : Int) (a_10 a_11 : Sl) (a_12 bb : Int) (bb1 : ByteArray) (bb2 : Int) (bb3 : Bool) (bb4 bb5 : Int) (bb6 : ByteArray) (bb7 : Int) (bb8 : Sl) (bb9 : Int) (bb10 bb11 : Sl) (bb12 : Int) (at_ : Bool) (R : Value → World → Prop) (w : World) : Prop :=
 ∀ k0 k1 : Nat, ∀ w0 : World, w.heap.size ≤ k0 → k0 < w0.heap.size → w.heap.size ≤ k1 → k1 < w0.heap.size → Only [] w w0 → Calls Tryz.prog 14 #[.agg #[.int .i64 a_4, .int .i64 a_5, .string a_6, .int .i64 a_7, a_8.v, .int .i64 a_9], .agg #[.int .i64 bb4, .int .i64 bb5, .string bb6, .int .i64 bb7, bb8.v, .int .i64 bb9], .bool at_] w0 fun e0 w1 => ∃ b0 : Bool, e0 = (.returned (.bool b0)) ∧
 Same [k0, k1] w0 w1 ∧
 Calls Tryz.prog 78 #[a_10.v, bb10.v, .bool at_] w1 fun e1 w2 => ∃ b1 : Bool, e1 = (.returned (.bool b1)) ∧
 Same [k0, k1] w1 w2 ∧
 Calls Tryz.prog 15 #[a_11.v, bb11.v] w2 fun e2 w3 => ∃ b2 : Bool, e2 = (.returned (.bool b2)) ∧
 Same [k0, k1] w2 w3 ∧
 R (.bool (((((((b0 && b1) && b2) && (a_ == bb)) && (a_1.toList == bb1.toList)) && (a_2 == bb2)) && (a_3 == bb3)) && ((!at_) || (a_12 == bb12)))) w3
theorem pavaneref07_SameMove_wp (a_ : Int) (a_1 : ByteArray) (a_2 : Int) (a_3 : Bool) (a_4 a_5 : Int) (a_6 : ByteArray) (a_7 : Int) (a_8 : Sl) (a_9 : Int) (a_10 a_11 : Sl) (a_12 bb : Int) (bb1 : ByteArray) (bb2 : Int) (bb3 : Bool) (bb4 bb5 : Int) (bb6 : ByteArray) (bb7 : Int) (bb8 : Sl) (bb9 : Int) (bb10 bb11 : Sl) (bb12 : Int) (at_ : Bool) (R : Value → World → Prop) (w : World) (h : pavaneref07_SameMove_vc a_ a_1 a_2 a_3 a_4 a_5 a_6 a_7 a_8 a_9 a_10 a_11 a_12 bb bb1 bb2 bb3 bb4 bb5 bb6 bb7 bb8 bb9 bb10 bb11 bb12 at_ R w) : Calls Tryz.prog 79 #[.agg #[.int .i64 a_, .string a_1, .int .i64 a_2, .bool a_3, .int .i64 a_4, .int .i64 a_5, .string a_6, .int .i64 a_7, a_8.v, .int .i64 a_9, a_10.v, a_11.v, .int .i64 a_12], .agg #[.int .i64 bb, .string bb1, .int .i64 bb2, .bool bb3, .int .i64 bb4, .int .i64 bb5, .string bb6, .int .i64 bb7, bb8.v, .int .i64 bb9, bb10.v, bb11.v, .int .i64 bb12], .bool at_] w fun e w' => ∃ v, e = .returned v ∧ R v w' :=
 fn_by (an := .s .o (.s .o (.s .o (.s .o (.s .o .o))))) (args := [.agg (ofL [.int .i64 a_, .str a_1, .int .i64 a_2, .bt a_3, .int .i64 a_4, .int .i64 a_5, .str a_6, .int .i64 a_7, .sl a_8, .int .i64 a_9, .sl a_10, .sl a_11, .int .i64 a_12]), .agg (ofL [.int .i64 bb, .str bb1, .int .i64 bb2, .bt bb3, .int .i64 bb4, .int .i64 bb5, .str bb6, .int .i64 bb7, .sl bb8, .int .i64 bb9, .sl bb10, .sl bb11, .int .i64 bb12]), .bt at_]) Tryz.checked.mixed (by kernel_rfl) (by kernel_rfl) h
def pavanelaw07_spoilActs_vc (l : Sl) (R : Value → World → Prop) (w : World) : Prop :=
 ∃ J0 : Nat → Int → World → Prop, ∃ k0 : Nat, J0 k0 0 w ∧
 ∀ k1 : Nat, ∀ i0 : Int, ∀ w0 : World, J0 k1 i0 w0 → ((decide (i0 < (l.n : Int))) = true → ∃ p0 : Addr, SlAt l i0 9 p0 ∧
 ∃ l0 : Sl, Cells w0 ((p0.add 2).add 4) [l0.v] ∧
 Calls Tryz.prog 81 #[l0.v] w0 fun e0 w1 => ∃ i1 : Int, e0 = (.returned (.int .i64 i1)) ∧
 ∃ p1 : Addr, SlAt l i0 9 p1 ∧
 ∃ k2 k3 : Nat, ∃ z0 : List Value, ∃ k4 : Nat, p1 = ⟨k2, k3, none⟩ ∧
 Blk w1 k2 k4 z0 ∧
 (k3 + 9) ≤ z0.length ∧
 ∀ w2 : World, Only [k2] w1 w2 → Blk w2 k2 k4 (splice z0 k3 [.int .i64 0, .string (ByteArray.mk #[115, 112, 111, 105, 108, 116]), .int .i64 0, .int .i64 0, .string (ByteArray.mk #[]), .int .i64 0, Sl.nil.v, .int .i64 0, .int .i64 0]) → ∃ k5 : Nat, k5 < k1 ∧
 J0 k5 (IntKind.wrap .i64 (i0 + 1)) w2) ∧
 ((decide (i0 < (l.n : Int))) = false → R (.tuple #[]) w0)
theorem pavanelaw07_spoilActs_wp (l : Sl) (R : Value → World → Prop) (w : World) (h : pavanelaw07_spoilActs_vc l R w) : Calls Tryz.prog 80 #[l.v] w fun e w' => ∃ v, e = .returned v ∧ R v w' :=
 fn_by (an := .s .o (.j [0] [.s 2 (.int .i64)] (.s (.s .o (.s .o .o)) (.s (.s .o .o) .o)) .o)) (args := [.sl l]) Tryz.checked.mixed (by kernel_rfl) (by kernel_rfl) h
def pavanelaw05_Spoil_vc (l : Sl) (R : Value → World → Prop) (w : World) : Prop :=
 ∃ J0 : Nat → Int → Int → World → Prop, ∃ k0 : Nat, J0 k0 0 0 w ∧
 ∀ k1 : Nat, ∀ i0 i1 : Int, ∀ w0 : World, J0 k1 i0 i1 w0 → ((decide (i1 < (l.n : Int))) = true → ∃ p0 : Addr, SlAt l i1 6 p0 ∧
 ∃ l0 : Sl, Cells w0 (p0.add 4) [l0.v] ∧
 Calls Tryz.prog 81 #[l0.v] w0 fun e0 w1 => ∃ i2 : Int, e0 = (.returned (.int .i64 i2)) ∧
 ∃ p1 : Addr, SlAt l i1 6 p1 ∧
 ∃ k2 k3 : Nat, ∃ z0 : List Value, ∃ k4 : Nat, p1 = ⟨k2, k3, none⟩ ∧
 Blk w1 k2 k4 z0 ∧
 (k3 + 6) ≤ z0.length ∧
 ∀ w2 : World, Only [k2] w1 w2 → Blk w2 k2 k4 (splice z0 k3 [.int .i64 (-7), .int .i64 0, .string (ByteArray.mk #[]), .int .i64 0, Sl.nil.v, .int .i64 0]) → ∃ k5 : Nat, k5 < k1 ∧
 J0 k5 (IntKind.wrap .i64 ((IntKind.wrap .i64 (i0 + 1)) + i2)) (IntKind.wrap .i64 (i1 + 1)) w2) ∧
 ((decide (i1 < (l.n : Int))) = false → R (.int .i64 i0) w0)
theorem pavanelaw05_Spoil_wp (l : Sl) (R : Value → World → Prop) (w : World) (h : pavanelaw05_Spoil_vc l R w) : Calls Tryz.prog 81 #[l.v] w fun e w' => ∃ v, e = .returned v ∧ R v w' :=
 fn_by (an := .s .o (.s .o (.s (.s .o (.j [0] [.s 3 (.int .i64), .s 4 (.int .i64)] (.s (.s .o (.s .o .o)) (.s (.s .o .o) .o)) .o)) (.s .o .o)))) (args := [.sl l]) Tryz.checked.mixed (by kernel_rfl) (by kernel_rfl) h
def pavaneref04_letter_vc (c : Int) (R : Value → World → Prop) (w : World) : Prop :=
 R (.bool ((((decide (c ≥ 65)) && (decide (c ≤ 90))) || ((decide (c ≥ 97)) && (decide (c ≤ 122)))) || (c == 95))) w
theorem pavaneref04_letter_wp (c : Int) (R : Value → World → Prop) (w : World) (h : pavaneref04_letter_vc c R w) : Calls Tryz.prog 82 #[.int .u8 c] w fun e w' => ∃ v, e = .returned v ∧ R v w' :=
 fn_by (an := .s .o (.s .o .o)) (args := [.int .u8 c]) Tryz.checked.mixed (by kernel_rfl) (by kernel_rfl) h
def pavaneref04_digit_vc (c : Int) (R : Value → World → Prop) (w : World) : Prop :=
 R (.bool ((decide (c ≥ 48)) && (decide (c ≤ 57)))) w
theorem pavaneref04_digit_wp (c : Int) (R : Value → World → Prop) (w : World) (h : pavaneref04_digit_vc c R w) : Calls Tryz.prog 83 #[.int .u8 c] w fun e w' => ∃ v, e = .returned v ∧ R v w' :=
 fn_by (an := .s .o (.s .o .o)) (args := [.int .u8 c]) Tryz.checked.mixed (by kernel_rfl) (by kernel_rfl) h
def pavaneref04_row_vc (s : ByteArray) (at_ : Int) (R : Value → World → Prop) (w : World) : Prop :=
 ∃ J0 : Int → World → Prop, (∀ i0 : Int, ∀ w0 : World, J0 i0 w0 → R (.int .i64 i0) w0) ∧
 ∃ J1 : Nat → Int → World → Prop, ∃ k0 : Nat, J1 k0 0 w ∧
 ∀ k1 : Nat, ∀ i1 : Int, ∀ w1 : World, J1 k1 i1 w1 → ((decide ((IntKind.wrap .i64 (at_ + i1)) < (s.size : Int))) = true → ∃ c0 : UInt8, (0 ≤ (IntKind.wrap .i64 (at_ + i1)) ∧
 (s[Int.toNat (IntKind.wrap .i64 (at_ + i1))]?) = (some c0)) ∧
 Calls Tryz.prog 82 #[.int .u8 (UInt8.toNat c0 : Int)] w1 fun e0 w2 => ∃ b0 : Bool, e0 = (.returned (.bool b0)) ∧
 ∃ c1 : UInt8, (0 ≤ (IntKind.wrap .i64 (at_ + i1)) ∧
 (s[Int.toNat (IntKind.wrap .i64 (at_ + i1))]?) = (some c1)) ∧
 Calls Tryz.prog 83 #[.int .u8 (UInt8.toNat c1 : Int)] w2 fun e1 w3 => ∃ b1 : Bool, e1 = (.returned (.bool b1)) ∧
 (((!b0) && (!b1)) = true → J0 i1 w3) ∧
 (((!b0) && (!b1)) = false → ∃ k4 : Nat, k4 < k1 ∧
 J1 k4 (IntKind.wrap .i64 (i1 + 1)) w3)) ∧
 ((decide ((IntKind.wrap .i64 (at_ + i1)) < (s.size : Int))) = false → J0 i1 w1)
theorem pavaneref04_row_wp (s : ByteArray) (at_ : Int) (R : Value → World → Prop) (w : World) (h : pavaneref04_row_vc s at_ R w) : Calls Tryz.prog 84 #[.string s, .int .i64 at_] w fun e w' => ∃ v, e = .returned v ∧ R v w' :=
 fn_by (an := .s .o (.s .o (.j [] [.s 5 (.int .i64)] (.j [0, 1] [.s 5 (.int .i64)] (.s (.s .o (.s .o .o)) (.s .o (.s .o (.s (.s .o (.s .o .o)) .o)))) .o) (.s .o .o)))) (args := [.str s, .int .i64 at_]) Tryz.checked.mixed (by kernel_rfl) (by kernel_rfl) h
def pavaneref04_Word_vc (s : ByteArray) (R : Value → World → Prop) (w : World) : Prop :=
 Calls Tryz.prog 112 #[] w fun e0 w0 => ∃ l0 : Sl, e0 = (.returned l0.v) ∧
 ∃ J0 : Nat → Int → World → Prop, ∃ k0 : Nat, J0 k0 0 w0 ∧
 ∀ k1 : Nat, ∀ i0 : Int, ∀ w1 : World, J0 k1 i0 w1 → ((decide (i0 < (l0.n : Int))) = true → ∃ p0 : Addr, SlAt l0 i0 1 p0 ∧
 ∃ s0 : ByteArray, Cells w1 p0 [.string s0] ∧
 ((s0.toList == s.toList) = true → R (.bool true) w1) ∧
 ((s0.toList == s.toList) = false → ∃ k2 : Nat, k2 < k1 ∧
 J0 k2 (IntKind.wrap .i64 (i0 + 1)) w1)) ∧
 ((decide (i0 < (l0.n : Int))) = false → R (.bool false) w1)
theorem pavaneref04_Word_wp (s : ByteArray) (R : Value → World → Prop) (w : World) (h : pavaneref04_Word_vc s R w) : Calls Tryz.prog 85 #[.string s] w fun e w' => ∃ v, e = .returned v ∧ R v w' :=
 fn_by (an := .s .o (.s .o (.s (.s .o (.j [0, 3] [.s 4 (.int .i64)] (.s (.s .o (.s .o .o)) (.s (.s .o (.s (.s .o .o) .o)) .o)) .o)) (.s .o .o)))) (args := [.str s]) Tryz.checked.mixed (by kernel_rfl) (by kernel_rfl) h
def pavaneref03_Parse_vc (s : ByteArray) (R : Value → World → Prop) (w : World) : Prop :=
 (((s.size : Int) == 0) = true → R (.tuple #[.int .i64 0, .int .i64 0, .int .i64 3]) w) ∧
 (((s.size : Int) == 0) = false → ∃ J0 : Nat → Int → World → Prop, ∃ k0 : Nat, J0 k0 0 w ∧
 ∀ k1 : Nat, ∀ i0 : Int, ∀ w0 : World, J0 k1 i0 w0 → ∃ c0 : UInt8, ((decide (i0 < (s.size : Int))) = true → 0 ≤ i0 ∧
 (s[Int.toNat i0]?) = (some c0)) ∧
 ∃ c1 : UInt8, (((decide (i0 < (s.size : Int))) && (decide ((UInt8.toNat c0 : Int) ≥ 48))) = true → 0 ≤ i0 ∧
 (s[Int.toNat i0]?) = (some c1)) ∧
 ((((decide (i0 < (s.size : Int))) && (decide ((UInt8.toNat c0 : Int) ≥ 48))) && (decide ((UInt8.toNat c1 : Int) ≤ 57))) = true → ∃ k4 : Nat, k4 < k1 ∧
 J0 k4 (IntKind.wrap .i64 (i0 + 1)) w0) ∧
 ((((decide (i0 < (s.size : Int))) && (decide ((UInt8.toNat c0 : Int) ≥ 48))) && (decide ((UInt8.toNat c1 : Int) ≤ 57))) = false → ∃ c2 : UInt8, ((i0 == 0) = false → (decide (i0 > 1)) = true → (0 : Int) ≤ 0 ∧
 s[0]? = (some c2)) ∧
 (((i0 == 0) || ((decide (i0 > 1)) && ((UInt8.toNat c2 : Int) == 48))) = true → R (.tuple #[.int .i64 0, .int .i64 0, .int .i64 4]) w0) ∧
 (((i0 == 0) || ((decide (i0 > 1)) && ((UInt8.toNat c2 : Int) == 48))) = false → ∃ J1 : Nat → Int → Int → World → Prop, ∃ k6 : Nat, J1 k6 0 0 w0 ∧
 ∀ k7 : Nat, ∀ i1 i2 : Int, ∀ w1 : World, J1 k7 i1 i2 w1 → ((decide (i2 < i0)) = true → ∃ c3 : UInt8, (0 ≤ i2 ∧
 (s[Int.toNat i2]?) = (some c3)) ∧
 ((decide (i1 > (IntKind.wrap .i64 ((IntKind.wrap .i64 (9223372036854775807 - (IntKind.wrap .i64 (IntKind.wrap .u8 ((UInt8.toNat c3 : Int) - 48))))).tdiv 10)))) = true → R (.tuple #[.int .i64 0, .int .i64 0, .int .i64 20]) w1) ∧
 ((decide (i1 > (IntKind.wrap .i64 ((IntKind.wrap .i64 (9223372036854775807 - (IntKind.wrap .i64 (IntKind.wrap .u8 ((UInt8.toNat c3 : Int) - 48))))).tdiv 10)))) = false → ∃ k9 : Nat, k9 < k7 ∧
 J1 k9 (IntKind.wrap .i64 ((IntKind.wrap .i64 (10 * i1)) + (IntKind.wrap .i64 (IntKind.wrap .u8 ((UInt8.toNat c3 : Int) - 48))))) (IntKind.wrap .i64 (i2 + 1)) w1)) ∧
 ((decide (i2 < i0)) = false → R (.tuple #[.int .i64 i1, .int .i64 i0, .int .i64 0]) w1))))
theorem pavaneref03_Parse_wp (s : ByteArray) (R : Value → World → Prop) (w : World) (h : pavaneref03_Parse_vc s R w) : Calls Tryz.prog 86 #[.string s] w fun e w' => ∃ v, e = .returned v ∧ R v w' :=
 fn_by (an := .s .o (.s (.s .o (.s (.s .o .o) .o)) (.s .o (.s (.j [0] [.s 5 (.int .i64)] (.s (.s .o (.s .o .o)) .o) .o) (.s (.s .o (.s (.s .o .o) .o)) (.s .o (.s (.s .o (.j [0, 5] [.s 6 (.int .i64), .s 7 (.int .i64)] (.s (.s .o (.s .o .o)) (.s (.s .o (.s (.s .o (.s (.s .o .o) .o)) .o)) .o)) .o)) (.s .o .o)))))))) (args := [.str s]) Tryz.checked.mixed (by kernel_rfl) (by kernel_rfl) h
def pavaneref04_sign_vc (s : ByteArray) (at_ : Int) (R : Value → World → Prop) (w : World) : Prop :=
 ∃ l0 : Sl, ∃ w0 : World, ((Instr.buildSlice 25 7 #[.mk 0 (.string (ByteArray.mk #[45, 62])), .mk 1 (.string (ByteArray.mk #[60, 61])), .mk 2 (.string (ByteArray.mk #[62, 61])), .mk 3 (.string (ByteArray.mk #[61, 61])), .mk 4 (.string (ByteArray.mk #[33, 61])), .mk 5 (.string (ByteArray.mk #[38, 38])), .mk 6 (.string (ByteArray.mk #[124, 124]))]).run Tryz.prog w) = (.ok l0.v w0) ∧
 ∃ J0 : Nat → Int → World → Prop, ∃ k0 : Nat, J0 k0 0 w0 ∧
 ∀ k1 : Nat, ∀ i0 : Int, ∀ w1 : World, J0 k1 i0 w1 → ((decide (i0 < (l0.n : Int))) = true → ∃ k2 k3 : Nat, ((decide ((IntKind.wrap .i64 (at_ + 2)) ≤ (s.size : Int))) = true → at_ = (k2 : Int) ∧
 (IntKind.wrap .i64 (at_ + 2)) = (k3 : Int) ∧
 k2 ≤ k3 ∧
 k3 ≤ s.size) ∧
 ∃ p0 : Addr, ((decide ((IntKind.wrap .i64 (at_ + 2)) ≤ (s.size : Int))) = true → SlAt l0 i0 1 p0) ∧
 ∃ s0 : ByteArray, ((decide ((IntKind.wrap .i64 (at_ + 2)) ≤ (s.size : Int))) = true → Cells w1 p0 [.string s0]) ∧
 (((decide ((IntKind.wrap .i64 (at_ + 2)) ≤ (s.size : Int))) && (((s.extract k2 k3).toList) == s0.toList)) = true → ∀ w2 : World, Only [] w1 w2 → R (.int .i64 2) w2) ∧
 (((decide ((IntKind.wrap .i64 (at_ + 2)) ≤ (s.size : Int))) && (((s.extract k2 k3).toList) == s0.toList)) = false → ∀ w3 : World, Only [] w1 w3 → ∃ k4 : Nat, k4 < k1 ∧
 J0 k4 (IntKind.wrap .i64 (i0 + 1)) w3)) ∧
 ((decide (i0 < (l0.n : Int))) = false → ∃ J1 : Nat → Int → World → Prop, ∃ k5 : Nat, J1 k5 0 w1 ∧
 ∀ k6 : Nat, ∀ i1 : Int, ∀ w4 : World, J1 k6 i1 w4 → ((decide (i1 < 17)) = true → ∃ c0 : UInt8, (0 ≤ at_ ∧
 (s[Int.toNat at_]?) = (some c0)) ∧
 ∃ c1 : UInt8, (0 ≤ i1 ∧
 ((ByteArray.mk #[123, 125, 40, 41, 91, 93, 59, 44, 61, 43, 45, 42, 47, 37, 60, 62, 33])[Int.toNat i1]?) = (some c1)) ∧
 (((UInt8.toNat c0 : Int) == (UInt8.toNat c1 : Int)) = true → ∀ w5 : World, Only [] w4 w5 → R (.int .i64 1) w5) ∧
 (((UInt8.toNat c0 : Int) == (UInt8.toNat c1 : Int)) = false → ∀ w6 : World, Only [] w4 w6 → ∃ k9 : Nat, k9 < k6 ∧
 J1 k9 (IntKind.wrap .i64 (i1 + 1)) w6)) ∧
 ((decide (i1 < 17)) = false → R (.int .i64 0) w4))
theorem pavaneref04_sign_wp (s : ByteArray) (at_ : Int) (R : Value → World → Prop) (w : World) (h : pavaneref04_sign_vc s at_ R w) : Calls Tryz.prog 87 #[.string s, .int .i64 at_] w fun e w' => ∃ v, e = .returned v ∧ R v w' :=
 fn_by (an := .s .o (.s .o (.s (.s .o (.j [0, 1, 5] [.s 6 (.int .i64)] (.s (.s .o (.s .o .o)) (.s (.s .o (.s (.s .o .o) .o)) .o)) .o)) (.s .o (.s (.s .o (.j [0, 1, 7] [.s 8 (.int .i64)] (.s (.s .o (.s .o .o)) (.s (.s .o (.s (.s .o .o) .o)) .o)) .o)) (.s .o .o)))))) (args := [.str s, .int .i64 at_]) Tryz.checked.mixed (by kernel_rfl) (by kernel_rfl) h
def syntax_reader_move_vc (r : Addr) (kind : Int) (R : Value → World → Prop) (w : World) : Prop :=
 ∀ k0 : Nat, ∀ w0 : World, w.heap.size ≤ k0 → k0 < w0.heap.size → Only [] w w0 → ∃ J0 : Nat → Prop, J0 (((r.add 0).add 0).block) ∧
 ∃ l0 : Sl, Cells w0 ((r.add 0).add 0) [l0.v] ∧
 J0 (((r.add 0).add 1).block) ∧
 ∃ i0 : Int, Cells w0 ((r.add 0).add 1) [.int .i64 i0] ∧
 ∃ p0 : Addr, SlAt l0 i0 4 p0 ∧
 J0 ((p0.add 3).block) ∧
 ∃ i1 : Int, Cells w0 (p0.add 3) [.int .i64 i1] ∧
 ∀ k1 : Nat, ∀ w1 : World, w0.heap.size ≤ k1 → k1 < w1.heap.size → Only [] w0 w1 → Calls Tryz.prog 61 #[.pointer (some r), .pointer (some ((r.add 4).add 3)), .int .i64 2] w1 fun e0 w2 => e0 = (.returned (.tuple #[])) ∧
 Same [k0, k1] w1 w2 ∧
 Calls Tryz.prog 34 #[.pointer (some (r.add 0))] w2 fun e1 w3 => ∃ b0 : Bool, e1 = (.returned (.bool b0)) ∧
 Same [k0, k1] w2 w3 ∧
 ((!b0) = true → ∀ w4 : World, Only [k0] w3 w4 → R (.agg #[.int .i64 kind, .string (ByteArray.mk #[]), .int .i64 0, .bool false, .int .i64 0, .int .i64 0, .string (ByteArray.mk #[]), .int .i64 0, Sl.nil.v, .int .i64 0, Sl.nil.v, Sl.nil.v, .int .i64 i1]) w4) ∧
 ((!b0) = false → ∃ i2 : Int, Cells w3 ((r.add 0).add 1) [.int .i64 i2] ∧
 ∃ k2 k3 : Nat, ∃ z0 : List Value, ∃ k4 : Nat, ((r.add 0).add 1) = ⟨k2, k3, none⟩ ∧
 Blk w3 k2 k4 z0 ∧
 (k3 + 1) ≤ z0.length ∧
 k0 ≠ k2 ∧
 k1 ≠ k2 ∧
 ∀ w5 : World, Only [k2] w3 w5 → Blk w5 k2 k4 (splice z0 k3 [.int .i64 (IntKind.wrap .i64 (i2 + 1))]) → ∃ J1 : Int → ByteArray → Int → Bool → Int → Int → ByteArray → Int → Sl → Int → Sl → Sl → Int → World → Prop, (∀ i3 : Int, ∀ s0 : ByteArray, ∀ i4 : Int, ∀ b1 : Bool, ∀ i5 i6 : Int, ∀ s1 : ByteArray, ∀ i7 : Int, ∀ l1 : Sl, ∀ i8 : Int, ∀ l2 l3 : Sl, ∀ i9 : Int, ∀ w6 : World, J1 i3 s0 i4 b1 i5 i6 s1 i7 l1 i8 l2 l3 i9 w6 → ∃ J2 : Int → ByteArray → Int → Bool → Int → Int → ByteArray → Int → Sl → Int → Sl → Sl → Int → World → Prop, (∀ i10 : Int, ∀ s2 : ByteArray, ∀ i11 : Int, ∀ b2 : Bool, ∀ i12 i13 : Int, ∀ s3 : ByteArray, ∀ i14 : Int, ∀ l4 : Sl, ∀ i15 : Int, ∀ l5 l6 : Sl, ∀ i16 : Int, ∀ w7 : World, J2 i10 s2 i11 b2 i12 i13 s3 i14 l4 i15 l5 l6 i16 w7 → ∃ J3 : Int → ByteArray → Int → Bool → Int → Int → ByteArray → Int → Sl → Int → Sl → Sl → Int → World → Prop, (∀ i17 : Int, ∀ s4 : ByteArray, ∀ i18 : Int, ∀ b3 : Bool, ∀ i19 i20 : Int, ∀ s5 : ByteArray, ∀ i21 : Int, ∀ l7 : Sl, ∀ i22 : Int, ∀ l8 l9 : Sl, ∀ i23 : Int, ∀ w8 : World, J3 i17 s4 i18 b3 i19 i20 s5 i21 l7 i22 l8 l9 i23 w8 → ∃ J4 : Nat → ByteArray → Int → ByteArray → Int → Bool → Int → Int → ByteArray → Int → Sl → Int → Sl → Sl → Int → World → Prop, ∃ k5 : Nat, J4 k5 (ByteArray.mk #[45, 62]) i17 s4 i18 b3 i19 i20 s5 i21 l7 i22 l8 l9 i23 w8 ∧
 ∀ k6 : Nat, ∀ s6 : ByteArray, ∀ i24 : Int, ∀ s7 : ByteArray, ∀ i25 : Int, ∀ b4 : Bool, ∀ i26 i27 : Int, ∀ s8 : ByteArray, ∀ i28 : Int, ∀ l10 : Sl, ∀ i29 : Int, ∀ l11 l12 : Sl, ∀ i30 : Int, ∀ w9 : World, J4 k6 s6 i24 s7 i25 b4 i26 i27 s8 i28 l10 i29 l11 l12 i30 w9 → ∃ l13 : Sl, ∃ w10 : World, ((Instr.buildSlice 25 1 #[.mk 0 (.string s6)]).run Tryz.prog w9) = (.ok l13.v w10) ∧
 Same [k0, k1] w9 w10 ∧
 Calls Tryz.prog 31 #[.pointer (some (r.add 0)), l13.v] w10 fun e2 w11 => ∃ i31 : Int, e2 = (.returned (.int .i64 i31)) ∧
 Same [k0, k1] w10 w11 ∧
 ((decide (i31 > 0)) = true → ∀ w12 : World, Only [] w11 w12 → ∃ J5 : Nat → Prop, J5 k1 ∧
 Calls Tryz.prog 108 #[.pointer (some (r.add 0))] w12 fun e3 w13 => ∃ s9 : ByteArray, e3 = (.returned (.string s9)) ∧
 Same [k0, k1] w12 w13 ∧
 Keeps J5 w12 w13 ∧
 ∃ l14 : Sl, ∃ w14 : World, ((Instr.buildSlice 25 1 #[.mk 0 (.string s9)]).run Tryz.prog w13) = (.ok l14.v w14) ∧
 Same [k0, k1] w13 w14 ∧
 Keeps J5 w13 w14 ∧
 ∃ l15 : Sl, ∃ w15 : World, ((Builtin.append_ #[25, 25] 25 #[l12.v, l14.v]).run Tryz.prog w14) = (.ok l15.v w15) ∧
 Same [k0, k1] w14 w15 ∧
 Keeps J5 w14 w15 ∧
 ∀ w16 : World, Only [k1] w15 w16 → ∃ k7 : Nat, k7 < k6 ∧
 J4 k7 (ByteArray.mk #[44]) i24 s7 i25 b4 i26 i27 s8 i28 l10 i29 l11 l15 i30 w16) ∧
 ((decide (i31 > 0)) = false → ∃ l16 : Sl, ∃ w17 : World, ((Instr.buildSlice 25 1 #[.mk 0 (.string (ByteArray.mk #[59]))]).run Tryz.prog w11) = (.ok l16.v w17) ∧
 Same [k0, k1] w11 w17 ∧
 Calls Tryz.prog 29 #[.pointer (some (r.add 0)), l16.v] w17 fun e4 w18 => e4 = (.returned (.tuple #[])) ∧
 Same [k0, k1] w17 w18 ∧
 ∀ w19 : World, Only [k0] w18 w19 → R (.agg #[.int .i64 i24, .string s7, .int .i64 i25, .bool b4, .int .i64 i26, .int .i64 i27, .string s8, .int .i64 i28, l10.v, .int .i64 i29, l11.v, l12.v, .int .i64 i30]) w19)) ∧
 ∃ l17 : Sl, ∃ w20 : World, ((Instr.buildSlice 25 1 #[.mk 0 (.string (ByteArray.mk #[123]))]).run Tryz.prog w7) = (.ok l17.v w20) ∧
 Same [k0, k1] w7 w20 ∧
 Calls Tryz.prog 64 #[.pointer (some (r.add 0)), l17.v] w20 fun e5 w21 => ∃ i32 : Int, e5 = (.returned (.int .i64 i32)) ∧
 Same [k0, k1] w20 w21 ∧
 ((decide (i32 > 0)) = true → Calls Tryz.prog 109 #[.pointer (some r)] w21 fun e6 w22 => ∃ l18 : Sl, e6 = (.returned l18.v) ∧
 Same [k0, k1] w21 w22 ∧
 ∀ w23 : World, Only [k1] w22 w23 → J3 i10 s2 i11 b2 i12 i13 s3 i14 l4 i15 l18 l6 i16 w23) ∧
 ((decide (i32 > 0)) = false → J3 i10 s2 i11 b2 i12 i13 s3 i14 l4 i15 l5 l6 i16 w21)) ∧
 ∃ l19 : Sl, ∃ w24 : World, ((Instr.buildSlice 25 1 #[.mk 0 (.string (ByteArray.mk #[91]))]).run Tryz.prog w6) = (.ok l19.v w24) ∧
 Same [k0, k1] w6 w24 ∧
 Calls Tryz.prog 31 #[.pointer (some (r.add 0)), l19.v] w24 fun e7 w25 => ∃ i33 : Int, e7 = (.returned (.int .i64 i33)) ∧
 Same [k0, k1] w24 w25 ∧
 ((decide (i33 > 0)) = true → ∀ w26 : World, Only [k1] w25 w26 → Calls Tryz.prog 121 #[.pointer (some (r.add 0))] w26 fun e8 w27 => ∃ i34 i35 : Int, ∃ s10 : ByteArray, ∃ i36 : Int, ∃ l20 : Sl, ∃ i37 : Int, e8 = (.returned (.agg #[.int .i64 i34, .int .i64 i35, .string s10, .int .i64 i36, l20.v, .int .i64 i37])) ∧
 Same [k0, k1] w26 w27 ∧
 ∀ w28 : World, Only [k1] w27 w28 → ∃ l21 : Sl, ∃ w29 : World, ((Instr.buildSlice 25 1 #[.mk 0 (.string (ByteArray.mk #[93]))]).run Tryz.prog w28) = (.ok l21.v w29) ∧
 Same [k0, k1] w28 w29 ∧
 Calls Tryz.prog 29 #[.pointer (some (r.add 0)), l21.v] w29 fun e9 w30 => e9 = (.returned (.tuple #[])) ∧
 Same [k0, k1] w29 w30 ∧
 J2 i3 s0 i4 (decide (i33 > 0)) i34 i35 s10 i36 l20 i37 l2 l3 i9 w30) ∧
 ((decide (i33 > 0)) = false → ∀ w31 : World, Only [k1] w25 w31 → J2 i3 s0 i4 (decide (i33 > 0)) i5 i6 s1 i7 l1 i8 l2 l3 i9 w31)) ∧
 ((kind == 1) = true → Calls Tryz.prog 108 #[.pointer (some (r.add 0))] w5 fun e10 w32 => ∃ s11 : ByteArray, e10 = (.returned (.string s11)) ∧
 Same [k0, k1] w5 w32 ∧
 ∀ w33 : World, Only [k1] w32 w33 → J1 kind s11 0 false 0 0 (ByteArray.mk #[]) 0 Sl.nil 0 Sl.nil Sl.nil i1 w33) ∧
 ((kind == 1) = false → ((kind == 3) = true → Calls Tryz.prog 63 #[.pointer (some (r.add 0)), .int .i64 3] w5 fun e11 w34 => ∃ i38 : Int, ∃ s12 : ByteArray, ∃ i39 i40 : Int, e11 = (.returned (.agg #[.int .i64 i38, .string s12, .int .i64 i39, .int .i64 i40])) ∧
 Same [k0, k1] w5 w34 ∧
 ∀ w35 : World, Only [k1] w34 w35 → J1 kind (ByteArray.mk #[]) i39 false 0 0 (ByteArray.mk #[]) 0 Sl.nil 0 Sl.nil Sl.nil i1 w35) ∧
 ((kind == 3) = false → J1 kind (ByteArray.mk #[]) 0 false 0 0 (ByteArray.mk #[]) 0 Sl.nil 0 Sl.nil Sl.nil i1 w5)))
theorem syntax_reader_move_wp (r : Addr) (kind : Int) (R : Value → World → Prop) (w : World) (h : syntax_reader_move_vc r kind R w) : Calls Tryz.prog 107 #[.pointer (some r), .int .i64 kind] w fun e w' => ∃ v, e = .returned v ∧ R v w' :=
 fn_by (an := .s .o (.s .o (.s (.s .o (.s .o (.s (.s .o .o) .o))) (.s .o (.j [0, 4, 5] [.b 5 [.int .i64, .str, .int .i64, .bool, .int .i64, .int .i64, .str, .int .i64, .sl, .int .i64, .sl, .sl, .int .i64]] (.s .o (.s .o (.s .o (.s .o (.s .o .o))))) (.j [0, 4, 5] [.b 5 [.int .i64, .str, .int .i64, .bool, .int .i64, .int .i64, .str, .int .i64, .sl, .int .i64, .sl, .sl, .int .i64]] (.s .o (.s .o (.s (.s .o .o) .o))) (.j [0, 4, 5] [.b 5 [.int .i64, .str, .int .i64, .bool, .int .i64, .int .i64, .str, .int .i64, .sl, .int .i64, .sl, .sl, .int .i64]] (.s .o (.s .o .o)) (.s (.s .o (.j [0, 4, 5] [.s 6 .str, .b 5 [.int .i64, .str, .int .i64, .bool, .int .i64, .int .i64, .str, .int .i64, .sl, .int .i64, .sl, .sl, .int .i64]] (.s (.s .o (.s .o .o)) (.s .o .o)) .o)) (.s .o (.s .o .o)))))))))) (args := [.ad r, .int .i64 kind]) Tryz.checked.mixed (by kernel_rfl) (by kernel_rfl) h
def syntax_cursor_name_vc (c : Addr) (R : Value → World → Prop) (w : World) : Prop :=
 Calls Tryz.prog 63 #[.pointer (some c), .int .i64 1] w fun e0 w0 => ∃ i0 : Int, ∃ s0 : ByteArray, ∃ i1 i2 : Int, e0 = (.returned (.agg #[.int .i64 i0, .string s0, .int .i64 i1, .int .i64 i2])) ∧
 R (.string s0) w0
theorem syntax_cursor_name_wp (c : Addr) (R : Value → World → Prop) (w : World) (h : syntax_cursor_name_vc c R w) : Calls Tryz.prog 108 #[.pointer (some c)] w fun e w' => ∃ v, e = .returned v ∧ R v w' :=
 fn_by (an := .s .o (.s .o .o)) (args := [.ad c]) Tryz.checked.mixed (by kernel_rfl) (by kernel_rfl) h
def syntax_reader_block_vc (r : Addr) (R : Value → World → Prop) (w : World) : Prop :=
 ∀ k0 k1 : Nat, ∀ w0 : World, w.heap.size ≤ k0 → k0 < w0.heap.size → w.heap.size ≤ k1 → k1 < w0.heap.size → Only [] w w0 → ∃ l0 : Sl, ∃ w1 : World, ((Instr.buildSlice 25 1 #[.mk 0 (.string (ByteArray.mk #[123]))]).run Tryz.prog w0) = (.ok l0.v w1) ∧
 Same [k0, k1] w0 w1 ∧
 Calls Tryz.prog 29 #[.pointer (some (r.add 0)), l0.v] w1 fun e0 w2 => e0 = (.returned (.tuple #[])) ∧
 Same [k0, k1] w1 w2 ∧
 (Blk w2 k0 76 [.pointer (some r)] → Blk w2 k1 41 [Sl.nil.v] → Calls Tryz.prog 122 #[.pointer (some r), .string (ByteArray.mk #[125]), .func (.func 123) #[] #[.pointer (some ⟨k1, 0, none⟩), .pointer (some ⟨k0, 0, none⟩)]] w2 fun e1 w3 => e1 = (.returned (.tuple #[])) ∧
 ∃ q0 : Option Addr, Blk w3 k0 76 [.pointer q0] ∧
 ∃ l1 : Sl, Blk w3 k1 41 [l1.v] ∧
 R l1.v w3)
theorem syntax_reader_block_wp (r : Addr) (R : Value → World → Prop) (w : World) (h : syntax_reader_block_vc r R w) : Calls Tryz.prog 109 #[.pointer (some r)] w fun e w' => ∃ v, e = .returned v ∧ R v w' :=
 fn_by (an := .s .o (.s .o (.s .o (.s .o (.s .o .o))))) (args := [.ad r]) Tryz.checked.mixed (by kernel_rfl) (by kernel_rfl) h
def pavaneref07_reader_act_vc (r : Addr) (R : Value → World → Prop) (w : World) : Prop :=
 ∀ k0 : Nat, ∀ w0 : World, w.heap.size ≤ k0 → k0 < w0.heap.size → Only [] w w0 → ∃ J0 : Nat → Prop, J0 ((r.add 0).block) ∧
 ∃ l0 : Sl, Cells w0 (r.add 0) [l0.v] ∧
 J0 ((r.add 1).block) ∧
 ∃ i0 : Int, Cells w0 (r.add 1) [.int .i64 i0] ∧
 ∃ p0 : Addr, SlAt l0 i0 4 p0 ∧
 J0 ((p0.add 3).block) ∧
 ∃ i1 : Int, Cells w0 (p0.add 3) [.int .i64 i1] ∧
 ∀ k1 : Nat, ∀ w1 : World, w0.heap.size ≤ k1 → k1 < w1.heap.size → Only [] w0 w1 → ∃ l1 : Sl, ∃ w2 : World, ((Instr.buildSlice 25 3 #[.mk 0 (.string (ByteArray.mk #[115, 101, 116])), .mk 1 (.string (ByteArray.mk #[114, 97, 105, 115, 101])), .mk 2 (.string (ByteArray.mk #[101, 109, 105, 116]))]).run Tryz.prog w1) = (.ok l1.v w2) ∧
 Same [k0, k1] w1 w2 ∧
 ∃ J1 : Nat → Int → Int → ByteArray → Int → Int → ByteArray → Int → Sl → Int → Int → World → Prop, ∃ k2 : Nat, J1 k2 0 0 (ByteArray.mk #[]) 0 0 (ByteArray.mk #[]) 0 Sl.nil 0 i1 w2 ∧
 ∀ k3 : Nat, ∀ i2 i3 : Int, ∀ s0 : ByteArray, ∀ i4 i5 : Int, ∀ s1 : ByteArray, ∀ i6 : Int, ∀ l2 : Sl, ∀ i7 i8 : Int, ∀ w3 : World, J1 k3 i2 i3 s0 i4 i5 s1 i6 l2 i7 i8 w3 → ((decide (i2 < 3)) = true → ∃ J2 : Int → ByteArray → Int → Int → ByteArray → Int → Sl → Int → Int → World → Prop, (∀ i9 : Int, ∀ s2 : ByteArray, ∀ i10 i11 : Int, ∀ s3 : ByteArray, ∀ i12 : Int, ∀ l3 : Sl, ∀ i13 i14 : Int, ∀ w4 : World, J2 i9 s2 i10 i11 s3 i12 l3 i13 i14 w4 → ∃ k4 : Nat, k4 < k3 ∧
 J1 k4 (IntKind.wrap .i64 (i2 + 1)) i9 s2 i10 i11 s3 i12 l3 i13 i14 w4) ∧
 ∃ p1 : Addr, SlAt l1 i2 1 p1 ∧
 ∃ s4 : ByteArray, Cells w3 p1 [.string s4] ∧
 Calls Tryz.prog 72 #[.pointer (some r), .int .i64 2, .string s4] w3 fun e0 w5 => ∃ b0 : Bool, e0 = (.returned (.bool b0)) ∧
 Same [k0, k1] w3 w5 ∧
 (b0 = true → ∀ w6 : World, Only [k1] w5 w6 → J2 (IntKind.wrap .i64 (i2 + 1)) s0 i4 i5 s1 i6 l2 i7 i8 w6) ∧
 (b0 = false → J2 i3 s0 i4 i5 s1 i6 l2 i7 i8 w5)) ∧
 ((decide (i2 < 3)) = false → ((i3 == 0) = true → Calls Tryz.prog 40 #[.pointer (some r)] w3 fun e1 w7 => e1 = (.returned (.tuple #[])) ∧
 Same [k0, k1] w3 w7 ∧
 ∀ w8 : World, Only [k0] w7 w8 → R (.agg #[.int .i64 i3, .string s0, .int .i64 i4, .int .i64 i5, .string s1, .int .i64 i6, l2.v, .int .i64 i7, .int .i64 i8]) w8) ∧
 ((i3 == 0) = false → ∃ i15 : Int, Cells w3 (r.add 4) [.int .i64 i15] ∧
 ((i15 == 400) = true → Calls Tryz.prog 68 #[.pointer (some r), .int .i64 2] w3 fun e2 w9 => e2 = (.returned (.tuple #[])) ∧
 Same [k0, k1] w3 w9 ∧
 ∀ w10 : World, Only [k0] w9 w10 → R (.agg #[.int .i64 i3, .string s0, .int .i64 i4, .int .i64 i5, .string s1, .int .i64 i6, l2.v, .int .i64 i7, .int .i64 i8]) w10) ∧
 ((i15 == 400) = false → ∃ i16 : Int, Cells w3 (r.add 4) [.int .i64 i16] ∧
 ∃ k5 k6 : Nat, ∃ z0 : List Value, ∃ k7 : Nat, (r.add 4) = ⟨k5, k6, none⟩ ∧
 Blk w3 k5 k7 z0 ∧
 (k6 + 1) ≤ z0.length ∧
 k0 ≠ k5 ∧
 k1 ≠ k5 ∧
 ∀ w11 : World, Only [k5] w3 w11 → Blk w11 k5 k7 (splice z0 k6 [.int .i64 (IntKind.wrap .i64 (i16 + 1))]) → ∃ i17 : Int, Cells w11 (r.add 1) [.int .i64 i17] ∧
 ∃ k8 k9 : Nat, ∃ z1 : List Value, ∃ k10 : Nat, (r.add 1) = ⟨k8, k9, none⟩ ∧
 Blk w11 k8 k10 z1 ∧
 (k9 + 1) ≤ z1.length ∧
 k0 ≠ k8 ∧
 k1 ≠ k8 ∧
 ∀ w12 : World, Only [k8] w11 w12 → Blk w12 k8 k10 (splice z1 k9 [.int .i64 (IntKind.wrap .i64 (i17 + 1))]) → Calls Tryz.prog 69 #[.pointer (some r)] w12 fun e3 w13 => ∃ s5 : ByteArray, ∃ i18 : Int, e3 = (.returned (.tuple #[.string s5, .int .i64 i18])) ∧
 Same [k0, k1] w12 w13 ∧
 ∀ w14 : World, Only [k1] w13 w14 → ∃ J3 : Int → ByteArray → Int → Int → ByteArray → Int → Sl → Int → Int → World → Prop, (∀ i19 : Int, ∀ s6 : ByteArray, ∀ i20 i21 : Int, ∀ s7 : ByteArray, ∀ i22 : Int, ∀ l4 : Sl, ∀ i23 i24 : Int, ∀ w15 : World, J3 i19 s6 i20 i21 s7 i22 l4 i23 i24 w15 → Calls Tryz.prog 36 #[.pointer (some r), .int .i64 4, .string (ByteArray.mk #[59])] w15 fun e4 w16 => e4 = (.returned (.tuple #[])) ∧
 Same [k0, k1] w15 w16 ∧
 ∀ w17 : World, Only [k0] w16 w17 → R (.agg #[.int .i64 i19, .string s6, .int .i64 i20, .int .i64 i21, .string s7, .int .i64 i22, l4.v, .int .i64 i23, .int .i64 i24]) w17) ∧
 ((i3 != 2) = true → Calls Tryz.prog 36 #[.pointer (some r), .int .i64 4, .string (ByteArray.mk #[61])] w14 fun e5 w18 => e5 = (.returned (.tuple #[])) ∧
 Same [k0, k1] w14 w18 ∧
 Calls Tryz.prog 111 #[.pointer (some r)] w18 fun e6 w19 => ∃ i25 i26 : Int, ∃ s8 : ByteArray, ∃ i27 : Int, ∃ l5 : Sl, ∃ i28 : Int, e6 = (.returned (.agg #[.int .i64 i25, .int .i64 i26, .string s8, .int .i64 i27, l5.v, .int .i64 i28])) ∧
 Same [k0, k1] w18 w19 ∧
 ∀ w20 : World, Only [k1] w19 w20 → J3 i3 s5 i25 i26 s8 i27 l5 i28 i8 w20) ∧
 ((i3 != 2) = false → J3 i3 s5 i4 i5 s1 i6 l2 i7 i8 w14))))
theorem pavaneref07_reader_act_wp (r : Addr) (R : Value → World → Prop) (w : World) (h : pavaneref07_reader_act_vc r R w) : Calls Tryz.prog 110 #[.pointer (some r)] w fun e w' => ∃ v, e = .returned v ∧ R v w' :=
 fn_by (an := .s .o (.s .o (.s .o (.s (.s .o (.j [0, 2, 3, 4] [.s 5 (.int .i64), .b 3 [.int .i64, .str, .int .i64, .int .i64, .str, .int .i64, .sl, .int .i64, .int .i64]] (.s (.s .o (.s .o .o)) (.j [0, 2, 3, 4, 5] [.b 3 [.int .i64, .str, .int .i64, .int .i64, .str, .int .i64, .sl, .int .i64, .int .i64]] (.s .o (.s .o (.s .o .o))) .o)) .o)) (.s (.s .o (.s (.s .o (.s .o .o)) .o)) (.s (.s .o (.s (.s .o (.s .o .o)) .o)) (.s .o (.s .o (.s .o (.j [0, 2, 3] [.b 3 [.int .i64, .str, .int .i64, .int .i64, .str, .int .i64, .sl, .int .i64, .int .i64]] (.s .o (.s (.s .o .o) .o)) (.s .o (.s .o .o)))))))))))) (args := [.ad r]) Tryz.checked.mixed (by kernel_rfl) (by kernel_rfl) h
def pavaneref07_reader_expr_vc (r : Addr) (R : Value → World → Prop) (w : World) : Prop :=
 ∀ k0 : Nat, ∀ w0 : World, w.heap.size ≤ k0 → k0 < w0.heap.size → Only [] w w0 → ∃ i0 : Int, Cells w0 ((r.add 6).add 0) [.int .i64 i0] ∧
 ((i0 != 0) = true → ∀ w1 : World, Only [k0] w0 w1 → R (.agg #[.int .i64 0, .int .i64 0, .string (ByteArray.mk #[]), .int .i64 0, Sl.nil.v, .int .i64 0]) w1) ∧
 ((i0 != 0) = false → ∀ w2 : World, Only [] w0 w2 → ∃ J0 : Nat → Prop, ∀ w3 : World, Only [] w2 w3 → J0 ((r.add 0).block) ∧
 ∃ l0 : Sl, Cells w3 (r.add 0) [l0.v] ∧
 ∀ w4 : World, Only [] w3 w4 → J0 ((r.add 1).block) ∧
 ∃ i1 : Int, Cells w4 (r.add 1) [.int .i64 i1] ∧
 ∀ w5 : World, Only [] w4 w5 → Calls Tryz.prog 125 #[l0.v, .int .i64 i1] w5 fun e0 w6 => ∃ i2 i3 : Int, ∃ s0 : ByteArray, ∃ i4 : Int, ∃ l1 : Sl, ∃ i5 i6 i7 i8 : Int, e0 = (.returned (.tuple #[.agg #[.int .i64 i2, .int .i64 i3, .string s0, .int .i64 i4, l1.v, .int .i64 i5], .int .i64 i6, .agg #[.int .i64 i7, .int .i64 i8]])) ∧
 Same [k0] w5 w6 ∧
 Newer w2 w5 w6 ∧
 Keeps J0 w5 w6 ∧
 ∀ w7 : World, Only [] w6 w7 → ∀ k1 : Nat, w2.heap.size ≤ k1 → k1 < w7.heap.size → Apart [.mk w5.heap.size w6.heap.size] k1 → ∀ k2 : Nat, w2.heap.size ≤ k2 → k2 < w7.heap.size → Apart [.mk w5.heap.size w6.heap.size] k2 → k1 ≠ k2 → ((i7 != 0) = true → ∀ w8 : World, Only [k2, k1] w7 w8 → ∃ k3 k4 : Nat, ∃ z0 : List Value, ∃ k5 : Nat, (r.add 6) = ⟨k3, k4, none⟩ ∧
 Blk w8 k3 k5 z0 ∧
 (k4 + 2) ≤ z0.length ∧
 k0 ≠ k3 ∧
 k1 ≠ k3 ∧
 k2 ≠ k3 ∧
 ∀ w9 : World, Only [k3] w8 w9 → Blk w9 k3 k5 (splice z0 k4 [.int .i64 i7, .int .i64 i8]) → ∀ w10 : World, Only [k0] w9 w10 → R (.agg #[.int .i64 0, .int .i64 0, .string (ByteArray.mk #[]), .int .i64 0, Sl.nil.v, .int .i64 0]) w10) ∧
 ((i7 != 0) = false → ∀ w11 : World, Only [k2, k1] w7 w11 → ∃ k6 k7 : Nat, ∃ z1 : List Value, ∃ k8 : Nat, (r.add 1) = ⟨k6, k7, none⟩ ∧
 Blk w11 k6 k8 z1 ∧
 (k7 + 1) ≤ z1.length ∧
 k0 ≠ k6 ∧
 k1 ≠ k6 ∧
 k2 ≠ k6 ∧
 ∀ w12 : World, Only [k6] w11 w12 → Blk w12 k6 k8 (splice z1 k7 [.int .i64 i6]) → ∀ w13 : World, Only [k0] w12 w13 → R (.agg #[.int .i64 i2, .int .i64 i3, .string s0, .int .i64 i4, l1.v, .int .i64 i5]) w13))
theorem pavaneref07_reader_expr_wp (r : Addr) (R : Value → World → Prop) (w : World) (h : pavaneref07_reader_expr_vc r R w) : Calls Tryz.prog 111 #[.pointer (some r)] w fun e w' => ∃ v, e = .returned v ∧ R v w' :=
 fn_by (an := .s .o (.s (.s .o (.s (.s .o .o) .o)) (.s (.l false [] []) (.s (.s .o (.s (.s .o (.s .o .o)) .o)) (.s .o (.s .o .o)))))) (args := [.ad r]) Tryz.checked.mixed (by kernel_rfl) (by kernel_rfl) h
def pavaneref04_Words_vc (R : Value → World → Prop) (w : World) : Prop :=
 ∃ l0 : Sl, ∃ w0 : World, ((Instr.buildSlice 25 16 #[.mk 0 (.string (ByteArray.mk #[97, 102, 116, 101, 114])), .mk 1 (.string (ByteArray.mk #[97, 108, 119, 97, 121, 115])), .mk 2 (.string (ByteArray.mk #[99, 104, 97, 114, 116])), .mk 3 (.string (ByteArray.mk #[100, 101, 101, 112])), .mk 4 (.string (ByteArray.mk #[101, 109, 105, 116])), .mk 5 (.string (ByteArray.mk #[101, 110, 116, 101, 114])), .mk 6 (.string (ByteArray.mk #[104, 105, 115, 116, 111, 114, 121])), .mk 7 (.string (ByteArray.mk #[105, 110])), .mk 8 (.string (ByteArray.mk #[105, 110, 105, 116, 105, 97, 108])), .mk 9 (.string (ByteArray.mk #[108, 101, 97, 118, 101])), .mk 10 (.string (ByteArray.mk #[111, 110])), .mk 11 (.string (ByteArray.mk #[112, 97, 114, 97, 108, 108, 101, 108])), .mk 12 (.string (ByteArray.mk #[114, 97, 105, 115, 101])), .mk 13 (.string (ByteArray.mk #[115, 101, 116])), .mk 14 (.string (ByteArray.mk #[115, 116, 97, 116, 101])), .mk 15 (.string (ByteArray.mk #[118, 97, 114]))]).run Tryz.prog w) = (.ok l0.v w0) ∧
 R l0.v w0
theorem pavaneref04_Words_wp (R : Value → World → Prop) (w : World) (h : pavaneref04_Words_vc R w) : Calls Tryz.prog 112 #[] w fun e w' => ∃ v, e = .returned v ∧ R v w' :=
 fn_by (an := .s .o (.s .o .o)) (args := []) Tryz.checked.mixed (by kernel_rfl) (by kernel_rfl) h
def syntax_cursor_expr_vc (c : Addr) (R : Value → World → Prop) (w : World) : Prop :=
 ∀ k0 : Nat, ∀ w0 : World, w.heap.size ≤ k0 → k0 < w0.heap.size → Only [] w w0 → Calls Tryz.prog 34 #[.pointer (some c)] w0 fun e0 w1 => ∃ b0 : Bool, e0 = (.returned (.bool b0)) ∧
 Same [k0] w0 w1 ∧
 ((!b0) = true → ∀ w2 : World, Only [k0] w1 w2 → R (.agg #[.int .i64 0, .int .i64 0, .string (ByteArray.mk #[]), .int .i64 0, Sl.nil.v, .int .i64 0]) w2) ∧
 ((!b0) = false → ∀ w3 : World, Only [] w1 w3 → ∃ J0 : Nat → Prop, ∀ w4 : World, Only [] w3 w4 → J0 ((c.add 0).block) ∧
 ∃ l0 : Sl, Cells w4 (c.add 0) [l0.v] ∧
 ∀ w5 : World, Only [] w4 w5 → J0 ((c.add 1).block) ∧
 ∃ i0 : Int, Cells w5 (c.add 1) [.int .i64 i0] ∧
 ∀ w6 : World, Only [] w5 w6 → Calls Tryz.prog 46 #[l0.v, .int .i64 i0] w6 fun e1 w7 => ∃ i1 i2 : Int, ∃ s0 : ByteArray, ∃ i3 : Int, ∃ l1 : Sl, ∃ i4 i5 i6 i7 : Int, e1 = (.returned (.tuple #[.agg #[.int .i64 i1, .int .i64 i2, .string s0, .int .i64 i3, l1.v, .int .i64 i4], .int .i64 i5, .agg #[.int .i64 i6, .int .i64 i7]])) ∧
 Same [k0] w6 w7 ∧
 Newer w3 w6 w7 ∧
 Keeps J0 w6 w7 ∧
 ∀ w8 : World, Only [] w7 w8 → ∀ k1 : Nat, w3.heap.size ≤ k1 → k1 < w8.heap.size → Apart [.mk w6.heap.size w7.heap.size] k1 → ((i6 != 0) = true → ∀ w9 : World, Only [k1, k0] w8 w9 → ∃ k2 k3 : Nat, ∃ z0 : List Value, ∃ k4 : Nat, (c.add 2) = ⟨k2, k3, none⟩ ∧
 Blk w9 k2 k4 z0 ∧
 (k3 + 2) ≤ z0.length ∧
 k0 ≠ k2 ∧
 k1 ≠ k2 ∧
 ∀ w10 : World, Only [k2] w9 w10 → Blk w10 k2 k4 (splice z0 k3 [.int .i64 i6, .int .i64 i7]) → ∀ w11 : World, Only [k0] w10 w11 → R (.agg #[.int .i64 i1, .int .i64 i2, .string s0, .int .i64 i3, l1.v, .int .i64 i4]) w11) ∧
 ((i6 != 0) = false → ∀ w12 : World, Only [k1, k0] w8 w12 → ∃ k5 k6 : Nat, ∃ z1 : List Value, ∃ k7 : Nat, (c.add 1) = ⟨k5, k6, none⟩ ∧
 Blk w12 k5 k7 z1 ∧
 (k6 + 1) ≤ z1.length ∧
 k0 ≠ k5 ∧
 k1 ≠ k5 ∧
 ∀ w13 : World, Only [k5] w12 w13 → Blk w13 k5 k7 (splice z1 k6 [.int .i64 i5]) → ∀ w14 : World, Only [k0] w13 w14 → R (.agg #[.int .i64 i1, .int .i64 i2, .string s0, .int .i64 i3, l1.v, .int .i64 i4]) w14))
theorem syntax_cursor_expr_wp (c : Addr) (R : Value → World → Prop) (w : World) (h : syntax_cursor_expr_vc c R w) : Calls Tryz.prog 121 #[.pointer (some c)] w fun e w' => ∃ v, e = .returned v ∧ R v w' :=
 fn_by (an := .s .o (.s (.s .o (.s (.s .o .o) .o)) (.s (.l false [] []) (.s (.s .o (.s (.s .o (.s .o .o)) .o)) (.s .o (.s .o .o)))))) (args := [.ad c]) Tryz.checked.mixed (by kernel_rfl) (by kernel_rfl) h
end Go.Proofs.YtmanockofcopjaaGreatDoor.Vc
