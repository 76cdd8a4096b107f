
/-
  Own work, printed by a program of ours (vlay.py): of each Go function what is to be shown of a call ('.._vc'), and that it suffices ('.._wp'). Nothing is assumed.
-/
import Derived.Test.YtmanockofcopjaaGreatDoorV13
import Derived.Test.YtmanockofcopjaaGreatDoorRows
namespace Go.Proofs.YtmanockofcopjaaGreatDoor.Vc
open Go Go.RowKit Go.Kt Go.Kt.V
set_option linter.unusedVariables false
set_option maxRecDepth 100000
set_option maxHeartbeats 40000000
def pavanelaw07_SyntaxApart_vc (s : ByteArray) (blanks : Sl) (R : Value → World → Prop) (w : World) : Prop :=
  Calls Tryz.prog 16 #[] w fun e0 w0 => ∃ b0 : Bool, e0 = (.returned (.bool b0)) ∧
   Calls Tryz.prog 21 #[.string s] w0 fun e1 w1 => ∃ l0 : Sl, ∃ i0 : Int, ∃ i1 : Int, e1 = (.returned (.tuple #[l0.v, .agg #[.int .i64 i0, .int .i64 i1]])) ∧
    ∀ k0 : Nat, ∀ w2 : World, w1.heap.size ≤ k0 → k0 < w2.heap.size → Only [] w1 w2 → (((!b0) || (i0 != 0)) = true → R (.bool b0) w2) ∧
    (((!b0) || (i0 != 0)) = false → ∃ J0 : Nat → ByteArray → Int → World → Prop, ∃ k1 : Nat, J0 k1 (ByteArray.mk #[]) 0 w2 ∧
    ∀ k2 : Nat, ∀ s0 : ByteArray, ∀ i2 : Int, ∀ w3 : World, J0 k2 s0 i2 w3 → ((decide (i2 < (IntKind.wrap .i64 ((l0.n : Int) - 1)))) = true → ∃ J1 : Int → World → Prop, (∀ i3 : Int, ∀ w4 : World, J1 i3 w4 → ∃ J2 : ByteArray → World → Prop, (∀ s1 : ByteArray, ∀ w5 : World, J2 s1 w5 → ∃ k3 : Nat, k3 < k2 ∧
       J0 k3 s1 (IntKind.wrap .i64 (i2 + 1)) w5) ∧
      ∀ w6 : World, Only [] w4 w6 → ∃ J3 : Nat → Prop, ∃ p0 : Addr, SlAt l0 i2 4 p0 ∧
      J3 p0.block ∧
      ∃ i4 : Int, ∃ s2 : ByteArray, ∃ i5 : Int, ∃ i6 : Int, Cells w6 p0 [.int .i64 i4, .string s2, .int .i64 i5, .int .i64 i6] ∧
      (Calls Tryz.prog 22 #[.agg #[.int .i64 i4, .string s2, .int .i64 i5, .int .i64 i6]] w6 fun e2 w7 => ∃ s3 : ByteArray, e2 = (.returned (.string s3)) ∧
        Same [k0] w6 w7 ∧
        Keeps J3 w6 w7 ∧
        ((s0.size : Int) + (s3.size : Int)) ≤ 9223372036854775807 ∧
        ∃ l1 : Sl, ∃ w8 : World, ((Instr.buildSlice 25 4 #[.mk 0 (.string (ByteArray.mk #[10])), .mk 1 (.string (ByteArray.mk #[32, 9])), .mk 2 (.string (ByteArray.mk #[32, 47, 47, 32, 125, 32, 120, 10])), .mk 3 (.string (ByteArray.mk #[13, 10, 10]))]).run Tryz.prog w7) = (.ok l1.v w8) ∧
        Same [k0] w7 w8 ∧
        Keeps J3 w7 w8 ∧
        ∃ p1 : Addr, SlAt l1 i3 1 p1 ∧
        ∃ s4 : ByteArray, Cells w8 p1 [.string s4] ∧
        (((s0 ++ s3).size : Int) + (s4.size : Int)) ≤ 9223372036854775807 ∧
        J2 ((s0 ++ s3) ++ s4) w8) ∧
      ∃ l2 : Sl, ∃ w9 : World, ((Instr.buildSlice 25 4 #[.mk 0 (.string (ByteArray.mk #[10])), .mk 1 (.string (ByteArray.mk #[32, 9])), .mk 2 (.string (ByteArray.mk #[32, 47, 47, 32, 125, 32, 120, 10])), .mk 3 (.string (ByteArray.mk #[13, 10, 10]))]).run Tryz.prog w6) = (.ok l2.v w9) ∧
      Same [k0] w6 w9 ∧
      Keeps J3 w6 w9 ∧
      ∃ p2 : Addr, SlAt l2 i3 1 p2 ∧
      J3 p2.block ∧
      ∃ s5 : ByteArray, Cells w9 p2 [.string s5] ∧
      Calls Tryz.prog 22 #[.agg #[.int .i64 i4, .string s2, .int .i64 i5, .int .i64 i6]] w9 fun e3 w10 => ∃ s6 : ByteArray, e3 = (.returned (.string s6)) ∧
       Same [k0] w9 w10 ∧
       Keeps J3 w9 w10 ∧
       ((s0.size : Int) + (s6.size : Int)) ≤ 9223372036854775807 ∧
       (((s0 ++ s6).size : Int) + (s5.size : Int)) ≤ 9223372036854775807 ∧
       J2 ((s0 ++ s6) ++ s5) w10) ∧
     ((decide (i2 < (blanks.n : Int))) = true → ∃ p3 : Addr, SlAt blanks i2 1 p3 ∧
      ∃ i7 : Int, Cells w3 p3 [.int .i64 i7] ∧
      J1 (bits .and .i64 i7 3) w3) ∧
     ((decide (i2 < (blanks.n : Int))) = false → J1 0 w3)) ∧
    ((decide (i2 < (IntKind.wrap .i64 ((l0.n : Int) - 1)))) = false → ((decide ((s0.size : Int) > 16384)) = true → R (.bool true) w3) ∧
    ((decide ((s0.size : Int) > 16384)) = false → Calls Tryz.prog 17 #[.string s] w3 fun e4 w11 => ∃ l3 : Sl, ∃ i8 : Int, ∃ s7 : ByteArray, ∃ s8 : ByteArray, ∃ s9 : ByteArray, ∃ l4 : Sl, ∃ l5 : Sl, ∃ l6 : Sl, ∃ l7 : Sl, ∃ i9 : Int, ∃ i10 : Int, ∃ i11 : Int, e4 = (.returned (.tuple #[.agg #[l3.v, .int .i64 i8, .string s7, .string s8, .string s9, l4.v, l5.v, l6.v, l7.v, .int .i64 i9], .agg #[.int .i64 i10, .int .i64 i11]])) ∧
     Same [k0] w3 w11 ∧
     ∀ k4 : Nat, ∀ k5 : Nat, ∀ w12 : World, w11.heap.size ≤ k4 → k4 < w12.heap.size → w11.heap.size ≤ k5 → k5 < w12.heap.size → Only [] w11 w12 → Calls Tryz.prog 17 #[.string s0] w12 fun e5 w13 => ∃ l8 : Sl, ∃ i12 : Int, ∃ s10 : ByteArray, ∃ s11 : ByteArray, ∃ s12 : ByteArray, ∃ l9 : Sl, ∃ l10 : Sl, ∃ l11 : Sl, ∃ l12 : Sl, ∃ i13 : Int, ∃ i14 : Int, ∃ i15 : Int, e5 = (.returned (.tuple #[.agg #[l8.v, .int .i64 i12, .string s10, .string s11, .string s12, l9.v, l10.v, l11.v, l12.v, .int .i64 i13], .agg #[.int .i64 i14, .int .i64 i15]])) ∧
      Same [k0, k4, k5] w12 w13 ∧
      ∀ k6 : Nat, ∀ k7 : Nat, ∀ w14 : World, w13.heap.size ≤ k6 → k6 < w14.heap.size → w13.heap.size ≤ k7 → k7 < w14.heap.size → Only [] w13 w14 → Calls Tryz.prog 19 #[.agg #[l3.v, .int .i64 i8, .string s7, .string s8, .string s9, l4.v, l5.v, l6.v, l7.v, .int .i64 i9], .agg #[l8.v, .int .i64 i12, .string s10, .string s11, .string s12, l9.v, l10.v, l11.v, l12.v, .int .i64 i13], .bool false] w14 fun e6 w15 => ∃ b1 : Bool, e6 = (.returned (.bool b1)) ∧
       Same [k0, k4, k5, k6, k7] w14 w15 ∧
       R (.bool (b1 && (i10 == i14))) w15)))
theorem pavanelaw07_SyntaxApart_wp (s : ByteArray) (blanks : Sl) (R : Value → World → Prop) (w : World) (h : pavanelaw07_SyntaxApart_vc s blanks R w) : Calls Tryz.prog 5 #[.string s, blanks.v] w fun e w' => ∃ v, e = .returned v ∧ R v w' :=
  fn_by (an := .s .o (.s .o (.s .o (.s (.s .o (.s (.s .o .o) .o)) (.s .o (.s (.s .o (.j [0, 1, 6, 7] [.s 8 .str, .s 9 (.int .i64)] (.s (.s .o (.s .o .o)) (.s (.s .o (.j [0, 1, 6, 7, 8, 9] [.s 10 (.int .i64)] (.s .o (.s .o .o)) (.j [0, 1, 6, 7, 9] [.s 8 .str] .o .o))) .o)) .o)) (.s (.s .o (.s (.s .o .o) .o)) (.s .o (.s .o (.s .o (.s .o .o))))))))))) (args := [.str s, .sl blanks]) Tryz.checked.mixed (by kernel_rfl) (by kernel_rfl) h
def pavanelaw07_token_vc (t : Int) (t1 : ByteArray) (t2 : Int) (t3 : Int) (R : Value → World → Prop) (w : World) : Prop :=
  ((t == 3) = true → ∀ k0 : Nat, ∀ w0 : World, w.heap.size ≤ k0 → k0 < w0.heap.size → Only [] w w0 → Calls Tryz.prog 45 #[.int .i64 t2] w0 fun e0 w1 => ∃ s0 : ByteArray, e0 = (.returned (.string s0)) ∧
    Same [k0] w0 w1 ∧
    R (.string s0) w1) ∧
  ((t == 3) = false → ∀ k1 : Nat, ∀ w2 : World, w.heap.size ≤ k1 → k1 < w2.heap.size → Only [] w w2 → R (.string t1) w2)
theorem pavanelaw07_token_wp (t : Int) (t1 : ByteArray) (t2 : Int) (t3 : Int) (R : Value → World → Prop) (w : World) (h : pavanelaw07_token_vc t t1 t2 t3 R w) : Calls Tryz.prog 22 #[.agg #[.int .i64 t, .string t1, .int .i64 t2, .int .i64 t3]] w fun e w' => ∃ v, e = .returned v ∧ R v w' :=
  fn_by (an := .s .o (.s (.s .o (.s (.s .o .o) .o)) (.s .o .o))) (args := [.agg (ofL [.int .i64 t, .str t1, .int .i64 t2, .int .i64 t3])]) Tryz.checked.mixed (by kernel_rfl) (by kernel_rfl) h
def pavaneref03_Text_vc (n_ : Int) (R : Value → World → Prop) (w : World) : Prop :=
  ((n_ == 0) = true → R (.string (ByteArray.mk #[48])) w) ∧
  ((n_ == 0) = false → ((decide (n_ < 0)) = true → Calls Tryz.prog 55 #[.int .i64 n_] w fun e0 w0 => ∃ i0 : Int, e0 = (.returned (.int .u64 i0)) ∧
    Calls Tryz.prog 88 #[.int .u64 i0] w0 fun e1 w1 => ∃ s0 : ByteArray, e1 = (.returned (.string s0)) ∧
     (1 + (s0.size : Int)) ≤ 9223372036854775807 ∧
     R (.string ((ByteArray.mk #[45]) ++ s0)) w1) ∧
  ((decide (n_ < 0)) = false → Calls Tryz.prog 55 #[.int .i64 n_] w fun e2 w2 => ∃ i1 : Int, e2 = (.returned (.int .u64 i1)) ∧
   Calls Tryz.prog 88 #[.int .u64 i1] w2 fun e3 w3 => ∃ s1 : ByteArray, e3 = (.returned (.string s1)) ∧
    R (.string s1) w3))
theorem pavaneref03_Text_wp (n_ : Int) (R : Value → World → Prop) (w : World) (h : pavaneref03_Text_vc n_ R w) : Calls Tryz.prog 45 #[.int .i64 n_] w fun e w' => ∃ v, e = .returned v ∧ R v w' :=
  fn_by (an := .s .o (.s (.s .o (.s (.s .o .o) .o)) (.s (.s .o (.s (.s .o .o) .o)) (.s .o .o)))) (args := [.int .i64 n_]) Tryz.checked.mixed (by kernel_rfl) (by kernel_rfl) h
def pavaneref03_digits_vc (u : Int) (R : Value → World → Prop) (w : World) : Prop :=
  ((u == 0) = true → R (.string (ByteArray.mk #[])) w) ∧
  ((u == 0) = false → ∃ J0 : ByteArray → World → Prop, (∀ s0 : ByteArray, ∀ w0 : World, J0 s0 w0 → R (.string s0) w0) ∧
  ∀ w1 : World, Only [] w w1 → ∃ J1 : Nat → Prop, (Calls Tryz.prog 88 #[.int .u64 (IntKind.wrap .u64 (u.tdiv 10))] w1 fun e0 w2 => ∃ s1 : ByteArray, e0 = (.returned (.string s1)) ∧
    Keeps J1 w1 w2 ∧
    ∃ l0 : Sl, ∃ w3 : World, ((Instr.buildSlice 161 1 #[.mk 0 (.int .u8 (IntKind.wrap .u8 (IntKind.wrap .u64 (48 + (u.tmod 10)))))]).run Tryz.prog w2) = (.ok l0.v w3) ∧
    Keeps J1 w2 w3 ∧
    ∃ z0 : List UInt8, Bytes w3 l0 z0 ∧
    ((s1.size : Int) + ((ByteArray.mk z0.toArray).size : Int)) ≤ 9223372036854775807 ∧
    J0 (s1 ++ (ByteArray.mk z0.toArray)) w3) ∧
  ∃ l1 : Sl, ∃ w4 : World, ((Instr.buildSlice 161 1 #[.mk 0 (.int .u8 (IntKind.wrap .u8 (IntKind.wrap .u64 (48 + (u.tmod 10)))))]).run Tryz.prog w1) = (.ok l1.v w4) ∧
  Keeps J1 w1 w4 ∧
  ∃ z1 : List UInt8, (∀ p0 : Addr, l1.a = (some p0) → J1 p0.block) ∧
  Bytes w4 l1 z1 ∧
  Calls Tryz.prog 88 #[.int .u64 (IntKind.wrap .u64 (u.tdiv 10))] w4 fun e1 w5 => ∃ s2 : ByteArray, e1 = (.returned (.string s2)) ∧
   Keeps J1 w4 w5 ∧
   ((s2.size : Int) + ((ByteArray.mk z1.toArray).size : Int)) ≤ 9223372036854775807 ∧
   J0 (s2 ++ (ByteArray.mk z1.toArray)) w5)
theorem pavaneref03_digits_wp (u : Int) (R : Value → World → Prop) (w : World) (h : pavaneref03_digits_vc u R w) : Calls Tryz.prog 88 #[.int .u64 u] w fun e w' => ∃ v, e = .returned v ∧ R v w' :=
  fn_by (an := .s .o (.s (.s .o (.s (.s .o .o) .o)) (.s (.j [] [.s 2 .str] .o .o) .o))) (args := [.int .u64 u]) Tryz.checked.mixed (by kernel_rfl) (by kernel_rfl) h
def pavaneref03_size_vc (n_ : Int) (R : Value → World → Prop) (w : World) : Prop :=
  ((decide (n_ < 0)) = true → R (.int .u64 (IntKind.wrap .u64 ((IntKind.wrap .u64 (IntKind.wrap .i64 (0 - (IntKind.wrap .i64 (n_ + 1))))) + 1))) w) ∧
  ((decide (n_ < 0)) = false → R (.int .u64 (IntKind.wrap .u64 n_)) w)
theorem pavaneref03_size_wp (n_ : Int) (R : Value → World → Prop) (w : World) (h : pavaneref03_size_vc n_ R w) : Calls Tryz.prog 55 #[.int .i64 n_] w fun e w' => ∃ v, e = .returned v ∧ R v w' :=
  fn_by (an := .s .o (.s (.s .o (.s (.s .o .o) .o)) (.s .o .o))) (args := [.int .i64 n_]) Tryz.checked.mixed (by kernel_rfl) (by kernel_rfl) h
end Go.Proofs.YtmanockofcopjaaGreatDoor.Vc
