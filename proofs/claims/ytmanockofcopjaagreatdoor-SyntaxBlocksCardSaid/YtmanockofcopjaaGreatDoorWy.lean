/-
  Own work, printed by a program of ours (vlay.py): of each Go function what is to be shown of a call ('.._vc'), and that it suffices ('.._wp'). Nothing is assumed.
-/
import Derived.Test.YtmanockofcopjaaGreatDoorV13
import Derived.Test.YtmanockofcopjaaGreatDoorRows
namespace Go.Proofs.YtmanockofcopjaaGreatDoor.Vc
open Go Go.RowKit Go.Kt Go.Kt.V
set_option linter.unusedVariables false
set_option maxRecDepth 100000
set_option maxHeartbeats 40000000
def pavanelaw07_SyntaxBlocks_vc (head : ByteArray) (tail : ByteArray) (R : Value → World → Prop) (w : World) : Prop :=
  Calls Tryz.prog 16 #[] w fun e0 w0 => ∃ b0 : Bool, e0 = (.returned (.bool b0)) ∧
   (((decide ((head.size : Int) > 16384)) || (decide ((tail.size : Int) > 16384))) = true → R (.bool b0) w0) ∧
   (((decide ((head.size : Int) > 16384)) || (decide ((tail.size : Int) > 16384))) = false → (10 + (head.size : Int)) ≤ 9223372036854775807 ∧
   ((((ByteArray.mk #[99, 104, 97, 114, 116, 32, 99, 32, 123, 32]) ++ head).size : Int) + 23) ≤ 9223372036854775807 ∧
   (((((ByteArray.mk #[99, 104, 97, 114, 116, 32, 99, 32, 123, 32]) ++ head) ++ (ByteArray.mk #[10, 101, 110, 116, 101, 114, 32, 123, 32, 125, 32, 111, 110, 32, 103, 111, 32, 45, 62, 32, 120, 59, 32])).size : Int) + (tail.size : Int)) ≤ 9223372036854775807 ∧
   Calls Tryz.prog 17 #[.string ((((ByteArray.mk #[99, 104, 97, 114, 116, 32, 99, 32, 123, 32]) ++ head) ++ (ByteArray.mk #[10, 101, 110, 116, 101, 114, 32, 123, 32, 125, 32, 111, 110, 32, 103, 111, 32, 45, 62, 32, 120, 59, 32])) ++ tail)] w0 fun e1 w1 => ∃ l0 : Sl, ∃ i0 : Int, ∃ s0 : ByteArray, ∃ s1 : ByteArray, ∃ s2 : ByteArray, ∃ l1 : Sl, ∃ l2 : Sl, ∃ l3 : Sl, ∃ l4 : Sl, ∃ i1 : Int, ∃ i2 : Int, ∃ i3 : Int, e1 = (.returned (.tuple #[.agg #[l0.v, .int .i64 i0, .string s0, .string s1, .string s2, l1.v, l2.v, l3.v, l4.v, .int .i64 i1], .agg #[.int .i64 i2, .int .i64 i3]])) ∧
    (10 + (head.size : Int)) ≤ 9223372036854775807 ∧
    ((((ByteArray.mk #[99, 104, 97, 114, 116, 32, 99, 32, 123, 32]) ++ head).size : Int) + 17) ≤ 9223372036854775807 ∧
    (((((ByteArray.mk #[99, 104, 97, 114, 116, 32, 99, 32, 123, 32]) ++ head) ++ (ByteArray.mk #[10, 111, 110, 32, 103, 111, 32, 123, 32, 125, 32, 45, 62, 32, 120, 59, 32])).size : Int) + (tail.size : Int)) ≤ 9223372036854775807 ∧
    ∀ k0 : Nat, ∀ k1 : Nat, ∀ w2 : World, w1.heap.size ≤ k0 → k0 < w2.heap.size → w1.heap.size ≤ k1 → k1 < w2.heap.size → Only [] w1 w2 → Calls Tryz.prog 17 #[.string ((((ByteArray.mk #[99, 104, 97, 114, 116, 32, 99, 32, 123, 32]) ++ head) ++ (ByteArray.mk #[10, 111, 110, 32, 103, 111, 32, 123, 32, 125, 32, 45, 62, 32, 120, 59, 32])) ++ tail)] w2 fun e2 w3 => ∃ l5 : Sl, ∃ i4 : Int, ∃ s3 : ByteArray, ∃ s4 : ByteArray, ∃ s5 : ByteArray, ∃ l6 : Sl, ∃ l7 : Sl, ∃ l8 : Sl, ∃ l9 : Sl, ∃ i5 : Int, ∃ i6 : Int, ∃ i7 : Int, e2 = (.returned (.tuple #[.agg #[l5.v, .int .i64 i4, .string s3, .string s4, .string s5, l6.v, l7.v, l8.v, l9.v, .int .i64 i5], .agg #[.int .i64 i6, .int .i64 i7]])) ∧
     Same [k0, k1] w2 w3 ∧
     ∀ k2 : Nat, ∀ k3 : Nat, ∀ w4 : World, w3.heap.size ≤ k2 → k2 < w4.heap.size → w3.heap.size ≤ k3 → k3 < w4.heap.size → Only [] w3 w4 → ((((!b0) || (i2 != 0)) || (i6 != 0)) = true → R (.bool b0) w4) ∧
     ((((!b0) || (i2 != 0)) || (i6 != 0)) = false → Calls Tryz.prog 19 #[.agg #[l0.v, .int .i64 i0, .string s0, .string s1, .string s2, l1.v, l2.v, l3.v, l4.v, .int .i64 i1], .agg #[l5.v, .int .i64 i4, .string s3, .string s4, .string s5, l6.v, l7.v, l8.v, l9.v, .int .i64 i5], .bool false] w4 fun e3 w5 => ∃ b1 : Bool, e3 = (.returned (.bool b1)) ∧
      Same [k0, k1, k2, k3] w4 w5 ∧
      R (.bool b1) w5))
theorem pavanelaw07_SyntaxBlocks_wp (head : ByteArray) (tail : ByteArray) (R : Value → World → Prop) (w : World) (h : pavanelaw07_SyntaxBlocks_vc head tail R w) : Calls Tryz.prog 6 #[.string head, .string tail] w fun e w' => ∃ v, e = .returned v ∧ R v w' :=
  fn_by (an := .s .o (.s .o (.s (.s .o (.s (.s .o .o) .o)) (.s .o (.s .o (.s (.s .o (.s (.s .o .o) .o)) (.s .o (.s .o .o)))))))) (args := [.str head, .str tail]) Tryz.checked.mixed (by kernel_rfl) (by kernel_rfl) h
end Go.Proofs.YtmanockofcopjaaGreatDoor.Vc
