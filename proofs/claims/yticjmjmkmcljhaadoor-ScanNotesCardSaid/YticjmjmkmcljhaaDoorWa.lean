/-
  Own work, printed by a program of ours (vlay.py): of each Go function what is to be shown of a call ('.._vc'), and that it suffices ('.._wp'). Nothing is assumed.
-/
import Derived.Test.YticjmjmkmcljhaaDoorV13
import Derived.Test.YticjmjmkmcljhaaDoorRows
namespace Go.Proofs.YticjmjmkmcljhaaDoor.Vc
open Go Go.RowKit Go.Kt Go.Kt.V
set_option linter.unusedVariables false
set_option maxRecDepth 100000
set_option maxHeartbeats 40000000
def scan_cursor_end_vc (c : Addr) (R : Value → World → Prop) (w : World) : Prop :=
  ∃ i0 : Int, Cells w (c.add 1) [.int .i64 i0] ∧
  ∃ s0 : ByteArray, Cells w (c.add 0) [.string s0] ∧
  ∀ w0 : World, Only [] w w0 → R (.bool (decide (i0 ≥ (s0.size : Int)))) w0
theorem scan_cursor_end_wp (c : Addr) (R : Value → World → Prop) (w : World) (h : scan_cursor_end_vc c R w) : Calls Tryd.prog 16 #[.pointer (some c)] w fun e w' => ∃ v, e = .returned v ∧ R v w' :=
  fn_by (an := .s .o (.s .o .o)) (args := [.ad c]) Tryd.checked.mixed (by kernel_rfl) (by kernel_rfl) h
def scan_cursor_rest_vc (c : Addr) (R : Value → World → Prop) (w : World) : Prop :=
  ∃ s0 : ByteArray, Cells w (c.add 0) [.string s0] ∧
  ∃ i0 : Int, Cells w (c.add 1) [.int .i64 i0] ∧
  ∃ k0 : Nat, (i0 = (k0 : Int) ∧
   k0 ≤ s0.size) ∧
  ∀ w0 : World, Only [] w w0 → R (.string (s0.extract k0 s0.size)) w0
theorem scan_cursor_rest_wp (c : Addr) (R : Value → World → Prop) (w : World) (h : scan_cursor_rest_vc c R w) : Calls Tryd.prog 29 #[.pointer (some c)] w fun e w' => ∃ v, e = .returned v ∧ R v w' :=
  fn_by (an := .s .o (.s .o .o)) (args := [.ad c]) Tryd.checked.mixed (by kernel_rfl) (by kernel_rfl) h
def scan_cursor_row_vc (c : Addr) (R : Value → World → Prop) (w : World) : Prop :=
  Calls Tryd.prog 29 #[.pointer (some c)] w fun e0 w0 => ∃ s0 : ByteArray, e0 = (.returned (.string s0)) ∧
   ∃ J0 : Nat → Int → World → Prop, ∃ k0 : Nat, J0 k0 0 w0 ∧
   ∀ k1 : Nat, ∀ i0 : Int, ∀ w1 : World, J0 k1 i0 w1 → ∃ J1 : Bool → World → Prop, (∀ b0 : Bool, ∀ w2 : World, J1 b0 w2 → (b0 = true → ∃ k2 : Nat, k2 < k1 ∧
     J0 k2 (IntKind.wrap .i64 (i0 + 1)) w2) ∧
    (b0 = false → ∃ k3 : Nat, (i0 = (k3 : Int) ∧
     k3 ≤ s0.size) ∧
    R (.string (s0.extract 0 k3)) w2)) ∧
   ((decide (i0 < (s0.size : Int))) = true → ∃ c0 : UInt8, (0 ≤ i0 ∧
     (s0[Int.toNat i0]?) = (some c0)) ∧
    Calls Tryd.prog 21 #[.int .u8 (UInt8.toNat c0 : Int)] w1 fun e1 w3 => ∃ b1 : Bool, e1 = (.returned (.bool b1)) ∧
     (b1 = true → J1 true w3) ∧
     (b1 = false → ∃ c1 : UInt8, (0 ≤ i0 ∧
      (s0[Int.toNat i0]?) = (some c1)) ∧
     Calls Tryd.prog 32 #[.int .u8 (UInt8.toNat c1 : Int)] w3 fun e2 w4 => ∃ b2 : Bool, e2 = (.returned (.bool b2)) ∧
      J1 b2 w4)) ∧
   ((decide (i0 < (s0.size : Int))) = false → J1 false w1)
theorem scan_cursor_row_wp (c : Addr) (R : Value → World → Prop) (w : World) (h : scan_cursor_row_vc c R w) : Calls Tryd.prog 22 #[.pointer (some c)] w fun e w' => ∃ v, e = .returned v ∧ R v w' :=
  fn_by (an := .s .o (.s .o (.s .o (.s (.j [3] [.s 4 (.int .i64)] (.s (.s (.j [3, 4] [.s 22 .bool] .o .o) (.s .o .o)) .o) .o) (.s .o .o))))) (args := [.ad c]) Tryd.checked.mixed (by kernel_rfl) (by kernel_rfl) h
def scan_cursor_skip_vc (c : Addr) (R : Value → World → Prop) (w : World) : Prop :=
  ∃ J0 : Nat → World → Prop, ∃ k0 : Nat, J0 k0 w ∧
  ∀ k1 : Nat, ∀ w0 : World, J0 k1 w0 → Calls Tryd.prog 16 #[.pointer (some c)] w0 fun e0 w1 => ∃ b0 : Bool, e0 = (.returned (.bool b0)) ∧
   ((!b0) = true → ∃ s0 : ByteArray, Cells w1 (c.add 0) [.string s0] ∧
    ∃ i0 : Int, Cells w1 (c.add 1) [.int .i64 i0] ∧
    ∃ c0 : UInt8, (0 ≤ i0 ∧
     (s0[Int.toNat i0]?) = (some c0)) ∧
    ∀ w2 : World, Only [] w1 w2 → ∃ l0 : Sl, ∃ w3 : World, ((Instr.buildSlice 56 4 #[.mk 0 (.int .u8 9), .mk 1 (.int .u8 10), .mk 2 (.int .u8 13), .mk 3 (.int .u8 32)]).run Tryd.prog w2) = (.ok l0.v w3) ∧
    Calls Tryd.prog 27 #[.int .u8 (UInt8.toNat c0 : Int), l0.v] w3 fun e1 w4 => ∃ b1 : Bool, e1 = (.returned (.bool b1)) ∧
     (b1 = true → ∃ i1 : Int, Cells w4 (c.add 1) [.int .i64 i1] ∧
      ∃ k3 : Nat, ∃ k4 : Nat, ∃ z0 : List Value, ∃ k5 : Nat, (c.add 1) = ⟨k3, k4, none⟩ ∧
      Blk w4 k3 k5 z0 ∧
      (k4 + 1) ≤ z0.length ∧
      ∀ w5 : World, Only [k3] w4 w5 → Blk w5 k3 k5 (splice z0 k4 [.int .i64 (IntKind.wrap .i64 (i1 + 1))]) → ∃ k6 : Nat, k6 < k1 ∧
      J0 k6 w5) ∧
     (b1 = false → Calls Tryd.prog 29 #[.pointer (some c)] w4 fun e2 w6 => ∃ s2 : ByteArray, e2 = (.returned (.string s2)) ∧
      Calls Tryd.prog 28 #[.string s2, .string (ByteArray.mk #[47, 47])] w6 fun e3 w7 => ∃ b2 : Bool, e3 = (.returned (.bool b2)) ∧
       (b2 = true → Calls Tryd.prog 29 #[.pointer (some c)] w7 fun e4 w8 => ∃ s3 : ByteArray, e4 = (.returned (.string s3)) ∧
         Calls Tryd.prog 30 #[.string s3, .string (ByteArray.mk #[10])] w8 fun e5 w9 => ∃ s4 : ByteArray, ∃ s5 : ByteArray, ∃ b3 : Bool, e5 = (.returned (.tuple #[.string s4, .string s5, .bool b3])) ∧
          ∃ i2 : Int, Cells w9 (c.add 1) [.int .i64 i2] ∧
          ∃ k7 : Nat, ∃ k8 : Nat, ∃ z1 : List Value, ∃ k9 : Nat, (c.add 1) = ⟨k7, k8, none⟩ ∧
          Blk w9 k7 k9 z1 ∧
          (k8 + 1) ≤ z1.length ∧
          ∀ w10 : World, Only [k7] w9 w10 → Blk w10 k7 k9 (splice z1 k8 [.int .i64 (IntKind.wrap .i64 (i2 + (s4.size : Int)))]) → ∃ k10 : Nat, k10 < k1 ∧
          J0 k10 w10) ∧
       (b2 = false → R (.tuple #[]) w7))) ∧
   ((!b0) = false → R (.tuple #[]) w1)
theorem scan_cursor_skip_wp (c : Addr) (R : Value → World → Prop) (w : World) (h : scan_cursor_skip_vc c R w) : Calls Tryd.prog 15 #[.pointer (some c)] w fun e w' => ∃ v, e = .returned v ∧ R v w' :=
  fn_by (an := .j [0] [] (.s (.s .o (.s .o .o)) (.s .o (.s .o (.s .o (.s .o (.s (.s .o .o) .o)))))) .o) (args := [.ad c]) Tryd.checked.mixed (by kernel_rfl) (by kernel_rfl) h
def scan_cutter_add_vc (c : Addr) (t : Int) (t1 : ByteArray) (t2 : Int) (t3 : Int) (n_ : Int) (R : Value → World → Prop) (w : World) : Prop :=
  ∀ k0 : Nat, ∀ w0 : World, w.heap.size ≤ k0 → k0 < w0.heap.size → Only [] w w0 → ∃ i0 : Int, Cells w0 ((c.add 0).add 1) [.int .i64 i0] ∧
  ∀ w1 : World, Only [k0] w0 w1 → ∃ J0 : Nat → Prop, J0 ((c.add 3).block) ∧
  ∃ l0 : Sl, Cells w1 (c.add 3) [l0.v] ∧
  ∃ l1 : Sl, ∃ w2 : World, ((Instr.buildSlice 23 1 #[.mk 0 (.agg #[.int .i64 t, .string t1, .int .i64 t2, .int .i64 i0])]).run Tryd.prog w1) = (.ok l1.v w2) ∧
  Same [k0] w1 w2 ∧
  Keeps J0 w1 w2 ∧
  ∃ l2 : Sl, ∃ w3 : World, ((Builtin.append_ #[23, 23] 23 #[l0.v, l1.v]).run Tryd.prog w2) = (.ok l2.v w3) ∧
  Same [k0] w2 w3 ∧
  Keeps J0 w2 w3 ∧
  ∃ k1 : Nat, ∃ k2 : Nat, ∃ z0 : List Value, ∃ k3 : Nat, (c.add 3) = ⟨k1, k2, none⟩ ∧
  Blk w3 k1 k3 z0 ∧
  (k2 + 1) ≤ z0.length ∧
  k0 ≠ k1 ∧
  ∀ w4 : World, Only [k1] w3 w4 → Blk w4 k1 k3 (splice z0 k2 [l2.v]) → ∃ i1 : Int, Cells w4 ((c.add 0).add 1) [.int .i64 i1] ∧
  ∃ k4 : Nat, ∃ k5 : Nat, ∃ z1 : List Value, ∃ k6 : Nat, ((c.add 0).add 1) = ⟨k4, k5, none⟩ ∧
  Blk w4 k4 k6 z1 ∧
  (k5 + 1) ≤ z1.length ∧
  k0 ≠ k4 ∧
  ∀ w5 : World, Only [k4] w4 w5 → Blk w5 k4 k6 (splice z1 k5 [.int .i64 (IntKind.wrap .i64 (i1 + n_))]) → R (.tuple #[]) w5
theorem scan_cutter_add_wp (c : Addr) (t : Int) (t1 : ByteArray) (t2 : Int) (t3 : Int) (n_ : Int) (R : Value → World → Prop) (w : World) (h : scan_cutter_add_vc c t t1 t2 t3 n_ R w) : Calls Tryd.prog 18 #[.pointer (some c), .agg #[.int .i64 t, .string t1, .int .i64 t2, .int .i64 t3], .int .i64 n_] w fun e w' => ∃ v, e = .returned v ∧ R v w' :=
  fn_by (an := .s .o (.s .o (.s .o .o))) (args := [.ad c, .agg (ofL [.int .i64 t, .str t1, .int .i64 t2, .int .i64 t3]), .int .i64 n_]) Tryd.checked.mixed (by kernel_rfl) (by kernel_rfl) h
def scan_cutter_number_vc (c : Addr) (R : Value → World → Prop) (w : World) : Prop :=
  Calls Tryd.prog 29 #[.pointer (some (c.add 0))] w fun e0 w0 => ∃ s0 : ByteArray, e0 = (.returned (.string s0)) ∧
   Calls Tryd.prog 43 #[.string s0] w0 fun e1 w1 => ∃ i0 : Int, ∃ i1 : Int, ∃ i2 : Int, e1 = (.returned (.tuple #[.int .i64 i0, .int .i64 i1, .int .i64 i2])) ∧
    ((i2 != 0) = true → R (.int .i64 i2) w1) ∧
    ((i2 != 0) = false → Calls Tryd.prog 22 #[.pointer (some (c.add 0))] w1 fun e2 w2 => ∃ s1 : ByteArray, e2 = (.returned (.string s1)) ∧
     ((decide ((s1.size : Int) > i1)) = true → R (.int .i64 4) w2) ∧
     ((decide ((s1.size : Int) > i1)) = false → Calls Tryd.prog 18 #[.pointer (some c), .agg #[.int .i64 3, .string (ByteArray.mk #[]), .int .i64 i0, .int .i64 0], .int .i64 i1] w2 fun e3 w3 => e3 = (.returned (.tuple #[])) ∧
      R (.int .i64 0) w3))
theorem scan_cutter_number_wp (c : Addr) (R : Value → World → Prop) (w : World) (h : scan_cutter_number_vc c R w) : Calls Tryd.prog 33 #[.pointer (some c)] w fun e w' => ∃ v, e = .returned v ∧ R v w' :=
  fn_by (an := .s .o (.s .o (.s (.s .o (.s (.s .o .o) .o)) (.s (.s .o (.s (.s .o .o) .o)) (.s .o (.s .o .o)))))) (args := [.ad c]) Tryd.checked.mixed (by kernel_rfl) (by kernel_rfl) h
def scan_cutter_sign_vc (c : Addr) (R : Value → World → Prop) (w : World) : Prop :=
  Calls Tryd.prog 29 #[.pointer (some (c.add 0))] w fun e0 w0 => ∃ s0 : ByteArray, e0 = (.returned (.string s0)) ∧
   ∃ J0 : Int → World → Prop, (∀ i0 : Int, ∀ w1 : World, J0 i0 w1 → ∃ J1 : Int → World → Prop, (∀ i1 : Int, ∀ w2 : World, J1 i1 w2 → ((i1 == 0) = true → R (.int .i64 4) w2) ∧
     ((i1 == 0) = false → ∃ k0 : Nat, (i1 = (k0 : Int) ∧
      k0 ≤ s0.size) ∧
     Calls Tryd.prog 42 #[.string (s0.extract 0 k0)] w2 fun e1 w3 => ∃ s1 : ByteArray, e1 = (.returned (.string s1)) ∧
      Calls Tryd.prog 18 #[.pointer (some c), .agg #[.int .i64 4, .string s1, .int .i64 0, .int .i64 0], .int .i64 i1] w3 fun e2 w4 => e2 = (.returned (.tuple #[])) ∧
       R (.int .i64 0) w4)) ∧
    ∃ J2 : Bool → World → Prop, (∀ b0 : Bool, ∀ w5 : World, J2 b0 w5 → (b0 = true → J1 2 w5) ∧
     (b0 = false → J1 i0 w5)) ∧
    ((decide ((s0.size : Int) > 1)) = true → ∃ c0 : UInt8, ((0 : Int) ≤ 1 ∧
      s0[1]? = (some c0)) ∧
     (((UInt8.toNat c0 : Int) == 61) = true → ∃ c1 : UInt8, ((0 : Int) ≤ 0 ∧
       s0[0]? = (some c1)) ∧
      ∀ w6 : World, Only [] w1 w6 → ∃ l0 : Sl, ∃ w7 : World, ((Instr.buildSlice 56 4 #[.mk 0 (.int .u8 60), .mk 1 (.int .u8 62), .mk 2 (.int .u8 61), .mk 3 (.int .u8 33)]).run Tryd.prog w6) = (.ok l0.v w7) ∧
      Calls Tryd.prog 27 #[.int .u8 (UInt8.toNat c1 : Int), l0.v] w7 fun e3 w8 => ∃ b1 : Bool, e3 = (.returned (.bool b1)) ∧
       (b1 = true → J2 true w8) ∧
       (b1 = false → ∃ c2 : UInt8, ((0 : Int) ≤ 1 ∧
        s0[1]? = (some c2)) ∧
       ∃ c3 : UInt8, ((0 : Int) ≤ 0 ∧
        s0[0]? = (some c3)) ∧
       (((UInt8.toNat c2 : Int) == (UInt8.toNat c3 : Int)) = true → ∃ c4 : UInt8, ((0 : Int) ≤ 0 ∧
         s0[0]? = (some c4)) ∧
        ∃ l1 : Sl, ∃ w9 : World, ((Instr.buildSlice 56 2 #[.mk 0 (.int .u8 38), .mk 1 (.int .u8 124)]).run Tryd.prog w8) = (.ok l1.v w9) ∧
        Calls Tryd.prog 27 #[.int .u8 (UInt8.toNat c4 : Int), l1.v] w9 fun e4 w10 => ∃ b2 : Bool, e4 = (.returned (.bool b2)) ∧
         (b2 = true → J2 true w10) ∧
         (b2 = false → 2 ≤ s0.size ∧
         J2 (((s0.extract 0 2).toList) == ((ByteArray.mk #[45, 62]).toList)) w10)) ∧
       (((UInt8.toNat c2 : Int) == (UInt8.toNat c3 : Int)) = false → 2 ≤ s0.size ∧
       J2 (((s0.extract 0 2).toList) == ((ByteArray.mk #[45, 62]).toList)) w8))) ∧
     (((UInt8.toNat c0 : Int) == 61) = false → ∃ c5 : UInt8, ((0 : Int) ≤ 1 ∧
      s0[1]? = (some c5)) ∧
     ∃ c6 : UInt8, ((0 : Int) ≤ 0 ∧
      s0[0]? = (some c6)) ∧
     (((UInt8.toNat c5 : Int) == (UInt8.toNat c6 : Int)) = true → ∃ c7 : UInt8, ((0 : Int) ≤ 0 ∧
       s0[0]? = (some c7)) ∧
      ∀ w11 : World, Only [] w1 w11 → ∃ l2 : Sl, ∃ w12 : World, ((Instr.buildSlice 56 2 #[.mk 0 (.int .u8 38), .mk 1 (.int .u8 124)]).run Tryd.prog w11) = (.ok l2.v w12) ∧
      Calls Tryd.prog 27 #[.int .u8 (UInt8.toNat c7 : Int), l2.v] w12 fun e5 w13 => ∃ b3 : Bool, e5 = (.returned (.bool b3)) ∧
       (b3 = true → J2 true w13) ∧
       (b3 = false → 2 ≤ s0.size ∧
       J2 (((s0.extract 0 2).toList) == ((ByteArray.mk #[45, 62]).toList)) w13)) ∧
     (((UInt8.toNat c5 : Int) == (UInt8.toNat c6 : Int)) = false → 2 ≤ s0.size ∧
     ∀ w14 : World, Only [] w1 w14 → J2 (((s0.extract 0 2).toList) == ((ByteArray.mk #[45, 62]).toList)) w14))) ∧
    ((decide ((s0.size : Int) > 1)) = false → ∀ w15 : World, Only [] w1 w15 → J2 false w15)) ∧
   ∃ c8 : UInt8, ((0 : Int) ≤ 0 ∧
    s0[0]? = (some c8)) ∧
   ∃ l3 : Sl, ∃ w16 : World, ((Instr.buildSlice 56 17 #[.mk 0 (.int .u8 123), .mk 1 (.int .u8 125), .mk 2 (.int .u8 40), .mk 3 (.int .u8 41), .mk 4 (.int .u8 91), .mk 5 (.int .u8 93), .mk 6 (.int .u8 59), .mk 7 (.int .u8 44), .mk 8 (.int .u8 61), .mk 9 (.int .u8 43), .mk 10 (.int .u8 45), .mk 11 (.int .u8 42), .mk 12 (.int .u8 47), .mk 13 (.int .u8 37), .mk 14 (.int .u8 60), .mk 15 (.int .u8 62), .mk 16 (.int .u8 33)]).run Tryd.prog w0) = (.ok l3.v w16) ∧
   ∃ l4 : Sl, ∃ w17 : World, ((convert 56 56 l3.v).run Tryd.prog w16) = (.ok l4.v w17) ∧
   Calls Tryd.prog 27 #[.int .u8 (UInt8.toNat c8 : Int), l4.v] w17 fun e6 w18 => ∃ b4 : Bool, e6 = (.returned (.bool b4)) ∧
    (b4 = true → J0 1 w18) ∧
    (b4 = false → J0 0 w18)
theorem scan_cutter_sign_wp (c : Addr) (R : Value → World → Prop) (w : World) (h : scan_cutter_sign_vc c R w) : Calls Tryd.prog 34 #[.pointer (some c)] w fun e w' => ∃ v, e = .returned v ∧ R v w' :=
  fn_by (an := .s .o (.s .o (.s .o (.j [0, 3] [.s 4 (.int .i64)] (.s .o (.s .o .o)) (.j [0, 3] [.s 4 (.int .i64)] (.s (.j [0, 3, 4] [.s 45 .bool] .o .o) (.s .o .o)) (.s (.s .o (.s (.s .o .o) .o)) (.s .o (.s .o .o)))))))) (args := [.ad c]) Tryd.checked.mixed (by kernel_rfl) (by kernel_rfl) h
def scan_cutter_token_vc (c : Addr) (R : Value → World → Prop) (w : World) : Prop :=
  ∃ s0 : ByteArray, Cells w ((c.add 0).add 0) [.string s0] ∧
  ∃ i0 : Int, Cells w ((c.add 0).add 1) [.int .i64 i0] ∧
  ∃ c0 : UInt8, (0 ≤ i0 ∧
   (s0[Int.toNat i0]?) = (some c0)) ∧
  ∀ w0 : World, Only [] w w0 → Calls Tryd.prog 21 #[.int .u8 (UInt8.toNat c0 : Int)] w0 fun e0 w1 => ∃ b0 : Bool, e0 = (.returned (.bool b0)) ∧
   (b0 = true → Calls Tryd.prog 31 #[.pointer (some c)] w1 fun e1 w2 => ∃ i1 : Int, e1 = (.returned (.int .i64 i1)) ∧
     R (.int .i64 i1) w2) ∧
   (b0 = false → Calls Tryd.prog 32 #[.int .u8 (UInt8.toNat c0 : Int)] w1 fun e2 w3 => ∃ b1 : Bool, e2 = (.returned (.bool b1)) ∧
    (b1 = true → Calls Tryd.prog 33 #[.pointer (some c)] w3 fun e3 w4 => ∃ i2 : Int, e3 = (.returned (.int .i64 i2)) ∧
      R (.int .i64 i2) w4) ∧
    (b1 = false → Calls Tryd.prog 34 #[.pointer (some c)] w3 fun e4 w5 => ∃ i3 : Int, e4 = (.returned (.int .i64 i3)) ∧
     R (.int .i64 i3) w5))
theorem scan_cutter_token_wp (c : Addr) (R : Value → World → Prop) (w : World) (h : scan_cutter_token_vc c R w) : Calls Tryd.prog 17 #[.pointer (some c)] w fun e w' => ∃ v, e = .returned v ∧ R v w' :=
  fn_by (an := .s .o (.s (.s .o (.s .o (.s (.s .o .o) (.s .o (.s (.s .o .o) .o))))) (.s .o .o))) (args := [.ad c]) Tryd.checked.mixed (by kernel_rfl) (by kernel_rfl) h
def scan_cutter_word_vc (c : Addr) (R : Value → World → Prop) (w : World) : Prop :=
  Calls Tryd.prog 22 #[.pointer (some (c.add 0))] w fun e0 w0 => ∃ s0 : ByteArray, e0 = (.returned (.string s0)) ∧
   ((decide ((s0.size : Int) > 24)) = true → R (.int .i64 2) w0) ∧
   ((decide ((s0.size : Int) > 24)) = false → ∃ J0 : Int → World → Prop, (∀ i0 : Int, ∀ w1 : World, J0 i0 w1 → Calls Tryd.prog 42 #[.string s0] w1 fun e1 w2 => ∃ s1 : ByteArray, e1 = (.returned (.string s1)) ∧
     Calls Tryd.prog 18 #[.pointer (some c), .agg #[.int .i64 i0, .string s1, .int .i64 0, .int .i64 0], .int .i64 (s0.size : Int)] w2 fun e2 w3 => e2 = (.returned (.tuple #[])) ∧
      R (.int .i64 0) w3) ∧
   ∃ l0 : Sl, Cells w0 (c.add 2) [l0.v] ∧
   Calls Tryd.prog 23 #[l0.v, .string s0] w0 fun e3 w4 => ∃ b0 : Bool, e3 = (.returned (.bool b0)) ∧
    (b0 = true → J0 2 w4) ∧
    (b0 = false → J0 1 w4))
theorem scan_cutter_word_wp (c : Addr) (R : Value → World → Prop) (w : World) (h : scan_cutter_word_vc c R w) : Calls Tryd.prog 31 #[.pointer (some c)] w fun e w' => ∃ v, e = .returned v ∧ R v w' :=
  fn_by (an := .s .o (.s .o (.s (.s .o (.s (.s .o .o) .o)) (.s .o (.j [0, 3] [.s 4 (.int .i64)] (.s .o (.s .o .o)) (.s .o (.s .o .o))))))) (args := [.ad c]) Tryd.checked.mixed (by kernel_rfl) (by kernel_rfl) h
def internal_stringslite_Cut_vc (s : ByteArray) (sep : ByteArray) (R : Value → World → Prop) (w : World) : Prop :=
  Calls Tryd.prog 45 #[.string s, .string sep] w fun e0 w0 => ∃ i0 : Int, e0 = (.returned (.int .i64 i0)) ∧
   ((decide (i0 ≥ 0)) = true → ∃ k0 : Nat, (i0 = (k0 : Int) ∧
     k0 ≤ s.size) ∧
    ∃ k1 : Nat, ((IntKind.wrap .i64 (i0 + (sep.size : Int))) = (k1 : Int) ∧
     k1 ≤ s.size) ∧
    ∀ w1 : World, Only [] w0 w1 → R (.tuple #[.string (s.extract 0 k0), .string (s.extract k1 s.size), .bool true]) w1) ∧
   ((decide (i0 ≥ 0)) = false → R (.tuple #[.string s, .string (ByteArray.mk #[]), .bool false]) w0)
theorem internal_stringslite_Cut_wp (s : ByteArray) (sep : ByteArray) (R : Value → World → Prop) (w : World) (h : internal_stringslite_Cut_vc s sep R w) : Calls Tryd.prog 41 #[.string s, .string sep] w fun e w' => ∃ v, e = .returned v ∧ R v w' :=
  fn_by (an := .s .o (.s (.s .o (.s .o (.s (.s .o .o) .o))) (.s .o .o))) (args := [.str s, .str sep]) Tryd.checked.mixed (by kernel_rfl) (by kernel_rfl) h
def internal_stringslite_HasPrefix_vc (s : ByteArray) (prefix_ : ByteArray) (R : Value → World → Prop) (w : World) : Prop :=
  ∃ k0 : Nat, ((decide ((s.size : Int) ≥ (prefix_.size : Int))) = true → (prefix_.size : Int) = (k0 : Int) ∧
   k0 ≤ s.size) ∧
  R (.bool ((decide ((s.size : Int) ≥ (prefix_.size : Int))) && (((s.extract 0 k0).toList) == prefix_.toList))) w
theorem internal_stringslite_HasPrefix_wp (s : ByteArray) (prefix_ : ByteArray) (R : Value → World → Prop) (w : World) (h : internal_stringslite_HasPrefix_vc s prefix_ R w) : Calls Tryd.prog 40 #[.string s, .string prefix_] w fun e w' => ∃ v, e = .returned v ∧ R v w' :=
  fn_by (an := .s .o (.s .o .o)) (args := [.str s, .str prefix_]) Tryd.checked.mixed (by kernel_rfl) (by kernel_rfl) h
def calc_Parse_vc (s : ByteArray) (R : Value → World → Prop) (w : World) : Prop :=
  ∃ J0 : Nat → Int → World → Prop, ∃ k0 : Nat, J0 k0 0 w ∧
  ∀ k1 : Nat, ∀ i0 : Int, ∀ w0 : World, J0 k1 i0 w0 → ∃ J1 : Bool → World → Prop, (∀ b0 : Bool, ∀ w1 : World, J1 b0 w1 → (b0 = true → ∃ k2 : Nat, k2 < k1 ∧
    J0 k2 (IntKind.wrap .i64 (i0 + 1)) w1) ∧
   (b0 = false → ((s.toList == ((ByteArray.mk #[]).toList)) = true → R (.tuple #[.int .i64 0, .int .i64 0, .int .i64 3]) w1) ∧
   ((s.toList == ((ByteArray.mk #[]).toList)) = false → ∃ J2 : Bool → World → Prop, (∀ b1 : Bool, ∀ w2 : World, J2 b1 w2 → (b1 = true → R (.tuple #[.int .i64 0, .int .i64 0, .int .i64 4]) w2) ∧
    (b1 = false → ∃ k3 : Nat, (i0 = (k3 : Int) ∧
     k3 ≤ s.size) ∧
    Calls Tryd.prog 48 #[.string (s.extract 0 k3), .int .i64 10, .int .i64 64] w2 fun e0 w3 => ∃ i1 : Int, ∃ v0 : OV, e0 = (.returned (.tuple #[.int .i64 i1, v0.v])) ∧
     Ifc v0.v ∧
     ((!(niV v0.v)) = true → R (.tuple #[.int .i64 0, .int .i64 0, .int .i64 20]) w3) ∧
     ((!(niV v0.v)) = false → R (.tuple #[.int .i64 i1, .int .i64 i0, .int .i64 0]) w3))) ∧
   ((i0 == 0) = true → J2 (i0 == 0) w1) ∧
   ((i0 == 0) = false → ∃ c0 : UInt8, ((decide (i0 > 1)) = true → (0 : Int) ≤ 0 ∧
    s[0]? = (some c0)) ∧
   J2 ((decide (i0 > 1)) && ((UInt8.toNat c0 : Int) == 48)) w1)))) ∧
  ((decide (i0 < (s.size : Int))) = true → ∃ c1 : UInt8, (0 ≤ i0 ∧
    (s[Int.toNat i0]?) = (some c1)) ∧
   Calls Tryd.prog 47 #[.int .u8 (UInt8.toNat c1 : Int)] w0 fun e1 w4 => ∃ b2 : Bool, e1 = (.returned (.bool b2)) ∧
    J1 b2 w4) ∧
  ((decide (i0 < (s.size : Int))) = false → J1 false w0)
theorem calc_Parse_wp (s : ByteArray) (R : Value → World → Prop) (w : World) (h : calc_Parse_vc s R w) : Calls Tryd.prog 43 #[.string s] w fun e w' => ∃ v, e = .returned v ∧ R v w' :=
  fn_by (an := .s .o (.s .o (.s (.j [0] [.s 5 (.int .i64)] (.s (.s (.j [0, 5] [.s 17 .bool] .o .o) (.s .o .o)) .o) .o) (.s (.s .o (.s (.s .o .o) (.j [0, 5] [.s 23 .bool] (.s .o (.s .o .o)) (.s (.s .o .o) .o)))) (.s .o (.s (.s .o (.s (.s .o .o) .o)) (.s .o .o))))))) (args := [.str s]) Tryd.checked.mixed (by kernel_rfl) (by kernel_rfl) h
def calc_digit_vc (c : Int) (R : Value → World → Prop) (w : World) : Prop :=
  R (.bool (decide ((IntKind.wrap .u8 (c - 48)) < 10))) w
theorem calc_digit_wp (c : Int) (R : Value → World → Prop) (w : World) (h : calc_digit_vc c R w) : Calls Tryd.prog 47 #[.int .u8 c] w fun e w' => ∃ v, e = .returned v ∧ R v w' :=
  fn_by (an := .s .o (.s .o .o)) (args := [.int .u8 c]) Tryd.checked.mixed (by kernel_rfl) (by kernel_rfl) h
def pavanelaw04_ScanCuts_vc (s : ByteArray) (R : Value → World → Prop) (w : World) : Prop :=
  Calls Tryd.prog 7 #[] w fun e0 w0 => ∃ b0 : Bool, e0 = (.returned (.bool b0)) ∧
   Calls Tryd.prog 8 #[.string s] w0 fun e1 w1 => ∃ l0 : Sl, ∃ i0 : Int, ∃ i1 : Int, e1 = (.returned (.tuple #[l0.v, .agg #[.int .i64 i0, .int .i64 i1]])) ∧
    ∀ k0 : Nat, ∀ w2 : World, w1.heap.size ≤ k0 → k0 < w2.heap.size → Only [] w1 w2 → Calls Tryd.prog 8 #[.string s] w2 fun e2 w3 => ∃ l1 : Sl, ∃ i2 : Int, ∃ i3 : Int, e2 = (.returned (.tuple #[l1.v, .agg #[.int .i64 i2, .int .i64 i3]])) ∧
     Same [k0] w2 w3 ∧
     ∀ k1 : Nat, ∀ w4 : World, w3.heap.size ≤ k1 → k1 < w4.heap.size → Only [] w3 w4 → Calls Tryd.prog 9 #[.string s] w4 fun e3 w5 => ∃ l2 : Sl, ∃ i4 : Int, ∃ i5 : Int, e3 = (.returned (.tuple #[l2.v, .agg #[.int .i64 i4, .int .i64 i5]])) ∧
      Same [k0, k1] w4 w5 ∧
      ∀ k2 : Nat, ∀ w6 : World, w5.heap.size ≤ k2 → k2 < w6.heap.size → Only [] w5 w6 → Calls Tryd.prog 10 #[l0.v, l2.v] w6 fun e4 w7 => ∃ b1 : Bool, e4 = (.returned (.bool b1)) ∧
       Same [k0, k1, k2] w6 w7 ∧
       ∃ J0 : Nat → Int → World → Prop, ∃ k3 : Nat, J0 k3 0 w7 ∧
       ∀ k4 : Nat, ∀ i6 : Int, ∀ w8 : World, J0 k4 i6 w8 → ((decide (i6 < (l0.n : Int))) = true → ∃ p0 : Addr, SlAt l0 i6 4 p0 ∧
        ∃ k5 : Nat, ∃ k6 : Nat, ∃ z0 : List Value, ∃ k7 : Nat, p0 = ⟨k5, k6, none⟩ ∧
        Blk w8 k5 k7 z0 ∧
        (k6 + 4) ≤ z0.length ∧
        k0 ≠ k5 ∧
        k1 ≠ k5 ∧
        k2 ≠ k5 ∧
        ∀ w9 : World, Only [k5] w8 w9 → Blk w9 k5 k7 (splice z0 k6 [.int .i64 0, .string (ByteArray.mk #[115, 112, 111, 105, 108, 116]), .int .i64 0, .int .i64 0]) → ∃ k8 : Nat, k8 < k4 ∧
        J0 k8 (IntKind.wrap .i64 (i6 + 1)) w9) ∧
       ((decide (i6 < (l0.n : Int))) = false → Calls Tryd.prog 10 #[l1.v, l2.v] w8 fun e5 w10 => ∃ b2 : Bool, e5 = (.returned (.bool b2)) ∧
        Same [k0, k1, k2] w8 w10 ∧
        R (.bool (((b0 && ((i0 == i4) && (i1 == i5))) && b1) && b2)) w10)
theorem pavanelaw04_ScanCuts_wp (s : ByteArray) (R : Value → World → Prop) (w : World) (h : pavanelaw04_ScanCuts_vc s R w) : Calls Tryd.prog 3 #[.string s] w fun e w' => ∃ v, e = .returned v ∧ R v w' :=
  fn_by (an := .s .o (.s .o (.s .o (.s .o (.s .o (.s .o (.s (.s .o (.j [3, 4, 5, 6, 7, 8, 9, 10] [.s 11 (.int .i64)] (.s (.s .o (.s .o .o)) (.s .o .o)) .o)) (.s .o (.s .o .o))))))))) (args := [.str s]) Tryd.checked.mixed (by kernel_rfl) (by kernel_rfl) h
def pavanelaw04_ScanNamed_vc (s : ByteArray) (R : Value → World → Prop) (w : World) : Prop :=
  Calls Tryd.prog 7 #[] w fun e0 w0 => ∃ b0 : Bool, e0 = (.returned (.bool b0)) ∧
   ((decide ((s.size : Int) > 16384)) = true → ∃ J0 : Bool → World → Prop, (∀ b1 : Bool, ∀ w1 : World, J0 b1 w1 → R (.bool b1) w1) ∧
    (b0 = true → Calls Tryd.prog 13 #[.string s] w0 fun e1 w2 => ∃ b2 : Bool, e1 = (.returned (.bool b2)) ∧
      J0 (!b2) w2) ∧
    (b0 = false → J0 false w0)) ∧
   ((decide ((s.size : Int) > 16384)) = false → Calls Tryd.prog 13 #[.string s] w0 fun e2 w3 => ∃ b3 : Bool, e2 = (.returned (.bool b3)) ∧
    Calls Tryd.prog 8 #[.string s] w3 fun e3 w4 => ∃ l0 : Sl, ∃ i0 : Int, ∃ i1 : Int, e3 = (.returned (.tuple #[l0.v, .agg #[.int .i64 i0, .int .i64 i1]])) ∧
     ∀ k0 : Nat, ∀ w5 : World, w4.heap.size ≤ k0 → k0 < w5.heap.size → Only [] w4 w5 → ∃ p0 : Addr, (((i0 == 0) && ((l0.n : Int) == 2)) = true → SlAt l0 0 4 p0) ∧
     ∃ i2 : Int, (((i0 == 0) && ((l0.n : Int) == 2)) = true → Cells w5 (p0.add 0) [.int .i64 i2]) ∧
     ∃ p1 : Addr, ((((i0 == 0) && ((l0.n : Int) == 2)) && (i2 == 1)) = true → SlAt l0 0 4 p1) ∧
     ∃ s0 : ByteArray, ((((i0 == 0) && ((l0.n : Int) == 2)) && (i2 == 1)) = true → Cells w5 (p1.add 1) [.string s0]) ∧
     ∃ J1 : Bool → World → Prop, (∀ b4 : Bool, ∀ w6 : World, J1 b4 w6 → R (.bool b4) w6) ∧
     ((b0 && (b3 == ((((i0 == 0) && ((l0.n : Int) == 2)) && (i2 == 1)) && (s0.toList == s.toList)))) = true → ((!b3) = true → J1 true w5) ∧
      ((!b3) = false → ((s.size : Int) + 1) ≤ 9223372036854775807 ∧
      Calls Tryd.prog 13 #[.string (s ++ (ByteArray.mk #[95]))] w5 fun e4 w7 => ∃ b5 : Bool, e4 = (.returned (.bool b5)) ∧
       Same [k0] w5 w7 ∧
       J1 (b5 == (decide ((s.size : Int) < 24))) w7)) ∧
     ((b0 && (b3 == ((((i0 == 0) && ((l0.n : Int) == 2)) && (i2 == 1)) && (s0.toList == s.toList)))) = false → J1 false w5))
theorem pavanelaw04_ScanNamed_wp (s : ByteArray) (R : Value → World → Prop) (w : World) (h : pavanelaw04_ScanNamed_vc s R w) : Calls Tryd.prog 6 #[.string s] w fun e w' => ∃ v, e = .returned v ∧ R v w' :=
  fn_by (an := .s .o (.s .o (.s (.s .o (.s (.s (.j [] [.s 2 .bool] .o .o) .o) .o)) (.s .o (.s .o (.s .o (.s (.j [6] [.s 2 .bool] .o .o) .o))))))) (args := [.str s]) Tryd.checked.mixed (by kernel_rfl) (by kernel_rfl) h
def pavanelaw04_ScanNames_vc (s : ByteArray) (R : Value → World → Prop) (w : World) : Prop :=
  Calls Tryd.prog 7 #[] w fun e0 w0 => ∃ b0 : Bool, e0 = (.returned (.bool b0)) ∧
   Calls Tryd.prog 11 #[] w0 fun e1 w1 => ∃ l0 : Sl, e1 = (.returned l0.v) ∧
    Calls Tryd.prog 12 #[] w1 fun e2 w2 => ∃ l1 : Sl, e2 = (.returned l1.v) ∧
     (((l0.n : Int) != (l1.n : Int)) = true → R (.bool false) w2) ∧
     (((l0.n : Int) != (l1.n : Int)) = false → ∃ J0 : Nat → Int → World → Prop, ∃ k0 : Nat, J0 k0 0 w2 ∧
     ∀ k1 : Nat, ∀ i0 : Int, ∀ w3 : World, J0 k1 i0 w3 → ((decide (i0 < (l0.n : Int))) = true → ∃ p0 : Addr, SlAt l0 i0 1 p0 ∧
      ∃ s0 : ByteArray, Cells w3 p0 [.string s0] ∧
      ∃ p1 : Addr, SlAt l1 i0 1 p1 ∧
      ∃ s1 : ByteArray, Cells w3 p1 [.string s1] ∧
      ((!(s0.toList == s1.toList)) = true → ∀ w4 : World, Only [] w3 w4 → R (.bool false) w4) ∧
      ((!(s0.toList == s1.toList)) = false → ∃ p2 : Addr, SlAt l0 i0 1 p2 ∧
      ∀ w5 : World, Only [] w3 w5 → ∃ k2 : Nat, ∃ k3 : Nat, ∃ z0 : List Value, ∃ k4 : Nat, p2 = ⟨k2, k3, none⟩ ∧
      Blk w5 k2 k4 z0 ∧
      (k3 + 1) ≤ z0.length ∧
      ∀ w6 : World, Only [k2] w5 w6 → Blk w6 k2 k4 (splice z0 k3 [.string (ByteArray.mk #[115, 112, 111, 105, 108, 116])]) → ∃ k5 : Nat, k5 < k1 ∧
      J0 k5 (IntKind.wrap .i64 (i0 + 1)) w6)) ∧
     ((decide (i0 < (l0.n : Int))) = false → Calls Tryd.prog 11 #[] w3 fun e3 w7 => ∃ l2 : Sl, e3 = (.returned l2.v) ∧
      ∃ J1 : Bool → World → Prop, (∀ b1 : Bool, ∀ w8 : World, J1 b1 w8 → R (.bool b1) w8) ∧
      (b0 = true → ∀ w9 : World, Only [] w7 w9 → Calls Tryd.prog 13 #[.string s] w9 fun e4 w10 => ∃ b2 : Bool, e4 = (.returned (.bool b2)) ∧
        Calls Tryd.prog 14 #[.string s] w10 fun e5 w11 => ∃ b3 : Bool, e5 = (.returned (.bool b3)) ∧
         ((b2 == b3) = true → (((l2.n : Int) == (l1.n : Int)) = true → ∃ p3 : Addr, SlAt l2 0 1 p3 ∧
           ∃ s2 : ByteArray, Cells w11 p3 [.string s2] ∧
           ∃ p4 : Addr, SlAt l1 0 1 p4 ∧
           ∃ s3 : ByteArray, Cells w11 p4 [.string s3] ∧
           J1 (s2.toList == s3.toList) w11) ∧
          (((l2.n : Int) == (l1.n : Int)) = false → J1 false w11)) ∧
         ((b2 == b3) = false → J1 false w11)) ∧
      (b0 = false → ∀ w12 : World, Only [] w7 w12 → J1 false w12)))
theorem pavanelaw04_ScanNames_wp (s : ByteArray) (R : Value → World → Prop) (w : World) (h : pavanelaw04_ScanNames_vc s R w) : Calls Tryd.prog 5 #[.string s] w fun e w' => ∃ v, e = .returned v ∧ R v w' :=
  fn_by (an := .s .o (.s .o (.s .o (.s .o (.s (.s .o (.s (.s .o .o) .o)) (.s (.s .o (.j [0, 3, 4, 5] [.s 6 (.int .i64)] (.s (.s .o (.s .o .o)) (.s (.s (.s .o (.s (.s .o .o) .o)) .o) .o)) .o)) (.s .o (.s (.j [] [.s 2 .bool] .o .o) .o)))))))) (args := [.str s]) Tryd.checked.mixed (by kernel_rfl) (by kernel_rfl) h
def pavanelaw04_ScanNotes_vc (s : ByteArray) (note : ByteArray) (R : Value → World → Prop) (w : World) : Prop :=
  Calls Tryd.prog 7 #[] w fun e0 w0 => ∃ b0 : Bool, e0 = (.returned (.bool b0)) ∧
   (((decide ((s.size : Int) > 16384)) || (decide ((note.size : Int) > 200))) = true → R (.bool b0) w0) ∧
   (((decide ((s.size : Int) > 16384)) || (decide ((note.size : Int) > 200))) = false → ∃ J0 : Nat → ByteArray → Int → World → Prop, ∃ k0 : Nat, J0 k0 (ByteArray.mk #[]) 0 w0 ∧
   ∀ k1 : Nat, ∀ s0 : ByteArray, ∀ i0 : Int, ∀ w1 : World, J0 k1 s0 i0 w1 → ((decide (i0 < (note.size : Int))) = true → ∃ J1 : ByteArray → World → Prop, (∀ s1 : ByteArray, ∀ w2 : World, J1 s1 w2 → ∃ k2 : Nat, k2 < k1 ∧
     J0 k2 s1 (IntKind.wrap .i64 (i0 + 1)) w2) ∧
    ∃ c0 : UInt8, (0 ≤ i0 ∧
     (note[Int.toNat i0]?) = (some c0)) ∧
    (((UInt8.toNat c0 : Int) != 10) = true → ∃ k4 : Nat, ∃ k5 : Nat, (i0 = (k4 : Int) ∧
      (IntKind.wrap .i64 (i0 + 1)) = (k5 : Int) ∧
      k4 ≤ k5 ∧
      k5 ≤ note.size) ∧
     ((s0.size : Int) + ((note.extract k4 k5).size : Int)) ≤ 9223372036854775807 ∧
     J1 (s0 ++ (note.extract k4 k5)) w1) ∧
    (((UInt8.toNat c0 : Int) != 10) = false → J1 s0 w1)) ∧
   ((decide (i0 < (note.size : Int))) = false → Calls Tryd.prog 8 #[.string s] w1 fun e1 w3 => ∃ l0 : Sl, ∃ i1 : Int, ∃ i2 : Int, e1 = (.returned (.tuple #[l0.v, .agg #[.int .i64 i1, .int .i64 i2]])) ∧
    ((s.size : Int) + 3) ≤ 9223372036854775807 ∧
    (((s ++ (ByteArray.mk #[10, 47, 47])).size : Int) + (s0.size : Int)) ≤ 9223372036854775807 ∧
    ∀ k6 : Nat, ∀ w4 : World, w3.heap.size ≤ k6 → k6 < w4.heap.size → Only [] w3 w4 → Calls Tryd.prog 8 #[.string ((s ++ (ByteArray.mk #[10, 47, 47])) ++ s0)] w4 fun e2 w5 => ∃ l1 : Sl, ∃ i3 : Int, ∃ i4 : Int, e2 = (.returned (.tuple #[l1.v, .agg #[.int .i64 i3, .int .i64 i4]])) ∧
     Same [k6] w4 w5 ∧
     (((!b0) || (decide ((IntKind.wrap .i64 ((IntKind.wrap .i64 ((s.size : Int) + (s0.size : Int))) + 3)) > 16384))) = true → ∀ k7 : Nat, ∀ w6 : World, w5.heap.size ≤ k7 → k7 < w6.heap.size → Only [] w5 w6 → R (.bool b0) w6) ∧
     (((!b0) || (decide ((IntKind.wrap .i64 ((IntKind.wrap .i64 ((s.size : Int) + (s0.size : Int))) + 3)) > 16384))) = false → ((i1 != 0) = true → ∀ k8 : Nat, ∀ w7 : World, w5.heap.size ≤ k8 → k8 < w7.heap.size → Only [] w5 w7 → R (.bool ((i1 == i3) && (i2 == i4))) w7) ∧
     ((i1 != 0) = false → ∀ k9 : Nat, ∀ w8 : World, w5.heap.size ≤ k9 → k9 < w8.heap.size → Only [] w5 w8 → (((((l0.n : Int) == 0) || ((l1.n : Int) != (l0.n : Int))) || (i3 != 0)) = true → R (.bool false) w8) ∧
     (((((l0.n : Int) == 0) || ((l1.n : Int) != (l0.n : Int))) || (i3 != 0)) = false → ∃ k10 : Nat, ((IntKind.wrap .i64 ((l0.n : Int) - 1)) = (k10 : Int) ∧
      k10 ≤ l0.c) ∧
     ∃ k11 : Nat, ((IntKind.wrap .i64 ((l0.n : Int) - 1)) = (k11 : Int) ∧
      k11 ≤ l1.c) ∧
     ∀ w9 : World, Only [] w8 w9 → Calls Tryd.prog 10 #[(l0.cut 0 k10 l0.c 4).v, (l1.cut 0 k11 l1.c 4).v] w9 fun e3 w10 => ∃ b1 : Bool, e3 = (.returned (.bool b1)) ∧
      Same [k6, k9] w9 w10 ∧
      ∃ p0 : Addr, (b1 = true → SlAt l1 (IntKind.wrap .i64 ((l0.n : Int) - 1)) 4 p0) ∧
      ∃ i5 : Int, (b1 = true → Cells w10 (p0.add 0) [.int .i64 i5]) ∧
      ∃ p1 : Addr, ((b1 && (i5 == 5)) = true → SlAt l1 (IntKind.wrap .i64 ((l0.n : Int) - 1)) 4 p1) ∧
      ∃ i6 : Int, ((b1 && (i5 == 5)) = true → Cells w10 (p1.add 3) [.int .i64 i6]) ∧
      R (.bool ((b1 && (i5 == 5)) && (i6 == (IntKind.wrap .i64 ((IntKind.wrap .i64 ((s.size : Int) + (s0.size : Int))) + 3))))) w10)))))
theorem pavanelaw04_ScanNotes_wp (s : ByteArray) (note : ByteArray) (R : Value → World → Prop) (w : World) (h : pavanelaw04_ScanNotes_vc s note R w) : Calls Tryd.prog 4 #[.string s, .string note] w fun e w' => ∃ v, e = .returned v ∧ R v w' :=
  fn_by (an := .s .o (.s .o (.s (.s .o (.s (.s .o .o) .o)) (.s .o (.s (.s .o (.j [0, 1, 5] [.s 6 .str, .s 7 (.int .i64)] (.s (.s .o (.s .o .o)) (.j [0, 1, 5, 7] [.s 6 .str] (.s .o (.s .o .o)) .o)) .o)) (.s .o (.s .o (.s (.s .o (.s (.s .o .o) .o)) (.s (.s .o (.s (.s .o .o) .o)) (.s (.s .o (.s (.s .o .o) .o)) (.s .o (.s .o (.s .o .o))))))))))))) (args := [.str s, .str note]) Tryd.checked.mixed (by kernel_rfl) (by kernel_rfl) h
def pavanelaw04_small_vc (R : Value → World → Prop) (w : World) : Prop :=
  Calls Tryd.prog 8 #[.string (ByteArray.mk #[115, 101, 116, 32, 120, 49, 61, 45, 50, 48, 59])] w fun e0 w0 => ∃ l0 : Sl, ∃ i0 : Int, ∃ i1 : Int, e0 = (.returned (.tuple #[l0.v, .agg #[.int .i64 i0, .int .i64 i1]])) ∧
   ∀ k0 : Nat, ∀ w1 : World, w0.heap.size ≤ k0 → k0 < w1.heap.size → Only [] w0 w1 → ∃ p0 : Addr, ((((i0 == 0) && (i1 == 0)) && ((l0.n : Int) == 7)) = true → SlAt l0 0 4 p0) ∧
   ∃ i2 : Int, ((((i0 == 0) && (i1 == 0)) && ((l0.n : Int) == 7)) = true → Cells w1 (p0.add 0) [.int .i64 i2]) ∧
   ∃ p1 : Addr, (((((i0 == 0) && (i1 == 0)) && ((l0.n : Int) == 7)) && (i2 == 2)) = true → SlAt l0 1 4 p1) ∧
   ∃ s0 : ByteArray, (((((i0 == 0) && (i1 == 0)) && ((l0.n : Int) == 7)) && (i2 == 2)) = true → Cells w1 (p1.add 1) [.string s0]) ∧
   ∃ p2 : Addr, ((((((i0 == 0) && (i1 == 0)) && ((l0.n : Int) == 7)) && (i2 == 2)) && (s0.toList == ((ByteArray.mk #[120, 49]).toList))) = true → SlAt l0 4 4 p2) ∧
   ∃ i3 : Int, ((((((i0 == 0) && (i1 == 0)) && ((l0.n : Int) == 7)) && (i2 == 2)) && (s0.toList == ((ByteArray.mk #[120, 49]).toList))) = true → Cells w1 (p2.add 2) [.int .i64 i3]) ∧
   ∃ p3 : Addr, (((((((i0 == 0) && (i1 == 0)) && ((l0.n : Int) == 7)) && (i2 == 2)) && (s0.toList == ((ByteArray.mk #[120, 49]).toList))) && (i3 == 20)) = true → SlAt l0 6 4 p3) ∧
   ∃ i4 : Int, (((((((i0 == 0) && (i1 == 0)) && ((l0.n : Int) == 7)) && (i2 == 2)) && (s0.toList == ((ByteArray.mk #[120, 49]).toList))) && (i3 == 20)) = true → Cells w1 (p3.add 0) [.int .i64 i4]) ∧
   R (.bool (((((((i0 == 0) && (i1 == 0)) && ((l0.n : Int) == 7)) && (i2 == 2)) && (s0.toList == ((ByteArray.mk #[120, 49]).toList))) && (i3 == 20)) && (i4 == 5))) w1
theorem pavanelaw04_small_wp (R : Value → World → Prop) (w : World) (h : pavanelaw04_small_vc R w) : Calls Tryd.prog 7 #[] w fun e w' => ∃ v, e = .returned v ∧ R v w' :=
  fn_by (an := .s .o (.s .o (.s .o .o))) (args := []) Tryd.checked.mixed (by kernel_rfl) (by kernel_rfl) h
def pavaneref03_Parse_vc (s : ByteArray) (R : Value → World → Prop) (w : World) : Prop :=
  (((s.size : Int) == 0) = true → R (.tuple #[.int .i64 0, .int .i64 0, .int .i64 3]) w) ∧
  (((s.size : Int) == 0) = false → ∃ J0 : Nat → Int → World → Prop, ∃ k0 : Nat, J0 k0 0 w ∧
  ∀ k1 : Nat, ∀ i0 : Int, ∀ w0 : World, J0 k1 i0 w0 → ∃ c0 : UInt8, ((decide (i0 < (s.size : Int))) = true → 0 ≤ i0 ∧
   (s[Int.toNat i0]?) = (some c0)) ∧
  ∃ c1 : UInt8, (((decide (i0 < (s.size : Int))) && (decide ((UInt8.toNat c0 : Int) ≥ 48))) = true → 0 ≤ i0 ∧
   (s[Int.toNat i0]?) = (some c1)) ∧
  ((((decide (i0 < (s.size : Int))) && (decide ((UInt8.toNat c0 : Int) ≥ 48))) && (decide ((UInt8.toNat c1 : Int) ≤ 57))) = true → ∃ k4 : Nat, k4 < k1 ∧
   J0 k4 (IntKind.wrap .i64 (i0 + 1)) w0) ∧
  ((((decide (i0 < (s.size : Int))) && (decide ((UInt8.toNat c0 : Int) ≥ 48))) && (decide ((UInt8.toNat c1 : Int) ≤ 57))) = false → ∃ c2 : UInt8, ((i0 == 0) = false → (decide (i0 > 1)) = true → (0 : Int) ≤ 0 ∧
   s[0]? = (some c2)) ∧
  (((i0 == 0) || ((decide (i0 > 1)) && ((UInt8.toNat c2 : Int) == 48))) = true → R (.tuple #[.int .i64 0, .int .i64 0, .int .i64 4]) w0) ∧
  (((i0 == 0) || ((decide (i0 > 1)) && ((UInt8.toNat c2 : Int) == 48))) = false → ∃ J1 : Nat → Int → Int → World → Prop, ∃ k6 : Nat, J1 k6 0 0 w0 ∧
  ∀ k7 : Nat, ∀ i1 : Int, ∀ i2 : Int, ∀ w1 : World, J1 k7 i1 i2 w1 → ((decide (i2 < i0)) = true → ∃ c3 : UInt8, (0 ≤ i2 ∧
    (s[Int.toNat i2]?) = (some c3)) ∧
   ((decide (i1 > (IntKind.wrap .i64 ((IntKind.wrap .i64 (9223372036854775807 - (IntKind.wrap .i64 (IntKind.wrap .u8 ((UInt8.toNat c3 : Int) - 48))))).tdiv 10)))) = true → R (.tuple #[.int .i64 0, .int .i64 0, .int .i64 20]) w1) ∧
   ((decide (i1 > (IntKind.wrap .i64 ((IntKind.wrap .i64 (9223372036854775807 - (IntKind.wrap .i64 (IntKind.wrap .u8 ((UInt8.toNat c3 : Int) - 48))))).tdiv 10)))) = false → ∃ k9 : Nat, k9 < k7 ∧
   J1 k9 (IntKind.wrap .i64 ((IntKind.wrap .i64 (10 * i1)) + (IntKind.wrap .i64 (IntKind.wrap .u8 ((UInt8.toNat c3 : Int) - 48))))) (IntKind.wrap .i64 (i2 + 1)) w1)) ∧
  ((decide (i2 < i0)) = false → R (.tuple #[.int .i64 i1, .int .i64 i0, .int .i64 0]) w1))))
theorem pavaneref03_Parse_wp (s : ByteArray) (R : Value → World → Prop) (w : World) (h : pavaneref03_Parse_vc s R w) : Calls Tryd.prog 36 #[.string s] w fun e w' => ∃ v, e = .returned v ∧ R v w' :=
  fn_by (an := .s .o (.s (.s .o (.s (.s .o .o) .o)) (.s .o (.s (.j [0] [.s 5 (.int .i64)] (.s (.s .o (.s .o .o)) .o) .o) (.s (.s .o (.s (.s .o .o) .o)) (.s .o (.s (.s .o (.j [0, 5] [.s 6 (.int .i64), .s 7 (.int .i64)] (.s (.s .o (.s .o .o)) (.s (.s .o (.s (.s .o (.s (.s .o .o) .o)) .o)) .o)) .o)) (.s .o .o)))))))) (args := [.str s]) Tryd.checked.mixed (by kernel_rfl) (by kernel_rfl) h
def pavaneref04_Name_vc (s : ByteArray) (R : Value → World → Prop) (w : World) : Prop :=
  (((s.toList == ((ByteArray.mk #[]).toList)) || (decide ((s.size : Int) > 24))) = true → R (.bool false) w) ∧
  (((s.toList == ((ByteArray.mk #[]).toList)) || (decide ((s.size : Int) > 24))) = false → ∃ c0 : UInt8, ((0 : Int) ≤ 0 ∧
   s[0]? = (some c0)) ∧
  Calls Tryd.prog 24 #[.int .u8 (UInt8.toNat c0 : Int)] w fun e0 w0 => ∃ b0 : Bool, e0 = (.returned (.bool b0)) ∧
   Calls Tryd.prog 25 #[.string s] w0 fun e1 w1 => ∃ b1 : Bool, e1 = (.returned (.bool b1)) ∧
    ∃ J0 : Bool → World → Prop, (∀ b2 : Bool, ∀ w2 : World, J0 b2 w2 → R (.bool b2) w2) ∧
    ((b0 && (!b1)) = true → Calls Tryd.prog 26 #[.string s, .int .i64 0] w1 fun e2 w3 => ∃ i0 : Int, e2 = (.returned (.int .i64 i0)) ∧
      J0 (i0 == (s.size : Int)) w3) ∧
    ((b0 && (!b1)) = false → J0 false w1))
theorem pavaneref04_Name_wp (s : ByteArray) (R : Value → World → Prop) (w : World) (h : pavaneref04_Name_vc s R w) : Calls Tryd.prog 14 #[.string s] w fun e w' => ∃ v, e = .returned v ∧ R v w' :=
  fn_by (an := .s .o (.s (.s .o (.s (.s .o .o) .o)) (.s .o (.s .o (.s (.j [] [.s 2 .bool] .o .o) .o))))) (args := [.str s]) Tryd.checked.mixed (by kernel_rfl) (by kernel_rfl) h
def pavaneref04_Same_vc (a_ : Sl) (b : Sl) (R : Value → World → Prop) (w : World) : Prop :=
  (((a_.n : Int) != (b.n : Int)) = true → R (.bool false) w) ∧
  (((a_.n : Int) != (b.n : Int)) = false → ∃ J0 : Nat → Int → World → Prop, ∃ k0 : Nat, J0 k0 0 w ∧
  ∀ k1 : Nat, ∀ i0 : Int, ∀ w0 : World, J0 k1 i0 w0 → ((decide (i0 < (a_.n : Int))) = true → ∃ p0 : Addr, SlAt a_ i0 4 p0 ∧
   ∃ i1 : Int, ∃ s0 : ByteArray, ∃ i2 : Int, ∃ i3 : Int, Cells w0 p0 [.int .i64 i1, .string s0, .int .i64 i2, .int .i64 i3] ∧
   ∃ p1 : Addr, SlAt b i0 4 p1 ∧
   ∃ i4 : Int, ∃ s1 : ByteArray, ∃ i5 : Int, ∃ i6 : Int, Cells w0 p1 [.int .i64 i4, .string s1, .int .i64 i5, .int .i64 i6] ∧
   ((!((i1 == i4) && ((s0 == s1) && ((i2 == i5) && (i3 == i6))))) = true → ∀ w1 : World, Only [] w0 w1 → R (.bool false) w1) ∧
   ((!((i1 == i4) && ((s0 == s1) && ((i2 == i5) && (i3 == i6))))) = false → ∀ w2 : World, Only [] w0 w2 → ∃ k2 : Nat, k2 < k1 ∧
   J0 k2 (IntKind.wrap .i64 (i0 + 1)) w2)) ∧
  ((decide (i0 < (a_.n : Int))) = false → R (.bool true) w0))
theorem pavaneref04_Same_wp (a_ : Sl) (b : Sl) (R : Value → World → Prop) (w : World) (h : pavaneref04_Same_vc a_ b R w) : Calls Tryd.prog 10 #[a_.v, b.v] w fun e w' => ∃ v, e = .returned v ∧ R v w' :=
  fn_by (an := .s .o (.s (.s .o (.s (.s .o .o) .o)) (.s (.s .o (.j [0, 1] [.s 5 (.int .i64)] (.s (.s .o (.s .o .o)) (.s (.s .o (.s (.s .o .o) .o)) .o)) .o)) (.s .o .o)))) (args := [.sl a_, .sl b]) Tryd.checked.mixed (by kernel_rfl) (by kernel_rfl) h
def pavaneref04_Tokens_vc (s : ByteArray) (R : Value → World → Prop) (w : World) : Prop :=
  ((decide ((s.size : Int) > 16384)) = true → ∀ k0 : Nat, ∀ w0 : World, w.heap.size ≤ k0 → k0 < w0.heap.size → Only [] w w0 → R (.tuple #[Sl.nil.v, .agg #[.int .i64 2, .int .i64 (-1)]]) w0) ∧
  ((decide ((s.size : Int) > 16384)) = false → ∀ k1 : Nat, ∀ w1 : World, w.heap.size ≤ k1 → k1 < w1.heap.size → Only [] w w1 → Calls Tryd.prog 19 #[.string s, .int .i64 0] w1 fun e0 w2 => ∃ i0 : Int, e0 = (.returned (.int .i64 i0)) ∧
   Same [k1] w1 w2 ∧
   ∃ J0 : Nat → Sl → Int → Int → Int → World → Prop, ∃ k2 : Nat, J0 k2 Sl.nil i0 0 0 w2 ∧
   ∀ k3 : Nat, ∀ l0 : Sl, ∀ i1 : Int, ∀ i2 : Int, ∀ i3 : Int, ∀ w3 : World, J0 k3 l0 i1 i2 i3 w3 → ((decide (i1 < (s.size : Int))) = true → Calls Tryd.prog 20 #[.string s, .int .i64 i1] w3 fun e1 w4 => ∃ i4 : Int, ∃ s0 : ByteArray, ∃ i5 : Int, ∃ i6 : Int, ∃ i7 : Int, ∃ i8 : Int, e1 = (.returned (.tuple #[.agg #[.int .i64 i4, .string s0, .int .i64 i5, .int .i64 i6], .int .i64 i7, .int .i64 i8])) ∧
     Same [k1] w3 w4 ∧
     ((i8 != 0) = true → ∀ k4 : Nat, ∀ w5 : World, w4.heap.size ≤ k4 → k4 < w5.heap.size → Only [k1] w4 w5 → R (.tuple #[Sl.nil.v, .agg #[.int .i64 i8, .int .i64 i1]]) w5) ∧
     ((i8 != 0) = false → ∀ k5 : Nat, ∀ w6 : World, w4.heap.size ≤ k5 → k5 < w6.heap.size → Only [] w4 w6 → ∃ l1 : Sl, ∃ w7 : World, ((Instr.buildSlice 23 1 #[.mk 0 (.agg #[.int .i64 i4, .string s0, .int .i64 i5, .int .i64 i6])]).run Tryd.prog w6) = (.ok l1.v w7) ∧
     Same [k1, k5] w6 w7 ∧
     ∃ l2 : Sl, ∃ w8 : World, ((Builtin.append_ #[23, 23] 23 #[l0.v, l1.v]).run Tryd.prog w7) = (.ok l2.v w8) ∧
     Same [k1, k5] w7 w8 ∧
     Calls Tryd.prog 19 #[.string s, .int .i64 (IntKind.wrap .i64 (i1 + i7))] w8 fun e2 w9 => ∃ i9 : Int, e2 = (.returned (.int .i64 i9)) ∧
      Same [k1, k5] w8 w9 ∧
      ∃ k6 : Nat, k6 < k3 ∧
      J0 k6 l2 i9 i2 i3 w9)) ∧
   ((decide (i1 < (s.size : Int))) = false → ∃ l3 : Sl, ∃ w10 : World, ((Instr.buildSlice 23 1 #[.mk 0 (.agg #[.int .i64 5, .string (ByteArray.mk #[]), .int .i64 0, .int .i64 (s.size : Int)])]).run Tryd.prog w3) = (.ok l3.v w10) ∧
   Same [k1] w3 w10 ∧
   ∃ l4 : Sl, ∃ w11 : World, ((Builtin.append_ #[23, 23] 23 #[l0.v, l3.v]).run Tryd.prog w10) = (.ok l4.v w11) ∧
   Same [k1] w10 w11 ∧
   ∀ w12 : World, Only [k1] w11 w12 → R (.tuple #[l4.v, .agg #[.int .i64 0, .int .i64 0]]) w12))
theorem pavaneref04_Tokens_wp (s : ByteArray) (R : Value → World → Prop) (w : World) (h : pavaneref04_Tokens_vc s R w) : Calls Tryd.prog 9 #[.string s] w fun e w' => ∃ v, e = .returned v ∧ R v w' :=
  fn_by (an := .s .o (.s (.s .o (.s (.s .o .o) .o)) (.s .o (.s .o (.s (.j [0, 3] [.s 4 .sl, .s 5 (.int .i64), .b 3 [.int .i64, .int .i64]] (.s (.s .o (.s .o .o)) (.s .o (.s (.s .o (.s (.s .o .o) .o)) (.s .o .o)))) .o) (.s .o .o)))))) (args := [.str s]) Tryd.checked.mixed (by kernel_rfl) (by kernel_rfl) h
def pavaneref04_Word_vc (s : ByteArray) (R : Value → World → Prop) (w : World) : Prop :=
  Calls Tryd.prog 12 #[] w fun e0 w0 => ∃ l0 : Sl, e0 = (.returned l0.v) ∧
   ∃ J0 : Nat → Int → World → Prop, ∃ k0 : Nat, J0 k0 0 w0 ∧
   ∀ k1 : Nat, ∀ i0 : Int, ∀ w1 : World, J0 k1 i0 w1 → ((decide (i0 < (l0.n : Int))) = true → ∃ p0 : Addr, SlAt l0 i0 1 p0 ∧
    ∃ s0 : ByteArray, Cells w1 p0 [.string s0] ∧
    ((s0.toList == s.toList) = true → R (.bool true) w1) ∧
    ((s0.toList == s.toList) = false → ∃ k2 : Nat, k2 < k1 ∧
    J0 k2 (IntKind.wrap .i64 (i0 + 1)) w1)) ∧
   ((decide (i0 < (l0.n : Int))) = false → R (.bool false) w1)
theorem pavaneref04_Word_wp (s : ByteArray) (R : Value → World → Prop) (w : World) (h : pavaneref04_Word_vc s R w) : Calls Tryd.prog 25 #[.string s] w fun e w' => ∃ v, e = .returned v ∧ R v w' :=
  fn_by (an := .s .o (.s .o (.s (.s .o (.j [0, 3] [.s 4 (.int .i64)] (.s (.s .o (.s .o .o)) (.s (.s .o (.s (.s .o .o) .o)) .o)) .o)) (.s .o .o)))) (args := [.str s]) Tryd.checked.mixed (by kernel_rfl) (by kernel_rfl) h
def pavaneref04_Words_vc (R : Value → World → Prop) (w : World) : Prop :=
  ∃ l0 : Sl, ∃ w0 : World, ((Instr.buildSlice 34 16 #[.mk 0 (.string (ByteArray.mk #[97, 102, 116, 101, 114])), .mk 1 (.string (ByteArray.mk #[97, 108, 119, 97, 121, 115])), .mk 2 (.string (ByteArray.mk #[99, 104, 97, 114, 116])), .mk 3 (.string (ByteArray.mk #[100, 101, 101, 112])), .mk 4 (.string (ByteArray.mk #[101, 109, 105, 116])), .mk 5 (.string (ByteArray.mk #[101, 110, 116, 101, 114])), .mk 6 (.string (ByteArray.mk #[104, 105, 115, 116, 111, 114, 121])), .mk 7 (.string (ByteArray.mk #[105, 110])), .mk 8 (.string (ByteArray.mk #[105, 110, 105, 116, 105, 97, 108])), .mk 9 (.string (ByteArray.mk #[108, 101, 97, 118, 101])), .mk 10 (.string (ByteArray.mk #[111, 110])), .mk 11 (.string (ByteArray.mk #[112, 97, 114, 97, 108, 108, 101, 108])), .mk 12 (.string (ByteArray.mk #[114, 97, 105, 115, 101])), .mk 13 (.string (ByteArray.mk #[115, 101, 116])), .mk 14 (.string (ByteArray.mk #[115, 116, 97, 116, 101])), .mk 15 (.string (ByteArray.mk #[118, 97, 114]))]).run Tryd.prog w) = (.ok l0.v w0) ∧
  R l0.v w0
theorem pavaneref04_Words_wp (R : Value → World → Prop) (w : World) (h : pavaneref04_Words_vc R w) : Calls Tryd.prog 12 #[] w fun e w' => ∃ v, e = .returned v ∧ R v w' :=
  fn_by (an := .s .o (.s .o .o)) (args := []) Tryd.checked.mixed (by kernel_rfl) (by kernel_rfl) h
def pavaneref04_blanks_vc (s : ByteArray) (at_ : Int) (R : Value → World → Prop) (w : World) : Prop :=
  ∃ J0 : Int → World → Prop, (∀ i0 : Int, ∀ w0 : World, J0 i0 w0 → R (.int .i64 i0) w0) ∧
  ∃ J1 : Nat → Int → World → Prop, ∃ k0 : Nat, J1 k0 at_ w ∧
  ∀ k1 : Nat, ∀ i1 : Int, ∀ w1 : World, J1 k1 i1 w1 → ((decide (i1 < (s.size : Int))) = true → ∃ c0 : UInt8, (0 ≤ i1 ∧
    (s[Int.toNat i1]?) = (some c0)) ∧
   ∃ c1 : UInt8, ((((UInt8.toNat c0 : Int) == 47) && (decide ((IntKind.wrap .i64 (i1 + 1)) < (s.size : Int)))) = true → 0 ≤ (IntKind.wrap .i64 (i1 + 1)) ∧
    (s[Int.toNat (IntKind.wrap .i64 (i1 + 1))]?) = (some c1)) ∧
   (((((UInt8.toNat c0 : Int) == 47) && (decide ((IntKind.wrap .i64 (i1 + 1)) < (s.size : Int)))) && ((UInt8.toNat c1 : Int) == 47)) = true → ∃ J2 : Nat → Int → World → Prop, ∃ k4 : Nat, J2 k4 i1 w1 ∧
    ∀ k5 : Nat, ∀ i2 : Int, ∀ w2 : World, J2 k5 i2 w2 → ∃ c2 : UInt8, ((decide (i2 < (s.size : Int))) = true → 0 ≤ i2 ∧
     (s[Int.toNat i2]?) = (some c2)) ∧
    (((decide (i2 < (s.size : Int))) && ((UInt8.toNat c2 : Int) != 10)) = true → ∃ k7 : Nat, k7 < k5 ∧
     J2 k7 (IntKind.wrap .i64 (i2 + 1)) w2) ∧
    (((decide (i2 < (s.size : Int))) && ((UInt8.toNat c2 : Int) != 10)) = false → ∃ k8 : Nat, k8 < k1 ∧
    J1 k8 i2 w2)) ∧
   (((((UInt8.toNat c0 : Int) == 47) && (decide ((IntKind.wrap .i64 (i1 + 1)) < (s.size : Int)))) && ((UInt8.toNat c1 : Int) == 47)) = false → ((((((UInt8.toNat c0 : Int) == 9) || ((UInt8.toNat c0 : Int) == 10)) || ((UInt8.toNat c0 : Int) == 13)) || ((UInt8.toNat c0 : Int) == 32)) = true → ∃ k9 : Nat, k9 < k1 ∧
    J1 k9 (IntKind.wrap .i64 (i1 + 1)) w1) ∧
   ((((((UInt8.toNat c0 : Int) == 9) || ((UInt8.toNat c0 : Int) == 10)) || ((UInt8.toNat c0 : Int) == 13)) || ((UInt8.toNat c0 : Int) == 32)) = false → J0 i1 w1))) ∧
  ((decide (i1 < (s.size : Int))) = false → J0 i1 w1)
theorem pavaneref04_blanks_wp (s : ByteArray) (at_ : Int) (R : Value → World → Prop) (w : World) (h : pavaneref04_blanks_vc s at_ R w) : Calls Tryd.prog 19 #[.string s, .int .i64 at_] w fun e w' => ∃ v, e = .returned v ∧ R v w' :=
  fn_by (an := .s .o (.j [] [.s 1 (.int .i64)] (.j [0] [.s 1 (.int .i64)] (.s (.s .o (.s .o .o)) (.s .o (.s .o (.s (.j [0] [.s 1 (.int .i64)] (.s (.s .o (.s .o .o)) .o) .o) (.s .o (.s .o .o)))))) .o) (.s .o .o))) (args := [.str s, .int .i64 at_]) Tryd.checked.mixed (by kernel_rfl) (by kernel_rfl) h
def pavaneref04_digit_vc (c : Int) (R : Value → World → Prop) (w : World) : Prop :=
  R (.bool ((decide (c ≥ 48)) && (decide (c ≤ 57)))) w
theorem pavaneref04_digit_wp (c : Int) (R : Value → World → Prop) (w : World) (h : pavaneref04_digit_vc c R w) : Calls Tryd.prog 35 #[.int .u8 c] w fun e w' => ∃ v, e = .returned v ∧ R v w' :=
  fn_by (an := .s .o (.s .o .o)) (args := [.int .u8 c]) Tryd.checked.mixed (by kernel_rfl) (by kernel_rfl) h
def pavaneref04_letter_vc (c : Int) (R : Value → World → Prop) (w : World) : Prop :=
  R (.bool ((((decide (c ≥ 65)) && (decide (c ≤ 90))) || ((decide (c ≥ 97)) && (decide (c ≤ 122)))) || (c == 95))) w
theorem pavaneref04_letter_wp (c : Int) (R : Value → World → Prop) (w : World) (h : pavaneref04_letter_vc c R w) : Calls Tryd.prog 24 #[.int .u8 c] w fun e w' => ∃ v, e = .returned v ∧ R v w' :=
  fn_by (an := .s .o (.s .o .o)) (args := [.int .u8 c]) Tryd.checked.mixed (by kernel_rfl) (by kernel_rfl) h
def pavaneref04_row_vc (s : ByteArray) (at_ : Int) (R : Value → World → Prop) (w : World) : Prop :=
  ∃ J0 : Int → World → Prop, (∀ i0 : Int, ∀ w0 : World, J0 i0 w0 → R (.int .i64 i0) w0) ∧
  ∃ J1 : Nat → Int → World → Prop, ∃ k0 : Nat, J1 k0 0 w ∧
  ∀ k1 : Nat, ∀ i1 : Int, ∀ w1 : World, J1 k1 i1 w1 → ((decide ((IntKind.wrap .i64 (at_ + i1)) < (s.size : Int))) = true → ∃ c0 : UInt8, (0 ≤ (IntKind.wrap .i64 (at_ + i1)) ∧
    (s[Int.toNat (IntKind.wrap .i64 (at_ + i1))]?) = (some c0)) ∧
   Calls Tryd.prog 24 #[.int .u8 (UInt8.toNat c0 : Int)] w1 fun e0 w2 => ∃ b0 : Bool, e0 = (.returned (.bool b0)) ∧
    ∃ c1 : UInt8, (0 ≤ (IntKind.wrap .i64 (at_ + i1)) ∧
     (s[Int.toNat (IntKind.wrap .i64 (at_ + i1))]?) = (some c1)) ∧
    Calls Tryd.prog 35 #[.int .u8 (UInt8.toNat c1 : Int)] w2 fun e1 w3 => ∃ b1 : Bool, e1 = (.returned (.bool b1)) ∧
     (((!b0) && (!b1)) = true → J0 i1 w3) ∧
     (((!b0) && (!b1)) = false → ∃ k4 : Nat, k4 < k1 ∧
     J1 k4 (IntKind.wrap .i64 (i1 + 1)) w3)) ∧
  ((decide ((IntKind.wrap .i64 (at_ + i1)) < (s.size : Int))) = false → J0 i1 w1)
theorem pavaneref04_row_wp (s : ByteArray) (at_ : Int) (R : Value → World → Prop) (w : World) (h : pavaneref04_row_vc s at_ R w) : Calls Tryd.prog 26 #[.string s, .int .i64 at_] w fun e w' => ∃ v, e = .returned v ∧ R v w' :=
  fn_by (an := .s .o (.s .o (.j [] [.s 5 (.int .i64)] (.j [0, 1] [.s 5 (.int .i64)] (.s (.s .o (.s .o .o)) (.s .o (.s .o (.s (.s .o (.s .o .o)) .o)))) .o) (.s .o .o)))) (args := [.str s, .int .i64 at_]) Tryd.checked.mixed (by kernel_rfl) (by kernel_rfl) h
def pavaneref04_sign_vc (s : ByteArray) (at_ : Int) (R : Value → World → Prop) (w : World) : Prop :=
  ∃ l0 : Sl, ∃ w0 : World, ((Instr.buildSlice 34 7 #[.mk 0 (.string (ByteArray.mk #[45, 62])), .mk 1 (.string (ByteArray.mk #[60, 61])), .mk 2 (.string (ByteArray.mk #[62, 61])), .mk 3 (.string (ByteArray.mk #[61, 61])), .mk 4 (.string (ByteArray.mk #[33, 61])), .mk 5 (.string (ByteArray.mk #[38, 38])), .mk 6 (.string (ByteArray.mk #[124, 124]))]).run Tryd.prog w) = (.ok l0.v w0) ∧
  ∃ J0 : Nat → Int → World → Prop, ∃ k0 : Nat, J0 k0 0 w0 ∧
  ∀ k1 : Nat, ∀ i0 : Int, ∀ w1 : World, J0 k1 i0 w1 → ((decide (i0 < (l0.n : Int))) = true → ∃ k2 : Nat, ∃ k3 : Nat, ((decide ((IntKind.wrap .i64 (at_ + 2)) ≤ (s.size : Int))) = true → at_ = (k2 : Int) ∧
    (IntKind.wrap .i64 (at_ + 2)) = (k3 : Int) ∧
    k2 ≤ k3 ∧
    k3 ≤ s.size) ∧
   ∃ p0 : Addr, ((decide ((IntKind.wrap .i64 (at_ + 2)) ≤ (s.size : Int))) = true → SlAt l0 i0 1 p0) ∧
   ∃ s0 : ByteArray, ((decide ((IntKind.wrap .i64 (at_ + 2)) ≤ (s.size : Int))) = true → Cells w1 p0 [.string s0]) ∧
   (((decide ((IntKind.wrap .i64 (at_ + 2)) ≤ (s.size : Int))) && (((s.extract k2 k3).toList) == s0.toList)) = true → ∀ w2 : World, Only [] w1 w2 → R (.int .i64 2) w2) ∧
   (((decide ((IntKind.wrap .i64 (at_ + 2)) ≤ (s.size : Int))) && (((s.extract k2 k3).toList) == s0.toList)) = false → ∀ w3 : World, Only [] w1 w3 → ∃ k4 : Nat, k4 < k1 ∧
   J0 k4 (IntKind.wrap .i64 (i0 + 1)) w3)) ∧
  ((decide (i0 < (l0.n : Int))) = false → ∃ J1 : Nat → Int → World → Prop, ∃ k5 : Nat, J1 k5 0 w1 ∧
  ∀ k6 : Nat, ∀ i1 : Int, ∀ w4 : World, J1 k6 i1 w4 → ((decide (i1 < 17)) = true → ∃ c0 : UInt8, (0 ≤ at_ ∧
    (s[Int.toNat at_]?) = (some c0)) ∧
   ∃ c1 : UInt8, (0 ≤ i1 ∧
    ((ByteArray.mk #[123, 125, 40, 41, 91, 93, 59, 44, 61, 43, 45, 42, 47, 37, 60, 62, 33])[Int.toNat i1]?) = (some c1)) ∧
   (((UInt8.toNat c0 : Int) == (UInt8.toNat c1 : Int)) = true → ∀ w5 : World, Only [] w4 w5 → R (.int .i64 1) w5) ∧
   (((UInt8.toNat c0 : Int) == (UInt8.toNat c1 : Int)) = false → ∀ w6 : World, Only [] w4 w6 → ∃ k9 : Nat, k9 < k6 ∧
   J1 k9 (IntKind.wrap .i64 (i1 + 1)) w6)) ∧
  ((decide (i1 < 17)) = false → R (.int .i64 0) w4))
theorem pavaneref04_sign_wp (s : ByteArray) (at_ : Int) (R : Value → World → Prop) (w : World) (h : pavaneref04_sign_vc s at_ R w) : Calls Tryd.prog 37 #[.string s, .int .i64 at_] w fun e w' => ∃ v, e = .returned v ∧ R v w' :=
  fn_by (an := .s .o (.s .o (.s (.s .o (.j [0, 1, 5] [.s 6 (.int .i64)] (.s (.s .o (.s .o .o)) (.s (.s .o (.s (.s .o .o) .o)) .o)) .o)) (.s .o (.s (.s .o (.j [0, 1, 7] [.s 8 (.int .i64)] (.s (.s .o (.s .o .o)) (.s (.s .o (.s (.s .o .o) .o)) .o)) .o)) (.s .o .o)))))) (args := [.str s, .int .i64 at_]) Tryd.checked.mixed (by kernel_rfl) (by kernel_rfl) h
def pavaneref04_token_vc (s : ByteArray) (at_ : Int) (R : Value → World → Prop) (w : World) : Prop :=
  ∃ c0 : UInt8, (0 ≤ at_ ∧
   (s[Int.toNat at_]?) = (some c0)) ∧
  ∀ k1 : Nat, ∀ w0 : World, w.heap.size ≤ k1 → k1 < w0.heap.size → Only [] w w0 → Calls Tryd.prog 24 #[.int .u8 (UInt8.toNat c0 : Int)] w0 fun e0 w1 => ∃ b0 : Bool, e0 = (.returned (.bool b0)) ∧
   Same [k1] w0 w1 ∧
   ∃ c1 : UInt8, (0 ≤ at_ ∧
    (s[Int.toNat at_]?) = (some c1)) ∧
   Calls Tryd.prog 35 #[.int .u8 (UInt8.toNat c1 : Int)] w1 fun e1 w2 => ∃ b1 : Bool, e1 = (.returned (.bool b1)) ∧
    Same [k1] w1 w2 ∧
    (b0 = true → Calls Tryd.prog 26 #[.string s, .int .i64 at_] w2 fun e2 w3 => ∃ i0 : Int, e2 = (.returned (.int .i64 i0)) ∧
      Same [k1] w2 w3 ∧
      ∃ k3 : Nat, ∃ k4 : Nat, (at_ = (k3 : Int) ∧
       (IntKind.wrap .i64 (at_ + i0)) = (k4 : Int) ∧
       k3 ≤ k4 ∧
       k4 ≤ s.size) ∧
      ∀ k5 : Nat, ∀ w4 : World, w3.heap.size ≤ k5 → k5 < w4.heap.size → Only [] w3 w4 → Calls Tryd.prog 25 #[.string (s.extract k3 k4)] w4 fun e3 w5 => ∃ b2 : Bool, e3 = (.returned (.bool b2)) ∧
       Same [k1, k5] w4 w5 ∧
       ∃ J0 : Int → ByteArray → Int → Int → World → Prop, (∀ i1 : Int, ∀ s2 : ByteArray, ∀ i2 : Int, ∀ i3 : Int, ∀ w6 : World, J0 i1 s2 i2 i3 w6 → ((decide (i0 > 24)) = true → ∀ w7 : World, Only [k1] w6 w7 → R (.tuple #[.agg #[.int .i64 0, .string (ByteArray.mk #[]), .int .i64 0, .int .i64 0], .int .i64 0, .int .i64 2]) w7) ∧
        ((decide (i0 > 24)) = false → ∀ w8 : World, Only [k1] w6 w8 → R (.tuple #[.agg #[.int .i64 i1, .string s2, .int .i64 i2, .int .i64 i3], .int .i64 i0, .int .i64 0]) w8)) ∧
       (b2 = true → ∀ w9 : World, Only [k5] w5 w9 → J0 2 (s.extract k3 k4) 0 at_ w9) ∧
       (b2 = false → J0 1 (s.extract k3 k4) 0 at_ w5)) ∧
    (b0 = false → (b1 = true → ∃ k6 : Nat, (at_ = (k6 : Int) ∧
      k6 ≤ s.size) ∧
     Calls Tryd.prog 36 #[.string (s.extract k6 s.size)] w2 fun e4 w10 => ∃ i4 : Int, ∃ i5 : Int, ∃ i6 : Int, e4 = (.returned (.tuple #[.int .i64 i4, .int .i64 i5, .int .i64 i6])) ∧
      Same [k1] w2 w10 ∧
      ((i6 != 0) = true → ∀ w11 : World, Only [k1] w10 w11 → R (.tuple #[.agg #[.int .i64 0, .string (ByteArray.mk #[]), .int .i64 0, .int .i64 0], .int .i64 0, .int .i64 i6]) w11) ∧
      ((i6 != 0) = false → Calls Tryd.prog 26 #[.string s, .int .i64 at_] w10 fun e5 w12 => ∃ i7 : Int, e5 = (.returned (.int .i64 i7)) ∧
       Same [k1] w10 w12 ∧
       ((decide (i7 > i5)) = true → ∀ w13 : World, Only [k1] w12 w13 → R (.tuple #[.agg #[.int .i64 0, .string (ByteArray.mk #[]), .int .i64 0, .int .i64 0], .int .i64 0, .int .i64 4]) w13) ∧
       ((decide (i7 > i5)) = false → ∀ w14 : World, Only [k1] w12 w14 → R (.tuple #[.agg #[.int .i64 3, .string (ByteArray.mk #[]), .int .i64 i4, .int .i64 at_], .int .i64 i5, .int .i64 0]) w14))) ∧
    (b1 = false → Calls Tryd.prog 37 #[.string s, .int .i64 at_] w2 fun e6 w15 => ∃ i8 : Int, e6 = (.returned (.int .i64 i8)) ∧
     Same [k1] w2 w15 ∧
     ((i8 == 0) = true → ∀ w16 : World, Only [k1] w15 w16 → R (.tuple #[.agg #[.int .i64 0, .string (ByteArray.mk #[]), .int .i64 0, .int .i64 0], .int .i64 0, .int .i64 4]) w16) ∧
     ((i8 == 0) = false → ∃ k7 : Nat, ∃ k8 : Nat, (at_ = (k7 : Int) ∧
      (IntKind.wrap .i64 (at_ + i8)) = (k8 : Int) ∧
      k7 ≤ k8 ∧
      k8 ≤ s.size) ∧
     ∀ w17 : World, Only [k1] w15 w17 → R (.tuple #[.agg #[.int .i64 4, .string (s.extract k7 k8), .int .i64 0, .int .i64 at_], .int .i64 i8, .int .i64 0]) w17)))
theorem pavaneref04_token_wp (s : ByteArray) (at_ : Int) (R : Value → World → Prop) (w : World) (h : pavaneref04_token_vc s at_ R w) : Calls Tryd.prog 20 #[.string s, .int .i64 at_] w fun e w' => ∃ v, e = .returned v ∧ R v w' :=
  fn_by (an := .s .o (.s .o (.s .o (.s (.s .o (.s (.s .o (.s .o (.s .o (.j [4, 9, 10] [.b 10 [.int .i64, .str, .int .i64, .int .i64]] (.s .o (.s .o .o)) (.s (.s .o (.s (.s .o .o) .o)) (.s .o .o)))))) .o)) (.s (.s .o (.s (.s .o (.s (.s .o (.s (.s .o .o) .o)) (.s (.s .o (.s (.s .o .o) .o)) (.s .o .o)))) .o)) (.s .o (.s (.s .o (.s (.s .o .o) .o)) (.s .o .o)))))))) (args := [.str s, .int .i64 at_]) Tryd.checked.mixed (by kernel_rfl) (by kernel_rfl) h
def scan_Name_vc (s : ByteArray) (R : Value → World → Prop) (w : World) : Prop :=
  ∀ k0 : Nat, ∀ w0 : World, w.heap.size ≤ k0 → k0 < w0.heap.size → Only [] w w0 → ∃ J0 : Bool → ByteArray → Int → World → Prop, (∀ b0 : Bool, ∀ s0 : ByteArray, ∀ i0 : Int, ∀ w1 : World, J0 b0 s0 i0 w1 → R (.bool b0) w1) ∧
  (((!(s.toList == ((ByteArray.mk #[]).toList))) && (decide ((s.size : Int) ≤ 24))) = true → ∃ c0 : UInt8, ((0 : Int) ≤ 0 ∧
    s[0]? = (some c0)) ∧
   Calls Tryd.prog 21 #[.int .u8 (UInt8.toNat c0 : Int)] w0 fun e0 w2 => ∃ b1 : Bool, e0 = (.returned (.bool b1)) ∧
    Same [k0] w0 w2 ∧
    (b1 = true → Blk w2 k0 38 [.string s, .int .i64 0] → Calls Tryd.prog 22 #[.pointer (some ⟨k0, 0, none⟩)] w2 fun e1 w3 => ∃ s2 : ByteArray, e1 = (.returned (.string s2)) ∧
      ∃ s3 : ByteArray, ∃ i1 : Int, Blk w3 k0 38 [.string s3, .int .i64 i1] ∧
      ((s2.toList == s.toList) = true → Calls Tryd.prog 11 #[] w3 fun e2 w4 => ∃ l0 : Sl, e2 = (.returned l0.v) ∧
        ∃ s4 : ByteArray, ∃ i2 : Int, Blk w4 k0 38 [.string s4, .int .i64 i2] ∧
        Calls Tryd.prog 23 #[l0.v, .string s] w4 fun e3 w5 => ∃ b2 : Bool, e3 = (.returned (.bool b2)) ∧
         ∃ s5 : ByteArray, ∃ i3 : Int, Blk w5 k0 38 [.string s5, .int .i64 i3] ∧
         J0 (!b2) s5 i3 w5) ∧
      ((s2.toList == s.toList) = false → J0 false s3 i1 w3)) ∧
    (b1 = false → J0 false s 0 w2)) ∧
  (((!(s.toList == ((ByteArray.mk #[]).toList))) && (decide ((s.size : Int) ≤ 24))) = false → J0 false s 0 w0)
theorem scan_Name_wp (s : ByteArray) (R : Value → World → Prop) (w : World) (h : scan_Name_vc s R w) : Calls Tryd.prog 13 #[.string s] w fun e w' => ∃ v, e = .returned v ∧ R v w' :=
  fn_by (an := .s .o (.s .o (.s (.j [3] [.s 2 .bool, .b 3 [.str, .int .i64]] .o .o) .o))) (args := [.str s]) Tryd.checked.mixed (by kernel_rfl) (by kernel_rfl) h
def scan_Tokens_vc (s : ByteArray) (R : Value → World → Prop) (w : World) : Prop :=
  ((decide ((s.size : Int) > 16384)) = true → ∀ k0 : Nat, ∀ w0 : World, w.heap.size ≤ k0 → k0 < w0.heap.size → Only [] w w0 → R (.tuple #[Sl.nil.v, .agg #[.int .i64 2, .int .i64 (-1)]]) w0) ∧
  ((decide ((s.size : Int) > 16384)) = false → ∀ k1 : Nat, ∀ w1 : World, w.heap.size ≤ k1 → k1 < w1.heap.size → Only [] w w1 → Calls Tryd.prog 11 #[] w1 fun e0 w2 => ∃ l0 : Sl, e0 = (.returned l0.v) ∧
   Same [k1] w1 w2 ∧
   ∀ k2 : Nat, ∀ w3 : World, w2.heap.size ≤ k2 → k2 < w3.heap.size → Only [] w2 w3 → Blk w3 k2 40 [.string s, .int .i64 0, l0.v, Sl.nil.v] → Calls Tryd.prog 15 #[.pointer (some ⟨k2, 0, none⟩)] w3 fun e1 w4 => e1 = (.returned (.tuple #[])) ∧
    Same [k1] w3 w4 ∧
    ∃ s0 : ByteArray, ∃ i0 : Int, ∃ l1 : Sl, ∃ l2 : Sl, Blk w4 k2 40 [.string s0, .int .i64 i0, l1.v, l2.v] ∧
    ∃ J0 : Nat → Int → Int → ByteArray → Int → Sl → Sl → World → Prop, ∃ k3 : Nat, J0 k3 0 0 s0 i0 l1 l2 w4 ∧
    ∀ k4 : Nat, ∀ i1 : Int, ∀ i2 : Int, ∀ s1 : ByteArray, ∀ i3 : Int, ∀ l3 : Sl, ∀ l4 : Sl, ∀ w5 : World, J0 k4 i1 i2 s1 i3 l3 l4 w5 → Calls Tryd.prog 16 #[.pointer (some ⟨k2, 0, none⟩)] w5 fun e2 w6 => ∃ b0 : Bool, e2 = (.returned (.bool b0)) ∧
     Same [k1] w5 w6 ∧
     ∃ s2 : ByteArray, ∃ i4 : Int, ∃ l5 : Sl, ∃ l6 : Sl, Blk w6 k2 40 [.string s2, .int .i64 i4, l5.v, l6.v] ∧
     ((!b0) = true → Calls Tryd.prog 17 #[.pointer (some ⟨k2, 0, none⟩)] w6 fun e3 w7 => ∃ i5 : Int, e3 = (.returned (.int .i64 i5)) ∧
       Same [k1] w6 w7 ∧
       ∃ s3 : ByteArray, ∃ i6 : Int, ∃ l7 : Sl, ∃ l8 : Sl, Blk w7 k2 40 [.string s3, .int .i64 i6, l7.v, l8.v] ∧
       ((i5 != 0) = true → ∀ w8 : World, Only [k1] w7 w8 → Blk w8 k2 40 [.string s3, .int .i64 i6, l7.v, l8.v] → R (.tuple #[Sl.nil.v, .agg #[.int .i64 i5, .int .i64 i6]]) w8) ∧
       ((i5 != 0) = false → Calls Tryd.prog 15 #[.pointer (some ⟨k2, 0, none⟩)] w7 fun e4 w9 => e4 = (.returned (.tuple #[])) ∧
        Same [k1] w7 w9 ∧
        ∃ s4 : ByteArray, ∃ i7 : Int, ∃ l9 : Sl, ∃ l10 : Sl, Blk w9 k2 40 [.string s4, .int .i64 i7, l9.v, l10.v] ∧
        ∃ k5 : Nat, k5 < k4 ∧
        J0 k5 i1 i2 s4 i7 l9 l10 w9)) ∧
     ((!b0) = false → Calls Tryd.prog 18 #[.pointer (some ⟨k2, 0, none⟩), .agg #[.int .i64 5, .string (ByteArray.mk #[]), .int .i64 0, .int .i64 0], .int .i64 0] w6 fun e5 w10 => e5 = (.returned (.tuple #[])) ∧
      Same [k1] w6 w10 ∧
      ∃ s5 : ByteArray, ∃ i8 : Int, ∃ l11 : Sl, ∃ l12 : Sl, Blk w10 k2 40 [.string s5, .int .i64 i8, l11.v, l12.v] ∧
      ∀ w11 : World, Only [k1] w10 w11 → Blk w11 k2 40 [.string s5, .int .i64 i8, l11.v, l12.v] → R (.tuple #[l12.v, .agg #[.int .i64 0, .int .i64 0]]) w11))
theorem scan_Tokens_wp (s : ByteArray) (R : Value → World → Prop) (w : World) (h : scan_Tokens_vc s R w) : Calls Tryd.prog 8 #[.string s] w fun e w' => ∃ v, e = .returned v ∧ R v w' :=
  fn_by (an := .s .o (.s (.s .o (.s (.s .o .o) .o)) (.s .o (.s (.s .o (.j [3, 4, 14] [.b 3 [.int .i64, .int .i64], .b 14 [.str, .int .i64, .sl, .sl]] (.s (.s .o (.s .o .o)) (.s (.s .o (.s .o (.s (.s .o .o) .o))) .o)) .o)) (.s .o (.s .o .o)))))) (args := [.str s]) Tryd.checked.mixed (by kernel_rfl) (by kernel_rfl) h
def scan_Words_vc (R : Value → World → Prop) (w : World) : Prop :=
  ∃ l0 : Sl, ∃ w0 : World, ((Instr.buildSlice 34 16 #[.mk 0 (.string (ByteArray.mk #[97, 102, 116, 101, 114])), .mk 1 (.string (ByteArray.mk #[97, 108, 119, 97, 121, 115])), .mk 2 (.string (ByteArray.mk #[99, 104, 97, 114, 116])), .mk 3 (.string (ByteArray.mk #[100, 101, 101, 112])), .mk 4 (.string (ByteArray.mk #[101, 109, 105, 116])), .mk 5 (.string (ByteArray.mk #[101, 110, 116, 101, 114])), .mk 6 (.string (ByteArray.mk #[104, 105, 115, 116, 111, 114, 121])), .mk 7 (.string (ByteArray.mk #[105, 110])), .mk 8 (.string (ByteArray.mk #[105, 110, 105, 116, 105, 97, 108])), .mk 9 (.string (ByteArray.mk #[108, 101, 97, 118, 101])), .mk 10 (.string (ByteArray.mk #[111, 110])), .mk 11 (.string (ByteArray.mk #[112, 97, 114, 97, 108, 108, 101, 108])), .mk 12 (.string (ByteArray.mk #[114, 97, 105, 115, 101])), .mk 13 (.string (ByteArray.mk #[115, 101, 116])), .mk 14 (.string (ByteArray.mk #[115, 116, 97, 116, 101])), .mk 15 (.string (ByteArray.mk #[118, 97, 114]))]).run Tryd.prog w) = (.ok l0.v w0) ∧
  R l0.v w0
theorem scan_Words_wp (R : Value → World → Prop) (w : World) (h : scan_Words_vc R w) : Calls Tryd.prog 11 #[] w fun e w' => ∃ v, e = .returned v ∧ R v w' :=
  fn_by (an := .s .o (.s .o .o)) (args := []) Tryd.checked.mixed (by kernel_rfl) (by kernel_rfl) h
def scan_digit_vc (c : Int) (R : Value → World → Prop) (w : World) : Prop :=
  R (.bool ((decide (48 ≤ c)) && (decide (c ≤ 57)))) w
theorem scan_digit_wp (c : Int) (R : Value → World → Prop) (w : World) (h : scan_digit_vc c R w) : Calls Tryd.prog 32 #[.int .u8 c] w fun e w' => ∃ v, e = .returned v ∧ R v w' :=
  fn_by (an := .s .o (.s .o .o)) (args := [.int .u8 c]) Tryd.checked.mixed (by kernel_rfl) (by kernel_rfl) h
def scan_letter_vc (c : Int) (R : Value → World → Prop) (w : World) : Prop :=
  R (.bool (((decide (97 ≤ (bits .or .u8 c 32))) && (decide ((bits .or .u8 c 32) ≤ 122))) || (c == 95))) w
theorem scan_letter_wp (c : Int) (R : Value → World → Prop) (w : World) (h : scan_letter_vc c R w) : Calls Tryd.prog 21 #[.int .u8 c] w fun e w' => ∃ v, e = .returned v ∧ R v w' :=
  fn_by (an := .s .o (.s .o .o)) (args := [.int .u8 c]) Tryd.checked.mixed (by kernel_rfl) (by kernel_rfl) h
def scan_one_vc (c : Int) (of_ : Sl) (R : Value → World → Prop) (w : World) : Prop :=
  Calls Tryd.prog 39 #[of_.v, .int .u8 c] w fun e0 w0 => ∃ b0 : Bool, e0 = (.returned (.bool b0)) ∧
   R (.bool b0) w0
theorem scan_one_wp (c : Int) (of_ : Sl) (R : Value → World → Prop) (w : World) (h : scan_one_vc c of_ R w) : Calls Tryd.prog 27 #[.int .u8 c, of_.v] w fun e w' => ∃ v, e = .returned v ∧ R v w' :=
  fn_by (an := .s .o (.s .o .o)) (args := [.int .u8 c, .sl of_]) Tryd.checked.mixed (by kernel_rfl) (by kernel_rfl) h
def slices_Contains_byte_vc (s : Sl) (v1 : Int) (R : Value → World → Prop) (w : World) : Prop :=
  Calls Tryd.prog 44 #[s.v, .int .u8 v1] w fun e0 w0 => ∃ i0 : Int, e0 = (.returned (.int .i64 i0)) ∧
   R (.bool (decide (i0 ≥ 0))) w0
theorem slices_Contains_byte_wp (s : Sl) (v1 : Int) (R : Value → World → Prop) (w : World) (h : slices_Contains_byte_vc s v1 R w) : Calls Tryd.prog 39 #[s.v, .int .u8 v1] w fun e w' => ∃ v, e = .returned v ∧ R v w' :=
  fn_by (an := .s .o (.s .o .o)) (args := [.sl s, .int .u8 v1]) Tryd.checked.mixed (by kernel_rfl) (by kernel_rfl) h
def slices_Contains_string_vc (s : Sl) (v1 : ByteArray) (R : Value → World → Prop) (w : World) : Prop :=
  Calls Tryd.prog 38 #[s.v, .string v1] w fun e0 w0 => ∃ i0 : Int, e0 = (.returned (.int .i64 i0)) ∧
   R (.bool (decide (i0 ≥ 0))) w0
theorem slices_Contains_string_wp (s : Sl) (v1 : ByteArray) (R : Value → World → Prop) (w : World) (h : slices_Contains_string_vc s v1 R w) : Calls Tryd.prog 23 #[s.v, .string v1] w fun e w' => ∃ v, e = .returned v ∧ R v w' :=
  fn_by (an := .s .o (.s .o .o)) (args := [.sl s, .str v1]) Tryd.checked.mixed (by kernel_rfl) (by kernel_rfl) h
def slices_Index_byte_vc (s : Sl) (v1 : Int) (R : Value → World → Prop) (w : World) : Prop :=
  ∃ J0 : Nat → Int → World → Prop, ∃ k0 : Nat, J0 k0 0 w ∧
  ∀ k1 : Nat, ∀ i0 : Int, ∀ w0 : World, J0 k1 i0 w0 → ((decide (i0 < (s.n : Int))) = true → ∃ p0 : Addr, SlAt s i0 1 p0 ∧
   ∃ i1 : Int, Cells w0 p0 [.int .u8 i1] ∧
   ((v1 == i1) = true → R (.int .i64 i0) w0) ∧
   ((v1 == i1) = false → ∃ k2 : Nat, k2 < k1 ∧
   J0 k2 (IntKind.wrap .i64 (i0 + 1)) w0)) ∧
  ((decide (i0 < (s.n : Int))) = false → R (.int .i64 (-1)) w0)
theorem slices_Index_byte_wp (s : Sl) (v1 : Int) (R : Value → World → Prop) (w : World) (h : slices_Index_byte_vc s v1 R w) : Calls Tryd.prog 44 #[s.v, .int .u8 v1] w fun e w' => ∃ v, e = .returned v ∧ R v w' :=
  fn_by (an := .s .o (.s (.s .o (.j [0, 1, 7] [.s 8 (.int .i64)] (.s .o (.s (.s .o .o) (.s (.s .o (.s .o (.s (.s .o .o) .o))) .o))) .o)) (.s .o .o))) (args := [.sl s, .int .u8 v1]) Tryd.checked.mixed (by kernel_rfl) (by kernel_rfl) h
def slices_Index_string_vc (s : Sl) (v1 : ByteArray) (R : Value → World → Prop) (w : World) : Prop :=
  ∃ J0 : Nat → Int → World → Prop, ∃ k0 : Nat, J0 k0 0 w ∧
  ∀ k1 : Nat, ∀ i0 : Int, ∀ w0 : World, J0 k1 i0 w0 → ((decide (i0 < (s.n : Int))) = true → ∃ p0 : Addr, SlAt s i0 1 p0 ∧
   ∃ s0 : ByteArray, Cells w0 p0 [.string s0] ∧
   ((v1.toList == s0.toList) = true → R (.int .i64 i0) w0) ∧
   ((v1.toList == s0.toList) = false → ∃ k2 : Nat, k2 < k1 ∧
   J0 k2 (IntKind.wrap .i64 (i0 + 1)) w0)) ∧
  ((decide (i0 < (s.n : Int))) = false → R (.int .i64 (-1)) w0)
theorem slices_Index_string_wp (s : Sl) (v1 : ByteArray) (R : Value → World → Prop) (w : World) (h : slices_Index_string_vc s v1 R w) : Calls Tryd.prog 38 #[s.v, .string v1] w fun e w' => ∃ v, e = .returned v ∧ R v w' :=
  fn_by (an := .s .o (.s (.s .o (.j [0, 1, 7] [.s 8 (.int .i64)] (.s .o (.s (.s .o .o) (.s (.s .o (.s .o (.s (.s .o .o) .o))) .o))) .o)) (.s .o .o))) (args := [.sl s, .str v1]) Tryd.checked.mixed (by kernel_rfl) (by kernel_rfl) h
def strings_Clone_vc (s : ByteArray) (R : Value → World → Prop) (w : World) : Prop :=
  Calls Tryd.prog 46 #[.string s] w fun e0 w0 => ∃ s0 : ByteArray, e0 = (.returned (.string s0)) ∧
   R (.string s0) w0
theorem strings_Clone_wp (s : ByteArray) (R : Value → World → Prop) (w : World) (h : strings_Clone_vc s R w) : Calls Tryd.prog 42 #[.string s] w fun e w' => ∃ v, e = .returned v ∧ R v w' :=
  fn_by (an := .s .o (.s .o .o)) (args := [.str s]) Tryd.checked.mixed (by kernel_rfl) (by kernel_rfl) h
def strings_Cut_vc (s : ByteArray) (sep : ByteArray) (R : Value → World → Prop) (w : World) : Prop :=
  Calls Tryd.prog 41 #[.string s, .string sep] w fun e0 w0 => ∃ s0 : ByteArray, ∃ s1 : ByteArray, ∃ b0 : Bool, e0 = (.returned (.tuple #[.string s0, .string s1, .bool b0])) ∧
   R (.tuple #[.string s0, .string s1, .bool b0]) w0
theorem strings_Cut_wp (s : ByteArray) (sep : ByteArray) (R : Value → World → Prop) (w : World) (h : strings_Cut_vc s sep R w) : Calls Tryd.prog 30 #[.string s, .string sep] w fun e w' => ∃ v, e = .returned v ∧ R v w' :=
  fn_by (an := .s .o (.s .o .o)) (args := [.str s, .str sep]) Tryd.checked.mixed (by kernel_rfl) (by kernel_rfl) h
def strings_HasPrefix_vc (s : ByteArray) (prefix_ : ByteArray) (R : Value → World → Prop) (w : World) : Prop :=
  Calls Tryd.prog 40 #[.string s, .string prefix_] w fun e0 w0 => ∃ b0 : Bool, e0 = (.returned (.bool b0)) ∧
   R (.bool b0) w0
theorem strings_HasPrefix_wp (s : ByteArray) (prefix_ : ByteArray) (R : Value → World → Prop) (w : World) (h : strings_HasPrefix_vc s prefix_ R w) : Calls Tryd.prog 28 #[.string s, .string prefix_] w fun e w' => ∃ v, e = .returned v ∧ R v w' :=
  fn_by (an := .s .o (.s .o .o)) (args := [.str s, .str prefix_]) Tryd.checked.mixed (by kernel_rfl) (by kernel_rfl) h
end Go.Proofs.YticjmjmkmcljhaaDoor.Vc
