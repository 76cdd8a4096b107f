/-
  Own work, printed by a program of ours (vlay.py): of each Go function what is to be shown of a call ('.._vc'), and that it suffices ('.._wp'). Nothing is assumed.
-/
import Derived.Test.YtmanockofcopjaaGreatDoorV13
import Derived.Test.YtmanockofcopjaaGreatDoorRows
namespace Go.Proofs.YtmanockofcopjaaGreatDoor.Vc
open Go Go.RowKit Go.Kt Go.Kt.V
set_option linter.unusedVariables false
set_option maxRecDepth 100000
set_option maxHeartbeats 40000000
def pavaneref07_reader_is_vc (r : Addr) (kind : Int) (text : ByteArray) (R : Value → World → Prop) (w : World) : Prop :=
  ∀ w0 : World, Only [] w w0 → ∃ J0 : Nat → Prop, J0 ((r.add 0).block) ∧
  ∃ l0 : Sl, Cells w0 (r.add 0) [l0.v] ∧
  J0 ((r.add 1).block) ∧
  ∃ i0 : Int, Cells w0 (r.add 1) [.int .i64 i0] ∧
  ∃ p0 : Addr, SlAt l0 i0 4 p0 ∧
  J0 p0.block ∧
  ∃ i1 : Int, ∃ s0 : ByteArray, ∃ i2 : Int, ∃ i3 : Int, Cells w0 p0 [.int .i64 i1, .string s0, .int .i64 i2, .int .i64 i3] ∧
  ∀ k0 : Nat, ∀ w1 : World, w0.heap.size ≤ k0 → k0 < w1.heap.size → Only [] w0 w1 → ∃ i4 : Int, Cells w1 ((r.add 6).add 0) [.int .i64 i4] ∧
  R (.bool (((i4 == 0) && (i1 == kind)) && (s0.toList == text.toList))) w1
theorem pavaneref07_reader_is_wp (r : Addr) (kind : Int) (text : ByteArray) (R : Value → World → Prop) (w : World) (h : pavaneref07_reader_is_vc r kind text R w) : Calls Tryz.prog 72 #[.pointer (some r), .int .i64 kind, .string text] w fun e w' => ∃ v, e = .returned v ∧ R v w' :=
  fn_by (an := .s .o (.s .o (.s .o .o))) (args := [.ad r, .int .i64 kind, .str text]) Tryz.checked.mixed (by kernel_rfl) (by kernel_rfl) h
def pavaneref07_reader_block_vc (r : Addr) (R : Value → World → Prop) (w : World) : Prop :=
  Calls Tryz.prog 36 #[.pointer (some r), .int .i64 4, .string (ByteArray.mk #[123])] w fun e0 w0 => e0 = (.returned (.tuple #[])) ∧
   ∃ J0 : Sl → World → Prop, (∀ l0 : Sl, ∀ w1 : World, J0 l0 w1 → R l0.v w1) ∧
   ∃ J1 : Nat → Sl → World → Prop, ∃ k0 : Nat, J1 k0 Sl.nil w0 ∧
   ∀ k1 : Nat, ∀ l1 : Sl, ∀ w2 : World, J1 k1 l1 w2 → ∃ i0 : Int, Cells w2 ((r.add 6).add 0) [.int .i64 i0] ∧
   ((i0 == 0) = true → Calls Tryz.prog 67 #[.pointer (some r), .int .i64 4, .string (ByteArray.mk #[125])] w2 fun e1 w3 => ∃ b0 : Bool, e1 = (.returned (.bool b0)) ∧
     (b0 = true → J0 l1 w3) ∧
     (b0 = false → Calls Tryz.prog 110 #[.pointer (some r)] w3 fun e2 w4 => ∃ i1 : Int, ∃ s0 : ByteArray, ∃ i2 : Int, ∃ i3 : Int, ∃ s1 : ByteArray, ∃ i4 : Int, ∃ l2 : Sl, ∃ i5 : Int, ∃ i6 : Int, e2 = (.returned (.agg #[.int .i64 i1, .string s0, .int .i64 i2, .int .i64 i3, .string s1, .int .i64 i4, l2.v, .int .i64 i5, .int .i64 i6])) ∧
      ∀ k2 : Nat, ∀ w5 : World, w4.heap.size ≤ k2 → k2 < w5.heap.size → Only [] w4 w5 → ∃ l3 : Sl, ∃ w6 : World, ((Instr.buildSlice 41 1 #[.mk 0 (.agg #[.int .i64 i1, .string s0, .int .i64 i2, .int .i64 i3, .string s1, .int .i64 i4, l2.v, .int .i64 i5, .int .i64 i6])]).run Tryz.prog w5) = (.ok l3.v w6) ∧
      Same [k2] w5 w6 ∧
      ∃ l4 : Sl, ∃ w7 : World, ((Builtin.append_ #[41, 41] 41 #[l1.v, l3.v]).run Tryz.prog w6) = (.ok l4.v w7) ∧
      Same [k2] w6 w7 ∧
      ∃ k3 : Nat, k3 < k1 ∧
      J1 k3 l4 w7)) ∧
   ((i0 == 0) = false → J0 l1 w2)
theorem pavaneref07_reader_block_wp (r : Addr) (R : Value → World → Prop) (w : World) (h : pavaneref07_reader_block_vc r R w) : Calls Tryz.prog 73 #[.pointer (some r)] w fun e w' => ∃ v, e = .returned v ∧ R v w' :=
  fn_by (an := .s .o (.s .o (.s .o (.j [] [.s 3 .sl] (.j [0] [.s 3 .sl] (.s (.s .o (.s .o .o)) (.s .o (.s (.s .o (.s .o .o)) (.s .o .o)))) .o) (.s .o .o))))) (args := [.ad r]) Tryz.checked.mixed (by kernel_rfl) (by kernel_rfl) h
def pavaneref07_reader_moving_vc (r : Addr) (R : Value → World → Prop) (w : World) : Prop :=
  ∃ l0 : Sl, ∃ w0 : World, ((Instr.buildSlice 25 3 #[.mk 0 (.string (ByteArray.mk #[111, 110])), .mk 1 (.string (ByteArray.mk #[97, 108, 119, 97, 121, 115])), .mk 2 (.string (ByteArray.mk #[97, 102, 116, 101, 114]))]).run Tryz.prog w) = (.ok l0.v w0) ∧
  ∃ J0 : Nat → Int → World → Prop, ∃ k0 : Nat, J0 k0 0 w0 ∧
  ∀ k1 : Nat, ∀ i0 : Int, ∀ w1 : World, J0 k1 i0 w1 → ((decide (i0 < 3)) = true → ∃ p0 : Addr, SlAt l0 i0 1 p0 ∧
   ∃ s0 : ByteArray, Cells w1 p0 [.string s0] ∧
   Calls Tryz.prog 72 #[.pointer (some r), .int .i64 2, .string s0] w1 fun e0 w2 => ∃ b0 : Bool, e0 = (.returned (.bool b0)) ∧
    (b0 = true → R (.int .i64 (IntKind.wrap .i64 (i0 + 1))) w2) ∧
    (b0 = false → ∃ k2 : Nat, k2 < k1 ∧
    J0 k2 (IntKind.wrap .i64 (i0 + 1)) w2)) ∧
  ((decide (i0 < 3)) = false → R (.int .i64 0) w1)
theorem pavaneref07_reader_moving_wp (r : Addr) (R : Value → World → Prop) (w : World) (h : pavaneref07_reader_moving_vc r R w) : Calls Tryz.prog 74 #[.pointer (some r)] w fun e w' => ∃ v, e = .returned v ∧ R v w' :=
  fn_by (an := .s .o (.s .o (.s (.s .o (.j [0, 3] [.s 4 (.int .i64)] (.s (.s .o (.s .o .o)) (.s (.s .o (.s .o (.s (.s .o .o) .o))) .o)) .o)) (.s .o .o)))) (args := [.ad r]) Tryz.checked.mixed (by kernel_rfl) (by kernel_rfl) h
def pavaneref07_reader_move_vc (r : Addr) (kind : Int) (R : Value → World → Prop) (w : World) : Prop :=
  ∀ k0 : Nat, ∀ w0 : World, w.heap.size ≤ k0 → k0 < w0.heap.size → Only [] w w0 → ∃ J0 : Nat → Prop, J0 ((r.add 0).block) ∧
  ∃ l0 : Sl, Cells w0 (r.add 0) [l0.v] ∧
  J0 ((r.add 1).block) ∧
  ∃ i0 : Int, Cells w0 (r.add 1) [.int .i64 i0] ∧
  ∃ p0 : Addr, SlAt l0 i0 4 p0 ∧
  J0 ((p0.add 3).block) ∧
  ∃ i1 : Int, Cells w0 (p0.add 3) [.int .i64 i1] ∧
  ∀ k1 : Nat, ∀ w1 : World, w0.heap.size ≤ k1 → k1 < w1.heap.size → Only [] w0 w1 → ∃ i2 : Int, Cells w1 (r.add 3) [.int .i64 i2] ∧
  ((i2 == 200) = true → Calls Tryz.prog 68 #[.pointer (some r), .int .i64 2] w1 fun e0 w2 => e0 = (.returned (.tuple #[])) ∧
    Same [k0, k1] w1 w2 ∧
    ∀ w3 : World, Only [k0] w2 w3 → R (.agg #[.int .i64 kind, .string (ByteArray.mk #[]), .int .i64 0, .bool false, .int .i64 0, .int .i64 0, .string (ByteArray.mk #[]), .int .i64 0, Sl.nil.v, .int .i64 0, Sl.nil.v, Sl.nil.v, .int .i64 i1]) w3) ∧
  ((i2 == 200) = false → ∃ i3 : Int, Cells w1 (r.add 3) [.int .i64 i3] ∧
  ∃ k2 : Nat, ∃ k3 : Nat, ∃ z0 : List Value, ∃ k4 : Nat, (r.add 3) = ⟨k2, k3, none⟩ ∧
  Blk w1 k2 k4 z0 ∧
  (k3 + 1) ≤ z0.length ∧
  k0 ≠ k2 ∧
  k1 ≠ k2 ∧
  ∀ w4 : World, Only [k2] w1 w4 → Blk w4 k2 k4 (splice z0 k3 [.int .i64 (IntKind.wrap .i64 (i3 + 1))]) → ∃ i4 : Int, Cells w4 (r.add 1) [.int .i64 i4] ∧
  ∃ k5 : Nat, ∃ k6 : Nat, ∃ z1 : List Value, ∃ k7 : Nat, (r.add 1) = ⟨k5, k6, none⟩ ∧
  Blk w4 k5 k7 z1 ∧
  (k6 + 1) ≤ z1.length ∧
  k0 ≠ k5 ∧
  k1 ≠ k5 ∧
  ∀ w5 : World, Only [k5] w4 w5 → Blk w5 k5 k7 (splice z1 k6 [.int .i64 (IntKind.wrap .i64 (i4 + 1))]) → ∃ J1 : Int → ByteArray → Int → Bool → Int → Int → ByteArray → Int → Sl → Int → Sl → Sl → Int → World → Prop, (∀ i5 : Int, ∀ s0 : ByteArray, ∀ i6 : Int, ∀ b0 : Bool, ∀ i7 : Int, ∀ i8 : Int, ∀ s1 : ByteArray, ∀ i9 : Int, ∀ l1 : Sl, ∀ i10 : Int, ∀ l2 : Sl, ∀ l3 : Sl, ∀ i11 : Int, ∀ w6 : World, J1 i5 s0 i6 b0 i7 i8 s1 i9 l1 i10 l2 l3 i11 w6 → ∃ J2 : Int → ByteArray → Int → Bool → Int → Int → ByteArray → Int → Sl → Int → Sl → Sl → Int → World → Prop, (∀ i12 : Int, ∀ s2 : ByteArray, ∀ i13 : Int, ∀ b1 : Bool, ∀ i14 : Int, ∀ i15 : Int, ∀ s3 : ByteArray, ∀ i16 : Int, ∀ l4 : Sl, ∀ i17 : Int, ∀ l5 : Sl, ∀ l6 : Sl, ∀ i18 : Int, ∀ w7 : World, J2 i12 s2 i13 b1 i14 i15 s3 i16 l4 i17 l5 l6 i18 w7 → Calls Tryz.prog 67 #[.pointer (some r), .int .i64 4, .string (ByteArray.mk #[91])] w7 fun e1 w8 => ∃ b2 : Bool, e1 = (.returned (.bool b2)) ∧
     Same [k0, k1] w7 w8 ∧
     ∀ w9 : World, Only [k1] w8 w9 → ∃ J3 : Int → ByteArray → Int → Bool → Int → Int → ByteArray → Int → Sl → Int → Sl → Sl → Int → World → Prop, (∀ i19 : Int, ∀ s4 : ByteArray, ∀ i20 : Int, ∀ b3 : Bool, ∀ i21 : Int, ∀ i22 : Int, ∀ s5 : ByteArray, ∀ i23 : Int, ∀ l7 : Sl, ∀ i24 : Int, ∀ l8 : Sl, ∀ l9 : Sl, ∀ i25 : Int, ∀ w10 : World, J3 i19 s4 i20 b3 i21 i22 s5 i23 l7 i24 l8 l9 i25 w10 → Calls Tryz.prog 72 #[.pointer (some r), .int .i64 4, .string (ByteArray.mk #[123])] w10 fun e2 w11 => ∃ b4 : Bool, e2 = (.returned (.bool b4)) ∧
       Same [k0, k1] w10 w11 ∧
       ∃ J4 : Int → ByteArray → Int → Bool → Int → Int → ByteArray → Int → Sl → Int → Sl → Sl → Int → World → Prop, (∀ i26 : Int, ∀ s6 : ByteArray, ∀ i27 : Int, ∀ b5 : Bool, ∀ i28 : Int, ∀ i29 : Int, ∀ s7 : ByteArray, ∀ i30 : Int, ∀ l10 : Sl, ∀ i31 : Int, ∀ l11 : Sl, ∀ l12 : Sl, ∀ i32 : Int, ∀ w12 : World, J4 i26 s6 i27 b5 i28 i29 s7 i30 l10 i31 l11 l12 i32 w12 → Calls Tryz.prog 67 #[.pointer (some r), .int .i64 4, .string (ByteArray.mk #[45, 62])] w12 fun e3 w13 => ∃ b6 : Bool, e3 = (.returned (.bool b6)) ∧
         Same [k0, k1] w12 w13 ∧
         ∃ J5 : Nat → Bool → Int → ByteArray → Int → Bool → Int → Int → ByteArray → Int → Sl → Int → Sl → Sl → Int → World → Prop, ∃ k8 : Nat, J5 k8 b6 i26 s6 i27 b5 i28 i29 s7 i30 l10 i31 l11 l12 i32 w13 ∧
         ∀ k9 : Nat, ∀ b7 : Bool, ∀ i33 : Int, ∀ s8 : ByteArray, ∀ i34 : Int, ∀ b8 : Bool, ∀ i35 : Int, ∀ i36 : Int, ∀ s9 : ByteArray, ∀ i37 : Int, ∀ l13 : Sl, ∀ i38 : Int, ∀ l14 : Sl, ∀ l15 : Sl, ∀ i39 : Int, ∀ w14 : World, J5 k9 b7 i33 s8 i34 b8 i35 i36 s9 i37 l13 i38 l14 l15 i39 w14 → (b7 = true → Calls Tryz.prog 69 #[.pointer (some r)] w14 fun e4 w15 => ∃ s10 : ByteArray, ∃ i40 : Int, e4 = (.returned (.tuple #[.string s10, .int .i64 i40])) ∧
           Same [k0, k1] w14 w15 ∧
           ∃ l16 : Sl, ∃ w16 : World, ((Instr.buildSlice 25 1 #[.mk 0 (.string s10)]).run Tryz.prog w15) = (.ok l16.v w16) ∧
           Same [k0, k1] w15 w16 ∧
           ∃ l17 : Sl, ∃ w17 : World, ((Builtin.append_ #[25, 25] 25 #[l15.v, l16.v]).run Tryz.prog w16) = (.ok l17.v w17) ∧
           Same [k0, k1] w16 w17 ∧
           ∀ w18 : World, Only [k1] w17 w18 → Calls Tryz.prog 67 #[.pointer (some r), .int .i64 4, .string (ByteArray.mk #[44])] w18 fun e5 w19 => ∃ b9 : Bool, e5 = (.returned (.bool b9)) ∧
            Same [k0, k1] w18 w19 ∧
            ∃ k10 : Nat, k10 < k9 ∧
            J5 k10 b9 i33 s8 i34 b8 i35 i36 s9 i37 l13 i38 l14 l17 i39 w19) ∧
         (b7 = false → Calls Tryz.prog 36 #[.pointer (some r), .int .i64 4, .string (ByteArray.mk #[59])] w14 fun e6 w20 => e6 = (.returned (.tuple #[])) ∧
          Same [k0, k1] w14 w20 ∧
          ∀ w21 : World, Only [k0] w20 w21 → R (.agg #[.int .i64 i33, .string s8, .int .i64 i34, .bool b8, .int .i64 i35, .int .i64 i36, .string s9, .int .i64 i37, l13.v, .int .i64 i38, l14.v, l15.v, .int .i64 i39]) w21)) ∧
       (b4 = true → Calls Tryz.prog 73 #[.pointer (some r)] w11 fun e7 w22 => ∃ l18 : Sl, e7 = (.returned l18.v) ∧
         Same [k0, k1] w11 w22 ∧
         ∀ w23 : World, Only [k1] w22 w23 → J4 i19 s4 i20 b3 i21 i22 s5 i23 l7 i24 l18 l9 i25 w23) ∧
       (b4 = false → J4 i19 s4 i20 b3 i21 i22 s5 i23 l7 i24 l8 l9 i25 w11)) ∧
     (b2 = true → Calls Tryz.prog 111 #[.pointer (some r)] w9 fun e8 w24 => ∃ i41 : Int, ∃ i42 : Int, ∃ s11 : ByteArray, ∃ i43 : Int, ∃ l19 : Sl, ∃ i44 : Int, e8 = (.returned (.agg #[.int .i64 i41, .int .i64 i42, .string s11, .int .i64 i43, l19.v, .int .i64 i44])) ∧
       Same [k0, k1] w9 w24 ∧
       ∀ w25 : World, Only [k1] w24 w25 → Calls Tryz.prog 36 #[.pointer (some r), .int .i64 4, .string (ByteArray.mk #[93])] w25 fun e9 w26 => e9 = (.returned (.tuple #[])) ∧
        Same [k0, k1] w25 w26 ∧
        J3 i12 s2 i13 b2 i41 i42 s11 i43 l19 i44 l5 l6 i18 w26) ∧
     (b2 = false → J3 i12 s2 i13 b2 i14 i15 s3 i16 l4 i17 l5 l6 i18 w9)) ∧
   ((kind == 3) = true → Calls Tryz.prog 70 #[.pointer (some r)] w6 fun e10 w27 => ∃ i45 : Int, e10 = (.returned (.int .i64 i45)) ∧
     Same [k0, k1] w6 w27 ∧
     ∀ w28 : World, Only [k1] w27 w28 → J2 i5 s0 i45 b0 i7 i8 s1 i9 l1 i10 l2 l3 i11 w28) ∧
   ((kind == 3) = false → J2 i5 s0 i6 b0 i7 i8 s1 i9 l1 i10 l2 l3 i11 w6)) ∧
  ((kind == 1) = true → Calls Tryz.prog 69 #[.pointer (some r)] w5 fun e11 w29 => ∃ s12 : ByteArray, ∃ i46 : Int, e11 = (.returned (.tuple #[.string s12, .int .i64 i46])) ∧
    Same [k0, k1] w5 w29 ∧
    ∀ w30 : World, Only [k1] w29 w30 → J1 kind s12 0 false 0 0 (ByteArray.mk #[]) 0 Sl.nil 0 Sl.nil Sl.nil i1 w30) ∧
  ((kind == 1) = false → J1 kind (ByteArray.mk #[]) 0 false 0 0 (ByteArray.mk #[]) 0 Sl.nil 0 Sl.nil Sl.nil i1 w5))
theorem pavaneref07_reader_move_wp (r : Addr) (kind : Int) (R : Value → World → Prop) (w : World) (h : pavaneref07_reader_move_vc r kind R w) : Calls Tryz.prog 75 #[.pointer (some r), .int .i64 kind] w fun e w' => ∃ v, e = .returned v ∧ R v w' :=
  fn_by (an := .s .o (.s .o (.s (.s .o (.s (.s .o (.s .o .o)) .o)) (.s .o (.s .o (.j [0, 1, 4, 5] [.b 5 [.int .i64, .str, .int .i64, .bool, .int .i64, .int .i64, .str, .int .i64, .sl, .int .i64, .sl, .sl, .int .i64]] (.s .o (.s .o .o)) (.j [0, 4, 5] [.b 5 [.int .i64, .str, .int .i64, .bool, .int .i64, .int .i64, .str, .int .i64, .sl, .int .i64, .sl, .sl, .int .i64]] (.s .o (.s .o .o)) (.s .o (.j [0, 4, 5] [.b 5 [.int .i64, .str, .int .i64, .bool, .int .i64, .int .i64, .str, .int .i64, .sl, .int .i64, .sl, .sl, .int .i64]] (.s .o (.s (.s .o .o) .o)) (.s .o (.j [0, 4, 5] [.b 5 [.int .i64, .str, .int .i64, .bool, .int .i64, .int .i64, .str, .int .i64, .sl, .int .i64, .sl, .sl, .int .i64]] (.s .o (.s .o .o)) (.s .o (.s (.j [0, 4, 5] [.s 7 .bool, .b 5 [.int .i64, .str, .int .i64, .bool, .int .i64, .int .i64, .str, .int .i64, .sl, .int .i64, .sl, .sl, .int .i64]] (.s (.s .o (.s .o .o)) (.s .o (.s .o .o))) .o) (.s .o (.s .o .o))))))))))))))) (args := [.ad r, .int .i64 kind]) Tryz.checked.mixed (by kernel_rfl) (by kernel_rfl) h
def pavaneref07_reader_kind_vc (r : Addr) (R : Value → World → Prop) (w : World) : Prop :=
  ∃ l0 : Sl, ∃ w0 : World, ((Instr.buildSlice 25 4 #[.mk 0 (.string (ByteArray.mk #[115, 116, 97, 116, 101])), .mk 1 (.string (ByteArray.mk #[112, 97, 114, 97, 108, 108, 101, 108])), .mk 2 (.string (ByteArray.mk #[104, 105, 115, 116, 111, 114, 121])), .mk 3 (.string (ByteArray.mk #[100, 101, 101, 112]))]).run Tryz.prog w) = (.ok l0.v w0) ∧
  ∃ J0 : Nat → Int → World → Prop, ∃ k0 : Nat, J0 k0 0 w0 ∧
  ∀ k1 : Nat, ∀ i0 : Int, ∀ w1 : World, J0 k1 i0 w1 → ((decide (i0 < 4)) = true → ∃ p0 : Addr, SlAt l0 i0 1 p0 ∧
   ∃ s0 : ByteArray, Cells w1 p0 [.string s0] ∧
   Calls Tryz.prog 72 #[.pointer (some r), .int .i64 2, .string s0] w1 fun e0 w2 => ∃ b0 : Bool, e0 = (.returned (.bool b0)) ∧
    (b0 = true → R (.int .i64 (IntKind.wrap .i64 (i0 + 1))) w2) ∧
    (b0 = false → ∃ k2 : Nat, k2 < k1 ∧
    J0 k2 (IntKind.wrap .i64 (i0 + 1)) w2)) ∧
  ((decide (i0 < 4)) = false → R (.int .i64 0) w1)
theorem pavaneref07_reader_kind_wp (r : Addr) (R : Value → World → Prop) (w : World) (h : pavaneref07_reader_kind_vc r R w) : Calls Tryz.prog 76 #[.pointer (some r)] w fun e w' => ∃ v, e = .returned v ∧ R v w' :=
  fn_by (an := .s .o (.s .o (.s (.s .o (.j [0, 3] [.s 4 (.int .i64)] (.s (.s .o (.s .o .o)) (.s (.s .o (.s .o (.s (.s .o .o) .o))) .o)) .o)) (.s .o .o)))) (args := [.ad r]) Tryz.checked.mixed (by kernel_rfl) (by kernel_rfl) h
def pavaneref07_reader_node_vc (r : Addr) (kind : Int) (R : Value → World → Prop) (w : World) : Prop :=
  ∀ k0 : Nat, ∀ w0 : World, w.heap.size ≤ k0 → k0 < w0.heap.size → Only [] w w0 → ∃ i0 : Int, Cells w0 (r.add 1) [.int .i64 i0] ∧
  ∃ k1 : Nat, ∃ k2 : Nat, ∃ z0 : List Value, ∃ k3 : Nat, (r.add 1) = ⟨k1, k2, none⟩ ∧
  Blk w0 k1 k3 z0 ∧
  (k2 + 1) ≤ z0.length ∧
  k0 ≠ k1 ∧
  ∀ w1 : World, Only [k1] w0 w1 → Blk w1 k1 k3 (splice z0 k2 [.int .i64 (IntKind.wrap .i64 (i0 + 1))]) → Calls Tryz.prog 37 #[.pointer (some r), .agg #[.int .i64 kind, .string (ByteArray.mk #[]), .string (ByteArray.mk #[]), .string (ByteArray.mk #[]), Sl.nil.v, Sl.nil.v, Sl.nil.v, Sl.nil.v, .int .i64 0]] w1 fun e0 w2 => ∃ i1 : Int, ∃ s0 : ByteArray, ∃ s1 : ByteArray, ∃ s2 : ByteArray, ∃ l0 : Sl, ∃ l1 : Sl, ∃ l2 : Sl, ∃ l3 : Sl, ∃ i2 : Int, e0 = (.returned (.agg #[.int .i64 i1, .string s0, .string s1, .string s2, l0.v, l1.v, l2.v, l3.v, .int .i64 i2])) ∧
   Same [k0] w1 w2 ∧
   ((decide (kind ≥ 3)) = true → ∀ k4 : Nat, ∀ w3 : World, w2.heap.size ≤ k4 → k4 < w3.heap.size → Only [] w2 w3 → Calls Tryz.prog 36 #[.pointer (some r), .int .i64 4, .string (ByteArray.mk #[45, 62])] w3 fun e1 w4 => e1 = (.returned (.tuple #[])) ∧
     Same [k0, k4] w3 w4 ∧
     Calls Tryz.prog 69 #[.pointer (some r)] w4 fun e2 w5 => ∃ s3 : ByteArray, ∃ i3 : Int, e2 = (.returned (.tuple #[.string s3, .int .i64 i3])) ∧
      Same [k0, k4] w4 w5 ∧
      ∀ w6 : World, Only [k4] w5 w6 → Calls Tryz.prog 36 #[.pointer (some r), .int .i64 4, .string (ByteArray.mk #[59])] w6 fun e3 w7 => e3 = (.returned (.tuple #[])) ∧
       Same [k0, k4] w6 w7 ∧
       ∀ w8 : World, Only [k0] w7 w8 → R (.agg #[.int .i64 i1, .string s0, .string s1, .string s3, l0.v, l1.v, l2.v, l3.v, .int .i64 i2]) w8) ∧
   ((decide (kind ≥ 3)) = false → ∀ k5 : Nat, ∀ w9 : World, w2.heap.size ≤ k5 → k5 < w9.heap.size → Only [] w2 w9 → Calls Tryz.prog 36 #[.pointer (some r), .int .i64 4, .string (ByteArray.mk #[123])] w9 fun e4 w10 => e4 = (.returned (.tuple #[])) ∧
    Same [k0, k5] w9 w10 ∧
    ∃ i4 : Int, Cells w10 (r.add 5) [.int .i64 i4] ∧
    ∃ k6 : Nat, ∃ k7 : Nat, ∃ z1 : List Value, ∃ k8 : Nat, (r.add 5) = ⟨k6, k7, none⟩ ∧
    Blk w10 k6 k8 z1 ∧
    (k7 + 1) ≤ z1.length ∧
    k0 ≠ k6 ∧
    k5 ≠ k6 ∧
    ∀ w11 : World, Only [k6] w10 w11 → Blk w11 k6 k8 (splice z1 k7 [.int .i64 (IntKind.wrap .i64 (i4 + 1))]) → Calls Tryz.prog 39 #[.pointer (some r), .agg #[.int .i64 i1, .string s0, .string s1, .string s2, l0.v, l1.v, l2.v, l3.v, .int .i64 i2]] w11 fun e5 w12 => ∃ i5 : Int, ∃ s4 : ByteArray, ∃ s5 : ByteArray, ∃ s6 : ByteArray, ∃ l4 : Sl, ∃ l5 : Sl, ∃ l6 : Sl, ∃ l7 : Sl, ∃ i6 : Int, e5 = (.returned (.agg #[.int .i64 i5, .string s4, .string s5, .string s6, l4.v, l5.v, l6.v, l7.v, .int .i64 i6])) ∧
     Same [k0, k5] w11 w12 ∧
     ∀ w13 : World, Only [k5] w12 w13 → ∃ i7 : Int, Cells w13 (r.add 5) [.int .i64 i7] ∧
     ∃ k9 : Nat, ∃ k10 : Nat, ∃ z2 : List Value, ∃ k11 : Nat, (r.add 5) = ⟨k9, k10, none⟩ ∧
     Blk w13 k9 k11 z2 ∧
     (k10 + 1) ≤ z2.length ∧
     k0 ≠ k9 ∧
     k5 ≠ k9 ∧
     ∀ w14 : World, Only [k9] w13 w14 → Blk w14 k9 k11 (splice z2 k10 [.int .i64 (IntKind.wrap .i64 (i7 - 1))]) → Calls Tryz.prog 36 #[.pointer (some r), .int .i64 4, .string (ByteArray.mk #[125])] w14 fun e6 w15 => e6 = (.returned (.tuple #[])) ∧
      Same [k0, k5] w14 w15 ∧
      ∀ w16 : World, Only [k0] w15 w16 → R (.agg #[.int .i64 i5, .string s4, .string s5, .string s6, l4.v, l5.v, l6.v, l7.v, .int .i64 i6]) w16)
theorem pavaneref07_reader_node_wp (r : Addr) (kind : Int) (R : Value → World → Prop) (w : World) (h : pavaneref07_reader_node_vc r kind R w) : Calls Tryz.prog 77 #[.pointer (some r), .int .i64 kind] w fun e w' => ∃ v, e = .returned v ∧ R v w' :=
  fn_by (an := .s .o (.s .o (.s .o (.s (.s .o (.s (.s .o (.s .o (.s .o (.s .o .o)))) .o)) (.s .o (.s .o (.s .o (.s .o (.s .o (.s .o .o)))))))))) (args := [.ad r, .int .i64 kind]) Tryz.checked.mixed (by kernel_rfl) (by kernel_rfl) h
def pavaneref07_SameActs_vc (a_ : Sl) (bb : Sl) (at_ : Bool) (R : Value → World → Prop) (w : World) : Prop :=
  (((a_.n : Int) != (bb.n : Int)) = true → R (.bool false) w) ∧
  (((a_.n : Int) != (bb.n : Int)) = false → ∃ J0 : Nat → Int → World → Prop, ∃ k0 : Nat, J0 k0 0 w ∧
  ∀ k1 : Nat, ∀ i0 : Int, ∀ w0 : World, J0 k1 i0 w0 → ((decide (i0 < (a_.n : Int))) = true → ∃ p0 : Addr, SlAt a_ i0 9 p0 ∧
   ∀ w1 : World, Only [] w0 w1 → ∃ i1 : Int, ∃ i2 : Int, ∃ s0 : ByteArray, ∃ i3 : Int, ∃ l0 : Sl, ∃ i4 : Int, Cells w1 (p0.add 2) [.int .i64 i1, .int .i64 i2, .string s0, .int .i64 i3, l0.v, .int .i64 i4] ∧
   ∃ p1 : Addr, SlAt bb i0 9 p1 ∧
   ∃ i5 : Int, ∃ i6 : Int, ∃ s1 : ByteArray, ∃ i7 : Int, ∃ l1 : Sl, ∃ i8 : Int, Cells w1 (p1.add 2) [.int .i64 i5, .int .i64 i6, .string s1, .int .i64 i7, l1.v, .int .i64 i8] ∧
   Calls Tryz.prog 14 #[.agg #[.int .i64 i1, .int .i64 i2, .string s0, .int .i64 i3, l0.v, .int .i64 i4], .agg #[.int .i64 i5, .int .i64 i6, .string s1, .int .i64 i7, l1.v, .int .i64 i8], .bool at_] w1 fun e0 w2 => ∃ b0 : Bool, e0 = (.returned (.bool b0)) ∧
    ∃ p2 : Addr, ((!b0) = false → SlAt a_ i0 9 p2) ∧
    ∃ i9 : Int, ((!b0) = false → Cells w2 (p2.add 0) [.int .i64 i9]) ∧
    ∃ p3 : Addr, ((!b0) = false → SlAt bb i0 9 p3) ∧
    ∃ i10 : Int, ((!b0) = false → Cells w2 (p3.add 0) [.int .i64 i10]) ∧
    ∃ p4 : Addr, (((!b0) || (i9 != i10)) = false → SlAt a_ i0 9 p4) ∧
    ∃ s2 : ByteArray, (((!b0) || (i9 != i10)) = false → Cells w2 (p4.add 1) [.string s2]) ∧
    ∃ p5 : Addr, (((!b0) || (i9 != i10)) = false → SlAt bb i0 9 p5) ∧
    ∃ s3 : ByteArray, (((!b0) || (i9 != i10)) = false → Cells w2 (p5.add 1) [.string s3]) ∧
    ∃ p6 : Addr, ((((!b0) || (i9 != i10)) || (!(s2.toList == s3.toList))) = false → at_ = true → SlAt a_ i0 9 p6) ∧
    ∃ i11 : Int, ((((!b0) || (i9 != i10)) || (!(s2.toList == s3.toList))) = false → at_ = true → Cells w2 (p6.add 8) [.int .i64 i11]) ∧
    ∃ p7 : Addr, ((((!b0) || (i9 != i10)) || (!(s2.toList == s3.toList))) = false → at_ = true → SlAt bb i0 9 p7) ∧
    ∃ i12 : Int, ((((!b0) || (i9 != i10)) || (!(s2.toList == s3.toList))) = false → at_ = true → Cells w2 (p7.add 8) [.int .i64 i12]) ∧
    (((((!b0) || (i9 != i10)) || (!(s2.toList == s3.toList))) || (at_ && (i11 != i12))) = true → ∀ w3 : World, Only [] w2 w3 → R (.bool false) w3) ∧
    (((((!b0) || (i9 != i10)) || (!(s2.toList == s3.toList))) || (at_ && (i11 != i12))) = false → ∀ w4 : World, Only [] w2 w4 → ∃ k2 : Nat, k2 < k1 ∧
    J0 k2 (IntKind.wrap .i64 (i0 + 1)) w4)) ∧
  ((decide (i0 < (a_.n : Int))) = false → R (.bool true) w0))
theorem pavaneref07_SameActs_wp (a_ : Sl) (bb : Sl) (at_ : Bool) (R : Value → World → Prop) (w : World) (h : pavaneref07_SameActs_vc a_ bb at_ R w) : Calls Tryz.prog 78 #[a_.v, bb.v, .bool at_] w fun e w' => ∃ v, e = .returned v ∧ R v w' :=
  fn_by (an := .s .o (.s (.s .o (.s (.s .o .o) .o)) (.s (.s .o (.j [0, 1, 2] [.s 7 (.int .i64)] (.s (.s .o (.s .o .o)) (.s (.s .o (.s .o (.s (.s .o .o) .o))) .o)) .o)) (.s .o .o)))) (args := [.sl a_, .sl bb, .bt at_]) Tryz.checked.mixed (by kernel_rfl) (by kernel_rfl) h
def pavaneref07_SameMove_vc (a_ : Int) (a_1 : ByteArray) (a_2 : Int) (a_3 : Bool) (a_4 : Int) (a_5 : Int) (a_6 : ByteArray) (a_7 : Int) (a_8 : Sl) (a_9 : Int) (a_10 : Sl) (a_11 : Sl) (a_12 : Int) (bb : Int) (bb1 : ByteArray) (bb2 : Int) (bb3 : Bool) (bb4 : Int) (bb5 : Int) (bb6 : ByteArray) (bb7 : Int) (bb8 : Sl) (bb9 : Int) (bb10 : Sl) (bb11 : Sl) (bb12 : Int) (at_ : Bool) (R : Value → World → Prop) (w : World) : Prop :=
  ∀ k0 : Nat, ∀ k1 : Nat, ∀ w0 : World, w.heap.size ≤ k0 → k0 < w0.heap.size → w.heap.size ≤ k1 → k1 < w0.heap.size → Only [] w w0 → Calls Tryz.prog 14 #[.agg #[.int .i64 a_4, .int .i64 a_5, .string a_6, .int .i64 a_7, a_8.v, .int .i64 a_9], .agg #[.int .i64 bb4, .int .i64 bb5, .string bb6, .int .i64 bb7, bb8.v, .int .i64 bb9], .bool at_] w0 fun e0 w1 => ∃ b0 : Bool, e0 = (.returned (.bool b0)) ∧
   Same [k0, k1] w0 w1 ∧
   Calls Tryz.prog 78 #[a_10.v, bb10.v, .bool at_] w1 fun e1 w2 => ∃ b1 : Bool, e1 = (.returned (.bool b1)) ∧
    Same [k0, k1] w1 w2 ∧
    Calls Tryz.prog 15 #[a_11.v, bb11.v] w2 fun e2 w3 => ∃ b2 : Bool, e2 = (.returned (.bool b2)) ∧
     Same [k0, k1] w2 w3 ∧
     R (.bool (((((((b0 && b1) && b2) && (a_ == bb)) && (a_1.toList == bb1.toList)) && (a_2 == bb2)) && (a_3 == bb3)) && ((!at_) || (a_12 == bb12)))) w3
theorem pavaneref07_SameMove_wp (a_ : Int) (a_1 : ByteArray) (a_2 : Int) (a_3 : Bool) (a_4 : Int) (a_5 : Int) (a_6 : ByteArray) (a_7 : Int) (a_8 : Sl) (a_9 : Int) (a_10 : Sl) (a_11 : Sl) (a_12 : Int) (bb : Int) (bb1 : ByteArray) (bb2 : Int) (bb3 : Bool) (bb4 : Int) (bb5 : Int) (bb6 : ByteArray) (bb7 : Int) (bb8 : Sl) (bb9 : Int) (bb10 : Sl) (bb11 : Sl) (bb12 : Int) (at_ : Bool) (R : Value → World → Prop) (w : World) (h : pavaneref07_SameMove_vc a_ a_1 a_2 a_3 a_4 a_5 a_6 a_7 a_8 a_9 a_10 a_11 a_12 bb bb1 bb2 bb3 bb4 bb5 bb6 bb7 bb8 bb9 bb10 bb11 bb12 at_ R w) : Calls Tryz.prog 79 #[.agg #[.int .i64 a_, .string a_1, .int .i64 a_2, .bool a_3, .int .i64 a_4, .int .i64 a_5, .string a_6, .int .i64 a_7, a_8.v, .int .i64 a_9, a_10.v, a_11.v, .int .i64 a_12], .agg #[.int .i64 bb, .string bb1, .int .i64 bb2, .bool bb3, .int .i64 bb4, .int .i64 bb5, .string bb6, .int .i64 bb7, bb8.v, .int .i64 bb9, bb10.v, bb11.v, .int .i64 bb12], .bool at_] w fun e w' => ∃ v, e = .returned v ∧ R v w' :=
  fn_by (an := .s .o (.s .o (.s .o (.s .o (.s .o .o))))) (args := [.agg (ofL [.int .i64 a_, .str a_1, .int .i64 a_2, .bt a_3, .int .i64 a_4, .int .i64 a_5, .str a_6, .int .i64 a_7, .sl a_8, .int .i64 a_9, .sl a_10, .sl a_11, .int .i64 a_12]), .agg (ofL [.int .i64 bb, .str bb1, .int .i64 bb2, .bt bb3, .int .i64 bb4, .int .i64 bb5, .str bb6, .int .i64 bb7, .sl bb8, .int .i64 bb9, .sl bb10, .sl bb11, .int .i64 bb12]), .bt at_]) Tryz.checked.mixed (by kernel_rfl) (by kernel_rfl) h
def pavanelaw07_spoilActs_vc (l : Sl) (R : Value → World → Prop) (w : World) : Prop :=
  ∃ J0 : Nat → Int → World → Prop, ∃ k0 : Nat, J0 k0 0 w ∧
  ∀ k1 : Nat, ∀ i0 : Int, ∀ w0 : World, J0 k1 i0 w0 → ((decide (i0 < (l.n : Int))) = true → ∃ p0 : Addr, SlAt l i0 9 p0 ∧
   ∃ l0 : Sl, Cells w0 ((p0.add 2).add 4) [l0.v] ∧
   Calls Tryz.prog 81 #[l0.v] w0 fun e0 w1 => ∃ i1 : Int, e0 = (.returned (.int .i64 i1)) ∧
    ∃ p1 : Addr, SlAt l i0 9 p1 ∧
    ∃ k2 : Nat, ∃ k3 : Nat, ∃ z0 : List Value, ∃ k4 : Nat, p1 = ⟨k2, k3, none⟩ ∧
    Blk w1 k2 k4 z0 ∧
    (k3 + 9) ≤ z0.length ∧
    ∀ w2 : World, Only [k2] w1 w2 → Blk w2 k2 k4 (splice z0 k3 [.int .i64 0, .string (ByteArray.mk #[115, 112, 111, 105, 108, 116]), .int .i64 0, .int .i64 0, .string (ByteArray.mk #[]), .int .i64 0, Sl.nil.v, .int .i64 0, .int .i64 0]) → ∃ k5 : Nat, k5 < k1 ∧
    J0 k5 (IntKind.wrap .i64 (i0 + 1)) w2) ∧
  ((decide (i0 < (l.n : Int))) = false → R (.tuple #[]) w0)
theorem pavanelaw07_spoilActs_wp (l : Sl) (R : Value → World → Prop) (w : World) (h : pavanelaw07_spoilActs_vc l R w) : Calls Tryz.prog 80 #[l.v] w fun e w' => ∃ v, e = .returned v ∧ R v w' :=
  fn_by (an := .s .o (.j [0] [.s 2 (.int .i64)] (.s (.s .o (.s .o .o)) (.s (.s .o .o) .o)) .o)) (args := [.sl l]) Tryz.checked.mixed (by kernel_rfl) (by kernel_rfl) h
def pavanelaw05_Spoil_vc (l : Sl) (R : Value → World → Prop) (w : World) : Prop :=
  ∃ J0 : Nat → Int → Int → World → Prop, ∃ k0 : Nat, J0 k0 0 0 w ∧
  ∀ k1 : Nat, ∀ i0 : Int, ∀ i1 : Int, ∀ w0 : World, J0 k1 i0 i1 w0 → ((decide (i1 < (l.n : Int))) = true → ∃ p0 : Addr, SlAt l i1 6 p0 ∧
   ∃ l0 : Sl, Cells w0 (p0.add 4) [l0.v] ∧
   Calls Tryz.prog 81 #[l0.v] w0 fun e0 w1 => ∃ i2 : Int, e0 = (.returned (.int .i64 i2)) ∧
    ∃ p1 : Addr, SlAt l i1 6 p1 ∧
    ∃ k2 : Nat, ∃ k3 : Nat, ∃ z0 : List Value, ∃ k4 : Nat, p1 = ⟨k2, k3, none⟩ ∧
    Blk w1 k2 k4 z0 ∧
    (k3 + 6) ≤ z0.length ∧
    ∀ w2 : World, Only [k2] w1 w2 → Blk w2 k2 k4 (splice z0 k3 [.int .i64 (-7), .int .i64 0, .string (ByteArray.mk #[]), .int .i64 0, Sl.nil.v, .int .i64 0]) → ∃ k5 : Nat, k5 < k1 ∧
    J0 k5 (IntKind.wrap .i64 ((IntKind.wrap .i64 (i0 + 1)) + i2)) (IntKind.wrap .i64 (i1 + 1)) w2) ∧
  ((decide (i1 < (l.n : Int))) = false → R (.int .i64 i0) w0)
theorem pavanelaw05_Spoil_wp (l : Sl) (R : Value → World → Prop) (w : World) (h : pavanelaw05_Spoil_vc l R w) : Calls Tryz.prog 81 #[l.v] w fun e w' => ∃ v, e = .returned v ∧ R v w' :=
  fn_by (an := .s .o (.s .o (.s (.s .o (.j [0] [.s 3 (.int .i64), .s 4 (.int .i64)] (.s (.s .o (.s .o .o)) (.s (.s .o .o) .o)) .o)) (.s .o .o)))) (args := [.sl l]) Tryz.checked.mixed (by kernel_rfl) (by kernel_rfl) h
def pavaneref04_letter_vc (c : Int) (R : Value → World → Prop) (w : World) : Prop :=
  R (.bool ((((decide (c ≥ 65)) && (decide (c ≤ 90))) || ((decide (c ≥ 97)) && (decide (c ≤ 122)))) || (c == 95))) w
theorem pavaneref04_letter_wp (c : Int) (R : Value → World → Prop) (w : World) (h : pavaneref04_letter_vc c R w) : Calls Tryz.prog 82 #[.int .u8 c] w fun e w' => ∃ v, e = .returned v ∧ R v w' :=
  fn_by (an := .s .o (.s .o .o)) (args := [.int .u8 c]) Tryz.checked.mixed (by kernel_rfl) (by kernel_rfl) h
def pavaneref04_digit_vc (c : Int) (R : Value → World → Prop) (w : World) : Prop :=
  R (.bool ((decide (c ≥ 48)) && (decide (c ≤ 57)))) w
theorem pavaneref04_digit_wp (c : Int) (R : Value → World → Prop) (w : World) (h : pavaneref04_digit_vc c R w) : Calls Tryz.prog 83 #[.int .u8 c] w fun e w' => ∃ v, e = .returned v ∧ R v w' :=
  fn_by (an := .s .o (.s .o .o)) (args := [.int .u8 c]) Tryz.checked.mixed (by kernel_rfl) (by kernel_rfl) h
def pavaneref04_row_vc (s : ByteArray) (at_ : Int) (R : Value → World → Prop) (w : World) : Prop :=
  ∃ J0 : Int → World → Prop, (∀ i0 : Int, ∀ w0 : World, J0 i0 w0 → R (.int .i64 i0) w0) ∧
  ∃ J1 : Nat → Int → World → Prop, ∃ k0 : Nat, J1 k0 0 w ∧
  ∀ k1 : Nat, ∀ i1 : Int, ∀ w1 : World, J1 k1 i1 w1 → ((decide ((IntKind.wrap .i64 (at_ + i1)) < (s.size : Int))) = true → ∃ c0 : UInt8, (0 ≤ (IntKind.wrap .i64 (at_ + i1)) ∧
    (s[Int.toNat (IntKind.wrap .i64 (at_ + i1))]?) = (some c0)) ∧
   Calls Tryz.prog 82 #[.int .u8 (UInt8.toNat c0 : Int)] w1 fun e0 w2 => ∃ b0 : Bool, e0 = (.returned (.bool b0)) ∧
    ∃ c1 : UInt8, (0 ≤ (IntKind.wrap .i64 (at_ + i1)) ∧
     (s[Int.toNat (IntKind.wrap .i64 (at_ + i1))]?) = (some c1)) ∧
    Calls Tryz.prog 83 #[.int .u8 (UInt8.toNat c1 : Int)] w2 fun e1 w3 => ∃ b1 : Bool, e1 = (.returned (.bool b1)) ∧
     (((!b0) && (!b1)) = true → J0 i1 w3) ∧
     (((!b0) && (!b1)) = false → ∃ k4 : Nat, k4 < k1 ∧
     J1 k4 (IntKind.wrap .i64 (i1 + 1)) w3)) ∧
  ((decide ((IntKind.wrap .i64 (at_ + i1)) < (s.size : Int))) = false → J0 i1 w1)
theorem pavaneref04_row_wp (s : ByteArray) (at_ : Int) (R : Value → World → Prop) (w : World) (h : pavaneref04_row_vc s at_ R w) : Calls Tryz.prog 84 #[.string s, .int .i64 at_] w fun e w' => ∃ v, e = .returned v ∧ R v w' :=
  fn_by (an := .s .o (.s .o (.j [] [.s 5 (.int .i64)] (.j [0, 1] [.s 5 (.int .i64)] (.s (.s .o (.s .o .o)) (.s .o (.s .o (.s (.s .o (.s .o .o)) .o)))) .o) (.s .o .o)))) (args := [.str s, .int .i64 at_]) Tryz.checked.mixed (by kernel_rfl) (by kernel_rfl) h
def pavaneref04_Word_vc (s : ByteArray) (R : Value → World → Prop) (w : World) : Prop :=
  Calls Tryz.prog 112 #[] w fun e0 w0 => ∃ l0 : Sl, e0 = (.returned l0.v) ∧
   ∃ J0 : Nat → Int → World → Prop, ∃ k0 : Nat, J0 k0 0 w0 ∧
   ∀ k1 : Nat, ∀ i0 : Int, ∀ w1 : World, J0 k1 i0 w1 → ((decide (i0 < (l0.n : Int))) = true → ∃ p0 : Addr, SlAt l0 i0 1 p0 ∧
    ∃ s0 : ByteArray, Cells w1 p0 [.string s0] ∧
    ((s0.toList == s.toList) = true → R (.bool true) w1) ∧
    ((s0.toList == s.toList) = false → ∃ k2 : Nat, k2 < k1 ∧
    J0 k2 (IntKind.wrap .i64 (i0 + 1)) w1)) ∧
   ((decide (i0 < (l0.n : Int))) = false → R (.bool false) w1)
theorem pavaneref04_Word_wp (s : ByteArray) (R : Value → World → Prop) (w : World) (h : pavaneref04_Word_vc s R w) : Calls Tryz.prog 85 #[.string s] w fun e w' => ∃ v, e = .returned v ∧ R v w' :=
  fn_by (an := .s .o (.s .o (.s (.s .o (.j [0, 3] [.s 4 (.int .i64)] (.s (.s .o (.s .o .o)) (.s (.s .o (.s (.s .o .o) .o)) .o)) .o)) (.s .o .o)))) (args := [.str s]) Tryz.checked.mixed (by kernel_rfl) (by kernel_rfl) h
def pavaneref03_Parse_vc (s : ByteArray) (R : Value → World → Prop) (w : World) : Prop :=
  (((s.size : Int) == 0) = true → R (.tuple #[.int .i64 0, .int .i64 0, .int .i64 3]) w) ∧
  (((s.size : Int) == 0) = false → ∃ J0 : Nat → Int → World → Prop, ∃ k0 : Nat, J0 k0 0 w ∧
  ∀ k1 : Nat, ∀ i0 : Int, ∀ w0 : World, J0 k1 i0 w0 → ∃ c0 : UInt8, ((decide (i0 < (s.size : Int))) = true → 0 ≤ i0 ∧
   (s[Int.toNat i0]?) = (some c0)) ∧
  ∃ c1 : UInt8, (((decide (i0 < (s.size : Int))) && (decide ((UInt8.toNat c0 : Int) ≥ 48))) = true → 0 ≤ i0 ∧
   (s[Int.toNat i0]?) = (some c1)) ∧
  ((((decide (i0 < (s.size : Int))) && (decide ((UInt8.toNat c0 : Int) ≥ 48))) && (decide ((UInt8.toNat c1 : Int) ≤ 57))) = true → ∃ k4 : Nat, k4 < k1 ∧
   J0 k4 (IntKind.wrap .i64 (i0 + 1)) w0) ∧
  ((((decide (i0 < (s.size : Int))) && (decide ((UInt8.toNat c0 : Int) ≥ 48))) && (decide ((UInt8.toNat c1 : Int) ≤ 57))) = false → ∃ c2 : UInt8, ((i0 == 0) = false → (decide (i0 > 1)) = true → (0 : Int) ≤ 0 ∧
   s[0]? = (some c2)) ∧
  (((i0 == 0) || ((decide (i0 > 1)) && ((UInt8.toNat c2 : Int) == 48))) = true → R (.tuple #[.int .i64 0, .int .i64 0, .int .i64 4]) w0) ∧
  (((i0 == 0) || ((decide (i0 > 1)) && ((UInt8.toNat c2 : Int) == 48))) = false → ∃ J1 : Nat → Int → Int → World → Prop, ∃ k6 : Nat, J1 k6 0 0 w0 ∧
  ∀ k7 : Nat, ∀ i1 : Int, ∀ i2 : Int, ∀ w1 : World, J1 k7 i1 i2 w1 → ((decide (i2 < i0)) = true → ∃ c3 : UInt8, (0 ≤ i2 ∧
    (s[Int.toNat i2]?) = (some c3)) ∧
   ((decide (i1 > (IntKind.wrap .i64 ((IntKind.wrap .i64 (9223372036854775807 - (IntKind.wrap .i64 (IntKind.wrap .u8 ((UInt8.toNat c3 : Int) - 48))))).tdiv 10)))) = true → R (.tuple #[.int .i64 0, .int .i64 0, .int .i64 20]) w1) ∧
   ((decide (i1 > (IntKind.wrap .i64 ((IntKind.wrap .i64 (9223372036854775807 - (IntKind.wrap .i64 (IntKind.wrap .u8 ((UInt8.toNat c3 : Int) - 48))))).tdiv 10)))) = false → ∃ k9 : Nat, k9 < k7 ∧
   J1 k9 (IntKind.wrap .i64 ((IntKind.wrap .i64 (10 * i1)) + (IntKind.wrap .i64 (IntKind.wrap .u8 ((UInt8.toNat c3 : Int) - 48))))) (IntKind.wrap .i64 (i2 + 1)) w1)) ∧
  ((decide (i2 < i0)) = false → R (.tuple #[.int .i64 i1, .int .i64 i0, .int .i64 0]) w1))))
theorem pavaneref03_Parse_wp (s : ByteArray) (R : Value → World → Prop) (w : World) (h : pavaneref03_Parse_vc s R w) : Calls Tryz.prog 86 #[.string s] w fun e w' => ∃ v, e = .returned v ∧ R v w' :=
  fn_by (an := .s .o (.s (.s .o (.s (.s .o .o) .o)) (.s .o (.s (.j [0] [.s 5 (.int .i64)] (.s (.s .o (.s .o .o)) .o) .o) (.s (.s .o (.s (.s .o .o) .o)) (.s .o (.s (.s .o (.j [0, 5] [.s 6 (.int .i64), .s 7 (.int .i64)] (.s (.s .o (.s .o .o)) (.s (.s .o (.s (.s .o (.s (.s .o .o) .o)) .o)) .o)) .o)) (.s .o .o)))))))) (args := [.str s]) Tryz.checked.mixed (by kernel_rfl) (by kernel_rfl) h
def pavaneref04_sign_vc (s : ByteArray) (at_ : Int) (R : Value → World → Prop) (w : World) : Prop :=
  ∃ l0 : Sl, ∃ w0 : World, ((Instr.buildSlice 25 7 #[.mk 0 (.string (ByteArray.mk #[45, 62])), .mk 1 (.string (ByteArray.mk #[60, 61])), .mk 2 (.string (ByteArray.mk #[62, 61])), .mk 3 (.string (ByteArray.mk #[61, 61])), .mk 4 (.string (ByteArray.mk #[33, 61])), .mk 5 (.string (ByteArray.mk #[38, 38])), .mk 6 (.string (ByteArray.mk #[124, 124]))]).run Tryz.prog w) = (.ok l0.v w0) ∧
  ∃ J0 : Nat → Int → World → Prop, ∃ k0 : Nat, J0 k0 0 w0 ∧
  ∀ k1 : Nat, ∀ i0 : Int, ∀ w1 : World, J0 k1 i0 w1 → ((decide (i0 < (l0.n : Int))) = true → ∃ k2 : Nat, ∃ k3 : Nat, ((decide ((IntKind.wrap .i64 (at_ + 2)) ≤ (s.size : Int))) = true → at_ = (k2 : Int) ∧
    (IntKind.wrap .i64 (at_ + 2)) = (k3 : Int) ∧
    k2 ≤ k3 ∧
    k3 ≤ s.size) ∧
   ∃ p0 : Addr, ((decide ((IntKind.wrap .i64 (at_ + 2)) ≤ (s.size : Int))) = true → SlAt l0 i0 1 p0) ∧
   ∃ s0 : ByteArray, ((decide ((IntKind.wrap .i64 (at_ + 2)) ≤ (s.size : Int))) = true → Cells w1 p0 [.string s0]) ∧
   (((decide ((IntKind.wrap .i64 (at_ + 2)) ≤ (s.size : Int))) && (((s.extract k2 k3).toList) == s0.toList)) = true → ∀ w2 : World, Only [] w1 w2 → R (.int .i64 2) w2) ∧
   (((decide ((IntKind.wrap .i64 (at_ + 2)) ≤ (s.size : Int))) && (((s.extract k2 k3).toList) == s0.toList)) = false → ∀ w3 : World, Only [] w1 w3 → ∃ k4 : Nat, k4 < k1 ∧
   J0 k4 (IntKind.wrap .i64 (i0 + 1)) w3)) ∧
  ((decide (i0 < (l0.n : Int))) = false → ∃ J1 : Nat → Int → World → Prop, ∃ k5 : Nat, J1 k5 0 w1 ∧
  ∀ k6 : Nat, ∀ i1 : Int, ∀ w4 : World, J1 k6 i1 w4 → ((decide (i1 < 17)) = true → ∃ c0 : UInt8, (0 ≤ at_ ∧
    (s[Int.toNat at_]?) = (some c0)) ∧
   ∃ c1 : UInt8, (0 ≤ i1 ∧
    ((ByteArray.mk #[123, 125, 40, 41, 91, 93, 59, 44, 61, 43, 45, 42, 47, 37, 60, 62, 33])[Int.toNat i1]?) = (some c1)) ∧
   (((UInt8.toNat c0 : Int) == (UInt8.toNat c1 : Int)) = true → ∀ w5 : World, Only [] w4 w5 → R (.int .i64 1) w5) ∧
   (((UInt8.toNat c0 : Int) == (UInt8.toNat c1 : Int)) = false → ∀ w6 : World, Only [] w4 w6 → ∃ k9 : Nat, k9 < k6 ∧
   J1 k9 (IntKind.wrap .i64 (i1 + 1)) w6)) ∧
  ((decide (i1 < 17)) = false → R (.int .i64 0) w4))
theorem pavaneref04_sign_wp (s : ByteArray) (at_ : Int) (R : Value → World → Prop) (w : World) (h : pavaneref04_sign_vc s at_ R w) : Calls Tryz.prog 87 #[.string s, .int .i64 at_] w fun e w' => ∃ v, e = .returned v ∧ R v w' :=
  fn_by (an := .s .o (.s .o (.s (.s .o (.j [0, 1, 5] [.s 6 (.int .i64)] (.s (.s .o (.s .o .o)) (.s (.s .o (.s (.s .o .o) .o)) .o)) .o)) (.s .o (.s (.s .o (.j [0, 1, 7] [.s 8 (.int .i64)] (.s (.s .o (.s .o .o)) (.s (.s .o (.s (.s .o .o) .o)) .o)) .o)) (.s .o .o)))))) (args := [.str s, .int .i64 at_]) Tryz.checked.mixed (by kernel_rfl) (by kernel_rfl) h
def pavaneref03_digits_vc (u : Int) (R : Value → World → Prop) (w : World) : Prop :=
  ((u == 0) = true → R (.string (ByteArray.mk #[])) w) ∧
  ((u == 0) = false → ∃ J0 : ByteArray → World → Prop, (∀ s0 : ByteArray, ∀ w0 : World, J0 s0 w0 → R (.string s0) w0) ∧
  ∀ w1 : World, Only [] w w1 → ∃ J1 : Nat → Prop, (Calls Tryz.prog 88 #[.int .u64 (IntKind.wrap .u64 (u.tdiv 10))] w1 fun e0 w2 => ∃ s1 : ByteArray, e0 = (.returned (.string s1)) ∧
    Keeps J1 w1 w2 ∧
    ∃ l0 : Sl, ∃ w3 : World, ((Instr.buildSlice 161 1 #[.mk 0 (.int .u8 (IntKind.wrap .u8 (IntKind.wrap .u64 (48 + (u.tmod 10)))))]).run Tryz.prog w2) = (.ok l0.v w3) ∧
    Keeps J1 w2 w3 ∧
    ∃ z0 : List UInt8, Bytes w3 l0 z0 ∧
    ((s1.size : Int) + ((ByteArray.mk z0.toArray).size : Int)) ≤ 9223372036854775807 ∧
    J0 (s1 ++ (ByteArray.mk z0.toArray)) w3) ∧
  ∃ l1 : Sl, ∃ w4 : World, ((Instr.buildSlice 161 1 #[.mk 0 (.int .u8 (IntKind.wrap .u8 (IntKind.wrap .u64 (48 + (u.tmod 10)))))]).run Tryz.prog w1) = (.ok l1.v w4) ∧
  Keeps J1 w1 w4 ∧
  ∃ z1 : List UInt8, (∀ p0 : Addr, l1.a = (some p0) → J1 p0.block) ∧
  Bytes w4 l1 z1 ∧
  Calls Tryz.prog 88 #[.int .u64 (IntKind.wrap .u64 (u.tdiv 10))] w4 fun e1 w5 => ∃ s2 : ByteArray, e1 = (.returned (.string s2)) ∧
   Keeps J1 w4 w5 ∧
   ((s2.size : Int) + ((ByteArray.mk z1.toArray).size : Int)) ≤ 9223372036854775807 ∧
   J0 (s2 ++ (ByteArray.mk z1.toArray)) w5)
theorem pavaneref03_digits_wp (u : Int) (R : Value → World → Prop) (w : World) (h : pavaneref03_digits_vc u R w) : Calls Tryz.prog 88 #[.int .u64 u] w fun e w' => ∃ v, e = .returned v ∧ R v w' :=
  fn_by (an := .s .o (.s (.s .o (.s (.s .o .o) .o)) (.s (.j [] [.s 2 .str] .o .o) .o))) (args := [.int .u64 u]) Tryz.checked.mixed (by kernel_rfl) (by kernel_rfl) h
def syntax_reader_move_vc (r : Addr) (kind : Int) (R : Value → World → Prop) (w : World) : Prop :=
  ∀ k0 : Nat, ∀ w0 : World, w.heap.size ≤ k0 → k0 < w0.heap.size → Only [] w w0 → ∃ J0 : Nat → Prop, J0 (((r.add 0).add 0).block) ∧
  ∃ l0 : Sl, Cells w0 ((r.add 0).add 0) [l0.v] ∧
  J0 (((r.add 0).add 1).block) ∧
  ∃ i0 : Int, Cells w0 ((r.add 0).add 1) [.int .i64 i0] ∧
  ∃ p0 : Addr, SlAt l0 i0 4 p0 ∧
  J0 ((p0.add 3).block) ∧
  ∃ i1 : Int, Cells w0 (p0.add 3) [.int .i64 i1] ∧
  ∀ k1 : Nat, ∀ w1 : World, w0.heap.size ≤ k1 → k1 < w1.heap.size → Only [] w0 w1 → Calls Tryz.prog 61 #[.pointer (some r), .pointer (some ((r.add 4).add 3)), .int .i64 2] w1 fun e0 w2 => e0 = (.returned (.tuple #[])) ∧
   Same [k0, k1] w1 w2 ∧
   Calls Tryz.prog 34 #[.pointer (some (r.add 0))] w2 fun e1 w3 => ∃ b0 : Bool, e1 = (.returned (.bool b0)) ∧
    Same [k0, k1] w2 w3 ∧
    ((!b0) = true → ∀ w4 : World, Only [k0] w3 w4 → R (.agg #[.int .i64 kind, .string (ByteArray.mk #[]), .int .i64 0, .bool false, .int .i64 0, .int .i64 0, .string (ByteArray.mk #[]), .int .i64 0, Sl.nil.v, .int .i64 0, Sl.nil.v, Sl.nil.v, .int .i64 i1]) w4) ∧
    ((!b0) = false → ∃ i2 : Int, Cells w3 ((r.add 0).add 1) [.int .i64 i2] ∧
    ∃ k2 : Nat, ∃ k3 : Nat, ∃ z0 : List Value, ∃ k4 : Nat, ((r.add 0).add 1) = ⟨k2, k3, none⟩ ∧
    Blk w3 k2 k4 z0 ∧
    (k3 + 1) ≤ z0.length ∧
    k0 ≠ k2 ∧
    k1 ≠ k2 ∧
    ∀ w5 : World, Only [k2] w3 w5 → Blk w5 k2 k4 (splice z0 k3 [.int .i64 (IntKind.wrap .i64 (i2 + 1))]) → ∃ J1 : Int → ByteArray → Int → Bool → Int → Int → ByteArray → Int → Sl → Int → Sl → Sl → Int → World → Prop, (∀ i3 : Int, ∀ s0 : ByteArray, ∀ i4 : Int, ∀ b1 : Bool, ∀ i5 : Int, ∀ i6 : Int, ∀ s1 : ByteArray, ∀ i7 : Int, ∀ l1 : Sl, ∀ i8 : Int, ∀ l2 : Sl, ∀ l3 : Sl, ∀ i9 : Int, ∀ w6 : World, J1 i3 s0 i4 b1 i5 i6 s1 i7 l1 i8 l2 l3 i9 w6 → ∃ J2 : Int → ByteArray → Int → Bool → Int → Int → ByteArray → Int → Sl → Int → Sl → Sl → Int → World → Prop, (∀ i10 : Int, ∀ s2 : ByteArray, ∀ i11 : Int, ∀ b2 : Bool, ∀ i12 : Int, ∀ i13 : Int, ∀ s3 : ByteArray, ∀ i14 : Int, ∀ l4 : Sl, ∀ i15 : Int, ∀ l5 : Sl, ∀ l6 : Sl, ∀ i16 : Int, ∀ w7 : World, J2 i10 s2 i11 b2 i12 i13 s3 i14 l4 i15 l5 l6 i16 w7 → ∃ J3 : Int → ByteArray → Int → Bool → Int → Int → ByteArray → Int → Sl → Int → Sl → Sl → Int → World → Prop, (∀ i17 : Int, ∀ s4 : ByteArray, ∀ i18 : Int, ∀ b3 : Bool, ∀ i19 : Int, ∀ i20 : Int, ∀ s5 : ByteArray, ∀ i21 : Int, ∀ l7 : Sl, ∀ i22 : Int, ∀ l8 : Sl, ∀ l9 : Sl, ∀ i23 : Int, ∀ w8 : World, J3 i17 s4 i18 b3 i19 i20 s5 i21 l7 i22 l8 l9 i23 w8 → ∃ J4 : Nat → ByteArray → Int → ByteArray → Int → Bool → Int → Int → ByteArray → Int → Sl → Int → Sl → Sl → Int → World → Prop, ∃ k5 : Nat, J4 k5 (ByteArray.mk #[45, 62]) i17 s4 i18 b3 i19 i20 s5 i21 l7 i22 l8 l9 i23 w8 ∧
       ∀ k6 : Nat, ∀ s6 : ByteArray, ∀ i24 : Int, ∀ s7 : ByteArray, ∀ i25 : Int, ∀ b4 : Bool, ∀ i26 : Int, ∀ i27 : Int, ∀ s8 : ByteArray, ∀ i28 : Int, ∀ l10 : Sl, ∀ i29 : Int, ∀ l11 : Sl, ∀ l12 : Sl, ∀ i30 : Int, ∀ w9 : World, J4 k6 s6 i24 s7 i25 b4 i26 i27 s8 i28 l10 i29 l11 l12 i30 w9 → ∃ l13 : Sl, ∃ w10 : World, ((Instr.buildSlice 25 1 #[.mk 0 (.string s6)]).run Tryz.prog w9) = (.ok l13.v w10) ∧
       Same [k0, k1] w9 w10 ∧
       Calls Tryz.prog 31 #[.pointer (some (r.add 0)), l13.v] w10 fun e2 w11 => ∃ i31 : Int, e2 = (.returned (.int .i64 i31)) ∧
        Same [k0, k1] w10 w11 ∧
        ((decide (i31 > 0)) = true → ∀ w12 : World, Only [] w11 w12 → ∃ J5 : Nat → Prop, J5 k1 ∧
         Calls Tryz.prog 108 #[.pointer (some (r.add 0))] w12 fun e3 w13 => ∃ s9 : ByteArray, e3 = (.returned (.string s9)) ∧
          Same [k0, k1] w12 w13 ∧
          Keeps J5 w12 w13 ∧
          ∃ l14 : Sl, ∃ w14 : World, ((Instr.buildSlice 25 1 #[.mk 0 (.string s9)]).run Tryz.prog w13) = (.ok l14.v w14) ∧
          Same [k0, k1] w13 w14 ∧
          Keeps J5 w13 w14 ∧
          ∃ l15 : Sl, ∃ w15 : World, ((Builtin.append_ #[25, 25] 25 #[l12.v, l14.v]).run Tryz.prog w14) = (.ok l15.v w15) ∧
          Same [k0, k1] w14 w15 ∧
          Keeps J5 w14 w15 ∧
          ∀ w16 : World, Only [k1] w15 w16 → ∃ k7 : Nat, k7 < k6 ∧
          J4 k7 (ByteArray.mk #[44]) i24 s7 i25 b4 i26 i27 s8 i28 l10 i29 l11 l15 i30 w16) ∧
        ((decide (i31 > 0)) = false → ∃ l16 : Sl, ∃ w17 : World, ((Instr.buildSlice 25 1 #[.mk 0 (.string (ByteArray.mk #[59]))]).run Tryz.prog w11) = (.ok l16.v w17) ∧
        Same [k0, k1] w11 w17 ∧
        Calls Tryz.prog 29 #[.pointer (some (r.add 0)), l16.v] w17 fun e4 w18 => e4 = (.returned (.tuple #[])) ∧
         Same [k0, k1] w17 w18 ∧
         ∀ w19 : World, Only [k0] w18 w19 → R (.agg #[.int .i64 i24, .string s7, .int .i64 i25, .bool b4, .int .i64 i26, .int .i64 i27, .string s8, .int .i64 i28, l10.v, .int .i64 i29, l11.v, l12.v, .int .i64 i30]) w19)) ∧
      ∃ l17 : Sl, ∃ w20 : World, ((Instr.buildSlice 25 1 #[.mk 0 (.string (ByteArray.mk #[123]))]).run Tryz.prog w7) = (.ok l17.v w20) ∧
      Same [k0, k1] w7 w20 ∧
      Calls Tryz.prog 64 #[.pointer (some (r.add 0)), l17.v] w20 fun e5 w21 => ∃ i32 : Int, e5 = (.returned (.int .i64 i32)) ∧
       Same [k0, k1] w20 w21 ∧
       ((decide (i32 > 0)) = true → Calls Tryz.prog 109 #[.pointer (some r)] w21 fun e6 w22 => ∃ l18 : Sl, e6 = (.returned l18.v) ∧
         Same [k0, k1] w21 w22 ∧
         ∀ w23 : World, Only [k1] w22 w23 → J3 i10 s2 i11 b2 i12 i13 s3 i14 l4 i15 l18 l6 i16 w23) ∧
       ((decide (i32 > 0)) = false → J3 i10 s2 i11 b2 i12 i13 s3 i14 l4 i15 l5 l6 i16 w21)) ∧
     ∃ l19 : Sl, ∃ w24 : World, ((Instr.buildSlice 25 1 #[.mk 0 (.string (ByteArray.mk #[91]))]).run Tryz.prog w6) = (.ok l19.v w24) ∧
     Same [k0, k1] w6 w24 ∧
     Calls Tryz.prog 31 #[.pointer (some (r.add 0)), l19.v] w24 fun e7 w25 => ∃ i33 : Int, e7 = (.returned (.int .i64 i33)) ∧
      Same [k0, k1] w24 w25 ∧
      ((decide (i33 > 0)) = true → ∀ w26 : World, Only [k1] w25 w26 → Calls Tryz.prog 121 #[.pointer (some (r.add 0))] w26 fun e8 w27 => ∃ i34 : Int, ∃ i35 : Int, ∃ s10 : ByteArray, ∃ i36 : Int, ∃ l20 : Sl, ∃ i37 : Int, e8 = (.returned (.agg #[.int .i64 i34, .int .i64 i35, .string s10, .int .i64 i36, l20.v, .int .i64 i37])) ∧
        Same [k0, k1] w26 w27 ∧
        ∀ w28 : World, Only [k1] w27 w28 → ∃ l21 : Sl, ∃ w29 : World, ((Instr.buildSlice 25 1 #[.mk 0 (.string (ByteArray.mk #[93]))]).run Tryz.prog w28) = (.ok l21.v w29) ∧
        Same [k0, k1] w28 w29 ∧
        Calls Tryz.prog 29 #[.pointer (some (r.add 0)), l21.v] w29 fun e9 w30 => e9 = (.returned (.tuple #[])) ∧
         Same [k0, k1] w29 w30 ∧
         J2 i3 s0 i4 (decide (i33 > 0)) i34 i35 s10 i36 l20 i37 l2 l3 i9 w30) ∧
      ((decide (i33 > 0)) = false → ∀ w31 : World, Only [k1] w25 w31 → J2 i3 s0 i4 (decide (i33 > 0)) i5 i6 s1 i7 l1 i8 l2 l3 i9 w31)) ∧
    ((kind == 1) = true → Calls Tryz.prog 108 #[.pointer (some (r.add 0))] w5 fun e10 w32 => ∃ s11 : ByteArray, e10 = (.returned (.string s11)) ∧
      Same [k0, k1] w5 w32 ∧
      ∀ w33 : World, Only [k1] w32 w33 → J1 kind s11 0 false 0 0 (ByteArray.mk #[]) 0 Sl.nil 0 Sl.nil Sl.nil i1 w33) ∧
    ((kind == 1) = false → ((kind == 3) = true → Calls Tryz.prog 63 #[.pointer (some (r.add 0)), .int .i64 3] w5 fun e11 w34 => ∃ i38 : Int, ∃ s12 : ByteArray, ∃ i39 : Int, ∃ i40 : Int, e11 = (.returned (.agg #[.int .i64 i38, .string s12, .int .i64 i39, .int .i64 i40])) ∧
      Same [k0, k1] w5 w34 ∧
      ∀ w35 : World, Only [k1] w34 w35 → J1 kind (ByteArray.mk #[]) i39 false 0 0 (ByteArray.mk #[]) 0 Sl.nil 0 Sl.nil Sl.nil i1 w35) ∧
    ((kind == 3) = false → J1 kind (ByteArray.mk #[]) 0 false 0 0 (ByteArray.mk #[]) 0 Sl.nil 0 Sl.nil Sl.nil i1 w5)))
theorem syntax_reader_move_wp (r : Addr) (kind : Int) (R : Value → World → Prop) (w : World) (h : syntax_reader_move_vc r kind R w) : Calls Tryz.prog 107 #[.pointer (some r), .int .i64 kind] w fun e w' => ∃ v, e = .returned v ∧ R v w' :=
  fn_by (an := .s .o (.s .o (.s (.s .o (.s .o (.s (.s .o .o) .o))) (.s .o (.j [0, 4, 5] [.b 5 [.int .i64, .str, .int .i64, .bool, .int .i64, .int .i64, .str, .int .i64, .sl, .int .i64, .sl, .sl, .int .i64]] (.s .o (.s .o (.s .o (.s .o (.s .o .o))))) (.j [0, 4, 5] [.b 5 [.int .i64, .str, .int .i64, .bool, .int .i64, .int .i64, .str, .int .i64, .sl, .int .i64, .sl, .sl, .int .i64]] (.s .o (.s .o (.s (.s .o .o) .o))) (.j [0, 4, 5] [.b 5 [.int .i64, .str, .int .i64, .bool, .int .i64, .int .i64, .str, .int .i64, .sl, .int .i64, .sl, .sl, .int .i64]] (.s .o (.s .o .o)) (.s (.s .o (.j [0, 4, 5] [.s 6 .str, .b 5 [.int .i64, .str, .int .i64, .bool, .int .i64, .int .i64, .str, .int .i64, .sl, .int .i64, .sl, .sl, .int .i64]] (.s (.s .o (.s .o .o)) (.s .o .o)) .o)) (.s .o (.s .o .o)))))))))) (args := [.ad r, .int .i64 kind]) Tryz.checked.mixed (by kernel_rfl) (by kernel_rfl) h
def syntax_cursor_name_vc (c : Addr) (R : Value → World → Prop) (w : World) : Prop :=
  Calls Tryz.prog 63 #[.pointer (some c), .int .i64 1] w fun e0 w0 => ∃ i0 : Int, ∃ s0 : ByteArray, ∃ i1 : Int, ∃ i2 : Int, e0 = (.returned (.agg #[.int .i64 i0, .string s0, .int .i64 i1, .int .i64 i2])) ∧
   R (.string s0) w0
theorem syntax_cursor_name_wp (c : Addr) (R : Value → World → Prop) (w : World) (h : syntax_cursor_name_vc c R w) : Calls Tryz.prog 108 #[.pointer (some c)] w fun e w' => ∃ v, e = .returned v ∧ R v w' :=
  fn_by (an := .s .o (.s .o .o)) (args := [.ad c]) Tryz.checked.mixed (by kernel_rfl) (by kernel_rfl) h
def syntax_reader_block_vc (r : Addr) (R : Value → World → Prop) (w : World) : Prop :=
  ∀ k0 : Nat, ∀ k1 : Nat, ∀ w0 : World, w.heap.size ≤ k0 → k0 < w0.heap.size → w.heap.size ≤ k1 → k1 < w0.heap.size → Only [] w w0 → ∃ l0 : Sl, ∃ w1 : World, ((Instr.buildSlice 25 1 #[.mk 0 (.string (ByteArray.mk #[123]))]).run Tryz.prog w0) = (.ok l0.v w1) ∧
  Same [k0, k1] w0 w1 ∧
  Calls Tryz.prog 29 #[.pointer (some (r.add 0)), l0.v] w1 fun e0 w2 => e0 = (.returned (.tuple #[])) ∧
   Same [k0, k1] w1 w2 ∧
   (Blk w2 k0 76 [.pointer (some r)] → Blk w2 k1 41 [Sl.nil.v] → Calls Tryz.prog 122 #[.pointer (some r), .string (ByteArray.mk #[125]), .func (.func 123) #[] #[.pointer (some ⟨k1, 0, none⟩), .pointer (some ⟨k0, 0, none⟩)]] w2 fun e1 w3 => e1 = (.returned (.tuple #[])) ∧
    ∃ q0 : Option Addr, Blk w3 k0 76 [.pointer q0] ∧
    ∃ l1 : Sl, Blk w3 k1 41 [l1.v] ∧
    R l1.v w3)
theorem syntax_reader_block_wp (r : Addr) (R : Value → World → Prop) (w : World) (h : syntax_reader_block_vc r R w) : Calls Tryz.prog 109 #[.pointer (some r)] w fun e w' => ∃ v, e = .returned v ∧ R v w' :=
  fn_by (an := .s .o (.s .o (.s .o (.s .o (.s .o .o))))) (args := [.ad r]) Tryz.checked.mixed (by kernel_rfl) (by kernel_rfl) h
def pavaneref04_Words_vc (R : Value → World → Prop) (w : World) : Prop :=
  ∃ l0 : Sl, ∃ w0 : World, ((Instr.buildSlice 25 16 #[.mk 0 (.string (ByteArray.mk #[97, 102, 116, 101, 114])), .mk 1 (.string (ByteArray.mk #[97, 108, 119, 97, 121, 115])), .mk 2 (.string (ByteArray.mk #[99, 104, 97, 114, 116])), .mk 3 (.string (ByteArray.mk #[100, 101, 101, 112])), .mk 4 (.string (ByteArray.mk #[101, 109, 105, 116])), .mk 5 (.string (ByteArray.mk #[101, 110, 116, 101, 114])), .mk 6 (.string (ByteArray.mk #[104, 105, 115, 116, 111, 114, 121])), .mk 7 (.string (ByteArray.mk #[105, 110])), .mk 8 (.string (ByteArray.mk #[105, 110, 105, 116, 105, 97, 108])), .mk 9 (.string (ByteArray.mk #[108, 101, 97, 118, 101])), .mk 10 (.string (ByteArray.mk #[111, 110])), .mk 11 (.string (ByteArray.mk #[112, 97, 114, 97, 108, 108, 101, 108])), .mk 12 (.string (ByteArray.mk #[114, 97, 105, 115, 101])), .mk 13 (.string (ByteArray.mk #[115, 101, 116])), .mk 14 (.string (ByteArray.mk #[115, 116, 97, 116, 101])), .mk 15 (.string (ByteArray.mk #[118, 97, 114]))]).run Tryz.prog w) = (.ok l0.v w0) ∧
  R l0.v w0
theorem pavaneref04_Words_wp (R : Value → World → Prop) (w : World) (h : pavaneref04_Words_vc R w) : Calls Tryz.prog 112 #[] w fun e w' => ∃ v, e = .returned v ∧ R v w' :=
  fn_by (an := .s .o (.s .o .o)) (args := []) Tryz.checked.mixed (by kernel_rfl) (by kernel_rfl) h
def pavaneref07_reader_act_vc (r : Addr) (R : Value → World → Prop) (w : World) : Prop :=
  ∀ k0 : Nat, ∀ w0 : World, w.heap.size ≤ k0 → k0 < w0.heap.size → Only [] w w0 → ∃ J0 : Nat → Prop, J0 ((r.add 0).block) ∧
  ∃ l0 : Sl, Cells w0 (r.add 0) [l0.v] ∧
  J0 ((r.add 1).block) ∧
  ∃ i0 : Int, Cells w0 (r.add 1) [.int .i64 i0] ∧
  ∃ p0 : Addr, SlAt l0 i0 4 p0 ∧
  J0 ((p0.add 3).block) ∧
  ∃ i1 : Int, Cells w0 (p0.add 3) [.int .i64 i1] ∧
  ∀ k1 : Nat, ∀ w1 : World, w0.heap.size ≤ k1 → k1 < w1.heap.size → Only [] w0 w1 → ∃ l1 : Sl, ∃ w2 : World, ((Instr.buildSlice 25 3 #[.mk 0 (.string (ByteArray.mk #[115, 101, 116])), .mk 1 (.string (ByteArray.mk #[114, 97, 105, 115, 101])), .mk 2 (.string (ByteArray.mk #[101, 109, 105, 116]))]).run Tryz.prog w1) = (.ok l1.v w2) ∧
  Same [k0, k1] w1 w2 ∧
  ∃ J1 : Nat → Int → Int → ByteArray → Int → Int → ByteArray → Int → Sl → Int → Int → World → Prop, ∃ k2 : Nat, J1 k2 0 0 (ByteArray.mk #[]) 0 0 (ByteArray.mk #[]) 0 Sl.nil 0 i1 w2 ∧
  ∀ k3 : Nat, ∀ i2 : Int, ∀ i3 : Int, ∀ s0 : ByteArray, ∀ i4 : Int, ∀ i5 : Int, ∀ s1 : ByteArray, ∀ i6 : Int, ∀ l2 : Sl, ∀ i7 : Int, ∀ i8 : Int, ∀ w3 : World, J1 k3 i2 i3 s0 i4 i5 s1 i6 l2 i7 i8 w3 → ((decide (i2 < 3)) = true → ∃ J2 : Int → ByteArray → Int → Int → ByteArray → Int → Sl → Int → Int → World → Prop, (∀ i9 : Int, ∀ s2 : ByteArray, ∀ i10 : Int, ∀ i11 : Int, ∀ s3 : ByteArray, ∀ i12 : Int, ∀ l3 : Sl, ∀ i13 : Int, ∀ i14 : Int, ∀ w4 : World, J2 i9 s2 i10 i11 s3 i12 l3 i13 i14 w4 → ∃ k4 : Nat, k4 < k3 ∧
    J1 k4 (IntKind.wrap .i64 (i2 + 1)) i9 s2 i10 i11 s3 i12 l3 i13 i14 w4) ∧
   ∃ p1 : Addr, SlAt l1 i2 1 p1 ∧
   ∃ s4 : ByteArray, Cells w3 p1 [.string s4] ∧
   Calls Tryz.prog 72 #[.pointer (some r), .int .i64 2, .string s4] w3 fun e0 w5 => ∃ b0 : Bool, e0 = (.returned (.bool b0)) ∧
    Same [k0, k1] w3 w5 ∧
    (b0 = true → ∀ w6 : World, Only [k1] w5 w6 → J2 (IntKind.wrap .i64 (i2 + 1)) s0 i4 i5 s1 i6 l2 i7 i8 w6) ∧
    (b0 = false → J2 i3 s0 i4 i5 s1 i6 l2 i7 i8 w5)) ∧
  ((decide (i2 < 3)) = false → ((i3 == 0) = true → Calls Tryz.prog 40 #[.pointer (some r)] w3 fun e1 w7 => e1 = (.returned (.tuple #[])) ∧
    Same [k0, k1] w3 w7 ∧
    ∀ w8 : World, Only [k0] w7 w8 → R (.agg #[.int .i64 i3, .string s0, .int .i64 i4, .int .i64 i5, .string s1, .int .i64 i6, l2.v, .int .i64 i7, .int .i64 i8]) w8) ∧
  ((i3 == 0) = false → ∃ i15 : Int, Cells w3 (r.add 4) [.int .i64 i15] ∧
  ((i15 == 400) = true → Calls Tryz.prog 68 #[.pointer (some r), .int .i64 2] w3 fun e2 w9 => e2 = (.returned (.tuple #[])) ∧
    Same [k0, k1] w3 w9 ∧
    ∀ w10 : World, Only [k0] w9 w10 → R (.agg #[.int .i64 i3, .string s0, .int .i64 i4, .int .i64 i5, .string s1, .int .i64 i6, l2.v, .int .i64 i7, .int .i64 i8]) w10) ∧
  ((i15 == 400) = false → ∃ i16 : Int, Cells w3 (r.add 4) [.int .i64 i16] ∧
  ∃ k5 : Nat, ∃ k6 : Nat, ∃ z0 : List Value, ∃ k7 : Nat, (r.add 4) = ⟨k5, k6, none⟩ ∧
  Blk w3 k5 k7 z0 ∧
  (k6 + 1) ≤ z0.length ∧
  k0 ≠ k5 ∧
  k1 ≠ k5 ∧
  ∀ w11 : World, Only [k5] w3 w11 → Blk w11 k5 k7 (splice z0 k6 [.int .i64 (IntKind.wrap .i64 (i16 + 1))]) → ∃ i17 : Int, Cells w11 (r.add 1) [.int .i64 i17] ∧
  ∃ k8 : Nat, ∃ k9 : Nat, ∃ z1 : List Value, ∃ k10 : Nat, (r.add 1) = ⟨k8, k9, none⟩ ∧
  Blk w11 k8 k10 z1 ∧
  (k9 + 1) ≤ z1.length ∧
  k0 ≠ k8 ∧
  k1 ≠ k8 ∧
  ∀ w12 : World, Only [k8] w11 w12 → Blk w12 k8 k10 (splice z1 k9 [.int .i64 (IntKind.wrap .i64 (i17 + 1))]) → Calls Tryz.prog 69 #[.pointer (some r)] w12 fun e3 w13 => ∃ s5 : ByteArray, ∃ i18 : Int, e3 = (.returned (.tuple #[.string s5, .int .i64 i18])) ∧
   Same [k0, k1] w12 w13 ∧
   ∀ w14 : World, Only [k1] w13 w14 → ∃ J3 : Int → ByteArray → Int → Int → ByteArray → Int → Sl → Int → Int → World → Prop, (∀ i19 : Int, ∀ s6 : ByteArray, ∀ i20 : Int, ∀ i21 : Int, ∀ s7 : ByteArray, ∀ i22 : Int, ∀ l4 : Sl, ∀ i23 : Int, ∀ i24 : Int, ∀ w15 : World, J3 i19 s6 i20 i21 s7 i22 l4 i23 i24 w15 → Calls Tryz.prog 36 #[.pointer (some r), .int .i64 4, .string (ByteArray.mk #[59])] w15 fun e4 w16 => e4 = (.returned (.tuple #[])) ∧
     Same [k0, k1] w15 w16 ∧
     ∀ w17 : World, Only [k0] w16 w17 → R (.agg #[.int .i64 i19, .string s6, .int .i64 i20, .int .i64 i21, .string s7, .int .i64 i22, l4.v, .int .i64 i23, .int .i64 i24]) w17) ∧
   ((i3 != 2) = true → Calls Tryz.prog 36 #[.pointer (some r), .int .i64 4, .string (ByteArray.mk #[61])] w14 fun e5 w18 => e5 = (.returned (.tuple #[])) ∧
     Same [k0, k1] w14 w18 ∧
     Calls Tryz.prog 111 #[.pointer (some r)] w18 fun e6 w19 => ∃ i25 : Int, ∃ i26 : Int, ∃ s8 : ByteArray, ∃ i27 : Int, ∃ l5 : Sl, ∃ i28 : Int, e6 = (.returned (.agg #[.int .i64 i25, .int .i64 i26, .string s8, .int .i64 i27, l5.v, .int .i64 i28])) ∧
      Same [k0, k1] w18 w19 ∧
      ∀ w20 : World, Only [k1] w19 w20 → J3 i3 s5 i25 i26 s8 i27 l5 i28 i8 w20) ∧
   ((i3 != 2) = false → J3 i3 s5 i4 i5 s1 i6 l2 i7 i8 w14))))
theorem pavaneref07_reader_act_wp (r : Addr) (R : Value → World → Prop) (w : World) (h : pavaneref07_reader_act_vc r R w) : Calls Tryz.prog 110 #[.pointer (some r)] w fun e w' => ∃ v, e = .returned v ∧ R v w' :=
  fn_by (an := .s .o (.s .o (.s .o (.s (.s .o (.j [0, 2, 3, 4] [.s 5 (.int .i64), .b 3 [.int .i64, .str, .int .i64, .int .i64, .str, .int .i64, .sl, .int .i64, .int .i64]] (.s (.s .o (.s .o .o)) (.j [0, 2, 3, 4, 5] [.b 3 [.int .i64, .str, .int .i64, .int .i64, .str, .int .i64, .sl, .int .i64, .int .i64]] (.s .o (.s .o (.s .o .o))) .o)) .o)) (.s (.s .o (.s (.s .o (.s .o .o)) .o)) (.s (.s .o (.s (.s .o (.s .o .o)) .o)) (.s .o (.s .o (.s .o (.j [0, 2, 3] [.b 3 [.int .i64, .str, .int .i64, .int .i64, .str, .int .i64, .sl, .int .i64, .int .i64]] (.s .o (.s (.s .o .o) .o)) (.s .o (.s .o .o)))))))))))) (args := [.ad r]) Tryz.checked.mixed (by kernel_rfl) (by kernel_rfl) h
def pavaneref07_reader_expr_vc (r : Addr) (R : Value → World → Prop) (w : World) : Prop :=
  ∀ k0 : Nat, ∀ w0 : World, w.heap.size ≤ k0 → k0 < w0.heap.size → Only [] w w0 → ∃ i0 : Int, Cells w0 ((r.add 6).add 0) [.int .i64 i0] ∧
  ((i0 != 0) = true → ∀ w1 : World, Only [k0] w0 w1 → R (.agg #[.int .i64 0, .int .i64 0, .string (ByteArray.mk #[]), .int .i64 0, Sl.nil.v, .int .i64 0]) w1) ∧
  ((i0 != 0) = false → ∀ w2 : World, Only [] w0 w2 → ∃ J0 : Nat → Prop, ∀ w3 : World, Only [] w2 w3 → J0 ((r.add 0).block) ∧
  ∃ l0 : Sl, Cells w3 (r.add 0) [l0.v] ∧
  ∀ w4 : World, Only [] w3 w4 → J0 ((r.add 1).block) ∧
  ∃ i1 : Int, Cells w4 (r.add 1) [.int .i64 i1] ∧
  ∀ w5 : World, Only [] w4 w5 → Calls Tryz.prog 125 #[l0.v, .int .i64 i1] w5 fun e0 w6 => ∃ i2 : Int, ∃ i3 : Int, ∃ s0 : ByteArray, ∃ i4 : Int, ∃ l1 : Sl, ∃ i5 : Int, ∃ i6 : Int, ∃ i7 : Int, ∃ i8 : Int, e0 = (.returned (.tuple #[.agg #[.int .i64 i2, .int .i64 i3, .string s0, .int .i64 i4, l1.v, .int .i64 i5], .int .i64 i6, .agg #[.int .i64 i7, .int .i64 i8]])) ∧
   Same [k0] w5 w6 ∧
   Newer w2 w5 w6 ∧
   Keeps J0 w5 w6 ∧
   ∀ w7 : World, Only [] w6 w7 → ∀ k1 : Nat, w2.heap.size ≤ k1 → k1 < w7.heap.size → Apart [.mk w5.heap.size w6.heap.size] k1 → ∀ k2 : Nat, w2.heap.size ≤ k2 → k2 < w7.heap.size → Apart [.mk w5.heap.size w6.heap.size] k2 → k1 ≠ k2 → ((i7 != 0) = true → ∀ w8 : World, Only [k2, k1] w7 w8 → ∃ k3 : Nat, ∃ k4 : Nat, ∃ z0 : List Value, ∃ k5 : Nat, (r.add 6) = ⟨k3, k4, none⟩ ∧
    Blk w8 k3 k5 z0 ∧
    (k4 + 2) ≤ z0.length ∧
    k0 ≠ k3 ∧
    k1 ≠ k3 ∧
    k2 ≠ k3 ∧
    ∀ w9 : World, Only [k3] w8 w9 → Blk w9 k3 k5 (splice z0 k4 [.int .i64 i7, .int .i64 i8]) → ∀ w10 : World, Only [k0] w9 w10 → R (.agg #[.int .i64 0, .int .i64 0, .string (ByteArray.mk #[]), .int .i64 0, Sl.nil.v, .int .i64 0]) w10) ∧
   ((i7 != 0) = false → ∀ w11 : World, Only [k2, k1] w7 w11 → ∃ k6 : Nat, ∃ k7 : Nat, ∃ z1 : List Value, ∃ k8 : Nat, (r.add 1) = ⟨k6, k7, none⟩ ∧
   Blk w11 k6 k8 z1 ∧
   (k7 + 1) ≤ z1.length ∧
   k0 ≠ k6 ∧
   k1 ≠ k6 ∧
   k2 ≠ k6 ∧
   ∀ w12 : World, Only [k6] w11 w12 → Blk w12 k6 k8 (splice z1 k7 [.int .i64 i6]) → ∀ w13 : World, Only [k0] w12 w13 → R (.agg #[.int .i64 i2, .int .i64 i3, .string s0, .int .i64 i4, l1.v, .int .i64 i5]) w13))
theorem pavaneref07_reader_expr_wp (r : Addr) (R : Value → World → Prop) (w : World) (h : pavaneref07_reader_expr_vc r R w) : Calls Tryz.prog 111 #[.pointer (some r)] w fun e w' => ∃ v, e = .returned v ∧ R v w' :=
  fn_by (an := .s .o (.s (.s .o (.s (.s .o .o) .o)) (.s (.l false [] []) (.s (.s .o (.s (.s .o (.s .o .o)) .o)) (.s .o (.s .o .o)))))) (args := [.ad r]) Tryz.checked.mixed (by kernel_rfl) (by kernel_rfl) h
def syntax_cursor_expr_vc (c : Addr) (R : Value → World → Prop) (w : World) : Prop :=
  ∀ k0 : Nat, ∀ w0 : World, w.heap.size ≤ k0 → k0 < w0.heap.size → Only [] w w0 → Calls Tryz.prog 34 #[.pointer (some c)] w0 fun e0 w1 => ∃ b0 : Bool, e0 = (.returned (.bool b0)) ∧
   Same [k0] w0 w1 ∧
   ((!b0) = true → ∀ w2 : World, Only [k0] w1 w2 → R (.agg #[.int .i64 0, .int .i64 0, .string (ByteArray.mk #[]), .int .i64 0, Sl.nil.v, .int .i64 0]) w2) ∧
   ((!b0) = false → ∀ w3 : World, Only [] w1 w3 → ∃ J0 : Nat → Prop, ∀ w4 : World, Only [] w3 w4 → J0 ((c.add 0).block) ∧
   ∃ l0 : Sl, Cells w4 (c.add 0) [l0.v] ∧
   ∀ w5 : World, Only [] w4 w5 → J0 ((c.add 1).block) ∧
   ∃ i0 : Int, Cells w5 (c.add 1) [.int .i64 i0] ∧
   ∀ w6 : World, Only [] w5 w6 → Calls Tryz.prog 46 #[l0.v, .int .i64 i0] w6 fun e1 w7 => ∃ i1 : Int, ∃ i2 : Int, ∃ s0 : ByteArray, ∃ i3 : Int, ∃ l1 : Sl, ∃ i4 : Int, ∃ i5 : Int, ∃ i6 : Int, ∃ i7 : Int, e1 = (.returned (.tuple #[.agg #[.int .i64 i1, .int .i64 i2, .string s0, .int .i64 i3, l1.v, .int .i64 i4], .int .i64 i5, .agg #[.int .i64 i6, .int .i64 i7]])) ∧
    Same [k0] w6 w7 ∧
    Newer w3 w6 w7 ∧
    Keeps J0 w6 w7 ∧
    ∀ w8 : World, Only [] w7 w8 → ∀ k1 : Nat, w3.heap.size ≤ k1 → k1 < w8.heap.size → Apart [.mk w6.heap.size w7.heap.size] k1 → ((i6 != 0) = true → ∀ w9 : World, Only [k1, k0] w8 w9 → ∃ k2 : Nat, ∃ k3 : Nat, ∃ z0 : List Value, ∃ k4 : Nat, (c.add 2) = ⟨k2, k3, none⟩ ∧
     Blk w9 k2 k4 z0 ∧
     (k3 + 2) ≤ z0.length ∧
     k0 ≠ k2 ∧
     k1 ≠ k2 ∧
     ∀ w10 : World, Only [k2] w9 w10 → Blk w10 k2 k4 (splice z0 k3 [.int .i64 i6, .int .i64 i7]) → ∀ w11 : World, Only [k0] w10 w11 → R (.agg #[.int .i64 i1, .int .i64 i2, .string s0, .int .i64 i3, l1.v, .int .i64 i4]) w11) ∧
    ((i6 != 0) = false → ∀ w12 : World, Only [k1, k0] w8 w12 → ∃ k5 : Nat, ∃ k6 : Nat, ∃ z1 : List Value, ∃ k7 : Nat, (c.add 1) = ⟨k5, k6, none⟩ ∧
    Blk w12 k5 k7 z1 ∧
    (k6 + 1) ≤ z1.length ∧
    k0 ≠ k5 ∧
    k1 ≠ k5 ∧
    ∀ w13 : World, Only [k5] w12 w13 → Blk w13 k5 k7 (splice z1 k6 [.int .i64 i5]) → ∀ w14 : World, Only [k0] w13 w14 → R (.agg #[.int .i64 i1, .int .i64 i2, .string s0, .int .i64 i3, l1.v, .int .i64 i4]) w14))
theorem syntax_cursor_expr_wp (c : Addr) (R : Value → World → Prop) (w : World) (h : syntax_cursor_expr_vc c R w) : Calls Tryz.prog 121 #[.pointer (some c)] w fun e w' => ∃ v, e = .returned v ∧ R v w' :=
  fn_by (an := .s .o (.s (.s .o (.s (.s .o .o) .o)) (.s (.l false [] []) (.s (.s .o (.s (.s .o (.s .o .o)) .o)) (.s .o (.s .o .o)))))) (args := [.ad c]) Tryz.checked.mixed (by kernel_rfl) (by kernel_rfl) h
def syntax_reader_until_vc (r : Addr) (sign : ByteArray) (read : OV) (R : Value → World → Prop) (w : World) : Prop :=
  ∃ J0 : Nat → World → Prop, ∃ k0 : Nat, J0 k0 w ∧
  ∀ k1 : Nat, ∀ w0 : World, J0 k1 w0 → ∃ J1 : Bool → World → Prop, (∀ b0 : Bool, ∀ w1 : World, J1 b0 w1 → (b0 = true → ∃ k2 : Nat, ∃ z0 : List Value, ∃ z1 : List Value, read.v = (.func (.func k2) z0.toArray z1.toArray) ∧
    (∀ x0 : Array Value, ∀ w2 : World, ((callFunc k2 x0).run Tryz.prog w2) = (.ok (.enter k2 x0) w2)) ∧
    Calls Tryz.prog k2 ((cat (cat z0 []) z1).toArray) w1 fun e0 w3 => e0 = (.returned (.tuple #[])) ∧
     ∃ k3 : Nat, k3 < k1 ∧
     J0 k3 w3) ∧
   (b0 = false → R (.tuple #[]) w1)) ∧
  Calls Tryz.prog 34 #[.pointer (some (r.add 0))] w0 fun e1 w4 => ∃ b1 : Bool, e1 = (.returned (.bool b1)) ∧
   (b1 = true → ∃ l0 : Sl, ∃ w5 : World, ((Instr.buildSlice 25 1 #[.mk 0 (.string sign)]).run Tryz.prog w4) = (.ok l0.v w5) ∧
    Calls Tryz.prog 31 #[.pointer (some (r.add 0)), l0.v] w5 fun e2 w6 => ∃ i0 : Int, e2 = (.returned (.int .i64 i0)) ∧
     J1 (i0 == 0) w6) ∧
   (b1 = false → J1 false w4)
theorem syntax_reader_until_wp (r : Addr) (sign : ByteArray) (read : OV) (R : Value → World → Prop) (w : World) (h : syntax_reader_until_vc r sign read R w) : Calls Tryz.prog 122 #[.pointer (some r), .string sign, read.v] w fun e w' => ∃ v, e = .returned v ∧ R v w' :=
  fn_by (an := .j [0, 1, 2] [] (.s (.s (.j [0, 1, 2] [.s 18 .bool] .o .o) (.s .o .o)) .o) .o) (args := [.ad r, .str sign, .raw read]) Tryz.checked.mixed (by kernel_rfl) (by kernel_rfl) h
def syntax_reader_block_1_vc (ccap0 : Addr) (ccap1 : Addr) (R : Value → World → Prop) (w : World) : Prop :=
  ∀ w0 : World, Only [] w w0 → ∃ J0 : Nat → Prop, J0 ccap0.block ∧
  ∃ l0 : Sl, Cells w0 ccap0 [l0.v] ∧
  ∃ q0 : Option Addr, Cells w0 ccap1 [.pointer q0] ∧
  Calls Tryz.prog 124 #[.pointer q0] w0 fun e0 w1 => ∃ i0 : Int, ∃ s0 : ByteArray, ∃ i1 : Int, ∃ i2 : Int, ∃ s1 : ByteArray, ∃ i3 : Int, ∃ l1 : Sl, ∃ i4 : Int, ∃ i5 : Int, e0 = (.returned (.agg #[.int .i64 i0, .string s0, .int .i64 i1, .int .i64 i2, .string s1, .int .i64 i3, l1.v, .int .i64 i4, .int .i64 i5])) ∧
   Keeps J0 w0 w1 ∧
   ∃ l2 : Sl, ∃ w2 : World, ((Instr.buildSlice 41 1 #[.mk 0 (.agg #[.int .i64 i0, .string s0, .int .i64 i1, .int .i64 i2, .string s1, .int .i64 i3, l1.v, .int .i64 i4, .int .i64 i5])]).run Tryz.prog w1) = (.ok l2.v w2) ∧
   Keeps J0 w1 w2 ∧
   ∃ l3 : Sl, ∃ w3 : World, ((Builtin.append_ #[41, 41] 41 #[l0.v, l2.v]).run Tryz.prog w2) = (.ok l3.v w3) ∧
   Keeps J0 w2 w3 ∧
   ∃ k0 : Nat, ∃ k1 : Nat, ∃ z0 : List Value, ∃ k2 : Nat, ccap0 = ⟨k0, k1, none⟩ ∧
   Blk w3 k0 k2 z0 ∧
   (k1 + 1) ≤ z0.length ∧
   ∀ w4 : World, Only [k0] w3 w4 → Blk w4 k0 k2 (splice z0 k1 [l3.v]) → R (.tuple #[]) w4
theorem syntax_reader_block_1_wp (ccap0 : Addr) (ccap1 : Addr) (R : Value → World → Prop) (w : World) (h : syntax_reader_block_1_vc ccap0 ccap1 R w) : Calls Tryz.prog 123 #[.pointer (some ccap0), .pointer (some ccap1)] w fun e w' => ∃ v, e = .returned v ∧ R v w' :=
  fn_by (an := .o) (args := [.ad ccap0, .ad ccap1]) Tryz.checked.mixed (by kernel_rfl) (by kernel_rfl) h
def syntax_reader_act_vc (r : Addr) (R : Value → World → Prop) (w : World) : Prop :=
  ∀ k0 : Nat, ∀ w0 : World, w.heap.size ≤ k0 → k0 < w0.heap.size → Only [] w w0 → ∃ J0 : Nat → Prop, ∀ w1 : World, Only [] w0 w1 → J0 (((r.add 0).add 0).block) ∧
  ∃ l0 : Sl, Cells w1 ((r.add 0).add 0) [l0.v] ∧
  ∀ w2 : World, Only [] w1 w2 → J0 (((r.add 0).add 1).block) ∧
  ∃ i0 : Int, Cells w2 ((r.add 0).add 1) [.int .i64 i0] ∧
  ∃ p0 : Addr, SlAt l0 i0 4 p0 ∧
  ∀ w3 : World, Only [] w2 w3 → J0 ((p0.add 3).block) ∧
  ∃ i1 : Int, Cells w3 (p0.add 3) [.int .i64 i1] ∧
  ∀ w4 : World, Only [] w3 w4 → ∃ l1 : Sl, ∃ w5 : World, ((Instr.buildSlice 25 3 #[.mk 0 (.string (ByteArray.mk #[115, 101, 116])), .mk 1 (.string (ByteArray.mk #[114, 97, 105, 115, 101])), .mk 2 (.string (ByteArray.mk #[101, 109, 105, 116]))]).run Tryz.prog w4) = (.ok l1.v w5) ∧
  Same [k0] w4 w5 ∧
  Newer w0 w4 w5 ∧
  Keeps J0 w4 w5 ∧
  ∀ w6 : World, Only [] w5 w6 → Calls Tryz.prog 64 #[.pointer (some (r.add 0)), l1.v] w6 fun e0 w7 => ∃ i2 : Int, e0 = (.returned (.int .i64 i2)) ∧
   Same [k0] w6 w7 ∧
   Newer w0 w6 w7 ∧
   Keeps J0 w6 w7 ∧
   ∀ w8 : World, Only [] w7 w8 → ∀ k1 : Nat, w0.heap.size ≤ k1 → k1 < w8.heap.size → Apart [.mk w6.heap.size w7.heap.size, .mk w4.heap.size w5.heap.size] k1 → ((i2 == 0) = true → ∀ w9 : World, Only [k1] w8 w9 → Calls Tryz.prog 35 #[.pointer (some (r.add 0))] w9 fun e1 w10 => e1 = (.returned (.tuple #[])) ∧
     Same [k0, k1] w9 w10 ∧
     ∀ w11 : World, Only [k0] w10 w11 → R (.agg #[.int .i64 i2, .string (ByteArray.mk #[]), .int .i64 0, .int .i64 0, .string (ByteArray.mk #[]), .int .i64 0, Sl.nil.v, .int .i64 0, .int .i64 i1]) w11) ∧
   ((i2 == 0) = false → ∀ w12 : World, Only [k1] w8 w12 → Calls Tryz.prog 61 #[.pointer (some r), .pointer (some ((r.add 4).add 4)), .int .i64 2] w12 fun e2 w13 => e2 = (.returned (.tuple #[])) ∧
    Same [k0, k1] w12 w13 ∧
    Calls Tryz.prog 34 #[.pointer (some (r.add 0))] w13 fun e3 w14 => ∃ b0 : Bool, e3 = (.returned (.bool b0)) ∧
     Same [k0, k1] w13 w14 ∧
     ((!b0) = true → ∀ w15 : World, Only [k0] w14 w15 → R (.agg #[.int .i64 i2, .string (ByteArray.mk #[]), .int .i64 0, .int .i64 0, .string (ByteArray.mk #[]), .int .i64 0, Sl.nil.v, .int .i64 0, .int .i64 i1]) w15) ∧
     ((!b0) = false → ∃ i3 : Int, Cells w14 ((r.add 0).add 1) [.int .i64 i3] ∧
     ∃ k2 : Nat, ∃ k3 : Nat, ∃ z0 : List Value, ∃ k4 : Nat, ((r.add 0).add 1) = ⟨k2, k3, none⟩ ∧
     Blk w14 k2 k4 z0 ∧
     (k3 + 1) ≤ z0.length ∧
     k0 ≠ k2 ∧
     k1 ≠ k2 ∧
     ∀ w16 : World, Only [k2] w14 w16 → Blk w16 k2 k4 (splice z0 k3 [.int .i64 (IntKind.wrap .i64 (i3 + 1))]) → Calls Tryz.prog 108 #[.pointer (some (r.add 0))] w16 fun e4 w17 => ∃ s0 : ByteArray, e4 = (.returned (.string s0)) ∧
      Same [k0, k1] w16 w17 ∧
      ∀ w18 : World, Only [k1] w17 w18 → ∃ J1 : Int → ByteArray → Int → Int → ByteArray → Int → Sl → Int → Int → World → Prop, (∀ i4 : Int, ∀ s1 : ByteArray, ∀ i5 : Int, ∀ i6 : Int, ∀ s2 : ByteArray, ∀ i7 : Int, ∀ l2 : Sl, ∀ i8 : Int, ∀ i9 : Int, ∀ w19 : World, J1 i4 s1 i5 i6 s2 i7 l2 i8 i9 w19 → ∃ l3 : Sl, ∃ w20 : World, ((Instr.buildSlice 25 1 #[.mk 0 (.string (ByteArray.mk #[59]))]).run Tryz.prog w19) = (.ok l3.v w20) ∧
       Same [k0, k1] w19 w20 ∧
       Calls Tryz.prog 29 #[.pointer (some (r.add 0)), l3.v] w20 fun e5 w21 => e5 = (.returned (.tuple #[])) ∧
        Same [k0, k1] w20 w21 ∧
        ∀ w22 : World, Only [k0] w21 w22 → R (.agg #[.int .i64 i4, .string s1, .int .i64 i5, .int .i64 i6, .string s2, .int .i64 i7, l2.v, .int .i64 i8, .int .i64 i9]) w22) ∧
      ((i2 != 2) = true → ∃ l4 : Sl, ∃ w23 : World, ((Instr.buildSlice 25 1 #[.mk 0 (.string (ByteArray.mk #[61]))]).run Tryz.prog w18) = (.ok l4.v w23) ∧
       Same [k0, k1] w18 w23 ∧
       Calls Tryz.prog 29 #[.pointer (some (r.add 0)), l4.v] w23 fun e6 w24 => e6 = (.returned (.tuple #[])) ∧
        Same [k0, k1] w23 w24 ∧
        Calls Tryz.prog 121 #[.pointer (some (r.add 0))] w24 fun e7 w25 => ∃ i10 : Int, ∃ i11 : Int, ∃ s3 : ByteArray, ∃ i12 : Int, ∃ l5 : Sl, ∃ i13 : Int, e7 = (.returned (.agg #[.int .i64 i10, .int .i64 i11, .string s3, .int .i64 i12, l5.v, .int .i64 i13])) ∧
         Same [k0, k1] w24 w25 ∧
         ∀ w26 : World, Only [k1] w25 w26 → J1 i2 s0 i10 i11 s3 i12 l5 i13 i1 w26) ∧
      ((i2 != 2) = false → J1 i2 s0 0 0 (ByteArray.mk #[]) 0 Sl.nil 0 i1 w18)))
theorem syntax_reader_act_wp (r : Addr) (R : Value → World → Prop) (w : World) (h : syntax_reader_act_vc r R w) : Calls Tryz.prog 124 #[.pointer (some r)] w fun e w' => ∃ v, e = .returned v ∧ R v w' :=
  fn_by (an := .s .o (.s (.l false [] []) (.s (.s .o (.s (.s .o (.s .o .o)) .o)) (.s (.s .o (.s .o (.s (.s .o .o) .o))) (.s .o (.s .o (.j [0, 2, 3] [.b 3 [.int .i64, .str, .int .i64, .int .i64, .str, .int .i64, .sl, .int .i64, .int .i64]] (.s .o (.s (.s .o .o) .o)) (.s .o (.s .o .o))))))))) (args := [.ad r]) Tryz.checked.mixed (by kernel_rfl) (by kernel_rfl) h
def pavaneref05_Parse_vc (l : Sl) (at_ : Int) (R : Value → World → Prop) (w : World) : Prop :=
  (((decide (at_ < 0)) || (decide (at_ ≥ (l.n : Int)))) = true → ∀ k0 : Nat, ∀ k1 : Nat, ∀ w0 : World, w.heap.size ≤ k0 → k0 < w0.heap.size → w.heap.size ≤ k1 → k1 < w0.heap.size → Only [] w w0 → R (.tuple #[.agg #[.int .i64 0, .int .i64 0, .string (ByteArray.mk #[]), .int .i64 0, Sl.nil.v, .int .i64 0], .int .i64 0, .agg #[.int .i64 1, .int .i64 (-1)]]) w0) ∧
  (((decide (at_ < 0)) || (decide (at_ ≥ (l.n : Int)))) = false → ∀ k2 : Nat, ∀ k3 : Nat, ∀ w1 : World, w.heap.size ≤ k2 → k2 < w1.heap.size → w.heap.size ≤ k3 → k3 < w1.heap.size → Only [] w w1 → ∃ J0 : Nat → Int → Int → Int → ByteArray → Int → Sl → Int → Int → Int → World → Prop, ∃ k4 : Nat, J0 k4 0 0 0 (ByteArray.mk #[]) 0 Sl.nil 0 0 0 w1 ∧
  ∀ k5 : Nat, ∀ i0 : Int, ∀ i1 : Int, ∀ i2 : Int, ∀ s0 : ByteArray, ∀ i3 : Int, ∀ l0 : Sl, ∀ i4 : Int, ∀ i5 : Int, ∀ i6 : Int, ∀ w2 : World, J0 k5 i0 i1 i2 s0 i3 l0 i4 i5 i6 w2 → ((decide (i0 < (l.n : Int))) = true → ∃ p0 : Addr, SlAt l i0 4 p0 ∧
   ∃ i7 : Int, Cells w2 (p0.add 0) [.int .i64 i7] ∧
   ((!((i7 == 5) == (i0 == (IntKind.wrap .i64 ((l.n : Int) - 1))))) = true → ∀ w3 : World, Only [k3, k2] w2 w3 → R (.tuple #[.agg #[.int .i64 0, .int .i64 0, .string (ByteArray.mk #[]), .int .i64 0, Sl.nil.v, .int .i64 0], .int .i64 0, .agg #[.int .i64 1, .int .i64 (-1)]]) w3) ∧
   ((!((i7 == 5) == (i0 == (IntKind.wrap .i64 ((l.n : Int) - 1))))) = false → ∃ k6 : Nat, k6 < k5 ∧
   J0 k6 (IntKind.wrap .i64 (i0 + 1)) i1 i2 s0 i3 l0 i4 i5 i6 w2)) ∧
  ((decide (i0 < (l.n : Int))) = false → ∀ k7 : Nat, ∀ w4 : World, w2.heap.size ≤ k7 → k7 < w4.heap.size → Only [] w2 w4 → Blk w4 k7 178 [l.v, .int .i64 at_, .int .i64 0, .int .i64 0, .int .i64 0] → Calls Tryz.prog 139 #[.pointer (some ⟨k7, 0, none⟩), .int .i64 0] w4 fun e0 w5 => ∃ i8 : Int, ∃ i9 : Int, ∃ s1 : ByteArray, ∃ i10 : Int, ∃ l1 : Sl, ∃ i11 : Int, e0 = (.returned (.agg #[.int .i64 i8, .int .i64 i9, .string s1, .int .i64 i10, l1.v, .int .i64 i11])) ∧
   Same [k2, k3] w4 w5 ∧
   ∃ l2 : Sl, ∃ i12 : Int, ∃ i13 : Int, ∃ i14 : Int, ∃ i15 : Int, Blk w5 k7 178 [l2.v, .int .i64 i12, .int .i64 i13, .int .i64 i14, .int .i64 i15] ∧
   ((i14 != 0) = true → ∀ k8 : Nat, ∀ w6 : World, w5.heap.size ≤ k8 → k8 < w6.heap.size → Only [] w5 w6 → Blk w6 k7 178 [l2.v, .int .i64 i12, .int .i64 i13, .int .i64 i14, .int .i64 i15] → k2 ≠ k3 → k2 ≠ k7 → k2 ≠ k8 → k3 ≠ k7 → k3 ≠ k8 → k7 ≠ k8 → ∃ J1 : Nat → Prop, J1 k7 ∧
    Out J1 k2 ∧
    Out J1 k3 ∧
    ∀ w7 : World, Only [k3, k2] w6 w7 → Blk w7 k7 178 [l2.v, .int .i64 i12, .int .i64 i13, .int .i64 i14, .int .i64 i15] → R (.tuple #[.agg #[.int .i64 0, .int .i64 0, .string (ByteArray.mk #[]), .int .i64 0, Sl.nil.v, .int .i64 0], .int .i64 0, .agg #[.int .i64 i14, .int .i64 i15]]) w7) ∧
   ((i14 != 0) = false → ∀ k9 : Nat, ∀ w8 : World, w5.heap.size ≤ k9 → k9 < w8.heap.size → Only [] w5 w8 → Blk w8 k7 178 [l2.v, .int .i64 i12, .int .i64 i13, .int .i64 i14, .int .i64 i15] → k2 ≠ k3 → k2 ≠ k7 → k2 ≠ k9 → k3 ≠ k7 → k3 ≠ k9 → k7 ≠ k9 → ∃ J2 : Nat → Prop, J2 k7 ∧
   Out J2 k2 ∧
   Out J2 k3 ∧
   ∀ w9 : World, Only [k3, k2] w8 w9 → Blk w9 k7 178 [l2.v, .int .i64 i12, .int .i64 i13, .int .i64 i14, .int .i64 i15] → R (.tuple #[.agg #[.int .i64 i8, .int .i64 i9, .string s1, .int .i64 i10, l1.v, .int .i64 i11], .int .i64 i12, .agg #[.int .i64 0, .int .i64 0]]) w9)))
theorem pavaneref05_Parse_wp (l : Sl) (at_ : Int) (R : Value → World → Prop) (w : World) (h : pavaneref05_Parse_vc l at_ R w) : Calls Tryz.prog 125 #[l.v, .int .i64 at_] w fun e w' => ∃ v, e = .returned v ∧ R v w' :=
  fn_by (an := .s .o (.s (.s .o (.s (.s .o .o) .o)) (.s (.s .o (.j [0, 1, 4, 6] [.s 7 (.int .i64), .b 4 [.int .i64, .int .i64, .str, .int .i64, .sl, .int .i64], .b 6 [.int .i64, .int .i64]] (.s (.s .o (.s .o .o)) (.s (.s .o (.s (.s .o .o) .o)) .o)) .o)) (.s .o (.s .o (.s (.s .o (.s (.s .o .o) .o)) (.s .o .o))))))) (args := [.sl l, .int .i64 at_]) Tryz.checked.mixed (by kernel_rfl) (by kernel_rfl) h
def pavaneref05_reader_from_vc (r : Addr) (k : Int) (R : Value → World → Prop) (w : World) : Prop :=
  ((k == 6) = true → ∀ k0 : Nat, ∀ w0 : World, w.heap.size ≤ k0 → k0 < w0.heap.size → Only [] w w0 → Calls Tryz.prog 147 #[.pointer (some r)] w0 fun e0 w1 => ∃ i0 : Int, ∃ i1 : Int, ∃ s0 : ByteArray, ∃ i2 : Int, ∃ l0 : Sl, ∃ i3 : Int, e0 = (.returned (.agg #[.int .i64 i0, .int .i64 i1, .string s0, .int .i64 i2, l0.v, .int .i64 i3])) ∧
    Same [k0] w0 w1 ∧
    ∀ w2 : World, Only [k0] w1 w2 → R (.agg #[.int .i64 i0, .int .i64 i1, .string s0, .int .i64 i2, l0.v, .int .i64 i3]) w2) ∧
  ((k == 6) = false → ∀ k1 : Nat, ∀ w3 : World, w.heap.size ≤ k1 → k1 < w3.heap.size → Only [] w w3 → Calls Tryz.prog 139 #[.pointer (some r), .int .i64 (IntKind.wrap .i64 (k + 1))] w3 fun e1 w4 => ∃ i4 : Int, ∃ i5 : Int, ∃ s1 : ByteArray, ∃ i6 : Int, ∃ l1 : Sl, ∃ i7 : Int, e1 = (.returned (.agg #[.int .i64 i4, .int .i64 i5, .string s1, .int .i64 i6, l1.v, .int .i64 i7])) ∧
   Same [k1] w3 w4 ∧
   ∀ k2 : Nat, ∀ w5 : World, w4.heap.size ≤ k2 → k2 < w5.heap.size → Only [] w4 w5 → Calls Tryz.prog 148 #[.pointer (some r), .int .i64 k] w5 fun e2 w6 => ∃ i8 : Int, e2 = (.returned (.int .i64 i8)) ∧
    Same [k1, k2] w5 w6 ∧
    ∃ J0 : Nat → Int → Int → Int → ByteArray → Int → Sl → Int → World → Prop, ∃ k3 : Nat, J0 k3 i8 i4 i5 s1 i6 l1 i7 w6 ∧
    ∀ k4 : Nat, ∀ i9 : Int, ∀ i10 : Int, ∀ i11 : Int, ∀ s2 : ByteArray, ∀ i12 : Int, ∀ l2 : Sl, ∀ i13 : Int, ∀ w7 : World, J0 k4 i9 i10 i11 s2 i12 l2 i13 w7 → ((i9 != 0) = true → ∃ i14 : Int, Cells w7 (r.add 1) [.int .i64 i14] ∧
     ∃ k5 : Nat, ∃ k6 : Nat, ∃ z0 : List Value, ∃ k7 : Nat, (r.add 1) = ⟨k5, k6, none⟩ ∧
     Blk w7 k5 k7 z0 ∧
     (k6 + 1) ≤ z0.length ∧
     k1 ≠ k5 ∧
     k2 ≠ k5 ∧
     ∀ w8 : World, Only [k5] w7 w8 → Blk w8 k5 k7 (splice z0 k6 [.int .i64 (IntKind.wrap .i64 (i14 + 1))]) → Calls Tryz.prog 139 #[.pointer (some r), .int .i64 (IntKind.wrap .i64 (k + 1))] w8 fun e3 w9 => ∃ i15 : Int, ∃ i16 : Int, ∃ s3 : ByteArray, ∃ i17 : Int, ∃ l3 : Sl, ∃ i18 : Int, e3 = (.returned (.agg #[.int .i64 i15, .int .i64 i16, .string s3, .int .i64 i17, l3.v, .int .i64 i18])) ∧
      Same [k1, k2] w8 w9 ∧
      ∀ k8 : Nat, ∀ w10 : World, w9.heap.size ≤ k8 → k8 < w10.heap.size → Only [] w9 w10 → ∃ l4 : Sl, ∃ w11 : World, ((Instr.buildSlice 22 2 #[.mk 0 (.agg #[.int .i64 i10, .int .i64 i11, .string s2, .int .i64 i12, l2.v, .int .i64 i13]), .mk 1 (.agg #[.int .i64 i15, .int .i64 i16, .string s3, .int .i64 i17, l3.v, .int .i64 i18])]).run Tryz.prog w10) = (.ok l4.v w11) ∧
      Same [k1, k2, k8] w10 w11 ∧
      ∀ w12 : World, Only [k2] w11 w12 → Calls Tryz.prog 148 #[.pointer (some r), .int .i64 k] w12 fun e4 w13 => ∃ i19 : Int, e4 = (.returned (.int .i64 i19)) ∧
       Same [k1, k2, k8] w12 w13 ∧
       ∃ k9 : Nat, k9 < k4 ∧
       J0 k9 i19 5 0 (ByteArray.mk #[]) i9 l4 i13 w13) ∧
    ((i9 != 0) = false → ∀ w14 : World, Only [k1] w7 w14 → R (.agg #[.int .i64 i10, .int .i64 i11, .string s2, .int .i64 i12, l2.v, .int .i64 i13]) w14))
theorem pavaneref05_reader_from_wp (r : Addr) (k : Int) (R : Value → World → Prop) (w : World) (h : pavaneref05_reader_from_vc r k R w) : Calls Tryz.prog 139 #[.pointer (some r), .int .i64 k] w fun e w' => ∃ v, e = .returned v ∧ R v w' :=
  fn_by (an := .s .o (.s (.s .o (.s (.s .o .o) .o)) (.s .o (.s .o (.s (.j [0, 1, 4, 5] [.s 6 (.int .i64), .b 5 [.int .i64, .int .i64, .str, .int .i64, .sl, .int .i64]] (.s (.s .o (.s .o .o)) (.s .o (.s .o (.s .o .o)))) .o) (.s .o .o)))))) (args := [.ad r, .int .i64 k]) Tryz.checked.mixed (by kernel_rfl) (by kernel_rfl) h
def pavaneref05_reader_one_vc (r : Addr) (R : Value → World → Prop) (w : World) : Prop :=
  ∀ k0 : Nat, ∀ w0 : World, w.heap.size ≤ k0 → k0 < w0.heap.size → Only [] w w0 → ∃ J0 : Nat → Prop, J0 ((r.add 0).block) ∧
  ∃ l0 : Sl, Cells w0 (r.add 0) [l0.v] ∧
  J0 ((r.add 1).block) ∧
  ∃ i0 : Int, Cells w0 (r.add 1) [.int .i64 i0] ∧
  ∃ p0 : Addr, SlAt l0 i0 4 p0 ∧
  J0 p0.block ∧
  ∃ i1 : Int, ∃ s0 : ByteArray, ∃ i2 : Int, ∃ i3 : Int, Cells w0 p0 [.int .i64 i1, .string s0, .int .i64 i2, .int .i64 i3] ∧
  ∀ k1 : Nat, ∀ w1 : World, w0.heap.size ≤ k1 → k1 < w1.heap.size → Only [] w0 w1 → Calls Tryz.prog 156 #[.pointer (some r), .string (ByteArray.mk #[45])] w1 fun e0 w2 => ∃ b0 : Bool, e0 = (.returned (.bool b0)) ∧
   Same [k0, k1] w1 w2 ∧
   Calls Tryz.prog 156 #[.pointer (some r), .string (ByteArray.mk #[33])] w2 fun e1 w3 => ∃ b1 : Bool, e1 = (.returned (.bool b1)) ∧
    Same [k0, k1] w2 w3 ∧
    Calls Tryz.prog 156 #[.pointer (some r), .string (ByteArray.mk #[40])] w3 fun e2 w4 => ∃ b2 : Bool, e2 = (.returned (.bool b2)) ∧
     Same [k0, k1] w3 w4 ∧
     ∃ i4 : Int, Cells w4 ((r.add 3).add 0) [.int .i64 i4] ∧
     ((i4 != 0) = true → ∀ w5 : World, Only [k0] w4 w5 → R (.agg #[.int .i64 0, .int .i64 0, .string (ByteArray.mk #[]), .int .i64 0, Sl.nil.v, .int .i64 0]) w5) ∧
     ((i4 != 0) = false → ((b0 || b1) = true → Calls Tryz.prog 157 #[.pointer (some r)] w4 fun e3 w6 => ∃ b3 : Bool, e3 = (.returned (.bool b3)) ∧
       Same [k0, k1] w4 w6 ∧
       ((!b3) = true → ∀ w7 : World, Only [k0] w6 w7 → R (.agg #[.int .i64 0, .int .i64 0, .string (ByteArray.mk #[]), .int .i64 0, Sl.nil.v, .int .i64 0]) w7) ∧
       ((!b3) = false → Calls Tryz.prog 147 #[.pointer (some r)] w6 fun e4 w8 => ∃ i5 : Int, ∃ i6 : Int, ∃ s1 : ByteArray, ∃ i7 : Int, ∃ l1 : Sl, ∃ i8 : Int, e4 = (.returned (.agg #[.int .i64 i5, .int .i64 i6, .string s1, .int .i64 i7, l1.v, .int .i64 i8])) ∧
        Same [k0, k1] w6 w8 ∧
        ∀ k2 : Nat, ∀ w9 : World, w8.heap.size ≤ k2 → k2 < w9.heap.size → Only [] w8 w9 → ∃ i9 : Int, Cells w9 (r.add 2) [.int .i64 i9] ∧
        ∃ k3 : Nat, ∃ k4 : Nat, ∃ z0 : List Value, ∃ k5 : Nat, (r.add 2) = ⟨k3, k4, none⟩ ∧
        Blk w9 k3 k5 z0 ∧
        (k4 + 1) ≤ z0.length ∧
        k0 ≠ k3 ∧
        k1 ≠ k3 ∧
        k2 ≠ k3 ∧
        ∀ w10 : World, Only [k3] w9 w10 → Blk w10 k3 k5 (splice z0 k4 [.int .i64 (IntKind.wrap .i64 (i9 - 1))]) → ∃ J1 : Int → World → Prop, (∀ i10 : Int, ∀ w11 : World, J1 i10 w11 → ∃ l2 : Sl, ∃ w12 : World, ((Instr.buildSlice 22 1 #[.mk 0 (.agg #[.int .i64 i5, .int .i64 i6, .string s1, .int .i64 i7, l1.v, .int .i64 i8])]).run Tryz.prog w11) = (.ok l2.v w12) ∧
         Same [k0, k1, k2] w11 w12 ∧
         ∀ w13 : World, Only [k0] w12 w13 → R (.agg #[.int .i64 4, .int .i64 0, .string (ByteArray.mk #[]), .int .i64 i10, l2.v, .int .i64 i3]) w13) ∧
        (b1 = true → J1 15 w10) ∧
        (b1 = false → J1 14 w10))) ∧
     ((b0 || b1) = false → (b2 = true → Calls Tryz.prog 157 #[.pointer (some r)] w4 fun e5 w14 => ∃ b4 : Bool, e5 = (.returned (.bool b4)) ∧
       Same [k0, k1] w4 w14 ∧
       ((!b4) = true → ∀ w15 : World, Only [k0] w14 w15 → R (.agg #[.int .i64 0, .int .i64 0, .string (ByteArray.mk #[]), .int .i64 0, Sl.nil.v, .int .i64 0]) w15) ∧
       ((!b4) = false → Calls Tryz.prog 139 #[.pointer (some r), .int .i64 0] w14 fun e6 w16 => ∃ i11 : Int, ∃ i12 : Int, ∃ s2 : ByteArray, ∃ i13 : Int, ∃ l3 : Sl, ∃ i14 : Int, e6 = (.returned (.agg #[.int .i64 i11, .int .i64 i12, .string s2, .int .i64 i13, l3.v, .int .i64 i14])) ∧
        Same [k0, k1] w14 w16 ∧
        ∀ k6 : Nat, ∀ w17 : World, w16.heap.size ≤ k6 → k6 < w17.heap.size → Only [] w16 w17 → Calls Tryz.prog 158 #[.pointer (some r), .string (ByteArray.mk #[41])] w17 fun e7 w18 => e7 = (.returned (.tuple #[])) ∧
         Same [k0, k1, k6] w17 w18 ∧
         ∃ i15 : Int, Cells w18 (r.add 2) [.int .i64 i15] ∧
         ∃ k7 : Nat, ∃ k8 : Nat, ∃ z1 : List Value, ∃ k9 : Nat, (r.add 2) = ⟨k7, k8, none⟩ ∧
         Blk w18 k7 k9 z1 ∧
         (k8 + 1) ≤ z1.length ∧
         k0 ≠ k7 ∧
         k1 ≠ k7 ∧
         k6 ≠ k7 ∧
         ∀ w19 : World, Only [k7] w18 w19 → Blk w19 k7 k9 (splice z1 k8 [.int .i64 (IntKind.wrap .i64 (i15 - 1))]) → ∀ w20 : World, Only [k0] w19 w20 → R (.agg #[.int .i64 i11, .int .i64 i12, .string s2, .int .i64 i13, l3.v, .int .i64 i14]) w20)) ∧
     (b2 = false → ((i1 == 3) = true → ∃ i16 : Int, Cells w4 (r.add 1) [.int .i64 i16] ∧
      ∃ k10 : Nat, ∃ k11 : Nat, ∃ z2 : List Value, ∃ k12 : Nat, (r.add 1) = ⟨k10, k11, none⟩ ∧
      Blk w4 k10 k12 z2 ∧
      (k11 + 1) ≤ z2.length ∧
      k0 ≠ k10 ∧
      k1 ≠ k10 ∧
      ∀ w21 : World, Only [k10] w4 w21 → Blk w21 k10 k12 (splice z2 k11 [.int .i64 (IntKind.wrap .i64 (i16 + 1))]) → ∀ w22 : World, Only [k0] w21 w22 → R (.agg #[.int .i64 1, .int .i64 i2, .string (ByteArray.mk #[]), .int .i64 0, Sl.nil.v, .int .i64 i3]) w22) ∧
     ((i1 == 3) = false → ((i1 == 1) = true → ∃ i17 : Int, Cells w4 (r.add 1) [.int .i64 i17] ∧
      ∃ k13 : Nat, ∃ k14 : Nat, ∃ z3 : List Value, ∃ k15 : Nat, (r.add 1) = ⟨k13, k14, none⟩ ∧
      Blk w4 k13 k15 z3 ∧
      (k14 + 1) ≤ z3.length ∧
      k0 ≠ k13 ∧
      k1 ≠ k13 ∧
      ∀ w23 : World, Only [k13] w4 w23 → Blk w23 k13 k15 (splice z3 k14 [.int .i64 (IntKind.wrap .i64 (i17 + 1))]) → ∀ w24 : World, Only [k0] w23 w24 → R (.agg #[.int .i64 2, .int .i64 0, .string s0, .int .i64 0, Sl.nil.v, .int .i64 i3]) w24) ∧
     ((i1 == 1) = false → (((i1 == 2) && (s0.toList == ((ByteArray.mk #[105, 110]).toList))) = true → Calls Tryz.prog 159 #[.pointer (some r)] w4 fun e8 w25 => ∃ i18 : Int, ∃ i19 : Int, ∃ s3 : ByteArray, ∃ i20 : Int, ∃ l4 : Sl, ∃ i21 : Int, e8 = (.returned (.agg #[.int .i64 i18, .int .i64 i19, .string s3, .int .i64 i20, l4.v, .int .i64 i21])) ∧
       Same [k0, k1] w4 w25 ∧
       ∀ w26 : World, Only [k0] w25 w26 → R (.agg #[.int .i64 i18, .int .i64 i19, .string s3, .int .i64 i20, l4.v, .int .i64 i21]) w26) ∧
     (((i1 == 2) && (s0.toList == ((ByteArray.mk #[105, 110]).toList))) = false → Calls Tryz.prog 160 #[.pointer (some r)] w4 fun e9 w27 => e9 = (.returned (.tuple #[])) ∧
      Same [k0, k1] w4 w27 ∧
      ∀ w28 : World, Only [k0] w27 w28 → R (.agg #[.int .i64 0, .int .i64 0, .string (ByteArray.mk #[]), .int .i64 0, Sl.nil.v, .int .i64 0]) w28))))))
theorem pavaneref05_reader_one_wp (r : Addr) (R : Value → World → Prop) (w : World) (h : pavaneref05_reader_one_vc r R w) : Calls Tryz.prog 147 #[.pointer (some r)] w fun e w' => ∃ v, e = .returned v ∧ R v w' :=
  fn_by (an := .s .o (.s .o (.s .o (.s .o (.s .o (.s (.s .o (.s (.s .o .o) (.s .o (.s (.s .o (.s (.s .o (.s (.s .o .o) .o)) (.s .o (.s .o (.s .o (.j [2, 3, 8] [.s 9 (.int .i64)] (.s .o (.s .o .o)) (.s .o .o))))))) (.s .o (.s (.s .o (.s (.s .o (.s (.s .o .o) .o)) (.s .o (.s .o (.s .o (.s .o .o)))))) (.s .o (.s (.s .o (.s .o .o)) (.s .o (.s (.s .o (.s .o .o)) (.s .o (.s (.s .o .o) .o)))))))))))) (.s .o (.s .o .o)))))))) (args := [.ad r]) Tryz.checked.mixed (by kernel_rfl) (by kernel_rfl) h
def pavaneref05_reader_row_vc (r : Addr) (k : Int) (R : Value → World → Prop) (w : World) : Prop :=
  Calls Tryz.prog 161 #[] w fun e0 w0 => ∃ l0 : Sl, e0 = (.returned l0.v) ∧
   ∃ p0 : Addr, SlAt l0 k 1 p0 ∧
   ∃ l1 : Sl, Cells w0 p0 [l1.v] ∧
   Calls Tryz.prog 162 #[] w0 fun e1 w1 => ∃ l2 : Sl, e1 = (.returned l2.v) ∧
    ∃ p1 : Addr, SlAt l2 k 1 p1 ∧
    ∃ l3 : Sl, Cells w1 p1 [l3.v] ∧
    ∃ J0 : Nat → Int → World → Prop, ∃ k0 : Nat, J0 k0 0 w1 ∧
    ∀ k1 : Nat, ∀ i0 : Int, ∀ w2 : World, J0 k1 i0 w2 → ((decide (i0 < (l1.n : Int))) = true → ∃ p2 : Addr, SlAt l1 i0 1 p2 ∧
     ∃ s0 : ByteArray, Cells w2 p2 [.string s0] ∧
     Calls Tryz.prog 156 #[.pointer (some r), .string s0] w2 fun e2 w3 => ∃ b0 : Bool, e2 = (.returned (.bool b0)) ∧
      (b0 = true → ∃ p3 : Addr, SlAt l3 i0 1 p3 ∧
       ∃ i1 : Int, Cells w3 p3 [.int .i64 i1] ∧
       R (.int .i64 i1) w3) ∧
      (b0 = false → ∃ k2 : Nat, k2 < k1 ∧
      J0 k2 (IntKind.wrap .i64 (i0 + 1)) w3)) ∧
    ((decide (i0 < (l1.n : Int))) = false → R (.int .i64 0) w2)
theorem pavaneref05_reader_row_wp (r : Addr) (k : Int) (R : Value → World → Prop) (w : World) (h : pavaneref05_reader_row_vc r k R w) : Calls Tryz.prog 148 #[.pointer (some r), .int .i64 k] w fun e w' => ∃ v, e = .returned v ∧ R v w' :=
  fn_by (an := .s .o (.s .o (.s .o (.s (.s .o (.j [0, 5, 6] [.s 7 (.int .i64)] (.s (.s .o (.s .o .o)) (.s (.s .o (.s .o (.s (.s .o .o) .o))) .o)) .o)) (.s .o .o))))) (args := [.ad r, .int .i64 k]) Tryz.checked.mixed (by kernel_rfl) (by kernel_rfl) h
def pavaneref05_reader_sign_vc (r : Addr) (s : ByteArray) (R : Value → World → Prop) (w : World) : Prop :=
  ∀ w0 : World, Only [] w w0 → ∃ J0 : Nat → Prop, J0 ((r.add 0).block) ∧
  ∃ l0 : Sl, Cells w0 (r.add 0) [l0.v] ∧
  J0 ((r.add 1).block) ∧
  ∃ i0 : Int, Cells w0 (r.add 1) [.int .i64 i0] ∧
  ∃ p0 : Addr, SlAt l0 i0 4 p0 ∧
  J0 p0.block ∧
  ∃ i1 : Int, ∃ s0 : ByteArray, ∃ i2 : Int, ∃ i3 : Int, Cells w0 p0 [.int .i64 i1, .string s0, .int .i64 i2, .int .i64 i3] ∧
  ∀ k0 : Nat, ∀ w1 : World, w0.heap.size ≤ k0 → k0 < w1.heap.size → Only [] w0 w1 → ∃ i4 : Int, Cells w1 ((r.add 3).add 0) [.int .i64 i4] ∧
  R (.bool (((i4 == 0) && (i1 == 4)) && (s0.toList == s.toList))) w1
theorem pavaneref05_reader_sign_wp (r : Addr) (s : ByteArray) (R : Value → World → Prop) (w : World) (h : pavaneref05_reader_sign_vc r s R w) : Calls Tryz.prog 156 #[.pointer (some r), .string s] w fun e w' => ∃ v, e = .returned v ∧ R v w' :=
  fn_by (an := .s .o (.s .o (.s .o .o))) (args := [.ad r, .str s]) Tryz.checked.mixed (by kernel_rfl) (by kernel_rfl) h
def pavaneref05_reader_down_vc (r : Addr) (R : Value → World → Prop) (w : World) : Prop :=
  ∃ i0 : Int, Cells w (r.add 2) [.int .i64 i0] ∧
  ((i0 == 20) = true → Calls Tryz.prog 167 #[.pointer (some r), .int .i64 21] w fun e0 w0 => e0 = (.returned (.tuple #[])) ∧
    R (.bool false) w0) ∧
  ((i0 == 20) = false → ∃ i1 : Int, Cells w (r.add 2) [.int .i64 i1] ∧
  ∃ k0 : Nat, ∃ k1 : Nat, ∃ z0 : List Value, ∃ k2 : Nat, (r.add 2) = ⟨k0, k1, none⟩ ∧
  Blk w k0 k2 z0 ∧
  (k1 + 1) ≤ z0.length ∧
  ∀ w1 : World, Only [k0] w w1 → Blk w1 k0 k2 (splice z0 k1 [.int .i64 (IntKind.wrap .i64 (i1 + 1))]) → ∃ i2 : Int, Cells w1 (r.add 1) [.int .i64 i2] ∧
  ∃ k3 : Nat, ∃ k4 : Nat, ∃ z1 : List Value, ∃ k5 : Nat, (r.add 1) = ⟨k3, k4, none⟩ ∧
  Blk w1 k3 k5 z1 ∧
  (k4 + 1) ≤ z1.length ∧
  ∀ w2 : World, Only [k3] w1 w2 → Blk w2 k3 k5 (splice z1 k4 [.int .i64 (IntKind.wrap .i64 (i2 + 1))]) → R (.bool true) w2)
theorem pavaneref05_reader_down_wp (r : Addr) (R : Value → World → Prop) (w : World) (h : pavaneref05_reader_down_vc r R w) : Calls Tryz.prog 157 #[.pointer (some r)] w fun e w' => ∃ v, e = .returned v ∧ R v w' :=
  fn_by (an := .s .o (.s (.s .o (.s (.s .o (.s .o .o)) .o)) (.s .o (.s .o (.s .o .o))))) (args := [.ad r]) Tryz.checked.mixed (by kernel_rfl) (by kernel_rfl) h
def pavaneref05_reader_must_vc (r : Addr) (s : ByteArray) (R : Value → World → Prop) (w : World) : Prop :=
  Calls Tryz.prog 156 #[.pointer (some r), .string s] w fun e0 w0 => ∃ b0 : Bool, e0 = (.returned (.bool b0)) ∧
   ((!b0) = true → Calls Tryz.prog 160 #[.pointer (some r)] w0 fun e1 w1 => e1 = (.returned (.tuple #[])) ∧
     R (.tuple #[]) w1) ∧
   ((!b0) = false → ∃ i0 : Int, Cells w0 (r.add 1) [.int .i64 i0] ∧
   ∃ k0 : Nat, ∃ k1 : Nat, ∃ z0 : List Value, ∃ k2 : Nat, (r.add 1) = ⟨k0, k1, none⟩ ∧
   Blk w0 k0 k2 z0 ∧
   (k1 + 1) ≤ z0.length ∧
   ∀ w2 : World, Only [k0] w0 w2 → Blk w2 k0 k2 (splice z0 k1 [.int .i64 (IntKind.wrap .i64 (i0 + 1))]) → R (.tuple #[]) w2)
theorem pavaneref05_reader_must_wp (r : Addr) (s : ByteArray) (R : Value → World → Prop) (w : World) (h : pavaneref05_reader_must_vc r s R w) : Calls Tryz.prog 158 #[.pointer (some r), .string s] w fun e w' => ∃ v, e = .returned v ∧ R v w' :=
  fn_by (an := .s .o (.s (.s .o (.s (.s .o .o) .o)) .o)) (args := [.ad r, .str s]) Tryz.checked.mixed (by kernel_rfl) (by kernel_rfl) h
def pavaneref05_reader_in_vc (r : Addr) (R : Value → World → Prop) (w : World) : Prop :=
  ∀ k0 : Nat, ∀ w0 : World, w.heap.size ≤ k0 → k0 < w0.heap.size → Only [] w w0 → ∃ J0 : Nat → Prop, J0 ((r.add 0).block) ∧
  ∃ l0 : Sl, Cells w0 (r.add 0) [l0.v] ∧
  J0 ((r.add 1).block) ∧
  ∃ i0 : Int, Cells w0 (r.add 1) [.int .i64 i0] ∧
  ∃ p0 : Addr, SlAt l0 i0 4 p0 ∧
  J0 ((p0.add 3).block) ∧
  ∃ i1 : Int, Cells w0 (p0.add 3) [.int .i64 i1] ∧
  ∀ k1 : Nat, ∀ w1 : World, w0.heap.size ≤ k1 → k1 < w1.heap.size → Only [] w0 w1 → ∃ i2 : Int, Cells w1 (r.add 1) [.int .i64 i2] ∧
  ∃ k2 : Nat, ∃ k3 : Nat, ∃ z0 : List Value, ∃ k4 : Nat, (r.add 1) = ⟨k2, k3, none⟩ ∧
  Blk w1 k2 k4 z0 ∧
  (k3 + 1) ≤ z0.length ∧
  k0 ≠ k2 ∧
  k1 ≠ k2 ∧
  ∀ w2 : World, Only [k2] w1 w2 → Blk w2 k2 k4 (splice z0 k3 [.int .i64 (IntKind.wrap .i64 (i2 + 1))]) → Calls Tryz.prog 158 #[.pointer (some r), .string (ByteArray.mk #[40])] w2 fun e0 w3 => e0 = (.returned (.tuple #[])) ∧
   Same [k0, k1] w2 w3 ∧
   ∃ i3 : Int, Cells w3 ((r.add 3).add 0) [.int .i64 i3] ∧
   ((i3 != 0) = true → ∀ w4 : World, Only [k0] w3 w4 → R (.agg #[.int .i64 3, .int .i64 0, .string (ByteArray.mk #[]), .int .i64 0, Sl.nil.v, .int .i64 i1]) w4) ∧
   ((i3 != 0) = false → ∃ l1 : Sl, Cells w3 (r.add 0) [l1.v] ∧
   ∃ i4 : Int, Cells w3 (r.add 1) [.int .i64 i4] ∧
   ∃ p1 : Addr, SlAt l1 i4 4 p1 ∧
   ∃ i5 : Int, Cells w3 (p1.add 0) [.int .i64 i5] ∧
   ((i5 != 1) = true → ∀ w5 : World, Only [] w3 w5 → Calls Tryz.prog 160 #[.pointer (some r)] w5 fun e1 w6 => e1 = (.returned (.tuple #[])) ∧
     Same [k0, k1] w5 w6 ∧
     ∀ w7 : World, Only [k0] w6 w7 → R (.agg #[.int .i64 3, .int .i64 0, .string (ByteArray.mk #[]), .int .i64 0, Sl.nil.v, .int .i64 i1]) w7) ∧
   ((i5 != 1) = false → ∀ w8 : World, Only [] w3 w8 → ∃ l2 : Sl, Cells w8 (r.add 0) [l2.v] ∧
   ∃ i6 : Int, Cells w8 (r.add 1) [.int .i64 i6] ∧
   ∃ p2 : Addr, SlAt l2 i6 4 p2 ∧
   ∃ s0 : ByteArray, Cells w8 (p2.add 1) [.string s0] ∧
   ∀ w9 : World, Only [k1] w8 w9 → ∃ i7 : Int, Cells w9 (r.add 1) [.int .i64 i7] ∧
   ∃ k5 : Nat, ∃ k6 : Nat, ∃ z1 : List Value, ∃ k7 : Nat, (r.add 1) = ⟨k5, k6, none⟩ ∧
   Blk w9 k5 k7 z1 ∧
   (k6 + 1) ≤ z1.length ∧
   k0 ≠ k5 ∧
   k1 ≠ k5 ∧
   ∀ w10 : World, Only [k5] w9 w10 → Blk w10 k5 k7 (splice z1 k6 [.int .i64 (IntKind.wrap .i64 (i7 + 1))]) → Calls Tryz.prog 158 #[.pointer (some r), .string (ByteArray.mk #[41])] w10 fun e2 w11 => e2 = (.returned (.tuple #[])) ∧
    Same [k0, k1] w10 w11 ∧
    ∀ w12 : World, Only [k0] w11 w12 → R (.agg #[.int .i64 3, .int .i64 0, .string s0, .int .i64 0, Sl.nil.v, .int .i64 i1]) w12))
theorem pavaneref05_reader_in_wp (r : Addr) (R : Value → World → Prop) (w : World) (h : pavaneref05_reader_in_vc r R w) : Calls Tryz.prog 159 #[.pointer (some r)] w fun e w' => ∃ v, e = .returned v ∧ R v w' :=
  fn_by (an := .s .o (.s .o (.s .o (.s .o (.s (.s .o (.s (.s .o .o) .o)) (.s (.s .o (.s (.s .o (.s .o .o)) .o)) (.s .o (.s .o (.s .o (.s .o .o)))))))))) (args := [.ad r]) Tryz.checked.mixed (by kernel_rfl) (by kernel_rfl) h
def pavaneref05_reader_wrong_vc (r : Addr) (R : Value → World → Prop) (w : World) : Prop :=
  ∃ l0 : Sl, Cells w (r.add 0) [l0.v] ∧
  ∃ i0 : Int, Cells w (r.add 1) [.int .i64 i0] ∧
  ∃ p0 : Addr, SlAt l0 i0 4 p0 ∧
  ∃ i1 : Int, Cells w (p0.add 0) [.int .i64 i1] ∧
  ((i1 == 5) = true → ∀ w0 : World, Only [] w w0 → Calls Tryz.prog 167 #[.pointer (some r), .int .i64 3] w0 fun e0 w1 => e0 = (.returned (.tuple #[])) ∧
    R (.tuple #[]) w1) ∧
  ((i1 == 5) = false → ∀ w2 : World, Only [] w w2 → Calls Tryz.prog 167 #[.pointer (some r), .int .i64 4] w2 fun e1 w3 => e1 = (.returned (.tuple #[])) ∧
   R (.tuple #[]) w3)
theorem pavaneref05_reader_wrong_wp (r : Addr) (R : Value → World → Prop) (w : World) (h : pavaneref05_reader_wrong_vc r R w) : Calls Tryz.prog 160 #[.pointer (some r)] w fun e w' => ∃ v, e = .returned v ∧ R v w' :=
  fn_by (an := .s (.s .o (.s (.s .o .o) .o)) .o) (args := [.ad r]) Tryz.checked.mixed (by kernel_rfl) (by kernel_rfl) h
def pavaneref05_rows_vc (R : Value → World → Prop) (w : World) : Prop :=
  ∃ l0 : Sl, ∃ w0 : World, ((Instr.buildSlice 25 1 #[.mk 0 (.string (ByteArray.mk #[124, 124]))]).run Tryz.prog w) = (.ok l0.v w0) ∧
  ∃ l1 : Sl, ∃ w1 : World, ((Instr.buildSlice 25 1 #[.mk 0 (.string (ByteArray.mk #[38, 38]))]).run Tryz.prog w0) = (.ok l1.v w1) ∧
  ∃ l2 : Sl, ∃ w2 : World, ((Instr.buildSlice 25 2 #[.mk 0 (.string (ByteArray.mk #[61, 61])), .mk 1 (.string (ByteArray.mk #[33, 61]))]).run Tryz.prog w1) = (.ok l2.v w2) ∧
  ∃ l3 : Sl, ∃ w3 : World, ((Instr.buildSlice 25 4 #[.mk 0 (.string (ByteArray.mk #[60])), .mk 1 (.string (ByteArray.mk #[60, 61])), .mk 2 (.string (ByteArray.mk #[62])), .mk 3 (.string (ByteArray.mk #[62, 61]))]).run Tryz.prog w2) = (.ok l3.v w3) ∧
  ∃ l4 : Sl, ∃ w4 : World, ((Instr.buildSlice 25 2 #[.mk 0 (.string (ByteArray.mk #[43])), .mk 1 (.string (ByteArray.mk #[45]))]).run Tryz.prog w3) = (.ok l4.v w4) ∧
  ∃ l5 : Sl, ∃ w5 : World, ((Instr.buildSlice 25 3 #[.mk 0 (.string (ByteArray.mk #[42])), .mk 1 (.string (ByteArray.mk #[47])), .mk 2 (.string (ByteArray.mk #[37]))]).run Tryz.prog w4) = (.ok l5.v w5) ∧
  ∃ l6 : Sl, ∃ w6 : World, ((Instr.buildSlice 192 6 #[.mk 0 l0.v, .mk 1 l1.v, .mk 2 l2.v, .mk 3 l3.v, .mk 4 l4.v, .mk 5 l5.v]).run Tryz.prog w5) = (.ok l6.v w6) ∧
  R l6.v w6
theorem pavaneref05_rows_wp (R : Value → World → Prop) (w : World) (h : pavaneref05_rows_vc R w) : Calls Tryz.prog 161 #[] w fun e w' => ∃ v, e = .returned v ∧ R v w' :=
  fn_by (an := .s .o (.s .o .o)) (args := []) Tryz.checked.mixed (by kernel_rfl) (by kernel_rfl) h
def pavaneref05_numbers_vc (R : Value → World → Prop) (w : World) : Prop :=
  ∃ l0 : Sl, ∃ w0 : World, ((Instr.buildSlice 26 1 #[.mk 0 (.int .i64 13)]).run Tryz.prog w) = (.ok l0.v w0) ∧
  ∃ l1 : Sl, ∃ w1 : World, ((Instr.buildSlice 26 1 #[.mk 0 (.int .i64 12)]).run Tryz.prog w0) = (.ok l1.v w1) ∧
  ∃ l2 : Sl, ∃ w2 : World, ((Instr.buildSlice 26 2 #[.mk 0 (.int .i64 10), .mk 1 (.int .i64 11)]).run Tryz.prog w1) = (.ok l2.v w2) ∧
  ∃ l3 : Sl, ∃ w3 : World, ((Instr.buildSlice 26 4 #[.mk 0 (.int .i64 6), .mk 1 (.int .i64 7), .mk 2 (.int .i64 8), .mk 3 (.int .i64 9)]).run Tryz.prog w2) = (.ok l3.v w3) ∧
  ∃ l4 : Sl, ∃ w4 : World, ((Instr.buildSlice 26 2 #[.mk 0 (.int .i64 1), .mk 1 (.int .i64 2)]).run Tryz.prog w3) = (.ok l4.v w4) ∧
  ∃ l5 : Sl, ∃ w5 : World, ((Instr.buildSlice 26 3 #[.mk 0 (.int .i64 3), .mk 1 (.int .i64 4), .mk 2 (.int .i64 5)]).run Tryz.prog w4) = (.ok l5.v w5) ∧
  ∃ l6 : Sl, ∃ w6 : World, ((Instr.buildSlice 194 6 #[.mk 0 l0.v, .mk 1 l1.v, .mk 2 l2.v, .mk 3 l3.v, .mk 4 l4.v, .mk 5 l5.v]).run Tryz.prog w5) = (.ok l6.v w6) ∧
  R l6.v w6
theorem pavaneref05_numbers_wp (R : Value → World → Prop) (w : World) (h : pavaneref05_numbers_vc R w) : Calls Tryz.prog 162 #[] w fun e w' => ∃ v, e = .returned v ∧ R v w' :=
  fn_by (an := .s .o (.s .o .o)) (args := []) Tryz.checked.mixed (by kernel_rfl) (by kernel_rfl) h
def pavaneref05_reader_stop_vc (r : Addr) (e_ : Int) (R : Value → World → Prop) (w : World) : Prop :=
  ∃ i0 : Int, Cells w ((r.add 3).add 0) [.int .i64 i0] ∧
  ((i0 == 0) = true → ∀ w0 : World, Only [] w w0 → ∃ l0 : Sl, Cells w0 (r.add 0) [l0.v] ∧
   ∃ i1 : Int, Cells w0 (r.add 1) [.int .i64 i1] ∧
   ∃ p0 : Addr, SlAt l0 i1 4 p0 ∧
   ∃ i2 : Int, Cells w0 (p0.add 3) [.int .i64 i2] ∧
   ∃ k0 : Nat, ∃ k1 : Nat, ∃ z0 : List Value, ∃ k2 : Nat, (r.add 3) = ⟨k0, k1, none⟩ ∧
   Blk w0 k0 k2 z0 ∧
   (k1 + 2) ≤ z0.length ∧
   ∀ w1 : World, Only [k0] w0 w1 → Blk w1 k0 k2 (splice z0 k1 [.int .i64 e_, .int .i64 i2]) → R (.tuple #[]) w1) ∧
  ((i0 == 0) = false → R (.tuple #[]) w)
theorem pavaneref05_reader_stop_wp (r : Addr) (e_ : Int) (R : Value → World → Prop) (w : World) (h : pavaneref05_reader_stop_vc r e_ R w) : Calls Tryz.prog 167 #[.pointer (some r), .int .i64 e_] w fun e w' => ∃ v, e = .returned v ∧ R v w' :=
  fn_by (an := .s .o (.s .o .o)) (args := [.ad r, .int .i64 e_]) Tryz.checked.mixed (by kernel_rfl) (by kernel_rfl) h
end Go.Proofs.YtmanockofcopjaaGreatDoor.Vc
