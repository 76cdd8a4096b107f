
/-
 Own work, printed by a program of ours (vlay.py): of each Go function what is to be shown of a call ('.._vc'), and that it suffices ('.._wp'). Nothing is assumed.
-/
import Derived.Test.YtmanockofcopjaaGreatDoorV13
import Derived.Test.YtmanockofcopjaaGreatDoorRows
namespace Go.Proofs.YtmanockofcopjaaGreatDoor.Vc
open Go Go.RowKit Go.Kt Go.Kt.V
set_option linter.unusedVariables false
set_option maxRecDepth 100000
set_option maxHeartbeats 40000000
def syntax_reader_until_vc (r : Addr) (sign : ByteArray) (read : OV) (R : Value → World → Prop) (w : World) : Prop :=
 ∃ J0 : Nat → World → Prop, ∃ k0 : Nat, J0 k0 w ∧
 ∀ k1 : Nat, ∀ w0 : World, J0 k1 w0 → ∃ J1 : Bool → World → Prop, (∀ b0 : Bool, ∀ w1 : World, J1 b0 w1 → (b0 = true → ∃ k2 : Nat, ∃ z0 : List Value, ∃ z1 : List Value, read.v = (.func (.func k2) z0.toArray z1.toArray) ∧
 (∀ x0 : Array Value, ∀ w2 : World, ((callFunc k2 x0).run Tryz.prog w2) = (.ok (.enter k2 x0) w2)) ∧
 Calls Tryz.prog k2 ((cat (cat z0 []) z1).toArray) w1 fun e0 w3 => e0 = (.returned (.tuple #[])) ∧
 ∃ k3 : Nat, k3 < k1 ∧
 J0 k3 w3) ∧
 (b0 = false → R (.tuple #[]) w1)) ∧
 Calls Tryz.prog 34 #[.pointer (some (r.add 0))] w0 fun e1 w4 => ∃ b1 : Bool, e1 = (.returned (.bool b1)) ∧
 (b1 = true → ∃ l0 : Sl, ∃ w5 : World, ((Instr.buildSlice 25 1 #[.mk 0 (.string sign)]).run Tryz.prog w4) = (.ok l0.v w5) ∧
 Calls Tryz.prog 31 #[.pointer (some (r.add 0)), l0.v] w5 fun e2 w6 => ∃ i0 : Int, e2 = (.returned (.int .i64 i0)) ∧
 J1 (i0 == 0) w6) ∧
 (b1 = false → J1 false w4)
theorem syntax_reader_until_wp (r : Addr) (sign : ByteArray) (read : OV) (R : Value → World → Prop) (w : World) (h : syntax_reader_until_vc r sign read R w) : Calls Tryz.prog 122 #[.pointer (some r), .string sign, read.v] w fun e w' => ∃ v, e = .returned v ∧ R v w' :=
 fn_by (an := .j [0, 1, 2] [] (.s (.s (.j [0, 1, 2] [.s 18 .bool] .o .o) (.s .o .o)) .o) .o) (args := [.ad r, .str sign, .raw read]) Tryz.checked.mixed (by kernel_rfl) (by kernel_rfl) h
def syntax_reader_block_1_vc (ccap0 ccap1 : Addr) (R : Value → World → Prop) (w : World) : Prop :=
 ∀ w0 : World, Only [] w w0 → ∃ J0 : Nat → Prop, J0 ccap0.block ∧
 ∃ l0 : Sl, Cells w0 ccap0 [l0.v] ∧
 ∃ q0 : Option Addr, Cells w0 ccap1 [.pointer q0] ∧
 Calls Tryz.prog 124 #[.pointer q0] w0 fun e0 w1 => ∃ i0 : Int, ∃ s0 : ByteArray, ∃ i1 i2 : Int, ∃ s1 : ByteArray, ∃ i3 : Int, ∃ l1 : Sl, ∃ i4 i5 : Int, e0 = (.returned (.agg #[.int .i64 i0, .string s0, .int .i64 i1, .int .i64 i2, .string s1, .int .i64 i3, l1.v, .int .i64 i4, .int .i64 i5])) ∧
 Keeps J0 w0 w1 ∧
 ∃ l2 : Sl, ∃ w2 : World, ((Instr.buildSlice 41 1 #[.mk 0 (.agg #[.int .i64 i0, .string s0, .int .i64 i1, .int .i64 i2, .string s1, .int .i64 i3, l1.v, .int .i64 i4, .int .i64 i5])]).run Tryz.prog w1) = (.ok l2.v w2) ∧
 Keeps J0 w1 w2 ∧
 ∃ l3 : Sl, ∃ w3 : World, ((Builtin.append_ #[41, 41] 41 #[l0.v, l2.v]).run Tryz.prog w2) = (.ok l3.v w3) ∧
 Keeps J0 w2 w3 ∧
 ∃ k0 k1 : Nat, ∃ z0 : List Value, ∃ k2 : Nat, ccap0 = ⟨k0, k1, none⟩ ∧
 Blk w3 k0 k2 z0 ∧
 (k1 + 1) ≤ z0.length ∧
 ∀ w4 : World, Only [k0] w3 w4 → Blk w4 k0 k2 (splice z0 k1 [l3.v]) → R (.tuple #[]) w4
theorem syntax_reader_block_1_wp (ccap0 ccap1 : Addr) (R : Value → World → Prop) (w : World) (h : syntax_reader_block_1_vc ccap0 ccap1 R w) : Calls Tryz.prog 123 #[.pointer (some ccap0), .pointer (some ccap1)] w fun e w' => ∃ v, e = .returned v ∧ R v w' :=
 fn_by (an := .o) (args := [.ad ccap0, .ad ccap1]) Tryz.checked.mixed (by kernel_rfl) (by kernel_rfl) h
def syntax_reader_act_vc (r : Addr) (R : Value → World → Prop) (w : World) : Prop :=
 ∀ k0 : Nat, ∀ w0 : World, w.heap.size ≤ k0 → k0 < w0.heap.size → Only [] w w0 → ∃ J0 : Nat → Prop, ∀ w1 : World, Only [] w0 w1 → J0 (((r.add 0).add 0).block) ∧
 ∃ l0 : Sl, Cells w1 ((r.add 0).add 0) [l0.v] ∧
 ∀ w2 : World, Only [] w1 w2 → J0 (((r.add 0).add 1).block) ∧
 ∃ i0 : Int, Cells w2 ((r.add 0).add 1) [.int .i64 i0] ∧
 ∃ p0 : Addr, SlAt l0 i0 4 p0 ∧
 ∀ w3 : World, Only [] w2 w3 → J0 ((p0.add 3).block) ∧
 ∃ i1 : Int, Cells w3 (p0.add 3) [.int .i64 i1] ∧
 ∀ w4 : World, Only [] w3 w4 → ∃ l1 : Sl, ∃ w5 : World, ((Instr.buildSlice 25 3 #[.mk 0 (.string (ByteArray.mk #[115, 101, 116])), .mk 1 (.string (ByteArray.mk #[114, 97, 105, 115, 101])), .mk 2 (.string (ByteArray.mk #[101, 109, 105, 116]))]).run Tryz.prog w4) = (.ok l1.v w5) ∧
 Same [k0] w4 w5 ∧
 Newer w0 w4 w5 ∧
 Keeps J0 w4 w5 ∧
 ∀ w6 : World, Only [] w5 w6 → Calls Tryz.prog 64 #[.pointer (some (r.add 0)), l1.v] w6 fun e0 w7 => ∃ i2 : Int, e0 = (.returned (.int .i64 i2)) ∧
 Same [k0] w6 w7 ∧
 Newer w0 w6 w7 ∧
 Keeps J0 w6 w7 ∧
 ∀ w8 : World, Only [] w7 w8 → ∀ k1 : Nat, w0.heap.size ≤ k1 → k1 < w8.heap.size → Apart [.mk w6.heap.size w7.heap.size, .mk w4.heap.size w5.heap.size] k1 → ((i2 == 0) = true → ∀ w9 : World, Only [k1] w8 w9 → Calls Tryz.prog 35 #[.pointer (some (r.add 0))] w9 fun e1 w10 => e1 = (.returned (.tuple #[])) ∧
 Same [k0, k1] w9 w10 ∧
 ∀ w11 : World, Only [k0] w10 w11 → R (.agg #[.int .i64 i2, .string (ByteArray.mk #[]), .int .i64 0, .int .i64 0, .string (ByteArray.mk #[]), .int .i64 0, Sl.nil.v, .int .i64 0, .int .i64 i1]) w11) ∧
 ((i2 == 0) = false → ∀ w12 : World, Only [k1] w8 w12 → Calls Tryz.prog 61 #[.pointer (some r), .pointer (some ((r.add 4).add 4)), .int .i64 2] w12 fun e2 w13 => e2 = (.returned (.tuple #[])) ∧
 Same [k0, k1] w12 w13 ∧
 Calls Tryz.prog 34 #[.pointer (some (r.add 0))] w13 fun e3 w14 => ∃ b0 : Bool, e3 = (.returned (.bool b0)) ∧
 Same [k0, k1] w13 w14 ∧
 ((!b0) = true → ∀ w15 : World, Only [k0] w14 w15 → R (.agg #[.int .i64 i2, .string (ByteArray.mk #[]), .int .i64 0, .int .i64 0, .string (ByteArray.mk #[]), .int .i64 0, Sl.nil.v, .int .i64 0, .int .i64 i1]) w15) ∧
 ((!b0) = false → ∃ i3 : Int, Cells w14 ((r.add 0).add 1) [.int .i64 i3] ∧
 ∃ k2 k3 : Nat, ∃ z0 : List Value, ∃ k4 : Nat, ((r.add 0).add 1) = ⟨k2, k3, none⟩ ∧
 Blk w14 k2 k4 z0 ∧
 (k3 + 1) ≤ z0.length ∧
 k0 ≠ k2 ∧
 k1 ≠ k2 ∧
 ∀ w16 : World, Only [k2] w14 w16 → Blk w16 k2 k4 (splice z0 k3 [.int .i64 (IntKind.wrap .i64 (i3 + 1))]) → Calls Tryz.prog 108 #[.pointer (some (r.add 0))] w16 fun e4 w17 => ∃ s0 : ByteArray, e4 = (.returned (.string s0)) ∧
 Same [k0, k1] w16 w17 ∧
 ∀ w18 : World, Only [k1] w17 w18 → ∃ J1 : Int → ByteArray → Int → Int → ByteArray → Int → Sl → Int → Int → World → Prop, (∀ i4 : Int, ∀ s1 : ByteArray, ∀ i5 i6 : Int, ∀ s2 : ByteArray, ∀ i7 : Int, ∀ l2 : Sl, ∀ i8 i9 : Int, ∀ w19 : World, J1 i4 s1 i5 i6 s2 i7 l2 i8 i9 w19 → ∃ l3 : Sl, ∃ w20 : World, ((Instr.buildSlice 25 1 #[.mk 0 (.string (ByteArray.mk #[59]))]).run Tryz.prog w19) = (.ok l3.v w20) ∧
 Same [k0, k1] w19 w20 ∧
 Calls Tryz.prog 29 #[.pointer (some (r.add 0)), l3.v] w20 fun e5 w21 => e5 = (.returned (.tuple #[])) ∧
 Same [k0, k1] w20 w21 ∧
 ∀ w22 : World, Only [k0] w21 w22 → R (.agg #[.int .i64 i4, .string s1, .int .i64 i5, .int .i64 i6, .string s2, .int .i64 i7, l2.v, .int .i64 i8, .int .i64 i9]) w22) ∧
 ((i2 != 2) = true → ∃ l4 : Sl, ∃ w23 : World, ((Instr.buildSlice 25 1 #[.mk 0 (.string (ByteArray.mk #[61]))]).run Tryz.prog w18) = (.ok l4.v w23) ∧
 Same [k0, k1] w18 w23 ∧
 Calls Tryz.prog 29 #[.pointer (some (r.add 0)), l4.v] w23 fun e6 w24 => e6 = (.returned (.tuple #[])) ∧
 Same [k0, k1] w23 w24 ∧
 Calls Tryz.prog 121 #[.pointer (some (r.add 0))] w24 fun e7 w25 => ∃ i10 i11 : Int, ∃ s3 : ByteArray, ∃ i12 : Int, ∃ l5 : Sl, ∃ i13 : Int, e7 = (.returned (.agg #[.int .i64 i10, .int .i64 i11, .string s3, .int .i64 i12, l5.v, .int .i64 i13])) ∧
 Same [k0, k1] w24 w25 ∧
 ∀ w26 : World, Only [k1] w25 w26 → J1 i2 s0 i10 i11 s3 i12 l5 i13 i1 w26) ∧
 ((i2 != 2) = false → J1 i2 s0 0 0 (ByteArray.mk #[]) 0 Sl.nil 0 i1 w18)))
theorem syntax_reader_act_wp (r : Addr) (R : Value → World → Prop) (w : World) (h : syntax_reader_act_vc r R w) : Calls Tryz.prog 124 #[.pointer (some r)] w fun e w' => ∃ v, e = .returned v ∧ R v w' :=
 fn_by (an := .s .o (.s (.l false [] []) (.s (.s .o (.s (.s .o (.s .o .o)) .o)) (.s (.s .o (.s .o (.s (.s .o .o) .o))) (.s .o (.s .o (.j [0, 2, 3] [.b 3 [.int .i64, .str, .int .i64, .int .i64, .str, .int .i64, .sl, .int .i64, .int .i64]] (.s .o (.s (.s .o .o) .o)) (.s .o (.s .o .o))))))))) (args := [.ad r]) Tryz.checked.mixed (by kernel_rfl) (by kernel_rfl) h
end Go.Proofs.YtmanockofcopjaaGreatDoor.Vc
