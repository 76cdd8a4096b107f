
/-
 Own work, printed by a program of ours (vlay.py): of each Go function what is to be shown of a call ('.._vc'), and that it suffices ('.._wp'). Nothing is assumed.
-/
import Derived.Test.YtmanockofcopjaaGreatDoorV13
import Derived.Test.YtmanockofcopjaaGreatDoorRows
namespace Go.Proofs.YtmanockofcopjaaGreatDoor.Vc
open Go Go.RowKit Go.Kt Go.Kt.V
set_option linter.unusedVariables false
set_option maxRecDepth 100000
set_option maxHeartbeats 40000000
def syntax_reader_until_vc (r : Addr) (sign : ByteArray) (read : OV) (R : Value → World → Prop) (w : World) : Prop :=
 ∃ J0 : Nat → World → Prop, ∃ k0 : Nat, J0 k0 w ∧
 ∀ k1 : Nat, ∀ w0 : World, J0 k1 w0 → ∃ J1 : Bool → World → Prop, (∀ b0 : Bool, ∀ w1 : World, J1 b0 w1 → (b0 = true → ∃ k2 : Nat, ∃ z0 : List Value, ∃ z1 : List Value, read.v = (.func (.func k2) z0.toArray z1.toArray) ∧
 (∀ x0 : Array Value, ∀ w2 : World, ((callFunc k2 x0).run Tryz.prog w2) = (.ok (.enter k2 x0) w2)) ∧
 Calls Tryz.prog k2 ((cat (cat z0 []) z1).toArray) w1 fun e0 w3 => e0 = (.returned (.tuple #[])) ∧
 ∃ k3 : Nat, k3 < k1 ∧
 J0 k3 w3) ∧
 (b0 = false → R (.tuple #[]) w1)) ∧
 Calls Tryz.prog 34 #[.pointer (some (r.add 0))] w0 fun e1 w4 => ∃ b1 : Bool, e1 = (.returned (.bool b1)) ∧
 (b1 = true → ∃ l0 : Sl, ∃ w5 : World, ((Instr.buildSlice 25 1 #[.mk 0 (.string sign)]).run Tryz.prog w4) = (.ok l0.v w5) ∧
 Calls Tryz.prog 31 #[.pointer (some (r.add 0)), l0.v] w5 fun e2 w6 => ∃ i0 : Int, e2 = (.returned (.int .i64 i0)) ∧
 J1 (i0 == 0) w6) ∧
 (b1 = false → J1 false w4)
theorem syntax_reader_until_wp (r : Addr) (sign : ByteArray) (read : OV) (R : Value → World → Prop) (w : World) (h : syntax_reader_until_vc r sign read R w) : Calls Tryz.prog 122 #[.pointer (some r), .string sign, read.v] w fun e w' => ∃ v, e = .returned v ∧ R v w' :=
 fn_by (an := .j [0, 1, 2] [] (.s (.s (.j [0, 1, 2] [.s 18 .bool] .o .o) (.s .o .o)) .o) .o) (args := [.ad r, .str sign, .raw read]) Tryz.checked.mixed (by kernel_rfl) (by kernel_rfl) h
def syntax_reader_block_1_vc (ccap0 ccap1 : Addr) (R : Value → World → Prop) (w : World) : Prop :=
 ∀ w0 : World, Only [] w w0 → ∃ J0 : Nat → Prop, J0 ccap0.block ∧
 ∃ l0 : Sl, Cells w0 ccap0 [l0.v] ∧
 ∃ q0 : Option Addr, Cells w0 ccap1 [.pointer q0] ∧
 Calls Tryz.prog 124 #[.pointer q0] w0 fun e0 w1 => ∃ i0 : Int, ∃ s0 : ByteArray, ∃ i1 i2 : Int, ∃ s1 : ByteArray, ∃ i3 : Int, ∃ l1 : Sl, ∃ i4 i5 : Int, e0 = (.returned (.agg #[.int .i64 i0, .string s0, .int .i64 i1, .int .i64 i2, .string s1, .int .i64 i3, l1.v, .int .i64 i4, .int .i64 i5])) ∧
 Keeps J0 w0 w1 ∧
 ∃ l2 : Sl, ∃ w2 : World, ((Instr.buildSlice 41 1 #[.mk 0 (.agg #[.int .i64 i0, .string s0, .int .i64 i1, .int .i64 i2, .string s1, .int .i64 i3, l1.v, .int .i64 i4, .int .i64 i5])]).run Tryz.prog w1) = (.ok l2.v w2) ∧
 Keeps J0 w1 w2 ∧
 ∃ l3 : Sl, ∃ w3 : World, ((Builtin.append_ #[41, 41] 41 #[l0.v, l2.v]).run Tryz.prog w2) = (.ok l3.v w3) ∧
 Keeps J0 w2 w3 ∧
 ∃ k0 k1 : Nat, ∃ z0 : List Value, ∃ k2 : Nat, ccap0 = ⟨k0, k1, none⟩ ∧
 Blk w3 k0 k2 z0 ∧
 (k1 + 1) ≤ z0.length ∧
 ∀ w4 : World, Only [k0] w3 w4 → Blk w4 k0 k2 (splice z0 k1 [l3.v]) → R (.tuple #[]) w4
theorem syntax_reader_block_1_wp (ccap0 ccap1 : Addr) (R : Value → World → Prop) (w : World) (h : syntax_reader_block_1_vc ccap0 ccap1 R w) : Calls Tryz.prog 123 #[.pointer (some ccap0), .pointer (some ccap1)] w fun e w' => ∃ v, e = .returned v ∧ R v w' :=
 fn_by (an := .o) (args := [.ad ccap0, .ad ccap1]) Tryz.checked.mixed (by kernel_rfl) (by kernel_rfl) h
def syntax_reader_act_vc (r : Addr) (R : Value → World → Prop) (w : World) : Prop :=
 ∀ k0 : Nat, ∀ w0 : World, w.heap.size ≤ k0 → k0 < w0.heap.size → Only [] w w0 → ∃ J0 : Nat → Prop, ∀ w1 : World, Only [] w0 w1 → J0 (((r.add 0).add 0).block) ∧
 ∃ l0 : Sl, Cells w1 ((r.add 0).add 0) [l0.v] ∧
 ∀ w2 : World, Only [] w1 w2 → J0 (((r.add 0).add 1).block) ∧
 ∃ i0 : Int, Cells w2 ((r.add 0).add 1) [.int .i64 i0] ∧
 ∃ p0 : Addr, SlAt l0 i0 4 p0 ∧
 ∀ w3 : World, Only [] w2 w3 → J0 ((p0.add 3).block) ∧
 ∃ i1 : Int, Cells w3 (p0.add 3) [.int .i64 i1] ∧
 ∀ w4 : World, Only [] w3 w4 → ∃ l1 : Sl, ∃ w5 : World, ((Instr.buildSlice 25 3 #[.mk 0 (.string (ByteArray.mk #[115, 101, 116])), .mk 1 (.string (ByteArray.mk #[114, 97, 105, 115, 101])), .mk 2 (.string (ByteArray.mk #[101, 109, 105, 116]))]).run Tryz.prog w4) = (.ok l1.v w5) ∧
 Same [k0] w4 w5 ∧
 Newer w0 w4 w5 ∧
 Keeps J0 w4 w5 ∧
 ∀ w6 : World, Only [] w5 w6 → Calls Tryz.prog 64 #[.pointer (some (r.add 0)), l1.v] w6 fun e0 w7 => ∃ i2 : Int, e0 = (.returned (.int .i64 i2)) ∧
 Same [k0] w6 w7 ∧
 Newer w0 w6 w7 ∧
 Keeps J0 w6 w7 ∧
 ∀ w8 : World, Only [] w7 w8 → ∀ k1 : Nat, w0.heap.size ≤ k1 → k1 < w8.heap.size → Apart [.mk w6.heap.size w7.heap.size, .mk w4.heap.size w5.heap.size] k1 → ((i2 == 0) = true → ∀ w9 : World, Only [k1] w8 w9 → Calls Tryz.prog 35 #[.pointer (some (r.add 0))] w9 fun e1 w10 => e1 = (.returned (.tuple #[])) ∧
 Same [k0, k1] w9 w10 ∧
 ∀ w11 : World, Only [k0] w10 w11 → R (.agg #[.int .i64 i2, .string (ByteArray.mk #[]), .int .i64 0, .int .i64 0, .string (ByteArray.mk #[]), .int .i64 0, Sl.nil.v, .int .i64 0, .int .i64 i1]) w11) ∧
 ((i2 == 0) = false → ∀ w12 : World, Only [k1] w8 w12 → Calls Tryz.prog 61 #[.pointer (some r), .pointer (some ((r.add 4).add 4)), .int .i64 2] w12 fun e2 w13 => e2 = (.returned (.tuple #[])) ∧
 Same [k0, k1] w12 w13 ∧
 Calls Tryz.prog 34 #[.pointer (some (r.add 0))] w13 fun e3 w14 => ∃ b0 : Bool, e3 = (.returned (.bool b0)) ∧
 Same [k0, k1] w13 w14 ∧
 ((!b0) = true → ∀ w15 : World, Only [k0] w14 w15 → R (.agg #[.int .i64 i2, .string (ByteArray.mk #[]), .int .i64 0, .int .i64 0, .string (ByteArray.mk #[]), .int .i64 0, Sl.nil.v, .int .i64 0, .int .i64 i1]) w15) ∧
 ((!b0) = false → ∃ i3 : Int, Cells w14 ((r.add 0).add 1) [.int .i64 i3] ∧
 ∃ k2 k3 : Nat, ∃ z0 : List Value, ∃ k4 : Nat, ((r.add 0).add 1) = ⟨k2, k3, none⟩ ∧
 Blk w14 k2 k4 z0 ∧
 (k3 + 1) ≤ z0.length ∧
 k0 ≠ k2 ∧
 k1 ≠ k2 ∧
 ∀ w16 : World, Only [k2] w14 w16 → Blk w16 k2 k4 (splice z0 k3 [.int .i64 (IntKind.wrap .i64 (i3 + 1))]) → Calls Tryz.prog 108 #[.pointer (some (r.add 0))] w16 fun e4 w17 => ∃ s0 : ByteArray, e4 = (.returned (.string s0)) ∧
 Same [k0, k1] w16 w17 ∧
 ∀ w18 : World, Only [k1] w17 w18 → ∃ J1 : Int → ByteArray → Int → Int → ByteArray → Int → Sl → Int → Int → World → Prop, (∀ i4 : Int, ∀ s1 : ByteArray, ∀ i5 i6 : Int, ∀ s2 : ByteArray, ∀ i7 : Int, ∀ l2 : Sl, ∀ i8 i9 : Int, ∀ w19 : World, J1 i4 s1 i5 i6 s2 i7 l2 i8 i9 w19 → ∃ l3 : Sl, ∃ w20 : World, ((Instr.buildSlice 25 1 #[.mk 0 (.string (ByteArray.mk #[59]))]).run Tryz.prog w19) = (.ok l3.v w20) ∧
 Same [k0, k1] w19 w20 ∧
 Calls Tryz.prog 29 #[.pointer (some (r.add 0)), l3.v] w20 fun e5 w21 => e5 = (.returned (.tuple #[])) ∧
 Same [k0, k1] w20 w21 ∧
 ∀ w22 : World, Only [k0] w21 w22 → R (.agg #[.int .i64 i4, .string s1, .int .i64 i5, .int .i64 i6, .string s2, .int .i64 i7, l2.v, .int .i64 i8, .int .i64 i9]) w22) ∧
 ((i2 != 2) = true → ∃ l4 : Sl, ∃ w23 : World, ((Instr.buildSlice 25 1 #[.mk 0 (.string (ByteArray.mk #[61]))]).run Tryz.prog w18) = (.ok l4.v w23) ∧
 Same [k0, k1] w18 w23 ∧
 Calls Tryz.prog 29 #[.pointer (some (r.add 0)), l4.v] w23 fun e6 w24 => e6 = (.returned (.tuple #[])) ∧
 Same [k0, k1] w23 w24 ∧
 Calls Tryz.prog 121 #[.pointer (some (r.add 0))] w24 fun e7 w25 => ∃ i10 i11 : Int, ∃ s3 : ByteArray, ∃ i12 : Int, ∃ l5 : Sl, ∃ i13 : Int, e7 = (.returned (.agg #[.int .i64 i10, .int .i64 i11, .string s3, .int .i64 i12, l5.v, .int .i64 i13])) ∧
 Same [k0, k1] w24 w25 ∧
 ∀ w26 : World, Only [k1] w25 w26 → J1 i2 s0 i10 i11 s3 i12 l5 i13 i1 w26) ∧
 ((i2 != 2) = false → J1 i2 s0 0 0 (ByteArray.mk #[]) 0 Sl.nil 0 i1 w18)))
theorem syntax_reader_act_wp (r : Addr) (R : Value → World → Prop) (w : World) (h : syntax_reader_act_vc r R w) : Calls Tryz.prog 124 #[.pointer (some r)] w fun e w' => ∃ v, e = .returned v ∧ R v w' :=
 fn_by (an := .s .o (.s (.l false [] []) (.s (.s .o (.s (.s .o (.s .o .o)) .o)) (.s (.s .o (.s .o (.s (.s .o .o) .o))) (.s .o (.s .o (.j [0, 2, 3] [.b 3 [.int .i64, .str, .int .i64, .int .i64, .str, .int .i64, .sl, .int .i64, .int .i64]] (.s .o (.s (.s .o .o) .o)) (.s .o (.s .o .o))))))))) (args := [.ad r]) Tryz.checked.mixed (by kernel_rfl) (by kernel_rfl) h
def pavaneref05_Parse_vc (l : Sl) (at_ : Int) (R : Value → World → Prop) (w : World) : Prop :=
 (((decide (at_ < 0)) || (decide (at_ ≥ (l.n : Int)))) = true → ∀ k0 k1 : Nat, ∀ w0 : World, w.heap.size ≤ k0 → k0 < w0.heap.size → w.heap.size ≤ k1 → k1 < w0.heap.size → Only [] w w0 → R (.tuple #[.agg #[.int .i64 0, .int .i64 0, .string (ByteArray.mk #[]), .int .i64 0, Sl.nil.v, .int .i64 0], .int .i64 0, .agg #[.int .i64 1, .int .i64 (-1)]]) w0) ∧
 (((decide (at_ < 0)) || (decide (at_ ≥ (l.n : Int)))) = false → ∀ k2 k3 : Nat, ∀ w1 : World, w.heap.size ≤ k2 → k2 < w1.heap.size → w.heap.size ≤ k3 → k3 < w1.heap.size → Only [] w w1 → ∃ J0 : Nat → Int → Int → Int → ByteArray → Int → Sl → Int → Int → Int → World → Prop, ∃ k4 : Nat, J0 k4 0 0 0 (ByteArray.mk #[]) 0 Sl.nil 0 0 0 w1 ∧
 ∀ k5 : Nat, ∀ i0 i1 i2 : Int, ∀ s0 : ByteArray, ∀ i3 : Int, ∀ l0 : Sl, ∀ i4 i5 i6 : Int, ∀ w2 : World, J0 k5 i0 i1 i2 s0 i3 l0 i4 i5 i6 w2 → ((decide (i0 < (l.n : Int))) = true → ∃ p0 : Addr, SlAt l i0 4 p0 ∧
 ∃ i7 : Int, Cells w2 (p0.add 0) [.int .i64 i7] ∧
 ((!((i7 == 5) == (i0 == (IntKind.wrap .i64 ((l.n : Int) - 1))))) = true → ∀ w3 : World, Only [k3, k2] w2 w3 → R (.tuple #[.agg #[.int .i64 0, .int .i64 0, .string (ByteArray.mk #[]), .int .i64 0, Sl.nil.v, .int .i64 0], .int .i64 0, .agg #[.int .i64 1, .int .i64 (-1)]]) w3) ∧
 ((!((i7 == 5) == (i0 == (IntKind.wrap .i64 ((l.n : Int) - 1))))) = false → ∃ k6 : Nat, k6 < k5 ∧
 J0 k6 (IntKind.wrap .i64 (i0 + 1)) i1 i2 s0 i3 l0 i4 i5 i6 w2)) ∧
 ((decide (i0 < (l.n : Int))) = false → ∀ k7 : Nat, ∀ w4 : World, w2.heap.size ≤ k7 → k7 < w4.heap.size → Only [] w2 w4 → Blk w4 k7 178 [l.v, .int .i64 at_, .int .i64 0, .int .i64 0, .int .i64 0] → Calls Tryz.prog 139 #[.pointer (some ⟨k7, 0, none⟩), .int .i64 0] w4 fun e0 w5 => ∃ i8 i9 : Int, ∃ s1 : ByteArray, ∃ i10 : Int, ∃ l1 : Sl, ∃ i11 : Int, e0 = (.returned (.agg #[.int .i64 i8, .int .i64 i9, .string s1, .int .i64 i10, l1.v, .int .i64 i11])) ∧
 Same [k2, k3] w4 w5 ∧
 ∃ l2 : Sl, ∃ i12 i13 i14 i15 : Int, Blk w5 k7 178 [l2.v, .int .i64 i12, .int .i64 i13, .int .i64 i14, .int .i64 i15] ∧
 ((i14 != 0) = true → ∀ k8 : Nat, ∀ w6 : World, w5.heap.size ≤ k8 → k8 < w6.heap.size → Only [] w5 w6 → Blk w6 k7 178 [l2.v, .int .i64 i12, .int .i64 i13, .int .i64 i14, .int .i64 i15] → k2 ≠ k3 → k2 ≠ k7 → k2 ≠ k8 → k3 ≠ k7 → k3 ≠ k8 → k7 ≠ k8 → ∃ J1 : Nat → Prop, J1 k7 ∧
 Out J1 k2 ∧
 Out J1 k3 ∧
 ∀ w7 : World, Only [k3, k2] w6 w7 → Blk w7 k7 178 [l2.v, .int .i64 i12, .int .i64 i13, .int .i64 i14, .int .i64 i15] → R (.tuple #[.agg #[.int .i64 0, .int .i64 0, .string (ByteArray.mk #[]), .int .i64 0, Sl.nil.v, .int .i64 0], .int .i64 0, .agg #[.int .i64 i14, .int .i64 i15]]) w7) ∧
 ((i14 != 0) = false → ∀ k9 : Nat, ∀ w8 : World, w5.heap.size ≤ k9 → k9 < w8.heap.size → Only [] w5 w8 → Blk w8 k7 178 [l2.v, .int .i64 i12, .int .i64 i13, .int .i64 i14, .int .i64 i15] → k2 ≠ k3 → k2 ≠ k7 → k2 ≠ k9 → k3 ≠ k7 → k3 ≠ k9 → k7 ≠ k9 → ∃ J2 : Nat → Prop, J2 k7 ∧
 Out J2 k2 ∧
 Out J2 k3 ∧
 ∀ w9 : World, Only [k3, k2] w8 w9 → Blk w9 k7 178 [l2.v, .int .i64 i12, .int .i64 i13, .int .i64 i14, .int .i64 i15] → R (.tuple #[.agg #[.int .i64 i8, .int .i64 i9, .string s1, .int .i64 i10, l1.v, .int .i64 i11], .int .i64 i12, .agg #[.int .i64 0, .int .i64 0]]) w9)))
theorem pavaneref05_Parse_wp (l : Sl) (at_ : Int) (R : Value → World → Prop) (w : World) (h : pavaneref05_Parse_vc l at_ R w) : Calls Tryz.prog 125 #[l.v, .int .i64 at_] w fun e w' => ∃ v, e = .returned v ∧ R v w' :=
 fn_by (an := .s .o (.s (.s .o (.s (.s .o .o) .o)) (.s (.s .o (.j [0, 1, 4, 6] [.s 7 (.int .i64), .b 4 [.int .i64, .int .i64, .str, .int .i64, .sl, .int .i64], .b 6 [.int .i64, .int .i64]] (.s (.s .o (.s .o .o)) (.s (.s .o (.s (.s .o .o) .o)) .o)) .o)) (.s .o (.s .o (.s (.s .o (.s (.s .o .o) .o)) (.s .o .o))))))) (args := [.sl l, .int .i64 at_]) Tryz.checked.mixed (by kernel_rfl) (by kernel_rfl) h
def pavaneref05_reader_from_vc (r : Addr) (k : Int) (R : Value → World → Prop) (w : World) : Prop :=
 ((k == 6) = true → ∀ k0 : Nat, ∀ w0 : World, w.heap.size ≤ k0 → k0 < w0.heap.size → Only [] w w0 → Calls Tryz.prog 147 #[.pointer (some r)] w0 fun e0 w1 => ∃ i0 i1 : Int, ∃ s0 : ByteArray, ∃ i2 : Int, ∃ l0 : Sl, ∃ i3 : Int, e0 = (.returned (.agg #[.int .i64 i0, .int .i64 i1, .string s0, .int .i64 i2, l0.v, .int .i64 i3])) ∧
 Same [k0] w0 w1 ∧
 ∀ w2 : World, Only [k0] w1 w2 → R (.agg #[.int .i64 i0, .int .i64 i1, .string s0, .int .i64 i2, l0.v, .int .i64 i3]) w2) ∧
 ((k == 6) = false → ∀ k1 : Nat, ∀ w3 : World, w.heap.size ≤ k1 → k1 < w3.heap.size → Only [] w w3 → Calls Tryz.prog 139 #[.pointer (some r), .int .i64 (IntKind.wrap .i64 (k + 1))] w3 fun e1 w4 => ∃ i4 i5 : Int, ∃ s1 : ByteArray, ∃ i6 : Int, ∃ l1 : Sl, ∃ i7 : Int, e1 = (.returned (.agg #[.int .i64 i4, .int .i64 i5, .string s1, .int .i64 i6, l1.v, .int .i64 i7])) ∧
 Same [k1] w3 w4 ∧
 ∀ k2 : Nat, ∀ w5 : World, w4.heap.size ≤ k2 → k2 < w5.heap.size → Only [] w4 w5 → Calls Tryz.prog 148 #[.pointer (some r), .int .i64 k] w5 fun e2 w6 => ∃ i8 : Int, e2 = (.returned (.int .i64 i8)) ∧
 Same [k1, k2] w5 w6 ∧
 ∃ J0 : Nat → Int → Int → Int → ByteArray → Int → Sl → Int → World → Prop, ∃ k3 : Nat, J0 k3 i8 i4 i5 s1 i6 l1 i7 w6 ∧
 ∀ k4 : Nat, ∀ i9 i10 i11 : Int, ∀ s2 : ByteArray, ∀ i12 : Int, ∀ l2 : Sl, ∀ i13 : Int, ∀ w7 : World, J0 k4 i9 i10 i11 s2 i12 l2 i13 w7 → ((i9 != 0) = true → ∃ i14 : Int, Cells w7 (r.add 1) [.int .i64 i14] ∧
 ∃ k5 k6 : Nat, ∃ z0 : List Value, ∃ k7 : Nat, (r.add 1) = ⟨k5, k6, none⟩ ∧
 Blk w7 k5 k7 z0 ∧
 (k6 + 1) ≤ z0.length ∧
 k1 ≠ k5 ∧
 k2 ≠ k5 ∧
 ∀ w8 : World, Only [k5] w7 w8 → Blk w8 k5 k7 (splice z0 k6 [.int .i64 (IntKind.wrap .i64 (i14 + 1))]) → Calls Tryz.prog 139 #[.pointer (some r), .int .i64 (IntKind.wrap .i64 (k + 1))] w8 fun e3 w9 => ∃ i15 i16 : Int, ∃ s3 : ByteArray, ∃ i17 : Int, ∃ l3 : Sl, ∃ i18 : Int, e3 = (.returned (.agg #[.int .i64 i15, .int .i64 i16, .string s3, .int .i64 i17, l3.v, .int .i64 i18])) ∧
 Same [k1, k2] w8 w9 ∧
 ∀ k8 : Nat, ∀ w10 : World, w9.heap.size ≤ k8 → k8 < w10.heap.size → Only [] w9 w10 → ∃ l4 : Sl, ∃ w11 : World, ((Instr.buildSlice 22 2 #[.mk 0 (.agg #[.int .i64 i10, .int .i64 i11, .string s2, .int .i64 i12, l2.v, .int .i64 i13]), .mk 1 (.agg #[.int .i64 i15, .int .i64 i16, .string s3, .int .i64 i17, l3.v, .int .i64 i18])]).run Tryz.prog w10) = (.ok l4.v w11) ∧
 Same [k1, k2, k8] w10 w11 ∧
 ∀ w12 : World, Only [k2] w11 w12 → Calls Tryz.prog 148 #[.pointer (some r), .int .i64 k] w12 fun e4 w13 => ∃ i19 : Int, e4 = (.returned (.int .i64 i19)) ∧
 Same [k1, k2, k8] w12 w13 ∧
 ∃ k9 : Nat, k9 < k4 ∧
 J0 k9 i19 5 0 (ByteArray.mk #[]) i9 l4 i13 w13) ∧
 ((i9 != 0) = false → ∀ w14 : World, Only [k1] w7 w14 → R (.agg #[.int .i64 i10, .int .i64 i11, .string s2, .int .i64 i12, l2.v, .int .i64 i13]) w14))
theorem pavaneref05_reader_from_wp (r : Addr) (k : Int) (R : Value → World → Prop) (w : World) (h : pavaneref05_reader_from_vc r k R w) : Calls Tryz.prog 139 #[.pointer (some r), .int .i64 k] w fun e w' => ∃ v, e = .returned v ∧ R v w' :=
 fn_by (an := .s .o (.s (.s .o (.s (.s .o .o) .o)) (.s .o (.s .o (.s (.j [0, 1, 4, 5] [.s 6 (.int .i64), .b 5 [.int .i64, .int .i64, .str, .int .i64, .sl, .int .i64]] (.s (.s .o (.s .o .o)) (.s .o (.s .o (.s .o .o)))) .o) (.s .o .o)))))) (args := [.ad r, .int .i64 k]) Tryz.checked.mixed (by kernel_rfl) (by kernel_rfl) h
def pavaneref05_reader_one_vc (r : Addr) (R : Value → World → Prop) (w : World) : Prop :=
 ∀ k0 : Nat, ∀ w0 : World, w.heap.size ≤ k0 → k0 < w0.heap.size → Only [] w w0 → ∃ J0 : Nat → Prop, J0 ((r.add 0).block) ∧
 ∃ l0 : Sl, Cells w0 (r.add 0) [l0.v] ∧
 J0 ((r.add 1).block) ∧
 ∃ i0 : Int, Cells w0 (r.add 1) [.int .i64 i0] ∧
 ∃ p0 : Addr, SlAt l0 i0 4 p0 ∧
 J0 p0.block ∧
 ∃ i1 : Int, ∃ s0 : ByteArray, ∃ i2 i3 : Int, Cells w0 p0 [.int .i64 i1, .string s0, .int .i64 i2, .int .i64 i3] ∧
 ∀ k1 : Nat, ∀ w1 : World, w0.heap.size ≤ k1 → k1 < w1.heap.size → Only [] w0 w1 → Calls Tryz.prog 156 #[.pointer (some r), .string (ByteArray.mk #[45])] w1 fun e0 w2 => ∃ b0 : Bool, e0 = (.returned (.bool b0)) ∧
 Same [k0, k1] w1 w2 ∧
 Calls Tryz.prog 156 #[.pointer (some r), .string (ByteArray.mk #[33])] w2 fun e1 w3 => ∃ b1 : Bool, e1 = (.returned (.bool b1)) ∧
 Same [k0, k1] w2 w3 ∧
 Calls Tryz.prog 156 #[.pointer (some r), .string (ByteArray.mk #[40])] w3 fun e2 w4 => ∃ b2 : Bool, e2 = (.returned (.bool b2)) ∧
 Same [k0, k1] w3 w4 ∧
 ∃ i4 : Int, Cells w4 ((r.add 3).add 0) [.int .i64 i4] ∧
 ((i4 != 0) = true → ∀ w5 : World, Only [k0] w4 w5 → R (.agg #[.int .i64 0, .int .i64 0, .string (ByteArray.mk #[]), .int .i64 0, Sl.nil.v, .int .i64 0]) w5) ∧
 ((i4 != 0) = false → ((b0 || b1) = true → Calls Tryz.prog 157 #[.pointer (some r)] w4 fun e3 w6 => ∃ b3 : Bool, e3 = (.returned (.bool b3)) ∧
 Same [k0, k1] w4 w6 ∧
 ((!b3) = true → ∀ w7 : World, Only [k0] w6 w7 → R (.agg #[.int .i64 0, .int .i64 0, .string (ByteArray.mk #[]), .int .i64 0, Sl.nil.v, .int .i64 0]) w7) ∧
 ((!b3) = false → Calls Tryz.prog 147 #[.pointer (some r)] w6 fun e4 w8 => ∃ i5 i6 : Int, ∃ s1 : ByteArray, ∃ i7 : Int, ∃ l1 : Sl, ∃ i8 : Int, e4 = (.returned (.agg #[.int .i64 i5, .int .i64 i6, .string s1, .int .i64 i7, l1.v, .int .i64 i8])) ∧
 Same [k0, k1] w6 w8 ∧
 ∀ k2 : Nat, ∀ w9 : World, w8.heap.size ≤ k2 → k2 < w9.heap.size → Only [] w8 w9 → ∃ i9 : Int, Cells w9 (r.add 2) [.int .i64 i9] ∧
 ∃ k3 k4 : Nat, ∃ z0 : List Value, ∃ k5 : Nat, (r.add 2) = ⟨k3, k4, none⟩ ∧
 Blk w9 k3 k5 z0 ∧
 (k4 + 1) ≤ z0.length ∧
 k0 ≠ k3 ∧
 k1 ≠ k3 ∧
 k2 ≠ k3 ∧
 ∀ w10 : World, Only [k3] w9 w10 → Blk w10 k3 k5 (splice z0 k4 [.int .i64 (IntKind.wrap .i64 (i9 - 1))]) → ∃ J1 : Int → World → Prop, (∀ i10 : Int, ∀ w11 : World, J1 i10 w11 → ∃ l2 : Sl, ∃ w12 : World, ((Instr.buildSlice 22 1 #[.mk 0 (.agg #[.int .i64 i5, .int .i64 i6, .string s1, .int .i64 i7, l1.v, .int .i64 i8])]).run Tryz.prog w11) = (.ok l2.v w12) ∧
 Same [k0, k1, k2] w11 w12 ∧
 ∀ w13 : World, Only [k0] w12 w13 → R (.agg #[.int .i64 4, .int .i64 0, .string (ByteArray.mk #[]), .int .i64 i10, l2.v, .int .i64 i3]) w13) ∧
 (b1 = true → J1 15 w10) ∧
 (b1 = false → J1 14 w10))) ∧
 ((b0 || b1) = false → (b2 = true → Calls Tryz.prog 157 #[.pointer (some r)] w4 fun e5 w14 => ∃ b4 : Bool, e5 = (.returned (.bool b4)) ∧
 Same [k0, k1] w4 w14 ∧
 ((!b4) = true → ∀ w15 : World, Only [k0] w14 w15 → R (.agg #[.int .i64 0, .int .i64 0, .string (ByteArray.mk #[]), .int .i64 0, Sl.nil.v, .int .i64 0]) w15) ∧
 ((!b4) = false → Calls Tryz.prog 139 #[.pointer (some r), .int .i64 0] w14 fun e6 w16 => ∃ i11 i12 : Int, ∃ s2 : ByteArray, ∃ i13 : Int, ∃ l3 : Sl, ∃ i14 : Int, e6 = (.returned (.agg #[.int .i64 i11, .int .i64 i12, .string s2, .int .i64 i13, l3.v, .int .i64 i14])) ∧
 Same [k0, k1] w14 w16 ∧
 ∀ k6 : Nat, ∀ w17 : World, w16.heap.size ≤ k6 → k6 < w17.heap.size → Only [] w16 w17 → Calls Tryz.prog 158 #[.pointer (some r), .string (ByteArray.mk #[41])] w17 fun e7 w18 => e7 = (.returned (.tuple #[])) ∧
 Same [k0, k1, k6] w17 w18 ∧
 ∃ i15 : Int, Cells w18 (r.add 2) [.int .i64 i15] ∧
 ∃ k7 k8 : Nat, ∃ z1 : List Value, ∃ k9 : Nat, (r.add 2) = ⟨k7, k8, none⟩ ∧
 Blk w18 k7 k9 z1 ∧
 (k8 + 1) ≤ z1.length ∧
 k0 ≠ k7 ∧
 k1 ≠ k7 ∧
 k6 ≠ k7 ∧
 ∀ w19 : World, Only [k7] w18 w19 → Blk w19 k7 k9 (splice z1 k8 [.int .i64 (IntKind.wrap .i64 (i15 - 1))]) → ∀ w20 : World, Only [k0] w19 w20 → R (.agg #[.int .i64 i11, .int .i64 i12, .string s2, .int .i64 i13, l3.v, .int .i64 i14]) w20)) ∧
 (b2 = false → ((i1 == 3) = true → ∃ i16 : Int, Cells w4 (r.add 1) [.int .i64 i16] ∧
 ∃ k10 k11 : Nat, ∃ z2 : List Value, ∃ k12 : Nat, (r.add 1) = ⟨k10, k11, none⟩ ∧
 Blk w4 k10 k12 z2 ∧
 (k11 + 1) ≤ z2.length ∧
 k0 ≠ k10 ∧
 k1 ≠ k10 ∧
 ∀ w21 : World, Only [k10] w4 w21 → Blk w21 k10 k12 (splice z2 k11 [.int .i64 (IntKind.wrap .i64 (i16 + 1))]) → ∀ w22 : World, Only [k0] w21 w22 → R (.agg #[.int .i64 1, .int .i64 i2, .string (ByteArray.mk #[]), .int .i64 0, Sl.nil.v, .int .i64 i3]) w22) ∧
 ((i1 == 3) = false → ((i1 == 1) = true → ∃ i17 : Int, Cells w4 (r.add 1) [.int .i64 i17] ∧
 ∃ k13 k14 : Nat, ∃ z3 : List Value, ∃ k15 : Nat, (r.add 1) = ⟨k13, k14, none⟩ ∧
 Blk w4 k13 k15 z3 ∧
 (k14 + 1) ≤ z3.length ∧
 k0 ≠ k13 ∧
 k1 ≠ k13 ∧
 ∀ w23 : World, Only [k13] w4 w23 → Blk w23 k13 k15 (splice z3 k14 [.int .i64 (IntKind.wrap .i64 (i17 + 1))]) → ∀ w24 : World, Only [k0] w23 w24 → R (.agg #[.int .i64 2, .int .i64 0, .string s0, .int .i64 0, Sl.nil.v, .int .i64 i3]) w24) ∧
 ((i1 == 1) = false → (((i1 == 2) && (s0.toList == ((ByteArray.mk #[105, 110]).toList))) = true → Calls Tryz.prog 159 #[.pointer (some r)] w4 fun e8 w25 => ∃ i18 i19 : Int, ∃ s3 : ByteArray, ∃ i20 : Int, ∃ l4 : Sl, ∃ i21 : Int, e8 = (.returned (.agg #[.int .i64 i18, .int .i64 i19, .string s3, .int .i64 i20, l4.v, .int .i64 i21])) ∧
 Same [k0, k1] w4 w25 ∧
 ∀ w26 : World, Only [k0] w25 w26 → R (.agg #[.int .i64 i18, .int .i64 i19, .string s3, .int .i64 i20, l4.v, .int .i64 i21]) w26) ∧
 (((i1 == 2) && (s0.toList == ((ByteArray.mk #[105, 110]).toList))) = false → Calls Tryz.prog 160 #[.pointer (some r)] w4 fun e9 w27 => e9 = (.returned (.tuple #[])) ∧
 Same [k0, k1] w4 w27 ∧
 ∀ w28 : World, Only [k0] w27 w28 → R (.agg #[.int .i64 0, .int .i64 0, .string (ByteArray.mk #[]), .int .i64 0, Sl.nil.v, .int .i64 0]) w28))))))
theorem pavaneref05_reader_one_wp (r : Addr) (R : Value → World → Prop) (w : World) (h : pavaneref05_reader_one_vc r R w) : Calls Tryz.prog 147 #[.pointer (some r)] w fun e w' => ∃ v, e = .returned v ∧ R v w' :=
 fn_by (an := .s .o (.s .o (.s .o (.s .o (.s .o (.s (.s .o (.s (.s .o .o) (.s .o (.s (.s .o (.s (.s .o (.s (.s .o .o) .o)) (.s .o (.s .o (.s .o (.j [2, 3, 8] [.s 9 (.int .i64)] (.s .o (.s .o .o)) (.s .o .o))))))) (.s .o (.s (.s .o (.s (.s .o (.s (.s .o .o) .o)) (.s .o (.s .o (.s .o (.s .o .o)))))) (.s .o (.s (.s .o (.s .o .o)) (.s .o (.s (.s .o (.s .o .o)) (.s .o (.s (.s .o .o) .o)))))))))))) (.s .o (.s .o .o)))))))) (args := [.ad r]) Tryz.checked.mixed (by kernel_rfl) (by kernel_rfl) h
def pavaneref05_reader_row_vc (r : Addr) (k : Int) (R : Value → World → Prop) (w : World) : Prop :=
 Calls Tryz.prog 161 #[] w fun e0 w0 => ∃ l0 : Sl, e0 = (.returned l0.v) ∧
 ∃ p0 : Addr, SlAt l0 k 1 p0 ∧
 ∃ l1 : Sl, Cells w0 p0 [l1.v] ∧
 Calls Tryz.prog 162 #[] w0 fun e1 w1 => ∃ l2 : Sl, e1 = (.returned l2.v) ∧
 ∃ p1 : Addr, SlAt l2 k 1 p1 ∧
 ∃ l3 : Sl, Cells w1 p1 [l3.v] ∧
 ∃ J0 : Nat → Int → World → Prop, ∃ k0 : Nat, J0 k0 0 w1 ∧
 ∀ k1 : Nat, ∀ i0 : Int, ∀ w2 : World, J0 k1 i0 w2 → ((decide (i0 < (l1.n : Int))) = true → ∃ p2 : Addr, SlAt l1 i0 1 p2 ∧
 ∃ s0 : ByteArray, Cells w2 p2 [.string s0] ∧
 Calls Tryz.prog 156 #[.pointer (some r), .string s0] w2 fun e2 w3 => ∃ b0 : Bool, e2 = (.returned (.bool b0)) ∧
 (b0 = true → ∃ p3 : Addr, SlAt l3 i0 1 p3 ∧
 ∃ i1 : Int, Cells w3 p3 [.int .i64 i1] ∧
 R (.int .i64 i1) w3) ∧
 (b0 = false → ∃ k2 : Nat, k2 < k1 ∧
 J0 k2 (IntKind.wrap .i64 (i0 + 1)) w3)) ∧
 ((decide (i0 < (l1.n : Int))) = false → R (.int .i64 0) w2)
theorem pavaneref05_reader_row_wp (r : Addr) (k : Int) (R : Value → World → Prop) (w : World) (h : pavaneref05_reader_row_vc r k R w) : Calls Tryz.prog 148 #[.pointer (some r), .int .i64 k] w fun e w' => ∃ v, e = .returned v ∧ R v w' :=
 fn_by (an := .s .o (.s .o (.s .o (.s (.s .o (.j [0, 5, 6] [.s 7 (.int .i64)] (.s (.s .o (.s .o .o)) (.s (.s .o (.s .o (.s (.s .o .o) .o))) .o)) .o)) (.s .o .o))))) (args := [.ad r, .int .i64 k]) Tryz.checked.mixed (by kernel_rfl) (by kernel_rfl) h
def pavaneref05_reader_sign_vc (r : Addr) (s : ByteArray) (R : Value → World → Prop) (w : World) : Prop :=
 ∀ w0 : World, Only [] w w0 → ∃ J0 : Nat → Prop, J0 ((r.add 0).block) ∧
 ∃ l0 : Sl, Cells w0 (r.add 0) [l0.v] ∧
 J0 ((r.add 1).block) ∧
 ∃ i0 : Int, Cells w0 (r.add 1) [.int .i64 i0] ∧
 ∃ p0 : Addr, SlAt l0 i0 4 p0 ∧
 J0 p0.block ∧
 ∃ i1 : Int, ∃ s0 : ByteArray, ∃ i2 i3 : Int, Cells w0 p0 [.int .i64 i1, .string s0, .int .i64 i2, .int .i64 i3] ∧
 ∀ k0 : Nat, ∀ w1 : World, w0.heap.size ≤ k0 → k0 < w1.heap.size → Only [] w0 w1 → ∃ i4 : Int, Cells w1 ((r.add 3).add 0) [.int .i64 i4] ∧
 R (.bool (((i4 == 0) && (i1 == 4)) && (s0.toList == s.toList))) w1
theorem pavaneref05_reader_sign_wp (r : Addr) (s : ByteArray) (R : Value → World → Prop) (w : World) (h : pavaneref05_reader_sign_vc r s R w) : Calls Tryz.prog 156 #[.pointer (some r), .string s] w fun e w' => ∃ v, e = .returned v ∧ R v w' :=
 fn_by (an := .s .o (.s .o (.s .o .o))) (args := [.ad r, .str s]) Tryz.checked.mixed (by kernel_rfl) (by kernel_rfl) h
def pavaneref05_reader_down_vc (r : Addr) (R : Value → World → Prop) (w : World) : Prop :=
 ∃ i0 : Int, Cells w (r.add 2) [.int .i64 i0] ∧
 ((i0 == 20) = true → Calls Tryz.prog 167 #[.pointer (some r), .int .i64 21] w fun e0 w0 => e0 = (.returned (.tuple #[])) ∧
 R (.bool false) w0) ∧
 ((i0 == 20) = false → ∃ i1 : Int, Cells w (r.add 2) [.int .i64 i1] ∧
 ∃ k0 k1 : Nat, ∃ z0 : List Value, ∃ k2 : Nat, (r.add 2) = ⟨k0, k1, none⟩ ∧
 Blk w k0 k2 z0 ∧
 (k1 + 1) ≤ z0.length ∧
 ∀ w1 : World, Only [k0] w w1 → Blk w1 k0 k2 (splice z0 k1 [.int .i64 (IntKind.wrap .i64 (i1 + 1))]) → ∃ i2 : Int, Cells w1 (r.add 1) [.int .i64 i2] ∧
 ∃ k3 k4 : Nat, ∃ z1 : List Value, ∃ k5 : Nat, (r.add 1) = ⟨k3, k4, none⟩ ∧
 Blk w1 k3 k5 z1 ∧
 (k4 + 1) ≤ z1.length ∧
 ∀ w2 : World, Only [k3] w1 w2 → Blk w2 k3 k5 (splice z1 k4 [.int .i64 (IntKind.wrap .i64 (i2 + 1))]) → R (.bool true) w2)
theorem pavaneref05_reader_down_wp (r : Addr) (R : Value → World → Prop) (w : World) (h : pavaneref05_reader_down_vc r R w) : Calls Tryz.prog 157 #[.pointer (some r)] w fun e w' => ∃ v, e = .returned v ∧ R v w' :=
 fn_by (an := .s .o (.s (.s .o (.s (.s .o (.s .o .o)) .o)) (.s .o (.s .o (.s .o .o))))) (args := [.ad r]) Tryz.checked.mixed (by kernel_rfl) (by kernel_rfl) h
def pavaneref05_reader_must_vc (r : Addr) (s : ByteArray) (R : Value → World → Prop) (w : World) : Prop :=
 Calls Tryz.prog 156 #[.pointer (some r), .string s] w fun e0 w0 => ∃ b0 : Bool, e0 = (.returned (.bool b0)) ∧
 ((!b0) = true → Calls Tryz.prog 160 #[.pointer (some r)] w0 fun e1 w1 => e1 = (.returned (.tuple #[])) ∧
 R (.tuple #[]) w1) ∧
 ((!b0) = false → ∃ i0 : Int, Cells w0 (r.add 1) [.int .i64 i0] ∧
 ∃ k0 k1 : Nat, ∃ z0 : List Value, ∃ k2 : Nat, (r.add 1) = ⟨k0, k1, none⟩ ∧
 Blk w0 k0 k2 z0 ∧
 (k1 + 1) ≤ z0.length ∧
 ∀ w2 : World, Only [k0] w0 w2 → Blk w2 k0 k2 (splice z0 k1 [.int .i64 (IntKind.wrap .i64 (i0 + 1))]) → R (.tuple #[]) w2)
theorem pavaneref05_reader_must_wp (r : Addr) (s : ByteArray) (R : Value → World → Prop) (w : World) (h : pavaneref05_reader_must_vc r s R w) : Calls Tryz.prog 158 #[.pointer (some r), .string s] w fun e w' => ∃ v, e = .returned v ∧ R v w' :=
 fn_by (an := .s .o (.s (.s .o (.s (.s .o .o) .o)) .o)) (args := [.ad r, .str s]) Tryz.checked.mixed (by kernel_rfl) (by kernel_rfl) h
def pavaneref05_reader_in_vc (r : Addr) (R : Value → World → Prop) (w : World) : Prop :=
 ∀ k0 : Nat, ∀ w0 : World, w.heap.size ≤ k0 → k0 < w0.heap.size → Only [] w w0 → ∃ J0 : Nat → Prop, J0 ((r.add 0).block) ∧
 ∃ l0 : Sl, Cells w0 (r.add 0) [l0.v] ∧
 J0 ((r.add 1).block) ∧
 ∃ i0 : Int, Cells w0 (r.add 1) [.int .i64 i0] ∧
 ∃ p0 : Addr, SlAt l0 i0 4 p0 ∧
 J0 ((p0.add 3).block) ∧
 ∃ i1 : Int, Cells w0 (p0.add 3) [.int .i64 i1] ∧
 ∀ k1 : Nat, ∀ w1 : World, w0.heap.size ≤ k1 → k1 < w1.heap.size → Only [] w0 w1 → ∃ i2 : Int, Cells w1 (r.add 1) [.int .i64 i2] ∧
 ∃ k2 k3 : Nat, ∃ z0 : List Value, ∃ k4 : Nat, (r.add 1) = ⟨k2, k3, none⟩ ∧
 Blk w1 k2 k4 z0 ∧
 (k3 + 1) ≤ z0.length ∧
 k0 ≠ k2 ∧
 k1 ≠ k2 ∧
 ∀ w2 : World, Only [k2] w1 w2 → Blk w2 k2 k4 (splice z0 k3 [.int .i64 (IntKind.wrap .i64 (i2 + 1))]) → Calls Tryz.prog 158 #[.pointer (some r), .string (ByteArray.mk #[40])] w2 fun e0 w3 => e0 = (.returned (.tuple #[])) ∧
 Same [k0, k1] w2 w3 ∧
 ∃ i3 : Int, Cells w3 ((r.add 3).add 0) [.int .i64 i3] ∧
 ((i3 != 0) = true → ∀ w4 : World, Only [k0] w3 w4 → R (.agg #[.int .i64 3, .int .i64 0, .string (ByteArray.mk #[]), .int .i64 0, Sl.nil.v, .int .i64 i1]) w4) ∧
 ((i3 != 0) = false → ∃ l1 : Sl, Cells w3 (r.add 0) [l1.v] ∧
 ∃ i4 : Int, Cells w3 (r.add 1) [.int .i64 i4] ∧
 ∃ p1 : Addr, SlAt l1 i4 4 p1 ∧
 ∃ i5 : Int, Cells w3 (p1.add 0) [.int .i64 i5] ∧
 ((i5 != 1) = true → ∀ w5 : World, Only [] w3 w5 → Calls Tryz.prog 160 #[.pointer (some r)] w5 fun e1 w6 => e1 = (.returned (.tuple #[])) ∧
 Same [k0, k1] w5 w6 ∧
 ∀ w7 : World, Only [k0] w6 w7 → R (.agg #[.int .i64 3, .int .i64 0, .string (ByteArray.mk #[]), .int .i64 0, Sl.nil.v, .int .i64 i1]) w7) ∧
 ((i5 != 1) = false → ∀ w8 : World, Only [] w3 w8 → ∃ l2 : Sl, Cells w8 (r.add 0) [l2.v] ∧
 ∃ i6 : Int, Cells w8 (r.add 1) [.int .i64 i6] ∧
 ∃ p2 : Addr, SlAt l2 i6 4 p2 ∧
 ∃ s0 : ByteArray, Cells w8 (p2.add 1) [.string s0] ∧
 ∀ w9 : World, Only [k1] w8 w9 → ∃ i7 : Int, Cells w9 (r.add 1) [.int .i64 i7] ∧
 ∃ k5 k6 : Nat, ∃ z1 : List Value, ∃ k7 : Nat, (r.add 1) = ⟨k5, k6, none⟩ ∧
 Blk w9 k5 k7 z1 ∧
 (k6 + 1) ≤ z1.length ∧
 k0 ≠ k5 ∧
 k1 ≠ k5 ∧
 ∀ w10 : World, Only [k5] w9 w10 → Blk w10 k5 k7 (splice z1 k6 [.int .i64 (IntKind.wrap .i64 (i7 + 1))]) → Calls Tryz.prog 158 #[.pointer (some r), .string (ByteArray.mk #[41])] w10 fun e2 w11 => e2 = (.returned (.tuple #[])) ∧
 Same [k0, k1] w10 w11 ∧
 ∀ w12 : World, Only [k0] w11 w12 → R (.agg #[.int .i64 3, .int .i64 0, .string s0, .int .i64 0, Sl.nil.v, .int .i64 i1]) w12))
theorem pavaneref05_reader_in_wp (r : Addr) (R : Value → World → Prop) (w : World) (h : pavaneref05_reader_in_vc r R w) : Calls Tryz.prog 159 #[.pointer (some r)] w fun e w' => ∃ v, e = .returned v ∧ R v w' :=
 fn_by (an := .s .o (.s .o (.s .o (.s .o (.s (.s .o (.s (.s .o .o) .o)) (.s (.s .o (.s (.s .o (.s .o .o)) .o)) (.s .o (.s .o (.s .o (.s .o .o)))))))))) (args := [.ad r]) Tryz.checked.mixed (by kernel_rfl) (by kernel_rfl) h
def pavaneref05_reader_wrong_vc (r : Addr) (R : Value → World → Prop) (w : World) : Prop :=
 ∃ l0 : Sl, Cells w (r.add 0) [l0.v] ∧
 ∃ i0 : Int, Cells w (r.add 1) [.int .i64 i0] ∧
 ∃ p0 : Addr, SlAt l0 i0 4 p0 ∧
 ∃ i1 : Int, Cells w (p0.add 0) [.int .i64 i1] ∧
 ((i1 == 5) = true → ∀ w0 : World, Only [] w w0 → Calls Tryz.prog 167 #[.pointer (some r), .int .i64 3] w0 fun e0 w1 => e0 = (.returned (.tuple #[])) ∧
 R (.tuple #[]) w1) ∧
 ((i1 == 5) = false → ∀ w2 : World, Only [] w w2 → Calls Tryz.prog 167 #[.pointer (some r), .int .i64 4] w2 fun e1 w3 => e1 = (.returned (.tuple #[])) ∧
 R (.tuple #[]) w3)
theorem pavaneref05_reader_wrong_wp (r : Addr) (R : Value → World → Prop) (w : World) (h : pavaneref05_reader_wrong_vc r R w) : Calls Tryz.prog 160 #[.pointer (some r)] w fun e w' => ∃ v, e = .returned v ∧ R v w' :=
 fn_by (an := .s (.s .o (.s (.s .o .o) .o)) .o) (args := [.ad r]) Tryz.checked.mixed (by kernel_rfl) (by kernel_rfl) h
def pavaneref05_rows_vc (R : Value → World → Prop) (w : World) : Prop :=
 ∃ l0 : Sl, ∃ w0 : World, ((Instr.buildSlice 25 1 #[.mk 0 (.string (ByteArray.mk #[124, 124]))]).run Tryz.prog w) = (.ok l0.v w0) ∧
 ∃ l1 : Sl, ∃ w1 : World, ((Instr.buildSlice 25 1 #[.mk 0 (.string (ByteArray.mk #[38, 38]))]).run Tryz.prog w0) = (.ok l1.v w1) ∧
 ∃ l2 : Sl, ∃ w2 : World, ((Instr.buildSlice 25 2 #[.mk 0 (.string (ByteArray.mk #[61, 61])), .mk 1 (.string (ByteArray.mk #[33, 61]))]).run Tryz.prog w1) = (.ok l2.v w2) ∧
 ∃ l3 : Sl, ∃ w3 : World, ((Instr.buildSlice 25 4 #[.mk 0 (.string (ByteArray.mk #[60])), .mk 1 (.string (ByteArray.mk #[60, 61])), .mk 2 (.string (ByteArray.mk #[62])), .mk 3 (.string (ByteArray.mk #[62, 61]))]).run Tryz.prog w2) = (.ok l3.v w3) ∧
 ∃ l4 : Sl, ∃ w4 : World, ((Instr.buildSlice 25 2 #[.mk 0 (.string (ByteArray.mk #[43])), .mk 1 (.string (ByteArray.mk #[45]))]).run Tryz.prog w3) = (.ok l4.v w4) ∧
 ∃ l5 : Sl, ∃ w5 : World, ((Instr.buildSlice 25 3 #[.mk 0 (.string (ByteArray.mk #[42])), .mk 1 (.string (ByteArray.mk #[47])), .mk 2 (.string (ByteArray.mk #[37]))]).run Tryz.prog w4) = (.ok l5.v w5) ∧
 ∃ l6 : Sl, ∃ w6 : World, ((Instr.buildSlice 192 6 #[.mk 0 l0.v, .mk 1 l1.v, .mk 2 l2.v, .mk 3 l3.v, .mk 4 l4.v, .mk 5 l5.v]).run Tryz.prog w5) = (.ok l6.v w6) ∧
 R l6.v w6
theorem pavaneref05_rows_wp (R : Value → World → Prop) (w : World) (h : pavaneref05_rows_vc R w) : Calls Tryz.prog 161 #[] w fun e w' => ∃ v, e = .returned v ∧ R v w' :=
 fn_by (an := .s .o (.s .o .o)) (args := []) Tryz.checked.mixed (by kernel_rfl) (by kernel_rfl) h
def pavaneref05_numbers_vc (R : Value → World → Prop) (w : World) : Prop :=
 ∃ l0 : Sl, ∃ w0 : World, ((Instr.buildSlice 26 1 #[.mk 0 (.int .i64 13)]).run Tryz.prog w) = (.ok l0.v w0) ∧
 ∃ l1 : Sl, ∃ w1 : World, ((Instr.buildSlice 26 1 #[.mk 0 (.int .i64 12)]).run Tryz.prog w0) = (.ok l1.v w1) ∧
 ∃ l2 : Sl, ∃ w2 : World, ((Instr.buildSlice 26 2 #[.mk 0 (.int .i64 10), .mk 1 (.int .i64 11)]).run Tryz.prog w1) = (.ok l2.v w2) ∧
 ∃ l3 : Sl, ∃ w3 : World, ((Instr.buildSlice 26 4 #[.mk 0 (.int .i64 6), .mk 1 (.int .i64 7), .mk 2 (.int .i64 8), .mk 3 (.int .i64 9)]).run Tryz.prog w2) = (.ok l3.v w3) ∧
 ∃ l4 : Sl, ∃ w4 : World, ((Instr.buildSlice 26 2 #[.mk 0 (.int .i64 1), .mk 1 (.int .i64 2)]).run Tryz.prog w3) = (.ok l4.v w4) ∧
 ∃ l5 : Sl, ∃ w5 : World, ((Instr.buildSlice 26 3 #[.mk 0 (.int .i64 3), .mk 1 (.int .i64 4), .mk 2 (.int .i64 5)]).run Tryz.prog w4) = (.ok l5.v w5) ∧
 ∃ l6 : Sl, ∃ w6 : World, ((Instr.buildSlice 194 6 #[.mk 0 l0.v, .mk 1 l1.v, .mk 2 l2.v, .mk 3 l3.v, .mk 4 l4.v, .mk 5 l5.v]).run Tryz.prog w5) = (.ok l6.v w6) ∧
 R l6.v w6
theorem pavaneref05_numbers_wp (R : Value → World → Prop) (w : World) (h : pavaneref05_numbers_vc R w) : Calls Tryz.prog 162 #[] w fun e w' => ∃ v, e = .returned v ∧ R v w' :=
 fn_by (an := .s .o (.s .o .o)) (args := []) Tryz.checked.mixed (by kernel_rfl) (by kernel_rfl) h
def pavaneref05_reader_stop_vc (r : Addr) (e_ : Int) (R : Value → World → Prop) (w : World) : Prop :=
 ∃ i0 : Int, Cells w ((r.add 3).add 0) [.int .i64 i0] ∧
 ((i0 == 0) = true → ∀ w0 : World, Only [] w w0 → ∃ l0 : Sl, Cells w0 (r.add 0) [l0.v] ∧
 ∃ i1 : Int, Cells w0 (r.add 1) [.int .i64 i1] ∧
 ∃ p0 : Addr, SlAt l0 i1 4 p0 ∧
 ∃ i2 : Int, Cells w0 (p0.add 3) [.int .i64 i2] ∧
 ∃ k0 k1 : Nat, ∃ z0 : List Value, ∃ k2 : Nat, (r.add 3) = ⟨k0, k1, none⟩ ∧
 Blk w0 k0 k2 z0 ∧
 (k1 + 2) ≤ z0.length ∧
 ∀ w1 : World, Only [k0] w0 w1 → Blk w1 k0 k2 (splice z0 k1 [.int .i64 e_, .int .i64 i2]) → R (.tuple #[]) w1) ∧
 ((i0 == 0) = false → R (.tuple #[]) w)
theorem pavaneref05_reader_stop_wp (r : Addr) (e_ : Int) (R : Value → World → Prop) (w : World) (h : pavaneref05_reader_stop_vc r e_ R w) : Calls Tryz.prog 167 #[.pointer (some r), .int .i64 e_] w fun e w' => ∃ v, e = .returned v ∧ R v w' :=
 fn_by (an := .s .o (.s .o .o)) (args := [.ad r, .int .i64 e_]) Tryz.checked.mixed (by kernel_rfl) (by kernel_rfl) h
end Go.Proofs.YtmanockofcopjaaGreatDoor.Vc
