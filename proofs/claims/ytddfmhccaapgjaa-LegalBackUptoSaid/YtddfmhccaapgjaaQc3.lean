import Derived.Test.YtddfmhccaapgjaaQc2
set_option linter.unusedSectionVars false
namespace Go.Proofs.Ytddfmhccaapgjaa.Vc
open Go Go.RowKit Go.Kt Go.Kt.V
set_option linter.unusedVariables false
set_option maxRecDepth 100000
set_option maxHeartbeats 40000000
def v18v (R : Value -> World -> Prop) (w : World) : Prop :=
  ∃ l0 : Sl, ∃ w0 : World, ((Instr.buildSlice 32 3 #[.mk 0 (.agg #[.int .i64 1, .string (ByteArray.mk #[99]), .int .i64 (-1), .int .i64 0, .int .i64 3]), .mk 1 (.agg #[.int .i64 1, .string (ByteArray.mk #[97]), .int .i64 0, .int .i64 1, .int .i64 2]), .mk 2 (.agg #[.int .i64 1, .string (ByteArray.mk #[98]), .int .i64 0, .int .i64 1, .int .i64 3])]).run Try.prog w) = (.ok l0.v w0) /\
  Calls Try.prog 7 #[l0.v, .int .i64 1] w0 fun e0 w1 => ∃ l1 : Sl, ∃ b0 : Bool, e0 = (.returned (.tuple #[l1.v, .bool b0])) /\
   ∃ l2 : Sl, ∃ w2 : World, ((Instr.buildSlice 30 2 #[.mk 0 (.int .i64 0), .mk 1 (.int .i64 1)]).run Try.prog w1) = (.ok l2.v w2) /\
   Calls Try.prog 9 #[l0.v, l2.v] w2 fun e1 w3 => ∃ i0 : Int, ∃ b1 : Bool, e1 = (.returned (.tuple #[.int .i64 i0, .bool b1])) /\
    ∃ J0 : Bool -> World -> Prop, (∀ b2 : Bool, ∀ w4 : World, J0 b2 w4 -> R (.bool b2) w4) /\
    ∃ l3 : Sl, ∃ w5 : World, ((Instr.buildSlice 30 2 #[.mk 0 (.int .i64 0), .mk 1 (.int .i64 2)]).run Try.prog w3) = (.ok l3.v w5) /\
    Calls Try.prog 15 #[l0.v, l3.v] w5 fun e2 w6 => ∃ b3 : Bool, e2 = (.returned (.bool b3)) /\
     (b3 = true -> ∃ l4 : Sl, ∃ w7 : World, ((Instr.buildSlice 30 1 #[.mk 0 (.int .i64 0)]).run Try.prog w6) = (.ok l4.v w7) /\
      Calls Try.prog 15 #[l0.v, l4.v] w7 fun e3 w8 => ∃ b4 : Bool, e3 = (.returned (.bool b4)) /\
       ((!b4) = true -> Calls Try.prog 12 #[l0.v] w8 fun e4 w9 => ∃ i1 : Int, e4 = (.returned (.int .i64 i1)) /\
         ∃ p0 : Addr, ((((i1 == 2) && b0) && ((l1.n : Int) == 2)) = true -> SlAt l1 1 1 p0) /\
         ∃ i2 : Int, ((((i1 == 2) && b0) && ((l1.n : Int) == 2)) = true -> Cells w9 p0 [.int .i64 i2]) /\
         J0 ((((((i1 == 2) && b0) && ((l1.n : Int) == 2)) && (i2 == 2)) && b1) && (i0 == 0)) w9) /\
       ((!b4) = false -> J0 false w8)) /\
     (b3 = false -> J0 false w6)
abbrev Cr (f : FuncId) (a : Array Value) (w : World) (R : Value -> World -> Prop) : Prop := Calls Try.prog f a w fun e w' => ∃ v, e = .returned v /\ R v w'
theorem fB {f : FuncId} {an : Ann} {args : List SV} {R : Value -> World -> Prop} {w : World} {vs : Array Value} {vc : Prop} (h : vc) (hv : vs = (vals β0 args).toArray := by kernel_rfl) (he : vc = Vfn Try.prog f an args R w := by kernel_rfl) : Cr f vs w R := fn_by Try.checked.mixed hv he h
theorem v18w (R : Value -> World -> Prop) (w : World) (h : v18v R w) : Cr 5 #[] w R :=
 fB (an := .s .o (.s .o (.s .o (.s .o (.s (.j [] [.s 0 .bool] .o .o) .o))))) (args := []) h
def v5v (l : Sl) (k : Int) (R : Value -> World -> Prop) (w : World) : Prop :=
  Calls Try.prog 18 #[l.v] w fun e0 w0 => ∃ q0 : Option Addr, e0 = (.returned (.pointer q0)) /\
   ∃ p0 : Addr, ((((l.n : Int) == 0) || (decide (k < 0))) = false -> q0 = (some p0)) /\
   ∃ l0 : Sl, ((((l.n : Int) == 0) || (decide (k < 0))) = false -> Cells w0 (p0.add 1) [l0.v]) /\
   ∃ p1 : Addr, ((((l.n : Int) == 0) || (decide (k < 0))) = false -> SlAt l0 0 1 p1) /\
   ∃ i0 : Int, ((((l.n : Int) == 0) || (decide (k < 0))) = false -> Cells w0 p1 [.int .i64 i0]) /\
   (((((l.n : Int) == 0) || (decide (k < 0))) || (decide (k >= i0))) = true -> R (.tuple #[Sl.nil.v, .bool false]) w0) /\
   (((((l.n : Int) == 0) || (decide (k < 0))) || (decide (k >= i0))) = false -> Calls Try.prog 19 #[.pointer q0, Sl.nil.v, .int .i64 0, .int .i64 k] w0 fun e1 w1 => ∃ l1 : Sl, e1 = (.returned l1.v) /\
    R (.tuple #[l1.v, .bool true]) w1)
theorem v5w (l : Sl) (k : Int) (R : Value -> World -> Prop) (w : World) (h : v5v l k R w) : Cr 7 #[l.v, .int .i64 k] w R :=
 fB (an := .s .o (.s .o (.s (.s .o (.s (.s .o .o) .o)) (.s .o .o)))) (args := [.sl l, .int .i64 k]) h
def v7v (l : Sl) (R : Value -> World -> Prop) (w : World) : Prop :=
  ∃ l0 : Sl, ∃ w0 : World, ((Instr.makeSlice 30 (.int .i64 (l.n : Int)) (.int .i64 (l.n : Int))).run Try.prog w) = (.ok l0.v w0) /\
  ∀ k0 : Nat, ∀ w1 : World, w0.heap.size <= k0 -> k0 < w1.heap.size -> Only [] w0 w1 -> ∃ J0 : Nat -> Int -> Sl -> Sl -> World -> Prop, ∃ k1 : Nat, J0 k1 (IntKind.wrap .i64 ((l.n : Int) - 1)) l l0 w1 /\
  ∀ k2 : Nat, ∀ i0 : Int, ∀ l1 l2 : Sl, ∀ w2 : World, J0 k2 i0 l1 l2 w2 -> ((decide (i0 >= 0)) = true -> ∀ w3 : World, Only [] w2 w3 -> ∃ J1 : Nat -> Prop, J1 k0 /\
   (Blk w3 k0 53 [l1.v, l2.v] -> Calls Try.prog 34 #[.pointer (some ⟨k0, 0, none⟩), .int .i64 i0] w3 fun e0 w4 => ∃ i1 : Int, e0 = (.returned (.int .i64 i1)) /\
    ∃ l3 l4 : Sl, Blk w4 k0 53 [l3.v, l4.v] /\
    Keeps J1 w3 w4 /\
    ∃ p0 : Addr, SlAt l2 i0 1 p0 /\
    ∃ k3 k4 : Nat, ∃ z0 : List Value, ∃ k5 : Nat, p0 = ⟨k3, k4, none⟩ /\
    Blk w4 k3 k5 z0 /\
    (k4 + 1) <= z0.length /\
    k0 ≠ k3 /\
    ∀ w5 : World, Only [k3] w4 w5 -> Blk w5 k3 k5 (splice z0 k4 [.int .i64 i1]) -> ∃ k6 : Nat, k6 < k2 /\
    J0 k6 (IntKind.wrap .i64 (i0 - 1)) l3 l4 w5)) /\
  ((decide (i0 >= 0)) = false -> Blk w2 k0 53 [l1.v, l2.v] -> R (.pointer (some ⟨k0, 0, none⟩)) w2)
theorem v7w (l : Sl) (R : Value -> World -> Prop) (w : World) (h : v7v l R w) : Cr 18 #[l.v] w R :=
 fB (an := .s .o (.s .o (.s (.s .o (.j [3, 10] [.s 4 (.int .i64), .b 10 [.sl, .sl]] (.s (.s .o (.s .o .o)) (.s .o .o)) .o)) (.s .o .o)))) (args := [.sl l]) h
def v8v (c : Addr) (n_ : Int) (R : Value -> World -> Prop) (w : World) : Prop :=
  ∃ l0 : Sl, Cells w (c.add 0) [l0.v] /\
  Calls Try.prog 26 #[l0.v, .int .i64 n_] w fun e0 w0 => ∃ l1 : Sl, e0 = (.returned l1.v) /\
   (((l1.n : Int) == 0) = true -> R (.int .i64 1) w0) /\
   (((l1.n : Int) == 0) = false -> ∃ J0 : Nat -> Int -> Int -> Int -> World -> Prop, ∃ k0 : Nat, J0 k0 0 1 0 w0 /\
   ∀ k1 : Nat, ∀ i0 i1 i2 : Int, ∀ w1 : World, J0 k1 i0 i1 i2 w1 -> ((decide (i2 < (l1.n : Int))) = true -> ∃ p0 : Addr, SlAt l1 i2 1 p0 /\
    ∃ i3 : Int, Cells w1 p0 [.int .i64 i3] /\
    ∃ l2 : Sl, Cells w1 (c.add 1) [l2.v] /\
    ∃ p1 : Addr, SlAt l2 i3 1 p1 /\
    ∃ i4 : Int, Cells w1 p1 [.int .i64 i4] /\
    ∃ l3 : Sl, Cells w1 (c.add 1) [l3.v] /\
    ∃ p2 : Addr, SlAt l3 i3 1 p2 /\
    ∃ i5 : Int, Cells w1 p2 [.int .i64 i5] /\
    ∀ w2 : World, Only [] w1 w2 -> ∃ k2 : Nat, k2 < k1 /\
    J0 k2 (IntKind.wrap .i64 (i0 + i4)) (IntKind.wrap .i64 (i1 * i5)) (IntKind.wrap .i64 (i2 + 1)) w2) /\
   ((decide (i2 < (l1.n : Int))) = false -> ∃ l4 : Sl, Cells w1 (c.add 0) [l4.v] /\
   ∃ p3 : Addr, SlAt l4 n_ 5 p3 /\
   ∃ i6 : Int, Cells w1 (p3.add 0) [.int .i64 i6] /\
   ((i6 == 2) = true -> R (.int .i64 i1) w1) /\
   ((i6 == 2) = false -> R (.int .i64 i0) w1)))
theorem v8w (c : Addr) (n_ : Int) (R : Value -> World -> Prop) (w : World) (h : v8v c n_ R w) : Cr 34 #[.pointer (some c), .int .i64 n_] w R :=
 fB (an := .s .o (.s .o (.s (.s .o (.s (.s .o .o) .o)) (.s .o (.s (.s .o (.j [0, 1, 19, 20] [.s 6 (.int .i64), .s 7 (.int .i64), .s 21 (.int .i64)] (.s .o (.s (.s .o .o) (.s (.s .o .o) .o))) .o)) (.s (.s .o (.s (.s .o .o) .o)) (.s .o .o))))))) (args := [.ad c, .int .i64 n_]) h
def v12v (r : Sl) (n_ : Int) (R : Value -> World -> Prop) (w : World) : Prop :=
  ∀ k0 : Nat, ∀ w0 : World, w.heap.size <= k0 -> k0 < w0.heap.size -> Only [] w w0 -> Calls Try.prog 39 #[r.v, .int .i64 n_] w0 fun e0 w1 => ∃ l0 : Sl, e0 = (.returned l0.v) /\
   Same [k0] w0 w1 /\
   (Blk w1 k0 51 [r.v] -> Calls Try.prog 38 #[l0.v, .func (.func 40) #[] #[.pointer (some ⟨k0, 0, none⟩)]] w1 fun e1 w2 => ∃ l1 : Sl, e1 = (.returned l1.v) /\
    ∃ l2 : Sl, Blk w2 k0 51 [l2.v] /\
    R l1.v w2)
theorem v12w (r : Sl) (n_ : Int) (R : Value -> World -> Prop) (w : World) (h : v12v r n_ R w) : Cr 26 #[r.v, .int .i64 n_] w R :=
 fB (an := .s .o (.s .o .o)) (args := [.sl r, .int .i64 n_]) h
def v0v (l : Sl) (n_ : Int) (R : Value -> World -> Prop) (w : World) : Prop :=
  Calls Try.prog 48 #[l.v, .int .i64 n_] w fun e0 w0 => ∃ b0 : Bool, e0 = (.returned (.bool b0)) /\
   ((!b0) = true -> R Sl.nil.v w0) /\
   ((!b0) = false -> ∃ J0 : Nat -> Sl -> Int -> World -> Prop, ∃ k0 : Nat, J0 k0 Sl.nil (IntKind.wrap .i64 (n_ + 1)) w0 /\
   ∀ k1 : Nat, ∀ l0 : Sl, ∀ i0 : Int, ∀ w1 : World, J0 k1 l0 i0 w1 -> ∃ p0 : Addr, SlAt l n_ 5 p0 /\
   ∃ i1 : Int, Cells w1 (p0.add 4) [.int .i64 i1] /\
   ((decide (i0 < i1)) = true -> ∃ l1 : Sl, ∃ w2 : World, ((Instr.buildSlice 30 1 #[.mk 0 (.int .i64 i0)]).run Try.prog w1) = (.ok l1.v w2) /\
    ∃ l2 : Sl, ∃ w3 : World, ((Builtin.append_ #[30, 30] 30 #[l0.v, l1.v]).run Try.prog w2) = (.ok l2.v w3) /\
    ∃ p1 : Addr, SlAt l i0 5 p1 /\
    ∃ i2 : Int, Cells w3 (p1.add 4) [.int .i64 i2] /\
    ∃ k2 : Nat, k2 < k1 /\
    J0 k2 l2 i2 w3) /\
   ((decide (i0 < i1)) = false -> R l0.v w1))
theorem v0w (l : Sl) (n_ : Int) (R : Value -> World -> Prop) (w : World) (h : v0v l n_ R w) : Cr 39 #[l.v, .int .i64 n_] w R :=
 fB (an := .s .o (.s .o (.s (.s .o (.s (.s .o .o) .o)) (.s (.s .o (.j [0, 1] [.s 5 .sl, .s 6 (.int .i64)] (.s (.s .o (.s .o .o)) (.s .o .o)) .o)) (.s .o .o))))) (args := [.sl l, .int .i64 n_]) h
def v1v (r : Sl) (n_ : Int) (R : Value -> World -> Prop) (w : World) : Prop :=
 R (.bool ((decide (n_ >= 0)) && (decide (n_ < (r.n : Int))))) w
theorem v1w (r : Sl) (n_ : Int) (R : Value -> World -> Prop) (w : World) (h : v1v r n_ R w) : Cr 48 #[r.v, .int .i64 n_] w R :=
 fB (an := .s .o (.s .o .o)) (args := [.sl r, .int .i64 n_]) h
def v11v (k : Int) (ccap0 : Addr) (R : Value -> World -> Prop) (w : World) : Prop :=
  ∃ l0 : Sl, Cells w ccap0 [l0.v] /\
  ∃ p0 : Addr, SlAt l0 k 5 p0 /\
  ∃ i0 : Int, Cells w (p0.add 0) [.int .i64 i0] /\
  Calls Try.prog 41 #[.int .i64 i0] w fun e0 w0 => ∃ b0 : Bool, e0 = (.returned (.bool b0)) /\
   R (.bool (!b0)) w0
theorem v11w (k : Int) (ccap0 : Addr) (R : Value -> World -> Prop) (w : World) (h : v11v k ccap0 R w) : Cr 40 #[.int .i64 k, .pointer (some ccap0)] w R :=
 fB (an := .s .o (.s .o .o)) (args := [.int .i64 k, .ad ccap0]) h
def v13v (kind : Int) (R : Value -> World -> Prop) (w : World) : Prop :=
 R (.bool ((kind == 1) || (kind == 2))) w
theorem v13w (kind : Int) (R : Value -> World -> Prop) (w : World) (h : v13v kind R w) : Cr 41 #[.int .i64 kind] w R :=
 fB (an := .s .o (.s .o .o)) (args := [.int .i64 kind]) h
def v95v (s : Sl) (del : OV) (R : Value -> World -> Prop) (w : World) : Prop :=
  Calls Try.prog 47 #[s.v, del.v] w fun e0 w0 => ∃ i0 : Int, e0 = (.returned (.int .i64 i0)) /\
   ((i0 == (-1)) = true -> R s.v w0) /\
   ((i0 == (-1)) = false -> ∃ J0 : Nat -> Int -> Int -> World -> Prop, ∃ k0 : Nat, J0 k0 i0 (IntKind.wrap .i64 (i0 + 1)) w0 /\
   ∀ k1 : Nat, ∀ i1 i2 : Int, ∀ w1 : World, J0 k1 i1 i2 w1 -> ((decide (i2 < (s.n : Int))) = true -> ∃ J1 : Int -> World -> Prop, (∀ i3 : Int, ∀ w2 : World, J1 i3 w2 -> ∃ k2 : Nat, k2 < k1 /\
     J0 k2 i3 (IntKind.wrap .i64 (i2 + 1)) w2) /\
    ∃ p0 : Addr, SlAt s i2 1 p0 /\
    ∃ i4 : Int, Cells w1 p0 [.int .i64 i4] /\
    ∃ k3 : Nat, ∃ z0 : List Value, ∃ z1 : List Value, del.v = (.func (.func k3) z0.toArray z1.toArray) /\
    (∀ x0 : Array Value, ∀ w3 : World, ((callFunc k3 x0).run Try.prog w3) = (.ok (.enter k3 x0) w3)) /\
    Calls Try.prog k3 ((cat (cat z0 [.int .i64 i4]) z1).toArray) w1 fun e1 w4 => ∃ b0 : Bool, e1 = (.returned (.bool b0)) /\
     ((!b0) = true -> ∃ p1 : Addr, SlAt s i1 1 p1 /\
      ∃ k4 k5 : Nat, ∃ z2 : List Value, ∃ k6 : Nat, p1 = ⟨k4, k5, none⟩ /\
      Blk w4 k4 k6 z2 /\
      (k5 + 1) <= z2.length /\
      ∀ w5 : World, Only [k4] w4 w5 -> Blk w5 k4 k6 (splice z2 k5 [.int .i64 i4]) -> J1 (IntKind.wrap .i64 (i1 + 1)) w5) /\
     ((!b0) = false -> J1 i1 w4)) /\
   ((decide (i2 < (s.n : Int))) = false -> ∃ k7 : Nat, (i1 = (k7 : Int) /\
    k7 <= s.n /\
    s.n <= s.c) /\
   ∃ w6 : World, ((Builtin.clear_ #[30] 0 #[(s.cut k7 s.n s.c 1).v]).run Try.prog w1) = (.ok (.tuple #[]) w6) /\
   ∃ k8 : Nat, (i1 = (k8 : Int) /\
    k8 <= s.c) /\
   R ((s.cut 0 k8 s.c 1).v) w6))
theorem v95w (s : Sl) (del : OV) (R : Value -> World -> Prop) (w : World) (h : v95v s del R w) : Cr 38 #[s.v, del.v] w R :=
 fB (an := .s .o (.s .o (.s (.s .o (.s (.s .o .o) .o)) (.s (.s .o (.j [0, 1] [.s 5 (.int .i64), .s 6 (.int .i64)] (.s (.s .o (.s .o .o)) (.j [0, 1, 6] [.s 5 (.int .i64)] (.s .o (.s .o (.s (.s .o .o) .o))) .o)) .o)) (.s .o (.s .o .o)))))) (args := [.sl s, .raw del]) h
def v96v (s : Sl) (f : OV) (R : Value -> World -> Prop) (w : World) : Prop :=
  ∃ J0 : Nat -> Int -> World -> Prop, ∃ k0 : Nat, J0 k0 0 w /\
  ∀ k1 : Nat, ∀ i0 : Int, ∀ w0 : World, J0 k1 i0 w0 -> ((decide (i0 < (s.n : Int))) = true -> ∃ p0 : Addr, SlAt s i0 1 p0 /\
   ∃ i1 : Int, Cells w0 p0 [.int .i64 i1] /\
   ∃ k2 : Nat, ∃ z0 : List Value, ∃ z1 : List Value, f.v = (.func (.func k2) z0.toArray z1.toArray) /\
   (∀ x0 : Array Value, ∀ w1 : World, ((callFunc k2 x0).run Try.prog w1) = (.ok (.enter k2 x0) w1)) /\
   Calls Try.prog k2 ((cat (cat z0 [.int .i64 i1]) z1).toArray) w0 fun e0 w2 => ∃ b0 : Bool, e0 = (.returned (.bool b0)) /\
    (b0 = true -> R (.int .i64 i0) w2) /\
    (b0 = false -> ∃ k3 : Nat, k3 < k1 /\
    J0 k3 (IntKind.wrap .i64 (i0 + 1)) w2)) /\
  ((decide (i0 < (s.n : Int))) = false -> R (.int .i64 (-1)) w0)
theorem v96w (s : Sl) (f : OV) (R : Value -> World -> Prop) (w : World) (h : v96v s f R w) : Cr 47 #[s.v, f.v] w R :=
 fB (an := .s .o (.s (.s .o (.j [0, 1, 7] [.s 8 (.int .i64)] (.s .o (.s (.s .o .o) (.s (.s .o (.s .o (.s (.s .o .o) .o))) .o))) .o)) (.s .o .o))) (args := [.sl s, .raw f]) h
def v9v (c : Addr) (out : Sl) (n_ k : Int) (R : Value -> World -> Prop) (w : World) : Prop :=
  ∃ l0 : Sl, ∃ w0 : World, ((Instr.buildSlice 30 1 #[.mk 0 (.int .i64 n_)]).run Try.prog w) = (.ok l0.v w0) /\
  ∃ l1 : Sl, ∃ w1 : World, ((Builtin.append_ #[30, 30] 30 #[out.v, l0.v]).run Try.prog w0) = (.ok l1.v w1) /\
  ∃ l2 : Sl, Cells w1 (c.add 0) [l2.v] /\
  Calls Try.prog 26 #[l2.v, .int .i64 n_] w1 fun e0 w2 => ∃ l3 : Sl, e0 = (.returned l3.v) /\
   ∃ l4 : Sl, Cells w2 (c.add 0) [l4.v] /\
   ∃ p0 : Addr, SlAt l4 n_ 5 p0 /\
   ∃ i0 : Int, Cells w2 (p0.add 0) [.int .i64 i0] /\
   ((i0 == 1) = true -> ∃ J0 : Nat -> Int -> Int -> World -> Prop, ∃ k0 : Nat, J0 k0 k 0 w2 /\
    ∀ k1 : Nat, ∀ i1 i2 : Int, ∀ w3 : World, J0 k1 i1 i2 w3 -> ((decide (i2 < (l3.n : Int))) = true -> ∃ p1 : Addr, SlAt l3 i2 1 p1 /\
     ∃ i3 : Int, Cells w3 p1 [.int .i64 i3] /\
     ∃ l5 : Sl, Cells w3 (c.add 1) [l5.v] /\
     ∃ p2 : Addr, SlAt l5 i3 1 p2 /\
     ∃ i4 : Int, Cells w3 p2 [.int .i64 i4] /\
     ((decide (i1 < i4)) = true -> Calls Try.prog 19 #[.pointer (some c), l1.v, .int .i64 i3, .int .i64 i1] w3 fun e1 w4 => ∃ l6 : Sl, e1 = (.returned l6.v) /\
       R l6.v w4) /\
     ((decide (i1 < i4)) = false -> ∃ l7 : Sl, Cells w3 (c.add 1) [l7.v] /\
     ∃ p3 : Addr, SlAt l7 i3 1 p3 /\
     ∃ i5 : Int, Cells w3 p3 [.int .i64 i5] /\
     ∃ k2 : Nat, k2 < k1 /\
     J0 k2 (IntKind.wrap .i64 (i1 - i5)) (IntKind.wrap .i64 (i2 + 1)) w3)) /\
    ((decide (i2 < (l3.n : Int))) = false -> R l1.v w3)) /\
   ((i0 == 1) = false -> ∃ l8 : Sl, ∃ w5 : World, ((Instr.makeSlice 30 (.int .i64 (l3.n : Int)) (.int .i64 (l3.n : Int))).run Try.prog w2) = (.ok l8.v w5) /\
   ∃ J1 : Nat -> Int -> Int -> World -> Prop, ∃ k3 : Nat, J1 k3 k (IntKind.wrap .i64 ((l3.n : Int) - 1)) w5 /\
   ∀ k4 : Nat, ∀ i6 i7 : Int, ∀ w6 : World, J1 k4 i6 i7 w6 -> ((decide (i7 >= 0)) = true -> ∀ w7 : World, Only [] w6 w7 -> ∃ l9 : Sl, Cells w7 (c.add 1) [l9.v] /\
    ∃ p4 : Addr, SlAt l3 i7 1 p4 /\
    ∃ i8 : Int, Cells w7 p4 [.int .i64 i8] /\
    ∃ p5 : Addr, SlAt l9 i8 1 p5 /\
    ∃ i9 : Int, Cells w7 p5 [.int .i64 i9] /\
    i9 ≠ 0 /\
    ∃ p6 : Addr, SlAt l8 i7 1 p6 /\
    ∃ k5 k6 : Nat, ∃ z0 : List Value, ∃ k7 : Nat, p6 = ⟨k5, k6, none⟩ /\
    Blk w7 k5 k7 z0 /\
    (k6 + 1) <= z0.length /\
    ∀ w8 : World, Only [k5] w7 w8 -> Blk w8 k5 k7 (splice z0 k6 [.int .i64 (i6.tmod i9)]) -> ∃ l10 : Sl, Cells w8 (c.add 1) [l10.v] /\
    ∃ p7 : Addr, SlAt l3 i7 1 p7 /\
    ∃ i10 : Int, Cells w8 p7 [.int .i64 i10] /\
    ∃ p8 : Addr, SlAt l10 i10 1 p8 /\
    ∃ i11 : Int, Cells w8 p8 [.int .i64 i11] /\
    i11 ≠ 0 /\
    ∀ w9 : World, Only [] w8 w9 -> ∃ k8 : Nat, k8 < k4 /\
    J1 k8 (IntKind.wrap .i64 (i6.tdiv i11)) (IntKind.wrap .i64 (i7 - 1)) w9) /\
   ((decide (i7 >= 0)) = false -> ∃ J2 : Nat -> Sl -> Int -> World -> Prop, ∃ k9 : Nat, J2 k9 l1 0 w6 /\
   ∀ k10 : Nat, ∀ l11 : Sl, ∀ i12 : Int, ∀ w10 : World, J2 k10 l11 i12 w10 -> ((decide (i12 < (l3.n : Int))) = true -> ∃ p9 : Addr, SlAt l3 i12 1 p9 /\
    ∃ i13 : Int, Cells w10 p9 [.int .i64 i13] /\
    ∃ p10 : Addr, SlAt l8 i12 1 p10 /\
    ∃ i14 : Int, Cells w10 p10 [.int .i64 i14] /\
    Calls Try.prog 19 #[.pointer (some c), l11.v, .int .i64 i13, .int .i64 i14] w10 fun e2 w11 => ∃ l12 : Sl, e2 = (.returned l12.v) /\
     ∃ k11 : Nat, k11 < k10 /\
     J2 k11 l12 (IntKind.wrap .i64 (i12 + 1)) w11) /\
   ((decide (i12 < (l3.n : Int))) = false -> R l11.v w10)))
theorem v9w (c : Addr) (out : Sl) (n_ k : Int) (R : Value -> World -> Prop) (w : World) (h : v9v c out n_ k R w) : Cr 19 #[.pointer (some c), out.v, .int .i64 n_, .int .i64 k] w R :=
 fB (an := .s .o (.s .o (.s .o (.s (.s .o (.s (.s (.s .o (.j [0, 1, 35, 36] [.s 3 (.int .i64), .s 37 (.int .i64)] (.s .o (.s (.s .o .o) (.s (.s .o (.s (.s .o (.s (.s .o .o) .o)) .o)) .o))) .o)) (.s .o .o)) .o)) (.s .o (.s (.s .o (.j [0, 1, 9, 12] [.s 3 (.int .i64), .s 13 (.int .i64)] (.s (.s .o (.s .o .o)) (.s (.s .o .o) .o)) .o)) (.s (.s .o (.j [0, 12, 103, 104] [.s 1 .sl, .s 105 (.int .i64)] (.s .o (.s (.s .o .o) (.s (.s .o .o) .o))) .o)) (.s .o .o)))))))) (args := [.ad c, .sl out, .int .i64 n_, .int .i64 k]) h
def v6v (l active : Sl) (R : Value -> World -> Prop) (w : World) : Prop :=
  Calls Try.prog 18 #[l.v] w fun e0 w0 => ∃ q0 : Option Addr, e0 = (.returned (.pointer q0)) /\
   ∃ J0 : Bool -> World -> Prop, (∀ b0 : Bool, ∀ w1 : World, J0 b0 w1 -> (b0 = true -> R (.tuple #[.int .i64 0, .bool false]) w1) /\
    (b0 = false -> Calls Try.prog 21 #[.pointer q0, .int .i64 0, active.v] w1 fun e1 w2 => ∃ i0 : Int, e1 = (.returned (.int .i64 i0)) /\
     R (.tuple #[.int .i64 i0, .bool true]) w2)) /\
   (((l.n : Int) == 0) = true -> J0 true w0) /\
   (((l.n : Int) == 0) = false -> Calls Try.prog 15 #[l.v, active.v] w0 fun e2 w3 => ∃ b1 : Bool, e2 = (.returned (.bool b1)) /\
    J0 (!b1) w3)
theorem v6w (l active : Sl) (R : Value -> World -> Prop) (w : World) (h : v6v l active R w) : Cr 9 #[l.v, active.v] w R :=
 fB (an := .s .o (.s .o (.s (.s (.j [1, 6] [.s 17 .bool] .o .o) (.s (.s .o .o) .o)) (.s .o .o)))) (args := [.sl l, .sl active]) h
def v3v (n_ : Int) (ccap0 ccap1 ccap2 ccap3 : Addr) (R : Value -> World -> Prop) (w : World) : Prop :=
  ∃ i0 : Int, Cells w ccap0 [.int .i64 i0] /\
  ∃ k0 k1 : Nat, ∃ z0 : List Value, ∃ k2 : Nat, ccap0 = ⟨k0, k1, none⟩ /\
  Blk w k0 k2 z0 /\
  (k1 + 1) <= z0.length /\
  ∀ w0 : World, Only [k0] w w0 -> Blk w0 k0 k2 (splice z0 k1 [.int .i64 (IntKind.wrap .i64 (i0 - 1))]) -> ∃ l0 : Sl, Cells w0 ccap1 [l0.v] /\
  Calls Try.prog 26 #[l0.v, .int .i64 n_] w0 fun e0 w1 => ∃ l1 : Sl, e0 = (.returned l1.v) /\
   ∃ J0 : Nat -> Int -> Int -> World -> Prop, ∃ k3 : Nat, J0 k3 0 0 w1 /\
   ∀ k4 : Nat, ∀ i1 i2 : Int, ∀ w2 : World, J0 k4 i1 i2 w2 -> ((decide (i2 < (l1.n : Int))) = true -> ∃ J1 : Int -> World -> Prop, (∀ i3 : Int, ∀ w3 : World, J1 i3 w3 -> ∃ k5 : Nat, k5 < k4 /\
     J0 k5 i3 (IntKind.wrap .i64 (i2 + 1)) w3) /\
    ∃ p0 : Addr, SlAt l1 i2 1 p0 /\
    ∃ i4 : Int, Cells w2 p0 [.int .i64 i4] /\
    ∃ l2 : Sl, Cells w2 ccap2 [l2.v] /\
    Calls Try.prog 27 #[l2.v, .int .i64 i4] w2 fun e1 w4 => ∃ i5 : Int, ∃ b0 : Bool, e1 = (.returned (.tuple #[.int .i64 i5, .bool b0])) /\
     (b0 = true -> ∃ v0 : OV, Cells w4 ccap3 [v0.v] /\
      ∃ k6 : Nat, ∃ z1 : List Value, ∃ z2 : List Value, v0.v = (.func (.func k6) z1.toArray z2.toArray) /\
      (∀ x0 : Array Value, ∀ w5 : World, ((callFunc k6 x0).run Try.prog w5) = (.ok (.enter k6 x0) w5)) /\
      Calls Try.prog k6 ((cat (cat z1 [.int .i64 i4]) z2).toArray) w4 fun e2 w6 => ∃ b1 : Bool, e2 = (.returned (.bool b1)) /\
       ((!b1) = true -> R (.bool false) w6) /\
       ((!b1) = false -> J1 (IntKind.wrap .i64 (i1 + 1)) w6)) /\
     (b0 = false -> J1 i1 w4)) /\
   ((decide (i2 < (l1.n : Int))) = false -> ∃ l3 : Sl, Cells w2 ccap1 [l3.v] /\
   ∃ p1 : Addr, SlAt l3 n_ 5 p1 /\
   ∃ i6 : Int, Cells w2 (p1.add 0) [.int .i64 i6] /\
   ((i6 == 2) = true -> R (.bool (i1 == (l1.n : Int))) w2) /\
   ((i6 == 2) = false -> R (.bool ((i1 == 1) || ((l1.n : Int) == 0))) w2))
theorem v3w (n_ : Int) (ccap0 ccap1 ccap2 ccap3 : Addr) (R : Value -> World -> Prop) (w : World) (h : v3v n_ ccap0 ccap1 ccap2 ccap3 R w) : Cr 25 #[.int .i64 n_, .pointer (some ccap0), .pointer (some ccap1), .pointer (some ccap2), .pointer (some ccap3)] w R :=
 fB (an := .s .o (.s .o (.s .o (.s .o (.s (.s .o (.j [0, 2, 3, 4, 8, 18, 19] [.s 7 (.int .i64), .s 20 (.int .i64)] (.s .o (.s (.s .o .o) (.j [0, 2, 3, 4, 8, 18, 19, 20] [.s 7 (.int .i64)] (.s .o (.s .o (.s .o (.s (.s .o (.s .o (.s (.s .o .o) .o))) .o)))) .o))) .o)) (.s (.s .o (.s (.s .o .o) .o)) (.s .o .o))))))) (args := [.int .i64 n_, .ad ccap0, .ad ccap1, .ad ccap2, .ad ccap3]) h
def v10v (c : Addr) (n_ : Int) (active : Sl) (R : Value -> World -> Prop) (w : World) : Prop :=
  ∃ l0 : Sl, Cells w (c.add 0) [l0.v] /\
  Calls Try.prog 26 #[l0.v, .int .i64 n_] w fun e0 w0 => ∃ l1 : Sl, e0 = (.returned l1.v) /\
   ∃ J0 : Nat -> Int -> Int -> World -> Prop, ∃ k0 : Nat, J0 k0 0 0 w0 /\
   ∀ k1 : Nat, ∀ i0 i1 : Int, ∀ w1 : World, J0 k1 i0 i1 w1 -> ((decide (i1 < (l1.n : Int))) = true -> ∃ J1 : Int -> World -> Prop, (∀ i2 : Int, ∀ w2 : World, J1 i2 w2 -> ∃ k2 : Nat, k2 < k1 /\
     J0 k2 i2 (IntKind.wrap .i64 (i1 + 1)) w2) /\
    ∃ p0 : Addr, SlAt l1 i1 1 p0 /\
    ∃ i3 : Int, Cells w1 p0 [.int .i64 i3] /\
    Calls Try.prog 27 #[active.v, .int .i64 i3] w1 fun e1 w3 => ∃ i4 : Int, ∃ b0 : Bool, e1 = (.returned (.tuple #[.int .i64 i4, .bool b0])) /\
     ∃ l2 : Sl, Cells w3 (c.add 0) [l2.v] /\
     ∃ p1 : Addr, SlAt l2 n_ 5 p1 /\
     ∃ i5 : Int, Cells w3 (p1.add 0) [.int .i64 i5] /\
     ((i5 == 2) = true -> ∀ w4 : World, Only [] w3 w4 -> ∃ J2 : Nat -> Prop, J2 ((c.add 1).block) /\
      ∃ l3 : Sl, Cells w4 (c.add 1) [l3.v] /\
      ∃ p2 : Addr, SlAt l3 i3 1 p2 /\
      J2 p2.block /\
      ∃ i6 : Int, Cells w4 p2 [.int .i64 i6] /\
      Calls Try.prog 21 #[.pointer (some c), .int .i64 i3, active.v] w4 fun e2 w5 => ∃ i7 : Int, e2 = (.returned (.int .i64 i7)) /\
       Keeps J2 w4 w5 /\
       J1 (IntKind.wrap .i64 ((IntKind.wrap .i64 (i0 * i6)) + i7)) w5) /\
     ((i5 == 2) = false -> (b0 = true -> Calls Try.prog 21 #[.pointer (some c), .int .i64 i3, active.v] w3 fun e3 w6 => ∃ i8 : Int, e3 = (.returned (.int .i64 i8)) /\
       R (.int .i64 (IntKind.wrap .i64 (i0 + i8))) w6) /\
     (b0 = false -> ∃ l4 : Sl, Cells w3 (c.add 1) [l4.v] /\
     ∃ p3 : Addr, SlAt l4 i3 1 p3 /\
     ∃ i9 : Int, Cells w3 p3 [.int .i64 i9] /\
     J1 (IntKind.wrap .i64 (i0 + i9)) w3))) /\
   ((decide (i1 < (l1.n : Int))) = false -> R (.int .i64 i0) w1)
theorem v10w (c : Addr) (n_ : Int) (active : Sl) (R : Value -> World -> Prop) (w : World) (h : v10v c n_ active R w) : Cr 21 #[.pointer (some c), .int .i64 n_, active.v] w R :=
 fB (an := .s .o (.s .o (.s (.s .o (.j [0, 1, 2, 17, 18] [.s 7 (.int .i64), .s 19 (.int .i64)] (.s .o (.s (.s .o .o) (.j [0, 1, 2, 17, 18, 19] [.s 7 (.int .i64)] (.s .o (.s .o (.s .o (.s .o (.s .o (.s (.s .o .o) .o)))))) .o))) .o)) (.s .o .o)))) (args := [.ad c, .int .i64 n_, .sl active]) h
def v2v (l : Sl) (R : Value -> World -> Prop) (w : World) : Prop :=
  (((l.n : Int) == 0) = true -> R (.int .i64 0) w) /\
  (((l.n : Int) == 0) = false -> Calls Try.prog 18 #[l.v] w fun e0 w0 => ∃ q0 : Option Addr, e0 = (.returned (.pointer q0)) /\
   ∃ p0 : Addr, q0 = (some p0) /\
   ∃ l0 : Sl, Cells w0 (p0.add 1) [l0.v] /\
   ∃ p1 : Addr, SlAt l0 0 1 p1 /\
   ∃ i0 : Int, Cells w0 p1 [.int .i64 i0] /\
   R (.int .i64 i0) w0)
theorem v2w (l : Sl) (R : Value -> World -> Prop) (w : World) (h : v2v l R w) : Cr 12 #[l.v] w R :=
 fB (an := .s .o (.s (.s .o (.s (.s .o .o) .o)) (.s .o .o))) (args := [.sl l]) h
def v17v (c : Sl) (c1 : Int) (c2 c3 c4 : ByteArray) (c5 c6 c7 c8 : Sl) (c9 : Int) (R : Value -> World -> Prop) (w : World) : Prop :=
  ∀ k0 : Nat, ∀ w0 : World, w.heap.size <= k0 -> k0 < w0.heap.size -> Only [] w w0 -> Calls Try.prog 16 #[.agg #[c.v, .int .i64 c1, .string c2, .string c3, .string c4, c5.v, c6.v, c7.v, c8.v, .int .i64 c9]] w0 fun e0 w1 => ∃ i0 i1 : Int, e0 = (.returned (.agg #[.int .i64 i0, .int .i64 i1])) /\
   Same [k0] w0 w1 /\
   ((i0 != 0) = true -> ∀ k1 : Nat, ∀ w2 : World, w1.heap.size <= k1 -> k1 < w2.heap.size -> Only [] w1 w2 -> R Sl.nil.v w2) /\
   ((i0 != 0) = false -> ∀ k2 : Nat, ∀ w3 : World, w1.heap.size <= k2 -> k2 < w3.heap.size -> Only [] w1 w3 -> Calls Try.prog 17 #[.agg #[c.v, .int .i64 c1, .string c2, .string c3, .string c4, c5.v, c6.v, c7.v, c8.v, .int .i64 c9]] w3 fun e1 w4 => ∃ l0 : Sl, e1 = (.returned l0.v) /\
    Same [k0, k2] w3 w4 /\
    R l0.v w4)
theorem v17w (c : Sl) (c1 : Int) (c2 c3 c4 : ByteArray) (c5 c6 c7 c8 : Sl) (c9 : Int) (R : Value -> World -> Prop) (w : World) (h : v17v c c1 c2 c3 c4 c5 c6 c7 c8 c9 R w) : Cr 6 #[.agg #[c.v, .int .i64 c1, .string c2, .string c3, .string c4, c5.v, c6.v, c7.v, c8.v, .int .i64 c9]] w R :=
 fB (an := .s .o (.s .o (.s (.s .o (.s (.s .o .o) .o)) (.s .o .o)))) (args := [.agg (ofL [.sl c, .int .i64 c1, .str c2, .str c3, .str c4, .sl c5, .sl c6, .sl c7, .sl c8, .int .i64 c9])]) h
def v75v (c : Sl) (c1 : Int) (c2 c3 c4 : ByteArray) (c5 c6 c7 c8 : Sl) (c9 : Int) (R : Value -> World -> Prop) (w : World) : Prop :=
  ∀ k0 k1 : Nat, ∀ w0 : World, w.heap.size <= k0 -> k0 < w0.heap.size -> w.heap.size <= k1 -> k1 < w0.heap.size -> Only [] w w0 -> Calls Try.prog 28 #[.agg #[c.v, .int .i64 c1, .string c2, .string c3, .string c4, c5.v, c6.v, c7.v, c8.v, .int .i64 c9]] w0 fun e0 w1 => ∃ l0 : Sl, ∃ i0 : Int, e0 = (.returned (.tuple #[l0.v, .int .i64 i0])) /\
   Same [k0, k1] w0 w1 /\
   ((i0 != 0) = true -> ∀ w2 : World, Only [k1] w1 w2 -> R (.agg #[.int .i64 i0, .int .i64 (-1)]) w2) /\
   ((i0 != 0) = false -> ∀ k2 : Nat, ∀ w3 : World, w1.heap.size <= k2 -> k2 < w3.heap.size -> Only [] w1 w3 -> Calls Try.prog 29 #[.agg #[.int .i64 c1, .string c2, .string c3, .string c4, c5.v, c6.v, c7.v, c8.v, .int .i64 c9], Sl.nil.v] w3 fun e1 w4 => ∃ l1 : Sl, e1 = (.returned l1.v) /\
    Same [k0, k1, k2] w3 w4 /\
    ∃ J0 : Nat -> Int -> Sl -> Int -> ByteArray -> ByteArray -> ByteArray -> Sl -> Sl -> Sl -> Sl -> Int -> Sl -> Int -> Int -> World -> Prop, ∃ k3 : Nat, J0 k3 0 c c1 c2 c3 c4 c5 c6 c7 c8 c9 l0 0 0 w4 /\
    ∀ k4 : Nat, ∀ i1 : Int, ∀ l2 : Sl, ∀ i2 : Int, ∀ s0 s1 s2 : ByteArray, ∀ l3 l4 l5 l6 : Sl, ∀ i3 : Int, ∀ l7 : Sl, ∀ i4 i5 : Int, ∀ w5 : World, J0 k4 i1 l2 i2 s0 s1 s2 l3 l4 l5 l6 i3 l7 i4 i5 w5 -> ((decide (i1 < (l0.n : Int))) = true -> ∃ J1 : Sl -> Int -> ByteArray -> ByteArray -> ByteArray -> Sl -> Sl -> Sl -> Sl -> Int -> Sl -> Int -> Int -> World -> Prop, (∀ l8 : Sl, ∀ i6 : Int, ∀ s3 s4 s5 : ByteArray, ∀ l9 l10 l11 l12 : Sl, ∀ i7 : Int, ∀ l13 : Sl, ∀ i8 i9 : Int, ∀ w6 : World, J1 l8 i6 s3 s4 s5 l9 l10 l11 l12 i7 l13 i8 i9 w6 -> ∃ k5 : Nat, k5 < k4 /\
      J0 k5 (IntKind.wrap .i64 (i1 + 1)) l8 i6 s3 s4 s5 l9 l10 l11 l12 i7 l13 i8 i9 w6) /\
     ∃ p0 : Addr, SlAt l0 i1 5 p0 /\
     ∃ s6 : ByteArray, Cells w5 (p0.add 1) [.string s6] /\
     Calls Try.prog 30 #[l0.v, .string s6] w5 fun e2 w7 => ∃ i10 : Int, e2 = (.returned (.int .i64 i10)) /\
      Same [k0, k1, k2] w5 w7 /\
      ((i10 != i1) = true -> ∃ p1 : Addr, SlAt l1 i1 1 p1 /\
       ∃ i11 : Int, Cells w7 p1 [.int .i64 i11] /\
       (Blk w7 k2 66 [l2.v, .int .i64 i2, .string s0, .string s1, .string s2, l3.v, l4.v, l5.v, l6.v, .int .i64 i3, l7.v, .int .i64 i4, .int .i64 i5] -> k0 ≠ k2 -> k1 ≠ k2 -> Calls Try.prog 31 #[.pointer (some ⟨k2, 0, none⟩), .int .i64 24, .int .i64 i11] w7 fun e3 w8 => e3 = (.returned (.tuple #[])) /\
        Same [k0, k1] w7 w8 /\
        ∃ l14 : Sl, ∃ i12 : Int, ∃ s7 s8 s9 : ByteArray, ∃ l15 l16 l17 l18 : Sl, ∃ i13 : Int, ∃ l19 : Sl, ∃ i14 i15 : Int, Blk w8 k2 66 [l14.v, .int .i64 i12, .string s7, .string s8, .string s9, l15.v, l16.v, l17.v, l18.v, .int .i64 i13, l19.v, .int .i64 i14, .int .i64 i15] /\
        J1 l14 i12 s7 s8 s9 l15 l16 l17 l18 i13 l19 i14 i15 w8)) /\
      ((i10 != i1) = false -> J1 l2 i2 s0 s1 s2 l3 l4 l5 l6 i3 l7 i4 i5 w7)) /\
    ((decide (i1 < (l0.n : Int))) = false -> ∃ J2 : Nat -> Int -> Sl -> Int -> ByteArray -> ByteArray -> ByteArray -> Sl -> Sl -> Sl -> Sl -> Int -> Sl -> Int -> Int -> World -> Prop, ∃ k6 : Nat, J2 k6 0 l2 i2 s0 s1 s2 l3 l4 l5 l6 i3 l7 i4 i5 w5 /\
    ∀ k7 : Nat, ∀ i16 : Int, ∀ l20 : Sl, ∀ i17 : Int, ∀ s10 s11 s12 : ByteArray, ∀ l21 l22 l23 l24 : Sl, ∀ i18 : Int, ∀ l25 : Sl, ∀ i19 i20 : Int, ∀ w9 : World, J2 k7 i16 l20 i17 s10 s11 s12 l21 l22 l23 l24 i18 l25 i19 i20 w9 -> ((decide (i16 < (c.n : Int))) = true -> ∃ J3 : Nat -> Int -> Sl -> Int -> ByteArray -> ByteArray -> ByteArray -> Sl -> Sl -> Sl -> Sl -> Int -> Sl -> Int -> Int -> World -> Prop, ∃ k8 : Nat, J3 k8 0 l20 i17 s10 s11 s12 l21 l22 l23 l24 i18 l25 i19 i20 w9 /\
     ∀ k9 : Nat, ∀ i21 : Int, ∀ l26 : Sl, ∀ i22 : Int, ∀ s13 s14 s15 : ByteArray, ∀ l27 l28 l29 l30 : Sl, ∀ i23 : Int, ∀ l31 : Sl, ∀ i24 i25 : Int, ∀ w10 : World, J3 k9 i21 l26 i22 s13 s14 s15 l27 l28 l29 l30 i23 l31 i24 i25 w10 -> ((decide (i21 < i16)) = true -> ∃ J4 : Sl -> Int -> ByteArray -> ByteArray -> ByteArray -> Sl -> Sl -> Sl -> Sl -> Int -> Sl -> Int -> Int -> World -> Prop, (∀ l32 : Sl, ∀ i26 : Int, ∀ s16 s17 s18 : ByteArray, ∀ l33 l34 l35 l36 : Sl, ∀ i27 : Int, ∀ l37 : Sl, ∀ i28 i29 : Int, ∀ w11 : World, J4 l32 i26 s16 s17 s18 l33 l34 l35 l36 i27 l37 i28 i29 w11 -> ∃ k10 : Nat, k10 < k9 /\
       J3 k10 (IntKind.wrap .i64 (i21 + 1)) l32 i26 s16 s17 s18 l33 l34 l35 l36 i27 l37 i28 i29 w11) /\
      ∃ p2 : Addr, SlAt c i21 3 p2 /\
      ∃ s19 : ByteArray, Cells w10 (p2.add 0) [.string s19] /\
      ∃ p3 : Addr, SlAt c i16 3 p3 /\
      ∃ s20 : ByteArray, Cells w10 (p3.add 0) [.string s20] /\
      ((s19.toList == s20.toList) = true -> ∃ p4 : Addr, SlAt c i16 3 p4 /\
       ∀ w12 : World, Only [] w10 w12 -> ∃ i30 : Int, Cells w12 (p4.add 2) [.int .i64 i30] /\
       (Blk w12 k2 66 [l26.v, .int .i64 i22, .string s13, .string s14, .string s15, l27.v, l28.v, l29.v, l30.v, .int .i64 i23, l31.v, .int .i64 i24, .int .i64 i25] -> k0 ≠ k2 -> k1 ≠ k2 -> Calls Try.prog 31 #[.pointer (some ⟨k2, 0, none⟩), .int .i64 24, .int .i64 i30] w12 fun e4 w13 => e4 = (.returned (.tuple #[])) /\
        Same [k0, k1] w12 w13 /\
        ∃ l38 : Sl, ∃ i31 : Int, ∃ s21 s22 s23 : ByteArray, ∃ l39 l40 l41 l42 : Sl, ∃ i32 : Int, ∃ l43 : Sl, ∃ i33 i34 : Int, Blk w13 k2 66 [l38.v, .int .i64 i31, .string s21, .string s22, .string s23, l39.v, l40.v, l41.v, l42.v, .int .i64 i32, l43.v, .int .i64 i33, .int .i64 i34] /\
        J4 l38 i31 s21 s22 s23 l39 l40 l41 l42 i32 l43 i33 i34 w13)) /\
      ((s19.toList == s20.toList) = false -> ∀ w14 : World, Only [] w10 w14 -> J4 l26 i22 s13 s14 s15 l27 l28 l29 l30 i23 l31 i24 i25 w14)) /\
     ((decide (i21 < i16)) = false -> ∃ k11 : Nat, k11 < k7 /\
     J2 k11 (IntKind.wrap .i64 (i16 + 1)) l26 i22 s13 s14 s15 l27 l28 l29 l30 i23 l31 i24 i25 w10)) /\
    ((decide (i16 < (c.n : Int))) = false -> Blk w9 k2 66 [l20.v, .int .i64 i17, .string s10, .string s11, .string s12, l21.v, l22.v, l23.v, l24.v, .int .i64 i18, l25.v, .int .i64 i19, .int .i64 i20] -> k0 ≠ k2 -> k1 ≠ k2 -> Calls Try.prog 32 #[.pointer (some ⟨k2, 0, none⟩), .agg #[.int .i64 c1, .string c2, .string c3, .string c4, c5.v, c6.v, c7.v, c8.v, .int .i64 c9], .int .i64 0] w9 fun e5 w15 => ∃ i35 : Int, e5 = (.returned (.int .i64 i35)) /\
     Same [k0, k1] w9 w15 /\
     ∃ l44 : Sl, ∃ i36 : Int, ∃ s24 s25 s26 : ByteArray, ∃ l45 l46 l47 l48 : Sl, ∃ i37 : Int, ∃ l49 : Sl, ∃ i38 i39 : Int, Blk w15 k2 66 [l44.v, .int .i64 i36, .string s24, .string s25, .string s26, l45.v, l46.v, l47.v, l48.v, .int .i64 i37, l49.v, .int .i64 i38, .int .i64 i39] /\
     ∀ w16 : World, Only [k1] w15 w16 -> Blk w16 k2 66 [l44.v, .int .i64 i36, .string s24, .string s25, .string s26, l45.v, l46.v, l47.v, l48.v, .int .i64 i37, l49.v, .int .i64 i38, .int .i64 i39] -> R (.agg #[.int .i64 i38, .int .i64 i39]) w16)))
theorem v75w (c : Sl) (c1 : Int) (c2 c3 c4 : ByteArray) (c5 c6 c7 c8 : Sl) (c9 : Int) (R : Value -> World -> Prop) (w : World) (h : v75v c c1 c2 c3 c4 c5 c6 c7 c8 c9 R w) : Cr 16 #[.agg #[c.v, .int .i64 c1, .string c2, .string c3, .string c4, c5.v, c6.v, c7.v, c8.v, .int .i64 c9]] w R :=
 fB (an := .s .o (.s .o (.s (.s .o (.s (.s .o .o) .o)) (.s .o (.s .o (.s (.s .o (.j [1, 2, 3, 5, 6, 22] [.s 7 (.int .i64), .b 22 [.sl, .int .i64, .str, .str, .str, .sl, .sl, .sl, .sl, .int .i64, .sl, .int .i64, .int .i64]] (.s (.s .o (.s .o .o)) (.j [1, 2, 3, 5, 6, 7, 22] [.b 22 [.sl, .int .i64, .str, .str, .str, .sl, .sl, .sl, .sl, .int .i64, .sl, .int .i64, .int .i64]] (.s .o (.s .o .o)) .o)) .o)) (.s (.s .o (.j [1, 2, 5, 22] [.s 8 (.int .i64), .b 22 [.sl, .int .i64, .str, .str, .str, .sl, .sl, .sl, .sl, .int .i64, .sl, .int .i64, .int .i64]] (.s (.s .o (.s .o .o)) (.s (.s .o (.j [1, 2, 5, 8, 22] [.s 9 (.int .i64), .b 22 [.sl, .int .i64, .str, .str, .str, .sl, .sl, .sl, .sl, .int .i64, .sl, .int .i64, .int .i64]] (.s (.s .o (.s .o .o)) (.j [1, 2, 5, 8, 9, 22] [.b 22 [.sl, .int .i64, .str, .str, .str, .sl, .sl, .sl, .sl, .int .i64, .sl, .int .i64, .int .i64]] (.s .o (.s .o .o)) .o)) .o)) .o)) .o)) (.s .o (.s .o .o))))))))) (args := [.agg (ofL [.sl c, .int .i64 c1, .str c2, .str c3, .str c4, .sl c5, .sl c6, .sl c7, .sl c8, .int .i64 c9])]) h
def v69v (c : Sl) (c1 : Int) (c2 c3 c4 : ByteArray) (c5 c6 c7 c8 : Sl) (c9 : Int) (R : Value -> World -> Prop) (w : World) : Prop :=
  ∀ k0 : Nat, ∀ w0 : World, w.heap.size <= k0 -> k0 < w0.heap.size -> Only [] w w0 -> Calls Try.prog 44 #[.agg #[c.v, .int .i64 c1, .string c2, .string c3, .string c4, c5.v, c6.v, c7.v, c8.v, .int .i64 c9]] w0 fun e0 w1 => ∃ s0 : ByteArray, ∃ i0 : Int, e0 = (.returned (.tuple #[.string s0, .int .i64 i0])) /\
   Same [k0] w0 w1 /\
   ((i0 != 0) = true -> R (.tuple #[Sl.nil.v, .int .i64 i0]) w1) /\
   ((i0 != 0) = false -> Calls Try.prog 17 #[.agg #[c.v, .int .i64 c1, .string c2, .string c3, .string c4, c5.v, c6.v, c7.v, c8.v, .int .i64 c9]] w1 fun e1 w2 => ∃ l0 : Sl, e1 = (.returned l0.v) /\
    Same [k0] w1 w2 /\
    R (.tuple #[l0.v, .int .i64 0]) w2)
theorem v69w (c : Sl) (c1 : Int) (c2 c3 c4 : ByteArray) (c5 c6 c7 c8 : Sl) (c9 : Int) (R : Value -> World -> Prop) (w : World) (h : v69v c c1 c2 c3 c4 c5 c6 c7 c8 c9 R w) : Cr 28 #[.agg #[c.v, .int .i64 c1, .string c2, .string c3, .string c4, c5.v, c6.v, c7.v, c8.v, .int .i64 c9]] w R :=
 fB (an := .s .o (.s .o (.s (.s .o (.s (.s .o .o) .o)) (.s .o .o)))) (args := [.agg (ofL [.sl c, .int .i64 c1, .str c2, .str c3, .str c4, .sl c5, .sl c6, .sl c7, .sl c8, .int .i64 c9])]) h
def v54v (c : Sl) (c1 : Int) (c2 c3 c4 : ByteArray) (c5 c6 c7 c8 : Sl) (c9 : Int) (R : Value -> World -> Prop) (w : World) : Prop :=
  ∀ k0 : Nat, ∀ w0 : World, w.heap.size <= k0 -> k0 < w0.heap.size -> Only [] w w0 -> Calls Try.prog 50 #[.agg #[c.v, .int .i64 c1, .string c2, .string c3, .string c4, c5.v, c6.v, c7.v, c8.v, .int .i64 c9]] w0 fun e0 w1 => ∃ b0 : Bool, e0 = (.returned (.bool b0)) /\
   Same [k0] w0 w1 /\
   ((!b0) = true -> R (.tuple #[.string (ByteArray.mk #[]), .int .i64 22]) w1) /\
   ((!b0) = false -> (6 + (c2.size : Int)) <= 9223372036854775807 /\
   ((((ByteArray.mk #[99, 104, 97, 114, 116, 32]) ++ c2).size : Int) + 2) <= 9223372036854775807 /\
   ∀ k1 : Nat, ∀ w2 : World, w1.heap.size <= k1 -> k1 < w2.heap.size -> Only [] w1 w2 -> Blk w2 k1 89 [Sl.nil.v] -> Calls Try.prog 51 #[.pointer (some ⟨k1, 0, none⟩), .int .i64 0, .string (((ByteArray.mk #[99, 104, 97, 114, 116, 32]) ++ c2) ++ (ByteArray.mk #[32, 123]))] w2 fun e1 w3 => e1 = (.returned (.tuple #[])) /\
    Same [k0] w2 w3 /\
    ∃ l0 : Sl, Blk w3 k1 89 [l0.v] /\
    ∃ J0 : Nat -> Int -> Sl -> World -> Prop, ∃ k2 : Nat, J0 k2 0 l0 w3 /\
    ∀ k3 : Nat, ∀ i0 : Int, ∀ l1 : Sl, ∀ w4 : World, J0 k3 i0 l1 w4 -> ((decide (i0 < (c.n : Int))) = true -> ∀ w5 : World, Only [] w4 w5 -> Blk w5 k1 89 [l1.v] -> ∃ J1 : Nat -> Prop, J1 k0 /\
     ∃ p0 : Addr, SlAt c i0 3 p0 /\
     J1 ((p0.add 0).block) /\
     ∃ s0 : ByteArray, Cells w5 (p0.add 0) [.string s0] /\
     (4 + (s0.size : Int)) <= 9223372036854775807 /\
     ((((ByteArray.mk #[118, 97, 114, 32]) ++ s0).size : Int) + 3) <= 9223372036854775807 /\
     ∃ p1 : Addr, SlAt c i0 3 p1 /\
     ∃ i1 : Int, Cells w5 (p1.add 1) [.int .i64 i1] /\
     Calls Try.prog 52 #[.int .i64 i1] w5 fun e2 w6 => ∃ s1 : ByteArray, e2 = (.returned (.string s1)) /\
      Same [k0] w5 w6 /\
      ∃ l2 : Sl, Blk w6 k1 89 [l2.v] /\
      Keeps J1 w5 w6 /\
      (((((ByteArray.mk #[118, 97, 114, 32]) ++ s0) ++ (ByteArray.mk #[32, 61, 32])).size : Int) + (s1.size : Int)) <= 9223372036854775807 /\
      ((((((ByteArray.mk #[118, 97, 114, 32]) ++ s0) ++ (ByteArray.mk #[32, 61, 32])) ++ s1).size : Int) + 1) <= 9223372036854775807 /\
      Calls Try.prog 51 #[.pointer (some ⟨k1, 0, none⟩), .int .i64 1, .string (((((ByteArray.mk #[118, 97, 114, 32]) ++ s0) ++ (ByteArray.mk #[32, 61, 32])) ++ s1) ++ (ByteArray.mk #[59]))] w6 fun e3 w7 => e3 = (.returned (.tuple #[])) /\
       Same [k0] w6 w7 /\
       ∃ l3 : Sl, Blk w7 k1 89 [l3.v] /\
       Keeps J1 w6 w7 /\
       ∃ k4 : Nat, k4 < k3 /\
       J0 k4 (IntKind.wrap .i64 (i0 + 1)) l3 w7) /\
    ((decide (i0 < (c.n : Int))) = false -> Calls Try.prog 53 #[.pointer (some ⟨k1, 0, none⟩), .agg #[.int .i64 c1, .string c2, .string c3, .string c4, c5.v, c6.v, c7.v, c8.v, .int .i64 c9], .int .i64 1] w4 fun e4 w8 => e4 = (.returned (.tuple #[])) /\
     Same [k0] w4 w8 /\
     ∃ l4 : Sl, Blk w8 k1 89 [l4.v] /\
     Calls Try.prog 51 #[.pointer (some ⟨k1, 0, none⟩), .int .i64 0, .string (ByteArray.mk #[125])] w8 fun e5 w9 => e5 = (.returned (.tuple #[])) /\
      Same [k0] w8 w9 /\
      ∃ l5 : Sl, Blk w9 k1 89 [l5.v] /\
      ((decide ((l5.n : Int) > 16384)) = true -> R (.tuple #[.string (ByteArray.mk #[]), .int .i64 2]) w9) /\
      ((decide ((l5.n : Int) > 16384)) = false -> ∃ z0 : List UInt8, Bytes w9 l5 z0 /\
      R (.tuple #[.string (ByteArray.mk z0.toArray), .int .i64 0]) w9)))
theorem v54w (c : Sl) (c1 : Int) (c2 c3 c4 : ByteArray) (c5 c6 c7 c8 : Sl) (c9 : Int) (R : Value -> World -> Prop) (w : World) (h : v54v c c1 c2 c3 c4 c5 c6 c7 c8 c9 R w) : Cr 44 #[.agg #[c.v, .int .i64 c1, .string c2, .string c3, .string c4, c5.v, c6.v, c7.v, c8.v, .int .i64 c9]] w R :=
 fB (an := .s .o (.s .o (.s (.s .o (.s (.s .o .o) .o)) (.s .o (.s .o (.s (.s .o (.j [1, 5, 12] [.s 6 (.int .i64), .b 12 [.sl]] (.s (.s .o (.s .o .o)) (.s .o .o)) .o)) (.s .o (.s .o (.s (.s .o (.s (.s .o .o) .o)) (.s .o .o)))))))))) (args := [.agg (ofL [.sl c, .int .i64 c1, .str c2, .str c3, .str c4, .sl c5, .sl c6, .sl c7, .sl c8, .int .i64 c9])]) h
def v64v (c : Sl) (c1 : Int) (c2 c3 c4 : ByteArray) (c5 c6 c7 c8 : Sl) (c9 : Int) (R : Value -> World -> Prop) (w : World) : Prop :=
  ∀ k0 : Nat, ∀ w0 : World, w.heap.size <= k0 -> k0 < w0.heap.size -> Only [] w w0 -> ∃ J0 : Nat -> Int -> World -> Prop, ∃ k1 : Nat, J0 k1 0 w0 /\
  ∀ k2 : Nat, ∀ i0 : Int, ∀ w1 : World, J0 k2 i0 w1 -> ((decide (i0 < (c.n : Int))) = true -> ∃ p0 : Addr, SlAt c i0 3 p0 /\
   ∃ s0 : ByteArray, Cells w1 (p0.add 0) [.string s0] /\
   Calls Try.prog 58 #[.string s0] w1 fun e0 w2 => ∃ b0 : Bool, e0 = (.returned (.bool b0)) /\
    Same [k0] w1 w2 /\
    ∃ p1 : Addr, ((!b0) = false -> SlAt c i0 3 p1) /\
    ∃ i1 : Int, ((!b0) = false -> Cells w2 (p1.add 1) [.int .i64 i1]) /\
    (((!b0) || (i1 == (-9223372036854775808))) = true -> R (.bool false) w2) /\
    (((!b0) || (i1 == (-9223372036854775808))) = false -> ∃ k3 : Nat, k3 < k2 /\
    J0 k3 (IntKind.wrap .i64 (i0 + 1)) w2)) /\
  ((decide (i0 < (c.n : Int))) = false -> ∀ k4 : Nat, ∀ w3 : World, w1.heap.size <= k4 -> k4 < w3.heap.size -> Only [] w1 w3 -> Blk w3 k4 105 [.int .i64 0, .int .i64 0, .int .i64 0] -> Calls Try.prog 59 #[.pointer (some ⟨k4, 0, none⟩), .agg #[.int .i64 c1, .string c2, .string c3, .string c4, c5.v, c6.v, c7.v, c8.v, .int .i64 c9], .int .i64 0] w3 fun e1 w4 => ∃ b1 : Bool, e1 = (.returned (.bool b1)) /\
   Same [k0] w3 w4 /\
   ∃ i2 i3 i4 : Int, Blk w4 k4 105 [.int .i64 i2, .int .i64 i3, .int .i64 i4] /\
   R (.bool ((((b1 && (c1 == 1)) && (decide ((c.n : Int) <= 16))) && (decide (i3 <= 200))) && (decide (i4 <= 400)))) w4)
theorem v64w (c : Sl) (c1 : Int) (c2 c3 c4 : ByteArray) (c5 c6 c7 c8 : Sl) (c9 : Int) (R : Value -> World -> Prop) (w : World) (h : v64v c c1 c2 c3 c4 c5 c6 c7 c8 c9 R w) : Cr 50 #[.agg #[c.v, .int .i64 c1, .string c2, .string c3, .string c4, c5.v, c6.v, c7.v, c8.v, .int .i64 c9]] w R :=
 fB (an := .s .o (.s (.s .o (.j [1] [.s 3 (.int .i64)] (.s (.s .o (.s .o .o)) (.s (.s .o (.s .o (.s (.s .o .o) .o))) .o)) .o)) (.s .o (.s .o (.s .o .o))))) (args := [.agg (ofL [.sl c, .int .i64 c1, .str c2, .str c3, .str c4, .sl c5, .sl c6, .sl c7, .sl c8, .int .i64 c9])]) h
def v24v (s : ByteArray) (R : Value -> World -> Prop) (w : World) : Prop :=
  (((s.toList == ((ByteArray.mk #[]).toList)) || (decide ((s.size : Int) > 24))) = true -> R (.bool false) w) /\
  (((s.toList == ((ByteArray.mk #[]).toList)) || (decide ((s.size : Int) > 24))) = false -> ∃ c0 : UInt8, ((0 : Int) <= 0 /\
   s[0]? = (some c0)) /\
  Calls Try.prog 68 #[.int .u8 (UInt8.toNat c0 : Int)] w fun e0 w0 => ∃ b0 : Bool, e0 = (.returned (.bool b0)) /\
   Calls Try.prog 69 #[.string s] w0 fun e1 w1 => ∃ b1 : Bool, e1 = (.returned (.bool b1)) /\
    ∃ J0 : Bool -> World -> Prop, (∀ b2 : Bool, ∀ w2 : World, J0 b2 w2 -> R (.bool b2) w2) /\
    ((b0 && (!b1)) = true -> Calls Try.prog 70 #[.string s, .int .i64 0] w1 fun e2 w3 => ∃ i0 : Int, e2 = (.returned (.int .i64 i0)) /\
      J0 (i0 == (s.size : Int)) w3) /\
    ((b0 && (!b1)) = false -> J0 false w1))
theorem v24w (s : ByteArray) (R : Value -> World -> Prop) (w : World) (h : v24v s R w) : Cr 58 #[.string s] w R :=
 fB (an := .s .o (.s (.s .o (.s (.s .o .o) .o)) (.s .o (.s .o (.s (.j [] [.s 2 .bool] .o .o) .o))))) (args := [.str s]) h
def v30v (c : Int) (R : Value -> World -> Prop) (w : World) : Prop :=
 R (.bool ((((decide (c >= 65)) && (decide (c <= 90))) || ((decide (c >= 97)) && (decide (c <= 122)))) || (c == 95))) w
theorem v30w (c : Int) (R : Value -> World -> Prop) (w : World) (h : v30v c R w) : Cr 68 #[.int .u8 c] w R :=
 fB (an := .s .o (.s .o .o)) (args := [.int .u8 c]) h
def v26v (s : ByteArray) (R : Value -> World -> Prop) (w : World) : Prop :=
  Calls Try.prog 75 #[] w fun e0 w0 => ∃ l0 : Sl, e0 = (.returned l0.v) /\
   ∃ J0 : Nat -> Int -> World -> Prop, ∃ k0 : Nat, J0 k0 0 w0 /\
   ∀ k1 : Nat, ∀ i0 : Int, ∀ w1 : World, J0 k1 i0 w1 -> ((decide (i0 < (l0.n : Int))) = true -> ∃ p0 : Addr, SlAt l0 i0 1 p0 /\
    ∃ s0 : ByteArray, Cells w1 p0 [.string s0] /\
    ((s0.toList == s.toList) = true -> R (.bool true) w1) /\
    ((s0.toList == s.toList) = false -> ∃ k2 : Nat, k2 < k1 /\
    J0 k2 (IntKind.wrap .i64 (i0 + 1)) w1)) /\
   ((decide (i0 < (l0.n : Int))) = false -> R (.bool false) w1)
theorem v26w (s : ByteArray) (R : Value -> World -> Prop) (w : World) (h : v26v s R w) : Cr 69 #[.string s] w R :=
 fB (an := .s .o (.s .o (.s (.s .o (.j [0, 3] [.s 4 (.int .i64)] (.s (.s .o (.s .o .o)) (.s (.s .o (.s (.s .o .o) .o)) .o)) .o)) (.s .o .o)))) (args := [.str s]) h
def v27v (R : Value -> World -> Prop) (w : World) : Prop :=
 ∃ l0 : Sl, ∃ w0 : World, ((Instr.buildSlice 97 16 #[.mk 0 (.string (ByteArray.mk #[97, 102, 116, 101, 114])), .mk 1 (.string (ByteArray.mk #[97, 108, 119, 97, 121, 115])), .mk 2 (.string (ByteArray.mk #[99, 104, 97, 114, 116])), .mk 3 (.string (ByteArray.mk #[100, 101, 101, 112])), .mk 4 (.string (ByteArray.mk #[101, 109, 105, 116])), .mk 5 (.string (ByteArray.mk #[101, 110, 116, 101, 114])), .mk 6 (.string (ByteArray.mk #[104, 105, 115, 116, 111, 114, 121])), .mk 7 (.string (ByteArray.mk #[105, 110])), .mk 8 (.string (ByteArray.mk #[105, 110, 105, 116, 105, 97, 108])), .mk 9 (.string (ByteArray.mk #[108, 101, 97, 118, 101])), .mk 10 (.string (ByteArray.mk #[111, 110])), .mk 11 (.string (ByteArray.mk #[112, 97, 114, 97, 108, 108, 101, 108])), .mk 12 (.string (ByteArray.mk #[114, 97, 105, 115, 101])), .mk 13 (.string (ByteArray.mk #[115, 101, 116])), .mk 14 (.string (ByteArray.mk #[115, 116, 97, 116, 101])), .mk 15 (.string (ByteArray.mk #[118, 97, 114]))]).run Try.prog w) = (.ok l0.v w0) /\
 R l0.v w0
theorem v27w (R : Value -> World -> Prop) (w : World) (h : v27v R w) : Cr 75 #[] w R :=
 fB (an := .s .o (.s .o .o)) (args := []) h
def v31v (s : ByteArray) (at_ : Int) (R : Value -> World -> Prop) (w : World) : Prop :=
  ∃ J0 : Int -> World -> Prop, (∀ i0 : Int, ∀ w0 : World, J0 i0 w0 -> R (.int .i64 i0) w0) /\
  ∃ J1 : Nat -> Int -> World -> Prop, ∃ k0 : Nat, J1 k0 0 w /\
  ∀ k1 : Nat, ∀ i1 : Int, ∀ w1 : World, J1 k1 i1 w1 -> ((decide ((IntKind.wrap .i64 (at_ + i1)) < (s.size : Int))) = true -> ∃ c0 : UInt8, (0 <= (IntKind.wrap .i64 (at_ + i1)) /\
    (s[Int.toNat (IntKind.wrap .i64 (at_ + i1))]?) = (some c0)) /\
   Calls Try.prog 68 #[.int .u8 (UInt8.toNat c0 : Int)] w1 fun e0 w2 => ∃ b0 : Bool, e0 = (.returned (.bool b0)) /\
    ∃ c1 : UInt8, (0 <= (IntKind.wrap .i64 (at_ + i1)) /\
     (s[Int.toNat (IntKind.wrap .i64 (at_ + i1))]?) = (some c1)) /\
    Calls Try.prog 76 #[.int .u8 (UInt8.toNat c1 : Int)] w2 fun e1 w3 => ∃ b1 : Bool, e1 = (.returned (.bool b1)) /\
     (((!b0) && (!b1)) = true -> J0 i1 w3) /\
     (((!b0) && (!b1)) = false -> ∃ k4 : Nat, k4 < k1 /\
     J1 k4 (IntKind.wrap .i64 (i1 + 1)) w3)) /\
  ((decide ((IntKind.wrap .i64 (at_ + i1)) < (s.size : Int))) = false -> J0 i1 w1)
theorem v31w (s : ByteArray) (at_ : Int) (R : Value -> World -> Prop) (w : World) (h : v31v s at_ R w) : Cr 70 #[.string s, .int .i64 at_] w R :=
 fB (an := .s .o (.s .o (.j [] [.s 5 (.int .i64)] (.j [0, 1] [.s 5 (.int .i64)] (.s (.s .o (.s .o .o)) (.s .o (.s .o (.s (.s .o (.s .o .o)) .o)))) .o) (.s .o .o)))) (args := [.str s, .int .i64 at_]) h
def v29v (c : Int) (R : Value -> World -> Prop) (w : World) : Prop :=
 R (.bool ((decide (c >= 48)) && (decide (c <= 57)))) w
theorem v29w (c : Int) (R : Value -> World -> Prop) (w : World) (h : v29v c R w) : Cr 76 #[.int .u8 c] w R :=
 fB (an := .s .o (.s .o .o)) (args := [.int .u8 c]) h
def v59v (n_ : Addr) (x : Int) (x1 x2 x3 : ByteArray) (x4 x5 x6 x7 : Sl) (x8 deep : Int) (R : Value -> World -> Prop) (w : World) : Prop :=
  ∀ k0 : Nat, ∀ w0 : World, w.heap.size <= k0 -> k0 < w0.heap.size -> Only [] w w0 -> ∃ i0 : Int, Cells w0 (n_.add 0) [.int .i64 i0] /\
  ∃ k1 k2 : Nat, ∃ z0 : List Value, ∃ k3 : Nat, (n_.add 0) = ⟨k1, k2, none⟩ /\
  Blk w0 k1 k3 z0 /\
  (k2 + 1) <= z0.length /\
  k0 ≠ k1 /\
  ∀ w1 : World, Only [k1] w0 w1 -> Blk w1 k1 k3 (splice z0 k2 [.int .i64 (IntKind.wrap .i64 (i0 + 1))]) -> Calls Try.prog 58 #[.string x1] w1 fun e0 w2 => ∃ b0 : Bool, e0 = (.returned (.bool b0)) /\
   Same [k0] w1 w2 /\
   ∃ i1 : Int, (((!b0) || (decide (deep >= 12))) = false -> Cells w2 (n_.add 0) [.int .i64 i1]) /\
   ((((!b0) || (decide (deep >= 12))) || (decide (i1 > 64))) = true -> R (.bool false) w2) /\
   ((((!b0) || (decide (deep >= 12))) || (decide (i1 > 64))) = false -> (((x == 3) || (x == 4)) = true -> Calls Try.prog 58 #[.string x3] w2 fun e1 w3 => ∃ b1 : Bool, e1 = (.returned (.bool b1)) /\
     Same [k0] w2 w3 /\
     R (.bool (((((b1 && (x2.toList == ((ByteArray.mk #[]).toList))) && ((x4.n : Int) == 0)) && ((x5.n : Int) == 0)) && ((x6.n : Int) == 0)) && ((x7.n : Int) == 0))) w3) /\
   (((x == 3) || (x == 4)) = false -> ∃ J0 : Bool -> World -> Prop, (∀ b2 : Bool, ∀ w4 : World, J0 b2 w4 -> Calls Try.prog 71 #[.pointer (some n_), x4.v] w4 fun e2 w5 => ∃ b3 : Bool, e2 = (.returned (.bool b3)) /\
     Same [k0] w4 w5 /\
     Calls Try.prog 71 #[.pointer (some n_), x5.v] w5 fun e3 w6 => ∃ b4 : Bool, e3 = (.returned (.bool b4)) /\
      Same [k0] w5 w6 /\
      (((((((x != 1) && (x != 2)) || (!(x3.toList == ((ByteArray.mk #[]).toList)))) || (!b2)) || (!b3)) || (!b4)) = true -> R (.bool false) w6) /\
      (((((((x != 1) && (x != 2)) || (!(x3.toList == ((ByteArray.mk #[]).toList)))) || (!b2)) || (!b3)) || (!b4)) = false -> ∃ J1 : Nat -> Int -> World -> Prop, ∃ k4 : Nat, J1 k4 0 w6 /\
      ∀ k5 : Nat, ∀ i2 : Int, ∀ w7 : World, J1 k5 i2 w7 -> ((decide (i2 < (x6.n : Int))) = true -> ∃ p0 : Addr, SlAt x6 i2 13 p0 /\
       ∃ i3 : Int, ∃ s0 : ByteArray, ∃ i4 : Int, ∃ b5 : Bool, ∃ i5 i6 : Int, ∃ s1 : ByteArray, ∃ i7 : Int, ∃ l0 : Sl, ∃ i8 : Int, ∃ l1 l2 : Sl, ∃ i9 : Int, Cells w7 p0 [.int .i64 i3, .string s0, .int .i64 i4, .bool b5, .int .i64 i5, .int .i64 i6, .string s1, .int .i64 i7, l0.v, .int .i64 i8, l1.v, l2.v, .int .i64 i9] /\
       Calls Try.prog 72 #[.pointer (some n_), .agg #[.int .i64 i3, .string s0, .int .i64 i4, .bool b5, .int .i64 i5, .int .i64 i6, .string s1, .int .i64 i7, l0.v, .int .i64 i8, l1.v, l2.v, .int .i64 i9]] w7 fun e4 w8 => ∃ b6 : Bool, e4 = (.returned (.bool b6)) /\
        Same [k0] w7 w8 /\
        ((!b6) = true -> R (.bool false) w8) /\
        ((!b6) = false -> ∃ k6 : Nat, k6 < k5 /\
        J1 k6 (IntKind.wrap .i64 (i2 + 1)) w8)) /\
      ((decide (i2 < (x6.n : Int))) = false -> ∃ J2 : Nat -> Int -> World -> Prop, ∃ k7 : Nat, J2 k7 0 w7 /\
      ∀ k8 : Nat, ∀ i10 : Int, ∀ w9 : World, J2 k8 i10 w9 -> ((decide (i10 < (x7.n : Int))) = true -> ∃ p1 : Addr, SlAt x7 i10 9 p1 /\
       ∃ i11 : Int, ∃ s2 s3 s4 : ByteArray, ∃ l3 l4 l5 l6 : Sl, ∃ i12 : Int, Cells w9 p1 [.int .i64 i11, .string s2, .string s3, .string s4, l3.v, l4.v, l5.v, l6.v, .int .i64 i12] /\
       Calls Try.prog 59 #[.pointer (some n_), .agg #[.int .i64 i11, .string s2, .string s3, .string s4, l3.v, l4.v, l5.v, l6.v, .int .i64 i12], .int .i64 (IntKind.wrap .i64 (deep + 1))] w9 fun e5 w10 => ∃ b7 : Bool, e5 = (.returned (.bool b7)) /\
        Same [k0] w9 w10 /\
        ((!b7) = true -> R (.bool false) w10) /\
        ((!b7) = false -> ∃ k9 : Nat, k9 < k8 /\
        J2 k9 (IntKind.wrap .i64 (i10 + 1)) w10)) /\
      ((decide (i10 < (x7.n : Int))) = false -> R (.bool true) w9)))) /\
   ((!(x2.toList == ((ByteArray.mk #[]).toList))) = true -> Calls Try.prog 58 #[.string x2] w2 fun e6 w11 => ∃ b8 : Bool, e6 = (.returned (.bool b8)) /\
     Same [k0] w2 w11 /\
     J0 b8 w11) /\
   ((!(x2.toList == ((ByteArray.mk #[]).toList))) = false -> J0 (x2.toList == ((ByteArray.mk #[]).toList)) w2)))
theorem v59w (n_ : Addr) (x : Int) (x1 x2 x3 : ByteArray) (x4 x5 x6 x7 : Sl) (x8 deep : Int) (R : Value -> World -> Prop) (w : World) (h : v59v n_ x x1 x2 x3 x4 x5 x6 x7 x8 deep R w) : Cr 59 #[.pointer (some n_), .agg #[.int .i64 x, .string x1, .string x2, .string x3, x4.v, x5.v, x6.v, x7.v, .int .i64 x8], .int .i64 deep] w R :=
 fB (an := .s .o (.s .o (.s .o (.s (.s .o (.s (.s .o .o) .o)) (.s (.s .o (.s (.s .o (.s .o .o)) .o)) (.s .o (.j [0, 2, 4] [.s 9 .bool] (.s .o (.s .o .o)) (.s .o (.s .o (.s (.s .o (.s (.s .o .o) .o)) (.s (.s .o (.j [0, 2, 4] [.s 12 (.int .i64)] (.s (.s .o (.s .o .o)) (.s (.s .o (.s .o (.s (.s .o .o) .o))) .o)) .o)) (.s (.s .o (.j [0, 2, 4] [.s 14 (.int .i64)] (.s (.s .o (.s .o .o)) (.s (.s .o (.s .o (.s (.s .o .o) .o))) .o)) .o)) (.s .o .o))))))))))))) (args := [.ad n_, .agg (ofL [.int .i64 x, .str x1, .str x2, .str x3, .sl x4, .sl x5, .sl x6, .sl x7, .int .i64 x8]), .int .i64 deep]) h
def v57v (n_ : Addr) (l : Sl) (R : Value -> World -> Prop) (w : World) : Prop :=
  ∃ J0 : Nat -> Int -> World -> Prop, ∃ k0 : Nat, J0 k0 0 w /\
  ∀ k1 : Nat, ∀ i0 : Int, ∀ w0 : World, J0 k1 i0 w0 -> ((decide (i0 < (l.n : Int))) = true -> ∃ i1 : Int, Cells w0 (n_.add 2) [.int .i64 i1] /\
   ∃ k2 k3 : Nat, ∃ z0 : List Value, ∃ k4 : Nat, (n_.add 2) = ⟨k2, k3, none⟩ /\
   Blk w0 k2 k4 z0 /\
   (k3 + 1) <= z0.length /\
   ∀ w1 : World, Only [k2] w0 w1 -> Blk w1 k2 k4 (splice z0 k3 [.int .i64 (IntKind.wrap .i64 (i1 + 1))]) -> ∃ p0 : Addr, SlAt l i0 9 p0 /\
   ∃ s0 : ByteArray, Cells w1 (p0.add 1) [.string s0] /\
   Calls Try.prog 58 #[.string s0] w1 fun e0 w2 => ∃ b0 : Bool, e0 = (.returned (.bool b0)) /\
    ∃ p1 : Addr, SlAt l i0 9 p1 /\
    ∃ i2 i3 : Int, ∃ s1 : ByteArray, ∃ i4 : Int, ∃ l0 : Sl, ∃ i5 : Int, Cells w2 (p1.add 2) [.int .i64 i2, .int .i64 i3, .string s1, .int .i64 i4, l0.v, .int .i64 i5] /\
    Calls Try.prog 77 #[.agg #[.int .i64 i2, .int .i64 i3, .string s1, .int .i64 i4, l0.v, .int .i64 i5]] w2 fun e1 w3 => ∃ b1 : Bool, e1 = (.returned (.bool b1)) /\
     ∃ J1 : Bool -> World -> Prop, (∀ b2 : Bool, ∀ w4 : World, J1 b2 w4 -> ∃ p2 : Addr, SlAt l i0 9 p2 /\
      ∃ i6 : Int, Cells w4 (p2.add 0) [.int .i64 i6] /\
      ∃ p3 : Addr, ((decide (i6 < 1)) = false -> SlAt l i0 9 p3) /\
      ∃ i7 : Int, ((decide (i6 < 1)) = false -> Cells w4 (p3.add 0) [.int .i64 i7]) /\
      (((((decide (i6 < 1)) || (decide (i7 > 3))) || (!b0)) || (!b2)) = true -> R (.bool false) w4) /\
      (((((decide (i6 < 1)) || (decide (i7 > 3))) || (!b0)) || (!b2)) = false -> ∃ k5 : Nat, k5 < k1 /\
      J0 k5 (IntKind.wrap .i64 (i0 + 1)) w4)) /\
     ∃ p4 : Addr, SlAt l i0 9 p4 /\
     ∃ i8 : Int, Cells w3 (p4.add 0) [.int .i64 i8] /\
     ((i8 == 2) = true -> ∃ p5 : Addr, SlAt l i0 9 p5 /\
      ∃ i9 i10 : Int, ∃ s2 : ByteArray, ∃ i11 : Int, ∃ l1 : Sl, ∃ i12 : Int, Cells w3 (p5.add 2) [.int .i64 i9, .int .i64 i10, .string s2, .int .i64 i11, l1.v, .int .i64 i12] /\
      Calls Try.prog 78 #[.agg #[.int .i64 i9, .int .i64 i10, .string s2, .int .i64 i11, l1.v, .int .i64 i12]] w3 fun e2 w5 => ∃ b3 : Bool, e2 = (.returned (.bool b3)) /\
       J1 b3 w5) /\
     ((i8 == 2) = false -> J1 b1 w3)) /\
  ((decide (i0 < (l.n : Int))) = false -> R (.bool true) w0)
theorem v57w (n_ : Addr) (l : Sl) (R : Value -> World -> Prop) (w : World) (h : v57v n_ l R w) : Cr 71 #[.pointer (some n_), l.v] w R :=
 fB (an := .s .o (.s (.s .o (.j [0, 1] [.s 5 (.int .i64)] (.s (.s .o (.s .o .o)) (.s (.s .o (.s .o (.s .o (.j [0, 1, 5, 6] [.s 7 .bool] (.s .o (.s .o .o)) (.s .o (.s (.s .o .o) .o)))))) .o)) .o)) (.s .o .o))) (args := [.ad n_, .sl l]) h
def v60v (x x1 : Int) (x2 : ByteArray) (x3 : Int) (x4 : Sl) (x5 : Int) (R : Value -> World -> Prop) (w : World) : Prop :=
  ∀ k0 : Nat, ∀ w0 : World, w.heap.size <= k0 -> k0 < w0.heap.size -> Only [] w w0 -> Calls Try.prog 79 #[.agg #[.int .i64 x, .int .i64 x1, .string x2, .int .i64 x3, x4.v, .int .i64 x5]] w0 fun e0 w1 => ∃ s0 : ByteArray, ∃ b0 : Bool, e0 = (.returned (.tuple #[.string s0, .bool b0])) /\
   Same [k0] w0 w1 /\
   R (.bool b0) w1
theorem v60w (x x1 : Int) (x2 : ByteArray) (x3 : Int) (x4 : Sl) (x5 : Int) (R : Value -> World -> Prop) (w : World) (h : v60v x x1 x2 x3 x4 x5 R w) : Cr 77 #[.agg #[.int .i64 x, .int .i64 x1, .string x2, .int .i64 x3, x4.v, .int .i64 x5]] w R :=
 fB (an := .s .o (.s .o (.s .o .o))) (args := [.agg (ofL [.int .i64 x, .int .i64 x1, .str x2, .int .i64 x3, .sl x4, .int .i64 x5])]) h
def v37v (x x1 : Int) (x2 : ByteArray) (x3 : Int) (x4 : Sl) (x5 : Int) (R : Value -> World -> Prop) (w : World) : Prop :=
  ∀ k0 : Nat, ∀ w0 : World, w.heap.size <= k0 -> k0 < w0.heap.size -> Only [] w w0 -> Calls Try.prog 80 #[.agg #[.int .i64 x, .int .i64 x1, .string x2, .int .i64 x3, x4.v, .int .i64 x5]] w0 fun e0 w1 => ∃ b0 : Bool, e0 = (.returned (.bool b0)) /\
   Same [k0] w0 w1 /\
   ((!b0) = true -> R (.tuple #[.string (ByteArray.mk #[]), .bool false]) w1) /\
   ((!b0) = false -> ∀ k1 : Nat, ∀ w2 : World, w1.heap.size <= k1 -> k1 < w2.heap.size -> Only [] w1 w2 -> Blk w2 k1 127 [Sl.nil.v] -> Calls Try.prog 81 #[.pointer (some ⟨k1, 0, none⟩), .agg #[.int .i64 x, .int .i64 x1, .string x2, .int .i64 x3, x4.v, .int .i64 x5]] w2 fun e1 w3 => e1 = (.returned (.tuple #[])) /\
    Same [k0] w2 w3 /\
    ∃ l0 : Sl, Blk w3 k1 127 [l0.v] /\
    ∃ z0 : List UInt8, Bytes w3 l0 z0 /\
    Calls Try.prog 82 #[.string (ByteArray.mk z0.toArray)] w3 fun e2 w4 => ∃ i0 i1 : Int, ∃ s0 : ByteArray, ∃ i2 : Int, ∃ l1 : Sl, ∃ i3 i4 i5 : Int, e2 = (.returned (.tuple #[.agg #[.int .i64 i0, .int .i64 i1, .string s0, .int .i64 i2, l1.v, .int .i64 i3], .agg #[.int .i64 i4, .int .i64 i5]])) /\
     Same [k0] w3 w4 /\
     ∃ l2 : Sl, Blk w4 k1 127 [l2.v] /\
     ∀ k2 k3 : Nat, ∀ w5 : World, w4.heap.size <= k2 -> k2 < w5.heap.size -> w4.heap.size <= k3 -> k3 < w5.heap.size -> Only [] w4 w5 -> Blk w5 k1 127 [l2.v] -> Calls Try.prog 83 #[.agg #[.int .i64 x, .int .i64 x1, .string x2, .int .i64 x3, x4.v, .int .i64 x5], .agg #[.int .i64 i0, .int .i64 i1, .string s0, .int .i64 i2, l1.v, .int .i64 i3], .bool false] w5 fun e3 w6 => ∃ b1 : Bool, e3 = (.returned (.bool b1)) /\
      Same [k0, k2, k3] w5 w6 /\
      ∃ l3 : Sl, Blk w6 k1 127 [l3.v] /\
      ((((decide (((ByteArray.mk z0.toArray).size : Int) > 16384)) || (i4 != 0)) || (!b1)) = true -> R (.tuple #[.string (ByteArray.mk #[]), .bool false]) w6) /\
      ((((decide (((ByteArray.mk z0.toArray).size : Int) > 16384)) || (i4 != 0)) || (!b1)) = false -> R (.tuple #[.string (ByteArray.mk z0.toArray), .bool true]) w6))
theorem v37w (x x1 : Int) (x2 : ByteArray) (x3 : Int) (x4 : Sl) (x5 : Int) (R : Value -> World -> Prop) (w : World) (h : v37v x x1 x2 x3 x4 x5 R w) : Cr 79 #[.agg #[.int .i64 x, .int .i64 x1, .string x2, .int .i64 x3, x4.v, .int .i64 x5]] w R :=
 fB (an := .s .o (.s .o (.s (.s .o (.s (.s .o .o) .o)) (.s .o (.s .o (.s .o (.s .o (.s .o (.s (.s .o (.s (.s .o .o) .o)) (.s .o .o)))))))))) (args := [.agg (ofL [.int .i64 x, .int .i64 x1, .str x2, .int .i64 x3, .sl x4, .int .i64 x5])]) h
def v53v (x x1 : Int) (x2 : ByteArray) (x3 : Int) (x4 : Sl) (x5 : Int) (R : Value -> World -> Prop) (w : World) : Prop :=
  ∀ k0 : Nat, ∀ w0 : World, w.heap.size <= k0 -> k0 < w0.heap.size -> Only [] w w0 -> ∃ J0 : Nat -> Int -> World -> Prop, ∃ k1 : Nat, J0 k1 0 w0 /\
  ∀ k2 : Nat, ∀ i0 : Int, ∀ w1 : World, J0 k2 i0 w1 -> ((decide (i0 < (x4.n : Int))) = true -> ∃ p0 : Addr, SlAt x4 i0 6 p0 /\
   ∃ i1 i2 : Int, ∃ s0 : ByteArray, ∃ i3 : Int, ∃ l0 : Sl, ∃ i4 : Int, Cells w1 p0 [.int .i64 i1, .int .i64 i2, .string s0, .int .i64 i3, l0.v, .int .i64 i4] /\
   Calls Try.prog 80 #[.agg #[.int .i64 i1, .int .i64 i2, .string s0, .int .i64 i3, l0.v, .int .i64 i4]] w1 fun e0 w2 => ∃ b0 : Bool, e0 = (.returned (.bool b0)) /\
    Same [k0] w1 w2 /\
    ((!b0) = true -> R (.bool false) w2) /\
    ((!b0) = false -> ∃ k3 : Nat, k3 < k2 /\
    J0 k3 (IntKind.wrap .i64 (i0 + 1)) w2)) /\
  ((decide (i0 < (x4.n : Int))) = false -> Calls Try.prog 58 #[.string x2] w1 fun e1 w3 => ∃ b1 : Bool, e1 = (.returned (.bool b1)) /\
   Same [k0] w1 w3 /\
   ((x == 1) = true -> R (.bool ((((decide (x1 >= 0)) && (x2.toList == ((ByteArray.mk #[]).toList))) && (x3 == 0)) && ((x4.n : Int) == 0))) w3) /\
   ((x == 1) = false -> ∃ J1 : Bool -> World -> Prop, (∀ b2 : Bool, ∀ w4 : World, J1 b2 w4 -> (b2 = true -> R (.bool ((((x1 == 0) && b1) && (x3 == 0)) && ((x4.n : Int) == 0))) w4) /\
    (b2 = false -> ((x == 4) = true -> R (.bool ((((x1 == 0) && (x2.toList == ((ByteArray.mk #[]).toList))) && ((x3 == 14) || (x3 == 15))) && ((x4.n : Int) == 1))) w4) /\
    ((x == 4) = false -> ((x == 5) = true -> ∃ J2 : Bool -> World -> Prop, (∀ b3 : Bool, ∀ w5 : World, J2 b3 w5 -> R (.bool b3) w5) /\
     (((x1 == 0) && (x2.toList == ((ByteArray.mk #[]).toList))) = true -> Calls Try.prog 84 #[.agg #[.int .i64 x, .int .i64 x1, .string x2, .int .i64 x3, x4.v, .int .i64 x5]] w4 fun e2 w6 => ∃ i5 : Int, e2 = (.returned (.int .i64 i5)) /\
       Same [k0] w4 w6 /\
       J2 ((decide (i5 < 6)) && ((x4.n : Int) == 2)) w6) /\
     (((x1 == 0) && (x2.toList == ((ByteArray.mk #[]).toList))) = false -> J2 false w4)) /\
    ((x == 5) = false -> R (.bool false) w4)))) /\
   ((x == 2) = true -> J1 (x == 2) w3) /\
   ((x == 2) = false -> J1 (x == 3) w3)))
theorem v53w (x x1 : Int) (x2 : ByteArray) (x3 : Int) (x4 : Sl) (x5 : Int) (R : Value -> World -> Prop) (w : World) (h : v53v x x1 x2 x3 x4 x5 R w) : Cr 80 #[.agg #[.int .i64 x, .int .i64 x1, .string x2, .int .i64 x3, x4.v, .int .i64 x5]] w R :=
 fB (an := .s .o (.s (.s .o (.j [1] [.s 3 (.int .i64)] (.s (.s .o (.s .o .o)) (.s (.s .o (.s .o (.s (.s .o .o) .o))) .o)) .o)) (.s .o (.s .o (.s (.s .o (.s .o (.s (.s .o .o) (.j [1, 5, 6, 29] [.s 49 .bool] (.s .o (.s .o .o)) (.s (.s .o .o) (.s .o (.s (.s .o .o) (.s .o (.s (.s (.j [1] [.s 2 .bool] .o .o) .o) .o))))))))) (.s .o .o)))))) (args := [.agg (ofL [.int .i64 x, .int .i64 x1, .str x2, .int .i64 x3, .sl x4, .int .i64 x5])]) h
def v38v (x x1 : Int) (x2 : ByteArray) (x3 : Int) (x4 : Sl) (x5 : Int) (R : Value -> World -> Prop) (w : World) : Prop :=
  ∀ k0 : Nat, ∀ w0 : World, w.heap.size <= k0 -> k0 < w0.heap.size -> Only [] w w0 -> Calls Try.prog 87 #[] w0 fun e0 w1 => ∃ l0 : Sl, e0 = (.returned l0.v) /\
   Same [k0] w0 w1 /\
   ∃ J0 : Nat -> Int -> World -> Prop, ∃ k1 : Nat, J0 k1 0 w1 /\
   ∀ k2 : Nat, ∀ i0 : Int, ∀ w2 : World, J0 k2 i0 w2 -> (((decide (i0 < 6)) && (x == 5)) = true -> ∃ J1 : Nat -> Int -> World -> Prop, ∃ k3 : Nat, J1 k3 0 w2 /\
    ∀ k4 : Nat, ∀ i1 : Int, ∀ w3 : World, J1 k4 i1 w3 -> ∃ p0 : Addr, SlAt l0 i0 1 p0 /\
    ∃ l1 : Sl, Cells w3 p0 [l1.v] /\
    ((decide (i1 < (l1.n : Int))) = true -> ∃ p1 : Addr, SlAt l0 i0 1 p1 /\
     ∃ l2 : Sl, Cells w3 p1 [l2.v] /\
     ∃ p2 : Addr, SlAt l2 i1 1 p2 /\
     ∃ i2 : Int, Cells w3 p2 [.int .i64 i2] /\
     ((i2 == x3) = true -> ∀ w4 : World, Only [] w3 w4 -> R (.int .i64 i0) w4) /\
     ((i2 == x3) = false -> ∀ w5 : World, Only [] w3 w5 -> ∃ k5 : Nat, k5 < k4 /\
     J1 k5 (IntKind.wrap .i64 (i1 + 1)) w5)) /\
    ((decide (i1 < (l1.n : Int))) = false -> ∃ k6 : Nat, k6 < k2 /\
    J0 k6 (IntKind.wrap .i64 (i0 + 1)) w3)) /\
   (((decide (i0 < 6)) && (x == 5)) = false -> R (.int .i64 6) w2)
theorem v38w (x x1 : Int) (x2 : ByteArray) (x3 : Int) (x4 : Sl) (x5 : Int) (R : Value -> World -> Prop) (w : World) (h : v38v x x1 x2 x3 x4 x5 R w) : Cr 84 #[.agg #[.int .i64 x, .int .i64 x1, .string x2, .int .i64 x3, x4.v, .int .i64 x5]] w R :=
 fB (an := .s .o (.s .o (.s (.s .o (.j [1, 3] [.s 4 (.int .i64)] (.s (.s .o (.s .o .o)) (.s (.s .o (.j [1, 3, 4] [.s 5 (.int .i64)] (.s (.s .o (.s .o .o)) (.s (.s .o (.s (.s .o .o) .o)) .o)) .o)) .o)) .o)) (.s .o .o)))) (args := [.agg (ofL [.int .i64 x, .int .i64 x1, .str x2, .int .i64 x3, .sl x4, .int .i64 x5])]) h
def v39v (R : Value -> World -> Prop) (w : World) : Prop :=
 ∃ l0 : Sl, ∃ w0 : World, ((Instr.buildSlice 30 1 #[.mk 0 (.int .i64 13)]).run Try.prog w) = (.ok l0.v w0) /\
 ∃ l1 : Sl, ∃ w1 : World, ((Instr.buildSlice 30 1 #[.mk 0 (.int .i64 12)]).run Try.prog w0) = (.ok l1.v w1) /\
 ∃ l2 : Sl, ∃ w2 : World, ((Instr.buildSlice 30 2 #[.mk 0 (.int .i64 10), .mk 1 (.int .i64 11)]).run Try.prog w1) = (.ok l2.v w2) /\
 ∃ l3 : Sl, ∃ w3 : World, ((Instr.buildSlice 30 4 #[.mk 0 (.int .i64 6), .mk 1 (.int .i64 7), .mk 2 (.int .i64 8), .mk 3 (.int .i64 9)]).run Try.prog w2) = (.ok l3.v w3) /\
 ∃ l4 : Sl, ∃ w4 : World, ((Instr.buildSlice 30 2 #[.mk 0 (.int .i64 1), .mk 1 (.int .i64 2)]).run Try.prog w3) = (.ok l4.v w4) /\
 ∃ l5 : Sl, ∃ w5 : World, ((Instr.buildSlice 30 3 #[.mk 0 (.int .i64 3), .mk 1 (.int .i64 4), .mk 2 (.int .i64 5)]).run Try.prog w4) = (.ok l5.v w5) /\
 ∃ l6 : Sl, ∃ w6 : World, ((Instr.buildSlice 134 6 #[.mk 0 l0.v, .mk 1 l1.v, .mk 2 l2.v, .mk 3 l3.v, .mk 4 l4.v, .mk 5 l5.v]).run Try.prog w5) = (.ok l6.v w6) /\
 R l6.v w6
theorem v39w (R : Value -> World -> Prop) (w : World) (h : v39v R w) : Cr 87 #[] w R :=
 fB (an := .s .o (.s .o .o)) (args := []) h
def v40v (p : Addr) (x x1 : Int) (x2 : ByteArray) (x3 : Int) (x4 : Sl) (x5 : Int) (R : Value -> World -> Prop) (w : World) : Prop :=
  ∀ k0 : Nat, ∀ w0 : World, w.heap.size <= k0 -> k0 < w0.heap.size -> Only [] w w0 -> ∃ l0 : Sl, Cells w0 (p.add 0) [l0.v] /\
  ((decide ((l0.n : Int) > 16384)) = true -> R (.tuple #[]) w0) /\
  ((decide ((l0.n : Int) > 16384)) = false -> ((x == 1) = true -> Calls Try.prog 52 #[.int .i64 x1] w0 fun e0 w1 => ∃ s0 : ByteArray, e0 = (.returned (.string s0)) /\
    Same [k0] w0 w1 /\
    Calls Try.prog 85 #[.pointer (some p), .string s0] w1 fun e1 w2 => e1 = (.returned (.tuple #[])) /\
     Same [k0] w1 w2 /\
     R (.tuple #[]) w2) /\
  ((x == 1) = false -> ((x == 2) = true -> Calls Try.prog 85 #[.pointer (some p), .string x2] w0 fun e2 w3 => e2 = (.returned (.tuple #[])) /\
    Same [k0] w0 w3 /\
    R (.tuple #[]) w3) /\
  ((x == 2) = false -> ((x == 3) = true -> (3 + (x2.size : Int)) <= 9223372036854775807 /\
   ((((ByteArray.mk #[105, 110, 40]) ++ x2).size : Int) + 1) <= 9223372036854775807 /\
   Calls Try.prog 85 #[.pointer (some p), .string (((ByteArray.mk #[105, 110, 40]) ++ x2) ++ (ByteArray.mk #[41]))] w0 fun e3 w4 => e3 = (.returned (.tuple #[])) /\
    Same [k0] w0 w4 /\
    R (.tuple #[]) w4) /\
  ((x == 3) = false -> ((x == 4) = true -> ∃ J0 : World -> Prop, (∀ w5 : World, J0 w5 -> ∃ p0 : Addr, SlAt x4 0 6 p0 /\
    ∀ w6 : World, Only [] w5 w6 -> ∃ i0 i1 : Int, ∃ s1 : ByteArray, ∃ i2 : Int, ∃ l1 : Sl, ∃ i3 : Int, Cells w6 p0 [.int .i64 i0, .int .i64 i1, .string s1, .int .i64 i2, l1.v, .int .i64 i3] /\
    ∃ p1 : Addr, SlAt x4 0 6 p1 /\
    ∃ i4 : Int, Cells w6 (p1.add 0) [.int .i64 i4] /\
    Calls Try.prog 86 #[.pointer (some p), .agg #[.int .i64 i0, .int .i64 i1, .string s1, .int .i64 i2, l1.v, .int .i64 i3], .bool (i4 == 5)] w6 fun e4 w7 => e4 = (.returned (.tuple #[])) /\
     Same [k0] w6 w7 /\
     R (.tuple #[]) w7) /\
   ((x3 == 14) = true -> Calls Try.prog 85 #[.pointer (some p), .string (ByteArray.mk #[45])] w0 fun e5 w8 => e5 = (.returned (.tuple #[])) /\
     Same [k0] w0 w8 /\
     J0 w8) /\
   ((x3 == 14) = false -> Calls Try.prog 85 #[.pointer (some p), .string (ByteArray.mk #[33])] w0 fun e6 w9 => e6 = (.returned (.tuple #[])) /\
    Same [k0] w0 w9 /\
    J0 w9)) /\
  ((x == 4) = false -> ((x == 5) = true -> Calls Try.prog 84 #[.agg #[.int .i64 x, .int .i64 x1, .string x2, .int .i64 x3, x4.v, .int .i64 x5]] w0 fun e7 w10 => ∃ i5 : Int, e7 = (.returned (.int .i64 i5)) /\
    Same [k0] w0 w10 /\
    Calls Try.prog 87 #[] w10 fun e8 w11 => ∃ l2 : Sl, e8 = (.returned l2.v) /\
     Same [k0] w10 w11 /\
     ∃ p2 : Addr, SlAt l2 i5 1 p2 /\
     ∃ l3 : Sl, Cells w11 p2 [l3.v] /\
     ∀ w12 : World, Only [] w11 w12 -> ∃ J1 : Nat -> Prop, J1 k0 /\
     ∃ p3 : Addr, SlAt x4 0 6 p3 /\
     J1 p3.block /\
     ∃ i6 i7 : Int, ∃ s2 : ByteArray, ∃ i8 : Int, ∃ l4 : Sl, ∃ i9 : Int, Cells w12 p3 [.int .i64 i6, .int .i64 i7, .string s2, .int .i64 i8, l4.v, .int .i64 i9] /\
     ∃ p4 : Addr, SlAt x4 0 6 p4 /\
     ∃ i10 i11 : Int, ∃ s3 : ByteArray, ∃ i12 : Int, ∃ l5 : Sl, ∃ i13 : Int, Cells w12 p4 [.int .i64 i10, .int .i64 i11, .string s3, .int .i64 i12, l5.v, .int .i64 i13] /\
     Calls Try.prog 84 #[.agg #[.int .i64 i10, .int .i64 i11, .string s3, .int .i64 i12, l5.v, .int .i64 i13]] w12 fun e9 w13 => ∃ i14 : Int, e9 = (.returned (.int .i64 i14)) /\
      Same [k0] w12 w13 /\
      Keeps J1 w12 w13 /\
      Calls Try.prog 86 #[.pointer (some p), .agg #[.int .i64 i6, .int .i64 i7, .string s2, .int .i64 i8, l4.v, .int .i64 i9], .bool (decide (i14 < i5))] w13 fun e10 w14 => e10 = (.returned (.tuple #[])) /\
       Same [k0] w13 w14 /\
       Keeps J1 w13 w14 /\
       ∃ J2 : Nat -> Int -> World -> Prop, ∃ k1 : Nat, J2 k1 0 w14 /\
       ∀ k2 : Nat, ∀ i15 : Int, ∀ w15 : World, J2 k2 i15 w15 -> ((decide (i15 < (l3.n : Int))) = true -> ∃ J3 : World -> Prop, (∀ w16 : World, J3 w16 -> ∃ k3 : Nat, k3 < k2 /\
         J2 k3 (IntKind.wrap .i64 (i15 + 1)) w16) /\
        ∃ p5 : Addr, SlAt l3 i15 1 p5 /\
        ∃ i16 : Int, Cells w15 p5 [.int .i64 i16] /\
        ((i16 == x3) = true -> ∀ w17 : World, Only [] w15 w17 -> Calls Try.prog 88 #[] w17 fun e11 w18 => ∃ l6 : Sl, e11 = (.returned l6.v) /\
          Same [k0] w17 w18 /\
          ∃ p6 : Addr, SlAt l6 i5 1 p6 /\
          ∃ l7 : Sl, Cells w18 p6 [l7.v] /\
          ∃ p7 : Addr, SlAt l7 i15 1 p7 /\
          ∃ s4 : ByteArray, Cells w18 p7 [.string s4] /\
          (1 + (s4.size : Int)) <= 9223372036854775807 /\
          ((((ByteArray.mk #[32]) ++ s4).size : Int) + 1) <= 9223372036854775807 /\
          Calls Try.prog 85 #[.pointer (some p), .string (((ByteArray.mk #[32]) ++ s4) ++ (ByteArray.mk #[32]))] w18 fun e12 w19 => e12 = (.returned (.tuple #[])) /\
           Same [k0] w18 w19 /\
           J3 w19) /\
        ((i16 == x3) = false -> ∀ w20 : World, Only [] w15 w20 -> J3 w20)) /\
       ((decide (i15 < (l3.n : Int))) = false -> ∀ w21 : World, Only [] w15 w21 -> ∃ J4 : Nat -> Prop, J4 k0 /\
       ∃ p8 : Addr, SlAt x4 1 6 p8 /\
       J4 p8.block /\
       ∃ i17 i18 : Int, ∃ s5 : ByteArray, ∃ i19 : Int, ∃ l8 : Sl, ∃ i20 : Int, Cells w21 p8 [.int .i64 i17, .int .i64 i18, .string s5, .int .i64 i19, l8.v, .int .i64 i20] /\
       ∃ p9 : Addr, SlAt x4 1 6 p9 /\
       ∃ i21 i22 : Int, ∃ s6 : ByteArray, ∃ i23 : Int, ∃ l9 : Sl, ∃ i24 : Int, Cells w21 p9 [.int .i64 i21, .int .i64 i22, .string s6, .int .i64 i23, l9.v, .int .i64 i24] /\
       Calls Try.prog 84 #[.agg #[.int .i64 i21, .int .i64 i22, .string s6, .int .i64 i23, l9.v, .int .i64 i24]] w21 fun e13 w22 => ∃ i25 : Int, e13 = (.returned (.int .i64 i25)) /\
        Same [k0] w21 w22 /\
        Keeps J4 w21 w22 /\
        Calls Try.prog 86 #[.pointer (some p), .agg #[.int .i64 i17, .int .i64 i18, .string s5, .int .i64 i19, l8.v, .int .i64 i20], .bool (decide (i25 <= i5))] w22 fun e14 w23 => e14 = (.returned (.tuple #[])) /\
         Same [k0] w22 w23 /\
         Keeps J4 w22 w23 /\
         R (.tuple #[]) w23)) /\
  ((x == 5) = false -> R (.tuple #[]) w0))))))
theorem v40w (p : Addr) (x x1 : Int) (x2 : ByteArray) (x3 : Int) (x4 : Sl) (x5 : Int) (R : Value -> World -> Prop) (w : World) (h : v40v p x x1 x2 x3 x4 x5 R w) : Cr 81 #[.pointer (some p), .agg #[.int .i64 x, .int .i64 x1, .string x2, .int .i64 x3, x4.v, .int .i64 x5]] w R :=
 fB (an := .s .o (.s (.s .o (.s .o .o)) (.s .o (.s .o (.s .o (.s .o (.s .o (.s .o (.s .o (.s .o (.s (.j [0, 3] [] (.s .o (.s .o .o)) .o) (.s .o (.s (.s .o (.s .o (.s .o (.s (.s .o (.j [0, 3, 4, 5] [.s 6 (.int .i64)] (.s (.s .o (.s .o .o)) (.j [0, 3, 4, 5, 6] [] (.s .o (.s .o .o)) .o)) .o)) .o)))) .o))))))))))))) (args := [.ad p, .agg (ofL [.int .i64 x, .int .i64 x1, .str x2, .int .i64 x3, .sl x4, .int .i64 x5])]) h
def v21v (n_ : Int) (R : Value -> World -> Prop) (w : World) : Prop :=
  ((n_ == 0) = true -> R (.string (ByteArray.mk #[48])) w) /\
  ((n_ == 0) = false -> ((decide (n_ < 0)) = true -> Calls Try.prog 61 #[.int .i64 n_] w fun e0 w0 => ∃ i0 : Int, e0 = (.returned (.int .u64 i0)) /\
    Calls Try.prog 60 #[.int .u64 i0] w0 fun e1 w1 => ∃ s0 : ByteArray, e1 = (.returned (.string s0)) /\
     (1 + (s0.size : Int)) <= 9223372036854775807 /\
     R (.string ((ByteArray.mk #[45]) ++ s0)) w1) /\
  ((decide (n_ < 0)) = false -> Calls Try.prog 61 #[.int .i64 n_] w fun e2 w2 => ∃ i1 : Int, e2 = (.returned (.int .u64 i1)) /\
   Calls Try.prog 60 #[.int .u64 i1] w2 fun e3 w3 => ∃ s1 : ByteArray, e3 = (.returned (.string s1)) /\
    R (.string s1) w3))
theorem v21w (n_ : Int) (R : Value -> World -> Prop) (w : World) (h : v21v n_ R w) : Cr 52 #[.int .i64 n_] w R :=
 fB (an := .s .o (.s (.s .o (.s (.s .o .o) .o)) (.s (.s .o (.s (.s .o .o) .o)) (.s .o .o)))) (args := [.int .i64 n_]) h
def v23v (n_ : Int) (R : Value -> World -> Prop) (w : World) : Prop :=
 ((decide (n_ < 0)) = true -> R (.int .u64 (IntKind.wrap .u64 ((IntKind.wrap .u64 (IntKind.wrap .i64 (0 - (IntKind.wrap .i64 (n_ + 1))))) + 1))) w) /\
 ((decide (n_ < 0)) = false -> R (.int .u64 (IntKind.wrap .u64 n_)) w)
theorem v23w (n_ : Int) (R : Value -> World -> Prop) (w : World) (h : v23v n_ R w) : Cr 61 #[.int .i64 n_] w R :=
 fB (an := .s .o (.s (.s .o (.s (.s .o .o) .o)) (.s .o .o))) (args := [.int .i64 n_]) h
def v22v (u : Int) (R : Value -> World -> Prop) (w : World) : Prop :=
  ((u == 0) = true -> R (.string (ByteArray.mk #[])) w) /\
  ((u == 0) = false -> ∃ J0 : ByteArray -> World -> Prop, (∀ s0 : ByteArray, ∀ w0 : World, J0 s0 w0 -> R (.string s0) w0) /\
  ∀ w1 : World, Only [] w w1 -> ∃ J1 : Nat -> Prop, (Calls Try.prog 60 #[.int .u64 (IntKind.wrap .u64 (u.tdiv 10))] w1 fun e0 w2 => ∃ s1 : ByteArray, e0 = (.returned (.string s1)) /\
    Keeps J1 w1 w2 /\
    ∃ l0 : Sl, ∃ w3 : World, ((Instr.buildSlice 87 1 #[.mk 0 (.int .u8 (IntKind.wrap .u8 (IntKind.wrap .u64 (48 + (u.tmod 10)))))]).run Try.prog w2) = (.ok l0.v w3) /\
    Keeps J1 w2 w3 /\
    ∃ z0 : List UInt8, Bytes w3 l0 z0 /\
    ((s1.size : Int) + ((ByteArray.mk z0.toArray).size : Int)) <= 9223372036854775807 /\
    J0 (s1 ++ (ByteArray.mk z0.toArray)) w3) /\
  ∃ l1 : Sl, ∃ w4 : World, ((Instr.buildSlice 87 1 #[.mk 0 (.int .u8 (IntKind.wrap .u8 (IntKind.wrap .u64 (48 + (u.tmod 10)))))]).run Try.prog w1) = (.ok l1.v w4) /\
  Keeps J1 w1 w4 /\
  ∃ z1 : List UInt8, (∀ p0 : Addr, l1.a = (some p0) -> J1 p0.block) /\
  Bytes w4 l1 z1 /\
  Calls Try.prog 60 #[.int .u64 (IntKind.wrap .u64 (u.tdiv 10))] w4 fun e1 w5 => ∃ s2 : ByteArray, e1 = (.returned (.string s2)) /\
   Keeps J1 w4 w5 /\
   ((s2.size : Int) + ((ByteArray.mk z1.toArray).size : Int)) <= 9223372036854775807 /\
   J0 (s2 ++ (ByteArray.mk z1.toArray)) w5)
theorem v22w (u : Int) (R : Value -> World -> Prop) (w : World) (h : v22v u R w) : Cr 60 #[.int .u64 u] w R :=
 fB (an := .s .o (.s (.s .o (.s (.s .o .o) .o)) (.s (.j [] [.s 2 .str] .o .o) .o))) (args := [.int .u64 u]) h
def v42v (p : Addr) (s : ByteArray) (R : Value -> World -> Prop) (w : World) : Prop :=
  ∃ l0 : Sl, Cells w (p.add 0) [l0.v] /\
  ((decide ((l0.n : Int) <= 16384)) = true -> ∃ l1 : Sl, Cells w (p.add 0) [l1.v] /\
   ∃ l2 : Sl, ∃ w0 : World, ((Builtin.append_ #[87, 9] 87 #[l1.v, .string s]).run Try.prog w) = (.ok l2.v w0) /\
   ∃ k0 k1 : Nat, ∃ z0 : List Value, ∃ k2 : Nat, (p.add 0) = ⟨k0, k1, none⟩ /\
   Blk w0 k0 k2 z0 /\
   (k1 + 1) <= z0.length /\
   ∀ w1 : World, Only [k0] w0 w1 -> Blk w1 k0 k2 (splice z0 k1 [l2.v]) -> R (.tuple #[]) w1) /\
  ((decide ((l0.n : Int) <= 16384)) = false -> R (.tuple #[]) w)
theorem v42w (p : Addr) (s : ByteArray) (R : Value -> World -> Prop) (w : World) (h : v42v p s R w) : Cr 85 #[.pointer (some p), .string s] w R :=
 fB (an := .s .o (.s .o .o)) (args := [.ad p, .str s]) h
def v41v (p : Addr) (x x1 : Int) (x2 : ByteArray) (x3 : Int) (x4 : Sl) (x5 : Int) (is : Bool) (R : Value -> World -> Prop) (w : World) : Prop :=
 ∀ k0 : Nat, ∀ w0 : World, w.heap.size <= k0 -> k0 < w0.heap.size -> Only [] w w0 -> ∃ J0 : World -> Prop, (∀ w1 : World, J0 w1 -> Calls Try.prog 81 #[.pointer (some p), .agg #[.int .i64 x, .int .i64 x1, .string x2, .int .i64 x3, x4.v, .int .i64 x5]] w1 fun e0 w2 => e0 = (.returned (.tuple #[])) /\
  Same [k0] w1 w2 /\
  (is = true -> Calls Try.prog 85 #[.pointer (some p), .string (ByteArray.mk #[41])] w2 fun e1 w3 => e1 = (.returned (.tuple #[])) /\
   Same [k0] w2 w3 /\
   R (.tuple #[]) w3) /\
  (is = false -> R (.tuple #[]) w2)) /\
 (is = true -> Calls Try.prog 85 #[.pointer (some p), .string (ByteArray.mk #[40])] w0 fun e2 w4 => e2 = (.returned (.tuple #[])) /\
  Same [k0] w0 w4 /\
  J0 w4) /\
 (is = false -> J0 w0)
theorem v41w (p : Addr) (x x1 : Int) (x2 : ByteArray) (x3 : Int) (x4 : Sl) (x5 : Int) (is : Bool) (R : Value -> World -> Prop) (w : World) (h : v41v p x x1 x2 x3 x4 x5 is R w) : Cr 86 #[.pointer (some p), .agg #[.int .i64 x, .int .i64 x1, .string x2, .int .i64 x3, x4.v, .int .i64 x5], .bool is] w R :=
 fB (an := .s .o (.j [0, 2, 4] [] (.s .o (.s .o .o)) (.s .o (.s .o (.s .o .o))))) (args := [.ad p, .agg (ofL [.int .i64 x, .int .i64 x1, .str x2, .int .i64 x3, .sl x4, .int .i64 x5]), .bt is]) h
def v52v (R : Value -> World -> Prop) (w : World) : Prop :=
 ∃ l0 : Sl, ∃ w0 : World, ((Instr.buildSlice 97 1 #[.mk 0 (.string (ByteArray.mk #[124, 124]))]).run Try.prog w) = (.ok l0.v w0) /\
 ∃ l1 : Sl, ∃ w1 : World, ((Instr.buildSlice 97 1 #[.mk 0 (.string (ByteArray.mk #[38, 38]))]).run Try.prog w0) = (.ok l1.v w1) /\
 ∃ l2 : Sl, ∃ w2 : World, ((Instr.buildSlice 97 2 #[.mk 0 (.string (ByteArray.mk #[61, 61])), .mk 1 (.string (ByteArray.mk #[33, 61]))]).run Try.prog w1) = (.ok l2.v w2) /\
 ∃ l3 : Sl, ∃ w3 : World, ((Instr.buildSlice 97 4 #[.mk 0 (.string (ByteArray.mk #[60])), .mk 1 (.string (ByteArray.mk #[60, 61])), .mk 2 (.string (ByteArray.mk #[62])), .mk 3 (.string (ByteArray.mk #[62, 61]))]).run Try.prog w2) = (.ok l3.v w3) /\
 ∃ l4 : Sl, ∃ w4 : World, ((Instr.buildSlice 97 2 #[.mk 0 (.string (ByteArray.mk #[43])), .mk 1 (.string (ByteArray.mk #[45]))]).run Try.prog w3) = (.ok l4.v w4) /\
 ∃ l5 : Sl, ∃ w5 : World, ((Instr.buildSlice 97 3 #[.mk 0 (.string (ByteArray.mk #[42])), .mk 1 (.string (ByteArray.mk #[47])), .mk 2 (.string (ByteArray.mk #[37]))]).run Try.prog w4) = (.ok l5.v w5) /\
 ∃ l6 : Sl, ∃ w6 : World, ((Instr.buildSlice 136 6 #[.mk 0 l0.v, .mk 1 l1.v, .mk 2 l2.v, .mk 3 l3.v, .mk 4 l4.v, .mk 5 l5.v]).run Try.prog w5) = (.ok l6.v w6) /\
 R l6.v w6
theorem v52w (R : Value -> World -> Prop) (w : World) (h : v52v R w) : Cr 88 #[] w R :=
 fB (an := .s .o (.s .o .o)) (args := []) h
def v35v (s : ByteArray) (R : Value -> World -> Prop) (w : World) : Prop :=
  ∀ k0 k1 : Nat, ∀ w0 : World, w.heap.size <= k0 -> k0 < w0.heap.size -> w.heap.size <= k1 -> k1 < w0.heap.size -> Only [] w w0 -> Calls Try.prog 89 #[.string s] w0 fun e0 w1 => ∃ l0 : Sl, ∃ i0 i1 : Int, e0 = (.returned (.tuple #[l0.v, .agg #[.int .i64 i0, .int .i64 i1]])) /\
   Same [k0, k1] w0 w1 /\
   ((i0 != 0) = true -> ∀ k2 : Nat, ∀ w2 : World, w1.heap.size <= k2 -> k2 < w2.heap.size -> Only [] w1 w2 -> k0 ≠ k1 -> k0 ≠ k2 -> k1 ≠ k2 -> ∃ J0 : Nat -> Prop, J0 k2 /\
    Out J0 k0 /\
    Out J0 k1 /\
    ∀ w3 : World, Only [k1, k0] w2 w3 -> R (.tuple #[.agg #[.int .i64 0, .int .i64 0, .string (ByteArray.mk #[]), .int .i64 0, Sl.nil.v, .int .i64 0], .agg #[.int .i64 i0, .int .i64 i1]]) w3) /\
   ((i0 != 0) = false -> ∀ k3 : Nat, ∀ w4 : World, w1.heap.size <= k3 -> k3 < w4.heap.size -> Only [] w1 w4 -> Calls Try.prog 90 #[l0.v, .int .i64 0] w4 fun e1 w5 => ∃ i2 i3 : Int, ∃ s0 : ByteArray, ∃ i4 : Int, ∃ l1 : Sl, ∃ i5 i6 i7 i8 : Int, e1 = (.returned (.tuple #[.agg #[.int .i64 i2, .int .i64 i3, .string s0, .int .i64 i4, l1.v, .int .i64 i5], .int .i64 i6, .agg #[.int .i64 i7, .int .i64 i8]])) /\
    Same [k0, k1, k3] w4 w5 /\
    ((i7 != 0) = true -> ∀ k4 : Nat, ∀ w6 : World, w5.heap.size <= k4 -> k4 < w6.heap.size -> Only [k3] w5 w6 -> k0 ≠ k1 -> k0 ≠ k3 -> k0 ≠ k4 -> k1 ≠ k3 -> k1 ≠ k4 -> k3 ≠ k4 -> ∃ J1 : Nat -> Prop, J1 k3 /\
     Out J1 k0 /\
     Out J1 k1 /\
     ∀ w7 : World, Only [k1, k0] w6 w7 -> R (.tuple #[.agg #[.int .i64 0, .int .i64 0, .string (ByteArray.mk #[]), .int .i64 0, Sl.nil.v, .int .i64 0], .agg #[.int .i64 i7, .int .i64 i8]]) w7) /\
    ((i7 != 0) = false -> ∃ p0 : Addr, SlAt l0 i6 4 p0 /\
    ∀ k5 : Nat, ∀ w8 : World, w5.heap.size <= k5 -> k5 < w8.heap.size -> Only [k3] w5 w8 -> ∃ i9 : Int, Cells w8 (p0.add 0) [.int .i64 i9] /\
    ((i9 != 5) = true -> ∀ w9 : World, Only [] w8 w9 -> k0 ≠ k1 -> k0 ≠ k3 -> k0 ≠ k5 -> k1 ≠ k3 -> k1 ≠ k5 -> k3 ≠ k5 -> ∃ J2 : Nat -> Prop, ∃ p1 : Addr, SlAt l0 i6 4 p1 /\
     J2 ((p1.add 3).block) /\
     ∃ i10 : Int, Cells w9 (p1.add 3) [.int .i64 i10] /\
     Out J2 k0 /\
     Out J2 k1 /\
     ∀ w10 : World, Only [k1, k0] w9 w10 -> R (.tuple #[.agg #[.int .i64 0, .int .i64 0, .string (ByteArray.mk #[]), .int .i64 0, Sl.nil.v, .int .i64 0], .agg #[.int .i64 4, .int .i64 i10]]) w10) /\
    ((i9 != 5) = false -> ∀ w11 : World, Only [k1, k0] w8 w11 -> R (.tuple #[.agg #[.int .i64 i2, .int .i64 i3, .string s0, .int .i64 i4, l1.v, .int .i64 i5], .agg #[.int .i64 0, .int .i64 0]]) w11)))
theorem v35w (s : ByteArray) (R : Value -> World -> Prop) (w : World) (h : v35v s R w) : Cr 82 #[.string s] w R :=
 fB (an := .s .o (.s .o (.s (.s .o (.s (.s .o .o) .o)) (.s .o (.s (.s .o (.s (.s .o .o) .o)) (.s (.s .o (.s (.s .o .o) .o)) (.s .o .o))))))) (args := [.str s]) h
def v25v (s : ByteArray) (R : Value -> World -> Prop) (w : World) : Prop :=
  ((decide ((s.size : Int) > 16384)) = true -> ∀ k0 : Nat, ∀ w0 : World, w.heap.size <= k0 -> k0 < w0.heap.size -> Only [] w w0 -> R (.tuple #[Sl.nil.v, .agg #[.int .i64 2, .int .i64 (-1)]]) w0) /\
  ((decide ((s.size : Int) > 16384)) = false -> ∀ k1 : Nat, ∀ w1 : World, w.heap.size <= k1 -> k1 < w1.heap.size -> Only [] w w1 -> Calls Try.prog 91 #[.string s, .int .i64 0] w1 fun e0 w2 => ∃ i0 : Int, e0 = (.returned (.int .i64 i0)) /\
   Same [k1] w1 w2 /\
   ∃ J0 : Nat -> Sl -> Int -> Int -> Int -> World -> Prop, ∃ k2 : Nat, J0 k2 Sl.nil i0 0 0 w2 /\
   ∀ k3 : Nat, ∀ l0 : Sl, ∀ i1 i2 i3 : Int, ∀ w3 : World, J0 k3 l0 i1 i2 i3 w3 -> ((decide (i1 < (s.size : Int))) = true -> Calls Try.prog 92 #[.string s, .int .i64 i1] w3 fun e1 w4 => ∃ i4 : Int, ∃ s0 : ByteArray, ∃ i5 i6 i7 i8 : Int, e1 = (.returned (.tuple #[.agg #[.int .i64 i4, .string s0, .int .i64 i5, .int .i64 i6], .int .i64 i7, .int .i64 i8])) /\
     Same [k1] w3 w4 /\
     ((i8 != 0) = true -> ∀ k4 : Nat, ∀ w5 : World, w4.heap.size <= k4 -> k4 < w5.heap.size -> Only [k1] w4 w5 -> R (.tuple #[Sl.nil.v, .agg #[.int .i64 i8, .int .i64 i1]]) w5) /\
     ((i8 != 0) = false -> ∀ k5 : Nat, ∀ w6 : World, w4.heap.size <= k5 -> k5 < w6.heap.size -> Only [] w4 w6 -> ∃ l1 : Sl, ∃ w7 : World, ((Instr.buildSlice 138 1 #[.mk 0 (.agg #[.int .i64 i4, .string s0, .int .i64 i5, .int .i64 i6])]).run Try.prog w6) = (.ok l1.v w7) /\
     Same [k1, k5] w6 w7 /\
     ∃ l2 : Sl, ∃ w8 : World, ((Builtin.append_ #[138, 138] 138 #[l0.v, l1.v]).run Try.prog w7) = (.ok l2.v w8) /\
     Same [k1, k5] w7 w8 /\
     Calls Try.prog 91 #[.string s, .int .i64 (IntKind.wrap .i64 (i1 + i7))] w8 fun e2 w9 => ∃ i9 : Int, e2 = (.returned (.int .i64 i9)) /\
      Same [k1, k5] w8 w9 /\
      ∃ k6 : Nat, k6 < k3 /\
      J0 k6 l2 i9 i2 i3 w9)) /\
   ((decide (i1 < (s.size : Int))) = false -> ∃ l3 : Sl, ∃ w10 : World, ((Instr.buildSlice 138 1 #[.mk 0 (.agg #[.int .i64 5, .string (ByteArray.mk #[]), .int .i64 0, .int .i64 (s.size : Int)])]).run Try.prog w3) = (.ok l3.v w10) /\
   Same [k1] w3 w10 /\
   ∃ l4 : Sl, ∃ w11 : World, ((Builtin.append_ #[138, 138] 138 #[l0.v, l3.v]).run Try.prog w10) = (.ok l4.v w11) /\
   Same [k1] w10 w11 /\
   ∀ w12 : World, Only [k1] w11 w12 -> R (.tuple #[l4.v, .agg #[.int .i64 0, .int .i64 0]]) w12))
theorem v25w (s : ByteArray) (R : Value -> World -> Prop) (w : World) (h : v25v s R w) : Cr 89 #[.string s] w R :=
 fB (an := .s .o (.s (.s .o (.s (.s .o .o) .o)) (.s .o (.s .o (.s (.j [0, 3] [.s 4 .sl, .s 5 (.int .i64), .b 3 [.int .i64, .int .i64]] (.s (.s .o (.s .o .o)) (.s .o (.s (.s .o (.s (.s .o .o) .o)) (.s .o .o)))) .o) (.s .o .o)))))) (args := [.str s]) h
def v28v (s : ByteArray) (at_ : Int) (R : Value -> World -> Prop) (w : World) : Prop :=
  ∃ J0 : Int -> World -> Prop, (∀ i0 : Int, ∀ w0 : World, J0 i0 w0 -> R (.int .i64 i0) w0) /\
  ∃ J1 : Nat -> Int -> World -> Prop, ∃ k0 : Nat, J1 k0 at_ w /\
  ∀ k1 : Nat, ∀ i1 : Int, ∀ w1 : World, J1 k1 i1 w1 -> ((decide (i1 < (s.size : Int))) = true -> ∃ c0 : UInt8, (0 <= i1 /\
    (s[Int.toNat i1]?) = (some c0)) /\
   ∃ c1 : UInt8, ((((UInt8.toNat c0 : Int) == 47) && (decide ((IntKind.wrap .i64 (i1 + 1)) < (s.size : Int)))) = true -> 0 <= (IntKind.wrap .i64 (i1 + 1)) /\
    (s[Int.toNat (IntKind.wrap .i64 (i1 + 1))]?) = (some c1)) /\
   (((((UInt8.toNat c0 : Int) == 47) && (decide ((IntKind.wrap .i64 (i1 + 1)) < (s.size : Int)))) && ((UInt8.toNat c1 : Int) == 47)) = true -> ∃ J2 : Nat -> Int -> World -> Prop, ∃ k4 : Nat, J2 k4 i1 w1 /\
    ∀ k5 : Nat, ∀ i2 : Int, ∀ w2 : World, J2 k5 i2 w2 -> ∃ c2 : UInt8, ((decide (i2 < (s.size : Int))) = true -> 0 <= i2 /\
     (s[Int.toNat i2]?) = (some c2)) /\
    (((decide (i2 < (s.size : Int))) && ((UInt8.toNat c2 : Int) != 10)) = true -> ∃ k7 : Nat, k7 < k5 /\
     J2 k7 (IntKind.wrap .i64 (i2 + 1)) w2) /\
    (((decide (i2 < (s.size : Int))) && ((UInt8.toNat c2 : Int) != 10)) = false -> ∃ k8 : Nat, k8 < k1 /\
    J1 k8 i2 w2)) /\
   (((((UInt8.toNat c0 : Int) == 47) && (decide ((IntKind.wrap .i64 (i1 + 1)) < (s.size : Int)))) && ((UInt8.toNat c1 : Int) == 47)) = false -> ((((((UInt8.toNat c0 : Int) == 9) || ((UInt8.toNat c0 : Int) == 10)) || ((UInt8.toNat c0 : Int) == 13)) || ((UInt8.toNat c0 : Int) == 32)) = true -> ∃ k9 : Nat, k9 < k1 /\
    J1 k9 (IntKind.wrap .i64 (i1 + 1)) w1) /\
   ((((((UInt8.toNat c0 : Int) == 9) || ((UInt8.toNat c0 : Int) == 10)) || ((UInt8.toNat c0 : Int) == 13)) || ((UInt8.toNat c0 : Int) == 32)) = false -> J0 i1 w1))) /\
  ((decide (i1 < (s.size : Int))) = false -> J0 i1 w1)
theorem v28w (s : ByteArray) (at_ : Int) (R : Value -> World -> Prop) (w : World) (h : v28v s at_ R w) : Cr 91 #[.string s, .int .i64 at_] w R :=
 fB (an := .s .o (.j [] [.s 1 (.int .i64)] (.j [0] [.s 1 (.int .i64)] (.s (.s .o (.s .o .o)) (.s .o (.s .o (.s (.j [0] [.s 1 (.int .i64)] (.s (.s .o (.s .o .o)) .o) .o) (.s .o (.s .o .o)))))) .o) (.s .o .o))) (args := [.str s, .int .i64 at_]) h
def v33v (s : ByteArray) (at_ : Int) (R : Value -> World -> Prop) (w : World) : Prop :=
  ∃ c0 : UInt8, (0 <= at_ /\
   (s[Int.toNat at_]?) = (some c0)) /\
  ∀ k1 : Nat, ∀ w0 : World, w.heap.size <= k1 -> k1 < w0.heap.size -> Only [] w w0 -> Calls Try.prog 68 #[.int .u8 (UInt8.toNat c0 : Int)] w0 fun e0 w1 => ∃ b0 : Bool, e0 = (.returned (.bool b0)) /\
   Same [k1] w0 w1 /\
   ∃ c1 : UInt8, (0 <= at_ /\
    (s[Int.toNat at_]?) = (some c1)) /\
   Calls Try.prog 76 #[.int .u8 (UInt8.toNat c1 : Int)] w1 fun e1 w2 => ∃ b1 : Bool, e1 = (.returned (.bool b1)) /\
    Same [k1] w1 w2 /\
    (b0 = true -> Calls Try.prog 70 #[.string s, .int .i64 at_] w2 fun e2 w3 => ∃ i0 : Int, e2 = (.returned (.int .i64 i0)) /\
      Same [k1] w2 w3 /\
      ∃ k3 k4 : Nat, (at_ = (k3 : Int) /\
       (IntKind.wrap .i64 (at_ + i0)) = (k4 : Int) /\
       k3 <= k4 /\
       k4 <= s.size) /\
      ∀ k5 : Nat, ∀ w4 : World, w3.heap.size <= k5 -> k5 < w4.heap.size -> Only [] w3 w4 -> Calls Try.prog 69 #[.string (s.extract k3 k4)] w4 fun e3 w5 => ∃ b2 : Bool, e3 = (.returned (.bool b2)) /\
       Same [k1, k5] w4 w5 /\
       ∃ J0 : Int -> ByteArray -> Int -> Int -> World -> Prop, (∀ i1 : Int, ∀ s2 : ByteArray, ∀ i2 i3 : Int, ∀ w6 : World, J0 i1 s2 i2 i3 w6 -> ((decide (i0 > 24)) = true -> ∀ w7 : World, Only [k1] w6 w7 -> R (.tuple #[.agg #[.int .i64 0, .string (ByteArray.mk #[]), .int .i64 0, .int .i64 0], .int .i64 0, .int .i64 2]) w7) /\
        ((decide (i0 > 24)) = false -> ∀ w8 : World, Only [k1] w6 w8 -> R (.tuple #[.agg #[.int .i64 i1, .string s2, .int .i64 i2, .int .i64 i3], .int .i64 i0, .int .i64 0]) w8)) /\
       (b2 = true -> ∀ w9 : World, Only [k5] w5 w9 -> J0 2 (s.extract k3 k4) 0 at_ w9) /\
       (b2 = false -> J0 1 (s.extract k3 k4) 0 at_ w5)) /\
    (b0 = false -> (b1 = true -> ∃ k6 : Nat, (at_ = (k6 : Int) /\
      k6 <= s.size) /\
     Calls Try.prog 94 #[.string (s.extract k6 s.size)] w2 fun e4 w10 => ∃ i4 i5 i6 : Int, e4 = (.returned (.tuple #[.int .i64 i4, .int .i64 i5, .int .i64 i6])) /\
      Same [k1] w2 w10 /\
      ((i6 != 0) = true -> ∀ w11 : World, Only [k1] w10 w11 -> R (.tuple #[.agg #[.int .i64 0, .string (ByteArray.mk #[]), .int .i64 0, .int .i64 0], .int .i64 0, .int .i64 i6]) w11) /\
      ((i6 != 0) = false -> Calls Try.prog 70 #[.string s, .int .i64 at_] w10 fun e5 w12 => ∃ i7 : Int, e5 = (.returned (.int .i64 i7)) /\
       Same [k1] w10 w12 /\
       ((decide (i7 > i5)) = true -> ∀ w13 : World, Only [k1] w12 w13 -> R (.tuple #[.agg #[.int .i64 0, .string (ByteArray.mk #[]), .int .i64 0, .int .i64 0], .int .i64 0, .int .i64 4]) w13) /\
       ((decide (i7 > i5)) = false -> ∀ w14 : World, Only [k1] w12 w14 -> R (.tuple #[.agg #[.int .i64 3, .string (ByteArray.mk #[]), .int .i64 i4, .int .i64 at_], .int .i64 i5, .int .i64 0]) w14))) /\
    (b1 = false -> Calls Try.prog 95 #[.string s, .int .i64 at_] w2 fun e6 w15 => ∃ i8 : Int, e6 = (.returned (.int .i64 i8)) /\
     Same [k1] w2 w15 /\
     ((i8 == 0) = true -> ∀ w16 : World, Only [k1] w15 w16 -> R (.tuple #[.agg #[.int .i64 0, .string (ByteArray.mk #[]), .int .i64 0, .int .i64 0], .int .i64 0, .int .i64 4]) w16) /\
     ((i8 == 0) = false -> ∃ k7 k8 : Nat, (at_ = (k7 : Int) /\
      (IntKind.wrap .i64 (at_ + i8)) = (k8 : Int) /\
      k7 <= k8 /\
      k8 <= s.size) /\
     ∀ w17 : World, Only [k1] w15 w17 -> R (.tuple #[.agg #[.int .i64 4, .string (s.extract k7 k8), .int .i64 0, .int .i64 at_], .int .i64 i8, .int .i64 0]) w17)))
theorem v33w (s : ByteArray) (at_ : Int) (R : Value -> World -> Prop) (w : World) (h : v33v s at_ R w) : Cr 92 #[.string s, .int .i64 at_] w R :=
 fB (an := .s .o (.s .o (.s .o (.s (.s .o (.s (.s .o (.s .o (.s .o (.j [4, 9, 10] [.b 10 [.int .i64, .str, .int .i64, .int .i64]] (.s .o (.s .o .o)) (.s (.s .o (.s (.s .o .o) .o)) (.s .o .o)))))) .o)) (.s (.s .o (.s (.s .o (.s (.s .o (.s (.s .o .o) .o)) (.s (.s .o (.s (.s .o .o) .o)) (.s .o .o)))) .o)) (.s .o (.s (.s .o (.s (.s .o .o) .o)) (.s .o .o)))))))) (args := [.str s, .int .i64 at_]) h
def v20v (s : ByteArray) (R : Value -> World -> Prop) (w : World) : Prop :=
  (((s.size : Int) == 0) = true -> R (.tuple #[.int .i64 0, .int .i64 0, .int .i64 3]) w) /\
  (((s.size : Int) == 0) = false -> ∃ J0 : Nat -> Int -> World -> Prop, ∃ k0 : Nat, J0 k0 0 w /\
  ∀ k1 : Nat, ∀ i0 : Int, ∀ w0 : World, J0 k1 i0 w0 -> ∃ c0 : UInt8, ((decide (i0 < (s.size : Int))) = true -> 0 <= i0 /\
   (s[Int.toNat i0]?) = (some c0)) /\
  ∃ c1 : UInt8, (((decide (i0 < (s.size : Int))) && (decide ((UInt8.toNat c0 : Int) >= 48))) = true -> 0 <= i0 /\
   (s[Int.toNat i0]?) = (some c1)) /\
  ((((decide (i0 < (s.size : Int))) && (decide ((UInt8.toNat c0 : Int) >= 48))) && (decide ((UInt8.toNat c1 : Int) <= 57))) = true -> ∃ k4 : Nat, k4 < k1 /\
   J0 k4 (IntKind.wrap .i64 (i0 + 1)) w0) /\
  ((((decide (i0 < (s.size : Int))) && (decide ((UInt8.toNat c0 : Int) >= 48))) && (decide ((UInt8.toNat c1 : Int) <= 57))) = false -> ∃ c2 : UInt8, ((i0 == 0) = false -> (decide (i0 > 1)) = true -> (0 : Int) <= 0 /\
   s[0]? = (some c2)) /\
  (((i0 == 0) || ((decide (i0 > 1)) && ((UInt8.toNat c2 : Int) == 48))) = true -> R (.tuple #[.int .i64 0, .int .i64 0, .int .i64 4]) w0) /\
  (((i0 == 0) || ((decide (i0 > 1)) && ((UInt8.toNat c2 : Int) == 48))) = false -> ∃ J1 : Nat -> Int -> Int -> World -> Prop, ∃ k6 : Nat, J1 k6 0 0 w0 /\
  ∀ k7 : Nat, ∀ i1 i2 : Int, ∀ w1 : World, J1 k7 i1 i2 w1 -> ((decide (i2 < i0)) = true -> ∃ c3 : UInt8, (0 <= i2 /\
    (s[Int.toNat i2]?) = (some c3)) /\
   ((decide (i1 > (IntKind.wrap .i64 ((IntKind.wrap .i64 (9223372036854775807 - (IntKind.wrap .i64 (IntKind.wrap .u8 ((UInt8.toNat c3 : Int) - 48))))).tdiv 10)))) = true -> R (.tuple #[.int .i64 0, .int .i64 0, .int .i64 20]) w1) /\
   ((decide (i1 > (IntKind.wrap .i64 ((IntKind.wrap .i64 (9223372036854775807 - (IntKind.wrap .i64 (IntKind.wrap .u8 ((UInt8.toNat c3 : Int) - 48))))).tdiv 10)))) = false -> ∃ k9 : Nat, k9 < k7 /\
   J1 k9 (IntKind.wrap .i64 ((IntKind.wrap .i64 (10 * i1)) + (IntKind.wrap .i64 (IntKind.wrap .u8 ((UInt8.toNat c3 : Int) - 48))))) (IntKind.wrap .i64 (i2 + 1)) w1)) /\
  ((decide (i2 < i0)) = false -> R (.tuple #[.int .i64 i1, .int .i64 i0, .int .i64 0]) w1))))
theorem v20w (s : ByteArray) (R : Value -> World -> Prop) (w : World) (h : v20v s R w) : Cr 94 #[.string s] w R :=
 fB (an := .s .o (.s (.s .o (.s (.s .o .o) .o)) (.s .o (.s (.j [0] [.s 5 (.int .i64)] (.s (.s .o (.s .o .o)) .o) .o) (.s (.s .o (.s (.s .o .o) .o)) (.s .o (.s (.s .o (.j [0, 5] [.s 6 (.int .i64), .s 7 (.int .i64)] (.s (.s .o (.s .o .o)) (.s (.s .o (.s (.s .o (.s (.s .o .o) .o)) .o)) .o)) .o)) (.s .o .o)))))))) (args := [.str s]) h
def v32v (s : ByteArray) (at_ : Int) (R : Value -> World -> Prop) (w : World) : Prop :=
  ∃ l0 : Sl, ∃ w0 : World, ((Instr.buildSlice 97 7 #[.mk 0 (.string (ByteArray.mk #[45, 62])), .mk 1 (.string (ByteArray.mk #[60, 61])), .mk 2 (.string (ByteArray.mk #[62, 61])), .mk 3 (.string (ByteArray.mk #[61, 61])), .mk 4 (.string (ByteArray.mk #[33, 61])), .mk 5 (.string (ByteArray.mk #[38, 38])), .mk 6 (.string (ByteArray.mk #[124, 124]))]).run Try.prog w) = (.ok l0.v w0) /\
  ∃ J0 : Nat -> Int -> World -> Prop, ∃ k0 : Nat, J0 k0 0 w0 /\
  ∀ k1 : Nat, ∀ i0 : Int, ∀ w1 : World, J0 k1 i0 w1 -> ((decide (i0 < (l0.n : Int))) = true -> ∃ k2 k3 : Nat, ((decide ((IntKind.wrap .i64 (at_ + 2)) <= (s.size : Int))) = true -> at_ = (k2 : Int) /\
    (IntKind.wrap .i64 (at_ + 2)) = (k3 : Int) /\
    k2 <= k3 /\
    k3 <= s.size) /\
   ∃ p0 : Addr, ((decide ((IntKind.wrap .i64 (at_ + 2)) <= (s.size : Int))) = true -> SlAt l0 i0 1 p0) /\
   ∃ s0 : ByteArray, ((decide ((IntKind.wrap .i64 (at_ + 2)) <= (s.size : Int))) = true -> Cells w1 p0 [.string s0]) /\
   (((decide ((IntKind.wrap .i64 (at_ + 2)) <= (s.size : Int))) && (((s.extract k2 k3).toList) == s0.toList)) = true -> ∀ w2 : World, Only [] w1 w2 -> R (.int .i64 2) w2) /\
   (((decide ((IntKind.wrap .i64 (at_ + 2)) <= (s.size : Int))) && (((s.extract k2 k3).toList) == s0.toList)) = false -> ∀ w3 : World, Only [] w1 w3 -> ∃ k4 : Nat, k4 < k1 /\
   J0 k4 (IntKind.wrap .i64 (i0 + 1)) w3)) /\
  ((decide (i0 < (l0.n : Int))) = false -> ∃ J1 : Nat -> Int -> World -> Prop, ∃ k5 : Nat, J1 k5 0 w1 /\
  ∀ k6 : Nat, ∀ i1 : Int, ∀ w4 : World, J1 k6 i1 w4 -> ((decide (i1 < 17)) = true -> ∃ c0 : UInt8, (0 <= at_ /\
    (s[Int.toNat at_]?) = (some c0)) /\
   ∃ c1 : UInt8, (0 <= i1 /\
    ((ByteArray.mk #[123, 125, 40, 41, 91, 93, 59, 44, 61, 43, 45, 42, 47, 37, 60, 62, 33])[Int.toNat i1]?) = (some c1)) /\
   (((UInt8.toNat c0 : Int) == (UInt8.toNat c1 : Int)) = true -> ∀ w5 : World, Only [] w4 w5 -> R (.int .i64 1) w5) /\
   (((UInt8.toNat c0 : Int) == (UInt8.toNat c1 : Int)) = false -> ∀ w6 : World, Only [] w4 w6 -> ∃ k9 : Nat, k9 < k6 /\
   J1 k9 (IntKind.wrap .i64 (i1 + 1)) w6)) /\
  ((decide (i1 < 17)) = false -> R (.int .i64 0) w4))
theorem v32w (s : ByteArray) (at_ : Int) (R : Value -> World -> Prop) (w : World) (h : v32v s at_ R w) : Cr 95 #[.string s, .int .i64 at_] w R :=
 fB (an := .s .o (.s .o (.s (.s .o (.j [0, 1, 5] [.s 6 (.int .i64)] (.s (.s .o (.s .o .o)) (.s (.s .o (.s (.s .o .o) .o)) .o)) .o)) (.s .o (.s (.s .o (.j [0, 1, 7] [.s 8 (.int .i64)] (.s (.s .o (.s .o .o)) (.s (.s .o (.s (.s .o .o) .o)) .o)) .o)) (.s .o .o)))))) (args := [.str s, .int .i64 at_]) h
def v34v (l : Sl) (at_ : Int) (R : Value -> World -> Prop) (w : World) : Prop :=
  (((decide (at_ < 0)) || (decide (at_ >= (l.n : Int)))) = true -> ∀ k0 k1 : Nat, ∀ w0 : World, w.heap.size <= k0 -> k0 < w0.heap.size -> w.heap.size <= k1 -> k1 < w0.heap.size -> Only [] w w0 -> R (.tuple #[.agg #[.int .i64 0, .int .i64 0, .string (ByteArray.mk #[]), .int .i64 0, Sl.nil.v, .int .i64 0], .int .i64 0, .agg #[.int .i64 1, .int .i64 (-1)]]) w0) /\
  (((decide (at_ < 0)) || (decide (at_ >= (l.n : Int)))) = false -> ∀ k2 k3 : Nat, ∀ w1 : World, w.heap.size <= k2 -> k2 < w1.heap.size -> w.heap.size <= k3 -> k3 < w1.heap.size -> Only [] w w1 -> ∃ J0 : Nat -> Int -> Int -> Int -> ByteArray -> Int -> Sl -> Int -> Int -> Int -> World -> Prop, ∃ k4 : Nat, J0 k4 0 0 0 (ByteArray.mk #[]) 0 Sl.nil 0 0 0 w1 /\
  ∀ k5 : Nat, ∀ i0 i1 i2 : Int, ∀ s0 : ByteArray, ∀ i3 : Int, ∀ l0 : Sl, ∀ i4 i5 i6 : Int, ∀ w2 : World, J0 k5 i0 i1 i2 s0 i3 l0 i4 i5 i6 w2 -> ((decide (i0 < (l.n : Int))) = true -> ∃ p0 : Addr, SlAt l i0 4 p0 /\
   ∃ i7 : Int, Cells w2 (p0.add 0) [.int .i64 i7] /\
   ((!((i7 == 5) == (i0 == (IntKind.wrap .i64 ((l.n : Int) - 1))))) = true -> ∀ w3 : World, Only [k3, k2] w2 w3 -> R (.tuple #[.agg #[.int .i64 0, .int .i64 0, .string (ByteArray.mk #[]), .int .i64 0, Sl.nil.v, .int .i64 0], .int .i64 0, .agg #[.int .i64 1, .int .i64 (-1)]]) w3) /\
   ((!((i7 == 5) == (i0 == (IntKind.wrap .i64 ((l.n : Int) - 1))))) = false -> ∃ k6 : Nat, k6 < k5 /\
   J0 k6 (IntKind.wrap .i64 (i0 + 1)) i1 i2 s0 i3 l0 i4 i5 i6 w2)) /\
  ((decide (i0 < (l.n : Int))) = false -> ∀ k7 : Nat, ∀ w4 : World, w2.heap.size <= k7 -> k7 < w4.heap.size -> Only [] w2 w4 -> Blk w4 k7 149 [l.v, .int .i64 at_, .int .i64 0, .int .i64 0, .int .i64 0] -> Calls Try.prog 93 #[.pointer (some ⟨k7, 0, none⟩), .int .i64 0] w4 fun e0 w5 => ∃ i8 i9 : Int, ∃ s1 : ByteArray, ∃ i10 : Int, ∃ l1 : Sl, ∃ i11 : Int, e0 = (.returned (.agg #[.int .i64 i8, .int .i64 i9, .string s1, .int .i64 i10, l1.v, .int .i64 i11])) /\
   Same [k2, k3] w4 w5 /\
   ∃ l2 : Sl, ∃ i12 i13 i14 i15 : Int, Blk w5 k7 149 [l2.v, .int .i64 i12, .int .i64 i13, .int .i64 i14, .int .i64 i15] /\
   ((i14 != 0) = true -> ∀ k8 : Nat, ∀ w6 : World, w5.heap.size <= k8 -> k8 < w6.heap.size -> Only [] w5 w6 -> Blk w6 k7 149 [l2.v, .int .i64 i12, .int .i64 i13, .int .i64 i14, .int .i64 i15] -> k2 ≠ k3 -> k2 ≠ k7 -> k2 ≠ k8 -> k3 ≠ k7 -> k3 ≠ k8 -> k7 ≠ k8 -> ∃ J1 : Nat -> Prop, J1 k7 /\
    Out J1 k2 /\
    Out J1 k3 /\
    ∀ w7 : World, Only [k3, k2] w6 w7 -> Blk w7 k7 149 [l2.v, .int .i64 i12, .int .i64 i13, .int .i64 i14, .int .i64 i15] -> R (.tuple #[.agg #[.int .i64 0, .int .i64 0, .string (ByteArray.mk #[]), .int .i64 0, Sl.nil.v, .int .i64 0], .int .i64 0, .agg #[.int .i64 i14, .int .i64 i15]]) w7) /\
   ((i14 != 0) = false -> ∀ k9 : Nat, ∀ w8 : World, w5.heap.size <= k9 -> k9 < w8.heap.size -> Only [] w5 w8 -> Blk w8 k7 149 [l2.v, .int .i64 i12, .int .i64 i13, .int .i64 i14, .int .i64 i15] -> k2 ≠ k3 -> k2 ≠ k7 -> k2 ≠ k9 -> k3 ≠ k7 -> k3 ≠ k9 -> k7 ≠ k9 -> ∃ J2 : Nat -> Prop, J2 k7 /\
   Out J2 k2 /\
   Out J2 k3 /\
   ∀ w9 : World, Only [k3, k2] w8 w9 -> Blk w9 k7 149 [l2.v, .int .i64 i12, .int .i64 i13, .int .i64 i14, .int .i64 i15] -> R (.tuple #[.agg #[.int .i64 i8, .int .i64 i9, .string s1, .int .i64 i10, l1.v, .int .i64 i11], .int .i64 i12, .agg #[.int .i64 0, .int .i64 0]]) w9)))
theorem v34w (l : Sl) (at_ : Int) (R : Value -> World -> Prop) (w : World) (h : v34v l at_ R w) : Cr 90 #[l.v, .int .i64 at_] w R :=
 fB (an := .s .o (.s (.s .o (.s (.s .o .o) .o)) (.s (.s .o (.j [0, 1, 4, 6] [.s 7 (.int .i64), .b 4 [.int .i64, .int .i64, .str, .int .i64, .sl, .int .i64], .b 6 [.int .i64, .int .i64]] (.s (.s .o (.s .o .o)) (.s (.s .o (.s (.s .o .o) .o)) .o)) .o)) (.s .o (.s .o (.s (.s .o (.s (.s .o .o) .o)) (.s .o .o))))))) (args := [.sl l, .int .i64 at_]) h
def v44v (r : Addr) (k : Int) (R : Value -> World -> Prop) (w : World) : Prop :=
  ((k == 6) = true -> ∀ k0 : Nat, ∀ w0 : World, w.heap.size <= k0 -> k0 < w0.heap.size -> Only [] w w0 -> Calls Try.prog 96 #[.pointer (some r)] w0 fun e0 w1 => ∃ i0 i1 : Int, ∃ s0 : ByteArray, ∃ i2 : Int, ∃ l0 : Sl, ∃ i3 : Int, e0 = (.returned (.agg #[.int .i64 i0, .int .i64 i1, .string s0, .int .i64 i2, l0.v, .int .i64 i3])) /\
    Same [k0] w0 w1 /\
    ∀ w2 : World, Only [k0] w1 w2 -> R (.agg #[.int .i64 i0, .int .i64 i1, .string s0, .int .i64 i2, l0.v, .int .i64 i3]) w2) /\
  ((k == 6) = false -> ∀ k1 : Nat, ∀ w3 : World, w.heap.size <= k1 -> k1 < w3.heap.size -> Only [] w w3 -> Calls Try.prog 93 #[.pointer (some r), .int .i64 (IntKind.wrap .i64 (k + 1))] w3 fun e1 w4 => ∃ i4 i5 : Int, ∃ s1 : ByteArray, ∃ i6 : Int, ∃ l1 : Sl, ∃ i7 : Int, e1 = (.returned (.agg #[.int .i64 i4, .int .i64 i5, .string s1, .int .i64 i6, l1.v, .int .i64 i7])) /\
   Same [k1] w3 w4 /\
   ∀ k2 : Nat, ∀ w5 : World, w4.heap.size <= k2 -> k2 < w5.heap.size -> Only [] w4 w5 -> Calls Try.prog 97 #[.pointer (some r), .int .i64 k] w5 fun e2 w6 => ∃ i8 : Int, e2 = (.returned (.int .i64 i8)) /\
    Same [k1, k2] w5 w6 /\
    ∃ J0 : Nat -> Int -> Int -> Int -> ByteArray -> Int -> Sl -> Int -> World -> Prop, ∃ k3 : Nat, J0 k3 i8 i4 i5 s1 i6 l1 i7 w6 /\
    ∀ k4 : Nat, ∀ i9 i10 i11 : Int, ∀ s2 : ByteArray, ∀ i12 : Int, ∀ l2 : Sl, ∀ i13 : Int, ∀ w7 : World, J0 k4 i9 i10 i11 s2 i12 l2 i13 w7 -> ((i9 != 0) = true -> ∃ i14 : Int, Cells w7 (r.add 1) [.int .i64 i14] /\
     ∃ k5 k6 : Nat, ∃ z0 : List Value, ∃ k7 : Nat, (r.add 1) = ⟨k5, k6, none⟩ /\
     Blk w7 k5 k7 z0 /\
     (k6 + 1) <= z0.length /\
     k1 ≠ k5 /\
     k2 ≠ k5 /\
     ∀ w8 : World, Only [k5] w7 w8 -> Blk w8 k5 k7 (splice z0 k6 [.int .i64 (IntKind.wrap .i64 (i14 + 1))]) -> Calls Try.prog 93 #[.pointer (some r), .int .i64 (IntKind.wrap .i64 (k + 1))] w8 fun e3 w9 => ∃ i15 i16 : Int, ∃ s3 : ByteArray, ∃ i17 : Int, ∃ l3 : Sl, ∃ i18 : Int, e3 = (.returned (.agg #[.int .i64 i15, .int .i64 i16, .string s3, .int .i64 i17, l3.v, .int .i64 i18])) /\
      Same [k1, k2] w8 w9 /\
      ∀ k8 : Nat, ∀ w10 : World, w9.heap.size <= k8 -> k8 < w10.heap.size -> Only [] w9 w10 -> ∃ l4 : Sl, ∃ w11 : World, ((Instr.buildSlice 94 2 #[.mk 0 (.agg #[.int .i64 i10, .int .i64 i11, .string s2, .int .i64 i12, l2.v, .int .i64 i13]), .mk 1 (.agg #[.int .i64 i15, .int .i64 i16, .string s3, .int .i64 i17, l3.v, .int .i64 i18])]).run Try.prog w10) = (.ok l4.v w11) /\
      Same [k1, k2, k8] w10 w11 /\
      ∀ w12 : World, Only [k2] w11 w12 -> Calls Try.prog 97 #[.pointer (some r), .int .i64 k] w12 fun e4 w13 => ∃ i19 : Int, e4 = (.returned (.int .i64 i19)) /\
       Same [k1, k2, k8] w12 w13 /\
       ∃ k9 : Nat, k9 < k4 /\
       J0 k9 i19 5 0 (ByteArray.mk #[]) i9 l4 i13 w13) /\
    ((i9 != 0) = false -> ∀ w14 : World, Only [k1] w7 w14 -> R (.agg #[.int .i64 i10, .int .i64 i11, .string s2, .int .i64 i12, l2.v, .int .i64 i13]) w14))
theorem v44w (r : Addr) (k : Int) (R : Value -> World -> Prop) (w : World) (h : v44v r k R w) : Cr 93 #[.pointer (some r), .int .i64 k] w R :=
 fB (an := .s .o (.s (.s .o (.s (.s .o .o) .o)) (.s .o (.s .o (.s (.j [0, 1, 4, 5] [.s 6 (.int .i64), .b 5 [.int .i64, .int .i64, .str, .int .i64, .sl, .int .i64]] (.s (.s .o (.s .o .o)) (.s .o (.s .o (.s .o .o)))) .o) (.s .o .o)))))) (args := [.ad r, .int .i64 k]) h
def v47v (r : Addr) (R : Value -> World -> Prop) (w : World) : Prop :=
  ∀ k0 : Nat, ∀ w0 : World, w.heap.size <= k0 -> k0 < w0.heap.size -> Only [] w w0 -> ∃ J0 : Nat -> Prop, J0 ((r.add 0).block) /\
  ∃ l0 : Sl, Cells w0 (r.add 0) [l0.v] /\
  J0 ((r.add 1).block) /\
  ∃ i0 : Int, Cells w0 (r.add 1) [.int .i64 i0] /\
  ∃ p0 : Addr, SlAt l0 i0 4 p0 /\
  J0 p0.block /\
  ∃ i1 : Int, ∃ s0 : ByteArray, ∃ i2 i3 : Int, Cells w0 p0 [.int .i64 i1, .string s0, .int .i64 i2, .int .i64 i3] /\
  ∀ k1 : Nat, ∀ w1 : World, w0.heap.size <= k1 -> k1 < w1.heap.size -> Only [] w0 w1 -> Calls Try.prog 98 #[.pointer (some r), .string (ByteArray.mk #[45])] w1 fun e0 w2 => ∃ b0 : Bool, e0 = (.returned (.bool b0)) /\
   Same [k0, k1] w1 w2 /\
   Calls Try.prog 98 #[.pointer (some r), .string (ByteArray.mk #[33])] w2 fun e1 w3 => ∃ b1 : Bool, e1 = (.returned (.bool b1)) /\
    Same [k0, k1] w2 w3 /\
    Calls Try.prog 98 #[.pointer (some r), .string (ByteArray.mk #[40])] w3 fun e2 w4 => ∃ b2 : Bool, e2 = (.returned (.bool b2)) /\
     Same [k0, k1] w3 w4 /\
     ∃ i4 : Int, Cells w4 ((r.add 3).add 0) [.int .i64 i4] /\
     ((i4 != 0) = true -> ∀ w5 : World, Only [k0] w4 w5 -> R (.agg #[.int .i64 0, .int .i64 0, .string (ByteArray.mk #[]), .int .i64 0, Sl.nil.v, .int .i64 0]) w5) /\
     ((i4 != 0) = false -> ((b0 || b1) = true -> Calls Try.prog 99 #[.pointer (some r)] w4 fun e3 w6 => ∃ b3 : Bool, e3 = (.returned (.bool b3)) /\
       Same [k0, k1] w4 w6 /\
       ((!b3) = true -> ∀ w7 : World, Only [k0] w6 w7 -> R (.agg #[.int .i64 0, .int .i64 0, .string (ByteArray.mk #[]), .int .i64 0, Sl.nil.v, .int .i64 0]) w7) /\
       ((!b3) = false -> Calls Try.prog 96 #[.pointer (some r)] w6 fun e4 w8 => ∃ i5 i6 : Int, ∃ s1 : ByteArray, ∃ i7 : Int, ∃ l1 : Sl, ∃ i8 : Int, e4 = (.returned (.agg #[.int .i64 i5, .int .i64 i6, .string s1, .int .i64 i7, l1.v, .int .i64 i8])) /\
        Same [k0, k1] w6 w8 /\
        ∀ k2 : Nat, ∀ w9 : World, w8.heap.size <= k2 -> k2 < w9.heap.size -> Only [] w8 w9 -> ∃ i9 : Int, Cells w9 (r.add 2) [.int .i64 i9] /\
        ∃ k3 k4 : Nat, ∃ z0 : List Value, ∃ k5 : Nat, (r.add 2) = ⟨k3, k4, none⟩ /\
        Blk w9 k3 k5 z0 /\
        (k4 + 1) <= z0.length /\
        k0 ≠ k3 /\
        k1 ≠ k3 /\
        k2 ≠ k3 /\
        ∀ w10 : World, Only [k3] w9 w10 -> Blk w10 k3 k5 (splice z0 k4 [.int .i64 (IntKind.wrap .i64 (i9 - 1))]) -> ∃ J1 : Int -> World -> Prop, (∀ i10 : Int, ∀ w11 : World, J1 i10 w11 -> ∃ l2 : Sl, ∃ w12 : World, ((Instr.buildSlice 94 1 #[.mk 0 (.agg #[.int .i64 i5, .int .i64 i6, .string s1, .int .i64 i7, l1.v, .int .i64 i8])]).run Try.prog w11) = (.ok l2.v w12) /\
         Same [k0, k1, k2] w11 w12 /\
         ∀ w13 : World, Only [k0] w12 w13 -> R (.agg #[.int .i64 4, .int .i64 0, .string (ByteArray.mk #[]), .int .i64 i10, l2.v, .int .i64 i3]) w13) /\
        (b1 = true -> J1 15 w10) /\
        (b1 = false -> J1 14 w10))) /\
     ((b0 || b1) = false -> (b2 = true -> Calls Try.prog 99 #[.pointer (some r)] w4 fun e5 w14 => ∃ b4 : Bool, e5 = (.returned (.bool b4)) /\
       Same [k0, k1] w4 w14 /\
       ((!b4) = true -> ∀ w15 : World, Only [k0] w14 w15 -> R (.agg #[.int .i64 0, .int .i64 0, .string (ByteArray.mk #[]), .int .i64 0, Sl.nil.v, .int .i64 0]) w15) /\
       ((!b4) = false -> Calls Try.prog 93 #[.pointer (some r), .int .i64 0] w14 fun e6 w16 => ∃ i11 i12 : Int, ∃ s2 : ByteArray, ∃ i13 : Int, ∃ l3 : Sl, ∃ i14 : Int, e6 = (.returned (.agg #[.int .i64 i11, .int .i64 i12, .string s2, .int .i64 i13, l3.v, .int .i64 i14])) /\
        Same [k0, k1] w14 w16 /\
        ∀ k6 : Nat, ∀ w17 : World, w16.heap.size <= k6 -> k6 < w17.heap.size -> Only [] w16 w17 -> Calls Try.prog 100 #[.pointer (some r), .string (ByteArray.mk #[41])] w17 fun e7 w18 => e7 = (.returned (.tuple #[])) /\
         Same [k0, k1, k6] w17 w18 /\
         ∃ i15 : Int, Cells w18 (r.add 2) [.int .i64 i15] /\
         ∃ k7 k8 : Nat, ∃ z1 : List Value, ∃ k9 : Nat, (r.add 2) = ⟨k7, k8, none⟩ /\
         Blk w18 k7 k9 z1 /\
         (k8 + 1) <= z1.length /\
         k0 ≠ k7 /\
         k1 ≠ k7 /\
         k6 ≠ k7 /\
         ∀ w19 : World, Only [k7] w18 w19 -> Blk w19 k7 k9 (splice z1 k8 [.int .i64 (IntKind.wrap .i64 (i15 - 1))]) -> ∀ w20 : World, Only [k0] w19 w20 -> R (.agg #[.int .i64 i11, .int .i64 i12, .string s2, .int .i64 i13, l3.v, .int .i64 i14]) w20)) /\
     (b2 = false -> ((i1 == 3) = true -> ∃ i16 : Int, Cells w4 (r.add 1) [.int .i64 i16] /\
      ∃ k10 k11 : Nat, ∃ z2 : List Value, ∃ k12 : Nat, (r.add 1) = ⟨k10, k11, none⟩ /\
      Blk w4 k10 k12 z2 /\
      (k11 + 1) <= z2.length /\
      k0 ≠ k10 /\
      k1 ≠ k10 /\
      ∀ w21 : World, Only [k10] w4 w21 -> Blk w21 k10 k12 (splice z2 k11 [.int .i64 (IntKind.wrap .i64 (i16 + 1))]) -> ∀ w22 : World, Only [k0] w21 w22 -> R (.agg #[.int .i64 1, .int .i64 i2, .string (ByteArray.mk #[]), .int .i64 0, Sl.nil.v, .int .i64 i3]) w22) /\
     ((i1 == 3) = false -> ((i1 == 1) = true -> ∃ i17 : Int, Cells w4 (r.add 1) [.int .i64 i17] /\
      ∃ k13 k14 : Nat, ∃ z3 : List Value, ∃ k15 : Nat, (r.add 1) = ⟨k13, k14, none⟩ /\
      Blk w4 k13 k15 z3 /\
      (k14 + 1) <= z3.length /\
      k0 ≠ k13 /\
      k1 ≠ k13 /\
      ∀ w23 : World, Only [k13] w4 w23 -> Blk w23 k13 k15 (splice z3 k14 [.int .i64 (IntKind.wrap .i64 (i17 + 1))]) -> ∀ w24 : World, Only [k0] w23 w24 -> R (.agg #[.int .i64 2, .int .i64 0, .string s0, .int .i64 0, Sl.nil.v, .int .i64 i3]) w24) /\
     ((i1 == 1) = false -> (((i1 == 2) && (s0.toList == ((ByteArray.mk #[105, 110]).toList))) = true -> Calls Try.prog 101 #[.pointer (some r)] w4 fun e8 w25 => ∃ i18 i19 : Int, ∃ s3 : ByteArray, ∃ i20 : Int, ∃ l4 : Sl, ∃ i21 : Int, e8 = (.returned (.agg #[.int .i64 i18, .int .i64 i19, .string s3, .int .i64 i20, l4.v, .int .i64 i21])) /\
       Same [k0, k1] w4 w25 /\
       ∀ w26 : World, Only [k0] w25 w26 -> R (.agg #[.int .i64 i18, .int .i64 i19, .string s3, .int .i64 i20, l4.v, .int .i64 i21]) w26) /\
     (((i1 == 2) && (s0.toList == ((ByteArray.mk #[105, 110]).toList))) = false -> Calls Try.prog 102 #[.pointer (some r)] w4 fun e9 w27 => e9 = (.returned (.tuple #[])) /\
      Same [k0, k1] w4 w27 /\
      ∀ w28 : World, Only [k0] w27 w28 -> R (.agg #[.int .i64 0, .int .i64 0, .string (ByteArray.mk #[]), .int .i64 0, Sl.nil.v, .int .i64 0]) w28))))))
theorem v47w (r : Addr) (R : Value -> World -> Prop) (w : World) (h : v47v r R w) : Cr 96 #[.pointer (some r)] w R :=
 fB (an := .s .o (.s .o (.s .o (.s .o (.s .o (.s (.s .o (.s (.s .o .o) (.s .o (.s (.s .o (.s (.s .o (.s (.s .o .o) .o)) (.s .o (.s .o (.s .o (.j [2, 3, 8] [.s 9 (.int .i64)] (.s .o (.s .o .o)) (.s .o .o))))))) (.s .o (.s (.s .o (.s (.s .o (.s (.s .o .o) .o)) (.s .o (.s .o (.s .o (.s .o .o)))))) (.s .o (.s (.s .o (.s .o .o)) (.s .o (.s (.s .o (.s .o .o)) (.s .o (.s (.s .o .o) .o)))))))))))) (.s .o (.s .o .o)))))))) (args := [.ad r]) h
def v49v (r : Addr) (s : ByteArray) (R : Value -> World -> Prop) (w : World) : Prop :=
 ∀ w0 : World, Only [] w w0 -> ∃ J0 : Nat -> Prop, J0 ((r.add 0).block) /\
 ∃ l0 : Sl, Cells w0 (r.add 0) [l0.v] /\
 J0 ((r.add 1).block) /\
 ∃ i0 : Int, Cells w0 (r.add 1) [.int .i64 i0] /\
 ∃ p0 : Addr, SlAt l0 i0 4 p0 /\
 J0 p0.block /\
 ∃ i1 : Int, ∃ s0 : ByteArray, ∃ i2 i3 : Int, Cells w0 p0 [.int .i64 i1, .string s0, .int .i64 i2, .int .i64 i3] /\
 ∀ k0 : Nat, ∀ w1 : World, w0.heap.size <= k0 -> k0 < w1.heap.size -> Only [] w0 w1 -> ∃ i4 : Int, Cells w1 ((r.add 3).add 0) [.int .i64 i4] /\
 R (.bool (((i4 == 0) && (i1 == 4)) && (s0.toList == s.toList))) w1
theorem v49w (r : Addr) (s : ByteArray) (R : Value -> World -> Prop) (w : World) (h : v49v r s R w) : Cr 98 #[.pointer (some r), .string s] w R :=
 fB (an := .s .o (.s .o (.s .o .o))) (args := [.ad r, .str s]) h
def v43v (r : Addr) (R : Value -> World -> Prop) (w : World) : Prop :=
 ∃ i0 : Int, Cells w (r.add 2) [.int .i64 i0] /\
 ((i0 == 20) = true -> Calls Try.prog 103 #[.pointer (some r), .int .i64 21] w fun e0 w0 => e0 = (.returned (.tuple #[])) /\
  R (.bool false) w0) /\
 ((i0 == 20) = false -> ∃ i1 : Int, Cells w (r.add 2) [.int .i64 i1] /\
 ∃ k0 k1 : Nat, ∃ z0 : List Value, ∃ k2 : Nat, (r.add 2) = ⟨k0, k1, none⟩ /\
 Blk w k0 k2 z0 /\
 (k1 + 1) <= z0.length /\
 ∀ w1 : World, Only [k0] w w1 -> Blk w1 k0 k2 (splice z0 k1 [.int .i64 (IntKind.wrap .i64 (i1 + 1))]) -> ∃ i2 : Int, Cells w1 (r.add 1) [.int .i64 i2] /\
 ∃ k3 k4 : Nat, ∃ z1 : List Value, ∃ k5 : Nat, (r.add 1) = ⟨k3, k4, none⟩ /\
 Blk w1 k3 k5 z1 /\
 (k4 + 1) <= z1.length /\
 ∀ w2 : World, Only [k3] w1 w2 -> Blk w2 k3 k5 (splice z1 k4 [.int .i64 (IntKind.wrap .i64 (i2 + 1))]) -> R (.bool true) w2)
theorem v43w (r : Addr) (R : Value -> World -> Prop) (w : World) (h : v43v r R w) : Cr 99 #[.pointer (some r)] w R :=
 fB (an := .s .o (.s (.s .o (.s (.s .o (.s .o .o)) .o)) (.s .o (.s .o (.s .o .o))))) (args := [.ad r]) h
def v50v (r : Addr) (e_ : Int) (R : Value -> World -> Prop) (w : World) : Prop :=
  ∃ i0 : Int, Cells w ((r.add 3).add 0) [.int .i64 i0] /\
  ((i0 == 0) = true -> ∀ w0 : World, Only [] w w0 -> ∃ l0 : Sl, Cells w0 (r.add 0) [l0.v] /\
   ∃ i1 : Int, Cells w0 (r.add 1) [.int .i64 i1] /\
   ∃ p0 : Addr, SlAt l0 i1 4 p0 /\
   ∃ i2 : Int, Cells w0 (p0.add 3) [.int .i64 i2] /\
   ∃ k0 k1 : Nat, ∃ z0 : List Value, ∃ k2 : Nat, (r.add 3) = ⟨k0, k1, none⟩ /\
   Blk w0 k0 k2 z0 /\
   (k1 + 2) <= z0.length /\
   ∀ w1 : World, Only [k0] w0 w1 -> Blk w1 k0 k2 (splice z0 k1 [.int .i64 e_, .int .i64 i2]) -> R (.tuple #[]) w1) /\
  ((i0 == 0) = false -> R (.tuple #[]) w)
theorem v50w (r : Addr) (e_ : Int) (R : Value -> World -> Prop) (w : World) (h : v50v r e_ R w) : Cr 103 #[.pointer (some r), .int .i64 e_] w R :=
 fB (an := .s .o (.s .o .o)) (args := [.ad r, .int .i64 e_]) h
def v46v (r : Addr) (s : ByteArray) (R : Value -> World -> Prop) (w : World) : Prop :=
  Calls Try.prog 98 #[.pointer (some r), .string s] w fun e0 w0 => ∃ b0 : Bool, e0 = (.returned (.bool b0)) /\
   ((!b0) = true -> Calls Try.prog 102 #[.pointer (some r)] w0 fun e1 w1 => e1 = (.returned (.tuple #[])) /\
     R (.tuple #[]) w1) /\
   ((!b0) = false -> ∃ i0 : Int, Cells w0 (r.add 1) [.int .i64 i0] /\
   ∃ k0 k1 : Nat, ∃ z0 : List Value, ∃ k2 : Nat, (r.add 1) = ⟨k0, k1, none⟩ /\
   Blk w0 k0 k2 z0 /\
   (k1 + 1) <= z0.length /\
   ∀ w2 : World, Only [k0] w0 w2 -> Blk w2 k0 k2 (splice z0 k1 [.int .i64 (IntKind.wrap .i64 (i0 + 1))]) -> R (.tuple #[]) w2)
theorem v46w (r : Addr) (s : ByteArray) (R : Value -> World -> Prop) (w : World) (h : v46v r s R w) : Cr 100 #[.pointer (some r), .string s] w R :=
 fB (an := .s .o (.s (.s .o (.s (.s .o .o) .o)) .o)) (args := [.ad r, .str s]) h
def v51v (r : Addr) (R : Value -> World -> Prop) (w : World) : Prop :=
  ∃ l0 : Sl, Cells w (r.add 0) [l0.v] /\
  ∃ i0 : Int, Cells w (r.add 1) [.int .i64 i0] /\
  ∃ p0 : Addr, SlAt l0 i0 4 p0 /\
  ∃ i1 : Int, Cells w (p0.add 0) [.int .i64 i1] /\
  ((i1 == 5) = true -> ∀ w0 : World, Only [] w w0 -> Calls Try.prog 103 #[.pointer (some r), .int .i64 3] w0 fun e0 w1 => e0 = (.returned (.tuple #[])) /\
    R (.tuple #[]) w1) /\
  ((i1 == 5) = false -> ∀ w2 : World, Only [] w w2 -> Calls Try.prog 103 #[.pointer (some r), .int .i64 4] w2 fun e1 w3 => e1 = (.returned (.tuple #[])) /\
   R (.tuple #[]) w3)
theorem v51w (r : Addr) (R : Value -> World -> Prop) (w : World) (h : v51v r R w) : Cr 102 #[.pointer (some r)] w R :=
 fB (an := .s (.s .o (.s (.s .o .o) .o)) .o) (args := [.ad r]) h
def v45v (r : Addr) (R : Value -> World -> Prop) (w : World) : Prop :=
  ∀ k0 : Nat, ∀ w0 : World, w.heap.size <= k0 -> k0 < w0.heap.size -> Only [] w w0 -> ∃ J0 : Nat -> Prop, J0 ((r.add 0).block) /\
  ∃ l0 : Sl, Cells w0 (r.add 0) [l0.v] /\
  J0 ((r.add 1).block) /\
  ∃ i0 : Int, Cells w0 (r.add 1) [.int .i64 i0] /\
  ∃ p0 : Addr, SlAt l0 i0 4 p0 /\
  J0 ((p0.add 3).block) /\
  ∃ i1 : Int, Cells w0 (p0.add 3) [.int .i64 i1] /\
  ∀ k1 : Nat, ∀ w1 : World, w0.heap.size <= k1 -> k1 < w1.heap.size -> Only [] w0 w1 -> ∃ i2 : Int, Cells w1 (r.add 1) [.int .i64 i2] /\
  ∃ k2 k3 : Nat, ∃ z0 : List Value, ∃ k4 : Nat, (r.add 1) = ⟨k2, k3, none⟩ /\
  Blk w1 k2 k4 z0 /\
  (k3 + 1) <= z0.length /\
  k0 ≠ k2 /\
  k1 ≠ k2 /\
  ∀ w2 : World, Only [k2] w1 w2 -> Blk w2 k2 k4 (splice z0 k3 [.int .i64 (IntKind.wrap .i64 (i2 + 1))]) -> Calls Try.prog 100 #[.pointer (some r), .string (ByteArray.mk #[40])] w2 fun e0 w3 => e0 = (.returned (.tuple #[])) /\
   Same [k0, k1] w2 w3 /\
   ∃ i3 : Int, Cells w3 ((r.add 3).add 0) [.int .i64 i3] /\
   ((i3 != 0) = true -> ∀ w4 : World, Only [k0] w3 w4 -> R (.agg #[.int .i64 3, .int .i64 0, .string (ByteArray.mk #[]), .int .i64 0, Sl.nil.v, .int .i64 i1]) w4) /\
   ((i3 != 0) = false -> ∃ l1 : Sl, Cells w3 (r.add 0) [l1.v] /\
   ∃ i4 : Int, Cells w3 (r.add 1) [.int .i64 i4] /\
   ∃ p1 : Addr, SlAt l1 i4 4 p1 /\
   ∃ i5 : Int, Cells w3 (p1.add 0) [.int .i64 i5] /\
   ((i5 != 1) = true -> ∀ w5 : World, Only [] w3 w5 -> Calls Try.prog 102 #[.pointer (some r)] w5 fun e1 w6 => e1 = (.returned (.tuple #[])) /\
     Same [k0, k1] w5 w6 /\
     ∀ w7 : World, Only [k0] w6 w7 -> R (.agg #[.int .i64 3, .int .i64 0, .string (ByteArray.mk #[]), .int .i64 0, Sl.nil.v, .int .i64 i1]) w7) /\
   ((i5 != 1) = false -> ∀ w8 : World, Only [] w3 w8 -> ∃ l2 : Sl, Cells w8 (r.add 0) [l2.v] /\
   ∃ i6 : Int, Cells w8 (r.add 1) [.int .i64 i6] /\
   ∃ p2 : Addr, SlAt l2 i6 4 p2 /\
   ∃ s0 : ByteArray, Cells w8 (p2.add 1) [.string s0] /\
   ∀ w9 : World, Only [k1] w8 w9 -> ∃ i7 : Int, Cells w9 (r.add 1) [.int .i64 i7] /\
   ∃ k5 k6 : Nat, ∃ z1 : List Value, ∃ k7 : Nat, (r.add 1) = ⟨k5, k6, none⟩ /\
   Blk w9 k5 k7 z1 /\
   (k6 + 1) <= z1.length /\
   k0 ≠ k5 /\
   k1 ≠ k5 /\
   ∀ w10 : World, Only [k5] w9 w10 -> Blk w10 k5 k7 (splice z1 k6 [.int .i64 (IntKind.wrap .i64 (i7 + 1))]) -> Calls Try.prog 100 #[.pointer (some r), .string (ByteArray.mk #[41])] w10 fun e2 w11 => e2 = (.returned (.tuple #[])) /\
    Same [k0, k1] w10 w11 /\
    ∀ w12 : World, Only [k0] w11 w12 -> R (.agg #[.int .i64 3, .int .i64 0, .string s0, .int .i64 0, Sl.nil.v, .int .i64 i1]) w12))
theorem v45w (r : Addr) (R : Value -> World -> Prop) (w : World) (h : v45v r R w) : Cr 101 #[.pointer (some r)] w R :=
 fB (an := .s .o (.s .o (.s .o (.s .o (.s (.s .o (.s (.s .o .o) .o)) (.s (.s .o (.s (.s .o (.s .o .o)) .o)) (.s .o (.s .o (.s .o (.s .o .o)))))))))) (args := [.ad r]) h
def v48v (r : Addr) (k : Int) (R : Value -> World -> Prop) (w : World) : Prop :=
  Calls Try.prog 88 #[] w fun e0 w0 => ∃ l0 : Sl, e0 = (.returned l0.v) /\
   ∃ p0 : Addr, SlAt l0 k 1 p0 /\
   ∃ l1 : Sl, Cells w0 p0 [l1.v] /\
   Calls Try.prog 87 #[] w0 fun e1 w1 => ∃ l2 : Sl, e1 = (.returned l2.v) /\
    ∃ p1 : Addr, SlAt l2 k 1 p1 /\
    ∃ l3 : Sl, Cells w1 p1 [l3.v] /\
    ∃ J0 : Nat -> Int -> World -> Prop, ∃ k0 : Nat, J0 k0 0 w1 /\
    ∀ k1 : Nat, ∀ i0 : Int, ∀ w2 : World, J0 k1 i0 w2 -> ((decide (i0 < (l1.n : Int))) = true -> ∃ p2 : Addr, SlAt l1 i0 1 p2 /\
     ∃ s0 : ByteArray, Cells w2 p2 [.string s0] /\
     Calls Try.prog 98 #[.pointer (some r), .string s0] w2 fun e2 w3 => ∃ b0 : Bool, e2 = (.returned (.bool b0)) /\
      (b0 = true -> ∃ p3 : Addr, SlAt l3 i0 1 p3 /\
       ∃ i1 : Int, Cells w3 p3 [.int .i64 i1] /\
       R (.int .i64 i1) w3) /\
      (b0 = false -> ∃ k2 : Nat, k2 < k1 /\
      J0 k2 (IntKind.wrap .i64 (i0 + 1)) w3)) /\
    ((decide (i0 < (l1.n : Int))) = false -> R (.int .i64 0) w2)
theorem v48w (r : Addr) (k : Int) (R : Value -> World -> Prop) (w : World) (h : v48v r k R w) : Cr 97 #[.pointer (some r), .int .i64 k] w R :=
 fB (an := .s .o (.s .o (.s .o (.s (.s .o (.j [0, 5, 6] [.s 7 (.int .i64)] (.s (.s .o (.s .o .o)) (.s (.s .o (.s .o (.s (.s .o .o) .o))) .o)) .o)) (.s .o .o))))) (args := [.ad r, .int .i64 k]) h
def v36v (a_ a_1 : Int) (a_2 : ByteArray) (a_3 : Int) (a_4 : Sl) (a_5 bb bb1 : Int) (bb2 : ByteArray) (bb3 : Int) (bb4 : Sl) (bb5 : Int) (at_ : Bool) (R : Value -> World -> Prop) (w : World) : Prop :=
  ∀ k0 k1 : Nat, ∀ w0 : World, w.heap.size <= k0 -> k0 < w0.heap.size -> w.heap.size <= k1 -> k1 < w0.heap.size -> Only [] w w0 -> (((((((a_ != bb) || (a_1 != bb1)) || (!(a_2.toList == bb2.toList))) || (a_3 != bb3)) || (at_ && (a_5 != bb5))) || ((a_4.n : Int) != (bb4.n : Int))) = true -> R (.bool false) w0) /\
  (((((((a_ != bb) || (a_1 != bb1)) || (!(a_2.toList == bb2.toList))) || (a_3 != bb3)) || (at_ && (a_5 != bb5))) || ((a_4.n : Int) != (bb4.n : Int))) = false -> ∃ J0 : Nat -> Int -> World -> Prop, ∃ k2 : Nat, J0 k2 0 w0 /\
  ∀ k3 : Nat, ∀ i0 : Int, ∀ w1 : World, J0 k3 i0 w1 -> ((decide (i0 < (a_4.n : Int))) = true -> ∃ p0 : Addr, SlAt a_4 i0 6 p0 /\
   ∀ w2 : World, Only [] w1 w2 -> ∃ i1 i2 : Int, ∃ s0 : ByteArray, ∃ i3 : Int, ∃ l0 : Sl, ∃ i4 : Int, Cells w2 p0 [.int .i64 i1, .int .i64 i2, .string s0, .int .i64 i3, l0.v, .int .i64 i4] /\
   ∃ p1 : Addr, SlAt bb4 i0 6 p1 /\
   ∃ i5 i6 : Int, ∃ s1 : ByteArray, ∃ i7 : Int, ∃ l1 : Sl, ∃ i8 : Int, Cells w2 p1 [.int .i64 i5, .int .i64 i6, .string s1, .int .i64 i7, l1.v, .int .i64 i8] /\
   Calls Try.prog 83 #[.agg #[.int .i64 i1, .int .i64 i2, .string s0, .int .i64 i3, l0.v, .int .i64 i4], .agg #[.int .i64 i5, .int .i64 i6, .string s1, .int .i64 i7, l1.v, .int .i64 i8], .bool at_] w2 fun e0 w3 => ∃ b0 : Bool, e0 = (.returned (.bool b0)) /\
    Same [k0, k1] w2 w3 /\
    ((!b0) = true -> R (.bool false) w3) /\
    ((!b0) = false -> ∃ k4 : Nat, k4 < k3 /\
    J0 k4 (IntKind.wrap .i64 (i0 + 1)) w3)) /\
  ((decide (i0 < (a_4.n : Int))) = false -> R (.bool true) w1))
theorem v36w (a_ a_1 : Int) (a_2 : ByteArray) (a_3 : Int) (a_4 : Sl) (a_5 bb bb1 : Int) (bb2 : ByteArray) (bb3 : Int) (bb4 : Sl) (bb5 : Int) (at_ : Bool) (R : Value -> World -> Prop) (w : World) (h : v36v a_ a_1 a_2 a_3 a_4 a_5 bb bb1 bb2 bb3 bb4 bb5 at_ R w) : Cr 83 #[.agg #[.int .i64 a_, .int .i64 a_1, .string a_2, .int .i64 a_3, a_4.v, .int .i64 a_5], .agg #[.int .i64 bb, .int .i64 bb1, .string bb2, .int .i64 bb3, bb4.v, .int .i64 bb5], .bool at_] w R :=
 fB (an := .s .o (.s (.s .o (.s (.s .o .o) .o)) (.s (.s .o (.j [2, 3, 4] [.s 7 (.int .i64)] (.s (.s .o (.s .o .o)) (.s (.s .o (.s .o (.s (.s .o .o) .o))) .o)) .o)) (.s .o .o)))) (args := [.agg (ofL [.int .i64 a_, .int .i64 a_1, .str a_2, .int .i64 a_3, .sl a_4, .int .i64 a_5]), .agg (ofL [.int .i64 bb, .int .i64 bb1, .str bb2, .int .i64 bb3, .sl bb4, .int .i64 bb5]), .bt at_]) h
def v63v (x x1 : Int) (x2 : ByteArray) (x3 : Int) (x4 : Sl) (x5 : Int) (R : Value -> World -> Prop) (w : World) : Prop :=
 ∀ k0 : Nat, ∀ w0 : World, w.heap.size <= k0 -> k0 < w0.heap.size -> Only [] w w0 -> R (.bool (((((x == 0) && (x1 == 0)) && (x2.toList == ((ByteArray.mk #[]).toList))) && (x3 == 0)) && ((x4.n : Int) == 0))) w0
theorem v63w (x x1 : Int) (x2 : ByteArray) (x3 : Int) (x4 : Sl) (x5 : Int) (R : Value -> World -> Prop) (w : World) (h : v63v x x1 x2 x3 x4 x5 R w) : Cr 78 #[.agg #[.int .i64 x, .int .i64 x1, .string x2, .int .i64 x3, x4.v, .int .i64 x5]] w R :=
 fB (an := .s .o (.s .o .o)) (args := [.agg (ofL [.int .i64 x, .int .i64 x1, .str x2, .int .i64 x3, .sl x4, .int .i64 x5])]) h
def v58v (n_ : Addr) (m : Int) (m1 : ByteArray) (m2 : Int) (m3 : Bool) (m4 m5 : Int) (m6 : ByteArray) (m7 : Int) (m8 : Sl) (m9 : Int) (m10 m11 : Sl) (m12 : Int) (R : Value -> World -> Prop) (w : World) : Prop :=
  ∀ k0 : Nat, ∀ w0 : World, w.heap.size <= k0 -> k0 < w0.heap.size -> Only [] w w0 -> ∃ i0 : Int, Cells w0 (n_.add 1) [.int .i64 i0] /\
  ∃ k1 k2 : Nat, ∃ z0 : List Value, ∃ k3 : Nat, (n_.add 1) = ⟨k1, k2, none⟩ /\
  Blk w0 k1 k3 z0 /\
  (k2 + 1) <= z0.length /\
  k0 ≠ k1 /\
  ∀ w1 : World, Only [k1] w0 w1 -> Blk w1 k1 k3 (splice z0 k2 [.int .i64 (IntKind.wrap .i64 (i0 + 1))]) -> ∃ J0 : Bool -> World -> Prop, (∀ b0 : Bool, ∀ w2 : World, J0 b0 w2 -> Calls Try.prog 78 #[.agg #[.int .i64 m4, .int .i64 m5, .string m6, .int .i64 m7, m8.v, .int .i64 m9]] w2 fun e0 w3 => ∃ b1 : Bool, e0 = (.returned (.bool b1)) /\
    Same [k0] w2 w3 /\
    ∃ J1 : Bool -> World -> Prop, (∀ b2 : Bool, ∀ w4 : World, J1 b2 w4 -> Calls Try.prog 71 #[.pointer (some n_), m10.v] w4 fun e1 w5 => ∃ b3 : Bool, e1 = (.returned (.bool b3)) /\
      Same [k0] w4 w5 /\
      ∃ J2 : Nat -> Int -> World -> Prop, ∃ k4 : Nat, J2 k4 0 w5 /\
      ∀ k5 : Nat, ∀ i1 : Int, ∀ w6 : World, J2 k5 i1 w6 -> ((decide (i1 < (m11.n : Int))) = true -> ∃ p0 : Addr, SlAt m11 i1 1 p0 /\
       ∃ s0 : ByteArray, Cells w6 p0 [.string s0] /\
       Calls Try.prog 58 #[.string s0] w6 fun e2 w7 => ∃ b4 : Bool, e2 = (.returned (.bool b4)) /\
        Same [k0] w6 w7 /\
        ((!b4) = true -> R (.bool false) w7) /\
        ((!b4) = false -> ∃ k6 : Nat, k6 < k5 /\
        J2 k6 (IntKind.wrap .i64 (i1 + 1)) w7)) /\
      ((decide (i1 < (m11.n : Int))) = false -> R (.bool ((((((decide (m >= 1)) && (decide (m <= 3))) && b0) && b2) && b3) && ((m2 == 0) || ((m == 3) && (decide (m2 > 0)))))) w6)) /\
    (m3 = true -> Calls Try.prog 77 #[.agg #[.int .i64 m4, .int .i64 m5, .string m6, .int .i64 m7, m8.v, .int .i64 m9]] w3 fun e3 w8 => ∃ b5 : Bool, e3 = (.returned (.bool b5)) /\
      Same [k0] w3 w8 /\
      J1 b5 w8) /\
    (m3 = false -> J1 b1 w3)) /\
  ((m == 1) = true -> Calls Try.prog 58 #[.string m1] w1 fun e4 w9 => ∃ b6 : Bool, e4 = (.returned (.bool b6)) /\
    Same [k0] w1 w9 /\
    J0 b6 w9) /\
  ((m == 1) = false -> J0 (m1.toList == ((ByteArray.mk #[]).toList)) w1)
theorem v58w (n_ : Addr) (m : Int) (m1 : ByteArray) (m2 : Int) (m3 : Bool) (m4 m5 : Int) (m6 : ByteArray) (m7 : Int) (m8 : Sl) (m9 : Int) (m10 m11 : Sl) (m12 : Int) (R : Value -> World -> Prop) (w : World) (h : v58v n_ m m1 m2 m3 m4 m5 m6 m7 m8 m9 m10 m11 m12 R w) : Cr 72 #[.pointer (some n_), .agg #[.int .i64 m, .string m1, .int .i64 m2, .bool m3, .int .i64 m4, .int .i64 m5, .string m6, .int .i64 m7, m8.v, .int .i64 m9, m10.v, m11.v, .int .i64 m12]] w R :=
 fB (an := .s .o (.s .o (.s .o (.j [0, 3] [.s 5 .bool] (.s .o (.s .o .o)) (.s .o (.j [0, 3, 5] [.s 6 .bool] (.s .o (.s .o .o)) (.s .o (.s (.s .o (.j [3, 5, 6, 7] [.s 8 (.int .i64)] (.s (.s .o (.s .o .o)) (.s (.s .o (.s .o (.s (.s .o .o) .o))) .o)) .o)) (.s .o .o))))))))) (args := [.ad n_, .agg (ofL [.int .i64 m, .str m1, .int .i64 m2, .bt m3, .int .i64 m4, .int .i64 m5, .str m6, .int .i64 m7, .sl m8, .int .i64 m9, .sl m10, .sl m11, .int .i64 m12])]) h
def v66v (p : Addr) (deep : Int) (s : ByteArray) (R : Value -> World -> Prop) (w : World) : Prop :=
  ∃ l0 : Sl, Cells w (p.add 0) [l0.v] /\
  ((decide ((l0.n : Int) > 16384)) = true -> R (.tuple #[]) w) /\
  ((decide ((l0.n : Int) > 16384)) = false -> ∃ J0 : Nat -> Int -> World -> Prop, ∃ k0 : Nat, J0 k0 0 w /\
  ∀ k1 : Nat, ∀ i0 : Int, ∀ w0 : World, J0 k1 i0 w0 -> ((decide (i0 < deep)) = true -> ∃ l1 : Sl, Cells w0 (p.add 0) [l1.v] /\
   ∃ l2 : Sl, ∃ w1 : World, ((Instr.buildSlice 87 2 #[.mk 0 (.int .u8 32), .mk 1 (.int .u8 32)]).run Try.prog w0) = (.ok l2.v w1) /\
   ∃ l3 : Sl, ∃ w2 : World, ((Builtin.append_ #[87, 87] 87 #[l1.v, l2.v]).run Try.prog w1) = (.ok l3.v w2) /\
   ∃ k2 k3 : Nat, ∃ z0 : List Value, ∃ k4 : Nat, (p.add 0) = ⟨k2, k3, none⟩ /\
   Blk w2 k2 k4 z0 /\
   (k3 + 1) <= z0.length /\
   ∀ w3 : World, Only [k2] w2 w3 -> Blk w3 k2 k4 (splice z0 k3 [l3.v]) -> ∃ k5 : Nat, k5 < k1 /\
   J0 k5 (IntKind.wrap .i64 (i0 + 1)) w3) /\
  ((decide (i0 < deep)) = false -> ∃ l4 : Sl, Cells w0 (p.add 0) [l4.v] /\
  ∃ l5 : Sl, ∃ w4 : World, ((Builtin.append_ #[87, 9] 87 #[l4.v, .string s]).run Try.prog w0) = (.ok l5.v w4) /\
  ∃ k6 k7 : Nat, ∃ z1 : List Value, ∃ k8 : Nat, (p.add 0) = ⟨k6, k7, none⟩ /\
  Blk w4 k6 k8 z1 /\
  (k7 + 1) <= z1.length /\
  ∀ w5 : World, Only [k6] w4 w5 -> Blk w5 k6 k8 (splice z1 k7 [l5.v]) -> ∃ l6 : Sl, Cells w5 (p.add 0) [l6.v] /\
  ∃ l7 : Sl, ∃ w6 : World, ((Instr.buildSlice 87 1 #[.mk 0 (.int .u8 10)]).run Try.prog w5) = (.ok l7.v w6) /\
  ∃ l8 : Sl, ∃ w7 : World, ((Builtin.append_ #[87, 87] 87 #[l6.v, l7.v]).run Try.prog w6) = (.ok l8.v w7) /\
  ∃ k9 k10 : Nat, ∃ z2 : List Value, ∃ k11 : Nat, (p.add 0) = ⟨k9, k10, none⟩ /\
  Blk w7 k9 k11 z2 /\
  (k10 + 1) <= z2.length /\
  ∀ w8 : World, Only [k9] w7 w8 -> Blk w8 k9 k11 (splice z2 k10 [l8.v]) -> R (.tuple #[]) w8))
theorem v66w (p : Addr) (deep : Int) (s : ByteArray) (R : Value -> World -> Prop) (w : World) (h : v66v p deep s R w) : Cr 51 #[.pointer (some p), .int .i64 deep, .string s] w R :=
 fB (an := .s (.s .o (.s .o .o)) (.s (.s .o (.j [0, 1, 2] [.s 6 (.int .i64)] (.s (.s .o (.s .o .o)) (.s .o .o)) .o)) (.s .o .o))) (args := [.ad p, .int .i64 deep, .str s]) h
def v65v (p : Addr) (x : Int) (x1 x2 x3 : ByteArray) (x4 x5 x6 x7 : Sl) (x8 deep : Int) (R : Value -> World -> Prop) (w : World) : Prop :=
  ∀ k0 : Nat, ∀ w0 : World, w.heap.size <= k0 -> k0 < w0.heap.size -> Only [] w w0 -> ∃ J0 : World -> Prop, (∀ w1 : World, J0 w1 -> ∃ J1 : World -> Prop, (∀ w2 : World, J1 w2 -> ∃ J2 : World -> Prop, (∀ w3 : World, J2 w3 -> ∃ J3 : Nat -> Int -> World -> Prop, ∃ k1 : Nat, J3 k1 0 w3 /\
     ∀ k2 : Nat, ∀ i0 : Int, ∀ w4 : World, J3 k2 i0 w4 -> ∃ l0 : Sl, ((decide (i0 < (x6.n : Int))) = true -> Cells w4 (p.add 0) [l0.v]) /\
     (((decide (i0 < (x6.n : Int))) && (decide ((l0.n : Int) <= 16384))) = true -> ∃ p0 : Addr, SlAt x6 i0 13 p0 /\
      ∃ i1 : Int, ∃ s0 : ByteArray, ∃ i2 : Int, ∃ b0 : Bool, ∃ i3 i4 : Int, ∃ s1 : ByteArray, ∃ i5 : Int, ∃ l1 : Sl, ∃ i6 : Int, ∃ l2 l3 : Sl, ∃ i7 : Int, Cells w4 p0 [.int .i64 i1, .string s0, .int .i64 i2, .bool b0, .int .i64 i3, .int .i64 i4, .string s1, .int .i64 i5, l1.v, .int .i64 i6, l2.v, l3.v, .int .i64 i7] /\
      Calls Try.prog 63 #[.agg #[.int .i64 i1, .string s0, .int .i64 i2, .bool b0, .int .i64 i3, .int .i64 i4, .string s1, .int .i64 i5, l1.v, .int .i64 i6, l2.v, l3.v, .int .i64 i7]] w4 fun e0 w5 => ∃ s2 : ByteArray, e0 = (.returned (.string s2)) /\
       Same [k0] w4 w5 /\
       Calls Try.prog 51 #[.pointer (some p), .int .i64 deep, .string s2] w5 fun e1 w6 => e1 = (.returned (.tuple #[])) /\
        Same [k0] w5 w6 /\
        ∃ k3 : Nat, k3 < k2 /\
        J3 k3 (IntKind.wrap .i64 (i0 + 1)) w6) /\
     (((decide (i0 < (x6.n : Int))) && (decide ((l0.n : Int) <= 16384))) = false -> ∃ J4 : Nat -> Int -> World -> Prop, ∃ k4 : Nat, J4 k4 0 w4 /\
     ∀ k5 : Nat, ∀ i8 : Int, ∀ w7 : World, J4 k5 i8 w7 -> ((decide (i8 < (x7.n : Int))) = true -> ∃ p1 : Addr, SlAt x7 i8 9 p1 /\
      ∃ i9 : Int, ∃ s3 s4 s5 : ByteArray, ∃ l4 l5 l6 l7 : Sl, ∃ i10 : Int, Cells w7 p1 [.int .i64 i9, .string s3, .string s4, .string s5, l4.v, l5.v, l6.v, l7.v, .int .i64 i10] /\
      Calls Try.prog 64 #[.pointer (some p), .agg #[.int .i64 i9, .string s3, .string s4, .string s5, l4.v, l5.v, l6.v, l7.v, .int .i64 i10], .int .i64 deep] w7 fun e2 w8 => e2 = (.returned (.tuple #[])) /\
       Same [k0] w7 w8 /\
       ∃ k6 : Nat, k6 < k5 /\
       J4 k6 (IntKind.wrap .i64 (i8 + 1)) w8) /\
     ((decide (i8 < (x7.n : Int))) = false -> R (.tuple #[]) w7))) /\
    ((decide ((x5.n : Int) > 0)) = true -> Calls Try.prog 62 #[x5.v] w2 fun e3 w9 => ∃ s6 : ByteArray, e3 = (.returned (.string s6)) /\
      Same [k0] w2 w9 /\
      (6 + (s6.size : Int)) <= 9223372036854775807 /\
      Calls Try.prog 51 #[.pointer (some p), .int .i64 deep, .string ((ByteArray.mk #[108, 101, 97, 118, 101, 32]) ++ s6)] w9 fun e4 w10 => e4 = (.returned (.tuple #[])) /\
       Same [k0] w9 w10 /\
       J2 w10) /\
    ((decide ((x5.n : Int) > 0)) = false -> J2 w2)) /\
   ((decide ((x4.n : Int) > 0)) = true -> Calls Try.prog 62 #[x4.v] w1 fun e5 w11 => ∃ s7 : ByteArray, e5 = (.returned (.string s7)) /\
     Same [k0] w1 w11 /\
     (6 + (s7.size : Int)) <= 9223372036854775807 /\
     Calls Try.prog 51 #[.pointer (some p), .int .i64 deep, .string ((ByteArray.mk #[101, 110, 116, 101, 114, 32]) ++ s7)] w11 fun e6 w12 => e6 = (.returned (.tuple #[])) /\
      Same [k0] w11 w12 /\
      J1 w12) /\
   ((decide ((x4.n : Int) > 0)) = false -> J1 w1)) /\
  ((!(x2.toList == ((ByteArray.mk #[]).toList))) = true -> (8 + (x2.size : Int)) <= 9223372036854775807 /\
   ((((ByteArray.mk #[105, 110, 105, 116, 105, 97, 108, 32]) ++ x2).size : Int) + 1) <= 9223372036854775807 /\
   Calls Try.prog 51 #[.pointer (some p), .int .i64 deep, .string (((ByteArray.mk #[105, 110, 105, 116, 105, 97, 108, 32]) ++ x2) ++ (ByteArray.mk #[59]))] w0 fun e7 w13 => e7 = (.returned (.tuple #[])) /\
    Same [k0] w0 w13 /\
    J0 w13) /\
  ((!(x2.toList == ((ByteArray.mk #[]).toList))) = false -> J0 w0)
theorem v65w (p : Addr) (x : Int) (x1 x2 x3 : ByteArray) (x4 x5 x6 x7 : Sl) (x8 deep : Int) (R : Value -> World -> Prop) (w : World) (h : v65v p x x1 x2 x3 x4 x5 x6 x7 x8 deep R w) : Cr 53 #[.pointer (some p), .agg #[.int .i64 x, .string x1, .string x2, .string x3, x4.v, x5.v, x6.v, x7.v, .int .i64 x8], .int .i64 deep] w R :=
 fB (an := .s .o (.j [0, 2, 4] [] (.s .o (.s .o .o)) (.j [0, 2, 4] [] (.s .o (.s .o .o)) (.j [0, 2, 4] [] (.s .o (.s .o .o)) (.s (.s .o (.j [0, 2, 4] [.s 6 (.int .i64)] (.s (.s .o (.s .o .o)) (.s .o .o)) .o)) (.s .o (.j [0, 2, 4] [.s 7 (.int .i64)] (.s (.s .o (.s .o .o)) (.s .o .o)) .o))))))) (args := [.ad p, .agg (ofL [.int .i64 x, .str x1, .str x2, .str x3, .sl x4, .sl x5, .sl x6, .sl x7, .int .i64 x8]), .int .i64 deep]) h
def v56v (l : Sl) (R : Value -> World -> Prop) (w : World) : Prop :=
  ∃ J0 : Nat -> ByteArray -> Int -> World -> Prop, ∃ k0 : Nat, J0 k0 (ByteArray.mk #[123]) 0 w /\
  ∀ k1 : Nat, ∀ s0 : ByteArray, ∀ i0 : Int, ∀ w0 : World, J0 k1 s0 i0 w0 -> ((decide (i0 < (l.n : Int))) = true -> ((s0.size : Int) + 1) <= 9223372036854775807 /\
   ∃ p0 : Addr, SlAt l i0 9 p0 /\
   ∃ i1 : Int, ∃ s1 : ByteArray, ∃ i2 i3 : Int, ∃ s2 : ByteArray, ∃ i4 : Int, ∃ l0 : Sl, ∃ i5 i6 : Int, Cells w0 p0 [.int .i64 i1, .string s1, .int .i64 i2, .int .i64 i3, .string s2, .int .i64 i4, l0.v, .int .i64 i5, .int .i64 i6] /\
   Calls Try.prog 73 #[.agg #[.int .i64 i1, .string s1, .int .i64 i2, .int .i64 i3, .string s2, .int .i64 i4, l0.v, .int .i64 i5, .int .i64 i6]] w0 fun e0 w1 => ∃ s3 : ByteArray, e0 = (.returned (.string s3)) /\
    (((s0 ++ (ByteArray.mk #[32])).size : Int) + (s3.size : Int)) <= 9223372036854775807 /\
    ∃ k2 : Nat, k2 < k1 /\
    J0 k2 ((s0 ++ (ByteArray.mk #[32])) ++ s3) (IntKind.wrap .i64 (i0 + 1)) w1) /\
  ((decide (i0 < (l.n : Int))) = false -> ((s0.size : Int) + 2) <= 9223372036854775807 /\
  R (.string (s0 ++ (ByteArray.mk #[32, 125]))) w0)
theorem v56w (l : Sl) (R : Value -> World -> Prop) (w : World) (h : v56v l R w) : Cr 62 #[l.v] w R :=
 fB (an := .s .o (.s .o (.s (.s .o (.j [0] [.s 3 .str, .s 4 (.int .i64)] (.s (.s .o (.s .o .o)) (.s .o .o)) .o)) (.s .o .o)))) (args := [.sl l]) h
def v55v (a_ : Int) (a_1 : ByteArray) (a_2 a_3 : Int) (a_4 : ByteArray) (a_5 : Int) (a_6 : Sl) (a_7 a_8 : Int) (R : Value -> World -> Prop) (w : World) : Prop :=
  ((a_ == 1) = true -> ∀ k0 : Nat, ∀ w0 : World, w.heap.size <= k0 -> k0 < w0.heap.size -> Only [] w w0 -> ∃ J0 : Nat -> Prop, J0 k0 /\
   (4 + (a_1.size : Int)) <= 9223372036854775807 /\
   ((((ByteArray.mk #[115, 101, 116, 32]) ++ a_1).size : Int) + 3) <= 9223372036854775807 /\
   Calls Try.prog 74 #[.agg #[.int .i64 a_2, .int .i64 a_3, .string a_4, .int .i64 a_5, a_6.v, .int .i64 a_7]] w0 fun e0 w1 => ∃ s0 : ByteArray, e0 = (.returned (.string s0)) /\
    Same [k0] w0 w1 /\
    Keeps J0 w0 w1 /\
    (((((ByteArray.mk #[115, 101, 116, 32]) ++ a_1) ++ (ByteArray.mk #[32, 61, 32])).size : Int) + (s0.size : Int)) <= 9223372036854775807 /\
    ((((((ByteArray.mk #[115, 101, 116, 32]) ++ a_1) ++ (ByteArray.mk #[32, 61, 32])) ++ s0).size : Int) + 1) <= 9223372036854775807 /\
    R (.string (((((ByteArray.mk #[115, 101, 116, 32]) ++ a_1) ++ (ByteArray.mk #[32, 61, 32])) ++ s0) ++ (ByteArray.mk #[59]))) w1) /\
  ((a_ == 1) = false -> ((a_ == 2) = true -> (6 + (a_1.size : Int)) <= 9223372036854775807 /\
   ((((ByteArray.mk #[114, 97, 105, 115, 101, 32]) ++ a_1).size : Int) + 1) <= 9223372036854775807 /\
   ∀ k1 : Nat, ∀ w2 : World, w.heap.size <= k1 -> k1 < w2.heap.size -> Only [] w w2 -> R (.string (((ByteArray.mk #[114, 97, 105, 115, 101, 32]) ++ a_1) ++ (ByteArray.mk #[59]))) w2) /\
  ((a_ == 2) = false -> ∀ k2 : Nat, ∀ w3 : World, w.heap.size <= k2 -> k2 < w3.heap.size -> Only [] w w3 -> ∃ J1 : Nat -> Prop, J1 k2 /\
  (5 + (a_1.size : Int)) <= 9223372036854775807 /\
  ((((ByteArray.mk #[101, 109, 105, 116, 32]) ++ a_1).size : Int) + 3) <= 9223372036854775807 /\
  Calls Try.prog 74 #[.agg #[.int .i64 a_2, .int .i64 a_3, .string a_4, .int .i64 a_5, a_6.v, .int .i64 a_7]] w3 fun e1 w4 => ∃ s1 : ByteArray, e1 = (.returned (.string s1)) /\
   Same [k2] w3 w4 /\
   Keeps J1 w3 w4 /\
   (((((ByteArray.mk #[101, 109, 105, 116, 32]) ++ a_1) ++ (ByteArray.mk #[32, 61, 32])).size : Int) + (s1.size : Int)) <= 9223372036854775807 /\
   ((((((ByteArray.mk #[101, 109, 105, 116, 32]) ++ a_1) ++ (ByteArray.mk #[32, 61, 32])) ++ s1).size : Int) + 1) <= 9223372036854775807 /\
   R (.string (((((ByteArray.mk #[101, 109, 105, 116, 32]) ++ a_1) ++ (ByteArray.mk #[32, 61, 32])) ++ s1) ++ (ByteArray.mk #[59]))) w4))
theorem v55w (a_ : Int) (a_1 : ByteArray) (a_2 a_3 : Int) (a_4 : ByteArray) (a_5 : Int) (a_6 : Sl) (a_7 a_8 : Int) (R : Value -> World -> Prop) (w : World) (h : v55v a_ a_1 a_2 a_3 a_4 a_5 a_6 a_7 a_8 R w) : Cr 73 #[.agg #[.int .i64 a_, .string a_1, .int .i64 a_2, .int .i64 a_3, .string a_4, .int .i64 a_5, a_6.v, .int .i64 a_7, .int .i64 a_8]] w R :=
 fB (an := .s .o (.s (.s .o (.s .o (.s (.s .o .o) (.s .o (.s (.s .o .o) .o))))) (.s .o .o))) (args := [.agg (ofL [.int .i64 a_, .str a_1, .int .i64 a_2, .int .i64 a_3, .str a_4, .int .i64 a_5, .sl a_6, .int .i64 a_7, .int .i64 a_8])]) h
def v61v (x x1 : Int) (x2 : ByteArray) (x3 : Int) (x4 : Sl) (x5 : Int) (R : Value -> World -> Prop) (w : World) : Prop :=
  ∀ k0 : Nat, ∀ w0 : World, w.heap.size <= k0 -> k0 < w0.heap.size -> Only [] w w0 -> Calls Try.prog 79 #[.agg #[.int .i64 x, .int .i64 x1, .string x2, .int .i64 x3, x4.v, .int .i64 x5]] w0 fun e0 w1 => ∃ s0 : ByteArray, ∃ b0 : Bool, e0 = (.returned (.tuple #[.string s0, .bool b0])) /\
   Same [k0] w0 w1 /\
   R (.string s0) w1
theorem v61w (x x1 : Int) (x2 : ByteArray) (x3 : Int) (x4 : Sl) (x5 : Int) (R : Value -> World -> Prop) (w : World) (h : v61v x x1 x2 x3 x4 x5 R w) : Cr 74 #[.agg #[.int .i64 x, .int .i64 x1, .string x2, .int .i64 x3, x4.v, .int .i64 x5]] w R :=
 fB (an := .s .o (.s .o (.s .o .o))) (args := [.agg (ofL [.int .i64 x, .int .i64 x1, .str x2, .int .i64 x3, .sl x4, .int .i64 x5])]) h
def v62v (m : Int) (m1 : ByteArray) (m2 : Int) (m3 : Bool) (m4 m5 : Int) (m6 : ByteArray) (m7 : Int) (m8 : Sl) (m9 : Int) (m10 m11 : Sl) (m12 : Int) (R : Value -> World -> Prop) (w : World) : Prop :=
  ∀ k0 : Nat, ∀ w0 : World, w.heap.size <= k0 -> k0 < w0.heap.size -> Only [] w w0 -> ∃ J0 : ByteArray -> World -> Prop, (∀ s0 : ByteArray, ∀ w1 : World, J0 s0 w1 -> ∃ J1 : ByteArray -> World -> Prop, (∀ s1 : ByteArray, ∀ w2 : World, J1 s1 w2 -> ∃ J2 : ByteArray -> World -> Prop, (∀ s2 : ByteArray, ∀ w3 : World, J2 s2 w3 -> ∃ J3 : ByteArray -> World -> Prop, (∀ s3 : ByteArray, ∀ w4 : World, J3 s3 w4 -> ∃ J4 : Nat -> ByteArray -> Int -> World -> Prop, ∃ k1 : Nat, J4 k1 s3 0 w4 /\
      ∀ k2 : Nat, ∀ s4 : ByteArray, ∀ i0 : Int, ∀ w5 : World, J4 k2 s4 i0 w5 -> ((decide (i0 < (m11.n : Int))) = true -> ∃ J5 : ByteArray -> World -> Prop, (∀ s5 : ByteArray, ∀ w6 : World, J5 s5 w6 -> ∃ p0 : Addr, SlAt m11 i0 1 p0 /\
        ∃ s6 : ByteArray, Cells w6 p0 [.string s6] /\
        ((s5.size : Int) + (s6.size : Int)) <= 9223372036854775807 /\
        ∃ k3 : Nat, k3 < k2 /\
        J4 k3 (s5 ++ s6) (IntKind.wrap .i64 (i0 + 1)) w6) /\
       ((i0 == 0) = true -> ((s4.size : Int) + 4) <= 9223372036854775807 /\
        J5 (s4 ++ (ByteArray.mk #[32, 45, 62, 32])) w5) /\
       ((i0 == 0) = false -> ((s4.size : Int) + 2) <= 9223372036854775807 /\
       J5 (s4 ++ (ByteArray.mk #[44, 32])) w5)) /\
      ((decide (i0 < (m11.n : Int))) = false -> ((s4.size : Int) + 1) <= 9223372036854775807 /\
      R (.string (s4 ++ (ByteArray.mk #[59]))) w5)) /\
     ((decide ((m10.n : Int) > 0)) = true -> ((s2.size : Int) + 1) <= 9223372036854775807 /\
      Calls Try.prog 62 #[m10.v] w3 fun e0 w7 => ∃ s7 : ByteArray, e0 = (.returned (.string s7)) /\
       Same [k0] w3 w7 /\
       (((s2 ++ (ByteArray.mk #[32])).size : Int) + (s7.size : Int)) <= 9223372036854775807 /\
       J3 ((s2 ++ (ByteArray.mk #[32])) ++ s7) w7) /\
     ((decide ((m10.n : Int) > 0)) = false -> J3 s2 w3)) /\
    (m3 = true -> ((s1.size : Int) + 2) <= 9223372036854775807 /\
     Calls Try.prog 74 #[.agg #[.int .i64 m4, .int .i64 m5, .string m6, .int .i64 m7, m8.v, .int .i64 m9]] w2 fun e1 w8 => ∃ s8 : ByteArray, e1 = (.returned (.string s8)) /\
      Same [k0] w2 w8 /\
      (((s1 ++ (ByteArray.mk #[32, 91])).size : Int) + (s8.size : Int)) <= 9223372036854775807 /\
      ((((s1 ++ (ByteArray.mk #[32, 91])) ++ s8).size : Int) + 1) <= 9223372036854775807 /\
      J2 (((s1 ++ (ByteArray.mk #[32, 91])) ++ s8) ++ (ByteArray.mk #[93])) w8) /\
    (m3 = false -> J2 s1 w2)) /\
   ((m == 3) = true -> Calls Try.prog 52 #[.int .i64 m2] w1 fun e2 w9 => ∃ s9 : ByteArray, e2 = (.returned (.string s9)) /\
     Same [k0] w1 w9 /\
     (6 + (s9.size : Int)) <= 9223372036854775807 /\
     J1 ((ByteArray.mk #[97, 102, 116, 101, 114, 32]) ++ s9) w9) /\
   ((m == 3) = false -> J1 s0 w1)) /\
  ((m == 1) = true -> (3 + (m1.size : Int)) <= 9223372036854775807 /\
   J0 ((ByteArray.mk #[111, 110, 32]) ++ m1) w0) /\
  ((m == 1) = false -> J0 (ByteArray.mk #[97, 108, 119, 97, 121, 115]) w0)
theorem v62w (m : Int) (m1 : ByteArray) (m2 : Int) (m3 : Bool) (m4 m5 : Int) (m6 : ByteArray) (m7 : Int) (m8 : Sl) (m9 : Int) (m10 m11 : Sl) (m12 : Int) (R : Value -> World -> Prop) (w : World) (h : v62v m m1 m2 m3 m4 m5 m6 m7 m8 m9 m10 m11 m12 R w) : Cr 63 #[.agg #[.int .i64 m, .string m1, .int .i64 m2, .bool m3, .int .i64 m4, .int .i64 m5, .string m6, .int .i64 m7, m8.v, .int .i64 m9, m10.v, m11.v, .int .i64 m12]] w R :=
 fB (an := .s .o (.s .o (.j [1] [.s 3 .str] (.s .o (.s .o .o)) (.j [1] [.s 3 .str] (.s .o (.s .o .o)) (.j [1] [.s 3 .str] (.s .o (.s .o .o)) (.j [1] [.s 3 .str] (.s .o (.s .o .o)) (.s (.s .o (.j [1] [.s 3 .str, .s 4 (.int .i64)] (.s (.s .o (.s .o .o)) (.s (.j [1, 4] [.s 3 .str] (.s .o (.s .o .o)) .o) .o)) .o)) (.s .o .o)))))))) (args := [.agg (ofL [.int .i64 m, .str m1, .int .i64 m2, .bt m3, .int .i64 m4, .int .i64 m5, .str m6, .int .i64 m7, .sl m8, .int .i64 m9, .sl m10, .sl m11, .int .i64 m12])]) h
def v67v (p : Addr) (x : Int) (x1 x2 x3 : ByteArray) (x4 x5 x6 x7 : Sl) (x8 deep : Int) (R : Value -> World -> Prop) (w : World) : Prop :=
  ∀ k0 : Nat, ∀ w0 : World, w.heap.size <= k0 -> k0 < w0.heap.size -> Only [] w w0 -> ∃ J0 : World -> Prop, (∀ w1 : World, J0 w1 -> Calls Try.prog 53 #[.pointer (some p), .agg #[.int .i64 x, .string x1, .string x2, .string x3, x4.v, x5.v, x6.v, x7.v, .int .i64 x8], .int .i64 (IntKind.wrap .i64 (deep + 1))] w1 fun e0 w2 => e0 = (.returned (.tuple #[])) /\
    Same [k0] w1 w2 /\
    Calls Try.prog 51 #[.pointer (some p), .int .i64 deep, .string (ByteArray.mk #[125])] w2 fun e1 w3 => e1 = (.returned (.tuple #[])) /\
     Same [k0] w2 w3 /\
     R (.tuple #[]) w3) /\
  ((x == 3) = true -> (8 + (x1.size : Int)) <= 9223372036854775807 /\
   ((((ByteArray.mk #[104, 105, 115, 116, 111, 114, 121, 32]) ++ x1).size : Int) + 4) <= 9223372036854775807 /\
   (((((ByteArray.mk #[104, 105, 115, 116, 111, 114, 121, 32]) ++ x1) ++ (ByteArray.mk #[32, 45, 62, 32])).size : Int) + (x3.size : Int)) <= 9223372036854775807 /\
   ((((((ByteArray.mk #[104, 105, 115, 116, 111, 114, 121, 32]) ++ x1) ++ (ByteArray.mk #[32, 45, 62, 32])) ++ x3).size : Int) + 1) <= 9223372036854775807 /\
   Calls Try.prog 51 #[.pointer (some p), .int .i64 deep, .string (((((ByteArray.mk #[104, 105, 115, 116, 111, 114, 121, 32]) ++ x1) ++ (ByteArray.mk #[32, 45, 62, 32])) ++ x3) ++ (ByteArray.mk #[59]))] w0 fun e2 w4 => e2 = (.returned (.tuple #[])) /\
    Same [k0] w0 w4 /\
    R (.tuple #[]) w4) /\
  ((x == 3) = false -> ((x == 4) = true -> (5 + (x1.size : Int)) <= 9223372036854775807 /\
   ((((ByteArray.mk #[100, 101, 101, 112, 32]) ++ x1).size : Int) + 4) <= 9223372036854775807 /\
   (((((ByteArray.mk #[100, 101, 101, 112, 32]) ++ x1) ++ (ByteArray.mk #[32, 45, 62, 32])).size : Int) + (x3.size : Int)) <= 9223372036854775807 /\
   ((((((ByteArray.mk #[100, 101, 101, 112, 32]) ++ x1) ++ (ByteArray.mk #[32, 45, 62, 32])) ++ x3).size : Int) + 1) <= 9223372036854775807 /\
   Calls Try.prog 51 #[.pointer (some p), .int .i64 deep, .string (((((ByteArray.mk #[100, 101, 101, 112, 32]) ++ x1) ++ (ByteArray.mk #[32, 45, 62, 32])) ++ x3) ++ (ByteArray.mk #[59]))] w0 fun e3 w5 => e3 = (.returned (.tuple #[])) /\
    Same [k0] w0 w5 /\
    R (.tuple #[]) w5) /\
  ((x == 4) = false -> ((x == 1) = true -> (6 + (x1.size : Int)) <= 9223372036854775807 /\
   ((((ByteArray.mk #[115, 116, 97, 116, 101, 32]) ++ x1).size : Int) + 2) <= 9223372036854775807 /\
   Calls Try.prog 51 #[.pointer (some p), .int .i64 deep, .string (((ByteArray.mk #[115, 116, 97, 116, 101, 32]) ++ x1) ++ (ByteArray.mk #[32, 123]))] w0 fun e4 w6 => e4 = (.returned (.tuple #[])) /\
    Same [k0] w0 w6 /\
    J0 w6) /\
  ((x == 1) = false -> (9 + (x1.size : Int)) <= 9223372036854775807 /\
  ((((ByteArray.mk #[112, 97, 114, 97, 108, 108, 101, 108, 32]) ++ x1).size : Int) + 2) <= 9223372036854775807 /\
  Calls Try.prog 51 #[.pointer (some p), .int .i64 deep, .string (((ByteArray.mk #[112, 97, 114, 97, 108, 108, 101, 108, 32]) ++ x1) ++ (ByteArray.mk #[32, 123]))] w0 fun e5 w7 => e5 = (.returned (.tuple #[])) /\
   Same [k0] w0 w7 /\
   J0 w7)))
theorem v67w (p : Addr) (x : Int) (x1 x2 x3 : ByteArray) (x4 x5 x6 x7 : Sl) (x8 deep : Int) (R : Value -> World -> Prop) (w : World) (h : v67v p x x1 x2 x3 x4 x5 x6 x7 x8 deep R w) : Cr 64 #[.pointer (some p), .agg #[.int .i64 x, .string x1, .string x2, .string x3, x4.v, x5.v, x6.v, x7.v, .int .i64 x8], .int .i64 deep] w R :=
 fB (an := .s .o (.j [0, 2, 4] [] (.s .o (.s .o (.s (.s .o .o) (.s .o (.s (.s .o .o) (.s .o (.s .o .o))))))) (.s .o .o))) (args := [.ad p, .agg (ofL [.int .i64 x, .str x1, .str x2, .str x3, .sl x4, .sl x5, .sl x6, .sl x7, .int .i64 x8]), .int .i64 deep]) h
def v71v (c : Sl) (c1 : Int) (c2 c3 c4 : ByteArray) (c5 c6 c7 c8 : Sl) (c9 : Int) (R : Value -> World -> Prop) (w : World) : Prop :=
  ∀ k0 : Nat, ∀ w0 : World, w.heap.size <= k0 -> k0 < w0.heap.size -> Only [] w w0 -> Calls Try.prog 33 #[Sl.nil.v, .agg #[.int .i64 c1, .string c2, .string c3, .string c4, c5.v, c6.v, c7.v, c8.v, .int .i64 c9], .int .i64 (-1), .int .i64 0] w0 fun e0 w1 => ∃ l0 : Sl, e0 = (.returned l0.v) /\
   Same [k0] w0 w1 /\
   R l0.v w1
theorem v71w (c : Sl) (c1 : Int) (c2 c3 c4 : ByteArray) (c5 c6 c7 c8 : Sl) (c9 : Int) (R : Value -> World -> Prop) (w : World) (h : v71v c c1 c2 c3 c4 c5 c6 c7 c8 c9 R w) : Cr 17 #[.agg #[c.v, .int .i64 c1, .string c2, .string c3, .string c4, c5.v, c6.v, c7.v, c8.v, .int .i64 c9]] w R :=
 fB (an := .s .o (.s .o .o)) (args := [.agg (ofL [.sl c, .int .i64 c1, .str c2, .str c3, .str c4, .sl c5, .sl c6, .sl c7, .sl c8, .int .i64 c9])]) h
def v74v (l : Sl) (n_ : Int) (n_1 n_2 n_3 : ByteArray) (n_4 n_5 n_6 n_7 : Sl) (n_8 parent depth : Int) (R : Value -> World -> Prop) (w : World) : Prop :=
  ∀ k0 : Nat, ∀ w0 : World, w.heap.size <= k0 -> k0 < w0.heap.size -> Only [] w w0 -> ∃ l0 : Sl, ∃ w1 : World, ((Instr.buildSlice 32 1 #[.mk 0 (.agg #[.int .i64 n_, .string n_1, .int .i64 parent, .int .i64 depth, .int .i64 0])]).run Try.prog w0) = (.ok l0.v w1) /\
  Same [k0] w0 w1 /\
  ∃ l1 : Sl, ∃ w2 : World, ((Builtin.append_ #[32, 32] 32 #[l.v, l0.v]).run Try.prog w1) = (.ok l1.v w2) /\
  Same [k0] w1 w2 /\
  ∃ J0 : Nat -> Sl -> Int -> World -> Prop, ∃ k1 : Nat, J0 k1 l1 0 w2 /\
  ∀ k2 : Nat, ∀ l2 : Sl, ∀ i0 : Int, ∀ w3 : World, J0 k2 l2 i0 w3 -> ((decide (i0 < (n_7.n : Int))) = true -> ∃ p0 : Addr, SlAt n_7 i0 9 p0 /\
   ∃ i1 : Int, ∃ s0 s1 s2 : ByteArray, ∃ l3 l4 l5 l6 : Sl, ∃ i2 : Int, Cells w3 p0 [.int .i64 i1, .string s0, .string s1, .string s2, l3.v, l4.v, l5.v, l6.v, .int .i64 i2] /\
   Calls Try.prog 33 #[l2.v, .agg #[.int .i64 i1, .string s0, .string s1, .string s2, l3.v, l4.v, l5.v, l6.v, .int .i64 i2], .int .i64 (l.n : Int), .int .i64 (IntKind.wrap .i64 (depth + 1))] w3 fun e0 w4 => ∃ l7 : Sl, e0 = (.returned l7.v) /\
    Same [k0] w3 w4 /\
    ∃ k3 : Nat, k3 < k2 /\
    J0 k3 l7 (IntKind.wrap .i64 (i0 + 1)) w4) /\
  ((decide (i0 < (n_7.n : Int))) = false -> ∃ p1 : Addr, SlAt l2 (l.n : Int) 5 p1 /\
  ∃ k4 k5 : Nat, ∃ z0 : List Value, ∃ k6 : Nat, (p1.add 4) = ⟨k4, k5, none⟩ /\
  Blk w3 k4 k6 z0 /\
  (k5 + 1) <= z0.length /\
  k0 ≠ k4 /\
  ∀ w5 : World, Only [k4] w3 w5 -> Blk w5 k4 k6 (splice z0 k5 [.int .i64 (l2.n : Int)]) -> R l2.v w5)
theorem v74w (l : Sl) (n_ : Int) (n_1 n_2 n_3 : ByteArray) (n_4 n_5 n_6 n_7 : Sl) (n_8 parent depth : Int) (R : Value -> World -> Prop) (w : World) (h : v74v l n_ n_1 n_2 n_3 n_4 n_5 n_6 n_7 n_8 parent depth R w) : Cr 33 #[l.v, .agg #[.int .i64 n_, .string n_1, .string n_2, .string n_3, n_4.v, n_5.v, n_6.v, n_7.v, .int .i64 n_8], .int .i64 parent, .int .i64 depth] w R :=
 fB (an := .s .o (.s .o (.s .o (.s (.s .o (.j [3, 5, 9] [.s 0 .sl, .s 10 (.int .i64)] (.s (.s .o (.s .o .o)) (.s .o .o)) .o)) (.s .o (.s .o .o)))))) (args := [.sl l, .agg (ofL [.int .i64 n_, .str n_1, .str n_2, .str n_3, .sl n_4, .sl n_5, .sl n_6, .sl n_7, .int .i64 n_8]), .int .i64 parent, .int .i64 depth]) h
def v77v (n_ : Int) (n_1 n_2 n_3 : ByteArray) (n_4 n_5 n_6 n_7 : Sl) (n_8 : Int) (l : Sl) (R : Value -> World -> Prop) (w : World) : Prop :=
  ∀ k0 : Nat, ∀ w0 : World, w.heap.size <= k0 -> k0 < w0.heap.size -> Only [] w w0 -> ∃ l0 : Sl, ∃ w1 : World, ((Instr.buildSlice 30 1 #[.mk 0 (.int .i64 n_8)]).run Try.prog w0) = (.ok l0.v w1) /\
  Same [k0] w0 w1 /\
  ∃ l1 : Sl, ∃ w2 : World, ((Builtin.append_ #[30, 30] 30 #[l.v, l0.v]).run Try.prog w1) = (.ok l1.v w2) /\
  Same [k0] w1 w2 /\
  ∃ J0 : Nat -> Sl -> Int -> World -> Prop, ∃ k1 : Nat, J0 k1 l1 0 w2 /\
  ∀ k2 : Nat, ∀ l2 : Sl, ∀ i0 : Int, ∀ w3 : World, J0 k2 l2 i0 w3 -> ((decide (i0 < (n_7.n : Int))) = true -> ∃ p0 : Addr, SlAt n_7 i0 9 p0 /\
   ∃ i1 : Int, ∃ s0 s1 s2 : ByteArray, ∃ l3 l4 l5 l6 : Sl, ∃ i2 : Int, Cells w3 p0 [.int .i64 i1, .string s0, .string s1, .string s2, l3.v, l4.v, l5.v, l6.v, .int .i64 i2] /\
   Calls Try.prog 29 #[.agg #[.int .i64 i1, .string s0, .string s1, .string s2, l3.v, l4.v, l5.v, l6.v, .int .i64 i2], l2.v] w3 fun e0 w4 => ∃ l7 : Sl, e0 = (.returned l7.v) /\
    Same [k0] w3 w4 /\
    ∃ k3 : Nat, k3 < k2 /\
    J0 k3 l7 (IntKind.wrap .i64 (i0 + 1)) w4) /\
  ((decide (i0 < (n_7.n : Int))) = false -> R l2.v w3)
theorem v77w (n_ : Int) (n_1 n_2 n_3 : ByteArray) (n_4 n_5 n_6 n_7 : Sl) (n_8 : Int) (l : Sl) (R : Value -> World -> Prop) (w : World) (h : v77v n_ n_1 n_2 n_3 n_4 n_5 n_6 n_7 n_8 l R w) : Cr 29 #[.agg #[.int .i64 n_, .string n_1, .string n_2, .string n_3, n_4.v, n_5.v, n_6.v, n_7.v, .int .i64 n_8], l.v] w R :=
 fB (an := .s .o (.s .o (.s (.s .o (.j [2] [.s 1 .sl, .s 5 (.int .i64)] (.s (.s .o (.s .o .o)) (.s .o .o)) .o)) (.s .o .o)))) (args := [.agg (ofL [.int .i64 n_, .str n_1, .str n_2, .str n_3, .sl n_4, .sl n_5, .sl n_6, .sl n_7, .int .i64 n_8]), .sl l]) h
def v68v (l : Sl) (name : ByteArray) (R : Value -> World -> Prop) (w : World) : Prop :=
  ∃ J0 : Nat -> Int -> World -> Prop, ∃ k0 : Nat, J0 k0 0 w /\
  ∀ k1 : Nat, ∀ i0 : Int, ∀ w0 : World, J0 k1 i0 w0 -> ((decide (i0 < (l.n : Int))) = true -> ∃ p0 : Addr, SlAt l i0 5 p0 /\
   ∃ s0 : ByteArray, Cells w0 (p0.add 1) [.string s0] /\
   ((s0.toList == name.toList) = true -> R (.int .i64 i0) w0) /\
   ((s0.toList == name.toList) = false -> ∃ k2 : Nat, k2 < k1 /\
   J0 k2 (IntKind.wrap .i64 (i0 + 1)) w0)) /\
  ((decide (i0 < (l.n : Int))) = false -> R (.int .i64 (-1)) w0)
theorem v68w (l : Sl) (name : ByteArray) (R : Value -> World -> Prop) (w : World) (h : v68v l name R w) : Cr 30 #[l.v, .string name] w R :=
 fB (an := .s .o (.s (.s .o (.j [0, 1] [.s 5 (.int .i64)] (.s (.s .o (.s .o .o)) (.s (.s .o (.s (.s .o .o) .o)) .o)) .o)) (.s .o .o))) (args := [.sl l, .str name]) h
def v85v (k : Addr) (e_ at_ : Int) (R : Value -> World -> Prop) (w : World) : Prop :=
  ∃ i0 : Int, Cells w ((k.add 11).add 0) [.int .i64 i0] /\
  ((i0 == 0) = true -> ∃ k0 k1 : Nat, ∃ z0 : List Value, ∃ k2 : Nat, (k.add 11) = ⟨k0, k1, none⟩ /\
   Blk w k0 k2 z0 /\
   (k1 + 2) <= z0.length /\
   ∀ w0 : World, Only [k0] w w0 -> Blk w0 k0 k2 (splice z0 k1 [.int .i64 e_, .int .i64 at_]) -> R (.tuple #[]) w0) /\
  ((i0 == 0) = false -> R (.tuple #[]) w)
theorem v85w (k : Addr) (e_ at_ : Int) (R : Value -> World -> Prop) (w : World) (h : v85v k e_ at_ R w) : Cr 31 #[.pointer (some k), .int .i64 e_, .int .i64 at_] w R :=
 fB (an := .s .o (.s .o .o)) (args := [.ad k, .int .i64 e_, .int .i64 at_]) h
def v79v (k : Addr) (n_ : Int) (n_1 n_2 n_3 : ByteArray) (n_4 n_5 n_6 n_7 : Sl) (n_8 at_ : Int) (R : Value -> World -> Prop) (w : World) : Prop :=
  ∀ k0 : Nat, ∀ w0 : World, w.heap.size <= k0 -> k0 < w0.heap.size -> Only [] w w0 -> Calls Try.prog 45 #[.pointer (some k), .agg #[.int .i64 n_, .string n_1, .string n_2, .string n_3, n_4.v, n_5.v, n_6.v, n_7.v, .int .i64 n_8], .int .i64 at_] w0 fun e0 w1 => e0 = (.returned (.tuple #[])) /\
   Same [k0] w0 w1 /\
   ∃ J0 : Nat -> Int -> Int -> World -> Prop, ∃ k1 : Nat, J0 k1 (IntKind.wrap .i64 (at_ + 1)) 0 w1 /\
   ∀ k2 : Nat, ∀ i0 i1 : Int, ∀ w2 : World, J0 k2 i0 i1 w2 -> ((decide (i1 < (n_7.n : Int))) = true -> ∃ p0 : Addr, SlAt n_7 i1 9 p0 /\
    ∃ i2 : Int, ∃ s0 s1 s2 : ByteArray, ∃ l0 l1 l2 l3 : Sl, ∃ i3 : Int, Cells w2 p0 [.int .i64 i2, .string s0, .string s1, .string s2, l0.v, l1.v, l2.v, l3.v, .int .i64 i3] /\
    Calls Try.prog 32 #[.pointer (some k), .agg #[.int .i64 i2, .string s0, .string s1, .string s2, l0.v, l1.v, l2.v, l3.v, .int .i64 i3], .int .i64 i0] w2 fun e1 w3 => ∃ i4 : Int, e1 = (.returned (.int .i64 i4)) /\
     Same [k0] w2 w3 /\
     ∃ k3 : Nat, k3 < k2 /\
     J0 k3 i4 (IntKind.wrap .i64 (i1 + 1)) w3) /\
   ((decide (i1 < (n_7.n : Int))) = false -> R (.int .i64 i0) w2)
theorem v79w (k : Addr) (n_ : Int) (n_1 n_2 n_3 : ByteArray) (n_4 n_5 n_6 n_7 : Sl) (n_8 at_ : Int) (R : Value -> World -> Prop) (w : World) (h : v79v k n_ n_1 n_2 n_3 n_4 n_5 n_6 n_7 n_8 at_ R w) : Cr 32 #[.pointer (some k), .agg #[.int .i64 n_, .string n_1, .string n_2, .string n_3, n_4.v, n_5.v, n_6.v, n_7.v, .int .i64 n_8], .int .i64 at_] w R :=
 fB (an := .s .o (.s .o (.s .o (.s (.s .o (.j [0, 4] [.s 2 (.int .i64), .s 7 (.int .i64)] (.s (.s .o (.s .o .o)) (.s .o .o)) .o)) (.s .o .o))))) (args := [.ad k, .agg (ofL [.int .i64 n_, .str n_1, .str n_2, .str n_3, .sl n_4, .sl n_5, .sl n_6, .sl n_7, .int .i64 n_8]), .int .i64 at_]) h
def v81v (k : Addr) (n_ : Int) (n_1 n_2 n_3 : ByteArray) (n_4 n_5 n_6 n_7 : Sl) (n_8 at_ : Int) (R : Value -> World -> Prop) (w : World) : Prop :=
  ∀ k0 : Nat, ∀ w0 : World, w.heap.size <= k0 -> k0 < w0.heap.size -> Only [] w w0 -> ∃ J0 : Nat -> Int -> Bool -> Int -> World -> Prop, ∃ k1 : Nat, J0 k1 0 false 0 w0 /\
  ∀ k2 : Nat, ∀ i0 : Int, ∀ b0 : Bool, ∀ i1 : Int, ∀ w1 : World, J0 k2 i0 b0 i1 w1 -> ((decide (i1 < (n_7.n : Int))) = true -> ∃ p0 : Addr, SlAt n_7 i1 9 p0 /\
   ∃ i2 : Int, Cells w1 (p0.add 0) [.int .i64 i2] /\
   Calls Try.prog 37 #[.int .i64 i2] w1 fun e0 w2 => ∃ b1 : Bool, e0 = (.returned (.bool b1)) /\
    Same [k0] w1 w2 /\
    ∃ J1 : Int -> World -> Prop, (∀ i3 : Int, ∀ w3 : World, J1 i3 w3 -> ∃ p1 : Addr, (b0 = false -> SlAt n_7 i1 9 p1) /\
     ∃ s0 : ByteArray, (b0 = false -> Cells w3 (p1.add 1) [.string s0]) /\
     ∀ w4 : World, Only [] w3 w4 -> ∃ k3 : Nat, k3 < k2 /\
     J0 k3 i3 (b0 || (s0.toList == n_2.toList)) (IntKind.wrap .i64 (i1 + 1)) w4) /\
    ((!b1) = true -> J1 (IntKind.wrap .i64 (i0 + 1)) w2) /\
    ((!b1) = false -> J1 i0 w2)) /\
  ((decide (i1 < (n_7.n : Int))) = false -> Calls Try.prog 37 #[.int .i64 n_] w1 fun e1 w5 => ∃ b2 : Bool, e1 = (.returned (.bool b2)) /\
   Same [k0] w1 w5 /\
   ∃ J2 : World -> Prop, (∀ w6 : World, J2 w6 -> Calls Try.prog 55 #[.pointer (some k), n_4.v] w6 fun e2 w7 => e2 = (.returned (.tuple #[])) /\
     Same [k0] w6 w7 /\
     Calls Try.prog 55 #[.pointer (some k), n_5.v] w7 fun e3 w8 => e3 = (.returned (.tuple #[])) /\
      Same [k0] w7 w8 /\
      ∃ J3 : Nat -> Int -> World -> Prop, ∃ k4 : Nat, J3 k4 0 w8 /\
      ∀ k5 : Nat, ∀ i4 : Int, ∀ w9 : World, J3 k5 i4 w9 -> ((decide (i4 < (n_6.n : Int))) = true -> ∃ J4 : World -> Prop, (∀ w10 : World, J4 w10 -> ∃ k6 : Nat, k6 < k5 /\
        J3 k6 (IntKind.wrap .i64 (i4 + 1)) w10) /\
       ∃ p2 : Addr, SlAt n_6 i4 13 p2 /\
       ∃ i5 : Int, ∃ s1 : ByteArray, ∃ i6 : Int, ∃ b3 : Bool, ∃ i7 i8 : Int, ∃ s2 : ByteArray, ∃ i9 : Int, ∃ l0 : Sl, ∃ i10 : Int, ∃ l1 l2 : Sl, ∃ i11 : Int, Cells w9 p2 [.int .i64 i5, .string s1, .int .i64 i6, .bool b3, .int .i64 i7, .int .i64 i8, .string s2, .int .i64 i9, l0.v, .int .i64 i10, l1.v, l2.v, .int .i64 i11] /\
       ∀ k7 : Nat, ∀ w11 : World, w9.heap.size <= k7 -> k7 < w11.heap.size -> Only [] w9 w11 -> ∃ J5 : World -> Prop, (∀ w12 : World, J5 w12 -> Calls Try.prog 56 #[.pointer (some k), .agg #[.int .i64 i7, .int .i64 i8, .string s2, .int .i64 i9, l0.v, .int .i64 i10]] w12 fun e4 w13 => e4 = (.returned (.tuple #[])) /\
         Same [k0, k7] w12 w13 /\
         Calls Try.prog 55 #[.pointer (some k), l1.v] w13 fun e5 w14 => e5 = (.returned (.tuple #[])) /\
          Same [k0, k7] w13 w14 /\
          Calls Try.prog 57 #[.pointer (some k), l2.v] w14 fun e6 w15 => ∃ b4 : Bool, e6 = (.returned (.bool b4)) /\
           Same [k0, k7] w14 w15 /\
           ((!b4) = true -> Calls Try.prog 31 #[.pointer (some k), .int .i64 27, .int .i64 i11] w15 fun e7 w16 => e7 = (.returned (.tuple #[])) /\
             Same [k0, k7] w15 w16 /\
             J4 w16) /\
           ((!b4) = false -> J4 w15)) /\
       (((i5 == 3) && ((i6 == 0) || (decide (i6 > 1099511627776)))) = true -> Calls Try.prog 31 #[.pointer (some k), .int .i64 28, .int .i64 i11] w11 fun e8 w17 => e8 = (.returned (.tuple #[])) /\
         Same [k0, k7] w11 w17 /\
         J5 w17) /\
       (((i5 == 3) && ((i6 == 0) || (decide (i6 > 1099511627776)))) = false -> J5 w11)) /\
      ((decide (i4 < (n_6.n : Int))) = false -> R (.tuple #[]) w9)) /\
   (b2 = true -> ∀ w18 : World, Only [] w5 w18 -> ∃ l3 : Sl, Cells w18 (k.add 10) [l3.v] /\
    Calls Try.prog 30 #[l3.v, .string n_3] w18 fun e9 w19 => ∃ i12 : Int, e9 = (.returned (.int .i64 i12)) /\
     Same [k0] w18 w19 /\
     ∀ w20 : World, Only [] w19 w20 -> ∃ l4 : Sl, Cells w20 (k.add 10) [l4.v] /\
     ∃ l5 : Sl, Cells w20 (k.add 10) [l5.v] /\
     ∃ p3 : Addr, SlAt l5 at_ 5 p3 /\
     ∃ i13 : Int, Cells w20 (p3.add 2) [.int .i64 i13] /\
     Calls Try.prog 54 #[l4.v, .int .i64 i12, .int .i64 i13] w20 fun e10 w21 => ∃ b5 : Bool, e10 = (.returned (.bool b5)) /\
      Same [k0] w20 w21 /\
      ∃ J6 : Bool -> World -> Prop, (∀ b6 : Bool, ∀ w22 : World, J6 b6 w22 -> (b6 = true -> Calls Try.prog 31 #[.pointer (some k), .int .i64 26, .int .i64 n_8] w22 fun e11 w23 => e11 = (.returned (.tuple #[])) /\
         Same [k0] w22 w23 /\
         J2 w23) /\
       (b6 = false -> J2 w22)) /\
      (((decide (i12 < 0)) || (!b5)) = true -> J6 true w21) /\
      (((decide (i12 < 0)) || (!b5)) = false -> ∃ l6 : Sl, Cells w21 (k.add 10) [l6.v] /\
      ∃ p4 : Addr, SlAt l6 i12 5 p4 /\
      ∃ i14 : Int, Cells w21 (p4.add 0) [.int .i64 i14] /\
      Calls Try.prog 37 #[.int .i64 i14] w21 fun e12 w24 => ∃ b7 : Bool, e12 = (.returned (.bool b7)) /\
       Same [k0] w21 w24 /\
       J6 b7 w24)) /\
   (b2 = false -> ∃ J7 : Bool -> World -> Prop, (∀ b8 : Bool, ∀ w25 : World, J7 b8 w25 -> (b8 = true -> Calls Try.prog 31 #[.pointer (some k), .int .i64 25, .int .i64 n_8] w25 fun e13 w26 => e13 = (.returned (.tuple #[])) /\
      Same [k0] w25 w26 /\
      J2 w26) /\
    (b8 = false -> ((((n_ == 1) && (i0 == 0)) && (decide ((n_7.n : Int) > 0))) = true -> Calls Try.prog 31 #[.pointer (some k), .int .i64 26, .int .i64 n_8] w25 fun e14 w27 => e14 = (.returned (.tuple #[])) /\
      Same [k0] w25 w27 /\
      J2 w27) /\
    ((((n_ == 1) && (i0 == 0)) && (decide ((n_7.n : Int) > 0))) = false -> J2 w25))) /\
   (((n_ == 2) && ((!(n_2.toList == ((ByteArray.mk #[]).toList))) || (decide (i0 < 2)))) = true -> J7 ((n_ == 2) && ((!(n_2.toList == ((ByteArray.mk #[]).toList))) || (decide (i0 < 2)))) w5) /\
   (((n_ == 2) && ((!(n_2.toList == ((ByteArray.mk #[]).toList))) || (decide (i0 < 2)))) = false -> ((((n_ == 1) && (decide (i0 > 0))) && (!b0)) = true -> J7 (((n_ == 1) && (decide (i0 > 0))) && (!b0)) w5) /\
   ((((n_ == 1) && (decide (i0 > 0))) && (!b0)) = false -> J7 (((n_ == 1) && (i0 == 0)) && (!(n_2.toList == ((ByteArray.mk #[]).toList)))) w5))))
theorem v81w (k : Addr) (n_ : Int) (n_1 n_2 n_3 : ByteArray) (n_4 n_5 n_6 n_7 : Sl) (n_8 at_ : Int) (R : Value -> World -> Prop) (w : World) (h : v81v k n_ n_1 n_2 n_3 n_4 n_5 n_6 n_7 n_8 at_ R w) : Cr 45 #[.pointer (some k), .agg #[.int .i64 n_, .string n_1, .string n_2, .string n_3, n_4.v, n_5.v, n_6.v, n_7.v, .int .i64 n_8], .int .i64 at_] w R :=
 fB (an := .s .o (.s .o (.s .o (.s (.s .o (.j [0, 2, 4] [.s 6 (.int .i64), .s 7 .bool, .s 8 (.int .i64)] (.s (.s .o (.s .o .o)) (.s (.s .o (.j [0, 2, 4, 7, 8] [.s 6 (.int .i64)] (.s .o (.s .o .o)) .o)) .o)) .o)) (.s .o (.j [0, 4] [] (.s .o (.s (.s .o (.s .o (.s (.j [0, 4] [.s 88 .bool] .o .o) (.s .o .o)))) (.j [0, 4, 6] [.s 93 .bool] (.s .o (.s .o (.s .o (.s .o .o)))) (.s .o (.s .o (.s .o .o)))))) (.s .o (.s .o (.s .o (.j [0, 4] [.s 13 (.int .i64)] (.s (.s .o (.s .o .o)) (.j [0, 4, 13] [] (.s .o (.j [0, 4, 13, 14] [] (.s .o (.s .o .o)) (.s .o (.s .o (.s .o (.s .o (.s .o .o))))))) .o)) .o)))))))))) (args := [.ad k, .agg (ofL [.int .i64 n_, .str n_1, .str n_2, .str n_3, .sl n_4, .sl n_5, .sl n_6, .sl n_7, .int .i64 n_8]), .int .i64 at_]) h
def v76v (kind : Int) (R : Value -> World -> Prop) (w : World) : Prop :=
 R (.bool ((kind == 3) || (kind == 4))) w
theorem v76w (kind : Int) (R : Value -> World -> Prop) (w : World) (h : v76v kind R w) : Cr 37 #[.int .i64 kind] w R :=
 fB (an := .s .o (.s .o .o)) (args := [.int .i64 kind]) h
def v73v (l : Sl) (a_ bb : Int) (R : Value -> World -> Prop) (w : World) : Prop :=
 ∃ p0 : Addr, ((((decide (bb >= 0)) && (decide (bb < (l.n : Int)))) && (decide (a_ > bb))) = true -> SlAt l bb 5 p0) /\
 ∃ i0 : Int, ((((decide (bb >= 0)) && (decide (bb < (l.n : Int)))) && (decide (a_ > bb))) = true -> Cells w (p0.add 4) [.int .i64 i0]) /\
 R (.bool ((((decide (bb >= 0)) && (decide (bb < (l.n : Int)))) && (decide (a_ > bb))) && (decide (a_ < i0)))) w
theorem v73w (l : Sl) (a_ bb : Int) (R : Value -> World -> Prop) (w : World) (h : v73v l a_ bb R w) : Cr 54 #[l.v, .int .i64 a_, .int .i64 bb] w R :=
 fB (an := .s .o (.s .o .o)) (args := [.sl l, .int .i64 a_, .int .i64 bb]) h
def v78v (k : Addr) (l : Sl) (R : Value -> World -> Prop) (w : World) : Prop :=
  ∃ J0 : Nat -> Int -> World -> Prop, ∃ k0 : Nat, J0 k0 0 w /\
  ∀ k1 : Nat, ∀ i0 : Int, ∀ w0 : World, J0 k1 i0 w0 -> ((decide (i0 < (l.n : Int))) = true -> ∃ J1 : Bool -> World -> Prop, (∀ b0 : Bool, ∀ w1 : World, J1 b0 w1 -> ∃ J2 : World -> Prop, (∀ w2 : World, J2 w2 -> ∃ p0 : Addr, SlAt l i0 9 p0 /\
     ∃ i1 i2 : Int, ∃ s0 : ByteArray, ∃ i3 : Int, ∃ l0 : Sl, ∃ i4 : Int, Cells w2 (p0.add 2) [.int .i64 i1, .int .i64 i2, .string s0, .int .i64 i3, l0.v, .int .i64 i4] /\
     Calls Try.prog 56 #[.pointer (some k), .agg #[.int .i64 i1, .int .i64 i2, .string s0, .int .i64 i3, l0.v, .int .i64 i4]] w2 fun e0 w3 => e0 = (.returned (.tuple #[])) /\
      ∃ k2 : Nat, k2 < k1 /\
      J0 k2 (IntKind.wrap .i64 (i0 + 1)) w3) /\
    ((!b0) = true -> ∃ p1 : Addr, SlAt l i0 9 p1 /\
     ∃ i5 : Int, Cells w1 (p1.add 8) [.int .i64 i5] /\
     Calls Try.prog 31 #[.pointer (some k), .int .i64 23, .int .i64 i5] w1 fun e1 w4 => e1 = (.returned (.tuple #[])) /\
      J2 w4) /\
    ((!b0) = false -> J2 w1)) /\
   ∃ p2 : Addr, SlAt l i0 9 p2 /\
   ∃ i6 : Int, Cells w0 (p2.add 0) [.int .i64 i6] /\
   ((i6 != 1) = true -> J1 true w0) /\
   ((i6 != 1) = false -> ∃ p3 : Addr, SlAt l i0 9 p3 /\
   ∃ s1 : ByteArray, Cells w0 (p3.add 1) [.string s1] /\
   Calls Try.prog 65 #[.pointer (some k), .string s1] w0 fun e2 w5 => ∃ b1 : Bool, e2 = (.returned (.bool b1)) /\
    J1 b1 w5)) /\
  ((decide (i0 < (l.n : Int))) = false -> R (.tuple #[]) w0)
theorem v78w (k : Addr) (l : Sl) (R : Value -> World -> Prop) (w : World) (h : v78v k l R w) : Cr 55 #[.pointer (some k), l.v] w R :=
 fB (an := .s .o (.j [0, 1] [.s 4 (.int .i64)] (.s (.s .o (.s .o .o)) (.s (.s (.j [0, 1, 4] [.s 5 .bool] .o .o) (.j [0, 1, 4] [] (.s .o (.s .o .o)) .o)) .o)) .o)) (args := [.ad k, .sl l]) h
def v84v (k : Addr) (name : ByteArray) (R : Value -> World -> Prop) (w : World) : Prop :=
  ∃ J0 : Nat -> Int -> World -> Prop, ∃ k0 : Nat, J0 k0 0 w /\
  ∀ k1 : Nat, ∀ i0 : Int, ∀ w0 : World, J0 k1 i0 w0 -> ∃ l0 : Sl, Cells w0 ((k.add 0).add 0) [l0.v] /\
  ((decide (i0 < (l0.n : Int))) = true -> ∃ l1 : Sl, Cells w0 ((k.add 0).add 0) [l1.v] /\
   ∃ p0 : Addr, SlAt l1 i0 3 p0 /\
   ∃ s0 : ByteArray, Cells w0 (p0.add 0) [.string s0] /\
   ((s0.toList == name.toList) = true -> R (.bool true) w0) /\
   ((s0.toList == name.toList) = false -> ∃ k2 : Nat, k2 < k1 /\
   J0 k2 (IntKind.wrap .i64 (i0 + 1)) w0)) /\
  ((decide (i0 < (l0.n : Int))) = false -> R (.bool false) w0)
theorem v84w (k : Addr) (name : ByteArray) (R : Value -> World -> Prop) (w : World) (h : v84v k name R w) : Cr 65 #[.pointer (some k), .string name] w R :=
 fB (an := .s .o (.s (.s .o (.j [0, 1] [.s 5 (.int .i64)] (.s (.s .o (.s .o .o)) (.s (.s .o (.s (.s .o .o) .o)) .o)) .o)) (.s .o .o))) (args := [.ad k, .str name]) h
def v80v (k : Addr) (x x1 : Int) (x2 : ByteArray) (x3 : Int) (x4 : Sl) (x5 : Int) (R : Value -> World -> Prop) (w : World) : Prop :=
  ∀ k0 : Nat, ∀ w0 : World, w.heap.size <= k0 -> k0 < w0.heap.size -> Only [] w w0 -> ∃ J0 : Bool -> World -> Prop, (∀ b0 : Bool, ∀ w1 : World, J0 b0 w1 -> ∃ J1 : Bool -> World -> Prop, (∀ b1 : Bool, ∀ w2 : World, J1 b1 w2 -> ∃ J2 : World -> Prop, (∀ w3 : World, J2 w3 -> ∃ J3 : Nat -> Int -> World -> Prop, ∃ k1 : Nat, J3 k1 0 w3 /\
     ∀ k2 : Nat, ∀ i0 : Int, ∀ w4 : World, J3 k2 i0 w4 -> ((decide (i0 < (x4.n : Int))) = true -> ∃ p0 : Addr, SlAt x4 i0 6 p0 /\
      ∃ i1 i2 : Int, ∃ s0 : ByteArray, ∃ i3 : Int, ∃ l0 : Sl, ∃ i4 : Int, Cells w4 p0 [.int .i64 i1, .int .i64 i2, .string s0, .int .i64 i3, l0.v, .int .i64 i4] /\
      Calls Try.prog 56 #[.pointer (some k), .agg #[.int .i64 i1, .int .i64 i2, .string s0, .int .i64 i3, l0.v, .int .i64 i4]] w4 fun e0 w5 => e0 = (.returned (.tuple #[])) /\
       Same [k0] w4 w5 /\
       ∃ k3 : Nat, k3 < k2 /\
       J3 k3 (IntKind.wrap .i64 (i0 + 1)) w5) /\
     ((decide (i0 < (x4.n : Int))) = false -> R (.tuple #[]) w4)) /\
    (((!b0) || (!b1)) = true -> Calls Try.prog 31 #[.pointer (some k), .int .i64 23, .int .i64 x5] w2 fun e1 w6 => e1 = (.returned (.tuple #[])) /\
      Same [k0] w2 w6 /\
      J2 w6) /\
    (((!b0) || (!b1)) = false -> J2 w2)) /\
   ((x != 3) = true -> J1 true w1) /\
   ((x != 3) = false -> Calls Try.prog 66 #[.pointer (some k), .string x2] w1 fun e2 w7 => ∃ b2 : Bool, e2 = (.returned (.bool b2)) /\
    Same [k0] w1 w7 /\
    J1 b2 w7)) /\
  ((x != 2) = true -> J0 true w0) /\
  ((x != 2) = false -> Calls Try.prog 65 #[.pointer (some k), .string x2] w0 fun e3 w8 => ∃ b3 : Bool, e3 = (.returned (.bool b3)) /\
   Same [k0] w0 w8 /\
   J0 b3 w8)
theorem v80w (k : Addr) (x x1 : Int) (x2 : ByteArray) (x3 : Int) (x4 : Sl) (x5 : Int) (R : Value -> World -> Prop) (w : World) (h : v80v k x x1 x2 x3 x4 x5 R w) : Cr 56 #[.pointer (some k), .agg #[.int .i64 x, .int .i64 x1, .string x2, .int .i64 x3, x4.v, .int .i64 x5]] w R :=
 fB (an := .s .o (.s (.j [0, 3] [.s 4 .bool] .o .o) (.s (.j [0, 3, 4] [.s 5 .bool] .o .o) (.j [0, 3] [] (.s .o (.s .o .o)) (.s .o (.j [0, 3] [.s 6 (.int .i64)] (.s (.s .o (.s .o .o)) (.s .o .o)) .o)))))) (args := [.ad k, .agg (ofL [.int .i64 x, .int .i64 x1, .str x2, .int .i64 x3, .sl x4, .int .i64 x5])]) h
def v82v (k : Addr) (name : ByteArray) (R : Value -> World -> Prop) (w : World) : Prop :=
  ∃ l0 : Sl, Cells w (k.add 10) [l0.v] /\
  Calls Try.prog 30 #[l0.v, .string name] w fun e0 w0 => ∃ i0 : Int, e0 = (.returned (.int .i64 i0)) /\
   ∃ J0 : Bool -> World -> Prop, (∀ b0 : Bool, ∀ w1 : World, J0 b0 w1 -> R (.bool b0) w1) /\
   ((decide (i0 >= 0)) = true -> ∃ l1 : Sl, Cells w0 (k.add 10) [l1.v] /\
    ∃ p0 : Addr, SlAt l1 i0 5 p0 /\
    ∃ i1 : Int, Cells w0 (p0.add 0) [.int .i64 i1] /\
    Calls Try.prog 37 #[.int .i64 i1] w0 fun e1 w2 => ∃ b1 : Bool, e1 = (.returned (.bool b1)) /\
     J0 (!b1) w2) /\
   ((decide (i0 >= 0)) = false -> J0 false w0)
theorem v82w (k : Addr) (name : ByteArray) (R : Value -> World -> Prop) (w : World) (h : v82v k name R w) : Cr 66 #[.pointer (some k), .string name] w R :=
 fB (an := .s .o (.s .o (.s (.j [] [.s 4 .bool] .o .o) .o))) (args := [.ad k, .str name]) h
def v83v (k : Addr) (l : Sl) (R : Value -> World -> Prop) (w : World) : Prop :=
  ∃ J0 : Nat -> Sl -> Int -> World -> Prop, ∃ k0 : Nat, J0 k0 Sl.nil 0 w /\
  ∀ k1 : Nat, ∀ l0 : Sl, ∀ i0 : Int, ∀ w0 : World, J0 k1 l0 i0 w0 -> ((decide (i0 < (l.n : Int))) = true -> ∀ w1 : World, Only [] w0 w1 -> ∃ l1 : Sl, Cells w1 (k.add 10) [l1.v] /\
   ∃ p0 : Addr, SlAt l i0 1 p0 /\
   ∃ s0 : ByteArray, Cells w1 p0 [.string s0] /\
   Calls Try.prog 30 #[l1.v, .string s0] w1 fun e0 w2 => ∃ i1 : Int, e0 = (.returned (.int .i64 i1)) /\
    ((decide (i1 < 1)) = true -> R (.bool false) w2) /\
    ((decide (i1 < 1)) = false -> ∃ l2 : Sl, Cells w2 (k.add 10) [l2.v] /\
    ∃ p1 : Addr, SlAt l2 i1 5 p1 /\
    ∃ i2 : Int, Cells w2 (p1.add 0) [.int .i64 i2] /\
    Calls Try.prog 37 #[.int .i64 i2] w2 fun e1 w3 => ∃ b0 : Bool, e1 = (.returned (.bool b0)) /\
     ∃ J1 : Int -> World -> Prop, (∀ i3 : Int, ∀ w4 : World, J1 i3 w4 -> ∃ J2 : Nat -> Int -> World -> Prop, ∃ k2 : Nat, J2 k2 0 w4 /\
      ∀ k3 : Nat, ∀ i4 : Int, ∀ w5 : World, J2 k3 i4 w5 -> ((decide (i4 < (l0.n : Int))) = true -> ∀ w6 : World, Only [] w5 w6 -> ∃ J3 : Nat -> Prop, J3 ((k.add 10).block) /\
       ∃ l3 : Sl, Cells w6 (k.add 10) [l3.v] /\
       ∃ p2 : Addr, SlAt l0 i4 1 p2 /\
       ∃ i5 : Int, Cells w6 p2 [.int .i64 i5] /\
       ∃ l4 : Sl, ∃ w7 : World, ((Instr.buildSlice 30 2 #[.mk 0 (.int .i64 i3), .mk 1 (.int .i64 i5)]).run Try.prog w6) = (.ok l4.v w7) /\
       Keeps J3 w6 w7 /\
       Calls Try.prog 67 #[l3.v, l4.v] w7 fun e2 w8 => ∃ i6 : Int, e2 = (.returned (.int .i64 i6)) /\
        Keeps J3 w7 w8 /\
        ∃ p3 : Addr, ((i6 == i3) = false -> SlAt l0 i4 1 p3) /\
        ∃ i7 : Int, ((i6 == i3) = false -> Cells w8 p3 [.int .i64 i7]) /\
        ∃ l5 : Sl, (((i6 == i3) || (i6 == i7)) = false -> Cells w8 (k.add 10) [l5.v]) /\
        ∃ p4 : Addr, (((i6 == i3) || (i6 == i7)) = false -> SlAt l5 i6 5 p4) /\
        ∃ i8 : Int, (((i6 == i3) || (i6 == i7)) = false -> Cells w8 (p4.add 0) [.int .i64 i8]) /\
        ((((i6 == i3) || (i6 == i7)) || (i8 != 2)) = true -> R (.bool false) w8) /\
        ((((i6 == i3) || (i6 == i7)) || (i8 != 2)) = false -> ∃ k4 : Nat, k4 < k3 /\
        J2 k4 (IntKind.wrap .i64 (i4 + 1)) w8)) /\
      ((decide (i4 < (l0.n : Int))) = false -> ∃ l6 : Sl, ∃ w9 : World, ((Instr.buildSlice 30 1 #[.mk 0 (.int .i64 i3)]).run Try.prog w5) = (.ok l6.v w9) /\
      ∃ l7 : Sl, ∃ w10 : World, ((Builtin.append_ #[30, 30] 30 #[l0.v, l6.v]).run Try.prog w9) = (.ok l7.v w10) /\
      ∃ k5 : Nat, k5 < k1 /\
      J0 k5 l7 (IntKind.wrap .i64 (i0 + 1)) w10)) /\
     (b0 = true -> ∃ l8 : Sl, Cells w3 (k.add 10) [l8.v] /\
      ∃ p5 : Addr, SlAt l8 i1 5 p5 /\
      ∃ i9 : Int, Cells w3 (p5.add 2) [.int .i64 i9] /\
      J1 i9 w3) /\
     (b0 = false -> J1 i1 w3))) /\
  ((decide (i0 < (l.n : Int))) = false -> R (.bool true) w0)
theorem v83w (k : Addr) (l : Sl) (R : Value -> World -> Prop) (w : World) (h : v83v k l R w) : Cr 57 #[.pointer (some k), l.v] w R :=
 fB (an := .s .o (.s .o (.s (.s .o (.j [0, 1] [.s 5 .sl, .s 6 (.int .i64)] (.s (.s .o (.s .o .o)) (.s (.s .o (.s (.s .o (.s (.s .o .o) .o)) (.s .o (.j [0, 1, 5, 6] [.s 7 (.int .i64)] (.s .o (.s .o .o)) (.s (.s .o (.j [0, 1, 5, 6, 7] [.s 9 (.int .i64)] (.s (.s .o (.s .o .o)) (.s (.s .o (.s .o (.s (.s .o .o) .o))) .o)) .o)) .o))))) .o)) .o)) (.s .o .o)))) (args := [.ad k, .sl l]) h
def v72v (l nodes : Sl) (R : Value -> World -> Prop) (w : World) : Prop :=
  ∃ J0 : Nat -> Int -> Int -> World -> Prop, ∃ k0 : Nat, J0 k0 (-1) 0 w /\
  ∀ k1 : Nat, ∀ i0 i1 : Int, ∀ w0 : World, J0 k1 i0 i1 w0 -> (((decide (i1 < (l.n : Int))) && (decide ((nodes.n : Int) > 0))) = true -> ∃ J1 : Int -> World -> Prop, (∀ i2 : Int, ∀ w1 : World, J1 i2 w1 -> ∃ k2 : Nat, k2 < k1 /\
    J0 k2 i2 (IntKind.wrap .i64 (i1 + 1)) w1) /\
   ∃ J2 : Nat -> Bool -> Int -> World -> Prop, ∃ k3 : Nat, J2 k3 true 0 w0 /\
   ∀ k4 : Nat, ∀ b0 : Bool, ∀ i3 : Int, ∀ w2 : World, J2 k4 b0 i3 w2 -> ((decide (i3 < (nodes.n : Int))) = true -> ∃ p0 : Addr, SlAt nodes i3 1 p0 /\
    ∃ i4 : Int, Cells w2 p0 [.int .i64 i4] /\
    Calls Try.prog 54 #[l.v, .int .i64 i4, .int .i64 i1] w2 fun e0 w3 => ∃ b1 : Bool, e0 = (.returned (.bool b1)) /\
     ∃ p1 : Addr, (b0 = true -> b1 = false -> SlAt nodes i3 1 p1) /\
     ∃ i5 : Int, (b0 = true -> b1 = false -> Cells w3 p1 [.int .i64 i5]) /\
     ∃ k5 : Nat, k5 < k4 /\
     J2 k5 (b0 && (b1 || (i5 == i1))) (IntKind.wrap .i64 (i3 + 1)) w3) /\
   ((decide (i3 < (nodes.n : Int))) = false -> ∃ p2 : Addr, (b0 = true -> (decide (i0 < 0)) = false -> SlAt l i1 5 p2) /\
   ∃ i6 : Int, (b0 = true -> (decide (i0 < 0)) = false -> Cells w2 (p2.add 3) [.int .i64 i6]) /\
   ∃ p3 : Addr, (b0 = true -> (decide (i0 < 0)) = false -> SlAt l i0 5 p3) /\
   ∃ i7 : Int, (b0 = true -> (decide (i0 < 0)) = false -> Cells w2 (p3.add 3) [.int .i64 i7]) /\
   ((b0 && ((decide (i0 < 0)) || (decide (i6 > i7)))) = true -> ∀ w4 : World, Only [] w2 w4 -> J1 i1 w4) /\
   ((b0 && ((decide (i0 < 0)) || (decide (i6 > i7)))) = false -> ∀ w5 : World, Only [] w2 w5 -> J1 i0 w5))) /\
  (((decide (i1 < (l.n : Int))) && (decide ((nodes.n : Int) > 0))) = false -> R (.int .i64 i0) w0)
theorem v72w (l nodes : Sl) (R : Value -> World -> Prop) (w : World) (h : v72v l nodes R w) : Cr 67 #[l.v, nodes.v] w R :=
 fB (an := .s .o (.s .o (.s (.s .o (.j [0, 1] [.s 5 (.int .i64), .s 6 (.int .i64)] (.s (.s .o (.s .o .o)) (.j [0, 1, 6] [.s 5 (.int .i64)] (.s .o (.s (.s .o (.j [0, 1, 5, 6] [.s 7 .bool, .s 8 (.int .i64)] (.s (.s .o (.s .o .o)) (.s (.s .o .o) .o)) .o)) (.s .o (.s .o .o)))) .o)) .o)) (.s .o .o)))) (args := [.sl l, .sl nodes]) h
def v19v (a_ bb : Sl) (R : Value -> World -> Prop) (w : World) : Prop :=
  (((a_.n : Int) != (bb.n : Int)) = true -> R (.bool false) w) /\
  (((a_.n : Int) != (bb.n : Int)) = false -> ∃ J0 : Nat -> Int -> World -> Prop, ∃ k0 : Nat, J0 k0 0 w /\
  ∀ k1 : Nat, ∀ i0 : Int, ∀ w0 : World, J0 k1 i0 w0 -> ((decide (i0 < (a_.n : Int))) = true -> ∃ p0 : Addr, SlAt a_ i0 1 p0 /\
   ∃ i1 : Int, Cells w0 p0 [.int .i64 i1] /\
   ∃ p1 : Addr, SlAt bb i0 1 p1 /\
   ∃ i2 : Int, Cells w0 p1 [.int .i64 i2] /\
   ((i1 != i2) = true -> ∀ w1 : World, Only [] w0 w1 -> R (.bool false) w1) /\
   ((i1 != i2) = false -> ∀ w2 : World, Only [] w0 w2 -> ∃ k2 : Nat, k2 < k1 /\
   J0 k2 (IntKind.wrap .i64 (i0 + 1)) w2)) /\
  ((decide (i0 < (a_.n : Int))) = false -> R (.bool true) w0))
theorem v19w (a_ bb : Sl) (R : Value -> World -> Prop) (w : World) (h : v19v a_ bb R w) : Cr 11 #[a_.v, bb.v] w R :=
 fB (an := .s .o (.s (.s .o (.s (.s .o .o) .o)) (.s (.s .o (.j [0, 1] [.s 5 (.int .i64)] (.s (.s .o (.s .o .o)) (.s (.s .o (.s (.s .o .o) .o)) .o)) .o)) (.s .o .o)))) (args := [.sl a_, .sl bb]) h
def v87v (l : Sl) (n_ : Int) (R : Value -> World -> Prop) (w : World) : Prop :=
  ∃ J0 : Nat -> Int -> World -> Prop, ∃ k0 : Nat, J0 k0 0 w /\
  ∀ k1 : Nat, ∀ i0 : Int, ∀ w0 : World, J0 k1 i0 w0 -> ((decide (i0 < (l.n : Int))) = true -> ∃ p0 : Addr, SlAt l i0 1 p0 /\
   ∃ i1 : Int, Cells w0 p0 [.int .i64 i1] /\
   ((i1 == n_) = true -> R (.bool true) w0) /\
   ((i1 == n_) = false -> ∃ k2 : Nat, k2 < k1 /\
   J0 k2 (IntKind.wrap .i64 (i0 + 1)) w0)) /\
  ((decide (i0 < (l.n : Int))) = false -> R (.bool false) w0)
theorem v87w (l : Sl) (n_ : Int) (R : Value -> World -> Prop) (w : World) (h : v87v l n_ R w) : Cr 36 #[l.v, .int .i64 n_] w R :=
 fB (an := .s .o (.s (.s .o (.j [0, 1] [.s 5 (.int .i64)] (.s (.s .o (.s .o .o)) (.s (.s .o (.s (.s .o .o) .o)) .o)) .o)) (.s .o .o))) (args := [.sl l, .int .i64 n_]) h
def v91v (l : Sl) (n_ : Int) (R : Value -> World -> Prop) (w : World) : Prop :=
  Calls Try.prog 46 #[l.v, .int .i64 n_] w fun e0 w0 => ∃ l0 : Sl, e0 = (.returned l0.v) /\
   ∃ J0 : Nat -> Sl -> Int -> World -> Prop, ∃ k0 : Nat, J0 k0 Sl.nil 0 w0 /\
   ∀ k1 : Nat, ∀ l1 : Sl, ∀ i0 : Int, ∀ w1 : World, J0 k1 l1 i0 w1 -> ((decide (i0 < (l0.n : Int))) = true -> ∃ J1 : Sl -> World -> Prop, (∀ l2 : Sl, ∀ w2 : World, J1 l2 w2 -> ∃ k2 : Nat, k2 < k1 /\
     J0 k2 l2 (IntKind.wrap .i64 (i0 + 1)) w2) /\
    ∃ p0 : Addr, SlAt l0 i0 1 p0 /\
    ∃ i1 : Int, Cells w1 p0 [.int .i64 i1] /\
    ∃ p1 : Addr, SlAt l i1 5 p1 /\
    ∃ i2 : Int, Cells w1 (p1.add 0) [.int .i64 i2] /\
    Calls Try.prog 37 #[.int .i64 i2] w1 fun e1 w3 => ∃ b0 : Bool, e1 = (.returned (.bool b0)) /\
     ((!b0) = true -> ∃ p2 : Addr, SlAt l0 i0 1 p2 /\
      ∃ i3 : Int, Cells w3 p2 [.int .i64 i3] /\
      ∃ l3 : Sl, ∃ w4 : World, ((Instr.buildSlice 30 1 #[.mk 0 (.int .i64 i3)]).run Try.prog w3) = (.ok l3.v w4) /\
      ∃ l4 : Sl, ∃ w5 : World, ((Builtin.append_ #[30, 30] 30 #[l1.v, l3.v]).run Try.prog w4) = (.ok l4.v w5) /\
      J1 l4 w5) /\
     ((!b0) = false -> J1 l1 w3)) /\
   ((decide (i0 < (l0.n : Int))) = false -> R l1.v w1)
theorem v91w (l : Sl) (n_ : Int) (R : Value -> World -> Prop) (w : World) (h : v91v l n_ R w) : Cr 35 #[l.v, .int .i64 n_] w R :=
 fB (an := .s .o (.s .o (.s .o (.s (.s .o (.j [0, 6] [.s 5 .sl, .s 7 (.int .i64)] (.s (.s .o (.s .o .o)) (.j [0, 6, 7] [.s 5 .sl] (.s .o (.s .o (.s .o .o))) .o)) .o)) (.s .o .o))))) (args := [.sl l, .int .i64 n_]) h
def v70v (l : Sl) (n_ : Int) (R : Value -> World -> Prop) (w : World) : Prop :=
  ∃ J0 : Nat -> Sl -> Int -> World -> Prop, ∃ k0 : Nat, J0 k0 Sl.nil 0 w /\
  ∀ k1 : Nat, ∀ l0 : Sl, ∀ i0 : Int, ∀ w0 : World, J0 k1 l0 i0 w0 -> ((decide (i0 < (l.n : Int))) = true -> ∃ J1 : Sl -> World -> Prop, (∀ l1 : Sl, ∀ w1 : World, J1 l1 w1 -> ∃ k2 : Nat, k2 < k1 /\
    J0 k2 l1 (IntKind.wrap .i64 (i0 + 1)) w1) /\
   ∃ p0 : Addr, SlAt l i0 5 p0 /\
   ∃ i1 : Int, Cells w0 (p0.add 2) [.int .i64 i1] /\
   (((i1 == n_) && (decide (n_ >= 0))) = true -> ∃ l2 : Sl, ∃ w2 : World, ((Instr.buildSlice 30 1 #[.mk 0 (.int .i64 i0)]).run Try.prog w0) = (.ok l2.v w2) /\
    ∃ l3 : Sl, ∃ w3 : World, ((Builtin.append_ #[30, 30] 30 #[l0.v, l2.v]).run Try.prog w2) = (.ok l3.v w3) /\
    J1 l3 w3) /\
   (((i1 == n_) && (decide (n_ >= 0))) = false -> J1 l0 w0)) /\
  ((decide (i0 < (l.n : Int))) = false -> R l0.v w0)
theorem v70w (l : Sl) (n_ : Int) (R : Value -> World -> Prop) (w : World) (h : v70v l n_ R w) : Cr 46 #[l.v, .int .i64 n_] w R :=
 fB (an := .s .o (.s .o (.s (.s .o (.j [0, 1] [.s 5 .sl, .s 6 (.int .i64)] (.s (.s .o (.s .o .o)) (.j [0, 1, 6] [.s 5 .sl] (.s .o (.s .o .o)) .o)) .o)) (.s .o .o)))) (args := [.sl l, .int .i64 n_]) h
def v14v (a_ bb : Sl) (R : Value -> World -> Prop) (w : World) : Prop :=
  ∃ k0 : Nat, ((a_.c : Int) = (k0 : Int) /\
   k0 <= a_.c) /\
  ∃ J0 : Nat -> Int -> World -> Prop, ∃ k1 : Nat, J0 k1 0 w /\
  ∀ k2 : Nat, ∀ i0 : Int, ∀ w0 : World, J0 k2 i0 w0 -> ((decide (i0 < ((a_.cut 0 k0 a_.c 1).n : Int))) = true -> ∃ p0 : Addr, SlAt (a_.cut 0 k0 a_.c 1) i0 1 p0 /\
   ∃ k3 k4 : Nat, ∃ z0 : List Value, ∃ k5 : Nat, p0 = ⟨k3, k4, none⟩ /\
   Blk w0 k3 k5 z0 /\
   (k4 + 1) <= z0.length /\
   ∀ w1 : World, Only [k3] w0 w1 -> Blk w1 k3 k5 (splice z0 k4 [.int .i64 (-7)]) -> ∃ k6 : Nat, k6 < k2 /\
   J0 k6 (IntKind.wrap .i64 (i0 + 1)) w1) /\
  ((decide (i0 < ((a_.cut 0 k0 a_.c 1).n : Int))) = false -> ∃ k7 : Nat, ((bb.c : Int) = (k7 : Int) /\
   k7 <= bb.c) /\
  ∃ J1 : Nat -> Int -> World -> Prop, ∃ k8 : Nat, J1 k8 0 w0 /\
  ∀ k9 : Nat, ∀ i1 : Int, ∀ w2 : World, J1 k9 i1 w2 -> ((decide (i1 < ((bb.cut 0 k7 bb.c 1).n : Int))) = true -> ∃ p1 : Addr, SlAt (bb.cut 0 k7 bb.c 1) i1 1 p1 /\
   ∃ k10 k11 : Nat, ∃ z1 : List Value, ∃ k12 : Nat, p1 = ⟨k10, k11, none⟩ /\
   Blk w2 k10 k12 z1 /\
   (k11 + 1) <= z1.length /\
   ∀ w3 : World, Only [k10] w2 w3 -> Blk w3 k10 k12 (splice z1 k11 [.int .i64 9]) -> ∃ k13 : Nat, k13 < k9 /\
   J1 k13 (IntKind.wrap .i64 (i1 + 1)) w3) /\
  ((decide (i1 < ((bb.cut 0 k7 bb.c 1).n : Int))) = false -> ∃ J2 : Nat -> Int -> World -> Prop, ∃ k14 : Nat, J2 k14 0 w2 /\
  ∀ k15 : Nat, ∀ i2 : Int, ∀ w4 : World, J2 k15 i2 w4 -> ((decide (i2 < ((a_.cut 0 k0 a_.c 1).n : Int))) = true -> ∃ p2 : Addr, SlAt (a_.cut 0 k0 a_.c 1) i2 1 p2 /\
   ∃ i3 : Int, Cells w4 p2 [.int .i64 i3] /\
   ((i3 != (-7)) = true -> R (.bool false) w4) /\
   ((i3 != (-7)) = false -> ∃ k16 : Nat, k16 < k15 /\
   J2 k16 (IntKind.wrap .i64 (i2 + 1)) w4)) /\
  ((decide (i2 < ((a_.cut 0 k0 a_.c 1).n : Int))) = false -> R (.bool true) w4)))
theorem v14w (a_ bb : Sl) (R : Value -> World -> Prop) (w : World) (h : v14v a_ bb R w) : Cr 14 #[a_.v, bb.v] w R :=
 fB (an := .s .o (.s .o (.s (.s .o (.j [1, 5] [.s 6 (.int .i64)] (.s (.s .o (.s .o .o)) (.s .o .o)) .o)) (.s .o (.s (.s .o (.j [5, 7] [.s 8 (.int .i64)] (.s (.s .o (.s .o .o)) (.s .o .o)) .o)) (.s (.s .o (.j [5] [.s 9 (.int .i64)] (.s (.s .o (.s .o .o)) (.s (.s .o (.s (.s .o .o) .o)) .o)) .o)) (.s .o .o))))))) (args := [.sl a_, .sl bb]) h
def v88v (l active : Sl) (R : Value -> World -> Prop) (w : World) : Prop :=
  Calls Try.prog 36 #[active.v, .int .i64 0] w fun e0 w0 => ∃ b0 : Bool, e0 = (.returned (.bool b0)) /\
   ((!b0) = true -> R (.bool false) w0) /\
   ((!b0) = false -> ∃ J0 : Nat -> Int -> World -> Prop, ∃ k0 : Nat, J0 k0 0 w0 /\
   ∀ k1 : Nat, ∀ i0 : Int, ∀ w1 : World, J0 k1 i0 w1 -> ((decide (i0 < (active.n : Int))) = true -> ∃ p0 : Addr, SlAt active i0 1 p0 /\
    ∃ i1 : Int, Cells w1 p0 [.int .i64 i1] /\
    ∃ p1 : Addr, (((decide (i1 < 0)) || (decide (i1 >= (l.n : Int)))) = false -> (decide (i0 > 0)) = true -> SlAt active (IntKind.wrap .i64 (i0 - 1)) 1 p1) /\
    ∃ i2 : Int, (((decide (i1 < 0)) || (decide (i1 >= (l.n : Int)))) = false -> (decide (i0 > 0)) = true -> Cells w1 p1 [.int .i64 i2]) /\
    ((((decide (i1 < 0)) || (decide (i1 >= (l.n : Int)))) || ((decide (i0 > 0)) && (decide (i1 <= i2)))) = true -> R (.bool false) w1) /\
    ((((decide (i1 < 0)) || (decide (i1 >= (l.n : Int)))) || ((decide (i0 > 0)) && (decide (i1 <= i2)))) = false -> ∃ p2 : Addr, SlAt l i1 5 p2 /\
    ∃ i3 : Int, Cells w1 (p2.add 0) [.int .i64 i3] /\
    Calls Try.prog 37 #[.int .i64 i3] w1 fun e1 w2 => ∃ b1 : Bool, e1 = (.returned (.bool b1)) /\
     ∃ J1 : Bool -> World -> Prop, (∀ b2 : Bool, ∀ w3 : World, J1 b2 w3 -> ((b1 || (!b2)) = true -> R (.bool false) w3) /\
      ((b1 || (!b2)) = false -> Calls Try.prog 35 #[l.v, .int .i64 i1] w3 fun e2 w4 => ∃ l0 : Sl, e2 = (.returned l0.v) /\
       ∃ J2 : Nat -> Int -> Int -> World -> Prop, ∃ k2 : Nat, J2 k2 0 0 w4 /\
       ∀ k3 : Nat, ∀ i4 i5 : Int, ∀ w5 : World, J2 k3 i4 i5 w5 -> ((decide (i5 < (l0.n : Int))) = true -> ∃ J3 : Int -> World -> Prop, (∀ i6 : Int, ∀ w6 : World, J3 i6 w6 -> ∃ k4 : Nat, k4 < k3 /\
         J2 k4 i6 (IntKind.wrap .i64 (i5 + 1)) w6) /\
        ∃ p3 : Addr, SlAt l0 i5 1 p3 /\
        ∃ i7 : Int, Cells w5 p3 [.int .i64 i7] /\
        Calls Try.prog 36 #[active.v, .int .i64 i7] w5 fun e3 w7 => ∃ b3 : Bool, e3 = (.returned (.bool b3)) /\
         (b3 = true -> J3 (IntKind.wrap .i64 (i4 + 1)) w7) /\
         (b3 = false -> J3 i4 w7)) /\
       ((decide (i5 < (l0.n : Int))) = false -> ∃ p4 : Addr, SlAt l i1 5 p4 /\
       ∃ i8 : Int, Cells w5 (p4.add 0) [.int .i64 i8] /\
       ∃ p5 : Addr, (((i8 == 2) && (i4 != (l0.n : Int))) = false -> SlAt l i1 5 p5) /\
       ∃ i9 : Int, (((i8 == 2) && (i4 != (l0.n : Int))) = false -> Cells w5 (p5.add 0) [.int .i64 i9]) /\
       ((((i8 == 2) && (i4 != (l0.n : Int))) || ((i9 == 1) && (i4 != (if (l0.n : Int) < 1 then (l0.n : Int) else 1)))) = true -> R (.bool false) w5) /\
       ((((i8 == 2) && (i4 != (l0.n : Int))) || ((i9 == 1) && (i4 != (if (l0.n : Int) < 1 then (l0.n : Int) else 1)))) = false -> ∃ k5 : Nat, k5 < k1 /\
       J0 k5 (IntKind.wrap .i64 (i0 + 1)) w5)))) /\
     ((i1 == 0) = true -> J1 true w2) /\
     ((i1 == 0) = false -> ∃ p6 : Addr, SlAt l i1 5 p6 /\
     ∃ i10 : Int, Cells w2 (p6.add 2) [.int .i64 i10] /\
     Calls Try.prog 36 #[active.v, .int .i64 i10] w2 fun e4 w8 => ∃ b4 : Bool, e4 = (.returned (.bool b4)) /\
      J1 b4 w8))) /\
   ((decide (i0 < (active.n : Int))) = false -> R (.bool true) w1))
theorem v88w (l active : Sl) (R : Value -> World -> Prop) (w : World) (h : v88v l active R w) : Cr 22 #[l.v, active.v] w R :=
 fB (an := .s .o (.s .o (.s (.s .o (.s (.s .o .o) .o)) (.s (.s .o (.j [0, 1] [.s 6 (.int .i64)] (.s (.s .o (.s .o .o)) (.s (.s .o (.s (.s .o (.s (.s .o .o) .o)) (.s .o (.s (.j [0, 1, 6, 7, 8] [.s 9 .bool] .o .o) (.s (.s .o (.s (.s .o .o) .o)) (.s .o (.s .o (.s (.s .o (.j [0, 1, 6, 7, 10] [.s 11 (.int .i64), .s 12 (.int .i64)] (.s (.s .o (.s .o .o)) (.j [0, 1, 6, 7, 10, 12] [.s 11 (.int .i64)] (.s .o (.s .o (.s .o .o))) .o)) .o)) (.s .o (.s (.s .o .o) .o)))))))))) .o)) .o)) (.s .o .o))))) (args := [.sl l, .sl active]) h
def v16v (c : Sl) (c1 : Int) (c2 c3 c4 : ByteArray) (c5 c6 c7 c8 : Sl) (c9 k : Int) (active : Sl) (R : Value -> World -> Prop) (w : World) : Prop :=
  ∀ k0 : Nat, ∀ w0 : World, w.heap.size <= k0 -> k0 < w0.heap.size -> Only [] w w0 -> Calls Try.prog 5 #[] w0 fun e0 w1 => ∃ b0 : Bool, e0 = (.returned (.bool b0)) /\
   Same [k0] w0 w1 /\
   Calls Try.prog 6 #[.agg #[c.v, .int .i64 c1, .string c2, .string c3, .string c4, c5.v, c6.v, c7.v, c8.v, .int .i64 c9]] w1 fun e1 w2 => ∃ l0 : Sl, e1 = (.returned l0.v) /\
    Same [k0] w1 w2 /\
    (((!b0) || ((l0.n : Int) == 0)) = true -> R (.bool b0) w2) /\
    (((!b0) || ((l0.n : Int) == 0)) = false -> Calls Try.prog 7 #[l0.v, .int .i64 k] w2 fun e2 w3 => ∃ l1 : Sl, ∃ b1 : Bool, e2 = (.returned (.tuple #[l1.v, .bool b1])) /\
     Same [k0] w2 w3 /\
     Calls Try.prog 8 #[l0.v, .int .i64 k] w3 fun e3 w4 => ∃ l2 : Sl, ∃ b2 : Bool, e3 = (.returned (.tuple #[l2.v, .bool b2])) /\
      Same [k0] w3 w4 /\
      Calls Try.prog 9 #[l0.v, active.v] w4 fun e4 w5 => ∃ i0 : Int, ∃ b3 : Bool, e4 = (.returned (.tuple #[.int .i64 i0, .bool b3])) /\
       Same [k0] w4 w5 /\
       Calls Try.prog 10 #[l0.v, active.v] w5 fun e5 w6 => ∃ i1 : Int, ∃ b4 : Bool, e5 = (.returned (.tuple #[.int .i64 i1, .bool b4])) /\
        Same [k0] w5 w6 /\
        ∃ J0 : Bool -> World -> Prop, (∀ b5 : Bool, ∀ w7 : World, J0 b5 w7 -> ∃ J1 : Bool -> World -> Prop, (∀ b6 : Bool, ∀ w8 : World, J1 b6 w8 -> R (.bool b6) w8) /\
         (b5 = true -> Calls Try.prog 14 #[l1.v, Sl.nil.v] w7 fun e6 w9 => ∃ b7 : Bool, e6 = (.returned (.bool b7)) /\
           Same [k0] w7 w9 /\
           J1 b7 w9) /\
         (b5 = false -> J1 false w7)) /\
        Calls Try.prog 11 #[l1.v, l2.v] w6 fun e7 w10 => ∃ b8 : Bool, e7 = (.returned (.bool b8)) /\
         Same [k0] w6 w10 /\
         ((((b8 && (b1 == b2)) && (i0 == i1)) && (b3 == b4)) = true -> Calls Try.prog 12 #[l0.v] w10 fun e8 w11 => ∃ i2 : Int, e8 = (.returned (.int .i64 i2)) /\
           Same [k0] w10 w11 /\
           Calls Try.prog 13 #[l0.v] w11 fun e9 w12 => ∃ i3 : Int, e9 = (.returned (.int .i64 i3)) /\
            Same [k0] w11 w12 /\
            J0 (i2 == i3) w12) /\
         ((((b8 && (b1 == b2)) && (i0 == i1)) && (b3 == b4)) = false -> J0 false w10))
theorem v16w (c : Sl) (c1 : Int) (c2 c3 c4 : ByteArray) (c5 c6 c7 c8 : Sl) (c9 k : Int) (active : Sl) (R : Value -> World -> Prop) (w : World) (h : v16v c c1 c2 c3 c4 c5 c6 c7 c8 c9 k active R w) : Cr 3 #[.agg #[c.v, .int .i64 c1, .string c2, .string c3, .string c4, c5.v, c6.v, c7.v, c8.v, .int .i64 c9], .int .i64 k, active.v] w R :=
 fB (an := .s .o (.s .o (.s .o (.s (.s .o (.s (.s .o .o) .o)) (.s .o (.s .o (.s .o (.s .o (.s (.j [3, 9] [.s 17 .bool] .o .o) (.s (.j [3] [.s 6 .bool] .o .o) .o)))))))))) (args := [.agg (ofL [.sl c, .int .i64 c1, .str c2, .str c3, .str c4, .sl c5, .sl c6, .sl c7, .sl c8, .int .i64 c9]), .int .i64 k, .sl active]) h
def v15v (c : Sl) (c1 : Int) (c2 c3 c4 : ByteArray) (c5 c6 c7 c8 : Sl) (c9 k j : Int) (R : Value -> World -> Prop) (w : World) : Prop :=
  ∀ k0 : Nat, ∀ w0 : World, w.heap.size <= k0 -> k0 < w0.heap.size -> Only [] w w0 -> Calls Try.prog 5 #[] w0 fun e0 w1 => ∃ b0 : Bool, e0 = (.returned (.bool b0)) /\
   Same [k0] w0 w1 /\
   Calls Try.prog 6 #[.agg #[c.v, .int .i64 c1, .string c2, .string c3, .string c4, c5.v, c6.v, c7.v, c8.v, .int .i64 c9]] w1 fun e1 w2 => ∃ l0 : Sl, e1 = (.returned l0.v) /\
    Same [k0] w1 w2 /\
    (((!b0) || ((l0.n : Int) == 0)) = true -> R (.bool b0) w2) /\
    (((!b0) || ((l0.n : Int) == 0)) = false -> Calls Try.prog 12 #[l0.v] w2 fun e2 w3 => ∃ i0 : Int, e2 = (.returned (.int .i64 i0)) /\
     Same [k0] w2 w3 /\
     Calls Try.prog 7 #[l0.v, .int .i64 k] w3 fun e3 w4 => ∃ l1 : Sl, ∃ b1 : Bool, e3 = (.returned (.tuple #[l1.v, .bool b1])) /\
      Same [k0] w3 w4 /\
      Calls Try.prog 7 #[l0.v, .int .i64 j] w4 fun e4 w5 => ∃ l2 : Sl, ∃ b2 : Bool, e4 = (.returned (.tuple #[l2.v, .bool b2])) /\
       Same [k0] w4 w5 /\
       ((!(b1 == ((decide (k >= 0)) && (decide (k < i0))))) = true -> R (.bool false) w5) /\
       ((!(b1 == ((decide (k >= 0)) && (decide (k < i0))))) = false -> ((!b1) = true -> R (.bool ((l1.n : Int) == 0)) w5) /\
       ((!b1) = false -> Calls Try.prog 9 #[l0.v, l1.v] w5 fun e5 w6 => ∃ i1 : Int, ∃ b3 : Bool, e5 = (.returned (.tuple #[.int .i64 i1, .bool b3])) /\
        Same [k0] w5 w6 /\
        Calls Try.prog 11 #[l1.v, l2.v] w6 fun e6 w7 => ∃ b4 : Bool, e6 = (.returned (.bool b4)) /\
         Same [k0] w6 w7 /\
         Calls Try.prog 15 #[l0.v, l1.v] w7 fun e7 w8 => ∃ b5 : Bool, e7 = (.returned (.bool b5)) /\
          Same [k0] w7 w8 /\
          R (.bool (((b5 && b3) && (i1 == k)) && ((!b2) || (b4 == (k == j))))) w8)))
theorem v15w (c : Sl) (c1 : Int) (c2 c3 c4 : ByteArray) (c5 c6 c7 c8 : Sl) (c9 k j : Int) (R : Value -> World -> Prop) (w : World) (h : v15v c c1 c2 c3 c4 c5 c6 c7 c8 c9 k j R w) : Cr 4 #[.agg #[c.v, .int .i64 c1, .string c2, .string c3, .string c4, c5.v, c6.v, c7.v, c8.v, .int .i64 c9], .int .i64 k, .int .i64 j] w R :=
 fB (an := .s .o (.s .o (.s .o (.s (.s .o (.s (.s .o .o) .o)) (.s .o (.s .o (.s .o (.s (.s .o (.s (.s .o .o) .o)) (.s (.s .o (.s (.s .o .o) .o)) (.s .o (.s .o (.s .o .o)))))))))))) (args := [.agg (ofL [.sl c, .int .i64 c1, .str c2, .str c3, .str c4, .sl c5, .sl c6, .sl c7, .sl c8, .int .i64 c9]), .int .i64 k, .int .i64 j]) h
def v89v (l : Sl) (k : Int) (R : Value -> World -> Prop) (w : World) : Prop :=
  Calls Try.prog 13 #[l.v] w fun e0 w0 => ∃ i0 : Int, e0 = (.returned (.int .i64 i0)) /\
   (((decide (k < 0)) || (decide (k >= i0))) = true -> R (.tuple #[Sl.nil.v, .bool false]) w0) /\
   (((decide (k < 0)) || (decide (k >= i0))) = false -> Calls Try.prog 20 #[l.v, .int .i64 0, .int .i64 k] w0 fun e1 w1 => ∃ l0 : Sl, e1 = (.returned l0.v) /\
    R (.tuple #[l0.v, .bool true]) w1)
theorem v89w (l : Sl) (k : Int) (R : Value -> World -> Prop) (w : World) (h : v89v l k R w) : Cr 8 #[l.v, .int .i64 k] w R :=
 fB (an := .s .o (.s .o (.s (.s .o (.s (.s .o .o) .o)) (.s .o .o)))) (args := [.sl l, .int .i64 k]) h
def v90v (l active : Sl) (R : Value -> World -> Prop) (w : World) : Prop :=
  Calls Try.prog 22 #[l.v, active.v] w fun e0 w0 => ∃ b0 : Bool, e0 = (.returned (.bool b0)) /\
   ((!b0) = true -> R (.tuple #[.int .i64 0, .bool false]) w0) /\
   ((!b0) = false -> Calls Try.prog 23 #[l.v, .int .i64 0, active.v] w0 fun e1 w1 => ∃ i0 : Int, e1 = (.returned (.int .i64 i0)) /\
    R (.tuple #[.int .i64 i0, .bool true]) w1)
theorem v90w (l active : Sl) (R : Value -> World -> Prop) (w : World) (h : v90v l active R w) : Cr 10 #[l.v, active.v] w R :=
 fB (an := .s .o (.s .o (.s (.s .o (.s (.s .o .o) .o)) (.s .o .o)))) (args := [.sl l, .sl active]) h
def v86v (l : Sl) (R : Value -> World -> Prop) (w : World) : Prop :=
  Calls Try.prog 24 #[l.v, .int .i64 0] w fun e0 w0 => ∃ i0 : Int, e0 = (.returned (.int .i64 i0)) /\
   R (.int .i64 i0) w0
theorem v86w (l : Sl) (R : Value -> World -> Prop) (w : World) (h : v86v l R w) : Cr 13 #[l.v] w R :=
 fB (an := .s .o (.s .o .o)) (args := [.sl l]) h
def v92v (l : Sl) (n_ k : Int) (R : Value -> World -> Prop) (w : World) : Prop :=
  ∃ l0 : Sl, ∃ w0 : World, ((Instr.buildSlice 30 1 #[.mk 0 (.int .i64 n_)]).run Try.prog w) = (.ok l0.v w0) /\
  Calls Try.prog 35 #[l.v, .int .i64 n_] w0 fun e0 w1 => ∃ l1 : Sl, e0 = (.returned l1.v) /\
   ∃ p0 : Addr, SlAt l n_ 5 p0 /\
   ∃ i0 : Int, Cells w1 (p0.add 0) [.int .i64 i0] /\
   ((i0 == 1) = true -> ∃ J0 : Nat -> Int -> Int -> World -> Prop, ∃ k0 : Nat, J0 k0 k 0 w1 /\
    ∀ k1 : Nat, ∀ i1 i2 : Int, ∀ w2 : World, J0 k1 i1 i2 w2 -> ((decide (i2 < (l1.n : Int))) = true -> ∃ p1 : Addr, SlAt l1 i2 1 p1 /\
     ∃ i3 : Int, Cells w2 p1 [.int .i64 i3] /\
     Calls Try.prog 24 #[l.v, .int .i64 i3] w2 fun e1 w3 => ∃ i4 : Int, e1 = (.returned (.int .i64 i4)) /\
      ((decide (i1 < i4)) = true -> ∃ p2 : Addr, SlAt l1 i2 1 p2 /\
       ∃ i5 : Int, Cells w3 p2 [.int .i64 i5] /\
       Calls Try.prog 20 #[l.v, .int .i64 i5, .int .i64 i1] w3 fun e2 w4 => ∃ l2 : Sl, e2 = (.returned l2.v) /\
        ∃ l3 : Sl, ∃ w5 : World, ((Builtin.append_ #[30, 30] 30 #[l0.v, l2.v]).run Try.prog w4) = (.ok l3.v w5) /\
        R l3.v w5) /\
      ((decide (i1 < i4)) = false -> ∃ k2 : Nat, k2 < k1 /\
      J0 k2 (IntKind.wrap .i64 (i1 - i4)) (IntKind.wrap .i64 (i2 + 1)) w3)) /\
    ((decide (i2 < (l1.n : Int))) = false -> R l0.v w2)) /\
   ((i0 == 1) = false -> ∃ J1 : Nat -> Int -> Sl -> Int -> World -> Prop, ∃ k3 : Nat, J1 k3 k Sl.nil (IntKind.wrap .i64 ((l1.n : Int) - 1)) w1 /\
   ∀ k4 : Nat, ∀ i6 : Int, ∀ l4 : Sl, ∀ i7 : Int, ∀ w6 : World, J1 k4 i6 l4 i7 w6 -> ((decide (i7 >= 0)) = true -> ∃ p3 : Addr, SlAt l1 i7 1 p3 /\
    ∃ i8 : Int, Cells w6 p3 [.int .i64 i8] /\
    Calls Try.prog 24 #[l.v, .int .i64 i8] w6 fun e3 w7 => ∃ i9 : Int, e3 = (.returned (.int .i64 i9)) /\
     ∃ p4 : Addr, SlAt l1 i7 1 p4 /\
     ∀ w8 : World, Only [] w7 w8 -> ∃ i10 : Int, Cells w8 p4 [.int .i64 i10] /\
     i9 ≠ 0 /\
     Calls Try.prog 20 #[l.v, .int .i64 i10, .int .i64 (i6.tmod i9)] w8 fun e4 w9 => ∃ l5 : Sl, e4 = (.returned l5.v) /\
      ∃ l6 : Sl, ∃ w10 : World, ((Builtin.append_ #[30, 30] 30 #[l5.v, l4.v]).run Try.prog w9) = (.ok l6.v w10) /\
      i9 ≠ 0 /\
      ∃ k5 : Nat, k5 < k4 /\
      J1 k5 (IntKind.wrap .i64 (i6.tdiv i9)) l6 (IntKind.wrap .i64 (i7 - 1)) w10) /\
   ((decide (i7 >= 0)) = false -> ∃ l7 : Sl, ∃ w11 : World, ((Builtin.append_ #[30, 30] 30 #[l0.v, l4.v]).run Try.prog w6) = (.ok l7.v w11) /\
   R l7.v w11))
theorem v92w (l : Sl) (n_ k : Int) (R : Value -> World -> Prop) (w : World) (h : v92v l n_ k R w) : Cr 20 #[l.v, .int .i64 n_, .int .i64 k] w R :=
 fB (an := .s .o (.s .o (.s .o (.s (.s .o (.s (.s (.s .o (.j [0, 7, 8] [.s 2 (.int .i64), .s 9 (.int .i64)] (.s (.s .o (.s .o .o)) (.s (.s .o (.s (.s .o (.s (.s .o .o) .o)) .o)) .o)) .o)) (.s .o .o)) .o)) (.s .o (.s (.s .o (.j [0, 7, 8] [.s 2 (.int .i64), .s 11 .sl, .s 12 (.int .i64)] (.s (.s .o (.s .o .o)) (.s (.s .o (.s .o .o)) .o)) .o)) (.s .o .o))))))) (args := [.sl l, .int .i64 n_, .int .i64 k]) h
def v93v (l : Sl) (n_ : Int) (active : Sl) (R : Value -> World -> Prop) (w : World) : Prop :=
  Calls Try.prog 35 #[l.v, .int .i64 n_] w fun e0 w0 => ∃ l0 : Sl, e0 = (.returned l0.v) /\
   ∃ J0 : Nat -> Int -> Int -> World -> Prop, ∃ k0 : Nat, J0 k0 0 0 w0 /\
   ∀ k1 : Nat, ∀ i0 i1 : Int, ∀ w1 : World, J0 k1 i0 i1 w1 -> ((decide (i1 < (l0.n : Int))) = true -> ∃ J1 : Int -> World -> Prop, (∀ i2 : Int, ∀ w2 : World, J1 i2 w2 -> ∃ k2 : Nat, k2 < k1 /\
     J0 k2 i2 (IntKind.wrap .i64 (i1 + 1)) w2) /\
    ∃ p0 : Addr, SlAt l0 i1 1 p0 /\
    ∃ i3 : Int, Cells w1 p0 [.int .i64 i3] /\
    Calls Try.prog 24 #[l.v, .int .i64 i3] w1 fun e1 w3 => ∃ i4 : Int, e1 = (.returned (.int .i64 i4)) /\
     ∃ p1 : Addr, SlAt l0 i1 1 p1 /\
     ∃ i5 : Int, Cells w3 p1 [.int .i64 i5] /\
     Calls Try.prog 36 #[active.v, .int .i64 i5] w3 fun e2 w4 => ∃ b0 : Bool, e2 = (.returned (.bool b0)) /\
      ∃ p2 : Addr, SlAt l n_ 5 p2 /\
      ∃ i6 : Int, Cells w4 (p2.add 0) [.int .i64 i6] /\
      ((i6 == 2) = true -> ∃ p3 : Addr, SlAt l0 i1 1 p3 /\
       ∃ i7 : Int, Cells w4 p3 [.int .i64 i7] /\
       Calls Try.prog 23 #[l.v, .int .i64 i7, active.v] w4 fun e3 w5 => ∃ i8 : Int, e3 = (.returned (.int .i64 i8)) /\
        J1 (IntKind.wrap .i64 ((IntKind.wrap .i64 (i0 * i4)) + i8)) w5) /\
      ((i6 == 2) = false -> (b0 = true -> ∃ p4 : Addr, SlAt l0 i1 1 p4 /\
       ∃ i9 : Int, Cells w4 p4 [.int .i64 i9] /\
       Calls Try.prog 23 #[l.v, .int .i64 i9, active.v] w4 fun e4 w6 => ∃ i10 : Int, e4 = (.returned (.int .i64 i10)) /\
        R (.int .i64 (IntKind.wrap .i64 (i0 + i10))) w6) /\
      (b0 = false -> J1 (IntKind.wrap .i64 (i0 + i4)) w4))) /\
   ((decide (i1 < (l0.n : Int))) = false -> R (.int .i64 i0) w1)
theorem v93w (l : Sl) (n_ : Int) (active : Sl) (R : Value -> World -> Prop) (w : World) (h : v93v l n_ active R w) : Cr 23 #[l.v, .int .i64 n_, active.v] w R :=
 fB (an := .s .o (.s .o (.s .o (.s (.s .o (.j [0, 1, 2, 7] [.s 8 (.int .i64), .s 9 (.int .i64)] (.s (.s .o (.s .o .o)) (.j [0, 1, 2, 7, 9] [.s 8 (.int .i64)] (.s .o (.s .o (.s .o (.s .o (.s .o (.s (.s .o .o) .o)))))) .o)) .o)) (.s .o .o))))) (args := [.sl l, .int .i64 n_, .sl active]) h
def v94v (l : Sl) (n_ : Int) (R : Value -> World -> Prop) (w : World) : Prop :=
  Calls Try.prog 35 #[l.v, .int .i64 n_] w fun e0 w0 => ∃ l0 : Sl, e0 = (.returned l0.v) /\
   (((l0.n : Int) == 0) = true -> R (.int .i64 1) w0) /\
   (((l0.n : Int) == 0) = false -> ∃ J0 : Nat -> Int -> Int -> Int -> World -> Prop, ∃ k0 : Nat, J0 k0 0 1 0 w0 /\
   ∀ k1 : Nat, ∀ i0 i1 i2 : Int, ∀ w1 : World, J0 k1 i0 i1 i2 w1 -> ((decide (i2 < (l0.n : Int))) = true -> ∃ p0 : Addr, SlAt l0 i2 1 p0 /\
    ∃ i3 : Int, Cells w1 p0 [.int .i64 i3] /\
    Calls Try.prog 24 #[l.v, .int .i64 i3] w1 fun e1 w2 => ∃ i4 : Int, e1 = (.returned (.int .i64 i4)) /\
     ∃ k2 : Nat, k2 < k1 /\
     J0 k2 (IntKind.wrap .i64 (i0 + i4)) (IntKind.wrap .i64 (i1 * i4)) (IntKind.wrap .i64 (i2 + 1)) w2) /\
   ((decide (i2 < (l0.n : Int))) = false -> ∃ p1 : Addr, SlAt l n_ 5 p1 /\
   ∃ i5 : Int, Cells w1 (p1.add 0) [.int .i64 i5] /\
   ((i5 == 2) = true -> R (.int .i64 i1) w1) /\
   ((i5 == 2) = false -> R (.int .i64 i0) w1)))
theorem v94w (l : Sl) (n_ : Int) (R : Value -> World -> Prop) (w : World) (h : v94v l n_ R w) : Cr 24 #[l.v, .int .i64 n_] w R :=
 fB (an := .s .o (.s .o (.s (.s .o (.s (.s .o .o) .o)) (.s .o (.s .o (.s (.s .o (.j [0, 1, 5] [.s 6 (.int .i64), .s 7 (.int .i64), .s 8 (.int .i64)] (.s (.s .o (.s .o .o)) (.s (.s .o (.s .o .o)) .o)) .o)) (.s (.s .o (.s (.s .o .o) .o)) (.s .o .o)))))))) (args := [.sl l, .int .i64 n_]) h
end Go.Proofs.Ytddfmhccaapgjaa.Vc
namespace Go.Proofs.Ytddfmhccaapgjaa.Vc
open Go Go.RowKit Go.Kt
set_option linter.unusedSimpArgs false
set_option linter.unusedVariables false
set_option maxRecDepth 100000
attribute [local irreducible] wpList
set_option maxHeartbeats 40000000
def v4v (l active : Sl) (R : Value -> World -> Prop) (w : World) : Prop :=
 ∀ (b : Nat) (b1 : Nat) (w_1 : World), w.heap.size <= b -> b < w_1.heap.size -> w.heap.size <= b1 -> b1 < w_1.heap.size -> Only [] w w_1 ->
 ∃ ad : Addr, (((↑(Sl.n active) : Int) == 0) = false -> SlAt active 0 1 ad) /\
 ∃ x1 : Int, (((↑(Sl.n active) : Int) == 0) = false -> Cells w_1 ad [.int .i64 x1]) /\
 (((((↑(Sl.n active) : Int) == 0) || (x1 != 0)) = true ->
 R (.bool false) w_1) /\
 ((((↑(Sl.n active) : Int) == 0) || (x1 != 0)) = false ->
 (1 <= (Sl.n active) /\ (Sl.n active) <= (Sl.c active) /\ (Sl.c active) <= Sl.c active) /\
 ∀ (b2 : Nat) (b3 : Nat) (w_5 : World), w_1.heap.size <= b2 -> b2 < w_5.heap.size -> w_1.heap.size <= b3 -> b3 < w_5.heap.size -> Only [] w_1 w_5 -> Blk w_5 b 32 [Sl.v l] -> Blk w_5 b1 30 [Sl.v active] -> Blk w_5 b2 3 [.int .i64 (↑(Sl.n active) : Int)] -> Blk w_5 b3 59 [.func (.func 25) #[] #[.pointer (some ⟨b2, 0, none⟩), .pointer (some ⟨b, 0, none⟩), .pointer (some ⟨b1, 0, none⟩), .pointer (some ⟨b3, 0, none⟩)]] ->
 ∃ (I_ : Nat -> Bool -> Int -> World -> Prop) (nv1 : Nat), I_ nv1 true 0 w_5 /\
 ∀ (nv : Nat) (rises : Bool) (t25 : Int) (w_6 : World), I_ nv rises t25 w_6 ->
 (((decide (t25 < (↑(Sl.n (Sl.cut active 1 (Sl.n active) (Sl.c active) 1)) : Int))) = true ->
 ∃ ad1 : Addr, SlAt (Sl.cut active 1 (Sl.n active) (Sl.c active) 1) t25 1 ad1 /\
 ∀ (_ : Blk w_6 b 32 [Sl.v l]), ∀ (_ : Blk w_6 b1 30 [Sl.v active]), ∀ (_ : Blk w_6 b2 3 [.int .i64 (↑(Sl.n active) : Int)]), ∀ (_ : Blk w_6 b3 59 [.func (.func 25) #[] #[.pointer (some ⟨b2, 0, none⟩), .pointer (some ⟨b, 0, none⟩), .pointer (some ⟨b1, 0, none⟩), .pointer (some ⟨b3, 0, none⟩)]]),
 ∃ x2 : Int, Cells w_6 ad1 [.int .i64 x2] /\
 ∃ ad2 : Addr, (rises = true -> SlAt active t25 1 ad2) /\
 ∃ x3 : Int, (rises = true -> Cells w_6 ad2 [.int .i64 x3]) /\
 ∃ nv2 : Nat, nv2 < nv /\ I_ nv2 (rises && (decide (x2 > x3))) (IntKind.i64.wrap (t25 + 1)) w_6) /\
 ((decide (t25 < (↑(Sl.n (Sl.cut active 1 (Sl.n active) (Sl.c active) 1)) : Int))) = false ->
 ∀ (_ : Blk w_6 b 32 [Sl.v l]), ∀ (_ : Blk w_6 b1 30 [Sl.v active]), ∀ (_ : Blk w_6 b2 3 [.int .i64 (↑(Sl.n active) : Int)]), ∀ (_ : Blk w_6 b3 59 [.func (.func 25) #[] #[.pointer (some ⟨b2, 0, none⟩), .pointer (some ⟨b, 0, none⟩), .pointer (some ⟨b1, 0, none⟩), .pointer (some ⟨b3, 0, none⟩)]]),
 ∃ J_ : Bool -> World -> Prop, (∀ (t4 : Bool) (w_7 : World), J_ t4 w_7 ->
 ∀ (_ : Blk w_7 b 32 [Sl.v l]), ∀ (_ : Blk w_7 b1 30 [Sl.v active]), ∀ (_ : Blk w_7 b3 59 [.func (.func 25) #[] #[.pointer (some ⟨b2, 0, none⟩), .pointer (some ⟨b, 0, none⟩), .pointer (some ⟨b1, 0, none⟩), .pointer (some ⟨b3, 0, none⟩)]]),
 R (.bool t4) w_7) /\
 (((rises = true ->
 Calls Try.prog 25 #[.int .i64 0, .pointer (some ⟨b2, 0, none⟩), .pointer (some ⟨b, 0, none⟩), .pointer (some ⟨b1, 0, none⟩), .pointer (some ⟨b3, 0, none⟩)] w_6 (fun e w_8 => ∃ x4 : Bool, e = .returned (.bool x4) /\ Same [b, b1, b3] w_6 w_8 /\ ∃ vb2 : Int, Blk w_8 b2 3 [.int .i64 vb2] /\
 J_ (x4 && (vb2 == 0)) w_8)) /\
 (rises = false ->
 J_ false w_6)))))))
theorem v4w (l active : Sl) (R : Value -> World -> Prop) (w : World) (h : v4v l active R w) :
  Calls Try.prog 15 #[Sl.v l, Sl.v active] w fun e w' => ∃ v, e = .returned v /\ R v w' := by
 unfold v4v at h
 refine callsF (l := [(0, Sl.v l), (1, Sl.v active)]) Try.func15 rfl Try.ntmps15 (Nat.le_of_ble_eq_true rfl) rfl (wp_seq (wp_region_lit (st_one (wn rfl) ?_)))
 refine O_box (zs := [Sl.v l]) rfl (fun b w_ hn hO hb => ?_)
 have hn_b : w.heap.size <= b := hn
 have hA : Only [] w w_ := hO
 refine st_one (wn rfl) ?_
 refine O_box (zs := [Sl.v active]) rfl (fun b1 w_1 hn1 hO1 hb1 => ?_)
 have hne : b1 ≠ b := by have := hb.lt; omega
 have hn_b1 : w.heap.size <= b1 := Nat.le_trans hA.size hn1
 have hA1 := hA.tr0 hO1
 have hb2 := hO1.blk hb (by simp)
 refine sv (R_as rfl) (wpList_nil (then_normal (wp_seq (wp_seq ?_))))
 replace h := h b b1 w_1 hn_b hb2.lt hn_b1 hb1.lt hA1
 obtain ⟨ad, hx, h⟩ := h
 obtain ⟨x1, hx1, h⟩ := h
 refine wp_region_lit (sv (v := Sl.v active) (R_load1 (Try.isAgg30 _) rfl (hb1.cell 0)) (sv (R_len (s := active) (Try.runUnderlying30 _) rfl) (sv (R_eql rfl rfl) (sv (R_mv rfl) ?_))))
 refine cutF 5 49 [(2, .pointer (some ⟨b, 0, none⟩)), (3, .pointer (some ⟨b1, 0, none⟩)), (18, .bool (((↑(Sl.n active) : Int) == 0) || (x1 != 0)))] ?_ ?_
 · simp only [List.take_succ_cons, List.take_zero]
   rcases Bool.eq_false_or_eq_true ((↑(Sl.n active) : Int) == 0) with hg | hg
   · refine sno (wtF rfl rfl rfl (bg hg) rfl) (sno (wtF rfl rfl rfl (bg hg) rfl) (sno (wtF rfl rfl rfl (bg hg) rfl) (sno (wtF rfl rfl rfl (bg hg) rfl) (sv (R_pickT (bg hg) rfl) (wpList_nil ?_)))))
     exact cutEnd ⟨rfl, rfl, (by rw [hg]; rfl), trivial⟩
   · refine svg (v := Sl.v active) (wtF rfl rfl rfl (bg hg) rfl) (R_load1 (Try.isAgg30 _) rfl (hb1.cell 0)) (svg (v := .pointer (some ad)) (wtF rfl rfl rfl (bg hg) rfl) (R_indexS (s := active) (Try.runUnderlying30 _) (Try.sizeOf3 _) rfl rfl (hx hg)) (svg (v := .int .i64 x1) (wtF rfl rfl rfl (bg hg) rfl) (R_load1 (Try.isAgg3 _) rfl (Cells.one (hx1 hg))) (svg (wtF rfl rfl rfl (bg hg) rfl) (R_neq rfl rfl) (sv (R_pickF (bg hg) rfl) (wpList_nil ?_)))))
     exact cutEnd ⟨rfl, rfl, (by rw [hg]; rfl), trivial⟩
 intro us
 simp only [List.drop_succ_cons, List.drop_zero]
 refine wpList_nil (then_normal ?_)
 refine C_split (t := (((↑(Sl.n active) : Int) == 0) || (x1 != 0))) rfl (fun hc => ?_) (fun hc => ?_)
 · replace h := h.1 hc
   refine wp_seq (wp_region_lit (sv (R_as rfl) (wpList_nil (then_normal (wp_ret (then_ret ?_))))))
   exact ret1 Try.results15 ⟨rfl, trivial⟩ h
 · replace h := h.2 hc
   refine wp_skip (then_normal (wp_seq (wp_region_lit (sv (v := Sl.v active) (R_load1 (Try.isAgg30 _) rfl (hb1.cell 0)) (sv (R_len (s := active) (Try.runUnderlying30 _) rfl) (st_one (wn rfl) ?_))))))
   refine O_alloc (zs := [.int .i64 0]) (Try.zeroValue3 _) rfl (fun b2 w_2 hn2 hO2 hb3 => ?_)
   have hne1 : b2 ≠ b := by have := hb2.lt; omega
   have hne2 : b2 ≠ b1 := by have := hb1.lt; omega
   have hn_b2 : w_1.heap.size <= b2 := hn2
   have hA2 : Only [] w_1 w_2 := hO2
   have hb4 := hO2.blk hb2 (by simp)
   have hb5 := hO2.blk hb1 (by simp)
   refine st_one (wn rfl) ?_
   refine O_store (vs := [.int .i64 (↑(Sl.n active) : Int)]) (cs' := [.int .i64 (↑(Sl.n active) : Int)]) (Try.sizeOf3 _) rfl rfl rfl rfl hb3 (Nat.le_of_ble_eq_true rfl) rfl (fun w_3 hO3 hb6 => ?_)
   have hA3 := hA2.new hO3 hn_b2
   have hb7 := hO3.blk hb4 (by simpa using (Ne.symm hne1))
   have hb8 := hO3.blk hb5 (by simpa using (Ne.symm hne2))
   refine wpList_nil (then_normal (wp_seq (wp_region_lit (st_one (wn rfl) ?_))))
   refine O_alloc (zs := [.nilFunc]) (Try.zeroValue59 _) rfl (fun b3 w_4 hn3 hO4 hb9 => ?_)
   have hne3 : b3 ≠ b := by have := hb7.lt; omega
   have hne4 : b3 ≠ b1 := by have := hb8.lt; omega
   have hne5 : b3 ≠ b2 := by have := hb6.lt; omega
   have hn_b3 : w_1.heap.size <= b3 := Nat.le_trans hA3.size hn3
   have hA4 := hA3.tr0 hO4
   have hb10 := hO4.blk hb7 (by simp)
   have hb11 := hO4.blk hb8 (by simp)
   have hb12 := hO4.blk hb6 (by simp)
   refine wpList_nil (then_normal (wp_seq (wp_region_lit (sv (v := .func (.func 25) #[] #[.pointer (some ⟨b2, 0, none⟩), .pointer (some ⟨b, 0, none⟩), .pointer (some ⟨b1, 0, none⟩), .pointer (some ⟨b3, 0, none⟩)]) (R_makeFunc (fv := []) (cv := [.pointer (some ⟨b2, 0, none⟩), .pointer (some ⟨b, 0, none⟩), .pointer (some ⟨b1, 0, none⟩), .pointer (some ⟨b3, 0, none⟩)]) rfl rfl) (st_one (wn rfl) ?_)))))
   refine O_store (vs := [.func (.func 25) #[] #[.pointer (some ⟨b2, 0, none⟩), .pointer (some ⟨b, 0, none⟩), .pointer (some ⟨b1, 0, none⟩), .pointer (some ⟨b3, 0, none⟩)]]) (cs' := [.func (.func 25) #[] #[.pointer (some ⟨b2, 0, none⟩), .pointer (some ⟨b, 0, none⟩), .pointer (some ⟨b1, 0, none⟩), .pointer (some ⟨b3, 0, none⟩)]]) (Try.sizeOf59 _) rfl rfl rfl rfl hb9 (Nat.le_of_ble_eq_true rfl) rfl (fun w_5 hO5 hb13 => ?_)
   have hA5 := hA4.new hO5 hn_b3
   have hb14 := hO5.blk hb10 (by simpa using (Ne.symm hne3))
   have hb15 := hO5.blk hb11 (by simpa using (Ne.symm hne4))
   have hb16 := hO5.blk hb12 (by simpa using (Ne.symm hne5))
   refine wpList_nil (then_normal (wp_seq (wp_region_lit (sv (R_as rfl) (wpList_nil (then_normal (wp_seq (wp_seq (wp_region_lit (sv (v := Sl.v active) (R_load1 (Try.isAgg30 _) rfl (hb15.cell 0)) ?_))))))))))
   obtain ⟨hx2, h⟩ := h
   refine sv (v := Sl.v (Sl.cut active 1 (Sl.n active) (Sl.c active) 1)) (R_slice100 (s := active) (Try.runUnderlying30 _) (Try.sizeOf3 _) rfl rfl (by first | exact hx2.1 | omega) (by first | exact hx2.2.1 | omega) (by first | exact hx2.2.2 | omega)) (sv (R_len (s := Sl.cut active 1 (Sl.n active) (Sl.c active) 1) (Try.runUnderlying30 _) rfl) (sv (R_mv rfl) (wpList_nil (then_normal (wp_block ?_)))))
   replace h := h b2 b3 w_5 hn_b2 hb16.lt hn_b3 hb13.lt hA5 hb14 hb15 hb16 hb13
   obtain ⟨I_, nv1, h0, hI⟩ := h
   refine wp_loop_ghost (fun nv' a' w' => ∃ rises : Bool, ∃ t25 : Int, (∃ us, a' = fr 49 us [(3, .pointer (some ⟨b1, 0, none⟩)), (5, .pointer (some ⟨b2, 0, none⟩)), (6, .pointer (some ⟨b3, 0, none⟩)), (7, .bool rises), (23, Sl.v (Sl.cut active 1 (Sl.n active) (Sl.c active) 1)), (24, .int .i64 (↑(Sl.n (Sl.cut active 1 (Sl.n active) (Sl.c active) 1)) : Int)), (25, .int .i64 t25)]) /\ Blk w' b 32 [Sl.v l] /\ Blk w' b1 30 [Sl.v active] /\ Blk w' b2 3 [.int .i64 (↑(Sl.n active) : Int)] /\ Blk w' b3 59 [.func (.func 25) #[] #[.pointer (some ⟨b2, 0, none⟩), .pointer (some ⟨b, 0, none⟩), .pointer (some ⟨b1, 0, none⟩), .pointer (some ⟨b3, 0, none⟩)]] /\ I_ nv' rises t25 w') nv1 ?_ ?_
   · exact ⟨_, _, fr_sub ⟨rfl, rfl, rfl, rfl, rfl, rfl, rfl, trivial⟩, hb14, hb15, hb16, hb13, h0⟩
   · clear h0
     rintro nv _ w_6 ⟨rises, t25, ⟨us, rfl⟩, hb17, hb18, hb19, hb20, h⟩
     replace h := hI _ _ _ _ h
     refine wp_seq (wp_region_lit (sv (R_lss rfl rfl) (wpList_nil (then_normal (wp_seq ?_)))))
     refine C_split (t := (decide (t25 < (↑(Sl.n (Sl.cut active 1 (Sl.n active) (Sl.c active) 1)) : Int)))) rfl (fun hc1 => ?_) (fun hc1 => ?_)
     · replace h := h.1 hc1
       refine wp_skip (then_normal (wp_seq (wp_block (wp_seq (wp_region_lit (sv (R_mv rfl) ?_))))))
       obtain ⟨ad1, hx3, h⟩ := h
       refine sv (v := .pointer (some ad1)) (R_indexS (s := Sl.cut active 1 (Sl.n active) (Sl.c active) 1) (Try.runUnderlying30 _) (Try.sizeOf3 _) rfl rfl hx3) ?_
       replace h := h hb17 hb18 hb19 hb20
       obtain ⟨x2, hx4, h⟩ := h
       refine sv (v := .int .i64 x2) (R_load1 (Try.isAgg3 _) rfl (Cells.one hx4)) (sv (R_as rfl) (sv (R_as rfl) (wpList_nil (then_normal ?_))))
       obtain ⟨ad2, hx5, h⟩ := h
       obtain ⟨x3, hx6, h⟩ := h
       refine wp_region_lit (sv (R_mv rfl) (sv (R_mv rfl) ?_))
       refine cutF 7 49 [(3, .pointer (some ⟨b1, 0, none⟩)), (5, .pointer (some ⟨b2, 0, none⟩)), (6, .pointer (some ⟨b3, 0, none⟩)), (23, Sl.v (Sl.cut active 1 (Sl.n active) (Sl.c active) 1)), (24, .int .i64 (↑(Sl.n (Sl.cut active 1 (Sl.n active) (Sl.c active) 1)) : Int)), (25, .int .i64 t25), (38, .bool (rises && (decide (x2 > x3))))] ?_ ?_
       · simp only [List.take_succ_cons, List.take_zero]
         rcases Bool.eq_false_or_eq_true rises with hg1 | hg1
         · refine svg (wtF rfl rfl rfl (bg hg1) rfl) (R_mv rfl) (svg (v := Sl.v active) (wtF rfl rfl rfl (bg hg1) rfl) (R_load1 (Try.isAgg30 _) rfl (hb18.cell 0)) (svg (wtF rfl rfl rfl (bg hg1) rfl) (R_mv rfl) (svg (v := .pointer (some ad2)) (wtF rfl rfl rfl (bg hg1) rfl) (R_indexS (s := active) (Try.runUnderlying30 _) (Try.sizeOf3 _) rfl rfl (hx5 hg1)) (svg (v := .int .i64 x3) (wtF rfl rfl rfl (bg hg1) rfl) (R_load1 (Try.isAgg3 _) rfl (Cells.one (hx6 hg1))) (svg (wtF rfl rfl rfl (bg hg1) rfl) (R_gtr rfl rfl) (sv (R_pickT (bg hg1) rfl) (wpList_nil ?_)))))))
           exact cutEnd ⟨rfl, rfl, rfl, rfl, rfl, rfl, (by rw [hg1]; rfl), trivial⟩
         · refine sno (wtF rfl rfl rfl (bg hg1) rfl) (sno (wtF rfl rfl rfl (bg hg1) rfl) (sno (wtF rfl rfl rfl (bg hg1) rfl) (sno (wtF rfl rfl rfl (bg hg1) rfl) (sno (wtF rfl rfl rfl (bg hg1) rfl) (sno (wtF rfl rfl rfl (bg hg1) rfl) (sv (R_pickF (bg hg1) rfl) (wpList_nil ?_)))))))
           exact cutEnd ⟨rfl, rfl, rfl, rfl, rfl, rfl, (by rw [hg1]; rfl), trivial⟩
       intro us
       simp only [List.drop_succ_cons, List.drop_zero]
       refine sv (R_as rfl) (wpList_nil (block_normal (then_normal (wp_region_lit (sv (R_add rfl rfl) (sv (R_mv rfl) (wpList_nil (then_normal ?_))))))))
       obtain ⟨nv2, hl, h⟩ := h
       exact ⟨nv2, hl, _, _, fr_sub ⟨rfl, rfl, rfl, rfl, rfl, rfl, rfl, trivial⟩, hb17, hb18, hb19, hb20, h⟩
     · replace h := h.2 hc1
       refine wp_exit (then_exit (then_exit (block_hit (then_normal (wp_seq ?_)))))
       replace h := h hb17 hb18 hb19 hb20
       obtain ⟨J_, hJ, h⟩ := h
       refine wp_cut (fun a' w' => ∃ t4 : Bool, (∃ us, a' = fr 49 us [(4, .bool t4)]) /\ Blk w' b 32 [Sl.v l] /\ Blk w' b1 30 [Sl.v active] /\ Blk w' b3 59 [.func (.func 25) #[] #[.pointer (some ⟨b2, 0, none⟩), .pointer (some ⟨b, 0, none⟩), .pointer (some ⟨b1, 0, none⟩), .pointer (some ⟨b3, 0, none⟩)]] /\ J_ t4 w') ?_ ?_
       · clear h
         rintro _ w_7 ⟨t4, ⟨us1, rfl⟩, hb21, hb22, hb24, h⟩
         replace h := hJ _ _ h
         first | refine wp_ret ?_ | refine then_normal (wp_ret ?_)
         replace h := h hb21 hb22 hb24
         exact ret1 Try.results15 ⟨rfl, trivial⟩ h
       · refine wp_region_lit (sv (R_mv rfl) (sv (R_mv rfl) ?_))
         rcases Bool.eq_false_or_eq_true rises with hg2 | hg2
         · replace h := h.1 hg2
           refine svg (v := .func (.func 25) #[] #[.pointer (some ⟨b2, 0, none⟩), .pointer (some ⟨b, 0, none⟩), .pointer (some ⟨b1, 0, none⟩), .pointer (some ⟨b3, 0, none⟩)]) (wtF rfl rfl rfl (bg hg2) rfl) (R_load1 (Try.isAgg59 _) rfl (hb20.cell 0)) (st_one (wtF rfl rfl rfl (bg hg2) rfl) ?_)
           refine O_enter (args := #[.int .i64 0, .pointer (some ⟨b2, 0, none⟩), .pointer (some ⟨b, 0, none⟩), .pointer (some ⟨b1, 0, none⟩), .pointer (some ⟨b3, 0, none⟩)]) (R_enterC (first := []) (captured := [.pointer (some ⟨b2, 0, none⟩), .pointer (some ⟨b, 0, none⟩), .pointer (some ⟨b1, 0, none⟩), .pointer (some ⟨b3, 0, none⟩)]) rfl Try.call25 rfl) (h.mono ?_)
           clear h
           rintro _ w_8 ⟨x4, rfl, hs, vb2, hb25, h⟩
           refine ⟨_, rfl, ?_⟩
           have hb26 := hs.blk hb17 (by simp)
           have hb27 := hs.blk hb18 (by simp)
           have hb28 := hs.blk hb20 (by simp)
           refine sv (R_pickT (bg hg2) rfl) (sv (R_mv rfl) ?_)
           refine cutF 3 49 [(48, .bool (x4 && (vb2 == 0)))] ?_ ?_
           · simp only [List.take_succ_cons, List.take_zero]
             rcases Bool.eq_false_or_eq_true x4 with hg3 | hg3
             · refine svg (v := .int .i64 vb2) (wtF rfl rfl rfl (bg hg3) rfl) (R_load1 (Try.isAgg3 _) rfl (hb25.cell 0)) (svg (wtF rfl rfl rfl (bg hg3) rfl) (R_eql rfl rfl) (sv (R_pickT (bg hg3) rfl) (wpList_nil ?_)))
               exact cutEnd ⟨(by rw [hg3]; rfl), trivial⟩
             · refine sno (wtF rfl rfl rfl (bg hg3) rfl) (sno (wtF rfl rfl rfl (bg hg3) rfl) (sv (R_pickF (bg hg3) rfl) (wpList_nil ?_)))
               exact cutEnd ⟨(by rw [hg3]; rfl), trivial⟩
           intro us
           simp only [List.drop_succ_cons, List.drop_zero]
           refine sv (R_as rfl) (wpList_nil ?_)
           exact then_normal ⟨_, fr_sub ⟨rfl, trivial⟩, hb26, hb27, hb28, h⟩
         · replace h := h.2 hg2
           refine sno (wtF rfl rfl rfl (bg hg2) rfl) (sno (wtF rfl rfl rfl (bg hg2) rfl) (sv (R_pickF (bg hg2) rfl) (sv (R_mv rfl) (sno (wtF rfl rfl rfl rfl rfl) (sno (wtF rfl rfl rfl rfl rfl) (sv (R_pickF rfl rfl) (sv (R_as rfl) (wpList_nil ?_))))))))
           exact then_normal ⟨_, fr_sub ⟨rfl, trivial⟩, hb17, hb18, hb20, h⟩
end Go.Proofs.Ytddfmhccaapgjaa.Vc
namespace Go.Proofs
open Go.Shelf
def Try.laysNm225_ren : Go.Shelf.Ren := ⟨fun | 25 => 27 | 31 => 42 | 32 => 43 | 37 => 49 | n => n, fun | 22 => 30 | 3 => 3 | 4 => 4 | 40 => 78 | 0 => 0 | n => n, fun | n => n⟩
theorem Try.laysNm225 : Go.Proofs.Lays2.n25 Try.prog Try.laysNm225_ren := {
 mixed := by kernel_rfl
 f25 := Try.func27.trans (congrArg some (by kernel_rfl))
 f31 := Try.func42.trans (congrArg some (by kernel_rfl))
 f32 := Try.func43.trans (congrArg some (by kernel_rfl))
 f37 := Try.func49.trans (congrArg some (by kernel_rfl))
 t0 := Try.underlying0
 a0 := Try.isAgg0
 z0 := Try.sizeOf0
 v0 := Try.zeroValue0
 t3 := Try.underlying3
 a3 := Try.isAgg3
 z3 := Try.sizeOf3
 v3 := Try.zeroValue3
 t4 := Try.underlying4
 a4 := Try.isAgg4
 z4 := Try.sizeOf4
 v4 := Try.zeroValue4
 t22 := Try.underlying30
 a22 := Try.isAgg30
 z22 := Try.sizeOf30
 v22 := Try.zeroValue30
 t40 := Try.underlying78
 a40 := Try.isAgg78
 z40 := Try.sizeOf78
 v40 := Try.zeroValue78 }
open Go.RowKit Go.Lib in
theorem Try.slices_BinarySearch_int (b off n c : Nat) (zs : List Int) (x : Int) (w : World) (hz : n <= zs.length) (hbig : n < 4611686018427387904) (hc : ∀ j, j < zs.length -> w.cell? ⟨b, off + j, none⟩ = some (.int .i64 (zs.getD j 0))) (hs : (zs.take n).Pairwise (· <= ·)) :
  Calls Try.prog 27 #[.slice (some ⟨b, off, none⟩) n c, .int .i64 x] w fun e w' => e = .returned (.tuple #[.int .i64 ((zs.take n).countP (· < x) : Nat), .bool ((zs.take n).contains x)]) /\ ∃ q, w' = w.drewN q := Any.slices_BinarySearch_int Try.laysNm225 b off n c zs x w hz hbig hc hs
end Go.Proofs
namespace Go.Proofs.Ytddfmhccaapgjaa.Con
open Go Go.RowKit Go.Kt Go.Kt.V Go.Proofs.Ytddfmhccaapgjaa.Vc
set_option linter.unusedSimpArgs false
set_option linter.unusedVariables false
theorem ret {P : Program} {f : FuncId} {a : Array Value} {w : World} {r : Value} {Q : World -> Prop} (h : Calls P f a w fun e w' => ∃ v, e = .returned v /\ v = r /\ Q w') : Calls P f a w fun e w' => e = .returned r /\ Q w' :=
 h.mono (by rintro e w' ⟨v, rfl, rfl, hq⟩; exact ⟨rfl, hq⟩)
theorem Blk.at1 {w : World} {b : Nat} {t : TypeId} {cs : List Value} (h : Blk w b t cs) (j : Nat) {v : Value} (hv : cs[j]? = some v) : Cells w ((⟨b, 0, none⟩ : Addr).add j) [v] := by
 rw [addr_lit, Nat.zero_add]
 exact h.cells j [v] fun k u hk => by
  cases k with
  | zero => simp only [List.getElem?_cons_zero, Option.some.injEq] at hk; subst hk; exact hv
  | succ k => simp at hk
def letterB (c : UInt8) : Bool := (65 <= c.toNat && c.toNat <= 90) || (97 <= c.toNat && c.toNat <= 122) || c.toNat == 95
def digitB (c : UInt8) : Bool := 48 <= c.toNat && c.toNat <= 57
def wordB (c : UInt8) : Bool := letterB c || digitB c
def blankB (c : UInt8) : Bool := [9, 10, 13, 32].contains c
def rTx : Rp (List UInt8) := fun _ _ l cs => cs = [.string (T l)]
theorem rTx_ok : rTx.Ok where
 keep h _ := h
 inHeap h := h
 mono h _ := h
 one := by
  rintro w F x cs h v hv
  unfold rTx at h
  subst h
  simp only [List.mem_singleton] at hv
  subst hv; rfl
theorem take_while {p : UInt8 -> Bool} : ∀ {l : List UInt8} {n : Nat}, n <= l.length -> (∀ x, x ∈ l.take n -> p x = true) -> (∀ x, l[n]? = some x -> p x = false) -> l.takeWhile p = l.take n
 | [], n, _, _, _ => by simp
 | c :: r, 0, _, _, h => by
  have := h c rfl
  simp [this]
 | c :: r, n + 1, hn, h1, h2 => by
  have hc := h1 c (by simp)
  rw [List.takeWhile_cons, if_pos hc, List.take_succ_cons, take_while (n := n) (by simpa using hn) (fun x hx => h1 x (by simp [hx])) (fun x hx => h2 x (by simpa using hx))]
theorem while_take {p : UInt8 -> Bool} : ∀ {l : List UInt8}, l.takeWhile p = l.take (l.takeWhile p).length
 | [] => rfl
 | b :: l => by
  rw [List.takeWhile_cons]
  split
  · rw [List.length_cons, List.take_succ_cons, <- while_take]
  · rfl
end Go.Proofs.Ytddfmhccaapgjaa.Con
namespace Go.Proofs.Ytddfmhccaapgjaa.Con
open Go Go.RowKit Go.Kt Go.Kt.V Go.Proofs.Ytddfmhccaapgjaa.Vc
set_option linter.unusedSimpArgs false
set_option linter.unusedVariables false
set_option maxHeartbeats 4000000
theorem buildB (w : World) (l : List UInt8) {n : Nat} {parts : Array (Nat × Value)} (hp : parts = (((l.map byteV).zipIdx 0).map fun x => (x.2, x.1)).toArray) (hn : l.length = n) (h0 : 0 < n) (hsm : n * 1 <= 16777216) :
  ∃ s w', (Instr.buildSlice 87 n parts).run Try.prog w = .ok (Sl.v s) w' /\ Own rByte 1 5 w.heap.size w' (fun _ => True) s l /\ Only [] w w' /\ s.a = some ⟨w.heap.size, 0, none⟩ := by
 obtain ⟨s, w', h1, h2, h3, h4, _⟩ := build_own (P := Try.prog) (t := 87) (e := 5) (i := Try.t5) (w := w) (F := fun _ => True) (r := rByte) (size := 1) (vs := l.map byteV) (xs := l) (len := n) (by kernel_rfl) (by kernel_rfl) rfl rfl (by decide) hp (by rw [List.length_map]; exact hn) h0 hsm rByte_ok (by
  clear hp hn
  induction l with
  | nil => exact trivial
  | cons a l ih => exact ⟨⟨rfl, rfl⟩, ih⟩)
 exact ⟨s, w', h1, h2, h3, h4⟩
theorem all2_tx (l : List (List UInt8)) (w : World) : Els rTx 1 w (fun _ => True) l ((l.map fun x => Value.string (T x)).map fun v => v.cells.toList) := by
 induction l with
 | nil => exact trivial
 | cons a l ih => exact ⟨⟨rfl, rfl⟩, ih⟩
theorem buildS (w : World) (l : List (List UInt8)) {n : Nat} {parts : Array (Nat × Value)} (hp : parts = (((l.map fun x => Value.string (T x)).zipIdx 0).map fun x => (x.2, x.1)).toArray) (hn : l.length = n) (h0 : 0 < n) (hsm : n * 1 <= 16777216) :
  ∃ s w', (Instr.buildSlice 97 n parts).run Try.prog w = .ok (Sl.v s) w' /\ Own rTx 1 9 w.heap.size w' (fun _ => True) s l /\ Only [] w w' := by
 obtain ⟨s, w', h1, h2, h3, _⟩ := build_own (P := Try.prog) (t := 97) (e := 9) (i := Try.t9) (w := w) (F := fun _ => True) (r := rTx) (size := 1) (vs := l.map fun x => Value.string (T x)) (xs := l) (len := n) (by kernel_rfl) (by kernel_rfl) rfl rfl (by decide) hp (by rw [List.length_map]; exact hn) h0 hsm rTx_ok (all2_tx l w)
 exact ⟨s, w', h1, h2, h3⟩
theorem flatO {α : Type} {r : Rp α} {size : Nat} {e : TypeId} {B : Nat} {w : World} {F : Nat -> Prop} {s : Sl} {xs : List α} (hr : r.Ok) (hf : ∀ w F G x cs, r w F x cs -> r w G x cs) (h : Own r size e B w F s xs) : SliceF r size w (fun k => B <= k /\ s.a = some ⟨k, 0, none⟩) s xs := by
 rcases h with ⟨rfl, rfl⟩ | ⟨g, css, tail, a1, a2, a4, a5, a6, a7, a9, a8⟩
 · exact SliceF.nil _ _ _ _
 · have h' : Own r size e B w (fun _ => False) s xs := .inr ⟨g, css, tail, a1, a2, a4, a5, a6, a7, a9, All2.imp (fun _ _ h => ⟨h.1, hf _ _ _ _ _ h.2⟩) a8⟩
   exact (h'.slice hr).mono hr fun k hk => hk.elim False.elim id
theorem flatB {e : TypeId} {B : Nat} {w : World} {F : Nat -> Prop} {s : Sl} {xs : List UInt8} (h : Own rByte 1 e B w F s xs) : SliceF rByte 1 w (fun k => B <= k /\ s.a = some ⟨k, 0, none⟩) s xs := flatO rByte_ok (fun _ _ _ _ _ h => h) h
theorem flatS {e : TypeId} {B : Nat} {w : World} {F : Nat -> Prop} {s : Sl} {xs : List (List UInt8)} (h : Own rTx 1 e B w F s xs) : SliceF rTx 1 w (fun k => B <= k /\ s.a = some ⟨k, 0, none⟩) s xs := flatO rTx_ok (fun _ _ _ _ _ h => h) h
def skN : Bool -> List UInt8 -> Nat
 | _, [] => 0
 | true, c :: r => 1 + skN (c != 10) r
 | false, c :: r => if blankB c then 1 + skN false r else if c == 47 && r.head? == some 47 then 1 + skN true r else 0
theorem skN_le : ∀ {b : Bool} {l : List UInt8}, skN b l <= l.length
 | b, [] => by simp [skN]
 | true, c :: r => by
  rw [skN, List.length_cons]
  have := skN_le (b := c != 10) (l := r)
  omega
 | false, c :: r => by
  rw [skN, List.length_cons]
  have h1 := skN_le (b := false) (l := r)
  have h2 := skN_le (b := true) (l := r)
  split
  · omega
  · split <;> omega
theorem skN_note : ∀ (l : List UInt8), skN true l = (l.takeWhile (· != 10)).length + skN false (l.drop (l.takeWhile (· != 10)).length)
 | [] => rfl
 | c :: r => by
  by_cases hc : c = 10
  · subst hc
    rw [skN]
    simp [skN, blankB]
  · have h : (c != 10) = true := by simpa using hc
    rw [skN, h, skN_note r, List.takeWhile_cons, if_pos h, List.length_cons, List.drop_succ_cons]
    omega
theorem skN_slash {l : List UInt8} (h : l.take 2 = [47, 47]) : skN false l = (l.takeWhile (· != 10)).length + skN false (l.drop (l.takeWhile (· != 10)).length) := by
 match l, h with
 | a :: b :: r, h =>
  simp only [List.take_succ_cons, List.take_zero, List.cons.injEq, and_true] at h
  obtain ⟨rfl, rfl⟩ := h
  have e : skN false (47 :: 47 :: r) = 1 + skN true (47 :: r) := by
   conv => lhs; rw [skN]
   rw [if_neg (by decide), if_pos (by simp)]
  have e2 := skN_note (47 :: r)
  have e3 : (47 :: 47 :: r : List UInt8).takeWhile (· != 10) = 47 :: (47 :: r : List UInt8).takeWhile (· != 10) := by
   rw [List.takeWhile_cons, if_pos (by decide)]
  rw [e, e2, e3, List.length_cons, List.drop_succ_cons]
  omega
theorem drop_cons {l : List UInt8} {j : Nat} {x : UInt8} (h : l[j]? = some x) : l.drop j = x :: l.drop (j + 1) := by
 obtain ⟨h1, h2⟩ := List.getElem?_eq_some_iff.1 h
 rw [List.drop_eq_getElem_cons h1, h2]
def decV (a : Nat) (ds : List UInt8) : Nat := ds.foldl (fun a c => a * 10 + (c.toNat - 48)) a
theorem decV_ge : ∀ (ds : List UInt8) (a : Nat), a <= decV a ds
 | [], a => Nat.le_refl _
 | c :: r, a => by
  have := decV_ge r (a * 10 + (c.toNat - 48))
  show a <= decV (a * 10 + (c.toNat - 48)) r
  omega
def parseM (l : List UInt8) : Nat × Nat × Int :=
 if l = [] then (0, 0, 3) else if l.takeWhile digitB = [] ∨ (1 < (l.takeWhile digitB).length /\ l.head? = some 48) then (0, 0, 4)
 else if decV 0 (l.takeWhile digitB) < 9223372036854775808 then (decV 0 (l.takeWhile digitB), (l.takeWhile digitB).length, 0) else (0, 0, 20)
theorem while_all {p : UInt8 -> Bool} {l : List UInt8} : ∀ c, c ∈ l.takeWhile p -> p c = true := by
 have := List.all_takeWhile (p := p) (l := l)
 rwa [List.all_eq_true] at this
structure Tk where
 k : Int
 t : List UInt8
 n : Int
 a : Int
deriving DecidableEq
def Tk.v (x : Tk) : Value := .agg #[.int .i64 x.k, .string (T x.t), .int .i64 x.n, .int .i64 x.a]
def rTk : Rp Tk := fun _ _ x cs => cs = [.int .i64 x.k, .string (T x.t), .int .i64 x.n, .int .i64 x.a]
theorem rTk_ok : rTk.Ok where
 keep h _ := h
 inHeap h := h
 mono h _ := h
 one := by
  rintro w F x cs h v hv
  unfold rTk at h
  subst h
  simp only [List.mem_cons, List.not_mem_nil, or_false] at hv
  rcases hv with rfl | rfl | rfl | rfl <;> rfl
abbrev OwnK (B : Nat) (w : World) (s : Sl) (xs : List Tk) : Prop := Own rTk 4 144 B w (fun _ => True) s xs
theorem OwnK.of {B : Nat} {w : World} {F : Nat -> Prop} {s : Sl} {xs : List Tk} (h : Own rTk 4 144 B w F s xs) : OwnK B w s xs := h.mono rTk_ok fun _ _ => trivial
theorem OwnK.sl {B : Nat} {w : World} {s : Sl} {xs : List Tk} (h : OwnK B w s xs) : SliceF rTk 4 w (fun k => B <= k /\ s.a = some ⟨k, 0, none⟩) s xs := flatO rTk_ok (fun _ _ _ _ _ h => h) h
theorem OwnK.flat {B : Nat} {w : World} {s : Sl} {xs : List Tk} (h : OwnK B w s xs) : Own rTk 4 144 B w (fun _ => False) s xs := by
 rcases h with h | ⟨g, css, tail, a1, a2, a4, a5, a6, a7, a9, a8⟩
 · exact .inl h
 · exact .inr ⟨g, css, tail, a1, a2, a4, a5, a6, a7, a9, All2.imp (fun _ _ h => h) a8⟩
theorem OwnK.keep {B : Nat} {w w' : World} {s : Sl} {xs : List Tk} (h : OwnK B w s xs) (hk : ∀ k, B <= k /\ s.a = some ⟨k, 0, none⟩ -> k < w.heap.size -> w'.heap[k]? = w.heap[k]?) : OwnK B w' s xs :=
 OwnK.of (h.flat.keep rTk_ok fun k hF hlt => hk k (hF.elim False.elim id) hlt)
theorem OwnK.only {B : Nat} {w w' : World} {s : Sl} {xs : List Tk} (h : OwnK B w s xs) (hO : Only [] w w') : OwnK B w' s xs := h.keep fun k _ hlt => hO.block k hlt (by simp)
theorem OwnK.p {B : Nat} {w w' : World} {s : Sl} {xs : List Tk} {D : Nat -> Prop} (h : OwnK B w s xs) (hO : OnlyP D w w') (hD : ∀ k, B <= k -> s.a = some ⟨k, 0, none⟩ -> ¬ D k) : OwnK B w' s xs := h.keep fun k hk hlt => hO.block k hlt (hD k hk.1 hk.2)
theorem push_k {w : World} {B : Nat} {s : Sl} {xs : List Tk} (t : Tk) (hs : OwnK B w s xs) (hB : B <= w.heap.size) (hm : (xs.length + 1) * 40 <= 140737488355328) :
  ∃ y w1, (Instr.buildSlice 138 1 #[(0, t.v)]).run Try.prog w = .ok (Sl.v y) w1 /\ Only [] w w1 /\ ∃ s' w2, (Builtin.append_ #[138, 138] 138 #[Sl.v s, Sl.v y]).run Try.prog w1 = .ok (Sl.v s') w2 /\ OwnK B w2 s' (xs ++ [t]) /\ OnlyP (fun k => B <= k /\ s.a = some ⟨k, 0, none⟩) w1 w2 := by
 obtain ⟨y, w1, k1, k2, s', w2, k3, k4, ⟨gs, k5, k6⟩, _⟩ := app_one (P := Try.prog) (t := 138) (ty := 138) (e := 144) (i := Try.t144) (bytes := 40) (size := 4) (v := t.v) (x := t) (G := fun _ => False) (by kernel_rfl) (by kernel_rfl) rfl rfl rfl rfl (by decide) (by decide) (by decide) rTk_ok hs hB rfl rfl (fun k hk _ => hk.elim) hm
 exact ⟨y, w1, k1, k2, s', w2, k3, OwnK.of k4, k5.p fun g hg => .inl ⟨(k6 g hg).2.1, (k6 g hg).1⟩⟩
def wordsL : List (List UInt8) := [[97, 102, 116, 101, 114], [97, 108, 119, 97, 121, 115], [99, 104, 97, 114, 116], [100, 101, 101, 112], [101, 109, 105, 116], [101, 110, 116, 101, 114], [104, 105, 115, 116, 111, 114, 121], [105, 110], [105, 110, 105, 116, 105, 97, 108], [108, 101, 97, 118, 101], [111, 110], [112, 97, 114, 97, 108, 108, 101, 108], [114, 97, 105, 115, 101], [115, 101, 116], [115, 116, 97, 116, 101], [118, 97, 114]]
abbrev Tq := Int × List UInt8 × Int × Nat
def wordR (m : List UInt8) : Except Int Tq :=
 if 24 < (m.takeWhile wordB).length then .error 2 else .ok (if wordsL.contains (m.takeWhile wordB) then 2 else 1, m.takeWhile wordB, 0, (m.takeWhile wordB).length)
def numR (m : List UInt8) : Except Int Tq :=
 if (parseM m).2.2 ≠ 0 then .error (parseM m).2.2 else if (parseM m).2.1 < (m.takeWhile wordB).length then .error 4 else .ok (3, [], (parseM m).1, (parseM m).2.1)
def shortL : List UInt8 := [123, 125, 40, 41, 91, 93, 59, 44, 61, 43, 45, 42, 47, 37, 60, 62, 33]
def sign2 (m : List UInt8) : Bool := match m with
 | c :: d :: _ => (d == 61 && [60, 62, 61, 33].contains c) || (d == c && [38, 124].contains c) || (c == 45 && d == 62)
 | _ => false
def signN (m : List UInt8) : Nat := if sign2 m then 2 else match m with
 | c :: _ => if shortL.contains c then 1 else 0
 | [] => 0
def signR (m : List UInt8) : Except Int Tq := if signN m = 0 then .error 4 else .ok (4, m.take (signN m), 0, signN m)
def tokR (m : List UInt8) : Except Int Tq := match m with
 | [] => .error 4
 | c :: _ => if letterB c then wordR m else if digitB c then numR m else signR m
theorem while_len {p : UInt8 -> Bool} {l : List UInt8} : (l.takeWhile p).length <= l.length := by
 rw [while_take, List.length_take]; exact Nat.min_le_right _ _
theorem u8i {c d : UInt8} : ((c.toNat : Int) == (d.toNat : Int)) = (c == d) := by
 rw [Bool.eq_iff_iff]
 simp only [beq_iff_eq]
 constructor
 · intro h; exact UInt8.toNat_inj.1 (by omega)
 · rintro rfl; rfl
theorem sign2_len {m : List UInt8} (h : sign2 m = true) : 2 <= m.length := by
 match m, h with
 | _ :: _ :: _, _ => simp
theorem signN_le {m : List UInt8} : signN m <= m.length := by
 unfold signN
 split
 · exact sign2_len (by assumption)
 · split
   · split
     · simp
     · exact Nat.zero_le _
   · exact Nat.zero_le _
theorem tok_len {m : List UInt8} {q : Tq} (h : tokR m = .ok q) : 1 <= q.2.2.2 := by
 cases m with
 | nil => cases h
 | cons c r =>
  simp only [tokR] at h
  split at h
  · rename_i hc
    unfold wordR at h
    split at h
    · cases h
    · injection h with h
      subst h
      have : wordB c = true := by unfold wordB; rw [hc]; rfl
      dsimp only
      rw [List.takeWhile_cons, if_pos this, List.length_cons]
      omega
  · split at h
    · rename_i hc
      unfold numR at h
      split at h
      · cases h
      · split at h
        · cases h
        · rename_i h1 h2
          injection h with h
          subst h
          dsimp only
          rw [List.takeWhile_cons, if_pos (by unfold wordB; rw [hc, Bool.or_true]), List.length_cons] at h2
          omega
    · unfold signR at h
      split at h
      · cases h
      · injection h with h
        subst h
        dsimp only
        omega
theorem tok_err {m : List UInt8} {e : Int} (h : tokR m = .error e) : e ≠ 0 := by
 cases m with
 | nil => injection h with h; omega
 | cons c r =>
  simp only [tokR] at h
  split at h
  · unfold wordR at h
    split at h
    · injection h with h; omega
    · cases h
  · split at h
    · unfold numR at h
      split at h
      · injection h with h; omega
      · split at h
        · injection h with h; omega
        · cases h
    · unfold signR at h
      split at h
      · injection h with h; omega
      · cases h
def toksF (l : List UInt8) : Nat -> Nat -> Except (Int × Nat) (List Tk)
 | 0, _ => .ok []
 | f + 1, i =>
  if l.length <= i + skN false (l.drop i) then .ok [⟨5, [], 0, (i + skN false (l.drop i) : Nat)⟩]
  else match tokR (l.drop (i + skN false (l.drop i))) with
   | .error e => .error (e, i + skN false (l.drop i))
   | .ok q => match toksF l f (i + skN false (l.drop i) + q.2.2.2) with
    | .error x => .error x
    | .ok r => .ok (⟨q.1, q.2.1, q.2.2.1, (i + skN false (l.drop i) : Nat)⟩ :: r)
theorem parse_le {l : List UInt8} : (parseM l).2.1 <= l.length := by
 have := while_len (p := digitB) (l := l)
 unfold parseM
 split
 · exact Nat.zero_le _
 · split
   · exact Nat.zero_le _
   · split
     · exact this
     · exact Nat.zero_le _
theorem tok_le {m : List UInt8} {q : Tq} (h : tokR m = .ok q) : q.2.2.2 <= m.length := by
 cases m with
 | nil => cases h
 | cons c r =>
  simp only [tokR] at h
  split at h
  · unfold wordR at h
    split at h
    · cases h
    · injection h with h
      subst h
      exact while_len
  · split at h
    · unfold numR at h
      split at h
      · cases h
      · split at h
        · cases h
        · injection h with h
          subst h
          exact parse_le
    · unfold signR at h
      split at h
      · cases h
      · injection h with h
        subst h
        exact signN_le
theorem sk_in {l : List UInt8} {i : Nat} (hi : i <= l.length) : i + skN false (l.drop i) <= l.length := by
 have := skN_le (b := false) (l := l.drop i)
 rw [List.length_drop] at this
 omega
theorem toksF_eq (l : List UInt8) : ∀ (f g i : Nat), i <= l.length -> l.length < i + f -> l.length < i + g -> toksF l f i = toksF l g i
 | 0, _, i, hi, h, _ => by omega
 | _, 0, i, hi, _, h => by omega
 | f + 1, g + 1, i, hi, h1, h2 => by
  rw [toksF, toksF]
  split
  · rfl
  · split
    · rfl
    · rename_i q hq
      have h3 := tok_len hq
      have h4 := tok_le hq
      rw [List.length_drop] at h4
      rw [toksF_eq l f g _ (by omega) (by omega) (by omega)]
def toks (l : List UInt8) (i : Nat) : Except (Int × Nat) (List Tk) := toksF l (l.length + 1) i
theorem toks_step {l : List UInt8} {i : Nat} (hi : i <= l.length) : toks l i = if l.length <= i + skN false (l.drop i) then .ok [⟨5, [], 0, (i + skN false (l.drop i) : Nat)⟩]
  else match tokR (l.drop (i + skN false (l.drop i))) with
   | .error e => .error (e, i + skN false (l.drop i))
   | .ok q => match toks l (i + skN false (l.drop i) + q.2.2.2) with
    | .error x => .error x
    | .ok r => .ok (⟨q.1, q.2.1, q.2.2.1, (i + skN false (l.drop i) : Nat)⟩ :: r) := by
 unfold toks
 rw [toksF]
 split
 · rfl
 · split
   · rfl
   · rename_i q hq
     have h3 := tok_len hq
     have h4 := tok_le hq
     rw [List.length_drop] at h4
     rw [toksF_eq l l.length (l.length + 1) _ (by omega) (by omega) (by omega)]
def tokensM (l : List UInt8) : List Tk × Int × Int := if 16384 < l.length then ([], 2, -1) else match toks l 0 with
 | .error x => ([], x.1, (x.2 : Nat))
 | .ok r => (r, 0, 0)
def pre (acc : List Tk) : Except (Int × Nat) (List Tk) -> Except (Int × Nat) (List Tk)
 | .error x => .error x
 | .ok r => .ok (acc ++ r)
theorem sk_idem (b : Bool) : ∀ (l : List UInt8), skN false (l.drop (skN b l)) = 0
 | [] => by simp [skN]
 | c :: r => by
  cases b with
  | true =>
   rw [skN, Nat.add_comm, List.drop_succ_cons]
   exact sk_idem _ r
  | false =>
   rw [skN]
   split
   · rw [Nat.add_comm, List.drop_succ_cons]
     exact sk_idem _ r
   · split
     · rw [Nat.add_comm, List.drop_succ_cons]
       exact sk_idem _ r
     · rename_i h1 h2
       rw [List.drop_zero, skN, if_neg h1, if_neg h2]
theorem toks_skip {l : List UInt8} {i : Nat} (hi : i <= l.length) : toks l i = toks l (i + skN false (l.drop i)) := by
 have h1 := sk_in hi
 have h2 : skN false (l.drop (i + skN false (l.drop i))) = 0 := by
  rw [<- List.drop_drop]
  exact sk_idem false (l.drop i)
 rw [toks_step hi, toks_step h1, h2, Nat.add_zero]
theorem pre_pre {a b : List Tk} {x : Except (Int × Nat) (List Tk)} : pre a (pre b x) = pre (a ++ b) x := by
 cases x with
 | error _ => rfl
 | ok r => simp [pre]
end Go.Proofs.Ytddfmhccaapgjaa.Con
namespace Go.Proofs.Ytddfmhccaapgjaa.Con
open Go Go.RowKit Go.Kt Go.Kt.V
set_option linter.unusedSimpArgs false
set_option linter.unusedVariables false
set_option maxHeartbeats 4000000
inductive Ex where
 | mk (k n : Int) (s : List UInt8) (op : Int) (subs : List Ex) (a : Int)
def Ex.k : Ex -> Int | .mk k _ _ _ _ _ => k
def Ex.n : Ex -> Int | .mk _ n _ _ _ _ => n
def Ex.s : Ex -> List UInt8 | .mk _ _ s _ _ _ => s
def Ex.op : Ex -> Int | .mk _ _ _ op _ _ => op
def Ex.subs : Ex -> List Ex | .mk _ _ _ _ l _ => l
def Ex.a : Ex -> Int | .mk _ _ _ _ _ a => a
def tk0 : Tk := ⟨5, [], 0, -1⟩
def tk (ts : List Tk) (i : Nat) : Tk := (ts[i]?).getD tk0
def sg (ts : List Tk) (i : Nat) (s : List UInt8) : Bool := (tk ts i).k == 4 && decide ((tk ts i).t = s)
def wrongF (ts : List Tk) (i : Nat) : Int × Int := (if (tk ts i).k = 5 then 3 else 4, (tk ts i).a)
theorem tk_at {ts : List Tk} {i : Nat} (h : i < ts.length) : ts[i]? = some (tk ts i) := by
 unfold tk
 rw [List.getElem?_eq_getElem h]
 rfl
def EndL (ts : List Tk) : Prop := ∀ i, i < ts.length -> ((tk ts i).k = 5 ↔ i + 1 = ts.length)
theorem EndL.next {ts : List Tk} (h : EndL ts) {i : Nat} (hi : i < ts.length) (hk : (tk ts i).k ≠ 5) : i + 1 < ts.length := by
 have h2 : ¬ (i + 1 = ts.length) := fun e => hk ((h i hi).2 e)
 omega
theorem sg_k {ts : List Tk} {i : Nat} {s : List UInt8} (h : sg ts i s = true) : (tk ts i).k ≠ 5 := by
 simp only [sg, Bool.and_eq_true, beq_iff_eq] at h
 rw [h.1]
 decide
def opsL : List (List UInt8) := [[], [43], [45], [42], [47], [37], [60], [60, 61], [62], [62, 61], [61, 61], [33, 61], [38, 38], [124, 124], [45], [33]]
def rowOf (op : Int) : Int := if 3 <= op /\ op <= 5 then 5 else if op = 1 ∨ op = 2 then 4 else if 6 <= op /\ op <= 9 then 3 else if op = 10 ∨ op = 11 then 2 else if op = 12 then 1 else if op = 13 then 0 else 6
def opTx (op : Nat) : List UInt8 := (opsL[op]?).getD []
def opFrom (ts : List Tk) (k : Int) (i : Nat) : Nat -> Nat -> Int
 | 0, _ => 0
 | f + 1, op => if rowOf (op : Int) = k /\ sg ts i (opTx op) = true then (op : Int) else opFrom ts k i f (op + 1)
def opAt (ts : List Tk) (k : Int) (i : Nat) : Int := opFrom ts k i 13 1
theorem opFrom_sg {ts : List Tk} {k : Int} {i : Nat} : ∀ (f op : Nat), opFrom ts k i f op ≠ 0 -> (tk ts i).k ≠ 5
 | 0, _, h => absurd rfl h
 | f + 1, op, h => by
  rw [opFrom] at h
  split at h
  · rename_i hc
    exact sg_k hc.2
  · exact opFrom_sg f _ h
abbrev Pr := Except (Int × Int) (Ex × Nat)
def mapR (g : Ex -> Ex) : Pr -> Pr
 | .error e => .error e
 | .ok (x, j) => .ok (g x, j)
def andR : Pr -> (Ex -> Nat -> Pr) -> Pr
 | .error e, _ => .error e
 | .ok (x, j), g => g x j
def parR (ts : List Tk) : Pr -> Pr
 | .error e => .error e
 | .ok (x, j) => if sg ts j [41] then .ok (x, j + 1) else .error (wrongF ts j)
def nestR (d : Nat) (a : Int) (r : Pr) : Pr := if d = 20 then .error (21, a) else r
def inR (ts : List Tk) (i : Nat) : Pr :=
 if sg ts (i + 1) [40] then
  (if (tk ts (i + 2)).k = 1 then
   (if sg ts (i + 3) [41] then .ok (.mk 3 0 (tk ts (i + 2)).t 0 [] (tk ts i).a, i + 4) else .error (wrongF ts (i + 3)))
  else .error (wrongF ts (i + 2)))
 else .error (wrongF ts (i + 1))
def oneR (ts : List Tk) (E0 One : Nat -> Pr) (d i : Nat) : Pr :=
 if (sg ts i [45] || sg ts i [33]) = true then mapR (fun x => .mk 4 0 [] (if (tk ts i).t = [33] then 15 else 14) [x] (tk ts i).a) (nestR d (tk ts i).a (One (i + 1)))
 else if sg ts i [40] = true then nestR d (tk ts i).a (parR ts (E0 (i + 1)))
 else if (tk ts i).k = 3 then .ok (.mk 1 (tk ts i).n [] 0 [] (tk ts i).a, i + 1)
 else if (tk ts i).k = 1 then .ok (.mk 2 0 (tk ts i).t 0 [] (tk ts i).a, i + 1)
 else if (tk ts i).k = 2 /\ (tk ts i).t = [105, 110] then inR ts i
 else .error (wrongF ts i)
def loopR (ts : List Tk) (E : Nat -> Pr) (k : Int) : Nat -> Ex -> Nat -> Pr
 | 0, x, j => .ok (x, j)
 | g + 1, x, j => if opAt ts k j = 0 then .ok (x, j) else andR (E (j + 1)) fun y j' => loopR ts E k g (.mk 5 0 [] (opAt ts k j) [x, y] x.a) j'
def exprR (ts : List Tk) : Nat -> Nat -> Nat -> Nat -> Pr
 | 0, _, _, _ => .error (1, 0)
 | f + 1, k, d, i => if k = 6 then oneR ts (exprR ts f 0 (d + 1)) (exprR ts f 6 (d + 1)) d i else andR (exprR ts f (k + 1) d i) fun x j => loopR ts (exprR ts f (k + 1) d) (k : Int) (ts.length - j) x j
theorem mapR_ok {g : Ex -> Ex} {r : Pr} {x : Ex} {j : Nat} (h : mapR g r = .ok (x, j)) : ∃ y, r = .ok (y, j) /\ x = g y := by
 cases r with
 | error e => cases h
 | ok q =>
  obtain ⟨y, j'⟩ := q
  simp only [mapR, Except.ok.injEq, Prod.mk.injEq] at h
  obtain ⟨rfl, rfl⟩ := h
  exact ⟨y, rfl, rfl⟩
theorem nestR_ok {d : Nat} {a : Int} {r : Pr} {q : Ex × Nat} (h : nestR d a r = .ok q) : r = .ok q /\ d ≠ 20 := by
 unfold nestR at h
 split at h
 · cases h
 · exact ⟨h, by assumption⟩
theorem parR_ok {ts : List Tk} {r : Pr} {x : Ex} {j : Nat} (h : parR ts r = .ok (x, j)) : ∃ j', r = .ok (x, j') /\ sg ts j' [41] = true /\ j = j' + 1 := by
 cases r with
 | error e => cases h
 | ok q =>
  obtain ⟨y, j'⟩ := q
  simp only [parR] at h
  split at h
  · simp only [Except.ok.injEq, Prod.mk.injEq] at h
    obtain ⟨rfl, rfl⟩ := h
    exact ⟨j', rfl, by assumption, rfl⟩
  · cases h
theorem andR_ok {r : Pr} {g : Ex -> Nat -> Pr} {q : Ex × Nat} (h : andR r g = .ok q) : ∃ x j, r = .ok (x, j) /\ g x j = .ok q := by
 cases r with
 | error e => cases h
 | ok p => exact ⟨p.1, p.2, rfl, h⟩
theorem inR_ok {ts : List Tk} {i : Nat} {x : Ex} {j : Nat} (h : inR ts i = .ok (x, j)) : j = i + 4 /\ x = .mk 3 0 (tk ts (i + 2)).t 0 [] (tk ts i).a := by
 unfold inR at h
 split at h
 · split at h
   · split at h
     · simp only [Except.ok.injEq, Prod.mk.injEq] at h
       exact ⟨h.2.symm, h.1.symm⟩
     · cases h
   · cases h
 · cases h
theorem oneR_mono {ts : List Tk} {E0 One : Nat -> Pr} {d i : Nat} {x : Ex} {j : Nat} (hE : ∀ i x j, E0 i = .ok (x, j) -> i < j) (hO : ∀ i x j, One i = .ok (x, j) -> i < j) (h : oneR ts E0 One d i = .ok (x, j)) : i < j := by
 unfold oneR at h
 split at h
 · obtain ⟨y, h1, _⟩ := mapR_ok h
   have := hO _ _ _ (nestR_ok h1).1
   omega
 · split at h
   · obtain ⟨j', h1, _, rfl⟩ := parR_ok (nestR_ok h).1
     have := hE _ _ _ h1
     omega
   · split at h
     · simp only [Except.ok.injEq, Prod.mk.injEq] at h; omega
     · split at h
       · simp only [Except.ok.injEq, Prod.mk.injEq] at h; omega
       · split at h
         · have := (inR_ok h).1; omega
         · cases h
theorem loopR_mono {ts : List Tk} {E : Nat -> Pr} {k : Int} (hE : ∀ i x j, E i = .ok (x, j) -> i < j) : ∀ (g : Nat) (x : Ex) (j : Nat) {x' : Ex} {j' : Nat}, loopR ts E k g x j = .ok (x', j') -> j <= j'
 | 0, x, j, x', j', h => by
  simp only [loopR, Except.ok.injEq, Prod.mk.injEq] at h; omega
 | g + 1, x, j, x', j', h => by
  rw [loopR] at h
  split at h
  · simp only [Except.ok.injEq, Prod.mk.injEq] at h; omega
  · obtain ⟨y, m, h1, h2⟩ := andR_ok h
    have := hE _ _ _ h1
    have := loopR_mono hE g _ _ h2
    omega
theorem exprR_mono {ts : List Tk} : ∀ (f k d i : Nat) {x : Ex} {j : Nat}, exprR ts f k d i = .ok (x, j) -> i < j
 | 0, _, _, _, _, _, h => by cases h
 | f + 1, k, d, i, x, j, h => by
  rw [exprR] at h
  split at h
  · exact oneR_mono (fun i x j h => exprR_mono f _ _ i h) (fun i x j h => exprR_mono f _ _ i h) h
  · obtain ⟨y, m, h1, h2⟩ := andR_ok h
    have := exprR_mono f _ _ _ h1
    have := loopR_mono (fun i x j h => exprR_mono f _ _ i h) _ _ _ h2
    omega
def need (k d : Nat) : Nat := (20 - d) * 8 + (7 - k)
def parseR (ts : List Tk) (i : Nat) : Pr := exprR ts (need 0 0) 0 0 i
end Go.Proofs.Ytddfmhccaapgjaa.Con
namespace Go.Proofs.Ytddfmhccaapgjaa.Con
open Go Go.RowKit Go.Kt Go.Kt.V Go.Proofs.Ytddfmhccaapgjaa.Vc
set_option linter.unusedSimpArgs false
set_option linter.unusedVariables false
set_option maxHeartbeats 4000000
abbrev exv (k n : Int) (s : List UInt8) (op : Int) (sl : Sl) (a : Int) : List Value := [.int .i64 k, .int .i64 n, .string (T s), .int .i64 op, sl.v, .int .i64 a]
inductive RXN (w : World) (N : Nat -> Prop) : Nat -> Nat -> Ex -> List Value -> Prop
 | leaf (lo hi : Nat) (k n : Int) (s : List UInt8) (op a : Int) : RXN w N lo hi (.mk k n s op [] a) (exv k n s op Sl.nil a)
 | one (lo m g hi : Nat) (k n : Int) (s : List UInt8) (op a : Int) (x : Ex) (cs : List Value) : RXN w N lo m x cs -> lo <= g -> m <= g -> g < hi -> ¬ N g -> Blk w g 96 cs -> RXN w N lo hi (.mk k n s op [x] a) (exv k n s op ⟨some ⟨g, 0, none⟩, 1, 1⟩ a)
 | two (lo m m' m2 g hi : Nat) (k n : Int) (s : List UInt8) (op a : Int) (x y : Ex) (cs ds : List Value) : RXN w N lo m x cs -> m <= m' -> RXN w N m' m2 y ds -> lo <= m' -> m <= g -> m' <= g -> m2 <= g -> g < hi -> ¬ N g -> Blk w g 96 (cs ++ ds) -> RXN w N lo hi (.mk k n s op [x, y] a) (exv k n s op ⟨some ⟨g, 0, none⟩, 2, 2⟩ a)
abbrev RX (w : World) : Nat -> Nat -> Ex -> List Value -> Prop := RXN w fun _ => False
section
variable {w w' : World} {N N' : Nat -> Prop} {lo hi : Nat} {x : Ex} {cs : List Value}
theorem RXN.keep (h : RXN w N lo hi x cs) : (∀ k, lo <= k -> k < hi -> ¬ N k -> k < w.heap.size -> w'.heap[k]? = w.heap[k]?) -> RXN w' N lo hi x cs := by
 induction h with
 | leaf lo hi k n s op a => exact fun _ => .leaf ..
 | one lo m g hi k n s op a x cs h1 h2 h3 h4 hn h5 ih =>
  intro hk
  exact .one lo m g hi k n s op a x cs (ih fun j h6 h7 h8 => hk j h6 (by omega) h8) h2 h3 h4 hn ((hk g h2 h4 hn h5.lt).trans h5)
 | two lo m m' m2 g hi k n s op a x y cs ds h1 h2 h3 h4 h5 h6 h7 h8 hn h9 ih1 ih2 =>
  intro hk
  exact .two lo m m' m2 g hi k n s op a x y cs ds (ih1 fun j a1 a2 a3 => hk j a1 (by omega) a3) h2 (ih2 fun j a1 a2 a3 => hk j (by omega) (by omega) a3) h4 h5 h6 h7 h8 hn ((hk g (by omega) h8 hn h9.lt).trans h9)
theorem RXN.wide (h : RXN w N lo hi x cs) : ∀ {lo' hi' : Nat}, lo' <= lo -> hi <= hi' -> RXN w N lo' hi' x cs := by
 induction h with
 | leaf lo hi k n s op a => exact fun _ _ => .leaf ..
 | one lo m g hi k n s op a x cs h1 h2 h3 h4 hn h5 ih =>
  intro lo' hi' a1 a2
  exact .one lo' m g hi' k n s op a x cs (ih a1 (Nat.le_refl _)) (by omega) h3 (by omega) hn h5
 | two lo m m' m2 g hi k n s op a x y cs ds h1 h2 h3 h4 h5 h6 h7 h8 hn h9 ih1 ih2 =>
  intro lo' hi' a1 a2
  exact .two lo' m m' m2 g hi' k n s op a x y cs ds (ih1 a1 (Nat.le_refl _)) h2 h3 (by omega) h5 h6 h7 (by omega) hn h9
theorem RXN.holes (h : RXN w N lo hi x cs) : (∀ k, lo <= k -> k < hi -> ¬ N k -> ¬ N' k) -> RXN w N' lo hi x cs := by
 induction h with
 | leaf lo hi k n s op a => exact fun _ => .leaf ..
 | one lo m g hi k n s op a x cs h1 h2 h3 h4 hn h5 ih =>
  intro hk
  exact .one lo m g hi k n s op a x cs (ih fun j h6 h7 => hk j h6 (by omega)) h2 h3 h4 (hk g h2 h4 hn) h5
 | two lo m m' m2 g hi k n s op a x y cs ds h1 h2 h3 h4 h5 h6 h7 h8 hn h9 ih1 ih2 =>
  intro hk
  exact .two lo m m' m2 g hi k n s op a x y cs ds (ih1 fun j a1 a2 => hk j a1 (by omega)) h2 (ih2 fun j a1 a2 => hk j (by omega) (by omega)) h4 h5 h6 h7 h8 (hk g (by omega) h8 hn) h9
theorem RXN.cells (h : RXN w N lo hi x cs) : ∃ sl : Sl, cs = exv x.k x.n x.s x.op sl x.a /\ (sl.n = x.subs.length) := by
 cases h with
 | leaf => exact ⟨_, rfl, rfl⟩
 | one => exact ⟨_, rfl, rfl⟩
 | two => exact ⟨_, rfl, rfl⟩
theorem RXN.only (h : RXN w N lo hi x cs) {bs : List Nat} (hO : Only bs w w') (hb : ∀ k, k ∈ bs -> k < lo ∨ hi <= k ∨ N k) : RXN w' N lo hi x cs :=
 h.keep fun k h1 h2 hn h3 => hO.block k h3 fun hm => by
  rcases hb k hm with e | e | e
  · omega
  · omega
  · exact hn e
end
theorem buildX (w : World) (vs : List (List Value)) (hv : ∀ v, v ∈ vs -> v.length = 6) (h0 : 0 < vs.length) (hm : vs.length <= 100) {parts : Array (Nat × Value)} (hp : parts = (((vs.map fun v => Value.agg v.toArray).zipIdx 0).map fun x => (x.2, x.1)).toArray) :
  ∃ w', (Instr.buildSlice 94 vs.length parts).run Try.prog w = .ok (Sl.v ⟨some ⟨w.heap.size, 0, none⟩, vs.length, vs.length⟩) w' /\ Blk w' w.heap.size 96 vs.flatten /\ Only [] w w' := by
 have hc : ((vs.map fun v => Value.agg v.toArray).flatMap fun v => v.cells.toList) = vs.flatten := by
  clear hv h0 hm hp
  induction vs with
  | nil => rfl
  | cons v vs ih => rw [List.map_cons, List.flatMap_cons, ih, List.flatten_cons]; rfl
 have hs : Try.t96.size = 6 := rfl
 have hrun := run_buildSlice (P := Try.prog) w 94 96 vs.length parts ((vs.map fun v => Value.agg v.toArray).flatMap fun v => v.cells.toList).toArray Try.t96 _ (by kernel_rfl) (by kernel_rfl) rfl (by rw [hs]; omega) (by rw [hs]; omega)
  (by
   subst hp
   rw [List.toList_toArray, hs]
   refine Go.Great.fill_whole (s := 6) (by decide) (vs.map fun v => Value.agg v.toArray) _ (fun v hm => ?_) ?_
   · obtain ⟨x, hx, rfl⟩ := List.mem_map.1 hm
     have := hv x hx
     simpa [Value.cells] using this
   · simp)
 rw [hc] at hrun
 exact ⟨_, hrun, Blk.alloc w _ _, Only.alloc _ _⟩
def exT (v : Value) : Prop := ∃ (k n : Int) (s : List UInt8) (op : Int) (sl : Sl) (a : Int), v = .agg (exv k n s op sl a).toArray
section
variable {F G : Nat -> Prop} {ts : List Tk} {w w' : World} {b : Nat} {l sn : Sl} {i : Nat} {fc fa d : Int}
theorem wrongF_ne : (wrongF ts i).1 ≠ 0 := by
 unfold wrongF
 dsimp only
 split <;> decide
end
section
variable {F G : Nat -> Prop} {ts : List Tk} {w w' : World} {b : Nat} {l sn : Sl} {i : Nat} {fc fa d : Int}
theorem loop_zero {E : Nat -> Pr} {k : Int} {g : Nat} {x : Ex} {j : Nat} (h : opAt ts k j = 0) : loopR ts E k g x j = .ok (x, j) := by
 cases g with
 | zero => rfl
 | succ g => rw [loopR, if_pos h]
end
def endN (ts : List Tk) : Nat := (ts.takeWhile fun t => t.k != 5).length
theorem endN_le (ts : List Tk) : endN ts <= ts.length := by
 unfold endN
 exact (List.takeWhile_sublist _).length_le
theorem tk_cons_s {t : Tk} {ts : List Tk} {i : Nat} : tk (t :: ts) (i + 1) = tk ts i := by unfold tk; rw [List.getElem?_cons_succ]
theorem tk_cons_z {t : Tk} {ts : List Tk} : tk (t :: ts) 0 = t := rfl
theorem endN_lt : ∀ (ts : List Tk) (i : Nat), i < endN ts -> (tk ts i).k ≠ 5
 | [], _, h => by simp [endN] at h
 | t :: ts, i, h => by
  unfold endN at h
  rw [List.takeWhile_cons] at h
  split at h
  · rename_i ht
    cases i with
    | zero => rw [tk_cons_z]; simpa using ht
    | succ i => rw [tk_cons_s]; exact endN_lt ts i (by simpa [endN] using h)
  · simp at h
theorem endN_at : ∀ (ts : List Tk), endN ts < ts.length -> (tk ts (endN ts)).k = 5
 | [], h => by simp at h
 | t :: ts, h => by
  unfold endN at h ⊢
  rw [List.takeWhile_cons] at h ⊢
  split
  · rename_i ht
    rw [if_pos ht] at h
    rw [List.length_cons, tk_cons_s]
    exact endN_at ts (by simpa [endN] using h)
  · rename_i ht
    rw [List.length_nil, tk_cons_z]
    simpa using ht
theorem endN_end {ts : List Tk} (h : endN ts + 1 = ts.length) : EndL ts := fun i hi => by
 constructor
 · intro hk
   refine Decidable.byContradiction fun hn => endN_lt ts i (by omega) hk
 · intro hn
   have : i = endN ts := by omega
   rw [this]
   exact endN_at ts (by omega)
theorem end_endN {ts : List Tk} (h : EndL ts) (h0 : 0 < ts.length) : endN ts + 1 = ts.length := by
 have h1 := endN_le ts
 rcases Nat.lt_or_ge (endN ts) ts.length with hl | hl
 · exact (h _ hl).1 (endN_at ts hl)
 · have := endN_lt ts (ts.length - 1) (by omega)
   exact absurd ((h (ts.length - 1) (by omega)).2 (by omega)) this
def ex0 : Ex := .mk 0 0 [] 0 [] 0
def parseA (ts : List Tk) (a : Int) : Ex × Int × Int × Int :=
 if 0 <= a /\ a < ts.length /\ endN ts + 1 = ts.length then (match parseR ts a.toNat with
  | .error (c, p) => (ex0, 0, c, p)
  | .ok (x, j) => (x, (j : Int), 0, 0))
 else (ex0, 0, 1, -1)
theorem rx0 (w : World) (lo hi : Nat) : RX w lo hi ex0 [.int .i64 0, .int .i64 0, .string (ByteArray.mk #[]), .int .i64 0, Sl.nil.v, .int .i64 0] := .leaf ..
def readA (l : List UInt8) : Ex × Int × Int :=
 if (tokensM l).2.1 ≠ 0 then (ex0, (tokensM l).2.1, (tokensM l).2.2)
 else if (parseA (tokensM l).1 0).2.2.1 ≠ 0 then (ex0, (parseA (tokensM l).1 0).2.2.1, (parseA (tokensM l).1 0).2.2.2)
 else if (tk (tokensM l).1 (parseA (tokensM l).1 0).2.1.toNat).k ≠ 5 then (ex0, 4, (tk (tokensM l).1 (parseA (tokensM l).1 0).2.1.toNat).a)
 else ((parseA (tokensM l).1 0).1, 0, (parseA (tokensM l).1 0).2.2.2)
def rEx : Nat -> Rp Ex
 | 0 => fun _ _ _ _ => False
 | d + 1 => fun w F x cs => ∃ sl : Sl, cs = exv x.k x.n x.s x.op sl x.a /\ SliceF (rEx d) 6 w F sl x.subs
theorem rEx_ok : ∀ d, (rEx d).Ok
 | 0 => ⟨fun h _ => h.elim, fun h => h.elim, fun h _ => h.elim, fun h => h.elim⟩
 | d + 1 => ⟨fun ⟨sl, h1, h2⟩ hk => ⟨sl, h1, SliceF.keep (rEx_ok d) h2 (by decide) hk⟩, fun ⟨sl, h1, h2⟩ => ⟨sl, h1, SliceF.inHeap (rEx_ok d) h2 (by decide)⟩, fun ⟨sl, h1, h2⟩ hk => ⟨sl, h1, SliceF.mono (rEx_ok d) h2 hk⟩, fun ⟨sl, h1, h2⟩ => by
  subst h1
  intro v hv
  simp only [List.mem_cons, List.not_mem_nil, or_false] at hv
  rcases hv with rfl | rfl | rfl | rfl | rfl | rfl <;> rfl⟩
theorem slImp {α : Type} {r q : Rp α} {size : Nat} {w : World} {F : Nat -> Prop} {s : Sl} {xs : List α} (h : SliceF r size w F s xs) (hi : ∀ x cs, x ∈ xs -> r w F x cs -> q w F x cs) : SliceF q size w F s xs :=
 ⟨h.len, h.cap, h.nil0, h.big, fun j x hx => by
  obtain ⟨base, cs, h1, h2, h3, h4, h5⟩ := h.at_ j x hx
  exact ⟨base, cs, h1, h2, h3, h4, hi x cs (List.mem_of_getElem? hx) h5⟩⟩
section
variable {w w' : World} {F : Nat -> Prop} {x y : Ex} {cs ds : List Value}
theorem rEx_up : ∀ {d : Nat} {x : Ex} {cs : List Value}, rEx d w F x cs -> rEx (d + 1) w F x cs
 | 0, _, _, h => h.elim
 | d + 1, x, cs, ⟨sl, h1, h2⟩ => ⟨sl, h1, slImp h2 fun x cs _ h => rEx_up h⟩
theorem rEx_le {d e : Nat} (h : d <= e) (hx : rEx d w F x cs) : rEx e w F x cs := by
  induction e with
  | zero => have : d = 0 := by omega
            subst this; exact hx
  | succ e ih =>
    by_cases he : d = e + 1
    · subst he; exact hx
    · exact rEx_up (ih (by omega))
theorem rEx_only {d : Nat} (h : rEx d w F x cs) (hO : Only [] w w') : rEx d w' F x cs := (rEx_ok d).only h hO (by simp)
theorem RXN.ex {N : Nat -> Prop} {lo hi : Nat} (h : RXN w N lo hi x cs) : ∃ d, rEx d w (fun k => lo <= k /\ k < hi) x cs := by
 induction h with
 | leaf lo hi k n s op a => exact ⟨1, Sl.nil, rfl, SliceF.nil _ _ _ _⟩
 | one lo m g hi k n s op a x cs h1 h2 h3 h4 hn h5 ih =>
  obtain ⟨d, ih⟩ := ih
  obtain ⟨sl, hcs, _⟩ := h1.cells
  refine ⟨d + 1, _, rfl, rfl, Nat.le_refl _, fun h => (by cases h), (by decide : (1 : Nat) <= 9223372036854775807), fun j y hj => ?_⟩
  have hj0 : j = 0 := by
   have := (List.getElem?_eq_some_iff.1 hj).1
   simp only [Ex.subs, List.length_singleton] at this
   omega
  subst hj0
  simp only [Ex.subs, List.getElem?_cons_zero, Option.some.injEq] at hj
  subst hj
  exact ⟨⟨g, 0, none⟩, cs, rfl, ⟨h2, h4⟩, by rw [hcs]; rfl, by rw [Nat.zero_mul]; exact h5.cells 0 cs fun j v hv => by rw [Nat.zero_add]; exact hv, (rEx_ok d).mono ih fun k hk => ⟨hk.1, by omega⟩⟩
 | two lo m m' m2 g hi k n s op a x y cs ds h1 h2 h3 h4 h5 h6 h7 h8 hn h9 ih1 ih2 =>
  obtain ⟨d1, ih1⟩ := ih1
  obtain ⟨d2, ih2⟩ := ih2
  obtain ⟨sl, hcs, _⟩ := h1.cells
  obtain ⟨sl2, hds, _⟩ := h3.cells
  have e1 : cs.length = 6 := by rw [hcs]; rfl
  have e2 : ds.length = 6 := by rw [hds]; rfl
  refine ⟨max d1 d2 + 1, _, rfl, rfl, Nat.le_refl _, fun h => (by cases h), (by decide : (2 : Nat) <= 9223372036854775807), fun j y hj => ?_⟩
  rcases j with _ | _ | j
  · simp only [Ex.subs, List.getElem?_cons_zero, Option.some.injEq] at hj
    subst hj
    exact ⟨⟨g, 0, none⟩, cs, rfl, ⟨by dsimp only; omega, h8⟩, e1, by rw [Nat.zero_mul]; exact h9.cells 0 cs fun j v hv => by rw [Nat.zero_add, List.getElem?_append_left (List.getElem?_eq_some_iff.1 hv).1]; exact hv, (rEx_ok _).mono (rEx_le (Nat.le_max_left _ _) ih1) fun k hk => ⟨hk.1, by omega⟩⟩
  · simp only [Ex.subs, List.getElem?_cons_succ, List.getElem?_cons_zero, Option.some.injEq] at hj
    subst hj
    exact ⟨⟨g, 0, none⟩, ds, rfl, ⟨by dsimp only; omega, h8⟩, e2, by
     rw [addr_lit]
     exact h9.cells 6 ds fun j v hv => by rw [List.getElem?_append_right (by omega), e1, Nat.add_sub_cancel_left]; exact hv, (rEx_ok _).mono (rEx_le (Nat.le_max_right _ _) ih2) fun k hk => ⟨by omega, by omega⟩⟩
  · simp [Ex.subs] at hj
end
def all2 (f : Ex -> Ex -> Bool) : List Ex -> List Ex -> Bool
 | x :: xs, y :: ys => f x y && all2 f xs ys
 | _, _ => true
def diffM (t : Bool) (x y : Ex) : Bool := (((((x.k != y.k) || (x.n != y.n)) || (!decide (x.s = y.s))) || (x.op != y.op)) || (t && (x.a != y.a))) || ((x.subs.length : Int) != (y.subs.length : Int))
def sameM (t : Bool) : Nat -> Ex -> Ex -> Bool
 | 0, _, _ => true
 | d + 1, x, y => if diffM t x y then false else all2 (sameM t d) x.subs y.subs
theorem all2_drop {f : Ex -> Ex -> Bool} {xs ys : List Ex} {n : Nat} {x y : Ex} (hx : xs[n]? = some x) (hy : ys[n]? = some y) : all2 f (xs.drop n) (ys.drop n) = (f x y && all2 f (xs.drop (n + 1)) (ys.drop (n + 1))) := by
 have e : ∀ {l : List Ex} {z : Ex}, l[n]? = some z -> l.drop n = z :: l.drop (n + 1) := fun h => by
  rw [List.drop_eq_getElem_cons (List.getElem?_eq_some_iff.1 h).1, (List.getElem?_eq_some_iff.1 h).2]
 rw [e hx, e hy, all2]
theorem T_eq (l m : List UInt8) : ((T l).toList == (T m).toList) = decide (l = m) := ba_eq l m
end Go.Proofs.Ytddfmhccaapgjaa.Con
