/-
  Own work: the evaluator's small case; EvalReckons.
-/
import Derived.Test.YtmanockofcopjaaGreatDoorEv
namespace Go.Proofs.YtmanockofcopjaaGreatDoor.Con
open Go Go.RowKit Go.Kt Go.Kt.V Go.Proofs.YtmanockofcopjaaGreatDoor.Vc
set_option linter.unusedSimpArgs false
set_option linter.unusedVariables false
set_option maxHeartbeats 4000000

/-! ## literals -/
theorem buildI (w : World) (l : List Int) (hl : ∀ x, x ∈ l → InI x) {n : Nat} {parts : Array (Nat × Value)} (hp : parts = (((l.map fun x => Value.int .i64 x).zipIdx 0).map fun x => (x.2, x.1)).toArray) (hn : l.length = n) (h0 : 0 < n) (hsm : n * 1 ≤ 16777216) :
    ∃ s w', (Instr.buildSlice 26 n parts).run Tryz.prog w = .ok (Sl.v s) w' ∧ SliceF rInt 1 w' (fun k => w.heap.size ≤ k) s l ∧ Only [] w w' := by
  have hE : Els rInt 1 w (fun _ => False) l ((l.map fun x => Value.int .i64 x).map fun v => v.cells.toList) := by
    clear hp hn
    induction l with
    | nil => trivial
    | cons x l ih => exact ⟨⟨rfl, rfl, hl x (by simp)⟩, ih fun y hy => hl y (by simp [hy])⟩
  obtain ⟨s, w', h1, h2, h3, _⟩ := build_own (P := Tryz.prog) (t := 26) (e := 3) (i := Tryz.t3) (r := rInt) (size := 1) (by kernel_rfl) (by kernel_rfl) rfl rfl (by decide) hp (by rw [List.length_map]; exact hn) h0 hsm rInt_ok hE
  exact ⟨s, w', h1, SliceF.mono rInt_ok (h2.slice rInt_ok) fun k hk => hk.elim False.elim fun h => h.1, h3⟩
theorem buildT (w : World) (l : List (List UInt8)) {n : Nat} {parts : Array (Nat × Value)} (hp : parts = (((l.map fun x => Value.string (T x)).zipIdx 0).map fun x => (x.2, x.1)).toArray) (hn : l.length = n) (h0 : 0 < n) (hsm : n * 1 ≤ 16777216) :
    ∃ s w', (Instr.buildSlice 25 n parts).run Tryz.prog w = .ok (Sl.v s) w' ∧ SliceF rTx 1 w' (fun k => w.heap.size ≤ k) s l ∧ Only [] w w' := by
  obtain ⟨s, w', h1, h2, h3⟩ := buildS w l hp hn h0 hsm
  exact ⟨s, w', h1, SliceF.mono rTx_ok (flatS h2) fun k hk => hk.1, h3⟩

/-! ## the small case -/
def evX : Ex := .mk 5 0 [] 12 [.mk 2 0 [121] 0 [] 0, .mk 5 0 [] 4 [.mk 2 0 [120] 0 [] 5, .mk 2 0 [121] 0 [] 9] 5] 0
def evY : Ex := .mk 5 0 [] 1 [.mk 5 0 [] 4 [.mk 2 0 [120] 0 [] 0, .mk 2 0 [121] 0 [] 4] 0, .mk 3 0 [115, 49] 0 [] 8] 0
def evT1 : List UInt8 := [121, 32, 38, 38, 32, 120, 32, 47, 32, 121]
def evT2 : List UInt8 := [120, 32, 47, 32, 121, 32, 43, 32, 105, 110, 40, 115, 49, 41]
theorem ev_read1 : readA evT1 = (evX, 0, 0) := by rfl
theorem ev_read2 : readA evT2 = (evY, 0, 0) := by rfl
theorem ev_1 (d : Nat) : evM ⟨[[120], [121]], [7, 0], []⟩ (d + 3) evX = (0, 0) := by rfl
theorem ev_2 (d : Nat) : (evM ⟨[[120], [121]], [7, 0], []⟩ (d + 3) evY).2 = 10 := by rfl
theorem ev_3 (d : Nat) : evM ⟨[[120], [121]], [7, 2], [[115, 49]]⟩ (d + 3) evY = (4, 0) := by rfl
theorem evsmall_c (w : World) (hE : Er w) : Calls Tryz.prog 8 #[] w fun e w' => e = .returned (.bool true) ∧ Only [] w w' := by
  refine ret (pavanelaw06_small_wp (fun v w' => v = .bool true ∧ Only [] w w') w ?_)
  unfold pavanelaw06_small_vc
  have hr := read_c evT1 hE
  rw [ev_read1] at hr
  refine hr.mono ?_
  rintro _ w0 ⟨cs, rfl, hX, hO0⟩
  have z0 := hO0.size
  obtain ⟨d1, hd1⟩ := hX.ex
  obtain ⟨xl, rfl, _⟩ := hX.cells
  refine ⟨_, _, _, _, _, _, _, _, rfl, fun k0 k1 w1 hk0 hk0' hk1 hk1' hO1 => ?_⟩
  have z1 := hO1.size
  obtain ⟨l1, w2, a2, b2, c2⟩ := buildT w1 [[120], [121]] (n := 2) (parts := #[(0, .string (T [120])), (1, .string (T [121]))]) rfl rfl (by decide) (by decide)
  have z2 := c2.size
  obtain ⟨l2, w3, a3, b3, c3⟩ := buildI w2 [7, 0] (by simp [InI]) (n := 2) (parts := #[(0, .int .i64 7), (1, .int .i64 0)]) rfl rfl (by decide) (by decide)
  have z3 := c3.size
  refine ⟨l1, w2, a2, c2.same (by simp; omega), l2, w3, a3, c3.same (by simp; omega), ?_⟩
  have hev1 := eval_c (e := ⟨[[120], [121]], [7, 0], []⟩) (F := fun _ => True) (rEx_le (Nat.le_add_right d1 3) (rEx_only hd1 ((hO1.tr0 c2).tr0 c3))) (SliceF.only rTx_ok (by decide) (SliceF.mono rTx_ok b2 fun _ _ => trivial) c3 (by simp)) (SliceF.mono rInt_ok b3 fun _ _ => trivial) (SliceF.nil rTx 1 w3 fun _ => True)
  rw [show (evM ⟨[[120], [121]], [7, 0], []⟩ (d1 + 3) (evX, 0, 0).1) = (0, 0) from ev_1 d1] at hev1
  refine hev1.mono ?_
  rintro _ w4 ⟨rfl, hO4⟩
  have z4 := hO4.size
  have hO04 := (((hO0.tr0 hO1).tr0 c2).tr0 c3).tr0 hO4
  refine ⟨_, _, rfl, hO4.same (by simp; omega), ?_⟩
  have hr2 := read_c evT2 (hE.only hO04)
  rw [ev_read2] at hr2
  refine hr2.mono ?_
  rintro _ w5 ⟨ds, rfl, hY, hO5⟩
  have z5 := hO5.size
  obtain ⟨d2, hd2⟩ := hY.ex
  obtain ⟨yl, rfl, _⟩ := hY.cells
  refine ⟨_, _, _, _, _, _, _, _, rfl, hO5.same (by simp; omega), fun k2 k3 w6 hk2 hk2' hk3 hk3' hO6 => ?_⟩
  have z6 := hO6.size
  obtain ⟨l4, w7, a7, b7, c7⟩ := buildT w6 [[120], [121]] (n := 2) (parts := #[(0, .string (T [120])), (1, .string (T [121]))]) rfl rfl (by decide) (by decide)
  have z7 := c7.size
  obtain ⟨l5, w8, a8, b8, c8⟩ := buildI w7 [7, 0] (by simp [InI]) (n := 2) (parts := #[(0, .int .i64 7), (1, .int .i64 0)]) rfl rfl (by decide) (by decide)
  have z8 := c8.size
  refine ⟨l4, w7, a7, c7.same (by simp; omega), l5, w8, a8, c8.same (by simp; omega), ?_⟩
  have hO58 := (hO6.tr0 c7).tr0 c8
  have hev2 := eval_c (e := ⟨[[120], [121]], [7, 0], []⟩) (F := fun _ => True) (rEx_le (Nat.le_add_right d2 3) (rEx_only hd2 hO58)) (SliceF.only rTx_ok (by decide) (SliceF.mono rTx_ok b7 fun _ _ => trivial) c8 (by simp)) (SliceF.mono rInt_ok b8 fun _ _ => trivial) (SliceF.nil rTx 1 w8 fun _ => True)
  refine hev2.mono ?_
  rintro _ w9 ⟨rfl, hO9⟩
  have z9 := hO9.size
  refine ⟨_, _, rfl, hO9.same (by simp; omega), ?_⟩
  obtain ⟨l6, w10, a10, b10, c10⟩ := buildT w9 [[120], [121]] (n := 2) (parts := #[(0, .string (T [120])), (1, .string (T [121]))]) rfl rfl (by decide) (by decide)
  have z10 := c10.size
  obtain ⟨l7, w11, a11, b11, c11⟩ := buildI w10 [7, 2] (by simp [InI]) (n := 2) (parts := #[(0, .int .i64 7), (1, .int .i64 2)]) rfl rfl (by decide) (by decide)
  have z11 := c11.size
  obtain ⟨l8, w12, a12, b12, c12⟩ := buildT w11 [[115, 49]] (n := 1) (parts := #[(0, .string (T [115, 49]))]) rfl rfl (by decide) (by decide)
  have z12 := c12.size
  refine ⟨l6, w10, a10, c10.same (by simp; omega), l7, w11, a11, c11.same (by simp; omega), l8, w12, a12, c12.same (by simp; omega), ?_⟩
  have hO512 := (((hO58.tr0 hO9).tr0 c10).tr0 c11).tr0 c12
  have hev3 := eval_c (e := ⟨[[120], [121]], [7, 2], [[115, 49]]⟩) (F := fun _ => True) (rEx_le (Nat.le_add_right d2 3) (rEx_only hd2 hO512)) (SliceF.only rTx_ok (by decide) (SliceF.mono rTx_ok b10 fun _ _ => trivial) (c11.tr0 c12) (by simp)) (SliceF.only rInt_ok (by decide) (SliceF.mono rInt_ok b11 fun _ _ => trivial) c12 (by simp)) (SliceF.mono rTx_ok b12 fun _ _ => trivial)
  rw [show (evM ⟨[[120], [121]], [7, 2], [[115, 49]]⟩ (d2 + 3) (evY, 0, 0).1) = (4, 0) from ev_3 d2] at hev3
  refine hev3.mono ?_
  rintro _ w13 ⟨rfl, hO13⟩
  refine ⟨_, _, rfl, hO13.same (by simp; omega), ?_, ((hO04.tr0 hO5).tr0 hO512).tr0 hO13⟩
  have : (evM ⟨[[120], [121]], [7, 0], []⟩ (d2 + 3) (evY, 0, 0).1).2 = 10 := ev_2 d2
  rw [this]
  rfl
end Go.Proofs.YtmanockofcopjaaGreatDoor.Con
