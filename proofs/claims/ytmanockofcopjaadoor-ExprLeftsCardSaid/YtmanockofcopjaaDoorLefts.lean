/-
  Own work: ExprLefts: an operator's row stands to the left.
-/
import Derived.Test.YtmanockofcopjaaDoorLefts0
namespace Go.Proofs.YtmanockofcopjaaDoor.Con
open Go Go.RowKit Go.Kt Go.Kt.V Go.Proofs.YtmanockofcopjaaDoor.Vc
set_option linter.unusedSimpArgs false
set_option linter.unusedVariables false
set_option maxHeartbeats 4000000

/-! ## the contract -/
theorem lf_and (x : Int) {m : Nat} (hm : m < 9223372036854775808) : 0 ≤ bits .and .i64 x (m : Int) ∧ bits .and .i64 x (m : Int) ≤ m := by
  have h1 : (BitVec.ofInt 64 (m : Int)).toNat = m := by simp [BitVec.toNat_ofInt]; omega
  have h2 : (BitVec.ofInt 64 x &&& BitVec.ofInt 64 (m : Int)).toNat ≤ m := by
    rw [BitVec.toNat_and, h1]; exact Nat.and_le_right
  have h3 : bits .and .i64 x (m : Int) = IntKind.i64.wrap ((BitVec.ofInt 64 x &&& BitVec.ofInt 64 (m : Int)).toNat : Int) := rfl
  rw [h3, wr' (by omega) (by omega)]
  omega
theorem lf_ix (x : Int) : ∃ i : Nat, i < 13 ∧ (bits .and .i64 x 1023).tmod 13 = (i : Int) := by
  obtain ⟨h0, h1⟩ := lf_and x (m := 1023) (by decide)
  replace h0 : 0 ≤ bits .and .i64 x 1023 := h0
  generalize bits .and .i64 x 1023 = y at *
  rw [Int.tmod_eq_emod_of_nonneg h0]
  exact ⟨(y % 13).toNat, by omega, by omega⟩
theorem lf_build (w : World) (l : List Int) (hl : ∀ x, x ∈ l → InI x) {n : Nat} {parts : Array (Nat × Value)} (hp : parts = (((l.map fun x => Value.int .i64 x).zipIdx 0).map fun x => (x.2, x.1)).toArray) (hn : l.length = n) (h0 : 0 < n) (hsm : n * 1 ≤ 16777216) :
    ∃ s w', (Instr.buildSlice 24 n parts).run Tryd.prog w = .ok (Sl.v s) w' ∧ SliceF rInt 1 w' (fun k => w.heap.size ≤ k) s l ∧ Only [] w w' := by
  have hE : Els rInt 1 w (fun _ => False) l ((l.map fun x => Value.int .i64 x).map fun v => v.cells.toList) := by
    clear hp hn
    induction l with
    | nil => trivial
    | cons x l ih => exact ⟨⟨rfl, rfl, hl x (by simp)⟩, ih fun y hy => hl y (by simp [hy])⟩
  obtain ⟨s, w', h1, h2, h3, _⟩ := build_own (P := Tryd.prog) (t := 24) (e := 3) (i := Tryd.t3) (r := rInt) (size := 1) (by kernel_rfl) (by kernel_rfl) rfl rfl (by decide) hp (by rw [List.length_map]; exact hn) h0 hsm rInt_ok hE
  exact ⟨s, w', h1, SliceF.mono rInt_ok (h2.slice rInt_ok) fun k hk => hk.elim False.elim fun h => h.1, h3⟩
theorem lefts_c {w : World} (a b : Int) (hE : Er w) (hT : Tb w) : Calls Tryd.prog 3 #[.int .i64 a, .int .i64 b] w fun e w' => e = .returned (.bool true) ∧ Only [] w w' := by
  refine ret (pavanelaw05_ExprLefts_wp a b (fun v w' => v = .bool true ∧ Only [] w w') w ?_)
  unfold pavanelaw05_ExprLefts_vc
  refine (small_c w hE hT).mono ?_
  rintro _ w0 ⟨rfl, hO0⟩
  have z0 := hO0.size
  obtain ⟨l0, w1, k1, hS, hO1⟩ := buildS w0 lfS (n := 13) (parts := #[(0, .string (T [124, 124])), (1, .string (T [38, 38])), (2, .string (T [61, 61])), (3, .string (T [33, 61])), (4, .string (T [60])), (5, .string (T [60, 61])), (6, .string (T [62])), (7, .string (T [62, 61])), (8, .string (T [43])), (9, .string (T [45])), (10, .string (T [42])), (11, .string (T [47])), (12, .string (T [37]))]) rfl rfl (by decide) (by decide)
  have hS := flatS hS
  have z1 := hO1.size
  obtain ⟨l1, w2, k2, hR, hO2⟩ := lf_build w1 lfR (by intro x hx; simp only [lfR, List.mem_cons, List.not_mem_nil, or_false] at hx; unfold InI; omega) (n := 13) (parts := #[(0, .int .i64 0), (1, .int .i64 1), (2, .int .i64 2), (3, .int .i64 2), (4, .int .i64 3), (5, .int .i64 3), (6, .int .i64 3), (7, .int .i64 3), (8, .int .i64 4), (9, .int .i64 4), (10, .int .i64 5), (11, .int .i64 5), (12, .int .i64 5)]) rfl rfl (by decide) (by decide)
  have z2 := hO2.size
  have hO02 := (hO0.tr0 hO1).tr0 hO2
  obtain ⟨i, hi, ei⟩ := lf_ix a
  obtain ⟨j, hj, ej⟩ := lf_ix b
  rw [ei, ej]
  have hSn : l0.n = 13 := hS.len
  have hRn : l1.n = 13 := hR.len
  refine ⟨true, rfl, l0, w1, k1, l1, w2, k2, fun w3 hO3 => ⟨fun _ => True, ?_⟩⟩
  have hS3 := SliceF.only rTx_ok (by decide) hS (hO2.tr0 hO3) (by simp)
  have hR3 := SliceF.only rInt_ok (by decide) hR hO3 (by simp)
  have hO03 := hO02.tr0 hO3
  have hb : ∀ (x : List UInt8), x ∈ lfS → x.length ≤ 2 := by decide
  obtain ⟨p0, s, cs0, g1, g2, g3, g4, g5, g6⟩ := hS3.get (i := (i : Int)) (Int.natCast_nonneg i) (by omega)
  obtain ⟨p1, t, cs1, f1, f2, f3, f4, f5, f6⟩ := hS3.get (i := (j : Int)) (Int.natCast_nonneg j) (by omega)
  rw [Int.toNat_natCast] at g2 f2
  have hs2 := hb s (List.mem_of_getElem? g2)
  have ht2 := hb t (List.mem_of_getElem? f2)
  unfold rTx at g6 f6
  subst g6 f6
  refine ⟨p0, g1, fun w4 hO4 => ⟨trivial, T s, g5.keep (hO4.block _ g5.lt (by simp)), ?_, ?_, p1, f1, fun w5 hO5 => ⟨trivial, T t, f5.keep ((hO4.tr0 hO5).block _ f5.lt (by simp)), ?_, ?_, fun w6 hO6 => ?_⟩⟩⟩
  · rw [T_size]; omega
  · rw [show ByteArray.mk #[112, 32] = T [112, 32] from rfl, T_app, T_size, List.length_append]
    simp only [List.length_cons, List.length_nil]
    omega
  · rw [show ByteArray.mk #[112, 32] = T [112, 32] from rfl, show ByteArray.mk #[32, 113, 32] = T [32, 113, 32] from rfl, T_app, T_app, T_size, T_size]
    simp only [List.length_append, List.length_cons, List.length_nil]
    omega
  · rw [show ByteArray.mk #[112, 32] = T [112, 32] from rfl, show ByteArray.mk #[32, 113, 32] = T [32, 113, 32] from rfl, T_app, T_app, T_app, T_size]
    simp only [List.length_append, List.length_cons, List.length_nil]
    omega
  have ht : ByteArray.mk #[112, 32] ++ T s ++ ByteArray.mk #[32, 113, 32] ++ T t ++ ByteArray.mk #[32, 114] = T (lfT s t) := by
    rw [show ByteArray.mk #[112, 32] = T [112, 32] from rfl, show ByteArray.mk #[32, 113, 32] = T [32, 113, 32] from rfl, show ByteArray.mk #[32, 114] = T [32, 114] from rfl, T_app, T_app, T_app, T_app]
    rfl
  rw [ht]
  have hO36 := (hO4.tr0 hO5).tr0 hO6
  refine (read_c (lfT s t) (hE.only (hO03.tr0 hO36))).mono ?_
  rintro _ w7 ⟨cs, rfl, hX, hO7⟩
  have z36 := hO36.size
  have z7 := hO7.size
  obtain ⟨q0, r0, ds0, e1, e2, e3, e4, e5, e6⟩ := hR3.get (i := (i : Int)) (Int.natCast_nonneg i) (by omega)
  obtain ⟨q1, r1, ds1, d1, d2, d3, d4, d5, d6⟩ := hR3.get (i := (j : Int)) (Int.natCast_nonneg j) (by omega)
  rw [Int.toNat_natCast] at e2 d2
  obtain ⟨rfl, _⟩ := e6
  obtain ⟨rfl, _⟩ := d6
  have law := lf_law g2 e2 f2 d2
  unfold lfOne at law
  simp only [Bool.and_eq_true, beq_iff_eq] at law
  obtain ⟨hf, hl⟩ := law
  obtain ⟨xl, rfl, hxn⟩ := hX.cells
  obtain ⟨d, hd⟩ := hX.ex
  have hd' : rEx (d + 1) w7 _ (readA (lfT s t)).1 _ := rEx_le (Nat.le_add_right d 1) hd
  generalize readA (lfT s t) = ra at *
  obtain ⟨x, c, p⟩ := ra
  dsimp only at *
  subst hf
  obtain ⟨xk, xm, xs, xo, xsub, xa⟩ := x
  obtain ⟨sl, he, hsl⟩ := hd'
  have hsx : sl = xl := by
    have := (List.cons.inj (List.cons.inj (List.cons.inj (List.cons.inj (List.cons.inj he).2).2).2).2).1
    simp only [Sl.v, Value.slice.injEq] at this
    obtain ⟨h1, h2, h3⟩ := this
    cases sl
    cases xl
    simp_all
  subst hsx
  obtain ⟨y, z, rfl⟩ : ∃ y z, xsub = [y, z] := by
    unfold lfB at hl
    dsimp only [Ex.subs] at hl
    split at hl
    · exact ⟨_, _, rfl⟩
    · cases hl
  have hln : sl.n = 2 := hsl.len
  refine ⟨_, _, _, _, _, _, _, _, rfl, Newer.only0 hO7, Keeps.only hO7, fun w8 hO8 k0 hk0 hk0' ha0 k3 hk3 hk3' ha3 hne w9 hO9 => ?_⟩
  have hO39 : Only [] w3 w9 := ((hO36.tr0 hO7).tr0 hO8).trans hO9 fun q hq => .inr (by
    simp only [List.mem_cons, List.not_mem_nil, or_false] at hq
    rcases hq with rfl | rfl <;> assumption)
  have hO79 : Only [k3, k0] w7 w9 := (hO8.weaken fun _ h => (by cases h)).trans hO9 fun q hq => .inl hq
  have hS9 := SliceF.only (rEx_ok d) (by decide) hsl hO79 fun k hk hlt hm => (by
    have h0 := ha0.one
    have h3 := ha3.one
    simp only [List.mem_cons, List.not_mem_nil, or_false] at hm
    rcases hm with rfl | rfl <;> omega)
  have hR9 := SliceF.only rInt_ok (by decide) hR3 hO39 (by simp)
  obtain ⟨p2, y', cy, y1, y2, y3, y4, y5, y6⟩ := hS9.get (i := 0) (by decide) (by omega)
  obtain ⟨p3, z', cz, u1, u2, u3, u4, u5, u6⟩ := hS9.get (i := 1) (by decide) (by omega)
  have ey : y' = y := by
    have : ([y, z] : List Ex)[(0 : Int).toNat]? = some y := rfl
    rw [show (Ex.mk xk xm xs xo [y, z] xa).subs = [y, z] from rfl, this] at y2
    exact (Option.some.inj y2).symm
  have ez : z' = z := by
    have : ([y, z] : List Ex)[(1 : Int).toNat]? = some z := rfl
    rw [show (Ex.mk xk xm xs xo [y, z] xa).subs = [y, z] from rfl, this] at u2
    exact (Option.some.inj u2).symm
  subst ey ez
  obtain ⟨sy, rfl⟩ := rEx_cells y6
  obtain ⟨sz, rfl⟩ := rEx_cells u6
  have cy := y5.sub 0 (vs := [.int .i64 y'.k]) (fun j v hj => by
    cases j with
    | zero => exact hj
    | succ j => simp at hj)
  have cz := u5.sub 0 (vs := [.int .i64 z'.k]) (fun j v hj => by
    cases j with
    | zero => exact hj
    | succ j => simp at hj)
  refine ⟨fun hc => ?_, fun _ => ?_⟩
  · rw [hln] at hc; simp at hc
  refine ⟨p2, y1, y'.k, cy, p3, fun _ => u1, z'.k, fun _ => cz, p2, y1, y'.k, cy, p3, fun _ => u1, z'.k, fun _ => cz, q0, e1, r0, ?_, q1, d1, r1, ?_, fun w10 hO10 => ⟨?_, ?_⟩⟩
  · exact e5.keep (hO39.block _ e5.lt (by simp))
  · exact d5.keep (hO39.block _ d5.lt (by simp))
  · unfold lfB at hl
    dsimp only [Ex.subs] at hl
    rw [hl]
  · exact (hO03.tr0 hO39).tr0 hO10
end Go.Proofs.YtmanockofcopjaaDoor.Con
