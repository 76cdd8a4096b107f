/-
  Own work: EvalTells: the contract.
-/
import Derived.Test.YtmanockofcopjaaGreatDoorTells
namespace Go.Proofs.YtmanockofcopjaaGreatDoor.Con
open Go Go.RowKit Go.Kt Go.Kt.V Go.Proofs.YtmanockofcopjaaGreatDoor.Vc
set_option linter.unusedSimpArgs false
set_option linter.unusedVariables false
set_option maxHeartbeats 4000000

/-- in one of these steps made -/
def InZ (z : List (Nat × Nat)) (k : Nat) : Prop := ∃ p ∈ z, p.1 ≤ k ∧ k < p.2
theorem InZ.apart {z : List (Nat × Nat)} {k b : Nat} (h : InZ z k) (ha : Apart z b) : k ≠ b := by
  obtain ⟨p, hp, h1, h2⟩ := h
  have := ha p hp
  omega
theorem etells_c {w : World} {x : Ex × Nat} {cs es : List Value} {a : List ByteArray × List Int × List ByteArray × Unit} (hx : rExU w (fun _ => True) x cs) (hb : x.2 ≤ 1048576) (he : rEnv w (fun _ => True) a es) (hE : Er w) : Calls Tryz.prog 3 #[.agg cs.toArray, .agg es.toArray] w fun e w' => e = .returned (.bool true) ∧ Only [] w w' := by
  obtain ⟨x, c⟩ := x
  obtain ⟨d, hx, hall⟩ := hx
  dsimp only at hx hall hb
  obtain ⟨hl, hn, hc⟩ := hall d
  obtain ⟨xs, rfl⟩ := rEx_cells hx
  obtain ⟨e, sN, sV, sA, rfl, hN, hV, hA, mN, mV, mA⟩ := env_lim he
  have hI : ∀ v, v ∈ e.V → InI v := fun v hv => by
    obtain ⟨cs, h1, h2⟩ := hV.mem hv
    exact h2
  refine ret (pavanelaw06_EvalTells_wp x.k x.n (T x.s) x.op xs x.a sN sV sA (fun v w' => v = .bool true ∧ Only [] w w') w ?_)
  unfold pavanelaw06_EvalTells_vc
  intro k0 k1 w0 hk0 hk0' hk1 hk1' hO0
  have z0 := hO0.size
  refine (evsmall_c w0 (hE.only hO0)).mono ?_
  rintro _ w1 ⟨rfl, hO1⟩
  have z1 := hO1.size
  have hO01 := hO0.tr0 hO1
  obtain ⟨w2, e2, hB2, hO2⟩ := buildX w1 [exv x.k x.n x.s x.op xs x.a] (by simp) (by simp) (by simp) (parts := #[(0, .agg (exv x.k x.n x.s x.op xs x.a).toArray)]) rfl
  rw [List.flatten_cons, List.flatten_nil, List.append_nil] at hB2
  have z2 := hO2.size
  have hO02 := hO01.tr0 hO2
  have hxl : SliceF (rEx d) 6 w2 (fun _ => True) ⟨some ⟨w1.heap.size, 0, none⟩, 1, 1⟩ [x] := by
    refine ⟨rfl, Nat.le_refl _, fun h => (by cases h), (by decide : (1 : Nat) ≤ 9223372036854775807), fun j y hj => ?_⟩
    have hj0 : j = 0 := by
      have := (List.getElem?_eq_some_iff.1 hj).1
      simp only [List.length_singleton] at this
      omega
    subst hj0
    simp only [List.getElem?_cons_zero, Option.some.injEq] at hj
    subst hj
    refine ⟨⟨w1.heap.size, 0, none⟩, exv x.k x.n x.s x.op xs x.a, rfl, trivial, rfl, ?_, rEx_only hx hO02⟩
    rw [Nat.zero_mul]
    exact hB2.cells 0 _ fun j v hv => by rw [Nat.zero_add]; exact hv
  refine ⟨_, rfl, hO1.same (by simp; omega), _, w2, e2, hO2.same (by simp; omega), (copied_c d hxl (by simp only [cntL]; omega)).mono ?_⟩
  rintro _ w3 ⟨l1, rfl, hL, hO3⟩
  have z3 := hO3.size
  have hO03 := hO02.tr0 hO3
  refine ⟨l1, rfl, hO3.same (by simp; omega), fun w4 hO4 => ⟨fun k => k < w4.heap.size, fun z l2 l3 l4 w5 => Only [] w4 w5 ∧ SliceF rTx 1 w5 (InZ z) l2 e.N ∧ SliceF rInt 1 w5 (InZ z) l3 e.V ∧ SliceF rTx 1 w5 (InZ z) l4 e.A, ?_, ?_⟩⟩
  · rintro z l2 l3 l4 w5 ⟨hO5, hN5, hV5, hA5⟩ k2 hk2 hk2' hap w6 hO6
    have z4 := hO4.size
    have z5 := hO5.size
    have z6 := hO6.size
    have out : ∀ k, InZ z k → k < w5.heap.size → k ∉ [k2] := fun k hk _ hm => by
      simp only [List.mem_singleton] at hm
      exact hk.apart hap hm
    have hN6 := SliceF.only rTx_ok (by decide) hN5 hO6 out
    have hV6 := SliceF.only rInt_ok (by decide) hV5 hO6 out
    have hA6 := SliceF.only rTx_ok (by decide) hA5 hO6 out
    have hO46 : Only [] w4 w6 := hO5.trans hO6 fun q hq => .inr (by simp only [List.mem_singleton] at hq; omega)
    have hO06 : Only [] w w6 := (hO03.tr0 hO4).tr0 hO46
    have sm : ∀ {u u' : World}, w6.heap.size ≤ u.heap.size → Only [] u u' → Same [k0, k1, k2] u u' := fun hu hO => hO.same (by simp; omega)
    refine (eval_c (rEx_only hx hO06) (SliceF.only rTx_ok (by decide) hN hO06 (by simp)) (SliceF.only rInt_ok (by decide) hV hO06 (by simp)) (SliceF.only rTx_ok (by decide) hA hO06 (by simp))).mono ?_
    rintro _ w7 ⟨rfl, hO7⟩
    have z7 := hO7.size
    have hO07 := hO06.tr0 hO7
    refine ⟨_, _, rfl, sm (Nat.le_refl _) hO7, (true_c (rEx_only hx hO07) (SliceF.only rTx_ok (by decide) hN hO07 (by simp)) (SliceF.only rInt_ok (by decide) hV hO07 (by simp)) (SliceF.only rTx_ok (by decide) hA hO07 (by simp))).mono ?_⟩
    rintro _ w8 ⟨rfl, hO8⟩
    have z8 := hO8.size
    have hO08 := hO07.tr0 hO8
    refine ⟨_, _, rfl, sm z7 hO8, (reval_c d (rEx_only hx hO08) (SliceF.only rTx_ok (by decide) hN hO08 (by simp)) (SliceF.only rInt_ok (by decide) hV hO08 (by simp)) (SliceF.only rTx_ok (by decide) hA hO08 (by simp)) hI hn).mono ?_⟩
    rintro _ w9 ⟨rfl, hO9⟩
    have z9 := hO9.size
    have hO09 := hO08.tr0 hO9
    have hO69 := (hO7.tr0 hO8).tr0 hO9
    refine ⟨_, _, rfl, sm (by omega) hO9, fun b w' => b = true ∧ Only [] w9 w', ?_, ?_⟩
    · rintro _ w10 ⟨rfl, hO10⟩
      have hV9 := SliceF.only rInt_ok (by decide) hV6 hO69 (by simp)
      have v1 := hV.len
      have v2 := hV6.len
      refine ⟨fun nv b i w' => ∃ n : Nat, n ≤ e.V.length ∧ b = true ∧ i = (n : Int) ∧ nv = e.V.length - n ∧ Only [] w9 w', e.V.length, ⟨0, Nat.zero_le _, rfl, rfl, rfl, hO10⟩, ?_⟩
      rintro nv _ _ w11 ⟨n, hnl, rfl, rfl, rfl, hO11⟩
      refine ⟨fun hlt => ?_, fun hge => ⟨?_, hO09.tr0 hO11⟩⟩
      · have hlt : (n : Int) < (sV.n : Int) := by simpa using hlt
        obtain ⟨p, v, cs1, a1, a2, a3, a4, a5, a6⟩ := (SliceF.only rInt_ok (by decide) hV (hO09.tr0 hO11) (by simp)).get (Int.natCast_nonneg n) hlt
        obtain ⟨q, u, cs2, b1, b2, b3, b4, b5, b6⟩ := (SliceF.only rInt_ok (by decide) hV9 hO11 (by simp)).get (i := (n : Int)) (Int.natCast_nonneg n) (by omega)
        obtain ⟨rfl, _⟩ := a6
        obtain ⟨rfl, _⟩ := b6
        rw [Int.toNat_natCast] at a2 b2
        have huv : v = u := by
          rw [a2] at b2
          exact Option.some.inj b2
        subst huv
        exact ⟨p, a1, v, a5, q, b1, v, b5, fun w12 hO12 => ⟨e.V.length - (n + 1), by omega, n + 1, by omega, by simp, by rw [wr' (by omega) (by have := hV.cap; have := hV.big; omega)]; rfl, rfl, hO11.tr0 hO12⟩⟩
      · simp
    · have hL9 := SliceF.only (rEx_ok d) (by decide) hL ((hO4.tr0 hO46).tr0 hO69) (by simp)
      have hln := hL9.len
      obtain ⟨p2, sy, g1, _, _⟩ := sub_at hL9 (i := 0) (y := x) rfl
      refine ⟨p2, g1, fun w13 hO13 => ?_⟩
      obtain ⟨p2', sy', g1', g2, g3⟩ := sub_at (SliceF.only (rEx_ok d) (by decide) hL9 hO13 (by simp)) (i := 0) (y := x) rfl
      have := g1.uniq g1'
      subst this
      have z13 := hO13.size
      have hO013 := hO09.tr0 hO13
      refine ⟨_, _, _, _, _, _, g2, (same_c true d (rEx_only hx hO013) g3).mono ?_⟩
      rintro _ w14 ⟨rfl, hO14⟩
      have z14 := hO14.size
      rw [same_self]
      have hO914 := hO13.tr0 hO14
      have hO014 := hO013.tr0 hO14
      refine ⟨_, rfl, sm (by omega) hO14, fun _ => (same6_c (SliceF.only rTx_ok (by decide) hN hO014 (by simp)) (SliceF.only rTx_ok (by decide) hN6 (hO69.tr0 hO914) (by simp))).mono ?_, fun h => (by cases h)⟩
      rintro _ w15 ⟨rfl, hO15⟩
      have z15 := hO15.size
      rw [decide_eq_true rfl]
      have hO015 := hO014.tr0 hO15
      refine ⟨_, rfl, sm (by omega) hO15, fun _ => (same6_c (SliceF.only rTx_ok (by decide) hA hO015 (by simp)) (SliceF.only rTx_ok (by decide) hA6 ((hO69.tr0 hO914).tr0 hO15) (by simp))).mono ?_, fun h => (by cases h)⟩
      rintro _ w16 ⟨rfl, hO16⟩
      rw [decide_eq_true rfl]
      refine ⟨_, rfl, sm (by omega) hO16, fun _ => ⟨?_, (hO914.tr0 hO15).tr0 hO16⟩, fun h => (by cases h)⟩
      have v1 := hV.len
      have v2 := hV6.len
      rw [v1, v2]
      simp
  · have z4 := hO4.size
    have hO04 := hO03.tr0 hO4
    have kp : ∀ {u u' : World}, Only [] u u' → Keeps (fun k => k < w4.heap.size) u u' := fun h => Keeps.only h
    have sm : ∀ {u u' : World}, w4.heap.size ≤ u.heap.size → Only [] u u' → Same [k0, k1] u u' := fun hu hO => hO.same (by simp; omega)
    have inI : ∀ {z : List (Nat × Nat)} {m n k : Nat}, (m, n) ∈ z → m ≤ k ∧ k < n → InZ z k := fun h hk => ⟨_, h, hk⟩
    refine ⟨by show k1 < _; omega, by show k1 < _; omega, by show k1 < _; omega, fun w17 hO17 => (copied6_c (SliceF.only rTx_ok (by decide) hN (hO04.tr0 hO17) (by simp)) mN).mono ?_, fun w26 hO26 => ?_⟩
    · rintro _ w18 ⟨l6, rfl, h6, hO18⟩
      have z17 := hO17.size
      have z18 := hO18.size
      refine ⟨l6, rfl, sm z17 hO18, Newer.only0 hO18, kp hO18, fun w19 hO19 => ⟨⟨some ⟨w19.heap.size, 0, none⟩, 0, 0⟩, w19.alloc (.cells #[] 3), run_build0 (i := Tryz.t3) w19 (by kernel_rfl) (by kernel_rfl), ?_⟩⟩
      have hO20 : Only [] w19 (w19.alloc (.cells #[] 3)) := Only.alloc _ _
      generalize hw20 : w19.alloc (.cells #[] 3) = w20 at hO20 ⊢
      have z19 := hO19.size
      have z20 := hO20.size
      refine ⟨sm (by omega) hO20, Newer.only0 hO20, kp hO20, fun w21 hO21 => ?_⟩
      have z21 := hO21.size
      have hO1721 := ((hO18.tr0 hO19).tr0 hO20).tr0 hO21
      have hO021 := (hO04.tr0 hO17).tr0 hO1721
      obtain ⟨l8, w22, k22, h8, hO22⟩ := appI w19.heap.size (SliceF.only rInt_ok (by decide) hV hO021 (by simp)) mV
      have z22 := hO22.size
      refine ⟨l8, w22, k22, sm (by omega) hO22, Newer.only0 hO22, kp hO22, fun w23 hO23 => (copied6_c (SliceF.only rTx_ok (by decide) hA ((hO021.tr0 hO22).tr0 hO23) (by simp)) mA).mono ?_⟩
      rintro _ w24 ⟨l9, rfl, h9, hO24⟩
      have z23 := hO23.size
      have z24 := hO24.size
      refine ⟨l9, rfl, sm (by omega) hO24, Newer.only0 hO24, kp hO24, fun w25 hO25 => ⟨?_, ?_, ?_, ?_⟩⟩
      · exact ((((hO17.tr0 hO1721).tr0 hO22).tr0 hO23).tr0 hO24).tr0 hO25
      · exact SliceF.mono rTx_ok (SliceF.only rTx_ok (by decide) h6 ((((((hO19.tr0 hO20).tr0 hO21).tr0 hO22).tr0 hO23).tr0 hO24).tr0 hO25) (by simp)) fun k hk => inI (by simp) hk
      · exact SliceF.mono rInt_ok (SliceF.only rInt_ok (by decide) h8 ((hO23.tr0 hO24).tr0 hO25) (by simp)) fun k hk => inI (List.mem_cons_of_mem _ List.mem_cons_self) hk
      · exact SliceF.mono rTx_ok (SliceF.only rTx_ok (by decide) h9 hO25 (by simp)) fun k hk => inI List.mem_cons_self hk
    · refine ⟨⟨some ⟨w26.heap.size, 0, none⟩, 0, 0⟩, w26.alloc (.cells #[] 3), run_build0 (i := Tryz.t3) w26 (by kernel_rfl) (by kernel_rfl), ?_⟩
      have hO27 : Only [] w26 (w26.alloc (.cells #[] 3)) := Only.alloc _ _
      generalize hw27 : w26.alloc (.cells #[] 3) = w27 at hO27 ⊢
      have z26 := hO26.size
      have z27 := hO27.size
      have hO427 := hO26.tr0 hO27
      refine ⟨sm (by omega) hO27, Newer.only0 hO27, kp hO27, fun w28 hO28 => (copied6_c (SliceF.only rTx_ok (by decide) hN ((hO04.tr0 hO427).tr0 hO28) (by simp)) mN).mono ?_⟩
      rintro _ w29 ⟨l11, rfl, h11, hO29⟩
      have z28 := hO28.size
      have z29 := hO29.size
      refine ⟨l11, rfl, sm (by omega) hO29, Newer.only0 hO29, kp hO29, fun w30 hO30 => ?_⟩
      have z30 := hO30.size
      have hO430 := ((hO427.tr0 hO28).tr0 hO29).tr0 hO30
      obtain ⟨l12, w31, k31, h12, hO31⟩ := appI w26.heap.size (SliceF.only rInt_ok (by decide) hV (hO04.tr0 hO430) (by simp)) mV
      have z31 := hO31.size
      refine ⟨l12, w31, k31, sm (by omega) hO31, Newer.only0 hO31, kp hO31, fun w32 hO32 => (copied6_c (SliceF.only rTx_ok (by decide) hA (((hO04.tr0 hO430).tr0 hO31).tr0 hO32) (by simp)) mA).mono ?_⟩
      rintro _ w33 ⟨l13, rfl, h13, hO33⟩
      have z32 := hO32.size
      have z33 := hO33.size
      refine ⟨l13, rfl, sm (by omega) hO33, Newer.only0 hO33, kp hO33, fun w34 hO34 => ⟨?_, ?_, ?_, ?_⟩⟩
      · exact (((hO430.tr0 hO31).tr0 hO32).tr0 hO33).tr0 hO34
      · exact SliceF.mono rTx_ok (SliceF.only rTx_ok (by decide) h11 ((((hO30.tr0 hO31).tr0 hO32).tr0 hO33).tr0 hO34) (by simp)) fun k hk => inI (List.mem_cons_of_mem _ (List.mem_cons_of_mem _ List.mem_cons_self)) hk
      · exact SliceF.mono rInt_ok (SliceF.only rInt_ok (by decide) h12 ((hO32.tr0 hO33).tr0 hO34) (by simp)) fun k hk => inI (List.mem_cons_of_mem _ List.mem_cons_self) hk
      · exact SliceF.mono rTx_ok (SliceF.only rTx_ok (by decide) h13 hO34 (by simp)) fun k hk => inI List.mem_cons_self hk
end Go.Proofs.YtmanockofcopjaaGreatDoor.Con
