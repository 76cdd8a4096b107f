/-
  Own work: what the functions of the document's own reader of expressions do: parts, rows, all.
-/
import Derived.Test.YtdlcmgbidoabmaaGreatDoorRef5
namespace Go.Proofs.YtdlcmgbidoabmaaGreatDoor.Con
open Go Go.RowKit Go.Kt Go.Kt.V Go.Proofs.YtdlcmgbidoabmaaGreatDoor.Vc
set_option linter.unusedSimpArgs false
set_option linter.unusedVariables false
set_option maxHeartbeats 4000000

/-- what a reading comes to -/
def Did6 (F : Nat → Prop) (ts : List Tk) (w w' : World) (b : Nat) (l : Sl) (d : Nat) (r : Pr) (v : Value) : Prop := Only [b] w w' ∧ match r with
  | .ok (x, j) => ∃ cs, v = .agg cs.toArray ∧ RX w' w.heap.size w'.heap.size x cs ∧ Rr F ts w' b l j 0 0 (d : Int)
  | .error e => e.1 ≠ 0 ∧ exT v ∧ ∃ j, Rr F ts w' b l j e.1 e.2 (d : Int)
section
variable {F : Nat → Prop} {ts : List Tk} {w w' : World} {b : Nat} {l : Sl} {i : Nat} {fc fa : Int}
theorem Did6.typed {d : Nat} {r : Pr} {v : Value} (h : Did6 F ts w w' b l d r v) : exT v := by
  obtain ⟨_, h⟩ := h
  cases r with
  | error e => exact h.2.1
  | ok q =>
    obtain ⟨cs, rfl, hx, _⟩ := h
    obtain ⟨sl, rfl, _⟩ := hx.cells
    exact ⟨_, _, _, _, _, _, rfl⟩
theorem Did6.around {w0 w1 w2 w3 : World} {d : Nat} {r : Pr} {v : Value} (h : Did6 F ts w1 w2 b l d r v) (hO0 : Only [b] w0 w1) {bs : List Nat} (hO2 : Only bs w2 w3) (hb : ∀ x, x ∈ bs → b < x ∧ w0.heap.size ≤ x ∧ x < w1.heap.size) : Did6 F ts w0 w3 b l d r v := by
  obtain ⟨hO, h⟩ := h
  have z0 := hO0.size
  have z1 := hO.size
  have z2 := hO2.size
  refine ⟨(hO0.trans hO fun x hx => .inl hx).trans hO2 fun x hx => .inr (hb x hx).2.1, ?_⟩
  cases r with
  | error e =>
    obtain ⟨h1, h2, j, h3⟩ := h
    exact ⟨h1, h2, j, h3.own hO2 fun x hx => (hb x hx).1⟩
  | ok q =>
    obtain ⟨cs, h1, h2, h3⟩ := h
    exact ⟨cs, h1, (h2.only hO2 fun x hx => .inl (hb x hx).2.2).wide z0 z2, h3.own hO2 fun x hx => (hb x hx).1⟩
theorem exT0 : exT (.agg #[.int .i64 0, .int .i64 0, .string (ByteArray.mk #[]), .int .i64 0, Sl.nil.v, .int .i64 0]) := ⟨0, 0, [], 0, Sl.nil, 0, rfl⟩
theorem rin_c {d : Nat} (h : Rr F ts w b l i 0 0 (d : Int)) (hn : i + 1 < ts.length) : Calls Tryz.prog 68 #[.pointer (some ⟨b, 0, none⟩)] w fun e w' => ∃ v, e = .returned v ∧ Did6 F ts w w' b l d (inR ts i) v := by
  refine pavaneref05_reader_in_wp ⟨b, 0, none⟩ (fun v w' => Did6 F ts w w' b l d (inR ts i) v) w ?_
  unfold pavaneref05_reader_in_vc
  intro k0 w0 hk0 hk0' hO0
  have hb := h.lb
  have hbg := h.big
  have z0 := hO0.size
  have h0 := h.only hO0
  obtain ⟨ad, g1, g2⟩ := h0.now
  refine ⟨fun _ => True, trivial, l, Blk.at1 h0.blk 0 rfl, trivial, _, Blk.at1 h0.blk 1 rfl, ad, g1, trivial, _, g2.at1 3 _ rfl, fun k1 w1 hk1 hk1' hO1 => ?_⟩
  have z1 := hO1.size
  have h1 := h0.only hO1
  have hO01 := hO0.tr0 hO1
  have sm : ∀ {u u' : World}, w1.heap.size ≤ u.heap.size → Only [b] u u' → Same [k0, k1] u u' := fun hu hO => hO.same (by intro x hx; simp only [List.mem_cons, List.not_mem_nil, or_false] at hx ⊢; omega)
  refine ⟨(i : Int), Blk.at1 h1.blk 1 rfl, b, 1, _, _, rfl, h1.blk, by simp, by omega, by omega, fun w2 hO2 hB2 => ?_⟩
  rw [wr' (by omega) (by omega)] at hB2
  have h2 : Rr F ts w2 b l (i + 1) 0 0 (d : Int) := h1.turn hO2 hB2 hn
  have z2 := hO2.size
  have hO02 : Only [b] w w2 := (hO01.weaken fun _ h => (by cases h)).trans hO2 fun x hx => .inl hx
  refine (rmust_c h2 [40]).mono ?_
  rintro _ w3 ⟨rfl, hO3, hR3⟩
  have z3 := hO3.size
  have hO03 := hO02.trans hO3 fun x hx => .inl hx
  refine ⟨rfl, sm (by omega) hO3, ?_⟩
  rw [show ((0 : Int) == 0) = true from rfl, Bool.true_and, if_pos rfl, if_pos rfl] at hR3
  have own0 : ∀ {u u' : World}, Only [b] w u → Only [k0] u u' → Only [b] w u' := fun h1 h2 => h1.new h2 hk0
  by_cases hs : sg ts (i + 1) [40] = true
  · rw [if_pos hs] at hR3
    refine ⟨0, Blk.at1 hR3.blk 3 rfl, fun hc => (by simp at hc), fun _ => ?_⟩
    obtain ⟨ad3, u1, u2⟩ := hR3.now
    refine ⟨l, Blk.at1 hR3.blk 0 rfl, _, Blk.at1 hR3.blk 1 rfl, ad3, u1, _, u2.at1 0 _ rfl, fun hc w5 hO5 => (rwrong_c (hR3.only hO5)).mono ?_, fun hc w8 hO8 => ?_⟩
    · have hc : (tk ts (i + 2)).k ≠ 1 := by simpa using hc
      rintro _ w6 ⟨rfl, hO6, hR6⟩
      rw [if_pos rfl, if_pos rfl] at hR6
      have z5 := hO5.size
      refine ⟨rfl, sm (by omega) hO6, fun w7 hO7 => ⟨own0 ((hO03.tr0 hO5).trans hO6 fun x hx => .inl hx) hO7, ?_⟩⟩
      rw [inR, if_pos hs, if_neg hc]
      exact ⟨wrongF_ne, ⟨_, _, [], _, _, _, rfl⟩, i + 2, hR6.own hO7 (by simp; omega)⟩
    · have hc : (tk ts (i + 2)).k = 1 := by simpa using hc
      have z8 := hO8.size
      have h8 := hR3.only hO8
      obtain ⟨ad8, v1, v2⟩ := h8.now
      refine ⟨l, Blk.at1 h8.blk 0 rfl, _, Blk.at1 h8.blk 1 rfl, ad8, v1, _, v2.at1 1 _ rfl, fun w9 hO9 => ?_⟩
      have z9 := hO9.size
      have h9 := h8.own hO9 (by simp; omega)
      have hO09 : Only [b] w w9 := (hO03.tr0 hO8).new hO9 (by omega)
      have hn3 := h.en.next hR3.lt (by show (tk ts (i + 2)).k ≠ 5; rw [hc]; decide)
      refine ⟨_, Blk.at1 h9.blk 1 rfl, b, 1, _, _, rfl, h9.blk, by simp, by omega, by omega, fun w10 hO10 hB10 => ?_⟩
      rw [wr' (by omega) (by omega)] at hB10
      have h10 : Rr F ts w10 b l (i + 1 + 1 + 1) 0 0 (d : Int) := h9.turn hO10 hB10 hn3
      have z10 := hO10.size
      refine (rmust_c h10 [41]).mono ?_
      rintro _ w11 ⟨rfl, hO11, hR11⟩
      have z11 := hO11.size
      refine ⟨rfl, sm (by omega) hO11, fun w12 hO12 => ⟨own0 ((hO09.trans hO10 fun x hx => .inl hx).trans hO11 fun x hx => .inl hx) hO12, ?_⟩⟩
      rw [show ((0 : Int) == 0) = true from rfl, Bool.true_and, if_pos rfl, if_pos rfl] at hR11
      rw [inR, if_pos hs, if_pos hc]
      by_cases hs2 : sg ts (i + 3) [41] = true
      · rw [if_pos hs2]
        rw [if_pos (show sg ts (i + 1 + 1 + 1) [41] = true from hs2)] at hR11
        exact ⟨_, rfl, .leaf .., hR11.own hO12 (by simp; omega)⟩
      · rw [if_neg hs2]
        rw [if_neg (show ¬ sg ts (i + 1 + 1 + 1) [41] = true from hs2)] at hR11
        exact ⟨wrongF_ne, ⟨_, _, _, _, _, _, rfl⟩, i + 1 + 1 + 1, hR11.own hO12 (by simp; omega)⟩
  · rw [if_neg hs] at hR3
    refine ⟨_, Blk.at1 hR3.blk 3 rfl, fun hc w4 hO4 => ⟨own0 hO03 hO4, ?_⟩, fun hc => absurd (by simpa using hc) (wrongF_ne (ts := ts) (i := i + 1))⟩
    rw [inR, if_neg hs]
    exact ⟨wrongF_ne, ⟨_, _, [], _, _, _, rfl⟩, i + 1, hR3.own hO4 (by simp; omega)⟩
theorem rone_c {f d : Nat} (hd : d ≤ 20) (h : Rr F ts w b l i 0 0 (d : Int))
    (hE : d ≠ 20 → ∀ w i, Rr F ts w b l i 0 0 ((d + 1 : Nat) : Int) → Calls Tryz.prog 23 #[.pointer (some ⟨b, 0, none⟩), .int .i64 0] w fun e w' => ∃ v, e = .returned v ∧ Did6 F ts w w' b l (d + 1) (exprR ts f 0 (d + 1) i) v)
    (hOne : d ≠ 20 → ∀ w i, Rr F ts w b l i 0 0 ((d + 1 : Nat) : Int) → Calls Tryz.prog 33 #[.pointer (some ⟨b, 0, none⟩)] w fun e w' => ∃ v, e = .returned v ∧ Did6 F ts w w' b l (d + 1) (exprR ts f 6 (d + 1) i) v) :
    Calls Tryz.prog 33 #[.pointer (some ⟨b, 0, none⟩)] w fun e w' => ∃ v, e = .returned v ∧ Did6 F ts w w' b l d (exprR ts (f + 1) 6 d i) v := by
  have eR : exprR ts (f + 1) 6 d i = oneR ts (exprR ts f 0 (d + 1)) (exprR ts f 6 (d + 1)) d i := by rw [exprR, if_pos rfl]
  rw [eR]
  generalize hgE : exprR ts f 0 (d + 1) = E0 at *
  generalize hgO : exprR ts f 6 (d + 1) = One at *
  generalize hR : oneR ts E0 One d i = R
  rw [oneR] at hR
  refine pavaneref05_reader_one_wp ⟨b, 0, none⟩ (fun v w' => Did6 F ts w w' b l d R v) w ?_
  unfold pavaneref05_reader_one_vc
  intro k0 w0 hk0 hk0' hO0
  have hb := h.lb
  have hbg := h.big
  have z0 := hO0.size
  have h0 := h.only hO0
  obtain ⟨ad, g1, g2⟩ := h0.now
  refine ⟨fun _ => True, trivial, l, Blk.at1 h0.blk 0 rfl, trivial, _, Blk.at1 h0.blk 1 rfl, ad, g1, trivial, _, _, _, _, g2, fun k1 w1 hk1 hk1' hO1 => ?_⟩
  have z1 := hO1.size
  have h1 := h0.only hO1
  have sm : ∀ {u u' : World}, w1.heap.size ≤ u.heap.size → Only [b] u u' → Same [k0, k1] u u' := fun hu hO => hO.same (by intro x hx; simp only [List.mem_cons, List.not_mem_nil, or_false] at hx ⊢; omega)
  have sm0 : ∀ {u u' : World}, w1.heap.size ≤ u.heap.size → Only [] u u' → Same [k0, k1] u u' := fun hu hO => hO.same (by intro x hx; simp only [List.mem_cons, List.not_mem_nil, or_false] at hx; exact ⟨by omega, by simp⟩)
  refine (xsign_c h1 [45]).mono ?_
  rintro _ w2 ⟨rfl, hO2⟩
  have z2 := hO2.size
  have h2 := h1.only hO2
  refine ⟨_, rfl, sm0 (by omega) hO2, (xsign_c h2 [33]).mono ?_⟩
  rintro _ w3 ⟨rfl, hO3⟩
  have z3 := hO3.size
  have h3 := h2.only hO3
  refine ⟨_, rfl, sm0 (by omega) hO3, (xsign_c h3 [40]).mono ?_⟩
  rintro _ w4 ⟨rfl, hO4⟩
  have z4 := hO4.size
  have h4 := h3.only hO4
  have hO04 : Only [] w w4 := (((hO0.tr0 hO1).tr0 hO2).tr0 hO3).tr0 hO4
  have hO04b : Only [b] w w4 := hO04.weaken fun _ h => (by cases h)
  have own0 : ∀ {u u' : World}, Only [b] w u → Only [k0] u u' → Only [b] w u' := fun h1 h2 => h1.new h2 hk0
  rw [show ((0 : Int) == 0) = true from rfl, Bool.true_and, Bool.true_and, Bool.true_and]
  refine ⟨_, rfl, sm0 (by omega) hO4, 0, Blk.at1 h4.blk 3 rfl, fun hc => (by simp at hc), fun _ => ⟨fun hs => ?_, fun hs => ⟨fun hp => ?_, fun hp => ⟨fun hi => ?_, fun hi => ⟨fun hv => ?_, fun hv => ?_⟩⟩⟩⟩⟩
  · rw [if_pos hs] at hR
    have hne : (tk ts i).k ≠ 5 := by
      rcases Bool.or_eq_true _ _ ▸ hs with e | e <;> exact sg_k e
    have hn := h.en.next h.lt hne
    refine (rdown_c hd h4 hn).mono ?_
    rintro _ w6 ⟨rfl, hO6, hR6⟩
    have z6 := hO6.size
    have hO06 := hO04b.trans hO6 fun x hx => .inl hx
    refine ⟨_, rfl, sm (by omega) hO6, fun hc w7 hO7 => ⟨own0 hO06 hO7, ?_⟩, fun hc => ?_⟩
    · have hc : d = 20 := by simpa using hc
      rw [if_pos hc] at hR6
      rw [← hR, nestR, if_pos hc]
      exact ⟨(by decide : (21 : Int) ≠ 0), exT0, i, hR6.own hO7 (by simp; omega)⟩
    · have hc : d ≠ 20 := by simpa using hc
      rw [if_neg hc] at hR6
      rw [nestR, if_neg hc] at hR
      refine (hOne hc w6 (i + 1) hR6).mono ?_
      rintro _ w8 ⟨v, rfl, hD⟩
      obtain ⟨vk, vn, vs, vo, vl, va, rfl⟩ := hD.typed
      have z8 := hD.1.size
      refine ⟨_, _, _, _, _, _, rfl, sm (by omega) hD.1, fun k2 w9 hk2 hk2' hO9 => ?_⟩
      have z9 := hO9.size
      have hOD := hO06.trans hD.1 fun x hx => .inl hx
      -- the depth comes back, the row is built
      have key : ∀ {j : Nat} {c a : Int}, Rr F ts w8 b l j c a ((d + 1 : Nat) : Int) → ∃ i9 : Int, Cells w9 (Addr.add ⟨b, 0, none⟩ 2) [.int .i64 i9] ∧ ∃ k3 k4 : Nat, ∃ z0 : List Value, ∃ k5 : Nat, (Addr.add ⟨b, 0, none⟩ 2) = ⟨k3, k4, none⟩ ∧ Blk w9 k3 k5 z0 ∧ (k4 + 1) ≤ z0.length ∧ k0 ≠ k3 ∧ k1 ≠ k3 ∧ k2 ≠ k3 ∧
          ∀ w10 : World, Only [k3] w9 w10 → Blk w10 k3 k5 (splice z0 k4 [.int .i64 (IntKind.wrap .i64 (i9 - 1))]) → Only [b] w8 w10 ∧ Rr F ts w10 b l j c a (d : Int) := fun {j c a} h8 => by
        have h9 := h8.only hO9
        refine ⟨((d + 1 : Nat) : Int), Blk.at1 h9.blk 2 rfl, b, 2, _, _, rfl, h9.blk, by simp, by omega, by omega, by omega, fun w10 hO10 hB10 => ?_⟩
        have ed : ((d + 1 : Nat) : Int) - 1 = d := by omega
        rw [ed, wr' (by omega) (by omega)] at hB10
        exact ⟨(hO9.weaken (bs' := [b]) fun _ h => (by cases h)).trans hO10 fun x hx => .inl hx, h9.turn hO10 hB10 h9.lt⟩
      have fin : ∀ {j : Nat} {c a : Int} {w10 : World}, Only [b] w8 w10 → Rr F ts w10 b l j c a (d : Int) → w9.heap.size ≤ w10.heap.size → (∀ op sl w12, Only [] w10 w12 → Blk w12 w10.heap.size 26 (exv vk vn vs vo vl va) → op = (if (tk ts i).t = [33] then (15 : Int) else 14) → sl = (⟨some ⟨w10.heap.size, 0, none⟩, 1, 1⟩ : Sl) → ∀ w13, Only [k0] w12 w13 → Did6 F ts w w13 b l d R (.agg #[.int .i64 4, .int .i64 0, .string (ByteArray.mk #[]), .int .i64 op, sl.v, .int .i64 (tk ts i).a])) →
          ∃ J1 : Int → World → Prop, (∀ i10 : Int, ∀ w11 : World, J1 i10 w11 → ∃ l2 : Sl, ∃ w12 : World, ((Instr.buildSlice 24 1 #[.mk 0 (.agg #[.int .i64 vk, .int .i64 vn, .string (T vs), .int .i64 vo, vl.v, .int .i64 va])]).run Tryz.prog w11) = (.ok l2.v w12) ∧
            Same [k0, k1, k2] w11 w12 ∧ ∀ w13 : World, Only [k0] w12 w13 → Did6 F ts w w13 b l d R (.agg #[.int .i64 4, .int .i64 0, .string (ByteArray.mk #[]), .int .i64 i10, l2.v, .int .i64 (tk ts i).a])) ∧
          (sg ts i [33] = true → J1 15 w10) ∧ (sg ts i [33] = false → J1 14 w10) := fun {j c a w10} hO10 h10 z10 hdone => by
        refine ⟨fun op w11 => op = (if (tk ts i).t = [33] then (15 : Int) else 14) ∧ w11 = w10, ?_, fun e => ⟨?_, rfl⟩, fun e => ⟨?_, rfl⟩⟩
        · rintro op w11 ⟨hop, rfl⟩
          obtain ⟨w12, k12, hB12, hO12⟩ := buildX w11 [exv vk vn vs vo vl va] (by simp) (by simp) (by simp) (parts := #[(0, .agg (exv vk vn vs vo vl va).toArray)]) rfl
          rw [List.flatten_cons, List.flatten_nil, List.append_nil] at hB12
          exact ⟨_, w12, k12, hO12.same (by simp; omega), fun w13 hO13 => hdone op _ w12 hO12 hB12 hop rfl w13 hO13⟩
        · have : (tk ts i).t = [33] := by
            simp only [sg, Bool.and_eq_true, decide_eq_true_eq] at e
            exact e.2
          rw [if_pos this]
        · have : (tk ts i).t ≠ [33] := fun ht => by
            rcases Bool.or_eq_true _ _ ▸ hs with e' | e'
            · simp only [sg, Bool.and_eq_true, decide_eq_true_eq] at e'
              rw [e'.2] at ht
              exact absurd ht (by decide)
            · rw [e] at e'; cases e'
          rw [if_neg this]
      cases hN : One (i + 1) with
      | error e =>
        rw [hN] at hD hR
        obtain ⟨hO8, a1, a2, j, a3⟩ := hD
        obtain ⟨i9, q1, k3, k4, zz, k5, q2, q3, q4, q5, q6, q7, q8⟩ := key a3
        refine ⟨i9, q1, k3, k4, zz, k5, q2, q3, q4, q5, q6, q7, fun w10 hO10 hB10 => ?_⟩
        obtain ⟨r1, r2⟩ := q8 w10 hO10 hB10
        refine fin r1 r2 hO10.size fun op sl w12 hO12 hB12 hop hsl w13 hO13 => ⟨own0 ((hOD.trans r1 fun x hx => .inl hx).tr0 hO12) hO13, ?_⟩
        rw [← hR]
        exact ⟨a1, ⟨_, _, [], _, _, _, rfl⟩, j, (r2.only hO12).own hO13 (by simp; omega)⟩
      | ok q =>
        obtain ⟨x, j⟩ := q
        rw [hN] at hD hR
        obtain ⟨hO8, cs, a1, a2, a3⟩ := hD
        have hcs : (exv vk vn vs vo vl va) = cs := congrArg Array.toList (Value.agg.inj a1)
        obtain ⟨i9, q1, k3, k4, zz, k5, q2, q3, q4, q5, q6, q7, q8⟩ := key a3
        refine ⟨i9, q1, k3, k4, zz, k5, q2, q3, q4, q5, q6, q7, fun w10 hO10 hB10 => ?_⟩
        obtain ⟨r1, r2⟩ := q8 w10 hO10 hB10
        have z10 := hO10.size
        refine fin r1 r2 z10 fun op sl w12 hO12 hB12 hop hsl w13 hO13 => ⟨own0 ((hOD.trans r1 fun x hx => .inl hx).tr0 hO12) hO13, ?_⟩
        have z12 := hO12.size
        have z13 := hO13.size
        rw [← hR, hop, hsl]
        refine ⟨_, rfl, ?_, (r2.only hO12).own hO13 (by simp; omega)⟩
        have hx13 : RX w13 w6.heap.size w8.heap.size x cs := ((a2.only r1 fun k hk => .inl (by simp only [List.mem_singleton] at hk; omega)).only hO12 (by simp)).only hO13 fun k hk => .inl (by simp only [List.mem_singleton] at hk; omega)
        have hB13 : Blk w13 w10.heap.size 26 cs := by
          rw [← hcs]
          exact hO13.blk hB12 fun hm => by simp only [List.mem_singleton] at hm; omega
        exact .one w.heap.size w8.heap.size w10.heap.size _ _ _ _ _ _ x cs (hx13.wide (by omega) (Nat.le_refl _)) (by omega) (by omega) (by have := hB13.lt; omega) id hB13
  · rw [if_neg (by rw [hs]; decide), if_pos hp] at hR
    have hn := h.en.next h.lt (sg_k hp)
    refine (rdown_c hd h4 hn).mono ?_
    rintro _ w14 ⟨rfl, hO14, hR14⟩
    have z14 := hO14.size
    have hO014 := hO04b.trans hO14 fun x hx => .inl hx
    refine ⟨_, rfl, sm (by omega) hO14, fun hc w15 hO15 => ⟨own0 hO014 hO15, ?_⟩, fun hc => ?_⟩
    · have hc : d = 20 := by simpa using hc
      rw [if_pos hc] at hR14
      rw [← hR, nestR, if_pos hc]
      exact ⟨(by decide : (21 : Int) ≠ 0), exT0, i, hR14.own hO15 (by simp; omega)⟩
    · have hc : d ≠ 20 := by simpa using hc
      rw [if_neg hc] at hR14
      rw [nestR, if_neg hc] at hR
      refine (hE hc w14 (i + 1) hR14).mono ?_
      rintro _ w16 ⟨v, rfl, hD⟩
      obtain ⟨vk, vn, vs, vo, vl, va, rfl⟩ := hD.typed
      have z16 := hD.1.size
      have hO016 := hO014.trans hD.1 fun x hx => .inl hx
      refine ⟨_, _, _, _, _, _, rfl, sm (by omega) hD.1, fun k6 w17 hk6 hk6' hO17 => ?_⟩
      have z17 := hO17.size
      have after : ∀ {j : Nat} {c a : Int} {w18 : World}, Only [b] w17 w18 → Rr F ts w18 b l j c a ((d + 1 : Nat) : Int) → (∀ w20, Only [b, k0] w18 w20 → Only [b] w w20 → Rr F ts w20 b l j c a (d : Int) → Did6 F ts w w20 b l d R (.agg (exv vk vn vs vo vl va).toArray)) →
          ∃ i15 : Int, Cells w18 (Addr.add ⟨b, 0, none⟩ 2) [.int .i64 i15] ∧ ∃ k7 k8 : Nat, ∃ z1 : List Value, ∃ k9 : Nat, (Addr.add ⟨b, 0, none⟩ 2) = ⟨k7, k8, none⟩ ∧ Blk w18 k7 k9 z1 ∧ (k8 + 1) ≤ z1.length ∧ k0 ≠ k7 ∧ k1 ≠ k7 ∧ k6 ≠ k7 ∧
          ∀ w19 : World, Only [k7] w18 w19 → Blk w19 k7 k9 (splice z1 k8 [.int .i64 (IntKind.wrap .i64 (i15 - 1))]) → ∀ w20 : World, Only [k0] w19 w20 → Did6 F ts w w20 b l d R (.agg #[.int .i64 vk, .int .i64 vn, .string (T vs), .int .i64 vo, vl.v, .int .i64 va]) := fun {j c a w18} hO18 h18 hdone => by
        refine ⟨((d + 1 : Nat) : Int), Blk.at1 h18.blk 2 rfl, b, 2, _, _, rfl, h18.blk, by simp, by omega, by omega, by omega, fun w19 hO19 hB19 w20 hO20 => ?_⟩
        have ed : ((d + 1 : Nat) : Int) - 1 = d := by omega
        rw [ed, wr' (by omega) (by omega)] at hB19
        have h19 : Rr F ts w19 b l j c a (d : Int) := h18.turn hO19 hB19 h18.lt
        exact hdone w20 ((hO19.weaken (bs' := [b, k0]) fun x hx => .inl (by simp only [List.mem_singleton] at hx; simp [hx])).trans hO20 fun x hx => .inl (by simp only [List.mem_singleton] at hx; simp [hx])) (own0 (((hO016.tr0 hO17).trans hO18 fun x hx => .inl hx).trans hO19 fun x hx => .inl hx) hO20) (h19.own hO20 (by simp; omega))
      obtain ⟨hO16, hD⟩ := hD
      cases hN : E0 (i + 1) with
      | error e =>
        rw [hN] at hD hR
        obtain ⟨a1, a2, j, a3⟩ := hD
        refine (rmust_c (a3.only hO17) [41]).mono ?_
        rintro _ w18 ⟨rfl, hO18, hR18⟩
        rw [if_neg (by simp [a1]), if_neg a1, if_neg a1] at hR18
        refine ⟨rfl, hO18.same (by simp; omega), after hO18 hR18 fun w20 hO20 hOw h20 => ⟨hOw, ?_⟩⟩
        rw [← hR]
        exact ⟨a1, ⟨_, _, _, _, _, _, rfl⟩, j, h20⟩
      | ok q =>
        obtain ⟨x, j⟩ := q
        rw [hN] at hD hR
        obtain ⟨cs, a1, a2, a3⟩ := hD
        refine (rmust_c (a3.only hO17) [41]).mono ?_
        rintro _ w18 ⟨rfl, hO18, hR18⟩
        rw [show ((0 : Int) == 0) = true from rfl, Bool.true_and, if_pos rfl, if_pos rfl] at hR18
        refine ⟨rfl, hO18.same (by simp; omega), ?_⟩
        have z18 := hO18.size
        by_cases hs41 : sg ts j [41] = true
        · rw [if_pos hs41] at hR18
          refine after hO18 hR18 fun w20 hO20 hOw h20 => ⟨hOw, ?_⟩
          rw [← hR]
          simp only [parR, hs41, if_true]
          have z20 := hO20.size
          exact ⟨cs, a1, (((a2.only hO17 (by simp)).only hO18 fun k hk => .inl (by simp only [List.mem_singleton] at hk; omega)).only hO20 fun k hk => .inl (by simp only [List.mem_cons, List.not_mem_nil, or_false] at hk; omega)).wide (by omega) (by omega), h20⟩
        · rw [if_neg hs41] at hR18
          refine after hO18 hR18 fun w20 hO20 hOw h20 => ⟨hOw, ?_⟩
          rw [← hR]
          simp only [parR, hs41, if_false]
          exact ⟨wrongF_ne, ⟨_, _, _, _, _, _, rfl⟩, j, h20⟩
  · have hi : (tk ts i).k = 3 := by simpa using hi
    rw [if_neg (by rw [hs]; decide), if_neg (by rw [hp]; decide), if_pos hi] at hR
    have hn := h.en.next h.lt (by rw [hi]; decide)
    refine ⟨(i : Int), Blk.at1 h4.blk 1 rfl, b, 1, _, _, rfl, h4.blk, by simp, by omega, by omega, fun w21 hO21 hB21 w22 hO22 => ⟨own0 (hO04b.trans hO21 fun x hx => .inl hx) hO22, ?_⟩⟩
    rw [wr' (by omega) (by omega)] at hB21
    have h21 : Rr F ts w21 b l (i + 1) 0 0 (d : Int) := h4.turn hO21 hB21 hn
    rw [← hR]
    exact ⟨_, rfl, .leaf .., h21.own hO22 (by simp; omega)⟩
  · have hi : ¬ (tk ts i).k = 3 := by simpa using hi
    have hv : (tk ts i).k = 1 := by simpa using hv
    rw [if_neg (by rw [hs]; decide), if_neg (by rw [hp]; decide), if_neg hi, if_pos hv] at hR
    have hn := h.en.next h.lt (by rw [hv]; decide)
    refine ⟨(i : Int), Blk.at1 h4.blk 1 rfl, b, 1, _, _, rfl, h4.blk, by simp, by omega, by omega, fun w21 hO21 hB21 w22 hO22 => ⟨own0 (hO04b.trans hO21 fun x hx => .inl hx) hO22, ?_⟩⟩
    rw [wr' (by omega) (by omega)] at hB21
    have h21 : Rr F ts w21 b l (i + 1) 0 0 (d : Int) := h4.turn hO21 hB21 hn
    rw [← hR]
    exact ⟨_, rfl, .leaf .., h21.own hO22 (by simp; omega)⟩
  · have hi : ¬ (tk ts i).k = 3 := by simpa using hi
    have hv : ¬ (tk ts i).k = 1 := by simpa using hv
    rw [show (ByteArray.mk #[105, 110]) = T [105, 110] from rfl, T_eq]
    rw [if_neg (by rw [hs]; decide), if_neg (by rw [hp]; decide), if_neg hi, if_neg hv] at hR
    refine ⟨fun hw => ?_, fun hw => (rwrong_c h4).mono ?_⟩
    · have hw : (tk ts i).k = 2 ∧ (tk ts i).t = [105, 110] := by simpa using hw
      rw [if_pos hw] at hR
      have hn := h.en.next h.lt (by rw [hw.1]; decide)
      refine (rin_c h4 hn).mono ?_
      rintro _ w25 ⟨v, rfl, hD⟩
      obtain ⟨vk, vn, vs, vo, vl, va, rfl⟩ := hD.typed
      refine ⟨_, _, _, _, _, _, rfl, sm (by omega) hD.1, fun w26 hO26 => ?_⟩
      rw [← hR]
      exact hD.around hO04b hO26 (by simp; omega)
    · rw [if_neg (fun hh => by rw [hh.1, hh.2] at hw; simp at hw)] at hR
      rintro _ w27 ⟨rfl, hO27, hR27⟩
      rw [if_pos rfl, if_pos rfl] at hR27
      refine ⟨rfl, sm (by omega) hO27, fun w28 hO28 => ⟨own0 (hO04b.trans hO27 fun x hx => .inl hx) hO28, ?_⟩⟩
      rw [← hR]
      exact ⟨wrongF_ne, exT0, i, hR27.own hO28 (by simp; omega)⟩
/-- where the loop of a row stands -/
def At6 (F : Nat → Prop) (ts : List Tk) (w : World) (b : Nat) (l : Sl) (d : Nat) (N : Nat → Prop) (E : Nat → Pr) (k : Int) (R : Pr) (nv : Nat) (op : Int) (cs : List Value) (w' : World) : Prop := Only [b] w w' ∧
  ((∃ (c a : Int) (j : Nat), op = 0 ∧ c ≠ 0 ∧ R = .error (c, a) ∧ Rr F ts w' b l j c a (d : Int)) ∨
   (∃ (x : Ex) (j : Nat), op = opAt ts k j ∧ RXN w' N w.heap.size w'.heap.size x cs ∧ Rr F ts w' b l j 0 0 (d : Int) ∧ R = loopR ts E k nv x j ∧ ts.length - j ≤ nv))
theorem from_step {f k d : Nat} (hk6 : k < 6) (h : Rr F ts w b l i 0 0 (d : Int))
    (hE : ∀ w i, Rr F ts w b l i 0 0 (d : Int) → Calls Tryz.prog 23 #[.pointer (some ⟨b, 0, none⟩), .int .i64 ((k + 1 : Nat) : Int)] w fun e w' => ∃ v, e = .returned v ∧ Did6 F ts w w' b l d (exprR ts f (k + 1) d i) v) :
    Calls Tryz.prog 23 #[.pointer (some ⟨b, 0, none⟩), .int .i64 (k : Int)] w fun e w' => ∃ v, e = .returned v ∧ Did6 F ts w w' b l d (exprR ts (f + 1) k d i) v := by
  have eR : exprR ts (f + 1) k d i = andR (exprR ts f (k + 1) d i) fun x j => loopR ts (exprR ts f (k + 1) d) (k : Int) (ts.length - j) x j := by rw [exprR, if_neg (by omega)]
  rw [eR]
  have hmono : ∀ i x j, exprR ts f (k + 1) d i = .ok (x, j) → i < j := fun i x j h => exprR_mono f _ _ i h
  generalize hgE : exprR ts f (k + 1) d = E at *
  generalize hR : (andR (E i) fun x j => loopR ts E (k : Int) (ts.length - j) x j) = R
  refine pavaneref05_reader_from_wp ⟨b, 0, none⟩ _ (fun v w' => Did6 F ts w w' b l d R v) w ?_
  unfold pavaneref05_reader_from_vc
  have ek : IntKind.wrap .i64 ((k : Int) + 1) = ((k + 1 : Nat) : Int) := by rw [wr' (by omega) (by omega)]; rfl
  refine ⟨fun hc => absurd (by simpa using hc) (by omega : ¬ (k : Int) = 6), fun _ k1 w3 hk1 hk1' hO3 => ?_⟩
  have hb := h.lb
  rw [ek]
  refine (hE w3 i (h.only hO3)).mono ?_
  rintro _ w4 ⟨v, rfl, hD⟩
  obtain ⟨vk, vn, vs, vo, vl, va, rfl⟩ := hD.typed
  have z3 := hO3.size
  have z4 := hD.1.size
  refine ⟨_, _, _, _, _, _, rfl, hD.1.same (by simp; omega), fun k2 w5 hk2 hk2' hO5 => ?_⟩
  have z5 := hO5.size
  have hO05 : Only [b] w w5 := ((hO3.weaken (bs' := [b]) fun _ h => (by cases h)).trans hD.1 fun x hx => .inl hx).tr0 hO5
  have sm : ∀ {u u' : World}, w5.heap.size ≤ u.heap.size → Only [b] u u' → Same [k1, k2] u u' := fun hu hO => hO.same (by intro x hx; simp only [List.mem_cons, List.not_mem_nil, or_false] at hx ⊢; omega)
  have hbg := h.big
  have hst : ∃ (j : Nat) (c a : Int), Rr F ts w4 b l j c a (d : Int) ∧ ∀ w6, Only [] w4 w6 → ∃ nv, At6 F ts w b l d (fun q => q = k1 ∨ q = k2) E (k : Int) R nv (if c = 0 then opAt ts (k : Int) j else 0) (exv vk vn vs vo vl va) w6 := by
    obtain ⟨hO4, hD2⟩ := hD
    have hO04 : Only [b] w w4 := (hO3.weaken (bs' := [b]) fun _ h => (by cases h)).trans hO4 fun x hx => .inl hx
    cases hEi : E i with
    | error e =>
      rw [hEi] at hD2 hR
      obtain ⟨c, a⟩ := e
      obtain ⟨a1, a2, j, a3⟩ := hD2
      exact ⟨j, c, a, a3, fun w6 hO6 => ⟨0, hO04.tr0 hO6, .inl ⟨c, a, j, if_neg a1, a1, hR.symm, a3.only hO6⟩⟩⟩
    | ok q =>
      obtain ⟨x, j⟩ := q
      rw [hEi] at hD2 hR
      obtain ⟨cs, a1, a2, a3⟩ := hD2
      have hcs : (exv vk vn vs vo vl va) = cs := congrArg Array.toList (Value.agg.inj a1)
      rw [hcs]
      exact ⟨j, 0, 0, a3, fun w6 hO6 => ⟨ts.length - j, hO04.tr0 hO6, .inr ⟨x, j, if_pos rfl, ((a2.only hO6 (by simp)).holes fun q h1 h2 _ => (by omega)).wide z3 hO6.size, a3.only hO6, hR.symm, Nat.le_refl _⟩⟩⟩
  obtain ⟨j0, c0, a0, hR4, hst⟩ := hst
  refine (xrow_c (hR4.only hO5) hk6).mono ?_
  rintro _ w6 ⟨rfl, hO6⟩
  have z6 := hO6.size
  obtain ⟨nv0, hA0⟩ := hst w6 (hO5.tr0 hO6)
  refine ⟨_, rfl, hO6.same (by simp; omega), fun nv op i10 i11 s2 i12 l2 i13 w' => w5.heap.size ≤ w'.heap.size ∧ At6 F ts w b l d (fun q => q = k1 ∨ q = k2) E (k : Int) R nv op [.int .i64 i10, .int .i64 i11, .string s2, .int .i64 i12, l2.v, .int .i64 i13] w', nv0, ⟨z6, hA0⟩, ?_⟩
  rintro nv op i10 i11 s2 i12 l2 i13 w7 ⟨z7, hO7, hA⟩
  refine ⟨fun hop => ?_, fun hop w14 hO14 => ?_⟩
  · have hop : op ≠ 0 := by simpa using hop
    rcases hA with ⟨_, _, _, e, _⟩ | ⟨x, j, rfl, hX, hRd, hRe, hnv⟩
    · exact absurd e hop
    have hn := hRd.en.next hRd.lt (opFrom_sg _ _ hop)
    obtain ⟨g, rfl⟩ : ∃ g, nv = g + 1 := ⟨nv - 1, by omega⟩
    rw [loopR, if_neg hop] at hRe
    refine ⟨(j : Int), Blk.at1 hRd.blk 1 rfl, b, 1, _, _, rfl, hRd.blk, by simp, by omega, by omega, fun w8 hO8 hB8 => ?_⟩
    rw [wr' (by omega) (by omega)] at hB8
    have h8 : Rr F ts w8 b l (j + 1) 0 0 (d : Int) := hRd.turn hO8 hB8 hn
    have z8 := hO8.size
    refine (hE w8 (j + 1) h8).mono ?_
    rintro _ w9 ⟨v, rfl, hD9⟩
    obtain ⟨yk, yn, ys, yo, yl, ya, rfl⟩ := hD9.typed
    have z9 := hD9.1.size
    refine ⟨_, _, _, _, _, _, rfl, sm (by omega) hD9.1, fun k8 w10 hk8 hk8' hO10 => ?_⟩
    have z10 := hO10.size
    obtain ⟨w11, k11, hB11, hO11⟩ := buildX w10 [[.int .i64 i10, .int .i64 i11, .string s2, .int .i64 i12, l2.v, .int .i64 i13], exv yk yn ys yo yl ya] (by simp) (by simp) (by simp) (parts := #[(0, .agg #[.int .i64 i10, .int .i64 i11, .string s2, .int .i64 i12, l2.v, .int .i64 i13]), (1, .agg (exv yk yn ys yo yl ya).toArray)]) rfl
    have z11 := hO11.size
    refine ⟨⟨some ⟨w10.heap.size, 0, none⟩, 2, 2⟩, w11, k11, hO11.same (by simp; omega), fun w12 hO12 => ?_⟩
    have z12 := hO12.size
    have hO012 : Only [b] w w12 := ((((hO7.trans hO8 fun x hx => .inl hx).trans hD9.1 fun x hx => .inl hx).tr0 hO10).tr0 hO11).new hO12 (by omega)
    have hO912 : Only [k2] w9 w12 := ((hO10.tr0 hO11).weaken (bs' := [k2]) fun _ h => (by cases h)).trans hO12 fun x hx => .inl hx
    have hst2 : ∃ (j' : Nat) (c a : Int), Rr F ts w9 b l j' c a (d : Int) ∧ ∀ w13, Only [] w12 w13 → ∃ nv, nv < g + 1 ∧ At6 F ts w b l d (fun q => q = k1 ∨ q = k2) E (k : Int) R nv (if c = 0 then opAt ts (k : Int) j' else 0) (exv 5 0 [] (opAt ts (k : Int) j) ⟨some ⟨w10.heap.size, 0, none⟩, 2, 2⟩ i13) w13 := by
      obtain ⟨hO9, hD2⟩ := hD9
      cases hEi : E (j + 1) with
      | error e =>
        rw [hEi] at hD2 hRe
        obtain ⟨c, a⟩ := e
        obtain ⟨a1, a2, j', a3⟩ := hD2
        exact ⟨j', c, a, a3, fun w13 hO13 => ⟨0, by omega, hO012.tr0 hO13, .inl ⟨c, a, j', if_neg a1, a1, hRe, (a3.own hO912 (by simp; omega)).only hO13⟩⟩⟩
      | ok q =>
        obtain ⟨y, j'⟩ := q
        rw [hEi] at hD2 hRe
        obtain ⟨cs, a1, a2, a3⟩ := hD2
        have hcs : (exv yk yn ys yo yl ya) = cs := congrArg Array.toList (Value.agg.inj a1)
        have hjj := hmono _ _ _ hEi
        obtain ⟨xl, hxl, _⟩ := hX.cells
        have hxa : i13 = x.a := by
          simp only [exv, List.cons.injEq, Value.int.injEq] at hxl
          exact hxl.2.2.2.2.2.1.2
        refine ⟨j', 0, 0, a3, fun w13 hO13 => ⟨g, by omega, hO012.tr0 hO13, .inr ⟨.mk 5 0 [] (opAt ts (k : Int) j) [x, y] x.a, j', if_pos rfl, ?_, (a3.own hO912 (by simp; omega)).only hO13, hRe, ?_⟩⟩⟩
        · have z13 := hO13.size
          have hO713 : Only [b, k2] w7 w13 := (((((hO8.weaken (bs' := [b, k2]) fun x hx => .inl (by simp only [List.mem_singleton] at hx; simp [hx])).trans hO9 fun x hx => .inl (by simp only [List.mem_singleton] at hx; simp [hx])).trans hO912 fun x hx => .inl (by simp only [List.mem_singleton] at hx; simp [hx])).tr0 hO13))
          have hO913 : Only [k2] w9 w13 := hO912.tr0 hO13
          have hB13 : Blk w13 w10.heap.size 26 ([.int .i64 i10, .int .i64 i11, .string s2, .int .i64 i12, l2.v, .int .i64 i13] ++ cs) := by
            have := hO13.blk (hO12.blk hB11 (by simp; omega)) (by simp)
            rw [← hcs]
            simpa using this
          have hx13 : RXN w13 (fun q => q = k1 ∨ q = k2) w.heap.size w7.heap.size x [.int .i64 i10, .int .i64 i11, .string s2, .int .i64 i12, l2.v, .int .i64 i13] := by
            exact hX.only hO713 fun q hq => by
              simp only [List.mem_cons, List.not_mem_nil, or_false] at hq
              rcases hq with rfl | rfl
              · exact .inl hb
              · exact .inr (.inr (.inr rfl))
          have hy13 : RXN w13 (fun q => q = k1 ∨ q = k2) w8.heap.size w9.heap.size y cs := (a2.only hO913 fun q hq => .inl (by simp only [List.mem_singleton] at hq; omega)).holes fun q h1 h2 _ => (by omega)
          rw [hxa]
          exact .two w.heap.size w7.heap.size w8.heap.size w9.heap.size w10.heap.size _ _ _ _ _ _ x y _ cs hx13 z8 hy13 (by omega) (by omega) (by omega) (by omega) (by have := hB13.lt; omega) (by omega) hB13
        · omega
    obtain ⟨j', c', a', hR9, hst2⟩ := hst2
    refine (xrow_c (hR9.own hO912 (by simp; omega)) hk6).mono ?_
    rintro _ w13 ⟨rfl, hO13⟩
    obtain ⟨nv', hnv', hA'⟩ := hst2 w13 hO13
    exact ⟨_, rfl, hO13.same (by simp; omega), nv', hnv', by have := hO13.size; omega, hA'⟩
  · have hop : op = 0 := by simpa using hop
    refine ⟨hO7.new hO14 (by omega), ?_⟩
    rcases hA with ⟨c, a, j, _, hc, hRe, hRd⟩ | ⟨x, j, hoj, hX, hRd, hRe, hnv⟩
    · rw [hRe]
      exact ⟨hc, ⟨i10, i11, s2.data.toList, i12, l2, i13, by unfold exv; rw [← T_of]⟩, j, hRd.own hO14 (by simp; omega)⟩
    · rw [hRe, loop_zero (by rw [← hoj, hop])]
      exact ⟨_, rfl, ((hX.only hO14 fun q hq => .inr (.inr (.inl (by simpa using hq)))).holes fun _ _ _ _ h => h).wide (Nat.le_refl _) hO14.size, hRd.own hO14 (by simp; omega)⟩
theorem rreader_c : ∀ f : Nat, (∀ (k d i : Nat) (w : World), k ≤ 6 → d ≤ 20 → need k d ≤ f → Rr F ts w b l i 0 0 (d : Int) →
      Calls Tryz.prog 23 #[.pointer (some ⟨b, 0, none⟩), .int .i64 (k : Int)] w fun e w' => ∃ v, e = .returned v ∧ Did6 F ts w w' b l d (exprR ts f k d i) v) ∧
    (∀ (d i : Nat) (w : World), d ≤ 20 → need 6 d ≤ f → Rr F ts w b l i 0 0 (d : Int) →
      Calls Tryz.prog 33 #[.pointer (some ⟨b, 0, none⟩)] w fun e w' => ∃ v, e = .returned v ∧ Did6 F ts w w' b l d (exprR ts f 6 d i) v)
  | 0 => ⟨fun k d i w hk hd hn => by unfold need at hn; omega, fun d i w hd hn => by unfold need at hn; omega⟩
  | f + 1 => by
    obtain ⟨ih1, ih2⟩ := rreader_c f
    have one : ∀ (d i : Nat) (w : World), d ≤ 20 → need 6 d ≤ f + 1 → Rr F ts w b l i 0 0 (d : Int) →
      Calls Tryz.prog 33 #[.pointer (some ⟨b, 0, none⟩)] w fun e w' => ∃ v, e = .returned v ∧ Did6 F ts w w' b l d (exprR ts (f + 1) 6 d i) v := fun d i w hd hn h => by
      unfold need at hn
      exact rone_c hd h (fun h20 w i h => ih1 0 (d + 1) i w (by omega) (by omega) (by unfold need; omega) h) (fun h20 w i h => ih2 (d + 1) i w (by omega) (by unfold need; omega) h)
    refine ⟨fun k d i w hk hd hn h => ?_, one⟩
    by_cases h6 : k = 6
    · subst h6
      refine pavaneref05_reader_from_wp ⟨b, 0, none⟩ _ (fun v w' => Did6 F ts w w' b l d (exprR ts (f + 1) 6 d i) v) w ?_
      unfold pavaneref05_reader_from_vc
      refine ⟨fun _ k0 w0 hk0 hk0' hO0 => ?_, fun hc => absurd hc (by decide)⟩
      refine (one d i w0 hd hn (h.only hO0)).mono ?_
      rintro _ w1 ⟨v, rfl, hD⟩
      obtain ⟨vk, vn, vs, vo, vl, va, rfl⟩ := hD.typed
      have hb := h.lb
      exact ⟨_, _, _, _, _, _, rfl, hD.1.same (by simp; omega), fun w2 hO2 => hD.around (hO0.weaken fun _ h => (by cases h)) hO2 (by simp; omega)⟩
    · unfold need at hn
      exact from_step (by omega) h fun w i h => ih1 (k + 1) d i w (by omega) hd (by unfold need; omega) h
end
end Go.Proofs.YtdlcmgbidoabmaaGreatDoor.Con
