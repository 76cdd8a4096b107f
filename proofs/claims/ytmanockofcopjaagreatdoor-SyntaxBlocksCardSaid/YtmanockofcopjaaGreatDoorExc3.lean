
/-
  Own work: what the functions of the expression reader do: what has no operator of two.
-/
import Derived.Test.YtmanockofcopjaaGreatDoorExc2
namespace Go.Proofs.YtmanockofcopjaaGreatDoor.Con
open Go Go.RowKit Go.Kt Go.Kt.V Go.Proofs.YtmanockofcopjaaGreatDoor.Vc
set_option linter.unusedSimpArgs false
set_option linter.unusedVariables false
set_option maxHeartbeats 4000000

section
variable {F G : Nat → Prop} {ts : List Tk} {w w' : World} {b : Nat} {l sn : Sl} {i : Nat} {fc fa d : Int}
theorem Did5.typed {w w' : World} {d : Nat} {r : Pr} {v : Value} (h : Did5 F G ts w w' b l sn d r v) : exT v := by
  obtain ⟨_, h⟩ := h
  cases r with
  | error e => exact h.2.1
  | ok q =>
    obtain ⟨cs, rfl, hx, _⟩ := h
    obtain ⟨sl, rfl, _⟩ := hx.cells
    exact ⟨_, _, _, _, _, _, rfl⟩
/-- some of one's own turned ahead and behind -/
theorem Did5.around {w0 w1 w2 w3 : World} {d : Nat} {r : Pr} {v : Value} (h : Did5 F G ts w1 w2 b l sn d r v) (hO0 : Only [b] w0 w1) {bs : List Nat} (hO2 : Only bs w2 w3) (hb : ∀ x, x ∈ bs → b < x ∧ w0.heap.size ≤ x ∧ x < w1.heap.size) : Did5 F G ts w0 w3 b l sn d r v := by
  obtain ⟨hO, h⟩ := h
  have z0 := hO0.size
  have z1 := hO.size
  have z2 := hO2.size
  refine ⟨(hO0.trans hO fun x hx => .inl hx).trans hO2 fun x hx => .inr (hb x hx).2.1, ?_⟩
  cases r with
  | error e =>
    obtain ⟨h1, h2, j, h3⟩ := h
    exact ⟨h1, h2, j, h3.own hO2 fun x hx => (hb x hx).1⟩
  | ok q =>
    obtain ⟨cs, h1, h2, h3⟩ := h
    exact ⟨cs, h1, (h2.only hO2 fun x hx => .inl (hb x hx).2.2).wide z0 z2, h3.own hO2 fun x hx => (hb x hx).1⟩
theorem par_c {d : Nat} {r : Pr} {k0 : Nat} (h : Rd F G ts w b l sn i 0 0 (d : Int)) (hk : b < k0) (hB : Blk w k0 144 [.pointer (some ⟨b, 0, none⟩)])
    (hE : ∀ w1, Only [] w w1 → Calls Tryz.prog 92 #[.pointer (some ⟨b, 0, none⟩), .int .i64 0] w1 fun e w' => ∃ v, e = .returned v ∧ Did5 F G ts w1 w' b l sn d r v) :
    Calls Tryz.prog 129 #[.pointer (some ⟨k0, 0, none⟩)] w fun e w' => ∃ v, e = .returned v ∧ Did5 F G ts w w' b l sn d (parR ts r) v := by
  refine expr_reader_one_1_wp ⟨k0, 0, none⟩ (fun v w' => Did5 F G ts w w' b l sn d (parR ts r) v) w ?_
  unfold expr_reader_one_1_vc
  intro k1 w0 hk1 hk1' hO0
  have hb := h.lb
  have hB0 : Blk w0 k0 144 [.pointer (some ⟨b, 0, none⟩)] := hO0.blk hB (by simp)
  have hkl := hB.lt
  refine ⟨_, Blk.at1 hB0 0 rfl, (hE w0 hO0).mono ?_⟩
  rintro _ w1 ⟨v, rfl, hd⟩
  obtain ⟨k, n, s, op, sl, a, rfl⟩ := hd.typed
  have z1 := hd.1.size
  refine ⟨_, _, _, _, _, _, rfl, hd.1.same (by simp; omega), fun k2 w2 hk2 hk2' hO2 => ?_⟩
  have z2 := hO2.size
  have hB2 : Blk w2 k0 144 [.pointer (some ⟨b, 0, none⟩)] := hO2.blk (hd.1.blk hB0 (by simp; omega)) (by simp)
  refine ⟨_, Blk.at1 hB2 0 rfl, _, rfl, ?_⟩
  obtain ⟨hO1, hd⟩ := hd
  have hO02 : Only [b] w w2 := ((hO0.weaken fun _ h => (by cases h)).trans hO1 fun x hx => .inl hx).tr0 hO2
  cases r with
  | error e =>
    obtain ⟨h1, h2, j, h3⟩ := hd
    have h3 := h3.only hO2
    refine (must_c h3 [41]).mono ?_
    rintro _ w3 ⟨rfl, hO3, hR⟩
    rw [if_neg (by simp [h1]), if_neg h1, if_neg h1] at hR
    refine ⟨rfl, hO3.same (by simp; omega), fun w4 hO4 => ⟨((hO02.trans hO3 fun x hx => .inl hx).new hO4 hk1), h1, ⟨_, _, _, _, _, _, rfl⟩, j, hR.own hO4 (by simp; omega)⟩⟩
  | ok q =>
    obtain ⟨x, j⟩ := q
    obtain ⟨cs, h1, h2, h3⟩ := hd
    have h3 := h3.only hO2
    refine (must_c h3 [41]).mono ?_
    rintro _ w3 ⟨rfl, hO3, hR⟩
    have z3 := hO3.size
    refine ⟨rfl, hO3.same (by simp; omega), fun w4 hO4 => ⟨((hO02.trans hO3 fun x hx => .inl hx).new hO4 hk1), ?_⟩⟩
    have z4 := hO4.size
    by_cases hs : sg ts j [41] = true
    · rw [if_pos (by simp [hs])] at hR
      simp only [parR, hs, if_true]
      exact ⟨cs, h1, (((h2.only hO2 (by simp)).only hO3 fun k hk => .inl (by simp only [List.mem_singleton] at hk; omega)).only hO4 fun k hk => .inl (by simp only [List.mem_singleton] at hk; omega)).wide (by omega) (by omega), hR.own hO4 (by simp; omega)⟩
    · rw [if_neg (by simp [hs]), if_pos rfl, if_pos rfl] at hR
      simp only [parR, hs, if_false]
      exact ⟨wrongF_ne, ⟨_, _, _, _, _, _, rfl⟩, j, hR.own hO4 (by simp; omega)⟩
theorem eone_c {f d : Nat} (hd : d ≤ 20) (h : Rd F G ts w b l sn i 0 0 (d : Int))
    (hE : d ≠ 20 → ∀ w i, Rd F G ts w b l sn i 0 0 ((d + 1 : Nat) : Int) → Calls Tryz.prog 92 #[.pointer (some ⟨b, 0, none⟩), .int .i64 0] w fun e w' => ∃ v, e = .returned v ∧ Did5 F G ts w w' b l sn (d + 1) (exprR ts f 0 (d + 1) i) v)
    (hOne : d ≠ 20 → ∀ w i, Rd F G ts w b l sn i 0 0 ((d + 1 : Nat) : Int) → Calls Tryz.prog 113 #[.pointer (some ⟨b, 0, none⟩)] w fun e w' => ∃ v, e = .returned v ∧ Did5 F G ts w w' b l sn (d + 1) (exprR ts f 6 (d + 1) i) v) :
    Calls Tryz.prog 113 #[.pointer (some ⟨b, 0, none⟩)] w fun e w' => ∃ v, e = .returned v ∧ Did5 F G ts w w' b l sn d (exprR ts (f + 1) 6 d i) v := by
  have eR : exprR ts (f + 1) 6 d i = oneR ts (exprR ts f 0 (d + 1)) (exprR ts f 6 (d + 1)) d i := by rw [exprR, if_pos rfl]
  rw [eR]
  generalize hgE : exprR ts f 0 (d + 1) = E0 at *
  generalize hgO : exprR ts f 6 (d + 1) = One at *
  generalize hR : oneR ts E0 One d i = R
  rw [oneR] at hR
  refine expr_reader_one_wp ⟨b, 0, none⟩ (fun v w' => Did5 F G ts w w' b l sn d R v) w ?_
  unfold expr_reader_one_vc
  intro k0 k1 w0 hk0 hk0' hk1 hk1' hO0
  have hb := h.lb
  refine (now_c (h.only hO0)).mono ?_
  rintro _ w1 ⟨rfl, hO1⟩
  have z1 := hO1.size
  have hO01 := hO0.tr0 hO1
  refine ⟨_, _, _, _, rfl, hO1.same (by simp; omega), fun k2 k3 w2 hk2 hk2' hk3 hk3' hO2 => ?_⟩
  have z2 := hO2.size
  have z0 := hO0.size
  have hO02 := hO01.tr0 hO2
  have h2 := h.only hO02
  have hbg := h.big
  have sm : ∀ {u u' : World}, w2.heap.size ≤ u.heap.size → Only [b] u u' → Same [k0, k1, k2, k3] u u' := fun hu hO => hO.same (by intro x hx; simp only [List.mem_cons, List.not_mem_nil, or_false] at hx ⊢; omega)
  have sm0 : ∀ {u u' : World}, w2.heap.size ≤ u.heap.size → Only [] u u' → Same [k0, k1, k2, k3] u u' := fun hu hO => hO.same (by intro x hx; simp only [List.mem_cons, List.not_mem_nil, or_false] at hx; exact ⟨by omega, by simp⟩)
  -- own variables turned behind a result
  refine ⟨fun q _ _ _ _ _ _ vk vn vs vo vl va w' => q = some ⟨b, 0, none⟩ ∧ Only [] w w' ∧ (tk ts i).k ≠ 5 ∧ ∃ t, vs = T t ∧ vl = Sl.nil ∧ R = .ok (.mk vk vn t vo [] va, i + 1), ?_, ?_⟩
  · rintro _ _ _ _ _ _ _ vk vn _ vo _ va w3 ⟨rfl, hO3, hne, t, rfl, rfl, hRe⟩
    have h3 := h.only hO3
    have hn := h.en.next h.lt hne
    refine ⟨_, rfl, (i : Int), Blk.at1 h3.blk 1 rfl, _, rfl, b, 1, _, _, rfl, h3.blk, by simp, by omega, by omega, by omega, by omega, fun w4 hO4 hB4 w5 hO5 => ?_⟩
    rw [wr' (by omega) (by omega)] at hB4
    have h4 : Rd F G ts w4 b l sn (i + 1) 0 0 (d : Int) := h3.turn hO4 hB4 hn
    rw [hRe]
    refine ⟨((hO3.weaken (bs' := [b]) fun _ h => (by cases h)).trans hO4 fun x hx => .inl hx).new hO5 (by omega), _, rfl, .leaf .., h4.own hO5 (by simp; omega)⟩
  refine (bad_c h2).mono ?_
  rintro _ w6 ⟨rfl, hO6⟩
  have z6 := hO6.size
  have h6 := h2.only hO6
  refine ⟨_, rfl, sm0 (by omega) hO6, fun hc => (by simp at hc), fun _ => ?_⟩
  obtain ⟨s8, w8, k8, hO8, hc8⟩ := is2 h6
  have z8 := hO8.size
  refine ⟨s8, w8, k8, sm0 (by omega) hO8, hc8.mono ?_⟩
  rintro _ w9 ⟨rfl, hO9⟩
  have z9 := hO9.size
  have hO29 := hO6.tr0 (hO8.tr0 hO9)
  have h9 := h2.only hO29
  rw [show ((0 : Int) == 0) = true from rfl, Bool.true_and]
  have hO09 := hO02.tr0 hO29
  refine ⟨_, rfl, sm0 (by omega) hO9, fun hc w10 hO10 => ?_, fun hc => ?_⟩
  · rw [if_pos hc] at hR
    have hne : (tk ts i).k ≠ 5 := by
      rcases Bool.or_eq_true _ _ ▸ hc with e | e <;> exact sg_k e
    have hn := h.en.next h.lt hne
    have key : ∀ op : Int, op = (if (tk ts i).t = [33] then 15 else 14) → ∀ w11, Only [] w w11 → w2.heap.size ≤ w11.heap.size → _ := fun op hop w11 hO11 hz11 => within_c hd (h.only hO11) hn (g := 113) (z1 := [.pointer (some ⟨b, 0, none⟩)]) (z2 := []) (fnOk_run (by kernel_rfl)) ⟨.func (.func 113) #[.pointer (some ⟨b, 0, none⟩)] #[], rfl⟩ rfl (r := One (i + 1)) fun hd20 w1 _ h1 => hOne hd20 w1 (i + 1) h1
    refine ⟨fun k n s op sl a w' => k = 4 ∧ n = 0 ∧ s = T [] ∧ op = (if (tk ts i).t = [33] then 15 else 14) ∧ sl = Sl.nil ∧ a = (tk ts i).a ∧ Only [] w w' ∧ w2.heap.size ≤ w'.heap.size, ?_, ?_, ?_⟩
    · rintro _ _ _ _ _ _ w11 ⟨rfl, rfl, rfl, hop, rfl, rfl, hO11, hz11⟩
      refine (key _ hop w11 hO11 hz11).mono ?_
      rintro _ w12 ⟨v, rfl, hD⟩
      obtain ⟨vk, vn, vs, vo, vl, va, rfl⟩ := hD.typed
      have z12 := hD.1.size
      obtain ⟨w13, k13, hB13, hO13⟩ := buildX w12 [exv vk vn vs vo vl va] (by simp) (by simp) (by simp) (parts := #[(0, .agg (exv vk vn vs vo vl va).toArray)]) rfl
      refine ⟨_, _, _, _, _, _, rfl, sm hz11 hD.1, ⟨some ⟨w12.heap.size, 0, none⟩, 1, 1⟩, w13, k13, sm0 (by omega) hO13, fun w14 hO14 => ?_⟩
      have z13 := hO13.size
      have z14 := hO14.size
      have hOf : Only [b] w w14 := (((hO11.weaken (bs' := [b]) fun _ h => (by cases h)).trans hD.1 fun x hx => .inl hx).tr0 hO13).trans hO14 fun x hx => .inr (by simp only [List.mem_cons, List.not_mem_nil, or_false] at hx; omega)
      have hob : ∀ x, x ∈ [k1, k3] → b < x := by simp; omega
      have hoo : ∀ x, x ∈ [k1, k3] → x < w11.heap.size := by simp; omega
      refine ⟨hOf, ?_⟩
      obtain ⟨_, hD⟩ := hD
      rw [← hR]
      cases hN : nestR d (tk ts i).a (One (i + 1)) with
      | error e =>
        rw [hN] at hD
        obtain ⟨a1, a2, j, a3⟩ := hD
        exact ⟨a1, ⟨_, _, _, _, _, _, rfl⟩, j, (a3.only hO13).own hO14 hob⟩
      | ok q =>
        obtain ⟨x, j⟩ := q
        rw [hN] at hD
        obtain ⟨cs, a1, a2, a3⟩ := hD
        refine ⟨_, rfl, ?_, (a3.only hO13).own hO14 hob⟩
        have hcs : (exv vk vn vs vo vl va) = cs := congrArg Array.toList (Value.agg.inj a1)
        rw [hop]
        have hx14 : RX w14 w11.heap.size w12.heap.size x cs := (a2.only hO13 (by simp)).only hO14 fun k hk => .inl (hoo k hk)
        have hB14 : Blk w14 w12.heap.size 24 cs := by
          have := hO14.blk hB13 fun hm => by have := hoo _ hm; omega
          rw [List.flatten_cons, List.flatten_nil, List.append_nil] at this
          rw [← hcs]; exact this
        exact .one w.heap.size w12.heap.size w12.heap.size _ _ _ _ _ _ x cs (hx14.wide (by omega) (Nat.le_refl _)) (by omega) (Nat.le_refl _) (by have := hB13.lt; omega) id hB14
    · rw [show (ByteArray.mk #[33]) = T [33] from rfl, T_eq]
      intro he w15 hO15
      have he := of_decide_eq_true he
      exact ⟨rfl, rfl, rfl, by rw [if_pos he], rfl, rfl, (hO09.new hO10 (by omega)).new hO15 (by omega), by have := hO15.size; have := hO10.size; omega⟩
    · rw [show (ByteArray.mk #[33]) = T [33] from rfl, T_eq]
      intro he
      have he := of_decide_eq_false he
      exact ⟨rfl, rfl, rfl, by rw [if_neg he], rfl, rfl, hO09.new hO10 (by omega), by have := hO10.size; omega⟩
  · rw [if_neg (by rw [hc]; decide)] at hR
    obtain ⟨s16, w16, k16, hO16, hc16⟩ := is1 h9 [40]
    have z16 := hO16.size
    refine ⟨s16, w16, k16, sm0 (by omega) hO16, hc16.mono ?_⟩
    rintro _ w17 ⟨rfl, hO17⟩
    have z17 := hO17.size
    have hO017 := hO09.tr0 (hO16.tr0 hO17)
    have h17 := h.only hO017
    have hO017b : Only [b] w w17 := hO017.weaken fun _ h => (by cases h)
    rw [show ((0 : Int) == 0) = true from rfl, Bool.true_and]
    refine ⟨_, rfl, sm0 (by omega) hO17, fun hp hB _ _ _ => ?_, fun hp => ?_⟩
    · rw [if_pos hp] at hR
      have hn := h.en.next h.lt (sg_k hp)
      subst hR
      refine (within_c hd h17 hn (g := 129) (z1 := []) (z2 := [.pointer (some ⟨k0, 0, none⟩)]) (fnOk_run (by kernel_rfl)) ⟨.func (.func 129) #[] #[.pointer (some ⟨k0, 0, none⟩)], rfl⟩ rfl (r := parR ts (E0 (i + 1))) fun hd20 w1 hO1 h1 => par_c h1 (by omega) (hO1.blk hB (by simp; omega)) fun w1' hO1' => hE hd20 w1' (i + 1) (h1.only hO1')).mono ?_
      rintro _ w18 ⟨v, rfl, hD⟩
      obtain ⟨vk, vn, vs, vo, vl, va, rfl⟩ := hD.typed
      have z18 := hD.1.size
      refine ⟨_, _, _, _, _, _, rfl, hD.1.same (by simp; omega), _, hD.1.blk hB (by simp; omega), fun w19 hO19 _ => ?_⟩
      exact hD.around hO017b hO19 (by simp; omega)
    rw [if_neg (by rw [hp]; decide)] at hR
    have hp' : (tk ts i).k ≠ 5 → i + 1 < ts.length := h.en.next h.lt
    refine ⟨fun hi w20 hO20 _ _ _ _ _ hne => ⟨fun k => k = k2, rfl, fun e => hne e.symm, fun e => hne e.symm, fun w21 hO21 => ?_⟩, fun hi => ⟨fun hv w22 hO22 _ _ _ _ _ hne => ⟨fun k => k = k2, rfl, fun e => hne e.symm, fun e => hne e.symm, fun w23 hO23 => ?_⟩, fun hv => ⟨fun hw => ?_, fun hw => ?_⟩⟩⟩
    · have hi : (tk ts i).k = 3 := by simpa using hi
      rw [if_pos hi] at hR
      exact ⟨rfl, (hO017.tr0 hO20).new hO21 (by omega), by rw [hi]; decide, [], rfl, rfl, hR.symm⟩
    · have hi : ¬ (tk ts i).k = 3 := by simpa using hi
      have hv : (tk ts i).k = 1 := by simpa using hv
      rw [if_neg hi, if_pos hv] at hR
      exact ⟨rfl, (hO017.tr0 hO22).new hO23 (by omega), by rw [hv]; decide, _, rfl, rfl, hR.symm⟩
    · have hi : ¬ (tk ts i).k = 3 := by simpa using hi
      have hv : ¬ (tk ts i).k = 1 := by simpa using hv
      rw [show (ByteArray.mk #[105, 110]) = T [105, 110] from rfl, T_eq] at hw
      have hw : (tk ts i).k = 2 ∧ (tk ts i).t = [105, 110] := by simpa using hw
      rw [if_neg hi, if_neg hv, if_pos hw] at hR
      have hn := hp' (by rw [hw.1]; decide)
      refine ⟨(i : Int), Blk.at1 h17.blk 1 rfl, b, 1, _, _, rfl, h17.blk, by simp, by omega, by omega, by omega, by omega, fun w24 hO24 hB24 => ?_⟩
      rw [wr' (by omega) (by omega)] at hB24
      have h24 : Rd F G ts w24 b l sn (i + 1) 0 0 (d : Int) := h17.turn hO24 hB24 hn
      have z24 := hO24.size
      refine (must_c h24 [40]).mono ?_
      rintro _ w25 ⟨rfl, hO25, hR25⟩
      have z25 := hO25.size
      refine ⟨rfl, sm (by omega) hO25, ?_⟩
      have hO025 : Only [b] w w25 := (hO017b.trans hO24 fun x hx => .inl hx).trans hO25 fun x hx => .inl hx
      -- what follows, at a fault that stands already
      have bad : ∀ {j : Nat} {c a : Int}, Rd F G ts w25 b l sn j c a (d : Int) → c ≠ 0 → Calls Tryz.prog 131 #[.pointer (some ⟨b, 0, none⟩)] w25 fun e w' => e = .returned (.string (T [])) ∧ Only [b] w25 w' ∧ Rd F G ts w' b l sn j c a (d : Int) := fun {j c a} h25 hc => by
        refine (name'_c h25).mono ?_
        rintro e w26 ⟨hO26, hh⟩
        rw [if_neg (fun hh => hc hh.1), if_neg hc, if_neg hc] at hh
        exact ⟨hh.1, hO26, hh.2⟩
      have badm : ∀ {w26 w27 : World} {j : Nat} {c a : Int}, Only [b] w25 w26 → Only [k3] w26 w27 → Rd F G ts w26 b l sn j c a (d : Int) → c ≠ 0 → R = .error (c, a) → ∀ s6 : ByteArray, Calls Tryz.prog 130 #[.pointer (some (Addr.add ⟨b, 0, none⟩ 0)), .string (ByteArray.mk #[41])] w27 fun e8 w28 => e8 = (.returned (.tuple #[])) ∧ Same [k0, k1, k2, k3] w27 w28 ∧ ∀ w29 : World, Only [k1] w28 w29 → Did5 F G ts w w29 b l sn d R (.agg #[.int .i64 3, .int .i64 0, .string s6, .int .i64 0, Sl.nil.v, .int .i64 (tk ts i).a]) := fun {w26 w27 j c a} hO26 hO27 h26 hc hRe s6 => by
        have z26 := hO26.size
        have z27 := hO27.size
        refine (must_c (h26.own hO27 (by simp; omega)) [41]).mono ?_
        rintro _ w28 ⟨rfl, hO28, hR28⟩
        rw [if_neg (by simp [hc]), if_neg hc, if_neg hc] at hR28
        refine ⟨rfl, sm (by omega) hO28, fun w29 hO29 => ?_⟩
        rw [hRe]
        refine ⟨((((hO025.trans hO26 fun x hx => .inl hx).new hO27 (by omega)).trans hO28 fun x hx => .inl hx).new hO29 (by omega)), hc, ⟨3, 0, s6.data.toList, 0, Sl.nil, _, by unfold exv; rw [← T_of]⟩, j, hR28.own hO29 (by simp; omega)⟩
      by_cases h1 : sg ts (i + 1) [40] = true
      · rw [if_pos (by simp [h1])] at hR25
        rw [inR, if_pos h1] at hR
        refine (name'_c hR25).mono ?_
        rintro _ w26 ⟨hO26, hh⟩
        have z26 := hO26.size
        by_cases h2 : (tk ts (i + 2)).k = 1
        · rw [if_pos ⟨rfl, h2⟩] at hh
          obtain ⟨rfl, hR26⟩ := hh
          rw [if_pos h2] at hR
          refine ⟨_, rfl, sm (by omega) hO26, fun w27 hO27 => ?_⟩
          have z27 := hO27.size
          have h27 := hR26.own hO27 (by simp; omega)
          refine (must_c h27 [41]).mono ?_
          rintro _ w28 ⟨rfl, hO28, hR28⟩
          refine ⟨rfl, sm (by omega) hO28, fun w29 hO29 => ?_⟩
          have hOf : Only [b] w w29 := (((hO025.trans hO26 fun x hx => .inl hx).new hO27 (by omega)).trans hO28 fun x hx => .inl hx).new hO29 (by omega)
          refine ⟨hOf, ?_⟩
          by_cases h3 : sg ts (i + 3) [41] = true
          · rw [if_pos (by simp [h3])] at hR28
            rw [if_pos h3] at hR
            rw [← hR]
            exact ⟨_, rfl, .leaf .., hR28.own hO29 (by simp; omega)⟩
          · rw [if_neg (by simp [h3]), if_pos rfl, if_pos rfl] at hR28
            rw [if_neg h3] at hR
            rw [← hR]
            exact ⟨wrongF_ne, ⟨_, _, _, _, _, _, rfl⟩, _, hR28.own hO29 (by simp; omega)⟩
        · rw [if_neg (fun hh => h2 hh.2), if_pos rfl, if_pos rfl] at hh
          obtain ⟨rfl, hR26⟩ := hh
          rw [if_neg h2] at hR
          exact ⟨_, rfl, sm (by omega) hO26, fun w27 hO27 => badm hO26 hO27 hR26 wrongF_ne hR.symm _⟩
      · rw [if_neg (by simp [h1]), if_pos rfl, if_pos rfl] at hR25
        rw [inR, if_neg h1] at hR
        refine (bad hR25 wrongF_ne).mono ?_
        rintro _ w26 ⟨rfl, hO26, hR26⟩
        exact ⟨_, rfl, sm (by omega) hO26, fun w27 hO27 => badm hO26 hO27 hR26 wrongF_ne hR.symm _⟩
    · have hi : ¬ (tk ts i).k = 3 := by simpa using hi
      have hv : ¬ (tk ts i).k = 1 := by simpa using hv
      rw [show (ByteArray.mk #[105, 110]) = T [105, 110] from rfl, T_eq] at hw
      rw [if_neg hi, if_neg hv, if_neg (fun hh => by rw [hh.1, hh.2] at hw; simp at hw)] at hR
      refine (wrong_c h17).mono ?_
      rintro _ w30 ⟨rfl, hO30, hR30⟩
      rw [if_pos rfl, if_pos rfl] at hR30
      refine ⟨rfl, sm (by omega) hO30, fun w31 hO31 => ⟨(hO017b.trans hO30 fun x hx => .inl hx).new hO31 (by omega), ?_⟩⟩
      rw [← hR]
      exact ⟨wrongF_ne, ⟨0, 0, [], 0, Sl.nil, _, rfl⟩, i, hR30.own hO31 (by simp; omega)⟩
end
end Go.Proofs.YtmanockofcopjaaGreatDoor.Con
