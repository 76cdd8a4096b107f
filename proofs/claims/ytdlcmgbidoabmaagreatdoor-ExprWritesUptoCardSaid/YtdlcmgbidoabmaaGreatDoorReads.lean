/-
  Own work: the document's Parse and Read; ExprReads, ExprParses.
-/
import Derived.Test.YtdlcmgbidoabmaaGreatDoorRef6
import Derived.Test.YtdlcmgbidoabmaaGreatDoorRef3
import Derived.Test.YtdlcmgbidoabmaaGreatDoorWrap
namespace Go.Proofs.YtdlcmgbidoabmaaGreatDoor.Con
open Go Go.RowKit Go.Kt Go.Kt.V Go.Proofs.YtdlcmgbidoabmaaGreatDoor.Vc
set_option linter.unusedSimpArgs false
set_option linter.unusedVariables false
set_option maxHeartbeats 4000000

theorem eparse_r {w : World} {F : Nat → Prop} {l : Sl} {ts : List Tk} (h : SliceF rTk 4 w F l ts) (a : Int) (ha : InI a) : Calls Tryz.prog 8 #[l.v, .int .i64 a] w fun e w' =>
    ∃ cs, e = .returned (.tuple #[.agg cs.toArray, .int .i64 (parseA ts a).2.1, .agg #[.int .i64 (parseA ts a).2.2.1, .int .i64 (parseA ts a).2.2.2]]) ∧ RX w' w.heap.size w'.heap.size (parseA ts a).1 cs ∧ ((parseA ts a).2.2.1 = 0 → 0 ≤ (parseA ts a).2.1 ∧ (parseA ts a).2.1 < ts.length) ∧ Only [] w w' := by
  refine (pavaneref05_Parse_wp l a (fun v w' => ∃ cs, v = (.tuple #[.agg cs.toArray, .int .i64 (parseA ts a).2.1, .agg #[.int .i64 (parseA ts a).2.2.1, .int .i64 (parseA ts a).2.2.2]]) ∧ RX w' w.heap.size w'.heap.size (parseA ts a).1 cs ∧ ((parseA ts a).2.2.1 = 0 → 0 ≤ (parseA ts a).2.1 ∧ (parseA ts a).2.1 < ts.length) ∧ Only [] w w') w ?_).mono (by
    rintro e w' ⟨v, rfl, cs, rfl, h⟩; exact ⟨cs, rfl, h⟩)
  unfold pavaneref05_Parse_vc
  have hlen := h.len
  have hcap := h.cap
  have hbig := h.big
  have bad : ¬ (0 ≤ a ∧ a < ts.length ∧ endN ts + 1 = ts.length) → ∀ w0, Only [] w w0 → ∃ cs, (Value.tuple #[.agg #[.int .i64 0, .int .i64 0, .string (ByteArray.mk #[]), .int .i64 0, Sl.nil.v, .int .i64 0], .int .i64 0, .agg #[.int .i64 1, .int .i64 (-1)]]) = (.tuple #[.agg cs.toArray, .int .i64 (parseA ts a).2.1, .agg #[.int .i64 (parseA ts a).2.2.1, .int .i64 (parseA ts a).2.2.2]]) ∧ RX w0 w.heap.size w0.heap.size (parseA ts a).1 cs ∧ ((parseA ts a).2.2.1 = 0 → 0 ≤ (parseA ts a).2.1 ∧ (parseA ts a).2.1 < ts.length) ∧ Only [] w w0 := fun hc w0 hO => by
    rw [parseA, if_neg hc]
    exact ⟨_, rfl, rx0 _ _ _, fun h => (by cases h), hO⟩
  refine ⟨fun hc k0 k1 w0 _ _ _ _ hO0 => bad (fun hh => ?_) w0 hO0, fun hc k2 k3 w1 hk2 hk2' hk3 hk3' hO1 => ?_⟩
  · simp only [Bool.or_eq_true, decide_eq_true_eq] at hc
    omega
  have hc : 0 ≤ a ∧ a < ts.length := by
    simp only [Bool.or_eq_false_iff, decide_eq_false_iff_not] at hc
    omega
  have z1 := hO1.size
  have own : ∀ {u u' : World}, Only [] w u → Only [k3, k2] u u' → Only [] w u' := fun h1 h2 => h1.trans h2 fun x hx => .inr (by simp only [List.mem_cons, List.not_mem_nil, or_false] at hx; omega)
  refine ⟨fun nv i _ _ _ _ _ _ _ _ w' => ∃ n : Nat, n ≤ ts.length ∧ i = (n : Int) ∧ nv = ts.length - n ∧ (∀ j, j < n → ((tk ts j).k = 5 ↔ j + 1 = ts.length)) ∧ Only [] w w' ∧ w1.heap.size ≤ w'.heap.size, ts.length, ⟨0, Nat.zero_le _, rfl, rfl, fun j hj => absurd hj (Nat.not_lt_zero j), hO1, Nat.le_refl _⟩, ?_⟩
  rintro nv _ _ _ _ _ _ _ _ _ w2 ⟨n, hn, rfl, rfl, hE, hO2, z2⟩
  have h2 := SliceF.only rTk_ok (by decide) h hO2 (by simp)
  refine ⟨fun hlt => ?_, fun hge k7 w4 hk7 hk7' hO4 hB4 => ?_⟩
  · have hlt : (n : Int) < (l.n : Int) := of_decide_eq_true hlt
    obtain ⟨ad, x, cs, g1, g2, g3, g4, g5, g6⟩ := h2.get (Int.natCast_nonneg n) hlt
    rw [Int.toNat_natCast, tk_at (by omega)] at g2
    injection g2 with g2
    subst g2
    unfold rTk at g6
    subst g6
    have e : ((tk ts n).k == 5) = decide ((tk ts n).k = 5) := by rw [Bool.eq_iff_iff]; simp
    have e2 : ((n : Int) == IntKind.wrap .i64 ((l.n : Int) - 1)) = decide (n + 1 = ts.length) := by
      rw [wr' (by omega) (by omega), Bool.eq_iff_iff]
      simp only [beq_iff_eq, decide_eq_true_eq]
      omega
    refine ⟨ad, g1, _, g5.at1 0 _ rfl, ?_⟩
    rw [e, e2]
    refine ⟨fun hm w3 hO3 => bad (fun hh => ?_) w3 (own hO2 hO3), fun hm => ⟨ts.length - (n + 1), by omega, n + 1, by omega, by rw [wr' (by omega) (by omega)]; rfl, rfl, fun j hj => ?_, hO2, z2⟩⟩
    · have := endN_end hh.2.2 n (by omega)
      rw [decide_eq_decide.2 this, beq_self_eq_true] at hm
      cases hm
    · rcases Nat.lt_or_ge j n with hjn | hjn
      · exact hE j hjn
      · have : j = n := by omega
        subst this
        have hm : decide ((tk ts j).k = 5) = decide (j + 1 = ts.length) := by simpa using hm
        exact decide_eq_decide.1 hm
  · have hge : ¬ (n : Int) < (l.n : Int) := of_decide_eq_false hge
    have : n = ts.length := by omega
    subst this
    have hEn : EndL ts := hE
    have hcc : 0 ≤ a ∧ a < ts.length ∧ endN ts + 1 = ts.length := ⟨hc.1, hc.2, end_endN hEn (by omega)⟩
    rw [parseA, if_pos hcc]
    obtain ⟨i, rfl⟩ : ∃ i : Nat, a = (i : Int) := ⟨a.toNat, by omega⟩
    have z4 := hO4.size
    have hO04 := hO2.tr0 hO4
    have hR : Rr (fun k => F k ∧ k < w.heap.size) ts w4 k7 l i 0 0 ((0 : Nat) : Int) := ⟨hB4, SliceF.only rTk_ok (by decide) (h.inHeap rTk_ok (by decide)) hO04 (by simp), fun k hk => by have := hk.2; have := hO2.size; omega, hEn, by omega⟩
    refine ((rreader_c (need 0 0)).1 0 0 i w4 (by decide) (by decide) (Nat.le_refl _) hR).mono ?_
    rintro _ w5 ⟨v, rfl, hD⟩
    obtain ⟨vk, vn, vs, vo, vl, va, rfl⟩ := hD.typed
    have z5 := hD.1.size
    obtain ⟨hO5, hD⟩ := hD
    rw [Int.toNat_natCast]
    have hpr : parseR ts i = exprR ts (need 0 0) 0 0 i := rfl
    rw [hpr]
    have z02 := hO2.size
    have hO05 : Only [] w w5 := hO04.trans hO5 fun x hx => .inr (by simp only [List.mem_singleton] at hx; omega)
    refine ⟨_, _, _, _, _, _, rfl, hO5.same (by simp; omega), ?_⟩
    cases hEx : exprR ts (need 0 0) 0 0 i with
    | error e =>
      rw [hEx] at hD
      obtain ⟨c, p⟩ := e
      obtain ⟨a1, a2, j, a3⟩ := hD
      refine ⟨_, _, _, _, _, a3.blk, fun _ k8 w6 _ _ hO6 hB6 n1 n2 n3 n4 n5 n6 => ⟨fun k => k = k7, rfl, fun e => n2 e, fun e => n4 e, fun w7 hO7 _ => ⟨_, rfl, rx0 _ _ _, fun h => absurd h a1, own (hO05.tr0 hO6) hO7⟩⟩, fun hcz => absurd (by simpa using hcz) a1⟩
    | ok q =>
      rw [hEx] at hD
      obtain ⟨x, j⟩ := q
      obtain ⟨cs, a1, a2, a3⟩ := hD
      have hcs : (exv vk vn vs vo vl va) = cs := congrArg Array.toList (Value.agg.inj a1)
      refine ⟨_, _, _, _, _, a3.blk, fun hcz => (by simp at hcz), fun _ k9 w8 hk9 hk9' hO8 hB8 n1 n2 n3 n4 n5 n6 => ⟨fun k => k = k7, rfl, fun e => n2 e, fun e => n4 e, fun w9 hO9 _ => ?_⟩⟩
      have z8 := hO8.size
      have z9 := hO9.size
      refine ⟨exv vk vn vs vo vl va, rfl, ?_, fun _ => ⟨Int.natCast_nonneg j, by have := a3.lt; dsimp only; omega⟩, own (hO05.tr0 hO8) hO9⟩
      rw [hcs]
      exact ((a2.only hO8 (by simp)).only hO9 fun q hq => .inl (by simp only [List.mem_cons, List.not_mem_nil, or_false] at hq; omega)).wide (by omega) (by omega)
theorem eread_r (w : World) (l : List UInt8) : Calls Tryz.prog 13 #[.string (T l)] w fun e w' =>
    ∃ cs, e = .returned (.tuple #[.agg cs.toArray, .agg #[.int .i64 (readA l).2.1, .int .i64 (readA l).2.2]]) ∧ RX w' w.heap.size w'.heap.size (readA l).1 cs ∧ Only [] w w' := by
  refine (pavaneref05_Read_wp (T l) (fun v w' => ∃ cs, v = (.tuple #[.agg cs.toArray, .agg #[.int .i64 (readA l).2.1, .int .i64 (readA l).2.2]]) ∧ RX w' w.heap.size w'.heap.size (readA l).1 cs ∧ Only [] w w') w ?_).mono (by
    rintro e w' ⟨v, rfl, cs, rfl, h⟩; exact ⟨cs, rfl, h⟩)
  unfold pavaneref05_Read_vc
  intro k0 k1 w0 hk0 hk0' hk1 hk1' hO0
  have z0 := hO0.size
  have own : ∀ {u u' : World}, Only [] w u → Only [k1, k0] u u' → Only [] w u' := fun h1 h2 => h1.trans h2 fun x hx => .inr (by simp only [List.mem_cons, List.not_mem_nil, or_false] at hx; omega)
  refine (rtokens_c w0 l).mono ?_
  rintro _ w1 ⟨l0, rfl, hT, hO1⟩
  have z1 := hO1.size
  have hO01 := hO0.tr0 hO1
  generalize htk : tokensM l = tm at *
  obtain ⟨ts, c, p⟩ := tm
  dsimp only at hT ⊢
  have hra : readA l = if c ≠ 0 then (ex0, c, p) else if (parseA ts 0).2.2.1 ≠ 0 then (ex0, (parseA ts 0).2.2.1, (parseA ts 0).2.2.2) else if (tk ts (parseA ts 0).2.1.toNat).k ≠ 5 then (ex0, 4, (tk ts (parseA ts 0).2.1.toNat).a) else ((parseA ts 0).1, 0, (parseA ts 0).2.2.2) := by
    unfold readA; rw [htk]
  refine ⟨l0, _, _, rfl, hO1.same (by simp; omega), fun hc k2 w2 hk2 hk2' hO2 n1 n2 n3 => ⟨fun k => k = k2, rfl, fun e => n2 e, fun e => n3 e, fun w3 hO3 => ?_⟩, fun hc k3 w4 hk3 hk3' hO4 => ?_⟩
  · have hc : c ≠ 0 := by simpa using hc
    rw [hra, if_pos hc]
    exact ⟨_, rfl, rx0 _ _ _, own (hO01.tr0 hO2) hO3⟩
  · have hc : c = 0 := by simpa using hc
    rw [if_neg (by simp [hc])] at hra
    have z4 := hO4.size
    refine (eparse_r (hT.only hO4).sl 0 ⟨by decide, by decide⟩).mono ?_
    rintro _ w5 ⟨cs, rfl, hX, hj, hO5⟩
    have z5 := hO5.size
    have hp0 : (parseA ts 0).2.2.1 = 0 → (parseA ts 0).2.2.2 = 0 := by
      unfold parseA
      split
      · cases hp : parseR ts (0 : Int).toNat with
        | error e =>
          obtain ⟨c, p⟩ := e
          intro h
          exact absurd h (exprR_err _ _ _ _ hp)
        | ok q => intro _; rfl
      · intro h; exact absurd h (show ¬ (1 : Int) = 0 by decide)
    generalize hpa : parseA ts 0 = pa at *
    obtain ⟨x, j, c', p'⟩ := pa
    dsimp only at hX hj hra hp0 ⊢
    obtain ⟨xl, rfl, _⟩ := hX.cells
    have hO05 : Only [] w w5 := (hO01.tr0 hO4).tr0 hO5
    have hF5 : ∀ {u : World}, Only [k3] w5 u → SliceF rTk 4 u (fun k => w0.heap.size ≤ k ∧ l0.a = some ⟨k, 0, none⟩) l0 ts := fun hO => SliceF.only rTk_ok (by decide) (hT.only (hO4.tr0 hO5)).sl hO fun k hk hlt hm => by
      have := hT.blk hk.2
      simp only [List.mem_singleton] at hm
      dsimp only at this
      omega
    refine ⟨_, _, _, _, _, _, _, _, _, rfl, hO5.same (by simp; omega), fun hc' k4 w6 hk4 hk4' hO6 n1 n2 n3 n4 n5 n6 => ⟨fun k => k = k3, rfl, fun e => n2 e, fun e => n4 e, fun w7 hO7 => ?_⟩, fun hc' => ?_⟩
    · have hc' : c' ≠ 0 := by simpa using hc'
      rw [hra, if_pos hc']
      exact ⟨_, rfl, rx0 _ _ _, own (hO05.new hO6 (by omega)) hO7⟩
    · have hc' : c' = 0 := by simpa using hc'
      rw [if_neg (by simp [hc'])] at hra
      obtain ⟨hj0, hj1⟩ := hj hc'
      obtain ⟨n, rfl⟩ : ∃ n : Nat, j = (n : Int) := ⟨j.toNat, by omega⟩
      have hl := (hF5 (Only.refl _ _)).len
      obtain ⟨ad, t, cs, g1, g2, g3, g4, g5, g6⟩ := (hF5 (Only.refl _ _)).get hj0 (by omega)
      rw [Int.toNat_natCast] at hra
      refine ⟨ad, g1, fun k5 w8 hk5 hk5' hO8 => ?_⟩
      obtain ⟨ad', t', cs', e1, e2, e3, e4, e5, e6⟩ := (hF5 hO8).get hj0 (by omega)
      have hade := SlAt.uniq e1 g1
      subst hade
      rw [Int.toNat_natCast, tk_at (by omega)] at e2
      injection e2 with e2
      subst e2
      unfold rTk at e6
      subst e6
      have z8 := hO8.size
      refine ⟨_, e5.at1 0 _ rfl, fun hk w9 hO9 n1 n2 n3 n4 n5 n6 => ⟨fun k => k = ad'.block, ad', g1, ?_, _, (e5.keep (hO9.block _ e5.lt (by simp))).at1 3 _ rfl, ?_, ?_, fun w10 hO10 => ?_⟩, fun hk w11 hO11 => ?_⟩
      · exact addr_block ad' 3
      · intro e; have := e3.1; rw [← e] at this; omega
      · intro e; have := e3.1; rw [← e] at this; omega
      · have hk : (tk ts n).k ≠ 5 := by simpa using hk
        rw [hra, if_pos hk]
        exact ⟨_, rfl, rx0 _ _ _, own ((hO05.new hO8 (by omega)).tr0 hO9) hO10⟩
      · have hk : (tk ts n).k = 5 := by simpa using hk
        rw [hra, if_neg (by simp [hk]), hp0 hc']
        have z11 := hO11.size
        exact ⟨_, rfl, ((hX.only hO8 fun q hq => .inl (by simp only [List.mem_singleton] at hq; omega)).only hO11 fun q hq => .inl (by simp only [List.mem_cons, List.not_mem_nil, or_false] at hq; omega)).wide (by omega) (by omega), own (hO05.new hO8 (by omega)) hO11⟩
theorem diff_self (t : Bool) (x : Ex) : diffM t x x = false := by simp [diffM]
theorem same_self (t : Bool) : ∀ (d : Nat) (x : Ex), sameM t d x x = true
  | 0, _ => rfl
  | d + 1, x => by
    rw [sameM, if_neg (by rw [diff_self]; decide)]
    have : ∀ l : List Ex, all2 (sameM t d) l l = true := fun l => by
      induction l with
      | nil => rfl
      | cons y l ih => rw [all2, same_self t d y, ih]; rfl
    exact this _
theorem reads_c {w : World} (l : List UInt8) (hE : Er w) (hT : Tb w) : Calls Tryz.prog 4 #[.string (T l)] w fun e w' => e = .returned (.bool true) ∧ Only [] w w' := by
  refine ret (pavanelaw05_ExprReads_wp (T l) (fun v w' => v = .bool true ∧ Only [] w w') w ?_)
  unfold pavanelaw05_ExprReads_vc
  refine (small_c w hE hT).mono ?_
  rintro _ w0 ⟨rfl, hO0⟩
  refine ⟨true, rfl, (read_c l (hE.only hO0)).mono ?_⟩
  rintro _ w1 ⟨cs, rfl, hX, hO1⟩
  have z1 := hO1.size
  obtain ⟨xl, rfl, _⟩ := hX.cells
  obtain ⟨d1, hd1⟩ := hX.ex
  refine ⟨_, _, _, _, _, _, _, _, rfl, fun k0 k1 w2 hk0 hk0' hk1 hk1' hO2 => (eread_r w2 l).mono ?_⟩
  rintro _ w3 ⟨ds, rfl, hY, hO3⟩
  have z2 := hO2.size
  have z3 := hO3.size
  obtain ⟨yl, rfl, _⟩ := hY.cells
  obtain ⟨d2, hd2⟩ := hY.ex
  refine ⟨_, _, _, _, _, _, _, _, rfl, hO3.same (by simp; omega), fun k2 k3 w4 hk2 hk2' hk3 hk3' hO4 => (same_c true d1 (rEx_only hd1 ((hO2.tr0 hO3).tr0 hO4)) (rEx_only hd2 hO4)).mono ?_⟩
  rintro _ w5 ⟨rfl, hO5⟩
  have z4 := hO4.size
  refine ⟨_, rfl, hO5.same (by simp; omega), ?_, ((((hO0.tr0 hO1).tr0 hO2).tr0 hO3).tr0 hO4).tr0 hO5⟩
  rw [same_self]
  simp
end Go.Proofs.YtdlcmgbidoabmaaGreatDoor.Con
