
/-
  Own work: what the functions of the expression package do: Parse, Read.
-/
import Derived.Test.YtmanockofcopjaaGreatDoorExc4
namespace Go.Proofs.YtmanockofcopjaaGreatDoor.Con
open Go Go.RowKit Go.Kt Go.Kt.V Go.Proofs.YtmanockofcopjaaGreatDoor.Vc
set_option linter.unusedSimpArgs false
set_option linter.unusedVariables false
set_option maxHeartbeats 4000000

/-! ## the signs -/
theorem build_ops (w : World) : ∃ (s : Sl) (w' : World), (Instr.buildSlice 25 16 #[.mk 1 (.string (ByteArray.mk #[43])), .mk 2 (.string (ByteArray.mk #[45])), .mk 3 (.string (ByteArray.mk #[42])), .mk 4 (.string (ByteArray.mk #[47])), .mk 5 (.string (ByteArray.mk #[37])), .mk 6 (.string (ByteArray.mk #[60])), .mk 7 (.string (ByteArray.mk #[60, 61])), .mk 8 (.string (ByteArray.mk #[62])), .mk 9 (.string (ByteArray.mk #[62, 61])), .mk 10 (.string (ByteArray.mk #[61, 61])), .mk 11 (.string (ByteArray.mk #[33, 61])), .mk 12 (.string (ByteArray.mk #[38, 38])), .mk 13 (.string (ByteArray.mk #[124, 124])), .mk 14 (.string (ByteArray.mk #[45])), .mk 15 (.string (ByteArray.mk #[33]))]).run Tryz.prog w = .ok (Sl.v s) w' ∧
    SliceF rTx 1 w' (fun k => w.heap.size ≤ k ∧ k < w'.heap.size) s opsL ∧ Only [] w w' := by
  have hrun := run_buildSlice (P := Tryz.prog) w 25 9 16 #[.mk 1 (.string (ByteArray.mk #[43])), .mk 2 (.string (ByteArray.mk #[45])), .mk 3 (.string (ByteArray.mk #[42])), .mk 4 (.string (ByteArray.mk #[47])), .mk 5 (.string (ByteArray.mk #[37])), .mk 6 (.string (ByteArray.mk #[60])), .mk 7 (.string (ByteArray.mk #[60, 61])), .mk 8 (.string (ByteArray.mk #[62])), .mk 9 (.string (ByteArray.mk #[62, 61])), .mk 10 (.string (ByteArray.mk #[61, 61])), .mk 11 (.string (ByteArray.mk #[33, 61])), .mk 12 (.string (ByteArray.mk #[38, 38])), .mk 13 (.string (ByteArray.mk #[124, 124])), .mk 14 (.string (ByteArray.mk #[45])), .mk 15 (.string (ByteArray.mk #[33]))]
    (opsL.map fun x => Value.string (T x)).toArray Tryz.t9 _ (by kernel_rfl) (by kernel_rfl) rfl (by decide) (by decide) (by kernel_rfl)
  refine ⟨⟨some ⟨w.heap.size, 0, none⟩, 16, 16⟩, _, hrun, ⟨rfl, Nat.le_refl _, fun h => (by cases h), (by decide : (16 : Nat) ≤ 9223372036854775807), fun j x hx => ?_⟩, Only.alloc _ _⟩
  have hB := Blk.alloc w 9 (opsL.map fun x => Value.string (T x))
  have hlt := hB.lt
  refine ⟨⟨w.heap.size, 0, none⟩, [.string (T x)], rfl, ⟨Nat.le_refl _, hlt⟩, rfl, ?_, rfl⟩
  rw [Nat.mul_one]
  exact Blk.at1 hB j (by rw [List.getElem?_map, hx]; rfl)
theorem ops_c (w : World) : Calls Tryz.prog 91 #[] w fun e w' => ∃ s : Sl, e = .returned s.v ∧ SliceF rTx 1 w' (fun k => w.heap.size ≤ k ∧ k < w'.heap.size) s opsL ∧ Only [] w w' := by
  refine (expr_ops_wp (fun v w' => ∃ s : Sl, v = s.v ∧ SliceF rTx 1 w' (fun k => w.heap.size ≤ k ∧ k < w'.heap.size) s opsL ∧ Only [] w w') w ?_).mono (by
    rintro e w' ⟨v, rfl, s, rfl, h⟩; exact ⟨s, rfl, h⟩)
  unfold expr_ops_vc
  obtain ⟨s, w', h1, h2, h3⟩ := build_ops w
  exact ⟨s, w', h1, s, rfl, h2, h3⟩

/-! ## where the end stands -/
def endN (ts : List Tk) : Nat := (ts.takeWhile fun t => t.k != 5).length
theorem endN_le (ts : List Tk) : endN ts ≤ ts.length := by
  unfold endN
  exact (List.takeWhile_sublist _).length_le
theorem tk_cons_s {t : Tk} {ts : List Tk} {i : Nat} : tk (t :: ts) (i + 1) = tk ts i := by unfold tk; rw [List.getElem?_cons_succ]
theorem tk_cons_z {t : Tk} {ts : List Tk} : tk (t :: ts) 0 = t := rfl
theorem endN_lt : ∀ (ts : List Tk) (i : Nat), i < endN ts → (tk ts i).k ≠ 5
  | [], _, h => by simp [endN] at h
  | t :: ts, i, h => by
    unfold endN at h
    rw [List.takeWhile_cons] at h
    split at h
    · rename_i ht
      cases i with
      | zero => rw [tk_cons_z]; simpa using ht
      | succ i => rw [tk_cons_s]; exact endN_lt ts i (by simpa [endN] using h)
    · simp at h
theorem endN_at : ∀ (ts : List Tk), endN ts < ts.length → (tk ts (endN ts)).k = 5
  | [], h => by simp at h
  | t :: ts, h => by
    unfold endN at h ⊢
    rw [List.takeWhile_cons] at h ⊢
    split
    · rename_i ht
      rw [if_pos ht] at h
      rw [List.length_cons, tk_cons_s]
      exact endN_at ts (by simpa [endN] using h)
    · rename_i ht
      rw [List.length_nil, tk_cons_z]
      simpa using ht
theorem endN_end {ts : List Tk} (h : endN ts + 1 = ts.length) : EndL ts := fun i hi => by
  constructor
  · intro hk
    refine Decidable.byContradiction fun hn => endN_lt ts i (by omega) hk
  · intro hn
    have : i = endN ts := by omega
    rw [this]
    exact endN_at ts (by omega)
theorem end_endN {ts : List Tk} (h : EndL ts) (h0 : 0 < ts.length) : endN ts + 1 = ts.length := by
  have h1 := endN_le ts
  rcases Nat.lt_or_ge (endN ts) ts.length with hl | hl
  · exact (h _ hl).1 (endN_at ts hl)
  · have := endN_lt ts (ts.length - 1) (by omega)
    exact absurd ((h (ts.length - 1) (by omega)).2 (by omega)) this
theorem isEnd_c (w : World) (t : Tk) : Calls Tryz.prog 90 #[t.v] w fun e w' => e = .returned (.bool (t.k == 5)) ∧ Only [] w w' := by
  refine ret (expr_Parse_1_wp t.k (T t.t) t.n t.a (fun v w' => v = .bool (t.k == 5) ∧ Only [] w w') w ?_)
  unfold expr_Parse_1_vc
  exact fun k0 w0 _ _ hO => ⟨rfl, hO⟩
theorem endIdx_c {w : World} {F : Nat → Prop} {l : Sl} {ts : List Tk} (h : SliceF rTk 4 w F l ts) : Calls Tryz.prog 89 #[l.v, .func (.func 90) #[] #[]] w fun e w' => e = .returned (.int .i64 (if endN ts < ts.length then (endN ts : Int) else -1)) ∧ Only [] w w' := by
  refine ret (slices_IndexFunc_api_Token_wp l ⟨.func (.func 90) #[] #[], rfl⟩ (fun v w' => v = .int .i64 (if endN ts < ts.length then (endN ts : Int) else -1) ∧ Only [] w w') w ?_)
  unfold slices_IndexFunc_api_Token_vc
  have hlen := h.len
  have hbig := h.big
  have hcap := h.cap
  refine ⟨fun nv i w' => ∃ n : Nat, n ≤ endN ts ∧ i = (n : Int) ∧ nv = ts.length - n ∧ Only [] w w', ts.length, ⟨0, Nat.zero_le _, rfl, rfl, Only.refl _ _⟩, ?_⟩
  rintro nv _ w0 ⟨n, hn, rfl, rfl, hO0⟩
  have hle := endN_le ts
  refine ⟨fun hc => ?_, fun hc => ?_⟩
  · have hlt : (n : Int) < l.n := of_decide_eq_true hc
    obtain ⟨ad, x, cs, g1, g2, g3, g4, g5, g6⟩ := (SliceF.only rTk_ok (by decide) h hO0 (by simp)).get (Int.natCast_nonneg n) hlt
    rw [Int.toNat_natCast, tk_at (by omega)] at g2
    injection g2 with g2
    subst g2
    unfold rTk at g6
    subst g6
    refine ⟨ad, g1, _, _, _, _, g5, 90, [], [], rfl, fnOk_run (by kernel_rfl), ?_⟩
    refine (isEnd_c w0 (tk ts n)).mono ?_
    rintro _ w1 ⟨rfl, hO1⟩
    refine ⟨_, rfl, fun hb => ⟨?_, hO0.tr0 hO1⟩, fun hb => ⟨ts.length - (n + 1), by omega, n + 1, ?_, by rw [wr' (by omega) (by omega)]; rfl, rfl, hO0.tr0 hO1⟩⟩
    · have hb : (tk ts n).k = 5 := by simpa using hb
      have : n = endN ts := by
        refine Decidable.byContradiction fun hne => endN_lt ts n (by omega) hb
      rw [if_pos (by omega), this]
    · have hb : ¬ (tk ts n).k = 5 := by simpa using hb
      refine Decidable.byContradiction fun hne => hb ?_
      have : n = endN ts := by omega
      rw [this]
      exact endN_at ts (by omega)
  · have hge : ¬ (n : Int) < l.n := of_decide_eq_false hc
    rw [if_neg (by omega)]
    exact ⟨rfl, hO0⟩

/-! ## Parse -/
def ex0 : Ex := .mk 0 0 [] 0 [] 0
def parseA (ts : List Tk) (a : Int) : Ex × Int × Int × Int :=
  if 0 ≤ a ∧ a < ts.length ∧ endN ts + 1 = ts.length then (match parseR ts a.toNat with
    | .error (c, p) => (ex0, 0, c, p)
    | .ok (x, j) => (x, (j : Int), 0, 0))
  else (ex0, 0, 1, -1)
theorem rx0 (w : World) (lo hi : Nat) : RX w lo hi ex0 [.int .i64 0, .int .i64 0, .string (ByteArray.mk #[]), .int .i64 0, Sl.nil.v, .int .i64 0] := .leaf ..
/-- fault is none, or the reading succeeded -/
theorem parse_c {w : World} {F : Nat → Prop} {l : Sl} {ts : List Tk} (h : SliceF rTk 4 w F l ts) (a : Int) (ha : InI a) : Calls Tryz.prog 46 #[l.v, .int .i64 a] w fun e w' =>
    ∃ cs, e = .returned (.tuple #[.agg cs.toArray, .int .i64 (parseA ts a).2.1, .agg #[.int .i64 (parseA ts a).2.2.1, .int .i64 (parseA ts a).2.2.2]]) ∧ RX w' w.heap.size w'.heap.size (parseA ts a).1 cs ∧ ((parseA ts a).2.2.1 = 0 → 0 ≤ (parseA ts a).2.1 ∧ (parseA ts a).2.1 < ts.length) ∧ Only [] w w' := by
  refine (expr_Parse_wp l a (fun v w' => ∃ cs, v = (.tuple #[.agg cs.toArray, .int .i64 (parseA ts a).2.1, .agg #[.int .i64 (parseA ts a).2.2.1, .int .i64 (parseA ts a).2.2.2]]) ∧ RX w' w.heap.size w'.heap.size (parseA ts a).1 cs ∧ ((parseA ts a).2.2.1 = 0 → 0 ≤ (parseA ts a).2.1 ∧ (parseA ts a).2.1 < ts.length) ∧ Only [] w w') w ?_).mono (by
    rintro e w' ⟨v, rfl, cs, rfl, h⟩; exact ⟨cs, rfl, h⟩)
  unfold expr_Parse_vc
  intro k0 k1 w0 hk0 hk0' hk1 hk1' hO0
  have hlen := h.len
  have hcap := h.cap
  have hbig := h.big
  have z0 := hO0.size
  have h := (h.inHeap rTk_ok (by decide))
  refine (endIdx_c (SliceF.only rTk_ok (by decide) h hO0 (by simp))).mono ?_
  rintro _ w1 ⟨rfl, hO1⟩
  have z1 := hO1.size
  have hO01 := hO0.tr0 hO1
  have hle := endN_le ts
  have hcond : (((decide (a < 0)) || (decide (a ≥ (l.n : Int)))) || ((if endN ts < ts.length then (endN ts : Int) else -1) != (IntKind.wrap .i64 ((l.n : Int) - 1)))) = !decide (0 ≤ a ∧ a < ts.length ∧ endN ts + 1 = ts.length) := by
    rw [wr' (by omega) (by omega), hlen]
    by_cases h1 : endN ts < ts.length
    · rw [if_pos h1, Bool.eq_iff_iff]
      simp
      omega
    · rw [if_neg h1, Bool.eq_iff_iff]
      simp
      omega
  refine ⟨_, rfl, hO1.same (by simp; omega), ?_⟩
  rw [hcond]
  refine ⟨fun hc w2 hO2 => ?_, fun hc => ?_⟩
  · have hc : ¬ (0 ≤ a ∧ a < ts.length ∧ endN ts + 1 = ts.length) := by
      rw [Bool.not_eq_true', decide_eq_false_iff_not] at hc; exact hc
    rw [parseA, if_neg hc]
    exact ⟨_, rfl, rx0 _ _ _, fun h => (by cases h), (hO01.weaken (bs' := []) fun _ h => (by cases h)).trans hO2 fun x hx => .inr (by simp only [List.mem_cons, List.not_mem_nil, or_false] at hx; omega)⟩
  · have hc : 0 ≤ a ∧ a < ts.length ∧ endN ts + 1 = ts.length := by
      rw [Bool.not_eq_false', decide_eq_true_eq] at hc; exact hc
    rw [parseA, if_pos hc]
    obtain ⟨i, rfl⟩ : ∃ i : Nat, a = (i : Int) := ⟨a.toNat, by omega⟩
    refine (ops_c w1).mono ?_
    rintro _ w3 ⟨sn, rfl, hsn, hO3⟩
    have z3 := hO3.size
    refine ⟨sn, rfl, hO3.same (by simp; omega), fun b w4 hb hb' hO4 hB4 => ?_⟩
    have z4 := hO4.size
    have hO03 := hO01.tr0 hO3
    have hR : Rd (fun k => F k ∧ k < w.heap.size) (fun k => w1.heap.size ≤ k ∧ k < w3.heap.size) ts w4 b l sn i 0 0 ((0 : Nat) : Int) :=
      ⟨hB4, SliceF.only rTk_ok (by decide) h (hO03.tr0 hO4) (by simp), SliceF.only rTx_ok (by decide) hsn hO4 (by simp), fun k hk => by have := hk.2; omega, fun k hk => by have := hk.2; omega, endN_end hc.2.2, by omega⟩
    refine ((reader_c (need 0 0)).1 0 0 i w4 (by decide) (by decide) (Nat.le_refl _) hR).mono ?_
    rintro _ w5 ⟨v, rfl, hD⟩
    obtain ⟨vk, vn, vs, vo, vl, va, rfl⟩ := hD.typed
    have z5 := hD.1.size
    obtain ⟨hO5, hD⟩ := hD
    rw [Int.toNat_natCast]
    have hpr : parseR ts i = exprR ts (need 0 0) 0 0 i := rfl
    rw [hpr]
    have fin : ∀ {j : Nat} {c p : Int}, Rd (fun k => F k ∧ k < w.heap.size) (fun k => w1.heap.size ≤ k ∧ k < w3.heap.size) ts w5 b l sn j c p ((0 : Nat) : Int) → ∀ w8, Only [] w5 w8 → ∀ w9, Only [k1, k0] w8 w9 → Only [] w w9 := fun hR w8 hO8 w9 hO9 => (((hO03.tr0 hO4).trans hO5 fun x hx => .inr (by simp only [List.mem_singleton] at hx; omega)).tr0 hO8).trans hO9 fun x hx => .inr (by simp only [List.mem_cons, List.not_mem_nil, or_false] at hx; omega)
    refine ⟨_, _, _, _, _, _, rfl, hO5.same (by simp; omega), ?_⟩
    cases hE : exprR ts (need 0 0) 0 0 i with
    | error e =>
      rw [hE] at hD
      obtain ⟨c, p⟩ := e
      obtain ⟨a1, a2, j, a3⟩ := hD
      refine ⟨_, _, _, _, _, _, a3.blk, fun k3 w6 hk3 hk3' hO6 hB6 => ?_⟩
      have z6 := hO6.size
      refine (bad_c (a3.only hO6)).mono ?_
      rintro _ w7 ⟨rfl, hO7⟩
      have h7 := (a3.only hO6).only hO7
      have hne : (c != 0) = true := by simpa using a1
      refine ⟨_, rfl, hO7.same (by simp; omega), _, _, _, _, _, _, h7.blk, fun _ w8 hO8 hB8 n1 n2 n3 n4 n5 n6 => ⟨fun k => k = b, rfl, fun e => n2 e, fun e => n4 e, fun w9 hO9 _ => ⟨_, rfl, rx0 _ _ _, fun h => absurd h a1, fin a3 w8 (hO6.tr0 (hO7.tr0 hO8)) w9 hO9⟩⟩, fun hc => by rw [hne] at hc; cases hc⟩
    | ok q =>
      rw [hE] at hD
      obtain ⟨x, j⟩ := q
      obtain ⟨cs, a1, a2, a3⟩ := hD
      refine ⟨_, _, _, _, _, _, a3.blk, fun k3 w6 hk3 hk3' hO6 hB6 => ?_⟩
      have z6 := hO6.size
      refine (bad_c (a3.only hO6)).mono ?_
      rintro _ w7 ⟨rfl, hO7⟩
      have z7 := hO7.size
      have h7 := (a3.only hO6).only hO7
      refine ⟨_, rfl, hO7.same (by simp; omega), _, _, _, _, _, _, h7.blk, fun hc => (by simp at hc), fun _ w10 hO10 hB10 n1 n2 n3 n4 n5 n6 => ⟨fun k => k = b, rfl, fun e => n2 e, fun e => n4 e, fun w11 hO11 _ => ?_⟩⟩
      have z10 := hO10.size
      have z11 := hO11.size
      have hcs : (exv vk vn vs vo vl va) = cs := congrArg Array.toList (Value.agg.inj a1)
      refine ⟨exv vk vn vs vo vl va, rfl, ?_, fun _ => ⟨Int.natCast_nonneg j, by have := a3.lt; dsimp only; omega⟩, fin a3 w10 (hO6.tr0 (hO7.tr0 hO10)) w11 hO11⟩
      rw [hcs]
      exact ((a2.only (hO6.tr0 (hO7.tr0 hO10)) (by simp)).only hO11 fun q hq => .inl (by simp only [List.mem_cons, List.not_mem_nil, or_false] at hq; omega)).wide (by omega) (by omega)
/-! ## Read -/
end Go.Proofs.YtmanockofcopjaaGreatDoor.Con
