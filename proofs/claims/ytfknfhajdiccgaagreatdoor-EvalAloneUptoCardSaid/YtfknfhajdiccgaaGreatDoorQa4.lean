import Derived.Test.YtfknfhajdiccgaaGreatDoorQa3
set_option linter.unusedSectionVars false
namespace Go.Proofs.YtfknfhajdiccgaaGreatDoor.Con
open Go Go.RowKit Go.Kt Go.Kt.V Go.Proofs.YtfknfhajdiccgaaGreatDoor.Vc
set_option linter.unusedSimpArgs false
set_option linter.unusedVariables false
set_option maxHeartbeats 4000000
theorem build_ops (w : World) : ∃ (s : Sl) (w' : World), (Instr.buildSlice 26 16 #[.mk 1 (.string (ByteArray.mk #[43])), .mk 2 (.string (ByteArray.mk #[45])), .mk 3 (.string (ByteArray.mk #[42])), .mk 4 (.string (ByteArray.mk #[47])), .mk 5 (.string (ByteArray.mk #[37])), .mk 6 (.string (ByteArray.mk #[60])), .mk 7 (.string (ByteArray.mk #[60, 61])), .mk 8 (.string (ByteArray.mk #[62])), .mk 9 (.string (ByteArray.mk #[62, 61])), .mk 10 (.string (ByteArray.mk #[61, 61])), .mk 11 (.string (ByteArray.mk #[33, 61])), .mk 12 (.string (ByteArray.mk #[38, 38])), .mk 13 (.string (ByteArray.mk #[124, 124])), .mk 14 (.string (ByteArray.mk #[45])), .mk 15 (.string (ByteArray.mk #[33]))]).run Tryz.prog w = .ok (Sl.v s) w' /\
  SliceF rTx 1 w' (fun k => w.heap.size <= k /\ k < w'.heap.size) s opsL /\ Only [] w w' := by
 have hrun := run_buildSlice (P := Tryz.prog) w 26 9 16 #[.mk 1 (.string (ByteArray.mk #[43])), .mk 2 (.string (ByteArray.mk #[45])), .mk 3 (.string (ByteArray.mk #[42])), .mk 4 (.string (ByteArray.mk #[47])), .mk 5 (.string (ByteArray.mk #[37])), .mk 6 (.string (ByteArray.mk #[60])), .mk 7 (.string (ByteArray.mk #[60, 61])), .mk 8 (.string (ByteArray.mk #[62])), .mk 9 (.string (ByteArray.mk #[62, 61])), .mk 10 (.string (ByteArray.mk #[61, 61])), .mk 11 (.string (ByteArray.mk #[33, 61])), .mk 12 (.string (ByteArray.mk #[38, 38])), .mk 13 (.string (ByteArray.mk #[124, 124])), .mk 14 (.string (ByteArray.mk #[45])), .mk 15 (.string (ByteArray.mk #[33]))]
  (opsL.map fun x => Value.string (T x)).toArray Tryz.t9 _ (by kernel_rfl) (by kernel_rfl) rfl (by decide) (by decide) (by kernel_rfl)
 refine ⟨⟨some ⟨w.heap.size, 0, none⟩, 16, 16⟩, _, hrun, ⟨rfl, Nat.le_refl _, fun h => (by cases h), (by decide : (16 : Nat) <= 9223372036854775807), fun j x hx => ?_⟩, Only.alloc _ _⟩
 have hB := Blk.alloc w 9 (opsL.map fun x => Value.string (T x))
 have hlt := hB.lt
 refine ⟨⟨w.heap.size, 0, none⟩, [.string (T x)], rfl, ⟨Nat.le_refl _, hlt⟩, rfl, ?_, rfl⟩
 rw [Nat.mul_one]
 exact Blk.at1 hB j (by rw [List.getElem?_map, hx]; rfl)
theorem ops_c (w : World) : Calls Tryz.prog 35 #[] w fun e w' => ∃ s : Sl, e = .returned s.v /\ SliceF rTx 1 w' (fun k => w.heap.size <= k /\ k < w'.heap.size) s opsL /\ Only [] w w' := by
 refine (v23w (fun v w' => ∃ s : Sl, v = s.v /\ SliceF rTx 1 w' (fun k => w.heap.size <= k /\ k < w'.heap.size) s opsL /\ Only [] w w') w ?_).mono (by
  rintro e w' ⟨v, rfl, s, rfl, h⟩; exact ⟨s, rfl, h⟩)
 unfold v23v
 obtain ⟨s, w', h1, h2, h3⟩ := build_ops w
 exact ⟨s, w', h1, s, rfl, h2, h3⟩
def endN (ts : List Tk) : Nat := (ts.takeWhile fun t => t.k != 5).length
theorem endN_le (ts : List Tk) : endN ts <= ts.length := by
 unfold endN
 exact (List.takeWhile_sublist _).length_le
theorem tk_cons_s {t : Tk} {ts : List Tk} {i : Nat} : tk (t :: ts) (i + 1) = tk ts i := by unfold tk; rw [List.getElem?_cons_succ]
theorem tk_cons_z {t : Tk} {ts : List Tk} : tk (t :: ts) 0 = t := rfl
theorem endN_lt : ∀ (ts : List Tk) (i : Nat), i < endN ts -> (tk ts i).k ≠ 5
 | [], _, h => by simp [endN] at h
 | t :: ts, i, h => by
  unfold endN at h
  rw [List.takeWhile_cons] at h
  split at h
  · rename_i ht
    cases i with
    | zero => rw [tk_cons_z]; simpa using ht
    | succ i => rw [tk_cons_s]; exact endN_lt ts i (by simpa [endN] using h)
  · simp at h
theorem endN_at : ∀ (ts : List Tk), endN ts < ts.length -> (tk ts (endN ts)).k = 5
 | [], h => by simp at h
 | t :: ts, h => by
  unfold endN at h ⊢
  rw [List.takeWhile_cons] at h ⊢
  split
  · rename_i ht
    rw [if_pos ht] at h
    rw [List.length_cons, tk_cons_s]
    exact endN_at ts (by simpa [endN] using h)
  · rename_i ht
    rw [List.length_nil, tk_cons_z]
    simpa using ht
theorem endN_end {ts : List Tk} (h : endN ts + 1 = ts.length) : EndL ts := fun i hi => by
 constructor
 · intro hk
   refine Decidable.byContradiction fun hn => endN_lt ts i (by omega) hk
 · intro hn
   have : i = endN ts := by omega
   rw [this]
   exact endN_at ts (by omega)
theorem isEnd_c (w : World) (t : Tk) : Calls Tryz.prog 34 #[t.v] w fun e w' => e = .returned (.bool (t.k == 5)) /\ Only [] w w' := by
 refine ret (v14w t.k (T t.t) t.n t.a (fun v w' => v = .bool (t.k == 5) /\ Only [] w w') w ?_)
 unfold v14v
 exact fun k0 w0 _ _ hO => ⟨rfl, hO⟩
theorem endIdx_c {w : World} {F : Nat -> Prop} {l : Sl} {ts : List Tk} (h : SliceF rTk 4 w F l ts) : Calls Tryz.prog 33 #[l.v, .func (.func 34) #[] #[]] w fun e w' => e = .returned (.int .i64 (if endN ts < ts.length then (endN ts : Int) else -1)) /\ Only [] w w' := by
 refine ret (v51w l ⟨.func (.func 34) #[] #[], rfl⟩ (fun v w' => v = .int .i64 (if endN ts < ts.length then (endN ts : Int) else -1) /\ Only [] w w') w ?_)
 unfold v51v
 have hlen := h.len
 have hbig := h.big
 have hcap := h.cap
 refine ⟨fun nv i w' => ∃ n : Nat, n <= endN ts /\ i = (n : Int) /\ nv = ts.length - n /\ Only [] w w', ts.length, ⟨0, Nat.zero_le _, rfl, rfl, Only.refl _ _⟩, ?_⟩
 rintro nv _ w0 ⟨n, hn, rfl, rfl, hO0⟩
 have hle := endN_le ts
 refine ⟨fun hc => ?_, fun hc => ?_⟩
 · have hlt : (n : Int) < l.n := of_decide_eq_true hc
   obtain ⟨ad, x, cs, g1, g2, g3, g4, g5, g6⟩ := (SliceF.only rTk_ok (by decide) h hO0 (by simp)).get (Int.natCast_nonneg n) hlt
   rw [Int.toNat_natCast, tk_at (by omega)] at g2
   injection g2 with g2
   subst g2
   unfold rTk at g6
   subst g6
   refine ⟨ad, g1, _, _, _, _, g5, 34, [], [], rfl, fnOk_run (by kernel_rfl), ?_⟩
   refine (isEnd_c w0 (tk ts n)).mono ?_
   rintro _ w1 ⟨rfl, hO1⟩
   refine ⟨_, rfl, fun hb => ⟨?_, hO0.tr0 hO1⟩, fun hb => ⟨ts.length - (n + 1), by omega, n + 1, ?_, by rw [wr' (by omega) (by omega)]; rfl, rfl, hO0.tr0 hO1⟩⟩
   · have hb : (tk ts n).k = 5 := by simpa using hb
     have : n = endN ts := by
      refine Decidable.byContradiction fun hne => endN_lt ts n (by omega) hb
     rw [if_pos (by omega), this]
   · have hb : ¬ (tk ts n).k = 5 := by simpa using hb
     refine Decidable.byContradiction fun hne => hb ?_
     have : n = endN ts := by omega
     rw [this]
     exact endN_at ts (by omega)
 · have hge : ¬ (n : Int) < l.n := of_decide_eq_false hc
   rw [if_neg (by omega)]
   exact ⟨rfl, hO0⟩
def ex0 : Ex := .mk 0 0 [] 0 [] 0
def parseA (ts : List Tk) (a : Int) : Ex × Int × Int × Int :=
 if 0 <= a /\ a < ts.length /\ endN ts + 1 = ts.length then (match parseR ts a.toNat with
  | .error (c, p) => (ex0, 0, c, p)
  | .ok (x, j) => (x, (j : Int), 0, 0))
 else (ex0, 0, 1, -1)
theorem rx0 (w : World) (lo hi : Nat) : RX w lo hi ex0 [.int .i64 0, .int .i64 0, .string (ByteArray.mk #[]), .int .i64 0, Sl.nil.v, .int .i64 0] := .leaf ..
theorem parse_c {w : World} {F : Nat -> Prop} {l : Sl} {ts : List Tk} (h : SliceF rTk 4 w F l ts) (a : Int) (ha : InI a) : Calls Tryz.prog 17 #[l.v, .int .i64 a] w fun e w' =>
  ∃ cs, e = .returned (.tuple #[.agg cs.toArray, .int .i64 (parseA ts a).2.1, .agg #[.int .i64 (parseA ts a).2.2.1, .int .i64 (parseA ts a).2.2.2]]) /\ RX w' w.heap.size w'.heap.size (parseA ts a).1 cs /\ ((parseA ts a).2.2.1 = 0 -> 0 <= (parseA ts a).2.1 /\ (parseA ts a).2.1 < ts.length) /\ Only [] w w' := by
 refine (v15w l a (fun v w' => ∃ cs, v = (.tuple #[.agg cs.toArray, .int .i64 (parseA ts a).2.1, .agg #[.int .i64 (parseA ts a).2.2.1, .int .i64 (parseA ts a).2.2.2]]) /\ RX w' w.heap.size w'.heap.size (parseA ts a).1 cs /\ ((parseA ts a).2.2.1 = 0 -> 0 <= (parseA ts a).2.1 /\ (parseA ts a).2.1 < ts.length) /\ Only [] w w') w ?_).mono (by
  rintro e w' ⟨v, rfl, cs, rfl, h⟩; exact ⟨cs, rfl, h⟩)
 unfold v15v
 intro k0 k1 w0 hk0 hk0' hk1 hk1' hO0
 have hlen := h.len
 have hcap := h.cap
 have hbig := h.big
 have z0 := hO0.size
 have h := (h.inHeap rTk_ok (by decide))
 refine (endIdx_c (SliceF.only rTk_ok (by decide) h hO0 (by simp))).mono ?_
 rintro _ w1 ⟨rfl, hO1⟩
 have z1 := hO1.size
 have hO01 := hO0.tr0 hO1
 have hle := endN_le ts
 have hcond : (((decide (a < 0)) || (decide (a >= (l.n : Int)))) || ((if endN ts < ts.length then (endN ts : Int) else -1) != (IntKind.wrap .i64 ((l.n : Int) - 1)))) = !decide (0 <= a /\ a < ts.length /\ endN ts + 1 = ts.length) := by
  rw [wr' (by omega) (by omega), hlen]
  by_cases h1 : endN ts < ts.length
  · rw [if_pos h1, Bool.eq_iff_iff]
    simp
    omega
  · rw [if_neg h1, Bool.eq_iff_iff]
    simp
    omega
 refine ⟨_, rfl, hO1.same (by simp; omega), ?_⟩
 rw [hcond]
 refine ⟨fun hc w2 hO2 => ?_, fun hc => ?_⟩
 · have hc : ¬ (0 <= a /\ a < ts.length /\ endN ts + 1 = ts.length) := by
    rw [Bool.not_eq_true', decide_eq_false_iff_not] at hc; exact hc
   rw [parseA, if_neg hc]
   exact ⟨_, rfl, rx0 _ _ _, fun h => (by cases h), (hO01.weaken (bs' := []) fun _ h => (by cases h)).trans hO2 fun x hx => .inr (by simp only [List.mem_cons, List.not_mem_nil, or_false] at hx; omega)⟩
 · have hc : 0 <= a /\ a < ts.length /\ endN ts + 1 = ts.length := by
    rw [Bool.not_eq_false', decide_eq_true_eq] at hc; exact hc
   rw [parseA, if_pos hc]
   obtain ⟨i, rfl⟩ : ∃ i : Nat, a = (i : Int) := ⟨a.toNat, by omega⟩
   refine (ops_c w1).mono ?_
   rintro _ w3 ⟨sn, rfl, hsn, hO3⟩
   have z3 := hO3.size
   refine ⟨sn, rfl, hO3.same (by simp; omega), fun b w4 hb hb' hO4 hB4 => ?_⟩
   have z4 := hO4.size
   have hO03 := hO01.tr0 hO3
   have hR : Rd (fun k => F k /\ k < w.heap.size) (fun k => w1.heap.size <= k /\ k < w3.heap.size) ts w4 b l sn i 0 0 ((0 : Nat) : Int) :=
    ⟨hB4, SliceF.only rTk_ok (by decide) h (hO03.tr0 hO4) (by simp), SliceF.only rTx_ok (by decide) hsn hO4 (by simp), fun k hk => by have := hk.2; omega, fun k hk => by have := hk.2; omega, endN_end hc.2.2, by omega⟩
   refine ((reader_c (need 0 0)).1 0 0 i w4 (by decide) (by decide) (Nat.le_refl _) hR).mono ?_
   rintro _ w5 ⟨v, rfl, hD⟩
   obtain ⟨vk, vn, vs, vo, vl, va, rfl⟩ := hD.typed
   have z5 := hD.1.size
   obtain ⟨hO5, hD⟩ := hD
   rw [Int.toNat_natCast]
   have hpr : parseR ts i = exprR ts (need 0 0) 0 0 i := rfl
   rw [hpr]
   have fin : ∀ {j : Nat} {c p : Int}, Rd (fun k => F k /\ k < w.heap.size) (fun k => w1.heap.size <= k /\ k < w3.heap.size) ts w5 b l sn j c p ((0 : Nat) : Int) -> ∀ w8, Only [] w5 w8 -> ∀ w9, Only [k1, k0] w8 w9 -> Only [] w w9 := fun hR w8 hO8 w9 hO9 => (((hO03.tr0 hO4).trans hO5 fun x hx => .inr (by simp only [List.mem_singleton] at hx; omega)).tr0 hO8).trans hO9 fun x hx => .inr (by simp only [List.mem_cons, List.not_mem_nil, or_false] at hx; omega)
   refine ⟨_, _, _, _, _, _, rfl, hO5.same (by simp; omega), ?_⟩
   cases hE : exprR ts (need 0 0) 0 0 i with
   | error e =>
    rw [hE] at hD
    obtain ⟨c, p⟩ := e
    obtain ⟨a1, a2, j, a3⟩ := hD
    refine ⟨_, _, _, _, _, _, a3.blk, fun k3 w6 hk3 hk3' hO6 hB6 => ?_⟩
    have z6 := hO6.size
    refine (bad_c (a3.only hO6)).mono ?_
    rintro _ w7 ⟨rfl, hO7⟩
    have h7 := (a3.only hO6).only hO7
    have hne : (c != 0) = true := by simpa using a1
    refine ⟨_, rfl, hO7.same (by simp; omega), _, _, _, _, _, _, h7.blk, fun _ w8 hO8 hB8 n1 n2 n3 n4 n5 n6 => ⟨fun k => k = b, rfl, fun e => n2 e, fun e => n4 e, fun w9 hO9 _ => ⟨_, rfl, rx0 _ _ _, fun h => absurd h a1, fin a3 w8 (hO6.tr0 (hO7.tr0 hO8)) w9 hO9⟩⟩, fun hc => by rw [hne] at hc; cases hc⟩
   | ok q =>
    rw [hE] at hD
    obtain ⟨x, j⟩ := q
    obtain ⟨cs, a1, a2, a3⟩ := hD
    refine ⟨_, _, _, _, _, _, a3.blk, fun k3 w6 hk3 hk3' hO6 hB6 => ?_⟩
    have z6 := hO6.size
    refine (bad_c (a3.only hO6)).mono ?_
    rintro _ w7 ⟨rfl, hO7⟩
    have z7 := hO7.size
    have h7 := (a3.only hO6).only hO7
    refine ⟨_, rfl, hO7.same (by simp; omega), _, _, _, _, _, _, h7.blk, fun hc => (by simp at hc), fun _ w10 hO10 hB10 n1 n2 n3 n4 n5 n6 => ⟨fun k => k = b, rfl, fun e => n2 e, fun e => n4 e, fun w11 hO11 _ => ?_⟩⟩
    have z10 := hO10.size
    have z11 := hO11.size
    have hcs : (exv vk vn vs vo vl va) = cs := congrArg Array.toList (Value.agg.inj a1)
    refine ⟨exv vk vn vs vo vl va, rfl, ?_, fun _ => ⟨Int.natCast_nonneg j, by have := a3.lt; dsimp only; omega⟩, fin a3 w10 (hO6.tr0 (hO7.tr0 hO10)) w11 hO11⟩
    rw [hcs]
    exact ((a2.only (hO6.tr0 (hO7.tr0 hO10)) (by simp)).only hO11 fun q hq => .inl (by simp only [List.mem_cons, List.not_mem_nil, or_false] at hq; omega)).wide (by omega) (by omega)
def readA (l : List UInt8) : Ex × Int × Int :=
 if (tokensM l).2.1 ≠ 0 then (ex0, (tokensM l).2.1, (tokensM l).2.2)
 else if (parseA (tokensM l).1 0).2.2.1 ≠ 0 then (ex0, (parseA (tokensM l).1 0).2.2.1, (parseA (tokensM l).1 0).2.2.2)
 else if (tk (tokensM l).1 (parseA (tokensM l).1 0).2.1.toNat).k ≠ 5 then (ex0, 4, (tk (tokensM l).1 (parseA (tokensM l).1 0).2.1.toNat).a)
 else ((parseA (tokensM l).1 0).1, 0, (parseA (tokensM l).1 0).2.2.2)
theorem read_c {w : World} (l : List UInt8) (hE : Er w) : Calls Tryz.prog 10 #[.string (T l)] w fun e w' =>
  ∃ cs, e = .returned (.tuple #[.agg cs.toArray, .agg #[.int .i64 (readA l).2.1, .int .i64 (readA l).2.2]]) /\ RX w' w.heap.size w'.heap.size (readA l).1 cs /\ Only [] w w' := by
 refine (v16w (T l) (fun v w' => ∃ cs, v = (.tuple #[.agg cs.toArray, .agg #[.int .i64 (readA l).2.1, .int .i64 (readA l).2.2]]) /\ RX w' w.heap.size w'.heap.size (readA l).1 cs /\ Only [] w w') w ?_).mono (by
  rintro e w' ⟨v, rfl, cs, rfl, h⟩; exact ⟨cs, rfl, h⟩)
 unfold v16v
 intro k0 k1 w0 hk0 hk0' hk1 hk1' hO0
 have z0 := hO0.size
 refine (tokens_c l (hE.only hO0)).mono ?_
 rintro _ w1 ⟨l0, rfl, hT, hO1⟩
 have z1 := hO1.size
 have hO01 := hO0.tr0 hO1
 generalize htk : tokensM l = tm at *
 obtain ⟨ts, c, p⟩ := tm
 dsimp only at hT ⊢
 have hra : readA l = if c ≠ 0 then (ex0, c, p) else if (parseA ts 0).2.2.1 ≠ 0 then (ex0, (parseA ts 0).2.2.1, (parseA ts 0).2.2.2) else if (tk ts (parseA ts 0).2.1.toNat).k ≠ 5 then (ex0, 4, (tk ts (parseA ts 0).2.1.toNat).a) else ((parseA ts 0).1, 0, (parseA ts 0).2.2.2) := by
  unfold readA; rw [htk]
 refine ⟨l0, _, _, rfl, hO1.same (by simp; omega), fun hc k2 w2 hk2 hk2' hO2 n1 n2 n3 => ⟨fun k => k = k2, rfl, fun e => n2 e, fun e => n3 e, fun w3 hO3 => ?_⟩, fun hc k3 w4 hk3 hk3' hO4 => ?_⟩
 · have hc : c ≠ 0 := by simpa using hc
   rw [hra, if_pos hc]
   exact ⟨_, rfl, rx0 _ _ _, ((hO01.tr0 hO2).trans hO3 fun x hx => .inr (by simp only [List.mem_cons, List.not_mem_nil, or_false] at hx; omega))⟩
 · have hc : c = 0 := by simpa using hc
   rw [if_neg (by simp [hc])] at hra
   have z4 := hO4.size
   refine (parse_c (hT.only hO4).sl 0 ⟨by decide, by decide⟩).mono ?_
   rintro _ w5 ⟨cs, rfl, hX, hj, hO5⟩
   have z5 := hO5.size
   generalize hpa : parseA ts 0 = pa at *
   obtain ⟨x, j, c', p'⟩ := pa
   dsimp only at hX hj hra ⊢
   obtain ⟨xl, rfl, _⟩ := hX.cells
   refine ⟨_, _, _, _, _, _, _, _, _, rfl, hO5.same (by simp; omega), fun k4 w6 hk4 hk4' hO6 => ?_⟩
   have z6 := hO6.size
   have h6 := ((hT.only (hO4.tr0 hO5)).keep (w' := w6) fun k hk hlt => hO6.block k hlt (by
    have := hT.blk hk.2
    simp only [List.mem_singleton]
    dsimp only at this
    omega))
   have hl6 := h6.len
   have hO06 : Only [] w w6 := ((hO01.tr0 hO4).tr0 hO5).new hO6 (by omega)
   have fin : ∀ {w8 w9 : World}, Only [k3] w6 w8 -> Only [k1, k0] w8 w9 -> Only [] w w9 := fun h8 h9 => (hO06.new h8 (by omega)).trans h9 fun x hx => .inr (by simp only [List.mem_cons, List.not_mem_nil, or_false] at hx; omega)
   refine ⟨fun i9 i10 w7 => Only [k3] w6 w7 /\ ((c' ≠ 0 /\ i9 = c' /\ i10 = p') ∨ (c' = 0 /\ (tk ts j.toNat).k ≠ 5 /\ i9 = 4 /\ i10 = (tk ts j.toNat).a) ∨ (c' = 0 /\ (tk ts j.toNat).k = 5 /\ i9 = 0 /\ i10 = p')), ?_, ?_⟩
   · rintro i9 i10 w7 ⟨hO7, hcase⟩
     have z7 := hO7.size
     refine ⟨fun hi w8 hO8 n1 n2 n3 n4 n5 n6 => ⟨fun k => k = k3, rfl, ?_, ?_, fun w9 hO9 => ?_⟩, fun hi w10 hO10 n1 n2 n3 n4 n5 n6 => ⟨fun k => k = k3, rfl, ?_, ?_, fun w11 hO11 => ?_⟩⟩
     · intro e; omega
     · intro e; omega
     · have hi : i9 ≠ 0 := by simpa using hi
       have hr : readA l = (ex0, i9, i10) := by
        rw [hra]
        rcases hcase with ⟨a1, rfl, rfl⟩ | ⟨a1, a2, rfl, rfl⟩ | ⟨a1, a2, rfl, rfl⟩
        · rw [if_pos a1]
        · rw [if_neg (by simp [a1]), if_pos a2]
        · exact absurd rfl hi
       rw [hr]
       exact ⟨_, rfl, rx0 _ _ _, fin (hO7.tr0 hO8) hO9⟩
     · intro e; omega
     · intro e; omega
     · have hi : i9 = 0 := by simpa using hi
       have hr : readA l = (x, i9, i10) := by
        rw [hra]
        rcases hcase with ⟨a1, rfl, rfl⟩ | ⟨a1, a2, rfl, rfl⟩ | ⟨a1, a2, rfl, rfl⟩
        · exact absurd hi a1
        · exact absurd hi (by decide)
        · rw [if_neg (by simp [a1]), if_neg (by simp [a2])]
       rw [hr]
       have hO5' : Only [k3, k1, k0] w5 w11 := (((hO6.trans hO7 fun x hx => .inl hx).tr0 hO10).weaken (bs' := [k3, k1, k0]) fun x hx => .inl (by simp only [List.mem_singleton] at hx; simp [hx])).trans hO11 fun x hx => .inl (by simp only [List.mem_cons, List.not_mem_nil, or_false] at hx ⊢; omega)
       have z11 := hO5'.size
       exact ⟨_, rfl, (hX.only hO5' fun q hq => .inl (by simp only [List.mem_cons, List.not_mem_nil, or_false] at hq; omega)).wide (by omega) z11, fin (hO7.tr0 hO10) hO11⟩
   · by_cases hc' : c' = 0
     · obtain ⟨hj0, hj1⟩ := hj hc'
       obtain ⟨n, rfl⟩ : ∃ n : Nat, j = (n : Int) := ⟨j.toNat, by omega⟩
       obtain ⟨ad, t, cs, g1, g2, g3, g4, g5, g6⟩ := h6.sl.get hj0 (by omega)
       rw [Int.toNat_natCast, tk_at (by omega)] at g2
       injection g2 with g2
       subst g2
       unfold rTk at g6
       subst g6
       rw [Int.toNat_natCast]
       refine ⟨ad, fun _ => g1, (tk ts n).k, fun _ => g5.at1 0 _ rfl, fun hh => ⟨ad, g1, (tk ts n).a, g5.at1 3 _ rfl, fun w12 hO12 => ⟨hO12, .inr (.inl ⟨hc', ?_, rfl, rfl⟩)⟩⟩, fun hh => ⟨Only.refl _ _, .inr (.inr ⟨hc', ?_, hc', rfl⟩)⟩⟩
       · simpa [hc'] using hh
       · simpa [hc'] using hh
     · have hb : (c' == 0) = false := by simpa using hc'
       refine ⟨⟨0, 0, none⟩, fun hh => (by rw [hb] at hh; cases hh), 0, fun hh => (by rw [hb] at hh; cases hh), fun hh => (by rw [hb] at hh; cases hh), fun _ => ⟨Only.refl _ _, .inl ⟨hc', rfl, rfl⟩⟩⟩
def rEx : Nat -> Rp Ex
 | 0 => fun _ _ _ _ => False
 | d + 1 => fun w F x cs => ∃ sl : Sl, cs = exv x.k x.n x.s x.op sl x.a /\ SliceF (rEx d) 6 w F sl x.subs
theorem rEx_ok : ∀ d, (rEx d).Ok
 | 0 => ⟨fun h _ => h.elim, fun h => h.elim, fun h _ => h.elim, fun h => h.elim⟩
 | d + 1 => ⟨fun ⟨sl, h1, h2⟩ hk => ⟨sl, h1, SliceF.keep (rEx_ok d) h2 (by decide) hk⟩, fun ⟨sl, h1, h2⟩ => ⟨sl, h1, SliceF.inHeap (rEx_ok d) h2 (by decide)⟩, fun ⟨sl, h1, h2⟩ hk => ⟨sl, h1, SliceF.mono (rEx_ok d) h2 hk⟩, fun ⟨sl, h1, h2⟩ => by
  subst h1
  intro v hv
  simp only [List.mem_cons, List.not_mem_nil, or_false] at hv
  rcases hv with rfl | rfl | rfl | rfl | rfl | rfl <;> rfl⟩
theorem slImp {α : Type} {r q : Rp α} {size : Nat} {w : World} {F : Nat -> Prop} {s : Sl} {xs : List α} (h : SliceF r size w F s xs) (hi : ∀ x cs, x ∈ xs -> r w F x cs -> q w F x cs) : SliceF q size w F s xs :=
 ⟨h.len, h.cap, h.nil0, h.big, fun j x hx => by
  obtain ⟨base, cs, h1, h2, h3, h4, h5⟩ := h.at_ j x hx
  exact ⟨base, cs, h1, h2, h3, h4, hi x cs (List.mem_of_getElem? hx) h5⟩⟩
section
variable {w w' : World} {F : Nat -> Prop} {x y : Ex} {cs ds : List Value}
theorem rEx_up : ∀ {d : Nat} {x : Ex} {cs : List Value}, rEx d w F x cs -> rEx (d + 1) w F x cs
 | 0, _, _, h => h.elim
 | d + 1, x, cs, ⟨sl, h1, h2⟩ => ⟨sl, h1, slImp h2 fun x cs _ h => rEx_up h⟩
theorem rEx_le {d e : Nat} (h : d <= e) (hx : rEx d w F x cs) : rEx e w F x cs := by
  induction e with
  | zero => have : d = 0 := by omega
            subst this; exact hx
  | succ e ih =>
    by_cases he : d = e + 1
    · subst he; exact hx
    · exact rEx_up (ih (by omega))
theorem rEx_only {d : Nat} (h : rEx d w F x cs) (hO : Only [] w w') : rEx d w' F x cs := (rEx_ok d).only h hO (by simp)
theorem RXN.ex {N : Nat -> Prop} {lo hi : Nat} (h : RXN w N lo hi x cs) : ∃ d, rEx d w (fun k => lo <= k /\ k < hi) x cs := by
 induction h with
 | leaf lo hi k n s op a => exact ⟨1, Sl.nil, rfl, SliceF.nil _ _ _ _⟩
 | one lo m g hi k n s op a x cs h1 h2 h3 h4 hn h5 ih =>
  obtain ⟨d, ih⟩ := ih
  obtain ⟨sl, hcs, _⟩ := h1.cells
  refine ⟨d + 1, _, rfl, rfl, Nat.le_refl _, fun h => (by cases h), (by decide : (1 : Nat) <= 9223372036854775807), fun j y hj => ?_⟩
  have hj0 : j = 0 := by
   have := (List.getElem?_eq_some_iff.1 hj).1
   simp only [Ex.subs, List.length_singleton] at this
   omega
  subst hj0
  simp only [Ex.subs, List.getElem?_cons_zero, Option.some.injEq] at hj
  subst hj
  exact ⟨⟨g, 0, none⟩, cs, rfl, ⟨h2, h4⟩, by rw [hcs]; rfl, by rw [Nat.zero_mul]; exact h5.cells 0 cs fun j v hv => by rw [Nat.zero_add]; exact hv, (rEx_ok d).mono ih fun k hk => ⟨hk.1, by omega⟩⟩
 | two lo m m' m2 g hi k n s op a x y cs ds h1 h2 h3 h4 h5 h6 h7 h8 hn h9 ih1 ih2 =>
  obtain ⟨d1, ih1⟩ := ih1
  obtain ⟨d2, ih2⟩ := ih2
  obtain ⟨sl, hcs, _⟩ := h1.cells
  obtain ⟨sl2, hds, _⟩ := h3.cells
  have e1 : cs.length = 6 := by rw [hcs]; rfl
  have e2 : ds.length = 6 := by rw [hds]; rfl
  refine ⟨max d1 d2 + 1, _, rfl, rfl, Nat.le_refl _, fun h => (by cases h), (by decide : (2 : Nat) <= 9223372036854775807), fun j y hj => ?_⟩
  rcases j with _ | _ | j
  · simp only [Ex.subs, List.getElem?_cons_zero, Option.some.injEq] at hj
    subst hj
    exact ⟨⟨g, 0, none⟩, cs, rfl, ⟨by dsimp only; omega, h8⟩, e1, by rw [Nat.zero_mul]; exact h9.cells 0 cs fun j v hv => by rw [Nat.zero_add, List.getElem?_append_left (List.getElem?_eq_some_iff.1 hv).1]; exact hv, (rEx_ok _).mono (rEx_le (Nat.le_max_left _ _) ih1) fun k hk => ⟨hk.1, by omega⟩⟩
  · simp only [Ex.subs, List.getElem?_cons_succ, List.getElem?_cons_zero, Option.some.injEq] at hj
    subst hj
    exact ⟨⟨g, 0, none⟩, ds, rfl, ⟨by dsimp only; omega, h8⟩, e2, by
     rw [addr_lit]
     exact h9.cells 6 ds fun j v hv => by rw [List.getElem?_append_right (by omega), e1, Nat.add_sub_cancel_left]; exact hv, (rEx_ok _).mono (rEx_le (Nat.le_max_right _ _) ih2) fun k hk => ⟨by omega, by omega⟩⟩
  · simp [Ex.subs] at hj
end
theorem T_eq (l m : List UInt8) : ((T l).toList == (T m).toList) = decide (l = m) := ba_eq l m
def trA (b : Bool) : Int := if b then 1 else 0
def divA (op a b : Int) : Int × Int :=
 if b = 0 then (0, 10) else if op = 4 /\ b = -1 then (IntKind.wrap .i64 (0 - a), 0) else if op = 4 then (IntKind.wrap .i64 (a.tdiv b), 0) else if b = -1 then (0, 0) else (a.tmod b, 0)
def doA (op a b : Int) : Int × Int :=
 if op = 1 then (IntKind.wrap .i64 (a + b), 0) else if op = 2 then (IntKind.wrap .i64 (a - b), 0) else if op = 3 then (IntKind.wrap .i64 (a * b), 0)
 else if op = 4 ∨ op = 5 then divA op a b else if op = 8 then (trA (decide (b < a)), 0) else if op = 6 then (trA (decide (a < b)), 0)
 else if op = 7 then (IntKind.wrap .i64 (1 - trA (decide (b < a))), 0) else if op = 9 then (IntKind.wrap .i64 (1 - trA (decide (a < b))), 0)
 else if op = 10 then (trA (a == b), 0) else if op = 11 then (IntKind.wrap .i64 (1 - trA (a == b)), 0)
 else if op = 12 then (bits .and .i64 (trA (a != 0)) (trA (b != 0)), 0) else if op = 13 then (trA (bits .or .i64 a b != 0), 0) else (0, 11)
def oneA (op a : Int) : Int × Int := if op = 14 then (IntKind.wrap .i64 (0 - a), 0) else if op = 15 then (trA (a == 0), 0) else (0, 11)
theorem truth_c (w : World) (b : Bool) : Calls Tryz.prog 42 #[.bool b] w fun e w' => e = .returned (.int .i64 (trA b)) /\ w' = w := by
 refine ret (v5w b (fun v w' => v = .int .i64 (trA b) /\ w' = w) w ?_)
 unfold v5v
 exact ⟨fun h => by rw [h]; exact ⟨rfl, rfl⟩, fun h => by rw [h]; exact ⟨rfl, rfl⟩⟩
theorem turned_c (w : World) (n : Int) : Calls Tryz.prog 44 #[.int .i64 n] w fun e w' => e = .returned (.int .i64 (IntKind.wrap .i64 (1 - n))) /\ w' = w := by
 refine ret (v6w n (fun v w' => v = .int .i64 (IntKind.wrap .i64 (1 - n)) /\ w' = w) w ?_)
 unfold v6v
 exact ⟨rfl, rfl⟩
theorem divide_c (w : World) (op a b : Int) : Calls Tryz.prog 43 #[.int .i64 op, .int .i64 a, .int .i64 b] w fun e w' => e = .returned (.tuple #[.int .i64 (divA op a b).1, .int .i64 (divA op a b).2]) /\ w' = w := by
 refine ret (v4w op a b (fun v w' => v = .tuple #[.int .i64 (divA op a b).1, .int .i64 (divA op a b).2] /\ w' = w) w ?_)
 unfold v4v
 refine ⟨fun h => ?_, fun h => ⟨fun h1 => ?_, fun h1 => ⟨fun h2 => ?_, fun h2 => ⟨fun h3 => ?_, fun h3 => ?_⟩⟩⟩⟩
 · have h : b = 0 := by simpa using h
   rw [divA, if_pos h]; exact ⟨rfl, rfl⟩
 · have h : b ≠ 0 := by simpa using h
   have h1 : op = 4 /\ b = -1 := by simpa using h1
   rw [divA, if_neg h, if_pos h1]; exact ⟨rfl, rfl⟩
 · have h : b ≠ 0 := by simpa using h
   have h2 : op = 4 := by simpa using h2
   have h1 : ¬ (op = 4 /\ b = -1) := fun hh => by rw [hh.1, hh.2] at h1; simp at h1
   rw [divA, if_neg h, if_neg h1, if_pos h2]; exact ⟨h, rfl, rfl⟩
 · have h : b ≠ 0 := by simpa using h
   have h2 : op ≠ 4 := by simpa using h2
   have h3 : b = -1 := by simpa using h3
   rw [divA, if_neg h, if_neg (fun hh => h2 hh.1), if_neg h2, if_pos h3]; exact ⟨rfl, rfl⟩
 · have h : b ≠ 0 := by simpa using h
   have h2 : op ≠ 4 := by simpa using h2
   have h3 : b ≠ -1 := by simpa using h3
   rw [divA, if_neg h, if_neg (fun hh => h2 hh.1), if_neg h2, if_neg h3]; exact ⟨h, rfl, rfl⟩
theorem do_c (w : World) (op a b : Int) : Calls Tryz.prog 27 #[.int .i64 op, .int .i64 a, .int .i64 b] w fun e w' => e = .returned (.tuple #[.int .i64 (doA op a b).1, .int .i64 (doA op a b).2]) /\ w' = w := by
 refine ret (v0w op a b (fun v w' => v = .tuple #[.int .i64 (doA op a b).1, .int .i64 (doA op a b).2] /\ w' = w) w ?_)
 unfold v0v
 have eq : ∀ {k : Int}, (op == k) = true -> op = k := fun h => by simpa using h
 have ne : ∀ {k : Int}, (op == k) = false -> op ≠ k := fun h => by simpa using h
 refine ⟨fun n w' => doA op a b = (n, 0) /\ w' = w, ?_, fun p q w' => doA op a b = (IntKind.wrap .i64 (1 - trA (decide (p < q))), 0) /\ w' = w, ?_, fun p q w' => doA op a b = (trA (decide (p < q)), 0) /\ w' = w, ?_, fun h => ?_, fun h1 => ⟨fun h => ?_, fun h2 => ⟨fun h => ?_, fun h3 => ⟨fun c w' => c = decide (op = 4 ∨ op = 5) /\ w' = w, ?_, fun h => ?_, fun h => ?_⟩⟩⟩⟩
 · rintro n _ ⟨h, rfl⟩
   rw [h]; exact ⟨rfl, rfl⟩
 · rintro p q _ ⟨h, rfl⟩
   refine (truth_c _ _).mono ?_
   rintro _ _ ⟨rfl, rfl⟩
   refine ⟨_, rfl, (turned_c _ _).mono ?_⟩
   rintro _ _ ⟨rfl, rfl⟩
   exact ⟨_, rfl, h, rfl⟩
 · rintro p q _ ⟨h, rfl⟩
   refine (truth_c _ _).mono ?_
   rintro _ _ ⟨rfl, rfl⟩
   exact ⟨_, rfl, h, rfl⟩
 · rw [doA, if_pos (eq h)]; exact ⟨rfl, rfl⟩
 · rw [doA, if_neg (ne h1), if_pos (eq h)]; exact ⟨rfl, rfl⟩
 · rw [doA, if_neg (ne h1), if_neg (ne h2), if_pos (eq h)]; exact ⟨rfl, rfl⟩
 · rintro _ _ ⟨rfl, rfl⟩
   have e3 : doA op a b = if op = 4 ∨ op = 5 then divA op a b else if op = 8 then (trA (decide (b < a)), 0) else if op = 6 then (trA (decide (a < b)), 0)
    else if op = 7 then (IntKind.wrap .i64 (1 - trA (decide (b < a))), 0) else if op = 9 then (IntKind.wrap .i64 (1 - trA (decide (a < b))), 0)
    else if op = 10 then (trA (a == b), 0) else if op = 11 then (IntKind.wrap .i64 (1 - trA (a == b)), 0)
    else if op = 12 then (bits .and .i64 (trA (a != 0)) (trA (b != 0)), 0) else if op = 13 then (trA (bits .or .i64 a b != 0), 0) else (0, 11) := by
    rw [doA, if_neg (ne h1), if_neg (ne h2), if_neg (ne h3)]
   rw [e3]
   refine ⟨fun hb => ?_, fun hb => ?_⟩
   · rw [if_pos (of_decide_eq_true hb)]
     refine (divide_c _ op a b).mono ?_
     rintro _ _ ⟨rfl, rfl⟩
     exact ⟨_, _, rfl, rfl, rfl⟩
   rw [if_neg (of_decide_eq_false hb)]
   refine ⟨fun h => ?_, fun h8 => ⟨fun h => ?_, fun h6 => ⟨fun h => ?_, fun h7 => ⟨fun h => ?_, fun h9 => ⟨fun h => (truth_c _ _).mono ?_, fun h10 => ⟨fun h => (truth_c _ _).mono ?_, fun h11 => ⟨fun h => (truth_c _ _).mono ?_, fun h12 => ⟨fun h => (truth_c _ _).mono ?_, fun h13 => ?_⟩⟩⟩⟩⟩⟩⟩⟩
   · rw [if_pos (eq h)]; exact ⟨rfl, rfl⟩
   · rw [if_neg (ne h8), if_pos (eq h)]; exact ⟨rfl, rfl⟩
   · rw [if_neg (ne h8), if_neg (ne h6), if_pos (eq h)]; exact ⟨rfl, rfl⟩
   · rw [if_neg (ne h8), if_neg (ne h6), if_neg (ne h7), if_pos (eq h)]; exact ⟨rfl, rfl⟩
   · rintro _ _ ⟨rfl, rfl⟩
     rw [if_neg (ne h8), if_neg (ne h6), if_neg (ne h7), if_neg (ne h9), if_pos (eq h)]
     exact ⟨_, rfl, rfl, rfl⟩
   · rintro _ _ ⟨rfl, rfl⟩
     refine ⟨_, rfl, (turned_c _ _).mono ?_⟩
     rintro _ _ ⟨rfl, rfl⟩
     rw [if_neg (ne h8), if_neg (ne h6), if_neg (ne h7), if_neg (ne h9), if_neg (ne h10), if_pos (eq h)]
     exact ⟨_, rfl, rfl, rfl⟩
   · rintro _ _ ⟨rfl, rfl⟩
     refine ⟨_, rfl, (truth_c _ _).mono ?_⟩
     rintro _ _ ⟨rfl, rfl⟩
     rw [if_neg (ne h8), if_neg (ne h6), if_neg (ne h7), if_neg (ne h9), if_neg (ne h10), if_neg (ne h11), if_pos (eq h)]
     exact ⟨_, rfl, rfl, rfl⟩
   · rintro _ _ ⟨rfl, rfl⟩
     rw [if_neg (ne h8), if_neg (ne h6), if_neg (ne h7), if_neg (ne h9), if_neg (ne h10), if_neg (ne h11), if_neg (ne h12), if_pos (eq h)]
     exact ⟨_, rfl, rfl, rfl⟩
   · rw [if_neg (ne h8), if_neg (ne h6), if_neg (ne h7), if_neg (ne h9), if_neg (ne h10), if_neg (ne h11), if_neg (ne h12), if_neg (ne h13)]
     exact ⟨rfl, rfl⟩
 · have := eq h
   subst this
   exact ⟨by decide, rfl⟩
 · refine ⟨?_, rfl⟩
   rw [Bool.eq_iff_iff]
   simp only [beq_iff_eq, decide_eq_true_eq]
   have := ne h
   omega
theorem one1_c (w : World) (op a : Int) : Calls Tryz.prog 26 #[.int .i64 op, .int .i64 a] w fun e w' => e = .returned (.tuple #[.int .i64 (oneA op a).1, .int .i64 (oneA op a).2]) /\ w' = w := by
 refine ret (v1w op a (fun v w' => v = .tuple #[.int .i64 (oneA op a).1, .int .i64 (oneA op a).2] /\ w' = w) w ?_)
 unfold v1v
 refine ⟨fun h => ?_, fun h1 => ⟨fun h => (truth_c _ _).mono ?_, fun h2 => ?_⟩⟩
 · have h : op = 14 := by simpa using h
   rw [oneA, if_pos h]; exact ⟨rfl, rfl⟩
 · have h1 : op ≠ 14 := by simpa using h1
   have h : op = 15 := by simpa using h
   rintro _ _ ⟨rfl, rfl⟩
   rw [oneA, if_neg h1, if_pos h]
   exact ⟨_, rfl, rfl, rfl⟩
 · have h1 : op ≠ 14 := by simpa using h1
   have h2 : op ≠ 15 := by simpa using h2
   rw [oneA, if_neg h1, if_neg h2]
   exact ⟨rfl, rfl⟩
structure Env5 where
 N : List (List UInt8)
 V : List Int
 A : List (List UInt8)
def ixA (c : List UInt8) : List (List UInt8) -> Nat
 | [] => 0
 | x :: l => if x = c then 0 else ixA c l + 1
def namedA (e : Env5) (s : List UInt8) : Int × Int := if ixA s e.N < e.N.length /\ ixA s e.N < e.V.length then ((e.V[ixA s e.N]?).getD 0, 0) else (0, 23)
def tookA (p : Int × Int) : Int × Int := if p.2 ≠ 0 then (0, p.2) else p
def partsA (k : Int) : Int := if 0 > IntKind.wrap .i64 (k - 3) then 0 else IntKind.wrap .i64 (k - 3)
def evM (e : Env5) : Nat -> Ex -> Int × Int
 | 0, _ => (0, 22)
 | d + 1, x => if x.k < 1 ∨ 5 < x.k ∨ (x.subs.length : Int) ≠ partsA x.k then (0, 22)
  else if x.k = 1 then (x.n, 0) else if x.k = 2 then namedA e x.s else if x.k = 3 then (trA (e.A.contains x.s), 0)
  else match x.subs with
   | [] => (0, 22)
   | y :: r => if (evM e d y).2 ≠ 0 then (0, (evM e d y).2) else if x.k = 4 then tookA (oneA x.op (evM e d y).1)
    else if x.op = 12 /\ (evM e d y).1 = 0 then (0, 0) else if x.op = 13 /\ (evM e d y).1 ≠ 0 then (1, 0)
    else match r with
     | [] => (0, 22)
     | z :: _ => if (evM e d z).2 ≠ 0 then (0, (evM e d z).2) else tookA (doA x.op (evM e d y).1 (evM e d z).1)
structure Wk (F : Nat -> Prop) (e : Env5) (w : World) (b : Nat) (sN sV sA : Sl) (err : Int) : Prop where
 blk : Blk w b 52 [sN.v, sV.v, sA.v, .int .i64 err]
 n : SliceF rTx 1 w F sN e.N
 v : SliceF rInt 1 w F sV e.V
 a : SliceF rTx 1 w F sA e.A
 hF : ∀ k, F k -> k < b
section
variable {F : Nat -> Prop} {e : Env5} {w w' : World} {b : Nat} {sN sV sA : Sl} {err : Int}
theorem Wk.only (h : Wk F e w b sN sV sA err) (hO : Only [] w w') : Wk F e w' b sN sV sA err :=
 ⟨hO.blk h.blk (by simp), SliceF.only rTx_ok (by decide) h.n hO (by simp), SliceF.only rInt_ok (by decide) h.v hO (by simp), SliceF.only rTx_ok (by decide) h.a hO (by simp), h.hF⟩
theorem Wk.turn (h : Wk F e w b sN sV sA err) (hO : Only [b] w w') {err' : Int} (hB : Blk w' b 52 [sN.v, sV.v, sA.v, .int .i64 err']) : Wk F e w' b sN sV sA err' :=
 ⟨hB, SliceF.only rTx_ok (by decide) h.n hO (fun k hk _ hm => by have := h.hF k hk; simp only [List.mem_singleton] at hm; omega), SliceF.only rInt_ok (by decide) h.v hO (fun k hk _ hm => by have := h.hF k hk; simp only [List.mem_singleton] at hm; omega), SliceF.only rTx_ok (by decide) h.a hO (fun k hk _ hm => by have := h.hF k hk; simp only [List.mem_singleton] at hm; omega), h.hF⟩
theorem Wk.lb (h : Wk F e w b sN sV sA err) : b < w.heap.size := h.blk.lt
theorem fail_c (h : Wk F e w b sN sV sA err) (c : Int) : Calls Tryz.prog 22 #[.pointer (some ⟨b, 0, none⟩), .int .i64 c] w fun r w' => r = .returned (.int .i64 0) /\ Only [b] w w' /\ Wk F e w' b sN sV sA (if err = 0 then c else err) := by
 refine ret (v11w ⟨b, 0, none⟩ c (fun v w' => v = .int .i64 0 /\ Only [b] w w' /\ Wk F e w' b sN sV sA (if err = 0 then c else err)) w ?_)
 unfold v11v
 refine ⟨fun w' => Only [b] w w' /\ Wk F e w' b sN sV sA (if err = 0 then c else err), fun w' h => ⟨rfl, h⟩, err, Blk.at1 h.blk 3 rfl, fun hc => ⟨b, 3, _, _, rfl, h.blk, by simp, fun w1 hO1 hB1 => ⟨hO1, ?_⟩⟩, fun hc => ⟨Only.refl _ _, ?_⟩⟩
 · rw [if_pos (by simpa using hc)]
   exact h.turn hO1 hB1
 · rw [if_neg (by simpa using hc)]
   exact h
theorem took_c (h : Wk F e w b sN sV sA 0) (p : Int × Int) : Calls Tryz.prog 25 #[.pointer (some ⟨b, 0, none⟩), .int .i64 p.1, .int .i64 p.2] w fun r w' => r = .returned (.int .i64 (tookA p).1) /\ Only [b] w w' /\ Wk F e w' b sN sV sA (tookA p).2 := by
 refine ret (v13w ⟨b, 0, none⟩ p.1 p.2 (fun v w' => v = .int .i64 (tookA p).1 /\ Only [b] w w' /\ Wk F e w' b sN sV sA (tookA p).2) w ?_)
 unfold v13v
 refine (fail_c h p.2).mono ?_
 rintro _ w0 ⟨rfl, hO0, h0⟩
 rw [if_pos rfl] at h0
 refine ⟨_, rfl, _, Blk.at1 h0.blk 3 rfl, fun hc => ?_, fun hc => ?_⟩
 · have hc : p.2 ≠ 0 := by simpa using hc
   rw [tookA, if_pos hc]
   exact ⟨rfl, hO0, h0⟩
 · have hc : p.2 = 0 := by simpa using hc
   rw [tookA, if_neg (by simp [hc])]
   exact ⟨rfl, hO0, h0⟩
theorem indexE_c {s : Sl} {l : List (List UInt8)} (h : SliceF rTx 1 w F s l) (c : List UInt8) :
  Calls Tryz.prog 41 #[Sl.v s, .string (T c)] w fun r w' => r = .returned (.int .i64 (if ixA c l < l.length then (ixA c l : Int) else -1)) /\ w' = w := by
 refine ret (v53w s _ (fun v w' => v = .int .i64 (if ixA c l < l.length then (ixA c l : Int) else -1) /\ w' = w) w ?_)
 unfold v53v
 have hlen := h.len
 have hbig := h.big
 have hcap := h.cap
 refine ⟨fun nv i w' => ∃ n : Nat, n <= l.length /\ i = (n : Int) /\ nv = l.length - n /\ ixA c l = n + ixA c (l.drop n) /\ w' = w, l.length, ⟨0, Nat.zero_le _, rfl, rfl, by rw [List.drop_zero, Nat.zero_add], rfl⟩, ?_⟩
 rintro nv _ _ ⟨n, hn, rfl, rfl, hp, rfl⟩
 refine ⟨fun hc => ?_, fun hc => ?_⟩
 · have hlt : (n : Int) < s.n := of_decide_eq_true hc
   obtain ⟨ad, x, cs, g1, g2, g3, g4, g5, g6⟩ := h.get (Int.natCast_nonneg n) hlt
   rw [Int.toNat_natCast] at g2
   unfold rTx at g6
   subst g6
   have hd : l.drop n = x :: l.drop (n + 1) := by rw [List.drop_eq_getElem_cons (List.getElem?_eq_some_iff.1 g2).1, (List.getElem?_eq_some_iff.1 g2).2]
   rw [hd, ixA] at hp
   refine ⟨ad, g1, _, g5, ?_⟩
   rw [T_eq]
   refine ⟨fun he => ⟨?_, rfl⟩, fun he => ⟨l.length - (n + 1), by omega, n + 1, by omega, by rw [wr' (by omega) (by omega)]; rfl, rfl, ?_, rfl⟩⟩
   · have he : c = x := of_decide_eq_true he
     rw [if_pos he.symm] at hp
     rw [if_pos (by omega), hp, Nat.add_zero]
   · have he : c ≠ x := of_decide_eq_false he
     rw [if_neg (fun h => he h.symm)] at hp
     omega
 · have hge : ¬ ((n : Int) < s.n) := of_decide_eq_false hc
   rw [List.drop_of_length_le (by omega), ixA] at hp
   rw [if_neg (by omega)]
   exact ⟨rfl, rfl⟩
theorem named_c (h : Wk F e w b sN sV sA 0) (s : List UInt8) : Calls Tryz.prog 23 #[.pointer (some ⟨b, 0, none⟩), .string (T s)] w fun r w' => r = .returned (.int .i64 (namedA e s).1) /\ Only [b] w w' /\ Wk F e w' b sN sV sA (namedA e s).2 := by
 refine ret (v12w ⟨b, 0, none⟩ _ (fun v w' => v = .int .i64 (namedA e s).1 /\ Only [b] w w' /\ Wk F e w' b sN sV sA (namedA e s).2) w ?_)
 unfold v12v
 have l1 := h.n.len
 have l2 := h.v.len
 have l3 := h.n.cap
 have l4 := h.n.big
 refine ⟨sN, Blk.at1 h.blk 0 rfl, (indexE_c h.n s).mono ?_⟩
 rintro _ _ ⟨rfl, rfl⟩
 refine ⟨_, rfl, sV, fun _ => Blk.at1 h.blk 1 rfl, fun hc => (fail_c h 23).mono ?_, fun hc => ?_⟩
 · rintro _ w1 ⟨rfl, hO1, h1⟩
   rw [if_pos rfl] at h1
   have hc : ¬ (ixA s e.N < e.N.length /\ ixA s e.N < e.V.length) := fun hh => by
    rw [if_pos hh.1] at hc
    simp only [Bool.or_eq_true, decide_eq_true_eq] at hc
    omega
   rw [namedA, if_neg hc]
   exact ⟨_, rfl, rfl, hO1, h1⟩
 · have hc : ixA s e.N < e.N.length /\ ixA s e.N < e.V.length := by
    simp only [Bool.or_eq_false_iff, decide_eq_false_iff_not] at hc
    by_cases h1 : ixA s e.N < e.N.length
    · rw [if_pos h1] at hc
      omega
    · rw [if_neg h1] at hc
      omega
   rw [namedA, if_pos hc, if_pos hc.1]
   obtain ⟨ad, x, cs, g1, g2, g3, g4, g5, g6⟩ := h.v.get (i := (ixA s e.N : Int)) (Int.natCast_nonneg _) (by omega)
   rw [Int.toNat_natCast] at g2
   obtain ⟨rfl, _⟩ := g6
   rw [g2]
   exact ⟨sV, Blk.at1 h.blk 1 rfl, ad, g1, x, g5, rfl, Only.refl _ _, h⟩
end
theorem wexpr_c : ∀ (d : Nat) {F G : Nat -> Prop} {e : Env5} {w : World} {b : Nat} {sN sV sA : Sl} {x : Ex} {cs : List Value}, Wk F e w b sN sV sA 0 -> rEx d w G x cs -> (∀ k, G k -> k < b) ->
  Calls Tryz.prog 15 #[.pointer (some ⟨b, 0, none⟩), .agg cs.toArray] w fun r w' => r = .returned (.int .i64 (evM e d x).1) /\ Only [b] w w' /\ Wk F e w' b sN sV sA (evM e d x).2
 | 0, _, _, _, _, _, _, _, _, _, _, _, h, _ => h.elim
 | d + 1, F, G, e, w, b, sN, sV, sA, x, cs, hW, ⟨sl, h1, h2⟩, hG => by
  subst h1
  refine ret (v10w ⟨b, 0, none⟩ x.k x.n (T x.s) x.op sl x.a (fun v w' => v = .int .i64 (evM e (d + 1) x).1 /\ Only [b] w w' /\ Wk F e w' b sN sV sA (evM e (d + 1) x).2) w ?_)
  unfold v10v
  intro k0 w0 hk0 hk0' hO0
  have hb := hW.lb
  have hlen := h2.len
  have hW0 := hW.only hO0
  have z0 := hO0.size
  have hO0b : Only [b] w w0 := hO0.weaken fun _ h => (by cases h)
  have sm : ∀ {u u' : World}, w0.heap.size <= u.heap.size -> Only [b] u u' -> Same [k0] u u' := fun hu hO => hO.same (by simp; omega)
  have sub : ∀ {w1 : World} {i : Nat} {y : Ex}, Only [b] w0 w1 -> x.subs[i]? = some y -> ∃ ad sy, SlAt sl (i : Int) 6 ad /\ Cells w1 ad (exv y.k y.n y.s y.op sy y.a) /\ rEx d w1 G y (exv y.k y.n y.s y.op sy y.a) := fun {w1 i y} hO hy => by
   have hS := SliceF.only (rEx_ok d) (by decide) (SliceF.only (rEx_ok d) (by decide) h2 hO0 (by simp)) hO fun k hk _ hm => by have := hG k hk; simp only [List.mem_singleton] at hm; omega
   have hlt := (List.getElem?_eq_some_iff.1 hy).1
   obtain ⟨ad, y', cs, g1, g2, g3, g4, g5, g6⟩ := hS.get (Int.natCast_nonneg i) (by omega)
   rw [Int.toNat_natCast, hy] at g2
   injection g2 with g2
   subst g2
   have : ∃ sy : Sl, cs = exv y.k y.n y.s y.op sy y.a := by
    cases d with
    | zero => exact g6.elim
    | succ d => obtain ⟨sy, hcs, _⟩ := g6; exact ⟨sy, hcs⟩
   obtain ⟨sy, rfl⟩ := this
   exact ⟨ad, sy, g1, g5, g6⟩
  have hcond : ((((0 : Int) != 0) || decide (x.k < 1)) || decide (x.k > 5) || ((sl.n : Int) != (if 0 > (IntKind.wrap .i64 (x.k - 3)) then 0 else IntKind.wrap .i64 (x.k - 3)))) = decide (x.k < 1 ∨ 5 < x.k ∨ (x.subs.length : Int) ≠ partsA x.k) := by
   rw [hlen]
   have : (if 0 > (IntKind.wrap .i64 (x.k - 3)) then 0 else IntKind.wrap .i64 (x.k - 3)) = partsA x.k := rfl
   rw [this, Bool.eq_iff_iff]
   simp only [Bool.or_eq_true, decide_eq_true_eq, bne_iff_ne, ne_eq, not_true_eq_false, false_or]
   constructor
   · rintro ((h | h) | h)
     · exact .inl h
     · exact .inr (.inl h)
     · exact .inr (.inr h)
   · rintro (h | h | h)
     · exact .inl (.inl h)
     · exact .inl (.inr h)
     · exact .inr h
  refine ⟨0, Blk.at1 hW0.blk 3 rfl, ?_⟩
  rw [hcond]
  refine ⟨fun hc => (fail_c hW0 22).mono ?_, fun hc => ?_⟩
  · rintro _ w1 ⟨rfl, hO1, h1⟩
    rw [if_pos rfl] at h1
    rw [evM, if_pos (of_decide_eq_true hc)]
    exact ⟨_, rfl, sm (Nat.le_refl _) hO1, rfl, hO0b.trans hO1 fun x hx => .inl hx, h1⟩
  have hc := of_decide_eq_false hc
  have hev : evM e (d + 1) x = (if x.k = 1 then (x.n, 0) else if x.k = 2 then namedA e x.s else if x.k = 3 then (trA (e.A.contains x.s), 0)
  else match x.subs with
   | [] => (0, 22)
   | y :: r => if (evM e d y).2 ≠ 0 then (0, (evM e d y).2) else if x.k = 4 then tookA (oneA x.op (evM e d y).1)
    else if x.op = 12 /\ (evM e d y).1 = 0 then (0, 0) else if x.op = 13 /\ (evM e d y).1 ≠ 0 then (1, 0)
    else match r with
     | [] => (0, 22)
     | z :: _ => if (evM e d z).2 ≠ 0 then (0, (evM e d z).2) else tookA (doA x.op (evM e d y).1 (evM e d z).1)) := by rw [evM, if_neg hc]
  rw [hev]
  refine ⟨fun hk => ?_, fun k1 => ⟨fun hk => (named_c hW0 x.s).mono ?_, fun k2 => ⟨fun hk w3 hO3 => ?_, fun k3 => ?_⟩⟩⟩
  · rw [if_pos (by simpa using hk)]
    exact ⟨rfl, hO0b, hW0⟩
  · have k1 : x.k ≠ 1 := by simpa using k1
    rw [if_neg k1, if_pos (by simpa using hk)]
    rintro _ w2 ⟨rfl, hO2, h2⟩
    exact ⟨_, rfl, sm (Nat.le_refl _) hO2, rfl, hO0b.trans hO2 fun x hx => .inl hx, h2⟩
  · have k1 : x.k ≠ 1 := by simpa using k1
    have k2 : x.k ≠ 2 := by simpa using k2
    rw [if_neg k1, if_neg k2, if_pos (by simpa using hk)]
    have hW3 := hW0.only hO3
    have z3 := hO3.size
    refine ⟨sA, Blk.at1 hW3.blk 2 rfl, (containsS_c hW3.a x.s).mono ?_⟩
    rintro _ w4 ⟨rfl, hO4⟩
    have hO04 : Only [b] w w4 := (hO0b.tr0 hO3).tr0 hO4
    refine ⟨_, rfl, sm z3 (hO4.weaken fun _ h => (by cases h)), fun hb => ?_, fun hb => ?_⟩
    · rw [hb]; exact ⟨rfl, hO04, hW3.only hO4⟩
    · rw [hb]; exact ⟨rfl, hO04, hW3.only hO4⟩
  · have k1 : x.k ≠ 1 := by simpa using k1
    have k2 : x.k ≠ 2 := by simpa using k2
    have k3 : x.k ≠ 3 := by simpa using k3
    rw [if_neg k1, if_neg k2, if_neg k3]
    have hk45 : x.k = 4 ∨ x.k = 5 := by omega
    have hp : partsA x.k = x.k - 3 := by
     unfold partsA
     rw [wr' (by omega) (by omega), if_neg (by omega)]
    have hsl : (x.subs.length : Int) = x.k - 3 := by
     refine Decidable.byContradiction fun hn => hc (.inr (.inr (by rw [hp]; exact hn)))
    obtain ⟨y, r, hy⟩ : ∃ y r, x.subs = y :: r := by
     cases hm : x.subs with
     | nil => rw [hm] at hsl; simp at hsl; omega
     | cons y r => exact ⟨y, r, rfl⟩
    rw [hy]
    obtain ⟨p, sy, g1, g2, g3⟩ := sub (i := 0) (Only.refl _ _) (y := y) (by rw [hy]; rfl)
    refine ⟨p, g1, _, _, _, _, _, _, g2, (wexpr_c d hW0 g3 hG).mono ?_⟩
    rintro _ w5 ⟨rfl, hO5, h5⟩
    have z5 := hO5.size
    have hO05 := hO0b.trans hO5 fun x hx => .inl hx
    dsimp only
    refine ⟨_, rfl, sm (Nat.le_refl _) hO5, _, Blk.at1 h5.blk 3 rfl, fun hi => ?_, fun hi => ?_⟩
    · have hi : (evM e d y).2 ≠ 0 := by simpa using hi
      rw [if_pos hi]
      exact ⟨rfl, hO05, h5⟩
    have hi : (evM e d y).2 = 0 := by simpa using hi
    rw [if_neg (by simp [hi])]
    rw [hi] at h5
    refine ⟨fun hk => (one1_c _ _ _).mono ?_, fun hk4 => ⟨fun ha => ?_, fun ha => ⟨fun ho => ?_, fun ho => ?_⟩⟩⟩
    · rintro _ _ ⟨rfl, rfl⟩
      rw [if_pos (by simpa using hk)]
      refine ⟨_, _, rfl, fun _ _ => rfl, (took_c h5 _).mono ?_⟩
      rintro _ w7 ⟨rfl, hO7, h7⟩
      exact ⟨_, rfl, sm z5 hO7, rfl, hO05.trans hO7 fun x hx => .inl hx, h7⟩
    · have hk4 : x.k ≠ 4 := by simpa using hk4
      have ha : x.op = 12 /\ (evM e d y).1 = 0 := by simpa using ha
      rw [if_neg hk4, if_pos ha]
      exact ⟨rfl, hO05, h5⟩
    · have hk4 : x.k ≠ 4 := by simpa using hk4
      have ha : ¬ (x.op = 12 /\ (evM e d y).1 = 0) := fun hh => by rw [hh.1, hh.2] at ha; simp at ha
      have ho : x.op = 13 /\ (evM e d y).1 ≠ 0 := by simpa using ho
      rw [if_neg hk4, if_neg ha, if_pos ho]
      exact ⟨rfl, hO05, h5⟩
    · have hk4 : x.k ≠ 4 := by simpa using hk4
      have ha : ¬ (x.op = 12 /\ (evM e d y).1 = 0) := fun hh => by rw [hh.1, hh.2] at ha; simp at ha
      have ho : ¬ (x.op = 13 /\ (evM e d y).1 ≠ 0) := fun hh => by
       have : ((x.op == 13) && ((evM e d y).1 != 0)) = true := by simp [hh.1, hh.2]
       rw [this] at ho; cases ho
      rw [if_neg hk4, if_neg ha, if_neg ho]
      obtain ⟨z, hz⟩ : ∃ z, r = [z] := by
       have : r.length = 1 := by
        rw [hy, List.length_cons] at hsl
        omega
       exact List.length_eq_one_iff.1 this
      subst hz
      dsimp only
      obtain ⟨p1, sz, f1, f2, f3⟩ := sub (i := 1) hO5 (y := z) (by rw [hy]; rfl)
      refine ⟨p1, f1, _, _, _, _, _, _, f2, (wexpr_c d h5 f3 hG).mono ?_⟩
      rintro _ w8 ⟨rfl, hO8, h8⟩
      have z8 := hO8.size
      have hO08 := hO05.trans hO8 fun x hx => .inl hx
      refine ⟨_, rfl, sm z5 hO8, _, Blk.at1 h8.blk 3 rfl, fun hi2 => ?_, fun hi2 => (do_c _ _ _ _).mono ?_⟩
      · have hi2 : (evM e d z).2 ≠ 0 := by simpa using hi2
        rw [if_pos hi2]
        exact ⟨rfl, hO08, h8⟩
      · have hi2 : (evM e d z).2 = 0 := by simpa using hi2
        rintro _ _ ⟨rfl, rfl⟩
        rw [if_neg (by simp [hi2])]
        rw [hi2] at h8
        refine ⟨_, _, rfl, fun _ _ => rfl, (took_c h8 _).mono ?_⟩
        rintro _ w10 ⟨rfl, hO10, h10⟩
        exact ⟨_, rfl, sm (by omega) hO10, rfl, hO08.trans hO10 fun x hx => .inl hx, h10⟩
theorem evM_norm (e : Env5) : ∀ (d : Nat) (x : Ex), (evM e d x).2 ≠ 0 -> (evM e d x).1 = 0
 | 0, _, _ => rfl
 | d + 1, x, h => by
  have tk : ∀ p : Int × Int, (tookA p).2 ≠ 0 -> (tookA p).1 = 0 := fun p hp => by
   unfold tookA at hp ⊢
   split
   · rfl
   · rename_i hh
     rw [if_neg hh] at hp
     exact absurd hp hh
  rw [evM] at h ⊢
  split
  · rfl
  rename_i h0
  rw [if_neg h0] at h
  split
  · rename_i h1; rw [if_pos h1] at h; exact absurd rfl h
  rename_i h1
  rw [if_neg h1] at h
  split
  · rename_i h2
    rw [if_pos h2] at h
    unfold namedA at h ⊢
    split
    · rename_i h3; rw [if_pos h3] at h; exact absurd rfl h
    · rfl
  rename_i h2
  rw [if_neg h2] at h
  split
  · rename_i h3; rw [if_pos h3] at h; exact absurd rfl h
  rename_i h3
  rw [if_neg h3] at h
  cases hs : x.subs with
  | nil => rfl
  | cons y r =>
   rw [hs] at h
   dsimp only at h ⊢
   split
   · rfl
   rename_i h4
   rw [if_neg h4] at h
   split
   · rename_i h5; rw [if_pos h5] at h; exact tk _ h
   rename_i h5
   rw [if_neg h5] at h
   split
   · rfl
   rename_i h6
   rw [if_neg h6] at h
   split
   · rename_i h7; rw [if_pos h7] at h; exact absurd rfl h
   rename_i h7
   rw [if_neg h7] at h
   cases r with
   | nil => rfl
   | cons z r =>
    dsimp only at h ⊢
    split
    · rfl
    rename_i h8
    rw [if_neg h8] at h
    exact tk _ h
theorem eval_c {d : Nat} {F G : Nat -> Prop} {e : Env5} {w : World} {sN sV sA : Sl} {x : Ex} {cs : List Value} (hx : rEx d w G x cs) (hN : SliceF rTx 1 w F sN e.N) (hV : SliceF rInt 1 w F sV e.V) (hA : SliceF rTx 1 w F sA e.A) :
  Calls Tryz.prog 9 #[.agg cs.toArray, .agg #[sN.v, sV.v, sA.v]] w fun r w' => r = .returned (.tuple #[.int .i64 (evM e d x).1, .int .i64 (evM e d x).2]) /\ Only [] w w' := by
 have hcs : ∃ sl : Sl, cs = exv x.k x.n x.s x.op sl x.a := by
  cases d with
  | zero => exact hx.elim
  | succ d => obtain ⟨sl, hcs, _⟩ := hx; exact ⟨sl, hcs⟩
 obtain ⟨sl, rfl⟩ := hcs
 refine ret (v7w x.k x.n (T x.s) x.op sl x.a sN sV sA (fun v w' => v = .tuple #[.int .i64 (evM e d x).1, .int .i64 (evM e d x).2] /\ Only [] w w') w ?_)
 unfold v7v
 intro k0 k1 k2 w0 hk0 hk0' hk1 hk1' hk2 hk2' hO0 hB0 n02 n12
 have z0 := hO0.size
 have hW : Wk (fun k => F k /\ k < w.heap.size) e w0 k2 sN sV sA 0 := ⟨hB0, SliceF.only rTx_ok (by decide) (SliceF.inHeap rTx_ok hN (by decide)) hO0 (by simp), SliceF.only rInt_ok (by decide) (SliceF.inHeap rInt_ok hV (by decide)) hO0 (by simp), SliceF.only rTx_ok (by decide) (SliceF.inHeap rTx_ok hA (by decide)) hO0 (by simp), fun k hk => by have := hk.2; omega⟩
 refine (wexpr_c d hW (rEx_only ((rEx_ok d).inHeap hx) hO0) (fun k hk => by have := hk.2; omega)).mono ?_
 rintro _ w1 ⟨rfl, hO1, h1⟩
 have hO01 : Only [] w w1 := hO0.trans hO1 fun x hx => .inr (by simp only [List.mem_singleton] at hx; omega)
 refine ⟨_, rfl, hO1.same (by simp; omega), sN, sV, sA, _, h1.blk, fun hi w2 hO2 _ => ?_, fun hi => ?_⟩
 · have hi : (evM e d x).2 ≠ 0 := by simpa using hi
   rw [evM_norm e d x hi]
   exact ⟨rfl, hO01.tr0 hO2⟩
 · have hi : (evM e d x).2 = 0 := by simpa using hi
   rw [hi]
   exact ⟨rfl, hO01⟩
theorem buildI (w : World) (l : List Int) (hl : ∀ x, x ∈ l -> InI x) {n : Nat} {parts : Array (Nat × Value)} (hp : parts = (((l.map fun x => Value.int .i64 x).zipIdx 0).map fun x => (x.2, x.1)).toArray) (hn : l.length = n) (h0 : 0 < n) (hsm : n * 1 <= 16777216) :
  ∃ s w', (Instr.buildSlice 31 n parts).run Tryz.prog w = .ok (Sl.v s) w' /\ SliceF rInt 1 w' (fun k => w.heap.size <= k) s l /\ Only [] w w' := by
 have hE : Els rInt 1 w (fun _ => False) l ((l.map fun x => Value.int .i64 x).map fun v => v.cells.toList) := by
  clear hp hn
  induction l with
  | nil => trivial
  | cons x l ih => exact ⟨⟨rfl, rfl, hl x (by simp)⟩, ih fun y hy => hl y (by simp [hy])⟩
 obtain ⟨s, w', h1, h2, h3, _⟩ := build_own (P := Tryz.prog) (t := 31) (e := 3) (i := Tryz.t3) (r := rInt) (size := 1) (by kernel_rfl) (by kernel_rfl) rfl rfl (by decide) hp (by rw [List.length_map]; exact hn) h0 hsm rInt_ok hE
 exact ⟨s, w', h1, SliceF.mono rInt_ok (h2.slice rInt_ok) fun k hk => hk.elim False.elim fun h => h.1, h3⟩
theorem buildT (w : World) (l : List (List UInt8)) {n : Nat} {parts : Array (Nat × Value)} (hp : parts = (((l.map fun x => Value.string (T x)).zipIdx 0).map fun x => (x.2, x.1)).toArray) (hn : l.length = n) (h0 : 0 < n) (hsm : n * 1 <= 16777216) :
  ∃ s w', (Instr.buildSlice 26 n parts).run Tryz.prog w = .ok (Sl.v s) w' /\ SliceF rTx 1 w' (fun k => w.heap.size <= k) s l /\ Only [] w w' := by
 obtain ⟨s, w', h1, h2, h3⟩ := buildS w l hp hn h0 hsm
 exact ⟨s, w', h1, SliceF.mono rTx_ok (flatS h2) fun k hk => hk.1, h3⟩
def evX : Ex := .mk 5 0 [] 12 [.mk 2 0 [121] 0 [] 0, .mk 5 0 [] 4 [.mk 2 0 [120] 0 [] 5, .mk 2 0 [121] 0 [] 9] 5] 0
def evY : Ex := .mk 5 0 [] 1 [.mk 5 0 [] 4 [.mk 2 0 [120] 0 [] 0, .mk 2 0 [121] 0 [] 4] 0, .mk 3 0 [115, 49] 0 [] 8] 0
def evT1 : List UInt8 := [121, 32, 38, 38, 32, 120, 32, 47, 32, 121]
def evT2 : List UInt8 := [120, 32, 47, 32, 121, 32, 43, 32, 105, 110, 40, 115, 49, 41]
theorem ev_read1 : readA evT1 = (evX, 0, 0) := by rfl
theorem ev_read2 : readA evT2 = (evY, 0, 0) := by rfl
theorem ev_1 (d : Nat) : evM ⟨[[120], [121]], [7, 0], []⟩ (d + 3) evX = (0, 0) := by rfl
theorem ev_2 (d : Nat) : (evM ⟨[[120], [121]], [7, 0], []⟩ (d + 3) evY).2 = 10 := by rfl
theorem ev_3 (d : Nat) : evM ⟨[[120], [121]], [7, 2], [[115, 49]]⟩ (d + 3) evY = (4, 0) := by rfl
theorem evsmall_c (w : World) (hE : Er w) : Calls Tryz.prog 5 #[] w fun e w' => e = .returned (.bool true) /\ Only [] w w' := by
 refine ret (v34w (fun v w' => v = .bool true /\ Only [] w w') w ?_)
 unfold v34v
 have hr := read_c evT1 hE
 rw [ev_read1] at hr
 refine hr.mono ?_
 rintro _ w0 ⟨cs, rfl, hX, hO0⟩
 have z0 := hO0.size
 obtain ⟨d1, hd1⟩ := hX.ex
 obtain ⟨xl, rfl, _⟩ := hX.cells
 refine ⟨_, _, _, _, _, _, _, _, rfl, fun k0 k1 w1 hk0 hk0' hk1 hk1' hO1 => ?_⟩
 have z1 := hO1.size
 obtain ⟨l1, w2, a2, b2, c2⟩ := buildT w1 [[120], [121]] (n := 2) (parts := #[(0, .string (T [120])), (1, .string (T [121]))]) rfl rfl (by decide) (by decide)
 have z2 := c2.size
 obtain ⟨l2, w3, a3, b3, c3⟩ := buildI w2 [7, 0] (by simp [InI]) (n := 2) (parts := #[(0, .int .i64 7), (1, .int .i64 0)]) rfl rfl (by decide) (by decide)
 have z3 := c3.size
 refine ⟨l1, w2, a2, c2.same (by simp; omega), l2, w3, a3, c3.same (by simp; omega), ?_⟩
 have hev1 := eval_c (e := ⟨[[120], [121]], [7, 0], []⟩) (F := fun _ => True) (rEx_le (Nat.le_add_right d1 3) (rEx_only hd1 ((hO1.tr0 c2).tr0 c3))) (SliceF.only rTx_ok (by decide) (SliceF.mono rTx_ok b2 fun _ _ => trivial) c3 (by simp)) (SliceF.mono rInt_ok b3 fun _ _ => trivial) (SliceF.nil rTx 1 w3 fun _ => True)
 rw [show (evM ⟨[[120], [121]], [7, 0], []⟩ (d1 + 3) (evX, 0, 0).1) = (0, 0) from ev_1 d1] at hev1
 refine hev1.mono ?_
 rintro _ w4 ⟨rfl, hO4⟩
 have z4 := hO4.size
 have hO04 := (((hO0.tr0 hO1).tr0 c2).tr0 c3).tr0 hO4
 refine ⟨_, _, rfl, hO4.same (by simp; omega), ?_⟩
 have hr2 := read_c evT2 (hE.only hO04)
 rw [ev_read2] at hr2
 refine hr2.mono ?_
 rintro _ w5 ⟨ds, rfl, hY, hO5⟩
 have z5 := hO5.size
 obtain ⟨d2, hd2⟩ := hY.ex
 obtain ⟨yl, rfl, _⟩ := hY.cells
 refine ⟨_, _, _, _, _, _, _, _, rfl, hO5.same (by simp; omega), fun k2 k3 w6 hk2 hk2' hk3 hk3' hO6 => ?_⟩
 have z6 := hO6.size
 obtain ⟨l4, w7, a7, b7, c7⟩ := buildT w6 [[120], [121]] (n := 2) (parts := #[(0, .string (T [120])), (1, .string (T [121]))]) rfl rfl (by decide) (by decide)
 have z7 := c7.size
 obtain ⟨l5, w8, a8, b8, c8⟩ := buildI w7 [7, 0] (by simp [InI]) (n := 2) (parts := #[(0, .int .i64 7), (1, .int .i64 0)]) rfl rfl (by decide) (by decide)
 have z8 := c8.size
 refine ⟨l4, w7, a7, c7.same (by simp; omega), l5, w8, a8, c8.same (by simp; omega), ?_⟩
 have hO58 := (hO6.tr0 c7).tr0 c8
 have hev2 := eval_c (e := ⟨[[120], [121]], [7, 0], []⟩) (F := fun _ => True) (rEx_le (Nat.le_add_right d2 3) (rEx_only hd2 hO58)) (SliceF.only rTx_ok (by decide) (SliceF.mono rTx_ok b7 fun _ _ => trivial) c8 (by simp)) (SliceF.mono rInt_ok b8 fun _ _ => trivial) (SliceF.nil rTx 1 w8 fun _ => True)
 refine hev2.mono ?_
 rintro _ w9 ⟨rfl, hO9⟩
 have z9 := hO9.size
 refine ⟨_, _, rfl, hO9.same (by simp; omega), ?_⟩
 obtain ⟨l6, w10, a10, b10, c10⟩ := buildT w9 [[120], [121]] (n := 2) (parts := #[(0, .string (T [120])), (1, .string (T [121]))]) rfl rfl (by decide) (by decide)
 have z10 := c10.size
 obtain ⟨l7, w11, a11, b11, c11⟩ := buildI w10 [7, 2] (by simp [InI]) (n := 2) (parts := #[(0, .int .i64 7), (1, .int .i64 2)]) rfl rfl (by decide) (by decide)
 have z11 := c11.size
 obtain ⟨l8, w12, a12, b12, c12⟩ := buildT w11 [[115, 49]] (n := 1) (parts := #[(0, .string (T [115, 49]))]) rfl rfl (by decide) (by decide)
 have z12 := c12.size
 refine ⟨l6, w10, a10, c10.same (by simp; omega), l7, w11, a11, c11.same (by simp; omega), l8, w12, a12, c12.same (by simp; omega), ?_⟩
 have hO512 := (((hO58.tr0 hO9).tr0 c10).tr0 c11).tr0 c12
 have hev3 := eval_c (e := ⟨[[120], [121]], [7, 2], [[115, 49]]⟩) (F := fun _ => True) (rEx_le (Nat.le_add_right d2 3) (rEx_only hd2 hO512)) (SliceF.only rTx_ok (by decide) (SliceF.mono rTx_ok b10 fun _ _ => trivial) (c11.tr0 c12) (by simp)) (SliceF.only rInt_ok (by decide) (SliceF.mono rInt_ok b11 fun _ _ => trivial) c12 (by simp)) (SliceF.mono rTx_ok b12 fun _ _ => trivial)
 rw [show (evM ⟨[[120], [121]], [7, 2], [[115, 49]]⟩ (d2 + 3) (evY, 0, 0).1) = (4, 0) from ev_3 d2] at hev3
 refine hev3.mono ?_
 rintro _ w13 ⟨rfl, hO13⟩
 refine ⟨_, _, rfl, hO13.same (by simp; omega), ?_, ((hO04.tr0 hO5).tr0 hO512).tr0 hO13⟩
 have : (evM ⟨[[120], [121]], [7, 0], []⟩ (d2 + 3) (evY, 0, 0).1).2 = 10 := ev_2 d2
 rw [this]
 rfl
def lenOk : Nat -> Ex -> Prop
 | 0, _ => True
 | d + 1, x => x.s.length < 4611686018427387903 /\ ∀ y, y ∈ x.subs -> lenOk d y
def cntL (f : Ex -> Nat) : List Ex -> Nat
 | [] => 0
 | x :: xs => f x + cntL f xs
def cntM : Nat -> Ex -> Nat
 | 0, _ => 0
 | d + 1, x => 1 + cntL (cntM d) x.subs
def numOk : Nat -> Ex -> Prop
 | 0, _ => True
 | d + 1, x => InI x.n /\ ∀ y, y ∈ x.subs -> numOk d y
end Go.Proofs.YtfknfhajdiccgaaGreatDoor.Con
namespace Go.Kt
open Go Go.RowKit Go.ChangeShapes Go.WideShapes
set_option linter.unusedSimpArgs false
set_option linter.unusedVariables false
def rPair {α β : Type} (r : Rp α) (q : Rp β) : Rp (α × β) := fun w F x cs => ∃ c d, cs = c ++ d /\ r w F x.1 c /\ q w F x.2 d
def rUnit : Rp Unit := fun _ _ _ cs => cs = []
section
variable {H : Type} {enc : TypeId × Value -> H} {P : Program}
theorem trodAll_stays (hl : laidOutB P = true) {W W' : World} {sp : Nat -> Bool} (hb : Below W.heap.size W W') : ∀ {ts : List TypeId} {vs : List Value} {ds : List (DataW H)} {ps : List MemPlace},
  (∀ t, t ∈ ts -> P.readableRec t = true /\ t < P.types.size) -> DataW.TrodAll enc P W 0 (fun _ => true) true ts vs ds ps -> (∀ x, x ∈ ps -> x.block < W.heap.size) -> (∀ x, x ∈ ps -> sp x.block = true) -> DataW.TrodAll enc P W' 0 sp true ts vs ds ps
 | [], vs, ds, ps, _, h, _, _ => by
  obtain ⟨rfl, rfl, rfl⟩ := trodAll_nil h
  exact trodAll_mk0
 | t :: ts, vs, ds, ps, hr, h, hlt, hsp => by
  obtain ⟨v, vs', d, ds', p, q, rfl, rfl, rfl, h1, h2⟩ := trodAll_cons h
  obtain ⟨r1, r2⟩ := hr t (by simp)
  exact trodAll_cons_mk (WideElems.Trod_stays hl r1 r2 h1 (fun x hx => hb.same (hlt x (by simp [hx]))) fun x hx => hsp x (by simp [hx]))
   (trodAll_stays hl hb (fun u hu => hr u (by simp [hu])) h2 (fun x hx => hlt x (by simp [hx])) fun x hx => hsp x (by simp [hx]))
theorem law_post {f : Func} {s : ChangeSpec} {fresh handsOn again : Bool} {W W' : World} {args : Array Value} {ds gs : List (DataW H)} {before : List MemPlace} {tb : TypeId}
  (hW : DataW.Whole enc P f.params.toList s.vars false W args.toList ds gs before) (hv : s.vars = [])
  (hres : (s.fn H (ds ++ gs)).results = [.lit (.bool true)]) (hargs : (s.fn H (ds ++ gs)).args = ds) (hvs : (s.fn H (ds ++ gs)).vars = [])
  (ht : f.resultTypes = #[tb]) (hu : P.underlying tb = some .bool) (hl : laidOutB P = true) (hread0 : (f.params.toList.all fun t => P.readableRec t && decide (t < P.types.size)) = true) (hO : Only [] W W') :
  s.post enc P f false fresh handsOn again W args (.bool true) W' := by
 have hb : Below W.heap.size W W' := hO.below (Nat.le_refl _) (by simp)
 have hread : ∀ t, t ∈ f.params.toList -> P.readableRec t = true /\ t < P.types.size := fun t ht => by simpa using List.all_eq_true.1 hread0 t ht
 have hlt := fun p hp => hW.lt p hp
 obtain ⟨p, q, hA, hV, rfl, hz, hn⟩ := id hW
 rw [hv] at hV
 obtain ⟨rfl, rfl⟩ := trodVars_none hV
 rw [List.append_nil] at *
 have hA' : ∀ sp : Nat -> Bool, (∀ x ∈ p, sp x.block = true) -> DataW.TrodAll enc P W' 0 sp true f.params.toList args.toList (s.fn H ds).args p := fun sp hsp => by
  rw [hargs]
  exact trodAll_stays hl hb hread hA (fun x hx => by simpa using hlt x hx) hsp
 have hV' : ∀ sp : Nat -> Bool, DataW.TrodVars enc P W' sp s.vars (s.fn H ds).vars [] := fun sp => by
  rw [hv, hvs]
  simp [DataW.TrodVars]
 have hres' : ∀ (b : Nat) (sp : Nat -> Bool) (hd : Bool), DataW.TrodAll enc P W' b sp hd f.resultTypes.toList ((Value.bool true).resultList f.resultTypes.size) (s.fn H ds).results [] := fun b sp hd => by
  rw [hres, ht]
  exact trodAll_cons_mk (shut_bool hu true) trodAll_mk0
 have hold : ∀ x ∈ p, (fun b => decide (b < W.heap.size)) x.block = true := fun x hx => by simpa using hlt x hx
 refine ⟨ds, [], p, [], p, [], hW, by simpa using hres' _ _ _, by simpa using hA' _ hold, by simpa using hV' _, World.keptBut_mono (fun x hx => ⟨hx, by simpa using hx⟩) (hb.frame (· ∈ p)), fun _ => ?_⟩
 refine ⟨ok_one ht rfl (okWide_bool_mk hu true), _, _, ([] ++ p) ++ [], ⟨[] ++ p, [], trodAll_append (hA' _ (fun _ _ => rfl)) (hres' _ _ _), hV' _, rfl, ?_, ?_⟩, ?_⟩
 · intro b off hp
   have hp : MemPlace.cell b off ∈ p := by simpa using hp
   rw [hb.frozen (p := ⟨b, off, none⟩) (hlt _ hp)]
   exact hz b off hp
 · intro ha
   cases ha
 · intro x hp _
   simpa using hp
variable {W : World} {base : Nat} {spare : Nat -> Bool} {held : Bool} {α : Type}
def Opens (enc : TypeId × Value -> H) (P : Program) (W : World) (base : Nat) (spare : Nat -> Bool) (held : Bool) (t : TypeId) (r : Rp α) : Prop :=
 ∀ (fuel : Nat) (cs : List Value) (x : DataW H × List MemPlace), DataW.trod enc P W base spare held fuel t cs = some x -> (∀ n, n ∈ x.1.weights P t -> n <= reachBytes) -> ∃ a : α, r W (fun _ => True) a cs
theorem opens_int {t : TypeId} (ht : P.underlying t = some (.int .i64)) : Opens enc P W base spare held t rInt := fun fuel cs x h _ => by
 obtain ⟨n, rfl, rfl, hw⟩ := DataW.trod_int ht h
 refine ⟨n, rfl, ?_⟩
 simpa [Lit.wf, IntKind.min, IntKind.max, IntKind.signed, IntKind.bits, InI] using hw
def rSl (r : Rp α) (size bytes : Nat) : Rp (List α) := fun w F xs cs => ∃ s : Sl, cs = [s.v] /\ SliceF r size w F s xs /\ xs.length * bytes <= 140737488351232
theorem weightsAll_mem {e : TypeId} : ∀ {l : List (DataW H)} {d : DataW H}, d ∈ l -> ∀ n, n ∈ d.weights P e -> n ∈ DataW.weightsAll P e l
 | d0 :: l, d, hd, n, hn => by
  simp only [DataW.weightsAll, List.mem_append]
  rcases List.mem_cons.1 hd with rfl | hd
  · exact .inl hn
  · exact .inr (weightsAll_mem hd n hn)
 | [], d, hd, _, _ => by simp at hd
theorem choose_list {β : Type} {p : Nat -> β -> Prop} : ∀ (n : Nat), (∀ i, i < n -> ∃ b, p i b) -> ∃ l : List β, l.length = n /\ ∀ i b, l[i]? = some b -> p i b
 | 0, _ => ⟨[], rfl, fun i b h => by simp at h⟩
 | n + 1, h => by
  obtain ⟨l, h1, h2⟩ := choose_list n fun i hi => h i (by omega)
  obtain ⟨b, hb⟩ := h n (by omega)
  refine ⟨l ++ [b], by simp [h1], fun i c hc => ?_⟩
  by_cases hi : i < l.length
  · rw [List.getElem?_append_left hi] at hc; exact h2 i c hc
  · rw [List.getElem?_append_right (by omega)] at hc
    have : i = n := by
     have := (List.getElem?_eq_some_iff.1 hc).1
     simp at this
     omega
    subst this
    simp [h1] at hc
    rw [<- hc]; exact hb
theorem Opens.map {β : Type} {t : TypeId} {r : Rp α} {q : Rp β} (h : Opens enc P W base spare held t r) (f : α -> β) (hf : ∀ a cs, r W (fun _ => True) a cs -> q W (fun _ => True) (f a) cs) : Opens enc P W base spare held t q := fun fuel cs x hx hw => by
 obtain ⟨a, ha⟩ := h fuel cs x hx hw
 exact ⟨f a, hf a cs ha⟩
theorem weights_of {ts : List TypeId} {ds : List (DataW H)} (h : (DataW.weightsEach P ts ds).all (· <= reachBytes) = true) (j : Nat) {t : TypeId} {d : DataW H} (ht : ts[j]? = some t) (hd : ds[j]? = some d) : ∀ n, n ∈ d.weights P t -> n <= reachBytes :=
 fun n hn => by simpa using List.all_eq_true.1 h n (DataW.weights_mem_each ht hd n hn)
end
structure IsBulk {H : Type} (B : DataW H -> Nat) : Prop where
 one : ∀ d, 1 <= B d
 sl : ∀ e s, (e.map B).sum + 1 <= B (.slice e s)
 str : ∀ b, b.length + 1 <= B (.lit (.string b))
 agg : ∀ p, (p.map B).sum + 1 <= B (.agg p)
 ptr : ∀ d, B d + 1 <= B (.ptr d)
 iface : ∀ t d, B d + 1 <= B (.iface t d)
section
variable {H : Type} {enc : TypeId × Value -> H} {P : Program} {W : World} {base : Nat} {spare : Nat -> Bool} {held : Bool} {α β : Type} {B : DataW H -> Nat}
def rStr : Rp ByteArray := fun _ _ s cs => cs = [.string s] /\ s.size <= 140737488351232
def OpensB (B : DataW H -> Nat) (enc : TypeId × Value -> H) (P : Program) (W : World) (base : Nat) (spare : Nat -> Bool) (held : Bool) (t : TypeId) (r : Rp α) (m : α -> Nat) : Prop :=
 ∀ (fuel : Nat) (cs : List Value) (x : DataW H × List MemPlace), DataW.trod enc P W base spare held fuel t cs = some x -> (∀ n, n ∈ x.1.weights P t -> n <= reachBytes) -> ∃ a : α, r W (fun _ => True) a cs /\ m a <= B x.1
theorem opensB_of (hB : IsBulk B) {t : TypeId} {r : Rp α} (h : Opens enc P W base spare held t r) : OpensB B enc P W base spare held t r fun _ => 1 := fun fuel cs x hx hw => by
 obtain ⟨a, ha⟩ := h fuel cs x hx hw
 exact ⟨a, ha, hB.one _⟩
theorem opensB_str (hB : IsBulk B) {t : TypeId} (ht : P.underlying t = some .string) : OpensB B enc P W base spare held t rStr fun s => s.size + 1 := fun fuel cs x h hw => by
 obtain ⟨s, rfl, rfl, hs⟩ := DataW.trod_string ht h
 have h1 := hw _ (by simp only [DataW.weights]; exact List.mem_cons_self)
 have e : s.data.toList.length = s.size := by rw [Array.length_toList]; rfl
 simp only [e, reachBytes] at h1
 refine ⟨s, ⟨rfl, ?_⟩, ?_⟩
 · omega
 · have := hB.str s.data.toList
   rw [e] at this
   exact this
theorem sum_le {p : α -> Nat} {g : Nat -> Nat} : ∀ {l : List α} {o : Nat}, (∀ i b, l[i]? = some b -> p b <= g (o + i)) -> (l.map p).sum <= ((List.range l.length).map fun i => g (o + i)).sum
 | [], _, _ => by simp
 | a :: l, o, h => by
  rw [List.length_cons, List.range_succ_eq_map, List.map_cons, List.map_cons, List.sum_cons, List.sum_cons, List.map_map]
  have h0 := h 0 a rfl
  have ih := sum_le (p := p) (g := g) (l := l) (o := o + 1) fun i b hb => by
   have := h (i + 1) b hb
   rw [show o + 1 + i = o + (i + 1) by omega]
   exact this
  refine Nat.add_le_add h0 (Nat.le_trans ih (Nat.le_of_eq ?_))
  congr 1
  refine List.map_congr_left fun i _ => ?_
  show g _ = g _
  congr 1
  omega
theorem opensB_slice (hB : IsBulk B) {t e : TypeId} {r : Rp α} {m : α -> Nat} {size : Nat} (ht : P.underlying t = some (.slice e)) (hs : P.cellsOf e = size) {bytes : Nat} (hb : P.bytesOf e = bytes) (he : OpensB B enc P W base spare held e r m) :
  OpensB B enc P W base spare held t (rSl r size bytes) fun xs => (xs.map m).sum + 1 := fun fuel cs x h hw => by
 subst hs
 rcases Deep.open_slice ht h with ⟨rfl, rfl⟩ | ⟨a, len, cap, mm, n, D, Pl, rfl, _, hl, hm, hmm, rfl, hel⟩
 · exact ⟨[], ⟨Sl.nil, rfl, SliceF.nil _ _ _ _, by simp⟩, hB.one _⟩
 · have hlm : len <= mm := by rw [hmm]; split <;> omega
   have hex : ∀ i, i < len -> ∃ b : α, (∃ cs', cs'.length = P.cellsOf e /\ Cells W (a.add (i * P.cellsOf e)) cs' /\ r W (fun _ => True) b cs') /\ m b <= B (D i) := fun i hi => by
    obtain ⟨cs', g1, g2⟩ := hel i (by omega)
    obtain ⟨_, g3, g4⟩ := World.cells?_some g1
    obtain ⟨b, g5, g6⟩ := he n cs' _ g2 fun k hk => hw k (by
     simp only [DataW.weights, ht, List.mem_cons, List.mem_append]
     exact .inr (.inl (weightsAll_mem (List.mem_map.2 ⟨i, List.mem_range.2 hi, rfl⟩) k hk)))
    refine ⟨b, ⟨cs', g3, fun j v hj => ?_, g5⟩, g6⟩
    rw [g4 j (by have := (List.getElem?_eq_some_iff.1 hj).1; omega)]
    exact hj
   obtain ⟨l, h1, h2⟩ := choose_list len hex
   refine ⟨l, ⟨⟨some a, len, cap⟩, rfl, ⟨h1.symm, hl, fun h => (by cases h), hm, fun j x hj => ?_⟩, ?_⟩, ?_⟩
   · obtain ⟨⟨cs', g1, g2, g3⟩, _⟩ := h2 j x hj
     exact ⟨a, cs', rfl, trivial, g1, g2, g3⟩
   · have := hw _ (by simp only [DataW.weights, ht]; exact List.mem_cons_self)
     rw [hb] at this
     simp only [List.length_map, List.length_range, reachBytes] at this
     rw [h1]
     have h3 : len * bytes <= (len + (mm - len)) * bytes := Nat.mul_le_mul_right _ (by omega)
     omega
   · have h3 := hB.sl ((List.range len).map D) ((List.range (mm - len)).map fun j => D (len + j))
     refine Nat.le_trans (Nat.succ_le_succ ?_) h3
     have h4 := sum_le (p := m) (g := fun i => B (D i)) (l := l) (o := 0) fun i b hb => by
      rw [Nat.zero_add]
      exact (h2 i b hb).2
     rw [h1] at h4
     rw [List.map_map]
     simpa [Function.comp_def] using h4
def FOpenB (B : DataW H -> Nat) (enc : TypeId × Value -> H) (P : Program) (W : World) (base : Nat) (spare : Nat -> Bool) (held : Bool) (T off : Nat) (fs : List Field) (r : Rp α) (m : α -> Nat) : Prop :=
 ∀ (n : Nat) (cs : List Value) (xs : List (DataW H × List MemPlace)), cs.length = T -> xs.length = fs.length ->
  (∀ (i : Nat) (f : Field), fs[i]? = some f -> DataW.trod enc P W base spare held n f.type ((cs.drop f.offset).take (P.cellsOf f.type)) = xs[i]?) ->
  (∀ (i : Nat) (f : Field) (x : DataW H × List MemPlace), fs[i]? = some f -> xs[i]? = some x -> ∀ k, k ∈ x.1.weights P f.type -> k <= reachBytes) -> ∃ a : α, r W (fun _ => True) a (cs.drop off) /\ m a <= (xs.map fun x => B x.1).sum
theorem foB_nil {T off : Nat} (h : T = off) : FOpenB B enc P W base spare held T off [] rUnit fun _ => 0 := fun n cs xs hl _ _ _ => ⟨(), by
 show cs.drop off = []
 exact List.drop_eq_nil_of_le (by omega), Nat.zero_le _⟩
theorem foB_cons {T off s : Nat} {f : Field} {fs : List Field} {r : Rp α} {q : Rp β} {m : α -> Nat} {m' : β -> Nat} (ho : f.offset = off) (hs : P.cellsOf f.type = s) (hr : OpensB B enc P W base spare held f.type r m) (hq : FOpenB B enc P W base spare held T (off + s) fs q m') :
  FOpenB B enc P W base spare held T off (f :: fs) (rPair r q) fun x => m x.1 + m' x.2 := fun n cs xs hl hx hf hw => by
 cases xs with
 | nil => simp at hx
 | cons x xs =>
  have h0 := hf 0 f rfl
  rw [ho, hs] at h0
  obtain ⟨a, ha, ha'⟩ := hr n _ x h0 (hw 0 f x rfl rfl)
  obtain ⟨b, hb, hb'⟩ := hq n cs xs hl (by simpa using hx) (fun i g hg => hf (i + 1) g hg) (fun i g y hg hy => hw (i + 1) g y hg hy)
  refine ⟨(a, b), ⟨_, _, by rw [<- List.drop_drop, List.take_append_drop], ha, hb⟩, ?_⟩
  rw [List.map_cons, List.sum_cons]
  exact Nat.add_le_add ha' hb'
theorem opensB_struct (hB : IsBulk B) {t : TypeId} {fs : Array Field} {T : Nat} {r : Rp α} {m : α -> Nat} (ht : P.underlying t = some (.struct fs)) (hT : P.cellsOf t = T) (hF : FOpenB B enc P W base spare held T 0 fs.toList r m) : OpensB B enc P W base spare held t r fun x => m x + 1 := fun fuel cs x h hw => by
 obtain ⟨xs, n, rfl, rfl, hl, hxl, hf⟩ := DataW.trod_struct ht h
 obtain ⟨a, ha, ha'⟩ := hF n cs xs (by omega) (by simpa using hxl) (fun i f hi => hf i f (by simpa using hi)) (fun i f x hi hx k hk => hw k (by
  simp only [DataW.weights, ht]
  refine DataW.weights_mem_each (j := i) ?_ (by rw [List.getElem?_map, hx]; rfl) k hk
  simp only [Array.toList_map, List.getElem?_map, hi]
  rfl))
 refine ⟨a, by simpa using ha, Nat.le_trans (Nat.succ_le_succ ha') ?_⟩
 have := hB.agg (xs.map (·.1))
 rwa [List.map_map] at this
theorem OpensB.map {t : TypeId} {r : Rp α} {q : Rp β} {m : α -> Nat} {m' : β -> Nat} (h : OpensB B enc P W base spare held t r m) (f : α -> β) (hf : ∀ a cs, r W (fun _ => True) a cs -> q W (fun _ => True) (f a) cs /\ m' (f a) <= m a) : OpensB B enc P W base spare held t q m' := fun fuel cs x hx hw => by
 obtain ⟨a, ha, ha'⟩ := h fuel cs x hx hw
 obtain ⟨h1, h2⟩ := hf a cs ha
 exact ⟨f a, h1, Nat.le_trans h2 ha'⟩
theorem argB_struct {t : TypeId} {fs : Array Field} {r : Rp α} {m : α -> Nat} {b0 : Nat} {v : Value} {d : DataW H} {p : List MemPlace} (ht : P.underlying t = some (.struct fs)) (hok : Value.okWide P W .any b0 t v) (h : DataW.Trod enc P W base spare held t v d p)
  (hop : OpensB B enc P W base spare held t r m) (hw : ∀ n, n ∈ d.weights P t -> n <= reachBytes) : ∃ (a : α) (cs : List Value), v = .agg cs.toArray /\ r W (fun _ => True) a cs /\ m a <= B d := by
 obtain ⟨cs, rfl, _⟩ := okWide_struct ht hok
 obtain ⟨fuel, hf⟩ := h
 obtain ⟨a, ha, ha'⟩ := hop fuel _ _ hf hw
 exact ⟨a, cs.toList, by simp, ha, ha'⟩
theorem sum_one : ∀ l : List α, (l.map fun _ => 1).sum = l.length
 | [] => rfl
 | _ :: l => by rw [List.map_cons, List.sum_cons, sum_one l, List.length_cons]; omega
end
end Go.Kt
namespace Go.Proofs.YtfknfhajdiccgaaGreatDoor.Con
open Go Go.RowKit Go.Kt Go.Kt.V Go.Proofs.YtfknfhajdiccgaaGreatDoor.Vc Go.ChangeShapes Go.WideShapes
set_option linter.unusedSimpArgs false
set_option linter.unusedVariables false
set_option maxHeartbeats 4000000
set_option maxRecDepth 100000
def rExU : Rp (Ex × Nat) := fun w F x cs => ∃ d, rEx d w F x.1 cs /\ ∀ e, lenOk e x.1 /\ numOk e x.1 /\ cntM e x.1 <= x.2
theorem lift_l {D : Type} {B : D -> Nat} {Q : Nat -> Ex -> Nat -> Prop} : ∀ (xs : List D) (o : Nat), (∀ j y, xs[j]? = some y -> ∃ e dj, Q (o + j) e dj /\ ∀ d, cntM d e <= B y) ->
  ∃ l : List (Ex × Nat), l.length = xs.length /\ (∀ j p, l[j]? = some p -> Q (o + j) p.1 p.2) /\ ∀ d, cntL (cntM d) (l.map (·.1)) <= (xs.map B).sum
 | [], o, _ => ⟨[], rfl, fun j p h => by simp at h, fun d => Nat.le_refl _⟩
 | x :: xs, o, h => by
  obtain ⟨e, dj, h1, h2⟩ := h 0 x rfl
  obtain ⟨l, h3, h4, h5⟩ := lift_l xs (o + 1) fun j y hj => by
   have := h (j + 1) y hj
   rwa [Nat.add_assoc, Nat.add_comm 1 j]
  refine ⟨(e, dj) :: l, by rw [List.length_cons, List.length_cons, h3], fun j p hj => ?_, fun d => ?_⟩
  · cases j with
    | zero =>
     simp only [List.getElem?_cons_zero, Option.some.injEq] at hj
     subst hj
     exact h1
    | succ j =>
     have := h4 j p hj
     rwa [Nat.add_assoc, Nat.add_comm 1 j] at this
  · rw [List.map_cons, cntL, List.map_cons, List.sum_cons]
    exact Nat.add_le_add (h2 d) (h5 d)
theorem mem_sum {n : Nat} : ∀ {l : List Nat}, n ∈ l -> n <= l.sum
 | [], h => by simp at h
 | x :: l, h => by
  rw [List.sum_cons]
  rcases List.mem_cons.1 h with rfl | h
  · omega
  · have := mem_sum h; omega
theorem le_top : ∀ (l : List (Ex × Nat)), ∃ m, ∀ p, p ∈ l -> p.2 <= m
 | [] => ⟨0, fun p h => by simp at h⟩
 | x :: l => by
  obtain ⟨m, h⟩ := le_top l
  refine ⟨max x.2 m, fun p hp => ?_⟩
  rcases List.mem_cons.1 hp with rfl | hp
  · exact Nat.le_max_left _ _
  · exact Nat.le_trans (h p hp) (Nat.le_max_right _ _)
section
variable {H : Type} {enc : TypeId × Value -> H} {W : World} {base : Nat} {spare : Nat -> Bool} {held : Bool} {B : DataW H -> Nat}
def rTr (enc : TypeId × Value -> H) (W : World) (base : Nat) (spare : Nat -> Bool) (held : Bool) : Rp (DataW H) := fun _ _ x cs => ∃ fuel p, DataW.trod enc Tryz.prog W base spare held fuel 24 cs = some (x, p) /\ ∀ n, n ∈ x.weights Tryz.prog 24 -> n <= reachBytes
theorem opensB_tr (hB : IsBulk B) : OpensB B enc Tryz.prog W base spare held 24 (rTr enc W base spare held) B := fun fuel cs x h hw => ⟨x.1, ⟨fuel, x.2, h, hw⟩, Nat.le_refl _⟩
theorem opensB_one (hB : IsBulk B) : OpensB B enc Tryz.prog W base spare held 24 (rPair rInt (rPair rInt (rPair rStr (rPair rInt (rPair (rSl (rTr enc W base spare held) 6 72) (rPair rInt rUnit))))))
  fun x => (1 + (1 + ((x.2.2.1.size + 1) + (1 + (((x.2.2.2.2.1.map B).sum + 1) + (1 + 0)))))) + 1 := by
 have h := opensB_struct (enc := enc) (P := Tryz.prog) (W := W) (base := base) (spare := spare) (held := held) (T := 6) hB Tryz.underlying24 (by kernel_rfl)
   (foB_cons (s := 1) rfl (by kernel_rfl) (opensB_of hB (opens_int Tryz.underlying3)) (foB_cons (s := 1) rfl (by kernel_rfl) (opensB_of hB (opens_int Tryz.underlying3)) (foB_cons (s := 1) rfl (by kernel_rfl) (opensB_str hB Tryz.underlying9) (foB_cons (s := 1) rfl (by kernel_rfl) (opensB_of hB (opens_int Tryz.underlying3)) (foB_cons (s := 1) rfl (by kernel_rfl) (opensB_slice (size := 6) (bytes := 72) hB Tryz.underlying22 (by kernel_rfl) (by kernel_rfl) (opensB_tr hB)) (foB_cons (s := 1) rfl (by kernel_rfl) (opensB_of hB (opens_int Tryz.underlying3)) (foB_nil rfl)))))))
 exact h
theorem tree_of (hB : IsBulk B) : ∀ (N : Nat) {x : DataW H} {cs : List Value} {F : Nat -> Prop}, B x <= N -> rTr enc W base spare held W F x cs -> ∃ e d, rEx d W (fun _ => True) e cs /\ ∀ d, lenOk d e /\ numOk d e /\ cntM d e <= B x
 | 0, x, cs, F, h, _ => by have := hB.one x; omega
 | N + 1, x, cs, F, h, ⟨fuel, p, ht, hw⟩ => by
  obtain ⟨⟨k, n, s, op, xs, a, u⟩, hr, hm⟩ := opensB_one (enc := enc) (W := W) (base := base) (spare := spare) (held := held) hB fuel cs (x, p) ht hw
  obtain ⟨c1, r1, rfl, ⟨rfl, i1⟩, c2, r2, rfl, ⟨rfl, i2⟩, c3, r3, rfl, ⟨rfl, i3⟩, c4, r4, rfl, ⟨rfl, i4⟩, c5, r5, rfl, ⟨sl, rfl, hsl, _⟩, c6, r6, rfl, ⟨rfl, i6⟩, hu⟩ := hr
  have hu : r6 = [] := hu
  subst hu
  dsimp only at hm hsl i1 i2 i3
  have hsum : ∀ y, y ∈ xs -> B y <= (xs.map B).sum := fun y hy => mem_sum (List.mem_map_of_mem hy)
  obtain ⟨l, l1, l2, l3⟩ := lift_l (B := B) (Q := fun j e dj => ∃ base cs, sl.a = some base /\ cs.length = 6 /\ Cells W (base.add (j * 6)) cs /\ rEx dj W (fun _ => True) e cs /\ ∀ d, lenOk d e /\ numOk d e) xs 0 fun j y hj => by
   rw [Nat.zero_add]
   obtain ⟨bs, ds, g1, g2, g3, g4, g5⟩ := hsl.at_ j y hj
   obtain ⟨e, d, t1, t2⟩ := tree_of hB N (x := y) (by have := hsum y (List.mem_of_getElem? hj); omega) g5
   exact ⟨e, d, ⟨bs, ds, g1, g3, g4, t1, fun d => ⟨(t2 d).1, (t2 d).2.1⟩⟩, fun d => (t2 d).2.2⟩
  obtain ⟨m, hmx⟩ := le_top l
  refine ⟨.mk k n s.data.toList op (l.map (·.1)) a, m + 1, ⟨sl, ?_, ?_⟩, fun d => ?_⟩
  · have e : exv k n s.data.toList op sl a = [.int .i64 k, .int .i64 n, .string s, .int .i64 op, sl.v, .int .i64 a] := by
     show [_, _, Value.string (T s.data.toList), _, _, _] = _
     rw [<- T_of s]
    exact e.symm
  · refine ⟨by rw [Ex.subs, List.length_map, l1]; exact hsl.len, hsl.cap, hsl.nil0, hsl.big, fun j e hj => ?_⟩
    rw [Ex.subs, List.getElem?_map, Option.map_eq_some_iff] at hj
    obtain ⟨q, q1, rfl⟩ := hj
    obtain ⟨bs, ds, g1, g2, g3, g4, g5⟩ := l2 j q q1
    rw [Nat.zero_add] at g3
    exact ⟨bs, ds, g1, trivial, g2, g3, rEx_le (hmx q (List.mem_of_getElem? q1)) g4⟩
  · have hsz : s.data.toList.length = s.size := by rw [Array.length_toList]; rfl
    have all : ∀ e, e ∈ l.map (·.1) -> ∀ d, lenOk d e /\ numOk d e := fun e he => by
     obtain ⟨q, q1, rfl⟩ := List.mem_map.1 he
     obtain ⟨j, hj⟩ := List.getElem?_of_mem q1
     obtain ⟨bs, ds, g1, g2, g3, g4, g5⟩ := l2 j q hj
     exact g5
    cases d with
    | zero => exact ⟨trivial, trivial, Nat.zero_le _⟩
    | succ d =>
     refine ⟨⟨?_, fun y hy => (all y hy d).1⟩, ⟨i2, fun y hy => (all y hy d).2⟩, ?_⟩
     · show s.data.toList.length < _
       rw [hsz]
       omega
     · rw [cntM]
       have := l3 d
       show 1 + cntL (cntM d) (l.map (·.1)) <= _
       omega
theorem opensB_ex (hB : IsBulk B) : OpensB B enc Tryz.prog W base spare held 24 rExU fun x => x.2 := fun fuel cs x h hw => by
 obtain ⟨e, d, h1, h2⟩ := tree_of hB (B x.1) (x := x.1) (F := fun _ => True) (Nat.le_refl _) ⟨fuel, x.2, h, hw⟩
 exact ⟨(e, B x.1), ⟨d, h1, h2⟩, Nat.le_refl _⟩
end
end Go.Proofs.YtfknfhajdiccgaaGreatDoor.Con
namespace Go.Kt
open Go Go.RowKit Go.MapKept
set_option linter.unusedSimpArgs false
set_option linter.unusedVariables false
structure KeyV {κ : Type} (d : TypeDesc) (kv : κ -> Value) (g : κ -> Prop) : Prop where
 is : ∀ k, IsKey d (kv k)
 inj : ∀ {k l}, kv k = kv l -> k = l
structure MapV {κ : Type} (kv : κ -> Value) (g : κ -> Prop) (w : World) (r : Nat) (m : κ -> Option Value) (n : Nat) : Prop where
 mem : ∃ es clock, w.heap[r]? = some (.map es clock) /\ Stamped es clock /\ es.size <= n /\ (∀ x, x ∈ es.toList -> ∃ k, x.key = kv k /\ g k) /\
  ∀ k v, m k = some v ↔ ∃ x, x ∈ es.toList /\ x.key = kv k /\ x.val = v
section
variable {κ : Type} {d : TypeDesc} {kv : κ -> Value} {g : κ -> Prop} {P : Program} {w w' : World} {r n : Nat} {m : κ -> Option Value} {mty kt et : TypeId}
theorem MapV.keep (h : MapV kv g w r m n) (hk : w'.heap[r]? = w.heap[r]?) : MapV kv g w' r m n := by
 obtain ⟨es, c, h1, h2⟩ := h.mem
 exact ⟨es, c, hk.trans h1, h2⟩
theorem MapV.le (h : MapV kv g w r m n) {n' : Nat} (hn : n <= n') : MapV kv g w r m n' := by
 obtain ⟨es, c, h1, h2, h3, h4⟩ := h.mem
 exact ⟨es, c, h1, h2, Nat.le_trans h3 hn, h4⟩
theorem MapV.lt (h : MapV kv g w r m n) : r < w.heap.size := by
 obtain ⟨es, c, h1, h2⟩ := h.mem
 exact (Array.getElem?_eq_some_iff.1 h1).1
theorem MapV.only (h : MapV kv g w r m n) {bs : List Nat} (hO : Only bs w w') (hn : r ∉ bs) : MapV kv g w' r m n := h.keep (hO.block r h.lt hn)
theorem MapV.ext (h : MapV kv g w r m n) {m' : κ -> Option Value} (he : ∀ k, m' k = m k) : MapV kv g w r m' n := by
 obtain ⟨es, c, h1, h2, h3, h4, h5⟩ := h.mem
 exact ⟨es, c, h1, h2, h3, h4, fun k v => by rw [he, h5]⟩
theorem MapV.ok (h : MapV kv g w r m n) (K : KeyV d kv g) {k : κ} (hk : m k ≠ none) : g k := by
 obtain ⟨es, c, h1, h2, h3, h4, h5⟩ := h.mem
 cases hm : m k with
 | none => exact absurd hm hk
 | some v =>
  obtain ⟨x, hx, e1, _⟩ := (h5 k v).1 hm
  obtain ⟨l, e2, hl⟩ := h4 x hx
  rwa [K.inj (e1.symm.trans e2)]
theorem MapV.make (w : World) : (Instr.makeMap mty none).run P w = .ok (.map (some w.heap.size)) (w.alloc (.map #[] 0)) /\ MapV kv g (w.alloc (.map #[] 0)) w.heap.size (fun _ => none) 0 /\ Only [] w (w.alloc (.map #[] 0)) :=
 ⟨rfl, ⟨#[], 0, heap_alloc_new w _, stamped_empty 0, by simp, by simp, by simp⟩, Only.alloc _ _⟩
theorem keysV (K : KeyV d kv g) {es : Array MapEntry} (h : ∀ x, x ∈ es.toList -> ∃ k, x.key = kv k /\ g k) : ∀ x ∈ es.toList, IsKey d x.key := fun x hx => by
 obtain ⟨k, e, _⟩ := h x hx
 rw [e]; exact K.is k
theorem MapV.lookup (K : KeyV d kv g) (hm : P.underlying mty = some (.map kt et)) (hd : P.underlying kt = some d) {z : Value} (hz : ∀ w, (zeroValue et).run P w = .ok z w) (h : MapV kv g w r m n) (k : κ) :
  (Instr.lookup mty (.map (some r)) (kv k) false).run P w = .ok ((m k).getD z) w := by
 obtain ⟨es, c, h1, h0, hn, h2, h4⟩ := h.mem
 rcases findNow_spec (K.is k) es.toList 0 (keysV K h2) with ⟨g1, g2⟩ | ⟨j, e, g1, g2, g3⟩
 · have hn : m k = none := by
    cases hmk : m k with
    | none => rfl
    | some v =>
     obtain ⟨x, hx, hk, _⟩ := (h4 k v).1 hmk
     exact absurd hk (g2 x hx)
   simp [Instr.lookup, run_underlying hm, MapKept.run_getObj_map h1, MapKept.run_checkKey hd (K.is k), MapKept.run_findKey hd g1, Result.andThen, hz, hn]
 · have he := List.mem_of_getElem? g2
   have hmk : m k = some e.val := (h4 k e.val).2 ⟨e, he, g3, rfl⟩
   simp [Instr.lookup, run_underlying hm, MapKept.run_getObj_map h1, MapKept.run_checkKey hd (K.is k), MapKept.run_findKey hd g1, Result.andThen, hmk]
variable [DecidableEq κ]
theorem MapV.update (K : KeyV d kv g) (hm : P.underlying mty = some (.map kt et)) (hd : P.underlying kt = some d) (h : MapV kv g w r m n) {k : κ} (hg : g k) (v : Value) :
  ∃ w', (Instr.mapUpdate mty (.map (some r)) (kv k) v).run P w = .ok () w' /\ MapV kv g w' r (fun x => if x = k then some v else m x) (if m k = none then n + 1 else n) /\ Only [r] w w' := by
 obtain ⟨es, c, h1, h0, hn, h2, h4⟩ := h.mem
 have fin : ∀ {es' : Array MapEntry} {c' n' : Nat}, Stamped es' c' -> es'.size <= n' -> (∀ x, x ∈ es'.toList -> ∃ k, x.key = kv k /\ g k) ->
   (∀ k' v', (∃ x, x ∈ es'.toList /\ x.key = kv k' /\ x.val = v') ↔ (k' = k /\ v' = v) ∨ (k' ≠ k /\ m k' = some v')) -> ∀ w', w'.heap[r]? = some (.map es' c') -> MapV kv g w' r (fun x => if x = k then some v else m x) n' := by
  intro es' c' n' e0 en e1 e3 w' hw
  refine ⟨es', c', hw, e0, en, e1, fun k' v' => ?_⟩
  rw [e3]
  by_cases hkk : k' = k
  · simp only [hkk, if_true, Option.some.injEq, true_and, ne_eq, not_true_eq_false, false_and, or_false]
    exact ⟨fun h => h.symm, fun h => h.symm⟩
  · simp only [if_neg hkk, hkk, false_and, false_or, ne_eq, not_false_eq_true, true_and, if_false]
 rcases findNow_spec (K.is k) es.toList 0 (keysV K h2) with ⟨g1, g2⟩ | ⟨j, e, g1, g2, g3⟩
 · have hmk : m k = none := by
    cases hq : m k with
    | none => rfl
    | some v =>
     obtain ⟨x, hx, hk, _⟩ := (h4 k v).1 hq
     exact absurd hk (g2 x hx)
   rw [if_pos hmk]
   refine ⟨{ w with heap := w.heap.setIfInBounds r (.map (es.push { key := kv k, val := v, born := c }) (c + 1)) }, ?_, fin (stamped_push h0 g2) (by simp; omega) ?_ ?_ _ (heap_set h1).1, only_set h1⟩
   · simp [Instr.mapUpdate, run_underlying hm, MapKept.run_getObj_map h1, MapKept.run_checkKey hd (K.is k), MapKept.run_findKey hd g1, MapKept.run_setObj_map _ h1, Result.andThen]
   · intro x hx
     simp only [Array.toList_push, List.mem_append, List.mem_singleton] at hx
     rcases hx with hx | rfl
     · exact h2 x hx
     · exact ⟨k, rfl, hg⟩
   · intro k' v'
     simp only [Array.toList_push, List.mem_append, List.mem_singleton]
     constructor
     · rintro ⟨x, hx | rfl, e1, e2⟩
       · exact .inr ⟨fun h => g2 x hx (by rw [e1, h]), (h4 k' v').2 ⟨x, hx, e1, e2⟩⟩
       · exact .inl ⟨(K.inj e1).symm, e2.symm⟩
     · rintro (⟨rfl, rfl⟩ | ⟨hn, h⟩)
       · exact ⟨_, .inr rfl, rfl, rfl⟩
       · obtain ⟨x, hx, e1, e2⟩ := (h4 k' v').1 h
         exact ⟨x, .inl hx, e1, e2⟩
 · have hj : es[j]? = some e := by simpa using g2
   have hjl : j < es.toList.length := (List.getElem?_eq_some_iff.1 g2).1
   have hmk : m k ≠ none := by rw [(h4 k e.val).2 ⟨e, List.mem_of_getElem? g2, g3, rfl⟩]; simp
   have h3 := ((stamped_iff _ _).1 h0).2.2
   rw [if_neg hmk]
   refine ⟨{ w with heap := w.heap.setIfInBounds r (.map (es.modify j fun e => { e with key := kv k, val := v }) c) }, ?_,
    fin (stamped_modify h0 j (fun e => { e with key := kv k, val := v }) (fun _ _ => rfl) (fun e' _ he => by rw [hj] at he; injection he with he; rw [<- he]; exact g3.symm)) (by simpa using hn) ?_ ?_ _ (heap_set h1).1, only_set h1⟩
   · simp [Instr.mapUpdate, run_underlying hm, MapKept.run_getObj_map h1, MapKept.run_checkKey hd (K.is k), MapKept.run_findKey hd g1, hj, g3, MapKept.run_keyThatStays (K.is k), MapKept.run_setObj_map _ h1, Result.andThen]
   all_goals rw [Array.toList_modify, modify_set g2]
   · intro x hx
     rcases List.mem_or_eq_of_mem_set hx with hx | rfl
     · exact h2 x hx
     · exact ⟨k, rfl, hg⟩
   · intro k' v'
     constructor
     · rintro ⟨x, hx, e1, e2⟩
       obtain ⟨i, hi⟩ := List.getElem?_of_mem hx
       rw [List.getElem?_set] at hi
       split at hi
       · injection hi with hi
         rw [<- hi] at e1 e2
         exact .inl ⟨(K.inj e1).symm, e2.symm⟩
       · rename_i hij
         have hxm := List.mem_of_getElem? hi
         by_cases hkk : k' = k
         · have hil := (List.getElem?_eq_some_iff.1 hi).1
           have hne := List.pairwise_iff_getElem.1 h3
           have ex := (List.getElem?_eq_some_iff.1 hi).2
           have ee := (List.getElem?_eq_some_iff.1 g2).2
           exfalso
           rcases Nat.lt_or_gt_of_ne hij with hlt | hgt
           · exact hne j i hjl hil hlt (by rw [ee, ex, g3, e1, hkk])
           · exact hne i j hil hjl hgt (by rw [ee, ex, g3, e1, hkk])
         · exact .inr ⟨hkk, (h4 k' v').2 ⟨x, hxm, e1, e2⟩⟩
     · rintro (⟨rfl, rfl⟩ | ⟨hn, h⟩)
       · exact ⟨_, List.mem_set hjl _, rfl, rfl⟩
       · obtain ⟨x, hx, e1, e2⟩ := (h4 k' v').1 h
         obtain ⟨i, hi⟩ := List.getElem?_of_mem hx
         refine ⟨x, List.mem_of_getElem? (i := i) ?_, e1, e2⟩
         rw [List.getElem?_set_ne]
         · exact hi
         · rintro rfl
           rw [g2] at hi
           injection hi with hi
           rw [<- hi, g3] at e1
           exact hn (K.inj e1).symm
theorem MapV.delete (K : KeyV d kv g) (hm : P.underlying mty = some (.map kt et)) (hd : P.underlying kt = some d) (h : MapV kv g w r m n) (k : κ) (ty : TypeId) :
  ∃ w', (Builtin.delete_ #[mty, kt] ty #[.map (some r), kv k]).run P w = .ok (.tuple #[]) w' /\ MapV kv g w' r (fun x => if x = k then none else m x) n /\ Only [r] w w' := by
 obtain ⟨es, c, h1, h0, hn, h2, h4⟩ := h.mem
 have h3 := ((stamped_iff _ _).1 h0).2.2
 rcases findNow_spec (K.is k) es.toList 0 (keysV K h2) with ⟨g1, g2⟩ | ⟨j, e, g1, g2, g3⟩
 · refine ⟨{ w with heap := w.heap.setIfInBounds r (.map es c) }, ?_, ⟨_, _, (heap_set h1).1, h0, hn, h2, ?_⟩, only_set h1⟩
   · simp [Builtin.delete_, run_underlying hm, MapKept.run_getObj_map h1, MapKept.run_checkKey hd (K.is k), MapKept.run_findKey hd g1, MapKept.run_setObj_map _ h1, Result.andThen]
   · intro k' v'
     by_cases hk : k' = k
     · subst hk
       simp only [if_true]
       constructor
       · intro h; cases h
       · rintro ⟨x, hx, e1, _⟩
         exact absurd e1 (g2 x hx)
     · rw [if_neg hk, h4]
 · have hjl : j < es.toList.length := (List.getElem?_eq_some_iff.1 g2).1
   have hje := (List.getElem?_eq_some_iff.1 g2).2
   have hes : (es.eraseIdxIfInBounds j).toList = es.toList.eraseIdx j := by
    unfold Array.eraseIdxIfInBounds
    rw [dif_pos (by simpa using hjl), Array.toList_eraseIdx]
   have hsz : (es.eraseIdxIfInBounds j).size <= n := by
    rw [<- Array.length_toList, hes]
    exact Nat.le_trans (List.Sublist.length_le (List.eraseIdx_sublist _ _)) (by simpa using hn)
   refine ⟨{ w with heap := w.heap.setIfInBounds r (.map (es.eraseIdxIfInBounds j) c) }, ?_, ⟨_, _, (heap_set h1).1, stamped_erase h0 j, hsz, ?_, ?_⟩, only_set h1⟩
   · simp [Builtin.delete_, run_underlying hm, MapKept.run_getObj_map h1, MapKept.run_checkKey hd (K.is k), MapKept.run_findKey hd g1, MapKept.run_setObj_map _ h1, Result.andThen]
   · rw [hes]
     exact fun x hx => h2 x ((List.eraseIdx_sublist _ _).subset hx)
   · intro k' v'
     rw [hes]
     have hne := List.pairwise_iff_getElem.1 h3
     by_cases hk : k' = k
     · subst hk
       simp only [if_true]
       constructor
       · intro h; cases h
       · rintro ⟨x, hx, e1, _⟩
         rw [List.mem_eraseIdx_iff_getElem] at hx
         obtain ⟨i, hi, hij, hxe⟩ := hx
         rcases Nat.lt_or_gt_of_ne hij with hlt | hgt
         · exact absurd (by rw [hje, hxe, e1, g3]) (hne i j hi hjl hlt)
         · exact absurd (by rw [hje, hxe, e1, g3]) (hne j i hjl hi hgt)
     · rw [if_neg hk, h4]
       constructor
       · rintro ⟨x, hx, e1, e2⟩
         refine ⟨x, ?_, e1, e2⟩
         rw [List.mem_eraseIdx_iff_getElem]
         obtain ⟨i, hi, hxe⟩ := List.getElem_of_mem hx
         refine ⟨i, hi, ?_, hxe⟩
         rintro rfl
         rw [hje] at hxe
         rw [<- hxe, g3] at e1
         exact hk (K.inj e1).symm
       · rintro ⟨x, hx, e1, e2⟩
         exact ⟨x, (List.eraseIdx_sublist _ _).subset hx, e1, e2⟩
end
abbrev kS (s : List UInt8) : Value := .string ⟨s.toArray⟩
abbrev gS (s : List UInt8) : Prop := s.length <= maxLen
theorem keyS : KeyV .string kS gS := ⟨fun _ => trivial, fun h => by simpa using h⟩
abbrev kN (k : Int) : Value := .int .i64 k
theorem keyN : KeyV (.int .i64) kN (fun _ => True) := ⟨fun _ => rfl, fun h => by simpa using h⟩
section
variable {P : Program} {w : World} {r n : Nat} {m : List UInt8 -> Option Value} {kt : TypeId}
open Go.WideElems (Fit rd rg rd_mk rg_of)
theorem MapV.owns (hk : P.underlying kt = some .string) (h : MapV kS gS w r m n) (hn : n <= maxLen) : ∃ D : DataW Nat, World.ownsMap w P kt (fun _ => some (.nil, [])) r n D /\ Go.Maps.size D <= n /\ (Go.strKeys D).Nodup /\ ∀ k, k ∈ Go.strKeys D ↔ (m k).isSome = true := by
 obtain ⟨es, c, h1, h0, hs, h2, h4⟩ := h.mem
 have hkey : ∀ x, x ∈ es.toList -> ∃ k, x.key = kS k /\ keyOf P kt x.key = some (.string k) := fun x hx => by
  obtain ⟨k, e, hg⟩ := h2 x hx
  refine ⟨k, e, ?_⟩
  rw [e]
  have hl : (⟨k.toArray⟩ : ByteArray).size <= maxLen := by
   show k.toArray.size <= maxLen
   simpa using hg
  simp [keyOf, hk, mapKey, kS, hl]
 have hrd : ∀ x, x ∈ es.toList -> ∃ k, x.key = kS k /\ rd P kt (H := Nat) (fun _ => some (.nil, [])) x = some (.string k, .nil) := fun x hx => by
  obtain ⟨k, e, h⟩ := hkey x hx
  exact ⟨k, e, by simp [rd, h]⟩
 have hp : (Go.strKeys (.map ((es.toList.map (rg P kt (H := Nat) fun _ => some (.nil, []))).foldr DataW.insert []))).Perm (es.toList.map fun x => Go.strOf (rg P kt (H := Nat) (fun _ => some (.nil, [])) x).1) := by
  have := (Go.WideShapes.sorted_perm (es.toList.map (rg P kt (H := Nat) fun _ => some (.nil, [])))).map fun p => Go.strOf p.1
  rw [List.map_map] at this
  exact this
 refine ⟨_, ⟨es, c, h1, ⟨Nat.le_trans hs hn, h0, fun x hx => ?_⟩, hs, rfl⟩, ?_, ?_, ?_⟩
 · obtain ⟨k, _, e⟩ := hrd x hx
   exact ⟨_, e⟩
 · rw [Go.Maps.size_eq, (Go.WideShapes.sorted_perm _).length_eq]
   simpa using hs
 · rw [hp.nodup_iff]
   refine List.pairwise_map.2 (((stamped_iff _ _).1 h0).2.2.imp_of_mem ?_)
   intro x y hx hy hxy he
   obtain ⟨k, e1, e2⟩ := hrd x hx
   obtain ⟨l, e3, e4⟩ := hrd y hy
   rw [rg_of e2, rg_of e4] at he
   simp only [Go.strOf] at he
   exact hxy (by rw [e1, e3, he])
 · intro k
   rw [hp.mem_iff, List.mem_map]
   constructor
   · rintro ⟨x, hx, e⟩
     obtain ⟨l, e1, e2⟩ := hrd x hx
     rw [rg_of e2] at e
     simp only [Go.strOf] at e
     subst e
     rw [(h4 l x.val).2 ⟨x, hx, e1, rfl⟩]; rfl
   · intro hs
     obtain ⟨v, hv⟩ := Option.isSome_iff_exists.1 hs
     obtain ⟨x, hx, e1, _⟩ := (h4 k v).1 hv
     obtain ⟨l, e2, e3⟩ := hrd x hx
     refine ⟨x, hx, ?_⟩
     rw [rg_of e3]
     exact keyS.inj (e2.symm.trans e1)
theorem sorted_is {L ss : List (List UInt8)} (hL : L.Pairwise (· < ·)) (hs : ss.Nodup) (he : ∀ k, k ∈ ss ↔ k ∈ L) : ss.mergeSort (fun x y => decide (x <= y)) = L := by
 have hp : ss.Perm L := (List.perm_ext_iff_of_nodup hs (hL.imp fun h e => by subst e; exact absurd h (List.lt_irrefl _))).2 he
 rw [Go.mergeSort_of_perm hp]
 refine List.mergeSort_of_pairwise (hL.imp fun h => ?_)
 simp only [decide_eq_true_eq]
 exact List.le_of_lt h
end
end Go.Kt
namespace Go.Proofs
open Go.Shelf
def Tryz.keysM_ren : Go.Shelf.Ren := ⟨fun | 7 => 13 | 10 => 20 | n => n, fun | 23 => 42 | 26 => 9 | 3 => 4 | 28 => 47 | 0 => 0 | 27 => 46 | 33 => 62 | 4 => 4 | n => n, fun | n => n⟩
theorem Tryz.keysM : Go.Proofs.SlLaysZ.n7 Tryz.prog Tryz.keysM_ren := {
 mixed := by kernel_rfl
 f7 := ⟨Tryz.f13.name, by decide, Tryz.func13.trans (congrArg some (by kernel_rfl))⟩
 f10 := ⟨Tryz.f20.name, by decide, Tryz.func20.trans (congrArg some (by kernel_rfl))⟩
 t0 := Tryz.underlying0
 a0 := Tryz.isAgg0
 z0 := Tryz.sizeOf0
 v0 := Tryz.zeroValue0
 t4 := Tryz.underlying4
 a4 := Tryz.isAgg4
 z4 := Tryz.sizeOf4
 v4 := Tryz.zeroValue4
 t23 := Tryz.underlying42
 a23 := Tryz.isAgg42
 z23 := Tryz.sizeOf42
 v23 := Tryz.zeroValue42
 t26 := Tryz.underlying9
 a26 := Tryz.isAgg9
 z26 := Tryz.sizeOf9
 v26 := Tryz.zeroValue9
 t27 := Tryz.underlying46
 a27 := Tryz.isAgg46
 z27 := Tryz.sizeOf46
 v27 := Tryz.zeroValue46
 t28 := Tryz.underlying47
 a28 := Tryz.isAgg47
 z28 := Tryz.sizeOf47
 v28 := Tryz.zeroValue47
 t33 := Tryz.underlying62
 a33 := Tryz.isAgg62
 z33 := Tryz.sizeOf62
 v33 := Tryz.zeroValue62 }
def Tryz.sortedM_ren : Go.Shelf.Ren := ⟨fun | 6 => 12 | 8 => 18 | 9 => 19 | 11 => 38 | 13 => 40 | 12 => 39 | 23 => 65 | 24 => 66 | 14 => 56 | 15 => 57 | 16 => 58 | 17 => 59 | 18 => 60 | 19 => 61 | 20 => 62 | 21 => 63 | 22 => 64 | 25 => 81 | 26 => 82 | 27 => 83 | 28 => 84 | 29 => 85 | 30 => 86 | 31 => 93 | n => n, fun | 26 => 9 | 28 => 47 | 24 => 26 | 0 => 0 | 3 => 3 | 37 => 89 | 48 => 111 | 50 => 113 | 4 => 4 | 40 => 104 | 39 => 103 | 45 => 108 | 5 => 5 | 9 => 9 | 51 => 123 | 55 => 127 | 57 => 136 | 58 => 137 | 33 => 62 | n => n, fun | n => n⟩
theorem Tryz.sortedM : Go.Proofs.SlLaysZ.n6 Tryz.prog Tryz.sortedM_ren := {
 mixed := by kernel_rfl
 f6 := ⟨Tryz.f12.name, by decide, Tryz.func12.trans (congrArg some (by kernel_rfl))⟩
 f8 := ⟨Tryz.f18.name, by decide, Tryz.func18.trans (congrArg some (by kernel_rfl))⟩
 f11 := ⟨Tryz.f38.name, by decide, Tryz.func38.trans (congrArg some (by kernel_rfl))⟩
 t0 := Tryz.underlying0
 a0 := Tryz.isAgg0
 z0 := Tryz.sizeOf0
 v0 := Tryz.zeroValue0
 t24 := Tryz.underlying26
 a24 := Tryz.isAgg26
 z24 := Tryz.sizeOf26
 v24 := Tryz.zeroValue26
 t26 := Tryz.underlying9
 a26 := Tryz.isAgg9
 z26 := Tryz.sizeOf9
 v26 := Tryz.zeroValue9
 t28 := Tryz.underlying47
 a28 := Tryz.isAgg47
 z28 := Tryz.sizeOf47
 v28 := Tryz.zeroValue47
 i26 := by kernel_rfl }
def Tryz.sortM_ren : Go.Shelf.Ren := ⟨fun | 6 => 19 | 8 => 40 | 9 => 39 | 19 => 65 | 20 => 66 | 21 => 56 | 22 => 57 | 23 => 58 | 24 => 59 | 25 => 60 | 26 => 61 | 27 => 62 | 28 => 63 | 29 => 64 | 36 => 81 | 31 => 82 | 32 => 83 | 37 => 84 | 38 => 85 | 39 => 86 | 41 => 93 | n => n, fun | 27 => 26 | 29 => 9 | 3 => 3 | 32 => 89 | 26 => 26 | 0 => 0 | 44 => 111 | 46 => 113 | 4 => 4 | 36 => 104 | 35 => 103 | 41 => 108 | 5 => 5 | 9 => 9 | 53 => 123 | 57 => 127 | 63 => 136 | 64 => 137 | n => n, fun | n => n⟩
theorem Tryz.sortM : Go.Proofs.SlLaysM.n6 Tryz.prog Tryz.sortM_ren := {
 mixed := by kernel_rfl
 f6 := ⟨Tryz.f19.name, by decide, Tryz.func19.trans (congrArg some (by kernel_rfl))⟩
 f8 := Tryz.func40.trans (congrArg some (by kernel_rfl))
 f9 := ⟨Tryz.f39.name, by decide, Tryz.func39.trans (congrArg some (by kernel_rfl))⟩
 f19 := Tryz.func65.trans (congrArg some (by kernel_rfl))
 f20 := Tryz.func66.trans (congrArg some (by kernel_rfl))
 f21 := ⟨Tryz.f56.name, by decide, Tryz.func56.trans (congrArg some (by kernel_rfl))⟩
 f22 := ⟨Tryz.f57.name, by decide, Tryz.func57.trans (congrArg some (by kernel_rfl))⟩
 f23 := ⟨Tryz.f58.name, by decide, Tryz.func58.trans (congrArg some (by kernel_rfl))⟩
 f24 := ⟨Tryz.f59.name, by decide, Tryz.func59.trans (congrArg some (by kernel_rfl))⟩
 f25 := ⟨Tryz.f60.name, by decide, Tryz.func60.trans (congrArg some (by kernel_rfl))⟩
 f26 := ⟨Tryz.f61.name, by decide, Tryz.func61.trans (congrArg some (by kernel_rfl))⟩
 f27 := ⟨Tryz.f62.name, by decide, Tryz.func62.trans (congrArg some (by kernel_rfl))⟩
 f28 := ⟨Tryz.f63.name, by decide, Tryz.func63.trans (congrArg some (by kernel_rfl))⟩
 f29 := ⟨Tryz.f64.name, by decide, Tryz.func64.trans (congrArg some (by kernel_rfl))⟩
 f31 := Tryz.func82.trans (congrArg some (by kernel_rfl))
 f32 := Tryz.func83.trans (congrArg some (by kernel_rfl))
 f36 := ⟨Tryz.f81.name, by decide, Tryz.func81.trans (congrArg some (by kernel_rfl))⟩
 f37 := ⟨Tryz.f84.name, by decide, Tryz.func84.trans (congrArg some (by kernel_rfl))⟩
 f38 := ⟨Tryz.f85.name, by decide, Tryz.func85.trans (congrArg some (by kernel_rfl))⟩
 f39 := ⟨Tryz.f86.name, by decide, Tryz.func86.trans (congrArg some (by kernel_rfl))⟩
 f41 := ⟨Tryz.f93.name, by decide, Tryz.func93.trans (congrArg some (by kernel_rfl))⟩
 t0 := Tryz.underlying0
 a0 := Tryz.isAgg0
 z0 := Tryz.sizeOf0
 v0 := Tryz.zeroValue0
 t3 := Tryz.underlying3
 a3 := Tryz.isAgg3
 z3 := Tryz.sizeOf3
 v3 := Tryz.zeroValue3
 t4 := Tryz.underlying4
 a4 := Tryz.isAgg4
 z4 := Tryz.sizeOf4
 v4 := Tryz.zeroValue4
 t5 := Tryz.underlying5
 a5 := Tryz.isAgg5
 z5 := Tryz.sizeOf5
 v5 := Tryz.zeroValue5
 t9 := Tryz.underlying9
 a9 := Tryz.isAgg9
 z9 := Tryz.sizeOf9
 v9 := Tryz.zeroValue9
 t26 := Tryz.underlying26
 a26 := Tryz.isAgg26
 z26 := Tryz.sizeOf26
 v26 := Tryz.zeroValue26
 t27 := Tryz.underlying26
 a27 := Tryz.isAgg26
 z27 := Tryz.sizeOf26
 v27 := Tryz.zeroValue26
 t29 := Tryz.underlying9
 a29 := Tryz.isAgg9
 z29 := Tryz.sizeOf9
 v29 := Tryz.zeroValue9
 t32 := Tryz.underlying89
 a32 := Tryz.isAgg89
 z32 := Tryz.sizeOf89
 v32 := Tryz.zeroValue89
 t35 := Tryz.underlying103
 a35 := Tryz.isAgg103
 z35 := Tryz.sizeOf103
 v35 := Tryz.zeroValue103
 t36 := Tryz.underlying104
 a36 := Tryz.isAgg104
 z36 := Tryz.sizeOf104
 v36 := Tryz.zeroValue104
 t41 := Tryz.underlying108
 a41 := Tryz.isAgg108
 z41 := Tryz.sizeOf108
 v41 := Tryz.zeroValue108
 t44 := Tryz.underlying111
 a44 := Tryz.isAgg111
 z44 := Tryz.sizeOf111
 v44 := Tryz.zeroValue111
 t46 := Tryz.underlying113
 a46 := Tryz.isAgg113
 z46 := Tryz.sizeOf113
 v46 := Tryz.zeroValue113
 t53 := Tryz.underlying123
 a53 := Tryz.isAgg123
 z53 := Tryz.sizeOf123
 v53 := Tryz.zeroValue123
 t57 := Tryz.underlying127
 a57 := Tryz.isAgg127
 z57 := Tryz.sizeOf127
 v57 := Tryz.zeroValue127
 t63 := Tryz.underlying136
 a63 := Tryz.isAgg136
 z63 := Tryz.sizeOf136
 v63 := Tryz.zeroValue136
 t64 := Tryz.underlying137
 a64 := Tryz.isAgg137
 z64 := Tryz.sizeOf137
 v64 := Tryz.zeroValue137 }
open Go.RowKit Go.Maps Go.Sort Go.Shelf in
theorem Tryz.sortsM (m : Nat) : AnyZ.SortsIn Tryz.prog Tryz.sortedM_ren Fence.wide m :=
  ⟨fun blk off cap ss W hH hblk hsz => callsIn_wide.2 (AnyM.slices_Sort_string Tryz.sortM blk off cap ss W hH hblk hsz),
   fun p cap W => callsIn_wide.2 (AnyM.slices_Sort_string_none Tryz.sortM p cap W)⟩
open Go.RowKit Go.Maps Go.Sort Go.Shelf in
theorem Tryz.keysM_c (mb : Option Nat) (W : World) : Calls Tryz.prog 13 #[.map mb] W fun e w' => e = .returned (.func (.func 20) #[] #[.pointer (some ⟨W.heap.size, 0, none⟩)]) /\ w' = W.alloc (.cells #[.map mb] 42) :=
 callsIn_wide.1 (AnyZ.keys_in Tryz.keysM Fence.wide 5 trivial rfl mb W)
open Go.RowKit Go.Maps Go.Sort Go.Shelf in
theorem Tryz.sortedM_c {H : Type} (k b nn : Nat) (D0 : DataW H) (R : Value -> Option (DataW H × List MemPlace)) (w : World) (hk : k < w.heap.size) (hm : w.cell? ⟨k, 0, none⟩ = some (.map (some b))) (hown : w.ownsMap Tryz.prog 9 R b nn D0) (hmax : Maps.size D0 <= maxLen) (hbytes : Maps.size D0 * 16 <= 140737488355328) :
  Calls Tryz.prog 12 #[.func (.func 20) #[] #[.pointer (some ⟨k, 0, none⟩)]] w fun e w' => ∃ (v : Value) (ss : List (List UInt8)), e = .returned v /\ ss.Perm (strKeys D0) /\
   w'.ownsRow w.heap.size 9 1 v ss.length ((ss.mergeSort (fun x y => decide (x <= y))).map encStr) /\ (v = .slice none 0 0 ↔ ss = []) /\ Below w.heap.size w w' := by
 have hseq : SeqGives Fence.wide 2 Tryz.prog 20 #[.pointer (some ⟨k, 0, none⟩)] encStr (fun ss => ss.Perm (strKeys D0)) (Maps.size D0) w :=
  AnyZ.keys_gives (ρ := Tryz.keysM_ren) { Tryz.keysM with } Fence.wide _ trivial rfl (by omega) k b nn D0 w hk hm hown
 exact callsIn_wide.1 (AnyZ.sorted_in Tryz.sortedM Fence.wide 5 trivial trivial trivial trivial rfl (by omega) (Tryz.sortsM _) (enters_of Tryz.func19 (by kernel_rfl) rfl) 20 #[.pointer (some ⟨k, 0, none⟩)] trivial (enters_of Tryz.func20 (by kernel_rfl) rfl) _ _ hmax hbytes _ hseq)
end Go.Proofs
namespace Go.Proofs.YtfknfhajdiccgaaGreatDoor.Con
open Go Go.RowKit Go.Kt Go.Kt.V Go.Proofs.YtfknfhajdiccgaaGreatDoor.Vc
set_option linter.unusedSimpArgs false
set_option linter.unusedVariables false
set_option maxHeartbeats 4000000
theorem els_tx (l : List (List UInt8)) (w : World) (F : Nat -> Prop) : Els rTx 1 w F l (l.map fun a => [Value.string (T a)]) := by
 induction l with
 | nil => exact trivial
 | cons a l ih => exact ⟨⟨rfl, rfl⟩, ih⟩
theorem flat_tx (l : List (List UInt8)) : (l.map fun a => [Value.string (T a)]).flatten = l.map Go.Proofs.encStr := by
 induction l with
 | nil => rfl
 | cons a l ih => rw [List.map_cons, List.flatten_cons, ih]; rfl
theorem own_row {B : Nat} {w : World} {v : Value} {l : List (List UInt8)} {n : Nat} (h : w.ownsRow B 9 1 v n (l.map Go.Proofs.encStr)) : ∃ s : Sl, v = s.v /\ Own rTx 1 9 B w (fun _ => False) s l := by
 obtain ⟨hl, h⟩ := h
 rw [List.length_map, Nat.mul_one] at hl
 subst hl
 rcases h with ⟨rfl, hn⟩ | ⟨g, cap, cur, rfl, h1, h2, h3, h4, h5, h6⟩
 · have : l = [] := List.eq_nil_of_length_eq_zero hn
   subst this
   exact ⟨Sl.nil, rfl, Own.nil _ _ _ _ _ _⟩
 · refine ⟨⟨some ⟨g, 0, none⟩, l.length, cap⟩, rfl, .inr ⟨g, _, cur.toList.drop l.length, rfl, h1, ?_, ?_, rfl, h3, ?_, els_tx l w _⟩⟩
   · rw [Nat.mul_one] at h6
     rw [flat_tx, <- h6, List.take_append_drop]
     unfold Blk
     rw [h2]
   · dsimp only
     rw [List.length_drop, Array.length_toList, h5]
     omega
   · have : maxLen = 9223372036854775807 := rfl
     dsimp only
     omega
def itV (k : Nat) : OV := ⟨.func (.func 20) #[] #[.pointer (some ⟨k, 0, none⟩)], rfl⟩
theorem keysM_c (r : Nat) (w : World) : Calls Tryz.prog 13 #[.map (some r)] w fun e w' => e = .returned (itV w.heap.size).v /\ Blk w' w.heap.size 42 [.map (some r)] /\ Only [] w w' /\ w.heap.size < w'.heap.size := by
 refine (Tryz.keysM_c (some r) w).mono ?_
 rintro e w' ⟨rfl, rfl⟩
 exact ⟨rfl, heap_alloc_new w _, Only.alloc _ _, by show _ < (w.heap.push _).size; simp⟩
theorem sortedM_c {w : World} {r n k : Nat} {m : List UInt8 -> Option Value} {L : List (List UInt8)} (h : MapV kS gS w r m n) (hn : n <= 4194304) (hk : Blk w k 42 [.map (some r)]) (hL : L.Pairwise (· < ·)) (he : ∀ a, a ∈ L ↔ (m a).isSome = true) :
  Calls Tryz.prog 12 #[(itV k).v] w fun e w' => ∃ s : Sl, e = .returned s.v /\ Own rTx 1 9 w.heap.size w' (fun _ => False) s L /\ Only [] w w' := by
 obtain ⟨D, h1, h2, h3, h4⟩ := h.owns (P := Tryz.prog) (kt := 9) (by kernel_rfl) (by have : maxLen = 9223372036854775807 := rfl; omega)
 refine (Tryz.sortedM_c k r n D _ w hk.lt (hk.cell 0) h1 (by have : maxLen = 9223372036854775807 := rfl; omega) (by omega)).mono ?_
 rintro e w' ⟨v, ss, rfl, k1, k2, k3, k4⟩
 have hs : ss.Nodup := k1.nodup_iff.2 h3
 rw [sorted_is hL hs fun a => by rw [k1.mem_iff, h4, he]] at k2
 obtain ⟨s, rfl, ho⟩ := own_row k2
 exact ⟨s, rfl, ho, Only.of_below k4⟩
end Go.Proofs.YtfknfhajdiccgaaGreatDoor.Con
namespace Go.Proofs.YtfknfhajdiccgaaGreatDoor.Con
open Go Go.RowKit Go.Kt Go.Kt.V Go.Proofs.YtfknfhajdiccgaaGreatDoor.Vc
set_option linter.unusedSimpArgs false
set_option linter.unusedVariables false
set_option maxHeartbeats 1000000
def nmsA : Nat -> Int -> Ex -> List (List UInt8)
 | 0, _, _ => []
 | d + 1, kd, x => (if x.k = kd then [x.s] else []) ++ x.subs.flatMap (nmsA d kd)
def mS (S : List (List UInt8)) : List UInt8 -> Option Value := fun k => if k ∈ S then some (.bool true) else none
theorem mS_some {S : List (List UInt8)} (k : List UInt8) : (mS S k).isSome = true ↔ k ∈ S := by
 unfold mS
 split <;> simp [*]
def om (r2 r3 : Nat) : Int -> Option Value := fun k => if k = 3 then some (.map (some r3)) else if k = 2 then some (.map (some r2)) else none
abbrev SetV (w : World) (r : Nat) (S : List (List UInt8)) : Prop := MapV kS gS w r (mS S) S.length
abbrev OutV (w : World) (r0 r2 r3 : Nat) : Prop := MapV kN (fun _ => True) w r0 (om r2 r3) 2
theorem SetV.add {w : World} {r : Nat} {S : List (List UInt8)} (h : SetV w r S) {s : List UInt8} (hs : gS s) :
  ∃ w', (Instr.mapUpdate 42 (.map (some r)) (.string (T s)) (.bool true)).run Tryz.prog w = .ok () w' /\ SetV w' r (S ++ [s]) /\ Only [r] w w' := by
 obtain ⟨w', h1, h2, h3⟩ := h.update (P := Tryz.prog) (mty := 42) (kt := 9) (et := 4) keyS (by kernel_rfl) (by kernel_rfl) hs (.bool true)
 refine ⟨w', h1, (h2.ext fun k => ?_).le ?_, h3⟩
 · unfold mS
   by_cases hk : k = s
   · simp [hk]
   · simp [hk]
 · rw [List.length_append, List.length_singleton]
   split <;> omega
section
variable {w w' : World} {r0 r2 r3 : Nat}
theorem out_at (h : OutV w r0 r2 r3) (k : Int) : (Instr.lookup 43 (.map (some r0)) (.int .i64 k) false).run Tryz.prog w = .ok (.map (if k = 3 then some r3 else if k = 2 then some r2 else none)) w := by
 have := h.lookup (P := Tryz.prog) (mty := 43) (kt := 3) (et := 42) (z := .map none) keyN (by kernel_rfl) (by kernel_rfl) (fun w => Tryz.zeroValue42 w) k
 rw [this]
 unfold om
 split
 · rfl
 · split <;> rfl
def addIf (b : Prop) [Decidable b] (s : List UInt8) : List (List UInt8) := if b then [s] else []
theorem names_c : ∀ (d : Nat) {w : World} {F : Nat -> Prop} {x : Ex} {cs : List Value} {A B : List (List UInt8)}, rEx d w F x cs -> OutV w r0 r2 r3 -> SetV w r2 A -> SetV w r3 B -> (∀ k, F k -> k ≠ r2 /\ k ≠ r3) -> r0 ≠ r2 -> r0 ≠ r3 -> r2 ≠ r3 -> (∀ e, lenOk e x) ->
  Calls Tryz.prog 11 #[.agg cs.toArray, .map (some r0)] w fun e w' => e = .returned (.tuple #[]) /\ Only [r2, r3] w w' /\ SetV w' r2 (A ++ nmsA d 2 x) /\ SetV w' r3 (B ++ nmsA d 3 x)
 | 0, _, _, _, _, _, _, hx, _, _, _, _, _, _, _, _ => hx.elim
 | d + 1, w, F, x, cs, A, B, ⟨sl, hcs, hsl⟩, h0, h2, h3, hF, n02, n03, n23, hl => by
  subst hcs
  have l0 := h0.lt
  have l2 := h2.lt
  have l3 := h3.lt
  have hs : gS x.s := by
   have := (hl 1).1
   show x.s.length <= maxLen
   have : maxLen = 9223372036854775807 := rfl
   omega
  refine ret (v9w x.k x.n (T x.s) x.op sl x.a (some r0) (fun v w' => v = .tuple #[] /\ Only [r2, r3] w w' /\ SetV w' r2 (A ++ nmsA (d + 1) 2 x) /\ SetV w' r3 (B ++ nmsA (d + 1) 3 x)) w ?_)
  unfold v9v
  intro k0 w0 hk0 hk0' hO0
  have z0 := hO0.size
  have oo : Only [r2, r3] w w0 := hO0.weaken fun _ h => (by cases h)
  have h00 := h0.only hO0 (by simp)
  have h20 := h2.only hO0 (by simp)
  have h30 := h3.only hO0 (by simp)
  have tr : ∀ {u u' : World}, Only [r2, r3] w u -> Only [r2, r3] u u' -> Only [r2, r3] w u' := fun h1 h2 => h1.trans h2 fun x hx => .inl hx
  have e2 : nmsA (d + 1) 2 x = addIf (x.k = 2) x.s ++ x.subs.flatMap (nmsA d 2) := rfl
  have e3 : nmsA (d + 1) 3 x = addIf (x.k = 3) x.s ++ x.subs.flatMap (nmsA d 3) := rfl
  refine ⟨fun u => Only [r2, r3] w u /\ w0.heap.size <= u.heap.size /\ OutV u r0 r2 r3 /\ SetV u r2 (A ++ addIf (x.k = 2) x.s) /\ SetV u r3 (B ++ addIf (x.k = 3) x.s), ?_, _, w0, out_at h00 x.k, Same.refl _ _, fun hn => ?_, fun hn => ?_⟩
  · rintro w1 ⟨hO1, z1, i0, i2, i3⟩
    have hslk : ∀ {u : World}, Only [r2, r3] w u -> SliceF (rEx d) 6 u F sl x.subs := fun hO => SliceF.keep (rEx_ok d) hsl (by decide) fun k hk hlt => hO.block k hlt (by have := hF k hk; simp; omega)
    have hln := (hslk hO1).len
    have hcp := (hslk hO1).cap
    have hbg := (hslk hO1).big
    refine ⟨fun nv i u => ∃ n : Nat, i = (n : Int) /\ nv + n = x.subs.length /\ Only [r2, r3] w u /\ w0.heap.size <= u.heap.size /\ OutV u r0 r2 r3 /\ SetV u r2 (A ++ addIf (x.k = 2) x.s ++ (x.subs.take n).flatMap (nmsA d 2)) /\ SetV u r3 (B ++ addIf (x.k = 3) x.s ++ (x.subs.take n).flatMap (nmsA d 3)),
     x.subs.length, ⟨0, rfl, rfl, hO1, z1, i0, by simpa using i2, by simpa using i3⟩, ?_⟩
    rintro nv _ w2 ⟨n, rfl, hnv, hO2, z2, j0, j2, j3⟩
    refine ⟨fun hlt => ?_, fun hge => ?_⟩
    · have hlt : (n : Int) < (sl.n : Int) := of_decide_eq_true hlt
      obtain ⟨p, y, ds, a1, a2, a3, a4, a5, a6⟩ := (hslk hO2).get (Int.natCast_nonneg n) hlt
      rw [Int.toNat_natCast] at a2
      have hy := List.mem_of_getElem? a2
      obtain ⟨d', rfl⟩ : ∃ e, d = e + 1 := by
       cases d with
       | zero => exact a6.elim
       | succ e => exact ⟨e, rfl⟩
      have a6' := a6
      obtain ⟨s6, hds, _⟩ := a6
      subst hds
      refine ⟨p, a1, _, _, _, _, _, _, a5, fun k3 w3 hk3 hk3' hO3 => ?_⟩
      have z3 := hO3.size
      refine (names_c (d' + 1) (rEx_only a6' hO3) (j0.only hO3 (by simp)) (j2.only hO3 (by simp)) (j3.only hO3 (by simp)) hF n02 n03 n23 fun e => (hl (e + 1)).2 y hy).mono ?_
      rintro _ w4 ⟨rfl, hO4, g2, g3⟩
      have z4 := hO4.size
      have htk : x.subs.take (n + 1) = x.subs.take n ++ [y] := by rw [List.take_add_one, a2]; rfl
      refine ⟨rfl, hO4.same (by simp; omega), nv - 1, by omega, n + 1, by rw [wr' (by omega) (by omega)]; rfl, by omega, tr (hO2.tr0 hO3) hO4, by omega, (j0.only hO3 (by simp)).only hO4 (by simp; omega), ?_, ?_⟩
      · rw [htk, List.flatMap_append, <- List.append_assoc]
        simpa using g2
      · rw [htk, List.flatMap_append, <- List.append_assoc]
        simpa using g3
    · have hge : ¬ (n : Int) < (sl.n : Int) := of_decide_eq_false hge
      have hn : n = x.subs.length := by omega
      subst hn
      rw [List.take_length] at j2 j3
      rw [e2, e3, <- List.append_assoc, <- List.append_assoc]
      exact ⟨rfl, hO2, j2, j3⟩
  · by_cases hk3 : x.k = 3
    · rw [if_pos hk3]
      obtain ⟨w6, u1, u2, u3⟩ := SetV.add h30 hs
      have z6 := u3.size
      refine ⟨w6, u1, u3.same (by simp; omega), oo.trans u3 (by simp), by omega, h00.only u3 (by simp; omega), ?_, ?_⟩
      · have : addIf (x.k = 2) x.s = [] := by unfold addIf; rw [if_neg (by omega)]
        rw [this, List.append_nil]
        exact h20.only u3 (by simp; omega)
      · have : addIf (x.k = 3) x.s = [x.s] := by unfold addIf; rw [if_pos hk3]
        rw [this]
        exact u2
    · rw [if_neg hk3] at hn ⊢
      by_cases hk2 : x.k = 2
      · rw [if_pos hk2]
        obtain ⟨w6, u1, u2, u3⟩ := SetV.add h20 hs
        have z6 := u3.size
        refine ⟨w6, u1, u3.same (by simp; omega), oo.trans u3 (by simp), by omega, h00.only u3 (by simp; omega), ?_, ?_⟩
        · have : addIf (x.k = 2) x.s = [x.s] := by unfold addIf; rw [if_pos hk2]
          rw [this]
          exact u2
        · have : addIf (x.k = 3) x.s = [] := by unfold addIf; rw [if_neg hk3]
          rw [this, List.append_nil]
          exact h30.only u3 (by simp; omega)
      · rw [if_neg hk2] at hn
        cases hn
  · by_cases hk3 : x.k = 3
    · rw [if_pos hk3] at hn; cases hn
    · rw [if_neg hk3] at hn
      by_cases hk2 : x.k = 2
      · rw [if_pos hk2] at hn; cases hn
      · have q2 : addIf (x.k = 2) x.s = [] := by unfold addIf; rw [if_neg hk2]
        have q3 : addIf (x.k = 3) x.s = [] := by unfold addIf; rw [if_neg hk3]
        rw [q2, q3, List.append_nil, List.append_nil]
        exact ⟨oo, Nat.le_refl _, h00, h20, h30⟩
theorem nms_len (kd : Int) : ∀ (d : Nat) (x : Ex), (nmsA d kd x).length <= cntM d x
 | 0, _ => Nat.zero_le _
 | d + 1, x => by
  have h : ∀ l : List Ex, (l.flatMap (nmsA d kd)).length <= cntL (cntM d) l := fun l => by
   induction l with
   | nil => exact Nat.zero_le _
   | cons y l ih =>
    rw [List.flatMap_cons, List.length_append, cntL]
    have := nms_len kd d y
    omega
  rw [nmsA, cntM, List.length_append]
  have := h x.subs
  split
  · rw [List.length_singleton]; omega
  · rw [List.length_nil]; omega
theorem out2 (h : OutV w r0 r2 r3) : (Instr.lookup 43 (.map (some r0)) (.int .i64 2) false).run Tryz.prog w = .ok (.map (some r2)) w := out_at h 2
theorem out3 (h : OutV w r0 r2 r3) : (Instr.lookup 43 (.map (some r0)) (.int .i64 3) false).run Tryz.prog w = .ok (.map (some r3)) w := out_at h 3
theorem ownK {B : Nat} {s : Sl} {l : List (List UInt8)} (h : Own rTx 1 9 B w (fun _ => False) s l) (hO : Only [] w w') : Own rTx 1 9 B w' (fun _ => False) s l :=
 h.keep rTx_ok fun k _ hlt => hO.block k hlt (by simp)
theorem namesP_c {d : Nat} {F : Nat -> Prop} {x : Ex} {cs : List Value} {L2 L3 : List (List UInt8)} (hx : rEx d w F x cs) (hl : ∀ e, lenOk e x) (hm : ∀ e, cntM e x <= 1048576) (hL2 : L2.Pairwise (· < ·)) (hL3 : L3.Pairwise (· < ·))
  (m2 : ∀ a, a ∈ L2 ↔ a ∈ nmsA d 2 x) (m3 : ∀ a, a ∈ L3 ↔ a ∈ nmsA d 3 x) : Calls Tryz.prog 6 #[.agg cs.toArray] w fun e w' => ∃ s t : Sl, e = .returned (.tuple #[s.v, t.v]) /\
   Own rTx 1 9 w.heap.size w' (fun _ => False) s L2 /\ Own rTx 1 9 w.heap.size w' (fun _ => False) t L3 /\ Only [] w w' := by
 cases d with
 | zero => exact hx.elim
 | succ d =>
 have hx0 := hx
 obtain ⟨sl, hcs, hsl⟩ := hx
 subst hcs
 refine (v8w x.k x.n (T x.s) x.op sl x.a (fun v w' => ∃ s t : Sl, v = .tuple #[s.v, t.v] /\ Own rTx 1 9 w.heap.size w' (fun _ => False) s L2 /\ Own rTx 1 9 w.heap.size w' (fun _ => False) t L3 /\ Only [] w w') w ?_).mono (by
  rintro _ w' ⟨v, rfl, s, t, rfl, h⟩; exact ⟨s, t, rfl, h⟩)
 unfold v8v
 intro k0 w0 hk0 hk0' hO0
 have z0 := hO0.size
 obtain ⟨hm0, hM0, hO1⟩ := MapV.make (P := Tryz.prog) (mty := 43) (kv := kN) (g := fun _ => True) w0
 refine ⟨_, _, hm0, hO1.same (by simp; omega), ?_⟩
 have z1 := hM0.lt
 generalize w0.alloc (.map #[] 0) = w1 at *
 obtain ⟨hm1, hM1, hO2⟩ := MapV.make (P := Tryz.prog) (mty := 42) (kv := kS) (g := gS) w1
 refine ⟨_, _, hm1, hO2.same (by simp; omega), ?_⟩
 have z2 := hM1.lt
 generalize w1.alloc (.map #[] 0) = w2 at *
 obtain ⟨w3, u3, hM3, hO3⟩ := (hM0.only hO2 (by simp)).update (P := Tryz.prog) (mty := 43) (kt := 3) (et := 42) (k := 2) keyN (by kernel_rfl) (by kernel_rfl) trivial (.map (some w1.heap.size))
 have z3 := hO3.size
 refine ⟨w3, u3, hO3.same (by simp; omega), ?_⟩
 obtain ⟨hm4, hM4, hO4⟩ := MapV.make (P := Tryz.prog) (mty := 42) (kv := kS) (g := gS) w3
 refine ⟨_, _, hm4, hO4.same (by simp; omega), ?_⟩
 have z4 := hM4.lt
 generalize w3.alloc (.map #[] 0) = w4 at *
 obtain ⟨w5, u5, hM5, hO5⟩ := (hM3.only hO4 (by simp)).update (P := Tryz.prog) (mty := 43) (kt := 3) (et := 42) (k := 3) keyN (by kernel_rfl) (by kernel_rfl) trivial (.map (some w3.heap.size))
 have z5 := hO5.size
 refine ⟨w5, u5, hO5.same (by simp; omega), ?_⟩
 have h0 : OutV w5 w0.heap.size w1.heap.size w3.heap.size := (hM5.ext fun k => rfl).le (by simp)
 have e2 : SetV w5 w1.heap.size [] := (((hM1.only hO3 (by simp; omega)).only hO4 (by simp)).only hO5 (by simp; omega)).ext fun k => rfl
 have e3 : SetV w5 w3.heap.size [] := (hM4.only hO5 (by simp; omega)).ext fun k => rfl
 have oA : Only [] w w5 := ((((hO0.tr0 hO1).tr0 hO2).trans hO3 (by simp; omega)).tr0 hO4).trans hO5 (by simp; omega)
 have zA : w3.heap.size < w5.heap.size := by omega
 have zB : w1.heap.size < w3.heap.size := by omega
 have zC : w0.heap.size < w1.heap.size := by omega
 have zk : k0 < w5.heap.size := by omega
 clear hM0 hM1 hM3 hM4 hM5 hm0 hm1 hm4 u3 u5
 have hxw := (rEx_ok (d + 1)).inHeap hx0
 generalize w0.heap.size = r0 at *
 generalize w1.heap.size = r2 at *
 generalize w3.heap.size = r3 at *
 refine (names_c (d + 1) (rEx_only hxw oA) h0 e2 e3 (fun k hk => ⟨by have := hk.2; omega, by have := hk.2; omega⟩) (by omega) (by omega) (by omega) hl).mono ?_
 rintro _ w6 ⟨rfl, hO6, g2, g3⟩
 have z6 := hO6.size
 have h0 := h0.only hO6 (by simp; omega)
 have oB : Only [] w w6 := oA.trans hO6 (by simp; omega)
 have h2 : SetV w6 r2 (nmsA (d + 1) 2 x) := g2
 have h3 : SetV w6 r3 (nmsA (d + 1) 3 x) := g3
 have c2 := Nat.le_trans (nms_len 2 (d + 1) x) (hm (d + 1))
 have c3 := Nat.le_trans (nms_len 3 (d + 1) x) (hm (d + 1))
 have he2 : ∀ a, a ∈ L2 ↔ (mS (nmsA (d + 1) 2 x) a).isSome = true := fun a => by rw [mS_some, m2]
 have he3 : ∀ a, a ∈ L3 ↔ (mS (nmsA (d + 1) 3 x) a).isSome = true := fun a => by rw [mS_some, m3]
 have zw := oB.size
 refine ⟨rfl, hO6.same (by simp; omega), fun l0 l1 u => Own rTx 1 9 w.heap.size u (fun _ => False) l0 L2 /\ Own rTx 1 9 w.heap.size u (fun _ => False) l1 L3 /\ Only [] w6 u, fun l0 l1 w7 h => ⟨l0, l1, rfl, h.1, h.2.1, oB.tr0 h.2.2⟩, fun w8 o8 => ?_, fun w24 o24 => ?_⟩
 · have z8 := o8.size
   refine ⟨_, _, out2 (h0.only o8 (by simp)), Same.refl _ _, ?_, ?_⟩
   · refine (keysM_c r2 w8).mono ?_
     rintro _ w10 ⟨rfl, hB, hh, _⟩
     have o10 := o8.tr0 hh
     have z10 := o10.size
     refine ⟨itV w8.heap.size, rfl, hh.same (by simp; omega), ?_, ?_⟩
     · have aB2 := hB
       refine (sortedM_c (h2.only o10 (by simp)) (by omega) aB2 hL2 he2).mono ?_
       rintro _ au1 ⟨as2, rfl, aw2, ah1⟩
       have ao1 := o10.tr0 ah1
       have az1 := ao1.size
       refine ⟨as2, rfl, ah1.same (by have := o10.size; simp; omega), ?_⟩
       refine ⟨_, _, out3 (h0.only ao1 (by simp)), Same.refl _ _, ?_⟩
       refine (keysM_c r3 au1).mono ?_
       rintro _ au3 ⟨rfl, aB3, ah3, _⟩
       have ao3 := ao1.tr0 ah3
       have az3 := ao3.size
       refine ⟨itV au1.heap.size, rfl, ah3.same (by have := ao1.size; simp; omega), ?_⟩
       have aw2 := ownK aw2 ah3
       refine (sortedM_c (h3.only ao3 (by simp)) (by omega) aB3 hL3 he3).mono ?_
       rintro _ au4 ⟨as3, rfl, aw3, ah4⟩
       have ao4 := ao3.tr0 ah4
       have az4 := ao4.size
       refine ⟨as3, rfl, ah4.same (by have := ao3.size; simp; omega), ?_⟩
       have aw2 := ownK aw2 ah4
       exact ⟨(aw2).low (by have := o10.size; omega), (aw3).low (by have := o10.size; omega), ao4⟩
     · have bB2 := hB
       refine ⟨_, _, out3 (h0.only o10 (by simp)), Same.refl _ _, ?_⟩
       refine (sortedM_c (h2.only o10 (by simp)) (by omega) bB2 hL2 he2).mono ?_
       rintro _ bu2 ⟨bs2, rfl, bw2, bh2⟩
       have bo2 := o10.tr0 bh2
       have bz2 := bo2.size
       refine ⟨bs2, rfl, bh2.same (by have := o10.size; simp; omega), ?_⟩
       refine (keysM_c r3 bu2).mono ?_
       rintro _ bu3 ⟨rfl, bB3, bh3, _⟩
       have bo3 := bo2.tr0 bh3
       have bz3 := bo3.size
       refine ⟨itV bu2.heap.size, rfl, bh3.same (by have := bo2.size; simp; omega), ?_⟩
       have bw2 := ownK bw2 bh3
       refine (sortedM_c (h3.only bo3 (by simp)) (by omega) bB3 hL3 he3).mono ?_
       rintro _ bu4 ⟨bs3, rfl, bw3, bh4⟩
       have bo4 := bo3.tr0 bh4
       have bz4 := bo4.size
       refine ⟨bs3, rfl, bh4.same (by have := bo3.size; simp; omega), ?_⟩
       have bw2 := ownK bw2 bh4
       exact ⟨(bw2).low (by have := o10.size; omega), (bw3).low (by have := o10.size; omega), bo4⟩
   · skip
     refine ⟨_, _, out3 (h0.only o8 (by simp)), Same.refl _ _, ?_⟩
     refine (keysM_c r2 w8).mono ?_
     rintro _ cu2 ⟨rfl, cB2, ch2, _⟩
     have co2 := o8.tr0 ch2
     have cz2 := co2.size
     refine ⟨itV w8.heap.size, rfl, ch2.same (by have := o8.size; simp; omega), ?_⟩
     refine (sortedM_c (h2.only co2 (by simp)) (by omega) cB2 hL2 he2).mono ?_
     rintro _ cu3 ⟨cs2, rfl, cw2, ch3⟩
     have co3 := co2.tr0 ch3
     have cz3 := co3.size
     refine ⟨cs2, rfl, ch3.same (by have := co2.size; simp; omega), ?_⟩
     refine (keysM_c r3 cu3).mono ?_
     rintro _ cu4 ⟨rfl, cB3, ch4, _⟩
     have co4 := co3.tr0 ch4
     have cz4 := co4.size
     refine ⟨itV cu3.heap.size, rfl, ch4.same (by have := co3.size; simp; omega), ?_⟩
     have cw2 := ownK cw2 ch4
     refine (sortedM_c (h3.only co4 (by simp)) (by omega) cB3 hL3 he3).mono ?_
     rintro _ cu5 ⟨cs3, rfl, cw3, ch5⟩
     have co5 := co4.tr0 ch5
     have cz5 := co5.size
     refine ⟨cs3, rfl, ch5.same (by have := co4.size; simp; omega), ?_⟩
     have cw2 := ownK cw2 ch5
     exact ⟨(cw2).low (by have := o8.size; omega), (cw3).low (by have := o8.size; omega), co5⟩
 · have z24 := o24.size
   refine ⟨_, _, out3 (h0.only o24 (by simp)), Same.refl _ _, ?_⟩
   refine ⟨_, _, out2 (h0.only o24 (by simp)), Same.refl _ _, ?_⟩
   refine (keysM_c r2 w24).mono ?_
   rintro _ du3 ⟨rfl, dB2, dh3, _⟩
   have do3 := o24.tr0 dh3
   have dz3 := do3.size
   refine ⟨itV w24.heap.size, rfl, dh3.same (by have := o24.size; simp; omega), ?_⟩
   refine (sortedM_c (h2.only do3 (by simp)) (by omega) dB2 hL2 he2).mono ?_
   rintro _ du4 ⟨ds2, rfl, dw2, dh4⟩
   have do4 := do3.tr0 dh4
   have dz4 := do4.size
   refine ⟨ds2, rfl, dh4.same (by have := do3.size; simp; omega), ?_⟩
   refine (keysM_c r3 du4).mono ?_
   rintro _ du5 ⟨rfl, dB3, dh5, _⟩
   have do5 := do4.tr0 dh5
   have dz5 := do5.size
   refine ⟨itV du4.heap.size, rfl, dh5.same (by have := do4.size; simp; omega), ?_⟩
   have dw2 := ownK dw2 dh5
   refine (sortedM_c (h3.only do5 (by simp)) (by omega) dB3 hL3 he3).mono ?_
   rintro _ du6 ⟨ds3, rfl, dw3, dh6⟩
   have do6 := do5.tr0 dh6
   have dz6 := do6.size
   refine ⟨ds3, rfl, dh6.same (by have := do5.size; simp; omega), ?_⟩
   have dw2 := ownK dw2 dh6
   exact ⟨(dw2).low (by have := o24.size; omega), (dw3).low (by have := o24.size; omega), do6⟩
end
def putA : List (List UInt8) -> List UInt8 -> List (List UInt8)
 | [], s => [s]
 | a :: l, s => if a < s then a :: putA l s else if a = s then a :: l else s :: a :: l
theorem lt_of_not {a s : List UInt8} (h1 : ¬ a < s) (h2 : a ≠ s) : s < a := by
 rcases Decidable.em (s < a) with h | h
 · exact h
 · exact absurd (List.le_antisymm (List.not_lt.1 h) (List.not_lt.1 h1)) h2
theorem putA_mem (s k : List UInt8) : ∀ l : List (List UInt8), k ∈ putA l s ↔ k = s ∨ k ∈ l
 | [] => by simp [putA]
 | a :: l => by
  unfold putA
  split
  · rw [List.mem_cons, putA_mem s k l, List.mem_cons]
    constructor
    · rintro (h | h | h)
      · exact .inr (.inl h)
      · exact .inl h
      · exact .inr (.inr h)
    · rintro (h | h | h)
      · exact .inr (.inl h)
      · exact .inl h
      · exact .inr (.inr h)
  · split
    · rename_i h
      subst h
      rw [List.mem_cons]
      constructor
      · exact fun h => .inr h
      · rintro (h | h)
        · exact .inl h
        · exact h
    · rw [List.mem_cons]
theorem putA_rise (s : List UInt8) : ∀ {l : List (List UInt8)}, l.Pairwise (· < ·) -> (putA l s).Pairwise (· < ·)
 | [], _ => by simp [putA]
 | a :: l, h => by
  obtain ⟨h1, h2⟩ := List.pairwise_cons.1 h
  unfold putA
  split
  · rename_i ha
    refine List.pairwise_cons.2 ⟨fun b hb => ?_, putA_rise s h2⟩
    rcases (putA_mem s b l).1 hb with rfl | hb
    · exact ha
    · exact h1 b hb
  · rename_i ha
    split
    · exact h
    · rename_i hn
      have hs := lt_of_not ha hn
      refine List.pairwise_cons.2 ⟨fun b hb => ?_, h⟩
      rcases List.mem_cons.1 hb with rfl | hb
      · exact hs
      · exact List.lt_trans hs (h1 b hb)
section
variable {w w' : World} {F : Nat -> Prop}
theorem eq_T (a b : List UInt8) : ((T a).toList == (T b).toList) = decide (a = b) := by
 rw [Lib.toList_data, Lib.toList_data, Bool.eq_iff_iff]
 simp
def nmR : Nat -> Int -> Ex -> List (List UInt8) -> List (List UInt8)
 | 0, _, _, l => l
 | d + 1, kd, x, l => x.subs.foldl (fun l y => nmR d kd y l) (if x.k = kd then putA l x.s else l)
theorem nmR_mem (kd : Int) (k : List UInt8) : ∀ (d : Nat) (x : Ex) (l : List (List UInt8)), k ∈ nmR d kd x l ↔ k ∈ l ∨ k ∈ nmsA d kd x
 | 0, _, _ => by simp [nmR, nmsA]
 | d + 1, x, l => by
  have h : ∀ (ys : List Ex) (l : List (List UInt8)), k ∈ ys.foldl (fun l y => nmR d kd y l) l ↔ k ∈ l ∨ k ∈ ys.flatMap (nmsA d kd) := fun ys => by
   induction ys with
   | nil => simp
   | cons y ys ih =>
    intro l
    rw [List.foldl_cons, ih, nmR_mem kd k d y l, List.flatMap_cons, List.mem_append, or_assoc]
  rw [nmR, nmsA, h, List.mem_append]
  split
  · rw [putA_mem, List.mem_singleton]
    constructor
    · rintro ((h | h) | h)
      · exact .inr (.inl h)
      · exact .inl h
      · exact .inr (.inr h)
    · rintro (h | h | h)
      · exact .inl (.inr h)
      · exact .inl (.inl h)
      · exact .inr h
  · simp
theorem nmR_rise (kd : Int) : ∀ (d : Nat) (x : Ex) {l : List (List UInt8)}, l.Pairwise (· < ·) -> (nmR d kd x l).Pairwise (· < ·)
 | 0, _, _, h => h
 | d + 1, x, l, h => by
  have hf : ∀ (ys : List Ex) {l : List (List UInt8)}, l.Pairwise (· < ·) -> (ys.foldl (fun l y => nmR d kd y l) l).Pairwise (· < ·) := fun ys => by
   induction ys with
   | nil => exact fun h => h
   | cons y ys ih => exact fun h => ih (nmR_rise kd d y h)
  rw [nmR]
  refine hf _ ?_
  split
  · exact putA_rise _ h
  · exact h
end
section
variable {w w' : World} {F : Nat -> Prop}
def Ln (gs : List Nat) (s : Sl) (u : World) : Prop := s.n = 0 ∨ ∃ g z e, g ∈ gs /\ s.a = some ⟨g, 0, none⟩ /\ Blk u g e z /\ s.n <= z.length
theorem Ln.keep {gs : List Nat} {s : Sl} (h : Ln gs s w) (hk : ∀ g, g ∈ gs -> g < w.heap.size -> w'.heap[g]? = w.heap[g]?) : Ln gs s w' := by
 rcases h with h | ⟨g, z, e, h1, h2, h3, h4⟩
 · exact .inl h
 · exact .inr ⟨g, z, e, h1, h2, (hk g h1 h3.lt).trans h3, h4⟩
theorem Ln.store {gs : List Nat} {s : Sl} (h : Ln gs s w) {g : Nat} {z z' : List Value} {e : TypeId} (hB : Blk w g e z) (hO : Only [g] w w') (hB' : Blk w' g e z') (hz : z'.length = z.length) : Ln gs s w' := by
 rcases h with h | ⟨k, y, f, h1, h2, h3, h4⟩
 · exact .inl h
 · by_cases hk : k = g
   · subst hk
     have he : z.length = y.length := by
      unfold Blk at hB h3
      rw [hB] at h3
      simp only [Option.some.injEq, Obj.cells.injEq, List.toArray_inj] at h3
      simpa using congrArg Array.size h3.1
     exact .inr ⟨k, z', e, h1, h2, hB', by omega⟩
   · exact .inr ⟨k, y, f, h1, h2, (hO.block k h3.lt (by simpa using hk)).trans h3, h4⟩
theorem slAt1 {s : Sl} {g j : Nat} (ha : s.a = some ⟨g, 0, none⟩) (hj : j < s.n) : SlAt s (j : Int) 1 ⟨g, j, none⟩ := ⟨_, ha, by omega, by omega, by rw [addr_lit, Int.toNat_natCast, Nat.zero_add, Nat.mul_one]⟩
theorem Ln.at {gs : List Nat} {s : Sl} (h : Ln gs s w) {j : Nat} (hj : (j : Int) < s.n) : ∃ g z e, g ∈ gs /\ SlAt s (j : Int) 1 ⟨g, j, none⟩ /\ Blk w g e z /\ j + 1 <= z.length := by
 rcases h with h | ⟨g, z, e, h1, h2, h3, h4⟩
 · omega
 · exact ⟨g, z, e, h1, slAt1 h2 (by omega), h3, by omega⟩
end
abbrev rEnv : Rp (List ByteArray × List Int × List ByteArray × Unit) := rPair (rSl rStr 1 16) (rPair (rSl rInt 1 8) (rPair (rSl rStr 1 16) rUnit))
theorem str_tx {w : World} {F : Nat -> Prop} {s : Sl} {l : List ByteArray} (h : SliceF rStr 1 w F s l) : SliceF rTx 1 w F s (l.map fun b => b.data.toList) :=
 ⟨by rw [List.length_map]; exact h.len, h.cap, h.nil0, h.big, fun j x hx => by
  rw [List.getElem?_map, Option.map_eq_some_iff] at hx
  obtain ⟨b, hb, rfl⟩ := hx
  obtain ⟨base, cs, h1, h2, h3, h4, h5, _⟩ := h.at_ j b hb
  exact ⟨base, cs, h1, h2, h3, h4, by unfold rTx; rw [h5, <- T_of b]⟩⟩
theorem evM_like {e e' : Env5} : ∀ (d : Nat) (x : Ex), (∀ s, s ∈ nmsA d 2 x -> namedA e s = namedA e' s) -> (∀ s, s ∈ nmsA d 3 x -> e.A.contains s = e'.A.contains s) -> evM e d x = evM e' d x
 | 0, _, _, _ => rfl
 | d + 1, x, h2, h3 => by
  have i2 : x.k = 2 -> namedA e x.s = namedA e' x.s := fun hk => h2 _ (by rw [nmsA, if_pos hk]; exact List.mem_append_left _ (.head _))
  have i3 : x.k = 3 -> e.A.contains x.s = e'.A.contains x.s := fun hk => h3 _ (by rw [nmsA, if_pos hk]; exact List.mem_append_left _ (.head _))
  have is : ∀ y, y ∈ x.subs -> evM e d y = evM e' d y := fun y hy => evM_like d y (fun s hs => h2 s (by rw [nmsA]; exact List.mem_append_right _ (List.mem_flatMap.2 ⟨y, hy, hs⟩))) (fun s hs => h3 s (by rw [nmsA]; exact List.mem_append_right _ (List.mem_flatMap.2 ⟨y, hy, hs⟩)))
  rw [evM, evM]
  split
  · rfl
  · split
    · rfl
    · split
      · rename_i hk; exact i2 hk
      · split
        · rename_i hk; rw [i3 hk]
        · split
          · rfl
          · rename_i y r hs
            have e1 := is y (by rw [hs]; exact .head _)
            rw [e1]
            split
            · rfl
            · split
              · rfl
              · split
                · rfl
                · split
                  · rfl
                  · split
                    · rfl
                    · rename_i z r'
                      have e2 := is z (by rw [hs]; exact .tail _ (.head _))
                      rw [e2]
theorem named_cons {e : Env5} {nm s : List UInt8} {n : Int} (hne : nm ≠ s) : namedA e s = namedA ⟨nm :: e.N, n :: e.V, e.A⟩ s := by
 unfold namedA
 dsimp only
 rw [ixA, if_neg hne]
 simp only [List.length_cons, List.getElem?_cons_succ, Nat.add_lt_add_iff_right]
theorem alone_law {e : Env5} {d : Nat} {x : Ex} {nm : List UInt8} {n : Int} {A' : List (List UInt8)} (h2 : nm ∉ nmsA d 2 x) (hA : A' = e.A ∨ (A' = e.A ++ [nm] /\ nm ∉ nmsA d 3 x)) : evM e d x = evM ⟨nm :: e.N, n :: e.V, A'⟩ d x := by
 refine evM_like d x (fun s hs => ?_) fun s hs => ?_
 · rw [named_cons (nm := nm) (n := n) fun h => h2 (h ▸ hs)]
   rfl
 · rcases hA with rfl | ⟨rfl, h3⟩
   · rfl
   · have hne : s ≠ nm := fun h => h3 (h ▸ hs)
     simp [hne]
def InZ (z : List (Nat × Nat)) (k : Nat) : Prop := ∃ p ∈ z, p.1 <= k /\ k < p.2
theorem InZ.apart {z : List (Nat × Nat)} {k b : Nat} (h : InZ z k) (ha : Apart z b) : k ≠ b := by
 obtain ⟨p, hp, h1, h2⟩ := h
 have := ha p hp
 omega
structure RV where
 α : Type
 r : Rp α
 ok : r.Ok
 e : TypeId
 s : Sl
 xs : List α
def upd3 (f : Nat -> Option RV) (t : Nat) (q : RV) : Nat -> Option RV := fun i => if i = t then some q else f i
structure G (ws u : World) (mk : List (Nat × Nat)) (f : Nat -> Option RV) : Prop where
 o : Only [] ws u
 own : ∀ t q, f t = some q -> Own q.r 1 q.e ws.heap.size u (fun _ => False) q.s q.xs
 inn : ∀ t q k, f t = some q -> q.s.a = some ⟨k, 0, none⟩ -> InZ mk k
 dis : ∀ t t' q q' k, t ≠ t' -> f t = some q -> f t' = some q' -> q.s.a = some ⟨k, 0, none⟩ -> q'.s.a ≠ some ⟨k, 0, none⟩
section
variable {ws u u' : World} {mk : List (Nat × Nat)} {f : Nat -> Option RV}
theorem G.skip (h : G ws u mk f) (hO : Only [] u u') : G ws u' mk f :=
 ⟨h.o.tr0 hO, fun t q hq => (h.own t q hq).keep q.ok fun k _ hlt => hO.block k hlt (by simp), h.inn, h.dis⟩
theorem G.step (h : G ws u mk f) (hO : Only [] u u') (t : Nat) (q : RV) (ho : Own q.r 1 q.e ws.heap.size u' (fun _ => False) q.s q.xs)
  (hb : ∀ k, q.s.a = some ⟨k, 0, none⟩ -> (∃ q0, f t = some q0 /\ q0.s.a = some ⟨k, 0, none⟩) ∨ (u.heap.size <= k /\ k < u'.heap.size)) : G ws u' ((u.heap.size, u'.heap.size) :: mk) (upd3 f t q) := by
 have old : ∀ i q', f i = some q' -> ∀ k, q'.s.a = some ⟨k, 0, none⟩ -> k < u.heap.size := fun i q' hq k hk => ((h.own i q' hq).blk hk).2
 refine ⟨h.o.tr0 hO, fun i q' hq => ?_, fun i q' k hq hk => ?_, fun i j q1 q2 k hne h1 h2 hk hk2 => ?_⟩
 · unfold upd3 at hq
   split at hq
   · injection hq with hq
     subst hq
     exact ho
   · exact (h.own i q' hq).keep q'.ok fun k _ hlt => hO.block k hlt (by simp)
 · unfold upd3 at hq
   split at hq
   · injection hq with hq
     subst hq
     rcases hb k hk with ⟨q0, e1, e2⟩ | hh
     · obtain ⟨p, hp, g⟩ := h.inn t q0 k e1 e2
       exact ⟨p, .tail _ hp, g⟩
     · exact ⟨_, .head _, hh⟩
   · obtain ⟨p, hp, g⟩ := h.inn i q' k hq hk
     exact ⟨p, .tail _ hp, g⟩
 · unfold upd3 at h1 h2
   split at h1
   · rename_i hi
     split at h2
     · rename_i hj; exact hne (hi.trans hj.symm)
     · injection h1 with h1
       subst h1
       rcases hb k hk with ⟨q0, e1, e2⟩ | hh
       · exact h.dis t j q0 q2 k (fun e => hne (hi.trans e)) e1 h2 e2 hk2
       · have := old j q2 h2 k hk2
         omega
   · split at h2
     · rename_i hi hj
       injection h2 with h2
       subst h2
       rcases hb k hk2 with ⟨q0, e1, e2⟩ | hh
       · exact h.dis i t q1 q0 k hi h1 e1 hk e2
       · have := old i q1 h1 k hk
         omega
     · exact h.dis i j q1 q2 k hne h1 h2 hk hk2
end
section
variable {α : Type} {r : Rp α} {w : World} {F : Nat -> Prop} {s y : Sl} {xs ys : List α} {e : TypeId} {B : Nat} {P : Program} {t ty : TypeId} {i : TypeInfo} {z : Value} {bytes : Nat}
theorem app_full (ht : P.underlying t = some (.slice e)) (hi : P.info? e = some i) (hz : i.zero = some z) (hsize : i.size = 1) (hby : i.bytes = bytes) (hzs : z.cells.size = 1)
  (hr : r.Ok) (hs : Own r 1 e B w (fun _ => False) s xs) (ha : s.a ≠ none) (hfull : s.c = s.n) (hf : ∀ w F G x cs, r w F x cs -> r w G x cs) (hy : SliceF r 1 w F y ys) (hB : B <= w.heap.size) (hm : (xs.length + ys.length) * bytes <= 140737488355328) (hb0 : 0 < bytes) :
  ∃ s' w', (Builtin.append_ #[t, t] ty #[s.v, y.v]).run P w = .ok s'.v w' /\ Own r 1 e B w' (fun _ => False) s' (xs ++ ys) /\ Only [] w w' /\ ((s' = s /\ w' = w) ∨ s'.a = some ⟨w.heap.size, 0, none⟩) := by
 by_cases h0 : y.n = 0
 · have hx : ys = [] := List.eq_nil_of_length_eq_zero (by have := hy.len; omega)
   subst hx
   refine ⟨s, w, ?_, by rw [List.append_nil]; exact hs, Only.refl _ _, .inl ⟨rfl, rfl⟩⟩
   obtain ⟨g, hg⟩ : ∃ g, s.a = some g := Option.ne_none_iff_exists'.1 ha
   obtain ⟨ya, yn, yc⟩ := y
   obtain ⟨sa, sn, sc⟩ := s
   dsimp only at h0 hfull hg
   subst h0 hfull hg
   cases ya <;> simp [Builtin.append_, run_underlying ht, sizeOf, typeInfo, hi, Builtin.lenOf, Builtin.firstCells, loadCells, loadCellsFrom, storeCells]
 · obtain ⟨s', w', k1, k2, k3, k4⟩ := app_grow (ty := ty) ht hi hz hsize hby hzs hr (SliceF.mono hr (hs.slice hr) (G := fun _ => True) fun _ _ => trivial) (SliceF.mono hr hy fun _ _ => trivial) (by omega) hm hb0
   refine ⟨s', w', k1, ?_, k3, .inr k4⟩
   have k2 := k2.low hB
   rcases k2 with ⟨e1, e2⟩ | ⟨g, css, tail, e1, e2, e3, e4, e5, e6, e7, e8⟩
   · exact .inl ⟨e1, e2⟩
   · exact .inr ⟨g, css, tail, e1, e2, e3, e4, e5, e6, e7, All2.imp (fun _ _ h => ⟨h.1, hf _ _ _ _ _ h.2⟩) e8⟩
end
abbrev rvT (s : Sl) (l : List (List UInt8)) : RV := ⟨_, rTx, rTx_ok, 9, s, l⟩
abbrev rvI (s : Sl) (l : List Int) : RV := ⟨_, rInt, rInt_ok, 3, s, l⟩
section
variable {ws u : World} {mk : List (Nat × Nat)} {f : Nat -> Option RV} {F : Nat -> Prop}
theorem bldT (h : G ws u mk f) (t : Nat) (s : List UInt8) : ∃ l u', (Instr.buildSlice 26 1 #[.mk 0 (.string (T s))]).run Tryz.prog u = .ok (Sl.v l) u' /\ Only [] u u' /\ G ws u' ((u.heap.size, u'.heap.size) :: mk) (upd3 f t (rvT l [s])) /\ l.a ≠ none /\ l.c = l.n := by
 obtain ⟨l, u', h1, h2, h3, h4, h5, h6⟩ := build_own (P := Tryz.prog) (t := 26) (e := 9) (i := Tryz.t9) (w := u) (F := fun _ => False) (r := rTx) (size := 1) (vs := [.string (T s)]) (xs := [s]) (len := 1) (parts := #[(0, .string (T s))]) (by kernel_rfl) (by kernel_rfl) rfl rfl (by decide) rfl rfl (by decide) (by decide) rTx_ok ⟨⟨rfl, rfl⟩, trivial⟩
 exact ⟨l, u', h1, h3, h.step h3 t (rvT l [s]) (h2.low h.o.size) fun k hk => .inr (by rw [h4] at hk; injection hk with hk; injection hk with hk; have := (h2.blk h4).2; dsimp only at this; omega), by rw [h4]; simp, by omega⟩
theorem bldI (h : G ws u mk f) (t : Nat) {n : Int} (hn : InI n) : ∃ l u', (Instr.buildSlice 31 1 #[.mk 0 (.int .i64 n)]).run Tryz.prog u = .ok (Sl.v l) u' /\ Only [] u u' /\ G ws u' ((u.heap.size, u'.heap.size) :: mk) (upd3 f t (rvI l [n])) /\ l.a ≠ none /\ l.c = l.n := by
 obtain ⟨l, u', h1, h2, h3, h4, h5, h6⟩ := build_own (P := Tryz.prog) (t := 31) (e := 3) (i := Tryz.t3) (w := u) (F := fun _ => False) (r := rInt) (size := 1) (vs := [.int .i64 n]) (xs := [n]) (len := 1) (parts := #[(0, .int .i64 n)]) (by kernel_rfl) (by kernel_rfl) rfl rfl (by decide) rfl rfl (by decide) (by decide) rInt_ok ⟨⟨rfl, rfl, hn⟩, trivial⟩
 exact ⟨l, u', h1, h3, h.step h3 t (rvI l [n]) (h2.low h.o.size) fun k hk => .inr (by rw [h4] at hk; injection hk with hk; injection hk with hk; have := (h2.blk h4).2; dsimp only at this; omega), by rw [h4]; simp, by omega⟩
theorem bld0 (h : G ws u mk f) (t : Nat) : ∃ l u', (Instr.buildSlice 26 0 #[]).run Tryz.prog u = .ok (Sl.v l) u' /\ Only [] u u' /\ G ws u' ((u.heap.size, u'.heap.size) :: mk) (upd3 f t (rvT l [])) /\ l.a ≠ none /\ l.c = l.n := by
 refine ⟨⟨some ⟨u.heap.size, 0, none⟩, 0, 0⟩, u.alloc (.cells #[] 9), ?_, Only.alloc _ _, h.step (Only.alloc _ _) t _ ?_ fun k hk => .inr ?_, by simp, rfl⟩
 · have ht : Tryz.prog.underlying 26 = some (.slice 9) := by kernel_rfl
   have hi : Tryz.prog.info? 9 = some Tryz.t9 := by kernel_rfl
   exact run_build0 u ht hi
 · exact .inr ⟨u.heap.size, [], [], rfl, h.o.size, Blk.alloc u _ [], by simp, rfl, Nat.le_refl _, Nat.zero_le _, trivial⟩
 · injection hk with hk
   injection hk with hk
   have : (u.alloc (.cells #[] 9)).heap.size = u.heap.size + 1 := by show (u.heap.push _).size = _; simp
   omega
theorem appT (h : G ws u mk f) (t : Nat) {l y : Sl} {xs ys : List (List UInt8)} (hf : f t = some (rvT l xs)) (ha : l.a ≠ none) (hc : l.c = l.n) (hy : SliceF rTx 1 ws F y ys) (hm : (xs.length + ys.length) * 16 <= 140737488355328) :
  ∃ l' u', (Builtin.append_ #[26, 26] 26 #[l.v, y.v]).run Tryz.prog u = .ok (Sl.v l') u' /\ Only [] u u' /\ G ws u' ((u.heap.size, u'.heap.size) :: mk) (upd3 f t (rvT l' (xs ++ ys))) := by
 obtain ⟨l', u', h1, h2, h3, h4⟩ := app_full (ty := 26) (P := Tryz.prog) (t := 26) (e := 9) (i := Tryz.t9) (bytes := 16) (r := rTx) (by kernel_rfl) (by kernel_rfl) rfl rfl rfl rfl rTx_ok (h.own t _ hf) ha hc (fun _ _ _ _ _ h => h) (SliceF.only rTx_ok (by decide) hy h.o (by simp)) h.o.size hm (by decide)
 refine ⟨l', u', h1, h3, h.step h3 t (rvT l' (xs ++ ys)) h2 fun k hk => ?_⟩
 rcases h4 with ⟨rfl, rfl⟩ | h4
 · exact .inl ⟨_, hf, hk⟩
 · right
   have := (h2.blk h4).2
   rw [h4] at hk
   injection hk with hk
   injection hk with hk
   dsimp only at this
   omega
theorem appIn (h : G ws u mk f) (t : Nat) {l y : Sl} {xs ys : List Int} (hf : f t = some (rvI l xs)) (ha : l.a ≠ none) (hc : l.c = l.n) (hy : SliceF rInt 1 ws F y ys) (hm : (xs.length + ys.length) * 8 <= 140737488355328) :
  ∃ l' u', (Builtin.append_ #[31, 31] 31 #[l.v, y.v]).run Tryz.prog u = .ok (Sl.v l') u' /\ Only [] u u' /\ G ws u' ((u.heap.size, u'.heap.size) :: mk) (upd3 f t (rvI l' (xs ++ ys))) := by
 obtain ⟨l', u', h1, h2, h3, h4⟩ := app_full (ty := 31) (P := Tryz.prog) (t := 31) (e := 3) (i := Tryz.t3) (bytes := 8) (r := rInt) (by kernel_rfl) (by kernel_rfl) rfl rfl rfl rfl rInt_ok (h.own t _ hf) ha hc (fun _ _ _ _ _ h => h) (SliceF.only rInt_ok (by decide) hy h.o (by simp)) h.o.size hm (by decide)
 refine ⟨l', u', h1, h3, h.step h3 t (rvI l' (xs ++ ys)) h2 fun k hk => ?_⟩
 rcases h4 with ⟨rfl, rfl⟩ | h4
 · exact .inl ⟨_, hf, hk⟩
 · right
   have := (h2.blk h4).2
   rw [h4] at hk
   injection hk with hk
   injection hk with hk
   dsimp only at this
   omega
end
theorem len_sum (l : List ByteArray) : l.length <= (l.map fun s => s.size + 1).sum := by
 induction l with
 | nil => exact Nat.zero_le _
 | cons a l ih => rw [List.map_cons, List.sum_cons, List.length_cons]; omega
theorem ealone_c {w : World} {x : Ex × Nat} {cs es : List Value} {a : List ByteArray × List Int × List ByteArray × Unit} (hx : rExU w (fun _ => True) x cs) (hb : x.2 <= 1048576) (he : rEnv w (fun _ => True) a es) (h1 : a.1.length <= 1048576) (h2 : a.2.1.length <= 1048576) (h3 : a.2.2.1.length <= 1048576)
  (nm : List UInt8) {n_ : Int} (hi : InI n_) (hE : Er w) : Calls Tryz.prog 4 #[.agg cs.toArray, .agg es.toArray, .string (T nm), .int .i64 n_] w fun e w' => e = .returned (.bool true) /\ Only [] w w' := by
 obtain ⟨d, hx, hn⟩ := hx
 obtain ⟨x, cnt⟩ := x
 obtain ⟨n1, n2, n3, un⟩ := a
 obtain ⟨c1, r1, rfl, ⟨s1, rfl, g1, b1⟩, c2, r2, rfl, ⟨s2, rfl, g2, b2⟩, c3, r3, rfl, ⟨s3, rfl, g3, b3⟩, hu⟩ := he
 have hu : r3 = [] := hu
 subst hu
 dsimp only at hx hn hb h1 h2 h3 g1 g2 g3
 obtain ⟨e, he⟩ : ∃ e : Env5, e = ⟨n1.map fun b => b.data.toList, n2, n3.map fun b => b.data.toList⟩ := ⟨_, rfl⟩
 have hN : SliceF rTx 1 w (fun _ => True) s1 e.N := by rw [he]; exact str_tx g1
 have hV : SliceF rInt 1 w (fun _ => True) s2 e.V := by rw [he]; exact g2
 have hA : SliceF rTx 1 w (fun _ => True) s3 e.A := by rw [he]; exact str_tx g3
 have lN : e.N.length <= 1048576 := by rw [he]; simpa using h1
 have lV : e.V.length <= 1048576 := by rw [he]; exact h2
 have lA : e.A.length <= 1048576 := by rw [he]; simpa using h3
 clear he g1 g2 g3 b1 b2 b3 h1 h2 h3
 cases d with
 | zero => exact hx.elim
 | succ d =>
 have hx0 := hx
 obtain ⟨sl, hcs, hsl⟩ := hx
 subst hcs
 refine ret (v33w x.k x.n (T x.s) x.op sl x.a s1 s2 s3 (T nm) n_ (fun v w' => v = .bool true /\ Only [] w w') w ?_)
 unfold v33v
 have hl : ∀ e, lenOk e x := fun e => (hn e).1
 have hm : ∀ e, cntM e x <= 1048576 := fun e => Nat.le_trans (hn e).2.2 hb
 have r2 : (nmR (d + 1) 2 x []).Pairwise (· < ·) := nmR_rise 2 _ x .nil
 have r3 : (nmR (d + 1) 3 x []).Pairwise (· < ·) := nmR_rise 3 _ x .nil
 have m2 : ∀ a, a ∈ nmR (d + 1) 2 x [] ↔ a ∈ nmsA (d + 1) 2 x := fun a => by rw [nmR_mem]; simp
 have m3 : ∀ a, a ∈ nmR (d + 1) 3 x [] ↔ a ∈ nmsA (d + 1) 3 x := fun a => by rw [nmR_mem]; simp
 generalize nmR (d + 1) 2 x [] = L2 at *
 generalize nmR (d + 1) 3 x [] = L3 at *
 intro k0 k1 w0 hk0 hk0' hk1 hk1' hO0
 have z0 := hO0.size
 refine (evsmall_c w0 (hE.only hO0)).mono ?_
 rintro _ w1 ⟨rfl, hO1⟩
 have z1 := hO1.size
 have o1 := hO0.tr0 hO1
 refine ⟨true, rfl, hO1.same (by simp; omega), (namesP_c (rEx_only hx0 o1) hl hm r2 r3 m2 m3).mono ?_⟩
 rintro _ w2 ⟨l0, l1, rfl, a0, a1, hO2⟩
 have z2 := hO2.size
 have o2 := o1.tr0 hO2
 have t0 := flatS a0
 have t1 := flatS a1
 have y0 := t0.len
 have y1 := t0.big
 have y2 := t0.cap
 have y3 := t1.len
 have y4 := t1.big
 have y5 := t1.cap
 refine ⟨l0, l1, rfl, hO2.same (by simp; omega), fun nv i u => ∃ n : Nat, i = (n : Int) /\ nv + n = L2.length /\ u = w2 /\ ∀ s, s ∈ L2.take n -> s ≠ nm, L2.length, ⟨0, rfl, rfl, rfl, by simp⟩, ?_⟩
 rintro nv _ w3 ⟨n, rfl, hnv, hu, hne⟩
 obtain rfl : w2 = w3 := hu.symm
 refine ⟨fun hlt => ?_, fun hge w4 hO4 => ?_⟩
 · have hlt := of_decide_eq_true hlt
   obtain ⟨p, s, cs, q1, q2, q3, q4, q5, q6⟩ := t0.get (Int.natCast_nonneg n) hlt
   have q6 : cs = [.string (T s)] := q6
   subst q6
   rw [Int.toNat_natCast] at q2
   refine ⟨p, q1, T s, q5, fun _ => ⟨rfl, o2⟩, fun hs => ⟨nv - 1, by omega, n + 1, by rw [wr' (by omega) (by omega)]; rfl, by omega, rfl, fun b hb => ?_⟩⟩
   rw [eq_T, decide_eq_false_iff_not] at hs
   rw [List.take_add_one, q2, List.mem_append] at hb
   rcases hb with hb | hb
   · exact hne b hb
   · have hb : b = s := by simpa using hb
     rw [hb]; exact hs
 have hge : ¬ (n : Int) < (l0.n : Int) := of_decide_eq_false hge
 have hn2 : n = L2.length := by omega
 subst hn2
 rw [List.take_length] at hne
 have hnm : nm ∉ nmsA (d + 1) 2 x := fun h => hne nm ((m2 nm).2 h) rfl
 have z4 := hO4.size
 have o4 := o2.tr0 hO4
 have hN4 := SliceF.only rTx_ok (by decide) hN o4 (by simp)
 have hV4 := SliceF.only rInt_ok (by decide) hV o4 (by simp)
 have hA4 := SliceF.only rTx_ok (by decide) hA o4 (by simp)
 have mN : ([nm].length + e.N.length) * 16 <= 140737488355328 := by rw [List.length_singleton]; omega
 have mV : ([n_].length + e.V.length) * 8 <= 140737488355328 := by rw [List.length_singleton]; omega
 have mA : (([] : List (List UInt8)).length + e.A.length) * 16 <= 140737488355328 := by rw [List.length_nil]; omega
 have sm : ∀ {u u' : World}, Only [] w4 u -> Only [] u u' -> Same [k0, k1] u u' := fun h1 h2 => h2.same (by have := h1.size; simp; omega)
 have nw : ∀ {u u' : World}, Only [] u u' -> Newer w4 u u' := fun h => ⟨h.size, fun k _ hk => h.block k hk (by simp)⟩
 have kp : ∀ {u u' : World}, Only [] u u' -> Keeps (fun k => k = k1) u u' := fun h k _ hk => h.block k hk (by simp)
 have gz : G w4 w4 [] fun _ => none := ⟨Only.refl _ _, fun t q h => (by cases h), fun t q k h => (by cases h), fun t t' q q' k _ h => (by cases h)⟩
 refine ⟨fun k => k = k1, fun mk l2 l3 l4 u => ∃ f, G w4 u mk f /\ f 1 = some (rvT l2 (nm :: e.N)) /\ f 2 = some (rvI l3 (n_ :: e.V)) /\ f 3 = some (rvT l4 e.A), ?_, rfl, rfl, rfl, ?_⟩
 · rintro mk l2 l3 l4 w5 ⟨f, hG, f1, f2, f3⟩ k5 hk5 hk5' hap w6 hO6
   have z5 := hG.o.size
   have z6 := hO6.size
   have i1 := hG.own 1 _ f1
   have i2 := hG.own 2 _ f2
   have i3 := hG.own 3 _ f3
   have ne1 : ∀ k, l2.a = some ⟨k, 0, none⟩ -> k ≠ k5 := fun k hk => (hG.inn 1 _ k f1 hk).apart hap
   have ne2 : ∀ k, l3.a = some ⟨k, 0, none⟩ -> k ≠ k5 := fun k hk => (hG.inn 2 _ k f2 hk).apart hap
   have ne3 : ∀ k, l4.a = some ⟨k, 0, none⟩ -> k ≠ k5 := fun k hk => (hG.inn 3 _ k f3 hk).apart hap
   have j1 : Own rTx 1 9 w4.heap.size w6 (fun _ => False) l2 (nm :: e.N) := i1.keep rTx_ok fun k hk hlt => hO6.block k hlt (by have := hk.elim False.elim fun h => ne1 k h.2; simpa using this)
   have j2 : Own rInt 1 3 w4.heap.size w6 (fun _ => False) l3 (n_ :: e.V) := i2.keep rInt_ok fun k hk hlt => hO6.block k hlt (by have := hk.elim False.elim fun h => ne2 k h.2; simpa using this)
   have j3 : Own rTx 1 9 w4.heap.size w6 (fun _ => False) l4 e.A := i3.keep rTx_ok fun k hk hlt => hO6.block k hlt (by have := hk.elim False.elim fun h => ne3 k h.2; simpa using this)
   have o6 : Only [] w w6 := (o4.trans hG.o (by simp)).trans hO6 fun x hx => .inr (by simp at hx; omega)
   have s1w := SliceF.only rTx_ok (by decide) (SliceF.only rTx_ok (by decide) (SliceF.only rTx_ok (by decide) (SliceF.inHeap rTx_ok t1 (by decide)) hO4 (by simp)) hG.o (by simp)) hO6 fun k hk _ hm => by simp at hm; omega
   refine ⟨fun nv b i u => ∃ n : Nat, i = (n : Int) /\ nv + n = L3.length /\ u = w6 /\ b = decide (nm ∈ L3.take n), L3.length, ⟨0, rfl, rfl, rfl, by simp⟩, ?_⟩
   rintro nv _ _ w7 ⟨n, rfl, hnv, hu, rfl⟩
   obtain rfl : w6 = w7 := hu.symm
   refine ⟨fun hlt => ?_, fun hge => ?_⟩
   · have hlt := of_decide_eq_true hlt
     obtain ⟨p, s, cs, q1, q2, q3, q4, q5, q6⟩ := s1w.get (Int.natCast_nonneg n) hlt
     have q6 : cs = [.string (T s)] := q6
     subst q6
     rw [Int.toNat_natCast] at q2
     refine ⟨p, fun _ => q1, T s, fun _ => q5, nv - 1, by omega, n + 1, by rw [wr' (by omega) (by omega)]; rfl, by omega, rfl, ?_⟩
     rw [eq_T, List.take_add_one, q2, Bool.eq_iff_iff]
     simp only [Bool.or_eq_true, decide_eq_true_eq, List.mem_append, Option.toList_some, List.mem_singleton]
     exact or_congr Iff.rfl eq_comm
   have hge : ¬ (n : Int) < (l1.n : Int) := of_decide_eq_false hge
   have hn3 : n = L3.length := by omega
   subst hn3
   rw [List.take_length]
   refine ⟨fun l5 l6 l7 u => Only [] w u /\ w6.heap.size <= u.heap.size /\ (∃ F, SliceF rTx 1 u F l5 (nm :: e.N) /\ ∀ k, F k -> w.heap.size <= k) /\ (∃ F, SliceF rInt 1 u F l6 (n_ :: e.V) /\ ∀ k, F k -> w.heap.size <= k) /\ ∃ A' F, SliceF rTx 1 u F l7 A' /\ (∀ k, F k -> w.heap.size <= k) /\ (A' = e.A ∨ (A' = e.A ++ [nm] /\ nm ∉ nmsA (d + 1) 3 x)), ?_, fun hb => ?_, fun hb => ?_⟩
   · rintro l5 l6 l7 w8 ⟨o8, z8, ⟨F1, v1, v1'⟩, ⟨F2, v2, v2'⟩, A', F3, v3, v3', hA'⟩
     refine (eval_c (rEx_only hx0 o8) (SliceF.only rTx_ok (by decide) hN o8 (by simp)) (SliceF.only rInt_ok (by decide) hV o8 (by simp)) (SliceF.only rTx_ok (by decide) hA o8 (by simp))).mono ?_
     rintro _ w9 ⟨rfl, hO9⟩
     have z9 := hO9.size
     have up : ∀ k, (F1 k ∨ F2 k) ∨ F3 k -> w.heap.size <= k := fun k h => h.elim (fun h => h.elim (v1' k) (v2' k)) (v3' k)
     refine ⟨_, _, rfl, hO9.same (by simp; omega), (eval_c (e := ⟨nm :: e.N, n_ :: e.V, A'⟩) (F := fun k => (F1 k ∨ F2 k) ∨ F3 k) (rEx_only hx0 (o8.tr0 hO9)) (SliceF.mono rTx_ok (SliceF.only rTx_ok (by decide) v1 hO9 (by simp)) fun k h => .inl (.inl h)) (SliceF.mono rInt_ok (SliceF.only rInt_ok (by decide) v2 hO9 (by simp)) fun k h => .inl (.inr h)) (SliceF.mono rTx_ok (SliceF.only rTx_ok (by decide) v3 hO9 (by simp)) fun k h => .inr h)).mono ?_⟩
     rintro _ w10 ⟨rfl, hO10⟩
     refine ⟨_, _, rfl, hO10.same (by simp; omega), ?_, (o8.tr0 hO9).tr0 hO10⟩
     rw [alone_law (n := n_) hnm hA']
     simp
   · have hb : nm ∉ L3 := by simpa using hb
     obtain ⟨y, w11, k1', k3, l9, w12, m1, m2', ⟨gs, m3', m4⟩, m5⟩ := app_one (P := Tryz.prog) (t := 26) (ty := 26) (e := 9) (i := Tryz.t9) (bytes := 16) (size := 1) (r := rTx) (G := fun _ => False) (v := .string (T nm)) (x := nm) (by kernel_rfl) (by kernel_rfl) rfl rfl rfl rfl (by decide) (by decide) (by decide) rTx_ok j3 (by omega) rfl rfl (fun _ h => h.elim) (by omega)
     have z11 := k3.size
     have z12 := m3'.size
     refine ⟨y, w11, k1', k3.same (by simp; omega), l9, w12, m1, m3'.same (fun q hq => ⟨by simp at hq; omega, fun hg => ?_⟩), fun w13 hO13 => ?_⟩
     · have := m4 q hg
       have := ne3 q this.1
       simp at hq
       omega
     · have z13 := hO13.size
       have oG : Only [] w w13 := ((o6.tr0 k3).trans m3' fun q hq => .inr (by have := m4 q hq; omega)).trans hO13 fun q hq => .inr (by simp at hq; omega)
       have n1 : Own rTx 1 9 w4.heap.size w13 (fun _ => False) l2 (nm :: e.N) := ((ownK j1 k3).keep (w' := w12) rTx_ok fun k hk hlt => m3'.block k hlt fun hg => hk.elim False.elim fun h => hG.dis 1 3 _ _ k (by decide) f1 f3 h.2 (m4 k hg).1).keep rTx_ok fun k hk hlt => hO13.block k hlt (by have := hk.elim False.elim fun h => ne1 k h.2; simpa using this)
       have n2 : Own rInt 1 3 w4.heap.size w13 (fun _ => False) l3 (n_ :: e.V) := ((j2.keep (w' := w11) rInt_ok fun k _ hlt => k3.block k hlt (by simp)).keep (w' := w12) rInt_ok fun k hk hlt => m3'.block k hlt fun hg => hk.elim False.elim fun h => hG.dis 2 3 _ _ k (by decide) f2 f3 h.2 (m4 k hg).1).keep rInt_ok fun k hk hlt => hO13.block k hlt (by have := hk.elim False.elim fun h => ne2 k h.2; simpa using this)
       refine ⟨oG, by omega, ⟨_, flatS n1, fun k hk => by have := hk.1; omega⟩, ⟨_, flatO rInt_ok (fun _ _ _ _ _ h => h) n2, fun k hk => by have := hk.1; omega⟩, e.A ++ [nm], _, SliceF.keep rTx_ok (flatS m2') (by decide) fun k hk hlt => hO13.block k hlt ?_, fun k hk => by have := hk.1; omega, .inr ⟨rfl, fun h => hb ((m3 nm).2 h)⟩⟩
       have hk2 := hk.2
       rcases m5 with h | ⟨g, h, hg⟩
       · rw [h] at hk2
         simpa using ne3 k hk2
       · rw [h] at hk2
         injection hk2 with hk2
         injection hk2 with hk2
         simp
         omega
   · exact ⟨o6, Nat.le_refl _, ⟨_, flatS j1, fun k hk => by have := hk.1; omega⟩, ⟨_, flatO rInt_ok (fun _ _ _ _ _ h => h) j2, fun k hk => by have := hk.1; omega⟩, e.A, _, flatS j3, fun k hk => by have := hk.1; omega, .inl rfl⟩
 · skip
   refine ⟨?_, ?_, ?_⟩
   · skip
     intro u1 o1
     have g1 := gz.skip o1
     obtain ⟨l1, v1, e1, q1, h1, a1, c1⟩ := bldT g1 1 nm
     refine ⟨l1, v1, e1, sm g1.o q1, nw q1, kp q1, ?_⟩
     refine ⟨?_, ?_, ?_⟩
     · skip
       intro u2 o2
       have g2 := h1.skip o2
       obtain ⟨l2, v2, e2, q2, h2⟩ := appT g2 1 (xs := [nm]) rfl a1 c1 hN4 mN
       refine ⟨l2, v2, e2, sm g2.o q2, nw q2, kp q2, ?_⟩
       refine ⟨?_, ?_⟩
       · skip
         intro u3 o3
         have g3 := h2.skip o3
         obtain ⟨l3, v3, e3, q3, h3, a2, c2⟩ := bldI g3 2 hi
         refine ⟨l3, v3, e3, sm g3.o q3, nw q3, kp q3, ?_⟩
         refine ⟨?_, ?_⟩
         · skip
           intro u4 o4
           have g4 := h3.skip o4
           obtain ⟨l4, v4, e4, q4, h4⟩ := appIn g4 2 (xs := [n_]) rfl a2 c2 hV4 mV
           refine ⟨l4, v4, e4, sm g4.o q4, nw q4, kp q4, ?_⟩
           intro u5 o5
           have g5 := h4.skip o5
           obtain ⟨l5, v5, e5, q5, h5, a3, c3⟩ := bld0 g5 3
           refine ⟨l5, v5, e5, sm g5.o q5, nw q5, kp q5, ?_⟩
           intro u6 o6
           have g6 := h5.skip o6
           obtain ⟨l6, v6, e6, q6, h6⟩ := appT g6 3 (xs := []) rfl a3 c3 hA4 mA
           refine ⟨l6, v6, e6, sm g6.o q6, nw q6, kp q6, ?_⟩
           intro u o
           exact ⟨_, h6.skip o, rfl, rfl, rfl⟩
         · skip
           intro u7 o7
           have g7 := h3.skip o7
           obtain ⟨l7, v7, e7, q7, h7, a3, c3⟩ := bld0 g7 3
           refine ⟨l7, v7, e7, sm g7.o q7, nw q7, kp q7, ?_⟩
           intro u8 o8
           have g8 := h7.skip o8
           obtain ⟨l8, v8, e8, q8, h8⟩ := appIn g8 2 (xs := [n_]) rfl a2 c2 hV4 mV
           refine ⟨l8, v8, e8, sm g8.o q8, nw q8, kp q8, ?_⟩
           intro u9 o9
           have g9 := h8.skip o9
           obtain ⟨l9, v9, e9, q9, h9⟩ := appT g9 3 (xs := []) rfl a3 c3 hA4 mA
           refine ⟨l9, v9, e9, sm g9.o q9, nw q9, kp q9, ?_⟩
           intro u o
           exact ⟨_, h9.skip o, rfl, rfl, rfl⟩
       · skip
         intro u10 o10
         have g10 := h2.skip o10
         obtain ⟨l10, v10, e10, q10, h10, a3, c3⟩ := bld0 g10 3
         refine ⟨l10, v10, e10, sm g10.o q10, nw q10, kp q10, ?_⟩
         intro u11 o11
         have g11 := h10.skip o11
         obtain ⟨l11, v11, e11, q11, h11, a2, c2⟩ := bldI g11 2 hi
         refine ⟨l11, v11, e11, sm g11.o q11, nw q11, kp q11, ?_⟩
         intro u12 o12
         have g12 := h11.skip o12
         obtain ⟨l12, v12, e12, q12, h12⟩ := appIn g12 2 (xs := [n_]) rfl a2 c2 hV4 mV
         refine ⟨l12, v12, e12, sm g12.o q12, nw q12, kp q12, ?_⟩
         intro u13 o13
         have g13 := h12.skip o13
         obtain ⟨l13, v13, e13, q13, h13⟩ := appT g13 3 (xs := []) rfl a3 c3 hA4 mA
         refine ⟨l13, v13, e13, sm g13.o q13, nw q13, kp q13, ?_⟩
         intro u o
         exact ⟨_, h13.skip o, rfl, rfl, rfl⟩
     · skip
       intro u14 o14
       have g14 := h1.skip o14
       obtain ⟨l14, v14, e14, q14, h14, a2, c2⟩ := bldI g14 2 hi
       refine ⟨l14, v14, e14, sm g14.o q14, nw q14, kp q14, ?_⟩
       refine ⟨?_, ?_⟩
       · skip
         intro u15 o15
         have g15 := h14.skip o15
         obtain ⟨l15, v15, e15, q15, h15⟩ := appT g15 1 (xs := [nm]) rfl a1 c1 hN4 mN
         refine ⟨l15, v15, e15, sm g15.o q15, nw q15, kp q15, ?_⟩
         refine ⟨?_, ?_⟩
         · skip
           intro u16 o16
           have g16 := h15.skip o16
           obtain ⟨l16, v16, e16, q16, h16⟩ := appIn g16 2 (xs := [n_]) rfl a2 c2 hV4 mV
           refine ⟨l16, v16, e16, sm g16.o q16, nw q16, kp q16, ?_⟩
           intro u17 o17
           have g17 := h16.skip o17
           obtain ⟨l17, v17, e17, q17, h17, a3, c3⟩ := bld0 g17 3
           refine ⟨l17, v17, e17, sm g17.o q17, nw q17, kp q17, ?_⟩
           intro u18 o18
           have g18 := h17.skip o18
           obtain ⟨l18, v18, e18, q18, h18⟩ := appT g18 3 (xs := []) rfl a3 c3 hA4 mA
           refine ⟨l18, v18, e18, sm g18.o q18, nw q18, kp q18, ?_⟩
           intro u o
           exact ⟨_, h18.skip o, rfl, rfl, rfl⟩
         · skip
           intro u19 o19
           have g19 := h15.skip o19
           obtain ⟨l19, v19, e19, q19, h19, a3, c3⟩ := bld0 g19 3
           refine ⟨l19, v19, e19, sm g19.o q19, nw q19, kp q19, ?_⟩
           intro u20 o20
           have g20 := h19.skip o20
           obtain ⟨l20, v20, e20, q20, h20⟩ := appIn g20 2 (xs := [n_]) rfl a2 c2 hV4 mV
           refine ⟨l20, v20, e20, sm g20.o q20, nw q20, kp q20, ?_⟩
           intro u21 o21
           have g21 := h20.skip o21
           obtain ⟨l21, v21, e21, q21, h21⟩ := appT g21 3 (xs := []) rfl a3 c3 hA4 mA
           refine ⟨l21, v21, e21, sm g21.o q21, nw q21, kp q21, ?_⟩
           intro u o
           exact ⟨_, h21.skip o, rfl, rfl, rfl⟩
       · skip
         intro u22 o22
         have g22 := h14.skip o22
         obtain ⟨l22, v22, e22, q22, h22, a3, c3⟩ := bld0 g22 3
         refine ⟨l22, v22, e22, sm g22.o q22, nw q22, kp q22, ?_⟩
         intro u23 o23
         have g23 := h22.skip o23
         obtain ⟨l23, v23, e23, q23, h23⟩ := appT g23 1 (xs := [nm]) rfl a1 c1 hN4 mN
         refine ⟨l23, v23, e23, sm g23.o q23, nw q23, kp q23, ?_⟩
         intro u24 o24
         have g24 := h23.skip o24
         obtain ⟨l24, v24, e24, q24, h24⟩ := appIn g24 2 (xs := [n_]) rfl a2 c2 hV4 mV
         refine ⟨l24, v24, e24, sm g24.o q24, nw q24, kp q24, ?_⟩
         intro u25 o25
         have g25 := h24.skip o25
         obtain ⟨l25, v25, e25, q25, h25⟩ := appT g25 3 (xs := []) rfl a3 c3 hA4 mA
         refine ⟨l25, v25, e25, sm g25.o q25, nw q25, kp q25, ?_⟩
         intro u o
         exact ⟨_, h25.skip o, rfl, rfl, rfl⟩
     · skip
       intro u26 o26
       have g26 := h1.skip o26
       obtain ⟨l26, v26, e26, q26, h26, a3, c3⟩ := bld0 g26 3
       refine ⟨l26, v26, e26, sm g26.o q26, nw q26, kp q26, ?_⟩
       refine ⟨?_, ?_⟩
       · skip
         intro u27 o27
         have g27 := h26.skip o27
         obtain ⟨l27, v27, e27, q27, h27⟩ := appT g27 1 (xs := [nm]) rfl a1 c1 hN4 mN
         refine ⟨l27, v27, e27, sm g27.o q27, nw q27, kp q27, ?_⟩
         intro u28 o28
         have g28 := h27.skip o28
         obtain ⟨l28, v28, e28, q28, h28, a2, c2⟩ := bldI g28 2 hi
         refine ⟨l28, v28, e28, sm g28.o q28, nw q28, kp q28, ?_⟩
         intro u29 o29
         have g29 := h28.skip o29
         obtain ⟨l29, v29, e29, q29, h29⟩ := appIn g29 2 (xs := [n_]) rfl a2 c2 hV4 mV
         refine ⟨l29, v29, e29, sm g29.o q29, nw q29, kp q29, ?_⟩
         intro u30 o30
         have g30 := h29.skip o30
         obtain ⟨l30, v30, e30, q30, h30⟩ := appT g30 3 (xs := []) rfl a3 c3 hA4 mA
         refine ⟨l30, v30, e30, sm g30.o q30, nw q30, kp q30, ?_⟩
         intro u o
         exact ⟨_, h30.skip o, rfl, rfl, rfl⟩
       · skip
         intro u31 o31
         have g31 := h26.skip o31
         obtain ⟨l31, v31, e31, q31, h31, a2, c2⟩ := bldI g31 2 hi
         refine ⟨l31, v31, e31, sm g31.o q31, nw q31, kp q31, ?_⟩
         intro u32 o32
         have g32 := h31.skip o32
         obtain ⟨l32, v32, e32, q32, h32⟩ := appT g32 1 (xs := [nm]) rfl a1 c1 hN4 mN
         refine ⟨l32, v32, e32, sm g32.o q32, nw q32, kp q32, ?_⟩
         intro u33 o33
         have g33 := h32.skip o33
         obtain ⟨l33, v33, e33, q33, h33⟩ := appIn g33 2 (xs := [n_]) rfl a2 c2 hV4 mV
         refine ⟨l33, v33, e33, sm g33.o q33, nw q33, kp q33, ?_⟩
         intro u34 o34
         have g34 := h33.skip o34
         obtain ⟨l34, v34, e34, q34, h34⟩ := appT g34 3 (xs := []) rfl a3 c3 hA4 mA
         refine ⟨l34, v34, e34, sm g34.o q34, nw q34, kp q34, ?_⟩
         intro u o
         exact ⟨_, h34.skip o, rfl, rfl, rfl⟩
   · skip
     intro u35 o35
     have g35 := gz.skip o35
     obtain ⟨l35, v35, e35, q35, h35, a2, c2⟩ := bldI g35 2 hi
     refine ⟨l35, v35, e35, sm g35.o q35, nw q35, kp q35, ?_⟩
     refine ⟨?_, ?_⟩
     · skip
       intro u36 o36
       have g36 := h35.skip o36
       obtain ⟨l36, v36, e36, q36, h36, a1, c1⟩ := bldT g36 1 nm
       refine ⟨l36, v36, e36, sm g36.o q36, nw q36, kp q36, ?_⟩
       refine ⟨?_, ?_⟩
       · skip
         intro u37 o37
         have g37 := h36.skip o37
         obtain ⟨l37, v37, e37, q37, h37⟩ := appT g37 1 (xs := [nm]) rfl a1 c1 hN4 mN
         refine ⟨l37, v37, e37, sm g37.o q37, nw q37, kp q37, ?_⟩
         refine ⟨?_, ?_⟩
         · skip
           intro u38 o38
           have g38 := h37.skip o38
           obtain ⟨l38, v38, e38, q38, h38⟩ := appIn g38 2 (xs := [n_]) rfl a2 c2 hV4 mV
           refine ⟨l38, v38, e38, sm g38.o q38, nw q38, kp q38, ?_⟩
           intro u39 o39
           have g39 := h38.skip o39
           obtain ⟨l39, v39, e39, q39, h39, a3, c3⟩ := bld0 g39 3
           refine ⟨l39, v39, e39, sm g39.o q39, nw q39, kp q39, ?_⟩
           intro u40 o40
           have g40 := h39.skip o40
           obtain ⟨l40, v40, e40, q40, h40⟩ := appT g40 3 (xs := []) rfl a3 c3 hA4 mA
           refine ⟨l40, v40, e40, sm g40.o q40, nw q40, kp q40, ?_⟩
           intro u o
           exact ⟨_, h40.skip o, rfl, rfl, rfl⟩
         · skip
           intro u41 o41
           have g41 := h37.skip o41
           obtain ⟨l41, v41, e41, q41, h41, a3, c3⟩ := bld0 g41 3
           refine ⟨l41, v41, e41, sm g41.o q41, nw q41, kp q41, ?_⟩
           intro u42 o42
           have g42 := h41.skip o42
           obtain ⟨l42, v42, e42, q42, h42⟩ := appIn g42 2 (xs := [n_]) rfl a2 c2 hV4 mV
           refine ⟨l42, v42, e42, sm g42.o q42, nw q42, kp q42, ?_⟩
           intro u43 o43
           have g43 := h42.skip o43
           obtain ⟨l43, v43, e43, q43, h43⟩ := appT g43 3 (xs := []) rfl a3 c3 hA4 mA
           refine ⟨l43, v43, e43, sm g43.o q43, nw q43, kp q43, ?_⟩
           intro u o
           exact ⟨_, h43.skip o, rfl, rfl, rfl⟩
       · skip
         intro u44 o44
         have g44 := h36.skip o44
         obtain ⟨l44, v44, e44, q44, h44, a3, c3⟩ := bld0 g44 3
         refine ⟨l44, v44, e44, sm g44.o q44, nw q44, kp q44, ?_⟩
         intro u45 o45
         have g45 := h44.skip o45
         obtain ⟨l45, v45, e45, q45, h45⟩ := appT g45 1 (xs := [nm]) rfl a1 c1 hN4 mN
         refine ⟨l45, v45, e45, sm g45.o q45, nw q45, kp q45, ?_⟩
         intro u46 o46
         have g46 := h45.skip o46
         obtain ⟨l46, v46, e46, q46, h46⟩ := appIn g46 2 (xs := [n_]) rfl a2 c2 hV4 mV
         refine ⟨l46, v46, e46, sm g46.o q46, nw q46, kp q46, ?_⟩
         intro u47 o47
         have g47 := h46.skip o47
         obtain ⟨l47, v47, e47, q47, h47⟩ := appT g47 3 (xs := []) rfl a3 c3 hA4 mA
         refine ⟨l47, v47, e47, sm g47.o q47, nw q47, kp q47, ?_⟩
         intro u o
         exact ⟨_, h47.skip o, rfl, rfl, rfl⟩
     · skip
       intro u48 o48
       have g48 := h35.skip o48
       obtain ⟨l48, v48, e48, q48, h48, a3, c3⟩ := bld0 g48 3
       refine ⟨l48, v48, e48, sm g48.o q48, nw q48, kp q48, ?_⟩
       intro u49 o49
       have g49 := h48.skip o49
       obtain ⟨l49, v49, e49, q49, h49, a1, c1⟩ := bldT g49 1 nm
       refine ⟨l49, v49, e49, sm g49.o q49, nw q49, kp q49, ?_⟩
       intro u50 o50
       have g50 := h49.skip o50
       obtain ⟨l50, v50, e50, q50, h50⟩ := appT g50 1 (xs := [nm]) rfl a1 c1 hN4 mN
       refine ⟨l50, v50, e50, sm g50.o q50, nw q50, kp q50, ?_⟩
       intro u51 o51
       have g51 := h50.skip o51
       obtain ⟨l51, v51, e51, q51, h51⟩ := appIn g51 2 (xs := [n_]) rfl a2 c2 hV4 mV
       refine ⟨l51, v51, e51, sm g51.o q51, nw q51, kp q51, ?_⟩
       intro u52 o52
       have g52 := h51.skip o52
       obtain ⟨l52, v52, e52, q52, h52⟩ := appT g52 3 (xs := []) rfl a3 c3 hA4 mA
       refine ⟨l52, v52, e52, sm g52.o q52, nw q52, kp q52, ?_⟩
       intro u o
       exact ⟨_, h52.skip o, rfl, rfl, rfl⟩
   · skip
     intro u53 o53
     have g53 := gz.skip o53
     obtain ⟨l53, v53, e53, q53, h53, a3, c3⟩ := bld0 g53 3
     refine ⟨l53, v53, e53, sm g53.o q53, nw q53, kp q53, ?_⟩
     refine ⟨?_, ?_⟩
     · skip
       intro u54 o54
       have g54 := h53.skip o54
       obtain ⟨l54, v54, e54, q54, h54, a1, c1⟩ := bldT g54 1 nm
       refine ⟨l54, v54, e54, sm g54.o q54, nw q54, kp q54, ?_⟩
       refine ⟨?_, ?_⟩
       · skip
         intro u55 o55
         have g55 := h54.skip o55
         obtain ⟨l55, v55, e55, q55, h55⟩ := appT g55 1 (xs := [nm]) rfl a1 c1 hN4 mN
         refine ⟨l55, v55, e55, sm g55.o q55, nw q55, kp q55, ?_⟩
         intro u56 o56
         have g56 := h55.skip o56
         obtain ⟨l56, v56, e56, q56, h56, a2, c2⟩ := bldI g56 2 hi
         refine ⟨l56, v56, e56, sm g56.o q56, nw q56, kp q56, ?_⟩
         intro u57 o57
         have g57 := h56.skip o57
         obtain ⟨l57, v57, e57, q57, h57⟩ := appIn g57 2 (xs := [n_]) rfl a2 c2 hV4 mV
         refine ⟨l57, v57, e57, sm g57.o q57, nw q57, kp q57, ?_⟩
         intro u58 o58
         have g58 := h57.skip o58
         obtain ⟨l58, v58, e58, q58, h58⟩ := appT g58 3 (xs := []) rfl a3 c3 hA4 mA
         refine ⟨l58, v58, e58, sm g58.o q58, nw q58, kp q58, ?_⟩
         intro u o
         exact ⟨_, h58.skip o, rfl, rfl, rfl⟩
       · skip
         intro u59 o59
         have g59 := h54.skip o59
         obtain ⟨l59, v59, e59, q59, h59, a2, c2⟩ := bldI g59 2 hi
         refine ⟨l59, v59, e59, sm g59.o q59, nw q59, kp q59, ?_⟩
         intro u60 o60
         have g60 := h59.skip o60
         obtain ⟨l60, v60, e60, q60, h60⟩ := appT g60 1 (xs := [nm]) rfl a1 c1 hN4 mN
         refine ⟨l60, v60, e60, sm g60.o q60, nw q60, kp q60, ?_⟩
         intro u61 o61
         have g61 := h60.skip o61
         obtain ⟨l61, v61, e61, q61, h61⟩ := appIn g61 2 (xs := [n_]) rfl a2 c2 hV4 mV
         refine ⟨l61, v61, e61, sm g61.o q61, nw q61, kp q61, ?_⟩
         intro u62 o62
         have g62 := h61.skip o62
         obtain ⟨l62, v62, e62, q62, h62⟩ := appT g62 3 (xs := []) rfl a3 c3 hA4 mA
         refine ⟨l62, v62, e62, sm g62.o q62, nw q62, kp q62, ?_⟩
         intro u o
         exact ⟨_, h62.skip o, rfl, rfl, rfl⟩
     · skip
       intro u63 o63
       have g63 := h53.skip o63
       obtain ⟨l63, v63, e63, q63, h63, a2, c2⟩ := bldI g63 2 hi
       refine ⟨l63, v63, e63, sm g63.o q63, nw q63, kp q63, ?_⟩
       intro u64 o64
       have g64 := h63.skip o64
       obtain ⟨l64, v64, e64, q64, h64, a1, c1⟩ := bldT g64 1 nm
       refine ⟨l64, v64, e64, sm g64.o q64, nw q64, kp q64, ?_⟩
       intro u65 o65
       have g65 := h64.skip o65
       obtain ⟨l65, v65, e65, q65, h65⟩ := appT g65 1 (xs := [nm]) rfl a1 c1 hN4 mN
       refine ⟨l65, v65, e65, sm g65.o q65, nw q65, kp q65, ?_⟩
       intro u66 o66
       have g66 := h65.skip o66
       obtain ⟨l66, v66, e66, q66, h66⟩ := appIn g66 2 (xs := [n_]) rfl a2 c2 hV4 mV
       refine ⟨l66, v66, e66, sm g66.o q66, nw q66, kp q66, ?_⟩
       intro u67 o67
       have g67 := h66.skip o67
       obtain ⟨l67, v67, e67, q67, h67⟩ := appT g67 3 (xs := []) rfl a3 c3 hA4 mA
       refine ⟨l67, v67, e67, sm g67.o q67, nw q67, kp q67, ?_⟩
       intro u o
       exact ⟨_, h67.skip o, rfl, rfl, rfl⟩
end Go.Proofs.YtfknfhajdiccgaaGreatDoor.Con
