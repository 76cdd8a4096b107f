/-
  Own work: the document's answer for scan: tokens, names, rows alike; the laws' small case.
-/
import Derived.Test.YtdlcmgbidoabmaaGreatDoorRef2
namespace Go.Proofs.YtdlcmgbidoabmaaGreatDoor.Con
open Go Go.RowKit Go.Kt Go.Kt.V Go.Proofs.YtdlcmgbidoabmaaGreatDoor.Vc
set_option linter.unusedSimpArgs false
set_option linter.unusedVariables false
set_option maxHeartbeats 4000000

/-- what token tells -/
def RTok (i : Nat) (r : Except Int Tq) (v : Value) : Prop := match r with
  | .error e => v = .tuple #[.agg #[.int .i64 0, .string (T []), .int .i64 0, .int .i64 0], .int .i64 0, .int .i64 e]
  | .ok q => v = .tuple #[.agg #[.int .i64 q.1, .string (T q.2.1), .int .i64 q.2.2.1, .int .i64 (i : Int)], .int .i64 (q.2.2.2 : Int), .int .i64 0]
theorem rtoken_c (w : World) (l : List UInt8) (i : Nat) (hi : i < l.length) (hl : l.length ≤ 16384) :
    Calls Tryz.prog 41 #[.string (T l), .int .i64 (i : Int)] w fun e w' => ∃ v, e = .returned v ∧ RTok i (tokR (l.drop i)) v ∧ Only [] w w' := by
  refine pavaneref04_token_wp (T l) i (fun v w' => RTok i (tokR (l.drop i)) v ∧ Only [] w w') w ?_
  unfold pavaneref04_token_vc
  have hx : l[i]? = some l[i] := List.getElem?_eq_getElem hi
  generalize l[i] = x at hx
  have hdl : (l.drop i).length = l.length - i := List.length_drop
  have ht : tokR (l.drop i) = if letterB x then wordR (l.drop i) else if digitB x then numR (l.drop i) else signR (l.drop i) := by
    rw [drop_cons hx]; rfl
  rw [ht]
  have hg : 0 ≤ (i : Int) ∧ (T l)[Int.toNat (i : Int)]? = some x := ⟨Int.natCast_nonneg i, by rw [T_get, Int.toNat_natCast, hx]⟩
  refine ⟨x, hg, fun k1 w0 hk1 hk1' hO0 => (rletter_c w0 x).mono ?_⟩
  rintro _ w1 ⟨rfl, hO1⟩
  have new : ∀ {u u' : World}, Only [] w u → Only [k1] u u' → Only [] w u' := fun h k => h.trans k fun y hy => .inr (by simp only [List.mem_singleton] at hy; omega)
  have sm : ∀ {u u' : World}, Only [] w0 u → Only [] u u' → Same [k1] u u' := fun h0 h => h.same (by have := h0.size; simp; omega)
  refine ⟨_, rfl, sm (Only.refl _ _) hO1, x, hg, (rdigit_c w1 x).mono ?_⟩
  rintro _ w2 ⟨rfl, hO2⟩
  have h02 := hO1.tr0 hO2
  refine ⟨_, rfl, sm hO1 hO2, fun hb => ?_, fun hb => ⟨fun hd => ⟨i, ⟨rfl, by rw [T_size]; omega⟩, ?_⟩, fun hd => ?_⟩⟩
  · rw [if_pos hb]
    refine (rrow_c w2 l i (by omega) (by omega)).mono ?_
    rintro _ w3 ⟨rfl, hO3⟩
    have hwl : ((l.drop i).takeWhile wordB).length ≤ l.length - i := by
      have := while_len (p := wordB) (l := l.drop i)
      rwa [hdl] at this
    have ex : (T l).extract i (i + ((l.drop i).takeWhile wordB).length) = T ((l.drop i).takeWhile wordB) := by
      rw [T_ext, Nat.add_sub_cancel_left, ← while_take]
    refine ⟨_, rfl, sm h02 hO3, i, i + ((l.drop i).takeWhile wordB).length, ⟨rfl, by rw [wr' (by omega) (by omega)]; omega, by omega, by rw [T_size]; omega⟩, fun k5 w4 hk5 hk5' hO4 => ?_⟩
    have h04 := h02.tr0 (hO3.tr0 hO4)
    rw [ex]
    refine (rword_c w4 _).mono ?_
    rintro _ w5 ⟨rfl, hO5⟩
    have h05 := h04.tr0 hO5
    have z4 := h04.size
    unfold wordR
    generalize hm : (l.drop i).takeWhile wordB = m at *
    refine ⟨_, rfl, hO5.same (by simp; omega), fun k s n a w' => k = (if wordsL.contains m then 2 else 1 : Int) ∧ s = T m ∧ n = 0 ∧ a = (i : Int) ∧ Only [] w w', ?_, fun hc w9 hO9 => ⟨by rw [if_pos hc], rfl, rfl, rfl, (hO0.tr0 h05).trans hO9 fun y hy => .inr (by simp only [List.mem_singleton] at hy; have := hO0.size; have := hO3.size; have := h02.size; omega)⟩, fun hc => ⟨by rw [hc]; rfl, rfl, rfl, rfl, hO0.tr0 h05⟩⟩
    rintro _ _ _ _ w6 ⟨rfl, rfl, rfl, rfl, hO6⟩
    refine ⟨fun hc w7 hO7 => ⟨?_, new hO6 hO7⟩, fun hc w8 hO8 => ⟨?_, new hO6 hO8⟩⟩
    · rw [if_pos (by have := of_decide_eq_true hc; omega)]; rfl
    · rw [if_neg (by have := of_decide_eq_false hc; omega)]; rfl
  · rw [if_neg (by rw [hb]; decide), if_pos hd]
    have ex : (T l).extract i (T l).size = T (l.drop i) := by rw [T_ext, T_size, List.take_of_length_le (by omega)]
    rw [ex]
    refine (rparse_c w2 (l.drop i) (by omega)).mono ?_
    rintro _ w10 ⟨rfl, hO10⟩
    have h10 := h02.tr0 hO10
    unfold numR
    refine ⟨_, _, _, rfl, sm h02 hO10, fun he w11 hO11 => ⟨?_, new (hO0.tr0 h10) hO11⟩, fun he => (rrow_c w10 l i (by omega) (by omega)).mono ?_⟩
    · rw [if_pos (by simpa using he)]; rfl
    rintro _ w12 ⟨rfl, hO12⟩
    have h12 := h10.tr0 hO12
    rw [if_neg (by simpa using he)]
    refine ⟨_, rfl, sm h10 hO12, fun hc w13 hO13 => ⟨?_, new (hO0.tr0 h12) hO13⟩, fun hc w14 hO14 => ⟨?_, new (hO0.tr0 h12) hO14⟩⟩
    · rw [if_pos (by have := of_decide_eq_true hc; omega)]; rfl
    · rw [if_neg (by have := of_decide_eq_false hc; omega)]; rfl
  · rw [if_neg (by rw [hb]; decide), if_neg (by rw [hd]; decide)]
    refine (rsign_c w2 l i hi (by omega)).mono ?_
    rintro _ w15 ⟨rfl, hO15⟩
    have h15 := h02.tr0 hO15
    have hn := signN_le (m := l.drop i)
    have ex : (T l).extract i (i + signN (l.drop i)) = T ((l.drop i).take (signN (l.drop i))) := by rw [T_ext, Nat.add_sub_cancel_left]
    unfold signR
    refine ⟨_, rfl, sm h02 hO15, fun hz w16 hO16 => ⟨?_, new (hO0.tr0 h15) hO16⟩, fun hz => ⟨i, i + signN (l.drop i), ⟨rfl, by rw [wr' (by omega) (by omega)]; omega, by omega, by rw [T_size]; omega⟩, fun w17 hO17 => ⟨?_, new (hO0.tr0 h15) hO17⟩⟩⟩
    · rw [if_pos (by have : (signN (l.drop i) : Int) = 0 := by simpa using hz
                     omega)]; rfl
    · rw [if_neg (by rintro e; rw [e] at hz; simp at hz), ex]; rfl
theorem rtokens_c (w : World) (l : List UInt8) :
    Calls Tryz.prog 25 #[.string (T l)] w fun e w' => ∃ rs : Sl, e = .returned (.tuple #[rs.v, .agg #[.int .i64 (tokensM l).2.1, .int .i64 (tokensM l).2.2]]) ∧ OwnK w.heap.size w' rs (tokensM l).1 ∧ Only [] w w' := by
  refine (pavaneref04_Tokens_wp (T l) (fun v w' => ∃ rs : Sl, v = (.tuple #[rs.v, .agg #[.int .i64 (tokensM l).2.1, .int .i64 (tokensM l).2.2]]) ∧ OwnK w.heap.size w' rs (tokensM l).1 ∧ Only [] w w') w ?_).mono (by
    rintro e w' ⟨v, rfl, rs, rfl, h⟩; exact ⟨rs, rfl, h⟩)
  unfold pavaneref04_Tokens_vc
  rw [T_size]
  refine ⟨fun hc k0 w0 _ _ hO => ⟨Sl.nil, ?_, ?_, hO⟩, fun hc k1 w1 hk1 hk1' hO1 => ?_⟩
  · rw [tokensM, if_pos (by have := of_decide_eq_true hc; omega)]
  · rw [tokensM, if_pos (by have := of_decide_eq_true hc; omega)]
    exact Own.nil _ _ _ _ _ _
  have hll : l.length ≤ 16384 := by have := of_decide_eq_false hc; omega
  have htm : tokensM l = match toks l 0 with
    | .error x => ([], x.1, (x.2 : Nat))
    | .ok r => (r, 0, 0) := by
      rw [tokensM, if_neg (by omega)] <;> rfl
  refine (rblanks_c w1 l 0 (Nat.zero_le _) (by omega)).mono ?_
  rintro _ w2 ⟨rfl, hO2⟩
  have z1 := hO1.size
  refine ⟨_, rfl, hO2.same (by simp; omega), fun nv s i e1 e2 w' => e1 = 0 ∧ e2 = 0 ∧ ∃ (j : Nat) (acc : List Tk), i = (j : Int) ∧ j ≤ l.length ∧ acc.length ≤ j ∧ skN false (l.drop j) = 0 ∧ toks l 0 = pre acc (toks l j) ∧ nv = l.length - j ∧ OwnK w1.heap.size w' s acc ∧ Only [] w1 w', l.length - (0 + skN false (l.drop 0)), ?_, ?_⟩
  · refine ⟨rfl, rfl, _, [], rfl, sk_in (Nat.zero_le _), Nat.zero_le _, ?_, ?_, rfl, Own.nil _ _ _ _ _ _, hO2⟩
    · rw [← List.drop_drop]
      exact sk_idem false (l.drop 0)
    · rw [← toks_skip (Nat.zero_le _)]
      cases toks l 0 <;> rfl
  rintro nv s _ _ _ w3 ⟨rfl, rfl, j, acc, rfl, hj, hal, hsk, htk, rfl, ho3, hO3⟩
  have z3 := hO3.size
  have hst := toks_step hj
  rw [hsk, Nat.add_zero] at hst
  -- one more, behind
  have app : ∀ {u : World} {r : Sl} (t : Tk), Only [] w1 u → OwnK w1.heap.size u r acc →
      ∃ y w4, (Instr.buildSlice 22 1 #[(0, t.v)]).run Tryz.prog u = .ok (Sl.v y) w4 ∧ Only [] u w4 ∧ ∃ s' w5, (Builtin.append_ #[22, 22] 22 #[Sl.v r, Sl.v y]).run Tryz.prog w4 = .ok (Sl.v s') w5 ∧ OwnK w1.heap.size w5 s' (acc ++ [t]) ∧ OnlyP (fun k => w1.heap.size ≤ k ∧ r.a = some ⟨k, 0, none⟩) w4 w5 ∧ Only [] w1 w5 := by
    intro u r t hu hr
    obtain ⟨y, w4, c1, c2, s', w5, c3, c4, c5⟩ := push_k t hr hu.size (Nat.le_trans (Nat.mul_le_mul_right 40 (show acc.length + 1 ≤ 16385 by omega)) (by decide))
    exact ⟨y, w4, c1, c2, s', w5, c3, c4, c5, ((hu.tr0 c2).p0 (F := fun k => w1.heap.size ≤ k) |>.trans c5 fun k hk => .inl hk.1).only fun k hk => hk⟩
  refine ⟨fun hc => ?_, fun hc => ?_⟩
  · have hlt : j < l.length := by have := of_decide_eq_true hc; omega
    rw [if_neg (by omega)] at hst
    refine (rtoken_c w3 l j hlt hll).mono ?_
    rintro _ w4 ⟨v, rfl, hv, hO4⟩
    have h14 := hO3.tr0 hO4
    have sm1 : Same [k1] w3 w4 := hO4.same (by simp; omega)
    have z4 := hO4.size
    unfold RTok at hv
    cases hq : tokR (l.drop j) with
    | error e =>
      rw [hq] at hv hst
      dsimp only at hv
      subst hv
      refine ⟨0, T [], 0, 0, 0, e, rfl, sm1, fun _ k4 w5 hk4 hk4' hO5 => ⟨Sl.nil, ?_, ?_, ?_⟩, fun he => absurd (tok_err hq) (by simpa using he)⟩
      · rw [htm, htk, hst]; rfl
      · rw [htm, htk, hst]
        exact Own.nil _ _ _ _ _ _
      · exact (hO1.tr0 h14).trans hO5 fun y hy => .inr (by simp only [List.mem_singleton] at hy; omega)
    | ok q =>
      rw [hq] at hv hst
      dsimp only at hv
      subst hv
      have hq1 := tok_len hq
      have hq2 := tok_le hq
      rw [List.length_drop] at hq2
      refine ⟨q.1, T q.2.1, q.2.2.1, (j : Int), (q.2.2.2 : Int), 0, rfl, sm1, fun he => (by simp at he), fun _ k5 w6 hk5 hk5' hO6 => ?_⟩
      have h16 := h14.tr0 hO6
      have z6 := hO6.size
      obtain ⟨y, w7, c1, c2, s', w8, c3, c4, c5, c6⟩ := app (u := w6) ⟨q.1, q.2.1, q.2.2.1, (j : Nat)⟩ h16 (ho3.only (hO4.tr0 hO6))
      have z7 := c2.size
      have z8 := c5.size
      have hk : ∀ k, s.a = some ⟨k, 0, none⟩ → w1.heap.size ≤ k ∧ k < w3.heap.size := fun k hk => ho3.blk hk
      refine ⟨y, w7, c1, c2.same (by simp; omega), s', w8, c3, c5.same (by
        intro x hx
        simp only [List.mem_cons, List.not_mem_nil, or_false] at hx
        refine ⟨by omega, fun e => ?_⟩
        have := hk x e.2
        omega), ?_⟩
      rw [wr' (x := (j : Int) + (q.2.2.2 : Int)) (by omega) (by omega), show (j : Int) + (q.2.2.2 : Int) = ((j + q.2.2.2 : Nat) : Int) by omega]
      refine (rblanks_c w8 l (j + q.2.2.2) (by omega) (by omega)).mono ?_
      rintro _ w9 ⟨rfl, hO9⟩
      have hin := sk_in (l := l) (i := j + q.2.2.2) (by omega)
      refine ⟨_, rfl, hO9.same (by simp; omega), l.length - (j + q.2.2.2 + skN false (l.drop (j + q.2.2.2))), by omega, rfl, rfl, _, _, rfl, hin, ?_, ?_, ?_, rfl, c4.only hO9, c6.tr0 hO9⟩
      · rw [List.length_append, List.length_singleton]; omega
      · rw [← List.drop_drop]
        exact sk_idem false _
      · rw [htk, hst, ← toks_skip (by omega), ← pre_pre]
        dsimp only
        cases toks l (j + q.2.2.2) <;> rfl
  · have hje : l.length ≤ j := by have := of_decide_eq_false hc; omega
    rw [if_pos hje] at hst
    have hjl : j = l.length := by omega
    obtain ⟨y, w10, c1, c2, s', w11, c3, c4, c5, c6⟩ := app (u := w3) ⟨5, [], 0, (j : Nat)⟩ hO3 ho3
    have z10 := c2.size
    have hk : ∀ k, s.a = some ⟨k, 0, none⟩ → w1.heap.size ≤ k ∧ k < w3.heap.size := fun k hk => ho3.blk hk
    have htt : tokensM l = (acc ++ [⟨5, [], 0, (j : Nat)⟩], 0, 0) := by
      rw [htm, htk, hst]; rfl
    have e : (l.length : Int) = (j : Int) := by omega
    rw [e]
    refine ⟨y, w10, c1, c2.same (by simp; omega), s', w11, c3, c5.same (by
      intro x hx
      simp only [List.mem_singleton] at hx
      refine ⟨by omega, fun e => ?_⟩
      have := hk x e.2
      omega), fun w12 hO12 => ⟨s', by rw [htt], ?_, ?_⟩⟩
    · rw [htt]
      have : OwnK w1.heap.size w12 s' _ := c4.keep fun k hk hlt => hO12.block k hlt (by simp only [List.mem_singleton]; have := hk.1; omega)
      exact Own.low this z1
    · exact (hO1.tr0 c6).trans hO12 fun y hy => .inr (by simp only [List.mem_singleton] at hy; omega)
theorem T_beq (l m : List UInt8) : (T l == T m) = decide (l = m) := by
  change (l.toArray == m.toArray) = decide (l = m)
  rw [Bool.eq_iff_iff, beq_iff_eq, decide_eq_true_eq]
  exact ⟨fun h => by simpa using h, fun h => by rw [h]⟩
theorem rsame_c {w : World} {F G : Nat → Prop} {a b : Sl} {xs ys : List Tk} (ha : SliceF rTk 4 w F a xs) (hb : SliceF rTk 4 w G b ys) :
    Calls Tryz.prog 9 #[Sl.v a, Sl.v b] w fun e w' => e = .returned (.bool (decide (xs = ys))) ∧ Only [] w w' := by
  refine ret (pavaneref04_Same_wp a b (fun v w' => v = .bool (decide (xs = ys)) ∧ Only [] w w') w ?_)
  unfold pavaneref04_Same_vc
  have hal := ha.len
  have hbl := hb.len
  have hcap := ha.cap
  have hbig := ha.big
  refine ⟨fun hc => ⟨?_, Only.refl _ _⟩, fun hc => ?_⟩
  · have hc : ¬ (a.n : Int) = b.n := by simpa using hc
    rw [decide_eq_false]
    rintro rfl
    omega
  have hab : xs.length = ys.length := by
    have hc : (a.n : Int) = b.n := by simpa using hc
    omega
  refine ⟨fun nv i w' => ∃ n : Nat, n ≤ xs.length ∧ i = (n : Int) ∧ nv = xs.length - n ∧ xs.take n = ys.take n ∧ Only [] w w', xs.length, ⟨0, Nat.zero_le _, rfl, rfl, rfl, Only.refl _ _⟩, ?_⟩
  rintro nv _ w1 ⟨n, hn, rfl, rfl, he, hO⟩
  refine ⟨fun hc => ?_, fun hc => ?_⟩
  · have hlt : (n : Int) < a.n := of_decide_eq_true hc
    obtain ⟨ad, x, cs, g1, g2, g3, g4, g5, g6⟩ := (SliceF.only rTk_ok (by decide) ha hO (by simp)).get (Int.natCast_nonneg n) hlt
    obtain ⟨bd, y, ds, f1, f2, f3, f4, f5, f6⟩ := (SliceF.only rTk_ok (by decide) hb hO (by simp)).get (Int.natCast_nonneg n) (by omega)
    rw [Int.toNat_natCast] at g2 f2
    unfold rTk at g6 f6
    subst g6
    subst f6
    have hxy : (!((x.k == y.k) && ((T x.t == T y.t) && ((x.n == y.n) && (x.a == y.a))))) = !decide (x = y) := by
      rw [T_beq]
      congr 1
      obtain ⟨a1, a2, a3, a4⟩ := x
      obtain ⟨b1, b2, b3, b4⟩ := y
      rw [Bool.eq_iff_iff]
      simp
    refine ⟨ad, g1, _, _, _, _, g5, bd, f1, _, _, _, _, f5, ?_⟩
    rw [hxy]
    refine ⟨fun h w2 hO2 => ⟨?_, hO.tr0 hO2⟩, fun h w2 hO2 => ?_⟩
    · rw [decide_eq_false]
      rintro rfl
      rw [g2] at f2
      injection f2 with f2
      simp [f2] at h
    · have h : x = y := by simpa using h
      subst h
      rw [wr' (by omega) (by omega)]
      refine ⟨xs.length - (n + 1), by omega, n + 1, by omega, rfl, rfl, ?_, hO.tr0 hO2⟩
      rw [List.take_add_one, List.take_add_one, he, g2, f2]
  · have hge : ¬ ((n : Int) < a.n) := of_decide_eq_false hc
    refine ⟨?_, hO⟩
    rw [List.take_of_length_le (by omega), List.take_of_length_le (by omega)] at he
    rw [decide_eq_true he]
theorem rname_c (w : World) (l : List UInt8) (hl : l.length < 4611686018427387903) :
    Calls Tryz.prog 51 #[.string (T l)] w fun e w' => e = .returned (.bool (nameM l)) ∧ Only [] w w' := by
  refine ret (pavaneref04_Name_wp (T l) (fun v w' => v = .bool (nameM l) ∧ Only [] w w') w ?_)
  unfold pavaneref04_Name_vc
  have e0 : (ByteArray.mk #[]) = T [] := rfl
  rw [T_size, e0, T_eq]
  refine ⟨fun hc => ⟨?_, Only.refl _ _⟩, fun hc => ?_⟩
  · unfold nameM
    rw [decide_eq_false]
    · rfl
    · rintro ⟨h1, h2⟩
      rw [decide_eq_false h1, decide_eq_false (by omega)] at hc
      cases hc
  simp only [Bool.or_eq_false_iff, decide_eq_false_iff_not] at hc
  obtain ⟨h1, h2⟩ := hc
  have h2 : l.length ≤ 24 := by omega
  obtain ⟨c, r, rfl⟩ : ∃ c r, l = c :: r := by
    cases l with
    | nil => exact absurd rfl h1
    | cons c r => exact ⟨c, r, rfl⟩
  have hn : nameM (c :: r) = (letterB c && decide ((c :: r).takeWhile wordB = c :: r) && !wordsL.contains (c :: r)) := by
    unfold nameM
    rw [decide_eq_true ⟨h1, h2⟩, Bool.true_and]
  refine ⟨c, ⟨Int.le_refl _, by rw [T_get]; rfl⟩, (rletter_c w c).mono ?_⟩
  rintro _ w0 ⟨rfl, hO0⟩
  refine ⟨_, rfl, (rword_c w0 _).mono ?_⟩
  rintro _ w1 ⟨rfl, hO1⟩
  refine ⟨_, rfl, fun b w' => b = nameM (c :: r) ∧ Only [] w w', fun b w' h => ⟨by rw [h.1], h.2⟩, fun hb => ?_, fun hb => ⟨?_, hO0.tr0 hO1⟩⟩
  · refine (rrow_c w1 (c :: r) 0 (Nat.zero_le _) hl).mono ?_
    rintro _ w3 ⟨rfl, hO3⟩
    rw [List.drop_zero]
    refine ⟨_, rfl, ?_, hO0.tr0 (hO1.tr0 hO3)⟩
    rw [hn]
    simp only [Bool.and_eq_true, Bool.not_eq_true'] at hb
    rw [hb.1, hb.2, Bool.true_and, Bool.not_false, Bool.and_true, Bool.eq_iff_iff]
    simp only [beq_iff_eq, decide_eq_true_eq]
    constructor
    · intro h
      have h : ((c :: r).takeWhile wordB).length = (c :: r).length := by omega
      have h2 := while_take (p := wordB) (l := c :: r)
      rw [h, List.take_of_length_le (Nat.le_refl _)] at h2
      exact h2
    · intro h; rw [h]
  · rw [hn]
    cases h1 : letterB c <;> cases h2 : wordsL.contains (c :: r) <;> rw [h1, h2] at hb <;> simp at hb ⊢
end Go.Proofs.YtdlcmgbidoabmaaGreatDoor.Con
