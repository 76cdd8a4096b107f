/-
  Own work: ExprDeeps: how deep an expression may be.
-/
import Derived.Test.YtdlcmgbidoabmaaDoorWraps
namespace Go.Proofs.YtdlcmgbidoabmaaDoor.Con
open Go Go.RowKit Go.Kt Go.Kt.V Go.Proofs.YtdlcmgbidoabmaaDoor.Vc
set_option linter.unusedSimpArgs false
set_option linter.unusedVariables false
set_option maxHeartbeats 4000000

/-! ## the tokens -/
def kt (t : Tk) : Int × List UInt8 := (t.k, t.t)
theorem tok_one {l : List UInt8} {i : Nat} {c : UInt8} {r : List UInt8} {k : Int} {t : List UInt8} {n : Int} {ts : List Tk} (h : l.drop i = c :: r) (hb : skN false (c :: r) = 0) (ht : tokR (c :: r) = .ok (k, t, n, 1)) (hr : toks l (i + 1) = .ok ts) : toks l i = .ok (⟨k, t, n, (i : Nat)⟩ :: ts) := by
  have hi : i < l.length := by
    have := congrArg List.length h
    rw [List.length_drop, List.length_cons] at this
    omega
  rw [toks_step (by omega), h, hb, Nat.add_zero, if_neg (by omega), h, ht]
  dsimp only
  rw [hr]
theorem sk0 {c : UInt8} {r : List UInt8} (h1 : blankB c = false) (h2 : (c == 47) = false) : skN false (c :: r) = 0 := by
  rw [skN, if_neg (by rw [h1]; decide), if_neg (by rw [h2, Bool.false_and]; decide)]
theorem sign_tok {c : UInt8} {r : List UInt8} (h1 : letterB c = false) (h2 : digitB c = false) (h3 : shortL.contains c = true) (h4 : sign2 (c :: r) = false) : tokR (c :: r) = .ok (4, [c], 0, 1) := by
  have e : tokR (c :: r) = if letterB c then wordR (c :: r) else if digitB c then numR (c :: r) else signR (c :: r) := rfl
  have hn : signN (c :: r) = 1 := by
    unfold signN
    rw [h4]
    dsimp only
    rw [if_neg (by decide), if_pos h3]
  rw [e, h1, h2, if_neg (by decide), if_neg (by decide), signR, hn]
  rfl
theorem drop_tail {l : List UInt8} {i : Nat} {c : UInt8} {r : List UInt8} (h : l.drop i = c :: r) : l.drop (i + 1) = r := by
  rw [← List.drop_drop, h]
  rfl
/-- what may stand behind a sign: none of '=', '>' -/
def soft (r : List UInt8) : Prop := ∀ d, r.head? = some d → d ≠ 61 ∧ d ≠ 62
theorem sign2_soft {c : UInt8} {r : List UInt8} (hc : [38, 124].contains c = false) (h : soft r) : sign2 (c :: r) = false := by
  cases r with
  | nil => rfl
  | cons d r =>
    obtain ⟨h1, h2⟩ := h d rfl
    have e1 : (d == 61) = false := by simpa using h1
    have e2 : (d == 62) = false := by simpa using h2
    show ((d == 61 && [60, 62, 61, 33].contains c) || (d == c && [38, 124].contains c) || (c == 45 && d == 62)) = false
    rw [e1, e2, hc, Bool.false_and, Bool.and_false, Bool.and_false]
    rfl
theorem soft_rep (m : Nat) (r : List UInt8) (h : soft r) {c : UInt8} (hc : c ≠ 61 ∧ c ≠ 62) : soft (List.replicate m c ++ r) := by
  cases m with
  | zero => exact h
  | succ m =>
    intro d hd
    simp only [List.replicate_succ, List.cons_append, List.head?_cons, Option.some.injEq] at hd
    subst hd
    exact hc
theorem t_close {l : List UInt8} : ∀ (m i : Nat), i ≤ l.length → l.drop i = List.replicate m 41 → ∃ ts, toks l i = .ok ts ∧ ts.map kt = List.replicate m (4, [41]) ++ [(5, [])]
  | 0, i, hi, h => by
    refine ⟨[⟨5, [], 0, (i : Nat)⟩], ?_, rfl⟩
    · rw [toks_step hi, h]
      have : l.length ≤ i := by
        have := congrArg List.length h
        rw [List.length_drop, List.length_replicate] at this
        omega
      rw [if_pos (by omega)]
      rfl
  | m + 1, i, hi, h => by
    rw [List.replicate_succ] at h
    have hd := drop_tail h
    have hl := congrArg List.length h
    rw [List.length_drop, List.length_cons] at hl
    obtain ⟨ts, h1, h2⟩ := t_close m (i + 1) (by omega) hd
    refine ⟨_, tok_one h (sk0 (by decide) (by decide)) (sign_tok (by decide) (by decide) (by decide) (sign2_soft (by decide) ?_)) h1, ?_⟩
    · have := soft_rep m [] (fun d hd => by cases hd) (c := 41) (by decide)
      rwa [List.append_nil] at this
    · rw [List.map_cons, h2, List.replicate_succ]
      rfl
theorem t_mid {l : List UInt8} {m i : Nat} (hi : i ≤ l.length) (h : l.drop i = 120 :: List.replicate m 41) : ∃ ts, toks l i = .ok ts ∧ ts.map kt = (1, [120]) :: (List.replicate m (4, [41]) ++ [(5, [])]) := by
  have hd := drop_tail h
  have hl := congrArg List.length h
  rw [List.length_drop, List.length_cons] at hl
  obtain ⟨ts, h1, h2⟩ := t_close m (i + 1) (by omega) hd
  refine ⟨_, tok_one h (sk0 (by decide) (by decide)) (k := 1) (t := [120]) (n := 0) ?_ h1, ?_⟩
  · have hw : (120 :: List.replicate m 41 : List UInt8).takeWhile wordB = [120] := by
      rw [List.takeWhile_cons, if_pos (by decide)]
      cases m with
      | zero => rfl
      | succ m => rw [List.replicate_succ, List.takeWhile_cons, if_neg (by decide)]
    have e : tokR (120 :: List.replicate m 41) = wordR (120 :: List.replicate m 41) := rfl
    rw [e, wordR, hw]
    rfl
  · rw [List.map_cons, h2]
    rfl
theorem t_open {l : List UInt8} {m : Nat} : ∀ (p i : Nat), i ≤ l.length → l.drop i = List.replicate p 40 ++ 120 :: List.replicate m 41 → ∃ ts, toks l i = .ok ts ∧ ts.map kt = List.replicate p (4, [40]) ++ (1, [120]) :: (List.replicate m (4, [41]) ++ [(5, [])])
  | 0, i, hi, h => t_mid hi h
  | p + 1, i, hi, h => by
    rw [List.replicate_succ, List.cons_append] at h
    have hd := drop_tail h
    have hl := congrArg List.length h
    rw [List.length_drop, List.length_cons] at hl
    obtain ⟨ts, h1, h2⟩ := t_open p (i + 1) (by omega) hd
    refine ⟨_, tok_one h (sk0 (by decide) (by decide)) (sign_tok (by decide) (by decide) (by decide) (sign2_soft (by decide) (soft_rep p _ (fun d hd => ?_) (by decide)))) h1, ?_⟩
    · simp only [List.head?_cons, Option.some.injEq] at hd
      subst hd
      decide
    · rw [List.map_cons, h2, List.replicate_succ]
      rfl
def signU (b : Bool) : List UInt8 := if b then [45, 32] else [33]
def signT (b : Bool) : List UInt8 := if b then [45] else [33]
def reps (u : List UInt8) : Nat → List UInt8
  | 0 => []
  | n + 1 => u ++ reps u n
theorem reps_snoc (u : List UInt8) : ∀ n, reps u (n + 1) = reps u n ++ u
  | 0 => by simp [reps]
  | n + 1 => by
    have e : reps u (n + 1 + 1) = u ++ reps u (n + 1) := rfl
    have e2 : reps u (n + 1) = u ++ reps u n := rfl
    rw [e, reps_snoc u n, ← List.append_assoc, ← e2, reps_snoc u n]
theorem reps_len (b : Bool) : ∀ n, (reps (signU b) n).length ≤ 2 * n
  | 0 => Nat.le_refl _
  | n + 1 => by
    rw [reps, List.length_append]
    have := reps_len b n
    have h2 : (signU b).length ≤ 2 := by cases b <;> simp [signU]
    omega
/-- what stands behind the signs -/
def tailD (m k : Nat) : List UInt8 := List.replicate m 40 ++ 120 :: List.replicate k 41
theorem hard {b : Bool} {n m k : Nat} : ∃ c r, reps (signU b) n ++ tailD m k = c :: r ∧ blankB c = false ∧ (c == 47) = false ∧ c ≠ 61 ∧ c ≠ 62 := by
  cases n with
  | zero =>
    cases m with
    | zero => exact ⟨120, _, rfl, by decide, by decide, by decide, by decide⟩
    | succ m => exact ⟨40, _, rfl, by decide, by decide, by decide, by decide⟩
  | succ n =>
    cases b with
    | true => exact ⟨45, _, rfl, by decide, by decide, by decide, by decide⟩
    | false => exact ⟨33, _, rfl, by decide, by decide, by decide, by decide⟩
theorem t_signs {l : List UInt8} {b : Bool} {m : Nat} : ∀ (n i : Nat), i ≤ l.length → l.drop i = reps (signU b) n ++ tailD m m → ∃ ts, toks l i = .ok ts ∧ ts.map kt = List.replicate n (4, signT b) ++ (List.replicate m (4, [40]) ++ (1, [120]) :: (List.replicate m (4, [41]) ++ [(5, [])]))
  | 0, i, hi, h => t_open m i hi h
  | n + 1, i, hi, h => by
    rw [reps, List.append_assoc] at h
    obtain ⟨c, r, hc, hb1, hb2, hb3⟩ := hard (b := b) (n := n) (m := m) (k := m)
    cases b with
    | true =>
      have h : l.drop i = 45 :: 32 :: (reps (signU true) n ++ tailD m m) := h
      have hd := drop_tail h
      have hd2 := drop_tail hd
      have hl := congrArg List.length h
      rw [List.length_drop, List.length_cons, List.length_cons] at hl
      obtain ⟨ts, h1, h2⟩ := t_signs (b := true) n (i + 1 + 1) (by omega) hd2
      have hsk : toks l (i + 1) = .ok ts := by
        rw [toks_skip (by omega), hd, skN, if_pos (by decide), hc, sk0 hb1 hb2]
        exact h1
      refine ⟨_, tok_one h (sk0 (by decide) (by decide)) (sign_tok (by decide) (by decide) (by decide) (sign2_soft (by decide) fun d hd => ?_)) hsk, ?_⟩
      · simp only [List.head?_cons, Option.some.injEq] at hd
        subst hd
        decide
      · rw [List.map_cons, h2, List.replicate_succ, List.cons_append]
        rfl
    | false =>
      have h : l.drop i = 33 :: (reps (signU false) n ++ tailD m m) := h
      have hd := drop_tail h
      have hl := congrArg List.length h
      rw [List.length_drop, List.length_cons] at hl
      obtain ⟨ts, h1, h2⟩ := t_signs (b := false) n (i + 1) (by omega) hd
      refine ⟨_, tok_one h (sk0 (by decide) (by decide)) (sign_tok (by decide) (by decide) (by decide) (sign2_soft (by decide) fun d hd => ?_)) h1, ?_⟩
      · rw [hc, List.head?_cons, Option.some.injEq] at hd
        subst hd
        exact hb3
      · rw [List.map_cons, h2, List.replicate_succ, List.cons_append]
        rfl

/-! ## reading them -/
structure De (ts : List Tk) (n m : Nat) (s : List UInt8) : Prop where
  a : ∀ i, i < n → (tk ts i).k = 4 ∧ (tk ts i).t = s
  b : ∀ i, n ≤ i → i < n + m → (tk ts i).k = 4 ∧ (tk ts i).t = [40]
  c : (tk ts (n + m)).k = 1 ∧ (tk ts (n + m)).t = [120]
  e : ∀ i, n + m < i → i ≤ n + m + m → (tk ts i).k = 4 ∧ (tk ts i).t = [41]
  z : (tk ts (n + m + m + 1)).k = 5
  l : ts.length = n + m + m + 2
theorem tk_kt {ts : List Tk} {i : Nat} {q : Int × List UInt8} (h : (ts.map kt)[i]? = some q) : (tk ts i).k = q.1 ∧ (tk ts i).t = q.2 := by
  rw [List.getElem?_map, Option.map_eq_some_iff] at h
  obtain ⟨t, h1, rfl⟩ := h
  have : tk ts i = t := by unfold tk; rw [h1]; rfl
  rw [this]
  exact ⟨rfl, rfl⟩
theorem de_of {ts : List Tk} {n m : Nat} {s : List UInt8} (h : ts.map kt = List.replicate n (4, s) ++ (List.replicate m (4, [40]) ++ (1, [120]) :: (List.replicate m (4, [41]) ++ [(5, [])]))) : De ts n m s := by
  have hl := congrArg List.length h
  simp only [List.length_map, List.length_append, List.length_replicate, List.length_cons, List.length_nil] at hl
  have go : ∀ i q, (List.replicate n ((4 : Int), s) ++ (List.replicate m (4, [40]) ++ (1, [120]) :: (List.replicate m (4, [41]) ++ [(5, [])])))[i]? = some q → (tk ts i).k = q.1 ∧ (tk ts i).t = q.2 := fun i q hq => tk_kt (by rw [h]; exact hq)
  refine ⟨fun i hi => go i (4, s) ?_, fun i h1 h2 => go i (4, [40]) ?_, go (n + m) (1, [120]) ?_, fun i h1 h2 => go i (4, [41]) ?_, (go (n + m + m + 1) (5, []) ?_).1, by omega⟩
  · rw [List.getElem?_append_left (by rw [List.length_replicate]; exact hi), List.getElem?_replicate, if_pos hi]
  · rw [List.getElem?_append_right (by rw [List.length_replicate]; exact h1), List.length_replicate, List.getElem?_append_left (by rw [List.length_replicate]; omega), List.getElem?_replicate, if_pos (by omega)]
  · rw [List.getElem?_append_right (by rw [List.length_replicate]; omega), List.length_replicate, List.getElem?_append_right (by rw [List.length_replicate]; omega), List.length_replicate, Nat.add_sub_cancel_left, Nat.sub_self]
    rfl
  · rw [List.getElem?_append_right (by rw [List.length_replicate]; omega), List.length_replicate, List.getElem?_append_right (by rw [List.length_replicate]; omega), List.length_replicate]
    obtain ⟨j, hj⟩ : ∃ j, i - n - m = j + 1 := ⟨i - n - m - 1, by omega⟩
    rw [hj, List.getElem?_cons_succ, List.getElem?_append_left (by rw [List.length_replicate]; omega), List.getElem?_replicate, if_pos (by omega)]
  · rw [List.getElem?_append_right (by rw [List.length_replicate]; omega), List.length_replicate, List.getElem?_append_right (by rw [List.length_replicate]; omega), List.length_replicate]
    have hj : n + m + m + 1 - n - m = m + 1 := by omega
    rw [hj, List.getElem?_cons_succ, List.getElem?_append_right (by rw [List.length_replicate]; omega), List.length_replicate, Nat.sub_self]
    rfl
/-- a tree of so many signs -/
def Dn : Nat → Ex → Prop
  | 0, x => x.k = 2 ∧ x.s = [120] ∧ x.subs = []
  | q + 1, x => x.k = 4 ∧ ∃ y, x.subs = [y] ∧ Dn q y
section
variable {ts : List Tk} {n m : Nat} {s : List UInt8}
theorem sg_f {ts : List Tk} {i : Nat} {t s : List UInt8} (h : (tk ts i).t = t) (hne : t ≠ s) : sg ts i s = false := by
  unfold sg
  rw [h, decide_eq_false hne, Bool.and_false]
theorem sg_t {ts : List Tk} {i : Nat} {t : List UInt8} (h : (tk ts i).k = 4 ∧ (tk ts i).t = t) : sg ts i t = true := by
  unfold sg
  rw [h.1, h.2, decide_eq_true rfl]
  rfl
theorem De.op (h : De ts n m s) {j : Nat} (hj : n + m < j) (hj2 : j ≤ n + m + m + 1) (k : Int) : opAt ts k j = 0 := by
  rcases Nat.lt_or_ge (n + m + m) j with h1 | h1
  · have : j = n + m + m + 1 := by omega
    subst this
    exact op_end h.z k
  · exact op_of (h.e j hj h1).2 (by decide) k
/-- at a parenthesis -/
theorem De.par (h : De ts n m s) : ∀ (q p f : Nat), p + q = m → n + p ≤ 20 → need 6 (n + p) ≤ f →
    (n + m ≤ 20 ∧ ∃ x, exprR ts f 6 (n + p) (n + p) = .ok (x, n + m + 1 + q) ∧ Dn 0 x) ∨ (20 < n + m ∧ ∃ a, exprR ts f 6 (n + p) (n + p) = .error (21, a))
  | _, _, 0, _, _, hf => by unfold need at hf; omega
  | 0, p, f + 1, hp, hd, hf => by
    have : p = m := by omega
    subst this
    refine .inl ⟨hd, .mk 2 0 (tk ts (n + p)).t 0 [] (tk ts (n + p)).a, ?_, rfl, h.c.2, rfl⟩
    rw [exprR, if_pos rfl]
    unfold oneR
    rw [sg_f h.c.2 (by decide), sg_f h.c.2 (by decide), sg_f h.c.2 (by decide), if_neg (by decide), if_neg (by decide), if_neg (by rw [h.c.1]; decide), if_pos h.c.1]
  | q + 1, p, f + 1, hp, hd, hf => by
    have hb := h.b (n + p) (by omega) (by omega)
    rw [exprR, if_pos rfl]
    unfold oneR
    rw [sg_f hb.2 (by decide), sg_f hb.2 (by decide), sg_t hb, if_neg (by decide), if_pos rfl]
    by_cases h20 : n + p = 20
    · exact .inr ⟨by omega, (tk ts (n + p)).a, by rw [nestR, if_pos h20]⟩
    · rw [nestR, if_neg h20]
      unfold need at hf
      obtain ⟨g, rfl⟩ : ∃ g, f = g + 6 := ⟨f - 6, by omega⟩
      rcases De.par h q (p + 1) g (by omega) (by omega) (by unfold need; omega) with ⟨h1, x, h2, h3⟩ | ⟨h1, a, h2⟩
      · refine .inl ⟨h1, x, ?_, h3⟩
        have hup := up_ok h2 (h.op (by omega) (by omega)) 6 0 rfl
        rw [← Nat.add_assoc] at hup
        rw [hup]
        simp only [parR]
        rw [if_pos (sg_t (h.e _ (by omega) (by omega))), Nat.add_assoc (n + m + 1)]
      · refine .inr ⟨h1, a, ?_⟩
        have hup := up_err h2 6 0 rfl
        rw [← Nat.add_assoc] at hup
        rw [hup]
        rfl
/-- at a sign -/
theorem De.sgn (h : De ts n m s) (hs : s = [45] ∨ s = [33]) : ∀ (q p f : Nat), p + q = n → p ≤ 20 → need 6 p ≤ f →
    (n + m ≤ 20 ∧ ∃ x, exprR ts f 6 p p = .ok (x, n + m + m + 1) ∧ Dn q x) ∨ (20 < n + m ∧ ∃ a, exprR ts f 6 p p = .error (21, a))
  | _, _, 0, _, _, hf => by unfold need at hf; omega
  | 0, p, f + 1, hp, hd, hf => by
    have : p = n := by omega
    subst this
    have := De.par h m 0 (f + 1) (by omega) (by omega) hf
    simp only [Nat.add_zero] at this
    rcases this with ⟨h1, x, h2, h3⟩ | h1
    · exact .inl ⟨h1, x, by rw [h2]; congr 2; omega, h3⟩
    · exact .inr h1
  | q + 1, p, f + 1, hp, hd, hf => by
    have ha := h.a p (by omega)
    rw [exprR, if_pos rfl]
    unfold oneR
    have hor : (sg ts p [45] || sg ts p [33]) = true := by
      rcases hs with rfl | rfl
      · rw [sg_t ha, Bool.true_or]
      · rw [sg_t ha, Bool.or_true]
    rw [if_pos hor]
    by_cases h20 : p = 20
    · exact .inr ⟨by omega, (tk ts p).a, by rw [nestR, if_pos h20]; rfl⟩
    · rw [nestR, if_neg h20]
      unfold need at hf
      rcases De.sgn h hs q (p + 1) f (by omega) (by omega) (by unfold need; omega) with ⟨h1, x, h2, h3⟩ | ⟨h1, a, h2⟩
      · refine .inl ⟨h1, .mk 4 0 [] (if (tk ts p).t = [33] then 15 else 14) [x] (tk ts p).a, ?_, rfl, x, rfl, h3⟩
        rw [h2]
        rfl
      · exact .inr ⟨h1, a, by rw [h2]; rfl⟩
end
theorem deep_law (b : Bool) (n m : Nat) (hn : n ≤ 31) (hm : m ≤ 31) : (n + m ≤ 20 ∧ (readA (reps (signU b) n ++ tailD m m)).2.1 = 0 ∧ Dn n (readA (reps (signU b) n ++ tailD m m)).1) ∨ (20 < n + m ∧ (readA (reps (signU b) n ++ tailD m m)).2.1 = 21) := by
  generalize hL : reps (signU b) n ++ tailD m m = L
  have hlen : L.length ≤ 16384 := by
    rw [← hL, List.length_append, tailD, List.length_append, List.length_cons, List.length_replicate, List.length_replicate]
    have := reps_len b n
    omega
  obtain ⟨ts, h1, h2⟩ := t_signs (l := L) (b := b) (m := m) n 0 (Nat.zero_le _) (by rw [List.drop_zero, hL])
  have hD := de_of h2
  have t1 : tokensM L = (ts, 0, 0) := by
    rw [tokensM, if_neg (by omega), h1]
  have hE : EndL ts := fun i hi => by
    rw [hD.l] at hi ⊢
    constructor
    · intro hk
      refine Decidable.byContradiction fun hne => ?_
      rcases Nat.lt_or_ge i n with c1 | c1
      · rw [(hD.a i c1).1] at hk; exact absurd hk (by decide)
      · rcases Nat.lt_or_ge i (n + m) with c2 | c2
        · rw [(hD.b i c1 c2).1] at hk; exact absurd hk (by decide)
        · rcases Nat.lt_or_ge (n + m) i with c3 | c3
          · rw [(hD.e i c3 (by omega)).1] at hk; exact absurd hk (by decide)
          · have : i = n + m := by omega
            subst this
            rw [hD.c.1] at hk; exact absurd hk (by decide)
    · intro hk
      have : i = n + m + m + 1 := by omega
      subst this
      exact hD.z
  have hpos : 0 < ts.length := by rw [hD.l]; omega
  have hpa : parseA ts 0 = match parseR ts 0 with
    | .error (c, p) => (ex0, 0, c, p)
    | .ok (x, j) => (x, (j : Int), 0, 0) := by
    rw [parseA, if_pos ⟨Int.le_refl _, by omega, end_endN hE hpos⟩]
    rfl
  have hpr : parseR ts 0 = exprR ts (161 + 6) 0 0 0 := rfl
  have hrd : readA L = if (parseA ts 0).2.2.1 ≠ 0 then (ex0, (parseA ts 0).2.2.1, (parseA ts 0).2.2.2) else if (tk ts (parseA ts 0).2.1.toNat).k ≠ 5 then (ex0, 4, (tk ts (parseA ts 0).2.1.toNat).a) else ((parseA ts 0).1, 0, (parseA ts 0).2.2.2) := by
    unfold readA
    rw [t1]
    rfl
  have hs : signT b = [45] ∨ signT b = [33] := by cases b <;> simp [signT]
  rcases hD.sgn hs n 0 161 (by omega) (by decide) (by decide) with ⟨c1, x, c2, c3⟩ | ⟨c1, a, c2⟩
  · rw [up_ok c2 (hD.op (by omega) (by omega)) 6 0 rfl] at hpr
    rw [hpr] at hpa
    dsimp only at hpa
    rw [hpa] at hrd
    dsimp only at hrd
    rw [if_neg (by decide), Int.toNat_natCast, hD.z, if_neg (show ¬ (5 : Int) ≠ 5 by decide)] at hrd
    refine .inl ⟨c1, ?_⟩
    rw [hrd]
    exact ⟨rfl, c3⟩
  · rw [up_err c2 6 0 rfl] at hpr
    rw [hpr] at hpa
    dsimp only at hpa
    rw [hpa] at hrd
    dsimp only at hrd
    rw [if_pos (by decide)] at hrd
    refine .inr ⟨c1, ?_⟩
    rw [hrd]

/-! ## the contract -/
theorem bits_and_rng (x : Int) {m : Nat} (hm : m < 9223372036854775808) : 0 ≤ bits .and .i64 x (m : Int) ∧ bits .and .i64 x (m : Int) ≤ m := by
  have h1 : (BitVec.ofInt 64 (m : Int)).toNat = m := by simp [BitVec.toNat_ofInt]; omega
  have h2 : (BitVec.ofInt 64 x &&& BitVec.ofInt 64 (m : Int)).toNat ≤ m := by
    rw [BitVec.toNat_and, h1]; exact Nat.and_le_right
  have h3 : bits .and .i64 x (m : Int) = IntKind.i64.wrap ((BitVec.ofInt 64 x &&& BitVec.ofInt 64 (m : Int)).toNat : Int) := rfl
  rw [h3, wr' (by omega) (by omega)]
  omega
theorem deeps_c {w : World} (a b k : Int) (hE : Er w) (hT : Tb w) : Calls Tryd.prog 5 #[.int .i64 a, .int .i64 b, .int .i64 k] w fun e w' => e = .returned (.bool true) ∧ Only [] w w' := by
  refine ret (pavanelaw05_ExprDeeps_wp a b k (fun v w' => v = .bool true ∧ Only [] w w') w ?_)
  unfold pavanelaw05_ExprDeeps_vc
  obtain ⟨n0, n1⟩ := bits_and_rng a (m := 31) (by decide)
  obtain ⟨m0, m1⟩ := bits_and_rng b (m := 31) (by decide)
  replace n0 : 0 ≤ bits .and .i64 a 31 := n0
  replace n1 : bits .and .i64 a 31 ≤ 31 := n1
  replace m0 : 0 ≤ bits .and .i64 b 31 := m0
  replace m1 : bits .and .i64 b 31 ≤ 31 := m1
  generalize bits .and .i64 a 31 = n' at *
  generalize bits .and .i64 b 31 = m' at *
  generalize hkk : (bits .and .i64 k 1 == 0) = kb
  obtain ⟨n, rfl⟩ : ∃ n : Nat, n' = (n : Int) := ⟨n'.toNat, by omega⟩
  obtain ⟨m, rfl⟩ : ∃ m : Nat, m' = (m : Int) := ⟨m'.toNat, by omega⟩
  have hn : n ≤ 31 := by omega
  have hm : m ≤ 31 := by omega
  refine (small_c w hE hT).mono ?_
  rintro _ w0 ⟨rfl, hO0⟩
  refine ⟨true, rfl, fun nv s i w' => ∃ j : Nat, j ≤ n ∧ i = (j : Int) ∧ nv = n - j ∧ s = T (reps (signU kb) j) ∧ w' = w0, n, ⟨0, Nat.zero_le _, rfl, rfl, rfl, rfl⟩, ?_⟩
  rintro nv _ _ w1 ⟨j, hj, rfl, rfl, rfl, hw1⟩
  subst hw1
  have hrl := reps_len kb j
  refine ⟨fun hlt => ?_, fun hge => ?_⟩
  · have hlt : j < n := by have := of_decide_eq_true hlt; omega
    refine ⟨fun s w' => s = T (reps (signU kb) (j + 1)) ∧ w' = w1, ?_, fun hb => ⟨?_, ?_, rfl⟩, fun hb => ⟨?_, ?_, rfl⟩⟩
    · rintro _ _ ⟨rfl, rfl⟩
      exact ⟨n - (j + 1), by omega, j + 1, by omega, by rw [wr' (by omega) (by omega)]; rfl, rfl, rfl, rfl⟩
    · rw [T_size]; omega
    · rw [reps_snoc, ← T_app, hb]; rfl
    · rw [T_size]; omega
    · rw [reps_snoc, ← T_app, hb]; rfl
  have hjn : j = n := by have := of_decide_eq_false hge; omega
  subst hjn
  refine ⟨fun nv s i w' => ∃ p : Nat, p ≤ m ∧ i = (p : Int) ∧ nv = m - p ∧ s = T (reps (signU kb) j ++ List.replicate p 40) ∧ w' = w1, m, ⟨0, Nat.zero_le _, rfl, rfl, by rw [List.replicate_zero, List.append_nil], rfl⟩, ?_⟩
  rintro nv _ _ w3 ⟨p, hp, rfl, rfl, rfl, hw3⟩
  subst hw3
  have hl2 : (reps (signU kb) j ++ List.replicate p 40).length ≤ 2 * j + p := by rw [List.length_append, List.length_replicate]; omega
  refine ⟨fun hlt => ⟨by rw [T_size]; omega, ?_⟩, fun hge => ⟨by rw [T_size]; omega, ?_⟩⟩
  · have hlt : p < m := by have := of_decide_eq_true hlt; omega
    refine ⟨m - (p + 1), by omega, p + 1, by omega, by rw [wr' (by omega) (by omega)]; rfl, rfl, ?_, rfl⟩
    rw [show ByteArray.mk #[40] = T [40] from rfl, T_app, List.append_assoc, List.replicate_succ']
  have hpm : p = m := by have := of_decide_eq_false hge; omega
  subst hpm
  refine ⟨fun nv s i w' => ∃ q : Nat, q ≤ p ∧ i = (q : Int) ∧ nv = p - q ∧ s = T (reps (signU kb) j ++ tailD p q) ∧ w' = w3, p, ⟨0, Nat.zero_le _, rfl, rfl, ?_, rfl⟩, ?_⟩
  · rw [show ByteArray.mk #[120] = T [120] from rfl, T_app, List.append_assoc]
    rfl
  rintro nv _ _ w4 ⟨q, hq, rfl, rfl, rfl, hw4⟩
  subst hw4
  have hl3 : (reps (signU kb) j ++ tailD p q).length ≤ 2 * j + p + 1 + q := by
    rw [List.length_append, tailD, List.length_append, List.length_cons, List.length_replicate, List.length_replicate]
    omega
  refine ⟨fun hlt => ⟨by rw [T_size]; omega, ?_⟩, fun hge => ?_⟩
  · have hlt : q < p := by have := of_decide_eq_true hlt; omega
    refine ⟨p - (q + 1), by omega, q + 1, by omega, by rw [wr' (by omega) (by omega)]; rfl, rfl, ?_, rfl⟩
    rw [show ByteArray.mk #[41] = T [41] from rfl, T_app, List.append_assoc, tailD, tailD, List.append_assoc, List.cons_append, List.replicate_succ']
  have hqp : q = p := by have := of_decide_eq_false hge; omega
  subst hqp
  refine (read_c _ (hE.only hO0)).mono ?_
  rintro _ w5 ⟨cs, rfl, hX, hO5⟩
  have z5 := hO5.size
  obtain ⟨dd, hd⟩ := hX.ex
  obtain ⟨xl, rfl, _⟩ := hX.cells
  rw [wr' (by omega) (by omega)]
  have hlaw := deep_law kb j q hn hm
  refine ⟨_, _, _, _, _, _, _, _, rfl, fun hc k9 k10 w6 _ _ _ _ hO6 => ⟨?_, (hO0.tr0 hO5).tr0 hO6⟩, fun hc k11 k12 w7 hk11 hk11' hk12 hk12' hO7 => ?_⟩
  · have hc : 20 < j + q := by have := of_decide_eq_true hc; omega
    rcases hlaw with ⟨h1, _⟩ | ⟨_, h2⟩
    · omega
    · rw [h2]; rfl
  · have hc : j + q ≤ 20 := by have := of_decide_eq_false hc; omega
    rcases hlaw with ⟨_, h1, h2⟩ | ⟨h1, _⟩
    · rw [h1]
      generalize (readA (reps (signU kb) j ++ tailD q q)).1 = X at *
      refine ⟨fun nv i k n s op sl a w' => ∃ (r : Nat) (x : Ex) (d : Nat), k = x.k ∧ s = T x.s ∧ sl.n = x.subs.length ∧ i + (r : Int) = (j : Int) ∧ 0 ≤ i ∧ nv = r + 1 ∧ Dn r x ∧ SliceF (rEx d) 6 w' (fun k => k < w5.heap.size) sl x.subs ∧ w5.heap.size ≤ w'.heap.size ∧ Only [] w w', j + 1, ?_, ?_⟩
      · cases dd with
        | zero => exact hd.elim
        | succ dd =>
          obtain ⟨sl, he, hs⟩ := hd
          have hsx : sl = xl := by
            have := (List.cons.inj (List.cons.inj (List.cons.inj (List.cons.inj (List.cons.inj he).2).2).2).2).1
            simp only [Sl.v, Value.slice.injEq] at this
            obtain ⟨h1, h2, h3⟩ := this
            cases sl
            cases xl
            simp_all
          subst hsx
          exact ⟨j, X, dd, rfl, rfl, hs.len, by omega, Int.le_refl _, rfl, h2, SliceF.only (rEx_ok dd) (by decide) (SliceF.mono (rEx_ok dd) hs fun k hk => by omega) hO7 (by simp), hO7.size, (hO0.tr0 hO5).tr0 hO7⟩
      · rintro nv i k n s op sl a w8 ⟨r, x, d, rfl, rfl, hsl, hir, hi0, rfl, hDn, hS, z8, hO8⟩
        refine ⟨fun hcc => ?_, fun hcc => ?_⟩
        · simp only [Bool.and_eq_true, beq_iff_eq, decide_eq_true_eq] at hcc
          obtain ⟨⟨c1, c2⟩, c3⟩ := hcc
          cases r with
          | zero => exact absurd (hDn.1.symm.trans c1) (by decide)
          | succ r =>
            obtain ⟨_, y, hy, hDy⟩ := hDn
            obtain ⟨ad, y', ds, g1, g2, g3, g4, g5, g6⟩ := hS.get (i := 0) (by decide) (by omega)
            rw [hy] at g2
            simp only [Int.toNat_zero, List.getElem?_cons_zero, Option.some.injEq] at g2
            subst g2
            cases d with
            | zero => exact g6.elim
            | succ d =>
              obtain ⟨sy, rfl, g7⟩ := g6
              refine ⟨ad, g1, _, _, _, _, _, _, g5, fun w9 hO9 => ⟨r + 1, by omega, r, y, d, rfl, rfl, g7.len, by rw [wr' (by omega) (by omega)]; omega, by rw [wr' (by omega) (by omega)]; omega, rfl, hDy, SliceF.only (rEx_ok d) (by decide) g7 hO9 fun k hk _ hm => by simp only [List.mem_singleton] at hm; omega, by have := hO9.size; omega, ?_⟩⟩
              exact hO8.trans hO9 fun x hx => .inr (by simp only [List.mem_singleton] at hx; have := hO0.size; omega)
        · cases r with
          | zero =>
            obtain ⟨e1, e2, e3⟩ := hDn
            rw [e1, e2]
            refine ⟨?_, hO8⟩
            have : (i == (j : Int)) = true := by simp; omega
            rw [this, show ByteArray.mk #[120] = T [120] from rfl, T_eq]
            rfl
          | succ r =>
            exfalso
            obtain ⟨e1, y, hy, _⟩ := hDn
            rw [hy] at hsl
            have : (((x.k == 4) && ((sl.n : Int) == 1)) && decide (i < 40)) = true := by
              rw [e1, hsl, decide_eq_true (by omega)]
              rfl
            rw [this] at hcc
            cases hcc
    · omega
end Go.Proofs.YtdlcmgbidoabmaaDoor.Con
