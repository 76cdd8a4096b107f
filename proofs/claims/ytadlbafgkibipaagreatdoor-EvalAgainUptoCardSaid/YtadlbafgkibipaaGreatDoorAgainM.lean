/-
  Own work: texts merged: Sim, Deep0, Print, Parse, Arg0, Again.
-/
import Derived.Test.YtadlbafgkibipaaGreatDoorTree
import Derived.Test.YtadlbafgkibipaaGreatDoorWrap
import Derived.Test.YtadlbafgkibipaaGreatDoorPage
import Derived.Test.YtadlbafgkibipaaGreatDoorBulk
import Derived.Test.YtadlbafgkibipaaGreatDoorText0
import Derived.Test.YtadlbafgkibipaaGreatDoorEvS
namespace Go.Proofs.YtadlbafgkibipaaGreatDoor.Con
open Go Go.RowKit Go.Kt Go.Kt.V Go.Proofs.YtadlbafgkibipaaGreatDoor.Vc
set_option linter.unusedSimpArgs false
set_option linter.unusedVariables false
set_option maxHeartbeats 4000000

theorem Sim.same {x y : Ex} (h : Sim x y) : ∀ d, sameM false d x y = true := by
  have hd : ∀ {k n : Int} {s : List UInt8} {op : Int} {xs ys : List Ex} {a b : Int}, xs.length = ys.length → diffM false (.mk k n s op xs a) (.mk k n s op ys b) = false := fun h => by
    simp [diffM, Ex.k, Ex.n, Ex.s, Ex.op, Ex.subs, Ex.a, h]
  induction h with
  | leaf k n s op a b =>
    intro d
    cases d with
    | zero => rfl
    | succ d => rw [sameM, if_neg (by rw [hd rfl]; decide)]; rfl
  | one k n s op a b x y h ih =>
    intro d
    cases d with
    | zero => rfl
    | succ d =>
      rw [sameM, if_neg (by rw [hd (xs := [x]) (ys := [y]) rfl]; decide)]
      simp only [Ex.subs, all2, ih d, Bool.and_true]
  | two k n s op a b x y x' y' h1 h2 ih1 ih2 =>
    intro d
    cases d with
    | zero => rfl
    | succ d =>
      rw [sameM, if_neg (by rw [hd (xs := [x, y]) (ys := [x', y']) rfl]; decide)]
      simp only [Ex.subs, all2, ih1 d, ih2 d, Bool.and_true]
end Go.Proofs.YtadlbafgkibipaaGreatDoor.Con

namespace Go.Proofs.YtadlbafgkibipaaGreatDoor.Con
open Go Go.RowKit Go.Kt Go.Kt.V Go.Proofs.YtadlbafgkibipaaGreatDoor.Vc
set_option linter.unusedSimpArgs false
set_option linter.unusedVariables false
set_option maxHeartbeats 4000000

/-! ## the tokens -/
def kt (t : Tk) : Int × List UInt8 := (t.k, t.t)
theorem tok_one {l : List UInt8} {i : Nat} {c : UInt8} {r : List UInt8} {k : Int} {t : List UInt8} {n : Int} {ts : List Tk} (h : l.drop i = c :: r) (hb : skN false (c :: r) = 0) (ht : tokR (c :: r) = .ok (k, t, n, 1)) (hr : toks l (i + 1) = .ok ts) : toks l i = .ok (⟨k, t, n, (i : Nat)⟩ :: ts) := by
  have hi : i < l.length := by
    have := congrArg List.length h
    rw [List.length_drop, List.length_cons] at this
    omega
  rw [toks_step (by omega), h, hb, Nat.add_zero, if_neg (by omega), h, ht]
  dsimp only
  rw [hr]
theorem sk0 {c : UInt8} {r : List UInt8} (h1 : blankB c = false) (h2 : (c == 47) = false) : skN false (c :: r) = 0 := by
  rw [skN, if_neg (by rw [h1]; decide), if_neg (by rw [h2, Bool.false_and]; decide)]
theorem sign_tok {c : UInt8} {r : List UInt8} (h1 : letterB c = false) (h2 : digitB c = false) (h3 : shortL.contains c = true) (h4 : sign2 (c :: r) = false) : tokR (c :: r) = .ok (4, [c], 0, 1) := by
  have e : tokR (c :: r) = if letterB c then wordR (c :: r) else if digitB c then numR (c :: r) else signR (c :: r) := rfl
  have hn : signN (c :: r) = 1 := by
    unfold signN
    rw [h4]
    dsimp only
    rw [if_neg (by decide), if_pos h3]
  rw [e, h1, h2, if_neg (by decide), if_neg (by decide), signR, hn]
  rfl
theorem drop_tail {l : List UInt8} {i : Nat} {c : UInt8} {r : List UInt8} (h : l.drop i = c :: r) : l.drop (i + 1) = r := by
  rw [← List.drop_drop, h]
  rfl
/-- what may stand behind a sign: none of '=', '>' -/
def soft (r : List UInt8) : Prop := ∀ d, r.head? = some d → d ≠ 61 ∧ d ≠ 62
theorem sign2_soft {c : UInt8} {r : List UInt8} (hc : [38, 124].contains c = false) (h : soft r) : sign2 (c :: r) = false := by
  cases r with
  | nil => rfl
  | cons d r =>
    obtain ⟨h1, h2⟩ := h d rfl
    have e1 : (d == 61) = false := by simpa using h1
    have e2 : (d == 62) = false := by simpa using h2
    show ((d == 61 && [60, 62, 61, 33].contains c) || (d == c && [38, 124].contains c) || (c == 45 && d == 62)) = false
    rw [e1, e2, hc, Bool.false_and, Bool.and_false, Bool.and_false]
    rfl
theorem soft_rep (m : Nat) (r : List UInt8) (h : soft r) {c : UInt8} (hc : c ≠ 61 ∧ c ≠ 62) : soft (List.replicate m c ++ r) := by
  cases m with
  | zero => exact h
  | succ m =>
    intro d hd
    simp only [List.replicate_succ, List.cons_append, List.head?_cons, Option.some.injEq] at hd
    subst hd
    exact hc
theorem t_close {l : List UInt8} : ∀ (m i : Nat), i ≤ l.length → l.drop i = List.replicate m 41 → ∃ ts, toks l i = .ok ts ∧ ts.map kt = List.replicate m (4, [41]) ++ [(5, [])]
  | 0, i, hi, h => by
    refine ⟨[⟨5, [], 0, (i : Nat)⟩], ?_, rfl⟩
    · rw [toks_step hi, h]
      have : l.length ≤ i := by
        have := congrArg List.length h
        rw [List.length_drop, List.length_replicate] at this
        omega
      rw [if_pos (by omega)]
      rfl
  | m + 1, i, hi, h => by
    rw [List.replicate_succ] at h
    have hd := drop_tail h
    have hl := congrArg List.length h
    rw [List.length_drop, List.length_cons] at hl
    obtain ⟨ts, h1, h2⟩ := t_close m (i + 1) (by omega) hd
    refine ⟨_, tok_one h (sk0 (by decide) (by decide)) (sign_tok (by decide) (by decide) (by decide) (sign2_soft (by decide) ?_)) h1, ?_⟩
    · have := soft_rep m [] (fun d hd => by cases hd) (c := 41) (by decide)
      rwa [List.append_nil] at this
    · rw [List.map_cons, h2, List.replicate_succ]
      rfl
theorem t_mid {l : List UInt8} {m i : Nat} (hi : i ≤ l.length) (h : l.drop i = 120 :: List.replicate m 41) : ∃ ts, toks l i = .ok ts ∧ ts.map kt = (1, [120]) :: (List.replicate m (4, [41]) ++ [(5, [])]) := by
  have hd := drop_tail h
  have hl := congrArg List.length h
  rw [List.length_drop, List.length_cons] at hl
  obtain ⟨ts, h1, h2⟩ := t_close m (i + 1) (by omega) hd
  refine ⟨_, tok_one h (sk0 (by decide) (by decide)) (k := 1) (t := [120]) (n := 0) ?_ h1, ?_⟩
  · have hw : (120 :: List.replicate m 41 : List UInt8).takeWhile wordB = [120] := by
      rw [List.takeWhile_cons, if_pos (by decide)]
      cases m with
      | zero => rfl
      | succ m => rw [List.replicate_succ, List.takeWhile_cons, if_neg (by decide)]
    have e : tokR (120 :: List.replicate m 41) = wordR (120 :: List.replicate m 41) := rfl
    rw [e, wordR, hw]
    rfl
  · rw [List.map_cons, h2]
    rfl
theorem t_open {l : List UInt8} {m : Nat} : ∀ (p i : Nat), i ≤ l.length → l.drop i = List.replicate p 40 ++ 120 :: List.replicate m 41 → ∃ ts, toks l i = .ok ts ∧ ts.map kt = List.replicate p (4, [40]) ++ (1, [120]) :: (List.replicate m (4, [41]) ++ [(5, [])])
  | 0, i, hi, h => t_mid hi h
  | p + 1, i, hi, h => by
    rw [List.replicate_succ, List.cons_append] at h
    have hd := drop_tail h
    have hl := congrArg List.length h
    rw [List.length_drop, List.length_cons] at hl
    obtain ⟨ts, h1, h2⟩ := t_open p (i + 1) (by omega) hd
    refine ⟨_, tok_one h (sk0 (by decide) (by decide)) (sign_tok (by decide) (by decide) (by decide) (sign2_soft (by decide) (soft_rep p _ (fun d hd => ?_) (by decide)))) h1, ?_⟩
    · simp only [List.head?_cons, Option.some.injEq] at hd
      subst hd
      decide
    · rw [List.map_cons, h2, List.replicate_succ]
      rfl
def signU (b : Bool) : List UInt8 := if b then [45, 32] else [33]
def signT (b : Bool) : List UInt8 := if b then [45] else [33]
def reps (u : List UInt8) : Nat → List UInt8
  | 0 => []
  | n + 1 => u ++ reps u n
theorem reps_snoc (u : List UInt8) : ∀ n, reps u (n + 1) = reps u n ++ u
  | 0 => by simp [reps]
  | n + 1 => by
    have e : reps u (n + 1 + 1) = u ++ reps u (n + 1) := rfl
    have e2 : reps u (n + 1) = u ++ reps u n := rfl
    rw [e, reps_snoc u n, ← List.append_assoc, ← e2, reps_snoc u n]
theorem reps_len (b : Bool) : ∀ n, (reps (signU b) n).length ≤ 2 * n
  | 0 => Nat.le_refl _
  | n + 1 => by
    rw [reps, List.length_append]
    have := reps_len b n
    have h2 : (signU b).length ≤ 2 := by cases b <;> simp [signU]
    omega
/-- what stands behind the signs -/
def tailD (m k : Nat) : List UInt8 := List.replicate m 40 ++ 120 :: List.replicate k 41
theorem hard {b : Bool} {n m k : Nat} : ∃ c r, reps (signU b) n ++ tailD m k = c :: r ∧ blankB c = false ∧ (c == 47) = false ∧ c ≠ 61 ∧ c ≠ 62 := by
  cases n with
  | zero =>
    cases m with
    | zero => exact ⟨120, _, rfl, by decide, by decide, by decide, by decide⟩
    | succ m => exact ⟨40, _, rfl, by decide, by decide, by decide, by decide⟩
  | succ n =>
    cases b with
    | true => exact ⟨45, _, rfl, by decide, by decide, by decide, by decide⟩
    | false => exact ⟨33, _, rfl, by decide, by decide, by decide, by decide⟩
theorem t_signs {l : List UInt8} {b : Bool} {m : Nat} : ∀ (n i : Nat), i ≤ l.length → l.drop i = reps (signU b) n ++ tailD m m → ∃ ts, toks l i = .ok ts ∧ ts.map kt = List.replicate n (4, signT b) ++ (List.replicate m (4, [40]) ++ (1, [120]) :: (List.replicate m (4, [41]) ++ [(5, [])]))
  | 0, i, hi, h => t_open m i hi h
  | n + 1, i, hi, h => by
    rw [reps, List.append_assoc] at h
    obtain ⟨c, r, hc, hb1, hb2, hb3⟩ := hard (b := b) (n := n) (m := m) (k := m)
    cases b with
    | true =>
      have h : l.drop i = 45 :: 32 :: (reps (signU true) n ++ tailD m m) := h
      have hd := drop_tail h
      have hd2 := drop_tail hd
      have hl := congrArg List.length h
      rw [List.length_drop, List.length_cons, List.length_cons] at hl
      obtain ⟨ts, h1, h2⟩ := t_signs (b := true) n (i + 1 + 1) (by omega) hd2
      have hsk : toks l (i + 1) = .ok ts := by
        rw [toks_skip (by omega), hd, skN, if_pos (by decide), hc, sk0 hb1 hb2]
        exact h1
      refine ⟨_, tok_one h (sk0 (by decide) (by decide)) (sign_tok (by decide) (by decide) (by decide) (sign2_soft (by decide) fun d hd => ?_)) hsk, ?_⟩
      · simp only [List.head?_cons, Option.some.injEq] at hd
        subst hd
        decide
      · rw [List.map_cons, h2, List.replicate_succ, List.cons_append]
        rfl
    | false =>
      have h : l.drop i = 33 :: (reps (signU false) n ++ tailD m m) := h
      have hd := drop_tail h
      have hl := congrArg List.length h
      rw [List.length_drop, List.length_cons] at hl
      obtain ⟨ts, h1, h2⟩ := t_signs (b := false) n (i + 1) (by omega) hd
      refine ⟨_, tok_one h (sk0 (by decide) (by decide)) (sign_tok (by decide) (by decide) (by decide) (sign2_soft (by decide) fun d hd => ?_)) h1, ?_⟩
      · rw [hc, List.head?_cons, Option.some.injEq] at hd
        subst hd
        exact hb3
      · rw [List.map_cons, h2, List.replicate_succ, List.cons_append]
        rfl

/-! ## reading them -/
structure De (ts : List Tk) (n m : Nat) (s : List UInt8) : Prop where
  a : ∀ i, i < n → (tk ts i).k = 4 ∧ (tk ts i).t = s
  b : ∀ i, n ≤ i → i < n + m → (tk ts i).k = 4 ∧ (tk ts i).t = [40]
  c : (tk ts (n + m)).k = 1 ∧ (tk ts (n + m)).t = [120]
  e : ∀ i, n + m < i → i ≤ n + m + m → (tk ts i).k = 4 ∧ (tk ts i).t = [41]
  z : (tk ts (n + m + m + 1)).k = 5
  l : ts.length = n + m + m + 2
theorem tk_kt {ts : List Tk} {i : Nat} {q : Int × List UInt8} (h : (ts.map kt)[i]? = some q) : (tk ts i).k = q.1 ∧ (tk ts i).t = q.2 := by
  rw [List.getElem?_map, Option.map_eq_some_iff] at h
  obtain ⟨t, h1, rfl⟩ := h
  have : tk ts i = t := by unfold tk; rw [h1]; rfl
  rw [this]
  exact ⟨rfl, rfl⟩
theorem de_of {ts : List Tk} {n m : Nat} {s : List UInt8} (h : ts.map kt = List.replicate n (4, s) ++ (List.replicate m (4, [40]) ++ (1, [120]) :: (List.replicate m (4, [41]) ++ [(5, [])]))) : De ts n m s := by
  have hl := congrArg List.length h
  simp only [List.length_map, List.length_append, List.length_replicate, List.length_cons, List.length_nil] at hl
  have go : ∀ i q, (List.replicate n ((4 : Int), s) ++ (List.replicate m (4, [40]) ++ (1, [120]) :: (List.replicate m (4, [41]) ++ [(5, [])])))[i]? = some q → (tk ts i).k = q.1 ∧ (tk ts i).t = q.2 := fun i q hq => tk_kt (by rw [h]; exact hq)
  refine ⟨fun i hi => go i (4, s) ?_, fun i h1 h2 => go i (4, [40]) ?_, go (n + m) (1, [120]) ?_, fun i h1 h2 => go i (4, [41]) ?_, (go (n + m + m + 1) (5, []) ?_).1, by omega⟩
  · rw [List.getElem?_append_left (by rw [List.length_replicate]; exact hi), List.getElem?_replicate, if_pos hi]
  · rw [List.getElem?_append_right (by rw [List.length_replicate]; exact h1), List.length_replicate, List.getElem?_append_left (by rw [List.length_replicate]; omega), List.getElem?_replicate, if_pos (by omega)]
  · rw [List.getElem?_append_right (by rw [List.length_replicate]; omega), List.length_replicate, List.getElem?_append_right (by rw [List.length_replicate]; omega), List.length_replicate, Nat.add_sub_cancel_left, Nat.sub_self]
    rfl
  · rw [List.getElem?_append_right (by rw [List.length_replicate]; omega), List.length_replicate, List.getElem?_append_right (by rw [List.length_replicate]; omega), List.length_replicate]
    obtain ⟨j, hj⟩ : ∃ j, i - n - m = j + 1 := ⟨i - n - m - 1, by omega⟩
    rw [hj, List.getElem?_cons_succ, List.getElem?_append_left (by rw [List.length_replicate]; omega), List.getElem?_replicate, if_pos (by omega)]
  · rw [List.getElem?_append_right (by rw [List.length_replicate]; omega), List.length_replicate, List.getElem?_append_right (by rw [List.length_replicate]; omega), List.length_replicate]
    have hj : n + m + m + 1 - n - m = m + 1 := by omega
    rw [hj, List.getElem?_cons_succ, List.getElem?_append_right (by rw [List.length_replicate]; omega), List.length_replicate, Nat.sub_self]
    rfl
/-- a tree of so many signs -/
def Dn : Nat → Ex → Prop
  | 0, x => x.k = 2 ∧ x.s = [120] ∧ x.subs = []
  | q + 1, x => x.k = 4 ∧ ∃ y, x.subs = [y] ∧ Dn q y
section
variable {ts : List Tk} {n m : Nat} {s : List UInt8}
theorem sg_f {ts : List Tk} {i : Nat} {t s : List UInt8} (h : (tk ts i).t = t) (hne : t ≠ s) : sg ts i s = false := by
  unfold sg
  rw [h, decide_eq_false hne, Bool.and_false]
theorem sg_t {ts : List Tk} {i : Nat} {t : List UInt8} (h : (tk ts i).k = 4 ∧ (tk ts i).t = t) : sg ts i t = true := by
  unfold sg
  rw [h.1, h.2, decide_eq_true rfl]
  rfl
theorem De.op (h : De ts n m s) {j : Nat} (hj : n + m < j) (hj2 : j ≤ n + m + m + 1) (k : Int) : opAt ts k j = 0 := by
  rcases Nat.lt_or_ge (n + m + m) j with h1 | h1
  · have : j = n + m + m + 1 := by omega
    subst this
    exact op_end h.z k
  · exact op_of (h.e j hj h1).2 (by decide) k
/-- at a parenthesis -/
theorem De.par (h : De ts n m s) : ∀ (q p f : Nat), p + q = m → n + p ≤ 20 → need 6 (n + p) ≤ f →
    (n + m ≤ 20 ∧ ∃ x, exprR ts f 6 (n + p) (n + p) = .ok (x, n + m + 1 + q) ∧ Dn 0 x) ∨ (20 < n + m ∧ ∃ a, exprR ts f 6 (n + p) (n + p) = .error (21, a))
  | _, _, 0, _, _, hf => by unfold need at hf; omega
  | 0, p, f + 1, hp, hd, hf => by
    have : p = m := by omega
    subst this
    refine .inl ⟨hd, .mk 2 0 (tk ts (n + p)).t 0 [] (tk ts (n + p)).a, ?_, rfl, h.c.2, rfl⟩
    rw [exprR, if_pos rfl]
    unfold oneR
    rw [sg_f h.c.2 (by decide), sg_f h.c.2 (by decide), sg_f h.c.2 (by decide), if_neg (by decide), if_neg (by decide), if_neg (by rw [h.c.1]; decide), if_pos h.c.1]
  | q + 1, p, f + 1, hp, hd, hf => by
    have hb := h.b (n + p) (by omega) (by omega)
    rw [exprR, if_pos rfl]
    unfold oneR
    rw [sg_f hb.2 (by decide), sg_f hb.2 (by decide), sg_t hb, if_neg (by decide), if_pos rfl]
    by_cases h20 : n + p = 20
    · exact .inr ⟨by omega, (tk ts (n + p)).a, by rw [nestR, if_pos h20]⟩
    · rw [nestR, if_neg h20]
      unfold need at hf
      obtain ⟨g, rfl⟩ : ∃ g, f = g + 6 := ⟨f - 6, by omega⟩
      rcases De.par h q (p + 1) g (by omega) (by omega) (by unfold need; omega) with ⟨h1, x, h2, h3⟩ | ⟨h1, a, h2⟩
      · refine .inl ⟨h1, x, ?_, h3⟩
        have hup := up_ok h2 (h.op (by omega) (by omega)) 6 0 rfl
        rw [← Nat.add_assoc] at hup
        rw [hup]
        simp only [parR]
        rw [if_pos (sg_t (h.e _ (by omega) (by omega))), Nat.add_assoc (n + m + 1)]
      · refine .inr ⟨h1, a, ?_⟩
        have hup := up_err h2 6 0 rfl
        rw [← Nat.add_assoc] at hup
        rw [hup]
        rfl
/-- at a sign -/
theorem De.sgn (h : De ts n m s) (hs : s = [45] ∨ s = [33]) : ∀ (q p f : Nat), p + q = n → p ≤ 20 → need 6 p ≤ f →
    (n + m ≤ 20 ∧ ∃ x, exprR ts f 6 p p = .ok (x, n + m + m + 1) ∧ Dn q x) ∨ (20 < n + m ∧ ∃ a, exprR ts f 6 p p = .error (21, a))
  | _, _, 0, _, _, hf => by unfold need at hf; omega
  | 0, p, f + 1, hp, hd, hf => by
    have : p = n := by omega
    subst this
    have := De.par h m 0 (f + 1) (by omega) (by omega) hf
    simp only [Nat.add_zero] at this
    rcases this with ⟨h1, x, h2, h3⟩ | h1
    · exact .inl ⟨h1, x, by rw [h2]; congr 2; omega, h3⟩
    · exact .inr h1
  | q + 1, p, f + 1, hp, hd, hf => by
    have ha := h.a p (by omega)
    rw [exprR, if_pos rfl]
    unfold oneR
    have hor : (sg ts p [45] || sg ts p [33]) = true := by
      rcases hs with rfl | rfl
      · rw [sg_t ha, Bool.true_or]
      · rw [sg_t ha, Bool.or_true]
    rw [if_pos hor]
    by_cases h20 : p = 20
    · exact .inr ⟨by omega, (tk ts p).a, by rw [nestR, if_pos h20]; rfl⟩
    · rw [nestR, if_neg h20]
      unfold need at hf
      rcases De.sgn h hs q (p + 1) f (by omega) (by omega) (by unfold need; omega) with ⟨h1, x, h2, h3⟩ | ⟨h1, a, h2⟩
      · refine .inl ⟨h1, .mk 4 0 [] (if (tk ts p).t = [33] then 15 else 14) [x] (tk ts p).a, ?_, rfl, x, rfl, h3⟩
        rw [h2]
        rfl
      · exact .inr ⟨h1, a, by rw [h2]; rfl⟩
end
theorem deep_law (b : Bool) (n m : Nat) (hn : n ≤ 31) (hm : m ≤ 31) : (n + m ≤ 20 ∧ (readA (reps (signU b) n ++ tailD m m)).2.1 = 0 ∧ Dn n (readA (reps (signU b) n ++ tailD m m)).1) ∨ (20 < n + m ∧ (readA (reps (signU b) n ++ tailD m m)).2.1 = 21) := by
  generalize hL : reps (signU b) n ++ tailD m m = L
  have hlen : L.length ≤ 16384 := by
    rw [← hL, List.length_append, tailD, List.length_append, List.length_cons, List.length_replicate, List.length_replicate]
    have := reps_len b n
    omega
  obtain ⟨ts, h1, h2⟩ := t_signs (l := L) (b := b) (m := m) n 0 (Nat.zero_le _) (by rw [List.drop_zero, hL])
  have hD := de_of h2
  have t1 : tokensM L = (ts, 0, 0) := by
    rw [tokensM, if_neg (by omega), h1]
  have hE : EndL ts := fun i hi => by
    rw [hD.l] at hi ⊢
    constructor
    · intro hk
      refine Decidable.byContradiction fun hne => ?_
      rcases Nat.lt_or_ge i n with c1 | c1
      · rw [(hD.a i c1).1] at hk; exact absurd hk (by decide)
      · rcases Nat.lt_or_ge i (n + m) with c2 | c2
        · rw [(hD.b i c1 c2).1] at hk; exact absurd hk (by decide)
        · rcases Nat.lt_or_ge (n + m) i with c3 | c3
          · rw [(hD.e i c3 (by omega)).1] at hk; exact absurd hk (by decide)
          · have : i = n + m := by omega
            subst this
            rw [hD.c.1] at hk; exact absurd hk (by decide)
    · intro hk
      have : i = n + m + m + 1 := by omega
      subst this
      exact hD.z
  have hpos : 0 < ts.length := by rw [hD.l]; omega
  have hpa : parseA ts 0 = match parseR ts 0 with
    | .error (c, p) => (ex0, 0, c, p)
    | .ok (x, j) => (x, (j : Int), 0, 0) := by
    rw [parseA, if_pos ⟨Int.le_refl _, by omega, end_endN hE hpos⟩]
    rfl
  have hpr : parseR ts 0 = exprR ts (161 + 6) 0 0 0 := rfl
  have hrd : readA L = if (parseA ts 0).2.2.1 ≠ 0 then (ex0, (parseA ts 0).2.2.1, (parseA ts 0).2.2.2) else if (tk ts (parseA ts 0).2.1.toNat).k ≠ 5 then (ex0, 4, (tk ts (parseA ts 0).2.1.toNat).a) else ((parseA ts 0).1, 0, (parseA ts 0).2.2.2) := by
    unfold readA
    rw [t1]
    rfl
  have hs : signT b = [45] ∨ signT b = [33] := by cases b <;> simp [signT]
  rcases hD.sgn hs n 0 161 (by omega) (by decide) (by decide) with ⟨c1, x, c2, c3⟩ | ⟨c1, a, c2⟩
  · rw [up_ok c2 (hD.op (by omega) (by omega)) 6 0 rfl] at hpr
    rw [hpr] at hpa
    dsimp only at hpa
    rw [hpa] at hrd
    dsimp only at hrd
    rw [if_neg (by decide), Int.toNat_natCast, hD.z, if_neg (show ¬ (5 : Int) ≠ 5 by decide)] at hrd
    refine .inl ⟨c1, ?_⟩
    rw [hrd]
    exact ⟨rfl, c3⟩
  · rw [up_err c2 6 0 rfl] at hpr
    rw [hpr] at hpa
    dsimp only at hpa
    rw [hpa] at hrd
    dsimp only at hrd
    rw [if_pos (by decide)] at hrd
    refine .inr ⟨c1, ?_⟩
    rw [hrd]
end Go.Proofs.YtadlbafgkibipaaGreatDoor.Con

namespace Go.Proofs.YtadlbafgkibipaaGreatDoor.Con
open Go Go.RowKit Go.Kt Go.Kt.V
set_option linter.unusedSimpArgs false
set_option linter.unusedVariables false
set_option maxHeartbeats 4000000

/-! ## the whole text -/
def txM : Nat → Ex → Bool → List UInt8
  | 0, _, _ => []
  | d + 1, x, wr => clo wr (opn wr [] ++ (
    if x.k = 1 then Lib.itoa x.n
    else if x.k = 2 then x.s
    else if x.k = 3 then [105, 110, 40] ++ x.s ++ [41]
    else if x.k = 4 then (match x.subs with
      | [y] => opTx x.op.toNat ++ txM d y (decide (levM y < 6))
      | _ => [])
    else (match x.subs with
      | [y, z] => txM d y (decide (levM y < levM x)) ++ ([32] ++ opTx x.op.toNat ++ [32]) ++ txM d z (decide (levM z ≤ levM x))
      | _ => [])))
theorem opn_eq (wr : Bool) (l : List UInt8) : opn wr l = l ++ opn wr [] := by cases wr <;> simp [opn]
theorem clo_eq (wr : Bool) (l m : List UInt8) : clo wr (l ++ m) = l ++ clo wr m := by cases wr <;> simp [clo]
theorem clo_ge (wr : Bool) (l : List UInt8) : l.length ≤ (clo wr l).length := by cases wr <;> simp [clo]
theorem opn_ge (wr : Bool) (l : List UInt8) : l.length ≤ (opn wr l).length := by cases wr <;> simp [opn]
theorem pg_ge : ∀ (d : Nat) (x : Ex) (wr : Bool) (l : List UInt8), l.length ≤ (pgM d x wr l).length
  | 0, _, _, _ => Nat.le_refl _
  | d + 1, x, wr, l => by
    rw [pgM]
    split
    · exact Nat.le_refl _
    refine Nat.le_trans ?_ (clo_ge _ _)
    have h1 := opn_ge wr l
    split
    · rw [List.length_append]; omega
    · split
      · rw [List.length_append]; omega
      · split
        · rw [List.length_append]; omega
        · split
          · split
            · rename_i y _
              have := pg_ge d y (decide (levM y < 6)) (opn wr l ++ opTx x.op.toNat)
              rw [List.length_append] at this
              omega
            · exact Nat.le_refl _
          · split
            · rename_i y z _
              have a1 := pg_ge d y (decide (levM y < levM x)) (opn wr l)
              have a2 := pg_ge d z (decide (levM z ≤ levM x)) (pgM d y (decide (levM y < levM x)) (opn wr l) ++ ([32] ++ opTx x.op.toNat ++ [32]))
              rw [List.length_append] at a2
              omega
            · exact Nat.le_refl _
/-- a page that is not too long was not cut -/
theorem pg_tx : ∀ (d : Nat) {x : Ex} (wr : Bool) (l : List UInt8), shapeM d x = true → (pgM d x wr l).length ≤ 16384 → pgM d x wr l = l ++ txM d x wr
  | 0, x, wr, l, h, _ => by cases h
  | d + 1, x, wr, l, h, hl => by
    rw [shapeM, Bool.and_eq_true] at h
    obtain ⟨hh, ha⟩ := h
    have h0 := pg_ge (d + 1) x wr l
    have hc : ¬ 16384 < l.length := by omega
    rw [pgM, if_neg hc] at hl ⊢
    rw [txM, ← clo_eq]
    have hl2 := Nat.le_trans (clo_ge wr _) hl
    congr 1
    by_cases k1 : x.k = 1
    · rw [if_pos k1, if_pos k1, opn_eq wr l, List.append_assoc]
    by_cases k2 : x.k = 2
    · rw [if_neg k1, if_neg k1, if_pos k2, if_pos k2, opn_eq wr l, List.append_assoc]
    by_cases k3 : x.k = 3
    · rw [if_neg k1, if_neg k1, if_neg k2, if_neg k2, if_pos k3, if_pos k3, opn_eq wr l, List.append_assoc]
    by_cases k4 : x.k = 4
    · obtain ⟨y, hy, _⟩ := head4 hh k4
      rw [if_neg k1, if_neg k2, if_neg k3, if_pos k4, hy] at hl2
      rw [if_neg k1, if_neg k1, if_neg k2, if_neg k2, if_neg k3, if_neg k3, if_pos k4, if_pos k4, hy]
      rw [hy] at ha
      dsimp only at hl2 ⊢
      simp only [all1, Bool.and_true] at ha
      rw [pg_tx d _ _ ha hl2, opn_eq wr l]
      simp only [List.append_assoc]
    · obtain ⟨_, y, z, hy, _⟩ := head5 hh k1 k2 k3 k4
      rw [if_neg k1, if_neg k2, if_neg k3, if_neg k4, hy] at hl2
      rw [if_neg k1, if_neg k1, if_neg k2, if_neg k2, if_neg k3, if_neg k3, if_neg k4, if_neg k4, hy]
      rw [hy] at ha
      dsimp only at hl2 ⊢
      simp only [all1, Bool.and_true, Bool.and_eq_true] at ha
      have h1 := pg_ge d z (decide (levM z ≤ levM x)) (pgM d y (decide (levM y < levM x)) (opn wr l) ++ ([32] ++ opTx x.op.toNat ++ [32]))
      rw [List.length_append] at h1
      rw [pg_tx d _ _ ha.2 hl2, pg_tx d _ _ ha.1 (by omega), opn_eq wr l]
      simp only [List.append_assoc]

/-! ## its tokens -/
abbrev K3 := Int × List UInt8 × Int
def k3 (t : Tk) : K3 := (t.k, t.t, t.n)
def opk (wr : Bool) : List K3 := if wr then [(4, [40], 0)] else []
def clk (wr : Bool) : List K3 := if wr then [(4, [41], 0)] else []
def ptk : Nat → Ex → Bool → List K3
  | 0, _, _ => []
  | d + 1, x, wr => opk wr ++ (
    if x.k = 1 then [(3, [], x.n)]
    else if x.k = 2 then [(1, x.s, 0)]
    else if x.k = 3 then [(2, [105, 110], 0), (4, [40], 0), (1, x.s, 0), (4, [41], 0)]
    else if x.k = 4 then (match x.subs with
      | [y] => (4, opTx x.op.toNat, 0) :: ptk d y (decide (levM y < 6))
      | _ => [])
    else (match x.subs with
      | [y, z] => ptk d y (decide (levM y < levM x)) ++ (4, opTx x.op.toNat, 0) :: ptk d z (decide (levM z ≤ levM x))
      | _ => [])) ++ clk wr
/-- how a part's text may begin -/
def startB (c : UInt8) : Bool := letterB c || digitB c || c == 40 || c == 45 || c == 33
theorem start_all : ∀ n : Fin 256, startB (UInt8.ofNat n.val) = true → blankB (UInt8.ofNat n.val) = false ∧ (UInt8.ofNat n.val == 47) = false ∧ UInt8.ofNat n.val ≠ 61 ∧ UInt8.ofNat n.val ≠ 62 := by decide +kernel
theorem u8_all {p : UInt8 → Prop} (h : ∀ n : Fin 256, p (UInt8.ofNat n.val)) (c : UInt8) : p c := by
  have := h ⟨c.toNat, c.toNat_lt⟩
  simpa using this
theorem start_ok {c : UInt8} (h : startB c = true) : blankB c = false ∧ (c == 47) = false ∧ c ≠ 61 ∧ c ≠ 62 := u8_all (p := fun c => startB c = true → blankB c = false ∧ (c == 47) = false ∧ c ≠ 61 ∧ c ≠ 62) start_all c h
/-- how a text goes on behind a part -/
def endR (r : List UInt8) : Prop := ∀ c, r.head? = some c → c = 32 ∨ c = 41
theorem endR.word {r : List UInt8} (h : endR r) (p : UInt8 → Bool) (h1 : p 32 = false) (h2 : p 41 = false) : ∀ (l : List UInt8), (∀ c, c ∈ l → p c = true) → (l ++ r).takeWhile p = l
  | [], _ => by
    cases r with
    | nil => rfl
    | cons c r =>
      rw [List.nil_append, List.takeWhile_cons]
      rcases h c rfl with rfl | rfl
      · rw [if_neg (by rw [h1]; decide)]
      · rw [if_neg (by rw [h2]; decide)]
  | c :: l, hl => by
    rw [List.cons_append, List.takeWhile_cons, if_pos (hl c (by simp)), h.word p h1 h2 l fun x hx => hl x (by simp [hx])]

/-! ## digits -/
theorem head_app {a b : List UInt8} (h : a ≠ []) : (a ++ b).head? = a.head? := by
  cases a with
  | nil => exact absurd rfl h
  | cons c a => rfl

theorem dec_one {u : Nat} (h : u < 10) : Lib.decDigits u = [UInt8.ofNat (48 + u)] := by rw [Lib.decDigits, dif_pos h]
theorem dec_more {u : Nat} (h : ¬ u < 10) : Lib.decDigits u = Lib.decDigits (u / 10) ++ [UInt8.ofNat (48 + u % 10)] := by rw [Lib.decDigits, dif_neg h]
theorem dig_nat {u : Nat} (h : u < 10) : (UInt8.ofNat (48 + u)).toNat = 48 + u := by
  rw [UInt8.toNat_ofNat']
  omega
theorem dig_b {u : Nat} (h : u < 10) : digitB (UInt8.ofNat (48 + u)) = true := by
  unfold digitB
  rw [dig_nat h]
  simp
  omega
theorem dec_all (u : Nat) : ∀ c, c ∈ Lib.decDigits u → digitB c = true := by
  induction u using Nat.strongRecOn with
  | _ u ih =>
    intro c hc
    by_cases h : u < 10
    · rw [dec_one h, List.mem_singleton] at hc
      subst hc
      exact dig_b h
    · rw [dec_more h, List.mem_append, List.mem_singleton] at hc
      rcases hc with hc | rfl
      · exact ih (u / 10) (by omega) c hc
      · exact dig_b (Nat.mod_lt _ (by decide))
theorem dec_ne (u : Nat) : Lib.decDigits u ≠ [] := by
  by_cases h : u < 10
  · rw [dec_one h]; simp
  · rw [dec_more h]; simp
theorem decV_snoc1 (a : Nat) (l : List UInt8) (c : UInt8) : decV a (l ++ [c]) = decV a l * 10 + (c.toNat - 48) := by
  simp [decV, List.foldl_append]
theorem dec_val (u : Nat) : decV 0 (Lib.decDigits u) = u := by
  induction u using Nat.strongRecOn with
  | _ u ih =>
    by_cases h : u < 10
    · rw [dec_one h]
      have := dig_nat h
      simp only [decV, List.foldl_cons, List.foldl_nil]
      omega
    · rw [dec_more h, decV_snoc1, ih (u / 10) (by omega), dig_nat (Nat.mod_lt _ (by decide))]
      omega
theorem dec_head (u : Nat) (h0 : 0 < u) : (Lib.decDigits u).head? ≠ some 48 := by
  induction u using Nat.strongRecOn with
  | _ u ih =>
    by_cases h : u < 10
    · rw [dec_one h, List.head?_cons]
      intro e
      injection e with e
      have := congrArg UInt8.toNat e
      rw [dig_nat h] at this
      have h48 : (48 : UInt8).toNat = 48 := rfl
      omega
    · rw [dec_more h, head_app (dec_ne _)]
      exact ih (u / 10) (by omega) (by omega)
theorem dec_len1 (u : Nat) (h : 1 < (Lib.decDigits u).length) : 0 < u := by
  refine Decidable.byContradiction fun hn => ?_
  have : u = 0 := by omega
  subst this
  rw [dec_one (by decide)] at h
  simp at h
theorem digit_word {c : UInt8} (h : digitB c = true) : wordB c = true := by unfold wordB; rw [h, Bool.or_true]
theorem digit_nl {c : UInt8} (h : digitB c = true) : letterB c = false := by
  unfold digitB at h
  unfold letterB
  simp only [Bool.and_eq_true, decide_eq_true_eq] at h
  simp
  omega
theorem itoa_nat {n : Int} (h : 0 ≤ n) : Lib.itoa n = Lib.decDigits n.toNat := by
  unfold Lib.itoa
  rw [if_neg (by omega)]
theorem num_tok {n : Int} (h0 : 0 ≤ n) (h1 : n ≤ 9223372036854775807) {r : List UInt8} (hr : endR r) : tokR (Lib.itoa n ++ r) = .ok (3, [], n, (Lib.itoa n).length) := by
  rw [itoa_nat h0]
  generalize hu : n.toNat = u
  have hn : n = (u : Int) := by omega
  have hall := dec_all u
  have hne := dec_ne u
  have hw := hr.word wordB (by decide) (by decide) (Lib.decDigits u) fun c hc => digit_word (hall c hc)
  have hd := hr.word digitB (by decide) (by decide) (Lib.decDigits u) hall
  have hp : parseM (Lib.decDigits u ++ r) = (u, (Lib.decDigits u).length, 0) := by
    unfold parseM
    rw [hd, dec_val]
    rw [if_neg (by simp [hne]), if_neg, if_pos (by omega)]
    rintro (h | ⟨h2, h3⟩)
    · exact hne h
    · rw [head_app hne] at h3
      exact dec_head u (dec_len1 u h2) h3
  have hnum : numR (Lib.decDigits u ++ r) = .ok (3, [], n, (Lib.decDigits u).length) := by
    unfold numR
    rw [hp, hw, if_neg (by simp), if_neg (by simp), hn]
  generalize hm : Lib.decDigits u = m at *
  cases m with
  | nil => exact absurd rfl hne
  | cons c m =>
    have hc := hall c (by simp)
    have e : tokR (c :: m ++ r) = if letterB c then wordR (c :: m ++ r) else if digitB c then numR (c :: m ++ r) else signR (c :: m ++ r) := rfl
    rw [e, digit_nl hc, hc, if_neg (by decide), if_pos rfl, hnum]

/-! ## names, signs -/
theorem word_tok {s r : List UInt8} (hn : nameM s = true) (hr : endR r) : tokR (s ++ r) = .ok (1, s, 0, s.length) := by
  unfold nameM at hn
  simp only [Bool.and_eq_true] at hn
  obtain ⟨⟨⟨h1, h2⟩, h3⟩, h4⟩ := hn
  obtain ⟨h1, h5⟩ := of_decide_eq_true h1
  have h3 := of_decide_eq_true h3
  have h4 : wordsL.contains s = false := by simpa using h4
  have hw := hr.word wordB (by decide) (by decide) s fun c hc => by rw [← h3] at hc; exact while_all c hc
  have hwr : wordR (s ++ r) = .ok (1, s, 0, s.length) := by
    unfold wordR
    rw [hw, if_neg (by omega), h4]
    rfl
  cases s with
  | nil => exact absurd rfl h1
  | cons c s =>
    have e : tokR (c :: s ++ r) = if letterB c then wordR (c :: s ++ r) else if digitB c then numR (c :: s ++ r) else signR (c :: s ++ r) := rfl
    have h2 : letterB c = true := h2
    rw [e, h2, if_pos rfl, hwr]
theorem op_tok {op : Nat} (h1 : 1 ≤ op) (h2 : op ≤ 13) (r : List UInt8) : tokR (opTx op ++ 32 :: r) = .ok (4, opTx op, 0, (opTx op).length) ∧ skN false (opTx op ++ 32 :: r) = 0 := by
  match op, h1, h2 with
  | 1, _, _ => exact ⟨rfl, rfl⟩
  | 2, _, _ => exact ⟨rfl, rfl⟩
  | 3, _, _ => exact ⟨rfl, rfl⟩
  | 4, _, _ => exact ⟨rfl, rfl⟩
  | 5, _, _ => exact ⟨rfl, rfl⟩
  | 6, _, _ => exact ⟨rfl, rfl⟩
  | 7, _, _ => exact ⟨rfl, rfl⟩
  | 8, _, _ => exact ⟨rfl, rfl⟩
  | 9, _, _ => exact ⟨rfl, rfl⟩
  | 10, _, _ => exact ⟨rfl, rfl⟩
  | 11, _, _ => exact ⟨rfl, rfl⟩
  | 12, _, _ => exact ⟨rfl, rfl⟩
  | 13, _, _ => exact ⟨rfl, rfl⟩
theorem tok_n {l : List UInt8} {i : Nat} {p r : List UInt8} {k : Int} {t : List UInt8} {n : Int} {ts : List Tk} (h : l.drop i = p ++ r) (hp : p ≠ []) (hb : skN false (p ++ r) = 0) (ht : tokR (p ++ r) = .ok (k, t, n, p.length)) (hr : toks l (i + p.length) = .ok ts) : toks l i = .ok (⟨k, t, n, (i : Nat)⟩ :: ts) := by
  have hpl := List.length_pos_iff.2 hp
  have hi : i < l.length := by
    have := congrArg List.length h
    rw [List.length_drop, List.length_append] at this
    omega
  rw [toks_step (by omega), h, hb, Nat.add_zero, if_neg (by omega), h, ht]
  dsimp only
  rw [hr]
theorem drop_app {l : List UInt8} {i : Nat} {p r : List UInt8} (h : l.drop i = p ++ r) : l.drop (i + p.length) = r := by
  rw [← List.drop_drop, h, List.drop_left]
theorem in_of {l : List UInt8} {i : Nat} {p r : List UInt8} (hi : i ≤ l.length) (h : l.drop i = p ++ r) : i + p.length ≤ l.length := by
  have := congrArg List.length h
  rw [List.length_drop, List.length_append] at this
  omega
/-- how texts of parts begin -/
theorem tx_head : ∀ (d : Nat) {x : Ex} (wr : Bool), shapeM d x = true → numOk d x → ∃ c t, txM d x wr = c :: t ∧ startB c = true
  | 0, x, wr, h, _ => by cases h
  | d + 1, x, true, h, _ => ⟨40, _, rfl, by decide⟩
  | d + 1, x, false, h, ⟨hn, hs⟩ => by
    rw [shapeM, Bool.and_eq_true] at h
    obtain ⟨hh, ha⟩ := h
    have e : txM (d + 1) x false = (
    if x.k = 1 then Lib.itoa x.n
    else if x.k = 2 then x.s
    else if x.k = 3 then [105, 110, 40] ++ x.s ++ [41]
    else if x.k = 4 then (match x.subs with
      | [y] => opTx x.op.toNat ++ txM d y (decide (levM y < 6))
      | _ => [])
    else (match x.subs with
      | [y, z] => txM d y (decide (levM y < levM x)) ++ ([32] ++ opTx x.op.toNat ++ [32]) ++ txM d z (decide (levM z ≤ levM x))
      | _ => [])) := rfl
    rw [e]
    by_cases k1 : x.k = 1
    · rw [if_pos k1]
      have h0 : 0 ≤ x.n := by
        rw [headM, if_pos k1] at hh
        have := (eqM_t hh).1
        split at this <;> omega
      rw [itoa_nat h0]
      cases hm : Lib.decDigits x.n.toNat with
      | nil => exact absurd hm (dec_ne _)
      | cons c m =>
        have := dec_all x.n.toNat c (by rw [hm]; simp)
        exact ⟨c, m, rfl, by unfold startB; rw [this]; simp⟩
    have name : nameM x.s = true → ∃ c t, x.s = c :: t ∧ startB c = true := fun hn => by
      unfold nameM at hn
      simp only [Bool.and_eq_true] at hn
      obtain ⟨⟨⟨h1, h2⟩, h3⟩, h4⟩ := hn
      cases hs : x.s with
      | nil => rw [hs] at h2; cases h2
      | cons c t =>
        rw [hs] at h2
        have h2 : letterB c = true := h2
        exact ⟨c, t, rfl, by unfold startB; rw [h2]; simp⟩
    by_cases k2 : x.k = 2
    · rw [if_neg k1, if_pos k2]
      exact name (head23 hh (.inl k2))
    by_cases k3 : x.k = 3
    · rw [if_neg k1, if_neg k2, if_pos k3]
      exact ⟨105, _, rfl, by decide⟩
    by_cases k4 : x.k = 4
    · obtain ⟨y, hy, ho⟩ := head4 hh k4
      rw [if_neg k1, if_neg k2, if_neg k3, if_pos k4, hy]
      rcases ho with ho | ho
      · rw [ho]; exact ⟨45, _, rfl, by decide⟩
      · rw [ho]; exact ⟨33, _, rfl, by decide⟩
    · obtain ⟨_, y, z, hy, _⟩ := head5 hh k1 k2 k3 k4
      rw [if_neg k1, if_neg k2, if_neg k3, if_neg k4, hy]
      rw [hy] at ha hs
      simp only [all1, Bool.and_true, Bool.and_eq_true] at ha
      obtain ⟨c, t, h1, h2⟩ := tx_head d (decide (levM y < levM x)) ha.1 (hs y (by simp))
      dsimp only
      rw [h1]
      exact ⟨c, _, rfl, h2⟩
theorem soft_start {r : List UInt8} (h : ∃ c t, r = c :: t ∧ startB c = true) : soft r := by
  obtain ⟨c, t, rfl, hs⟩ := h
  intro d hd
  simp only [List.head?_cons, Option.some.injEq] at hd
  subst hd
  exact ⟨(start_ok hs).2.2.1, (start_ok hs).2.2.2⟩
theorem endR.soft {r : List UInt8} (h : endR r) : soft r := fun d hd => by
  rcases h d hd with rfl | rfl <;> decide
theorem start_app {a b : List UInt8} (h : ∃ c t, a = c :: t ∧ startB c = true) : ∃ c t, a ++ b = c :: t ∧ startB c = true := by
  obtain ⟨c, t, rfl, hs⟩ := h
  exact ⟨c, t ++ b, rfl, hs⟩
theorem skip1 {l : List UInt8} {i : Nat} {r : List UInt8} (h : l.drop i = 32 :: r) (hr : skN false r = 0) : toks l i = toks l (i + 1) := by
  have hi : i ≤ l.length := by
    refine Decidable.byContradiction fun hn => ?_
    rw [List.drop_of_length_le (by omega)] at h
    cases h
  rw [toks_skip hi, h, skN, if_pos (by decide), hr]
theorem tx_toks {l : List UInt8} : ∀ (d : Nat) {x : Ex} (wr : Bool) (i : Nat) {r : List UInt8} {ts : List Tk}, shapeM d x = true → numOk d x → i ≤ l.length → l.drop i = txM d x wr ++ r → endR r → toks l (i + (txM d x wr).length) = .ok ts → ∃ us, toks l i = .ok (us ++ ts) ∧ us.map k3 = ptk d x wr
  | 0, x, wr, i, r, ts, h, _, _, _, _, _ => by cases h
  | d + 1, x, wr, i, r, ts, h, ⟨hn, hs⟩, hi, hl, hr, ht => by
    have hsh := h
    rw [shapeM, Bool.and_eq_true] at h
    obtain ⟨hh, ha⟩ := h
    -- without parentheses
    have core : ∀ (i : Nat) {r : List UInt8} {ts : List Tk}, i ≤ l.length → l.drop i = txM (d + 1) x false ++ r → endR r → toks l (i + (txM (d + 1) x false).length) = .ok ts → ∃ us, toks l i = .ok (us ++ ts) ∧ us.map k3 = ptk (d + 1) x false := by
      intro i r ts hi hl hr ht
      have e : txM (d + 1) x false = (
      if x.k = 1 then Lib.itoa x.n
      else if x.k = 2 then x.s
      else if x.k = 3 then [105, 110, 40] ++ x.s ++ [41]
      else if x.k = 4 then (match x.subs with
        | [y] => opTx x.op.toNat ++ txM d y (decide (levM y < 6))
        | _ => [])
      else (match x.subs with
        | [y, z] => txM d y (decide (levM y < levM x)) ++ ([32] ++ opTx x.op.toNat ++ [32]) ++ txM d z (decide (levM z ≤ levM x))
        | _ => [])) := rfl
      have e2 : ptk (d + 1) x false = (
      if x.k = 1 then [(3, [], x.n)]
      else if x.k = 2 then [(1, x.s, 0)]
      else if x.k = 3 then [(2, [105, 110], 0), (4, [40], 0), (1, x.s, 0), (4, [41], 0)]
      else if x.k = 4 then (match x.subs with
        | [y] => (4, opTx x.op.toNat, 0) :: ptk d y (decide (levM y < 6))
        | _ => [])
      else (match x.subs with
        | [y, z] => ptk d y (decide (levM y < levM x)) ++ (4, opTx x.op.toNat, 0) :: ptk d z (decide (levM z ≤ levM x))
        | _ => [])) ++ [] := rfl
      rw [List.append_nil] at e2
      obtain ⟨c0, t0, hc0, hst0⟩ := tx_head (d + 1) false hsh ⟨hn, hs⟩
      have hsk : skN false (txM (d + 1) x false ++ r) = 0 := by
        rw [hc0, List.cons_append]
        exact sk0 (start_ok hst0).1 (start_ok hst0).2.1
      have hne : txM (d + 1) x false ≠ [] := by rw [hc0]; simp
      by_cases k1 : x.k = 1
      · rw [if_pos k1] at e e2
        have h0 : 0 ≤ x.n := by
          rw [headM, if_pos k1] at hh
          have := (eqM_t hh).1
          split at this <;> omega
        rw [e2]
        exact ⟨[⟨3, [], x.n, (i : Nat)⟩], tok_n hl hne hsk (by rw [e]; exact num_tok h0 hn.2 hr) ht, rfl⟩
      by_cases k2 : x.k = 2
      · rw [if_neg k1, if_pos k2] at e e2
        rw [e2]
        exact ⟨[⟨1, x.s, 0, (i : Nat)⟩], tok_n hl hne hsk (by rw [e]; exact word_tok (head23 hh (.inl k2)) hr) ht, rfl⟩
      by_cases k3' : x.k = 3
      · rw [if_neg k1, if_neg k2, if_pos k3'] at e e2
        have hnm := head23 hh (.inr k3')
        obtain ⟨cs, tss, hcs, hsts⟩ : ∃ c t, x.s = c :: t ∧ startB c = true := by
          have hnm' := hnm
          unfold nameM at hnm'
          simp only [Bool.and_eq_true] at hnm'
          obtain ⟨⟨⟨_, h2⟩, _⟩, _⟩ := hnm'
          cases hs : x.s with
          | nil => rw [hs] at h2; cases h2
          | cons c t =>
            rw [hs] at h2
            have h2 : letterB c = true := h2
            exact ⟨c, t, rfl, by unfold startB; rw [h2]; simp⟩
        have a0 : l.drop i = [105, 110] ++ ([40] ++ (x.s ++ ([41] ++ r))) := by rw [hl, e]; simp
        have a1 := drop_app a0
        have a2 := drop_app a1
        have a3 := drop_app a2
        have len : (txM (d + 1) x false).length = 2 + 1 + x.s.length + 1 := by rw [e]; simp; omega
        have ht : toks l (i + ([105, 110] : List UInt8).length + ([40] : List UInt8).length + x.s.length + ([41] : List UInt8).length) = .ok ts := by
          rw [← ht, len]
          congr 1
          simp only [List.length_cons, List.length_nil]
          omega
        have b3 := tok_n (n := 0) a3 (by simp) (sk0 (by decide) (by decide)) (sign_tok (by decide) (by decide) (by decide) (sign2_soft (by decide) hr.soft)) ht
        have b2 := tok_n (n := 0) (k := 1) (t := x.s) a2 (by rw [hcs]; simp) (by rw [hcs, List.cons_append]; exact sk0 (start_ok hsts).1 (start_ok hsts).2.1) (word_tok hnm fun c hc => by simp only [List.singleton_append, List.head?_cons, Option.some.injEq] at hc; exact .inr hc.symm) b3
        have b1 := tok_n (n := 0) a1 (by simp) (sk0 (by decide) (by decide)) (sign_tok (by decide) (by decide) (by decide) (sign2_soft (by decide) (soft_start (start_app (a := x.s) (b := [41] ++ r) ⟨cs, tss, hcs, hsts⟩)))) b2
        have b0 := tok_n (n := 0) (k := 2) (t := [105, 110]) a0 (by simp) (sk0 (by decide) (by decide)) rfl b1
        rw [e2]
        exact ⟨[_, _, _, _], b0, rfl⟩
      by_cases k4 : x.k = 4
      · obtain ⟨y, hy, ho⟩ := head4 hh k4
        rw [if_neg k1, if_neg k2, if_neg k3', if_pos k4, hy] at e e2
        dsimp only at e e2
        rw [hy] at ha hs
        simp only [all1, Bool.and_true] at ha
        have hny := hs y (by simp)
        have hst := tx_head d (decide (levM y < 6)) ha hny
        have a0 : l.drop i = opTx x.op.toNat ++ (txM d y (decide (levM y < 6)) ++ r) := by rw [hl, e, List.append_assoc]
        have a1 := drop_app a0
        have ht : toks l (i + (opTx x.op.toNat).length + (txM d y (decide (levM y < 6))).length) = .ok ts := by
          rw [← ht, e, List.length_append, Nat.add_assoc]
        obtain ⟨us, u1, u2⟩ := tx_toks d (decide (levM y < 6)) _ ha hny (in_of hi a0) a1 hr ht
        have hop : tokR (opTx x.op.toNat ++ (txM d y (decide (levM y < 6)) ++ r)) = .ok (4, opTx x.op.toNat, 0, (opTx x.op.toNat).length) ∧ opTx x.op.toNat ≠ [] ∧ skN false (opTx x.op.toNat ++ (txM d y (decide (levM y < 6)) ++ r)) = 0 := by
          rcases ho with ho | ho
          · rw [ho]
            exact ⟨sign_tok (c := 45) (by decide) (by decide) (by decide) (sign2_soft (by decide) (soft_start (start_app (a := txM d y (decide (levM y < 6))) (b := r) hst))), by decide, sk0 (by decide) (by decide)⟩
          · rw [ho]
            exact ⟨sign_tok (c := 33) (by decide) (by decide) (by decide) (sign2_soft (by decide) (soft_start (start_app (a := txM d y (decide (levM y < 6))) (b := r) hst))), by decide, sk0 (by decide) (by decide)⟩
        rw [e2]
        exact ⟨⟨4, opTx x.op.toNat, 0, (i : Nat)⟩ :: us, tok_n a0 hop.2.1 hop.2.2 hop.1 u1, by rw [List.map_cons, u2]; rfl⟩
      · obtain ⟨_, y, z, hy, ho1, ho2⟩ := head5 hh k1 k2 k3' k4
        rw [if_neg k1, if_neg k2, if_neg k3', if_neg k4, hy] at e e2
        dsimp only at e e2
        rw [hy] at ha hs
        simp only [all1, Bool.and_true, Bool.and_eq_true] at ha
        have hny := hs y (by simp)
        have hnz := hs z (by simp)
        obtain ⟨cz, tz, hz1, hz2⟩ := tx_head d (decide (levM z ≤ levM x)) ha.2 hnz
        have hzs : skN false (txM d z (decide (levM z ≤ levM x)) ++ r) = 0 := by
          rw [hz1, List.cons_append]
          exact sk0 (start_ok hz2).1 (start_ok hz2).2.1
        have hop := op_tok (op := x.op.toNat) (by omega) (by omega) (txM d z (decide (levM z ≤ levM x)) ++ r)
        have hopn : opTx x.op.toNat ≠ [] := by
          have : ∀ q, q < 14 → 1 ≤ q → opTx q ≠ [] := by decide
          exact this _ (by omega) (by omega)
        have a0 : l.drop i = txM d y (decide (levM y < levM x)) ++ ([32] ++ (opTx x.op.toNat ++ ([32] ++ (txM d z (decide (levM z ≤ levM x)) ++ r)))) := by rw [hl, e]; simp only [List.append_assoc]
        have a1 := drop_app a0
        have a2 := drop_app a1
        have a3 := drop_app a2
        have a4 := drop_app a3
        have i1 := in_of hi a0
        have i2 := in_of i1 a1
        have i3 := in_of i2 a2
        have i4 := in_of i3 a3
        have ht : toks l (i + (txM d y (decide (levM y < levM x))).length + ([32] : List UInt8).length + (opTx x.op.toNat).length + ([32] : List UInt8).length + (txM d z (decide (levM z ≤ levM x))).length) = .ok ts := by
          rw [← ht, e]
          congr 1
          simp only [List.length_append, List.length_cons, List.length_nil]
          omega
        obtain ⟨vs, v1, v2⟩ := tx_toks d (decide (levM z ≤ levM x)) _ ha.2 hnz i4 a4 hr ht
        have b3 : toks l (i + (txM d y (decide (levM y < levM x))).length + ([32] : List UInt8).length + (opTx x.op.toNat).length) = .ok (vs ++ ts) := by
          exact (skip1 a3 hzs).trans v1
        have b2 := tok_n a2 hopn hop.2 hop.1 b3
        have b1 := (skip1 a1 hop.2).trans b2
        obtain ⟨us, u1, u2⟩ := tx_toks d (decide (levM y < levM x)) i ha.1 hny hi a0 (fun c hc => by simp only [List.singleton_append, List.head?_cons, Option.some.injEq] at hc; exact .inl hc.symm) b1
        rw [e2]
        exact ⟨us ++ ⟨4, opTx x.op.toNat, 0, _⟩ :: vs, by rw [u1, List.append_assoc]; rfl, by rw [List.map_append, List.map_cons, u2, v2]; rfl⟩
    cases wr with
    | false => exact core i hi hl hr ht
    | true =>
      have e : txM (d + 1) x true = [40] ++ (txM (d + 1) x false ++ [41]) := by
        unfold txM
        simp [clo, opn]
      have e2 : ptk (d + 1) x true = (4, [40], 0) :: (ptk (d + 1) x false ++ [(4, [41], 0)]) := by
        unfold ptk
        simp [opk, clk]
      have hst := tx_head (d + 1) false hsh ⟨hn, hs⟩
      have a0 : l.drop i = [40] ++ (txM (d + 1) x false ++ ([41] ++ r)) := by rw [hl, e]; simp only [List.append_assoc]
      have a1 := drop_app a0
      have a2 := drop_app a1
      have ht : toks l (i + ([40] : List UInt8).length + (txM (d + 1) x false).length + ([41] : List UInt8).length) = .ok ts := by
        rw [← ht, e]
        congr 1
        simp only [List.length_append, List.length_cons, List.length_nil]
        omega
      have b2 := tok_n (n := 0) a2 (by simp) (sk0 (by decide) (by decide)) (sign_tok (by decide) (by decide) (by decide) (sign2_soft (by decide) hr.soft)) ht
      obtain ⟨us, u1, u2⟩ := core _ (in_of hi a0) a1 (fun c hc => by simp only [List.singleton_append, List.head?_cons, Option.some.injEq] at hc; exact .inr hc.symm) b2
      have b0 := tok_n (n := 0) a0 (by simp) (sk0 (by decide) (by decide)) (sign_tok (by decide) (by decide) (by decide) (sign2_soft (by decide) (soft_start (start_app (a := txM (d + 1) x false) (b := [41] ++ r) hst)))) u1
      rw [e2]
      refine ⟨⟨4, [40], 0, (i : Nat)⟩ :: (us ++ [⟨4, [41], 0, ((i + ([40] : List UInt8).length + (txM (d + 1) x false).length : Nat) : Int)⟩]), by rw [b0]; simp only [List.cons_append, List.append_assoc, List.nil_append, List.singleton_append], ?_⟩
      rw [List.map_cons, List.map_append, u2]
      rfl
end Go.Proofs.YtadlbafgkibipaaGreatDoor.Con

namespace Go.Proofs.YtadlbafgkibipaaGreatDoor.Con
open Go Go.RowKit Go.Kt Go.Kt.V
set_option linter.unusedSimpArgs false
set_option linter.unusedVariables false
set_option maxHeartbeats 4000000

def At (ts : List Tk) (i : Nat) (L : List K3) : Prop := ∀ j q, L[j]? = some q → k3 (tk ts (i + j)) = q
section
variable {ts : List Tk} {i : Nat} {A B : List K3}
theorem At.left (h : At ts i (A ++ B)) : At ts i A := fun j q hj => h j q (by rw [List.getElem?_append_left (List.getElem?_eq_some_iff.1 hj).1]; exact hj)
theorem At.right (h : At ts i (A ++ B)) : At ts (i + A.length) B := fun j q hj => by
  have := h (A.length + j) q (by rw [List.getElem?_append_right (by omega), Nat.add_sub_cancel_left]; exact hj)
  rwa [← Nat.add_assoc] at this
theorem At.head {q : K3} (h : At ts i (q :: A)) : (tk ts i).k = q.1 ∧ (tk ts i).t = q.2.1 ∧ (tk ts i).n = q.2.2 := by
  have := h 0 q rfl
  rw [Nat.add_zero] at this
  rw [← this]
  exact ⟨rfl, rfl, rfl⟩
theorem At.tail {q : K3} (h : At ts i (q :: A)) : At ts (i + 1) A := fun j p hj => by
  have := h (j + 1) p hj
  rwa [Nat.add_assoc, Nat.add_comm 1 j]
theorem opTx_inj {p q : Nat} (hp : 1 ≤ p) (hp2 : p ≤ 13) (hq : 1 ≤ q) (hq2 : q ≤ 13) (h : opTx p = opTx q) : p = q := by
  have : ∀ p, p < 14 → ∀ q, q < 14 → 1 ≤ p → 1 ≤ q → opTx p = opTx q → p = q := by decide
  exact this p (by omega) q (by omega) hp hq h
theorem op_at {op : Nat} (h1 : 1 ≤ op) (h2 : op ≤ 13) (hk : (tk ts i).k = 4) (ht : (tk ts i).t = opTx op) (k : Int) : opAt ts k i = if rowOf (op : Int) = k then (op : Int) else 0 := by
  have : ∀ (f q : Nat), 1 ≤ q → q + f ≤ 14 → opFrom ts k i f q = if q ≤ op ∧ op < q + f ∧ rowOf (op : Int) = k then (op : Int) else 0 := by
    intro f
    induction f with
    | zero => intro q _ _; rw [if_neg (by omega)]; rfl
    | succ f ih =>
      intro q hq hf
      rw [opFrom, ih (q + 1) (by omega) (by omega)]
      by_cases he : q = op
      · subst he
        have hs : sg ts i (opTx q) = true := sg_t ⟨hk, ht⟩
        by_cases hr : rowOf (q : Int) = k
        · rw [if_pos ⟨hr, hs⟩, if_pos ⟨Nat.le_refl _, by omega, hr⟩]
        · rw [if_neg (fun h => hr h.1), if_neg (by omega), if_neg (fun h => hr h.2.2)]
      · have hs : ¬ sg ts i (opTx q) = true := fun hs => he (by
          simp only [sg, Bool.and_eq_true, decide_eq_true_eq] at hs
          exact opTx_inj hq (by omega) h1 h2 (by rw [← ht, hs.2]))
        rw [if_neg (fun h => hs h.2)]
        by_cases hc : q + 1 ≤ op ∧ op < q + 1 + f ∧ rowOf (op : Int) = k
        · rw [if_pos hc, if_pos ⟨by omega, by omega, hc.2.2⟩]
        · rw [if_neg hc, if_neg (fun h => hc ⟨by omega, by omega, h.2.2⟩)]
  rw [opAt, this 13 1 (by omega) (by omega)]
  by_cases hr : rowOf (op : Int) = k
  · rw [if_pos hr, if_pos ⟨h1, by omega, hr⟩]
  · rw [if_neg hr, if_neg (fun h => hr h.2.2)]
theorem row_rng {op : Int} (h1 : 1 ≤ op) (h2 : op ≤ 13) : 0 ≤ rowOf op ∧ rowOf op ≤ 5 := by
  unfold rowOf
  split
  · omega
  split
  · omega
  split
  · omega
  split
  · omega
  split
  · omega
  split
  · omega
  · omega
theorem down_ok {f d k0 : Nat} {x : Ex} {j : Nat} (h : exprR ts f k0 d i = .ok (x, j)) (h6 : k0 ≤ 6) : ∀ (m k : Nat), k + m = k0 → (∀ q : Int, (k : Int) ≤ q → q < (k0 : Int) → opAt ts q j = 0) → exprR ts (f + m) k d i = .ok (x, j)
  | 0, k, hk, _ => by
    have : k = k0 := by omega
    subst this
    exact h
  | m + 1, k, hk, h0 => by
    rw [← Nat.add_assoc, exprR, if_neg (by omega), down_ok h h6 m (k + 1) (by omega) fun q h1 h2 => h0 q (by omega) h2]
    simp only [andR]
    exact loop0 (h0 _ (Int.le_refl _) (by omega)) _
theorem down_err {f d k0 : Nat} {e : Int × Int} (h : exprR ts f k0 d i = .error e) (h6 : k0 ≤ 6) : ∀ (m k : Nat), k + m = k0 → exprR ts (f + m) k d i = .error e
  | 0, k, hk => by
    have : k = k0 := by omega
    subst this
    exact h
  | m + 1, k, hk => by
    rw [← Nat.add_assoc, exprR, if_neg (by omega), down_err h h6 m (k + 1) (by omega)]
    rfl
end
/-- it is read, or it is too deep -/
def Ok5 (x : Ex) (j : Nat) (r : Pr) : Prop := (∃ x', r = .ok (x', j) ∧ Sim x x') ∨ ∃ a, r = .error (21, a)
theorem Ok5.down {ts : List Tk} {i f d k0 k : Nat} {x : Ex} {j : Nat} (h : Ok5 x j (exprR ts (f - (k0 - k)) k0 d i)) (hf : k0 - k ≤ f) (h6 : k0 ≤ 6) (hk : k ≤ k0) (h0 : ∀ q : Int, (k : Int) ≤ q → q < (k0 : Int) → opAt ts q j = 0) : Ok5 x j (exprR ts f k d i) := by
  have e : f = (f - (k0 - k)) + (k0 - k) := by omega
  rcases h with ⟨x', h1, h2⟩ | ⟨a, h1⟩
  · exact .inl ⟨x', by rw [e]; exact down_ok h1 h6 _ k (by omega) h0, h2⟩
  · exact .inr ⟨a, by rw [e]; exact down_err h1 h6 _ k (by omega)⟩
abbrev PP (ts : List Tk) (d : Nat) : Prop := ∀ {x : Ex} (wr : Bool) (k dd i f : Nat), shapeM d x = true → At ts i (ptk d x wr) → k ≤ 6 → (wr = false → (k : Int) ≤ levM x) → dd ≤ 20 → need k dd ≤ f → i + (ptk d x wr).length < ts.length → (∀ q : Int, (k : Int) ≤ q → q ≤ 5 → opAt ts q (i + (ptk d x wr).length) = 0) → Ok5 x (i + (ptk d x wr).length) (exprR ts f k dd i)
abbrev QQ (ts : List Tk) (d : Nat) : Prop := ∀ {x : Ex} (k dd i f : Nat), shapeM d x = true → x.k = 5 → (k : Int) = levM x → At ts i (ptk d x false) → dd ≤ 20 → need k dd ≤ f + 1 → i + (ptk d x false).length < ts.length → (∀ q : Int, (k : Int) < q → q ≤ 5 → opAt ts q (i + (ptk d x false).length) = 0) →
  (∃ x' g, ts.length - (i + (ptk d x false).length) ≤ g ∧ exprR ts (f + 1) k dd i = loopR ts (exprR ts f (k + 1) dd) k g x' (i + (ptk d x false).length) ∧ Sim x x') ∨ ∃ a, exprR ts (f + 1) k dd i = .error (21, a)
theorem ex_eta (x : Ex) : x = .mk x.k x.n x.s x.op x.subs x.a := by cases x; rfl
section
variable {ts : List Tk} {d : Nat}
theorem qq_step (hP : PP ts d) (hQ : QQ ts d) : QQ ts (d + 1) := by
  intro x k dd i f hsh hk5 hkl hat hdd hf hlt h0
  rw [shapeM, Bool.and_eq_true] at hsh
  obtain ⟨hh, ha⟩ := hsh
  obtain ⟨_, y, z, hy, ho1, ho2⟩ := head5 hh (by omega) (by omega) (by omega) (by omega)
  have hnx : x.n = 0 ∧ x.s = [] := by
    rw [headM, if_neg (by omega), if_neg (by omega), if_neg (by omega), if_pos hk5, Bool.and_eq_true] at hh
    have := eqM_t hh.2
    exact ⟨this.1, this.2.1⟩
  have hlx : levM x = rowOf x.op := by rw [levM, if_pos hk5]
  obtain ⟨r0, r5⟩ := row_rng ho1 ho2
  have e2 : ptk (d + 1) x false = (ptk d y (decide (levM y < levM x)) ++ (4, opTx x.op.toNat, 0) :: ptk d z (decide (levM z ≤ levM x))) := by
    rw [ptk, if_neg (by omega), if_neg (by omega), if_neg (by omega), if_neg (by omega), hy]
    simp [opk, clk]
  rw [e2] at hat hlt h0 ⊢
  rw [hy] at ha
  simp only [all1, Bool.and_true, Bool.and_eq_true] at ha
  have hatY := hat.left
  have hatO := hat.right
  have hatZ := hatO.tail
  obtain ⟨t1, t2, _⟩ := hatO.head
  rw [List.length_append, List.length_cons] at hlt h0 ⊢
  generalize hj1 : i + (ptk d y (decide (levM y < levM x))).length = j1 at *
  have hjz : i + ((ptk d y (decide (levM y < levM x))).length + ((ptk d z (decide (levM z ≤ levM x))).length + 1)) = j1 + 1 + (ptk d z (decide (levM z ≤ levM x))).length := by omega
  rw [hjz] at hlt h0 ⊢
  generalize hj2 : j1 + 1 + (ptk d z (decide (levM z ≤ levM x))).length = j2 at *
  have hop : ∀ q : Int, opAt ts q j1 = if rowOf x.op = q then x.op else 0 := fun q => by
    have := op_at (ts := ts) (i := j1) (op := x.op.toNat) (by omega) (by omega) t1 t2 q
    rwa [Int.toNat_of_nonneg (by omega)] at this
  have hex : x = .mk 5 0 [] x.op [y, z] x.a := by
    have := ex_eta x
    rw [hk5, hnx.1, hnx.2, hy] at this
    exact this
  have hneed : need (k + 1) dd ≤ f := by unfold need at hf ⊢; omega
  -- the left part
  have hleft : (∃ y' g, ts.length - j1 ≤ g ∧ exprR ts (f + 1) k dd i = loopR ts (exprR ts f (k + 1) dd) k g y' j1 ∧ Sim y y') ∨ ∃ a, exprR ts (f + 1) k dd i = .error (21, a) := by
    by_cases hB : levM y = levM x
    · have hwr : decide (levM y < levM x) = false := decide_eq_false (by omega)
      have hy5 : y.k = 5 := by
        refine Decidable.byContradiction fun hn => ?_
        have : levM y = 6 := by rw [levM, if_neg hn]
        omega
      rw [hwr] at hatY hj1
      have := hQ (x := y) k dd i f ha.1 hy5 (by rw [hB]; exact hkl) hatY hdd hf (by omega) (fun q h1 h2 => by rw [hj1, hop, if_neg (by omega)])
      rw [hj1] at this
      exact this
    · have := hP (x := y) (decide (levM y < levM x)) (k + 1) dd i f ha.1 hatY (by omega) (fun hw => by have := of_decide_eq_false hw; omega) hdd hneed (by omega) (fun q h1 h2 => by rw [hj1, hop, if_neg (by omega)])
      rw [hj1] at this
      rw [exprR, if_neg (by omega)]
      rcases this with ⟨y', h1, h2⟩ | ⟨a, h1⟩
      · exact .inl ⟨y', ts.length - j1, Nat.le_refl _, by rw [h1]; rfl, h2⟩
      · exact .inr ⟨a, by rw [h1]; rfl⟩
  refine hleft.elim (fun ⟨y', g, hg, h1, h2⟩ => ?_) .inr
  obtain ⟨g, rfl⟩ : ∃ m, g = m + 1 := ⟨g - 1, by omega⟩
  have hok : opAt ts (k : Int) j1 = x.op := by rw [hop, if_pos (by omega)]
  have hz := hP (x := z) (decide (levM z ≤ levM x)) (k + 1) dd (j1 + 1) f ha.2 hatZ (by omega) (fun hw => by have := of_decide_eq_false hw; omega) hdd hneed (by omega) (fun q h1 h2 => by rw [hj2]; exact h0 q (by omega) h2)
  rw [hj2] at hz
  rw [h1, loopR, hok, if_neg (by omega)]
  rcases hz with ⟨z', h3, h4⟩ | ⟨a, h3⟩
  · refine .inl ⟨.mk 5 0 [] x.op [y', z'] y'.a, g, by omega, by rw [h3]; rfl, ?_⟩
    rw [hex]
    exact .two _ _ _ _ _ _ _ _ _ _ h2 h4
  · exact .inr ⟨a, by rw [h3]; rfl⟩
theorem pp_step (hP : PP ts d) (hQ : QQ ts d) : PP ts (d + 1) := by
  -- without parentheses
  have plain : ∀ {x : Ex} (k dd i f : Nat), shapeM (d + 1) x = true → At ts i (ptk (d + 1) x false) → k ≤ 6 → (k : Int) ≤ levM x → dd ≤ 20 → need k dd ≤ f → i + (ptk (d + 1) x false).length < ts.length → (∀ q : Int, (k : Int) ≤ q → q ≤ 5 → opAt ts q (i + (ptk (d + 1) x false).length) = 0) → Ok5 x (i + (ptk (d + 1) x false).length) (exprR ts f k dd i) := by
    intro x k dd i f hsh hat hk6 hkl hdd hf hlt h0
    have hsh0 := hsh
    rw [shapeM, Bool.and_eq_true] at hsh
    obtain ⟨hh, ha⟩ := hsh
    by_cases hk5 : x.k = 5
    · obtain ⟨_, y, z, hy, ho1, ho2⟩ := head5 hh (by omega) (by omega) (by omega) (by omega)
      have hlx : levM x = rowOf x.op := by rw [levM, if_pos hk5]
      obtain ⟨r0, r5⟩ := row_rng ho1 ho2
      obtain ⟨k0, hk0⟩ : ∃ k0 : Nat, (k0 : Int) = levM x := ⟨(levM x).toNat, by omega⟩
      refine Ok5.down (k0 := k0) ?_ (by unfold need at hf; omega) (by omega) (by omega) fun q h1 h2 => h0 q h1 (by omega)
      obtain ⟨f', hf'⟩ : ∃ m, f - (k0 - k) = m + 1 := ⟨f - (k0 - k) - 1, by unfold need at hf; omega⟩
      rw [hf']
      rcases qq_step hP hQ k0 dd i f' hsh0 hk5 hk0 hat hdd (by unfold need at hf ⊢; omega) hlt (fun q h1 h2 => h0 q (by omega) h2) with ⟨x', g, hg, h1, h2⟩ | h
      · exact .inl ⟨x', by rw [h1]; exact loop0 (h0 _ (by omega) (by omega)) _, h2⟩
      · exact .inr h
    · have hlx : levM x = 6 := by rw [levM, if_neg hk5]
      refine Ok5.down (k0 := 6) ?_ (by unfold need at hf; omega) (by omega) (by omega) fun q h1 h2 => h0 q h1 (by omega)
      obtain ⟨f', hf'⟩ : ∃ m, f - (6 - k) = m + 1 := ⟨f - (6 - k) - 1, by unfold need at hf; omega⟩
      have hneed : (20 - dd) * 8 ≤ f' := by unfold need at hf; omega
      rw [hf', exprR, if_pos rfl]
      unfold oneR
      by_cases k1 : x.k = 1
      · have e2 : ptk (d + 1) x false = [(3, [], x.n)] := by rw [ptk, if_pos k1]; rfl
        rw [e2] at hat ⊢
        obtain ⟨t1, t2, t3⟩ := hat.head
        dsimp only at t1 t2 t3
        rw [sg_f t2 (by decide), sg_f t2 (by decide), sg_f t2 (by decide), if_neg (by decide), if_neg (by decide), if_pos t1, t3]
        refine .inl ⟨_, rfl, ?_⟩
        rw [headM, if_pos k1] at hh
        obtain ⟨_, b2, b3, b4⟩ := eqM_t hh
        have hs : x.subs = [] := List.eq_nil_of_length_eq_zero (by omega)
        have := ex_eta x
        rw [k1, b2, b3, hs] at this
        rw [this]
        exact .leaf ..
      by_cases k2 : x.k = 2
      · have e2 : ptk (d + 1) x false = [(1, x.s, 0)] := by rw [ptk, if_neg k1, if_pos k2]; rfl
        rw [e2] at hat ⊢
        obtain ⟨t1, t2, t3⟩ := hat.head
        dsimp only at t1 t2 t3
        have hs4 : ∀ s, sg ts i s = false := fun s => by unfold sg; rw [t1]; rfl
        rw [hs4, hs4, hs4, if_neg (by decide), if_neg (by decide), if_neg (by rw [t1]; decide), if_pos t1, t2]
        refine .inl ⟨_, rfl, ?_⟩
        rw [headM, if_neg k1, if_pos (.inl k2), Bool.and_eq_true] at hh
        obtain ⟨b1, b2, b3, b4⟩ := eqM_t hh.2
        have hs : x.subs = [] := List.eq_nil_of_length_eq_zero (by omega)
        have := ex_eta x
        rw [k2, b1, b3, hs] at this
        rw [this]
        exact .leaf ..
      by_cases k3' : x.k = 3
      · have e2 : ptk (d + 1) x false = [(2, [105, 110], 0), (4, [40], 0), (1, x.s, 0), (4, [41], 0)] := by rw [ptk, if_neg k1, if_neg k2, if_pos k3']; rfl
        rw [e2] at hat ⊢
        obtain ⟨t1, t2, t3⟩ := hat.head
        obtain ⟨u1, u2, u3⟩ := hat.tail.head
        obtain ⟨v1, v2, v3⟩ := hat.tail.tail.head
        obtain ⟨p1, p2, p3⟩ := hat.tail.tail.tail.head
        dsimp only at t1 t2 t3 u1 u2 u3 v1 v2 v3 p1 p2 p3
        have hs4 : ∀ s, sg ts i s = false := fun s => by unfold sg; rw [t1]; rfl
        rw [hs4, hs4, hs4, if_neg (by decide), if_neg (by decide), if_neg (by rw [t1]; decide), if_neg (by rw [t1]; decide), if_pos ⟨t1, t2⟩]
        unfold inR
        rw [if_pos (sg_t ⟨u1, u2⟩), if_pos v1, if_pos (sg_t ⟨p1, p2⟩)]
        refine .inl ⟨_, rfl, ?_⟩
        rw [headM, if_neg k1, if_pos (.inr k3'), Bool.and_eq_true] at hh
        obtain ⟨b1, b2, b3, b4⟩ := eqM_t hh.2
        have hs : x.subs = [] := List.eq_nil_of_length_eq_zero (by omega)
        have := ex_eta x
        rw [k3', b1, b3, hs] at this
        have v2 : (tk ts (i + 2)).t = x.s := v2
        rw [v2, this]
        exact .leaf ..
      have k4 : x.k = 4 := Decidable.byContradiction fun k4 => hk5 (head5 hh k1 k2 k3' k4).1
      obtain ⟨y, hy, ho⟩ := head4 hh k4
      have e2 : ptk (d + 1) x false = (4, opTx x.op.toNat, 0) :: ptk d y (decide (levM y < 6)) := by
        rw [ptk, if_neg k1, if_neg k2, if_neg k3', if_pos k4, hy]
        simp [opk, clk]
      rw [e2] at hat hlt ⊢
      rw [hy] at ha
      simp only [all1, Bool.and_true] at ha
      obtain ⟨t1, t2, t3⟩ := hat.head
      dsimp only at t1 t2 t3
      have hor : (sg ts i [45] || sg ts i [33]) = true := by
        rcases ho with ho | ho
        · have : sg ts i [45] = true := sg_t ⟨t1, by rw [t2, ho]; rfl⟩
          rw [this, Bool.true_or]
        · have : sg ts i [33] = true := sg_t ⟨t1, by rw [t2, ho]; rfl⟩
          rw [this, Bool.or_true]
      rw [if_pos hor]
      by_cases h20 : dd = 20
      · exact .inr ⟨(tk ts i).a, by rw [nestR, if_pos h20]; rfl⟩
      rw [nestR, if_neg h20]
      rw [List.length_cons] at hlt ⊢
      have hj : i + ((ptk d y (decide (levM y < 6))).length + 1) = i + 1 + (ptk d y (decide (levM y < 6))).length := by omega
      rw [hj] at hlt ⊢
      have hy6 : levM y ≤ 6 := by
        unfold levM rowOf
        split
        · split
          · omega
          split
          · omega
          split
          · omega
          split
          · omega
          split
          · omega
          split
          · omega
          · omega
        · omega
      rcases hP (x := y) (decide (levM y < 6)) 6 (dd + 1) (i + 1) f' ha hat.tail (Nat.le_refl _) (fun hw => by have := of_decide_eq_false hw; omega) (by omega) (by unfold need; omega) hlt (fun q h1 h2 => by omega) with ⟨y', h1, h2⟩ | ⟨a, h1⟩
      · refine .inl ⟨_, by rw [h1]; rfl, ?_⟩
        rw [headM, if_neg k1, if_neg (by omega), if_pos k4] at hh
        obtain ⟨b1, b2, b3, b4⟩ := eqM_t hh
        have hop : (if (tk ts i).t = [33] then (15 : Int) else 14) = x.op := by
          rcases ho with ho | ho
          · rw [t2, ho]; rfl
          · rw [t2, ho]; rfl
        have := ex_eta x
        rw [k4, b1, b2, hy] at this
        rw [hop, this]
        exact .one _ _ _ _ _ _ _ _ h2
      · exact .inr ⟨a, by rw [h1]; rfl⟩
  intro x wr k dd i f hsh hat hk6 hkl hdd hf hlt h0
  cases wr with
  | false => exact plain k dd i f hsh hat hk6 (hkl rfl) hdd hf hlt h0
  | true =>
    have e2 : ptk (d + 1) x true = (4, [40], 0) :: (ptk (d + 1) x false ++ [(4, [41], 0)]) := by
      unfold ptk
      simp [opk, clk]
    refine Ok5.down (k0 := 6) ?_ (by unfold need at hf; omega) (by omega) (by omega) fun q h1 h2 => h0 q h1 (by omega)
    rw [e2] at hat hlt ⊢
    obtain ⟨f', hf'⟩ : ∃ m, f - (6 - k) = m + 1 := ⟨f - (6 - k) - 1, by unfold need at hf; omega⟩
    have hneed : (20 - dd) * 8 ≤ f' := by unfold need at hf; omega
    obtain ⟨t1, t2, t3⟩ := hat.head
    have hin := hat.tail.left
    obtain ⟨p1, p2, p3⟩ := hat.tail.right.head
    dsimp only at t1 t2 t3 p1 p2 p3
    rw [hf', exprR, if_pos rfl]
    unfold oneR
    rw [sg_f t2 (by decide), sg_f t2 (by decide), sg_t ⟨t1, t2⟩, if_neg (by decide), if_pos rfl]
    by_cases h20 : dd = 20
    · exact .inr ⟨(tk ts i).a, by rw [nestR, if_pos h20]⟩
    rw [nestR, if_neg h20]
    rw [List.length_cons, List.length_append, List.length_singleton] at hlt ⊢
    have hj : i + ((ptk (d + 1) x false).length + 1 + 1) = i + 1 + (ptk (d + 1) x false).length + 1 := by omega
    rw [hj] at hlt ⊢
    have hlev : 0 ≤ levM x := by
      unfold levM rowOf
      split
      · split
        · omega
        split
        · omega
        split
        · omega
        split
        · omega
        split
        · omega
        split
        · omega
        · omega
      · omega
    rcases plain 0 (dd + 1) (i + 1) f' hsh hin (by omega) (by omega) (by omega) (by unfold need; omega) (by omega) (fun q h1 h2 => op_of p2 (by decide) q) with ⟨x', h1, h2⟩ | ⟨a, h1⟩
    · refine .inl ⟨x', ?_, h2⟩
      rw [h1]
      simp only [parR]
      rw [if_pos (sg_t ⟨p1, p2⟩)]
    · exact .inr ⟨a, by rw [h1]; rfl⟩
theorem pp_qq (ts : List Tk) : ∀ d, PP ts d ∧ QQ ts d
  | 0 => ⟨(by intro x wr k dd i f h; cases h), (by intro x k dd i f h; cases h)⟩
  | d + 1 => ⟨pp_step (pp_qq ts d).1 (pp_qq ts d).2, qq_step (pp_qq ts d).1 (pp_qq ts d).2⟩
end
theorem back_law {d : Nat} {x : Ex} (hs : shapeM d x = true) (hn : numOk d x) (hr : (readA (pgM d x false [])).2.1 = 0) : (pgM d x false []).length ≤ 16384 ∧ Sim x (readA (pgM d x false [])).1 := by
  have hlen : (pgM d x false []).length ≤ 16384 := by
    refine Decidable.byContradiction fun hc => ?_
    unfold readA at hr
    have : tokensM (pgM d x false []) = ([], 2, -1) := by rw [tokensM, if_pos (by omega)]
    rw [this, if_pos (by decide)] at hr
    exact absurd hr (show ¬ (2 : Int) = 0 by decide)
  refine ⟨hlen, ?_⟩
  have htx := pg_tx d false [] hs hlen
  rw [List.nil_append] at htx
  rw [htx] at hr hlen ⊢
  generalize hL : txM d x false = L at *
  have hend : toks L (0 + L.length) = .ok [⟨5, [], 0, ((L.length : Nat) : Int)⟩] := by
    have hd : L.drop L.length = [] := List.drop_of_length_le (Nat.le_refl _)
    have h5 : skN false [] = 0 := rfl
    rw [Nat.zero_add, toks_step (Nat.le_refl _), hd, h5, if_pos (by omega)]
    rfl
  obtain ⟨us, h1, h2⟩ := tx_toks (l := L) d (x := x) false 0 (r := []) hs hn (Nat.zero_le _) (by rw [List.drop_zero, List.append_nil, hL]) (fun c hc => by cases hc) (by rw [hL]; exact hend)
  generalize hts : us ++ [(⟨5, [], 0, ((L.length : Nat) : Int)⟩ : Tk)] = ts at *
  have t1 : tokensM L = (ts, 0, 0) := by
    rw [tokensM, if_neg (by omega), h1]
  have hul : us.length = (ptk d x false).length := by rw [← h2, List.length_map]
  have htl : ts.length = us.length + 1 := by rw [← hts, List.length_append, List.length_singleton]
  have hat : At ts 0 (ptk d x false) := fun j q hj => by
    rw [← h2, List.getElem?_map, Option.map_eq_some_iff] at hj
    obtain ⟨t, g1, rfl⟩ := hj
    have : tk ts (0 + j) = t := by
      unfold tk
      rw [← hts, Nat.zero_add, List.getElem?_append_left (List.getElem?_eq_some_iff.1 g1).1, g1]
      rfl
    rw [this]
  have hke : (tk ts us.length).k = 5 := by
    unfold tk
    rw [← hts, List.getElem?_append_right (Nat.le_refl _), Nat.sub_self]
    rfl
  have hlev : 0 ≤ levM x := by
    unfold levM rowOf
    split
    · split
      · omega
      split
      · omega
      split
      · omega
      split
      · omega
      split
      · omega
      split
      · omega
      · omega
    · omega
  have hP := (pp_qq ts d).1 (x := x) false 0 0 0 (need 0 0) hs hat (by decide) (fun _ => by omega) (by decide) (Nat.le_refl _) (by omega) (fun q _ _ => op_end (by rw [Nat.zero_add, ← hul]; exact hke) q)
  have hpr : parseR ts 0 = exprR ts (need 0 0) 0 0 0 := rfl
  rw [← hpr] at hP
  have hrd : readA L = if (parseA ts 0).2.2.1 ≠ 0 then (ex0, (parseA ts 0).2.2.1, (parseA ts 0).2.2.2) else if (tk ts (parseA ts 0).2.1.toNat).k ≠ 5 then (ex0, 4, (tk ts (parseA ts 0).2.1.toNat).a) else ((parseA ts 0).1, 0, (parseA ts 0).2.2.2) := by
    unfold readA
    rw [t1]
    rfl
  rw [hrd] at hr ⊢
  have hpa : parseA ts 0 = if 0 < ts.length ∧ endN ts + 1 = ts.length then (match parseR ts 0 with
    | .error (c, p) => (ex0, 0, c, p)
    | .ok (x, j) => (x, (j : Int), 0, 0)) else (ex0, 0, 1, -1) := by
    unfold parseA
    by_cases hc : 0 < ts.length ∧ endN ts + 1 = ts.length
    · rw [if_pos hc, if_pos ⟨Int.le_refl _, by omega, hc.2⟩]
      rfl
    · rw [if_neg hc, if_neg (fun hh => hc ⟨by omega, hh.2.2⟩)]
  rw [hpa] at hr ⊢
  have hc : 0 < ts.length ∧ endN ts + 1 = ts.length := Decidable.byContradiction fun hc => by
    rw [if_neg hc, if_pos (by decide)] at hr
    exact absurd hr (show ¬ (1 : Int) = 0 by decide)
  rw [if_pos hc] at hr ⊢
  rcases hP with ⟨x', g1, g2⟩ | ⟨a, g1⟩
  · rw [g1] at hr ⊢
    dsimp only at hr ⊢
    rw [if_neg (by decide), Int.toNat_natCast, Nat.zero_add, ← hul, hke, if_neg (by decide)]
    exact g2
  · rw [g1] at hr
    dsimp only at hr
    rw [if_pos (by decide)] at hr
    exact absurd hr (show ¬ (21 : Int) = 0 by decide)
end Go.Proofs.YtadlbafgkibipaaGreatDoor.Con

namespace Go.Proofs.YtadlbafgkibipaaGreatDoor.Con
open Go Go.RowKit Go.Kt Go.Kt.V Go.Proofs.YtadlbafgkibipaaGreatDoor.Vc Go.ChangeShapes Go.WideShapes
set_option linter.unusedSimpArgs false
set_option linter.unusedVariables false
set_option maxHeartbeats 4000000
set_option maxRecDepth 100000

/-- a tree of any depth, and how much of it there is at most -/
def rExU : Rp (Ex × Nat) := fun w F x cs => ∃ d, rEx d w F x.1 cs ∧ ∀ e, lenOk e x.1 ∧ numOk e x.1 ∧ cntM e x.1 ≤ x.2
theorem lift_l {D : Type} {B : D → Nat} {Q : Nat → Ex → Nat → Prop} : ∀ (xs : List D) (o : Nat), (∀ j y, xs[j]? = some y → ∃ e dj, Q (o + j) e dj ∧ ∀ d, cntM d e ≤ B y) →
    ∃ l : List (Ex × Nat), l.length = xs.length ∧ (∀ j p, l[j]? = some p → Q (o + j) p.1 p.2) ∧ ∀ d, cntL (cntM d) (l.map (·.1)) ≤ (xs.map B).sum
  | [], o, _ => ⟨[], rfl, fun j p h => by simp at h, fun d => Nat.le_refl _⟩
  | x :: xs, o, h => by
    obtain ⟨e, dj, h1, h2⟩ := h 0 x rfl
    obtain ⟨l, h3, h4, h5⟩ := lift_l xs (o + 1) fun j y hj => by
      have := h (j + 1) y hj
      rwa [Nat.add_assoc, Nat.add_comm 1 j]
    refine ⟨(e, dj) :: l, by rw [List.length_cons, List.length_cons, h3], fun j p hj => ?_, fun d => ?_⟩
    · cases j with
      | zero =>
        simp only [List.getElem?_cons_zero, Option.some.injEq] at hj
        subst hj
        exact h1
      | succ j =>
        have := h4 j p hj
        rwa [Nat.add_assoc, Nat.add_comm 1 j] at this
    · rw [List.map_cons, cntL, List.map_cons, List.sum_cons]
      exact Nat.add_le_add (h2 d) (h5 d)
theorem mem_sum {n : Nat} : ∀ {l : List Nat}, n ∈ l → n ≤ l.sum
  | [], h => by simp at h
  | x :: l, h => by
    rw [List.sum_cons]
    rcases List.mem_cons.1 h with rfl | h
    · omega
    · have := mem_sum h; omega
theorem le_top : ∀ (l : List (Ex × Nat)), ∃ m, ∀ p, p ∈ l → p.2 ≤ m
  | [] => ⟨0, fun p h => by simp at h⟩
  | x :: l => by
    obtain ⟨m, h⟩ := le_top l
    refine ⟨max x.2 m, fun p hp => ?_⟩
    rcases List.mem_cons.1 hp with rfl | hp
    · exact Nat.le_max_left _ _
    · exact Nat.le_trans (h p hp) (Nat.le_max_right _ _)
section
variable {H : Type} {enc : TypeId × Value → H} {W : World} {base : Nat} {spare : Nat → Bool} {held : Bool} {B : DataW H → Nat}
/-- cells that read as a datum -/
def rTr (enc : TypeId × Value → H) (W : World) (base : Nat) (spare : Nat → Bool) (held : Bool) : Rp (DataW H) := fun _ _ x cs => ∃ fuel p, DataW.trod enc Tryz.prog W base spare held fuel 24 cs = some (x, p) ∧ ∀ n, n ∈ x.weights Tryz.prog 24 → n ≤ reachBytes
theorem opensB_tr (hB : IsBulk B) : OpensB B enc Tryz.prog W base spare held 24 (rTr enc W base spare held) B := fun fuel cs x h hw => ⟨x.1, ⟨fuel, x.2, h, hw⟩, Nat.le_refl _⟩
theorem opensB_one (hB : IsBulk B) : OpensB B enc Tryz.prog W base spare held 24 (rPair rInt (rPair rInt (rPair rStr (rPair rInt (rPair (rSl (rTr enc W base spare held) 6 72) (rPair rInt rUnit))))))
    fun x => (1 + (1 + ((x.2.2.1.size + 1) + (1 + (((x.2.2.2.2.1.map B).sum + 1) + (1 + 0)))))) + 1 := by
  have h := opensB_struct (enc := enc) (P := Tryz.prog) (W := W) (base := base) (spare := spare) (held := held) (T := 6) hB Tryz.underlying24 (by kernel_rfl)
      (foB_cons (s := 1) rfl (by kernel_rfl) (opensB_of hB (opens_int Tryz.underlying3)) (foB_cons (s := 1) rfl (by kernel_rfl) (opensB_of hB (opens_int Tryz.underlying3)) (foB_cons (s := 1) rfl (by kernel_rfl) (opensB_str hB Tryz.underlying9) (foB_cons (s := 1) rfl (by kernel_rfl) (opensB_of hB (opens_int Tryz.underlying3)) (foB_cons (s := 1) rfl (by kernel_rfl) (opensB_slice (size := 6) (bytes := 72) hB Tryz.underlying22 (by kernel_rfl) (by kernel_rfl) (opensB_tr hB)) (foB_cons (s := 1) rfl (by kernel_rfl) (opensB_of hB (opens_int Tryz.underlying3)) (foB_nil rfl)))))))
  exact h
theorem tree_of (hB : IsBulk B) : ∀ (N : Nat) {x : DataW H} {cs : List Value} {F : Nat → Prop}, B x ≤ N → rTr enc W base spare held W F x cs → ∃ e d, rEx d W (fun _ => True) e cs ∧ ∀ d, lenOk d e ∧ numOk d e ∧ cntM d e ≤ B x
  | 0, x, cs, F, h, _ => by have := hB.one x; omega
  | N + 1, x, cs, F, h, ⟨fuel, p, ht, hw⟩ => by
    obtain ⟨⟨k, n, s, op, xs, a, u⟩, hr, hm⟩ := opensB_one (enc := enc) (W := W) (base := base) (spare := spare) (held := held) hB fuel cs (x, p) ht hw
    obtain ⟨c1, r1, rfl, ⟨rfl, i1⟩, c2, r2, rfl, ⟨rfl, i2⟩, c3, r3, rfl, ⟨rfl, i3⟩, c4, r4, rfl, ⟨rfl, i4⟩, c5, r5, rfl, ⟨sl, rfl, hsl, _⟩, c6, r6, rfl, ⟨rfl, i6⟩, hu⟩ := hr
    have hu : r6 = [] := hu
    subst hu
    dsimp only at hm hsl i1 i2 i3
    have hsum : ∀ y, y ∈ xs → B y ≤ (xs.map B).sum := fun y hy => mem_sum (List.mem_map_of_mem hy)
    obtain ⟨l, l1, l2, l3⟩ := lift_l (B := B) (Q := fun j e dj => ∃ base cs, sl.a = some base ∧ cs.length = 6 ∧ Cells W (base.add (j * 6)) cs ∧ rEx dj W (fun _ => True) e cs ∧ ∀ d, lenOk d e ∧ numOk d e) xs 0 fun j y hj => by
      rw [Nat.zero_add]
      obtain ⟨bs, ds, g1, g2, g3, g4, g5⟩ := hsl.at_ j y hj
      obtain ⟨e, d, t1, t2⟩ := tree_of hB N (x := y) (by have := hsum y (List.mem_of_getElem? hj); omega) g5
      exact ⟨e, d, ⟨bs, ds, g1, g3, g4, t1, fun d => ⟨(t2 d).1, (t2 d).2.1⟩⟩, fun d => (t2 d).2.2⟩
    obtain ⟨m, hmx⟩ := le_top l
    refine ⟨.mk k n s.data.toList op (l.map (·.1)) a, m + 1, ⟨sl, ?_, ?_⟩, fun d => ?_⟩
    · have e : exv k n s.data.toList op sl a = [.int .i64 k, .int .i64 n, .string s, .int .i64 op, sl.v, .int .i64 a] := by
        show [_, _, Value.string (T s.data.toList), _, _, _] = _
        rw [← T_of s]
      exact e.symm
    · refine ⟨by rw [Ex.subs, List.length_map, l1]; exact hsl.len, hsl.cap, hsl.nil0, hsl.big, fun j e hj => ?_⟩
      rw [Ex.subs, List.getElem?_map, Option.map_eq_some_iff] at hj
      obtain ⟨q, q1, rfl⟩ := hj
      obtain ⟨bs, ds, g1, g2, g3, g4, g5⟩ := l2 j q q1
      rw [Nat.zero_add] at g3
      exact ⟨bs, ds, g1, trivial, g2, g3, rEx_le (hmx q (List.mem_of_getElem? q1)) g4⟩
    · have hsz : s.data.toList.length = s.size := by rw [Array.length_toList]; rfl
      have all : ∀ e, e ∈ l.map (·.1) → ∀ d, lenOk d e ∧ numOk d e := fun e he => by
        obtain ⟨q, q1, rfl⟩ := List.mem_map.1 he
        obtain ⟨j, hj⟩ := List.getElem?_of_mem q1
        obtain ⟨bs, ds, g1, g2, g3, g4, g5⟩ := l2 j q hj
        exact g5
      cases d with
      | zero => exact ⟨trivial, trivial, Nat.zero_le _⟩
      | succ d =>
        refine ⟨⟨?_, fun y hy => (all y hy d).1⟩, ⟨i2, fun y hy => (all y hy d).2⟩, ?_⟩
        · show s.data.toList.length < _
          rw [hsz]
          omega
        · rw [cntM]
          have := l3 d
          show 1 + cntL (cntM d) (l.map (·.1)) ≤ _
          omega
theorem opensB_ex (hB : IsBulk B) : OpensB B enc Tryz.prog W base spare held 24 rExU fun x => x.2 := fun fuel cs x h hw => by
  obtain ⟨e, d, h1, h2⟩ := tree_of hB (B x.1) (x := x.1) (F := fun _ => True) (Nat.le_refl _) ⟨fuel, x.2, h, hw⟩
  exact ⟨(e, B x.1), ⟨d, h1, h2⟩, Nat.le_refl _⟩
end

theorem text_ne {d : Nat} {x : Ex} (h : textM d x ≠ []) : shapeM d x = true ∧ textM d x = pgM d x false [] ∧ (readA (pgM d x false [])).2.1 = 0 := by
  unfold textM at h ⊢
  by_cases hs : shapeM d x = true
  · rw [if_pos hs] at h ⊢
    by_cases hr : (readA (pgM d x false [])).2.1 ≠ 0
    · rw [if_pos hr] at h
      exact absurd rfl h
    · rw [if_neg hr]
      exact ⟨hs, rfl, by simpa using hr⟩
  · rw [if_neg hs] at h
    exact absurd rfl h
end Go.Proofs.YtadlbafgkibipaaGreatDoor.Con

namespace Go.Proofs.YtadlbafgkibipaaGreatDoor.Con
open Go Go.RowKit Go.Kt Go.Kt.V Go.Proofs.YtadlbafgkibipaaGreatDoor.Vc
set_option linter.unusedSimpArgs false
set_option linter.unusedVariables false
set_option maxHeartbeats 4000000

def dOk : Nat → Ex → Prop
  | 0, _ => False
  | d + 1, x => ∀ y, y ∈ x.subs → dOk d y
theorem rEx_dOk {w : World} {F : Nat → Prop} : ∀ (d : Nat) {x : Ex} {cs : List Value}, rEx d w F x cs → dOk d x
  | 0, _, _, h => h.elim
  | d + 1, x, cs, ⟨sl, _, h⟩ => fun y hy => by
    obtain ⟨j, hj⟩ := List.getElem?_of_mem hy
    obtain ⟨_, ds, _, _, _, _, h5⟩ := h.at_ j y hj
    exact rEx_dOk d h5
theorem ev_sim {e : Env5} {x y : Ex} (h : Sim x y) : ∀ {d1 d2 : Nat}, dOk d1 x → dOk d2 y → evM e d1 x = evM e d2 y := by
  induction h with
  | leaf k n s op a b =>
    intro d1 d2 h1 h2
    cases d1 with
    | zero => exact h1.elim
    | succ d1 =>
      cases d2 with
      | zero => exact h2.elim
      | succ d2 => rfl
  | one k n s op a b x y h ih =>
    intro d1 d2 h1 h2
    cases d1 with
    | zero => exact h1.elim
    | succ d1 =>
      cases d2 with
      | zero => exact h2.elim
      | succ d2 =>
        have := ih (h1 x (by simp [Ex.subs])) (h2 y (by simp [Ex.subs]))
        rw [evM, evM]
        dsimp only [Ex.k, Ex.n, Ex.s, Ex.op, Ex.subs, List.length_cons, List.length_nil]
        rw [this]
        rfl
  | two k n s op a b x y x' y' h1 h2 ih1 ih2 =>
    intro d1 d2 g1 g2
    cases d1 with
    | zero => exact g1.elim
    | succ d1 =>
      cases d2 with
      | zero => exact g2.elim
      | succ d2 =>
        have e1 := ih1 (g1 x (by simp [Ex.subs])) (g2 x' (by simp [Ex.subs]))
        have e2 := ih2 (g1 y (by simp [Ex.subs])) (g2 y' (by simp [Ex.subs]))
        rw [evM, evM]
        dsimp only [Ex.k, Ex.n, Ex.s, Ex.op, Ex.subs, List.length_cons, List.length_nil]
        rw [e1, e2]
        rfl
/-- an environment as it is handed in -/
abbrev rEnv : Rp (List ByteArray × List Int × List ByteArray × Unit) := rPair (rSl rStr 1 16) (rPair (rSl rInt 1 8) (rPair (rSl rStr 1 16) rUnit))
theorem str_tx {w : World} {F : Nat → Prop} {s : Sl} {l : List ByteArray} (h : SliceF rStr 1 w F s l) : SliceF rTx 1 w F s (l.map fun b => b.data.toList) :=
  ⟨by rw [List.length_map]; exact h.len, h.cap, h.nil0, h.big, fun j x hx => by
    rw [List.getElem?_map, Option.map_eq_some_iff] at hx
    obtain ⟨b, hb, rfl⟩ := hx
    obtain ⟨base, cs, h1, h2, h3, h4, h5, _⟩ := h.at_ j b hb
    exact ⟨base, cs, h1, h2, h3, h4, by unfold rTx; rw [h5, ← T_of b]⟩⟩
theorem env_of {w : World} {F : Nat → Prop} {a : List ByteArray × List Int × List ByteArray × Unit} {es : List Value} (h : rEnv w F a es) : ∃ (e : Env5) (sN sV sA : Sl), es = [sN.v, sV.v, sA.v] ∧ SliceF rTx 1 w F sN e.N ∧ SliceF rInt 1 w F sV e.V ∧ SliceF rTx 1 w F sA e.A := by
  obtain ⟨l1, l2, l3, u⟩ := a
  obtain ⟨c1, r1, rfl, ⟨s1, rfl, h1, _⟩, c2, r2, rfl, ⟨s2, rfl, h2, _⟩, c3, r3, rfl, ⟨s3, rfl, h3, _⟩, hu⟩ := h
  have hu : r3 = [] := hu
  subst hu
  exact ⟨⟨l1.map fun b => b.data.toList, l2, l3.map fun b => b.data.toList⟩, s1, s2, s3, rfl, str_tx h1, h2, str_tx h3⟩
theorem again_c {w : World} {x : Ex × Nat} {cs es : List Value} {a : List ByteArray × List Int × List ByteArray × Unit} (hx : rExU w (fun _ => True) x cs) (hb : x.2 ≤ 1048576) (he : rEnv w (fun _ => True) a es) (hE : Er w) (hT : Tb w) : Calls Tryz.prog 4 #[.agg cs.toArray, .agg es.toArray] w fun e w' => e = .returned (.bool true) ∧ Only [] w w' := by
  obtain ⟨x, c⟩ := x
  obtain ⟨d, hx, hall⟩ := hx
  dsimp only at hx hall hb
  obtain ⟨hl, hn, hc⟩ := hall d
  obtain ⟨xs, rfl⟩ := rEx_cells hx
  obtain ⟨e, sN, sV, sA, rfl, hN, hV, hA⟩ := env_of he
  refine ret (pavanelaw06_EvalAgain_wp x.k x.n (T x.s) x.op xs x.a sN sV sA (fun v w' => v = .bool true ∧ Only [] w w') w ?_)
  unfold pavanelaw06_EvalAgain_vc
  intro k0 k1 w0 hk0 hk0' hk1 hk1' hO0
  have z0 := hO0.size
  refine (evsmall_c w0 (hE.only hO0)).mono ?_
  rintro _ w1 ⟨rfl, hO1⟩
  have z1 := hO1.size
  have hO01 := hO0.tr0 hO1
  refine ⟨_, rfl, hO1.same (by simp; omega), (text_c (rEx_only hx hO01) hl hn (hE.only hO01) (hT.only hO01) (by omega)).mono ?_⟩
  rintro _ w2 ⟨rfl, hO2⟩
  have z2 := hO2.size
  have hO02 := hO01.tr0 hO2
  have hem : ((T (textM d x)).toList == (ByteArray.mk #[]).toList) = decide (textM d x = []) := T_eq _ []
  refine ⟨_, rfl, hO2.same (by simp; omega), ?_⟩
  rw [hem]
  refine ⟨fun _ => ⟨rfl, hO02⟩, fun hne => ?_⟩
  have hne : textM d x ≠ [] := by simpa using hne
  obtain ⟨t1, t2, t3⟩ := text_ne hne
  obtain ⟨_, hsim⟩ := back_law t1 hn t3
  rw [t2]
  refine (read_c _ (hE.only hO02)).mono ?_
  rintro _ w3 ⟨ys, rfl, hY, hO3⟩
  have z3 := hO3.size
  obtain ⟨d2, hd2⟩ := hY.ex
  obtain ⟨yl, rfl, _⟩ := hY.cells
  refine ⟨_, _, _, _, _, _, _, _, rfl, hO3.same (by simp; omega), fun k2 k3 w4 hk2 hk2' hk3 hk3' hO4 => ?_⟩
  have z4 := hO4.size
  have hO04 := (hO02.tr0 hO3).tr0 hO4
  refine (eval_c (rEx_only hx hO04) (SliceF.only rTx_ok (by decide) hN hO04 (by simp)) (SliceF.only rInt_ok (by decide) hV hO04 (by simp)) (SliceF.only rTx_ok (by decide) hA hO04 (by simp))).mono ?_
  rintro _ w5 ⟨rfl, hO5⟩
  have z5 := hO5.size
  have hO05 := hO04.tr0 hO5
  refine ⟨_, _, rfl, hO5.same (by simp; omega), (eval_c (rEx_only hd2 (hO4.tr0 hO5)) (SliceF.only rTx_ok (by decide) hN hO05 (by simp)) (SliceF.only rInt_ok (by decide) hV hO05 (by simp)) (SliceF.only rTx_ok (by decide) hA hO05 (by simp))).mono ?_⟩
  rintro _ w6 ⟨rfl, hO6⟩
  refine ⟨_, _, rfl, hO6.same (by simp; omega), ?_, hO05.tr0 hO6⟩
  rw [t3, ev_sim hsim (rEx_dOk d hx) (rEx_dOk d2 hd2)]
  simp
end Go.Proofs.YtadlbafgkibipaaGreatDoor.Con
