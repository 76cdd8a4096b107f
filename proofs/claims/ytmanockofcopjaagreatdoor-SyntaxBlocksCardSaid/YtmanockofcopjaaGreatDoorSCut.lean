/-
  Own work: tokens of a text that is cut at a byte 10. No program in sight.
-/
import Derived.Test.YtmanockofcopjaaGreatDoorRm0
namespace Go.Proofs.YtmanockofcopjaaGreatDoor.Con
open Go Go.RowKit Go.Kt Go.Kt.V
set_option linter.unusedSimpArgs false
set_option linter.unusedVariables false
set_option maxHeartbeats 4000000

theorem sk_nl {y : List UInt8} : ∀ (b : Bool) (l : List UInt8), (skN b l < l.length ∧ skN b (l ++ 10 :: y) = skN b l) ∨ (skN b l = l.length ∧ skN b (l ++ 10 :: y) = l.length + (1 + skN false y))
  | b, [] => .inr ⟨by simp [skN], by cases b <;> (rw [List.nil_append, List.length_nil, Nat.zero_add]; rfl)⟩
  | true, c :: r => by
    rw [List.cons_append, skN, skN, List.length_cons]
    have := sk_nl (y := y) (c != 10) r
    omega
  | false, c :: r => by
    rw [List.cons_append, skN, skN, List.length_cons]
    by_cases h1 : blankB c = true
    · rw [if_pos h1, if_pos h1]
      have := sk_nl (y := y) false r
      omega
    · rw [if_neg h1, if_neg h1]
      have e : (r ++ 10 :: y).head? = some 47 ↔ r.head? = some 47 := by
        cases r with
        | nil => simp
        | cons a b => simp
      by_cases h2 : (c == 47 && r.head? == some 47) = true
      · have h3 : (c == 47 && (r ++ 10 :: y).head? == some 47) = true := by
          simp only [Bool.and_eq_true, beq_iff_eq] at h2 ⊢
          exact ⟨h2.1, e.2 h2.2⟩
        rw [if_pos h2, if_pos h3]
        have := sk_nl (y := y) true r
        omega
      · have h3 : ¬ (c == 47 && (r ++ 10 :: y).head? == some 47) = true := by
          simp only [Bool.and_eq_true, beq_iff_eq] at h2 ⊢
          exact fun h => h2 ⟨h.1, e.1 h.2⟩
        rw [if_neg h2, if_neg h3]
        exact .inl ⟨by omega, rfl⟩
theorem while_nl {p : UInt8 → Bool} (hp : p 10 = false) {y : List UInt8} : ∀ (l : List UInt8), (l ++ 10 :: y).takeWhile p = l.takeWhile p
  | [] => by simp [hp]
  | c :: r => by
    rw [List.cons_append, List.takeWhile_cons, List.takeWhile_cons, while_nl hp r]
theorem signN_2 (m : List UInt8) (c : UInt8) : signN (c :: m) ≤ (c :: m).length := by
  unfold signN
  split
  · rename_i h
    cases m with
    | nil => cases h
    | cons d m => simp
  · simp only [List.length_cons]
    split <;> omega
theorem tok_nl {y l : List UInt8} (hl : l ≠ []) : tokR (l ++ 10 :: y) = tokR l := by
  cases l with
  | nil => exact absurd rfl hl
  | cons c r =>
    have hw := while_nl (p := wordB) (by decide) (y := y) (c :: r)
    have hd := while_nl (p := digitB) (by decide) (y := y) (c :: r)
    have hpm : parseM (c :: r ++ 10 :: y) = parseM (c :: r) := by
      unfold parseM
      rw [hd]
      simp
    have hs2 : sign2 (c :: r ++ 10 :: y) = sign2 (c :: r) := by
      cases r with
      | cons d r => rfl
      | nil =>
        show sign2 (c :: 10 :: y) = false
        by_cases hc : c = 10
        · subst hc; rfl
        · have : (10 == c) = false := by simpa using fun e : (10 : UInt8) = c => hc e.symm
          simp [sign2, this]
    have hsn : signN (c :: r ++ 10 :: y) = signN (c :: r) := by
      unfold signN
      rw [hs2]
      rfl
    have hle := signN_2 r c
    have e : tokR (c :: r ++ 10 :: y) = if letterB c then wordR (c :: r ++ 10 :: y) else if digitB c then numR (c :: r ++ 10 :: y) else signR (c :: r ++ 10 :: y) := rfl
    rw [e, tok_cons]
    have a1 : wordR (c :: r ++ 10 :: y) = wordR (c :: r) := by unfold wordR; rw [hw]
    have a2 : numR (c :: r ++ 10 :: y) = numR (c :: r) := by unfold numR; rw [hw, hpm]
    have a3 : signR (c :: r ++ 10 :: y) = signR (c :: r) := by
      unfold signR
      rw [hsn, List.take_append_of_le_length hle]
    rw [a1, a2, a3]
/-- what is cut of a text whose first part is l: if all is well, the tokens of l but its end, and what follows -/
theorem toks_nl {y l : List UInt8} : ∀ (n i : Nat), i ≤ l.length → l.length - i ≤ n → ∀ {r : List Tk}, toks (l ++ 10 :: y) i = .ok r → ∃ us a q, toks l i = .ok (us ++ [⟨5, [], 0, a⟩]) ∧ toks (l ++ 10 :: y) l.length = .ok q ∧ r = us ++ q := by
  intro n
  induction n with
  | zero =>
    intro i hi hn r h
    have : i = l.length := by omega
    subst this
    exact ⟨[], _, r, by rw [toks_step hi, if_pos (by omega)]; rfl, h, rfl⟩
  | succ n ih =>
    intro i hi hn r h
    have hlen : (l ++ 10 :: y).length = l.length + 1 + y.length := by simp; omega
    have hd : (l ++ 10 :: y).drop i = l.drop i ++ 10 :: y := List.drop_append_of_le_length hi
    have hdl : (l.drop i).length = l.length - i := List.length_drop
    rcases sk_nl (y := y) false (l.drop i) with ⟨h1, h2⟩ | ⟨h1, h2⟩
    · rw [toks_step (by omega), hd, h2, if_neg (by omega)] at h
      rw [toks_step hi, if_neg (by omega)]
      have hd2 : (l ++ 10 :: y).drop (i + skN false (l.drop i)) = l.drop (i + skN false (l.drop i)) ++ 10 :: y := List.drop_append_of_le_length (by omega)
      have hne : l.drop (i + skN false (l.drop i)) ≠ [] := by
        intro e
        have := congrArg List.length e
        rw [List.length_drop, List.length_nil] at this
        omega
      rw [hd2, tok_nl hne] at h
      cases hq : tokR (l.drop (i + skN false (l.drop i))) with
      | error e => rw [hq] at h; cases h
      | ok q =>
        rw [hq] at h
        dsimp only at h ⊢
        have q1 := tok_len hq
        have q2 := tok_le hq
        rw [List.length_drop] at q2
        split at h
        · cases h
        · rename_i rs hrs
          cases h
          obtain ⟨us, a, q', k1, k2, rfl⟩ := ih _ (by omega) (by omega) hrs
          rw [k1]
          exact ⟨_ :: us, a, q', rfl, k2, rfl⟩
    · have hs := toks_skip (l := l ++ 10 :: y) (i := i) (by omega)
      have hs2 := toks_skip (l := l ++ 10 :: y) (i := l.length) (by omega)
      have hd3 : (l ++ 10 :: y).drop l.length = 10 :: y := List.drop_left
      have e3 : skN false (10 :: y) = 1 + skN false y := rfl
      rw [hd, h2] at hs
      rw [hd3, e3] at hs2
      have e4 : i + ((l.drop i).length + (1 + skN false y)) = l.length + (1 + skN false y) := by omega
      rw [e4, ← hs2] at hs
      rw [hs] at h
      exact ⟨[], _, r, by rw [toks_step hi, if_pos (by omega)]; rfl, h, rfl⟩
/-- the same rest is cut the same, but for places -/
theorem toks_shift {l l' : List UInt8} : ∀ (n i i' : Nat), l.length - i ≤ n → i ≤ l.length → i' ≤ l'.length → l.drop i = l'.drop i' → ∀ {r r' : List Tk}, toks l i = .ok r → toks l' i' = .ok r' → r'.map k3 = r.map k3 := by
  intro n
  induction n with
  | zero =>
    intro i i' hn hi hi' hd r r' h h'
    have e : i = l.length := by omega
    have e' : i' = l'.length := by
      have := congrArg List.length hd
      rw [List.length_drop, List.length_drop] at this
      omega
    rw [toks_step hi, if_pos (by omega)] at h
    rw [toks_step hi', if_pos (by omega)] at h'
    cases h
    cases h'
    rfl
  | succ n ih =>
    intro i i' hn hi hi' hd r r' h h'
    have hl := congrArg List.length hd
    rw [List.length_drop, List.length_drop] at hl
    rw [toks_step hi] at h
    rw [toks_step hi', ← hd] at h'
    by_cases hc : l.length ≤ i + skN false (l.drop i)
    · rw [if_pos hc] at h
      rw [if_pos (by omega)] at h'
      cases h
      cases h'
      rfl
    · rw [if_neg hc] at h
      rw [if_neg (by omega)] at h'
      have hd2 : l.drop (i + skN false (l.drop i)) = l'.drop (i' + skN false (l.drop i)) := by
        rw [← List.drop_drop, ← List.drop_drop, hd]
      rw [← hd2] at h'
      cases hq : tokR (l.drop (i + skN false (l.drop i))) with
      | error e => rw [hq] at h; cases h
      | ok q =>
        rw [hq] at h h'
        dsimp only at h h'
        have q1 := tok_len hq
        have q2 := tok_le hq
        rw [List.length_drop] at q2
        split at h
        · cases h
        · rename_i rs hrs
          split at h'
          · cases h'
          · rename_i rs' hrs'
            cases h
            cases h'
            have hd3 : l.drop (i + skN false (l.drop i) + q.2.2.2) = l'.drop (i' + skN false (l.drop i) + q.2.2.2) := by
              rw [← List.drop_drop, ← List.drop_drop (i := q.2.2.2), hd2]
            have := ih _ _ (by omega) (by omega) (by omega) hd3 hrs hrs'
            rw [List.map_cons, List.map_cons, this]
            rfl
/-- behind a piece all is well, if it is before it -/
theorem pe_of : ∀ (L : List Pq3), (∀ r, okP L r) → ∀ (l : List UInt8) (i : Nat) (r : List UInt8) (q : List Tk), i ≤ l.length → l.drop i = flatP L ++ r → toks l i = .ok q → ∃ ts, toks l (i + (flatP L).length) = .ok ts
  | [], _, l, i, r, q, _, _, h => ⟨q, h⟩
  | x :: L, h, l, i, r, q, hi, hd, ht => by
    obtain ⟨h1, h2, h3, h4⟩ := h r
    have hd : l.drop i = x.1 ++ (x.2.1 ++ (flatP L ++ r)) := by rw [hd]; simp [flatP]
    have i1 := in_of hi hd
    have d1 := drop_app hd
    have i2 := in_of i1 d1
    have d2 := drop_app d1
    have hlen : (flatP (x :: L)).length = x.1.length + (x.2.1.length + (flatP L).length) := by simp [flatP]
    have hpl := List.length_pos_iff.2 h2
    rw [toks_step hi, hd, h1, if_neg (by omega), d1, h3] at ht
    dsimp only at ht
    cases hr : toks l (i + x.1.length + x.2.1.length) with
    | error e => rw [hr] at ht; cases ht
    | ok ts =>
      obtain ⟨us, k⟩ := pe_of L (fun r => (h r).2.2.2) l _ r ts i2 d2 hr
      refine ⟨us, ?_⟩
      rw [← k, hlen]
      congr 1
      omega
end Go.Proofs.YtmanockofcopjaaGreatDoor.Con
