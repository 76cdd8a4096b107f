/-
  Own work: parentheses around an expression leave no trace: the plain law of tokens and of reading.
-/
import Derived.Test.YtadlbafgkibipaaGreatDoorExc5
namespace Go.Proofs.YtadlbafgkibipaaGreatDoor.Con
open Go Go.RowKit Go.Kt Go.Kt.V
set_option linter.unusedSimpArgs false
set_option linter.unusedVariables false
set_option maxHeartbeats 4000000

/-! ## tokens of a text with a line's end and ')' behind -/
def exw : List UInt8 := [10, 41]
theorem sk_exw0 (b : Bool) : skN b exw = 1 := by cases b <;> decide
theorem sk_exw : ∀ (b : Bool) (l : List UInt8), (skN b l < l.length ∧ skN b (l ++ exw) = skN b l) ∨ (skN b l = l.length ∧ skN b (l ++ exw) = l.length + 1)
  | b, [] => .inr ⟨by simp [skN], by rw [List.nil_append, sk_exw0]; rfl⟩
  | true, c :: r => by
    rw [List.cons_append, skN, skN, List.length_cons]
    have := sk_exw (c != 10) r
    omega
  | false, c :: r => by
    rw [List.cons_append, skN, skN, List.length_cons]
    by_cases h1 : blankB c = true
    · rw [if_pos h1, if_pos h1]
      have := sk_exw false r
      omega
    · rw [if_neg h1, if_neg h1]
      have e : (r ++ exw).head? = some 47 ↔ r.head? = some 47 := by
        cases r with
        | nil => simp [exw]
        | cons a b => simp
      by_cases h2 : (c == 47 && r.head? == some 47) = true
      · have h3 : (c == 47 && (r ++ exw).head? == some 47) = true := by
          simp only [Bool.and_eq_true, beq_iff_eq] at h2 ⊢
          exact ⟨h2.1, e.2 h2.2⟩
        rw [if_pos h2, if_pos h3]
        have := sk_exw true r
        omega
      · have h3 : ¬ (c == 47 && (r ++ exw).head? == some 47) = true := by
          simp only [Bool.and_eq_true, beq_iff_eq] at h2 ⊢
          exact fun h => h2 ⟨h.1, e.1 h.2⟩
        rw [if_neg h2, if_neg h3]
        exact .inl ⟨by omega, rfl⟩
theorem while_exw {p : UInt8 → Bool} (hp : p 10 = false) : ∀ (l : List UInt8), (l ++ exw).takeWhile p = l.takeWhile p
  | [] => by simp [exw, hp]
  | c :: r => by
    rw [List.cons_append, List.takeWhile_cons, List.takeWhile_cons, while_exw hp r]
theorem tok_exw {l : List UInt8} (hl : l ≠ []) : tokR (l ++ exw) = tokR l := by
  cases l with
  | nil => exact absurd rfl hl
  | cons c r =>
    have hw := while_exw (p := wordB) (by decide) (c :: r)
    have hd := while_exw (p := digitB) (by decide) (c :: r)
    have hpm : parseM (c :: r ++ exw) = parseM (c :: r) := by
      unfold parseM
      rw [hd]
      simp
    have hs2 : sign2 (c :: r ++ exw) = sign2 (c :: r) := by
      cases r with
      | cons d r => rfl
      | nil =>
        show sign2 (c :: 10 :: [41]) = false
        by_cases hc : c = 10
        · subst hc; rfl
        · have : (10 == c) = false := by simpa using fun e : (10 : UInt8) = c => hc e.symm
          simp [sign2, this]
    have hsn : signN (c :: r ++ exw) = signN (c :: r) := by
      unfold signN
      rw [hs2]
      rfl
    have hle := signN_le (m := c :: r)
    have e : tokR (c :: r ++ exw) = if letterB c then wordR (c :: r ++ exw) else if digitB c then numR (c :: r ++ exw) else signR (c :: r ++ exw) := rfl
    have e2 : tokR (c :: r) = if letterB c then wordR (c :: r) else if digitB c then numR (c :: r) else signR (c :: r) := rfl
    rw [e, e2]
    have a1 : wordR (c :: r ++ exw) = wordR (c :: r) := by unfold wordR; rw [hw]
    have a2 : numR (c :: r ++ exw) = numR (c :: r) := by unfold numR; rw [hw, hpm]
    have a3 : signR (c :: r ++ exw) = signR (c :: r) := by
      unfold signR
      rw [hsn, List.take_append_of_le_length hle]
    rw [a1, a2, a3]
def sh (t : Tk) : Tk := ⟨t.k, t.t, t.n, t.a + 1⟩
def wrapR (n : Nat) : Except (Int × Nat) (List Tk) → Except (Int × Nat) (List Tk)
  | .error x => .error (x.1, x.2 + 1)
  | .ok r => .ok (r.dropLast.map sh ++ [⟨4, [41], 0, ((n + 2 : Nat) : Int)⟩, ⟨5, [], 0, ((n + 3 : Nat) : Int)⟩])
theorem toks_ne' {l : List UInt8} {i : Nat} (hi : i ≤ l.length) {r : List Tk} (h : toks l i = .ok r) : r ≠ [] := by
  rw [toks_step hi] at h
  split at h
  · injection h with h; rw [← h]; simp
  · split at h
    · cases h
    · split at h
      · cases h
      · injection h with h; rw [← h]; simp
theorem toks_exw {l : List UInt8} : ∀ (n i : Nat), i ≤ l.length → l.length - i ≤ n → toks (40 :: (l ++ exw)) (i + 1) = wrapR l.length (toks l i)
  | n, i, hi, hn => by
    have hel : (40 :: (l ++ exw)).length = l.length + 3 := by
      rw [List.length_cons, List.length_append]
      rfl
    have hd : (40 :: (l ++ exw)).drop (i + 1) = l.drop i ++ exw := by
      rw [List.drop_succ_cons]
      exact List.drop_append_of_le_length hi
    have hdl : (l.drop i).length = l.length - i := List.length_drop
    rw [toks_step hi, toks_step (l := 40 :: (l ++ exw)) (i := i + 1) (by omega), hel, hd]
    rcases sk_exw false (l.drop i) with ⟨h1, h2⟩ | ⟨h1, h2⟩
    · rw [h2, if_neg (by omega), if_neg (by omega)]
      have hj2 : i + 1 + skN false (l.drop i) = i + skN false (l.drop i) + 1 := by omega
      rw [hj2]
      generalize hj : i + skN false (l.drop i) = j at *
      have hjl : j < l.length := by omega
      have hd2 : (40 :: (l ++ exw)).drop (j + 1) = l.drop j ++ exw := by
        rw [List.drop_succ_cons]
        exact List.drop_append_of_le_length (by omega)
      have hne : l.drop j ≠ [] := by
        intro e
        have := congrArg List.length e
        rw [List.length_drop, List.length_nil] at this
        omega
      rw [hd2, tok_exw hne]
      cases hq : tokR (l.drop j) with
      | error e => rfl
      | ok q =>
        dsimp only
        have q1 := tok_len hq
        have q2 := tok_le hq
        rw [List.length_drop] at q2
        match n, hn with
        | 0, hn => omega
        | n + 1, hn =>
          have hj3 : j + 1 + q.2.2.2 = j + q.2.2.2 + 1 := by omega
          rw [hj3, toks_exw n (j + q.2.2.2) (by omega) (by omega)]
          cases hr : toks l (j + q.2.2.2) with
          | error x => rfl
          | ok r =>
            have hrn := toks_ne' (by omega) hr
            simp only [wrapR]
            rw [List.dropLast_cons_of_ne_nil hrn, List.map_cons, List.cons_append]
            rfl
    · rw [h1, h2, if_neg (by omega), if_pos (by omega)]
      have e1 : i + 1 + ((l.drop i).length + 1) = l.length + 2 := by omega
      rw [e1]
      have e2 : (40 :: (l ++ exw)).drop (l.length + 2) = [41] := by
        rw [List.drop_succ_cons, List.drop_append, List.drop_of_length_le (by omega), Nat.add_sub_cancel_left]
        rfl
      rw [e2]
      have e3 : tokR [41] = .ok (4, [41], 0, 1) := by rfl
      rw [e3]
      dsimp only
      have e4 : (40 :: (l ++ exw)).drop (l.length + 3) = [] := List.drop_of_length_le (by omega)
      rw [toks_step (l := 40 :: (l ++ exw)) (i := l.length + 2 + 1) (by omega), e4]
      have e5 : skN false [] = 0 := rfl
      rw [e5, hel, if_pos (by omega)]
      simp only [wrapR, List.dropLast_singleton, List.map_nil, List.nil_append]
theorem toks_wrap (l : List UInt8) : toks (40 :: (l ++ exw)) 0 = match wrapR l.length (toks l 0) with
    | .error x => .error x
    | .ok r => .ok (⟨4, [40], 0, 0⟩ :: r) := by
  have hel : (40 :: (l ++ exw)).length = l.length + 3 := by
    rw [List.length_cons, List.length_append]
    rfl
  rw [toks_step (Nat.zero_le _), hel, List.drop_zero]
  have e0 : skN false (40 :: (l ++ exw)) = 0 := by
    rw [skN, if_neg (by decide), if_neg (by simp)]
  rw [e0, if_neg (by omega), Nat.zero_add, List.drop_zero]
  have e1 : tokR (40 :: (l ++ exw)) = .ok (4, [40], 0, 1) := by
    have : tokR (40 :: (l ++ exw)) = signR (40 :: (l ++ exw)) := rfl
    rw [this]
    have hs : sign2 (40 :: (l ++ exw)) = false := by
      cases hl : l ++ exw with
      | nil => rfl
      | cons d r =>
        show ((d == 61 && [60, 62, 61, 33].contains (40 : UInt8)) || (d == 40 && [38, 124].contains (40 : UInt8)) || ((40 : UInt8) == 45 && d == 62)) = false
        rw [show [60, 62, 61, 33].contains (40 : UInt8) = false by decide, show [38, 124].contains (40 : UInt8) = false by decide, show ((40 : UInt8) == 45) = false by decide, Bool.and_false, Bool.and_false, Bool.false_and]
        rfl
    have hn : signN (40 :: (l ++ exw)) = 1 := by
      unfold signN
      rw [hs]
      rfl
    unfold signR
    rw [hn]
    rfl
  rw [e1]
  dsimp only
  rw [Nat.zero_add, toks_exw l.length 0 (Nat.zero_le _) (by omega)]
  rfl

/-! ## equal trees, but for places -/
inductive Sim : Ex → Ex → Prop
  | leaf (k n : Int) (s : List UInt8) (op a b : Int) : Sim (.mk k n s op [] a) (.mk k n s op [] b)
  | one (k n : Int) (s : List UInt8) (op a b : Int) (x y : Ex) : Sim x y → Sim (.mk k n s op [x] a) (.mk k n s op [y] b)
  | two (k n : Int) (s : List UInt8) (op a b : Int) (x y x' y' : Ex) : Sim x x' → Sim y y' → Sim (.mk k n s op [x, y] a) (.mk k n s op [x', y'] b)

/-! ## reading them -/
structure Wr (ts ts' : List Tk) (n : Nat) : Prop where
  e : ∀ i, n ≤ i → (tk ts i).k = 5
  s : ∀ i, i < n → (tk ts' (i + 1)).k = (tk ts i).k ∧ (tk ts' (i + 1)).t = (tk ts i).t ∧ (tk ts' (i + 1)).n = (tk ts i).n
  c : (tk ts' (n + 1)).k = 4 ∧ (tk ts' (n + 1)).t = [41]
def Rel (n : Nat) (r r' : Pr) : Prop := ∀ x j, r = .ok (x, j) → (∃ x', r' = .ok (x', j + 1) ∧ Sim x x' ∧ j ≤ n) ∨ ∃ a, r' = .error (21, a)
section
variable {ts ts' : List Tk} {n : Nat}
theorem Wr.lt (h : Wr ts ts' n) {i : Nat} (hk : (tk ts i).k ≠ 5) : i < n := by
  refine Decidable.byContradiction fun hn => hk (h.e i (by omega))
theorem Wr.sgl (h : Wr ts ts' n) {i : Nat} (hi : i < n) (s : List UInt8) : sg ts' (i + 1) s = sg ts i s := by
  unfold sg
  obtain ⟨h1, h2, _⟩ := h.s i hi
  rw [h1, h2]
theorem Wr.sgn (h : Wr ts ts' n) {i : Nat} (hi : i ≤ n) {s : List UInt8} (hs : s ≠ [41]) : sg ts' (i + 1) s = sg ts i s := by
  rcases Nat.lt_or_ge i n with hl | hl
  · exact h.sgl hl s
  · have : i = n := by omega
    subst this
    unfold sg
    rw [h.c.1, h.c.2, h.e i (Nat.le_refl _)]
    have : decide ([41] = s) = false := decide_eq_false fun e => hs e.symm
    rw [this, Bool.and_false]
    rfl
theorem opTx_ne (op : Nat) : opTx op ≠ [41] := by
  rcases Nat.lt_or_ge op 16 with h | h
  · have : ∀ q, q < 16 → opTx q ≠ [41] := by decide
    exact this op h
  · unfold opTx
    rw [List.getElem?_eq_none (by exact h)]
    decide
theorem Wr.opf (h : Wr ts ts' n) {i : Nat} (hi : i ≤ n) (k : Int) : ∀ (f op : Nat), opFrom ts' k (i + 1) f op = opFrom ts k i f op
  | 0, _ => rfl
  | f + 1, op => by
    rw [opFrom, opFrom, h.sgn hi (opTx_ne op), h.opf hi k f]
theorem Wr.op (h : Wr ts ts' n) {i : Nat} (hi : i ≤ n) (k : Int) : opAt ts' k (i + 1) = opAt ts k i := h.opf hi k 13 1
theorem Rel.map {r r' : Pr} (h : Rel n r r') {g g' : Ex → Ex} (hg : ∀ x x', Sim x x' → Sim (g x) (g' x')) : Rel n (mapR g r) (mapR g' r') := by
  intro x j hx
  obtain ⟨y, h1, rfl⟩ := mapR_ok hx
  rcases h y j h1 with ⟨x', h2, h3, h4⟩ | ⟨a, h2⟩
  · exact .inl ⟨g' x', by rw [h2]; rfl, hg _ _ h3, h4⟩
  · exact .inr ⟨a, by rw [h2]; rfl⟩
theorem Rel.and {r r' : Pr} {f f' : Ex → Nat → Pr} (h : Rel n r r') (hf : ∀ x x' j, r = .ok (x, j) → j ≤ n → Sim x x' → Rel n (f x j) (f' x' (j + 1))) : Rel n (andR r f) (andR r' f') := by
  intro x j hx
  obtain ⟨y, m, h1, h5⟩ := andR_ok hx
  rcases h y m h1 with ⟨x', h2, h3, h4⟩ | ⟨a, h2⟩
  · rw [h2]
    exact hf y x' m h1 h4 h3 x j h5
  · exact .inr ⟨a, by rw [h2]; rfl⟩
theorem Rel.nest {r r' : Pr} {d : Nat} {a a' : Int} (h : d + 1 ≠ 20 → Rel n r r') : Rel n (nestR d a r) (nestR (d + 1) a' r') := by
  intro x j hx
  obtain ⟨h1, h2⟩ := nestR_ok hx
  by_cases h3 : d + 1 = 20
  · exact .inr ⟨a', by rw [nestR, if_pos h3]⟩
  · rw [nestR, if_neg h3]
    exact h h3 x j h1
theorem Rel.par (hw : Wr ts ts' n) {r r' : Pr} (h : Rel n r r') : Rel n (parR ts r) (parR ts' r') := by
  intro x j hx
  obtain ⟨j', h1, h2, rfl⟩ := parR_ok hx
  rcases h x j' h1 with ⟨x', h3, h4, h5⟩ | ⟨a, h3⟩
  · have hl := hw.lt (sg_k h2)
    exact .inl ⟨x', by rw [h3]; simp only [parR]; rw [if_pos (by rw [hw.sgl hl]; exact h2)], h4, hl⟩
  · exact .inr ⟨a, by rw [h3]; rfl⟩
theorem Rel.err {e : Int × Int} {r' : Pr} : Rel n (.error e) r' := fun x j hx => by cases hx
theorem Rel.in_ (hw : Wr ts ts' n) (i : Nat) : Rel n (inR ts i) (inR ts' (i + 1)) := by
  intro x j hx
  have hx0 := hx
  obtain ⟨rfl, rfl⟩ := inR_ok hx0
  unfold inR at hx
  split at hx
  · rename_i h1
    split at hx
    · rename_i h2
      split at hx
      · rename_i h3
        have hl := hw.lt (sg_k h3)
        refine .inl ⟨.mk 3 0 (tk ts' (i + 1 + 2)).t 0 [] (tk ts' (i + 1)).a, ?_, ?_, hl⟩
        · unfold inR
          rw [if_pos (by rw [hw.sgl (by omega : i + 1 < n)]; exact h1), if_pos (by rw [(hw.s (i + 2) (by omega)).1]; exact h2), if_pos (by rw [hw.sgl hl]; exact h3)]
        · have e : (tk ts' (i + 1 + 2)).t = (tk ts (i + 2)).t := (hw.s (i + 2) (by omega)).2.1
          rw [e]
          exact .leaf ..
      · cases hx
    · cases hx
  · cases hx
theorem Rel.one (hw : Wr ts ts' n) {E0 One E0' One' : Nat → Pr} {d i : Nat} (hE : d + 1 ≠ 20 → ∀ i, i ≤ n → Rel n (E0 i) (E0' (i + 1))) (hO : d + 1 ≠ 20 → ∀ i, i ≤ n → Rel n (One i) (One' (i + 1))) (hi : i ≤ n) : Rel n (oneR ts E0 One d i) (oneR ts' E0' One' (d + 1) (i + 1)) := by
  by_cases hin : i = n
  · subst hin
    have h5 := hw.e i (Nat.le_refl _)
    have hs : ∀ s, sg ts i s = false := fun s => by
      unfold sg
      rw [h5]
      rfl
    have : oneR ts E0 One d i = .error (wrongF ts i) := by
      unfold oneR
      rw [hs, hs, hs, if_neg (by decide), if_neg (by decide), if_neg (by rw [h5]; decide), if_neg (by rw [h5]; decide), if_neg (by rw [h5]; rintro ⟨h, _⟩; exact absurd h (by decide))]
    rw [this]
    exact Rel.err
  · have hl : i < n := by omega
    obtain ⟨k1, k2, k3⟩ := hw.s i hl
    unfold oneR
    rw [hw.sgl hl, hw.sgl hl, hw.sgl hl, k1, k2, k3]
    split
    · exact Rel.map (Rel.nest fun h => hO h (i + 1) hl) fun x x' hx => .one _ _ _ _ _ _ _ _ hx
    · split
      · exact Rel.nest fun h => Rel.par hw (hE h (i + 1) hl)
      · split
        · intro x j hx
          simp only [Except.ok.injEq, Prod.mk.injEq] at hx
          obtain ⟨rfl, rfl⟩ := hx
          exact .inl ⟨_, rfl, .leaf .., hl⟩
        · split
          · intro x j hx
            simp only [Except.ok.injEq, Prod.mk.injEq] at hx
            obtain ⟨rfl, rfl⟩ := hx
            exact .inl ⟨_, rfl, .leaf .., hl⟩
          · split
            · exact Rel.in_ hw i
            · exact Rel.err
theorem Rel.loop (hw : Wr ts ts' n) {E E' : Nat → Pr} {k : Int} (hm : ∀ i x j, E i = .ok (x, j) → i < j) (hE : ∀ i, i ≤ n → Rel n (E i) (E' (i + 1))) : ∀ (g g' : Nat) (x x' : Ex) (j : Nat), j ≤ n → n - j < g → n - j < g' → Sim x x' → Rel n (loopR ts E k g x j) (loopR ts' E' k g' x' (j + 1))
  | 0, _, _, _, j, _, h, _, _ => by omega
  | _, 0, _, _, j, _, _, h, _ => by omega
  | g + 1, g' + 1, x, x', j, hj, h1, h2, hs => by
    rw [loopR, loopR, hw.op hj]
    split
    · intro y m hy
      simp only [Except.ok.injEq, Prod.mk.injEq] at hy
      obtain ⟨rfl, rfl⟩ := hy
      exact .inl ⟨_, rfl, hs, hj⟩
    · rename_i h0
      have hl := hw.lt (opFrom_sg _ _ h0)
      refine Rel.and (hE (j + 1) hl) fun y y' m hy hmn hs' => ?_
      have := hm _ _ _ hy
      exact Rel.loop hw hm hE g g' _ _ m hmn (by omega) (by omega) (.two _ _ _ _ _ _ _ _ _ _ hs hs')
theorem Rel.expr (hw : Wr ts ts' n) (hl : ts.length = n + 1) (hl' : ts'.length = n + 3) : ∀ (f' f k d i : Nat), k ≤ 6 → d + 1 ≤ 20 → need k (d + 1) ≤ f' → i ≤ n → Rel n (exprR ts f k d i) (exprR ts' f' k (d + 1) (i + 1))
  | 0, f, k, d, i, hk, hd, h, _ => by unfold need at h; omega
  | f' + 1, 0, k, d, i, hk, hd, h, _ => Rel.err
  | f' + 1, f + 1, k, d, i, hk, hd, h, hi => by
    rw [exprR, exprR]
    unfold need at h
    split
    · rename_i h6
      subst h6
      exact Rel.one hw (fun hn i hi => Rel.expr hw hl hl' f' f 0 (d + 1) i (by omega) (by omega) (by unfold need; omega) hi) (fun hn i hi => Rel.expr hw hl hl' f' f 6 (d + 1) i (by omega) (by omega) (by unfold need; omega) hi) hi
    · have hR : ∀ i, i ≤ n → Rel n (exprR ts f (k + 1) d i) (exprR ts' f' (k + 1) (d + 1) (i + 1)) := fun i hi => Rel.expr hw hl hl' f' f (k + 1) d i (by omega) hd (by unfold need; omega) hi
      refine Rel.and (hR i hi) fun x x' j hx hj hs => ?_
      exact Rel.loop hw (fun i x j h => exprR_mono _ _ _ _ h) hR _ _ _ _ _ hj (by omega) (by omega) hs
end
/-! ## a fault is one -/
theorem inR_err {ts : List Tk} {i : Nat} {e : Int × Int} (h : inR ts i = .error e) : e.1 ≠ 0 := by
  unfold inR at h
  split at h
  · split at h
    · split at h
      · cases h
      · injection h with h; subst h; exact wrongF_ne
    · injection h with h; subst h; exact wrongF_ne
  · injection h with h; subst h; exact wrongF_ne
theorem andR_err {r : Pr} {g : Ex → Nat → Pr} {e : Int × Int} (h : andR r g = .error e) : r = .error e ∨ ∃ x j, r = .ok (x, j) ∧ g x j = .error e := by
  cases r with
  | error e' => exact .inl h
  | ok p => exact .inr ⟨p.1, p.2, rfl, h⟩
theorem nestR_err {d : Nat} {a : Int} {r : Pr} {e : Int × Int} (h : nestR d a r = .error e) : r = .error e ∨ e.1 = 21 := by
  unfold nestR at h
  split at h
  · injection h with h; subst h; exact .inr rfl
  · exact .inl h
theorem loopR_err {ts : List Tk} {E : Nat → Pr} {k : Int} {e : Int × Int} (hE : ∀ i, E i = .error e → e.1 ≠ 0) : ∀ (g : Nat) (x : Ex) (j : Nat), loopR ts E k g x j = .error e → e.1 ≠ 0
  | 0, x, j, h => by cases h
  | g + 1, x, j, h => by
    rw [loopR] at h
    split at h
    · cases h
    · rcases andR_err h with h1 | ⟨y, m, h1, h2⟩
      · exact hE _ h1
      · exact loopR_err hE g _ _ h2
theorem exprR_err {ts : List Tk} {e : Int × Int} : ∀ (f k d i : Nat), exprR ts f k d i = .error e → e.1 ≠ 0
  | 0, k, d, i, h => by
    rw [exprR] at h
    injection h with h; subst h; decide
  | f + 1, k, d, i, h => by
    rw [exprR] at h
    split at h
    · unfold oneR at h
      split at h
      · generalize hn : nestR d (tk ts i).a (exprR ts f 6 (d + 1) (i + 1)) = r at h
        cases r with
        | ok q => cases h
        | error e' =>
          simp only [mapR] at h
          injection h with h; subst h
          rcases nestR_err hn with h1 | h1
          · exact exprR_err f _ _ _ h1
          · rw [h1]; decide
      · split at h
        · rcases nestR_err h with h1 | h1
          · cases hr : exprR ts f 0 (d + 1) (i + 1) with
            | error e' =>
              rw [hr] at h1
              simp only [parR] at h1
              injection h1 with h1; subst h1
              exact exprR_err f _ _ _ hr
            | ok q =>
              rw [hr] at h1
              simp only [parR] at h1
              split at h1
              · cases h1
              · injection h1 with h1; subst h1; exact wrongF_ne
          · rw [h1]; decide
        · split at h
          · cases h
          · split at h
            · cases h
            · split at h
              · exact inR_err h
              · injection h with h; subst h; exact wrongF_ne
    · rcases andR_err h with h1 | ⟨y, m, h1, h2⟩
      · exact exprR_err f _ _ _ h1
      · exact loopR_err (fun i hi => exprR_err f _ _ _ hi) _ _ _ h2
/-! ## up the rows -/
theorem loop0 {ts : List Tk} {E : Nat → Pr} {k : Int} {x : Ex} {j : Nat} (h : opAt ts k j = 0) : ∀ g, loopR ts E k g x j = .ok (x, j)
  | 0 => rfl
  | g + 1 => by rw [loopR, if_pos h]
theorem up_err {ts : List Tk} {f d i : Nat} {e : Int × Int} (h : exprR ts f 6 d i = .error e) : ∀ (m k : Nat), k + m = 6 → exprR ts (f + m) k d i = .error e
  | 0, k, hk => by
    have : k = 6 := by omega
    subst this
    exact h
  | m + 1, k, hk => by
    rw [← Nat.add_assoc, exprR, if_neg (by omega), up_err h m (k + 1) (by omega)]
    rfl
theorem up_ok {ts : List Tk} {f d i : Nat} {x : Ex} {j : Nat} (h : exprR ts f 6 d i = .ok (x, j)) (h0 : ∀ k : Int, opAt ts k j = 0) : ∀ (m k : Nat), k + m = 6 → exprR ts (f + m) k d i = .ok (x, j)
  | 0, k, hk => by
    have : k = 6 := by omega
    subst this
    exact h
  | m + 1, k, hk => by
    rw [← Nat.add_assoc, exprR, if_neg (by omega), up_ok h h0 m (k + 1) (by omega)]
    simp only [andR]
    exact loop0 (h0 _) _
theorem op_end {ts : List Tk} {j : Nat} (h : (tk ts j).k = 5) (k : Int) : opAt ts k j = 0 := by
  refine Decidable.byContradiction fun hn => ?_
  exact opFrom_sg _ _ hn h
theorem op_of {ts : List Tk} {j : Nat} {t : List UInt8} (h : (tk ts j).t = t) (hn : ∀ op, op < 16 → opTx op ≠ t ∨ op = 0 ∨ 14 ≤ op) (k : Int) : opAt ts k j = 0 := by
  have : ∀ (f op : Nat), 1 ≤ op → op + f ≤ 14 → opFrom ts k j f op = 0 := by
    intro f
    induction f with
    | zero => intro op _ _; rfl
    | succ f ih =>
      intro op h1 h2
      rw [opFrom, if_neg, ih (op + 1) (by omega) (by omega)]
      rintro ⟨_, hs⟩
      simp only [sg, Bool.and_eq_true, decide_eq_true_eq] at hs
      rcases hn op (by omega) with e | e | e
      · exact e (by rw [← h, hs.2])
      · omega
      · omega
  exact this 13 1 (by omega) (by omega)
theorem wrap_law (l : List UInt8) (h : (readA l).2.1 = 0) : (readA (40 :: (l ++ exw))).2.1 = 2 ∨ (readA (40 :: (l ++ exw))).2.1 = 21 ∨ (readA (40 :: (l ++ exw))).2.1 = 0 ∧ Sim (readA l).1 (readA (40 :: (l ++ exw))).1 := by
  have hel : (40 :: (l ++ exw)).length = l.length + 3 := by
    rw [List.length_cons, List.length_append]
    rfl
  by_cases hlen : 16384 < l.length + 3
  · refine .inl ?_
    unfold readA
    have : tokensM (40 :: (l ++ exw)) = ([], 2, -1) := by
      rw [tokensM, hel, if_pos hlen]
    rw [this, if_pos (by decide)]
  have t0 : tokensM l = match toks l 0 with
    | .error x => ([], x.1, (x.2 : Nat))
    | .ok r => (r, 0, 0) := by
      rw [tokensM, if_neg (by omega)] <;> rfl
  have t1 : tokensM (40 :: (l ++ exw)) = match toks (40 :: (l ++ exw)) 0 with
    | .error x => ([], x.1, (x.2 : Nat))
    | .ok r => (r, 0, 0) := by
      rw [tokensM, if_neg (by omega)] <;> rfl
  rw [toks_wrap] at t1
  cases hr : toks l 0 with
  | error x =>
    rw [hr] at t0
    dsimp only at t0
    unfold readA at h
    rw [t0] at h
    dsimp only at h
    by_cases hx : x.1 ≠ 0
    · rw [if_pos hx] at h
      exact absurd h hx
    · rw [if_neg hx, if_pos (show (parseA [] 0).2.2.1 ≠ 0 by decide)] at h
      exact absurd h (show ¬ (parseA [] 0).2.2.1 = 0 by decide)
  | ok ts =>
    have hne := toks_ne' (Nat.zero_le _) hr
    have hpos := List.length_pos_iff.2 hne
    rw [hr] at t0 t1
    simp only [wrapR] at t1
    dsimp only at t0 t1
    have hA : readA l = if (parseA ts 0).2.2.1 ≠ 0 then (ex0, (parseA ts 0).2.2.1, (parseA ts 0).2.2.2) else if (tk ts (parseA ts 0).2.1.toNat).k ≠ 5 then (ex0, 4, (tk ts (parseA ts 0).2.1.toNat).a) else ((parseA ts 0).1, 0, (parseA ts 0).2.2.2) := by
      unfold readA
      rw [t0]
      rfl
    generalize hts' : (⟨4, [40], 0, 0⟩ :: (ts.dropLast.map sh ++ [⟨4, [41], 0, ((l.length + 2 : Nat) : Int)⟩, ⟨5, [], 0, ((l.length + 3 : Nat) : Int)⟩]) : List Tk) = ts' at t1
    have hA' : readA (40 :: (l ++ exw)) = if (parseA ts' 0).2.2.1 ≠ 0 then (ex0, (parseA ts' 0).2.2.1, (parseA ts' 0).2.2.2) else if (tk ts' (parseA ts' 0).2.1.toNat).k ≠ 5 then (ex0, 4, (tk ts' (parseA ts' 0).2.1.toNat).a) else ((parseA ts' 0).1, 0, (parseA ts' 0).2.2.2) := by
      unfold readA
      rw [t1]
      rfl
    have hpa : ∀ us : List Tk, parseA us 0 = if 0 < us.length ∧ endN us + 1 = us.length then (match parseR us 0 with
    | .error (c, p) => (ex0, 0, c, p)
    | .ok (x, j) => (x, (j : Int), 0, 0)) else (ex0, 0, 1, -1) := fun us => by
      unfold parseA
      by_cases hc : 0 < us.length ∧ endN us + 1 = us.length
      · rw [if_pos hc, if_pos ⟨Int.le_refl _, by omega, hc.2⟩]
        rfl
      · rw [if_neg hc, if_neg (fun hh => hc ⟨by omega, hh.2.2⟩)]
    rw [hA] at h
    have hcond : 0 < ts.length ∧ endN ts + 1 = ts.length := by
      refine Decidable.byContradiction fun hn => ?_
      rw [hpa, if_neg hn, if_pos (by decide)] at h
      exact absurd h (by decide)
    have hpt := hpa ts
    rw [if_pos hcond] at hpt
    have hE := endN_end hcond.2
    obtain ⟨n, hn⟩ : ∃ n, ts.length = n + 1 := ⟨ts.length - 1, by omega⟩
    have hlt' : ts'.length = n + 3 := by
      rw [← hts', List.length_cons, List.length_append, List.length_map, List.length_dropLast, hn]
      rfl
    have htk : ∀ i, i < n → tk ts' (i + 1) = sh (tk ts i) := fun i hi => by
      unfold tk
      rw [← hts', List.getElem?_cons_succ, List.getElem?_append_left (by rw [List.length_map, List.length_dropLast]; omega), List.getElem?_map, List.getElem?_dropLast, if_pos (by omega), List.getElem?_eq_getElem (by omega)]
      rfl
    have htc : tk ts' (n + 1) = ⟨4, [41], 0, ((l.length + 2 : Nat) : Int)⟩ := by
      unfold tk
      rw [← hts', List.getElem?_cons_succ, List.getElem?_append_right (by rw [List.length_map, List.length_dropLast]; omega), List.length_map, List.length_dropLast, hn, Nat.add_sub_cancel, Nat.sub_self]
      rfl
    have hte : tk ts' (n + 2) = ⟨5, [], 0, ((l.length + 3 : Nat) : Int)⟩ := by
      unfold tk
      rw [← hts', List.getElem?_cons_succ, List.getElem?_append_right (by rw [List.length_map, List.length_dropLast]; omega), List.length_map, List.length_dropLast, hn, Nat.add_sub_cancel, Nat.add_sub_cancel_left]
      rfl
    have ht0 : tk ts' 0 = ⟨4, [40], 0, 0⟩ := by
      unfold tk
      rw [← hts']
      rfl
    have hw : Wr ts ts' n := ⟨fun i hi => by
      rcases Nat.lt_or_ge i ts.length with hl | hl
      · exact (hE i hl).2 (by omega)
      · unfold tk
        rw [List.getElem?_eq_none hl]
        rfl, fun i hi => by rw [htk i hi]; exact ⟨rfl, rfl, rfl⟩, by rw [htc]; exact ⟨rfl, rfl⟩⟩
    have hE' : EndL ts' := fun i hi => by
      rw [hlt'] at hi ⊢
      rcases Nat.lt_or_ge i 1 with h0 | h0
      · have : i = 0 := by omega
        subst this
        rw [ht0]
        constructor
        · intro hh; exact absurd hh (by decide)
        · intro hh; omega
      · obtain ⟨i, rfl⟩ : ∃ m, i = m + 1 := ⟨i - 1, by omega⟩
        rcases Nat.lt_or_ge i n with h1 | h1
        · rw [htk i h1]
          constructor
          · intro hh
            have := (hE i (by omega)).1 hh
            omega
          · intro hh; omega
        · rcases Nat.lt_or_ge i (n + 1) with h2 | h2
          · have : i = n := by omega
            subst this
            rw [htc]
            constructor
            · intro hh; exact absurd hh (show ¬ (4 : Int) = 5 by decide)
            · intro hh; omega
          · have : i = n + 1 := by omega
            subst this
            rw [hte]
            exact ⟨fun _ => rfl, fun _ => rfl⟩
    have hcond' : 0 < ts'.length ∧ endN ts' + 1 = ts'.length := ⟨by omega, end_endN hE' (by omega)⟩
    have hpt' := hpa ts'
    rw [if_pos hcond'] at hpt'
    cases hp : parseR ts 0 with
    | error e =>
      rw [hp] at hpt
      dsimp only at hpt
      rw [hpt] at h
      dsimp only at h
      by_cases hx : e.1 ≠ 0
      · rw [if_pos hx] at h
        exact absurd h hx
      · exfalso
        have hx : e.1 = 0 := by simpa using hx
        exact exprR_err _ _ _ _ hp hx
    | ok q =>
      obtain ⟨x, j⟩ := q
      rw [hp] at hpt
      dsimp only at hpt
      rw [hpt] at h hA
      dsimp only at h hA
      rw [if_neg (by decide), Int.toNat_natCast] at h hA
      have hj5 : (tk ts j).k = 5 := by
        refine Decidable.byContradiction fun hn => ?_
        rw [if_pos hn] at h
        exact absurd h (show ¬ (4 : Int) = 0 by decide)
      rw [if_neg (by rw [hj5]; decide)] at hA
      have hrel := Rel.expr hw hn hlt' 160 (need 0 0) 0 0 0 (by decide) (by decide) (by decide) (Nat.zero_le _) x j hp
      have hsg : sg ts' 0 [40] = true := by
        unfold sg
        rw [ht0]
        rfl
      have hns : (sg ts' 0 [45] || sg ts' 0 [33]) = false := by
        unfold sg
        rw [ht0]
        decide
      have hone : exprR ts' 161 6 0 0 = parR ts' (exprR ts' 160 0 1 1) := by
        rw [exprR, if_pos rfl]
        unfold oneR
        rw [if_neg (by rw [hns]; decide), if_pos hsg, nestR, if_neg (by decide)]
      have hpr : parseR ts' 0 = exprR ts' (161 + 6) 0 0 0 := rfl
      rcases hrel with ⟨x', h1, h2, h3⟩ | ⟨a, h1⟩
      · have hjn : j = n := by
          refine Decidable.byContradiction fun hnn => ?_
          have := (hE j (by omega)).1 hj5
          omega
        subst hjn
        rw [h1] at hone
        simp only [parR] at hone
        rw [if_pos (by unfold sg; rw [htc]; rfl)] at hone
        rw [up_ok hone (op_end (by rw [hte])) 6 0 rfl] at hpr
        rw [hpr] at hpt'
        dsimp only at hpt'
        rw [hpt'] at hA'
        dsimp only at hA'
        rw [if_neg (by decide), Int.toNat_natCast, hte, if_neg (show ¬ (5 : Int) ≠ 5 by decide)] at hA'
        refine .inr (.inr ?_)
        rw [hA', hA]
        exact ⟨rfl, h2⟩
      · rw [h1] at hone
        rw [up_err hone 6 0 rfl] at hpr
        rw [hpr] at hpt'
        dsimp only at hpt'
        rw [hpt'] at hA'
        dsimp only at hA'
        rw [if_pos (by decide)] at hA'
        refine .inr (.inl ?_)
        rw [hA']
end Go.Proofs.YtadlbafgkibipaaGreatDoor.Con
