/-
  Own work: tokens with blanks or notes between them are cut the same, but for places. No program in sight.
-/
import Derived.Test.YtmanockofcopjaaGreatDoorDec
import Derived.Test.YtmanockofcopjaaGreatDoorSynM
namespace Go.Proofs.YtmanockofcopjaaGreatDoor.Con
open Go Go.RowKit Go.Kt Go.Kt.V
set_option linter.unusedSimpArgs false
set_option linter.unusedVariables false
set_option maxHeartbeats 4000000

/-- a token's text -/
def txT (t : Tk) : List UInt8 := if t.k = 3 then Lib.itoa t.n else t.t
def sepL : Nat → List UInt8
  | 0 => [10]
  | 1 => [32, 9]
  | 2 => [32, 47, 47, 32, 125, 32, 120, 10]
  | _ => [13, 10, 10]
def joinT (f : Nat → Nat) : Nat → List Tk → List UInt8
  | _, [] => []
  | i, t :: ts => txT t ++ (sepL (f i) ++ joinT f (i + 1) ts)
theorem joinT_snoc (f : Nat → Nat) (t : Tk) : ∀ (ts : List Tk) (i : Nat), joinT f i (ts ++ [t]) = joinT f i ts ++ (txT t ++ sepL (f (i + ts.length)))
  | [], i => by simp [joinT]
  | x :: ts, i => by
    rw [List.cons_append, joinT, joinT, joinT_snoc f t ts (i + 1), List.length_cons, show i + 1 + ts.length = i + (ts.length + 1) by omega]
    simp only [List.append_assoc]
/-- how a text goes on behind a token -/
def sepR (r : List UInt8) : Prop := ∃ c r', r = c :: r' ∧ (c = 10 ∨ c = 13 ∨ c = 32)
theorem sep_sepR (k : Nat) (r : List UInt8) : sepR (sepL k ++ r) := by
  match k with
  | 0 => exact ⟨_, _, rfl, .inl rfl⟩
  | 1 => exact ⟨_, _, rfl, .inr (.inr rfl)⟩
  | 2 => exact ⟨_, _, rfl, .inr (.inr rfl)⟩
  | _ + 3 => exact ⟨_, _, rfl, .inr (.inl rfl)⟩
theorem sep_sk (k : Nat) (r : List UInt8) : skN false (sepL k ++ r) = (sepL k).length + skN false r := by
  match k with
  | 0 => show 1 + skN false r = 1 + skN false r; rfl
  | 1 => show 1 + (1 + skN false r) = 2 + skN false r; omega
  | 2 => show 1 + (1 + (1 + (1 + (1 + (1 + (1 + (1 + skN false r))))))) = 8 + skN false r; omega
  | _ + 3 => show 1 + (1 + (1 + skN false r)) = 3 + skN false r; omega
theorem let_all : ∀ n : Fin 256, letterB (UInt8.ofNat n.val) = true → blankB (UInt8.ofNat n.val) = false ∧ (UInt8.ofNat n.val == 47) = false := by decide +kernel
theorem dig_all : ∀ n : Fin 256, digitB (UInt8.ofNat n.val) = true → blankB (UInt8.ofNat n.val) = false ∧ (UInt8.ofNat n.val == 47) = false := by decide +kernel
theorem sgn_all : ∀ n : Fin 256, ([60, 62, 61, 33, 38, 124, 45].contains (UInt8.ofNat n.val) || shortL.contains (UInt8.ofNat n.val)) = true → blankB (UInt8.ofNat n.val) = false := by decide +kernel
theorem sub_all : ∀ n : Fin 256, ([60, 62, 61, 33].contains (UInt8.ofNat n.val) || [38, 124].contains (UInt8.ofNat n.val) || UInt8.ofNat n.val == 45) = true → [60, 62, 61, 33, 38, 124, 45].contains (UInt8.ofNat n.val) = true := by decide +kernel
theorem two_all : ∀ n : Fin 256, [60, 62, 61, 33, 38, 124, 45].contains (UInt8.ofNat n.val) = true → (UInt8.ofNat n.val == 47) = false := by decide +kernel
theorem sk0 {c : UInt8} {r : List UInt8} (h1 : blankB c = false) (h2 : (c == 47) = false ∨ r.head? ≠ some 47) : skN false (c :: r) = 0 := by
  rw [skN, if_neg (by rw [h1]; decide), if_neg]
  rcases h2 with h2 | h2
  · rw [h2]; simp
  · intro h
    rw [Bool.and_eq_true, beq_iff_eq, beq_iff_eq] at h
    exact h2 h.2
theorem sepR.word {r : List UInt8} (h : sepR r) (c : UInt8) (hc : r.head? = some c) : wordB c = false := by
  obtain ⟨d, r', rfl, hd⟩ := h
  simp only [List.head?_cons, Option.some.injEq] at hc
  subst hc
  rcases hd with rfl | rfl | rfl <;> decide
theorem tok_cons (c : UInt8) (m : List UInt8) : tokR (c :: m) = if letterB c then wordR (c :: m) else if digitB c then numR (c :: m) else signR (c :: m) := rfl
/-- a token's text is cut as the token -/
theorem tok_back {m : List UInt8} {u : Tk} {q : Nat} (h : tokR m = .ok (u.k, u.t, u.n, q)) {r : List UInt8} (hr : sepR r) :
    txT u ≠ [] ∧ skN false (txT u ++ r) = 0 ∧ tokR (txT u ++ r) = .ok (u.k, u.t, u.n, (txT u).length) := by
  cases m with
  | nil => cases h
  | cons c m =>
    rw [tok_cons] at h
    by_cases hl : letterB c = true
    · rw [if_pos hl] at h
      unfold wordR at h
      split at h
      · cases h
      · rename_i h24
        simp only [Except.ok.injEq, Prod.mk.injEq] at h
        obtain ⟨e1, e2, e3, e4⟩ := h
        have hk : u.k ≠ 3 := by rw [← e1]; split <;> decide
        have hx : txT u = u.t := by unfold txT; rw [if_neg hk]
        have hw : wordB c = true := by unfold wordB; rw [hl]; rfl
        have ht : u.t = c :: m.takeWhile wordB := by rw [← e2, List.takeWhile_cons, if_pos hw]
        have hall : ∀ x, x ∈ u.t → wordB x = true := fun x hx => by rw [← e2] at hx; exact while_all x hx
        have hrun := while_app (p := wordB) hr.word u.t hall
        rw [hx]
        refine ⟨by rw [ht]; simp, ?_, ?_⟩
        · rw [ht]
          obtain ⟨b1, b2⟩ := u8_all (p := fun c => letterB c = true → blankB c = false ∧ (c == 47) = false) let_all c hl
          exact sk0 b1 (.inl b2)
        · have h5 : tokR (u.t ++ r) = wordR (u.t ++ r) := by
            rw [ht]
            rw [List.cons_append, tok_cons, if_pos hl]
          rw [h5]
          unfold wordR
          rw [hrun, if_neg (by rw [← e2]; exact h24)]
          rw [e2] at e1
          rw [e1, e3]
    · rw [if_neg hl] at h
      by_cases hd : digitB c = true
      · rw [if_pos hd] at h
        unfold numR at h
        split at h
        · cases h
        · rename_i hp
          split at h
          · cases h
          · simp only [Except.ok.injEq, Prod.mk.injEq] at h
            obtain ⟨e1, e2, e3, e4⟩ := h
            have hn : 0 ≤ u.n ∧ u.n ≤ 9223372036854775807 := by
              rw [← e3]
              unfold parseM at hp ⊢
              split
              · exact ⟨by decide, by decide⟩
              · split
                · exact ⟨by decide, by decide⟩
                · split
                  · rename_i hv
                    dsimp only
                    omega
                  · exact ⟨by decide, by decide⟩
            have hx : txT u = Lib.itoa u.n := by unfold txT; rw [if_pos e1.symm]
            have ht := num_tok' hn.1 hn.2 (r := r) hr.word
            rw [hx, ← e1, ← e2]
            have hi := itoa_nat hn.1
            have hne := dec_ne u.n.toNat
            have hall := dec_all u.n.toNat
            refine ⟨by rw [hi]; exact hne, ?_, ht⟩
            rw [hi]
            generalize Lib.decDigits u.n.toNat = ds at hne hall
            cases ds with
            | nil => exact absurd rfl hne
            | cons d ds =>
              obtain ⟨b1, b2⟩ := u8_all (p := fun c => digitB c = true → blankB c = false ∧ (c == 47) = false) dig_all d (hall d (by simp))
              exact sk0 b1 (.inl b2)
      · rw [if_neg hd] at h
        unfold signR at h
        split at h
        · cases h
        · rename_i hs
          simp only [Except.ok.injEq, Prod.mk.injEq] at h
          obtain ⟨e1, e2, e3, e4⟩ := h
          have hx : txT u = u.t := by unfold txT; rw [if_neg (by rw [← e1]; decide)]
          have hgo : ∀ r', tokR (c :: r') = signR (c :: r') := fun r' => by rw [tok_cons, if_neg hl, if_neg hd]
          obtain ⟨d', r', rfl, hd'⟩ := hr
          by_cases h2 : sign2 (c :: m) = true
          · have hN : signN (c :: m) = 2 := by unfold signN; rw [if_pos h2]
            cases m with
            | nil => cases h2
            | cons d m =>
              have h3 : sign2 (c :: d :: (d' :: r')) = true := h2
              have ht : u.t = [c, d] := by rw [← e2, hN]; rfl
              have hc : [60, 62, 61, 33, 38, 124, 45].contains c = true := by
                unfold sign2 at h2
                simp only [Bool.or_eq_true, Bool.and_eq_true] at h2
                refine u8_all (p := fun c => ([60, 62, 61, 33].contains c || [38, 124].contains c || c == 45) = true → [60, 62, 61, 33, 38, 124, 45].contains c = true) sub_all c ?_
                rcases h2 with (h2 | h2) | h2
                · rw [h2.2]; rfl
                · rw [h2.2, Bool.or_true]; rfl
                · rw [h2.1, Bool.or_true]
              have b1 := u8_all (p := fun c => ([60, 62, 61, 33, 38, 124, 45].contains c || shortL.contains c) = true → blankB c = false) sgn_all c (by rw [hc]; rfl)
              have b2 := u8_all (p := fun c => [60, 62, 61, 33, 38, 124, 45].contains c = true → (c == 47) = false) two_all c hc
              rw [hx, ht]
              refine ⟨by simp, sk0 b1 (.inl b2), ?_⟩
              show tokR (c :: d :: (d' :: r')) = _
              rw [hgo]
              have hN' : signN (c :: d :: (d' :: r')) = 2 := by unfold signN; rw [if_pos h3]
              unfold signR
              rw [hN', if_neg (by decide), ← e1, ← e3]
              rfl
          · have hN : signN (c :: m) = if shortL.contains c then 1 else 0 := by unfold signN; rw [if_neg h2]
            have hc : shortL.contains c = true := by
              refine Decidable.byContradiction fun hn => hs ?_
              rw [hN, if_neg hn]
            rw [if_pos hc] at hN
            have ht : u.t = [c] := by rw [← e2, hN]; rfl
            have b1 := u8_all (p := fun c => ([60, 62, 61, 33, 38, 124, 45].contains c || shortL.contains c) = true → blankB c = false) sgn_all c (by rw [hc, Bool.or_true])
            rw [hx, ht]
            have h3 : sign2 (c :: d' :: r') = false := by
              unfold sign2
              have n1 : (d' == 61) = false := by rcases hd' with rfl | rfl | rfl <;> decide
              have n2 : (d' == 62) = false := by rcases hd' with rfl | rfl | rfl <;> decide
              have n3 : (d' == c && [38, 124].contains c) = false := by
                rw [Bool.and_eq_false_iff]
                by_cases e : d' = c
                · subst e
                  right
                  rcases hd' with rfl | rfl | rfl <;> decide
                · left; simpa using e
              show ((d' == 61 && [60, 62, 61, 33].contains c) || (d' == c && [38, 124].contains c) || (c == 45 && d' == 62)) = false
              rw [n1, n2, n3, Bool.and_false]
              rfl
            refine ⟨by simp, sk0 b1 (.inr ?_), ?_⟩
            · show some d' ≠ some 47
              rcases hd' with rfl | rfl | rfl <;> decide
            · show tokR (c :: (d' :: r')) = _
              rw [hgo]
              have hN' : signN (c :: (d' :: r')) = 1 := by
                unfold signN
                rw [if_neg (by rw [h3]; decide)]
                show (if shortL.contains c then 1 else 0) = 1
                rw [if_pos hc]
              unfold signR
              rw [hN', if_neg (by decide), ← e1, ← e3]
              rfl
/-- tokens and the end -/
theorem toks_good {l : List UInt8} : ∀ (n i : Nat), i ≤ l.length → l.length - i ≤ n → ∀ {r : List Tk}, toks l i = .ok r → ∃ us a, r = us ++ [⟨5, [], 0, a⟩] ∧ ∀ u, u ∈ us → ∃ m q, tokR m = .ok (u.k, u.t, u.n, q) := by
  intro n
  induction n with
  | zero =>
    intro i hi hn r h
    rw [toks_step hi, if_pos (by omega)] at h
    cases h
    exact ⟨[], _, rfl, fun u hu => by cases hu⟩
  | succ n ih =>
    intro i hi hn r h
    rw [toks_step hi] at h
    split at h
    · cases h
      exact ⟨[], _, rfl, fun u hu => by cases hu⟩
    · rename_i hlt
      split at h
      · cases h
      · rename_i q hq
        have h3 := tok_len hq
        have h4 := tok_le hq
        rw [List.length_drop] at h4
        split at h
        · cases h
        · rename_i rs hrs
          cases h
          obtain ⟨us, a, rfl, hus⟩ := ih _ (by omega) (by omega) hrs
          refine ⟨_ :: us, a, rfl, fun u hu => ?_⟩
          rcases List.mem_cons.1 hu with rfl | hu
          · exact ⟨_, _, hq⟩
          · exact hus u hu
theorem toks_join {l : List UInt8} {f : Nat → Nat} : ∀ (us : List Tk) (j i : Nat), (∀ u, u ∈ us → ∃ m q, tokR m = .ok (u.k, u.t, u.n, q)) → i ≤ l.length → l.drop i = joinT f j us → ∃ vs a, toks l i = .ok (vs ++ [⟨5, [], 0, a⟩]) ∧ vs.map k3 = us.map k3
  | [], j, i, _, hi, h => by
    have hl : l.length ≤ i := by
      have := congrArg List.length h
      rw [List.length_drop] at this
      simp [joinT] at this
      omega
    rw [toks_step hi, if_pos (by omega)]
    exact ⟨[], _, rfl, rfl⟩
  | u :: us, j, i, hg, hi, h => by
    obtain ⟨m, q, hm⟩ := hg u (by simp)
    rw [joinT] at h
    obtain ⟨t1, t2, t3⟩ := tok_back hm (sep_sepR (f j) (joinT f (j + 1) us))
    have i1 := in_of hi h
    have d1 := drop_app h
    have i2 := in_of i1 d1
    have d2 := drop_app d1
    obtain ⟨vs, a, h1, h2⟩ := toks_join us (j + 1) (i + (txT u).length + (sepL (f j)).length) (fun u hu => hg u (by simp [hu])) i2 d2
    have e : toks l (i + (txT u).length) = toks l (i + (txT u).length + (sepL (f j)).length) := by
      rw [toks_skip i1, toks_skip i2, d1, d2, sep_sk, Nat.add_assoc]
      simp only [Nat.add_assoc]
    refine ⟨⟨u.k, u.t, u.n, (i : Nat)⟩ :: vs, a, tok_n h t1 t2 t3 (by rw [e]; exact h1), ?_⟩
    rw [List.map_cons, List.map_cons, h2]
    rfl
theorem k3_at {ts ts' : List Tk} (h : ts'.map k3 = ts.map k3) (i : Nat) : k3 (tk ts' i) = k3 (tk ts i) := by
  have e : (ts'.map k3)[i]? = (ts.map k3)[i]? := by rw [h]
  rw [List.getElem?_map, List.getElem?_map] at e
  unfold tk
  cases h1 : ts'[i]? with
  | none =>
    cases h2 : ts[i]? with
    | none => rfl
    | some y => rw [h1, h2] at e; cases e
  | some x =>
    cases h2 : ts[i]? with
    | none => rw [h1, h2] at e; cases e
    | some y =>
      rw [h1, h2] at e
      exact Option.some.inj e
/-- a source, and its tokens with others between -/
theorem join_ok {l : List UInt8} (h0 : (tokensM l).2.1 = 0) {f : Nat → Nat} : ∃ us a, (tokensM l).1 = us ++ [⟨5, [], 0, a⟩] ∧ (∀ u, u ∈ us → ∃ m q, tokR m = .ok (u.k, u.t, u.n, q)) ∧
    ((joinT f 0 us).length ≤ 16384 → (tokensM (joinT f 0 us)).2.1 = 0 ∧ (tokensM (joinT f 0 us)).1.map k3 = (tokensM l).1.map k3) := by
  unfold tokensM at h0 ⊢
  by_cases hL : 16384 < l.length
  · rw [if_pos hL] at h0; cases h0
  · rw [if_neg hL] at h0 ⊢
    cases ht : toks l 0 with
    | error x =>
      rw [ht] at h0
      exact absurd h0 (toks_er _ 0 (Nat.zero_le _) (Nat.le_refl _) x ht)
    | ok r =>
      obtain ⟨us, a, rfl, hus⟩ := toks_good _ 0 (Nat.zero_le _) (Nat.le_refl _) ht
      refine ⟨us, a, rfl, hus, fun hj => ?_⟩
      obtain ⟨vs, b, h1, h2⟩ := toks_join (l := joinT f 0 us) us 0 0 hus (Nat.zero_le _) rfl
      rw [if_neg (by omega), h1]
      refine ⟨rfl, ?_⟩
      show (vs ++ [_]).map k3 = (us ++ [_]).map k3
      rw [List.map_append, List.map_append, h2]
      rfl
end Go.Proofs.YtmanockofcopjaaGreatDoor.Con
