/-
  Own work: ScanNotes.
-/
import Derived.Test.YticjmjmkmcljhaaDoorLaws
namespace Go.Proofs.YticjmjmkmcljhaaDoor.Con
open Go Go.RowKit Go.Kt Go.Kt.V Go.Proofs.YticjmjmkmcljhaaDoor.Vc
set_option linter.unusedSimpArgs false
set_option linter.unusedVariables false
set_option maxHeartbeats 4000000

/-- a note on a line of its own -/
def ext (m : List UInt8) : List UInt8 := 10 :: 47 :: 47 :: m
theorem sk_note {m : List UInt8} : ∀ {k : List UInt8}, (∀ c, c ∈ k → c ≠ 10) → skN true k = k.length
  | [], _ => rfl
  | c :: r, h => by
    have hc : (c != 10) = true := by simpa using h c (by simp)
    rw [skN, hc, sk_note (m := m) fun x hx => h x (by simp [hx]), List.length_cons]
    omega
theorem sk_ext0 {m : List UInt8} (hm : ∀ c, c ∈ m → c ≠ 10) (b : Bool) : skN b (ext m) = m.length + 3 := by
  have h1 : skN true (47 :: m) = m.length + 1 := by
    rw [sk_note (m := m)]
    · rfl
    · intro c hc
      rcases List.mem_cons.1 hc with rfl | hc
      · decide
      · exact hm c hc
  have h2 : skN false (47 :: 47 :: m) = m.length + 2 := by
    conv => lhs; rw [skN]
    rw [if_neg (by decide), if_pos (by simp), h1]
    omega
  have h3 : skN b (10 :: 47 :: 47 :: m) = 1 + skN false (47 :: 47 :: m) := by
    cases b with
    | true => conv => lhs; rw [skN]
              rfl
    | false =>
      conv => lhs; rw [skN]
      rw [if_pos (by decide)]
  unfold ext
  rw [h3, h2]
  omega
theorem sk_ext {m : List UInt8} (hm : ∀ c, c ∈ m → c ≠ 10) : ∀ (b : Bool) (l : List UInt8), (skN b l < l.length ∧ skN b (l ++ ext m) = skN b l) ∨ (skN b l = l.length ∧ skN b (l ++ ext m) = l.length + (m.length + 3))
  | b, [] => .inr ⟨by simp [skN], by rw [List.nil_append, sk_ext0 hm, List.length_nil, Nat.zero_add]⟩
  | true, c :: r => by
    rw [List.cons_append, skN, skN, List.length_cons]
    have := sk_ext hm (c != 10) r
    omega
  | false, c :: r => by
    rw [List.cons_append, skN, skN, List.length_cons]
    by_cases h1 : blankB c = true
    · rw [if_pos h1, if_pos h1]
      have := sk_ext hm false r
      omega
    · rw [if_neg h1, if_neg h1]
      have e : (r ++ ext m).head? = some 47 ↔ r.head? = some 47 := by
        cases r with
        | nil => simp [ext]
        | cons a b => simp
      by_cases h2 : (c == 47 && r.head? == some 47) = true
      · have h3 : (c == 47 && (r ++ ext m).head? == some 47) = true := by
          simp only [Bool.and_eq_true, beq_iff_eq] at h2 ⊢
          exact ⟨h2.1, e.2 h2.2⟩
        rw [if_pos h2, if_pos h3]
        have := sk_ext hm true r
        omega
      · have h3 : ¬ (c == 47 && (r ++ ext m).head? == some 47) = true := by
          simp only [Bool.and_eq_true, beq_iff_eq] at h2 ⊢
          exact fun h => h2 ⟨h.1, e.1 h.2⟩
        rw [if_neg h2, if_neg h3]
        exact .inl ⟨by omega, rfl⟩
theorem while_ext {p : UInt8 → Bool} (hp : p 10 = false) (m : List UInt8) : ∀ (l : List UInt8), (l ++ ext m).takeWhile p = l.takeWhile p
  | [] => by simp [ext, hp]
  | c :: r => by
    rw [List.cons_append, List.takeWhile_cons, List.takeWhile_cons, while_ext hp m r]
theorem tok_ext {m l : List UInt8} (hl : l ≠ []) : tokR (l ++ ext m) = tokR l := by
  cases l with
  | nil => exact absurd rfl hl
  | cons c r =>
    have hw := while_ext (p := wordB) (by decide) m (c :: r)
    have hd := while_ext (p := digitB) (by decide) m (c :: r)
    have hpm : parseM (c :: r ++ ext m) = parseM (c :: r) := by
      unfold parseM
      rw [hd]
      simp
    have hs2 : sign2 (c :: r ++ ext m) = sign2 (c :: r) := by
      cases r with
      | cons d r => rfl
      | nil =>
        show sign2 (c :: 10 :: 47 :: 47 :: m) = false
        by_cases hc : c = 10
        · subst hc; rfl
        · have : (10 == c) = false := by simpa using fun e : (10 : UInt8) = c => hc e.symm
          simp [sign2, this]
    have hsn : signN (c :: r ++ ext m) = signN (c :: r) := by
      unfold signN
      rw [hs2]
      rfl
    have hle := signN_le (m := c :: r)
    have e : tokR (c :: r ++ ext m) = if letterB c then wordR (c :: r ++ ext m) else if digitB c then numR (c :: r ++ ext m) else signR (c :: r ++ ext m) := rfl
    have e2 : tokR (c :: r) = if letterB c then wordR (c :: r) else if digitB c then numR (c :: r) else signR (c :: r) := rfl
    rw [e, e2]
    have a1 : wordR (c :: r ++ ext m) = wordR (c :: r) := by unfold wordR; rw [hw]
    have a2 : numR (c :: r ++ ext m) = numR (c :: r) := by unfold numR; rw [hw, hpm]
    have a3 : signR (c :: r ++ ext m) = signR (c :: r) := by
      unfold signR
      rw [hsn, List.take_append_of_le_length hle]
    rw [a1, a2, a3]
/-- the tokens, with a note behind -/
def noteR (n : Nat) : Except (Int × Nat) (List Tk) → Except (Int × Nat) (List Tk)
  | .error x => .error x
  | .ok r => .ok (r.dropLast ++ [⟨5, [], 0, (n : Nat)⟩])
theorem toks_ne {l : List UInt8} {i : Nat} (hi : i ≤ l.length) {r : List Tk} (h : toks l i = .ok r) : r ≠ [] := by
  rw [toks_step hi] at h
  split at h
  · injection h with h; rw [← h]; simp
  · split at h
    · cases h
    · split at h
      · cases h
      · injection h with h; rw [← h]; simp
theorem toks_ext {m l : List UInt8} (hm : ∀ c, c ∈ m → c ≠ 10) : ∀ (n i : Nat), i ≤ l.length → l.length - i ≤ n → toks (l ++ ext m) i = noteR (l.length + (m.length + 3)) (toks l i)
  | n, i, hi, hn => by
    have hel : (l ++ ext m).length = l.length + (m.length + 3) := by
      rw [List.length_append]
      rfl
    have hd : (l ++ ext m).drop i = l.drop i ++ ext m := List.drop_append_of_le_length hi
    have hdl : (l.drop i).length = l.length - i := List.length_drop
    rw [toks_step hi, toks_step (l := l ++ ext m) (i := i) (by omega), hel, hd]
    rcases sk_ext hm false (l.drop i) with ⟨h1, h2⟩ | ⟨h1, h2⟩
    · rw [h2, if_neg (by omega), if_neg (by omega)]
      generalize hj : i + skN false (l.drop i) = j at *
      have hjl : j < l.length := by omega
      have hd2 : (l ++ ext m).drop j = l.drop j ++ ext m := List.drop_append_of_le_length (by omega)
      have hne : l.drop j ≠ [] := by
        intro e
        have := congrArg List.length e
        rw [List.length_drop, List.length_nil] at this
        omega
      rw [hd2, tok_ext hne]
      cases hq : tokR (l.drop j) with
      | error e => rfl
      | ok q =>
        dsimp only
        have q1 := tok_len hq
        have q2 := tok_le hq
        rw [List.length_drop] at q2
        match n, hn with
        | 0, hn => omega
        | n + 1, hn =>
          rw [toks_ext hm n (j + q.2.2.2) (by omega) (by omega)]
          cases hr : toks l (j + q.2.2.2) with
          | error x => rfl
          | ok r =>
            have hrn := toks_ne (by omega) hr
            simp only [noteR]
            rw [List.dropLast_cons_of_ne_nil hrn]
            rfl
    · rw [h1, h2, if_pos (by omega), if_pos (by omega)]
      simp only [noteR, List.dropLast_singleton, List.nil_append]
      congr 4
      omega
theorem toks_err {l : List UInt8} : ∀ (n i : Nat), i ≤ l.length → l.length - i ≤ n → ∀ x, toks l i = .error x → x.1 ≠ 0
  | n, i, hi, hn, x, h => by
    rw [toks_step hi] at h
    split at h
    · cases h
    · split at h
      · rename_i e hq
        injection h with h
        subst h
        exact tok_err hq
      · rename_i q hq
        have q1 := tok_len hq
        have q2 := tok_le hq
        rw [List.length_drop] at q2
        split at h
        · rename_i y hy
          injection h with h
          subst h
          match n, hn with
          | 0, hn => omega
          | n + 1, hn => exact toks_err n _ (by omega) (by omega) _ hy
        · cases h
theorem filt_snoc {note : List UInt8} {n : Nat} {c : UInt8} (h : note[n]? = some c) : (note.take (n + 1)).filter (fun c => c != 10) = (note.take n).filter (fun c => c != 10) ++ (if c != 10 then [c] else []) := by
  rw [List.take_add_one, h, List.filter_append]
  congr 1
  cases hc : (c != 10) <;> simp [hc]
theorem notes_c {w : World} (l note : List UInt8) (hl : l.length ≤ 140737488351232) (hn : note.length ≤ 140737488351232) (hE : Er w) : Calls Tryd.prog 4 #[.string (T l), .string (T note)] w fun e w' => e = .returned (.bool true) ∧ Only [] w w' := by
  refine ret (pavanelaw04_ScanNotes_wp (T l) (T note) (fun v w' => v = .bool true ∧ Only [] w w') w ?_)
  unfold pavanelaw04_ScanNotes_vc
  rw [T_size, T_size]
  refine (small_c w hE).mono ?_
  rintro _ w0 ⟨rfl, hO0⟩
  refine ⟨true, rfl, fun _ => ⟨rfl, hO0⟩, fun hc => ?_⟩
  rw [Bool.or_eq_false_iff] at hc
  have hll : l.length ≤ 16384 := by have := of_decide_eq_false hc.1; omega
  have hnl : note.length ≤ 200 := by have := of_decide_eq_false hc.2; omega
  refine ⟨fun nv s i w' => ∃ n : Nat, n ≤ note.length ∧ i = (n : Int) ∧ nv = note.length - n ∧ s = T ((note.take n).filter fun c => c != 10) ∧ w' = w0, note.length, ⟨0, Nat.zero_le _, rfl, rfl, rfl, rfl⟩, ?_⟩
  rintro nv _ _ u ⟨n, hnn, rfl, rfl, rfl, hu⟩
  subst hu
  have hfl : ((note.take n).filter fun c => c != 10).length ≤ n := Nat.le_trans (List.length_filter_le _ _) (by rw [List.length_take]; exact Nat.min_le_left _ _)
  refine ⟨fun hlt => ?_, fun hge => ?_⟩
  · have hlt : n < note.length := by have := of_decide_eq_true hlt; omega
    have hx : note[n]? = some note[n] := List.getElem?_eq_getElem hlt
    generalize note[n] = c at hx
    have e10 : ((c.toNat : Int) != 10) = (c != 10) := by
      have : ((c.toNat : Int) == 10) = (c == 10) := u8i (d := 10)
      unfold bne
      rw [this]
    have hf := filt_snoc hx
    have hex : (T note).extract n (n + 1) = T [c] := by
      rw [T_ext, drop_cons hx, Nat.add_sub_cancel_left]; rfl
    refine ⟨fun s w' => s = T ((note.take (n + 1)).filter fun c => c != 10) ∧ w' = u, ?_, c, ⟨Int.natCast_nonneg n, by rw [T_get, Int.toNat_natCast, hx]⟩, ?_⟩
    · rintro _ _ ⟨rfl, rfl⟩
      exact ⟨note.length - (n + 1), by omega, n + 1, by omega, by rw [wr' (by omega) (by omega)]; rfl, rfl, rfl, rfl⟩
    rw [e10]
    refine ⟨fun hc => ⟨n, n + 1, ⟨rfl, by rw [wr' (by omega) (by omega)]; rfl, by omega, hlt⟩, ?_, ?_, rfl⟩, fun hc => ⟨?_, rfl⟩⟩
    · rw [hex, T_size, T_size, List.length_singleton]
      omega
    · rw [hex, T_app, hf, if_pos hc]
    · rw [hf, if_neg (by rw [hc]; decide), List.append_nil]
  have hne : n = note.length := by have := of_decide_eq_false hge; omega
  subst hne
  rw [List.take_of_length_le (Nat.le_refl _)] at hfl ⊢
  have hm : ∀ c, c ∈ (note.filter fun c => c != 10) → c ≠ 10 := fun c hc => by
    have := (List.mem_filter.1 hc).2
    simpa using this
  generalize (note.filter fun c => c != 10) = m at *
  have hml : m.length ≤ 200 := by omega
  refine (tokens_c l (hE.only hO0)).mono ?_
  rintro _ w3 ⟨l0, rfl, h0, hO3⟩
  have hO03 := hO0.tr0 hO3
  have e1 : T l ++ (ByteArray.mk #[10, 47, 47]) = T (l ++ [10, 47, 47]) := T_app l [10, 47, 47]
  refine ⟨l0, _, _, rfl, by omega, ?_, fun k6 w4 hk6 hk6' hO4 => ?_⟩
  · rw [e1, T_size, T_size, List.length_append]
    simp only [List.length_cons, List.length_nil]
    omega
  have e2 : l ++ [10, 47, 47] ++ m = l ++ ext m := by unfold ext; simp
  rw [e1, T_app, e2]
  refine (tokens_c (l ++ ext m) (hE.only (hO03.tr0 hO4))).mono ?_
  rintro _ w5 ⟨l1, rfl, h1, hO5⟩
  have z4 := hO4.size
  have z5 := hO5.size
  have hO05 := hO03.tr0 (hO4.tr0 hO5)
  have hel : (l ++ ext m).length = l.length + (m.length + 3) := by rw [List.length_append]; rfl
  rw [T_size, wr' (x := (l.length : Int) + (m.length : Int)) (by omega) (by omega), wr' (x := (l.length : Int) + (m.length : Int) + 3) (by omega) (by omega)]
  refine ⟨l1, _, _, rfl, hO5.same (by simp; omega), fun _ k7 w6 _ _ hO6 => ⟨rfl, hO05.tr0 hO6⟩, fun hsz => ?_⟩
  have hsz : l.length + (m.length + 3) ≤ 16384 := by
    simp only [Bool.not_true, Bool.false_or] at hsz
    have := of_decide_eq_false hsz
    omega
  have ht := toks_ext (l := l) hm l.length 0 (Nat.zero_le _) (by omega)
  have t1 : tokensM l = match toks l 0 with
    | .error x => ([], x.1, (x.2 : Nat))
    | .ok r => (r, 0, 0) := by
      rw [tokensM, if_neg (by omega)] <;> rfl
  have t2 : tokensM (l ++ ext m) = match toks (l ++ ext m) 0 with
    | .error x => ([], x.1, (x.2 : Nat))
    | .ok r => (r, 0, 0) := by
      rw [tokensM, if_neg (by omega)] <;> rfl
  rw [ht] at t2
  cases hr : toks l 0 with
  | error x =>
    rw [hr] at t1 t2
    simp only [noteR] at t2
    refine ⟨fun _ k8 w7 _ _ hO7 => ⟨?_, hO05.tr0 hO7⟩, fun he k9 w8 hk9 hk9' hO8 => ?_⟩
    · rw [t1, t2]; simp
    · rw [t1] at he
      exact absurd (by simpa using he) (toks_err l.length 0 (Nat.zero_le _) (by omega) x hr)
  | ok r =>
    have hrn := toks_ne (Nat.zero_le _) hr
    rw [hr] at t1 t2
    simp only [noteR] at t2
    dsimp only at t1 t2
    rw [t1] at h0
    rw [t2] at h1
    dsimp only at h0 h1
    have n0 := h0.len
    have n1 := h1.len
    rw [List.length_append, List.length_dropLast, List.length_singleton] at n1
    have hrl := List.length_pos_iff.2 hrn
    refine ⟨fun he => ?_, fun he k9 w8 hk9 hk9' hO8 => ⟨fun hb => ?_, fun hb => ?_⟩⟩
    · rw [t1] at he
      simp at he
    · exfalso
      rw [t2] at hb
      simp only [Bool.or_eq_true, beq_iff_eq, bne_iff_ne, ne_eq, not_true_eq_false, or_false] at hb
      omega
    have c0 := (h0.only (hO4.tr0 (hO5.tr0 hO8))).sl
    have c1 := (h1.only hO8).sl
    have cb0 := c0.cap
    have cb1 := c1.cap
    have cg0 := c0.big
    rw [wr' (x := (l0.n : Int) - 1) (by omega) (by omega)]
    refine ⟨r.length - 1, ⟨by omega, by omega⟩, r.length - 1, ⟨by omega, by omega⟩, fun w9 hO9 => ?_⟩
    have d0 := (c0.only rTk_ok (by decide) hO9 (by simp)).cut (lo := 0) (hi := r.length - 1) (m := l0.c) (Nat.zero_le _) (by omega) (by omega) (Nat.le_refl _)
    have d1 := (c1.only rTk_ok (by decide) hO9 (by simp)).cut (lo := 0) (hi := r.length - 1) (m := l1.c) (Nat.zero_le _) (by omega) (by omega) (Nat.le_refl _)
    rw [List.drop_zero, Nat.sub_zero] at d0 d1
    refine (rsame_c d0 d1).mono ?_
    rintro _ w10 ⟨rfl, hO10⟩
    have z8 := hO8.size
    have z9 := hO9.size
    have hsame : r.take (r.length - 1) = (r.dropLast ++ [(⟨5, [], 0, ((l.length + (m.length + 3) : Nat) : Int)⟩ : Tk)]).take (r.length - 1) := by
      rw [List.take_append_of_le_length (by rw [List.length_dropLast]; exact Nat.le_refl _), List.dropLast_eq_take, List.take_take, Nat.min_self]
    rw [decide_eq_true hsame]
    obtain ⟨ad, x, cs, g1, g2, g3, g4, g5, g6⟩ := (c1.only rTk_ok (by decide) (hO9.tr0 hO10) (by simp)).get (i := (l0.n : Int) - 1) (by omega) (by omega)
    have hx : x = ⟨5, [], 0, ((l.length + (m.length + 3) : Nat) : Int)⟩ := by
      have e : ((l0.n : Int) - 1).toNat = r.dropLast.length := by rw [List.length_dropLast]; omega
      rw [e, List.getElem?_append_right (Nat.le_refl _), Nat.sub_self] at g2
      injection g2 with g2
      exact g2.symm
    subst hx
    unfold rTk at g6
    subst g6
    refine ⟨true, rfl, hO10.same (by simp; omega), ad, fun _ => g1, 5, fun _ => g5.at1 0 _ rfl, ad, fun _ => g1, _, fun _ => g5.at1 3 _ rfl, ?_, hO05.tr0 (hO8.tr0 (hO9.tr0 hO10))⟩
    simp
    omega
end Go.Proofs.YticjmjmkmcljhaaDoor.Con
