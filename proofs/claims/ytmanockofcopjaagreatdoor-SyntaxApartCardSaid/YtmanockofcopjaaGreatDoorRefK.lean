
/-
  Own work: texts merged: Ref, Ref2, RefT.
-/
import Derived.Test.YtmanockofcopjaaGreatDoorCon4
namespace Go.Proofs.YtmanockofcopjaaGreatDoor.Con
open Go Go.RowKit Go.Kt Go.Kt.V Go.Proofs.YtmanockofcopjaaGreatDoor.Vc
set_option linter.unusedSimpArgs false
set_option linter.unusedVariables false
set_option maxHeartbeats 4000000

theorem rletter_c (w : World) (c : UInt8) : Calls Tryz.prog 82 #[.int .u8 (c.toNat : Int)] w fun e w' => e = .returned (.bool (letterB c)) ∧ Only [] w w' := by
  refine ret (pavaneref04_letter_wp _ (fun v w' => v = .bool (letterB c) ∧ Only [] w w') w ?_)
  unfold pavaneref04_letter_vc
  refine ⟨?_, Only.refl _ _⟩
  congr 1
  rw [Bool.eq_iff_iff]
  simp only [letterB, Bool.and_eq_true, Bool.or_eq_true, decide_eq_true_eq, beq_iff_eq]
  omega
theorem rdigit_c (w : World) (c : UInt8) : Calls Tryz.prog 83 #[.int .u8 (c.toNat : Int)] w fun e w' => e = .returned (.bool (digitB c)) ∧ Only [] w w' := by
  refine ret (pavaneref04_digit_wp _ (fun v w' => v = .bool (digitB c) ∧ Only [] w w') w ?_)
  unfold pavaneref04_digit_vc
  refine ⟨?_, Only.refl _ _⟩
  congr 1
  rw [Bool.eq_iff_iff]
  simp only [digitB, Bool.and_eq_true, decide_eq_true_eq]
  omega
theorem rwords_c (w : World) : Calls Tryz.prog 112 #[] w fun e w' => ∃ s : Sl, e = .returned s.v ∧ Own rTx 1 9 w.heap.size w' (fun _ => True) s wordsL ∧ Only [] w w' := by
  refine (pavaneref04_Words_wp (fun v w' => ∃ s : Sl, v = s.v ∧ Own rTx 1 9 w.heap.size w' (fun _ => True) s wordsL ∧ Only [] w w') w ?_).mono (by
    rintro e w' ⟨v, rfl, s, rfl, h⟩; exact ⟨s, rfl, h⟩)
  unfold pavaneref04_Words_vc
  obtain ⟨s, w', h1, h2, h3⟩ := buildS w wordsL (n := 16) rfl rfl (by decide) (by decide)
  exact ⟨s, w', h1, s, rfl, h2, h3⟩
theorem rword_c (w : World) (m : List UInt8) : Calls Tryz.prog 85 #[.string (T m)] w fun e w' => e = .returned (.bool (wordsL.contains m)) ∧ Only [] w w' := by
  refine ret (pavaneref04_Word_wp _ (fun v w' => v = .bool (wordsL.contains m) ∧ Only [] w w') w ?_)
  unfold pavaneref04_Word_vc
  refine (rwords_c w).mono ?_
  rintro _ w0 ⟨s, rfl, hs, hO0⟩
  have h := flatS hs
  generalize wordsL = l at *
  have hlen := h.len
  have hbig := h.big
  have hcap := h.cap
  refine ⟨s, rfl, fun nv i w' => ∃ n : Nat, n ≤ l.length ∧ i = (n : Int) ∧ nv = l.length - n ∧ (∀ x, x ∈ l.take n → x ≠ m) ∧ w' = w0, l.length, ⟨0, Nat.zero_le _, rfl, rfl, by simp, rfl⟩, ?_⟩
  rintro nv _ _ ⟨n, hn, rfl, rfl, hp, rfl⟩
  refine ⟨fun hc => ?_, fun hc => ?_⟩
  · have hlt : (n : Int) < s.n := of_decide_eq_true hc
    obtain ⟨ad, x, cs, g1, g2, g3, g4, g5, g6⟩ := h.get (Int.natCast_nonneg n) hlt
    rw [Int.toNat_natCast] at g2
    unfold rTx at g6
    subst g6
    refine ⟨ad, g1, _, g5, ?_⟩
    rw [T_eq]
    refine ⟨fun he => ⟨?_, hO0⟩, fun he => ⟨l.length - (n + 1), by omega, n + 1, by omega, by rw [wr' (by omega) (by omega)]; rfl, rfl, ?_, rfl⟩⟩
    · have he : x = m := of_decide_eq_true he
      congr 1
      symm
      rw [List.contains_iff_mem, ← he]
      exact List.mem_of_getElem? g2
    · intro y hy
      rw [List.take_add_one, g2] at hy
      simp only [Option.toList_some, List.mem_append, List.mem_singleton] at hy
      rcases hy with hy | rfl
      · exact hp y hy
      · exact of_decide_eq_false he
  · have hge : ¬ ((n : Int) < s.n) := of_decide_eq_false hc
    rw [List.take_of_length_le (by omega)] at hp
    refine ⟨?_, hO0⟩
    congr 1
    symm
    rw [Bool.eq_false_iff]
    intro hh
    exact hp m (List.contains_iff_mem.1 hh) rfl
theorem rrow_c (w : World) (l : List UInt8) (i : Nat) (hi : i ≤ l.length) (hl : l.length < 4611686018427387903) :
    Calls Tryz.prog 84 #[.string (T l), .int .i64 (i : Int)] w fun e w' => e = .returned (.int .i64 (((l.drop i).takeWhile wordB).length : Int)) ∧ Only [] w w' := by
  refine ret (pavaneref04_row_wp (T l) i (fun v w' => v = .int .i64 (((l.drop i).takeWhile wordB).length : Int) ∧ Only [] w w') w ?_)
  unfold pavaneref04_row_vc
  rw [T_size]
  have hdl : (l.drop i).length = l.length - i := List.length_drop
  refine ⟨fun k w' => k = (((l.drop i).takeWhile wordB).length : Int) ∧ Only [] w w', fun k w' h => ⟨by rw [h.1], h.2⟩, fun nv k w' => ∃ n : Nat, i + n ≤ l.length ∧ k = (n : Int) ∧ nv = l.length - (i + n) ∧ (∀ x, x ∈ (l.drop i).take n → wordB x = true) ∧ Only [] w w', l.length - i, ⟨0, hi, rfl, rfl, by simp, Only.refl _ _⟩, ?_⟩
  rintro nv _ w1 ⟨n, hn, rfl, rfl, hp, hO1⟩
  rw [wr' (x := (i : Int) + n) (by omega) (by omega)]
  have ein : (i : Int) + n = ((i + n : Nat) : Int) := by omega
  rw [ein]
  refine ⟨fun hc => ?_, fun hc => ⟨?_, hO1⟩⟩
  · have hlt : i + n < l.length := by have := of_decide_eq_true hc; omega
    have hx : l[i + n]? = some l[i + n] := List.getElem?_eq_getElem hlt
    generalize l[i + n] = x at hx
    have hx' : (l.drop i)[n]? = some x := by rw [List.getElem?_drop, hx]
    have hg : (T l)[Int.toNat ((i + n : Nat) : Int)]? = some x := by rw [T_get, Int.toNat_natCast, hx]
    refine ⟨x, ⟨Int.natCast_nonneg _, hg⟩, (rletter_c w1 x).mono ?_⟩
    rintro _ w2 ⟨rfl, hO2⟩
    refine ⟨_, rfl, x, ⟨Int.natCast_nonneg _, hg⟩, (rdigit_c w2 x).mono ?_⟩
    rintro _ w3 ⟨rfl, hO3⟩
    have hO := hO1.tr0 (hO2.tr0 hO3)
    have e : ((!letterB x) && (!digitB x)) = !wordB x := by unfold wordB; rw [Bool.not_or]
    refine ⟨_, rfl, ?_⟩
    rw [e]
    refine ⟨fun hw => ⟨?_, hO⟩, fun hw => ⟨l.length - (i + (n + 1)), by omega, n + 1, by omega, by rw [wr' (by omega) (by omega)]; rfl, rfl, fun y hy => ?_, hO⟩⟩
    · rw [take_while (by omega) hp fun y hy => by
        rw [hx'] at hy
        injection hy with hy
        subst hy
        simpa using hw]
      rw [List.length_take]
      omega
    · rw [List.take_add_one, hx'] at hy
      simp only [Option.toList_some, List.mem_append, List.mem_singleton] at hy
      rcases hy with hy | rfl
      · exact hp y hy
      · simpa using hw
  · have hge : l.length ≤ i + n := by have := of_decide_eq_false hc; omega
    rw [take_while (by omega) hp fun y hy => by
      have := (List.getElem?_eq_some_iff.1 hy).1
      omega]
    rw [List.length_take]
    omega
theorem blank_or (c : UInt8) : (((((c.toNat : Int) == 9) || ((c.toNat : Int) == 10)) || ((c.toNat : Int) == 13)) || ((c.toNat : Int) == 32)) = blankB c := by
  have h9 : ((c.toNat : Int) == 9) = (c == 9) := u8i (d := 9)
  have h10 : ((c.toNat : Int) == 10) = (c == 10) := u8i (d := 10)
  have h13 : ((c.toNat : Int) == 13) = (c == 13) := u8i (d := 13)
  have h32 : ((c.toNat : Int) == 32) = (c == 32) := u8i (d := 32)
  rw [h9, h10, h13, h32, Bool.eq_iff_iff]
  simp [blankB, or_assoc]
theorem rblanks_c (w : World) (l : List UInt8) (i : Nat) (hi : i ≤ l.length) (hl : l.length < 4611686018427387903) :
    Calls Tryz.prog 43 #[.string (T l), .int .i64 (i : Int)] w fun e w' => e = .returned (.int .i64 ((i + skN false (l.drop i) : Nat) : Int)) ∧ Only [] w w' := by
  refine ret (pavaneref04_blanks_wp (T l) i (fun v w' => v = .int .i64 ((i + skN false (l.drop i) : Nat) : Int) ∧ Only [] w w') w ?_)
  unfold pavaneref04_blanks_vc
  rw [T_size]
  refine ⟨fun k w' => k = ((i + skN false (l.drop i) : Nat) : Int) ∧ w' = w, fun k w' h => ⟨by rw [h.1], by rw [h.2]; exact Only.refl _ _⟩, fun nv k w' => ∃ j : Nat, j ≤ l.length ∧ k = (j : Int) ∧ nv = l.length - j ∧ i + skN false (l.drop i) = j + skN false (l.drop j) ∧ w' = w, l.length - i, ⟨i, hi, rfl, rfl, rfl, rfl⟩, ?_⟩
  rintro nv _ u ⟨j, hj, rfl, rfl, hjs, hu⟩
  subst hu
  refine ⟨fun hc => ?_, fun hc => ⟨?_, rfl⟩⟩
  · have hlt : j < l.length := by have := of_decide_eq_true hc; omega
    have hx : l[j]? = some l[j] := List.getElem?_eq_getElem hlt
    generalize l[j] = x at hx
    have hd := drop_cons hx
    have e47 : ((x.toNat : Int) == 47) = (x == 47) := u8i (d := 47)
    rw [wr' (x := (j : Int) + 1) (by omega) (by omega)]
    -- the next byte, if there is one
    obtain ⟨y, hy⟩ : ∃ y : UInt8, j + 1 < l.length → l[j + 1]? = some y := by
      by_cases h : j + 1 < l.length
      · exact ⟨l[j + 1], fun _ => List.getElem?_eq_getElem h⟩
      · exact ⟨0, fun h' => absurd h' h⟩
    have e2 : ((y.toNat : Int) == 47) = (y == 47) := u8i (d := 47)
    refine ⟨x, ⟨Int.natCast_nonneg j, by rw [T_get, Int.toNat_natCast, hx]⟩, y, fun h => ⟨by omega, ?_⟩, ?_⟩
    · rw [Bool.and_eq_true] at h
      have := of_decide_eq_true h.2
      rw [show (j : Int) + 1 = ((j + 1 : Nat) : Int) by omega, T_get, Int.toNat_natCast]
      exact hy (by omega)
    rw [e47, e2, blank_or]
    refine ⟨fun hs => ?_, fun hs => ⟨fun hb => ⟨l.length - (j + 1), by omega, j + 1, by omega, rfl, rfl, ?_, rfl⟩, fun hb => ⟨?_, rfl⟩⟩⟩
    · simp only [Bool.and_eq_true, decide_eq_true_eq, beq_iff_eq] at hs
      obtain ⟨⟨rfl, h1⟩, rfl⟩ := hs
      have h1 : j + 1 < l.length := by omega
      have hd2 := drop_cons (hy h1)
      have ht : (l.drop j).take 2 = [47, 47] := by rw [hd, hd2]; rfl
      have hk := skN_slash ht
      have hdl : (l.drop j).length = l.length - j := List.length_drop
      refine ⟨fun nv k w' => ∃ n : Nat, j + n ≤ l.length ∧ k = ((j + n : Nat) : Int) ∧ nv = l.length - (j + n) ∧ (∀ x, x ∈ (l.drop j).take n → (x != 10) = true) ∧ w' = u, l.length - j, ⟨0, hj, rfl, rfl, by simp, rfl⟩, ?_⟩
      rintro nv _ _ ⟨n, hn, rfl, rfl, hp, rfl⟩
      obtain ⟨z, hz⟩ : ∃ z : UInt8, j + n < l.length → l[j + n]? = some z := by
        by_cases h : j + n < l.length
        · exact ⟨l[j + n], fun _ => List.getElem?_eq_getElem h⟩
        · exact ⟨0, fun h' => absurd h' h⟩
      have e10 : ((z.toNat : Int) != 10) = (z != 10) := by
        have : ((z.toNat : Int) == 10) = (z == 10) := u8i (d := 10)
        unfold bne
        rw [this]
      refine ⟨z, fun h => ⟨Int.natCast_nonneg _, by rw [T_get, Int.toNat_natCast]; exact hz (by have := of_decide_eq_true h; omega)⟩, ?_⟩
      rw [e10]
      refine ⟨fun h => ?_, fun h => ?_⟩
      · rw [Bool.and_eq_true] at h
        have h1 := of_decide_eq_true h.1
        have hzz : (l.drop j)[n]? = some z := by rw [List.getElem?_drop]; exact hz (by omega)
        refine ⟨l.length - (j + (n + 1)), by omega, n + 1, by omega, by rw [wr' (by omega) (by omega)]; omega, rfl, fun q hq => ?_, rfl⟩
        rw [List.take_add_one, hzz] at hq
        simp only [Option.toList_some, List.mem_append, List.mem_singleton] at hq
        rcases hq with hq | rfl
        · exact hp q hq
        · exact h.2
      · have hw : (l.drop j).takeWhile (· != 10) = (l.drop j).take n := take_while (by omega) hp fun q hq => by
          have h1 := (List.getElem?_eq_some_iff.1 hq).1
          rw [List.getElem?_drop, hz (by omega)] at hq
          injection hq with hq
          subst hq
          rw [decide_eq_true (by omega), Bool.true_and] at h
          exact h
        have hwl : ((l.drop j).takeWhile (· != 10)).length = n := by rw [hw, List.length_take]; omega
        have hpos : 0 < n := by
          rw [← hwl, hd, List.takeWhile_cons, if_pos (by decide), List.length_cons]
          omega
        rw [hwl, List.drop_drop] at hk
        exact ⟨l.length - (j + n), by omega, j + n, hn, rfl, rfl, by rw [hjs, hk]; omega, rfl⟩
    · rw [hjs, hd, skN, if_pos hb]; omega
    · have hz : skN false (l.drop j) = 0 := by
        rw [hd, skN, if_neg (by rw [hb]; decide), if_neg]
        intro hh
        simp only [Bool.and_eq_true, beq_iff_eq] at hh
        obtain ⟨rfl, hh⟩ := hh
        have h1 : j + 1 < l.length := by
          cases hr : l.drop (j + 1) with
          | nil => rw [hr] at hh; simp at hh
          | cons a b =>
            have := congrArg List.length hr
            rw [List.length_drop, List.length_cons] at this
            omega
        rw [drop_cons (hy h1)] at hh
        simp only [List.head?_cons, Option.some.injEq] at hh
        subst hh
        rw [decide_eq_true (by omega)] at hs
        simp at hs
      rw [hjs, hz]; rfl
  · have hge : l.length ≤ j := by have := of_decide_eq_false hc; omega
    rw [hjs, List.drop_of_length_le hge]; rfl
end Go.Proofs.YtmanockofcopjaaGreatDoor.Con

namespace Go.Proofs.YtmanockofcopjaaGreatDoor.Con
open Go Go.RowKit Go.Kt Go.Kt.V Go.Proofs.YtmanockofcopjaaGreatDoor.Vc
set_option linter.unusedSimpArgs false
set_option linter.unusedVariables false
set_option maxHeartbeats 4000000

def longL : List (List UInt8) := [[45, 62], [60, 61], [62, 61], [61, 61], [33, 61], [38, 38], [124, 124]]
theorem sign2_long {c d : UInt8} {r : List UInt8} : sign2 (c :: d :: r) = longL.contains [c, d] := by
  rw [Bool.eq_iff_iff]
  simp [sign2, longL]
  constructor
  · rintro ((⟨rfl, h⟩ | ⟨rfl, h⟩) | ⟨rfl, rfl⟩)
    · rcases h with rfl | rfl | rfl | rfl <;> simp
    · rcases h with rfl | rfl <;> simp
    · simp
  · rintro (⟨rfl, rfl⟩ | ⟨rfl, rfl⟩ | ⟨rfl, rfl⟩ | ⟨rfl, rfl⟩ | ⟨rfl, rfl⟩ | ⟨rfl, rfl⟩ | ⟨rfl, rfl⟩) <;> simp
theorem signN_two {m : List UInt8} (h : sign2 m = true) : signN m = 2 := by unfold signN; rw [if_pos h]
theorem signN_one {c : UInt8} {r : List UInt8} (h : sign2 (c :: r) = false) : signN (c :: r) = if shortL.contains c then 1 else 0 := by
  unfold signN
  rw [if_neg (by rw [h]; decide)]
theorem rsign_c (w : World) (l : List UInt8) (i : Nat) (hi : i < l.length) (hl : l.length < 4611686018427387903) :
    Calls Tryz.prog 87 #[.string (T l), .int .i64 (i : Int)] w fun e w' => e = .returned (.int .i64 (signN (l.drop i) : Int)) ∧ Only [] w w' := by
  refine ret (pavaneref04_sign_wp (T l) i (fun v w' => v = .int .i64 (signN (l.drop i) : Int) ∧ Only [] w w') w ?_)
  unfold pavaneref04_sign_vc
  rw [T_size]
  obtain ⟨s, w0, k1, k2, hO0⟩ := buildS w longL (n := 7) (parts := #[(0, .string (ByteArray.mk #[45, 62])), (1, .string (ByteArray.mk #[60, 61])), (2, .string (ByteArray.mk #[62, 61])), (3, .string (ByteArray.mk #[61, 61])), (4, .string (ByteArray.mk #[33, 61])), (5, .string (ByteArray.mk #[38, 38])), (6, .string (ByteArray.mk #[124, 124]))]) rfl rfl (by decide) (by decide)
  have hs := flatS k2
  have hx : l[i]? = some l[i] := List.getElem?_eq_getElem hi
  generalize l[i] = c at hx
  have hd := drop_cons hx
  have hdl : (l.drop i).length = l.length - i := List.length_drop
  have hlen := hs.len
  rw [wr' (x := (i : Int) + 2) (by omega) (by omega)]
  refine ⟨s, w0, k1, fun nv k w' => ∃ n : Nat, n ≤ longL.length ∧ k = (n : Int) ∧ nv = longL.length - n ∧ (2 ≤ (l.drop i).length → ∀ x, x ∈ longL.take n → x ≠ (l.drop i).take 2) ∧ Only [] w0 w', longL.length, ⟨0, Nat.zero_le _, rfl, rfl, by simp, Only.refl _ _⟩, ?_⟩
  rintro nv _ w1 ⟨n, hn, rfl, rfl, hp, hO1⟩
  refine ⟨fun hc => ?_, fun hc => ?_⟩
  · have hlt : (n : Int) < s.n := of_decide_eq_true hc
    obtain ⟨ad, x, cs, g1, g2, g3, g4, g5, g6⟩ := (SliceF.only rTx_ok (by decide) hs hO1 (by simp)).get (Int.natCast_nonneg n) hlt
    rw [Int.toNat_natCast] at g2
    unfold rTx at g6
    subst g6
    have hn7 : longL.length = 7 := rfl
    refine ⟨i, i + 2, fun h => ⟨rfl, by omega, by omega, by have := of_decide_eq_true h; omega⟩, ad, fun _ => g1, _, fun _ => g5, ?_⟩
    have ex : (T l).extract i (i + 2) = T ((l.drop i).take 2) := by rw [T_ext, show i + 2 - i = 2 by omega]
    rw [ex, T_eq]
    refine ⟨fun h w2 hO2 => ⟨?_, hO0.tr0 (hO1.tr0 hO2)⟩, fun h w3 hO3 => ⟨longL.length - (n + 1), by omega, n + 1, by omega, by rw [wr' (by omega) (by omega)]; rfl, rfl, fun h2 y hy => ?_, hO1.tr0 hO3⟩⟩
    · rw [Bool.and_eq_true] at h
      have h1 := of_decide_eq_true h.1
      have h2 := of_decide_eq_true h.2
      have hs2 : sign2 (l.drop i) = true := by
        cases hr : l.drop (i + 1) with
        | nil =>
          have := congrArg List.length hr
          rw [List.length_drop, List.length_nil] at this
          omega
        | cons d r =>
          rw [hd, hr] at h2 ⊢
          rw [sign2_long, List.contains_iff_mem]
          have : (c :: d :: r).take 2 = [c, d] := rfl
          rw [← this, h2]
          exact List.mem_of_getElem? g2
      rw [signN_two hs2]; rfl
    · rw [List.take_add_one, g2] at hy
      simp only [Option.toList_some, List.mem_append, List.mem_singleton] at hy
      rcases hy with hy | rfl
      · exact hp h2 y hy
      · rw [decide_eq_true (by omega), Bool.true_and] at h
        exact fun e => of_decide_eq_false h e.symm
  · have hge : ¬ ((n : Int) < s.n) := of_decide_eq_false hc
    rw [List.take_of_length_le (by omega)] at hp
    have hs2 : sign2 (l.drop i) = false := by
      cases hr : l.drop (i + 1) with
      | nil => rw [hd, hr]; rfl
      | cons d r =>
        rw [hd, hr, sign2_long, Bool.eq_false_iff]
        intro h
        rw [List.contains_iff_mem] at h
        have h2 : 2 ≤ (l.drop i).length := by rw [hd, hr]; simp
        exact hp h2 _ h (by rw [hd, hr]; rfl)
    have hsn : signN (l.drop i) = if shortL.contains c then 1 else 0 := by
      rw [hd] at hs2 ⊢
      exact signN_one hs2
    rw [hsn]
    refine ⟨fun nv k w' => ∃ n : Nat, n ≤ 17 ∧ k = (n : Int) ∧ nv = 17 - n ∧ (∀ x, x ∈ shortL.take n → x ≠ c) ∧ Only [] w w', 17, ⟨0, Nat.zero_le _, rfl, rfl, by simp, hO0.tr0 hO1⟩, ?_⟩
    rintro nv _ w4 ⟨n, hn, rfl, rfl, hp, hO4⟩
    refine ⟨fun hc => ?_, fun hc => ⟨?_, hO4⟩⟩
    · have hlt : n < 17 := by have := of_decide_eq_true hc; omega
      have hy : shortL[n]? = some (shortL[n]'hlt) := List.getElem?_eq_getElem hlt
      generalize shortL[n]'hlt = y at hy
      refine ⟨c, ⟨Int.natCast_nonneg i, by rw [T_get, Int.toNat_natCast, hx]⟩, y, ⟨Int.natCast_nonneg n, by
        have e : (ByteArray.mk #[123, 125, 40, 41, 91, 93, 59, 44, 61, 43, 45, 42, 47, 37, 60, 62, 33]) = T shortL := rfl
        rw [e, T_get, Int.toNat_natCast, hy]⟩, ?_⟩
      rw [u8i]
      refine ⟨fun h w5 hO5 => ⟨?_, hO4.tr0 hO5⟩, fun h w6 hO6 => ⟨17 - (n + 1), by omega, n + 1, by omega, by rw [wr' (by omega) (by omega)]; rfl, rfl, fun q hq => ?_, hO4.tr0 hO6⟩⟩
      · have h : c = y := by simpa using h
        rw [if_pos]
        · rfl
        · rw [List.contains_iff_mem, h]
          exact List.mem_of_getElem? hy
      · rw [List.take_add_one, hy] at hq
        simp only [Option.toList_some, List.mem_append, List.mem_singleton] at hq
        rcases hq with hq | rfl
        · exact hp q hq
        · rintro rfl
          simp at h
    · have hge : n = 17 := by have := of_decide_eq_false hc; omega
      subst hge
      rw [if_neg]
      · rfl
      · intro h
        rw [List.contains_iff_mem] at h
        exact hp c (by rw [List.take_of_length_le (by decide)]; exact h) rfl
theorem decV_snoc {ds : List UInt8} {x : UInt8} : decV 0 (ds ++ [x]) = decV 0 ds * 10 + (x.toNat - 48) := by
  unfold decV
  rw [List.foldl_append]; rfl
theorem decV_take {ds : List UInt8} {n : Nat} : decV 0 (ds.take n) ≤ decV 0 ds := by
  have : decV 0 ds = decV (decV 0 (ds.take n)) (ds.drop n) := by
    unfold decV
    rw [← List.foldl_append, List.take_append_drop]
  rw [this]
  exact decV_ge _ _
theorem rparse_c (w : World) (l : List UInt8) (hl : l.length < 4611686018427387903) :
    Calls Tryz.prog 86 #[.string (T l)] w fun e w' => e = .returned (.tuple #[.int .i64 (parseM l).1, .int .i64 (parseM l).2.1, .int .i64 (parseM l).2.2]) ∧ Only [] w w' := by
  refine ret (pavaneref03_Parse_wp (T l) (fun v w' => v = .tuple #[.int .i64 (parseM l).1, .int .i64 (parseM l).2.1, .int .i64 (parseM l).2.2] ∧ Only [] w w') w ?_)
  unfold pavaneref03_Parse_vc
  rw [T_size]
  refine ⟨fun h0 => ⟨?_, Only.refl _ _⟩, fun h0 => ?_⟩
  · have h0 : l = [] := List.eq_nil_of_length_eq_zero (by have : (l.length : Int) = 0 := by simpa using h0
                                                          omega)
    rw [parseM, if_pos h0]; rfl
  have h0 : ¬ l = [] := by
    rintro rfl
    simp at h0
  refine ⟨fun nv j w' => ∃ n : Nat, n ≤ l.length ∧ j = (n : Int) ∧ nv = l.length - n ∧ (∀ x, x ∈ l.take n → digitB x = true) ∧ w' = w, l.length, ⟨0, Nat.zero_le _, rfl, rfl, by simp, rfl⟩, ?_⟩
  rintro nv _ u ⟨n, hn, rfl, rfl, hp, hu⟩
  subst hu
  obtain ⟨z, hz⟩ : ∃ z : UInt8, n < l.length → l[n]? = some z := by
    by_cases h : n < l.length
    · exact ⟨l[n], fun _ => List.getElem?_eq_getElem h⟩
    · exact ⟨0, fun h' => absurd h' h⟩
  have hg : n < l.length → 0 ≤ (n : Int) ∧ (T l)[Int.toNat (n : Int)]? = some z := fun h => ⟨Int.natCast_nonneg n, by rw [T_get, Int.toNat_natCast]; exact hz h⟩
  refine ⟨z, fun h => hg (by have := of_decide_eq_true h; omega), z, fun h => hg (by
    rw [Bool.and_eq_true] at h
    have := of_decide_eq_true h.1; omega), ?_⟩
  have ed : ((((decide ((n : Int) < (l.length : Int))) && (decide ((z.toNat : Int) ≥ 48))) && (decide ((z.toNat : Int) ≤ 57)))) = (decide (n < l.length) && digitB z) := by
    rw [Bool.eq_iff_iff]
    simp only [digitB, Bool.and_eq_true, decide_eq_true_eq]
    omega
  rw [ed]
  refine ⟨fun h => ?_, fun h => ?_⟩
  · rw [Bool.and_eq_true] at h
    have h1 : n < l.length := of_decide_eq_true h.1
    refine ⟨l.length - (n + 1), by omega, n + 1, by omega, by rw [wr' (by omega) (by omega)]; rfl, rfl, fun y hy => ?_, rfl⟩
    rw [List.take_add_one, hz h1] at hy
    simp only [Option.toList_some, List.mem_append, List.mem_singleton] at hy
    rcases hy with hy | rfl
    · exact hp y hy
    · exact h.2
  have hds : l.takeWhile digitB = l.take n := take_while hn hp fun y hy => by
    have h1 := (List.getElem?_eq_some_iff.1 hy).1
    rw [hz h1] at hy
    injection hy with hy
    subst hy
    rw [decide_eq_true h1, Bool.true_and] at h
    exact h
  have hdl : (l.takeWhile digitB).length = n := by rw [hds, List.length_take]; omega
  obtain ⟨x, r, rfl⟩ : ∃ x r, l = x :: r := by
    cases l with
    | nil => exact absurd rfl h0
    | cons x r => exact ⟨x, r, rfl⟩
  refine ⟨x, fun _ _ => ⟨Int.le_refl _, by rw [T_get]; rfl⟩, ?_⟩
  have e48 : ((x.toNat : Int) == 48) = (x == 48) := u8i (d := 48)
  have eb : (((n : Int) == 0) || ((decide ((n : Int) > 1)) && ((x.toNat : Int) == 48))) = decide ((x :: r).takeWhile digitB = [] ∨ (1 < ((x :: r).takeWhile digitB).length ∧ (x :: r).head? = some 48)) := by
    rw [e48, hdl, Bool.eq_iff_iff]
    simp only [Bool.and_eq_true, Bool.or_eq_true, decide_eq_true_eq, beq_iff_eq, List.head?_cons, Option.some.injEq]
    have : (x :: r).takeWhile digitB = [] ↔ n = 0 := by
      constructor
      · intro e; rw [e] at hdl; exact hdl.symm
      · intro e; rw [e] at hdl; exact List.eq_nil_of_length_eq_zero hdl
    rw [this]
    by_cases hx : x = 48
    · simp only [hx, and_true]; omega
    · simp only [hx, and_false, or_false]; omega
  rw [eb]
  refine ⟨fun hb => ⟨?_, Only.refl _ _⟩, fun hb => ?_⟩
  · rw [parseM, if_neg h0, if_pos (of_decide_eq_true hb)]; rfl
  have hb := of_decide_eq_false hb
  refine ⟨fun nv v j w' => ∃ q : Nat, q ≤ n ∧ j = (q : Int) ∧ nv = n - q ∧ v = (decV 0 ((x :: r).take q) : Int) ∧ decV 0 ((x :: r).take q) < 9223372036854775808 ∧ Only [] u w', n, ⟨0, Nat.zero_le _, rfl, rfl, rfl, by rw [List.take_zero]; decide, Only.refl _ _⟩, ?_⟩
  rintro nv _ _ w1 ⟨q, hq, rfl, rfl, rfl, hv, hO1⟩
  refine ⟨fun hc => ?_, fun hc => ⟨?_, hO1⟩⟩
  · have hlt : q < n := by have := of_decide_eq_true hc; omega
    have hy : (x :: r)[q]? = some ((x :: r)[q]'(by omega)) := List.getElem?_eq_getElem (by omega)
    generalize (x :: r)[q]'(by omega) = y at hy
    have hyd : digitB y = true := hp y (by
      rw [List.mem_iff_getElem?]
      exact ⟨q, by rw [List.getElem?_take, if_pos hlt, hy]⟩)
    simp only [digitB, Bool.and_eq_true, decide_eq_true_eq] at hyd
    have e1 : IntKind.wrap .u8 ((y.toNat : Int) - 48) = (y.toNat : Int) - 48 := by
      have h : ∀ n : Fin 256, 48 ≤ n.val → IntKind.wrap .u8 ((n.val : Int) - 48) = (n.val : Int) - 48 := by decide +kernel
      exact h ⟨y.toNat, y.toNat_lt⟩ hyd.1
    have et : (9223372036854775807 - ((y.toNat : Int) - 48)).tdiv 10 = (9223372036854775807 - ((y.toNat : Int) - 48)) / 10 := Int.tdiv_eq_ediv_of_nonneg (by omega)
    have es : (x :: r).take (q + 1) = (x :: r).take q ++ [y] := by rw [List.take_add_one, hy]; rfl
    have ev : decV 0 ((x :: r).take (q + 1)) = decV 0 ((x :: r).take q) * 10 + (y.toNat - 48) := by rw [es, decV_snoc]
    refine ⟨y, ⟨Int.natCast_nonneg q, by rw [T_get, Int.toNat_natCast, hy]⟩, ?_⟩
    rw [e1, wr' (x := (y.toNat : Int) - 48) (by omega) (by omega), wr' (x := 9223372036854775807 - ((y.toNat : Int) - 48)) (by omega) (by omega), et, wr' (x := (9223372036854775807 - ((y.toNat : Int) - 48)) / 10) (by omega) (by omega)]
    refine ⟨fun hgt => ⟨?_, hO1⟩, fun hgt => ⟨n - (q + 1), by omega, q + 1, by omega, by rw [wr' (by omega) (by omega)]; rfl, rfl, ?_, ?_, hO1⟩⟩
    · have hgt := of_decide_eq_true hgt
      have h1 : decV 0 ((x :: r).take (q + 1)) ≤ decV 0 ((x :: r).take n) := by
        have := decV_take (ds := (x :: r).take n) (n := q + 1)
        rw [List.take_take, Nat.min_eq_left (by omega)] at this
        exact this
      rw [parseM, if_neg h0, if_neg hb, if_neg (by rw [hds]; omega)]; rfl
    · have hgt := of_decide_eq_false hgt
      rw [ev, wr' (x := 10 * (decV 0 ((x :: r).take q) : Int)) (by omega) (by omega), wr' (by omega) (by omega)]
      omega
    · have hgt := of_decide_eq_false hgt
      rw [ev]
      omega
  · have hqn : q = n := by have := of_decide_eq_false hc; omega
    subst hqn
    rw [parseM, if_neg h0, if_neg hb, if_pos (by rw [hds]; exact hv), hdl, hds]
end Go.Proofs.YtmanockofcopjaaGreatDoor.Con

namespace Go.Proofs.YtmanockofcopjaaGreatDoor.Con
open Go Go.RowKit Go.Kt Go.Kt.V Go.Proofs.YtmanockofcopjaaGreatDoor.Vc
set_option linter.unusedSimpArgs false
set_option linter.unusedVariables false
set_option maxHeartbeats 4000000

/-- what token tells -/
def RTok (i : Nat) (r : Except Int Tq) (v : Value) : Prop := match r with
  | .error e => v = .tuple #[.agg #[.int .i64 0, .string (T []), .int .i64 0, .int .i64 0], .int .i64 0, .int .i64 e]
  | .ok q => v = .tuple #[.agg #[.int .i64 q.1, .string (T q.2.1), .int .i64 q.2.2.1, .int .i64 (i : Int)], .int .i64 (q.2.2.2 : Int), .int .i64 0]
theorem rtoken_c (w : World) (l : List UInt8) (i : Nat) (hi : i < l.length) (hl : l.length ≤ 16384) :
    Calls Tryz.prog 44 #[.string (T l), .int .i64 (i : Int)] w fun e w' => ∃ v, e = .returned v ∧ RTok i (tokR (l.drop i)) v ∧ Only [] w w' := by
  refine pavaneref04_token_wp (T l) i (fun v w' => RTok i (tokR (l.drop i)) v ∧ Only [] w w') w ?_
  unfold pavaneref04_token_vc
  have hx : l[i]? = some l[i] := List.getElem?_eq_getElem hi
  generalize l[i] = x at hx
  have hdl : (l.drop i).length = l.length - i := List.length_drop
  have ht : tokR (l.drop i) = if letterB x then wordR (l.drop i) else if digitB x then numR (l.drop i) else signR (l.drop i) := by
    rw [drop_cons hx]; rfl
  rw [ht]
  have hg : 0 ≤ (i : Int) ∧ (T l)[Int.toNat (i : Int)]? = some x := ⟨Int.natCast_nonneg i, by rw [T_get, Int.toNat_natCast, hx]⟩
  refine ⟨x, hg, fun k1 w0 hk1 hk1' hO0 => (rletter_c w0 x).mono ?_⟩
  rintro _ w1 ⟨rfl, hO1⟩
  have new : ∀ {u u' : World}, Only [] w u → Only [k1] u u' → Only [] w u' := fun h k => h.trans k fun y hy => .inr (by simp only [List.mem_singleton] at hy; omega)
  have sm : ∀ {u u' : World}, Only [] w0 u → Only [] u u' → Same [k1] u u' := fun h0 h => h.same (by have := h0.size; simp; omega)
  refine ⟨_, rfl, sm (Only.refl _ _) hO1, x, hg, (rdigit_c w1 x).mono ?_⟩
  rintro _ w2 ⟨rfl, hO2⟩
  have h02 := hO1.tr0 hO2
  refine ⟨_, rfl, sm hO1 hO2, fun hb => ?_, fun hb => ⟨fun hd => ⟨i, ⟨rfl, by rw [T_size]; omega⟩, ?_⟩, fun hd => ?_⟩⟩
  · rw [if_pos hb]
    refine (rrow_c w2 l i (by omega) (by omega)).mono ?_
    rintro _ w3 ⟨rfl, hO3⟩
    have hwl : ((l.drop i).takeWhile wordB).length ≤ l.length - i := by
      have := while_len (p := wordB) (l := l.drop i)
      rwa [hdl] at this
    have ex : (T l).extract i (i + ((l.drop i).takeWhile wordB).length) = T ((l.drop i).takeWhile wordB) := by
      rw [T_ext, Nat.add_sub_cancel_left, ← while_take]
    refine ⟨_, rfl, sm h02 hO3, i, i + ((l.drop i).takeWhile wordB).length, ⟨rfl, by rw [wr' (by omega) (by omega)]; omega, by omega, by rw [T_size]; omega⟩, fun k5 w4 hk5 hk5' hO4 => ?_⟩
    have h04 := h02.tr0 (hO3.tr0 hO4)
    rw [ex]
    refine (rword_c w4 _).mono ?_
    rintro _ w5 ⟨rfl, hO5⟩
    have h05 := h04.tr0 hO5
    have z4 := h04.size
    unfold wordR
    generalize hm : (l.drop i).takeWhile wordB = m at *
    refine ⟨_, rfl, hO5.same (by simp; omega), fun k s n a w' => k = (if wordsL.contains m then 2 else 1 : Int) ∧ s = T m ∧ n = 0 ∧ a = (i : Int) ∧ Only [] w w', ?_, fun hc w9 hO9 => ⟨by rw [if_pos hc], rfl, rfl, rfl, (hO0.tr0 h05).trans hO9 fun y hy => .inr (by simp only [List.mem_singleton] at hy; have := hO0.size; have := hO3.size; have := h02.size; omega)⟩, fun hc => ⟨by rw [hc]; rfl, rfl, rfl, rfl, hO0.tr0 h05⟩⟩
    rintro _ _ _ _ w6 ⟨rfl, rfl, rfl, rfl, hO6⟩
    refine ⟨fun hc w7 hO7 => ⟨?_, new hO6 hO7⟩, fun hc w8 hO8 => ⟨?_, new hO6 hO8⟩⟩
    · rw [if_pos (by have := of_decide_eq_true hc; omega)]; rfl
    · rw [if_neg (by have := of_decide_eq_false hc; omega)]; rfl
  · rw [if_neg (by rw [hb]; decide), if_pos hd]
    have ex : (T l).extract i (T l).size = T (l.drop i) := by rw [T_ext, T_size, List.take_of_length_le (by omega)]
    rw [ex]
    refine (rparse_c w2 (l.drop i) (by omega)).mono ?_
    rintro _ w10 ⟨rfl, hO10⟩
    have h10 := h02.tr0 hO10
    unfold numR
    refine ⟨_, _, _, rfl, sm h02 hO10, fun he w11 hO11 => ⟨?_, new (hO0.tr0 h10) hO11⟩, fun he => (rrow_c w10 l i (by omega) (by omega)).mono ?_⟩
    · rw [if_pos (by simpa using he)]; rfl
    rintro _ w12 ⟨rfl, hO12⟩
    have h12 := h10.tr0 hO12
    rw [if_neg (by simpa using he)]
    refine ⟨_, rfl, sm h10 hO12, fun hc w13 hO13 => ⟨?_, new (hO0.tr0 h12) hO13⟩, fun hc w14 hO14 => ⟨?_, new (hO0.tr0 h12) hO14⟩⟩
    · rw [if_pos (by have := of_decide_eq_true hc; omega)]; rfl
    · rw [if_neg (by have := of_decide_eq_false hc; omega)]; rfl
  · rw [if_neg (by rw [hb]; decide), if_neg (by rw [hd]; decide)]
    refine (rsign_c w2 l i hi (by omega)).mono ?_
    rintro _ w15 ⟨rfl, hO15⟩
    have h15 := h02.tr0 hO15
    have hn := signN_le (m := l.drop i)
    have ex : (T l).extract i (i + signN (l.drop i)) = T ((l.drop i).take (signN (l.drop i))) := by rw [T_ext, Nat.add_sub_cancel_left]
    unfold signR
    refine ⟨_, rfl, sm h02 hO15, fun hz w16 hO16 => ⟨?_, new (hO0.tr0 h15) hO16⟩, fun hz => ⟨i, i + signN (l.drop i), ⟨rfl, by rw [wr' (by omega) (by omega)]; omega, by omega, by rw [T_size]; omega⟩, fun w17 hO17 => ⟨?_, new (hO0.tr0 h15) hO17⟩⟩⟩
    · rw [if_pos (by have : (signN (l.drop i) : Int) = 0 := by simpa using hz
                     omega)]; rfl
    · rw [if_neg (by rintro e; rw [e] at hz; simp at hz), ex]; rfl
theorem rtokens_c (w : World) (l : List UInt8) :
    Calls Tryz.prog 21 #[.string (T l)] w fun e w' => ∃ rs : Sl, e = .returned (.tuple #[rs.v, .agg #[.int .i64 (tokensM l).2.1, .int .i64 (tokensM l).2.2]]) ∧ OwnK w.heap.size w' rs (tokensM l).1 ∧ Only [] w w' := by
  refine (pavaneref04_Tokens_wp (T l) (fun v w' => ∃ rs : Sl, v = (.tuple #[rs.v, .agg #[.int .i64 (tokensM l).2.1, .int .i64 (tokensM l).2.2]]) ∧ OwnK w.heap.size w' rs (tokensM l).1 ∧ Only [] w w') w ?_).mono (by
    rintro e w' ⟨v, rfl, rs, rfl, h⟩; exact ⟨rs, rfl, h⟩)
  unfold pavaneref04_Tokens_vc
  rw [T_size]
  refine ⟨fun hc k0 w0 _ _ hO => ⟨Sl.nil, ?_, ?_, hO⟩, fun hc k1 w1 hk1 hk1' hO1 => ?_⟩
  · rw [tokensM, if_pos (by have := of_decide_eq_true hc; omega)]
  · rw [tokensM, if_pos (by have := of_decide_eq_true hc; omega)]
    exact Own.nil _ _ _ _ _ _
  have hll : l.length ≤ 16384 := by have := of_decide_eq_false hc; omega
  have htm : tokensM l = match toks l 0 with
    | .error x => ([], x.1, (x.2 : Nat))
    | .ok r => (r, 0, 0) := by
      rw [tokensM, if_neg (by omega)] <;> rfl
  refine (rblanks_c w1 l 0 (Nat.zero_le _) (by omega)).mono ?_
  rintro _ w2 ⟨rfl, hO2⟩
  have z1 := hO1.size
  refine ⟨_, rfl, hO2.same (by simp; omega), fun nv s i e1 e2 w' => e1 = 0 ∧ e2 = 0 ∧ ∃ (j : Nat) (acc : List Tk), i = (j : Int) ∧ j ≤ l.length ∧ acc.length ≤ j ∧ skN false (l.drop j) = 0 ∧ toks l 0 = pre acc (toks l j) ∧ nv = l.length - j ∧ OwnK w1.heap.size w' s acc ∧ Only [] w1 w', l.length - (0 + skN false (l.drop 0)), ?_, ?_⟩
  · refine ⟨rfl, rfl, _, [], rfl, sk_in (Nat.zero_le _), Nat.zero_le _, ?_, ?_, rfl, Own.nil _ _ _ _ _ _, hO2⟩
    · rw [← List.drop_drop]
      exact sk_idem false (l.drop 0)
    · rw [← toks_skip (Nat.zero_le _)]
      cases toks l 0 <;> rfl
  rintro nv s _ _ _ w3 ⟨rfl, rfl, j, acc, rfl, hj, hal, hsk, htk, rfl, ho3, hO3⟩
  have z3 := hO3.size
  have hst := toks_step hj
  rw [hsk, Nat.add_zero] at hst
  -- one more, behind
  have app : ∀ {u : World} {r : Sl} (t : Tk), Only [] w1 u → OwnK w1.heap.size u r acc →
      ∃ y w4, (Instr.buildSlice 55 1 #[(0, t.v)]).run Tryz.prog u = .ok (Sl.v y) w4 ∧ Only [] u w4 ∧ ∃ s' w5, (Builtin.append_ #[55, 55] 55 #[Sl.v r, Sl.v y]).run Tryz.prog w4 = .ok (Sl.v s') w5 ∧ OwnK w1.heap.size w5 s' (acc ++ [t]) ∧ OnlyP (fun k => w1.heap.size ≤ k ∧ r.a = some ⟨k, 0, none⟩) w4 w5 ∧ Only [] w1 w5 := by
    intro u r t hu hr
    obtain ⟨y, w4, c1, c2, s', w5, c3, c4, c5⟩ := push_k t hr hu.size (Nat.le_trans (Nat.mul_le_mul_right 40 (show acc.length + 1 ≤ 16385 by omega)) (by decide))
    exact ⟨y, w4, c1, c2, s', w5, c3, c4, c5, ((hu.tr0 c2).p0 (F := fun k => w1.heap.size ≤ k) |>.trans c5 fun k hk => .inl hk.1).only fun k hk => hk⟩
  refine ⟨fun hc => ?_, fun hc => ?_⟩
  · have hlt : j < l.length := by have := of_decide_eq_true hc; omega
    rw [if_neg (by omega)] at hst
    refine (rtoken_c w3 l j hlt hll).mono ?_
    rintro _ w4 ⟨v, rfl, hv, hO4⟩
    have h14 := hO3.tr0 hO4
    have sm1 : Same [k1] w3 w4 := hO4.same (by simp; omega)
    have z4 := hO4.size
    unfold RTok at hv
    cases hq : tokR (l.drop j) with
    | error e =>
      rw [hq] at hv hst
      dsimp only at hv
      subst hv
      refine ⟨0, T [], 0, 0, 0, e, rfl, sm1, fun _ k4 w5 hk4 hk4' hO5 => ⟨Sl.nil, ?_, ?_, ?_⟩, fun he => absurd (tok_err hq) (by simpa using he)⟩
      · rw [htm, htk, hst]; rfl
      · rw [htm, htk, hst]
        exact Own.nil _ _ _ _ _ _
      · exact (hO1.tr0 h14).trans hO5 fun y hy => .inr (by simp only [List.mem_singleton] at hy; omega)
    | ok q =>
      rw [hq] at hv hst
      dsimp only at hv
      subst hv
      have hq1 := tok_len hq
      have hq2 := tok_le hq
      rw [List.length_drop] at hq2
      refine ⟨q.1, T q.2.1, q.2.2.1, (j : Int), (q.2.2.2 : Int), 0, rfl, sm1, fun he => (by simp at he), fun _ k5 w6 hk5 hk5' hO6 => ?_⟩
      have h16 := h14.tr0 hO6
      have z6 := hO6.size
      obtain ⟨y, w7, c1, c2, s', w8, c3, c4, c5, c6⟩ := app (u := w6) ⟨q.1, q.2.1, q.2.2.1, (j : Nat)⟩ h16 (ho3.only (hO4.tr0 hO6))
      have z7 := c2.size
      have z8 := c5.size
      have hk : ∀ k, s.a = some ⟨k, 0, none⟩ → w1.heap.size ≤ k ∧ k < w3.heap.size := fun k hk => ho3.blk hk
      refine ⟨y, w7, c1, c2.same (by simp; omega), s', w8, c3, c5.same (by
        intro x hx
        simp only [List.mem_cons, List.not_mem_nil, or_false] at hx
        refine ⟨by omega, fun e => ?_⟩
        have := hk x e.2
        omega), ?_⟩
      rw [wr' (x := (j : Int) + (q.2.2.2 : Int)) (by omega) (by omega), show (j : Int) + (q.2.2.2 : Int) = ((j + q.2.2.2 : Nat) : Int) by omega]
      refine (rblanks_c w8 l (j + q.2.2.2) (by omega) (by omega)).mono ?_
      rintro _ w9 ⟨rfl, hO9⟩
      have hin := sk_in (l := l) (i := j + q.2.2.2) (by omega)
      refine ⟨_, rfl, hO9.same (by simp; omega), l.length - (j + q.2.2.2 + skN false (l.drop (j + q.2.2.2))), by omega, rfl, rfl, _, _, rfl, hin, ?_, ?_, ?_, rfl, c4.only hO9, c6.tr0 hO9⟩
      · rw [List.length_append, List.length_singleton]; omega
      · rw [← List.drop_drop]
        exact sk_idem false _
      · rw [htk, hst, ← toks_skip (by omega), ← pre_pre]
        dsimp only
        cases toks l (j + q.2.2.2) <;> rfl
  · have hje : l.length ≤ j := by have := of_decide_eq_false hc; omega
    rw [if_pos hje] at hst
    have hjl : j = l.length := by omega
    obtain ⟨y, w10, c1, c2, s', w11, c3, c4, c5, c6⟩ := app (u := w3) ⟨5, [], 0, (j : Nat)⟩ hO3 ho3
    have z10 := c2.size
    have hk : ∀ k, s.a = some ⟨k, 0, none⟩ → w1.heap.size ≤ k ∧ k < w3.heap.size := fun k hk => ho3.blk hk
    have htt : tokensM l = (acc ++ [⟨5, [], 0, (j : Nat)⟩], 0, 0) := by
      rw [htm, htk, hst]; rfl
    have e : (l.length : Int) = (j : Int) := by omega
    rw [e]
    refine ⟨y, w10, c1, c2.same (by simp; omega), s', w11, c3, c5.same (by
      intro x hx
      simp only [List.mem_singleton] at hx
      refine ⟨by omega, fun e => ?_⟩
      have := hk x e.2
      omega), fun w12 hO12 => ⟨s', by rw [htt], ?_, ?_⟩⟩
    · rw [htt]
      have : OwnK w1.heap.size w12 s' _ := c4.keep fun k hk hlt => hO12.block k hlt (by simp only [List.mem_singleton]; have := hk.1; omega)
      exact Own.low this z1
    · exact (hO1.tr0 c6).trans hO12 fun y hy => .inr (by simp only [List.mem_singleton] at hy; omega)
end Go.Proofs.YtmanockofcopjaaGreatDoor.Con
