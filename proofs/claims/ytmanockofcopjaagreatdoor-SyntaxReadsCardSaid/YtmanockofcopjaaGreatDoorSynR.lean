
/-
  Own work: texts merged: Ref, Ref2, RefT, Ref5, Ref6, RefP, SRef, SRef2, SRef3, SRef4, SRef5, SRef6, SRef7, SRef8.
-/
import Derived.Test.YtmanockofcopjaaGreatDoorCon4
import Derived.Test.YtmanockofcopjaaGreatDoorTree0
import Derived.Test.YtmanockofcopjaaGreatDoorSynM
namespace Go.Proofs.YtmanockofcopjaaGreatDoor.Con
open Go Go.RowKit Go.Kt Go.Kt.V Go.Proofs.YtmanockofcopjaaGreatDoor.Vc
set_option linter.unusedSimpArgs false
set_option linter.unusedVariables false
set_option maxHeartbeats 4000000

theorem rletter_c (w : World) (c : UInt8) : Calls Tryz.prog 82 #[.int .u8 (c.toNat : Int)] w fun e w' => e = .returned (.bool (letterB c)) ∧ Only [] w w' := by
  refine ret (pavaneref04_letter_wp _ (fun v w' => v = .bool (letterB c) ∧ Only [] w w') w ?_)
  unfold pavaneref04_letter_vc
  refine ⟨?_, Only.refl _ _⟩
  congr 1
  rw [Bool.eq_iff_iff]
  simp only [letterB, Bool.and_eq_true, Bool.or_eq_true, decide_eq_true_eq, beq_iff_eq]
  omega
theorem rdigit_c (w : World) (c : UInt8) : Calls Tryz.prog 83 #[.int .u8 (c.toNat : Int)] w fun e w' => e = .returned (.bool (digitB c)) ∧ Only [] w w' := by
  refine ret (pavaneref04_digit_wp _ (fun v w' => v = .bool (digitB c) ∧ Only [] w w') w ?_)
  unfold pavaneref04_digit_vc
  refine ⟨?_, Only.refl _ _⟩
  congr 1
  rw [Bool.eq_iff_iff]
  simp only [digitB, Bool.and_eq_true, decide_eq_true_eq]
  omega
theorem rwords_c (w : World) : Calls Tryz.prog 112 #[] w fun e w' => ∃ s : Sl, e = .returned s.v ∧ Own rTx 1 9 w.heap.size w' (fun _ => True) s wordsL ∧ Only [] w w' := by
  refine (pavaneref04_Words_wp (fun v w' => ∃ s : Sl, v = s.v ∧ Own rTx 1 9 w.heap.size w' (fun _ => True) s wordsL ∧ Only [] w w') w ?_).mono (by
    rintro e w' ⟨v, rfl, s, rfl, h⟩; exact ⟨s, rfl, h⟩)
  unfold pavaneref04_Words_vc
  obtain ⟨s, w', h1, h2, h3⟩ := buildS w wordsL (n := 16) rfl rfl (by decide) (by decide)
  exact ⟨s, w', h1, s, rfl, h2, h3⟩
theorem rword_c (w : World) (m : List UInt8) : Calls Tryz.prog 85 #[.string (T m)] w fun e w' => e = .returned (.bool (wordsL.contains m)) ∧ Only [] w w' := by
  refine ret (pavaneref04_Word_wp _ (fun v w' => v = .bool (wordsL.contains m) ∧ Only [] w w') w ?_)
  unfold pavaneref04_Word_vc
  refine (rwords_c w).mono ?_
  rintro _ w0 ⟨s, rfl, hs, hO0⟩
  have h := flatS hs
  generalize wordsL = l at *
  have hlen := h.len
  have hbig := h.big
  have hcap := h.cap
  refine ⟨s, rfl, fun nv i w' => ∃ n : Nat, n ≤ l.length ∧ i = (n : Int) ∧ nv = l.length - n ∧ (∀ x, x ∈ l.take n → x ≠ m) ∧ w' = w0, l.length, ⟨0, Nat.zero_le _, rfl, rfl, by simp, rfl⟩, ?_⟩
  rintro nv _ _ ⟨n, hn, rfl, rfl, hp, rfl⟩
  refine ⟨fun hc => ?_, fun hc => ?_⟩
  · have hlt : (n : Int) < s.n := of_decide_eq_true hc
    obtain ⟨ad, x, cs, g1, g2, g3, g4, g5, g6⟩ := h.get (Int.natCast_nonneg n) hlt
    rw [Int.toNat_natCast] at g2
    unfold rTx at g6
    subst g6
    refine ⟨ad, g1, _, g5, ?_⟩
    rw [T_eq]
    refine ⟨fun he => ⟨?_, hO0⟩, fun he => ⟨l.length - (n + 1), by omega, n + 1, by omega, by rw [wr' (by omega) (by omega)]; rfl, rfl, ?_, rfl⟩⟩
    · have he : x = m := of_decide_eq_true he
      congr 1
      symm
      rw [List.contains_iff_mem, ← he]
      exact List.mem_of_getElem? g2
    · intro y hy
      rw [List.take_add_one, g2] at hy
      simp only [Option.toList_some, List.mem_append, List.mem_singleton] at hy
      rcases hy with hy | rfl
      · exact hp y hy
      · exact of_decide_eq_false he
  · have hge : ¬ ((n : Int) < s.n) := of_decide_eq_false hc
    rw [List.take_of_length_le (by omega)] at hp
    refine ⟨?_, hO0⟩
    congr 1
    symm
    rw [Bool.eq_false_iff]
    intro hh
    exact hp m (List.contains_iff_mem.1 hh) rfl
theorem rrow_c (w : World) (l : List UInt8) (i : Nat) (hi : i ≤ l.length) (hl : l.length < 4611686018427387903) :
    Calls Tryz.prog 84 #[.string (T l), .int .i64 (i : Int)] w fun e w' => e = .returned (.int .i64 (((l.drop i).takeWhile wordB).length : Int)) ∧ Only [] w w' := by
  refine ret (pavaneref04_row_wp (T l) i (fun v w' => v = .int .i64 (((l.drop i).takeWhile wordB).length : Int) ∧ Only [] w w') w ?_)
  unfold pavaneref04_row_vc
  rw [T_size]
  have hdl : (l.drop i).length = l.length - i := List.length_drop
  refine ⟨fun k w' => k = (((l.drop i).takeWhile wordB).length : Int) ∧ Only [] w w', fun k w' h => ⟨by rw [h.1], h.2⟩, fun nv k w' => ∃ n : Nat, i + n ≤ l.length ∧ k = (n : Int) ∧ nv = l.length - (i + n) ∧ (∀ x, x ∈ (l.drop i).take n → wordB x = true) ∧ Only [] w w', l.length - i, ⟨0, hi, rfl, rfl, by simp, Only.refl _ _⟩, ?_⟩
  rintro nv _ w1 ⟨n, hn, rfl, rfl, hp, hO1⟩
  rw [wr' (x := (i : Int) + n) (by omega) (by omega)]
  have ein : (i : Int) + n = ((i + n : Nat) : Int) := by omega
  rw [ein]
  refine ⟨fun hc => ?_, fun hc => ⟨?_, hO1⟩⟩
  · have hlt : i + n < l.length := by have := of_decide_eq_true hc; omega
    have hx : l[i + n]? = some l[i + n] := List.getElem?_eq_getElem hlt
    generalize l[i + n] = x at hx
    have hx' : (l.drop i)[n]? = some x := by rw [List.getElem?_drop, hx]
    have hg : (T l)[Int.toNat ((i + n : Nat) : Int)]? = some x := by rw [T_get, Int.toNat_natCast, hx]
    refine ⟨x, ⟨Int.natCast_nonneg _, hg⟩, (rletter_c w1 x).mono ?_⟩
    rintro _ w2 ⟨rfl, hO2⟩
    refine ⟨_, rfl, x, ⟨Int.natCast_nonneg _, hg⟩, (rdigit_c w2 x).mono ?_⟩
    rintro _ w3 ⟨rfl, hO3⟩
    have hO := hO1.tr0 (hO2.tr0 hO3)
    have e : ((!letterB x) && (!digitB x)) = !wordB x := by unfold wordB; rw [Bool.not_or]
    refine ⟨_, rfl, ?_⟩
    rw [e]
    refine ⟨fun hw => ⟨?_, hO⟩, fun hw => ⟨l.length - (i + (n + 1)), by omega, n + 1, by omega, by rw [wr' (by omega) (by omega)]; rfl, rfl, fun y hy => ?_, hO⟩⟩
    · rw [take_while (by omega) hp fun y hy => by
        rw [hx'] at hy
        injection hy with hy
        subst hy
        simpa using hw]
      rw [List.length_take]
      omega
    · rw [List.take_add_one, hx'] at hy
      simp only [Option.toList_some, List.mem_append, List.mem_singleton] at hy
      rcases hy with hy | rfl
      · exact hp y hy
      · simpa using hw
  · have hge : l.length ≤ i + n := by have := of_decide_eq_false hc; omega
    rw [take_while (by omega) hp fun y hy => by
      have := (List.getElem?_eq_some_iff.1 hy).1
      omega]
    rw [List.length_take]
    omega
theorem blank_or (c : UInt8) : (((((c.toNat : Int) == 9) || ((c.toNat : Int) == 10)) || ((c.toNat : Int) == 13)) || ((c.toNat : Int) == 32)) = blankB c := by
  have h9 : ((c.toNat : Int) == 9) = (c == 9) := u8i (d := 9)
  have h10 : ((c.toNat : Int) == 10) = (c == 10) := u8i (d := 10)
  have h13 : ((c.toNat : Int) == 13) = (c == 13) := u8i (d := 13)
  have h32 : ((c.toNat : Int) == 32) = (c == 32) := u8i (d := 32)
  rw [h9, h10, h13, h32, Bool.eq_iff_iff]
  simp [blankB, or_assoc]
theorem rblanks_c (w : World) (l : List UInt8) (i : Nat) (hi : i ≤ l.length) (hl : l.length < 4611686018427387903) :
    Calls Tryz.prog 43 #[.string (T l), .int .i64 (i : Int)] w fun e w' => e = .returned (.int .i64 ((i + skN false (l.drop i) : Nat) : Int)) ∧ Only [] w w' := by
  refine ret (pavaneref04_blanks_wp (T l) i (fun v w' => v = .int .i64 ((i + skN false (l.drop i) : Nat) : Int) ∧ Only [] w w') w ?_)
  unfold pavaneref04_blanks_vc
  rw [T_size]
  refine ⟨fun k w' => k = ((i + skN false (l.drop i) : Nat) : Int) ∧ w' = w, fun k w' h => ⟨by rw [h.1], by rw [h.2]; exact Only.refl _ _⟩, fun nv k w' => ∃ j : Nat, j ≤ l.length ∧ k = (j : Int) ∧ nv = l.length - j ∧ i + skN false (l.drop i) = j + skN false (l.drop j) ∧ w' = w, l.length - i, ⟨i, hi, rfl, rfl, rfl, rfl⟩, ?_⟩
  rintro nv _ u ⟨j, hj, rfl, rfl, hjs, hu⟩
  subst hu
  refine ⟨fun hc => ?_, fun hc => ⟨?_, rfl⟩⟩
  · have hlt : j < l.length := by have := of_decide_eq_true hc; omega
    have hx : l[j]? = some l[j] := List.getElem?_eq_getElem hlt
    generalize l[j] = x at hx
    have hd := drop_cons hx
    have e47 : ((x.toNat : Int) == 47) = (x == 47) := u8i (d := 47)
    rw [wr' (x := (j : Int) + 1) (by omega) (by omega)]
    -- the next byte, if there is one
    obtain ⟨y, hy⟩ : ∃ y : UInt8, j + 1 < l.length → l[j + 1]? = some y := by
      by_cases h : j + 1 < l.length
      · exact ⟨l[j + 1], fun _ => List.getElem?_eq_getElem h⟩
      · exact ⟨0, fun h' => absurd h' h⟩
    have e2 : ((y.toNat : Int) == 47) = (y == 47) := u8i (d := 47)
    refine ⟨x, ⟨Int.natCast_nonneg j, by rw [T_get, Int.toNat_natCast, hx]⟩, y, fun h => ⟨by omega, ?_⟩, ?_⟩
    · rw [Bool.and_eq_true] at h
      have := of_decide_eq_true h.2
      rw [show (j : Int) + 1 = ((j + 1 : Nat) : Int) by omega, T_get, Int.toNat_natCast]
      exact hy (by omega)
    rw [e47, e2, blank_or]
    refine ⟨fun hs => ?_, fun hs => ⟨fun hb => ⟨l.length - (j + 1), by omega, j + 1, by omega, rfl, rfl, ?_, rfl⟩, fun hb => ⟨?_, rfl⟩⟩⟩
    · simp only [Bool.and_eq_true, decide_eq_true_eq, beq_iff_eq] at hs
      obtain ⟨⟨rfl, h1⟩, rfl⟩ := hs
      have h1 : j + 1 < l.length := by omega
      have hd2 := drop_cons (hy h1)
      have ht : (l.drop j).take 2 = [47, 47] := by rw [hd, hd2]; rfl
      have hk := skN_slash ht
      have hdl : (l.drop j).length = l.length - j := List.length_drop
      refine ⟨fun nv k w' => ∃ n : Nat, j + n ≤ l.length ∧ k = ((j + n : Nat) : Int) ∧ nv = l.length - (j + n) ∧ (∀ x, x ∈ (l.drop j).take n → (x != 10) = true) ∧ w' = u, l.length - j, ⟨0, hj, rfl, rfl, by simp, rfl⟩, ?_⟩
      rintro nv _ _ ⟨n, hn, rfl, rfl, hp, rfl⟩
      obtain ⟨z, hz⟩ : ∃ z : UInt8, j + n < l.length → l[j + n]? = some z := by
        by_cases h : j + n < l.length
        · exact ⟨l[j + n], fun _ => List.getElem?_eq_getElem h⟩
        · exact ⟨0, fun h' => absurd h' h⟩
      have e10 : ((z.toNat : Int) != 10) = (z != 10) := by
        have : ((z.toNat : Int) == 10) = (z == 10) := u8i (d := 10)
        unfold bne
        rw [this]
      refine ⟨z, fun h => ⟨Int.natCast_nonneg _, by rw [T_get, Int.toNat_natCast]; exact hz (by have := of_decide_eq_true h; omega)⟩, ?_⟩
      rw [e10]
      refine ⟨fun h => ?_, fun h => ?_⟩
      · rw [Bool.and_eq_true] at h
        have h1 := of_decide_eq_true h.1
        have hzz : (l.drop j)[n]? = some z := by rw [List.getElem?_drop]; exact hz (by omega)
        refine ⟨l.length - (j + (n + 1)), by omega, n + 1, by omega, by rw [wr' (by omega) (by omega)]; omega, rfl, fun q hq => ?_, rfl⟩
        rw [List.take_add_one, hzz] at hq
        simp only [Option.toList_some, List.mem_append, List.mem_singleton] at hq
        rcases hq with hq | rfl
        · exact hp q hq
        · exact h.2
      · have hw : (l.drop j).takeWhile (· != 10) = (l.drop j).take n := take_while (by omega) hp fun q hq => by
          have h1 := (List.getElem?_eq_some_iff.1 hq).1
          rw [List.getElem?_drop, hz (by omega)] at hq
          injection hq with hq
          subst hq
          rw [decide_eq_true (by omega), Bool.true_and] at h
          exact h
        have hwl : ((l.drop j).takeWhile (· != 10)).length = n := by rw [hw, List.length_take]; omega
        have hpos : 0 < n := by
          rw [← hwl, hd, List.takeWhile_cons, if_pos (by decide), List.length_cons]
          omega
        rw [hwl, List.drop_drop] at hk
        exact ⟨l.length - (j + n), by omega, j + n, hn, rfl, rfl, by rw [hjs, hk]; omega, rfl⟩
    · rw [hjs, hd, skN, if_pos hb]; omega
    · have hz : skN false (l.drop j) = 0 := by
        rw [hd, skN, if_neg (by rw [hb]; decide), if_neg]
        intro hh
        simp only [Bool.and_eq_true, beq_iff_eq] at hh
        obtain ⟨rfl, hh⟩ := hh
        have h1 : j + 1 < l.length := by
          cases hr : l.drop (j + 1) with
          | nil => rw [hr] at hh; simp at hh
          | cons a b =>
            have := congrArg List.length hr
            rw [List.length_drop, List.length_cons] at this
            omega
        rw [drop_cons (hy h1)] at hh
        simp only [List.head?_cons, Option.some.injEq] at hh
        subst hh
        rw [decide_eq_true (by omega)] at hs
        simp at hs
      rw [hjs, hz]; rfl
  · have hge : l.length ≤ j := by have := of_decide_eq_false hc; omega
    rw [hjs, List.drop_of_length_le hge]; rfl
end Go.Proofs.YtmanockofcopjaaGreatDoor.Con

namespace Go.Proofs.YtmanockofcopjaaGreatDoor.Con
open Go Go.RowKit Go.Kt Go.Kt.V Go.Proofs.YtmanockofcopjaaGreatDoor.Vc
set_option linter.unusedSimpArgs false
set_option linter.unusedVariables false
set_option maxHeartbeats 4000000

def longL : List (List UInt8) := [[45, 62], [60, 61], [62, 61], [61, 61], [33, 61], [38, 38], [124, 124]]
theorem sign2_long {c d : UInt8} {r : List UInt8} : sign2 (c :: d :: r) = longL.contains [c, d] := by
  rw [Bool.eq_iff_iff]
  simp [sign2, longL]
  constructor
  · rintro ((⟨rfl, h⟩ | ⟨rfl, h⟩) | ⟨rfl, rfl⟩)
    · rcases h with rfl | rfl | rfl | rfl <;> simp
    · rcases h with rfl | rfl <;> simp
    · simp
  · rintro (⟨rfl, rfl⟩ | ⟨rfl, rfl⟩ | ⟨rfl, rfl⟩ | ⟨rfl, rfl⟩ | ⟨rfl, rfl⟩ | ⟨rfl, rfl⟩ | ⟨rfl, rfl⟩) <;> simp
theorem signN_two {m : List UInt8} (h : sign2 m = true) : signN m = 2 := by unfold signN; rw [if_pos h]
theorem signN_one {c : UInt8} {r : List UInt8} (h : sign2 (c :: r) = false) : signN (c :: r) = if shortL.contains c then 1 else 0 := by
  unfold signN
  rw [if_neg (by rw [h]; decide)]
theorem rsign_c (w : World) (l : List UInt8) (i : Nat) (hi : i < l.length) (hl : l.length < 4611686018427387903) :
    Calls Tryz.prog 87 #[.string (T l), .int .i64 (i : Int)] w fun e w' => e = .returned (.int .i64 (signN (l.drop i) : Int)) ∧ Only [] w w' := by
  refine ret (pavaneref04_sign_wp (T l) i (fun v w' => v = .int .i64 (signN (l.drop i) : Int) ∧ Only [] w w') w ?_)
  unfold pavaneref04_sign_vc
  rw [T_size]
  obtain ⟨s, w0, k1, k2, hO0⟩ := buildS w longL (n := 7) (parts := #[(0, .string (ByteArray.mk #[45, 62])), (1, .string (ByteArray.mk #[60, 61])), (2, .string (ByteArray.mk #[62, 61])), (3, .string (ByteArray.mk #[61, 61])), (4, .string (ByteArray.mk #[33, 61])), (5, .string (ByteArray.mk #[38, 38])), (6, .string (ByteArray.mk #[124, 124]))]) rfl rfl (by decide) (by decide)
  have hs := flatS k2
  have hx : l[i]? = some l[i] := List.getElem?_eq_getElem hi
  generalize l[i] = c at hx
  have hd := drop_cons hx
  have hdl : (l.drop i).length = l.length - i := List.length_drop
  have hlen := hs.len
  rw [wr' (x := (i : Int) + 2) (by omega) (by omega)]
  refine ⟨s, w0, k1, fun nv k w' => ∃ n : Nat, n ≤ longL.length ∧ k = (n : Int) ∧ nv = longL.length - n ∧ (2 ≤ (l.drop i).length → ∀ x, x ∈ longL.take n → x ≠ (l.drop i).take 2) ∧ Only [] w0 w', longL.length, ⟨0, Nat.zero_le _, rfl, rfl, by simp, Only.refl _ _⟩, ?_⟩
  rintro nv _ w1 ⟨n, hn, rfl, rfl, hp, hO1⟩
  refine ⟨fun hc => ?_, fun hc => ?_⟩
  · have hlt : (n : Int) < s.n := of_decide_eq_true hc
    obtain ⟨ad, x, cs, g1, g2, g3, g4, g5, g6⟩ := (SliceF.only rTx_ok (by decide) hs hO1 (by simp)).get (Int.natCast_nonneg n) hlt
    rw [Int.toNat_natCast] at g2
    unfold rTx at g6
    subst g6
    have hn7 : longL.length = 7 := rfl
    refine ⟨i, i + 2, fun h => ⟨rfl, by omega, by omega, by have := of_decide_eq_true h; omega⟩, ad, fun _ => g1, _, fun _ => g5, ?_⟩
    have ex : (T l).extract i (i + 2) = T ((l.drop i).take 2) := by rw [T_ext, show i + 2 - i = 2 by omega]
    rw [ex, T_eq]
    refine ⟨fun h w2 hO2 => ⟨?_, hO0.tr0 (hO1.tr0 hO2)⟩, fun h w3 hO3 => ⟨longL.length - (n + 1), by omega, n + 1, by omega, by rw [wr' (by omega) (by omega)]; rfl, rfl, fun h2 y hy => ?_, hO1.tr0 hO3⟩⟩
    · rw [Bool.and_eq_true] at h
      have h1 := of_decide_eq_true h.1
      have h2 := of_decide_eq_true h.2
      have hs2 : sign2 (l.drop i) = true := by
        cases hr : l.drop (i + 1) with
        | nil =>
          have := congrArg List.length hr
          rw [List.length_drop, List.length_nil] at this
          omega
        | cons d r =>
          rw [hd, hr] at h2 ⊢
          rw [sign2_long, List.contains_iff_mem]
          have : (c :: d :: r).take 2 = [c, d] := rfl
          rw [← this, h2]
          exact List.mem_of_getElem? g2
      rw [signN_two hs2]; rfl
    · rw [List.take_add_one, g2] at hy
      simp only [Option.toList_some, List.mem_append, List.mem_singleton] at hy
      rcases hy with hy | rfl
      · exact hp h2 y hy
      · rw [decide_eq_true (by omega), Bool.true_and] at h
        exact fun e => of_decide_eq_false h e.symm
  · have hge : ¬ ((n : Int) < s.n) := of_decide_eq_false hc
    rw [List.take_of_length_le (by omega)] at hp
    have hs2 : sign2 (l.drop i) = false := by
      cases hr : l.drop (i + 1) with
      | nil => rw [hd, hr]; rfl
      | cons d r =>
        rw [hd, hr, sign2_long, Bool.eq_false_iff]
        intro h
        rw [List.contains_iff_mem] at h
        have h2 : 2 ≤ (l.drop i).length := by rw [hd, hr]; simp
        exact hp h2 _ h (by rw [hd, hr]; rfl)
    have hsn : signN (l.drop i) = if shortL.contains c then 1 else 0 := by
      rw [hd] at hs2 ⊢
      exact signN_one hs2
    rw [hsn]
    refine ⟨fun nv k w' => ∃ n : Nat, n ≤ 17 ∧ k = (n : Int) ∧ nv = 17 - n ∧ (∀ x, x ∈ shortL.take n → x ≠ c) ∧ Only [] w w', 17, ⟨0, Nat.zero_le _, rfl, rfl, by simp, hO0.tr0 hO1⟩, ?_⟩
    rintro nv _ w4 ⟨n, hn, rfl, rfl, hp, hO4⟩
    refine ⟨fun hc => ?_, fun hc => ⟨?_, hO4⟩⟩
    · have hlt : n < 17 := by have := of_decide_eq_true hc; omega
      have hy : shortL[n]? = some (shortL[n]'hlt) := List.getElem?_eq_getElem hlt
      generalize shortL[n]'hlt = y at hy
      refine ⟨c, ⟨Int.natCast_nonneg i, by rw [T_get, Int.toNat_natCast, hx]⟩, y, ⟨Int.natCast_nonneg n, by
        have e : (ByteArray.mk #[123, 125, 40, 41, 91, 93, 59, 44, 61, 43, 45, 42, 47, 37, 60, 62, 33]) = T shortL := rfl
        rw [e, T_get, Int.toNat_natCast, hy]⟩, ?_⟩
      rw [u8i]
      refine ⟨fun h w5 hO5 => ⟨?_, hO4.tr0 hO5⟩, fun h w6 hO6 => ⟨17 - (n + 1), by omega, n + 1, by omega, by rw [wr' (by omega) (by omega)]; rfl, rfl, fun q hq => ?_, hO4.tr0 hO6⟩⟩
      · have h : c = y := by simpa using h
        rw [if_pos]
        · rfl
        · rw [List.contains_iff_mem, h]
          exact List.mem_of_getElem? hy
      · rw [List.take_add_one, hy] at hq
        simp only [Option.toList_some, List.mem_append, List.mem_singleton] at hq
        rcases hq with hq | rfl
        · exact hp q hq
        · rintro rfl
          simp at h
    · have hge : n = 17 := by have := of_decide_eq_false hc; omega
      subst hge
      rw [if_neg]
      · rfl
      · intro h
        rw [List.contains_iff_mem] at h
        exact hp c (by rw [List.take_of_length_le (by decide)]; exact h) rfl
theorem decV_snoc {ds : List UInt8} {x : UInt8} : decV 0 (ds ++ [x]) = decV 0 ds * 10 + (x.toNat - 48) := by
  unfold decV
  rw [List.foldl_append]; rfl
theorem decV_take {ds : List UInt8} {n : Nat} : decV 0 (ds.take n) ≤ decV 0 ds := by
  have : decV 0 ds = decV (decV 0 (ds.take n)) (ds.drop n) := by
    unfold decV
    rw [← List.foldl_append, List.take_append_drop]
  rw [this]
  exact decV_ge _ _
theorem rparse_c (w : World) (l : List UInt8) (hl : l.length < 4611686018427387903) :
    Calls Tryz.prog 86 #[.string (T l)] w fun e w' => e = .returned (.tuple #[.int .i64 (parseM l).1, .int .i64 (parseM l).2.1, .int .i64 (parseM l).2.2]) ∧ Only [] w w' := by
  refine ret (pavaneref03_Parse_wp (T l) (fun v w' => v = .tuple #[.int .i64 (parseM l).1, .int .i64 (parseM l).2.1, .int .i64 (parseM l).2.2] ∧ Only [] w w') w ?_)
  unfold pavaneref03_Parse_vc
  rw [T_size]
  refine ⟨fun h0 => ⟨?_, Only.refl _ _⟩, fun h0 => ?_⟩
  · have h0 : l = [] := List.eq_nil_of_length_eq_zero (by have : (l.length : Int) = 0 := by simpa using h0
                                                          omega)
    rw [parseM, if_pos h0]; rfl
  have h0 : ¬ l = [] := by
    rintro rfl
    simp at h0
  refine ⟨fun nv j w' => ∃ n : Nat, n ≤ l.length ∧ j = (n : Int) ∧ nv = l.length - n ∧ (∀ x, x ∈ l.take n → digitB x = true) ∧ w' = w, l.length, ⟨0, Nat.zero_le _, rfl, rfl, by simp, rfl⟩, ?_⟩
  rintro nv _ u ⟨n, hn, rfl, rfl, hp, hu⟩
  subst hu
  obtain ⟨z, hz⟩ : ∃ z : UInt8, n < l.length → l[n]? = some z := by
    by_cases h : n < l.length
    · exact ⟨l[n], fun _ => List.getElem?_eq_getElem h⟩
    · exact ⟨0, fun h' => absurd h' h⟩
  have hg : n < l.length → 0 ≤ (n : Int) ∧ (T l)[Int.toNat (n : Int)]? = some z := fun h => ⟨Int.natCast_nonneg n, by rw [T_get, Int.toNat_natCast]; exact hz h⟩
  refine ⟨z, fun h => hg (by have := of_decide_eq_true h; omega), z, fun h => hg (by
    rw [Bool.and_eq_true] at h
    have := of_decide_eq_true h.1; omega), ?_⟩
  have ed : ((((decide ((n : Int) < (l.length : Int))) && (decide ((z.toNat : Int) ≥ 48))) && (decide ((z.toNat : Int) ≤ 57)))) = (decide (n < l.length) && digitB z) := by
    rw [Bool.eq_iff_iff]
    simp only [digitB, Bool.and_eq_true, decide_eq_true_eq]
    omega
  rw [ed]
  refine ⟨fun h => ?_, fun h => ?_⟩
  · rw [Bool.and_eq_true] at h
    have h1 : n < l.length := of_decide_eq_true h.1
    refine ⟨l.length - (n + 1), by omega, n + 1, by omega, by rw [wr' (by omega) (by omega)]; rfl, rfl, fun y hy => ?_, rfl⟩
    rw [List.take_add_one, hz h1] at hy
    simp only [Option.toList_some, List.mem_append, List.mem_singleton] at hy
    rcases hy with hy | rfl
    · exact hp y hy
    · exact h.2
  have hds : l.takeWhile digitB = l.take n := take_while hn hp fun y hy => by
    have h1 := (List.getElem?_eq_some_iff.1 hy).1
    rw [hz h1] at hy
    injection hy with hy
    subst hy
    rw [decide_eq_true h1, Bool.true_and] at h
    exact h
  have hdl : (l.takeWhile digitB).length = n := by rw [hds, List.length_take]; omega
  obtain ⟨x, r, rfl⟩ : ∃ x r, l = x :: r := by
    cases l with
    | nil => exact absurd rfl h0
    | cons x r => exact ⟨x, r, rfl⟩
  refine ⟨x, fun _ _ => ⟨Int.le_refl _, by rw [T_get]; rfl⟩, ?_⟩
  have e48 : ((x.toNat : Int) == 48) = (x == 48) := u8i (d := 48)
  have eb : (((n : Int) == 0) || ((decide ((n : Int) > 1)) && ((x.toNat : Int) == 48))) = decide ((x :: r).takeWhile digitB = [] ∨ (1 < ((x :: r).takeWhile digitB).length ∧ (x :: r).head? = some 48)) := by
    rw [e48, hdl, Bool.eq_iff_iff]
    simp only [Bool.and_eq_true, Bool.or_eq_true, decide_eq_true_eq, beq_iff_eq, List.head?_cons, Option.some.injEq]
    have : (x :: r).takeWhile digitB = [] ↔ n = 0 := by
      constructor
      · intro e; rw [e] at hdl; exact hdl.symm
      · intro e; rw [e] at hdl; exact List.eq_nil_of_length_eq_zero hdl
    rw [this]
    by_cases hx : x = 48
    · simp only [hx, and_true]; omega
    · simp only [hx, and_false, or_false]; omega
  rw [eb]
  refine ⟨fun hb => ⟨?_, Only.refl _ _⟩, fun hb => ?_⟩
  · rw [parseM, if_neg h0, if_pos (of_decide_eq_true hb)]; rfl
  have hb := of_decide_eq_false hb
  refine ⟨fun nv v j w' => ∃ q : Nat, q ≤ n ∧ j = (q : Int) ∧ nv = n - q ∧ v = (decV 0 ((x :: r).take q) : Int) ∧ decV 0 ((x :: r).take q) < 9223372036854775808 ∧ Only [] u w', n, ⟨0, Nat.zero_le _, rfl, rfl, rfl, by rw [List.take_zero]; decide, Only.refl _ _⟩, ?_⟩
  rintro nv _ _ w1 ⟨q, hq, rfl, rfl, rfl, hv, hO1⟩
  refine ⟨fun hc => ?_, fun hc => ⟨?_, hO1⟩⟩
  · have hlt : q < n := by have := of_decide_eq_true hc; omega
    have hy : (x :: r)[q]? = some ((x :: r)[q]'(by omega)) := List.getElem?_eq_getElem (by omega)
    generalize (x :: r)[q]'(by omega) = y at hy
    have hyd : digitB y = true := hp y (by
      rw [List.mem_iff_getElem?]
      exact ⟨q, by rw [List.getElem?_take, if_pos hlt, hy]⟩)
    simp only [digitB, Bool.and_eq_true, decide_eq_true_eq] at hyd
    have e1 : IntKind.wrap .u8 ((y.toNat : Int) - 48) = (y.toNat : Int) - 48 := by
      have h : ∀ n : Fin 256, 48 ≤ n.val → IntKind.wrap .u8 ((n.val : Int) - 48) = (n.val : Int) - 48 := by decide +kernel
      exact h ⟨y.toNat, y.toNat_lt⟩ hyd.1
    have et : (9223372036854775807 - ((y.toNat : Int) - 48)).tdiv 10 = (9223372036854775807 - ((y.toNat : Int) - 48)) / 10 := Int.tdiv_eq_ediv_of_nonneg (by omega)
    have es : (x :: r).take (q + 1) = (x :: r).take q ++ [y] := by rw [List.take_add_one, hy]; rfl
    have ev : decV 0 ((x :: r).take (q + 1)) = decV 0 ((x :: r).take q) * 10 + (y.toNat - 48) := by rw [es, decV_snoc]
    refine ⟨y, ⟨Int.natCast_nonneg q, by rw [T_get, Int.toNat_natCast, hy]⟩, ?_⟩
    rw [e1, wr' (x := (y.toNat : Int) - 48) (by omega) (by omega), wr' (x := 9223372036854775807 - ((y.toNat : Int) - 48)) (by omega) (by omega), et, wr' (x := (9223372036854775807 - ((y.toNat : Int) - 48)) / 10) (by omega) (by omega)]
    refine ⟨fun hgt => ⟨?_, hO1⟩, fun hgt => ⟨n - (q + 1), by omega, q + 1, by omega, by rw [wr' (by omega) (by omega)]; rfl, rfl, ?_, ?_, hO1⟩⟩
    · have hgt := of_decide_eq_true hgt
      have h1 : decV 0 ((x :: r).take (q + 1)) ≤ decV 0 ((x :: r).take n) := by
        have := decV_take (ds := (x :: r).take n) (n := q + 1)
        rw [List.take_take, Nat.min_eq_left (by omega)] at this
        exact this
      rw [parseM, if_neg h0, if_neg hb, if_neg (by rw [hds]; omega)]; rfl
    · have hgt := of_decide_eq_false hgt
      rw [ev, wr' (x := 10 * (decV 0 ((x :: r).take q) : Int)) (by omega) (by omega), wr' (by omega) (by omega)]
      omega
    · have hgt := of_decide_eq_false hgt
      rw [ev]
      omega
  · have hqn : q = n := by have := of_decide_eq_false hc; omega
    subst hqn
    rw [parseM, if_neg h0, if_neg hb, if_pos (by rw [hds]; exact hv), hdl, hds]
end Go.Proofs.YtmanockofcopjaaGreatDoor.Con

namespace Go.Proofs.YtmanockofcopjaaGreatDoor.Con
open Go Go.RowKit Go.Kt Go.Kt.V Go.Proofs.YtmanockofcopjaaGreatDoor.Vc
set_option linter.unusedSimpArgs false
set_option linter.unusedVariables false
set_option maxHeartbeats 4000000

/-- what token tells -/
def RTok (i : Nat) (r : Except Int Tq) (v : Value) : Prop := match r with
  | .error e => v = .tuple #[.agg #[.int .i64 0, .string (T []), .int .i64 0, .int .i64 0], .int .i64 0, .int .i64 e]
  | .ok q => v = .tuple #[.agg #[.int .i64 q.1, .string (T q.2.1), .int .i64 q.2.2.1, .int .i64 (i : Int)], .int .i64 (q.2.2.2 : Int), .int .i64 0]
theorem rtoken_c (w : World) (l : List UInt8) (i : Nat) (hi : i < l.length) (hl : l.length ≤ 16384) :
    Calls Tryz.prog 44 #[.string (T l), .int .i64 (i : Int)] w fun e w' => ∃ v, e = .returned v ∧ RTok i (tokR (l.drop i)) v ∧ Only [] w w' := by
  refine pavaneref04_token_wp (T l) i (fun v w' => RTok i (tokR (l.drop i)) v ∧ Only [] w w') w ?_
  unfold pavaneref04_token_vc
  have hx : l[i]? = some l[i] := List.getElem?_eq_getElem hi
  generalize l[i] = x at hx
  have hdl : (l.drop i).length = l.length - i := List.length_drop
  have ht : tokR (l.drop i) = if letterB x then wordR (l.drop i) else if digitB x then numR (l.drop i) else signR (l.drop i) := by
    rw [drop_cons hx]; rfl
  rw [ht]
  have hg : 0 ≤ (i : Int) ∧ (T l)[Int.toNat (i : Int)]? = some x := ⟨Int.natCast_nonneg i, by rw [T_get, Int.toNat_natCast, hx]⟩
  refine ⟨x, hg, fun k1 w0 hk1 hk1' hO0 => (rletter_c w0 x).mono ?_⟩
  rintro _ w1 ⟨rfl, hO1⟩
  have new : ∀ {u u' : World}, Only [] w u → Only [k1] u u' → Only [] w u' := fun h k => h.trans k fun y hy => .inr (by simp only [List.mem_singleton] at hy; omega)
  have sm : ∀ {u u' : World}, Only [] w0 u → Only [] u u' → Same [k1] u u' := fun h0 h => h.same (by have := h0.size; simp; omega)
  refine ⟨_, rfl, sm (Only.refl _ _) hO1, x, hg, (rdigit_c w1 x).mono ?_⟩
  rintro _ w2 ⟨rfl, hO2⟩
  have h02 := hO1.tr0 hO2
  refine ⟨_, rfl, sm hO1 hO2, fun hb => ?_, fun hb => ⟨fun hd => ⟨i, ⟨rfl, by rw [T_size]; omega⟩, ?_⟩, fun hd => ?_⟩⟩
  · rw [if_pos hb]
    refine (rrow_c w2 l i (by omega) (by omega)).mono ?_
    rintro _ w3 ⟨rfl, hO3⟩
    have hwl : ((l.drop i).takeWhile wordB).length ≤ l.length - i := by
      have := while_len (p := wordB) (l := l.drop i)
      rwa [hdl] at this
    have ex : (T l).extract i (i + ((l.drop i).takeWhile wordB).length) = T ((l.drop i).takeWhile wordB) := by
      rw [T_ext, Nat.add_sub_cancel_left, ← while_take]
    refine ⟨_, rfl, sm h02 hO3, i, i + ((l.drop i).takeWhile wordB).length, ⟨rfl, by rw [wr' (by omega) (by omega)]; omega, by omega, by rw [T_size]; omega⟩, fun k5 w4 hk5 hk5' hO4 => ?_⟩
    have h04 := h02.tr0 (hO3.tr0 hO4)
    rw [ex]
    refine (rword_c w4 _).mono ?_
    rintro _ w5 ⟨rfl, hO5⟩
    have h05 := h04.tr0 hO5
    have z4 := h04.size
    unfold wordR
    generalize hm : (l.drop i).takeWhile wordB = m at *
    refine ⟨_, rfl, hO5.same (by simp; omega), fun k s n a w' => k = (if wordsL.contains m then 2 else 1 : Int) ∧ s = T m ∧ n = 0 ∧ a = (i : Int) ∧ Only [] w w', ?_, fun hc w9 hO9 => ⟨by rw [if_pos hc], rfl, rfl, rfl, (hO0.tr0 h05).trans hO9 fun y hy => .inr (by simp only [List.mem_singleton] at hy; have := hO0.size; have := hO3.size; have := h02.size; omega)⟩, fun hc => ⟨by rw [hc]; rfl, rfl, rfl, rfl, hO0.tr0 h05⟩⟩
    rintro _ _ _ _ w6 ⟨rfl, rfl, rfl, rfl, hO6⟩
    refine ⟨fun hc w7 hO7 => ⟨?_, new hO6 hO7⟩, fun hc w8 hO8 => ⟨?_, new hO6 hO8⟩⟩
    · rw [if_pos (by have := of_decide_eq_true hc; omega)]; rfl
    · rw [if_neg (by have := of_decide_eq_false hc; omega)]; rfl
  · rw [if_neg (by rw [hb]; decide), if_pos hd]
    have ex : (T l).extract i (T l).size = T (l.drop i) := by rw [T_ext, T_size, List.take_of_length_le (by omega)]
    rw [ex]
    refine (rparse_c w2 (l.drop i) (by omega)).mono ?_
    rintro _ w10 ⟨rfl, hO10⟩
    have h10 := h02.tr0 hO10
    unfold numR
    refine ⟨_, _, _, rfl, sm h02 hO10, fun he w11 hO11 => ⟨?_, new (hO0.tr0 h10) hO11⟩, fun he => (rrow_c w10 l i (by omega) (by omega)).mono ?_⟩
    · rw [if_pos (by simpa using he)]; rfl
    rintro _ w12 ⟨rfl, hO12⟩
    have h12 := h10.tr0 hO12
    rw [if_neg (by simpa using he)]
    refine ⟨_, rfl, sm h10 hO12, fun hc w13 hO13 => ⟨?_, new (hO0.tr0 h12) hO13⟩, fun hc w14 hO14 => ⟨?_, new (hO0.tr0 h12) hO14⟩⟩
    · rw [if_pos (by have := of_decide_eq_true hc; omega)]; rfl
    · rw [if_neg (by have := of_decide_eq_false hc; omega)]; rfl
  · rw [if_neg (by rw [hb]; decide), if_neg (by rw [hd]; decide)]
    refine (rsign_c w2 l i hi (by omega)).mono ?_
    rintro _ w15 ⟨rfl, hO15⟩
    have h15 := h02.tr0 hO15
    have hn := signN_le (m := l.drop i)
    have ex : (T l).extract i (i + signN (l.drop i)) = T ((l.drop i).take (signN (l.drop i))) := by rw [T_ext, Nat.add_sub_cancel_left]
    unfold signR
    refine ⟨_, rfl, sm h02 hO15, fun hz w16 hO16 => ⟨?_, new (hO0.tr0 h15) hO16⟩, fun hz => ⟨i, i + signN (l.drop i), ⟨rfl, by rw [wr' (by omega) (by omega)]; omega, by omega, by rw [T_size]; omega⟩, fun w17 hO17 => ⟨?_, new (hO0.tr0 h15) hO17⟩⟩⟩
    · rw [if_pos (by have : (signN (l.drop i) : Int) = 0 := by simpa using hz
                     omega)]; rfl
    · rw [if_neg (by rintro e; rw [e] at hz; simp at hz), ex]; rfl
theorem rtokens_c (w : World) (l : List UInt8) :
    Calls Tryz.prog 21 #[.string (T l)] w fun e w' => ∃ rs : Sl, e = .returned (.tuple #[rs.v, .agg #[.int .i64 (tokensM l).2.1, .int .i64 (tokensM l).2.2]]) ∧ OwnK w.heap.size w' rs (tokensM l).1 ∧ Only [] w w' := by
  refine (pavaneref04_Tokens_wp (T l) (fun v w' => ∃ rs : Sl, v = (.tuple #[rs.v, .agg #[.int .i64 (tokensM l).2.1, .int .i64 (tokensM l).2.2]]) ∧ OwnK w.heap.size w' rs (tokensM l).1 ∧ Only [] w w') w ?_).mono (by
    rintro e w' ⟨v, rfl, rs, rfl, h⟩; exact ⟨rs, rfl, h⟩)
  unfold pavaneref04_Tokens_vc
  rw [T_size]
  refine ⟨fun hc k0 w0 _ _ hO => ⟨Sl.nil, ?_, ?_, hO⟩, fun hc k1 w1 hk1 hk1' hO1 => ?_⟩
  · rw [tokensM, if_pos (by have := of_decide_eq_true hc; omega)]
  · rw [tokensM, if_pos (by have := of_decide_eq_true hc; omega)]
    exact Own.nil _ _ _ _ _ _
  have hll : l.length ≤ 16384 := by have := of_decide_eq_false hc; omega
  have htm : tokensM l = match toks l 0 with
    | .error x => ([], x.1, (x.2 : Nat))
    | .ok r => (r, 0, 0) := by
      rw [tokensM, if_neg (by omega)] <;> rfl
  refine (rblanks_c w1 l 0 (Nat.zero_le _) (by omega)).mono ?_
  rintro _ w2 ⟨rfl, hO2⟩
  have z1 := hO1.size
  refine ⟨_, rfl, hO2.same (by simp; omega), fun nv s i e1 e2 w' => e1 = 0 ∧ e2 = 0 ∧ ∃ (j : Nat) (acc : List Tk), i = (j : Int) ∧ j ≤ l.length ∧ acc.length ≤ j ∧ skN false (l.drop j) = 0 ∧ toks l 0 = pre acc (toks l j) ∧ nv = l.length - j ∧ OwnK w1.heap.size w' s acc ∧ Only [] w1 w', l.length - (0 + skN false (l.drop 0)), ?_, ?_⟩
  · refine ⟨rfl, rfl, _, [], rfl, sk_in (Nat.zero_le _), Nat.zero_le _, ?_, ?_, rfl, Own.nil _ _ _ _ _ _, hO2⟩
    · rw [← List.drop_drop]
      exact sk_idem false (l.drop 0)
    · rw [← toks_skip (Nat.zero_le _)]
      cases toks l 0 <;> rfl
  rintro nv s _ _ _ w3 ⟨rfl, rfl, j, acc, rfl, hj, hal, hsk, htk, rfl, ho3, hO3⟩
  have z3 := hO3.size
  have hst := toks_step hj
  rw [hsk, Nat.add_zero] at hst
  -- one more, behind
  have app : ∀ {u : World} {r : Sl} (t : Tk), Only [] w1 u → OwnK w1.heap.size u r acc →
      ∃ y w4, (Instr.buildSlice 55 1 #[(0, t.v)]).run Tryz.prog u = .ok (Sl.v y) w4 ∧ Only [] u w4 ∧ ∃ s' w5, (Builtin.append_ #[55, 55] 55 #[Sl.v r, Sl.v y]).run Tryz.prog w4 = .ok (Sl.v s') w5 ∧ OwnK w1.heap.size w5 s' (acc ++ [t]) ∧ OnlyP (fun k => w1.heap.size ≤ k ∧ r.a = some ⟨k, 0, none⟩) w4 w5 ∧ Only [] w1 w5 := by
    intro u r t hu hr
    obtain ⟨y, w4, c1, c2, s', w5, c3, c4, c5⟩ := push_k t hr hu.size (Nat.le_trans (Nat.mul_le_mul_right 40 (show acc.length + 1 ≤ 16385 by omega)) (by decide))
    exact ⟨y, w4, c1, c2, s', w5, c3, c4, c5, ((hu.tr0 c2).p0 (F := fun k => w1.heap.size ≤ k) |>.trans c5 fun k hk => .inl hk.1).only fun k hk => hk⟩
  refine ⟨fun hc => ?_, fun hc => ?_⟩
  · have hlt : j < l.length := by have := of_decide_eq_true hc; omega
    rw [if_neg (by omega)] at hst
    refine (rtoken_c w3 l j hlt hll).mono ?_
    rintro _ w4 ⟨v, rfl, hv, hO4⟩
    have h14 := hO3.tr0 hO4
    have sm1 : Same [k1] w3 w4 := hO4.same (by simp; omega)
    have z4 := hO4.size
    unfold RTok at hv
    cases hq : tokR (l.drop j) with
    | error e =>
      rw [hq] at hv hst
      dsimp only at hv
      subst hv
      refine ⟨0, T [], 0, 0, 0, e, rfl, sm1, fun _ k4 w5 hk4 hk4' hO5 => ⟨Sl.nil, ?_, ?_, ?_⟩, fun he => absurd (tok_err hq) (by simpa using he)⟩
      · rw [htm, htk, hst]; rfl
      · rw [htm, htk, hst]
        exact Own.nil _ _ _ _ _ _
      · exact (hO1.tr0 h14).trans hO5 fun y hy => .inr (by simp only [List.mem_singleton] at hy; omega)
    | ok q =>
      rw [hq] at hv hst
      dsimp only at hv
      subst hv
      have hq1 := tok_len hq
      have hq2 := tok_le hq
      rw [List.length_drop] at hq2
      refine ⟨q.1, T q.2.1, q.2.2.1, (j : Int), (q.2.2.2 : Int), 0, rfl, sm1, fun he => (by simp at he), fun _ k5 w6 hk5 hk5' hO6 => ?_⟩
      have h16 := h14.tr0 hO6
      have z6 := hO6.size
      obtain ⟨y, w7, c1, c2, s', w8, c3, c4, c5, c6⟩ := app (u := w6) ⟨q.1, q.2.1, q.2.2.1, (j : Nat)⟩ h16 (ho3.only (hO4.tr0 hO6))
      have z7 := c2.size
      have z8 := c5.size
      have hk : ∀ k, s.a = some ⟨k, 0, none⟩ → w1.heap.size ≤ k ∧ k < w3.heap.size := fun k hk => ho3.blk hk
      refine ⟨y, w7, c1, c2.same (by simp; omega), s', w8, c3, c5.same (by
        intro x hx
        simp only [List.mem_cons, List.not_mem_nil, or_false] at hx
        refine ⟨by omega, fun e => ?_⟩
        have := hk x e.2
        omega), ?_⟩
      rw [wr' (x := (j : Int) + (q.2.2.2 : Int)) (by omega) (by omega), show (j : Int) + (q.2.2.2 : Int) = ((j + q.2.2.2 : Nat) : Int) by omega]
      refine (rblanks_c w8 l (j + q.2.2.2) (by omega) (by omega)).mono ?_
      rintro _ w9 ⟨rfl, hO9⟩
      have hin := sk_in (l := l) (i := j + q.2.2.2) (by omega)
      refine ⟨_, rfl, hO9.same (by simp; omega), l.length - (j + q.2.2.2 + skN false (l.drop (j + q.2.2.2))), by omega, rfl, rfl, _, _, rfl, hin, ?_, ?_, ?_, rfl, c4.only hO9, c6.tr0 hO9⟩
      · rw [List.length_append, List.length_singleton]; omega
      · rw [← List.drop_drop]
        exact sk_idem false _
      · rw [htk, hst, ← toks_skip (by omega), ← pre_pre]
        dsimp only
        cases toks l (j + q.2.2.2) <;> rfl
  · have hje : l.length ≤ j := by have := of_decide_eq_false hc; omega
    rw [if_pos hje] at hst
    have hjl : j = l.length := by omega
    obtain ⟨y, w10, c1, c2, s', w11, c3, c4, c5, c6⟩ := app (u := w3) ⟨5, [], 0, (j : Nat)⟩ hO3 ho3
    have z10 := c2.size
    have hk : ∀ k, s.a = some ⟨k, 0, none⟩ → w1.heap.size ≤ k ∧ k < w3.heap.size := fun k hk => ho3.blk hk
    have htt : tokensM l = (acc ++ [⟨5, [], 0, (j : Nat)⟩], 0, 0) := by
      rw [htm, htk, hst]; rfl
    have e : (l.length : Int) = (j : Int) := by omega
    rw [e]
    refine ⟨y, w10, c1, c2.same (by simp; omega), s', w11, c3, c5.same (by
      intro x hx
      simp only [List.mem_singleton] at hx
      refine ⟨by omega, fun e => ?_⟩
      have := hk x e.2
      omega), fun w12 hO12 => ⟨s', by rw [htt], ?_, ?_⟩⟩
    · rw [htt]
      have : OwnK w1.heap.size w12 s' _ := c4.keep fun k hk hlt => hO12.block k hlt (by simp only [List.mem_singleton]; have := hk.1; omega)
      exact Own.low this z1
    · exact (hO1.tr0 c6).trans hO12 fun y hy => .inr (by simp only [List.mem_singleton] at hy; omega)
end Go.Proofs.YtmanockofcopjaaGreatDoor.Con

namespace Go.Proofs.YtmanockofcopjaaGreatDoor.Con
open Go Go.RowKit Go.Kt Go.Kt.V Go.Proofs.YtmanockofcopjaaGreatDoor.Vc
set_option linter.unusedSimpArgs false
set_option linter.unusedVariables false
set_option maxHeartbeats 4000000

/-- the reader's block: tokens, place, how deep, fault -/
structure Rr (F : Nat → Prop) (ts : List Tk) (w : World) (b : Nat) (l : Sl) (i : Nat) (fc fa d : Int) : Prop where
  blk : Blk w b 178 [l.v, .int .i64 (i : Int), .int .i64 d, .int .i64 fc, .int .i64 fa]
  tok : SliceF rTk 4 w F l ts
  hF : ∀ k, F k → k < b
  en : EndL ts
  lt : i < ts.length
section
variable {F : Nat → Prop} {ts : List Tk} {w w' : World} {b : Nat} {l : Sl} {i : Nat} {fc fa d : Int}
theorem Rr.only (h : Rr F ts w b l i fc fa d) (hO : Only [] w w') : Rr F ts w' b l i fc fa d :=
  ⟨hO.blk h.blk (by simp), SliceF.only rTk_ok (by decide) h.tok hO (by simp), h.hF, h.en, h.lt⟩
theorem Rr.turn (h : Rr F ts w b l i fc fa d) (hO : Only [b] w w') {i' : Nat} {fc' fa' d' : Int} (hB : Blk w' b 178 [l.v, .int .i64 (i' : Int), .int .i64 d', .int .i64 fc', .int .i64 fa']) (hi : i' < ts.length) : Rr F ts w' b l i' fc' fa' d' :=
  ⟨hB, SliceF.only rTk_ok (by decide) h.tok hO fun k hk _ hm => by have := h.hF k hk; simp only [List.mem_singleton] at hm; omega, h.hF, h.en, hi⟩
theorem Rr.own (h : Rr F ts w b l i fc fa d) {bs : List Nat} (hO : Only bs w w') (hb : ∀ x, x ∈ bs → b < x) : Rr F ts w' b l i fc fa d :=
  ⟨hO.blk h.blk fun hm => by have := hb b hm; omega, SliceF.only rTk_ok (by decide) h.tok hO fun k hk _ hm => (by have := h.hF k hk; have := hb k hm; omega), h.hF, h.en, h.lt⟩
theorem Rr.lb (h : Rr F ts w b l i fc fa d) : b < w.heap.size := h.blk.lt
theorem Rr.big (h : Rr F ts w b l i fc fa d) : ts.length ≤ 9223372036854775807 := by
  have h1 := h.tok.len
  have h2 := h.tok.cap
  have h3 := h.tok.big
  omega
theorem Rr.now (h : Rr F ts w b l i fc fa d) : ∃ ad, SlAt l (i : Int) 4 ad ∧ Cells w ad [.int .i64 (tk ts i).k, .string (T (tk ts i).t), .int .i64 (tk ts i).n, .int .i64 (tk ts i).a] := by
  have hl := h.tok.len
  have hlt := h.lt
  obtain ⟨ad, x, cs, g1, g2, g3, g4, g5, g6⟩ := h.tok.get (Int.natCast_nonneg i) (by omega)
  rw [Int.toNat_natCast, tk_at h.lt] at g2
  injection g2 with g2
  subst g2
  unfold rTk at g6
  subst g6
  exact ⟨ad, g1, g5⟩
theorem rstop_c (h : Rr F ts w b l i fc fa d) (c : Int) : Calls Tryz.prog 167 #[.pointer (some ⟨b, 0, none⟩), .int .i64 c] w fun e w' => e = .returned (.tuple #[]) ∧ Only [b] w w' ∧
    Rr F ts w' b l i (if fc = 0 then c else fc) (if fc = 0 then (tk ts i).a else fa) d := by
  refine ret (pavaneref05_reader_stop_wp ⟨b, 0, none⟩ c (fun v w' => v = (.tuple #[]) ∧ Only [b] w w' ∧ Rr F ts w' b l i (if fc = 0 then c else fc) (if fc = 0 then (tk ts i).a else fa) d) w ?_)
  unfold pavaneref05_reader_stop_vc
  refine ⟨fc, Blk.at1 h.blk 3 rfl, fun hc w0 hO0 => ?_, fun hc => ?_⟩
  · have hc : fc = 0 := by simpa using hc
    subst hc
    have h0 := h.only hO0
    obtain ⟨ad, g1, g2⟩ := h0.now
    refine ⟨l, Blk.at1 h0.blk 0 rfl, _, Blk.at1 h0.blk 1 rfl, ad, g1, _, g2.at1 3 _ rfl, b, 3, _, _, rfl, h0.blk, by simp, fun w2 hO2 hB2 => ⟨rfl, hO0.weaken (fun _ h => (by cases h)) |>.trans hO2 (fun x hx => .inl hx), ?_⟩⟩
    rw [if_pos rfl, if_pos rfl]
    exact h0.turn hO2 hB2 h.lt
  · have hc : fc ≠ 0 := by simpa using hc
    rw [if_neg hc, if_neg hc]
    exact ⟨rfl, Only.refl _ _, h⟩
theorem rwrong_c (h : Rr F ts w b l i fc fa d) : Calls Tryz.prog 160 #[.pointer (some ⟨b, 0, none⟩)] w fun e w' => e = .returned (.tuple #[]) ∧ Only [b] w w' ∧
    Rr F ts w' b l i (if fc = 0 then (wrongF ts i).1 else fc) (if fc = 0 then (wrongF ts i).2 else fa) d := by
  refine ret (pavaneref05_reader_wrong_wp ⟨b, 0, none⟩ (fun v w' => v = (.tuple #[]) ∧ Only [b] w w' ∧ Rr F ts w' b l i (if fc = 0 then (wrongF ts i).1 else fc) (if fc = 0 then (wrongF ts i).2 else fa) d) w ?_)
  unfold pavaneref05_reader_wrong_vc
  obtain ⟨ad, g1, g2⟩ := h.now
  refine ⟨l, Blk.at1 h.blk 0 rfl, _, Blk.at1 h.blk 1 rfl, ad, g1, _, g2.at1 0 _ rfl, fun hc w0 hO0 => (rstop_c (h.only hO0) 3).mono ?_, fun hc w2 hO2 => (rstop_c (h.only hO2) 4).mono ?_⟩
  · have hc : (tk ts i).k = 5 := by simpa using hc
    rintro _ w1 ⟨rfl, hO1, hR⟩
    unfold wrongF
    rw [if_pos hc]
    exact ⟨rfl, rfl, hO0.weaken (fun _ h => (by cases h)) |>.trans hO1 (fun x hx => .inl hx), hR⟩
  · have hc : (tk ts i).k ≠ 5 := by simpa using hc
    rintro _ w1 ⟨rfl, hO1, hR⟩
    unfold wrongF
    rw [if_neg hc]
    exact ⟨rfl, rfl, hO2.weaken (fun _ h => (by cases h)) |>.trans hO1 (fun x hx => .inl hx), hR⟩
theorem xsign_c (h : Rr F ts w b l i fc fa d) (s : List UInt8) : Calls Tryz.prog 156 #[.pointer (some ⟨b, 0, none⟩), .string (T s)] w fun e w' => e = .returned (.bool (fc == 0 && sg ts i s)) ∧ Only [] w w' := by
  refine ret (pavaneref05_reader_sign_wp ⟨b, 0, none⟩ (T s) (fun v w' => v = (.bool (fc == 0 && sg ts i s)) ∧ Only [] w w') w ?_)
  unfold pavaneref05_reader_sign_vc
  intro w0 hO0
  have h0 := h.only hO0
  obtain ⟨ad, g1, g2⟩ := h0.now
  refine ⟨fun _ => True, trivial, l, Blk.at1 h0.blk 0 rfl, trivial, _, Blk.at1 h0.blk 1 rfl, ad, g1, trivial, _, _, _, _, g2, fun k0 w1 hk hk' hO1 => ⟨fc, Blk.at1 (h0.only hO1).blk 3 rfl, ?_, hO0.tr0 hO1⟩⟩
  rw [T_eq, Bool.and_assoc]
  rfl
theorem rmust_c (h : Rr F ts w b l i fc fa d) (s : List UInt8) : Calls Tryz.prog 158 #[.pointer (some ⟨b, 0, none⟩), .string (T s)] w fun e w' => e = .returned (.tuple #[]) ∧ Only [b] w w' ∧
    (if fc == 0 && sg ts i s then Rr F ts w' b l (i + 1) fc fa d else Rr F ts w' b l i (if fc = 0 then (wrongF ts i).1 else fc) (if fc = 0 then (wrongF ts i).2 else fa) d) := by
  refine ret (pavaneref05_reader_must_wp ⟨b, 0, none⟩ _ (fun v w' => v = (.tuple #[]) ∧ Only [b] w w' ∧ (if fc == 0 && sg ts i s then Rr F ts w' b l (i + 1) fc fa d else Rr F ts w' b l i (if fc = 0 then (wrongF ts i).1 else fc) (if fc = 0 then (wrongF ts i).2 else fa) d)) w ?_)
  unfold pavaneref05_reader_must_vc
  refine (xsign_c h s).mono ?_
  rintro _ w1 ⟨rfl, hO1⟩
  have h1 := h.only hO1
  have hO01 : Only [b] w w1 := hO1.weaken fun _ h => (by cases h)
  refine ⟨_, rfl, fun hc => (rwrong_c h1).mono ?_, fun hc => ?_⟩
  · rintro _ w2 ⟨rfl, hO2, hR⟩
    have hc : (fc == 0 && sg ts i s) = false := by rwa [Bool.not_eq_true'] at hc
    rw [hc]
    exact ⟨rfl, rfl, hO01.trans hO2 (fun x hx => .inl hx), hR⟩
  · have hc : (fc == 0 && sg ts i s) = true := by rwa [Bool.not_eq_false'] at hc
    rw [hc]
    simp only [Bool.and_eq_true] at hc
    have hn := h.en.next h.lt (sg_k hc.2)
    have hb := h.big
    refine ⟨(i : Int), Blk.at1 h1.blk 1 rfl, b, 1, _, _, rfl, h1.blk, by simp, fun w3 hO3 hB3 => ⟨rfl, hO01.trans hO3 (fun x hx => .inl hx), h1.turn hO3 ?_ hn⟩⟩
    rw [wr' (by omega) (by omega)] at hB3
    exact hB3
theorem rdown_c {d : Nat} (hd : d ≤ 20) (h : Rr F ts w b l i 0 0 (d : Int)) (hn : i + 1 < ts.length) : Calls Tryz.prog 157 #[.pointer (some ⟨b, 0, none⟩)] w fun e w' => e = .returned (.bool (!decide (d = 20))) ∧ Only [b] w w' ∧
    (if d = 20 then Rr F ts w' b l i 21 (tk ts i).a (d : Int) else Rr F ts w' b l (i + 1) 0 0 ((d + 1 : Nat) : Int)) := by
  refine ret (pavaneref05_reader_down_wp ⟨b, 0, none⟩ (fun v w' => v = .bool (!decide (d = 20)) ∧ Only [b] w w' ∧ (if d = 20 then Rr F ts w' b l i 21 (tk ts i).a (d : Int) else Rr F ts w' b l (i + 1) 0 0 ((d + 1 : Nat) : Int))) w ?_)
  unfold pavaneref05_reader_down_vc
  have hb := h.big
  refine ⟨(d : Int), Blk.at1 h.blk 2 rfl, fun hc => (rstop_c h 21).mono ?_, fun hc => ?_⟩
  · have hc : d = 20 := by
      have : (d : Int) = 20 := by simpa using hc
      omega
    rintro _ w1 ⟨rfl, hO1, hR⟩
    rw [if_pos rfl, if_pos rfl] at hR
    refine ⟨rfl, by rw [decide_eq_true hc]; rfl, hO1, ?_⟩
    rw [if_pos hc]
    exact hR
  · have hc : d ≠ 20 := fun e => by subst e; simp at hc
    refine ⟨(d : Int), Blk.at1 h.blk 2 rfl, b, 2, _, _, rfl, h.blk, by simp, fun w1 hO1 hB1 => ?_⟩
    rw [wr' (by omega) (by omega)] at hB1
    have h1 : Rr F ts w1 b l i 0 0 ((d + 1 : Nat) : Int) := h.turn hO1 hB1 h.lt
    refine ⟨(i : Int), Blk.at1 h1.blk 1 rfl, b, 1, _, _, rfl, h1.blk, by simp, fun w2 hO2 hB2 => ?_⟩
    rw [wr' (by omega) (by omega)] at hB2
    refine ⟨by rw [decide_eq_false hc]; rfl, hO1.trans hO2 fun x hx => .inl hx, ?_⟩
    rw [if_neg hc]
    exact h1.turn hO2 hB2 hn
end

/-! ## the grammar's rows -/
def rowsL : List (List (List UInt8)) := [[[124, 124]], [[38, 38]], [[61, 61], [33, 61]], [[60], [60, 61], [62], [62, 61]], [[43], [45]], [[42], [47], [37]]]
def numsL : List (List Int) := [[13], [12], [10, 11], [6, 7, 8, 9], [1, 2], [3, 4, 5]]
def rNum : Rp Int := fun _ _ x cs => cs = [.int .i64 x]
theorem rNum_ok : rNum.Ok where
  keep h _ := h
  inHeap h := h
  mono h _ := h
  one := by
    rintro w F x cs rfl v hv
    simp only [List.mem_singleton] at hv
    subst hv; rfl
/-- a row of rows -/
def rRow {α : Type} (r : Rp α) : Rp (List α) := fun w F xs cs => ∃ s : Sl, cs = [s.v] ∧ SliceF r 1 w F s xs
theorem rRow_ok {α : Type} {r : Rp α} (hr : r.Ok) : (rRow r).Ok where
  keep := fun ⟨s, h1, h2⟩ hk => ⟨s, h1, SliceF.keep hr h2 (by decide) hk⟩
  inHeap := fun ⟨s, h1, h2⟩ => ⟨s, h1, SliceF.inHeap hr h2 (by decide)⟩
  mono := fun ⟨s, h1, h2⟩ hk => ⟨s, h1, SliceF.mono hr h2 hk⟩
  one := by
    rintro w F x cs ⟨s, rfl, _⟩ v hv
    simp only [List.mem_singleton] at hv
    subst hv; rfl
theorem buildN (w : World) (l : List Int) {n : Nat} {parts : Array (Nat × Value)} (hp : parts = (((l.map fun x => Value.int .i64 x).zipIdx 0).map fun x => (x.2, x.1)).toArray) (hn : l.length = n) (h0 : 0 < n) (hsm : n * 1 ≤ 16777216) :
    ∃ s w', (Instr.buildSlice 26 n parts).run Tryz.prog w = .ok (Sl.v s) w' ∧ Own rNum 1 3 w.heap.size w' (fun _ => True) s l ∧ Only [] w w' := by
  have hE : Els rNum 1 w (fun _ => True) l ((l.map fun x => Value.int .i64 x).map fun v => v.cells.toList) := by
    clear hp hn
    induction l with
    | nil => trivial
    | cons x l ih => exact ⟨⟨rfl, rfl⟩, ih⟩
  obtain ⟨s, w', h1, h2, h3, _⟩ := build_own (P := Tryz.prog) (t := 26) (e := 3) (i := Tryz.t3) (r := rNum) (size := 1) (by kernel_rfl) (by kernel_rfl) rfl rfl (by decide) hp (by rw [List.length_map]; exact hn) h0 hsm rNum_ok hE
  exact ⟨s, w', h1, h2, h3⟩
theorem buildR {α : Type} {r : Rp α} (hr : r.Ok) {t e : TypeId} {ti : TypeInfo} (ht : Tryz.prog.underlying t = some (.slice e)) (hi : Tryz.prog.info? e = some ti) {z : Value} (hz : ti.zero = some z) (hs : ti.size = 1) {w : World} {F : Nat → Prop} {xs : List (List α)} (ss : List Sl) {n : Nat} {parts : Array (Nat × Value)} (hp : parts = (((ss.map fun s => s.v).zipIdx 0).map fun x => (x.2, x.1)).toArray) (hn : ss.length = n) (h0 : 0 < n) (hsm : n * 1 ≤ 16777216)
    (hE : All2 (fun x (s : List Value) => s.length = 1 ∧ rRow r w F x s) xs (ss.map fun s => [s.v])) :
    ∃ s w', (Instr.buildSlice t n parts).run Tryz.prog w = .ok (Sl.v s) w' ∧ SliceF (rRow r) 1 w' (fun k => F k ∨ w.heap.size ≤ k) s xs ∧ Only [] w w' := by
  have hE' : Els (rRow r) 1 w F xs ((ss.map fun s => s.v).map fun v => v.cells.toList) := by
    have : ((ss.map fun s => s.v).map fun v => v.cells.toList) = ss.map fun s => [s.v] := by
      rw [List.map_map]
      rfl
    rw [this]
    exact hE
  obtain ⟨s, w', h1, h2, h3, _⟩ := build_own (P := Tryz.prog) (t := t) (e := e) (i := ti) (r := rRow r) (size := 1) ht hi hz hs (by decide) hp (by rw [List.length_map]; exact hn) h0 hsm (rRow_ok hr) hE'
  exact ⟨s, w', h1, SliceF.mono (rRow_ok hr) (h2.slice (rRow_ok hr)) (fun k hk => hk.imp id fun h => h.1), h3⟩
theorem rows_c (w : World) : Calls Tryz.prog 161 #[] w fun e w' => ∃ s : Sl, e = .returned s.v ∧ SliceF (rRow rTx) 1 w' (fun k => w.heap.size ≤ k) s rowsL ∧ Only [] w w' := by
  refine (pavaneref05_rows_wp (fun v w' => ∃ s : Sl, v = s.v ∧ SliceF (rRow rTx) 1 w' (fun k => w.heap.size ≤ k) s rowsL ∧ Only [] w w') w ?_).mono (by
    rintro e w' ⟨v, rfl, s, rfl, h⟩; exact ⟨s, rfl, h⟩)
  unfold pavaneref05_rows_vc
  obtain ⟨s0, w0, a0, b0, c0⟩ := buildS w [[124, 124]] (n := 1) (parts := #[(0, .string (T [124, 124]))]) rfl rfl (by decide) (by decide)
  obtain ⟨s1, w1, a1, b1, c1⟩ := buildS w0 [[38, 38]] (n := 1) (parts := #[(0, .string (T [38, 38]))]) rfl rfl (by decide) (by decide)
  obtain ⟨s2, w2, a2, b2, c2⟩ := buildS w1 [[61, 61], [33, 61]] (n := 2) (parts := #[(0, .string (T [61, 61])), (1, .string (T [33, 61]))]) rfl rfl (by decide) (by decide)
  obtain ⟨s3, w3, a3, b3, c3⟩ := buildS w2 [[60], [60, 61], [62], [62, 61]] (n := 4) (parts := #[(0, .string (T [60])), (1, .string (T [60, 61])), (2, .string (T [62])), (3, .string (T [62, 61]))]) rfl rfl (by decide) (by decide)
  obtain ⟨s4, w4, a4, b4, c4⟩ := buildS w3 [[43], [45]] (n := 2) (parts := #[(0, .string (T [43])), (1, .string (T [45]))]) rfl rfl (by decide) (by decide)
  obtain ⟨s5, w5, a5, b5, c5⟩ := buildS w4 [[42], [47], [37]] (n := 3) (parts := #[(0, .string (T [42])), (1, .string (T [47])), (2, .string (T [37]))]) rfl rfl (by decide) (by decide)
  have z0 := c0.size
  have z1 := c1.size
  have z2 := c2.size
  have z3 := c3.size
  have z4 := c4.size
  have mk : ∀ {u u' : World} {s : Sl} {l : List (List UInt8)}, w.heap.size ≤ u.heap.size → ∀ {v : World}, Own rTx 1 9 u.heap.size v (fun _ => True) s l → Only [] v u' → [s.v].length = 1 ∧ rRow rTx u' (fun k => w.heap.size ≤ k) l [s.v] := fun hu v hB hO => ⟨rfl, _, rfl, SliceF.only rTx_ok (by decide) (SliceF.mono rTx_ok (flatS hB) fun k hk => by have := hk.1; omega) hO (by simp)⟩
  obtain ⟨s6, w6, a6, b6, c6⟩ := buildR (r := rTx) rTx_ok (t := 192) (e := 25) (ti := Tryz.t25) (by kernel_rfl) (by kernel_rfl) rfl rfl (w := w5) (F := fun k => w.heap.size ≤ k) (xs := rowsL) [s0, s1, s2, s3, s4, s5] (n := 6) (parts := #[(0, s0.v), (1, s1.v), (2, s2.v), (3, s3.v), (4, s4.v), (5, s5.v)]) rfl rfl (by decide) (by decide)
    ⟨mk (Nat.le_refl _) b0 (((((c1.tr0 c2).tr0 c3).tr0 c4).tr0 c5)), mk (by omega) b1 ((((c2.tr0 c3).tr0 c4).tr0 c5)), mk (by omega) b2 ((c3.tr0 c4).tr0 c5), mk (by omega) b3 (c4.tr0 c5), mk (by omega) b4 c5, mk (by omega) b5 (Only.refl _ _), trivial⟩
  have z5 := c5.size
  exact ⟨s0, w0, a0, s1, w1, a1, s2, w2, a2, s3, w3, a3, s4, w4, a4, s5, w5, a5, s6, w6, a6, s6, rfl, SliceF.mono (rRow_ok rTx_ok) b6 (fun k hk => by rcases hk with hk | hk <;> omega), (((((c0.tr0 c1).tr0 c2).tr0 c3).tr0 c4).tr0 c5).tr0 c6⟩
theorem nums_c (w : World) : Calls Tryz.prog 162 #[] w fun e w' => ∃ s : Sl, e = .returned s.v ∧ SliceF (rRow rNum) 1 w' (fun k => w.heap.size ≤ k) s numsL ∧ Only [] w w' := by
  refine (pavaneref05_numbers_wp (fun v w' => ∃ s : Sl, v = s.v ∧ SliceF (rRow rNum) 1 w' (fun k => w.heap.size ≤ k) s numsL ∧ Only [] w w') w ?_).mono (by
    rintro e w' ⟨v, rfl, s, rfl, h⟩; exact ⟨s, rfl, h⟩)
  unfold pavaneref05_numbers_vc
  obtain ⟨s0, w0, a0, b0, c0⟩ := buildN w [13] (n := 1) (parts := #[(0, .int .i64 13)]) rfl rfl (by decide) (by decide)
  obtain ⟨s1, w1, a1, b1, c1⟩ := buildN w0 [12] (n := 1) (parts := #[(0, .int .i64 12)]) rfl rfl (by decide) (by decide)
  obtain ⟨s2, w2, a2, b2, c2⟩ := buildN w1 [10, 11] (n := 2) (parts := #[(0, .int .i64 10), (1, .int .i64 11)]) rfl rfl (by decide) (by decide)
  obtain ⟨s3, w3, a3, b3, c3⟩ := buildN w2 [6, 7, 8, 9] (n := 4) (parts := #[(0, .int .i64 6), (1, .int .i64 7), (2, .int .i64 8), (3, .int .i64 9)]) rfl rfl (by decide) (by decide)
  obtain ⟨s4, w4, a4, b4, c4⟩ := buildN w3 [1, 2] (n := 2) (parts := #[(0, .int .i64 1), (1, .int .i64 2)]) rfl rfl (by decide) (by decide)
  obtain ⟨s5, w5, a5, b5, c5⟩ := buildN w4 [3, 4, 5] (n := 3) (parts := #[(0, .int .i64 3), (1, .int .i64 4), (2, .int .i64 5)]) rfl rfl (by decide) (by decide)
  have z0 := c0.size
  have z1 := c1.size
  have z2 := c2.size
  have z3 := c3.size
  have z4 := c4.size
  have mk : ∀ {u u' : World} {s : Sl} {l : List Int}, w.heap.size ≤ u.heap.size → ∀ {v : World}, Own rNum 1 3 u.heap.size v (fun _ => True) s l → Only [] v u' → [s.v].length = 1 ∧ rRow rNum u' (fun k => w.heap.size ≤ k) l [s.v] := fun hu v hB hO => ⟨rfl, _, rfl, SliceF.only rNum_ok (by decide) (SliceF.mono rNum_ok (flatO rNum_ok (fun _ _ _ _ _ h => h) hB) fun k hk => by have := hk.1; omega) hO (by simp)⟩
  obtain ⟨s6, w6, a6, b6, c6⟩ := buildR (r := rNum) rNum_ok (t := 194) (e := 26) (ti := Tryz.t26) (by kernel_rfl) (by kernel_rfl) rfl rfl (w := w5) (F := fun k => w.heap.size ≤ k) (xs := numsL) [s0, s1, s2, s3, s4, s5] (n := 6) (parts := #[(0, s0.v), (1, s1.v), (2, s2.v), (3, s3.v), (4, s4.v), (5, s5.v)]) rfl rfl (by decide) (by decide)
    ⟨mk (Nat.le_refl _) b0 (((((c1.tr0 c2).tr0 c3).tr0 c4).tr0 c5)), mk (by omega) b1 ((((c2.tr0 c3).tr0 c4).tr0 c5)), mk (by omega) b2 ((c3.tr0 c4).tr0 c5), mk (by omega) b3 (c4.tr0 c5), mk (by omega) b4 c5, mk (by omega) b5 (Only.refl _ _), trivial⟩
  have z5 := c5.size
  exact ⟨s0, w0, a0, s1, w1, a1, s2, w2, a2, s3, w3, a3, s4, w4, a4, s5, w5, a5, s6, w6, a6, s6, rfl, SliceF.mono (rRow_ok rNum_ok) b6 (fun k hk => by rcases hk with hk | hk <;> omega), (((((c0.tr0 c1).tr0 c2).tr0 c3).tr0 c4).tr0 c5).tr0 c6⟩
/-- the first sign of a row that stands there, its number -/
def firstR (ts : List Tk) (i : Nat) : List (List UInt8) → List Int → Int
  | s :: ss, n :: ns => if sg ts i s = true then n else firstR ts i ss ns
  | _, _ => 0
theorem first_op (ts : List Tk) (i k : Nat) (hk : k < 6) : firstR ts i ((rowsL[k]?).getD []) ((numsL[k]?).getD []) = opAt ts (k : Int) i := by
  match k, hk with
  | 0, _ => simp [opAt, opFrom, rowOf, firstR, rowsL, numsL, opTx, opsL]
  | 1, _ => simp [opAt, opFrom, rowOf, firstR, rowsL, numsL, opTx, opsL]
  | 2, _ => simp [opAt, opFrom, rowOf, firstR, rowsL, numsL, opTx, opsL]
  | 3, _ => simp [opAt, opFrom, rowOf, firstR, rowsL, numsL, opTx, opsL]
  | 4, _ => simp [opAt, opFrom, rowOf, firstR, rowsL, numsL, opTx, opsL]
  | 5, _ => simp [opAt, opFrom, rowOf, firstR, rowsL, numsL, opTx, opsL]
theorem first_drop {ts : List Tk} {i : Nat} {ss : List (List UInt8)} {ns : List Int} {n : Nat} {s : List UInt8} {m : Int} (h1 : ss[n]? = some s) (h2 : ns[n]? = some m) : firstR ts i (ss.drop n) (ns.drop n) = if sg ts i s = true then m else firstR ts i (ss.drop (n + 1)) (ns.drop (n + 1)) := by
  rw [List.drop_eq_getElem_cons (List.getElem?_eq_some_iff.1 h1).1, (List.getElem?_eq_some_iff.1 h1).2, List.drop_eq_getElem_cons (List.getElem?_eq_some_iff.1 h2).1, (List.getElem?_eq_some_iff.1 h2).2, firstR]
theorem rows_len (k : Nat) : ((rowsL[k]?).getD []).length = ((numsL[k]?).getD []).length := by
  rcases Nat.lt_or_ge k 6 with h | h
  · match k, h with
    | 0, _ => rfl
    | 1, _ => rfl
    | 2, _ => rfl
    | 3, _ => rfl
    | 4, _ => rfl
    | 5, _ => rfl
  · rw [List.getElem?_eq_none (by exact h), List.getElem?_eq_none (by exact h)]
    rfl
section
variable {F : Nat → Prop} {ts : List Tk} {w w' : World} {b : Nat} {l : Sl} {i : Nat} {fc fa d : Int}
theorem xrow_c (h : Rr F ts w b l i fc fa d) {k : Nat} (hk : k < 6) : Calls Tryz.prog 148 #[.pointer (some ⟨b, 0, none⟩), .int .i64 (k : Int)] w fun e w' => e = .returned (.int .i64 (if fc = 0 then opAt ts (k : Int) i else 0)) ∧ Only [] w w' := by
  refine ret (pavaneref05_reader_row_wp ⟨b, 0, none⟩ (k : Int) (fun v w' => v = .int .i64 (if fc = 0 then opAt ts (k : Int) i else 0) ∧ Only [] w w') w ?_)
  unfold pavaneref05_reader_row_vc
  refine (rows_c w).mono ?_
  rintro _ w0 ⟨l0, rfl, hR, hO0⟩
  have n0 := hR.len
  have n6 : rowsL.length = 6 := rfl
  obtain ⟨p0, x0, cs0, g1, g2, g3, g4, g5, s1, rfl, hS⟩ := hR.get (Int.natCast_nonneg k) (by omega)
  rw [Int.toNat_natCast] at g2
  refine ⟨l0, rfl, p0, g1, s1, g5, (nums_c w0).mono ?_⟩
  rintro _ w1 ⟨l2, rfl, hN, hO1⟩
  have m0 := hN.len
  have m6 : numsL.length = 6 := rfl
  obtain ⟨p1, x1, cs1, e1, e2, e3, e4, e5, s3, rfl, hM⟩ := hN.get (Int.natCast_nonneg k) (by omega)
  rw [Int.toNat_natCast] at e2
  have hfo := first_op ts i k hk
  have hrl := rows_len k
  rw [g2, e2, Option.getD_some, Option.getD_some] at hfo hrl
  have t1 := hS.len
  have t2 := hM.len
  have t3 := hS.cap
  have t4 := hS.big
  refine ⟨l2, rfl, p1, e1, s3, e5, fun nv j w' => ∃ n : Nat, n ≤ x0.length ∧ j = (n : Int) ∧ nv = x0.length - n ∧ (fc = 0 → firstR ts i x0 x1 = firstR ts i (x0.drop n) (x1.drop n)) ∧ Only [] w1 w', x0.length, ⟨0, Nat.zero_le _, rfl, rfl, fun _ => rfl, Only.refl _ _⟩, ?_⟩
  rintro nv _ w2 ⟨n, hn, rfl, rfl, hf, hO2⟩
  have hO02 := (hO0.tr0 hO1).tr0 hO2
  refine ⟨fun hlt => ?_, fun hge => ?_⟩
  · have hlt : (n : Int) < (s1.n : Int) := of_decide_eq_true hlt
    obtain ⟨p2, sg0, cs2, q1, q2, q3, q4, q5, q6⟩ := (SliceF.only rTx_ok (by decide) hS (hO1.tr0 hO2) (by simp)).get (Int.natCast_nonneg n) hlt
    unfold rTx at q6
    subst q6
    rw [Int.toNat_natCast] at q2
    refine ⟨p2, q1, _, q5, (xsign_c (h.only hO02) sg0).mono ?_⟩
    rintro _ w3 ⟨rfl, hO3⟩
    obtain ⟨p3, m, cs3, r1, r2, r3, r4, r5, r6⟩ := (SliceF.only rNum_ok (by decide) hM (hO2.tr0 hO3) (by simp)).get (i := (n : Int)) (Int.natCast_nonneg n) (by omega)
    unfold rNum at r6
    subst r6
    rw [Int.toNat_natCast] at r2
    have hst := first_drop (ts := ts) (i := i) q2 r2
    refine ⟨_, rfl, fun hb => ⟨p3, r1, m, r5, ?_, hO02.tr0 hO3⟩, fun hb => ⟨x0.length - (n + 1), by omega, n + 1, by omega, by rw [wr' (by omega) (by omega)]; rfl, rfl, fun h0 => ?_, hO2.tr0 hO3⟩⟩
    · simp only [Bool.and_eq_true, beq_iff_eq] at hb
      rw [if_pos hb.1, ← hfo, hf hb.1, hst, if_pos hb.2]
    · rw [hf h0, hst, if_neg]
      intro hs
      rw [h0, hs] at hb
      exact absurd hb (by decide)
  · have hge : ¬ (n : Int) < (s1.n : Int) := of_decide_eq_false hge
    refine ⟨?_, hO02⟩
    by_cases h0 : fc = 0
    · rw [if_pos h0, ← hfo, hf h0, List.drop_of_length_le (by omega)]
      rfl
    · rw [if_neg h0]
end
end Go.Proofs.YtmanockofcopjaaGreatDoor.Con

namespace Go.Proofs.YtmanockofcopjaaGreatDoor.Con
open Go Go.RowKit Go.Kt Go.Kt.V Go.Proofs.YtmanockofcopjaaGreatDoor.Vc
set_option linter.unusedSimpArgs false
set_option linter.unusedVariables false
set_option maxHeartbeats 4000000

/-- what a reading comes to -/
def Did6 (F : Nat → Prop) (ts : List Tk) (w w' : World) (b : Nat) (l : Sl) (d : Nat) (r : Pr) (v : Value) : Prop := Only [b] w w' ∧ match r with
  | .ok (x, j) => ∃ cs, v = .agg cs.toArray ∧ RX w' w.heap.size w'.heap.size x cs ∧ Rr F ts w' b l j 0 0 (d : Int)
  | .error e => e.1 ≠ 0 ∧ exT v ∧ ∃ j, Rr F ts w' b l j e.1 e.2 (d : Int)
section
variable {F : Nat → Prop} {ts : List Tk} {w w' : World} {b : Nat} {l : Sl} {i : Nat} {fc fa : Int}
theorem Did6.typed {d : Nat} {r : Pr} {v : Value} (h : Did6 F ts w w' b l d r v) : exT v := by
  obtain ⟨_, h⟩ := h
  cases r with
  | error e => exact h.2.1
  | ok q =>
    obtain ⟨cs, rfl, hx, _⟩ := h
    obtain ⟨sl, rfl, _⟩ := hx.cells
    exact ⟨_, _, _, _, _, _, rfl⟩
theorem Did6.around {w0 w1 w2 w3 : World} {d : Nat} {r : Pr} {v : Value} (h : Did6 F ts w1 w2 b l d r v) (hO0 : Only [b] w0 w1) {bs : List Nat} (hO2 : Only bs w2 w3) (hb : ∀ x, x ∈ bs → b < x ∧ w0.heap.size ≤ x ∧ x < w1.heap.size) : Did6 F ts w0 w3 b l d r v := by
  obtain ⟨hO, h⟩ := h
  have z0 := hO0.size
  have z1 := hO.size
  have z2 := hO2.size
  refine ⟨(hO0.trans hO fun x hx => .inl hx).trans hO2 fun x hx => .inr (hb x hx).2.1, ?_⟩
  cases r with
  | error e =>
    obtain ⟨h1, h2, j, h3⟩ := h
    exact ⟨h1, h2, j, h3.own hO2 fun x hx => (hb x hx).1⟩
  | ok q =>
    obtain ⟨cs, h1, h2, h3⟩ := h
    exact ⟨cs, h1, (h2.only hO2 fun x hx => .inl (hb x hx).2.2).wide z0 z2, h3.own hO2 fun x hx => (hb x hx).1⟩
theorem exT0 : exT (.agg #[.int .i64 0, .int .i64 0, .string (ByteArray.mk #[]), .int .i64 0, Sl.nil.v, .int .i64 0]) := ⟨0, 0, [], 0, Sl.nil, 0, rfl⟩
theorem rin_c {d : Nat} (h : Rr F ts w b l i 0 0 (d : Int)) (hn : i + 1 < ts.length) : Calls Tryz.prog 159 #[.pointer (some ⟨b, 0, none⟩)] w fun e w' => ∃ v, e = .returned v ∧ Did6 F ts w w' b l d (inR ts i) v := by
  refine pavaneref05_reader_in_wp ⟨b, 0, none⟩ (fun v w' => Did6 F ts w w' b l d (inR ts i) v) w ?_
  unfold pavaneref05_reader_in_vc
  intro k0 w0 hk0 hk0' hO0
  have hb := h.lb
  have hbg := h.big
  have z0 := hO0.size
  have h0 := h.only hO0
  obtain ⟨ad, g1, g2⟩ := h0.now
  refine ⟨fun _ => True, trivial, l, Blk.at1 h0.blk 0 rfl, trivial, _, Blk.at1 h0.blk 1 rfl, ad, g1, trivial, _, g2.at1 3 _ rfl, fun k1 w1 hk1 hk1' hO1 => ?_⟩
  have z1 := hO1.size
  have h1 := h0.only hO1
  have hO01 := hO0.tr0 hO1
  have sm : ∀ {u u' : World}, w1.heap.size ≤ u.heap.size → Only [b] u u' → Same [k0, k1] u u' := fun hu hO => hO.same (by intro x hx; simp only [List.mem_cons, List.not_mem_nil, or_false] at hx ⊢; omega)
  refine ⟨(i : Int), Blk.at1 h1.blk 1 rfl, b, 1, _, _, rfl, h1.blk, by simp, by omega, by omega, fun w2 hO2 hB2 => ?_⟩
  rw [wr' (by omega) (by omega)] at hB2
  have h2 : Rr F ts w2 b l (i + 1) 0 0 (d : Int) := h1.turn hO2 hB2 hn
  have z2 := hO2.size
  have hO02 : Only [b] w w2 := (hO01.weaken fun _ h => (by cases h)).trans hO2 fun x hx => .inl hx
  refine (rmust_c h2 [40]).mono ?_
  rintro _ w3 ⟨rfl, hO3, hR3⟩
  have z3 := hO3.size
  have hO03 := hO02.trans hO3 fun x hx => .inl hx
  refine ⟨rfl, sm (by omega) hO3, ?_⟩
  rw [show ((0 : Int) == 0) = true from rfl, Bool.true_and, if_pos rfl, if_pos rfl] at hR3
  have own0 : ∀ {u u' : World}, Only [b] w u → Only [k0] u u' → Only [b] w u' := fun h1 h2 => h1.new h2 hk0
  by_cases hs : sg ts (i + 1) [40] = true
  · rw [if_pos hs] at hR3
    refine ⟨0, Blk.at1 hR3.blk 3 rfl, fun hc => (by simp at hc), fun _ => ?_⟩
    obtain ⟨ad3, u1, u2⟩ := hR3.now
    refine ⟨l, Blk.at1 hR3.blk 0 rfl, _, Blk.at1 hR3.blk 1 rfl, ad3, u1, _, u2.at1 0 _ rfl, fun hc w5 hO5 => (rwrong_c (hR3.only hO5)).mono ?_, fun hc w8 hO8 => ?_⟩
    · have hc : (tk ts (i + 2)).k ≠ 1 := by simpa using hc
      rintro _ w6 ⟨rfl, hO6, hR6⟩
      rw [if_pos rfl, if_pos rfl] at hR6
      have z5 := hO5.size
      refine ⟨rfl, sm (by omega) hO6, fun w7 hO7 => ⟨own0 ((hO03.tr0 hO5).trans hO6 fun x hx => .inl hx) hO7, ?_⟩⟩
      rw [inR, if_pos hs, if_neg hc]
      exact ⟨wrongF_ne, ⟨_, _, [], _, _, _, rfl⟩, i + 2, hR6.own hO7 (by simp; omega)⟩
    · have hc : (tk ts (i + 2)).k = 1 := by simpa using hc
      have z8 := hO8.size
      have h8 := hR3.only hO8
      obtain ⟨ad8, v1, v2⟩ := h8.now
      refine ⟨l, Blk.at1 h8.blk 0 rfl, _, Blk.at1 h8.blk 1 rfl, ad8, v1, _, v2.at1 1 _ rfl, fun w9 hO9 => ?_⟩
      have z9 := hO9.size
      have h9 := h8.own hO9 (by simp; omega)
      have hO09 : Only [b] w w9 := (hO03.tr0 hO8).new hO9 (by omega)
      have hn3 := h.en.next hR3.lt (by show (tk ts (i + 2)).k ≠ 5; rw [hc]; decide)
      refine ⟨_, Blk.at1 h9.blk 1 rfl, b, 1, _, _, rfl, h9.blk, by simp, by omega, by omega, fun w10 hO10 hB10 => ?_⟩
      rw [wr' (by omega) (by omega)] at hB10
      have h10 : Rr F ts w10 b l (i + 1 + 1 + 1) 0 0 (d : Int) := h9.turn hO10 hB10 hn3
      have z10 := hO10.size
      refine (rmust_c h10 [41]).mono ?_
      rintro _ w11 ⟨rfl, hO11, hR11⟩
      have z11 := hO11.size
      refine ⟨rfl, sm (by omega) hO11, fun w12 hO12 => ⟨own0 ((hO09.trans hO10 fun x hx => .inl hx).trans hO11 fun x hx => .inl hx) hO12, ?_⟩⟩
      rw [show ((0 : Int) == 0) = true from rfl, Bool.true_and, if_pos rfl, if_pos rfl] at hR11
      rw [inR, if_pos hs, if_pos hc]
      by_cases hs2 : sg ts (i + 3) [41] = true
      · rw [if_pos hs2]
        rw [if_pos (show sg ts (i + 1 + 1 + 1) [41] = true from hs2)] at hR11
        exact ⟨_, rfl, .leaf .., hR11.own hO12 (by simp; omega)⟩
      · rw [if_neg hs2]
        rw [if_neg (show ¬ sg ts (i + 1 + 1 + 1) [41] = true from hs2)] at hR11
        exact ⟨wrongF_ne, ⟨_, _, _, _, _, _, rfl⟩, i + 1 + 1 + 1, hR11.own hO12 (by simp; omega)⟩
  · rw [if_neg hs] at hR3
    refine ⟨_, Blk.at1 hR3.blk 3 rfl, fun hc w4 hO4 => ⟨own0 hO03 hO4, ?_⟩, fun hc => absurd (by simpa using hc) (wrongF_ne (ts := ts) (i := i + 1))⟩
    rw [inR, if_neg hs]
    exact ⟨wrongF_ne, ⟨_, _, [], _, _, _, rfl⟩, i + 1, hR3.own hO4 (by simp; omega)⟩
theorem rone_c {f d : Nat} (hd : d ≤ 20) (h : Rr F ts w b l i 0 0 (d : Int))
    (hE : d ≠ 20 → ∀ w i, Rr F ts w b l i 0 0 ((d + 1 : Nat) : Int) → Calls Tryz.prog 139 #[.pointer (some ⟨b, 0, none⟩), .int .i64 0] w fun e w' => ∃ v, e = .returned v ∧ Did6 F ts w w' b l (d + 1) (exprR ts f 0 (d + 1) i) v)
    (hOne : d ≠ 20 → ∀ w i, Rr F ts w b l i 0 0 ((d + 1 : Nat) : Int) → Calls Tryz.prog 147 #[.pointer (some ⟨b, 0, none⟩)] w fun e w' => ∃ v, e = .returned v ∧ Did6 F ts w w' b l (d + 1) (exprR ts f 6 (d + 1) i) v) :
    Calls Tryz.prog 147 #[.pointer (some ⟨b, 0, none⟩)] w fun e w' => ∃ v, e = .returned v ∧ Did6 F ts w w' b l d (exprR ts (f + 1) 6 d i) v := by
  have eR : exprR ts (f + 1) 6 d i = oneR ts (exprR ts f 0 (d + 1)) (exprR ts f 6 (d + 1)) d i := by rw [exprR, if_pos rfl]
  rw [eR]
  generalize hgE : exprR ts f 0 (d + 1) = E0 at *
  generalize hgO : exprR ts f 6 (d + 1) = One at *
  generalize hR : oneR ts E0 One d i = R
  rw [oneR] at hR
  refine pavaneref05_reader_one_wp ⟨b, 0, none⟩ (fun v w' => Did6 F ts w w' b l d R v) w ?_
  unfold pavaneref05_reader_one_vc
  intro k0 w0 hk0 hk0' hO0
  have hb := h.lb
  have hbg := h.big
  have z0 := hO0.size
  have h0 := h.only hO0
  obtain ⟨ad, g1, g2⟩ := h0.now
  refine ⟨fun _ => True, trivial, l, Blk.at1 h0.blk 0 rfl, trivial, _, Blk.at1 h0.blk 1 rfl, ad, g1, trivial, _, _, _, _, g2, fun k1 w1 hk1 hk1' hO1 => ?_⟩
  have z1 := hO1.size
  have h1 := h0.only hO1
  have sm : ∀ {u u' : World}, w1.heap.size ≤ u.heap.size → Only [b] u u' → Same [k0, k1] u u' := fun hu hO => hO.same (by intro x hx; simp only [List.mem_cons, List.not_mem_nil, or_false] at hx ⊢; omega)
  have sm0 : ∀ {u u' : World}, w1.heap.size ≤ u.heap.size → Only [] u u' → Same [k0, k1] u u' := fun hu hO => hO.same (by intro x hx; simp only [List.mem_cons, List.not_mem_nil, or_false] at hx; exact ⟨by omega, by simp⟩)
  refine (xsign_c h1 [45]).mono ?_
  rintro _ w2 ⟨rfl, hO2⟩
  have z2 := hO2.size
  have h2 := h1.only hO2
  refine ⟨_, rfl, sm0 (by omega) hO2, (xsign_c h2 [33]).mono ?_⟩
  rintro _ w3 ⟨rfl, hO3⟩
  have z3 := hO3.size
  have h3 := h2.only hO3
  refine ⟨_, rfl, sm0 (by omega) hO3, (xsign_c h3 [40]).mono ?_⟩
  rintro _ w4 ⟨rfl, hO4⟩
  have z4 := hO4.size
  have h4 := h3.only hO4
  have hO04 : Only [] w w4 := (((hO0.tr0 hO1).tr0 hO2).tr0 hO3).tr0 hO4
  have hO04b : Only [b] w w4 := hO04.weaken fun _ h => (by cases h)
  have own0 : ∀ {u u' : World}, Only [b] w u → Only [k0] u u' → Only [b] w u' := fun h1 h2 => h1.new h2 hk0
  rw [show ((0 : Int) == 0) = true from rfl, Bool.true_and, Bool.true_and, Bool.true_and]
  refine ⟨_, rfl, sm0 (by omega) hO4, 0, Blk.at1 h4.blk 3 rfl, fun hc => (by simp at hc), fun _ => ⟨fun hs => ?_, fun hs => ⟨fun hp => ?_, fun hp => ⟨fun hi => ?_, fun hi => ⟨fun hv => ?_, fun hv => ?_⟩⟩⟩⟩⟩
  · rw [if_pos hs] at hR
    have hne : (tk ts i).k ≠ 5 := by
      rcases Bool.or_eq_true _ _ ▸ hs with e | e <;> exact sg_k e
    have hn := h.en.next h.lt hne
    refine (rdown_c hd h4 hn).mono ?_
    rintro _ w6 ⟨rfl, hO6, hR6⟩
    have z6 := hO6.size
    have hO06 := hO04b.trans hO6 fun x hx => .inl hx
    refine ⟨_, rfl, sm (by omega) hO6, fun hc w7 hO7 => ⟨own0 hO06 hO7, ?_⟩, fun hc => ?_⟩
    · have hc : d = 20 := by simpa using hc
      rw [if_pos hc] at hR6
      rw [← hR, nestR, if_pos hc]
      exact ⟨(by decide : (21 : Int) ≠ 0), exT0, i, hR6.own hO7 (by simp; omega)⟩
    · have hc : d ≠ 20 := by simpa using hc
      rw [if_neg hc] at hR6
      rw [nestR, if_neg hc] at hR
      refine (hOne hc w6 (i + 1) hR6).mono ?_
      rintro _ w8 ⟨v, rfl, hD⟩
      obtain ⟨vk, vn, vs, vo, vl, va, rfl⟩ := hD.typed
      have z8 := hD.1.size
      refine ⟨_, _, _, _, _, _, rfl, sm (by omega) hD.1, fun k2 w9 hk2 hk2' hO9 => ?_⟩
      have z9 := hO9.size
      have hOD := hO06.trans hD.1 fun x hx => .inl hx
      -- the depth comes back, the row is built
      have key : ∀ {j : Nat} {c a : Int}, Rr F ts w8 b l j c a ((d + 1 : Nat) : Int) → ∃ i9 : Int, Cells w9 (Addr.add ⟨b, 0, none⟩ 2) [.int .i64 i9] ∧ ∃ k3 k4 : Nat, ∃ z0 : List Value, ∃ k5 : Nat, (Addr.add ⟨b, 0, none⟩ 2) = ⟨k3, k4, none⟩ ∧ Blk w9 k3 k5 z0 ∧ (k4 + 1) ≤ z0.length ∧ k0 ≠ k3 ∧ k1 ≠ k3 ∧ k2 ≠ k3 ∧
          ∀ w10 : World, Only [k3] w9 w10 → Blk w10 k3 k5 (splice z0 k4 [.int .i64 (IntKind.wrap .i64 (i9 - 1))]) → Only [b] w8 w10 ∧ Rr F ts w10 b l j c a (d : Int) := fun {j c a} h8 => by
        have h9 := h8.only hO9
        refine ⟨((d + 1 : Nat) : Int), Blk.at1 h9.blk 2 rfl, b, 2, _, _, rfl, h9.blk, by simp, by omega, by omega, by omega, fun w10 hO10 hB10 => ?_⟩
        have ed : ((d + 1 : Nat) : Int) - 1 = d := by omega
        rw [ed, wr' (by omega) (by omega)] at hB10
        exact ⟨(hO9.weaken (bs' := [b]) fun _ h => (by cases h)).trans hO10 fun x hx => .inl hx, h9.turn hO10 hB10 h9.lt⟩
      have fin : ∀ {j : Nat} {c a : Int} {w10 : World}, Only [b] w8 w10 → Rr F ts w10 b l j c a (d : Int) → w9.heap.size ≤ w10.heap.size → (∀ op sl w12, Only [] w10 w12 → Blk w12 w10.heap.size 24 (exv vk vn vs vo vl va) → op = (if (tk ts i).t = [33] then (15 : Int) else 14) → sl = (⟨some ⟨w10.heap.size, 0, none⟩, 1, 1⟩ : Sl) → ∀ w13, Only [k0] w12 w13 → Did6 F ts w w13 b l d R (.agg #[.int .i64 4, .int .i64 0, .string (ByteArray.mk #[]), .int .i64 op, sl.v, .int .i64 (tk ts i).a])) →
          ∃ J1 : Int → World → Prop, (∀ i10 : Int, ∀ w11 : World, J1 i10 w11 → ∃ l2 : Sl, ∃ w12 : World, ((Instr.buildSlice 22 1 #[.mk 0 (.agg #[.int .i64 vk, .int .i64 vn, .string (T vs), .int .i64 vo, vl.v, .int .i64 va])]).run Tryz.prog w11) = (.ok l2.v w12) ∧
            Same [k0, k1, k2] w11 w12 ∧ ∀ w13 : World, Only [k0] w12 w13 → Did6 F ts w w13 b l d R (.agg #[.int .i64 4, .int .i64 0, .string (ByteArray.mk #[]), .int .i64 i10, l2.v, .int .i64 (tk ts i).a])) ∧
          (sg ts i [33] = true → J1 15 w10) ∧ (sg ts i [33] = false → J1 14 w10) := fun {j c a w10} hO10 h10 z10 hdone => by
        refine ⟨fun op w11 => op = (if (tk ts i).t = [33] then (15 : Int) else 14) ∧ w11 = w10, ?_, fun e => ⟨?_, rfl⟩, fun e => ⟨?_, rfl⟩⟩
        · rintro op w11 ⟨hop, rfl⟩
          obtain ⟨w12, k12, hB12, hO12⟩ := buildX w11 [exv vk vn vs vo vl va] (by simp) (by simp) (by simp) (parts := #[(0, .agg (exv vk vn vs vo vl va).toArray)]) rfl
          rw [List.flatten_cons, List.flatten_nil, List.append_nil] at hB12
          exact ⟨_, w12, k12, hO12.same (by simp; omega), fun w13 hO13 => hdone op _ w12 hO12 hB12 hop rfl w13 hO13⟩
        · have : (tk ts i).t = [33] := by
            simp only [sg, Bool.and_eq_true, decide_eq_true_eq] at e
            exact e.2
          rw [if_pos this]
        · have : (tk ts i).t ≠ [33] := fun ht => by
            rcases Bool.or_eq_true _ _ ▸ hs with e' | e'
            · simp only [sg, Bool.and_eq_true, decide_eq_true_eq] at e'
              rw [e'.2] at ht
              exact absurd ht (by decide)
            · rw [e] at e'; cases e'
          rw [if_neg this]
      cases hN : One (i + 1) with
      | error e =>
        rw [hN] at hD hR
        obtain ⟨hO8, a1, a2, j, a3⟩ := hD
        obtain ⟨i9, q1, k3, k4, zz, k5, q2, q3, q4, q5, q6, q7, q8⟩ := key a3
        refine ⟨i9, q1, k3, k4, zz, k5, q2, q3, q4, q5, q6, q7, fun w10 hO10 hB10 => ?_⟩
        obtain ⟨r1, r2⟩ := q8 w10 hO10 hB10
        refine fin r1 r2 hO10.size fun op sl w12 hO12 hB12 hop hsl w13 hO13 => ⟨own0 ((hOD.trans r1 fun x hx => .inl hx).tr0 hO12) hO13, ?_⟩
        rw [← hR]
        exact ⟨a1, ⟨_, _, [], _, _, _, rfl⟩, j, (r2.only hO12).own hO13 (by simp; omega)⟩
      | ok q =>
        obtain ⟨x, j⟩ := q
        rw [hN] at hD hR
        obtain ⟨hO8, cs, a1, a2, a3⟩ := hD
        have hcs : (exv vk vn vs vo vl va) = cs := congrArg Array.toList (Value.agg.inj a1)
        obtain ⟨i9, q1, k3, k4, zz, k5, q2, q3, q4, q5, q6, q7, q8⟩ := key a3
        refine ⟨i9, q1, k3, k4, zz, k5, q2, q3, q4, q5, q6, q7, fun w10 hO10 hB10 => ?_⟩
        obtain ⟨r1, r2⟩ := q8 w10 hO10 hB10
        have z10 := hO10.size
        refine fin r1 r2 z10 fun op sl w12 hO12 hB12 hop hsl w13 hO13 => ⟨own0 ((hOD.trans r1 fun x hx => .inl hx).tr0 hO12) hO13, ?_⟩
        have z12 := hO12.size
        have z13 := hO13.size
        rw [← hR, hop, hsl]
        refine ⟨_, rfl, ?_, (r2.only hO12).own hO13 (by simp; omega)⟩
        have hx13 : RX w13 w6.heap.size w8.heap.size x cs := ((a2.only r1 fun k hk => .inl (by simp only [List.mem_singleton] at hk; omega)).only hO12 (by simp)).only hO13 fun k hk => .inl (by simp only [List.mem_singleton] at hk; omega)
        have hB13 : Blk w13 w10.heap.size 24 cs := by
          rw [← hcs]
          exact hO13.blk hB12 fun hm => by simp only [List.mem_singleton] at hm; omega
        exact .one w.heap.size w8.heap.size w10.heap.size _ _ _ _ _ _ x cs (hx13.wide (by omega) (Nat.le_refl _)) (by omega) (by omega) (by have := hB13.lt; omega) id hB13
  · rw [if_neg (by rw [hs]; decide), if_pos hp] at hR
    have hn := h.en.next h.lt (sg_k hp)
    refine (rdown_c hd h4 hn).mono ?_
    rintro _ w14 ⟨rfl, hO14, hR14⟩
    have z14 := hO14.size
    have hO014 := hO04b.trans hO14 fun x hx => .inl hx
    refine ⟨_, rfl, sm (by omega) hO14, fun hc w15 hO15 => ⟨own0 hO014 hO15, ?_⟩, fun hc => ?_⟩
    · have hc : d = 20 := by simpa using hc
      rw [if_pos hc] at hR14
      rw [← hR, nestR, if_pos hc]
      exact ⟨(by decide : (21 : Int) ≠ 0), exT0, i, hR14.own hO15 (by simp; omega)⟩
    · have hc : d ≠ 20 := by simpa using hc
      rw [if_neg hc] at hR14
      rw [nestR, if_neg hc] at hR
      refine (hE hc w14 (i + 1) hR14).mono ?_
      rintro _ w16 ⟨v, rfl, hD⟩
      obtain ⟨vk, vn, vs, vo, vl, va, rfl⟩ := hD.typed
      have z16 := hD.1.size
      have hO016 := hO014.trans hD.1 fun x hx => .inl hx
      refine ⟨_, _, _, _, _, _, rfl, sm (by omega) hD.1, fun k6 w17 hk6 hk6' hO17 => ?_⟩
      have z17 := hO17.size
      have after : ∀ {j : Nat} {c a : Int} {w18 : World}, Only [b] w17 w18 → Rr F ts w18 b l j c a ((d + 1 : Nat) : Int) → (∀ w20, Only [b, k0] w18 w20 → Only [b] w w20 → Rr F ts w20 b l j c a (d : Int) → Did6 F ts w w20 b l d R (.agg (exv vk vn vs vo vl va).toArray)) →
          ∃ i15 : Int, Cells w18 (Addr.add ⟨b, 0, none⟩ 2) [.int .i64 i15] ∧ ∃ k7 k8 : Nat, ∃ z1 : List Value, ∃ k9 : Nat, (Addr.add ⟨b, 0, none⟩ 2) = ⟨k7, k8, none⟩ ∧ Blk w18 k7 k9 z1 ∧ (k8 + 1) ≤ z1.length ∧ k0 ≠ k7 ∧ k1 ≠ k7 ∧ k6 ≠ k7 ∧
          ∀ w19 : World, Only [k7] w18 w19 → Blk w19 k7 k9 (splice z1 k8 [.int .i64 (IntKind.wrap .i64 (i15 - 1))]) → ∀ w20 : World, Only [k0] w19 w20 → Did6 F ts w w20 b l d R (.agg #[.int .i64 vk, .int .i64 vn, .string (T vs), .int .i64 vo, vl.v, .int .i64 va]) := fun {j c a w18} hO18 h18 hdone => by
        refine ⟨((d + 1 : Nat) : Int), Blk.at1 h18.blk 2 rfl, b, 2, _, _, rfl, h18.blk, by simp, by omega, by omega, by omega, fun w19 hO19 hB19 w20 hO20 => ?_⟩
        have ed : ((d + 1 : Nat) : Int) - 1 = d := by omega
        rw [ed, wr' (by omega) (by omega)] at hB19
        have h19 : Rr F ts w19 b l j c a (d : Int) := h18.turn hO19 hB19 h18.lt
        exact hdone w20 ((hO19.weaken (bs' := [b, k0]) fun x hx => .inl (by simp only [List.mem_singleton] at hx; simp [hx])).trans hO20 fun x hx => .inl (by simp only [List.mem_singleton] at hx; simp [hx])) (own0 (((hO016.tr0 hO17).trans hO18 fun x hx => .inl hx).trans hO19 fun x hx => .inl hx) hO20) (h19.own hO20 (by simp; omega))
      obtain ⟨hO16, hD⟩ := hD
      cases hN : E0 (i + 1) with
      | error e =>
        rw [hN] at hD hR
        obtain ⟨a1, a2, j, a3⟩ := hD
        refine (rmust_c (a3.only hO17) [41]).mono ?_
        rintro _ w18 ⟨rfl, hO18, hR18⟩
        rw [if_neg (by simp [a1]), if_neg a1, if_neg a1] at hR18
        refine ⟨rfl, hO18.same (by simp; omega), after hO18 hR18 fun w20 hO20 hOw h20 => ⟨hOw, ?_⟩⟩
        rw [← hR]
        exact ⟨a1, ⟨_, _, _, _, _, _, rfl⟩, j, h20⟩
      | ok q =>
        obtain ⟨x, j⟩ := q
        rw [hN] at hD hR
        obtain ⟨cs, a1, a2, a3⟩ := hD
        refine (rmust_c (a3.only hO17) [41]).mono ?_
        rintro _ w18 ⟨rfl, hO18, hR18⟩
        rw [show ((0 : Int) == 0) = true from rfl, Bool.true_and, if_pos rfl, if_pos rfl] at hR18
        refine ⟨rfl, hO18.same (by simp; omega), ?_⟩
        have z18 := hO18.size
        by_cases hs41 : sg ts j [41] = true
        · rw [if_pos hs41] at hR18
          refine after hO18 hR18 fun w20 hO20 hOw h20 => ⟨hOw, ?_⟩
          rw [← hR]
          simp only [parR, hs41, if_true]
          have z20 := hO20.size
          exact ⟨cs, a1, (((a2.only hO17 (by simp)).only hO18 fun k hk => .inl (by simp only [List.mem_singleton] at hk; omega)).only hO20 fun k hk => .inl (by simp only [List.mem_cons, List.not_mem_nil, or_false] at hk; omega)).wide (by omega) (by omega), h20⟩
        · rw [if_neg hs41] at hR18
          refine after hO18 hR18 fun w20 hO20 hOw h20 => ⟨hOw, ?_⟩
          rw [← hR]
          simp only [parR, hs41, if_false]
          exact ⟨wrongF_ne, ⟨_, _, _, _, _, _, rfl⟩, j, h20⟩
  · have hi : (tk ts i).k = 3 := by simpa using hi
    rw [if_neg (by rw [hs]; decide), if_neg (by rw [hp]; decide), if_pos hi] at hR
    have hn := h.en.next h.lt (by rw [hi]; decide)
    refine ⟨(i : Int), Blk.at1 h4.blk 1 rfl, b, 1, _, _, rfl, h4.blk, by simp, by omega, by omega, fun w21 hO21 hB21 w22 hO22 => ⟨own0 (hO04b.trans hO21 fun x hx => .inl hx) hO22, ?_⟩⟩
    rw [wr' (by omega) (by omega)] at hB21
    have h21 : Rr F ts w21 b l (i + 1) 0 0 (d : Int) := h4.turn hO21 hB21 hn
    rw [← hR]
    exact ⟨_, rfl, .leaf .., h21.own hO22 (by simp; omega)⟩
  · have hi : ¬ (tk ts i).k = 3 := by simpa using hi
    have hv : (tk ts i).k = 1 := by simpa using hv
    rw [if_neg (by rw [hs]; decide), if_neg (by rw [hp]; decide), if_neg hi, if_pos hv] at hR
    have hn := h.en.next h.lt (by rw [hv]; decide)
    refine ⟨(i : Int), Blk.at1 h4.blk 1 rfl, b, 1, _, _, rfl, h4.blk, by simp, by omega, by omega, fun w21 hO21 hB21 w22 hO22 => ⟨own0 (hO04b.trans hO21 fun x hx => .inl hx) hO22, ?_⟩⟩
    rw [wr' (by omega) (by omega)] at hB21
    have h21 : Rr F ts w21 b l (i + 1) 0 0 (d : Int) := h4.turn hO21 hB21 hn
    rw [← hR]
    exact ⟨_, rfl, .leaf .., h21.own hO22 (by simp; omega)⟩
  · have hi : ¬ (tk ts i).k = 3 := by simpa using hi
    have hv : ¬ (tk ts i).k = 1 := by simpa using hv
    rw [show (ByteArray.mk #[105, 110]) = T [105, 110] from rfl, T_eq]
    rw [if_neg (by rw [hs]; decide), if_neg (by rw [hp]; decide), if_neg hi, if_neg hv] at hR
    refine ⟨fun hw => ?_, fun hw => (rwrong_c h4).mono ?_⟩
    · have hw : (tk ts i).k = 2 ∧ (tk ts i).t = [105, 110] := by simpa using hw
      rw [if_pos hw] at hR
      have hn := h.en.next h.lt (by rw [hw.1]; decide)
      refine (rin_c h4 hn).mono ?_
      rintro _ w25 ⟨v, rfl, hD⟩
      obtain ⟨vk, vn, vs, vo, vl, va, rfl⟩ := hD.typed
      refine ⟨_, _, _, _, _, _, rfl, sm (by omega) hD.1, fun w26 hO26 => ?_⟩
      rw [← hR]
      exact hD.around hO04b hO26 (by simp; omega)
    · rw [if_neg (fun hh => by rw [hh.1, hh.2] at hw; simp at hw)] at hR
      rintro _ w27 ⟨rfl, hO27, hR27⟩
      rw [if_pos rfl, if_pos rfl] at hR27
      refine ⟨rfl, sm (by omega) hO27, fun w28 hO28 => ⟨own0 (hO04b.trans hO27 fun x hx => .inl hx) hO28, ?_⟩⟩
      rw [← hR]
      exact ⟨wrongF_ne, exT0, i, hR27.own hO28 (by simp; omega)⟩
/-- where the loop of a row stands -/
def At6 (F : Nat → Prop) (ts : List Tk) (w : World) (b : Nat) (l : Sl) (d : Nat) (N : Nat → Prop) (E : Nat → Pr) (k : Int) (R : Pr) (nv : Nat) (op : Int) (cs : List Value) (w' : World) : Prop := Only [b] w w' ∧
  ((∃ (c a : Int) (j : Nat), op = 0 ∧ c ≠ 0 ∧ R = .error (c, a) ∧ Rr F ts w' b l j c a (d : Int)) ∨
   (∃ (x : Ex) (j : Nat), op = opAt ts k j ∧ RXN w' N w.heap.size w'.heap.size x cs ∧ Rr F ts w' b l j 0 0 (d : Int) ∧ R = loopR ts E k nv x j ∧ ts.length - j ≤ nv))
theorem from_step {f k d : Nat} (hk6 : k < 6) (h : Rr F ts w b l i 0 0 (d : Int))
    (hE : ∀ w i, Rr F ts w b l i 0 0 (d : Int) → Calls Tryz.prog 139 #[.pointer (some ⟨b, 0, none⟩), .int .i64 ((k + 1 : Nat) : Int)] w fun e w' => ∃ v, e = .returned v ∧ Did6 F ts w w' b l d (exprR ts f (k + 1) d i) v) :
    Calls Tryz.prog 139 #[.pointer (some ⟨b, 0, none⟩), .int .i64 (k : Int)] w fun e w' => ∃ v, e = .returned v ∧ Did6 F ts w w' b l d (exprR ts (f + 1) k d i) v := by
  have eR : exprR ts (f + 1) k d i = andR (exprR ts f (k + 1) d i) fun x j => loopR ts (exprR ts f (k + 1) d) (k : Int) (ts.length - j) x j := by rw [exprR, if_neg (by omega)]
  rw [eR]
  have hmono : ∀ i x j, exprR ts f (k + 1) d i = .ok (x, j) → i < j := fun i x j h => exprR_mono f _ _ i h
  generalize hgE : exprR ts f (k + 1) d = E at *
  generalize hR : (andR (E i) fun x j => loopR ts E (k : Int) (ts.length - j) x j) = R
  refine pavaneref05_reader_from_wp ⟨b, 0, none⟩ _ (fun v w' => Did6 F ts w w' b l d R v) w ?_
  unfold pavaneref05_reader_from_vc
  have ek : IntKind.wrap .i64 ((k : Int) + 1) = ((k + 1 : Nat) : Int) := by rw [wr' (by omega) (by omega)]; rfl
  refine ⟨fun hc => absurd (by simpa using hc) (by omega : ¬ (k : Int) = 6), fun _ k1 w3 hk1 hk1' hO3 => ?_⟩
  have hb := h.lb
  rw [ek]
  refine (hE w3 i (h.only hO3)).mono ?_
  rintro _ w4 ⟨v, rfl, hD⟩
  obtain ⟨vk, vn, vs, vo, vl, va, rfl⟩ := hD.typed
  have z3 := hO3.size
  have z4 := hD.1.size
  refine ⟨_, _, _, _, _, _, rfl, hD.1.same (by simp; omega), fun k2 w5 hk2 hk2' hO5 => ?_⟩
  have z5 := hO5.size
  have hO05 : Only [b] w w5 := ((hO3.weaken (bs' := [b]) fun _ h => (by cases h)).trans hD.1 fun x hx => .inl hx).tr0 hO5
  have sm : ∀ {u u' : World}, w5.heap.size ≤ u.heap.size → Only [b] u u' → Same [k1, k2] u u' := fun hu hO => hO.same (by intro x hx; simp only [List.mem_cons, List.not_mem_nil, or_false] at hx ⊢; omega)
  have hbg := h.big
  have hst : ∃ (j : Nat) (c a : Int), Rr F ts w4 b l j c a (d : Int) ∧ ∀ w6, Only [] w4 w6 → ∃ nv, At6 F ts w b l d (fun q => q = k1 ∨ q = k2) E (k : Int) R nv (if c = 0 then opAt ts (k : Int) j else 0) (exv vk vn vs vo vl va) w6 := by
    obtain ⟨hO4, hD2⟩ := hD
    have hO04 : Only [b] w w4 := (hO3.weaken (bs' := [b]) fun _ h => (by cases h)).trans hO4 fun x hx => .inl hx
    cases hEi : E i with
    | error e =>
      rw [hEi] at hD2 hR
      obtain ⟨c, a⟩ := e
      obtain ⟨a1, a2, j, a3⟩ := hD2
      exact ⟨j, c, a, a3, fun w6 hO6 => ⟨0, hO04.tr0 hO6, .inl ⟨c, a, j, if_neg a1, a1, hR.symm, a3.only hO6⟩⟩⟩
    | ok q =>
      obtain ⟨x, j⟩ := q
      rw [hEi] at hD2 hR
      obtain ⟨cs, a1, a2, a3⟩ := hD2
      have hcs : (exv vk vn vs vo vl va) = cs := congrArg Array.toList (Value.agg.inj a1)
      rw [hcs]
      exact ⟨j, 0, 0, a3, fun w6 hO6 => ⟨ts.length - j, hO04.tr0 hO6, .inr ⟨x, j, if_pos rfl, ((a2.only hO6 (by simp)).holes fun q h1 h2 _ => (by omega)).wide z3 hO6.size, a3.only hO6, hR.symm, Nat.le_refl _⟩⟩⟩
  obtain ⟨j0, c0, a0, hR4, hst⟩ := hst
  refine (xrow_c (hR4.only hO5) hk6).mono ?_
  rintro _ w6 ⟨rfl, hO6⟩
  have z6 := hO6.size
  obtain ⟨nv0, hA0⟩ := hst w6 (hO5.tr0 hO6)
  refine ⟨_, rfl, hO6.same (by simp; omega), fun nv op i10 i11 s2 i12 l2 i13 w' => w5.heap.size ≤ w'.heap.size ∧ At6 F ts w b l d (fun q => q = k1 ∨ q = k2) E (k : Int) R nv op [.int .i64 i10, .int .i64 i11, .string s2, .int .i64 i12, l2.v, .int .i64 i13] w', nv0, ⟨z6, hA0⟩, ?_⟩
  rintro nv op i10 i11 s2 i12 l2 i13 w7 ⟨z7, hO7, hA⟩
  refine ⟨fun hop => ?_, fun hop w14 hO14 => ?_⟩
  · have hop : op ≠ 0 := by simpa using hop
    rcases hA with ⟨_, _, _, e, _⟩ | ⟨x, j, rfl, hX, hRd, hRe, hnv⟩
    · exact absurd e hop
    have hn := hRd.en.next hRd.lt (opFrom_sg _ _ hop)
    obtain ⟨g, rfl⟩ : ∃ g, nv = g + 1 := ⟨nv - 1, by omega⟩
    rw [loopR, if_neg hop] at hRe
    refine ⟨(j : Int), Blk.at1 hRd.blk 1 rfl, b, 1, _, _, rfl, hRd.blk, by simp, by omega, by omega, fun w8 hO8 hB8 => ?_⟩
    rw [wr' (by omega) (by omega)] at hB8
    have h8 : Rr F ts w8 b l (j + 1) 0 0 (d : Int) := hRd.turn hO8 hB8 hn
    have z8 := hO8.size
    refine (hE w8 (j + 1) h8).mono ?_
    rintro _ w9 ⟨v, rfl, hD9⟩
    obtain ⟨yk, yn, ys, yo, yl, ya, rfl⟩ := hD9.typed
    have z9 := hD9.1.size
    refine ⟨_, _, _, _, _, _, rfl, sm (by omega) hD9.1, fun k8 w10 hk8 hk8' hO10 => ?_⟩
    have z10 := hO10.size
    obtain ⟨w11, k11, hB11, hO11⟩ := buildX w10 [[.int .i64 i10, .int .i64 i11, .string s2, .int .i64 i12, l2.v, .int .i64 i13], exv yk yn ys yo yl ya] (by simp) (by simp) (by simp) (parts := #[(0, .agg #[.int .i64 i10, .int .i64 i11, .string s2, .int .i64 i12, l2.v, .int .i64 i13]), (1, .agg (exv yk yn ys yo yl ya).toArray)]) rfl
    have z11 := hO11.size
    refine ⟨⟨some ⟨w10.heap.size, 0, none⟩, 2, 2⟩, w11, k11, hO11.same (by simp; omega), fun w12 hO12 => ?_⟩
    have z12 := hO12.size
    have hO012 : Only [b] w w12 := ((((hO7.trans hO8 fun x hx => .inl hx).trans hD9.1 fun x hx => .inl hx).tr0 hO10).tr0 hO11).new hO12 (by omega)
    have hO912 : Only [k2] w9 w12 := ((hO10.tr0 hO11).weaken (bs' := [k2]) fun _ h => (by cases h)).trans hO12 fun x hx => .inl hx
    have hst2 : ∃ (j' : Nat) (c a : Int), Rr F ts w9 b l j' c a (d : Int) ∧ ∀ w13, Only [] w12 w13 → ∃ nv, nv < g + 1 ∧ At6 F ts w b l d (fun q => q = k1 ∨ q = k2) E (k : Int) R nv (if c = 0 then opAt ts (k : Int) j' else 0) (exv 5 0 [] (opAt ts (k : Int) j) ⟨some ⟨w10.heap.size, 0, none⟩, 2, 2⟩ i13) w13 := by
      obtain ⟨hO9, hD2⟩ := hD9
      cases hEi : E (j + 1) with
      | error e =>
        rw [hEi] at hD2 hRe
        obtain ⟨c, a⟩ := e
        obtain ⟨a1, a2, j', a3⟩ := hD2
        exact ⟨j', c, a, a3, fun w13 hO13 => ⟨0, by omega, hO012.tr0 hO13, .inl ⟨c, a, j', if_neg a1, a1, hRe, (a3.own hO912 (by simp; omega)).only hO13⟩⟩⟩
      | ok q =>
        obtain ⟨y, j'⟩ := q
        rw [hEi] at hD2 hRe
        obtain ⟨cs, a1, a2, a3⟩ := hD2
        have hcs : (exv yk yn ys yo yl ya) = cs := congrArg Array.toList (Value.agg.inj a1)
        have hjj := hmono _ _ _ hEi
        obtain ⟨xl, hxl, _⟩ := hX.cells
        have hxa : i13 = x.a := by
          simp only [exv, List.cons.injEq, Value.int.injEq] at hxl
          exact hxl.2.2.2.2.2.1.2
        refine ⟨j', 0, 0, a3, fun w13 hO13 => ⟨g, by omega, hO012.tr0 hO13, .inr ⟨.mk 5 0 [] (opAt ts (k : Int) j) [x, y] x.a, j', if_pos rfl, ?_, (a3.own hO912 (by simp; omega)).only hO13, hRe, ?_⟩⟩⟩
        · have z13 := hO13.size
          have hO713 : Only [b, k2] w7 w13 := (((((hO8.weaken (bs' := [b, k2]) fun x hx => .inl (by simp only [List.mem_singleton] at hx; simp [hx])).trans hO9 fun x hx => .inl (by simp only [List.mem_singleton] at hx; simp [hx])).trans hO912 fun x hx => .inl (by simp only [List.mem_singleton] at hx; simp [hx])).tr0 hO13))
          have hO913 : Only [k2] w9 w13 := hO912.tr0 hO13
          have hB13 : Blk w13 w10.heap.size 24 ([.int .i64 i10, .int .i64 i11, .string s2, .int .i64 i12, l2.v, .int .i64 i13] ++ cs) := by
            have := hO13.blk (hO12.blk hB11 (by simp; omega)) (by simp)
            rw [← hcs]
            simpa using this
          have hx13 : RXN w13 (fun q => q = k1 ∨ q = k2) w.heap.size w7.heap.size x [.int .i64 i10, .int .i64 i11, .string s2, .int .i64 i12, l2.v, .int .i64 i13] := by
            exact hX.only hO713 fun q hq => by
              simp only [List.mem_cons, List.not_mem_nil, or_false] at hq
              rcases hq with rfl | rfl
              · exact .inl hb
              · exact .inr (.inr (.inr rfl))
          have hy13 : RXN w13 (fun q => q = k1 ∨ q = k2) w8.heap.size w9.heap.size y cs := (a2.only hO913 fun q hq => .inl (by simp only [List.mem_singleton] at hq; omega)).holes fun q h1 h2 _ => (by omega)
          rw [hxa]
          exact .two w.heap.size w7.heap.size w8.heap.size w9.heap.size w10.heap.size _ _ _ _ _ _ x y _ cs hx13 z8 hy13 (by omega) (by omega) (by omega) (by omega) (by have := hB13.lt; omega) (by omega) hB13
        · omega
    obtain ⟨j', c', a', hR9, hst2⟩ := hst2
    refine (xrow_c (hR9.own hO912 (by simp; omega)) hk6).mono ?_
    rintro _ w13 ⟨rfl, hO13⟩
    obtain ⟨nv', hnv', hA'⟩ := hst2 w13 hO13
    exact ⟨_, rfl, hO13.same (by simp; omega), nv', hnv', by have := hO13.size; omega, hA'⟩
  · have hop : op = 0 := by simpa using hop
    refine ⟨hO7.new hO14 (by omega), ?_⟩
    rcases hA with ⟨c, a, j, _, hc, hRe, hRd⟩ | ⟨x, j, hoj, hX, hRd, hRe, hnv⟩
    · rw [hRe]
      exact ⟨hc, ⟨i10, i11, s2.data.toList, i12, l2, i13, by unfold exv; rw [← T_of]⟩, j, hRd.own hO14 (by simp; omega)⟩
    · rw [hRe, loop_zero (by rw [← hoj, hop])]
      exact ⟨_, rfl, ((hX.only hO14 fun q hq => .inr (.inr (.inl (by simpa using hq)))).holes fun _ _ _ _ h => h).wide (Nat.le_refl _) hO14.size, hRd.own hO14 (by simp; omega)⟩
theorem rreader_c : ∀ f : Nat, (∀ (k d i : Nat) (w : World), k ≤ 6 → d ≤ 20 → need k d ≤ f → Rr F ts w b l i 0 0 (d : Int) →
      Calls Tryz.prog 139 #[.pointer (some ⟨b, 0, none⟩), .int .i64 (k : Int)] w fun e w' => ∃ v, e = .returned v ∧ Did6 F ts w w' b l d (exprR ts f k d i) v) ∧
    (∀ (d i : Nat) (w : World), d ≤ 20 → need 6 d ≤ f → Rr F ts w b l i 0 0 (d : Int) →
      Calls Tryz.prog 147 #[.pointer (some ⟨b, 0, none⟩)] w fun e w' => ∃ v, e = .returned v ∧ Did6 F ts w w' b l d (exprR ts f 6 d i) v)
  | 0 => ⟨fun k d i w hk hd hn => by unfold need at hn; omega, fun d i w hd hn => by unfold need at hn; omega⟩
  | f + 1 => by
    obtain ⟨ih1, ih2⟩ := rreader_c f
    have one : ∀ (d i : Nat) (w : World), d ≤ 20 → need 6 d ≤ f + 1 → Rr F ts w b l i 0 0 (d : Int) →
      Calls Tryz.prog 147 #[.pointer (some ⟨b, 0, none⟩)] w fun e w' => ∃ v, e = .returned v ∧ Did6 F ts w w' b l d (exprR ts (f + 1) 6 d i) v := fun d i w hd hn h => by
      unfold need at hn
      exact rone_c hd h (fun h20 w i h => ih1 0 (d + 1) i w (by omega) (by omega) (by unfold need; omega) h) (fun h20 w i h => ih2 (d + 1) i w (by omega) (by unfold need; omega) h)
    refine ⟨fun k d i w hk hd hn h => ?_, one⟩
    by_cases h6 : k = 6
    · subst h6
      refine pavaneref05_reader_from_wp ⟨b, 0, none⟩ _ (fun v w' => Did6 F ts w w' b l d (exprR ts (f + 1) 6 d i) v) w ?_
      unfold pavaneref05_reader_from_vc
      refine ⟨fun _ k0 w0 hk0 hk0' hO0 => ?_, fun hc => absurd hc (by decide)⟩
      refine (one d i w0 hd hn (h.only hO0)).mono ?_
      rintro _ w1 ⟨v, rfl, hD⟩
      obtain ⟨vk, vn, vs, vo, vl, va, rfl⟩ := hD.typed
      have hb := h.lb
      exact ⟨_, _, _, _, _, _, rfl, hD.1.same (by simp; omega), fun w2 hO2 => hD.around (hO0.weaken fun _ h => (by cases h)) hO2 (by simp; omega)⟩
    · unfold need at hn
      exact from_step (by omega) h fun w i h => ih1 (k + 1) d i w (by omega) hd (by unfold need; omega) h
end
end Go.Proofs.YtmanockofcopjaaGreatDoor.Con

namespace Go.Proofs.YtmanockofcopjaaGreatDoor.Con
open Go Go.RowKit Go.Kt Go.Kt.V Go.Proofs.YtmanockofcopjaaGreatDoor.Vc
set_option linter.unusedSimpArgs false
set_option linter.unusedVariables false
set_option maxHeartbeats 4000000

theorem eparse_r {w : World} {F : Nat → Prop} {l : Sl} {ts : List Tk} (h : SliceF rTk 4 w F l ts) (a : Int) (ha : InI a) : Calls Tryz.prog 125 #[l.v, .int .i64 a] w fun e w' =>
    ∃ cs, e = .returned (.tuple #[.agg cs.toArray, .int .i64 (parseA ts a).2.1, .agg #[.int .i64 (parseA ts a).2.2.1, .int .i64 (parseA ts a).2.2.2]]) ∧ RX w' w.heap.size w'.heap.size (parseA ts a).1 cs ∧ ((parseA ts a).2.2.1 = 0 → 0 ≤ (parseA ts a).2.1 ∧ (parseA ts a).2.1 < ts.length) ∧ Only [] w w' := by
  refine (pavaneref05_Parse_wp l a (fun v w' => ∃ cs, v = (.tuple #[.agg cs.toArray, .int .i64 (parseA ts a).2.1, .agg #[.int .i64 (parseA ts a).2.2.1, .int .i64 (parseA ts a).2.2.2]]) ∧ RX w' w.heap.size w'.heap.size (parseA ts a).1 cs ∧ ((parseA ts a).2.2.1 = 0 → 0 ≤ (parseA ts a).2.1 ∧ (parseA ts a).2.1 < ts.length) ∧ Only [] w w') w ?_).mono (by
    rintro e w' ⟨v, rfl, cs, rfl, h⟩; exact ⟨cs, rfl, h⟩)
  unfold pavaneref05_Parse_vc
  have hlen := h.len
  have hcap := h.cap
  have hbig := h.big
  have bad : ¬ (0 ≤ a ∧ a < ts.length ∧ endN ts + 1 = ts.length) → ∀ w0, Only [] w w0 → ∃ cs, (Value.tuple #[.agg #[.int .i64 0, .int .i64 0, .string (ByteArray.mk #[]), .int .i64 0, Sl.nil.v, .int .i64 0], .int .i64 0, .agg #[.int .i64 1, .int .i64 (-1)]]) = (.tuple #[.agg cs.toArray, .int .i64 (parseA ts a).2.1, .agg #[.int .i64 (parseA ts a).2.2.1, .int .i64 (parseA ts a).2.2.2]]) ∧ RX w0 w.heap.size w0.heap.size (parseA ts a).1 cs ∧ ((parseA ts a).2.2.1 = 0 → 0 ≤ (parseA ts a).2.1 ∧ (parseA ts a).2.1 < ts.length) ∧ Only [] w w0 := fun hc w0 hO => by
    rw [parseA, if_neg hc]
    exact ⟨_, rfl, rx0 _ _ _, fun h => (by cases h), hO⟩
  refine ⟨fun hc k0 k1 w0 _ _ _ _ hO0 => bad (fun hh => ?_) w0 hO0, fun hc k2 k3 w1 hk2 hk2' hk3 hk3' hO1 => ?_⟩
  · simp only [Bool.or_eq_true, decide_eq_true_eq] at hc
    omega
  have hc : 0 ≤ a ∧ a < ts.length := by
    simp only [Bool.or_eq_false_iff, decide_eq_false_iff_not] at hc
    omega
  have z1 := hO1.size
  have own : ∀ {u u' : World}, Only [] w u → Only [k3, k2] u u' → Only [] w u' := fun h1 h2 => h1.trans h2 fun x hx => .inr (by simp only [List.mem_cons, List.not_mem_nil, or_false] at hx; omega)
  refine ⟨fun nv i _ _ _ _ _ _ _ _ w' => ∃ n : Nat, n ≤ ts.length ∧ i = (n : Int) ∧ nv = ts.length - n ∧ (∀ j, j < n → ((tk ts j).k = 5 ↔ j + 1 = ts.length)) ∧ Only [] w w' ∧ w1.heap.size ≤ w'.heap.size, ts.length, ⟨0, Nat.zero_le _, rfl, rfl, fun j hj => absurd hj (Nat.not_lt_zero j), hO1, Nat.le_refl _⟩, ?_⟩
  rintro nv _ _ _ _ _ _ _ _ _ w2 ⟨n, hn, rfl, rfl, hE, hO2, z2⟩
  have h2 := SliceF.only rTk_ok (by decide) h hO2 (by simp)
  refine ⟨fun hlt => ?_, fun hge k7 w4 hk7 hk7' hO4 hB4 => ?_⟩
  · have hlt : (n : Int) < (l.n : Int) := of_decide_eq_true hlt
    obtain ⟨ad, x, cs, g1, g2, g3, g4, g5, g6⟩ := h2.get (Int.natCast_nonneg n) hlt
    rw [Int.toNat_natCast, tk_at (by omega)] at g2
    injection g2 with g2
    subst g2
    unfold rTk at g6
    subst g6
    have e : ((tk ts n).k == 5) = decide ((tk ts n).k = 5) := by rw [Bool.eq_iff_iff]; simp
    have e2 : ((n : Int) == IntKind.wrap .i64 ((l.n : Int) - 1)) = decide (n + 1 = ts.length) := by
      rw [wr' (by omega) (by omega), Bool.eq_iff_iff]
      simp only [beq_iff_eq, decide_eq_true_eq]
      omega
    refine ⟨ad, g1, _, g5.at1 0 _ rfl, ?_⟩
    rw [e, e2]
    refine ⟨fun hm w3 hO3 => bad (fun hh => ?_) w3 (own hO2 hO3), fun hm => ⟨ts.length - (n + 1), by omega, n + 1, by omega, by rw [wr' (by omega) (by omega)]; rfl, rfl, fun j hj => ?_, hO2, z2⟩⟩
    · have := endN_end hh.2.2 n (by omega)
      rw [decide_eq_decide.2 this, beq_self_eq_true] at hm
      cases hm
    · rcases Nat.lt_or_ge j n with hjn | hjn
      · exact hE j hjn
      · have : j = n := by omega
        subst this
        have hm : decide ((tk ts j).k = 5) = decide (j + 1 = ts.length) := by simpa using hm
        exact decide_eq_decide.1 hm
  · have hge : ¬ (n : Int) < (l.n : Int) := of_decide_eq_false hge
    have : n = ts.length := by omega
    subst this
    have hEn : EndL ts := hE
    have hcc : 0 ≤ a ∧ a < ts.length ∧ endN ts + 1 = ts.length := ⟨hc.1, hc.2, end_endN hEn (by omega)⟩
    rw [parseA, if_pos hcc]
    obtain ⟨i, rfl⟩ : ∃ i : Nat, a = (i : Int) := ⟨a.toNat, by omega⟩
    have z4 := hO4.size
    have hO04 := hO2.tr0 hO4
    have hR : Rr (fun k => F k ∧ k < w.heap.size) ts w4 k7 l i 0 0 ((0 : Nat) : Int) := ⟨hB4, SliceF.only rTk_ok (by decide) (h.inHeap rTk_ok (by decide)) hO04 (by simp), fun k hk => by have := hk.2; have := hO2.size; omega, hEn, by omega⟩
    refine ((rreader_c (need 0 0)).1 0 0 i w4 (by decide) (by decide) (Nat.le_refl _) hR).mono ?_
    rintro _ w5 ⟨v, rfl, hD⟩
    obtain ⟨vk, vn, vs, vo, vl, va, rfl⟩ := hD.typed
    have z5 := hD.1.size
    obtain ⟨hO5, hD⟩ := hD
    rw [Int.toNat_natCast]
    have hpr : parseR ts i = exprR ts (need 0 0) 0 0 i := rfl
    rw [hpr]
    have z02 := hO2.size
    have hO05 : Only [] w w5 := hO04.trans hO5 fun x hx => .inr (by simp only [List.mem_singleton] at hx; omega)
    refine ⟨_, _, _, _, _, _, rfl, hO5.same (by simp; omega), ?_⟩
    cases hEx : exprR ts (need 0 0) 0 0 i with
    | error e =>
      rw [hEx] at hD
      obtain ⟨c, p⟩ := e
      obtain ⟨a1, a2, j, a3⟩ := hD
      refine ⟨_, _, _, _, _, a3.blk, fun _ k8 w6 _ _ hO6 hB6 n1 n2 n3 n4 n5 n6 => ⟨fun k => k = k7, rfl, fun e => n2 e, fun e => n4 e, fun w7 hO7 _ => ⟨_, rfl, rx0 _ _ _, fun h => absurd h a1, own (hO05.tr0 hO6) hO7⟩⟩, fun hcz => absurd (by simpa using hcz) a1⟩
    | ok q =>
      rw [hEx] at hD
      obtain ⟨x, j⟩ := q
      obtain ⟨cs, a1, a2, a3⟩ := hD
      have hcs : (exv vk vn vs vo vl va) = cs := congrArg Array.toList (Value.agg.inj a1)
      refine ⟨_, _, _, _, _, a3.blk, fun hcz => (by simp at hcz), fun _ k9 w8 hk9 hk9' hO8 hB8 n1 n2 n3 n4 n5 n6 => ⟨fun k => k = k7, rfl, fun e => n2 e, fun e => n4 e, fun w9 hO9 _ => ?_⟩⟩
      have z8 := hO8.size
      have z9 := hO9.size
      refine ⟨exv vk vn vs vo vl va, rfl, ?_, fun _ => ⟨Int.natCast_nonneg j, by have := a3.lt; dsimp only; omega⟩, own (hO05.tr0 hO8) hO9⟩
      rw [hcs]
      exact ((a2.only hO8 (by simp)).only hO9 fun q hq => .inl (by simp only [List.mem_cons, List.not_mem_nil, or_false] at hq; omega)).wide (by omega) (by omega)
end Go.Proofs.YtmanockofcopjaaGreatDoor.Con

namespace Go.Proofs.YtmanockofcopjaaGreatDoor.Con
open Go Go.RowKit Go.Kt Go.Kt.V Go.Proofs.YtmanockofcopjaaGreatDoor.Vc
set_option linter.unusedSimpArgs false
set_option linter.unusedVariables false
set_option maxHeartbeats 4000000

/-! ## one word, or sign -/
def isS (ts : List Tk) (s : Sx) (k : Int) (x : List UInt8) : Bool := s.fc == 0 && (tk ts s.i).k == k && decide ((tk ts s.i).t = x)
def Wd (x : List UInt8) : Prop := ∃ c r, x = c :: r ∧ wordB c = true
def Sg (x : List UInt8) : Prop := ∃ c r, x = c :: r ∧ wordB c = false
def fstW (ts : List Tk) (s : Sx) : List (List UInt8) → Nat → Nat
  | [], _ => 0
  | x :: l, o => if isS ts s 2 x = true then o + 1 else fstW ts s l (o + 1)
section
variable {ts : List Tk} {s : Sx}
theorem isS_ne {k : Int} (h : ¬ (s.fc = 0 ∧ (tk ts s.i).k = k)) (x : List UInt8) : isS ts s k x = false := by
  unfold isS
  rw [Bool.and_eq_false_iff]
  left
  rw [Bool.and_eq_false_iff]
  by_cases e : s.fc = 0
  · right
    simpa using fun e2 => h ⟨e, e2⟩
  · left
    simpa using e
theorem isS_eq {k : Int} (h : s.fc = 0 ∧ (tk ts s.i).k = k) (x : List UInt8) : isS ts s k x = decide ((tk ts s.i).t = x) := by
  unfold isS
  rw [h.1, h.2]
  simp
theorem fst_no (h : ¬ (s.fc = 0 ∧ (tk ts s.i).k = 2)) : ∀ (l : List (List UInt8)) (o : Nat), fstW ts s l o = 0
  | [], _ => rfl
  | x :: l, o => by
    rw [fstW, if_neg (by rw [isS_ne h]; decide)]
    exact fst_no h l _
theorem fst_yes (h : s.fc = 0 ∧ (tk ts s.i).k = 2) : ∀ (l : List (List UInt8)) (o : Nat), fstW ts s l o = if ixS (tk ts s.i).t l < l.length then o + ixS (tk ts s.i).t l + 1 else 0
  | [], _ => rfl
  | x :: l, o => by
    rw [fstW, isS_eq h, ixS, List.length_cons]
    by_cases e : (tk ts s.i).t = x
    · rw [if_pos (decide_eq_true e), if_pos e, if_pos (by omega)]
    · rw [if_neg (by simpa using e), if_neg e, fst_yes h l (o + 1)]
      by_cases hl : ixS (tk ts s.i).t l < l.length
      · rw [if_pos hl, if_pos (by omega)]; omega
      · rw [if_neg hl, if_neg (by omega)]
theorem ix_no {t : List UInt8} : ∀ {l : List (List UInt8)}, (∀ x, x ∈ l → t ≠ x) → ixS t l = l.length
  | [], _ => rfl
  | x :: l, h => by
    rw [ixS, if_neg (h x List.mem_cons_self), ix_no fun y hy => h y (List.mem_cons_of_mem _ hy), List.length_cons]
theorem tk_good (hg : ∀ t, t ∈ ts → t.Good) (i : Nat) : (tk ts i).Good := by
  unfold tk
  cases h : ts[i]? with
  | none => exact ⟨fun h => absurd h (by decide), fun h => absurd h (by decide), Int.le_refl 0, (by decide : (0 : Int) ≤ 9223372036854775807)⟩
  | some t => exact hg t (List.mem_of_getElem? h)
theorem which_words (hg : ∀ t, t ∈ ts → t.Good) {l : List (List UInt8)} (hl : ∀ x, x ∈ l → Wd x) : whichS ts s l = fstW ts s l 0 := by
  unfold whichS
  by_cases h2 : s.fc = 0 ∧ (tk ts s.i).k = 2
  · rw [if_neg (by rintro (h | h); exact h h2.1; exact h.1 h2.2), fst_yes h2]
    split
    · omega
    · rfl
  · rw [fst_no h2]
    split
    · rfl
    · rename_i hn
      simp only [not_or, Decidable.not_not, Classical.not_and_iff_not_or_not] at hn
      have h4 : (tk ts s.i).k = 4 := by
        rcases hn.2 with h | h
        · exact absurd ⟨hn.1, h⟩ h2
        · exact h
      obtain ⟨c, r, e, hc⟩ := (tk_good hg s.i).2.1 h4
      rw [ix_no fun x hx => ?_, if_neg (by omega)]
      obtain ⟨c', r', e', hc'⟩ := hl x hx
      rw [e, e']
      intro he
      injection he with he _
      subst he
      rw [hc] at hc'
      cases hc'
theorem which_word (hg : ∀ t, t ∈ ts → t.Good) {x : List UInt8} (hx : Wd x) : whichS ts s [x] = if isS ts s 2 x = true then 1 else 0 := which_words hg (l := [x]) fun y hy => by simp only [List.mem_singleton] at hy; subst hy; exact hx
theorem which_sign (hg : ∀ t, t ∈ ts → t.Good) {x : List UInt8} (hx : Sg x) : whichS ts s [x] = if isS ts s 4 x = true then 1 else 0 := by
  unfold whichS
  by_cases h4 : s.fc = 0 ∧ (tk ts s.i).k = 4
  · rw [if_neg (by rintro (h | h); exact h h4.1; exact h.2 h4.2), isS_eq h4]
    unfold ixS
    by_cases e : (tk ts s.i).t = x
    · rw [if_pos e, if_pos (by simp), if_pos (decide_eq_true e)]
    · rw [if_neg e, if_neg (by unfold ixS; simp), if_neg (by simpa using e)]
  · rw [isS_ne h4]
    split
    · rfl
    · rename_i hn
      simp only [not_or, Decidable.not_not, Classical.not_and_iff_not_or_not] at hn
      have h2 : (tk ts s.i).k = 2 := by
        rcases hn.2 with h | h
        · exact h
        · exact absurd ⟨hn.1, h⟩ h4
      obtain ⟨c, r, e, hc⟩ := (tk_good hg s.i).1 h2
      rw [ix_no fun y hy => ?_, if_neg (by simp), if_neg (by decide)]
      simp only [List.mem_singleton] at hy
      subst hy
      obtain ⟨c', r', e', hc'⟩ := hx
      rw [e, e']
      intro he
      injection he with he _
      subst he
      rw [hc] at hc'
      cases hc'
end

/-! ## the reader: its counts are what is not left -/
structure Cnt (s : Sx) (n m a d : Int) : Prop where
  n : n = 64 - s.n
  m : m = 200 - s.m
  a : a = 400 - s.a
  d : d = 12 - s.d
  n0 : 0 ≤ s.n ∧ s.n ≤ 64
  m0 : 0 ≤ s.m ∧ s.m ≤ 200
  a0 : 0 ≤ s.a ∧ s.a ≤ 400
  d0 : 0 ≤ s.d ∧ s.d ≤ 12
abbrev xrv (l : Sl) (i n m a d fc fa : Int) : List Value := [l.v, .int .i64 i, .int .i64 n, .int .i64 m, .int .i64 a, .int .i64 d, .int .i64 fc, .int .i64 fa]
structure XsP (P : Prop) (F : Nat → Prop) (ts : List Tk) (w : World) (b : Nat) (l : Sl) (s : Sx) : Prop where
  blk : ∃ n m a d : Int, Blk w b 91 (xrv l (s.i : Int) n m a d s.fc s.fa) ∧ (s.fc = 0 → P → Cnt s n m a d)
  tok : SliceF rTk 4 w F l ts
  hF : ∀ k, F k → k < b
  en : EndL ts
  lt : s.i < ts.length
  sm : ts.length ≤ 16777216
  hg : ∀ t, t ∈ ts → t.Good
section
variable {P : Prop} {F : Nat → Prop} {ts : List Tk} {w w' : World} {b : Nat} {l : Sl} {s s' : Sx}
theorem XsP.lb (h : XsP P F ts w b l s) : b < w.heap.size := by
  obtain ⟨_, _, _, _, hb, _⟩ := h.blk
  exact hb.lt
theorem XsP.own (h : XsP P F ts w b l s) {bs : List Nat} (hO : Only bs w w') (hb : ∀ x, x ∈ bs → b < x) : XsP P F ts w' b l s := by
  obtain ⟨n, m, a, d, hB, hc⟩ := h.blk
  exact ⟨⟨n, m, a, d, hO.blk hB fun hm => (by have := hb b hm; omega), hc⟩, SliceF.only rTk_ok (by decide) h.tok hO fun k hk _ hm => (by have := h.hF k hk; have := hb k hm; omega), h.hF, h.en, h.lt, h.sm, h.hg⟩
theorem XsP.only (h : XsP P F ts w b l s) (hO : Only [] w w') : XsP P F ts w' b l s := h.own hO fun x hx => (by cases hx)
theorem XsP.one (h : XsP P F ts w b l s) {k0 : Nat} (hO : Only [k0] w w') (hk : b < k0) : XsP P F ts w' b l s := h.own hO fun x hx => (by simp only [List.mem_singleton] at hx; omega)
theorem XsP.turn (h : XsP P F ts w b l s) (hO : Only [b] w w') {n m a d : Int} (hB : Blk w' b 91 (xrv l (s'.i : Int) n m a d s'.fc s'.fa)) (hc : s'.fc = 0 → P → Cnt s' n m a d) (hi : s'.i < ts.length) : XsP P F ts w' b l s' :=
  ⟨⟨n, m, a, d, hB, hc⟩, SliceF.only rTk_ok (by decide) h.tok hO fun k hk _ hm => (by have := h.hF k hk; simp only [List.mem_singleton] at hm; omega), h.hF, h.en, hi, h.sm, h.hg⟩
theorem XsP.z (h : XsP P F ts w b l s) : Fz [b] w w [] := Fz.start fun x hx => (by simp only [List.mem_singleton] at hx; rw [hx]; exact h.lb)
theorem XsP.wr (h : XsP P F ts w b l s) : IntKind.wrap .i64 ((s.i : Int) + 1) = ((s.i + 1 : Nat) : Int) := by
  have := h.sm
  have := h.lt
  rw [wr' (by omega) (by omega)]; rfl
theorem XsP.now (h : XsP P F ts w b l s) : ∃ ad, SlAt l (s.i : Int) 4 ad ∧ Cells w ad [.int .i64 (tk ts s.i).k, .string (T (tk ts s.i).t), .int .i64 (tk ts s.i).n, .int .i64 (tk ts s.i).a] := by
  have hl := h.tok.len
  have hlt := h.lt
  obtain ⟨ad, x, cs, g1, g2, g3, g4, g5, g6⟩ := h.tok.get (Int.natCast_nonneg s.i) (by omega)
  rw [Int.toNat_natCast, tk_at h.lt] at g2
  injection g2 with g2
  subst g2
  unfold rTk at g6
  subst g6
  exact ⟨ad, g1, g5⟩
structure DxP (P : Prop) (F : Nat → Prop) (ts : List Tk) (w w' : World) (b : Nat) (l : Sl) (s : Sx) : Prop where
  o : Only [b] w w'
  r : XsP P F ts w' b l s
theorem XsP.dn (h : XsP P F ts w b l s) : DxP P F ts w w b l s := ⟨Only.refl _ _, h⟩
section
variable {w2 : World} {ks ks' : List Nat} {k0 : Nat}
theorem DxP.q (h : DxP P F ts w w' b l s) (k : Only [] w' w2) : DxP P F ts w w2 b l s := ⟨h.o.tr0 k, h.r.only k⟩
theorem DxP.nx (h : DxP P F ts w w' b l s) (k : DxP P F ts w' w2 b l s') : DxP P F ts w w2 b l s' := ⟨h.o.trans k.o fun x hx => .inl hx, k.r⟩
structure ZxP (P : Prop) (F : Nat → Prop) (ts : List Tk) (w w' : World) (b : Nat) (l : Sl) (s : Sx) (ks : List Nat) : Prop where
  z : Fz [b] w w' ks
  r : XsP P F ts w' b l s
theorem XsP.zt (h : XsP P F ts w b l s) : ZxP P F ts w w b l s [] := ⟨h.z, h⟩
theorem ZxP.q (h : ZxP P F ts w w' b l s ks) (k : Only [] w' w2) : ZxP P F ts w w2 b l s ks := ⟨h.z.q k, h.r.only k⟩
theorem ZxP.al (h : ZxP P F ts w w' b l s ks) (k : Only [] w' w2) (h1 : w'.heap.size ≤ k0) (h2 : k0 < w2.heap.size) : ZxP P F ts w w2 b l s (k0 :: ks) := ⟨h.z.al k h1 h2, h.r.only k⟩
theorem ZxP.ad (h : ZxP P F ts w w' b l s ks) (h1 : w.heap.size ≤ k0) (h2 : k0 < w'.heap.size) : ZxP P F ts w w' b l s (k0 :: ks) := ⟨⟨h.z.o, fun x hx => by
  rcases List.mem_cons.1 hx with rfl | hx
  · exact ⟨h1, h2⟩
  · exact h.z.k x hx, h.z.lo⟩, h.r⟩
theorem ZxP.lt (h : ZxP P F ts w w' b l s ks) (hk : k0 ∈ ks) : b < k0 := Nat.lt_of_lt_of_le (h.z.lo b (by simp)) (h.z.k k0 hk).1
theorem ZxP.f (h : ZxP P F ts w w' b l s ks) (k : Only [k0] w' w2) (hk : k0 ∈ ks) : ZxP P F ts w w2 b l s ks := ⟨h.z.f k hk, h.r.one k (h.lt hk)⟩
theorem ZxP.nx (h : ZxP P F ts w w' b l s ks) (k : DxP P F ts w' w2 b l s') : ZxP P F ts w w2 b l s' ks := ⟨h.z.c k.o, k.r⟩
theorem ZxP.dn (h : ZxP P F ts w w' b l s ks) : DxP P F ts w w' b l s := ⟨h.z.o, h.r⟩
theorem ZxP.sq (h : ZxP P F ts w w' b l s ks) (k : Only [] w' w2) (hk : ∀ x, x ∈ ks' → x ∈ ks) : Same ks' w' w2 := h.z.sq k hk
theorem ZxP.sc (h : ZxP P F ts w w' b l s ks) (k : DxP P F ts w' w2 b l s') (hk : ∀ x, x ∈ ks' → x ∈ ks) : Same ks' w' w2 := h.z.sc k.o hk
theorem ZxP.ne (h : ZxP P F ts w w' b l s ks) (hk : k0 ∈ ks) : k0 ≠ b := h.z.ne hk (by simp)
theorem ZxP.row {gs : List Nat} (h : ZxP P F ts w w' b l s ks) (k : Only gs w' w2) (hg : ∀ x, x ∈ gs → w.heap.size ≤ x) : ZxP P F ts w w2 b l s ks := ⟨h.z.new k fun x hx => .inr (hg x hx), h.r.own k fun x hx => Nat.lt_of_lt_of_le (h.z.lo b (by simp)) (hg x hx)⟩
theorem ZxP.sr {gs : List Nat} (h : ZxP P F ts w w' b l s ks) (k : Only gs w' w2) (hk : ∀ x, x ∈ ks' → x ∈ ks) (hg : ∀ x, x ∈ gs → ∀ y, y ∈ ks' → y < x) : Same ks' w' w2 := h.z.sm k hk fun x hx => .inr fun y hy e => by have := hg x hx y hy; omega
theorem Stay.x {B : Nat} (h : Stay B w w') (k : DxP P F ts w' w2 b l s') (hb : b < B) : Stay B w w2 := h.go k.o fun x hx => .inl (by simp only [List.mem_singleton] at hx; omega)
end
theorem Cnt.next {n m a d : Int} (h : Cnt s n m a d) : Cnt (nextS s) n m a d := ⟨h.n, h.m, h.a, h.d, h.n0, h.m0, h.a0, h.d0⟩
theorem ystop_c (h : XsP P F ts w b l s) {c : Int} (hc0 : c ≠ 0) : Calls Tryz.prog 68 #[rp b, .int .i64 c] w fun e w' => e = .returned (.tuple #[]) ∧ DxP P F ts w w' b l (stopS ts s c) := by
  refine ret (pavaneref07_reader_stop_wp ⟨b, 0, none⟩ c (fun v w' => v = (.tuple #[]) ∧ DxP P F ts w w' b l (stopS ts s c)) w ?_)
  unfold pavaneref07_reader_stop_vc
  obtain ⟨n, m, a, d, hB, hcn⟩ := h.blk
  refine ⟨s.fc, Blk.at1 hB 6 rfl, fun hc w0 hO0 => ?_, fun hc => ?_⟩
  · have hc : s.fc = 0 := by simpa using hc
    have h1 := h.only hO0
    have hB1 := hO0.blk hB (by simp)
    obtain ⟨ad, g1, g2⟩ := h1.now
    refine ⟨l, Blk.at1 hB1 0 rfl, _, Blk.at1 hB1 1 rfl, ad, g1, _, g2.at1 3 _ rfl, b, 6, _, _, rfl, hB1, by simp, fun w2 hO2 hB2 => ⟨rfl, (hO0.weaken (bs' := [b]) fun _ h => (by cases h)).trans hO2 fun x hx => .inl hx, ?_⟩⟩
    unfold stopS
    rw [if_pos hc]
    exact h1.turn (s' := { s with fc := c, fa := (tk ts s.i).a }) hO2 hB2 (fun e _ => absurd e hc0) h.lt
  · have hc : s.fc ≠ 0 := by simpa using hc
    unfold stopS
    rw [if_neg hc]
    exact ⟨rfl, h.dn⟩
theorem ywrong_c (h : XsP P F ts w b l s) : Calls Tryz.prog 40 #[rp b] w fun e w' => e = .returned (.tuple #[]) ∧ DxP P F ts w w' b l (wrongS ts s) := by
  refine ret (pavaneref07_reader_wrong_wp ⟨b, 0, none⟩ (fun v w' => v = (.tuple #[]) ∧ DxP P F ts w w' b l (wrongS ts s)) w ?_)
  unfold pavaneref07_reader_wrong_vc
  obtain ⟨ad, g1, g2⟩ := h.now
  obtain ⟨n, m, a, d, hB, hcn⟩ := h.blk
  refine ⟨l, Blk.at1 hB 0 rfl, _, Blk.at1 hB 1 rfl, ad, g1, _, g2.at1 0 _ rfl, fun hc w2 hO2 => ?_, fun hc w2 hO2 => ?_⟩
  · have hc : (tk ts s.i).k = 5 := by simpa using hc
    refine (ystop_c (h.only hO2) (c := 3) (by decide)).mono ?_
    rintro _ w3 ⟨rfl, h3⟩
    refine ⟨rfl, rfl, (h.dn.q hO2).nx ?_⟩
    unfold wrongS
    rw [if_pos hc]
    have e : ∀ u : Sx, u.fc ≠ 0 → stopS ts u 4 = u := fun u h => by
      unfold stopS
      rw [if_neg h]
    rw [e _ (stop_fc (by decide))]
    exact h3
  · have hc : ¬ (tk ts s.i).k = 5 := by simpa using hc
    refine (ystop_c (h.only hO2) (c := 4) (by decide)).mono ?_
    rintro _ w3 ⟨rfl, h3⟩
    refine ⟨rfl, rfl, (h.dn.q hO2).nx ?_⟩
    unfold wrongS
    rw [if_neg hc]
    exact h3
theorem yok_c (h : XsP P F ts w b l s) : Calls Tryz.prog 71 #[rp b] w fun e w' => e = .returned (.bool (s.fc == 0)) ∧ Only [] w w' := by
  refine ret (pavaneref07_reader_ok_wp ⟨b, 0, none⟩ (fun v w' => v = (.bool (s.fc == 0)) ∧ Only [] w w') w ?_)
  unfold pavaneref07_reader_ok_vc
  obtain ⟨n, m, a, d, hB, hcn⟩ := h.blk
  exact ⟨s.fc, Blk.at1 hB 6 rfl, rfl, Only.refl _ _⟩
theorem yis_c (h : XsP P F ts w b l s) (k : Int) (x : List UInt8) : Calls Tryz.prog 72 #[rp b, .int .i64 k, .string (T x)] w fun e w' => e = .returned (.bool (isS ts s k x)) ∧ Only [] w w' := by
  refine ret (pavaneref07_reader_is_wp ⟨b, 0, none⟩ k _ (fun v w' => v = (.bool (isS ts s k x)) ∧ Only [] w w') w ?_)
  unfold pavaneref07_reader_is_vc
  intro w0 hO0
  have h0 := h.only hO0
  obtain ⟨ad, g1, g2⟩ := h0.now
  obtain ⟨n, m, a, d, hB, hcn⟩ := h0.blk
  refine ⟨fun _ => True, trivial, l, Blk.at1 hB 0 rfl, trivial, _, Blk.at1 hB 1 rfl, ad, g1, trivial, _, _, _, _, g2, fun k0 w1 hk hk' hO1 => ⟨s.fc, Blk.at1 (hO1.blk hB (by simp)) 6 rfl, ?_, hO0.tr0 hO1⟩⟩
  rw [T_eq]
  rfl
theorem ypass_c (h : XsP P F ts w b l s) {k : Int} (hk5 : k ≠ 5) (x : List UInt8) : Calls Tryz.prog 67 #[rp b, .int .i64 k, .string (T x)] w fun e w' => e = .returned (.bool (isS ts s k x)) ∧ DxP P F ts w w' b l (if isS ts s k x = true then nextS s else s) := by
  refine ret (pavaneref07_reader_pass_wp ⟨b, 0, none⟩ k _ (fun v w' => v = (.bool (isS ts s k x)) ∧ DxP P F ts w w' b l (if isS ts s k x = true then nextS s else s)) w ?_)
  unfold pavaneref07_reader_pass_vc
  refine (yis_c h k x).mono ?_
  rintro _ w0 ⟨rfl, hO0⟩
  have h0 := h.only hO0
  obtain ⟨n, m, a, d, hB, hcn⟩ := h0.blk
  refine ⟨_, rfl, fun w' => DxP P F ts w w' b l (if isS ts s k x = true then nextS s else s), fun w1 h1 => ⟨rfl, h1⟩, fun hc => ⟨_, Blk.at1 hB 1 rfl, b, 1, _, _, rfl, hB, by simp, fun w2 hO2 hB2 => ?_⟩, fun hc => ?_⟩
  · rw [if_pos hc]
    rw [h.wr] at hB2
    have hs : s.fc = 0 ∧ (tk ts s.i).k = k := Decidable.byContradiction fun hn => by rw [isS_ne hn] at hc; cases hc
    exact ⟨(hO0.weaken (bs' := [b]) fun _ h => (by cases h)).trans hO2 fun x hx => .inl hx, h0.turn (s' := nextS s) hO2 hB2 (fun e hP => (hcn e hP).next) (h.en.next h.lt (by rw [hs.2]; exact hk5))⟩
  · rw [if_neg (by rw [hc]; decide)]
    exact h.dn.q hO0
theorem ymust_c (h : XsP P F ts w b l s) {k : Int} (hk5 : k ≠ 5) {x : List UInt8} (hw : whichS ts s [x] = if isS ts s k x = true then 1 else 0) : Calls Tryz.prog 36 #[rp b, .int .i64 k, .string (T x)] w fun e w' => e = .returned (.tuple #[]) ∧ DxP P F ts w w' b l (mustS ts s x) := by
  refine ret (pavaneref07_reader_must_wp ⟨b, 0, none⟩ k _ (fun v w' => v = (.tuple #[]) ∧ DxP P F ts w w' b l (mustS ts s x)) w ?_)
  unfold pavaneref07_reader_must_vc
  refine (ypass_c h hk5 x).mono ?_
  rintro _ w0 ⟨rfl, h0⟩
  unfold mustS
  rw [hw]
  refine ⟨_, rfl, fun hc => ?_, fun hc => ?_⟩
  · have hc : isS ts s k x = false := by simpa using hc
    rw [if_neg (by rw [hc]; decide)] at h0
    rw [hc]
    refine (ywrong_c h0.r).mono ?_
    rintro _ w1 ⟨rfl, h1⟩
    exact ⟨rfl, rfl, h0.nx h1⟩
  · have hc : isS ts s k x = true := by simpa using hc
    rw [if_pos hc] at h0
    rw [hc]
    exact ⟨rfl, h0⟩
theorem ym4 (h : XsP P F ts w b l s) {x : List UInt8} (hx : Sg x) : Calls Tryz.prog 36 #[rp b, .int .i64 4, .string (T x)] w fun e w' => e = .returned (.tuple #[]) ∧ DxP P F ts w w' b l (mustS ts s x) := ymust_c h (by decide) (which_sign h.hg hx)
theorem ym2 (h : XsP P F ts w b l s) {x : List UInt8} (hx : Wd x) : Calls Tryz.prog 36 #[rp b, .int .i64 2, .string (T x)] w fun e w' => e = .returned (.tuple #[]) ∧ DxP P F ts w w' b l (mustS ts s x) := ymust_c h (by decide) (which_word h.hg hx)
theorem yp4 (h : XsP P F ts w b l s) {x : List UInt8} (hx : Sg x) : Calls Tryz.prog 67 #[rp b, .int .i64 4, .string (T x)] w fun e w' => e = .returned (.bool (decide (whichS ts s [x] ≠ 0))) ∧ DxP P F ts w w' b l (if whichS ts s [x] = 0 then s else nextS s) := by
  refine (ypass_c h (k := 4) (by decide) x).mono ?_
  rintro _ w0 ⟨rfl, h0⟩
  rw [which_sign h.hg hx]
  cases hc : isS ts s 4 x with
  | true => rw [hc] at h0; exact ⟨rfl, h0⟩
  | false => rw [hc] at h0; exact ⟨rfl, h0⟩
theorem yp2 (h : XsP P F ts w b l s) {x : List UInt8} (hx : Wd x) : Calls Tryz.prog 67 #[rp b, .int .i64 2, .string (T x)] w fun e w' => e = .returned (.bool (decide (whichS ts s [x] ≠ 0))) ∧ DxP P F ts w w' b l (if whichS ts s [x] = 0 then s else nextS s) := by
  refine (ypass_c h (k := 2) (by decide) x).mono ?_
  rintro _ w0 ⟨rfl, h0⟩
  rw [which_word h.hg hx]
  cases hc : isS ts s 2 x with
  | true => rw [hc] at h0; exact ⟨rfl, h0⟩
  | false => rw [hc] at h0; exact ⟨rfl, h0⟩
theorem yi4 (h : XsP P F ts w b l s) {x : List UInt8} (hx : Sg x) : Calls Tryz.prog 72 #[rp b, .int .i64 4, .string (T x)] w fun e w' => e = .returned (.bool (decide (whichS ts s [x] ≠ 0))) ∧ Only [] w w' := by
  refine (yis_c h 4 x).mono ?_
  rintro _ w0 ⟨rfl, h0⟩
  rw [which_sign h.hg hx]
  cases hc : isS ts s 4 x <;> exact ⟨rfl, h0⟩
theorem yname_c (h : XsP P F ts w b l s) : Calls Tryz.prog 69 #[rp b] w fun e w' => e = .returned (.tuple #[.string (T (kindS ts s 1).1.t), .int .i64 (kindS ts s 1).1.a]) ∧ DxP P F ts w w' b l (kindS ts s 1).2 := by
  refine ret (pavaneref07_reader_name_wp ⟨b, 0, none⟩ (fun v w' => v = (.tuple #[.string (T (kindS ts s 1).1.t), .int .i64 (kindS ts s 1).1.a]) ∧ DxP P F ts w w' b l (kindS ts s 1).2) w ?_)
  unfold pavaneref07_reader_name_vc
  intro w0 hO0
  have h0 := h.only hO0
  have d0 := h.dn.q hO0
  obtain ⟨ad, g1, g2⟩ := h0.now
  obtain ⟨n, m, a, d, hB, hcn⟩ := h0.blk
  refine ⟨fun _ => True, trivial, l, Blk.at1 hB 0 rfl, trivial, _, Blk.at1 hB 1 rfl, ad, g1, trivial, _, _, _, _, g2, fun k0 w1 hk hk' hO1 => ?_⟩
  have t1 := (h.zt.q hO0).al hO1 hk hk'
  have hB1 := hO1.blk hB (by simp)
  have hc0 : ((s.fc != 0) || ((tk ts s.i).k != 1)) = decide (s.fc ≠ 0 ∨ (tk ts s.i).k ≠ 1) := by
    rw [Bool.eq_iff_iff]
    simp
  refine ⟨s.fc, Blk.at1 hB1 6 rfl, ?_⟩
  rw [hc0]
  refine ⟨fun hc => (ywrong_c t1.r).mono ?_, fun hc => ⟨_, Blk.at1 hB1 1 rfl, b, 1, _, _, rfl, hB1, by simp, t1.ne (by simp), fun w3 hO3 hB3 w4 hO4 => ?_⟩⟩
  · rintro _ w2 ⟨rfl, h2⟩
    unfold kindS
    rw [if_pos (of_decide_eq_true hc)]
    exact ⟨rfl, t1.sc h2 (by simp), rfl, (t1.nx h2).dn⟩
  · have hc := of_decide_eq_false hc
    unfold kindS
    rw [if_neg hc]
    simp only [not_or, Decidable.not_not] at hc
    rw [h.wr] at hB3
    exact ⟨rfl, ((d0.q hO1).nx ⟨hO3, t1.r.turn (s' := nextS s) hO3 hB3 (fun e hP => (hcn e hP).next) (h.en.next h.lt (by rw [hc.2]; decide))⟩).q hO4⟩
theorem yint_c (h : XsP P F ts w b l s) : Calls Tryz.prog 70 #[rp b] w fun e w' => e = .returned (.int .i64 (kindS ts s 3).1.n) ∧ DxP P F ts w w' b l (kindS ts s 3).2 := by
  refine ret (pavaneref07_reader_int_wp ⟨b, 0, none⟩ (fun v w' => v = (.int .i64 (kindS ts s 3).1.n) ∧ DxP P F ts w w' b l (kindS ts s 3).2) w ?_)
  unfold pavaneref07_reader_int_vc
  intro w0 hO0
  have h0 := h.only hO0
  have d0 := h.dn.q hO0
  obtain ⟨ad, g1, g2⟩ := h0.now
  obtain ⟨n, m, a, d, hB, hcn⟩ := h0.blk
  refine ⟨fun _ => True, trivial, l, Blk.at1 hB 0 rfl, trivial, _, Blk.at1 hB 1 rfl, ad, g1, trivial, _, _, _, _, g2, fun k0 w1 hk hk' hO1 => ?_⟩
  have t1 := (h.zt.q hO0).al hO1 hk hk'
  have hB1 := hO1.blk hB (by simp)
  have hc0 : ((s.fc != 0) || ((tk ts s.i).k != 3)) = decide (s.fc ≠ 0 ∨ (tk ts s.i).k ≠ 3) := by
    rw [Bool.eq_iff_iff]
    simp
  refine ⟨s.fc, Blk.at1 hB1 6 rfl, ?_⟩
  rw [hc0]
  refine ⟨fun hc => (ywrong_c t1.r).mono ?_, fun hc => ⟨_, Blk.at1 hB1 1 rfl, b, 1, _, _, rfl, hB1, by simp, t1.ne (by simp), fun w3 hO3 hB3 => ?_⟩⟩
  · rintro _ w2 ⟨rfl, h2⟩
    unfold kindS
    rw [if_pos (of_decide_eq_true hc)]
    exact ⟨rfl, t1.sc h2 (by simp), rfl, (t1.nx h2).dn⟩
  · have hc := of_decide_eq_false hc
    unfold kindS
    rw [if_neg hc]
    simp only [not_or, Decidable.not_not] at hc
    rw [h.wr] at hB3
    exact ⟨rfl, (d0.q hO1).nx ⟨hO3, t1.r.turn (s' := nextS s) hO3 hB3 (fun e hP => (hcn e hP).next) (h.en.next h.lt (by rw [hc.2]; decide))⟩⟩
end
abbrev Xs (F : Nat → Prop) (ts : List Tk) (w : World) (b : Nat) (l : Sl) (s : Sx) : Prop := XsP True F ts w b l s
abbrev Dx (F : Nat → Prop) (ts : List Tk) (w w' : World) (b : Nat) (l : Sl) (s : Sx) : Prop := DxP True F ts w w' b l s
abbrev Zx (F : Nat → Prop) (ts : List Tk) (w w' : World) (b : Nat) (l : Sl) (s : Sx) (ks : List Nat) : Prop := ZxP True F ts w w' b l s ks
end Go.Proofs.YtmanockofcopjaaGreatDoor.Con

namespace Go.Proofs.YtmanockofcopjaaGreatDoor.Con
open Go Go.RowKit Go.Kt Go.Kt.V Go.Proofs.YtmanockofcopjaaGreatDoor.Vc
set_option linter.unusedSimpArgs false
set_option linter.unusedVariables false
set_option maxHeartbeats 4000000

section
variable {F : Nat → Prop} {ts : List Tk} {w w' : World} {b : Nat} {l : Sl} {s s' : Sx}
theorem XsP.same {P : Prop} (h : XsP P F ts w b l s) (hi : s'.i = s.i) (hf : s'.fc = s.fc) (ha : s'.fa = s.fa) (hne : s.fc ≠ 0) {Q : Prop} : XsP Q F ts w b l s' := by
  obtain ⟨n, m, a, d, hB, hcn⟩ := h.blk
  exact ⟨⟨n, m, a, d, by rw [hi, hf, ha]; exact hB, fun e => absurd (hf ▸ e) hne⟩, h.tok, h.hF, h.en, by rw [hi]; exact h.lt, h.sm, h.hg⟩
theorem DxP.same {P : Prop} (h : DxP P F ts w w' b l s) (hi : s'.i = s.i) (hf : s'.fc = s.fc) (ha : s'.fa = s.fa) (hne : s.fc ≠ 0) {Q : Prop} : DxP Q F ts w w' b l s' := ⟨h.o, h.r.same hi hf ha hne⟩
theorem ZxP.same {P : Prop} {ks : List Nat} (h : ZxP P F ts w w' b l s ks) (hi : s'.i = s.i) (hf : s'.fc = s.fc) (ha : s'.fa = s.fa) (hne : s.fc ≠ 0) {Q : Prop} : ZxP Q F ts w w' b l s' ks := ⟨h.z, h.r.same hi hf ha hne⟩
theorem XsP.cnt (h : XsP True F ts w b l s) (h0 : s.fc = 0) : ∃ n m a d, Blk w b 91 (xrv l (s.i : Int) n m a d s.fc s.fa) ∧ Cnt s n m a d := by
  obtain ⟨n, m, a, d, hB, hcn⟩ := h.blk
  exact ⟨n, m, a, d, hB, hcn h0 trivial⟩
theorem parseA_ex0 {a : Int} (h : (parseA ts a).2.2.1 ≠ 0) : (parseA ts a).1 = ex0 := by
  unfold parseA at h ⊢
  split
  · rename_i hc
    rw [if_pos hc] at h
    cases hp : parseR ts a.toNat with
    | error e => rfl
    | ok q =>
      rw [hp] at h
      exact absurd rfl h
  · rfl
theorem yexpr_c (h : Xs F ts w b l s) : Calls Tryz.prog 111 #[rp b] w fun e w' => ∃ cs, e = .returned (.agg cs.toArray) ∧ rE true w' (Fr w.heap.size) (exprS ts s).1 cs ∧ Dx F ts w w' b l (exprS ts s).2 := by
  refine (pavaneref07_reader_expr_wp ⟨b, 0, none⟩ (fun v w' => ∃ cs, v = (.agg cs.toArray) ∧ rE true w' (Fr w.heap.size) (exprS ts s).1 cs ∧ Dx F ts w w' b l (exprS ts s).2) w ?_).mono (by
    rintro e w' ⟨v, rfl, cs, rfl, h⟩; exact ⟨cs, rfl, h⟩)
  unfold pavaneref07_reader_expr_vc
  intro k0 w0 hk hk' hO0
  have hl := h.lb
  have t0 := h.zt.al hO0 hk hk'
  obtain ⟨n, m, a, d, hB, hcn⟩ := t0.r.blk
  refine ⟨_, Blk.at1 hB 6 rfl, fun hc w1 hO1 => ?_, fun hc w2 hO2 => ?_⟩
  · have hc : s.fc ≠ 0 := by simpa using hc
    unfold exprS
    rw [if_pos hc]
    exact ⟨_, rfl, rE0 _ _ _, (t0.f hO1 (by simp)).dn⟩
  · have hc : ¬ s.fc ≠ 0 := by simpa using hc
    have hcn := hcn (by simpa using hc) trivial
    have t2 := t0.q hO2
    have hB2 := hO2.blk hB (by simp)
    refine ⟨fun k => k = b, fun w3 hO3 => ⟨rfl, l, Blk.at1 (hO3.blk hB2 (by simp)) 0 rfl, fun w4 hO4 => ⟨rfl, _, Blk.at1 (hO4.blk (hO3.blk hB2 (by simp)) (by simp)) 1 rfl, fun w5 hO5 => ?_⟩⟩⟩
    have t5 := ((t2.q hO3).q hO4).q hO5
    have hO25 := (hO3.tr0 hO4).tr0 hO5
    have hsm := h.sm
    have hlt := h.lt
    refine (eparse_r t5.r.tok (s.i : Int) ⟨by omega, by omega⟩).mono ?_
    rintro _ w6 ⟨cs, rfl, hX, hj, hO6⟩
    have t6 := t5.q hO6
    obtain ⟨sl, hcs, _⟩ := hX.cells
    have hsz : w2.heap.size ≤ w5.heap.size := hO25.size
    refine ⟨_, _, _, _, sl, _, _, _, _, by rw [hcs], t5.sq hO6 (by simp), Newer.only0 hO6, Keeps.only hO6, fun w7 hO7 k1 hk1 hk1' hap1 k2 hk2 hk2' hap2 hk12 => ?_⟩
    obtain ⟨dd, hX⟩ := hX.xg
    have hx6 : rE true w6 (fun k => w5.heap.size ≤ k ∧ k < w6.heap.size) (parseA ts s.i).1 cs := ⟨dd, hX⟩
    have z2 := t2.z.o.size
    have t7 := ((t6.q hO7).ad (k0 := k1) (by omega) hk1').ad (k0 := k2) (by omega) hk2'
    have k0l := (t2.z.k k0 (by simp)).2
    have hB7 : Blk w7 b 91 (xrv l (s.i : Int) n m a d s.fc s.fa) := hO7.blk (hO6.blk (hO25.blk hB2 (by simp)) (by simp)) (by simp)
    have hkb : k0 ≠ b := t2.ne (by simp)
    have hkb1 : k1 ≠ b := t7.ne (by simp)
    have hkb2 : k2 ≠ b := t7.ne (by simp)
    have cut : ∀ {w8 : World}, Only [k2, k1] w7 w8 → Zx F ts w w8 b l s [k2, k1, k0] := fun hO8 => ⟨t7.z.go hO8 fun x hx => .inr (by simp only [List.mem_cons, List.not_mem_nil, or_false] at hx ⊢; omega), t7.r.own hO8 fun x hx => t7.lt (by simp only [List.mem_cons, List.not_mem_nil, or_false] at hx ⊢; omega)⟩
    unfold exprS
    rw [if_neg hc]
    refine ⟨fun h1 w8 hO8 => ?_, fun h1 w11 hO11 => ?_⟩
    · have h1 : (parseA ts s.i).2.2.1 ≠ 0 := by simpa using h1
      have t8 := cut hO8
      have hB8 := hO8.blk hB7 (by simp only [List.mem_cons, List.not_mem_nil, or_false]; omega)
      refine ⟨b, 6, _, _, rfl, hB8, by simp, hkb, hkb1, hkb2, fun w9 hO9 hB9 w10 hO10 => ?_⟩
      rw [if_pos h1, parseA_ex0 h1]
      have d9 : Zx F ts w w9 b l { s with fc := (parseA ts s.i).2.2.1, fa := (parseA ts s.i).2.2.2 } [k2, k1, k0] := ⟨t8.z.c hO9, t8.r.turn (s' := { s with fc := (parseA ts s.i).2.2.1, fa := (parseA ts s.i).2.2.2 }) hO9 hB9 (fun e _ => absurd e h1) h.lt⟩
      exact ⟨_, rfl, rE0 _ _ _, (d9.f hO10 (by simp)).dn⟩
    · have h1 : ¬ (parseA ts s.i).2.2.1 ≠ 0 := by simpa using h1
      have t11 := cut hO11
      have hB11 := hO11.blk hB7 (by simp only [List.mem_cons, List.not_mem_nil, or_false]; omega)
      obtain ⟨hj0, hj1⟩ := hj (by simpa using h1)
      have ej : ((parseA ts s.i).2.1.toNat : Int) = (parseA ts s.i).2.1 := Int.toNat_of_nonneg hj0
      refine ⟨b, 1, _, _, rfl, hB11, by simp, hkb, hkb1, hkb2, fun w12 hO12 hB12 w13 hO13 => ?_⟩
      rw [if_neg h1]
      have d12 : Zx F ts w w12 b l { s with i := (parseA ts s.i).2.1.toNat } [k2, k1, k0] := ⟨t11.z.c hO12, t11.r.turn (s' := { s with i := (parseA ts s.i).2.1.toNat }) hO12 (n := n) (m := m) (a := a) (d := d) (by dsimp only [xrv]; rw [ej]; exact hB12) (fun e _ => ⟨hcn.n, hcn.m, hcn.a, hcn.d, hcn.n0, hcn.m0, hcn.a0, hcn.d0⟩) (by dsimp only; omega)⟩
      refine ⟨cs, by rw [hcs], ?_, (d12.f hO13 (by simp)).dn⟩
      have hO713 : Only [k2, k1, b, k0] w7 w13 := ((hO11.weaken (bs' := [k2, k1, b, k0]) fun x hx => .inl (by simp only [List.mem_cons, List.not_mem_nil, or_false] at hx ⊢; omega)).trans hO12 fun x hx => .inl (by simp only [List.mem_singleton] at hx; simp [hx])).trans hO13 fun x hx => .inl (by simp only [List.mem_singleton] at hx; simp [hx])
      refine (rE_ok true).mono ((rE_ok true).keep hx6 fun k hkk hlt => (hO713.block k (Nat.lt_of_lt_of_le hlt hO7.size) fun hm => ?_).trans (hO7.block k hlt (by simp))) fun k hkk => by have := hkk.1; show w.heap.size ≤ k; omega
      simp only [List.mem_cons, List.not_mem_nil, or_false] at hm
      have q1 := hap1.one
      have q2 := hap2.one
      have zz := t5.z.o.size
      rcases hm with rfl | rfl | rfl | rfl <;> omega
theorem wd_kinds : ∀ x, x ∈ wKinds → Wd x := fun x hx => by
  simp only [wKinds, List.mem_cons, List.not_mem_nil, or_false] at hx
  rcases hx with rfl | rfl | rfl | rfl <;> exact ⟨_, _, rfl, by decide⟩
theorem wd_moves : ∀ x, x ∈ [wOn, wAlways, wAfter] → Wd x := fun x hx => by
  simp only [List.mem_cons, List.not_mem_nil, or_false] at hx
  rcases hx with rfl | rfl | rfl <;> exact ⟨_, _, rfl, by decide⟩
theorem wd_acts : ∀ x, x ∈ [wSet, wRaise, wEmit] → Wd x := fun x hx => by
  simp only [List.mem_cons, List.not_mem_nil, or_false] at hx
  rcases hx with rfl | rfl | rfl <;> exact ⟨_, _, rfl, by decide⟩
/-- a word of a literal -/
theorem word_at {w : World} {G : Nat → Prop} {q : Sl} {ss : List (List UInt8)} (h : SliceF rTx 1 w G q ss) {n : Nat} (hn : n < ss.length) : ∃ ad x, SlAt q (n : Int) 1 ad ∧ Cells w ad [.string (T x)] ∧ ss[n]? = some x ∧ ss.drop n = x :: ss.drop (n + 1) := by
  have hl := h.len
  obtain ⟨ad, x, cs, g1, g2, g3, g4, g5, g6⟩ := h.get (i := (n : Int)) (by omega) (by omega)
  rw [Int.toNat_natCast] at g2
  unfold rTx at g6
  subst g6
  exact ⟨ad, x, g1, g5, g2, by rw [List.drop_eq_getElem_cons hn, ← (List.getElem?_eq_some_iff.1 g2).2]⟩
theorem ymoving_c (h : Xs F ts w b l s) : Calls Tryz.prog 74 #[rp b] w fun e w' => e = .returned (.int .i64 (whichS ts s [wOn, wAlways, wAfter] : Nat)) ∧ Only [] w w' := by
  refine ret (pavaneref07_reader_moving_wp ⟨b, 0, none⟩ (fun v w' => v = (.int .i64 (whichS ts s [wOn, wAlways, wAfter] : Nat)) ∧ Only [] w w') w ?_)
  unfold pavaneref07_reader_moving_vc
  obtain ⟨q, w0, e1, hq, hO0⟩ := buildS w [wOn, wAlways, wAfter] (n := 3) (parts := #[(0, .string (T wOn)), (1, .string (T wAlways)), (2, .string (T wAfter))]) rfl rfl (by decide) (by decide)
  rw [which_words h.hg wd_moves]
  generalize hV0 : fstW ts s [wOn, wAlways, wAfter] 0 = V
  refine ⟨q, w0, e1, fun nv i w' => ∃ n : Nat, i = (n : Int) ∧ n ≤ 3 ∧ nv = 3 - n ∧ fstW ts s ([wOn, wAlways, wAfter].drop n) n = V ∧ Only [] w0 w', 3, ⟨0, rfl, by decide, rfl, hV0, Only.refl _ _⟩, ?_⟩
  rintro nv _ w1 ⟨n, rfl, hn, rfl, hV, hO1⟩
  refine ⟨fun hc => ?_, fun hc => ?_⟩
  · have hc : n < 3 := by have := of_decide_eq_true hc; omega
    obtain ⟨ad, x, g1, g2, g3, g4⟩ := word_at (SliceF.only rTx_ok (by decide) (flatS hq) hO1 (by simp)) (n := n) hc
    rw [g4, fstW] at hV
    refine ⟨ad, g1, _, g2, (yis_c (h.only (hO0.tr0 hO1)) 2 x).mono ?_⟩
    rintro _ w2 ⟨rfl, hO2⟩
    refine ⟨_, rfl, fun hb => ?_, fun hb => ⟨3 - (n + 1), by omega, n + 1, by rw [wr' (by omega) (by omega)]; rfl, by omega, rfl, ?_, hO1.tr0 hO2⟩⟩
    · rw [if_pos hb] at hV
      rw [← hV, wr' (by omega) (by omega)]
      exact ⟨rfl, hO0.tr0 (hO1.tr0 hO2)⟩
    · rw [if_neg (by rw [hb]; decide)] at hV
      exact hV
  · have hc : n = 3 := by have := of_decide_eq_false hc; omega
    subst hc
    rw [← hV]
    exact ⟨rfl, hO0.tr0 hO1⟩
theorem ykind_c (h : Xs F ts w b l s) : Calls Tryz.prog 76 #[rp b] w fun e w' => e = .returned (.int .i64 (whichS ts s wKinds : Nat)) ∧ Only [] w w' := by
  refine ret (pavaneref07_reader_kind_wp ⟨b, 0, none⟩ (fun v w' => v = (.int .i64 (whichS ts s wKinds : Nat)) ∧ Only [] w w') w ?_)
  unfold pavaneref07_reader_kind_vc
  obtain ⟨q, w0, e1, hq, hO0⟩ := buildS w wKinds (n := 4) (parts := #[(0, .string (T wState)), (1, .string (T wParallel)), (2, .string (T wHistory)), (3, .string (T wDeep))]) rfl rfl (by decide) (by decide)
  rw [which_words h.hg wd_kinds]
  generalize hV0 : fstW ts s wKinds 0 = V
  refine ⟨q, w0, e1, fun nv i w' => ∃ n : Nat, i = (n : Int) ∧ n ≤ 4 ∧ nv = 4 - n ∧ fstW ts s (wKinds.drop n) n = V ∧ Only [] w0 w', 4, ⟨0, rfl, by decide, rfl, hV0, Only.refl _ _⟩, ?_⟩
  rintro nv _ w1 ⟨n, rfl, hn, rfl, hV, hO1⟩
  refine ⟨fun hc => ?_, fun hc => ?_⟩
  · have hc : n < 4 := by have := of_decide_eq_true hc; omega
    obtain ⟨ad, x, g1, g2, g3, g4⟩ := word_at (SliceF.only rTx_ok (by decide) (flatS hq) hO1 (by simp)) (n := n) hc
    rw [g4, fstW] at hV
    refine ⟨ad, g1, _, g2, (yis_c (h.only (hO0.tr0 hO1)) 2 x).mono ?_⟩
    rintro _ w2 ⟨rfl, hO2⟩
    refine ⟨_, rfl, fun hb => ?_, fun hb => ⟨4 - (n + 1), by omega, n + 1, by rw [wr' (by omega) (by omega)]; rfl, by omega, rfl, ?_, hO1.tr0 hO2⟩⟩
    · rw [if_pos hb] at hV
      rw [← hV, wr' (by omega) (by omega)]
      exact ⟨rfl, hO0.tr0 (hO1.tr0 hO2)⟩
    · rw [if_neg (by rw [hb]; decide)] at hV
      exact hV
  · have hc : n = 4 := by have := of_decide_eq_false hc; omega
    subst hc
    rw [← hV]
    exact ⟨rfl, hO0.tr0 hO1⟩
end
end Go.Proofs.YtmanockofcopjaaGreatDoor.Con

namespace Go.Proofs.YtmanockofcopjaaGreatDoor.Con
open Go Go.RowKit Go.Kt Go.Kt.V Go.Proofs.YtmanockofcopjaaGreatDoor.Vc
set_option linter.unusedSimpArgs false
set_option linter.unusedVariables false
set_option maxHeartbeats 4000000

def lstW (ts : List Tk) (s : Sx) : List (List UInt8) → Nat → Nat → Nat
  | [], _, acc => acc
  | x :: l, o, acc => lstW ts s l (o + 1) (if isS ts s 2 x = true then o + 1 else acc)
section
variable {F : Nat → Prop} {ts : List Tk} {w w' : World} {b : Nat} {l : Sl} {s s' : Sx}
theorem lst_no : ∀ {l : List (List UInt8)} {o acc : Nat}, (∀ y, y ∈ l → isS ts s 2 y = false) → lstW ts s l o acc = acc
  | [], _, _, _ => rfl
  | x :: l, o, acc, h => by
    rw [lstW, h x List.mem_cons_self, if_neg (by decide)]
    exact lst_no fun y hy => h y (List.mem_cons_of_mem _ hy)
theorem lst_fst : ∀ {l : List (List UInt8)} {o : Nat}, l.Nodup → lstW ts s l o 0 = fstW ts s l o
  | [], _, _ => rfl
  | x :: l, o, h => by
    rw [lstW, fstW]
    rw [List.nodup_cons] at h
    cases hx : isS ts s 2 x with
    | true =>
      rw [if_pos rfl, if_pos rfl]
      refine lst_no fun y hy => ?_
      have hs : s.fc = 0 ∧ (tk ts s.i).k = 2 := Decidable.byContradiction fun hn => by rw [isS_ne hn] at hx; cases hx
      rw [isS_eq hs] at hx ⊢
      have hx := of_decide_eq_true hx
      exact decide_eq_false fun e => h.1 (by rw [← hx, e]; exact hy)
    | false =>
      rw [if_neg (by decide), if_neg (by decide)]
      exact lst_fst h.2
theorem yact_c (h : Xs F ts w b l s) : Calls Tryz.prog 110 #[rp b] w fun e w' => ∃ cs, e = .returned (.agg cs.toArray) ∧ rAc true w' (Fr w.heap.size) (actS ts s).1 cs ∧ Dx F ts w w' b l (actS ts s).2 := by
  refine (pavaneref07_reader_act_wp ⟨b, 0, none⟩ (fun v w' => ∃ cs, v = (.agg cs.toArray) ∧ rAc true w' (Fr w.heap.size) (actS ts s).1 cs ∧ Dx F ts w w' b l (actS ts s).2) w ?_).mono (by
    rintro e w' ⟨v, rfl, cs, rfl, h⟩; exact ⟨cs, rfl, h⟩)
  unfold pavaneref07_reader_act_vc
  intro k0 w0 hk hk' hO0
  have t0 := h.zt.al hO0 hk hk'
  obtain ⟨ad, g1, g2⟩ := t0.r.now
  obtain ⟨_, _, _, _, hB0, _⟩ := t0.r.blk
  refine ⟨fun _ => True, trivial, l, Blk.at1 hB0 0 rfl, trivial, _, Blk.at1 hB0 1 rfl, ad, g1, trivial, _, g2.at1 3 _ rfl, fun k1 w1 hk1 hk1' hO1 => ?_⟩
  have t1 := t0.al hO1 hk1 hk1'
  clear hB0
  obtain ⟨q, w2, e1, hq, hO2⟩ := buildS w1 [wSet, wRaise, wEmit] (n := 3) (parts := #[(0, .string (T wSet)), (1, .string (T wRaise)), (2, .string (T wEmit))]) rfl rfl (by decide) (by decide)
  have hws := which_words (s := s) h.hg wd_acts
  generalize hV0 : lstW ts s [wSet, wRaise, wEmit] 0 0 = V
  have hV : whichS ts s [wSet, wRaise, wEmit] = V := by rw [hws, ← lst_fst (by decide), hV0]
  refine ⟨q, w2, e1, t1.sq hO2 (by simp), fun nv i2 i3 s0 i4 i5 s1 i6 l2 i7 i8 w' => ∃ n acc : Nat, i2 = (n : Int) ∧ n ≤ 3 ∧ nv = 3 - n ∧ i3 = (acc : Int) ∧ s0 = T [] ∧ i4 = 0 ∧ i5 = 0 ∧ s1 = T [] ∧ i6 = 0 ∧ l2 = Sl.nil ∧ i7 = 0 ∧ i8 = (tk ts s.i).a ∧ lstW ts s ([wSet, wRaise, wEmit].drop n) n acc = V ∧ Zx F ts w w' b l s [k1, k0] ∧ SliceF rTx 1 w' (fun k => w1.heap.size ≤ k) q [wSet, wRaise, wEmit], 3,
    ⟨0, 0, rfl, by decide, rfl, rfl, rfl, rfl, rfl, rfl, rfl, rfl, rfl, rfl, hV0, t1.q hO2, (flatS hq).mono rTx_ok fun k hk => hk.1⟩, ?_⟩
  rintro nv _ _ _ _ _ _ _ _ _ _ w3 ⟨n, acc, rfl, hn, rfl, rfl, rfl, rfl, rfl, rfl, rfl, rfl, rfl, rfl, hL, t3, hs3⟩
  refine ⟨fun hc => ?_, fun hc => ?_⟩
  · have hc : n < 3 := by have := of_decide_eq_true hc; omega
    obtain ⟨ad', x, c1, c2, c3, c4⟩ := word_at hs3 (n := n) hc
    rw [c4, lstW] at hL
    refine ⟨fun i9 s2 i10 i11 s3 i12 l3 i13 i14 w' => i9 = ((if isS ts s 2 x = true then n + 1 else acc : Nat) : Int) ∧ s2 = T [] ∧ i10 = 0 ∧ i11 = 0 ∧ s3 = T [] ∧ i12 = 0 ∧ l3 = Sl.nil ∧ i13 = 0 ∧ i14 = (tk ts s.i).a ∧ Zx F ts w w' b l s [k1, k0] ∧ SliceF rTx 1 w' (fun k => w1.heap.size ≤ k) q [wSet, wRaise, wEmit], ?_, ad', c1, _, c2, (yis_c t3.r 2 x).mono ?_⟩
    · rintro _ _ _ _ _ _ _ _ _ w4 ⟨rfl, rfl, rfl, rfl, rfl, rfl, rfl, rfl, rfl, t4, hs4⟩
      exact ⟨3 - (n + 1), by omega, n + 1, _, by rw [wr' (by omega) (by omega)]; rfl, by omega, rfl, rfl, rfl, rfl, rfl, rfl, rfl, rfl, rfl, rfl, hL, t4, hs4⟩
    · rintro _ w5 ⟨rfl, hO5⟩
      have hs5 := SliceF.only rTx_ok (by decide) hs3 hO5 (by simp)
      refine ⟨_, rfl, t3.sq hO5 (by simp), fun hb w6 hO6 => ⟨?_, rfl, rfl, rfl, rfl, rfl, rfl, rfl, rfl, (t3.q hO5).f hO6 (by simp), SliceF.only rTx_ok (by decide) hs5 hO6 fun k hk _ hm => (by simp only [List.mem_singleton] at hm; omega)⟩, fun hb => ⟨?_, rfl, rfl, rfl, rfl, rfl, rfl, rfl, rfl, t3.q hO5, hs5⟩⟩
      · rw [if_pos hb, wr' (by omega) (by omega)]; rfl
      · rw [if_neg (by rw [hb]; decide)]
  · have hc : n = 3 := by have := of_decide_eq_false hc; omega
    subst hc
    have hL : acc = V := hL
    subst hL
    refine ⟨fun hz => ?_, fun hz => ?_⟩
    · have hz := nat0 hz
      refine (ywrong_c t3.r).mono ?_
      rintro _ w7 ⟨rfl, h7⟩
      refine ⟨rfl, t3.sc h7 (by simp), fun w8 hO8 => ?_⟩
      unfold actS
      rw [if_pos (by rw [hV, hz]), hz]
      exact ⟨_, rfl, ⟨exv 0 0 [] 0 Sl.nil 0, rfl, rE0 _ _ _⟩, ((t3.nx h7).f hO8 (by simp)).dn⟩
    · have hz := nat1 hz
      have hwn : whichS ts s [wSet, wRaise, wEmit] ≠ 0 := by rw [hV]; exact hz
      have hfc := (which_ne hwn).1
      obtain ⟨n, m, a, d, hB3, hcn⟩ := t3.r.cnt hfc
      unfold actS
      rw [if_neg hwn, hV]
      have ha := hcn.a
      have ha0 := hcn.a0
      refine ⟨_, Blk.at1 hB3 4 rfl, fun h4 => ?_, fun h4 => ?_⟩
      · have h4 : a = 400 := by simpa using h4
        have hsa : s.a = 0 := by omega
        have e2 : (useA ts s).fc = 2 := by unfold useA stopS; rw [if_pos hsa, if_pos hfc]
        have e3 : (useA ts s).fa = (tk ts s.i).a := by unfold useA stopS; rw [if_pos hsa, if_pos hfc]
        have e4 : stopS ts s 2 = { s with fc := 2, fa := (tk ts s.i).a } := by unfold stopS; rw [if_pos hfc]
        rw [if_pos (by rw [e2]; decide)]
        refine (ystop_c t3.r (c := 2) (by decide)).mono ?_
        rintro _ w9 ⟨rfl, h9⟩
        refine ⟨rfl, t3.sc h9 (by simp), fun w10 hO10 => ⟨_, rfl, ⟨exv 0 0 [] 0 Sl.nil 0, rfl, rE0 _ _ _⟩, ?_⟩⟩
        refine (((t3.nx h9).f hO10 (by simp)).dn).same ?_ ?_ ?_ ?_
        · rw [useA_i, stop_i]
        · rw [e2, e4]
        · rw [e3, e4]
        · rw [e4]; dsimp only; decide
      · have h4 : ¬ a = 400 := by simpa using h4
        have hsa : ¬ s.a = 0 := by omega
        have eu : useA ts s = { s with a := s.a - 1 } := by
          unfold useA
          rw [if_neg hsa]
          unfold dec
          rw [wr' (by omega) (by omega)]
        rw [eu, if_neg (by rw [hfc]; decide)]
        refine ⟨_, Blk.at1 hB3 4 rfl, b, 4, _, _, rfl, hB3, by simp, t3.ne (by simp), t3.ne (by simp), fun w11 hO11 hB11 => ?_⟩
        rw [wr' (by omega) (by omega)] at hB11
        have hB11 : Blk w11 b 91 (xrv l (s.i : Int) n m (a + 1) d s.fc s.fa) := hB11
        refine ⟨_, Blk.at1 hB11 1 rfl, b, 1, _, _, rfl, hB11, by simp, t3.ne (by simp), t3.ne (by simp), fun w12 hO12 hB12 => ?_⟩
        rw [h.wr] at hB12
        have t12 : Zx F ts w w12 b l (nextS { s with a := s.a - 1 }) [k1, k0] := ⟨(t3.z.c hO11).c hO12, (t3.r.turn (s' := { s with a := s.a - 1 }) hO11 hB11 (fun _ _ => ⟨hcn.n, hcn.m, by dsimp only; omega, hcn.d, hcn.n0, hcn.m0, by dsimp only; omega, hcn.d0⟩) h.lt).turn (s' := nextS { s with a := s.a - 1 }) hO12 hB12 (fun _ _ => ⟨hcn.n, hcn.m, by dsimp only [nextS]; omega, hcn.d, hcn.n0, hcn.m0, by dsimp only [nextS]; omega, hcn.d0⟩) (h.en.next h.lt (which_ne hwn).2)⟩
        refine (yname_c t12.r).mono ?_
        rintro _ w17 ⟨rfl, h17⟩
        have t17 := t12.nx h17
        refine ⟨_, _, rfl, t12.sc h17 (by simp), fun w18 hO18 => ?_⟩
        have t18 := t17.f hO18 (by simp)
        change Zx F ts w w18 b l (nameS ts (nextS { s with a := s.a - 1 })).2 [k1, k0] at t18
        show ∃ J3, _
        have hnm : (kindS ts (nextS { s with a := s.a - 1 }) 1).1.t = (nameS ts (nextS { s with a := s.a - 1 })).1 := rfl
        rw [hnm]
        generalize (nameS ts (nextS { s with a := s.a - 1 })).2 = u at *
        generalize (nameS ts (nextS { s with a := s.a - 1 })).1 = nm at *
        generalize (tk ts s.i).a = aa at *
        clear hV hV0 hws hwn
        generalize acc = kk at *
        refine ⟨fun i4 s1 i5 i6 s2 i7 l2 i8 i9 w' => ∃ (x : Ex) (u' : Sx), i4 = (kk : Int) ∧ s1 = T nm ∧ i9 = aa ∧ rE true w' (Fr w18.heap.size) x [.int .i64 i5, .int .i64 i6, .string s2, .int .i64 i7, l2.v, .int .i64 i8] ∧ Zx F ts w w' b l u' [k1, k0] ∧ actT ts u kk nm aa = (⟨kk, nm, x, aa⟩, mustS ts u' [59]) ∧ w18.heap.size ≤ w'.heap.size, ?_, fun hk2 => ?_, fun hk2 => ?_⟩
        · rintro i4 s1 i5 i6 s2 i7 l2 i8 i9 w19 ⟨x, u', rfl, rfl, rfl, hx, t19, hT, hsz⟩
          refine (ym4 t19.r (x := [59]) ⟨_, _, rfl, by decide⟩).mono ?_
          rintro _ w21 ⟨rfl, h21⟩
          refine ⟨rfl, t19.sc h21 (by simp), fun w22 hO22 => ?_⟩
          rw [hT]
          have zk := t18.z.k k0 (by simp)
          have zs := t18.z.o.size
          have zb := t18.r.lb
          refine ⟨_, rfl, ⟨[.int .i64 i5, .int .i64 i6, .string s2, .int .i64 i7, l2.v, .int .i64 i8], rfl, ?_⟩, ((t19.nx h21).f hO22 (by simp)).dn⟩
          exact (rE_ok true).low ((rE_ok true).stay hx (((Stay.refl _ _).x h21 zb).f hO22 (.inl zk.2))) zs
        · have hk2 : ¬ kk = 2 := fun e => by rw [e] at hk2; simp at hk2
          refine (ym4 t18.r (x := [61]) ⟨_, _, rfl, by decide⟩).mono ?_
          rintro _ w24 ⟨rfl, h24⟩
          have t24 := t18.nx h24
          refine ⟨rfl, t18.sc h24 (by simp), (yexpr_c t24.r).mono ?_⟩
          rintro _ w25 ⟨cs, rfl, hx, h25⟩
          obtain ⟨sl, rfl⟩ := rE_cells hx
          have t25 := t24.nx h25
          refine ⟨_, _, _, _, sl, _, rfl, t24.sc h25 (by simp), fun w26 hO26 => ?_⟩
          have z24 : w18.heap.size ≤ w24.heap.size := h24.o.size
          have zk := t18.z.k k1 (by simp)
          refine ⟨_, _, rfl, rfl, rfl, (rE_ok true).low ((rE_ok true).stay hx ((Stay.refl _ _).f hO26 (.inl (by omega)))) z24, t25.f hO26 (by simp), ?_, Nat.le_trans z24 (Nat.le_trans h25.o.size hO26.size)⟩
          unfold actT
          rw [if_neg hk2]
        · have hk2 : (kk : Int) = 2 := by simpa using hk2
          have hk2 : kk = 2 := by omega
          refine ⟨ex0, u, rfl, rfl, rfl, rE0 _ _ _, t18, ?_, Nat.le_refl _⟩
          unfold actT
          rw [if_pos hk2]
theorem yblock_c (h : Xs F ts w b l s) : Calls Tryz.prog 73 #[rp b] w fun e w' => ∃ la : Sl, e = .returned la.v ∧ SlG true (rAc true) 9 158 w' (Fr w.heap.size) la (blockS ts s).1 ∧ Dx F ts w w' b l (blockS ts s).2 := by
  refine (pavaneref07_reader_block_wp ⟨b, 0, none⟩ (fun v w' => ∃ la : Sl, v = la.v ∧ SlG true (rAc true) 9 158 w' (Fr w.heap.size) la (blockS ts s).1 ∧ Dx F ts w w' b l (blockS ts s).2) w ?_).mono (by
    rintro e w' ⟨v, rfl, cs, rfl, h⟩; exact ⟨cs, rfl, h⟩)
  unfold pavaneref07_reader_block_vc
  refine (ym4 h (x := [123]) ⟨_, _, rfl, by decide⟩).mono ?_
  rintro _ w0 ⟨rfl, h0⟩
  unfold blockS
  generalize mustS ts s [123] = u0 at *
  generalize hV : actsS ts (ts.length + 1) [] u0 = V
  have hlb := h.lb
  have hz0 := h0.o.size
  refine ⟨rfl, fun l0 w' => SlG true (rAc true) 9 158 w' (Fr w.heap.size) l0 V.1 ∧ Dx F ts w w' b l V.2, fun l0 w1 h1 => ⟨l0, rfl, h1⟩, fun nv l1 w' => ∃ (acc : List Ac) (u : Sx), Own (rAc true) 9 158 w.heap.size w' (Fr w.heap.size) l1 acc ∧ Dx F ts w w' b l u ∧ actsS ts nv acc u = V ∧ mu ts u < nv ∧ acc.length + mu ts u ≤ ts.length, ts.length + 1,
    ⟨[], u0, Own.nil _ _ _ _ _ _, h0, hV, Nat.lt_succ_of_le (mu_le _ _), by rw [List.length_nil, Nat.zero_add]; exact mu_le _ _⟩, ?_⟩
  rintro nv l1 w2 ⟨acc, u, own2, h2, hR, hf1, hm1⟩
  obtain ⟨m, rfl⟩ : ∃ m, nv = m + 1 := ⟨nv - 1, by omega⟩
  rw [actsS] at hR
  have hz2 := h2.o.size
  have fin : ∀ {w' : World} {acc : List Ac} {u : Sx}, Own (rAc true) 9 158 w.heap.size w' (Fr w.heap.size) l1 acc → Dx F ts w w' b l u → (acc, u) = V → SlG true (rAc true) 9 158 w' (Fr w.heap.size) l1 V.1 ∧ Dx F ts w w' b l V.2 := fun a1 a2 e => by
    rw [← e]
    exact ⟨a1.sl (rAc_ok true) fun k hk => hk, a2⟩
  obtain ⟨_, _, _, _, hB2, _⟩ := h2.r.blk
  refine ⟨_, Blk.at1 hB2 6 rfl, fun hc => ?_, fun hc => ?_⟩
  · have hc : u.fc = 0 := by simpa using hc
    rw [if_neg (by simp [hc])] at hR
    refine (yp4 h2.r (x := [125]) ⟨_, _, rfl, by decide⟩).mono ?_
    rintro _ w3 ⟨rfl, h3⟩
    have own3 := own2.stay (rAc_ok true) h3.o fun x hx => .inl (by simp only [List.mem_singleton] at hx; omega)
    refine ⟨_, rfl, fun hw => ?_, fun hw => ?_⟩
    · have hw := of_decide_eq_true hw
      rw [if_pos hw] at hR
      rw [if_neg hw] at h3
      exact fin own3 (h2.nx h3) hR
    · have hw : whichS ts u [[125]] = 0 := by simpa using hw
      rw [if_neg (by simp [hw])] at hR
      rw [if_pos hw] at h3
      have h23 := h2.nx h3
      have hz3 := h23.o.size
      have hmu := act_mu h2.r.en hc h2.r.lt
      have hml := mu_le ts u
      have hsm := h2.r.sm
      refine (yact_c h23.r).mono ?_
      rintro _ w4 ⟨cs, rfl, hx, h4⟩
      generalize (actS ts u).1 = ac at *
      generalize (actS ts u).2 = u' at *
      have hx' := hx
      obtain ⟨xc, rfl, hxe⟩ := hx'
      obtain ⟨sl, rfl⟩ := rE_cells hxe
      have own4 := own3.stay (rAc_ok true) h4.o fun x hx => .inl (by simp only [List.mem_singleton] at hx; omega)
      refine ⟨_, _, _, _, _, _, sl, _, _, rfl, fun k2 w5 hk2 hk2' hO5 => ?_⟩
      have hz4 := h4.o.size
      have own5 := own4.stay (rAc_ok true) hO5 fun x hx => (by cases hx)
      have hz5 := hO5.size
      obtain ⟨y, w6, e2, hO6, la', w7, e3, hown, ⟨gs, hO7, hgs⟩, _⟩ := app_one (P := Tryz.prog) (t := 41) (ty := 41) (e := 158) (i := Tryz.t158) (bytes := 104) (size := 9) (v := .agg (acv ac.k ac.n (exv ac.x.k ac.x.n ac.x.s ac.x.op sl ac.x.a) ac.a).toArray) (x := ac) (G := fun k => w3.heap.size ≤ k ∧ k < w4.heap.size) (by kernel_rfl) (by kernel_rfl) rfl rfl rfl rfl (by decide) (by decide) (by decide) (rAc_ok true) own5 (by omega) rfl ((rAc_ok true).keep ((rAc_ok true).mono ((rAc_ok true).inHeap hx) fun k hk => ⟨hk.1, hk.2⟩) fun k hk hlt => hO5.block k hlt (by simp)) (fun k hk _ => ⟨by show w.heap.size ≤ k; omega, own3.new hk.1⟩) (by omega)
      have hgs' : ∀ g, g ∈ gs → w.heap.size ≤ g := fun g hg => (hgs g hg).2.1
      have hz6 := hO6.size
      have h5 : Dx F ts w w5 b l u' := (h23.nx h4).q hO5
      have hgk : ∀ g, g ∈ gs → g ≠ k2 := fun g hg e => by
        subst e
        exact own4.new hk2 (hgs g hg).1
      refine ⟨y, w6, e2, hO6.same (fun x hx => ⟨by simp only [List.mem_singleton] at hx; omega, by simp⟩), la', w7, e3, hO7.same (fun x hx => ⟨by simp only [List.mem_singleton] at hx; omega, fun hm => ?_⟩), m, Nat.lt_succ_self _, acc ++ [ac], u', ?_, ?_, hR, by omega, by rw [List.length_append, List.length_singleton]; omega⟩
      · simp only [List.mem_singleton] at hx
        subst hx
        exact hgk _ hm rfl
      · refine hown.mono (rAc_ok true) fun k hk => ?_
        rcases hk with hk | hk
        · exact hk
        · show w.heap.size ≤ k; omega
      · exact ⟨((h5.o.tr0 hO6).trans hO7 fun x hx => .inr (hgs' x hx)), (h5.r.only hO6).own hO7 fun x hx => (by have := hgs' x hx; omega)⟩
  · have hc : u.fc ≠ 0 := by simpa using hc
    rw [if_pos hc] at hR
    exact fin own2 h2 hR
end
end Go.Proofs.YtmanockofcopjaaGreatDoor.Con

namespace Go.Proofs.YtmanockofcopjaaGreatDoor.Con
open Go Go.RowKit Go.Kt Go.Kt.V Go.Proofs.YtmanockofcopjaaGreatDoor.Vc
set_option linter.unusedSimpArgs false
set_option linter.unusedVariables false
set_option maxHeartbeats 4000000

section
variable {F : Nat → Prop} {ts : List Tk} {w w' : World} {b : Nat} {l : Sl} {s s' : Sx}
theorem ymove_c (h : Xs F ts w b l s) (k : Int) (h0 : s.fc = 0) (hk : (tk ts s.i).k ≠ 5) : Calls Tryz.prog 75 #[rp b, .int .i64 k] w fun e w' => ∃ cs, e = .returned (.agg cs.toArray) ∧ rMv true w' (Fr w.heap.size) (moveS ts k s).1 cs ∧ Dx F ts w w' b l (moveS ts k s).2 := by
  refine (pavaneref07_reader_move_wp ⟨b, 0, none⟩ k (fun v w' => ∃ cs, v = (.agg cs.toArray) ∧ rMv true w' (Fr w.heap.size) (moveS ts k s).1 cs ∧ Dx F ts w w' b l (moveS ts k s).2) w ?_).mono (by
    rintro e w' ⟨v, rfl, cs, rfl, h⟩; exact ⟨cs, rfl, h⟩)
  unfold pavaneref07_reader_move_vc
  intro k0 w0 hk0 hk0' hO0
  have t0 := h.zt.al hO0 hk0 hk0'
  obtain ⟨ad, g1, g2⟩ := t0.r.now
  obtain ⟨n, m, a, d, hB0, hcn⟩ := t0.r.cnt h0
  refine ⟨fun _ => True, trivial, l, Blk.at1 hB0 0 rfl, trivial, _, Blk.at1 hB0 1 rfl, ad, g1, trivial, _, g2.at1 3 _ rfl, fun k1 w1 hk1 hk1' hO1 => ?_⟩
  have t1 := t0.al hO1 hk1 hk1'
  have hB1 := hO1.blk hB0 (by simp)
  have hm := hcn.m
  have hm0 := hcn.m0
  unfold moveS
  refine ⟨_, Blk.at1 hB1 3 rfl, fun h4 => ?_, fun h4 => ?_⟩
  · have h4 : m = 200 := by simpa using h4
    have hsa : s.m = 0 := by omega
    have e2 : (useM ts s).fc = 2 := by unfold useM stopS; rw [if_pos hsa, if_pos h0]
    have e3 : (useM ts s).fa = (tk ts s.i).a := by unfold useM stopS; rw [if_pos hsa, if_pos h0]
    have e4 : stopS ts s 2 = { s with fc := 2, fa := (tk ts s.i).a } := by unfold stopS; rw [if_pos h0]
    rw [if_pos (by rw [e2]; decide)]
    refine (ystop_c t1.r (c := 2) (by decide)).mono ?_
    rintro _ w9 ⟨rfl, h9⟩
    refine ⟨rfl, t1.sc h9 (by simp), fun w10 hO10 => ⟨_, rfl, ⟨exv 0 0 [] 0 Sl.nil 0, Sl.nil, Sl.nil, rfl, rE0 _ _ _, SlG.nil _ _ _ _ _ _, SlG.nil _ _ _ _ _ _⟩, ?_⟩⟩
    refine (((t1.nx h9).f hO10 (by simp)).dn).same ?_ ?_ ?_ ?_
    · rw [useM_i, stop_i]
    · rw [e2, e4]
    · rw [e3, e4]
    · rw [e4]; dsimp only; decide
  have h4 : ¬ m = 200 := by simpa using h4
  have hsa : ¬ s.m = 0 := by omega
  have eu : useM ts s = { s with m := s.m - 1 } := by
    unfold useM
    rw [if_neg hsa]
    unfold dec
    rw [wr' (by omega) (by omega)]
  rw [eu, if_neg (by rw [h0]; decide)]
  refine ⟨_, Blk.at1 hB1 3 rfl, b, 3, _, _, rfl, hB1, by simp, t1.ne (by simp), t1.ne (by simp), fun w4 hO4 hB4 => ?_⟩
  rw [wr' (by omega) (by omega)] at hB4
  have hB4 : Blk w4 b 91 (xrv l (s.i : Int) n (m + 1) a d s.fc s.fa) := hB4
  refine ⟨_, Blk.at1 hB4 1 rfl, b, 1, _, _, rfl, hB4, by simp, t1.ne (by simp), t1.ne (by simp), fun w5 hO5 hB5 => ?_⟩
  rw [h.wr] at hB5
  have t5 : Zx F ts w w5 b l (nextS { s with m := s.m - 1 }) [k1, k0] := ⟨(t1.z.c hO4).c hO5, (t1.r.turn (s' := { s with m := s.m - 1 }) hO4 hB4 (fun _ _ => ⟨hcn.n, by dsimp only; omega, hcn.a, hcn.d, hcn.n0, by dsimp only; omega, hcn.a0, hcn.d0⟩) h.lt).turn (s' := nextS { s with m := s.m - 1 }) hO5 hB5 (fun _ _ => ⟨hcn.n, by dsimp only [nextS]; omega, hcn.a, hcn.d, hcn.n0, by dsimp only [nextS]; omega, hcn.a0, hcn.d0⟩) (h.en.next h.lt hk)⟩
  have hA := t5.z.o.size
  have hA0 := (t5.z.k k0 (by simp)).2
  have hA1 := (t5.z.k k1 (by simp)).2
  have hAb := t5.r.lb
  generalize hAA : w5.heap.size = A at *
  generalize (tk ts s.i).a = aa at *
  generalize nextS { s with m := s.m - 1 } = u0 at *
  generalize hR : (if k = 1 then moveA ts { mv0 k aa with ev := (nameS ts u0).1 } (nameS ts u0).2 else if k = 3 then moveA ts { mv0 k aa with wt := (kindS ts u0 3).1.n } (kindS ts u0 3).2 else moveA ts (mv0 k aa) u0) = R
  have x0 : ∀ {w' : World} {ev : List UInt8}, MvX A w' { mv0 k aa with ev := ev } k (T ev) 0 false (exv 0 0 [] 0 Sl.nil 0) Sl.nil aa := ⟨rfl, rfl, rfl, rfl, rfl, rE0 _ _ _, SlG.nil _ _ _ _ _ _⟩
  refine ⟨fun i3 s0 i4 b1 i5 i6 s1 i7 l1 i8 l2 l3 i9 w' => ∃ (m : Mv) (u : Sx), MvX A w' m i3 s0 i4 b1 [.int .i64 i5, .int .i64 i6, .string s1, .int .i64 i7, l1.v, .int .i64 i8] l2 i9 ∧ m.gd = false ∧ m.tg = [] ∧ l3 = Sl.nil ∧ Zx F ts w w' b l u [k1, k0] ∧ (if k = 3 then moveA ts { m with wt := (kindS ts u 3).1.n } (kindS ts u 3).2 else moveA ts m u) = R ∧ A ≤ w'.heap.size, ?_, fun hc => ?_, fun hc => ?_⟩
  rotate_left
  · have hc : k = 1 := by simpa using hc
    refine (yname_c t5.r).mono ?_
    rintro _ w32 ⟨rfl, h32⟩
    have t32 := t5.nx h32
    refine ⟨_, _, rfl, t5.sc h32 (by simp), fun w33 hO33 => ?_⟩
    rw [if_pos hc] at hR
    refine ⟨_, _, x0, rfl, rfl, rfl, t32.f hO33 (by simp), ?_, by rw [← hAA]; exact Nat.le_trans h32.o.size hO33.size⟩
    rw [if_neg (by omega)]
    exact hR
  · have hc : ¬ k = 1 := by simpa using hc
    rw [if_neg hc] at hR
    refine ⟨_, _, x0, rfl, rfl, rfl, t5, hR, Nat.le_of_eq hAA.symm⟩
  clear hR x0 hB5 hB4 hB1 hB0
  rintro i3 s0 i4 b1 i5 i6 s1 i7 l1 i8 l2 l3 i9 w6 ⟨m, u, hx, hgd, htg, rfl, t6, hR, z6⟩
  refine ⟨fun i3 s0 i4 b1 i5 i6 s1 i7 l1 i8 l2 l3 i9 w' => ∃ (m : Mv) (u : Sx), MvX A w' m i3 s0 i4 b1 [.int .i64 i5, .int .i64 i6, .string s1, .int .i64 i7, l1.v, .int .i64 i8] l2 i9 ∧ m.gd = false ∧ m.tg = [] ∧ l3 = Sl.nil ∧ Zx F ts w w' b l u [k1, k0] ∧ moveA ts m u = R ∧ A ≤ w'.heap.size, ?_, fun hc => ?_, fun hc => ?_⟩
  rotate_left
  · have hc : k = 3 := by simpa using hc
    rw [if_pos hc] at hR
    refine (yint_c t6.r).mono ?_
    rintro _ w27 ⟨rfl, h27⟩
    have t27 := t6.nx h27
    refine ⟨_, rfl, t6.sc h27 (by simp), fun w28 hO28 => ?_⟩
    have s28 := ((Stay.refl A w6).x h27 hAb).f hO28 (.inl hA1)
    have hx28 := hx.stay s28
    exact ⟨{ m with wt := (kindS ts u 3).1.n }, _, ⟨hx28.e1, hx28.e2, rfl, hx28.e4, hx28.e5, hx28.g, hx28.x⟩, hgd, htg, rfl, t27.f hO28 (by simp), hR, Nat.le_trans z6 s28.sz⟩
  · have hc : ¬ k = 3 := by simpa using hc
    rw [if_neg hc] at hR
    exact ⟨m, u, hx, hgd, htg, rfl, t6, hR, z6⟩
  clear hx hgd htg t6 hR z6
  rintro i3 s0 i4 b1 i5 i6 s1 i7 l1 i8 l2 l3 i9 w7 ⟨m, u, hx, hgd, htg, rfl, t7, hR, z7⟩
  unfold moveA at hR
  refine (yp4 t7.r (x := [91]) ⟨_, _, rfl, by decide⟩).mono ?_
  rintro _ w8 ⟨rfl, h8⟩
  have t8 := t7.nx h8
  refine ⟨_, rfl, t7.sc h8 (by simp), fun w9 hO9 => ?_⟩
  have t9 := t8.f hO9 (by simp)
  have s9 := ((Stay.refl A w7).x h8 hAb).f hO9 (.inl hA1)
  refine ⟨fun i3 s0 i4 b1 i5 i6 s1 i7 l1 i8 l2 l3 i9 w' => ∃ (m : Mv) (u : Sx), MvX A w' m i3 s0 i4 b1 [.int .i64 i5, .int .i64 i6, .string s1, .int .i64 i7, l1.v, .int .i64 i8] l2 i9 ∧ m.tg = [] ∧ l3 = Sl.nil ∧ Zx F ts w w' b l u [k1, k0] ∧ moveB ts m u = R ∧ A ≤ w'.heap.size, ?_, fun hc => ?_, fun hc => ?_⟩
  rotate_left
  · have hc' := of_decide_eq_true hc
    rw [if_neg hc'] at hR t9
    have z9 := s9.sz
    refine (yexpr_c t9.r).mono ?_
    rintro _ w24 ⟨cs, rfl, hg, h24⟩
    obtain ⟨sl, rfl⟩ := rE_cells hg
    have t24 := t9.nx h24
    refine ⟨_, _, _, _, sl, _, rfl, t9.sc h24 (by simp), fun w25 hO25 => ?_⟩
    have t25 := t24.f hO25 (by simp)
    refine (ym4 t25.r (x := [93]) ⟨_, _, rfl, by decide⟩).mono ?_
    rintro _ w26 ⟨rfl, h26⟩
    have t26 := t25.nx h26
    have s26 := ((s9.x h24 hAb).f hO25 (.inl hA1)).x h26 hAb
    refine ⟨rfl, t25.sc h26 (by simp), { m with gd := true, g := (exprS ts (nextS u)).1 }, _, ⟨hx.e1, hx.e2, hx.e3, hc, hx.e5, ?_, hx.x.stay (rAc_ok true) (by decide) s26⟩, htg, rfl, t26, hR, Nat.le_trans z7 s26.sz⟩
    exact (rE_ok true).low ((rE_ok true).stay hg (((Stay.refl _ _).f hO25 (.inl (by omega))).x h26 (by omega))) (by omega)
  · have hc' : whichS ts u [[91]] = 0 := by simpa using hc
    rw [if_pos hc'] at hR t9
    have hx9 := hx.stay s9
    exact ⟨m, u, ⟨hx9.e1, hx9.e2, hx9.e3, by rw [hc, hgd], hx9.e5, hx9.g, hx9.x⟩, htg, rfl, t9, hR, Nat.le_trans z7 s9.sz⟩
  clear hx hgd htg t7 hR z7 t8 t9 s9
  rintro i3 s0 i4 b1 i5 i6 s1 i7 l1 i8 l2 l3 i9 w10 ⟨m, u, hx, htg, rfl, t10, hR, z10⟩
  unfold moveB at hR
  refine (yi4 t10.r (x := [123]) ⟨_, _, rfl, by decide⟩).mono ?_
  rintro _ w11 ⟨rfl, hO11⟩
  have t11 := t10.q hO11
  have s11 : Stay A w10 w11 := (Stay.refl A w10).q hO11
  have z11 := s11.sz
  refine ⟨_, rfl, t10.sq hO11 (by simp), fun i3 s0 i4 b1 i5 i6 s1 i7 l1 i8 l2 l3 i9 w' => ∃ (m : Mv) (u : Sx), MvX A w' m i3 s0 i4 b1 [.int .i64 i5, .int .i64 i6, .string s1, .int .i64 i7, l1.v, .int .i64 i8] l2 i9 ∧ l3 = Sl.nil ∧ Zx F ts w w' b l u [k1, k0] ∧ moveC ts m u = R ∧ A ≤ w'.heap.size, ?_, fun hc => ?_, fun hc => ?_⟩
  rotate_left
  · rw [if_neg (of_decide_eq_true hc)] at hR
    refine (yblock_c t11.r).mono ?_
    rintro _ w22 ⟨la, rfl, hla, h22⟩
    have t22 := t11.nx h22
    refine ⟨la, rfl, t11.sc h22 (by simp), fun w23 hO23 => ?_⟩
    have s23 := (s11.x h22 hAb).f hO23 (.inl hA1)
    refine ⟨{ m with acts := (blockS ts u).1 }, _, ⟨hx.e1, hx.e2, hx.e3, hx.e4, hx.e5, (rE_ok true).stay hx.g s23, ?_⟩, rfl, t22.f hO23 (by simp), hR, Nat.le_trans z10 s23.sz⟩
    exact (hla.stay (rAc_ok true) (by decide) ((Stay.refl _ _).f hO23 (.inl (by omega)))).low (rAc_ok true) (by omega)
  · have hc' : whichS ts u [[123]] = 0 := by simpa using hc
    rw [if_pos hc'] at hR
    exact ⟨m, u, hx.stay s11, rfl, t11, hR, Nat.le_trans z10 z11⟩
  clear hx htg t10 hR z10 t11 s11 z11
  rintro i17 s4 i18 b3 i19 i20 s5 i21 l7 i22 l8 l9 i23 w12 ⟨m, u, hx, rfl, t12, hR, z12⟩
  unfold moveC at hR
  refine (yp4 t12.r (x := [45, 62]) ⟨_, _, rfl, by decide⟩).mono ?_
  rintro _ w13 ⟨rfl, h13⟩
  have t13 := t12.nx h13
  have hui := t12.r.lt
  have s13 := (Stay.refl A w12).x h13 hAb
  have zb12 : b < w13.heap.size := t13.r.lb
  have z13 := s13.sz
  refine ⟨_, rfl, t12.sc h13 (by simp), fun nv bo i24 s7 i25 b4 i26 i27 s8 i28 l10 i29 l11 l12 i30 w' => ∃ (x : List UInt8) (acc : List (List UInt8)) (u' : Sx), bo = decide (whichS ts u' [x] ≠ 0) ∧ MvX A w12 m i24 s7 i25 b4 [.int .i64 i26, .int .i64 i27, .string s8, .int .i64 i28, l10.v, .int .i64 i29] l11 i30 ∧ Stay A w12 w' ∧ Own rTx 1 9 w13.heap.size w' (Fr w13.heap.size) l12 acc ∧ Zx F ts w w' b l (if whichS ts u' [x] = 0 then u' else nextS u') [k1, k0] ∧ targS ts nv x acc u' = targS ts (ts.length + 1) [45, 62] [] u ∧ mu ts u' < nv ∧ acc.length + mu ts u' ≤ ts.length ∧ u'.i < ts.length ∧ w13.heap.size ≤ w'.heap.size, ts.length + 1, ⟨[45, 62], [], u, rfl, hx, s13, Own.nil _ _ _ _ _ _, t13, rfl, Nat.lt_succ_of_le (mu_le _ _), by rw [List.length_nil, Nat.zero_add]; exact mu_le _ _, hui, Nat.le_refl _⟩, ?_⟩
  clear hx
  rintro nv bo i24 s7 i25 b4 i26 i27 s8 i28 l10 i29 l11 l12 i30 w14 ⟨x, acc, u', rfl, hx, hS, hown, t14, hT, hf1, hm1, hui', zw⟩
  obtain ⟨m', rfl⟩ : ∃ m', nv = m' + 1 := ⟨nv - 1, by omega⟩
  rw [targS] at hT
  refine ⟨fun hc => ?_, fun hc => ?_⟩
  · have hc := of_decide_eq_true hc
    rw [if_neg hc] at hT t14
    refine (yname_c t14.r).mono ?_
    rintro _ w15 ⟨rfl, h15⟩
    have t15 := t14.nx h15
    have hsm := h.sm
    have hml := mu_le ts u'
    have hmu := next_mu h.en (which_ne hc).1 hui' (which_ne hc).2 (name_on h.en (s := nextS u')).toOn0
    have z15 := h15.o.size
    obtain ⟨y, w16, e2, hO16, la', w17, e3, hown', ⟨gs, hO17, hgs⟩, _⟩ := app_one (P := Tryz.prog) (t := 25) (ty := 25) (e := 9) (i := Tryz.t9) (bytes := 16) (size := 1) (v := .string (T (kindS ts (nextS u') 1).1.t)) (x := (kindS ts (nextS u') 1).1.t) (G := fun _ => False) (by kernel_rfl) (by kernel_rfl) rfl rfl rfl rfl (by decide) (by decide) (by decide) rTx_ok (hown.stay rTx_ok h15.o fun x hx => .inl (by simp only [List.mem_singleton] at hx; omega)) (Nat.le_trans zw z15) rfl rfl (fun k hk _ => hk.elim) (by omega)
    have hgs' : ∀ g, g ∈ gs → w13.heap.size ≤ g := fun g hg => (hgs g hg).2.1
    have z13w := t13.z.o.size
    have t16 := t15.q hO16
    have t17 := t16.row hO17 fun x hx => Nat.le_trans z13w (hgs' x hx)
    refine ⟨_, _, rfl, t14.sc h15 (by simp), y, w16, e2, t15.sq hO16 (by simp), la', w17, e3, t16.sr hO17 (by simp) (fun x hx y hy => ?_), fun w18 hO18 => ?_⟩
    · have := hgs' x hx
      simp only [List.mem_cons, List.not_mem_nil, or_false] at hy
      omega
    · have t18 := t17.f hO18 (by simp)
      have s18 := (((hS.x h15 hAb).q hO16).go hO17 fun x hx => .inr (by have := hgs' x hx; omega)).f hO18 (.inl hA1)
      have z16 := hO16.size
      have z17 := hO17.size
      have z18 := hO18.size
      have own18 : Own rTx 1 9 w13.heap.size w18 (Fr w13.heap.size) la' (acc ++ [(kindS ts (nextS u') 1).1.t]) := ((hown'.mono rTx_ok fun k hk => (by
        rcases hk with hk | hk
        · exact hk
        · show w13.heap.size ≤ k; omega)).stay rTx_ok hO18 fun x hx => .inl (by simp only [List.mem_singleton] at hx; omega))
      have hu2 := t18.r.lt
      refine (yp4 t18.r (x := [44]) ⟨_, _, rfl, by decide⟩).mono ?_
      rintro _ w19 ⟨rfl, h19⟩
      exact ⟨_, rfl, t18.sc h19 (by simp), m', by omega, [44], _, _, rfl, hx, s18.x h19 hAb, own18.stay rTx_ok h19.o fun x hx => .inl (by simp only [List.mem_singleton] at hx; omega), t18.nx h19, hT, by unfold nameS at hmu; dsimp only at hmu; omega, by rw [List.length_append, List.length_singleton]; unfold nameS at hmu; dsimp only at hmu; omega, hu2, Nat.le_trans (by omega) h19.o.size⟩
  · have hc : whichS ts u' [x] = 0 := by simpa using hc
    rw [if_pos hc] at hT t14
    refine (ym4 t14.r (x := [59]) ⟨_, _, rfl, by decide⟩).mono ?_
    rintro _ w20 ⟨rfl, h20⟩
    have t20 := t14.nx h20
    refine ⟨rfl, t14.sc h20 (by simp), fun w21 hO21 => ?_⟩
    rw [← hT] at hR
    rw [← hR]
    have s21 : Stay A w12 w21 := (hS.x h20 hAb).f hO21 (.inl hA0)
    refine ⟨mvv m.k m.ev m.wt m.gd [.int .i64 i26, .int .i64 i27, .string s8, .int .i64 i28, l10.v, .int .i64 i29] l11 l12 m.a, by rw [hx.e1, hx.e2, hx.e3, hx.e4, hx.e5]; rfl, ⟨_, _, _, rfl, (rE_ok true).low ((rE_ok true).stay hx.g s21) hA, (hx.x.stay (rAc_ok true) (by decide) s21).low (rAc_ok true) hA, ?_⟩, (t20.f hO21 (by simp)).dn⟩
    exact ((hown.sl rTx_ok fun k hk => hk).stay rTx_ok (by decide) (((Stay.refl _ _).x h20 zb12).f hO21 (.inl (by omega)))).low rTx_ok (by omega)
end
end Go.Proofs.YtmanockofcopjaaGreatDoor.Con

namespace Go.Proofs.YtmanockofcopjaaGreatDoor.Con
open Go Go.RowKit Go.Kt Go.Kt.V Go.Proofs.YtmanockofcopjaaGreatDoor.Vc
set_option linter.unusedSimpArgs false
set_option linter.unusedVariables false
set_option maxHeartbeats 4000000

section
variable {F : Nat → Prop} {ts : List Tk} {w w' w2 : World} {b : Nat} {l : Sl} {s s' : Sx}
theorem XsP.weak {P : Prop} (h : XsP P F ts w b l s) : XsP False F ts w b l s := by
  obtain ⟨n, m, a, d, hB, _⟩ := h.blk
  exact ⟨⟨n, m, a, d, hB, fun _ hP => hP.elim⟩, h.tok, h.hF, h.en, h.lt, h.sm, h.hg⟩
theorem stop_no {c : Int} (h : s.fc ≠ 0) : stopS ts s c = s := by unfold stopS; rw [if_neg h]
theorem stop_d (c : Int) : (stopS ts s c).d = s.d := by unfold stopS; split <;> rfl
/-- the two checks of a name -/
def chk1 (ts : List Tk) (s : Sx) : Sx := if (tk ts s.i).k = 1 ∧ s.n = 0 then stopS ts s 2 else s
def chk2 (ts : List Tk) (s : Sx) : Sx := if (tk ts s.i).k = 1 ∧ s.d = 0 then stopS ts (chk1 ts s) 21 else chk1 ts s
theorem chk1_i : (chk1 ts s).i = s.i := by
  unfold chk1
  split
  · exact stop_i 2
  · rfl
theorem room_chk (h : (tk ts s.i).k = 1) : roomS ts s = { chk2 ts s with n := dec s.n } := by
  unfold roomS chk2 chk1 useN
  rw [if_pos h]
  by_cases h1 : s.n = 0
  · rw [if_pos h1]
    by_cases h2 : s.d = 0
    · rw [if_pos (by dsimp only; rw [stop_d]; exact h2), if_pos ⟨h, h2⟩, if_pos ⟨h, h1⟩]
      by_cases h3 : s.fc = 0
      · unfold stopS
        simp only [h3, if_true]
        rfl
      · rw [stop_no h3, stop_no h3, stop_no (by exact h3)]
    · rw [if_neg (by dsimp only; rw [stop_d]; exact h2), if_neg fun hh => h2 hh.2, if_pos ⟨h, h1⟩]
  · rw [if_neg h1]
    by_cases h2 : s.d = 0
    · rw [if_pos (by exact h2), if_pos ⟨h, h2⟩, if_neg fun hh => h1 hh.2]
      unfold stopS
      by_cases h3 : s.fc = 0
      · simp only [h3, if_true]
      · rw [if_neg h3, if_neg h3]
    · rw [if_neg (by exact h2), if_neg fun hh => h2 hh.2, if_neg fun hh => h1 hh.2]
theorem chk2_fc (h : (chk2 ts s).fc = 0) (hk : (tk ts s.i).k = 1) : s.fc = 0 ∧ s.n ≠ 0 ∧ s.d ≠ 0 ∧ chk2 ts s = s := by
  unfold chk2 at h ⊢
  by_cases h2 : s.d = 0
  · rw [if_pos ⟨hk, h2⟩] at h
    exact absurd h (stop_fc (by decide))
  · rw [if_neg fun hh => h2 hh.2] at h ⊢
    unfold chk1 at h ⊢
    by_cases h1 : s.n = 0
    · rw [if_pos ⟨hk, h1⟩] at h
      exact absurd h (stop_fc (by decide))
    · rw [if_neg fun hh => h1 hh.2] at h ⊢
      exact ⟨h, h1, h2, rfl⟩
theorem ynamed_c (h : Xs F ts w b l s) (k : Int) : Calls Tryz.prog 37 #[rp b, .agg (ndv k [] [] [] Sl.nil Sl.nil Sl.nil Sl.nil 0).toArray] w fun e w' => e = .returned (.agg (ndv k (namedS ts k s).1.nm [] [] Sl.nil Sl.nil Sl.nil Sl.nil (namedS ts k s).1.a).toArray) ∧ Dx F ts w w' b l (namedS ts k s).2 := by
  refine ret (pavaneref07_reader_named_wp ⟨b, 0, none⟩ k (T []) (T []) (T []) Sl.nil Sl.nil Sl.nil Sl.nil 0 (fun v w' => v = (.agg (ndv k (namedS ts k s).1.nm [] [] Sl.nil Sl.nil Sl.nil Sl.nil (namedS ts k s).1.a).toArray) ∧ Dx F ts w w' b l (namedS ts k s).2) w ?_)
  unfold pavaneref07_reader_named_vc
  intro k0 k1 w0 hk0 hk0' hk1 hk1' hO0
  have t0 := ((h.zt.q hO0).ad hk0 hk0').ad hk1 hk1'
  obtain ⟨ad, g1, g2⟩ := t0.r.now
  obtain ⟨n, m, a, d, hB0, hcn⟩ := t0.r.blk
  have hcut : ∀ {u u' : World}, Only [k1, k0] u u' → ∀ x, x ∈ [k1, k0] → x ∈ [b] ∨ x ∈ [k1, k0] := fun _ x hx => .inr hx
  refine ⟨fun w' => Zx F ts w w' b l (chk1 ts s) [k1, k0], fun w1 t1 => ?_, l, Blk.at1 hB0 0 rfl, _, Blk.at1 hB0 1 rfl, ad, g1, _, g2.at1 0 _ rfl, n, fun _ => Blk.at1 hB0 2 rfl, fun hc w9 hO9 => ?_, fun hc w11 hO11 => ?_⟩
  · obtain ⟨ad1, q1, q2⟩ := t1.r.now
    obtain ⟨n1, m1, a1, d1, hB1, hcn1⟩ := t1.r.blk
    have e1 : (tk ts (chk1 ts s).i) = tk ts s.i := by rw [chk1_i]
    have hd1 : (chk1 ts s).d = s.d := by unfold chk1; split; exact stop_d 2; rfl
    refine ⟨fun w' => Zx F ts w w' b l (chk2 ts s) [k1, k0], fun w2 t2 => ?_, l, Blk.at1 hB1 0 rfl, _, Blk.at1 hB1 1 rfl, ad1, q1, _, q2.at1 0 _ rfl, d1, fun _ => Blk.at1 hB1 5 rfl, fun hc w6 hO6 => ?_, fun hc w8 hO8 => ?_⟩
    · obtain ⟨n2, m2, a2, d2, hB2, hcn2⟩ := t2.r.blk
      have hi2 : (chk2 ts s).i = s.i := by
        unfold chk2
        split
        · rw [stop_i, chk1_i]
        · exact chk1_i
      refine ⟨_, Blk.at1 hB2 2 rfl, b, 2, _, _, rfl, hB2, by simp, t2.ne (by simp), t2.ne (by simp), fun w3 hO3 hB3 => ?_⟩
      by_cases hk : (tk ts s.i).k = 1
      · have er := room_chk hk
        have t3 : Zx F ts w w3 b l (roomS ts s) [k1, k0] := ⟨t2.z.c hO3, t2.r.turn (s' := roomS ts s) hO3 (by rw [er]; exact hB3) (fun e hP => by
          rw [er] at e ⊢
          obtain ⟨f1, f2, f3, f4⟩ := chk2_fc e hk
          have hc := hcn2 e hP
          rw [f4] at hc ⊢
          have c1 := hc.n
          have c2 := hc.n0
          have ed : dec s.n = s.n - 1 := by unfold dec; rw [wr' (by omega) (by omega)]
          rw [ed, wr' (by omega) (by omega)]
          exact ⟨by dsimp only; omega, hc.m, hc.a, hc.d, by dsimp only; omega, hc.m0, hc.a0, hc.d0⟩) (by rw [er]; exact t2.r.lt)⟩
        refine (yname_c t3.r).mono ?_
        rintro _ w4 ⟨rfl, h4⟩
        have t4 := t3.nx h4
        refine ⟨_, _, rfl, t3.sc h4 (by simp), fun w5 hO5 => ⟨rfl, ?_⟩⟩
        exact ⟨(t4.z.go hO5 (hcut hO5)).o, t4.r.own hO5 fun x hx => t4.lt hx⟩
      · have es : chk2 ts s = s := by unfold chk2 chk1; rw [if_neg fun hh => hk hh.1, if_neg fun hh => hk hh.1]
        rw [es] at hB3 t2
        have t3 : ZxP False F ts w w3 b l s [k1, k0] := ⟨t2.z.c hO3, t2.r.weak.turn (s' := s) hO3 hB3 (fun _ hP => hP.elim) t2.r.lt⟩
        refine (yname_c t3.r).mono ?_
        rintro _ w4 ⟨rfl, h4⟩
        have t4 := t3.nx h4
        refine ⟨_, _, rfl, t3.sc h4 (by simp), fun w5 hO5 => ?_⟩
        have er : roomS ts s = s := by unfold roomS; rw [if_neg hk]
        unfold namedS
        rw [er]
        have hne : (kindS ts s 1).2.fc ≠ 0 := by unfold kindS; rw [if_pos (.inr hk)]; exact wrong_fc
        exact ⟨rfl, (t4.z.go hO5 (hcut hO5)).o, (t4.r.own hO5 fun x hx => t4.lt hx).same rfl rfl rfl hne⟩
    · simp only [e1, Bool.and_eq_true, beq_iff_eq] at hc
      refine (ystop_c (t1.q hO6).r (c := 21) (by decide)).mono ?_
      rintro _ w7 ⟨rfl, h7⟩
      refine ⟨rfl, (t1.q hO6).sc h7 (by simp), ?_⟩
      have t7 := (t1.q hO6).nx h7
      have e : chk2 ts s = stopS ts (chk1 ts s) 21 := by
        unfold chk2
        by_cases h3 : (chk1 ts s).fc = 0
        · have hcc := hcn1 h3 trivial
          have := hcc.d
          rw [if_pos ⟨hc.1, by omega⟩]
        · rw [stop_no h3]
          split <;> rfl
      rw [e]
      exact t7
    · have e : chk2 ts s = chk1 ts s := by
        unfold chk2
        by_cases h3 : (chk1 ts s).fc = 0
        · have hcc := hcn1 h3 trivial
          have := hcc.d
          rw [if_neg]
          rintro ⟨f1, f2⟩
          rw [e1, f1] at hc
          have : d1 = 12 := by omega
          rw [this] at hc
          simp at hc
        · rw [stop_no h3]
          split <;> rfl
      rw [e]
      exact t1.q hO8
  · simp only [Bool.and_eq_true, beq_iff_eq] at hc
    refine (ystop_c (t0.q hO9).r (c := 2) (by decide)).mono ?_
    rintro _ w10 ⟨rfl, h10⟩
    refine ⟨rfl, (t0.q hO9).sc h10 (by simp), ?_⟩
    have e : chk1 ts s = stopS ts s 2 := by
      unfold chk1
      by_cases h3 : s.fc = 0
      · have hcc := hcn h3 trivial
        have := hcc.n
        rw [if_pos ⟨hc.1, by omega⟩]
      · rw [stop_no h3]
        split <;> rfl
    rw [e]
    exact (t0.q hO9).nx h10
  · have e : chk1 ts s = s := by
      unfold chk1
      by_cases h3 : s.fc = 0
      · have hcc := hcn h3 trivial
        have := hcc.n
        rw [if_neg]
        rintro ⟨f1, f2⟩
        rw [f1] at hc
        have : n = 64 := by omega
        rw [this] at hc
        simp at hc
      · rw [stop_no h3]
        split <;> rfl
    rw [e]
    exact t0.q hO11

end
end Go.Proofs.YtmanockofcopjaaGreatDoor.Con

namespace Go.Proofs.YtmanockofcopjaaGreatDoor.Con
open Go Go.RowKit Go.Kt Go.Kt.V Go.Proofs.YtmanockofcopjaaGreatDoor.Vc
set_option linter.unusedSimpArgs false
set_option linter.unusedVariables false
set_option maxHeartbeats 4000000

def wBody : List (List UInt8) := [wInitial, wEnter, wLeave]
section
variable {ts : List Tk} {n : Nb} {hd : Had} {u : Sx} {x : List UInt8} {j : Nat}
theorem isS_st (h : isS ts u 2 x = true) : (u.fc = 0 ∧ (tk ts u.i).k = 2) ∧ (tk ts u.i).t = x := by
  have hs : u.fc = 0 ∧ (tk ts u.i).k = 2 := Decidable.byContradiction fun hn => by rw [isS_ne hn] at h; cases h
  rw [isS_eq hs] at h
  exact ⟨hs, of_decide_eq_true h⟩
theorem isS_at (h : wBody[j]? = some x) : j < 3 := (List.getElem?_eq_some_iff.1 h).1
theorem wd_body : ∀ x, x ∈ wBody → Wd x := fun x hx => by
  simp only [wBody, List.mem_cons, List.not_mem_nil, or_false] at hx
  rcases hx with rfl | rfl | rfl <;> exact ⟨_, _, rfl, by decide⟩
/-- a clause's word stands there -/
theorem clause_w (hg : ∀ t, t ∈ ts → t.Good) (hx : wBody[j]? = some x) (hi : isS ts u 2 x = true) : whichS ts u [wOn, wAlways, wAfter] = 0 ∧ whichS ts u [wInitial, wEnter, wLeave] = j + 1 := by
  obtain ⟨hs, ht⟩ := isS_st hi
  have h3 := isS_at hx
  rw [which_words hg wd_moves, fst_yes hs, show [wInitial, wEnter, wLeave] = wBody from rfl, which_words hg wd_body, fst_yes hs, ht]
  rcases (by omega : j = 0 ∨ j = 1 ∨ j = 2) with rfl | rfl | rfl
  · have : x = wInitial := by simpa [wBody] using hx.symm
    subst this
    exact ⟨by decide, by decide⟩
  · have : x = wEnter := by simpa [wBody] using hx.symm
    subst this
    exact ⟨by decide, by decide⟩
  · have : x = wLeave := by simpa [wBody] using hx.symm
    subst this
    exact ⟨by decide, by decide⟩
theorem clause_j (hg : ∀ t, t ∈ ts → t.Good) (hx : wBody[j]? = some x) (hi : isS ts u 2 x = true) : clauseS ts n hd u = (if hadJ hd (j + 1) then (false, n, hd, wrongS ts u) else if j = 0 then (true, { n with ini := (nameS ts (nextS u)).1 }, setJ hd 1, mustS ts (nameS ts (nextS u)).2 [59]) else if j = 1 then (true, { n with en := (blockS ts (nextS u)).1 }, setJ hd 2, (blockS ts (nextS u)).2) else (true, { n with lv := (blockS ts (nextS u)).1 }, setJ hd 3, (blockS ts (nextS u)).2)) := by
  obtain ⟨h1, h2⟩ := clause_w hg hx hi
  have h3 := isS_at hx
  unfold clauseS
  rw [if_neg (by simpa using h1), h2]
  rcases (by omega : j = 0 ∨ j = 1 ∨ j = 2) with rfl | rfl | rfl <;> rfl
theorem clause_bad0 (hg : ∀ t, t ∈ ts → t.Good) (hx : wBody[0]? = some x) (hi : isS ts u 2 x = true ∧ hd.i = true) : clauseS ts n hd u = (false, n, hd, wrongS ts u) := by
  rw [clause_j hg hx hi.1]
  exact if_pos hi.2
theorem clause_bad1 (hg : ∀ t, t ∈ ts → t.Good) (hx : wBody[1]? = some x) (hi : isS ts u 2 x = true ∧ hd.e = true) : clauseS ts n hd u = (false, n, hd, wrongS ts u) := by
  rw [clause_j hg hx hi.1]
  exact if_pos hi.2
theorem clause_bad2 (hg : ∀ t, t ∈ ts → t.Good) (hx : wBody[2]? = some x) (hi : isS ts u 2 x = true ∧ hd.l = true) : clauseS ts n hd u = (false, n, hd, wrongS ts u) := by
  rw [clause_j hg hx hi.1]
  exact if_pos hi.2
theorem clause_ok0 (hg : ∀ t, t ∈ ts → t.Good) (hx : wBody[0]? = some x) (hi : isS ts u 2 x = true) (hh : hd.i = false) : u.fc = 0 ∧ (tk ts u.i).k ≠ 5 ∧ clauseS ts n hd u = (true, { n with ini := (nameS ts (nextS u)).1 }, { hd with i := true }, mustS ts (nameS ts (nextS u)).2 [59]) := by
  obtain ⟨hs, _⟩ := isS_st hi
  refine ⟨hs.1, by rw [hs.2]; decide, ?_⟩
  rw [clause_j hg hx hi, if_neg (by show ¬ hd.i = true; rw [hh]; decide)]
  rfl
theorem clause_ok1 (hg : ∀ t, t ∈ ts → t.Good) (hx : wBody[1]? = some x) (hi : isS ts u 2 x = true) (hh : hd.e = false) : u.fc = 0 ∧ (tk ts u.i).k ≠ 5 ∧ clauseS ts n hd u = (true, { n with en := (blockS ts (nextS u)).1 }, { hd with e := true }, (blockS ts (nextS u)).2) := by
  obtain ⟨hs, _⟩ := isS_st hi
  refine ⟨hs.1, by rw [hs.2]; decide, ?_⟩
  rw [clause_j hg hx hi, if_neg (by show ¬ hd.e = true; rw [hh]; decide)]
  rfl
theorem clause_ok2 (hg : ∀ t, t ∈ ts → t.Good) (hx : wBody[2]? = some x) (hi : isS ts u 2 x = true) (hh : hd.l = false) : u.fc = 0 ∧ (tk ts u.i).k ≠ 5 ∧ clauseS ts n hd u = (true, { n with lv := (blockS ts (nextS u)).1 }, { hd with l := true }, (blockS ts (nextS u)).2) := by
  obtain ⟨hs, _⟩ := isS_st hi
  refine ⟨hs.1, by rw [hs.2]; decide, ?_⟩
  rw [clause_j hg hx hi, if_neg (by show ¬ hd.l = true; rw [hh]; decide)]
  rfl
theorem clauses_fuel (hE : EndL ts) : ∀ (f g : Nat) (n : Nb) (h : Had) (s : Sx), s.i < ts.length → mu ts s < f → mu ts s < g → clausesS ts f n h s = clausesS ts g n h s
  | 0, _, _, _, _, _, h1, _ => by omega
  | _, 0, _, _, _, _, _, h2 => by omega
  | f + 1, g + 1, n, h, s, hi, h1, h2 => by
    rw [clausesS, clausesS]
    split
    · rfl
    · rename_i hfc
      have hfc : s.fc = 0 := by simpa using hfc
      split
      · rename_i ht
        have := clause_mu hE n h hfc hi ht
        exact clauses_fuel hE f g _ _ _ ((clause_on hE n h s).lt hi) (by omega) (by omega)
      · rfl
/-- what the round over the three words keeps: the rest of the clauses is as ever -/
structure InL (ts : List Tk) (C : Nb × Sx) (u0 : Sx) (j : Nat) (b5 : Bool) (n : Nb) (hd : Had) (u : Sx) : Prop where
  c : clausesS ts (ts.length + 1) n hd u = C
  ln : n.mv.length + mu ts u ≤ ts.length
  le : mu ts u ≤ mu ts u0
  lt : b5 = true → mu ts u < mu ts u0
  no : b5 = false → u.fc = 0 → ∀ i y, i < j → wBody[i]? = some y → isS ts u 2 y = false
theorem InL.skip {C : Nb × Sx} {u0 : Sx} {b5 hb : Bool} (h : InL ts C u0 j b5 n hd u) (hx : wBody[j]? = some x) (hc : ((!isS ts u 2 x) || hb) = true) (hbad : isS ts u 2 x = true ∧ hb = true → clauseS ts n hd u = (false, n, hd, wrongS ts u)) : InL ts C u0 (j + 1) b5 n hd (if isS ts u 2 x = true ∧ hb = true then wrongS ts u else u) := by
  cases hi : isS ts u 2 x with
  | false =>
    rw [if_neg (by simp)]
    refine ⟨h.c, h.ln, h.le, h.lt, fun h5 h0 i y hij hy => ?_⟩
    by_cases e : i < j
    · exact h.no h5 h0 i y e hy
    · have : i = j := by omega
      subst this
      rw [hx] at hy
      injection hy with hy
      subst hy
      exact hi
  | true =>
    rw [hi] at hc
    have hb' : hb = true := by simpa using hc
    rw [if_pos ⟨rfl, hb'⟩]
    have hcl := hbad ⟨hi, hb'⟩
    obtain ⟨hs, _⟩ := isS_st hi
    have hm0 : mu ts (wrongS ts u) = 0 := by unfold mu; rw [if_neg wrong_fc]
    have hC := h.c
    rw [clausesS, if_neg (by simp [hs.1]), hcl, if_neg (by simp)] at hC
    refine ⟨?_, by have := h.ln; omega, by omega, fun h5 => by have := h.lt h5; omega, fun _ h0 => absurd h0 wrong_fc⟩
    rw [clausesS, if_pos wrong_fc]
    exact hC
theorem InL.step {C : Nb × Sx} {u0 : Sx} {b5 : Bool} {n' : Nb} {hd' : Had} {u' : Sx} (h : InL ts C u0 j b5 n hd u) (hE : EndL ts) (hlt : u.i < ts.length) (hfc : u.fc = 0) (hcl : clauseS ts n hd u = (true, n', hd', u')) : InL ts C u0 (j + 1) true n' hd' u' := by
  have hmu := clause_mu hE n hd hfc hlt (by rw [hcl])
  have hlen := clause_len (ts := ts) n hd u
  have hon := clause_on hE n hd u
  rw [hcl] at hmu hlen hon
  dsimp only at hmu hlen hon
  have hC := h.c
  have hl := h.ln
  have hle := h.le
  have hml := mu_le ts u
  rw [clausesS, if_neg (by simp [hfc]), hcl, if_pos rfl] at hC
  dsimp only at hC
  refine ⟨?_, by omega, by omega, fun _ => by omega, fun h5 => by cases h5⟩
  rw [clauses_fuel hE (ts.length + 1) ts.length n' hd' u' (hon.lt hlt) (by omega) (by omega)]
  exact hC
end
section
variable {F : Nat → Prop} {ts : List Tk} {w w' w2 : World} {b : Nat} {l : Sl} {s s' : Sx}
/-- a node that is being read by the document's reader -/
structure By (F : Nat → Prop) (ts : List Tk) (w w' : World) (b : Nat) (l : Sl) (A B k0 k1 k2 : Nat) (q : Sl) (u : Sx) (n : Nb) (hd : Had) (i0 : Int) (s0 s1 s2 : ByteArray) (l1 l2 l3 l4 : Sl) (i1 : Int) (b1 b2 b3 : Bool) : Prop where
  e0 : i0 = n.k
  e1 : s0 = T n.nm
  e2 : s1 = T n.ini
  e3 : s2 = T n.dft
  e4 : l4 = Sl.nil
  e5 : i1 = n.a
  e6 : b1 = hd.i
  e7 : b2 = hd.e
  e8 : b3 = hd.l
  no : NbO B w' n l1 l2 l3
  z : Zx F ts w w' b l u [k2, k1, k0]
  ws : SliceF rTx 1 w' (fun k => A ≤ k ∧ k < B) q wBody
  lB : B ≤ w'.heap.size
section
variable {A B k0 k1 k2 : Nat} {q : Sl} {u u' : Sx} {n : Nb} {hd : Had} {i0 : Int} {s0 s1 s2 : ByteArray} {l1 l2 l3 l4 : Sl} {i1 : Int} {b1 b2 b3 : Bool}
theorem By.x (h : By F ts w w' b l A B k0 k1 k2 q u n hd i0 s0 s1 s2 l1 l2 l3 l4 i1 b1 b2 b3) (k : Dx F ts w' w2 b l u') (hb : b < A) (hA : A ≤ B) : By F ts w w2 b l A B k0 k1 k2 q u' n hd i0 s0 s1 s2 l1 l2 l3 l4 i1 b1 b2 b3 :=
  ⟨h.e0, h.e1, h.e2, h.e3, h.e4, h.e5, h.e6, h.e7, h.e8, h.no.go k.o fun x hx => (by simp only [List.mem_singleton] at hx; omega), h.z.nx k, SliceF.only rTx_ok (by decide) h.ws k.o fun k hk _ hm => (by simp only [List.mem_singleton] at hm; omega), Nat.le_trans h.lB k.o.size⟩
theorem By.f (h : By F ts w w' b l A B k0 k1 k2 q u n hd i0 s0 s1 s2 l1 l2 l3 l4 i1 b1 b2 b3) {kk : Nat} (k : Only [kk] w' w2) (hm : kk ∈ [k2, k1, k0]) (hb : kk < A) (hA : A ≤ B) : By F ts w w2 b l A B k0 k1 k2 q u n hd i0 s0 s1 s2 l1 l2 l3 l4 i1 b1 b2 b3 :=
  ⟨h.e0, h.e1, h.e2, h.e3, h.e4, h.e5, h.e6, h.e7, h.e8, h.no.go k fun x hx => (by simp only [List.mem_singleton] at hx; omega), h.z.f k hm, SliceF.only rTx_ok (by decide) h.ws k fun k hk _ hm => (by simp only [List.mem_singleton] at hm; omega), Nat.le_trans h.lB k.size⟩
theorem By.q' (h : By F ts w w' b l A B k0 k1 k2 q u n hd i0 s0 s1 s2 l1 l2 l3 l4 i1 b1 b2 b3) (k : Only [] w' w2) (hb : b < A) (hA : A ≤ B) : By F ts w w2 b l A B k0 k1 k2 q u n hd i0 s0 s1 s2 l1 l2 l3 l4 i1 b1 b2 b3 := h.x (h.z.r.dn.q k) hb hA
end
def NodeX (F : Nat → Prop) (ts : List Tk) (b : Nat) (l : Sl) (f : Nat) (d : Int) : Prop := ∀ (k : Int) (u : Sx) (w : World), Xs F ts w b l u → u.d = d → u.fc = 0 → (tk ts u.i).k ≠ 5 → Calls Tryz.prog 77 #[rp b, .int .i64 k] w fun e w' => ∃ cs, e = .returned (.agg cs.toArray) ∧ rNd true f w' (Fr w.heap.size) (nodeS ts f k (nextS u)).1 cs ∧ Dx F ts w w' b l (nodeS ts f k (nextS u)).2
theorem ybody_c {f : Nat} (h : Xs F ts w b l s) {n : Nb} (hen : n.en = []) (hlv : n.lv = []) (hmv : n.mv = []) (hd : InI s.d) (hN : s.fc = 0 → NodeX F ts b l f s.d) :
    Calls Tryz.prog 39 #[rp b, .agg (ndv n.k n.nm n.ini n.dft Sl.nil Sl.nil Sl.nil Sl.nil n.a).toArray] w fun e w' => ∃ cs, e = .returned (.agg cs.toArray) ∧
      rNd true (f + 1) w' (Fr w.heap.size) (.mk (clausesS ts (ts.length + 1) n ⟨false, false, false⟩ s).1 (kidsS ts (nodeS ts f) (ts.length + 1) [] (clausesS ts (ts.length + 1) n ⟨false, false, false⟩ s).2).1) cs ∧ Dx F ts w w' b l (kidsS ts (nodeS ts f) (ts.length + 1) [] (clausesS ts (ts.length + 1) n ⟨false, false, false⟩ s).2).2 := by
  generalize hC : clausesS ts (ts.length + 1) n ⟨false, false, false⟩ s = C
  have hCon : On ts s C.2 := by rw [← hC]; exact clauses_on h.en _ _ _ _
  generalize hK : kidsS ts (nodeS ts f) (ts.length + 1) [] C.2 = K
  refine (pavaneref07_reader_body_wp ⟨b, 0, none⟩ n.k (T n.nm) (T n.ini) (T n.dft) Sl.nil Sl.nil Sl.nil Sl.nil n.a (fun v w' => ∃ cs, v = (.agg cs.toArray) ∧ rNd true (f + 1) w' (Fr w.heap.size) (.mk C.1 K.1) cs ∧ Dx F ts w w' b l K.2) w ?_).mono (by
    rintro e w' ⟨v, rfl, cs, rfl, h⟩; exact ⟨cs, rfl, h⟩)
  unfold pavaneref07_reader_body_vc
  intro k0 k1 k2 w0 hk0 hk0' hk1 hk1' hk2 hk2' hO0
  have t0 := (((h.zt.q hO0).ad hk0 hk0').ad hk1 hk1').ad hk2 hk2'
  obtain ⟨q, w1, e1, hq, hO1⟩ := buildS w0 [wInitial, wEnter, wLeave] (n := 3) (parts := #[(0, .string (T wInitial)), (1, .string (T wEnter)), (2, .string (T wLeave))]) rfl rfl (by decide) (by decide)
  have hq := ((flatS hq).inHeap rTx_ok (by decide)).mono rTx_ok (G := fun k => w0.heap.size ≤ k ∧ k < w1.heap.size) fun k hk => ⟨hk.1.1, hk.2⟩
  have hO1s := hO1.size
  have hlb := t0.r.lb
  have z0 := t0.z.o.size
  refine ⟨q, w1, e1, t0.sq hO1 (by simp), ?_⟩
  generalize hBB : w1.heap.size = B at *
  generalize hAA : w0.heap.size = A at *
  have hbA : b < A := hlb
  have hk0A : k0 < A := hk0'
  have hk1A : k1 < A := hk1'
  have hk2A : k2 < A := hk2'
  have hAB : A ≤ B := hO1s
  refine ⟨fun nv b0 i0 s0 s1 s2 l1 l2 l3 l4 i1 b1 b2 b3 w' => ∃ (n' : Nb) (hd : Had) (u : Sx), By F ts w w' b l A B k0 k1 k2 q u n' hd i0 s0 s1 s2 l1 l2 l3 l4 i1 b1 b2 b3 ∧ n'.mv.length + mu ts u ≤ ts.length ∧ (b0 = true → clausesS ts (ts.length + 1) n' hd u = C ∧ mu ts u + 1 ≤ nv) ∧ (b0 = false → C = (n', u)), mu ts s + 1,
    ⟨n, ⟨false, false, false⟩, s, ⟨rfl, rfl, rfl, rfl, rfl, rfl, rfl, rfl, rfl, ⟨by rw [hen]; exact SlG.nil _ _ _ _ _ _, by rw [hlv]; exact SlG.nil _ _ _ _ _ _, by rw [hmv]; exact Own.nil _ _ _ _ _ _⟩, t0.q hO1, hq, Nat.le_of_eq hBB.symm⟩, by rw [hmv, List.length_nil, Nat.zero_add]; exact mu_le _ _, fun _ => ⟨hC, Nat.le_refl _⟩, fun h => by cases h⟩, ?_⟩
  clear hC
  rintro nv b0 i0 s0 s1 s2 l1 l2 l3 l4 i1 b1 b2 b3 w2 ⟨n', hd', u, B2, hln, hgo, hst⟩
  refine ⟨fun b4 w' => (b4 = true ∧ b0 = true ∧ u.fc = 0 ∧ By F ts w w' b l A B k0 k1 k2 q u n' hd' i0 s0 s1 s2 l1 l2 l3 l4 i1 b1 b2 b3) ∨ (b4 = false ∧ C = (n', u) ∧ By F ts w w' b l A B k0 k1 k2 q u n' hd' i0 s0 s1 s2 l1 l2 l3 l4 i1 b1 b2 b3), ?_, fun hb => (yok_c B2.z.r).mono ?_, fun hb => .inr ⟨rfl, hst hb, B2⟩⟩
  rotate_left
  · rintro _ w107 ⟨rfl, hO107⟩
    refine ⟨_, rfl, B2.z.sq hO107 (by simp), ?_⟩
    have B107 := B2.q' hO107 hbA hAB
    by_cases hfc : u.fc = 0
    · exact .inl ⟨by simpa using hfc, hb, hfc, B107⟩
    · have hc := (hgo hb).1
      rw [clausesS, if_pos hfc] at hc
      exact .inr ⟨by simpa using hfc, hc.symm, B107⟩
  clear B2
  rintro b4 w3 (⟨rfl, hb, hfc, B3⟩ | ⟨rfl, hCe, B3⟩)
  · refine ⟨fun _ => ?_, fun hh => (by cases hh)⟩
    obtain ⟨hcs, hnv⟩ := hgo hb
    refine ⟨fun nv2 b5 i2 i3 s3 s4 s5 l5 l6 l7 l8 i4 b6 b7 b8 w' => ∃ (j : Nat) (n2 : Nb) (hd2 : Had) (u2 : Sx), i2 = (j : Int) ∧ j ≤ 3 ∧ nv2 = 3 - j ∧ By F ts w w' b l A B k0 k1 k2 q u2 n2 hd2 i3 s3 s4 s5 l5 l6 l7 l8 i4 b6 b7 b8 ∧ InL ts C u j b5 n2 hd2 u2, 3,
      ⟨0, n', hd', u, rfl, by decide, rfl, B3, hcs, hln, Nat.le_refl _, fun h => (by cases h), fun _ _ i y hi => absurd hi (Nat.not_lt_zero _)⟩, ?_⟩
    clear B3
    rintro nv2 b5 i2 i3 s3 s4 s5 l5 l6 l7 l8 i4 b6 b7 b8 w4 ⟨j, n2, hd2, u2, rfl, hj3, rfl, B4, hIn⟩
    refine ⟨fun hc => ?_, fun hc => ?_⟩
    · have hj : j < 3 := by have := of_decide_eq_true hc; omega
      obtain ⟨ad', x, c1, c2, c3, _⟩ := word_at B4.ws (n := j) hj
      refine ⟨fun b9 i5 s6 s7 s8 l9 l10 l11 l12 i6 b10 b11 b12 w' => ∃ (n3 : Nb) (hd3 : Had) (u3 : Sx), By F ts w w' b l A B k0 k1 k2 q u3 n3 hd3 i5 s6 s7 s8 l9 l10 l11 l12 i6 b10 b11 b12 ∧ InL ts C u (j + 1) b9 n3 hd3 u3, ?_, ad', c1, _, c2, (yis_c B4.z.r 2 x).mono ?_⟩
      · rintro b9 i5 s6 s7 s8 l9 l10 l11 l12 i6 b10 b11 b12 w5 ⟨n3, hd3, u3, B5, hIn5⟩
        exact ⟨3 - (j + 1), by omega, j + 1, n3, hd3, u3, by rw [wr' (by omega) (by omega)]; rfl, by omega, rfl, B5, hIn5⟩
      rintro _ w6 ⟨rfl, hO6⟩
      refine ⟨_, rfl, B4.z.sq hO6 (by simp), ?_⟩
      have B6 := B4.q' hO6 hbA hAB
      clear B4 c1 c2 hc hj3
      rcases (by omega : j = 0 ∨ j = 1 ∨ j = 2) with rfl | rfl | rfl
      · -- word 0
        have his := isS_at (x := x) c3
        refine ⟨fun w' => ∃ u3, (u3 = if isS ts u2 2 x = true ∧ hd2.i = true then wrongS ts u2 else u2) ∧ By F ts w w' b l A B k0 k1 k2 q u3 n2 hd2 i3 s3 s4 s5 l5 l6 l7 l8 i4 b6 b7 b8, ?_, ⟨by decide, by decide⟩, ⟨⟨fun _ => ⟨fun hc => ?_, fun hc => ?_⟩, fun e => absurd e (by decide)⟩, fun e => absurd e (by decide)⟩⟩
        rotate_left
        · rw [Bool.and_eq_true, B6.e6] at hc
          refine (ywrong_c B6.z.r).mono ?_
          rintro _ w89 ⟨rfl, h89⟩
          exact ⟨rfl, B6.z.sc h89 (by simp), _, (if_pos hc).symm, B6.x h89 hbA hAB⟩
        · rw [B6.e6] at hc
          refine ⟨u2, (if_neg fun hh => ?_).symm, B6⟩
          rw [hh.1, hh.2] at hc
          cases hc
        rintro w7 ⟨u3, hu3, B7⟩
        refine ⟨⟨by decide, by decide⟩, ⟨⟨fun _ => ⟨fun hc => ?_, fun hc => ?_⟩, fun e => absurd e (by decide)⟩, fun e => absurd e (by decide)⟩⟩
        · rw [B7.e6] at hc
          refine ⟨n2, hd2, u3, B7, ?_⟩
          rw [hu3]
          exact hIn.skip c3 hc (fun hi => clause_bad0 h.hg c3 hi)
        · rw [B7.e6] at hc
          simp only [Bool.or_eq_false_iff, Bool.not_eq_false'] at hc
          obtain ⟨hi, hh⟩ := hc
          rw [if_neg (by rw [hh]; simp)] at hu3
          subst hu3
          obtain ⟨hfc, hk5, hcl⟩ := clause_ok0 h.hg c3 hi hh (n := n2)
          have hnx := h.en.next B7.z.r.lt hk5
          refine ⟨⟨by decide, by decide⟩, ⟨⟨fun _ w8 hO8 => ?_, fun e => absurd e (by decide)⟩, fun e => absurd e (by decide)⟩⟩
          have B8 := B7.f hO8 (by simp) hk2A hAB
          obtain ⟨nn, mm, aa, dd, hB8, hcn8⟩ := B8.z.r.blk
          refine ⟨_, Blk.at1 hB8 1 rfl, b, 1, _, _, rfl, hB8, by simp, B8.z.ne (by simp), B8.z.ne (by simp), B8.z.ne (by simp), fun w9 hO9 hB9 => ?_⟩
          rw [B8.z.r.wr] at hB9
          have B9 := B8.x (u' := nextS u3) ⟨hO9, B8.z.r.turn (s' := nextS u3) hO9 hB9 (fun e hP => (hcn8 e hP).next) hnx⟩ hbA hAB
          refine ⟨fun _ => (yname_c B9.z.r).mono ?_, fun hh => (by cases hh)⟩
          rintro _ w10 ⟨rfl, h10⟩
          have B10 := B9.x h10 hbA hAB
          refine ⟨_, _, rfl, B9.z.sc h10 (by simp), fun w11 hO11 => ?_⟩
          have B11 := B10.f hO11 (by simp) hk0A hAB
          refine (ym4 B11.z.r (x := [59]) ⟨_, _, rfl, by decide⟩).mono ?_
          rintro _ w12 ⟨rfl, h12⟩
          have B12 := B11.x h12 hbA hAB
          exact ⟨rfl, B11.z.sc h12 (by simp), { n2 with ini := (nameS ts (nextS u3)).1 }, { hd2 with i := true }, _, ⟨B12.e0, B12.e1, rfl, B12.e3, B12.e4, B12.e5, rfl, B12.e7, B12.e8, ⟨B12.no.en, B12.no.lv, B12.no.mv⟩, B12.z, B12.ws, B12.lB⟩, hIn.step h.en B7.z.r.lt hfc hcl⟩
      · -- word 1
        have his := isS_at (x := x) c3
        refine ⟨fun w' => ∃ u3, (u3 = if isS ts u2 2 x = true ∧ hd2.e = true then wrongS ts u2 else u2) ∧ By F ts w w' b l A B k0 k1 k2 q u3 n2 hd2 i3 s3 s4 s5 l5 l6 l7 l8 i4 b6 b7 b8, ?_, ⟨by decide, by decide⟩, ⟨⟨fun e => absurd e (by decide), fun _ => ⟨fun hc => ?_, fun hc => ?_⟩⟩, fun e => absurd e (by decide)⟩⟩
        rotate_left
        · rw [Bool.and_eq_true, B6.e7] at hc
          refine (ywrong_c B6.z.r).mono ?_
          rintro _ w89 ⟨rfl, h89⟩
          exact ⟨rfl, B6.z.sc h89 (by simp), _, (if_pos hc).symm, B6.x h89 hbA hAB⟩
        · rw [B6.e7] at hc
          refine ⟨u2, (if_neg fun hh => ?_).symm, B6⟩
          rw [hh.1, hh.2] at hc
          cases hc
        rintro w7 ⟨u3, hu3, B7⟩
        refine ⟨⟨by decide, by decide⟩, ⟨⟨fun e => absurd e (by decide), fun _ => ⟨fun hc => ?_, fun hc => ?_⟩⟩, fun e => absurd e (by decide)⟩⟩
        · rw [B7.e7] at hc
          refine ⟨n2, hd2, u3, B7, ?_⟩
          rw [hu3]
          exact hIn.skip c3 hc (fun hi => clause_bad1 h.hg c3 hi)
        · rw [B7.e7] at hc
          simp only [Bool.or_eq_false_iff, Bool.not_eq_false'] at hc
          obtain ⟨hi, hh⟩ := hc
          rw [if_neg (by rw [hh]; simp)] at hu3
          subst hu3
          obtain ⟨hfc, hk5, hcl⟩ := clause_ok1 h.hg c3 hi hh (n := n2)
          have hnx := h.en.next B7.z.r.lt hk5
          refine ⟨⟨by decide, by decide⟩, ⟨⟨fun e => absurd e (by decide), fun _ w8 hO8 => ?_⟩, fun e => absurd e (by decide)⟩⟩
          have B8 := B7.f hO8 (by simp) hk2A hAB
          obtain ⟨nn, mm, aa, dd, hB8, hcn8⟩ := B8.z.r.blk
          refine ⟨_, Blk.at1 hB8 1 rfl, b, 1, _, _, rfl, hB8, by simp, B8.z.ne (by simp), B8.z.ne (by simp), B8.z.ne (by simp), fun w9 hO9 hB9 => ?_⟩
          rw [B8.z.r.wr] at hB9
          have B9 := B8.x (u' := nextS u3) ⟨hO9, B8.z.r.turn (s' := nextS u3) hO9 hB9 (fun e hP => (hcn8 e hP).next) hnx⟩ hbA hAB
          refine ⟨fun hh => (by cases hh), fun _ => ⟨fun _ => (yblock_c B9.z.r).mono ?_, fun hh => (by cases hh)⟩⟩
          rintro _ w10 ⟨la, rfl, hla, h10⟩
          have B10 := B9.x h10 hbA hAB
          refine ⟨la, rfl, B9.z.sc h10 (by simp), fun w11 hO11 => ?_⟩
          have B11 := B10.f hO11 (by simp) hk0A hAB
          have hla' := hla.stay (rAc_ok true) (by decide) ((Stay.refl _ _).f hO11 (.inl (by have := B9.lB; omega)))
          have hmv : ∀ k, w9.heap.size ≤ k → l7.a ≠ some ⟨k, 0, none⟩ := fun k hk => B9.no.mv.new hk
          exact ⟨{ n2 with en := (blockS ts (nextS u3)).1 }, { hd2 with e := true }, _, ⟨B11.e0, B11.e1, B11.e2, B11.e3, B11.e4, B11.e5, B11.e6, rfl, B11.e8, B11.no.setEn hla' B9.lB hmv, B11.z, B11.ws, B11.lB⟩, hIn.step h.en B7.z.r.lt hfc hcl⟩
      · -- word 2
        have his := isS_at (x := x) c3
        refine ⟨fun w' => ∃ u3, (u3 = if isS ts u2 2 x = true ∧ hd2.l = true then wrongS ts u2 else u2) ∧ By F ts w w' b l A B k0 k1 k2 q u3 n2 hd2 i3 s3 s4 s5 l5 l6 l7 l8 i4 b6 b7 b8, ?_, ⟨by decide, by decide⟩, ⟨⟨fun e => absurd e (by decide), fun e => absurd e (by decide)⟩, fun _ => ⟨fun hc => ?_, fun hc => ?_⟩⟩⟩
        rotate_left
        · rw [Bool.and_eq_true, B6.e8] at hc
          refine (ywrong_c B6.z.r).mono ?_
          rintro _ w89 ⟨rfl, h89⟩
          exact ⟨rfl, B6.z.sc h89 (by simp), _, (if_pos hc).symm, B6.x h89 hbA hAB⟩
        · rw [B6.e8] at hc
          refine ⟨u2, (if_neg fun hh => ?_).symm, B6⟩
          rw [hh.1, hh.2] at hc
          cases hc
        rintro w7 ⟨u3, hu3, B7⟩
        refine ⟨⟨by decide, by decide⟩, ⟨⟨fun e => absurd e (by decide), fun e => absurd e (by decide)⟩, fun _ => ⟨fun hc => ?_, fun hc => ?_⟩⟩⟩
        · rw [B7.e8] at hc
          refine ⟨n2, hd2, u3, B7, ?_⟩
          rw [hu3]
          exact hIn.skip c3 hc (fun hi => clause_bad2 h.hg c3 hi)
        · rw [B7.e8] at hc
          simp only [Bool.or_eq_false_iff, Bool.not_eq_false'] at hc
          obtain ⟨hi, hh⟩ := hc
          rw [if_neg (by rw [hh]; simp)] at hu3
          subst hu3
          obtain ⟨hfc, hk5, hcl⟩ := clause_ok2 h.hg c3 hi hh (n := n2)
          have hnx := h.en.next B7.z.r.lt hk5
          refine ⟨⟨by decide, by decide⟩, ⟨⟨fun e => absurd e (by decide), fun e => absurd e (by decide)⟩, fun _ w8 hO8 => ?_⟩⟩
          have B8 := B7.f hO8 (by simp) hk2A hAB
          obtain ⟨nn, mm, aa, dd, hB8, hcn8⟩ := B8.z.r.blk
          refine ⟨_, Blk.at1 hB8 1 rfl, b, 1, _, _, rfl, hB8, by simp, B8.z.ne (by simp), B8.z.ne (by simp), B8.z.ne (by simp), fun w9 hO9 hB9 => ?_⟩
          rw [B8.z.r.wr] at hB9
          have B9 := B8.x (u' := nextS u3) ⟨hO9, B8.z.r.turn (s' := nextS u3) hO9 hB9 (fun e hP => (hcn8 e hP).next) hnx⟩ hbA hAB
          refine ⟨fun hh => (by cases hh), fun _ => ⟨fun hh => (by cases hh), fun _ => ⟨fun _ => (yblock_c B9.z.r).mono ?_, fun hh => (by cases hh)⟩⟩⟩
          rintro _ w10 ⟨la, rfl, hla, h10⟩
          have B10 := B9.x h10 hbA hAB
          refine ⟨la, rfl, B9.z.sc h10 (by simp), fun w11 hO11 => ?_⟩
          have B11 := B10.f hO11 (by simp) hk0A hAB
          have hla' := hla.stay (rAc_ok true) (by decide) ((Stay.refl _ _).f hO11 (.inl (by have := B9.lB; omega)))
          have hmv : ∀ k, w9.heap.size ≤ k → l7.a ≠ some ⟨k, 0, none⟩ := fun k hk => B9.no.mv.new hk
          exact ⟨{ n2 with lv := (blockS ts (nextS u3)).1 }, { hd2 with l := true }, _, ⟨B11.e0, B11.e1, B11.e2, B11.e3, B11.e4, B11.e5, B11.e6, B11.e7, rfl, B11.no.setLv hla' B9.lB hmv, B11.z, B11.ws, B11.lB⟩, hIn.step h.en B7.z.r.lt hfc hcl⟩
    · have hj : j = 3 := by have := of_decide_eq_false hc; omega
      subst hj
      have hsm := h.sm
      have hml := mu_le ts u2
      have hmln := hIn.ln
      refine (ymoving_c B4.z.r).mono ?_
      rintro _ w92 ⟨rfl, hO92⟩
      have B92 := B4.q' hO92 hbA hAB
      refine ⟨_, rfl, B4.z.sq hO92 (by simp), fun hm => ?_, fun hm => ?_⟩
      · have hm := pos1 hm
        obtain ⟨hfc2, hk5⟩ := which_ne hm
        have hcl : clauseS ts n2 hd2 u2 = (true, { n2 with mv := n2.mv ++ [(moveS ts (whichS ts u2 [wOn, wAlways, wAfter] : Nat) u2).1] }, hd2, (moveS ts (whichS ts u2 [wOn, wAlways, wAfter] : Nat) u2).2) := by
          unfold clauseS; rw [if_pos hm]
        have hst := hIn.step h.en B92.z.r.lt hfc2 hcl
        refine (ymove_c B92.z.r _ hfc2 hk5).mono ?_
        rintro _ w93 ⟨cs, rfl, hx, h93⟩
        generalize (moveS ts (whichS ts u2 [wOn, wAlways, wAfter] : Nat) u2).1 = m at *
        generalize (moveS ts (whichS ts u2 [wOn, wAlways, wAfter] : Nat) u2).2 = u3 at *
        have hx' := hx
        obtain ⟨gc, asl, tg, rfl, hgx, _, _⟩ := hx'
        obtain ⟨sl, rfl⟩ := rE_cells hgx
        have B93 := B92.x h93 hbA hAB
        refine ⟨_, _, _, _, _, _, _, _, sl, _, asl, tg, _, rfl, B92.z.sc h93 (by simp), fun k35 w94 hk35 hk35' hO94 => ?_⟩
        have B94 := B93.q' hO94 hbA hAB
        have z93 := h93.o.size
        have z94 := hO94.size
        obtain ⟨y, w95, e2, hO95, mv', w96, e3, hown, ⟨gs, hO96, hgs⟩, ha⟩ := app_one (P := Tryz.prog) (t := 42) (ty := 42) (e := 75) (i := Tryz.t75) (bytes := 168) (size := 13) (v := .agg (mvv m.k m.ev m.wt m.gd (exv m.g.k m.g.n m.g.s m.g.op sl m.g.a) asl tg m.a).toArray) (x := m) (G := fun k => w92.heap.size ≤ k ∧ k < w93.heap.size) (by kernel_rfl) (by kernel_rfl) rfl rfl rfl rfl (by decide) (by decide) (by decide) (rMv_ok true) B94.no.mv B94.lB rfl ((rMv_ok true).keep ((rMv_ok true).mono ((rMv_ok true).inHeap hx) fun k hk => ⟨hk.1, hk.2⟩) fun k hk hlt => hO94.block k hlt (by simp)) (fun k hk _ => ⟨Nat.le_trans B92.lB hk.1, B92.no.mv.new hk.1⟩) (by omega)
        have hO96' : Only gs w94 w96 := (hO95.weaken (bs' := gs) fun _ h => (by cases h)).trans hO96 fun x hx => .inl hx
        have hgs' : ∀ x, x ∈ gs → B ≤ x := fun x hx => (hgs x hx).2.1
        have hgk : ∀ g, g ∈ gs → g ≠ k35 := fun g hg e => by
          subst e
          exact B93.no.mv.new hk35 (hgs g hg).1
        have z95 := hO95.size
        have no96 := B94.no.app hown hO96' (fun x hx => (hgs x hx).1) ha B94.lB
        have hBs := B94.lB
        have t96 := B94.z.row hO96' fun x hx => Nat.le_trans z0 (Nat.le_trans hAB (hgs' x hx))
        have ws96 := SliceF.only rTx_ok (by decide) B94.ws hO96' fun k hk _ hm => (by have := hgs' k hm; omega)
        have ksz : ∀ x, x ∈ [k0, k1, k2, k35] → x < w94.heap.size := fun x hx => by
          simp only [List.mem_cons, List.not_mem_nil, or_false] at hx
          omega
        refine ⟨y, w95, e2, hO95.same (fun x hx => ⟨ksz x hx, by simp⟩), mv', w96, e3, hO96.same (fun x hx => ⟨Nat.lt_of_lt_of_le (ksz x hx) z95, fun hm => ?_⟩), fun w97 hO97 => ⟨mu ts u3 + 1, by have := hst.lt rfl; omega, { n2 with mv := n2.mv ++ [m] }, _, _, (⟨B94.e0, B94.e1, B94.e2, B94.e3, B94.e4, B94.e5, B94.e6, B94.e7, B94.e8, no96, t96, ws96, Nat.le_trans hBs hO96'.size⟩ : By F ts w w96 b l A B k0 k1 k2 q u3 { n2 with mv := n2.mv ++ [m] } hd2 i3 s3 s4 s5 l5 l6 mv' l8 i4 b6 b7 b8).f hO97 (by simp) hk0A hAB, hst.ln, fun _ => ⟨hst.c, Nat.le_refl _⟩, fun hh => by cases hh⟩⟩
        have := hgs' x hm
        simp only [List.mem_cons, List.not_mem_nil, or_false] at hx
        rcases hx with rfl | rfl | rfl | rfl
        · omega
        · omega
        · omega
        · exact hgk _ hm rfl
      · have hm := pos0 hm
        cases b5 with
        | true => exact ⟨mu ts u2 + 1, by have := hIn.lt rfl; omega, n2, hd2, u2, B92, hIn.ln, fun _ => ⟨hIn.c, Nat.le_refl _⟩, fun hh => by cases hh⟩
        | false =>
          refine ⟨0, by omega, n2, hd2, u2, B92, hIn.ln, fun hh => (by cases hh), fun _ => ?_⟩
          rw [← hIn.c, clausesS]
          by_cases hf2 : u2.fc = 0
          · rw [if_neg (by simp [hf2])]
            have hw : whichS ts u2 [wInitial, wEnter, wLeave] = 0 := by
              show whichS ts u2 wBody = 0
              rw [which_words h.hg wd_body]
              have h0 := hIn.no rfl hf2 0 _ (by decide) rfl
              have h1 := hIn.no rfl hf2 1 _ (by decide) rfl
              have h2 := hIn.no rfl hf2 2 _ (by decide) rfl
              show fstW ts u2 [wInitial, wEnter, wLeave] 0 = 0
              rw [fstW, h0, fstW, h1, fstW, h2]
              rfl
            have hcl : clauseS ts n2 hd2 u2 = (false, n2, hd2, u2) := by
              unfold clauseS
              rw [if_neg (by simpa using hm), hw]; rfl
            rw [hcl, if_neg (by simp)]
          · rw [if_pos hf2]
  · refine ⟨fun hh => (by cases hh), fun _ => ?_⟩
    subst hCe
    dsimp only at hK hCon
    have hsB : B ≤ w3.heap.size := B3.lB
    have no3 : NbR true w3 (fun k => B ≤ k ∧ k < w3.heap.size) n' l1 l2 l3 :=
      ⟨(B3.no.en.inHeap (rAc_ok true) (by decide)).mono (rAc_ok true) fun k hk => ⟨hk.1.1, hk.2⟩, (B3.no.lv.inHeap (rAc_ok true) (by decide)).mono (rAc_ok true) fun k hk => ⟨hk.1.1, hk.2⟩, (B3.no.mv.sl (rMv_ok true) fun k hk => hk).inHeap (rMv_ok true) (by decide)⟩
    have t3 := B3.z
    obtain ⟨rfl, rfl, rfl, rfl, rfl, rfl⟩ : i0 = n'.k ∧ s0 = T n'.nm ∧ s1 = T n'.ini ∧ s2 = T n'.dft ∧ l4 = Sl.nil ∧ i1 = n'.a := ⟨B3.e0, B3.e1, B3.e2, B3.e3, B3.e4, B3.e5⟩
    clear B3 hgo hst hln
    have zw3 := t3.z.o.size
    generalize hB2 : w3.heap.size = B2 at *
    refine ⟨fun i33 s21 s22 s23 l36 l37 l38 l39 i34 w' => i33 = n'.k ∧ s21 = T n'.nm ∧ s22 = T n'.ini ∧ s23 = T n'.dft ∧ l1 = l36 ∧ l2 = l37 ∧ l3 = l38 ∧ i34 = n'.a ∧ Zx F ts w w' b l K.2 [k2, k1, k0] ∧ NbR true w' (fun k => B ≤ k ∧ k < B2) n' l1 l2 l3 ∧ SlG true (rNd true f) 9 45 w' (Fr B2) l39 K.1, ?_,
      fun nv i33 s21 s22 s23 l36 l37 l38 l39 i34 w' => ∃ (acc : List Nd) (u' : Sx), i33 = n'.k ∧ s21 = T n'.nm ∧ s22 = T n'.ini ∧ s23 = T n'.dft ∧ l1 = l36 ∧ l2 = l37 ∧ l3 = l38 ∧ i34 = n'.a ∧ Zx F ts w w' b l u' [k2, k1, k0] ∧ NbR true w' (fun k => B ≤ k ∧ k < B2) n' l1 l2 l3 ∧ NdO f B2 w' l39 acc ∧ B2 ≤ w'.heap.size ∧ kidsS ts (nodeS ts f) nv acc u' = K ∧ mu ts u' < nv ∧ acc.length + mu ts u' ≤ ts.length ∧ u'.d = s.d ∧ (u'.fc = 0 → s.fc = 0), ts.length + 1,
      ⟨[], u, rfl, rfl, rfl, rfl, rfl, rfl, rfl, rfl, t3, no3, Own.nil _ _ _ _ _ _, Nat.le_of_eq hB2.symm, hK, Nat.lt_succ_of_le (mu_le _ _), by rw [List.length_nil, Nat.zero_add]; exact mu_le _ _, hCon.d, fun e => (hCon.le e).1⟩, ?_⟩
    · rintro _ _ _ _ _ _ _ l39 _ w98 ⟨rfl, rfl, rfl, rfl, rfl, rfl, rfl, rfl, t98, no98, kd98⟩ w99 hO99
      refine ⟨_, rfl, ⟨_, _, _, _, rfl, (no98.keep fun i hi hlt => hO99.block i hlt (by simp only [List.mem_singleton]; omega)).mono fun k hk => ?_, (kd98.stay (rNd_ok true f) (by decide) (Stay.of hO99 fun x hx => .inl (by simp only [List.mem_singleton] at hx; omega))).low (rNd_ok true f) ?_⟩, (t98.f hO99 (by simp)).dn⟩
      · have := hk.1; show w.heap.size ≤ k; omega
      · omega
    clear hK no3 t3
    rintro nv _ _ _ _ _ _ _ l43 _ w100 ⟨acc, u', rfl, rfl, rfl, rfl, rfl, rfl, rfl, rfl, t100, no100, kd100, zB2, hR, hf1, hm1, hud, huz⟩
    obtain ⟨m', rfl⟩ : ∃ m', nv = m' + 1 := ⟨nv - 1, by omega⟩
    rw [kidsS] at hR
    obtain ⟨_, _, _, _, hB100, _⟩ := t100.r.blk
    have keepB : ∀ {u1 u2 : World} {x : Sx}, Dx F ts u1 u2 b l x → NbR true u1 (fun k => B ≤ k ∧ k < B2) n' l1 l2 l3 → NbR true u2 (fun k => B ≤ k ∧ k < B2) n' l1 l2 l3 := fun k hn => hn.keep fun i hi hlt => k.o.block i hlt (by simp only [List.mem_singleton]; omega)
    have keepK : ∀ {u1 u2 : World} {x : Sx}, Dx F ts u1 u2 b l x → NdO f B2 u1 l43 acc → NdO f B2 u2 l43 acc := fun k hn => hn.stay (rNd_ok true f) k.o fun x hx => .inl (by simp only [List.mem_singleton] at hx; omega)
    refine ⟨_, Blk.at1 hB100 6 rfl, fun hc => (ykind_c t100.r).mono ?_, fun hc => ?_⟩
    · have hc : u'.fc = 0 := by simpa using hc
      rintro _ w101 ⟨rfl, hO101⟩
      have d101 := t100.r.dn.q hO101
      have t101 := t100.q hO101
      have no101 := keepB d101 no100
      have kd101 := keepK d101 kd100
      refine ⟨_, rfl, t100.sq hO101 (by simp), fun hw => ?_, fun hw => ?_⟩
      · rw [if_pos (nat0 hw)] at hR
        rw [← hR]
        exact ⟨rfl, rfl, rfl, rfl, rfl, rfl, rfl, rfl, t101, no101, kd101.sl (rNd_ok true f) fun k hk => hk⟩
      · have hw := nat1 hw
        rw [if_neg hw] at hR
        obtain ⟨_, hk5⟩ := which_ne hw
        have hlt := t100.r.lt
        have hsm := h.sm
        have hmul := mu_le ts u'
        have hon := node_on h.en f (whichS ts u' wKinds : Nat) (nextS u') (by show InI u'.d; rw [hud]; exact hd)
        have hmu := next_mu h.en hc hlt hk5 hon.toOn0
        have hrun := hN (huz hc) ((whichS ts u' wKinds : Nat) : Int) u' w101 t101.r hud hc hk5
        generalize whichS ts u' wKinds = kk at *
        generalize nodeS ts f (kk : Int) (nextS u') = N at *
        refine hrun.mono ?_
        rintro _ w102 ⟨cs, rfl, hx, h102⟩
        have t102 := t101.nx h102
        have no102 := keepB h102 no101
        have kd102 := keepK h102 kd101
        obtain ⟨f', rfl⟩ : ∃ f', f = f' + 1 := by
          cases f with
          | zero => exact hx.elim
          | succ f' => exact ⟨f', rfl⟩
        have hx' := hx
        obtain ⟨xe, xl, xm, xk, rfl, _⟩ := hx'
        refine ⟨_, _, _, _, xe, xl, xm, xk, _, rfl, t101.sc h102 (by simp), fun k40 w103 hk40 hk40' hO103 => ?_⟩
        have t103 := t102.q hO103
        have no103 := keepB (t102.r.dn.q hO103) no102
        have kd103 := keepK (t102.r.dn.q hO103) kd102
        have z101 := hO101.size
        have z102 := h102.o.size
        have z103 := hO103.size
        obtain ⟨y, w104, e2, hO104, la', w105, e3, hown, ⟨gs, hO105, hgs⟩, _⟩ := app_one (P := Tryz.prog) (t := 43) (ty := 43) (e := 45) (i := Tryz.t45) (bytes := 160) (size := 9) (v := .agg (ndv N.1.b.k N.1.b.nm N.1.b.ini N.1.b.dft xe xl xm xk N.1.b.a).toArray) (x := N.1) (G := fun k => w101.heap.size ≤ k ∧ k < w102.heap.size) (by kernel_rfl) (by kernel_rfl) rfl rfl rfl rfl (by decide) (by decide) (by decide) (rNd_ok true _) kd103 (by omega) rfl ((rNd_ok true _).keep ((rNd_ok true _).mono ((rNd_ok true _).inHeap hx) fun k hk => ⟨hk.1, hk.2⟩) fun k hk hlt => hO103.block k hlt (by simp)) (fun k hk _ => ⟨by show B2 ≤ k; omega, kd101.new hk.1⟩) (by omega)
        have hO105' : Only gs w103 w105 := (hO104.weaken (bs' := gs) fun _ h => (by cases h)).trans hO105 fun x hx => .inl hx
        have hgs' : ∀ x, x ∈ gs → B2 ≤ x := fun x hx => (hgs x hx).2.1
        have hgk : ∀ g, g ∈ gs → g ≠ k40 := fun g hg e => by
          subst e
          exact kd102.new hk40 (hgs g hg).1
        have z104 := hO104.size
        have z105 := hO105'.size
        have ksz : ∀ x, x ∈ [k0, k1, k2, k40] → x < w103.heap.size := fun x hx => by
          simp only [List.mem_cons, List.not_mem_nil, or_false] at hx
          omega
        refine ⟨y, w104, e2, hO104.same (fun x hx => ⟨ksz x hx, by simp⟩), la', w105, e3, hO105.same (fun x hx => ⟨Nat.lt_of_lt_of_le (ksz x hx) z104, fun hm => ?_⟩), fun w106 hO106 => ⟨m', Nat.lt_succ_self _, acc ++ [N.1], N.2, rfl, rfl, rfl, rfl, rfl, rfl, rfl, rfl, (t103.row hO105' fun x hx => (by have := hgs' x hx; omega)).f hO106 (by simp), ?_, ?_, ?_, hR, by omega, by rw [List.length_append, List.length_singleton]; omega, hon.d.trans hud, fun e => huz (hon.le e).1⟩⟩
        · have := hgs' x hm
          simp only [List.mem_cons, List.not_mem_nil, or_false] at hx
          rcases hx with rfl | rfl | rfl | rfl
          · omega
          · omega
          · omega
          · exact hgk _ hm rfl
        · exact (no103.keep fun i hi hlt => hO105'.block i hlt fun hm => (by have := hgs' i hm; omega)).keep fun i hi hlt => hO106.block i hlt (by simp only [List.mem_singleton]; omega)
        · refine (hown.mono (rNd_ok true _) fun k hk => ?_).stay (rNd_ok true _) hO106 fun x hx => .inl (by simp only [List.mem_singleton] at hx; omega)
          rcases hk with hk | hk
          · exact hk
          · show B2 ≤ k; omega
        · have := hO106.size; omega
    · have hc : u'.fc ≠ 0 := by simpa using hc
      have hw : whichS ts u' wKinds = 0 := Decidable.byContradiction fun hw => hc (which_ne hw).1
      rw [if_pos hw] at hR
      rw [← hR]
      exact ⟨rfl, rfl, rfl, rfl, rfl, rfl, rfl, rfl, t100, no100, kd100.sl (rNd_ok true f) fun k hk => hk⟩
end
end Go.Proofs.YtmanockofcopjaaGreatDoor.Con

namespace Go.Proofs.YtmanockofcopjaaGreatDoor.Con
open Go Go.RowKit Go.Kt Go.Kt.V Go.Proofs.YtmanockofcopjaaGreatDoor.Vc
set_option linter.unusedSimpArgs false
set_option linter.unusedVariables false
set_option maxHeartbeats 4000000

section
variable {F : Nat → Prop} {ts : List Tk} {w w' w2 : World} {b : Nat} {l : Sl} {s s' : Sx}
theorem ynode_c : ∀ (f : Nat) (d : Int), 0 ≤ d → d < f → d ≤ 9223372036854775807 → NodeX F ts b l f d
  | 0, d, h0, h1, _ => by omega
  | f + 1, d, h0, h1, h2 => by
    intro k u w h hd hf0 hk5
    refine (pavaneref07_reader_node_wp ⟨b, 0, none⟩ k (fun v w' => ∃ cs, v = (.agg cs.toArray) ∧ rNd true (f + 1) w' (Fr w.heap.size) (nodeS ts (f + 1) k (nextS u)).1 cs ∧ Dx F ts w w' b l (nodeS ts (f + 1) k (nextS u)).2) w ?_).mono (by
      rintro e w' ⟨v, rfl, cs, rfl, h⟩; exact ⟨cs, rfl, h⟩)
    unfold pavaneref07_reader_node_vc
    intro k0 w0 hk0 hk0' hO0
    have t0 := h.zt.al hO0 hk0 hk0'
    obtain ⟨n, m, a, dd, hB0, hcn⟩ := t0.r.blk
    refine ⟨_, Blk.at1 hB0 1 rfl, b, 1, _, _, rfl, hB0, by simp, t0.ne (by simp), fun w1 hO1 hB1 => ?_⟩
    rw [h.wr] at hB1
    have t1 : Zx F ts w w1 b l (nextS u) [k0] := ⟨t0.z.c hO1, t0.r.turn (s' := nextS u) hO1 hB1 (fun e hP => (hcn e hP).next) (h.en.next h.lt hk5)⟩
    refine (ynamed_c t1.r k).mono ?_
    rintro _ w2 ⟨rfl, h2'⟩
    have t2 := t1.nx h2'
    have hon := named_on h.en k (nextS u)
    have hnd := named_d (ts := ts) (k := k) (s := nextS u)
    rw [nodeS]
    have hnb : (namedS ts k (nextS u)).1.ini = [] ∧ (namedS ts k (nextS u)).1.dft = [] ∧ (namedS ts k (nextS u)).1.en = [] ∧ (namedS ts k (nextS u)).1.lv = [] ∧ (namedS ts k (nextS u)).1.mv = [] ∧ (namedS ts k (nextS u)).1.k = k := ⟨rfl, rfl, rfl, rfl, rfl, rfl⟩
    have hd' : (nextS u).d = d := hd
    generalize namedS ts k (nextS u) = N at *
    obtain ⟨nb, u1⟩ := N
    dsimp only at *
    obtain ⟨i1, i2, i3, i4, i5, i6⟩ := hnb
    obtain ⟨nk, nnm, nini, ndft, nen, nlv, nmv, na⟩ := nb
    dsimp only at i1 i2 i3 i4 i5 i6
    subst i1 i2 i3 i4 i5 i6
    dsimp only at *
    refine ⟨_, _, _, _, Sl.nil, Sl.nil, Sl.nil, Sl.nil, _, rfl, t1.sc h2' (by simp), fun hc k4 w3 hk4 hk4' hO3 => ?_, fun hc k5 w9 hk5' hk5'' hO9 => ?_⟩
    · rw [if_pos (by have := of_decide_eq_true hc; omega)]
      have t3 := t2.al hO3 hk4 hk4'
      refine (ym4 t3.r (x := [45, 62]) ⟨_, _, rfl, by decide⟩).mono ?_
      rintro _ w4 ⟨rfl, h4⟩
      have t4 := t3.nx h4
      refine ⟨rfl, t3.sc h4 (by simp), (yname_c t4.r).mono ?_⟩
      rintro _ w5 ⟨rfl, h5⟩
      have t5 := t4.nx h5
      refine ⟨_, _, rfl, t4.sc h5 (by simp), fun w6 hO6 => ?_⟩
      have t6 := t5.f hO6 (by simp)
      refine (ym4 t6.r (x := [59]) ⟨_, _, rfl, by decide⟩).mono ?_
      rintro _ w7 ⟨rfl, h7⟩
      have t7 := t6.nx h7
      exact ⟨rfl, t6.sc h7 (by simp), fun w8 hO8 => ⟨_, rfl, ⟨Sl.nil, Sl.nil, Sl.nil, Sl.nil, rfl, ⟨SlG.nil _ _ _ _ _ _, SlG.nil _ _ _ _ _ _, SlG.nil _ _ _ _ _ _⟩, SlG.nil _ _ _ _ _ _⟩, (t7.f hO8 (by simp)).dn⟩⟩
    · rw [if_neg (by have := of_decide_eq_false hc; omega)]
      have t9 := t2.al hO9 hk5' hk5''
      refine (ym4 t9.r (x := [123]) ⟨_, _, rfl, by decide⟩).mono ?_
      rintro _ w10 ⟨rfl, h10⟩
      have t10 := t9.nx h10
      have hms := must_on (s := u1) h.en [123]
      have hsd : (mustS ts u1 [123]).d = d := hms.d.trans (hon.d.trans hd')
      have hfz : (mustS ts u1 [123]).fc = 0 → d ≠ 0 := fun hf => by
        have := hnd (hms.le hf).1
        rw [hd'] at this
        exact this
      unfold bodyS
      dsimp only
      generalize mustS ts u1 [123] = s1 at *
      obtain ⟨n1, m1, a1, d1, hB1, hcn1⟩ := t10.r.blk
      refine ⟨rfl, t9.sc h10 (by simp), _, Blk.at1 hB1 5 rfl, b, 5, _, _, rfl, hB1, by simp, t10.ne (by simp), t10.ne (by simp), fun w11 hO11 hB11 => ?_⟩
      have hdd : d ≠ 0 → dec s1.d = d - 1 := fun hz => by unfold dec; rw [hsd, wr' (by omega) (by omega)]
      have t11 : Zx F ts w w11 b l { s1 with d := dec s1.d } [k5, k0] := ⟨t10.z.c hO11, t10.r.turn (s' := { s1 with d := dec s1.d }) hO11 hB11 (fun e hP => by
        have hc := hcn1 e hP
        have hz := hfz e
        have e1 := hc.d
        have e2 := hc.d0
        have e3 := hdd hz
        rw [wr' (by omega) (by omega)]
        exact ⟨hc.n, hc.m, hc.a, by dsimp only; omega, hc.n0, hc.m0, hc.a0, by dsimp only; omega⟩) t10.r.lt⟩
      have hcd : s1.fc = 0 → d ≤ 12 := fun e => by
        have := (hcn1 e trivial).d0
        omega
      refine (ybody_c (f := f) t11.r (n := ⟨nk, nnm, [], [], [], [], [], na⟩) rfl rfl rfl (wrapIn _) (fun hf => ?_)).mono ?_
      · have hz := hfz hf
        show NodeX F ts b l f (dec s1.d)
        rw [hdd hz]
        exact ynode_c f (d - 1) (by omega) (by omega) (by omega)
      · have hon2 := clauses_on h.en (ts.length + 1) ⟨nk, nnm, [], [], [], [], [], na⟩ ⟨false, false, false⟩ { s1 with d := dec s1.d }
        have hon3 := kids_on h.en (N := nodeS ts f) (dec s1.d) (fun k s hs _ => node_on h.en f k s (by rw [hs]; exact wrapIn _)) (ts.length + 1) [] (clausesS ts (ts.length + 1) ⟨nk, nnm, [], [], [], [], [], na⟩ ⟨false, false, false⟩ { s1 with d := dec s1.d }).2 hon2.d
        generalize clausesS ts (ts.length + 1) ⟨nk, nnm, [], [], [], [], [], na⟩ ⟨false, false, false⟩ { s1 with d := dec s1.d } = C at *
        generalize kidsS ts (nodeS ts f) (ts.length + 1) [] C.2 = K at *
        have hon4 := hon2.trans hon3
        rintro _ w12 ⟨cs, rfl, hx, h12⟩
        have t12 := t11.nx h12
        have hx' := hx
        obtain ⟨xe, xl, xm, xk, rfl, _⟩ := hx'
        refine ⟨_, _, _, _, xe, xl, xm, xk, _, rfl, t11.sc h12 (by simp), fun w13 hO13 => ?_⟩
        have t13 := t12.f hO13 (by simp)
        obtain ⟨n2, m2, a2, d2, hB2, hcn2⟩ := t13.r.blk
        refine ⟨_, Blk.at1 hB2 5 rfl, b, 5, _, _, rfl, hB2, by simp, t13.ne (by simp), t13.ne (by simp), fun w14 hO14 hB14 => ?_⟩
        have d14 : Dx F ts w13 w14 b l { K.2 with d := inc K.2.d } := ⟨hO14, t13.r.turn (s' := { K.2 with d := inc K.2.d }) hO14 hB14 (fun e hP => by
          have hc := hcn2 e hP
          have hs1 : s1.fc = 0 := (hon4.le e).1
          have hz := hfz hs1
          have e1 := hc.d
          have e2 := hc.d0
          have e3 := hdd hz
          have e4 := hcd hs1
          have e5 : K.2.d = dec s1.d := hon4.d
          have e6 : inc K.2.d = d := by unfold inc; rw [e5, e3, wr' (by omega) (by omega)]; omega
          rw [wr' (by omega) (by omega)]
          exact ⟨hc.n, hc.m, hc.a, by dsimp only; omega, hc.n0, hc.m0, hc.a0, by dsimp only; omega⟩) t13.r.lt⟩
        have t14 := t13.nx d14
        refine (ym4 t14.r (x := [125]) ⟨_, _, rfl, by decide⟩).mono ?_
        rintro _ w15 ⟨rfl, h15⟩
        have k0l := (t1.z.k k0 (by simp)).2
        have k5l := (t9.z.k k5 (by simp)).2
        have z10 := h10.o.size
        have z11 := hO11.size
        have zz := t11.z.o.size
        have z9 := hO9.size
        have z2 := h2'.o.size
        have hbl := t9.r.lb
        refine ⟨rfl, t14.sc h15 (by simp), fun w16 hO16 => ⟨_, rfl, ?_, ((t14.nx h15).f hO16 (by simp)).dn⟩⟩
        exact (rNd_ok true _).low ((rNd_ok true _).stay hx (((((Stay.refl _ _).f hO13 (.inl (by omega))).x d14 (by omega)).x h15 (by omega)).f hO16 (.inl (by omega)))) zz
theorem XsP.vv {P : Prop} (h : XsP P F ts w b l s) (x : Int) : XsP P F ts w b l { s with v := x } := by
  obtain ⟨n, m, a, d, hB, hcn⟩ := h.blk
  exact ⟨⟨n, m, a, d, hB, fun e hP => ⟨(hcn e hP).n, (hcn e hP).m, (hcn e hP).a, (hcn e hP).d, (hcn e hP).n0, (hcn e hP).m0, (hcn e hP).a0, (hcn e hP).d0⟩⟩, h.tok, h.hF, h.en, h.lt, h.sm, h.hg⟩
theorem stop_v (c : Int) : (stopS ts s c).v = s.v := by unfold stopS; split <;> rfl
theorem wrong_v : (wrongS ts s).v = s.v := by unfold wrongS; split <;> simp only [stop_v]
theorem must_v (x : List UInt8) : (mustS ts s x).v = s.v := by unfold mustS; split; exact wrong_v; rfl
theorem kind_v (k : Int) : (kindS ts s k).2.v = s.v := by unfold kindS; split; exact wrong_v; rfl
/-- a variable that was read without fault took a place -/
theorem var_v (hE : EndL ts) (h : (varS ts s).2.fc = 0) : s.fc = 0 ∧ s.v ≠ 0 ∧ (varS ts s).2.v = dec s.v := by
  have hon := (var_on hE s).le h
  unfold varS at h ⊢
  dsimp only at h ⊢
  have l1 := ((must_on hE (s := (kindS ts (if whichS ts (mustS ts (kindS ts (if (tk ts s.i).k = 1 then useV ts s else s) 1).2 [61]) [[45]] = 0 then mustS ts (kindS ts (if (tk ts s.i).k = 1 then useV ts s else s) 1).2 [61] else nextS (mustS ts (kindS ts (if (tk ts s.i).k = 1 then useV ts s else s) 1).2 [61])) 3).2) [59]).le h).1
  rw [must_v, kind_v]
  have l2 := ((kind_on hE (k := 3) (by decide)).le l1).1
  have e1 : ∀ u : Sx, (if whichS ts u [[45]] = 0 then u else nextS u).v = u.v := fun u => by split <;> rfl
  have e2 : ∀ u : Sx, (if whichS ts u [[45]] = 0 then u else nextS u).fc = u.fc := fun u => by split <;> rfl
  rw [e1, must_v, kind_v]
  rw [e2] at l2
  have l3 := ((must_on hE _).le l2).1
  unfold kindS at l3
  by_cases hk : (tk ts s.i).k = 1
  · rw [if_pos hk] at l3 ⊢
    have l4 : (useV ts s).fc = 0 := by
      split at l3
      · exact absurd l3 wrong_fc
      · exact l3
    unfold useV at l4 ⊢
    by_cases h0 : s.v = 0
    · rw [if_pos h0] at l4
      exact absurd l4 (stop_fc (by decide))
    · rw [if_neg h0]
      exact ⟨hon.1, h0, rfl⟩
  · rw [if_neg hk, if_pos (.inr hk)] at l3
    exact absurd l3 wrong_fc
theorem yvars_c (h : Xs F ts w b l s) (hv : s.fc = 0 → s.v = 16) : Calls Tryz.prog 38 #[rp b] w fun e w' => ∃ vs : Sl, e = .returned vs.v ∧ SlG true rVr 3 73 w' (Fr w.heap.size) vs (varsS ts (ts.length + 1) [] s).1 ∧ Dx F ts w w' b l (varsS ts (ts.length + 1) [] s).2 := by
  refine (pavaneref07_reader_vars_wp ⟨b, 0, none⟩ (fun v w' => ∃ vs : Sl, v = vs.v ∧ SlG true rVr 3 73 w' (Fr w.heap.size) vs (varsS ts (ts.length + 1) [] s).1 ∧ Dx F ts w w' b l (varsS ts (ts.length + 1) [] s).2) w ?_).mono (by
    rintro e w' ⟨v, rfl, cs, rfl, h⟩; exact ⟨cs, rfl, h⟩)
  unfold pavaneref07_reader_vars_vc
  generalize hV : varsS ts (ts.length + 1) [] s = V
  have wdv : Wd wVar := ⟨_, _, rfl, by decide⟩
  have hlb := h.lb
  have hsm := h.sm
  refine (yp2 h wdv).mono ?_
  rintro _ w0 ⟨rfl, h0⟩
  refine ⟨_, rfl, fun nv l0 b1 w' => ∃ (acc : List Vr) (u : Sx), b1 = decide (whichS ts u [wVar] ≠ 0) ∧ Dx F ts w w' b l (if whichS ts u [wVar] = 0 then u else nextS u) ∧ Own rVr 3 73 w.heap.size w' (Fr w.heap.size) l0 acc ∧ varsS ts nv acc u = V ∧ mu ts u < nv ∧ acc.length + mu ts u ≤ ts.length ∧ u.i < ts.length ∧ (u.fc = 0 → u.v = 16 - acc.length), ts.length + 1,
    ⟨[], s, rfl, h0, Own.nil _ _ _ _ _ _, hV, Nat.lt_succ_of_le (mu_le _ _), by rw [List.length_nil, Nat.zero_add]; exact mu_le _ _, h.lt, hv⟩, ?_⟩
  rintro nv l0 _ w1 ⟨acc, u, rfl, h1, own1, hR, hf1, hm1, hui, huv⟩
  obtain ⟨m', rfl⟩ : ∃ m', nv = m' + 1 := ⟨nv - 1, by omega⟩
  rw [varsS] at hR
  refine ⟨fun hc => ?_, fun hc => ?_⟩
  · have hc := of_decide_eq_true hc
    rw [if_neg hc] at hR h1
    obtain ⟨hfc, hk5⟩ := which_ne hc
    have huv := huv hfc
    have hmu := var_mu h.en hui hc
    have hvv := var_v (ts := ts) (s := nextS u) h.en
    have hml := mu_le ts u
    have hz1 := h1.o.size
    obtain ⟨ad, g1, g2⟩ := h1.r.now
    obtain ⟨_, _, _, _, hB1, _⟩ := h1.r.blk
    generalize hs0 : nextS u = s0 at *
    have hs0v : s0.v = 16 - acc.length := by rw [← hs0]; exact huv
    have hs0f : s0.fc = 0 := by rw [← hs0]; exact hfc
    have hln := own1.len
    unfold varS at hR hmu hvv
    dsimp only at hR hmu hvv
    generalize hs1 : (if (tk ts s0.i).k = 1 then useV ts s0 else s0) = s1 at *
    refine ⟨fun w' => Dx F ts w1 w' b l s1, fun w2 h2 k2 w3 hk2 hk2' hO3 => ?_, l, Blk.at1 hB1 0 rfl, _, Blk.at1 hB1 1 rfl, ad, g1, _, g2.at1 0 _ rfl, fun hx w16 hO16 => ?_, fun hx w18 hO18 => ?_⟩
    · have hz2 := h2.o.size
      have t3 := h2.r.zt.al hO3 hk2 hk2'
      refine (yname_c t3.r).mono ?_
      rintro _ w4 ⟨rfl, h4⟩
      have t4 := t3.nx h4
      refine ⟨_, _, rfl, t3.sc h4 (by simp), fun w5 hO5 => ?_⟩
      have t5 := t4.f hO5 (by simp)
      refine (ym4 t5.r (x := [61]) ⟨_, _, rfl, by decide⟩).mono ?_
      rintro _ w6 ⟨rfl, h6⟩
      have t6 := t5.nx h6
      refine ⟨rfl, t5.sc h6 (by simp), (yp4 t6.r (x := [45]) ⟨_, _, rfl, by decide⟩).mono ?_⟩
      rintro _ w7 ⟨rfl, h7⟩
      have t7 := t6.nx h7
      generalize hgg : whichS ts (mustS ts (kindS ts s1 1).2 [61]) [[45]] = gg at *
      generalize (if gg = 0 then mustS ts (kindS ts s1 1).2 [61] else nextS (mustS ts (kindS ts s1 1).2 [61])) = u3 at *
      refine ⟨_, rfl, t6.sc h7 (by simp), (yint_c t7.r).mono ?_⟩
      rintro _ w8 ⟨rfl, h8⟩
      have t8 := t7.nx h8
      refine ⟨_, rfl, t7.sc h8 (by simp), fun w9 hO9 => ?_⟩
      have t9 := t8.f hO9 (by simp)
      refine ⟨fun x1 i2 i3 w' => x1 = T (kindS ts s1 1).1.t ∧ i2 = (if gg = 0 then (kindS ts u3 3).1.n else IntKind.wrap .i64 (-(kindS ts u3 3).1.n)) ∧ i3 = (kindS ts s1 1).1.a ∧ Zx F ts w2 w' b l (kindS ts u3 3).2 [k2], ?_, fun hb w15 hO15 => ⟨rfl, ?_, rfl, t9.f hO15 (by simp)⟩, fun hb => ⟨rfl, ?_, rfl, t9⟩⟩
      rotate_left
      · rw [if_neg (of_decide_eq_true hb), Int.zero_sub]
      · have hb : gg = 0 := by simpa using hb
        rw [if_pos hb]
      · rintro _ _ _ w10 ⟨rfl, rfl, rfl, t10⟩
        refine (ym4 t10.r (x := [59]) ⟨_, _, rfl, by decide⟩).mono ?_
        rintro _ w11 ⟨rfl, h11⟩
        have t11 := t10.nx h11
        have hmon := must_on (s := (kindS ts u3 3).2) h.en [59]
        generalize (if gg = 0 then (kindS ts u3 3).1.n else IntKind.wrap .i64 (-(kindS ts u3 3).1.n)) = xn at *
        generalize (kindS ts s1 1).1.t = xt at *
        generalize (kindS ts s1 1).1.a = xa at *
        generalize mustS ts (kindS ts u3 3).2 [59] = u4 at *
        have o21 : Only [b] w1 w11 := h2.o.trans t11.z.o fun x hx => .inl hx
        have own11 := own1.stay rVr_ok o21 fun x hx => .inl (by simp only [List.mem_singleton] at hx; omega)
        have hz11 := o21.size
        obtain ⟨y, w12, e2, hO12, la', w13, e3, hown, ⟨gs, hO13, hgs⟩, _⟩ := app_one (P := Tryz.prog) (t := 40) (ty := 40) (e := 73) (i := Tryz.t73) (bytes := 32) (size := 3) (v := .agg #[.string (T xt), .int .i64 xn, .int .i64 xa]) (x := (⟨xt, xn, xa⟩ : Vr)) (G := fun _ => False) (by kernel_rfl) (by kernel_rfl) rfl rfl rfl rfl (by decide) (by decide) (by decide) rVr_ok own11 (by omega) rfl rfl (fun k hk _ => hk.elim) (by omega)
        have hgs' : ∀ g, g ∈ gs → w.heap.size ≤ g := fun g hg => (hgs g hg).2.1
        have k2l := (t11.z.k k2 (by simp))
        have hgk : ∀ g, g ∈ gs → g ≠ k2 := fun g hg e => by
          subst e
          exact own1.new (by omega) (hgs g hg).1
        have hz12 := hO12.size
        have r13 : Xs F ts w13 b l u4 := (t11.r.only hO12).own hO13 fun x hx => (by have := hgs' x hx; omega)
        have o13 : Only [b] w w13 := ((h1.o.trans o21 fun x hx => .inl hx).tr0 hO12).trans hO13 fun x hx => .inr (hgs' x hx)
        refine ⟨rfl, t10.sc h11 (by simp), y, w12, e2, hO12.same (fun x hx => ⟨by simp only [List.mem_singleton] at hx; subst hx; exact k2l.2, by simp⟩), la', w13, e3, hO13.same (fun x hx => ⟨by simp only [List.mem_singleton] at hx; subst hx; omega, fun hm => ?_⟩), (yp2 r13 wdv).mono ?_⟩
        · simp only [List.mem_singleton] at hx
          subst hx
          exact hgk _ hm rfl
        · rintro _ w14 ⟨rfl, h14⟩
          have z13 := hO13.size
          refine ⟨_, rfl, h14.o.same (fun x hx => ⟨by simp only [List.mem_singleton] at hx; subst hx; omega, by simp only [List.mem_singleton] at hx ⊢; omega⟩), m', Nat.lt_succ_self _, acc ++ [⟨xt, xn, xa⟩], u4, rfl, (⟨o13, r13⟩ : Dx F ts w w13 b l u4).nx h14, ?_, hR, by omega, by rw [List.length_append, List.length_singleton]; omega, r13.lt, fun e => ?_⟩
          · refine (hown.mono rVr_ok fun k hk => ?_).stay rVr_ok h14.o fun x hx => .inl (by simp only [List.mem_singleton] at hx; omega)
            rcases hk with hk | hk
            · exact hk
            · show w.heap.size ≤ k; omega
          · obtain ⟨_, q2, q3⟩ := hvv e
            have : dec s0.v = s0.v - 1 := by unfold dec; rw [wr' (by omega) (by omega)]
            rw [List.length_append, List.length_singleton]
            omega
    · simp only [Bool.and_eq_true, beq_iff_eq] at hx
      have h0 : s0.v = 0 := by omega
      refine (ystop_c (h1.r.only hO16) (c := 2) (by decide)).mono ?_
      rintro _ w17 ⟨rfl, h17⟩
      refine ⟨rfl, (h1.r.dn.q hO16).o.trans h17.o fun x hx => .inl hx, ?_⟩
      rw [← hs1, if_pos hx.1]
      unfold useV
      rw [if_pos h0]
      exact h17.r.vv _
    · refine ⟨(h1.r.dn.q hO18).o, ?_⟩
      rw [← hs1]
      by_cases hk : (tk ts s0.i).k = 1
      · have h0 : s0.v ≠ 0 := fun e => by
          rw [hk] at hx
          have : (l0.n : Int) = 16 := by omega
          rw [this] at hx
          simp at hx
        rw [if_pos hk]
        unfold useV
        rw [if_neg h0]
        exact (h1.r.only hO18).vv _
      · rw [if_neg hk]
        exact h1.r.only hO18
  · have hc : whichS ts u [wVar] = 0 := by simpa using hc
    rw [if_pos hc] at hR h1
    rw [← hR]
    exact ⟨l0, rfl, own1.sl rVr_ok fun k hk => hk, h1⟩
end
end Go.Proofs.YtmanockofcopjaaGreatDoor.Con

namespace Go.Proofs.YtmanockofcopjaaGreatDoor.Con
open Go Go.RowKit Go.Kt Go.Kt.V Go.Proofs.YtmanockofcopjaaGreatDoor.Vc
set_option linter.unusedSimpArgs false
set_option linter.unusedVariables false
set_option maxHeartbeats 4000000

theorem XsP.any {F : Nat → Prop} {ts : List Tk} {w : World} {b : Nat} {l : Sl} {s s' : Sx} {P : Prop} (h : XsP P F ts w b l s) (hi : s'.i = s.i) (hf : s'.fc = s.fc) (ha : s'.fa = s.fa) : XsP False F ts w b l s' := by
  obtain ⟨n, m, a, d, hB, _⟩ := h.blk
  exact ⟨⟨n, m, a, d, by rw [hi, hf, ha]; exact hB, fun _ hP => hP.elim⟩, h.tok, h.hF, h.en, by rw [hi]; exact h.lt, h.sm, h.hg⟩
theorem yparse_c (w : World) (l : List UInt8) : Calls Tryz.prog 18 #[.string (T l)] w fun e w' =>
    ∃ (vs : Sl) (cs : List Value), e = .returned (.tuple #[.agg (vs.v :: cs).toArray, .agg #[.int .i64 (parseC l).2.1, .int .i64 (parseC l).2.2]]) ∧ ChR true 15 w' (Fr w.heap.size) (parseC l).1 vs cs ∧ Only [] w w' := by
  refine (pavaneref07_Parse_wp (T l) (fun v w' => ∃ (vs : Sl) (cs : List Value), v = (.tuple #[.agg (vs.v :: cs).toArray, .agg #[.int .i64 (parseC l).2.1, .int .i64 (parseC l).2.2]]) ∧ ChR true 15 w' (Fr w.heap.size) (parseC l).1 vs cs ∧ Only [] w w') w ?_).mono (by
    rintro e w' ⟨v, rfl, vs, cs, rfl, h⟩; exact ⟨vs, cs, rfl, h⟩)
  unfold pavaneref07_Parse_vc
  generalize hP : parseC l = P
  unfold parseC at hP
  intro k0 k1 w0 hk0 hk0' hk1 hk1' hO0
  have z0 := hO0.size
  refine (rtokens_c w0 l).mono ?_
  rintro _ w1 ⟨rs, rfl, hT, hO1⟩
  have z1 := hO1.size
  have hO01 := hO0.tr0 hO1
  have tOk := tokensM_ok (l := l)
  refine ⟨rs, _, _, rfl, hO1.same (by simp; omega), fun hc k2 w2 hk2 hk2' hO2 n1 n2 n3 => ⟨fun k => k = k2, rfl, fun e => n2 e, fun e => n3 e, fun w3 hO3 => ?_⟩, fun hc k3 k4 w4 hk3 hk3' hk4 hk4' hO4 hB4 n34 => ?_⟩
  · have hc : (tokensM l).2.1 ≠ 0 := by simpa using hc
    rw [if_pos hc] at hP
    subst hP
    exact ⟨Sl.nil, _, rfl, ch0_r _ _, (hO01.tr0 hO2).trans hO3 fun x hx => .inr (by simp only [List.mem_cons, List.not_mem_nil, or_false] at hx; omega)⟩
  have hc : (tokensM l).2.1 = 0 := by simpa using hc
  obtain ⟨hEn, hgd, hlen0, hlen⟩ := tOk hc
  rw [if_neg (by simpa using hc)] at hP
  have htok := ((hT.sl.inHeap rTk_ok (by decide)).mono rTk_ok (G := fun k => w0.heap.size ≤ k ∧ k < w1.heap.size) fun k hk => ⟨hk.1.1, hk.2⟩)
  generalize (tokensM l).1 = ts at *
  clear tOk hT
  have z4 := hO4.size
  have r4 : Xs (fun k => w0.heap.size ≤ k ∧ k < w1.heap.size) ts w4 k4 rs sx0 := ⟨⟨0, 0, 0, 0, hB4, fun _ _ => ⟨rfl, rfl, rfl, rfl, by decide, by decide, by decide, by decide⟩⟩, SliceF.only rTk_ok (by decide) htok hO4 (by simp), fun k hk => by have := hk.2; omega, hEn, hlen0, by omega, hgd⟩
  generalize (fun k => w0.heap.size ≤ k ∧ k < w1.heap.size) = F at *
  have w4w : Only [] w w4 := hO01.tr0 hO4
  have hb4 := r4.lb
  have sm : ∀ {u u' : World} {bs : List Nat}, w4.heap.size ≤ u.heap.size → Only [k4] u u' → (∀ x, x ∈ bs → x = k0 ∨ x = k1 ∨ x = k3 ∨ (w4.heap.size ≤ x ∧ x < u.heap.size)) → Same bs u u' := fun hz o hb => o.same fun x hx => by
    have := hb x hx
    simp only [List.mem_singleton]
    omega
  have oD : ∀ {u u' : World}, Only [] w u → Only [k4] u u' → Only [] w u' := fun o d => o.trans d fun x hx => .inr (by simp only [List.mem_singleton] at hx; omega)
  refine (ym2 r4 (x := wChart) ⟨_, _, rfl, by decide⟩).mono ?_
  rintro _ w5 ⟨rfl, h5⟩
  have z5 := h5.o.size
  have hC : chartS ts = (⟨(varsS ts (ts.length + 1) [] (mustS ts (namedS ts 1 (mustS ts sx0 wChart)).2 [123])).1, (bodyS ts (nodeS ts 14) (namedS ts 1 (mustS ts sx0 wChart)).1 (varsS ts (ts.length + 1) [] (mustS ts (namedS ts 1 (mustS ts sx0 wChart)).2 [123])).2).1⟩, endS ts (bodyS ts (nodeS ts 14) (namedS ts 1 (mustS ts sx0 wChart)).1 (varsS ts (ts.length + 1) [] (mustS ts (namedS ts 1 (mustS ts sx0 wChart)).2 [123])).2).2) := rfl
  have on5 : On ts sx0 (mustS ts sx0 wChart) := must_on hEn _
  have v5 : (mustS ts sx0 wChart).v = 16 := must_v _
  generalize mustS ts sx0 wChart = u0 at *
  obtain ⟨_, _, _, _, hB5, _⟩ := h5.r.blk
  refine ⟨rfl, sm (Nat.le_refl _) h5.o (by simp), rs, _, _, _, _, _, _, _, hB5, fun k5 w6 hk5 hk5' hO6 hB6 => ?_⟩
  have z6 := hO6.size
  refine (ynamed_c (h5.r.only hO6) 1).mono ?_
  rintro _ w7 ⟨rfl, h7⟩
  have z7 := h7.o.size
  have hnb : (namedS ts 1 u0).1.ini = [] ∧ (namedS ts 1 u0).1.dft = [] ∧ (namedS ts 1 u0).1.en = [] ∧ (namedS ts 1 u0).1.lv = [] ∧ (namedS ts 1 u0).1.mv = [] ∧ (namedS ts 1 u0).1.k = 1 := ⟨rfl, rfl, rfl, rfl, rfl, rfl⟩
  have on7 : On ts sx0 (namedS ts 1 u0).2 := on5.trans (named_on hEn _ _)
  have v7 : (namedS ts 1 u0).2.v = 16 := by
    unfold namedS
    dsimp only
    rw [kind_v]
    have e : ∀ s : Sx, (roomS ts s).v = s.v := fun s => by
      unfold roomS
      split
      · split
        · rw [stop_v]; unfold useN; split <;> simp only [stop_v]
        · unfold useN; split <;> simp only [stop_v]
      · rfl
    rw [e]; exact v5
  generalize namedS ts 1 u0 = N at *
  obtain ⟨⟨nk, nnm, nini, ndft, nen, nlv, nmv, na⟩, u1⟩ := N
  dsimp only at *
  obtain ⟨i1, i2, i3, i4, i5, i6⟩ := hnb
  subst i1 i2 i3 i4 i5 i6
  obtain ⟨_, _, _, _, hB7, _⟩ := h7.r.blk
  refine ⟨_, _, _, _, Sl.nil, Sl.nil, Sl.nil, Sl.nil, _, rfl, sm (by omega) h7.o (fun x hx => by simp only [List.mem_cons, List.not_mem_nil, or_false] at hx; omega), rs, _, _, _, _, _, _, _, hB7, fun k6 w8 hk6 hk6' hO8 hB8 => ?_⟩
  have z8 := hO8.size
  refine (ym4 (h7.r.only hO8) (x := [123]) ⟨_, _, rfl, by decide⟩).mono ?_
  rintro _ w9 ⟨rfl, h9⟩
  have z9 := h9.o.size
  have on9 : On ts sx0 (mustS ts u1 [123]) := on7.trans (must_on hEn _)
  have v9 : (mustS ts u1 [123]).v = 16 := (must_v _).trans v7
  generalize mustS ts u1 [123] = u2 at *
  obtain ⟨_, _, _, _, hB9, _⟩ := h9.r.blk
  have w9w : Only [] w w9 := oD ((oD ((oD w4w h5.o).tr0 hO6) h7.o).tr0 hO8) h9.o
  refine ⟨rfl, sm (by omega) h9.o (fun x hx => by simp only [List.mem_cons, List.not_mem_nil, or_false] at hx; omega), rs, _, _, _, _, _, _, _, hB9, (yvars_c h9.r fun _ => v9).mono ?_⟩
  rintro _ w10 ⟨vs, rfl, hvs, h10⟩
  have z10 := h10.o.size
  have on10 : On ts sx0 (varsS ts (ts.length + 1) [] u2).2 := on9.trans (vars_on hEn _ _ _)
  generalize varsS ts (ts.length + 1) [] u2 = V at *
  obtain ⟨acc, u3⟩ := V
  dsimp only at *
  obtain ⟨n3, m3, a3, d3, hB10, hcn3⟩ := h10.r.blk
  have hud : u3.d = 12 := on10.d
  refine ⟨vs, rfl, sm (by omega) h10.o (fun x hx => by simp only [List.mem_cons, List.not_mem_nil, or_false] at hx; omega), rs, _, _, _, _, _, _, _, hB10, fun w11 hO11 hB11 m0 m1 m3' m5 m6 => ?_⟩
  have z11 := hO11.size
  have r11 : Xs F ts w11 k4 rs { u3 with d := dec u3.d } := by
    have hF := h10.r.hF
    refine ⟨⟨n3, m3, a3, _, hB11, fun e hP => ?_⟩, SliceF.only rTk_ok (by decide) h10.r.tok hO11 fun k hk _ hm => (by have := hF k hk; simp only [List.mem_cons, List.not_mem_nil, or_false] at hm; omega), hF, h10.r.en, h10.r.lt, h10.r.sm, h10.r.hg⟩
    have hc := hcn3 e hP
    have e1 := hc.d
    have e2 : dec u3.d = 11 := by rw [hud]; rfl
    have e3 : IntKind.i64.wrap (d3 + 1) = 1 := by rw [e1, hud]; rfl
    rw [e3]
    exact ⟨hc.n, hc.m, hc.a, by dsimp only; omega, hc.n0, hc.m0, hc.a0, by dsimp only; omega⟩
  have w11w : Only [] w w11 := (oD w9w h10.o).trans hO11 fun x hx => .inr (by simp only [List.mem_cons, List.not_mem_nil, or_false] at hx; omega)
  have hvs11 := hvs.stay rVr_ok (by decide) (Stay.of hO11 fun x hx => .inl (by simp only [List.mem_cons, List.not_mem_nil, or_false] at hx; omega))
  refine (ybody_c (f := 14) r11 (n := ⟨1, nnm, [], [], [], [], [], na⟩) rfl rfl rfl (wrapIn _) (fun _ => by
    show NodeX F ts k4 rs 14 (dec u3.d)
    rw [hud]
    exact ynode_c 14 11 (by decide) (by decide) (by decide))).mono ?_
  have hbS : bodyS ts (nodeS ts 14) ⟨1, nnm, [], [], [], [], [], na⟩ u3 = (.mk (clausesS ts (ts.length + 1) ⟨1, nnm, [], [], [], [], [], na⟩ ⟨false, false, false⟩ { u3 with d := dec u3.d }).1 (kidsS ts (nodeS ts 14) (ts.length + 1) [] (clausesS ts (ts.length + 1) ⟨1, nnm, [], [], [], [], [], na⟩ ⟨false, false, false⟩ { u3 with d := dec u3.d }).2).1, mustS ts { (kidsS ts (nodeS ts 14) (ts.length + 1) [] (clausesS ts (ts.length + 1) ⟨1, nnm, [], [], [], [], [], na⟩ ⟨false, false, false⟩ { u3 with d := dec u3.d }).2).2 with d := inc (kidsS ts (nodeS ts 14) (ts.length + 1) [] (clausesS ts (ts.length + 1) ⟨1, nnm, [], [], [], [], [], na⟩ ⟨false, false, false⟩ { u3 with d := dec u3.d }).2).2.d } [125]) := rfl
  rw [hbS] at hC
  clear hbS
  generalize clausesS ts (ts.length + 1) ⟨1, nnm, [], [], [], [], [], na⟩ ⟨false, false, false⟩ { u3 with d := dec u3.d } = C at *
  generalize kidsS ts (nodeS ts 14) (ts.length + 1) [] C.2 = K at *
  dsimp only at hC
  rintro _ w12 ⟨cs, rfl, hx, h12⟩
  have z12 := h12.o.size
  have hx' := hx
  obtain ⟨xe, xl, xm, xk, rfl, _⟩ := hx'
  obtain ⟨_, _, _, _, hB12, _⟩ := h12.r.blk
  have c12 : ChR true 15 w12 (Fr w9.heap.size) ⟨acc, .mk C.1 K.1⟩ vs _ := ⟨hvs11.stay rVr_ok (by decide) (Stay.of h12.o fun x hx => .inl (by simp only [List.mem_singleton] at hx; omega)), (rNd_ok true 15).low hx (by omega)⟩
  refine ⟨_, _, _, _, xe, xl, xm, xk, _, rfl, sm (by omega) h12.o (fun x hx => by simp only [List.mem_cons, List.not_mem_nil, or_false] at hx; omega), rs, _, _, _, _, _, _, _, hB12, fun w13 hO13 hB13 => ?_⟩
  have z13 := hO13.size
  have r13 : XsP False F ts w13 k4 rs { K.2 with d := inc K.2.d } := (h12.r.one hO13 (by omega)).any rfl rfl rfl
  have c13 := c12.stay (Stay.of hO13 fun x hx => .inl (by simp only [List.mem_singleton] at hx; omega))
  have w13w : Only [] w w13 := (oD w11w h12.o).trans hO13 fun x hx => .inr (by simp only [List.mem_singleton] at hx; omega)
  refine (ym4 r13 (x := [125]) ⟨_, _, rfl, by decide⟩).mono ?_
  rintro _ w14 ⟨rfl, h14⟩
  have z14 := h14.o.size
  have c14 := c13.stay (Stay.of h14.o fun x hx => .inl (by simp only [List.mem_singleton] at hx; omega))
  have w14w := oD w13w h14.o
  generalize mustS ts { K.2 with d := inc K.2.d } [125] = s1 at *
  have r14 := h14.r
  obtain ⟨n5, m5', a5, d5, hB14, _⟩ := h14.r.blk
  obtain ⟨ad, g1, g2⟩ := r14.now
  refine ⟨rfl, sm (by omega) h14.o (fun x hx => by simp only [List.mem_cons, List.not_mem_nil, or_false] at hx; omega), rs, _, _, _, _, _, _, _, hB14, fun l16 i48 i49 i50 i51 i52 i53 i54 w' => i53 = (endS ts s1).fc ∧ i54 = (endS ts s1).fa ∧ w14.heap.size ≤ w'.heap.size ∧ Only [] w w' ∧ ChR true 15 w' (Fr w9.heap.size) ⟨acc, .mk C.1 K.1⟩ vs (ndv C.1.k C.1.nm C.1.ini C.1.dft xe xl xm xk C.1.a), ?_, ad, fun _ => g1, _, fun _ => g2.at1 0 _ rfl, fun hb w19 hO19 hB19 => ?_, fun hb w21 hO21 hB21 => ?_⟩
  · rintro l16 i48 i49 i50 i51 i52 i53 i54 w15 ⟨rfl, rfl, z15, w15w, c15⟩
    rw [hC] at hP
    dsimp only at hP
    refine ⟨fun hf w16 hO16 _ p01 p03 p04 p05 p06 p13 p14 p15 p16 p34 p35 p36 p45 p46 p56 => ⟨fun k => k = k4, rfl, fun e => p04 e, fun e => p14 e, fun w17 hO17 _ => ?_⟩, fun hf w18 hO18 _ => ?_⟩
    · have hf : (endS ts s1).fc ≠ 0 := by simpa using hf
      rw [if_pos hf] at hP
      subst hP
      exact ⟨Sl.nil, _, rfl, ch0_r _ _, (w15w.tr0 hO16).trans hO17 fun x hx => .inr (by simp only [List.mem_cons, List.not_mem_nil, or_false] at hx; omega)⟩
    · have hf : ¬ (endS ts s1).fc ≠ 0 := by simpa using hf
      rw [if_neg hf] at hP
      subst hP
      exact ⟨vs, _, rfl, (c15.stay (Stay.of hO18 fun x hx => .inl (by simp only [List.mem_cons, List.not_mem_nil, or_false] at hx; omega))).low w9w.size, w15w.trans hO18 fun x hx => .inr (by simp only [List.mem_cons, List.not_mem_nil, or_false] at hx; omega)⟩
  · have z19 := hO19.size
    refine (ywrong_c (r14.only hO19)).mono ?_
    rintro _ w20 ⟨rfl, h20⟩
    have z20 := h20.o.size
    obtain ⟨_, _, _, _, hB20, _⟩ := h20.r.blk
    have hb : s1.fc = 0 ∧ (tk ts s1.i).k ≠ 5 := by simpa using hb
    have e : endS ts s1 = wrongS ts s1 := by unfold endS; rw [if_pos hb]
    refine ⟨rfl, sm (by omega) h20.o (fun x hx => by simp only [List.mem_cons, List.not_mem_nil, or_false] at hx; omega), rs, _, _, _, _, _, _, _, hB20, by rw [e], by rw [e], by omega, oD (w14w.tr0 hO19) h20.o, (c14.stay (Stay.of hO19 fun x hx => (by cases hx))).stay (Stay.of h20.o fun x hx => .inl (by simp only [List.mem_singleton] at hx; omega))⟩
  · have z21 := hO21.size
    have e : endS ts s1 = s1 := by
      unfold endS
      rw [if_neg]
      rintro ⟨f1, f2⟩
      rw [f1] at hb
      simp [f2] at hb
    exact ⟨by rw [e], by rw [e], z21, w14w.tr0 hO21, c14.stay (Stay.of hO21 fun x hx => (by cases hx))⟩
end Go.Proofs.YtmanockofcopjaaGreatDoor.Con
