/-
  Own work: the document's answer for scan: what its functions do, each once.
-/
import Derived.Test.YtdlcmgbidoabmaaGreatDoorCon4
namespace Go.Proofs.YtdlcmgbidoabmaaGreatDoor.Con
open Go Go.RowKit Go.Kt Go.Kt.V Go.Proofs.YtdlcmgbidoabmaaGreatDoor.Vc
set_option linter.unusedSimpArgs false
set_option linter.unusedVariables false
set_option maxHeartbeats 4000000

theorem rletter_c (w : World) (c : UInt8) : Calls Tryz.prog 79 #[.int .u8 (c.toNat : Int)] w fun e w' => e = .returned (.bool (letterB c)) ∧ Only [] w w' := by
  refine ret (pavaneref04_letter_wp _ (fun v w' => v = .bool (letterB c) ∧ Only [] w w') w ?_)
  unfold pavaneref04_letter_vc
  refine ⟨?_, Only.refl _ _⟩
  congr 1
  rw [Bool.eq_iff_iff]
  simp only [letterB, Bool.and_eq_true, Bool.or_eq_true, decide_eq_true_eq, beq_iff_eq]
  omega
theorem rdigit_c (w : World) (c : UInt8) : Calls Tryz.prog 80 #[.int .u8 (c.toNat : Int)] w fun e w' => e = .returned (.bool (digitB c)) ∧ Only [] w w' := by
  refine ret (pavaneref04_digit_wp _ (fun v w' => v = .bool (digitB c) ∧ Only [] w w') w ?_)
  unfold pavaneref04_digit_vc
  refine ⟨?_, Only.refl _ _⟩
  congr 1
  rw [Bool.eq_iff_iff]
  simp only [digitB, Bool.and_eq_true, decide_eq_true_eq]
  omega
theorem rwords_c (w : World) : Calls Tryz.prog 99 #[] w fun e w' => ∃ s : Sl, e = .returned s.v ∧ Own rTx 1 9 w.heap.size w' (fun _ => True) s wordsL ∧ Only [] w w' := by
  refine (pavaneref04_Words_wp (fun v w' => ∃ s : Sl, v = s.v ∧ Own rTx 1 9 w.heap.size w' (fun _ => True) s wordsL ∧ Only [] w w') w ?_).mono (by
    rintro e w' ⟨v, rfl, s, rfl, h⟩; exact ⟨s, rfl, h⟩)
  unfold pavaneref04_Words_vc
  obtain ⟨s, w', h1, h2, h3⟩ := buildS w wordsL (n := 16) rfl rfl (by decide) (by decide)
  exact ⟨s, w', h1, s, rfl, h2, h3⟩
theorem rword_c (w : World) (m : List UInt8) : Calls Tryz.prog 82 #[.string (T m)] w fun e w' => e = .returned (.bool (wordsL.contains m)) ∧ Only [] w w' := by
  refine ret (pavaneref04_Word_wp _ (fun v w' => v = .bool (wordsL.contains m) ∧ Only [] w w') w ?_)
  unfold pavaneref04_Word_vc
  refine (rwords_c w).mono ?_
  rintro _ w0 ⟨s, rfl, hs, hO0⟩
  have h := flatS hs
  generalize wordsL = l at *
  have hlen := h.len
  have hbig := h.big
  have hcap := h.cap
  refine ⟨s, rfl, fun nv i w' => ∃ n : Nat, n ≤ l.length ∧ i = (n : Int) ∧ nv = l.length - n ∧ (∀ x, x ∈ l.take n → x ≠ m) ∧ w' = w0, l.length, ⟨0, Nat.zero_le _, rfl, rfl, by simp, rfl⟩, ?_⟩
  rintro nv _ _ ⟨n, hn, rfl, rfl, hp, rfl⟩
  refine ⟨fun hc => ?_, fun hc => ?_⟩
  · have hlt : (n : Int) < s.n := of_decide_eq_true hc
    obtain ⟨ad, x, cs, g1, g2, g3, g4, g5, g6⟩ := h.get (Int.natCast_nonneg n) hlt
    rw [Int.toNat_natCast] at g2
    unfold rTx at g6
    subst g6
    refine ⟨ad, g1, _, g5, ?_⟩
    rw [T_eq]
    refine ⟨fun he => ⟨?_, hO0⟩, fun he => ⟨l.length - (n + 1), by omega, n + 1, by omega, by rw [wr' (by omega) (by omega)]; rfl, rfl, ?_, rfl⟩⟩
    · have he : x = m := of_decide_eq_true he
      congr 1
      symm
      rw [List.contains_iff_mem, ← he]
      exact List.mem_of_getElem? g2
    · intro y hy
      rw [List.take_add_one, g2] at hy
      simp only [Option.toList_some, List.mem_append, List.mem_singleton] at hy
      rcases hy with hy | rfl
      · exact hp y hy
      · exact of_decide_eq_false he
  · have hge : ¬ ((n : Int) < s.n) := of_decide_eq_false hc
    rw [List.take_of_length_le (by omega)] at hp
    refine ⟨?_, hO0⟩
    congr 1
    symm
    rw [Bool.eq_false_iff]
    intro hh
    exact hp m (List.contains_iff_mem.1 hh) rfl
theorem rrow_c (w : World) (l : List UInt8) (i : Nat) (hi : i ≤ l.length) (hl : l.length < 4611686018427387903) :
    Calls Tryz.prog 81 #[.string (T l), .int .i64 (i : Int)] w fun e w' => e = .returned (.int .i64 (((l.drop i).takeWhile wordB).length : Int)) ∧ Only [] w w' := by
  refine ret (pavaneref04_row_wp (T l) i (fun v w' => v = .int .i64 (((l.drop i).takeWhile wordB).length : Int) ∧ Only [] w w') w ?_)
  unfold pavaneref04_row_vc
  rw [T_size]
  have hdl : (l.drop i).length = l.length - i := List.length_drop
  refine ⟨fun k w' => k = (((l.drop i).takeWhile wordB).length : Int) ∧ Only [] w w', fun k w' h => ⟨by rw [h.1], h.2⟩, fun nv k w' => ∃ n : Nat, i + n ≤ l.length ∧ k = (n : Int) ∧ nv = l.length - (i + n) ∧ (∀ x, x ∈ (l.drop i).take n → wordB x = true) ∧ Only [] w w', l.length - i, ⟨0, hi, rfl, rfl, by simp, Only.refl _ _⟩, ?_⟩
  rintro nv _ w1 ⟨n, hn, rfl, rfl, hp, hO1⟩
  rw [wr' (x := (i : Int) + n) (by omega) (by omega)]
  have ein : (i : Int) + n = ((i + n : Nat) : Int) := by omega
  rw [ein]
  refine ⟨fun hc => ?_, fun hc => ⟨?_, hO1⟩⟩
  · have hlt : i + n < l.length := by have := of_decide_eq_true hc; omega
    have hx : l[i + n]? = some l[i + n] := List.getElem?_eq_getElem hlt
    generalize l[i + n] = x at hx
    have hx' : (l.drop i)[n]? = some x := by rw [List.getElem?_drop, hx]
    have hg : (T l)[Int.toNat ((i + n : Nat) : Int)]? = some x := by rw [T_get, Int.toNat_natCast, hx]
    refine ⟨x, ⟨Int.natCast_nonneg _, hg⟩, (rletter_c w1 x).mono ?_⟩
    rintro _ w2 ⟨rfl, hO2⟩
    refine ⟨_, rfl, x, ⟨Int.natCast_nonneg _, hg⟩, (rdigit_c w2 x).mono ?_⟩
    rintro _ w3 ⟨rfl, hO3⟩
    have hO := hO1.tr0 (hO2.tr0 hO3)
    have e : ((!letterB x) && (!digitB x)) = !wordB x := by unfold wordB; rw [Bool.not_or]
    refine ⟨_, rfl, ?_⟩
    rw [e]
    refine ⟨fun hw => ⟨?_, hO⟩, fun hw => ⟨l.length - (i + (n + 1)), by omega, n + 1, by omega, by rw [wr' (by omega) (by omega)]; rfl, rfl, fun y hy => ?_, hO⟩⟩
    · rw [take_while (by omega) hp fun y hy => by
        rw [hx'] at hy
        injection hy with hy
        subst hy
        simpa using hw]
      rw [List.length_take]
      omega
    · rw [List.take_add_one, hx'] at hy
      simp only [Option.toList_some, List.mem_append, List.mem_singleton] at hy
      rcases hy with hy | rfl
      · exact hp y hy
      · simpa using hw
  · have hge : l.length ≤ i + n := by have := of_decide_eq_false hc; omega
    rw [take_while (by omega) hp fun y hy => by
      have := (List.getElem?_eq_some_iff.1 hy).1
      omega]
    rw [List.length_take]
    omega
theorem blank_or (c : UInt8) : (((((c.toNat : Int) == 9) || ((c.toNat : Int) == 10)) || ((c.toNat : Int) == 13)) || ((c.toNat : Int) == 32)) = blankB c := by
  have h9 : ((c.toNat : Int) == 9) = (c == 9) := u8i (d := 9)
  have h10 : ((c.toNat : Int) == 10) = (c == 10) := u8i (d := 10)
  have h13 : ((c.toNat : Int) == 13) = (c == 13) := u8i (d := 13)
  have h32 : ((c.toNat : Int) == 32) = (c == 32) := u8i (d := 32)
  rw [h9, h10, h13, h32, Bool.eq_iff_iff]
  simp [blankB, or_assoc]
theorem rblanks_c (w : World) (l : List UInt8) (i : Nat) (hi : i ≤ l.length) (hl : l.length < 4611686018427387903) :
    Calls Tryz.prog 40 #[.string (T l), .int .i64 (i : Int)] w fun e w' => e = .returned (.int .i64 ((i + skN false (l.drop i) : Nat) : Int)) ∧ Only [] w w' := by
  refine ret (pavaneref04_blanks_wp (T l) i (fun v w' => v = .int .i64 ((i + skN false (l.drop i) : Nat) : Int) ∧ Only [] w w') w ?_)
  unfold pavaneref04_blanks_vc
  rw [T_size]
  refine ⟨fun k w' => k = ((i + skN false (l.drop i) : Nat) : Int) ∧ w' = w, fun k w' h => ⟨by rw [h.1], by rw [h.2]; exact Only.refl _ _⟩, fun nv k w' => ∃ j : Nat, j ≤ l.length ∧ k = (j : Int) ∧ nv = l.length - j ∧ i + skN false (l.drop i) = j + skN false (l.drop j) ∧ w' = w, l.length - i, ⟨i, hi, rfl, rfl, rfl, rfl⟩, ?_⟩
  rintro nv _ u ⟨j, hj, rfl, rfl, hjs, hu⟩
  subst hu
  refine ⟨fun hc => ?_, fun hc => ⟨?_, rfl⟩⟩
  · have hlt : j < l.length := by have := of_decide_eq_true hc; omega
    have hx : l[j]? = some l[j] := List.getElem?_eq_getElem hlt
    generalize l[j] = x at hx
    have hd := drop_cons hx
    have e47 : ((x.toNat : Int) == 47) = (x == 47) := u8i (d := 47)
    rw [wr' (x := (j : Int) + 1) (by omega) (by omega)]
    -- the next byte, if there is one
    obtain ⟨y, hy⟩ : ∃ y : UInt8, j + 1 < l.length → l[j + 1]? = some y := by
      by_cases h : j + 1 < l.length
      · exact ⟨l[j + 1], fun _ => List.getElem?_eq_getElem h⟩
      · exact ⟨0, fun h' => absurd h' h⟩
    have e2 : ((y.toNat : Int) == 47) = (y == 47) := u8i (d := 47)
    refine ⟨x, ⟨Int.natCast_nonneg j, by rw [T_get, Int.toNat_natCast, hx]⟩, y, fun h => ⟨by omega, ?_⟩, ?_⟩
    · rw [Bool.and_eq_true] at h
      have := of_decide_eq_true h.2
      rw [show (j : Int) + 1 = ((j + 1 : Nat) : Int) by omega, T_get, Int.toNat_natCast]
      exact hy (by omega)
    rw [e47, e2, blank_or]
    refine ⟨fun hs => ?_, fun hs => ⟨fun hb => ⟨l.length - (j + 1), by omega, j + 1, by omega, rfl, rfl, ?_, rfl⟩, fun hb => ⟨?_, rfl⟩⟩⟩
    · simp only [Bool.and_eq_true, decide_eq_true_eq, beq_iff_eq] at hs
      obtain ⟨⟨rfl, h1⟩, rfl⟩ := hs
      have h1 : j + 1 < l.length := by omega
      have hd2 := drop_cons (hy h1)
      have ht : (l.drop j).take 2 = [47, 47] := by rw [hd, hd2]; rfl
      have hk := skN_slash ht
      have hdl : (l.drop j).length = l.length - j := List.length_drop
      refine ⟨fun nv k w' => ∃ n : Nat, j + n ≤ l.length ∧ k = ((j + n : Nat) : Int) ∧ nv = l.length - (j + n) ∧ (∀ x, x ∈ (l.drop j).take n → (x != 10) = true) ∧ w' = u, l.length - j, ⟨0, hj, rfl, rfl, by simp, rfl⟩, ?_⟩
      rintro nv _ _ ⟨n, hn, rfl, rfl, hp, rfl⟩
      obtain ⟨z, hz⟩ : ∃ z : UInt8, j + n < l.length → l[j + n]? = some z := by
        by_cases h : j + n < l.length
        · exact ⟨l[j + n], fun _ => List.getElem?_eq_getElem h⟩
        · exact ⟨0, fun h' => absurd h' h⟩
      have e10 : ((z.toNat : Int) != 10) = (z != 10) := by
        have : ((z.toNat : Int) == 10) = (z == 10) := u8i (d := 10)
        unfold bne
        rw [this]
      refine ⟨z, fun h => ⟨Int.natCast_nonneg _, by rw [T_get, Int.toNat_natCast]; exact hz (by have := of_decide_eq_true h; omega)⟩, ?_⟩
      rw [e10]
      refine ⟨fun h => ?_, fun h => ?_⟩
      · rw [Bool.and_eq_true] at h
        have h1 := of_decide_eq_true h.1
        have hzz : (l.drop j)[n]? = some z := by rw [List.getElem?_drop]; exact hz (by omega)
        refine ⟨l.length - (j + (n + 1)), by omega, n + 1, by omega, by rw [wr' (by omega) (by omega)]; omega, rfl, fun q hq => ?_, rfl⟩
        rw [List.take_add_one, hzz] at hq
        simp only [Option.toList_some, List.mem_append, List.mem_singleton] at hq
        rcases hq with hq | rfl
        · exact hp q hq
        · exact h.2
      · have hw : (l.drop j).takeWhile (· != 10) = (l.drop j).take n := take_while (by omega) hp fun q hq => by
          have h1 := (List.getElem?_eq_some_iff.1 hq).1
          rw [List.getElem?_drop, hz (by omega)] at hq
          injection hq with hq
          subst hq
          rw [decide_eq_true (by omega), Bool.true_and] at h
          exact h
        have hwl : ((l.drop j).takeWhile (· != 10)).length = n := by rw [hw, List.length_take]; omega
        have hpos : 0 < n := by
          rw [← hwl, hd, List.takeWhile_cons, if_pos (by decide), List.length_cons]
          omega
        rw [hwl, List.drop_drop] at hk
        exact ⟨l.length - (j + n), by omega, j + n, hn, rfl, rfl, by rw [hjs, hk]; omega, rfl⟩
    · rw [hjs, hd, skN, if_pos hb]; omega
    · have hz : skN false (l.drop j) = 0 := by
        rw [hd, skN, if_neg (by rw [hb]; decide), if_neg]
        intro hh
        simp only [Bool.and_eq_true, beq_iff_eq] at hh
        obtain ⟨rfl, hh⟩ := hh
        have h1 : j + 1 < l.length := by
          cases hr : l.drop (j + 1) with
          | nil => rw [hr] at hh; simp at hh
          | cons a b =>
            have := congrArg List.length hr
            rw [List.length_drop, List.length_cons] at this
            omega
        rw [drop_cons (hy h1)] at hh
        simp only [List.head?_cons, Option.some.injEq] at hh
        subst hh
        rw [decide_eq_true (by omega)] at hs
        simp at hs
      rw [hjs, hz]; rfl
  · have hge : l.length ≤ j := by have := of_decide_eq_false hc; omega
    rw [hjs, List.drop_of_length_le hge]; rfl
end Go.Proofs.YtdlcmgbidoabmaaGreatDoor.Con
