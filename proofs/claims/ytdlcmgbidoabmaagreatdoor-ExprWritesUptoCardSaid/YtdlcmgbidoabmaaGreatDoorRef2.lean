/-
  Own work: the document's answer for scan: signs, numbers, tokens, names.
-/
import Derived.Test.YtdlcmgbidoabmaaGreatDoorRef
namespace Go.Proofs.YtdlcmgbidoabmaaGreatDoor.Con
open Go Go.RowKit Go.Kt Go.Kt.V Go.Proofs.YtdlcmgbidoabmaaGreatDoor.Vc
set_option linter.unusedSimpArgs false
set_option linter.unusedVariables false
set_option maxHeartbeats 4000000

def longL : List (List UInt8) := [[45, 62], [60, 61], [62, 61], [61, 61], [33, 61], [38, 38], [124, 124]]
theorem sign2_long {c d : UInt8} {r : List UInt8} : sign2 (c :: d :: r) = longL.contains [c, d] := by
  rw [Bool.eq_iff_iff]
  simp [sign2, longL]
  constructor
  · rintro ((⟨rfl, h⟩ | ⟨rfl, h⟩) | ⟨rfl, rfl⟩)
    · rcases h with rfl | rfl | rfl | rfl <;> simp
    · rcases h with rfl | rfl <;> simp
    · simp
  · rintro (⟨rfl, rfl⟩ | ⟨rfl, rfl⟩ | ⟨rfl, rfl⟩ | ⟨rfl, rfl⟩ | ⟨rfl, rfl⟩ | ⟨rfl, rfl⟩ | ⟨rfl, rfl⟩) <;> simp
theorem signN_two {m : List UInt8} (h : sign2 m = true) : signN m = 2 := by unfold signN; rw [if_pos h]
theorem signN_one {c : UInt8} {r : List UInt8} (h : sign2 (c :: r) = false) : signN (c :: r) = if shortL.contains c then 1 else 0 := by
  unfold signN
  rw [if_neg (by rw [h]; decide)]
theorem rsign_c (w : World) (l : List UInt8) (i : Nat) (hi : i < l.length) (hl : l.length < 4611686018427387903) :
    Calls Tryz.prog 84 #[.string (T l), .int .i64 (i : Int)] w fun e w' => e = .returned (.int .i64 (signN (l.drop i) : Int)) ∧ Only [] w w' := by
  refine ret (pavaneref04_sign_wp (T l) i (fun v w' => v = .int .i64 (signN (l.drop i) : Int) ∧ Only [] w w') w ?_)
  unfold pavaneref04_sign_vc
  rw [T_size]
  obtain ⟨s, w0, k1, k2, hO0⟩ := buildS w longL (n := 7) (parts := #[(0, .string (ByteArray.mk #[45, 62])), (1, .string (ByteArray.mk #[60, 61])), (2, .string (ByteArray.mk #[62, 61])), (3, .string (ByteArray.mk #[61, 61])), (4, .string (ByteArray.mk #[33, 61])), (5, .string (ByteArray.mk #[38, 38])), (6, .string (ByteArray.mk #[124, 124]))]) rfl rfl (by decide) (by decide)
  have hs := flatS k2
  have hx : l[i]? = some l[i] := List.getElem?_eq_getElem hi
  generalize l[i] = c at hx
  have hd := drop_cons hx
  have hdl : (l.drop i).length = l.length - i := List.length_drop
  have hlen := hs.len
  rw [wr' (x := (i : Int) + 2) (by omega) (by omega)]
  refine ⟨s, w0, k1, fun nv k w' => ∃ n : Nat, n ≤ longL.length ∧ k = (n : Int) ∧ nv = longL.length - n ∧ (2 ≤ (l.drop i).length → ∀ x, x ∈ longL.take n → x ≠ (l.drop i).take 2) ∧ Only [] w0 w', longL.length, ⟨0, Nat.zero_le _, rfl, rfl, by simp, Only.refl _ _⟩, ?_⟩
  rintro nv _ w1 ⟨n, hn, rfl, rfl, hp, hO1⟩
  refine ⟨fun hc => ?_, fun hc => ?_⟩
  · have hlt : (n : Int) < s.n := of_decide_eq_true hc
    obtain ⟨ad, x, cs, g1, g2, g3, g4, g5, g6⟩ := (SliceF.only rTx_ok (by decide) hs hO1 (by simp)).get (Int.natCast_nonneg n) hlt
    rw [Int.toNat_natCast] at g2
    unfold rTx at g6
    subst g6
    have hn7 : longL.length = 7 := rfl
    refine ⟨i, i + 2, fun h => ⟨rfl, by omega, by omega, by have := of_decide_eq_true h; omega⟩, ad, fun _ => g1, _, fun _ => g5, ?_⟩
    have ex : (T l).extract i (i + 2) = T ((l.drop i).take 2) := by rw [T_ext, show i + 2 - i = 2 by omega]
    rw [ex, T_eq]
    refine ⟨fun h w2 hO2 => ⟨?_, hO0.tr0 (hO1.tr0 hO2)⟩, fun h w3 hO3 => ⟨longL.length - (n + 1), by omega, n + 1, by omega, by rw [wr' (by omega) (by omega)]; rfl, rfl, fun h2 y hy => ?_, hO1.tr0 hO3⟩⟩
    · rw [Bool.and_eq_true] at h
      have h1 := of_decide_eq_true h.1
      have h2 := of_decide_eq_true h.2
      have hs2 : sign2 (l.drop i) = true := by
        cases hr : l.drop (i + 1) with
        | nil =>
          have := congrArg List.length hr
          rw [List.length_drop, List.length_nil] at this
          omega
        | cons d r =>
          rw [hd, hr] at h2 ⊢
          rw [sign2_long, List.contains_iff_mem]
          have : (c :: d :: r).take 2 = [c, d] := rfl
          rw [← this, h2]
          exact List.mem_of_getElem? g2
      rw [signN_two hs2]; rfl
    · rw [List.take_add_one, g2] at hy
      simp only [Option.toList_some, List.mem_append, List.mem_singleton] at hy
      rcases hy with hy | rfl
      · exact hp h2 y hy
      · rw [decide_eq_true (by omega), Bool.true_and] at h
        exact fun e => of_decide_eq_false h e.symm
  · have hge : ¬ ((n : Int) < s.n) := of_decide_eq_false hc
    rw [List.take_of_length_le (by omega)] at hp
    have hs2 : sign2 (l.drop i) = false := by
      cases hr : l.drop (i + 1) with
      | nil => rw [hd, hr]; rfl
      | cons d r =>
        rw [hd, hr, sign2_long, Bool.eq_false_iff]
        intro h
        rw [List.contains_iff_mem] at h
        have h2 : 2 ≤ (l.drop i).length := by rw [hd, hr]; simp
        exact hp h2 _ h (by rw [hd, hr]; rfl)
    have hsn : signN (l.drop i) = if shortL.contains c then 1 else 0 := by
      rw [hd] at hs2 ⊢
      exact signN_one hs2
    rw [hsn]
    refine ⟨fun nv k w' => ∃ n : Nat, n ≤ 17 ∧ k = (n : Int) ∧ nv = 17 - n ∧ (∀ x, x ∈ shortL.take n → x ≠ c) ∧ Only [] w w', 17, ⟨0, Nat.zero_le _, rfl, rfl, by simp, hO0.tr0 hO1⟩, ?_⟩
    rintro nv _ w4 ⟨n, hn, rfl, rfl, hp, hO4⟩
    refine ⟨fun hc => ?_, fun hc => ⟨?_, hO4⟩⟩
    · have hlt : n < 17 := by have := of_decide_eq_true hc; omega
      have hy : shortL[n]? = some (shortL[n]'hlt) := List.getElem?_eq_getElem hlt
      generalize shortL[n]'hlt = y at hy
      refine ⟨c, ⟨Int.natCast_nonneg i, by rw [T_get, Int.toNat_natCast, hx]⟩, y, ⟨Int.natCast_nonneg n, by
        have e : (ByteArray.mk #[123, 125, 40, 41, 91, 93, 59, 44, 61, 43, 45, 42, 47, 37, 60, 62, 33]) = T shortL := rfl
        rw [e, T_get, Int.toNat_natCast, hy]⟩, ?_⟩
      rw [u8i]
      refine ⟨fun h w5 hO5 => ⟨?_, hO4.tr0 hO5⟩, fun h w6 hO6 => ⟨17 - (n + 1), by omega, n + 1, by omega, by rw [wr' (by omega) (by omega)]; rfl, rfl, fun q hq => ?_, hO4.tr0 hO6⟩⟩
      · have h : c = y := by simpa using h
        rw [if_pos]
        · rfl
        · rw [List.contains_iff_mem, h]
          exact List.mem_of_getElem? hy
      · rw [List.take_add_one, hy] at hq
        simp only [Option.toList_some, List.mem_append, List.mem_singleton] at hq
        rcases hq with hq | rfl
        · exact hp q hq
        · rintro rfl
          simp at h
    · have hge : n = 17 := by have := of_decide_eq_false hc; omega
      subst hge
      rw [if_neg]
      · rfl
      · intro h
        rw [List.contains_iff_mem] at h
        exact hp c (by rw [List.take_of_length_le (by decide)]; exact h) rfl
theorem decV_snoc {ds : List UInt8} {x : UInt8} : decV 0 (ds ++ [x]) = decV 0 ds * 10 + (x.toNat - 48) := by
  unfold decV
  rw [List.foldl_append]; rfl
theorem decV_take {ds : List UInt8} {n : Nat} : decV 0 (ds.take n) ≤ decV 0 ds := by
  have : decV 0 ds = decV (decV 0 (ds.take n)) (ds.drop n) := by
    unfold decV
    rw [← List.foldl_append, List.take_append_drop]
  rw [this]
  exact decV_ge _ _
theorem rparse_c (w : World) (l : List UInt8) (hl : l.length < 4611686018427387903) :
    Calls Tryz.prog 83 #[.string (T l)] w fun e w' => e = .returned (.tuple #[.int .i64 (parseM l).1, .int .i64 (parseM l).2.1, .int .i64 (parseM l).2.2]) ∧ Only [] w w' := by
  refine ret (pavaneref03_Parse_wp (T l) (fun v w' => v = .tuple #[.int .i64 (parseM l).1, .int .i64 (parseM l).2.1, .int .i64 (parseM l).2.2] ∧ Only [] w w') w ?_)
  unfold pavaneref03_Parse_vc
  rw [T_size]
  refine ⟨fun h0 => ⟨?_, Only.refl _ _⟩, fun h0 => ?_⟩
  · have h0 : l = [] := List.eq_nil_of_length_eq_zero (by have : (l.length : Int) = 0 := by simpa using h0
                                                          omega)
    rw [parseM, if_pos h0]; rfl
  have h0 : ¬ l = [] := by
    rintro rfl
    simp at h0
  refine ⟨fun nv j w' => ∃ n : Nat, n ≤ l.length ∧ j = (n : Int) ∧ nv = l.length - n ∧ (∀ x, x ∈ l.take n → digitB x = true) ∧ w' = w, l.length, ⟨0, Nat.zero_le _, rfl, rfl, by simp, rfl⟩, ?_⟩
  rintro nv _ u ⟨n, hn, rfl, rfl, hp, hu⟩
  subst hu
  obtain ⟨z, hz⟩ : ∃ z : UInt8, n < l.length → l[n]? = some z := by
    by_cases h : n < l.length
    · exact ⟨l[n], fun _ => List.getElem?_eq_getElem h⟩
    · exact ⟨0, fun h' => absurd h' h⟩
  have hg : n < l.length → 0 ≤ (n : Int) ∧ (T l)[Int.toNat (n : Int)]? = some z := fun h => ⟨Int.natCast_nonneg n, by rw [T_get, Int.toNat_natCast]; exact hz h⟩
  refine ⟨z, fun h => hg (by have := of_decide_eq_true h; omega), z, fun h => hg (by
    rw [Bool.and_eq_true] at h
    have := of_decide_eq_true h.1; omega), ?_⟩
  have ed : ((((decide ((n : Int) < (l.length : Int))) && (decide ((z.toNat : Int) ≥ 48))) && (decide ((z.toNat : Int) ≤ 57)))) = (decide (n < l.length) && digitB z) := by
    rw [Bool.eq_iff_iff]
    simp only [digitB, Bool.and_eq_true, decide_eq_true_eq]
    omega
  rw [ed]
  refine ⟨fun h => ?_, fun h => ?_⟩
  · rw [Bool.and_eq_true] at h
    have h1 : n < l.length := of_decide_eq_true h.1
    refine ⟨l.length - (n + 1), by omega, n + 1, by omega, by rw [wr' (by omega) (by omega)]; rfl, rfl, fun y hy => ?_, rfl⟩
    rw [List.take_add_one, hz h1] at hy
    simp only [Option.toList_some, List.mem_append, List.mem_singleton] at hy
    rcases hy with hy | rfl
    · exact hp y hy
    · exact h.2
  have hds : l.takeWhile digitB = l.take n := take_while hn hp fun y hy => by
    have h1 := (List.getElem?_eq_some_iff.1 hy).1
    rw [hz h1] at hy
    injection hy with hy
    subst hy
    rw [decide_eq_true h1, Bool.true_and] at h
    exact h
  have hdl : (l.takeWhile digitB).length = n := by rw [hds, List.length_take]; omega
  obtain ⟨x, r, rfl⟩ : ∃ x r, l = x :: r := by
    cases l with
    | nil => exact absurd rfl h0
    | cons x r => exact ⟨x, r, rfl⟩
  refine ⟨x, fun _ _ => ⟨Int.le_refl _, by rw [T_get]; rfl⟩, ?_⟩
  have e48 : ((x.toNat : Int) == 48) = (x == 48) := u8i (d := 48)
  have eb : (((n : Int) == 0) || ((decide ((n : Int) > 1)) && ((x.toNat : Int) == 48))) = decide ((x :: r).takeWhile digitB = [] ∨ (1 < ((x :: r).takeWhile digitB).length ∧ (x :: r).head? = some 48)) := by
    rw [e48, hdl, Bool.eq_iff_iff]
    simp only [Bool.and_eq_true, Bool.or_eq_true, decide_eq_true_eq, beq_iff_eq, List.head?_cons, Option.some.injEq]
    have : (x :: r).takeWhile digitB = [] ↔ n = 0 := by
      constructor
      · intro e; rw [e] at hdl; exact hdl.symm
      · intro e; rw [e] at hdl; exact List.eq_nil_of_length_eq_zero hdl
    rw [this]
    by_cases hx : x = 48
    · simp only [hx, and_true]; omega
    · simp only [hx, and_false, or_false]; omega
  rw [eb]
  refine ⟨fun hb => ⟨?_, Only.refl _ _⟩, fun hb => ?_⟩
  · rw [parseM, if_neg h0, if_pos (of_decide_eq_true hb)]; rfl
  have hb := of_decide_eq_false hb
  refine ⟨fun nv v j w' => ∃ q : Nat, q ≤ n ∧ j = (q : Int) ∧ nv = n - q ∧ v = (decV 0 ((x :: r).take q) : Int) ∧ decV 0 ((x :: r).take q) < 9223372036854775808 ∧ Only [] u w', n, ⟨0, Nat.zero_le _, rfl, rfl, rfl, by rw [List.take_zero]; decide, Only.refl _ _⟩, ?_⟩
  rintro nv _ _ w1 ⟨q, hq, rfl, rfl, rfl, hv, hO1⟩
  refine ⟨fun hc => ?_, fun hc => ⟨?_, hO1⟩⟩
  · have hlt : q < n := by have := of_decide_eq_true hc; omega
    have hy : (x :: r)[q]? = some ((x :: r)[q]'(by omega)) := List.getElem?_eq_getElem (by omega)
    generalize (x :: r)[q]'(by omega) = y at hy
    have hyd : digitB y = true := hp y (by
      rw [List.mem_iff_getElem?]
      exact ⟨q, by rw [List.getElem?_take, if_pos hlt, hy]⟩)
    simp only [digitB, Bool.and_eq_true, decide_eq_true_eq] at hyd
    have e1 : IntKind.wrap .u8 ((y.toNat : Int) - 48) = (y.toNat : Int) - 48 := by
      have h : ∀ n : Fin 256, 48 ≤ n.val → IntKind.wrap .u8 ((n.val : Int) - 48) = (n.val : Int) - 48 := by decide +kernel
      exact h ⟨y.toNat, y.toNat_lt⟩ hyd.1
    have et : (9223372036854775807 - ((y.toNat : Int) - 48)).tdiv 10 = (9223372036854775807 - ((y.toNat : Int) - 48)) / 10 := Int.tdiv_eq_ediv_of_nonneg (by omega)
    have es : (x :: r).take (q + 1) = (x :: r).take q ++ [y] := by rw [List.take_add_one, hy]; rfl
    have ev : decV 0 ((x :: r).take (q + 1)) = decV 0 ((x :: r).take q) * 10 + (y.toNat - 48) := by rw [es, decV_snoc]
    refine ⟨y, ⟨Int.natCast_nonneg q, by rw [T_get, Int.toNat_natCast, hy]⟩, ?_⟩
    rw [e1, wr' (x := (y.toNat : Int) - 48) (by omega) (by omega), wr' (x := 9223372036854775807 - ((y.toNat : Int) - 48)) (by omega) (by omega), et, wr' (x := (9223372036854775807 - ((y.toNat : Int) - 48)) / 10) (by omega) (by omega)]
    refine ⟨fun hgt => ⟨?_, hO1⟩, fun hgt => ⟨n - (q + 1), by omega, q + 1, by omega, by rw [wr' (by omega) (by omega)]; rfl, rfl, ?_, ?_, hO1⟩⟩
    · have hgt := of_decide_eq_true hgt
      have h1 : decV 0 ((x :: r).take (q + 1)) ≤ decV 0 ((x :: r).take n) := by
        have := decV_take (ds := (x :: r).take n) (n := q + 1)
        rw [List.take_take, Nat.min_eq_left (by omega)] at this
        exact this
      rw [parseM, if_neg h0, if_neg hb, if_neg (by rw [hds]; omega)]; rfl
    · have hgt := of_decide_eq_false hgt
      rw [ev, wr' (x := 10 * (decV 0 ((x :: r).take q) : Int)) (by omega) (by omega), wr' (by omega) (by omega)]
      omega
    · have hgt := of_decide_eq_false hgt
      rw [ev]
      omega
  · have hqn : q = n := by have := of_decide_eq_false hc; omega
    subst hqn
    rw [parseM, if_neg h0, if_neg hb, if_pos (by rw [hds]; exact hv), hdl, hds]
end Go.Proofs.YtdlcmgbidoabmaaGreatDoor.Con
