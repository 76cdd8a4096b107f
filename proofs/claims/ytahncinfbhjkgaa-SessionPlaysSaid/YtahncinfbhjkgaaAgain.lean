/-
  Own work: the contracts of both Sames and of SessionAgain.
-/
import Derived.Test.YtahncinfbhjkgaaFew
namespace Go.Proofs.Ytahncinfbhjkgaa.Con
open Go Go.RowKit Go.Kt Go.Proofs.Ytahncinfbhjkgaa.Vc
set_option linter.unusedSimpArgs false
set_option linter.unusedVariables false

theorem sameI_c {w : World} {F G : Nat → Prop} {a b : Sl} {xs ys : List Int} (ha : SliceF rInt 1 w F a xs) (hb : SliceF rInt 1 w G b ys) :
    Calls Try.prog 21 #[Sl.v a, Sl.v b] w fun e w' => e = .returned (.bool (decide (xs = ys))) ∧ Only [] w w' := by
  refine ret (pavaneref01_Same_wp a b (fun v w' => v = .bool (decide (xs = ys)) ∧ Only [] w w') w ?_)
  unfold pavaneref01_Same_vc
  have hal := ha.len
  have hbl := hb.len
  have hac := ha.cap
  have hab := ha.big
  refine ⟨fun hc => ⟨?_, Only.refl _ _⟩, fun hc => ?_⟩
  · have hne : (a.n : Int) ≠ b.n := by simpa using hc
    have : xs ≠ ys := fun h => by rw [h] at hal; omega
    rw [decide_eq_false this]
  · have heq : (a.n : Int) = b.n := by simpa using hc
    refine ⟨fun nv i w' => ∃ n : Nat, n ≤ xs.length ∧ i = (n : Int) ∧ nv = xs.length - n ∧ xs.take n = ys.take n ∧ Only [] w w', xs.length, ⟨0, Nat.zero_le _, rfl, rfl, rfl, Only.refl _ _⟩, ?_⟩
    rintro nv _ w1 ⟨n, hn, rfl, rfl, ht, hO⟩
    refine ⟨fun hc => ?_, fun hc => ?_⟩
    · have hlt : (n : Int) < a.n := of_decide_eq_true hc
      obtain ⟨ad, x, cs, g1, g2, g3, g4, g5, rfl, g6⟩ := (SliceF.only rInt_ok (by decide) ha hO (by simp)).get (Int.natCast_nonneg n) hlt
      obtain ⟨ad', y, cs', k1, k2, k3, k4, k5, rfl, k6⟩ := (SliceF.only rInt_ok (by decide) hb hO (by simp)).get (Int.natCast_nonneg n) (by omega)
      rw [Int.toNat_natCast] at g2 k2
      refine ⟨ad, g1, x, g5, ad', k1, y, k5, fun hne w2 hO2 => ⟨?_, hO.tr0 hO2⟩, fun heq2 w2 hO2 => ?_⟩
      · have : xs ≠ ys := fun h => by
          subst h
          rw [g2] at k2
          injection k2 with k2
          subst k2
          simp at hne
        rw [decide_eq_false this]
      · have hxy : x = y := by simpa using heq2
        rw [wr' (x := (n : Int) + 1) (by omega) (by omega)]
        have hn1 := (List.getElem?_eq_some_iff.1 g2).1
        refine ⟨xs.length - (n + 1), by omega, n + 1, by omega, by omega, rfl, ?_, hO.tr0 hO2⟩
        rw [List.take_add_one, List.take_add_one, ht, g2, k2, hxy]
    · have hge : ¬ ((n : Int) < a.n) := of_decide_eq_false hc
      rw [List.take_of_length_le (by omega), List.take_of_length_le (by omega)] at ht
      rw [decide_eq_true ht]
      exact ⟨rfl, hO⟩

theorem same_c {w : World} {F G : Nat → Prop} {a b : Sl} {xs ys : List Seat} (ha : Seats w F a xs) (hb : Seats w G b ys) :
    Calls Try.prog 19 #[Sl.v a, Sl.v b] w fun e w' => e = .returned (.bool (decide (xs = ys))) ∧ Only [] w w' := by
  refine ret (pavaneref19_Same_wp a b (fun v w' => v = .bool (decide (xs = ys)) ∧ Only [] w w') w ?_)
  unfold pavaneref19_Same_vc
  have hal := ha.len
  have hbl := hb.len
  have hac := ha.cap
  have hab := ha.big
  refine ⟨fun hc => ⟨?_, Only.refl _ _⟩, fun hc => ?_⟩
  · have hne : (a.n : Int) ≠ b.n := by simpa using hc
    have : xs ≠ ys := fun h => by rw [h] at hal; omega
    rw [decide_eq_false this]
  · have heq : (a.n : Int) = b.n := by simpa using hc
    refine ⟨fun nv i w' => ∃ n : Nat, n ≤ xs.length ∧ i = (n : Int) ∧ nv = xs.length - n ∧ xs.take n = ys.take n ∧ Only [] w w', xs.length, ⟨0, Nat.zero_le _, rfl, rfl, rfl, Only.refl _ _⟩, ?_⟩
    rintro nv _ w1 ⟨n, hn, rfl, rfl, ht, hO⟩
    refine ⟨fun hc => ?_, fun hc => ?_⟩
    · have hlt : (n : Int) < a.n := of_decide_eq_true hc
      obtain ⟨ad, x, cs, g1, g2, g3, g4, g5, d, rfl, g6⟩ := (SliceF.only rSeat_ok (by decide) ha hO (by simp)).get (Int.natCast_nonneg n) hlt
      obtain ⟨ad', y, cs', k1, k2, k3, k4, k5, d', rfl, k6⟩ := (SliceF.only rSeat_ok (by decide) hb hO (by simp)).get (Int.natCast_nonneg n) (by omega)
      rw [Int.toNat_natCast] at g2 k2
      have gb := g6.d.bytes
      have kb := k6.d.bytes
      refine ⟨ad, g1, x.i, g5.at1 0 _ rfl, ad', k1, y.i, k5.at1 0 _ rfl, ad, fun _ => g1, x.l, fun _ => g5.at1 1 _ rfl, ad', fun _ => k1, y.l, fun _ => k5.at1 1 _ rfl,
        ad, fun _ => g1, d, fun _ => g5.at1 2 _ rfl, x.r, fun _ => gb.rd, ad', fun _ => k1, d', fun _ => k5.at1 2 _ rfl, y.r, fun _ => kb.rd,
        ad, fun _ => g1, x.u, fun _ => g5.at1 3 _ rfl, ad', fun _ => k1, y.u, fun _ => k5.at1 3 _ rfl, fun hne w2 hO2 => ⟨?_, hO.tr0 hO2⟩, fun heq2 w2 hO2 => ?_⟩
      · have : xs ≠ ys := fun h => by
          subst h
          rw [g2] at k2
          injection k2 with k2
          subst k2
          simp at hne
        rw [decide_eq_false this]
      · have hxy : x = y := by
          rw [ba_eq] at heq2
          simp only [Bool.or_eq_false_iff, bne_eq_false_iff_eq, Bool.not_eq_false', decide_eq_true_eq] at heq2
          obtain ⟨⟨⟨h1, h2⟩, h3⟩, h4⟩ := heq2
          cases x
          cases y
          simp_all
        rw [wr' (x := (n : Int) + 1) (by omega) (by omega)]
        have hn1 := (List.getElem?_eq_some_iff.1 g2).1
        refine ⟨xs.length - (n + 1), by omega, n + 1, by omega, by omega, rfl, ?_, hO.tr0 hO2⟩
        rw [List.take_add_one, List.take_add_one, ht, g2, k2, hxy]
    · have hge : ¬ ((n : Int) < a.n) := of_decide_eq_false hc
      rw [List.take_of_length_le (by omega), List.take_of_length_le (by omega)] at ht
      rw [decide_eq_true ht]
      exact ⟨rfl, hO⟩

theorem again_c {w : World} {F G : Nat → Prop} {acts more : Sl} {az mz : List Act'} (ha : SliceF rAct 5 w F acts az) (hm : SliceF rAct 5 w G more mz) :
    Calls Try.prog 7 #[Sl.v acts, Sl.v more] w fun e w' => e = .returned (.bool true) ∧ Only [] w w' := by
  refine ret (pavanelaw19_SessionAgain_wp acts more (fun v w' => v = .bool true ∧ Only [] w w') w ?_)
  unfold pavanelaw19_SessionAgain_vc
  refine (small_c w).mono ?_
  rintro _ w1 ⟨rfl, hO1⟩
  refine ⟨_, rfl, (new_c w1).mono ?_⟩
  rintro _ w2 ⟨b, rfl, hB, hO2⟩
  have hs1 := hO1.size
  refine ⟨_, rfl, fun h => (by simp at h), fun _ => ?_⟩
  refine ⟨fun nv i w' => ∃ n : Nat, i = (n : Int) ∧ nv = 100 - n ∧ n ≤ 100 ∧ ∃ x, Bk 47 w' (fun k => w.heap.size ≤ k) b x ∧ Only [] w w', 100, ⟨0, rfl, rfl, by decide, newBook, hB.mono fun k hk => by omega, hO1.tr0 hO2⟩, ?_⟩
  rintro nv _ w3 ⟨n, rfl, rfl, hn, x, hB3, hO3⟩
  refine ⟨fun hc => ?_, fun _ => ?_⟩
  · simp only [Bool.and_eq_true, decide_eq_true_eq] at hc
    obtain ⟨ad, a, d, g1, g2, g3, k1, k2, k3, k4, k5, k6⟩ := act_at ha hO3 (Int.natCast_nonneg n) hc.1
    refine ⟨ad, g1, _, _, _, _, d, g3, (step_c hB3 hO3 k5 k6 k2 k3).mono ?_⟩
    rintro _ w4 ⟨r, g, rfl, _, _, hB4, hO4⟩
    rw [wr' (x := (n : Int) + 1) (by omega) (by omega)]
    exact ⟨_, _, r, g, rfl, 100 - (n + 1), by omega, n + 1, by omega, rfl, by omega, _, hB4, hO4⟩
  · refine ⟨_, rfl, (list_c hB3).mono ?_⟩
    rintro _ w4 ⟨s, rfl, m1, hO4⟩
    refine ⟨s, rfl, (next_c (hB3.only0 hO4)).mono ?_⟩
    rintro _ w5 ⟨rfl, hO5⟩
    have hO45 := hO4.tr0 hO5
    have hO05 := hO3.tr0 hO45
    have hs5 := hO05.size
    have hxok := hB3.ok
    refine ⟨_, rfl, (restore_c (SliceF.only rSeat_ok (by decide) (m1.slice rSeat_ok) hO5 (by simp)) x.n ⟨by have := hxok.n0; omega, hxok.n1⟩).mono ?_⟩
    rintro e w6 ⟨hO6, _, hr⟩
    obtain ⟨c, rfl, hC⟩ := hr (restoreOk_of hxok)
    have hO06 := hO05.tr0 hO6
    have hB6 := (hB3.only0 hO45).inHeap.only0 hO6
    refine ⟨_, _, rfl, fun h => (by simp at h), fun _ => ?_⟩
    refine ⟨fun nv i w' => ∃ n : Nat, i = (n : Int) ∧ nv = 100 - n ∧ n ≤ 100 ∧ ∃ (y : BookS) (A C : Nat → Prop), Bk 47 w' A b y ∧ Bk 47 w' C c y ∧ (∀ k, A k → w.heap.size ≤ k ∧ ¬ C k) ∧ (∀ k, C k → w.heap.size ≤ k) ∧ Only [] w w', 100,
      ⟨0, rfl, rfl, by decide, x, _, _, hB6, hC, fun k hk => ⟨hk.1, fun h => by have := hk.2; omega⟩, fun k hk => by omega, hO06⟩, ?_⟩
    rintro nv _ w7 ⟨n, rfl, rfl, hn, y, A, C, hA7, hC7, hAC, hCn, hO7⟩
    refine ⟨fun hc => ?_, fun _ => ⟨rfl, hO7⟩⟩
    simp only [Bool.and_eq_true, decide_eq_true_eq] at hc
    have hs7 := hO7.size
    obtain ⟨ad, a, d, g1, g2, g3, k1, k2, k3, k4, k5, k6⟩ := act_at hm hO7 (Int.natCast_nonneg n) hc.1
    refine ⟨ad, g1, _, _, _, _, d, g3, (do_c hA7.inHeap k5 k6 (fun k hk _ hf => by have := (hAC k hf.1).1; omega) k2 k3).mono ?_⟩
    rintro _ w8 ⟨r1, q1, rfl, e1, e2, hA8, hP8⟩
    have hs8 := hP8.size
    have hO8 := Only.trN hO7 hP8 fun k hk => (hAC k hk.1).1
    have hC8 := hC7.inHeap.onlyP hP8 (fun k hk _ hf => (hAC k hf.1).2 hk.1)
    obtain ⟨ad', a', d', f1, f2, f3, j1, j2, j3, j4, j5, j6⟩ := act_at hm hO8 (Int.natCast_nonneg n) hc.1
    rw [g2] at f2
    injection f2 with f2
    subst f2
    refine ⟨_, _, r1, q1, rfl, ad', f1, _, _, _, _, d', f3, (do_c hC8 j5 j6 (fun k hk _ hf => by have := hCn k hf.1; omega) j2 j3).mono ?_⟩
    rintro _ w9 ⟨r2, q2, rfl, e3, e4, hC9, hP9⟩
    have hs9 := hP9.size
    have hO9 := Only.trN hO8 hP9 fun k hk => hCn k hk.1
    have hA9 := hA8.inHeap.onlyP hP9 (fun k hk _ hf => by
      rcases hk.1 with hk' | hk'
      · exact (hAC k hk'.1).2 hf.1
      · have := hf.2; omega)
    refine ⟨_, _, r2, q2, rfl, fun t w' => t = false ∧ Only [] w9 w', ?_, ?_⟩
    · rintro _ w10 ⟨rfl, hO10⟩
      refine ⟨fun h => (by cases h), fun _ => ?_⟩
      rw [wr' (x := (n : Int) + 1) (by omega) (by omega)]
      refine ⟨100 - (n + 1), by omega, n + 1, by omega, rfl, by omega, _, _, _, hA9.only0 hO10, hC9.only0 hO10, fun k hk => ⟨?_, fun hf => ?_⟩, fun k hk => ?_, hO9.tr0 hO10⟩
      · rcases hk.1 with hk' | hk'
        · exact (hAC k hk'.1).1
        · omega
      · rcases hf with hf | hf
        · rcases hk.1 with hk' | hk'
          · exact (hAC k hk'.1).2 hf.1
          · have := hf.2; omega
        · have := hk.2; omega
      · rcases hk with hk | hk
        · exact hCn k hk.1
        · omega
    · intro w11 hO11
      have b1 := SliceF.only rByte_ok (by decide) (SliceF.onlyP rByte_ok (by decide) ((e1.slice rByte_ok).inHeap rByte_ok (by decide)) hP9 (fun k hk _ hf => by
        rcases hk.1 with hk' | hk'
        · exact hk'
        · have := hf.2; have := hk'.1; omega)) hO11 (by simp)
      have b2 := SliceF.only rByte_ok (by decide) (e3.slice rByte_ok) hO11 (by simp)
      have i1 := SliceF.only rInt_ok (by decide) (SliceF.onlyP rInt_ok (by decide) ((e2.slice rInt_ok).inHeap rInt_ok (by decide)) hP9 (fun k hk _ hf => by
        rcases hk.1 with hk' | hk'
        · exact hk'
        · have := hf.2; have := hk'.1; omega)) hO11 (by simp)
      have i2 := SliceF.only rInt_ok (by decide) (e4.slice rInt_ok) hO11 (by simp)
      refine ⟨fun h => (by simp at h), fun _ => ⟨fun h => (by simp at h), fun _ => ⟨_, b1.bytes.rd, _, b2.bytes.rd, fun h => (by simp at h), fun _ => (sameI_c i1 i2).mono ?_⟩⟩⟩
      rintro _ w12 ⟨rfl, hO12⟩
      have hO912 := hO11.tr0 hO12
      refine ⟨_, rfl, fun h => (by simp at h), fun _ => ⟨_, rfl, _, rfl, (list_c (hA9.only0 hO912)).mono ?_⟩⟩
      rintro _ w13 ⟨s1, rfl, l1, hO13⟩
      have hO913 := hO912.tr0 hO13
      refine ⟨s1, rfl, (list_c (hC9.only0 hO913)).mono ?_⟩
      rintro _ w14 ⟨s2, rfl, l2, hO14⟩
      have hO914 := hO913.tr0 hO14
      refine ⟨s2, rfl, (same_c (SliceF.only rSeat_ok (by decide) (l1.slice rSeat_ok) hO14 (by simp)) (l2.slice rSeat_ok)).mono ?_⟩
      rintro _ w15 ⟨rfl, hO15⟩
      have hO915 := hO914.tr0 hO15
      refine ⟨_, rfl, fun h => (by simp at h), fun _ => (next_c (hA9.only0 hO915)).mono ?_⟩
      rintro _ w16 ⟨rfl, hO16⟩
      have hO916 := hO915.tr0 hO16
      refine ⟨_, rfl, (next_c (hC9.only0 hO916)).mono ?_⟩
      rintro _ w17 ⟨rfl, hO17⟩
      exact ⟨_, rfl, by simp, hO916.tr0 hO17⟩
end Go.Proofs.Ytahncinfbhjkgaa.Con
