/-
  Own work: the document's evaluator; rows of names copied and compared.
-/
import Derived.Test.YtmanockofcopjaaGreatDoorDo
namespace Go.Proofs.YtmanockofcopjaaGreatDoor.Con
open Go Go.RowKit Go.Kt Go.Kt.V Go.Proofs.YtmanockofcopjaaGreatDoor.Vc
set_option linter.unusedSimpArgs false
set_option linter.unusedVariables false
set_option maxHeartbeats 4000000

theorem took_one (op a : Int) : tookA (oneA op a) = oneA op a := by
  unfold tookA oneA
  by_cases h1 : op = 14
  · rw [if_pos h1]; rfl
  rw [if_neg h1]
  by_cases h2 : op = 15
  · rw [if_pos h2]; rfl
  rw [if_neg h2]
  rfl
theorem took_do (op a b : Int) : tookA (doA op a b) = doA op a b := by
  have dv : tookA (divA op a b) = divA op a b := by
    unfold tookA divA
    by_cases h1 : b = 0
    · rw [if_pos h1]; rfl
    rw [if_neg h1]
    by_cases h2 : op = 4 ∧ b = -1
    · rw [if_pos h2]; rfl
    rw [if_neg h2]
    by_cases h3 : op = 4
    · rw [if_pos h3]; rfl
    rw [if_neg h3]
    by_cases h4 : b = -1
    · rw [if_pos h4]; rfl
    rw [if_neg h4]; rfl
  have ok : ∀ v : Int, tookA (v, 0) = (v, 0) := fun v => rfl
  unfold doA
  by_cases c0 : op = 1
  · rw [if_pos c0, ok]
  rw [if_neg c0]
  by_cases c1 : op = 2
  · rw [if_pos c1, ok]
  rw [if_neg c1]
  by_cases c2 : op = 3
  · rw [if_pos c2, ok]
  rw [if_neg c2]
  by_cases c3 : op = 4 ∨ op = 5
  · rw [if_pos c3, dv]
  rw [if_neg c3]
  by_cases c4 : op = 8
  · rw [if_pos c4, ok]
  rw [if_neg c4]
  by_cases c5 : op = 6
  · rw [if_pos c5, ok]
  rw [if_neg c5]
  by_cases c6 : op = 7
  · rw [if_pos c6, ok]
  rw [if_neg c6]
  by_cases c7 : op = 9
  · rw [if_pos c7, ok]
  rw [if_neg c7]
  by_cases c8 : op = 10
  · rw [if_pos c8, ok]
  rw [if_neg c8]
  by_cases c9 : op = 11
  · rw [if_pos c9, ok]
  rw [if_neg c9]
  by_cases c10 : op = 12
  · rw [if_pos c10, ok]
  rw [if_neg c10]
  by_cases c11 : op = 13
  · rw [if_pos c11, ok]
  rw [if_neg c11]
  rfl
theorem contains_drop {l : List (List UInt8)} {n : Nat} {x s : List UInt8} (hx : l[n]? = some x) : (l.drop n).contains s = (decide (x = s) || (l.drop (n + 1)).contains s) := by
  rw [List.drop_eq_getElem_cons (List.getElem?_eq_some_iff.1 hx).1, (List.getElem?_eq_some_iff.1 hx).2, List.contains_cons]
  congr 1
  by_cases h : x = s
  · rw [decide_eq_true h, h]; simp
  · rw [decide_eq_false h]
    exact beq_eq_false_iff_ne.2 fun e => h e.symm
theorem ix_drop {l : List (List UInt8)} {n : Nat} {x s : List UInt8} (hx : l[n]? = some x) : ixA s (l.drop n) = if x = s then 0 else ixA s (l.drop (n + 1)) + 1 := by
  rw [List.drop_eq_getElem_cons (List.getElem?_eq_some_iff.1 hx).1, (List.getElem?_eq_some_iff.1 hx).2, ixA]
theorem rleaf_c {F : Nat → Prop} {e : Env5} {w : World} {sN sV sA sl : Sl} {x : Ex} (hN : SliceF rTx 1 w F sN e.N) (hV : SliceF rInt 1 w F sV e.V) (hA : SliceF rTx 1 w F sA e.A) :
    Calls Tryz.prog 25 #[.agg (exv x.k x.n x.s x.op sl x.a).toArray, .agg #[sN.v, sV.v, sA.v]] w fun r w' => r = .returned (.tuple #[.int .i64 (if x.k = 1 then (x.n, 0) else if x.k = 3 then (trA (e.A.contains x.s), 0) else namedA e x.s).1, .int .i64 (if x.k = 1 then (x.n, (0 : Int)) else if x.k = 3 then (trA (e.A.contains x.s), 0) else namedA e x.s).2]) ∧ Only [] w w' := by
  refine ret (pavaneref06_leaf_wp x.k x.n (T x.s) x.op sl x.a sN sV sA (fun v w' => v = .tuple #[.int .i64 (if x.k = 1 then (x.n, 0) else if x.k = 3 then (trA (e.A.contains x.s), 0) else namedA e x.s).1, .int .i64 (if x.k = 1 then (x.n, (0 : Int)) else if x.k = 3 then (trA (e.A.contains x.s), 0) else namedA e x.s).2] ∧ Only [] w w') w ?_)
  unfold pavaneref06_leaf_vc
  have a1 := hA.len
  have a2 := hA.cap
  have a3 := hA.big
  have n1 := hN.len
  have n2 := hN.cap
  have n3 := hN.big
  have v1 := hV.len
  refine ⟨fun h k0 k1 w0 _ _ _ _ hO0 => ?_, fun h1 => ⟨fun h k0 k1 w1 _ _ _ _ hO1 => ?_, fun h3 k0 k1 w1 _ _ _ _ hO1 => ?_⟩⟩
  · rw [if_pos (by simpa using h)]
    exact ⟨rfl, hO0⟩
  · have h1 : x.k ≠ 1 := by simpa using h1
    have h : x.k = 3 := by simpa using h
    rw [if_neg h1, if_pos h]
    refine ⟨fun nv i w' => ∃ n : Nat, n ≤ e.A.length ∧ i = (n : Int) ∧ nv = e.A.length - n ∧ e.A.contains x.s = (e.A.drop n).contains x.s ∧ Only [] w w', e.A.length, ⟨0, Nat.zero_le _, rfl, rfl, rfl, hO1⟩, ?_⟩
    rintro nv _ w2 ⟨n, hn, rfl, rfl, hc, hO2⟩
    refine ⟨fun hlt => ?_, fun hge => ?_⟩
    · have hlt : (n : Int) < (sA.n : Int) := of_decide_eq_true hlt
      obtain ⟨ad, y, cs, g1, g2, g3, g4, g5, g6⟩ := (SliceF.only rTx_ok (by decide) hA hO2 (by simp)).get (Int.natCast_nonneg n) hlt
      rw [Int.toNat_natCast] at g2
      unfold rTx at g6
      subst g6
      rw [contains_drop g2] at hc
      refine ⟨ad, g1, _, g5, ?_⟩
      rw [T_eq]
      refine ⟨fun he w3 hO3 => ⟨?_, hO2.tr0 hO3⟩, fun he w4 hO4 => ⟨e.A.length - (n + 1), by omega, n + 1, by omega, by rw [wr' (by omega) (by omega)]; rfl, rfl, ?_, hO2.tr0 hO4⟩⟩
      · rw [hc, he]; rfl
      · rw [hc, he, Bool.false_or]
    · have hge : ¬ (n : Int) < (sA.n : Int) := of_decide_eq_false hge
      rw [List.drop_of_length_le (by omega)] at hc
      rw [hc]
      exact ⟨rfl, hO2⟩
  · have h1 : x.k ≠ 1 := by simpa using h1
    have h3 : x.k ≠ 3 := by simpa using h3
    rw [if_neg h1, if_neg h3]
    refine ⟨fun nv i w' => ∃ n : Nat, n ≤ e.N.length ∧ i = (n : Int) ∧ nv = e.N.length - n ∧ ixA x.s e.N = n + ixA x.s (e.N.drop n) ∧ Only [] w w', e.N.length, ⟨0, Nat.zero_le _, rfl, rfl, by rw [List.drop_zero, Nat.zero_add], hO1⟩, ?_⟩
    rintro nv _ w2 ⟨n, hn, rfl, rfl, hc, hO2⟩
    refine ⟨fun hlt => ?_, fun hge => ?_⟩
    · have hlt : (n : Int) < (sN.n : Int) := of_decide_eq_true hlt
      obtain ⟨ad, y, cs, g1, g2, g3, g4, g5, g6⟩ := (SliceF.only rTx_ok (by decide) hN hO2 (by simp)).get (Int.natCast_nonneg n) hlt
      rw [Int.toNat_natCast] at g2
      unfold rTx at g6
      subst g6
      rw [ix_drop g2] at hc
      refine ⟨ad, g1, _, g5, ?_⟩
      rw [T_eq]
      refine ⟨fun he => ?_, fun he w4 hO4 => ⟨e.N.length - (n + 1), by omega, n + 1, by omega, by rw [wr' (by omega) (by omega)]; rfl, rfl, ?_, hO2.tr0 hO4⟩⟩
      · have he : y = x.s := of_decide_eq_true he
        rw [if_pos he, Nat.add_zero] at hc
        refine ⟨fun hv w3 hO3 => ⟨?_, hO2.tr0 hO3⟩, fun hv => ?_⟩
        · have hv : (n : Int) ≥ (sV.n : Int) := of_decide_eq_true hv
          rw [namedA, if_neg (by omega)]
        · have hv : ¬ (n : Int) ≥ (sV.n : Int) := of_decide_eq_false hv
          obtain ⟨ad2, m, cs2, f1, f2, f3, f4, f5, f6⟩ := (SliceF.only rInt_ok (by decide) hV hO2 (by simp)).get (i := (n : Int)) (Int.natCast_nonneg n) (by omega)
          rw [Int.toNat_natCast] at f2
          obtain ⟨rfl, _⟩ := f6
          refine ⟨ad2, f1, fun w5 hO5 => ⟨m, f5.keep (hO5.block _ f5.lt (by simp)), ?_, hO2.tr0 hO5⟩⟩
          rw [namedA, if_pos (by omega), hc, f2]
          rfl
      · have he : ¬ y = x.s := of_decide_eq_false he
        rw [if_neg he] at hc
        omega
    · have hge : ¬ (n : Int) < (sN.n : Int) := of_decide_eq_false hge
      rw [List.drop_of_length_le (by omega), ixA] at hc
      rw [namedA, if_neg (by omega)]
      exact ⟨rfl, hO2⟩
theorem sub_at {d : Nat} {w : World} {G : Nat → Prop} {sl : Sl} {l : List Ex} (h : SliceF (rEx d) 6 w G sl l) {i : Nat} {y : Ex} (hy : l[i]? = some y) : ∃ ad sy, SlAt sl (i : Int) 6 ad ∧ Cells w ad (exv y.k y.n y.s y.op sy y.a) ∧ rEx d w G y (exv y.k y.n y.s y.op sy y.a) := by
  have hlt := (List.getElem?_eq_some_iff.1 hy).1
  have hl := h.len
  obtain ⟨ad, y', cs, g1, g2, g3, g4, g5, g6⟩ := h.get (Int.natCast_nonneg i) (by omega)
  rw [Int.toNat_natCast, hy] at g2
  injection g2 with g2
  subst g2
  obtain ⟨sy, rfl⟩ := rEx_cells g6
  exact ⟨ad, sy, g1, g5, g6⟩
theorem reval_c : ∀ (d : Nat) {F G : Nat → Prop} {e : Env5} {w : World} {sN sV sA : Sl} {x : Ex} {cs : List Value}, rEx d w G x cs → SliceF rTx 1 w F sN e.N → SliceF rInt 1 w F sV e.V → SliceF rTx 1 w F sA e.A → (∀ v, v ∈ e.V → InI v) → numOk d x →
    Calls Tryz.prog 13 #[.agg cs.toArray, .agg #[sN.v, sV.v, sA.v]] w fun r w' => r = .returned (.tuple #[.int .i64 (evM e d x).1, .int .i64 (evM e d x).2]) ∧ Only [] w w'
  | 0, _, _, _, _, _, _, _, _, _, h, _, _, _, _, _ => h.elim
  | d + 1, F, G, e, w, sN, sV, sA, x, cs, ⟨sl, h1, h2⟩, hN, hV, hA, hI, hn => by
    subst h1
    refine ret (pavaneref06_Eval_wp x.k x.n (T x.s) x.op sl x.a sN sV sA (fun v w' => v = .tuple #[.int .i64 (evM e (d + 1) x).1, .int .i64 (evM e (d + 1) x).2] ∧ Only [] w w') w ?_)
    unfold pavaneref06_Eval_vc
    intro k0 k1 w0 hk0 hk0' hk1 hk1' hO0
    have hlen := h2.len
    have z0 := hO0.size
    have sm : ∀ {u u' : World}, w0.heap.size ≤ u.heap.size → Only [] u u' → Same [k0, k1] u u' := fun hu hO => hO.same (by simp; omega)
    have rec_ : ∀ {u : World} {y : Ex} {ds : List Value}, y ∈ x.subs → Only [] w u → rEx d u G y ds → Calls Tryz.prog 13 #[.agg ds.toArray, .agg #[sN.v, sV.v, sA.v]] u fun r w' => r = .returned (.tuple #[.int .i64 (evM e d y).1, .int .i64 (evM e d y).2]) ∧ Only [] u w' :=
      fun {u y ds} hy hO hr => reval_c d hr (SliceF.only rTx_ok (by decide) hN hO (by simp)) (SliceF.only rInt_ok (by decide) hV hO (by simp)) (SliceF.only rTx_ok (by decide) hA hO (by simp)) hI (hn.2 y hy)
    have sub : ∀ {u : World} {i : Nat} {y : Ex}, Only [] w u → x.subs[i]? = some y → ∃ ad sy, SlAt sl (i : Int) 6 ad ∧ Cells u ad (exv y.k y.n y.s y.op sy y.a) ∧ rEx d u G y (exv y.k y.n y.s y.op sy y.a) := fun hO hy => sub_at (SliceF.only (rEx_ok d) (by decide) h2 hO (by simp)) hy
    have hp : partsA x.k = if 0 > IntKind.wrap .i64 (x.k - 3) then 0 else IntKind.wrap .i64 (x.k - 3) := rfl
    refine ⟨fun hc => (rleaf_c (x := x) (sl := sl) (SliceF.only rTx_ok (by decide) hN hO0 (by simp)) (SliceF.only rInt_ok (by decide) hV hO0 (by simp)) (SliceF.only rTx_ok (by decide) hA hO0 (by simp))).mono ?_, fun hc => ⟨fun hc4 => ?_, fun hc4 => ⟨fun hc5 => ?_, fun hc5 => ?_⟩⟩⟩
    · simp only [Bool.and_eq_true, decide_eq_true_eq, beq_iff_eq] at hc
      have e0 : evM e (d + 1) x = (if x.k = 1 then (x.n, 0) else if x.k = 3 then (trA (e.A.contains x.s), 0) else namedA e x.s) := by
        rw [evM, if_neg (by rw [hp, wr' (by omega) (by omega)]; split <;> omega)]
        by_cases h1 : x.k = 1
        · rw [if_pos h1, if_pos h1]
        rw [if_neg h1, if_neg h1]
        by_cases h3 : x.k = 3
        · rw [if_neg (by omega), if_pos h3, if_pos h3]
        · rw [if_pos (by omega), if_neg h3]
      rw [← e0]
      rintro _ w1 ⟨rfl, hO1⟩
      exact ⟨_, _, rfl, sm (Nat.le_refl _) hO1, rfl, hO0.tr0 hO1⟩
    · simp only [Bool.and_eq_true, decide_eq_true_eq, beq_iff_eq] at hc4
      obtain ⟨y, hy⟩ : ∃ y, x.subs = [y] := List.length_eq_one_iff.1 (by omega)
      have e0 : evM e (d + 1) x = if (evM e d y).2 ≠ 0 then (0, (evM e d y).2) else oneA x.op (evM e d y).1 := by
        rw [evM, if_neg (by rw [hp, wr' (by omega) (by omega)]; split <;> omega), if_neg (by omega), if_neg (by omega), if_neg (by omega), hy]
        dsimp only
        rw [if_pos hc4.1, took_one]
      rw [e0]
      obtain ⟨p, sy, g1, _, _⟩ := sub (i := 0) hO0 (y := y) (by rw [hy]; rfl)
      refine ⟨p, g1, fun w2 hO2 => ?_⟩
      obtain ⟨p', sy', g1', g2, g3⟩ := sub (i := 0) (hO0.tr0 hO2) (y := y) (by rw [hy]; rfl)
      have := g1.uniq g1'
      subst this
      have z2 := hO2.size
      refine ⟨_, _, _, _, _, _, g2, (rec_ (by rw [hy]; simp) (hO0.tr0 hO2) g3).mono ?_⟩
      rintro _ w3 ⟨rfl, hO3⟩
      have z3 := hO3.size
      refine ⟨_, _, rfl, sm (by omega) hO3, fun hi => ?_, fun hi => (rone_c _ _ _).mono ?_⟩
      · have hi : (evM e d y).2 ≠ 0 := by simpa using hi
        rw [if_pos hi]
        exact ⟨rfl, (hO0.tr0 hO2).tr0 hO3⟩
      · have hi : (evM e d y).2 = 0 := by simpa using hi
        rintro _ _ ⟨rfl, rfl⟩
        rw [if_neg (by simp [hi])]
        exact ⟨_, _, rfl, fun _ _ => rfl, rfl, (hO0.tr0 hO2).tr0 hO3⟩
    · have e0 : evM e (d + 1) x = (0, 22) := by
        rw [evM]
        refine if_pos ?_
        simp only [Bool.and_eq_false_iff, decide_eq_false_iff_not, beq_eq_false_iff_ne, ne_eq, Bool.or_eq_true, bne_iff_ne] at hc hc4 hc5
        refine Decidable.byContradiction fun hh => ?_
        simp only [not_or, Int.not_lt, Decidable.not_not] at hh
        obtain ⟨q1, q2, q3⟩ := hh
        rw [hp, wr' (by omega) (by omega)] at q3
        split at q3 <;> omega
      rw [e0]
      exact ⟨rfl, hO0⟩
    · simp only [Bool.or_eq_false_iff, bne_eq_false_iff_eq] at hc5
      obtain ⟨y, z, hyz⟩ : ∃ y z, x.subs = [y, z] := by
        cases hx : x.subs with
        | nil => rw [hx] at hlen; simp at hlen; omega
        | cons y r =>
          cases r with
          | nil => rw [hx] at hlen; simp at hlen; omega
          | cons z r =>
            cases r with
            | nil => exact ⟨y, z, rfl⟩
            | cons _ _ => rw [hx] at hlen; simp at hlen; omega
      have e0 : evM e (d + 1) x = if (evM e d y).2 ≠ 0 then (0, (evM e d y).2) else if x.op = 12 ∧ (evM e d y).1 = 0 then (0, 0) else if x.op = 13 ∧ (evM e d y).1 ≠ 0 then (1, 0)
          else if (evM e d z).2 ≠ 0 then (0, (evM e d z).2) else doA x.op (evM e d y).1 (evM e d z).1 := by
        rw [evM, if_neg (by rw [hp, wr' (by omega) (by omega)]; split <;> omega), if_neg (by omega), if_neg (by omega), if_neg (by omega), hyz]
        dsimp only
        rw [if_neg (show ¬ x.k = 4 by omega), took_do]
      rw [e0]
      have hy : x.subs[0]? = some y := by rw [hyz]; rfl
      have hz : x.subs[1]? = some z := by rw [hyz]; rfl
      obtain ⟨p, sy, g1, _, _⟩ := sub (i := 0) hO0 hy
      refine ⟨p, g1, fun w2 hO2 => ?_⟩
      obtain ⟨p', sy', g1', g2, g3⟩ := sub (i := 0) (hO0.tr0 hO2) hy
      have := g1.uniq g1'
      subst this
      have z2 := hO2.size
      refine ⟨_, _, _, _, _, _, g2, (rec_ (List.mem_of_getElem? hy) (hO0.tr0 hO2) g3).mono ?_⟩
      rintro _ w3 ⟨rfl, hO3⟩
      have z3 := hO3.size
      have hO03 := (hO0.tr0 hO2).tr0 hO3
      refine ⟨_, _, rfl, sm (by omega) hO3, fun hi => ?_, fun hi => ⟨fun ha => ?_, fun ha => ⟨fun ho => ?_, fun ho => ?_⟩⟩⟩
      · have hi : (evM e d y).2 ≠ 0 := by simpa using hi
        rw [if_pos hi]
        exact ⟨rfl, hO03⟩
      · have hi : (evM e d y).2 = 0 := by simpa using hi
        have ha : x.op = 12 ∧ (evM e d y).1 = 0 := by simpa using ha
        rw [if_neg (by simp [hi]), if_pos ha]
        exact ⟨rfl, hO03⟩
      · have hi : (evM e d y).2 = 0 := by simpa using hi
        have ha : ¬ (x.op = 12 ∧ (evM e d y).1 = 0) := fun hh => by rw [hh.1, hh.2] at ha; simp at ha
        have ho : x.op = 13 ∧ (evM e d y).1 ≠ 0 := by simpa using ho
        rw [if_neg (by simp [hi]), if_neg ha, if_pos ho]
        exact ⟨rfl, hO03⟩
      · have hi : (evM e d y).2 = 0 := by simpa using hi
        have ha : ¬ (x.op = 12 ∧ (evM e d y).1 = 0) := fun hh => by rw [hh.1, hh.2] at ha; simp at ha
        have ho : ¬ (x.op = 13 ∧ (evM e d y).1 ≠ 0) := fun hh => by
          have : ((x.op == 13) && ((evM e d y).1 != 0)) = true := by simp [hh.1, hh.2]
          rw [this] at ho; cases ho
        rw [if_neg (show ¬ (evM e d y).2 ≠ 0 by simp [hi]), if_neg ha, if_neg ho]
        obtain ⟨p2, sz, f1, _, _⟩ := sub (i := 1) hO03 hz
        refine ⟨p2, f1, fun w7 hO7 => ?_⟩
        obtain ⟨p2', sz', f1', f2, f3⟩ := sub (i := 1) (hO03.tr0 hO7) hz
        have := f1.uniq f1'
        subst this
        have z7 := hO7.size
        refine ⟨_, _, _, _, _, _, f2, (rec_ (List.mem_of_getElem? hz) (hO03.tr0 hO7) f3).mono ?_⟩
        rintro _ w8 ⟨rfl, hO8⟩
        have z8 := hO8.size
        have hO08 := (hO03.tr0 hO7).tr0 hO8
        refine ⟨_, _, rfl, sm (by omega) hO8, fun hi2 => ?_, fun hi2 => (rdo_c _ _ (evM_in hI d (hn.2 y (List.mem_of_getElem? hy))) (evM_in hI d (hn.2 z (List.mem_of_getElem? hz)))).mono ?_⟩
        · have hi2 : (evM e d z).2 ≠ 0 := by simpa using hi2
          rw [if_pos hi2]
          exact ⟨rfl, hO08⟩
        · have hi2 : (evM e d z).2 = 0 := by simpa using hi2
          rintro _ _ ⟨rfl, rfl⟩
          rw [if_neg (by simp [hi2])]
          exact ⟨_, _, rfl, fun _ _ => rfl, rfl, hO08⟩
end Go.Proofs.YtmanockofcopjaaGreatDoor.Con
