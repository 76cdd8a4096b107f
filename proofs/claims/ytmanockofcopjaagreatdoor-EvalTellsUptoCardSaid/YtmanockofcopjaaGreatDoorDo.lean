/-
  Own work: the document's own reckoning and evaluating: what they come to.
-/
import Derived.Test.YtmanockofcopjaaGreatDoorEvS
import Derived.Test.YtmanockofcopjaaGreatDoorSize
namespace Go.Proofs.YtmanockofcopjaaGreatDoor.Con
open Go Go.RowKit Go.Kt Go.Kt.V Go.Proofs.YtmanockofcopjaaGreatDoor.Vc
set_option linter.unusedSimpArgs false
set_option linter.unusedVariables false
set_option maxHeartbeats 4000000

/-! ## numbers of 64 bits -/
theorem wu (x : Int) : IntKind.u64.wrap x = x % 18446744073709551616 := by
  have := IntKind.wrap_u64 x
  omega
theorem wi (x : Int) : IntKind.i64.wrap x = (x + 9223372036854775808) % 18446744073709551616 - 9223372036854775808 := by
  have := IntKind.wrap_i64 x
  omega
def absA (n : Int) : Int := if n < 0 then -n else n
theorem absA_in {n : Int} (h : InI n) : 0 ≤ absA n ∧ absA n ≤ 9223372036854775808 := by
  obtain ⟨h1, h2⟩ := h
  unfold absA
  split <;> omega
theorem absA_ne {n : Int} (h : n ≠ 0) : absA n ≠ 0 := by
  unfold absA
  split <;> omega
theorem rtruth_c (w : World) (b : Bool) : Calls Tryz.prog 53 #[.bool b] w fun e w' => e = .returned (.int .i64 (trA b)) ∧ w' = w := by
  refine ret (pavaneref03_truth_wp b (fun v w' => v = .int .i64 (trA b) ∧ w' = w) w ?_)
  unfold pavaneref03_truth_vc
  exact ⟨fun h => by rw [h]; exact ⟨rfl, rfl⟩, fun h => by rw [h]; exact ⟨rfl, rfl⟩⟩
theorem rsize_c (w : World) {n : Int} (h : InI n) : Calls Tryz.prog 55 #[.int .i64 n] w fun e w' => e = .returned (.int .u64 (absA n)) ∧ w' = w := by
  refine ret (pavaneref03_size_wp n (fun v w' => v = .int .u64 (absA n) ∧ w' = w) w ?_)
  unfold pavaneref03_size_vc
  obtain ⟨h1, h2⟩ := h
  refine ⟨fun hc => ⟨?_, rfl⟩, fun hc => ⟨?_, rfl⟩⟩
  · have hc : n < 0 := of_decide_eq_true hc
    rw [wr' (x := n + 1) (by omega) (by omega), wr' (by omega) (by omega), wu, wu, absA, if_pos hc]
    congr 1
    omega
  · have hc : ¬ n < 0 := of_decide_eq_false hc
    rw [wu, absA, if_neg hc]
    congr 1
    omega
def sgnA (u : Int) (b : Bool) : Int := if b then IntKind.i64.wrap (-u) else IntKind.i64.wrap u
theorem rsigned_c (w : World) (u : Int) (b : Bool) : Calls Tryz.prog 54 #[.int .u64 u, .bool b] w fun e w' => e = .returned (.int .i64 (sgnA u b)) ∧ w' = w := by
  refine ret (pavaneref03_signed_wp u b (fun v w' => v = .int .i64 (sgnA u b) ∧ w' = w) w ?_)
  unfold pavaneref03_signed_vc
  refine ⟨fun hc => ⟨?_, rfl⟩, fun hc => ⟨?_, rfl⟩⟩
  · subst hc
    rw [wu, wi, sgnA, if_pos rfl, wi]
    congr 1
    omega
  · subst hc
    rfl
theorem rone_c (w : World) (op a : Int) : Calls Tryz.prog 26 #[.int .i64 op, .int .i64 a] w fun e w' => e = .returned (.tuple #[.int .i64 (oneA op a).1, .int .i64 (oneA op a).2]) ∧ w' = w := by
  refine ret (pavaneref03_One_wp op a (fun v w' => v = .tuple #[.int .i64 (oneA op a).1, .int .i64 (oneA op a).2] ∧ w' = w) w ?_)
  unfold pavaneref03_One_vc
  refine ⟨fun h => ?_, fun h1 => ⟨fun h => (rtruth_c _ _).mono ?_, fun h2 => ?_⟩⟩
  · have h : op = 14 := by simpa using h
    rw [oneA, if_pos h]
    refine ⟨?_, rfl⟩
    have e : IntKind.i64.wrap (IntKind.u64.wrap (0 - IntKind.u64.wrap a)) = IntKind.i64.wrap (0 - a) := by
      rw [wu, wu, wi, wi]
      omega
    rw [e]
  · have h1 : op ≠ 14 := by simpa using h1
    have h : op = 15 := by simpa using h
    rintro _ _ ⟨rfl, rfl⟩
    rw [oneA, if_neg h1, if_pos h]
    exact ⟨_, rfl, rfl, rfl⟩
  · have h1 : op ≠ 14 := by simpa using h1
    have h2 : op ≠ 15 := by simpa using h2
    rw [oneA, if_neg h1, if_neg h2]
    exact ⟨rfl, rfl⟩
theorem sgn_mul {a b : Int} : sgnA (IntKind.u64.wrap (absA a * absA b)) (!((decide (a < 0)) == (decide (b < 0)))) = IntKind.i64.wrap (a * b) := by
  rw [wu, wi, sgnA, wi, wi]
  unfold absA
  by_cases h1 : a < 0 <;> by_cases h2 : b < 0
  · rw [if_pos h1, if_pos h2, decide_eq_true h1, decide_eq_true h2, if_neg (by decide), Int.neg_mul_neg]; omega
  · rw [if_pos h1, if_neg h2, decide_eq_true h1, decide_eq_false h2, if_pos (by decide), Int.neg_mul]; omega
  · rw [if_neg h1, if_pos h2, decide_eq_false h1, decide_eq_true h2, if_pos (by decide), Int.mul_neg]; omega
  · rw [if_neg h1, if_neg h2, decide_eq_false h1, decide_eq_false h2, if_neg (by decide)]; omega
theorem sgn_div {a b : Int} (ha : InI a) (hb : InI b) (h0 : b ≠ 0) : sgnA (IntKind.u64.wrap ((absA a).tdiv (absA b))) (!((decide (a < 0)) == (decide (b < 0)))) = IntKind.i64.wrap (a.tdiv b) := by
  have hA := absA_in ha
  have hB := absA_in hb
  have hq : 0 ≤ (absA a).tdiv (absA b) ∧ (absA a).tdiv (absA b) ≤ 9223372036854775808 := by
    refine ⟨Int.tdiv_nonneg hA.1 hB.1, ?_⟩
    refine Int.le_trans (Int.tdiv_le_self _ hA.1) hA.2
  rw [wu, Int.emod_eq_of_lt hq.1 (by omega), sgnA]
  unfold absA
  by_cases h1 : a < 0 <;> by_cases h2 : b < 0
  · rw [if_pos h1, if_pos h2, decide_eq_true h1, decide_eq_true h2, if_neg (by decide), Int.neg_tdiv_neg]
  · rw [if_pos h1, if_neg h2, decide_eq_true h1, decide_eq_false h2, if_pos (by decide), Int.neg_tdiv, Int.neg_neg]
  · rw [if_neg h1, if_pos h2, decide_eq_false h1, decide_eq_true h2, if_pos (by decide), Int.tdiv_neg, Int.neg_neg]
  · rw [if_neg h1, if_neg h2, decide_eq_false h1, decide_eq_false h2, if_neg (by decide)]
theorem sgn_mod {a b : Int} (ha : InI a) (hb : InI b) (h0 : b ≠ 0) : sgnA ((absA a).tmod (absA b)) (decide (a < 0)) = a.tmod b := by
  have hA := absA_in ha
  have hB := absA_in hb
  have key : (absA a).tmod (absA b) = if a < 0 then -(a.tmod b) else a.tmod b := by
    unfold absA
    by_cases h1 : a < 0 <;> by_cases h2 : b < 0
    · rw [if_pos h1, if_pos h2, if_pos h1, Int.neg_tmod, Int.tmod_neg]
    · rw [if_pos h1, if_neg h2, if_pos h1, Int.neg_tmod]
    · rw [if_neg h1, if_pos h2, if_neg h1, Int.tmod_neg]
    · rw [if_neg h1, if_neg h2, if_neg h1]
  have hr : 0 ≤ (absA a).tmod (absA b) := Int.tmod_nonneg _ hA.1
  have hr2 : (absA a).tmod (absA b) < absA b := Int.tmod_lt_of_pos _ (by have := absA_ne h0; omega)
  rw [sgnA]
  by_cases h1 : a < 0
  · rw [decide_eq_true h1, if_pos rfl, wr' (by omega) (by omega), key, if_pos h1, Int.neg_neg]
  · rw [decide_eq_false h1, if_neg (by decide), wr' (by omega) (by omega), key, if_neg h1]
theorem bit01 (a b : Bool) : bits .and .i64 (trA a) (trA b) = trA (a && b) := by cases a <;> cases b <;> rfl
theorem tr1 (b : Bool) : IntKind.i64.wrap (1 - trA b) = trA (!b) := by cases b <;> rfl
theorem bor_ne {a b : Int} (ha : InI a) (hb : InI b) : (bits .or .i64 a b != 0) = ((a != 0) || (b != 0)) := by
  have h3 : bits .or .i64 a b = IntKind.i64.wrap ((BitVec.ofInt 64 a ||| BitVec.ofInt 64 b).toNat : Int) := rfl
  have hz : ∀ {x : Int}, InI x → (BitVec.ofInt 64 x = 0#64 ↔ x = 0) := fun {x} hx => by
    obtain ⟨h1, h2⟩ := hx
    constructor
    · intro h
      have := congrArg BitVec.toInt h
      rw [BitVec.toInt_ofInt] at this
      simp [Int.bmod] at this
      omega
    · rintro rfl; rfl
  have hw : ∀ v : BitVec 64, (IntKind.i64.wrap (v.toNat : Int) = 0 ↔ v = 0#64) := fun v => by
    have := v.isLt
    rw [wi]
    constructor
    · intro h
      have h0 : v.toNat = 0 := by omega
      exact BitVec.eq_of_toNat_eq (by rw [h0]; rfl)
    · rintro rfl
      rw [show ((0#64).toNat : Int) = 0 from rfl]
      omega
  have hor : (BitVec.ofInt 64 a ||| BitVec.ofInt 64 b = 0#64) ↔ (a = 0 ∧ b = 0) := by
    rw [BitVec.or_eq_zero_iff, hz ha, hz hb]
  rw [h3, Bool.eq_iff_iff]
  simp only [bne_iff_ne, ne_eq, Bool.or_eq_true, hw, hor]
  omega
theorem rdo_c (w : World) (op : Int) {a b : Int} (ha : InI a) (hb : InI b) : Calls Tryz.prog 27 #[.int .i64 op, .int .i64 a, .int .i64 b] w fun e w' => e = .returned (.tuple #[.int .i64 (doA op a b).1, .int .i64 (doA op a b).2]) ∧ w' = w := by
  refine ret (pavaneref03_Do_wp op a b (fun v w' => v = .tuple #[.int .i64 (doA op a b).1, .int .i64 (doA op a b).2] ∧ w' = w) w ?_)
  unfold pavaneref03_Do_vc
  have eq : ∀ {k : Int}, (op == k) = true → op = k := fun h => by simpa using h
  have ne : ∀ {k : Int}, (op == k) = false → op ≠ k := fun h => by simpa using h
  have tr : ∀ {c : Bool} {w0 : World} {k : Int} (hk : doA k a b = (trA c, 0)), (op = k) → Calls Tryz.prog 53 #[.bool c] w fun e9 w9 => ∃ i9 : Int, e9 = (.returned (.int .i64 i9)) ∧ (Value.tuple #[.int .i64 i9, .int .i64 0] = Value.tuple #[.int .i64 (doA op a b).1, .int .i64 (doA op a b).2] ∧ w9 = w) := fun {c w0 k} hk ho => by
    subst ho
    refine (rtruth_c _ _).mono ?_
    rintro _ _ ⟨rfl, rfl⟩
    exact ⟨_, rfl, by rw [hk], rfl⟩
  have nb : ∀ {x y : Int}, (!decide (y < x)) = decide (x ≤ y) := fun {x y} => by
    by_cases h : y < x
    · rw [decide_eq_true h, decide_eq_false (by omega)]; rfl
    · rw [decide_eq_false h, decide_eq_true (by omega)]; rfl
  refine ⟨fun h => ?_, fun h0 => ⟨fun h => ?_, fun h1 => ⟨fun h => ?_, fun h2 => ⟨fun h => ?_, fun h3 => ⟨fun h => ?_, fun h4 => ⟨fun h => ?_, fun h5 => ⟨fun h => tr (w0 := w) (k := 6) rfl (eq h), fun h6 => ⟨fun h => tr (w0 := w) (k := 7) ?_ (eq h), fun h7 => ⟨fun h => tr (w0 := w) (k := 8) rfl (eq h), fun h8 => ⟨fun h => tr (w0 := w) (k := 9) ?_ (eq h), fun h9 => ⟨fun h => tr (w0 := w) (k := 10) rfl (eq h), fun h10 => ⟨fun h => tr (w0 := w) (k := 11) ?_ (eq h), fun h11 => ⟨fun h => tr (w0 := w) (k := 12) ?_ (eq h), fun h12 => ⟨fun h => tr (w0 := w) (k := 13) ?_ (eq h), fun h13 => ?_⟩⟩⟩⟩⟩⟩⟩⟩⟩⟩⟩⟩⟩⟩
  · simp only [Bool.and_eq_true, Bool.or_eq_true, beq_iff_eq] at h
    obtain ⟨h, rfl⟩ := h
    rcases h with rfl | rfl
    · exact ⟨rfl, rfl⟩
    · exact ⟨rfl, rfl⟩
  · have := eq h
    subst this
    have e : IntKind.i64.wrap (IntKind.u64.wrap (IntKind.u64.wrap a + IntKind.u64.wrap b)) = IntKind.i64.wrap (a + b) := by
      rw [wu, wu, wu, wi, wi]
      omega
    rw [e]
    exact ⟨rfl, rfl⟩
  · have := eq h
    subst this
    have e : IntKind.i64.wrap (IntKind.u64.wrap (IntKind.u64.wrap a - IntKind.u64.wrap b)) = IntKind.i64.wrap (a - b) := by
      rw [wu, wu, wu, wi, wi]
      omega
    rw [e]
    exact ⟨rfl, rfl⟩
  · have := eq h
    subst this
    refine (rsize_c w ha).mono ?_
    rintro _ _ ⟨rfl, rfl⟩
    refine ⟨_, rfl, (rsize_c _ hb).mono ?_⟩
    rintro _ _ ⟨rfl, rfl⟩
    refine ⟨_, rfl, (rsigned_c _ _ _).mono ?_⟩
    rintro _ _ ⟨rfl, rfl⟩
    rw [sgn_mul]
    exact ⟨_, rfl, rfl, rfl⟩
  · have := eq h
    subst this
    have hb0 : b ≠ 0 := by simpa using h0
    refine (rsize_c w ha).mono ?_
    rintro _ _ ⟨rfl, rfl⟩
    refine ⟨_, rfl, (rsize_c _ hb).mono ?_⟩
    rintro _ _ ⟨rfl, rfl⟩
    refine ⟨_, rfl, absA_ne hb0, (rsigned_c _ _ _).mono ?_⟩
    rintro _ _ ⟨rfl, rfl⟩
    rw [sgn_div ha hb hb0]
    refine ⟨_, rfl, ?_, rfl⟩
    have e : doA 4 a b = divA 4 a b := rfl
    rw [e, divA, if_neg hb0]
    by_cases hm : b = -1
    · subst hm
      rw [if_pos ⟨rfl, rfl⟩, Int.tdiv_neg, Int.tdiv_one, Int.zero_sub]
    · rw [if_neg (fun hh => hm hh.2), if_pos rfl]
  · have := eq h
    subst this
    have hb0 : b ≠ 0 := by simpa using h0
    refine (rsize_c w ha).mono ?_
    rintro _ _ ⟨rfl, rfl⟩
    refine ⟨_, rfl, (rsize_c _ hb).mono ?_⟩
    rintro _ _ ⟨rfl, rfl⟩
    refine ⟨_, rfl, absA_ne hb0, (rsigned_c _ _ _).mono ?_⟩
    rintro _ _ ⟨rfl, rfl⟩
    rw [sgn_mod ha hb hb0]
    refine ⟨_, rfl, ?_, rfl⟩
    have e : doA 5 a b = divA 5 a b := rfl
    rw [e, divA, if_neg hb0, if_neg (fun hh => absurd hh.1 (by decide)), if_neg (by decide)]
    by_cases hm : b = -1
    · subst hm
      rw [if_pos rfl, Int.tmod_neg, Int.tmod_one]
    · rw [if_neg hm]
  · have e : doA 7 a b = (IntKind.wrap .i64 (1 - trA (decide (b < a))), 0) := rfl
    rw [e, tr1, nb]
  · have e : doA 9 a b = (IntKind.wrap .i64 (1 - trA (decide (a < b))), 0) := rfl
    rw [e, tr1, nb]
  · have e : doA 11 a b = (IntKind.wrap .i64 (1 - trA (a == b)), 0) := rfl
    rw [e, tr1]
    rfl
  · have e : doA 12 a b = (bits .and .i64 (trA (a != 0)) (trA (b != 0)), 0) := rfl
    rw [e, bit01]
  · have e : doA 13 a b = (trA (bits .or .i64 a b != 0), 0) := rfl
    rw [e, bor_ne ha hb]
  · have e : doA op a b = (0, 11) := by
      rw [doA, if_neg (ne h1), if_neg (ne h2), if_neg (ne h3), if_neg (fun hh => hh.elim (ne h4) (ne h5)), if_neg (ne h8), if_neg (ne h6), if_neg (ne h7), if_neg (ne h9), if_neg (ne h10), if_neg (ne h11), if_neg (ne h12), if_neg (ne h13)]
    rw [e]
    exact ⟨rfl, rfl⟩
/-! ## all within 64 bits -/
theorem zero_in : InI 0 := ⟨by decide, by decide⟩
theorem trA_in (b : Bool) : InI (trA b) := by cases b <;> exact ⟨by decide, by decide⟩
theorem doA_in {op a b : Int} (ha : InI a) (hb : InI b) : InI (doA op a b).1 := by
  have z := zero_in
  have dv : InI (divA op a b).1 := by
    unfold divA
    split
    · exact z
    split
    · exact wrapIn _
    split
    · exact wrapIn _
    split
    · exact z
    · rename_i h0 _ _ _
      have h1 := sgn_mod ha hb h0
      rw [← h1, sgnA]
      split <;> exact wrapIn _
  unfold doA
  rw [bit01]
  by_cases c0 : op = 1
  · rw [if_pos c0]; exact wrapIn _
  rw [if_neg c0]
  by_cases c1 : op = 2
  · rw [if_pos c1]; exact wrapIn _
  rw [if_neg c1]
  by_cases c2 : op = 3
  · rw [if_pos c2]; exact wrapIn _
  rw [if_neg c2]
  by_cases c3 : op = 4 ∨ op = 5
  · rw [if_pos c3]; exact dv
  rw [if_neg c3]
  by_cases c4 : op = 8
  · rw [if_pos c4]; exact trA_in _
  rw [if_neg c4]
  by_cases c5 : op = 6
  · rw [if_pos c5]; exact trA_in _
  rw [if_neg c5]
  by_cases c6 : op = 7
  · rw [if_pos c6]; exact wrapIn _
  rw [if_neg c6]
  by_cases c7 : op = 9
  · rw [if_pos c7]; exact wrapIn _
  rw [if_neg c7]
  by_cases c8 : op = 10
  · rw [if_pos c8]; exact trA_in _
  rw [if_neg c8]
  by_cases c9 : op = 11
  · rw [if_pos c9]; exact wrapIn _
  rw [if_neg c9]
  by_cases c10 : op = 12
  · rw [if_pos c10]; exact trA_in _
  rw [if_neg c10]
  by_cases c11 : op = 13
  · rw [if_pos c11]; exact trA_in _
  rw [if_neg c11]
  exact z
theorem oneA_in (op a : Int) : InI (oneA op a).1 := by
  unfold oneA
  split
  · exact wrapIn _
  split
  · exact trA_in _
  · exact zero_in
theorem tookA_in {p : Int × Int} (h : InI p.1) : InI (tookA p).1 := by
  unfold tookA
  split
  · exact zero_in
  · exact h
theorem evM_in {e : Env5} (he : ∀ v, v ∈ e.V → InI v) : ∀ (d : Nat) {x : Ex}, numOk d x → InI (evM e d x).1
  | 0, _, _ => zero_in
  | d + 1, x, h => by
    have z := zero_in
    have hn : InI x.n := h.1
    have hs : ∀ y, y ∈ x.subs → InI (evM e d y).1 := fun y hy => evM_in he d (h.2 y hy)
    rw [evM]
    split
    · exact z
    split
    · exact hn
    split
    · unfold namedA
      split
      · rename_i hh
        refine he _ ?_
        rw [List.getElem?_eq_getElem hh.2]
        exact List.getElem_mem hh.2
      · exact z
    split
    · exact trA_in _
    cases hxs : x.subs with
    | nil => exact z
    | cons y r =>
      rw [hxs] at hs
      dsimp only
      split
      · exact z
      split
      · exact tookA_in (oneA_in _ _)
      split
      · exact z
      split
      · exact ⟨by decide, by decide⟩
      cases r with
      | nil => exact z
      | cons q r =>
        dsimp only
        split
        · exact z
        · exact tookA_in (doA_in (hs y (by simp)) (hs q (by simp)))
end Go.Proofs.YtmanockofcopjaaGreatDoor.Con
