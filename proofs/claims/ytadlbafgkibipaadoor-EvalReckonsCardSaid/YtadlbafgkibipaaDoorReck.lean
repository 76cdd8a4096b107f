/-
  Own work: EvalReckons.
-/
import Derived.Test.YtadlbafgkibipaaDoorEvS
namespace Go.Proofs.YtadlbafgkibipaaDoor.Con
open Go Go.RowKit Go.Kt Go.Kt.V Go.Proofs.YtadlbafgkibipaaDoor.Vc
set_option linter.unusedSimpArgs false
set_option linter.unusedVariables false
set_option maxHeartbeats 4000000


/-! ## two numbers -/
theorem or_ne {a b : Int} (ha : InI a) (h : a ≠ 0) : bits .or .i64 a b ≠ 0 := by
  have h3 : bits .or .i64 a b = IntKind.i64.wrap ((BitVec.ofInt 64 a ||| BitVec.ofInt 64 b).toNat : Int) := rfl
  rw [h3]
  intro e
  have hlt := (BitVec.ofInt 64 a ||| BitVec.ofInt 64 b).isLt
  have hz : (BitVec.ofInt 64 a ||| BitVec.ofInt 64 b).toNat = 0 := by
    rw [IntKind.wrap_i64] at e
    omega
  rw [BitVec.toNat_or, Nat.or_eq_zero_iff] at hz
  have h1 := hz.1
  rw [BitVec.toNat_ofInt] at h1
  have := ha.1
  have := ha.2
  omega
theorem trA_t {b : Bool} (h : b = true) : trA b = 1 := by rw [h]; rfl
theorem took_do (op a b : Int) : tookA (doA op a b) = doA op a b := by
  have dv : tookA (divA op a b) = divA op a b := by
    unfold divA
    split
    · rfl
    split
    · rfl
    split
    · rfl
    split
    · rfl
    · rfl
  have tk : ∀ n : Int, tookA (n, 0) = (n, 0) := fun n => rfl
  have te : tookA (0, 11) = (0, 11) := rfl
  have ti : ∀ (c : Prop) [Decidable c] (p q : Int × Int), tookA (if c then p else q) = if c then tookA p else tookA q := fun c _ p q => by
    by_cases h : c
    · rw [if_pos h, if_pos h]
    · rw [if_neg h, if_neg h]
  unfold doA
  rw [ti, ti, ti, ti, ti, ti, ti, ti, ti, ti, ti, ti, tk, tk, tk, dv, tk, tk, tk, tk, tk, tk, tk, tk, te]
theorem took_one (op a : Int) : tookA (oneA op a) = oneA op a := by
  unfold oneA
  split
  · rfl
  split
  · rfl
  · rfl
theorem rk_do (d : Nat) (op a b : Int) (ha : InI a) : evM ⟨[[118]], [b], []⟩ (d + 2) (.mk 5 0 [] op [.mk 1 a [] 0 [] 0, .mk 2 0 [118] 0 [] 0] 0) = doA op a b := by
  have hy : evM ⟨[[118]], [b], []⟩ (d + 1) (.mk 1 a [] 0 [] 0) = (a, 0) := rfl
  have hz : evM ⟨[[118]], [b], []⟩ (d + 1) (.mk 2 0 [118] 0 [] 0) = (b, 0) := rfl
  have e : evM ⟨[[118]], [b], []⟩ (d + 2) (.mk 5 0 [] op [.mk 1 a [] 0 [] 0, .mk 2 0 [118] 0 [] 0] 0) = (if op = 12 ∧ a = 0 then (0, 0) else if op = 13 ∧ a ≠ 0 then (1, 0) else tookA (doA op a b)) := rfl
  rw [e]
  split
  · rename_i h
    rw [h.1, h.2]
    have : doA 12 0 b = (bits .and .i64 0 (trA (b != 0)), 0) := rfl
    rw [this]
    have hz : bits .and .i64 0 (trA (b != 0)) = 0 := by
      cases hb : (b != 0) <;> rfl
    rw [hz]
  split
  · rename_i h
    rw [h.1]
    have : doA 13 a b = (trA (bits .or .i64 a b != 0), 0) := rfl
    rw [this, trA_t (by simpa using or_ne ha h.2)]
  · exact took_do op a b
theorem rk_one (d : Nat) (op a : Int) : evM ⟨[], [], []⟩ (d + 2) (.mk 4 0 [] op [.mk 1 a [] 0 [] 0] 0) = oneA op a := by
  have e : evM ⟨[], [], []⟩ (d + 2) (.mk 4 0 [] op [.mk 1 a [] 0 [] 0] 0) = tookA (oneA op a) := rfl
  rw [e, took_one]
theorem leaf_ex {w : World} {F : Nat → Prop} (k n : Int) (s : List UInt8) (op a : Int) : rEx 1 w F (.mk k n s op [] a) (exv k n s op Sl.nil a) := ⟨Sl.nil, rfl, SliceF.nil _ _ _ _⟩
theorem reckons_c {w : World} (op a b : Int) (ha : InI a) (hb : InI b) (hE : Er w) : Calls Tryd.prog 3 #[.int .i64 op, .int .i64 a, .int .i64 b] w fun e w' => e = .returned (.bool true) ∧ Only [] w w' := by
  refine ret (pavanelaw06_EvalReckons_wp op a b (fun v w' => v = .bool true ∧ Only [] w w') w ?_)
  unfold pavanelaw06_EvalReckons_vc
  refine (evsmall_c w hE).mono ?_
  rintro _ w0 ⟨rfl, hO0⟩
  have z0 := hO0.size
  obtain ⟨w1, e1, hB1, hO1⟩ := buildX w0 [exv 1 a [] 0 Sl.nil 0, exv 2 0 [118] 0 Sl.nil 0] (by simp) (by simp) (by simp) (parts := #[(0, .agg (exv 1 a [] 0 Sl.nil 0).toArray), (1, .agg (exv 2 0 [118] 0 Sl.nil 0).toArray)]) rfl
  have z1 := hO1.size
  refine ⟨true, rfl, _, w1, e1, fun k0 w2 hk0 hk0' hO2 => ?_⟩
  have z2 := hO2.size
  obtain ⟨l1, w3, a3, b3, c3⟩ := buildT w2 [[118]] (n := 1) (parts := #[(0, .string (T [118]))]) rfl rfl (by decide) (by decide)
  have z3 := c3.size
  obtain ⟨l2, w4, a4, b4, c4⟩ := buildI w3 [b] (fun x hx => by rw [List.mem_singleton] at hx; rw [hx]; exact hb) (n := 1) (parts := #[(0, .int .i64 b)]) rfl rfl (by decide) (by decide)
  have z4 := c4.size
  refine ⟨l1, w3, a3, c3.same (by simp; omega), l2, w4, a4, c4.same (by simp; omega), ?_⟩
  have hO14 := (hO2.tr0 c3).tr0 c4
  have hB4 := hO14.blk hB1 (by simp)
  have hx : rEx 2 w4 (fun _ => True) (.mk 5 0 [] op [.mk 1 a [] 0 [] 0, .mk 2 0 [118] 0 [] 0] 0) (exv 5 0 [] op ⟨some ⟨w0.heap.size, 0, none⟩, 2, 2⟩ 0) := by
    refine ⟨_, rfl, rfl, Nat.le_refl _, fun h => (by cases h), (by decide : (2 : Nat) ≤ 9223372036854775807), fun j y hj => ?_⟩
    rcases j with _ | _ | j
    · simp only [Ex.subs, List.getElem?_cons_zero, Option.some.injEq] at hj
      subst hj
      exact ⟨⟨w0.heap.size, 0, none⟩, exv 1 a [] 0 Sl.nil 0, rfl, trivial, rfl, by rw [Nat.zero_mul]; exact hB4.cells 0 _ fun j v hv => by rw [Nat.zero_add, List.flatten_cons, List.getElem?_append_left (List.getElem?_eq_some_iff.1 hv).1]; exact hv, leaf_ex _ _ _ _ _⟩
    · simp only [Ex.subs, List.getElem?_cons_succ, List.getElem?_cons_zero, Option.some.injEq] at hj
      subst hj
      refine ⟨⟨w0.heap.size, 0, none⟩, exv 2 0 [118] 0 Sl.nil 0, rfl, trivial, rfl, ?_, leaf_ex _ _ _ _ _⟩
      rw [addr_lit]
      exact hB4.cells 6 _ fun j v hv => by
        rw [List.flatten_cons, List.getElem?_append_right (show (exv 1 a [] 0 Sl.nil 0).length ≤ 6 + j from Nat.le_add_right 6 j), show 6 + j - (exv 1 a [] 0 Sl.nil 0).length = j from Nat.add_sub_cancel_left 6 j, List.flatten_cons, List.flatten_nil, List.append_nil]
        exact hv
    · simp [Ex.subs] at hj
  have hev := eval_c (e := ⟨[[118]], [b], []⟩) (F := fun _ => True) hx (SliceF.only rTx_ok (by decide) (SliceF.mono rTx_ok b3 fun _ _ => trivial) c4 (by simp)) (SliceF.mono rInt_ok b4 fun _ _ => trivial) (SliceF.nil rTx 1 w4 fun _ => True)
  rw [show evM ⟨[[118]], [b], []⟩ 2 _ = doA op a b from rk_do 0 op a b ha] at hev
  refine hev.mono ?_
  rintro _ w5 ⟨rfl, hO5⟩
  have z5 := hO5.size
  refine ⟨_, _, rfl, hO5.same (by simp; omega), (do_c w5 op a b).mono ?_⟩
  rintro _ w6 ⟨rfl, rfl⟩
  obtain ⟨w7, e7, hB7, hO7⟩ := buildX w6 [exv 1 a [] 0 Sl.nil 0] (by simp) (by simp) (by simp) (parts := #[(0, .agg (exv 1 a [] 0 Sl.nil 0).toArray)]) rfl
  have z7 := hO7.size
  refine ⟨_, _, rfl, fun _ _ => rfl, _, w7, e7, hO7.same (by simp; omega), fun k1 w8 hk1 hk1' hO8 => ?_⟩
  have z8 := hO8.size
  have hB8 := hO8.blk hB7 (by simp)
  have hy : rEx 2 w8 (fun _ => True) (.mk 4 0 [] op [.mk 1 a [] 0 [] 0] 0) (exv 4 0 [] op ⟨some ⟨w6.heap.size, 0, none⟩, 1, 1⟩ 0) := by
    refine ⟨_, rfl, rfl, Nat.le_refl _, fun h => (by cases h), (by decide : (1 : Nat) ≤ 9223372036854775807), fun j y hj => ?_⟩
    rcases j with _ | j
    · simp only [Ex.subs, List.getElem?_cons_zero, Option.some.injEq] at hj
      subst hj
      exact ⟨⟨w6.heap.size, 0, none⟩, exv 1 a [] 0 Sl.nil 0, rfl, trivial, rfl, by rw [Nat.zero_mul]; exact hB8.cells 0 _ fun j v hv => by rw [Nat.zero_add, List.flatten_cons, List.getElem?_append_left (List.getElem?_eq_some_iff.1 hv).1]; exact hv, leaf_ex _ _ _ _ _⟩
    · simp [Ex.subs] at hj
  have hev2 := eval_c (e := ⟨[], [], []⟩) (F := fun _ => True) hy (SliceF.nil rTx 1 w8 fun _ => True) (SliceF.nil rInt 1 w8 fun _ => True) (SliceF.nil rTx 1 w8 fun _ => True)
  rw [show evM ⟨[], [], []⟩ 2 _ = oneA op a from rk_one 0 op a] at hev2
  refine hev2.mono ?_
  rintro _ w9 ⟨rfl, hO9⟩
  have z9 := hO9.size
  refine ⟨_, _, rfl, hO9.same (by simp; omega), (one1_c w9 op a).mono ?_⟩
  rintro _ w10 ⟨rfl, rfl⟩
  refine ⟨_, _, rfl, fun _ _ => rfl, ?_, (((((hO0.tr0 hO1).tr0 hO14).tr0 hO5).tr0 hO7).tr0 hO8).tr0 hO9⟩
  simp
end Go.Proofs.YtadlbafgkibipaaDoor.Con
