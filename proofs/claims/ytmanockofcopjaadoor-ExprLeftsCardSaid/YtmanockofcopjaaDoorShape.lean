/-
  Own work: which trees have a right shape; rows of an expression; numbers as texts.
-/
import Derived.Test.YtmanockofcopjaaDoorTree
import Derived.Test.YtmanockofcopjaaDoorNam
import Derived.Lib.ItoaLen
namespace Go.Proofs.YtmanockofcopjaaDoor.Con
open Go Go.RowKit Go.Kt Go.Kt.V Go.Proofs.YtmanockofcopjaaDoor.Vc
set_option linter.unusedSimpArgs false
set_option linter.unusedVariables false
set_option maxHeartbeats 4000000

def levM (x : Ex) : Int := if x.k = 5 then rowOf x.op else 6
theorem level_c {w : World} {F : Nat → Prop} {x : Ex} {cs : List Value} {d : Nat} (h : rEx d w F x cs) : Calls Tryd.prog 30 #[.agg cs.toArray] w fun e w' => e = .returned (.int .i64 (levM x)) ∧ Only [] w w' := by
  cases d with
  | zero => exact h.elim
  | succ d =>
    obtain ⟨sl, rfl, h⟩ := h
    refine ret (expr_level_wp x.k x.n (T x.s) x.op sl x.a (fun v w' => v = .int .i64 (levM x) ∧ Only [] w w') w ?_)
    unfold expr_level_vc
    refine ⟨fun hc k0 w0 _ _ hO => ?_, fun hc k1 w1 hk hk' hO => (erow_c w1 x.op).mono ?_⟩
    · have hc : x.k ≠ 5 := by simpa using hc
      rw [levM, if_neg hc]
      exact ⟨rfl, hO⟩
    · rintro _ w2 ⟨rfl, rfl⟩
      have hc : x.k = 5 := by simpa using hc
      rw [levM, if_pos hc]
      exact ⟨_, rfl, fun _ _ => rfl, rfl, hO⟩

/-! ## shape -/
def eqM (n : Int) (s : List UInt8) (op len : Int) (x : Ex) : Bool := ((((x.n == n) && decide (x.s = s)) && (x.op == op)) && ((x.subs.length : Int) == len))
def headM (x : Ex) : Bool :=
  if x.k = 1 then eqM (if 0 > x.n then 0 else x.n) [] 0 0 x
  else if x.k = 2 ∨ x.k = 3 then nameM x.s && eqM 0 x.s 0 0 x
  else if x.k = 4 then eqM 0 [] (if x.op = 15 then 15 else 14) 1 x
  else if x.k = 5 then !(rowOf x.op == 6) && eqM 0 [] x.op 2 x
  else false
def all1 (f : Ex → Bool) : List Ex → Bool
  | [] => true
  | x :: xs => f x && all1 f xs
def shapeM : Nat → Ex → Bool
  | 0, _ => false
  | d + 1, x => headM x && all1 (shapeM d) x.subs
theorem all1_drop {f : Ex → Bool} {xs : List Ex} {n : Nat} {x : Ex} (hx : xs[n]? = some x) : all1 f (xs.drop n) = (f x && all1 f (xs.drop (n + 1))) := by
  rw [List.drop_eq_getElem_cons (List.getElem?_eq_some_iff.1 hx).1, (List.getElem?_eq_some_iff.1 hx).2, all1]
theorem rEx_cells {d : Nat} {w : World} {F : Nat → Prop} {x : Ex} {cs : List Value} (h : rEx d w F x cs) : ∃ sl : Sl, cs = exv x.k x.n x.s x.op sl x.a := by
  cases d with
  | zero => exact h.elim
  | succ d => obtain ⟨l, hcs, _⟩ := h; exact ⟨l, hcs⟩
/-- all texts in a tree are of a size -/
def lenOk : Nat → Ex → Prop
  | 0, _ => True
  | d + 1, x => x.s.length < 4611686018427387903 ∧ ∀ y, y ∈ x.subs → lenOk d y
abbrev ShD (d : Nat) : Prop := ∀ {w : World} {F : Nat → Prop} {x : Ex} {cs : List Value}, lenOk d x → rEx d w F x cs → Calls Tryd.prog 9 #[.agg cs.toArray] w fun e w' => e = .returned (.bool (shapeM d x)) ∧ Only [] w w'
theorem shape1_c {d : Nat} (hS : ShD d) {w : World} {F : Nat → Prop} {x : Ex} {cs : List Value} (hl : lenOk d x) (h : rEx d w F x cs) : Calls Tryd.prog 25 #[.agg cs.toArray] w fun e w' => e = .returned (.bool (!shapeM d x)) ∧ Only [] w w' := by
  obtain ⟨sl, rfl⟩ := rEx_cells h
  refine ret (expr_shape_1_wp x.k x.n (T x.s) x.op sl x.a (fun v w' => v = .bool (!shapeM d x) ∧ Only [] w w') w ?_)
  unfold expr_shape_1_vc
  intro k0 w0 hk hk' hO
  refine (hS hl (rEx_only h hO)).mono ?_
  rintro _ w1 ⟨rfl, hO1⟩
  exact ⟨_, rfl, hO1.same (by simp; omega), rfl, hO.tr0 hO1⟩
theorem indexX_c {d : Nat} (hS : ShD d) {w : World} {F : Nat → Prop} {l : Sl} {xs : List Ex} (hl : ∀ y, y ∈ xs → lenOk d y) (h : SliceF (rEx d) 6 w F l xs) : Calls Tryd.prog 44 #[l.v, .func (.func 25) #[] #[]] w fun e w' => ∃ i : Int, e = .returned (.int .i64 i) ∧ decide (i ≥ 0) = !all1 (shapeM d) xs ∧ Only [] w w' := by
  refine (slices_IndexFunc_api_Expr_wp l ⟨.func (.func 25) #[] #[], rfl⟩ (fun v w' => ∃ i : Int, v = .int .i64 i ∧ decide (i ≥ 0) = !all1 (shapeM d) xs ∧ Only [] w w') w ?_).mono (by
    rintro e w' ⟨v, rfl, i, rfl, h⟩; exact ⟨i, rfl, h⟩)
  unfold slices_IndexFunc_api_Expr_vc
  have hlen := h.len
  have hbig := h.big
  have hcap := h.cap
  refine ⟨fun nv i w' => ∃ n : Nat, n ≤ xs.length ∧ i = (n : Int) ∧ nv = xs.length - n ∧ all1 (shapeM d) xs = all1 (shapeM d) (xs.drop n) ∧ Only [] w w', xs.length, ⟨0, Nat.zero_le _, rfl, rfl, rfl, Only.refl _ _⟩, ?_⟩
  rintro nv _ w0 ⟨n, hn, rfl, rfl, hall, hO0⟩
  refine ⟨fun hc => ?_, fun hc => ?_⟩
  · have hlt : (n : Int) < l.n := of_decide_eq_true hc
    obtain ⟨ad, x, cs, g1, g2, g3, g4, g5, g6⟩ := (SliceF.only (rEx_ok d) (by decide) h hO0 (by simp)).get (Int.natCast_nonneg n) hlt
    rw [Int.toNat_natCast] at g2
    obtain ⟨sl, rfl⟩ := rEx_cells g6
    refine ⟨ad, g1, _, _, _, _, _, _, g5, 25, [], [], rfl, fnOk_run (by kernel_rfl), ?_⟩
    refine (shape1_c hS (hl x (List.mem_of_getElem? g2)) g6).mono ?_
    rintro _ w1 ⟨rfl, hO1⟩
    have hst := all1_drop (f := shapeM d) g2
    refine ⟨_, rfl, fun hb => ⟨_, rfl, ?_, hO0.tr0 hO1⟩, fun hb => ⟨xs.length - (n + 1), by omega, n + 1, by omega, by rw [wr' (by omega) (by omega)]; rfl, rfl, ?_, hO0.tr0 hO1⟩⟩
    · have hb : shapeM d x = false := by simpa using hb
      rw [hall, hst, hb, Bool.false_and, Bool.not_false]
      exact decide_eq_true (Int.natCast_nonneg n)
    · have hb : shapeM d x = true := by simpa using hb
      rw [hall, hst, hb, Bool.true_and]
  · have hge : ¬ (n : Int) < l.n := of_decide_eq_false hc
    refine ⟨_, rfl, ?_, hO0⟩
    rw [hall, List.drop_of_length_le (by omega)]
    rfl
theorem containsX_c {d : Nat} (hS : ShD d) {w : World} {F : Nat → Prop} {l : Sl} {xs : List Ex} (hl : ∀ y, y ∈ xs → lenOk d y) (h : SliceF (rEx d) 6 w F l xs) : Calls Tryd.prog 24 #[l.v, .func (.func 25) #[] #[]] w fun e w' => e = .returned (.bool (!all1 (shapeM d) xs)) ∧ Only [] w w' := by
  refine ret (slices_ContainsFunc_api_Expr_wp l ⟨.func (.func 25) #[] #[], rfl⟩ (fun v w' => v = .bool (!all1 (shapeM d) xs) ∧ Only [] w w') w ?_)
  unfold slices_ContainsFunc_api_Expr_vc
  refine (indexX_c hS hl h).mono ?_
  rintro _ w0 ⟨i, rfl, h1, h2⟩
  exact ⟨_, rfl, by rw [h1], h2⟩
theorem shape_c : ∀ d, ShD d
  | 0, _, _, _, _, _, h => h.elim
  | d + 1, w, F, x, cs, ⟨hl0, hl⟩, ⟨sl, h1, h2⟩ => by
    subst h1
    refine ret (expr_shape_wp x.k x.n (T x.s) x.op sl x.a (fun v w' => v = .bool (shapeM (d + 1) x) ∧ Only [] w w') w ?_)
    unfold expr_shape_vc
    intro k0 k1 w0 hk0 hk0' hk1 hk1' hO0
    have z0 := hO0.size
    have hn := h2.len
    have hs : ∀ {b : Bool}, headM x = b → shapeM (d + 1) x = (b && all1 (shapeM d) x.subs) := fun e => by rw [shapeM, e]
    have own : ∀ {w1 w2 : World}, Only [] w w1 → Only [k1] w1 w2 → Only [] w w2 := fun h1 h2 => h1.new h2 hk1
    refine ⟨fun i0 i1 i2 s0 i3 l0 i4 w1 => ∃ s, s0 = T s ∧ headM x = eqM i2 s i3 i0 x ∧ Only [] w w1 ∧ w0.heap.size ≤ w1.heap.size, ?_, fun hk w4 hO4 => ⟨[], rfl, ?_, own hO0 hO4, hO4.size⟩, fun hk => ?_⟩
    · rintro i0 i1 i2 _ i3 l0 i4 w1 ⟨s, rfl, he, hO1, z1⟩
      have hc : ((((x.n == i2) && ((T x.s).toList == (T s).toList)) && (x.op == i3)) && ((sl.n : Int) == i0)) = headM x := by
        rw [he, T_eq, hn]
        rfl
      rw [hc]
      refine ⟨fun b w' => b = shapeM (d + 1) x ∧ Only [] w w', ?_, fun hh => (containsX_c (shape_c d) hl (SliceF.only (rEx_ok d) (by decide) h2 hO1 (by simp))).mono ?_, fun hh => ⟨by rw [hs hh, Bool.false_and], hO1⟩⟩
      · rintro _ w2 ⟨rfl, h⟩
        exact ⟨rfl, h⟩
      · rintro _ w3 ⟨rfl, hO3⟩
        exact ⟨_, rfl, hO3.same (by simp; omega), by rw [hs hh, Bool.true_and, Bool.not_not], hO1.tr0 hO3⟩
    · have hk : x.k = 1 := by simpa using hk
      rw [headM, if_pos hk]
    · have hk1 : x.k ≠ 1 := by simpa using hk
      refine ⟨fun b w' => b = decide (x.k = 2 ∨ x.k = 3) ∧ w' = w0, ?_, fun hk2 => ⟨?_, rfl⟩, fun hk2 => ⟨?_, rfl⟩⟩
      · rintro _ _ ⟨rfl, rfl⟩
        refine ⟨fun hk => (name_c x.s (by omega)).mono ?_, fun hk => ⟨fun hk4 => ⟨fun ho w8 hO8 => ⟨[], rfl, ?_, own hO0 hO8, hO8.size⟩, fun ho w9 hO9 => ⟨[], rfl, ?_, own hO0 hO9, hO9.size⟩⟩, fun hk4 => ⟨fun hk5 => (erow_c _ x.op).mono ?_, fun hk5 => ⟨?_, hO0⟩⟩⟩⟩
        · rintro _ w6 ⟨rfl, hO6⟩
          have z6 := hO6.size
          have hk := of_decide_eq_true hk
          refine ⟨_, rfl, hO6.same (by simp; omega), fun hb => ⟨?_, hO0.tr0 hO6⟩, fun hb w7 hO7 => ⟨x.s, rfl, ?_, own (hO0.tr0 hO6) hO7, by have := hO7.size; omega⟩⟩
          · have hb : nameM x.s = false := by simpa using hb
            rw [hs (b := false) (by rw [headM, if_neg hk1, if_pos hk, hb, Bool.false_and]), Bool.false_and]
          · have hb : nameM x.s = true := by simpa using hb
            rw [headM, if_neg hk1, if_pos hk, hb, Bool.true_and]
        · have hk := of_decide_eq_false hk
          have hk4 : x.k = 4 := by simpa using hk4
          have ho : x.op = 15 := by simpa using ho
          rw [headM, if_neg hk1, if_neg hk, if_pos hk4, if_pos ho]
        · have hk := of_decide_eq_false hk
          have hk4 : x.k = 4 := by simpa using hk4
          have ho : x.op ≠ 15 := by simpa using ho
          rw [headM, if_neg hk1, if_neg hk, if_pos hk4, if_neg ho]
        · rintro _ w10 ⟨rfl, rfl⟩
          have hk := of_decide_eq_false hk
          have hk4 : x.k ≠ 4 := by simpa using hk4
          have hk5 : x.k = 5 := by simpa using hk5
          refine ⟨_, rfl, fun _ _ => rfl, fun hb => ⟨?_, hO0⟩, fun hb w11 hO11 => ⟨[], rfl, ?_, own hO0 hO11, hO11.size⟩⟩
          · rw [hs (b := false) (by rw [headM, if_neg hk1, if_neg hk, if_neg hk4, if_pos hk5, hb, Bool.not_true, Bool.false_and]), Bool.false_and]
          · rw [headM, if_neg hk1, if_neg hk, if_neg hk4, if_pos hk5, hb, Bool.not_false, Bool.true_and]
        · have hk := of_decide_eq_false hk
          have hk4 : x.k ≠ 4 := by simpa using hk4
          have hk5 : x.k ≠ 5 := by simpa using hk5
          rw [hs (b := false) (by rw [headM, if_neg hk1, if_neg hk, if_neg hk4, if_neg hk5]), Bool.false_and]
      · have hk2 : x.k = 2 := by simpa using hk2
        rw [hk2]; rfl
      · have hk2 : x.k ≠ 2 := by simpa using hk2
        rw [Bool.eq_iff_iff]
        simp [hk2]

/-! ## a number's text -/
def Tb (w : World) : Prop := Lib.TabIs Tryd.prog w "internal/strconv.uint64pow10" .u64 Lib.pow10Tab
theorem tb_num : Tryd.prog.globalNamed "internal/strconv.uint64pow10" = some 1 := by kernel_rfl
theorem Tb.keep {w w' : World} (h : Tb w) (hk : 1 < w.heap.size → w'.heap[1]? = w.heap[1]?) : Tb w' := by
  unfold Tb Lib.TabIs World.var? at h ⊢
  rw [tb_num] at h ⊢
  simp only [Option.bind_some] at h ⊢
  rw [hk]
  · exact h
  · refine Decidable.byContradiction fun hn => ?_
    rw [Array.getElem?_eq_none (by omega)] at h
    cases h
theorem Tb.lt {w : World} (h : Tb w) : 1 < w.heap.size := by
  unfold Tb Lib.TabIs World.var? at h
  rw [tb_num] at h
  simp only [Option.bind_some] at h
  refine Decidable.byContradiction fun hn => ?_
  rw [Array.getElem?_eq_none (by omega)] at h
  cases h
theorem Tb.only {w w' : World} (h : Tb w) (hO : Only [] w w') : Tb w' := h.keep fun hlt => hO.block _ hlt (by simp)
theorem Only.grown (w : World) (k : Nat) (os : Array Obj) : Only [] w (Go.Sort.grow (w.drewN k) os) := ⟨rfl, rfl, rfl, by simp [Go.Sort.grow], fun q hq _ => by
  simp only [Go.Sort.grow, World.heap_drewN]
  rw [Array.getElem?_append_left hq]⟩
theorem ctext_c {w : World} (n : Int) (hn : InI n) (hT : Tb w) : Calls Tryd.prog 29 #[.int .i64 n] w fun e w' => e = .returned (.string (T (Lib.itoa n))) ∧ Only [] w w' := by
  refine ret (calc_Text_wp n (fun v w' => v = .string (T (Lib.itoa n)) ∧ Only [] w w') w ?_)
  unfold calc_Text_vc
  refine (Tryd.strconv_Itoa n hn.1 hn.2 w hT).mono ?_
  rintro _ w0 ⟨rfl, k, os, rfl⟩
  exact ⟨_, rfl, rfl, Only.grown _ _ _⟩
end Go.Proofs.YtmanockofcopjaaDoor.Con
