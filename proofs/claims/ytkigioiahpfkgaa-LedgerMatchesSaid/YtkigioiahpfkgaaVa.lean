/-
  Own work, printed by a program of ours (gen.py): of each Go function what is to be shown of a call ('.._vc'), and that it suffices ('.._wp'). Nothing is assumed.
-/
import Derived.Test.YtkigioiahpfkgaaRows
import Derived.Test.YtkigioiahpfkgaaBase
namespace Go.Proofs.Ytkigioiahpfkgaa.Vc
open Go Go.RowKit Go.Kt
set_option linter.unusedSimpArgs false
set_option linter.unusedVariables false
set_option maxRecDepth 100000
set_option maxHeartbeats 4000000
/-- what is to be shown of a call of pavanelaw24.LedgerFits -/
def pavanelaw24_LedgerFits_vc (base : Int) (term_ : Int) (l : Sl) (prev : Int) (of_ : Int) (m : Sl) (R : Value → World → Prop) (w : World) : Prop :=
  Calls Try.prog 5 #[] w (fun e w_ => ∃ x1 : Bool, e = .returned (.bool x1) ∧
  Calls Try.prog 6 #[.int .i64 base, .int .i64 term_, Sl.v l] w_ (fun e w_1 => ∃ x0 : Option Addr, ∃ x11 : Int, e = .returned (.tuple #[.pointer x0, .int .i64 x11]) ∧
  (((((((!x1) || (x11 != 0)) || (Option.isNone x0)) || (decide (prev < 0))) || (decide (prev > 1099511627776))) = true →
  R (.bool x1) w_1) ∧
  ((((((!x1) || (x11 != 0)) || (Option.isNone x0)) || (decide (prev < 0))) || (decide (prev > 1099511627776))) = false →
  Calls Try.prog 7 #[.pointer x0, .int .i64 prev, .int .i64 of_, Sl.v m] w_1 (fun e w_2 => ∃ x01 : Int, ∃ x12 : Sl, ∃ x2 : Int, e = .returned (.tuple #[.int .i64 x01, Sl.v x12, .int .i64 x2]) ∧
  (((x2 != 0) = true →
  R (.bool (((x01 == 0) && ((↑(Sl.n x12) : Int) == 0)) && ((x2 == 1) || (x2 == 55)))) w_2) ∧
  ((x2 != 0) = false →
  Calls Try.prog 8 #[.pointer x0, Sl.v x12] w_2 (fun e w_3 => ∃ x3 : Int, e = .returned (.int .i64 x3) ∧
  Calls Try.prog 7 #[.pointer x0, .int .i64 prev, .int .i64 of_, Sl.v m] w_3 (fun e w_4 => ∃ x02 : Int, ∃ x13 : Sl, ∃ x21 : Int, e = .returned (.tuple #[.int .i64 x02, Sl.v x13, .int .i64 x21]) ∧
  ((((!(((((x3 == 0) && (x21 == 0)) && (x02 == x01)) && ((↑(Sl.n x13) : Int) == 0)) && ((IntKind.i64.wrap (x01 - prev)) == (↑(Sl.n m) : Int)))) || (decide (x01 < base))) = true →
  R (.bool (((((x3 == 0) && (x21 == 0)) && (x02 == x01)) && ((↑(Sl.n x13) : Int) == 0)) && ((IntKind.i64.wrap (x01 - prev)) == (↑(Sl.n m) : Int)))) w_4) ∧
  (((!(((((x3 == 0) && (x21 == 0)) && (x02 == x01)) && ((↑(Sl.n x13) : Int) == 0)) && ((IntKind.i64.wrap (x01 - prev)) == (↑(Sl.n m) : Int)))) || (decide (x01 < base))) = false →
  Calls Try.prog 9 #[.pointer x0, .int .i64 (IntKind.i64.wrap ((if base > prev then base else prev) + 1)), .int .i64 (IntKind.i64.wrap (x01 - (if base > prev then base else prev)))] w_4 (fun e w_5 => ∃ x4 : Sl, e = .returned (Sl.v x4) ∧
  ∃ lo : Nat, ((if IntKind.i64.wrap ((if base > prev then base else prev) - prev) < (↑(Sl.n m) : Int) then IntKind.i64.wrap ((if base > prev then base else prev) - prev) else (↑(Sl.n m) : Int)) = ↑lo ∧ lo ≤ (Sl.n m) ∧ (Sl.n m) ≤ (Sl.c m) ∧ (Sl.c m) ≤ Sl.c m) ∧
  ∃ (I_ : Nat → Int → World → Prop) (nv1 : Nat), I_ nv1 0 w_5 ∧
  ∀ (nv : Nat) (i : Int) (w_6 : World), I_ nv i w_6 →
  ((((decide (i < (↑(Sl.n x4) : Int))) && (decide (i < (↑(Sl.n (Sl.cut m lo (Sl.n m) (Sl.c m) 4)) : Int)))) = true →
  ∃ ad : Addr, SlAt x4 i 4 ad ∧
  ∃ x5 : Int, Cells w_6 (Addr.add ad 0) [.int .i64 x5] ∧
  ∃ ad1 : Addr, SlAt (Sl.cut m lo (Sl.n m) (Sl.c m) 4) i 4 ad1 ∧
  ∃ x6 : Int, Cells w_6 (Addr.add ad1 0) [.int .i64 x6] ∧
  ∃ ad2 : Addr, ((x5 != x6) = false → SlAt x4 i 4 ad2) ∧
  ∃ x7 : Int, ((x5 != x6) = false → Cells w_6 (Addr.add ad2 1) [.int .i64 x7]) ∧
  ∃ ad3 : Addr, ((x5 != x6) = false → SlAt (Sl.cut m lo (Sl.n m) (Sl.c m) 4) i 4 ad3) ∧
  ∃ x8 : Int, ((x5 != x6) = false → Cells w_6 (Addr.add ad3 1) [.int .i64 x8]) ∧
  ((((x5 != x6) || (x7 != x8)) = true →
  ∀ (w_7 : World), Only [] w_6 w_7 →
  R (.bool false) w_7) ∧
  (((x5 != x6) || (x7 != x8)) = false →
  ∀ (w_7 : World), Only [] w_6 w_7 →
  ∃ nv2 : Nat, nv2 < nv ∧ I_ nv2 (IntKind.i64.wrap (i + 1)) w_7))) ∧
  (((decide (i < (↑(Sl.n x4) : Int))) && (decide (i < (↑(Sl.n (Sl.cut m lo (Sl.n m) (Sl.c m) 4)) : Int)))) = false →
  R (.bool ((↑(Sl.n x4) : Int) == (↑(Sl.n (Sl.cut m lo (Sl.n m) (Sl.c m) 4)) : Int))) w_6))))))))))))))
theorem pavanelaw24_LedgerFits_wp (base : Int) (term_ : Int) (l : Sl) (prev : Int) (of_ : Int) (m : Sl) (R : Value → World → Prop) (w : World) (h : pavanelaw24_LedgerFits_vc base term_ l prev of_ m R w) :
    Calls Try.prog 3 #[.int .i64 base, .int .i64 term_, Sl.v l, .int .i64 prev, .int .i64 of_, Sl.v m] w fun e w' => ∃ v, e = .returned v ∧ R v w' := by
  unfold pavanelaw24_LedgerFits_vc at h
  refine calls_of (k := 178) Try.func3 rfl Try.ntmps3 rfl rfl ?_
  simp only [List.replicate, List.cons_append, List.nil_append]
  refine wp_seq ?_
  refine wp_region_lit ?_
  refine st_val (.bool false) (wn rfl) rfl (by simp only [f0, f1, f2]; rfl) ?_
  refine wpList_nil ?_
  refine then_normal ?_
  refine wp_seq ?_
  refine wp_region_lit ?_
  refine st_one (wn rfl) ?_
  refine o_enter (args := #[]) (r_enter Try.call5 rfl) (h.mono ?_)
  clear h
  rintro _ w_ ⟨x1, rfl, h⟩
  refine ⟨_, _, rfl, (by simp only [f0, f1, f2]; rfl), ?_⟩
  refine st_val (.bool x1) (wn rfl) rfl (by simp only [f0, f1, f2]; rfl) ?_
  refine wpList_nil ?_
  refine then_normal ?_
  refine wp_seq ?_
  refine wp_region_lit ?_
  refine st_val (.int .i64 base) (wn rfl) rfl (by simp only [f0, f1, f2]; rfl) ?_
  refine st_val (.int .i64 term_) (wn rfl) rfl (by simp only [f0, f1, f2]; rfl) ?_
  refine st_val (Sl.v l) (wn rfl) rfl (by simp only [f0, f1, f2]; rfl) ?_
  refine st_one (wn rfl) ?_
  refine o_enter (args := #[.int .i64 base, .int .i64 term_, Sl.v l]) (r_enter Try.call6 rfl) (h.mono ?_)
  clear h
  rintro _ w_1 ⟨x0, x11, rfl, h⟩
  refine ⟨_, _, rfl, (by simp only [f0, f1, f2]; rfl), ?_⟩
  refine st_val (.tuple #[.pointer x0, .int .i64 x11]) (wn rfl) rfl (by simp only [f0, f1, f2]; rfl) ?_
  refine st_val (.pointer x0) (wn rfl) rfl (by simp only [f0, f1, f2]; rfl) ?_
  refine st_val (.int .i64 x11) (wn rfl) rfl (by simp only [f0, f1, f2]; rfl) ?_
  refine st_val (.pointer x0) (wn rfl) rfl (by simp only [f0, f1, f2]; rfl) ?_
  refine st_val (.int .i64 x11) (wn rfl) rfl (by simp only [f0, f1, f2]; rfl) ?_
  refine wpList_nil ?_
  refine then_normal ?_
  refine wp_seq ?_
  refine wp_seq ?_
  refine wp_region_lit ?_
  refine st_val (.bool x1) (wn rfl) rfl (by simp only [f0, f1, f2]; rfl) ?_
  refine st_val (.bool (!x1)) (wn rfl) rfl (by simp only [f0, f1, f2]; rfl) ?_
  refine st_val (.bool (!x1)) (wn rfl) rfl (by simp only [f0, f1, f2]; rfl) ?_
  refine st_cut 3 (fun a' w' => (∃ us : Nat → Value, a' = (⟨(fillin us 0 (some (.int .i64 base) :: some (.int .i64 term_) :: some (Sl.v l) :: some (.int .i64 prev) :: some (.int .i64 of_) :: some (Sl.v m) :: some undef :: some undef :: some undef :: some undef :: some undef :: some undef :: some (.bool false) :: some (.bool x1) :: some (.pointer x0) :: some (.int .i64 x11) :: some undef :: some undef :: some undef :: some undef :: some undef :: some undef :: some undef :: some undef :: some undef :: some undef :: some undef :: some undef :: some (.bool x1) :: some (.tuple #[.pointer x0, .int .i64 x11]) :: some (.int .i64 base) :: some (.int .i64 term_) :: some (Sl.v l) :: some (.tuple #[.pointer x0, .int .i64 x11]) :: some (.pointer x0) :: some (.int .i64 x11) :: some (.bool x1) :: some (.bool (!x1)) :: some (.bool (!x1)) :: none :: none :: some (.bool ((!x1) || (x11 != 0))) :: some undef :: some undef :: some undef :: some undef :: some undef :: some undef :: some undef :: some undef :: some undef :: some undef :: some undef :: some undef :: some undef :: some undef :: some undef :: some undef :: some undef :: some undef :: some undef :: some undef :: some undef :: some undef :: some undef :: some undef :: some undef :: some undef :: some undef :: some undef :: some undef :: some undef :: some undef :: some undef :: some undef :: some undef :: some undef :: some undef :: some undef :: some undef :: some undef :: some undef :: some undef :: some undef :: some undef :: some undef :: some undef :: some undef :: some undef :: some undef :: some undef :: some undef :: some undef :: some undef :: some undef :: some undef :: some undef :: some undef :: some undef :: some undef :: some undef :: some undef :: some undef :: some undef :: some undef :: some undef :: some undef :: some undef :: some undef :: some undef :: some undef :: some undef :: some undef :: some undef :: some undef :: some undef :: some undef :: some undef :: some undef :: some undef :: some undef :: some undef :: some undef :: some undef :: some undef :: some undef :: some undef :: some undef :: some undef :: some undef :: some undef :: some undef :: some undef :: some undef :: some undef :: some undef :: some undef :: some undef :: some undef :: some undef :: some undef :: some undef :: some undef :: some undef :: some undef :: some undef :: some undef :: some undef :: some undef :: some undef :: some undef :: some undef :: some undef :: some undef :: some undef :: some undef :: some undef :: some undef :: some undef :: some undef :: some undef :: some undef :: some undef :: some undef :: some undef :: some undef :: some undef :: some undef :: some undef :: some undef :: some undef :: some undef :: some undef :: some undef :: some undef :: some undef :: some undef :: some undef :: some undef :: some undef :: some undef :: some undef :: some undef :: some undef :: [])).toArray, []⟩ : Act)) ∧ w_1 = w') ?_ ?_
  · simp only [List.take_succ_cons, List.take_zero]
    rcases Bool.eq_false_or_eq_true (!x1) with hg | hg
    · refine st_no (wt rfl rfl rfl (congrArg Value.bool hg) rfl) (by simp only [f0, f1, f2]; rfl) ?_
      refine st_no (wt rfl rfl rfl (congrArg Value.bool hg) rfl) (by simp only [f0, f1, f2]; rfl) ?_
      refine st_val (.bool true) (wn rfl) (r_pickT (congrArg Value.bool hg) rfl) (by simp only [f0, f1, f2]; rfl) ?_
      refine wpList_nil ?_
      exact then_normal ⟨some_us (by simp only [masked, hg, Bool.true_and, Bool.false_and, Bool.true_or, Bool.false_or, cond_true, cond_false]) rfl rfl, rfl⟩
    · refine st_val (.int .i64 x11) (wt rfl rfl rfl (congrArg Value.bool hg) rfl) rfl (by simp only [f0, f1, f2]; rfl) ?_
      refine st_val (.bool (x11 != 0)) (wt rfl rfl rfl (congrArg Value.bool hg) rfl) rfl (by simp only [f0, f1, f2]; rfl) ?_
      refine st_val (.bool (x11 != 0)) (wn rfl) (r_pickF (congrArg Value.bool hg) rfl) (by simp only [f0, f1, f2]; rfl) ?_
      refine wpList_nil ?_
      exact then_normal ⟨some_us (by simp only [masked, hg, Bool.true_and, Bool.false_and, Bool.true_or, Bool.false_or, cond_true, cond_false]) rfl rfl, rfl⟩
  rintro a0 _ ⟨⟨us, hF⟩, rfl⟩
  simp only [fillin, Nat.reduceAdd] at hF
  subst hF
  simp only [List.drop_succ_cons, List.drop_zero]
  refine st_val (.bool ((!x1) || (x11 != 0))) (wn rfl) rfl (by simp only [f0, f1, f2]; rfl) ?_
  refine st_cut 3 (fun a' w' => (∃ us1 : Nat → Value, a' = (⟨(fillin us1 0 (some (.int .i64 base) :: some (.int .i64 term_) :: some (Sl.v l) :: some (.int .i64 prev) :: some (.int .i64 of_) :: some (Sl.v m) :: some undef :: some undef :: some undef :: some undef :: some undef :: some undef :: some (.bool false) :: some (.bool x1) :: some (.pointer x0) :: some (.int .i64 x11) :: some undef :: some undef :: some undef :: some undef :: some undef :: some undef :: some undef :: some undef :: some undef :: some undef :: some undef :: some undef :: some (.bool x1) :: some (.tuple #[.pointer x0, .int .i64 x11]) :: some (.int .i64 base) :: some (.int .i64 term_) :: some (Sl.v l) :: some (.tuple #[.pointer x0, .int .i64 x11]) :: some (.pointer x0) :: some (.int .i64 x11) :: some (.bool x1) :: some (.bool (!x1)) :: some (.bool (!x1)) :: some ((us 39)) :: some ((us 40)) :: some (.bool ((!x1) || (x11 != 0))) :: some (.bool ((!x1) || (x11 != 0))) :: none :: none :: some (.bool (((!x1) || (x11 != 0)) || (Option.isNone x0))) :: some undef :: some undef :: some undef :: some undef :: some undef :: some undef :: some undef :: some undef :: some undef :: some undef :: some undef :: some undef :: some undef :: some undef :: some undef :: some undef :: some undef :: some undef :: some undef :: some undef :: some undef :: some undef :: some undef :: some undef :: some undef :: some undef :: some undef :: some undef :: some undef :: some undef :: some undef :: some undef :: some undef :: some undef :: some undef :: some undef :: some undef :: some undef :: some undef :: some undef :: some undef :: some undef :: some undef :: some undef :: some undef :: some undef :: some undef :: some undef :: some undef :: some undef :: some undef :: some undef :: some undef :: some undef :: some undef :: some undef :: some undef :: some undef :: some undef :: some undef :: some undef :: some undef :: some undef :: some undef :: some undef :: some undef :: some undef :: some undef :: some undef :: some undef :: some undef :: some undef :: some undef :: some undef :: some undef :: some undef :: some undef :: some undef :: some undef :: some undef :: some undef :: some undef :: some undef :: some undef :: some undef :: some undef :: some undef :: some undef :: some undef :: some undef :: some undef :: some undef :: some undef :: some undef :: some undef :: some undef :: some undef :: some undef :: some undef :: some undef :: some undef :: some undef :: some undef :: some undef :: some undef :: some undef :: some undef :: some undef :: some undef :: some undef :: some undef :: some undef :: some undef :: some undef :: some undef :: some undef :: some undef :: some undef :: some undef :: some undef :: some undef :: some undef :: some undef :: some undef :: some undef :: some undef :: some undef :: some undef :: some undef :: some undef :: some undef :: some undef :: some undef :: some undef :: some undef :: some undef :: some undef :: some undef :: [])).toArray, []⟩ : Act)) ∧ w_1 = w') ?_ ?_
  · simp only [List.take_succ_cons, List.take_zero]
    rcases Bool.eq_false_or_eq_true ((!x1) || (x11 != 0)) with hg1 | hg1
    · refine st_no (wt rfl rfl rfl (congrArg Value.bool hg1) rfl) (by simp only [f0, f1, f2]; rfl) ?_
      refine st_no (wt rfl rfl rfl (congrArg Value.bool hg1) rfl) (by simp only [f0, f1, f2]; rfl) ?_
      refine st_val (.bool true) (wn rfl) (r_pickT (congrArg Value.bool hg1) rfl) (by simp only [f0, f1, f2]; rfl) ?_
      refine wpList_nil ?_
      exact then_normal ⟨some_us (by simp only [masked, hg1, Bool.true_and, Bool.false_and, Bool.true_or, Bool.false_or, cond_true, cond_false]) rfl rfl, rfl⟩
    · refine st_val (.pointer x0) (wt rfl rfl rfl (congrArg Value.bool hg1) rfl) rfl (by simp only [f0, f1, f2]; rfl) ?_
      refine st_val (.bool (Option.isNone x0)) (wt rfl rfl rfl (congrArg Value.bool hg1) rfl) (r_eqlPtrNilR (Try.runUnderlying24 _) rfl rfl rfl) (by simp only [f0, f1, f2]; rfl) ?_
      refine st_val (.bool (Option.isNone x0)) (wn rfl) (r_pickF (congrArg Value.bool hg1) rfl) (by simp only [f0, f1, f2]; rfl) ?_
      refine wpList_nil ?_
      exact then_normal ⟨some_us (by simp only [masked, hg1, Bool.true_and, Bool.false_and, Bool.true_or, Bool.false_or, cond_true, cond_false]) rfl rfl, rfl⟩
  rintro a0 _ ⟨⟨us1, hF⟩, rfl⟩
  simp only [fillin, Nat.reduceAdd] at hF
  subst hF
  simp only [List.drop_succ_cons, List.drop_zero]
  refine st_val (.bool (((!x1) || (x11 != 0)) || (Option.isNone x0))) (wn rfl) rfl (by simp only [f0, f1, f2]; rfl) ?_
  refine st_cut 3 (fun a' w' => (∃ us2 : Nat → Value, a' = (⟨(fillin us2 0 (some (.int .i64 base) :: some (.int .i64 term_) :: some (Sl.v l) :: some (.int .i64 prev) :: some (.int .i64 of_) :: some (Sl.v m) :: some undef :: some undef :: some undef :: some undef :: some undef :: some undef :: some (.bool false) :: some (.bool x1) :: some (.pointer x0) :: some (.int .i64 x11) :: some undef :: some undef :: some undef :: some undef :: some undef :: some undef :: some undef :: some undef :: some undef :: some undef :: some undef :: some undef :: some (.bool x1) :: some (.tuple #[.pointer x0, .int .i64 x11]) :: some (.int .i64 base) :: some (.int .i64 term_) :: some (Sl.v l) :: some (.tuple #[.pointer x0, .int .i64 x11]) :: some (.pointer x0) :: some (.int .i64 x11) :: some (.bool x1) :: some (.bool (!x1)) :: some (.bool (!x1)) :: some ((us 39)) :: some ((us 40)) :: some (.bool ((!x1) || (x11 != 0))) :: some (.bool ((!x1) || (x11 != 0))) :: some ((us1 43)) :: some ((us1 44)) :: some (.bool (((!x1) || (x11 != 0)) || (Option.isNone x0))) :: some (.bool (((!x1) || (x11 != 0)) || (Option.isNone x0))) :: none :: none :: some (.bool ((((!x1) || (x11 != 0)) || (Option.isNone x0)) || (decide (prev < 0)))) :: some undef :: some undef :: some undef :: some undef :: some undef :: some undef :: some undef :: some undef :: some undef :: some undef :: some undef :: some undef :: some undef :: some undef :: some undef :: some undef :: some undef :: some undef :: some undef :: some undef :: some undef :: some undef :: some undef :: some undef :: some undef :: some undef :: some undef :: some undef :: some undef :: some undef :: some undef :: some undef :: some undef :: some undef :: some undef :: some undef :: some undef :: some undef :: some undef :: some undef :: some undef :: some undef :: some undef :: some undef :: some undef :: some undef :: some undef :: some undef :: some undef :: some undef :: some undef :: some undef :: some undef :: some undef :: some undef :: some undef :: some undef :: some undef :: some undef :: some undef :: some undef :: some undef :: some undef :: some undef :: some undef :: some undef :: some undef :: some undef :: some undef :: some undef :: some undef :: some undef :: some undef :: some undef :: some undef :: some undef :: some undef :: some undef :: some undef :: some undef :: some undef :: some undef :: some undef :: some undef :: some undef :: some undef :: some undef :: some undef :: some undef :: some undef :: some undef :: some undef :: some undef :: some undef :: some undef :: some undef :: some undef :: some undef :: some undef :: some undef :: some undef :: some undef :: some undef :: some undef :: some undef :: some undef :: some undef :: some undef :: some undef :: some undef :: some undef :: some undef :: some undef :: some undef :: some undef :: some undef :: some undef :: some undef :: some undef :: some undef :: some undef :: some undef :: some undef :: some undef :: some undef :: some undef :: some undef :: some undef :: some undef :: some undef :: some undef :: some undef :: some undef :: some undef :: [])).toArray, []⟩ : Act)) ∧ w_1 = w') ?_ ?_
  · simp only [List.take_succ_cons, List.take_zero]
    rcases Bool.eq_false_or_eq_true (((!x1) || (x11 != 0)) || (Option.isNone x0)) with hg2 | hg2
    · refine st_no (wt rfl rfl rfl (congrArg Value.bool hg2) rfl) (by simp only [f0, f1, f2]; rfl) ?_
      refine st_no (wt rfl rfl rfl (congrArg Value.bool hg2) rfl) (by simp only [f0, f1, f2]; rfl) ?_
      refine st_val (.bool true) (wn rfl) (r_pickT (congrArg Value.bool hg2) rfl) (by simp only [f0, f1, f2]; rfl) ?_
      refine wpList_nil ?_
      exact then_normal ⟨some_us (by simp only [masked, hg2, Bool.true_and, Bool.false_and, Bool.true_or, Bool.false_or, cond_true, cond_false]) rfl rfl, rfl⟩
    · refine st_val (.int .i64 prev) (wt rfl rfl rfl (congrArg Value.bool hg2) rfl) rfl (by simp only [f0, f1, f2]; rfl) ?_
      refine st_val (.bool (decide (prev < 0))) (wt rfl rfl rfl (congrArg Value.bool hg2) rfl) rfl (by simp only [f0, f1, f2]; rfl) ?_
      refine st_val (.bool (decide (prev < 0))) (wn rfl) (r_pickF (congrArg Value.bool hg2) rfl) (by simp only [f0, f1, f2]; rfl) ?_
      refine wpList_nil ?_
      exact then_normal ⟨some_us (by simp only [masked, hg2, Bool.true_and, Bool.false_and, Bool.true_or, Bool.false_or, cond_true, cond_false]) rfl rfl, rfl⟩
  rintro a0 _ ⟨⟨us2, hF⟩, rfl⟩
  simp only [fillin, Nat.reduceAdd] at hF
  subst hF
  simp only [List.drop_succ_cons, List.drop_zero]
  refine st_val (.bool ((((!x1) || (x11 != 0)) || (Option.isNone x0)) || (decide (prev < 0)))) (wn rfl) rfl (by simp only [f0, f1, f2]; rfl) ?_
  refine st_cut 3 (fun a' w' => (∃ us3 : Nat → Value, a' = (⟨(fillin us3 0 (some (.int .i64 base) :: some (.int .i64 term_) :: some (Sl.v l) :: some (.int .i64 prev) :: some (.int .i64 of_) :: some (Sl.v m) :: some undef :: some undef :: some undef :: some undef :: some undef :: some undef :: some (.bool false) :: some (.bool x1) :: some (.pointer x0) :: some (.int .i64 x11) :: some undef :: some undef :: some undef :: some undef :: some undef :: some undef :: some undef :: some undef :: some undef :: some undef :: some undef :: some undef :: some (.bool x1) :: some (.tuple #[.pointer x0, .int .i64 x11]) :: some (.int .i64 base) :: some (.int .i64 term_) :: some (Sl.v l) :: some (.tuple #[.pointer x0, .int .i64 x11]) :: some (.pointer x0) :: some (.int .i64 x11) :: some (.bool x1) :: some (.bool (!x1)) :: some (.bool (!x1)) :: some ((us 39)) :: some ((us 40)) :: some (.bool ((!x1) || (x11 != 0))) :: some (.bool ((!x1) || (x11 != 0))) :: some ((us1 43)) :: some ((us1 44)) :: some (.bool (((!x1) || (x11 != 0)) || (Option.isNone x0))) :: some (.bool (((!x1) || (x11 != 0)) || (Option.isNone x0))) :: some ((us2 47)) :: some ((us2 48)) :: some (.bool ((((!x1) || (x11 != 0)) || (Option.isNone x0)) || (decide (prev < 0)))) :: some (.bool ((((!x1) || (x11 != 0)) || (Option.isNone x0)) || (decide (prev < 0)))) :: none :: none :: some (.bool (((((!x1) || (x11 != 0)) || (Option.isNone x0)) || (decide (prev < 0))) || (decide (prev > 1099511627776)))) :: some undef :: some undef :: some undef :: some undef :: some undef :: some undef :: some undef :: some undef :: some undef :: some undef :: some undef :: some undef :: some undef :: some undef :: some undef :: some undef :: some undef :: some undef :: some undef :: some undef :: some undef :: some undef :: some undef :: some undef :: some undef :: some undef :: some undef :: some undef :: some undef :: some undef :: some undef :: some undef :: some undef :: some undef :: some undef :: some undef :: some undef :: some undef :: some undef :: some undef :: some undef :: some undef :: some undef :: some undef :: some undef :: some undef :: some undef :: some undef :: some undef :: some undef :: some undef :: some undef :: some undef :: some undef :: some undef :: some undef :: some undef :: some undef :: some undef :: some undef :: some undef :: some undef :: some undef :: some undef :: some undef :: some undef :: some undef :: some undef :: some undef :: some undef :: some undef :: some undef :: some undef :: some undef :: some undef :: some undef :: some undef :: some undef :: some undef :: some undef :: some undef :: some undef :: some undef :: some undef :: some undef :: some undef :: some undef :: some undef :: some undef :: some undef :: some undef :: some undef :: some undef :: some undef :: some undef :: some undef :: some undef :: some undef :: some undef :: some undef :: some undef :: some undef :: some undef :: some undef :: some undef :: some undef :: some undef :: some undef :: some undef :: some undef :: some undef :: some undef :: some undef :: some undef :: some undef :: some undef :: some undef :: some undef :: some undef :: some undef :: some undef :: some undef :: some undef :: some undef :: some undef :: some undef :: some undef :: some undef :: some undef :: some undef :: [])).toArray, []⟩ : Act)) ∧ w_1 = w') ?_ ?_
  · simp only [List.take_succ_cons, List.take_zero]
    rcases Bool.eq_false_or_eq_true ((((!x1) || (x11 != 0)) || (Option.isNone x0)) || (decide (prev < 0))) with hg3 | hg3
    · refine st_no (wt rfl rfl rfl (congrArg Value.bool hg3) rfl) (by simp only [f0, f1, f2]; rfl) ?_
      refine st_no (wt rfl rfl rfl (congrArg Value.bool hg3) rfl) (by simp only [f0, f1, f2]; rfl) ?_
      refine st_val (.bool true) (wn rfl) (r_pickT (congrArg Value.bool hg3) rfl) (by simp only [f0, f1, f2]; rfl) ?_
      refine wpList_nil ?_
      exact then_normal ⟨some_us (by simp only [masked, hg3, Bool.true_and, Bool.false_and, Bool.true_or, Bool.false_or, cond_true, cond_false]) rfl rfl, rfl⟩
    · refine st_val (.int .i64 prev) (wt rfl rfl rfl (congrArg Value.bool hg3) rfl) rfl (by simp only [f0, f1, f2]; rfl) ?_
      refine st_val (.bool (decide (prev > 1099511627776))) (wt rfl rfl rfl (congrArg Value.bool hg3) rfl) rfl (by simp only [f0, f1, f2]; rfl) ?_
      refine st_val (.bool (decide (prev > 1099511627776))) (wn rfl) (r_pickF (congrArg Value.bool hg3) rfl) (by simp only [f0, f1, f2]; rfl) ?_
      refine wpList_nil ?_
      exact then_normal ⟨some_us (by simp only [masked, hg3, Bool.true_and, Bool.false_and, Bool.true_or, Bool.false_or, cond_true, cond_false]) rfl rfl, rfl⟩
  rintro a0 _ ⟨⟨us3, hF⟩, rfl⟩
  simp only [fillin, Nat.reduceAdd] at hF
  subst hF
  simp only [List.drop_succ_cons, List.drop_zero]
  refine wpList_nil ?_
  refine then_normal ?_
  refine wp_cond_split (t := (((((!x1) || (x11 != 0)) || (Option.isNone x0)) || (decide (prev < 0))) || (decide (prev > 1099511627776)))) rfl (fun hc => ?_) (fun hc => ?_)
  · replace h := h.1 hc
    refine wp_seq ?_
    refine wp_region_lit ?_
    refine st_val (.bool x1) (wn rfl) rfl (by simp only [f0, f1, f2]; rfl) ?_
    refine st_val (.bool x1) (wn rfl) rfl (by simp only [f0, f1, f2]; rfl) ?_
    refine wpList_nil ?_
    refine then_normal ?_
    refine wp_ret ?_
    refine then_ret ?_
    exact end_ret (r_res1 (v := .bool x1) Try.results3 ⟨rfl, trivial⟩) rfl h
  · replace h := h.2 hc
    refine wp_skip ?_
    refine then_normal ?_
    refine wp_seq ?_
    refine wp_region_lit ?_
    refine st_val (.pointer x0) (wn rfl) rfl (by simp only [f0, f1, f2]; rfl) ?_
    refine st_val (.int .i64 prev) (wn rfl) rfl (by simp only [f0, f1, f2]; rfl) ?_
    refine st_val (.int .i64 of_) (wn rfl) rfl (by simp only [f0, f1, f2]; rfl) ?_
    refine st_val (Sl.v m) (wn rfl) rfl (by simp only [f0, f1, f2]; rfl) ?_
    refine st_one (wn rfl) ?_
    refine o_enter (args := #[.pointer x0, .int .i64 prev, .int .i64 of_, Sl.v m]) (r_enter Try.call7 rfl) (h.mono ?_)
    clear h
    rintro _ w_2 ⟨x01, x12, x2, rfl, h⟩
    refine ⟨_, _, rfl, (by simp only [f0, f1, f2]; rfl), ?_⟩
    refine st_val (.tuple #[.int .i64 x01, Sl.v x12, .int .i64 x2]) (wn rfl) rfl (by simp only [f0, f1, f2]; rfl) ?_
    refine st_val (.int .i64 x01) (wn rfl) rfl (by simp only [f0, f1, f2]; rfl) ?_
    refine st_val (Sl.v x12) (wn rfl) rfl (by simp only [f0, f1, f2]; rfl) ?_
    refine st_val (.int .i64 x2) (wn rfl) rfl (by simp only [f0, f1, f2]; rfl) ?_
    refine st_val (.int .i64 x01) (wn rfl) rfl (by simp only [f0, f1, f2]; rfl) ?_
    refine st_val (Sl.v x12) (wn rfl) rfl (by simp only [f0, f1, f2]; rfl) ?_
    refine st_val (.int .i64 x2) (wn rfl) rfl (by simp only [f0, f1, f2]; rfl) ?_
    refine wpList_nil ?_
    refine then_normal ?_
    refine wp_seq ?_
    refine wp_seq ?_
    refine wp_region_lit ?_
    refine st_val (.int .i64 x2) (wn rfl) rfl (by simp only [f0, f1, f2]; rfl) ?_
    refine st_val (.bool (x2 != 0)) (wn rfl) rfl (by simp only [f0, f1, f2]; rfl) ?_
    refine wpList_nil ?_
    refine then_normal ?_
    refine wp_cond_split (t := (x2 != 0)) rfl (fun hc1 => ?_) (fun hc1 => ?_)
    · replace h := h.1 hc1
      refine wp_seq ?_
      refine wp_region_lit ?_
      refine st_val (.int .i64 x01) (wn rfl) rfl (by simp only [f0, f1, f2]; rfl) ?_
      refine st_val (.bool (x01 == 0)) (wn rfl) rfl (by simp only [f0, f1, f2]; rfl) ?_
      refine st_val (.bool (x01 == 0)) (wn rfl) rfl (by simp only [f0, f1, f2]; rfl) ?_
      refine st_cut 4 (fun a' w' => (∃ us4 : Nat → Value, a' = (⟨(fillin us4 0 (some (.int .i64 base) :: some (.int .i64 term_) :: some (Sl.v l) :: some (.int .i64 prev) :: some (.int .i64 of_) :: some (Sl.v m) :: some undef :: some undef :: some undef :: some undef :: some undef :: some undef :: some (.bool false) :: some (.bool x1) :: some (.pointer x0) :: some (.int .i64 x11) :: some (.int .i64 x01) :: some (Sl.v x12) :: some (.int .i64 x2) :: some undef :: some undef :: some undef :: some undef :: some undef :: some undef :: some undef :: some undef :: some undef :: some (.bool x1) :: some (.tuple #[.pointer x0, .int .i64 x11]) :: some (.int .i64 base) :: some (.int .i64 term_) :: some (Sl.v l) :: some (.tuple #[.pointer x0, .int .i64 x11]) :: some (.pointer x0) :: some (.int .i64 x11) :: some (.bool x1) :: some (.bool (!x1)) :: some (.bool (!x1)) :: some ((us 39)) :: some ((us 40)) :: some (.bool ((!x1) || (x11 != 0))) :: some (.bool ((!x1) || (x11 != 0))) :: some ((us1 43)) :: some ((us1 44)) :: some (.bool (((!x1) || (x11 != 0)) || (Option.isNone x0))) :: some (.bool (((!x1) || (x11 != 0)) || (Option.isNone x0))) :: some ((us2 47)) :: some ((us2 48)) :: some (.bool ((((!x1) || (x11 != 0)) || (Option.isNone x0)) || (decide (prev < 0)))) :: some (.bool ((((!x1) || (x11 != 0)) || (Option.isNone x0)) || (decide (prev < 0)))) :: some ((us3 51)) :: some ((us3 52)) :: some (.bool (((((!x1) || (x11 != 0)) || (Option.isNone x0)) || (decide (prev < 0))) || (decide (prev > 1099511627776)))) :: some undef :: some (.tuple #[.int .i64 x01, Sl.v x12, .int .i64 x2]) :: some (.pointer x0) :: some (.int .i64 prev) :: some (.int .i64 of_) :: some (Sl.v m) :: some (.tuple #[.int .i64 x01, Sl.v x12, .int .i64 x2]) :: some (.int .i64 x01) :: some (Sl.v x12) :: some (.int .i64 x2) :: some (.int .i64 x2) :: some (.bool (x2 != 0)) :: some (.int .i64 x01) :: some (.bool (x01 == 0)) :: some (.bool (x01 == 0)) :: none :: none :: none :: some (.bool ((x01 == 0) && ((↑(Sl.n x12) : Int) == 0))) :: some undef :: some undef :: some undef :: some undef :: some undef :: some undef :: some undef :: some undef :: some undef :: some undef :: some undef :: some undef :: some undef :: some undef :: some undef :: some undef :: some undef :: some undef :: some undef :: some undef :: some undef :: some undef :: some undef :: some undef :: some undef :: some undef :: some undef :: some undef :: some undef :: some undef :: some undef :: some undef :: some undef :: some undef :: some undef :: some undef :: some undef :: some undef :: some undef :: some undef :: some undef :: some undef :: some undef :: some undef :: some undef :: some undef :: some undef :: some undef :: some undef :: some undef :: some undef :: some undef :: some undef :: some undef :: some undef :: some undef :: some undef :: some undef :: some undef :: some undef :: some undef :: some undef :: some undef :: some undef :: some undef :: some undef :: some undef :: some undef :: some undef :: some undef :: some undef :: some undef :: some undef :: some undef :: some undef :: some undef :: some undef :: some undef :: some undef :: some undef :: some undef :: some undef :: some undef :: some undef :: some undef :: some undef :: some undef :: some undef :: some undef :: some undef :: some undef :: some undef :: some undef :: some undef :: some undef :: some undef :: some undef :: some undef :: some undef :: some undef :: some undef :: some undef :: some undef :: some undef :: some undef :: some undef :: some undef :: some undef :: some undef :: some undef :: some undef :: [])).toArray, []⟩ : Act)) ∧ w_2 = w') ?_ ?_
      · simp only [List.take_succ_cons, List.take_zero]
        rcases Bool.eq_false_or_eq_true (x01 == 0) with hg4 | hg4
        · refine st_val (Sl.v x12) (wt rfl rfl rfl (congrArg Value.bool hg4) rfl) rfl (by simp only [f0, f1, f2]; rfl) ?_
          refine st_val (.int .i64 (↑(Sl.n x12) : Int)) (wt rfl rfl rfl (congrArg Value.bool hg4) rfl) (r_len (s := x12) (Try.runUnderlying22 _) rfl) (by simp only [f0, f1, f2]; rfl) ?_
          refine st_val (.bool ((↑(Sl.n x12) : Int) == 0)) (wt rfl rfl rfl (congrArg Value.bool hg4) rfl) rfl (by simp only [f0, f1, f2]; rfl) ?_
          refine st_val (.bool ((↑(Sl.n x12) : Int) == 0)) (wn rfl) (r_pickT (congrArg Value.bool hg4) rfl) (by simp only [f0, f1, f2]; rfl) ?_
          refine wpList_nil ?_
          exact then_normal ⟨some_us (by simp only [masked, hg4, Bool.true_and, Bool.false_and, Bool.true_or, Bool.false_or, cond_true, cond_false]) rfl rfl, rfl⟩
        · refine st_no (wt rfl rfl rfl (congrArg Value.bool hg4) rfl) (by simp only [f0, f1, f2]; rfl) ?_
          refine st_no (wt rfl rfl rfl (congrArg Value.bool hg4) rfl) (by simp only [f0, f1, f2]; rfl) ?_
          refine st_no (wt rfl rfl rfl (congrArg Value.bool hg4) rfl) (by simp only [f0, f1, f2]; rfl) ?_
          refine st_val (.bool false) (wn rfl) (r_pickF (congrArg Value.bool hg4) rfl) (by simp only [f0, f1, f2]; rfl) ?_
          refine wpList_nil ?_
          exact then_normal ⟨some_us (by simp only [masked, hg4, Bool.true_and, Bool.false_and, Bool.true_or, Bool.false_or, cond_true, cond_false]) rfl rfl, rfl⟩
      rintro a0 _ ⟨⟨us4, hF⟩, rfl⟩
      simp only [fillin, Nat.reduceAdd] at hF
      subst hF
      simp only [List.drop_succ_cons, List.drop_zero]
      refine st_val (.bool ((x01 == 0) && ((↑(Sl.n x12) : Int) == 0))) (wn rfl) rfl (by simp only [f0, f1, f2]; rfl) ?_
      refine st_cut 7 (fun a' w' => (∃ us5 : Nat → Value, a' = (⟨(fillin us5 0 (some (.int .i64 base) :: some (.int .i64 term_) :: some (Sl.v l) :: some (.int .i64 prev) :: some (.int .i64 of_) :: some (Sl.v m) :: some undef :: some undef :: some undef :: some undef :: some undef :: some undef :: some (.bool false) :: some (.bool x1) :: some (.pointer x0) :: some (.int .i64 x11) :: some (.int .i64 x01) :: some (Sl.v x12) :: some (.int .i64 x2) :: some undef :: some undef :: some undef :: some undef :: some undef :: some undef :: some undef :: some undef :: some undef :: some (.bool x1) :: some (.tuple #[.pointer x0, .int .i64 x11]) :: some (.int .i64 base) :: some (.int .i64 term_) :: some (Sl.v l) :: some (.tuple #[.pointer x0, .int .i64 x11]) :: some (.pointer x0) :: some (.int .i64 x11) :: some (.bool x1) :: some (.bool (!x1)) :: some (.bool (!x1)) :: some ((us 39)) :: some ((us 40)) :: some (.bool ((!x1) || (x11 != 0))) :: some (.bool ((!x1) || (x11 != 0))) :: some ((us1 43)) :: some ((us1 44)) :: some (.bool (((!x1) || (x11 != 0)) || (Option.isNone x0))) :: some (.bool (((!x1) || (x11 != 0)) || (Option.isNone x0))) :: some ((us2 47)) :: some ((us2 48)) :: some (.bool ((((!x1) || (x11 != 0)) || (Option.isNone x0)) || (decide (prev < 0)))) :: some (.bool ((((!x1) || (x11 != 0)) || (Option.isNone x0)) || (decide (prev < 0)))) :: some ((us3 51)) :: some ((us3 52)) :: some (.bool (((((!x1) || (x11 != 0)) || (Option.isNone x0)) || (decide (prev < 0))) || (decide (prev > 1099511627776)))) :: some undef :: some (.tuple #[.int .i64 x01, Sl.v x12, .int .i64 x2]) :: some (.pointer x0) :: some (.int .i64 prev) :: some (.int .i64 of_) :: some (Sl.v m) :: some (.tuple #[.int .i64 x01, Sl.v x12, .int .i64 x2]) :: some (.int .i64 x01) :: some (Sl.v x12) :: some (.int .i64 x2) :: some (.int .i64 x2) :: some (.bool (x2 != 0)) :: some (.int .i64 x01) :: some (.bool (x01 == 0)) :: some (.bool (x01 == 0)) :: some ((us4 69)) :: some ((us4 70)) :: some ((us4 71)) :: some (.bool ((x01 == 0) && ((↑(Sl.n x12) : Int) == 0))) :: some (.bool ((x01 == 0) && ((↑(Sl.n x12) : Int) == 0))) :: none :: none :: none :: none :: none :: none :: some (.bool (((x01 == 0) && ((↑(Sl.n x12) : Int) == 0)) && ((x2 == 1) || (x2 == 55)))) :: some undef :: some undef :: some undef :: some undef :: some undef :: some undef :: some undef :: some undef :: some undef :: some undef :: some undef :: some undef :: some undef :: some undef :: some undef :: some undef :: some undef :: some undef :: some undef :: some undef :: some undef :: some undef :: some undef :: some undef :: some undef :: some undef :: some undef :: some undef :: some undef :: some undef :: some undef :: some undef :: some undef :: some undef :: some undef :: some undef :: some undef :: some undef :: some undef :: some undef :: some undef :: some undef :: some undef :: some undef :: some undef :: some undef :: some undef :: some undef :: some undef :: some undef :: some undef :: some undef :: some undef :: some undef :: some undef :: some undef :: some undef :: some undef :: some undef :: some undef :: some undef :: some undef :: some undef :: some undef :: some undef :: some undef :: some undef :: some undef :: some undef :: some undef :: some undef :: some undef :: some undef :: some undef :: some undef :: some undef :: some undef :: some undef :: some undef :: some undef :: some undef :: some undef :: some undef :: some undef :: some undef :: some undef :: some undef :: some undef :: some undef :: some undef :: some undef :: some undef :: some undef :: some undef :: some undef :: some undef :: some undef :: some undef :: some undef :: some undef :: some undef :: some undef :: some undef :: [])).toArray, []⟩ : Act)) ∧ w_2 = w') ?_ ?_
      · simp only [List.take_succ_cons, List.take_zero]
        rcases Bool.eq_false_or_eq_true ((x01 == 0) && ((↑(Sl.n x12) : Int) == 0)) with hg5 | hg5
        · refine st_val (.int .i64 x2) (wt rfl rfl rfl (congrArg Value.bool hg5) rfl) rfl (by simp only [f0, f1, f2]; rfl) ?_
          refine st_val (.bool (x2 == 1)) (wt rfl rfl rfl (congrArg Value.bool hg5) rfl) rfl (by simp only [f0, f1, f2]; rfl) ?_
          refine st_val (.bool (x2 == 1)) (wt rfl rfl rfl (congrArg Value.bool hg5) rfl) rfl (by simp only [f0, f1, f2]; rfl) ?_
          refine st_cut 3 (fun a' w' => (∃ us6 : Nat → Value, a' = (⟨(fillin us6 0 (some (.int .i64 base) :: some (.int .i64 term_) :: some (Sl.v l) :: some (.int .i64 prev) :: some (.int .i64 of_) :: some (Sl.v m) :: some undef :: some undef :: some undef :: some undef :: some undef :: some undef :: some (.bool false) :: some (.bool x1) :: some (.pointer x0) :: some (.int .i64 x11) :: some (.int .i64 x01) :: some (Sl.v x12) :: some (.int .i64 x2) :: some undef :: some undef :: some undef :: some undef :: some undef :: some undef :: some undef :: some undef :: some undef :: some (.bool x1) :: some (.tuple #[.pointer x0, .int .i64 x11]) :: some (.int .i64 base) :: some (.int .i64 term_) :: some (Sl.v l) :: some (.tuple #[.pointer x0, .int .i64 x11]) :: some (.pointer x0) :: some (.int .i64 x11) :: some (.bool x1) :: some (.bool (!x1)) :: some (.bool (!x1)) :: some ((us 39)) :: some ((us 40)) :: some (.bool ((!x1) || (x11 != 0))) :: some (.bool ((!x1) || (x11 != 0))) :: some ((us1 43)) :: some ((us1 44)) :: some (.bool (((!x1) || (x11 != 0)) || (Option.isNone x0))) :: some (.bool (((!x1) || (x11 != 0)) || (Option.isNone x0))) :: some ((us2 47)) :: some ((us2 48)) :: some (.bool ((((!x1) || (x11 != 0)) || (Option.isNone x0)) || (decide (prev < 0)))) :: some (.bool ((((!x1) || (x11 != 0)) || (Option.isNone x0)) || (decide (prev < 0)))) :: some ((us3 51)) :: some ((us3 52)) :: some (.bool (((((!x1) || (x11 != 0)) || (Option.isNone x0)) || (decide (prev < 0))) || (decide (prev > 1099511627776)))) :: some undef :: some (.tuple #[.int .i64 x01, Sl.v x12, .int .i64 x2]) :: some (.pointer x0) :: some (.int .i64 prev) :: some (.int .i64 of_) :: some (Sl.v m) :: some (.tuple #[.int .i64 x01, Sl.v x12, .int .i64 x2]) :: some (.int .i64 x01) :: some (Sl.v x12) :: some (.int .i64 x2) :: some (.int .i64 x2) :: some (.bool (x2 != 0)) :: some (.int .i64 x01) :: some (.bool (x01 == 0)) :: some (.bool (x01 == 0)) :: some ((us4 69)) :: some ((us4 70)) :: some ((us4 71)) :: some (.bool ((x01 == 0) && ((↑(Sl.n x12) : Int) == 0))) :: some (.bool ((x01 == 0) && ((↑(Sl.n x12) : Int) == 0))) :: some (.int .i64 x2) :: some (.bool (x2 == 1)) :: some (.bool (x2 == 1)) :: none :: none :: some (.bool ((x2 == 1) || (x2 == 55))) :: some undef :: some undef :: some undef :: some undef :: some undef :: some undef :: some undef :: some undef :: some undef :: some undef :: some undef :: some undef :: some undef :: some undef :: some undef :: some undef :: some undef :: some undef :: some undef :: some undef :: some undef :: some undef :: some undef :: some undef :: some undef :: some undef :: some undef :: some undef :: some undef :: some undef :: some undef :: some undef :: some undef :: some undef :: some undef :: some undef :: some undef :: some undef :: some undef :: some undef :: some undef :: some undef :: some undef :: some undef :: some undef :: some undef :: some undef :: some undef :: some undef :: some undef :: some undef :: some undef :: some undef :: some undef :: some undef :: some undef :: some undef :: some undef :: some undef :: some undef :: some undef :: some undef :: some undef :: some undef :: some undef :: some undef :: some undef :: some undef :: some undef :: some undef :: some undef :: some undef :: some undef :: some undef :: some undef :: some undef :: some undef :: some undef :: some undef :: some undef :: some undef :: some undef :: some undef :: some undef :: some undef :: some undef :: some undef :: some undef :: some undef :: some undef :: some undef :: some undef :: some undef :: some undef :: some undef :: some undef :: some undef :: some undef :: some undef :: some undef :: some undef :: some undef :: some undef :: some undef :: [])).toArray, []⟩ : Act)) ∧ w_2 = w') ?_ ?_
          · simp only [List.take_succ_cons, List.take_zero]
            rcases Bool.eq_false_or_eq_true (x2 == 1) with hg6 | hg6
            · refine st_no (wt rfl rfl rfl (congrArg Value.bool hg6) rfl) (by simp only [f0, f1, f2]; rfl) ?_
              refine st_no (wt rfl rfl rfl (congrArg Value.bool hg6) rfl) (by simp only [f0, f1, f2]; rfl) ?_
              refine st_val (.bool true) (wt rfl rfl rfl (congrArg Value.bool hg5) rfl) (r_pickT (congrArg Value.bool hg6) rfl) (by simp only [f0, f1, f2]; rfl) ?_
              refine wpList_nil ?_
              exact then_normal ⟨some_us (by simp only [masked, hg6, Bool.true_and, Bool.false_and, Bool.true_or, Bool.false_or, cond_true, cond_false]) rfl rfl, rfl⟩
            · refine st_val (.int .i64 x2) (wt rfl rfl rfl (congrArg Value.bool hg6) rfl) rfl (by simp only [f0, f1, f2]; rfl) ?_
              refine st_val (.bool (x2 == 55)) (wt rfl rfl rfl (congrArg Value.bool hg6) rfl) rfl (by simp only [f0, f1, f2]; rfl) ?_
              refine st_val (.bool (x2 == 55)) (wt rfl rfl rfl (congrArg Value.bool hg5) rfl) (r_pickF (congrArg Value.bool hg6) rfl) (by simp only [f0, f1, f2]; rfl) ?_
              refine wpList_nil ?_
              exact then_normal ⟨some_us (by simp only [masked, hg6, Bool.true_and, Bool.false_and, Bool.true_or, Bool.false_or, cond_true, cond_false]) rfl rfl, rfl⟩
          rintro a0 _ ⟨⟨us6, hF⟩, rfl⟩
          simp only [fillin, Nat.reduceAdd] at hF
          subst hF
          simp only [List.drop_succ_cons, List.drop_zero]
          refine st_val (.bool ((x2 == 1) || (x2 == 55))) (wn rfl) (r_pickT (congrArg Value.bool hg5) rfl) (by simp only [f0, f1, f2]; rfl) ?_
          refine wpList_nil ?_
          exact then_normal ⟨some_us (by simp only [masked, hg5, Bool.true_and, Bool.false_and, Bool.true_or, Bool.false_or, cond_true, cond_false]) rfl rfl, rfl⟩
        · refine st_no (wt rfl rfl rfl (congrArg Value.bool hg5) rfl) (by simp only [f0, f1, f2]; rfl) ?_
          refine st_no (wt rfl rfl rfl (congrArg Value.bool hg5) rfl) (by simp only [f0, f1, f2]; rfl) ?_
          refine st_no (wt rfl rfl rfl (congrArg Value.bool hg5) rfl) (by simp only [f0, f1, f2]; rfl) ?_
          refine st_no (wu rfl rfl rfl rfl) (by simp only [f0, f1, f2]; rfl) ?_
          refine st_no (wu rfl rfl rfl rfl) (by simp only [f0, f1, f2]; rfl) ?_
          refine st_no (wt rfl rfl rfl (congrArg Value.bool hg5) rfl) (by simp only [f0, f1, f2]; rfl) ?_
          refine st_val (.bool false) (wn rfl) (r_pickF (congrArg Value.bool hg5) rfl) (by simp only [f0, f1, f2]; rfl) ?_
          refine wpList_nil ?_
          exact then_normal ⟨some_us (by simp only [masked, hg5, Bool.true_and, Bool.false_and, Bool.true_or, Bool.false_or, cond_true, cond_false]) rfl rfl, rfl⟩
      rintro a0 _ ⟨⟨us5, hF⟩, rfl⟩
      simp only [fillin, Nat.reduceAdd] at hF
      subst hF
      simp only [List.drop_succ_cons, List.drop_zero]
      refine st_val (.bool (((x01 == 0) && ((↑(Sl.n x12) : Int) == 0)) && ((x2 == 1) || (x2 == 55)))) (wn rfl) rfl (by simp only [f0, f1, f2]; rfl) ?_
      refine wpList_nil ?_
      refine then_normal ?_
      refine wp_ret ?_
      refine then_ret ?_
      exact end_ret (r_res1 (v := .bool (((x01 == 0) && ((↑(Sl.n x12) : Int) == 0)) && ((x2 == 1) || (x2 == 55)))) Try.results3 ⟨rfl, trivial⟩) rfl h
    · replace h := h.2 hc1
      refine wp_skip ?_
      refine then_normal ?_
      refine wp_seq ?_
      refine wp_region_lit ?_
      refine st_val (.pointer x0) (wn rfl) rfl (by simp only [f0, f1, f2]; rfl) ?_
      refine st_val (Sl.v x12) (wn rfl) rfl (by simp only [f0, f1, f2]; rfl) ?_
      refine st_one (wn rfl) ?_
      refine o_enter (args := #[.pointer x0, Sl.v x12]) (r_enter Try.call8 rfl) (h.mono ?_)
      clear h
      rintro _ w_3 ⟨x3, rfl, h⟩
      refine ⟨_, _, rfl, (by simp only [f0, f1, f2]; rfl), ?_⟩
      refine st_val (.int .i64 x3) (wn rfl) rfl (by simp only [f0, f1, f2]; rfl) ?_
      refine wpList_nil ?_
      refine then_normal ?_
      refine wp_seq ?_
      refine wp_region_lit ?_
      refine st_val (.pointer x0) (wn rfl) rfl (by simp only [f0, f1, f2]; rfl) ?_
      refine st_val (.int .i64 prev) (wn rfl) rfl (by simp only [f0, f1, f2]; rfl) ?_
      refine st_val (.int .i64 of_) (wn rfl) rfl (by simp only [f0, f1, f2]; rfl) ?_
      refine st_val (Sl.v m) (wn rfl) rfl (by simp only [f0, f1, f2]; rfl) ?_
      refine st_one (wn rfl) ?_
      refine o_enter (args := #[.pointer x0, .int .i64 prev, .int .i64 of_, Sl.v m]) (r_enter Try.call7 rfl) (h.mono ?_)
      clear h
      rintro _ w_4 ⟨x02, x13, x21, rfl, h⟩
      refine ⟨_, _, rfl, (by simp only [f0, f1, f2]; rfl), ?_⟩
      refine st_val (.tuple #[.int .i64 x02, Sl.v x13, .int .i64 x21]) (wn rfl) rfl (by simp only [f0, f1, f2]; rfl) ?_
      refine st_val (.int .i64 x02) (wn rfl) rfl (by simp only [f0, f1, f2]; rfl) ?_
      refine st_val (Sl.v x13) (wn rfl) rfl (by simp only [f0, f1, f2]; rfl) ?_
      refine st_val (.int .i64 x21) (wn rfl) rfl (by simp only [f0, f1, f2]; rfl) ?_
      refine st_val (.int .i64 x02) (wn rfl) rfl (by simp only [f0, f1, f2]; rfl) ?_
      refine st_val (Sl.v x13) (wn rfl) rfl (by simp only [f0, f1, f2]; rfl) ?_
      refine st_val (.int .i64 x21) (wn rfl) rfl (by simp only [f0, f1, f2]; rfl) ?_
      refine wpList_nil ?_
      refine then_normal ?_
      refine wp_seq ?_
      refine wp_region_lit ?_
      refine st_val (.int .i64 x3) (wn rfl) rfl (by simp only [f0, f1, f2]; rfl) ?_
      refine st_val (.bool (x3 == 0)) (wn rfl) rfl (by simp only [f0, f1, f2]; rfl) ?_
      refine st_val (.bool (x3 == 0)) (wn rfl) rfl (by simp only [f0, f1, f2]; rfl) ?_
      refine st_cut 3 (fun a' w' => (∃ us7 : Nat → Value, a' = (⟨(fillin us7 0 (some (.int .i64 base) :: some (.int .i64 term_) :: some (Sl.v l) :: some (.int .i64 prev) :: some (.int .i64 of_) :: some (Sl.v m) :: some undef :: some undef :: some undef :: some undef :: some undef :: some undef :: some (.bool false) :: some (.bool x1) :: some (.pointer x0) :: some (.int .i64 x11) :: some (.int .i64 x01) :: some (Sl.v x12) :: some (.int .i64 x2) :: some (.int .i64 x3) :: some (.int .i64 x02) :: some (Sl.v x13) :: some (.int .i64 x21) :: some undef :: some undef :: some undef :: some undef :: some undef :: some (.bool x1) :: some (.tuple #[.pointer x0, .int .i64 x11]) :: some (.int .i64 base) :: some (.int .i64 term_) :: some (Sl.v l) :: some (.tuple #[.pointer x0, .int .i64 x11]) :: some (.pointer x0) :: some (.int .i64 x11) :: some (.bool x1) :: some (.bool (!x1)) :: some (.bool (!x1)) :: some ((us 39)) :: some ((us 40)) :: some (.bool ((!x1) || (x11 != 0))) :: some (.bool ((!x1) || (x11 != 0))) :: some ((us1 43)) :: some ((us1 44)) :: some (.bool (((!x1) || (x11 != 0)) || (Option.isNone x0))) :: some (.bool (((!x1) || (x11 != 0)) || (Option.isNone x0))) :: some ((us2 47)) :: some ((us2 48)) :: some (.bool ((((!x1) || (x11 != 0)) || (Option.isNone x0)) || (decide (prev < 0)))) :: some (.bool ((((!x1) || (x11 != 0)) || (Option.isNone x0)) || (decide (prev < 0)))) :: some ((us3 51)) :: some ((us3 52)) :: some (.bool (((((!x1) || (x11 != 0)) || (Option.isNone x0)) || (decide (prev < 0))) || (decide (prev > 1099511627776)))) :: some undef :: some (.tuple #[.int .i64 x01, Sl.v x12, .int .i64 x2]) :: some (.pointer x0) :: some (.int .i64 prev) :: some (.int .i64 of_) :: some (Sl.v m) :: some (.tuple #[.int .i64 x01, Sl.v x12, .int .i64 x2]) :: some (.int .i64 x01) :: some (Sl.v x12) :: some (.int .i64 x2) :: some (.int .i64 x2) :: some (.bool (x2 != 0)) :: some undef :: some undef :: some undef :: some undef :: some undef :: some undef :: some undef :: some undef :: some undef :: some undef :: some undef :: some undef :: some undef :: some undef :: some undef :: some (.pointer x0) :: some (Sl.v x12) :: some (.int .i64 x3) :: some (.tuple #[.int .i64 x02, Sl.v x13, .int .i64 x21]) :: some (.pointer x0) :: some (.int .i64 prev) :: some (.int .i64 of_) :: some (Sl.v m) :: some (.tuple #[.int .i64 x02, Sl.v x13, .int .i64 x21]) :: some (.int .i64 x02) :: some (Sl.v x13) :: some (.int .i64 x21) :: some (.int .i64 x3) :: some (.bool (x3 == 0)) :: some (.bool (x3 == 0)) :: none :: none :: some (.bool ((x3 == 0) && (x21 == 0))) :: some undef :: some undef :: some undef :: some undef :: some undef :: some undef :: some undef :: some undef :: some undef :: some undef :: some undef :: some undef :: some undef :: some undef :: some undef :: some undef :: some undef :: some undef :: some undef :: some undef :: some undef :: some undef :: some undef :: some undef :: some undef :: some undef :: some undef :: some undef :: some undef :: some undef :: some undef :: some undef :: some undef :: some undef :: some undef :: some undef :: some undef :: some undef :: some undef :: some undef :: some undef :: some undef :: some undef :: some undef :: some undef :: some undef :: some undef :: some undef :: some undef :: some undef :: some undef :: some undef :: some undef :: some undef :: some undef :: some undef :: some undef :: some undef :: some undef :: some undef :: some undef :: some undef :: some undef :: some undef :: some undef :: some undef :: some undef :: some undef :: some undef :: some undef :: some undef :: some undef :: some undef :: some undef :: some undef :: some undef :: some undef :: some undef :: some undef :: some undef :: some undef :: some undef :: some undef :: some undef :: some undef :: [])).toArray, []⟩ : Act)) ∧ w_4 = w') ?_ ?_
      · simp only [List.take_succ_cons, List.take_zero]
        rcases Bool.eq_false_or_eq_true (x3 == 0) with hg7 | hg7
        · refine st_val (.int .i64 x21) (wt rfl rfl rfl (congrArg Value.bool hg7) rfl) rfl (by simp only [f0, f1, f2]; rfl) ?_
          refine st_val (.bool (x21 == 0)) (wt rfl rfl rfl (congrArg Value.bool hg7) rfl) rfl (by simp only [f0, f1, f2]; rfl) ?_
          refine st_val (.bool (x21 == 0)) (wn rfl) (r_pickT (congrArg Value.bool hg7) rfl) (by simp only [f0, f1, f2]; rfl) ?_
          refine wpList_nil ?_
          exact then_normal ⟨some_us (by simp only [masked, hg7, Bool.true_and, Bool.false_and, Bool.true_or, Bool.false_or, cond_true, cond_false]) rfl rfl, rfl⟩
        · refine st_no (wt rfl rfl rfl (congrArg Value.bool hg7) rfl) (by simp only [f0, f1, f2]; rfl) ?_
          refine st_no (wt rfl rfl rfl (congrArg Value.bool hg7) rfl) (by simp only [f0, f1, f2]; rfl) ?_
          refine st_val (.bool false) (wn rfl) (r_pickF (congrArg Value.bool hg7) rfl) (by simp only [f0, f1, f2]; rfl) ?_
          refine wpList_nil ?_
          exact then_normal ⟨some_us (by simp only [masked, hg7, Bool.true_and, Bool.false_and, Bool.true_or, Bool.false_or, cond_true, cond_false]) rfl rfl, rfl⟩
      rintro a0 _ ⟨⟨us7, hF⟩, rfl⟩
      simp only [fillin, Nat.reduceAdd] at hF
      subst hF
      simp only [List.drop_succ_cons, List.drop_zero]
      refine st_val (.bool ((x3 == 0) && (x21 == 0))) (wn rfl) rfl (by simp only [f0, f1, f2]; rfl) ?_
      refine st_cut 4 (fun a' w' => (∃ us8 : Nat → Value, a' = (⟨(fillin us8 0 (some (.int .i64 base) :: some (.int .i64 term_) :: some (Sl.v l) :: some (.int .i64 prev) :: some (.int .i64 of_) :: some (Sl.v m) :: some undef :: some undef :: some undef :: some undef :: some undef :: some undef :: some (.bool false) :: some (.bool x1) :: some (.pointer x0) :: some (.int .i64 x11) :: some (.int .i64 x01) :: some (Sl.v x12) :: some (.int .i64 x2) :: some (.int .i64 x3) :: some (.int .i64 x02) :: some (Sl.v x13) :: some (.int .i64 x21) :: some undef :: some undef :: some undef :: some undef :: some undef :: some (.bool x1) :: some (.tuple #[.pointer x0, .int .i64 x11]) :: some (.int .i64 base) :: some (.int .i64 term_) :: some (Sl.v l) :: some (.tuple #[.pointer x0, .int .i64 x11]) :: some (.pointer x0) :: some (.int .i64 x11) :: some (.bool x1) :: some (.bool (!x1)) :: some (.bool (!x1)) :: some ((us 39)) :: some ((us 40)) :: some (.bool ((!x1) || (x11 != 0))) :: some (.bool ((!x1) || (x11 != 0))) :: some ((us1 43)) :: some ((us1 44)) :: some (.bool (((!x1) || (x11 != 0)) || (Option.isNone x0))) :: some (.bool (((!x1) || (x11 != 0)) || (Option.isNone x0))) :: some ((us2 47)) :: some ((us2 48)) :: some (.bool ((((!x1) || (x11 != 0)) || (Option.isNone x0)) || (decide (prev < 0)))) :: some (.bool ((((!x1) || (x11 != 0)) || (Option.isNone x0)) || (decide (prev < 0)))) :: some ((us3 51)) :: some ((us3 52)) :: some (.bool (((((!x1) || (x11 != 0)) || (Option.isNone x0)) || (decide (prev < 0))) || (decide (prev > 1099511627776)))) :: some undef :: some (.tuple #[.int .i64 x01, Sl.v x12, .int .i64 x2]) :: some (.pointer x0) :: some (.int .i64 prev) :: some (.int .i64 of_) :: some (Sl.v m) :: some (.tuple #[.int .i64 x01, Sl.v x12, .int .i64 x2]) :: some (.int .i64 x01) :: some (Sl.v x12) :: some (.int .i64 x2) :: some (.int .i64 x2) :: some (.bool (x2 != 0)) :: some undef :: some undef :: some undef :: some undef :: some undef :: some undef :: some undef :: some undef :: some undef :: some undef :: some undef :: some undef :: some undef :: some undef :: some undef :: some (.pointer x0) :: some (Sl.v x12) :: some (.int .i64 x3) :: some (.tuple #[.int .i64 x02, Sl.v x13, .int .i64 x21]) :: some (.pointer x0) :: some (.int .i64 prev) :: some (.int .i64 of_) :: some (Sl.v m) :: some (.tuple #[.int .i64 x02, Sl.v x13, .int .i64 x21]) :: some (.int .i64 x02) :: some (Sl.v x13) :: some (.int .i64 x21) :: some (.int .i64 x3) :: some (.bool (x3 == 0)) :: some (.bool (x3 == 0)) :: some ((us7 96)) :: some ((us7 97)) :: some (.bool ((x3 == 0) && (x21 == 0))) :: some (.bool ((x3 == 0) && (x21 == 0))) :: none :: none :: none :: some (.bool (((x3 == 0) && (x21 == 0)) && (x02 == x01))) :: some undef :: some undef :: some undef :: some undef :: some undef :: some undef :: some undef :: some undef :: some undef :: some undef :: some undef :: some undef :: some undef :: some undef :: some undef :: some undef :: some undef :: some undef :: some undef :: some undef :: some undef :: some undef :: some undef :: some undef :: some undef :: some undef :: some undef :: some undef :: some undef :: some undef :: some undef :: some undef :: some undef :: some undef :: some undef :: some undef :: some undef :: some undef :: some undef :: some undef :: some undef :: some undef :: some undef :: some undef :: some undef :: some undef :: some undef :: some undef :: some undef :: some undef :: some undef :: some undef :: some undef :: some undef :: some undef :: some undef :: some undef :: some undef :: some undef :: some undef :: some undef :: some undef :: some undef :: some undef :: some undef :: some undef :: some undef :: some undef :: some undef :: some undef :: some undef :: some undef :: some undef :: some undef :: some undef :: some undef :: some undef :: some undef :: some undef :: some undef :: [])).toArray, []⟩ : Act)) ∧ w_4 = w') ?_ ?_
      · simp only [List.take_succ_cons, List.take_zero]
        rcases Bool.eq_false_or_eq_true ((x3 == 0) && (x21 == 0)) with hg8 | hg8
        · refine st_val (.int .i64 x02) (wt rfl rfl rfl (congrArg Value.bool hg8) rfl) rfl (by simp only [f0, f1, f2]; rfl) ?_
          refine st_val (.int .i64 x01) (wt rfl rfl rfl (congrArg Value.bool hg8) rfl) rfl (by simp only [f0, f1, f2]; rfl) ?_
          refine st_val (.bool (x02 == x01)) (wt rfl rfl rfl (congrArg Value.bool hg8) rfl) rfl (by simp only [f0, f1, f2]; rfl) ?_
          refine st_val (.bool (x02 == x01)) (wn rfl) (r_pickT (congrArg Value.bool hg8) rfl) (by simp only [f0, f1, f2]; rfl) ?_
          refine wpList_nil ?_
          exact then_normal ⟨some_us (by simp only [masked, hg8, Bool.true_and, Bool.false_and, Bool.true_or, Bool.false_or, cond_true, cond_false]) rfl rfl, rfl⟩
        · refine st_no (wt rfl rfl rfl (congrArg Value.bool hg8) rfl) (by simp only [f0, f1, f2]; rfl) ?_
          refine st_no (wt rfl rfl rfl (congrArg Value.bool hg8) rfl) (by simp only [f0, f1, f2]; rfl) ?_
          refine st_no (wt rfl rfl rfl (congrArg Value.bool hg8) rfl) (by simp only [f0, f1, f2]; rfl) ?_
          refine st_val (.bool false) (wn rfl) (r_pickF (congrArg Value.bool hg8) rfl) (by simp only [f0, f1, f2]; rfl) ?_
          refine wpList_nil ?_
          exact then_normal ⟨some_us (by simp only [masked, hg8, Bool.true_and, Bool.false_and, Bool.true_or, Bool.false_or, cond_true, cond_false]) rfl rfl, rfl⟩
      rintro a0 _ ⟨⟨us8, hF⟩, rfl⟩
      simp only [fillin, Nat.reduceAdd] at hF
      subst hF
      simp only [List.drop_succ_cons, List.drop_zero]
      refine st_val (.bool (((x3 == 0) && (x21 == 0)) && (x02 == x01))) (wn rfl) rfl (by simp only [f0, f1, f2]; rfl) ?_
      refine st_cut 4 (fun a' w' => (∃ us9 : Nat → Value, a' = (⟨(fillin us9 0 (some (.int .i64 base) :: some (.int .i64 term_) :: some (Sl.v l) :: some (.int .i64 prev) :: some (.int .i64 of_) :: some (Sl.v m) :: some undef :: some undef :: some undef :: some undef :: some undef :: some undef :: some (.bool false) :: some (.bool x1) :: some (.pointer x0) :: some (.int .i64 x11) :: some (.int .i64 x01) :: some (Sl.v x12) :: some (.int .i64 x2) :: some (.int .i64 x3) :: some (.int .i64 x02) :: some (Sl.v x13) :: some (.int .i64 x21) :: some undef :: some undef :: some undef :: some undef :: some undef :: some (.bool x1) :: some (.tuple #[.pointer x0, .int .i64 x11]) :: some (.int .i64 base) :: some (.int .i64 term_) :: some (Sl.v l) :: some (.tuple #[.pointer x0, .int .i64 x11]) :: some (.pointer x0) :: some (.int .i64 x11) :: some (.bool x1) :: some (.bool (!x1)) :: some (.bool (!x1)) :: some ((us 39)) :: some ((us 40)) :: some (.bool ((!x1) || (x11 != 0))) :: some (.bool ((!x1) || (x11 != 0))) :: some ((us1 43)) :: some ((us1 44)) :: some (.bool (((!x1) || (x11 != 0)) || (Option.isNone x0))) :: some (.bool (((!x1) || (x11 != 0)) || (Option.isNone x0))) :: some ((us2 47)) :: some ((us2 48)) :: some (.bool ((((!x1) || (x11 != 0)) || (Option.isNone x0)) || (decide (prev < 0)))) :: some (.bool ((((!x1) || (x11 != 0)) || (Option.isNone x0)) || (decide (prev < 0)))) :: some ((us3 51)) :: some ((us3 52)) :: some (.bool (((((!x1) || (x11 != 0)) || (Option.isNone x0)) || (decide (prev < 0))) || (decide (prev > 1099511627776)))) :: some undef :: some (.tuple #[.int .i64 x01, Sl.v x12, .int .i64 x2]) :: some (.pointer x0) :: some (.int .i64 prev) :: some (.int .i64 of_) :: some (Sl.v m) :: some (.tuple #[.int .i64 x01, Sl.v x12, .int .i64 x2]) :: some (.int .i64 x01) :: some (Sl.v x12) :: some (.int .i64 x2) :: some (.int .i64 x2) :: some (.bool (x2 != 0)) :: some undef :: some undef :: some undef :: some undef :: some undef :: some undef :: some undef :: some undef :: some undef :: some undef :: some undef :: some undef :: some undef :: some undef :: some undef :: some (.pointer x0) :: some (Sl.v x12) :: some (.int .i64 x3) :: some (.tuple #[.int .i64 x02, Sl.v x13, .int .i64 x21]) :: some (.pointer x0) :: some (.int .i64 prev) :: some (.int .i64 of_) :: some (Sl.v m) :: some (.tuple #[.int .i64 x02, Sl.v x13, .int .i64 x21]) :: some (.int .i64 x02) :: some (Sl.v x13) :: some (.int .i64 x21) :: some (.int .i64 x3) :: some (.bool (x3 == 0)) :: some (.bool (x3 == 0)) :: some ((us7 96)) :: some ((us7 97)) :: some (.bool ((x3 == 0) && (x21 == 0))) :: some (.bool ((x3 == 0) && (x21 == 0))) :: some ((us8 100)) :: some ((us8 101)) :: some ((us8 102)) :: some (.bool (((x3 == 0) && (x21 == 0)) && (x02 == x01))) :: some (.bool (((x3 == 0) && (x21 == 0)) && (x02 == x01))) :: none :: none :: none :: some (.bool ((((x3 == 0) && (x21 == 0)) && (x02 == x01)) && ((↑(Sl.n x13) : Int) == 0))) :: some undef :: some undef :: some undef :: some undef :: some undef :: some undef :: some undef :: some undef :: some undef :: some undef :: some undef :: some undef :: some undef :: some undef :: some undef :: some undef :: some undef :: some undef :: some undef :: some undef :: some undef :: some undef :: some undef :: some undef :: some undef :: some undef :: some undef :: some undef :: some undef :: some undef :: some undef :: some undef :: some undef :: some undef :: some undef :: some undef :: some undef :: some undef :: some undef :: some undef :: some undef :: some undef :: some undef :: some undef :: some undef :: some undef :: some undef :: some undef :: some undef :: some undef :: some undef :: some undef :: some undef :: some undef :: some undef :: some undef :: some undef :: some undef :: some undef :: some undef :: some undef :: some undef :: some undef :: some undef :: some undef :: some undef :: some undef :: some undef :: some undef :: some undef :: some undef :: some undef :: some undef :: some undef :: some undef :: [])).toArray, []⟩ : Act)) ∧ w_4 = w') ?_ ?_
      · simp only [List.take_succ_cons, List.take_zero]
        rcases Bool.eq_false_or_eq_true (((x3 == 0) && (x21 == 0)) && (x02 == x01)) with hg9 | hg9
        · refine st_val (Sl.v x13) (wt rfl rfl rfl (congrArg Value.bool hg9) rfl) rfl (by simp only [f0, f1, f2]; rfl) ?_
          refine st_val (.int .i64 (↑(Sl.n x13) : Int)) (wt rfl rfl rfl (congrArg Value.bool hg9) rfl) (r_len (s := x13) (Try.runUnderlying22 _) rfl) (by simp only [f0, f1, f2]; rfl) ?_
          refine st_val (.bool ((↑(Sl.n x13) : Int) == 0)) (wt rfl rfl rfl (congrArg Value.bool hg9) rfl) rfl (by simp only [f0, f1, f2]; rfl) ?_
          refine st_val (.bool ((↑(Sl.n x13) : Int) == 0)) (wn rfl) (r_pickT (congrArg Value.bool hg9) rfl) (by simp only [f0, f1, f2]; rfl) ?_
          refine wpList_nil ?_
          exact then_normal ⟨some_us (by simp only [masked, hg9, Bool.true_and, Bool.false_and, Bool.true_or, Bool.false_or, cond_true, cond_false]) rfl rfl, rfl⟩
        · refine st_no (wt rfl rfl rfl (congrArg Value.bool hg9) rfl) (by simp only [f0, f1, f2]; rfl) ?_
          refine st_no (wt rfl rfl rfl (congrArg Value.bool hg9) rfl) (by simp only [f0, f1, f2]; rfl) ?_
          refine st_no (wt rfl rfl rfl (congrArg Value.bool hg9) rfl) (by simp only [f0, f1, f2]; rfl) ?_
          refine st_val (.bool false) (wn rfl) (r_pickF (congrArg Value.bool hg9) rfl) (by simp only [f0, f1, f2]; rfl) ?_
          refine wpList_nil ?_
          exact then_normal ⟨some_us (by simp only [masked, hg9, Bool.true_and, Bool.false_and, Bool.true_or, Bool.false_or, cond_true, cond_false]) rfl rfl, rfl⟩
      rintro a0 _ ⟨⟨us9, hF⟩, rfl⟩
      simp only [fillin, Nat.reduceAdd] at hF
      subst hF
      simp only [List.drop_succ_cons, List.drop_zero]
      refine st_val (.bool ((((x3 == 0) && (x21 == 0)) && (x02 == x01)) && ((↑(Sl.n x13) : Int) == 0))) (wn rfl) rfl (by simp only [f0, f1, f2]; rfl) ?_
      refine st_cut 7 (fun a' w' => (∃ us10 : Nat → Value, a' = (⟨(fillin us10 0 (some (.int .i64 base) :: some (.int .i64 term_) :: some (Sl.v l) :: some (.int .i64 prev) :: some (.int .i64 of_) :: some (Sl.v m) :: some undef :: some undef :: some undef :: some undef :: some undef :: some undef :: some (.bool false) :: some (.bool x1) :: some (.pointer x0) :: some (.int .i64 x11) :: some (.int .i64 x01) :: some (Sl.v x12) :: some (.int .i64 x2) :: some (.int .i64 x3) :: some (.int .i64 x02) :: some (Sl.v x13) :: some (.int .i64 x21) :: some undef :: some undef :: some undef :: some undef :: some undef :: some (.bool x1) :: some (.tuple #[.pointer x0, .int .i64 x11]) :: some (.int .i64 base) :: some (.int .i64 term_) :: some (Sl.v l) :: some (.tuple #[.pointer x0, .int .i64 x11]) :: some (.pointer x0) :: some (.int .i64 x11) :: some (.bool x1) :: some (.bool (!x1)) :: some (.bool (!x1)) :: some ((us 39)) :: some ((us 40)) :: some (.bool ((!x1) || (x11 != 0))) :: some (.bool ((!x1) || (x11 != 0))) :: some ((us1 43)) :: some ((us1 44)) :: some (.bool (((!x1) || (x11 != 0)) || (Option.isNone x0))) :: some (.bool (((!x1) || (x11 != 0)) || (Option.isNone x0))) :: some ((us2 47)) :: some ((us2 48)) :: some (.bool ((((!x1) || (x11 != 0)) || (Option.isNone x0)) || (decide (prev < 0)))) :: some (.bool ((((!x1) || (x11 != 0)) || (Option.isNone x0)) || (decide (prev < 0)))) :: some ((us3 51)) :: some ((us3 52)) :: some (.bool (((((!x1) || (x11 != 0)) || (Option.isNone x0)) || (decide (prev < 0))) || (decide (prev > 1099511627776)))) :: some undef :: some (.tuple #[.int .i64 x01, Sl.v x12, .int .i64 x2]) :: some (.pointer x0) :: some (.int .i64 prev) :: some (.int .i64 of_) :: some (Sl.v m) :: some (.tuple #[.int .i64 x01, Sl.v x12, .int .i64 x2]) :: some (.int .i64 x01) :: some (Sl.v x12) :: some (.int .i64 x2) :: some (.int .i64 x2) :: some (.bool (x2 != 0)) :: some undef :: some undef :: some undef :: some undef :: some undef :: some undef :: some undef :: some undef :: some undef :: some undef :: some undef :: some undef :: some undef :: some undef :: some undef :: some (.pointer x0) :: some (Sl.v x12) :: some (.int .i64 x3) :: some (.tuple #[.int .i64 x02, Sl.v x13, .int .i64 x21]) :: some (.pointer x0) :: some (.int .i64 prev) :: some (.int .i64 of_) :: some (Sl.v m) :: some (.tuple #[.int .i64 x02, Sl.v x13, .int .i64 x21]) :: some (.int .i64 x02) :: some (Sl.v x13) :: some (.int .i64 x21) :: some (.int .i64 x3) :: some (.bool (x3 == 0)) :: some (.bool (x3 == 0)) :: some ((us7 96)) :: some ((us7 97)) :: some (.bool ((x3 == 0) && (x21 == 0))) :: some (.bool ((x3 == 0) && (x21 == 0))) :: some ((us8 100)) :: some ((us8 101)) :: some ((us8 102)) :: some (.bool (((x3 == 0) && (x21 == 0)) && (x02 == x01))) :: some (.bool (((x3 == 0) && (x21 == 0)) && (x02 == x01))) :: some ((us9 105)) :: some ((us9 106)) :: some ((us9 107)) :: some (.bool ((((x3 == 0) && (x21 == 0)) && (x02 == x01)) && ((↑(Sl.n x13) : Int) == 0))) :: some (.bool ((((x3 == 0) && (x21 == 0)) && (x02 == x01)) && ((↑(Sl.n x13) : Int) == 0))) :: none :: none :: none :: none :: none :: none :: some (.bool (((((x3 == 0) && (x21 == 0)) && (x02 == x01)) && ((↑(Sl.n x13) : Int) == 0)) && ((IntKind.i64.wrap (x01 - prev)) == (↑(Sl.n m) : Int)))) :: some undef :: some undef :: some undef :: some undef :: some undef :: some undef :: some undef :: some undef :: some undef :: some undef :: some undef :: some undef :: some undef :: some undef :: some undef :: some undef :: some undef :: some undef :: some undef :: some undef :: some undef :: some undef :: some undef :: some undef :: some undef :: some undef :: some undef :: some undef :: some undef :: some undef :: some undef :: some undef :: some undef :: some undef :: some undef :: some undef :: some undef :: some undef :: some undef :: some undef :: some undef :: some undef :: some undef :: some undef :: some undef :: some undef :: some undef :: some undef :: some undef :: some undef :: some undef :: some undef :: some undef :: some undef :: some undef :: some undef :: some undef :: some undef :: some undef :: some undef :: some undef :: some undef :: some undef :: some undef :: some undef :: some undef :: some undef :: [])).toArray, []⟩ : Act)) ∧ w_4 = w') ?_ ?_
      · simp only [List.take_succ_cons, List.take_zero]
        rcases Bool.eq_false_or_eq_true ((((x3 == 0) && (x21 == 0)) && (x02 == x01)) && ((↑(Sl.n x13) : Int) == 0)) with hg10 | hg10
        · refine st_val (.int .i64 x01) (wt rfl rfl rfl (congrArg Value.bool hg10) rfl) rfl (by simp only [f0, f1, f2]; rfl) ?_
          refine st_val (.int .i64 prev) (wt rfl rfl rfl (congrArg Value.bool hg10) rfl) rfl (by simp only [f0, f1, f2]; rfl) ?_
          refine st_val (.int .i64 (IntKind.i64.wrap (x01 - prev))) (wt rfl rfl rfl (congrArg Value.bool hg10) rfl) rfl (by simp only [f0, f1, f2]; rfl) ?_
          refine st_val (Sl.v m) (wt rfl rfl rfl (congrArg Value.bool hg10) rfl) rfl (by simp only [f0, f1, f2]; rfl) ?_
          refine st_val (.int .i64 (↑(Sl.n m) : Int)) (wt rfl rfl rfl (congrArg Value.bool hg10) rfl) (r_len (s := m) (Try.runUnderlying22 _) rfl) (by simp only [f0, f1, f2]; rfl) ?_
          refine st_val (.bool ((IntKind.i64.wrap (x01 - prev)) == (↑(Sl.n m) : Int))) (wt rfl rfl rfl (congrArg Value.bool hg10) rfl) rfl (by simp only [f0, f1, f2]; rfl) ?_
          refine st_val (.bool ((IntKind.i64.wrap (x01 - prev)) == (↑(Sl.n m) : Int))) (wn rfl) (r_pickT (congrArg Value.bool hg10) rfl) (by simp only [f0, f1, f2]; rfl) ?_
          refine wpList_nil ?_
          exact then_normal ⟨some_us (by simp only [masked, hg10, Bool.true_and, Bool.false_and, Bool.true_or, Bool.false_or, cond_true, cond_false]) rfl rfl, rfl⟩
        · refine st_no (wt rfl rfl rfl (congrArg Value.bool hg10) rfl) (by simp only [f0, f1, f2]; rfl) ?_
          refine st_no (wt rfl rfl rfl (congrArg Value.bool hg10) rfl) (by simp only [f0, f1, f2]; rfl) ?_
          refine st_no (wt rfl rfl rfl (congrArg Value.bool hg10) rfl) (by simp only [f0, f1, f2]; rfl) ?_
          refine st_no (wt rfl rfl rfl (congrArg Value.bool hg10) rfl) (by simp only [f0, f1, f2]; rfl) ?_
          refine st_no (wt rfl rfl rfl (congrArg Value.bool hg10) rfl) (by simp only [f0, f1, f2]; rfl) ?_
          refine st_no (wt rfl rfl rfl (congrArg Value.bool hg10) rfl) (by simp only [f0, f1, f2]; rfl) ?_
          refine st_val (.bool false) (wn rfl) (r_pickF (congrArg Value.bool hg10) rfl) (by simp only [f0, f1, f2]; rfl) ?_
          refine wpList_nil ?_
          exact then_normal ⟨some_us (by simp only [masked, hg10, Bool.true_and, Bool.false_and, Bool.true_or, Bool.false_or, cond_true, cond_false]) rfl rfl, rfl⟩
      rintro a0 _ ⟨⟨us10, hF⟩, rfl⟩
      simp only [fillin, Nat.reduceAdd] at hF
      subst hF
      simp only [List.drop_succ_cons, List.drop_zero]
      refine st_val (.bool (((((x3 == 0) && (x21 == 0)) && (x02 == x01)) && ((↑(Sl.n x13) : Int) == 0)) && ((IntKind.i64.wrap (x01 - prev)) == (↑(Sl.n m) : Int)))) (wn rfl) rfl (by simp only [f0, f1, f2]; rfl) ?_
      refine wpList_nil ?_
      refine then_normal ?_
      refine wp_seq ?_
      refine wp_seq ?_
      refine wp_region_lit ?_
      refine st_val (.bool (((((x3 == 0) && (x21 == 0)) && (x02 == x01)) && ((↑(Sl.n x13) : Int) == 0)) && ((IntKind.i64.wrap (x01 - prev)) == (↑(Sl.n m) : Int)))) (wn rfl) rfl (by simp only [f0, f1, f2]; rfl) ?_
      refine st_val (.bool (!(((((x3 == 0) && (x21 == 0)) && (x02 == x01)) && ((↑(Sl.n x13) : Int) == 0)) && ((IntKind.i64.wrap (x01 - prev)) == (↑(Sl.n m) : Int))))) (wn rfl) rfl (by simp only [f0, f1, f2]; rfl) ?_
      refine st_val (.bool (!(((((x3 == 0) && (x21 == 0)) && (x02 == x01)) && ((↑(Sl.n x13) : Int) == 0)) && ((IntKind.i64.wrap (x01 - prev)) == (↑(Sl.n m) : Int))))) (wn rfl) rfl (by simp only [f0, f1, f2]; rfl) ?_
      refine st_cut 4 (fun a' w' => (∃ us11 : Nat → Value, a' = (⟨(fillin us11 0 (some (.int .i64 base) :: some (.int .i64 term_) :: some (Sl.v l) :: some (.int .i64 prev) :: some (.int .i64 of_) :: some (Sl.v m) :: some undef :: some undef :: some undef :: some undef :: some undef :: some undef :: some (.bool false) :: some (.bool x1) :: some (.pointer x0) :: some (.int .i64 x11) :: some (.int .i64 x01) :: some (Sl.v x12) :: some (.int .i64 x2) :: some (.int .i64 x3) :: some (.int .i64 x02) :: some (Sl.v x13) :: some (.int .i64 x21) :: some (.bool (((((x3 == 0) && (x21 == 0)) && (x02 == x01)) && ((↑(Sl.n x13) : Int) == 0)) && ((IntKind.i64.wrap (x01 - prev)) == (↑(Sl.n m) : Int)))) :: some undef :: some undef :: some undef :: some undef :: some (.bool x1) :: some (.tuple #[.pointer x0, .int .i64 x11]) :: some (.int .i64 base) :: some (.int .i64 term_) :: some (Sl.v l) :: some (.tuple #[.pointer x0, .int .i64 x11]) :: some (.pointer x0) :: some (.int .i64 x11) :: some (.bool x1) :: some (.bool (!x1)) :: some (.bool (!x1)) :: some ((us 39)) :: some ((us 40)) :: some (.bool ((!x1) || (x11 != 0))) :: some (.bool ((!x1) || (x11 != 0))) :: some ((us1 43)) :: some ((us1 44)) :: some (.bool (((!x1) || (x11 != 0)) || (Option.isNone x0))) :: some (.bool (((!x1) || (x11 != 0)) || (Option.isNone x0))) :: some ((us2 47)) :: some ((us2 48)) :: some (.bool ((((!x1) || (x11 != 0)) || (Option.isNone x0)) || (decide (prev < 0)))) :: some (.bool ((((!x1) || (x11 != 0)) || (Option.isNone x0)) || (decide (prev < 0)))) :: some ((us3 51)) :: some ((us3 52)) :: some (.bool (((((!x1) || (x11 != 0)) || (Option.isNone x0)) || (decide (prev < 0))) || (decide (prev > 1099511627776)))) :: some undef :: some (.tuple #[.int .i64 x01, Sl.v x12, .int .i64 x2]) :: some (.pointer x0) :: some (.int .i64 prev) :: some (.int .i64 of_) :: some (Sl.v m) :: some (.tuple #[.int .i64 x01, Sl.v x12, .int .i64 x2]) :: some (.int .i64 x01) :: some (Sl.v x12) :: some (.int .i64 x2) :: some (.int .i64 x2) :: some (.bool (x2 != 0)) :: some undef :: some undef :: some undef :: some undef :: some undef :: some undef :: some undef :: some undef :: some undef :: some undef :: some undef :: some undef :: some undef :: some undef :: some undef :: some (.pointer x0) :: some (Sl.v x12) :: some (.int .i64 x3) :: some (.tuple #[.int .i64 x02, Sl.v x13, .int .i64 x21]) :: some (.pointer x0) :: some (.int .i64 prev) :: some (.int .i64 of_) :: some (Sl.v m) :: some (.tuple #[.int .i64 x02, Sl.v x13, .int .i64 x21]) :: some (.int .i64 x02) :: some (Sl.v x13) :: some (.int .i64 x21) :: some (.int .i64 x3) :: some (.bool (x3 == 0)) :: some (.bool (x3 == 0)) :: some ((us7 96)) :: some ((us7 97)) :: some (.bool ((x3 == 0) && (x21 == 0))) :: some (.bool ((x3 == 0) && (x21 == 0))) :: some ((us8 100)) :: some ((us8 101)) :: some ((us8 102)) :: some (.bool (((x3 == 0) && (x21 == 0)) && (x02 == x01))) :: some (.bool (((x3 == 0) && (x21 == 0)) && (x02 == x01))) :: some ((us9 105)) :: some ((us9 106)) :: some ((us9 107)) :: some (.bool ((((x3 == 0) && (x21 == 0)) && (x02 == x01)) && ((↑(Sl.n x13) : Int) == 0))) :: some (.bool ((((x3 == 0) && (x21 == 0)) && (x02 == x01)) && ((↑(Sl.n x13) : Int) == 0))) :: some ((us10 110)) :: some ((us10 111)) :: some ((us10 112)) :: some ((us10 113)) :: some ((us10 114)) :: some ((us10 115)) :: some (.bool (((((x3 == 0) && (x21 == 0)) && (x02 == x01)) && ((↑(Sl.n x13) : Int) == 0)) && ((IntKind.i64.wrap (x01 - prev)) == (↑(Sl.n m) : Int)))) :: some (.bool (((((x3 == 0) && (x21 == 0)) && (x02 == x01)) && ((↑(Sl.n x13) : Int) == 0)) && ((IntKind.i64.wrap (x01 - prev)) == (↑(Sl.n m) : Int)))) :: some (.bool (!(((((x3 == 0) && (x21 == 0)) && (x02 == x01)) && ((↑(Sl.n x13) : Int) == 0)) && ((IntKind.i64.wrap (x01 - prev)) == (↑(Sl.n m) : Int))))) :: some (.bool (!(((((x3 == 0) && (x21 == 0)) && (x02 == x01)) && ((↑(Sl.n x13) : Int) == 0)) && ((IntKind.i64.wrap (x01 - prev)) == (↑(Sl.n m) : Int))))) :: none :: none :: none :: some (.bool ((!(((((x3 == 0) && (x21 == 0)) && (x02 == x01)) && ((↑(Sl.n x13) : Int) == 0)) && ((IntKind.i64.wrap (x01 - prev)) == (↑(Sl.n m) : Int)))) || (decide (x01 < base)))) :: some undef :: some undef :: some undef :: some undef :: some undef :: some undef :: some undef :: some undef :: some undef :: some undef :: some undef :: some undef :: some undef :: some undef :: some undef :: some undef :: some undef :: some undef :: some undef :: some undef :: some undef :: some undef :: some undef :: some undef :: some undef :: some undef :: some undef :: some undef :: some undef :: some undef :: some undef :: some undef :: some undef :: some undef :: some undef :: some undef :: some undef :: some undef :: some undef :: some undef :: some undef :: some undef :: some undef :: some undef :: some undef :: some undef :: some undef :: some undef :: some undef :: some undef :: some undef :: some undef :: some undef :: some undef :: some undef :: some undef :: some undef :: some undef :: some undef :: some undef :: [])).toArray, []⟩ : Act)) ∧ w_4 = w') ?_ ?_
      · simp only [List.take_succ_cons, List.take_zero]
        rcases Bool.eq_false_or_eq_true (!(((((x3 == 0) && (x21 == 0)) && (x02 == x01)) && ((↑(Sl.n x13) : Int) == 0)) && ((IntKind.i64.wrap (x01 - prev)) == (↑(Sl.n m) : Int)))) with hg11 | hg11
        · refine st_no (wt rfl rfl rfl (congrArg Value.bool hg11) rfl) (by simp only [f0, f1, f2]; rfl) ?_
          refine st_no (wt rfl rfl rfl (congrArg Value.bool hg11) rfl) (by simp only [f0, f1, f2]; rfl) ?_
          refine st_no (wt rfl rfl rfl (congrArg Value.bool hg11) rfl) (by simp only [f0, f1, f2]; rfl) ?_
          refine st_val (.bool true) (wn rfl) (r_pickT (congrArg Value.bool hg11) rfl) (by simp only [f0, f1, f2]; rfl) ?_
          refine wpList_nil ?_
          exact then_normal ⟨some_us (by simp only [masked, hg11, Bool.true_and, Bool.false_and, Bool.true_or, Bool.false_or, cond_true, cond_false]) rfl rfl, rfl⟩
        · refine st_val (.int .i64 x01) (wt rfl rfl rfl (congrArg Value.bool hg11) rfl) rfl (by simp only [f0, f1, f2]; rfl) ?_
          refine st_val (.int .i64 base) (wt rfl rfl rfl (congrArg Value.bool hg11) rfl) rfl (by simp only [f0, f1, f2]; rfl) ?_
          refine st_val (.bool (decide (x01 < base))) (wt rfl rfl rfl (congrArg Value.bool hg11) rfl) rfl (by simp only [f0, f1, f2]; rfl) ?_
          refine st_val (.bool (decide (x01 < base))) (wn rfl) (r_pickF (congrArg Value.bool hg11) rfl) (by simp only [f0, f1, f2]; rfl) ?_
          refine wpList_nil ?_
          exact then_normal ⟨some_us (by simp only [masked, hg11, Bool.true_and, Bool.false_and, Bool.true_or, Bool.false_or, cond_true, cond_false]) rfl rfl, rfl⟩
      rintro a0 _ ⟨⟨us11, hF⟩, rfl⟩
      simp only [fillin, Nat.reduceAdd] at hF
      subst hF
      simp only [List.drop_succ_cons, List.drop_zero]
      refine wpList_nil ?_
      refine then_normal ?_
      refine wp_cond_split (t := ((!(((((x3 == 0) && (x21 == 0)) && (x02 == x01)) && ((↑(Sl.n x13) : Int) == 0)) && ((IntKind.i64.wrap (x01 - prev)) == (↑(Sl.n m) : Int)))) || (decide (x01 < base)))) rfl (fun hc2 => ?_) (fun hc2 => ?_)
      · replace h := h.1 hc2
        refine wp_seq ?_
        refine wp_region_lit ?_
        refine st_val (.bool (((((x3 == 0) && (x21 == 0)) && (x02 == x01)) && ((↑(Sl.n x13) : Int) == 0)) && ((IntKind.i64.wrap (x01 - prev)) == (↑(Sl.n m) : Int)))) (wn rfl) rfl (by simp only [f0, f1, f2]; rfl) ?_
        refine st_val (.bool (((((x3 == 0) && (x21 == 0)) && (x02 == x01)) && ((↑(Sl.n x13) : Int) == 0)) && ((IntKind.i64.wrap (x01 - prev)) == (↑(Sl.n m) : Int)))) (wn rfl) rfl (by simp only [f0, f1, f2]; rfl) ?_
        refine wpList_nil ?_
        refine then_normal ?_
        refine wp_ret ?_
        refine then_ret ?_
        exact end_ret (r_res1 (v := .bool (((((x3 == 0) && (x21 == 0)) && (x02 == x01)) && ((↑(Sl.n x13) : Int) == 0)) && ((IntKind.i64.wrap (x01 - prev)) == (↑(Sl.n m) : Int)))) Try.results3 ⟨rfl, trivial⟩) rfl h
      · replace h := h.2 hc2
        refine wp_skip ?_
        refine then_normal ?_
        refine wp_seq ?_
        refine wp_region_lit ?_
        refine st_val (.int .i64 prev) (wn rfl) rfl (by simp only [f0, f1, f2]; rfl) ?_
        refine st_val (.int .i64 base) (wn rfl) rfl (by simp only [f0, f1, f2]; rfl) ?_
        refine st_val (.int .i64 (if base > prev then base else prev)) (wn rfl) (r_max rfl rfl) (by simp only [f0, f1, f2]; rfl) ?_
        refine st_val (.int .i64 (if base > prev then base else prev)) (wn rfl) rfl (by simp only [f0, f1, f2]; rfl) ?_
        refine wpList_nil ?_
        refine then_normal ?_
        refine wp_seq ?_
        refine wp_region_lit ?_
        refine st_val (.pointer x0) (wn rfl) rfl (by simp only [f0, f1, f2]; rfl) ?_
        refine st_val (.int .i64 (if base > prev then base else prev)) (wn rfl) rfl (by simp only [f0, f1, f2]; rfl) ?_
        refine st_val (.int .i64 (IntKind.i64.wrap ((if base > prev then base else prev) + 1))) (wn rfl) rfl (by simp only [f0, f1, f2]; rfl) ?_
        refine st_val (.int .i64 x01) (wn rfl) rfl (by simp only [f0, f1, f2]; rfl) ?_
        refine st_val (.int .i64 (if base > prev then base else prev)) (wn rfl) rfl (by simp only [f0, f1, f2]; rfl) ?_
        refine st_val (.int .i64 (IntKind.i64.wrap (x01 - (if base > prev then base else prev)))) (wn rfl) rfl (by simp only [f0, f1, f2]; rfl) ?_
        refine st_one (wn rfl) ?_
        refine o_enter (args := #[.pointer x0, .int .i64 (IntKind.i64.wrap ((if base > prev then base else prev) + 1)), .int .i64 (IntKind.i64.wrap (x01 - (if base > prev then base else prev)))]) (r_enter Try.call9 rfl) (h.mono ?_)
        clear h
        rintro _ w_5 ⟨x4, rfl, h⟩
        refine ⟨_, _, rfl, (by simp only [f0, f1, f2]; rfl), ?_⟩
        refine st_val (Sl.v x4) (wn rfl) rfl (by simp only [f0, f1, f2]; rfl) ?_
        refine wpList_nil ?_
        refine then_normal ?_
        refine wp_seq ?_
        refine wp_region_lit ?_
        refine st_val (Sl.v m) (wn rfl) rfl (by simp only [f0, f1, f2]; rfl) ?_
        refine st_val (Sl.v m) (wn rfl) rfl (by simp only [f0, f1, f2]; rfl) ?_
        refine st_val (.int .i64 (↑(Sl.n m) : Int)) (wn rfl) (r_len (s := m) (Try.runUnderlying22 _) rfl) (by simp only [f0, f1, f2]; rfl) ?_
        refine st_val (.int .i64 (if base > prev then base else prev)) (wn rfl) rfl (by simp only [f0, f1, f2]; rfl) ?_
        refine st_val (.int .i64 prev) (wn rfl) rfl (by simp only [f0, f1, f2]; rfl) ?_
        refine st_val (.int .i64 (IntKind.i64.wrap ((if base > prev then base else prev) - prev))) (wn rfl) rfl (by simp only [f0, f1, f2]; rfl) ?_
        refine st_val (.int .i64 (if IntKind.i64.wrap ((if base > prev then base else prev) - prev) < (↑(Sl.n m) : Int) then IntKind.i64.wrap ((if base > prev then base else prev) - prev) else (↑(Sl.n m) : Int))) (wn rfl) (r_min rfl rfl) (by simp only [f0, f1, f2]; rfl) ?_
        obtain ⟨lo, hx, h⟩ := h
        refine st_val (Sl.v (Sl.cut m lo (Sl.n m) (Sl.c m) 4)) (wn rfl) (r_slice100 (s := m) (Try.runUnderlying22 _) (Try.sizeOf34 _) rfl (congrArg (Value.int _) (hx.1)) (by first | exact hx.2.1 | omega) (by first | exact hx.2.2.1 | omega) (by first | exact hx.2.2.2 | omega)) (by simp only [f0, f1, f2]; rfl) ?_
        refine st_val (Sl.v (Sl.cut m lo (Sl.n m) (Sl.c m) 4)) (wn rfl) rfl (by simp only [f0, f1, f2]; rfl) ?_
        refine wpList_nil ?_
        refine then_normal ?_
        refine wp_seq ?_
        refine wp_seq ?_
        refine wp_region_lit ?_
        refine st_val (.int .i64 0) (wn rfl) rfl (by simp only [f0, f1, f2]; rfl) ?_
        refine wpList_nil ?_
        refine then_normal ?_
        refine wp_block ?_
        obtain ⟨I_, nv1, h0, hI⟩ := h
        refine wp_loop_ghost (fun nv' a' w' => ∃ i : Int, (∃ us12 : Nat → Value, a' = (⟨(fillin us12 0 (some (.int .i64 base) :: some (.int .i64 term_) :: some (Sl.v l) :: some (.int .i64 prev) :: some (.int .i64 of_) :: some (Sl.v m) :: some undef :: some undef :: some undef :: some undef :: some undef :: some undef :: none :: some (.bool x1) :: some (.pointer x0) :: some (.int .i64 x11) :: some (.int .i64 x01) :: some (Sl.v x12) :: some (.int .i64 x2) :: some (.int .i64 x3) :: some (.int .i64 x02) :: some (Sl.v x13) :: some (.int .i64 x21) :: some (.bool (((((x3 == 0) && (x21 == 0)) && (x02 == x01)) && ((↑(Sl.n x13) : Int) == 0)) && ((IntKind.i64.wrap (x01 - prev)) == (↑(Sl.n m) : Int)))) :: some (.int .i64 (if base > prev then base else prev)) :: some (Sl.v x4) :: some (Sl.v (Sl.cut m lo (Sl.n m) (Sl.c m) 4)) :: some (.int .i64 i) :: some (.bool x1) :: some (.tuple #[.pointer x0, .int .i64 x11]) :: some (.int .i64 base) :: some (.int .i64 term_) :: some (Sl.v l) :: some (.tuple #[.pointer x0, .int .i64 x11]) :: some (.pointer x0) :: some (.int .i64 x11) :: some (.bool x1) :: some (.bool (!x1)) :: some (.bool (!x1)) :: some ((us 39)) :: some ((us 40)) :: some (.bool ((!x1) || (x11 != 0))) :: some (.bool ((!x1) || (x11 != 0))) :: some ((us1 43)) :: some ((us1 44)) :: some (.bool (((!x1) || (x11 != 0)) || (Option.isNone x0))) :: some (.bool (((!x1) || (x11 != 0)) || (Option.isNone x0))) :: some ((us2 47)) :: some ((us2 48)) :: some (.bool ((((!x1) || (x11 != 0)) || (Option.isNone x0)) || (decide (prev < 0)))) :: some (.bool ((((!x1) || (x11 != 0)) || (Option.isNone x0)) || (decide (prev < 0)))) :: some ((us3 51)) :: some ((us3 52)) :: some (.bool (((((!x1) || (x11 != 0)) || (Option.isNone x0)) || (decide (prev < 0))) || (decide (prev > 1099511627776)))) :: some undef :: some (.tuple #[.int .i64 x01, Sl.v x12, .int .i64 x2]) :: some (.pointer x0) :: some (.int .i64 prev) :: some (.int .i64 of_) :: some (Sl.v m) :: some (.tuple #[.int .i64 x01, Sl.v x12, .int .i64 x2]) :: some (.int .i64 x01) :: some (Sl.v x12) :: some (.int .i64 x2) :: some (.int .i64 x2) :: some (.bool (x2 != 0)) :: some undef :: some undef :: some undef :: some undef :: some undef :: some undef :: some undef :: some undef :: some undef :: some undef :: some undef :: some undef :: some undef :: some undef :: some undef :: some (.pointer x0) :: some (Sl.v x12) :: some (.int .i64 x3) :: some (.tuple #[.int .i64 x02, Sl.v x13, .int .i64 x21]) :: some (.pointer x0) :: some (.int .i64 prev) :: some (.int .i64 of_) :: some (Sl.v m) :: some (.tuple #[.int .i64 x02, Sl.v x13, .int .i64 x21]) :: some (.int .i64 x02) :: some (Sl.v x13) :: some (.int .i64 x21) :: some (.int .i64 x3) :: some (.bool (x3 == 0)) :: some (.bool (x3 == 0)) :: some ((us7 96)) :: some ((us7 97)) :: some (.bool ((x3 == 0) && (x21 == 0))) :: some (.bool ((x3 == 0) && (x21 == 0))) :: some ((us8 100)) :: some ((us8 101)) :: some ((us8 102)) :: some (.bool (((x3 == 0) && (x21 == 0)) && (x02 == x01))) :: some (.bool (((x3 == 0) && (x21 == 0)) && (x02 == x01))) :: some ((us9 105)) :: some ((us9 106)) :: some ((us9 107)) :: some (.bool ((((x3 == 0) && (x21 == 0)) && (x02 == x01)) && ((↑(Sl.n x13) : Int) == 0))) :: some (.bool ((((x3 == 0) && (x21 == 0)) && (x02 == x01)) && ((↑(Sl.n x13) : Int) == 0))) :: some ((us10 110)) :: some ((us10 111)) :: some ((us10 112)) :: some ((us10 113)) :: some ((us10 114)) :: some ((us10 115)) :: some (.bool (((((x3 == 0) && (x21 == 0)) && (x02 == x01)) && ((↑(Sl.n x13) : Int) == 0)) && ((IntKind.i64.wrap (x01 - prev)) == (↑(Sl.n m) : Int)))) :: some (.bool (((((x3 == 0) && (x21 == 0)) && (x02 == x01)) && ((↑(Sl.n x13) : Int) == 0)) && ((IntKind.i64.wrap (x01 - prev)) == (↑(Sl.n m) : Int)))) :: some (.bool (!(((((x3 == 0) && (x21 == 0)) && (x02 == x01)) && ((↑(Sl.n x13) : Int) == 0)) && ((IntKind.i64.wrap (x01 - prev)) == (↑(Sl.n m) : Int))))) :: some (.bool (!(((((x3 == 0) && (x21 == 0)) && (x02 == x01)) && ((↑(Sl.n x13) : Int) == 0)) && ((IntKind.i64.wrap (x01 - prev)) == (↑(Sl.n m) : Int))))) :: some ((us11 120)) :: some ((us11 121)) :: some ((us11 122)) :: some (.bool ((!(((((x3 == 0) && (x21 == 0)) && (x02 == x01)) && ((↑(Sl.n x13) : Int) == 0)) && ((IntKind.i64.wrap (x01 - prev)) == (↑(Sl.n m) : Int)))) || (decide (x01 < base)))) :: some undef :: some (.int .i64 prev) :: some (.int .i64 base) :: some (.int .i64 (if base > prev then base else prev)) :: some (.pointer x0) :: some (.int .i64 (if base > prev then base else prev)) :: some (.int .i64 (IntKind.i64.wrap ((if base > prev then base else prev) + 1))) :: some (.int .i64 x01) :: some (.int .i64 (if base > prev then base else prev)) :: some (.int .i64 (IntKind.i64.wrap (x01 - (if base > prev then base else prev)))) :: some (Sl.v x4) :: some (Sl.v m) :: some (Sl.v m) :: some (.int .i64 (↑(Sl.n m) : Int)) :: some (.int .i64 (if base > prev then base else prev)) :: some (.int .i64 prev) :: some (.int .i64 (IntKind.i64.wrap ((if base > prev then base else prev) - prev))) :: some (.int .i64 (if IntKind.i64.wrap ((if base > prev then base else prev) - prev) < (↑(Sl.n m) : Int) then IntKind.i64.wrap ((if base > prev then base else prev) - prev) else (↑(Sl.n m) : Int))) :: some (Sl.v (Sl.cut m lo (Sl.n m) (Sl.c m) 4)) :: none :: none :: none :: none :: none :: none :: none :: none :: none :: none :: none :: none :: none :: none :: none :: none :: none :: none :: none :: none :: none :: none :: none :: none :: none :: none :: none :: none :: none :: none :: none :: none :: none :: none :: none :: none :: some undef :: some undef :: some undef :: some undef :: some undef :: [])).toArray, []⟩ : Act)) ∧ I_ nv' i w') nv1 ?_ ?_
        · exact ⟨_, (some_us rfl rfl rfl), h0⟩
        · clear h0
          rintro nv a0 w_6 ⟨i, ⟨us12, hF⟩, h⟩
          simp only [fillin, Nat.reduceAdd] at hF
          subst hF
          replace h := hI _ _ _ h
          refine wp_seq ?_
          refine wp_seq ?_
          refine wp_region_lit ?_
          refine st_val (.int .i64 i) (wn rfl) rfl (by simp only [f0, f1, f2]; rfl) ?_
          refine st_val (Sl.v x4) (wn rfl) rfl (by simp only [f0, f1, f2]; rfl) ?_
          refine st_val (.int .i64 (↑(Sl.n x4) : Int)) (wn rfl) (r_len (s := x4) (Try.runUnderlying22 _) rfl) (by simp only [f0, f1, f2]; rfl) ?_
          refine st_val (.bool (decide (i < (↑(Sl.n x4) : Int)))) (wn rfl) rfl (by simp only [f0, f1, f2]; rfl) ?_
          refine st_val (.bool (decide (i < (↑(Sl.n x4) : Int)))) (wn rfl) rfl (by simp only [f0, f1, f2]; rfl) ?_
          refine st_cut 5 (fun a' w' => (∃ us13 : Nat → Value, a' = (⟨(fillin us13 0 (some (.int .i64 base) :: some (.int .i64 term_) :: some (Sl.v l) :: some (.int .i64 prev) :: some (.int .i64 of_) :: some (Sl.v m) :: some undef :: some undef :: some undef :: some undef :: some undef :: some undef :: some ((us12 12)) :: some (.bool x1) :: some (.pointer x0) :: some (.int .i64 x11) :: some (.int .i64 x01) :: some (Sl.v x12) :: some (.int .i64 x2) :: some (.int .i64 x3) :: some (.int .i64 x02) :: some (Sl.v x13) :: some (.int .i64 x21) :: some (.bool (((((x3 == 0) && (x21 == 0)) && (x02 == x01)) && ((↑(Sl.n x13) : Int) == 0)) && ((IntKind.i64.wrap (x01 - prev)) == (↑(Sl.n m) : Int)))) :: some (.int .i64 (if base > prev then base else prev)) :: some (Sl.v x4) :: some (Sl.v (Sl.cut m lo (Sl.n m) (Sl.c m) 4)) :: some (.int .i64 i) :: some (.bool x1) :: some (.tuple #[.pointer x0, .int .i64 x11]) :: some (.int .i64 base) :: some (.int .i64 term_) :: some (Sl.v l) :: some (.tuple #[.pointer x0, .int .i64 x11]) :: some (.pointer x0) :: some (.int .i64 x11) :: some (.bool x1) :: some (.bool (!x1)) :: some (.bool (!x1)) :: some ((us 39)) :: some ((us 40)) :: some (.bool ((!x1) || (x11 != 0))) :: some (.bool ((!x1) || (x11 != 0))) :: some ((us1 43)) :: some ((us1 44)) :: some (.bool (((!x1) || (x11 != 0)) || (Option.isNone x0))) :: some (.bool (((!x1) || (x11 != 0)) || (Option.isNone x0))) :: some ((us2 47)) :: some ((us2 48)) :: some (.bool ((((!x1) || (x11 != 0)) || (Option.isNone x0)) || (decide (prev < 0)))) :: some (.bool ((((!x1) || (x11 != 0)) || (Option.isNone x0)) || (decide (prev < 0)))) :: some ((us3 51)) :: some ((us3 52)) :: some (.bool (((((!x1) || (x11 != 0)) || (Option.isNone x0)) || (decide (prev < 0))) || (decide (prev > 1099511627776)))) :: some undef :: some (.tuple #[.int .i64 x01, Sl.v x12, .int .i64 x2]) :: some (.pointer x0) :: some (.int .i64 prev) :: some (.int .i64 of_) :: some (Sl.v m) :: some (.tuple #[.int .i64 x01, Sl.v x12, .int .i64 x2]) :: some (.int .i64 x01) :: some (Sl.v x12) :: some (.int .i64 x2) :: some (.int .i64 x2) :: some (.bool (x2 != 0)) :: some undef :: some undef :: some undef :: some undef :: some undef :: some undef :: some undef :: some undef :: some undef :: some undef :: some undef :: some undef :: some undef :: some undef :: some undef :: some (.pointer x0) :: some (Sl.v x12) :: some (.int .i64 x3) :: some (.tuple #[.int .i64 x02, Sl.v x13, .int .i64 x21]) :: some (.pointer x0) :: some (.int .i64 prev) :: some (.int .i64 of_) :: some (Sl.v m) :: some (.tuple #[.int .i64 x02, Sl.v x13, .int .i64 x21]) :: some (.int .i64 x02) :: some (Sl.v x13) :: some (.int .i64 x21) :: some (.int .i64 x3) :: some (.bool (x3 == 0)) :: some (.bool (x3 == 0)) :: some ((us7 96)) :: some ((us7 97)) :: some (.bool ((x3 == 0) && (x21 == 0))) :: some (.bool ((x3 == 0) && (x21 == 0))) :: some ((us8 100)) :: some ((us8 101)) :: some ((us8 102)) :: some (.bool (((x3 == 0) && (x21 == 0)) && (x02 == x01))) :: some (.bool (((x3 == 0) && (x21 == 0)) && (x02 == x01))) :: some ((us9 105)) :: some ((us9 106)) :: some ((us9 107)) :: some (.bool ((((x3 == 0) && (x21 == 0)) && (x02 == x01)) && ((↑(Sl.n x13) : Int) == 0))) :: some (.bool ((((x3 == 0) && (x21 == 0)) && (x02 == x01)) && ((↑(Sl.n x13) : Int) == 0))) :: some ((us10 110)) :: some ((us10 111)) :: some ((us10 112)) :: some ((us10 113)) :: some ((us10 114)) :: some ((us10 115)) :: some (.bool (((((x3 == 0) && (x21 == 0)) && (x02 == x01)) && ((↑(Sl.n x13) : Int) == 0)) && ((IntKind.i64.wrap (x01 - prev)) == (↑(Sl.n m) : Int)))) :: some (.bool (((((x3 == 0) && (x21 == 0)) && (x02 == x01)) && ((↑(Sl.n x13) : Int) == 0)) && ((IntKind.i64.wrap (x01 - prev)) == (↑(Sl.n m) : Int)))) :: some (.bool (!(((((x3 == 0) && (x21 == 0)) && (x02 == x01)) && ((↑(Sl.n x13) : Int) == 0)) && ((IntKind.i64.wrap (x01 - prev)) == (↑(Sl.n m) : Int))))) :: some (.bool (!(((((x3 == 0) && (x21 == 0)) && (x02 == x01)) && ((↑(Sl.n x13) : Int) == 0)) && ((IntKind.i64.wrap (x01 - prev)) == (↑(Sl.n m) : Int))))) :: some ((us11 120)) :: some ((us11 121)) :: some ((us11 122)) :: some (.bool ((!(((((x3 == 0) && (x21 == 0)) && (x02 == x01)) && ((↑(Sl.n x13) : Int) == 0)) && ((IntKind.i64.wrap (x01 - prev)) == (↑(Sl.n m) : Int)))) || (decide (x01 < base)))) :: some undef :: some (.int .i64 prev) :: some (.int .i64 base) :: some (.int .i64 (if base > prev then base else prev)) :: some (.pointer x0) :: some (.int .i64 (if base > prev then base else prev)) :: some (.int .i64 (IntKind.i64.wrap ((if base > prev then base else prev) + 1))) :: some (.int .i64 x01) :: some (.int .i64 (if base > prev then base else prev)) :: some (.int .i64 (IntKind.i64.wrap (x01 - (if base > prev then base else prev)))) :: some (Sl.v x4) :: some (Sl.v m) :: some (Sl.v m) :: some (.int .i64 (↑(Sl.n m) : Int)) :: some (.int .i64 (if base > prev then base else prev)) :: some (.int .i64 prev) :: some (.int .i64 (IntKind.i64.wrap ((if base > prev then base else prev) - prev))) :: some (.int .i64 (if IntKind.i64.wrap ((if base > prev then base else prev) - prev) < (↑(Sl.n m) : Int) then IntKind.i64.wrap ((if base > prev then base else prev) - prev) else (↑(Sl.n m) : Int))) :: some (Sl.v (Sl.cut m lo (Sl.n m) (Sl.c m) 4)) :: some (.int .i64 i) :: some (Sl.v x4) :: some (.int .i64 (↑(Sl.n x4) : Int)) :: some (.bool (decide (i < (↑(Sl.n x4) : Int)))) :: some (.bool (decide (i < (↑(Sl.n x4) : Int)))) :: none :: none :: none :: none :: some (.bool ((decide (i < (↑(Sl.n x4) : Int))) && (decide (i < (↑(Sl.n (Sl.cut m lo (Sl.n m) (Sl.c m) 4)) : Int))))) :: some ((us12 153)) :: some ((us12 154)) :: some ((us12 155)) :: some ((us12 156)) :: some ((us12 157)) :: some ((us12 158)) :: some ((us12 159)) :: some ((us12 160)) :: some ((us12 161)) :: some ((us12 162)) :: some ((us12 163)) :: some ((us12 164)) :: some ((us12 165)) :: some ((us12 166)) :: some ((us12 167)) :: some ((us12 168)) :: some ((us12 169)) :: some ((us12 170)) :: some ((us12 171)) :: some ((us12 172)) :: some ((us12 173)) :: some ((us12 174)) :: some ((us12 175)) :: some ((us12 176)) :: some ((us12 177)) :: some ((us12 178)) :: some undef :: some undef :: some undef :: some undef :: some undef :: [])).toArray, []⟩ : Act)) ∧ w_6 = w') ?_ ?_
          · simp only [List.take_succ_cons, List.take_zero]
            rcases Bool.eq_false_or_eq_true (decide (i < (↑(Sl.n x4) : Int))) with hg12 | hg12
            · refine st_val (.int .i64 i) (wt rfl rfl rfl (congrArg Value.bool hg12) rfl) rfl (by simp only [f0, f1, f2]; rfl) ?_
              refine st_val (Sl.v (Sl.cut m lo (Sl.n m) (Sl.c m) 4)) (wt rfl rfl rfl (congrArg Value.bool hg12) rfl) rfl (by simp only [f0, f1, f2]; rfl) ?_
              refine st_val (.int .i64 (↑(Sl.n (Sl.cut m lo (Sl.n m) (Sl.c m) 4)) : Int)) (wt rfl rfl rfl (congrArg Value.bool hg12) rfl) (r_len (s := Sl.cut m lo (Sl.n m) (Sl.c m) 4) (Try.runUnderlying22 _) rfl) (by simp only [f0, f1, f2]; rfl) ?_
              refine st_val (.bool (decide (i < (↑(Sl.n (Sl.cut m lo (Sl.n m) (Sl.c m) 4)) : Int)))) (wt rfl rfl rfl (congrArg Value.bool hg12) rfl) rfl (by simp only [f0, f1, f2]; rfl) ?_
              refine st_val (.bool (decide (i < (↑(Sl.n (Sl.cut m lo (Sl.n m) (Sl.c m) 4)) : Int)))) (wn rfl) (r_pickT (congrArg Value.bool hg12) rfl) (by simp only [f0, f1, f2]; rfl) ?_
              refine wpList_nil ?_
              exact then_normal ⟨some_us (by simp only [masked, hg12, Bool.true_and, Bool.false_and, Bool.true_or, Bool.false_or, cond_true, cond_false]) rfl rfl, rfl⟩
            · refine st_no (wt rfl rfl rfl (congrArg Value.bool hg12) rfl) (by simp only [f0, f1, f2]; rfl) ?_
              refine st_no (wt rfl rfl rfl (congrArg Value.bool hg12) rfl) (by simp only [f0, f1, f2]; rfl) ?_
              refine st_no (wt rfl rfl rfl (congrArg Value.bool hg12) rfl) (by simp only [f0, f1, f2]; rfl) ?_
              refine st_no (wt rfl rfl rfl (congrArg Value.bool hg12) rfl) (by simp only [f0, f1, f2]; rfl) ?_
              refine st_val (.bool false) (wn rfl) (r_pickF (congrArg Value.bool hg12) rfl) (by simp only [f0, f1, f2]; rfl) ?_
              refine wpList_nil ?_
              exact then_normal ⟨some_us (by simp only [masked, hg12, Bool.true_and, Bool.false_and, Bool.true_or, Bool.false_or, cond_true, cond_false]) rfl rfl, rfl⟩
          rintro a0 _ ⟨⟨us13, hF⟩, rfl⟩
          simp only [fillin, Nat.reduceAdd] at hF
          subst hF
          simp only [List.drop_succ_cons, List.drop_zero]
          refine wpList_nil ?_
          refine then_normal ?_
          refine wp_cond_split (t := ((decide (i < (↑(Sl.n x4) : Int))) && (decide (i < (↑(Sl.n (Sl.cut m lo (Sl.n m) (Sl.c m) 4)) : Int))))) rfl (fun hc3 => ?_) (fun hc3 => ?_)
          · replace h := h.1 hc3
            refine wp_skip ?_
            refine then_normal ?_
            refine wp_seq ?_
            refine wp_block ?_
            refine wp_seq ?_
            obtain ⟨ad, hx1, h⟩ := h
            obtain ⟨x5, hx2, h⟩ := h
            obtain ⟨ad1, hx3, h⟩ := h
            obtain ⟨x6, hx4, h⟩ := h
            obtain ⟨ad2, hx5, h⟩ := h
            obtain ⟨x7, hx6, h⟩ := h
            obtain ⟨ad3, hx7, h⟩ := h
            obtain ⟨x8, hx8, h⟩ := h
            refine wp_region_quiet_lit Try.checked.mixed (by kernel_rfl) ?_
            refine q_val (Sl.v x4) (wn rfl) (by rintro _ ⟨nd, rfl⟩; exact rfl) (by simp only [f0, f1, f2]; rfl) ?_
            refine q_val (.int .i64 i) (wn rfl) (by rintro _ ⟨nd, rfl⟩; exact rfl) (by simp only [f0, f1, f2]; rfl) ?_
            refine q_val (.pointer (some ad)) (wn rfl) (by rintro _ ⟨nd, rfl⟩; exact (r_indexS (s := x4) (Try.runUnderlying22 _) (Try.sizeOf34 _) rfl rfl hx1)) (by simp only [f0, f1, f2]; rfl) ?_
            refine q_val (.pointer (some (Addr.add ad 0))) (wn rfl) (by rintro _ ⟨nd, rfl⟩; exact (r_field (Try.runUnderlying34 _) rfl (Try.sizeOf3 _) rfl rfl)) (by simp only [f0, f1, f2]; rfl) ?_
            refine q_val (.int .i64 x5) (wn rfl) (by rintro _ ⟨nd, rfl⟩; exact (r_load1 (Try.isAgg3 _) rfl (Cells.one (q_cells hx2)))) (by simp only [f0, f1, f2]; rfl) ?_
            refine q_val (Sl.v (Sl.cut m lo (Sl.n m) (Sl.c m) 4)) (wn rfl) (by rintro _ ⟨nd, rfl⟩; exact rfl) (by simp only [f0, f1, f2]; rfl) ?_
            refine q_val (.int .i64 i) (wn rfl) (by rintro _ ⟨nd, rfl⟩; exact rfl) (by simp only [f0, f1, f2]; rfl) ?_
            refine q_val (.pointer (some ad1)) (wn rfl) (by rintro _ ⟨nd, rfl⟩; exact (r_indexS (s := Sl.cut m lo (Sl.n m) (Sl.c m) 4) (Try.runUnderlying22 _) (Try.sizeOf34 _) rfl rfl hx3)) (by simp only [f0, f1, f2]; rfl) ?_
            refine q_val (.pointer (some (Addr.add ad1 0))) (wn rfl) (by rintro _ ⟨nd, rfl⟩; exact (r_field (Try.runUnderlying34 _) rfl (Try.sizeOf3 _) rfl rfl)) (by simp only [f0, f1, f2]; rfl) ?_
            refine q_val (.int .i64 x6) (wn rfl) (by rintro _ ⟨nd, rfl⟩; exact (r_load1 (Try.isAgg3 _) rfl (Cells.one (q_cells hx4)))) (by simp only [f0, f1, f2]; rfl) ?_
            refine q_val (.bool (x5 != x6)) (wn rfl) (by rintro _ ⟨nd, rfl⟩; exact rfl) (by simp only [f0, f1, f2]; rfl) ?_
            refine q_val (.bool (x5 != x6)) (wn rfl) (by rintro _ ⟨nd, rfl⟩; exact rfl) (by simp only [f0, f1, f2]; rfl) ?_
            refine q_cut 12 (fun a' => ∃ us14 : Nat → Value, a' = (⟨(fillin us14 0 (some (.int .i64 base) :: some (.int .i64 term_) :: some (Sl.v l) :: some (.int .i64 prev) :: some (.int .i64 of_) :: some (Sl.v m) :: some undef :: some undef :: some undef :: some undef :: some undef :: some undef :: some ((us12 12)) :: some (.bool x1) :: some (.pointer x0) :: some (.int .i64 x11) :: some (.int .i64 x01) :: some (Sl.v x12) :: some (.int .i64 x2) :: some (.int .i64 x3) :: some (.int .i64 x02) :: some (Sl.v x13) :: some (.int .i64 x21) :: some (.bool (((((x3 == 0) && (x21 == 0)) && (x02 == x01)) && ((↑(Sl.n x13) : Int) == 0)) && ((IntKind.i64.wrap (x01 - prev)) == (↑(Sl.n m) : Int)))) :: some (.int .i64 (if base > prev then base else prev)) :: some (Sl.v x4) :: some (Sl.v (Sl.cut m lo (Sl.n m) (Sl.c m) 4)) :: some (.int .i64 i) :: some (.bool x1) :: some (.tuple #[.pointer x0, .int .i64 x11]) :: some (.int .i64 base) :: some (.int .i64 term_) :: some (Sl.v l) :: some (.tuple #[.pointer x0, .int .i64 x11]) :: some (.pointer x0) :: some (.int .i64 x11) :: some (.bool x1) :: some (.bool (!x1)) :: some (.bool (!x1)) :: some ((us 39)) :: some ((us 40)) :: some (.bool ((!x1) || (x11 != 0))) :: some (.bool ((!x1) || (x11 != 0))) :: some ((us1 43)) :: some ((us1 44)) :: some (.bool (((!x1) || (x11 != 0)) || (Option.isNone x0))) :: some (.bool (((!x1) || (x11 != 0)) || (Option.isNone x0))) :: some ((us2 47)) :: some ((us2 48)) :: some (.bool ((((!x1) || (x11 != 0)) || (Option.isNone x0)) || (decide (prev < 0)))) :: some (.bool ((((!x1) || (x11 != 0)) || (Option.isNone x0)) || (decide (prev < 0)))) :: some ((us3 51)) :: some ((us3 52)) :: some (.bool (((((!x1) || (x11 != 0)) || (Option.isNone x0)) || (decide (prev < 0))) || (decide (prev > 1099511627776)))) :: some undef :: some (.tuple #[.int .i64 x01, Sl.v x12, .int .i64 x2]) :: some (.pointer x0) :: some (.int .i64 prev) :: some (.int .i64 of_) :: some (Sl.v m) :: some (.tuple #[.int .i64 x01, Sl.v x12, .int .i64 x2]) :: some (.int .i64 x01) :: some (Sl.v x12) :: some (.int .i64 x2) :: some (.int .i64 x2) :: some (.bool (x2 != 0)) :: some undef :: some undef :: some undef :: some undef :: some undef :: some undef :: some undef :: some undef :: some undef :: some undef :: some undef :: some undef :: some undef :: some undef :: some undef :: some (.pointer x0) :: some (Sl.v x12) :: some (.int .i64 x3) :: some (.tuple #[.int .i64 x02, Sl.v x13, .int .i64 x21]) :: some (.pointer x0) :: some (.int .i64 prev) :: some (.int .i64 of_) :: some (Sl.v m) :: some (.tuple #[.int .i64 x02, Sl.v x13, .int .i64 x21]) :: some (.int .i64 x02) :: some (Sl.v x13) :: some (.int .i64 x21) :: some (.int .i64 x3) :: some (.bool (x3 == 0)) :: some (.bool (x3 == 0)) :: some ((us7 96)) :: some ((us7 97)) :: some (.bool ((x3 == 0) && (x21 == 0))) :: some (.bool ((x3 == 0) && (x21 == 0))) :: some ((us8 100)) :: some ((us8 101)) :: some ((us8 102)) :: some (.bool (((x3 == 0) && (x21 == 0)) && (x02 == x01))) :: some (.bool (((x3 == 0) && (x21 == 0)) && (x02 == x01))) :: some ((us9 105)) :: some ((us9 106)) :: some ((us9 107)) :: some (.bool ((((x3 == 0) && (x21 == 0)) && (x02 == x01)) && ((↑(Sl.n x13) : Int) == 0))) :: some (.bool ((((x3 == 0) && (x21 == 0)) && (x02 == x01)) && ((↑(Sl.n x13) : Int) == 0))) :: some ((us10 110)) :: some ((us10 111)) :: some ((us10 112)) :: some ((us10 113)) :: some ((us10 114)) :: some ((us10 115)) :: some (.bool (((((x3 == 0) && (x21 == 0)) && (x02 == x01)) && ((↑(Sl.n x13) : Int) == 0)) && ((IntKind.i64.wrap (x01 - prev)) == (↑(Sl.n m) : Int)))) :: some (.bool (((((x3 == 0) && (x21 == 0)) && (x02 == x01)) && ((↑(Sl.n x13) : Int) == 0)) && ((IntKind.i64.wrap (x01 - prev)) == (↑(Sl.n m) : Int)))) :: some (.bool (!(((((x3 == 0) && (x21 == 0)) && (x02 == x01)) && ((↑(Sl.n x13) : Int) == 0)) && ((IntKind.i64.wrap (x01 - prev)) == (↑(Sl.n m) : Int))))) :: some (.bool (!(((((x3 == 0) && (x21 == 0)) && (x02 == x01)) && ((↑(Sl.n x13) : Int) == 0)) && ((IntKind.i64.wrap (x01 - prev)) == (↑(Sl.n m) : Int))))) :: some ((us11 120)) :: some ((us11 121)) :: some ((us11 122)) :: some (.bool ((!(((((x3 == 0) && (x21 == 0)) && (x02 == x01)) && ((↑(Sl.n x13) : Int) == 0)) && ((IntKind.i64.wrap (x01 - prev)) == (↑(Sl.n m) : Int)))) || (decide (x01 < base)))) :: some undef :: some (.int .i64 prev) :: some (.int .i64 base) :: some (.int .i64 (if base > prev then base else prev)) :: some (.pointer x0) :: some (.int .i64 (if base > prev then base else prev)) :: some (.int .i64 (IntKind.i64.wrap ((if base > prev then base else prev) + 1))) :: some (.int .i64 x01) :: some (.int .i64 (if base > prev then base else prev)) :: some (.int .i64 (IntKind.i64.wrap (x01 - (if base > prev then base else prev)))) :: some (Sl.v x4) :: some (Sl.v m) :: some (Sl.v m) :: some (.int .i64 (↑(Sl.n m) : Int)) :: some (.int .i64 (if base > prev then base else prev)) :: some (.int .i64 prev) :: some (.int .i64 (IntKind.i64.wrap ((if base > prev then base else prev) - prev))) :: some (.int .i64 (if IntKind.i64.wrap ((if base > prev then base else prev) - prev) < (↑(Sl.n m) : Int) then IntKind.i64.wrap ((if base > prev then base else prev) - prev) else (↑(Sl.n m) : Int))) :: some (Sl.v (Sl.cut m lo (Sl.n m) (Sl.c m) 4)) :: some (.int .i64 i) :: some (Sl.v x4) :: some (.int .i64 (↑(Sl.n x4) : Int)) :: some (.bool (decide (i < (↑(Sl.n x4) : Int)))) :: some (.bool (decide (i < (↑(Sl.n x4) : Int)))) :: some ((us13 148)) :: some ((us13 149)) :: some ((us13 150)) :: some ((us13 151)) :: some (.bool ((decide (i < (↑(Sl.n x4) : Int))) && (decide (i < (↑(Sl.n (Sl.cut m lo (Sl.n m) (Sl.c m) 4)) : Int))))) :: some ((us12 153)) :: some ((us12 154)) :: some (Sl.v x4) :: some (.int .i64 i) :: some (.pointer (some ad)) :: some (.pointer (some (Addr.add ad 0))) :: some (.int .i64 x5) :: some (Sl.v (Sl.cut m lo (Sl.n m) (Sl.c m) 4)) :: some (.int .i64 i) :: some (.pointer (some ad1)) :: some (.pointer (some (Addr.add ad1 0))) :: some (.int .i64 x6) :: some (.bool (x5 != x6)) :: some (.bool (x5 != x6)) :: none :: none :: none :: none :: none :: none :: none :: none :: none :: none :: none :: some (.bool ((x5 != x6) || (x7 != x8))) :: some undef :: some undef :: some undef :: some undef :: some undef :: [])).toArray, []⟩ : Act)) ?_ ?_
            · simp only [List.take_succ_cons, List.take_zero]
              rcases Bool.eq_false_or_eq_true (x5 != x6) with hg13 | hg13
              · refine q_no (wt rfl rfl rfl (congrArg Value.bool hg13) rfl) (by simp only [f0, f1, f2]; rfl) ?_
                refine q_no (wt rfl rfl rfl (congrArg Value.bool hg13) rfl) (by simp only [f0, f1, f2]; rfl) ?_
                refine q_no (wt rfl rfl rfl (congrArg Value.bool hg13) rfl) (by simp only [f0, f1, f2]; rfl) ?_
                refine q_no (wt rfl rfl rfl (congrArg Value.bool hg13) rfl) (by simp only [f0, f1, f2]; rfl) ?_
                refine q_no (wt rfl rfl rfl (congrArg Value.bool hg13) rfl) (by simp only [f0, f1, f2]; rfl) ?_
                refine q_no (wt rfl rfl rfl (congrArg Value.bool hg13) rfl) (by simp only [f0, f1, f2]; rfl) ?_
                refine q_no (wt rfl rfl rfl (congrArg Value.bool hg13) rfl) (by simp only [f0, f1, f2]; rfl) ?_
                refine q_no (wt rfl rfl rfl (congrArg Value.bool hg13) rfl) (by simp only [f0, f1, f2]; rfl) ?_
                refine q_no (wt rfl rfl rfl (congrArg Value.bool hg13) rfl) (by simp only [f0, f1, f2]; rfl) ?_
                refine q_no (wt rfl rfl rfl (congrArg Value.bool hg13) rfl) (by simp only [f0, f1, f2]; rfl) ?_
                refine q_no (wt rfl rfl rfl (congrArg Value.bool hg13) rfl) (by simp only [f0, f1, f2]; rfl) ?_
                refine q_val (.bool true) (wn rfl) (by rintro _ ⟨nd, rfl⟩; exact (r_pickT (congrArg Value.bool hg13) rfl)) (by simp only [f0, f1, f2]; rfl) ?_
                refine wpQuiet_nil ?_
                exact some_us (by simp only [masked, hg13, Bool.true_and, Bool.false_and, Bool.true_or, Bool.false_or, cond_true, cond_false]) rfl rfl
              · refine q_val (Sl.v x4) (wt rfl rfl rfl (congrArg Value.bool hg13) rfl) (by rintro _ ⟨nd, rfl⟩; exact rfl) (by simp only [f0, f1, f2]; rfl) ?_
                refine q_val (.int .i64 i) (wt rfl rfl rfl (congrArg Value.bool hg13) rfl) (by rintro _ ⟨nd, rfl⟩; exact rfl) (by simp only [f0, f1, f2]; rfl) ?_
                refine q_val (.pointer (some ad2)) (wt rfl rfl rfl (congrArg Value.bool hg13) rfl) (by rintro _ ⟨nd, rfl⟩; exact (r_indexS (s := x4) (Try.runUnderlying22 _) (Try.sizeOf34 _) rfl rfl (hx5 hg13))) (by simp only [f0, f1, f2]; rfl) ?_
                refine q_val (.pointer (some (Addr.add ad2 1))) (wt rfl rfl rfl (congrArg Value.bool hg13) rfl) (by rintro _ ⟨nd, rfl⟩; exact (r_field (Try.runUnderlying34 _) rfl (Try.sizeOf3 _) rfl rfl)) (by simp only [f0, f1, f2]; rfl) ?_
                refine q_val (.int .i64 x7) (wt rfl rfl rfl (congrArg Value.bool hg13) rfl) (by rintro _ ⟨nd, rfl⟩; exact (r_load1 (Try.isAgg3 _) rfl (Cells.one (q_cells (hx6 hg13))))) (by simp only [f0, f1, f2]; rfl) ?_
                refine q_val (Sl.v (Sl.cut m lo (Sl.n m) (Sl.c m) 4)) (wt rfl rfl rfl (congrArg Value.bool hg13) rfl) (by rintro _ ⟨nd, rfl⟩; exact rfl) (by simp only [f0, f1, f2]; rfl) ?_
                refine q_val (.int .i64 i) (wt rfl rfl rfl (congrArg Value.bool hg13) rfl) (by rintro _ ⟨nd, rfl⟩; exact rfl) (by simp only [f0, f1, f2]; rfl) ?_
                refine q_val (.pointer (some ad3)) (wt rfl rfl rfl (congrArg Value.bool hg13) rfl) (by rintro _ ⟨nd, rfl⟩; exact (r_indexS (s := Sl.cut m lo (Sl.n m) (Sl.c m) 4) (Try.runUnderlying22 _) (Try.sizeOf34 _) rfl rfl (hx7 hg13))) (by simp only [f0, f1, f2]; rfl) ?_
                refine q_val (.pointer (some (Addr.add ad3 1))) (wt rfl rfl rfl (congrArg Value.bool hg13) rfl) (by rintro _ ⟨nd, rfl⟩; exact (r_field (Try.runUnderlying34 _) rfl (Try.sizeOf3 _) rfl rfl)) (by simp only [f0, f1, f2]; rfl) ?_
                refine q_val (.int .i64 x8) (wt rfl rfl rfl (congrArg Value.bool hg13) rfl) (by rintro _ ⟨nd, rfl⟩; exact (r_load1 (Try.isAgg3 _) rfl (Cells.one (q_cells (hx8 hg13))))) (by simp only [f0, f1, f2]; rfl) ?_
                refine q_val (.bool (x7 != x8)) (wt rfl rfl rfl (congrArg Value.bool hg13) rfl) (by rintro _ ⟨nd, rfl⟩; exact rfl) (by simp only [f0, f1, f2]; rfl) ?_
                refine q_val (.bool (x7 != x8)) (wn rfl) (by rintro _ ⟨nd, rfl⟩; exact (r_pickF (congrArg Value.bool hg13) rfl)) (by simp only [f0, f1, f2]; rfl) ?_
                refine wpQuiet_nil ?_
                exact some_us (by simp only [masked, hg13, Bool.true_and, Bool.false_and, Bool.true_or, Bool.false_or, cond_true, cond_false]) rfl rfl
            rintro a0 ⟨us14, hF⟩
            simp only [fillin, Nat.reduceAdd] at hF
            subst hF
            simp only [List.drop_succ_cons, List.drop_zero]
            refine wpQuiet_nil ?_
            rintro _ ⟨nd, rfl⟩
            have hO := Only.drewN w_6 nd
            generalize w_6.drewN nd = w_7 at *
            have hA : Only [] w_6 w_7 := hO
            refine then_normal ?_
            refine wp_cond_split (t := ((x5 != x6) || (x7 != x8))) rfl (fun hc4 => ?_) (fun hc4 => ?_)
            · replace h := h.1 hc4
              refine wp_seq ?_
              refine wp_region_lit ?_
              refine st_val (.bool false) (wn rfl) rfl (by simp only [f0, f1, f2]; rfl) ?_
              refine wpList_nil ?_
              refine then_normal ?_
              refine wp_ret ?_
              refine block_ret ?_
              refine then_ret ?_
              refine then_ret ?_
              refine block_ret ?_
              refine then_ret ?_
              replace h := h w_7 hA
              exact end_ret (r_res1 (v := .bool false) Try.results3 ⟨rfl, trivial⟩) rfl h
            · replace h := h.2 hc4
              refine wp_skip ?_
              refine block_normal ?_
              refine then_normal ?_
              refine wp_region_lit ?_
              refine st_val (.int .i64 i) (wn rfl) rfl (by simp only [f0, f1, f2]; rfl) ?_
              refine st_val (.int .i64 (IntKind.i64.wrap (i + 1))) (wn rfl) rfl (by simp only [f0, f1, f2]; rfl) ?_
              refine st_val (.int .i64 (IntKind.i64.wrap (i + 1))) (wn rfl) rfl (by simp only [f0, f1, f2]; rfl) ?_
              refine wpList_nil ?_
              refine then_normal ?_
              replace h := h w_7 hA
              obtain ⟨nv2, hl, h⟩ := h
              exact ⟨nv2, hl, _, (some_us rfl rfl rfl), h⟩
          · replace h := h.2 hc3
            refine wp_exit ?_
            refine then_exit ?_
            refine then_exit ?_
            refine block_hit ?_
            refine then_normal ?_
            refine wp_seq ?_
            refine wp_region_lit ?_
            refine st_val (Sl.v x4) (wn rfl) rfl (by simp only [f0, f1, f2]; rfl) ?_
            refine st_val (.int .i64 (↑(Sl.n x4) : Int)) (wn rfl) (r_len (s := x4) (Try.runUnderlying22 _) rfl) (by simp only [f0, f1, f2]; rfl) ?_
            refine st_val (Sl.v (Sl.cut m lo (Sl.n m) (Sl.c m) 4)) (wn rfl) rfl (by simp only [f0, f1, f2]; rfl) ?_
            refine st_val (.int .i64 (↑(Sl.n (Sl.cut m lo (Sl.n m) (Sl.c m) 4)) : Int)) (wn rfl) (r_len (s := Sl.cut m lo (Sl.n m) (Sl.c m) 4) (Try.runUnderlying22 _) rfl) (by simp only [f0, f1, f2]; rfl) ?_
            refine st_val (.bool ((↑(Sl.n x4) : Int) == (↑(Sl.n (Sl.cut m lo (Sl.n m) (Sl.c m) 4)) : Int))) (wn rfl) rfl (by simp only [f0, f1, f2]; rfl) ?_
            refine st_val (.bool ((↑(Sl.n x4) : Int) == (↑(Sl.n (Sl.cut m lo (Sl.n m) (Sl.c m) 4)) : Int))) (wn rfl) rfl (by simp only [f0, f1, f2]; rfl) ?_
            refine wpList_nil ?_
            refine then_normal ?_
            refine wp_ret ?_
            exact end_ret (r_res1 (v := .bool ((↑(Sl.n x4) : Int) == (↑(Sl.n (Sl.cut m lo (Sl.n m) (Sl.c m) 4)) : Int))) Try.results3 ⟨rfl, trivial⟩) rfl h

/-- what is to be shown of a call of pavanelaw24.LedgerMatches -/
def pavanelaw24_LedgerMatches_vc (start : Sl) (steps : Sl) (R : Value → World → Prop) (w : World) : Prop :=
  Calls Try.prog 5 #[] w (fun e w_ => ∃ x1 : Bool, e = .returned (.bool x1) ∧
  ∀ (b : Nat) (w_1 : World), w_.heap.size ≤ b → b < w_1.heap.size → Only [] w_ w_1 → Blk w_1 b 38 [.pointer none, .pointer none, .pointer none] →
  ∃ (I_ : Nat → Int → World → Prop) (nv1 : Nat), I_ nv1 0 w_1 ∧
  ∀ (nv : Nat) (i : Int) (w_2 : World), I_ nv i w_2 →
  (((decide (i < 3)) = true →
  Calls Try.prog 6 #[.int .i64 0, .int .i64 0, Sl.v Sl.nil] w_2 (fun e w_3 => ∃ x0 : Option Addr, ∃ x11 : Int, e = .returned (.tuple #[.pointer x0, .int .i64 x11]) ∧
  (((((!x1) || (Option.isNone x0)) || (x11 != 0)) = true →
  R (.bool false) w_3) ∧
  ((((!x1) || (Option.isNone x0)) || (x11 != 0)) = false →
  (0 ≤ i ∧ i < 3) ∧
  ∃ (bk off : Nat) (cells : List Value) (ety : TypeId), Addr.add (⟨b, 0, none⟩ : Addr) (Int.toNat i * 1) = (⟨bk, off, none⟩ : Addr) ∧ Blk w_3 bk ety cells ∧ off + 1 ≤ cells.length ∧ ∀ w_4 : World, Only [bk] w_3 w_4 → Blk w_4 bk ety (splice cells off [.pointer x0]) →
  ∃ nv2 : Nat, nv2 < nv ∧ I_ nv2 (IntKind.i64.wrap (i + 1)) w_4)))) ∧
  ((decide (i < 3)) = false →
  ∃ (I_1 : Nat → Int → Int → Int → World → Prop) (nv4 : Nat), I_1 nv4 0 0 0 w_2 ∧
  ∀ (nv3 : Nat) (term_ : Int) (owner : Int) (i1 : Int) (w_5 : World), I_1 nv3 term_ owner i1 w_5 →
  ((((decide (i1 < (↑(Sl.n start) : Int))) && (decide (i1 < 60))) = true →
  ∃ J_ : Int → Int → World → Prop, (∀ (term_1 : Int) (owner1 : Int) (w_6 : World), J_ term_1 owner1 w_6 →
  (0 ≤ owner1 ∧ owner1 < 3) ∧
  ∃ x2 : Option Addr, Cells w_6 (Addr.add (⟨b, 0, none⟩ : Addr) (Int.toNat owner1 * 1)) [.pointer x2] ∧
  Calls Try.prog 10 #[.pointer x2] w_6 (fun e w_7 => ∃ x01 : Int, ∃ x12 : Int, e = .returned (.tuple #[.int .i64 x01, .int .i64 x12]) ∧
  (0 ≤ owner1 ∧ owner1 < 3) ∧
  ∃ x3 : Option Addr, Cells w_7 (Addr.add (⟨b, 0, none⟩ : Addr) (Int.toNat owner1 * 1)) [.pointer x3] ∧
  ∃ x4 : Sl, ∃ w_8 : World, (Instr.buildSlice 32 1 #[(0, .int .u8 (IntKind.u8.wrap i1))]).run Try.prog w_7 = .ok (Sl.v x4) w_8 ∧
  ∃ x5 : Sl, ∃ w_9 : World, (Instr.buildSlice 22 1 #[(0, .agg #[.int .i64 (IntKind.i64.wrap (x01 + 1)), .int .i64 term_1, .int .i64 0, Sl.v x4])]).run Try.prog w_8 = .ok (Sl.v x5) w_9 ∧
  Calls Try.prog 8 #[.pointer x3, Sl.v x5] w_9 (fun e w_10 => ∃ x6 : Int, e = .returned (.int .i64 x6) ∧
  ∃ (I_2 : Nat → Int → World → Prop) (nv6 : Nat), I_2 nv6 0 w_10 ∧
  ∀ (nv5 : Nat) (k : Int) (w_11 : World), I_2 nv5 k w_11 →
  ((((decide (k < 2)) && (decide (i1 < (↑(Sl.n steps) : Int)))) = true →
  ∃ x02 : Option Addr, ∃ x13 : Option Addr, ∃ x21 : Option Addr, Cells w_11 (⟨b, 0, none⟩ : Addr) [.pointer x02, .pointer x13, .pointer x21] ∧
  (↑(Sl.n steps) : Int) ≠ 0 ∧
  ∃ ad : Addr, SlAt steps (Int.tmod (IntKind.i64.wrap (i1 + (IntKind.i64.wrap (k * 7)))) (↑(Sl.n steps) : Int)) 4 ad ∧
  ∃ x03 : Int, ∃ x14 : Int, ∃ x22 : Int, ∃ x31 : Int, Cells w_11 ad [.int .i64 x03, .int .i64 x14, .int .i64 x22, .int .i64 x31] ∧
  ∀ (w_12 : World), Only [] w_11 w_12 →
  Calls Try.prog 11 #[.agg #[.pointer x02, .pointer x13, .pointer x21], .agg #[.int .i64 x03, .int .i64 x14, .int .i64 x22, .int .i64 x31], .int .i64 owner1] w_12 (fun e w_13 => ∃ x7 : Bool, e = .returned (.bool x7) ∧
  (((!x7) = true →
  R (.bool false) w_13) ∧
  ((!x7) = false →
  ∃ nv7 : Nat, nv7 < nv5 ∧ I_2 nv7 (IntKind.i64.wrap (k + 1)) w_13)))) ∧
  (((decide (k < 2)) && (decide (i1 < (↑(Sl.n steps) : Int)))) = false →
  ∃ nv8 : Nat, nv8 < nv3 ∧ I_1 nv8 term_1 owner1 (IntKind.i64.wrap (i1 + 1)) w_11))))) ∧
  (∃ ad1 : Addr, SlAt start i1 1 ad1 ∧
  ∃ x8 : Int, Cells w_5 ad1 [.int .i64 x8] ∧
  (((((bits .and .i64 x8 7) == 0) || (term_ == 0)) = true →
  ∃ ad2 : Addr, SlAt start i1 1 ad2 ∧
  ∃ x9 : Int, Cells w_5 ad2 [.int .i64 x9] ∧
  J_ (IntKind.i64.wrap (term_ + 1)) (Int.tmod (bits .and .i64 (Int.fdiv x9 (2 ^ 3)) 1023) 3) w_5) ∧
  ((((bits .and .i64 x8 7) == 0) || (term_ == 0)) = false →
  J_ term_ owner w_5)))) ∧
  (((decide (i1 < (↑(Sl.n start) : Int))) && (decide (i1 < 60))) = false →
  ∃ J_1 : Bool → World → Prop, (∀ (t4 : Bool) (w_14 : World), J_1 t4 w_14 →
  R (.bool t4) w_14) ∧
  (∃ x10 : Option Addr, Cells w_5 (Addr.add (⟨b, 0, none⟩ : Addr) 0) [.pointer x10] ∧
  ∃ x15 : Option Addr, Cells w_5 (Addr.add (⟨b, 0, none⟩ : Addr) 1) [.pointer x15] ∧
  Calls Try.prog 12 #[.pointer x10, .pointer x15] w_5 (fun e w_15 => ∃ x16 : Bool, e = .returned (.bool x16) ∧
  ((x16 = true →
  ∃ x17 : Option Addr, Cells w_15 (Addr.add (⟨b, 0, none⟩ : Addr) 1) [.pointer x17] ∧
  ∃ x18 : Option Addr, Cells w_15 (Addr.add (⟨b, 0, none⟩ : Addr) 2) [.pointer x18] ∧
  Calls Try.prog 12 #[.pointer x17, .pointer x18] w_15 (fun e w_16 => ∃ x19 : Bool, e = .returned (.bool x19) ∧
  ((x19 = true →
  ∃ x20 : Option Addr, Cells w_16 (Addr.add (⟨b, 0, none⟩ : Addr) 0) [.pointer x20] ∧
  ∃ x23 : Option Addr, Cells w_16 (Addr.add (⟨b, 0, none⟩ : Addr) 2) [.pointer x23] ∧
  Calls Try.prog 12 #[.pointer x20, .pointer x23] w_16 (fun e w_17 => ∃ x24 : Bool, e = .returned (.bool x24) ∧
  J_1 x24 w_17)) ∧
  (x19 = false →
  J_1 false w_16)))) ∧
  (x16 = false →
  J_1 false w_15)))))))))
theorem pavanelaw24_LedgerMatches_wp (start : Sl) (steps : Sl) (R : Value → World → Prop) (w : World) (h : pavanelaw24_LedgerMatches_vc start steps R w) :
    Calls Try.prog 4 #[Sl.v start, Sl.v steps] w fun e w' => ∃ v, e = .returned v ∧ R v w' := by
  unfold pavanelaw24_LedgerMatches_vc at h
  refine calls_of (k := 129) Try.func4 rfl Try.ntmps4 rfl rfl ?_
  simp only [List.replicate, List.cons_append, List.nil_append]
  refine wp_seq ?_
  refine wp_region_lit ?_
  refine st_val (.bool false) (wn rfl) rfl (by simp only [f0, f1, f2]; rfl) ?_
  refine wpList_nil ?_
  refine then_normal ?_
  refine wp_seq ?_
  refine wp_region_lit ?_
  refine st_one (wn rfl) ?_
  refine o_enter (args := #[]) (r_enter Try.call5 rfl) (h.mono ?_)
  clear h
  rintro _ w_ ⟨x1, rfl, h⟩
  refine ⟨_, _, rfl, (by simp only [f0, f1, f2]; rfl), ?_⟩
  refine st_val (.bool x1) (wn rfl) rfl (by simp only [f0, f1, f2]; rfl) ?_
  refine wpList_nil ?_
  refine then_normal ?_
  refine wp_seq ?_
  refine wp_region_lit ?_
  refine st_one (wn rfl) ?_
  refine o_allocB (zs := [.pointer none, .pointer none, .pointer none]) (Try.zeroValue38 _) rfl (fun b => by simp only [f0, f1, f2]; rfl) (fun b w_1 hn hO hb => ?_)
  have hn_b : w_.heap.size ≤ b := hn
  have hA : Only [] w_ w_1 := hO
  replace h := h b w_1 hn_b hb.lt hA hb
  refine wpList_nil ?_
  refine then_normal ?_
  refine wp_seq ?_
  refine wp_seq ?_
  refine wp_region_lit ?_
  refine st_val (.int .i64 0) (wn rfl) rfl (by simp only [f0, f1, f2]; rfl) ?_
  refine wpList_nil ?_
  refine then_normal ?_
  refine wp_block ?_
  obtain ⟨I_, nv1, h0, hI⟩ := h
  refine wp_loop_ghost (fun nv' a' w' => ∃ i : Int, (∃ us : Nat → Value, a' = (⟨(fillin us 0 (some (Sl.v start) :: some (Sl.v steps) :: some undef :: some undef :: none :: some (.bool x1) :: some (.pointer (some (⟨b, 0, none⟩ : Addr))) :: some (.int .i64 i) :: none :: none :: some undef :: some undef :: some undef :: some undef :: some undef :: some undef :: some undef :: some (.bool x1) :: none :: none :: none :: none :: none :: none :: none :: none :: none :: none :: none :: none :: none :: none :: none :: none :: none :: none :: none :: none :: none :: some undef :: some undef :: some undef :: some undef :: some undef :: some undef :: some undef :: some undef :: some undef :: some undef :: some undef :: some undef :: some undef :: some undef :: some undef :: some undef :: some undef :: some undef :: some undef :: some undef :: some undef :: some undef :: some undef :: some undef :: some undef :: some undef :: some undef :: some undef :: some undef :: some undef :: some undef :: some undef :: some undef :: some undef :: some undef :: some undef :: some undef :: some undef :: some undef :: some undef :: some undef :: some undef :: some undef :: some undef :: some undef :: some undef :: some undef :: some undef :: some undef :: some undef :: some undef :: some undef :: some undef :: some undef :: some undef :: some undef :: some undef :: some undef :: some undef :: some undef :: some undef :: some undef :: some undef :: some undef :: some undef :: some undef :: some undef :: some undef :: some undef :: some undef :: some undef :: some undef :: some undef :: some undef :: some undef :: some undef :: some undef :: some undef :: some undef :: some undef :: some undef :: some undef :: some undef :: some undef :: some undef :: some undef :: some undef :: some undef :: some undef :: some undef :: some undef :: some undef :: [])).toArray, []⟩ : Act)) ∧ I_ nv' i w') nv1 ?_ ?_
  · exact ⟨_, (some_us rfl rfl rfl), h0⟩
  · clear h0
    rintro nv a0 w_2 ⟨i, ⟨us, hF⟩, h⟩
    simp only [fillin, Nat.reduceAdd] at hF
    subst hF
    replace h := hI _ _ _ h
    refine wp_seq ?_
    refine wp_seq ?_
    refine wp_region_lit ?_
    refine st_val (.int .i64 i) (wn rfl) rfl (by simp only [f0, f1, f2]; rfl) ?_
    refine st_val (.bool (decide (i < 3))) (wn rfl) rfl (by simp only [f0, f1, f2]; rfl) ?_
    refine wpList_nil ?_
    refine then_normal ?_
    refine wp_cond_split (t := (decide (i < 3))) rfl (fun hc => ?_) (fun hc => ?_)
    · replace h := h.1 hc
      refine wp_skip ?_
      refine then_normal ?_
      refine wp_seq ?_
      refine wp_block ?_
      refine wp_seq ?_
      refine wp_region_lit ?_
      refine st_one (wn rfl) ?_
      refine o_enter (args := #[.int .i64 0, .int .i64 0, Sl.v Sl.nil]) (r_enter Try.call6 rfl) (h.mono ?_)
      clear h
      rintro _ w_3 ⟨x0, x11, rfl, h⟩
      refine ⟨_, _, rfl, (by simp only [f0, f1, f2]; rfl), ?_⟩
      refine st_val (.tuple #[.pointer x0, .int .i64 x11]) (wn rfl) rfl (by simp only [f0, f1, f2]; rfl) ?_
      refine st_val (.pointer x0) (wn rfl) rfl (by simp only [f0, f1, f2]; rfl) ?_
      refine st_val (.int .i64 x11) (wn rfl) rfl (by simp only [f0, f1, f2]; rfl) ?_
      refine st_val (.pointer x0) (wn rfl) rfl (by simp only [f0, f1, f2]; rfl) ?_
      refine st_val (.int .i64 x11) (wn rfl) rfl (by simp only [f0, f1, f2]; rfl) ?_
      refine wpList_nil ?_
      refine then_normal ?_
      refine wp_seq ?_
      refine wp_seq ?_
      refine wp_region_lit ?_
      refine st_val (.bool x1) (wn rfl) rfl (by simp only [f0, f1, f2]; rfl) ?_
      refine st_val (.bool (!x1)) (wn rfl) rfl (by simp only [f0, f1, f2]; rfl) ?_
      refine st_val (.bool (!x1)) (wn rfl) rfl (by simp only [f0, f1, f2]; rfl) ?_
      refine st_cut 3 (fun a' w' => (∃ us1 : Nat → Value, a' = (⟨(fillin us1 0 (some (Sl.v start) :: some (Sl.v steps) :: some undef :: some undef :: some ((us 4)) :: some (.bool x1) :: some (.pointer (some (⟨b, 0, none⟩ : Addr))) :: some (.int .i64 i) :: some (.pointer x0) :: some (.int .i64 x11) :: some undef :: some undef :: some undef :: some undef :: some undef :: some undef :: some undef :: some (.bool x1) :: some (.int .i64 i) :: some (.bool (decide (i < 3))) :: some ((us 20)) :: some ((us 21)) :: some (.tuple #[.pointer x0, .int .i64 x11]) :: some (.tuple #[.pointer x0, .int .i64 x11]) :: some (.pointer x0) :: some (.int .i64 x11) :: some (.bool x1) :: some (.bool (!x1)) :: some (.bool (!x1)) :: none :: none :: some (.bool ((!x1) || (Option.isNone x0))) :: some ((us 32)) :: some ((us 33)) :: some ((us 34)) :: some ((us 35)) :: some ((us 36)) :: some ((us 37)) :: some ((us 38)) :: some undef :: some undef :: some undef :: some undef :: some undef :: some undef :: some undef :: some undef :: some undef :: some undef :: some undef :: some undef :: some undef :: some undef :: some undef :: some undef :: some undef :: some undef :: some undef :: some undef :: some undef :: some undef :: some undef :: some undef :: some undef :: some undef :: some undef :: some undef :: some undef :: some undef :: some undef :: some undef :: some undef :: some undef :: some undef :: some undef :: some undef :: some undef :: some undef :: some undef :: some undef :: some undef :: some undef :: some undef :: some undef :: some undef :: some undef :: some undef :: some undef :: some undef :: some undef :: some undef :: some undef :: some undef :: some undef :: some undef :: some undef :: some undef :: some undef :: some undef :: some undef :: some undef :: some undef :: some undef :: some undef :: some undef :: some undef :: some undef :: some undef :: some undef :: some undef :: some undef :: some undef :: some undef :: some undef :: some undef :: some undef :: some undef :: some undef :: some undef :: some undef :: some undef :: some undef :: some undef :: some undef :: some undef :: some undef :: some undef :: some undef :: some undef :: some undef :: some undef :: [])).toArray, []⟩ : Act)) ∧ w_3 = w') ?_ ?_
      · simp only [List.take_succ_cons, List.take_zero]
        rcases Bool.eq_false_or_eq_true (!x1) with hg | hg
        · refine st_no (wt rfl rfl rfl (congrArg Value.bool hg) rfl) (by simp only [f0, f1, f2]; rfl) ?_
          refine st_no (wt rfl rfl rfl (congrArg Value.bool hg) rfl) (by simp only [f0, f1, f2]; rfl) ?_
          refine st_val (.bool true) (wn rfl) (r_pickT (congrArg Value.bool hg) rfl) (by simp only [f0, f1, f2]; rfl) ?_
          refine wpList_nil ?_
          exact then_normal ⟨some_us (by simp only [masked, hg, Bool.true_and, Bool.false_and, Bool.true_or, Bool.false_or, cond_true, cond_false]) rfl rfl, rfl⟩
        · refine st_val (.pointer x0) (wt rfl rfl rfl (congrArg Value.bool hg) rfl) rfl (by simp only [f0, f1, f2]; rfl) ?_
          refine st_val (.bool (Option.isNone x0)) (wt rfl rfl rfl (congrArg Value.bool hg) rfl) (r_eqlPtrNilR (Try.runUnderlying24 _) rfl rfl rfl) (by simp only [f0, f1, f2]; rfl) ?_
          refine st_val (.bool (Option.isNone x0)) (wn rfl) (r_pickF (congrArg Value.bool hg) rfl) (by simp only [f0, f1, f2]; rfl) ?_
          refine wpList_nil ?_
          exact then_normal ⟨some_us (by simp only [masked, hg, Bool.true_and, Bool.false_and, Bool.true_or, Bool.false_or, cond_true, cond_false]) rfl rfl, rfl⟩
      rintro a0 _ ⟨⟨us1, hF⟩, rfl⟩
      simp only [fillin, Nat.reduceAdd] at hF
      subst hF
      simp only [List.drop_succ_cons, List.drop_zero]
      refine st_val (.bool ((!x1) || (Option.isNone x0))) (wn rfl) rfl (by simp only [f0, f1, f2]; rfl) ?_
      refine st_cut 3 (fun a' w' => (∃ us2 : Nat → Value, a' = (⟨(fillin us2 0 (some (Sl.v start) :: some (Sl.v steps) :: some undef :: some undef :: some ((us 4)) :: some (.bool x1) :: some (.pointer (some (⟨b, 0, none⟩ : Addr))) :: some (.int .i64 i) :: some (.pointer x0) :: some (.int .i64 x11) :: some undef :: some undef :: some undef :: some undef :: some undef :: some undef :: some undef :: some (.bool x1) :: some (.int .i64 i) :: some (.bool (decide (i < 3))) :: some ((us 20)) :: some ((us 21)) :: some (.tuple #[.pointer x0, .int .i64 x11]) :: some (.tuple #[.pointer x0, .int .i64 x11]) :: some (.pointer x0) :: some (.int .i64 x11) :: some (.bool x1) :: some (.bool (!x1)) :: some (.bool (!x1)) :: some ((us1 29)) :: some ((us1 30)) :: some (.bool ((!x1) || (Option.isNone x0))) :: some (.bool ((!x1) || (Option.isNone x0))) :: none :: none :: some (.bool (((!x1) || (Option.isNone x0)) || (x11 != 0))) :: some ((us 36)) :: some ((us 37)) :: some ((us 38)) :: some undef :: some undef :: some undef :: some undef :: some undef :: some undef :: some undef :: some undef :: some undef :: some undef :: some undef :: some undef :: some undef :: some undef :: some undef :: some undef :: some undef :: some undef :: some undef :: some undef :: some undef :: some undef :: some undef :: some undef :: some undef :: some undef :: some undef :: some undef :: some undef :: some undef :: some undef :: some undef :: some undef :: some undef :: some undef :: some undef :: some undef :: some undef :: some undef :: some undef :: some undef :: some undef :: some undef :: some undef :: some undef :: some undef :: some undef :: some undef :: some undef :: some undef :: some undef :: some undef :: some undef :: some undef :: some undef :: some undef :: some undef :: some undef :: some undef :: some undef :: some undef :: some undef :: some undef :: some undef :: some undef :: some undef :: some undef :: some undef :: some undef :: some undef :: some undef :: some undef :: some undef :: some undef :: some undef :: some undef :: some undef :: some undef :: some undef :: some undef :: some undef :: some undef :: some undef :: some undef :: some undef :: some undef :: some undef :: some undef :: some undef :: some undef :: some undef :: some undef :: [])).toArray, []⟩ : Act)) ∧ w_3 = w') ?_ ?_
      · simp only [List.take_succ_cons, List.take_zero]
        rcases Bool.eq_false_or_eq_true ((!x1) || (Option.isNone x0)) with hg1 | hg1
        · refine st_no (wt rfl rfl rfl (congrArg Value.bool hg1) rfl) (by simp only [f0, f1, f2]; rfl) ?_
          refine st_no (wt rfl rfl rfl (congrArg Value.bool hg1) rfl) (by simp only [f0, f1, f2]; rfl) ?_
          refine st_val (.bool true) (wn rfl) (r_pickT (congrArg Value.bool hg1) rfl) (by simp only [f0, f1, f2]; rfl) ?_
          refine wpList_nil ?_
          exact then_normal ⟨some_us (by simp only [masked, hg1, Bool.true_and, Bool.false_and, Bool.true_or, Bool.false_or, cond_true, cond_false]) rfl rfl, rfl⟩
        · refine st_val (.int .i64 x11) (wt rfl rfl rfl (congrArg Value.bool hg1) rfl) rfl (by simp only [f0, f1, f2]; rfl) ?_
          refine st_val (.bool (x11 != 0)) (wt rfl rfl rfl (congrArg Value.bool hg1) rfl) rfl (by simp only [f0, f1, f2]; rfl) ?_
          refine st_val (.bool (x11 != 0)) (wn rfl) (r_pickF (congrArg Value.bool hg1) rfl) (by simp only [f0, f1, f2]; rfl) ?_
          refine wpList_nil ?_
          exact then_normal ⟨some_us (by simp only [masked, hg1, Bool.true_and, Bool.false_and, Bool.true_or, Bool.false_or, cond_true, cond_false]) rfl rfl, rfl⟩
      rintro a0 _ ⟨⟨us2, hF⟩, rfl⟩
      simp only [fillin, Nat.reduceAdd] at hF
      subst hF
      simp only [List.drop_succ_cons, List.drop_zero]
      refine wpList_nil ?_
      refine then_normal ?_
      refine wp_cond_split (t := (((!x1) || (Option.isNone x0)) || (x11 != 0))) rfl (fun hc1 => ?_) (fun hc1 => ?_)
      · replace h := h.1 hc1
        refine wp_seq ?_
        refine wp_region_lit ?_
        refine st_val (.bool false) (wn rfl) rfl (by simp only [f0, f1, f2]; rfl) ?_
        refine wpList_nil ?_
        refine then_normal ?_
        refine wp_ret ?_
        refine then_ret ?_
        refine block_ret ?_
        refine then_ret ?_
        refine then_ret ?_
        refine block_ret ?_
        refine then_ret ?_
        exact end_ret (r_res1 (v := .bool false) Try.results4 ⟨rfl, trivial⟩) rfl h
      · replace h := h.2 hc1
        refine wp_skip ?_
        refine then_normal ?_
        refine wp_region_lit ?_
        refine st_val (.int .i64 i) (wn rfl) rfl (by simp only [f0, f1, f2]; rfl) ?_
        refine st_val (.pointer x0) (wn rfl) rfl (by simp only [f0, f1, f2]; rfl) ?_
        obtain ⟨hx, h⟩ := h
        refine st_val (.pointer (some (Addr.add (⟨b, 0, none⟩ : Addr) (Int.toNat i * 1)))) (wn rfl) (r_indexA (Try.runUnderlying38 _) (Try.sizeOf24 _) rfl rfl hx.1 hx.2 rfl) (by simp only [f0, f1, f2]; rfl) ?_
        obtain ⟨bk, off, cells, ety, hx1, hx2, hx3, h⟩ := h
        refine st_one (wn rfl) ?_
        refine o_storeB (b := bk) (o := off) (vs := [.pointer x0]) (Try.sizeOf24 _) (congrArg (fun z => Value.pointer (some z)) hx1) rfl rfl rfl hx2 hx3 rfl (f3 _ _) (fun w_4 hO1 hb1 => ?_)
        replace h := h w_4 hO1 hb1
        refine wpList_nil ?_
        refine block_normal ?_
        refine then_normal ?_
        refine wp_region_lit ?_
        refine st_val (.int .i64 i) (wn rfl) rfl (by simp only [f0, f1, f2]; rfl) ?_
        refine st_val (.int .i64 (IntKind.i64.wrap (i + 1))) (wn rfl) rfl (by simp only [f0, f1, f2]; rfl) ?_
        refine st_val (.int .i64 (IntKind.i64.wrap (i + 1))) (wn rfl) rfl (by simp only [f0, f1, f2]; rfl) ?_
        refine wpList_nil ?_
        refine then_normal ?_
        obtain ⟨nv2, hl, h⟩ := h
        exact ⟨nv2, hl, _, (some_us rfl rfl rfl), h⟩
    · replace h := h.2 hc
      refine wp_exit ?_
      refine then_exit ?_
      refine then_exit ?_
      refine block_hit ?_
      refine then_normal ?_
      refine wp_seq ?_
      refine wp_region_lit ?_
      refine st_val (.int .i64 0) (wn rfl) rfl (by simp only [f0, f1, f2]; rfl) ?_
      refine wpList_nil ?_
      refine then_normal ?_
      refine wp_seq ?_
      refine wp_region_lit ?_
      refine st_val (.int .i64 0) (wn rfl) rfl (by simp only [f0, f1, f2]; rfl) ?_
      refine wpList_nil ?_
      refine then_normal ?_
      refine wp_seq ?_
      refine wp_seq ?_
      refine wp_region_lit ?_
      refine st_val (.int .i64 0) (wn rfl) rfl (by simp only [f0, f1, f2]; rfl) ?_
      refine wpList_nil ?_
      refine then_normal ?_
      refine wp_block ?_
      obtain ⟨I_1, nv4, h01, hI1⟩ := h
      refine wp_loop_ghost (fun nv' a' w' => ∃ term_ : Int, ∃ owner : Int, ∃ i1 : Int, (∃ us3 : Nat → Value, a' = (⟨(fillin us3 0 (some (Sl.v start) :: some (Sl.v steps) :: some undef :: some undef :: none :: some (.bool x1) :: some (.pointer (some (⟨b, 0, none⟩ : Addr))) :: some (.int .i64 i) :: some ((us 8)) :: some ((us 9)) :: some (.int .i64 term_) :: some (.int .i64 owner) :: some (.int .i64 i1) :: none :: none :: none :: none :: some (.bool x1) :: some (.int .i64 i) :: some (.bool (decide (i < 3))) :: some ((us 20)) :: some ((us 21)) :: some ((us 22)) :: some ((us 23)) :: some ((us 24)) :: some ((us 25)) :: some ((us 26)) :: some ((us 27)) :: some ((us 28)) :: some ((us 29)) :: some ((us 30)) :: some ((us 31)) :: some ((us 32)) :: some ((us 33)) :: some ((us 34)) :: some ((us 35)) :: some ((us 36)) :: some ((us 37)) :: some ((us 38)) :: none :: none :: none :: none :: none :: none :: none :: none :: none :: none :: none :: none :: none :: none :: none :: none :: none :: none :: none :: none :: none :: none :: none :: none :: none :: none :: none :: none :: none :: none :: none :: none :: none :: none :: none :: none :: none :: none :: none :: none :: none :: none :: none :: none :: none :: none :: none :: none :: none :: none :: none :: none :: none :: none :: none :: none :: none :: none :: none :: none :: none :: none :: none :: none :: none :: none :: none :: none :: none :: none :: none :: none :: none :: some undef :: some undef :: some undef :: some undef :: some undef :: some undef :: some undef :: some undef :: some undef :: some undef :: some undef :: some undef :: some undef :: some undef :: some undef :: some undef :: some undef :: some undef :: some undef :: [])).toArray, []⟩ : Act)) ∧ I_1 nv' term_ owner i1 w') nv4 ?_ ?_
      · exact ⟨_, _, _, (some_us rfl rfl rfl), h01⟩
      · clear h01
        rintro nv3 a0 w_5 ⟨term_, owner, i1, ⟨us3, hF⟩, h⟩
        simp only [fillin, Nat.reduceAdd] at hF
        subst hF
        replace h := hI1 _ _ _ _ _ h
        refine wp_seq ?_
        refine wp_seq ?_
        refine wp_region_lit ?_
        refine st_val (.int .i64 i1) (wn rfl) rfl (by simp only [f0, f1, f2]; rfl) ?_
        refine st_val (Sl.v start) (wn rfl) rfl (by simp only [f0, f1, f2]; rfl) ?_
        refine st_val (.int .i64 (↑(Sl.n start) : Int)) (wn rfl) (r_len (s := start) (Try.runUnderlying36 _) rfl) (by simp only [f0, f1, f2]; rfl) ?_
        refine st_val (.bool (decide (i1 < (↑(Sl.n start) : Int)))) (wn rfl) rfl (by simp only [f0, f1, f2]; rfl) ?_
        refine st_val (.bool (decide (i1 < (↑(Sl.n start) : Int)))) (wn rfl) rfl (by simp only [f0, f1, f2]; rfl) ?_
        refine st_cut 3 (fun a' w' => (∃ us4 : Nat → Value, a' = (⟨(fillin us4 0 (some (Sl.v start) :: some (Sl.v steps) :: some undef :: some undef :: some ((us3 4)) :: some (.bool x1) :: some (.pointer (some (⟨b, 0, none⟩ : Addr))) :: some (.int .i64 i) :: some ((us 8)) :: some ((us 9)) :: some (.int .i64 term_) :: some (.int .i64 owner) :: some (.int .i64 i1) :: some ((us3 13)) :: some ((us3 14)) :: some ((us3 15)) :: some ((us3 16)) :: some (.bool x1) :: some (.int .i64 i) :: some (.bool (decide (i < 3))) :: some ((us 20)) :: some ((us 21)) :: some ((us 22)) :: some ((us 23)) :: some ((us 24)) :: some ((us 25)) :: some ((us 26)) :: some ((us 27)) :: some ((us 28)) :: some ((us 29)) :: some ((us 30)) :: some ((us 31)) :: some ((us 32)) :: some ((us 33)) :: some ((us 34)) :: some ((us 35)) :: some ((us 36)) :: some ((us 37)) :: some ((us 38)) :: some (.int .i64 i1) :: some (Sl.v start) :: some (.int .i64 (↑(Sl.n start) : Int)) :: some (.bool (decide (i1 < (↑(Sl.n start) : Int)))) :: some (.bool (decide (i1 < (↑(Sl.n start) : Int)))) :: none :: none :: some (.bool ((decide (i1 < (↑(Sl.n start) : Int))) && (decide (i1 < 60)))) :: some ((us3 47)) :: some ((us3 48)) :: some ((us3 49)) :: some ((us3 50)) :: some ((us3 51)) :: some ((us3 52)) :: some ((us3 53)) :: some ((us3 54)) :: some ((us3 55)) :: some ((us3 56)) :: some ((us3 57)) :: some ((us3 58)) :: some ((us3 59)) :: some ((us3 60)) :: some ((us3 61)) :: some ((us3 62)) :: some ((us3 63)) :: some ((us3 64)) :: some ((us3 65)) :: some ((us3 66)) :: some ((us3 67)) :: some ((us3 68)) :: some ((us3 69)) :: some ((us3 70)) :: some ((us3 71)) :: some ((us3 72)) :: some ((us3 73)) :: some ((us3 74)) :: some ((us3 75)) :: some ((us3 76)) :: some ((us3 77)) :: some ((us3 78)) :: some ((us3 79)) :: some ((us3 80)) :: some ((us3 81)) :: some ((us3 82)) :: some ((us3 83)) :: some ((us3 84)) :: some ((us3 85)) :: some ((us3 86)) :: some ((us3 87)) :: some ((us3 88)) :: some ((us3 89)) :: some ((us3 90)) :: some ((us3 91)) :: some ((us3 92)) :: some ((us3 93)) :: some ((us3 94)) :: some ((us3 95)) :: some ((us3 96)) :: some ((us3 97)) :: some ((us3 98)) :: some ((us3 99)) :: some ((us3 100)) :: some ((us3 101)) :: some ((us3 102)) :: some ((us3 103)) :: some ((us3 104)) :: some ((us3 105)) :: some ((us3 106)) :: some ((us3 107)) :: some ((us3 108)) :: some ((us3 109)) :: some ((us3 110)) :: some ((us3 111)) :: some undef :: some undef :: some undef :: some undef :: some undef :: some undef :: some undef :: some undef :: some undef :: some undef :: some undef :: some undef :: some undef :: some undef :: some undef :: some undef :: some undef :: some undef :: some undef :: [])).toArray, []⟩ : Act)) ∧ w_5 = w') ?_ ?_
        · simp only [List.take_succ_cons, List.take_zero]
          rcases Bool.eq_false_or_eq_true (decide (i1 < (↑(Sl.n start) : Int))) with hg2 | hg2
          · refine st_val (.int .i64 i1) (wt rfl rfl rfl (congrArg Value.bool hg2) rfl) rfl (by simp only [f0, f1, f2]; rfl) ?_
            refine st_val (.bool (decide (i1 < 60))) (wt rfl rfl rfl (congrArg Value.bool hg2) rfl) rfl (by simp only [f0, f1, f2]; rfl) ?_
            refine st_val (.bool (decide (i1 < 60))) (wn rfl) (r_pickT (congrArg Value.bool hg2) rfl) (by simp only [f0, f1, f2]; rfl) ?_
            refine wpList_nil ?_
            exact then_normal ⟨some_us (by simp only [masked, hg2, Bool.true_and, Bool.false_and, Bool.true_or, Bool.false_or, cond_true, cond_false]) rfl rfl, rfl⟩
          · refine st_no (wt rfl rfl rfl (congrArg Value.bool hg2) rfl) (by simp only [f0, f1, f2]; rfl) ?_
            refine st_no (wt rfl rfl rfl (congrArg Value.bool hg2) rfl) (by simp only [f0, f1, f2]; rfl) ?_
            refine st_val (.bool false) (wn rfl) (r_pickF (congrArg Value.bool hg2) rfl) (by simp only [f0, f1, f2]; rfl) ?_
            refine wpList_nil ?_
            exact then_normal ⟨some_us (by simp only [masked, hg2, Bool.true_and, Bool.false_and, Bool.true_or, Bool.false_or, cond_true, cond_false]) rfl rfl, rfl⟩
        rintro a0 _ ⟨⟨us4, hF⟩, rfl⟩
        simp only [fillin, Nat.reduceAdd] at hF
        subst hF
        simp only [List.drop_succ_cons, List.drop_zero]
        refine wpList_nil ?_
        refine then_normal ?_
        refine wp_cond_split (t := ((decide (i1 < (↑(Sl.n start) : Int))) && (decide (i1 < 60)))) rfl (fun hc2 => ?_) (fun hc2 => ?_)
        · replace h := h.1 hc2
          refine wp_skip ?_
          refine then_normal ?_
          refine wp_seq ?_
          refine wp_block ?_
          obtain ⟨J_, hJ, h⟩ := h
          refine wp_seq_join (fun a' w' => ∃ term_1 : Int, ∃ owner1 : Int, (∃ us5 : Nat → Value, a' = (⟨(fillin us5 0 (some (Sl.v start) :: some (Sl.v steps) :: some undef :: some undef :: some ((us3 4)) :: some (.bool x1) :: some (.pointer (some (⟨b, 0, none⟩ : Addr))) :: some (.int .i64 i) :: some ((us 8)) :: some ((us 9)) :: some (.int .i64 term_1) :: some (.int .i64 owner1) :: some (.int .i64 i1) :: some ((us3 13)) :: some ((us3 14)) :: some ((us3 15)) :: some ((us3 16)) :: some (.bool x1) :: some (.int .i64 i) :: some (.bool (decide (i < 3))) :: some ((us 20)) :: some ((us 21)) :: some ((us 22)) :: some ((us 23)) :: some ((us 24)) :: some ((us 25)) :: some ((us 26)) :: some ((us 27)) :: some ((us 28)) :: some ((us 29)) :: some ((us 30)) :: some ((us 31)) :: some ((us 32)) :: some ((us 33)) :: some ((us 34)) :: some ((us 35)) :: some ((us 36)) :: some ((us 37)) :: some ((us 38)) :: some (.int .i64 i1) :: some (Sl.v start) :: some (.int .i64 (↑(Sl.n start) : Int)) :: some (.bool (decide (i1 < (↑(Sl.n start) : Int)))) :: some (.bool (decide (i1 < (↑(Sl.n start) : Int)))) :: some ((us4 44)) :: some ((us4 45)) :: some (.bool ((decide (i1 < (↑(Sl.n start) : Int))) && (decide (i1 < 60)))) :: some ((us3 47)) :: some ((us3 48)) :: none :: none :: none :: none :: none :: none :: none :: none :: none :: none :: none :: none :: none :: none :: none :: none :: none :: none :: none :: some ((us3 68)) :: some ((us3 69)) :: some ((us3 70)) :: some ((us3 71)) :: some ((us3 72)) :: some ((us3 73)) :: some ((us3 74)) :: some ((us3 75)) :: some ((us3 76)) :: some ((us3 77)) :: some ((us3 78)) :: some ((us3 79)) :: some ((us3 80)) :: some ((us3 81)) :: some ((us3 82)) :: some ((us3 83)) :: some ((us3 84)) :: some ((us3 85)) :: some ((us3 86)) :: some ((us3 87)) :: some ((us3 88)) :: some ((us3 89)) :: some ((us3 90)) :: some ((us3 91)) :: some ((us3 92)) :: some ((us3 93)) :: some ((us3 94)) :: some ((us3 95)) :: some ((us3 96)) :: some ((us3 97)) :: some ((us3 98)) :: some ((us3 99)) :: some ((us3 100)) :: some ((us3 101)) :: some ((us3 102)) :: some ((us3 103)) :: some ((us3 104)) :: some ((us3 105)) :: some ((us3 106)) :: some ((us3 107)) :: some ((us3 108)) :: some ((us3 109)) :: some ((us3 110)) :: some ((us3 111)) :: some undef :: some undef :: some undef :: some undef :: some undef :: some undef :: some undef :: some undef :: some undef :: some undef :: some undef :: some undef :: some undef :: some undef :: some undef :: some undef :: some undef :: some undef :: some undef :: [])).toArray, []⟩ : Act)) ∧ J_ term_1 owner1 w') ?_ ?_
          · clear h
            rintro a0 w_6 ⟨term_1, owner1, ⟨us5, hF⟩, h⟩
            simp only [fillin, Nat.reduceAdd] at hF
            subst hF
            replace h := hJ _ _ _ h
            refine wp_seq ?_
            refine wp_region_lit ?_
            refine st_val (.int .i64 owner1) (wn rfl) rfl (by simp only [f0, f1, f2]; rfl) ?_
            obtain ⟨hx4, h⟩ := h
            refine st_val (.pointer (some (Addr.add (⟨b, 0, none⟩ : Addr) (Int.toNat owner1 * 1)))) (wn rfl) (r_indexA (Try.runUnderlying38 _) (Try.sizeOf24 _) rfl rfl hx4.1 hx4.2 rfl) (by simp only [f0, f1, f2]; rfl) ?_
            obtain ⟨x2, hx5, h⟩ := h
            refine st_val (.pointer x2) (wn rfl) (r_load1 (Try.isAgg24 _) rfl (Cells.one hx5)) (by simp only [f0, f1, f2]; rfl) ?_
            refine st_one (wn rfl) ?_
            refine o_enter (args := #[.pointer x2]) (r_enter Try.call10 rfl) (h.mono ?_)
            clear h
            rintro _ w_7 ⟨x01, x12, rfl, h⟩
            refine ⟨_, _, rfl, (by simp only [f0, f1, f2]; rfl), ?_⟩
            refine st_val (.tuple #[.int .i64 x01, .int .i64 x12]) (wn rfl) rfl (by simp only [f0, f1, f2]; rfl) ?_
            refine st_val (.int .i64 x01) (wn rfl) rfl (by simp only [f0, f1, f2]; rfl) ?_
            refine st_val (.int .i64 x12) (wn rfl) rfl (by simp only [f0, f1, f2]; rfl) ?_
            refine st_val (.int .i64 x01) (wn rfl) rfl (by simp only [f0, f1, f2]; rfl) ?_
            refine st_val (.int .i64 x12) (wn rfl) rfl (by simp only [f0, f1, f2]; rfl) ?_
            refine wpList_nil ?_
            refine then_normal ?_
            refine wp_seq ?_
            refine wp_region_lit ?_
            refine st_val (.int .i64 owner1) (wn rfl) rfl (by simp only [f0, f1, f2]; rfl) ?_
            obtain ⟨hx6, h⟩ := h
            refine st_val (.pointer (some (Addr.add (⟨b, 0, none⟩ : Addr) (Int.toNat owner1 * 1)))) (wn rfl) (r_indexA (Try.runUnderlying38 _) (Try.sizeOf24 _) rfl rfl hx6.1 hx6.2 rfl) (by simp only [f0, f1, f2]; rfl) ?_
            obtain ⟨x3, hx7, h⟩ := h
            refine st_val (.pointer x3) (wn rfl) (r_load1 (Try.isAgg24 _) rfl (Cells.one hx7)) (by simp only [f0, f1, f2]; rfl) ?_
            refine st_val (.int .i64 x01) (wn rfl) rfl (by simp only [f0, f1, f2]; rfl) ?_
            refine st_val (.int .i64 (IntKind.i64.wrap (x01 + 1))) (wn rfl) rfl (by simp only [f0, f1, f2]; rfl) ?_
            refine st_val (.int .i64 term_1) (wn rfl) rfl (by simp only [f0, f1, f2]; rfl) ?_
            refine st_val (.int .i64 i1) (wn rfl) rfl (by simp only [f0, f1, f2]; rfl) ?_
            refine st_val (.int .u8 (IntKind.u8.wrap i1)) (wn rfl) (r_convInt (Try.runUnderlying3 _) (Try.runUnderlying5 _) rfl) (by simp only [f0, f1, f2]; rfl) ?_
            obtain ⟨x4, w_8, hr, h⟩ := h
            refine st_one (wn rfl) ?_
            refine o_val (Sl.v x4) (r_buildSlice rfl hr) (by simp only [f0, f1, f2]; rfl) ?_
            refine st_val (.agg #[.int .i64 (IntKind.i64.wrap (x01 + 1)), .int .i64 term_1, .int .i64 0, Sl.v x4]) (wn rfl) (r_build (ps' := [(0, .int .i64 (IntKind.i64.wrap (x01 + 1))), (1, .int .i64 term_1), (3, Sl.v x4)]) rfl (by kernel_rfl)) (by simp only [f0, f1, f2]; rfl) ?_
            obtain ⟨x5, w_9, hr1, h⟩ := h
            refine st_one (wn rfl) ?_
            refine o_val (Sl.v x5) (r_buildSlice rfl hr1) (by simp only [f0, f1, f2]; rfl) ?_
            refine st_one (wn rfl) ?_
            refine o_enter (args := #[.pointer x3, Sl.v x5]) (r_enter Try.call8 rfl) (h.mono ?_)
            clear h
            rintro _ w_10 ⟨x6, rfl, h⟩
            refine ⟨_, _, rfl, (by simp only [f0, f1, f2]; rfl), ?_⟩
            refine wpList_nil ?_
            refine then_normal ?_
            refine wp_seq ?_
            refine wp_region_lit ?_
            refine st_val (.int .i64 0) (wn rfl) rfl (by simp only [f0, f1, f2]; rfl) ?_
            refine wpList_nil ?_
            refine then_normal ?_
            refine wp_block ?_
            obtain ⟨I_2, nv6, h02, hI2⟩ := h
            refine wp_loop_ghost (fun nv' a' w' => ∃ k : Int, (∃ us6 : Nat → Value, a' = (⟨(fillin us6 0 (some (Sl.v start) :: some (Sl.v steps) :: some undef :: some undef :: none :: some (.bool x1) :: some (.pointer (some (⟨b, 0, none⟩ : Addr))) :: some (.int .i64 i) :: some ((us 8)) :: some ((us 9)) :: some (.int .i64 term_1) :: some (.int .i64 owner1) :: some (.int .i64 i1) :: some (.int .i64 x01) :: some (.int .i64 x12) :: some (.int .i64 k) :: none :: some (.bool x1) :: some (.int .i64 i) :: some (.bool (decide (i < 3))) :: some ((us 20)) :: some ((us 21)) :: some ((us 22)) :: some ((us 23)) :: some ((us 24)) :: some ((us 25)) :: some ((us 26)) :: some ((us 27)) :: some ((us 28)) :: some ((us 29)) :: some ((us 30)) :: some ((us 31)) :: some ((us 32)) :: some ((us 33)) :: some ((us 34)) :: some ((us 35)) :: some ((us 36)) :: some ((us 37)) :: some ((us 38)) :: some (.int .i64 i1) :: some (Sl.v start) :: some (.int .i64 (↑(Sl.n start) : Int)) :: some (.bool (decide (i1 < (↑(Sl.n start) : Int)))) :: some (.bool (decide (i1 < (↑(Sl.n start) : Int)))) :: some ((us4 44)) :: some ((us4 45)) :: some (.bool ((decide (i1 < (↑(Sl.n start) : Int))) && (decide (i1 < 60)))) :: some ((us3 47)) :: some ((us3 48)) :: some ((us5 49)) :: some ((us5 50)) :: some ((us5 51)) :: some ((us5 52)) :: some ((us5 53)) :: some ((us5 54)) :: some ((us5 55)) :: some ((us5 56)) :: some ((us5 57)) :: some ((us5 58)) :: some ((us5 59)) :: some ((us5 60)) :: some ((us5 61)) :: some ((us5 62)) :: some ((us5 63)) :: some ((us5 64)) :: some ((us5 65)) :: some ((us5 66)) :: some ((us5 67)) :: some (.tuple #[.int .i64 x01, .int .i64 x12]) :: some (.int .i64 owner1) :: some (.pointer (some (Addr.add (⟨b, 0, none⟩ : Addr) (Int.toNat owner1 * 1)))) :: some (.pointer x2) :: some (.tuple #[.int .i64 x01, .int .i64 x12]) :: some (.int .i64 x01) :: some (.int .i64 x12) :: some (.int .i64 owner1) :: some (.pointer (some (Addr.add (⟨b, 0, none⟩ : Addr) (Int.toNat owner1 * 1)))) :: some (.pointer x3) :: some (.int .i64 x01) :: some (.int .i64 (IntKind.i64.wrap (x01 + 1))) :: some (.int .i64 term_1) :: some (.int .i64 i1) :: some (.int .u8 (IntKind.u8.wrap i1)) :: some (Sl.v x4) :: some (.agg #[.int .i64 (IntKind.i64.wrap (x01 + 1)), .int .i64 term_1, .int .i64 0, Sl.v x4]) :: some (Sl.v x5) :: some (.int .i64 x6) :: none :: none :: none :: none :: none :: none :: none :: none :: none :: none :: none :: none :: none :: none :: none :: none :: none :: none :: none :: none :: none :: none :: none :: none :: none :: some undef :: some undef :: some undef :: some undef :: some undef :: some undef :: some undef :: some undef :: some undef :: some undef :: some undef :: some undef :: some undef :: some undef :: some undef :: some undef :: some undef :: some undef :: some undef :: [])).toArray, []⟩ : Act)) ∧ I_2 nv' k w') nv6 ?_ ?_
            · exact ⟨_, (some_us rfl rfl rfl), h02⟩
            · clear h02
              rintro nv5 a0 w_11 ⟨k, ⟨us6, hF⟩, h⟩
              simp only [fillin, Nat.reduceAdd] at hF
              subst hF
              replace h := hI2 _ _ _ h
              refine wp_seq ?_
              refine wp_seq ?_
              refine wp_region_lit ?_
              refine st_val (.int .i64 k) (wn rfl) rfl (by simp only [f0, f1, f2]; rfl) ?_
              refine st_val (.bool (decide (k < 2))) (wn rfl) rfl (by simp only [f0, f1, f2]; rfl) ?_
              refine st_val (.bool (decide (k < 2))) (wn rfl) rfl (by simp only [f0, f1, f2]; rfl) ?_
              refine st_cut 5 (fun a' w' => (∃ us7 : Nat → Value, a' = (⟨(fillin us7 0 (some (Sl.v start) :: some (Sl.v steps) :: some undef :: some undef :: some ((us6 4)) :: some (.bool x1) :: some (.pointer (some (⟨b, 0, none⟩ : Addr))) :: some (.int .i64 i) :: some ((us 8)) :: some ((us 9)) :: some (.int .i64 term_1) :: some (.int .i64 owner1) :: some (.int .i64 i1) :: some (.int .i64 x01) :: some (.int .i64 x12) :: some (.int .i64 k) :: some ((us6 16)) :: some (.bool x1) :: some (.int .i64 i) :: some (.bool (decide (i < 3))) :: some ((us 20)) :: some ((us 21)) :: some ((us 22)) :: some ((us 23)) :: some ((us 24)) :: some ((us 25)) :: some ((us 26)) :: some ((us 27)) :: some ((us 28)) :: some ((us 29)) :: some ((us 30)) :: some ((us 31)) :: some ((us 32)) :: some ((us 33)) :: some ((us 34)) :: some ((us 35)) :: some ((us 36)) :: some ((us 37)) :: some ((us 38)) :: some (.int .i64 i1) :: some (Sl.v start) :: some (.int .i64 (↑(Sl.n start) : Int)) :: some (.bool (decide (i1 < (↑(Sl.n start) : Int)))) :: some (.bool (decide (i1 < (↑(Sl.n start) : Int)))) :: some ((us4 44)) :: some ((us4 45)) :: some (.bool ((decide (i1 < (↑(Sl.n start) : Int))) && (decide (i1 < 60)))) :: some ((us3 47)) :: some ((us3 48)) :: some ((us5 49)) :: some ((us5 50)) :: some ((us5 51)) :: some ((us5 52)) :: some ((us5 53)) :: some ((us5 54)) :: some ((us5 55)) :: some ((us5 56)) :: some ((us5 57)) :: some ((us5 58)) :: some ((us5 59)) :: some ((us5 60)) :: some ((us5 61)) :: some ((us5 62)) :: some ((us5 63)) :: some ((us5 64)) :: some ((us5 65)) :: some ((us5 66)) :: some ((us5 67)) :: some (.tuple #[.int .i64 x01, .int .i64 x12]) :: some (.int .i64 owner1) :: some (.pointer (some (Addr.add (⟨b, 0, none⟩ : Addr) (Int.toNat owner1 * 1)))) :: some (.pointer x2) :: some (.tuple #[.int .i64 x01, .int .i64 x12]) :: some (.int .i64 x01) :: some (.int .i64 x12) :: some (.int .i64 owner1) :: some (.pointer (some (Addr.add (⟨b, 0, none⟩ : Addr) (Int.toNat owner1 * 1)))) :: some (.pointer x3) :: some (.int .i64 x01) :: some (.int .i64 (IntKind.i64.wrap (x01 + 1))) :: some (.int .i64 term_1) :: some (.int .i64 i1) :: some (.int .u8 (IntKind.u8.wrap i1)) :: some (Sl.v x4) :: some (.agg #[.int .i64 (IntKind.i64.wrap (x01 + 1)), .int .i64 term_1, .int .i64 0, Sl.v x4]) :: some (Sl.v x5) :: some (.int .i64 x6) :: some (.int .i64 k) :: some (.bool (decide (k < 2))) :: some (.bool (decide (k < 2))) :: none :: none :: none :: none :: some (.bool ((decide (k < 2)) && (decide (i1 < (↑(Sl.n steps) : Int))))) :: some ((us6 95)) :: some ((us6 96)) :: some ((us6 97)) :: some ((us6 98)) :: some ((us6 99)) :: some ((us6 100)) :: some ((us6 101)) :: some ((us6 102)) :: some ((us6 103)) :: some ((us6 104)) :: some ((us6 105)) :: some ((us6 106)) :: some ((us6 107)) :: some ((us6 108)) :: some ((us6 109)) :: some ((us6 110)) :: some ((us6 111)) :: some undef :: some undef :: some undef :: some undef :: some undef :: some undef :: some undef :: some undef :: some undef :: some undef :: some undef :: some undef :: some undef :: some undef :: some undef :: some undef :: some undef :: some undef :: some undef :: [])).toArray, []⟩ : Act)) ∧ w_11 = w') ?_ ?_
              · simp only [List.take_succ_cons, List.take_zero]
                rcases Bool.eq_false_or_eq_true (decide (k < 2)) with hg3 | hg3
                · refine st_val (.int .i64 i1) (wt rfl rfl rfl (congrArg Value.bool hg3) rfl) rfl (by simp only [f0, f1, f2]; rfl) ?_
                  refine st_val (Sl.v steps) (wt rfl rfl rfl (congrArg Value.bool hg3) rfl) rfl (by simp only [f0, f1, f2]; rfl) ?_
                  refine st_val (.int .i64 (↑(Sl.n steps) : Int)) (wt rfl rfl rfl (congrArg Value.bool hg3) rfl) (r_len (s := steps) (Try.runUnderlying37 _) rfl) (by simp only [f0, f1, f2]; rfl) ?_
                  refine st_val (.bool (decide (i1 < (↑(Sl.n steps) : Int)))) (wt rfl rfl rfl (congrArg Value.bool hg3) rfl) rfl (by simp only [f0, f1, f2]; rfl) ?_
                  refine st_val (.bool (decide (i1 < (↑(Sl.n steps) : Int)))) (wn rfl) (r_pickT (congrArg Value.bool hg3) rfl) (by simp only [f0, f1, f2]; rfl) ?_
                  refine wpList_nil ?_
                  exact then_normal ⟨some_us (by simp only [masked, hg3, Bool.true_and, Bool.false_and, Bool.true_or, Bool.false_or, cond_true, cond_false]) rfl rfl, rfl⟩
                · refine st_no (wt rfl rfl rfl (congrArg Value.bool hg3) rfl) (by simp only [f0, f1, f2]; rfl) ?_
                  refine st_no (wt rfl rfl rfl (congrArg Value.bool hg3) rfl) (by simp only [f0, f1, f2]; rfl) ?_
                  refine st_no (wt rfl rfl rfl (congrArg Value.bool hg3) rfl) (by simp only [f0, f1, f2]; rfl) ?_
                  refine st_no (wt rfl rfl rfl (congrArg Value.bool hg3) rfl) (by simp only [f0, f1, f2]; rfl) ?_
                  refine st_val (.bool false) (wn rfl) (r_pickF (congrArg Value.bool hg3) rfl) (by simp only [f0, f1, f2]; rfl) ?_
                  refine wpList_nil ?_
                  exact then_normal ⟨some_us (by simp only [masked, hg3, Bool.true_and, Bool.false_and, Bool.true_or, Bool.false_or, cond_true, cond_false]) rfl rfl, rfl⟩
              rintro a0 _ ⟨⟨us7, hF⟩, rfl⟩
              simp only [fillin, Nat.reduceAdd] at hF
              subst hF
              simp only [List.drop_succ_cons, List.drop_zero]
              refine wpList_nil ?_
              refine then_normal ?_
              refine wp_cond_split (t := ((decide (k < 2)) && (decide (i1 < (↑(Sl.n steps) : Int))))) rfl (fun hc3 => ?_) (fun hc3 => ?_)
              · replace h := h.1 hc3
                refine wp_skip ?_
                refine then_normal ?_
                refine wp_seq ?_
                refine wp_block ?_
                refine wp_seq ?_
                obtain ⟨x02, x13, x21, hx8, h⟩ := h
                obtain ⟨hx9, h⟩ := h
                obtain ⟨ad, hx10, h⟩ := h
                obtain ⟨x03, x14, x22, x31, hx11, h⟩ := h
                refine e_region (EL [(12, [])]) Try.checked.mixed ?_
                have hO2 := Only.drew w_11
                have hx12 : Cells w_11.drew _ _ := hx8
                have hx13 : Cells w_11.drew _ _ := hx11
                generalize w_11.drew = w_12 at *
                have hA1 : Only [] w_11 w_12 := hO2
                refine e_take 0 [12, 13] [] (.agg #[.pointer x02, .pointer x13, .pointer x21]) (fun w' => Cells w' (⟨b, 0, none⟩ : Addr) [.pointer x02, .pointer x13, .pointer x21]) rfl (by kernel_rfl) (by kernel_rfl) (by kernel_rfl) (by kernel_rfl) (by kernel_rfl) (by kernel_rfl) (fun _ _ _ h => h) (el_stable (b := ((⟨b, 0, none⟩ : Addr)).block) (List.forall_mem_cons.2 ⟨.inl (by simp), List.forall_mem_nil _⟩) keep_cells) (fun w _ => el_quiet rfl w) hx12 (y_val (wn rfl) (fun w' hw' => (r_loadN (Try.isAgg38 _) (Try.sizeOf38 _) rfl rfl hw'))) (by simp only [f0, f1, f2]; rfl) ?_
                refine e_take 1 [9, 10, 12, 13] [0] (Sl.v steps) (fun _ => True) rfl (by kernel_rfl) (by kernel_rfl) (by kernel_rfl) (by kernel_rfl) (by kernel_rfl) (by kernel_rfl) (fun _ _ _ h => h) el_true (fun w _ => el_quiet rfl w) trivial (y_val (wn rfl) (fun w' hw' => rfl)) (by simp only [f0, f1, f2]; rfl) ?_
                refine e_take 2 [5, 8, 9, 10, 12, 13] [0, 1] (.int .i64 i1) (fun _ => True) rfl (by kernel_rfl) (by kernel_rfl) (by kernel_rfl) (by kernel_rfl) (by kernel_rfl) (by kernel_rfl) (fun _ _ _ h => h) el_true (fun w _ => el_quiet rfl w) trivial (y_val (wn rfl) (fun w' hw' => rfl)) (by simp only [f0, f1, f2]; rfl) ?_
                refine e_take 3 [4, 5, 8, 9, 10, 12, 13] [0, 1, 2] (.int .i64 k) (fun _ => True) rfl (by kernel_rfl) (by kernel_rfl) (by kernel_rfl) (by kernel_rfl) (by kernel_rfl) (by kernel_rfl) (fun _ _ _ h => h) el_true (fun w _ => el_quiet rfl w) trivial (y_val (wn rfl) (fun w' hw' => rfl)) (by simp only [f0, f1, f2]; rfl) ?_
                refine e_take 4 [5, 8, 9, 10, 12, 13] [0, 1, 2, 3] (.int .i64 (IntKind.i64.wrap (k * 7))) (fun _ => True) rfl (by kernel_rfl) (by kernel_rfl) (by kernel_rfl) (by kernel_rfl) (by kernel_rfl) (by kernel_rfl) (fun _ _ _ h => h) el_true (fun w _ => el_quiet rfl w) trivial (y_val (wn rfl) (fun w' hw' => rfl)) (by simp only [f0, f1, f2]; rfl) ?_
                refine e_take 5 [8, 9, 10, 12, 13] [0, 1, 2, 3, 4] (.int .i64 (IntKind.i64.wrap (i1 + (IntKind.i64.wrap (k * 7))))) (fun _ => True) rfl (by kernel_rfl) (by kernel_rfl) (by kernel_rfl) (by kernel_rfl) (by kernel_rfl) (by kernel_rfl) (fun _ _ _ h => h) el_true (fun w _ => el_quiet rfl w) trivial (y_val (wn rfl) (fun w' hw' => rfl)) (by simp only [f0, f1, f2]; rfl) ?_
                refine e_take 6 [7, 8, 9, 10, 12, 13] [0, 1, 2, 3, 4, 5] (Sl.v steps) (fun _ => True) rfl (by kernel_rfl) (by kernel_rfl) (by kernel_rfl) (by kernel_rfl) (by kernel_rfl) (by kernel_rfl) (fun _ _ _ h => h) el_true (fun w _ => el_quiet rfl w) trivial (y_val (wn rfl) (fun w' hw' => rfl)) (by simp only [f0, f1, f2]; rfl) ?_
                refine e_take 7 [8, 9, 10, 12, 13] [0, 1, 2, 3, 4, 5, 6] (.int .i64 (↑(Sl.n steps) : Int)) (fun _ => True) rfl (by kernel_rfl) (by kernel_rfl) (by kernel_rfl) (by kernel_rfl) (by kernel_rfl) (by kernel_rfl) (fun _ _ _ h => h) el_true (fun w _ => el_quiet rfl w) trivial (y_val (wn rfl) (fun w' hw' => (r_len (s := steps) (Try.runUnderlying37 _) rfl))) (by simp only [f0, f1, f2]; rfl) ?_
                refine e_take 8 [9, 10, 12, 13] [0, 1, 2, 3, 4, 5, 6, 7] (.int .i64 (Int.tmod (IntKind.i64.wrap (i1 + (IntKind.i64.wrap (k * 7)))) (↑(Sl.n steps) : Int))) (fun _ => True) rfl (by kernel_rfl) (by kernel_rfl) (by kernel_rfl) (by kernel_rfl) (by kernel_rfl) (by kernel_rfl) (fun _ _ _ h => h) el_true (fun w _ => el_quiet rfl w) trivial (y_val (wn rfl) (fun w' hw' => (r_rem rfl rfl hx9))) (by simp only [f0, f1, f2]; rfl) ?_
                refine e_take 9 [10, 12, 13] [0, 1, 2, 3, 4, 5, 6, 7, 8] (.pointer (some ad)) (fun _ => True) rfl (by kernel_rfl) (by kernel_rfl) (by kernel_rfl) (by kernel_rfl) (by kernel_rfl) (by kernel_rfl) (fun _ _ _ h => h) el_true (fun w _ => el_quiet rfl w) trivial (y_val (wn rfl) (fun w' hw' => (r_indexS (s := steps) (Try.runUnderlying37 _) (Try.sizeOf44 _) rfl rfl hx10))) (by simp only [f0, f1, f2]; rfl) ?_
                refine e_take 10 [12, 13] [0, 1, 2, 3, 4, 5, 6, 7, 8, 9] (.agg #[.int .i64 x03, .int .i64 x14, .int .i64 x22, .int .i64 x31]) (fun w' => Cells w' ad [.int .i64 x03, .int .i64 x14, .int .i64 x22, .int .i64 x31]) rfl (by kernel_rfl) (by kernel_rfl) (by kernel_rfl) (by kernel_rfl) (by kernel_rfl) (by kernel_rfl) (fun _ _ _ h => h) (el_stable (b := (ad).block) (List.forall_mem_cons.2 ⟨.inl (by simp), List.forall_mem_nil _⟩) keep_cells) (fun w _ => el_quiet rfl w) hx13 (y_val (wn rfl) (fun w' hw' => (r_loadN (Try.isAgg44 _) (Try.sizeOf44 _) rfl rfl hw'))) (by simp only [f0, f1, f2]; rfl) ?_
                refine e_take 11 [12, 13] [0, 1, 2, 3, 4, 5, 6, 7, 8, 9, 10] (.int .i64 owner1) (fun _ => True) rfl (by kernel_rfl) (by kernel_rfl) (by kernel_rfl) (by kernel_rfl) (by kernel_rfl) (by kernel_rfl) (fun _ _ _ h => h) el_true (fun w _ => el_quiet rfl w) trivial (y_val (wn rfl) (fun w' hw' => rfl)) (by simp only [f0, f1, f2]; rfl) ?_
                replace h := h w_12 hA1
                refine e_one 12 rfl (by kernel_rfl) (wn rfl) ?_
                refine o_enter (args := #[.agg #[.pointer x02, .pointer x13, .pointer x21], .agg #[.int .i64 x03, .int .i64 x14, .int .i64 x22, .int .i64 x31], .int .i64 owner1]) (r_enter Try.call11 rfl) (h.mono ?_)
                clear h
                rintro _ w_13 ⟨x7, rfl, h⟩
                refine ⟨_, _, rfl, (by simp only [f0, f1, f2]; rfl), ?_⟩
                refine ⟨el_loud rfl same_nil, ?_⟩
                refine e_take 13 [] [0, 1, 2, 3, 4, 5, 6, 7, 8, 9, 10, 11, 12] (.bool x7) (fun _ => True) rfl (by kernel_rfl) (by kernel_rfl) (by kernel_rfl) (by kernel_rfl) (by kernel_rfl) (by kernel_rfl) (fun _ _ _ h => h) el_true (fun w _ => el_quiet rfl w) trivial (y_val (wn rfl) (fun w' hw' => rfl)) (by simp only [f0, f1, f2]; rfl) ?_
                refine e_done (by kernel_rfl) ?_
                refine then_normal ?_
                refine wp_seq ?_
                refine wp_region_lit ?_
                refine st_val (.bool x7) (wn rfl) rfl (by simp only [f0, f1, f2]; rfl) ?_
                refine st_val (.bool (!x7)) (wn rfl) rfl (by simp only [f0, f1, f2]; rfl) ?_
                refine wpList_nil ?_
                refine then_normal ?_
                refine wp_cond_split (t := (!x7)) rfl (fun hc4 => ?_) (fun hc4 => ?_)
                · replace h := h.1 hc4
                  refine wp_seq ?_
                  refine wp_region_lit ?_
                  refine st_val (.bool false) (wn rfl) rfl (by simp only [f0, f1, f2]; rfl) ?_
                  refine wpList_nil ?_
                  refine then_normal ?_
                  refine wp_ret ?_
                  refine block_ret ?_
                  refine then_ret ?_
                  refine then_ret ?_
                  refine block_ret ?_
                  refine block_ret ?_
                  refine then_ret ?_
                  refine then_ret ?_
                  refine block_ret ?_
                  refine then_ret ?_
                  exact end_ret (r_res1 (v := .bool false) Try.results4 ⟨rfl, trivial⟩) rfl h
                · replace h := h.2 hc4
                  refine wp_skip ?_
                  refine block_normal ?_
                  refine then_normal ?_
                  refine wp_region_lit ?_
                  refine st_val (.int .i64 k) (wn rfl) rfl (by simp only [f0, f1, f2]; rfl) ?_
                  refine st_val (.int .i64 (IntKind.i64.wrap (k + 1))) (wn rfl) rfl (by simp only [f0, f1, f2]; rfl) ?_
                  refine st_val (.int .i64 (IntKind.i64.wrap (k + 1))) (wn rfl) rfl (by simp only [f0, f1, f2]; rfl) ?_
                  refine wpList_nil ?_
                  refine then_normal ?_
                  obtain ⟨nv7, hl1, h⟩ := h
                  exact ⟨nv7, hl1, _, (some_us rfl rfl rfl), h⟩
              · replace h := h.2 hc3
                refine wp_exit ?_
                refine then_exit ?_
                refine then_exit ?_
                refine block_hit ?_
                refine block_normal ?_
                refine then_normal ?_
                refine wp_region_lit ?_
                refine st_val (.int .i64 i1) (wn rfl) rfl (by simp only [f0, f1, f2]; rfl) ?_
                refine st_val (.int .i64 (IntKind.i64.wrap (i1 + 1))) (wn rfl) rfl (by simp only [f0, f1, f2]; rfl) ?_
                refine st_val (.int .i64 (IntKind.i64.wrap (i1 + 1))) (wn rfl) rfl (by simp only [f0, f1, f2]; rfl) ?_
                refine wpList_nil ?_
                refine then_normal ?_
                obtain ⟨nv8, hl2, h⟩ := h
                exact ⟨nv8, hl2, _, _, _, (some_us rfl rfl rfl), h⟩
          · clear hJ
            refine wp_seq ?_
            obtain ⟨ad1, hx14, h⟩ := h
            obtain ⟨x8, hx15, h⟩ := h
            refine wp_region_lit ?_
            refine st_val (Sl.v start) (wn rfl) rfl (by simp only [f0, f1, f2]; rfl) ?_
            refine st_val (.int .i64 i1) (wn rfl) rfl (by simp only [f0, f1, f2]; rfl) ?_
            refine st_val (.pointer (some ad1)) (wn rfl) (r_indexS (s := start) (Try.runUnderlying36 _) (Try.sizeOf3 _) rfl rfl hx14) (by simp only [f0, f1, f2]; rfl) ?_
            refine st_val (.int .i64 x8) (wn rfl) (r_load1 (Try.isAgg3 _) rfl (Cells.one hx15)) (by simp only [f0, f1, f2]; rfl) ?_
            refine st_val (.int .i64 (bits .and .i64 x8 7)) (wn rfl) rfl (by simp only [f0, f1, f2]; rfl) ?_
            refine st_val (.bool ((bits .and .i64 x8 7) == 0)) (wn rfl) rfl (by simp only [f0, f1, f2]; rfl) ?_
            refine st_val (.bool ((bits .and .i64 x8 7) == 0)) (wn rfl) rfl (by simp only [f0, f1, f2]; rfl) ?_
            refine st_cut 3 (fun a' w' => (∃ us8 : Nat → Value, a' = (⟨(fillin us8 0 (some (Sl.v start) :: some (Sl.v steps) :: some undef :: some undef :: some ((us3 4)) :: some (.bool x1) :: some (.pointer (some (⟨b, 0, none⟩ : Addr))) :: some (.int .i64 i) :: some ((us 8)) :: some ((us 9)) :: some (.int .i64 term_) :: some (.int .i64 owner) :: some (.int .i64 i1) :: some ((us3 13)) :: some ((us3 14)) :: some ((us3 15)) :: some ((us3 16)) :: some (.bool x1) :: some (.int .i64 i) :: some (.bool (decide (i < 3))) :: some ((us 20)) :: some ((us 21)) :: some ((us 22)) :: some ((us 23)) :: some ((us 24)) :: some ((us 25)) :: some ((us 26)) :: some ((us 27)) :: some ((us 28)) :: some ((us 29)) :: some ((us 30)) :: some ((us 31)) :: some ((us 32)) :: some ((us 33)) :: some ((us 34)) :: some ((us 35)) :: some ((us 36)) :: some ((us 37)) :: some ((us 38)) :: some (.int .i64 i1) :: some (Sl.v start) :: some (.int .i64 (↑(Sl.n start) : Int)) :: some (.bool (decide (i1 < (↑(Sl.n start) : Int)))) :: some (.bool (decide (i1 < (↑(Sl.n start) : Int)))) :: some ((us4 44)) :: some ((us4 45)) :: some (.bool ((decide (i1 < (↑(Sl.n start) : Int))) && (decide (i1 < 60)))) :: some ((us3 47)) :: some ((us3 48)) :: some (Sl.v start) :: some (.int .i64 i1) :: some (.pointer (some ad1)) :: some (.int .i64 x8) :: some (.int .i64 (bits .and .i64 x8 7)) :: some (.bool ((bits .and .i64 x8 7) == 0)) :: some (.bool ((bits .and .i64 x8 7) == 0)) :: none :: none :: some (.bool (((bits .and .i64 x8 7) == 0) || (term_ == 0))) :: some ((us3 59)) :: some ((us3 60)) :: some ((us3 61)) :: some ((us3 62)) :: some ((us3 63)) :: some ((us3 64)) :: some ((us3 65)) :: some ((us3 66)) :: some ((us3 67)) :: some ((us3 68)) :: some ((us3 69)) :: some ((us3 70)) :: some ((us3 71)) :: some ((us3 72)) :: some ((us3 73)) :: some ((us3 74)) :: some ((us3 75)) :: some ((us3 76)) :: some ((us3 77)) :: some ((us3 78)) :: some ((us3 79)) :: some ((us3 80)) :: some ((us3 81)) :: some ((us3 82)) :: some ((us3 83)) :: some ((us3 84)) :: some ((us3 85)) :: some ((us3 86)) :: some ((us3 87)) :: some ((us3 88)) :: some ((us3 89)) :: some ((us3 90)) :: some ((us3 91)) :: some ((us3 92)) :: some ((us3 93)) :: some ((us3 94)) :: some ((us3 95)) :: some ((us3 96)) :: some ((us3 97)) :: some ((us3 98)) :: some ((us3 99)) :: some ((us3 100)) :: some ((us3 101)) :: some ((us3 102)) :: some ((us3 103)) :: some ((us3 104)) :: some ((us3 105)) :: some ((us3 106)) :: some ((us3 107)) :: some ((us3 108)) :: some ((us3 109)) :: some ((us3 110)) :: some ((us3 111)) :: some undef :: some undef :: some undef :: some undef :: some undef :: some undef :: some undef :: some undef :: some undef :: some undef :: some undef :: some undef :: some undef :: some undef :: some undef :: some undef :: some undef :: some undef :: some undef :: [])).toArray, []⟩ : Act)) ∧ w_5 = w') ?_ ?_
            · simp only [List.take_succ_cons, List.take_zero]
              rcases Bool.eq_false_or_eq_true ((bits .and .i64 x8 7) == 0) with hg4 | hg4
              · refine st_no (wt rfl rfl rfl (congrArg Value.bool hg4) rfl) (by simp only [f0, f1, f2]; rfl) ?_
                refine st_no (wt rfl rfl rfl (congrArg Value.bool hg4) rfl) (by simp only [f0, f1, f2]; rfl) ?_
                refine st_val (.bool true) (wn rfl) (r_pickT (congrArg Value.bool hg4) rfl) (by simp only [f0, f1, f2]; rfl) ?_
                refine wpList_nil ?_
                exact then_normal ⟨some_us (by simp only [masked, hg4, Bool.true_and, Bool.false_and, Bool.true_or, Bool.false_or, cond_true, cond_false]) rfl rfl, rfl⟩
              · refine st_val (.int .i64 term_) (wt rfl rfl rfl (congrArg Value.bool hg4) rfl) rfl (by simp only [f0, f1, f2]; rfl) ?_
                refine st_val (.bool (term_ == 0)) (wt rfl rfl rfl (congrArg Value.bool hg4) rfl) rfl (by simp only [f0, f1, f2]; rfl) ?_
                refine st_val (.bool (term_ == 0)) (wn rfl) (r_pickF (congrArg Value.bool hg4) rfl) (by simp only [f0, f1, f2]; rfl) ?_
                refine wpList_nil ?_
                exact then_normal ⟨some_us (by simp only [masked, hg4, Bool.true_and, Bool.false_and, Bool.true_or, Bool.false_or, cond_true, cond_false]) rfl rfl, rfl⟩
            rintro a0 _ ⟨⟨us8, hF⟩, rfl⟩
            simp only [fillin, Nat.reduceAdd] at hF
            subst hF
            simp only [List.drop_succ_cons, List.drop_zero]
            refine wpList_nil ?_
            refine then_normal ?_
            refine wp_cond_split (t := (((bits .and .i64 x8 7) == 0) || (term_ == 0))) rfl (fun hc5 => ?_) (fun hc5 => ?_)
            · replace h := h.1 hc5
              refine wp_seq ?_
              refine wp_region_lit ?_
              refine st_val (Sl.v start) (wn rfl) rfl (by simp only [f0, f1, f2]; rfl) ?_
              refine st_val (.int .i64 i1) (wn rfl) rfl (by simp only [f0, f1, f2]; rfl) ?_
              obtain ⟨ad2, hx16, h⟩ := h
              refine st_val (.pointer (some ad2)) (wn rfl) (r_indexS (s := start) (Try.runUnderlying36 _) (Try.sizeOf3 _) rfl rfl hx16) (by simp only [f0, f1, f2]; rfl) ?_
              obtain ⟨x9, hx17, h⟩ := h
              refine st_val (.int .i64 x9) (wn rfl) (r_load1 (Try.isAgg3 _) rfl (Cells.one hx17)) (by simp only [f0, f1, f2]; rfl) ?_
              refine st_val (.int .i64 (Int.fdiv x9 (2 ^ 3))) (wn rfl) (r_shr (n := 3) rfl rfl (by decide)) (by simp only [f0, f1, f2]; rfl) ?_
              refine st_val (.int .i64 (bits .and .i64 (Int.fdiv x9 (2 ^ 3)) 1023)) (wn rfl) rfl (by simp only [f0, f1, f2]; rfl) ?_
              refine st_val (.int .i64 (Int.tmod (bits .and .i64 (Int.fdiv x9 (2 ^ 3)) 1023) 3)) (wn rfl) (r_rem rfl rfl (by decide)) (by simp only [f0, f1, f2]; rfl) ?_
              refine st_val (.int .i64 (Int.tmod (bits .and .i64 (Int.fdiv x9 (2 ^ 3)) 1023) 3)) (wn rfl) rfl (by simp only [f0, f1, f2]; rfl) ?_
              refine wpList_nil ?_
              refine then_normal ?_
              refine wp_region_lit ?_
              refine st_val (.int .i64 term_) (wn rfl) rfl (by simp only [f0, f1, f2]; rfl) ?_
              refine st_val (.int .i64 (IntKind.i64.wrap (term_ + 1))) (wn rfl) rfl (by simp only [f0, f1, f2]; rfl) ?_
              refine st_val (.int .i64 (IntKind.i64.wrap (term_ + 1))) (wn rfl) rfl (by simp only [f0, f1, f2]; rfl) ?_
              refine wpList_nil ?_
              refine then_normal ?_
              exact ⟨_, _, (some_us rfl rfl rfl), h⟩
            · replace h := h.2 hc5
              refine wp_skip ?_
              refine then_normal ?_
              exact ⟨_, _, (some_us rfl rfl rfl), h⟩
        · replace h := h.2 hc2
          refine wp_exit ?_
          refine then_exit ?_
          refine then_exit ?_
          refine block_hit ?_
          refine then_normal ?_
          refine wp_seq ?_
          obtain ⟨J_1, hJ1, h⟩ := h
          refine wp_cut (fun a' w' => ∃ t4 : Bool, (∃ us9 : Nat → Value, a' = (⟨(fillin us9 0 (some (Sl.v start) :: some (Sl.v steps) :: some undef :: some undef :: some (.bool t4) :: some (.bool x1) :: some (.pointer (some (⟨b, 0, none⟩ : Addr))) :: some (.int .i64 i) :: some ((us 8)) :: some ((us 9)) :: some (.int .i64 term_) :: some (.int .i64 owner) :: some (.int .i64 i1) :: some ((us3 13)) :: some ((us3 14)) :: some ((us3 15)) :: some ((us3 16)) :: some (.bool x1) :: some (.int .i64 i) :: some (.bool (decide (i < 3))) :: some ((us 20)) :: some ((us 21)) :: some ((us 22)) :: some ((us 23)) :: some ((us 24)) :: some ((us 25)) :: some ((us 26)) :: some ((us 27)) :: some ((us 28)) :: some ((us 29)) :: some ((us 30)) :: some ((us 31)) :: some ((us 32)) :: some ((us 33)) :: some ((us 34)) :: some ((us 35)) :: some ((us 36)) :: some ((us 37)) :: some ((us 38)) :: some (.int .i64 i1) :: some (Sl.v start) :: some (.int .i64 (↑(Sl.n start) : Int)) :: some (.bool (decide (i1 < (↑(Sl.n start) : Int)))) :: some (.bool (decide (i1 < (↑(Sl.n start) : Int)))) :: some ((us4 44)) :: some ((us4 45)) :: some (.bool ((decide (i1 < (↑(Sl.n start) : Int))) && (decide (i1 < 60)))) :: some ((us3 47)) :: some ((us3 48)) :: some ((us3 49)) :: some ((us3 50)) :: some ((us3 51)) :: some ((us3 52)) :: some ((us3 53)) :: some ((us3 54)) :: some ((us3 55)) :: some ((us3 56)) :: some ((us3 57)) :: some ((us3 58)) :: some ((us3 59)) :: some ((us3 60)) :: some ((us3 61)) :: some ((us3 62)) :: some ((us3 63)) :: some ((us3 64)) :: some ((us3 65)) :: some ((us3 66)) :: some ((us3 67)) :: some ((us3 68)) :: some ((us3 69)) :: some ((us3 70)) :: some ((us3 71)) :: some ((us3 72)) :: some ((us3 73)) :: some ((us3 74)) :: some ((us3 75)) :: some ((us3 76)) :: some ((us3 77)) :: some ((us3 78)) :: some ((us3 79)) :: some ((us3 80)) :: some ((us3 81)) :: some ((us3 82)) :: some ((us3 83)) :: some ((us3 84)) :: some ((us3 85)) :: some ((us3 86)) :: some ((us3 87)) :: some ((us3 88)) :: some ((us3 89)) :: some ((us3 90)) :: some ((us3 91)) :: some ((us3 92)) :: some ((us3 93)) :: some ((us3 94)) :: some ((us3 95)) :: some ((us3 96)) :: some ((us3 97)) :: some ((us3 98)) :: some ((us3 99)) :: some ((us3 100)) :: some ((us3 101)) :: some ((us3 102)) :: some ((us3 103)) :: some ((us3 104)) :: some ((us3 105)) :: some ((us3 106)) :: some ((us3 107)) :: some ((us3 108)) :: some ((us3 109)) :: some ((us3 110)) :: some ((us3 111)) :: none :: none :: none :: none :: none :: none :: none :: none :: none :: none :: none :: none :: none :: none :: none :: none :: none :: none :: none :: [])).toArray, []⟩ : Act)) ∧ J_1 t4 w') ?_ ?_
          · clear h
            rintro a0 w_14 ⟨t4, ⟨us9, hF⟩, h⟩
            simp only [fillin, Nat.reduceAdd] at hF
            subst hF
            replace h := hJ1 _ _ h
            refine then_normal ?_
            refine wp_ret ?_
            exact end_ret (r_res1 (v := .bool t4) Try.results4 ⟨rfl, trivial⟩) rfl h
          · refine wp_region_lit ?_
            refine st_val (.pointer (some (Addr.add (⟨b, 0, none⟩ : Addr) 0))) (wn rfl) (r_indexA (Try.runUnderlying38 _) (Try.sizeOf24 _) rfl rfl (by decide) (by decide) rfl) (by simp only [f0, f1, f2]; rfl) ?_
            obtain ⟨x10, hx18, h⟩ := h
            refine st_val (.pointer x10) (wn rfl) (r_load1 (Try.isAgg24 _) rfl (Cells.one hx18)) (by simp only [f0, f1, f2]; rfl) ?_
            refine st_val (.pointer (some (Addr.add (⟨b, 0, none⟩ : Addr) 1))) (wn rfl) (r_indexA (Try.runUnderlying38 _) (Try.sizeOf24 _) rfl rfl (by decide) (by decide) rfl) (by simp only [f0, f1, f2]; rfl) ?_
            obtain ⟨x15, hx19, h⟩ := h
            refine st_val (.pointer x15) (wn rfl) (r_load1 (Try.isAgg24 _) rfl (Cells.one hx19)) (by simp only [f0, f1, f2]; rfl) ?_
            refine st_one (wn rfl) ?_
            refine o_enter (args := #[.pointer x10, .pointer x15]) (r_enter Try.call12 rfl) (h.mono ?_)
            clear h
            rintro _ w_15 ⟨x16, rfl, h⟩
            refine ⟨_, _, rfl, (by simp only [f0, f1, f2]; rfl), ?_⟩
            refine st_val (.bool x16) (wn rfl) rfl (by simp only [f0, f1, f2]; rfl) ?_
            rcases Bool.eq_false_or_eq_true x16 with hg5 | hg5
            · replace h := h.1 hg5
              refine st_val (.pointer (some (Addr.add (⟨b, 0, none⟩ : Addr) 1))) (wt rfl rfl rfl (congrArg Value.bool hg5) rfl) (r_indexA (Try.runUnderlying38 _) (Try.sizeOf24 _) rfl rfl (by decide) (by decide) rfl) (by simp only [f0, f1, f2]; rfl) ?_
              obtain ⟨x17, hx20, h⟩ := h
              refine st_val (.pointer x17) (wt rfl rfl rfl (congrArg Value.bool hg5) rfl) (r_load1 (Try.isAgg24 _) rfl (Cells.one hx20)) (by simp only [f0, f1, f2]; rfl) ?_
              refine st_val (.pointer (some (Addr.add (⟨b, 0, none⟩ : Addr) 2))) (wt rfl rfl rfl (congrArg Value.bool hg5) rfl) (r_indexA (Try.runUnderlying38 _) (Try.sizeOf24 _) rfl rfl (by decide) (by decide) rfl) (by simp only [f0, f1, f2]; rfl) ?_
              obtain ⟨x18, hx21, h⟩ := h
              refine st_val (.pointer x18) (wt rfl rfl rfl (congrArg Value.bool hg5) rfl) (r_load1 (Try.isAgg24 _) rfl (Cells.one hx21)) (by simp only [f0, f1, f2]; rfl) ?_
              refine st_one (wt rfl rfl rfl (congrArg Value.bool hg5) rfl) ?_
              refine o_enter (args := #[.pointer x17, .pointer x18]) (r_enter Try.call12 rfl) (h.mono ?_)
              clear h
              rintro _ w_16 ⟨x19, rfl, h⟩
              refine ⟨_, _, rfl, (by simp only [f0, f1, f2]; rfl), ?_⟩
              refine st_val (.bool x19) (wn rfl) (r_pickT (congrArg Value.bool hg5) rfl) (by simp only [f0, f1, f2]; rfl) ?_
              refine st_val (.bool x19) (wn rfl) rfl (by simp only [f0, f1, f2]; rfl) ?_
              rcases Bool.eq_false_or_eq_true x19 with hg6 | hg6
              · replace h := h.1 hg6
                refine st_val (.pointer (some (Addr.add (⟨b, 0, none⟩ : Addr) 0))) (wt rfl rfl rfl (congrArg Value.bool hg6) rfl) (r_indexA (Try.runUnderlying38 _) (Try.sizeOf24 _) rfl rfl (by decide) (by decide) rfl) (by simp only [f0, f1, f2]; rfl) ?_
                obtain ⟨x20, hx22, h⟩ := h
                refine st_val (.pointer x20) (wt rfl rfl rfl (congrArg Value.bool hg6) rfl) (r_load1 (Try.isAgg24 _) rfl (Cells.one hx22)) (by simp only [f0, f1, f2]; rfl) ?_
                refine st_val (.pointer (some (Addr.add (⟨b, 0, none⟩ : Addr) 2))) (wt rfl rfl rfl (congrArg Value.bool hg6) rfl) (r_indexA (Try.runUnderlying38 _) (Try.sizeOf24 _) rfl rfl (by decide) (by decide) rfl) (by simp only [f0, f1, f2]; rfl) ?_
                obtain ⟨x23, hx23, h⟩ := h
                refine st_val (.pointer x23) (wt rfl rfl rfl (congrArg Value.bool hg6) rfl) (r_load1 (Try.isAgg24 _) rfl (Cells.one hx23)) (by simp only [f0, f1, f2]; rfl) ?_
                refine st_one (wt rfl rfl rfl (congrArg Value.bool hg6) rfl) ?_
                refine o_enter (args := #[.pointer x20, .pointer x23]) (r_enter Try.call12 rfl) (h.mono ?_)
                clear h
                rintro _ w_17 ⟨x24, rfl, h⟩
                refine ⟨_, _, rfl, (by simp only [f0, f1, f2]; rfl), ?_⟩
                refine st_val (.bool x24) (wn rfl) (r_pickT (congrArg Value.bool hg6) rfl) (by simp only [f0, f1, f2]; rfl) ?_
                refine st_val (.bool x24) (wn rfl) rfl (by simp only [f0, f1, f2]; rfl) ?_
                refine wpList_nil ?_
                exact then_normal ⟨_, (some_us rfl rfl rfl), h⟩
              · replace h := h.2 hg6
                refine st_no (wt rfl rfl rfl (congrArg Value.bool hg6) rfl) (by simp only [f0, f1, f2]; rfl) ?_
                refine st_no (wt rfl rfl rfl (congrArg Value.bool hg6) rfl) (by simp only [f0, f1, f2]; rfl) ?_
                refine st_no (wt rfl rfl rfl (congrArg Value.bool hg6) rfl) (by simp only [f0, f1, f2]; rfl) ?_
                refine st_no (wt rfl rfl rfl (congrArg Value.bool hg6) rfl) (by simp only [f0, f1, f2]; rfl) ?_
                refine st_no (wt rfl rfl rfl (congrArg Value.bool hg6) rfl) (by simp only [f0, f1, f2]; rfl) ?_
                refine st_val (.bool false) (wn rfl) (r_pickF (congrArg Value.bool hg6) rfl) (by simp only [f0, f1, f2]; rfl) ?_
                refine st_val (.bool false) (wn rfl) rfl (by simp only [f0, f1, f2]; rfl) ?_
                refine wpList_nil ?_
                exact then_normal ⟨_, (some_us rfl rfl rfl), h⟩
            · replace h := h.2 hg5
              refine st_no (wt rfl rfl rfl (congrArg Value.bool hg5) rfl) (by simp only [f0, f1, f2]; rfl) ?_
              refine st_no (wt rfl rfl rfl (congrArg Value.bool hg5) rfl) (by simp only [f0, f1, f2]; rfl) ?_
              refine st_no (wt rfl rfl rfl (congrArg Value.bool hg5) rfl) (by simp only [f0, f1, f2]; rfl) ?_
              refine st_no (wt rfl rfl rfl (congrArg Value.bool hg5) rfl) (by simp only [f0, f1, f2]; rfl) ?_
              refine st_no (wt rfl rfl rfl (congrArg Value.bool hg5) rfl) (by simp only [f0, f1, f2]; rfl) ?_
              refine st_val (.bool false) (wn rfl) (r_pickF (congrArg Value.bool hg5) rfl) (by simp only [f0, f1, f2]; rfl) ?_
              refine st_val (.bool false) (wn rfl) rfl (by simp only [f0, f1, f2]; rfl) ?_
              refine st_no (wt rfl rfl rfl rfl rfl) (by simp only [f0, f1, f2]; rfl) ?_
              refine st_no (wt rfl rfl rfl rfl rfl) (by simp only [f0, f1, f2]; rfl) ?_
              refine st_no (wt rfl rfl rfl rfl rfl) (by simp only [f0, f1, f2]; rfl) ?_
              refine st_no (wt rfl rfl rfl rfl rfl) (by simp only [f0, f1, f2]; rfl) ?_
              refine st_no (wt rfl rfl rfl rfl rfl) (by simp only [f0, f1, f2]; rfl) ?_
              refine st_val (.bool false) (wn rfl) (r_pickF rfl rfl) (by simp only [f0, f1, f2]; rfl) ?_
              refine st_val (.bool false) (wn rfl) rfl (by simp only [f0, f1, f2]; rfl) ?_
              refine wpList_nil ?_
              exact then_normal ⟨_, (some_us rfl rfl rfl), h⟩

/-- what is to be shown of a call of (*ledger.Ledger).Fit -/
def ledger_Ledger_Fit_vc (l : Addr) (prev : Int) (term_ : Int) (row : Sl) (R : Value → World → Prop) (w : World) : Prop :=
  ∀ (b : Nat) (w_ : World), w.heap.size ≤ b → b < w_.heap.size → Only [] w w_ →
  Calls Try.prog 15 #[.agg #[.int .i64 prev, .int .i64 term_], Sl.v row] w_ (fun e w_1 => ∃ x1 : Bool, e = .returned (.bool x1) ∧ Same [b] w_ w_1 ∧
  (((!x1) = true →
  R (.tuple #[.int .i64 0, Sl.v Sl.nil, .int .i64 1]) w_1) ∧
  ((!x1) = false →
  ∀ (b1 : Nat) (w_3 : World), w_1.heap.size ≤ b1 → b1 < w_3.heap.size → Only [] w_1 w_3 → Blk w_3 b 24 [.pointer (some l)] →
  Calls Try.prog 19 #[Sl.v row, .func (.func 20) #[] #[.pointer (some ⟨b, 0, none⟩)]] w_3 (fun e w_4 => ∃ x2 : Int, e = .returned (.int .i64 x2) ∧ Same [b, b1] w_3 w_4 ∧
  Calls Try.prog 10 #[.pointer (some l)] w_4 (fun e w_5 => ∃ x0 : Int, ∃ x11 : Int, e = .returned (.tuple #[.int .i64 x0, .int .i64 x11]) ∧ Same [b, b1] w_4 w_5 ∧
  ∀ (b2 : Nat) (w_7 : World), w_5.heap.size ≤ b2 → b2 < w_7.heap.size → Only [] w_5 w_7 → Blk w_7 b 24 [.pointer (some l)] →
  ∃ J_ : Bool → World → Prop, (∀ (t52 : Bool) (w_8 : World), J_ t52 w_8 →
  ((t52 = true →
  Blk w_8 b 24 [.pointer (some l)] →
  R (.tuple #[.int .i64 0, Sl.v Sl.nil, .int .i64 55]) w_8) ∧
  (t52 = false →
  Blk w_8 b 24 [.pointer (some l)] → Blk w_8 b1 57 [.func (.func 17) #[] #[.pointer (some ⟨b, 0, none⟩)]] → Blk w_8 b2 3 [.int .i64 x0] →
  Calls Try.prog 19 #[Sl.v row, .func (.func 21) #[] #[.pointer (some ⟨b, 0, none⟩), .pointer (some ⟨b2, 0, none⟩), .pointer (some ⟨b1, 0, none⟩)]] w_8 (fun e w_9 => ∃ x3 : Int, e = .returned (.int .i64 x3) ∧ Same [b, b1, b2] w_8 w_9 ∧
  (((decide (x3 < 0)) = true →
  R (.tuple #[.int .i64 (IntKind.i64.wrap (prev + (↑(Sl.n row) : Int))), Sl.v Sl.nil, .int .i64 0]) w_9) ∧
  ((decide (x3 < 0)) = false →
  ∃ lo : Nat, (x3 = ↑lo ∧ lo ≤ (Sl.n row) ∧ (Sl.n row) ≤ (Sl.c row) ∧ (Sl.c row) ≤ Sl.c row) ∧
  Calls Try.prog 16 #[Sl.v (Sl.cut row lo (Sl.n row) (Sl.c row) 4)] w_9 (fun e w_10 => ∃ x4 : Sl, e = .returned (Sl.v x4) ∧ Same [b, b1, b2] w_9 w_10 ∧
  R (.tuple #[.int .i64 (IntKind.i64.wrap (prev + (↑(Sl.n row) : Int))), Sl.v x4, .int .i64 0]) w_10))))))) ∧
  (∀ (w_11 : World), Only [] w_7 w_11 → Blk w_11 b 24 [.pointer (some l)] →
  (((decide (prev > x0)) = true →
  J_ true w_11) ∧
  ((decide (prev > x0)) = false →
  Calls Try.prog 17 #[.agg #[.int .i64 prev, .int .i64 term_, .int .i64 0, Sl.v Sl.nil], .pointer (some ⟨b, 0, none⟩)] w_11 (fun e w_12 => ∃ x5 : Bool, e = .returned (.bool x5) ∧ Same [b, b1, b2] w_11 w_12 ∧
  ((x5 = true →
  J_ true w_12) ∧
  (x5 = false →
  (((decide (x2 ≥ 0)) = true →
  ∃ ad : Addr, SlAt row x2 4 ad ∧
  ∃ x01 : Int, ∃ x12 : Int, ∃ x21 : Int, ∃ x31 : Sl, Cells w_12 ad [.int .i64 x01, .int .i64 x12, .int .i64 x21, Sl.v x31] ∧
  Calls Try.prog 17 #[.agg #[.int .i64 x01, .int .i64 x12, .int .i64 x21, Sl.v x31], .pointer (some ⟨b, 0, none⟩)] w_12 (fun e w_13 => ∃ x6 : Bool, e = .returned (.bool x6) ∧ Same [b, b1, b2] w_12 w_13 ∧
  J_ x6 w_13)) ∧
  ((decide (x2 ≥ 0)) = false →
  J_ false w_12)))))))))))))
theorem ledger_Ledger_Fit_wp (l : Addr) (prev : Int) (term_ : Int) (row : Sl) (R : Value → World → Prop) (w : World) (h : ledger_Ledger_Fit_vc l prev term_ row R w) :
    Calls Try.prog 7 #[.pointer (some l), .int .i64 prev, .int .i64 term_, Sl.v row] w fun e w' => ∃ v, e = .returned v ∧ R v w' := by
  unfold ledger_Ledger_Fit_vc at h
  refine calls_of (k := 66) Try.func7 rfl Try.ntmps7 rfl rfl ?_
  simp only [List.replicate, List.cons_append, List.nil_append]
  refine wp_seq ?_
  refine wp_region_lit ?_
  refine st_one (wn rfl) ?_
  refine o_boxB (zs := [.pointer (some l)]) rfl (fun b => by simp only [f0, f1, f2]; rfl) (fun b w_ hn hO hb => ?_)
  have hn_b : w.heap.size ≤ b := hn
  have hA : Only [] w w_ := hO
  refine st_val (.int .i64 0) (wn rfl) rfl (by simp only [f0, f1, f2]; rfl) ?_
  refine st_val (Sl.v Sl.nil) (wn rfl) rfl (by simp only [f0, f1, f2]; rfl) ?_
  refine st_val (.int .i64 0) (wn rfl) rfl (by simp only [f0, f1, f2]; rfl) ?_
  refine wpList_nil ?_
  refine then_normal ?_
  refine wp_seq ?_
  refine wp_seq ?_
  refine wp_region_lit ?_
  refine st_val (.int .i64 prev) (wn rfl) rfl (by simp only [f0, f1, f2]; rfl) ?_
  refine st_val (.int .i64 term_) (wn rfl) rfl (by simp only [f0, f1, f2]; rfl) ?_
  refine st_val (.agg #[.int .i64 prev, .int .i64 term_]) (wn rfl) (r_build (ps' := [(0, .int .i64 prev), (1, .int .i64 term_)]) rfl (by kernel_rfl)) (by simp only [f0, f1, f2]; rfl) ?_
  refine st_val (Sl.v row) (wn rfl) rfl (by simp only [f0, f1, f2]; rfl) ?_
  replace h := h b w_ hn_b hb.lt hA
  refine st_one (wn rfl) ?_
  refine o_enter (args := #[.agg #[.int .i64 prev, .int .i64 term_], Sl.v row]) (r_enter Try.call15 rfl) (h.mono ?_)
  clear h
  rintro _ w_1 ⟨x1, rfl, hs, h⟩
  refine ⟨_, _, rfl, (by simp only [f0, f1, f2]; rfl), ?_⟩
  have hb1 := hs.blk hb (by simp)
  refine st_val (.bool (!x1)) (wn rfl) rfl (by simp only [f0, f1, f2]; rfl) ?_
  refine wpList_nil ?_
  refine then_normal ?_
  refine wp_cond_split (t := (!x1)) rfl (fun hc => ?_) (fun hc => ?_)
  · replace h := h.1 hc
    refine wp_seq ?_
    refine wp_region_lit ?_
    refine st_val (.int .i64 0) (wn rfl) rfl (by simp only [f0, f1, f2]; rfl) ?_
    refine st_val (Sl.v Sl.nil) (wn rfl) rfl (by simp only [f0, f1, f2]; rfl) ?_
    refine st_val (.int .i64 1) (wn rfl) rfl (by simp only [f0, f1, f2]; rfl) ?_
    refine wpList_nil ?_
    refine then_normal ?_
    refine wp_ret ?_
    refine then_ret ?_
    exact end_ret (r_resN (vs := [.int .i64 0, Sl.v Sl.nil, .int .i64 1]) Try.results7 rfl ⟨rfl, rfl, rfl, trivial⟩) rfl h
  · replace h := h.2 hc
    refine wp_skip ?_
    refine then_normal ?_
    refine wp_seq ?_
    refine wp_region_lit ?_
    refine st_val (.func (.func 17) #[] #[.pointer (some ⟨b, 0, none⟩)]) (wn rfl) (r_makeFunc (fv := []) (cv := [.pointer (some ⟨b, 0, none⟩)]) rfl rfl) (by simp only [f0, f1, f2]; rfl) ?_
    refine st_one (wn rfl) ?_
    refine o_allocB (zs := [.nilFunc]) (Try.zeroValue57 _) rfl (fun b => by simp only [f0, f1, f2]; rfl) (fun b1 w_2 hn1 hO1 hb2 => ?_)
    have hne : b1 ≠ b := by have := hb1.lt; omega
    have hn_b1 : w_1.heap.size ≤ b1 := hn1
    have hA1 : Only [] w_1 w_2 := hO1
    have hb3 := hO1.blk hb1 (by simp)
    refine st_one (wn rfl) ?_
    refine o_storeB (vs := [.func (.func 17) #[] #[.pointer (some ⟨b, 0, none⟩)]]) (cs' := [.func (.func 17) #[] #[.pointer (some ⟨b, 0, none⟩)]]) (Try.sizeOf57 _) rfl rfl rfl rfl hb2 (Nat.le_of_ble_eq_true rfl) rfl (f3 _ _) (fun w_3 hO2 hb4 => ?_)
    have hA2 := hA1.new hO2 hn_b1
    have hb5 := hO2.blk hb3 (by simpa using (Ne.symm hne))
    refine wpList_nil ?_
    refine then_normal ?_
    refine wp_seq ?_
    refine wp_region_lit ?_
    refine st_val (Sl.v row) (wn rfl) rfl (by simp only [f0, f1, f2]; rfl) ?_
    refine st_val (.func (.func 20) #[] #[.pointer (some ⟨b, 0, none⟩)]) (wn rfl) (r_makeFunc (fv := []) (cv := [.pointer (some ⟨b, 0, none⟩)]) rfl rfl) (by simp only [f0, f1, f2]; rfl) ?_
    replace h := h b1 w_3 hn_b1 hb4.lt hA2 hb5
    refine st_one (wn rfl) ?_
    refine o_enter (args := #[Sl.v row, .func (.func 20) #[] #[.pointer (some ⟨b, 0, none⟩)]]) (r_enter Try.call19 rfl) (h.mono ?_)
    clear h
    rintro _ w_4 ⟨x2, rfl, hs1, h⟩
    refine ⟨_, _, rfl, (by simp only [f0, f1, f2]; rfl), ?_⟩
    have hb6 := hs1.blk hb5 (by simp)
    have hb7 := hs1.blk hb4 (by simp)
    refine st_val (.int .i64 x2) (wn rfl) rfl (by simp only [f0, f1, f2]; rfl) ?_
    refine wpList_nil ?_
    refine then_normal ?_
    refine wp_seq ?_
    refine wp_region_lit ?_
    refine st_val (.pointer (some l)) (wn rfl) (r_load1 (Try.isAgg24 _) rfl (hb6.cell 0)) (by simp only [f0, f1, f2]; rfl) ?_
    refine st_one (wn rfl) ?_
    refine o_enter (args := #[.pointer (some l)]) (r_enter Try.call10 rfl) (h.mono ?_)
    clear h
    rintro _ w_5 ⟨x0, x11, rfl, hs2, h⟩
    refine ⟨_, _, rfl, (by simp only [f0, f1, f2]; rfl), ?_⟩
    have hb8 := hs2.blk hb6 (by simp)
    have hb9 := hs2.blk hb7 (by simp)
    refine st_val (.tuple #[.int .i64 x0, .int .i64 x11]) (wn rfl) rfl (by simp only [f0, f1, f2]; rfl) ?_
    refine st_val (.int .i64 x0) (wn rfl) rfl (by simp only [f0, f1, f2]; rfl) ?_
    refine st_val (.int .i64 x11) (wn rfl) rfl (by simp only [f0, f1, f2]; rfl) ?_
    refine st_one (wn rfl) ?_
    refine o_allocB (zs := [.int .i64 0]) (Try.zeroValue3 _) rfl (fun b => by simp only [f0, f1, f2]; rfl) (fun b2 w_6 hn2 hO3 hb10 => ?_)
    have hne1 : b2 ≠ b := by have := hb8.lt; omega
    have hne2 : b2 ≠ b1 := by have := hb9.lt; omega
    have hn_b2 : w_5.heap.size ≤ b2 := hn2
    have hA3 : Only [] w_5 w_6 := hO3
    have hb11 := hO3.blk hb8 (by simp)
    have hb12 := hO3.blk hb9 (by simp)
    refine st_one (wn rfl) ?_
    refine o_storeB (vs := [.int .i64 x0]) (cs' := [.int .i64 x0]) (Try.sizeOf3 _) rfl rfl rfl rfl hb10 (Nat.le_of_ble_eq_true rfl) rfl (f3 _ _) (fun w_7 hO4 hb13 => ?_)
    have hA4 := hA3.new hO4 hn_b2
    have hb14 := hO4.blk hb11 (by simpa using (Ne.symm hne1))
    have hb15 := hO4.blk hb12 (by simpa using (Ne.symm hne2))
    refine st_val (.int .i64 x11) (wn rfl) rfl (by simp only [f0, f1, f2]; rfl) ?_
    refine wpList_nil ?_
    refine then_normal ?_
    refine wp_seq ?_
    refine wp_seq ?_
    replace h := h b2 w_7 hn_b2 hb13.lt hA4 hb14
    obtain ⟨J_, hJ, h⟩ := h
    refine wp_cut (fun a' w' => ∃ t52 : Bool, (∃ us : Nat → Value, a' = (⟨(fillin us 0 (some (.pointer (some l)) :: some (.int .i64 prev) :: some (.int .i64 term_) :: some (Sl.v row) :: some (.pointer (some ⟨b, 0, none⟩)) :: some undef :: some undef :: some undef :: some (.int .i64 0) :: some (Sl.v Sl.nil) :: some (.int .i64 0) :: some (.pointer (some ⟨b1, 0, none⟩)) :: some (.int .i64 x2) :: some (.pointer (some ⟨b2, 0, none⟩)) :: some (.int .i64 x11) :: some undef :: some (.int .i64 prev) :: some (.int .i64 term_) :: some (.agg #[.int .i64 prev, .int .i64 term_]) :: some (Sl.v row) :: some (.bool x1) :: some (.bool (!x1)) :: some (.func (.func 17) #[] #[.pointer (some ⟨b, 0, none⟩)]) :: some (Sl.v row) :: some (.func (.func 20) #[] #[.pointer (some ⟨b, 0, none⟩)]) :: some (.int .i64 x2) :: some (.tuple #[.int .i64 x0, .int .i64 x11]) :: some (.pointer (some l)) :: some (.tuple #[.int .i64 x0, .int .i64 x11]) :: some (.int .i64 x0) :: some (.int .i64 x11) :: none :: none :: none :: none :: none :: none :: none :: none :: none :: none :: none :: none :: none :: none :: none :: none :: none :: none :: none :: none :: none :: some (.bool t52) :: some undef :: some undef :: some undef :: some undef :: some undef :: some undef :: some undef :: some undef :: some undef :: some undef :: some undef :: some undef :: some undef :: some undef :: some undef :: some undef :: some undef :: [])).toArray, []⟩ : Act)) ∧ Blk w' b 24 [.pointer (some l)] ∧ Blk w' b1 57 [.func (.func 17) #[] #[.pointer (some ⟨b, 0, none⟩)]] ∧ Blk w' b2 3 [.int .i64 x0] ∧ J_ t52 w') ?_ ?_
    · clear h
      rintro a0 w_8 ⟨t52, ⟨us, hF⟩, hb16, hb17, hb18, h⟩
      simp only [fillin, Nat.reduceAdd] at hF
      subst hF
      replace h := hJ _ _ h
      refine then_normal ?_
      refine wp_cond_split (t := t52) rfl (fun hc1 => ?_) (fun hc1 => ?_)
      · replace h := h.1 hc1
        refine wp_seq ?_
        refine wp_region_lit ?_
        refine st_val (.int .i64 0) (wn rfl) rfl (by simp only [f0, f1, f2]; rfl) ?_
        refine st_val (Sl.v Sl.nil) (wn rfl) rfl (by simp only [f0, f1, f2]; rfl) ?_
        refine st_val (.int .i64 55) (wn rfl) rfl (by simp only [f0, f1, f2]; rfl) ?_
        refine wpList_nil ?_
        refine then_normal ?_
        refine wp_ret ?_
        refine then_ret ?_
        replace h := h hb16
        exact end_ret (r_resN (vs := [.int .i64 0, Sl.v Sl.nil, .int .i64 55]) Try.results7 rfl ⟨rfl, rfl, rfl, trivial⟩) rfl h
      · replace h := h.2 hc1
        refine wp_skip ?_
        refine then_normal ?_
        refine wp_seq ?_
        refine wp_region_lit ?_
        refine st_val (Sl.v row) (wn rfl) rfl (by simp only [f0, f1, f2]; rfl) ?_
        refine st_val (.func (.func 21) #[] #[.pointer (some ⟨b, 0, none⟩), .pointer (some ⟨b2, 0, none⟩), .pointer (some ⟨b1, 0, none⟩)]) (wn rfl) (r_makeFunc (fv := []) (cv := [.pointer (some ⟨b, 0, none⟩), .pointer (some ⟨b2, 0, none⟩), .pointer (some ⟨b1, 0, none⟩)]) rfl rfl) (by simp only [f0, f1, f2]; rfl) ?_
        replace h := h hb16 hb17 hb18
        refine st_one (wn rfl) ?_
        refine o_enter (args := #[Sl.v row, .func (.func 21) #[] #[.pointer (some ⟨b, 0, none⟩), .pointer (some ⟨b2, 0, none⟩), .pointer (some ⟨b1, 0, none⟩)]]) (r_enter Try.call19 rfl) (h.mono ?_)
        clear h
        rintro _ w_9 ⟨x3, rfl, hs3, h⟩
        refine ⟨_, _, rfl, (by simp only [f0, f1, f2]; rfl), ?_⟩
        have hb19 := hs3.blk hb16 (by simp)
        have hb20 := hs3.blk hb17 (by simp)
        have hb21 := hs3.blk hb18 (by simp)
        refine st_val (.int .i64 x3) (wn rfl) rfl (by simp only [f0, f1, f2]; rfl) ?_
        refine wpList_nil ?_
        refine then_normal ?_
        refine wp_seq ?_
        refine wp_seq ?_
        refine wp_region_lit ?_
        refine st_val (.int .i64 x3) (wn rfl) rfl (by simp only [f0, f1, f2]; rfl) ?_
        refine st_val (.bool (decide (x3 < 0))) (wn rfl) rfl (by simp only [f0, f1, f2]; rfl) ?_
        refine wpList_nil ?_
        refine then_normal ?_
        refine wp_cond_split (t := (decide (x3 < 0))) rfl (fun hc2 => ?_) (fun hc2 => ?_)
        · replace h := h.1 hc2
          refine wp_seq ?_
          refine wp_region_lit ?_
          refine st_val (.int .i64 prev) (wn rfl) rfl (by simp only [f0, f1, f2]; rfl) ?_
          refine st_val (Sl.v row) (wn rfl) rfl (by simp only [f0, f1, f2]; rfl) ?_
          refine st_val (.int .i64 (↑(Sl.n row) : Int)) (wn rfl) (r_len (s := row) (Try.runUnderlying22 _) rfl) (by simp only [f0, f1, f2]; rfl) ?_
          refine st_val (.int .i64 (IntKind.i64.wrap (prev + (↑(Sl.n row) : Int)))) (wn rfl) rfl (by simp only [f0, f1, f2]; rfl) ?_
          refine st_val (.int .i64 (IntKind.i64.wrap (prev + (↑(Sl.n row) : Int)))) (wn rfl) rfl (by simp only [f0, f1, f2]; rfl) ?_
          refine st_val (Sl.v Sl.nil) (wn rfl) rfl (by simp only [f0, f1, f2]; rfl) ?_
          refine st_val (.int .i64 0) (wn rfl) rfl (by simp only [f0, f1, f2]; rfl) ?_
          refine wpList_nil ?_
          refine then_normal ?_
          refine wp_ret ?_
          refine then_ret ?_
          exact end_ret (r_resN (vs := [.int .i64 (IntKind.i64.wrap (prev + (↑(Sl.n row) : Int))), Sl.v Sl.nil, .int .i64 0]) Try.results7 rfl ⟨rfl, rfl, rfl, trivial⟩) rfl h
        · replace h := h.2 hc2
          refine wp_skip ?_
          refine then_normal ?_
          refine wp_seq ?_
          refine wp_region_lit ?_
          refine st_val (.int .i64 prev) (wn rfl) rfl (by simp only [f0, f1, f2]; rfl) ?_
          refine st_val (Sl.v row) (wn rfl) rfl (by simp only [f0, f1, f2]; rfl) ?_
          refine st_val (.int .i64 (↑(Sl.n row) : Int)) (wn rfl) (r_len (s := row) (Try.runUnderlying22 _) rfl) (by simp only [f0, f1, f2]; rfl) ?_
          refine st_val (.int .i64 (IntKind.i64.wrap (prev + (↑(Sl.n row) : Int)))) (wn rfl) rfl (by simp only [f0, f1, f2]; rfl) ?_
          refine st_val (Sl.v row) (wn rfl) rfl (by simp only [f0, f1, f2]; rfl) ?_
          refine st_val (.int .i64 x3) (wn rfl) rfl (by simp only [f0, f1, f2]; rfl) ?_
          obtain ⟨lo, hx, h⟩ := h
          refine st_val (Sl.v (Sl.cut row lo (Sl.n row) (Sl.c row) 4)) (wn rfl) (r_slice100 (s := row) (Try.runUnderlying22 _) (Try.sizeOf34 _) rfl (congrArg (Value.int _) (hx.1)) (by first | exact hx.2.1 | omega) (by first | exact hx.2.2.1 | omega) (by first | exact hx.2.2.2 | omega)) (by simp only [f0, f1, f2]; rfl) ?_
          refine st_one (wn rfl) ?_
          refine o_enter (args := #[Sl.v (Sl.cut row lo (Sl.n row) (Sl.c row) 4)]) (r_enter Try.call16 rfl) (h.mono ?_)
          clear h
          rintro _ w_10 ⟨x4, rfl, hs4, h⟩
          refine ⟨_, _, rfl, (by simp only [f0, f1, f2]; rfl), ?_⟩
          have hb22 := hs4.blk hb19 (by simp)
          have hb23 := hs4.blk hb20 (by simp)
          have hb24 := hs4.blk hb21 (by simp)
          refine st_val (.int .i64 (IntKind.i64.wrap (prev + (↑(Sl.n row) : Int)))) (wn rfl) rfl (by simp only [f0, f1, f2]; rfl) ?_
          refine st_val (Sl.v x4) (wn rfl) rfl (by simp only [f0, f1, f2]; rfl) ?_
          refine st_val (.int .i64 0) (wn rfl) rfl (by simp only [f0, f1, f2]; rfl) ?_
          refine wpList_nil ?_
          refine then_normal ?_
          refine wp_ret ?_
          exact end_ret (r_resN (vs := [.int .i64 (IntKind.i64.wrap (prev + (↑(Sl.n row) : Int))), Sl.v x4, .int .i64 0]) Try.results7 rfl ⟨rfl, rfl, rfl, trivial⟩) rfl h
    · refine e_region (EL [(8, [b, b1, b2]), (19, [b, b1, b2])]) Try.checked.mixed ?_
      have hO5 := Only.drew w_7
      generalize w_7.drew = w_11 at *
      have hA5 : Only [] w_7 w_11 := hO5
      have hb25 := hO5.blk hb14 (by simp)
      have hb26 := hO5.blk hb15 (by simp)
      have hb27 := hO5.blk hb13 (by simp)
      refine e_take 0 [2, 3, 4, 5, 6, 7, 8, 9, 10, 11, 12, 13, 14, 15, 16, 17, 18, 19, 20, 21] [] (.int .i64 prev) (fun _ => True) rfl (by kernel_rfl) (by kernel_rfl) (by kernel_rfl) (by kernel_rfl) (by kernel_rfl) (by kernel_rfl) (fun _ _ _ h => h) el_true (fun w _ => el_quiet rfl w) trivial (y_val (wn rfl) (fun w' hw' => rfl)) (by simp only [f0, f1, f2]; rfl) ?_
      refine e_take 1 [2, 3, 4, 5, 6, 7, 8, 9, 10, 11, 12, 13, 14, 15, 16, 17, 18, 19, 20, 21] [0] (.int .i64 x0) (fun w' => Blk w' b2 3 [.int .i64 x0]) rfl (by kernel_rfl) (by kernel_rfl) (by kernel_rfl) (by kernel_rfl) (by kernel_rfl) (by kernel_rfl) (fun _ _ _ h => h) (el_stable (b := b2) (List.forall_mem_cons.2 ⟨.inl (by simp), List.forall_mem_cons.2 ⟨.inl (by simp), List.forall_mem_nil _⟩⟩) keep_blk) (fun w _ => el_quiet rfl w) hb27 (y_val (wn rfl) (fun w' hw' => (r_load1 (Try.isAgg3 _) rfl (hw'.cell 0)))) (by simp only [f0, f1, f2]; rfl) ?_
      refine e_take 2 [3, 4, 5, 6, 7, 8, 9, 10, 11, 12, 13, 14, 15, 16, 17, 18, 19, 20, 21] [0, 1] (.bool (decide (prev > x0))) (fun _ => True) rfl (by kernel_rfl) (by kernel_rfl) (by kernel_rfl) (by kernel_rfl) (by kernel_rfl) (by kernel_rfl) (fun _ _ _ h => h) el_true (fun w _ => el_quiet rfl w) trivial (y_val (wn rfl) (fun w' hw' => rfl)) (by simp only [f0, f1, f2]; rfl) ?_
      refine e_take 3 [4, 5, 6, 7, 8, 9, 10, 11, 12, 13, 14, 15, 16, 17, 18, 19, 20, 21] [0, 1, 2] (.bool (decide (prev > x0))) (fun _ => True) rfl (by kernel_rfl) (by kernel_rfl) (by kernel_rfl) (by kernel_rfl) (by kernel_rfl) (by kernel_rfl) (fun _ _ _ h => h) el_true (fun w _ => el_quiet rfl w) trivial (y_val (wn rfl) (fun w' hw' => rfl)) (by simp only [f0, f1, f2]; rfl) ?_
      replace h := h w_11 hA5 hb25
      rcases Bool.eq_false_or_eq_true (decide (prev > x0)) with hg | hg
      · replace h := h.1 hg
        refine e_take 4 [8, 9, 10, 11, 12, 13, 14, 15, 16, 17, 18, 19, 20, 21] [0, 1, 2, 3] (undef) (fun _ => True) rfl (by kernel_rfl) (by kernel_rfl) (by kernel_rfl) (by kernel_rfl) (by kernel_rfl) (by kernel_rfl) (fun _ _ _ h => h) el_true (fun w _ => el_quiet rfl w) trivial (y_no (wt rfl rfl rfl (congrArg Value.bool hg) rfl)) (by simp only [f0, f1, f2]; rfl) ?_
        refine e_take 5 [7, 8, 9, 10, 11, 12, 13, 14, 15, 16, 17, 18, 19, 20, 21] [0, 1, 2, 3, 4] (undef) (fun _ => True) rfl (by kernel_rfl) (by kernel_rfl) (by kernel_rfl) (by kernel_rfl) (by kernel_rfl) (by kernel_rfl) (fun _ _ _ h => h) el_true (fun w _ => el_quiet rfl w) trivial (y_no (wt rfl rfl rfl (congrArg Value.bool hg) rfl)) (by simp only [f0, f1, f2]; rfl) ?_
        refine e_take 6 [7, 8, 9, 10, 11, 12, 13, 14, 15, 16, 17, 18, 19, 20, 21] [0, 1, 2, 3, 4, 5] (undef) (fun _ => True) rfl (by kernel_rfl) (by kernel_rfl) (by kernel_rfl) (by kernel_rfl) (by kernel_rfl) (by kernel_rfl) (fun _ _ _ h => h) el_true (fun w _ => el_quiet rfl w) trivial (y_no (wt rfl rfl rfl (congrArg Value.bool hg) rfl)) (by simp only [f0, f1, f2]; rfl) ?_
        refine e_take 7 [8, 9, 10, 11, 12, 13, 14, 15, 16, 17, 18, 19, 20, 21] [0, 1, 2, 3, 4, 5, 6] (undef) (fun _ => True) rfl (by kernel_rfl) (by kernel_rfl) (by kernel_rfl) (by kernel_rfl) (by kernel_rfl) (by kernel_rfl) (fun _ _ _ h => h) el_true (fun w _ => el_quiet rfl w) trivial (y_no (wt rfl rfl rfl (congrArg Value.bool hg) rfl)) (by simp only [f0, f1, f2]; rfl) ?_
        refine e_take 8 [9, 10, 11, 12, 13, 14, 15, 16, 17, 18, 19, 20, 21] [0, 1, 2, 3, 4, 5, 6, 7] (undef) (fun _ => True) rfl (by kernel_rfl) (by kernel_rfl) (by kernel_rfl) (by kernel_rfl) (by kernel_rfl) (by kernel_rfl) (fun _ _ _ h => h) el_true (fun w _ => el_loud rfl (Same.refl _ w)) trivial (y_no (wt rfl rfl rfl (congrArg Value.bool hg) rfl)) (by simp only [f0, f1, f2]; rfl) ?_
        refine e_take 9 [10, 11, 12, 13, 14, 15, 16, 17, 18, 19, 20, 21] [0, 1, 2, 3, 4, 5, 6, 7, 8] (.bool true) (fun _ => True) rfl (by kernel_rfl) (by kernel_rfl) (by kernel_rfl) (by kernel_rfl) (by kernel_rfl) (by kernel_rfl) (fun _ _ _ h => h) el_true (fun w _ => el_quiet rfl w) trivial (y_val (wn rfl) (fun w' hw' => (r_pickT (congrArg Value.bool hg) rfl))) (by simp only [f0, f1, f2]; rfl) ?_
        refine e_take 10 [11, 12, 13, 14, 15, 16, 17, 18, 19, 20, 21] [0, 1, 2, 3, 4, 5, 6, 7, 8, 9] (.bool true) (fun _ => True) rfl (by kernel_rfl) (by kernel_rfl) (by kernel_rfl) (by kernel_rfl) (by kernel_rfl) (by kernel_rfl) (fun _ _ _ h => h) el_true (fun w _ => el_quiet rfl w) trivial (y_val (wn rfl) (fun w' hw' => rfl)) (by simp only [f0, f1, f2]; rfl) ?_
        refine e_take 11 [12, 13, 14, 15, 16, 17, 18, 19, 20, 21] [0, 1, 2, 3, 4, 5, 6, 7, 8, 9, 10] (undef) (fun _ => True) rfl (by kernel_rfl) (by kernel_rfl) (by kernel_rfl) (by kernel_rfl) (by kernel_rfl) (by kernel_rfl) (fun _ _ _ h => h) el_true (fun w _ => el_quiet rfl w) trivial (y_no (wt rfl rfl rfl rfl rfl)) (by simp only [f0, f1, f2]; rfl) ?_
        refine e_take 12 [13, 14, 15, 16, 17, 18, 19, 20, 21] [0, 1, 2, 3, 4, 5, 6, 7, 8, 9, 10, 11] (undef) (fun _ => True) rfl (by kernel_rfl) (by kernel_rfl) (by kernel_rfl) (by kernel_rfl) (by kernel_rfl) (by kernel_rfl) (fun _ _ _ h => h) el_true (fun w _ => el_quiet rfl w) trivial (y_no (wt rfl rfl rfl rfl rfl)) (by simp only [f0, f1, f2]; rfl) ?_
        refine e_take 13 [14, 15, 16, 17, 18, 19, 20, 21] [0, 1, 2, 3, 4, 5, 6, 7, 8, 9, 10, 11, 12] (undef) (fun _ => True) rfl (by kernel_rfl) (by kernel_rfl) (by kernel_rfl) (by kernel_rfl) (by kernel_rfl) (by kernel_rfl) (fun _ _ _ h => h) el_true (fun w _ => el_quiet rfl w) trivial (y_no (wt rfl rfl rfl rfl rfl)) (by simp only [f0, f1, f2]; rfl) ?_
        refine e_take 14 [19, 20, 21] [0, 1, 2, 3, 4, 5, 6, 7, 8, 9, 10, 11, 12, 13] (undef) (fun _ => True) rfl (by kernel_rfl) (by kernel_rfl) (by kernel_rfl) (by kernel_rfl) (by kernel_rfl) (by kernel_rfl) (fun _ _ _ h => h) el_true (fun w _ => el_quiet rfl w) trivial (y_no (wu rfl rfl rfl rfl)) (by simp only [f0, f1, f2]; rfl) ?_
        refine e_take 15 [17, 18, 19, 20, 21] [0, 1, 2, 3, 4, 5, 6, 7, 8, 9, 10, 11, 12, 13, 14] (undef) (fun _ => True) rfl (by kernel_rfl) (by kernel_rfl) (by kernel_rfl) (by kernel_rfl) (by kernel_rfl) (by kernel_rfl) (fun _ _ _ h => h) el_true (fun w _ => el_quiet rfl w) trivial (y_no (wu rfl rfl rfl rfl)) (by simp only [f0, f1, f2]; rfl) ?_
        refine e_take 16 [17, 18, 19, 20, 21] [0, 1, 2, 3, 4, 5, 6, 7, 8, 9, 10, 11, 12, 13, 14, 15] (undef) (fun _ => True) rfl (by kernel_rfl) (by kernel_rfl) (by kernel_rfl) (by kernel_rfl) (by kernel_rfl) (by kernel_rfl) (fun _ _ _ h => h) el_true (fun w _ => el_quiet rfl w) trivial (y_no (wu rfl rfl rfl rfl)) (by simp only [f0, f1, f2]; rfl) ?_
        refine e_take 17 [18, 19, 20, 21] [0, 1, 2, 3, 4, 5, 6, 7, 8, 9, 10, 11, 12, 13, 14, 15, 16] (undef) (fun _ => True) rfl (by kernel_rfl) (by kernel_rfl) (by kernel_rfl) (by kernel_rfl) (by kernel_rfl) (by kernel_rfl) (fun _ _ _ h => h) el_true (fun w _ => el_quiet rfl w) trivial (y_no (wu rfl rfl rfl rfl)) (by simp only [f0, f1, f2]; rfl) ?_
        refine e_take 18 [19, 20, 21] [0, 1, 2, 3, 4, 5, 6, 7, 8, 9, 10, 11, 12, 13, 14, 15, 16, 17] (undef) (fun _ => True) rfl (by kernel_rfl) (by kernel_rfl) (by kernel_rfl) (by kernel_rfl) (by kernel_rfl) (by kernel_rfl) (fun _ _ _ h => h) el_true (fun w _ => el_quiet rfl w) trivial (y_no (wu rfl rfl rfl rfl)) (by simp only [f0, f1, f2]; rfl) ?_
        refine e_take 19 [20, 21] [0, 1, 2, 3, 4, 5, 6, 7, 8, 9, 10, 11, 12, 13, 14, 15, 16, 17, 18] (undef) (fun _ => True) rfl (by kernel_rfl) (by kernel_rfl) (by kernel_rfl) (by kernel_rfl) (by kernel_rfl) (by kernel_rfl) (fun _ _ _ h => h) el_true (fun w _ => el_loud rfl (Same.refl _ w)) trivial (y_no (wu rfl rfl rfl rfl)) (by simp only [f0, f1, f2]; rfl) ?_
        refine e_take 20 [21] [0, 1, 2, 3, 4, 5, 6, 7, 8, 9, 10, 11, 12, 13, 14, 15, 16, 17, 18, 19] (undef) (fun _ => True) rfl (by kernel_rfl) (by kernel_rfl) (by kernel_rfl) (by kernel_rfl) (by kernel_rfl) (by kernel_rfl) (fun _ _ _ h => h) el_true (fun w _ => el_quiet rfl w) trivial (y_no (wt rfl rfl rfl rfl rfl)) (by simp only [f0, f1, f2]; rfl) ?_
        refine e_take 21 [] [0, 1, 2, 3, 4, 5, 6, 7, 8, 9, 10, 11, 12, 13, 14, 15, 16, 17, 18, 19, 20] (.bool true) (fun _ => True) rfl (by kernel_rfl) (by kernel_rfl) (by kernel_rfl) (by kernel_rfl) (by kernel_rfl) (by kernel_rfl) (fun _ _ _ h => h) el_true (fun w _ => el_quiet rfl w) trivial (y_val (wn rfl) (fun w' hw' => (r_pickT rfl rfl))) (by simp only [f0, f1, f2]; rfl) ?_
        refine e_done (by kernel_rfl) ?_
        exact then_normal ⟨_, (some_us rfl rfl rfl), hb25, hb26, hb27, h⟩
      · replace h := h.2 hg
        refine e_take 4 [8, 9, 10, 11, 12, 13, 14, 15, 16, 17, 18, 19, 20, 21] [0, 1, 2, 3] (.func (.func 17) #[] #[.pointer (some ⟨b, 0, none⟩)]) (fun w' => Blk w' b1 57 [.func (.func 17) #[] #[.pointer (some ⟨b, 0, none⟩)]]) rfl (by kernel_rfl) (by kernel_rfl) (by kernel_rfl) (by kernel_rfl) (by kernel_rfl) (by kernel_rfl) (fun _ _ _ h => h) (el_stable (b := b1) (List.forall_mem_cons.2 ⟨.inl (by simp), List.forall_mem_cons.2 ⟨.inl (by simp), List.forall_mem_nil _⟩⟩) keep_blk) (fun w _ => el_quiet rfl w) hb26 (y_val (wt rfl rfl rfl (congrArg Value.bool hg) rfl) (fun w' hw' => (r_load1 (Try.isAgg57 _) rfl (hw'.cell 0)))) (by simp only [f0, f1, f2]; rfl) ?_
        refine e_take 5 [7, 8, 9, 10, 11, 12, 13, 14, 15, 16, 17, 18, 19, 20, 21] [0, 1, 2, 3, 4] (.int .i64 prev) (fun _ => True) rfl (by kernel_rfl) (by kernel_rfl) (by kernel_rfl) (by kernel_rfl) (by kernel_rfl) (by kernel_rfl) (fun _ _ _ h => h) el_true (fun w _ => el_quiet rfl w) trivial (y_val (wt rfl rfl rfl (congrArg Value.bool hg) rfl) (fun w' hw' => rfl)) (by simp only [f0, f1, f2]; rfl) ?_
        refine e_take 6 [7, 8, 9, 10, 11, 12, 13, 14, 15, 16, 17, 18, 19, 20, 21] [0, 1, 2, 3, 4, 5] (.int .i64 term_) (fun _ => True) rfl (by kernel_rfl) (by kernel_rfl) (by kernel_rfl) (by kernel_rfl) (by kernel_rfl) (by kernel_rfl) (fun _ _ _ h => h) el_true (fun w _ => el_quiet rfl w) trivial (y_val (wt rfl rfl rfl (congrArg Value.bool hg) rfl) (fun w' hw' => rfl)) (by simp only [f0, f1, f2]; rfl) ?_
        refine e_take 7 [8, 9, 10, 11, 12, 13, 14, 15, 16, 17, 18, 19, 20, 21] [0, 1, 2, 3, 4, 5, 6] (.agg #[.int .i64 prev, .int .i64 term_, .int .i64 0, Sl.v Sl.nil]) (fun _ => True) rfl (by kernel_rfl) (by kernel_rfl) (by kernel_rfl) (by kernel_rfl) (by kernel_rfl) (by kernel_rfl) (fun _ _ _ h => h) el_true (fun w _ => el_quiet rfl w) trivial (y_val (wt rfl rfl rfl (congrArg Value.bool hg) rfl) (fun w' hw' => (r_build (ps' := [(0, .int .i64 prev), (1, .int .i64 term_)]) rfl (by kernel_rfl)))) (by simp only [f0, f1, f2]; rfl) ?_
        refine e_one 8 rfl (by kernel_rfl) (wt rfl rfl rfl (congrArg Value.bool hg) rfl) ?_
        refine o_enter (args := #[.agg #[.int .i64 prev, .int .i64 term_, .int .i64 0, Sl.v Sl.nil], .pointer (some ⟨b, 0, none⟩)]) (r_enterC (first := []) (captured := [.pointer (some ⟨b, 0, none⟩)]) rfl Try.call17 rfl) (h.mono ?_)
        clear h
        rintro _ w_12 ⟨x5, rfl, hs5, h⟩
        refine ⟨_, _, rfl, (by simp only [f0, f1, f2]; rfl), ?_⟩
        have hb28 := hs5.blk hb25 (by simp)
        have hb29 := hs5.blk hb26 (by simp)
        have hb30 := hs5.blk hb27 (by simp)
        refine ⟨el_loud rfl hs5, ?_⟩
        refine e_take 9 [10, 11, 12, 13, 14, 15, 16, 17, 18, 19, 20, 21] [0, 1, 2, 3, 4, 5, 6, 7, 8] (.bool x5) (fun _ => True) rfl (by kernel_rfl) (by kernel_rfl) (by kernel_rfl) (by kernel_rfl) (by kernel_rfl) (by kernel_rfl) (fun _ _ _ h => h) el_true (fun w _ => el_quiet rfl w) trivial (y_val (wn rfl) (fun w' hw' => (r_pickF (congrArg Value.bool hg) rfl))) (by simp only [f0, f1, f2]; rfl) ?_
        refine e_take 10 [11, 12, 13, 14, 15, 16, 17, 18, 19, 20, 21] [0, 1, 2, 3, 4, 5, 6, 7, 8, 9] (.bool x5) (fun _ => True) rfl (by kernel_rfl) (by kernel_rfl) (by kernel_rfl) (by kernel_rfl) (by kernel_rfl) (by kernel_rfl) (fun _ _ _ h => h) el_true (fun w _ => el_quiet rfl w) trivial (y_val (wn rfl) (fun w' hw' => rfl)) (by simp only [f0, f1, f2]; rfl) ?_
        rcases Bool.eq_false_or_eq_true x5 with hg1 | hg1
        · replace h := h.1 hg1
          refine e_take 11 [12, 13, 14, 15, 16, 17, 18, 19, 20, 21] [0, 1, 2, 3, 4, 5, 6, 7, 8, 9, 10] (undef) (fun _ => True) rfl (by kernel_rfl) (by kernel_rfl) (by kernel_rfl) (by kernel_rfl) (by kernel_rfl) (by kernel_rfl) (fun _ _ _ h => h) el_true (fun w _ => el_quiet rfl w) trivial (y_no (wt rfl rfl rfl (congrArg Value.bool hg1) rfl)) (by simp only [f0, f1, f2]; rfl) ?_
          refine e_take 12 [13, 14, 15, 16, 17, 18, 19, 20, 21] [0, 1, 2, 3, 4, 5, 6, 7, 8, 9, 10, 11] (undef) (fun _ => True) rfl (by kernel_rfl) (by kernel_rfl) (by kernel_rfl) (by kernel_rfl) (by kernel_rfl) (by kernel_rfl) (fun _ _ _ h => h) el_true (fun w _ => el_quiet rfl w) trivial (y_no (wt rfl rfl rfl (congrArg Value.bool hg1) rfl)) (by simp only [f0, f1, f2]; rfl) ?_
          refine e_take 13 [14, 15, 16, 17, 18, 19, 20, 21] [0, 1, 2, 3, 4, 5, 6, 7, 8, 9, 10, 11, 12] (undef) (fun _ => True) rfl (by kernel_rfl) (by kernel_rfl) (by kernel_rfl) (by kernel_rfl) (by kernel_rfl) (by kernel_rfl) (fun _ _ _ h => h) el_true (fun w _ => el_quiet rfl w) trivial (y_no (wt rfl rfl rfl (congrArg Value.bool hg1) rfl)) (by simp only [f0, f1, f2]; rfl) ?_
          refine e_take 14 [19, 20, 21] [0, 1, 2, 3, 4, 5, 6, 7, 8, 9, 10, 11, 12, 13] (undef) (fun _ => True) rfl (by kernel_rfl) (by kernel_rfl) (by kernel_rfl) (by kernel_rfl) (by kernel_rfl) (by kernel_rfl) (fun _ _ _ h => h) el_true (fun w _ => el_quiet rfl w) trivial (y_no (wu rfl rfl rfl rfl)) (by simp only [f0, f1, f2]; rfl) ?_
          refine e_take 15 [17, 18, 19, 20, 21] [0, 1, 2, 3, 4, 5, 6, 7, 8, 9, 10, 11, 12, 13, 14] (undef) (fun _ => True) rfl (by kernel_rfl) (by kernel_rfl) (by kernel_rfl) (by kernel_rfl) (by kernel_rfl) (by kernel_rfl) (fun _ _ _ h => h) el_true (fun w _ => el_quiet rfl w) trivial (y_no (wu rfl rfl rfl rfl)) (by simp only [f0, f1, f2]; rfl) ?_
          refine e_take 16 [17, 18, 19, 20, 21] [0, 1, 2, 3, 4, 5, 6, 7, 8, 9, 10, 11, 12, 13, 14, 15] (undef) (fun _ => True) rfl (by kernel_rfl) (by kernel_rfl) (by kernel_rfl) (by kernel_rfl) (by kernel_rfl) (by kernel_rfl) (fun _ _ _ h => h) el_true (fun w _ => el_quiet rfl w) trivial (y_no (wu rfl rfl rfl rfl)) (by simp only [f0, f1, f2]; rfl) ?_
          refine e_take 17 [18, 19, 20, 21] [0, 1, 2, 3, 4, 5, 6, 7, 8, 9, 10, 11, 12, 13, 14, 15, 16] (undef) (fun _ => True) rfl (by kernel_rfl) (by kernel_rfl) (by kernel_rfl) (by kernel_rfl) (by kernel_rfl) (by kernel_rfl) (fun _ _ _ h => h) el_true (fun w _ => el_quiet rfl w) trivial (y_no (wu rfl rfl rfl rfl)) (by simp only [f0, f1, f2]; rfl) ?_
          refine e_take 18 [19, 20, 21] [0, 1, 2, 3, 4, 5, 6, 7, 8, 9, 10, 11, 12, 13, 14, 15, 16, 17] (undef) (fun _ => True) rfl (by kernel_rfl) (by kernel_rfl) (by kernel_rfl) (by kernel_rfl) (by kernel_rfl) (by kernel_rfl) (fun _ _ _ h => h) el_true (fun w _ => el_quiet rfl w) trivial (y_no (wu rfl rfl rfl rfl)) (by simp only [f0, f1, f2]; rfl) ?_
          refine e_take 19 [20, 21] [0, 1, 2, 3, 4, 5, 6, 7, 8, 9, 10, 11, 12, 13, 14, 15, 16, 17, 18] (undef) (fun _ => True) rfl (by kernel_rfl) (by kernel_rfl) (by kernel_rfl) (by kernel_rfl) (by kernel_rfl) (by kernel_rfl) (fun _ _ _ h => h) el_true (fun w _ => el_loud rfl (Same.refl _ w)) trivial (y_no (wu rfl rfl rfl rfl)) (by simp only [f0, f1, f2]; rfl) ?_
          refine e_take 20 [21] [0, 1, 2, 3, 4, 5, 6, 7, 8, 9, 10, 11, 12, 13, 14, 15, 16, 17, 18, 19] (undef) (fun _ => True) rfl (by kernel_rfl) (by kernel_rfl) (by kernel_rfl) (by kernel_rfl) (by kernel_rfl) (by kernel_rfl) (fun _ _ _ h => h) el_true (fun w _ => el_quiet rfl w) trivial (y_no (wt rfl rfl rfl (congrArg Value.bool hg1) rfl)) (by simp only [f0, f1, f2]; rfl) ?_
          refine e_take 21 [] [0, 1, 2, 3, 4, 5, 6, 7, 8, 9, 10, 11, 12, 13, 14, 15, 16, 17, 18, 19, 20] (.bool true) (fun _ => True) rfl (by kernel_rfl) (by kernel_rfl) (by kernel_rfl) (by kernel_rfl) (by kernel_rfl) (by kernel_rfl) (fun _ _ _ h => h) el_true (fun w _ => el_quiet rfl w) trivial (y_val (wn rfl) (fun w' hw' => (r_pickT (congrArg Value.bool hg1) rfl))) (by simp only [f0, f1, f2]; rfl) ?_
          refine e_done (by kernel_rfl) ?_
          exact then_normal ⟨_, (some_us rfl rfl rfl), hb28, hb29, hb30, h⟩
        · replace h := h.2 hg1
          refine e_take 11 [12, 13, 14, 15, 16, 17, 18, 19, 20, 21] [0, 1, 2, 3, 4, 5, 6, 7, 8, 9, 10] (.int .i64 x2) (fun _ => True) rfl (by kernel_rfl) (by kernel_rfl) (by kernel_rfl) (by kernel_rfl) (by kernel_rfl) (by kernel_rfl) (fun _ _ _ h => h) el_true (fun w _ => el_quiet rfl w) trivial (y_val (wt rfl rfl rfl (congrArg Value.bool hg1) rfl) (fun w' hw' => rfl)) (by simp only [f0, f1, f2]; rfl) ?_
          refine e_take 12 [13, 14, 15, 16, 17, 18, 19, 20, 21] [0, 1, 2, 3, 4, 5, 6, 7, 8, 9, 10, 11] (.bool (decide (x2 ≥ 0))) (fun _ => True) rfl (by kernel_rfl) (by kernel_rfl) (by kernel_rfl) (by kernel_rfl) (by kernel_rfl) (by kernel_rfl) (fun _ _ _ h => h) el_true (fun w _ => el_quiet rfl w) trivial (y_val (wt rfl rfl rfl (congrArg Value.bool hg1) rfl) (fun w' hw' => rfl)) (by simp only [f0, f1, f2]; rfl) ?_
          refine e_take 13 [14, 15, 16, 17, 18, 19, 20, 21] [0, 1, 2, 3, 4, 5, 6, 7, 8, 9, 10, 11, 12] (.bool (decide (x2 ≥ 0))) (fun _ => True) rfl (by kernel_rfl) (by kernel_rfl) (by kernel_rfl) (by kernel_rfl) (by kernel_rfl) (by kernel_rfl) (fun _ _ _ h => h) el_true (fun w _ => el_quiet rfl w) trivial (y_val (wt rfl rfl rfl (congrArg Value.bool hg1) rfl) (fun w' hw' => rfl)) (by simp only [f0, f1, f2]; rfl) ?_
          rcases Bool.eq_false_or_eq_true (decide (x2 ≥ 0)) with hg2 | hg2
          · replace h := h.1 hg2
            refine e_take 14 [19, 20, 21] [0, 1, 2, 3, 4, 5, 6, 7, 8, 9, 10, 11, 12, 13] (.func (.func 17) #[] #[.pointer (some ⟨b, 0, none⟩)]) (fun w' => Blk w' b1 57 [.func (.func 17) #[] #[.pointer (some ⟨b, 0, none⟩)]]) rfl (by kernel_rfl) (by kernel_rfl) (by kernel_rfl) (by kernel_rfl) (by kernel_rfl) (by kernel_rfl) (fun _ _ _ h => h) (el_stable (b := b1) (List.forall_mem_cons.2 ⟨.inr (.inl (by simp)), List.forall_mem_cons.2 ⟨.inl (by simp), List.forall_mem_nil _⟩⟩) keep_blk) (fun w _ => el_quiet rfl w) hb29 (y_val (wt rfl rfl rfl (congrArg Value.bool hg2) rfl) (fun w' hw' => (r_load1 (Try.isAgg57 _) rfl (hw'.cell 0)))) (by simp only [f0, f1, f2]; rfl) ?_
            refine e_take 15 [17, 18, 19, 20, 21] [0, 1, 2, 3, 4, 5, 6, 7, 8, 9, 10, 11, 12, 13, 14] (Sl.v row) (fun _ => True) rfl (by kernel_rfl) (by kernel_rfl) (by kernel_rfl) (by kernel_rfl) (by kernel_rfl) (by kernel_rfl) (fun _ _ _ h => h) el_true (fun w _ => el_quiet rfl w) trivial (y_val (wt rfl rfl rfl (congrArg Value.bool hg2) rfl) (fun w' hw' => rfl)) (by simp only [f0, f1, f2]; rfl) ?_
            refine e_take 16 [17, 18, 19, 20, 21] [0, 1, 2, 3, 4, 5, 6, 7, 8, 9, 10, 11, 12, 13, 14, 15] (.int .i64 x2) (fun _ => True) rfl (by kernel_rfl) (by kernel_rfl) (by kernel_rfl) (by kernel_rfl) (by kernel_rfl) (by kernel_rfl) (fun _ _ _ h => h) el_true (fun w _ => el_quiet rfl w) trivial (y_val (wt rfl rfl rfl (congrArg Value.bool hg2) rfl) (fun w' hw' => rfl)) (by simp only [f0, f1, f2]; rfl) ?_
            obtain ⟨ad, hx1, h⟩ := h
            refine e_take 17 [18, 19, 20, 21] [0, 1, 2, 3, 4, 5, 6, 7, 8, 9, 10, 11, 12, 13, 14, 15, 16] (.pointer (some ad)) (fun _ => True) rfl (by kernel_rfl) (by kernel_rfl) (by kernel_rfl) (by kernel_rfl) (by kernel_rfl) (by kernel_rfl) (fun _ _ _ h => h) el_true (fun w _ => el_quiet rfl w) trivial (y_val (wt rfl rfl rfl (congrArg Value.bool hg2) rfl) (fun w' hw' => (r_indexS (s := row) (Try.runUnderlying22 _) (Try.sizeOf34 _) rfl rfl hx1))) (by simp only [f0, f1, f2]; rfl) ?_
            obtain ⟨x01, x12, x21, x31, hx2, h⟩ := h
            refine e_take 18 [19, 20, 21] [0, 1, 2, 3, 4, 5, 6, 7, 8, 9, 10, 11, 12, 13, 14, 15, 16, 17] (.agg #[.int .i64 x01, .int .i64 x12, .int .i64 x21, Sl.v x31]) (fun w' => Cells w' ad [.int .i64 x01, .int .i64 x12, .int .i64 x21, Sl.v x31]) rfl (by kernel_rfl) (by kernel_rfl) (by kernel_rfl) (by kernel_rfl) (by kernel_rfl) (by kernel_rfl) (fun _ _ _ h => h) (el_stable (b := (ad).block) (List.forall_mem_cons.2 ⟨.inr (.inl (by simp)), List.forall_mem_cons.2 ⟨.inl (by simp), List.forall_mem_nil _⟩⟩) keep_cells) (fun w _ => el_quiet rfl w) hx2 (y_val (wt rfl rfl rfl (congrArg Value.bool hg2) rfl) (fun w' hw' => (r_loadN (Try.isAgg34 _) (Try.sizeOf34 _) rfl rfl hw'))) (by simp only [f0, f1, f2]; rfl) ?_
            refine e_one 19 rfl (by kernel_rfl) (wt rfl rfl rfl (congrArg Value.bool hg2) rfl) ?_
            refine o_enter (args := #[.agg #[.int .i64 x01, .int .i64 x12, .int .i64 x21, Sl.v x31], .pointer (some ⟨b, 0, none⟩)]) (r_enterC (first := []) (captured := [.pointer (some ⟨b, 0, none⟩)]) rfl Try.call17 rfl) (h.mono ?_)
            clear h
            rintro _ w_13 ⟨x6, rfl, hs6, h⟩
            refine ⟨_, _, rfl, (by simp only [f0, f1, f2]; rfl), ?_⟩
            have hb31 := hs6.blk hb28 (by simp)
            have hb32 := hs6.blk hb29 (by simp)
            have hb33 := hs6.blk hb30 (by simp)
            refine ⟨el_loud rfl hs6, ?_⟩
            refine e_take 20 [21] [0, 1, 2, 3, 4, 5, 6, 7, 8, 9, 10, 11, 12, 13, 14, 15, 16, 17, 18, 19] (.bool x6) (fun _ => True) rfl (by kernel_rfl) (by kernel_rfl) (by kernel_rfl) (by kernel_rfl) (by kernel_rfl) (by kernel_rfl) (fun _ _ _ h => h) el_true (fun w _ => el_quiet rfl w) trivial (y_val (wt rfl rfl rfl (congrArg Value.bool hg1) rfl) (fun w' hw' => (r_pickT (congrArg Value.bool hg2) rfl))) (by simp only [f0, f1, f2]; rfl) ?_
            refine e_take 21 [] [0, 1, 2, 3, 4, 5, 6, 7, 8, 9, 10, 11, 12, 13, 14, 15, 16, 17, 18, 19, 20] (.bool x6) (fun _ => True) rfl (by kernel_rfl) (by kernel_rfl) (by kernel_rfl) (by kernel_rfl) (by kernel_rfl) (by kernel_rfl) (fun _ _ _ h => h) el_true (fun w _ => el_quiet rfl w) trivial (y_val (wn rfl) (fun w' hw' => (r_pickF (congrArg Value.bool hg1) rfl))) (by simp only [f0, f1, f2]; rfl) ?_
            refine e_done (by kernel_rfl) ?_
            exact then_normal ⟨_, (some_us rfl rfl rfl), hb31, hb32, hb33, h⟩
          · replace h := h.2 hg2
            refine e_take 14 [19, 20, 21] [0, 1, 2, 3, 4, 5, 6, 7, 8, 9, 10, 11, 12, 13] (undef) (fun _ => True) rfl (by kernel_rfl) (by kernel_rfl) (by kernel_rfl) (by kernel_rfl) (by kernel_rfl) (by kernel_rfl) (fun _ _ _ h => h) el_true (fun w _ => el_quiet rfl w) trivial (y_no (wt rfl rfl rfl (congrArg Value.bool hg2) rfl)) (by simp only [f0, f1, f2]; rfl) ?_
            refine e_take 15 [17, 18, 19, 20, 21] [0, 1, 2, 3, 4, 5, 6, 7, 8, 9, 10, 11, 12, 13, 14] (undef) (fun _ => True) rfl (by kernel_rfl) (by kernel_rfl) (by kernel_rfl) (by kernel_rfl) (by kernel_rfl) (by kernel_rfl) (fun _ _ _ h => h) el_true (fun w _ => el_quiet rfl w) trivial (y_no (wt rfl rfl rfl (congrArg Value.bool hg2) rfl)) (by simp only [f0, f1, f2]; rfl) ?_
            refine e_take 16 [17, 18, 19, 20, 21] [0, 1, 2, 3, 4, 5, 6, 7, 8, 9, 10, 11, 12, 13, 14, 15] (undef) (fun _ => True) rfl (by kernel_rfl) (by kernel_rfl) (by kernel_rfl) (by kernel_rfl) (by kernel_rfl) (by kernel_rfl) (fun _ _ _ h => h) el_true (fun w _ => el_quiet rfl w) trivial (y_no (wt rfl rfl rfl (congrArg Value.bool hg2) rfl)) (by simp only [f0, f1, f2]; rfl) ?_
            refine e_take 17 [18, 19, 20, 21] [0, 1, 2, 3, 4, 5, 6, 7, 8, 9, 10, 11, 12, 13, 14, 15, 16] (undef) (fun _ => True) rfl (by kernel_rfl) (by kernel_rfl) (by kernel_rfl) (by kernel_rfl) (by kernel_rfl) (by kernel_rfl) (fun _ _ _ h => h) el_true (fun w _ => el_quiet rfl w) trivial (y_no (wt rfl rfl rfl (congrArg Value.bool hg2) rfl)) (by simp only [f0, f1, f2]; rfl) ?_
            refine e_take 18 [19, 20, 21] [0, 1, 2, 3, 4, 5, 6, 7, 8, 9, 10, 11, 12, 13, 14, 15, 16, 17] (undef) (fun _ => True) rfl (by kernel_rfl) (by kernel_rfl) (by kernel_rfl) (by kernel_rfl) (by kernel_rfl) (by kernel_rfl) (fun _ _ _ h => h) el_true (fun w _ => el_quiet rfl w) trivial (y_no (wt rfl rfl rfl (congrArg Value.bool hg2) rfl)) (by simp only [f0, f1, f2]; rfl) ?_
            refine e_take 19 [20, 21] [0, 1, 2, 3, 4, 5, 6, 7, 8, 9, 10, 11, 12, 13, 14, 15, 16, 17, 18] (undef) (fun _ => True) rfl (by kernel_rfl) (by kernel_rfl) (by kernel_rfl) (by kernel_rfl) (by kernel_rfl) (by kernel_rfl) (fun _ _ _ h => h) el_true (fun w _ => el_loud rfl (Same.refl _ w)) trivial (y_no (wt rfl rfl rfl (congrArg Value.bool hg2) rfl)) (by simp only [f0, f1, f2]; rfl) ?_
            refine e_take 20 [21] [0, 1, 2, 3, 4, 5, 6, 7, 8, 9, 10, 11, 12, 13, 14, 15, 16, 17, 18, 19] (.bool false) (fun _ => True) rfl (by kernel_rfl) (by kernel_rfl) (by kernel_rfl) (by kernel_rfl) (by kernel_rfl) (by kernel_rfl) (fun _ _ _ h => h) el_true (fun w _ => el_quiet rfl w) trivial (y_val (wt rfl rfl rfl (congrArg Value.bool hg1) rfl) (fun w' hw' => (r_pickF (congrArg Value.bool hg2) rfl))) (by simp only [f0, f1, f2]; rfl) ?_
            refine e_take 21 [] [0, 1, 2, 3, 4, 5, 6, 7, 8, 9, 10, 11, 12, 13, 14, 15, 16, 17, 18, 19, 20] (.bool false) (fun _ => True) rfl (by kernel_rfl) (by kernel_rfl) (by kernel_rfl) (by kernel_rfl) (by kernel_rfl) (by kernel_rfl) (fun _ _ _ h => h) el_true (fun w _ => el_quiet rfl w) trivial (y_val (wn rfl) (fun w' hw' => (r_pickF (congrArg Value.bool hg1) rfl))) (by simp only [f0, f1, f2]; rfl) ?_
            refine e_done (by kernel_rfl) ?_
            exact then_normal ⟨_, (some_us rfl rfl rfl), hb28, hb29, hb30, h⟩

/-- what is to be shown of a call of (ledger.point).fits -/
def ledger_point_fits_vc (p0 : Int) (p1 : Int) (l : Sl) (R : Value → World → Prop) (w : World) : Prop :=
  ∀ (b : Nat) (w_ : World), w.heap.size ≤ b → b < w_.heap.size → Only [] w w_ →
  ∃ (I_ : Nat → Bool → Int → Int → Int → World → Prop) (nv1 : Nat), I_ nv1 ((((decide (p0 ≥ 0)) && (decide (p0 ≤ 1099511627776))) && (decide (p1 ≥ 0))) && (decide (p1 ≤ 1099511627776))) 0 p0 p1 w_ ∧
  ∀ (nv : Nat) (ok : Bool) (t28 : Int) (vb : Int) (vb1 : Int) (w_1 : World), I_ nv ok t28 vb vb1 w_1 →
  (((decide (t28 < (↑(Sl.n l) : Int))) = true →
  ∃ ad : Addr, SlAt l t28 4 ad ∧
  ∃ x0 : Int, ∃ x1 : Int, ∃ x2 : Int, ∃ x3 : Sl, Cells w_1 ad [.int .i64 x0, .int .i64 x1, .int .i64 x2, Sl.v x3] ∧
  ∀ (b1 : Nat) (w_4 : World), w_1.heap.size ≤ b1 → b1 < w_4.heap.size → Only [b] w_1 w_4 →
  ∃ nv2 : Nat, nv2 < nv ∧ I_ nv2 (((((ok && (decide (x0 ≤ 1099511627776))) && ((IntKind.i64.wrap (x0 - 1)) == vb)) && (decide (x1 ≥ vb1))) && (decide (x1 ≤ 1099511627776))) && (decide (x2 ≥ 0))) (IntKind.i64.wrap (t28 + 1)) x0 x1 w_4) ∧
  ((decide (t28 < (↑(Sl.n l) : Int))) = false →
  R (.bool ok) w_1))
theorem ledger_point_fits_wp (p0 : Int) (p1 : Int) (l : Sl) (R : Value → World → Prop) (w : World) (h : ledger_point_fits_vc p0 p1 l R w) :
    Calls Try.prog 15 #[.agg #[.int .i64 p0, .int .i64 p1], Sl.v l] w fun e w' => ∃ v, e = .returned v ∧ R v w' := by
  unfold ledger_point_fits_vc at h
  refine calls_of (k := 68) Try.func15 rfl Try.ntmps15 rfl rfl ?_
  simp only [List.replicate, List.cons_append, List.nil_append]
  refine wp_seq ?_
  refine wp_region_lit ?_
  refine st_one (wn rfl) ?_
  refine o_boxB (zs := [.int .i64 p0, .int .i64 p1]) rfl (fun b => by simp only [f0, f1, f2]; rfl) (fun b w_ hn hO hb => ?_)
  have hn_b : w.heap.size ≤ b := hn
  have hA : Only [] w w_ := hO
  refine st_val (.bool false) (wn rfl) rfl (by simp only [f0, f1, f2]; rfl) ?_
  refine wpList_nil ?_
  refine then_normal ?_
  refine wp_seq ?_
  refine wp_region_lit ?_
  refine st_val (.pointer (some ⟨b, 0, none⟩)) (wn rfl) (r_field (Try.runUnderlying50 _) rfl (Try.sizeOf3 _) rfl rfl) (by simp only [f0, f1, f2]; rfl) ?_
  refine st_val (.int .i64 p0) (wn rfl) (r_load1 (Try.isAgg3 _) rfl (hb.cell 0)) (by simp only [f0, f1, f2]; rfl) ?_
  refine st_val (.bool (decide (p0 ≥ 0))) (wn rfl) rfl (by simp only [f0, f1, f2]; rfl) ?_
  refine st_val (.bool (decide (p0 ≥ 0))) (wn rfl) rfl (by simp only [f0, f1, f2]; rfl) ?_
  refine st_cut 4 (fun a' w' => (∃ us : Nat → Value, a' = (⟨(fillin us 0 (some (.agg #[.int .i64 p0, .int .i64 p1]) :: some (Sl.v l) :: some (.pointer (some ⟨b, 0, none⟩)) :: some undef :: some (.bool false) :: some undef :: some undef :: some undef :: some (.pointer (some ⟨b, 0, none⟩)) :: some (.int .i64 p0) :: some (.bool (decide (p0 ≥ 0))) :: some (.bool (decide (p0 ≥ 0))) :: none :: none :: none :: some (.bool ((decide (p0 ≥ 0)) && (decide (p0 ≤ 1099511627776)))) :: some undef :: some undef :: some undef :: some undef :: some undef :: some undef :: some undef :: some undef :: some undef :: some undef :: some undef :: some undef :: some undef :: some undef :: some undef :: some undef :: some undef :: some undef :: some undef :: some undef :: some undef :: some undef :: some undef :: some undef :: some undef :: some undef :: some undef :: some undef :: some undef :: some undef :: some undef :: some undef :: some undef :: some undef :: some undef :: some undef :: some undef :: some undef :: some undef :: some undef :: some undef :: some undef :: some undef :: some undef :: some undef :: some undef :: some undef :: some undef :: some undef :: some undef :: some undef :: some undef :: some undef :: some undef :: [])).toArray, []⟩ : Act)) ∧ w_ = w') ?_ ?_
  · simp only [List.take_succ_cons, List.take_zero]
    rcases Bool.eq_false_or_eq_true (decide (p0 ≥ 0)) with hg | hg
    · refine st_val (.pointer (some ⟨b, 0, none⟩)) (wt rfl rfl rfl (congrArg Value.bool hg) rfl) (r_field (Try.runUnderlying50 _) rfl (Try.sizeOf3 _) rfl rfl) (by simp only [f0, f1, f2]; rfl) ?_
      refine st_val (.int .i64 p0) (wt rfl rfl rfl (congrArg Value.bool hg) rfl) (r_load1 (Try.isAgg3 _) rfl (hb.cell 0)) (by simp only [f0, f1, f2]; rfl) ?_
      refine st_val (.bool (decide (p0 ≤ 1099511627776))) (wt rfl rfl rfl (congrArg Value.bool hg) rfl) rfl (by simp only [f0, f1, f2]; rfl) ?_
      refine st_val (.bool (decide (p0 ≤ 1099511627776))) (wn rfl) (r_pickT (congrArg Value.bool hg) rfl) (by simp only [f0, f1, f2]; rfl) ?_
      refine wpList_nil ?_
      exact then_normal ⟨some_us (by simp only [masked, hg, Bool.true_and, Bool.false_and, Bool.true_or, Bool.false_or, cond_true, cond_false]) rfl rfl, rfl⟩
    · refine st_no (wt rfl rfl rfl (congrArg Value.bool hg) rfl) (by simp only [f0, f1, f2]; rfl) ?_
      refine st_no (wt rfl rfl rfl (congrArg Value.bool hg) rfl) (by simp only [f0, f1, f2]; rfl) ?_
      refine st_no (wt rfl rfl rfl (congrArg Value.bool hg) rfl) (by simp only [f0, f1, f2]; rfl) ?_
      refine st_val (.bool false) (wn rfl) (r_pickF (congrArg Value.bool hg) rfl) (by simp only [f0, f1, f2]; rfl) ?_
      refine wpList_nil ?_
      exact then_normal ⟨some_us (by simp only [masked, hg, Bool.true_and, Bool.false_and, Bool.true_or, Bool.false_or, cond_true, cond_false]) rfl rfl, rfl⟩
  rintro a0 _ ⟨⟨us, hF⟩, rfl⟩
  simp only [fillin, Nat.reduceAdd] at hF
  subst hF
  simp only [List.drop_succ_cons, List.drop_zero]
  refine st_val (.bool ((decide (p0 ≥ 0)) && (decide (p0 ≤ 1099511627776)))) (wn rfl) rfl (by simp only [f0, f1, f2]; rfl) ?_
  refine st_cut 4 (fun a' w' => (∃ us1 : Nat → Value, a' = (⟨(fillin us1 0 (some (.agg #[.int .i64 p0, .int .i64 p1]) :: some (Sl.v l) :: some (.pointer (some ⟨b, 0, none⟩)) :: some undef :: some (.bool false) :: some undef :: some undef :: some undef :: some (.pointer (some ⟨b, 0, none⟩)) :: some (.int .i64 p0) :: some (.bool (decide (p0 ≥ 0))) :: some (.bool (decide (p0 ≥ 0))) :: some ((us 12)) :: some ((us 13)) :: some ((us 14)) :: some (.bool ((decide (p0 ≥ 0)) && (decide (p0 ≤ 1099511627776)))) :: some (.bool ((decide (p0 ≥ 0)) && (decide (p0 ≤ 1099511627776)))) :: none :: none :: none :: some (.bool (((decide (p0 ≥ 0)) && (decide (p0 ≤ 1099511627776))) && (decide (p1 ≥ 0)))) :: some undef :: some undef :: some undef :: some undef :: some undef :: some undef :: some undef :: some undef :: some undef :: some undef :: some undef :: some undef :: some undef :: some undef :: some undef :: some undef :: some undef :: some undef :: some undef :: some undef :: some undef :: some undef :: some undef :: some undef :: some undef :: some undef :: some undef :: some undef :: some undef :: some undef :: some undef :: some undef :: some undef :: some undef :: some undef :: some undef :: some undef :: some undef :: some undef :: some undef :: some undef :: some undef :: some undef :: some undef :: some undef :: some undef :: some undef :: some undef :: some undef :: [])).toArray, []⟩ : Act)) ∧ w_ = w') ?_ ?_
  · simp only [List.take_succ_cons, List.take_zero]
    rcases Bool.eq_false_or_eq_true ((decide (p0 ≥ 0)) && (decide (p0 ≤ 1099511627776))) with hg1 | hg1
    · refine st_val (.pointer (some ⟨b, 1, none⟩)) (wt rfl rfl rfl (congrArg Value.bool hg1) rfl) (r_field (Try.runUnderlying50 _) rfl (Try.sizeOf3 _) rfl rfl) (by simp only [f0, f1, f2]; rfl) ?_
      refine st_val (.int .i64 p1) (wt rfl rfl rfl (congrArg Value.bool hg1) rfl) (r_load1 (Try.isAgg3 _) rfl (hb.cell 1)) (by simp only [f0, f1, f2]; rfl) ?_
      refine st_val (.bool (decide (p1 ≥ 0))) (wt rfl rfl rfl (congrArg Value.bool hg1) rfl) rfl (by simp only [f0, f1, f2]; rfl) ?_
      refine st_val (.bool (decide (p1 ≥ 0))) (wn rfl) (r_pickT (congrArg Value.bool hg1) rfl) (by simp only [f0, f1, f2]; rfl) ?_
      refine wpList_nil ?_
      exact then_normal ⟨some_us (by simp only [masked, hg1, Bool.true_and, Bool.false_and, Bool.true_or, Bool.false_or, cond_true, cond_false]) rfl rfl, rfl⟩
    · refine st_no (wt rfl rfl rfl (congrArg Value.bool hg1) rfl) (by simp only [f0, f1, f2]; rfl) ?_
      refine st_no (wt rfl rfl rfl (congrArg Value.bool hg1) rfl) (by simp only [f0, f1, f2]; rfl) ?_
      refine st_no (wt rfl rfl rfl (congrArg Value.bool hg1) rfl) (by simp only [f0, f1, f2]; rfl) ?_
      refine st_val (.bool false) (wn rfl) (r_pickF (congrArg Value.bool hg1) rfl) (by simp only [f0, f1, f2]; rfl) ?_
      refine wpList_nil ?_
      exact then_normal ⟨some_us (by simp only [masked, hg1, Bool.true_and, Bool.false_and, Bool.true_or, Bool.false_or, cond_true, cond_false]) rfl rfl, rfl⟩
  rintro a0 _ ⟨⟨us1, hF⟩, rfl⟩
  simp only [fillin, Nat.reduceAdd] at hF
  subst hF
  simp only [List.drop_succ_cons, List.drop_zero]
  refine st_val (.bool (((decide (p0 ≥ 0)) && (decide (p0 ≤ 1099511627776))) && (decide (p1 ≥ 0)))) (wn rfl) rfl (by simp only [f0, f1, f2]; rfl) ?_
  refine st_cut 4 (fun a' w' => (∃ us2 : Nat → Value, a' = (⟨(fillin us2 0 (some (.agg #[.int .i64 p0, .int .i64 p1]) :: some (Sl.v l) :: some (.pointer (some ⟨b, 0, none⟩)) :: some undef :: some (.bool false) :: some undef :: some undef :: some undef :: some (.pointer (some ⟨b, 0, none⟩)) :: some (.int .i64 p0) :: some (.bool (decide (p0 ≥ 0))) :: some (.bool (decide (p0 ≥ 0))) :: some ((us 12)) :: some ((us 13)) :: some ((us 14)) :: some (.bool ((decide (p0 ≥ 0)) && (decide (p0 ≤ 1099511627776)))) :: some (.bool ((decide (p0 ≥ 0)) && (decide (p0 ≤ 1099511627776)))) :: some ((us1 17)) :: some ((us1 18)) :: some ((us1 19)) :: some (.bool (((decide (p0 ≥ 0)) && (decide (p0 ≤ 1099511627776))) && (decide (p1 ≥ 0)))) :: some (.bool (((decide (p0 ≥ 0)) && (decide (p0 ≤ 1099511627776))) && (decide (p1 ≥ 0)))) :: none :: none :: none :: some (.bool ((((decide (p0 ≥ 0)) && (decide (p0 ≤ 1099511627776))) && (decide (p1 ≥ 0))) && (decide (p1 ≤ 1099511627776)))) :: some undef :: some undef :: some undef :: some undef :: some undef :: some undef :: some undef :: some undef :: some undef :: some undef :: some undef :: some undef :: some undef :: some undef :: some undef :: some undef :: some undef :: some undef :: some undef :: some undef :: some undef :: some undef :: some undef :: some undef :: some undef :: some undef :: some undef :: some undef :: some undef :: some undef :: some undef :: some undef :: some undef :: some undef :: some undef :: some undef :: some undef :: some undef :: some undef :: some undef :: some undef :: some undef :: some undef :: some undef :: [])).toArray, []⟩ : Act)) ∧ w_ = w') ?_ ?_
  · simp only [List.take_succ_cons, List.take_zero]
    rcases Bool.eq_false_or_eq_true (((decide (p0 ≥ 0)) && (decide (p0 ≤ 1099511627776))) && (decide (p1 ≥ 0))) with hg2 | hg2
    · refine st_val (.pointer (some ⟨b, 1, none⟩)) (wt rfl rfl rfl (congrArg Value.bool hg2) rfl) (r_field (Try.runUnderlying50 _) rfl (Try.sizeOf3 _) rfl rfl) (by simp only [f0, f1, f2]; rfl) ?_
      refine st_val (.int .i64 p1) (wt rfl rfl rfl (congrArg Value.bool hg2) rfl) (r_load1 (Try.isAgg3 _) rfl (hb.cell 1)) (by simp only [f0, f1, f2]; rfl) ?_
      refine st_val (.bool (decide (p1 ≤ 1099511627776))) (wt rfl rfl rfl (congrArg Value.bool hg2) rfl) rfl (by simp only [f0, f1, f2]; rfl) ?_
      refine st_val (.bool (decide (p1 ≤ 1099511627776))) (wn rfl) (r_pickT (congrArg Value.bool hg2) rfl) (by simp only [f0, f1, f2]; rfl) ?_
      refine wpList_nil ?_
      exact then_normal ⟨some_us (by simp only [masked, hg2, Bool.true_and, Bool.false_and, Bool.true_or, Bool.false_or, cond_true, cond_false]) rfl rfl, rfl⟩
    · refine st_no (wt rfl rfl rfl (congrArg Value.bool hg2) rfl) (by simp only [f0, f1, f2]; rfl) ?_
      refine st_no (wt rfl rfl rfl (congrArg Value.bool hg2) rfl) (by simp only [f0, f1, f2]; rfl) ?_
      refine st_no (wt rfl rfl rfl (congrArg Value.bool hg2) rfl) (by simp only [f0, f1, f2]; rfl) ?_
      refine st_val (.bool false) (wn rfl) (r_pickF (congrArg Value.bool hg2) rfl) (by simp only [f0, f1, f2]; rfl) ?_
      refine wpList_nil ?_
      exact then_normal ⟨some_us (by simp only [masked, hg2, Bool.true_and, Bool.false_and, Bool.true_or, Bool.false_or, cond_true, cond_false]) rfl rfl, rfl⟩
  rintro a0 _ ⟨⟨us2, hF⟩, rfl⟩
  simp only [fillin, Nat.reduceAdd] at hF
  subst hF
  simp only [List.drop_succ_cons, List.drop_zero]
  refine st_val (.bool ((((decide (p0 ≥ 0)) && (decide (p0 ≤ 1099511627776))) && (decide (p1 ≥ 0))) && (decide (p1 ≤ 1099511627776)))) (wn rfl) rfl (by simp only [f0, f1, f2]; rfl) ?_
  refine wpList_nil ?_
  refine then_normal ?_
  refine wp_seq ?_
  refine wp_seq ?_
  refine wp_region_lit ?_
  refine st_val (Sl.v l) (wn rfl) rfl (by simp only [f0, f1, f2]; rfl) ?_
  refine st_val (.int .i64 (↑(Sl.n l) : Int)) (wn rfl) (r_len (s := l) (Try.runUnderlying22 _) rfl) (by simp only [f0, f1, f2]; rfl) ?_
  refine st_val (.int .i64 0) (wn rfl) rfl (by simp only [f0, f1, f2]; rfl) ?_
  refine wpList_nil ?_
  refine then_normal ?_
  refine wp_block ?_
  replace h := h b w_ hn_b hb.lt hA
  obtain ⟨I_, nv1, h0, hI⟩ := h
  refine wp_loop_ghost (fun nv' a' w' => ∃ ok : Bool, ∃ t28 : Int, ∃ vb : Int, ∃ vb1 : Int, (∃ us3 : Nat → Value, a' = (⟨(fillin us3 0 (some (.agg #[.int .i64 p0, .int .i64 p1]) :: some (Sl.v l) :: some (.pointer (some ⟨b, 0, none⟩)) :: some undef :: some (.bool false) :: some (.bool ok) :: some undef :: none :: some (.pointer (some ⟨b, 0, none⟩)) :: some (.int .i64 p0) :: some (.bool (decide (p0 ≥ 0))) :: some (.bool (decide (p0 ≥ 0))) :: some ((us 12)) :: some ((us 13)) :: some ((us 14)) :: some (.bool ((decide (p0 ≥ 0)) && (decide (p0 ≤ 1099511627776)))) :: some (.bool ((decide (p0 ≥ 0)) && (decide (p0 ≤ 1099511627776)))) :: some ((us1 17)) :: some ((us1 18)) :: some ((us1 19)) :: some (.bool (((decide (p0 ≥ 0)) && (decide (p0 ≤ 1099511627776))) && (decide (p1 ≥ 0)))) :: some (.bool (((decide (p0 ≥ 0)) && (decide (p0 ≤ 1099511627776))) && (decide (p1 ≥ 0)))) :: some ((us2 22)) :: some ((us2 23)) :: some ((us2 24)) :: some (.bool ((((decide (p0 ≥ 0)) && (decide (p0 ≤ 1099511627776))) && (decide (p1 ≥ 0))) && (decide (p1 ≤ 1099511627776)))) :: some (Sl.v l) :: some (.int .i64 (↑(Sl.n l) : Int)) :: some (.int .i64 t28) :: none :: none :: none :: none :: none :: none :: none :: none :: none :: none :: none :: none :: none :: none :: none :: none :: none :: none :: none :: none :: none :: none :: none :: none :: none :: none :: none :: none :: none :: none :: none :: none :: none :: none :: none :: none :: none :: none :: none :: none :: some undef :: [])).toArray, []⟩ : Act)) ∧ Blk w' b 50 [.int .i64 vb, .int .i64 vb1] ∧ I_ nv' ok t28 vb vb1 w') nv1 ?_ ?_
  · exact ⟨_, _, _, _, (some_us rfl rfl rfl), hb, h0⟩
  · clear h0
    rintro nv a0 w_1 ⟨ok, t28, vb, vb1, ⟨us3, hF⟩, hb1, h⟩
    simp only [fillin, Nat.reduceAdd] at hF
    subst hF
    replace h := hI _ _ _ _ _ _ h
    refine wp_seq ?_
    refine wp_region_lit ?_
    refine st_val (.bool (decide (t28 < (↑(Sl.n l) : Int)))) (wn rfl) rfl (by simp only [f0, f1, f2]; rfl) ?_
    refine wpList_nil ?_
    refine then_normal ?_
    refine wp_seq ?_
    refine wp_cond_split (t := (decide (t28 < (↑(Sl.n l) : Int)))) rfl (fun hc => ?_) (fun hc => ?_)
    · replace h := h.1 hc
      refine wp_skip ?_
      refine then_normal ?_
      refine wp_seq ?_
      refine wp_block ?_
      refine wp_seq ?_
      refine wp_region_lit ?_
      obtain ⟨ad, hx, h⟩ := h
      refine st_val (.pointer (some ad)) (wn rfl) (r_indexS (s := l) (Try.runUnderlying22 _) (Try.sizeOf34 _) rfl rfl hx) (by simp only [f0, f1, f2]; rfl) ?_
      obtain ⟨x0, x1, x2, x3, hx1, h⟩ := h
      refine st_val (.agg #[.int .i64 x0, .int .i64 x1, .int .i64 x2, Sl.v x3]) (wn rfl) (r_loadN (Try.isAgg34 _) (Try.sizeOf34 _) rfl rfl hx1) (by simp only [f0, f1, f2]; rfl) ?_
      refine st_one (wn rfl) ?_
      refine o_allocB (zs := [.int .i64 0, .int .i64 0, .int .i64 0, Sl.v Sl.nil]) (Try.zeroValue34 _) rfl (fun b => by simp only [f0, f1, f2]; rfl) (fun b1 w_2 hn1 hO1 hb2 => ?_)
      have hne : b1 ≠ b := by have := hb1.lt; omega
      have hn_b1 : w_1.heap.size ≤ b1 := hn1
      have hA1 : Only [] w_1 w_2 := hO1
      have hb3 := hO1.blk hb1 (by simp)
      refine st_one (wn rfl) ?_
      refine o_storeB (vs := [.int .i64 x0, .int .i64 x1, .int .i64 x2, Sl.v x3]) (cs' := [.int .i64 x0, .int .i64 x1, .int .i64 x2, Sl.v x3]) (Try.sizeOf34 _) rfl rfl rfl rfl hb2 (Nat.le_of_ble_eq_true rfl) rfl (f3 _ _) (fun w_3 hO2 hb4 => ?_)
      have hA2 := hA1.new hO2 hn_b1
      have hb5 := hO2.blk hb3 (by simpa using (Ne.symm hne))
      refine wpList_nil ?_
      refine then_normal ?_
      refine wp_seq ?_
      refine wp_region_lit ?_
      refine st_val (.bool ok) (wn rfl) rfl (by simp only [f0, f1, f2]; rfl) ?_
      refine st_val (.bool ok) (wn rfl) rfl (by simp only [f0, f1, f2]; rfl) ?_
      refine st_cut 4 (fun a' w' => (∃ us4 : Nat → Value, a' = (⟨(fillin us4 0 (some (.agg #[.int .i64 p0, .int .i64 p1]) :: some (Sl.v l) :: some (.pointer (some ⟨b, 0, none⟩)) :: some undef :: some (.bool false) :: some (.bool ok) :: some undef :: some (.pointer (some ⟨b1, 0, none⟩)) :: some (.pointer (some ⟨b, 0, none⟩)) :: some (.int .i64 p0) :: some (.bool (decide (p0 ≥ 0))) :: some (.bool (decide (p0 ≥ 0))) :: some ((us 12)) :: some ((us 13)) :: some ((us 14)) :: some (.bool ((decide (p0 ≥ 0)) && (decide (p0 ≤ 1099511627776)))) :: some (.bool ((decide (p0 ≥ 0)) && (decide (p0 ≤ 1099511627776)))) :: some ((us1 17)) :: some ((us1 18)) :: some ((us1 19)) :: some (.bool (((decide (p0 ≥ 0)) && (decide (p0 ≤ 1099511627776))) && (decide (p1 ≥ 0)))) :: some (.bool (((decide (p0 ≥ 0)) && (decide (p0 ≤ 1099511627776))) && (decide (p1 ≥ 0)))) :: some ((us2 22)) :: some ((us2 23)) :: some ((us2 24)) :: some (.bool ((((decide (p0 ≥ 0)) && (decide (p0 ≤ 1099511627776))) && (decide (p1 ≥ 0))) && (decide (p1 ≤ 1099511627776)))) :: some (Sl.v l) :: some (.int .i64 (↑(Sl.n l) : Int)) :: some (.int .i64 t28) :: some (.bool (decide (t28 < (↑(Sl.n l) : Int)))) :: some (.pointer (some ad)) :: some (.agg #[.int .i64 x0, .int .i64 x1, .int .i64 x2, Sl.v x3]) :: some (.bool ok) :: some (.bool ok) :: none :: none :: none :: some (.bool (ok && (decide (x0 ≤ 1099511627776)))) :: some ((us3 38)) :: some ((us3 39)) :: some ((us3 40)) :: some ((us3 41)) :: some ((us3 42)) :: some ((us3 43)) :: some ((us3 44)) :: some ((us3 45)) :: some ((us3 46)) :: some ((us3 47)) :: some ((us3 48)) :: some ((us3 49)) :: some ((us3 50)) :: some ((us3 51)) :: some ((us3 52)) :: some ((us3 53)) :: some ((us3 54)) :: some ((us3 55)) :: some ((us3 56)) :: some ((us3 57)) :: some ((us3 58)) :: some ((us3 59)) :: some ((us3 60)) :: some ((us3 61)) :: some ((us3 62)) :: some ((us3 63)) :: some ((us3 64)) :: some ((us3 65)) :: some ((us3 66)) :: some ((us3 67)) :: some ((us3 68)) :: some undef :: [])).toArray, []⟩ : Act)) ∧ w_3 = w') ?_ ?_
      · simp only [List.take_succ_cons, List.take_zero]
        rcases Bool.eq_false_or_eq_true ok with hg3 | hg3
        · refine st_val (.pointer (some ⟨b1, 0, none⟩)) (wt rfl rfl rfl (congrArg Value.bool hg3) rfl) (r_field (Try.runUnderlying34 _) rfl (Try.sizeOf3 _) rfl rfl) (by simp only [f0, f1, f2]; rfl) ?_
          refine st_val (.int .i64 x0) (wt rfl rfl rfl (congrArg Value.bool hg3) rfl) (r_load1 (Try.isAgg3 _) rfl (hb4.cell 0)) (by simp only [f0, f1, f2]; rfl) ?_
          refine st_val (.bool (decide (x0 ≤ 1099511627776))) (wt rfl rfl rfl (congrArg Value.bool hg3) rfl) rfl (by simp only [f0, f1, f2]; rfl) ?_
          refine st_val (.bool (decide (x0 ≤ 1099511627776))) (wn rfl) (r_pickT (congrArg Value.bool hg3) rfl) (by simp only [f0, f1, f2]; rfl) ?_
          refine wpList_nil ?_
          exact then_normal ⟨some_us (by simp only [masked, hg3, Bool.true_and, Bool.false_and, Bool.true_or, Bool.false_or, cond_true, cond_false]) rfl rfl, rfl⟩
        · refine st_no (wt rfl rfl rfl (congrArg Value.bool hg3) rfl) (by simp only [f0, f1, f2]; rfl) ?_
          refine st_no (wt rfl rfl rfl (congrArg Value.bool hg3) rfl) (by simp only [f0, f1, f2]; rfl) ?_
          refine st_no (wt rfl rfl rfl (congrArg Value.bool hg3) rfl) (by simp only [f0, f1, f2]; rfl) ?_
          refine st_val (.bool false) (wn rfl) (r_pickF (congrArg Value.bool hg3) rfl) (by simp only [f0, f1, f2]; rfl) ?_
          refine wpList_nil ?_
          exact then_normal ⟨some_us (by simp only [masked, hg3, Bool.true_and, Bool.false_and, Bool.true_or, Bool.false_or, cond_true, cond_false]) rfl rfl, rfl⟩
      rintro a0 _ ⟨⟨us4, hF⟩, rfl⟩
      simp only [fillin, Nat.reduceAdd] at hF
      subst hF
      simp only [List.drop_succ_cons, List.drop_zero]
      refine st_val (.bool (ok && (decide (x0 ≤ 1099511627776)))) (wn rfl) rfl (by simp only [f0, f1, f2]; rfl) ?_
      refine st_cut 7 (fun a' w' => (∃ us5 : Nat → Value, a' = (⟨(fillin us5 0 (some (.agg #[.int .i64 p0, .int .i64 p1]) :: some (Sl.v l) :: some (.pointer (some ⟨b, 0, none⟩)) :: some undef :: some (.bool false) :: some (.bool ok) :: some undef :: some (.pointer (some ⟨b1, 0, none⟩)) :: some (.pointer (some ⟨b, 0, none⟩)) :: some (.int .i64 p0) :: some (.bool (decide (p0 ≥ 0))) :: some (.bool (decide (p0 ≥ 0))) :: some ((us 12)) :: some ((us 13)) :: some ((us 14)) :: some (.bool ((decide (p0 ≥ 0)) && (decide (p0 ≤ 1099511627776)))) :: some (.bool ((decide (p0 ≥ 0)) && (decide (p0 ≤ 1099511627776)))) :: some ((us1 17)) :: some ((us1 18)) :: some ((us1 19)) :: some (.bool (((decide (p0 ≥ 0)) && (decide (p0 ≤ 1099511627776))) && (decide (p1 ≥ 0)))) :: some (.bool (((decide (p0 ≥ 0)) && (decide (p0 ≤ 1099511627776))) && (decide (p1 ≥ 0)))) :: some ((us2 22)) :: some ((us2 23)) :: some ((us2 24)) :: some (.bool ((((decide (p0 ≥ 0)) && (decide (p0 ≤ 1099511627776))) && (decide (p1 ≥ 0))) && (decide (p1 ≤ 1099511627776)))) :: some (Sl.v l) :: some (.int .i64 (↑(Sl.n l) : Int)) :: some (.int .i64 t28) :: some (.bool (decide (t28 < (↑(Sl.n l) : Int)))) :: some (.pointer (some ad)) :: some (.agg #[.int .i64 x0, .int .i64 x1, .int .i64 x2, Sl.v x3]) :: some (.bool ok) :: some (.bool ok) :: some ((us4 34)) :: some ((us4 35)) :: some ((us4 36)) :: some (.bool (ok && (decide (x0 ≤ 1099511627776)))) :: some (.bool (ok && (decide (x0 ≤ 1099511627776)))) :: none :: none :: none :: none :: none :: none :: some (.bool ((ok && (decide (x0 ≤ 1099511627776))) && ((IntKind.i64.wrap (x0 - 1)) == vb))) :: some ((us3 46)) :: some ((us3 47)) :: some ((us3 48)) :: some ((us3 49)) :: some ((us3 50)) :: some ((us3 51)) :: some ((us3 52)) :: some ((us3 53)) :: some ((us3 54)) :: some ((us3 55)) :: some ((us3 56)) :: some ((us3 57)) :: some ((us3 58)) :: some ((us3 59)) :: some ((us3 60)) :: some ((us3 61)) :: some ((us3 62)) :: some ((us3 63)) :: some ((us3 64)) :: some ((us3 65)) :: some ((us3 66)) :: some ((us3 67)) :: some ((us3 68)) :: some undef :: [])).toArray, []⟩ : Act)) ∧ w_3 = w') ?_ ?_
      · simp only [List.take_succ_cons, List.take_zero]
        rcases Bool.eq_false_or_eq_true (ok && (decide (x0 ≤ 1099511627776))) with hg4 | hg4
        · refine st_val (.pointer (some ⟨b1, 0, none⟩)) (wt rfl rfl rfl (congrArg Value.bool hg4) rfl) (r_field (Try.runUnderlying34 _) rfl (Try.sizeOf3 _) rfl rfl) (by simp only [f0, f1, f2]; rfl) ?_
          refine st_val (.int .i64 x0) (wt rfl rfl rfl (congrArg Value.bool hg4) rfl) (r_load1 (Try.isAgg3 _) rfl (hb4.cell 0)) (by simp only [f0, f1, f2]; rfl) ?_
          refine st_val (.int .i64 (IntKind.i64.wrap (x0 - 1))) (wt rfl rfl rfl (congrArg Value.bool hg4) rfl) rfl (by simp only [f0, f1, f2]; rfl) ?_
          refine st_val (.pointer (some ⟨b, 0, none⟩)) (wt rfl rfl rfl (congrArg Value.bool hg4) rfl) (r_field (Try.runUnderlying50 _) rfl (Try.sizeOf3 _) rfl rfl) (by simp only [f0, f1, f2]; rfl) ?_
          refine st_val (.int .i64 vb) (wt rfl rfl rfl (congrArg Value.bool hg4) rfl) (r_load1 (Try.isAgg3 _) rfl (hb5.cell 0)) (by simp only [f0, f1, f2]; rfl) ?_
          refine st_val (.bool ((IntKind.i64.wrap (x0 - 1)) == vb)) (wt rfl rfl rfl (congrArg Value.bool hg4) rfl) rfl (by simp only [f0, f1, f2]; rfl) ?_
          refine st_val (.bool ((IntKind.i64.wrap (x0 - 1)) == vb)) (wn rfl) (r_pickT (congrArg Value.bool hg4) rfl) (by simp only [f0, f1, f2]; rfl) ?_
          refine wpList_nil ?_
          exact then_normal ⟨some_us (by simp only [masked, hg4, Bool.true_and, Bool.false_and, Bool.true_or, Bool.false_or, cond_true, cond_false]) rfl rfl, rfl⟩
        · refine st_no (wt rfl rfl rfl (congrArg Value.bool hg4) rfl) (by simp only [f0, f1, f2]; rfl) ?_
          refine st_no (wt rfl rfl rfl (congrArg Value.bool hg4) rfl) (by simp only [f0, f1, f2]; rfl) ?_
          refine st_no (wt rfl rfl rfl (congrArg Value.bool hg4) rfl) (by simp only [f0, f1, f2]; rfl) ?_
          refine st_no (wt rfl rfl rfl (congrArg Value.bool hg4) rfl) (by simp only [f0, f1, f2]; rfl) ?_
          refine st_no (wt rfl rfl rfl (congrArg Value.bool hg4) rfl) (by simp only [f0, f1, f2]; rfl) ?_
          refine st_no (wt rfl rfl rfl (congrArg Value.bool hg4) rfl) (by simp only [f0, f1, f2]; rfl) ?_
          refine st_val (.bool false) (wn rfl) (r_pickF (congrArg Value.bool hg4) rfl) (by simp only [f0, f1, f2]; rfl) ?_
          refine wpList_nil ?_
          exact then_normal ⟨some_us (by simp only [masked, hg4, Bool.true_and, Bool.false_and, Bool.true_or, Bool.false_or, cond_true, cond_false]) rfl rfl, rfl⟩
      rintro a0 _ ⟨⟨us5, hF⟩, rfl⟩
      simp only [fillin, Nat.reduceAdd] at hF
      subst hF
      simp only [List.drop_succ_cons, List.drop_zero]
      refine st_val (.bool ((ok && (decide (x0 ≤ 1099511627776))) && ((IntKind.i64.wrap (x0 - 1)) == vb))) (wn rfl) rfl (by simp only [f0, f1, f2]; rfl) ?_
      refine st_cut 6 (fun a' w' => (∃ us6 : Nat → Value, a' = (⟨(fillin us6 0 (some (.agg #[.int .i64 p0, .int .i64 p1]) :: some (Sl.v l) :: some (.pointer (some ⟨b, 0, none⟩)) :: some undef :: some (.bool false) :: some (.bool ok) :: some undef :: some (.pointer (some ⟨b1, 0, none⟩)) :: some (.pointer (some ⟨b, 0, none⟩)) :: some (.int .i64 p0) :: some (.bool (decide (p0 ≥ 0))) :: some (.bool (decide (p0 ≥ 0))) :: some ((us 12)) :: some ((us 13)) :: some ((us 14)) :: some (.bool ((decide (p0 ≥ 0)) && (decide (p0 ≤ 1099511627776)))) :: some (.bool ((decide (p0 ≥ 0)) && (decide (p0 ≤ 1099511627776)))) :: some ((us1 17)) :: some ((us1 18)) :: some ((us1 19)) :: some (.bool (((decide (p0 ≥ 0)) && (decide (p0 ≤ 1099511627776))) && (decide (p1 ≥ 0)))) :: some (.bool (((decide (p0 ≥ 0)) && (decide (p0 ≤ 1099511627776))) && (decide (p1 ≥ 0)))) :: some ((us2 22)) :: some ((us2 23)) :: some ((us2 24)) :: some (.bool ((((decide (p0 ≥ 0)) && (decide (p0 ≤ 1099511627776))) && (decide (p1 ≥ 0))) && (decide (p1 ≤ 1099511627776)))) :: some (Sl.v l) :: some (.int .i64 (↑(Sl.n l) : Int)) :: some (.int .i64 t28) :: some (.bool (decide (t28 < (↑(Sl.n l) : Int)))) :: some (.pointer (some ad)) :: some (.agg #[.int .i64 x0, .int .i64 x1, .int .i64 x2, Sl.v x3]) :: some (.bool ok) :: some (.bool ok) :: some ((us4 34)) :: some ((us4 35)) :: some ((us4 36)) :: some (.bool (ok && (decide (x0 ≤ 1099511627776)))) :: some (.bool (ok && (decide (x0 ≤ 1099511627776)))) :: some ((us5 39)) :: some ((us5 40)) :: some ((us5 41)) :: some ((us5 42)) :: some ((us5 43)) :: some ((us5 44)) :: some (.bool ((ok && (decide (x0 ≤ 1099511627776))) && ((IntKind.i64.wrap (x0 - 1)) == vb))) :: some (.bool ((ok && (decide (x0 ≤ 1099511627776))) && ((IntKind.i64.wrap (x0 - 1)) == vb))) :: none :: none :: none :: none :: none :: some (.bool (((ok && (decide (x0 ≤ 1099511627776))) && ((IntKind.i64.wrap (x0 - 1)) == vb)) && (decide (x1 ≥ vb1)))) :: some ((us3 53)) :: some ((us3 54)) :: some ((us3 55)) :: some ((us3 56)) :: some ((us3 57)) :: some ((us3 58)) :: some ((us3 59)) :: some ((us3 60)) :: some ((us3 61)) :: some ((us3 62)) :: some ((us3 63)) :: some ((us3 64)) :: some ((us3 65)) :: some ((us3 66)) :: some ((us3 67)) :: some ((us3 68)) :: some undef :: [])).toArray, []⟩ : Act)) ∧ w_3 = w') ?_ ?_
      · simp only [List.take_succ_cons, List.take_zero]
        rcases Bool.eq_false_or_eq_true ((ok && (decide (x0 ≤ 1099511627776))) && ((IntKind.i64.wrap (x0 - 1)) == vb)) with hg5 | hg5
        · refine st_val (.pointer (some ⟨b1, 1, none⟩)) (wt rfl rfl rfl (congrArg Value.bool hg5) rfl) (r_field (Try.runUnderlying34 _) rfl (Try.sizeOf3 _) rfl rfl) (by simp only [f0, f1, f2]; rfl) ?_
          refine st_val (.int .i64 x1) (wt rfl rfl rfl (congrArg Value.bool hg5) rfl) (r_load1 (Try.isAgg3 _) rfl (hb4.cell 1)) (by simp only [f0, f1, f2]; rfl) ?_
          refine st_val (.pointer (some ⟨b, 1, none⟩)) (wt rfl rfl rfl (congrArg Value.bool hg5) rfl) (r_field (Try.runUnderlying50 _) rfl (Try.sizeOf3 _) rfl rfl) (by simp only [f0, f1, f2]; rfl) ?_
          refine st_val (.int .i64 vb1) (wt rfl rfl rfl (congrArg Value.bool hg5) rfl) (r_load1 (Try.isAgg3 _) rfl (hb5.cell 1)) (by simp only [f0, f1, f2]; rfl) ?_
          refine st_val (.bool (decide (x1 ≥ vb1))) (wt rfl rfl rfl (congrArg Value.bool hg5) rfl) rfl (by simp only [f0, f1, f2]; rfl) ?_
          refine st_val (.bool (decide (x1 ≥ vb1))) (wn rfl) (r_pickT (congrArg Value.bool hg5) rfl) (by simp only [f0, f1, f2]; rfl) ?_
          refine wpList_nil ?_
          exact then_normal ⟨some_us (by simp only [masked, hg5, Bool.true_and, Bool.false_and, Bool.true_or, Bool.false_or, cond_true, cond_false]) rfl rfl, rfl⟩
        · refine st_no (wt rfl rfl rfl (congrArg Value.bool hg5) rfl) (by simp only [f0, f1, f2]; rfl) ?_
          refine st_no (wt rfl rfl rfl (congrArg Value.bool hg5) rfl) (by simp only [f0, f1, f2]; rfl) ?_
          refine st_no (wt rfl rfl rfl (congrArg Value.bool hg5) rfl) (by simp only [f0, f1, f2]; rfl) ?_
          refine st_no (wt rfl rfl rfl (congrArg Value.bool hg5) rfl) (by simp only [f0, f1, f2]; rfl) ?_
          refine st_no (wt rfl rfl rfl (congrArg Value.bool hg5) rfl) (by simp only [f0, f1, f2]; rfl) ?_
          refine st_val (.bool false) (wn rfl) (r_pickF (congrArg Value.bool hg5) rfl) (by simp only [f0, f1, f2]; rfl) ?_
          refine wpList_nil ?_
          exact then_normal ⟨some_us (by simp only [masked, hg5, Bool.true_and, Bool.false_and, Bool.true_or, Bool.false_or, cond_true, cond_false]) rfl rfl, rfl⟩
      rintro a0 _ ⟨⟨us6, hF⟩, rfl⟩
      simp only [fillin, Nat.reduceAdd] at hF
      subst hF
      simp only [List.drop_succ_cons, List.drop_zero]
      refine st_val (.bool (((ok && (decide (x0 ≤ 1099511627776))) && ((IntKind.i64.wrap (x0 - 1)) == vb)) && (decide (x1 ≥ vb1)))) (wn rfl) rfl (by simp only [f0, f1, f2]; rfl) ?_
      refine st_cut 4 (fun a' w' => (∃ us7 : Nat → Value, a' = (⟨(fillin us7 0 (some (.agg #[.int .i64 p0, .int .i64 p1]) :: some (Sl.v l) :: some (.pointer (some ⟨b, 0, none⟩)) :: some undef :: some (.bool false) :: some (.bool ok) :: some undef :: some (.pointer (some ⟨b1, 0, none⟩)) :: some (.pointer (some ⟨b, 0, none⟩)) :: some (.int .i64 p0) :: some (.bool (decide (p0 ≥ 0))) :: some (.bool (decide (p0 ≥ 0))) :: some ((us 12)) :: some ((us 13)) :: some ((us 14)) :: some (.bool ((decide (p0 ≥ 0)) && (decide (p0 ≤ 1099511627776)))) :: some (.bool ((decide (p0 ≥ 0)) && (decide (p0 ≤ 1099511627776)))) :: some ((us1 17)) :: some ((us1 18)) :: some ((us1 19)) :: some (.bool (((decide (p0 ≥ 0)) && (decide (p0 ≤ 1099511627776))) && (decide (p1 ≥ 0)))) :: some (.bool (((decide (p0 ≥ 0)) && (decide (p0 ≤ 1099511627776))) && (decide (p1 ≥ 0)))) :: some ((us2 22)) :: some ((us2 23)) :: some ((us2 24)) :: some (.bool ((((decide (p0 ≥ 0)) && (decide (p0 ≤ 1099511627776))) && (decide (p1 ≥ 0))) && (decide (p1 ≤ 1099511627776)))) :: some (Sl.v l) :: some (.int .i64 (↑(Sl.n l) : Int)) :: some (.int .i64 t28) :: some (.bool (decide (t28 < (↑(Sl.n l) : Int)))) :: some (.pointer (some ad)) :: some (.agg #[.int .i64 x0, .int .i64 x1, .int .i64 x2, Sl.v x3]) :: some (.bool ok) :: some (.bool ok) :: some ((us4 34)) :: some ((us4 35)) :: some ((us4 36)) :: some (.bool (ok && (decide (x0 ≤ 1099511627776)))) :: some (.bool (ok && (decide (x0 ≤ 1099511627776)))) :: some ((us5 39)) :: some ((us5 40)) :: some ((us5 41)) :: some ((us5 42)) :: some ((us5 43)) :: some ((us5 44)) :: some (.bool ((ok && (decide (x0 ≤ 1099511627776))) && ((IntKind.i64.wrap (x0 - 1)) == vb))) :: some (.bool ((ok && (decide (x0 ≤ 1099511627776))) && ((IntKind.i64.wrap (x0 - 1)) == vb))) :: some ((us6 47)) :: some ((us6 48)) :: some ((us6 49)) :: some ((us6 50)) :: some ((us6 51)) :: some (.bool (((ok && (decide (x0 ≤ 1099511627776))) && ((IntKind.i64.wrap (x0 - 1)) == vb)) && (decide (x1 ≥ vb1)))) :: some (.bool (((ok && (decide (x0 ≤ 1099511627776))) && ((IntKind.i64.wrap (x0 - 1)) == vb)) && (decide (x1 ≥ vb1)))) :: none :: none :: none :: some (.bool ((((ok && (decide (x0 ≤ 1099511627776))) && ((IntKind.i64.wrap (x0 - 1)) == vb)) && (decide (x1 ≥ vb1))) && (decide (x1 ≤ 1099511627776)))) :: some ((us3 58)) :: some ((us3 59)) :: some ((us3 60)) :: some ((us3 61)) :: some ((us3 62)) :: some ((us3 63)) :: some ((us3 64)) :: some ((us3 65)) :: some ((us3 66)) :: some ((us3 67)) :: some ((us3 68)) :: some undef :: [])).toArray, []⟩ : Act)) ∧ w_3 = w') ?_ ?_
      · simp only [List.take_succ_cons, List.take_zero]
        rcases Bool.eq_false_or_eq_true (((ok && (decide (x0 ≤ 1099511627776))) && ((IntKind.i64.wrap (x0 - 1)) == vb)) && (decide (x1 ≥ vb1))) with hg6 | hg6
        · refine st_val (.pointer (some ⟨b1, 1, none⟩)) (wt rfl rfl rfl (congrArg Value.bool hg6) rfl) (r_field (Try.runUnderlying34 _) rfl (Try.sizeOf3 _) rfl rfl) (by simp only [f0, f1, f2]; rfl) ?_
          refine st_val (.int .i64 x1) (wt rfl rfl rfl (congrArg Value.bool hg6) rfl) (r_load1 (Try.isAgg3 _) rfl (hb4.cell 1)) (by simp only [f0, f1, f2]; rfl) ?_
          refine st_val (.bool (decide (x1 ≤ 1099511627776))) (wt rfl rfl rfl (congrArg Value.bool hg6) rfl) rfl (by simp only [f0, f1, f2]; rfl) ?_
          refine st_val (.bool (decide (x1 ≤ 1099511627776))) (wn rfl) (r_pickT (congrArg Value.bool hg6) rfl) (by simp only [f0, f1, f2]; rfl) ?_
          refine wpList_nil ?_
          exact then_normal ⟨some_us (by simp only [masked, hg6, Bool.true_and, Bool.false_and, Bool.true_or, Bool.false_or, cond_true, cond_false]) rfl rfl, rfl⟩
        · refine st_no (wt rfl rfl rfl (congrArg Value.bool hg6) rfl) (by simp only [f0, f1, f2]; rfl) ?_
          refine st_no (wt rfl rfl rfl (congrArg Value.bool hg6) rfl) (by simp only [f0, f1, f2]; rfl) ?_
          refine st_no (wt rfl rfl rfl (congrArg Value.bool hg6) rfl) (by simp only [f0, f1, f2]; rfl) ?_
          refine st_val (.bool false) (wn rfl) (r_pickF (congrArg Value.bool hg6) rfl) (by simp only [f0, f1, f2]; rfl) ?_
          refine wpList_nil ?_
          exact then_normal ⟨some_us (by simp only [masked, hg6, Bool.true_and, Bool.false_and, Bool.true_or, Bool.false_or, cond_true, cond_false]) rfl rfl, rfl⟩
      rintro a0 _ ⟨⟨us7, hF⟩, rfl⟩
      simp only [fillin, Nat.reduceAdd] at hF
      subst hF
      simp only [List.drop_succ_cons, List.drop_zero]
      refine st_val (.bool ((((ok && (decide (x0 ≤ 1099511627776))) && ((IntKind.i64.wrap (x0 - 1)) == vb)) && (decide (x1 ≥ vb1))) && (decide (x1 ≤ 1099511627776)))) (wn rfl) rfl (by simp only [f0, f1, f2]; rfl) ?_
      refine st_cut 4 (fun a' w' => (∃ us8 : Nat → Value, a' = (⟨(fillin us8 0 (some (.agg #[.int .i64 p0, .int .i64 p1]) :: some (Sl.v l) :: some (.pointer (some ⟨b, 0, none⟩)) :: some undef :: some (.bool false) :: some (.bool ok) :: some undef :: some (.pointer (some ⟨b1, 0, none⟩)) :: some (.pointer (some ⟨b, 0, none⟩)) :: some (.int .i64 p0) :: some (.bool (decide (p0 ≥ 0))) :: some (.bool (decide (p0 ≥ 0))) :: some ((us 12)) :: some ((us 13)) :: some ((us 14)) :: some (.bool ((decide (p0 ≥ 0)) && (decide (p0 ≤ 1099511627776)))) :: some (.bool ((decide (p0 ≥ 0)) && (decide (p0 ≤ 1099511627776)))) :: some ((us1 17)) :: some ((us1 18)) :: some ((us1 19)) :: some (.bool (((decide (p0 ≥ 0)) && (decide (p0 ≤ 1099511627776))) && (decide (p1 ≥ 0)))) :: some (.bool (((decide (p0 ≥ 0)) && (decide (p0 ≤ 1099511627776))) && (decide (p1 ≥ 0)))) :: some ((us2 22)) :: some ((us2 23)) :: some ((us2 24)) :: some (.bool ((((decide (p0 ≥ 0)) && (decide (p0 ≤ 1099511627776))) && (decide (p1 ≥ 0))) && (decide (p1 ≤ 1099511627776)))) :: some (Sl.v l) :: some (.int .i64 (↑(Sl.n l) : Int)) :: some (.int .i64 t28) :: some (.bool (decide (t28 < (↑(Sl.n l) : Int)))) :: some (.pointer (some ad)) :: some (.agg #[.int .i64 x0, .int .i64 x1, .int .i64 x2, Sl.v x3]) :: some (.bool ok) :: some (.bool ok) :: some ((us4 34)) :: some ((us4 35)) :: some ((us4 36)) :: some (.bool (ok && (decide (x0 ≤ 1099511627776)))) :: some (.bool (ok && (decide (x0 ≤ 1099511627776)))) :: some ((us5 39)) :: some ((us5 40)) :: some ((us5 41)) :: some ((us5 42)) :: some ((us5 43)) :: some ((us5 44)) :: some (.bool ((ok && (decide (x0 ≤ 1099511627776))) && ((IntKind.i64.wrap (x0 - 1)) == vb))) :: some (.bool ((ok && (decide (x0 ≤ 1099511627776))) && ((IntKind.i64.wrap (x0 - 1)) == vb))) :: some ((us6 47)) :: some ((us6 48)) :: some ((us6 49)) :: some ((us6 50)) :: some ((us6 51)) :: some (.bool (((ok && (decide (x0 ≤ 1099511627776))) && ((IntKind.i64.wrap (x0 - 1)) == vb)) && (decide (x1 ≥ vb1)))) :: some (.bool (((ok && (decide (x0 ≤ 1099511627776))) && ((IntKind.i64.wrap (x0 - 1)) == vb)) && (decide (x1 ≥ vb1)))) :: some ((us7 54)) :: some ((us7 55)) :: some ((us7 56)) :: some (.bool ((((ok && (decide (x0 ≤ 1099511627776))) && ((IntKind.i64.wrap (x0 - 1)) == vb)) && (decide (x1 ≥ vb1))) && (decide (x1 ≤ 1099511627776)))) :: some (.bool ((((ok && (decide (x0 ≤ 1099511627776))) && ((IntKind.i64.wrap (x0 - 1)) == vb)) && (decide (x1 ≥ vb1))) && (decide (x1 ≤ 1099511627776)))) :: none :: none :: none :: some (.bool (((((ok && (decide (x0 ≤ 1099511627776))) && ((IntKind.i64.wrap (x0 - 1)) == vb)) && (decide (x1 ≥ vb1))) && (decide (x1 ≤ 1099511627776))) && (decide (x2 ≥ 0)))) :: some ((us3 63)) :: some ((us3 64)) :: some ((us3 65)) :: some ((us3 66)) :: some ((us3 67)) :: some ((us3 68)) :: some undef :: [])).toArray, []⟩ : Act)) ∧ w_3 = w') ?_ ?_
      · simp only [List.take_succ_cons, List.take_zero]
        rcases Bool.eq_false_or_eq_true ((((ok && (decide (x0 ≤ 1099511627776))) && ((IntKind.i64.wrap (x0 - 1)) == vb)) && (decide (x1 ≥ vb1))) && (decide (x1 ≤ 1099511627776))) with hg7 | hg7
        · refine st_val (.pointer (some ⟨b1, 2, none⟩)) (wt rfl rfl rfl (congrArg Value.bool hg7) rfl) (r_field (Try.runUnderlying34 _) rfl (Try.sizeOf3 _) rfl rfl) (by simp only [f0, f1, f2]; rfl) ?_
          refine st_val (.int .i64 x2) (wt rfl rfl rfl (congrArg Value.bool hg7) rfl) (r_load1 (Try.isAgg3 _) rfl (hb4.cell 2)) (by simp only [f0, f1, f2]; rfl) ?_
          refine st_val (.bool (decide (x2 ≥ 0))) (wt rfl rfl rfl (congrArg Value.bool hg7) rfl) rfl (by simp only [f0, f1, f2]; rfl) ?_
          refine st_val (.bool (decide (x2 ≥ 0))) (wn rfl) (r_pickT (congrArg Value.bool hg7) rfl) (by simp only [f0, f1, f2]; rfl) ?_
          refine wpList_nil ?_
          exact then_normal ⟨some_us (by simp only [masked, hg7, Bool.true_and, Bool.false_and, Bool.true_or, Bool.false_or, cond_true, cond_false]) rfl rfl, rfl⟩
        · refine st_no (wt rfl rfl rfl (congrArg Value.bool hg7) rfl) (by simp only [f0, f1, f2]; rfl) ?_
          refine st_no (wt rfl rfl rfl (congrArg Value.bool hg7) rfl) (by simp only [f0, f1, f2]; rfl) ?_
          refine st_no (wt rfl rfl rfl (congrArg Value.bool hg7) rfl) (by simp only [f0, f1, f2]; rfl) ?_
          refine st_val (.bool false) (wn rfl) (r_pickF (congrArg Value.bool hg7) rfl) (by simp only [f0, f1, f2]; rfl) ?_
          refine wpList_nil ?_
          exact then_normal ⟨some_us (by simp only [masked, hg7, Bool.true_and, Bool.false_and, Bool.true_or, Bool.false_or, cond_true, cond_false]) rfl rfl, rfl⟩
      rintro a0 _ ⟨⟨us8, hF⟩, rfl⟩
      simp only [fillin, Nat.reduceAdd] at hF
      subst hF
      simp only [List.drop_succ_cons, List.drop_zero]
      refine st_val (.bool (((((ok && (decide (x0 ≤ 1099511627776))) && ((IntKind.i64.wrap (x0 - 1)) == vb)) && (decide (x1 ≥ vb1))) && (decide (x1 ≤ 1099511627776))) && (decide (x2 ≥ 0)))) (wn rfl) rfl (by simp only [f0, f1, f2]; rfl) ?_
      refine wpList_nil ?_
      refine then_normal ?_
      refine wp_region_lit ?_
      refine st_val (.pointer (some ⟨b1, 0, none⟩)) (wn rfl) (r_field (Try.runUnderlying34 _) rfl (Try.sizeOf3 _) rfl rfl) (by simp only [f0, f1, f2]; rfl) ?_
      refine st_val (.int .i64 x0) (wn rfl) (r_load1 (Try.isAgg3 _) rfl (hb4.cell 0)) (by simp only [f0, f1, f2]; rfl) ?_
      refine st_val (.pointer (some ⟨b1, 1, none⟩)) (wn rfl) (r_field (Try.runUnderlying34 _) rfl (Try.sizeOf3 _) rfl rfl) (by simp only [f0, f1, f2]; rfl) ?_
      refine st_val (.int .i64 x1) (wn rfl) (r_load1 (Try.isAgg3 _) rfl (hb4.cell 1)) (by simp only [f0, f1, f2]; rfl) ?_
      refine st_val (.agg #[.int .i64 x0, .int .i64 x1]) (wn rfl) (r_build (ps' := [(0, .int .i64 x0), (1, .int .i64 x1)]) rfl (by kernel_rfl)) (by simp only [f0, f1, f2]; rfl) ?_
      refine st_one (wn rfl) ?_
      refine o_storeB (vs := [.int .i64 x0, .int .i64 x1]) (cs' := [.int .i64 x0, .int .i64 x1]) (Try.sizeOf50 _) rfl rfl rfl rfl hb5 (Nat.le_of_ble_eq_true rfl) rfl (f3 _ _) (fun w_4 hO3 hb6 => ?_)
      have hA3 := hA2.cons hO3
      have hb7 := hO3.blk hb4 (by simpa using hne)
      refine wpList_nil ?_
      refine block_normal ?_
      refine then_normal ?_
      refine wp_region_lit ?_
      refine st_val (.int .i64 (IntKind.i64.wrap (t28 + 1))) (wn rfl) rfl (by simp only [f0, f1, f2]; rfl) ?_
      refine st_val (.int .i64 (IntKind.i64.wrap (t28 + 1))) (wn rfl) rfl (by simp only [f0, f1, f2]; rfl) ?_
      refine wpList_nil ?_
      refine then_normal ?_
      replace h := h b1 w_4 hn_b1 hb7.lt hA3
      obtain ⟨nv2, hl, h⟩ := h
      exact ⟨nv2, hl, _, _, _, _, (some_us rfl rfl rfl), hb6, h⟩
    · replace h := h.2 hc
      refine wp_exit ?_
      refine then_exit ?_
      refine then_exit ?_
      refine block_hit ?_
      refine then_normal ?_
      refine wp_seq ?_
      refine wp_region_lit ?_
      refine st_val (.bool ok) (wn rfl) rfl (by simp only [f0, f1, f2]; rfl) ?_
      refine st_val (.bool ok) (wn rfl) rfl (by simp only [f0, f1, f2]; rfl) ?_
      refine wpList_nil ?_
      refine then_normal ?_
      refine wp_ret ?_
      exact end_ret (r_res1 (v := .bool ok) Try.results15 ⟨rfl, trivial⟩) rfl h

/-- what is to be shown of a call of (*ledger.Ledger).Last -/
def ledger_Ledger_Last_vc (l : Addr) (R : Value → World → Prop) (w : World) : Prop :=
  ∃ x1 : Int, Cells w (Addr.add (Addr.add l 0) 0) [.int .i64 x1] ∧
  ∃ x2 : Sl, Cells w (Addr.add l 2) [Sl.v x2] ∧
  ∃ J_ : Nat → Int → Int → World → Prop, (∀ (b : Nat) (vb : Int) (vb1 : Int) (w_ : World), J_ b vb vb1 w_ →
  Calls Try.prog 22 #[.agg #[.int .i64 vb, .int .i64 vb1]] w_ (fun e w_1 => ∃ x0 : Int, ∃ x11 : Int, e = .returned (.tuple #[.int .i64 x0, .int .i64 x11]) ∧ Same [b] w_ w_1 ∧
  R (.tuple #[.int .i64 x0, .int .i64 x11]) w_1)) ∧
  (∀ (w_2 : World), Only [] w w_2 →
  ((Calls Try.prog 18 #[.pointer (some l), .int .i64 (IntKind.i64.wrap (x1 + (↑(Sl.n x2) : Int)))] w_2 (fun e w_3 => ∃ x00 : Int, ∃ x01 : Int, ∃ x12 : Bool, e = .returned (.tuple #[.agg #[.int .i64 x00, .int .i64 x01], .bool x12]) ∧ Same [(Addr.add (Addr.add l 0) 0).block, (Addr.add l 2).block] w_2 w_3 ∧
  ∀ (b1 : Nat) (w_5 : World), w_3.heap.size ≤ b1 → b1 < w_5.heap.size → Only [] w_3 w_5 →
  J_ b1 x00 x01 w_5)) ∧
  (∀ (b2 : Nat) (w_6 : World), w_2.heap.size ≤ b2 → b2 < w_6.heap.size → Only [] w_2 w_6 →
  Calls Try.prog 18 #[.pointer (some l), .int .i64 (IntKind.i64.wrap (x1 + (↑(Sl.n x2) : Int)))] w_6 (fun e w_7 => ∃ x001 : Int, ∃ x011 : Int, ∃ x13 : Bool, e = .returned (.tuple #[.agg #[.int .i64 x001, .int .i64 x011], .bool x13]) ∧ Same [(Addr.add (Addr.add l 0) 0).block, (Addr.add l 2).block, b2] w_6 w_7 ∧
  ∀ (w_8 : World), Only [b2] w_7 w_8 →
  J_ b2 x001 x011 w_8))))
theorem ledger_Ledger_Last_wp (l : Addr) (R : Value → World → Prop) (w : World) (h : ledger_Ledger_Last_vc l R w) :
    Calls Try.prog 10 #[.pointer (some l)] w fun e w' => ∃ v, e = .returned v ∧ R v w' := by
  unfold ledger_Ledger_Last_vc at h
  refine calls_of (k := 25) Try.func10 rfl Try.ntmps10 rfl rfl ?_
  simp only [List.replicate, List.cons_append, List.nil_append]
  refine wp_seq ?_
  refine wp_region_lit ?_
  refine st_val (.int .i64 0) (wn rfl) rfl (by simp only [f0, f1, f2]; rfl) ?_
  refine st_val (.int .i64 0) (wn rfl) rfl (by simp only [f0, f1, f2]; rfl) ?_
  refine wpList_nil ?_
  refine then_normal ?_
  refine wp_seq ?_
  obtain ⟨x1, hx, h⟩ := h
  obtain ⟨x2, hx1, h⟩ := h
  obtain ⟨J_, hJ, h⟩ := h
  refine wp_cut (fun a' w' => ∃ b : Nat, ∃ vb : Int, ∃ vb1 : Int, (∃ us : Nat → Value, a' = (⟨(fillin us 0 (some (.pointer (some l)) :: some undef :: some (.int .i64 0) :: some (.int .i64 0) :: some (.pointer (some ⟨b, 0, none⟩)) :: none :: none :: none :: none :: none :: none :: none :: none :: none :: none :: none :: none :: none :: none :: none :: none :: none :: some undef :: some undef :: some undef :: some undef :: [])).toArray, []⟩ : Act)) ∧ Blk w' b 50 [.int .i64 vb, .int .i64 vb1] ∧ J_ b vb vb1 w') ?_ ?_
  · clear h
    rintro a0 w_ ⟨b, vb, vb1, ⟨us, hF⟩, hb, h⟩
    simp only [fillin, Nat.reduceAdd] at hF
    subst hF
    replace h := hJ _ _ _ _ h
    refine then_normal ?_
    refine wp_seq ?_
    refine wp_region_lit ?_
    refine st_val (.agg #[.int .i64 vb, .int .i64 vb1]) (wn rfl) (r_loadN (Try.isAgg50 _) (Try.sizeOf50 _) rfl rfl (hb.cellsAt 0 [.int .i64 vb, .int .i64 vb1] rfl)) (by simp only [f0, f1, f2]; rfl) ?_
    refine st_one (wn rfl) ?_
    refine o_enter (args := #[.agg #[.int .i64 vb, .int .i64 vb1]]) (r_enter Try.call22 rfl) (h.mono ?_)
    clear h
    rintro _ w_1 ⟨x0, x11, rfl, hs, h⟩
    refine ⟨_, _, rfl, (by simp only [f0, f1, f2]; rfl), ?_⟩
    have hb1 := hs.blk hb (by simp)
    refine st_val (.int .i64 x0) (wn rfl) rfl (by simp only [f0, f1, f2]; rfl) ?_
    refine st_val (.int .i64 x11) (wn rfl) rfl (by simp only [f0, f1, f2]; rfl) ?_
    refine st_val (.int .i64 x0) (wn rfl) rfl (by simp only [f0, f1, f2]; rfl) ?_
    refine st_val (.int .i64 x11) (wn rfl) rfl (by simp only [f0, f1, f2]; rfl) ?_
    refine wpList_nil ?_
    refine then_normal ?_
    refine wp_ret ?_
    exact end_ret (r_resN (vs := [.int .i64 x0, .int .i64 x11]) Try.results10 rfl ⟨rfl, rfl, trivial⟩) rfl h
  · refine e_region (EL [(12, [(Addr.add (Addr.add l 0) 0).block, (Addr.add l 2).block]), (16, [(Addr.add (Addr.add l 0) 0).block, (Addr.add l 2).block]), (17, [])]) Try.checked.mixed ?_
    have hO := Only.drew w
    have hx2 : Cells w.drew _ _ := hx
    have hx3 : Cells w.drew _ _ := hx1
    generalize w.drew = w_2 at *
    have hA : Only [] w w_2 := hO
    refine e_take 0 [12, 13, 14, 15, 17, 18] [] (.pointer (some l)) (fun _ => True) rfl (by kernel_rfl) (by kernel_rfl) (by kernel_rfl) (by kernel_rfl) (by kernel_rfl) (by kernel_rfl) (fun _ _ _ h => h) el_true (fun w _ => el_quiet rfl w) trivial (y_val (wn rfl) (fun w' hw' => rfl)) (by simp only [f0, f1, f2]; rfl) ?_
    refine e_take 1 [2, 3, 4, 5, 11, 12, 13, 14, 15, 17, 18] [0] (.pointer (some l)) (fun _ => True) rfl (by kernel_rfl) (by kernel_rfl) (by kernel_rfl) (by kernel_rfl) (by kernel_rfl) (by kernel_rfl) (fun _ _ _ h => h) el_true (fun w _ => el_quiet rfl w) trivial (y_val (wn rfl) (fun w' hw' => rfl)) (by simp only [f0, f1, f2]; rfl) ?_
    refine e_take 2 [3, 4, 5, 11, 12, 13, 14, 15, 17, 18] [0, 1] (.pointer (some l)) (fun _ => True) rfl (by kernel_rfl) (by kernel_rfl) (by kernel_rfl) (by kernel_rfl) (by kernel_rfl) (by kernel_rfl) (fun _ _ _ h => h) el_true (fun w _ => el_quiet rfl w) trivial (y_val (wn rfl) (fun w' hw' => rfl)) (by simp only [f0, f1, f2]; rfl) ?_
    refine e_take 3 [4, 5, 11, 12, 13, 14, 15, 17, 18] [0, 1, 2] (.pointer (some (Addr.add l 0))) (fun _ => True) rfl (by kernel_rfl) (by kernel_rfl) (by kernel_rfl) (by kernel_rfl) (by kernel_rfl) (by kernel_rfl) (fun _ _ _ h => h) el_true (fun w _ => el_quiet rfl w) trivial (y_val (wn rfl) (fun w' hw' => (r_field (Try.runUnderlying54 _) rfl (Try.sizeOf50 _) rfl rfl))) (by simp only [f0, f1, f2]; rfl) ?_
    refine e_take 4 [5, 11, 12, 13, 14, 15, 17, 18] [0, 1, 2, 3] (.pointer (some (Addr.add (Addr.add l 0) 0))) (fun _ => True) rfl (by kernel_rfl) (by kernel_rfl) (by kernel_rfl) (by kernel_rfl) (by kernel_rfl) (by kernel_rfl) (fun _ _ _ h => h) el_true (fun w _ => el_quiet rfl w) trivial (y_val (wn rfl) (fun w' hw' => (r_field (Try.runUnderlying50 _) rfl (Try.sizeOf3 _) rfl rfl))) (by simp only [f0, f1, f2]; rfl) ?_
    refine e_take 5 [11, 12, 13, 14, 15, 17, 18] [0, 1, 2, 3, 4] (.int .i64 x1) (fun w' => Cells w' (Addr.add (Addr.add l 0) 0) [.int .i64 x1]) rfl (by kernel_rfl) (by kernel_rfl) (by kernel_rfl) (by kernel_rfl) (by kernel_rfl) (by kernel_rfl) (fun _ _ _ h => h) (el_stable (b := (Addr.add (Addr.add l 0) 0).block) (List.forall_mem_cons.2 ⟨.inl (by simp), List.forall_mem_cons.2 ⟨.inr (.inr (.head _)), List.forall_mem_cons.2 ⟨.inl (by simp), List.forall_mem_nil _⟩⟩⟩) keep_cells) (fun w _ => el_quiet rfl w) hx2 (y_val (wn rfl) (fun w' hw' => (r_load1 (Try.isAgg3 _) rfl (Cells.one hw')))) (by simp only [f0, f1, f2]; rfl) ?_
    refine e_take 6 [7, 8, 9, 10, 11, 12, 13, 14, 15, 17, 18] [0, 1, 2, 3, 4, 5] (.pointer (some l)) (fun _ => True) rfl (by kernel_rfl) (by kernel_rfl) (by kernel_rfl) (by kernel_rfl) (by kernel_rfl) (by kernel_rfl) (fun _ _ _ h => h) el_true (fun w _ => el_quiet rfl w) trivial (y_val (wn rfl) (fun w' hw' => rfl)) (by simp only [f0, f1, f2]; rfl) ?_
    refine e_take 7 [8, 9, 10, 11, 12, 13, 14, 15, 17, 18] [0, 1, 2, 3, 4, 5, 6] (.pointer (some l)) (fun _ => True) rfl (by kernel_rfl) (by kernel_rfl) (by kernel_rfl) (by kernel_rfl) (by kernel_rfl) (by kernel_rfl) (fun _ _ _ h => h) el_true (fun w _ => el_quiet rfl w) trivial (y_val (wn rfl) (fun w' hw' => rfl)) (by simp only [f0, f1, f2]; rfl) ?_
    refine e_take 8 [9, 10, 11, 12, 13, 14, 15, 17, 18] [0, 1, 2, 3, 4, 5, 6, 7] (.pointer (some (Addr.add l 2))) (fun _ => True) rfl (by kernel_rfl) (by kernel_rfl) (by kernel_rfl) (by kernel_rfl) (by kernel_rfl) (by kernel_rfl) (fun _ _ _ h => h) el_true (fun w _ => el_quiet rfl w) trivial (y_val (wn rfl) (fun w' hw' => (r_field (Try.runUnderlying54 _) rfl (Try.sizeOf22 _) rfl rfl))) (by simp only [f0, f1, f2]; rfl) ?_
    refine e_take 9 [10, 11, 12, 13, 14, 15, 17, 18] [0, 1, 2, 3, 4, 5, 6, 7, 8] (Sl.v x2) (fun w' => Cells w' (Addr.add l 2) [Sl.v x2]) rfl (by kernel_rfl) (by kernel_rfl) (by kernel_rfl) (by kernel_rfl) (by kernel_rfl) (by kernel_rfl) (fun _ _ _ h => h) (el_stable (b := (Addr.add l 2).block) (List.forall_mem_cons.2 ⟨.inl (by simp), List.forall_mem_cons.2 ⟨.inr (.inr (.tail _ (.head _))), List.forall_mem_cons.2 ⟨.inl (by simp), List.forall_mem_nil _⟩⟩⟩) keep_cells) (fun w _ => el_quiet rfl w) hx3 (y_val (wn rfl) (fun w' hw' => (r_load1 (Try.isAgg22 _) rfl (Cells.one hw')))) (by simp only [f0, f1, f2]; rfl) ?_
    refine e_take 10 [11, 12, 13, 14, 15, 17, 18] [0, 1, 2, 3, 4, 5, 6, 7, 8, 9] (.int .i64 (↑(Sl.n x2) : Int)) (fun _ => True) rfl (by kernel_rfl) (by kernel_rfl) (by kernel_rfl) (by kernel_rfl) (by kernel_rfl) (by kernel_rfl) (fun _ _ _ h => h) el_true (fun w _ => el_quiet rfl w) trivial (y_val (wn rfl) (fun w' hw' => (r_len (s := x2) (Try.runUnderlying22 _) rfl))) (by simp only [f0, f1, f2]; rfl) ?_
    refine e_take 11 [12, 13, 14, 15, 17, 18] [0, 1, 2, 3, 4, 5, 6, 7, 8, 9, 10] (.int .i64 (IntKind.i64.wrap (x1 + (↑(Sl.n x2) : Int)))) (fun _ => True) rfl (by kernel_rfl) (by kernel_rfl) (by kernel_rfl) (by kernel_rfl) (by kernel_rfl) (by kernel_rfl) (fun _ _ _ h => h) el_true (fun w _ => el_quiet rfl w) trivial (y_val (wn rfl) (fun w' hw' => rfl)) (by simp only [f0, f1, f2]; rfl) ?_
    replace h := h w_2 hA
    refine e_two 12 16 rfl rfl (by kernel_rfl) ?_ ?_
    · replace h := h.1
      refine e_open (wn rfl) ?_
      refine o_enter (args := #[.pointer (some l), .int .i64 (IntKind.i64.wrap (x1 + (↑(Sl.n x2) : Int)))]) (r_enter Try.call18 rfl) (h.mono ?_)
      clear h
      rintro _ w_3 ⟨x00, x01, x12, rfl, hs1, h⟩
      refine ⟨_, _, rfl, (by simp only [f0, f1, f2]; rfl), ?_⟩
      have hx4 := keep_cells _ _ (hs1 _ (.head _)) hx2
      have hx5 := keep_cells _ _ (hs1 _ (.tail _ (.head _))) hx3
      refine ⟨el_loud rfl hs1, ?_⟩
      refine e_take 13 [14, 15, 17, 18] [0, 1, 2, 3, 4, 5, 6, 7, 8, 9, 10, 11, 12] (.tuple #[.agg #[.int .i64 x00, .int .i64 x01], .bool x12]) (fun _ => True) rfl (by kernel_rfl) (by kernel_rfl) (by kernel_rfl) (by kernel_rfl) (by kernel_rfl) (by kernel_rfl) (fun _ _ _ h => h) el_true (fun w _ => el_quiet rfl w) trivial (y_val (wn rfl) (fun w' hw' => rfl)) (by simp only [f0, f1, f2]; rfl) ?_
      refine e_take 14 [17, 18] [0, 1, 2, 3, 4, 5, 6, 7, 8, 9, 10, 11, 12, 13] (.agg #[.int .i64 x00, .int .i64 x01]) (fun _ => True) rfl (by kernel_rfl) (by kernel_rfl) (by kernel_rfl) (by kernel_rfl) (by kernel_rfl) (by kernel_rfl) (fun _ _ _ h => h) el_true (fun w _ => el_quiet rfl w) trivial (y_val (wn rfl) (fun w' hw' => rfl)) (by simp only [f0, f1, f2]; rfl) ?_
      refine e_take 15 [18] [0, 1, 2, 3, 4, 5, 6, 7, 8, 9, 10, 11, 12, 13, 14] (.bool x12) (fun _ => True) rfl (by kernel_rfl) (by kernel_rfl) (by kernel_rfl) (by kernel_rfl) (by kernel_rfl) (by kernel_rfl) (fun _ _ _ h => h) el_true (fun w _ => el_quiet rfl w) trivial (y_val (wn rfl) (fun w' hw' => rfl)) (by simp only [f0, f1, f2]; rfl) ?_
      refine e_one 16 rfl (by kernel_rfl) (wn rfl) ?_
      refine o_allocB (zs := [.int .i64 0, .int .i64 0]) (Try.zeroValue50 _) rfl (fun b => by simp only [f0, f1, f2]; rfl) (fun b1 w_4 hn hO1 hb2 => ?_)
      have hn_b1 : w_3.heap.size ≤ b1 := hn
      have hA1 : Only [] w_3 w_4 := hO1
      have hS : Same [(Addr.add (Addr.add l 0) 0).block, (Addr.add l 2).block] w_3 w_4 := (same_cons (hO1.block _ (Cells.lt hx4) (by simp)) (same_cons (hO1.block _ (Cells.lt hx5) (by simp)) same_nil))
      have hx6 := keep_cells _ _ (hS _ (.head _)) hx4
      have hx7 := keep_cells _ _ (hS _ (.tail _ (.head _))) hx5
      refine ⟨el_loud rfl hS, ?_⟩
      refine e_one 17 rfl (by kernel_rfl) (wn rfl) ?_
      refine o_storeB (vs := [.int .i64 x00, .int .i64 x01]) (cs' := [.int .i64 x00, .int .i64 x01]) (Try.sizeOf50 _) rfl rfl rfl rfl hb2 (Nat.le_of_ble_eq_true rfl) rfl (f3 _ _) (fun w_5 hO2 hb3 => ?_)
      have hA2 := hA1.new hO2 hn_b1
      have hS1 : Same [] w_4 w_5 := same_nil
      refine ⟨el_loud rfl hS1, ?_⟩
      refine e_take 18 [] [0, 1, 2, 3, 4, 5, 6, 7, 8, 9, 10, 11, 12, 13, 14, 15, 16, 17] (.bool x12) (fun _ => True) rfl (by kernel_rfl) (by kernel_rfl) (by kernel_rfl) (by kernel_rfl) (by kernel_rfl) (by kernel_rfl) (fun _ _ _ h => h) el_true (fun w _ => el_quiet rfl w) trivial (y_val (wn rfl) (fun w' hw' => rfl)) (by simp only [f0, f1, f2]; rfl) ?_
      refine e_done (by kernel_rfl) ?_
      replace h := h b1 w_5 hn_b1 hb3.lt hA2
      exact then_normal ⟨_, _, _, (some_us rfl rfl rfl), hb3, h⟩
    · replace h := h.2
      refine e_open (wn rfl) ?_
      refine o_allocB (zs := [.int .i64 0, .int .i64 0]) (Try.zeroValue50 _) rfl (fun b => by simp only [f0, f1, f2]; rfl) (fun b2 w_6 hn1 hO3 hb4 => ?_)
      have hn_b2 : w_2.heap.size ≤ b2 := hn1
      have hA3 : Only [] w_2 w_6 := hO3
      have hS2 : Same [(Addr.add (Addr.add l 0) 0).block, (Addr.add l 2).block] w_2 w_6 := (same_cons (hO3.block _ (Cells.lt hx2) (by simp)) (same_cons (hO3.block _ (Cells.lt hx3) (by simp)) same_nil))
      have hx8 := keep_cells _ _ (hS2 _ (.head _)) hx2
      have hx9 := keep_cells _ _ (hS2 _ (.tail _ (.head _))) hx3
      refine ⟨el_loud rfl hS2, ?_⟩
      replace h := h b2 w_6 hn_b2 hb4.lt hA3
      refine e_one 12 rfl (by kernel_rfl) (wn rfl) ?_
      refine o_enter (args := #[.pointer (some l), .int .i64 (IntKind.i64.wrap (x1 + (↑(Sl.n x2) : Int)))]) (r_enter Try.call18 rfl) (h.mono ?_)
      clear h
      rintro _ w_7 ⟨x001, x011, x13, rfl, hs2, h⟩
      refine ⟨_, _, rfl, (by simp only [f0, f1, f2]; rfl), ?_⟩
      have hb5 := hs2.blk hb4 (by simp)
      have hx10 := keep_cells _ _ (hs2 _ (.head _)) hx8
      have hx11 := keep_cells _ _ (hs2 _ (.tail _ (.head _))) hx9
      refine ⟨el_loud rfl (fun x hx => hs2 x (List.mem_append_left [b2] hx)), ?_⟩
      refine e_take 13 [14, 15, 17, 18] [0, 1, 2, 3, 4, 5, 6, 7, 8, 9, 10, 11, 12, 16] (.tuple #[.agg #[.int .i64 x001, .int .i64 x011], .bool x13]) (fun _ => True) rfl (by kernel_rfl) (by kernel_rfl) (by kernel_rfl) (by kernel_rfl) (by kernel_rfl) (by kernel_rfl) (fun _ _ _ h => h) el_true (fun w _ => el_quiet rfl w) trivial (y_val (wn rfl) (fun w' hw' => rfl)) (by simp only [f0, f1, f2]; rfl) ?_
      refine e_take 14 [17, 18] [0, 1, 2, 3, 4, 5, 6, 7, 8, 9, 10, 11, 12, 13, 16] (.agg #[.int .i64 x001, .int .i64 x011]) (fun _ => True) rfl (by kernel_rfl) (by kernel_rfl) (by kernel_rfl) (by kernel_rfl) (by kernel_rfl) (by kernel_rfl) (fun _ _ _ h => h) el_true (fun w _ => el_quiet rfl w) trivial (y_val (wn rfl) (fun w' hw' => rfl)) (by simp only [f0, f1, f2]; rfl) ?_
      refine e_take 15 [18] [0, 1, 2, 3, 4, 5, 6, 7, 8, 9, 10, 11, 12, 13, 14, 16] (.bool x13) (fun _ => True) rfl (by kernel_rfl) (by kernel_rfl) (by kernel_rfl) (by kernel_rfl) (by kernel_rfl) (by kernel_rfl) (fun _ _ _ h => h) el_true (fun w _ => el_quiet rfl w) trivial (y_val (wn rfl) (fun w' hw' => rfl)) (by simp only [f0, f1, f2]; rfl) ?_
      refine e_one 17 rfl (by kernel_rfl) (wn rfl) ?_
      refine o_storeB (vs := [.int .i64 x001, .int .i64 x011]) (cs' := [.int .i64 x001, .int .i64 x011]) (Try.sizeOf50 _) rfl rfl rfl rfl hb5 (Nat.le_of_ble_eq_true rfl) rfl (f3 _ _) (fun w_8 hO4 hb6 => ?_)
      have hA4 : Only [b2] w_7 w_8 := hO4
      have hS3 : Same [] w_7 w_8 := same_nil
      refine ⟨el_loud rfl hS3, ?_⟩
      refine e_take 18 [] [0, 1, 2, 3, 4, 5, 6, 7, 8, 9, 10, 11, 12, 13, 14, 15, 16, 17] (.bool x13) (fun _ => True) rfl (by kernel_rfl) (by kernel_rfl) (by kernel_rfl) (by kernel_rfl) (by kernel_rfl) (by kernel_rfl) (fun _ _ _ h => h) el_true (fun w _ => el_quiet rfl w) trivial (y_val (wn rfl) (fun w' hw' => rfl)) (by simp only [f0, f1, f2]; rfl) ?_
      refine e_done (by kernel_rfl) ?_
      replace h := h w_8 hA4
      exact then_normal ⟨_, _, _, (some_us rfl rfl rfl), hb6, h⟩

end Go.Proofs.Ytkigioiahpfkgaa.Vc
