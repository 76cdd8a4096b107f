/-
  Own work, printed by a program of ours (gen.py): of each Go function what is to be shown of a call ('.._vc'), and that it suffices ('.._wp'). Nothing is assumed.
-/
import Derived.Test.YtkigioiahpfkgaaRows
import Derived.Test.YtkigioiahpfkgaaBase
namespace Go.Proofs.Ytkigioiahpfkgaa.Vc
open Go Go.RowKit Go.Kt
set_option linter.unusedSimpArgs false
set_option linter.unusedVariables false
set_option maxRecDepth 100000
set_option maxHeartbeats 4000000
/-- what is to be shown of a call of pavanelaw24.small -/
def pavanelaw24_small_vc (R : Value → World → Prop) (w : World) : Prop :=
  ∃ x1 : Sl, ∃ w_ : World, (Instr.buildSlice 36 3 #[(0, .int .i64 1), (1, .int .i64 2), (2, .int .i64 2)]).run Try.prog w = .ok (Sl.v x1) w_ ∧
  Calls Try.prog 13 #[.int .i64 3, Sl.v x1] w_ (fun e w_1 => ∃ x2 : Sl, e = .returned (Sl.v x2) ∧
  Calls Try.prog 6 #[.int .i64 2, .int .i64 1, Sl.v x2] w_1 (fun e w_2 => ∃ x0 : Option Addr, ∃ x11 : Int, e = .returned (.tuple #[.pointer x0, .int .i64 x11]) ∧
  (((Option.isNone x0) = true →
  R (.bool false) w_2) ∧
  ((Option.isNone x0) = false →
  ∃ x3 : Sl, ∃ w_3 : World, (Instr.buildSlice 36 2 #[(0, .int .i64 3), (1, .int .i64 3)]).run Try.prog w_2 = .ok (Sl.v x3) w_3 ∧
  Calls Try.prog 13 #[.int .i64 5, Sl.v x3] w_3 (fun e w_4 => ∃ x4 : Sl, e = .returned (Sl.v x4) ∧
  Calls Try.prog 7 #[.pointer x0, .int .i64 4, .int .i64 2, Sl.v x4] w_4 (fun e w_5 => ∃ x01 : Int, ∃ x12 : Sl, ∃ x21 : Int, e = .returned (.tuple #[.int .i64 x01, Sl.v x12, .int .i64 x21]) ∧
  Calls Try.prog 7 #[.pointer x0, .int .i64 4, .int .i64 1, Sl.v Sl.nil] w_5 (fun e w_6 => ∃ x02 : Int, ∃ x13 : Sl, ∃ x22 : Int, e = .returned (.tuple #[.int .i64 x02, Sl.v x13, .int .i64 x22]) ∧
  Calls Try.prog 8 #[.pointer x0, Sl.v x12] w_6 (fun e w_7 => ∃ x5 : Int, e = .returned (.int .i64 x5) ∧
  Calls Try.prog 10 #[.pointer x0] w_7 (fun e w_8 => ∃ x03 : Int, ∃ x14 : Int, e = .returned (.tuple #[.int .i64 x03, .int .i64 x14]) ∧
  ∃ J_ : Bool → World → Prop, (∀ (t0 : Bool) (w_9 : World), J_ t0 w_9 →
  R (.bool t0) w_9) ∧
  (((((((((((x11 == 0) && (x21 == 0)) && (x01 == 6)) && ((↑(Sl.n x12) : Int) == 2)) && (x22 == 55)) && (x5 == 0)) && (x03 == 6)) && (x14 == 3)) = true →
  Calls Try.prog 14 #[.pointer x0, .int .i64 9] w_8 (fun e w_10 => ∃ x6 : Int, e = .returned (.int .i64 x6) ∧
  J_ (x6 == 6) w_10)) ∧
  (((((((((x11 == 0) && (x21 == 0)) && (x01 == 6)) && ((↑(Sl.n x12) : Int) == 2)) && (x22 == 55)) && (x5 == 0)) && (x03 == 6)) && (x14 == 3)) = false →
  J_ false w_8))))))))))))
theorem pavanelaw24_small_wp (R : Value → World → Prop) (w : World) (h : pavanelaw24_small_vc R w) :
    Calls Try.prog 5 #[] w fun e w' => ∃ v, e = .returned v ∧ R v w' := by
  unfold pavanelaw24_small_vc at h
  refine calls_of (k := 78) Try.func5 rfl Try.ntmps5 rfl rfl ?_
  simp only [List.replicate, List.cons_append, List.nil_append]
  refine wp_seq ?_
  refine wp_region_lit ?_
  refine st_val (.bool false) (wn rfl) rfl (by simp only [f0, f1, f2]; rfl) ?_
  refine wpList_nil ?_
  refine then_normal ?_
  refine wp_seq ?_
  refine wp_region_lit ?_
  obtain ⟨x1, w_, hr, h⟩ := h
  refine st_one (wn rfl) ?_
  refine o_val (Sl.v x1) (r_buildSlice rfl hr) (by simp only [f0, f1, f2]; rfl) ?_
  refine st_one (wn rfl) ?_
  refine o_enter (args := #[.int .i64 3, Sl.v x1]) (r_enter Try.call13 rfl) (h.mono ?_)
  clear h
  rintro _ w_1 ⟨x2, rfl, h⟩
  refine ⟨_, _, rfl, (by simp only [f0, f1, f2]; rfl), ?_⟩
  refine st_one (wn rfl) ?_
  refine o_enter (args := #[.int .i64 2, .int .i64 1, Sl.v x2]) (r_enter Try.call6 rfl) (h.mono ?_)
  clear h
  rintro _ w_2 ⟨x0, x11, rfl, h⟩
  refine ⟨_, _, rfl, (by simp only [f0, f1, f2]; rfl), ?_⟩
  refine st_val (.tuple #[.pointer x0, .int .i64 x11]) (wn rfl) rfl (by simp only [f0, f1, f2]; rfl) ?_
  refine st_val (.pointer x0) (wn rfl) rfl (by simp only [f0, f1, f2]; rfl) ?_
  refine st_val (.int .i64 x11) (wn rfl) rfl (by simp only [f0, f1, f2]; rfl) ?_
  refine st_val (.pointer x0) (wn rfl) rfl (by simp only [f0, f1, f2]; rfl) ?_
  refine st_val (.int .i64 x11) (wn rfl) rfl (by simp only [f0, f1, f2]; rfl) ?_
  refine wpList_nil ?_
  refine then_normal ?_
  refine wp_seq ?_
  refine wp_seq ?_
  refine wp_region_lit ?_
  refine st_val (.pointer x0) (wn rfl) rfl (by simp only [f0, f1, f2]; rfl) ?_
  refine st_val (.bool (Option.isNone x0)) (wn rfl) (r_eqlPtrNilR (Try.runUnderlying24 _) rfl rfl rfl) (by simp only [f0, f1, f2]; rfl) ?_
  refine wpList_nil ?_
  refine then_normal ?_
  refine wp_cond_split (t := (Option.isNone x0)) rfl (fun hc => ?_) (fun hc => ?_)
  · replace h := h.1 hc
    refine wp_seq ?_
    refine wp_region_lit ?_
    refine st_val (.bool false) (wn rfl) rfl (by simp only [f0, f1, f2]; rfl) ?_
    refine wpList_nil ?_
    refine then_normal ?_
    refine wp_ret ?_
    refine then_ret ?_
    exact end_ret (r_res1 (v := .bool false) Try.results5 ⟨rfl, trivial⟩) rfl h
  · replace h := h.2 hc
    refine wp_skip ?_
    refine then_normal ?_
    refine wp_seq ?_
    refine wp_region_lit ?_
    refine st_val (.pointer x0) (wn rfl) rfl (by simp only [f0, f1, f2]; rfl) ?_
    obtain ⟨x3, w_3, hr1, h⟩ := h
    refine st_one (wn rfl) ?_
    refine o_val (Sl.v x3) (r_buildSlice rfl hr1) (by simp only [f0, f1, f2]; rfl) ?_
    refine st_one (wn rfl) ?_
    refine o_enter (args := #[.int .i64 5, Sl.v x3]) (r_enter Try.call13 rfl) (h.mono ?_)
    clear h
    rintro _ w_4 ⟨x4, rfl, h⟩
    refine ⟨_, _, rfl, (by simp only [f0, f1, f2]; rfl), ?_⟩
    refine st_one (wn rfl) ?_
    refine o_enter (args := #[.pointer x0, .int .i64 4, .int .i64 2, Sl.v x4]) (r_enter Try.call7 rfl) (h.mono ?_)
    clear h
    rintro _ w_5 ⟨x01, x12, x21, rfl, h⟩
    refine ⟨_, _, rfl, (by simp only [f0, f1, f2]; rfl), ?_⟩
    refine st_val (.tuple #[.int .i64 x01, Sl.v x12, .int .i64 x21]) (wn rfl) rfl (by simp only [f0, f1, f2]; rfl) ?_
    refine st_val (.int .i64 x01) (wn rfl) rfl (by simp only [f0, f1, f2]; rfl) ?_
    refine st_val (Sl.v x12) (wn rfl) rfl (by simp only [f0, f1, f2]; rfl) ?_
    refine st_val (.int .i64 x21) (wn rfl) rfl (by simp only [f0, f1, f2]; rfl) ?_
    refine st_val (.int .i64 x01) (wn rfl) rfl (by simp only [f0, f1, f2]; rfl) ?_
    refine st_val (Sl.v x12) (wn rfl) rfl (by simp only [f0, f1, f2]; rfl) ?_
    refine st_val (.int .i64 x21) (wn rfl) rfl (by simp only [f0, f1, f2]; rfl) ?_
    refine wpList_nil ?_
    refine then_normal ?_
    refine wp_seq ?_
    refine wp_region_lit ?_
    refine st_val (.pointer x0) (wn rfl) rfl (by simp only [f0, f1, f2]; rfl) ?_
    refine st_one (wn rfl) ?_
    refine o_enter (args := #[.pointer x0, .int .i64 4, .int .i64 1, Sl.v Sl.nil]) (r_enter Try.call7 rfl) (h.mono ?_)
    clear h
    rintro _ w_6 ⟨x02, x13, x22, rfl, h⟩
    refine ⟨_, _, rfl, (by simp only [f0, f1, f2]; rfl), ?_⟩
    refine st_val (.tuple #[.int .i64 x02, Sl.v x13, .int .i64 x22]) (wn rfl) rfl (by simp only [f0, f1, f2]; rfl) ?_
    refine st_val (.int .i64 x02) (wn rfl) rfl (by simp only [f0, f1, f2]; rfl) ?_
    refine st_val (Sl.v x13) (wn rfl) rfl (by simp only [f0, f1, f2]; rfl) ?_
    refine st_val (.int .i64 x22) (wn rfl) rfl (by simp only [f0, f1, f2]; rfl) ?_
    refine st_val (.int .i64 x02) (wn rfl) rfl (by simp only [f0, f1, f2]; rfl) ?_
    refine st_val (Sl.v x13) (wn rfl) rfl (by simp only [f0, f1, f2]; rfl) ?_
    refine st_val (.int .i64 x22) (wn rfl) rfl (by simp only [f0, f1, f2]; rfl) ?_
    refine wpList_nil ?_
    refine then_normal ?_
    refine wp_seq ?_
    refine wp_region_lit ?_
    refine st_val (.pointer x0) (wn rfl) rfl (by simp only [f0, f1, f2]; rfl) ?_
    refine st_val (Sl.v x12) (wn rfl) rfl (by simp only [f0, f1, f2]; rfl) ?_
    refine st_one (wn rfl) ?_
    refine o_enter (args := #[.pointer x0, Sl.v x12]) (r_enter Try.call8 rfl) (h.mono ?_)
    clear h
    rintro _ w_7 ⟨x5, rfl, h⟩
    refine ⟨_, _, rfl, (by simp only [f0, f1, f2]; rfl), ?_⟩
    refine st_val (.int .i64 x5) (wn rfl) rfl (by simp only [f0, f1, f2]; rfl) ?_
    refine wpList_nil ?_
    refine then_normal ?_
    refine wp_seq ?_
    refine wp_region_lit ?_
    refine st_val (.pointer x0) (wn rfl) rfl (by simp only [f0, f1, f2]; rfl) ?_
    refine st_one (wn rfl) ?_
    refine o_enter (args := #[.pointer x0]) (r_enter Try.call10 rfl) (h.mono ?_)
    clear h
    rintro _ w_8 ⟨x03, x14, rfl, h⟩
    refine ⟨_, _, rfl, (by simp only [f0, f1, f2]; rfl), ?_⟩
    refine st_val (.tuple #[.int .i64 x03, .int .i64 x14]) (wn rfl) rfl (by simp only [f0, f1, f2]; rfl) ?_
    refine st_val (.int .i64 x03) (wn rfl) rfl (by simp only [f0, f1, f2]; rfl) ?_
    refine st_val (.int .i64 x14) (wn rfl) rfl (by simp only [f0, f1, f2]; rfl) ?_
    refine st_val (.int .i64 x03) (wn rfl) rfl (by simp only [f0, f1, f2]; rfl) ?_
    refine st_val (.int .i64 x14) (wn rfl) rfl (by simp only [f0, f1, f2]; rfl) ?_
    refine wpList_nil ?_
    refine then_normal ?_
    refine wp_seq ?_
    obtain ⟨J_, hJ, h⟩ := h
    refine wp_cut (fun a' w' => ∃ t0 : Bool, (∃ us : Nat → Value, a' = (⟨(fillin us 0 (some (.bool t0) :: some (.pointer x0) :: some (.int .i64 x11) :: some (.int .i64 x01) :: some (Sl.v x12) :: some (.int .i64 x21) :: some (.int .i64 x02) :: some (Sl.v x13) :: some (.int .i64 x22) :: some (.int .i64 x5) :: some (.int .i64 x03) :: some (.int .i64 x14) :: some (.tuple #[.pointer x0, .int .i64 x11]) :: some (Sl.v x1) :: some (Sl.v x2) :: some (.tuple #[.pointer x0, .int .i64 x11]) :: some (.pointer x0) :: some (.int .i64 x11) :: some (.pointer x0) :: some (.bool (Option.isNone x0)) :: some (.tuple #[.int .i64 x01, Sl.v x12, .int .i64 x21]) :: some (.pointer x0) :: some (Sl.v x3) :: some (Sl.v x4) :: some (.tuple #[.int .i64 x01, Sl.v x12, .int .i64 x21]) :: some (.int .i64 x01) :: some (Sl.v x12) :: some (.int .i64 x21) :: some (.tuple #[.int .i64 x02, Sl.v x13, .int .i64 x22]) :: some (.pointer x0) :: some (.tuple #[.int .i64 x02, Sl.v x13, .int .i64 x22]) :: some (.int .i64 x02) :: some (Sl.v x13) :: some (.int .i64 x22) :: some (.pointer x0) :: some (Sl.v x12) :: some (.int .i64 x5) :: some (.tuple #[.int .i64 x03, .int .i64 x14]) :: some (.pointer x0) :: some (.tuple #[.int .i64 x03, .int .i64 x14]) :: some (.int .i64 x03) :: some (.int .i64 x14) :: none :: none :: none :: none :: none :: none :: none :: none :: none :: none :: none :: none :: none :: none :: none :: none :: none :: none :: none :: none :: none :: none :: none :: none :: none :: none :: none :: none :: none :: none :: none :: none :: none :: none :: none :: none :: [])).toArray, []⟩ : Act)) ∧ J_ t0 w') ?_ ?_
    · clear h
      rintro a0 w_9 ⟨t0, ⟨us, hF⟩, h⟩
      simp only [fillin, Nat.reduceAdd] at hF
      subst hF
      replace h := hJ _ _ h
      refine then_normal ?_
      refine wp_ret ?_
      exact end_ret (r_res1 (v := .bool t0) Try.results5 ⟨rfl, trivial⟩) rfl h
    · refine wp_region_lit ?_
      refine st_val (.int .i64 x11) (wn rfl) rfl (by simp only [f0, f1, f2]; rfl) ?_
      refine st_val (.bool (x11 == 0)) (wn rfl) rfl (by simp only [f0, f1, f2]; rfl) ?_
      refine st_val (.bool (x11 == 0)) (wn rfl) rfl (by simp only [f0, f1, f2]; rfl) ?_
      refine st_cut 3 (fun a' w' => (∃ us1 : Nat → Value, a' = (⟨(fillin us1 0 (some (.bool false) :: some (.pointer x0) :: some (.int .i64 x11) :: some (.int .i64 x01) :: some (Sl.v x12) :: some (.int .i64 x21) :: some (.int .i64 x02) :: some (Sl.v x13) :: some (.int .i64 x22) :: some (.int .i64 x5) :: some (.int .i64 x03) :: some (.int .i64 x14) :: some (.tuple #[.pointer x0, .int .i64 x11]) :: some (Sl.v x1) :: some (Sl.v x2) :: some (.tuple #[.pointer x0, .int .i64 x11]) :: some (.pointer x0) :: some (.int .i64 x11) :: some (.pointer x0) :: some (.bool (Option.isNone x0)) :: some (.tuple #[.int .i64 x01, Sl.v x12, .int .i64 x21]) :: some (.pointer x0) :: some (Sl.v x3) :: some (Sl.v x4) :: some (.tuple #[.int .i64 x01, Sl.v x12, .int .i64 x21]) :: some (.int .i64 x01) :: some (Sl.v x12) :: some (.int .i64 x21) :: some (.tuple #[.int .i64 x02, Sl.v x13, .int .i64 x22]) :: some (.pointer x0) :: some (.tuple #[.int .i64 x02, Sl.v x13, .int .i64 x22]) :: some (.int .i64 x02) :: some (Sl.v x13) :: some (.int .i64 x22) :: some (.pointer x0) :: some (Sl.v x12) :: some (.int .i64 x5) :: some (.tuple #[.int .i64 x03, .int .i64 x14]) :: some (.pointer x0) :: some (.tuple #[.int .i64 x03, .int .i64 x14]) :: some (.int .i64 x03) :: some (.int .i64 x14) :: some (.int .i64 x11) :: some (.bool (x11 == 0)) :: some (.bool (x11 == 0)) :: none :: none :: some (.bool ((x11 == 0) && (x21 == 0))) :: some undef :: some undef :: some undef :: some undef :: some undef :: some undef :: some undef :: some undef :: some undef :: some undef :: some undef :: some undef :: some undef :: some undef :: some undef :: some undef :: some undef :: some undef :: some undef :: some undef :: some undef :: some undef :: some undef :: some undef :: some undef :: some undef :: some undef :: some undef :: some undef :: some undef :: [])).toArray, []⟩ : Act)) ∧ w_8 = w') ?_ ?_
      · simp only [List.take_succ_cons, List.take_zero]
        rcases Bool.eq_false_or_eq_true (x11 == 0) with hg | hg
        · refine st_val (.int .i64 x21) (wt rfl rfl rfl (congrArg Value.bool hg) rfl) rfl (by simp only [f0, f1, f2]; rfl) ?_
          refine st_val (.bool (x21 == 0)) (wt rfl rfl rfl (congrArg Value.bool hg) rfl) rfl (by simp only [f0, f1, f2]; rfl) ?_
          refine st_val (.bool (x21 == 0)) (wn rfl) (r_pickT (congrArg Value.bool hg) rfl) (by simp only [f0, f1, f2]; rfl) ?_
          refine wpList_nil ?_
          exact then_normal ⟨some_us (by simp only [masked, hg, Bool.true_and, Bool.false_and, Bool.true_or, Bool.false_or, cond_true, cond_false]) rfl rfl, rfl⟩
        · refine st_no (wt rfl rfl rfl (congrArg Value.bool hg) rfl) (by simp only [f0, f1, f2]; rfl) ?_
          refine st_no (wt rfl rfl rfl (congrArg Value.bool hg) rfl) (by simp only [f0, f1, f2]; rfl) ?_
          refine st_val (.bool false) (wn rfl) (r_pickF (congrArg Value.bool hg) rfl) (by simp only [f0, f1, f2]; rfl) ?_
          refine wpList_nil ?_
          exact then_normal ⟨some_us (by simp only [masked, hg, Bool.true_and, Bool.false_and, Bool.true_or, Bool.false_or, cond_true, cond_false]) rfl rfl, rfl⟩
      rintro a0 _ ⟨⟨us1, hF⟩, rfl⟩
      simp only [fillin, Nat.reduceAdd] at hF
      subst hF
      simp only [List.drop_succ_cons, List.drop_zero]
      refine st_val (.bool ((x11 == 0) && (x21 == 0))) (wn rfl) rfl (by simp only [f0, f1, f2]; rfl) ?_
      refine st_cut 3 (fun a' w' => (∃ us2 : Nat → Value, a' = (⟨(fillin us2 0 (some (.bool false) :: some (.pointer x0) :: some (.int .i64 x11) :: some (.int .i64 x01) :: some (Sl.v x12) :: some (.int .i64 x21) :: some (.int .i64 x02) :: some (Sl.v x13) :: some (.int .i64 x22) :: some (.int .i64 x5) :: some (.int .i64 x03) :: some (.int .i64 x14) :: some (.tuple #[.pointer x0, .int .i64 x11]) :: some (Sl.v x1) :: some (Sl.v x2) :: some (.tuple #[.pointer x0, .int .i64 x11]) :: some (.pointer x0) :: some (.int .i64 x11) :: some (.pointer x0) :: some (.bool (Option.isNone x0)) :: some (.tuple #[.int .i64 x01, Sl.v x12, .int .i64 x21]) :: some (.pointer x0) :: some (Sl.v x3) :: some (Sl.v x4) :: some (.tuple #[.int .i64 x01, Sl.v x12, .int .i64 x21]) :: some (.int .i64 x01) :: some (Sl.v x12) :: some (.int .i64 x21) :: some (.tuple #[.int .i64 x02, Sl.v x13, .int .i64 x22]) :: some (.pointer x0) :: some (.tuple #[.int .i64 x02, Sl.v x13, .int .i64 x22]) :: some (.int .i64 x02) :: some (Sl.v x13) :: some (.int .i64 x22) :: some (.pointer x0) :: some (Sl.v x12) :: some (.int .i64 x5) :: some (.tuple #[.int .i64 x03, .int .i64 x14]) :: some (.pointer x0) :: some (.tuple #[.int .i64 x03, .int .i64 x14]) :: some (.int .i64 x03) :: some (.int .i64 x14) :: some (.int .i64 x11) :: some (.bool (x11 == 0)) :: some (.bool (x11 == 0)) :: some ((us1 45)) :: some ((us1 46)) :: some (.bool ((x11 == 0) && (x21 == 0))) :: some (.bool ((x11 == 0) && (x21 == 0))) :: none :: none :: some (.bool (((x11 == 0) && (x21 == 0)) && (x01 == 6))) :: some undef :: some undef :: some undef :: some undef :: some undef :: some undef :: some undef :: some undef :: some undef :: some undef :: some undef :: some undef :: some undef :: some undef :: some undef :: some undef :: some undef :: some undef :: some undef :: some undef :: some undef :: some undef :: some undef :: some undef :: some undef :: some undef :: [])).toArray, []⟩ : Act)) ∧ w_8 = w') ?_ ?_
      · simp only [List.take_succ_cons, List.take_zero]
        rcases Bool.eq_false_or_eq_true ((x11 == 0) && (x21 == 0)) with hg1 | hg1
        · refine st_val (.int .i64 x01) (wt rfl rfl rfl (congrArg Value.bool hg1) rfl) rfl (by simp only [f0, f1, f2]; rfl) ?_
          refine st_val (.bool (x01 == 6)) (wt rfl rfl rfl (congrArg Value.bool hg1) rfl) rfl (by simp only [f0, f1, f2]; rfl) ?_
          refine st_val (.bool (x01 == 6)) (wn rfl) (r_pickT (congrArg Value.bool hg1) rfl) (by simp only [f0, f1, f2]; rfl) ?_
          refine wpList_nil ?_
          exact then_normal ⟨some_us (by simp only [masked, hg1, Bool.true_and, Bool.false_and, Bool.true_or, Bool.false_or, cond_true, cond_false]) rfl rfl, rfl⟩
        · refine st_no (wt rfl rfl rfl (congrArg Value.bool hg1) rfl) (by simp only [f0, f1, f2]; rfl) ?_
          refine st_no (wt rfl rfl rfl (congrArg Value.bool hg1) rfl) (by simp only [f0, f1, f2]; rfl) ?_
          refine st_val (.bool false) (wn rfl) (r_pickF (congrArg Value.bool hg1) rfl) (by simp only [f0, f1, f2]; rfl) ?_
          refine wpList_nil ?_
          exact then_normal ⟨some_us (by simp only [masked, hg1, Bool.true_and, Bool.false_and, Bool.true_or, Bool.false_or, cond_true, cond_false]) rfl rfl, rfl⟩
      rintro a0 _ ⟨⟨us2, hF⟩, rfl⟩
      simp only [fillin, Nat.reduceAdd] at hF
      subst hF
      simp only [List.drop_succ_cons, List.drop_zero]
      refine st_val (.bool (((x11 == 0) && (x21 == 0)) && (x01 == 6))) (wn rfl) rfl (by simp only [f0, f1, f2]; rfl) ?_
      refine st_cut 4 (fun a' w' => (∃ us3 : Nat → Value, a' = (⟨(fillin us3 0 (some (.bool false) :: some (.pointer x0) :: some (.int .i64 x11) :: some (.int .i64 x01) :: some (Sl.v x12) :: some (.int .i64 x21) :: some (.int .i64 x02) :: some (Sl.v x13) :: some (.int .i64 x22) :: some (.int .i64 x5) :: some (.int .i64 x03) :: some (.int .i64 x14) :: some (.tuple #[.pointer x0, .int .i64 x11]) :: some (Sl.v x1) :: some (Sl.v x2) :: some (.tuple #[.pointer x0, .int .i64 x11]) :: some (.pointer x0) :: some (.int .i64 x11) :: some (.pointer x0) :: some (.bool (Option.isNone x0)) :: some (.tuple #[.int .i64 x01, Sl.v x12, .int .i64 x21]) :: some (.pointer x0) :: some (Sl.v x3) :: some (Sl.v x4) :: some (.tuple #[.int .i64 x01, Sl.v x12, .int .i64 x21]) :: some (.int .i64 x01) :: some (Sl.v x12) :: some (.int .i64 x21) :: some (.tuple #[.int .i64 x02, Sl.v x13, .int .i64 x22]) :: some (.pointer x0) :: some (.tuple #[.int .i64 x02, Sl.v x13, .int .i64 x22]) :: some (.int .i64 x02) :: some (Sl.v x13) :: some (.int .i64 x22) :: some (.pointer x0) :: some (Sl.v x12) :: some (.int .i64 x5) :: some (.tuple #[.int .i64 x03, .int .i64 x14]) :: some (.pointer x0) :: some (.tuple #[.int .i64 x03, .int .i64 x14]) :: some (.int .i64 x03) :: some (.int .i64 x14) :: some (.int .i64 x11) :: some (.bool (x11 == 0)) :: some (.bool (x11 == 0)) :: some ((us1 45)) :: some ((us1 46)) :: some (.bool ((x11 == 0) && (x21 == 0))) :: some (.bool ((x11 == 0) && (x21 == 0))) :: some ((us2 49)) :: some ((us2 50)) :: some (.bool (((x11 == 0) && (x21 == 0)) && (x01 == 6))) :: some (.bool (((x11 == 0) && (x21 == 0)) && (x01 == 6))) :: none :: none :: none :: some (.bool ((((x11 == 0) && (x21 == 0)) && (x01 == 6)) && ((↑(Sl.n x12) : Int) == 2))) :: some undef :: some undef :: some undef :: some undef :: some undef :: some undef :: some undef :: some undef :: some undef :: some undef :: some undef :: some undef :: some undef :: some undef :: some undef :: some undef :: some undef :: some undef :: some undef :: some undef :: some undef :: [])).toArray, []⟩ : Act)) ∧ w_8 = w') ?_ ?_
      · simp only [List.take_succ_cons, List.take_zero]
        rcases Bool.eq_false_or_eq_true (((x11 == 0) && (x21 == 0)) && (x01 == 6)) with hg2 | hg2
        · refine st_val (Sl.v x12) (wt rfl rfl rfl (congrArg Value.bool hg2) rfl) rfl (by simp only [f0, f1, f2]; rfl) ?_
          refine st_val (.int .i64 (↑(Sl.n x12) : Int)) (wt rfl rfl rfl (congrArg Value.bool hg2) rfl) (r_len (s := x12) (Try.runUnderlying22 _) rfl) (by simp only [f0, f1, f2]; rfl) ?_
          refine st_val (.bool ((↑(Sl.n x12) : Int) == 2)) (wt rfl rfl rfl (congrArg Value.bool hg2) rfl) rfl (by simp only [f0, f1, f2]; rfl) ?_
          refine st_val (.bool ((↑(Sl.n x12) : Int) == 2)) (wn rfl) (r_pickT (congrArg Value.bool hg2) rfl) (by simp only [f0, f1, f2]; rfl) ?_
          refine wpList_nil ?_
          exact then_normal ⟨some_us (by simp only [masked, hg2, Bool.true_and, Bool.false_and, Bool.true_or, Bool.false_or, cond_true, cond_false]) rfl rfl, rfl⟩
        · refine st_no (wt rfl rfl rfl (congrArg Value.bool hg2) rfl) (by simp only [f0, f1, f2]; rfl) ?_
          refine st_no (wt rfl rfl rfl (congrArg Value.bool hg2) rfl) (by simp only [f0, f1, f2]; rfl) ?_
          refine st_no (wt rfl rfl rfl (congrArg Value.bool hg2) rfl) (by simp only [f0, f1, f2]; rfl) ?_
          refine st_val (.bool false) (wn rfl) (r_pickF (congrArg Value.bool hg2) rfl) (by simp only [f0, f1, f2]; rfl) ?_
          refine wpList_nil ?_
          exact then_normal ⟨some_us (by simp only [masked, hg2, Bool.true_and, Bool.false_and, Bool.true_or, Bool.false_or, cond_true, cond_false]) rfl rfl, rfl⟩
      rintro a0 _ ⟨⟨us3, hF⟩, rfl⟩
      simp only [fillin, Nat.reduceAdd] at hF
      subst hF
      simp only [List.drop_succ_cons, List.drop_zero]
      refine st_val (.bool ((((x11 == 0) && (x21 == 0)) && (x01 == 6)) && ((↑(Sl.n x12) : Int) == 2))) (wn rfl) rfl (by simp only [f0, f1, f2]; rfl) ?_
      refine st_cut 3 (fun a' w' => (∃ us4 : Nat → Value, a' = (⟨(fillin us4 0 (some (.bool false) :: some (.pointer x0) :: some (.int .i64 x11) :: some (.int .i64 x01) :: some (Sl.v x12) :: some (.int .i64 x21) :: some (.int .i64 x02) :: some (Sl.v x13) :: some (.int .i64 x22) :: some (.int .i64 x5) :: some (.int .i64 x03) :: some (.int .i64 x14) :: some (.tuple #[.pointer x0, .int .i64 x11]) :: some (Sl.v x1) :: some (Sl.v x2) :: some (.tuple #[.pointer x0, .int .i64 x11]) :: some (.pointer x0) :: some (.int .i64 x11) :: some (.pointer x0) :: some (.bool (Option.isNone x0)) :: some (.tuple #[.int .i64 x01, Sl.v x12, .int .i64 x21]) :: some (.pointer x0) :: some (Sl.v x3) :: some (Sl.v x4) :: some (.tuple #[.int .i64 x01, Sl.v x12, .int .i64 x21]) :: some (.int .i64 x01) :: some (Sl.v x12) :: some (.int .i64 x21) :: some (.tuple #[.int .i64 x02, Sl.v x13, .int .i64 x22]) :: some (.pointer x0) :: some (.tuple #[.int .i64 x02, Sl.v x13, .int .i64 x22]) :: some (.int .i64 x02) :: some (Sl.v x13) :: some (.int .i64 x22) :: some (.pointer x0) :: some (Sl.v x12) :: some (.int .i64 x5) :: some (.tuple #[.int .i64 x03, .int .i64 x14]) :: some (.pointer x0) :: some (.tuple #[.int .i64 x03, .int .i64 x14]) :: some (.int .i64 x03) :: some (.int .i64 x14) :: some (.int .i64 x11) :: some (.bool (x11 == 0)) :: some (.bool (x11 == 0)) :: some ((us1 45)) :: some ((us1 46)) :: some (.bool ((x11 == 0) && (x21 == 0))) :: some (.bool ((x11 == 0) && (x21 == 0))) :: some ((us2 49)) :: some ((us2 50)) :: some (.bool (((x11 == 0) && (x21 == 0)) && (x01 == 6))) :: some (.bool (((x11 == 0) && (x21 == 0)) && (x01 == 6))) :: some ((us3 53)) :: some ((us3 54)) :: some ((us3 55)) :: some (.bool ((((x11 == 0) && (x21 == 0)) && (x01 == 6)) && ((↑(Sl.n x12) : Int) == 2))) :: some (.bool ((((x11 == 0) && (x21 == 0)) && (x01 == 6)) && ((↑(Sl.n x12) : Int) == 2))) :: none :: none :: some (.bool (((((x11 == 0) && (x21 == 0)) && (x01 == 6)) && ((↑(Sl.n x12) : Int) == 2)) && (x22 == 55))) :: some undef :: some undef :: some undef :: some undef :: some undef :: some undef :: some undef :: some undef :: some undef :: some undef :: some undef :: some undef :: some undef :: some undef :: some undef :: some undef :: some undef :: [])).toArray, []⟩ : Act)) ∧ w_8 = w') ?_ ?_
      · simp only [List.take_succ_cons, List.take_zero]
        rcases Bool.eq_false_or_eq_true ((((x11 == 0) && (x21 == 0)) && (x01 == 6)) && ((↑(Sl.n x12) : Int) == 2)) with hg3 | hg3
        · refine st_val (.int .i64 x22) (wt rfl rfl rfl (congrArg Value.bool hg3) rfl) rfl (by simp only [f0, f1, f2]; rfl) ?_
          refine st_val (.bool (x22 == 55)) (wt rfl rfl rfl (congrArg Value.bool hg3) rfl) rfl (by simp only [f0, f1, f2]; rfl) ?_
          refine st_val (.bool (x22 == 55)) (wn rfl) (r_pickT (congrArg Value.bool hg3) rfl) (by simp only [f0, f1, f2]; rfl) ?_
          refine wpList_nil ?_
          exact then_normal ⟨some_us (by simp only [masked, hg3, Bool.true_and, Bool.false_and, Bool.true_or, Bool.false_or, cond_true, cond_false]) rfl rfl, rfl⟩
        · refine st_no (wt rfl rfl rfl (congrArg Value.bool hg3) rfl) (by simp only [f0, f1, f2]; rfl) ?_
          refine st_no (wt rfl rfl rfl (congrArg Value.bool hg3) rfl) (by simp only [f0, f1, f2]; rfl) ?_
          refine st_val (.bool false) (wn rfl) (r_pickF (congrArg Value.bool hg3) rfl) (by simp only [f0, f1, f2]; rfl) ?_
          refine wpList_nil ?_
          exact then_normal ⟨some_us (by simp only [masked, hg3, Bool.true_and, Bool.false_and, Bool.true_or, Bool.false_or, cond_true, cond_false]) rfl rfl, rfl⟩
      rintro a0 _ ⟨⟨us4, hF⟩, rfl⟩
      simp only [fillin, Nat.reduceAdd] at hF
      subst hF
      simp only [List.drop_succ_cons, List.drop_zero]
      refine st_val (.bool (((((x11 == 0) && (x21 == 0)) && (x01 == 6)) && ((↑(Sl.n x12) : Int) == 2)) && (x22 == 55))) (wn rfl) rfl (by simp only [f0, f1, f2]; rfl) ?_
      refine st_cut 3 (fun a' w' => (∃ us5 : Nat → Value, a' = (⟨(fillin us5 0 (some (.bool false) :: some (.pointer x0) :: some (.int .i64 x11) :: some (.int .i64 x01) :: some (Sl.v x12) :: some (.int .i64 x21) :: some (.int .i64 x02) :: some (Sl.v x13) :: some (.int .i64 x22) :: some (.int .i64 x5) :: some (.int .i64 x03) :: some (.int .i64 x14) :: some (.tuple #[.pointer x0, .int .i64 x11]) :: some (Sl.v x1) :: some (Sl.v x2) :: some (.tuple #[.pointer x0, .int .i64 x11]) :: some (.pointer x0) :: some (.int .i64 x11) :: some (.pointer x0) :: some (.bool (Option.isNone x0)) :: some (.tuple #[.int .i64 x01, Sl.v x12, .int .i64 x21]) :: some (.pointer x0) :: some (Sl.v x3) :: some (Sl.v x4) :: some (.tuple #[.int .i64 x01, Sl.v x12, .int .i64 x21]) :: some (.int .i64 x01) :: some (Sl.v x12) :: some (.int .i64 x21) :: some (.tuple #[.int .i64 x02, Sl.v x13, .int .i64 x22]) :: some (.pointer x0) :: some (.tuple #[.int .i64 x02, Sl.v x13, .int .i64 x22]) :: some (.int .i64 x02) :: some (Sl.v x13) :: some (.int .i64 x22) :: some (.pointer x0) :: some (Sl.v x12) :: some (.int .i64 x5) :: some (.tuple #[.int .i64 x03, .int .i64 x14]) :: some (.pointer x0) :: some (.tuple #[.int .i64 x03, .int .i64 x14]) :: some (.int .i64 x03) :: some (.int .i64 x14) :: some (.int .i64 x11) :: some (.bool (x11 == 0)) :: some (.bool (x11 == 0)) :: some ((us1 45)) :: some ((us1 46)) :: some (.bool ((x11 == 0) && (x21 == 0))) :: some (.bool ((x11 == 0) && (x21 == 0))) :: some ((us2 49)) :: some ((us2 50)) :: some (.bool (((x11 == 0) && (x21 == 0)) && (x01 == 6))) :: some (.bool (((x11 == 0) && (x21 == 0)) && (x01 == 6))) :: some ((us3 53)) :: some ((us3 54)) :: some ((us3 55)) :: some (.bool ((((x11 == 0) && (x21 == 0)) && (x01 == 6)) && ((↑(Sl.n x12) : Int) == 2))) :: some (.bool ((((x11 == 0) && (x21 == 0)) && (x01 == 6)) && ((↑(Sl.n x12) : Int) == 2))) :: some ((us4 58)) :: some ((us4 59)) :: some (.bool (((((x11 == 0) && (x21 == 0)) && (x01 == 6)) && ((↑(Sl.n x12) : Int) == 2)) && (x22 == 55))) :: some (.bool (((((x11 == 0) && (x21 == 0)) && (x01 == 6)) && ((↑(Sl.n x12) : Int) == 2)) && (x22 == 55))) :: none :: none :: some (.bool ((((((x11 == 0) && (x21 == 0)) && (x01 == 6)) && ((↑(Sl.n x12) : Int) == 2)) && (x22 == 55)) && (x5 == 0))) :: some undef :: some undef :: some undef :: some undef :: some undef :: some undef :: some undef :: some undef :: some undef :: some undef :: some undef :: some undef :: some undef :: [])).toArray, []⟩ : Act)) ∧ w_8 = w') ?_ ?_
      · simp only [List.take_succ_cons, List.take_zero]
        rcases Bool.eq_false_or_eq_true (((((x11 == 0) && (x21 == 0)) && (x01 == 6)) && ((↑(Sl.n x12) : Int) == 2)) && (x22 == 55)) with hg4 | hg4
        · refine st_val (.int .i64 x5) (wt rfl rfl rfl (congrArg Value.bool hg4) rfl) rfl (by simp only [f0, f1, f2]; rfl) ?_
          refine st_val (.bool (x5 == 0)) (wt rfl rfl rfl (congrArg Value.bool hg4) rfl) rfl (by simp only [f0, f1, f2]; rfl) ?_
          refine st_val (.bool (x5 == 0)) (wn rfl) (r_pickT (congrArg Value.bool hg4) rfl) (by simp only [f0, f1, f2]; rfl) ?_
          refine wpList_nil ?_
          exact then_normal ⟨some_us (by simp only [masked, hg4, Bool.true_and, Bool.false_and, Bool.true_or, Bool.false_or, cond_true, cond_false]) rfl rfl, rfl⟩
        · refine st_no (wt rfl rfl rfl (congrArg Value.bool hg4) rfl) (by simp only [f0, f1, f2]; rfl) ?_
          refine st_no (wt rfl rfl rfl (congrArg Value.bool hg4) rfl) (by simp only [f0, f1, f2]; rfl) ?_
          refine st_val (.bool false) (wn rfl) (r_pickF (congrArg Value.bool hg4) rfl) (by simp only [f0, f1, f2]; rfl) ?_
          refine wpList_nil ?_
          exact then_normal ⟨some_us (by simp only [masked, hg4, Bool.true_and, Bool.false_and, Bool.true_or, Bool.false_or, cond_true, cond_false]) rfl rfl, rfl⟩
      rintro a0 _ ⟨⟨us5, hF⟩, rfl⟩
      simp only [fillin, Nat.reduceAdd] at hF
      subst hF
      simp only [List.drop_succ_cons, List.drop_zero]
      refine st_val (.bool ((((((x11 == 0) && (x21 == 0)) && (x01 == 6)) && ((↑(Sl.n x12) : Int) == 2)) && (x22 == 55)) && (x5 == 0))) (wn rfl) rfl (by simp only [f0, f1, f2]; rfl) ?_
      refine st_cut 3 (fun a' w' => (∃ us6 : Nat → Value, a' = (⟨(fillin us6 0 (some (.bool false) :: some (.pointer x0) :: some (.int .i64 x11) :: some (.int .i64 x01) :: some (Sl.v x12) :: some (.int .i64 x21) :: some (.int .i64 x02) :: some (Sl.v x13) :: some (.int .i64 x22) :: some (.int .i64 x5) :: some (.int .i64 x03) :: some (.int .i64 x14) :: some (.tuple #[.pointer x0, .int .i64 x11]) :: some (Sl.v x1) :: some (Sl.v x2) :: some (.tuple #[.pointer x0, .int .i64 x11]) :: some (.pointer x0) :: some (.int .i64 x11) :: some (.pointer x0) :: some (.bool (Option.isNone x0)) :: some (.tuple #[.int .i64 x01, Sl.v x12, .int .i64 x21]) :: some (.pointer x0) :: some (Sl.v x3) :: some (Sl.v x4) :: some (.tuple #[.int .i64 x01, Sl.v x12, .int .i64 x21]) :: some (.int .i64 x01) :: some (Sl.v x12) :: some (.int .i64 x21) :: some (.tuple #[.int .i64 x02, Sl.v x13, .int .i64 x22]) :: some (.pointer x0) :: some (.tuple #[.int .i64 x02, Sl.v x13, .int .i64 x22]) :: some (.int .i64 x02) :: some (Sl.v x13) :: some (.int .i64 x22) :: some (.pointer x0) :: some (Sl.v x12) :: some (.int .i64 x5) :: some (.tuple #[.int .i64 x03, .int .i64 x14]) :: some (.pointer x0) :: some (.tuple #[.int .i64 x03, .int .i64 x14]) :: some (.int .i64 x03) :: some (.int .i64 x14) :: some (.int .i64 x11) :: some (.bool (x11 == 0)) :: some (.bool (x11 == 0)) :: some ((us1 45)) :: some ((us1 46)) :: some (.bool ((x11 == 0) && (x21 == 0))) :: some (.bool ((x11 == 0) && (x21 == 0))) :: some ((us2 49)) :: some ((us2 50)) :: some (.bool (((x11 == 0) && (x21 == 0)) && (x01 == 6))) :: some (.bool (((x11 == 0) && (x21 == 0)) && (x01 == 6))) :: some ((us3 53)) :: some ((us3 54)) :: some ((us3 55)) :: some (.bool ((((x11 == 0) && (x21 == 0)) && (x01 == 6)) && ((↑(Sl.n x12) : Int) == 2))) :: some (.bool ((((x11 == 0) && (x21 == 0)) && (x01 == 6)) && ((↑(Sl.n x12) : Int) == 2))) :: some ((us4 58)) :: some ((us4 59)) :: some (.bool (((((x11 == 0) && (x21 == 0)) && (x01 == 6)) && ((↑(Sl.n x12) : Int) == 2)) && (x22 == 55))) :: some (.bool (((((x11 == 0) && (x21 == 0)) && (x01 == 6)) && ((↑(Sl.n x12) : Int) == 2)) && (x22 == 55))) :: some ((us5 62)) :: some ((us5 63)) :: some (.bool ((((((x11 == 0) && (x21 == 0)) && (x01 == 6)) && ((↑(Sl.n x12) : Int) == 2)) && (x22 == 55)) && (x5 == 0))) :: some (.bool ((((((x11 == 0) && (x21 == 0)) && (x01 == 6)) && ((↑(Sl.n x12) : Int) == 2)) && (x22 == 55)) && (x5 == 0))) :: none :: none :: some (.bool (((((((x11 == 0) && (x21 == 0)) && (x01 == 6)) && ((↑(Sl.n x12) : Int) == 2)) && (x22 == 55)) && (x5 == 0)) && (x03 == 6))) :: some undef :: some undef :: some undef :: some undef :: some undef :: some undef :: some undef :: some undef :: some undef :: [])).toArray, []⟩ : Act)) ∧ w_8 = w') ?_ ?_
      · simp only [List.take_succ_cons, List.take_zero]
        rcases Bool.eq_false_or_eq_true ((((((x11 == 0) && (x21 == 0)) && (x01 == 6)) && ((↑(Sl.n x12) : Int) == 2)) && (x22 == 55)) && (x5 == 0)) with hg5 | hg5
        · refine st_val (.int .i64 x03) (wt rfl rfl rfl (congrArg Value.bool hg5) rfl) rfl (by simp only [f0, f1, f2]; rfl) ?_
          refine st_val (.bool (x03 == 6)) (wt rfl rfl rfl (congrArg Value.bool hg5) rfl) rfl (by simp only [f0, f1, f2]; rfl) ?_
          refine st_val (.bool (x03 == 6)) (wn rfl) (r_pickT (congrArg Value.bool hg5) rfl) (by simp only [f0, f1, f2]; rfl) ?_
          refine wpList_nil ?_
          exact then_normal ⟨some_us (by simp only [masked, hg5, Bool.true_and, Bool.false_and, Bool.true_or, Bool.false_or, cond_true, cond_false]) rfl rfl, rfl⟩
        · refine st_no (wt rfl rfl rfl (congrArg Value.bool hg5) rfl) (by simp only [f0, f1, f2]; rfl) ?_
          refine st_no (wt rfl rfl rfl (congrArg Value.bool hg5) rfl) (by simp only [f0, f1, f2]; rfl) ?_
          refine st_val (.bool false) (wn rfl) (r_pickF (congrArg Value.bool hg5) rfl) (by simp only [f0, f1, f2]; rfl) ?_
          refine wpList_nil ?_
          exact then_normal ⟨some_us (by simp only [masked, hg5, Bool.true_and, Bool.false_and, Bool.true_or, Bool.false_or, cond_true, cond_false]) rfl rfl, rfl⟩
      rintro a0 _ ⟨⟨us6, hF⟩, rfl⟩
      simp only [fillin, Nat.reduceAdd] at hF
      subst hF
      simp only [List.drop_succ_cons, List.drop_zero]
      refine st_val (.bool (((((((x11 == 0) && (x21 == 0)) && (x01 == 6)) && ((↑(Sl.n x12) : Int) == 2)) && (x22 == 55)) && (x5 == 0)) && (x03 == 6))) (wn rfl) rfl (by simp only [f0, f1, f2]; rfl) ?_
      refine st_cut 3 (fun a' w' => (∃ us7 : Nat → Value, a' = (⟨(fillin us7 0 (some (.bool false) :: some (.pointer x0) :: some (.int .i64 x11) :: some (.int .i64 x01) :: some (Sl.v x12) :: some (.int .i64 x21) :: some (.int .i64 x02) :: some (Sl.v x13) :: some (.int .i64 x22) :: some (.int .i64 x5) :: some (.int .i64 x03) :: some (.int .i64 x14) :: some (.tuple #[.pointer x0, .int .i64 x11]) :: some (Sl.v x1) :: some (Sl.v x2) :: some (.tuple #[.pointer x0, .int .i64 x11]) :: some (.pointer x0) :: some (.int .i64 x11) :: some (.pointer x0) :: some (.bool (Option.isNone x0)) :: some (.tuple #[.int .i64 x01, Sl.v x12, .int .i64 x21]) :: some (.pointer x0) :: some (Sl.v x3) :: some (Sl.v x4) :: some (.tuple #[.int .i64 x01, Sl.v x12, .int .i64 x21]) :: some (.int .i64 x01) :: some (Sl.v x12) :: some (.int .i64 x21) :: some (.tuple #[.int .i64 x02, Sl.v x13, .int .i64 x22]) :: some (.pointer x0) :: some (.tuple #[.int .i64 x02, Sl.v x13, .int .i64 x22]) :: some (.int .i64 x02) :: some (Sl.v x13) :: some (.int .i64 x22) :: some (.pointer x0) :: some (Sl.v x12) :: some (.int .i64 x5) :: some (.tuple #[.int .i64 x03, .int .i64 x14]) :: some (.pointer x0) :: some (.tuple #[.int .i64 x03, .int .i64 x14]) :: some (.int .i64 x03) :: some (.int .i64 x14) :: some (.int .i64 x11) :: some (.bool (x11 == 0)) :: some (.bool (x11 == 0)) :: some ((us1 45)) :: some ((us1 46)) :: some (.bool ((x11 == 0) && (x21 == 0))) :: some (.bool ((x11 == 0) && (x21 == 0))) :: some ((us2 49)) :: some ((us2 50)) :: some (.bool (((x11 == 0) && (x21 == 0)) && (x01 == 6))) :: some (.bool (((x11 == 0) && (x21 == 0)) && (x01 == 6))) :: some ((us3 53)) :: some ((us3 54)) :: some ((us3 55)) :: some (.bool ((((x11 == 0) && (x21 == 0)) && (x01 == 6)) && ((↑(Sl.n x12) : Int) == 2))) :: some (.bool ((((x11 == 0) && (x21 == 0)) && (x01 == 6)) && ((↑(Sl.n x12) : Int) == 2))) :: some ((us4 58)) :: some ((us4 59)) :: some (.bool (((((x11 == 0) && (x21 == 0)) && (x01 == 6)) && ((↑(Sl.n x12) : Int) == 2)) && (x22 == 55))) :: some (.bool (((((x11 == 0) && (x21 == 0)) && (x01 == 6)) && ((↑(Sl.n x12) : Int) == 2)) && (x22 == 55))) :: some ((us5 62)) :: some ((us5 63)) :: some (.bool ((((((x11 == 0) && (x21 == 0)) && (x01 == 6)) && ((↑(Sl.n x12) : Int) == 2)) && (x22 == 55)) && (x5 == 0))) :: some (.bool ((((((x11 == 0) && (x21 == 0)) && (x01 == 6)) && ((↑(Sl.n x12) : Int) == 2)) && (x22 == 55)) && (x5 == 0))) :: some ((us6 66)) :: some ((us6 67)) :: some (.bool (((((((x11 == 0) && (x21 == 0)) && (x01 == 6)) && ((↑(Sl.n x12) : Int) == 2)) && (x22 == 55)) && (x5 == 0)) && (x03 == 6))) :: some (.bool (((((((x11 == 0) && (x21 == 0)) && (x01 == 6)) && ((↑(Sl.n x12) : Int) == 2)) && (x22 == 55)) && (x5 == 0)) && (x03 == 6))) :: none :: none :: some (.bool ((((((((x11 == 0) && (x21 == 0)) && (x01 == 6)) && ((↑(Sl.n x12) : Int) == 2)) && (x22 == 55)) && (x5 == 0)) && (x03 == 6)) && (x14 == 3))) :: some undef :: some undef :: some undef :: some undef :: some undef :: [])).toArray, []⟩ : Act)) ∧ w_8 = w') ?_ ?_
      · simp only [List.take_succ_cons, List.take_zero]
        rcases Bool.eq_false_or_eq_true (((((((x11 == 0) && (x21 == 0)) && (x01 == 6)) && ((↑(Sl.n x12) : Int) == 2)) && (x22 == 55)) && (x5 == 0)) && (x03 == 6)) with hg6 | hg6
        · refine st_val (.int .i64 x14) (wt rfl rfl rfl (congrArg Value.bool hg6) rfl) rfl (by simp only [f0, f1, f2]; rfl) ?_
          refine st_val (.bool (x14 == 3)) (wt rfl rfl rfl (congrArg Value.bool hg6) rfl) rfl (by simp only [f0, f1, f2]; rfl) ?_
          refine st_val (.bool (x14 == 3)) (wn rfl) (r_pickT (congrArg Value.bool hg6) rfl) (by simp only [f0, f1, f2]; rfl) ?_
          refine wpList_nil ?_
          exact then_normal ⟨some_us (by simp only [masked, hg6, Bool.true_and, Bool.false_and, Bool.true_or, Bool.false_or, cond_true, cond_false]) rfl rfl, rfl⟩
        · refine st_no (wt rfl rfl rfl (congrArg Value.bool hg6) rfl) (by simp only [f0, f1, f2]; rfl) ?_
          refine st_no (wt rfl rfl rfl (congrArg Value.bool hg6) rfl) (by simp only [f0, f1, f2]; rfl) ?_
          refine st_val (.bool false) (wn rfl) (r_pickF (congrArg Value.bool hg6) rfl) (by simp only [f0, f1, f2]; rfl) ?_
          refine wpList_nil ?_
          exact then_normal ⟨some_us (by simp only [masked, hg6, Bool.true_and, Bool.false_and, Bool.true_or, Bool.false_or, cond_true, cond_false]) rfl rfl, rfl⟩
      rintro a0 _ ⟨⟨us7, hF⟩, rfl⟩
      simp only [fillin, Nat.reduceAdd] at hF
      subst hF
      simp only [List.drop_succ_cons, List.drop_zero]
      refine st_val (.bool ((((((((x11 == 0) && (x21 == 0)) && (x01 == 6)) && ((↑(Sl.n x12) : Int) == 2)) && (x22 == 55)) && (x5 == 0)) && (x03 == 6)) && (x14 == 3))) (wn rfl) rfl (by simp only [f0, f1, f2]; rfl) ?_
      rcases Bool.eq_false_or_eq_true ((((((((x11 == 0) && (x21 == 0)) && (x01 == 6)) && ((↑(Sl.n x12) : Int) == 2)) && (x22 == 55)) && (x5 == 0)) && (x03 == 6)) && (x14 == 3)) with hg7 | hg7
      · replace h := h.1 hg7
        refine st_val (.pointer x0) (wt rfl rfl rfl (congrArg Value.bool hg7) rfl) rfl (by simp only [f0, f1, f2]; rfl) ?_
        refine st_one (wt rfl rfl rfl (congrArg Value.bool hg7) rfl) ?_
        refine o_enter (args := #[.pointer x0, .int .i64 9]) (r_enter Try.call14 rfl) (h.mono ?_)
        clear h
        rintro _ w_10 ⟨x6, rfl, h⟩
        refine ⟨_, _, rfl, (by simp only [f0, f1, f2]; rfl), ?_⟩
        refine st_val (.bool (x6 == 6)) (wt rfl rfl rfl (congrArg Value.bool hg7) rfl) rfl (by simp only [f0, f1, f2]; rfl) ?_
        refine st_val (.bool (x6 == 6)) (wn rfl) (r_pickT (congrArg Value.bool hg7) rfl) (by simp only [f0, f1, f2]; rfl) ?_
        refine st_val (.bool (x6 == 6)) (wn rfl) rfl (by simp only [f0, f1, f2]; rfl) ?_
        refine wpList_nil ?_
        exact then_normal ⟨_, (some_us rfl rfl rfl), h⟩
      · replace h := h.2 hg7
        refine st_no (wt rfl rfl rfl (congrArg Value.bool hg7) rfl) (by simp only [f0, f1, f2]; rfl) ?_
        refine st_no (wt rfl rfl rfl (congrArg Value.bool hg7) rfl) (by simp only [f0, f1, f2]; rfl) ?_
        refine st_no (wt rfl rfl rfl (congrArg Value.bool hg7) rfl) (by simp only [f0, f1, f2]; rfl) ?_
        refine st_val (.bool false) (wn rfl) (r_pickF (congrArg Value.bool hg7) rfl) (by simp only [f0, f1, f2]; rfl) ?_
        refine st_val (.bool false) (wn rfl) rfl (by simp only [f0, f1, f2]; rfl) ?_
        refine wpList_nil ?_
        exact then_normal ⟨_, (some_us rfl rfl rfl), h⟩

/-- what is to be shown of a call of (*ledger.Ledger).Put -/
def ledger_Ledger_Put_vc (l : Addr) (row : Sl) (R : Value → World → Prop) (w : World) : Prop :=
  ((((↑(Sl.n row) : Int) == 0) = true →
  R (.int .i64 0) w) ∧
  (((↑(Sl.n row) : Int) == 0) = false →
  ∃ ad : Addr, SlAt row 0 4 ad ∧
  ∃ x1 : Int, Cells w (Addr.add ad 0) [.int .i64 x1] ∧
  Calls Try.prog 18 #[.pointer (some l), .int .i64 (IntKind.i64.wrap (x1 - 1))] w (fun e w_ => ∃ x00 : Int, ∃ x01 : Int, ∃ x11 : Bool, e = .returned (.tuple #[.agg #[.int .i64 x00, .int .i64 x01], .bool x11]) ∧
  ∀ (b : Nat) (w_2 : World), w_.heap.size ≤ b → b < w_2.heap.size → Only [] w_ w_2 →
  ∃ ad1 : Addr, SlAt row 0 4 ad1 ∧
  ∃ x2 : Int, Cells w_2 (Addr.add ad1 0) [.int .i64 x2] ∧
  ∃ x3 : Int, Cells w_2 (Addr.add (Addr.add l 0) 0) [.int .i64 x3] ∧
  ∃ J_ : Bool → World → Prop, (∀ (t39 : Bool) (w_3 : World), J_ t39 w_3 →
  ((t39 = true →
  R (.int .i64 1) w_3) ∧
  (t39 = false →
  ∃ x4 : Sl, Cells w_3 (Addr.add l 2) [Sl.v x4] ∧
  ∃ x5 : Int, Cells w_3 (Addr.add (Addr.add l 0) 0) [.int .i64 x5] ∧
  ∃ x6 : Int, Cells w_3 (Addr.add (Addr.add l 0) 0) [.int .i64 x6] ∧
  ∃ hi : Nat, ∃ mx : Nat, (IntKind.i64.wrap (x00 - x5) = ↑hi ∧ IntKind.i64.wrap (x00 - x6) = ↑mx ∧ 0 ≤ hi ∧ hi ≤ mx ∧ mx ≤ Sl.c x4) ∧
  ∀ (w_4 : World), Only [] w_3 w_4 →
  Calls Try.prog 16 #[Sl.v row] w_4 (fun e w_5 => ∃ x7 : Sl, e = .returned (Sl.v x7) ∧ Same [b, (Addr.add l 2).block, (Addr.add (Addr.add l 0) 0).block] w_4 w_5 ∧
  ∃ x8 : Sl, ∃ w_6 : World, (Builtin.append_ #[22, 22] 22 #[Sl.v (Sl.cut x4 0 hi mx 4), Sl.v x7]).run Try.prog w_5 = .ok (Sl.v x8) w_6 ∧ Same [b] w_5 w_6 ∧
  ∃ (bk off : Nat) (cells : List Value) (ety : TypeId), Addr.add l 2 = (⟨bk, off, none⟩ : Addr) ∧ Blk w_6 bk ety cells ∧ off + 1 ≤ cells.length ∧ b ≠ bk ∧ ∀ w_7 : World, Only [bk] w_6 w_7 → Blk w_7 bk ety (splice cells off [Sl.v x8]) →
  R (.int .i64 0) w_7)))) ∧
  (∀ (w_8 : World), Only [] w_2 w_8 →
  (((decide (x2 ≤ x3)) = true →
  J_ true w_8) ∧
  ((decide (x2 ≤ x3)) = false →
  (((!x11) = true →
  J_ true w_8) ∧
  ((!x11) = false →
  Calls Try.prog 15 #[.agg #[.int .i64 x00, .int .i64 x01], Sl.v row] w_8 (fun e w_9 => ∃ x9 : Bool, e = .returned (.bool x9) ∧ Same [b] w_8 w_9 ∧
  J_ (!x9) w_9)))))))))
theorem ledger_Ledger_Put_wp (l : Addr) (row : Sl) (R : Value → World → Prop) (w : World) (h : ledger_Ledger_Put_vc l row R w) :
    Calls Try.prog 8 #[.pointer (some l), Sl.v row] w fun e w' => ∃ v, e = .returned v ∧ R v w' := by
  unfold ledger_Ledger_Put_vc at h
  refine calls_of (k := 65) Try.func8 rfl Try.ntmps8 rfl rfl ?_
  simp only [List.replicate, List.cons_append, List.nil_append]
  refine wp_seq ?_
  refine wp_region_lit ?_
  refine st_val (.int .i64 0) (wn rfl) rfl (by simp only [f0, f1, f2]; rfl) ?_
  refine wpList_nil ?_
  refine then_normal ?_
  refine wp_seq ?_
  refine wp_seq ?_
  refine wp_region_lit ?_
  refine st_val (Sl.v row) (wn rfl) rfl (by simp only [f0, f1, f2]; rfl) ?_
  refine st_val (.int .i64 (↑(Sl.n row) : Int)) (wn rfl) (r_len (s := row) (Try.runUnderlying22 _) rfl) (by simp only [f0, f1, f2]; rfl) ?_
  refine st_val (.bool ((↑(Sl.n row) : Int) == 0)) (wn rfl) rfl (by simp only [f0, f1, f2]; rfl) ?_
  refine wpList_nil ?_
  refine then_normal ?_
  refine wp_cond_split (t := ((↑(Sl.n row) : Int) == 0)) rfl (fun hc => ?_) (fun hc => ?_)
  · replace h := h.1 hc
    refine wp_seq ?_
    refine wp_region_lit ?_
    refine st_val (.int .i64 0) (wn rfl) rfl (by simp only [f0, f1, f2]; rfl) ?_
    refine wpList_nil ?_
    refine then_normal ?_
    refine wp_ret ?_
    refine then_ret ?_
    exact end_ret (r_res1 (v := .int .i64 0) Try.results8 ⟨rfl, trivial⟩) rfl h
  · replace h := h.2 hc
    refine wp_skip ?_
    refine then_normal ?_
    refine wp_seq ?_
    refine wp_region_lit ?_
    refine st_val (.pointer (some l)) (wn rfl) rfl (by simp only [f0, f1, f2]; rfl) ?_
    refine st_val (Sl.v row) (wn rfl) rfl (by simp only [f0, f1, f2]; rfl) ?_
    obtain ⟨ad, hx, h⟩ := h
    refine st_val (.pointer (some ad)) (wn rfl) (r_indexS (s := row) (Try.runUnderlying22 _) (Try.sizeOf34 _) rfl rfl hx) (by simp only [f0, f1, f2]; rfl) ?_
    refine st_val (.pointer (some (Addr.add ad 0))) (wn rfl) (r_field (Try.runUnderlying34 _) rfl (Try.sizeOf3 _) rfl rfl) (by simp only [f0, f1, f2]; rfl) ?_
    obtain ⟨x1, hx1, h⟩ := h
    refine st_val (.int .i64 x1) (wn rfl) (r_load1 (Try.isAgg3 _) rfl (Cells.one hx1)) (by simp only [f0, f1, f2]; rfl) ?_
    refine st_val (.int .i64 (IntKind.i64.wrap (x1 - 1))) (wn rfl) rfl (by simp only [f0, f1, f2]; rfl) ?_
    refine st_one (wn rfl) ?_
    refine o_enter (args := #[.pointer (some l), .int .i64 (IntKind.i64.wrap (x1 - 1))]) (r_enter Try.call18 rfl) (h.mono ?_)
    clear h
    rintro _ w_ ⟨x00, x01, x11, rfl, h⟩
    refine ⟨_, _, rfl, (by simp only [f0, f1, f2]; rfl), ?_⟩
    refine st_val (.tuple #[.agg #[.int .i64 x00, .int .i64 x01], .bool x11]) (wn rfl) rfl (by simp only [f0, f1, f2]; rfl) ?_
    refine st_val (.agg #[.int .i64 x00, .int .i64 x01]) (wn rfl) rfl (by simp only [f0, f1, f2]; rfl) ?_
    refine st_val (.bool x11) (wn rfl) rfl (by simp only [f0, f1, f2]; rfl) ?_
    refine st_one (wn rfl) ?_
    refine o_allocB (zs := [.int .i64 0, .int .i64 0]) (Try.zeroValue50 _) rfl (fun b => by simp only [f0, f1, f2]; rfl) (fun b w_1 hn hO hb => ?_)
    have hn_b : w_.heap.size ≤ b := hn
    have hA : Only [] w_ w_1 := hO
    refine st_one (wn rfl) ?_
    refine o_storeB (vs := [.int .i64 x00, .int .i64 x01]) (cs' := [.int .i64 x00, .int .i64 x01]) (Try.sizeOf50 _) rfl rfl rfl rfl hb (Nat.le_of_ble_eq_true rfl) rfl (f3 _ _) (fun w_2 hO1 hb1 => ?_)
    have hA1 := hA.new hO1 hn_b
    refine st_val (.bool x11) (wn rfl) rfl (by simp only [f0, f1, f2]; rfl) ?_
    refine wpList_nil ?_
    refine then_normal ?_
    refine wp_seq ?_
    refine wp_seq ?_
    replace h := h b w_2 hn_b hb1.lt hA1
    obtain ⟨ad1, hx2, h⟩ := h
    obtain ⟨x2, hx3, h⟩ := h
    obtain ⟨x3, hx4, h⟩ := h
    obtain ⟨J_, hJ, h⟩ := h
    refine wp_cut (fun a' w' => ∃ t39 : Bool, (∃ us : Nat → Value, a' = (⟨(fillin us 0 (some (.pointer (some l)) :: some (Sl.v row) :: some undef :: some undef :: some (.int .i64 0) :: some (.pointer (some ⟨b, 0, none⟩)) :: some (.bool x11) :: some (Sl.v row) :: some (.int .i64 (↑(Sl.n row) : Int)) :: some (.bool ((↑(Sl.n row) : Int) == 0)) :: some (.tuple #[.agg #[.int .i64 x00, .int .i64 x01], .bool x11]) :: some (.pointer (some l)) :: some (Sl.v row) :: some (.pointer (some ad)) :: some (.pointer (some (Addr.add ad 0))) :: some (.int .i64 x1) :: some (.int .i64 (IntKind.i64.wrap (x1 - 1))) :: some (.tuple #[.agg #[.int .i64 x00, .int .i64 x01], .bool x11]) :: some (.agg #[.int .i64 x00, .int .i64 x01]) :: some (.bool x11) :: none :: none :: none :: none :: none :: none :: none :: none :: none :: none :: none :: none :: none :: none :: none :: none :: none :: none :: none :: some (.bool t39) :: some undef :: some undef :: some undef :: some undef :: some undef :: some undef :: some undef :: some undef :: some undef :: some undef :: some undef :: some undef :: some undef :: some undef :: some undef :: some undef :: some undef :: some undef :: some undef :: some undef :: some undef :: some undef :: some undef :: some undef :: some undef :: some undef :: some undef :: [])).toArray, []⟩ : Act)) ∧ Blk w' b 50 [.int .i64 x00, .int .i64 x01] ∧ J_ t39 w') ?_ ?_
    · clear h
      rintro a0 w_3 ⟨t39, ⟨us, hF⟩, hb2, h⟩
      simp only [fillin, Nat.reduceAdd] at hF
      subst hF
      replace h := hJ _ _ h
      refine then_normal ?_
      refine wp_cond_split (t := t39) rfl (fun hc1 => ?_) (fun hc1 => ?_)
      · replace h := h.1 hc1
        refine wp_seq ?_
        refine wp_region_lit ?_
        refine st_val (.int .i64 1) (wn rfl) rfl (by simp only [f0, f1, f2]; rfl) ?_
        refine wpList_nil ?_
        refine then_normal ?_
        refine wp_ret ?_
        refine then_ret ?_
        exact end_ret (r_res1 (v := .int .i64 1) Try.results8 ⟨rfl, trivial⟩) rfl h
      · replace h := h.2 hc1
        refine wp_skip ?_
        refine then_normal ?_
        refine wp_seq ?_
        obtain ⟨x4, hx5, h⟩ := h
        obtain ⟨x5, hx6, h⟩ := h
        obtain ⟨x6, hx7, h⟩ := h
        obtain ⟨hi, mx, hx8, h⟩ := h
        refine e_region (EL [(23, [b, (Addr.add l 2).block, (Addr.add (Addr.add l 0) 0).block]), (24, [b]), (27, [])]) Try.checked.mixed ?_
        have hO2 := Only.drew w_3
        have hx9 : Cells w_3.drew _ _ := hx5
        have hx10 : Cells w_3.drew _ _ := hx6
        have hx11 : Cells w_3.drew _ _ := hx7
        generalize w_3.drew = w_4 at *
        have hA2 : Only [] w_3 w_4 := hO2
        have hb3 := hO2.blk hb2 (by simp)
        refine e_take 0 [25, 26, 27] [] (.pointer (some l)) (fun _ => True) rfl (by kernel_rfl) (by kernel_rfl) (by kernel_rfl) (by kernel_rfl) (by kernel_rfl) (by kernel_rfl) (fun _ _ _ h => h) el_true (fun w _ => el_quiet rfl w) trivial (y_val (wn rfl) (fun w' hw' => rfl)) (by simp only [f0, f1, f2]; rfl) ?_
        refine e_take 1 [2, 3, 4, 21, 24, 25, 26, 27] [0] (.pointer (some l)) (fun _ => True) rfl (by kernel_rfl) (by kernel_rfl) (by kernel_rfl) (by kernel_rfl) (by kernel_rfl) (by kernel_rfl) (fun _ _ _ h => h) el_true (fun w _ => el_quiet rfl w) trivial (y_val (wn rfl) (fun w' hw' => rfl)) (by simp only [f0, f1, f2]; rfl) ?_
        refine e_take 2 [3, 4, 21, 24, 25, 26, 27] [0, 1] (.pointer (some l)) (fun _ => True) rfl (by kernel_rfl) (by kernel_rfl) (by kernel_rfl) (by kernel_rfl) (by kernel_rfl) (by kernel_rfl) (fun _ _ _ h => h) el_true (fun w _ => el_quiet rfl w) trivial (y_val (wn rfl) (fun w' hw' => rfl)) (by simp only [f0, f1, f2]; rfl) ?_
        refine e_take 3 [4, 21, 24, 25, 26, 27] [0, 1, 2] (.pointer (some (Addr.add l 2))) (fun _ => True) rfl (by kernel_rfl) (by kernel_rfl) (by kernel_rfl) (by kernel_rfl) (by kernel_rfl) (by kernel_rfl) (fun _ _ _ h => h) el_true (fun w _ => el_quiet rfl w) trivial (y_val (wn rfl) (fun w' hw' => (r_field (Try.runUnderlying54 _) rfl (Try.sizeOf22 _) rfl rfl))) (by simp only [f0, f1, f2]; rfl) ?_
        refine e_take 4 [21, 24, 25, 26, 27] [0, 1, 2, 3] (Sl.v x4) (fun w' => Cells w' (Addr.add l 2) [Sl.v x4]) rfl (by kernel_rfl) (by kernel_rfl) (by kernel_rfl) (by kernel_rfl) (by kernel_rfl) (by kernel_rfl) (fun _ _ _ h => h) (el_stable (b := (Addr.add l 2).block) (List.forall_mem_cons.2 ⟨.inr (.inr (.tail _ (.head _))), List.forall_mem_cons.2 ⟨.inl (by simp), List.forall_mem_cons.2 ⟨.inl (by simp), List.forall_mem_nil _⟩⟩⟩) keep_cells) (fun w _ => el_quiet rfl w) hx9 (y_val (wn rfl) (fun w' hw' => (r_load1 (Try.isAgg22 _) rfl (Cells.one hw')))) (by simp only [f0, f1, f2]; rfl) ?_
        refine e_take 5 [6, 12, 21, 24, 25, 26, 27] [0, 1, 2, 3, 4] (.pointer (some ⟨b, 0, none⟩)) (fun _ => True) rfl (by kernel_rfl) (by kernel_rfl) (by kernel_rfl) (by kernel_rfl) (by kernel_rfl) (by kernel_rfl) (fun _ _ _ h => h) el_true (fun w _ => el_quiet rfl w) trivial (y_val (wn rfl) (fun w' hw' => (r_field (Try.runUnderlying50 _) rfl (Try.sizeOf3 _) rfl rfl))) (by simp only [f0, f1, f2]; rfl) ?_
        refine e_take 6 [12, 21, 24, 25, 26, 27] [0, 1, 2, 3, 4, 5] (.int .i64 x00) (fun w' => Blk w' b 50 [.int .i64 x00, .int .i64 x01]) rfl (by kernel_rfl) (by kernel_rfl) (by kernel_rfl) (by kernel_rfl) (by kernel_rfl) (by kernel_rfl) (fun _ _ _ h => h) (el_stable (b := b) (List.forall_mem_cons.2 ⟨.inr (.inr (.head _)), List.forall_mem_cons.2 ⟨.inl (by simp), List.forall_mem_cons.2 ⟨.inl (by simp), List.forall_mem_nil _⟩⟩⟩) keep_blk) (fun w _ => el_quiet rfl w) hb3 (y_val (wn rfl) (fun w' hw' => (r_load1 (Try.isAgg3 _) rfl (hw'.cell 0)))) (by simp only [f0, f1, f2]; rfl) ?_
        refine e_take 7 [8, 9, 10, 11, 12, 21, 24, 25, 26, 27] [0, 1, 2, 3, 4, 5, 6] (.pointer (some l)) (fun _ => True) rfl (by kernel_rfl) (by kernel_rfl) (by kernel_rfl) (by kernel_rfl) (by kernel_rfl) (by kernel_rfl) (fun _ _ _ h => h) el_true (fun w _ => el_quiet rfl w) trivial (y_val (wn rfl) (fun w' hw' => rfl)) (by simp only [f0, f1, f2]; rfl) ?_
        refine e_take 8 [9, 10, 11, 12, 21, 24, 25, 26, 27] [0, 1, 2, 3, 4, 5, 6, 7] (.pointer (some l)) (fun _ => True) rfl (by kernel_rfl) (by kernel_rfl) (by kernel_rfl) (by kernel_rfl) (by kernel_rfl) (by kernel_rfl) (fun _ _ _ h => h) el_true (fun w _ => el_quiet rfl w) trivial (y_val (wn rfl) (fun w' hw' => rfl)) (by simp only [f0, f1, f2]; rfl) ?_
        refine e_take 9 [10, 11, 12, 21, 24, 25, 26, 27] [0, 1, 2, 3, 4, 5, 6, 7, 8] (.pointer (some (Addr.add l 0))) (fun _ => True) rfl (by kernel_rfl) (by kernel_rfl) (by kernel_rfl) (by kernel_rfl) (by kernel_rfl) (by kernel_rfl) (fun _ _ _ h => h) el_true (fun w _ => el_quiet rfl w) trivial (y_val (wn rfl) (fun w' hw' => (r_field (Try.runUnderlying54 _) rfl (Try.sizeOf50 _) rfl rfl))) (by simp only [f0, f1, f2]; rfl) ?_
        refine e_take 10 [11, 12, 21, 24, 25, 26, 27] [0, 1, 2, 3, 4, 5, 6, 7, 8, 9] (.pointer (some (Addr.add (Addr.add l 0) 0))) (fun _ => True) rfl (by kernel_rfl) (by kernel_rfl) (by kernel_rfl) (by kernel_rfl) (by kernel_rfl) (by kernel_rfl) (fun _ _ _ h => h) el_true (fun w _ => el_quiet rfl w) trivial (y_val (wn rfl) (fun w' hw' => (r_field (Try.runUnderlying50 _) rfl (Try.sizeOf3 _) rfl rfl))) (by simp only [f0, f1, f2]; rfl) ?_
        refine e_take 11 [12, 21, 24, 25, 26, 27] [0, 1, 2, 3, 4, 5, 6, 7, 8, 9, 10] (.int .i64 x5) (fun w' => Cells w' (Addr.add (Addr.add l 0) 0) [.int .i64 x5]) rfl (by kernel_rfl) (by kernel_rfl) (by kernel_rfl) (by kernel_rfl) (by kernel_rfl) (by kernel_rfl) (fun _ _ _ h => h) (el_stable (b := (Addr.add (Addr.add l 0) 0).block) (List.forall_mem_cons.2 ⟨.inr (.inr (.tail _ (.tail _ (.head _)))), List.forall_mem_cons.2 ⟨.inl (by simp), List.forall_mem_cons.2 ⟨.inl (by simp), List.forall_mem_nil _⟩⟩⟩) keep_cells) (fun w _ => el_quiet rfl w) hx10 (y_val (wn rfl) (fun w' hw' => (r_load1 (Try.isAgg3 _) rfl (Cells.one hw')))) (by simp only [f0, f1, f2]; rfl) ?_
        refine e_take 12 [21, 24, 25, 26, 27] [0, 1, 2, 3, 4, 5, 6, 7, 8, 9, 10, 11] (.int .i64 (IntKind.i64.wrap (x00 - x5))) (fun _ => True) rfl (by kernel_rfl) (by kernel_rfl) (by kernel_rfl) (by kernel_rfl) (by kernel_rfl) (by kernel_rfl) (fun _ _ _ h => h) el_true (fun w _ => el_quiet rfl w) trivial (y_val (wn rfl) (fun w' hw' => rfl)) (by simp only [f0, f1, f2]; rfl) ?_
        refine e_take 13 [14, 20, 21, 24, 25, 26, 27] [0, 1, 2, 3, 4, 5, 6, 7, 8, 9, 10, 11, 12] (.pointer (some ⟨b, 0, none⟩)) (fun _ => True) rfl (by kernel_rfl) (by kernel_rfl) (by kernel_rfl) (by kernel_rfl) (by kernel_rfl) (by kernel_rfl) (fun _ _ _ h => h) el_true (fun w _ => el_quiet rfl w) trivial (y_val (wn rfl) (fun w' hw' => (r_field (Try.runUnderlying50 _) rfl (Try.sizeOf3 _) rfl rfl))) (by simp only [f0, f1, f2]; rfl) ?_
        refine e_take 14 [20, 21, 24, 25, 26, 27] [0, 1, 2, 3, 4, 5, 6, 7, 8, 9, 10, 11, 12, 13] (.int .i64 x00) (fun w' => Blk w' b 50 [.int .i64 x00, .int .i64 x01]) rfl (by kernel_rfl) (by kernel_rfl) (by kernel_rfl) (by kernel_rfl) (by kernel_rfl) (by kernel_rfl) (fun _ _ _ h => h) (el_stable (b := b) (List.forall_mem_cons.2 ⟨.inr (.inr (.head _)), List.forall_mem_cons.2 ⟨.inl (by simp), List.forall_mem_cons.2 ⟨.inl (by simp), List.forall_mem_nil _⟩⟩⟩) keep_blk) (fun w _ => el_quiet rfl w) hb3 (y_val (wn rfl) (fun w' hw' => (r_load1 (Try.isAgg3 _) rfl (hw'.cell 0)))) (by simp only [f0, f1, f2]; rfl) ?_
        refine e_take 15 [16, 17, 18, 19, 20, 21, 24, 25, 26, 27] [0, 1, 2, 3, 4, 5, 6, 7, 8, 9, 10, 11, 12, 13, 14] (.pointer (some l)) (fun _ => True) rfl (by kernel_rfl) (by kernel_rfl) (by kernel_rfl) (by kernel_rfl) (by kernel_rfl) (by kernel_rfl) (fun _ _ _ h => h) el_true (fun w _ => el_quiet rfl w) trivial (y_val (wn rfl) (fun w' hw' => rfl)) (by simp only [f0, f1, f2]; rfl) ?_
        refine e_take 16 [17, 18, 19, 20, 21, 24, 25, 26, 27] [0, 1, 2, 3, 4, 5, 6, 7, 8, 9, 10, 11, 12, 13, 14, 15] (.pointer (some l)) (fun _ => True) rfl (by kernel_rfl) (by kernel_rfl) (by kernel_rfl) (by kernel_rfl) (by kernel_rfl) (by kernel_rfl) (fun _ _ _ h => h) el_true (fun w _ => el_quiet rfl w) trivial (y_val (wn rfl) (fun w' hw' => rfl)) (by simp only [f0, f1, f2]; rfl) ?_
        refine e_take 17 [18, 19, 20, 21, 24, 25, 26, 27] [0, 1, 2, 3, 4, 5, 6, 7, 8, 9, 10, 11, 12, 13, 14, 15, 16] (.pointer (some (Addr.add l 0))) (fun _ => True) rfl (by kernel_rfl) (by kernel_rfl) (by kernel_rfl) (by kernel_rfl) (by kernel_rfl) (by kernel_rfl) (fun _ _ _ h => h) el_true (fun w _ => el_quiet rfl w) trivial (y_val (wn rfl) (fun w' hw' => (r_field (Try.runUnderlying54 _) rfl (Try.sizeOf50 _) rfl rfl))) (by simp only [f0, f1, f2]; rfl) ?_
        refine e_take 18 [19, 20, 21, 24, 25, 26, 27] [0, 1, 2, 3, 4, 5, 6, 7, 8, 9, 10, 11, 12, 13, 14, 15, 16, 17] (.pointer (some (Addr.add (Addr.add l 0) 0))) (fun _ => True) rfl (by kernel_rfl) (by kernel_rfl) (by kernel_rfl) (by kernel_rfl) (by kernel_rfl) (by kernel_rfl) (fun _ _ _ h => h) el_true (fun w _ => el_quiet rfl w) trivial (y_val (wn rfl) (fun w' hw' => (r_field (Try.runUnderlying50 _) rfl (Try.sizeOf3 _) rfl rfl))) (by simp only [f0, f1, f2]; rfl) ?_
        refine e_take 19 [20, 21, 24, 25, 26, 27] [0, 1, 2, 3, 4, 5, 6, 7, 8, 9, 10, 11, 12, 13, 14, 15, 16, 17, 18] (.int .i64 x6) (fun w' => Cells w' (Addr.add (Addr.add l 0) 0) [.int .i64 x6]) rfl (by kernel_rfl) (by kernel_rfl) (by kernel_rfl) (by kernel_rfl) (by kernel_rfl) (by kernel_rfl) (fun _ _ _ h => h) (el_stable (b := (Addr.add (Addr.add l 0) 0).block) (List.forall_mem_cons.2 ⟨.inr (.inr (.tail _ (.tail _ (.head _)))), List.forall_mem_cons.2 ⟨.inl (by simp), List.forall_mem_cons.2 ⟨.inl (by simp), List.forall_mem_nil _⟩⟩⟩) keep_cells) (fun w _ => el_quiet rfl w) hx11 (y_val (wn rfl) (fun w' hw' => (r_load1 (Try.isAgg3 _) rfl (Cells.one hw')))) (by simp only [f0, f1, f2]; rfl) ?_
        refine e_take 20 [21, 24, 25, 26, 27] [0, 1, 2, 3, 4, 5, 6, 7, 8, 9, 10, 11, 12, 13, 14, 15, 16, 17, 18, 19] (.int .i64 (IntKind.i64.wrap (x00 - x6))) (fun _ => True) rfl (by kernel_rfl) (by kernel_rfl) (by kernel_rfl) (by kernel_rfl) (by kernel_rfl) (by kernel_rfl) (fun _ _ _ h => h) el_true (fun w _ => el_quiet rfl w) trivial (y_val (wn rfl) (fun w' hw' => rfl)) (by simp only [f0, f1, f2]; rfl) ?_
        refine e_take 21 [24, 25, 26, 27] [0, 1, 2, 3, 4, 5, 6, 7, 8, 9, 10, 11, 12, 13, 14, 15, 16, 17, 18, 19, 20] (Sl.v (Sl.cut x4 0 hi mx 4)) (fun _ => True) rfl (by kernel_rfl) (by kernel_rfl) (by kernel_rfl) (by kernel_rfl) (by kernel_rfl) (by kernel_rfl) (fun _ _ _ h => h) el_true (fun w _ => el_quiet rfl w) trivial (y_val (wn rfl) (fun w' hw' => (r_slice011 (s := x4) (Try.runUnderlying22 _) (Try.sizeOf34 _) rfl (congrArg (Value.int _) (hx8.1)) (congrArg (Value.int _) (hx8.2.1)) (by first | exact hx8.2.2.1 | omega) (by first | exact hx8.2.2.2.1 | omega) (by first | exact hx8.2.2.2.2 | omega)))) (by simp only [f0, f1, f2]; rfl) ?_
        refine e_take 22 [23, 24, 25, 26, 27] [0, 1, 2, 3, 4, 5, 6, 7, 8, 9, 10, 11, 12, 13, 14, 15, 16, 17, 18, 19, 20, 21] (Sl.v row) (fun _ => True) rfl (by kernel_rfl) (by kernel_rfl) (by kernel_rfl) (by kernel_rfl) (by kernel_rfl) (by kernel_rfl) (fun _ _ _ h => h) el_true (fun w _ => el_quiet rfl w) trivial (y_val (wn rfl) (fun w' hw' => rfl)) (by simp only [f0, f1, f2]; rfl) ?_
        replace h := h w_4 hA2
        refine e_one 23 rfl (by kernel_rfl) (wn rfl) ?_
        refine o_enter (args := #[Sl.v row]) (r_enter Try.call16 rfl) (h.mono ?_)
        clear h
        rintro _ w_5 ⟨x7, rfl, hs1, h⟩
        refine ⟨_, _, rfl, (by simp only [f0, f1, f2]; rfl), ?_⟩
        have hb4 := hs1.blk hb3 (by simp)
        have hx12 := keep_cells _ _ (hs1 _ (.tail _ (.head _))) hx9
        have hx13 := keep_cells _ _ (hs1 _ (.tail _ (.tail _ (.head _)))) hx10
        have hx14 := keep_cells _ _ (hs1 _ (.tail _ (.tail _ (.head _)))) hx11
        refine ⟨el_loud rfl hs1, ?_⟩
        obtain ⟨x8, w_6, hr, hs2, h⟩ := h
        refine e_one 24 rfl (by kernel_rfl) (wn rfl) ?_
        refine o_val (Sl.v x8) (r_builtin_append rfl hr) (by simp only [f0, f1, f2]; rfl) ?_
        have hb5 := hs2.blk hb4 (by simp)
        refine ⟨el_loud rfl hs2, ?_⟩
        refine e_take 25 [26, 27] [0, 1, 2, 3, 4, 5, 6, 7, 8, 9, 10, 11, 12, 13, 14, 15, 16, 17, 18, 19, 20, 21, 22, 23, 24] (.pointer (some l)) (fun _ => True) rfl (by kernel_rfl) (by kernel_rfl) (by kernel_rfl) (by kernel_rfl) (by kernel_rfl) (by kernel_rfl) (fun _ _ _ h => h) el_true (fun w _ => el_quiet rfl w) trivial (y_val (wn rfl) (fun w' hw' => rfl)) (by simp only [f0, f1, f2]; rfl) ?_
        refine e_take 26 [27] [0, 1, 2, 3, 4, 5, 6, 7, 8, 9, 10, 11, 12, 13, 14, 15, 16, 17, 18, 19, 20, 21, 22, 23, 24, 25] (.pointer (some (Addr.add l 2))) (fun _ => True) rfl (by kernel_rfl) (by kernel_rfl) (by kernel_rfl) (by kernel_rfl) (by kernel_rfl) (by kernel_rfl) (fun _ _ _ h => h) el_true (fun w _ => el_quiet rfl w) trivial (y_val (wn rfl) (fun w' hw' => (r_field (Try.runUnderlying54 _) rfl (Try.sizeOf22 _) rfl rfl))) (by simp only [f0, f1, f2]; rfl) ?_
        obtain ⟨bk, off, cells, ety, hx15, hx16, hx17, hne, h⟩ := h
        refine e_one 27 rfl (by kernel_rfl) (wn rfl) ?_
        refine o_storeB (b := bk) (o := off) (vs := [Sl.v x8]) (Try.sizeOf22 _) (congrArg (fun z => Value.pointer (some z)) hx15) rfl rfl rfl hx16 hx17 rfl (f3 _ _) (fun w_7 hO3 hb6 => ?_)
        replace h := h w_7 hO3 hb6
        have hb7 := hO3.blk hb5 (by simpa using hne)
        have hS : Same [] w_6 w_7 := same_nil
        refine ⟨el_loud rfl hS, ?_⟩
        refine e_done (by kernel_rfl) ?_
        refine then_normal ?_
        refine wp_seq ?_
        refine wp_region_lit ?_
        refine st_val (.int .i64 0) (wn rfl) rfl (by simp only [f0, f1, f2]; rfl) ?_
        refine wpList_nil ?_
        refine then_normal ?_
        refine wp_ret ?_
        exact end_ret (r_res1 (v := .int .i64 0) Try.results8 ⟨rfl, trivial⟩) rfl h
    · refine e_region (EL [(17, [b])]) Try.checked.mixed ?_
      have hO4 := Only.drew w_2
      have hx18 : Cells w_2.drew _ _ := hx3
      have hx19 : Cells w_2.drew _ _ := hx4
      generalize w_2.drew = w_8 at *
      have hA3 : Only [] w_2 w_8 := hO4
      have hb8 := hO4.blk hb1 (by simp)
      refine e_take 0 [1, 2, 3, 9, 10, 11, 12, 13, 14, 15, 16, 17, 18, 19] [] (Sl.v row) (fun _ => True) rfl (by kernel_rfl) (by kernel_rfl) (by kernel_rfl) (by kernel_rfl) (by kernel_rfl) (by kernel_rfl) (fun _ _ _ h => h) el_true (fun w _ => el_quiet rfl w) trivial (y_val (wn rfl) (fun w' hw' => rfl)) (by simp only [f0, f1, f2]; rfl) ?_
      refine e_take 1 [2, 3, 9, 10, 11, 12, 13, 14, 15, 16, 17, 18, 19] [0] (.pointer (some ad1)) (fun _ => True) rfl (by kernel_rfl) (by kernel_rfl) (by kernel_rfl) (by kernel_rfl) (by kernel_rfl) (by kernel_rfl) (fun _ _ _ h => h) el_true (fun w _ => el_quiet rfl w) trivial (y_val (wn rfl) (fun w' hw' => (r_indexS (s := row) (Try.runUnderlying22 _) (Try.sizeOf34 _) rfl rfl hx2))) (by simp only [f0, f1, f2]; rfl) ?_
      refine e_take 2 [3, 9, 10, 11, 12, 13, 14, 15, 16, 17, 18, 19] [0, 1] (.pointer (some (Addr.add ad1 0))) (fun _ => True) rfl (by kernel_rfl) (by kernel_rfl) (by kernel_rfl) (by kernel_rfl) (by kernel_rfl) (by kernel_rfl) (fun _ _ _ h => h) el_true (fun w _ => el_quiet rfl w) trivial (y_val (wn rfl) (fun w' hw' => (r_field (Try.runUnderlying34 _) rfl (Try.sizeOf3 _) rfl rfl))) (by simp only [f0, f1, f2]; rfl) ?_
      refine e_take 3 [9, 10, 11, 12, 13, 14, 15, 16, 17, 18, 19] [0, 1, 2] (.int .i64 x2) (fun w' => Cells w' (Addr.add ad1 0) [.int .i64 x2]) rfl (by kernel_rfl) (by kernel_rfl) (by kernel_rfl) (by kernel_rfl) (by kernel_rfl) (by kernel_rfl) (fun _ _ _ h => h) (el_stable (b := (Addr.add ad1 0).block) (List.forall_mem_cons.2 ⟨.inl (by simp), List.forall_mem_nil _⟩) keep_cells) (fun w _ => el_quiet rfl w) hx18 (y_val (wn rfl) (fun w' hw' => (r_load1 (Try.isAgg3 _) rfl (Cells.one hw')))) (by simp only [f0, f1, f2]; rfl) ?_
      refine e_take 4 [5, 6, 7, 8, 9, 10, 11, 12, 13, 14, 15, 16, 17, 18, 19] [0, 1, 2, 3] (.pointer (some l)) (fun _ => True) rfl (by kernel_rfl) (by kernel_rfl) (by kernel_rfl) (by kernel_rfl) (by kernel_rfl) (by kernel_rfl) (fun _ _ _ h => h) el_true (fun w _ => el_quiet rfl w) trivial (y_val (wn rfl) (fun w' hw' => rfl)) (by simp only [f0, f1, f2]; rfl) ?_
      refine e_take 5 [6, 7, 8, 9, 10, 11, 12, 13, 14, 15, 16, 17, 18, 19] [0, 1, 2, 3, 4] (.pointer (some l)) (fun _ => True) rfl (by kernel_rfl) (by kernel_rfl) (by kernel_rfl) (by kernel_rfl) (by kernel_rfl) (by kernel_rfl) (fun _ _ _ h => h) el_true (fun w _ => el_quiet rfl w) trivial (y_val (wn rfl) (fun w' hw' => rfl)) (by simp only [f0, f1, f2]; rfl) ?_
      refine e_take 6 [7, 8, 9, 10, 11, 12, 13, 14, 15, 16, 17, 18, 19] [0, 1, 2, 3, 4, 5] (.pointer (some (Addr.add l 0))) (fun _ => True) rfl (by kernel_rfl) (by kernel_rfl) (by kernel_rfl) (by kernel_rfl) (by kernel_rfl) (by kernel_rfl) (fun _ _ _ h => h) el_true (fun w _ => el_quiet rfl w) trivial (y_val (wn rfl) (fun w' hw' => (r_field (Try.runUnderlying54 _) rfl (Try.sizeOf50 _) rfl rfl))) (by simp only [f0, f1, f2]; rfl) ?_
      refine e_take 7 [8, 9, 10, 11, 12, 13, 14, 15, 16, 17, 18, 19] [0, 1, 2, 3, 4, 5, 6] (.pointer (some (Addr.add (Addr.add l 0) 0))) (fun _ => True) rfl (by kernel_rfl) (by kernel_rfl) (by kernel_rfl) (by kernel_rfl) (by kernel_rfl) (by kernel_rfl) (fun _ _ _ h => h) el_true (fun w _ => el_quiet rfl w) trivial (y_val (wn rfl) (fun w' hw' => (r_field (Try.runUnderlying50 _) rfl (Try.sizeOf3 _) rfl rfl))) (by simp only [f0, f1, f2]; rfl) ?_
      refine e_take 8 [9, 10, 11, 12, 13, 14, 15, 16, 17, 18, 19] [0, 1, 2, 3, 4, 5, 6, 7] (.int .i64 x3) (fun w' => Cells w' (Addr.add (Addr.add l 0) 0) [.int .i64 x3]) rfl (by kernel_rfl) (by kernel_rfl) (by kernel_rfl) (by kernel_rfl) (by kernel_rfl) (by kernel_rfl) (fun _ _ _ h => h) (el_stable (b := (Addr.add (Addr.add l 0) 0).block) (List.forall_mem_cons.2 ⟨.inl (by simp), List.forall_mem_nil _⟩) keep_cells) (fun w _ => el_quiet rfl w) hx19 (y_val (wn rfl) (fun w' hw' => (r_load1 (Try.isAgg3 _) rfl (Cells.one hw')))) (by simp only [f0, f1, f2]; rfl) ?_
      refine e_take 9 [10, 11, 12, 13, 14, 15, 16, 17, 18, 19] [0, 1, 2, 3, 4, 5, 6, 7, 8] (.bool (decide (x2 ≤ x3))) (fun _ => True) rfl (by kernel_rfl) (by kernel_rfl) (by kernel_rfl) (by kernel_rfl) (by kernel_rfl) (by kernel_rfl) (fun _ _ _ h => h) el_true (fun w _ => el_quiet rfl w) trivial (y_val (wn rfl) (fun w' hw' => rfl)) (by simp only [f0, f1, f2]; rfl) ?_
      refine e_take 10 [11, 12, 13, 14, 15, 16, 17, 18, 19] [0, 1, 2, 3, 4, 5, 6, 7, 8, 9] (.bool (decide (x2 ≤ x3))) (fun _ => True) rfl (by kernel_rfl) (by kernel_rfl) (by kernel_rfl) (by kernel_rfl) (by kernel_rfl) (by kernel_rfl) (fun _ _ _ h => h) el_true (fun w _ => el_quiet rfl w) trivial (y_val (wn rfl) (fun w' hw' => rfl)) (by simp only [f0, f1, f2]; rfl) ?_
      replace h := h w_8 hA3
      rcases Bool.eq_false_or_eq_true (decide (x2 ≤ x3)) with hg | hg
      · replace h := h.1 hg
        refine e_take 11 [12, 13, 14, 15, 16, 17, 18, 19] [0, 1, 2, 3, 4, 5, 6, 7, 8, 9, 10] (undef) (fun _ => True) rfl (by kernel_rfl) (by kernel_rfl) (by kernel_rfl) (by kernel_rfl) (by kernel_rfl) (by kernel_rfl) (fun _ _ _ h => h) el_true (fun w _ => el_quiet rfl w) trivial (y_no (wt rfl rfl rfl (congrArg Value.bool hg) rfl)) (by simp only [f0, f1, f2]; rfl) ?_
        refine e_take 12 [13, 14, 15, 16, 17, 18, 19] [0, 1, 2, 3, 4, 5, 6, 7, 8, 9, 10, 11] (undef) (fun _ => True) rfl (by kernel_rfl) (by kernel_rfl) (by kernel_rfl) (by kernel_rfl) (by kernel_rfl) (by kernel_rfl) (fun _ _ _ h => h) el_true (fun w _ => el_quiet rfl w) trivial (y_no (wt rfl rfl rfl (congrArg Value.bool hg) rfl)) (by simp only [f0, f1, f2]; rfl) ?_
        refine e_take 13 [14, 15, 16, 17, 18, 19] [0, 1, 2, 3, 4, 5, 6, 7, 8, 9, 10, 11, 12] (.bool true) (fun _ => True) rfl (by kernel_rfl) (by kernel_rfl) (by kernel_rfl) (by kernel_rfl) (by kernel_rfl) (by kernel_rfl) (fun _ _ _ h => h) el_true (fun w _ => el_quiet rfl w) trivial (y_val (wn rfl) (fun w' hw' => (r_pickT (congrArg Value.bool hg) rfl))) (by simp only [f0, f1, f2]; rfl) ?_
        refine e_take 14 [15, 16, 17, 18, 19] [0, 1, 2, 3, 4, 5, 6, 7, 8, 9, 10, 11, 12, 13] (.bool true) (fun _ => True) rfl (by kernel_rfl) (by kernel_rfl) (by kernel_rfl) (by kernel_rfl) (by kernel_rfl) (by kernel_rfl) (fun _ _ _ h => h) el_true (fun w _ => el_quiet rfl w) trivial (y_val (wn rfl) (fun w' hw' => rfl)) (by simp only [f0, f1, f2]; rfl) ?_
        refine e_take 15 [17, 18, 19] [0, 1, 2, 3, 4, 5, 6, 7, 8, 9, 10, 11, 12, 13, 14] (undef) (fun _ => True) rfl (by kernel_rfl) (by kernel_rfl) (by kernel_rfl) (by kernel_rfl) (by kernel_rfl) (by kernel_rfl) (fun _ _ _ h => h) el_true (fun w _ => el_quiet rfl w) trivial (y_no (wt rfl rfl rfl rfl rfl)) (by simp only [f0, f1, f2]; rfl) ?_
        refine e_take 16 [17, 18, 19] [0, 1, 2, 3, 4, 5, 6, 7, 8, 9, 10, 11, 12, 13, 14, 15] (undef) (fun _ => True) rfl (by kernel_rfl) (by kernel_rfl) (by kernel_rfl) (by kernel_rfl) (by kernel_rfl) (by kernel_rfl) (fun _ _ _ h => h) el_true (fun w _ => el_quiet rfl w) trivial (y_no (wt rfl rfl rfl rfl rfl)) (by simp only [f0, f1, f2]; rfl) ?_
        refine e_take 17 [18, 19] [0, 1, 2, 3, 4, 5, 6, 7, 8, 9, 10, 11, 12, 13, 14, 15, 16] (undef) (fun _ => True) rfl (by kernel_rfl) (by kernel_rfl) (by kernel_rfl) (by kernel_rfl) (by kernel_rfl) (by kernel_rfl) (fun _ _ _ h => h) el_true (fun w _ => el_loud rfl (Same.refl _ w)) trivial (y_no (wt rfl rfl rfl rfl rfl)) (by simp only [f0, f1, f2]; rfl) ?_
        refine e_take 18 [19] [0, 1, 2, 3, 4, 5, 6, 7, 8, 9, 10, 11, 12, 13, 14, 15, 16, 17] (undef) (fun _ => True) rfl (by kernel_rfl) (by kernel_rfl) (by kernel_rfl) (by kernel_rfl) (by kernel_rfl) (by kernel_rfl) (fun _ _ _ h => h) el_true (fun w _ => el_quiet rfl w) trivial (y_no (wt rfl rfl rfl rfl rfl)) (by simp only [f0, f1, f2]; rfl) ?_
        refine e_take 19 [] [0, 1, 2, 3, 4, 5, 6, 7, 8, 9, 10, 11, 12, 13, 14, 15, 16, 17, 18] (.bool true) (fun _ => True) rfl (by kernel_rfl) (by kernel_rfl) (by kernel_rfl) (by kernel_rfl) (by kernel_rfl) (by kernel_rfl) (fun _ _ _ h => h) el_true (fun w _ => el_quiet rfl w) trivial (y_val (wn rfl) (fun w' hw' => (r_pickT rfl rfl))) (by simp only [f0, f1, f2]; rfl) ?_
        refine e_done (by kernel_rfl) ?_
        exact then_normal ⟨_, (some_us rfl rfl rfl), hb8, h⟩
      · replace h := h.2 hg
        refine e_take 11 [12, 13, 14, 15, 16, 17, 18, 19] [0, 1, 2, 3, 4, 5, 6, 7, 8, 9, 10] (.bool x11) (fun _ => True) rfl (by kernel_rfl) (by kernel_rfl) (by kernel_rfl) (by kernel_rfl) (by kernel_rfl) (by kernel_rfl) (fun _ _ _ h => h) el_true (fun w _ => el_quiet rfl w) trivial (y_val (wt rfl rfl rfl (congrArg Value.bool hg) rfl) (fun w' hw' => rfl)) (by simp only [f0, f1, f2]; rfl) ?_
        refine e_take 12 [13, 14, 15, 16, 17, 18, 19] [0, 1, 2, 3, 4, 5, 6, 7, 8, 9, 10, 11] (.bool (!x11)) (fun _ => True) rfl (by kernel_rfl) (by kernel_rfl) (by kernel_rfl) (by kernel_rfl) (by kernel_rfl) (by kernel_rfl) (fun _ _ _ h => h) el_true (fun w _ => el_quiet rfl w) trivial (y_val (wt rfl rfl rfl (congrArg Value.bool hg) rfl) (fun w' hw' => rfl)) (by simp only [f0, f1, f2]; rfl) ?_
        refine e_take 13 [14, 15, 16, 17, 18, 19] [0, 1, 2, 3, 4, 5, 6, 7, 8, 9, 10, 11, 12] (.bool (!x11)) (fun _ => True) rfl (by kernel_rfl) (by kernel_rfl) (by kernel_rfl) (by kernel_rfl) (by kernel_rfl) (by kernel_rfl) (fun _ _ _ h => h) el_true (fun w _ => el_quiet rfl w) trivial (y_val (wn rfl) (fun w' hw' => (r_pickF (congrArg Value.bool hg) rfl))) (by simp only [f0, f1, f2]; rfl) ?_
        refine e_take 14 [15, 16, 17, 18, 19] [0, 1, 2, 3, 4, 5, 6, 7, 8, 9, 10, 11, 12, 13] (.bool (!x11)) (fun _ => True) rfl (by kernel_rfl) (by kernel_rfl) (by kernel_rfl) (by kernel_rfl) (by kernel_rfl) (by kernel_rfl) (fun _ _ _ h => h) el_true (fun w _ => el_quiet rfl w) trivial (y_val (wn rfl) (fun w' hw' => rfl)) (by simp only [f0, f1, f2]; rfl) ?_
        rcases Bool.eq_false_or_eq_true (!x11) with hg1 | hg1
        · replace h := h.1 hg1
          refine e_take 15 [17, 18, 19] [0, 1, 2, 3, 4, 5, 6, 7, 8, 9, 10, 11, 12, 13, 14] (undef) (fun _ => True) rfl (by kernel_rfl) (by kernel_rfl) (by kernel_rfl) (by kernel_rfl) (by kernel_rfl) (by kernel_rfl) (fun _ _ _ h => h) el_true (fun w _ => el_quiet rfl w) trivial (y_no (wt rfl rfl rfl (congrArg Value.bool hg1) rfl)) (by simp only [f0, f1, f2]; rfl) ?_
          refine e_take 16 [17, 18, 19] [0, 1, 2, 3, 4, 5, 6, 7, 8, 9, 10, 11, 12, 13, 14, 15] (undef) (fun _ => True) rfl (by kernel_rfl) (by kernel_rfl) (by kernel_rfl) (by kernel_rfl) (by kernel_rfl) (by kernel_rfl) (fun _ _ _ h => h) el_true (fun w _ => el_quiet rfl w) trivial (y_no (wt rfl rfl rfl (congrArg Value.bool hg1) rfl)) (by simp only [f0, f1, f2]; rfl) ?_
          refine e_take 17 [18, 19] [0, 1, 2, 3, 4, 5, 6, 7, 8, 9, 10, 11, 12, 13, 14, 15, 16] (undef) (fun _ => True) rfl (by kernel_rfl) (by kernel_rfl) (by kernel_rfl) (by kernel_rfl) (by kernel_rfl) (by kernel_rfl) (fun _ _ _ h => h) el_true (fun w _ => el_loud rfl (Same.refl _ w)) trivial (y_no (wt rfl rfl rfl (congrArg Value.bool hg1) rfl)) (by simp only [f0, f1, f2]; rfl) ?_
          refine e_take 18 [19] [0, 1, 2, 3, 4, 5, 6, 7, 8, 9, 10, 11, 12, 13, 14, 15, 16, 17] (undef) (fun _ => True) rfl (by kernel_rfl) (by kernel_rfl) (by kernel_rfl) (by kernel_rfl) (by kernel_rfl) (by kernel_rfl) (fun _ _ _ h => h) el_true (fun w _ => el_quiet rfl w) trivial (y_no (wt rfl rfl rfl (congrArg Value.bool hg1) rfl)) (by simp only [f0, f1, f2]; rfl) ?_
          refine e_take 19 [] [0, 1, 2, 3, 4, 5, 6, 7, 8, 9, 10, 11, 12, 13, 14, 15, 16, 17, 18] (.bool true) (fun _ => True) rfl (by kernel_rfl) (by kernel_rfl) (by kernel_rfl) (by kernel_rfl) (by kernel_rfl) (by kernel_rfl) (fun _ _ _ h => h) el_true (fun w _ => el_quiet rfl w) trivial (y_val (wn rfl) (fun w' hw' => (r_pickT (congrArg Value.bool hg1) rfl))) (by simp only [f0, f1, f2]; rfl) ?_
          refine e_done (by kernel_rfl) ?_
          exact then_normal ⟨_, (some_us rfl rfl rfl), hb8, h⟩
        · replace h := h.2 hg1
          refine e_take 15 [17, 18, 19] [0, 1, 2, 3, 4, 5, 6, 7, 8, 9, 10, 11, 12, 13, 14] (.agg #[.int .i64 x00, .int .i64 x01]) (fun w' => Blk w' b 50 [.int .i64 x00, .int .i64 x01]) rfl (by kernel_rfl) (by kernel_rfl) (by kernel_rfl) (by kernel_rfl) (by kernel_rfl) (by kernel_rfl) (fun _ _ _ h => h) (el_stable (b := b) (List.forall_mem_cons.2 ⟨.inl (by simp), List.forall_mem_nil _⟩) keep_blk) (fun w _ => el_quiet rfl w) hb8 (y_val (wt rfl rfl rfl (congrArg Value.bool hg1) rfl) (fun w' hw' => (r_loadN (Try.isAgg50 _) (Try.sizeOf50 _) rfl rfl (hw'.cellsAt 0 [.int .i64 x00, .int .i64 x01] rfl)))) (by simp only [f0, f1, f2]; rfl) ?_
          refine e_take 16 [17, 18, 19] [0, 1, 2, 3, 4, 5, 6, 7, 8, 9, 10, 11, 12, 13, 14, 15] (Sl.v row) (fun _ => True) rfl (by kernel_rfl) (by kernel_rfl) (by kernel_rfl) (by kernel_rfl) (by kernel_rfl) (by kernel_rfl) (fun _ _ _ h => h) el_true (fun w _ => el_quiet rfl w) trivial (y_val (wt rfl rfl rfl (congrArg Value.bool hg1) rfl) (fun w' hw' => rfl)) (by simp only [f0, f1, f2]; rfl) ?_
          refine e_one 17 rfl (by kernel_rfl) (wt rfl rfl rfl (congrArg Value.bool hg1) rfl) ?_
          refine o_enter (args := #[.agg #[.int .i64 x00, .int .i64 x01], Sl.v row]) (r_enter Try.call15 rfl) (h.mono ?_)
          clear h
          rintro _ w_9 ⟨x9, rfl, hs3, h⟩
          refine ⟨_, _, rfl, (by simp only [f0, f1, f2]; rfl), ?_⟩
          have hb9 := hs3.blk hb8 (by simp)
          refine ⟨el_loud rfl hs3, ?_⟩
          refine e_take 18 [19] [0, 1, 2, 3, 4, 5, 6, 7, 8, 9, 10, 11, 12, 13, 14, 15, 16, 17] (.bool (!x9)) (fun _ => True) rfl (by kernel_rfl) (by kernel_rfl) (by kernel_rfl) (by kernel_rfl) (by kernel_rfl) (by kernel_rfl) (fun _ _ _ h => h) el_true (fun w _ => el_quiet rfl w) trivial (y_val (wt rfl rfl rfl (congrArg Value.bool hg1) rfl) (fun w' hw' => rfl)) (by simp only [f0, f1, f2]; rfl) ?_
          refine e_take 19 [] [0, 1, 2, 3, 4, 5, 6, 7, 8, 9, 10, 11, 12, 13, 14, 15, 16, 17, 18] (.bool (!x9)) (fun _ => True) rfl (by kernel_rfl) (by kernel_rfl) (by kernel_rfl) (by kernel_rfl) (by kernel_rfl) (by kernel_rfl) (fun _ _ _ h => h) el_true (fun w _ => el_quiet rfl w) trivial (y_val (wn rfl) (fun w' hw' => (r_pickF (congrArg Value.bool hg1) rfl))) (by simp only [f0, f1, f2]; rfl) ?_
          refine e_done (by kernel_rfl) ?_
          exact then_normal ⟨_, (some_us rfl rfl rfl), hb9, h⟩

/-- what is to be shown of a call of pavaneref22.Same -/
def pavaneref22_Same_vc (a_ : Sl) (b : Sl) (R : Value → World → Prop) (w : World) : Prop :=
  ((((↑(Sl.n a_) : Int) != (↑(Sl.n b) : Int)) = true →
  R (.bool false) w) ∧
  (((↑(Sl.n a_) : Int) != (↑(Sl.n b) : Int)) = false →
  ∃ (I_ : Nat → Int → World → Prop) (nv1 : Nat), I_ nv1 0 w ∧
  ∀ (nv : Nat) (i : Int) (w_ : World), I_ nv i w_ →
  (((decide (i < (↑(Sl.n a_) : Int))) = true →
  ∃ ad : Addr, SlAt a_ i 4 ad ∧
  ∃ x1 : Int, Cells w_ (Addr.add ad 0) [.int .i64 x1] ∧
  ∃ ad1 : Addr, SlAt b i 4 ad1 ∧
  ∃ x2 : Int, Cells w_ (Addr.add ad1 0) [.int .i64 x2] ∧
  ∃ ad2 : Addr, ((x1 != x2) = false → SlAt a_ i 4 ad2) ∧
  ∃ x3 : Int, ((x1 != x2) = false → Cells w_ (Addr.add ad2 1) [.int .i64 x3]) ∧
  ∃ ad3 : Addr, ((x1 != x2) = false → SlAt b i 4 ad3) ∧
  ∃ x4 : Int, ((x1 != x2) = false → Cells w_ (Addr.add ad3 1) [.int .i64 x4]) ∧
  ∃ ad4 : Addr, (((x1 != x2) || (x3 != x4)) = false → SlAt a_ i 4 ad4) ∧
  ∃ x5 : Int, (((x1 != x2) || (x3 != x4)) = false → Cells w_ (Addr.add ad4 2) [.int .i64 x5]) ∧
  ∃ ad5 : Addr, (((x1 != x2) || (x3 != x4)) = false → SlAt b i 4 ad5) ∧
  ∃ x6 : Int, (((x1 != x2) || (x3 != x4)) = false → Cells w_ (Addr.add ad5 2) [.int .i64 x6]) ∧
  ∃ ad6 : Addr, ((((x1 != x2) || (x3 != x4)) || (x5 != x6)) = false → SlAt a_ i 4 ad6) ∧
  ∃ x7 : Sl, ((((x1 != x2) || (x3 != x4)) || (x5 != x6)) = false → Cells w_ (Addr.add ad6 3) [Sl.v x7]) ∧
  ∃ bs : List UInt8, ((((x1 != x2) || (x3 != x4)) || (x5 != x6)) = false → Bytes w_ x7 bs) ∧
  ∃ ad7 : Addr, ((((x1 != x2) || (x3 != x4)) || (x5 != x6)) = false → SlAt b i 4 ad7) ∧
  ∃ x8 : Sl, ((((x1 != x2) || (x3 != x4)) || (x5 != x6)) = false → Cells w_ (Addr.add ad7 3) [Sl.v x8]) ∧
  ∃ bs1 : List UInt8, ((((x1 != x2) || (x3 != x4)) || (x5 != x6)) = false → Bytes w_ x8 bs1) ∧
  ((((((x1 != x2) || (x3 != x4)) || (x5 != x6)) || (!((⟨List.toArray bs⟩ : ByteArray).toList == (⟨List.toArray bs1⟩ : ByteArray).toList))) = true →
  ∀ (w_1 : World), Only [] w_ w_1 →
  R (.bool false) w_1) ∧
  (((((x1 != x2) || (x3 != x4)) || (x5 != x6)) || (!((⟨List.toArray bs⟩ : ByteArray).toList == (⟨List.toArray bs1⟩ : ByteArray).toList))) = false →
  ∀ (w_1 : World), Only [] w_ w_1 →
  ∃ nv2 : Nat, nv2 < nv ∧ I_ nv2 (IntKind.i64.wrap (i + 1)) w_1))) ∧
  ((decide (i < (↑(Sl.n a_) : Int))) = false →
  R (.bool true) w_))))
theorem pavaneref22_Same_wp (a_ : Sl) (b : Sl) (R : Value → World → Prop) (w : World) (h : pavaneref22_Same_vc a_ b R w) :
    Calls Try.prog 24 #[Sl.v a_, Sl.v b] w fun e w' => ∃ v, e = .returned v ∧ R v w' := by
  unfold pavaneref22_Same_vc at h
  refine calls_of (k := 67) Try.func24 rfl Try.ntmps24 rfl rfl ?_
  simp only [List.replicate, List.cons_append, List.nil_append]
  refine wp_seq ?_
  refine wp_region_lit ?_
  refine st_val (.bool false) (wn rfl) rfl (by simp only [f0, f1, f2]; rfl) ?_
  refine wpList_nil ?_
  refine then_normal ?_
  refine wp_seq ?_
  refine wp_seq ?_
  refine wp_region_lit ?_
  refine st_val (Sl.v a_) (wn rfl) rfl (by simp only [f0, f1, f2]; rfl) ?_
  refine st_val (.int .i64 (↑(Sl.n a_) : Int)) (wn rfl) (r_len (s := a_) (Try.runUnderlying22 _) rfl) (by simp only [f0, f1, f2]; rfl) ?_
  refine st_val (Sl.v b) (wn rfl) rfl (by simp only [f0, f1, f2]; rfl) ?_
  refine st_val (.int .i64 (↑(Sl.n b) : Int)) (wn rfl) (r_len (s := b) (Try.runUnderlying22 _) rfl) (by simp only [f0, f1, f2]; rfl) ?_
  refine st_val (.bool ((↑(Sl.n a_) : Int) != (↑(Sl.n b) : Int))) (wn rfl) rfl (by simp only [f0, f1, f2]; rfl) ?_
  refine wpList_nil ?_
  refine then_normal ?_
  refine wp_cond_split (t := ((↑(Sl.n a_) : Int) != (↑(Sl.n b) : Int))) rfl (fun hc => ?_) (fun hc => ?_)
  · replace h := h.1 hc
    refine wp_seq ?_
    refine wp_region_lit ?_
    refine st_val (.bool false) (wn rfl) rfl (by simp only [f0, f1, f2]; rfl) ?_
    refine wpList_nil ?_
    refine then_normal ?_
    refine wp_ret ?_
    refine then_ret ?_
    exact end_ret (r_res1 (v := .bool false) Try.results24 ⟨rfl, trivial⟩) rfl h
  · replace h := h.2 hc
    refine wp_skip ?_
    refine then_normal ?_
    refine wp_seq ?_
    refine wp_seq ?_
    refine wp_region_lit ?_
    refine st_val (.int .i64 0) (wn rfl) rfl (by simp only [f0, f1, f2]; rfl) ?_
    refine wpList_nil ?_
    refine then_normal ?_
    refine wp_block ?_
    obtain ⟨I_, nv1, h0, hI⟩ := h
    refine wp_loop_ghost (fun nv' a' w' => ∃ i : Int, (∃ us : Nat → Value, a' = (⟨(fillin us 0 (some (Sl.v a_) :: some (Sl.v b) :: some undef :: some undef :: none :: some (.int .i64 i) :: some (Sl.v a_) :: some (.int .i64 (↑(Sl.n a_) : Int)) :: some (Sl.v b) :: some (.int .i64 (↑(Sl.n b) : Int)) :: some (.bool ((↑(Sl.n a_) : Int) != (↑(Sl.n b) : Int))) :: none :: none :: none :: none :: none :: none :: none :: none :: none :: none :: none :: none :: none :: none :: none :: none :: none :: none :: none :: none :: none :: none :: none :: none :: none :: none :: none :: none :: none :: none :: none :: none :: none :: none :: none :: none :: none :: none :: none :: none :: none :: none :: none :: none :: none :: none :: none :: none :: none :: none :: none :: none :: none :: none :: none :: none :: none :: none :: [])).toArray, []⟩ : Act)) ∧ I_ nv' i w') nv1 ?_ ?_
    · exact ⟨_, (some_us rfl rfl rfl), h0⟩
    · clear h0
      rintro nv a0 w_ ⟨i, ⟨us, hF⟩, h⟩
      simp only [fillin, Nat.reduceAdd] at hF
      subst hF
      replace h := hI _ _ _ h
      refine wp_seq ?_
      refine wp_seq ?_
      refine wp_region_lit ?_
      refine st_val (.int .i64 i) (wn rfl) rfl (by simp only [f0, f1, f2]; rfl) ?_
      refine st_val (Sl.v a_) (wn rfl) rfl (by simp only [f0, f1, f2]; rfl) ?_
      refine st_val (.int .i64 (↑(Sl.n a_) : Int)) (wn rfl) (r_len (s := a_) (Try.runUnderlying22 _) rfl) (by simp only [f0, f1, f2]; rfl) ?_
      refine st_val (.bool (decide (i < (↑(Sl.n a_) : Int)))) (wn rfl) rfl (by simp only [f0, f1, f2]; rfl) ?_
      refine wpList_nil ?_
      refine then_normal ?_
      refine wp_cond_split (t := (decide (i < (↑(Sl.n a_) : Int)))) rfl (fun hc1 => ?_) (fun hc1 => ?_)
      · replace h := h.1 hc1
        refine wp_skip ?_
        refine then_normal ?_
        refine wp_seq ?_
        refine wp_block ?_
        refine wp_seq ?_
        obtain ⟨ad, hx, h⟩ := h
        obtain ⟨x1, hx1, h⟩ := h
        obtain ⟨ad1, hx2, h⟩ := h
        obtain ⟨x2, hx3, h⟩ := h
        obtain ⟨ad2, hx4, h⟩ := h
        obtain ⟨x3, hx5, h⟩ := h
        obtain ⟨ad3, hx6, h⟩ := h
        obtain ⟨x4, hx7, h⟩ := h
        obtain ⟨ad4, hx8, h⟩ := h
        obtain ⟨x5, hx9, h⟩ := h
        obtain ⟨ad5, hx10, h⟩ := h
        obtain ⟨x6, hx11, h⟩ := h
        obtain ⟨ad6, hx12, h⟩ := h
        obtain ⟨x7, hx13, h⟩ := h
        obtain ⟨bs, hx14, h⟩ := h
        obtain ⟨ad7, hx15, h⟩ := h
        obtain ⟨x8, hx16, h⟩ := h
        obtain ⟨bs1, hx17, h⟩ := h
        refine wp_region_quiet_lit Try.checked.mixed (by kernel_rfl) ?_
        refine q_val (Sl.v a_) (wn rfl) (by rintro _ ⟨nd, rfl⟩; exact rfl) (by simp only [f0, f1, f2]; rfl) ?_
        refine q_val (.int .i64 i) (wn rfl) (by rintro _ ⟨nd, rfl⟩; exact rfl) (by simp only [f0, f1, f2]; rfl) ?_
        refine q_val (.pointer (some ad)) (wn rfl) (by rintro _ ⟨nd, rfl⟩; exact (r_indexS (s := a_) (Try.runUnderlying22 _) (Try.sizeOf34 _) rfl rfl hx)) (by simp only [f0, f1, f2]; rfl) ?_
        refine q_val (.pointer (some (Addr.add ad 0))) (wn rfl) (by rintro _ ⟨nd, rfl⟩; exact (r_field (Try.runUnderlying34 _) rfl (Try.sizeOf3 _) rfl rfl)) (by simp only [f0, f1, f2]; rfl) ?_
        refine q_val (.int .i64 x1) (wn rfl) (by rintro _ ⟨nd, rfl⟩; exact (r_load1 (Try.isAgg3 _) rfl (Cells.one (q_cells hx1)))) (by simp only [f0, f1, f2]; rfl) ?_
        refine q_val (Sl.v b) (wn rfl) (by rintro _ ⟨nd, rfl⟩; exact rfl) (by simp only [f0, f1, f2]; rfl) ?_
        refine q_val (.int .i64 i) (wn rfl) (by rintro _ ⟨nd, rfl⟩; exact rfl) (by simp only [f0, f1, f2]; rfl) ?_
        refine q_val (.pointer (some ad1)) (wn rfl) (by rintro _ ⟨nd, rfl⟩; exact (r_indexS (s := b) (Try.runUnderlying22 _) (Try.sizeOf34 _) rfl rfl hx2)) (by simp only [f0, f1, f2]; rfl) ?_
        refine q_val (.pointer (some (Addr.add ad1 0))) (wn rfl) (by rintro _ ⟨nd, rfl⟩; exact (r_field (Try.runUnderlying34 _) rfl (Try.sizeOf3 _) rfl rfl)) (by simp only [f0, f1, f2]; rfl) ?_
        refine q_val (.int .i64 x2) (wn rfl) (by rintro _ ⟨nd, rfl⟩; exact (r_load1 (Try.isAgg3 _) rfl (Cells.one (q_cells hx3)))) (by simp only [f0, f1, f2]; rfl) ?_
        refine q_val (.bool (x1 != x2)) (wn rfl) (by rintro _ ⟨nd, rfl⟩; exact rfl) (by simp only [f0, f1, f2]; rfl) ?_
        refine q_val (.bool (x1 != x2)) (wn rfl) (by rintro _ ⟨nd, rfl⟩; exact rfl) (by simp only [f0, f1, f2]; rfl) ?_
        refine q_cut 12 (fun a' => ∃ us1 : Nat → Value, a' = (⟨(fillin us1 0 (some (Sl.v a_) :: some (Sl.v b) :: some undef :: some undef :: some ((us 4)) :: some (.int .i64 i) :: some (Sl.v a_) :: some (.int .i64 (↑(Sl.n a_) : Int)) :: some (Sl.v b) :: some (.int .i64 (↑(Sl.n b) : Int)) :: some (.bool ((↑(Sl.n a_) : Int) != (↑(Sl.n b) : Int))) :: some (.int .i64 i) :: some (Sl.v a_) :: some (.int .i64 (↑(Sl.n a_) : Int)) :: some (.bool (decide (i < (↑(Sl.n a_) : Int)))) :: some ((us 15)) :: some ((us 16)) :: some (Sl.v a_) :: some (.int .i64 i) :: some (.pointer (some ad)) :: some (.pointer (some (Addr.add ad 0))) :: some (.int .i64 x1) :: some (Sl.v b) :: some (.int .i64 i) :: some (.pointer (some ad1)) :: some (.pointer (some (Addr.add ad1 0))) :: some (.int .i64 x2) :: some (.bool (x1 != x2)) :: some (.bool (x1 != x2)) :: none :: none :: none :: none :: none :: none :: none :: none :: none :: none :: none :: some (.bool ((x1 != x2) || (x3 != x4))) :: some ((us 41)) :: some ((us 42)) :: some ((us 43)) :: some ((us 44)) :: some ((us 45)) :: some ((us 46)) :: some ((us 47)) :: some ((us 48)) :: some ((us 49)) :: some ((us 50)) :: some ((us 51)) :: some ((us 52)) :: some ((us 53)) :: some ((us 54)) :: some ((us 55)) :: some ((us 56)) :: some ((us 57)) :: some ((us 58)) :: some ((us 59)) :: some ((us 60)) :: some ((us 61)) :: some ((us 62)) :: some ((us 63)) :: some ((us 64)) :: some ((us 65)) :: some ((us 66)) :: some ((us 67)) :: some ((us 68)) :: [])).toArray, []⟩ : Act)) ?_ ?_
        · simp only [List.take_succ_cons, List.take_zero]
          rcases Bool.eq_false_or_eq_true (x1 != x2) with hg | hg
          · refine q_no (wt rfl rfl rfl (congrArg Value.bool hg) rfl) (by simp only [f0, f1, f2]; rfl) ?_
            refine q_no (wt rfl rfl rfl (congrArg Value.bool hg) rfl) (by simp only [f0, f1, f2]; rfl) ?_
            refine q_no (wt rfl rfl rfl (congrArg Value.bool hg) rfl) (by simp only [f0, f1, f2]; rfl) ?_
            refine q_no (wt rfl rfl rfl (congrArg Value.bool hg) rfl) (by simp only [f0, f1, f2]; rfl) ?_
            refine q_no (wt rfl rfl rfl (congrArg Value.bool hg) rfl) (by simp only [f0, f1, f2]; rfl) ?_
            refine q_no (wt rfl rfl rfl (congrArg Value.bool hg) rfl) (by simp only [f0, f1, f2]; rfl) ?_
            refine q_no (wt rfl rfl rfl (congrArg Value.bool hg) rfl) (by simp only [f0, f1, f2]; rfl) ?_
            refine q_no (wt rfl rfl rfl (congrArg Value.bool hg) rfl) (by simp only [f0, f1, f2]; rfl) ?_
            refine q_no (wt rfl rfl rfl (congrArg Value.bool hg) rfl) (by simp only [f0, f1, f2]; rfl) ?_
            refine q_no (wt rfl rfl rfl (congrArg Value.bool hg) rfl) (by simp only [f0, f1, f2]; rfl) ?_
            refine q_no (wt rfl rfl rfl (congrArg Value.bool hg) rfl) (by simp only [f0, f1, f2]; rfl) ?_
            refine q_val (.bool true) (wn rfl) (by rintro _ ⟨nd, rfl⟩; exact (r_pickT (congrArg Value.bool hg) rfl)) (by simp only [f0, f1, f2]; rfl) ?_
            refine wpQuiet_nil ?_
            exact some_us (by simp only [masked, hg, Bool.true_and, Bool.false_and, Bool.true_or, Bool.false_or, cond_true, cond_false]) rfl rfl
          · refine q_val (Sl.v a_) (wt rfl rfl rfl (congrArg Value.bool hg) rfl) (by rintro _ ⟨nd, rfl⟩; exact rfl) (by simp only [f0, f1, f2]; rfl) ?_
            refine q_val (.int .i64 i) (wt rfl rfl rfl (congrArg Value.bool hg) rfl) (by rintro _ ⟨nd, rfl⟩; exact rfl) (by simp only [f0, f1, f2]; rfl) ?_
            refine q_val (.pointer (some ad2)) (wt rfl rfl rfl (congrArg Value.bool hg) rfl) (by rintro _ ⟨nd, rfl⟩; exact (r_indexS (s := a_) (Try.runUnderlying22 _) (Try.sizeOf34 _) rfl rfl (hx4 hg))) (by simp only [f0, f1, f2]; rfl) ?_
            refine q_val (.pointer (some (Addr.add ad2 1))) (wt rfl rfl rfl (congrArg Value.bool hg) rfl) (by rintro _ ⟨nd, rfl⟩; exact (r_field (Try.runUnderlying34 _) rfl (Try.sizeOf3 _) rfl rfl)) (by simp only [f0, f1, f2]; rfl) ?_
            refine q_val (.int .i64 x3) (wt rfl rfl rfl (congrArg Value.bool hg) rfl) (by rintro _ ⟨nd, rfl⟩; exact (r_load1 (Try.isAgg3 _) rfl (Cells.one (q_cells (hx5 hg))))) (by simp only [f0, f1, f2]; rfl) ?_
            refine q_val (Sl.v b) (wt rfl rfl rfl (congrArg Value.bool hg) rfl) (by rintro _ ⟨nd, rfl⟩; exact rfl) (by simp only [f0, f1, f2]; rfl) ?_
            refine q_val (.int .i64 i) (wt rfl rfl rfl (congrArg Value.bool hg) rfl) (by rintro _ ⟨nd, rfl⟩; exact rfl) (by simp only [f0, f1, f2]; rfl) ?_
            refine q_val (.pointer (some ad3)) (wt rfl rfl rfl (congrArg Value.bool hg) rfl) (by rintro _ ⟨nd, rfl⟩; exact (r_indexS (s := b) (Try.runUnderlying22 _) (Try.sizeOf34 _) rfl rfl (hx6 hg))) (by simp only [f0, f1, f2]; rfl) ?_
            refine q_val (.pointer (some (Addr.add ad3 1))) (wt rfl rfl rfl (congrArg Value.bool hg) rfl) (by rintro _ ⟨nd, rfl⟩; exact (r_field (Try.runUnderlying34 _) rfl (Try.sizeOf3 _) rfl rfl)) (by simp only [f0, f1, f2]; rfl) ?_
            refine q_val (.int .i64 x4) (wt rfl rfl rfl (congrArg Value.bool hg) rfl) (by rintro _ ⟨nd, rfl⟩; exact (r_load1 (Try.isAgg3 _) rfl (Cells.one (q_cells (hx7 hg))))) (by simp only [f0, f1, f2]; rfl) ?_
            refine q_val (.bool (x3 != x4)) (wt rfl rfl rfl (congrArg Value.bool hg) rfl) (by rintro _ ⟨nd, rfl⟩; exact rfl) (by simp only [f0, f1, f2]; rfl) ?_
            refine q_val (.bool (x3 != x4)) (wn rfl) (by rintro _ ⟨nd, rfl⟩; exact (r_pickF (congrArg Value.bool hg) rfl)) (by simp only [f0, f1, f2]; rfl) ?_
            refine wpQuiet_nil ?_
            exact some_us (by simp only [masked, hg, Bool.true_and, Bool.false_and, Bool.true_or, Bool.false_or, cond_true, cond_false]) rfl rfl
        rintro a0 ⟨us1, hF⟩
        simp only [fillin, Nat.reduceAdd] at hF
        subst hF
        simp only [List.drop_succ_cons, List.drop_zero]
        refine q_val (.bool ((x1 != x2) || (x3 != x4))) (wn rfl) (by rintro _ ⟨nd, rfl⟩; exact rfl) (by simp only [f0, f1, f2]; rfl) ?_
        refine q_cut 12 (fun a' => ∃ us2 : Nat → Value, a' = (⟨(fillin us2 0 (some (Sl.v a_) :: some (Sl.v b) :: some undef :: some undef :: some ((us 4)) :: some (.int .i64 i) :: some (Sl.v a_) :: some (.int .i64 (↑(Sl.n a_) : Int)) :: some (Sl.v b) :: some (.int .i64 (↑(Sl.n b) : Int)) :: some (.bool ((↑(Sl.n a_) : Int) != (↑(Sl.n b) : Int))) :: some (.int .i64 i) :: some (Sl.v a_) :: some (.int .i64 (↑(Sl.n a_) : Int)) :: some (.bool (decide (i < (↑(Sl.n a_) : Int)))) :: some ((us 15)) :: some ((us 16)) :: some (Sl.v a_) :: some (.int .i64 i) :: some (.pointer (some ad)) :: some (.pointer (some (Addr.add ad 0))) :: some (.int .i64 x1) :: some (Sl.v b) :: some (.int .i64 i) :: some (.pointer (some ad1)) :: some (.pointer (some (Addr.add ad1 0))) :: some (.int .i64 x2) :: some (.bool (x1 != x2)) :: some (.bool (x1 != x2)) :: some ((us1 29)) :: some ((us1 30)) :: some ((us1 31)) :: some ((us1 32)) :: some ((us1 33)) :: some ((us1 34)) :: some ((us1 35)) :: some ((us1 36)) :: some ((us1 37)) :: some ((us1 38)) :: some ((us1 39)) :: some (.bool ((x1 != x2) || (x3 != x4))) :: some (.bool ((x1 != x2) || (x3 != x4))) :: none :: none :: none :: none :: none :: none :: none :: none :: none :: none :: none :: some (.bool (((x1 != x2) || (x3 != x4)) || (x5 != x6))) :: some ((us 54)) :: some ((us 55)) :: some ((us 56)) :: some ((us 57)) :: some ((us 58)) :: some ((us 59)) :: some ((us 60)) :: some ((us 61)) :: some ((us 62)) :: some ((us 63)) :: some ((us 64)) :: some ((us 65)) :: some ((us 66)) :: some ((us 67)) :: some ((us 68)) :: [])).toArray, []⟩ : Act)) ?_ ?_
        · simp only [List.take_succ_cons, List.take_zero]
          rcases Bool.eq_false_or_eq_true ((x1 != x2) || (x3 != x4)) with hg1 | hg1
          · refine q_no (wt rfl rfl rfl (congrArg Value.bool hg1) rfl) (by simp only [f0, f1, f2]; rfl) ?_
            refine q_no (wt rfl rfl rfl (congrArg Value.bool hg1) rfl) (by simp only [f0, f1, f2]; rfl) ?_
            refine q_no (wt rfl rfl rfl (congrArg Value.bool hg1) rfl) (by simp only [f0, f1, f2]; rfl) ?_
            refine q_no (wt rfl rfl rfl (congrArg Value.bool hg1) rfl) (by simp only [f0, f1, f2]; rfl) ?_
            refine q_no (wt rfl rfl rfl (congrArg Value.bool hg1) rfl) (by simp only [f0, f1, f2]; rfl) ?_
            refine q_no (wt rfl rfl rfl (congrArg Value.bool hg1) rfl) (by simp only [f0, f1, f2]; rfl) ?_
            refine q_no (wt rfl rfl rfl (congrArg Value.bool hg1) rfl) (by simp only [f0, f1, f2]; rfl) ?_
            refine q_no (wt rfl rfl rfl (congrArg Value.bool hg1) rfl) (by simp only [f0, f1, f2]; rfl) ?_
            refine q_no (wt rfl rfl rfl (congrArg Value.bool hg1) rfl) (by simp only [f0, f1, f2]; rfl) ?_
            refine q_no (wt rfl rfl rfl (congrArg Value.bool hg1) rfl) (by simp only [f0, f1, f2]; rfl) ?_
            refine q_no (wt rfl rfl rfl (congrArg Value.bool hg1) rfl) (by simp only [f0, f1, f2]; rfl) ?_
            refine q_val (.bool true) (wn rfl) (by rintro _ ⟨nd, rfl⟩; exact (r_pickT (congrArg Value.bool hg1) rfl)) (by simp only [f0, f1, f2]; rfl) ?_
            refine wpQuiet_nil ?_
            exact some_us (by simp only [masked, hg1, Bool.true_and, Bool.false_and, Bool.true_or, Bool.false_or, cond_true, cond_false]) rfl rfl
          · refine q_val (Sl.v a_) (wt rfl rfl rfl (congrArg Value.bool hg1) rfl) (by rintro _ ⟨nd, rfl⟩; exact rfl) (by simp only [f0, f1, f2]; rfl) ?_
            refine q_val (.int .i64 i) (wt rfl rfl rfl (congrArg Value.bool hg1) rfl) (by rintro _ ⟨nd, rfl⟩; exact rfl) (by simp only [f0, f1, f2]; rfl) ?_
            refine q_val (.pointer (some ad4)) (wt rfl rfl rfl (congrArg Value.bool hg1) rfl) (by rintro _ ⟨nd, rfl⟩; exact (r_indexS (s := a_) (Try.runUnderlying22 _) (Try.sizeOf34 _) rfl rfl (hx8 hg1))) (by simp only [f0, f1, f2]; rfl) ?_
            refine q_val (.pointer (some (Addr.add ad4 2))) (wt rfl rfl rfl (congrArg Value.bool hg1) rfl) (by rintro _ ⟨nd, rfl⟩; exact (r_field (Try.runUnderlying34 _) rfl (Try.sizeOf3 _) rfl rfl)) (by simp only [f0, f1, f2]; rfl) ?_
            refine q_val (.int .i64 x5) (wt rfl rfl rfl (congrArg Value.bool hg1) rfl) (by rintro _ ⟨nd, rfl⟩; exact (r_load1 (Try.isAgg3 _) rfl (Cells.one (q_cells (hx9 hg1))))) (by simp only [f0, f1, f2]; rfl) ?_
            refine q_val (Sl.v b) (wt rfl rfl rfl (congrArg Value.bool hg1) rfl) (by rintro _ ⟨nd, rfl⟩; exact rfl) (by simp only [f0, f1, f2]; rfl) ?_
            refine q_val (.int .i64 i) (wt rfl rfl rfl (congrArg Value.bool hg1) rfl) (by rintro _ ⟨nd, rfl⟩; exact rfl) (by simp only [f0, f1, f2]; rfl) ?_
            refine q_val (.pointer (some ad5)) (wt rfl rfl rfl (congrArg Value.bool hg1) rfl) (by rintro _ ⟨nd, rfl⟩; exact (r_indexS (s := b) (Try.runUnderlying22 _) (Try.sizeOf34 _) rfl rfl (hx10 hg1))) (by simp only [f0, f1, f2]; rfl) ?_
            refine q_val (.pointer (some (Addr.add ad5 2))) (wt rfl rfl rfl (congrArg Value.bool hg1) rfl) (by rintro _ ⟨nd, rfl⟩; exact (r_field (Try.runUnderlying34 _) rfl (Try.sizeOf3 _) rfl rfl)) (by simp only [f0, f1, f2]; rfl) ?_
            refine q_val (.int .i64 x6) (wt rfl rfl rfl (congrArg Value.bool hg1) rfl) (by rintro _ ⟨nd, rfl⟩; exact (r_load1 (Try.isAgg3 _) rfl (Cells.one (q_cells (hx11 hg1))))) (by simp only [f0, f1, f2]; rfl) ?_
            refine q_val (.bool (x5 != x6)) (wt rfl rfl rfl (congrArg Value.bool hg1) rfl) (by rintro _ ⟨nd, rfl⟩; exact rfl) (by simp only [f0, f1, f2]; rfl) ?_
            refine q_val (.bool (x5 != x6)) (wn rfl) (by rintro _ ⟨nd, rfl⟩; exact (r_pickF (congrArg Value.bool hg1) rfl)) (by simp only [f0, f1, f2]; rfl) ?_
            refine wpQuiet_nil ?_
            exact some_us (by simp only [masked, hg1, Bool.true_and, Bool.false_and, Bool.true_or, Bool.false_or, cond_true, cond_false]) rfl rfl
        rintro a0 ⟨us2, hF⟩
        simp only [fillin, Nat.reduceAdd] at hF
        subst hF
        simp only [List.drop_succ_cons, List.drop_zero]
        refine q_val (.bool (((x1 != x2) || (x3 != x4)) || (x5 != x6))) (wn rfl) (by rintro _ ⟨nd, rfl⟩; exact rfl) (by simp only [f0, f1, f2]; rfl) ?_
        refine q_cut 14 (fun a' => ∃ us3 : Nat → Value, a' = (⟨(fillin us3 0 (some (Sl.v a_) :: some (Sl.v b) :: some undef :: some undef :: some ((us 4)) :: some (.int .i64 i) :: some (Sl.v a_) :: some (.int .i64 (↑(Sl.n a_) : Int)) :: some (Sl.v b) :: some (.int .i64 (↑(Sl.n b) : Int)) :: some (.bool ((↑(Sl.n a_) : Int) != (↑(Sl.n b) : Int))) :: some (.int .i64 i) :: some (Sl.v a_) :: some (.int .i64 (↑(Sl.n a_) : Int)) :: some (.bool (decide (i < (↑(Sl.n a_) : Int)))) :: some ((us 15)) :: some ((us 16)) :: some (Sl.v a_) :: some (.int .i64 i) :: some (.pointer (some ad)) :: some (.pointer (some (Addr.add ad 0))) :: some (.int .i64 x1) :: some (Sl.v b) :: some (.int .i64 i) :: some (.pointer (some ad1)) :: some (.pointer (some (Addr.add ad1 0))) :: some (.int .i64 x2) :: some (.bool (x1 != x2)) :: some (.bool (x1 != x2)) :: some ((us1 29)) :: some ((us1 30)) :: some ((us1 31)) :: some ((us1 32)) :: some ((us1 33)) :: some ((us1 34)) :: some ((us1 35)) :: some ((us1 36)) :: some ((us1 37)) :: some ((us1 38)) :: some ((us1 39)) :: some (.bool ((x1 != x2) || (x3 != x4))) :: some (.bool ((x1 != x2) || (x3 != x4))) :: some ((us2 42)) :: some ((us2 43)) :: some ((us2 44)) :: some ((us2 45)) :: some ((us2 46)) :: some ((us2 47)) :: some ((us2 48)) :: some ((us2 49)) :: some ((us2 50)) :: some ((us2 51)) :: some ((us2 52)) :: some (.bool (((x1 != x2) || (x3 != x4)) || (x5 != x6))) :: some (.bool (((x1 != x2) || (x3 != x4)) || (x5 != x6))) :: none :: none :: none :: none :: none :: none :: none :: none :: none :: none :: none :: none :: none :: some (.bool ((((x1 != x2) || (x3 != x4)) || (x5 != x6)) || (!((⟨List.toArray bs⟩ : ByteArray).toList == (⟨List.toArray bs1⟩ : ByteArray).toList)))) :: [])).toArray, []⟩ : Act)) ?_ ?_
        · simp only [List.take_succ_cons, List.take_zero]
          rcases Bool.eq_false_or_eq_true (((x1 != x2) || (x3 != x4)) || (x5 != x6)) with hg2 | hg2
          · refine q_no (wt rfl rfl rfl (congrArg Value.bool hg2) rfl) (by simp only [f0, f1, f2]; rfl) ?_
            refine q_no (wt rfl rfl rfl (congrArg Value.bool hg2) rfl) (by simp only [f0, f1, f2]; rfl) ?_
            refine q_no (wt rfl rfl rfl (congrArg Value.bool hg2) rfl) (by simp only [f0, f1, f2]; rfl) ?_
            refine q_no (wt rfl rfl rfl (congrArg Value.bool hg2) rfl) (by simp only [f0, f1, f2]; rfl) ?_
            refine q_no (wt rfl rfl rfl (congrArg Value.bool hg2) rfl) (by simp only [f0, f1, f2]; rfl) ?_
            refine q_no (wt rfl rfl rfl (congrArg Value.bool hg2) rfl) (by simp only [f0, f1, f2]; rfl) ?_
            refine q_no (wt rfl rfl rfl (congrArg Value.bool hg2) rfl) (by simp only [f0, f1, f2]; rfl) ?_
            refine q_no (wt rfl rfl rfl (congrArg Value.bool hg2) rfl) (by simp only [f0, f1, f2]; rfl) ?_
            refine q_no (wt rfl rfl rfl (congrArg Value.bool hg2) rfl) (by simp only [f0, f1, f2]; rfl) ?_
            refine q_no (wt rfl rfl rfl (congrArg Value.bool hg2) rfl) (by simp only [f0, f1, f2]; rfl) ?_
            refine q_no (wt rfl rfl rfl (congrArg Value.bool hg2) rfl) (by simp only [f0, f1, f2]; rfl) ?_
            refine q_no (wt rfl rfl rfl (congrArg Value.bool hg2) rfl) (by simp only [f0, f1, f2]; rfl) ?_
            refine q_no (wt rfl rfl rfl (congrArg Value.bool hg2) rfl) (by simp only [f0, f1, f2]; rfl) ?_
            refine q_val (.bool true) (wn rfl) (by rintro _ ⟨nd, rfl⟩; exact (r_pickT (congrArg Value.bool hg2) rfl)) (by simp only [f0, f1, f2]; rfl) ?_
            refine wpQuiet_nil ?_
            exact some_us (by simp only [masked, hg2, Bool.true_and, Bool.false_and, Bool.true_or, Bool.false_or, cond_true, cond_false]) rfl rfl
          · refine q_val (Sl.v a_) (wt rfl rfl rfl (congrArg Value.bool hg2) rfl) (by rintro _ ⟨nd, rfl⟩; exact rfl) (by simp only [f0, f1, f2]; rfl) ?_
            refine q_val (.int .i64 i) (wt rfl rfl rfl (congrArg Value.bool hg2) rfl) (by rintro _ ⟨nd, rfl⟩; exact rfl) (by simp only [f0, f1, f2]; rfl) ?_
            refine q_val (.pointer (some ad6)) (wt rfl rfl rfl (congrArg Value.bool hg2) rfl) (by rintro _ ⟨nd, rfl⟩; exact (r_indexS (s := a_) (Try.runUnderlying22 _) (Try.sizeOf34 _) rfl rfl (hx12 hg2))) (by simp only [f0, f1, f2]; rfl) ?_
            refine q_val (.pointer (some (Addr.add ad6 3))) (wt rfl rfl rfl (congrArg Value.bool hg2) rfl) (by rintro _ ⟨nd, rfl⟩; exact (r_field (Try.runUnderlying34 _) rfl (Try.sizeOf32 _) rfl rfl)) (by simp only [f0, f1, f2]; rfl) ?_
            refine q_val (Sl.v x7) (wt rfl rfl rfl (congrArg Value.bool hg2) rfl) (by rintro _ ⟨nd, rfl⟩; exact (r_load1 (Try.isAgg32 _) rfl (Cells.one (q_cells (hx13 hg2))))) (by simp only [f0, f1, f2]; rfl) ?_
            refine q_val (.string (⟨List.toArray bs⟩ : ByteArray)) (wt rfl rfl rfl (congrArg Value.bool hg2) rfl) (by rintro _ ⟨nd, rfl⟩; exact (r_bytesStr (sl := x7) Try.underlying32 Try.underlying5 Try.underlying9 rfl (q_bytes (hx14 hg2)))) (by simp only [f0, f1, f2]; rfl) ?_
            refine q_val (Sl.v b) (wt rfl rfl rfl (congrArg Value.bool hg2) rfl) (by rintro _ ⟨nd, rfl⟩; exact rfl) (by simp only [f0, f1, f2]; rfl) ?_
            refine q_val (.int .i64 i) (wt rfl rfl rfl (congrArg Value.bool hg2) rfl) (by rintro _ ⟨nd, rfl⟩; exact rfl) (by simp only [f0, f1, f2]; rfl) ?_
            refine q_val (.pointer (some ad7)) (wt rfl rfl rfl (congrArg Value.bool hg2) rfl) (by rintro _ ⟨nd, rfl⟩; exact (r_indexS (s := b) (Try.runUnderlying22 _) (Try.sizeOf34 _) rfl rfl (hx15 hg2))) (by simp only [f0, f1, f2]; rfl) ?_
            refine q_val (.pointer (some (Addr.add ad7 3))) (wt rfl rfl rfl (congrArg Value.bool hg2) rfl) (by rintro _ ⟨nd, rfl⟩; exact (r_field (Try.runUnderlying34 _) rfl (Try.sizeOf32 _) rfl rfl)) (by simp only [f0, f1, f2]; rfl) ?_
            refine q_val (Sl.v x8) (wt rfl rfl rfl (congrArg Value.bool hg2) rfl) (by rintro _ ⟨nd, rfl⟩; exact (r_load1 (Try.isAgg32 _) rfl (Cells.one (q_cells (hx16 hg2))))) (by simp only [f0, f1, f2]; rfl) ?_
            refine q_val (.string (⟨List.toArray bs1⟩ : ByteArray)) (wt rfl rfl rfl (congrArg Value.bool hg2) rfl) (by rintro _ ⟨nd, rfl⟩; exact (r_bytesStr (sl := x8) Try.underlying32 Try.underlying5 Try.underlying9 rfl (q_bytes (hx17 hg2)))) (by simp only [f0, f1, f2]; rfl) ?_
            refine q_val (.bool (!((⟨List.toArray bs⟩ : ByteArray).toList == (⟨List.toArray bs1⟩ : ByteArray).toList))) (wt rfl rfl rfl (congrArg Value.bool hg2) rfl) (by rintro _ ⟨nd, rfl⟩; exact rfl) (by simp only [f0, f1, f2]; rfl) ?_
            refine q_val (.bool (!((⟨List.toArray bs⟩ : ByteArray).toList == (⟨List.toArray bs1⟩ : ByteArray).toList))) (wn rfl) (by rintro _ ⟨nd, rfl⟩; exact (r_pickF (congrArg Value.bool hg2) rfl)) (by simp only [f0, f1, f2]; rfl) ?_
            refine wpQuiet_nil ?_
            exact some_us (by simp only [masked, hg2, Bool.true_and, Bool.false_and, Bool.true_or, Bool.false_or, cond_true, cond_false]) rfl rfl
        rintro a0 ⟨us3, hF⟩
        simp only [fillin, Nat.reduceAdd] at hF
        subst hF
        simp only [List.drop_succ_cons, List.drop_zero]
        refine wpQuiet_nil ?_
        rintro _ ⟨nd, rfl⟩
        have hO := Only.drewN w_ nd
        generalize w_.drewN nd = w_1 at *
        have hA : Only [] w_ w_1 := hO
        refine then_normal ?_
        refine wp_cond_split (t := ((((x1 != x2) || (x3 != x4)) || (x5 != x6)) || (!((⟨List.toArray bs⟩ : ByteArray).toList == (⟨List.toArray bs1⟩ : ByteArray).toList)))) rfl (fun hc2 => ?_) (fun hc2 => ?_)
        · replace h := h.1 hc2
          refine wp_seq ?_
          refine wp_region_lit ?_
          refine st_val (.bool false) (wn rfl) rfl (by simp only [f0, f1, f2]; rfl) ?_
          refine wpList_nil ?_
          refine then_normal ?_
          refine wp_ret ?_
          refine block_ret ?_
          refine then_ret ?_
          refine then_ret ?_
          refine block_ret ?_
          refine then_ret ?_
          replace h := h w_1 hA
          exact end_ret (r_res1 (v := .bool false) Try.results24 ⟨rfl, trivial⟩) rfl h
        · replace h := h.2 hc2
          refine wp_skip ?_
          refine block_normal ?_
          refine then_normal ?_
          refine wp_region_lit ?_
          refine st_val (.int .i64 i) (wn rfl) rfl (by simp only [f0, f1, f2]; rfl) ?_
          refine st_val (.int .i64 (IntKind.i64.wrap (i + 1))) (wn rfl) rfl (by simp only [f0, f1, f2]; rfl) ?_
          refine st_val (.int .i64 (IntKind.i64.wrap (i + 1))) (wn rfl) rfl (by simp only [f0, f1, f2]; rfl) ?_
          refine wpList_nil ?_
          refine then_normal ?_
          replace h := h w_1 hA
          obtain ⟨nv2, hl, h⟩ := h
          exact ⟨nv2, hl, _, (some_us rfl rfl rfl), h⟩
      · replace h := h.2 hc1
        refine wp_exit ?_
        refine then_exit ?_
        refine then_exit ?_
        refine block_hit ?_
        refine then_normal ?_
        refine wp_seq ?_
        refine wp_region_lit ?_
        refine st_val (.bool true) (wn rfl) rfl (by simp only [f0, f1, f2]; rfl) ?_
        refine wpList_nil ?_
        refine then_normal ?_
        refine wp_ret ?_
        exact end_ret (r_res1 (v := .bool true) Try.results24 ⟨rfl, trivial⟩) rfl h

/-- what is to be shown of a call of pavanelaw24.match -/
def pavanelaw24_match_vc (a_ : Option Addr) (b : Option Addr) (R : Value → World → Prop) (w : World) : Prop :=
  Calls Try.prog 10 #[.pointer a_] w (fun e w_ => ∃ x0 : Int, ∃ x1 : Int, e = .returned (.tuple #[.int .i64 x0, .int .i64 x1]) ∧
  ∃ (I_ : Nat → Bool → Int → World → Prop) (nv1 : Nat), I_ nv1 false x0 w_ ∧
  ∀ (nv : Nat) (same : Bool) (i : Int) (w_1 : World), I_ nv same i w_1 →
  (((decide (i > 0)) = true →
  ∃ J_ : Bool → World → Prop, (∀ (same1 : Bool) (w_2 : World), J_ same1 w_2 →
  ∃ nv2 : Nat, nv2 < nv ∧ I_ nv2 same1 (IntKind.i64.wrap (i - 1)) w_2) ∧
  (Calls Try.prog 23 #[.pointer a_, .int .i64 i] w_1 (fun e w_3 => ∃ x01 : Int, ∃ x11 : Bool, e = .returned (.tuple #[.int .i64 x01, .bool x11]) ∧
  Calls Try.prog 23 #[.pointer b, .int .i64 i] w_3 (fun e w_4 => ∃ x02 : Int, ∃ x12 : Bool, e = .returned (.tuple #[.int .i64 x02, .bool x12]) ∧
  ((((!x11) || (!x12)) = true →
  J_ same w_4) ∧
  (((!x11) || (!x12)) = false →
  Calls Try.prog 9 #[.pointer a_, .int .i64 i, .int .i64 1] w_4 (fun e w_5 => ∃ x2 : Sl, e = .returned (Sl.v x2) ∧
  Calls Try.prog 9 #[.pointer b, .int .i64 i, .int .i64 1] w_5 (fun e w_6 => ∃ x3 : Sl, e = .returned (Sl.v x3) ∧
  ∃ J_1 : Bool → World → Prop, (∀ (t55 : Bool) (w_7 : World), J_1 t55 w_7 →
  ((t55 = true →
  R (.bool false) w_7) ∧
  (t55 = false →
  ∃ J_2 : Bool → World → Prop, (∀ (t70 : Bool) (w_8 : World), J_2 t70 w_8 →
  ((t70 = true →
  R (.bool false) w_8) ∧
  (t70 = false →
  J_ (same || (x01 == x02)) w_8))) ∧
  ((((x01 == x02) = true →
  Calls Try.prog 24 #[Sl.v x2, Sl.v x3] w_7 (fun e w_9 => ∃ x4 : Bool, e = .returned (.bool x4) ∧
  J_2 (!x4) w_9)) ∧
  ((x01 == x02) = false →
  J_2 false w_7)))))) ∧
  (((same = true →
  Calls Try.prog 24 #[Sl.v x2, Sl.v x3] w_6 (fun e w_10 => ∃ x5 : Bool, e = .returned (.bool x5) ∧
  J_1 (!x5) w_10)) ∧
  (same = false →
  J_1 false w_6))))))))))) ∧
  ((decide (i > 0)) = false →
  R (.bool true) w_1)))
theorem pavanelaw24_match_wp (a_ : Option Addr) (b : Option Addr) (R : Value → World → Prop) (w : World) (h : pavanelaw24_match_vc a_ b R w) :
    Calls Try.prog 12 #[.pointer a_, .pointer b] w fun e w' => ∃ v, e = .returned v ∧ R v w' := by
  unfold pavanelaw24_match_vc at h
  refine calls_of (k := 69) Try.func12 rfl Try.ntmps12 rfl rfl ?_
  simp only [List.replicate, List.cons_append, List.nil_append]
  refine wp_seq ?_
  refine wp_region_lit ?_
  refine st_val (.bool false) (wn rfl) rfl (by simp only [f0, f1, f2]; rfl) ?_
  refine wpList_nil ?_
  refine then_normal ?_
  refine wp_seq ?_
  refine wp_region_lit ?_
  refine st_val (.pointer a_) (wn rfl) rfl (by simp only [f0, f1, f2]; rfl) ?_
  refine st_one (wn rfl) ?_
  refine o_enter (args := #[.pointer a_]) (r_enter Try.call10 rfl) (h.mono ?_)
  clear h
  rintro _ w_ ⟨x0, x1, rfl, h⟩
  refine ⟨_, _, rfl, (by simp only [f0, f1, f2]; rfl), ?_⟩
  refine st_val (.tuple #[.int .i64 x0, .int .i64 x1]) (wn rfl) rfl (by simp only [f0, f1, f2]; rfl) ?_
  refine st_val (.int .i64 x0) (wn rfl) rfl (by simp only [f0, f1, f2]; rfl) ?_
  refine st_val (.int .i64 x1) (wn rfl) rfl (by simp only [f0, f1, f2]; rfl) ?_
  refine st_val (.int .i64 x0) (wn rfl) rfl (by simp only [f0, f1, f2]; rfl) ?_
  refine st_val (.int .i64 x1) (wn rfl) rfl (by simp only [f0, f1, f2]; rfl) ?_
  refine wpList_nil ?_
  refine then_normal ?_
  refine wp_seq ?_
  refine wp_region_lit ?_
  refine st_val (.bool false) (wn rfl) rfl (by simp only [f0, f1, f2]; rfl) ?_
  refine wpList_nil ?_
  refine then_normal ?_
  refine wp_seq ?_
  refine wp_seq ?_
  refine wp_region_lit ?_
  refine st_val (.int .i64 x0) (wn rfl) rfl (by simp only [f0, f1, f2]; rfl) ?_
  refine st_val (.int .i64 x0) (wn rfl) rfl (by simp only [f0, f1, f2]; rfl) ?_
  refine wpList_nil ?_
  refine then_normal ?_
  refine wp_block ?_
  obtain ⟨I_, nv1, h0, hI⟩ := h
  refine wp_loop_ghost (fun nv' a' w' => ∃ same : Bool, ∃ i : Int, (∃ us : Nat → Value, a' = (⟨(fillin us 0 (some (.pointer a_) :: some (.pointer b) :: some undef :: some undef :: none :: some (.int .i64 x0) :: some (.int .i64 x1) :: some (.bool same) :: some (.int .i64 i) :: none :: none :: none :: none :: none :: none :: some (.tuple #[.int .i64 x0, .int .i64 x1]) :: some (.pointer a_) :: some (.tuple #[.int .i64 x0, .int .i64 x1]) :: some (.int .i64 x0) :: some (.int .i64 x1) :: some (.int .i64 x0) :: none :: none :: none :: none :: none :: none :: none :: none :: none :: none :: none :: none :: none :: none :: none :: none :: none :: none :: none :: none :: none :: none :: none :: none :: none :: none :: none :: none :: none :: none :: none :: none :: none :: none :: none :: none :: none :: none :: none :: none :: none :: none :: none :: none :: none :: none :: none :: none :: none :: none :: [])).toArray, []⟩ : Act)) ∧ I_ nv' same i w') nv1 ?_ ?_
  · exact ⟨_, _, (some_us rfl rfl rfl), h0⟩
  · clear h0
    rintro nv a0 w_1 ⟨same, i, ⟨us, hF⟩, h⟩
    simp only [fillin, Nat.reduceAdd] at hF
    subst hF
    replace h := hI _ _ _ _ h
    refine wp_seq ?_
    refine wp_seq ?_
    refine wp_region_lit ?_
    refine st_val (.int .i64 i) (wn rfl) rfl (by simp only [f0, f1, f2]; rfl) ?_
    refine st_val (.bool (decide (i > 0))) (wn rfl) rfl (by simp only [f0, f1, f2]; rfl) ?_
    refine wpList_nil ?_
    refine then_normal ?_
    refine wp_cond_split (t := (decide (i > 0))) rfl (fun hc => ?_) (fun hc => ?_)
    · replace h := h.1 hc
      refine wp_skip ?_
      refine then_normal ?_
      obtain ⟨J_, hJ, h⟩ := h
      refine wp_seq_join (fun a' w' => ∃ same1 : Bool, (∃ us1 : Nat → Value, a' = (⟨(fillin us1 0 (some (.pointer a_) :: some (.pointer b) :: some undef :: some undef :: none :: some (.int .i64 x0) :: some (.int .i64 x1) :: some (.bool same1) :: some (.int .i64 i) :: none :: none :: none :: none :: none :: none :: some (.tuple #[.int .i64 x0, .int .i64 x1]) :: some (.pointer a_) :: some (.tuple #[.int .i64 x0, .int .i64 x1]) :: some (.int .i64 x0) :: some (.int .i64 x1) :: some (.int .i64 x0) :: some (.int .i64 i) :: some (.bool (decide (i > 0))) :: some ((us 23)) :: some ((us 24)) :: none :: none :: none :: none :: none :: none :: none :: none :: none :: none :: none :: none :: none :: none :: none :: none :: none :: none :: none :: none :: none :: none :: none :: none :: none :: none :: none :: none :: none :: none :: none :: none :: none :: none :: none :: none :: none :: none :: none :: none :: none :: none :: none :: none :: none :: none :: [])).toArray, []⟩ : Act)) ∧ J_ same1 w') ?_ ?_
      · clear h
        rintro a0 w_2 ⟨same1, ⟨us1, hF⟩, h⟩
        simp only [fillin, Nat.reduceAdd] at hF
        subst hF
        replace h := hJ _ _ h
        refine wp_region_lit ?_
        refine st_val (.int .i64 i) (wn rfl) rfl (by simp only [f0, f1, f2]; rfl) ?_
        refine st_val (.int .i64 (IntKind.i64.wrap (i - 1))) (wn rfl) rfl (by simp only [f0, f1, f2]; rfl) ?_
        refine st_val (.int .i64 (IntKind.i64.wrap (i - 1))) (wn rfl) rfl (by simp only [f0, f1, f2]; rfl) ?_
        refine wpList_nil ?_
        refine then_normal ?_
        obtain ⟨nv2, hl, h⟩ := h
        exact ⟨nv2, hl, _, _, (some_us rfl rfl rfl), h⟩
      · clear hJ
        refine wp_block ?_
        refine wp_seq ?_
        refine wp_region_lit ?_
        refine st_val (.pointer a_) (wn rfl) rfl (by simp only [f0, f1, f2]; rfl) ?_
        refine st_val (.int .i64 i) (wn rfl) rfl (by simp only [f0, f1, f2]; rfl) ?_
        refine st_one (wn rfl) ?_
        refine o_enter (args := #[.pointer a_, .int .i64 i]) (r_enter Try.call23 rfl) (h.mono ?_)
        clear h
        rintro _ w_3 ⟨x01, x11, rfl, h⟩
        refine ⟨_, _, rfl, (by simp only [f0, f1, f2]; rfl), ?_⟩
        refine st_val (.tuple #[.int .i64 x01, .bool x11]) (wn rfl) rfl (by simp only [f0, f1, f2]; rfl) ?_
        refine st_val (.int .i64 x01) (wn rfl) rfl (by simp only [f0, f1, f2]; rfl) ?_
        refine st_val (.bool x11) (wn rfl) rfl (by simp only [f0, f1, f2]; rfl) ?_
        refine st_val (.int .i64 x01) (wn rfl) rfl (by simp only [f0, f1, f2]; rfl) ?_
        refine st_val (.bool x11) (wn rfl) rfl (by simp only [f0, f1, f2]; rfl) ?_
        refine wpList_nil ?_
        refine then_normal ?_
        refine wp_seq ?_
        refine wp_region_lit ?_
        refine st_val (.pointer b) (wn rfl) rfl (by simp only [f0, f1, f2]; rfl) ?_
        refine st_val (.int .i64 i) (wn rfl) rfl (by simp only [f0, f1, f2]; rfl) ?_
        refine st_one (wn rfl) ?_
        refine o_enter (args := #[.pointer b, .int .i64 i]) (r_enter Try.call23 rfl) (h.mono ?_)
        clear h
        rintro _ w_4 ⟨x02, x12, rfl, h⟩
        refine ⟨_, _, rfl, (by simp only [f0, f1, f2]; rfl), ?_⟩
        refine st_val (.tuple #[.int .i64 x02, .bool x12]) (wn rfl) rfl (by simp only [f0, f1, f2]; rfl) ?_
        refine st_val (.int .i64 x02) (wn rfl) rfl (by simp only [f0, f1, f2]; rfl) ?_
        refine st_val (.bool x12) (wn rfl) rfl (by simp only [f0, f1, f2]; rfl) ?_
        refine st_val (.int .i64 x02) (wn rfl) rfl (by simp only [f0, f1, f2]; rfl) ?_
        refine st_val (.bool x12) (wn rfl) rfl (by simp only [f0, f1, f2]; rfl) ?_
        refine wpList_nil ?_
        refine then_normal ?_
        refine wp_seq ?_
        refine wp_seq ?_
        refine wp_region_lit ?_
        refine st_val (.bool x11) (wn rfl) rfl (by simp only [f0, f1, f2]; rfl) ?_
        refine st_val (.bool (!x11)) (wn rfl) rfl (by simp only [f0, f1, f2]; rfl) ?_
        refine st_val (.bool (!x11)) (wn rfl) rfl (by simp only [f0, f1, f2]; rfl) ?_
        refine st_cut 3 (fun a' w' => (∃ us2 : Nat → Value, a' = (⟨(fillin us2 0 (some (.pointer a_) :: some (.pointer b) :: some undef :: some undef :: some ((us 4)) :: some (.int .i64 x0) :: some (.int .i64 x1) :: some (.bool same) :: some (.int .i64 i) :: some (.int .i64 x01) :: some (.bool x11) :: some (.int .i64 x02) :: some (.bool x12) :: some ((us 13)) :: some ((us 14)) :: some (.tuple #[.int .i64 x0, .int .i64 x1]) :: some (.pointer a_) :: some (.tuple #[.int .i64 x0, .int .i64 x1]) :: some (.int .i64 x0) :: some (.int .i64 x1) :: some (.int .i64 x0) :: some (.int .i64 i) :: some (.bool (decide (i > 0))) :: some ((us 23)) :: some ((us 24)) :: some (.tuple #[.int .i64 x01, .bool x11]) :: some (.pointer a_) :: some (.int .i64 i) :: some (.tuple #[.int .i64 x01, .bool x11]) :: some (.int .i64 x01) :: some (.bool x11) :: some (.tuple #[.int .i64 x02, .bool x12]) :: some (.pointer b) :: some (.int .i64 i) :: some (.tuple #[.int .i64 x02, .bool x12]) :: some (.int .i64 x02) :: some (.bool x12) :: some (.bool x11) :: some (.bool (!x11)) :: some (.bool (!x11)) :: none :: none :: some (.bool ((!x11) || (!x12))) :: some ((us 43)) :: some ((us 44)) :: some ((us 45)) :: some ((us 46)) :: some ((us 47)) :: some ((us 48)) :: some ((us 49)) :: some ((us 50)) :: some ((us 51)) :: some ((us 52)) :: some ((us 53)) :: some ((us 54)) :: some ((us 55)) :: some ((us 56)) :: some ((us 57)) :: some ((us 58)) :: some ((us 59)) :: some ((us 60)) :: some ((us 61)) :: some ((us 62)) :: some ((us 63)) :: some ((us 64)) :: some ((us 65)) :: some ((us 66)) :: some ((us 67)) :: some ((us 68)) :: some ((us 69)) :: some ((us 70)) :: [])).toArray, []⟩ : Act)) ∧ w_4 = w') ?_ ?_
        · simp only [List.take_succ_cons, List.take_zero]
          rcases Bool.eq_false_or_eq_true (!x11) with hg | hg
          · refine st_no (wt rfl rfl rfl (congrArg Value.bool hg) rfl) (by simp only [f0, f1, f2]; rfl) ?_
            refine st_no (wt rfl rfl rfl (congrArg Value.bool hg) rfl) (by simp only [f0, f1, f2]; rfl) ?_
            refine st_val (.bool true) (wn rfl) (r_pickT (congrArg Value.bool hg) rfl) (by simp only [f0, f1, f2]; rfl) ?_
            refine wpList_nil ?_
            exact then_normal ⟨some_us (by simp only [masked, hg, Bool.true_and, Bool.false_and, Bool.true_or, Bool.false_or, cond_true, cond_false]) rfl rfl, rfl⟩
          · refine st_val (.bool x12) (wt rfl rfl rfl (congrArg Value.bool hg) rfl) rfl (by simp only [f0, f1, f2]; rfl) ?_
            refine st_val (.bool (!x12)) (wt rfl rfl rfl (congrArg Value.bool hg) rfl) rfl (by simp only [f0, f1, f2]; rfl) ?_
            refine st_val (.bool (!x12)) (wn rfl) (r_pickF (congrArg Value.bool hg) rfl) (by simp only [f0, f1, f2]; rfl) ?_
            refine wpList_nil ?_
            exact then_normal ⟨some_us (by simp only [masked, hg, Bool.true_and, Bool.false_and, Bool.true_or, Bool.false_or, cond_true, cond_false]) rfl rfl, rfl⟩
        rintro a0 _ ⟨⟨us2, hF⟩, rfl⟩
        simp only [fillin, Nat.reduceAdd] at hF
        subst hF
        simp only [List.drop_succ_cons, List.drop_zero]
        refine wpList_nil ?_
        refine then_normal ?_
        refine wp_cond_split (t := ((!x11) || (!x12))) rfl (fun hc1 => ?_) (fun hc1 => ?_)
        · replace h := h.1 hc1
          refine wp_exit ?_
          refine then_exit ?_
          refine block_hit ?_
          refine then_normal ?_
          exact ⟨_, (some_us rfl rfl rfl), h⟩
        · replace h := h.2 hc1
          refine wp_skip ?_
          refine then_normal ?_
          refine wp_seq ?_
          refine wp_region_lit ?_
          refine st_val (.pointer a_) (wn rfl) rfl (by simp only [f0, f1, f2]; rfl) ?_
          refine st_val (.int .i64 i) (wn rfl) rfl (by simp only [f0, f1, f2]; rfl) ?_
          refine st_one (wn rfl) ?_
          refine o_enter (args := #[.pointer a_, .int .i64 i, .int .i64 1]) (r_enter Try.call9 rfl) (h.mono ?_)
          clear h
          rintro _ w_5 ⟨x2, rfl, h⟩
          refine ⟨_, _, rfl, (by simp only [f0, f1, f2]; rfl), ?_⟩
          refine st_val (Sl.v x2) (wn rfl) rfl (by simp only [f0, f1, f2]; rfl) ?_
          refine wpList_nil ?_
          refine then_normal ?_
          refine wp_seq ?_
          refine wp_region_lit ?_
          refine st_val (.pointer b) (wn rfl) rfl (by simp only [f0, f1, f2]; rfl) ?_
          refine st_val (.int .i64 i) (wn rfl) rfl (by simp only [f0, f1, f2]; rfl) ?_
          refine st_one (wn rfl) ?_
          refine o_enter (args := #[.pointer b, .int .i64 i, .int .i64 1]) (r_enter Try.call9 rfl) (h.mono ?_)
          clear h
          rintro _ w_6 ⟨x3, rfl, h⟩
          refine ⟨_, _, rfl, (by simp only [f0, f1, f2]; rfl), ?_⟩
          refine st_val (Sl.v x3) (wn rfl) rfl (by simp only [f0, f1, f2]; rfl) ?_
          refine wpList_nil ?_
          refine then_normal ?_
          refine wp_seq ?_
          refine wp_seq ?_
          obtain ⟨J_1, hJ1, h⟩ := h
          refine wp_cut (fun a' w' => ∃ t55 : Bool, (∃ us3 : Nat → Value, a' = (⟨(fillin us3 0 (some (.pointer a_) :: some (.pointer b) :: some undef :: some undef :: some ((us 4)) :: some (.int .i64 x0) :: some (.int .i64 x1) :: some (.bool same) :: some (.int .i64 i) :: some (.int .i64 x01) :: some (.bool x11) :: some (.int .i64 x02) :: some (.bool x12) :: some (Sl.v x2) :: some (Sl.v x3) :: some (.tuple #[.int .i64 x0, .int .i64 x1]) :: some (.pointer a_) :: some (.tuple #[.int .i64 x0, .int .i64 x1]) :: some (.int .i64 x0) :: some (.int .i64 x1) :: some (.int .i64 x0) :: some (.int .i64 i) :: some (.bool (decide (i > 0))) :: some ((us 23)) :: some ((us 24)) :: some (.tuple #[.int .i64 x01, .bool x11]) :: some (.pointer a_) :: some (.int .i64 i) :: some (.tuple #[.int .i64 x01, .bool x11]) :: some (.int .i64 x01) :: some (.bool x11) :: some (.tuple #[.int .i64 x02, .bool x12]) :: some (.pointer b) :: some (.int .i64 i) :: some (.tuple #[.int .i64 x02, .bool x12]) :: some (.int .i64 x02) :: some (.bool x12) :: some (.bool x11) :: some (.bool (!x11)) :: some (.bool (!x11)) :: some ((us2 40)) :: some ((us2 41)) :: some (.bool ((!x11) || (!x12))) :: some (.pointer a_) :: some (.int .i64 i) :: some (Sl.v x2) :: some (.pointer b) :: some (.int .i64 i) :: some (Sl.v x3) :: none :: none :: none :: none :: none :: none :: some (.bool t55) :: some ((us 56)) :: some ((us 57)) :: some ((us 58)) :: some ((us 59)) :: some ((us 60)) :: some ((us 61)) :: some ((us 62)) :: some ((us 63)) :: some ((us 64)) :: some ((us 65)) :: some ((us 66)) :: some ((us 67)) :: some ((us 68)) :: some ((us 69)) :: some ((us 70)) :: [])).toArray, []⟩ : Act)) ∧ J_1 t55 w') ?_ ?_
          · clear h
            rintro a0 w_7 ⟨t55, ⟨us3, hF⟩, h⟩
            simp only [fillin, Nat.reduceAdd] at hF
            subst hF
            replace h := hJ1 _ _ h
            refine then_normal ?_
            refine wp_cond_split (t := t55) rfl (fun hc2 => ?_) (fun hc2 => ?_)
            · replace h := h.1 hc2
              refine wp_seq ?_
              refine wp_region_lit ?_
              refine st_val (.bool false) (wn rfl) rfl (by simp only [f0, f1, f2]; rfl) ?_
              refine wpList_nil ?_
              refine then_normal ?_
              refine wp_ret ?_
              refine then_ret ?_
              refine block_ret ?_
              refine then_ret ?_
              refine then_ret ?_
              refine block_ret ?_
              refine then_ret ?_
              exact end_ret (r_res1 (v := .bool false) Try.results12 ⟨rfl, trivial⟩) rfl h
            · replace h := h.2 hc2
              refine wp_skip ?_
              refine then_normal ?_
              refine wp_seq ?_
              refine wp_region_lit ?_
              refine st_val (.bool same) (wn rfl) rfl (by simp only [f0, f1, f2]; rfl) ?_
              refine st_val (.bool same) (wn rfl) rfl (by simp only [f0, f1, f2]; rfl) ?_
              refine st_cut 4 (fun a' w' => (∃ us4 : Nat → Value, a' = (⟨(fillin us4 0 (some (.pointer a_) :: some (.pointer b) :: some undef :: some undef :: some ((us 4)) :: some (.int .i64 x0) :: some (.int .i64 x1) :: some (.bool same) :: some (.int .i64 i) :: some (.int .i64 x01) :: some (.bool x11) :: some (.int .i64 x02) :: some (.bool x12) :: some (Sl.v x2) :: some (Sl.v x3) :: some (.tuple #[.int .i64 x0, .int .i64 x1]) :: some (.pointer a_) :: some (.tuple #[.int .i64 x0, .int .i64 x1]) :: some (.int .i64 x0) :: some (.int .i64 x1) :: some (.int .i64 x0) :: some (.int .i64 i) :: some (.bool (decide (i > 0))) :: some ((us 23)) :: some ((us 24)) :: some (.tuple #[.int .i64 x01, .bool x11]) :: some (.pointer a_) :: some (.int .i64 i) :: some (.tuple #[.int .i64 x01, .bool x11]) :: some (.int .i64 x01) :: some (.bool x11) :: some (.tuple #[.int .i64 x02, .bool x12]) :: some (.pointer b) :: some (.int .i64 i) :: some (.tuple #[.int .i64 x02, .bool x12]) :: some (.int .i64 x02) :: some (.bool x12) :: some (.bool x11) :: some (.bool (!x11)) :: some (.bool (!x11)) :: some ((us2 40)) :: some ((us2 41)) :: some (.bool ((!x11) || (!x12))) :: some (.pointer a_) :: some (.int .i64 i) :: some (Sl.v x2) :: some (.pointer b) :: some (.int .i64 i) :: some (Sl.v x3) :: some ((us3 49)) :: some ((us3 50)) :: some ((us3 51)) :: some ((us3 52)) :: some ((us3 53)) :: some ((us3 54)) :: some (.bool t55) :: some (.bool same) :: some (.bool same) :: none :: none :: none :: some (.bool (same || (x01 == x02))) :: some ((us 62)) :: some ((us 63)) :: some ((us 64)) :: some ((us 65)) :: some ((us 66)) :: some ((us 67)) :: some ((us 68)) :: some ((us 69)) :: some ((us 70)) :: [])).toArray, []⟩ : Act)) ∧ w_7 = w') ?_ ?_
              · simp only [List.take_succ_cons, List.take_zero]
                rcases Bool.eq_false_or_eq_true same with hg1 | hg1
                · refine st_no (wt rfl rfl rfl (congrArg Value.bool hg1) rfl) (by simp only [f0, f1, f2]; rfl) ?_
                  refine st_no (wt rfl rfl rfl (congrArg Value.bool hg1) rfl) (by simp only [f0, f1, f2]; rfl) ?_
                  refine st_no (wt rfl rfl rfl (congrArg Value.bool hg1) rfl) (by simp only [f0, f1, f2]; rfl) ?_
                  refine st_val (.bool true) (wn rfl) (r_pickT (congrArg Value.bool hg1) rfl) (by simp only [f0, f1, f2]; rfl) ?_
                  refine wpList_nil ?_
                  exact then_normal ⟨some_us (by simp only [masked, hg1, Bool.true_and, Bool.false_and, Bool.true_or, Bool.false_or, cond_true, cond_false]) rfl rfl, rfl⟩
                · refine st_val (.int .i64 x01) (wt rfl rfl rfl (congrArg Value.bool hg1) rfl) rfl (by simp only [f0, f1, f2]; rfl) ?_
                  refine st_val (.int .i64 x02) (wt rfl rfl rfl (congrArg Value.bool hg1) rfl) rfl (by simp only [f0, f1, f2]; rfl) ?_
                  refine st_val (.bool (x01 == x02)) (wt rfl rfl rfl (congrArg Value.bool hg1) rfl) rfl (by simp only [f0, f1, f2]; rfl) ?_
                  refine st_val (.bool (x01 == x02)) (wn rfl) (r_pickF (congrArg Value.bool hg1) rfl) (by simp only [f0, f1, f2]; rfl) ?_
                  refine wpList_nil ?_
                  exact then_normal ⟨some_us (by simp only [masked, hg1, Bool.true_and, Bool.false_and, Bool.true_or, Bool.false_or, cond_true, cond_false]) rfl rfl, rfl⟩
              rintro a0 _ ⟨⟨us4, hF⟩, rfl⟩
              simp only [fillin, Nat.reduceAdd] at hF
              subst hF
              simp only [List.drop_succ_cons, List.drop_zero]
              refine st_val (.bool (same || (x01 == x02))) (wn rfl) rfl (by simp only [f0, f1, f2]; rfl) ?_
              refine wpList_nil ?_
              refine then_normal ?_
              refine wp_seq ?_
              obtain ⟨J_2, hJ2, h⟩ := h
              refine wp_cut (fun a' w' => ∃ t70 : Bool, (∃ us5 : Nat → Value, a' = (⟨(fillin us5 0 (some (.pointer a_) :: some (.pointer b) :: some undef :: some undef :: some ((us 4)) :: some (.int .i64 x0) :: some (.int .i64 x1) :: some (.bool (same || (x01 == x02))) :: some (.int .i64 i) :: some (.int .i64 x01) :: some (.bool x11) :: some (.int .i64 x02) :: some (.bool x12) :: some (Sl.v x2) :: some (Sl.v x3) :: some (.tuple #[.int .i64 x0, .int .i64 x1]) :: some (.pointer a_) :: some (.tuple #[.int .i64 x0, .int .i64 x1]) :: some (.int .i64 x0) :: some (.int .i64 x1) :: some (.int .i64 x0) :: some (.int .i64 i) :: some (.bool (decide (i > 0))) :: some ((us 23)) :: some ((us 24)) :: some (.tuple #[.int .i64 x01, .bool x11]) :: some (.pointer a_) :: some (.int .i64 i) :: some (.tuple #[.int .i64 x01, .bool x11]) :: some (.int .i64 x01) :: some (.bool x11) :: some (.tuple #[.int .i64 x02, .bool x12]) :: some (.pointer b) :: some (.int .i64 i) :: some (.tuple #[.int .i64 x02, .bool x12]) :: some (.int .i64 x02) :: some (.bool x12) :: some (.bool x11) :: some (.bool (!x11)) :: some (.bool (!x11)) :: some ((us2 40)) :: some ((us2 41)) :: some (.bool ((!x11) || (!x12))) :: some (.pointer a_) :: some (.int .i64 i) :: some (Sl.v x2) :: some (.pointer b) :: some (.int .i64 i) :: some (Sl.v x3) :: some ((us3 49)) :: some ((us3 50)) :: some ((us3 51)) :: some ((us3 52)) :: some ((us3 53)) :: some ((us3 54)) :: some (.bool t55) :: some (.bool same) :: some (.bool same) :: some ((us4 58)) :: some ((us4 59)) :: some ((us4 60)) :: some (.bool (same || (x01 == x02))) :: none :: none :: none :: none :: none :: none :: none :: none :: some (.bool t70) :: [])).toArray, []⟩ : Act)) ∧ J_2 t70 w') ?_ ?_
              · clear h
                rintro a0 w_8 ⟨t70, ⟨us5, hF⟩, h⟩
                simp only [fillin, Nat.reduceAdd] at hF
                subst hF
                replace h := hJ2 _ _ h
                refine then_normal ?_
                refine wp_cond_split (t := t70) rfl (fun hc3 => ?_) (fun hc3 => ?_)
                · replace h := h.1 hc3
                  refine wp_seq ?_
                  refine wp_region_lit ?_
                  refine st_val (.bool false) (wn rfl) rfl (by simp only [f0, f1, f2]; rfl) ?_
                  refine wpList_nil ?_
                  refine then_normal ?_
                  refine wp_ret ?_
                  refine block_ret ?_
                  refine then_ret ?_
                  refine then_ret ?_
                  refine block_ret ?_
                  refine then_ret ?_
                  exact end_ret (r_res1 (v := .bool false) Try.results12 ⟨rfl, trivial⟩) rfl h
                · replace h := h.2 hc3
                  refine wp_skip ?_
                  refine block_normal ?_
                  refine then_normal ?_
                  exact ⟨_, (some_us rfl rfl rfl), h⟩
              · refine wp_region_lit ?_
                refine st_val (.int .i64 x01) (wn rfl) rfl (by simp only [f0, f1, f2]; rfl) ?_
                refine st_val (.int .i64 x02) (wn rfl) rfl (by simp only [f0, f1, f2]; rfl) ?_
                refine st_val (.bool (x01 == x02)) (wn rfl) rfl (by simp only [f0, f1, f2]; rfl) ?_
                refine st_val (.bool (x01 == x02)) (wn rfl) rfl (by simp only [f0, f1, f2]; rfl) ?_
                rcases Bool.eq_false_or_eq_true (x01 == x02) with hg2 | hg2
                · replace h := h.1 hg2
                  refine st_val (Sl.v x2) (wt rfl rfl rfl (congrArg Value.bool hg2) rfl) rfl (by simp only [f0, f1, f2]; rfl) ?_
                  refine st_val (Sl.v x3) (wt rfl rfl rfl (congrArg Value.bool hg2) rfl) rfl (by simp only [f0, f1, f2]; rfl) ?_
                  refine st_one (wt rfl rfl rfl (congrArg Value.bool hg2) rfl) ?_
                  refine o_enter (args := #[Sl.v x2, Sl.v x3]) (r_enter Try.call24 rfl) (h.mono ?_)
                  clear h
                  rintro _ w_9 ⟨x4, rfl, h⟩
                  refine ⟨_, _, rfl, (by simp only [f0, f1, f2]; rfl), ?_⟩
                  refine st_val (.bool (!x4)) (wt rfl rfl rfl (congrArg Value.bool hg2) rfl) rfl (by simp only [f0, f1, f2]; rfl) ?_
                  refine st_val (.bool (!x4)) (wn rfl) (r_pickT (congrArg Value.bool hg2) rfl) (by simp only [f0, f1, f2]; rfl) ?_
                  refine wpList_nil ?_
                  exact then_normal ⟨_, (some_us rfl rfl rfl), h⟩
                · replace h := h.2 hg2
                  refine st_no (wt rfl rfl rfl (congrArg Value.bool hg2) rfl) (by simp only [f0, f1, f2]; rfl) ?_
                  refine st_no (wt rfl rfl rfl (congrArg Value.bool hg2) rfl) (by simp only [f0, f1, f2]; rfl) ?_
                  refine st_no (wt rfl rfl rfl (congrArg Value.bool hg2) rfl) (by simp only [f0, f1, f2]; rfl) ?_
                  refine st_no (wt rfl rfl rfl (congrArg Value.bool hg2) rfl) (by simp only [f0, f1, f2]; rfl) ?_
                  refine st_val (.bool false) (wn rfl) (r_pickF (congrArg Value.bool hg2) rfl) (by simp only [f0, f1, f2]; rfl) ?_
                  refine wpList_nil ?_
                  exact then_normal ⟨_, (some_us rfl rfl rfl), h⟩
          · refine wp_region_lit ?_
            refine st_val (.bool same) (wn rfl) rfl (by simp only [f0, f1, f2]; rfl) ?_
            refine st_val (.bool same) (wn rfl) rfl (by simp only [f0, f1, f2]; rfl) ?_
            rcases Bool.eq_false_or_eq_true same with hg3 | hg3
            · replace h := h.1 hg3
              refine st_val (Sl.v x2) (wt rfl rfl rfl (congrArg Value.bool hg3) rfl) rfl (by simp only [f0, f1, f2]; rfl) ?_
              refine st_val (Sl.v x3) (wt rfl rfl rfl (congrArg Value.bool hg3) rfl) rfl (by simp only [f0, f1, f2]; rfl) ?_
              refine st_one (wt rfl rfl rfl (congrArg Value.bool hg3) rfl) ?_
              refine o_enter (args := #[Sl.v x2, Sl.v x3]) (r_enter Try.call24 rfl) (h.mono ?_)
              clear h
              rintro _ w_10 ⟨x5, rfl, h⟩
              refine ⟨_, _, rfl, (by simp only [f0, f1, f2]; rfl), ?_⟩
              refine st_val (.bool (!x5)) (wt rfl rfl rfl (congrArg Value.bool hg3) rfl) rfl (by simp only [f0, f1, f2]; rfl) ?_
              refine st_val (.bool (!x5)) (wn rfl) (r_pickT (congrArg Value.bool hg3) rfl) (by simp only [f0, f1, f2]; rfl) ?_
              refine wpList_nil ?_
              exact then_normal ⟨_, (some_us rfl rfl rfl), h⟩
            · replace h := h.2 hg3
              refine st_no (wt rfl rfl rfl (congrArg Value.bool hg3) rfl) (by simp only [f0, f1, f2]; rfl) ?_
              refine st_no (wt rfl rfl rfl (congrArg Value.bool hg3) rfl) (by simp only [f0, f1, f2]; rfl) ?_
              refine st_no (wt rfl rfl rfl (congrArg Value.bool hg3) rfl) (by simp only [f0, f1, f2]; rfl) ?_
              refine st_no (wt rfl rfl rfl (congrArg Value.bool hg3) rfl) (by simp only [f0, f1, f2]; rfl) ?_
              refine st_val (.bool false) (wn rfl) (r_pickF (congrArg Value.bool hg3) rfl) (by simp only [f0, f1, f2]; rfl) ?_
              refine wpList_nil ?_
              exact then_normal ⟨_, (some_us rfl rfl rfl), h⟩
    · replace h := h.2 hc
      refine wp_exit ?_
      refine then_exit ?_
      refine then_exit ?_
      refine block_hit ?_
      refine then_normal ?_
      refine wp_seq ?_
      refine wp_region_lit ?_
      refine st_val (.bool true) (wn rfl) rfl (by simp only [f0, f1, f2]; rfl) ?_
      refine wpList_nil ?_
      refine then_normal ?_
      refine wp_ret ?_
      exact end_ret (r_res1 (v := .bool true) Try.results12 ⟨rfl, trivial⟩) rfl h

/-- what is to be shown of a call of (*ledger.Ledger).at -/
def ledger_Ledger_at_vc (l : Addr) (index : Int) (R : Value → World → Prop) (w : World) : Prop :=
  ∀ (b : Nat) (w_ : World), w.heap.size ≤ b → b < w_.heap.size → Only [] w w_ →
  ∃ x1 : Int, Cells w_ (Addr.add (Addr.add l 0) 0) [.int .i64 x1] ∧
  (((index == x1) = true →
  ∃ x0 : Int, ∃ x11 : Int, Cells w_ (Addr.add l 0) [.int .i64 x0, .int .i64 x11] ∧
  ∀ (w_1 : World), Only [b] w_ w_1 →
  R (.tuple #[.agg #[.int .i64 x0, .int .i64 x11], .bool true]) w_1) ∧
  ((index == x1) = false →
  ∃ x2 : Int, Cells w_ (Addr.add (Addr.add l 0) 0) [.int .i64 x2] ∧
  ∃ x3 : Int, ((decide (index < x2)) = false → Cells w_ (Addr.add (Addr.add l 0) 0) [.int .i64 x3]) ∧
  ∃ x4 : Sl, ((decide (index < x2)) = false → Cells w_ (Addr.add l 2) [Sl.v x4]) ∧
  ((((decide (index < x2)) || (decide ((IntKind.i64.wrap (index - x3)) > (↑(Sl.n x4) : Int)))) = true →
  ∀ (w_3 : World), Only [b] w_ w_3 →
  R (.tuple #[.agg #[.int .i64 0, .int .i64 0], .bool false]) w_3) ∧
  (((decide (index < x2)) || (decide ((IntKind.i64.wrap (index - x3)) > (↑(Sl.n x4) : Int)))) = false →
  ∀ (w_2 : World), Only [] w_ w_2 →
  ∃ x5 : Sl, Cells w_2 (Addr.add l 2) [Sl.v x5] ∧
  ∃ x6 : Int, Cells w_2 (Addr.add (Addr.add l 0) 0) [.int .i64 x6] ∧
  ∃ ad : Addr, SlAt x5 (IntKind.i64.wrap ((IntKind.i64.wrap (index - x6)) - 1)) 4 ad ∧
  ∃ x01 : Int, ∃ x12 : Int, ∃ x21 : Int, ∃ x31 : Sl, Cells w_2 ad [.int .i64 x01, .int .i64 x12, .int .i64 x21, Sl.v x31] ∧
  ∀ (b1 : Nat) (w_7 : World), w_2.heap.size ≤ b1 → b1 < w_7.heap.size → Only [b] w_2 w_7 →
  R (.tuple #[.agg #[.int .i64 x01, .int .i64 x12], .bool true]) w_7))))
theorem ledger_Ledger_at_wp (l : Addr) (index : Int) (R : Value → World → Prop) (w : World) (h : ledger_Ledger_at_vc l index R w) :
    Calls Try.prog 18 #[.pointer (some l), .int .i64 index] w fun e w' => ∃ v, e = .returned v ∧ R v w' := by
  unfold ledger_Ledger_at_vc at h
  refine calls_of (k := 58) Try.func18 rfl Try.ntmps18 rfl rfl ?_
  simp only [List.replicate, List.cons_append, List.nil_append]
  refine wp_seq ?_
  refine wp_region_lit ?_
  refine st_one (wn rfl) ?_
  refine o_allocB (zs := [.int .i64 0, .int .i64 0]) (Try.zeroValue50 _) rfl (fun b => by simp only [f0, f1, f2]; rfl) (fun b w_ hn hO hb => ?_)
  have hn_b : w.heap.size ≤ b := hn
  have hA : Only [] w w_ := hO
  refine st_val (.bool false) (wn rfl) rfl (by simp only [f0, f1, f2]; rfl) ?_
  refine wpList_nil ?_
  refine then_normal ?_
  refine wp_seq ?_
  refine wp_seq ?_
  refine wp_region_lit ?_
  refine st_val (.int .i64 index) (wn rfl) rfl (by simp only [f0, f1, f2]; rfl) ?_
  refine st_val (.pointer (some l)) (wn rfl) rfl (by simp only [f0, f1, f2]; rfl) ?_
  refine st_val (.pointer (some l)) (wn rfl) rfl (by simp only [f0, f1, f2]; rfl) ?_
  refine st_val (.pointer (some (Addr.add l 0))) (wn rfl) (r_field (Try.runUnderlying54 _) rfl (Try.sizeOf50 _) rfl rfl) (by simp only [f0, f1, f2]; rfl) ?_
  refine st_val (.pointer (some (Addr.add (Addr.add l 0) 0))) (wn rfl) (r_field (Try.runUnderlying50 _) rfl (Try.sizeOf3 _) rfl rfl) (by simp only [f0, f1, f2]; rfl) ?_
  replace h := h b w_ hn_b hb.lt hA
  obtain ⟨x1, hx, h⟩ := h
  refine st_val (.int .i64 x1) (wn rfl) (r_load1 (Try.isAgg3 _) rfl (Cells.one hx)) (by simp only [f0, f1, f2]; rfl) ?_
  refine st_val (.bool (index == x1)) (wn rfl) rfl (by simp only [f0, f1, f2]; rfl) ?_
  refine wpList_nil ?_
  refine then_normal ?_
  refine wp_cond_split (t := (index == x1)) rfl (fun hc => ?_) (fun hc => ?_)
  · replace h := h.1 hc
    refine wp_seq ?_
    refine wp_region_lit ?_
    refine st_val (.pointer (some l)) (wn rfl) rfl (by simp only [f0, f1, f2]; rfl) ?_
    refine st_val (.pointer (some l)) (wn rfl) rfl (by simp only [f0, f1, f2]; rfl) ?_
    refine st_val (.pointer (some (Addr.add l 0))) (wn rfl) (r_field (Try.runUnderlying54 _) rfl (Try.sizeOf50 _) rfl rfl) (by simp only [f0, f1, f2]; rfl) ?_
    obtain ⟨x0, x11, hx1, h⟩ := h
    refine st_val (.agg #[.int .i64 x0, .int .i64 x11]) (wn rfl) (r_loadN (Try.isAgg50 _) (Try.sizeOf50 _) rfl rfl hx1) (by simp only [f0, f1, f2]; rfl) ?_
    refine st_one (wn rfl) ?_
    refine o_storeB (vs := [.int .i64 x0, .int .i64 x11]) (cs' := [.int .i64 x0, .int .i64 x11]) (Try.sizeOf50 _) rfl rfl rfl rfl hb (Nat.le_of_ble_eq_true rfl) rfl (f3 _ _) (fun w_1 hO1 hb1 => ?_)
    have hA1 : Only [b] w_ w_1 := hO1
    refine st_val (.bool true) (wn rfl) rfl (by simp only [f0, f1, f2]; rfl) ?_
    refine wpList_nil ?_
    refine then_normal ?_
    refine wp_ret ?_
    refine then_ret ?_
    replace h := h w_1 hA1
    exact end_ret (r_resN (vs := [.agg #[.int .i64 x0, .int .i64 x11], .bool true]) Try.results18 rfl ⟨⟨_, rfl, r_resultCell (Try.isAgg50 _) (Try.sizeOf50 _) rfl (hb1.cellsAt 0 [.int .i64 x0, .int .i64 x11] rfl)⟩, rfl, trivial⟩) rfl h
  · replace h := h.2 hc
    refine wp_skip ?_
    refine then_normal ?_
    refine wp_seq ?_
    refine wp_seq ?_
    obtain ⟨x2, hx2, h⟩ := h
    obtain ⟨x3, hx3, h⟩ := h
    obtain ⟨x4, hx4, h⟩ := h
    refine wp_region_quiet_lit Try.checked.mixed (by kernel_rfl) ?_
    refine q_val (.int .i64 index) (wn rfl) (by rintro _ ⟨nd, rfl⟩; exact rfl) (by simp only [f0, f1, f2]; rfl) ?_
    refine q_val (.pointer (some l)) (wn rfl) (by rintro _ ⟨nd, rfl⟩; exact rfl) (by simp only [f0, f1, f2]; rfl) ?_
    refine q_val (.pointer (some l)) (wn rfl) (by rintro _ ⟨nd, rfl⟩; exact rfl) (by simp only [f0, f1, f2]; rfl) ?_
    refine q_val (.pointer (some (Addr.add l 0))) (wn rfl) (by rintro _ ⟨nd, rfl⟩; exact (r_field (Try.runUnderlying54 _) rfl (Try.sizeOf50 _) rfl rfl)) (by simp only [f0, f1, f2]; rfl) ?_
    refine q_val (.pointer (some (Addr.add (Addr.add l 0) 0))) (wn rfl) (by rintro _ ⟨nd, rfl⟩; exact (r_field (Try.runUnderlying50 _) rfl (Try.sizeOf3 _) rfl rfl)) (by simp only [f0, f1, f2]; rfl) ?_
    refine q_val (.int .i64 x2) (wn rfl) (by rintro _ ⟨nd, rfl⟩; exact (r_load1 (Try.isAgg3 _) rfl (Cells.one (q_cells hx2)))) (by simp only [f0, f1, f2]; rfl) ?_
    refine q_val (.bool (decide (index < x2))) (wn rfl) (by rintro _ ⟨nd, rfl⟩; exact rfl) (by simp only [f0, f1, f2]; rfl) ?_
    refine q_val (.bool (decide (index < x2))) (wn rfl) (by rintro _ ⟨nd, rfl⟩; exact rfl) (by simp only [f0, f1, f2]; rfl) ?_
    refine q_cut 14 (fun a' => ∃ us : Nat → Value, a' = (⟨(fillin us 0 (some (.pointer (some l)) :: some (.int .i64 index) :: some undef :: some undef :: some (.pointer (some ⟨b, 0, none⟩)) :: some (.bool false) :: some undef :: some (.int .i64 index) :: some (.pointer (some l)) :: some (.pointer (some l)) :: some (.pointer (some (Addr.add l 0))) :: some (.pointer (some (Addr.add (Addr.add l 0) 0))) :: some (.int .i64 x1) :: some (.bool (index == x1)) :: some undef :: some undef :: some undef :: some undef :: some (.int .i64 index) :: some (.pointer (some l)) :: some (.pointer (some l)) :: some (.pointer (some (Addr.add l 0))) :: some (.pointer (some (Addr.add (Addr.add l 0) 0))) :: some (.int .i64 x2) :: some (.bool (decide (index < x2))) :: some (.bool (decide (index < x2))) :: none :: none :: none :: none :: none :: none :: none :: none :: none :: none :: none :: none :: none :: some (.bool ((decide (index < x2)) || (decide ((IntKind.i64.wrap (index - x3)) > (↑(Sl.n x4) : Int))))) :: some undef :: some undef :: some undef :: some undef :: some undef :: some undef :: some undef :: some undef :: some undef :: some undef :: some undef :: some undef :: some undef :: some undef :: some undef :: some undef :: some undef :: some undef :: some undef :: some undef :: [])).toArray, []⟩ : Act)) ?_ ?_
    · simp only [List.take_succ_cons, List.take_zero]
      rcases Bool.eq_false_or_eq_true (decide (index < x2)) with hg | hg
      · refine q_no (wt rfl rfl rfl (congrArg Value.bool hg) rfl) (by simp only [f0, f1, f2]; rfl) ?_
        refine q_no (wt rfl rfl rfl (congrArg Value.bool hg) rfl) (by simp only [f0, f1, f2]; rfl) ?_
        refine q_no (wt rfl rfl rfl (congrArg Value.bool hg) rfl) (by simp only [f0, f1, f2]; rfl) ?_
        refine q_no (wt rfl rfl rfl (congrArg Value.bool hg) rfl) (by simp only [f0, f1, f2]; rfl) ?_
        refine q_no (wt rfl rfl rfl (congrArg Value.bool hg) rfl) (by simp only [f0, f1, f2]; rfl) ?_
        refine q_no (wt rfl rfl rfl (congrArg Value.bool hg) rfl) (by simp only [f0, f1, f2]; rfl) ?_
        refine q_no (wt rfl rfl rfl (congrArg Value.bool hg) rfl) (by simp only [f0, f1, f2]; rfl) ?_
        refine q_no (wt rfl rfl rfl (congrArg Value.bool hg) rfl) (by simp only [f0, f1, f2]; rfl) ?_
        refine q_no (wt rfl rfl rfl (congrArg Value.bool hg) rfl) (by simp only [f0, f1, f2]; rfl) ?_
        refine q_no (wt rfl rfl rfl (congrArg Value.bool hg) rfl) (by simp only [f0, f1, f2]; rfl) ?_
        refine q_no (wt rfl rfl rfl (congrArg Value.bool hg) rfl) (by simp only [f0, f1, f2]; rfl) ?_
        refine q_no (wt rfl rfl rfl (congrArg Value.bool hg) rfl) (by simp only [f0, f1, f2]; rfl) ?_
        refine q_no (wt rfl rfl rfl (congrArg Value.bool hg) rfl) (by simp only [f0, f1, f2]; rfl) ?_
        refine q_val (.bool true) (wn rfl) (by rintro _ ⟨nd, rfl⟩; exact (r_pickT (congrArg Value.bool hg) rfl)) (by simp only [f0, f1, f2]; rfl) ?_
        refine wpQuiet_nil ?_
        exact some_us (by simp only [masked, hg, Bool.true_and, Bool.false_and, Bool.true_or, Bool.false_or, cond_true, cond_false]) rfl rfl
      · refine q_val (.int .i64 index) (wt rfl rfl rfl (congrArg Value.bool hg) rfl) (by rintro _ ⟨nd, rfl⟩; exact rfl) (by simp only [f0, f1, f2]; rfl) ?_
        refine q_val (.pointer (some l)) (wt rfl rfl rfl (congrArg Value.bool hg) rfl) (by rintro _ ⟨nd, rfl⟩; exact rfl) (by simp only [f0, f1, f2]; rfl) ?_
        refine q_val (.pointer (some l)) (wt rfl rfl rfl (congrArg Value.bool hg) rfl) (by rintro _ ⟨nd, rfl⟩; exact rfl) (by simp only [f0, f1, f2]; rfl) ?_
        refine q_val (.pointer (some (Addr.add l 0))) (wt rfl rfl rfl (congrArg Value.bool hg) rfl) (by rintro _ ⟨nd, rfl⟩; exact (r_field (Try.runUnderlying54 _) rfl (Try.sizeOf50 _) rfl rfl)) (by simp only [f0, f1, f2]; rfl) ?_
        refine q_val (.pointer (some (Addr.add (Addr.add l 0) 0))) (wt rfl rfl rfl (congrArg Value.bool hg) rfl) (by rintro _ ⟨nd, rfl⟩; exact (r_field (Try.runUnderlying50 _) rfl (Try.sizeOf3 _) rfl rfl)) (by simp only [f0, f1, f2]; rfl) ?_
        refine q_val (.int .i64 x3) (wt rfl rfl rfl (congrArg Value.bool hg) rfl) (by rintro _ ⟨nd, rfl⟩; exact (r_load1 (Try.isAgg3 _) rfl (Cells.one (q_cells (hx3 hg))))) (by simp only [f0, f1, f2]; rfl) ?_
        refine q_val (.int .i64 (IntKind.i64.wrap (index - x3))) (wt rfl rfl rfl (congrArg Value.bool hg) rfl) (by rintro _ ⟨nd, rfl⟩; exact rfl) (by simp only [f0, f1, f2]; rfl) ?_
        refine q_val (.pointer (some l)) (wt rfl rfl rfl (congrArg Value.bool hg) rfl) (by rintro _ ⟨nd, rfl⟩; exact rfl) (by simp only [f0, f1, f2]; rfl) ?_
        refine q_val (.pointer (some l)) (wt rfl rfl rfl (congrArg Value.bool hg) rfl) (by rintro _ ⟨nd, rfl⟩; exact rfl) (by simp only [f0, f1, f2]; rfl) ?_
        refine q_val (.pointer (some (Addr.add l 2))) (wt rfl rfl rfl (congrArg Value.bool hg) rfl) (by rintro _ ⟨nd, rfl⟩; exact (r_field (Try.runUnderlying54 _) rfl (Try.sizeOf22 _) rfl rfl)) (by simp only [f0, f1, f2]; rfl) ?_
        refine q_val (Sl.v x4) (wt rfl rfl rfl (congrArg Value.bool hg) rfl) (by rintro _ ⟨nd, rfl⟩; exact (r_load1 (Try.isAgg22 _) rfl (Cells.one (q_cells (hx4 hg))))) (by simp only [f0, f1, f2]; rfl) ?_
        refine q_val (.int .i64 (↑(Sl.n x4) : Int)) (wt rfl rfl rfl (congrArg Value.bool hg) rfl) (by rintro _ ⟨nd, rfl⟩; exact (r_len (s := x4) (Try.runUnderlying22 _) rfl)) (by simp only [f0, f1, f2]; rfl) ?_
        refine q_val (.bool (decide ((IntKind.i64.wrap (index - x3)) > (↑(Sl.n x4) : Int)))) (wt rfl rfl rfl (congrArg Value.bool hg) rfl) (by rintro _ ⟨nd, rfl⟩; exact rfl) (by simp only [f0, f1, f2]; rfl) ?_
        refine q_val (.bool (decide ((IntKind.i64.wrap (index - x3)) > (↑(Sl.n x4) : Int)))) (wn rfl) (by rintro _ ⟨nd, rfl⟩; exact (r_pickF (congrArg Value.bool hg) rfl)) (by simp only [f0, f1, f2]; rfl) ?_
        refine wpQuiet_nil ?_
        exact some_us (by simp only [masked, hg, Bool.true_and, Bool.false_and, Bool.true_or, Bool.false_or, cond_true, cond_false]) rfl rfl
    rintro a0 ⟨us, hF⟩
    simp only [fillin, Nat.reduceAdd] at hF
    subst hF
    simp only [List.drop_succ_cons, List.drop_zero]
    refine wpQuiet_nil ?_
    rintro _ ⟨nd, rfl⟩
    have hO2 := Only.drewN w_ nd
    generalize w_.drewN nd = w_2 at *
    have hA2 : Only [] w_ w_2 := hO2
    have hb2 := hO2.blk hb (by simp)
    refine then_normal ?_
    refine wp_cond_split (t := ((decide (index < x2)) || (decide ((IntKind.i64.wrap (index - x3)) > (↑(Sl.n x4) : Int))))) rfl (fun hc1 => ?_) (fun hc1 => ?_)
    · replace h := h.1 hc1
      refine wp_seq ?_
      refine wp_region_lit ?_
      refine st_val (.agg #[.int .i64 0, .int .i64 0]) (wn rfl) (r_build (ps' := []) rfl (by kernel_rfl)) (by simp only [f0, f1, f2]; rfl) ?_
      refine st_one (wn rfl) ?_
      refine o_storeB (vs := [.int .i64 0, .int .i64 0]) (cs' := [.int .i64 0, .int .i64 0]) (Try.sizeOf50 _) rfl rfl rfl rfl hb2 (Nat.le_of_ble_eq_true rfl) rfl (f3 _ _) (fun w_3 hO3 hb3 => ?_)
      have hA3 := hA2.cons hO3
      refine st_val (.bool false) (wn rfl) rfl (by simp only [f0, f1, f2]; rfl) ?_
      refine wpList_nil ?_
      refine then_normal ?_
      refine wp_ret ?_
      refine then_ret ?_
      replace h := h w_3 hA3
      exact end_ret (r_resN (vs := [.agg #[.int .i64 0, .int .i64 0], .bool false]) Try.results18 rfl ⟨⟨_, rfl, r_resultCell (Try.isAgg50 _) (Try.sizeOf50 _) rfl (hb3.cellsAt 0 [.int .i64 0, .int .i64 0] rfl)⟩, rfl, trivial⟩) rfl h
    · replace h := h.2 hc1
      refine wp_skip ?_
      refine then_normal ?_
      refine wp_seq ?_
      replace h := h w_2 hA2
      obtain ⟨x5, hx5, h⟩ := h
      obtain ⟨x6, hx6, h⟩ := h
      obtain ⟨ad, hx7, h⟩ := h
      obtain ⟨x01, x12, x21, x31, hx8, h⟩ := h
      refine e_region (EL [(14, [b, (Addr.add l 2).block, (Addr.add (Addr.add l 0) 0).block, (ad).block]), (15, [])]) Try.checked.mixed ?_
      have hO4 := Only.drew w_2
      have hx9 : Cells w_2.drew _ _ := hx5
      have hx10 : Cells w_2.drew _ _ := hx6
      have hx11 : Cells w_2.drew _ _ := hx8
      generalize w_2.drew = w_4 at *
      have hA4 : Only [] w_2 w_4 := hO4
      have hb4 := hO4.blk hb2 (by simp)
      refine e_take 0 [1, 2, 3, 12, 13, 15] [] (.pointer (some l)) (fun _ => True) rfl (by kernel_rfl) (by kernel_rfl) (by kernel_rfl) (by kernel_rfl) (by kernel_rfl) (by kernel_rfl) (fun _ _ _ h => h) el_true (fun w _ => el_quiet rfl w) trivial (y_val (wn rfl) (fun w' hw' => rfl)) (by simp only [f0, f1, f2]; rfl) ?_
      refine e_take 1 [2, 3, 12, 13, 15] [0] (.pointer (some l)) (fun _ => True) rfl (by kernel_rfl) (by kernel_rfl) (by kernel_rfl) (by kernel_rfl) (by kernel_rfl) (by kernel_rfl) (fun _ _ _ h => h) el_true (fun w _ => el_quiet rfl w) trivial (y_val (wn rfl) (fun w' hw' => rfl)) (by simp only [f0, f1, f2]; rfl) ?_
      refine e_take 2 [3, 12, 13, 15] [0, 1] (.pointer (some (Addr.add l 2))) (fun _ => True) rfl (by kernel_rfl) (by kernel_rfl) (by kernel_rfl) (by kernel_rfl) (by kernel_rfl) (by kernel_rfl) (fun _ _ _ h => h) el_true (fun w _ => el_quiet rfl w) trivial (y_val (wn rfl) (fun w' hw' => (r_field (Try.runUnderlying54 _) rfl (Try.sizeOf22 _) rfl rfl))) (by simp only [f0, f1, f2]; rfl) ?_
      refine e_take 3 [12, 13, 15] [0, 1, 2] (Sl.v x5) (fun w' => Cells w' (Addr.add l 2) [Sl.v x5]) rfl (by kernel_rfl) (by kernel_rfl) (by kernel_rfl) (by kernel_rfl) (by kernel_rfl) (by kernel_rfl) (fun _ _ _ h => h) (el_stable (b := (Addr.add l 2).block) (List.forall_mem_cons.2 ⟨.inr (.inr (.tail _ (.head _))), List.forall_mem_cons.2 ⟨.inl (by simp), List.forall_mem_nil _⟩⟩) keep_cells) (fun w _ => el_quiet rfl w) hx9 (y_val (wn rfl) (fun w' hw' => (r_load1 (Try.isAgg22 _) rfl (Cells.one hw')))) (by simp only [f0, f1, f2]; rfl) ?_
      refine e_take 4 [10, 11, 12, 13, 15] [0, 1, 2, 3] (.int .i64 index) (fun _ => True) rfl (by kernel_rfl) (by kernel_rfl) (by kernel_rfl) (by kernel_rfl) (by kernel_rfl) (by kernel_rfl) (fun _ _ _ h => h) el_true (fun w _ => el_quiet rfl w) trivial (y_val (wn rfl) (fun w' hw' => rfl)) (by simp only [f0, f1, f2]; rfl) ?_
      refine e_take 5 [6, 7, 8, 9, 10, 11, 12, 13, 15] [0, 1, 2, 3, 4] (.pointer (some l)) (fun _ => True) rfl (by kernel_rfl) (by kernel_rfl) (by kernel_rfl) (by kernel_rfl) (by kernel_rfl) (by kernel_rfl) (fun _ _ _ h => h) el_true (fun w _ => el_quiet rfl w) trivial (y_val (wn rfl) (fun w' hw' => rfl)) (by simp only [f0, f1, f2]; rfl) ?_
      refine e_take 6 [7, 8, 9, 10, 11, 12, 13, 15] [0, 1, 2, 3, 4, 5] (.pointer (some l)) (fun _ => True) rfl (by kernel_rfl) (by kernel_rfl) (by kernel_rfl) (by kernel_rfl) (by kernel_rfl) (by kernel_rfl) (fun _ _ _ h => h) el_true (fun w _ => el_quiet rfl w) trivial (y_val (wn rfl) (fun w' hw' => rfl)) (by simp only [f0, f1, f2]; rfl) ?_
      refine e_take 7 [8, 9, 10, 11, 12, 13, 15] [0, 1, 2, 3, 4, 5, 6] (.pointer (some (Addr.add l 0))) (fun _ => True) rfl (by kernel_rfl) (by kernel_rfl) (by kernel_rfl) (by kernel_rfl) (by kernel_rfl) (by kernel_rfl) (fun _ _ _ h => h) el_true (fun w _ => el_quiet rfl w) trivial (y_val (wn rfl) (fun w' hw' => (r_field (Try.runUnderlying54 _) rfl (Try.sizeOf50 _) rfl rfl))) (by simp only [f0, f1, f2]; rfl) ?_
      refine e_take 8 [9, 10, 11, 12, 13, 15] [0, 1, 2, 3, 4, 5, 6, 7] (.pointer (some (Addr.add (Addr.add l 0) 0))) (fun _ => True) rfl (by kernel_rfl) (by kernel_rfl) (by kernel_rfl) (by kernel_rfl) (by kernel_rfl) (by kernel_rfl) (fun _ _ _ h => h) el_true (fun w _ => el_quiet rfl w) trivial (y_val (wn rfl) (fun w' hw' => (r_field (Try.runUnderlying50 _) rfl (Try.sizeOf3 _) rfl rfl))) (by simp only [f0, f1, f2]; rfl) ?_
      refine e_take 9 [10, 11, 12, 13, 15] [0, 1, 2, 3, 4, 5, 6, 7, 8] (.int .i64 x6) (fun w' => Cells w' (Addr.add (Addr.add l 0) 0) [.int .i64 x6]) rfl (by kernel_rfl) (by kernel_rfl) (by kernel_rfl) (by kernel_rfl) (by kernel_rfl) (by kernel_rfl) (fun _ _ _ h => h) (el_stable (b := (Addr.add (Addr.add l 0) 0).block) (List.forall_mem_cons.2 ⟨.inr (.inr (.tail _ (.tail _ (.head _)))), List.forall_mem_cons.2 ⟨.inl (by simp), List.forall_mem_nil _⟩⟩) keep_cells) (fun w _ => el_quiet rfl w) hx10 (y_val (wn rfl) (fun w' hw' => (r_load1 (Try.isAgg3 _) rfl (Cells.one hw')))) (by simp only [f0, f1, f2]; rfl) ?_
      refine e_take 10 [11, 12, 13, 15] [0, 1, 2, 3, 4, 5, 6, 7, 8, 9] (.int .i64 (IntKind.i64.wrap (index - x6))) (fun _ => True) rfl (by kernel_rfl) (by kernel_rfl) (by kernel_rfl) (by kernel_rfl) (by kernel_rfl) (by kernel_rfl) (fun _ _ _ h => h) el_true (fun w _ => el_quiet rfl w) trivial (y_val (wn rfl) (fun w' hw' => rfl)) (by simp only [f0, f1, f2]; rfl) ?_
      refine e_take 11 [12, 13, 15] [0, 1, 2, 3, 4, 5, 6, 7, 8, 9, 10] (.int .i64 (IntKind.i64.wrap ((IntKind.i64.wrap (index - x6)) - 1))) (fun _ => True) rfl (by kernel_rfl) (by kernel_rfl) (by kernel_rfl) (by kernel_rfl) (by kernel_rfl) (by kernel_rfl) (fun _ _ _ h => h) el_true (fun w _ => el_quiet rfl w) trivial (y_val (wn rfl) (fun w' hw' => rfl)) (by simp only [f0, f1, f2]; rfl) ?_
      refine e_take 12 [13, 15] [0, 1, 2, 3, 4, 5, 6, 7, 8, 9, 10, 11] (.pointer (some ad)) (fun _ => True) rfl (by kernel_rfl) (by kernel_rfl) (by kernel_rfl) (by kernel_rfl) (by kernel_rfl) (by kernel_rfl) (fun _ _ _ h => h) el_true (fun w _ => el_quiet rfl w) trivial (y_val (wn rfl) (fun w' hw' => (r_indexS (s := x5) (Try.runUnderlying22 _) (Try.sizeOf34 _) rfl rfl hx7))) (by simp only [f0, f1, f2]; rfl) ?_
      refine e_take 13 [15] [0, 1, 2, 3, 4, 5, 6, 7, 8, 9, 10, 11, 12] (.agg #[.int .i64 x01, .int .i64 x12, .int .i64 x21, Sl.v x31]) (fun w' => Cells w' ad [.int .i64 x01, .int .i64 x12, .int .i64 x21, Sl.v x31]) rfl (by kernel_rfl) (by kernel_rfl) (by kernel_rfl) (by kernel_rfl) (by kernel_rfl) (by kernel_rfl) (fun _ _ _ h => h) (el_stable (b := (ad).block) (List.forall_mem_cons.2 ⟨.inr (.inr (.tail _ (.tail _ (.tail _ (.head _))))), List.forall_mem_cons.2 ⟨.inl (by simp), List.forall_mem_nil _⟩⟩) keep_cells) (fun w _ => el_quiet rfl w) hx11 (y_val (wn rfl) (fun w' hw' => (r_loadN (Try.isAgg34 _) (Try.sizeOf34 _) rfl rfl hw'))) (by simp only [f0, f1, f2]; rfl) ?_
      refine e_one 14 rfl (by kernel_rfl) (wn rfl) ?_
      refine o_allocB (zs := [.int .i64 0, .int .i64 0, .int .i64 0, Sl.v Sl.nil]) (Try.zeroValue34 _) rfl (fun b => by simp only [f0, f1, f2]; rfl) (fun b1 w_5 hn1 hO5 hb5 => ?_)
      have hne : b1 ≠ b := by have := hb4.lt; omega
      have hn_b1 : w_2.heap.size ≤ b1 := Nat.le_trans hA4.size hn1
      have hA5 := hA4.tr0 hO5
      have hb6 := hO5.blk hb4 (by simp)
      have hS : Same [b, (Addr.add l 2).block, (Addr.add (Addr.add l 0) 0).block, (ad).block] w_4 w_5 := (same_cons (hO5.block _ hb4.lt (by simp)) (same_cons (hO5.block _ (Cells.lt hx9) (by simp)) (same_cons (hO5.block _ (Cells.lt hx10) (by simp)) (same_cons (hO5.block _ (Cells.lt hx11) (by simp)) same_nil))))
      have hx12 := keep_cells _ _ (hS _ (.tail _ (.head _))) hx9
      have hx13 := keep_cells _ _ (hS _ (.tail _ (.tail _ (.head _)))) hx10
      have hx14 := keep_cells _ _ (hS _ (.tail _ (.tail _ (.tail _ (.head _))))) hx11
      refine ⟨el_loud rfl hS, ?_⟩
      refine e_one 15 rfl (by kernel_rfl) (wn rfl) ?_
      refine o_storeB (vs := [.int .i64 x01, .int .i64 x12, .int .i64 x21, Sl.v x31]) (cs' := [.int .i64 x01, .int .i64 x12, .int .i64 x21, Sl.v x31]) (Try.sizeOf34 _) rfl rfl rfl rfl hb5 (Nat.le_of_ble_eq_true rfl) rfl (f3 _ _) (fun w_6 hO6 hb7 => ?_)
      have hA6 := hA5.new hO6 hn_b1
      have hb8 := hO6.blk hb6 (by simpa using (Ne.symm hne))
      have hS1 : Same [] w_5 w_6 := same_nil
      refine ⟨el_loud rfl hS1, ?_⟩
      refine e_done (by kernel_rfl) ?_
      refine then_normal ?_
      refine wp_seq ?_
      refine wp_region_lit ?_
      refine st_val (.pointer (some ⟨b1, 0, none⟩)) (wn rfl) (r_field (Try.runUnderlying34 _) rfl (Try.sizeOf3 _) rfl rfl) (by simp only [f0, f1, f2]; rfl) ?_
      refine st_val (.int .i64 x01) (wn rfl) (r_load1 (Try.isAgg3 _) rfl (hb7.cell 0)) (by simp only [f0, f1, f2]; rfl) ?_
      refine st_val (.pointer (some ⟨b1, 1, none⟩)) (wn rfl) (r_field (Try.runUnderlying34 _) rfl (Try.sizeOf3 _) rfl rfl) (by simp only [f0, f1, f2]; rfl) ?_
      refine st_val (.int .i64 x12) (wn rfl) (r_load1 (Try.isAgg3 _) rfl (hb7.cell 1)) (by simp only [f0, f1, f2]; rfl) ?_
      refine st_val (.agg #[.int .i64 x01, .int .i64 x12]) (wn rfl) (r_build (ps' := [(0, .int .i64 x01), (1, .int .i64 x12)]) rfl (by kernel_rfl)) (by simp only [f0, f1, f2]; rfl) ?_
      refine st_one (wn rfl) ?_
      refine o_storeB (vs := [.int .i64 x01, .int .i64 x12]) (cs' := [.int .i64 x01, .int .i64 x12]) (Try.sizeOf50 _) rfl rfl rfl rfl hb8 (Nat.le_of_ble_eq_true rfl) rfl (f3 _ _) (fun w_7 hO7 hb9 => ?_)
      have hA7 := hA6.cons hO7
      have hb10 := hO7.blk hb7 (by simpa using hne)
      refine st_val (.bool true) (wn rfl) rfl (by simp only [f0, f1, f2]; rfl) ?_
      refine wpList_nil ?_
      refine then_normal ?_
      refine wp_ret ?_
      replace h := h b1 w_7 hn_b1 hb10.lt hA7
      exact end_ret (r_resN (vs := [.agg #[.int .i64 x01, .int .i64 x12], .bool true]) Try.results18 rfl ⟨⟨_, rfl, r_resultCell (Try.isAgg50 _) (Try.sizeOf50 _) rfl (hb9.cellsAt 0 [.int .i64 x01, .int .i64 x12] rfl)⟩, rfl, trivial⟩) rfl h

/-- what is to be shown of a call of (*ledger.Ledger).Hint -/
def ledger_Ledger_Hint_vc (l : Addr) (prev : Int) (R : Value → World → Prop) (w : World) : Prop :=
  Calls Try.prog 10 #[.pointer (some l)] w (fun e w_ => ∃ x0 : Int, ∃ x1 : Int, e = .returned (.tuple #[.int .i64 x0, .int .i64 x1]) ∧
  Calls Try.prog 18 #[.pointer (some l), .int .i64 prev] w_ (fun e w_1 => ∃ x00 : Int, ∃ x01 : Int, ∃ x11 : Bool, e = .returned (.tuple #[.agg #[.int .i64 x00, .int .i64 x01], .bool x11]) ∧
  (((decide (prev > x0)) = true →
  ∀ (b : Nat) (w_3 : World), w_1.heap.size ≤ b → b < w_3.heap.size → Only [] w_1 w_3 →
  R (.int .i64 x0) w_3) ∧
  ((decide (prev > x0)) = false →
  (((!x11) = true →
  ∀ (b : Nat) (w_3 : World), w_1.heap.size ≤ b → b < w_3.heap.size → Only [] w_1 w_3 →
  ∃ x2 : Int, Cells w_3 (Addr.add (Addr.add l 0) 0) [.int .i64 x2] ∧
  R (.int .i64 x2) w_3) ∧
  ((!x11) = false →
  ∀ (b : Nat) (b1 : Nat) (w_5 : World), w_1.heap.size ≤ b → b < w_5.heap.size → w_1.heap.size ≤ b1 → b1 < w_5.heap.size → Only [] w_1 w_5 →
  ∃ (I_ : Nat → Int → Nat → Int → Int → World → Prop) (nv1 : Nat), I_ nv1 prev b1 x00 x01 w_5 ∧
  ∀ (nv : Nat) (prev1 : Int) (b2 : Nat) (vb2 : Int) (vb21 : Int) (w_6 : World), I_ nv prev1 b2 vb2 vb21 w_6 →
  ∃ x3 : Int, ((vb21 == x01) = true → Cells w_6 (Addr.add (Addr.add l 0) 0) [.int .i64 x3]) ∧
  ((((vb21 == x01) && (decide (vb2 > x3))) = true →
  ∀ (w_7 : World), Only [] w_6 w_7 →
  Calls Try.prog 18 #[.pointer (some l), .int .i64 (IntKind.i64.wrap (prev1 - 1))] w_7 (fun e w_8 => ∃ x001 : Int, ∃ x011 : Int, ∃ x12 : Bool, e = .returned (.tuple #[.agg #[.int .i64 x001, .int .i64 x011], .bool x12]) ∧ Same [b, b2] w_7 w_8 ∧
  ∀ (b3 : Nat) (w_11 : World), w_8.heap.size ≤ b3 → b3 < w_11.heap.size → Only [b2] w_8 w_11 →
  ∃ nv2 : Nat, nv2 < nv ∧ I_ nv2 (IntKind.i64.wrap (prev1 - 1)) b3 x001 x011 w_11)) ∧
  (((vb21 == x01) && (decide (vb2 > x3))) = false →
  ∀ (w_7 : World), Only [] w_6 w_7 →
  R (.int .i64 prev1) w_7))))))))
theorem ledger_Ledger_Hint_wp (l : Addr) (prev : Int) (R : Value → World → Prop) (w : World) (h : ledger_Ledger_Hint_vc l prev R w) :
    Calls Try.prog 14 #[.pointer (some l), .int .i64 prev] w fun e w' => ∃ v, e = .returned v ∧ R v w' := by
  unfold ledger_Ledger_Hint_vc at h
  refine calls_of (k := 58) Try.func14 rfl Try.ntmps14 rfl rfl ?_
  simp only [List.replicate, List.cons_append, List.nil_append]
  refine wp_seq ?_
  refine wp_region_lit ?_
  refine st_val (.int .i64 0) (wn rfl) rfl (by simp only [f0, f1, f2]; rfl) ?_
  refine wpList_nil ?_
  refine then_normal ?_
  refine wp_seq ?_
  refine wp_region_lit ?_
  refine st_val (.pointer (some l)) (wn rfl) rfl (by simp only [f0, f1, f2]; rfl) ?_
  refine st_one (wn rfl) ?_
  refine o_enter (args := #[.pointer (some l)]) (r_enter Try.call10 rfl) (h.mono ?_)
  clear h
  rintro _ w_ ⟨x0, x1, rfl, h⟩
  refine ⟨_, _, rfl, (by simp only [f0, f1, f2]; rfl), ?_⟩
  refine st_val (.tuple #[.int .i64 x0, .int .i64 x1]) (wn rfl) rfl (by simp only [f0, f1, f2]; rfl) ?_
  refine st_val (.int .i64 x0) (wn rfl) rfl (by simp only [f0, f1, f2]; rfl) ?_
  refine st_val (.int .i64 x1) (wn rfl) rfl (by simp only [f0, f1, f2]; rfl) ?_
  refine st_val (.int .i64 x0) (wn rfl) rfl (by simp only [f0, f1, f2]; rfl) ?_
  refine st_val (.int .i64 x1) (wn rfl) rfl (by simp only [f0, f1, f2]; rfl) ?_
  refine wpList_nil ?_
  refine then_normal ?_
  refine wp_seq ?_
  refine wp_region_lit ?_
  refine st_val (.pointer (some l)) (wn rfl) rfl (by simp only [f0, f1, f2]; rfl) ?_
  refine st_val (.int .i64 prev) (wn rfl) rfl (by simp only [f0, f1, f2]; rfl) ?_
  refine st_one (wn rfl) ?_
  refine o_enter (args := #[.pointer (some l), .int .i64 prev]) (r_enter Try.call18 rfl) (h.mono ?_)
  clear h
  rintro _ w_1 ⟨x00, x01, x11, rfl, h⟩
  refine ⟨_, _, rfl, (by simp only [f0, f1, f2]; rfl), ?_⟩
  refine st_val (.tuple #[.agg #[.int .i64 x00, .int .i64 x01], .bool x11]) (wn rfl) rfl (by simp only [f0, f1, f2]; rfl) ?_
  refine st_val (.agg #[.int .i64 x00, .int .i64 x01]) (wn rfl) rfl (by simp only [f0, f1, f2]; rfl) ?_
  refine st_val (.bool x11) (wn rfl) rfl (by simp only [f0, f1, f2]; rfl) ?_
  refine st_one (wn rfl) ?_
  refine o_allocB (zs := [.int .i64 0, .int .i64 0]) (Try.zeroValue50 _) rfl (fun b => by simp only [f0, f1, f2]; rfl) (fun b w_2 hn hO hb => ?_)
  have hn_b : w_1.heap.size ≤ b := hn
  have hA : Only [] w_1 w_2 := hO
  refine st_one (wn rfl) ?_
  refine o_storeB (vs := [.int .i64 x00, .int .i64 x01]) (cs' := [.int .i64 x00, .int .i64 x01]) (Try.sizeOf50 _) rfl rfl rfl rfl hb (Nat.le_of_ble_eq_true rfl) rfl (f3 _ _) (fun w_3 hO1 hb1 => ?_)
  have hA1 := hA.new hO1 hn_b
  refine st_val (.bool x11) (wn rfl) rfl (by simp only [f0, f1, f2]; rfl) ?_
  refine wpList_nil ?_
  refine then_normal ?_
  refine wp_seq ?_
  refine wp_block ?_
  refine wp_seq ?_
  refine wp_region_lit ?_
  refine st_val (.int .i64 prev) (wn rfl) rfl (by simp only [f0, f1, f2]; rfl) ?_
  refine st_val (.int .i64 x0) (wn rfl) rfl (by simp only [f0, f1, f2]; rfl) ?_
  refine st_val (.bool (decide (prev > x0))) (wn rfl) rfl (by simp only [f0, f1, f2]; rfl) ?_
  refine st_val (.bool (decide (prev > x0))) (wn rfl) rfl (by simp only [f0, f1, f2]; rfl) ?_
  refine wpList_nil ?_
  refine then_normal ?_
  refine wp_cond_split (t := (decide (prev > x0))) rfl (fun hc => ?_) (fun hc => ?_)
  · replace h := h.1 hc
    refine wp_seq ?_
    refine wp_region_lit ?_
    refine st_val (.int .i64 x0) (wn rfl) rfl (by simp only [f0, f1, f2]; rfl) ?_
    refine st_val (.int .i64 x0) (wn rfl) rfl (by simp only [f0, f1, f2]; rfl) ?_
    refine wpList_nil ?_
    refine then_normal ?_
    refine wp_ret ?_
    refine block_ret ?_
    refine then_ret ?_
    replace h := h b w_3 hn_b hb1.lt hA1
    exact end_ret (r_res1 (v := .int .i64 x0) Try.results14 ⟨rfl, trivial⟩) rfl h
  · replace h := h.2 hc
    refine wp_seq ?_
    refine wp_region_lit ?_
    refine st_val (.bool x11) (wn rfl) rfl (by simp only [f0, f1, f2]; rfl) ?_
    refine st_val (.bool (!x11)) (wn rfl) rfl (by simp only [f0, f1, f2]; rfl) ?_
    refine st_val (.bool (!x11)) (wn rfl) rfl (by simp only [f0, f1, f2]; rfl) ?_
    refine wpList_nil ?_
    refine then_normal ?_
    refine wp_cond_split (t := (!x11)) rfl (fun hc1 => ?_) (fun hc1 => ?_)
    · replace h := h.1 hc1
      refine wp_seq ?_
      refine wp_region_lit ?_
      refine st_val (.pointer (some l)) (wn rfl) rfl (by simp only [f0, f1, f2]; rfl) ?_
      refine st_val (.pointer (some l)) (wn rfl) rfl (by simp only [f0, f1, f2]; rfl) ?_
      refine st_val (.pointer (some (Addr.add l 0))) (wn rfl) (r_field (Try.runUnderlying54 _) rfl (Try.sizeOf50 _) rfl rfl) (by simp only [f0, f1, f2]; rfl) ?_
      refine st_val (.pointer (some (Addr.add (Addr.add l 0) 0))) (wn rfl) (r_field (Try.runUnderlying50 _) rfl (Try.sizeOf3 _) rfl rfl) (by simp only [f0, f1, f2]; rfl) ?_
      replace h := h b w_3 hn_b hb1.lt hA1
      obtain ⟨x2, hx, h⟩ := h
      refine st_val (.int .i64 x2) (wn rfl) (r_load1 (Try.isAgg3 _) rfl (Cells.one hx)) (by simp only [f0, f1, f2]; rfl) ?_
      refine st_val (.int .i64 x2) (wn rfl) rfl (by simp only [f0, f1, f2]; rfl) ?_
      refine wpList_nil ?_
      refine then_normal ?_
      refine wp_ret ?_
      refine block_ret ?_
      refine then_ret ?_
      exact end_ret (r_res1 (v := .int .i64 x2) Try.results14 ⟨rfl, trivial⟩) rfl h
    · replace h := h.2 hc1
      refine wp_skip ?_
      refine block_normal ?_
      refine then_normal ?_
      refine wp_seq ?_
      refine wp_seq ?_
      refine wp_region_lit ?_
      refine st_val (.agg #[.int .i64 x00, .int .i64 x01]) (wn rfl) (r_loadN (Try.isAgg50 _) (Try.sizeOf50 _) rfl rfl (hb1.cellsAt 0 [.int .i64 x00, .int .i64 x01] rfl)) (by simp only [f0, f1, f2]; rfl) ?_
      refine st_one (wn rfl) ?_
      refine o_allocB (zs := [.int .i64 0, .int .i64 0]) (Try.zeroValue50 _) rfl (fun b => by simp only [f0, f1, f2]; rfl) (fun b1 w_4 hn1 hO2 hb2 => ?_)
      have hne : b1 ≠ b := by have := hb1.lt; omega
      have hn_b1 : w_1.heap.size ≤ b1 := Nat.le_trans hA1.size hn1
      have hA2 := hA1.tr0 hO2
      have hb3 := hO2.blk hb1 (by simp)
      refine st_one (wn rfl) ?_
      refine o_storeB (vs := [.int .i64 x00, .int .i64 x01]) (cs' := [.int .i64 x00, .int .i64 x01]) (Try.sizeOf50 _) rfl rfl rfl rfl hb2 (Nat.le_of_ble_eq_true rfl) rfl (f3 _ _) (fun w_5 hO3 hb4 => ?_)
      have hA3 := hA2.new hO3 hn_b1
      have hb5 := hO3.blk hb3 (by simpa using (Ne.symm hne))
      refine wpList_nil ?_
      refine then_normal ?_
      refine wp_block ?_
      replace h := h b b1 w_5 hn_b hb5.lt hn_b1 hb4.lt hA3
      obtain ⟨I_, nv1, h0, hI⟩ := h
      refine wp_loop_ghost (fun nv' a' w' => ∃ prev1 : Int, ∃ b2 : Nat, ∃ vb2 : Int, ∃ vb21 : Int, (∃ us : Nat → Value, a' = (⟨(fillin us 0 (some (.pointer (some l)) :: some (.int .i64 prev1) :: some undef :: some undef :: some (.int .i64 0) :: some (.int .i64 x0) :: some (.int .i64 x1) :: some (.pointer (some ⟨b, 0, none⟩)) :: some (.bool x11) :: some (.pointer (some ⟨b2, 0, none⟩)) :: some (.tuple #[.int .i64 x0, .int .i64 x1]) :: some (.pointer (some l)) :: some (.tuple #[.int .i64 x0, .int .i64 x1]) :: some (.int .i64 x0) :: some (.int .i64 x1) :: some (.tuple #[.agg #[.int .i64 x00, .int .i64 x01], .bool x11]) :: some (.pointer (some l)) :: some (.int .i64 prev) :: some (.tuple #[.agg #[.int .i64 x00, .int .i64 x01], .bool x11]) :: some (.agg #[.int .i64 x00, .int .i64 x01]) :: some (.bool x11) :: some (.bool (decide (prev > x0))) :: some (.int .i64 prev) :: some (.int .i64 x0) :: some (.bool (decide (prev > x0))) :: some undef :: some (.bool (!x11)) :: some (.bool x11) :: some (.bool (!x11)) :: some undef :: some undef :: some undef :: some undef :: some undef :: some (.agg #[.int .i64 x00, .int .i64 x01]) :: none :: none :: none :: none :: none :: none :: none :: none :: none :: none :: none :: none :: none :: none :: none :: none :: none :: none :: none :: none :: none :: none :: none :: none :: some undef :: [])).toArray, []⟩ : Act)) ∧ Blk w' b 50 [.int .i64 x00, .int .i64 x01] ∧ Blk w' b2 50 [.int .i64 vb2, .int .i64 vb21] ∧ b2 ≠ b ∧ I_ nv' prev1 b2 vb2 vb21 w') nv1 ?_ ?_
      · exact ⟨_, _, _, _, (some_us rfl rfl rfl), hb5, hb4, hne, h0⟩
      · clear h0
        rintro nv a0 w_6 ⟨prev1, b2, vb2, vb21, ⟨us, hF⟩, hb6, hb7, hne1, h⟩
        simp only [fillin, Nat.reduceAdd] at hF
        subst hF
        replace h := hI _ _ _ _ _ _ h
        refine wp_seq ?_
        refine wp_seq ?_
        obtain ⟨x3, hx1, h⟩ := h
        refine wp_region_quiet_lit Try.checked.mixed (by kernel_rfl) ?_
        refine q_val (.pointer (some ⟨b2, 1, none⟩)) (wn rfl) (by rintro _ ⟨nd, rfl⟩; exact (r_field (Try.runUnderlying50 _) rfl (Try.sizeOf3 _) rfl rfl)) (by simp only [f0, f1, f2]; rfl) ?_
        refine q_val (.int .i64 vb21) (wn rfl) (by rintro _ ⟨nd, rfl⟩; exact (r_load1 (Try.isAgg3 _) rfl ((q_blk hb7).cell 1))) (by simp only [f0, f1, f2]; rfl) ?_
        refine q_val (.pointer (some ⟨b, 1, none⟩)) (wn rfl) (by rintro _ ⟨nd, rfl⟩; exact (r_field (Try.runUnderlying50 _) rfl (Try.sizeOf3 _) rfl rfl)) (by simp only [f0, f1, f2]; rfl) ?_
        refine q_val (.int .i64 x01) (wn rfl) (by rintro _ ⟨nd, rfl⟩; exact (r_load1 (Try.isAgg3 _) rfl ((q_blk hb6).cell 1))) (by simp only [f0, f1, f2]; rfl) ?_
        refine q_val (.bool (vb21 == x01)) (wn rfl) (by rintro _ ⟨nd, rfl⟩; exact rfl) (by simp only [f0, f1, f2]; rfl) ?_
        refine q_val (.bool (vb21 == x01)) (wn rfl) (by rintro _ ⟨nd, rfl⟩; exact rfl) (by simp only [f0, f1, f2]; rfl) ?_
        refine q_cut 9 (fun a' => ∃ us1 : Nat → Value, a' = (⟨(fillin us1 0 (some (.pointer (some l)) :: some (.int .i64 prev1) :: some undef :: some undef :: some (.int .i64 0) :: some (.int .i64 x0) :: some (.int .i64 x1) :: some (.pointer (some ⟨b, 0, none⟩)) :: some (.bool x11) :: some (.pointer (some ⟨b2, 0, none⟩)) :: some (.tuple #[.int .i64 x0, .int .i64 x1]) :: some (.pointer (some l)) :: some (.tuple #[.int .i64 x0, .int .i64 x1]) :: some (.int .i64 x0) :: some (.int .i64 x1) :: some (.tuple #[.agg #[.int .i64 x00, .int .i64 x01], .bool x11]) :: some (.pointer (some l)) :: some (.int .i64 prev) :: some (.tuple #[.agg #[.int .i64 x00, .int .i64 x01], .bool x11]) :: some (.agg #[.int .i64 x00, .int .i64 x01]) :: some (.bool x11) :: some (.bool (decide (prev > x0))) :: some (.int .i64 prev) :: some (.int .i64 x0) :: some (.bool (decide (prev > x0))) :: some undef :: some (.bool (!x11)) :: some (.bool x11) :: some (.bool (!x11)) :: some undef :: some undef :: some undef :: some undef :: some undef :: some (.agg #[.int .i64 x00, .int .i64 x01]) :: some (.pointer (some ⟨b2, 1, none⟩)) :: some (.int .i64 vb21) :: some (.pointer (some ⟨b, 1, none⟩)) :: some (.int .i64 x01) :: some (.bool (vb21 == x01)) :: some (.bool (vb21 == x01)) :: none :: none :: none :: none :: none :: none :: none :: none :: some (.bool ((vb21 == x01) && (decide (vb2 > x3)))) :: some ((us 50)) :: some ((us 51)) :: some ((us 52)) :: some ((us 53)) :: some ((us 54)) :: some ((us 55)) :: some ((us 56)) :: some ((us 57)) :: some ((us 58)) :: some undef :: [])).toArray, []⟩ : Act)) ?_ ?_
        · simp only [List.take_succ_cons, List.take_zero]
          rcases Bool.eq_false_or_eq_true (vb21 == x01) with hg | hg
          · refine q_val (.pointer (some ⟨b2, 0, none⟩)) (wt rfl rfl rfl (congrArg Value.bool hg) rfl) (by rintro _ ⟨nd, rfl⟩; exact (r_field (Try.runUnderlying50 _) rfl (Try.sizeOf3 _) rfl rfl)) (by simp only [f0, f1, f2]; rfl) ?_
            refine q_val (.int .i64 vb2) (wt rfl rfl rfl (congrArg Value.bool hg) rfl) (by rintro _ ⟨nd, rfl⟩; exact (r_load1 (Try.isAgg3 _) rfl ((q_blk hb7).cell 0))) (by simp only [f0, f1, f2]; rfl) ?_
            refine q_val (.pointer (some l)) (wt rfl rfl rfl (congrArg Value.bool hg) rfl) (by rintro _ ⟨nd, rfl⟩; exact rfl) (by simp only [f0, f1, f2]; rfl) ?_
            refine q_val (.pointer (some l)) (wt rfl rfl rfl (congrArg Value.bool hg) rfl) (by rintro _ ⟨nd, rfl⟩; exact rfl) (by simp only [f0, f1, f2]; rfl) ?_
            refine q_val (.pointer (some (Addr.add l 0))) (wt rfl rfl rfl (congrArg Value.bool hg) rfl) (by rintro _ ⟨nd, rfl⟩; exact (r_field (Try.runUnderlying54 _) rfl (Try.sizeOf50 _) rfl rfl)) (by simp only [f0, f1, f2]; rfl) ?_
            refine q_val (.pointer (some (Addr.add (Addr.add l 0) 0))) (wt rfl rfl rfl (congrArg Value.bool hg) rfl) (by rintro _ ⟨nd, rfl⟩; exact (r_field (Try.runUnderlying50 _) rfl (Try.sizeOf3 _) rfl rfl)) (by simp only [f0, f1, f2]; rfl) ?_
            refine q_val (.int .i64 x3) (wt rfl rfl rfl (congrArg Value.bool hg) rfl) (by rintro _ ⟨nd, rfl⟩; exact (r_load1 (Try.isAgg3 _) rfl (Cells.one (q_cells (hx1 hg))))) (by simp only [f0, f1, f2]; rfl) ?_
            refine q_val (.bool (decide (vb2 > x3))) (wt rfl rfl rfl (congrArg Value.bool hg) rfl) (by rintro _ ⟨nd, rfl⟩; exact rfl) (by simp only [f0, f1, f2]; rfl) ?_
            refine q_val (.bool (decide (vb2 > x3))) (wn rfl) (by rintro _ ⟨nd, rfl⟩; exact (r_pickT (congrArg Value.bool hg) rfl)) (by simp only [f0, f1, f2]; rfl) ?_
            refine wpQuiet_nil ?_
            exact some_us (by simp only [masked, hg, Bool.true_and, Bool.false_and, Bool.true_or, Bool.false_or, cond_true, cond_false]) rfl rfl
          · refine q_no (wt rfl rfl rfl (congrArg Value.bool hg) rfl) (by simp only [f0, f1, f2]; rfl) ?_
            refine q_no (wt rfl rfl rfl (congrArg Value.bool hg) rfl) (by simp only [f0, f1, f2]; rfl) ?_
            refine q_no (wt rfl rfl rfl (congrArg Value.bool hg) rfl) (by simp only [f0, f1, f2]; rfl) ?_
            refine q_no (wt rfl rfl rfl (congrArg Value.bool hg) rfl) (by simp only [f0, f1, f2]; rfl) ?_
            refine q_no (wt rfl rfl rfl (congrArg Value.bool hg) rfl) (by simp only [f0, f1, f2]; rfl) ?_
            refine q_no (wt rfl rfl rfl (congrArg Value.bool hg) rfl) (by simp only [f0, f1, f2]; rfl) ?_
            refine q_no (wt rfl rfl rfl (congrArg Value.bool hg) rfl) (by simp only [f0, f1, f2]; rfl) ?_
            refine q_no (wt rfl rfl rfl (congrArg Value.bool hg) rfl) (by simp only [f0, f1, f2]; rfl) ?_
            refine q_val (.bool false) (wn rfl) (by rintro _ ⟨nd, rfl⟩; exact (r_pickF (congrArg Value.bool hg) rfl)) (by simp only [f0, f1, f2]; rfl) ?_
            refine wpQuiet_nil ?_
            exact some_us (by simp only [masked, hg, Bool.true_and, Bool.false_and, Bool.true_or, Bool.false_or, cond_true, cond_false]) rfl rfl
        rintro a0 ⟨us1, hF⟩
        simp only [fillin, Nat.reduceAdd] at hF
        subst hF
        simp only [List.drop_succ_cons, List.drop_zero]
        refine wpQuiet_nil ?_
        rintro _ ⟨nd, rfl⟩
        have hO4 := Only.drewN w_6 nd
        generalize w_6.drewN nd = w_7 at *
        have hA4 : Only [] w_6 w_7 := hO4
        have hb8 := hO4.blk hb6 (by simp)
        have hb9 := hO4.blk hb7 (by simp)
        refine then_normal ?_
        refine wp_cond_split (t := ((vb21 == x01) && (decide (vb2 > x3)))) rfl (fun hc2 => ?_) (fun hc2 => ?_)
        · replace h := h.1 hc2
          refine wp_skip ?_
          refine then_normal ?_
          refine wp_seq ?_
          refine wp_block ?_
          refine wp_seq ?_
          refine wp_region_lit ?_
          refine st_val (.int .i64 prev1) (wn rfl) rfl (by simp only [f0, f1, f2]; rfl) ?_
          refine st_val (.int .i64 (IntKind.i64.wrap (prev1 - 1))) (wn rfl) rfl (by simp only [f0, f1, f2]; rfl) ?_
          refine st_val (.int .i64 (IntKind.i64.wrap (prev1 - 1))) (wn rfl) rfl (by simp only [f0, f1, f2]; rfl) ?_
          refine wpList_nil ?_
          refine then_normal ?_
          refine wp_region_lit ?_
          refine st_val (.pointer (some l)) (wn rfl) rfl (by simp only [f0, f1, f2]; rfl) ?_
          refine st_val (.int .i64 (IntKind.i64.wrap (prev1 - 1))) (wn rfl) rfl (by simp only [f0, f1, f2]; rfl) ?_
          replace h := h w_7 hA4
          refine st_one (wn rfl) ?_
          refine o_enter (args := #[.pointer (some l), .int .i64 (IntKind.i64.wrap (prev1 - 1))]) (r_enter Try.call18 rfl) (h.mono ?_)
          clear h
          rintro _ w_8 ⟨x001, x011, x12, rfl, hs2, h⟩
          refine ⟨_, _, rfl, (by simp only [f0, f1, f2]; rfl), ?_⟩
          have hb10 := hs2.blk hb8 (by simp)
          have hb11 := hs2.blk hb9 (by simp)
          refine st_val (.tuple #[.agg #[.int .i64 x001, .int .i64 x011], .bool x12]) (wn rfl) rfl (by simp only [f0, f1, f2]; rfl) ?_
          refine st_val (.agg #[.int .i64 x001, .int .i64 x011]) (wn rfl) rfl (by simp only [f0, f1, f2]; rfl) ?_
          refine st_val (.bool x12) (wn rfl) rfl (by simp only [f0, f1, f2]; rfl) ?_
          refine st_one (wn rfl) ?_
          refine o_storeB (vs := [.int .i64 x001, .int .i64 x011]) (cs' := [.int .i64 x001, .int .i64 x011]) (Try.sizeOf50 _) rfl rfl rfl rfl hb11 (Nat.le_of_ble_eq_true rfl) rfl (f3 _ _) (fun w_9 hO5 hb12 => ?_)
          have hA5 : Only [b2] w_8 w_9 := hO5
          have hb13 := hO5.blk hb10 (by simpa using (Ne.symm hne1))
          refine wpList_nil ?_
          refine block_normal ?_
          refine then_normal ?_
          refine wp_seq ?_
          refine wp_region_lit ?_
          refine st_val (.agg #[.int .i64 x001, .int .i64 x011]) (wn rfl) (r_loadN (Try.isAgg50 _) (Try.sizeOf50 _) rfl rfl (hb12.cellsAt 0 [.int .i64 x001, .int .i64 x011] rfl)) (by simp only [f0, f1, f2]; rfl) ?_
          refine wpList_nil ?_
          refine then_normal ?_
          refine wp_region_lit ?_
          refine st_one (wn rfl) ?_
          refine o_allocB (zs := [.int .i64 0, .int .i64 0]) (Try.zeroValue50 _) rfl (fun b => by simp only [f0, f1, f2]; rfl) (fun b3 w_10 hn2 hO6 hb14 => ?_)
          have hne2 : b3 ≠ b := by have := hb13.lt; omega
          have hne3 : b3 ≠ b2 := by have := hb12.lt; omega
          have hn_b3 : w_8.heap.size ≤ b3 := Nat.le_trans hA5.size hn2
          have hA6 := hA5.tr0 hO6
          have hb15 := hO6.blk hb13 (by simp)
          have hb16 := hO6.blk hb12 (by simp)
          refine st_one (wn rfl) ?_
          refine o_storeB (vs := [.int .i64 x001, .int .i64 x011]) (cs' := [.int .i64 x001, .int .i64 x011]) (Try.sizeOf50 _) rfl rfl rfl rfl hb14 (Nat.le_of_ble_eq_true rfl) rfl (f3 _ _) (fun w_11 hO7 hb17 => ?_)
          have hA7 := hA6.new hO7 hn_b3
          have hb18 := hO7.blk hb15 (by simpa using (Ne.symm hne2))
          have hb19 := hO7.blk hb16 (by simpa using (Ne.symm hne3))
          refine wpList_nil ?_
          refine then_normal ?_
          replace h := h b3 w_11 hn_b3 hb17.lt hA7
          obtain ⟨nv2, hl, h⟩ := h
          exact ⟨nv2, hl, _, _, _, _, (some_us rfl rfl rfl), hb18, hb17, hne2, h⟩
        · replace h := h.2 hc2
          refine wp_exit ?_
          refine then_exit ?_
          refine then_exit ?_
          refine block_hit ?_
          refine then_normal ?_
          refine wp_seq ?_
          refine wp_region_lit ?_
          refine st_val (.int .i64 prev1) (wn rfl) rfl (by simp only [f0, f1, f2]; rfl) ?_
          refine st_val (.int .i64 prev1) (wn rfl) rfl (by simp only [f0, f1, f2]; rfl) ?_
          refine wpList_nil ?_
          refine then_normal ?_
          refine wp_ret ?_
          replace h := h w_7 hA4
          exact end_ret (r_res1 (v := .int .i64 prev1) Try.results14 ⟨rfl, trivial⟩) rfl h

/-- what is to be shown of a call of pavanelaw24.take -/
def pavanelaw24_take_vc (all0 : Option Addr) (all1 : Option Addr) (all2 : Option Addr) (s0 : Int) (s1 : Int) (s2 : Int) (s3 : Int) (owner : Int) (R : Value → World → Prop) (w : World) : Prop :=
  ∀ (b : Nat) (w_ : World), w.heap.size ≤ b → b < w_.heap.size → Only [] w w_ → Blk w_ b 38 [.pointer all0, .pointer all1, .pointer all2] →
  ((((Int.tmod (bits .and .i64 s0 1023) 3) == owner) = true →
  ∀ (b1 : Nat) (w_1 : World), w_.heap.size ≤ b1 → b1 < w_1.heap.size → Only [] w_ w_1 →
  R (.bool true) w_1) ∧
  (((Int.tmod (bits .and .i64 s0 1023) 3) == owner) = false →
  (0 ≤ Int.tmod (bits .and .i64 s0 1023) 3 ∧ Int.tmod (bits .and .i64 s0 1023) 3 < 3) ∧
  ∀ (b1 : Nat) (w_1 : World), w_.heap.size ≤ b1 → b1 < w_1.heap.size → Only [] w_ w_1 →
  ∃ x1 : Option Addr, Cells w_1 (Addr.add (⟨b, 0, none⟩ : Addr) (Int.toNat (Int.tmod (bits .and .i64 s0 1023) 3) * 1)) [.pointer x1] ∧
  (0 ≤ Int.tmod (bits .and .i64 s1 1023) 3 ∧ Int.tmod (bits .and .i64 s1 1023) 3 < 3) ∧
  ∃ x2 : Option Addr, Cells w_1 (Addr.add (⟨b, 0, none⟩ : Addr) (Int.toNat (Int.tmod (bits .and .i64 s1 1023) 3) * 1)) [.pointer x2] ∧
  Calls Try.prog 10 #[.pointer x2] w_1 (fun e w_2 => ∃ x0 : Int, ∃ x11 : Int, e = .returned (.tuple #[.int .i64 x0, .int .i64 x11]) ∧ Same [b1] w_1 w_2 ∧
  IntKind.i64.wrap (x0 + 1) ≠ 0 ∧
  Calls Try.prog 23 #[.pointer x2, .int .i64 (Int.tmod (bits .and .i64 s2 1023) (IntKind.i64.wrap (x0 + 1)))] w_2 (fun e w_3 => ∃ x01 : Int, ∃ x12 : Bool, e = .returned (.tuple #[.int .i64 x01, .bool x12]) ∧ Same [b1] w_2 w_3 ∧
  (((!x12) = true →
  R (.bool true) w_3) ∧
  ((!x12) = false →
  Calls Try.prog 9 #[.pointer x2, .int .i64 (IntKind.i64.wrap ((Int.tmod (bits .and .i64 s2 1023) (IntKind.i64.wrap (x0 + 1))) + 1)), .int .i64 (bits .and .i64 s3 7)] w_3 (fun e w_4 => ∃ x3 : Sl, e = .returned (Sl.v x3) ∧ Same [b1] w_3 w_4 ∧
  Calls Try.prog 7 #[.pointer x1, .int .i64 (Int.tmod (bits .and .i64 s2 1023) (IntKind.i64.wrap (x0 + 1))), .int .i64 x01, Sl.v x3] w_4 (fun e w_5 => ∃ x02 : Int, ∃ x13 : Sl, ∃ x21 : Int, e = .returned (.tuple #[.int .i64 x02, Sl.v x13, .int .i64 x21]) ∧ Same [b1] w_4 w_5 ∧
  (((x21 != 0) = true →
  R (.bool ((x21 == 55) && (x02 == 0))) w_5) ∧
  ((x21 != 0) = false →
  Calls Try.prog 8 #[.pointer x1, Sl.v x13] w_5 (fun e w_6 => ∃ x4 : Int, e = .returned (.int .i64 x4) ∧ Same [b1] w_5 w_6 ∧
  R (.bool (x4 == 0)) w_6)))))))))))
theorem pavanelaw24_take_wp (all0 : Option Addr) (all1 : Option Addr) (all2 : Option Addr) (s0 : Int) (s1 : Int) (s2 : Int) (s3 : Int) (owner : Int) (R : Value → World → Prop) (w : World) (h : pavanelaw24_take_vc all0 all1 all2 s0 s1 s2 s3 owner R w) :
    Calls Try.prog 11 #[.agg #[.pointer all0, .pointer all1, .pointer all2], .agg #[.int .i64 s0, .int .i64 s1, .int .i64 s2, .int .i64 s3], .int .i64 owner] w fun e w' => ∃ v, e = .returned v ∧ R v w' := by
  unfold pavanelaw24_take_vc at h
  refine calls_of (k := 78) Try.func11 rfl Try.ntmps11 rfl rfl ?_
  simp only [List.replicate, List.cons_append, List.nil_append]
  refine wp_seq ?_
  refine wp_region_lit ?_
  refine st_one (wn rfl) ?_
  refine o_boxB (zs := [.pointer all0, .pointer all1, .pointer all2]) rfl (fun b => by simp only [f0, f1, f2]; rfl) (fun b w_ hn hO hb => ?_)
  have hn_b : w.heap.size ≤ b := hn
  have hA : Only [] w w_ := hO
  replace h := h b w_ hn_b hb.lt hA hb
  refine st_one (wn rfl) ?_
  refine o_boxB (zs := [.int .i64 s0, .int .i64 s1, .int .i64 s2, .int .i64 s3]) rfl (fun b => by simp only [f0, f1, f2]; rfl) (fun b1 w_1 hn1 hO1 hb1 => ?_)
  have hn_b1 : w_.heap.size ≤ b1 := hn1
  have hA1 : Only [] w_ w_1 := hO1
  refine st_val (.bool false) (wn rfl) rfl (by simp only [f0, f1, f2]; rfl) ?_
  refine wpList_nil ?_
  refine then_normal ?_
  refine wp_seq ?_
  refine wp_seq ?_
  refine wp_region_lit ?_
  refine st_val (.pointer (some ⟨b1, 0, none⟩)) (wn rfl) (r_field (Try.runUnderlying44 _) rfl (Try.sizeOf3 _) rfl rfl) (by simp only [f0, f1, f2]; rfl) ?_
  refine st_val (.int .i64 s0) (wn rfl) (r_load1 (Try.isAgg3 _) rfl (hb1.cell 0)) (by simp only [f0, f1, f2]; rfl) ?_
  refine st_val (.int .i64 (bits .and .i64 s0 1023)) (wn rfl) rfl (by simp only [f0, f1, f2]; rfl) ?_
  refine st_val (.int .i64 (Int.tmod (bits .and .i64 s0 1023) 3)) (wn rfl) (r_rem rfl rfl (by decide)) (by simp only [f0, f1, f2]; rfl) ?_
  refine st_val (.int .i64 owner) (wn rfl) rfl (by simp only [f0, f1, f2]; rfl) ?_
  refine st_val (.bool ((Int.tmod (bits .and .i64 s0 1023) 3) == owner)) (wn rfl) rfl (by simp only [f0, f1, f2]; rfl) ?_
  refine wpList_nil ?_
  refine then_normal ?_
  refine wp_cond_split (t := ((Int.tmod (bits .and .i64 s0 1023) 3) == owner)) rfl (fun hc => ?_) (fun hc => ?_)
  · replace h := h.1 hc
    refine wp_seq ?_
    refine wp_region_lit ?_
    refine st_val (.bool true) (wn rfl) rfl (by simp only [f0, f1, f2]; rfl) ?_
    refine wpList_nil ?_
    refine then_normal ?_
    refine wp_ret ?_
    refine then_ret ?_
    replace h := h b1 w_1 hn_b1 hb1.lt hA1
    exact end_ret (r_res1 (v := .bool true) Try.results11 ⟨rfl, trivial⟩) rfl h
  · replace h := h.2 hc
    refine wp_skip ?_
    refine then_normal ?_
    refine wp_seq ?_
    refine wp_region_lit ?_
    refine st_val (.pointer (some ⟨b1, 0, none⟩)) (wn rfl) (r_field (Try.runUnderlying44 _) rfl (Try.sizeOf3 _) rfl rfl) (by simp only [f0, f1, f2]; rfl) ?_
    refine st_val (.int .i64 s0) (wn rfl) (r_load1 (Try.isAgg3 _) rfl (hb1.cell 0)) (by simp only [f0, f1, f2]; rfl) ?_
    refine st_val (.int .i64 (bits .and .i64 s0 1023)) (wn rfl) rfl (by simp only [f0, f1, f2]; rfl) ?_
    refine st_val (.int .i64 (Int.tmod (bits .and .i64 s0 1023) 3)) (wn rfl) (r_rem rfl rfl (by decide)) (by simp only [f0, f1, f2]; rfl) ?_
    obtain ⟨hx, h⟩ := h
    refine st_val (.pointer (some (Addr.add (⟨b, 0, none⟩ : Addr) (Int.toNat (Int.tmod (bits .and .i64 s0 1023) 3) * 1)))) (wn rfl) (r_indexA (Try.runUnderlying38 _) (Try.sizeOf24 _) rfl rfl hx.1 hx.2 rfl) (by simp only [f0, f1, f2]; rfl) ?_
    replace h := h b1 w_1 hn_b1 hb1.lt hA1
    obtain ⟨x1, hx1, h⟩ := h
    refine st_val (.pointer x1) (wn rfl) (r_load1 (Try.isAgg24 _) rfl (Cells.one hx1)) (by simp only [f0, f1, f2]; rfl) ?_
    refine st_val (.pointer x1) (wn rfl) rfl (by simp only [f0, f1, f2]; rfl) ?_
    refine wpList_nil ?_
    refine then_normal ?_
    refine wp_seq ?_
    refine wp_region_lit ?_
    refine st_val (.pointer (some ⟨b1, 1, none⟩)) (wn rfl) (r_field (Try.runUnderlying44 _) rfl (Try.sizeOf3 _) rfl rfl) (by simp only [f0, f1, f2]; rfl) ?_
    refine st_val (.int .i64 s1) (wn rfl) (r_load1 (Try.isAgg3 _) rfl (hb1.cell 1)) (by simp only [f0, f1, f2]; rfl) ?_
    refine st_val (.int .i64 (bits .and .i64 s1 1023)) (wn rfl) rfl (by simp only [f0, f1, f2]; rfl) ?_
    refine st_val (.int .i64 (Int.tmod (bits .and .i64 s1 1023) 3)) (wn rfl) (r_rem rfl rfl (by decide)) (by simp only [f0, f1, f2]; rfl) ?_
    obtain ⟨hx2, h⟩ := h
    refine st_val (.pointer (some (Addr.add (⟨b, 0, none⟩ : Addr) (Int.toNat (Int.tmod (bits .and .i64 s1 1023) 3) * 1)))) (wn rfl) (r_indexA (Try.runUnderlying38 _) (Try.sizeOf24 _) rfl rfl hx2.1 hx2.2 rfl) (by simp only [f0, f1, f2]; rfl) ?_
    obtain ⟨x2, hx3, h⟩ := h
    refine st_val (.pointer x2) (wn rfl) (r_load1 (Try.isAgg24 _) rfl (Cells.one hx3)) (by simp only [f0, f1, f2]; rfl) ?_
    refine st_val (.pointer x2) (wn rfl) rfl (by simp only [f0, f1, f2]; rfl) ?_
    refine wpList_nil ?_
    refine then_normal ?_
    refine wp_seq ?_
    refine wp_region_lit ?_
    refine st_val (.pointer x2) (wn rfl) rfl (by simp only [f0, f1, f2]; rfl) ?_
    refine st_one (wn rfl) ?_
    refine o_enter (args := #[.pointer x2]) (r_enter Try.call10 rfl) (h.mono ?_)
    clear h
    rintro _ w_2 ⟨x0, x11, rfl, hs, h⟩
    refine ⟨_, _, rfl, (by simp only [f0, f1, f2]; rfl), ?_⟩
    have hb2 := hs.blk hb1 (by simp)
    refine st_val (.tuple #[.int .i64 x0, .int .i64 x11]) (wn rfl) rfl (by simp only [f0, f1, f2]; rfl) ?_
    refine st_val (.int .i64 x0) (wn rfl) rfl (by simp only [f0, f1, f2]; rfl) ?_
    refine st_val (.int .i64 x11) (wn rfl) rfl (by simp only [f0, f1, f2]; rfl) ?_
    refine st_val (.int .i64 x0) (wn rfl) rfl (by simp only [f0, f1, f2]; rfl) ?_
    refine st_val (.int .i64 x11) (wn rfl) rfl (by simp only [f0, f1, f2]; rfl) ?_
    refine wpList_nil ?_
    refine then_normal ?_
    refine wp_seq ?_
    refine wp_region_lit ?_
    refine st_val (.pointer (some ⟨b1, 2, none⟩)) (wn rfl) (r_field (Try.runUnderlying44 _) rfl (Try.sizeOf3 _) rfl rfl) (by simp only [f0, f1, f2]; rfl) ?_
    refine st_val (.int .i64 s2) (wn rfl) (r_load1 (Try.isAgg3 _) rfl (hb2.cell 2)) (by simp only [f0, f1, f2]; rfl) ?_
    refine st_val (.int .i64 (bits .and .i64 s2 1023)) (wn rfl) rfl (by simp only [f0, f1, f2]; rfl) ?_
    refine st_val (.int .i64 x0) (wn rfl) rfl (by simp only [f0, f1, f2]; rfl) ?_
    refine st_val (.int .i64 (IntKind.i64.wrap (x0 + 1))) (wn rfl) rfl (by simp only [f0, f1, f2]; rfl) ?_
    obtain ⟨hx4, h⟩ := h
    refine st_val (.int .i64 (Int.tmod (bits .and .i64 s2 1023) (IntKind.i64.wrap (x0 + 1)))) (wn rfl) (r_rem rfl rfl hx4) (by simp only [f0, f1, f2]; rfl) ?_
    refine st_val (.int .i64 (Int.tmod (bits .and .i64 s2 1023) (IntKind.i64.wrap (x0 + 1)))) (wn rfl) rfl (by simp only [f0, f1, f2]; rfl) ?_
    refine wpList_nil ?_
    refine then_normal ?_
    refine wp_seq ?_
    refine wp_region_lit ?_
    refine st_val (.pointer x2) (wn rfl) rfl (by simp only [f0, f1, f2]; rfl) ?_
    refine st_val (.int .i64 (Int.tmod (bits .and .i64 s2 1023) (IntKind.i64.wrap (x0 + 1)))) (wn rfl) rfl (by simp only [f0, f1, f2]; rfl) ?_
    refine st_one (wn rfl) ?_
    refine o_enter (args := #[.pointer x2, .int .i64 (Int.tmod (bits .and .i64 s2 1023) (IntKind.i64.wrap (x0 + 1)))]) (r_enter Try.call23 rfl) (h.mono ?_)
    clear h
    rintro _ w_3 ⟨x01, x12, rfl, hs1, h⟩
    refine ⟨_, _, rfl, (by simp only [f0, f1, f2]; rfl), ?_⟩
    have hb3 := hs1.blk hb2 (by simp)
    refine st_val (.tuple #[.int .i64 x01, .bool x12]) (wn rfl) rfl (by simp only [f0, f1, f2]; rfl) ?_
    refine st_val (.int .i64 x01) (wn rfl) rfl (by simp only [f0, f1, f2]; rfl) ?_
    refine st_val (.bool x12) (wn rfl) rfl (by simp only [f0, f1, f2]; rfl) ?_
    refine st_val (.int .i64 x01) (wn rfl) rfl (by simp only [f0, f1, f2]; rfl) ?_
    refine st_val (.bool x12) (wn rfl) rfl (by simp only [f0, f1, f2]; rfl) ?_
    refine wpList_nil ?_
    refine then_normal ?_
    refine wp_seq ?_
    refine wp_seq ?_
    refine wp_region_lit ?_
    refine st_val (.bool x12) (wn rfl) rfl (by simp only [f0, f1, f2]; rfl) ?_
    refine st_val (.bool (!x12)) (wn rfl) rfl (by simp only [f0, f1, f2]; rfl) ?_
    refine wpList_nil ?_
    refine then_normal ?_
    refine wp_cond_split (t := (!x12)) rfl (fun hc1 => ?_) (fun hc1 => ?_)
    · replace h := h.1 hc1
      refine wp_seq ?_
      refine wp_region_lit ?_
      refine st_val (.bool true) (wn rfl) rfl (by simp only [f0, f1, f2]; rfl) ?_
      refine wpList_nil ?_
      refine then_normal ?_
      refine wp_ret ?_
      refine then_ret ?_
      exact end_ret (r_res1 (v := .bool true) Try.results11 ⟨rfl, trivial⟩) rfl h
    · replace h := h.2 hc1
      refine wp_skip ?_
      refine then_normal ?_
      refine wp_seq ?_
      refine wp_region_lit ?_
      refine st_val (.pointer x1) (wn rfl) rfl (by simp only [f0, f1, f2]; rfl) ?_
      refine st_val (.int .i64 (Int.tmod (bits .and .i64 s2 1023) (IntKind.i64.wrap (x0 + 1)))) (wn rfl) rfl (by simp only [f0, f1, f2]; rfl) ?_
      refine st_val (.int .i64 x01) (wn rfl) rfl (by simp only [f0, f1, f2]; rfl) ?_
      refine st_val (.pointer x2) (wn rfl) rfl (by simp only [f0, f1, f2]; rfl) ?_
      refine st_val (.int .i64 (Int.tmod (bits .and .i64 s2 1023) (IntKind.i64.wrap (x0 + 1)))) (wn rfl) rfl (by simp only [f0, f1, f2]; rfl) ?_
      refine st_val (.int .i64 (IntKind.i64.wrap ((Int.tmod (bits .and .i64 s2 1023) (IntKind.i64.wrap (x0 + 1))) + 1))) (wn rfl) rfl (by simp only [f0, f1, f2]; rfl) ?_
      refine st_val (.pointer (some ⟨b1, 3, none⟩)) (wn rfl) (r_field (Try.runUnderlying44 _) rfl (Try.sizeOf3 _) rfl rfl) (by simp only [f0, f1, f2]; rfl) ?_
      refine st_val (.int .i64 s3) (wn rfl) (r_load1 (Try.isAgg3 _) rfl (hb3.cell 3)) (by simp only [f0, f1, f2]; rfl) ?_
      refine st_val (.int .i64 (bits .and .i64 s3 7)) (wn rfl) rfl (by simp only [f0, f1, f2]; rfl) ?_
      refine st_one (wn rfl) ?_
      refine o_enter (args := #[.pointer x2, .int .i64 (IntKind.i64.wrap ((Int.tmod (bits .and .i64 s2 1023) (IntKind.i64.wrap (x0 + 1))) + 1)), .int .i64 (bits .and .i64 s3 7)]) (r_enter Try.call9 rfl) (h.mono ?_)
      clear h
      rintro _ w_4 ⟨x3, rfl, hs2, h⟩
      refine ⟨_, _, rfl, (by simp only [f0, f1, f2]; rfl), ?_⟩
      have hb4 := hs2.blk hb3 (by simp)
      refine st_one (wn rfl) ?_
      refine o_enter (args := #[.pointer x1, .int .i64 (Int.tmod (bits .and .i64 s2 1023) (IntKind.i64.wrap (x0 + 1))), .int .i64 x01, Sl.v x3]) (r_enter Try.call7 rfl) (h.mono ?_)
      clear h
      rintro _ w_5 ⟨x02, x13, x21, rfl, hs3, h⟩
      refine ⟨_, _, rfl, (by simp only [f0, f1, f2]; rfl), ?_⟩
      have hb5 := hs3.blk hb4 (by simp)
      refine st_val (.tuple #[.int .i64 x02, Sl.v x13, .int .i64 x21]) (wn rfl) rfl (by simp only [f0, f1, f2]; rfl) ?_
      refine st_val (.int .i64 x02) (wn rfl) rfl (by simp only [f0, f1, f2]; rfl) ?_
      refine st_val (Sl.v x13) (wn rfl) rfl (by simp only [f0, f1, f2]; rfl) ?_
      refine st_val (.int .i64 x21) (wn rfl) rfl (by simp only [f0, f1, f2]; rfl) ?_
      refine st_val (.int .i64 x02) (wn rfl) rfl (by simp only [f0, f1, f2]; rfl) ?_
      refine st_val (Sl.v x13) (wn rfl) rfl (by simp only [f0, f1, f2]; rfl) ?_
      refine st_val (.int .i64 x21) (wn rfl) rfl (by simp only [f0, f1, f2]; rfl) ?_
      refine wpList_nil ?_
      refine then_normal ?_
      refine wp_seq ?_
      refine wp_seq ?_
      refine wp_region_lit ?_
      refine st_val (.int .i64 x21) (wn rfl) rfl (by simp only [f0, f1, f2]; rfl) ?_
      refine st_val (.bool (x21 != 0)) (wn rfl) rfl (by simp only [f0, f1, f2]; rfl) ?_
      refine wpList_nil ?_
      refine then_normal ?_
      refine wp_cond_split (t := (x21 != 0)) rfl (fun hc2 => ?_) (fun hc2 => ?_)
      · replace h := h.1 hc2
        refine wp_seq ?_
        refine wp_region_lit ?_
        refine st_val (.int .i64 x21) (wn rfl) rfl (by simp only [f0, f1, f2]; rfl) ?_
        refine st_val (.bool (x21 == 55)) (wn rfl) rfl (by simp only [f0, f1, f2]; rfl) ?_
        refine st_val (.bool (x21 == 55)) (wn rfl) rfl (by simp only [f0, f1, f2]; rfl) ?_
        refine st_cut 3 (fun a' w' => (∃ us : Nat → Value, a' = (⟨(fillin us 0 (some (.agg #[.pointer all0, .pointer all1, .pointer all2]) :: some (.agg #[.int .i64 s0, .int .i64 s1, .int .i64 s2, .int .i64 s3]) :: some (.int .i64 owner) :: some (.pointer (some (⟨b, 0, none⟩ : Addr))) :: some (.pointer (some ⟨b1, 0, none⟩)) :: some undef :: some (.bool false) :: some (.pointer x1) :: some (.pointer x2) :: some (.int .i64 x0) :: some (.int .i64 x11) :: some (.int .i64 (Int.tmod (bits .and .i64 s2 1023) (IntKind.i64.wrap (x0 + 1)))) :: some (.int .i64 x01) :: some (.bool x12) :: some (.int .i64 x02) :: some (Sl.v x13) :: some (.int .i64 x21) :: some (.pointer (some ⟨b1, 0, none⟩)) :: some (.int .i64 s0) :: some (.int .i64 (bits .and .i64 s0 1023)) :: some (.int .i64 (Int.tmod (bits .and .i64 s0 1023) 3)) :: some (.int .i64 owner) :: some (.bool ((Int.tmod (bits .and .i64 s0 1023) 3) == owner)) :: some (.pointer (some ⟨b1, 0, none⟩)) :: some (.int .i64 s0) :: some (.int .i64 (bits .and .i64 s0 1023)) :: some (.int .i64 (Int.tmod (bits .and .i64 s0 1023) 3)) :: some (.pointer (some (Addr.add (⟨b, 0, none⟩ : Addr) (Int.toNat (Int.tmod (bits .and .i64 s0 1023) 3) * 1)))) :: some (.pointer x1) :: some (.pointer (some ⟨b1, 1, none⟩)) :: some (.int .i64 s1) :: some (.int .i64 (bits .and .i64 s1 1023)) :: some (.int .i64 (Int.tmod (bits .and .i64 s1 1023) 3)) :: some (.pointer (some (Addr.add (⟨b, 0, none⟩ : Addr) (Int.toNat (Int.tmod (bits .and .i64 s1 1023) 3) * 1)))) :: some (.pointer x2) :: some (.tuple #[.int .i64 x0, .int .i64 x11]) :: some (.pointer x2) :: some (.tuple #[.int .i64 x0, .int .i64 x11]) :: some (.int .i64 x0) :: some (.int .i64 x11) :: some (.pointer (some ⟨b1, 2, none⟩)) :: some (.int .i64 s2) :: some (.int .i64 (bits .and .i64 s2 1023)) :: some (.int .i64 x0) :: some (.int .i64 (IntKind.i64.wrap (x0 + 1))) :: some (.int .i64 (Int.tmod (bits .and .i64 s2 1023) (IntKind.i64.wrap (x0 + 1)))) :: some (.tuple #[.int .i64 x01, .bool x12]) :: some (.pointer x2) :: some (.int .i64 (Int.tmod (bits .and .i64 s2 1023) (IntKind.i64.wrap (x0 + 1)))) :: some (.tuple #[.int .i64 x01, .bool x12]) :: some (.int .i64 x01) :: some (.bool x12) :: some (.bool x12) :: some (.bool (!x12)) :: some (.tuple #[.int .i64 x02, Sl.v x13, .int .i64 x21]) :: some (.pointer x1) :: some (.int .i64 (Int.tmod (bits .and .i64 s2 1023) (IntKind.i64.wrap (x0 + 1)))) :: some (.int .i64 x01) :: some (.pointer x2) :: some (.int .i64 (Int.tmod (bits .and .i64 s2 1023) (IntKind.i64.wrap (x0 + 1)))) :: some (.int .i64 (IntKind.i64.wrap ((Int.tmod (bits .and .i64 s2 1023) (IntKind.i64.wrap (x0 + 1))) + 1))) :: some (.pointer (some ⟨b1, 3, none⟩)) :: some (.int .i64 s3) :: some (.int .i64 (bits .and .i64 s3 7)) :: some (Sl.v x3) :: some (.tuple #[.int .i64 x02, Sl.v x13, .int .i64 x21]) :: some (.int .i64 x02) :: some (Sl.v x13) :: some (.int .i64 x21) :: some (.int .i64 x21) :: some (.bool (x21 != 0)) :: some (.int .i64 x21) :: some (.bool (x21 == 55)) :: some (.bool (x21 == 55)) :: none :: none :: some (.bool ((x21 == 55) && (x02 == 0))) :: some undef :: some undef :: some undef :: some undef :: [])).toArray, []⟩ : Act)) ∧ w_5 = w') ?_ ?_
        · simp only [List.take_succ_cons, List.take_zero]
          rcases Bool.eq_false_or_eq_true (x21 == 55) with hg | hg
          · refine st_val (.int .i64 x02) (wt rfl rfl rfl (congrArg Value.bool hg) rfl) rfl (by simp only [f0, f1, f2]; rfl) ?_
            refine st_val (.bool (x02 == 0)) (wt rfl rfl rfl (congrArg Value.bool hg) rfl) rfl (by simp only [f0, f1, f2]; rfl) ?_
            refine st_val (.bool (x02 == 0)) (wn rfl) (r_pickT (congrArg Value.bool hg) rfl) (by simp only [f0, f1, f2]; rfl) ?_
            refine wpList_nil ?_
            exact then_normal ⟨some_us (by simp only [masked, hg, Bool.true_and, Bool.false_and, Bool.true_or, Bool.false_or, cond_true, cond_false]) rfl rfl, rfl⟩
          · refine st_no (wt rfl rfl rfl (congrArg Value.bool hg) rfl) (by simp only [f0, f1, f2]; rfl) ?_
            refine st_no (wt rfl rfl rfl (congrArg Value.bool hg) rfl) (by simp only [f0, f1, f2]; rfl) ?_
            refine st_val (.bool false) (wn rfl) (r_pickF (congrArg Value.bool hg) rfl) (by simp only [f0, f1, f2]; rfl) ?_
            refine wpList_nil ?_
            exact then_normal ⟨some_us (by simp only [masked, hg, Bool.true_and, Bool.false_and, Bool.true_or, Bool.false_or, cond_true, cond_false]) rfl rfl, rfl⟩
        rintro a0 _ ⟨⟨us, hF⟩, rfl⟩
        simp only [fillin, Nat.reduceAdd] at hF
        subst hF
        simp only [List.drop_succ_cons, List.drop_zero]
        refine st_val (.bool ((x21 == 55) && (x02 == 0))) (wn rfl) rfl (by simp only [f0, f1, f2]; rfl) ?_
        refine wpList_nil ?_
        refine then_normal ?_
        refine wp_ret ?_
        refine then_ret ?_
        exact end_ret (r_res1 (v := .bool ((x21 == 55) && (x02 == 0))) Try.results11 ⟨rfl, trivial⟩) rfl h
      · replace h := h.2 hc2
        refine wp_skip ?_
        refine then_normal ?_
        refine wp_seq ?_
        refine wp_region_lit ?_
        refine st_val (.pointer x1) (wn rfl) rfl (by simp only [f0, f1, f2]; rfl) ?_
        refine st_val (Sl.v x13) (wn rfl) rfl (by simp only [f0, f1, f2]; rfl) ?_
        refine st_one (wn rfl) ?_
        refine o_enter (args := #[.pointer x1, Sl.v x13]) (r_enter Try.call8 rfl) (h.mono ?_)
        clear h
        rintro _ w_6 ⟨x4, rfl, hs4, h⟩
        refine ⟨_, _, rfl, (by simp only [f0, f1, f2]; rfl), ?_⟩
        have hb6 := hs4.blk hb5 (by simp)
        refine st_val (.bool (x4 == 0)) (wn rfl) rfl (by simp only [f0, f1, f2]; rfl) ?_
        refine st_val (.bool (x4 == 0)) (wn rfl) rfl (by simp only [f0, f1, f2]; rfl) ?_
        refine wpList_nil ?_
        refine then_normal ?_
        refine wp_ret ?_
        exact end_ret (r_res1 (v := .bool (x4 == 0)) Try.results11 ⟨rfl, trivial⟩) rfl h

/-- what is to be shown of a call of (*ledger.Ledger).Fit$3 -/
def ledger_Ledger_Fit_3_vc (e0 : Int) (e1 : Int) (e2 : Int) (e3 : Sl) (ccap0 : Addr) (ccap1 : Addr) (ccap2 : Addr) (R : Value → World → Prop) (w : World) : Prop :=
  ∀ (b : Nat) (w_ : World), w.heap.size ≤ b → b < w_.heap.size → Only [] w w_ →
  ∃ x1 : Option Addr, Cells w_ ccap0 [.pointer x1] ∧
  ∃ ad : Addr, x1 = some ad ∧
  ∃ x2 : Int, Cells w_ (Addr.add (Addr.add ad 0) 0) [.int .i64 x2] ∧
  ∃ J_ : Bool → World → Prop, (∀ (t5 : Bool) (w_1 : World), J_ t5 w_1 →
  R (.bool t5) w_1) ∧
  (∀ (w_2 : World), Only [] w_ w_2 →
  (((decide (e0 > x2)) = true →
  ∃ x3 : Int, Cells w_2 ccap1 [.int .i64 x3] ∧
  (((decide (e0 > x3)) = true →
  J_ true w_2) ∧
  ((decide (e0 > x3)) = false →
  ∃ x4 : Value, Cells w_2 ccap2 [x4] ∧
  ∃ (fid : FuncId) (cap : List Value), x4 = .func (.func fid) #[] cap.toArray ∧ (∀ (args : Array Value) (w : World), (callFunc fid args).run Try.prog w = .ok (.enter fid args) w) ∧
  Calls Try.prog fid (([.agg #[.int .i64 e0, .int .i64 e1, .int .i64 e2, Sl.v e3]] : List Value) ++ cap).toArray w_2 (fun e w_3 => ∃ x5 : Bool, e = .returned (.bool x5) ∧ Same [b] w_2 w_3 ∧
  J_ x5 w_3)))) ∧
  ((decide (e0 > x2)) = false →
  J_ false w_2)))
theorem ledger_Ledger_Fit_3_wp (e0 : Int) (e1 : Int) (e2 : Int) (e3 : Sl) (ccap0 : Addr) (ccap1 : Addr) (ccap2 : Addr) (R : Value → World → Prop) (w : World) (h : ledger_Ledger_Fit_3_vc e0 e1 e2 e3 ccap0 ccap1 ccap2 R w) :
    Calls Try.prog 21 #[.agg #[.int .i64 e0, .int .i64 e1, .int .i64 e2, Sl.v e3], .pointer (some ccap0), .pointer (some ccap1), .pointer (some ccap2)] w fun e w' => ∃ v, e = .returned v ∧ R v w' := by
  unfold ledger_Ledger_Fit_3_vc at h
  refine calls_of (k := 21) Try.func21 rfl Try.ntmps21 rfl rfl ?_
  simp only [List.replicate, List.cons_append, List.nil_append]
  refine wp_seq ?_
  refine wp_region_lit ?_
  refine st_one (wn rfl) ?_
  refine o_boxB (zs := [.int .i64 e0, .int .i64 e1, .int .i64 e2, Sl.v e3]) rfl (fun b => by simp only [f0, f1, f2]; rfl) (fun b w_ hn hO hb => ?_)
  have hn_b : w.heap.size ≤ b := hn
  have hA : Only [] w w_ := hO
  refine st_val (.bool false) (wn rfl) rfl (by simp only [f0, f1, f2]; rfl) ?_
  refine wpList_nil ?_
  refine then_normal ?_
  refine wp_seq ?_
  replace h := h b w_ hn_b hb.lt hA
  obtain ⟨x1, hx, h⟩ := h
  obtain ⟨ad, hx1, h⟩ := h
  obtain ⟨x2, hx2, h⟩ := h
  obtain ⟨J_, hJ, h⟩ := h
  refine wp_cut (fun a' w' => ∃ t5 : Bool, (∃ us : Nat → Value, a' = (⟨(fillin us 0 (some (.agg #[.int .i64 e0, .int .i64 e1, .int .i64 e2, Sl.v e3]) :: some (.pointer (some ccap0)) :: some (.pointer (some ccap1)) :: some (.pointer (some ccap2)) :: some (.pointer (some ⟨b, 0, none⟩)) :: some (.bool t5) :: none :: none :: none :: none :: none :: none :: none :: none :: none :: none :: none :: none :: none :: none :: none :: none :: none :: none :: none :: [])).toArray, []⟩ : Act)) ∧ Blk w' b 34 [.int .i64 e0, .int .i64 e1, .int .i64 e2, Sl.v e3] ∧ J_ t5 w') ?_ ?_
  · clear h
    rintro a0 w_1 ⟨t5, ⟨us, hF⟩, hb1, h⟩
    simp only [fillin, Nat.reduceAdd] at hF
    subst hF
    replace h := hJ _ _ h
    refine then_normal ?_
    refine wp_ret ?_
    exact end_ret (r_res1 (v := .bool t5) Try.results21 ⟨rfl, trivial⟩) rfl h
  · refine e_region (EL [(16, [b])]) Try.checked.mixed ?_
    have hO1 := Only.drew w_
    have hx3 : Cells w_.drew _ _ := hx
    have hx4 : Cells w_.drew _ _ := hx2
    generalize w_.drew = w_2 at *
    have hA1 : Only [] w_ w_2 := hO1
    have hb2 := hO1.blk hb (by simp)
    refine e_take 0 [1, 7, 8, 9, 10, 11, 12, 13, 14, 15, 16, 17, 18, 19] [] (.pointer (some ⟨b, 0, none⟩)) (fun _ => True) rfl (by kernel_rfl) (by kernel_rfl) (by kernel_rfl) (by kernel_rfl) (by kernel_rfl) (by kernel_rfl) (fun _ _ _ h => h) el_true (fun w _ => el_quiet rfl w) trivial (y_val (wn rfl) (fun w' hw' => (r_field (Try.runUnderlying34 _) rfl (Try.sizeOf3 _) rfl rfl))) (by simp only [f0, f1, f2]; rfl) ?_
    refine e_take 1 [7, 8, 9, 10, 11, 12, 13, 14, 15, 16, 17, 18, 19] [0] (.int .i64 e0) (fun w' => Blk w' b 34 [.int .i64 e0, .int .i64 e1, .int .i64 e2, Sl.v e3]) rfl (by kernel_rfl) (by kernel_rfl) (by kernel_rfl) (by kernel_rfl) (by kernel_rfl) (by kernel_rfl) (fun _ _ _ h => h) (el_stable (b := b) (List.forall_mem_cons.2 ⟨.inl (by simp), List.forall_mem_nil _⟩) keep_blk) (fun w _ => el_quiet rfl w) hb2 (y_val (wn rfl) (fun w' hw' => (r_load1 (Try.isAgg3 _) rfl (hw'.cell 0)))) (by simp only [f0, f1, f2]; rfl) ?_
    refine e_take 2 [3, 4, 5, 6, 7, 8, 9, 10, 11, 12, 13, 14, 15, 16, 17, 18, 19] [0, 1] (.pointer x1) (fun w' => Cells w' ccap0 [.pointer x1]) rfl (by kernel_rfl) (by kernel_rfl) (by kernel_rfl) (by kernel_rfl) (by kernel_rfl) (by kernel_rfl) (fun _ _ _ h => h) (el_stable (b := (ccap0).block) (List.forall_mem_cons.2 ⟨.inl (by simp), List.forall_mem_nil _⟩) keep_cells) (fun w _ => el_quiet rfl w) hx3 (y_val (wn rfl) (fun w' hw' => (r_load1 (Try.isAgg24 _) rfl (Cells.one hw')))) (by simp only [f0, f1, f2]; rfl) ?_
    refine e_take 3 [4, 5, 6, 7, 8, 9, 10, 11, 12, 13, 14, 15, 16, 17, 18, 19] [0, 1, 2] (.pointer (some ad)) (fun _ => True) rfl (by kernel_rfl) (by kernel_rfl) (by kernel_rfl) (by kernel_rfl) (by kernel_rfl) (by kernel_rfl) (fun _ _ _ h => h) el_true (fun w _ => el_quiet rfl w) trivial (y_val (wn rfl) (fun w' hw' => (r_nil (congrArg Value.pointer hx1)))) (by simp only [f0, f1, f2]; rfl) ?_
    refine e_take 4 [5, 6, 7, 8, 9, 10, 11, 12, 13, 14, 15, 16, 17, 18, 19] [0, 1, 2, 3] (.pointer (some (Addr.add ad 0))) (fun _ => True) rfl (by kernel_rfl) (by kernel_rfl) (by kernel_rfl) (by kernel_rfl) (by kernel_rfl) (by kernel_rfl) (fun _ _ _ h => h) el_true (fun w _ => el_quiet rfl w) trivial (y_val (wn rfl) (fun w' hw' => (r_field (Try.runUnderlying54 _) rfl (Try.sizeOf50 _) rfl rfl))) (by simp only [f0, f1, f2]; rfl) ?_
    refine e_take 5 [6, 7, 8, 9, 10, 11, 12, 13, 14, 15, 16, 17, 18, 19] [0, 1, 2, 3, 4] (.pointer (some (Addr.add (Addr.add ad 0) 0))) (fun _ => True) rfl (by kernel_rfl) (by kernel_rfl) (by kernel_rfl) (by kernel_rfl) (by kernel_rfl) (by kernel_rfl) (fun _ _ _ h => h) el_true (fun w _ => el_quiet rfl w) trivial (y_val (wn rfl) (fun w' hw' => (r_field (Try.runUnderlying50 _) rfl (Try.sizeOf3 _) rfl rfl))) (by simp only [f0, f1, f2]; rfl) ?_
    refine e_take 6 [7, 8, 9, 10, 11, 12, 13, 14, 15, 16, 17, 18, 19] [0, 1, 2, 3, 4, 5] (.int .i64 x2) (fun w' => Cells w' (Addr.add (Addr.add ad 0) 0) [.int .i64 x2]) rfl (by kernel_rfl) (by kernel_rfl) (by kernel_rfl) (by kernel_rfl) (by kernel_rfl) (by kernel_rfl) (fun _ _ _ h => h) (el_stable (b := (Addr.add (Addr.add ad 0) 0).block) (List.forall_mem_cons.2 ⟨.inl (by simp), List.forall_mem_nil _⟩) keep_cells) (fun w _ => el_quiet rfl w) hx4 (y_val (wn rfl) (fun w' hw' => (r_load1 (Try.isAgg3 _) rfl (Cells.one hw')))) (by simp only [f0, f1, f2]; rfl) ?_
    refine e_take 7 [8, 9, 10, 11, 12, 13, 14, 15, 16, 17, 18, 19] [0, 1, 2, 3, 4, 5, 6] (.bool (decide (e0 > x2))) (fun _ => True) rfl (by kernel_rfl) (by kernel_rfl) (by kernel_rfl) (by kernel_rfl) (by kernel_rfl) (by kernel_rfl) (fun _ _ _ h => h) el_true (fun w _ => el_quiet rfl w) trivial (y_val (wn rfl) (fun w' hw' => rfl)) (by simp only [f0, f1, f2]; rfl) ?_
    refine e_take 8 [9, 10, 11, 12, 13, 14, 15, 16, 17, 18, 19] [0, 1, 2, 3, 4, 5, 6, 7] (.bool (decide (e0 > x2))) (fun _ => True) rfl (by kernel_rfl) (by kernel_rfl) (by kernel_rfl) (by kernel_rfl) (by kernel_rfl) (by kernel_rfl) (fun _ _ _ h => h) el_true (fun w _ => el_quiet rfl w) trivial (y_val (wn rfl) (fun w' hw' => rfl)) (by simp only [f0, f1, f2]; rfl) ?_
    replace h := h w_2 hA1
    rcases Bool.eq_false_or_eq_true (decide (e0 > x2)) with hg | hg
    · replace h := h.1 hg
      refine e_take 9 [10, 12, 13, 14, 15, 16, 17, 18, 19] [0, 1, 2, 3, 4, 5, 6, 7, 8] (.pointer (some ⟨b, 0, none⟩)) (fun _ => True) rfl (by kernel_rfl) (by kernel_rfl) (by kernel_rfl) (by kernel_rfl) (by kernel_rfl) (by kernel_rfl) (fun _ _ _ h => h) el_true (fun w _ => el_quiet rfl w) trivial (y_val (wt rfl rfl rfl (congrArg Value.bool hg) rfl) (fun w' hw' => (r_field (Try.runUnderlying34 _) rfl (Try.sizeOf3 _) rfl rfl))) (by simp only [f0, f1, f2]; rfl) ?_
      refine e_take 10 [12, 13, 14, 15, 16, 17, 18, 19] [0, 1, 2, 3, 4, 5, 6, 7, 8, 9] (.int .i64 e0) (fun w' => Blk w' b 34 [.int .i64 e0, .int .i64 e1, .int .i64 e2, Sl.v e3]) rfl (by kernel_rfl) (by kernel_rfl) (by kernel_rfl) (by kernel_rfl) (by kernel_rfl) (by kernel_rfl) (fun _ _ _ h => h) (el_stable (b := b) (List.forall_mem_cons.2 ⟨.inl (by simp), List.forall_mem_nil _⟩) keep_blk) (fun w _ => el_quiet rfl w) hb2 (y_val (wt rfl rfl rfl (congrArg Value.bool hg) rfl) (fun w' hw' => (r_load1 (Try.isAgg3 _) rfl (hw'.cell 0)))) (by simp only [f0, f1, f2]; rfl) ?_
      obtain ⟨x3, hx5, h⟩ := h
      refine e_take 11 [12, 13, 14, 15, 16, 17, 18, 19] [0, 1, 2, 3, 4, 5, 6, 7, 8, 9, 10] (.int .i64 x3) (fun w' => Cells w' ccap1 [.int .i64 x3]) rfl (by kernel_rfl) (by kernel_rfl) (by kernel_rfl) (by kernel_rfl) (by kernel_rfl) (by kernel_rfl) (fun _ _ _ h => h) (el_stable (b := (ccap1).block) (List.forall_mem_cons.2 ⟨.inl (by simp), List.forall_mem_nil _⟩) keep_cells) (fun w _ => el_quiet rfl w) hx5 (y_val (wt rfl rfl rfl (congrArg Value.bool hg) rfl) (fun w' hw' => (r_load1 (Try.isAgg3 _) rfl (Cells.one hw')))) (by simp only [f0, f1, f2]; rfl) ?_
      refine e_take 12 [13, 14, 15, 16, 17, 18, 19] [0, 1, 2, 3, 4, 5, 6, 7, 8, 9, 10, 11] (.bool (decide (e0 > x3))) (fun _ => True) rfl (by kernel_rfl) (by kernel_rfl) (by kernel_rfl) (by kernel_rfl) (by kernel_rfl) (by kernel_rfl) (fun _ _ _ h => h) el_true (fun w _ => el_quiet rfl w) trivial (y_val (wt rfl rfl rfl (congrArg Value.bool hg) rfl) (fun w' hw' => rfl)) (by simp only [f0, f1, f2]; rfl) ?_
      refine e_take 13 [14, 15, 16, 17, 18, 19] [0, 1, 2, 3, 4, 5, 6, 7, 8, 9, 10, 11, 12] (.bool (decide (e0 > x3))) (fun _ => True) rfl (by kernel_rfl) (by kernel_rfl) (by kernel_rfl) (by kernel_rfl) (by kernel_rfl) (by kernel_rfl) (fun _ _ _ h => h) el_true (fun w _ => el_quiet rfl w) trivial (y_val (wt rfl rfl rfl (congrArg Value.bool hg) rfl) (fun w' hw' => rfl)) (by simp only [f0, f1, f2]; rfl) ?_
      rcases Bool.eq_false_or_eq_true (decide (e0 > x3)) with hg1 | hg1
      · replace h := h.1 hg1
        refine e_take 14 [16, 17, 18, 19] [0, 1, 2, 3, 4, 5, 6, 7, 8, 9, 10, 11, 12, 13] (undef) (fun _ => True) rfl (by kernel_rfl) (by kernel_rfl) (by kernel_rfl) (by kernel_rfl) (by kernel_rfl) (by kernel_rfl) (fun _ _ _ h => h) el_true (fun w _ => el_quiet rfl w) trivial (y_no (wt rfl rfl rfl (congrArg Value.bool hg1) rfl)) (by simp only [f0, f1, f2]; rfl) ?_
        refine e_take 15 [16, 17, 18, 19] [0, 1, 2, 3, 4, 5, 6, 7, 8, 9, 10, 11, 12, 13, 14] (undef) (fun _ => True) rfl (by kernel_rfl) (by kernel_rfl) (by kernel_rfl) (by kernel_rfl) (by kernel_rfl) (by kernel_rfl) (fun _ _ _ h => h) el_true (fun w _ => el_quiet rfl w) trivial (y_no (wt rfl rfl rfl (congrArg Value.bool hg1) rfl)) (by simp only [f0, f1, f2]; rfl) ?_
        refine e_take 16 [17, 18, 19] [0, 1, 2, 3, 4, 5, 6, 7, 8, 9, 10, 11, 12, 13, 14, 15] (undef) (fun _ => True) rfl (by kernel_rfl) (by kernel_rfl) (by kernel_rfl) (by kernel_rfl) (by kernel_rfl) (by kernel_rfl) (fun _ _ _ h => h) el_true (fun w _ => el_loud rfl (Same.refl _ w)) trivial (y_no (wt rfl rfl rfl (congrArg Value.bool hg1) rfl)) (by simp only [f0, f1, f2]; rfl) ?_
        refine e_take 17 [18, 19] [0, 1, 2, 3, 4, 5, 6, 7, 8, 9, 10, 11, 12, 13, 14, 15, 16] (.bool true) (fun _ => True) rfl (by kernel_rfl) (by kernel_rfl) (by kernel_rfl) (by kernel_rfl) (by kernel_rfl) (by kernel_rfl) (fun _ _ _ h => h) el_true (fun w _ => el_quiet rfl w) trivial (y_val (wt rfl rfl rfl (congrArg Value.bool hg) rfl) (fun w' hw' => (r_pickT (congrArg Value.bool hg1) rfl))) (by simp only [f0, f1, f2]; rfl) ?_
        refine e_take 18 [19] [0, 1, 2, 3, 4, 5, 6, 7, 8, 9, 10, 11, 12, 13, 14, 15, 16, 17] (.bool true) (fun _ => True) rfl (by kernel_rfl) (by kernel_rfl) (by kernel_rfl) (by kernel_rfl) (by kernel_rfl) (by kernel_rfl) (fun _ _ _ h => h) el_true (fun w _ => el_quiet rfl w) trivial (y_val (wn rfl) (fun w' hw' => (r_pickT (congrArg Value.bool hg) rfl))) (by simp only [f0, f1, f2]; rfl) ?_
        refine e_take 19 [] [0, 1, 2, 3, 4, 5, 6, 7, 8, 9, 10, 11, 12, 13, 14, 15, 16, 17, 18] (.bool true) (fun _ => True) rfl (by kernel_rfl) (by kernel_rfl) (by kernel_rfl) (by kernel_rfl) (by kernel_rfl) (by kernel_rfl) (fun _ _ _ h => h) el_true (fun w _ => el_quiet rfl w) trivial (y_val (wn rfl) (fun w' hw' => rfl)) (by simp only [f0, f1, f2]; rfl) ?_
        refine e_done (by kernel_rfl) ?_
        exact then_normal ⟨_, (some_us rfl rfl rfl), hb2, h⟩
      · replace h := h.2 hg1
        obtain ⟨x4, hx6, h⟩ := h
        refine e_take 14 [16, 17, 18, 19] [0, 1, 2, 3, 4, 5, 6, 7, 8, 9, 10, 11, 12, 13] (x4) (fun w' => Cells w' ccap2 [x4]) rfl (by kernel_rfl) (by kernel_rfl) (by kernel_rfl) (by kernel_rfl) (by kernel_rfl) (by kernel_rfl) (fun _ _ _ h => h) (el_stable (b := (ccap2).block) (List.forall_mem_cons.2 ⟨.inl (by simp), List.forall_mem_nil _⟩) keep_cells) (fun w _ => el_quiet rfl w) hx6 (y_val (wt rfl rfl rfl (congrArg Value.bool hg1) rfl) (fun w' hw' => (r_load1 (Try.isAgg57 _) rfl (Cells.one hw')))) (by simp only [f0, f1, f2]; rfl) ?_
        refine e_take 15 [16, 17, 18, 19] [0, 1, 2, 3, 4, 5, 6, 7, 8, 9, 10, 11, 12, 13, 14] (.agg #[.int .i64 e0, .int .i64 e1, .int .i64 e2, Sl.v e3]) (fun w' => Blk w' b 34 [.int .i64 e0, .int .i64 e1, .int .i64 e2, Sl.v e3]) rfl (by kernel_rfl) (by kernel_rfl) (by kernel_rfl) (by kernel_rfl) (by kernel_rfl) (by kernel_rfl) (fun _ _ _ h => h) (el_stable (b := b) (List.forall_mem_cons.2 ⟨.inl (by simp), List.forall_mem_nil _⟩) keep_blk) (fun w _ => el_quiet rfl w) hb2 (y_val (wt rfl rfl rfl (congrArg Value.bool hg1) rfl) (fun w' hw' => (r_loadN (Try.isAgg34 _) (Try.sizeOf34 _) rfl rfl (hw'.cellsAt 0 [.int .i64 e0, .int .i64 e1, .int .i64 e2, Sl.v e3] rfl)))) (by simp only [f0, f1, f2]; rfl) ?_
        obtain ⟨fid, cap, hx7, hx8, h⟩ := h
        refine e_one 16 rfl (by kernel_rfl) (wt rfl rfl rfl (congrArg Value.bool hg1) rfl) ?_
        refine o_enter (args := (([.agg #[.int .i64 e0, .int .i64 e1, .int .i64 e2, Sl.v e3]] : List Value) ++ cap).toArray) (r_enterC (first := []) (captured := cap) hx7 hx8 rfl) (h.mono ?_)
        clear h
        rintro _ w_3 ⟨x5, rfl, hs, h⟩
        refine ⟨_, _, rfl, (by simp only [f0, f1, f2]; rfl), ?_⟩
        have hb3 := hs.blk hb2 (by simp)
        refine ⟨el_loud rfl hs, ?_⟩
        refine e_take 17 [18, 19] [0, 1, 2, 3, 4, 5, 6, 7, 8, 9, 10, 11, 12, 13, 14, 15, 16] (.bool x5) (fun _ => True) rfl (by kernel_rfl) (by kernel_rfl) (by kernel_rfl) (by kernel_rfl) (by kernel_rfl) (by kernel_rfl) (fun _ _ _ h => h) el_true (fun w _ => el_quiet rfl w) trivial (y_val (wt rfl rfl rfl (congrArg Value.bool hg) rfl) (fun w' hw' => (r_pickF (congrArg Value.bool hg1) rfl))) (by simp only [f0, f1, f2]; rfl) ?_
        refine e_take 18 [19] [0, 1, 2, 3, 4, 5, 6, 7, 8, 9, 10, 11, 12, 13, 14, 15, 16, 17] (.bool x5) (fun _ => True) rfl (by kernel_rfl) (by kernel_rfl) (by kernel_rfl) (by kernel_rfl) (by kernel_rfl) (by kernel_rfl) (fun _ _ _ h => h) el_true (fun w _ => el_quiet rfl w) trivial (y_val (wn rfl) (fun w' hw' => (r_pickT (congrArg Value.bool hg) rfl))) (by simp only [f0, f1, f2]; rfl) ?_
        refine e_take 19 [] [0, 1, 2, 3, 4, 5, 6, 7, 8, 9, 10, 11, 12, 13, 14, 15, 16, 17, 18] (.bool x5) (fun _ => True) rfl (by kernel_rfl) (by kernel_rfl) (by kernel_rfl) (by kernel_rfl) (by kernel_rfl) (by kernel_rfl) (fun _ _ _ h => h) el_true (fun w _ => el_quiet rfl w) trivial (y_val (wn rfl) (fun w' hw' => rfl)) (by simp only [f0, f1, f2]; rfl) ?_
        refine e_done (by kernel_rfl) ?_
        exact then_normal ⟨_, (some_us rfl rfl rfl), hb3, h⟩
    · replace h := h.2 hg
      refine e_take 9 [10, 12, 13, 14, 15, 16, 17, 18, 19] [0, 1, 2, 3, 4, 5, 6, 7, 8] (undef) (fun _ => True) rfl (by kernel_rfl) (by kernel_rfl) (by kernel_rfl) (by kernel_rfl) (by kernel_rfl) (by kernel_rfl) (fun _ _ _ h => h) el_true (fun w _ => el_quiet rfl w) trivial (y_no (wt rfl rfl rfl (congrArg Value.bool hg) rfl)) (by simp only [f0, f1, f2]; rfl) ?_
      refine e_take 10 [12, 13, 14, 15, 16, 17, 18, 19] [0, 1, 2, 3, 4, 5, 6, 7, 8, 9] (undef) (fun _ => True) rfl (by kernel_rfl) (by kernel_rfl) (by kernel_rfl) (by kernel_rfl) (by kernel_rfl) (by kernel_rfl) (fun _ _ _ h => h) el_true (fun w _ => el_quiet rfl w) trivial (y_no (wt rfl rfl rfl (congrArg Value.bool hg) rfl)) (by simp only [f0, f1, f2]; rfl) ?_
      refine e_take 11 [12, 13, 14, 15, 16, 17, 18, 19] [0, 1, 2, 3, 4, 5, 6, 7, 8, 9, 10] (undef) (fun _ => True) rfl (by kernel_rfl) (by kernel_rfl) (by kernel_rfl) (by kernel_rfl) (by kernel_rfl) (by kernel_rfl) (fun _ _ _ h => h) el_true (fun w _ => el_quiet rfl w) trivial (y_no (wt rfl rfl rfl (congrArg Value.bool hg) rfl)) (by simp only [f0, f1, f2]; rfl) ?_
      refine e_take 12 [13, 14, 15, 16, 17, 18, 19] [0, 1, 2, 3, 4, 5, 6, 7, 8, 9, 10, 11] (undef) (fun _ => True) rfl (by kernel_rfl) (by kernel_rfl) (by kernel_rfl) (by kernel_rfl) (by kernel_rfl) (by kernel_rfl) (fun _ _ _ h => h) el_true (fun w _ => el_quiet rfl w) trivial (y_no (wt rfl rfl rfl (congrArg Value.bool hg) rfl)) (by simp only [f0, f1, f2]; rfl) ?_
      refine e_take 13 [14, 15, 16, 17, 18, 19] [0, 1, 2, 3, 4, 5, 6, 7, 8, 9, 10, 11, 12] (undef) (fun _ => True) rfl (by kernel_rfl) (by kernel_rfl) (by kernel_rfl) (by kernel_rfl) (by kernel_rfl) (by kernel_rfl) (fun _ _ _ h => h) el_true (fun w _ => el_quiet rfl w) trivial (y_no (wt rfl rfl rfl (congrArg Value.bool hg) rfl)) (by simp only [f0, f1, f2]; rfl) ?_
      refine e_take 14 [16, 17, 18, 19] [0, 1, 2, 3, 4, 5, 6, 7, 8, 9, 10, 11, 12, 13] (undef) (fun _ => True) rfl (by kernel_rfl) (by kernel_rfl) (by kernel_rfl) (by kernel_rfl) (by kernel_rfl) (by kernel_rfl) (fun _ _ _ h => h) el_true (fun w _ => el_quiet rfl w) trivial (y_no (wu rfl rfl rfl rfl)) (by simp only [f0, f1, f2]; rfl) ?_
      refine e_take 15 [16, 17, 18, 19] [0, 1, 2, 3, 4, 5, 6, 7, 8, 9, 10, 11, 12, 13, 14] (undef) (fun _ => True) rfl (by kernel_rfl) (by kernel_rfl) (by kernel_rfl) (by kernel_rfl) (by kernel_rfl) (by kernel_rfl) (fun _ _ _ h => h) el_true (fun w _ => el_quiet rfl w) trivial (y_no (wu rfl rfl rfl rfl)) (by simp only [f0, f1, f2]; rfl) ?_
      refine e_take 16 [17, 18, 19] [0, 1, 2, 3, 4, 5, 6, 7, 8, 9, 10, 11, 12, 13, 14, 15] (undef) (fun _ => True) rfl (by kernel_rfl) (by kernel_rfl) (by kernel_rfl) (by kernel_rfl) (by kernel_rfl) (by kernel_rfl) (fun _ _ _ h => h) el_true (fun w _ => el_loud rfl (Same.refl _ w)) trivial (y_no (wu rfl rfl rfl rfl)) (by simp only [f0, f1, f2]; rfl) ?_
      refine e_take 17 [18, 19] [0, 1, 2, 3, 4, 5, 6, 7, 8, 9, 10, 11, 12, 13, 14, 15, 16] (undef) (fun _ => True) rfl (by kernel_rfl) (by kernel_rfl) (by kernel_rfl) (by kernel_rfl) (by kernel_rfl) (by kernel_rfl) (fun _ _ _ h => h) el_true (fun w _ => el_quiet rfl w) trivial (y_no (wt rfl rfl rfl (congrArg Value.bool hg) rfl)) (by simp only [f0, f1, f2]; rfl) ?_
      refine e_take 18 [19] [0, 1, 2, 3, 4, 5, 6, 7, 8, 9, 10, 11, 12, 13, 14, 15, 16, 17] (.bool false) (fun _ => True) rfl (by kernel_rfl) (by kernel_rfl) (by kernel_rfl) (by kernel_rfl) (by kernel_rfl) (by kernel_rfl) (fun _ _ _ h => h) el_true (fun w _ => el_quiet rfl w) trivial (y_val (wn rfl) (fun w' hw' => (r_pickF (congrArg Value.bool hg) rfl))) (by simp only [f0, f1, f2]; rfl) ?_
      refine e_take 19 [] [0, 1, 2, 3, 4, 5, 6, 7, 8, 9, 10, 11, 12, 13, 14, 15, 16, 17, 18] (.bool false) (fun _ => True) rfl (by kernel_rfl) (by kernel_rfl) (by kernel_rfl) (by kernel_rfl) (by kernel_rfl) (by kernel_rfl) (fun _ _ _ h => h) el_true (fun w _ => el_quiet rfl w) trivial (y_val (wn rfl) (fun w' hw' => rfl)) (by simp only [f0, f1, f2]; rfl) ?_
      refine e_done (by kernel_rfl) ?_
      exact then_normal ⟨_, (some_us rfl rfl rfl), hb2, h⟩

/-- what is to be shown of a call of pavanelaw24.row -/
def pavanelaw24_row_vc (index : Int) (terms : Sl) (R : Value → World → Prop) (w : World) : Prop :=
  ∃ (I_ : Nat → Sl → Int → World → Prop) (nv1 : Nat), I_ nv1 Sl.nil 0 w ∧
  ∀ (nv : Nat) (out : Sl) (i : Int) (w_ : World), I_ nv out i w_ →
  (((decide (i < (↑(Sl.n terms) : Int))) = true →
  ∃ ad : Addr, SlAt terms i 1 ad ∧
  ∃ x1 : Int, Cells w_ ad [.int .i64 x1] ∧
  ∃ ad1 : Addr, SlAt terms i 1 ad1 ∧
  ∃ x2 : Int, Cells w_ ad1 [.int .i64 x2] ∧
  ∀ (w_1 : World), Only [] w_ w_1 →
  ∃ x3 : Sl, ∃ w_2 : World, (Instr.buildSlice 32 1 #[(0, .int .u8 (IntKind.u8.wrap x2))]).run Try.prog w_1 = .ok (Sl.v x3) w_2 ∧ Same [(ad).block] w_1 w_2 ∧
  ∃ x4 : Sl, ∃ w_3 : World, (Instr.buildSlice 22 1 #[(0, .agg #[.int .i64 (IntKind.i64.wrap (index + i)), .int .i64 x1, .int .i64 0, Sl.v x3])]).run Try.prog w_2 = .ok (Sl.v x4) w_3 ∧
  ∃ x5 : Sl, ∃ w_4 : World, (Builtin.append_ #[22, 22] 22 #[Sl.v out, Sl.v x4]).run Try.prog w_3 = .ok (Sl.v x5) w_4 ∧
  ∃ nv2 : Nat, nv2 < nv ∧ I_ nv2 x5 (IntKind.i64.wrap (i + 1)) w_4) ∧
  ((decide (i < (↑(Sl.n terms) : Int))) = false →
  R (Sl.v out) w_))
theorem pavanelaw24_row_wp (index : Int) (terms : Sl) (R : Value → World → Prop) (w : World) (h : pavanelaw24_row_vc index terms R w) :
    Calls Try.prog 13 #[.int .i64 index, Sl.v terms] w fun e w' => ∃ v, e = .returned v ∧ R v w' := by
  unfold pavanelaw24_row_vc at h
  refine calls_of (k := 29) Try.func13 rfl Try.ntmps13 rfl rfl ?_
  simp only [List.replicate, List.cons_append, List.nil_append]
  refine wp_seq ?_
  refine wp_region_lit ?_
  refine st_val (Sl.v Sl.nil) (wn rfl) rfl (by simp only [f0, f1, f2]; rfl) ?_
  refine wpList_nil ?_
  refine then_normal ?_
  refine wp_seq ?_
  refine wp_region_lit ?_
  refine st_val (Sl.v Sl.nil) (wn rfl) rfl (by simp only [f0, f1, f2]; rfl) ?_
  refine wpList_nil ?_
  refine then_normal ?_
  refine wp_seq ?_
  refine wp_seq ?_
  refine wp_region_lit ?_
  refine st_val (.int .i64 0) (wn rfl) rfl (by simp only [f0, f1, f2]; rfl) ?_
  refine wpList_nil ?_
  refine then_normal ?_
  refine wp_block ?_
  obtain ⟨I_, nv1, h0, hI⟩ := h
  refine wp_loop_ghost (fun nv' a' w' => ∃ out : Sl, ∃ i : Int, (∃ us : Nat → Value, a' = (⟨(fillin us 0 (some (.int .i64 index) :: some (Sl.v terms) :: some undef :: some undef :: some (Sl.v Sl.nil) :: some (Sl.v out) :: some (.int .i64 i) :: none :: none :: none :: none :: none :: none :: none :: none :: none :: none :: none :: none :: none :: none :: none :: none :: none :: none :: none :: none :: none :: none :: none :: some undef :: [])).toArray, []⟩ : Act)) ∧ I_ nv' out i w') nv1 ?_ ?_
  · exact ⟨_, _, (some_us rfl rfl rfl), h0⟩
  · clear h0
    rintro nv a0 w_ ⟨out, i, ⟨us, hF⟩, h⟩
    simp only [fillin, Nat.reduceAdd] at hF
    subst hF
    replace h := hI _ _ _ _ h
    refine wp_seq ?_
    refine wp_seq ?_
    refine wp_region_lit ?_
    refine st_val (.int .i64 i) (wn rfl) rfl (by simp only [f0, f1, f2]; rfl) ?_
    refine st_val (Sl.v terms) (wn rfl) rfl (by simp only [f0, f1, f2]; rfl) ?_
    refine st_val (.int .i64 (↑(Sl.n terms) : Int)) (wn rfl) (r_len (s := terms) (Try.runUnderlying36 _) rfl) (by simp only [f0, f1, f2]; rfl) ?_
    refine st_val (.bool (decide (i < (↑(Sl.n terms) : Int)))) (wn rfl) rfl (by simp only [f0, f1, f2]; rfl) ?_
    refine wpList_nil ?_
    refine then_normal ?_
    refine wp_cond_split (t := (decide (i < (↑(Sl.n terms) : Int)))) rfl (fun hc => ?_) (fun hc => ?_)
    · replace h := h.1 hc
      refine wp_skip ?_
      refine then_normal ?_
      refine wp_seq ?_
      refine wp_block ?_
      obtain ⟨ad, hx, h⟩ := h
      obtain ⟨x1, hx1, h⟩ := h
      obtain ⟨ad1, hx2, h⟩ := h
      obtain ⟨x2, hx3, h⟩ := h
      refine e_region (EL [(13, [(ad).block]), (15, []), (16, [])]) Try.checked.mixed ?_
      have hO := Only.drew w_
      have hx4 : Cells w_.drew _ _ := hx1
      have hx5 : Cells w_.drew _ _ := hx3
      generalize w_.drew = w_1 at *
      have hA : Only [] w_ w_1 := hO
      refine e_take 0 [16, 17] [] (Sl.v out) (fun _ => True) rfl (by kernel_rfl) (by kernel_rfl) (by kernel_rfl) (by kernel_rfl) (by kernel_rfl) (by kernel_rfl) (fun _ _ _ h => h) el_true (fun w _ => el_quiet rfl w) trivial (y_val (wn rfl) (fun w' hw' => rfl)) (by simp only [f0, f1, f2]; rfl) ?_
      refine e_take 1 [3, 14, 15, 16, 17] [0] (.int .i64 index) (fun _ => True) rfl (by kernel_rfl) (by kernel_rfl) (by kernel_rfl) (by kernel_rfl) (by kernel_rfl) (by kernel_rfl) (fun _ _ _ h => h) el_true (fun w _ => el_quiet rfl w) trivial (y_val (wn rfl) (fun w' hw' => rfl)) (by simp only [f0, f1, f2]; rfl) ?_
      refine e_take 2 [3, 14, 15, 16, 17] [0, 1] (.int .i64 i) (fun _ => True) rfl (by kernel_rfl) (by kernel_rfl) (by kernel_rfl) (by kernel_rfl) (by kernel_rfl) (by kernel_rfl) (fun _ _ _ h => h) el_true (fun w _ => el_quiet rfl w) trivial (y_val (wn rfl) (fun w' hw' => rfl)) (by simp only [f0, f1, f2]; rfl) ?_
      refine e_take 3 [14, 15, 16, 17] [0, 1, 2] (.int .i64 (IntKind.i64.wrap (index + i))) (fun _ => True) rfl (by kernel_rfl) (by kernel_rfl) (by kernel_rfl) (by kernel_rfl) (by kernel_rfl) (by kernel_rfl) (fun _ _ _ h => h) el_true (fun w _ => el_quiet rfl w) trivial (y_val (wn rfl) (fun w' hw' => rfl)) (by simp only [f0, f1, f2]; rfl) ?_
      refine e_take 4 [6, 7, 14, 15, 16, 17] [0, 1, 2, 3] (Sl.v terms) (fun _ => True) rfl (by kernel_rfl) (by kernel_rfl) (by kernel_rfl) (by kernel_rfl) (by kernel_rfl) (by kernel_rfl) (fun _ _ _ h => h) el_true (fun w _ => el_quiet rfl w) trivial (y_val (wn rfl) (fun w' hw' => rfl)) (by simp only [f0, f1, f2]; rfl) ?_
      refine e_take 5 [6, 7, 14, 15, 16, 17] [0, 1, 2, 3, 4] (.int .i64 i) (fun _ => True) rfl (by kernel_rfl) (by kernel_rfl) (by kernel_rfl) (by kernel_rfl) (by kernel_rfl) (by kernel_rfl) (fun _ _ _ h => h) el_true (fun w _ => el_quiet rfl w) trivial (y_val (wn rfl) (fun w' hw' => rfl)) (by simp only [f0, f1, f2]; rfl) ?_
      refine e_take 6 [7, 14, 15, 16, 17] [0, 1, 2, 3, 4, 5] (.pointer (some ad)) (fun _ => True) rfl (by kernel_rfl) (by kernel_rfl) (by kernel_rfl) (by kernel_rfl) (by kernel_rfl) (by kernel_rfl) (fun _ _ _ h => h) el_true (fun w _ => el_quiet rfl w) trivial (y_val (wn rfl) (fun w' hw' => (r_indexS (s := terms) (Try.runUnderlying36 _) (Try.sizeOf3 _) rfl rfl hx))) (by simp only [f0, f1, f2]; rfl) ?_
      refine e_take 7 [14, 15, 16, 17] [0, 1, 2, 3, 4, 5, 6] (.int .i64 x1) (fun w' => Cells w' ad [.int .i64 x1]) rfl (by kernel_rfl) (by kernel_rfl) (by kernel_rfl) (by kernel_rfl) (by kernel_rfl) (by kernel_rfl) (fun _ _ _ h => h) (el_stable (b := (ad).block) (List.forall_mem_cons.2 ⟨.inr (.inr (.head _)), List.forall_mem_cons.2 ⟨.inl (by simp), List.forall_mem_cons.2 ⟨.inl (by simp), List.forall_mem_nil _⟩⟩⟩) keep_cells) (fun w _ => el_quiet rfl w) hx4 (y_val (wn rfl) (fun w' hw' => (r_load1 (Try.isAgg3 _) rfl (Cells.one hw')))) (by simp only [f0, f1, f2]; rfl) ?_
      refine e_take 8 [10, 11, 12, 13, 14, 15, 16, 17] [0, 1, 2, 3, 4, 5, 6, 7] (Sl.v terms) (fun _ => True) rfl (by kernel_rfl) (by kernel_rfl) (by kernel_rfl) (by kernel_rfl) (by kernel_rfl) (by kernel_rfl) (fun _ _ _ h => h) el_true (fun w _ => el_quiet rfl w) trivial (y_val (wn rfl) (fun w' hw' => rfl)) (by simp only [f0, f1, f2]; rfl) ?_
      refine e_take 9 [10, 11, 12, 13, 14, 15, 16, 17] [0, 1, 2, 3, 4, 5, 6, 7, 8] (.int .i64 i) (fun _ => True) rfl (by kernel_rfl) (by kernel_rfl) (by kernel_rfl) (by kernel_rfl) (by kernel_rfl) (by kernel_rfl) (fun _ _ _ h => h) el_true (fun w _ => el_quiet rfl w) trivial (y_val (wn rfl) (fun w' hw' => rfl)) (by simp only [f0, f1, f2]; rfl) ?_
      refine e_take 10 [11, 12, 13, 14, 15, 16, 17] [0, 1, 2, 3, 4, 5, 6, 7, 8, 9] (.pointer (some ad1)) (fun _ => True) rfl (by kernel_rfl) (by kernel_rfl) (by kernel_rfl) (by kernel_rfl) (by kernel_rfl) (by kernel_rfl) (fun _ _ _ h => h) el_true (fun w _ => el_quiet rfl w) trivial (y_val (wn rfl) (fun w' hw' => (r_indexS (s := terms) (Try.runUnderlying36 _) (Try.sizeOf3 _) rfl rfl hx2))) (by simp only [f0, f1, f2]; rfl) ?_
      refine e_take 11 [12, 13, 14, 15, 16, 17] [0, 1, 2, 3, 4, 5, 6, 7, 8, 9, 10] (.int .i64 x2) (fun w' => Cells w' ad1 [.int .i64 x2]) rfl (by kernel_rfl) (by kernel_rfl) (by kernel_rfl) (by kernel_rfl) (by kernel_rfl) (by kernel_rfl) (fun _ _ _ h => h) (el_stable (b := (ad1).block) (List.forall_mem_cons.2 ⟨.inl (by simp), List.forall_mem_cons.2 ⟨.inl (by simp), List.forall_mem_cons.2 ⟨.inl (by simp), List.forall_mem_nil _⟩⟩⟩) keep_cells) (fun w _ => el_quiet rfl w) hx5 (y_val (wn rfl) (fun w' hw' => (r_load1 (Try.isAgg3 _) rfl (Cells.one hw')))) (by simp only [f0, f1, f2]; rfl) ?_
      refine e_take 12 [13, 14, 15, 16, 17] [0, 1, 2, 3, 4, 5, 6, 7, 8, 9, 10, 11] (.int .u8 (IntKind.u8.wrap x2)) (fun _ => True) rfl (by kernel_rfl) (by kernel_rfl) (by kernel_rfl) (by kernel_rfl) (by kernel_rfl) (by kernel_rfl) (fun _ _ _ h => h) el_true (fun w _ => el_quiet rfl w) trivial (y_val (wn rfl) (fun w' hw' => (r_convInt (Try.runUnderlying3 _) (Try.runUnderlying5 _) rfl))) (by simp only [f0, f1, f2]; rfl) ?_
      replace h := h w_1 hA
      obtain ⟨x3, w_2, hr, hs, h⟩ := h
      refine e_one 13 rfl (by kernel_rfl) (wn rfl) ?_
      refine o_val (Sl.v x3) (r_buildSlice rfl hr) (by simp only [f0, f1, f2]; rfl) ?_
      have hx6 := keep_cells _ _ (hs _ (.head _)) hx4
      refine ⟨el_loud rfl hs, ?_⟩
      refine e_take 14 [15, 16, 17] [0, 1, 2, 3, 4, 5, 6, 7, 8, 9, 10, 11, 12, 13] (.agg #[.int .i64 (IntKind.i64.wrap (index + i)), .int .i64 x1, .int .i64 0, Sl.v x3]) (fun _ => True) rfl (by kernel_rfl) (by kernel_rfl) (by kernel_rfl) (by kernel_rfl) (by kernel_rfl) (by kernel_rfl) (fun _ _ _ h => h) el_true (fun w _ => el_quiet rfl w) trivial (y_val (wn rfl) (fun w' hw' => (r_build (ps' := [(0, .int .i64 (IntKind.i64.wrap (index + i))), (1, .int .i64 x1), (3, Sl.v x3)]) rfl (by kernel_rfl)))) (by simp only [f0, f1, f2]; rfl) ?_
      obtain ⟨x4, w_3, hr1, h⟩ := h
      refine e_one 15 rfl (by kernel_rfl) (wn rfl) ?_
      refine o_val (Sl.v x4) (r_buildSlice rfl hr1) (by simp only [f0, f1, f2]; rfl) ?_
      refine ⟨el_loud rfl same_nil, ?_⟩
      obtain ⟨x5, w_4, hr2, h⟩ := h
      refine e_one 16 rfl (by kernel_rfl) (wn rfl) ?_
      refine o_val (Sl.v x5) (r_builtin_append rfl hr2) (by simp only [f0, f1, f2]; rfl) ?_
      refine ⟨el_loud rfl same_nil, ?_⟩
      refine e_take 17 [] [0, 1, 2, 3, 4, 5, 6, 7, 8, 9, 10, 11, 12, 13, 14, 15, 16] (Sl.v x5) (fun _ => True) rfl (by kernel_rfl) (by kernel_rfl) (by kernel_rfl) (by kernel_rfl) (by kernel_rfl) (by kernel_rfl) (fun _ _ _ h => h) el_true (fun w _ => el_quiet rfl w) trivial (y_val (wn rfl) (fun w' hw' => rfl)) (by simp only [f0, f1, f2]; rfl) ?_
      refine e_done (by kernel_rfl) ?_
      refine block_normal ?_
      refine then_normal ?_
      refine wp_region_lit ?_
      refine st_val (.int .i64 i) (wn rfl) rfl (by simp only [f0, f1, f2]; rfl) ?_
      refine st_val (.int .i64 (IntKind.i64.wrap (i + 1))) (wn rfl) rfl (by simp only [f0, f1, f2]; rfl) ?_
      refine st_val (.int .i64 (IntKind.i64.wrap (i + 1))) (wn rfl) rfl (by simp only [f0, f1, f2]; rfl) ?_
      refine wpList_nil ?_
      refine then_normal ?_
      obtain ⟨nv2, hl, h⟩ := h
      exact ⟨nv2, hl, _, _, (some_us rfl rfl rfl), h⟩
    · replace h := h.2 hc
      refine wp_exit ?_
      refine then_exit ?_
      refine then_exit ?_
      refine block_hit ?_
      refine then_normal ?_
      refine wp_seq ?_
      refine wp_region_lit ?_
      refine st_val (Sl.v out) (wn rfl) rfl (by simp only [f0, f1, f2]; rfl) ?_
      refine st_val (Sl.v out) (wn rfl) rfl (by simp only [f0, f1, f2]; rfl) ?_
      refine wpList_nil ?_
      refine then_normal ?_
      refine wp_ret ?_
      exact end_ret (r_res1 (v := Sl.v out) Try.results13 ⟨rfl, trivial⟩) rfl h

/-- what is to be shown of a call of (*ledger.Ledger).Slice -/
def ledger_Ledger_Slice_vc (l : Addr) (from_ : Int) (most : Int) (R : Value → World → Prop) (w : World) : Prop :=
  ∃ J_ : Int → World → Prop, (∀ (k : Int) (w_ : World), J_ k w_ →
  ∃ x1 : Sl, Cells w_ (Addr.add l 2) [Sl.v x1] ∧
  ∃ lo : Nat, (k = ↑lo ∧ lo ≤ (Sl.n x1) ∧ (Sl.n x1) ≤ (Sl.c x1) ∧ (Sl.c x1) ≤ Sl.c x1) ∧
  ∃ hi : Nat, ((if (↑(Sl.n (Sl.cut x1 lo (Sl.n x1) (Sl.c x1) 4)) : Int) < (if 0 > most then 0 else most) then (↑(Sl.n (Sl.cut x1 lo (Sl.n x1) (Sl.c x1) 4)) : Int) else (if 0 > most then 0 else most)) = ↑hi ∧ 0 ≤ hi ∧ hi ≤ (Sl.c (Sl.cut x1 lo (Sl.n x1) (Sl.c x1) 4)) ∧ (Sl.c (Sl.cut x1 lo (Sl.n x1) (Sl.c x1) 4)) ≤ Sl.c (Sl.cut x1 lo (Sl.n x1) (Sl.c x1) 4)) ∧
  Calls Try.prog 16 #[Sl.v (Sl.cut (Sl.cut x1 lo (Sl.n x1) (Sl.c x1) 4) 0 hi (Sl.c (Sl.cut x1 lo (Sl.n x1) (Sl.c x1) 4)) 4)] w_ (fun e w_1 => ∃ x2 : Sl, e = .returned (Sl.v x2) ∧
  R (Sl.v x2) w_1)) ∧
  (∃ x3 : Int, Cells w (Addr.add (Addr.add l 0) 0) [.int .i64 x3] ∧
  (((decide (from_ > x3)) = true →
  ∃ x4 : Int, Cells w (Addr.add (Addr.add l 0) 0) [.int .i64 x4] ∧
  ∃ x5 : Sl, Cells w (Addr.add l 2) [Sl.v x5] ∧
  ∀ (w_2 : World), Only [] w w_2 →
  J_ (if (↑(Sl.n x5) : Int) < IntKind.i64.wrap ((IntKind.i64.wrap (from_ - x4)) - 1) then (↑(Sl.n x5) : Int) else IntKind.i64.wrap ((IntKind.i64.wrap (from_ - x4)) - 1)) w_2) ∧
  ((decide (from_ > x3)) = false →
  J_ 0 w)))
theorem ledger_Ledger_Slice_wp (l : Addr) (from_ : Int) (most : Int) (R : Value → World → Prop) (w : World) (h : ledger_Ledger_Slice_vc l from_ most R w) :
    Calls Try.prog 9 #[.pointer (some l), .int .i64 from_, .int .i64 most] w fun e w' => ∃ v, e = .returned v ∧ R v w' := by
  unfold ledger_Ledger_Slice_vc at h
  refine calls_of (k := 41) Try.func9 rfl Try.ntmps9 rfl rfl ?_
  simp only [List.replicate, List.cons_append, List.nil_append]
  refine wp_seq ?_
  refine wp_region_lit ?_
  refine st_val (Sl.v Sl.nil) (wn rfl) rfl (by simp only [f0, f1, f2]; rfl) ?_
  refine wpList_nil ?_
  refine then_normal ?_
  refine wp_seq ?_
  refine wp_region_lit ?_
  refine st_val (.int .i64 0) (wn rfl) rfl (by simp only [f0, f1, f2]; rfl) ?_
  refine wpList_nil ?_
  refine then_normal ?_
  obtain ⟨J_, hJ, h⟩ := h
  refine wp_seq_join (fun a' w' => ∃ k : Int, (∃ us : Nat → Value, a' = (⟨(fillin us 0 (some (.pointer (some l)) :: some (.int .i64 from_) :: some (.int .i64 most) :: some undef :: some undef :: some undef :: some (Sl.v Sl.nil) :: some (.int .i64 k) :: some undef :: none :: none :: none :: none :: none :: none :: none :: none :: none :: none :: none :: none :: none :: none :: none :: none :: none :: none :: none :: none :: none :: some undef :: some undef :: some undef :: some undef :: some undef :: some undef :: some undef :: some undef :: some undef :: some undef :: some undef :: some undef :: some undef :: some undef :: [])).toArray, []⟩ : Act)) ∧ J_ k w') ?_ ?_
  · clear h
    rintro a0 w_ ⟨k, ⟨us, hF⟩, h⟩
    simp only [fillin, Nat.reduceAdd] at hF
    subst hF
    replace h := hJ _ _ h
    refine wp_seq ?_
    refine wp_region_lit ?_
    refine st_val (.pointer (some l)) (wn rfl) rfl (by simp only [f0, f1, f2]; rfl) ?_
    refine st_val (.pointer (some l)) (wn rfl) rfl (by simp only [f0, f1, f2]; rfl) ?_
    refine st_val (.pointer (some (Addr.add l 2))) (wn rfl) (r_field (Try.runUnderlying54 _) rfl (Try.sizeOf22 _) rfl rfl) (by simp only [f0, f1, f2]; rfl) ?_
    obtain ⟨x1, hx, h⟩ := h
    refine st_val (Sl.v x1) (wn rfl) (r_load1 (Try.isAgg22 _) rfl (Cells.one hx)) (by simp only [f0, f1, f2]; rfl) ?_
    refine st_val (.int .i64 k) (wn rfl) rfl (by simp only [f0, f1, f2]; rfl) ?_
    obtain ⟨lo, hx1, h⟩ := h
    refine st_val (Sl.v (Sl.cut x1 lo (Sl.n x1) (Sl.c x1) 4)) (wn rfl) (r_slice100 (s := x1) (Try.runUnderlying22 _) (Try.sizeOf34 _) rfl (congrArg (Value.int _) (hx1.1)) (by first | exact hx1.2.1 | omega) (by first | exact hx1.2.2.1 | omega) (by first | exact hx1.2.2.2 | omega)) (by simp only [f0, f1, f2]; rfl) ?_
    refine st_val (Sl.v (Sl.cut x1 lo (Sl.n x1) (Sl.c x1) 4)) (wn rfl) rfl (by simp only [f0, f1, f2]; rfl) ?_
    refine wpList_nil ?_
    refine then_normal ?_
    refine wp_seq ?_
    refine wp_region_lit ?_
    refine st_val (Sl.v (Sl.cut x1 lo (Sl.n x1) (Sl.c x1) 4)) (wn rfl) rfl (by simp only [f0, f1, f2]; rfl) ?_
    refine st_val (.int .i64 most) (wn rfl) rfl (by simp only [f0, f1, f2]; rfl) ?_
    refine st_val (.int .i64 (if 0 > most then 0 else most)) (wn rfl) (r_max rfl rfl) (by simp only [f0, f1, f2]; rfl) ?_
    refine st_val (Sl.v (Sl.cut x1 lo (Sl.n x1) (Sl.c x1) 4)) (wn rfl) rfl (by simp only [f0, f1, f2]; rfl) ?_
    refine st_val (.int .i64 (↑(Sl.n (Sl.cut x1 lo (Sl.n x1) (Sl.c x1) 4)) : Int)) (wn rfl) (r_len (s := Sl.cut x1 lo (Sl.n x1) (Sl.c x1) 4) (Try.runUnderlying22 _) rfl) (by simp only [f0, f1, f2]; rfl) ?_
    refine st_val (.int .i64 (if (↑(Sl.n (Sl.cut x1 lo (Sl.n x1) (Sl.c x1) 4)) : Int) < (if 0 > most then 0 else most) then (↑(Sl.n (Sl.cut x1 lo (Sl.n x1) (Sl.c x1) 4)) : Int) else (if 0 > most then 0 else most))) (wn rfl) (r_min rfl rfl) (by simp only [f0, f1, f2]; rfl) ?_
    obtain ⟨hi, hx2, h⟩ := h
    refine st_val (Sl.v (Sl.cut (Sl.cut x1 lo (Sl.n x1) (Sl.c x1) 4) 0 hi (Sl.c (Sl.cut x1 lo (Sl.n x1) (Sl.c x1) 4)) 4)) (wn rfl) (r_slice010 (s := Sl.cut x1 lo (Sl.n x1) (Sl.c x1) 4) (Try.runUnderlying22 _) (Try.sizeOf34 _) rfl (congrArg (Value.int _) (hx2.1)) (by first | exact hx2.2.1 | omega) (by first | exact hx2.2.2.1 | omega) (by first | exact hx2.2.2.2 | omega)) (by simp only [f0, f1, f2]; rfl) ?_
    refine st_one (wn rfl) ?_
    refine o_enter (args := #[Sl.v (Sl.cut (Sl.cut x1 lo (Sl.n x1) (Sl.c x1) 4) 0 hi (Sl.c (Sl.cut x1 lo (Sl.n x1) (Sl.c x1) 4)) 4)]) (r_enter Try.call16 rfl) (h.mono ?_)
    clear h
    rintro _ w_1 ⟨x2, rfl, h⟩
    refine ⟨_, _, rfl, (by simp only [f0, f1, f2]; rfl), ?_⟩
    refine st_val (Sl.v x2) (wn rfl) rfl (by simp only [f0, f1, f2]; rfl) ?_
    refine wpList_nil ?_
    refine then_normal ?_
    refine wp_ret ?_
    exact end_ret (r_res1 (v := Sl.v x2) Try.results9 ⟨rfl, trivial⟩) rfl h
  · clear hJ
    refine wp_seq ?_
    refine wp_region_lit ?_
    refine st_val (.int .i64 from_) (wn rfl) rfl (by simp only [f0, f1, f2]; rfl) ?_
    refine st_val (.pointer (some l)) (wn rfl) rfl (by simp only [f0, f1, f2]; rfl) ?_
    refine st_val (.pointer (some l)) (wn rfl) rfl (by simp only [f0, f1, f2]; rfl) ?_
    refine st_val (.pointer (some (Addr.add l 0))) (wn rfl) (r_field (Try.runUnderlying54 _) rfl (Try.sizeOf50 _) rfl rfl) (by simp only [f0, f1, f2]; rfl) ?_
    refine st_val (.pointer (some (Addr.add (Addr.add l 0) 0))) (wn rfl) (r_field (Try.runUnderlying50 _) rfl (Try.sizeOf3 _) rfl rfl) (by simp only [f0, f1, f2]; rfl) ?_
    obtain ⟨x3, hx3, h⟩ := h
    refine st_val (.int .i64 x3) (wn rfl) (r_load1 (Try.isAgg3 _) rfl (Cells.one hx3)) (by simp only [f0, f1, f2]; rfl) ?_
    refine st_val (.bool (decide (from_ > x3))) (wn rfl) rfl (by simp only [f0, f1, f2]; rfl) ?_
    refine wpList_nil ?_
    refine then_normal ?_
    refine wp_cond_split (t := (decide (from_ > x3))) rfl (fun hc => ?_) (fun hc => ?_)
    · replace h := h.1 hc
      obtain ⟨x4, hx4, h⟩ := h
      obtain ⟨x5, hx5, h⟩ := h
      refine wp_region_quiet_lit Try.checked.mixed (by kernel_rfl) ?_
      refine q_val (.int .i64 from_) (wn rfl) (by rintro _ ⟨nd, rfl⟩; exact rfl) (by simp only [f0, f1, f2]; rfl) ?_
      refine q_val (.pointer (some l)) (wn rfl) (by rintro _ ⟨nd, rfl⟩; exact rfl) (by simp only [f0, f1, f2]; rfl) ?_
      refine q_val (.pointer (some l)) (wn rfl) (by rintro _ ⟨nd, rfl⟩; exact rfl) (by simp only [f0, f1, f2]; rfl) ?_
      refine q_val (.pointer (some (Addr.add l 0))) (wn rfl) (by rintro _ ⟨nd, rfl⟩; exact (r_field (Try.runUnderlying54 _) rfl (Try.sizeOf50 _) rfl rfl)) (by simp only [f0, f1, f2]; rfl) ?_
      refine q_val (.pointer (some (Addr.add (Addr.add l 0) 0))) (wn rfl) (by rintro _ ⟨nd, rfl⟩; exact (r_field (Try.runUnderlying50 _) rfl (Try.sizeOf3 _) rfl rfl)) (by simp only [f0, f1, f2]; rfl) ?_
      refine q_val (.int .i64 x4) (wn rfl) (by rintro _ ⟨nd, rfl⟩; exact (r_load1 (Try.isAgg3 _) rfl (Cells.one (q_cells hx4)))) (by simp only [f0, f1, f2]; rfl) ?_
      refine q_val (.int .i64 (IntKind.i64.wrap (from_ - x4))) (wn rfl) (by rintro _ ⟨nd, rfl⟩; exact rfl) (by simp only [f0, f1, f2]; rfl) ?_
      refine q_val (.int .i64 (IntKind.i64.wrap ((IntKind.i64.wrap (from_ - x4)) - 1))) (wn rfl) (by rintro _ ⟨nd, rfl⟩; exact rfl) (by simp only [f0, f1, f2]; rfl) ?_
      refine q_val (.pointer (some l)) (wn rfl) (by rintro _ ⟨nd, rfl⟩; exact rfl) (by simp only [f0, f1, f2]; rfl) ?_
      refine q_val (.pointer (some l)) (wn rfl) (by rintro _ ⟨nd, rfl⟩; exact rfl) (by simp only [f0, f1, f2]; rfl) ?_
      refine q_val (.pointer (some (Addr.add l 2))) (wn rfl) (by rintro _ ⟨nd, rfl⟩; exact (r_field (Try.runUnderlying54 _) rfl (Try.sizeOf22 _) rfl rfl)) (by simp only [f0, f1, f2]; rfl) ?_
      refine q_val (Sl.v x5) (wn rfl) (by rintro _ ⟨nd, rfl⟩; exact (r_load1 (Try.isAgg22 _) rfl (Cells.one (q_cells hx5)))) (by simp only [f0, f1, f2]; rfl) ?_
      refine q_val (.int .i64 (↑(Sl.n x5) : Int)) (wn rfl) (by rintro _ ⟨nd, rfl⟩; exact (r_len (s := x5) (Try.runUnderlying22 _) rfl)) (by simp only [f0, f1, f2]; rfl) ?_
      refine q_val (.int .i64 (if (↑(Sl.n x5) : Int) < IntKind.i64.wrap ((IntKind.i64.wrap (from_ - x4)) - 1) then (↑(Sl.n x5) : Int) else IntKind.i64.wrap ((IntKind.i64.wrap (from_ - x4)) - 1))) (wn rfl) (by rintro _ ⟨nd, rfl⟩; exact (r_min rfl rfl)) (by simp only [f0, f1, f2]; rfl) ?_
      refine q_val (.int .i64 (if (↑(Sl.n x5) : Int) < IntKind.i64.wrap ((IntKind.i64.wrap (from_ - x4)) - 1) then (↑(Sl.n x5) : Int) else IntKind.i64.wrap ((IntKind.i64.wrap (from_ - x4)) - 1))) (wn rfl) (by rintro _ ⟨nd, rfl⟩; exact rfl) (by simp only [f0, f1, f2]; rfl) ?_
      refine wpQuiet_nil ?_
      rintro _ ⟨nd, rfl⟩
      have hO := Only.drewN w nd
      generalize w.drewN nd = w_2 at *
      have hA : Only [] w w_2 := hO
      refine then_normal ?_
      replace h := h w_2 hA
      exact ⟨_, (some_us rfl rfl rfl), h⟩
    · replace h := h.2 hc
      refine wp_skip ?_
      refine then_normal ?_
      exact ⟨_, (some_us rfl rfl rfl), h⟩

/-- what is to be shown of a call of ledger.New -/
def ledger_New_vc (base : Int) (term_ : Int) (l : Sl) (R : Value → World → Prop) (w : World) : Prop :=
  ∀ (b : Nat) (w_1 : World), w.heap.size ≤ b → b < w_1.heap.size → Only [] w w_1 →
  Calls Try.prog 15 #[.agg #[.int .i64 base, .int .i64 term_], Sl.v l] w_1 (fun e w_2 => ∃ x1 : Bool, e = .returned (.bool x1) ∧ Same [b] w_1 w_2 ∧
  (((!x1) = true →
  R (.tuple #[.pointer none, .int .i64 1]) w_2) ∧
  ((!x1) = false →
  ∀ (w_3 : World), Only [] w_2 w_3 →
  Calls Try.prog 16 #[Sl.v l] w_3 (fun e w_4 => ∃ x2 : Sl, e = .returned (Sl.v x2) ∧ Same [b] w_3 w_4 ∧
  ∀ (b1 : Nat) (w_5 : World), w_4.heap.size ≤ b1 → b1 < w_5.heap.size → Only [] w_4 w_5 → Blk w_5 b1 54 [.int .i64 base, .int .i64 term_, Sl.v x2] →
  R (.tuple #[.pointer (some ⟨b1, 0, none⟩), .int .i64 0]) w_5))))
theorem ledger_New_wp (base : Int) (term_ : Int) (l : Sl) (R : Value → World → Prop) (w : World) (h : ledger_New_vc base term_ l R w) :
    Calls Try.prog 6 #[.int .i64 base, .int .i64 term_, Sl.v l] w fun e w' => ∃ v, e = .returned v ∧ R v w' := by
  unfold ledger_New_vc at h
  refine calls_of (k := 18) Try.func6 rfl Try.ntmps6 rfl rfl ?_
  simp only [List.replicate, List.cons_append, List.nil_append]
  refine wp_seq ?_
  refine wp_region_lit ?_
  refine st_val (.pointer none) (wn rfl) rfl (by simp only [f0, f1, f2]; rfl) ?_
  refine st_val (.int .i64 0) (wn rfl) rfl (by simp only [f0, f1, f2]; rfl) ?_
  refine wpList_nil ?_
  refine then_normal ?_
  refine wp_seq ?_
  refine wp_region_lit ?_
  refine st_val (.int .i64 base) (wn rfl) rfl (by simp only [f0, f1, f2]; rfl) ?_
  refine st_val (.int .i64 term_) (wn rfl) rfl (by simp only [f0, f1, f2]; rfl) ?_
  refine st_val (.agg #[.int .i64 base, .int .i64 term_]) (wn rfl) (r_build (ps' := [(0, .int .i64 base), (1, .int .i64 term_)]) rfl (by kernel_rfl)) (by simp only [f0, f1, f2]; rfl) ?_
  refine st_one (wn rfl) ?_
  refine o_allocB (zs := [.int .i64 0, .int .i64 0]) (Try.zeroValue50 _) rfl (fun b => by simp only [f0, f1, f2]; rfl) (fun b w_ hn hO hb => ?_)
  have hn_b : w.heap.size ≤ b := hn
  have hA : Only [] w w_ := hO
  refine st_one (wn rfl) ?_
  refine o_storeB (vs := [.int .i64 base, .int .i64 term_]) (cs' := [.int .i64 base, .int .i64 term_]) (Try.sizeOf50 _) rfl rfl rfl rfl hb (Nat.le_of_ble_eq_true rfl) rfl (f3 _ _) (fun w_1 hO1 hb1 => ?_)
  have hA1 := hA.new hO1 hn_b
  refine wpList_nil ?_
  refine then_normal ?_
  refine wp_seq ?_
  refine wp_seq ?_
  refine wp_region_lit ?_
  refine st_val (.agg #[.int .i64 base, .int .i64 term_]) (wn rfl) (r_loadN (Try.isAgg50 _) (Try.sizeOf50 _) rfl rfl (hb1.cellsAt 0 [.int .i64 base, .int .i64 term_] rfl)) (by simp only [f0, f1, f2]; rfl) ?_
  refine st_val (Sl.v l) (wn rfl) rfl (by simp only [f0, f1, f2]; rfl) ?_
  replace h := h b w_1 hn_b hb1.lt hA1
  refine st_one (wn rfl) ?_
  refine o_enter (args := #[.agg #[.int .i64 base, .int .i64 term_], Sl.v l]) (r_enter Try.call15 rfl) (h.mono ?_)
  clear h
  rintro _ w_2 ⟨x1, rfl, hs, h⟩
  refine ⟨_, _, rfl, (by simp only [f0, f1, f2]; rfl), ?_⟩
  have hb2 := hs.blk hb1 (by simp)
  refine st_val (.bool (!x1)) (wn rfl) rfl (by simp only [f0, f1, f2]; rfl) ?_
  refine wpList_nil ?_
  refine then_normal ?_
  refine wp_cond_split (t := (!x1)) rfl (fun hc => ?_) (fun hc => ?_)
  · replace h := h.1 hc
    refine wp_seq ?_
    refine wp_region_lit ?_
    refine st_val (.pointer none) (wn rfl) rfl (by simp only [f0, f1, f2]; rfl) ?_
    refine st_val (.int .i64 1) (wn rfl) rfl (by simp only [f0, f1, f2]; rfl) ?_
    refine wpList_nil ?_
    refine then_normal ?_
    refine wp_ret ?_
    refine then_ret ?_
    exact end_ret (r_resN (vs := [.pointer none, .int .i64 1]) Try.results6 rfl ⟨rfl, rfl, trivial⟩) rfl h
  · replace h := h.2 hc
    refine wp_skip ?_
    refine then_normal ?_
    refine wp_seq ?_
    refine e_region (EL [(2, [b]), (4, [b])]) Try.checked.mixed ?_
    have hO2 := Only.drew w_2
    generalize w_2.drew = w_3 at *
    have hA2 : Only [] w_2 w_3 := hO2
    have hb3 := hO2.blk hb2 (by simp)
    refine e_take 0 [3, 4, 5, 6] [] (.agg #[.int .i64 base, .int .i64 term_]) (fun w' => Blk w' b 50 [.int .i64 base, .int .i64 term_]) rfl (by kernel_rfl) (by kernel_rfl) (by kernel_rfl) (by kernel_rfl) (by kernel_rfl) (by kernel_rfl) (fun _ _ _ h => h) (el_stable (b := b) (List.forall_mem_cons.2 ⟨.inr (.inr (.head _)), List.forall_mem_cons.2 ⟨.inl (by simp), List.forall_mem_nil _⟩⟩) keep_blk) (fun w _ => el_quiet rfl w) hb3 (y_val (wn rfl) (fun w' hw' => (r_loadN (Try.isAgg50 _) (Try.sizeOf50 _) rfl rfl (hw'.cellsAt 0 [.int .i64 base, .int .i64 term_] rfl)))) (by simp only [f0, f1, f2]; rfl) ?_
    refine e_take 1 [2, 3, 4, 5, 6] [0] (Sl.v l) (fun _ => True) rfl (by kernel_rfl) (by kernel_rfl) (by kernel_rfl) (by kernel_rfl) (by kernel_rfl) (by kernel_rfl) (fun _ _ _ h => h) el_true (fun w _ => el_quiet rfl w) trivial (y_val (wn rfl) (fun w' hw' => rfl)) (by simp only [f0, f1, f2]; rfl) ?_
    replace h := h w_3 hA2
    refine e_one 2 rfl (by kernel_rfl) (wn rfl) ?_
    refine o_enter (args := #[Sl.v l]) (r_enter Try.call16 rfl) (h.mono ?_)
    clear h
    rintro _ w_4 ⟨x2, rfl, hs1, h⟩
    refine ⟨_, _, rfl, (by simp only [f0, f1, f2]; rfl), ?_⟩
    have hb4 := hs1.blk hb3 (by simp)
    refine ⟨el_loud rfl hs1, ?_⟩
    refine e_take 3 [4, 5, 6] [0, 1, 2] (.agg #[.int .i64 base, .int .i64 term_, Sl.v x2]) (fun _ => True) rfl (by kernel_rfl) (by kernel_rfl) (by kernel_rfl) (by kernel_rfl) (by kernel_rfl) (by kernel_rfl) (fun _ _ _ h => h) el_true (fun w _ => el_quiet rfl w) trivial (y_val (wn rfl) (fun w' hw' => (r_build (ps' := [(0, .agg #[.int .i64 base, .int .i64 term_]), (1, Sl.v x2)]) rfl (by kernel_rfl)))) (by simp only [f0, f1, f2]; rfl) ?_
    refine e_one 4 rfl (by kernel_rfl) (wn rfl) ?_
    refine o_boxB (zs := [.int .i64 base, .int .i64 term_, Sl.v x2]) rfl (fun b => by simp only [f0, f1, f2]; rfl) (fun b1 w_5 hn1 hO3 hb5 => ?_)
    have hne : b1 ≠ b := by have := hb4.lt; omega
    have hn_b1 : w_4.heap.size ≤ b1 := hn1
    have hA3 : Only [] w_4 w_5 := hO3
    have hb6 := hO3.blk hb4 (by simp)
    have hS : Same [b] w_4 w_5 := (same_cons (hO3.block _ hb4.lt (by simp)) same_nil)
    refine ⟨el_loud rfl hS, ?_⟩
    refine e_take 5 [6] [0, 1, 2, 3, 4] (.pointer (some ⟨b1, 0, none⟩)) (fun _ => True) rfl (by kernel_rfl) (by kernel_rfl) (by kernel_rfl) (by kernel_rfl) (by kernel_rfl) (by kernel_rfl) (fun _ _ _ h => h) el_true (fun w _ => el_quiet rfl w) trivial (y_val (wn rfl) (fun w' hw' => rfl)) (by simp only [f0, f1, f2]; rfl) ?_
    refine e_take 6 [] [0, 1, 2, 3, 4, 5] (.int .i64 0) (fun _ => True) rfl (by kernel_rfl) (by kernel_rfl) (by kernel_rfl) (by kernel_rfl) (by kernel_rfl) (by kernel_rfl) (fun _ _ _ h => h) el_true (fun w _ => el_quiet rfl w) trivial (y_val (wn rfl) (fun w' hw' => rfl)) (by simp only [f0, f1, f2]; rfl) ?_
    refine e_done (by kernel_rfl) ?_
    refine then_normal ?_
    refine wp_ret ?_
    replace h := h b1 w_5 hn_b1 hb5.lt hA3 hb5
    exact end_ret (r_resN (vs := [.pointer (some ⟨b1, 0, none⟩), .int .i64 0]) Try.results6 rfl ⟨rfl, rfl, trivial⟩) rfl h

/-- what is to be shown of a call of (*ledger.Ledger).Fit$1 -/
def ledger_Ledger_Fit_1_vc (e0 : Int) (e1 : Int) (e2 : Int) (e3 : Sl) (ccap0 : Addr) (R : Value → World → Prop) (w : World) : Prop :=
  ∀ (b : Nat) (w_ : World), w.heap.size ≤ b → b < w_.heap.size → Only [] w w_ →
  ∃ x1 : Option Addr, Cells w_ ccap0 [.pointer x1] ∧
  Calls Try.prog 18 #[.pointer x1, .int .i64 e0] w_ (fun e w_1 => ∃ x00 : Int, ∃ x01 : Int, ∃ x11 : Bool, e = .returned (.tuple #[.agg #[.int .i64 x00, .int .i64 x01], .bool x11]) ∧ Same [b] w_ w_1 ∧
  ∀ (b1 : Nat) (w_3 : World), w_1.heap.size ≤ b1 → b1 < w_3.heap.size → Only [] w_1 w_3 →
  R (.bool (x11 && (x01 != e1))) w_3)
theorem ledger_Ledger_Fit_1_wp (e0 : Int) (e1 : Int) (e2 : Int) (e3 : Sl) (ccap0 : Addr) (R : Value → World → Prop) (w : World) (h : ledger_Ledger_Fit_1_vc e0 e1 e2 e3 ccap0 R w) :
    Calls Try.prog 17 #[.agg #[.int .i64 e0, .int .i64 e1, .int .i64 e2, Sl.v e3], .pointer (some ccap0)] w fun e w' => ∃ v, e = .returned v ∧ R v w' := by
  unfold ledger_Ledger_Fit_1_vc at h
  refine calls_of (k := 19) Try.func17 rfl Try.ntmps17 rfl rfl ?_
  simp only [List.replicate, List.cons_append, List.nil_append]
  refine wp_seq ?_
  refine wp_region_lit ?_
  refine st_one (wn rfl) ?_
  refine o_boxB (zs := [.int .i64 e0, .int .i64 e1, .int .i64 e2, Sl.v e3]) rfl (fun b => by simp only [f0, f1, f2]; rfl) (fun b w_ hn hO hb => ?_)
  have hn_b : w.heap.size ≤ b := hn
  have hA : Only [] w w_ := hO
  refine st_val (.bool false) (wn rfl) rfl (by simp only [f0, f1, f2]; rfl) ?_
  refine wpList_nil ?_
  refine then_normal ?_
  refine wp_seq ?_
  refine wp_region_lit ?_
  replace h := h b w_ hn_b hb.lt hA
  obtain ⟨x1, hx, h⟩ := h
  refine st_val (.pointer x1) (wn rfl) (r_load1 (Try.isAgg24 _) rfl (Cells.one hx)) (by simp only [f0, f1, f2]; rfl) ?_
  refine st_val (.pointer (some ⟨b, 0, none⟩)) (wn rfl) (r_field (Try.runUnderlying34 _) rfl (Try.sizeOf3 _) rfl rfl) (by simp only [f0, f1, f2]; rfl) ?_
  refine st_val (.int .i64 e0) (wn rfl) (r_load1 (Try.isAgg3 _) rfl (hb.cell 0)) (by simp only [f0, f1, f2]; rfl) ?_
  refine st_one (wn rfl) ?_
  refine o_enter (args := #[.pointer x1, .int .i64 e0]) (r_enter Try.call18 rfl) (h.mono ?_)
  clear h
  rintro _ w_1 ⟨x00, x01, x11, rfl, hs, h⟩
  refine ⟨_, _, rfl, (by simp only [f0, f1, f2]; rfl), ?_⟩
  have hb1 := hs.blk hb (by simp)
  refine st_val (.tuple #[.agg #[.int .i64 x00, .int .i64 x01], .bool x11]) (wn rfl) rfl (by simp only [f0, f1, f2]; rfl) ?_
  refine st_val (.agg #[.int .i64 x00, .int .i64 x01]) (wn rfl) rfl (by simp only [f0, f1, f2]; rfl) ?_
  refine st_val (.bool x11) (wn rfl) rfl (by simp only [f0, f1, f2]; rfl) ?_
  refine st_one (wn rfl) ?_
  refine o_allocB (zs := [.int .i64 0, .int .i64 0]) (Try.zeroValue50 _) rfl (fun b => by simp only [f0, f1, f2]; rfl) (fun b1 w_2 hn1 hO1 hb2 => ?_)
  have hne : b1 ≠ b := by have := hb1.lt; omega
  have hn_b1 : w_1.heap.size ≤ b1 := hn1
  have hA1 : Only [] w_1 w_2 := hO1
  have hb3 := hO1.blk hb1 (by simp)
  refine st_one (wn rfl) ?_
  refine o_storeB (vs := [.int .i64 x00, .int .i64 x01]) (cs' := [.int .i64 x00, .int .i64 x01]) (Try.sizeOf50 _) rfl rfl rfl rfl hb2 (Nat.le_of_ble_eq_true rfl) rfl (f3 _ _) (fun w_3 hO2 hb4 => ?_)
  have hA2 := hA1.new hO2 hn_b1
  have hb5 := hO2.blk hb3 (by simpa using (Ne.symm hne))
  refine st_val (.bool x11) (wn rfl) rfl (by simp only [f0, f1, f2]; rfl) ?_
  refine wpList_nil ?_
  refine then_normal ?_
  refine wp_seq ?_
  refine wp_region_lit ?_
  refine st_val (.bool x11) (wn rfl) rfl (by simp only [f0, f1, f2]; rfl) ?_
  refine st_val (.bool x11) (wn rfl) rfl (by simp only [f0, f1, f2]; rfl) ?_
  refine st_cut 6 (fun a' w' => (∃ us : Nat → Value, a' = (⟨(fillin us 0 (some (.agg #[.int .i64 e0, .int .i64 e1, .int .i64 e2, Sl.v e3]) :: some (.pointer (some ccap0)) :: some (.pointer (some ⟨b, 0, none⟩)) :: some (.bool false) :: some (.pointer (some ⟨b1, 0, none⟩)) :: some (.bool x11) :: some (.tuple #[.agg #[.int .i64 x00, .int .i64 x01], .bool x11]) :: some (.pointer x1) :: some (.pointer (some ⟨b, 0, none⟩)) :: some (.int .i64 e0) :: some (.tuple #[.agg #[.int .i64 x00, .int .i64 x01], .bool x11]) :: some (.agg #[.int .i64 x00, .int .i64 x01]) :: some (.bool x11) :: some (.bool x11) :: some (.bool x11) :: none :: none :: none :: none :: none :: some (.bool (x11 && (x01 != e1))) :: [])).toArray, []⟩ : Act)) ∧ w_3 = w') ?_ ?_
  · simp only [List.take_succ_cons, List.take_zero]
    rcases Bool.eq_false_or_eq_true x11 with hg | hg
    · refine st_val (.pointer (some ⟨b1, 1, none⟩)) (wt rfl rfl rfl (congrArg Value.bool hg) rfl) (r_field (Try.runUnderlying50 _) rfl (Try.sizeOf3 _) rfl rfl) (by simp only [f0, f1, f2]; rfl) ?_
      refine st_val (.int .i64 x01) (wt rfl rfl rfl (congrArg Value.bool hg) rfl) (r_load1 (Try.isAgg3 _) rfl (hb4.cell 1)) (by simp only [f0, f1, f2]; rfl) ?_
      refine st_val (.pointer (some ⟨b, 1, none⟩)) (wt rfl rfl rfl (congrArg Value.bool hg) rfl) (r_field (Try.runUnderlying34 _) rfl (Try.sizeOf3 _) rfl rfl) (by simp only [f0, f1, f2]; rfl) ?_
      refine st_val (.int .i64 e1) (wt rfl rfl rfl (congrArg Value.bool hg) rfl) (r_load1 (Try.isAgg3 _) rfl (hb5.cell 1)) (by simp only [f0, f1, f2]; rfl) ?_
      refine st_val (.bool (x01 != e1)) (wt rfl rfl rfl (congrArg Value.bool hg) rfl) rfl (by simp only [f0, f1, f2]; rfl) ?_
      refine st_val (.bool (x01 != e1)) (wn rfl) (r_pickT (congrArg Value.bool hg) rfl) (by simp only [f0, f1, f2]; rfl) ?_
      refine wpList_nil ?_
      exact then_normal ⟨some_us (by simp only [masked, hg, Bool.true_and, Bool.false_and, Bool.true_or, Bool.false_or, cond_true, cond_false]) rfl rfl, rfl⟩
    · refine st_no (wt rfl rfl rfl (congrArg Value.bool hg) rfl) (by simp only [f0, f1, f2]; rfl) ?_
      refine st_no (wt rfl rfl rfl (congrArg Value.bool hg) rfl) (by simp only [f0, f1, f2]; rfl) ?_
      refine st_no (wt rfl rfl rfl (congrArg Value.bool hg) rfl) (by simp only [f0, f1, f2]; rfl) ?_
      refine st_no (wt rfl rfl rfl (congrArg Value.bool hg) rfl) (by simp only [f0, f1, f2]; rfl) ?_
      refine st_no (wt rfl rfl rfl (congrArg Value.bool hg) rfl) (by simp only [f0, f1, f2]; rfl) ?_
      refine st_val (.bool false) (wn rfl) (r_pickF (congrArg Value.bool hg) rfl) (by simp only [f0, f1, f2]; rfl) ?_
      refine wpList_nil ?_
      exact then_normal ⟨some_us (by simp only [masked, hg, Bool.true_and, Bool.false_and, Bool.true_or, Bool.false_or, cond_true, cond_false]) rfl rfl, rfl⟩
  rintro a0 _ ⟨⟨us, hF⟩, rfl⟩
  simp only [fillin, Nat.reduceAdd] at hF
  subst hF
  simp only [List.drop_succ_cons, List.drop_zero]
  refine st_val (.bool (x11 && (x01 != e1))) (wn rfl) rfl (by simp only [f0, f1, f2]; rfl) ?_
  refine wpList_nil ?_
  refine then_normal ?_
  refine wp_ret ?_
  replace h := h b1 w_3 hn_b1 hb4.lt hA2
  exact end_ret (r_res1 (v := .bool (x11 && (x01 != e1))) Try.results17 ⟨rfl, trivial⟩) rfl h

/-- what is to be shown of a call of ledger.copied -/
def ledger_copied_vc (l : Sl) (R : Value → World → Prop) (w : World) : Prop :=
  Calls Try.prog 25 #[Sl.v l] w (fun e w_ => ∃ x1 : Sl, e = .returned (Sl.v x1) ∧
  ∃ (I_ : Nat → Int → World → Prop) (nv1 : Nat), I_ nv1 0 w_ ∧
  ∀ (nv : Nat) (t9 : Int) (w_1 : World), I_ nv t9 w_1 →
  (((decide (t9 < (↑(Sl.n x1) : Int))) = true →
  ∃ ad : Addr, SlAt x1 t9 4 ad ∧
  ∃ x2 : Sl, Cells w_1 (Addr.add ad 3) [Sl.v x2] ∧
  Calls Try.prog 26 #[Sl.v x2] w_1 (fun e w_2 => ∃ x3 : Sl, e = .returned (Sl.v x3) ∧
  ∃ ad1 : Addr, SlAt x1 t9 4 ad1 ∧
  ∃ (bk off : Nat) (cells : List Value) (ety : TypeId), Addr.add ad1 3 = (⟨bk, off, none⟩ : Addr) ∧ Blk w_2 bk ety cells ∧ off + 1 ≤ cells.length ∧ ∀ w_3 : World, Only [bk] w_2 w_3 → Blk w_3 bk ety (splice cells off [Sl.v x3]) →
  ∃ nv2 : Nat, nv2 < nv ∧ I_ nv2 (IntKind.i64.wrap (t9 + 1)) w_3)) ∧
  ((decide (t9 < (↑(Sl.n x1) : Int))) = false →
  R (Sl.v x1) w_1)))
theorem ledger_copied_wp (l : Sl) (R : Value → World → Prop) (w : World) (h : ledger_copied_vc l R w) :
    Calls Try.prog 16 #[Sl.v l] w fun e w' => ∃ v, e = .returned v ∧ R v w' := by
  unfold ledger_copied_vc at h
  refine calls_of (k := 23) Try.func16 rfl Try.ntmps16 rfl rfl ?_
  simp only [List.replicate, List.cons_append, List.nil_append]
  refine wp_seq ?_
  refine wp_region_lit ?_
  refine st_val (Sl.v Sl.nil) (wn rfl) rfl (by simp only [f0, f1, f2]; rfl) ?_
  refine wpList_nil ?_
  refine then_normal ?_
  refine wp_seq ?_
  refine wp_region_lit ?_
  refine st_val (Sl.v l) (wn rfl) rfl (by simp only [f0, f1, f2]; rfl) ?_
  refine st_one (wn rfl) ?_
  refine o_enter (args := #[Sl.v l]) (r_enter Try.call25 rfl) (h.mono ?_)
  clear h
  rintro _ w_ ⟨x1, rfl, h⟩
  refine ⟨_, _, rfl, (by simp only [f0, f1, f2]; rfl), ?_⟩
  refine st_val (Sl.v x1) (wn rfl) rfl (by simp only [f0, f1, f2]; rfl) ?_
  refine wpList_nil ?_
  refine then_normal ?_
  refine wp_seq ?_
  refine wp_seq ?_
  refine wp_region_lit ?_
  refine st_val (Sl.v x1) (wn rfl) rfl (by simp only [f0, f1, f2]; rfl) ?_
  refine st_val (.int .i64 (↑(Sl.n x1) : Int)) (wn rfl) (r_len (s := x1) (Try.runUnderlying22 _) rfl) (by simp only [f0, f1, f2]; rfl) ?_
  refine st_val (.int .i64 0) (wn rfl) rfl (by simp only [f0, f1, f2]; rfl) ?_
  refine wpList_nil ?_
  refine then_normal ?_
  refine wp_block ?_
  obtain ⟨I_, nv1, h0, hI⟩ := h
  refine wp_loop_ghost (fun nv' a' w' => ∃ t9 : Int, (∃ us : Nat → Value, a' = (⟨(fillin us 0 (some (Sl.v l) :: some undef :: some (Sl.v Sl.nil) :: some (Sl.v x1) :: none :: some (Sl.v l) :: some (Sl.v x1) :: some (Sl.v x1) :: some (.int .i64 (↑(Sl.n x1) : Int)) :: some (.int .i64 t9) :: none :: none :: none :: none :: none :: none :: none :: none :: none :: none :: none :: none :: none :: some undef :: [])).toArray, []⟩ : Act)) ∧ I_ nv' t9 w') nv1 ?_ ?_
  · exact ⟨_, (some_us rfl rfl rfl), h0⟩
  · clear h0
    rintro nv a0 w_1 ⟨t9, ⟨us, hF⟩, h⟩
    simp only [fillin, Nat.reduceAdd] at hF
    subst hF
    replace h := hI _ _ _ h
    refine wp_seq ?_
    refine wp_region_lit ?_
    refine st_val (.bool (decide (t9 < (↑(Sl.n x1) : Int)))) (wn rfl) rfl (by simp only [f0, f1, f2]; rfl) ?_
    refine wpList_nil ?_
    refine then_normal ?_
    refine wp_seq ?_
    refine wp_cond_split (t := (decide (t9 < (↑(Sl.n x1) : Int)))) rfl (fun hc => ?_) (fun hc => ?_)
    · replace h := h.1 hc
      refine wp_skip ?_
      refine then_normal ?_
      refine wp_seq ?_
      refine wp_block ?_
      refine wp_seq ?_
      refine wp_region_lit ?_
      refine st_val (.int .i64 t9) (wn rfl) rfl (by simp only [f0, f1, f2]; rfl) ?_
      refine st_val (.int .i64 t9) (wn rfl) rfl (by simp only [f0, f1, f2]; rfl) ?_
      refine wpList_nil ?_
      refine then_normal ?_
      refine wp_region_lit ?_
      refine st_val (Sl.v x1) (wn rfl) rfl (by simp only [f0, f1, f2]; rfl) ?_
      refine st_val (.int .i64 t9) (wn rfl) rfl (by simp only [f0, f1, f2]; rfl) ?_
      refine st_val (Sl.v x1) (wn rfl) rfl (by simp only [f0, f1, f2]; rfl) ?_
      refine st_val (.int .i64 t9) (wn rfl) rfl (by simp only [f0, f1, f2]; rfl) ?_
      obtain ⟨ad, hx, h⟩ := h
      refine st_val (.pointer (some ad)) (wn rfl) (r_indexS (s := x1) (Try.runUnderlying22 _) (Try.sizeOf34 _) rfl rfl hx) (by simp only [f0, f1, f2]; rfl) ?_
      refine st_val (.pointer (some (Addr.add ad 3))) (wn rfl) (r_field (Try.runUnderlying34 _) rfl (Try.sizeOf32 _) rfl rfl) (by simp only [f0, f1, f2]; rfl) ?_
      obtain ⟨x2, hx1, h⟩ := h
      refine st_val (Sl.v x2) (wn rfl) (r_load1 (Try.isAgg32 _) rfl (Cells.one hx1)) (by simp only [f0, f1, f2]; rfl) ?_
      refine st_one (wn rfl) ?_
      refine o_enter (args := #[Sl.v x2]) (r_enter Try.call26 rfl) (h.mono ?_)
      clear h
      rintro _ w_2 ⟨x3, rfl, h⟩
      refine ⟨_, _, rfl, (by simp only [f0, f1, f2]; rfl), ?_⟩
      obtain ⟨ad1, hx2, h⟩ := h
      refine st_val (.pointer (some ad1)) (wn rfl) (r_indexS (s := x1) (Try.runUnderlying22 _) (Try.sizeOf34 _) rfl rfl hx2) (by simp only [f0, f1, f2]; rfl) ?_
      refine st_val (.pointer (some (Addr.add ad1 3))) (wn rfl) (r_field (Try.runUnderlying34 _) rfl (Try.sizeOf32 _) rfl rfl) (by simp only [f0, f1, f2]; rfl) ?_
      obtain ⟨bk, off, cells, ety, hx3, hx4, hx5, h⟩ := h
      refine st_one (wn rfl) ?_
      refine o_storeB (b := bk) (o := off) (vs := [Sl.v x3]) (Try.sizeOf32 _) (congrArg (fun z => Value.pointer (some z)) hx3) rfl rfl rfl hx4 hx5 rfl (f3 _ _) (fun w_3 hO hb => ?_)
      replace h := h w_3 hO hb
      refine wpList_nil ?_
      refine block_normal ?_
      refine then_normal ?_
      refine wp_region_lit ?_
      refine st_val (.int .i64 (IntKind.i64.wrap (t9 + 1))) (wn rfl) rfl (by simp only [f0, f1, f2]; rfl) ?_
      refine st_val (.int .i64 (IntKind.i64.wrap (t9 + 1))) (wn rfl) rfl (by simp only [f0, f1, f2]; rfl) ?_
      refine wpList_nil ?_
      refine then_normal ?_
      obtain ⟨nv2, hl, h⟩ := h
      exact ⟨nv2, hl, _, (some_us rfl rfl rfl), h⟩
    · replace h := h.2 hc
      refine wp_exit ?_
      refine then_exit ?_
      refine then_exit ?_
      refine block_hit ?_
      refine then_normal ?_
      refine wp_seq ?_
      refine wp_region_lit ?_
      refine st_val (Sl.v x1) (wn rfl) rfl (by simp only [f0, f1, f2]; rfl) ?_
      refine st_val (Sl.v x1) (wn rfl) rfl (by simp only [f0, f1, f2]; rfl) ?_
      refine wpList_nil ?_
      refine then_normal ?_
      refine wp_ret ?_
      exact end_ret (r_res1 (v := Sl.v x1) Try.results16 ⟨rfl, trivial⟩) rfl h

/-- what is to be shown of a call of slices.IndexFunc[[]api.Entry,api.Entry] -/
def slices_IndexFunc_api_Entry_vc (s : Sl) (f : Value) (R : Value → World → Prop) (w : World) : Prop :=
  ∃ (I_ : Nat → Int → World → Prop) (nv1 : Nat), I_ nv1 0 w ∧
  ∀ (nv : Nat) (t8 : Int) (w_ : World), I_ nv t8 w_ →
  (((decide (t8 < (↑(Sl.n s) : Int))) = true →
  ∃ ad : Addr, SlAt s t8 4 ad ∧
  ∃ x0 : Int, ∃ x1 : Int, ∃ x2 : Int, ∃ x3 : Sl, Cells w_ ad [.int .i64 x0, .int .i64 x1, .int .i64 x2, Sl.v x3] ∧
  ∃ (fid : FuncId) (cap : List Value), f = .func (.func fid) #[] cap.toArray ∧ (∀ (args : Array Value) (w : World), (callFunc fid args).run Try.prog w = .ok (.enter fid args) w) ∧
  Calls Try.prog fid (([.agg #[.int .i64 x0, .int .i64 x1, .int .i64 x2, Sl.v x3]] : List Value) ++ cap).toArray w_ (fun e w_1 => ∃ x4 : Bool, e = .returned (.bool x4) ∧
  ((x4 = true →
  R (.int .i64 t8) w_1) ∧
  (x4 = false →
  ∃ nv2 : Nat, nv2 < nv ∧ I_ nv2 (IntKind.i64.wrap (t8 + 1)) w_1)))) ∧
  ((decide (t8 < (↑(Sl.n s) : Int))) = false →
  R (.int .i64 (-1)) w_))
theorem slices_IndexFunc_api_Entry_wp (s : Sl) (f : Value) (R : Value → World → Prop) (w : World) (h : slices_IndexFunc_api_Entry_vc s f R w) :
    Calls Try.prog 19 #[Sl.v s, f] w fun e w' => ∃ v, e = .returned v ∧ R v w' := by
  unfold slices_IndexFunc_api_Entry_vc at h
  refine calls_of (k := 17) Try.func19 rfl Try.ntmps19 rfl rfl ?_
  simp only [List.replicate, List.cons_append, List.nil_append]
  refine wp_seq ?_
  refine wp_region_lit ?_
  refine st_val (.int .i64 0) (wn rfl) rfl (by simp only [f0, f1, f2]; rfl) ?_
  refine wpList_nil ?_
  refine then_normal ?_
  refine wp_seq ?_
  refine wp_seq ?_
  refine wp_region_lit ?_
  refine st_val (Sl.v s) (wn rfl) rfl (by simp only [f0, f1, f2]; rfl) ?_
  refine st_val (.int .i64 (↑(Sl.n s) : Int)) (wn rfl) (r_len (s := s) (Try.runUnderlying22 _) rfl) (by simp only [f0, f1, f2]; rfl) ?_
  refine st_val (.int .i64 0) (wn rfl) rfl (by simp only [f0, f1, f2]; rfl) ?_
  refine wpList_nil ?_
  refine then_normal ?_
  refine wp_block ?_
  obtain ⟨I_, nv1, h0, hI⟩ := h
  refine wp_loop_ghost (fun nv' a' w' => ∃ t8 : Int, (∃ us : Nat → Value, a' = (⟨(fillin us 0 (some (Sl.v s) :: some f :: some undef :: some undef :: none :: none :: some (Sl.v s) :: some (.int .i64 (↑(Sl.n s) : Int)) :: some (.int .i64 t8) :: none :: none :: none :: none :: none :: none :: none :: none :: none :: none :: [])).toArray, []⟩ : Act)) ∧ I_ nv' t8 w') nv1 ?_ ?_
  · exact ⟨_, (some_us rfl rfl rfl), h0⟩
  · clear h0
    rintro nv a0 w_ ⟨t8, ⟨us, hF⟩, h⟩
    simp only [fillin, Nat.reduceAdd] at hF
    subst hF
    replace h := hI _ _ _ h
    refine wp_seq ?_
    refine wp_region_lit ?_
    refine st_val (.bool (decide (t8 < (↑(Sl.n s) : Int)))) (wn rfl) rfl (by simp only [f0, f1, f2]; rfl) ?_
    refine wpList_nil ?_
    refine then_normal ?_
    refine wp_seq ?_
    refine wp_cond_split (t := (decide (t8 < (↑(Sl.n s) : Int)))) rfl (fun hc => ?_) (fun hc => ?_)
    · replace h := h.1 hc
      refine wp_skip ?_
      refine then_normal ?_
      refine wp_seq ?_
      refine wp_block ?_
      refine wp_seq ?_
      refine wp_region_lit ?_
      refine st_val (.int .i64 t8) (wn rfl) rfl (by simp only [f0, f1, f2]; rfl) ?_
      refine st_val (.int .i64 t8) (wn rfl) rfl (by simp only [f0, f1, f2]; rfl) ?_
      refine wpList_nil ?_
      refine then_normal ?_
      refine wp_seq ?_
      refine wp_region_lit ?_
      refine st_val (f) (wn rfl) rfl (by simp only [f0, f1, f2]; rfl) ?_
      refine st_val (Sl.v s) (wn rfl) rfl (by simp only [f0, f1, f2]; rfl) ?_
      refine st_val (.int .i64 t8) (wn rfl) rfl (by simp only [f0, f1, f2]; rfl) ?_
      obtain ⟨ad, hx, h⟩ := h
      refine st_val (.pointer (some ad)) (wn rfl) (r_indexS (s := s) (Try.runUnderlying22 _) (Try.sizeOf34 _) rfl rfl hx) (by simp only [f0, f1, f2]; rfl) ?_
      obtain ⟨x0, x1, x2, x3, hx1, h⟩ := h
      refine st_val (.agg #[.int .i64 x0, .int .i64 x1, .int .i64 x2, Sl.v x3]) (wn rfl) (r_loadN (Try.isAgg34 _) (Try.sizeOf34 _) rfl rfl hx1) (by simp only [f0, f1, f2]; rfl) ?_
      obtain ⟨fid, cap, hx2, hx3, h⟩ := h
      refine st_one (wn rfl) ?_
      refine o_enter (args := (([.agg #[.int .i64 x0, .int .i64 x1, .int .i64 x2, Sl.v x3]] : List Value) ++ cap).toArray) (r_enterC (first := []) (captured := cap) hx2 hx3 rfl) (h.mono ?_)
      clear h
      rintro _ w_1 ⟨x4, rfl, h⟩
      refine ⟨_, _, rfl, (by simp only [f0, f1, f2]; rfl), ?_⟩
      refine wpList_nil ?_
      refine then_normal ?_
      refine wp_cond_split (t := x4) rfl (fun hc1 => ?_) (fun hc1 => ?_)
      · replace h := h.1 hc1
        refine wp_seq ?_
        refine wp_region_lit ?_
        refine st_val (.int .i64 t8) (wn rfl) rfl (by simp only [f0, f1, f2]; rfl) ?_
        refine st_val (.int .i64 t8) (wn rfl) rfl (by simp only [f0, f1, f2]; rfl) ?_
        refine wpList_nil ?_
        refine then_normal ?_
        refine wp_ret ?_
        refine block_ret ?_
        refine then_ret ?_
        refine then_ret ?_
        refine block_ret ?_
        refine then_ret ?_
        exact end_ret (r_res1 (v := .int .i64 t8) Try.results19 ⟨rfl, trivial⟩) rfl h
      · replace h := h.2 hc1
        refine wp_skip ?_
        refine block_normal ?_
        refine then_normal ?_
        refine wp_region_lit ?_
        refine st_val (.int .i64 (IntKind.i64.wrap (t8 + 1))) (wn rfl) rfl (by simp only [f0, f1, f2]; rfl) ?_
        refine st_val (.int .i64 (IntKind.i64.wrap (t8 + 1))) (wn rfl) rfl (by simp only [f0, f1, f2]; rfl) ?_
        refine wpList_nil ?_
        refine then_normal ?_
        obtain ⟨nv2, hl, h⟩ := h
        exact ⟨nv2, hl, _, (some_us rfl rfl rfl), h⟩
    · replace h := h.2 hc
      refine wp_exit ?_
      refine then_exit ?_
      refine then_exit ?_
      refine block_hit ?_
      refine then_normal ?_
      refine wp_seq ?_
      refine wp_region_lit ?_
      refine st_val (.int .i64 (-1)) (wn rfl) rfl (by simp only [f0, f1, f2]; rfl) ?_
      refine wpList_nil ?_
      refine then_normal ?_
      refine wp_ret ?_
      exact end_ret (r_res1 (v := .int .i64 (-1)) Try.results19 ⟨rfl, trivial⟩) rfl h

/-- what is to be shown of a call of (*ledger.Ledger).Fit$2 -/
def ledger_Ledger_Fit_2_vc (e0 : Int) (e1 : Int) (e2 : Int) (e3 : Sl) (ccap0 : Addr) (R : Value → World → Prop) (w : World) : Prop :=
  ∀ (b : Nat) (w_ : World), w.heap.size ≤ b → b < w_.heap.size → Only [] w w_ →
  ∃ x1 : Option Addr, Cells w_ ccap0 [.pointer x1] ∧
  ∃ ad : Addr, x1 = some ad ∧
  ∃ x2 : Int, Cells w_ (Addr.add (Addr.add ad 0) 0) [.int .i64 x2] ∧
  ∀ (w_1 : World), Only [] w_ w_1 →
  R (.bool (e0 == x2)) w_1
theorem ledger_Ledger_Fit_2_wp (e0 : Int) (e1 : Int) (e2 : Int) (e3 : Sl) (ccap0 : Addr) (R : Value → World → Prop) (w : World) (h : ledger_Ledger_Fit_2_vc e0 e1 e2 e3 ccap0 R w) :
    Calls Try.prog 20 #[.agg #[.int .i64 e0, .int .i64 e1, .int .i64 e2, Sl.v e3], .pointer (some ccap0)] w fun e w' => ∃ v, e = .returned v ∧ R v w' := by
  unfold ledger_Ledger_Fit_2_vc at h
  refine calls_of (k := 10) Try.func20 rfl Try.ntmps20 rfl rfl ?_
  simp only [List.replicate, List.cons_append, List.nil_append]
  refine wp_seq ?_
  refine wp_region_lit ?_
  refine st_one (wn rfl) ?_
  refine o_boxB (zs := [.int .i64 e0, .int .i64 e1, .int .i64 e2, Sl.v e3]) rfl (fun b => by simp only [f0, f1, f2]; rfl) (fun b w_ hn hO hb => ?_)
  have hn_b : w.heap.size ≤ b := hn
  have hA : Only [] w w_ := hO
  refine st_val (.bool false) (wn rfl) rfl (by simp only [f0, f1, f2]; rfl) ?_
  refine wpList_nil ?_
  refine then_normal ?_
  refine wp_seq ?_
  replace h := h b w_ hn_b hb.lt hA
  obtain ⟨x1, hx, h⟩ := h
  obtain ⟨ad, hx1, h⟩ := h
  obtain ⟨x2, hx2, h⟩ := h
  refine wp_region_quiet_lit Try.checked.mixed (by kernel_rfl) ?_
  refine q_val (.pointer (some ⟨b, 0, none⟩)) (wn rfl) (by rintro _ ⟨nd, rfl⟩; exact (r_field (Try.runUnderlying34 _) rfl (Try.sizeOf3 _) rfl rfl)) (by simp only [f0, f1, f2]; rfl) ?_
  refine q_val (.int .i64 e0) (wn rfl) (by rintro _ ⟨nd, rfl⟩; exact (r_load1 (Try.isAgg3 _) rfl ((q_blk hb).cell 0))) (by simp only [f0, f1, f2]; rfl) ?_
  refine q_val (.pointer x1) (wn rfl) (by rintro _ ⟨nd, rfl⟩; exact (r_load1 (Try.isAgg24 _) rfl (Cells.one (q_cells hx)))) (by simp only [f0, f1, f2]; rfl) ?_
  refine q_val (.pointer (some ad)) (wn rfl) (by rintro _ ⟨nd, rfl⟩; exact (r_nil (congrArg Value.pointer hx1))) (by simp only [f0, f1, f2]; rfl) ?_
  refine q_val (.pointer (some (Addr.add ad 0))) (wn rfl) (by rintro _ ⟨nd, rfl⟩; exact (r_field (Try.runUnderlying54 _) rfl (Try.sizeOf50 _) rfl rfl)) (by simp only [f0, f1, f2]; rfl) ?_
  refine q_val (.pointer (some (Addr.add (Addr.add ad 0) 0))) (wn rfl) (by rintro _ ⟨nd, rfl⟩; exact (r_field (Try.runUnderlying50 _) rfl (Try.sizeOf3 _) rfl rfl)) (by simp only [f0, f1, f2]; rfl) ?_
  refine q_val (.int .i64 x2) (wn rfl) (by rintro _ ⟨nd, rfl⟩; exact (r_load1 (Try.isAgg3 _) rfl (Cells.one (q_cells hx2)))) (by simp only [f0, f1, f2]; rfl) ?_
  refine q_val (.bool (e0 == x2)) (wn rfl) (by rintro _ ⟨nd, rfl⟩; exact rfl) (by simp only [f0, f1, f2]; rfl) ?_
  refine q_val (.bool (e0 == x2)) (wn rfl) (by rintro _ ⟨nd, rfl⟩; exact rfl) (by simp only [f0, f1, f2]; rfl) ?_
  refine wpQuiet_nil ?_
  rintro _ ⟨nd, rfl⟩
  have hO1 := Only.drewN w_ nd
  generalize w_.drewN nd = w_1 at *
  have hA1 : Only [] w_ w_1 := hO1
  have hb1 := hO1.blk hb (by simp)
  refine then_normal ?_
  refine wp_ret ?_
  replace h := h w_1 hA1
  exact end_ret (r_res1 (v := .bool (e0 == x2)) Try.results20 ⟨rfl, trivial⟩) rfl h

/-- what is to be shown of a call of (*ledger.Ledger).Term -/
def ledger_Ledger_Term_vc (l : Addr) (index : Int) (R : Value → World → Prop) (w : World) : Prop :=
  Calls Try.prog 18 #[.pointer (some l), .int .i64 index] w (fun e w_ => ∃ x00 : Int, ∃ x01 : Int, ∃ x1 : Bool, e = .returned (.tuple #[.agg #[.int .i64 x00, .int .i64 x01], .bool x1]) ∧
  ∀ (b : Nat) (w_2 : World), w_.heap.size ≤ b → b < w_2.heap.size → Only [] w_ w_2 →
  R (.tuple #[.int .i64 x01, .bool x1]) w_2)
theorem ledger_Ledger_Term_wp (l : Addr) (index : Int) (R : Value → World → Prop) (w : World) (h : ledger_Ledger_Term_vc l index R w) :
    Calls Try.prog 23 #[.pointer (some l), .int .i64 index] w fun e w' => ∃ v, e = .returned v ∧ R v w' := by
  unfold ledger_Ledger_Term_vc at h
  refine calls_of (k := 15) Try.func23 rfl Try.ntmps23 rfl rfl ?_
  simp only [List.replicate, List.cons_append, List.nil_append]
  refine wp_seq ?_
  refine wp_region_lit ?_
  refine st_val (.int .i64 0) (wn rfl) rfl (by simp only [f0, f1, f2]; rfl) ?_
  refine st_val (.bool false) (wn rfl) rfl (by simp only [f0, f1, f2]; rfl) ?_
  refine wpList_nil ?_
  refine then_normal ?_
  refine wp_seq ?_
  refine wp_region_lit ?_
  refine st_val (.pointer (some l)) (wn rfl) rfl (by simp only [f0, f1, f2]; rfl) ?_
  refine st_val (.int .i64 index) (wn rfl) rfl (by simp only [f0, f1, f2]; rfl) ?_
  refine st_one (wn rfl) ?_
  refine o_enter (args := #[.pointer (some l), .int .i64 index]) (r_enter Try.call18 rfl) (h.mono ?_)
  clear h
  rintro _ w_ ⟨x00, x01, x1, rfl, h⟩
  refine ⟨_, _, rfl, (by simp only [f0, f1, f2]; rfl), ?_⟩
  refine st_val (.tuple #[.agg #[.int .i64 x00, .int .i64 x01], .bool x1]) (wn rfl) rfl (by simp only [f0, f1, f2]; rfl) ?_
  refine st_val (.agg #[.int .i64 x00, .int .i64 x01]) (wn rfl) rfl (by simp only [f0, f1, f2]; rfl) ?_
  refine st_val (.bool x1) (wn rfl) rfl (by simp only [f0, f1, f2]; rfl) ?_
  refine st_one (wn rfl) ?_
  refine o_allocB (zs := [.int .i64 0, .int .i64 0]) (Try.zeroValue50 _) rfl (fun b => by simp only [f0, f1, f2]; rfl) (fun b w_1 hn hO hb => ?_)
  have hn_b : w_.heap.size ≤ b := hn
  have hA : Only [] w_ w_1 := hO
  refine st_one (wn rfl) ?_
  refine o_storeB (vs := [.int .i64 x00, .int .i64 x01]) (cs' := [.int .i64 x00, .int .i64 x01]) (Try.sizeOf50 _) rfl rfl rfl rfl hb (Nat.le_of_ble_eq_true rfl) rfl (f3 _ _) (fun w_2 hO1 hb1 => ?_)
  have hA1 := hA.new hO1 hn_b
  refine st_val (.bool x1) (wn rfl) rfl (by simp only [f0, f1, f2]; rfl) ?_
  refine wpList_nil ?_
  refine then_normal ?_
  refine wp_seq ?_
  refine wp_region_lit ?_
  refine st_val (.pointer (some ⟨b, 1, none⟩)) (wn rfl) (r_field (Try.runUnderlying50 _) rfl (Try.sizeOf3 _) rfl rfl) (by simp only [f0, f1, f2]; rfl) ?_
  refine st_val (.int .i64 x01) (wn rfl) (r_load1 (Try.isAgg3 _) rfl (hb1.cell 1)) (by simp only [f0, f1, f2]; rfl) ?_
  refine st_val (.bool x1) (wn rfl) rfl (by simp only [f0, f1, f2]; rfl) ?_
  refine st_val (.int .i64 x01) (wn rfl) rfl (by simp only [f0, f1, f2]; rfl) ?_
  refine st_val (.bool x1) (wn rfl) rfl (by simp only [f0, f1, f2]; rfl) ?_
  refine wpList_nil ?_
  refine then_normal ?_
  refine wp_ret ?_
  replace h := h b w_2 hn_b hb1.lt hA1
  exact end_ret (r_resN (vs := [.int .i64 x01, .bool x1]) Try.results23 rfl ⟨rfl, rfl, trivial⟩) rfl h

/-- what is to be shown of a call of (ledger.point).Base -/
def ledger_point_Base_vc (p0 : Int) (p1 : Int) (R : Value → World → Prop) (w : World) : Prop :=
  ∀ (b : Nat) (w_1 : World), w.heap.size ≤ b → b < w_1.heap.size → Only [] w w_1 →
  R (.tuple #[.int .i64 p0, .int .i64 p1]) w_1
theorem ledger_point_Base_wp (p0 : Int) (p1 : Int) (R : Value → World → Prop) (w : World) (h : ledger_point_Base_vc p0 p1 R w) :
    Calls Try.prog 22 #[.agg #[.int .i64 p0, .int .i64 p1]] w fun e w' => ∃ v, e = .returned v ∧ R v w' := by
  unfold ledger_point_Base_vc at h
  refine calls_of (k := 7) Try.func22 rfl Try.ntmps22 rfl rfl ?_
  simp only [List.replicate, List.cons_append, List.nil_append]
  refine wp_seq ?_
  refine wp_region_lit ?_
  refine st_one (wn rfl) ?_
  refine o_boxB (zs := [.int .i64 p0, .int .i64 p1]) rfl (fun b => by simp only [f0, f1, f2]; rfl) (fun b w_ hn hO hb => ?_)
  have hn_b : w.heap.size ≤ b := hn
  have hA : Only [] w w_ := hO
  refine st_val (.int .i64 0) (wn rfl) rfl (by simp only [f0, f1, f2]; rfl) ?_
  refine st_val (.int .i64 0) (wn rfl) rfl (by simp only [f0, f1, f2]; rfl) ?_
  refine wpList_nil ?_
  refine then_normal ?_
  refine wp_seq ?_
  refine wp_region_quiet_lit Try.checked.mixed (by kernel_rfl) ?_
  refine q_val (.pointer (some ⟨b, 0, none⟩)) (wn rfl) (by rintro _ ⟨nd, rfl⟩; exact (r_field (Try.runUnderlying50 _) rfl (Try.sizeOf3 _) rfl rfl)) (by simp only [f0, f1, f2]; rfl) ?_
  refine q_val (.int .i64 p0) (wn rfl) (by rintro _ ⟨nd, rfl⟩; exact (r_load1 (Try.isAgg3 _) rfl ((q_blk hb).cell 0))) (by simp only [f0, f1, f2]; rfl) ?_
  refine q_val (.pointer (some ⟨b, 1, none⟩)) (wn rfl) (by rintro _ ⟨nd, rfl⟩; exact (r_field (Try.runUnderlying50 _) rfl (Try.sizeOf3 _) rfl rfl)) (by simp only [f0, f1, f2]; rfl) ?_
  refine q_val (.int .i64 p1) (wn rfl) (by rintro _ ⟨nd, rfl⟩; exact (r_load1 (Try.isAgg3 _) rfl ((q_blk hb).cell 1))) (by simp only [f0, f1, f2]; rfl) ?_
  refine q_val (.int .i64 p0) (wn rfl) (by rintro _ ⟨nd, rfl⟩; exact rfl) (by simp only [f0, f1, f2]; rfl) ?_
  refine q_val (.int .i64 p1) (wn rfl) (by rintro _ ⟨nd, rfl⟩; exact rfl) (by simp only [f0, f1, f2]; rfl) ?_
  refine wpQuiet_nil ?_
  rintro _ ⟨nd, rfl⟩
  have hO1 := Only.drewN w_ nd
  generalize w_.drewN nd = w_1 at *
  have hA1 := hA.tr0 hO1
  have hb1 := hO1.blk hb (by simp)
  refine then_normal ?_
  refine wp_ret ?_
  replace h := h b w_1 hn_b hb1.lt hA1
  exact end_ret (r_resN (vs := [.int .i64 p0, .int .i64 p1]) Try.results22 rfl ⟨rfl, rfl, trivial⟩) rfl h

/-- what is to be shown of a call of slices.Clone[[]api.Entry,api.Entry] -/
def slices_Clone_api_Entry_vc (s : Sl) (R : Value → World → Prop) (w : World) : Prop :=
  (((Option.isNone (Sl.a s)) = true →
  R (Sl.v Sl.nil) w) ∧
  ((Option.isNone (Sl.a s)) = false →
  ∃ x1 : Sl, ∃ w_ : World, (Instr.buildSlice 22 0 #[]).run Try.prog w = .ok (Sl.v x1) w_ ∧
  ∃ x2 : Sl, ∃ w_1 : World, (Builtin.append_ #[22, 22] 22 #[Sl.v x1, Sl.v s]).run Try.prog w_ = .ok (Sl.v x2) w_1 ∧
  R (Sl.v x2) w_1))
theorem slices_Clone_api_Entry_wp (s : Sl) (R : Value → World → Prop) (w : World) (h : slices_Clone_api_Entry_vc s R w) :
    Calls Try.prog 25 #[Sl.v s] w fun e w' => ∃ v, e = .returned v ∧ R v w' := by
  unfold slices_Clone_api_Entry_vc at h
  refine calls_of (k := 7) Try.func25 rfl Try.ntmps25 rfl rfl ?_
  simp only [List.replicate, List.cons_append, List.nil_append]
  refine wp_seq ?_
  refine wp_region_lit ?_
  refine st_val (Sl.v Sl.nil) (wn rfl) rfl (by simp only [f0, f1, f2]; rfl) ?_
  refine wpList_nil ?_
  refine then_normal ?_
  refine wp_seq ?_
  refine wp_seq ?_
  refine wp_region_lit ?_
  refine st_val (Sl.v s) (wn rfl) rfl (by simp only [f0, f1, f2]; rfl) ?_
  refine st_val (.bool (Option.isNone (Sl.a s))) (wn rfl) (r_eqlSlNilR (Try.runUnderlying22 _) rfl rfl) (by simp only [f0, f1, f2]; rfl) ?_
  refine wpList_nil ?_
  refine then_normal ?_
  refine wp_cond_split (t := (Option.isNone (Sl.a s))) rfl (fun hc => ?_) (fun hc => ?_)
  · replace h := h.1 hc
    refine wp_seq ?_
    refine wp_region_lit ?_
    refine st_val (Sl.v Sl.nil) (wn rfl) rfl (by simp only [f0, f1, f2]; rfl) ?_
    refine wpList_nil ?_
    refine then_normal ?_
    refine wp_ret ?_
    refine then_ret ?_
    exact end_ret (r_res1 (v := Sl.v Sl.nil) Try.results25 ⟨rfl, trivial⟩) rfl h
  · replace h := h.2 hc
    refine wp_skip ?_
    refine then_normal ?_
    refine wp_seq ?_
    refine wp_region_lit ?_
    obtain ⟨x1, w_, hr, h⟩ := h
    refine st_one (wn rfl) ?_
    refine o_val (Sl.v x1) (r_buildSlice rfl hr) (by simp only [f0, f1, f2]; rfl) ?_
    refine st_val (Sl.v s) (wn rfl) rfl (by simp only [f0, f1, f2]; rfl) ?_
    obtain ⟨x2, w_1, hr1, h⟩ := h
    refine st_one (wn rfl) ?_
    refine o_val (Sl.v x2) (r_builtin_append rfl hr1) (by simp only [f0, f1, f2]; rfl) ?_
    refine st_val (Sl.v x2) (wn rfl) rfl (by simp only [f0, f1, f2]; rfl) ?_
    refine wpList_nil ?_
    refine then_normal ?_
    refine wp_ret ?_
    exact end_ret (r_res1 (v := Sl.v x2) Try.results25 ⟨rfl, trivial⟩) rfl h

/-- what is to be shown of a call of bytes.Clone -/
def bytes_Clone_vc (b : Sl) (R : Value → World → Prop) (w : World) : Prop :=
  (((Option.isNone (Sl.a b)) = true →
  R (Sl.v Sl.nil) w) ∧
  ((Option.isNone (Sl.a b)) = false →
  ∃ x1 : Sl, ∃ w_ : World, (Instr.buildSlice 32 0 #[]).run Try.prog w = .ok (Sl.v x1) w_ ∧
  ∃ x2 : Sl, ∃ w_1 : World, (Builtin.append_ #[32, 32] 32 #[Sl.v x1, Sl.v b]).run Try.prog w_ = .ok (Sl.v x2) w_1 ∧
  R (Sl.v x2) w_1))
theorem bytes_Clone_wp (b : Sl) (R : Value → World → Prop) (w : World) (h : bytes_Clone_vc b R w) :
    Calls Try.prog 26 #[Sl.v b] w fun e w' => ∃ v, e = .returned v ∧ R v w' := by
  unfold bytes_Clone_vc at h
  refine calls_of (k := 7) Try.func26 rfl Try.ntmps26 rfl rfl ?_
  simp only [List.replicate, List.cons_append, List.nil_append]
  refine wp_seq ?_
  refine wp_region_lit ?_
  refine st_val (Sl.v Sl.nil) (wn rfl) rfl (by simp only [f0, f1, f2]; rfl) ?_
  refine wpList_nil ?_
  refine then_normal ?_
  refine wp_seq ?_
  refine wp_seq ?_
  refine wp_region_lit ?_
  refine st_val (Sl.v b) (wn rfl) rfl (by simp only [f0, f1, f2]; rfl) ?_
  refine st_val (.bool (Option.isNone (Sl.a b))) (wn rfl) (r_eqlSlNilR (Try.runUnderlying32 _) rfl rfl) (by simp only [f0, f1, f2]; rfl) ?_
  refine wpList_nil ?_
  refine then_normal ?_
  refine wp_cond_split (t := (Option.isNone (Sl.a b))) rfl (fun hc => ?_) (fun hc => ?_)
  · replace h := h.1 hc
    refine wp_seq ?_
    refine wp_region_lit ?_
    refine st_val (Sl.v Sl.nil) (wn rfl) rfl (by simp only [f0, f1, f2]; rfl) ?_
    refine wpList_nil ?_
    refine then_normal ?_
    refine wp_ret ?_
    refine then_ret ?_
    exact end_ret (r_res1 (v := Sl.v Sl.nil) Try.results26 ⟨rfl, trivial⟩) rfl h
  · replace h := h.2 hc
    refine wp_skip ?_
    refine then_normal ?_
    refine wp_seq ?_
    refine wp_region_lit ?_
    obtain ⟨x1, w_, hr, h⟩ := h
    refine st_one (wn rfl) ?_
    refine o_val (Sl.v x1) (r_buildSlice rfl hr) (by simp only [f0, f1, f2]; rfl) ?_
    refine st_val (Sl.v b) (wn rfl) rfl (by simp only [f0, f1, f2]; rfl) ?_
    obtain ⟨x2, w_1, hr1, h⟩ := h
    refine st_one (wn rfl) ?_
    refine o_val (Sl.v x2) (r_builtin_append rfl hr1) (by simp only [f0, f1, f2]; rfl) ?_
    refine st_val (Sl.v x2) (wn rfl) rfl (by simp only [f0, f1, f2]; rfl) ?_
    refine wpList_nil ?_
    refine then_normal ?_
    refine wp_ret ?_
    exact end_ret (r_res1 (v := Sl.v x2) Try.results26 ⟨rfl, trivial⟩) rfl h

end Go.Proofs.Ytkigioiahpfkgaa.Vc
