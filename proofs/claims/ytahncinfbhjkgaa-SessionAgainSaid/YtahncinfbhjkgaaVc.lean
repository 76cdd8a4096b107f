/-
  Own work, printed by a program of ours (gen.py): of each Go function what is to be shown of a call ('.._vc'), and that it suffices ('.._wp'). Nothing is assumed.
-/
import Derived.Test.YtahncinfbhjkgaaRows
import Derived.Test.YtahncinfbhjkgaaBase
namespace Go.Proofs.Ytahncinfbhjkgaa.Vc
open Go Go.RowKit Go.Kt
set_option linter.unusedSimpArgs false
set_option linter.unusedVariables false
set_option maxRecDepth 100000
set_option maxHeartbeats 40000000
/-- what is to be shown of a call of pavanelaw19.small -/
def pavanelaw19_small_vc (R : Value → World → Prop) (w : World) : Prop :=
  Calls Try.prog 9 #[] w (fun e w_ => ∃ x1 : Option Addr, e = .returned (.pointer x1) ∧
  (((Option.isNone x1) = true →
  R (.bool false) w_) ∧
  ((Option.isNone x1) = false →
  Calls Try.prog 12 #[.pointer x1, .int .i64 5] w_ (fun e w_1 => ∃ x0 : Int, ∃ x11 : Int, e = .returned (.tuple #[.int .i64 x0, .int .i64 x11]) ∧
  ∃ x2 : Sl, ∃ w_2 : World, (Instr.buildSlice 27 1 #[(0, .int .u8 97)]).run Try.prog w_1 = .ok (Sl.v x2) w_2 ∧
  Calls Try.prog 25 #[.pointer x1, .int .i64 1, .int .i64 1, .int .i64 6, Sl.v x2] w_2 (fun e w_3 => ∃ x3 : Int, e = .returned (.int .i64 x3) ∧
  Calls Try.prog 10 #[.pointer x1, .int .i64 1, .int .i64 1] w_3 (fun e w_4 => ∃ x01 : Int, ∃ x12 : Sl, e = .returned (.tuple #[.int .i64 x01, Sl.v x12]) ∧
  Calls Try.prog 13 #[.pointer x1, .int .i64 57] w_4 (fun e w_5 => ∃ x4 : Sl, e = .returned (Sl.v x4) ∧
  ∃ J_ : Bool → World → Prop, (∀ (t0 : Bool) (w_6 : World), J_ t0 w_6 →
  R (.bool t0) w_6) ∧
  (∃ bs : List UInt8, (((((x0 == 1) && (x11 == 0)) && (x3 == 0)) && (x01 == 2)) = true → Bytes w_5 x12 bs) ∧
  ((((((((x0 == 1) && (x11 == 0)) && (x3 == 0)) && (x01 == 2)) && ((⟨List.toArray bs⟩ : ByteArray).toList == (⟨#[97]⟩ : ByteArray).toList)) && ((↑(Sl.n x4) : Int) == 1)) = true →
  Calls Try.prog 15 #[.pointer x1] w_5 (fun e w_7 => ∃ x5 : Int, e = .returned (.int .i64 x5) ∧
  J_ (x5 == 2) w_7)) ∧
  (((((((x0 == 1) && (x11 == 0)) && (x3 == 0)) && (x01 == 2)) && ((⟨List.toArray bs⟩ : ByteArray).toList == (⟨#[97]⟩ : ByteArray).toList)) && ((↑(Sl.n x4) : Int) == 1)) = false →
  J_ false w_5))))))))))
theorem pavanelaw19_small_wp (R : Value → World → Prop) (w : World) (h : pavanelaw19_small_vc R w) :
    Calls Try.prog 8 #[] w fun e w' => ∃ v, e = .returned v ∧ R v w' := by
  unfold pavanelaw19_small_vc at h
  refine calls_of (k := 55) Try.func8 rfl Try.ntmps8 rfl rfl ?_
  simp only [List.replicate, List.cons_append, List.nil_append]
  refine wp_seq ?_
  refine wp_region_lit ?_
  refine st_val (.bool false) (wn rfl) rfl (by simp only [f0, f1, f2]; rfl) ?_
  refine wpList_nil ?_
  refine then_normal ?_
  refine wp_seq ?_
  refine wp_region_lit ?_
  refine st_one (wn rfl) ?_
  refine o_enter (args := #[]) (r_enter Try.call9 rfl) (h.mono ?_)
  clear h
  rintro _ w_ ⟨x1, rfl, h⟩
  refine ⟨_, _, rfl, (by simp only [f0, f1, f2]; rfl), ?_⟩
  refine st_val (.pointer x1) (wn rfl) rfl (by simp only [f0, f1, f2]; rfl) ?_
  refine wpList_nil ?_
  refine then_normal ?_
  refine wp_seq ?_
  refine wp_seq ?_
  refine wp_region_lit ?_
  refine st_val (.pointer x1) (wn rfl) rfl (by simp only [f0, f1, f2]; rfl) ?_
  refine st_val (.bool (Option.isNone x1)) (wn rfl) (r_eqlPtrNilR (Try.runUnderlying24 _) rfl rfl rfl) (by simp only [f0, f1, f2]; rfl) ?_
  refine wpList_nil ?_
  refine then_normal ?_
  refine wp_cond_split (t := (Option.isNone x1)) rfl (fun hc => ?_) (fun hc => ?_)
  · replace h := h.1 hc
    refine wp_seq ?_
    refine wp_region_lit ?_
    refine st_val (.bool false) (wn rfl) rfl (by simp only [f0, f1, f2]; rfl) ?_
    refine wpList_nil ?_
    refine then_normal ?_
    refine wp_ret ?_
    refine then_ret ?_
    exact end_ret (r_res1 (v := .bool false) Try.results8 ⟨rfl, trivial⟩) rfl h
  · replace h := h.2 hc
    refine wp_skip ?_
    refine then_normal ?_
    refine wp_seq ?_
    refine wp_region_lit ?_
    refine st_val (.pointer x1) (wn rfl) rfl (by simp only [f0, f1, f2]; rfl) ?_
    refine st_one (wn rfl) ?_
    refine o_enter (args := #[.pointer x1, .int .i64 5]) (r_enter Try.call12 rfl) (h.mono ?_)
    clear h
    rintro _ w_1 ⟨x0, x11, rfl, h⟩
    refine ⟨_, _, rfl, (by simp only [f0, f1, f2]; rfl), ?_⟩
    refine st_val (.tuple #[.int .i64 x0, .int .i64 x11]) (wn rfl) rfl (by simp only [f0, f1, f2]; rfl) ?_
    refine st_val (.int .i64 x0) (wn rfl) rfl (by simp only [f0, f1, f2]; rfl) ?_
    refine st_val (.int .i64 x11) (wn rfl) rfl (by simp only [f0, f1, f2]; rfl) ?_
    refine st_val (.int .i64 x0) (wn rfl) rfl (by simp only [f0, f1, f2]; rfl) ?_
    refine st_val (.int .i64 x11) (wn rfl) rfl (by simp only [f0, f1, f2]; rfl) ?_
    refine wpList_nil ?_
    refine then_normal ?_
    refine wp_seq ?_
    refine wp_region_lit ?_
    refine st_val (.pointer x1) (wn rfl) rfl (by simp only [f0, f1, f2]; rfl) ?_
    obtain ⟨x2, w_2, hr, h⟩ := h
    refine st_one (wn rfl) ?_
    refine o_val (Sl.v x2) (r_buildSlice rfl hr) (by simp only [f0, f1, f2]; rfl) ?_
    refine st_one (wn rfl) ?_
    refine o_enter (args := #[.pointer x1, .int .i64 1, .int .i64 1, .int .i64 6, Sl.v x2]) (r_enter Try.call25 rfl) (h.mono ?_)
    clear h
    rintro _ w_3 ⟨x3, rfl, h⟩
    refine ⟨_, _, rfl, (by simp only [f0, f1, f2]; rfl), ?_⟩
    refine st_val (.int .i64 x3) (wn rfl) rfl (by simp only [f0, f1, f2]; rfl) ?_
    refine wpList_nil ?_
    refine then_normal ?_
    refine wp_seq ?_
    refine wp_region_lit ?_
    refine st_val (.pointer x1) (wn rfl) rfl (by simp only [f0, f1, f2]; rfl) ?_
    refine st_one (wn rfl) ?_
    refine o_enter (args := #[.pointer x1, .int .i64 1, .int .i64 1]) (r_enter Try.call10 rfl) (h.mono ?_)
    clear h
    rintro _ w_4 ⟨x01, x12, rfl, h⟩
    refine ⟨_, _, rfl, (by simp only [f0, f1, f2]; rfl), ?_⟩
    refine st_val (.tuple #[.int .i64 x01, Sl.v x12]) (wn rfl) rfl (by simp only [f0, f1, f2]; rfl) ?_
    refine st_val (.int .i64 x01) (wn rfl) rfl (by simp only [f0, f1, f2]; rfl) ?_
    refine st_val (Sl.v x12) (wn rfl) rfl (by simp only [f0, f1, f2]; rfl) ?_
    refine st_val (.int .i64 x01) (wn rfl) rfl (by simp only [f0, f1, f2]; rfl) ?_
    refine st_val (Sl.v x12) (wn rfl) rfl (by simp only [f0, f1, f2]; rfl) ?_
    refine wpList_nil ?_
    refine then_normal ?_
    refine wp_seq ?_
    refine wp_region_lit ?_
    refine st_val (.pointer x1) (wn rfl) rfl (by simp only [f0, f1, f2]; rfl) ?_
    refine st_one (wn rfl) ?_
    refine o_enter (args := #[.pointer x1, .int .i64 57]) (r_enter Try.call13 rfl) (h.mono ?_)
    clear h
    rintro _ w_5 ⟨x4, rfl, h⟩
    refine ⟨_, _, rfl, (by simp only [f0, f1, f2]; rfl), ?_⟩
    refine st_val (Sl.v x4) (wn rfl) rfl (by simp only [f0, f1, f2]; rfl) ?_
    refine wpList_nil ?_
    refine then_normal ?_
    refine wp_seq ?_
    obtain ⟨J_, hJ, h⟩ := h
    refine wp_cut (fun a' w' => ∃ t0 : Bool, (∃ us : Nat → Value, a' = (⟨(fillin us 0 (some (.bool t0) :: some (.pointer x1) :: some (.int .i64 x0) :: some (.int .i64 x11) :: some (.int .i64 x3) :: some (.int .i64 x01) :: some (Sl.v x12) :: some (Sl.v x4) :: some (.pointer x1) :: some (.pointer x1) :: some (.bool (Option.isNone x1)) :: some (.tuple #[.int .i64 x0, .int .i64 x11]) :: some (.pointer x1) :: some (.tuple #[.int .i64 x0, .int .i64 x11]) :: some (.int .i64 x0) :: some (.int .i64 x11) :: some (.pointer x1) :: some (Sl.v x2) :: some (.int .i64 x3) :: some (.tuple #[.int .i64 x01, Sl.v x12]) :: some (.pointer x1) :: some (.tuple #[.int .i64 x01, Sl.v x12]) :: some (.int .i64 x01) :: some (Sl.v x12) :: some (.pointer x1) :: some (Sl.v x4) :: none :: none :: none :: none :: none :: none :: none :: none :: none :: none :: none :: none :: none :: none :: none :: none :: none :: none :: none :: none :: none :: none :: none :: none :: none :: none :: none :: none :: none :: [])).toArray, []⟩ : Act)) ∧ J_ t0 w') ?_ ?_
    · clear h
      rintro a0 w_6 ⟨t0, ⟨us, hF⟩, h⟩
      simp only [fillin, Nat.reduceAdd] at hF
      subst hF
      replace h := hJ _ _ h
      refine then_normal ?_
      refine wp_ret ?_
      exact end_ret (r_res1 (v := .bool t0) Try.results8 ⟨rfl, trivial⟩) rfl h
    · refine wp_region_lit ?_
      refine st_val (.int .i64 x0) (wn rfl) rfl (by simp only [f0, f1, f2]; rfl) ?_
      refine st_val (.bool (x0 == 1)) (wn rfl) rfl (by simp only [f0, f1, f2]; rfl) ?_
      refine st_val (.bool (x0 == 1)) (wn rfl) rfl (by simp only [f0, f1, f2]; rfl) ?_
      refine st_cut 3 (fun a' w' => (∃ us1 : Nat → Value, a' = (⟨(fillin us1 0 (some (.bool false) :: some (.pointer x1) :: some (.int .i64 x0) :: some (.int .i64 x11) :: some (.int .i64 x3) :: some (.int .i64 x01) :: some (Sl.v x12) :: some (Sl.v x4) :: some (.pointer x1) :: some (.pointer x1) :: some (.bool (Option.isNone x1)) :: some (.tuple #[.int .i64 x0, .int .i64 x11]) :: some (.pointer x1) :: some (.tuple #[.int .i64 x0, .int .i64 x11]) :: some (.int .i64 x0) :: some (.int .i64 x11) :: some (.pointer x1) :: some (Sl.v x2) :: some (.int .i64 x3) :: some (.tuple #[.int .i64 x01, Sl.v x12]) :: some (.pointer x1) :: some (.tuple #[.int .i64 x01, Sl.v x12]) :: some (.int .i64 x01) :: some (Sl.v x12) :: some (.pointer x1) :: some (Sl.v x4) :: some (.int .i64 x0) :: some (.bool (x0 == 1)) :: some (.bool (x0 == 1)) :: none :: none :: some (.bool ((x0 == 1) && (x11 == 0))) :: some undef :: some undef :: some undef :: some undef :: some undef :: some undef :: some undef :: some undef :: some undef :: some undef :: some undef :: some undef :: some undef :: some undef :: some undef :: some undef :: some undef :: some undef :: some undef :: some undef :: some undef :: some undef :: some undef :: [])).toArray, []⟩ : Act)) ∧ w_5 = w') ?_ ?_
      · simp only [List.take_succ_cons, List.take_zero]
        rcases Bool.eq_false_or_eq_true (x0 == 1) with hg | hg
        · refine st_val (.int .i64 x11) (wt rfl rfl rfl (congrArg (fun z => some (Value.bool z)) hg) rfl) rfl (by simp only [f0, f1, f2]; rfl) ?_
          refine st_val (.bool (x11 == 0)) (wt rfl rfl rfl (congrArg (fun z => some (Value.bool z)) hg) rfl) rfl (by simp only [f0, f1, f2]; rfl) ?_
          refine st_val (.bool (x11 == 0)) (wn rfl) (r_pickT (congrArg Value.bool hg) rfl) (by simp only [f0, f1, f2]; rfl) ?_
          refine wpList_nil ?_
          exact then_normal ⟨some_us (by simp only [masked, hg, Bool.true_and, Bool.false_and, Bool.true_or, Bool.false_or, cond_true, cond_false]) rfl rfl, rfl⟩
        · refine st_no (wt rfl rfl rfl (congrArg (fun z => some (Value.bool z)) hg) rfl) (by simp only [f0, f1, f2]; rfl) ?_
          refine st_no (wt rfl rfl rfl (congrArg (fun z => some (Value.bool z)) hg) rfl) (by simp only [f0, f1, f2]; rfl) ?_
          refine st_val (.bool false) (wn rfl) (r_pickF (congrArg Value.bool hg) rfl) (by simp only [f0, f1, f2]; rfl) ?_
          refine wpList_nil ?_
          exact then_normal ⟨some_us (by simp only [masked, hg, Bool.true_and, Bool.false_and, Bool.true_or, Bool.false_or, cond_true, cond_false]) rfl rfl, rfl⟩
      rintro a0 _ ⟨⟨us1, hF⟩, rfl⟩
      simp only [fillin, Nat.reduceAdd] at hF
      subst hF
      simp only [List.drop_succ_cons, List.drop_zero]
      refine st_val (.bool ((x0 == 1) && (x11 == 0))) (wn rfl) rfl (by simp only [f0, f1, f2]; rfl) ?_
      refine st_cut 3 (fun a' w' => (∃ us2 : Nat → Value, a' = (⟨(fillin us2 0 (some (.bool false) :: some (.pointer x1) :: some (.int .i64 x0) :: some (.int .i64 x11) :: some (.int .i64 x3) :: some (.int .i64 x01) :: some (Sl.v x12) :: some (Sl.v x4) :: some (.pointer x1) :: some (.pointer x1) :: some (.bool (Option.isNone x1)) :: some (.tuple #[.int .i64 x0, .int .i64 x11]) :: some (.pointer x1) :: some (.tuple #[.int .i64 x0, .int .i64 x11]) :: some (.int .i64 x0) :: some (.int .i64 x11) :: some (.pointer x1) :: some (Sl.v x2) :: some (.int .i64 x3) :: some (.tuple #[.int .i64 x01, Sl.v x12]) :: some (.pointer x1) :: some (.tuple #[.int .i64 x01, Sl.v x12]) :: some (.int .i64 x01) :: some (Sl.v x12) :: some (.pointer x1) :: some (Sl.v x4) :: some (.int .i64 x0) :: some (.bool (x0 == 1)) :: some (.bool (x0 == 1)) :: some ((us1 29)) :: some ((us1 30)) :: some (.bool ((x0 == 1) && (x11 == 0))) :: some (.bool ((x0 == 1) && (x11 == 0))) :: none :: none :: some (.bool (((x0 == 1) && (x11 == 0)) && (x3 == 0))) :: some undef :: some undef :: some undef :: some undef :: some undef :: some undef :: some undef :: some undef :: some undef :: some undef :: some undef :: some undef :: some undef :: some undef :: some undef :: some undef :: some undef :: some undef :: some undef :: [])).toArray, []⟩ : Act)) ∧ w_5 = w') ?_ ?_
      · simp only [List.take_succ_cons, List.take_zero]
        rcases Bool.eq_false_or_eq_true ((x0 == 1) && (x11 == 0)) with hg1 | hg1
        · refine st_val (.int .i64 x3) (wt rfl rfl rfl (congrArg (fun z => some (Value.bool z)) hg1) rfl) rfl (by simp only [f0, f1, f2]; rfl) ?_
          refine st_val (.bool (x3 == 0)) (wt rfl rfl rfl (congrArg (fun z => some (Value.bool z)) hg1) rfl) rfl (by simp only [f0, f1, f2]; rfl) ?_
          refine st_val (.bool (x3 == 0)) (wn rfl) (r_pickT (congrArg Value.bool hg1) rfl) (by simp only [f0, f1, f2]; rfl) ?_
          refine wpList_nil ?_
          exact then_normal ⟨some_us (by simp only [masked, hg1, Bool.true_and, Bool.false_and, Bool.true_or, Bool.false_or, cond_true, cond_false]) rfl rfl, rfl⟩
        · refine st_no (wt rfl rfl rfl (congrArg (fun z => some (Value.bool z)) hg1) rfl) (by simp only [f0, f1, f2]; rfl) ?_
          refine st_no (wt rfl rfl rfl (congrArg (fun z => some (Value.bool z)) hg1) rfl) (by simp only [f0, f1, f2]; rfl) ?_
          refine st_val (.bool false) (wn rfl) (r_pickF (congrArg Value.bool hg1) rfl) (by simp only [f0, f1, f2]; rfl) ?_
          refine wpList_nil ?_
          exact then_normal ⟨some_us (by simp only [masked, hg1, Bool.true_and, Bool.false_and, Bool.true_or, Bool.false_or, cond_true, cond_false]) rfl rfl, rfl⟩
      rintro a0 _ ⟨⟨us2, hF⟩, rfl⟩
      simp only [fillin, Nat.reduceAdd] at hF
      subst hF
      simp only [List.drop_succ_cons, List.drop_zero]
      refine st_val (.bool (((x0 == 1) && (x11 == 0)) && (x3 == 0))) (wn rfl) rfl (by simp only [f0, f1, f2]; rfl) ?_
      refine st_cut 3 (fun a' w' => (∃ us3 : Nat → Value, a' = (⟨(fillin us3 0 (some (.bool false) :: some (.pointer x1) :: some (.int .i64 x0) :: some (.int .i64 x11) :: some (.int .i64 x3) :: some (.int .i64 x01) :: some (Sl.v x12) :: some (Sl.v x4) :: some (.pointer x1) :: some (.pointer x1) :: some (.bool (Option.isNone x1)) :: some (.tuple #[.int .i64 x0, .int .i64 x11]) :: some (.pointer x1) :: some (.tuple #[.int .i64 x0, .int .i64 x11]) :: some (.int .i64 x0) :: some (.int .i64 x11) :: some (.pointer x1) :: some (Sl.v x2) :: some (.int .i64 x3) :: some (.tuple #[.int .i64 x01, Sl.v x12]) :: some (.pointer x1) :: some (.tuple #[.int .i64 x01, Sl.v x12]) :: some (.int .i64 x01) :: some (Sl.v x12) :: some (.pointer x1) :: some (Sl.v x4) :: some (.int .i64 x0) :: some (.bool (x0 == 1)) :: some (.bool (x0 == 1)) :: some ((us1 29)) :: some ((us1 30)) :: some (.bool ((x0 == 1) && (x11 == 0))) :: some (.bool ((x0 == 1) && (x11 == 0))) :: some ((us2 33)) :: some ((us2 34)) :: some (.bool (((x0 == 1) && (x11 == 0)) && (x3 == 0))) :: some (.bool (((x0 == 1) && (x11 == 0)) && (x3 == 0))) :: none :: none :: some (.bool ((((x0 == 1) && (x11 == 0)) && (x3 == 0)) && (x01 == 2))) :: some undef :: some undef :: some undef :: some undef :: some undef :: some undef :: some undef :: some undef :: some undef :: some undef :: some undef :: some undef :: some undef :: some undef :: some undef :: [])).toArray, []⟩ : Act)) ∧ w_5 = w') ?_ ?_
      · simp only [List.take_succ_cons, List.take_zero]
        rcases Bool.eq_false_or_eq_true (((x0 == 1) && (x11 == 0)) && (x3 == 0)) with hg2 | hg2
        · refine st_val (.int .i64 x01) (wt rfl rfl rfl (congrArg (fun z => some (Value.bool z)) hg2) rfl) rfl (by simp only [f0, f1, f2]; rfl) ?_
          refine st_val (.bool (x01 == 2)) (wt rfl rfl rfl (congrArg (fun z => some (Value.bool z)) hg2) rfl) rfl (by simp only [f0, f1, f2]; rfl) ?_
          refine st_val (.bool (x01 == 2)) (wn rfl) (r_pickT (congrArg Value.bool hg2) rfl) (by simp only [f0, f1, f2]; rfl) ?_
          refine wpList_nil ?_
          exact then_normal ⟨some_us (by simp only [masked, hg2, Bool.true_and, Bool.false_and, Bool.true_or, Bool.false_or, cond_true, cond_false]) rfl rfl, rfl⟩
        · refine st_no (wt rfl rfl rfl (congrArg (fun z => some (Value.bool z)) hg2) rfl) (by simp only [f0, f1, f2]; rfl) ?_
          refine st_no (wt rfl rfl rfl (congrArg (fun z => some (Value.bool z)) hg2) rfl) (by simp only [f0, f1, f2]; rfl) ?_
          refine st_val (.bool false) (wn rfl) (r_pickF (congrArg Value.bool hg2) rfl) (by simp only [f0, f1, f2]; rfl) ?_
          refine wpList_nil ?_
          exact then_normal ⟨some_us (by simp only [masked, hg2, Bool.true_and, Bool.false_and, Bool.true_or, Bool.false_or, cond_true, cond_false]) rfl rfl, rfl⟩
      rintro a0 _ ⟨⟨us3, hF⟩, rfl⟩
      simp only [fillin, Nat.reduceAdd] at hF
      subst hF
      simp only [List.drop_succ_cons, List.drop_zero]
      refine st_val (.bool ((((x0 == 1) && (x11 == 0)) && (x3 == 0)) && (x01 == 2))) (wn rfl) rfl (by simp only [f0, f1, f2]; rfl) ?_
      obtain ⟨bs, hx, h⟩ := h
      refine st_cut 4 (fun a' w' => (∃ us4 : Nat → Value, a' = (⟨(fillin us4 0 (some (.bool false) :: some (.pointer x1) :: some (.int .i64 x0) :: some (.int .i64 x11) :: some (.int .i64 x3) :: some (.int .i64 x01) :: some (Sl.v x12) :: some (Sl.v x4) :: some (.pointer x1) :: some (.pointer x1) :: some (.bool (Option.isNone x1)) :: some (.tuple #[.int .i64 x0, .int .i64 x11]) :: some (.pointer x1) :: some (.tuple #[.int .i64 x0, .int .i64 x11]) :: some (.int .i64 x0) :: some (.int .i64 x11) :: some (.pointer x1) :: some (Sl.v x2) :: some (.int .i64 x3) :: some (.tuple #[.int .i64 x01, Sl.v x12]) :: some (.pointer x1) :: some (.tuple #[.int .i64 x01, Sl.v x12]) :: some (.int .i64 x01) :: some (Sl.v x12) :: some (.pointer x1) :: some (Sl.v x4) :: some (.int .i64 x0) :: some (.bool (x0 == 1)) :: some (.bool (x0 == 1)) :: some ((us1 29)) :: some ((us1 30)) :: some (.bool ((x0 == 1) && (x11 == 0))) :: some (.bool ((x0 == 1) && (x11 == 0))) :: some ((us2 33)) :: some ((us2 34)) :: some (.bool (((x0 == 1) && (x11 == 0)) && (x3 == 0))) :: some (.bool (((x0 == 1) && (x11 == 0)) && (x3 == 0))) :: some ((us3 37)) :: some ((us3 38)) :: some (.bool ((((x0 == 1) && (x11 == 0)) && (x3 == 0)) && (x01 == 2))) :: some (.bool ((((x0 == 1) && (x11 == 0)) && (x3 == 0)) && (x01 == 2))) :: none :: none :: none :: some (.bool (((((x0 == 1) && (x11 == 0)) && (x3 == 0)) && (x01 == 2)) && ((⟨List.toArray bs⟩ : ByteArray).toList == (⟨#[97]⟩ : ByteArray).toList))) :: some undef :: some undef :: some undef :: some undef :: some undef :: some undef :: some undef :: some undef :: some undef :: some undef :: [])).toArray, []⟩ : Act)) ∧ w_5 = w') ?_ ?_
      · simp only [List.take_succ_cons, List.take_zero]
        rcases Bool.eq_false_or_eq_true ((((x0 == 1) && (x11 == 0)) && (x3 == 0)) && (x01 == 2)) with hg3 | hg3
        · refine st_val (Sl.v x12) (wt rfl rfl rfl (congrArg (fun z => some (Value.bool z)) hg3) rfl) rfl (by simp only [f0, f1, f2]; rfl) ?_
          refine st_val (.string (⟨List.toArray bs⟩ : ByteArray)) (wt rfl rfl rfl (congrArg (fun z => some (Value.bool z)) hg3) rfl) (r_bytesStr (sl := x12) Try.underlying27 Try.underlying5 Try.underlying9 rfl (hx hg3)) (by simp only [f0, f1, f2]; rfl) ?_
          refine st_val (.bool ((⟨List.toArray bs⟩ : ByteArray).toList == (⟨#[97]⟩ : ByteArray).toList)) (wt rfl rfl rfl (congrArg (fun z => some (Value.bool z)) hg3) rfl) rfl (by simp only [f0, f1, f2]; rfl) ?_
          refine st_val (.bool ((⟨List.toArray bs⟩ : ByteArray).toList == (⟨#[97]⟩ : ByteArray).toList)) (wn rfl) (r_pickT (congrArg Value.bool hg3) rfl) (by simp only [f0, f1, f2]; rfl) ?_
          refine wpList_nil ?_
          exact then_normal ⟨some_us (by simp only [masked, hg3, Bool.true_and, Bool.false_and, Bool.true_or, Bool.false_or, cond_true, cond_false]) rfl rfl, rfl⟩
        · refine st_no (wt rfl rfl rfl (congrArg (fun z => some (Value.bool z)) hg3) rfl) (by simp only [f0, f1, f2]; rfl) ?_
          refine st_no (wt rfl rfl rfl (congrArg (fun z => some (Value.bool z)) hg3) rfl) (by simp only [f0, f1, f2]; rfl) ?_
          refine st_no (wt rfl rfl rfl (congrArg (fun z => some (Value.bool z)) hg3) rfl) (by simp only [f0, f1, f2]; rfl) ?_
          refine st_val (.bool false) (wn rfl) (r_pickF (congrArg Value.bool hg3) rfl) (by simp only [f0, f1, f2]; rfl) ?_
          refine wpList_nil ?_
          exact then_normal ⟨some_us (by simp only [masked, hg3, Bool.true_and, Bool.false_and, Bool.true_or, Bool.false_or, cond_true, cond_false]) rfl rfl, rfl⟩
      rintro a0 _ ⟨⟨us4, hF⟩, rfl⟩
      simp only [fillin, Nat.reduceAdd] at hF
      subst hF
      simp only [List.drop_succ_cons, List.drop_zero]
      refine st_val (.bool (((((x0 == 1) && (x11 == 0)) && (x3 == 0)) && (x01 == 2)) && ((⟨List.toArray bs⟩ : ByteArray).toList == (⟨#[97]⟩ : ByteArray).toList))) (wn rfl) rfl (by simp only [f0, f1, f2]; rfl) ?_
      refine st_cut 4 (fun a' w' => (∃ us5 : Nat → Value, a' = (⟨(fillin us5 0 (some (.bool false) :: some (.pointer x1) :: some (.int .i64 x0) :: some (.int .i64 x11) :: some (.int .i64 x3) :: some (.int .i64 x01) :: some (Sl.v x12) :: some (Sl.v x4) :: some (.pointer x1) :: some (.pointer x1) :: some (.bool (Option.isNone x1)) :: some (.tuple #[.int .i64 x0, .int .i64 x11]) :: some (.pointer x1) :: some (.tuple #[.int .i64 x0, .int .i64 x11]) :: some (.int .i64 x0) :: some (.int .i64 x11) :: some (.pointer x1) :: some (Sl.v x2) :: some (.int .i64 x3) :: some (.tuple #[.int .i64 x01, Sl.v x12]) :: some (.pointer x1) :: some (.tuple #[.int .i64 x01, Sl.v x12]) :: some (.int .i64 x01) :: some (Sl.v x12) :: some (.pointer x1) :: some (Sl.v x4) :: some (.int .i64 x0) :: some (.bool (x0 == 1)) :: some (.bool (x0 == 1)) :: some ((us1 29)) :: some ((us1 30)) :: some (.bool ((x0 == 1) && (x11 == 0))) :: some (.bool ((x0 == 1) && (x11 == 0))) :: some ((us2 33)) :: some ((us2 34)) :: some (.bool (((x0 == 1) && (x11 == 0)) && (x3 == 0))) :: some (.bool (((x0 == 1) && (x11 == 0)) && (x3 == 0))) :: some ((us3 37)) :: some ((us3 38)) :: some (.bool ((((x0 == 1) && (x11 == 0)) && (x3 == 0)) && (x01 == 2))) :: some (.bool ((((x0 == 1) && (x11 == 0)) && (x3 == 0)) && (x01 == 2))) :: some ((us4 41)) :: some ((us4 42)) :: some ((us4 43)) :: some (.bool (((((x0 == 1) && (x11 == 0)) && (x3 == 0)) && (x01 == 2)) && ((⟨List.toArray bs⟩ : ByteArray).toList == (⟨#[97]⟩ : ByteArray).toList))) :: some (.bool (((((x0 == 1) && (x11 == 0)) && (x3 == 0)) && (x01 == 2)) && ((⟨List.toArray bs⟩ : ByteArray).toList == (⟨#[97]⟩ : ByteArray).toList))) :: none :: none :: none :: some (.bool ((((((x0 == 1) && (x11 == 0)) && (x3 == 0)) && (x01 == 2)) && ((⟨List.toArray bs⟩ : ByteArray).toList == (⟨#[97]⟩ : ByteArray).toList)) && ((↑(Sl.n x4) : Int) == 1))) :: some undef :: some undef :: some undef :: some undef :: some undef :: [])).toArray, []⟩ : Act)) ∧ w_5 = w') ?_ ?_
      · simp only [List.take_succ_cons, List.take_zero]
        rcases Bool.eq_false_or_eq_true (((((x0 == 1) && (x11 == 0)) && (x3 == 0)) && (x01 == 2)) && ((⟨List.toArray bs⟩ : ByteArray).toList == (⟨#[97]⟩ : ByteArray).toList)) with hg4 | hg4
        · refine st_val (Sl.v x4) (wt rfl rfl rfl (congrArg (fun z => some (Value.bool z)) hg4) rfl) rfl (by simp only [f0, f1, f2]; rfl) ?_
          refine st_val (.int .i64 (↑(Sl.n x4) : Int)) (wt rfl rfl rfl (congrArg (fun z => some (Value.bool z)) hg4) rfl) (r_len (s := x4) (Try.runUnderlying34 _) rfl) (by simp only [f0, f1, f2]; rfl) ?_
          refine st_val (.bool ((↑(Sl.n x4) : Int) == 1)) (wt rfl rfl rfl (congrArg (fun z => some (Value.bool z)) hg4) rfl) rfl (by simp only [f0, f1, f2]; rfl) ?_
          refine st_val (.bool ((↑(Sl.n x4) : Int) == 1)) (wn rfl) (r_pickT (congrArg Value.bool hg4) rfl) (by simp only [f0, f1, f2]; rfl) ?_
          refine wpList_nil ?_
          exact then_normal ⟨some_us (by simp only [masked, hg4, Bool.true_and, Bool.false_and, Bool.true_or, Bool.false_or, cond_true, cond_false]) rfl rfl, rfl⟩
        · refine st_no (wt rfl rfl rfl (congrArg (fun z => some (Value.bool z)) hg4) rfl) (by simp only [f0, f1, f2]; rfl) ?_
          refine st_no (wt rfl rfl rfl (congrArg (fun z => some (Value.bool z)) hg4) rfl) (by simp only [f0, f1, f2]; rfl) ?_
          refine st_no (wt rfl rfl rfl (congrArg (fun z => some (Value.bool z)) hg4) rfl) (by simp only [f0, f1, f2]; rfl) ?_
          refine st_val (.bool false) (wn rfl) (r_pickF (congrArg Value.bool hg4) rfl) (by simp only [f0, f1, f2]; rfl) ?_
          refine wpList_nil ?_
          exact then_normal ⟨some_us (by simp only [masked, hg4, Bool.true_and, Bool.false_and, Bool.true_or, Bool.false_or, cond_true, cond_false]) rfl rfl, rfl⟩
      rintro a0 _ ⟨⟨us5, hF⟩, rfl⟩
      simp only [fillin, Nat.reduceAdd] at hF
      subst hF
      simp only [List.drop_succ_cons, List.drop_zero]
      refine st_val (.bool ((((((x0 == 1) && (x11 == 0)) && (x3 == 0)) && (x01 == 2)) && ((⟨List.toArray bs⟩ : ByteArray).toList == (⟨#[97]⟩ : ByteArray).toList)) && ((↑(Sl.n x4) : Int) == 1))) (wn rfl) rfl (by simp only [f0, f1, f2]; rfl) ?_
      rcases Bool.eq_false_or_eq_true ((((((x0 == 1) && (x11 == 0)) && (x3 == 0)) && (x01 == 2)) && ((⟨List.toArray bs⟩ : ByteArray).toList == (⟨#[97]⟩ : ByteArray).toList)) && ((↑(Sl.n x4) : Int) == 1)) with hg5 | hg5
      · replace h := h.1 hg5
        refine st_val (.pointer x1) (wt rfl rfl rfl (congrArg (fun z => some (Value.bool z)) hg5) rfl) rfl (by simp only [f0, f1, f2]; rfl) ?_
        refine st_one (wt rfl rfl rfl (congrArg (fun z => some (Value.bool z)) hg5) rfl) ?_
        refine o_enter (args := #[.pointer x1]) (r_enter Try.call15 rfl) (h.mono ?_)
        clear h
        rintro _ w_7 ⟨x5, rfl, h⟩
        refine ⟨_, _, rfl, (by simp only [f0, f1, f2]; rfl), ?_⟩
        refine st_val (.bool (x5 == 2)) (wt rfl rfl rfl (congrArg (fun z => some (Value.bool z)) hg5) rfl) rfl (by simp only [f0, f1, f2]; rfl) ?_
        refine st_val (.bool (x5 == 2)) (wn rfl) (r_pickT (congrArg Value.bool hg5) rfl) (by simp only [f0, f1, f2]; rfl) ?_
        refine st_val (.bool (x5 == 2)) (wn rfl) rfl (by simp only [f0, f1, f2]; rfl) ?_
        refine wpList_nil ?_
        exact then_normal ⟨_, (some_us rfl rfl rfl), h⟩
      · replace h := h.2 hg5
        refine st_no (wt rfl rfl rfl (congrArg (fun z => some (Value.bool z)) hg5) rfl) (by simp only [f0, f1, f2]; rfl) ?_
        refine st_no (wt rfl rfl rfl (congrArg (fun z => some (Value.bool z)) hg5) rfl) (by simp only [f0, f1, f2]; rfl) ?_
        refine st_no (wt rfl rfl rfl (congrArg (fun z => some (Value.bool z)) hg5) rfl) (by simp only [f0, f1, f2]; rfl) ?_
        refine st_val (.bool false) (wn rfl) (r_pickF (congrArg Value.bool hg5) rfl) (by simp only [f0, f1, f2]; rfl) ?_
        refine st_val (.bool false) (wn rfl) rfl (by simp only [f0, f1, f2]; rfl) ?_
        refine wpList_nil ?_
        exact then_normal ⟨_, (some_us rfl rfl rfl), h⟩

/-- what is to be shown of a call of pavanelaw01.Owned -/
def pavanelaw01_Owned_vc (rows : Sl) (R : Value → World → Prop) (w : World) : Prop :=
  ∃ (I_ : Nat → Int → World → Prop) (nv1 : Nat), I_ nv1 0 w ∧
  ∀ (nv : Nat) (i : Int) (w_ : World), I_ nv i w_ →
  (((decide (i < (↑(Sl.n rows) : Int))) = true →
  ∃ ad : Addr, SlAt rows i 1 ad ∧
  ∃ x1 : Sl, Cells w_ ad [Sl.v x1] ∧
  ∃ ad1 : Addr, SlAt rows i 1 ad1 ∧
  ∃ x2 : Sl, Cells w_ ad1 [Sl.v x2] ∧
  ∃ hi : Nat, ((↑(Sl.c x2) : Int) = ↑hi ∧ 0 ≤ hi ∧ hi ≤ (Sl.c x1) ∧ (Sl.c x1) ≤ Sl.c x1) ∧
  ∀ (w_1 : World), Only [] w_ w_1 →
  ∃ (I_1 : Nat → Int → World → Prop) (nv3 : Nat), I_1 nv3 0 w_1 ∧
  ∀ (nv2 : Nat) (k : Int) (w_2 : World), I_1 nv2 k w_2 →
  (((decide (k < (↑(Sl.n (Sl.cut x1 0 hi (Sl.c x1) 1)) : Int))) = true →
  ∃ ad2 : Addr, SlAt (Sl.cut x1 0 hi (Sl.c x1) 1) k 1 ad2 ∧
  ∃ (bk off : Nat) (cells : List Value) (ety : TypeId), ad2 = (⟨bk, off, none⟩ : Addr) ∧ Blk w_2 bk ety cells ∧ off + 1 ≤ cells.length ∧ ∀ w_3 : World, Only [bk] w_2 w_3 → Blk w_3 bk ety (splice cells off [.int .u8 (IntKind.u8.wrap (IntKind.i64.wrap (i + 1)))]) →
  ∃ nv4 : Nat, nv4 < nv2 ∧ I_1 nv4 (IntKind.i64.wrap (k + 1)) w_3) ∧
  ((decide (k < (↑(Sl.n (Sl.cut x1 0 hi (Sl.c x1) 1)) : Int))) = false →
  ∃ nv5 : Nat, nv5 < nv ∧ I_ nv5 (IntKind.i64.wrap (i + 1)) w_2))) ∧
  ((decide (i < (↑(Sl.n rows) : Int))) = false →
  ∃ (I_2 : Nat → Int → World → Prop) (nv7 : Nat), I_2 nv7 0 w_ ∧
  ∀ (nv6 : Nat) (i1 : Int) (w_4 : World), I_2 nv6 i1 w_4 →
  (((decide (i1 < (↑(Sl.n rows) : Int))) = true →
  ∃ ad3 : Addr, SlAt rows i1 1 ad3 ∧
  ∃ x3 : Sl, Cells w_4 ad3 [Sl.v x3] ∧
  ∃ ad4 : Addr, SlAt rows i1 1 ad4 ∧
  ∃ x4 : Sl, Cells w_4 ad4 [Sl.v x4] ∧
  ∃ hi1 : Nat, ((↑(Sl.c x4) : Int) = ↑hi1 ∧ 0 ≤ hi1 ∧ hi1 ≤ (Sl.c x3) ∧ (Sl.c x3) ≤ Sl.c x3) ∧
  ∀ (w_5 : World), Only [] w_4 w_5 →
  ∃ (I_3 : Nat → Int → World → Prop) (nv9 : Nat), I_3 nv9 0 w_5 ∧
  ∀ (nv8 : Nat) (k1 : Int) (w_6 : World), I_3 nv8 k1 w_6 →
  (((decide (k1 < (↑(Sl.n (Sl.cut x3 0 hi1 (Sl.c x3) 1)) : Int))) = true →
  ∃ ad5 : Addr, SlAt (Sl.cut x3 0 hi1 (Sl.c x3) 1) k1 1 ad5 ∧
  ∃ x5 : Int, Cells w_6 ad5 [.int .u8 x5] ∧
  (((x5 != (IntKind.u8.wrap (IntKind.i64.wrap (i1 + 1)))) = true →
  R (.bool false) w_6) ∧
  ((x5 != (IntKind.u8.wrap (IntKind.i64.wrap (i1 + 1)))) = false →
  ∃ nv10 : Nat, nv10 < nv8 ∧ I_3 nv10 (IntKind.i64.wrap (k1 + 1)) w_6))) ∧
  ((decide (k1 < (↑(Sl.n (Sl.cut x3 0 hi1 (Sl.c x3) 1)) : Int))) = false →
  ∃ nv11 : Nat, nv11 < nv6 ∧ I_2 nv11 (IntKind.i64.wrap (i1 + 1)) w_6))) ∧
  ((decide (i1 < (↑(Sl.n rows) : Int))) = false →
  R (.bool true) w_4))))
theorem pavanelaw01_Owned_wp (rows : Sl) (R : Value → World → Prop) (w : World) (h : pavanelaw01_Owned_vc rows R w) :
    Calls Try.prog 22 #[Sl.v rows] w fun e w' => ∃ v, e = .returned v ∧ R v w' := by
  unfold pavanelaw01_Owned_vc at h
  refine calls_of (k := 66) Try.func22 rfl Try.ntmps22 rfl rfl ?_
  simp only [List.replicate, List.cons_append, List.nil_append]
  refine wp_seq ?_
  refine wp_region_lit ?_
  refine st_val (.bool false) (wn rfl) rfl (by simp only [f0, f1, f2]; rfl) ?_
  refine wpList_nil ?_
  refine then_normal ?_
  refine wp_seq ?_
  refine wp_seq ?_
  refine wp_region_lit ?_
  refine st_val (.int .i64 0) (wn rfl) rfl (by simp only [f0, f1, f2]; rfl) ?_
  refine wpList_nil ?_
  refine then_normal ?_
  refine wp_block ?_
  obtain ⟨I_, nv1, h0, hI⟩ := h
  refine wp_loop_ghost (fun nv' a' w' => ∃ i : Int, (∃ us : Nat → Value, a' = (⟨(fillin us 0 (some (Sl.v rows) :: some undef :: some (.bool false) :: some (.int .i64 i) :: none :: none :: some undef :: some undef :: some undef :: none :: none :: none :: none :: none :: none :: none :: none :: none :: none :: none :: none :: none :: none :: none :: none :: none :: none :: none :: none :: none :: none :: none :: none :: none :: none :: none :: none :: some undef :: some undef :: some undef :: some undef :: some undef :: some undef :: some undef :: some undef :: some undef :: some undef :: some undef :: some undef :: some undef :: some undef :: some undef :: some undef :: some undef :: some undef :: some undef :: some undef :: some undef :: some undef :: some undef :: some undef :: some undef :: some undef :: some undef :: some undef :: some undef :: some undef :: [])).toArray, []⟩ : Act)) ∧ I_ nv' i w') nv1 ?_ ?_
  · exact ⟨_, (some_us rfl rfl rfl), h0⟩
  · clear h0
    rintro nv a0 w_ ⟨i, ⟨us, hF⟩, h⟩
    simp only [fillin, Nat.reduceAdd] at hF
    subst hF
    replace h := hI _ _ _ h
    refine wp_seq ?_
    refine wp_seq ?_
    refine wp_region_lit ?_
    refine st_val (.int .i64 i) (wn rfl) rfl (by simp only [f0, f1, f2]; rfl) ?_
    refine st_val (Sl.v rows) (wn rfl) rfl (by simp only [f0, f1, f2]; rfl) ?_
    refine st_val (.int .i64 (↑(Sl.n rows) : Int)) (wn rfl) (r_len (s := rows) (Try.runUnderlying61 _) rfl) (by simp only [f0, f1, f2]; rfl) ?_
    refine st_val (.bool (decide (i < (↑(Sl.n rows) : Int)))) (wn rfl) rfl (by simp only [f0, f1, f2]; rfl) ?_
    refine wpList_nil ?_
    refine then_normal ?_
    refine wp_cond_split (t := (decide (i < (↑(Sl.n rows) : Int)))) rfl (fun hc => ?_) (fun hc => ?_)
    · replace h := h.1 hc
      refine wp_skip ?_
      refine then_normal ?_
      refine wp_seq ?_
      refine wp_block ?_
      refine wp_seq ?_
      obtain ⟨ad, hx, h⟩ := h
      obtain ⟨x1, hx1, h⟩ := h
      obtain ⟨ad1, hx2, h⟩ := h
      obtain ⟨x2, hx3, h⟩ := h
      obtain ⟨hi, hx4, h⟩ := h
      refine wp_region_quiet_lit Try.checked.mixed (by kernel_rfl) ?_
      refine q_val (Sl.v rows) (wn rfl) (by rintro _ ⟨nd, rfl⟩; exact rfl) (by simp only [f0, f1, f2]; rfl) ?_
      refine q_val (.int .i64 i) (wn rfl) (by rintro _ ⟨nd, rfl⟩; exact rfl) (by simp only [f0, f1, f2]; rfl) ?_
      refine q_val (.pointer (some ad)) (wn rfl) (by rintro _ ⟨nd, rfl⟩; exact (r_indexS (s := rows) (Try.runUnderlying61 _) (Try.sizeOf27 _) rfl rfl hx)) (by simp only [f0, f1, f2]; rfl) ?_
      refine q_val (Sl.v x1) (wn rfl) (by rintro _ ⟨nd, rfl⟩; exact (r_load1 (Try.isAgg27 _) rfl (Cells.one (q_cells hx1)))) (by simp only [f0, f1, f2]; rfl) ?_
      refine q_val (Sl.v rows) (wn rfl) (by rintro _ ⟨nd, rfl⟩; exact rfl) (by simp only [f0, f1, f2]; rfl) ?_
      refine q_val (.int .i64 i) (wn rfl) (by rintro _ ⟨nd, rfl⟩; exact rfl) (by simp only [f0, f1, f2]; rfl) ?_
      refine q_val (.pointer (some ad1)) (wn rfl) (by rintro _ ⟨nd, rfl⟩; exact (r_indexS (s := rows) (Try.runUnderlying61 _) (Try.sizeOf27 _) rfl rfl hx2)) (by simp only [f0, f1, f2]; rfl) ?_
      refine q_val (Sl.v x2) (wn rfl) (by rintro _ ⟨nd, rfl⟩; exact (r_load1 (Try.isAgg27 _) rfl (Cells.one (q_cells hx3)))) (by simp only [f0, f1, f2]; rfl) ?_
      refine q_val (.int .i64 (↑(Sl.c x2) : Int)) (wn rfl) (by rintro _ ⟨nd, rfl⟩; exact (r_cap (s := x2) (Try.runUnderlying27 _) rfl)) (by simp only [f0, f1, f2]; rfl) ?_
      refine q_val (Sl.v (Sl.cut x1 0 hi (Sl.c x1) 1)) (wn rfl) (by rintro _ ⟨nd, rfl⟩; exact (r_slice010 (s := x1) (Try.runUnderlying27 _) (Try.sizeOf5 _) rfl (congrArg (Value.int _) (hx4.1)) (by first | exact hx4.2.1 | omega) (by first | exact hx4.2.2.1 | omega) (by first | exact hx4.2.2.2 | omega))) (by simp only [f0, f1, f2]; rfl) ?_
      refine q_val (Sl.v (Sl.cut x1 0 hi (Sl.c x1) 1)) (wn rfl) (by rintro _ ⟨nd, rfl⟩; exact rfl) (by simp only [f0, f1, f2]; rfl) ?_
      refine wpQuiet_nil ?_
      rintro _ ⟨nd, rfl⟩
      have hO := Only.drewN w_ nd
      generalize w_.drewN nd = w_1 at *
      have hA : Only [] w_ w_1 := hO
      refine then_normal ?_
      refine wp_seq ?_
      refine wp_region_lit ?_
      refine st_val (.int .i64 0) (wn rfl) rfl (by simp only [f0, f1, f2]; rfl) ?_
      refine wpList_nil ?_
      refine then_normal ?_
      refine wp_block ?_
      replace h := h w_1 hA
      obtain ⟨I_1, nv3, h01, hI1⟩ := h
      refine wp_loop_ghost (fun nv' a' w' => ∃ k : Int, (∃ us1 : Nat → Value, a' = (⟨(fillin us1 0 (some (Sl.v rows) :: some undef :: some (.bool false) :: some (.int .i64 i) :: some (Sl.v (Sl.cut x1 0 hi (Sl.c x1) 1)) :: some (.int .i64 k) :: some undef :: some undef :: some undef :: some (.int .i64 i) :: some (Sl.v rows) :: some (.int .i64 (↑(Sl.n rows) : Int)) :: some (.bool (decide (i < (↑(Sl.n rows) : Int)))) :: some ((us 13)) :: some ((us 14)) :: some (Sl.v rows) :: some (.int .i64 i) :: some (.pointer (some ad)) :: some (Sl.v x1) :: some (Sl.v rows) :: some (.int .i64 i) :: some (.pointer (some ad1)) :: some (Sl.v x2) :: some (.int .i64 (↑(Sl.c x2) : Int)) :: some (Sl.v (Sl.cut x1 0 hi (Sl.c x1) 1)) :: none :: none :: none :: none :: none :: none :: none :: none :: none :: none :: none :: none :: some undef :: some undef :: some undef :: some undef :: some undef :: some undef :: some undef :: some undef :: some undef :: some undef :: some undef :: some undef :: some undef :: some undef :: some undef :: some undef :: some undef :: some undef :: some undef :: some undef :: some undef :: some undef :: some undef :: some undef :: some undef :: some undef :: some undef :: some undef :: some undef :: some undef :: [])).toArray, []⟩ : Act)) ∧ I_1 nv' k w') nv3 ?_ ?_
      · exact ⟨_, (some_us rfl rfl rfl), h01⟩
      · clear h01
        rintro nv2 a0 w_2 ⟨k, ⟨us1, hF⟩, h⟩
        simp only [fillin, Nat.reduceAdd] at hF
        subst hF
        replace h := hI1 _ _ _ h
        refine wp_seq ?_
        refine wp_seq ?_
        refine wp_region_lit ?_
        refine st_val (.int .i64 k) (wn rfl) rfl (by simp only [f0, f1, f2]; rfl) ?_
        refine st_val (Sl.v (Sl.cut x1 0 hi (Sl.c x1) 1)) (wn rfl) rfl (by simp only [f0, f1, f2]; rfl) ?_
        refine st_val (.int .i64 (↑(Sl.n (Sl.cut x1 0 hi (Sl.c x1) 1)) : Int)) (wn rfl) (r_len (s := Sl.cut x1 0 hi (Sl.c x1) 1) (Try.runUnderlying27 _) rfl) (by simp only [f0, f1, f2]; rfl) ?_
        refine st_val (.bool (decide (k < (↑(Sl.n (Sl.cut x1 0 hi (Sl.c x1) 1)) : Int)))) (wn rfl) rfl (by simp only [f0, f1, f2]; rfl) ?_
        refine wpList_nil ?_
        refine then_normal ?_
        refine wp_cond_split (t := (decide (k < (↑(Sl.n (Sl.cut x1 0 hi (Sl.c x1) 1)) : Int)))) rfl (fun hc1 => ?_) (fun hc1 => ?_)
        · replace h := h.1 hc1
          refine wp_skip ?_
          refine then_normal ?_
          refine wp_seq ?_
          refine wp_block ?_
          refine wp_region_lit ?_
          refine st_val (Sl.v (Sl.cut x1 0 hi (Sl.c x1) 1)) (wn rfl) rfl (by simp only [f0, f1, f2]; rfl) ?_
          refine st_val (.int .i64 k) (wn rfl) rfl (by simp only [f0, f1, f2]; rfl) ?_
          refine st_val (.int .i64 i) (wn rfl) rfl (by simp only [f0, f1, f2]; rfl) ?_
          refine st_val (.int .i64 (IntKind.i64.wrap (i + 1))) (wn rfl) rfl (by simp only [f0, f1, f2]; rfl) ?_
          refine st_val (.int .u8 (IntKind.u8.wrap (IntKind.i64.wrap (i + 1)))) (wn rfl) (r_convInt (Try.runUnderlying3 _) (Try.runUnderlying5 _) rfl) (by simp only [f0, f1, f2]; rfl) ?_
          obtain ⟨ad2, hx5, h⟩ := h
          refine st_val (.pointer (some ad2)) (wn rfl) (r_indexS (s := Sl.cut x1 0 hi (Sl.c x1) 1) (Try.runUnderlying27 _) (Try.sizeOf5 _) rfl rfl hx5) (by simp only [f0, f1, f2]; rfl) ?_
          obtain ⟨bk, off, cells, ety, hx6, hx7, hx8, h⟩ := h
          refine st_one (wn rfl) ?_
          refine o_storeB (b := bk) (o := off) (vs := [.int .u8 (IntKind.u8.wrap (IntKind.i64.wrap (i + 1)))]) (Try.sizeOf5 _) (congrArg (fun z => Value.pointer (some z)) hx6) rfl rfl rfl hx7 hx8 rfl (f3 _ _) (fun w_3 hO1 hb => ?_)
          replace h := h w_3 hO1 hb
          refine wpList_nil ?_
          refine block_normal ?_
          refine then_normal ?_
          refine wp_region_lit ?_
          refine st_val (.int .i64 k) (wn rfl) rfl (by simp only [f0, f1, f2]; rfl) ?_
          refine st_val (.int .i64 (IntKind.i64.wrap (k + 1))) (wn rfl) rfl (by simp only [f0, f1, f2]; rfl) ?_
          refine st_val (.int .i64 (IntKind.i64.wrap (k + 1))) (wn rfl) rfl (by simp only [f0, f1, f2]; rfl) ?_
          refine wpList_nil ?_
          refine then_normal ?_
          obtain ⟨nv4, hl, h⟩ := h
          exact ⟨nv4, hl, _, (some_us rfl rfl rfl), h⟩
        · replace h := h.2 hc1
          refine wp_exit ?_
          refine then_exit ?_
          refine then_exit ?_
          refine block_hit ?_
          refine block_normal ?_
          refine then_normal ?_
          refine wp_region_lit ?_
          refine st_val (.int .i64 i) (wn rfl) rfl (by simp only [f0, f1, f2]; rfl) ?_
          refine st_val (.int .i64 (IntKind.i64.wrap (i + 1))) (wn rfl) rfl (by simp only [f0, f1, f2]; rfl) ?_
          refine st_val (.int .i64 (IntKind.i64.wrap (i + 1))) (wn rfl) rfl (by simp only [f0, f1, f2]; rfl) ?_
          refine wpList_nil ?_
          refine then_normal ?_
          obtain ⟨nv5, hl1, h⟩ := h
          exact ⟨nv5, hl1, _, (some_us rfl rfl rfl), h⟩
    · replace h := h.2 hc
      refine wp_exit ?_
      refine then_exit ?_
      refine then_exit ?_
      refine block_hit ?_
      refine then_normal ?_
      refine wp_seq ?_
      refine wp_seq ?_
      refine wp_region_lit ?_
      refine st_val (.int .i64 0) (wn rfl) rfl (by simp only [f0, f1, f2]; rfl) ?_
      refine wpList_nil ?_
      refine then_normal ?_
      refine wp_block ?_
      obtain ⟨I_2, nv7, h02, hI2⟩ := h
      refine wp_loop_ghost (fun nv' a' w' => ∃ i1 : Int, (∃ us2 : Nat → Value, a' = (⟨(fillin us2 0 (some (Sl.v rows) :: some undef :: none :: some (.int .i64 i) :: some ((us 4)) :: some ((us 5)) :: some (.int .i64 i1) :: none :: none :: some (.int .i64 i) :: some (Sl.v rows) :: some (.int .i64 (↑(Sl.n rows) : Int)) :: some (.bool (decide (i < (↑(Sl.n rows) : Int)))) :: some ((us 13)) :: some ((us 14)) :: some ((us 15)) :: some ((us 16)) :: some ((us 17)) :: some ((us 18)) :: some ((us 19)) :: some ((us 20)) :: some ((us 21)) :: some ((us 22)) :: some ((us 23)) :: some ((us 24)) :: some ((us 25)) :: some ((us 26)) :: some ((us 27)) :: some ((us 28)) :: some ((us 29)) :: some ((us 30)) :: some ((us 31)) :: some ((us 32)) :: some ((us 33)) :: some ((us 34)) :: some ((us 35)) :: some ((us 36)) :: none :: none :: none :: none :: none :: none :: none :: none :: none :: none :: none :: none :: none :: none :: none :: none :: none :: none :: none :: none :: none :: none :: none :: none :: none :: none :: none :: none :: none :: none :: [])).toArray, []⟩ : Act)) ∧ I_2 nv' i1 w') nv7 ?_ ?_
      · exact ⟨_, (some_us rfl rfl rfl), h02⟩
      · clear h02
        rintro nv6 a0 w_4 ⟨i1, ⟨us2, hF⟩, h⟩
        simp only [fillin, Nat.reduceAdd] at hF
        subst hF
        replace h := hI2 _ _ _ h
        refine wp_seq ?_
        refine wp_seq ?_
        refine wp_region_lit ?_
        refine st_val (.int .i64 i1) (wn rfl) rfl (by simp only [f0, f1, f2]; rfl) ?_
        refine st_val (Sl.v rows) (wn rfl) rfl (by simp only [f0, f1, f2]; rfl) ?_
        refine st_val (.int .i64 (↑(Sl.n rows) : Int)) (wn rfl) (r_len (s := rows) (Try.runUnderlying61 _) rfl) (by simp only [f0, f1, f2]; rfl) ?_
        refine st_val (.bool (decide (i1 < (↑(Sl.n rows) : Int)))) (wn rfl) rfl (by simp only [f0, f1, f2]; rfl) ?_
        refine wpList_nil ?_
        refine then_normal ?_
        refine wp_cond_split (t := (decide (i1 < (↑(Sl.n rows) : Int)))) rfl (fun hc2 => ?_) (fun hc2 => ?_)
        · replace h := h.1 hc2
          refine wp_skip ?_
          refine then_normal ?_
          refine wp_seq ?_
          refine wp_block ?_
          refine wp_seq ?_
          obtain ⟨ad3, hx9, h⟩ := h
          obtain ⟨x3, hx10, h⟩ := h
          obtain ⟨ad4, hx11, h⟩ := h
          obtain ⟨x4, hx12, h⟩ := h
          obtain ⟨hi1, hx13, h⟩ := h
          refine wp_region_quiet_lit Try.checked.mixed (by kernel_rfl) ?_
          refine q_val (Sl.v rows) (wn rfl) (by rintro _ ⟨nd, rfl⟩; exact rfl) (by simp only [f0, f1, f2]; rfl) ?_
          refine q_val (.int .i64 i1) (wn rfl) (by rintro _ ⟨nd, rfl⟩; exact rfl) (by simp only [f0, f1, f2]; rfl) ?_
          refine q_val (.pointer (some ad3)) (wn rfl) (by rintro _ ⟨nd, rfl⟩; exact (r_indexS (s := rows) (Try.runUnderlying61 _) (Try.sizeOf27 _) rfl rfl hx9)) (by simp only [f0, f1, f2]; rfl) ?_
          refine q_val (Sl.v x3) (wn rfl) (by rintro _ ⟨nd, rfl⟩; exact (r_load1 (Try.isAgg27 _) rfl (Cells.one (q_cells hx10)))) (by simp only [f0, f1, f2]; rfl) ?_
          refine q_val (Sl.v rows) (wn rfl) (by rintro _ ⟨nd, rfl⟩; exact rfl) (by simp only [f0, f1, f2]; rfl) ?_
          refine q_val (.int .i64 i1) (wn rfl) (by rintro _ ⟨nd, rfl⟩; exact rfl) (by simp only [f0, f1, f2]; rfl) ?_
          refine q_val (.pointer (some ad4)) (wn rfl) (by rintro _ ⟨nd, rfl⟩; exact (r_indexS (s := rows) (Try.runUnderlying61 _) (Try.sizeOf27 _) rfl rfl hx11)) (by simp only [f0, f1, f2]; rfl) ?_
          refine q_val (Sl.v x4) (wn rfl) (by rintro _ ⟨nd, rfl⟩; exact (r_load1 (Try.isAgg27 _) rfl (Cells.one (q_cells hx12)))) (by simp only [f0, f1, f2]; rfl) ?_
          refine q_val (.int .i64 (↑(Sl.c x4) : Int)) (wn rfl) (by rintro _ ⟨nd, rfl⟩; exact (r_cap (s := x4) (Try.runUnderlying27 _) rfl)) (by simp only [f0, f1, f2]; rfl) ?_
          refine q_val (Sl.v (Sl.cut x3 0 hi1 (Sl.c x3) 1)) (wn rfl) (by rintro _ ⟨nd, rfl⟩; exact (r_slice010 (s := x3) (Try.runUnderlying27 _) (Try.sizeOf5 _) rfl (congrArg (Value.int _) (hx13.1)) (by first | exact hx13.2.1 | omega) (by first | exact hx13.2.2.1 | omega) (by first | exact hx13.2.2.2 | omega))) (by simp only [f0, f1, f2]; rfl) ?_
          refine q_val (Sl.v (Sl.cut x3 0 hi1 (Sl.c x3) 1)) (wn rfl) (by rintro _ ⟨nd, rfl⟩; exact rfl) (by simp only [f0, f1, f2]; rfl) ?_
          refine wpQuiet_nil ?_
          rintro _ ⟨nd, rfl⟩
          have hO2 := Only.drewN w_4 nd
          generalize w_4.drewN nd = w_5 at *
          have hA1 : Only [] w_4 w_5 := hO2
          refine then_normal ?_
          refine wp_seq ?_
          refine wp_region_lit ?_
          refine st_val (.int .i64 0) (wn rfl) rfl (by simp only [f0, f1, f2]; rfl) ?_
          refine wpList_nil ?_
          refine then_normal ?_
          refine wp_block ?_
          replace h := h w_5 hA1
          obtain ⟨I_3, nv9, h03, hI3⟩ := h
          refine wp_loop_ghost (fun nv' a' w' => ∃ k1 : Int, (∃ us3 : Nat → Value, a' = (⟨(fillin us3 0 (some (Sl.v rows) :: some undef :: none :: some (.int .i64 i) :: some ((us 4)) :: some ((us 5)) :: some (.int .i64 i1) :: some (Sl.v (Sl.cut x3 0 hi1 (Sl.c x3) 1)) :: some (.int .i64 k1) :: some (.int .i64 i) :: some (Sl.v rows) :: some (.int .i64 (↑(Sl.n rows) : Int)) :: some (.bool (decide (i < (↑(Sl.n rows) : Int)))) :: some ((us 13)) :: some ((us 14)) :: some ((us 15)) :: some ((us 16)) :: some ((us 17)) :: some ((us 18)) :: some ((us 19)) :: some ((us 20)) :: some ((us 21)) :: some ((us 22)) :: some ((us 23)) :: some ((us 24)) :: some ((us 25)) :: some ((us 26)) :: some ((us 27)) :: some ((us 28)) :: some ((us 29)) :: some ((us 30)) :: some ((us 31)) :: some ((us 32)) :: some ((us 33)) :: some ((us 34)) :: some ((us 35)) :: some ((us 36)) :: some (.int .i64 i1) :: some (Sl.v rows) :: some (.int .i64 (↑(Sl.n rows) : Int)) :: some (.bool (decide (i1 < (↑(Sl.n rows) : Int)))) :: some ((us2 41)) :: some ((us2 42)) :: some (Sl.v rows) :: some (.int .i64 i1) :: some (.pointer (some ad3)) :: some (Sl.v x3) :: some (Sl.v rows) :: some (.int .i64 i1) :: some (.pointer (some ad4)) :: some (Sl.v x4) :: some (.int .i64 (↑(Sl.c x4) : Int)) :: some (Sl.v (Sl.cut x3 0 hi1 (Sl.c x3) 1)) :: none :: none :: none :: none :: none :: none :: none :: none :: none :: none :: none :: none :: none :: none :: [])).toArray, []⟩ : Act)) ∧ I_3 nv' k1 w') nv9 ?_ ?_
          · exact ⟨_, (some_us rfl rfl rfl), h03⟩
          · clear h03
            rintro nv8 a0 w_6 ⟨k1, ⟨us3, hF⟩, h⟩
            simp only [fillin, Nat.reduceAdd] at hF
            subst hF
            replace h := hI3 _ _ _ h
            refine wp_seq ?_
            refine wp_seq ?_
            refine wp_region_lit ?_
            refine st_val (.int .i64 k1) (wn rfl) rfl (by simp only [f0, f1, f2]; rfl) ?_
            refine st_val (Sl.v (Sl.cut x3 0 hi1 (Sl.c x3) 1)) (wn rfl) rfl (by simp only [f0, f1, f2]; rfl) ?_
            refine st_val (.int .i64 (↑(Sl.n (Sl.cut x3 0 hi1 (Sl.c x3) 1)) : Int)) (wn rfl) (r_len (s := Sl.cut x3 0 hi1 (Sl.c x3) 1) (Try.runUnderlying27 _) rfl) (by simp only [f0, f1, f2]; rfl) ?_
            refine st_val (.bool (decide (k1 < (↑(Sl.n (Sl.cut x3 0 hi1 (Sl.c x3) 1)) : Int)))) (wn rfl) rfl (by simp only [f0, f1, f2]; rfl) ?_
            refine wpList_nil ?_
            refine then_normal ?_
            refine wp_cond_split (t := (decide (k1 < (↑(Sl.n (Sl.cut x3 0 hi1 (Sl.c x3) 1)) : Int)))) rfl (fun hc3 => ?_) (fun hc3 => ?_)
            · replace h := h.1 hc3
              refine wp_skip ?_
              refine then_normal ?_
              refine wp_seq ?_
              refine wp_block ?_
              refine wp_seq ?_
              refine wp_region_lit ?_
              refine st_val (Sl.v (Sl.cut x3 0 hi1 (Sl.c x3) 1)) (wn rfl) rfl (by simp only [f0, f1, f2]; rfl) ?_
              refine st_val (.int .i64 k1) (wn rfl) rfl (by simp only [f0, f1, f2]; rfl) ?_
              obtain ⟨ad5, hx14, h⟩ := h
              refine st_val (.pointer (some ad5)) (wn rfl) (r_indexS (s := Sl.cut x3 0 hi1 (Sl.c x3) 1) (Try.runUnderlying27 _) (Try.sizeOf5 _) rfl rfl hx14) (by simp only [f0, f1, f2]; rfl) ?_
              obtain ⟨x5, hx15, h⟩ := h
              refine st_val (.int .u8 x5) (wn rfl) (r_load1 (Try.isAgg5 _) rfl (Cells.one hx15)) (by simp only [f0, f1, f2]; rfl) ?_
              refine st_val (.int .i64 i1) (wn rfl) rfl (by simp only [f0, f1, f2]; rfl) ?_
              refine st_val (.int .i64 (IntKind.i64.wrap (i1 + 1))) (wn rfl) rfl (by simp only [f0, f1, f2]; rfl) ?_
              refine st_val (.int .u8 (IntKind.u8.wrap (IntKind.i64.wrap (i1 + 1)))) (wn rfl) (r_convInt (Try.runUnderlying3 _) (Try.runUnderlying5 _) rfl) (by simp only [f0, f1, f2]; rfl) ?_
              refine st_val (.bool (x5 != (IntKind.u8.wrap (IntKind.i64.wrap (i1 + 1))))) (wn rfl) rfl (by simp only [f0, f1, f2]; rfl) ?_
              refine wpList_nil ?_
              refine then_normal ?_
              refine wp_cond_split (t := (x5 != (IntKind.u8.wrap (IntKind.i64.wrap (i1 + 1))))) rfl (fun hc4 => ?_) (fun hc4 => ?_)
              · replace h := h.1 hc4
                refine wp_seq ?_
                refine wp_region_lit ?_
                refine st_val (.bool false) (wn rfl) rfl (by simp only [f0, f1, f2]; rfl) ?_
                refine wpList_nil ?_
                refine then_normal ?_
                refine wp_ret ?_
                refine block_ret ?_
                refine then_ret ?_
                refine then_ret ?_
                refine block_ret ?_
                refine block_ret ?_
                refine then_ret ?_
                refine then_ret ?_
                refine block_ret ?_
                refine then_ret ?_
                exact end_ret (r_res1 (v := .bool false) Try.results22 ⟨rfl, trivial⟩) rfl h
              · replace h := h.2 hc4
                refine wp_skip ?_
                refine block_normal ?_
                refine then_normal ?_
                refine wp_region_lit ?_
                refine st_val (.int .i64 k1) (wn rfl) rfl (by simp only [f0, f1, f2]; rfl) ?_
                refine st_val (.int .i64 (IntKind.i64.wrap (k1 + 1))) (wn rfl) rfl (by simp only [f0, f1, f2]; rfl) ?_
                refine st_val (.int .i64 (IntKind.i64.wrap (k1 + 1))) (wn rfl) rfl (by simp only [f0, f1, f2]; rfl) ?_
                refine wpList_nil ?_
                refine then_normal ?_
                obtain ⟨nv10, hl2, h⟩ := h
                exact ⟨nv10, hl2, _, (some_us rfl rfl rfl), h⟩
            · replace h := h.2 hc3
              refine wp_exit ?_
              refine then_exit ?_
              refine then_exit ?_
              refine block_hit ?_
              refine block_normal ?_
              refine then_normal ?_
              refine wp_region_lit ?_
              refine st_val (.int .i64 i1) (wn rfl) rfl (by simp only [f0, f1, f2]; rfl) ?_
              refine st_val (.int .i64 (IntKind.i64.wrap (i1 + 1))) (wn rfl) rfl (by simp only [f0, f1, f2]; rfl) ?_
              refine st_val (.int .i64 (IntKind.i64.wrap (i1 + 1))) (wn rfl) rfl (by simp only [f0, f1, f2]; rfl) ?_
              refine wpList_nil ?_
              refine then_normal ?_
              obtain ⟨nv11, hl3, h⟩ := h
              exact ⟨nv11, hl3, _, (some_us rfl rfl rfl), h⟩
        · replace h := h.2 hc2
          refine wp_exit ?_
          refine then_exit ?_
          refine then_exit ?_
          refine block_hit ?_
          refine then_normal ?_
          refine wp_seq ?_
          refine wp_region_lit ?_
          refine st_val (.bool true) (wn rfl) rfl (by simp only [f0, f1, f2]; rfl) ?_
          refine wpList_nil ?_
          refine then_normal ?_
          refine wp_ret ?_
          exact end_ret (r_res1 (v := .bool true) Try.results22 ⟨rfl, trivial⟩) rfl h

/-- what is to be shown of a call of (*pavaneref19.Book).Open -/
def pavaneref19_Book_Open_vc (b : Addr) (now : Int) (R : Value → World → Prop) (w : World) : Prop :=
  ((((decide (now < 0)) || (decide (now > 1099511627776))) = true →
  R (.tuple #[.int .i64 0, .int .i64 1]) w) ∧
  (((decide (now < 0)) || (decide (now > 1099511627776))) = false →
  ∃ x1 : Sl, Cells w (Addr.add b 0) [Sl.v x1] ∧
  ∃ x2 : Int, ((decide ((↑(Sl.n x1) : Int) ≥ 8)) = false → Cells w (Addr.add b 1) [.int .i64 x2]) ∧
  ((((decide ((↑(Sl.n x1) : Int) ≥ 8)) || (x2 == 9223372036854775807)) = true →
  R (.tuple #[.int .i64 0, .int .i64 40]) w) ∧
  (((decide ((↑(Sl.n x1) : Int) ≥ 8)) || (x2 == 9223372036854775807)) = false →
  ∃ x3 : Sl, Cells w (Addr.add b 0) [Sl.v x3] ∧
  ∃ x4 : Int, Cells w (Addr.add b 1) [.int .i64 x4] ∧
  ∀ (w_ : World), Only [] w w_ →
  ∃ x5 : Sl, ∃ w_1 : World, (Instr.buildSlice 42 1 #[(0, .agg #[.int .i64 x4, .int .i64 0, Sl.v Sl.nil, .int .i64 (IntKind.i64.wrap (now + 50))])]).run Try.prog w_ = .ok (Sl.v x5) w_1 ∧ Same [(Addr.add b 0).block] w_ w_1 ∧
  ∃ x6 : Sl, ∃ w_2 : World, (Builtin.append_ #[42, 42] 42 #[Sl.v x3, Sl.v x5]).run Try.prog w_1 = .ok (Sl.v x6) w_2 ∧
  ∃ (bk off : Nat) (cells : List Value) (ety : TypeId), Addr.add b 0 = (⟨bk, off, none⟩ : Addr) ∧ Blk w_2 bk ety cells ∧ off + 1 ≤ cells.length ∧ ∀ w_3 : World, Only [bk] w_2 w_3 → Blk w_3 bk ety (splice cells off [Sl.v x6]) →
  ∃ x7 : Int, Cells w_3 (Addr.add b 1) [.int .i64 x7] ∧
  ∃ (bk1 off1 : Nat) (cells1 : List Value) (ety1 : TypeId), Addr.add b 1 = (⟨bk1, off1, none⟩ : Addr) ∧ Blk w_3 bk1 ety1 cells1 ∧ off1 + 1 ≤ cells1.length ∧ ∀ w_4 : World, Only [bk1] w_3 w_4 → Blk w_4 bk1 ety1 (splice cells1 off1 [.int .i64 (IntKind.i64.wrap (x7 + 1))]) →
  ∃ x8 : Int, Cells w_4 (Addr.add b 1) [.int .i64 x8] ∧
  R (.tuple #[.int .i64 (IntKind.i64.wrap (x8 - 1)), .int .i64 0]) w_4))))
theorem pavaneref19_Book_Open_wp (b : Addr) (now : Int) (R : Value → World → Prop) (w : World) (h : pavaneref19_Book_Open_vc b now R w) :
    Calls Try.prog 34 #[.pointer (some b), .int .i64 now] w fun e w' => ∃ v, e = .returned v ∧ R v w' := by
  unfold pavaneref19_Book_Open_vc at h
  refine calls_of (k := 51) Try.func34 rfl Try.ntmps34 rfl rfl ?_
  simp only [List.replicate, List.cons_append, List.nil_append]
  refine wp_seq ?_
  refine wp_region_lit ?_
  refine st_val (.int .i64 0) (wn rfl) rfl (by simp only [f0, f1, f2]; rfl) ?_
  refine st_val (.int .i64 0) (wn rfl) rfl (by simp only [f0, f1, f2]; rfl) ?_
  refine wpList_nil ?_
  refine then_normal ?_
  refine wp_seq ?_
  refine wp_seq ?_
  refine wp_region_lit ?_
  refine st_val (.int .i64 now) (wn rfl) rfl (by simp only [f0, f1, f2]; rfl) ?_
  refine st_val (.bool (decide (now < 0))) (wn rfl) rfl (by simp only [f0, f1, f2]; rfl) ?_
  refine st_val (.bool (decide (now < 0))) (wn rfl) rfl (by simp only [f0, f1, f2]; rfl) ?_
  refine st_cut 3 (fun a' w' => (∃ us : Nat → Value, a' = (⟨(fillin us 0 (some (.pointer (some b)) :: some (.int .i64 now) :: some undef :: some undef :: some (.int .i64 0) :: some (.int .i64 0) :: some (.int .i64 now) :: some (.bool (decide (now < 0))) :: some (.bool (decide (now < 0))) :: none :: none :: some (.bool ((decide (now < 0)) || (decide (now > 1099511627776)))) :: some undef :: some undef :: some undef :: some undef :: some undef :: some undef :: some undef :: some undef :: some undef :: some undef :: some undef :: some undef :: some undef :: some undef :: some undef :: some undef :: some undef :: some undef :: some undef :: some undef :: some undef :: some undef :: some undef :: some undef :: some undef :: some undef :: some undef :: some undef :: some undef :: some undef :: some undef :: some undef :: some undef :: some undef :: some undef :: some undef :: some undef :: some undef :: some undef :: some undef :: some undef :: [])).toArray, []⟩ : Act)) ∧ w = w') ?_ ?_
  · simp only [List.take_succ_cons, List.take_zero]
    rcases Bool.eq_false_or_eq_true (decide (now < 0)) with hg | hg
    · refine st_no (wt rfl rfl rfl (congrArg (fun z => some (Value.bool z)) hg) rfl) (by simp only [f0, f1, f2]; rfl) ?_
      refine st_no (wt rfl rfl rfl (congrArg (fun z => some (Value.bool z)) hg) rfl) (by simp only [f0, f1, f2]; rfl) ?_
      refine st_val (.bool true) (wn rfl) (r_pickT (congrArg Value.bool hg) rfl) (by simp only [f0, f1, f2]; rfl) ?_
      refine wpList_nil ?_
      exact then_normal ⟨some_us (by simp only [masked, hg, Bool.true_and, Bool.false_and, Bool.true_or, Bool.false_or, cond_true, cond_false]) rfl rfl, rfl⟩
    · refine st_val (.int .i64 now) (wt rfl rfl rfl (congrArg (fun z => some (Value.bool z)) hg) rfl) rfl (by simp only [f0, f1, f2]; rfl) ?_
      refine st_val (.bool (decide (now > 1099511627776))) (wt rfl rfl rfl (congrArg (fun z => some (Value.bool z)) hg) rfl) rfl (by simp only [f0, f1, f2]; rfl) ?_
      refine st_val (.bool (decide (now > 1099511627776))) (wn rfl) (r_pickF (congrArg Value.bool hg) rfl) (by simp only [f0, f1, f2]; rfl) ?_
      refine wpList_nil ?_
      exact then_normal ⟨some_us (by simp only [masked, hg, Bool.true_and, Bool.false_and, Bool.true_or, Bool.false_or, cond_true, cond_false]) rfl rfl, rfl⟩
  rintro a0 _ ⟨⟨us, hF⟩, rfl⟩
  simp only [fillin, Nat.reduceAdd] at hF
  subst hF
  simp only [List.drop_succ_cons, List.drop_zero]
  refine wpList_nil ?_
  refine then_normal ?_
  refine wp_cond_split (t := ((decide (now < 0)) || (decide (now > 1099511627776)))) rfl (fun hc => ?_) (fun hc => ?_)
  · replace h := h.1 hc
    refine wp_seq ?_
    refine wp_region_lit ?_
    refine st_val (.int .i64 0) (wn rfl) rfl (by simp only [f0, f1, f2]; rfl) ?_
    refine st_val (.int .i64 1) (wn rfl) rfl (by simp only [f0, f1, f2]; rfl) ?_
    refine wpList_nil ?_
    refine then_normal ?_
    refine wp_ret ?_
    refine then_ret ?_
    exact end_ret (r_resN (vs := [.int .i64 0, .int .i64 1]) Try.results34 rfl ⟨rfl, rfl, trivial⟩) rfl h
  · replace h := h.2 hc
    refine wp_skip ?_
    refine then_normal ?_
    refine wp_seq ?_
    refine wp_seq ?_
    obtain ⟨x1, hx, h⟩ := h
    obtain ⟨x2, hx1, h⟩ := h
    refine wp_region_lit ?_
    refine st_val (.pointer (some b)) (wn rfl) rfl (by simp only [f0, f1, f2]; rfl) ?_
    refine st_val (.pointer (some b)) (wn rfl) rfl (by simp only [f0, f1, f2]; rfl) ?_
    refine st_val (.pointer (some (Addr.add b 0))) (wn rfl) (r_field (Try.runUnderlying64 _) rfl (Try.sizeOf42 _) rfl rfl) (by simp only [f0, f1, f2]; rfl) ?_
    refine st_val (Sl.v x1) (wn rfl) (r_load1 (Try.isAgg42 _) rfl (Cells.one hx)) (by simp only [f0, f1, f2]; rfl) ?_
    refine st_val (.int .i64 (↑(Sl.n x1) : Int)) (wn rfl) (r_len (s := x1) (Try.runUnderlying42 _) rfl) (by simp only [f0, f1, f2]; rfl) ?_
    refine st_val (.bool (decide ((↑(Sl.n x1) : Int) ≥ 8))) (wn rfl) rfl (by simp only [f0, f1, f2]; rfl) ?_
    refine st_val (.bool (decide ((↑(Sl.n x1) : Int) ≥ 8))) (wn rfl) rfl (by simp only [f0, f1, f2]; rfl) ?_
    refine st_cut 6 (fun a' w' => (∃ us1 : Nat → Value, a' = (⟨(fillin us1 0 (some (.pointer (some b)) :: some (.int .i64 now) :: some undef :: some undef :: some (.int .i64 0) :: some (.int .i64 0) :: some (.int .i64 now) :: some (.bool (decide (now < 0))) :: some (.bool (decide (now < 0))) :: some ((us 9)) :: some ((us 10)) :: some (.bool ((decide (now < 0)) || (decide (now > 1099511627776)))) :: some (.pointer (some b)) :: some (.pointer (some b)) :: some (.pointer (some (Addr.add b 0))) :: some (Sl.v x1) :: some (.int .i64 (↑(Sl.n x1) : Int)) :: some (.bool (decide ((↑(Sl.n x1) : Int) ≥ 8))) :: some (.bool (decide ((↑(Sl.n x1) : Int) ≥ 8))) :: none :: none :: none :: none :: none :: some (.bool ((decide ((↑(Sl.n x1) : Int) ≥ 8)) || (x2 == 9223372036854775807))) :: some undef :: some undef :: some undef :: some undef :: some undef :: some undef :: some undef :: some undef :: some undef :: some undef :: some undef :: some undef :: some undef :: some undef :: some undef :: some undef :: some undef :: some undef :: some undef :: some undef :: some undef :: some undef :: some undef :: some undef :: some undef :: some undef :: some undef :: some undef :: [])).toArray, []⟩ : Act)) ∧ w = w') ?_ ?_
    · simp only [List.take_succ_cons, List.take_zero]
      rcases Bool.eq_false_or_eq_true (decide ((↑(Sl.n x1) : Int) ≥ 8)) with hg1 | hg1
      · refine st_no (wt rfl rfl rfl (congrArg (fun z => some (Value.bool z)) hg1) rfl) (by simp only [f0, f1, f2]; rfl) ?_
        refine st_no (wt rfl rfl rfl (congrArg (fun z => some (Value.bool z)) hg1) rfl) (by simp only [f0, f1, f2]; rfl) ?_
        refine st_no (wt rfl rfl rfl (congrArg (fun z => some (Value.bool z)) hg1) rfl) (by simp only [f0, f1, f2]; rfl) ?_
        refine st_no (wt rfl rfl rfl (congrArg (fun z => some (Value.bool z)) hg1) rfl) (by simp only [f0, f1, f2]; rfl) ?_
        refine st_no (wt rfl rfl rfl (congrArg (fun z => some (Value.bool z)) hg1) rfl) (by simp only [f0, f1, f2]; rfl) ?_
        refine st_val (.bool true) (wn rfl) (r_pickT (congrArg Value.bool hg1) rfl) (by simp only [f0, f1, f2]; rfl) ?_
        refine wpList_nil ?_
        exact then_normal ⟨some_us (by simp only [masked, hg1, Bool.true_and, Bool.false_and, Bool.true_or, Bool.false_or, cond_true, cond_false]) rfl rfl, rfl⟩
      · refine st_val (.pointer (some b)) (wt rfl rfl rfl (congrArg (fun z => some (Value.bool z)) hg1) rfl) rfl (by simp only [f0, f1, f2]; rfl) ?_
        refine st_val (.pointer (some b)) (wt rfl rfl rfl (congrArg (fun z => some (Value.bool z)) hg1) rfl) rfl (by simp only [f0, f1, f2]; rfl) ?_
        refine st_val (.pointer (some (Addr.add b 1))) (wt rfl rfl rfl (congrArg (fun z => some (Value.bool z)) hg1) rfl) (r_field (Try.runUnderlying64 _) rfl (Try.sizeOf3 _) rfl rfl) (by simp only [f0, f1, f2]; rfl) ?_
        refine st_val (.int .i64 x2) (wt rfl rfl rfl (congrArg (fun z => some (Value.bool z)) hg1) rfl) (r_load1 (Try.isAgg3 _) rfl (Cells.one (hx1 hg1))) (by simp only [f0, f1, f2]; rfl) ?_
        refine st_val (.bool (x2 == 9223372036854775807)) (wt rfl rfl rfl (congrArg (fun z => some (Value.bool z)) hg1) rfl) rfl (by simp only [f0, f1, f2]; rfl) ?_
        refine st_val (.bool (x2 == 9223372036854775807)) (wn rfl) (r_pickF (congrArg Value.bool hg1) rfl) (by simp only [f0, f1, f2]; rfl) ?_
        refine wpList_nil ?_
        exact then_normal ⟨some_us (by simp only [masked, hg1, Bool.true_and, Bool.false_and, Bool.true_or, Bool.false_or, cond_true, cond_false]) rfl rfl, rfl⟩
    rintro a0 _ ⟨⟨us1, hF⟩, rfl⟩
    simp only [fillin, Nat.reduceAdd] at hF
    subst hF
    simp only [List.drop_succ_cons, List.drop_zero]
    refine wpList_nil ?_
    refine then_normal ?_
    refine wp_cond_split (t := ((decide ((↑(Sl.n x1) : Int) ≥ 8)) || (x2 == 9223372036854775807))) rfl (fun hc1 => ?_) (fun hc1 => ?_)
    · replace h := h.1 hc1
      refine wp_seq ?_
      refine wp_region_lit ?_
      refine st_val (.int .i64 0) (wn rfl) rfl (by simp only [f0, f1, f2]; rfl) ?_
      refine st_val (.int .i64 40) (wn rfl) rfl (by simp only [f0, f1, f2]; rfl) ?_
      refine wpList_nil ?_
      refine then_normal ?_
      refine wp_ret ?_
      refine then_ret ?_
      exact end_ret (r_resN (vs := [.int .i64 0, .int .i64 40]) Try.results34 rfl ⟨rfl, rfl, trivial⟩) rfl h
    · replace h := h.2 hc1
      refine wp_skip ?_
      refine then_normal ?_
      refine wp_seq ?_
      obtain ⟨x3, hx2, h⟩ := h
      obtain ⟨x4, hx3, h⟩ := h
      refine e_region (EL [(12, [(Addr.add b 0).block]), (13, []), (16, [])]) Try.checked.mixed ?_
      have hO := Only.drew w
      have hx4 : Cells w.drew _ _ := hx2
      have hx5 : Cells w.drew _ _ := hx3
      generalize w.drew = w_ at *
      have hA : Only [] w w_ := hO
      refine e_take 0 [14, 15, 16] [] (.pointer (some b)) (fun _ => True) rfl (by kernel_rfl) (by kernel_rfl) (by kernel_rfl) (by kernel_rfl) (by kernel_rfl) (by kernel_rfl) (fun _ _ _ h => h) el_true (fun w _ => el_quiet rfl w) trivial (y_val (wn rfl) (fun w' hw' => rfl)) (by simp only [f0, f1, f2]; rfl) ?_
      refine e_take 1 [2, 3, 4, 13, 14, 15, 16] [0] (.pointer (some b)) (fun _ => True) rfl (by kernel_rfl) (by kernel_rfl) (by kernel_rfl) (by kernel_rfl) (by kernel_rfl) (by kernel_rfl) (fun _ _ _ h => h) el_true (fun w _ => el_quiet rfl w) trivial (y_val (wn rfl) (fun w' hw' => rfl)) (by simp only [f0, f1, f2]; rfl) ?_
      refine e_take 2 [3, 4, 13, 14, 15, 16] [0, 1] (.pointer (some b)) (fun _ => True) rfl (by kernel_rfl) (by kernel_rfl) (by kernel_rfl) (by kernel_rfl) (by kernel_rfl) (by kernel_rfl) (fun _ _ _ h => h) el_true (fun w _ => el_quiet rfl w) trivial (y_val (wn rfl) (fun w' hw' => rfl)) (by simp only [f0, f1, f2]; rfl) ?_
      refine e_take 3 [4, 13, 14, 15, 16] [0, 1, 2] (.pointer (some (Addr.add b 0))) (fun _ => True) rfl (by kernel_rfl) (by kernel_rfl) (by kernel_rfl) (by kernel_rfl) (by kernel_rfl) (by kernel_rfl) (fun _ _ _ h => h) el_true (fun w _ => el_quiet rfl w) trivial (y_val (wn rfl) (fun w' hw' => (r_field (Try.runUnderlying64 _) rfl (Try.sizeOf42 _) rfl rfl))) (by simp only [f0, f1, f2]; rfl) ?_
      refine e_take 4 [13, 14, 15, 16] [0, 1, 2, 3] (Sl.v x3) (fun w' => Cells w' (Addr.add b 0) [Sl.v x3]) rfl (by kernel_rfl) (by kernel_rfl) (by kernel_rfl) (by kernel_rfl) (by kernel_rfl) (by kernel_rfl) (fun _ _ _ h => h) (el_stable (b := (Addr.add b 0).block) (List.forall_mem_cons.2 ⟨.inr (.inr (.head _)), List.forall_mem_cons.2 ⟨.inl (by simp), List.forall_mem_cons.2 ⟨.inl (by simp), List.forall_mem_nil _⟩⟩⟩) keep_cells) (fun w _ => el_quiet rfl w) hx4 (y_val (wn rfl) (fun w' hw' => (r_load1 (Try.isAgg42 _) rfl (Cells.one hw')))) (by simp only [f0, f1, f2]; rfl) ?_
      refine e_take 5 [6, 7, 8, 11, 12, 13, 14, 15, 16] [0, 1, 2, 3, 4] (.pointer (some b)) (fun _ => True) rfl (by kernel_rfl) (by kernel_rfl) (by kernel_rfl) (by kernel_rfl) (by kernel_rfl) (by kernel_rfl) (fun _ _ _ h => h) el_true (fun w _ => el_quiet rfl w) trivial (y_val (wn rfl) (fun w' hw' => rfl)) (by simp only [f0, f1, f2]; rfl) ?_
      refine e_take 6 [7, 8, 11, 12, 13, 14, 15, 16] [0, 1, 2, 3, 4, 5] (.pointer (some b)) (fun _ => True) rfl (by kernel_rfl) (by kernel_rfl) (by kernel_rfl) (by kernel_rfl) (by kernel_rfl) (by kernel_rfl) (fun _ _ _ h => h) el_true (fun w _ => el_quiet rfl w) trivial (y_val (wn rfl) (fun w' hw' => rfl)) (by simp only [f0, f1, f2]; rfl) ?_
      refine e_take 7 [8, 11, 12, 13, 14, 15, 16] [0, 1, 2, 3, 4, 5, 6] (.pointer (some (Addr.add b 1))) (fun _ => True) rfl (by kernel_rfl) (by kernel_rfl) (by kernel_rfl) (by kernel_rfl) (by kernel_rfl) (by kernel_rfl) (fun _ _ _ h => h) el_true (fun w _ => el_quiet rfl w) trivial (y_val (wn rfl) (fun w' hw' => (r_field (Try.runUnderlying64 _) rfl (Try.sizeOf3 _) rfl rfl))) (by simp only [f0, f1, f2]; rfl) ?_
      refine e_take 8 [11, 12, 13, 14, 15, 16] [0, 1, 2, 3, 4, 5, 6, 7] (.int .i64 x4) (fun w' => Cells w' (Addr.add b 1) [.int .i64 x4]) rfl (by kernel_rfl) (by kernel_rfl) (by kernel_rfl) (by kernel_rfl) (by kernel_rfl) (by kernel_rfl) (fun _ _ _ h => h) (el_stable (b := (Addr.add b 1).block) (List.forall_mem_cons.2 ⟨.inl (by simp), List.forall_mem_cons.2 ⟨.inl (by simp), List.forall_mem_cons.2 ⟨.inl (by simp), List.forall_mem_nil _⟩⟩⟩) keep_cells) (fun w _ => el_quiet rfl w) hx5 (y_val (wn rfl) (fun w' hw' => (r_load1 (Try.isAgg3 _) rfl (Cells.one hw')))) (by simp only [f0, f1, f2]; rfl) ?_
      refine e_take 9 [10, 11, 12, 13, 14, 15, 16] [0, 1, 2, 3, 4, 5, 6, 7, 8] (.int .i64 now) (fun _ => True) rfl (by kernel_rfl) (by kernel_rfl) (by kernel_rfl) (by kernel_rfl) (by kernel_rfl) (by kernel_rfl) (fun _ _ _ h => h) el_true (fun w _ => el_quiet rfl w) trivial (y_val (wn rfl) (fun w' hw' => rfl)) (by simp only [f0, f1, f2]; rfl) ?_
      refine e_take 10 [11, 12, 13, 14, 15, 16] [0, 1, 2, 3, 4, 5, 6, 7, 8, 9] (.int .i64 (IntKind.i64.wrap (now + 50))) (fun _ => True) rfl (by kernel_rfl) (by kernel_rfl) (by kernel_rfl) (by kernel_rfl) (by kernel_rfl) (by kernel_rfl) (fun _ _ _ h => h) el_true (fun w _ => el_quiet rfl w) trivial (y_val (wn rfl) (fun w' hw' => rfl)) (by simp only [f0, f1, f2]; rfl) ?_
      refine e_take 11 [12, 13, 14, 15, 16] [0, 1, 2, 3, 4, 5, 6, 7, 8, 9, 10] (.agg #[.int .i64 x4, .int .i64 0, Sl.v Sl.nil, .int .i64 (IntKind.i64.wrap (now + 50))]) (fun _ => True) rfl (by kernel_rfl) (by kernel_rfl) (by kernel_rfl) (by kernel_rfl) (by kernel_rfl) (by kernel_rfl) (fun _ _ _ h => h) el_true (fun w _ => el_quiet rfl w) trivial (y_val (wn rfl) (fun w' hw' => (r_build (ps' := [(0, .int .i64 x4), (3, .int .i64 (IntKind.i64.wrap (now + 50)))]) rfl (by kernel_rfl)))) (by simp only [f0, f1, f2]; rfl) ?_
      replace h := h w_ hA
      obtain ⟨x5, w_1, hr, hs, h⟩ := h
      refine e_one 12 rfl (by kernel_rfl) (wn rfl) ?_
      refine o_val (Sl.v x5) (r_buildSlice rfl hr) (by simp only [f0, f1, f2]; rfl) ?_
      have hx6 := keep_cells _ _ (hs _ (.head _)) hx4
      refine ⟨el_loud rfl hs, ?_⟩
      obtain ⟨x6, w_2, hr1, h⟩ := h
      refine e_one 13 rfl (by kernel_rfl) (wn rfl) ?_
      refine o_val (Sl.v x6) (r_builtin_append rfl hr1) (by simp only [f0, f1, f2]; rfl) ?_
      refine ⟨el_loud rfl same_nil, ?_⟩
      refine e_take 14 [15, 16] [0, 1, 2, 3, 4, 5, 6, 7, 8, 9, 10, 11, 12, 13] (.pointer (some b)) (fun _ => True) rfl (by kernel_rfl) (by kernel_rfl) (by kernel_rfl) (by kernel_rfl) (by kernel_rfl) (by kernel_rfl) (fun _ _ _ h => h) el_true (fun w _ => el_quiet rfl w) trivial (y_val (wn rfl) (fun w' hw' => rfl)) (by simp only [f0, f1, f2]; rfl) ?_
      refine e_take 15 [16] [0, 1, 2, 3, 4, 5, 6, 7, 8, 9, 10, 11, 12, 13, 14] (.pointer (some (Addr.add b 0))) (fun _ => True) rfl (by kernel_rfl) (by kernel_rfl) (by kernel_rfl) (by kernel_rfl) (by kernel_rfl) (by kernel_rfl) (fun _ _ _ h => h) el_true (fun w _ => el_quiet rfl w) trivial (y_val (wn rfl) (fun w' hw' => (r_field (Try.runUnderlying64 _) rfl (Try.sizeOf42 _) rfl rfl))) (by simp only [f0, f1, f2]; rfl) ?_
      obtain ⟨bk, off, cells, ety, hx7, hx8, hx9, h⟩ := h
      refine e_one 16 rfl (by kernel_rfl) (wn rfl) ?_
      refine o_storeB (b := bk) (o := off) (vs := [Sl.v x6]) (Try.sizeOf42 _) (congrArg (fun z => Value.pointer (some z)) hx7) rfl rfl rfl hx8 hx9 rfl (f3 _ _) (fun w_3 hO1 hb => ?_)
      replace h := h w_3 hO1 hb
      have hS : Same [] w_2 w_3 := same_nil
      refine ⟨el_loud rfl hS, ?_⟩
      refine e_done (by kernel_rfl) ?_
      refine then_normal ?_
      refine wp_seq ?_
      refine wp_region_lit ?_
      refine st_val (.pointer (some b)) (wn rfl) rfl (by simp only [f0, f1, f2]; rfl) ?_
      refine st_val (.pointer (some b)) (wn rfl) rfl (by simp only [f0, f1, f2]; rfl) ?_
      refine st_val (.pointer (some (Addr.add b 1))) (wn rfl) (r_field (Try.runUnderlying64 _) rfl (Try.sizeOf3 _) rfl rfl) (by simp only [f0, f1, f2]; rfl) ?_
      obtain ⟨x7, hx10, h⟩ := h
      refine st_val (.int .i64 x7) (wn rfl) (r_load1 (Try.isAgg3 _) rfl (Cells.one hx10)) (by simp only [f0, f1, f2]; rfl) ?_
      refine st_val (.int .i64 (IntKind.i64.wrap (x7 + 1))) (wn rfl) rfl (by simp only [f0, f1, f2]; rfl) ?_
      refine st_val (.pointer (some b)) (wn rfl) rfl (by simp only [f0, f1, f2]; rfl) ?_
      refine st_val (.pointer (some (Addr.add b 1))) (wn rfl) (r_field (Try.runUnderlying64 _) rfl (Try.sizeOf3 _) rfl rfl) (by simp only [f0, f1, f2]; rfl) ?_
      obtain ⟨bk1, off1, cells1, ety1, hx11, hx12, hx13, h⟩ := h
      refine st_one (wn rfl) ?_
      refine o_storeB (b := bk1) (o := off1) (vs := [.int .i64 (IntKind.i64.wrap (x7 + 1))]) (Try.sizeOf3 _) (congrArg (fun z => Value.pointer (some z)) hx11) rfl rfl rfl hx12 hx13 rfl (f3 _ _) (fun w_4 hO2 hb1 => ?_)
      replace h := h w_4 hO2 hb1
      refine wpList_nil ?_
      refine then_normal ?_
      refine wp_seq ?_
      refine wp_region_lit ?_
      refine st_val (.pointer (some b)) (wn rfl) rfl (by simp only [f0, f1, f2]; rfl) ?_
      refine st_val (.pointer (some b)) (wn rfl) rfl (by simp only [f0, f1, f2]; rfl) ?_
      refine st_val (.pointer (some (Addr.add b 1))) (wn rfl) (r_field (Try.runUnderlying64 _) rfl (Try.sizeOf3 _) rfl rfl) (by simp only [f0, f1, f2]; rfl) ?_
      obtain ⟨x8, hx14, h⟩ := h
      refine st_val (.int .i64 x8) (wn rfl) (r_load1 (Try.isAgg3 _) rfl (Cells.one hx14)) (by simp only [f0, f1, f2]; rfl) ?_
      refine st_val (.int .i64 (IntKind.i64.wrap (x8 - 1))) (wn rfl) rfl (by simp only [f0, f1, f2]; rfl) ?_
      refine st_val (.int .i64 (IntKind.i64.wrap (x8 - 1))) (wn rfl) rfl (by simp only [f0, f1, f2]; rfl) ?_
      refine st_val (.int .i64 0) (wn rfl) rfl (by simp only [f0, f1, f2]; rfl) ?_
      refine wpList_nil ?_
      refine then_normal ?_
      refine wp_ret ?_
      exact end_ret (r_resN (vs := [.int .i64 (IntKind.i64.wrap (x8 - 1)), .int .i64 0]) Try.results34 rfl ⟨rfl, rfl, trivial⟩) rfl h

/-- what is to be shown of a call of pavanelaw19.do -/
def pavanelaw19_do_vc (b : Option Addr) (a01 : Int) (a1 : Int) (a2 : Int) (a3 : Int) (a4 : Sl) (R : Value → World → Prop) (w : World) : Prop :=
  (((a01 == 0) = true →
  ∀ (b1 : Nat) (w_ : World), w.heap.size ≤ b1 → b1 < w_.heap.size → Only [] w w_ →
  Calls Try.prog 12 #[.pointer b, .int .i64 a3] w_ (fun e w_1 => ∃ x0 : Int, ∃ x1 : Int, e = .returned (.tuple #[.int .i64 x0, .int .i64 x1]) ∧ Same [b1] w_ w_1 ∧
  R (.tuple #[.int .i64 x0, .int .i64 x1, Sl.v Sl.nil, Sl.v Sl.nil]) w_1)) ∧
  ((a01 == 0) = false →
  (((a01 == 1) = true →
  ∀ (b1 : Nat) (w_ : World), w.heap.size ≤ b1 → b1 < w_.heap.size → Only [] w w_ →
  Calls Try.prog 10 #[.pointer b, .int .i64 a1, .int .i64 a2] w_ (fun e w_2 => ∃ x01 : Int, ∃ x11 : Sl, e = .returned (.tuple #[.int .i64 x01, Sl.v x11]) ∧ Same [b1] w_ w_2 ∧
  R (.tuple #[.int .i64 x01, .int .i64 0, Sl.v x11, Sl.v Sl.nil]) w_2)) ∧
  ((a01 == 1) = false →
  (((a01 == 2) = true →
  ∀ (b1 : Nat) (w_ : World), w.heap.size ≤ b1 → b1 < w_.heap.size → Only [] w w_ →
  Calls Try.prog 28 #[Sl.v a4] w_ (fun e w_3 => ∃ x2 : Sl, e = .returned (Sl.v x2) ∧ Same [b1] w_ w_3 ∧
  Calls Try.prog 25 #[.pointer b, .int .i64 a1, .int .i64 a2, .int .i64 a3, Sl.v x2] w_3 (fun e w_4 => ∃ x3 : Int, e = .returned (.int .i64 x3) ∧ Same [b1] w_3 w_4 ∧
  Calls Try.prog 29 #[Sl.v x2, Sl.v a4] w_4 (fun e w_5 => ∃ x4 : Bool, e = .returned (.bool x4) ∧ Same [b1] w_4 w_5 ∧
  ∃ x5 : Sl, ∃ w_6 : World, (Instr.buildSlice 61 1 #[(0, Sl.v x2)]).run Try.prog w_5 = .ok (Sl.v x5) w_6 ∧ Same [b1] w_5 w_6 ∧
  Calls Try.prog 22 #[Sl.v x5] w_6 (fun e w_7 => ∃ x6 : Bool, e = .returned (.bool x6) ∧ Same [b1] w_6 w_7 ∧
  (((!x4) = true →
  R (.tuple #[.int .i64 (-7), .int .i64 x3, Sl.v Sl.nil, Sl.v Sl.nil]) w_7) ∧
  ((!x4) = false →
  R (.tuple #[.int .i64 0, .int .i64 x3, Sl.v Sl.nil, Sl.v Sl.nil]) w_7))))))) ∧
  ((a01 == 2) = false →
  (((a01 == 3) = true →
  ∀ (b1 : Nat) (w_ : World), w.heap.size ≤ b1 → b1 < w_.heap.size → Only [] w w_ →
  Calls Try.prog 13 #[.pointer b, .int .i64 a3] w_ (fun e w_8 => ∃ x7 : Sl, e = .returned (Sl.v x7) ∧ Same [b1] w_ w_8 ∧
  R (.tuple #[.int .i64 0, .int .i64 0, Sl.v Sl.nil, Sl.v x7]) w_8)) ∧
  ((a01 == 3) = false →
  ∀ (b1 : Nat) (w_ : World), w.heap.size ≤ b1 → b1 < w_.heap.size → Only [] w w_ →
  R (.tuple #[.int .i64 0, .int .i64 0, Sl.v Sl.nil, Sl.v Sl.nil]) w_))))))))
theorem pavanelaw19_do_wp (b : Option Addr) (a01 : Int) (a1 : Int) (a2 : Int) (a3 : Int) (a4 : Sl) (R : Value → World → Prop) (w : World) (h : pavanelaw19_do_vc b a01 a1 a2 a3 a4 R w) :
    Calls Try.prog 11 #[.pointer b, .agg #[.int .i64 a01, .int .i64 a1, .int .i64 a2, .int .i64 a3, Sl.v a4]] w fun e w' => ∃ v, e = .returned v ∧ R v w' := by
  unfold pavanelaw19_do_vc at h
  refine calls_of (k := 70) Try.func11 rfl Try.ntmps11 rfl rfl ?_
  simp only [List.replicate, List.cons_append, List.nil_append]
  refine wp_seq ?_
  refine wp_region_lit ?_
  refine st_one (wn rfl) ?_
  refine o_boxB (zs := [.int .i64 a01, .int .i64 a1, .int .i64 a2, .int .i64 a3, Sl.v a4]) rfl (fun b => by simp only [f0, f1, f2]; rfl) (fun b1 w_ hn hO hb => ?_)
  have hn_b1 : w.heap.size ≤ b1 := hn
  have hA : Only [] w w_ := hO
  refine st_val (.int .i64 0) (wn rfl) rfl (by simp only [f0, f1, f2]; rfl) ?_
  refine st_val (.int .i64 0) (wn rfl) rfl (by simp only [f0, f1, f2]; rfl) ?_
  refine st_val (Sl.v Sl.nil) (wn rfl) rfl (by simp only [f0, f1, f2]; rfl) ?_
  refine st_val (Sl.v Sl.nil) (wn rfl) rfl (by simp only [f0, f1, f2]; rfl) ?_
  refine wpList_nil ?_
  refine then_normal ?_
  refine wp_seq ?_
  refine wp_seq ?_
  refine wp_region_lit ?_
  refine st_val (.pointer (some ⟨b1, 0, none⟩)) (wn rfl) (r_field (Try.runUnderlying29 _) rfl (Try.sizeOf3 _) rfl rfl) (by simp only [f0, f1, f2]; rfl) ?_
  refine st_val (.int .i64 a01) (wn rfl) (r_load1 (Try.isAgg3 _) rfl (hb.cell 0)) (by simp only [f0, f1, f2]; rfl) ?_
  refine wpList_nil ?_
  refine then_normal ?_
  refine wp_block ?_
  refine wp_seq ?_
  refine wp_region_lit ?_
  refine st_val (.bool (a01 == 0)) (wn rfl) rfl (by simp only [f0, f1, f2]; rfl) ?_
  refine st_val (.bool (a01 == 0)) (wn rfl) rfl (by simp only [f0, f1, f2]; rfl) ?_
  refine wpList_nil ?_
  refine then_normal ?_
  refine wp_cond_split (t := (a01 == 0)) rfl (fun hc => ?_) (fun hc => ?_)
  · replace h := h.1 hc
    refine wp_seq ?_
    refine wp_region_lit ?_
    refine st_val (.pointer b) (wn rfl) rfl (by simp only [f0, f1, f2]; rfl) ?_
    refine st_val (.pointer (some ⟨b1, 3, none⟩)) (wn rfl) (r_field (Try.runUnderlying29 _) rfl (Try.sizeOf3 _) rfl rfl) (by simp only [f0, f1, f2]; rfl) ?_
    refine st_val (.int .i64 a3) (wn rfl) (r_load1 (Try.isAgg3 _) rfl (hb.cell 3)) (by simp only [f0, f1, f2]; rfl) ?_
    replace h := h b1 w_ hn_b1 hb.lt hA
    refine st_one (wn rfl) ?_
    refine o_enter (args := #[.pointer b, .int .i64 a3]) (r_enter Try.call12 rfl) (h.mono ?_)
    clear h
    rintro _ w_1 ⟨x0, x1, rfl, hs, h⟩
    refine ⟨_, _, rfl, (by simp only [f0, f1, f2]; rfl), ?_⟩
    have hb1 := hs.blk hb (by simp)
    refine st_val (.tuple #[.int .i64 x0, .int .i64 x1]) (wn rfl) rfl (by simp only [f0, f1, f2]; rfl) ?_
    refine st_val (.int .i64 x0) (wn rfl) rfl (by simp only [f0, f1, f2]; rfl) ?_
    refine st_val (.int .i64 x1) (wn rfl) rfl (by simp only [f0, f1, f2]; rfl) ?_
    refine st_val (.int .i64 x0) (wn rfl) rfl (by simp only [f0, f1, f2]; rfl) ?_
    refine st_val (.int .i64 x1) (wn rfl) rfl (by simp only [f0, f1, f2]; rfl) ?_
    refine wpList_nil ?_
    refine then_normal ?_
    refine wp_seq ?_
    refine wp_region_lit ?_
    refine st_val (.int .i64 x0) (wn rfl) rfl (by simp only [f0, f1, f2]; rfl) ?_
    refine st_val (.int .i64 x1) (wn rfl) rfl (by simp only [f0, f1, f2]; rfl) ?_
    refine st_val (.int .i64 x0) (wn rfl) rfl (by simp only [f0, f1, f2]; rfl) ?_
    refine st_val (.int .i64 x1) (wn rfl) rfl (by simp only [f0, f1, f2]; rfl) ?_
    refine st_val (Sl.v Sl.nil) (wn rfl) rfl (by simp only [f0, f1, f2]; rfl) ?_
    refine st_val (Sl.v Sl.nil) (wn rfl) rfl (by simp only [f0, f1, f2]; rfl) ?_
    refine wpList_nil ?_
    refine then_normal ?_
    refine wp_ret ?_
    refine block_ret ?_
    refine then_ret ?_
    exact end_ret (r_resN (vs := [.int .i64 x0, .int .i64 x1, Sl.v Sl.nil, Sl.v Sl.nil]) Try.results11 rfl ⟨rfl, rfl, rfl, rfl, trivial⟩) rfl h
  · replace h := h.2 hc
    refine wp_seq ?_
    refine wp_region_lit ?_
    refine st_val (.bool (a01 == 1)) (wn rfl) rfl (by simp only [f0, f1, f2]; rfl) ?_
    refine st_val (.bool (a01 == 1)) (wn rfl) rfl (by simp only [f0, f1, f2]; rfl) ?_
    refine wpList_nil ?_
    refine then_normal ?_
    refine wp_cond_split (t := (a01 == 1)) rfl (fun hc1 => ?_) (fun hc1 => ?_)
    · replace h := h.1 hc1
      refine wp_seq ?_
      refine wp_region_lit ?_
      refine st_val (.pointer b) (wn rfl) rfl (by simp only [f0, f1, f2]; rfl) ?_
      refine st_val (.pointer (some ⟨b1, 1, none⟩)) (wn rfl) (r_field (Try.runUnderlying29 _) rfl (Try.sizeOf3 _) rfl rfl) (by simp only [f0, f1, f2]; rfl) ?_
      refine st_val (.int .i64 a1) (wn rfl) (r_load1 (Try.isAgg3 _) rfl (hb.cell 1)) (by simp only [f0, f1, f2]; rfl) ?_
      refine st_val (.pointer (some ⟨b1, 2, none⟩)) (wn rfl) (r_field (Try.runUnderlying29 _) rfl (Try.sizeOf3 _) rfl rfl) (by simp only [f0, f1, f2]; rfl) ?_
      refine st_val (.int .i64 a2) (wn rfl) (r_load1 (Try.isAgg3 _) rfl (hb.cell 2)) (by simp only [f0, f1, f2]; rfl) ?_
      replace h := h b1 w_ hn_b1 hb.lt hA
      refine st_one (wn rfl) ?_
      refine o_enter (args := #[.pointer b, .int .i64 a1, .int .i64 a2]) (r_enter Try.call10 rfl) (h.mono ?_)
      clear h
      rintro _ w_2 ⟨x01, x11, rfl, hs1, h⟩
      refine ⟨_, _, rfl, (by simp only [f0, f1, f2]; rfl), ?_⟩
      have hb2 := hs1.blk hb (by simp)
      refine st_val (.tuple #[.int .i64 x01, Sl.v x11]) (wn rfl) rfl (by simp only [f0, f1, f2]; rfl) ?_
      refine st_val (.int .i64 x01) (wn rfl) rfl (by simp only [f0, f1, f2]; rfl) ?_
      refine st_val (Sl.v x11) (wn rfl) rfl (by simp only [f0, f1, f2]; rfl) ?_
      refine st_val (.int .i64 x01) (wn rfl) rfl (by simp only [f0, f1, f2]; rfl) ?_
      refine st_val (Sl.v x11) (wn rfl) rfl (by simp only [f0, f1, f2]; rfl) ?_
      refine wpList_nil ?_
      refine then_normal ?_
      refine wp_seq ?_
      refine wp_region_lit ?_
      refine st_val (.int .i64 x01) (wn rfl) rfl (by simp only [f0, f1, f2]; rfl) ?_
      refine st_val (Sl.v x11) (wn rfl) rfl (by simp only [f0, f1, f2]; rfl) ?_
      refine st_val (.int .i64 x01) (wn rfl) rfl (by simp only [f0, f1, f2]; rfl) ?_
      refine st_val (.int .i64 0) (wn rfl) rfl (by simp only [f0, f1, f2]; rfl) ?_
      refine st_val (Sl.v x11) (wn rfl) rfl (by simp only [f0, f1, f2]; rfl) ?_
      refine st_val (Sl.v Sl.nil) (wn rfl) rfl (by simp only [f0, f1, f2]; rfl) ?_
      refine wpList_nil ?_
      refine then_normal ?_
      refine wp_ret ?_
      refine block_ret ?_
      refine then_ret ?_
      exact end_ret (r_resN (vs := [.int .i64 x01, .int .i64 0, Sl.v x11, Sl.v Sl.nil]) Try.results11 rfl ⟨rfl, rfl, rfl, rfl, trivial⟩) rfl h
    · replace h := h.2 hc1
      refine wp_seq ?_
      refine wp_region_lit ?_
      refine st_val (.bool (a01 == 2)) (wn rfl) rfl (by simp only [f0, f1, f2]; rfl) ?_
      refine st_val (.bool (a01 == 2)) (wn rfl) rfl (by simp only [f0, f1, f2]; rfl) ?_
      refine wpList_nil ?_
      refine then_normal ?_
      refine wp_cond_split (t := (a01 == 2)) rfl (fun hc2 => ?_) (fun hc2 => ?_)
      · replace h := h.1 hc2
        refine wp_seq ?_
        refine wp_region_lit ?_
        refine st_val (.pointer (some ⟨b1, 4, none⟩)) (wn rfl) (r_field (Try.runUnderlying29 _) rfl (Try.sizeOf27 _) rfl rfl) (by simp only [f0, f1, f2]; rfl) ?_
        refine st_val (Sl.v a4) (wn rfl) (r_load1 (Try.isAgg27 _) rfl (hb.cell 4)) (by simp only [f0, f1, f2]; rfl) ?_
        replace h := h b1 w_ hn_b1 hb.lt hA
        refine st_one (wn rfl) ?_
        refine o_enter (args := #[Sl.v a4]) (r_enter Try.call28 rfl) (h.mono ?_)
        clear h
        rintro _ w_3 ⟨x2, rfl, hs2, h⟩
        refine ⟨_, _, rfl, (by simp only [f0, f1, f2]; rfl), ?_⟩
        have hb3 := hs2.blk hb (by simp)
        refine st_val (Sl.v x2) (wn rfl) rfl (by simp only [f0, f1, f2]; rfl) ?_
        refine wpList_nil ?_
        refine then_normal ?_
        refine wp_seq ?_
        refine wp_region_lit ?_
        refine st_val (.pointer b) (wn rfl) rfl (by simp only [f0, f1, f2]; rfl) ?_
        refine st_val (.pointer (some ⟨b1, 1, none⟩)) (wn rfl) (r_field (Try.runUnderlying29 _) rfl (Try.sizeOf3 _) rfl rfl) (by simp only [f0, f1, f2]; rfl) ?_
        refine st_val (.int .i64 a1) (wn rfl) (r_load1 (Try.isAgg3 _) rfl (hb3.cell 1)) (by simp only [f0, f1, f2]; rfl) ?_
        refine st_val (.pointer (some ⟨b1, 2, none⟩)) (wn rfl) (r_field (Try.runUnderlying29 _) rfl (Try.sizeOf3 _) rfl rfl) (by simp only [f0, f1, f2]; rfl) ?_
        refine st_val (.int .i64 a2) (wn rfl) (r_load1 (Try.isAgg3 _) rfl (hb3.cell 2)) (by simp only [f0, f1, f2]; rfl) ?_
        refine st_val (.pointer (some ⟨b1, 3, none⟩)) (wn rfl) (r_field (Try.runUnderlying29 _) rfl (Try.sizeOf3 _) rfl rfl) (by simp only [f0, f1, f2]; rfl) ?_
        refine st_val (.int .i64 a3) (wn rfl) (r_load1 (Try.isAgg3 _) rfl (hb3.cell 3)) (by simp only [f0, f1, f2]; rfl) ?_
        refine st_val (Sl.v x2) (wn rfl) rfl (by simp only [f0, f1, f2]; rfl) ?_
        refine st_one (wn rfl) ?_
        refine o_enter (args := #[.pointer b, .int .i64 a1, .int .i64 a2, .int .i64 a3, Sl.v x2]) (r_enter Try.call25 rfl) (h.mono ?_)
        clear h
        rintro _ w_4 ⟨x3, rfl, hs3, h⟩
        refine ⟨_, _, rfl, (by simp only [f0, f1, f2]; rfl), ?_⟩
        have hb4 := hs3.blk hb3 (by simp)
        refine st_val (.int .i64 x3) (wn rfl) rfl (by simp only [f0, f1, f2]; rfl) ?_
        refine wpList_nil ?_
        refine then_normal ?_
        refine wp_seq ?_
        refine wp_region_lit ?_
        refine st_val (Sl.v x2) (wn rfl) rfl (by simp only [f0, f1, f2]; rfl) ?_
        refine st_val (.pointer (some ⟨b1, 4, none⟩)) (wn rfl) (r_field (Try.runUnderlying29 _) rfl (Try.sizeOf27 _) rfl rfl) (by simp only [f0, f1, f2]; rfl) ?_
        refine st_val (Sl.v a4) (wn rfl) (r_load1 (Try.isAgg27 _) rfl (hb4.cell 4)) (by simp only [f0, f1, f2]; rfl) ?_
        refine st_one (wn rfl) ?_
        refine o_enter (args := #[Sl.v x2, Sl.v a4]) (r_enter Try.call29 rfl) (h.mono ?_)
        clear h
        rintro _ w_5 ⟨x4, rfl, hs4, h⟩
        refine ⟨_, _, rfl, (by simp only [f0, f1, f2]; rfl), ?_⟩
        have hb5 := hs4.blk hb4 (by simp)
        refine st_val (.bool x4) (wn rfl) rfl (by simp only [f0, f1, f2]; rfl) ?_
        refine wpList_nil ?_
        refine then_normal ?_
        refine wp_seq ?_
        refine wp_region_lit ?_
        refine st_val (Sl.v x2) (wn rfl) rfl (by simp only [f0, f1, f2]; rfl) ?_
        obtain ⟨x5, w_6, hr, hs5, h⟩ := h
        refine st_one (wn rfl) ?_
        refine o_val (Sl.v x5) (r_buildSlice rfl hr) (by simp only [f0, f1, f2]; rfl) ?_
        have hb6 := hs5.blk hb5 (by simp)
        refine st_one (wn rfl) ?_
        refine o_enter (args := #[Sl.v x5]) (r_enter Try.call22 rfl) (h.mono ?_)
        clear h
        rintro _ w_7 ⟨x6, rfl, hs6, h⟩
        refine ⟨_, _, rfl, (by simp only [f0, f1, f2]; rfl), ?_⟩
        have hb7 := hs6.blk hb6 (by simp)
        refine wpList_nil ?_
        refine then_normal ?_
        refine wp_seq ?_
        refine wp_seq ?_
        refine wp_region_lit ?_
        refine st_val (.bool x4) (wn rfl) rfl (by simp only [f0, f1, f2]; rfl) ?_
        refine st_val (.bool (!x4)) (wn rfl) rfl (by simp only [f0, f1, f2]; rfl) ?_
        refine wpList_nil ?_
        refine then_normal ?_
        refine wp_cond_split (t := (!x4)) rfl (fun hc3 => ?_) (fun hc3 => ?_)
        · replace h := h.1 hc3
          refine wp_seq ?_
          refine wp_region_lit ?_
          refine st_val (.int .i64 x3) (wn rfl) rfl (by simp only [f0, f1, f2]; rfl) ?_
          refine st_val (.int .i64 (-7)) (wn rfl) rfl (by simp only [f0, f1, f2]; rfl) ?_
          refine st_val (.int .i64 x3) (wn rfl) rfl (by simp only [f0, f1, f2]; rfl) ?_
          refine st_val (Sl.v Sl.nil) (wn rfl) rfl (by simp only [f0, f1, f2]; rfl) ?_
          refine st_val (Sl.v Sl.nil) (wn rfl) rfl (by simp only [f0, f1, f2]; rfl) ?_
          refine wpList_nil ?_
          refine then_normal ?_
          refine wp_ret ?_
          refine then_ret ?_
          refine block_ret ?_
          refine then_ret ?_
          exact end_ret (r_resN (vs := [.int .i64 (-7), .int .i64 x3, Sl.v Sl.nil, Sl.v Sl.nil]) Try.results11 rfl ⟨rfl, rfl, rfl, rfl, trivial⟩) rfl h
        · replace h := h.2 hc3
          refine wp_skip ?_
          refine then_normal ?_
          refine wp_seq ?_
          refine wp_region_lit ?_
          refine st_val (.int .i64 x3) (wn rfl) rfl (by simp only [f0, f1, f2]; rfl) ?_
          refine st_val (.int .i64 0) (wn rfl) rfl (by simp only [f0, f1, f2]; rfl) ?_
          refine st_val (.int .i64 x3) (wn rfl) rfl (by simp only [f0, f1, f2]; rfl) ?_
          refine st_val (Sl.v Sl.nil) (wn rfl) rfl (by simp only [f0, f1, f2]; rfl) ?_
          refine st_val (Sl.v Sl.nil) (wn rfl) rfl (by simp only [f0, f1, f2]; rfl) ?_
          refine wpList_nil ?_
          refine then_normal ?_
          refine wp_ret ?_
          refine block_ret ?_
          refine then_ret ?_
          exact end_ret (r_resN (vs := [.int .i64 0, .int .i64 x3, Sl.v Sl.nil, Sl.v Sl.nil]) Try.results11 rfl ⟨rfl, rfl, rfl, rfl, trivial⟩) rfl h
      · replace h := h.2 hc2
        refine wp_seq ?_
        refine wp_region_lit ?_
        refine st_val (.bool (a01 == 3)) (wn rfl) rfl (by simp only [f0, f1, f2]; rfl) ?_
        refine st_val (.bool (a01 == 3)) (wn rfl) rfl (by simp only [f0, f1, f2]; rfl) ?_
        refine wpList_nil ?_
        refine then_normal ?_
        refine wp_cond_split (t := (a01 == 3)) rfl (fun hc4 => ?_) (fun hc4 => ?_)
        · replace h := h.1 hc4
          refine wp_seq ?_
          refine wp_region_lit ?_
          refine st_val (.pointer b) (wn rfl) rfl (by simp only [f0, f1, f2]; rfl) ?_
          refine st_val (.pointer (some ⟨b1, 3, none⟩)) (wn rfl) (r_field (Try.runUnderlying29 _) rfl (Try.sizeOf3 _) rfl rfl) (by simp only [f0, f1, f2]; rfl) ?_
          refine st_val (.int .i64 a3) (wn rfl) (r_load1 (Try.isAgg3 _) rfl (hb.cell 3)) (by simp only [f0, f1, f2]; rfl) ?_
          replace h := h b1 w_ hn_b1 hb.lt hA
          refine st_one (wn rfl) ?_
          refine o_enter (args := #[.pointer b, .int .i64 a3]) (r_enter Try.call13 rfl) (h.mono ?_)
          clear h
          rintro _ w_8 ⟨x7, rfl, hs7, h⟩
          refine ⟨_, _, rfl, (by simp only [f0, f1, f2]; rfl), ?_⟩
          have hb8 := hs7.blk hb (by simp)
          refine st_val (.int .i64 0) (wn rfl) rfl (by simp only [f0, f1, f2]; rfl) ?_
          refine st_val (.int .i64 0) (wn rfl) rfl (by simp only [f0, f1, f2]; rfl) ?_
          refine st_val (Sl.v Sl.nil) (wn rfl) rfl (by simp only [f0, f1, f2]; rfl) ?_
          refine st_val (Sl.v x7) (wn rfl) rfl (by simp only [f0, f1, f2]; rfl) ?_
          refine wpList_nil ?_
          refine then_normal ?_
          refine wp_ret ?_
          refine block_ret ?_
          refine then_ret ?_
          exact end_ret (r_resN (vs := [.int .i64 0, .int .i64 0, Sl.v Sl.nil, Sl.v x7]) Try.results11 rfl ⟨rfl, rfl, rfl, rfl, trivial⟩) rfl h
        · replace h := h.2 hc4
          refine wp_skip ?_
          refine block_normal ?_
          refine then_normal ?_
          refine wp_seq ?_
          refine wp_region_lit ?_
          refine st_val (.int .i64 0) (wn rfl) rfl (by simp only [f0, f1, f2]; rfl) ?_
          refine st_val (.int .i64 0) (wn rfl) rfl (by simp only [f0, f1, f2]; rfl) ?_
          refine st_val (Sl.v Sl.nil) (wn rfl) rfl (by simp only [f0, f1, f2]; rfl) ?_
          refine st_val (Sl.v Sl.nil) (wn rfl) rfl (by simp only [f0, f1, f2]; rfl) ?_
          refine wpList_nil ?_
          refine then_normal ?_
          refine wp_ret ?_
          replace h := h b1 w_ hn_b1 hb.lt hA
          exact end_ret (r_resN (vs := [.int .i64 0, .int .i64 0, Sl.v Sl.nil, Sl.v Sl.nil]) Try.results11 rfl ⟨rfl, rfl, rfl, rfl, trivial⟩) rfl h

/-- what is to be shown of a call of (*pavaneref19.Book).Note -/
def pavaneref19_Book_Note_vc (b : Addr) (id_ : Int) (seq : Int) (now : Int) (reply : Sl) (R : Value → World → Prop) (w : World) : Prop :=
  Calls Try.prog 35 #[.pointer (some b), .int .i64 id_, .int .i64 seq] w (fun e w_ => ∃ x0 : Int, ∃ x1 : Sl, e = .returned (.tuple #[.int .i64 x0, Sl.v x1]) ∧
  (((((decide (now < 0)) || (decide (now > 1099511627776))) || (x0 != 1)) = true →
  R (.int .i64 1) w_) ∧
  ((((decide (now < 0)) || (decide (now > 1099511627776))) || (x0 != 1)) = false →
  (((decide ((↑(Sl.n reply) : Int) > 65536)) = true →
  R (.int .i64 2) w_) ∧
  ((decide ((↑(Sl.n reply) : Int) > 65536)) = false →
  Calls Try.prog 43 #[.pointer (some b), .int .i64 id_] w_ (fun e w_1 => ∃ x2 : Int, e = .returned (.int .i64 x2) ∧
  ∃ x3 : Sl, Cells w_1 (Addr.add b 0) [Sl.v x3] ∧
  ∀ (w_2 : World), Only [] w_1 w_2 →
  ∃ x4 : Sl, ∃ w_3 : World, (Instr.buildSlice 27 0 #[]).run Try.prog w_2 = .ok (Sl.v x4) w_3 ∧ Same [(Addr.add b 0).block] w_2 w_3 ∧
  ∃ x5 : Sl, ∃ w_4 : World, (Builtin.append_ #[27, 27] 27 #[Sl.v x4, Sl.v reply]).run Try.prog w_3 = .ok (Sl.v x5) w_4 ∧ Same [(Addr.add b 0).block] w_3 w_4 ∧
  ∃ ad : Addr, SlAt x3 x2 4 ad ∧
  ∃ (bk off : Nat) (cells : List Value) (ety : TypeId), ad = (⟨bk, off, none⟩ : Addr) ∧ Blk w_4 bk ety cells ∧ off + 4 ≤ cells.length ∧ ∀ w_5 : World, Only [bk] w_4 w_5 → Blk w_5 bk ety (splice cells off [.int .i64 id_, .int .i64 seq, Sl.v x5, .int .i64 (IntKind.i64.wrap (now + 50))]) →
  R (.int .i64 0) w_5))))))
theorem pavaneref19_Book_Note_wp (b : Addr) (id_ : Int) (seq : Int) (now : Int) (reply : Sl) (R : Value → World → Prop) (w : World) (h : pavaneref19_Book_Note_vc b id_ seq now reply R w) :
    Calls Try.prog 36 #[.pointer (some b), .int .i64 id_, .int .i64 seq, .int .i64 now, Sl.v reply] w fun e w' => ∃ v, e = .returned v ∧ R v w' := by
  unfold pavaneref19_Book_Note_vc at h
  refine calls_of (k := 46) Try.func36 rfl Try.ntmps36 rfl rfl ?_
  simp only [List.replicate, List.cons_append, List.nil_append]
  refine wp_seq ?_
  refine wp_region_lit ?_
  refine st_val (.int .i64 0) (wn rfl) rfl (by simp only [f0, f1, f2]; rfl) ?_
  refine wpList_nil ?_
  refine then_normal ?_
  refine wp_seq ?_
  refine wp_region_lit ?_
  refine st_val (.pointer (some b)) (wn rfl) rfl (by simp only [f0, f1, f2]; rfl) ?_
  refine st_val (.int .i64 id_) (wn rfl) rfl (by simp only [f0, f1, f2]; rfl) ?_
  refine st_val (.int .i64 seq) (wn rfl) rfl (by simp only [f0, f1, f2]; rfl) ?_
  refine st_one (wn rfl) ?_
  refine o_enter (args := #[.pointer (some b), .int .i64 id_, .int .i64 seq]) (r_enter Try.call35 rfl) (h.mono ?_)
  clear h
  rintro _ w_ ⟨x0, x1, rfl, h⟩
  refine ⟨_, _, rfl, (by simp only [f0, f1, f2]; rfl), ?_⟩
  refine st_val (.tuple #[.int .i64 x0, Sl.v x1]) (wn rfl) rfl (by simp only [f0, f1, f2]; rfl) ?_
  refine st_val (.int .i64 x0) (wn rfl) rfl (by simp only [f0, f1, f2]; rfl) ?_
  refine st_val (Sl.v x1) (wn rfl) rfl (by simp only [f0, f1, f2]; rfl) ?_
  refine st_val (.int .i64 x0) (wn rfl) rfl (by simp only [f0, f1, f2]; rfl) ?_
  refine st_val (Sl.v x1) (wn rfl) rfl (by simp only [f0, f1, f2]; rfl) ?_
  refine wpList_nil ?_
  refine then_normal ?_
  refine wp_seq ?_
  refine wp_seq ?_
  refine wp_region_lit ?_
  refine st_val (.int .i64 now) (wn rfl) rfl (by simp only [f0, f1, f2]; rfl) ?_
  refine st_val (.bool (decide (now < 0))) (wn rfl) rfl (by simp only [f0, f1, f2]; rfl) ?_
  refine st_val (.bool (decide (now < 0))) (wn rfl) rfl (by simp only [f0, f1, f2]; rfl) ?_
  refine st_cut 3 (fun a' w' => (∃ us : Nat → Value, a' = (⟨(fillin us 0 (some (.pointer (some b)) :: some (.int .i64 id_) :: some (.int .i64 seq) :: some (.int .i64 now) :: some (Sl.v reply) :: some undef :: some undef :: some undef :: some undef :: some undef :: some (.int .i64 0) :: some (.int .i64 x0) :: some (Sl.v x1) :: some undef :: some (.tuple #[.int .i64 x0, Sl.v x1]) :: some (.pointer (some b)) :: some (.int .i64 id_) :: some (.int .i64 seq) :: some (.tuple #[.int .i64 x0, Sl.v x1]) :: some (.int .i64 x0) :: some (Sl.v x1) :: some (.int .i64 now) :: some (.bool (decide (now < 0))) :: some (.bool (decide (now < 0))) :: none :: none :: some (.bool ((decide (now < 0)) || (decide (now > 1099511627776)))) :: some undef :: some undef :: some undef :: some undef :: some undef :: some undef :: some undef :: some undef :: some undef :: some undef :: some undef :: some undef :: some undef :: some undef :: some undef :: some undef :: some undef :: some undef :: some undef :: some undef :: some undef :: some undef :: some undef :: some undef :: [])).toArray, []⟩ : Act)) ∧ w_ = w') ?_ ?_
  · simp only [List.take_succ_cons, List.take_zero]
    rcases Bool.eq_false_or_eq_true (decide (now < 0)) with hg | hg
    · refine st_no (wt rfl rfl rfl (congrArg (fun z => some (Value.bool z)) hg) rfl) (by simp only [f0, f1, f2]; rfl) ?_
      refine st_no (wt rfl rfl rfl (congrArg (fun z => some (Value.bool z)) hg) rfl) (by simp only [f0, f1, f2]; rfl) ?_
      refine st_val (.bool true) (wn rfl) (r_pickT (congrArg Value.bool hg) rfl) (by simp only [f0, f1, f2]; rfl) ?_
      refine wpList_nil ?_
      exact then_normal ⟨some_us (by simp only [masked, hg, Bool.true_and, Bool.false_and, Bool.true_or, Bool.false_or, cond_true, cond_false]) rfl rfl, rfl⟩
    · refine st_val (.int .i64 now) (wt rfl rfl rfl (congrArg (fun z => some (Value.bool z)) hg) rfl) rfl (by simp only [f0, f1, f2]; rfl) ?_
      refine st_val (.bool (decide (now > 1099511627776))) (wt rfl rfl rfl (congrArg (fun z => some (Value.bool z)) hg) rfl) rfl (by simp only [f0, f1, f2]; rfl) ?_
      refine st_val (.bool (decide (now > 1099511627776))) (wn rfl) (r_pickF (congrArg Value.bool hg) rfl) (by simp only [f0, f1, f2]; rfl) ?_
      refine wpList_nil ?_
      exact then_normal ⟨some_us (by simp only [masked, hg, Bool.true_and, Bool.false_and, Bool.true_or, Bool.false_or, cond_true, cond_false]) rfl rfl, rfl⟩
  rintro a0 _ ⟨⟨us, hF⟩, rfl⟩
  simp only [fillin, Nat.reduceAdd] at hF
  subst hF
  simp only [List.drop_succ_cons, List.drop_zero]
  refine st_val (.bool ((decide (now < 0)) || (decide (now > 1099511627776)))) (wn rfl) rfl (by simp only [f0, f1, f2]; rfl) ?_
  refine st_cut 3 (fun a' w' => (∃ us1 : Nat → Value, a' = (⟨(fillin us1 0 (some (.pointer (some b)) :: some (.int .i64 id_) :: some (.int .i64 seq) :: some (.int .i64 now) :: some (Sl.v reply) :: some undef :: some undef :: some undef :: some undef :: some undef :: some (.int .i64 0) :: some (.int .i64 x0) :: some (Sl.v x1) :: some undef :: some (.tuple #[.int .i64 x0, Sl.v x1]) :: some (.pointer (some b)) :: some (.int .i64 id_) :: some (.int .i64 seq) :: some (.tuple #[.int .i64 x0, Sl.v x1]) :: some (.int .i64 x0) :: some (Sl.v x1) :: some (.int .i64 now) :: some (.bool (decide (now < 0))) :: some (.bool (decide (now < 0))) :: some ((us 24)) :: some ((us 25)) :: some (.bool ((decide (now < 0)) || (decide (now > 1099511627776)))) :: some (.bool ((decide (now < 0)) || (decide (now > 1099511627776)))) :: none :: none :: some (.bool (((decide (now < 0)) || (decide (now > 1099511627776))) || (x0 != 1))) :: some undef :: some undef :: some undef :: some undef :: some undef :: some undef :: some undef :: some undef :: some undef :: some undef :: some undef :: some undef :: some undef :: some undef :: some undef :: some undef :: some undef :: some undef :: some undef :: some undef :: [])).toArray, []⟩ : Act)) ∧ w_ = w') ?_ ?_
  · simp only [List.take_succ_cons, List.take_zero]
    rcases Bool.eq_false_or_eq_true ((decide (now < 0)) || (decide (now > 1099511627776))) with hg1 | hg1
    · refine st_no (wt rfl rfl rfl (congrArg (fun z => some (Value.bool z)) hg1) rfl) (by simp only [f0, f1, f2]; rfl) ?_
      refine st_no (wt rfl rfl rfl (congrArg (fun z => some (Value.bool z)) hg1) rfl) (by simp only [f0, f1, f2]; rfl) ?_
      refine st_val (.bool true) (wn rfl) (r_pickT (congrArg Value.bool hg1) rfl) (by simp only [f0, f1, f2]; rfl) ?_
      refine wpList_nil ?_
      exact then_normal ⟨some_us (by simp only [masked, hg1, Bool.true_and, Bool.false_and, Bool.true_or, Bool.false_or, cond_true, cond_false]) rfl rfl, rfl⟩
    · refine st_val (.int .i64 x0) (wt rfl rfl rfl (congrArg (fun z => some (Value.bool z)) hg1) rfl) rfl (by simp only [f0, f1, f2]; rfl) ?_
      refine st_val (.bool (x0 != 1)) (wt rfl rfl rfl (congrArg (fun z => some (Value.bool z)) hg1) rfl) rfl (by simp only [f0, f1, f2]; rfl) ?_
      refine st_val (.bool (x0 != 1)) (wn rfl) (r_pickF (congrArg Value.bool hg1) rfl) (by simp only [f0, f1, f2]; rfl) ?_
      refine wpList_nil ?_
      exact then_normal ⟨some_us (by simp only [masked, hg1, Bool.true_and, Bool.false_and, Bool.true_or, Bool.false_or, cond_true, cond_false]) rfl rfl, rfl⟩
  rintro a0 _ ⟨⟨us1, hF⟩, rfl⟩
  simp only [fillin, Nat.reduceAdd] at hF
  subst hF
  simp only [List.drop_succ_cons, List.drop_zero]
  refine wpList_nil ?_
  refine then_normal ?_
  refine wp_cond_split (t := (((decide (now < 0)) || (decide (now > 1099511627776))) || (x0 != 1))) rfl (fun hc => ?_) (fun hc => ?_)
  · replace h := h.1 hc
    refine wp_seq ?_
    refine wp_region_lit ?_
    refine st_val (.int .i64 1) (wn rfl) rfl (by simp only [f0, f1, f2]; rfl) ?_
    refine wpList_nil ?_
    refine then_normal ?_
    refine wp_ret ?_
    refine then_ret ?_
    exact end_ret (r_res1 (v := .int .i64 1) Try.results36 ⟨rfl, trivial⟩) rfl h
  · replace h := h.2 hc
    refine wp_skip ?_
    refine then_normal ?_
    refine wp_seq ?_
    refine wp_seq ?_
    refine wp_region_lit ?_
    refine st_val (Sl.v reply) (wn rfl) rfl (by simp only [f0, f1, f2]; rfl) ?_
    refine st_val (.int .i64 (↑(Sl.n reply) : Int)) (wn rfl) (r_len (s := reply) (Try.runUnderlying27 _) rfl) (by simp only [f0, f1, f2]; rfl) ?_
    refine st_val (.bool (decide ((↑(Sl.n reply) : Int) > 65536))) (wn rfl) rfl (by simp only [f0, f1, f2]; rfl) ?_
    refine wpList_nil ?_
    refine then_normal ?_
    refine wp_cond_split (t := (decide ((↑(Sl.n reply) : Int) > 65536))) rfl (fun hc1 => ?_) (fun hc1 => ?_)
    · replace h := h.1 hc1
      refine wp_seq ?_
      refine wp_region_lit ?_
      refine st_val (.int .i64 2) (wn rfl) rfl (by simp only [f0, f1, f2]; rfl) ?_
      refine wpList_nil ?_
      refine then_normal ?_
      refine wp_ret ?_
      refine then_ret ?_
      exact end_ret (r_res1 (v := .int .i64 2) Try.results36 ⟨rfl, trivial⟩) rfl h
    · replace h := h.2 hc1
      refine wp_skip ?_
      refine then_normal ?_
      refine wp_seq ?_
      refine wp_region_lit ?_
      refine st_val (.pointer (some b)) (wn rfl) rfl (by simp only [f0, f1, f2]; rfl) ?_
      refine st_val (.int .i64 id_) (wn rfl) rfl (by simp only [f0, f1, f2]; rfl) ?_
      refine st_one (wn rfl) ?_
      refine o_enter (args := #[.pointer (some b), .int .i64 id_]) (r_enter Try.call43 rfl) (h.mono ?_)
      clear h
      rintro _ w_1 ⟨x2, rfl, h⟩
      refine ⟨_, _, rfl, (by simp only [f0, f1, f2]; rfl), ?_⟩
      refine st_val (.int .i64 x2) (wn rfl) rfl (by simp only [f0, f1, f2]; rfl) ?_
      refine wpList_nil ?_
      refine then_normal ?_
      refine wp_seq ?_
      obtain ⟨x3, hx, h⟩ := h
      refine e_region (EL [(7, [(Addr.add b 0).block]), (9, [(Addr.add b 0).block]), (14, [])]) Try.checked.mixed ?_
      have hO := Only.drew w_1
      have hx1 : Cells w_1.drew _ _ := hx
      generalize w_1.drew = w_2 at *
      have hA : Only [] w_1 w_2 := hO
      refine e_take 0 [1, 2, 3, 13, 14] [] (.pointer (some b)) (fun _ => True) rfl (by kernel_rfl) (by kernel_rfl) (by kernel_rfl) (by kernel_rfl) (by kernel_rfl) (by kernel_rfl) (fun _ _ _ h => h) el_true (fun w _ => el_quiet rfl w) trivial (y_val (wn rfl) (fun w' hw' => rfl)) (by simp only [f0, f1, f2]; rfl) ?_
      refine e_take 1 [2, 3, 13, 14] [0] (.pointer (some b)) (fun _ => True) rfl (by kernel_rfl) (by kernel_rfl) (by kernel_rfl) (by kernel_rfl) (by kernel_rfl) (by kernel_rfl) (fun _ _ _ h => h) el_true (fun w _ => el_quiet rfl w) trivial (y_val (wn rfl) (fun w' hw' => rfl)) (by simp only [f0, f1, f2]; rfl) ?_
      refine e_take 2 [3, 13, 14] [0, 1] (.pointer (some (Addr.add b 0))) (fun _ => True) rfl (by kernel_rfl) (by kernel_rfl) (by kernel_rfl) (by kernel_rfl) (by kernel_rfl) (by kernel_rfl) (fun _ _ _ h => h) el_true (fun w _ => el_quiet rfl w) trivial (y_val (wn rfl) (fun w' hw' => (r_field (Try.runUnderlying64 _) rfl (Try.sizeOf42 _) rfl rfl))) (by simp only [f0, f1, f2]; rfl) ?_
      refine e_take 3 [13, 14] [0, 1, 2] (Sl.v x3) (fun w' => Cells w' (Addr.add b 0) [Sl.v x3]) rfl (by kernel_rfl) (by kernel_rfl) (by kernel_rfl) (by kernel_rfl) (by kernel_rfl) (by kernel_rfl) (fun _ _ _ h => h) (el_stable (b := (Addr.add b 0).block) (List.forall_mem_cons.2 ⟨.inr (.inr (.head _)), List.forall_mem_cons.2 ⟨.inr (.inr (.head _)), List.forall_mem_cons.2 ⟨.inl (by simp), List.forall_mem_nil _⟩⟩⟩) keep_cells) (fun w _ => el_quiet rfl w) hx1 (y_val (wn rfl) (fun w' hw' => (r_load1 (Try.isAgg42 _) rfl (Cells.one hw')))) (by simp only [f0, f1, f2]; rfl) ?_
      refine e_take 4 [13, 14] [0, 1, 2, 3] (.int .i64 x2) (fun _ => True) rfl (by kernel_rfl) (by kernel_rfl) (by kernel_rfl) (by kernel_rfl) (by kernel_rfl) (by kernel_rfl) (fun _ _ _ h => h) el_true (fun w _ => el_quiet rfl w) trivial (y_val (wn rfl) (fun w' hw' => rfl)) (by simp only [f0, f1, f2]; rfl) ?_
      refine e_take 5 [12, 13, 14] [0, 1, 2, 3, 4] (.int .i64 id_) (fun _ => True) rfl (by kernel_rfl) (by kernel_rfl) (by kernel_rfl) (by kernel_rfl) (by kernel_rfl) (by kernel_rfl) (fun _ _ _ h => h) el_true (fun w _ => el_quiet rfl w) trivial (y_val (wn rfl) (fun w' hw' => rfl)) (by simp only [f0, f1, f2]; rfl) ?_
      refine e_take 6 [12, 13, 14] [0, 1, 2, 3, 4, 5] (.int .i64 seq) (fun _ => True) rfl (by kernel_rfl) (by kernel_rfl) (by kernel_rfl) (by kernel_rfl) (by kernel_rfl) (by kernel_rfl) (fun _ _ _ h => h) el_true (fun w _ => el_quiet rfl w) trivial (y_val (wn rfl) (fun w' hw' => rfl)) (by simp only [f0, f1, f2]; rfl) ?_
      refine e_take 8 [9, 12, 13, 14] [0, 1, 2, 3, 4, 5, 6] (Sl.v reply) (fun _ => True) rfl (by kernel_rfl) (by kernel_rfl) (by kernel_rfl) (by kernel_rfl) (by kernel_rfl) (by kernel_rfl) (fun _ _ _ h => h) el_true (fun w _ => el_quiet rfl w) trivial (y_val (wn rfl) (fun w' hw' => rfl)) (by simp only [f0, f1, f2]; rfl) ?_
      refine e_take 10 [11, 12, 13, 14] [0, 1, 2, 3, 4, 5, 6, 8] (.int .i64 now) (fun _ => True) rfl (by kernel_rfl) (by kernel_rfl) (by kernel_rfl) (by kernel_rfl) (by kernel_rfl) (by kernel_rfl) (fun _ _ _ h => h) el_true (fun w _ => el_quiet rfl w) trivial (y_val (wn rfl) (fun w' hw' => rfl)) (by simp only [f0, f1, f2]; rfl) ?_
      refine e_take 11 [12, 13, 14] [0, 1, 2, 3, 4, 5, 6, 8, 10] (.int .i64 (IntKind.i64.wrap (now + 50))) (fun _ => True) rfl (by kernel_rfl) (by kernel_rfl) (by kernel_rfl) (by kernel_rfl) (by kernel_rfl) (by kernel_rfl) (fun _ _ _ h => h) el_true (fun w _ => el_quiet rfl w) trivial (y_val (wn rfl) (fun w' hw' => rfl)) (by simp only [f0, f1, f2]; rfl) ?_
      replace h := h w_2 hA
      obtain ⟨x4, w_3, hr, hs2, h⟩ := h
      refine e_one 7 rfl (by kernel_rfl) (wn rfl) ?_
      refine o_val (Sl.v x4) (r_buildSlice rfl hr) (by simp only [f0, f1, f2]; rfl) ?_
      have hx2 := keep_cells _ _ (hs2 _ (.head _)) hx1
      refine ⟨el_loud rfl hs2, ?_⟩
      obtain ⟨x5, w_4, hr1, hs3, h⟩ := h
      refine e_one 9 rfl (by kernel_rfl) (wn rfl) ?_
      refine o_val (Sl.v x5) (r_builtin_append rfl hr1) (by simp only [f0, f1, f2]; rfl) ?_
      have hx3 := keep_cells _ _ (hs3 _ (.head _)) hx2
      refine ⟨el_loud rfl hs3, ?_⟩
      refine e_take 12 [13, 14] [0, 1, 2, 3, 4, 5, 6, 7, 8, 9, 10, 11] (.agg #[.int .i64 id_, .int .i64 seq, Sl.v x5, .int .i64 (IntKind.i64.wrap (now + 50))]) (fun _ => True) rfl (by kernel_rfl) (by kernel_rfl) (by kernel_rfl) (by kernel_rfl) (by kernel_rfl) (by kernel_rfl) (fun _ _ _ h => h) el_true (fun w _ => el_quiet rfl w) trivial (y_val (wn rfl) (fun w' hw' => (r_build (ps' := [(0, .int .i64 id_), (1, .int .i64 seq), (2, Sl.v x5), (3, .int .i64 (IntKind.i64.wrap (now + 50)))]) rfl (by kernel_rfl)))) (by simp only [f0, f1, f2]; rfl) ?_
      obtain ⟨ad, hx4, h⟩ := h
      refine e_take 13 [14] [0, 1, 2, 3, 4, 5, 6, 7, 8, 9, 10, 11, 12] (.pointer (some ad)) (fun _ => True) rfl (by kernel_rfl) (by kernel_rfl) (by kernel_rfl) (by kernel_rfl) (by kernel_rfl) (by kernel_rfl) (fun _ _ _ h => h) el_true (fun w _ => el_quiet rfl w) trivial (y_val (wn rfl) (fun w' hw' => (r_indexS (s := x3) (Try.runUnderlying42 _) (Try.sizeOf49 _) rfl rfl hx4))) (by simp only [f0, f1, f2]; rfl) ?_
      obtain ⟨bk, off, cells, ety, hx5, hx6, hx7, h⟩ := h
      refine e_one 14 rfl (by kernel_rfl) (wn rfl) ?_
      refine o_storeB (b := bk) (o := off) (vs := [.int .i64 id_, .int .i64 seq, Sl.v x5, .int .i64 (IntKind.i64.wrap (now + 50))]) (Try.sizeOf49 _) (congrArg (fun z => Value.pointer (some z)) hx5) rfl rfl rfl hx6 hx7 rfl (f3 _ _) (fun w_5 hO1 hb => ?_)
      replace h := h w_5 hO1 hb
      have hS : Same [] w_4 w_5 := same_nil
      refine ⟨el_loud rfl hS, ?_⟩
      refine e_done (by kernel_rfl) ?_
      refine then_normal ?_
      refine wp_seq ?_
      refine wp_region_lit ?_
      refine st_val (.int .i64 0) (wn rfl) rfl (by simp only [f0, f1, f2]; rfl) ?_
      refine wpList_nil ?_
      refine then_normal ?_
      refine wp_ret ?_
      exact end_ret (r_res1 (v := .int .i64 0) Try.results36 ⟨rfl, trivial⟩) rfl h

/-- what is to be shown of a call of (*session.Book).Note -/
def session_Book_Note_vc (b : Addr) (id_ : Int) (seq : Int) (now : Int) (reply : Sl) (R : Value → World → Prop) (w : World) : Prop :=
  Calls Try.prog 10 #[.pointer (some b), .int .i64 id_, .int .i64 seq] w (fun e w_ => ∃ x0 : Int, ∃ x1 : Sl, e = .returned (.tuple #[.int .i64 x0, Sl.v x1]) ∧
  ∃ J_ : Bool → World → Prop, (∀ (t22 : Bool) (w_1 : World), J_ t22 w_1 →
  ((t22 = true →
  R (.int .i64 1) w_1) ∧
  (t22 = false →
  (((decide ((↑(Sl.n reply) : Int) > 65536)) = true →
  R (.int .i64 2) w_1) ∧
  ((decide ((↑(Sl.n reply) : Int) > 65536)) = false →
  Calls Try.prog 26 #[.pointer (some (Addr.add b 0)), .int .i64 id_] w_1 (fun e w_2 => ∃ x01 : Int, ∃ x11 : Bool, e = .returned (.tuple #[.int .i64 x01, .bool x11]) ∧
  ∃ x2 : Sl, Cells w_2 (Addr.add (Addr.add b 0) 0) [Sl.v x2] ∧
  ∀ (w_3 : World), Only [] w_2 w_3 →
  Calls Try.prog 27 #[Sl.v reply] w_3 (fun e w_4 => ∃ x3 : Sl, e = .returned (Sl.v x3) ∧ Same [(Addr.add (Addr.add b 0) 0).block] w_3 w_4 ∧
  ∃ ad : Addr, SlAt x2 x01 4 ad ∧
  ∃ (bk off : Nat) (cells : List Value) (ety : TypeId), ad = (⟨bk, off, none⟩ : Addr) ∧ Blk w_4 bk ety cells ∧ off + 4 ≤ cells.length ∧ ∀ w_5 : World, Only [bk] w_4 w_5 → Blk w_5 bk ety (splice cells off [.int .i64 id_, .int .i64 seq, Sl.v x3, .int .i64 (IntKind.i64.wrap (now + 50))]) →
  R (.int .i64 0) w_5))))))) ∧
  (Calls Try.prog 30 #[.int .i64 now] w_ (fun e w_6 => ∃ x4 : Bool, e = .returned (.bool x4) ∧
  (((!x4) = true →
  J_ (!x4) w_6) ∧
  ((!x4) = false →
  J_ (x0 != 1) w_6)))))
theorem session_Book_Note_wp (b : Addr) (id_ : Int) (seq : Int) (now : Int) (reply : Sl) (R : Value → World → Prop) (w : World) (h : session_Book_Note_vc b id_ seq now reply R w) :
    Calls Try.prog 25 #[.pointer (some b), .int .i64 id_, .int .i64 seq, .int .i64 now, Sl.v reply] w fun e w' => ∃ v, e = .returned v ∧ R v w' := by
  unfold session_Book_Note_vc at h
  refine calls_of (k := 49) Try.func25 rfl Try.ntmps25 rfl rfl ?_
  simp only [List.replicate, List.cons_append, List.nil_append]
  refine wp_seq ?_
  refine wp_region_lit ?_
  refine st_val (.int .i64 0) (wn rfl) rfl (by simp only [f0, f1, f2]; rfl) ?_
  refine wpList_nil ?_
  refine then_normal ?_
  refine wp_seq ?_
  refine wp_seq ?_
  refine wp_region_lit ?_
  refine st_val (.pointer (some b)) (wn rfl) rfl (by simp only [f0, f1, f2]; rfl) ?_
  refine st_val (.int .i64 id_) (wn rfl) rfl (by simp only [f0, f1, f2]; rfl) ?_
  refine st_val (.int .i64 seq) (wn rfl) rfl (by simp only [f0, f1, f2]; rfl) ?_
  refine st_one (wn rfl) ?_
  refine o_enter (args := #[.pointer (some b), .int .i64 id_, .int .i64 seq]) (r_enter Try.call10 rfl) (h.mono ?_)
  clear h
  rintro _ w_ ⟨x0, x1, rfl, h⟩
  refine ⟨_, _, rfl, (by simp only [f0, f1, f2]; rfl), ?_⟩
  refine st_val (.tuple #[.int .i64 x0, Sl.v x1]) (wn rfl) rfl (by simp only [f0, f1, f2]; rfl) ?_
  refine st_val (.int .i64 x0) (wn rfl) rfl (by simp only [f0, f1, f2]; rfl) ?_
  refine st_val (Sl.v x1) (wn rfl) rfl (by simp only [f0, f1, f2]; rfl) ?_
  refine st_val (.int .i64 x0) (wn rfl) rfl (by simp only [f0, f1, f2]; rfl) ?_
  refine st_val (Sl.v x1) (wn rfl) rfl (by simp only [f0, f1, f2]; rfl) ?_
  refine wpList_nil ?_
  refine then_normal ?_
  refine wp_block ?_
  obtain ⟨J_, hJ, h⟩ := h
  refine wp_seq_join (fun a' w' => ∃ t22 : Bool, (∃ us : Nat → Value, a' = (⟨(fillin us 0 (some (.pointer (some b)) :: some (.int .i64 id_) :: some (.int .i64 seq) :: some (.int .i64 now) :: some (Sl.v reply) :: some undef :: some undef :: some undef :: some undef :: some undef :: some (.int .i64 0) :: some (.int .i64 x0) :: some (Sl.v x1) :: some undef :: some undef :: some (.tuple #[.int .i64 x0, Sl.v x1]) :: some (.pointer (some b)) :: some (.int .i64 id_) :: some (.int .i64 seq) :: some (.tuple #[.int .i64 x0, Sl.v x1]) :: some (.int .i64 x0) :: some (Sl.v x1) :: some (.bool t22) :: none :: none :: none :: none :: none :: some undef :: some undef :: some undef :: some undef :: some undef :: some undef :: some undef :: some undef :: some undef :: some undef :: some undef :: some undef :: some undef :: some undef :: some undef :: some undef :: some undef :: some undef :: some undef :: some undef :: some undef :: some undef :: some undef :: some undef :: some undef :: some undef :: [])).toArray, []⟩ : Act)) ∧ J_ t22 w') ?_ ?_
  · clear h
    rintro a0 w_1 ⟨t22, ⟨us, hF⟩, h⟩
    simp only [fillin, Nat.reduceAdd] at hF
    subst hF
    replace h := hJ _ _ h
    refine wp_cond_split (t := t22) rfl (fun hc => ?_) (fun hc => ?_)
    · replace h := h.1 hc
      refine wp_seq ?_
      refine wp_region_lit ?_
      refine st_val (.int .i64 1) (wn rfl) rfl (by simp only [f0, f1, f2]; rfl) ?_
      refine wpList_nil ?_
      refine then_normal ?_
      refine wp_ret ?_
      refine block_ret ?_
      refine then_ret ?_
      exact end_ret (r_res1 (v := .int .i64 1) Try.results25 ⟨rfl, trivial⟩) rfl h
    · replace h := h.2 hc
      refine wp_seq ?_
      refine wp_region_lit ?_
      refine st_val (Sl.v reply) (wn rfl) rfl (by simp only [f0, f1, f2]; rfl) ?_
      refine st_val (.int .i64 (↑(Sl.n reply) : Int)) (wn rfl) (r_len (s := reply) (Try.runUnderlying27 _) rfl) (by simp only [f0, f1, f2]; rfl) ?_
      refine st_val (.bool (decide ((↑(Sl.n reply) : Int) > 65536))) (wn rfl) rfl (by simp only [f0, f1, f2]; rfl) ?_
      refine st_val (.bool (decide ((↑(Sl.n reply) : Int) > 65536))) (wn rfl) rfl (by simp only [f0, f1, f2]; rfl) ?_
      refine wpList_nil ?_
      refine then_normal ?_
      refine wp_cond_split (t := (decide ((↑(Sl.n reply) : Int) > 65536))) rfl (fun hc1 => ?_) (fun hc1 => ?_)
      · replace h := h.1 hc1
        refine wp_seq ?_
        refine wp_region_lit ?_
        refine st_val (.int .i64 2) (wn rfl) rfl (by simp only [f0, f1, f2]; rfl) ?_
        refine wpList_nil ?_
        refine then_normal ?_
        refine wp_ret ?_
        refine block_ret ?_
        refine then_ret ?_
        exact end_ret (r_res1 (v := .int .i64 2) Try.results25 ⟨rfl, trivial⟩) rfl h
      · replace h := h.2 hc1
        refine wp_skip ?_
        refine block_normal ?_
        refine then_normal ?_
        refine wp_seq ?_
        refine wp_region_lit ?_
        refine st_val (.pointer (some b)) (wn rfl) rfl (by simp only [f0, f1, f2]; rfl) ?_
        refine st_val (.pointer (some b)) (wn rfl) rfl (by simp only [f0, f1, f2]; rfl) ?_
        refine st_val (.pointer (some (Addr.add b 0))) (wn rfl) (r_field (Try.runUnderlying47 _) rfl (Try.sizeOf45 _) rfl rfl) (by simp only [f0, f1, f2]; rfl) ?_
        refine st_val (.int .i64 id_) (wn rfl) rfl (by simp only [f0, f1, f2]; rfl) ?_
        refine st_one (wn rfl) ?_
        refine o_enter (args := #[.pointer (some (Addr.add b 0)), .int .i64 id_]) (r_enter Try.call26 rfl) (h.mono ?_)
        clear h
        rintro _ w_2 ⟨x01, x11, rfl, h⟩
        refine ⟨_, _, rfl, (by simp only [f0, f1, f2]; rfl), ?_⟩
        refine st_val (.tuple #[.int .i64 x01, .bool x11]) (wn rfl) rfl (by simp only [f0, f1, f2]; rfl) ?_
        refine st_val (.int .i64 x01) (wn rfl) rfl (by simp only [f0, f1, f2]; rfl) ?_
        refine st_val (.bool x11) (wn rfl) rfl (by simp only [f0, f1, f2]; rfl) ?_
        refine st_val (.int .i64 x01) (wn rfl) rfl (by simp only [f0, f1, f2]; rfl) ?_
        refine st_val (.bool x11) (wn rfl) rfl (by simp only [f0, f1, f2]; rfl) ?_
        refine wpList_nil ?_
        refine then_normal ?_
        refine wp_seq ?_
        obtain ⟨x2, hx, h⟩ := h
        refine e_region (EL [(9, [(Addr.add (Addr.add b 0) 0).block]), (14, [])]) Try.checked.mixed ?_
        have hO := Only.drew w_2
        have hx1 : Cells w_2.drew _ _ := hx
        generalize w_2.drew = w_3 at *
        have hA : Only [] w_2 w_3 := hO
        refine e_take 0 [1, 2, 3, 4, 13, 14] [] (.pointer (some b)) (fun _ => True) rfl (by kernel_rfl) (by kernel_rfl) (by kernel_rfl) (by kernel_rfl) (by kernel_rfl) (by kernel_rfl) (fun _ _ _ h => h) el_true (fun w _ => el_quiet rfl w) trivial (y_val (wn rfl) (fun w' hw' => rfl)) (by simp only [f0, f1, f2]; rfl) ?_
        refine e_take 1 [2, 3, 4, 13, 14] [0] (.pointer (some b)) (fun _ => True) rfl (by kernel_rfl) (by kernel_rfl) (by kernel_rfl) (by kernel_rfl) (by kernel_rfl) (by kernel_rfl) (fun _ _ _ h => h) el_true (fun w _ => el_quiet rfl w) trivial (y_val (wn rfl) (fun w' hw' => rfl)) (by simp only [f0, f1, f2]; rfl) ?_
        refine e_take 2 [3, 4, 13, 14] [0, 1] (.pointer (some (Addr.add b 0))) (fun _ => True) rfl (by kernel_rfl) (by kernel_rfl) (by kernel_rfl) (by kernel_rfl) (by kernel_rfl) (by kernel_rfl) (fun _ _ _ h => h) el_true (fun w _ => el_quiet rfl w) trivial (y_val (wn rfl) (fun w' hw' => (r_field (Try.runUnderlying47 _) rfl (Try.sizeOf45 _) rfl rfl))) (by simp only [f0, f1, f2]; rfl) ?_
        refine e_take 3 [4, 13, 14] [0, 1, 2] (.pointer (some (Addr.add (Addr.add b 0) 0))) (fun _ => True) rfl (by kernel_rfl) (by kernel_rfl) (by kernel_rfl) (by kernel_rfl) (by kernel_rfl) (by kernel_rfl) (fun _ _ _ h => h) el_true (fun w _ => el_quiet rfl w) trivial (y_val (wn rfl) (fun w' hw' => (r_field (Try.runUnderlying45 _) rfl (Try.sizeOf42 _) rfl rfl))) (by simp only [f0, f1, f2]; rfl) ?_
        refine e_take 4 [13, 14] [0, 1, 2, 3] (Sl.v x2) (fun w' => Cells w' (Addr.add (Addr.add b 0) 0) [Sl.v x2]) rfl (by kernel_rfl) (by kernel_rfl) (by kernel_rfl) (by kernel_rfl) (by kernel_rfl) (by kernel_rfl) (fun _ _ _ h => h) (el_stable (b := (Addr.add (Addr.add b 0) 0).block) (List.forall_mem_cons.2 ⟨.inr (.inr (.head _)), List.forall_mem_cons.2 ⟨.inl (by simp), List.forall_mem_nil _⟩⟩) keep_cells) (fun w _ => el_quiet rfl w) hx1 (y_val (wn rfl) (fun w' hw' => (r_load1 (Try.isAgg42 _) rfl (Cells.one hw')))) (by simp only [f0, f1, f2]; rfl) ?_
        refine e_take 5 [13, 14] [0, 1, 2, 3, 4] (.int .i64 x01) (fun _ => True) rfl (by kernel_rfl) (by kernel_rfl) (by kernel_rfl) (by kernel_rfl) (by kernel_rfl) (by kernel_rfl) (fun _ _ _ h => h) el_true (fun w _ => el_quiet rfl w) trivial (y_val (wn rfl) (fun w' hw' => rfl)) (by simp only [f0, f1, f2]; rfl) ?_
        refine e_take 6 [12, 13, 14] [0, 1, 2, 3, 4, 5] (.int .i64 id_) (fun _ => True) rfl (by kernel_rfl) (by kernel_rfl) (by kernel_rfl) (by kernel_rfl) (by kernel_rfl) (by kernel_rfl) (fun _ _ _ h => h) el_true (fun w _ => el_quiet rfl w) trivial (y_val (wn rfl) (fun w' hw' => rfl)) (by simp only [f0, f1, f2]; rfl) ?_
        refine e_take 7 [12, 13, 14] [0, 1, 2, 3, 4, 5, 6] (.int .i64 seq) (fun _ => True) rfl (by kernel_rfl) (by kernel_rfl) (by kernel_rfl) (by kernel_rfl) (by kernel_rfl) (by kernel_rfl) (fun _ _ _ h => h) el_true (fun w _ => el_quiet rfl w) trivial (y_val (wn rfl) (fun w' hw' => rfl)) (by simp only [f0, f1, f2]; rfl) ?_
        refine e_take 8 [9, 12, 13, 14] [0, 1, 2, 3, 4, 5, 6, 7] (Sl.v reply) (fun _ => True) rfl (by kernel_rfl) (by kernel_rfl) (by kernel_rfl) (by kernel_rfl) (by kernel_rfl) (by kernel_rfl) (fun _ _ _ h => h) el_true (fun w _ => el_quiet rfl w) trivial (y_val (wn rfl) (fun w' hw' => rfl)) (by simp only [f0, f1, f2]; rfl) ?_
        refine e_take 10 [11, 12, 13, 14] [0, 1, 2, 3, 4, 5, 6, 7, 8] (.int .i64 now) (fun _ => True) rfl (by kernel_rfl) (by kernel_rfl) (by kernel_rfl) (by kernel_rfl) (by kernel_rfl) (by kernel_rfl) (fun _ _ _ h => h) el_true (fun w _ => el_quiet rfl w) trivial (y_val (wn rfl) (fun w' hw' => rfl)) (by simp only [f0, f1, f2]; rfl) ?_
        refine e_take 11 [12, 13, 14] [0, 1, 2, 3, 4, 5, 6, 7, 8, 10] (.int .i64 (IntKind.i64.wrap (now + 50))) (fun _ => True) rfl (by kernel_rfl) (by kernel_rfl) (by kernel_rfl) (by kernel_rfl) (by kernel_rfl) (by kernel_rfl) (fun _ _ _ h => h) el_true (fun w _ => el_quiet rfl w) trivial (y_val (wn rfl) (fun w' hw' => rfl)) (by simp only [f0, f1, f2]; rfl) ?_
        replace h := h w_3 hA
        refine e_one 9 rfl (by kernel_rfl) (wn rfl) ?_
        refine o_enter (args := #[Sl.v reply]) (r_enter Try.call27 rfl) (h.mono ?_)
        clear h
        rintro _ w_4 ⟨x3, rfl, hs2, h⟩
        refine ⟨_, _, rfl, (by simp only [f0, f1, f2]; rfl), ?_⟩
        have hx2 := keep_cells _ _ (hs2 _ (.head _)) hx1
        refine ⟨el_loud rfl hs2, ?_⟩
        refine e_take 12 [13, 14] [0, 1, 2, 3, 4, 5, 6, 7, 8, 9, 10, 11] (.agg #[.int .i64 id_, .int .i64 seq, Sl.v x3, .int .i64 (IntKind.i64.wrap (now + 50))]) (fun _ => True) rfl (by kernel_rfl) (by kernel_rfl) (by kernel_rfl) (by kernel_rfl) (by kernel_rfl) (by kernel_rfl) (fun _ _ _ h => h) el_true (fun w _ => el_quiet rfl w) trivial (y_val (wn rfl) (fun w' hw' => (r_build (ps' := [(0, .int .i64 id_), (1, .int .i64 seq), (2, Sl.v x3), (3, .int .i64 (IntKind.i64.wrap (now + 50)))]) rfl (by kernel_rfl)))) (by simp only [f0, f1, f2]; rfl) ?_
        obtain ⟨ad, hx3, h⟩ := h
        refine e_take 13 [14] [0, 1, 2, 3, 4, 5, 6, 7, 8, 9, 10, 11, 12] (.pointer (some ad)) (fun _ => True) rfl (by kernel_rfl) (by kernel_rfl) (by kernel_rfl) (by kernel_rfl) (by kernel_rfl) (by kernel_rfl) (fun _ _ _ h => h) el_true (fun w _ => el_quiet rfl w) trivial (y_val (wn rfl) (fun w' hw' => (r_indexS (s := x2) (Try.runUnderlying42 _) (Try.sizeOf49 _) rfl rfl hx3))) (by simp only [f0, f1, f2]; rfl) ?_
        obtain ⟨bk, off, cells, ety, hx4, hx5, hx6, h⟩ := h
        refine e_one 14 rfl (by kernel_rfl) (wn rfl) ?_
        refine o_storeB (b := bk) (o := off) (vs := [.int .i64 id_, .int .i64 seq, Sl.v x3, .int .i64 (IntKind.i64.wrap (now + 50))]) (Try.sizeOf49 _) (congrArg (fun z => Value.pointer (some z)) hx4) rfl rfl rfl hx5 hx6 rfl (f3 _ _) (fun w_5 hO1 hb => ?_)
        replace h := h w_5 hO1 hb
        have hS : Same [] w_4 w_5 := same_nil
        refine ⟨el_loud rfl hS, ?_⟩
        refine e_done (by kernel_rfl) ?_
        refine then_normal ?_
        refine wp_seq ?_
        refine wp_region_lit ?_
        refine st_val (.int .i64 0) (wn rfl) rfl (by simp only [f0, f1, f2]; rfl) ?_
        refine wpList_nil ?_
        refine then_normal ?_
        refine wp_ret ?_
        exact end_ret (r_res1 (v := .int .i64 0) Try.results25 ⟨rfl, trivial⟩) rfl h
  · clear hJ
    refine wp_seq ?_
    refine wp_region_lit ?_
    refine st_val (.int .i64 now) (wn rfl) rfl (by simp only [f0, f1, f2]; rfl) ?_
    refine st_one (wn rfl) ?_
    refine o_enter (args := #[.int .i64 now]) (r_enter Try.call30 rfl) (h.mono ?_)
    clear h
    rintro _ w_6 ⟨x4, rfl, h⟩
    refine ⟨_, _, rfl, (by simp only [f0, f1, f2]; rfl), ?_⟩
    refine st_val (.bool (!x4)) (wn rfl) rfl (by simp only [f0, f1, f2]; rfl) ?_
    refine st_val (.bool (!x4)) (wn rfl) rfl (by simp only [f0, f1, f2]; rfl) ?_
    refine wpList_nil ?_
    refine then_normal ?_
    refine wp_cond_split (t := (!x4)) rfl (fun hc2 => ?_) (fun hc2 => ?_)
    · replace h := h.1 hc2
      refine wp_skip ?_
      refine then_normal ?_
      exact ⟨_, (some_us rfl rfl rfl), h⟩
    · replace h := h.2 hc2
      refine wp_region_lit ?_
      refine st_val (.int .i64 x0) (wn rfl) rfl (by simp only [f0, f1, f2]; rfl) ?_
      refine st_val (.bool (x0 != 1)) (wn rfl) rfl (by simp only [f0, f1, f2]; rfl) ?_
      refine st_val (.bool (x0 != 1)) (wn rfl) rfl (by simp only [f0, f1, f2]; rfl) ?_
      refine wpList_nil ?_
      refine then_normal ?_
      exact ⟨_, (some_us rfl rfl rfl), h⟩

/-- what is to be shown of a call of slices.BinarySearchFunc[[]api.Seat,api.Seat,int] -/
def slices_BinarySearchFunc_api_Seat_vc (x1 : Sl) (target : Int) (cmp : Value) (R : Value → World → Prop) (w : World) : Prop :=
  ∃ (I_ : Nat → Int → Int → World → Prop) (nv1 : Nat), I_ nv1 0 (↑(Sl.n x1) : Int) w ∧
  ∀ (nv : Nat) (i : Int) (j : Int) (w_ : World), I_ nv i j w_ →
  (((decide (i < j)) = true →
  ∃ ad : Addr, SlAt x1 (IntKind.i64.wrap (Int.fdiv (IntKind.u64.wrap (IntKind.i64.wrap (i + j))) (2 ^ 1))) 4 ad ∧
  ∃ x0 : Int, ∃ x11 : Int, ∃ x2 : Sl, ∃ x3 : Int, Cells w_ ad [.int .i64 x0, .int .i64 x11, Sl.v x2, .int .i64 x3] ∧
  ∃ (fid : FuncId) (cap : List Value), cmp = .func (.func fid) #[] cap.toArray ∧ (∀ (args : Array Value) (w : World), (callFunc fid args).run Try.prog w = .ok (.enter fid args) w) ∧
  Calls Try.prog fid (([.agg #[.int .i64 x0, .int .i64 x11, Sl.v x2, .int .i64 x3], .int .i64 target] : List Value) ++ cap).toArray w_ (fun e w_1 => ∃ x4 : Int, e = .returned (.int .i64 x4) ∧
  (((decide (x4 < 0)) = true →
  ∃ nv2 : Nat, nv2 < nv ∧ I_ nv2 (IntKind.i64.wrap ((IntKind.i64.wrap (Int.fdiv (IntKind.u64.wrap (IntKind.i64.wrap (i + j))) (2 ^ 1))) + 1)) j w_1) ∧
  ((decide (x4 < 0)) = false →
  ∃ nv3 : Nat, nv3 < nv ∧ I_ nv3 i (IntKind.i64.wrap (Int.fdiv (IntKind.u64.wrap (IntKind.i64.wrap (i + j))) (2 ^ 1))) w_1)))) ∧
  ((decide (i < j)) = false →
  ∃ J_ : Int → Bool → World → Prop, (∀ (t6 : Int) (t7 : Bool) (w_2 : World), J_ t6 t7 w_2 →
  R (.tuple #[.int .i64 t6, .bool t7]) w_2) ∧
  ((((decide (i < (↑(Sl.n x1) : Int))) = true →
  ∃ ad1 : Addr, SlAt x1 i 4 ad1 ∧
  ∃ x01 : Int, ∃ x12 : Int, ∃ x21 : Sl, ∃ x31 : Int, Cells w_ ad1 [.int .i64 x01, .int .i64 x12, Sl.v x21, .int .i64 x31] ∧
  ∃ (fid1 : FuncId) (cap1 : List Value), cmp = .func (.func fid1) #[] cap1.toArray ∧ (∀ (args : Array Value) (w : World), (callFunc fid1 args).run Try.prog w = .ok (.enter fid1 args) w) ∧
  Calls Try.prog fid1 (([.agg #[.int .i64 x01, .int .i64 x12, Sl.v x21, .int .i64 x31], .int .i64 target] : List Value) ++ cap1).toArray w_ (fun e w_3 => ∃ x5 : Int, e = .returned (.int .i64 x5) ∧
  J_ i (x5 == 0) w_3)) ∧
  ((decide (i < (↑(Sl.n x1) : Int))) = false →
  J_ i false w_)))))
theorem slices_BinarySearchFunc_api_Seat_wp (x1 : Sl) (target : Int) (cmp : Value) (R : Value → World → Prop) (w : World) (h : slices_BinarySearchFunc_api_Seat_vc x1 target cmp R w) :
    Calls Try.prog 38 #[Sl.v x1, .int .i64 target, cmp] w fun e w' => ∃ v, e = .returned v ∧ R v w' := by
  unfold slices_BinarySearchFunc_api_Seat_vc at h
  refine calls_of (k := 46) Try.func38 rfl Try.ntmps38 rfl rfl ?_
  simp only [List.replicate, List.cons_append, List.nil_append]
  refine wp_seq ?_
  refine wp_region_lit ?_
  refine st_val (.int .i64 0) (wn rfl) rfl (by simp only [f0, f1, f2]; rfl) ?_
  refine st_val (.bool false) (wn rfl) rfl (by simp only [f0, f1, f2]; rfl) ?_
  refine wpList_nil ?_
  refine then_normal ?_
  refine wp_seq ?_
  refine wp_region_lit ?_
  refine st_val (Sl.v x1) (wn rfl) rfl (by simp only [f0, f1, f2]; rfl) ?_
  refine st_val (.int .i64 (↑(Sl.n x1) : Int)) (wn rfl) (r_len (s := x1) (Try.runUnderlying42 _) rfl) (by simp only [f0, f1, f2]; rfl) ?_
  refine st_val (.int .i64 (↑(Sl.n x1) : Int)) (wn rfl) rfl (by simp only [f0, f1, f2]; rfl) ?_
  refine wpList_nil ?_
  refine then_normal ?_
  refine wp_seq ?_
  refine wp_region_lit ?_
  refine st_val (.int .i64 (↑(Sl.n x1) : Int)) (wn rfl) rfl (by simp only [f0, f1, f2]; rfl) ?_
  refine st_val (.int .i64 0) (wn rfl) rfl (by simp only [f0, f1, f2]; rfl) ?_
  refine st_val (.int .i64 (↑(Sl.n x1) : Int)) (wn rfl) rfl (by simp only [f0, f1, f2]; rfl) ?_
  refine wpList_nil ?_
  refine then_normal ?_
  refine wp_seq ?_
  refine wp_block ?_
  obtain ⟨I_, nv1, h0, hI⟩ := h
  refine wp_loop_ghost (fun nv' a' w' => ∃ i : Int, ∃ j : Int, (∃ us : Nat → Value, a' = (⟨(fillin us 0 (some (Sl.v x1) :: some (.int .i64 target) :: some cmp :: some undef :: some undef :: some undef :: some (.int .i64 0) :: some (.bool false) :: some (.int .i64 (↑(Sl.n x1) : Int)) :: some (.int .i64 i) :: some (.int .i64 j) :: none :: some (Sl.v x1) :: some (.int .i64 (↑(Sl.n x1) : Int)) :: some (.int .i64 (↑(Sl.n x1) : Int)) :: none :: none :: none :: none :: none :: none :: none :: none :: none :: none :: none :: none :: none :: none :: none :: none :: none :: none :: none :: none :: some undef :: some undef :: some undef :: some undef :: some undef :: some undef :: some undef :: some undef :: some undef :: some undef :: some undef :: some undef :: some undef :: some undef :: [])).toArray, []⟩ : Act)) ∧ I_ nv' i j w') nv1 ?_ ?_
  · exact ⟨_, _, (some_us rfl rfl rfl), h0⟩
  · clear h0
    rintro nv a0 w_ ⟨i, j, ⟨us, hF⟩, h⟩
    simp only [fillin, Nat.reduceAdd] at hF
    subst hF
    replace h := hI _ _ _ _ h
    refine wp_seq ?_
    refine wp_seq ?_
    refine wp_region_lit ?_
    refine st_val (.int .i64 i) (wn rfl) rfl (by simp only [f0, f1, f2]; rfl) ?_
    refine st_val (.int .i64 j) (wn rfl) rfl (by simp only [f0, f1, f2]; rfl) ?_
    refine st_val (.bool (decide (i < j))) (wn rfl) rfl (by simp only [f0, f1, f2]; rfl) ?_
    refine wpList_nil ?_
    refine then_normal ?_
    refine wp_cond_split (t := (decide (i < j))) rfl (fun hc => ?_) (fun hc => ?_)
    · replace h := h.1 hc
      refine wp_skip ?_
      refine then_normal ?_
      refine wp_block ?_
      refine wp_seq ?_
      refine wp_region_lit ?_
      refine st_val (.int .i64 i) (wn rfl) rfl (by simp only [f0, f1, f2]; rfl) ?_
      refine st_val (.int .i64 j) (wn rfl) rfl (by simp only [f0, f1, f2]; rfl) ?_
      refine st_val (.int .i64 (IntKind.i64.wrap (i + j))) (wn rfl) rfl (by simp only [f0, f1, f2]; rfl) ?_
      refine st_val (.int .u64 (IntKind.u64.wrap (IntKind.i64.wrap (i + j)))) (wn rfl) (r_convInt (Try.runUnderlying3 _) (Try.runUnderlying82 _) rfl) (by simp only [f0, f1, f2]; rfl) ?_
      refine st_val (.int .u64 (Int.fdiv (IntKind.u64.wrap (IntKind.i64.wrap (i + j))) (2 ^ 1))) (wn rfl) (r_shr (n := 1) rfl rfl (by decide)) (by simp only [f0, f1, f2]; rfl) ?_
      refine st_val (.int .i64 (IntKind.i64.wrap (Int.fdiv (IntKind.u64.wrap (IntKind.i64.wrap (i + j))) (2 ^ 1)))) (wn rfl) (r_convInt (Try.runUnderlying82 _) (Try.runUnderlying3 _) rfl) (by simp only [f0, f1, f2]; rfl) ?_
      refine st_val (.int .i64 (IntKind.i64.wrap (Int.fdiv (IntKind.u64.wrap (IntKind.i64.wrap (i + j))) (2 ^ 1)))) (wn rfl) rfl (by simp only [f0, f1, f2]; rfl) ?_
      refine wpList_nil ?_
      refine then_normal ?_
      refine wp_seq ?_
      refine wp_region_lit ?_
      refine st_val (cmp) (wn rfl) rfl (by simp only [f0, f1, f2]; rfl) ?_
      refine st_val (Sl.v x1) (wn rfl) rfl (by simp only [f0, f1, f2]; rfl) ?_
      refine st_val (.int .i64 (IntKind.i64.wrap (Int.fdiv (IntKind.u64.wrap (IntKind.i64.wrap (i + j))) (2 ^ 1)))) (wn rfl) rfl (by simp only [f0, f1, f2]; rfl) ?_
      obtain ⟨ad, hx, h⟩ := h
      refine st_val (.pointer (some ad)) (wn rfl) (r_indexS (s := x1) (Try.runUnderlying42 _) (Try.sizeOf49 _) rfl rfl hx) (by simp only [f0, f1, f2]; rfl) ?_
      obtain ⟨x0, x11, x2, x3, hx1, h⟩ := h
      refine st_val (.agg #[.int .i64 x0, .int .i64 x11, Sl.v x2, .int .i64 x3]) (wn rfl) (r_loadN (Try.isAgg49 _) (Try.sizeOf49 _) rfl rfl hx1) (by simp only [f0, f1, f2]; rfl) ?_
      refine st_val (.int .i64 target) (wn rfl) rfl (by simp only [f0, f1, f2]; rfl) ?_
      obtain ⟨fid, cap, hx2, hx3, h⟩ := h
      refine st_one (wn rfl) ?_
      refine o_enter (args := (([.agg #[.int .i64 x0, .int .i64 x11, Sl.v x2, .int .i64 x3], .int .i64 target] : List Value) ++ cap).toArray) (r_enterC (first := []) (captured := cap) hx2 hx3 rfl) (h.mono ?_)
      clear h
      rintro _ w_1 ⟨x4, rfl, h⟩
      refine ⟨_, _, rfl, (by simp only [f0, f1, f2]; rfl), ?_⟩
      refine st_val (.bool (decide (x4 < 0))) (wn rfl) rfl (by simp only [f0, f1, f2]; rfl) ?_
      refine wpList_nil ?_
      refine then_normal ?_
      refine wp_cond_split (t := (decide (x4 < 0))) rfl (fun hc1 => ?_) (fun hc1 => ?_)
      · replace h := h.1 hc1
        refine wp_region_lit ?_
        refine st_val (.int .i64 (IntKind.i64.wrap (Int.fdiv (IntKind.u64.wrap (IntKind.i64.wrap (i + j))) (2 ^ 1)))) (wn rfl) rfl (by simp only [f0, f1, f2]; rfl) ?_
        refine st_val (.int .i64 (IntKind.i64.wrap ((IntKind.i64.wrap (Int.fdiv (IntKind.u64.wrap (IntKind.i64.wrap (i + j))) (2 ^ 1))) + 1))) (wn rfl) rfl (by simp only [f0, f1, f2]; rfl) ?_
        refine st_val (.int .i64 (IntKind.i64.wrap ((IntKind.i64.wrap (Int.fdiv (IntKind.u64.wrap (IntKind.i64.wrap (i + j))) (2 ^ 1))) + 1))) (wn rfl) rfl (by simp only [f0, f1, f2]; rfl) ?_
        refine wpList_nil ?_
        refine block_normal ?_
        refine then_normal ?_
        obtain ⟨nv2, hl, h⟩ := h
        exact ⟨nv2, hl, _, _, (some_us rfl rfl rfl), h⟩
      · replace h := h.2 hc1
        refine wp_region_lit ?_
        refine st_val (.int .i64 (IntKind.i64.wrap (Int.fdiv (IntKind.u64.wrap (IntKind.i64.wrap (i + j))) (2 ^ 1)))) (wn rfl) rfl (by simp only [f0, f1, f2]; rfl) ?_
        refine st_val (.int .i64 (IntKind.i64.wrap (Int.fdiv (IntKind.u64.wrap (IntKind.i64.wrap (i + j))) (2 ^ 1)))) (wn rfl) rfl (by simp only [f0, f1, f2]; rfl) ?_
        refine wpList_nil ?_
        refine block_normal ?_
        refine then_normal ?_
        obtain ⟨nv3, hl1, h⟩ := h
        exact ⟨nv3, hl1, _, _, (some_us rfl rfl rfl), h⟩
    · replace h := h.2 hc
      refine wp_exit ?_
      refine then_exit ?_
      refine then_exit ?_
      refine block_hit ?_
      refine then_normal ?_
      refine wp_seq ?_
      obtain ⟨J_, hJ, h⟩ := h
      refine wp_cut (fun a' w' => ∃ t6 : Int, ∃ t7 : Bool, (∃ us1 : Nat → Value, a' = (⟨(fillin us1 0 (some (Sl.v x1) :: some (.int .i64 target) :: some cmp :: some undef :: some undef :: some undef :: some (.int .i64 t6) :: some (.bool t7) :: some (.int .i64 (↑(Sl.n x1) : Int)) :: some (.int .i64 i) :: some (.int .i64 j) :: some ((us 11)) :: some (Sl.v x1) :: some (.int .i64 (↑(Sl.n x1) : Int)) :: some (.int .i64 (↑(Sl.n x1) : Int)) :: some (.int .i64 i) :: some (.int .i64 j) :: some (.bool (decide (i < j))) :: some ((us 18)) :: some ((us 19)) :: some ((us 20)) :: some ((us 21)) :: some ((us 22)) :: some ((us 23)) :: some ((us 24)) :: some ((us 25)) :: some ((us 26)) :: some ((us 27)) :: some ((us 28)) :: some ((us 29)) :: some ((us 30)) :: some ((us 31)) :: some ((us 32)) :: some ((us 33)) :: some ((us 34)) :: none :: none :: none :: none :: none :: none :: none :: none :: none :: none :: none :: none :: none :: none :: [])).toArray, []⟩ : Act)) ∧ J_ t6 t7 w') ?_ ?_
      · clear h
        rintro a0 w_2 ⟨t6, t7, ⟨us1, hF⟩, h⟩
        simp only [fillin, Nat.reduceAdd] at hF
        subst hF
        replace h := hJ _ _ _ h
        refine then_normal ?_
        refine wp_ret ?_
        exact end_ret (r_resN (vs := [.int .i64 t6, .bool t7]) Try.results38 rfl ⟨rfl, rfl, trivial⟩) rfl h
      · refine wp_region_lit ?_
        refine st_val (.int .i64 i) (wn rfl) rfl (by simp only [f0, f1, f2]; rfl) ?_
        refine st_val (.int .i64 i) (wn rfl) rfl (by simp only [f0, f1, f2]; rfl) ?_
        refine st_val (.int .i64 (↑(Sl.n x1) : Int)) (wn rfl) rfl (by simp only [f0, f1, f2]; rfl) ?_
        refine st_val (.bool (decide (i < (↑(Sl.n x1) : Int)))) (wn rfl) rfl (by simp only [f0, f1, f2]; rfl) ?_
        refine st_val (.bool (decide (i < (↑(Sl.n x1) : Int)))) (wn rfl) rfl (by simp only [f0, f1, f2]; rfl) ?_
        rcases Bool.eq_false_or_eq_true (decide (i < (↑(Sl.n x1) : Int))) with hg | hg
        · replace h := h.1 hg
          refine st_val (cmp) (wt rfl rfl rfl (congrArg (fun z => some (Value.bool z)) hg) rfl) rfl (by simp only [f0, f1, f2]; rfl) ?_
          refine st_val (Sl.v x1) (wt rfl rfl rfl (congrArg (fun z => some (Value.bool z)) hg) rfl) rfl (by simp only [f0, f1, f2]; rfl) ?_
          refine st_val (.int .i64 i) (wt rfl rfl rfl (congrArg (fun z => some (Value.bool z)) hg) rfl) rfl (by simp only [f0, f1, f2]; rfl) ?_
          obtain ⟨ad1, hx4, h⟩ := h
          refine st_val (.pointer (some ad1)) (wt rfl rfl rfl (congrArg (fun z => some (Value.bool z)) hg) rfl) (r_indexS (s := x1) (Try.runUnderlying42 _) (Try.sizeOf49 _) rfl rfl hx4) (by simp only [f0, f1, f2]; rfl) ?_
          obtain ⟨x01, x12, x21, x31, hx5, h⟩ := h
          refine st_val (.agg #[.int .i64 x01, .int .i64 x12, Sl.v x21, .int .i64 x31]) (wt rfl rfl rfl (congrArg (fun z => some (Value.bool z)) hg) rfl) (r_loadN (Try.isAgg49 _) (Try.sizeOf49 _) rfl rfl hx5) (by simp only [f0, f1, f2]; rfl) ?_
          refine st_val (.int .i64 target) (wt rfl rfl rfl (congrArg (fun z => some (Value.bool z)) hg) rfl) rfl (by simp only [f0, f1, f2]; rfl) ?_
          obtain ⟨fid1, cap1, hx6, hx7, h⟩ := h
          refine st_one (wt rfl rfl rfl (congrArg (fun z => some (Value.bool z)) hg) rfl) ?_
          refine o_enter (args := (([.agg #[.int .i64 x01, .int .i64 x12, Sl.v x21, .int .i64 x31], .int .i64 target] : List Value) ++ cap1).toArray) (r_enterC (first := []) (captured := cap1) hx6 hx7 rfl) (h.mono ?_)
          clear h
          rintro _ w_3 ⟨x5, rfl, h⟩
          refine ⟨_, _, rfl, (by simp only [f0, f1, f2]; rfl), ?_⟩
          refine st_val (.bool (x5 == 0)) (wt rfl rfl rfl (congrArg (fun z => some (Value.bool z)) hg) rfl) rfl (by simp only [f0, f1, f2]; rfl) ?_
          refine st_val (.bool (x5 == 0)) (wn rfl) (r_pickT (congrArg Value.bool hg) rfl) (by simp only [f0, f1, f2]; rfl) ?_
          refine st_val (.int .i64 i) (wn rfl) rfl (by simp only [f0, f1, f2]; rfl) ?_
          refine st_val (.bool (x5 == 0)) (wn rfl) rfl (by simp only [f0, f1, f2]; rfl) ?_
          refine wpList_nil ?_
          exact then_normal ⟨_, _, (some_us rfl rfl rfl), h⟩
        · replace h := h.2 hg
          refine st_no (wt rfl rfl rfl (congrArg (fun z => some (Value.bool z)) hg) rfl) (by simp only [f0, f1, f2]; rfl) ?_
          refine st_no (wt rfl rfl rfl (congrArg (fun z => some (Value.bool z)) hg) rfl) (by simp only [f0, f1, f2]; rfl) ?_
          refine st_no (wt rfl rfl rfl (congrArg (fun z => some (Value.bool z)) hg) rfl) (by simp only [f0, f1, f2]; rfl) ?_
          refine st_no (wt rfl rfl rfl (congrArg (fun z => some (Value.bool z)) hg) rfl) (by simp only [f0, f1, f2]; rfl) ?_
          refine st_no (wt rfl rfl rfl (congrArg (fun z => some (Value.bool z)) hg) rfl) (by simp only [f0, f1, f2]; rfl) ?_
          refine st_no (wt rfl rfl rfl (congrArg (fun z => some (Value.bool z)) hg) rfl) (by simp only [f0, f1, f2]; rfl) ?_
          refine st_no (wt rfl rfl rfl (congrArg (fun z => some (Value.bool z)) hg) rfl) (by simp only [f0, f1, f2]; rfl) ?_
          refine st_no (wt rfl rfl rfl (congrArg (fun z => some (Value.bool z)) hg) rfl) (by simp only [f0, f1, f2]; rfl) ?_
          refine st_val (.bool false) (wn rfl) (r_pickF (congrArg Value.bool hg) rfl) (by simp only [f0, f1, f2]; rfl) ?_
          refine st_val (.int .i64 i) (wn rfl) rfl (by simp only [f0, f1, f2]; rfl) ?_
          refine st_val (.bool false) (wn rfl) rfl (by simp only [f0, f1, f2]; rfl) ?_
          refine wpList_nil ?_
          exact then_normal ⟨_, _, (some_us rfl rfl rfl), h⟩

/-- what is to be shown of a call of pavanelaw19.model -/
def pavanelaw19_model_vc (b : Option Addr) (a01 : Int) (a1 : Int) (a2 : Int) (a3 : Int) (a4 : Sl) (R : Value → World → Prop) (w : World) : Prop :=
  (((a01 == 0) = true →
  ∀ (b1 : Nat) (w_ : World), w.heap.size ≤ b1 → b1 < w_.heap.size → Only [] w w_ →
  Calls Try.prog 34 #[.pointer b, .int .i64 a3] w_ (fun e w_1 => ∃ x0 : Int, ∃ x1 : Int, e = .returned (.tuple #[.int .i64 x0, .int .i64 x1]) ∧ Same [b1] w_ w_1 ∧
  R (.tuple #[.int .i64 x0, .int .i64 x1, Sl.v Sl.nil, Sl.v Sl.nil]) w_1)) ∧
  ((a01 == 0) = false →
  (((a01 == 1) = true →
  ∀ (b1 : Nat) (w_ : World), w.heap.size ≤ b1 → b1 < w_.heap.size → Only [] w w_ →
  Calls Try.prog 35 #[.pointer b, .int .i64 a1, .int .i64 a2] w_ (fun e w_2 => ∃ x01 : Int, ∃ x11 : Sl, e = .returned (.tuple #[.int .i64 x01, Sl.v x11]) ∧ Same [b1] w_ w_2 ∧
  R (.tuple #[.int .i64 x01, .int .i64 0, Sl.v x11, Sl.v Sl.nil]) w_2)) ∧
  ((a01 == 1) = false →
  (((a01 == 2) = true →
  ∀ (b1 : Nat) (w_ : World), w.heap.size ≤ b1 → b1 < w_.heap.size → Only [] w w_ →
  Calls Try.prog 36 #[.pointer b, .int .i64 a1, .int .i64 a2, .int .i64 a3, Sl.v a4] w_ (fun e w_3 => ∃ x2 : Int, e = .returned (.int .i64 x2) ∧ Same [b1] w_ w_3 ∧
  R (.tuple #[.int .i64 0, .int .i64 x2, Sl.v Sl.nil, Sl.v Sl.nil]) w_3)) ∧
  ((a01 == 2) = false →
  (((a01 == 3) = true →
  ∀ (b1 : Nat) (w_ : World), w.heap.size ≤ b1 → b1 < w_.heap.size → Only [] w w_ →
  Calls Try.prog 37 #[.pointer b, .int .i64 a3] w_ (fun e w_4 => ∃ x3 : Sl, e = .returned (Sl.v x3) ∧ Same [b1] w_ w_4 ∧
  R (.tuple #[.int .i64 0, .int .i64 0, Sl.v Sl.nil, Sl.v x3]) w_4)) ∧
  ((a01 == 3) = false →
  ∀ (b1 : Nat) (w_ : World), w.heap.size ≤ b1 → b1 < w_.heap.size → Only [] w w_ →
  R (.tuple #[.int .i64 0, .int .i64 0, Sl.v Sl.nil, Sl.v Sl.nil]) w_))))))))
theorem pavanelaw19_model_wp (b : Option Addr) (a01 : Int) (a1 : Int) (a2 : Int) (a3 : Int) (a4 : Sl) (R : Value → World → Prop) (w : World) (h : pavanelaw19_model_vc b a01 a1 a2 a3 a4 R w) :
    Calls Try.prog 20 #[.pointer b, .agg #[.int .i64 a01, .int .i64 a1, .int .i64 a2, .int .i64 a3, Sl.v a4]] w fun e w' => ∃ v, e = .returned v ∧ R v w' := by
  unfold pavanelaw19_model_vc at h
  refine calls_of (k := 54) Try.func20 rfl Try.ntmps20 rfl rfl ?_
  simp only [List.replicate, List.cons_append, List.nil_append]
  refine wp_seq ?_
  refine wp_region_lit ?_
  refine st_one (wn rfl) ?_
  refine o_boxB (zs := [.int .i64 a01, .int .i64 a1, .int .i64 a2, .int .i64 a3, Sl.v a4]) rfl (fun b => by simp only [f0, f1, f2]; rfl) (fun b1 w_ hn hO hb => ?_)
  have hn_b1 : w.heap.size ≤ b1 := hn
  have hA : Only [] w w_ := hO
  refine st_val (.int .i64 0) (wn rfl) rfl (by simp only [f0, f1, f2]; rfl) ?_
  refine st_val (.int .i64 0) (wn rfl) rfl (by simp only [f0, f1, f2]; rfl) ?_
  refine st_val (Sl.v Sl.nil) (wn rfl) rfl (by simp only [f0, f1, f2]; rfl) ?_
  refine st_val (Sl.v Sl.nil) (wn rfl) rfl (by simp only [f0, f1, f2]; rfl) ?_
  refine wpList_nil ?_
  refine then_normal ?_
  refine wp_seq ?_
  refine wp_seq ?_
  refine wp_region_lit ?_
  refine st_val (.pointer (some ⟨b1, 0, none⟩)) (wn rfl) (r_field (Try.runUnderlying29 _) rfl (Try.sizeOf3 _) rfl rfl) (by simp only [f0, f1, f2]; rfl) ?_
  refine st_val (.int .i64 a01) (wn rfl) (r_load1 (Try.isAgg3 _) rfl (hb.cell 0)) (by simp only [f0, f1, f2]; rfl) ?_
  refine wpList_nil ?_
  refine then_normal ?_
  refine wp_block ?_
  refine wp_seq ?_
  refine wp_region_lit ?_
  refine st_val (.bool (a01 == 0)) (wn rfl) rfl (by simp only [f0, f1, f2]; rfl) ?_
  refine st_val (.bool (a01 == 0)) (wn rfl) rfl (by simp only [f0, f1, f2]; rfl) ?_
  refine wpList_nil ?_
  refine then_normal ?_
  refine wp_cond_split (t := (a01 == 0)) rfl (fun hc => ?_) (fun hc => ?_)
  · replace h := h.1 hc
    refine wp_seq ?_
    refine wp_region_lit ?_
    refine st_val (.pointer b) (wn rfl) rfl (by simp only [f0, f1, f2]; rfl) ?_
    refine st_val (.pointer (some ⟨b1, 3, none⟩)) (wn rfl) (r_field (Try.runUnderlying29 _) rfl (Try.sizeOf3 _) rfl rfl) (by simp only [f0, f1, f2]; rfl) ?_
    refine st_val (.int .i64 a3) (wn rfl) (r_load1 (Try.isAgg3 _) rfl (hb.cell 3)) (by simp only [f0, f1, f2]; rfl) ?_
    replace h := h b1 w_ hn_b1 hb.lt hA
    refine st_one (wn rfl) ?_
    refine o_enter (args := #[.pointer b, .int .i64 a3]) (r_enter Try.call34 rfl) (h.mono ?_)
    clear h
    rintro _ w_1 ⟨x0, x1, rfl, hs, h⟩
    refine ⟨_, _, rfl, (by simp only [f0, f1, f2]; rfl), ?_⟩
    have hb1 := hs.blk hb (by simp)
    refine st_val (.tuple #[.int .i64 x0, .int .i64 x1]) (wn rfl) rfl (by simp only [f0, f1, f2]; rfl) ?_
    refine st_val (.int .i64 x0) (wn rfl) rfl (by simp only [f0, f1, f2]; rfl) ?_
    refine st_val (.int .i64 x1) (wn rfl) rfl (by simp only [f0, f1, f2]; rfl) ?_
    refine st_val (.int .i64 x0) (wn rfl) rfl (by simp only [f0, f1, f2]; rfl) ?_
    refine st_val (.int .i64 x1) (wn rfl) rfl (by simp only [f0, f1, f2]; rfl) ?_
    refine wpList_nil ?_
    refine then_normal ?_
    refine wp_seq ?_
    refine wp_region_lit ?_
    refine st_val (.int .i64 x0) (wn rfl) rfl (by simp only [f0, f1, f2]; rfl) ?_
    refine st_val (.int .i64 x1) (wn rfl) rfl (by simp only [f0, f1, f2]; rfl) ?_
    refine st_val (.int .i64 x0) (wn rfl) rfl (by simp only [f0, f1, f2]; rfl) ?_
    refine st_val (.int .i64 x1) (wn rfl) rfl (by simp only [f0, f1, f2]; rfl) ?_
    refine st_val (Sl.v Sl.nil) (wn rfl) rfl (by simp only [f0, f1, f2]; rfl) ?_
    refine st_val (Sl.v Sl.nil) (wn rfl) rfl (by simp only [f0, f1, f2]; rfl) ?_
    refine wpList_nil ?_
    refine then_normal ?_
    refine wp_ret ?_
    refine block_ret ?_
    refine then_ret ?_
    exact end_ret (r_resN (vs := [.int .i64 x0, .int .i64 x1, Sl.v Sl.nil, Sl.v Sl.nil]) Try.results20 rfl ⟨rfl, rfl, rfl, rfl, trivial⟩) rfl h
  · replace h := h.2 hc
    refine wp_seq ?_
    refine wp_region_lit ?_
    refine st_val (.bool (a01 == 1)) (wn rfl) rfl (by simp only [f0, f1, f2]; rfl) ?_
    refine st_val (.bool (a01 == 1)) (wn rfl) rfl (by simp only [f0, f1, f2]; rfl) ?_
    refine wpList_nil ?_
    refine then_normal ?_
    refine wp_cond_split (t := (a01 == 1)) rfl (fun hc1 => ?_) (fun hc1 => ?_)
    · replace h := h.1 hc1
      refine wp_seq ?_
      refine wp_region_lit ?_
      refine st_val (.pointer b) (wn rfl) rfl (by simp only [f0, f1, f2]; rfl) ?_
      refine st_val (.pointer (some ⟨b1, 1, none⟩)) (wn rfl) (r_field (Try.runUnderlying29 _) rfl (Try.sizeOf3 _) rfl rfl) (by simp only [f0, f1, f2]; rfl) ?_
      refine st_val (.int .i64 a1) (wn rfl) (r_load1 (Try.isAgg3 _) rfl (hb.cell 1)) (by simp only [f0, f1, f2]; rfl) ?_
      refine st_val (.pointer (some ⟨b1, 2, none⟩)) (wn rfl) (r_field (Try.runUnderlying29 _) rfl (Try.sizeOf3 _) rfl rfl) (by simp only [f0, f1, f2]; rfl) ?_
      refine st_val (.int .i64 a2) (wn rfl) (r_load1 (Try.isAgg3 _) rfl (hb.cell 2)) (by simp only [f0, f1, f2]; rfl) ?_
      replace h := h b1 w_ hn_b1 hb.lt hA
      refine st_one (wn rfl) ?_
      refine o_enter (args := #[.pointer b, .int .i64 a1, .int .i64 a2]) (r_enter Try.call35 rfl) (h.mono ?_)
      clear h
      rintro _ w_2 ⟨x01, x11, rfl, hs1, h⟩
      refine ⟨_, _, rfl, (by simp only [f0, f1, f2]; rfl), ?_⟩
      have hb2 := hs1.blk hb (by simp)
      refine st_val (.tuple #[.int .i64 x01, Sl.v x11]) (wn rfl) rfl (by simp only [f0, f1, f2]; rfl) ?_
      refine st_val (.int .i64 x01) (wn rfl) rfl (by simp only [f0, f1, f2]; rfl) ?_
      refine st_val (Sl.v x11) (wn rfl) rfl (by simp only [f0, f1, f2]; rfl) ?_
      refine st_val (.int .i64 x01) (wn rfl) rfl (by simp only [f0, f1, f2]; rfl) ?_
      refine st_val (Sl.v x11) (wn rfl) rfl (by simp only [f0, f1, f2]; rfl) ?_
      refine wpList_nil ?_
      refine then_normal ?_
      refine wp_seq ?_
      refine wp_region_lit ?_
      refine st_val (.int .i64 x01) (wn rfl) rfl (by simp only [f0, f1, f2]; rfl) ?_
      refine st_val (Sl.v x11) (wn rfl) rfl (by simp only [f0, f1, f2]; rfl) ?_
      refine st_val (.int .i64 x01) (wn rfl) rfl (by simp only [f0, f1, f2]; rfl) ?_
      refine st_val (.int .i64 0) (wn rfl) rfl (by simp only [f0, f1, f2]; rfl) ?_
      refine st_val (Sl.v x11) (wn rfl) rfl (by simp only [f0, f1, f2]; rfl) ?_
      refine st_val (Sl.v Sl.nil) (wn rfl) rfl (by simp only [f0, f1, f2]; rfl) ?_
      refine wpList_nil ?_
      refine then_normal ?_
      refine wp_ret ?_
      refine block_ret ?_
      refine then_ret ?_
      exact end_ret (r_resN (vs := [.int .i64 x01, .int .i64 0, Sl.v x11, Sl.v Sl.nil]) Try.results20 rfl ⟨rfl, rfl, rfl, rfl, trivial⟩) rfl h
    · replace h := h.2 hc1
      refine wp_seq ?_
      refine wp_region_lit ?_
      refine st_val (.bool (a01 == 2)) (wn rfl) rfl (by simp only [f0, f1, f2]; rfl) ?_
      refine st_val (.bool (a01 == 2)) (wn rfl) rfl (by simp only [f0, f1, f2]; rfl) ?_
      refine wpList_nil ?_
      refine then_normal ?_
      refine wp_cond_split (t := (a01 == 2)) rfl (fun hc2 => ?_) (fun hc2 => ?_)
      · replace h := h.1 hc2
        refine wp_seq ?_
        refine wp_region_lit ?_
        refine st_val (.pointer b) (wn rfl) rfl (by simp only [f0, f1, f2]; rfl) ?_
        refine st_val (.pointer (some ⟨b1, 1, none⟩)) (wn rfl) (r_field (Try.runUnderlying29 _) rfl (Try.sizeOf3 _) rfl rfl) (by simp only [f0, f1, f2]; rfl) ?_
        refine st_val (.int .i64 a1) (wn rfl) (r_load1 (Try.isAgg3 _) rfl (hb.cell 1)) (by simp only [f0, f1, f2]; rfl) ?_
        refine st_val (.pointer (some ⟨b1, 2, none⟩)) (wn rfl) (r_field (Try.runUnderlying29 _) rfl (Try.sizeOf3 _) rfl rfl) (by simp only [f0, f1, f2]; rfl) ?_
        refine st_val (.int .i64 a2) (wn rfl) (r_load1 (Try.isAgg3 _) rfl (hb.cell 2)) (by simp only [f0, f1, f2]; rfl) ?_
        refine st_val (.pointer (some ⟨b1, 3, none⟩)) (wn rfl) (r_field (Try.runUnderlying29 _) rfl (Try.sizeOf3 _) rfl rfl) (by simp only [f0, f1, f2]; rfl) ?_
        refine st_val (.int .i64 a3) (wn rfl) (r_load1 (Try.isAgg3 _) rfl (hb.cell 3)) (by simp only [f0, f1, f2]; rfl) ?_
        refine st_val (.pointer (some ⟨b1, 4, none⟩)) (wn rfl) (r_field (Try.runUnderlying29 _) rfl (Try.sizeOf27 _) rfl rfl) (by simp only [f0, f1, f2]; rfl) ?_
        refine st_val (Sl.v a4) (wn rfl) (r_load1 (Try.isAgg27 _) rfl (hb.cell 4)) (by simp only [f0, f1, f2]; rfl) ?_
        replace h := h b1 w_ hn_b1 hb.lt hA
        refine st_one (wn rfl) ?_
        refine o_enter (args := #[.pointer b, .int .i64 a1, .int .i64 a2, .int .i64 a3, Sl.v a4]) (r_enter Try.call36 rfl) (h.mono ?_)
        clear h
        rintro _ w_3 ⟨x2, rfl, hs2, h⟩
        refine ⟨_, _, rfl, (by simp only [f0, f1, f2]; rfl), ?_⟩
        have hb3 := hs2.blk hb (by simp)
        refine st_val (.int .i64 0) (wn rfl) rfl (by simp only [f0, f1, f2]; rfl) ?_
        refine st_val (.int .i64 x2) (wn rfl) rfl (by simp only [f0, f1, f2]; rfl) ?_
        refine st_val (Sl.v Sl.nil) (wn rfl) rfl (by simp only [f0, f1, f2]; rfl) ?_
        refine st_val (Sl.v Sl.nil) (wn rfl) rfl (by simp only [f0, f1, f2]; rfl) ?_
        refine wpList_nil ?_
        refine then_normal ?_
        refine wp_ret ?_
        refine block_ret ?_
        refine then_ret ?_
        exact end_ret (r_resN (vs := [.int .i64 0, .int .i64 x2, Sl.v Sl.nil, Sl.v Sl.nil]) Try.results20 rfl ⟨rfl, rfl, rfl, rfl, trivial⟩) rfl h
      · replace h := h.2 hc2
        refine wp_seq ?_
        refine wp_region_lit ?_
        refine st_val (.bool (a01 == 3)) (wn rfl) rfl (by simp only [f0, f1, f2]; rfl) ?_
        refine st_val (.bool (a01 == 3)) (wn rfl) rfl (by simp only [f0, f1, f2]; rfl) ?_
        refine wpList_nil ?_
        refine then_normal ?_
        refine wp_cond_split (t := (a01 == 3)) rfl (fun hc3 => ?_) (fun hc3 => ?_)
        · replace h := h.1 hc3
          refine wp_seq ?_
          refine wp_region_lit ?_
          refine st_val (.pointer b) (wn rfl) rfl (by simp only [f0, f1, f2]; rfl) ?_
          refine st_val (.pointer (some ⟨b1, 3, none⟩)) (wn rfl) (r_field (Try.runUnderlying29 _) rfl (Try.sizeOf3 _) rfl rfl) (by simp only [f0, f1, f2]; rfl) ?_
          refine st_val (.int .i64 a3) (wn rfl) (r_load1 (Try.isAgg3 _) rfl (hb.cell 3)) (by simp only [f0, f1, f2]; rfl) ?_
          replace h := h b1 w_ hn_b1 hb.lt hA
          refine st_one (wn rfl) ?_
          refine o_enter (args := #[.pointer b, .int .i64 a3]) (r_enter Try.call37 rfl) (h.mono ?_)
          clear h
          rintro _ w_4 ⟨x3, rfl, hs3, h⟩
          refine ⟨_, _, rfl, (by simp only [f0, f1, f2]; rfl), ?_⟩
          have hb4 := hs3.blk hb (by simp)
          refine st_val (.int .i64 0) (wn rfl) rfl (by simp only [f0, f1, f2]; rfl) ?_
          refine st_val (.int .i64 0) (wn rfl) rfl (by simp only [f0, f1, f2]; rfl) ?_
          refine st_val (Sl.v Sl.nil) (wn rfl) rfl (by simp only [f0, f1, f2]; rfl) ?_
          refine st_val (Sl.v x3) (wn rfl) rfl (by simp only [f0, f1, f2]; rfl) ?_
          refine wpList_nil ?_
          refine then_normal ?_
          refine wp_ret ?_
          refine block_ret ?_
          refine then_ret ?_
          exact end_ret (r_resN (vs := [.int .i64 0, .int .i64 0, Sl.v Sl.nil, Sl.v x3]) Try.results20 rfl ⟨rfl, rfl, rfl, rfl, trivial⟩) rfl h
        · replace h := h.2 hc3
          refine wp_skip ?_
          refine block_normal ?_
          refine then_normal ?_
          refine wp_seq ?_
          refine wp_region_lit ?_
          refine st_val (.int .i64 0) (wn rfl) rfl (by simp only [f0, f1, f2]; rfl) ?_
          refine st_val (.int .i64 0) (wn rfl) rfl (by simp only [f0, f1, f2]; rfl) ?_
          refine st_val (Sl.v Sl.nil) (wn rfl) rfl (by simp only [f0, f1, f2]; rfl) ?_
          refine st_val (Sl.v Sl.nil) (wn rfl) rfl (by simp only [f0, f1, f2]; rfl) ?_
          refine wpList_nil ?_
          refine then_normal ?_
          refine wp_ret ?_
          replace h := h b1 w_ hn_b1 hb.lt hA
          exact end_ret (r_resN (vs := [.int .i64 0, .int .i64 0, Sl.v Sl.nil, Sl.v Sl.nil]) Try.results20 rfl ⟨rfl, rfl, rfl, rfl, trivial⟩) rfl h

/-- what is to be shown of a call of slices.DeleteFunc[[]api.Seat,api.Seat] -/
def slices_DeleteFunc_api_Seat_vc (s : Sl) (del : Value) (R : Value → World → Prop) (w : World) : Prop :=
  Calls Try.prog 41 #[Sl.v s, del] w (fun e w_ => ∃ x1 : Int, e = .returned (.int .i64 x1) ∧
  (((x1 == (-1)) = true →
  R (Sl.v s) w_) ∧
  ((x1 == (-1)) = false →
  ∃ (I_ : Nat → Int → Int → World → Prop) (nv1 : Nat), I_ nv1 x1 (IntKind.i64.wrap (x1 + 1)) w_ ∧
  ∀ (nv : Nat) (i : Int) (j : Int) (w_1 : World), I_ nv i j w_1 →
  (((decide (j < (↑(Sl.n s) : Int))) = true →
  ∃ J_ : Int → World → Prop, (∀ (i1 : Int) (w_2 : World), J_ i1 w_2 →
  ∃ nv2 : Nat, nv2 < nv ∧ I_ nv2 i1 (IntKind.i64.wrap (j + 1)) w_2) ∧
  (∃ ad : Addr, SlAt s j 4 ad ∧
  ∃ x0 : Int, ∃ x11 : Int, ∃ x2 : Sl, ∃ x3 : Int, Cells w_1 ad [.int .i64 x0, .int .i64 x11, Sl.v x2, .int .i64 x3] ∧
  ∀ (b : Nat) (w_4 : World), w_1.heap.size ≤ b → b < w_4.heap.size → Only [] w_1 w_4 →
  ∃ (fid : FuncId) (cap : List Value), del = .func (.func fid) #[] cap.toArray ∧ (∀ (args : Array Value) (w : World), (callFunc fid args).run Try.prog w = .ok (.enter fid args) w) ∧
  Calls Try.prog fid (([.agg #[.int .i64 x0, .int .i64 x11, Sl.v x2, .int .i64 x3]] : List Value) ++ cap).toArray w_4 (fun e w_5 => ∃ x4 : Bool, e = .returned (.bool x4) ∧ Same [b] w_4 w_5 ∧
  (((!x4) = true →
  ∃ ad1 : Addr, SlAt s i 4 ad1 ∧
  ∃ (bk off : Nat) (cells : List Value) (ety : TypeId), ad1 = (⟨bk, off, none⟩ : Addr) ∧ Blk w_5 bk ety cells ∧ off + 4 ≤ cells.length ∧ b ≠ bk ∧ ∀ w_6 : World, Only [bk] w_5 w_6 → Blk w_6 bk ety (splice cells off [.int .i64 x0, .int .i64 x11, Sl.v x2, .int .i64 x3]) →
  J_ (IntKind.i64.wrap (i + 1)) w_6) ∧
  ((!x4) = false →
  J_ i w_5))))) ∧
  ((decide (j < (↑(Sl.n s) : Int))) = false →
  ∃ lo : Nat, (i = ↑lo ∧ lo ≤ (Sl.n s) ∧ (Sl.n s) ≤ (Sl.c s) ∧ (Sl.c s) ≤ Sl.c s) ∧
  ∃ w_7 : World, (Builtin.clear_ #[42] 0 #[Sl.v (Sl.cut s lo (Sl.n s) (Sl.c s) 4)]).run Try.prog w_1 = .ok (.tuple #[]) w_7 ∧
  ∃ hi : Nat, (i = ↑hi ∧ 0 ≤ hi ∧ hi ≤ (Sl.c s) ∧ (Sl.c s) ≤ Sl.c s) ∧
  R (Sl.v (Sl.cut s 0 hi (Sl.c s) 4)) w_7)))))
theorem slices_DeleteFunc_api_Seat_wp (s : Sl) (del : Value) (R : Value → World → Prop) (w : World) (h : slices_DeleteFunc_api_Seat_vc s del R w) :
    Calls Try.prog 31 #[Sl.v s, del] w fun e w' => ∃ v, e = .returned v ∧ R v w' := by
  unfold slices_DeleteFunc_api_Seat_vc at h
  refine calls_of (k := 40) Try.func31 rfl Try.ntmps31 rfl rfl ?_
  simp only [List.replicate, List.cons_append, List.nil_append]
  refine wp_seq ?_
  refine wp_region_lit ?_
  refine st_val (Sl.v Sl.nil) (wn rfl) rfl (by simp only [f0, f1, f2]; rfl) ?_
  refine wpList_nil ?_
  refine then_normal ?_
  refine wp_seq ?_
  refine wp_region_lit ?_
  refine st_val (Sl.v s) (wn rfl) rfl (by simp only [f0, f1, f2]; rfl) ?_
  refine st_val (del) (wn rfl) rfl (by simp only [f0, f1, f2]; rfl) ?_
  refine st_one (wn rfl) ?_
  refine o_enter (args := #[Sl.v s, del]) (r_enter Try.call41 rfl) (h.mono ?_)
  clear h
  rintro _ w_ ⟨x1, rfl, h⟩
  refine ⟨_, _, rfl, (by simp only [f0, f1, f2]; rfl), ?_⟩
  refine st_val (.int .i64 x1) (wn rfl) rfl (by simp only [f0, f1, f2]; rfl) ?_
  refine wpList_nil ?_
  refine then_normal ?_
  refine wp_seq ?_
  refine wp_seq ?_
  refine wp_region_lit ?_
  refine st_val (.int .i64 x1) (wn rfl) rfl (by simp only [f0, f1, f2]; rfl) ?_
  refine st_val (.bool (x1 == (-1))) (wn rfl) rfl (by simp only [f0, f1, f2]; rfl) ?_
  refine wpList_nil ?_
  refine then_normal ?_
  refine wp_cond_split (t := (x1 == (-1))) rfl (fun hc => ?_) (fun hc => ?_)
  · replace h := h.1 hc
    refine wp_seq ?_
    refine wp_region_lit ?_
    refine st_val (Sl.v s) (wn rfl) rfl (by simp only [f0, f1, f2]; rfl) ?_
    refine st_val (Sl.v s) (wn rfl) rfl (by simp only [f0, f1, f2]; rfl) ?_
    refine wpList_nil ?_
    refine then_normal ?_
    refine wp_ret ?_
    refine then_ret ?_
    exact end_ret (r_res1 (v := Sl.v s) Try.results31 ⟨rfl, trivial⟩) rfl h
  · replace h := h.2 hc
    refine wp_skip ?_
    refine then_normal ?_
    refine wp_seq ?_
    refine wp_seq ?_
    refine wp_region_lit ?_
    refine st_val (.int .i64 x1) (wn rfl) rfl (by simp only [f0, f1, f2]; rfl) ?_
    refine st_val (.int .i64 (IntKind.i64.wrap (x1 + 1))) (wn rfl) rfl (by simp only [f0, f1, f2]; rfl) ?_
    refine st_val (.int .i64 (IntKind.i64.wrap (x1 + 1))) (wn rfl) rfl (by simp only [f0, f1, f2]; rfl) ?_
    refine wpList_nil ?_
    refine then_normal ?_
    refine wp_block ?_
    obtain ⟨I_, nv1, h0, hI⟩ := h
    refine wp_loop_ghost (fun nv' a' w' => ∃ i : Int, ∃ j : Int, (∃ us : Nat → Value, a' = (⟨(fillin us 0 (some (Sl.v s) :: some del :: some undef :: some undef :: some (Sl.v Sl.nil) :: some (.int .i64 i) :: some (.int .i64 j) :: none :: some (Sl.v s) :: some del :: some (.int .i64 x1) :: some (.int .i64 x1) :: some (.bool (x1 == (-1))) :: some undef :: some (.int .i64 x1) :: some (.int .i64 (IntKind.i64.wrap (x1 + 1))) :: none :: none :: none :: none :: none :: none :: none :: none :: none :: none :: none :: none :: none :: none :: none :: none :: none :: none :: none :: none :: some undef :: some undef :: some undef :: some undef :: some undef :: some undef :: [])).toArray, []⟩ : Act)) ∧ I_ nv' i j w') nv1 ?_ ?_
    · exact ⟨_, _, (some_us rfl rfl rfl), h0⟩
    · clear h0
      rintro nv a0 w_1 ⟨i, j, ⟨us, hF⟩, h⟩
      simp only [fillin, Nat.reduceAdd] at hF
      subst hF
      replace h := hI _ _ _ _ h
      refine wp_seq ?_
      refine wp_seq ?_
      refine wp_region_lit ?_
      refine st_val (.int .i64 j) (wn rfl) rfl (by simp only [f0, f1, f2]; rfl) ?_
      refine st_val (Sl.v s) (wn rfl) rfl (by simp only [f0, f1, f2]; rfl) ?_
      refine st_val (.int .i64 (↑(Sl.n s) : Int)) (wn rfl) (r_len (s := s) (Try.runUnderlying42 _) rfl) (by simp only [f0, f1, f2]; rfl) ?_
      refine st_val (.bool (decide (j < (↑(Sl.n s) : Int)))) (wn rfl) rfl (by simp only [f0, f1, f2]; rfl) ?_
      refine wpList_nil ?_
      refine then_normal ?_
      refine wp_cond_split (t := (decide (j < (↑(Sl.n s) : Int)))) rfl (fun hc1 => ?_) (fun hc1 => ?_)
      · replace h := h.1 hc1
        refine wp_skip ?_
        refine then_normal ?_
        obtain ⟨J_, hJ, h⟩ := h
        refine wp_seq_join (fun a' w' => ∃ i1 : Int, (∃ us1 : Nat → Value, a' = (⟨(fillin us1 0 (some (Sl.v s) :: some del :: some undef :: some undef :: some (Sl.v Sl.nil) :: some (.int .i64 i1) :: some (.int .i64 j) :: none :: some (Sl.v s) :: some del :: some (.int .i64 x1) :: some (.int .i64 x1) :: some (.bool (x1 == (-1))) :: some undef :: some (.int .i64 x1) :: some (.int .i64 (IntKind.i64.wrap (x1 + 1))) :: some (.int .i64 j) :: some (Sl.v s) :: some (.int .i64 (↑(Sl.n s) : Int)) :: some (.bool (decide (j < (↑(Sl.n s) : Int)))) :: some ((us 20)) :: some ((us 21)) :: none :: none :: none :: none :: none :: none :: none :: none :: none :: none :: none :: none :: none :: none :: some undef :: some undef :: some undef :: some undef :: some undef :: some undef :: [])).toArray, []⟩ : Act)) ∧ J_ i1 w') ?_ ?_
        · clear h
          rintro a0 w_2 ⟨i1, ⟨us1, hF⟩, h⟩
          simp only [fillin, Nat.reduceAdd] at hF
          subst hF
          replace h := hJ _ _ h
          refine wp_region_lit ?_
          refine st_val (.int .i64 j) (wn rfl) rfl (by simp only [f0, f1, f2]; rfl) ?_
          refine st_val (.int .i64 (IntKind.i64.wrap (j + 1))) (wn rfl) rfl (by simp only [f0, f1, f2]; rfl) ?_
          refine st_val (.int .i64 (IntKind.i64.wrap (j + 1))) (wn rfl) rfl (by simp only [f0, f1, f2]; rfl) ?_
          refine wpList_nil ?_
          refine then_normal ?_
          obtain ⟨nv2, hl, h⟩ := h
          exact ⟨nv2, hl, _, _, (some_us rfl rfl rfl), h⟩
        · clear hJ
          refine wp_block ?_
          refine wp_seq ?_
          refine wp_region_lit ?_
          refine st_val (Sl.v s) (wn rfl) rfl (by simp only [f0, f1, f2]; rfl) ?_
          refine st_val (.int .i64 j) (wn rfl) rfl (by simp only [f0, f1, f2]; rfl) ?_
          obtain ⟨ad, hx, h⟩ := h
          refine st_val (.pointer (some ad)) (wn rfl) (r_indexS (s := s) (Try.runUnderlying42 _) (Try.sizeOf49 _) rfl rfl hx) (by simp only [f0, f1, f2]; rfl) ?_
          obtain ⟨x0, x11, x2, x3, hx1, h⟩ := h
          refine st_val (.agg #[.int .i64 x0, .int .i64 x11, Sl.v x2, .int .i64 x3]) (wn rfl) (r_loadN (Try.isAgg49 _) (Try.sizeOf49 _) rfl rfl hx1) (by simp only [f0, f1, f2]; rfl) ?_
          refine st_one (wn rfl) ?_
          refine o_allocB (zs := [.int .i64 0, .int .i64 0, Sl.v Sl.nil, .int .i64 0]) (Try.zeroValue49 _) rfl (fun b => by simp only [f0, f1, f2]; rfl) (fun b w_3 hn hO hb => ?_)
          have hn_b : w_1.heap.size ≤ b := hn
          have hA : Only [] w_1 w_3 := hO
          refine st_one (wn rfl) ?_
          refine o_storeB (vs := [.int .i64 x0, .int .i64 x11, Sl.v x2, .int .i64 x3]) (cs' := [.int .i64 x0, .int .i64 x11, Sl.v x2, .int .i64 x3]) (Try.sizeOf49 _) rfl rfl rfl rfl hb (Nat.le_of_ble_eq_true rfl) rfl (f3 _ _) (fun w_4 hO1 hb1 => ?_)
          have hA1 := hA.new hO1 hn_b
          refine wpList_nil ?_
          refine then_normal ?_
          refine wp_seq ?_
          refine wp_region_lit ?_
          refine st_val (del) (wn rfl) rfl (by simp only [f0, f1, f2]; rfl) ?_
          refine st_val (.agg #[.int .i64 x0, .int .i64 x11, Sl.v x2, .int .i64 x3]) (wn rfl) (r_loadN (Try.isAgg49 _) (Try.sizeOf49 _) rfl rfl (hb1.cellsAt 0 [.int .i64 x0, .int .i64 x11, Sl.v x2, .int .i64 x3] rfl)) (by simp only [f0, f1, f2]; rfl) ?_
          replace h := h b w_4 hn_b hb1.lt hA1
          obtain ⟨fid, cap, hx2, hx3, h⟩ := h
          refine st_one (wn rfl) ?_
          refine o_enter (args := (([.agg #[.int .i64 x0, .int .i64 x11, Sl.v x2, .int .i64 x3]] : List Value) ++ cap).toArray) (r_enterC (first := []) (captured := cap) hx2 hx3 rfl) (h.mono ?_)
          clear h
          rintro _ w_5 ⟨x4, rfl, hs1, h⟩
          refine ⟨_, _, rfl, (by simp only [f0, f1, f2]; rfl), ?_⟩
          have hb2 := hs1.blk hb1 (by simp)
          refine st_val (.bool (!x4)) (wn rfl) rfl (by simp only [f0, f1, f2]; rfl) ?_
          refine wpList_nil ?_
          refine then_normal ?_
          refine wp_cond_split (t := (!x4)) rfl (fun hc2 => ?_) (fun hc2 => ?_)
          · replace h := h.1 hc2
            refine wp_seq ?_
            refine wp_region_lit ?_
            refine st_val (Sl.v s) (wn rfl) rfl (by simp only [f0, f1, f2]; rfl) ?_
            refine st_val (.int .i64 i) (wn rfl) rfl (by simp only [f0, f1, f2]; rfl) ?_
            refine st_val (.agg #[.int .i64 x0, .int .i64 x11, Sl.v x2, .int .i64 x3]) (wn rfl) (r_loadN (Try.isAgg49 _) (Try.sizeOf49 _) rfl rfl (hb2.cellsAt 0 [.int .i64 x0, .int .i64 x11, Sl.v x2, .int .i64 x3] rfl)) (by simp only [f0, f1, f2]; rfl) ?_
            obtain ⟨ad1, hx4, h⟩ := h
            refine st_val (.pointer (some ad1)) (wn rfl) (r_indexS (s := s) (Try.runUnderlying42 _) (Try.sizeOf49 _) rfl rfl hx4) (by simp only [f0, f1, f2]; rfl) ?_
            obtain ⟨bk, off, cells, ety, hx5, hx6, hx7, hne, h⟩ := h
            refine st_one (wn rfl) ?_
            refine o_storeB (b := bk) (o := off) (vs := [.int .i64 x0, .int .i64 x11, Sl.v x2, .int .i64 x3]) (Try.sizeOf49 _) (congrArg (fun z => Value.pointer (some z)) hx5) rfl rfl rfl hx6 hx7 rfl (f3 _ _) (fun w_6 hO2 hb3 => ?_)
            replace h := h w_6 hO2 hb3
            have hb4 := hO2.blk hb2 (by simpa using hne)
            refine wpList_nil ?_
            refine then_normal ?_
            refine wp_region_lit ?_
            refine st_val (.int .i64 i) (wn rfl) rfl (by simp only [f0, f1, f2]; rfl) ?_
            refine st_val (.int .i64 (IntKind.i64.wrap (i + 1))) (wn rfl) rfl (by simp only [f0, f1, f2]; rfl) ?_
            refine st_val (.int .i64 (IntKind.i64.wrap (i + 1))) (wn rfl) rfl (by simp only [f0, f1, f2]; rfl) ?_
            refine wpList_nil ?_
            refine block_normal ?_
            refine then_normal ?_
            exact ⟨_, (some_us rfl rfl rfl), h⟩
          · replace h := h.2 hc2
            refine wp_skip ?_
            refine block_normal ?_
            refine then_normal ?_
            exact ⟨_, (some_us rfl rfl rfl), h⟩
      · replace h := h.2 hc1
        refine wp_exit ?_
        refine then_exit ?_
        refine then_exit ?_
        refine block_hit ?_
        refine then_normal ?_
        refine wp_seq ?_
        refine wp_region_lit ?_
        refine st_val (Sl.v s) (wn rfl) rfl (by simp only [f0, f1, f2]; rfl) ?_
        refine st_val (.int .i64 i) (wn rfl) rfl (by simp only [f0, f1, f2]; rfl) ?_
        obtain ⟨lo, hx8, h⟩ := h
        refine st_val (Sl.v (Sl.cut s lo (Sl.n s) (Sl.c s) 4)) (wn rfl) (r_slice100 (s := s) (Try.runUnderlying42 _) (Try.sizeOf49 _) rfl (congrArg (Value.int _) (hx8.1)) (by first | exact hx8.2.1 | omega) (by first | exact hx8.2.2.1 | omega) (by first | exact hx8.2.2.2 | omega)) (by simp only [f0, f1, f2]; rfl) ?_
        obtain ⟨w_7, hr, h⟩ := h
        refine st_one (wn rfl) ?_
        refine o_val (.tuple #[]) (r_builtin_clear rfl hr) (f3 _ _) ?_
        refine wpList_nil ?_
        refine then_normal ?_
        refine wp_seq ?_
        refine wp_region_lit ?_
        refine st_val (Sl.v s) (wn rfl) rfl (by simp only [f0, f1, f2]; rfl) ?_
        refine st_val (.int .i64 i) (wn rfl) rfl (by simp only [f0, f1, f2]; rfl) ?_
        obtain ⟨hi, hx9, h⟩ := h
        refine st_val (Sl.v (Sl.cut s 0 hi (Sl.c s) 4)) (wn rfl) (r_slice010 (s := s) (Try.runUnderlying42 _) (Try.sizeOf49 _) rfl (congrArg (Value.int _) (hx9.1)) (by first | exact hx9.2.1 | omega) (by first | exact hx9.2.2.1 | omega) (by first | exact hx9.2.2.2 | omega)) (by simp only [f0, f1, f2]; rfl) ?_
        refine st_val (Sl.v (Sl.cut s 0 hi (Sl.c s) 4)) (wn rfl) rfl (by simp only [f0, f1, f2]; rfl) ?_
        refine wpList_nil ?_
        refine then_normal ?_
        refine wp_ret ?_
        exact end_ret (r_res1 (v := Sl.v (Sl.cut s 0 hi (Sl.c s) 4)) Try.results31 ⟨rfl, trivial⟩) rfl h

/-- what is to be shown of a call of session.tick -/
def session_tick_vc (now : Int) (R : Value → World → Prop) (w : World) : Prop :=
  R (.bool ((decide (now ≥ 0)) && (decide (now ≤ 1099511627776)))) w
theorem session_tick_wp (now : Int) (R : Value → World → Prop) (w : World) (h : session_tick_vc now R w) :
    Calls Try.prog 30 #[.int .i64 now] w fun e w' => ∃ v, e = .returned v ∧ R v w' := by
  unfold session_tick_vc at h
  refine calls_of (k := 8) Try.func30 rfl Try.ntmps30 rfl rfl ?_
  simp only [List.replicate, List.cons_append, List.nil_append]
  refine wp_seq ?_
  refine wp_region_lit ?_
  refine st_val (.bool false) (wn rfl) rfl (by simp only [f0, f1, f2]; rfl) ?_
  refine wpList_nil ?_
  refine then_normal ?_
  refine wp_seq ?_
  refine wp_region_lit ?_
  refine st_val (.int .i64 now) (wn rfl) rfl (by simp only [f0, f1, f2]; rfl) ?_
  refine st_val (.bool (decide (now ≥ 0))) (wn rfl) rfl (by simp only [f0, f1, f2]; rfl) ?_
  refine st_val (.bool (decide (now ≥ 0))) (wn rfl) rfl (by simp only [f0, f1, f2]; rfl) ?_
  refine st_cut 3 (fun a' w' => (∃ us : Nat → Value, a' = (⟨(fillin us 0 (some (.int .i64 now) :: some undef :: some (.bool false) :: some (.int .i64 now) :: some (.bool (decide (now ≥ 0))) :: some (.bool (decide (now ≥ 0))) :: none :: none :: some (.bool ((decide (now ≥ 0)) && (decide (now ≤ 1099511627776)))) :: [])).toArray, []⟩ : Act)) ∧ w = w') ?_ ?_
  · simp only [List.take_succ_cons, List.take_zero]
    rcases Bool.eq_false_or_eq_true (decide (now ≥ 0)) with hg | hg
    · refine st_val (.int .i64 now) (wt rfl rfl rfl (congrArg (fun z => some (Value.bool z)) hg) rfl) rfl (by simp only [f0, f1, f2]; rfl) ?_
      refine st_val (.bool (decide (now ≤ 1099511627776))) (wt rfl rfl rfl (congrArg (fun z => some (Value.bool z)) hg) rfl) rfl (by simp only [f0, f1, f2]; rfl) ?_
      refine st_val (.bool (decide (now ≤ 1099511627776))) (wn rfl) (r_pickT (congrArg Value.bool hg) rfl) (by simp only [f0, f1, f2]; rfl) ?_
      refine wpList_nil ?_
      exact then_normal ⟨some_us (by simp only [masked, hg, Bool.true_and, Bool.false_and, Bool.true_or, Bool.false_or, cond_true, cond_false]) rfl rfl, rfl⟩
    · refine st_no (wt rfl rfl rfl (congrArg (fun z => some (Value.bool z)) hg) rfl) (by simp only [f0, f1, f2]; rfl) ?_
      refine st_no (wt rfl rfl rfl (congrArg (fun z => some (Value.bool z)) hg) rfl) (by simp only [f0, f1, f2]; rfl) ?_
      refine st_val (.bool false) (wn rfl) (r_pickF (congrArg Value.bool hg) rfl) (by simp only [f0, f1, f2]; rfl) ?_
      refine wpList_nil ?_
      exact then_normal ⟨some_us (by simp only [masked, hg, Bool.true_and, Bool.false_and, Bool.true_or, Bool.false_or, cond_true, cond_false]) rfl rfl, rfl⟩
  rintro a0 _ ⟨⟨us, hF⟩, rfl⟩
  simp only [fillin, Nat.reduceAdd] at hF
  subst hF
  simp only [List.drop_succ_cons, List.drop_zero]
  refine st_val (.bool ((decide (now ≥ 0)) && (decide (now ≤ 1099511627776)))) (wn rfl) rfl (by simp only [f0, f1, f2]; rfl) ?_
  refine wpList_nil ?_
  refine then_normal ?_
  refine wp_ret ?_
  exact end_ret (r_res1 (v := .bool ((decide (now ≥ 0)) && (decide (now ≤ 1099511627776)))) Try.results30 ⟨rfl, trivial⟩) rfl h

end Go.Proofs.Ytahncinfbhjkgaa.Vc
