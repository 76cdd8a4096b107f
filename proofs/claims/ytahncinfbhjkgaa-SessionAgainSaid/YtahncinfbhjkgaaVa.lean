/-
  Own work, printed by a program of ours (gen.py): of each Go function what is to be shown of a call ('.._vc'), and that it suffices ('.._wp'). Nothing is assumed.
-/
import Derived.Test.YtahncinfbhjkgaaRows
import Derived.Test.YtahncinfbhjkgaaBase
namespace Go.Proofs.Ytahncinfbhjkgaa.Vc
open Go Go.RowKit Go.Kt
set_option linter.unusedSimpArgs false
set_option linter.unusedVariables false
set_option maxRecDepth 100000
set_option maxHeartbeats 40000000
/-- what is to be shown of a call of pavanelaw19.SessionAgain -/
def pavanelaw19_SessionAgain_vc (acts : Sl) (more : Sl) (R : Value → World → Prop) (w : World) : Prop :=
  Calls Try.prog 8 #[] w (fun e w_ => ∃ x1 : Bool, e = .returned (.bool x1) ∧
  Calls Try.prog 9 #[] w_ (fun e w_1 => ∃ x2 : Option Addr, e = .returned (.pointer x2) ∧
  ((((!x1) || (Option.isNone x2)) = true →
  R (.bool false) w_1) ∧
  (((!x1) || (Option.isNone x2)) = false →
  ∃ (I_ : Nat → Int → World → Prop) (nv1 : Nat), I_ nv1 0 w_1 ∧
  ∀ (nv : Nat) (i : Int) (w_2 : World), I_ nv i w_2 →
  ((((decide (i < (↑(Sl.n acts) : Int))) && (decide (i < 100))) = true →
  ∃ ad : Addr, SlAt acts i 5 ad ∧
  ∃ x0 : Int, ∃ x11 : Int, ∃ x21 : Int, ∃ x3 : Int, ∃ x4 : Sl, Cells w_2 ad [.int .i64 x0, .int .i64 x11, .int .i64 x21, .int .i64 x3, Sl.v x4] ∧
  Calls Try.prog 11 #[.pointer x2, .agg #[.int .i64 x0, .int .i64 x11, .int .i64 x21, .int .i64 x3, Sl.v x4]] w_2 (fun e w_3 => ∃ x01 : Int, ∃ x12 : Int, ∃ x22 : Sl, ∃ x31 : Sl, e = .returned (.tuple #[.int .i64 x01, .int .i64 x12, Sl.v x22, Sl.v x31]) ∧
  ∃ nv2 : Nat, nv2 < nv ∧ I_ nv2 (IntKind.i64.wrap (i + 1)) w_3)) ∧
  (((decide (i < (↑(Sl.n acts) : Int))) && (decide (i < 100))) = false →
  ∃ ad1 : Addr, x2 = some ad1 ∧
  Calls Try.prog 14 #[.pointer (some (Addr.add ad1 0))] w_2 (fun e w_4 => ∃ x5 : Sl, e = .returned (Sl.v x5) ∧
  Calls Try.prog 15 #[.pointer x2] w_4 (fun e w_5 => ∃ x6 : Int, e = .returned (.int .i64 x6) ∧
  Calls Try.prog 17 #[Sl.v x5, .int .i64 x6] w_5 (fun e w_6 => ∃ x02 : Option Addr, ∃ x13 : Int, e = .returned (.tuple #[.pointer x02, .int .i64 x13]) ∧
  ((((Option.isNone x02) || (x13 != 0)) = true →
  R (.bool false) w_6) ∧
  (((Option.isNone x02) || (x13 != 0)) = false →
  ∃ (I_1 : Nat → Int → World → Prop) (nv4 : Nat), I_1 nv4 0 w_6 ∧
  ∀ (nv3 : Nat) (i1 : Int) (w_7 : World), I_1 nv3 i1 w_7 →
  ((((decide (i1 < (↑(Sl.n more) : Int))) && (decide (i1 < 100))) = true →
  ∃ ad2 : Addr, SlAt more i1 5 ad2 ∧
  ∃ x03 : Int, ∃ x14 : Int, ∃ x23 : Int, ∃ x32 : Int, ∃ x41 : Sl, Cells w_7 ad2 [.int .i64 x03, .int .i64 x14, .int .i64 x23, .int .i64 x32, Sl.v x41] ∧
  Calls Try.prog 11 #[.pointer x2, .agg #[.int .i64 x03, .int .i64 x14, .int .i64 x23, .int .i64 x32, Sl.v x41]] w_7 (fun e w_8 => ∃ x04 : Int, ∃ x15 : Int, ∃ x24 : Sl, ∃ x33 : Sl, e = .returned (.tuple #[.int .i64 x04, .int .i64 x15, Sl.v x24, Sl.v x33]) ∧
  ∃ ad3 : Addr, SlAt more i1 5 ad3 ∧
  ∃ x05 : Int, ∃ x16 : Int, ∃ x25 : Int, ∃ x34 : Int, ∃ x42 : Sl, Cells w_8 ad3 [.int .i64 x05, .int .i64 x16, .int .i64 x25, .int .i64 x34, Sl.v x42] ∧
  Calls Try.prog 11 #[.pointer x02, .agg #[.int .i64 x05, .int .i64 x16, .int .i64 x25, .int .i64 x34, Sl.v x42]] w_8 (fun e w_9 => ∃ x06 : Int, ∃ x17 : Int, ∃ x26 : Sl, ∃ x35 : Sl, e = .returned (.tuple #[.int .i64 x06, .int .i64 x17, Sl.v x26, Sl.v x35]) ∧
  ∃ J_ : Bool → World → Prop, (∀ (t130 : Bool) (w_10 : World), J_ t130 w_10 →
  ((t130 = true →
  R (.bool false) w_10) ∧
  (t130 = false →
  ∃ nv5 : Nat, nv5 < nv3 ∧ I_1 nv5 (IntKind.i64.wrap (i1 + 1)) w_10))) ∧
  (∀ (w_11 : World), Only [] w_9 w_11 →
  (((x04 != x06) = true →
  J_ true w_11) ∧
  ((x04 != x06) = false →
  (((x15 != x17) = true →
  J_ true w_11) ∧
  ((x15 != x17) = false →
  ∃ bs : List UInt8, Bytes w_11 x24 bs ∧
  ∃ bs1 : List UInt8, Bytes w_11 x26 bs1 ∧
  (((!((⟨List.toArray bs⟩ : ByteArray).toList == (⟨List.toArray bs1⟩ : ByteArray).toList)) = true →
  J_ true w_11) ∧
  ((!((⟨List.toArray bs⟩ : ByteArray).toList == (⟨List.toArray bs1⟩ : ByteArray).toList)) = false →
  Calls Try.prog 21 #[Sl.v x33, Sl.v x35] w_11 (fun e w_12 => ∃ x7 : Bool, e = .returned (.bool x7) ∧
  (((!x7) = true →
  J_ true w_12) ∧
  ((!x7) = false →
  ∃ ad4 : Addr, x2 = some ad4 ∧
  ∃ ad5 : Addr, x02 = some ad5 ∧
  Calls Try.prog 14 #[.pointer (some (Addr.add ad4 0))] w_12 (fun e w_13 => ∃ x8 : Sl, e = .returned (Sl.v x8) ∧
  Calls Try.prog 14 #[.pointer (some (Addr.add ad5 0))] w_13 (fun e w_14 => ∃ x9 : Sl, e = .returned (Sl.v x9) ∧
  Calls Try.prog 19 #[Sl.v x8, Sl.v x9] w_14 (fun e w_15 => ∃ x10 : Bool, e = .returned (.bool x10) ∧
  (((!x10) = true →
  J_ true w_15) ∧
  ((!x10) = false →
  Calls Try.prog 15 #[.pointer x2] w_15 (fun e w_16 => ∃ x18 : Int, e = .returned (.int .i64 x18) ∧
  Calls Try.prog 15 #[.pointer x02] w_16 (fun e w_17 => ∃ x19 : Int, e = .returned (.int .i64 x19) ∧
  J_ (x18 != x19) w_17)))))))))))))))))))) ∧
  (((decide (i1 < (↑(Sl.n more) : Int))) && (decide (i1 < 100))) = false →
  R (.bool true) w_7)))))))))))))
theorem pavanelaw19_SessionAgain_wp (acts : Sl) (more : Sl) (R : Value → World → Prop) (w : World) (h : pavanelaw19_SessionAgain_vc acts more R w) :
    Calls Try.prog 7 #[Sl.v acts, Sl.v more] w fun e w' => ∃ v, e = .returned v ∧ R v w' := by
  unfold pavanelaw19_SessionAgain_vc at h
  refine calls_of (k := 129) Try.func7 rfl Try.ntmps7 rfl rfl ?_
  simp only [List.replicate, List.cons_append, List.nil_append]
  refine wp_seq ?_
  refine wp_region_lit ?_
  refine st_val (.bool false) (wn rfl) rfl (by simp only [f0, f1, f2]; rfl) ?_
  refine wpList_nil ?_
  refine then_normal ?_
  refine wp_seq ?_
  refine wp_region_lit ?_
  refine st_one (wn rfl) ?_
  refine o_enter (args := #[]) (r_enter Try.call8 rfl) (h.mono ?_)
  clear h
  rintro _ w_ ⟨x1, rfl, h⟩
  refine ⟨_, _, rfl, (by simp only [f0, f1, f2]; rfl), ?_⟩
  refine st_val (.bool x1) (wn rfl) rfl (by simp only [f0, f1, f2]; rfl) ?_
  refine wpList_nil ?_
  refine then_normal ?_
  refine wp_seq ?_
  refine wp_region_lit ?_
  refine st_one (wn rfl) ?_
  refine o_enter (args := #[]) (r_enter Try.call9 rfl) (h.mono ?_)
  clear h
  rintro _ w_1 ⟨x2, rfl, h⟩
  refine ⟨_, _, rfl, (by simp only [f0, f1, f2]; rfl), ?_⟩
  refine st_val (.pointer x2) (wn rfl) rfl (by simp only [f0, f1, f2]; rfl) ?_
  refine wpList_nil ?_
  refine then_normal ?_
  refine wp_seq ?_
  refine wp_seq ?_
  refine wp_region_lit ?_
  refine st_val (.bool x1) (wn rfl) rfl (by simp only [f0, f1, f2]; rfl) ?_
  refine st_val (.bool (!x1)) (wn rfl) rfl (by simp only [f0, f1, f2]; rfl) ?_
  refine st_val (.bool (!x1)) (wn rfl) rfl (by simp only [f0, f1, f2]; rfl) ?_
  refine st_cut 3 (fun a' w' => (∃ us : Nat → Value, a' = (⟨(fillin us 0 (some (Sl.v acts) :: some (Sl.v more) :: some undef :: some undef :: some (.bool false) :: some (.bool x1) :: some (.pointer x2) :: some undef :: some undef :: some undef :: some undef :: some undef :: some undef :: some undef :: some undef :: some undef :: some undef :: some undef :: some undef :: some (.bool x1) :: some (.pointer x2) :: some (.bool x1) :: some (.bool (!x1)) :: some (.bool (!x1)) :: none :: none :: some (.bool ((!x1) || (Option.isNone x2))) :: some undef :: some undef :: some undef :: some undef :: some undef :: some undef :: some undef :: some undef :: some undef :: some undef :: some undef :: some undef :: some undef :: some undef :: some undef :: some undef :: some undef :: some undef :: some undef :: some undef :: some undef :: some undef :: some undef :: some undef :: some undef :: some undef :: some undef :: some undef :: some undef :: some undef :: some undef :: some undef :: some undef :: some undef :: some undef :: some undef :: some undef :: some undef :: some undef :: some undef :: some undef :: some undef :: some undef :: some undef :: some undef :: some undef :: some undef :: some undef :: some undef :: some undef :: some undef :: some undef :: some undef :: some undef :: some undef :: some undef :: some undef :: some undef :: some undef :: some undef :: some undef :: some undef :: some undef :: some undef :: some undef :: some undef :: some undef :: some undef :: some undef :: some undef :: some undef :: some undef :: some undef :: some undef :: some undef :: some undef :: some undef :: some undef :: some undef :: some undef :: some undef :: some undef :: some undef :: some undef :: some undef :: some undef :: some undef :: some undef :: some undef :: some undef :: some undef :: some undef :: some undef :: some undef :: some undef :: some undef :: some undef :: some undef :: some undef :: some undef :: some undef :: some undef :: some undef :: some undef :: [])).toArray, []⟩ : Act)) ∧ w_1 = w') ?_ ?_
  · simp only [List.take_succ_cons, List.take_zero]
    rcases Bool.eq_false_or_eq_true (!x1) with hg | hg
    · refine st_no (wt rfl rfl rfl (congrArg (fun z => some (Value.bool z)) hg) rfl) (by simp only [f0, f1, f2]; rfl) ?_
      refine st_no (wt rfl rfl rfl (congrArg (fun z => some (Value.bool z)) hg) rfl) (by simp only [f0, f1, f2]; rfl) ?_
      refine st_val (.bool true) (wn rfl) (r_pickT (congrArg Value.bool hg) rfl) (by simp only [f0, f1, f2]; rfl) ?_
      refine wpList_nil ?_
      exact then_normal ⟨some_us (by simp only [masked, hg, Bool.true_and, Bool.false_and, Bool.true_or, Bool.false_or, cond_true, cond_false]) rfl rfl, rfl⟩
    · refine st_val (.pointer x2) (wt rfl rfl rfl (congrArg (fun z => some (Value.bool z)) hg) rfl) rfl (by simp only [f0, f1, f2]; rfl) ?_
      refine st_val (.bool (Option.isNone x2)) (wt rfl rfl rfl (congrArg (fun z => some (Value.bool z)) hg) rfl) (r_eqlPtrNilR (Try.runUnderlying24 _) rfl rfl rfl) (by simp only [f0, f1, f2]; rfl) ?_
      refine st_val (.bool (Option.isNone x2)) (wn rfl) (r_pickF (congrArg Value.bool hg) rfl) (by simp only [f0, f1, f2]; rfl) ?_
      refine wpList_nil ?_
      exact then_normal ⟨some_us (by simp only [masked, hg, Bool.true_and, Bool.false_and, Bool.true_or, Bool.false_or, cond_true, cond_false]) rfl rfl, rfl⟩
  rintro a0 _ ⟨⟨us, hF⟩, rfl⟩
  simp only [fillin, Nat.reduceAdd] at hF
  subst hF
  simp only [List.drop_succ_cons, List.drop_zero]
  refine wpList_nil ?_
  refine then_normal ?_
  refine wp_cond_split (t := ((!x1) || (Option.isNone x2))) rfl (fun hc => ?_) (fun hc => ?_)
  · replace h := h.1 hc
    refine wp_seq ?_
    refine wp_region_lit ?_
    refine st_val (.bool false) (wn rfl) rfl (by simp only [f0, f1, f2]; rfl) ?_
    refine wpList_nil ?_
    refine then_normal ?_
    refine wp_ret ?_
    refine then_ret ?_
    exact end_ret (r_res1 (v := .bool false) Try.results7 ⟨rfl, trivial⟩) rfl h
  · replace h := h.2 hc
    refine wp_skip ?_
    refine then_normal ?_
    refine wp_seq ?_
    refine wp_seq ?_
    refine wp_region_lit ?_
    refine st_val (.int .i64 0) (wn rfl) rfl (by simp only [f0, f1, f2]; rfl) ?_
    refine wpList_nil ?_
    refine then_normal ?_
    refine wp_block ?_
    obtain ⟨I_, nv1, h0, hI⟩ := h
    refine wp_loop_ghost (fun nv' a' w' => ∃ i : Int, (∃ us1 : Nat → Value, a' = (⟨(fillin us1 0 (some (Sl.v acts) :: some (Sl.v more) :: some undef :: some undef :: some (.bool false) :: some (.bool x1) :: some (.pointer x2) :: some (.int .i64 i) :: some undef :: some undef :: some undef :: some undef :: some undef :: some undef :: some undef :: some undef :: some undef :: some undef :: some undef :: some (.bool x1) :: some (.pointer x2) :: some (.bool x1) :: some (.bool (!x1)) :: some (.bool (!x1)) :: some ((us 24)) :: some ((us 25)) :: some (.bool ((!x1) || (Option.isNone x2))) :: none :: none :: none :: none :: none :: none :: none :: none :: none :: none :: none :: none :: none :: none :: none :: none :: some undef :: some undef :: some undef :: some undef :: some undef :: some undef :: some undef :: some undef :: some undef :: some undef :: some undef :: some undef :: some undef :: some undef :: some undef :: some undef :: some undef :: some undef :: some undef :: some undef :: some undef :: some undef :: some undef :: some undef :: some undef :: some undef :: some undef :: some undef :: some undef :: some undef :: some undef :: some undef :: some undef :: some undef :: some undef :: some undef :: some undef :: some undef :: some undef :: some undef :: some undef :: some undef :: some undef :: some undef :: some undef :: some undef :: some undef :: some undef :: some undef :: some undef :: some undef :: some undef :: some undef :: some undef :: some undef :: some undef :: some undef :: some undef :: some undef :: some undef :: some undef :: some undef :: some undef :: some undef :: some undef :: some undef :: some undef :: some undef :: some undef :: some undef :: some undef :: some undef :: some undef :: some undef :: some undef :: some undef :: some undef :: some undef :: some undef :: some undef :: some undef :: some undef :: some undef :: some undef :: some undef :: some undef :: some undef :: some undef :: [])).toArray, []⟩ : Act)) ∧ I_ nv' i w') nv1 ?_ ?_
    · exact ⟨_, (some_us rfl rfl rfl), h0⟩
    · clear h0
      rintro nv a0 w_2 ⟨i, ⟨us1, hF⟩, h⟩
      simp only [fillin, Nat.reduceAdd] at hF
      subst hF
      replace h := hI _ _ _ h
      refine wp_seq ?_
      refine wp_seq ?_
      refine wp_region_lit ?_
      refine st_val (.int .i64 i) (wn rfl) rfl (by simp only [f0, f1, f2]; rfl) ?_
      refine st_val (Sl.v acts) (wn rfl) rfl (by simp only [f0, f1, f2]; rfl) ?_
      refine st_val (.int .i64 (↑(Sl.n acts) : Int)) (wn rfl) (r_len (s := acts) (Try.runUnderlying22 _) rfl) (by simp only [f0, f1, f2]; rfl) ?_
      refine st_val (.bool (decide (i < (↑(Sl.n acts) : Int)))) (wn rfl) rfl (by simp only [f0, f1, f2]; rfl) ?_
      refine st_val (.bool (decide (i < (↑(Sl.n acts) : Int)))) (wn rfl) rfl (by simp only [f0, f1, f2]; rfl) ?_
      refine st_cut 3 (fun a' w' => (∃ us2 : Nat → Value, a' = (⟨(fillin us2 0 (some (Sl.v acts) :: some (Sl.v more) :: some undef :: some undef :: some (.bool false) :: some (.bool x1) :: some (.pointer x2) :: some (.int .i64 i) :: some undef :: some undef :: some undef :: some undef :: some undef :: some undef :: some undef :: some undef :: some undef :: some undef :: some undef :: some (.bool x1) :: some (.pointer x2) :: some (.bool x1) :: some (.bool (!x1)) :: some (.bool (!x1)) :: some ((us 24)) :: some ((us 25)) :: some (.bool ((!x1) || (Option.isNone x2))) :: some (.int .i64 i) :: some (Sl.v acts) :: some (.int .i64 (↑(Sl.n acts) : Int)) :: some (.bool (decide (i < (↑(Sl.n acts) : Int)))) :: some (.bool (decide (i < (↑(Sl.n acts) : Int)))) :: none :: none :: some (.bool ((decide (i < (↑(Sl.n acts) : Int))) && (decide (i < 100)))) :: some ((us1 35)) :: some ((us1 36)) :: some ((us1 37)) :: some ((us1 38)) :: some ((us1 39)) :: some ((us1 40)) :: some ((us1 41)) :: some ((us1 42)) :: some undef :: some undef :: some undef :: some undef :: some undef :: some undef :: some undef :: some undef :: some undef :: some undef :: some undef :: some undef :: some undef :: some undef :: some undef :: some undef :: some undef :: some undef :: some undef :: some undef :: some undef :: some undef :: some undef :: some undef :: some undef :: some undef :: some undef :: some undef :: some undef :: some undef :: some undef :: some undef :: some undef :: some undef :: some undef :: some undef :: some undef :: some undef :: some undef :: some undef :: some undef :: some undef :: some undef :: some undef :: some undef :: some undef :: some undef :: some undef :: some undef :: some undef :: some undef :: some undef :: some undef :: some undef :: some undef :: some undef :: some undef :: some undef :: some undef :: some undef :: some undef :: some undef :: some undef :: some undef :: some undef :: some undef :: some undef :: some undef :: some undef :: some undef :: some undef :: some undef :: some undef :: some undef :: some undef :: some undef :: some undef :: some undef :: some undef :: some undef :: some undef :: some undef :: some undef :: some undef :: some undef :: some undef :: some undef :: some undef :: [])).toArray, []⟩ : Act)) ∧ w_2 = w') ?_ ?_
      · simp only [List.take_succ_cons, List.take_zero]
        rcases Bool.eq_false_or_eq_true (decide (i < (↑(Sl.n acts) : Int))) with hg1 | hg1
        · refine st_val (.int .i64 i) (wt rfl rfl rfl (congrArg (fun z => some (Value.bool z)) hg1) rfl) rfl (by simp only [f0, f1, f2]; rfl) ?_
          refine st_val (.bool (decide (i < 100))) (wt rfl rfl rfl (congrArg (fun z => some (Value.bool z)) hg1) rfl) rfl (by simp only [f0, f1, f2]; rfl) ?_
          refine st_val (.bool (decide (i < 100))) (wn rfl) (r_pickT (congrArg Value.bool hg1) rfl) (by simp only [f0, f1, f2]; rfl) ?_
          refine wpList_nil ?_
          exact then_normal ⟨some_us (by simp only [masked, hg1, Bool.true_and, Bool.false_and, Bool.true_or, Bool.false_or, cond_true, cond_false]) rfl rfl, rfl⟩
        · refine st_no (wt rfl rfl rfl (congrArg (fun z => some (Value.bool z)) hg1) rfl) (by simp only [f0, f1, f2]; rfl) ?_
          refine st_no (wt rfl rfl rfl (congrArg (fun z => some (Value.bool z)) hg1) rfl) (by simp only [f0, f1, f2]; rfl) ?_
          refine st_val (.bool false) (wn rfl) (r_pickF (congrArg Value.bool hg1) rfl) (by simp only [f0, f1, f2]; rfl) ?_
          refine wpList_nil ?_
          exact then_normal ⟨some_us (by simp only [masked, hg1, Bool.true_and, Bool.false_and, Bool.true_or, Bool.false_or, cond_true, cond_false]) rfl rfl, rfl⟩
      rintro a0 _ ⟨⟨us2, hF⟩, rfl⟩
      simp only [fillin, Nat.reduceAdd] at hF
      subst hF
      simp only [List.drop_succ_cons, List.drop_zero]
      refine wpList_nil ?_
      refine then_normal ?_
      refine wp_cond_split (t := ((decide (i < (↑(Sl.n acts) : Int))) && (decide (i < 100)))) rfl (fun hc1 => ?_) (fun hc1 => ?_)
      · replace h := h.1 hc1
        refine wp_skip ?_
        refine then_normal ?_
        refine wp_seq ?_
        refine wp_block ?_
        refine wp_region_lit ?_
        refine st_val (.pointer x2) (wn rfl) rfl (by simp only [f0, f1, f2]; rfl) ?_
        refine st_val (Sl.v acts) (wn rfl) rfl (by simp only [f0, f1, f2]; rfl) ?_
        refine st_val (.int .i64 i) (wn rfl) rfl (by simp only [f0, f1, f2]; rfl) ?_
        obtain ⟨ad, hx, h⟩ := h
        refine st_val (.pointer (some ad)) (wn rfl) (r_indexS (s := acts) (Try.runUnderlying22 _) (Try.sizeOf29 _) rfl rfl hx) (by simp only [f0, f1, f2]; rfl) ?_
        obtain ⟨x0, x11, x21, x3, x4, hx1, h⟩ := h
        refine st_val (.agg #[.int .i64 x0, .int .i64 x11, .int .i64 x21, .int .i64 x3, Sl.v x4]) (wn rfl) (r_loadN (Try.isAgg29 _) (Try.sizeOf29 _) rfl rfl hx1) (by simp only [f0, f1, f2]; rfl) ?_
        refine st_one (wn rfl) ?_
        refine o_enter (args := #[.pointer x2, .agg #[.int .i64 x0, .int .i64 x11, .int .i64 x21, .int .i64 x3, Sl.v x4]]) (r_enter Try.call11 rfl) (h.mono ?_)
        clear h
        rintro _ w_3 ⟨x01, x12, x22, x31, rfl, h⟩
        refine ⟨_, _, rfl, (by simp only [f0, f1, f2]; rfl), ?_⟩
        refine wpList_nil ?_
        refine block_normal ?_
        refine then_normal ?_
        refine wp_region_lit ?_
        refine st_val (.int .i64 i) (wn rfl) rfl (by simp only [f0, f1, f2]; rfl) ?_
        refine st_val (.int .i64 (IntKind.i64.wrap (i + 1))) (wn rfl) rfl (by simp only [f0, f1, f2]; rfl) ?_
        refine st_val (.int .i64 (IntKind.i64.wrap (i + 1))) (wn rfl) rfl (by simp only [f0, f1, f2]; rfl) ?_
        refine wpList_nil ?_
        refine then_normal ?_
        obtain ⟨nv2, hl, h⟩ := h
        exact ⟨nv2, hl, _, (some_us rfl rfl rfl), h⟩
      · replace h := h.2 hc1
        refine wp_exit ?_
        refine then_exit ?_
        refine then_exit ?_
        refine block_hit ?_
        refine then_normal ?_
        refine wp_seq ?_
        refine wp_region_lit ?_
        refine st_val (.pointer x2) (wn rfl) rfl (by simp only [f0, f1, f2]; rfl) ?_
        obtain ⟨ad1, hx2, h⟩ := h
        refine st_val (.pointer (some ad1)) (wn rfl) (r_nil (congrArg Value.pointer hx2)) (by simp only [f0, f1, f2]; rfl) ?_
        refine st_val (.pointer (some (Addr.add ad1 0))) (wn rfl) (r_field (Try.runUnderlying47 _) rfl (Try.sizeOf45 _) rfl rfl) (by simp only [f0, f1, f2]; rfl) ?_
        refine st_one (wn rfl) ?_
        refine o_enter (args := #[.pointer (some (Addr.add ad1 0))]) (r_enter Try.call14 rfl) (h.mono ?_)
        clear h
        rintro _ w_4 ⟨x5, rfl, h⟩
        refine ⟨_, _, rfl, (by simp only [f0, f1, f2]; rfl), ?_⟩
        refine st_val (.pointer x2) (wn rfl) rfl (by simp only [f0, f1, f2]; rfl) ?_
        refine st_one (wn rfl) ?_
        refine o_enter (args := #[.pointer x2]) (r_enter Try.call15 rfl) (h.mono ?_)
        clear h
        rintro _ w_5 ⟨x6, rfl, h⟩
        refine ⟨_, _, rfl, (by simp only [f0, f1, f2]; rfl), ?_⟩
        refine st_one (wn rfl) ?_
        refine o_enter (args := #[Sl.v x5, .int .i64 x6]) (r_enter Try.call17 rfl) (h.mono ?_)
        clear h
        rintro _ w_6 ⟨x02, x13, rfl, h⟩
        refine ⟨_, _, rfl, (by simp only [f0, f1, f2]; rfl), ?_⟩
        refine st_val (.tuple #[.pointer x02, .int .i64 x13]) (wn rfl) rfl (by simp only [f0, f1, f2]; rfl) ?_
        refine st_val (.pointer x02) (wn rfl) rfl (by simp only [f0, f1, f2]; rfl) ?_
        refine st_val (.int .i64 x13) (wn rfl) rfl (by simp only [f0, f1, f2]; rfl) ?_
        refine st_val (.pointer x02) (wn rfl) rfl (by simp only [f0, f1, f2]; rfl) ?_
        refine st_val (.int .i64 x13) (wn rfl) rfl (by simp only [f0, f1, f2]; rfl) ?_
        refine wpList_nil ?_
        refine then_normal ?_
        refine wp_seq ?_
        refine wp_seq ?_
        refine wp_region_lit ?_
        refine st_val (.pointer x02) (wn rfl) rfl (by simp only [f0, f1, f2]; rfl) ?_
        refine st_val (.bool (Option.isNone x02)) (wn rfl) (r_eqlPtrNilR (Try.runUnderlying24 _) rfl rfl rfl) (by simp only [f0, f1, f2]; rfl) ?_
        refine st_val (.bool (Option.isNone x02)) (wn rfl) rfl (by simp only [f0, f1, f2]; rfl) ?_
        refine st_cut 3 (fun a' w' => (∃ us3 : Nat → Value, a' = (⟨(fillin us3 0 (some (Sl.v acts) :: some (Sl.v more) :: some undef :: some undef :: some (.bool false) :: some (.bool x1) :: some (.pointer x2) :: some (.int .i64 i) :: some (.pointer x02) :: some (.int .i64 x13) :: some undef :: some undef :: some undef :: some undef :: some undef :: some undef :: some undef :: some undef :: some undef :: some (.bool x1) :: some (.pointer x2) :: some (.bool x1) :: some (.bool (!x1)) :: some (.bool (!x1)) :: some ((us 24)) :: some ((us 25)) :: some (.bool ((!x1) || (Option.isNone x2))) :: some (.int .i64 i) :: some (Sl.v acts) :: some (.int .i64 (↑(Sl.n acts) : Int)) :: some (.bool (decide (i < (↑(Sl.n acts) : Int)))) :: some (.bool (decide (i < (↑(Sl.n acts) : Int)))) :: some ((us2 32)) :: some ((us2 33)) :: some (.bool ((decide (i < (↑(Sl.n acts) : Int))) && (decide (i < 100)))) :: some ((us1 35)) :: some ((us1 36)) :: some ((us1 37)) :: some ((us1 38)) :: some ((us1 39)) :: some ((us1 40)) :: some ((us1 41)) :: some ((us1 42)) :: some (.tuple #[.pointer x02, .int .i64 x13]) :: some (.pointer x2) :: some (.pointer (some ad1)) :: some (.pointer (some (Addr.add ad1 0))) :: some (Sl.v x5) :: some (.pointer x2) :: some (.int .i64 x6) :: some (.tuple #[.pointer x02, .int .i64 x13]) :: some (.pointer x02) :: some (.int .i64 x13) :: some (.pointer x02) :: some (.bool (Option.isNone x02)) :: some (.bool (Option.isNone x02)) :: none :: none :: some (.bool ((Option.isNone x02) || (x13 != 0))) :: some undef :: some undef :: some undef :: some undef :: some undef :: some undef :: some undef :: some undef :: some undef :: some undef :: some undef :: some undef :: some undef :: some undef :: some undef :: some undef :: some undef :: some undef :: some undef :: some undef :: some undef :: some undef :: some undef :: some undef :: some undef :: some undef :: some undef :: some undef :: some undef :: some undef :: some undef :: some undef :: some undef :: some undef :: some undef :: some undef :: some undef :: some undef :: some undef :: some undef :: some undef :: some undef :: some undef :: some undef :: some undef :: some undef :: some undef :: some undef :: some undef :: some undef :: some undef :: some undef :: some undef :: some undef :: some undef :: some undef :: some undef :: some undef :: some undef :: some undef :: some undef :: some undef :: some undef :: some undef :: some undef :: some undef :: some undef :: some undef :: some undef :: some undef :: some undef :: some undef :: [])).toArray, []⟩ : Act)) ∧ w_6 = w') ?_ ?_
        · simp only [List.take_succ_cons, List.take_zero]
          rcases Bool.eq_false_or_eq_true (Option.isNone x02) with hg2 | hg2
          · refine st_no (wt rfl rfl rfl (congrArg (fun z => some (Value.bool z)) hg2) rfl) (by simp only [f0, f1, f2]; rfl) ?_
            refine st_no (wt rfl rfl rfl (congrArg (fun z => some (Value.bool z)) hg2) rfl) (by simp only [f0, f1, f2]; rfl) ?_
            refine st_val (.bool true) (wn rfl) (r_pickT (congrArg Value.bool hg2) rfl) (by simp only [f0, f1, f2]; rfl) ?_
            refine wpList_nil ?_
            exact then_normal ⟨some_us (by simp only [masked, hg2, Bool.true_and, Bool.false_and, Bool.true_or, Bool.false_or, cond_true, cond_false]) rfl rfl, rfl⟩
          · refine st_val (.int .i64 x13) (wt rfl rfl rfl (congrArg (fun z => some (Value.bool z)) hg2) rfl) rfl (by simp only [f0, f1, f2]; rfl) ?_
            refine st_val (.bool (x13 != 0)) (wt rfl rfl rfl (congrArg (fun z => some (Value.bool z)) hg2) rfl) rfl (by simp only [f0, f1, f2]; rfl) ?_
            refine st_val (.bool (x13 != 0)) (wn rfl) (r_pickF (congrArg Value.bool hg2) rfl) (by simp only [f0, f1, f2]; rfl) ?_
            refine wpList_nil ?_
            exact then_normal ⟨some_us (by simp only [masked, hg2, Bool.true_and, Bool.false_and, Bool.true_or, Bool.false_or, cond_true, cond_false]) rfl rfl, rfl⟩
        rintro a0 _ ⟨⟨us3, hF⟩, rfl⟩
        simp only [fillin, Nat.reduceAdd] at hF
        subst hF
        simp only [List.drop_succ_cons, List.drop_zero]
        refine wpList_nil ?_
        refine then_normal ?_
        refine wp_cond_split (t := ((Option.isNone x02) || (x13 != 0))) rfl (fun hc2 => ?_) (fun hc2 => ?_)
        · replace h := h.1 hc2
          refine wp_seq ?_
          refine wp_region_lit ?_
          refine st_val (.bool false) (wn rfl) rfl (by simp only [f0, f1, f2]; rfl) ?_
          refine wpList_nil ?_
          refine then_normal ?_
          refine wp_ret ?_
          refine then_ret ?_
          exact end_ret (r_res1 (v := .bool false) Try.results7 ⟨rfl, trivial⟩) rfl h
        · replace h := h.2 hc2
          refine wp_skip ?_
          refine then_normal ?_
          refine wp_seq ?_
          refine wp_seq ?_
          refine wp_region_lit ?_
          refine st_val (.int .i64 0) (wn rfl) rfl (by simp only [f0, f1, f2]; rfl) ?_
          refine wpList_nil ?_
          refine then_normal ?_
          refine wp_block ?_
          obtain ⟨I_1, nv4, h01, hI1⟩ := h
          refine wp_loop_ghost (fun nv' a' w' => ∃ i1 : Int, (∃ us4 : Nat → Value, a' = (⟨(fillin us4 0 (some (Sl.v acts) :: some (Sl.v more) :: some undef :: some undef :: none :: some (.bool x1) :: some (.pointer x2) :: some (.int .i64 i) :: some (.pointer x02) :: some (.int .i64 x13) :: some (.int .i64 i1) :: none :: none :: none :: none :: none :: none :: none :: none :: some (.bool x1) :: some (.pointer x2) :: some (.bool x1) :: some (.bool (!x1)) :: some (.bool (!x1)) :: some ((us 24)) :: some ((us 25)) :: some (.bool ((!x1) || (Option.isNone x2))) :: some (.int .i64 i) :: some (Sl.v acts) :: some (.int .i64 (↑(Sl.n acts) : Int)) :: some (.bool (decide (i < (↑(Sl.n acts) : Int)))) :: some (.bool (decide (i < (↑(Sl.n acts) : Int)))) :: some ((us2 32)) :: some ((us2 33)) :: some (.bool ((decide (i < (↑(Sl.n acts) : Int))) && (decide (i < 100)))) :: some ((us1 35)) :: some ((us1 36)) :: some ((us1 37)) :: some ((us1 38)) :: some ((us1 39)) :: some ((us1 40)) :: some ((us1 41)) :: some ((us1 42)) :: some (.tuple #[.pointer x02, .int .i64 x13]) :: some (.pointer x2) :: some (.pointer (some ad1)) :: some (.pointer (some (Addr.add ad1 0))) :: some (Sl.v x5) :: some (.pointer x2) :: some (.int .i64 x6) :: some (.tuple #[.pointer x02, .int .i64 x13]) :: some (.pointer x02) :: some (.int .i64 x13) :: some (.pointer x02) :: some (.bool (Option.isNone x02)) :: some (.bool (Option.isNone x02)) :: some ((us3 56)) :: some ((us3 57)) :: some (.bool ((Option.isNone x02) || (x13 != 0))) :: none :: none :: none :: none :: none :: none :: none :: none :: none :: none :: none :: none :: none :: none :: none :: none :: none :: none :: none :: none :: none :: none :: none :: none :: none :: none :: none :: none :: none :: none :: none :: none :: none :: none :: none :: none :: none :: none :: none :: none :: none :: none :: none :: none :: none :: none :: none :: none :: none :: none :: none :: none :: none :: none :: none :: none :: none :: none :: none :: none :: none :: none :: none :: none :: none :: none :: none :: none :: none :: none :: none :: none :: [])).toArray, []⟩ : Act)) ∧ I_1 nv' i1 w') nv4 ?_ ?_
          · exact ⟨_, (some_us rfl rfl rfl), h01⟩
          · clear h01
            rintro nv3 a0 w_7 ⟨i1, ⟨us4, hF⟩, h⟩
            simp only [fillin, Nat.reduceAdd] at hF
            subst hF
            replace h := hI1 _ _ _ h
            refine wp_seq ?_
            refine wp_seq ?_
            refine wp_region_lit ?_
            refine st_val (.int .i64 i1) (wn rfl) rfl (by simp only [f0, f1, f2]; rfl) ?_
            refine st_val (Sl.v more) (wn rfl) rfl (by simp only [f0, f1, f2]; rfl) ?_
            refine st_val (.int .i64 (↑(Sl.n more) : Int)) (wn rfl) (r_len (s := more) (Try.runUnderlying22 _) rfl) (by simp only [f0, f1, f2]; rfl) ?_
            refine st_val (.bool (decide (i1 < (↑(Sl.n more) : Int)))) (wn rfl) rfl (by simp only [f0, f1, f2]; rfl) ?_
            refine st_val (.bool (decide (i1 < (↑(Sl.n more) : Int)))) (wn rfl) rfl (by simp only [f0, f1, f2]; rfl) ?_
            refine st_cut 3 (fun a' w' => (∃ us5 : Nat → Value, a' = (⟨(fillin us5 0 (some (Sl.v acts) :: some (Sl.v more) :: some undef :: some undef :: some ((us4 4)) :: some (.bool x1) :: some (.pointer x2) :: some (.int .i64 i) :: some (.pointer x02) :: some (.int .i64 x13) :: some (.int .i64 i1) :: some ((us4 11)) :: some ((us4 12)) :: some ((us4 13)) :: some ((us4 14)) :: some ((us4 15)) :: some ((us4 16)) :: some ((us4 17)) :: some ((us4 18)) :: some (.bool x1) :: some (.pointer x2) :: some (.bool x1) :: some (.bool (!x1)) :: some (.bool (!x1)) :: some ((us 24)) :: some ((us 25)) :: some (.bool ((!x1) || (Option.isNone x2))) :: some (.int .i64 i) :: some (Sl.v acts) :: some (.int .i64 (↑(Sl.n acts) : Int)) :: some (.bool (decide (i < (↑(Sl.n acts) : Int)))) :: some (.bool (decide (i < (↑(Sl.n acts) : Int)))) :: some ((us2 32)) :: some ((us2 33)) :: some (.bool ((decide (i < (↑(Sl.n acts) : Int))) && (decide (i < 100)))) :: some ((us1 35)) :: some ((us1 36)) :: some ((us1 37)) :: some ((us1 38)) :: some ((us1 39)) :: some ((us1 40)) :: some ((us1 41)) :: some ((us1 42)) :: some (.tuple #[.pointer x02, .int .i64 x13]) :: some (.pointer x2) :: some (.pointer (some ad1)) :: some (.pointer (some (Addr.add ad1 0))) :: some (Sl.v x5) :: some (.pointer x2) :: some (.int .i64 x6) :: some (.tuple #[.pointer x02, .int .i64 x13]) :: some (.pointer x02) :: some (.int .i64 x13) :: some (.pointer x02) :: some (.bool (Option.isNone x02)) :: some (.bool (Option.isNone x02)) :: some ((us3 56)) :: some ((us3 57)) :: some (.bool ((Option.isNone x02) || (x13 != 0))) :: some (.int .i64 i1) :: some (Sl.v more) :: some (.int .i64 (↑(Sl.n more) : Int)) :: some (.bool (decide (i1 < (↑(Sl.n more) : Int)))) :: some (.bool (decide (i1 < (↑(Sl.n more) : Int)))) :: none :: none :: some (.bool ((decide (i1 < (↑(Sl.n more) : Int))) && (decide (i1 < 100)))) :: some ((us4 67)) :: some ((us4 68)) :: some ((us4 69)) :: some ((us4 70)) :: some ((us4 71)) :: some ((us4 72)) :: some ((us4 73)) :: some ((us4 74)) :: some ((us4 75)) :: some ((us4 76)) :: some ((us4 77)) :: some ((us4 78)) :: some ((us4 79)) :: some ((us4 80)) :: some ((us4 81)) :: some ((us4 82)) :: some ((us4 83)) :: some ((us4 84)) :: some ((us4 85)) :: some ((us4 86)) :: some ((us4 87)) :: some ((us4 88)) :: some ((us4 89)) :: some ((us4 90)) :: some ((us4 91)) :: some ((us4 92)) :: some ((us4 93)) :: some ((us4 94)) :: some ((us4 95)) :: some ((us4 96)) :: some ((us4 97)) :: some ((us4 98)) :: some ((us4 99)) :: some ((us4 100)) :: some ((us4 101)) :: some ((us4 102)) :: some ((us4 103)) :: some ((us4 104)) :: some ((us4 105)) :: some ((us4 106)) :: some ((us4 107)) :: some ((us4 108)) :: some ((us4 109)) :: some ((us4 110)) :: some ((us4 111)) :: some ((us4 112)) :: some ((us4 113)) :: some ((us4 114)) :: some ((us4 115)) :: some ((us4 116)) :: some ((us4 117)) :: some ((us4 118)) :: some ((us4 119)) :: some ((us4 120)) :: some ((us4 121)) :: some ((us4 122)) :: some ((us4 123)) :: some ((us4 124)) :: some ((us4 125)) :: some ((us4 126)) :: some ((us4 127)) :: some ((us4 128)) :: some ((us4 129)) :: some ((us4 130)) :: [])).toArray, []⟩ : Act)) ∧ w_7 = w') ?_ ?_
            · simp only [List.take_succ_cons, List.take_zero]
              rcases Bool.eq_false_or_eq_true (decide (i1 < (↑(Sl.n more) : Int))) with hg3 | hg3
              · refine st_val (.int .i64 i1) (wt rfl rfl rfl (congrArg (fun z => some (Value.bool z)) hg3) rfl) rfl (by simp only [f0, f1, f2]; rfl) ?_
                refine st_val (.bool (decide (i1 < 100))) (wt rfl rfl rfl (congrArg (fun z => some (Value.bool z)) hg3) rfl) rfl (by simp only [f0, f1, f2]; rfl) ?_
                refine st_val (.bool (decide (i1 < 100))) (wn rfl) (r_pickT (congrArg Value.bool hg3) rfl) (by simp only [f0, f1, f2]; rfl) ?_
                refine wpList_nil ?_
                exact then_normal ⟨some_us (by simp only [masked, hg3, Bool.true_and, Bool.false_and, Bool.true_or, Bool.false_or, cond_true, cond_false]) rfl rfl, rfl⟩
              · refine st_no (wt rfl rfl rfl (congrArg (fun z => some (Value.bool z)) hg3) rfl) (by simp only [f0, f1, f2]; rfl) ?_
                refine st_no (wt rfl rfl rfl (congrArg (fun z => some (Value.bool z)) hg3) rfl) (by simp only [f0, f1, f2]; rfl) ?_
                refine st_val (.bool false) (wn rfl) (r_pickF (congrArg Value.bool hg3) rfl) (by simp only [f0, f1, f2]; rfl) ?_
                refine wpList_nil ?_
                exact then_normal ⟨some_us (by simp only [masked, hg3, Bool.true_and, Bool.false_and, Bool.true_or, Bool.false_or, cond_true, cond_false]) rfl rfl, rfl⟩
            rintro a0 _ ⟨⟨us5, hF⟩, rfl⟩
            simp only [fillin, Nat.reduceAdd] at hF
            subst hF
            simp only [List.drop_succ_cons, List.drop_zero]
            refine wpList_nil ?_
            refine then_normal ?_
            refine wp_cond_split (t := ((decide (i1 < (↑(Sl.n more) : Int))) && (decide (i1 < 100)))) rfl (fun hc3 => ?_) (fun hc3 => ?_)
            · replace h := h.1 hc3
              refine wp_skip ?_
              refine then_normal ?_
              refine wp_seq ?_
              refine wp_block ?_
              refine wp_seq ?_
              refine wp_region_lit ?_
              refine st_val (.pointer x2) (wn rfl) rfl (by simp only [f0, f1, f2]; rfl) ?_
              refine st_val (Sl.v more) (wn rfl) rfl (by simp only [f0, f1, f2]; rfl) ?_
              refine st_val (.int .i64 i1) (wn rfl) rfl (by simp only [f0, f1, f2]; rfl) ?_
              obtain ⟨ad2, hx3, h⟩ := h
              refine st_val (.pointer (some ad2)) (wn rfl) (r_indexS (s := more) (Try.runUnderlying22 _) (Try.sizeOf29 _) rfl rfl hx3) (by simp only [f0, f1, f2]; rfl) ?_
              obtain ⟨x03, x14, x23, x32, x41, hx4, h⟩ := h
              refine st_val (.agg #[.int .i64 x03, .int .i64 x14, .int .i64 x23, .int .i64 x32, Sl.v x41]) (wn rfl) (r_loadN (Try.isAgg29 _) (Try.sizeOf29 _) rfl rfl hx4) (by simp only [f0, f1, f2]; rfl) ?_
              refine st_one (wn rfl) ?_
              refine o_enter (args := #[.pointer x2, .agg #[.int .i64 x03, .int .i64 x14, .int .i64 x23, .int .i64 x32, Sl.v x41]]) (r_enter Try.call11 rfl) (h.mono ?_)
              clear h
              rintro _ w_8 ⟨x04, x15, x24, x33, rfl, h⟩
              refine ⟨_, _, rfl, (by simp only [f0, f1, f2]; rfl), ?_⟩
              refine st_val (.tuple #[.int .i64 x04, .int .i64 x15, Sl.v x24, Sl.v x33]) (wn rfl) rfl (by simp only [f0, f1, f2]; rfl) ?_
              refine st_val (.int .i64 x04) (wn rfl) rfl (by simp only [f0, f1, f2]; rfl) ?_
              refine st_val (.int .i64 x15) (wn rfl) rfl (by simp only [f0, f1, f2]; rfl) ?_
              refine st_val (Sl.v x24) (wn rfl) rfl (by simp only [f0, f1, f2]; rfl) ?_
              refine st_val (Sl.v x33) (wn rfl) rfl (by simp only [f0, f1, f2]; rfl) ?_
              refine st_val (.int .i64 x04) (wn rfl) rfl (by simp only [f0, f1, f2]; rfl) ?_
              refine st_val (.int .i64 x15) (wn rfl) rfl (by simp only [f0, f1, f2]; rfl) ?_
              refine st_val (Sl.v x24) (wn rfl) rfl (by simp only [f0, f1, f2]; rfl) ?_
              refine st_val (Sl.v x33) (wn rfl) rfl (by simp only [f0, f1, f2]; rfl) ?_
              refine wpList_nil ?_
              refine then_normal ?_
              refine wp_seq ?_
              refine wp_region_lit ?_
              refine st_val (.pointer x02) (wn rfl) rfl (by simp only [f0, f1, f2]; rfl) ?_
              refine st_val (Sl.v more) (wn rfl) rfl (by simp only [f0, f1, f2]; rfl) ?_
              refine st_val (.int .i64 i1) (wn rfl) rfl (by simp only [f0, f1, f2]; rfl) ?_
              obtain ⟨ad3, hx5, h⟩ := h
              refine st_val (.pointer (some ad3)) (wn rfl) (r_indexS (s := more) (Try.runUnderlying22 _) (Try.sizeOf29 _) rfl rfl hx5) (by simp only [f0, f1, f2]; rfl) ?_
              obtain ⟨x05, x16, x25, x34, x42, hx6, h⟩ := h
              refine st_val (.agg #[.int .i64 x05, .int .i64 x16, .int .i64 x25, .int .i64 x34, Sl.v x42]) (wn rfl) (r_loadN (Try.isAgg29 _) (Try.sizeOf29 _) rfl rfl hx6) (by simp only [f0, f1, f2]; rfl) ?_
              refine st_one (wn rfl) ?_
              refine o_enter (args := #[.pointer x02, .agg #[.int .i64 x05, .int .i64 x16, .int .i64 x25, .int .i64 x34, Sl.v x42]]) (r_enter Try.call11 rfl) (h.mono ?_)
              clear h
              rintro _ w_9 ⟨x06, x17, x26, x35, rfl, h⟩
              refine ⟨_, _, rfl, (by simp only [f0, f1, f2]; rfl), ?_⟩
              refine st_val (.tuple #[.int .i64 x06, .int .i64 x17, Sl.v x26, Sl.v x35]) (wn rfl) rfl (by simp only [f0, f1, f2]; rfl) ?_
              refine st_val (.int .i64 x06) (wn rfl) rfl (by simp only [f0, f1, f2]; rfl) ?_
              refine st_val (.int .i64 x17) (wn rfl) rfl (by simp only [f0, f1, f2]; rfl) ?_
              refine st_val (Sl.v x26) (wn rfl) rfl (by simp only [f0, f1, f2]; rfl) ?_
              refine st_val (Sl.v x35) (wn rfl) rfl (by simp only [f0, f1, f2]; rfl) ?_
              refine st_val (.int .i64 x06) (wn rfl) rfl (by simp only [f0, f1, f2]; rfl) ?_
              refine st_val (.int .i64 x17) (wn rfl) rfl (by simp only [f0, f1, f2]; rfl) ?_
              refine st_val (Sl.v x26) (wn rfl) rfl (by simp only [f0, f1, f2]; rfl) ?_
              refine st_val (Sl.v x35) (wn rfl) rfl (by simp only [f0, f1, f2]; rfl) ?_
              refine wpList_nil ?_
              refine then_normal ?_
              refine wp_seq ?_
              obtain ⟨J_, hJ, h⟩ := h
              refine wp_cut (fun a' w' => ∃ t130 : Bool, (∃ us6 : Nat → Value, a' = (⟨(fillin us6 0 (some (Sl.v acts) :: some (Sl.v more) :: some undef :: some undef :: some ((us4 4)) :: some (.bool x1) :: some (.pointer x2) :: some (.int .i64 i) :: some (.pointer x02) :: some (.int .i64 x13) :: some (.int .i64 i1) :: some (.int .i64 x04) :: some (.int .i64 x15) :: some (Sl.v x24) :: some (Sl.v x33) :: some (.int .i64 x06) :: some (.int .i64 x17) :: some (Sl.v x26) :: some (Sl.v x35) :: some (.bool x1) :: some (.pointer x2) :: some (.bool x1) :: some (.bool (!x1)) :: some (.bool (!x1)) :: some ((us 24)) :: some ((us 25)) :: some (.bool ((!x1) || (Option.isNone x2))) :: some (.int .i64 i) :: some (Sl.v acts) :: some (.int .i64 (↑(Sl.n acts) : Int)) :: some (.bool (decide (i < (↑(Sl.n acts) : Int)))) :: some (.bool (decide (i < (↑(Sl.n acts) : Int)))) :: some ((us2 32)) :: some ((us2 33)) :: some (.bool ((decide (i < (↑(Sl.n acts) : Int))) && (decide (i < 100)))) :: some ((us1 35)) :: some ((us1 36)) :: some ((us1 37)) :: some ((us1 38)) :: some ((us1 39)) :: some ((us1 40)) :: some ((us1 41)) :: some ((us1 42)) :: some (.tuple #[.pointer x02, .int .i64 x13]) :: some (.pointer x2) :: some (.pointer (some ad1)) :: some (.pointer (some (Addr.add ad1 0))) :: some (Sl.v x5) :: some (.pointer x2) :: some (.int .i64 x6) :: some (.tuple #[.pointer x02, .int .i64 x13]) :: some (.pointer x02) :: some (.int .i64 x13) :: some (.pointer x02) :: some (.bool (Option.isNone x02)) :: some (.bool (Option.isNone x02)) :: some ((us3 56)) :: some ((us3 57)) :: some (.bool ((Option.isNone x02) || (x13 != 0))) :: some (.int .i64 i1) :: some (Sl.v more) :: some (.int .i64 (↑(Sl.n more) : Int)) :: some (.bool (decide (i1 < (↑(Sl.n more) : Int)))) :: some (.bool (decide (i1 < (↑(Sl.n more) : Int)))) :: some ((us5 64)) :: some ((us5 65)) :: some (.bool ((decide (i1 < (↑(Sl.n more) : Int))) && (decide (i1 < 100)))) :: some ((us4 67)) :: some ((us4 68)) :: some (.tuple #[.int .i64 x04, .int .i64 x15, Sl.v x24, Sl.v x33]) :: some (.pointer x2) :: some (Sl.v more) :: some (.int .i64 i1) :: some (.pointer (some ad2)) :: some (.agg #[.int .i64 x03, .int .i64 x14, .int .i64 x23, .int .i64 x32, Sl.v x41]) :: some (.tuple #[.int .i64 x04, .int .i64 x15, Sl.v x24, Sl.v x33]) :: some (.int .i64 x04) :: some (.int .i64 x15) :: some (Sl.v x24) :: some (Sl.v x33) :: some (.tuple #[.int .i64 x06, .int .i64 x17, Sl.v x26, Sl.v x35]) :: some (.pointer x02) :: some (Sl.v more) :: some (.int .i64 i1) :: some (.pointer (some ad3)) :: some (.agg #[.int .i64 x05, .int .i64 x16, .int .i64 x25, .int .i64 x34, Sl.v x42]) :: some (.tuple #[.int .i64 x06, .int .i64 x17, Sl.v x26, Sl.v x35]) :: some (.int .i64 x06) :: some (.int .i64 x17) :: some (Sl.v x26) :: some (Sl.v x35) :: none :: none :: none :: none :: none :: none :: none :: none :: none :: none :: none :: none :: none :: none :: none :: none :: none :: none :: none :: none :: none :: none :: none :: none :: none :: none :: none :: none :: none :: none :: none :: none :: none :: none :: none :: none :: none :: none :: none :: some (.bool t130) :: [])).toArray, []⟩ : Act)) ∧ J_ t130 w') ?_ ?_
              · clear h
                rintro a0 w_10 ⟨t130, ⟨us6, hF⟩, h⟩
                simp only [fillin, Nat.reduceAdd] at hF
                subst hF
                replace h := hJ _ _ h
                refine then_normal ?_
                refine wp_cond_split (t := t130) rfl (fun hc4 => ?_) (fun hc4 => ?_)
                · replace h := h.1 hc4
                  refine wp_seq ?_
                  refine wp_region_lit ?_
                  refine st_val (.bool false) (wn rfl) rfl (by simp only [f0, f1, f2]; rfl) ?_
                  refine wpList_nil ?_
                  refine then_normal ?_
                  refine wp_ret ?_
                  refine block_ret ?_
                  refine then_ret ?_
                  refine then_ret ?_
                  refine block_ret ?_
                  refine then_ret ?_
                  exact end_ret (r_res1 (v := .bool false) Try.results7 ⟨rfl, trivial⟩) rfl h
                · replace h := h.2 hc4
                  refine wp_skip ?_
                  refine block_normal ?_
                  refine then_normal ?_
                  refine wp_region_lit ?_
                  refine st_val (.int .i64 i1) (wn rfl) rfl (by simp only [f0, f1, f2]; rfl) ?_
                  refine st_val (.int .i64 (IntKind.i64.wrap (i1 + 1))) (wn rfl) rfl (by simp only [f0, f1, f2]; rfl) ?_
                  refine st_val (.int .i64 (IntKind.i64.wrap (i1 + 1))) (wn rfl) rfl (by simp only [f0, f1, f2]; rfl) ?_
                  refine wpList_nil ?_
                  refine then_normal ?_
                  obtain ⟨nv5, hl1, h⟩ := h
                  exact ⟨nv5, hl1, _, (some_us rfl rfl rfl), h⟩
              · refine e_region (EL [(18, []), (25, []), (29, []), (30, []), (35, []), (37, [])]) Try.checked.mixed ?_
                have hO := Only.drew w_9
                generalize w_9.drew = w_11 at *
                have hA : Only [] w_9 w_11 := hO
                refine e_take 0 [2, 3, 4, 5, 6, 7, 8, 9, 10, 11, 12, 13, 14, 15, 16, 17, 18, 19, 20, 21, 22, 23, 24, 25, 26, 27, 28, 29, 30, 31, 32, 33, 34, 35, 36, 37, 38, 39] [] (.int .i64 x04) (fun _ => True) rfl (by kernel_rfl) (by kernel_rfl) (by kernel_rfl) (by kernel_rfl) (by kernel_rfl) (by kernel_rfl) (fun _ _ _ h => h) el_true (fun w _ => el_quiet rfl w) trivial (y_val (wn rfl) (fun w' hw' => rfl)) (by simp only [f0, f1, f2]; rfl) ?_
                refine e_take 1 [2, 3, 4, 5, 6, 7, 8, 9, 10, 11, 12, 13, 14, 15, 16, 17, 18, 19, 20, 21, 22, 23, 24, 25, 26, 27, 28, 29, 30, 31, 32, 33, 34, 35, 36, 37, 38, 39] [0] (.int .i64 x06) (fun _ => True) rfl (by kernel_rfl) (by kernel_rfl) (by kernel_rfl) (by kernel_rfl) (by kernel_rfl) (by kernel_rfl) (fun _ _ _ h => h) el_true (fun w _ => el_quiet rfl w) trivial (y_val (wn rfl) (fun w' hw' => rfl)) (by simp only [f0, f1, f2]; rfl) ?_
                refine e_take 2 [3, 4, 5, 6, 7, 8, 9, 10, 11, 12, 13, 14, 15, 16, 17, 18, 19, 20, 21, 22, 23, 24, 25, 26, 27, 28, 29, 30, 31, 32, 33, 34, 35, 36, 37, 38, 39] [0, 1] (.bool (x04 != x06)) (fun _ => True) rfl (by kernel_rfl) (by kernel_rfl) (by kernel_rfl) (by kernel_rfl) (by kernel_rfl) (by kernel_rfl) (fun _ _ _ h => h) el_true (fun w _ => el_quiet rfl w) trivial (y_val (wn rfl) (fun w' hw' => rfl)) (by simp only [f0, f1, f2]; rfl) ?_
                refine e_take 3 [4, 5, 6, 7, 8, 9, 10, 11, 12, 13, 14, 15, 16, 17, 18, 19, 20, 21, 22, 23, 24, 25, 26, 27, 28, 29, 30, 31, 32, 33, 34, 35, 36, 37, 38, 39] [0, 1, 2] (.bool (x04 != x06)) (fun _ => True) rfl (by kernel_rfl) (by kernel_rfl) (by kernel_rfl) (by kernel_rfl) (by kernel_rfl) (by kernel_rfl) (fun _ _ _ h => h) el_true (fun w _ => el_quiet rfl w) trivial (y_val (wn rfl) (fun w' hw' => rfl)) (by simp only [f0, f1, f2]; rfl) ?_
                replace h := h w_11 hA
                rcases Bool.eq_false_or_eq_true (x04 != x06) with hg4 | hg4
                · replace h := h.1 hg4
                  refine e_take 4 [6, 7, 8, 9, 10, 11, 12, 13, 14, 15, 16, 17, 18, 19, 20, 21, 22, 23, 24, 25, 26, 27, 28, 29, 30, 31, 32, 33, 34, 35, 36, 37, 38, 39] [0, 1, 2, 3] (undef) (fun _ => True) rfl (by kernel_rfl) (by kernel_rfl) (by kernel_rfl) (by kernel_rfl) (by kernel_rfl) (by kernel_rfl) (fun _ _ _ h => h) el_true (fun w _ => el_quiet rfl w) trivial (y_no (wt rfl rfl rfl (congrArg (fun z => some (Value.bool z)) hg4) rfl)) (by simp only [f0, f1, f2]; rfl) ?_
                  refine e_take 5 [6, 7, 8, 9, 10, 11, 12, 13, 14, 15, 16, 17, 18, 19, 20, 21, 22, 23, 24, 25, 26, 27, 28, 29, 30, 31, 32, 33, 34, 35, 36, 37, 38, 39] [0, 1, 2, 3, 4] (undef) (fun _ => True) rfl (by kernel_rfl) (by kernel_rfl) (by kernel_rfl) (by kernel_rfl) (by kernel_rfl) (by kernel_rfl) (fun _ _ _ h => h) el_true (fun w _ => el_quiet rfl w) trivial (y_no (wt rfl rfl rfl (congrArg (fun z => some (Value.bool z)) hg4) rfl)) (by simp only [f0, f1, f2]; rfl) ?_
                  refine e_take 6 [7, 8, 9, 10, 11, 12, 13, 14, 15, 16, 17, 18, 19, 20, 21, 22, 23, 24, 25, 26, 27, 28, 29, 30, 31, 32, 33, 34, 35, 36, 37, 38, 39] [0, 1, 2, 3, 4, 5] (undef) (fun _ => True) rfl (by kernel_rfl) (by kernel_rfl) (by kernel_rfl) (by kernel_rfl) (by kernel_rfl) (by kernel_rfl) (fun _ _ _ h => h) el_true (fun w _ => el_quiet rfl w) trivial (y_no (wt rfl rfl rfl (congrArg (fun z => some (Value.bool z)) hg4) rfl)) (by simp only [f0, f1, f2]; rfl) ?_
                  refine e_take 7 [8, 9, 10, 11, 12, 13, 14, 15, 16, 17, 18, 19, 20, 21, 22, 23, 24, 25, 26, 27, 28, 29, 30, 31, 32, 33, 34, 35, 36, 37, 38, 39] [0, 1, 2, 3, 4, 5, 6] (.bool true) (fun _ => True) rfl (by kernel_rfl) (by kernel_rfl) (by kernel_rfl) (by kernel_rfl) (by kernel_rfl) (by kernel_rfl) (fun _ _ _ h => h) el_true (fun w _ => el_quiet rfl w) trivial (y_val (wn rfl) (fun w' hw' => (r_pickT (congrArg Value.bool hg4) rfl))) (by simp only [f0, f1, f2]; rfl) ?_
                  refine e_take 8 [9, 10, 11, 12, 13, 14, 15, 16, 17, 18, 19, 20, 21, 22, 23, 24, 25, 26, 27, 28, 29, 30, 31, 32, 33, 34, 35, 36, 37, 38, 39] [0, 1, 2, 3, 4, 5, 6, 7] (.bool true) (fun _ => True) rfl (by kernel_rfl) (by kernel_rfl) (by kernel_rfl) (by kernel_rfl) (by kernel_rfl) (by kernel_rfl) (fun _ _ _ h => h) el_true (fun w _ => el_quiet rfl w) trivial (y_val (wn rfl) (fun w' hw' => rfl)) (by simp only [f0, f1, f2]; rfl) ?_
                  refine e_take 9 [10, 13, 14, 15, 16, 17, 18, 19, 20, 21, 22, 23, 24, 25, 26, 27, 28, 29, 30, 31, 32, 33, 34, 35, 36, 37, 38, 39] [0, 1, 2, 3, 4, 5, 6, 7, 8] (undef) (fun _ => True) rfl (by kernel_rfl) (by kernel_rfl) (by kernel_rfl) (by kernel_rfl) (by kernel_rfl) (by kernel_rfl) (fun _ _ _ h => h) el_true (fun w _ => el_quiet rfl w) trivial (y_no (wt rfl rfl rfl rfl rfl)) (by simp only [f0, f1, f2]; rfl) ?_
                  refine e_take 10 [13, 14, 15, 16, 17, 18, 19, 20, 21, 22, 23, 24, 25, 26, 27, 28, 29, 30, 31, 32, 33, 34, 35, 36, 37, 38, 39] [0, 1, 2, 3, 4, 5, 6, 7, 8, 9] (undef) (fun _ => True) rfl (by kernel_rfl) (by kernel_rfl) (by kernel_rfl) (by kernel_rfl) (by kernel_rfl) (by kernel_rfl) (fun _ _ _ h => h) el_true (fun w _ => el_quiet rfl w) trivial (y_no (wt rfl rfl rfl rfl rfl)) (by simp only [f0, f1, f2]; rfl) ?_
                  refine e_take 11 [12, 13, 14, 15, 16, 17, 18, 19, 20, 21, 22, 23, 24, 25, 26, 27, 28, 29, 30, 31, 32, 33, 34, 35, 36, 37, 38, 39] [0, 1, 2, 3, 4, 5, 6, 7, 8, 9, 10] (undef) (fun _ => True) rfl (by kernel_rfl) (by kernel_rfl) (by kernel_rfl) (by kernel_rfl) (by kernel_rfl) (by kernel_rfl) (fun _ _ _ h => h) el_true (fun w _ => el_quiet rfl w) trivial (y_no (wt rfl rfl rfl rfl rfl)) (by simp only [f0, f1, f2]; rfl) ?_
                  refine e_take 12 [13, 14, 15, 16, 17, 18, 19, 20, 21, 22, 23, 24, 25, 26, 27, 28, 29, 30, 31, 32, 33, 34, 35, 36, 37, 38, 39] [0, 1, 2, 3, 4, 5, 6, 7, 8, 9, 10, 11] (undef) (fun _ => True) rfl (by kernel_rfl) (by kernel_rfl) (by kernel_rfl) (by kernel_rfl) (by kernel_rfl) (by kernel_rfl) (fun _ _ _ h => h) el_true (fun w _ => el_quiet rfl w) trivial (y_no (wt rfl rfl rfl rfl rfl)) (by simp only [f0, f1, f2]; rfl) ?_
                  refine e_take 13 [14, 15, 16, 17, 18, 19, 20, 21, 22, 23, 24, 25, 26, 27, 28, 29, 30, 31, 32, 33, 34, 35, 36, 37, 38, 39] [0, 1, 2, 3, 4, 5, 6, 7, 8, 9, 10, 11, 12] (undef) (fun _ => True) rfl (by kernel_rfl) (by kernel_rfl) (by kernel_rfl) (by kernel_rfl) (by kernel_rfl) (by kernel_rfl) (fun _ _ _ h => h) el_true (fun w _ => el_quiet rfl w) trivial (y_no (wt rfl rfl rfl rfl rfl)) (by simp only [f0, f1, f2]; rfl) ?_
                  refine e_take 14 [15, 16, 17, 18, 19, 20, 21, 22, 23, 24, 25, 26, 27, 28, 29, 30, 31, 32, 33, 34, 35, 36, 37, 38, 39] [0, 1, 2, 3, 4, 5, 6, 7, 8, 9, 10, 11, 12, 13] (.bool true) (fun _ => True) rfl (by kernel_rfl) (by kernel_rfl) (by kernel_rfl) (by kernel_rfl) (by kernel_rfl) (by kernel_rfl) (fun _ _ _ h => h) el_true (fun w _ => el_quiet rfl w) trivial (y_val (wn rfl) (fun w' hw' => (r_pickT rfl rfl))) (by simp only [f0, f1, f2]; rfl) ?_
                  refine e_take 15 [16, 17, 18, 19, 20, 21, 22, 23, 24, 25, 26, 27, 28, 29, 30, 31, 32, 33, 34, 35, 36, 37, 38, 39] [0, 1, 2, 3, 4, 5, 6, 7, 8, 9, 10, 11, 12, 13, 14] (.bool true) (fun _ => True) rfl (by kernel_rfl) (by kernel_rfl) (by kernel_rfl) (by kernel_rfl) (by kernel_rfl) (by kernel_rfl) (fun _ _ _ h => h) el_true (fun w _ => el_quiet rfl w) trivial (y_val (wn rfl) (fun w' hw' => rfl)) (by simp only [f0, f1, f2]; rfl) ?_
                  refine e_take 16 [18, 19, 20, 21, 22, 23, 24, 25, 26, 27, 28, 29, 30, 31, 32, 33, 34, 35, 36, 37, 38, 39] [0, 1, 2, 3, 4, 5, 6, 7, 8, 9, 10, 11, 12, 13, 14, 15] (undef) (fun _ => True) rfl (by kernel_rfl) (by kernel_rfl) (by kernel_rfl) (by kernel_rfl) (by kernel_rfl) (by kernel_rfl) (fun _ _ _ h => h) el_true (fun w _ => el_quiet rfl w) trivial (y_no (wt rfl rfl rfl rfl rfl)) (by simp only [f0, f1, f2]; rfl) ?_
                  refine e_take 17 [18, 19, 20, 21, 22, 23, 24, 25, 26, 27, 28, 29, 30, 31, 32, 33, 34, 35, 36, 37, 38, 39] [0, 1, 2, 3, 4, 5, 6, 7, 8, 9, 10, 11, 12, 13, 14, 15, 16] (undef) (fun _ => True) rfl (by kernel_rfl) (by kernel_rfl) (by kernel_rfl) (by kernel_rfl) (by kernel_rfl) (by kernel_rfl) (fun _ _ _ h => h) el_true (fun w _ => el_quiet rfl w) trivial (y_no (wt rfl rfl rfl rfl rfl)) (by simp only [f0, f1, f2]; rfl) ?_
                  refine e_take 18 [19, 20, 21, 22, 23, 24, 25, 26, 27, 28, 29, 30, 31, 32, 33, 34, 35, 36, 37, 38, 39] [0, 1, 2, 3, 4, 5, 6, 7, 8, 9, 10, 11, 12, 13, 14, 15, 16, 17] (undef) (fun _ => True) rfl (by kernel_rfl) (by kernel_rfl) (by kernel_rfl) (by kernel_rfl) (by kernel_rfl) (by kernel_rfl) (fun _ _ _ h => h) el_true (fun w _ => el_loud rfl (Same.refl _ w)) trivial (y_no (wt rfl rfl rfl rfl rfl)) (by simp only [f0, f1, f2]; rfl) ?_
                  refine e_take 19 [20, 21, 22, 23, 24, 25, 26, 27, 28, 29, 30, 31, 32, 33, 34, 35, 36, 37, 38, 39] [0, 1, 2, 3, 4, 5, 6, 7, 8, 9, 10, 11, 12, 13, 14, 15, 16, 17, 18] (undef) (fun _ => True) rfl (by kernel_rfl) (by kernel_rfl) (by kernel_rfl) (by kernel_rfl) (by kernel_rfl) (by kernel_rfl) (fun _ _ _ h => h) el_true (fun w _ => el_quiet rfl w) trivial (y_no (wt rfl rfl rfl rfl rfl)) (by simp only [f0, f1, f2]; rfl) ?_
                  refine e_take 20 [21, 22, 23, 24, 25, 26, 27, 28, 29, 30, 31, 32, 33, 34, 35, 36, 37, 38, 39] [0, 1, 2, 3, 4, 5, 6, 7, 8, 9, 10, 11, 12, 13, 14, 15, 16, 17, 18, 19] (.bool true) (fun _ => True) rfl (by kernel_rfl) (by kernel_rfl) (by kernel_rfl) (by kernel_rfl) (by kernel_rfl) (by kernel_rfl) (fun _ _ _ h => h) el_true (fun w _ => el_quiet rfl w) trivial (y_val (wn rfl) (fun w' hw' => (r_pickT rfl rfl))) (by simp only [f0, f1, f2]; rfl) ?_
                  refine e_take 21 [22, 23, 24, 25, 26, 27, 28, 29, 30, 31, 32, 33, 34, 35, 36, 37, 38, 39] [0, 1, 2, 3, 4, 5, 6, 7, 8, 9, 10, 11, 12, 13, 14, 15, 16, 17, 18, 19, 20] (.bool true) (fun _ => True) rfl (by kernel_rfl) (by kernel_rfl) (by kernel_rfl) (by kernel_rfl) (by kernel_rfl) (by kernel_rfl) (fun _ _ _ h => h) el_true (fun w _ => el_quiet rfl w) trivial (y_val (wn rfl) (fun w' hw' => rfl)) (by simp only [f0, f1, f2]; rfl) ?_
                  refine e_take 22 [23, 24, 25, 29, 30, 31, 32, 33, 34, 35, 36, 37, 38, 39] [0, 1, 2, 3, 4, 5, 6, 7, 8, 9, 10, 11, 12, 13, 14, 15, 16, 17, 18, 19, 20, 21] (undef) (fun _ => True) rfl (by kernel_rfl) (by kernel_rfl) (by kernel_rfl) (by kernel_rfl) (by kernel_rfl) (by kernel_rfl) (fun _ _ _ h => h) el_true (fun w _ => el_quiet rfl w) trivial (y_no (wt rfl rfl rfl rfl rfl)) (by simp only [f0, f1, f2]; rfl) ?_
                  refine e_take 23 [24, 25, 29, 30, 31, 32, 33, 34, 35, 36, 37, 38, 39] [0, 1, 2, 3, 4, 5, 6, 7, 8, 9, 10, 11, 12, 13, 14, 15, 16, 17, 18, 19, 20, 21, 22] (undef) (fun _ => True) rfl (by kernel_rfl) (by kernel_rfl) (by kernel_rfl) (by kernel_rfl) (by kernel_rfl) (by kernel_rfl) (fun _ _ _ h => h) el_true (fun w _ => el_quiet rfl w) trivial (y_no (wt rfl rfl rfl rfl rfl)) (by simp only [f0, f1, f2]; rfl) ?_
                  refine e_take 24 [25, 29, 30, 31, 32, 33, 34, 35, 36, 37, 38, 39] [0, 1, 2, 3, 4, 5, 6, 7, 8, 9, 10, 11, 12, 13, 14, 15, 16, 17, 18, 19, 20, 21, 22, 23] (undef) (fun _ => True) rfl (by kernel_rfl) (by kernel_rfl) (by kernel_rfl) (by kernel_rfl) (by kernel_rfl) (by kernel_rfl) (fun _ _ _ h => h) el_true (fun w _ => el_quiet rfl w) trivial (y_no (wt rfl rfl rfl rfl rfl)) (by simp only [f0, f1, f2]; rfl) ?_
                  refine e_take 25 [29, 30, 31, 32, 33, 34, 35, 36, 37, 38, 39] [0, 1, 2, 3, 4, 5, 6, 7, 8, 9, 10, 11, 12, 13, 14, 15, 16, 17, 18, 19, 20, 21, 22, 23, 24] (undef) (fun _ => True) rfl (by kernel_rfl) (by kernel_rfl) (by kernel_rfl) (by kernel_rfl) (by kernel_rfl) (by kernel_rfl) (fun _ _ _ h => h) el_true (fun w _ => el_loud rfl (Same.refl _ w)) trivial (y_no (wt rfl rfl rfl rfl rfl)) (by simp only [f0, f1, f2]; rfl) ?_
                  refine e_take 26 [27, 28, 29, 30, 31, 32, 33, 34, 35, 36, 37, 38, 39] [0, 1, 2, 3, 4, 5, 6, 7, 8, 9, 10, 11, 12, 13, 14, 15, 16, 17, 18, 19, 20, 21, 22, 23, 24, 25] (undef) (fun _ => True) rfl (by kernel_rfl) (by kernel_rfl) (by kernel_rfl) (by kernel_rfl) (by kernel_rfl) (by kernel_rfl) (fun _ _ _ h => h) el_true (fun w _ => el_quiet rfl w) trivial (y_no (wt rfl rfl rfl rfl rfl)) (by simp only [f0, f1, f2]; rfl) ?_
                  refine e_take 27 [28, 29, 30, 31, 32, 33, 34, 35, 36, 37, 38, 39] [0, 1, 2, 3, 4, 5, 6, 7, 8, 9, 10, 11, 12, 13, 14, 15, 16, 17, 18, 19, 20, 21, 22, 23, 24, 25, 26] (undef) (fun _ => True) rfl (by kernel_rfl) (by kernel_rfl) (by kernel_rfl) (by kernel_rfl) (by kernel_rfl) (by kernel_rfl) (fun _ _ _ h => h) el_true (fun w _ => el_quiet rfl w) trivial (y_no (wt rfl rfl rfl rfl rfl)) (by simp only [f0, f1, f2]; rfl) ?_
                  refine e_take 28 [29, 30, 31, 32, 33, 34, 35, 36, 37, 38, 39] [0, 1, 2, 3, 4, 5, 6, 7, 8, 9, 10, 11, 12, 13, 14, 15, 16, 17, 18, 19, 20, 21, 22, 23, 24, 25, 26, 27] (undef) (fun _ => True) rfl (by kernel_rfl) (by kernel_rfl) (by kernel_rfl) (by kernel_rfl) (by kernel_rfl) (by kernel_rfl) (fun _ _ _ h => h) el_true (fun w _ => el_quiet rfl w) trivial (y_no (wt rfl rfl rfl rfl rfl)) (by simp only [f0, f1, f2]; rfl) ?_
                  refine e_take 29 [30, 31, 32, 33, 34, 35, 36, 37, 38, 39] [0, 1, 2, 3, 4, 5, 6, 7, 8, 9, 10, 11, 12, 13, 14, 15, 16, 17, 18, 19, 20, 21, 22, 23, 24, 25, 26, 27, 28] (undef) (fun _ => True) rfl (by kernel_rfl) (by kernel_rfl) (by kernel_rfl) (by kernel_rfl) (by kernel_rfl) (by kernel_rfl) (fun _ _ _ h => h) el_true (fun w _ => el_loud rfl (Same.refl _ w)) trivial (y_no (wt rfl rfl rfl rfl rfl)) (by simp only [f0, f1, f2]; rfl) ?_
                  refine e_take 30 [31, 32, 33, 34, 35, 36, 37, 38, 39] [0, 1, 2, 3, 4, 5, 6, 7, 8, 9, 10, 11, 12, 13, 14, 15, 16, 17, 18, 19, 20, 21, 22, 23, 24, 25, 26, 27, 28, 29] (undef) (fun _ => True) rfl (by kernel_rfl) (by kernel_rfl) (by kernel_rfl) (by kernel_rfl) (by kernel_rfl) (by kernel_rfl) (fun _ _ _ h => h) el_true (fun w _ => el_loud rfl (Same.refl _ w)) trivial (y_no (wt rfl rfl rfl rfl rfl)) (by simp only [f0, f1, f2]; rfl) ?_
                  refine e_take 31 [32, 33, 34, 35, 36, 37, 38, 39] [0, 1, 2, 3, 4, 5, 6, 7, 8, 9, 10, 11, 12, 13, 14, 15, 16, 17, 18, 19, 20, 21, 22, 23, 24, 25, 26, 27, 28, 29, 30] (undef) (fun _ => True) rfl (by kernel_rfl) (by kernel_rfl) (by kernel_rfl) (by kernel_rfl) (by kernel_rfl) (by kernel_rfl) (fun _ _ _ h => h) el_true (fun w _ => el_quiet rfl w) trivial (y_no (wt rfl rfl rfl rfl rfl)) (by simp only [f0, f1, f2]; rfl) ?_
                  refine e_take 32 [33, 34, 35, 36, 37, 38, 39] [0, 1, 2, 3, 4, 5, 6, 7, 8, 9, 10, 11, 12, 13, 14, 15, 16, 17, 18, 19, 20, 21, 22, 23, 24, 25, 26, 27, 28, 29, 30, 31] (.bool true) (fun _ => True) rfl (by kernel_rfl) (by kernel_rfl) (by kernel_rfl) (by kernel_rfl) (by kernel_rfl) (by kernel_rfl) (fun _ _ _ h => h) el_true (fun w _ => el_quiet rfl w) trivial (y_val (wn rfl) (fun w' hw' => (r_pickT rfl rfl))) (by simp only [f0, f1, f2]; rfl) ?_
                  refine e_take 33 [34, 35, 36, 37, 38, 39] [0, 1, 2, 3, 4, 5, 6, 7, 8, 9, 10, 11, 12, 13, 14, 15, 16, 17, 18, 19, 20, 21, 22, 23, 24, 25, 26, 27, 28, 29, 30, 31, 32] (.bool true) (fun _ => True) rfl (by kernel_rfl) (by kernel_rfl) (by kernel_rfl) (by kernel_rfl) (by kernel_rfl) (by kernel_rfl) (fun _ _ _ h => h) el_true (fun w _ => el_quiet rfl w) trivial (y_val (wn rfl) (fun w' hw' => rfl)) (by simp only [f0, f1, f2]; rfl) ?_
                  refine e_take 34 [35, 37, 38, 39] [0, 1, 2, 3, 4, 5, 6, 7, 8, 9, 10, 11, 12, 13, 14, 15, 16, 17, 18, 19, 20, 21, 22, 23, 24, 25, 26, 27, 28, 29, 30, 31, 32, 33] (undef) (fun _ => True) rfl (by kernel_rfl) (by kernel_rfl) (by kernel_rfl) (by kernel_rfl) (by kernel_rfl) (by kernel_rfl) (fun _ _ _ h => h) el_true (fun w _ => el_quiet rfl w) trivial (y_no (wt rfl rfl rfl rfl rfl)) (by simp only [f0, f1, f2]; rfl) ?_
                  refine e_take 35 [37, 38, 39] [0, 1, 2, 3, 4, 5, 6, 7, 8, 9, 10, 11, 12, 13, 14, 15, 16, 17, 18, 19, 20, 21, 22, 23, 24, 25, 26, 27, 28, 29, 30, 31, 32, 33, 34] (undef) (fun _ => True) rfl (by kernel_rfl) (by kernel_rfl) (by kernel_rfl) (by kernel_rfl) (by kernel_rfl) (by kernel_rfl) (fun _ _ _ h => h) el_true (fun w _ => el_loud rfl (Same.refl _ w)) trivial (y_no (wt rfl rfl rfl rfl rfl)) (by simp only [f0, f1, f2]; rfl) ?_
                  refine e_take 36 [37, 38, 39] [0, 1, 2, 3, 4, 5, 6, 7, 8, 9, 10, 11, 12, 13, 14, 15, 16, 17, 18, 19, 20, 21, 22, 23, 24, 25, 26, 27, 28, 29, 30, 31, 32, 33, 34, 35] (undef) (fun _ => True) rfl (by kernel_rfl) (by kernel_rfl) (by kernel_rfl) (by kernel_rfl) (by kernel_rfl) (by kernel_rfl) (fun _ _ _ h => h) el_true (fun w _ => el_quiet rfl w) trivial (y_no (wt rfl rfl rfl rfl rfl)) (by simp only [f0, f1, f2]; rfl) ?_
                  refine e_take 37 [38, 39] [0, 1, 2, 3, 4, 5, 6, 7, 8, 9, 10, 11, 12, 13, 14, 15, 16, 17, 18, 19, 20, 21, 22, 23, 24, 25, 26, 27, 28, 29, 30, 31, 32, 33, 34, 35, 36] (undef) (fun _ => True) rfl (by kernel_rfl) (by kernel_rfl) (by kernel_rfl) (by kernel_rfl) (by kernel_rfl) (by kernel_rfl) (fun _ _ _ h => h) el_true (fun w _ => el_loud rfl (Same.refl _ w)) trivial (y_no (wt rfl rfl rfl rfl rfl)) (by simp only [f0, f1, f2]; rfl) ?_
                  refine e_take 38 [39] [0, 1, 2, 3, 4, 5, 6, 7, 8, 9, 10, 11, 12, 13, 14, 15, 16, 17, 18, 19, 20, 21, 22, 23, 24, 25, 26, 27, 28, 29, 30, 31, 32, 33, 34, 35, 36, 37] (undef) (fun _ => True) rfl (by kernel_rfl) (by kernel_rfl) (by kernel_rfl) (by kernel_rfl) (by kernel_rfl) (by kernel_rfl) (fun _ _ _ h => h) el_true (fun w _ => el_quiet rfl w) trivial (y_no (wt rfl rfl rfl rfl rfl)) (by simp only [f0, f1, f2]; rfl) ?_
                  refine e_take 39 [] [0, 1, 2, 3, 4, 5, 6, 7, 8, 9, 10, 11, 12, 13, 14, 15, 16, 17, 18, 19, 20, 21, 22, 23, 24, 25, 26, 27, 28, 29, 30, 31, 32, 33, 34, 35, 36, 37, 38] (.bool true) (fun _ => True) rfl (by kernel_rfl) (by kernel_rfl) (by kernel_rfl) (by kernel_rfl) (by kernel_rfl) (by kernel_rfl) (fun _ _ _ h => h) el_true (fun w _ => el_quiet rfl w) trivial (y_val (wn rfl) (fun w' hw' => (r_pickT rfl rfl))) (by simp only [f0, f1, f2]; rfl) ?_
                  refine e_done (by kernel_rfl) ?_
                  exact then_normal ⟨_, (some_us rfl rfl rfl), h⟩
                · replace h := h.2 hg4
                  refine e_take 4 [6, 7, 8, 9, 10, 11, 12, 13, 14, 15, 16, 17, 18, 19, 20, 21, 22, 23, 24, 25, 26, 27, 28, 29, 30, 31, 32, 33, 34, 35, 36, 37, 38, 39] [0, 1, 2, 3] (.int .i64 x15) (fun _ => True) rfl (by kernel_rfl) (by kernel_rfl) (by kernel_rfl) (by kernel_rfl) (by kernel_rfl) (by kernel_rfl) (fun _ _ _ h => h) el_true (fun w _ => el_quiet rfl w) trivial (y_val (wt rfl rfl rfl (congrArg (fun z => some (Value.bool z)) hg4) rfl) (fun w' hw' => rfl)) (by simp only [f0, f1, f2]; rfl) ?_
                  refine e_take 5 [6, 7, 8, 9, 10, 11, 12, 13, 14, 15, 16, 17, 18, 19, 20, 21, 22, 23, 24, 25, 26, 27, 28, 29, 30, 31, 32, 33, 34, 35, 36, 37, 38, 39] [0, 1, 2, 3, 4] (.int .i64 x17) (fun _ => True) rfl (by kernel_rfl) (by kernel_rfl) (by kernel_rfl) (by kernel_rfl) (by kernel_rfl) (by kernel_rfl) (fun _ _ _ h => h) el_true (fun w _ => el_quiet rfl w) trivial (y_val (wt rfl rfl rfl (congrArg (fun z => some (Value.bool z)) hg4) rfl) (fun w' hw' => rfl)) (by simp only [f0, f1, f2]; rfl) ?_
                  refine e_take 6 [7, 8, 9, 10, 11, 12, 13, 14, 15, 16, 17, 18, 19, 20, 21, 22, 23, 24, 25, 26, 27, 28, 29, 30, 31, 32, 33, 34, 35, 36, 37, 38, 39] [0, 1, 2, 3, 4, 5] (.bool (x15 != x17)) (fun _ => True) rfl (by kernel_rfl) (by kernel_rfl) (by kernel_rfl) (by kernel_rfl) (by kernel_rfl) (by kernel_rfl) (fun _ _ _ h => h) el_true (fun w _ => el_quiet rfl w) trivial (y_val (wt rfl rfl rfl (congrArg (fun z => some (Value.bool z)) hg4) rfl) (fun w' hw' => rfl)) (by simp only [f0, f1, f2]; rfl) ?_
                  refine e_take 7 [8, 9, 10, 11, 12, 13, 14, 15, 16, 17, 18, 19, 20, 21, 22, 23, 24, 25, 26, 27, 28, 29, 30, 31, 32, 33, 34, 35, 36, 37, 38, 39] [0, 1, 2, 3, 4, 5, 6] (.bool (x15 != x17)) (fun _ => True) rfl (by kernel_rfl) (by kernel_rfl) (by kernel_rfl) (by kernel_rfl) (by kernel_rfl) (by kernel_rfl) (fun _ _ _ h => h) el_true (fun w _ => el_quiet rfl w) trivial (y_val (wn rfl) (fun w' hw' => (r_pickF (congrArg Value.bool hg4) rfl))) (by simp only [f0, f1, f2]; rfl) ?_
                  refine e_take 8 [9, 10, 11, 12, 13, 14, 15, 16, 17, 18, 19, 20, 21, 22, 23, 24, 25, 26, 27, 28, 29, 30, 31, 32, 33, 34, 35, 36, 37, 38, 39] [0, 1, 2, 3, 4, 5, 6, 7] (.bool (x15 != x17)) (fun _ => True) rfl (by kernel_rfl) (by kernel_rfl) (by kernel_rfl) (by kernel_rfl) (by kernel_rfl) (by kernel_rfl) (fun _ _ _ h => h) el_true (fun w _ => el_quiet rfl w) trivial (y_val (wn rfl) (fun w' hw' => rfl)) (by simp only [f0, f1, f2]; rfl) ?_
                  rcases Bool.eq_false_or_eq_true (x15 != x17) with hg5 | hg5
                  · replace h := h.1 hg5
                    refine e_take 9 [10, 13, 14, 15, 16, 17, 18, 19, 20, 21, 22, 23, 24, 25, 26, 27, 28, 29, 30, 31, 32, 33, 34, 35, 36, 37, 38, 39] [0, 1, 2, 3, 4, 5, 6, 7, 8] (undef) (fun _ => True) rfl (by kernel_rfl) (by kernel_rfl) (by kernel_rfl) (by kernel_rfl) (by kernel_rfl) (by kernel_rfl) (fun _ _ _ h => h) el_true (fun w _ => el_quiet rfl w) trivial (y_no (wt rfl rfl rfl (congrArg (fun z => some (Value.bool z)) hg5) rfl)) (by simp only [f0, f1, f2]; rfl) ?_
                    refine e_take 10 [13, 14, 15, 16, 17, 18, 19, 20, 21, 22, 23, 24, 25, 26, 27, 28, 29, 30, 31, 32, 33, 34, 35, 36, 37, 38, 39] [0, 1, 2, 3, 4, 5, 6, 7, 8, 9] (undef) (fun _ => True) rfl (by kernel_rfl) (by kernel_rfl) (by kernel_rfl) (by kernel_rfl) (by kernel_rfl) (by kernel_rfl) (fun _ _ _ h => h) el_true (fun w _ => el_quiet rfl w) trivial (y_no (wt rfl rfl rfl (congrArg (fun z => some (Value.bool z)) hg5) rfl)) (by simp only [f0, f1, f2]; rfl) ?_
                    refine e_take 11 [12, 13, 14, 15, 16, 17, 18, 19, 20, 21, 22, 23, 24, 25, 26, 27, 28, 29, 30, 31, 32, 33, 34, 35, 36, 37, 38, 39] [0, 1, 2, 3, 4, 5, 6, 7, 8, 9, 10] (undef) (fun _ => True) rfl (by kernel_rfl) (by kernel_rfl) (by kernel_rfl) (by kernel_rfl) (by kernel_rfl) (by kernel_rfl) (fun _ _ _ h => h) el_true (fun w _ => el_quiet rfl w) trivial (y_no (wt rfl rfl rfl (congrArg (fun z => some (Value.bool z)) hg5) rfl)) (by simp only [f0, f1, f2]; rfl) ?_
                    refine e_take 12 [13, 14, 15, 16, 17, 18, 19, 20, 21, 22, 23, 24, 25, 26, 27, 28, 29, 30, 31, 32, 33, 34, 35, 36, 37, 38, 39] [0, 1, 2, 3, 4, 5, 6, 7, 8, 9, 10, 11] (undef) (fun _ => True) rfl (by kernel_rfl) (by kernel_rfl) (by kernel_rfl) (by kernel_rfl) (by kernel_rfl) (by kernel_rfl) (fun _ _ _ h => h) el_true (fun w _ => el_quiet rfl w) trivial (y_no (wt rfl rfl rfl (congrArg (fun z => some (Value.bool z)) hg5) rfl)) (by simp only [f0, f1, f2]; rfl) ?_
                    refine e_take 13 [14, 15, 16, 17, 18, 19, 20, 21, 22, 23, 24, 25, 26, 27, 28, 29, 30, 31, 32, 33, 34, 35, 36, 37, 38, 39] [0, 1, 2, 3, 4, 5, 6, 7, 8, 9, 10, 11, 12] (undef) (fun _ => True) rfl (by kernel_rfl) (by kernel_rfl) (by kernel_rfl) (by kernel_rfl) (by kernel_rfl) (by kernel_rfl) (fun _ _ _ h => h) el_true (fun w _ => el_quiet rfl w) trivial (y_no (wt rfl rfl rfl (congrArg (fun z => some (Value.bool z)) hg5) rfl)) (by simp only [f0, f1, f2]; rfl) ?_
                    refine e_take 14 [15, 16, 17, 18, 19, 20, 21, 22, 23, 24, 25, 26, 27, 28, 29, 30, 31, 32, 33, 34, 35, 36, 37, 38, 39] [0, 1, 2, 3, 4, 5, 6, 7, 8, 9, 10, 11, 12, 13] (.bool true) (fun _ => True) rfl (by kernel_rfl) (by kernel_rfl) (by kernel_rfl) (by kernel_rfl) (by kernel_rfl) (by kernel_rfl) (fun _ _ _ h => h) el_true (fun w _ => el_quiet rfl w) trivial (y_val (wn rfl) (fun w' hw' => (r_pickT (congrArg Value.bool hg5) rfl))) (by simp only [f0, f1, f2]; rfl) ?_
                    refine e_take 15 [16, 17, 18, 19, 20, 21, 22, 23, 24, 25, 26, 27, 28, 29, 30, 31, 32, 33, 34, 35, 36, 37, 38, 39] [0, 1, 2, 3, 4, 5, 6, 7, 8, 9, 10, 11, 12, 13, 14] (.bool true) (fun _ => True) rfl (by kernel_rfl) (by kernel_rfl) (by kernel_rfl) (by kernel_rfl) (by kernel_rfl) (by kernel_rfl) (fun _ _ _ h => h) el_true (fun w _ => el_quiet rfl w) trivial (y_val (wn rfl) (fun w' hw' => rfl)) (by simp only [f0, f1, f2]; rfl) ?_
                    refine e_take 16 [18, 19, 20, 21, 22, 23, 24, 25, 26, 27, 28, 29, 30, 31, 32, 33, 34, 35, 36, 37, 38, 39] [0, 1, 2, 3, 4, 5, 6, 7, 8, 9, 10, 11, 12, 13, 14, 15] (undef) (fun _ => True) rfl (by kernel_rfl) (by kernel_rfl) (by kernel_rfl) (by kernel_rfl) (by kernel_rfl) (by kernel_rfl) (fun _ _ _ h => h) el_true (fun w _ => el_quiet rfl w) trivial (y_no (wt rfl rfl rfl rfl rfl)) (by simp only [f0, f1, f2]; rfl) ?_
                    refine e_take 17 [18, 19, 20, 21, 22, 23, 24, 25, 26, 27, 28, 29, 30, 31, 32, 33, 34, 35, 36, 37, 38, 39] [0, 1, 2, 3, 4, 5, 6, 7, 8, 9, 10, 11, 12, 13, 14, 15, 16] (undef) (fun _ => True) rfl (by kernel_rfl) (by kernel_rfl) (by kernel_rfl) (by kernel_rfl) (by kernel_rfl) (by kernel_rfl) (fun _ _ _ h => h) el_true (fun w _ => el_quiet rfl w) trivial (y_no (wt rfl rfl rfl rfl rfl)) (by simp only [f0, f1, f2]; rfl) ?_
                    refine e_take 18 [19, 20, 21, 22, 23, 24, 25, 26, 27, 28, 29, 30, 31, 32, 33, 34, 35, 36, 37, 38, 39] [0, 1, 2, 3, 4, 5, 6, 7, 8, 9, 10, 11, 12, 13, 14, 15, 16, 17] (undef) (fun _ => True) rfl (by kernel_rfl) (by kernel_rfl) (by kernel_rfl) (by kernel_rfl) (by kernel_rfl) (by kernel_rfl) (fun _ _ _ h => h) el_true (fun w _ => el_loud rfl (Same.refl _ w)) trivial (y_no (wt rfl rfl rfl rfl rfl)) (by simp only [f0, f1, f2]; rfl) ?_
                    refine e_take 19 [20, 21, 22, 23, 24, 25, 26, 27, 28, 29, 30, 31, 32, 33, 34, 35, 36, 37, 38, 39] [0, 1, 2, 3, 4, 5, 6, 7, 8, 9, 10, 11, 12, 13, 14, 15, 16, 17, 18] (undef) (fun _ => True) rfl (by kernel_rfl) (by kernel_rfl) (by kernel_rfl) (by kernel_rfl) (by kernel_rfl) (by kernel_rfl) (fun _ _ _ h => h) el_true (fun w _ => el_quiet rfl w) trivial (y_no (wt rfl rfl rfl rfl rfl)) (by simp only [f0, f1, f2]; rfl) ?_
                    refine e_take 20 [21, 22, 23, 24, 25, 26, 27, 28, 29, 30, 31, 32, 33, 34, 35, 36, 37, 38, 39] [0, 1, 2, 3, 4, 5, 6, 7, 8, 9, 10, 11, 12, 13, 14, 15, 16, 17, 18, 19] (.bool true) (fun _ => True) rfl (by kernel_rfl) (by kernel_rfl) (by kernel_rfl) (by kernel_rfl) (by kernel_rfl) (by kernel_rfl) (fun _ _ _ h => h) el_true (fun w _ => el_quiet rfl w) trivial (y_val (wn rfl) (fun w' hw' => (r_pickT rfl rfl))) (by simp only [f0, f1, f2]; rfl) ?_
                    refine e_take 21 [22, 23, 24, 25, 26, 27, 28, 29, 30, 31, 32, 33, 34, 35, 36, 37, 38, 39] [0, 1, 2, 3, 4, 5, 6, 7, 8, 9, 10, 11, 12, 13, 14, 15, 16, 17, 18, 19, 20] (.bool true) (fun _ => True) rfl (by kernel_rfl) (by kernel_rfl) (by kernel_rfl) (by kernel_rfl) (by kernel_rfl) (by kernel_rfl) (fun _ _ _ h => h) el_true (fun w _ => el_quiet rfl w) trivial (y_val (wn rfl) (fun w' hw' => rfl)) (by simp only [f0, f1, f2]; rfl) ?_
                    refine e_take 22 [23, 24, 25, 29, 30, 31, 32, 33, 34, 35, 36, 37, 38, 39] [0, 1, 2, 3, 4, 5, 6, 7, 8, 9, 10, 11, 12, 13, 14, 15, 16, 17, 18, 19, 20, 21] (undef) (fun _ => True) rfl (by kernel_rfl) (by kernel_rfl) (by kernel_rfl) (by kernel_rfl) (by kernel_rfl) (by kernel_rfl) (fun _ _ _ h => h) el_true (fun w _ => el_quiet rfl w) trivial (y_no (wt rfl rfl rfl rfl rfl)) (by simp only [f0, f1, f2]; rfl) ?_
                    refine e_take 23 [24, 25, 29, 30, 31, 32, 33, 34, 35, 36, 37, 38, 39] [0, 1, 2, 3, 4, 5, 6, 7, 8, 9, 10, 11, 12, 13, 14, 15, 16, 17, 18, 19, 20, 21, 22] (undef) (fun _ => True) rfl (by kernel_rfl) (by kernel_rfl) (by kernel_rfl) (by kernel_rfl) (by kernel_rfl) (by kernel_rfl) (fun _ _ _ h => h) el_true (fun w _ => el_quiet rfl w) trivial (y_no (wt rfl rfl rfl rfl rfl)) (by simp only [f0, f1, f2]; rfl) ?_
                    refine e_take 24 [25, 29, 30, 31, 32, 33, 34, 35, 36, 37, 38, 39] [0, 1, 2, 3, 4, 5, 6, 7, 8, 9, 10, 11, 12, 13, 14, 15, 16, 17, 18, 19, 20, 21, 22, 23] (undef) (fun _ => True) rfl (by kernel_rfl) (by kernel_rfl) (by kernel_rfl) (by kernel_rfl) (by kernel_rfl) (by kernel_rfl) (fun _ _ _ h => h) el_true (fun w _ => el_quiet rfl w) trivial (y_no (wt rfl rfl rfl rfl rfl)) (by simp only [f0, f1, f2]; rfl) ?_
                    refine e_take 25 [29, 30, 31, 32, 33, 34, 35, 36, 37, 38, 39] [0, 1, 2, 3, 4, 5, 6, 7, 8, 9, 10, 11, 12, 13, 14, 15, 16, 17, 18, 19, 20, 21, 22, 23, 24] (undef) (fun _ => True) rfl (by kernel_rfl) (by kernel_rfl) (by kernel_rfl) (by kernel_rfl) (by kernel_rfl) (by kernel_rfl) (fun _ _ _ h => h) el_true (fun w _ => el_loud rfl (Same.refl _ w)) trivial (y_no (wt rfl rfl rfl rfl rfl)) (by simp only [f0, f1, f2]; rfl) ?_
                    refine e_take 26 [27, 28, 29, 30, 31, 32, 33, 34, 35, 36, 37, 38, 39] [0, 1, 2, 3, 4, 5, 6, 7, 8, 9, 10, 11, 12, 13, 14, 15, 16, 17, 18, 19, 20, 21, 22, 23, 24, 25] (undef) (fun _ => True) rfl (by kernel_rfl) (by kernel_rfl) (by kernel_rfl) (by kernel_rfl) (by kernel_rfl) (by kernel_rfl) (fun _ _ _ h => h) el_true (fun w _ => el_quiet rfl w) trivial (y_no (wt rfl rfl rfl rfl rfl)) (by simp only [f0, f1, f2]; rfl) ?_
                    refine e_take 27 [28, 29, 30, 31, 32, 33, 34, 35, 36, 37, 38, 39] [0, 1, 2, 3, 4, 5, 6, 7, 8, 9, 10, 11, 12, 13, 14, 15, 16, 17, 18, 19, 20, 21, 22, 23, 24, 25, 26] (undef) (fun _ => True) rfl (by kernel_rfl) (by kernel_rfl) (by kernel_rfl) (by kernel_rfl) (by kernel_rfl) (by kernel_rfl) (fun _ _ _ h => h) el_true (fun w _ => el_quiet rfl w) trivial (y_no (wt rfl rfl rfl rfl rfl)) (by simp only [f0, f1, f2]; rfl) ?_
                    refine e_take 28 [29, 30, 31, 32, 33, 34, 35, 36, 37, 38, 39] [0, 1, 2, 3, 4, 5, 6, 7, 8, 9, 10, 11, 12, 13, 14, 15, 16, 17, 18, 19, 20, 21, 22, 23, 24, 25, 26, 27] (undef) (fun _ => True) rfl (by kernel_rfl) (by kernel_rfl) (by kernel_rfl) (by kernel_rfl) (by kernel_rfl) (by kernel_rfl) (fun _ _ _ h => h) el_true (fun w _ => el_quiet rfl w) trivial (y_no (wt rfl rfl rfl rfl rfl)) (by simp only [f0, f1, f2]; rfl) ?_
                    refine e_take 29 [30, 31, 32, 33, 34, 35, 36, 37, 38, 39] [0, 1, 2, 3, 4, 5, 6, 7, 8, 9, 10, 11, 12, 13, 14, 15, 16, 17, 18, 19, 20, 21, 22, 23, 24, 25, 26, 27, 28] (undef) (fun _ => True) rfl (by kernel_rfl) (by kernel_rfl) (by kernel_rfl) (by kernel_rfl) (by kernel_rfl) (by kernel_rfl) (fun _ _ _ h => h) el_true (fun w _ => el_loud rfl (Same.refl _ w)) trivial (y_no (wt rfl rfl rfl rfl rfl)) (by simp only [f0, f1, f2]; rfl) ?_
                    refine e_take 30 [31, 32, 33, 34, 35, 36, 37, 38, 39] [0, 1, 2, 3, 4, 5, 6, 7, 8, 9, 10, 11, 12, 13, 14, 15, 16, 17, 18, 19, 20, 21, 22, 23, 24, 25, 26, 27, 28, 29] (undef) (fun _ => True) rfl (by kernel_rfl) (by kernel_rfl) (by kernel_rfl) (by kernel_rfl) (by kernel_rfl) (by kernel_rfl) (fun _ _ _ h => h) el_true (fun w _ => el_loud rfl (Same.refl _ w)) trivial (y_no (wt rfl rfl rfl rfl rfl)) (by simp only [f0, f1, f2]; rfl) ?_
                    refine e_take 31 [32, 33, 34, 35, 36, 37, 38, 39] [0, 1, 2, 3, 4, 5, 6, 7, 8, 9, 10, 11, 12, 13, 14, 15, 16, 17, 18, 19, 20, 21, 22, 23, 24, 25, 26, 27, 28, 29, 30] (undef) (fun _ => True) rfl (by kernel_rfl) (by kernel_rfl) (by kernel_rfl) (by kernel_rfl) (by kernel_rfl) (by kernel_rfl) (fun _ _ _ h => h) el_true (fun w _ => el_quiet rfl w) trivial (y_no (wt rfl rfl rfl rfl rfl)) (by simp only [f0, f1, f2]; rfl) ?_
                    refine e_take 32 [33, 34, 35, 36, 37, 38, 39] [0, 1, 2, 3, 4, 5, 6, 7, 8, 9, 10, 11, 12, 13, 14, 15, 16, 17, 18, 19, 20, 21, 22, 23, 24, 25, 26, 27, 28, 29, 30, 31] (.bool true) (fun _ => True) rfl (by kernel_rfl) (by kernel_rfl) (by kernel_rfl) (by kernel_rfl) (by kernel_rfl) (by kernel_rfl) (fun _ _ _ h => h) el_true (fun w _ => el_quiet rfl w) trivial (y_val (wn rfl) (fun w' hw' => (r_pickT rfl rfl))) (by simp only [f0, f1, f2]; rfl) ?_
                    refine e_take 33 [34, 35, 36, 37, 38, 39] [0, 1, 2, 3, 4, 5, 6, 7, 8, 9, 10, 11, 12, 13, 14, 15, 16, 17, 18, 19, 20, 21, 22, 23, 24, 25, 26, 27, 28, 29, 30, 31, 32] (.bool true) (fun _ => True) rfl (by kernel_rfl) (by kernel_rfl) (by kernel_rfl) (by kernel_rfl) (by kernel_rfl) (by kernel_rfl) (fun _ _ _ h => h) el_true (fun w _ => el_quiet rfl w) trivial (y_val (wn rfl) (fun w' hw' => rfl)) (by simp only [f0, f1, f2]; rfl) ?_
                    refine e_take 34 [35, 37, 38, 39] [0, 1, 2, 3, 4, 5, 6, 7, 8, 9, 10, 11, 12, 13, 14, 15, 16, 17, 18, 19, 20, 21, 22, 23, 24, 25, 26, 27, 28, 29, 30, 31, 32, 33] (undef) (fun _ => True) rfl (by kernel_rfl) (by kernel_rfl) (by kernel_rfl) (by kernel_rfl) (by kernel_rfl) (by kernel_rfl) (fun _ _ _ h => h) el_true (fun w _ => el_quiet rfl w) trivial (y_no (wt rfl rfl rfl rfl rfl)) (by simp only [f0, f1, f2]; rfl) ?_
                    refine e_take 35 [37, 38, 39] [0, 1, 2, 3, 4, 5, 6, 7, 8, 9, 10, 11, 12, 13, 14, 15, 16, 17, 18, 19, 20, 21, 22, 23, 24, 25, 26, 27, 28, 29, 30, 31, 32, 33, 34] (undef) (fun _ => True) rfl (by kernel_rfl) (by kernel_rfl) (by kernel_rfl) (by kernel_rfl) (by kernel_rfl) (by kernel_rfl) (fun _ _ _ h => h) el_true (fun w _ => el_loud rfl (Same.refl _ w)) trivial (y_no (wt rfl rfl rfl rfl rfl)) (by simp only [f0, f1, f2]; rfl) ?_
                    refine e_take 36 [37, 38, 39] [0, 1, 2, 3, 4, 5, 6, 7, 8, 9, 10, 11, 12, 13, 14, 15, 16, 17, 18, 19, 20, 21, 22, 23, 24, 25, 26, 27, 28, 29, 30, 31, 32, 33, 34, 35] (undef) (fun _ => True) rfl (by kernel_rfl) (by kernel_rfl) (by kernel_rfl) (by kernel_rfl) (by kernel_rfl) (by kernel_rfl) (fun _ _ _ h => h) el_true (fun w _ => el_quiet rfl w) trivial (y_no (wt rfl rfl rfl rfl rfl)) (by simp only [f0, f1, f2]; rfl) ?_
                    refine e_take 37 [38, 39] [0, 1, 2, 3, 4, 5, 6, 7, 8, 9, 10, 11, 12, 13, 14, 15, 16, 17, 18, 19, 20, 21, 22, 23, 24, 25, 26, 27, 28, 29, 30, 31, 32, 33, 34, 35, 36] (undef) (fun _ => True) rfl (by kernel_rfl) (by kernel_rfl) (by kernel_rfl) (by kernel_rfl) (by kernel_rfl) (by kernel_rfl) (fun _ _ _ h => h) el_true (fun w _ => el_loud rfl (Same.refl _ w)) trivial (y_no (wt rfl rfl rfl rfl rfl)) (by simp only [f0, f1, f2]; rfl) ?_
                    refine e_take 38 [39] [0, 1, 2, 3, 4, 5, 6, 7, 8, 9, 10, 11, 12, 13, 14, 15, 16, 17, 18, 19, 20, 21, 22, 23, 24, 25, 26, 27, 28, 29, 30, 31, 32, 33, 34, 35, 36, 37] (undef) (fun _ => True) rfl (by kernel_rfl) (by kernel_rfl) (by kernel_rfl) (by kernel_rfl) (by kernel_rfl) (by kernel_rfl) (fun _ _ _ h => h) el_true (fun w _ => el_quiet rfl w) trivial (y_no (wt rfl rfl rfl rfl rfl)) (by simp only [f0, f1, f2]; rfl) ?_
                    refine e_take 39 [] [0, 1, 2, 3, 4, 5, 6, 7, 8, 9, 10, 11, 12, 13, 14, 15, 16, 17, 18, 19, 20, 21, 22, 23, 24, 25, 26, 27, 28, 29, 30, 31, 32, 33, 34, 35, 36, 37, 38] (.bool true) (fun _ => True) rfl (by kernel_rfl) (by kernel_rfl) (by kernel_rfl) (by kernel_rfl) (by kernel_rfl) (by kernel_rfl) (fun _ _ _ h => h) el_true (fun w _ => el_quiet rfl w) trivial (y_val (wn rfl) (fun w' hw' => (r_pickT rfl rfl))) (by simp only [f0, f1, f2]; rfl) ?_
                    refine e_done (by kernel_rfl) ?_
                    exact then_normal ⟨_, (some_us rfl rfl rfl), h⟩
                  · replace h := h.2 hg5
                    refine e_take 9 [10, 13, 14, 15, 16, 17, 18, 19, 20, 21, 22, 23, 24, 25, 26, 27, 28, 29, 30, 31, 32, 33, 34, 35, 36, 37, 38, 39] [0, 1, 2, 3, 4, 5, 6, 7, 8] (Sl.v x24) (fun _ => True) rfl (by kernel_rfl) (by kernel_rfl) (by kernel_rfl) (by kernel_rfl) (by kernel_rfl) (by kernel_rfl) (fun _ _ _ h => h) el_true (fun w _ => el_quiet rfl w) trivial (y_val (wt rfl rfl rfl (congrArg (fun z => some (Value.bool z)) hg5) rfl) (fun w' hw' => rfl)) (by simp only [f0, f1, f2]; rfl) ?_
                    obtain ⟨bs, hx7, h⟩ := h
                    refine e_take 10 [13, 14, 15, 16, 17, 18, 19, 20, 21, 22, 23, 24, 25, 26, 27, 28, 29, 30, 31, 32, 33, 34, 35, 36, 37, 38, 39] [0, 1, 2, 3, 4, 5, 6, 7, 8, 9] (.string (⟨List.toArray bs⟩ : ByteArray)) (fun w' => Bytes w' x24 bs) rfl (by kernel_rfl) (by kernel_rfl) (by kernel_rfl) (by kernel_rfl) (by kernel_rfl) (by kernel_rfl) (fun _ _ _ h => h) (el_stable (b := (Sl.blk x24)) (List.forall_mem_cons.2 ⟨.inl (by simp), List.forall_mem_cons.2 ⟨.inl (by simp), List.forall_mem_cons.2 ⟨.inl (by simp), List.forall_mem_cons.2 ⟨.inl (by simp), List.forall_mem_cons.2 ⟨.inl (by simp), List.forall_mem_cons.2 ⟨.inl (by simp), List.forall_mem_nil _⟩⟩⟩⟩⟩⟩) keep_bytes) (fun w _ => el_quiet rfl w) hx7 (y_val (wt rfl rfl rfl (congrArg (fun z => some (Value.bool z)) hg5) rfl) (fun w' hw' => (r_bytesStr (sl := x24) Try.underlying27 Try.underlying5 Try.underlying9 rfl hw'))) (by simp only [f0, f1, f2]; rfl) ?_
                    refine e_take 11 [12, 13, 14, 15, 16, 17, 18, 19, 20, 21, 22, 23, 24, 25, 26, 27, 28, 29, 30, 31, 32, 33, 34, 35, 36, 37, 38, 39] [0, 1, 2, 3, 4, 5, 6, 7, 8, 9, 10] (Sl.v x26) (fun _ => True) rfl (by kernel_rfl) (by kernel_rfl) (by kernel_rfl) (by kernel_rfl) (by kernel_rfl) (by kernel_rfl) (fun _ _ _ h => h) el_true (fun w _ => el_quiet rfl w) trivial (y_val (wt rfl rfl rfl (congrArg (fun z => some (Value.bool z)) hg5) rfl) (fun w' hw' => rfl)) (by simp only [f0, f1, f2]; rfl) ?_
                    obtain ⟨bs1, hx8, h⟩ := h
                    refine e_take 12 [13, 14, 15, 16, 17, 18, 19, 20, 21, 22, 23, 24, 25, 26, 27, 28, 29, 30, 31, 32, 33, 34, 35, 36, 37, 38, 39] [0, 1, 2, 3, 4, 5, 6, 7, 8, 9, 10, 11] (.string (⟨List.toArray bs1⟩ : ByteArray)) (fun w' => Bytes w' x26 bs1) rfl (by kernel_rfl) (by kernel_rfl) (by kernel_rfl) (by kernel_rfl) (by kernel_rfl) (by kernel_rfl) (fun _ _ _ h => h) (el_stable (b := (Sl.blk x26)) (List.forall_mem_cons.2 ⟨.inl (by simp), List.forall_mem_cons.2 ⟨.inl (by simp), List.forall_mem_cons.2 ⟨.inl (by simp), List.forall_mem_cons.2 ⟨.inl (by simp), List.forall_mem_cons.2 ⟨.inl (by simp), List.forall_mem_cons.2 ⟨.inl (by simp), List.forall_mem_nil _⟩⟩⟩⟩⟩⟩) keep_bytes) (fun w _ => el_quiet rfl w) hx8 (y_val (wt rfl rfl rfl (congrArg (fun z => some (Value.bool z)) hg5) rfl) (fun w' hw' => (r_bytesStr (sl := x26) Try.underlying27 Try.underlying5 Try.underlying9 rfl hw'))) (by simp only [f0, f1, f2]; rfl) ?_
                    refine e_take 13 [14, 15, 16, 17, 18, 19, 20, 21, 22, 23, 24, 25, 26, 27, 28, 29, 30, 31, 32, 33, 34, 35, 36, 37, 38, 39] [0, 1, 2, 3, 4, 5, 6, 7, 8, 9, 10, 11, 12] (.bool (!((⟨List.toArray bs⟩ : ByteArray).toList == (⟨List.toArray bs1⟩ : ByteArray).toList))) (fun _ => True) rfl (by kernel_rfl) (by kernel_rfl) (by kernel_rfl) (by kernel_rfl) (by kernel_rfl) (by kernel_rfl) (fun _ _ _ h => h) el_true (fun w _ => el_quiet rfl w) trivial (y_val (wt rfl rfl rfl (congrArg (fun z => some (Value.bool z)) hg5) rfl) (fun w' hw' => rfl)) (by simp only [f0, f1, f2]; rfl) ?_
                    refine e_take 14 [15, 16, 17, 18, 19, 20, 21, 22, 23, 24, 25, 26, 27, 28, 29, 30, 31, 32, 33, 34, 35, 36, 37, 38, 39] [0, 1, 2, 3, 4, 5, 6, 7, 8, 9, 10, 11, 12, 13] (.bool (!((⟨List.toArray bs⟩ : ByteArray).toList == (⟨List.toArray bs1⟩ : ByteArray).toList))) (fun _ => True) rfl (by kernel_rfl) (by kernel_rfl) (by kernel_rfl) (by kernel_rfl) (by kernel_rfl) (by kernel_rfl) (fun _ _ _ h => h) el_true (fun w _ => el_quiet rfl w) trivial (y_val (wn rfl) (fun w' hw' => (r_pickF (congrArg Value.bool hg5) rfl))) (by simp only [f0, f1, f2]; rfl) ?_
                    refine e_take 15 [16, 17, 18, 19, 20, 21, 22, 23, 24, 25, 26, 27, 28, 29, 30, 31, 32, 33, 34, 35, 36, 37, 38, 39] [0, 1, 2, 3, 4, 5, 6, 7, 8, 9, 10, 11, 12, 13, 14] (.bool (!((⟨List.toArray bs⟩ : ByteArray).toList == (⟨List.toArray bs1⟩ : ByteArray).toList))) (fun _ => True) rfl (by kernel_rfl) (by kernel_rfl) (by kernel_rfl) (by kernel_rfl) (by kernel_rfl) (by kernel_rfl) (fun _ _ _ h => h) el_true (fun w _ => el_quiet rfl w) trivial (y_val (wn rfl) (fun w' hw' => rfl)) (by simp only [f0, f1, f2]; rfl) ?_
                    rcases Bool.eq_false_or_eq_true (!((⟨List.toArray bs⟩ : ByteArray).toList == (⟨List.toArray bs1⟩ : ByteArray).toList)) with hg6 | hg6
                    · replace h := h.1 hg6
                      refine e_take 16 [18, 19, 20, 21, 22, 23, 24, 25, 26, 27, 28, 29, 30, 31, 32, 33, 34, 35, 36, 37, 38, 39] [0, 1, 2, 3, 4, 5, 6, 7, 8, 9, 10, 11, 12, 13, 14, 15] (undef) (fun _ => True) rfl (by kernel_rfl) (by kernel_rfl) (by kernel_rfl) (by kernel_rfl) (by kernel_rfl) (by kernel_rfl) (fun _ _ _ h => h) el_true (fun w _ => el_quiet rfl w) trivial (y_no (wt rfl rfl rfl (congrArg (fun z => some (Value.bool z)) hg6) rfl)) (by simp only [f0, f1, f2]; rfl) ?_
                      refine e_take 17 [18, 19, 20, 21, 22, 23, 24, 25, 26, 27, 28, 29, 30, 31, 32, 33, 34, 35, 36, 37, 38, 39] [0, 1, 2, 3, 4, 5, 6, 7, 8, 9, 10, 11, 12, 13, 14, 15, 16] (undef) (fun _ => True) rfl (by kernel_rfl) (by kernel_rfl) (by kernel_rfl) (by kernel_rfl) (by kernel_rfl) (by kernel_rfl) (fun _ _ _ h => h) el_true (fun w _ => el_quiet rfl w) trivial (y_no (wt rfl rfl rfl (congrArg (fun z => some (Value.bool z)) hg6) rfl)) (by simp only [f0, f1, f2]; rfl) ?_
                      refine e_take 18 [19, 20, 21, 22, 23, 24, 25, 26, 27, 28, 29, 30, 31, 32, 33, 34, 35, 36, 37, 38, 39] [0, 1, 2, 3, 4, 5, 6, 7, 8, 9, 10, 11, 12, 13, 14, 15, 16, 17] (undef) (fun _ => True) rfl (by kernel_rfl) (by kernel_rfl) (by kernel_rfl) (by kernel_rfl) (by kernel_rfl) (by kernel_rfl) (fun _ _ _ h => h) el_true (fun w _ => el_loud rfl (Same.refl _ w)) trivial (y_no (wt rfl rfl rfl (congrArg (fun z => some (Value.bool z)) hg6) rfl)) (by simp only [f0, f1, f2]; rfl) ?_
                      refine e_take 19 [20, 21, 22, 23, 24, 25, 26, 27, 28, 29, 30, 31, 32, 33, 34, 35, 36, 37, 38, 39] [0, 1, 2, 3, 4, 5, 6, 7, 8, 9, 10, 11, 12, 13, 14, 15, 16, 17, 18] (undef) (fun _ => True) rfl (by kernel_rfl) (by kernel_rfl) (by kernel_rfl) (by kernel_rfl) (by kernel_rfl) (by kernel_rfl) (fun _ _ _ h => h) el_true (fun w _ => el_quiet rfl w) trivial (y_no (wt rfl rfl rfl (congrArg (fun z => some (Value.bool z)) hg6) rfl)) (by simp only [f0, f1, f2]; rfl) ?_
                      refine e_take 20 [21, 22, 23, 24, 25, 26, 27, 28, 29, 30, 31, 32, 33, 34, 35, 36, 37, 38, 39] [0, 1, 2, 3, 4, 5, 6, 7, 8, 9, 10, 11, 12, 13, 14, 15, 16, 17, 18, 19] (.bool true) (fun _ => True) rfl (by kernel_rfl) (by kernel_rfl) (by kernel_rfl) (by kernel_rfl) (by kernel_rfl) (by kernel_rfl) (fun _ _ _ h => h) el_true (fun w _ => el_quiet rfl w) trivial (y_val (wn rfl) (fun w' hw' => (r_pickT (congrArg Value.bool hg6) rfl))) (by simp only [f0, f1, f2]; rfl) ?_
                      refine e_take 21 [22, 23, 24, 25, 26, 27, 28, 29, 30, 31, 32, 33, 34, 35, 36, 37, 38, 39] [0, 1, 2, 3, 4, 5, 6, 7, 8, 9, 10, 11, 12, 13, 14, 15, 16, 17, 18, 19, 20] (.bool true) (fun _ => True) rfl (by kernel_rfl) (by kernel_rfl) (by kernel_rfl) (by kernel_rfl) (by kernel_rfl) (by kernel_rfl) (fun _ _ _ h => h) el_true (fun w _ => el_quiet rfl w) trivial (y_val (wn rfl) (fun w' hw' => rfl)) (by simp only [f0, f1, f2]; rfl) ?_
                      refine e_take 22 [23, 24, 25, 29, 30, 31, 32, 33, 34, 35, 36, 37, 38, 39] [0, 1, 2, 3, 4, 5, 6, 7, 8, 9, 10, 11, 12, 13, 14, 15, 16, 17, 18, 19, 20, 21] (undef) (fun _ => True) rfl (by kernel_rfl) (by kernel_rfl) (by kernel_rfl) (by kernel_rfl) (by kernel_rfl) (by kernel_rfl) (fun _ _ _ h => h) el_true (fun w _ => el_quiet rfl w) trivial (y_no (wt rfl rfl rfl rfl rfl)) (by simp only [f0, f1, f2]; rfl) ?_
                      refine e_take 23 [24, 25, 29, 30, 31, 32, 33, 34, 35, 36, 37, 38, 39] [0, 1, 2, 3, 4, 5, 6, 7, 8, 9, 10, 11, 12, 13, 14, 15, 16, 17, 18, 19, 20, 21, 22] (undef) (fun _ => True) rfl (by kernel_rfl) (by kernel_rfl) (by kernel_rfl) (by kernel_rfl) (by kernel_rfl) (by kernel_rfl) (fun _ _ _ h => h) el_true (fun w _ => el_quiet rfl w) trivial (y_no (wt rfl rfl rfl rfl rfl)) (by simp only [f0, f1, f2]; rfl) ?_
                      refine e_take 24 [25, 29, 30, 31, 32, 33, 34, 35, 36, 37, 38, 39] [0, 1, 2, 3, 4, 5, 6, 7, 8, 9, 10, 11, 12, 13, 14, 15, 16, 17, 18, 19, 20, 21, 22, 23] (undef) (fun _ => True) rfl (by kernel_rfl) (by kernel_rfl) (by kernel_rfl) (by kernel_rfl) (by kernel_rfl) (by kernel_rfl) (fun _ _ _ h => h) el_true (fun w _ => el_quiet rfl w) trivial (y_no (wt rfl rfl rfl rfl rfl)) (by simp only [f0, f1, f2]; rfl) ?_
                      refine e_take 25 [29, 30, 31, 32, 33, 34, 35, 36, 37, 38, 39] [0, 1, 2, 3, 4, 5, 6, 7, 8, 9, 10, 11, 12, 13, 14, 15, 16, 17, 18, 19, 20, 21, 22, 23, 24] (undef) (fun _ => True) rfl (by kernel_rfl) (by kernel_rfl) (by kernel_rfl) (by kernel_rfl) (by kernel_rfl) (by kernel_rfl) (fun _ _ _ h => h) el_true (fun w _ => el_loud rfl (Same.refl _ w)) trivial (y_no (wt rfl rfl rfl rfl rfl)) (by simp only [f0, f1, f2]; rfl) ?_
                      refine e_take 26 [27, 28, 29, 30, 31, 32, 33, 34, 35, 36, 37, 38, 39] [0, 1, 2, 3, 4, 5, 6, 7, 8, 9, 10, 11, 12, 13, 14, 15, 16, 17, 18, 19, 20, 21, 22, 23, 24, 25] (undef) (fun _ => True) rfl (by kernel_rfl) (by kernel_rfl) (by kernel_rfl) (by kernel_rfl) (by kernel_rfl) (by kernel_rfl) (fun _ _ _ h => h) el_true (fun w _ => el_quiet rfl w) trivial (y_no (wt rfl rfl rfl rfl rfl)) (by simp only [f0, f1, f2]; rfl) ?_
                      refine e_take 27 [28, 29, 30, 31, 32, 33, 34, 35, 36, 37, 38, 39] [0, 1, 2, 3, 4, 5, 6, 7, 8, 9, 10, 11, 12, 13, 14, 15, 16, 17, 18, 19, 20, 21, 22, 23, 24, 25, 26] (undef) (fun _ => True) rfl (by kernel_rfl) (by kernel_rfl) (by kernel_rfl) (by kernel_rfl) (by kernel_rfl) (by kernel_rfl) (fun _ _ _ h => h) el_true (fun w _ => el_quiet rfl w) trivial (y_no (wt rfl rfl rfl rfl rfl)) (by simp only [f0, f1, f2]; rfl) ?_
                      refine e_take 28 [29, 30, 31, 32, 33, 34, 35, 36, 37, 38, 39] [0, 1, 2, 3, 4, 5, 6, 7, 8, 9, 10, 11, 12, 13, 14, 15, 16, 17, 18, 19, 20, 21, 22, 23, 24, 25, 26, 27] (undef) (fun _ => True) rfl (by kernel_rfl) (by kernel_rfl) (by kernel_rfl) (by kernel_rfl) (by kernel_rfl) (by kernel_rfl) (fun _ _ _ h => h) el_true (fun w _ => el_quiet rfl w) trivial (y_no (wt rfl rfl rfl rfl rfl)) (by simp only [f0, f1, f2]; rfl) ?_
                      refine e_take 29 [30, 31, 32, 33, 34, 35, 36, 37, 38, 39] [0, 1, 2, 3, 4, 5, 6, 7, 8, 9, 10, 11, 12, 13, 14, 15, 16, 17, 18, 19, 20, 21, 22, 23, 24, 25, 26, 27, 28] (undef) (fun _ => True) rfl (by kernel_rfl) (by kernel_rfl) (by kernel_rfl) (by kernel_rfl) (by kernel_rfl) (by kernel_rfl) (fun _ _ _ h => h) el_true (fun w _ => el_loud rfl (Same.refl _ w)) trivial (y_no (wt rfl rfl rfl rfl rfl)) (by simp only [f0, f1, f2]; rfl) ?_
                      refine e_take 30 [31, 32, 33, 34, 35, 36, 37, 38, 39] [0, 1, 2, 3, 4, 5, 6, 7, 8, 9, 10, 11, 12, 13, 14, 15, 16, 17, 18, 19, 20, 21, 22, 23, 24, 25, 26, 27, 28, 29] (undef) (fun _ => True) rfl (by kernel_rfl) (by kernel_rfl) (by kernel_rfl) (by kernel_rfl) (by kernel_rfl) (by kernel_rfl) (fun _ _ _ h => h) el_true (fun w _ => el_loud rfl (Same.refl _ w)) trivial (y_no (wt rfl rfl rfl rfl rfl)) (by simp only [f0, f1, f2]; rfl) ?_
                      refine e_take 31 [32, 33, 34, 35, 36, 37, 38, 39] [0, 1, 2, 3, 4, 5, 6, 7, 8, 9, 10, 11, 12, 13, 14, 15, 16, 17, 18, 19, 20, 21, 22, 23, 24, 25, 26, 27, 28, 29, 30] (undef) (fun _ => True) rfl (by kernel_rfl) (by kernel_rfl) (by kernel_rfl) (by kernel_rfl) (by kernel_rfl) (by kernel_rfl) (fun _ _ _ h => h) el_true (fun w _ => el_quiet rfl w) trivial (y_no (wt rfl rfl rfl rfl rfl)) (by simp only [f0, f1, f2]; rfl) ?_
                      refine e_take 32 [33, 34, 35, 36, 37, 38, 39] [0, 1, 2, 3, 4, 5, 6, 7, 8, 9, 10, 11, 12, 13, 14, 15, 16, 17, 18, 19, 20, 21, 22, 23, 24, 25, 26, 27, 28, 29, 30, 31] (.bool true) (fun _ => True) rfl (by kernel_rfl) (by kernel_rfl) (by kernel_rfl) (by kernel_rfl) (by kernel_rfl) (by kernel_rfl) (fun _ _ _ h => h) el_true (fun w _ => el_quiet rfl w) trivial (y_val (wn rfl) (fun w' hw' => (r_pickT rfl rfl))) (by simp only [f0, f1, f2]; rfl) ?_
                      refine e_take 33 [34, 35, 36, 37, 38, 39] [0, 1, 2, 3, 4, 5, 6, 7, 8, 9, 10, 11, 12, 13, 14, 15, 16, 17, 18, 19, 20, 21, 22, 23, 24, 25, 26, 27, 28, 29, 30, 31, 32] (.bool true) (fun _ => True) rfl (by kernel_rfl) (by kernel_rfl) (by kernel_rfl) (by kernel_rfl) (by kernel_rfl) (by kernel_rfl) (fun _ _ _ h => h) el_true (fun w _ => el_quiet rfl w) trivial (y_val (wn rfl) (fun w' hw' => rfl)) (by simp only [f0, f1, f2]; rfl) ?_
                      refine e_take 34 [35, 37, 38, 39] [0, 1, 2, 3, 4, 5, 6, 7, 8, 9, 10, 11, 12, 13, 14, 15, 16, 17, 18, 19, 20, 21, 22, 23, 24, 25, 26, 27, 28, 29, 30, 31, 32, 33] (undef) (fun _ => True) rfl (by kernel_rfl) (by kernel_rfl) (by kernel_rfl) (by kernel_rfl) (by kernel_rfl) (by kernel_rfl) (fun _ _ _ h => h) el_true (fun w _ => el_quiet rfl w) trivial (y_no (wt rfl rfl rfl rfl rfl)) (by simp only [f0, f1, f2]; rfl) ?_
                      refine e_take 35 [37, 38, 39] [0, 1, 2, 3, 4, 5, 6, 7, 8, 9, 10, 11, 12, 13, 14, 15, 16, 17, 18, 19, 20, 21, 22, 23, 24, 25, 26, 27, 28, 29, 30, 31, 32, 33, 34] (undef) (fun _ => True) rfl (by kernel_rfl) (by kernel_rfl) (by kernel_rfl) (by kernel_rfl) (by kernel_rfl) (by kernel_rfl) (fun _ _ _ h => h) el_true (fun w _ => el_loud rfl (Same.refl _ w)) trivial (y_no (wt rfl rfl rfl rfl rfl)) (by simp only [f0, f1, f2]; rfl) ?_
                      refine e_take 36 [37, 38, 39] [0, 1, 2, 3, 4, 5, 6, 7, 8, 9, 10, 11, 12, 13, 14, 15, 16, 17, 18, 19, 20, 21, 22, 23, 24, 25, 26, 27, 28, 29, 30, 31, 32, 33, 34, 35] (undef) (fun _ => True) rfl (by kernel_rfl) (by kernel_rfl) (by kernel_rfl) (by kernel_rfl) (by kernel_rfl) (by kernel_rfl) (fun _ _ _ h => h) el_true (fun w _ => el_quiet rfl w) trivial (y_no (wt rfl rfl rfl rfl rfl)) (by simp only [f0, f1, f2]; rfl) ?_
                      refine e_take 37 [38, 39] [0, 1, 2, 3, 4, 5, 6, 7, 8, 9, 10, 11, 12, 13, 14, 15, 16, 17, 18, 19, 20, 21, 22, 23, 24, 25, 26, 27, 28, 29, 30, 31, 32, 33, 34, 35, 36] (undef) (fun _ => True) rfl (by kernel_rfl) (by kernel_rfl) (by kernel_rfl) (by kernel_rfl) (by kernel_rfl) (by kernel_rfl) (fun _ _ _ h => h) el_true (fun w _ => el_loud rfl (Same.refl _ w)) trivial (y_no (wt rfl rfl rfl rfl rfl)) (by simp only [f0, f1, f2]; rfl) ?_
                      refine e_take 38 [39] [0, 1, 2, 3, 4, 5, 6, 7, 8, 9, 10, 11, 12, 13, 14, 15, 16, 17, 18, 19, 20, 21, 22, 23, 24, 25, 26, 27, 28, 29, 30, 31, 32, 33, 34, 35, 36, 37] (undef) (fun _ => True) rfl (by kernel_rfl) (by kernel_rfl) (by kernel_rfl) (by kernel_rfl) (by kernel_rfl) (by kernel_rfl) (fun _ _ _ h => h) el_true (fun w _ => el_quiet rfl w) trivial (y_no (wt rfl rfl rfl rfl rfl)) (by simp only [f0, f1, f2]; rfl) ?_
                      refine e_take 39 [] [0, 1, 2, 3, 4, 5, 6, 7, 8, 9, 10, 11, 12, 13, 14, 15, 16, 17, 18, 19, 20, 21, 22, 23, 24, 25, 26, 27, 28, 29, 30, 31, 32, 33, 34, 35, 36, 37, 38] (.bool true) (fun _ => True) rfl (by kernel_rfl) (by kernel_rfl) (by kernel_rfl) (by kernel_rfl) (by kernel_rfl) (by kernel_rfl) (fun _ _ _ h => h) el_true (fun w _ => el_quiet rfl w) trivial (y_val (wn rfl) (fun w' hw' => (r_pickT rfl rfl))) (by simp only [f0, f1, f2]; rfl) ?_
                      refine e_done (by kernel_rfl) ?_
                      exact then_normal ⟨_, (some_us rfl rfl rfl), h⟩
                    · replace h := h.2 hg6
                      refine e_take 16 [18, 19, 20, 21, 22, 23, 24, 25, 26, 27, 28, 29, 30, 31, 32, 33, 34, 35, 36, 37, 38, 39] [0, 1, 2, 3, 4, 5, 6, 7, 8, 9, 10, 11, 12, 13, 14, 15] (Sl.v x33) (fun _ => True) rfl (by kernel_rfl) (by kernel_rfl) (by kernel_rfl) (by kernel_rfl) (by kernel_rfl) (by kernel_rfl) (fun _ _ _ h => h) el_true (fun w _ => el_quiet rfl w) trivial (y_val (wt rfl rfl rfl (congrArg (fun z => some (Value.bool z)) hg6) rfl) (fun w' hw' => rfl)) (by simp only [f0, f1, f2]; rfl) ?_
                      refine e_take 17 [18, 19, 20, 21, 22, 23, 24, 25, 26, 27, 28, 29, 30, 31, 32, 33, 34, 35, 36, 37, 38, 39] [0, 1, 2, 3, 4, 5, 6, 7, 8, 9, 10, 11, 12, 13, 14, 15, 16] (Sl.v x35) (fun _ => True) rfl (by kernel_rfl) (by kernel_rfl) (by kernel_rfl) (by kernel_rfl) (by kernel_rfl) (by kernel_rfl) (fun _ _ _ h => h) el_true (fun w _ => el_quiet rfl w) trivial (y_val (wt rfl rfl rfl (congrArg (fun z => some (Value.bool z)) hg6) rfl) (fun w' hw' => rfl)) (by simp only [f0, f1, f2]; rfl) ?_
                      refine e_one 18 rfl (by kernel_rfl) (wt rfl rfl rfl (congrArg (fun z => some (Value.bool z)) hg6) rfl) ?_
                      refine o_enter (args := #[Sl.v x33, Sl.v x35]) (r_enter Try.call21 rfl) (h.mono ?_)
                      clear h
                      rintro _ w_12 ⟨x7, rfl, h⟩
                      refine ⟨_, _, rfl, (by simp only [f0, f1, f2]; rfl), ?_⟩
                      refine ⟨el_loud rfl same_nil, ?_⟩
                      refine e_take 19 [20, 21, 22, 23, 24, 25, 26, 27, 28, 29, 30, 31, 32, 33, 34, 35, 36, 37, 38, 39] [0, 1, 2, 3, 4, 5, 6, 7, 8, 9, 10, 11, 12, 13, 14, 15, 16, 17, 18] (.bool (!x7)) (fun _ => True) rfl (by kernel_rfl) (by kernel_rfl) (by kernel_rfl) (by kernel_rfl) (by kernel_rfl) (by kernel_rfl) (fun _ _ _ h => h) el_true (fun w _ => el_quiet rfl w) trivial (y_val (wt rfl rfl rfl (congrArg (fun z => some (Value.bool z)) hg6) rfl) (fun w' hw' => rfl)) (by simp only [f0, f1, f2]; rfl) ?_
                      refine e_take 20 [21, 22, 23, 24, 25, 26, 27, 28, 29, 30, 31, 32, 33, 34, 35, 36, 37, 38, 39] [0, 1, 2, 3, 4, 5, 6, 7, 8, 9, 10, 11, 12, 13, 14, 15, 16, 17, 18, 19] (.bool (!x7)) (fun _ => True) rfl (by kernel_rfl) (by kernel_rfl) (by kernel_rfl) (by kernel_rfl) (by kernel_rfl) (by kernel_rfl) (fun _ _ _ h => h) el_true (fun w _ => el_quiet rfl w) trivial (y_val (wn rfl) (fun w' hw' => (r_pickF (congrArg Value.bool hg6) rfl))) (by simp only [f0, f1, f2]; rfl) ?_
                      refine e_take 21 [22, 23, 24, 25, 26, 27, 28, 29, 30, 31, 32, 33, 34, 35, 36, 37, 38, 39] [0, 1, 2, 3, 4, 5, 6, 7, 8, 9, 10, 11, 12, 13, 14, 15, 16, 17, 18, 19, 20] (.bool (!x7)) (fun _ => True) rfl (by kernel_rfl) (by kernel_rfl) (by kernel_rfl) (by kernel_rfl) (by kernel_rfl) (by kernel_rfl) (fun _ _ _ h => h) el_true (fun w _ => el_quiet rfl w) trivial (y_val (wn rfl) (fun w' hw' => rfl)) (by simp only [f0, f1, f2]; rfl) ?_
                      rcases Bool.eq_false_or_eq_true (!x7) with hg7 | hg7
                      · replace h := h.1 hg7
                        refine e_take 22 [23, 24, 25, 29, 30, 31, 32, 33, 34, 35, 36, 37, 38, 39] [0, 1, 2, 3, 4, 5, 6, 7, 8, 9, 10, 11, 12, 13, 14, 15, 16, 17, 18, 19, 20, 21] (undef) (fun _ => True) rfl (by kernel_rfl) (by kernel_rfl) (by kernel_rfl) (by kernel_rfl) (by kernel_rfl) (by kernel_rfl) (fun _ _ _ h => h) el_true (fun w _ => el_quiet rfl w) trivial (y_no (wt rfl rfl rfl (congrArg (fun z => some (Value.bool z)) hg7) rfl)) (by simp only [f0, f1, f2]; rfl) ?_
                        refine e_take 23 [24, 25, 29, 30, 31, 32, 33, 34, 35, 36, 37, 38, 39] [0, 1, 2, 3, 4, 5, 6, 7, 8, 9, 10, 11, 12, 13, 14, 15, 16, 17, 18, 19, 20, 21, 22] (undef) (fun _ => True) rfl (by kernel_rfl) (by kernel_rfl) (by kernel_rfl) (by kernel_rfl) (by kernel_rfl) (by kernel_rfl) (fun _ _ _ h => h) el_true (fun w _ => el_quiet rfl w) trivial (y_no (wt rfl rfl rfl (congrArg (fun z => some (Value.bool z)) hg7) rfl)) (by simp only [f0, f1, f2]; rfl) ?_
                        refine e_take 24 [25, 29, 30, 31, 32, 33, 34, 35, 36, 37, 38, 39] [0, 1, 2, 3, 4, 5, 6, 7, 8, 9, 10, 11, 12, 13, 14, 15, 16, 17, 18, 19, 20, 21, 22, 23] (undef) (fun _ => True) rfl (by kernel_rfl) (by kernel_rfl) (by kernel_rfl) (by kernel_rfl) (by kernel_rfl) (by kernel_rfl) (fun _ _ _ h => h) el_true (fun w _ => el_quiet rfl w) trivial (y_no (wt rfl rfl rfl (congrArg (fun z => some (Value.bool z)) hg7) rfl)) (by simp only [f0, f1, f2]; rfl) ?_
                        refine e_take 25 [29, 30, 31, 32, 33, 34, 35, 36, 37, 38, 39] [0, 1, 2, 3, 4, 5, 6, 7, 8, 9, 10, 11, 12, 13, 14, 15, 16, 17, 18, 19, 20, 21, 22, 23, 24] (undef) (fun _ => True) rfl (by kernel_rfl) (by kernel_rfl) (by kernel_rfl) (by kernel_rfl) (by kernel_rfl) (by kernel_rfl) (fun _ _ _ h => h) el_true (fun w _ => el_loud rfl (Same.refl _ w)) trivial (y_no (wt rfl rfl rfl (congrArg (fun z => some (Value.bool z)) hg7) rfl)) (by simp only [f0, f1, f2]; rfl) ?_
                        refine e_take 26 [27, 28, 29, 30, 31, 32, 33, 34, 35, 36, 37, 38, 39] [0, 1, 2, 3, 4, 5, 6, 7, 8, 9, 10, 11, 12, 13, 14, 15, 16, 17, 18, 19, 20, 21, 22, 23, 24, 25] (undef) (fun _ => True) rfl (by kernel_rfl) (by kernel_rfl) (by kernel_rfl) (by kernel_rfl) (by kernel_rfl) (by kernel_rfl) (fun _ _ _ h => h) el_true (fun w _ => el_quiet rfl w) trivial (y_no (wt rfl rfl rfl (congrArg (fun z => some (Value.bool z)) hg7) rfl)) (by simp only [f0, f1, f2]; rfl) ?_
                        refine e_take 27 [28, 29, 30, 31, 32, 33, 34, 35, 36, 37, 38, 39] [0, 1, 2, 3, 4, 5, 6, 7, 8, 9, 10, 11, 12, 13, 14, 15, 16, 17, 18, 19, 20, 21, 22, 23, 24, 25, 26] (undef) (fun _ => True) rfl (by kernel_rfl) (by kernel_rfl) (by kernel_rfl) (by kernel_rfl) (by kernel_rfl) (by kernel_rfl) (fun _ _ _ h => h) el_true (fun w _ => el_quiet rfl w) trivial (y_no (wt rfl rfl rfl (congrArg (fun z => some (Value.bool z)) hg7) rfl)) (by simp only [f0, f1, f2]; rfl) ?_
                        refine e_take 28 [29, 30, 31, 32, 33, 34, 35, 36, 37, 38, 39] [0, 1, 2, 3, 4, 5, 6, 7, 8, 9, 10, 11, 12, 13, 14, 15, 16, 17, 18, 19, 20, 21, 22, 23, 24, 25, 26, 27] (undef) (fun _ => True) rfl (by kernel_rfl) (by kernel_rfl) (by kernel_rfl) (by kernel_rfl) (by kernel_rfl) (by kernel_rfl) (fun _ _ _ h => h) el_true (fun w _ => el_quiet rfl w) trivial (y_no (wt rfl rfl rfl (congrArg (fun z => some (Value.bool z)) hg7) rfl)) (by simp only [f0, f1, f2]; rfl) ?_
                        refine e_take 29 [30, 31, 32, 33, 34, 35, 36, 37, 38, 39] [0, 1, 2, 3, 4, 5, 6, 7, 8, 9, 10, 11, 12, 13, 14, 15, 16, 17, 18, 19, 20, 21, 22, 23, 24, 25, 26, 27, 28] (undef) (fun _ => True) rfl (by kernel_rfl) (by kernel_rfl) (by kernel_rfl) (by kernel_rfl) (by kernel_rfl) (by kernel_rfl) (fun _ _ _ h => h) el_true (fun w _ => el_loud rfl (Same.refl _ w)) trivial (y_no (wt rfl rfl rfl (congrArg (fun z => some (Value.bool z)) hg7) rfl)) (by simp only [f0, f1, f2]; rfl) ?_
                        refine e_take 30 [31, 32, 33, 34, 35, 36, 37, 38, 39] [0, 1, 2, 3, 4, 5, 6, 7, 8, 9, 10, 11, 12, 13, 14, 15, 16, 17, 18, 19, 20, 21, 22, 23, 24, 25, 26, 27, 28, 29] (undef) (fun _ => True) rfl (by kernel_rfl) (by kernel_rfl) (by kernel_rfl) (by kernel_rfl) (by kernel_rfl) (by kernel_rfl) (fun _ _ _ h => h) el_true (fun w _ => el_loud rfl (Same.refl _ w)) trivial (y_no (wt rfl rfl rfl (congrArg (fun z => some (Value.bool z)) hg7) rfl)) (by simp only [f0, f1, f2]; rfl) ?_
                        refine e_take 31 [32, 33, 34, 35, 36, 37, 38, 39] [0, 1, 2, 3, 4, 5, 6, 7, 8, 9, 10, 11, 12, 13, 14, 15, 16, 17, 18, 19, 20, 21, 22, 23, 24, 25, 26, 27, 28, 29, 30] (undef) (fun _ => True) rfl (by kernel_rfl) (by kernel_rfl) (by kernel_rfl) (by kernel_rfl) (by kernel_rfl) (by kernel_rfl) (fun _ _ _ h => h) el_true (fun w _ => el_quiet rfl w) trivial (y_no (wt rfl rfl rfl (congrArg (fun z => some (Value.bool z)) hg7) rfl)) (by simp only [f0, f1, f2]; rfl) ?_
                        refine e_take 32 [33, 34, 35, 36, 37, 38, 39] [0, 1, 2, 3, 4, 5, 6, 7, 8, 9, 10, 11, 12, 13, 14, 15, 16, 17, 18, 19, 20, 21, 22, 23, 24, 25, 26, 27, 28, 29, 30, 31] (.bool true) (fun _ => True) rfl (by kernel_rfl) (by kernel_rfl) (by kernel_rfl) (by kernel_rfl) (by kernel_rfl) (by kernel_rfl) (fun _ _ _ h => h) el_true (fun w _ => el_quiet rfl w) trivial (y_val (wn rfl) (fun w' hw' => (r_pickT (congrArg Value.bool hg7) rfl))) (by simp only [f0, f1, f2]; rfl) ?_
                        refine e_take 33 [34, 35, 36, 37, 38, 39] [0, 1, 2, 3, 4, 5, 6, 7, 8, 9, 10, 11, 12, 13, 14, 15, 16, 17, 18, 19, 20, 21, 22, 23, 24, 25, 26, 27, 28, 29, 30, 31, 32] (.bool true) (fun _ => True) rfl (by kernel_rfl) (by kernel_rfl) (by kernel_rfl) (by kernel_rfl) (by kernel_rfl) (by kernel_rfl) (fun _ _ _ h => h) el_true (fun w _ => el_quiet rfl w) trivial (y_val (wn rfl) (fun w' hw' => rfl)) (by simp only [f0, f1, f2]; rfl) ?_
                        refine e_take 34 [35, 37, 38, 39] [0, 1, 2, 3, 4, 5, 6, 7, 8, 9, 10, 11, 12, 13, 14, 15, 16, 17, 18, 19, 20, 21, 22, 23, 24, 25, 26, 27, 28, 29, 30, 31, 32, 33] (undef) (fun _ => True) rfl (by kernel_rfl) (by kernel_rfl) (by kernel_rfl) (by kernel_rfl) (by kernel_rfl) (by kernel_rfl) (fun _ _ _ h => h) el_true (fun w _ => el_quiet rfl w) trivial (y_no (wt rfl rfl rfl rfl rfl)) (by simp only [f0, f1, f2]; rfl) ?_
                        refine e_take 35 [37, 38, 39] [0, 1, 2, 3, 4, 5, 6, 7, 8, 9, 10, 11, 12, 13, 14, 15, 16, 17, 18, 19, 20, 21, 22, 23, 24, 25, 26, 27, 28, 29, 30, 31, 32, 33, 34] (undef) (fun _ => True) rfl (by kernel_rfl) (by kernel_rfl) (by kernel_rfl) (by kernel_rfl) (by kernel_rfl) (by kernel_rfl) (fun _ _ _ h => h) el_true (fun w _ => el_loud rfl (Same.refl _ w)) trivial (y_no (wt rfl rfl rfl rfl rfl)) (by simp only [f0, f1, f2]; rfl) ?_
                        refine e_take 36 [37, 38, 39] [0, 1, 2, 3, 4, 5, 6, 7, 8, 9, 10, 11, 12, 13, 14, 15, 16, 17, 18, 19, 20, 21, 22, 23, 24, 25, 26, 27, 28, 29, 30, 31, 32, 33, 34, 35] (undef) (fun _ => True) rfl (by kernel_rfl) (by kernel_rfl) (by kernel_rfl) (by kernel_rfl) (by kernel_rfl) (by kernel_rfl) (fun _ _ _ h => h) el_true (fun w _ => el_quiet rfl w) trivial (y_no (wt rfl rfl rfl rfl rfl)) (by simp only [f0, f1, f2]; rfl) ?_
                        refine e_take 37 [38, 39] [0, 1, 2, 3, 4, 5, 6, 7, 8, 9, 10, 11, 12, 13, 14, 15, 16, 17, 18, 19, 20, 21, 22, 23, 24, 25, 26, 27, 28, 29, 30, 31, 32, 33, 34, 35, 36] (undef) (fun _ => True) rfl (by kernel_rfl) (by kernel_rfl) (by kernel_rfl) (by kernel_rfl) (by kernel_rfl) (by kernel_rfl) (fun _ _ _ h => h) el_true (fun w _ => el_loud rfl (Same.refl _ w)) trivial (y_no (wt rfl rfl rfl rfl rfl)) (by simp only [f0, f1, f2]; rfl) ?_
                        refine e_take 38 [39] [0, 1, 2, 3, 4, 5, 6, 7, 8, 9, 10, 11, 12, 13, 14, 15, 16, 17, 18, 19, 20, 21, 22, 23, 24, 25, 26, 27, 28, 29, 30, 31, 32, 33, 34, 35, 36, 37] (undef) (fun _ => True) rfl (by kernel_rfl) (by kernel_rfl) (by kernel_rfl) (by kernel_rfl) (by kernel_rfl) (by kernel_rfl) (fun _ _ _ h => h) el_true (fun w _ => el_quiet rfl w) trivial (y_no (wt rfl rfl rfl rfl rfl)) (by simp only [f0, f1, f2]; rfl) ?_
                        refine e_take 39 [] [0, 1, 2, 3, 4, 5, 6, 7, 8, 9, 10, 11, 12, 13, 14, 15, 16, 17, 18, 19, 20, 21, 22, 23, 24, 25, 26, 27, 28, 29, 30, 31, 32, 33, 34, 35, 36, 37, 38] (.bool true) (fun _ => True) rfl (by kernel_rfl) (by kernel_rfl) (by kernel_rfl) (by kernel_rfl) (by kernel_rfl) (by kernel_rfl) (fun _ _ _ h => h) el_true (fun w _ => el_quiet rfl w) trivial (y_val (wn rfl) (fun w' hw' => (r_pickT rfl rfl))) (by simp only [f0, f1, f2]; rfl) ?_
                        refine e_done (by kernel_rfl) ?_
                        exact then_normal ⟨_, (some_us rfl rfl rfl), h⟩
                      · replace h := h.2 hg7
                        refine e_take 22 [23, 24, 25, 29, 30, 31, 32, 33, 34, 35, 36, 37, 38, 39] [0, 1, 2, 3, 4, 5, 6, 7, 8, 9, 10, 11, 12, 13, 14, 15, 16, 17, 18, 19, 20, 21] (.pointer x2) (fun _ => True) rfl (by kernel_rfl) (by kernel_rfl) (by kernel_rfl) (by kernel_rfl) (by kernel_rfl) (by kernel_rfl) (fun _ _ _ h => h) el_true (fun w _ => el_quiet rfl w) trivial (y_val (wt rfl rfl rfl (congrArg (fun z => some (Value.bool z)) hg7) rfl) (fun w' hw' => rfl)) (by simp only [f0, f1, f2]; rfl) ?_
                        obtain ⟨ad4, hx9, h⟩ := h
                        refine e_take 23 [24, 25, 29, 30, 31, 32, 33, 34, 35, 36, 37, 38, 39] [0, 1, 2, 3, 4, 5, 6, 7, 8, 9, 10, 11, 12, 13, 14, 15, 16, 17, 18, 19, 20, 21, 22] (.pointer (some ad4)) (fun _ => True) rfl (by kernel_rfl) (by kernel_rfl) (by kernel_rfl) (by kernel_rfl) (by kernel_rfl) (by kernel_rfl) (fun _ _ _ h => h) el_true (fun w _ => el_quiet rfl w) trivial (y_val (wt rfl rfl rfl (congrArg (fun z => some (Value.bool z)) hg7) rfl) (fun w' hw' => (r_nil (congrArg Value.pointer hx9)))) (by simp only [f0, f1, f2]; rfl) ?_
                        refine e_take 24 [25, 29, 30, 31, 32, 33, 34, 35, 36, 37, 38, 39] [0, 1, 2, 3, 4, 5, 6, 7, 8, 9, 10, 11, 12, 13, 14, 15, 16, 17, 18, 19, 20, 21, 22, 23] (.pointer (some (Addr.add ad4 0))) (fun _ => True) rfl (by kernel_rfl) (by kernel_rfl) (by kernel_rfl) (by kernel_rfl) (by kernel_rfl) (by kernel_rfl) (fun _ _ _ h => h) el_true (fun w _ => el_quiet rfl w) trivial (y_val (wt rfl rfl rfl (congrArg (fun z => some (Value.bool z)) hg7) rfl) (fun w' hw' => (r_field (Try.runUnderlying47 _) rfl (Try.sizeOf45 _) rfl rfl))) (by simp only [f0, f1, f2]; rfl) ?_
                        refine e_take 26 [27, 28, 29, 30, 31, 32, 33, 34, 35, 36, 37, 38, 39] [0, 1, 2, 3, 4, 5, 6, 7, 8, 9, 10, 11, 12, 13, 14, 15, 16, 17, 18, 19, 20, 21, 22, 23, 24] (.pointer x02) (fun _ => True) rfl (by kernel_rfl) (by kernel_rfl) (by kernel_rfl) (by kernel_rfl) (by kernel_rfl) (by kernel_rfl) (fun _ _ _ h => h) el_true (fun w _ => el_quiet rfl w) trivial (y_val (wt rfl rfl rfl (congrArg (fun z => some (Value.bool z)) hg7) rfl) (fun w' hw' => rfl)) (by simp only [f0, f1, f2]; rfl) ?_
                        obtain ⟨ad5, hx10, h⟩ := h
                        refine e_take 27 [28, 29, 30, 31, 32, 33, 34, 35, 36, 37, 38, 39] [0, 1, 2, 3, 4, 5, 6, 7, 8, 9, 10, 11, 12, 13, 14, 15, 16, 17, 18, 19, 20, 21, 22, 23, 24, 26] (.pointer (some ad5)) (fun _ => True) rfl (by kernel_rfl) (by kernel_rfl) (by kernel_rfl) (by kernel_rfl) (by kernel_rfl) (by kernel_rfl) (fun _ _ _ h => h) el_true (fun w _ => el_quiet rfl w) trivial (y_val (wt rfl rfl rfl (congrArg (fun z => some (Value.bool z)) hg7) rfl) (fun w' hw' => (r_nil (congrArg Value.pointer hx10)))) (by simp only [f0, f1, f2]; rfl) ?_
                        refine e_take 28 [29, 30, 31, 32, 33, 34, 35, 36, 37, 38, 39] [0, 1, 2, 3, 4, 5, 6, 7, 8, 9, 10, 11, 12, 13, 14, 15, 16, 17, 18, 19, 20, 21, 22, 23, 24, 26, 27] (.pointer (some (Addr.add ad5 0))) (fun _ => True) rfl (by kernel_rfl) (by kernel_rfl) (by kernel_rfl) (by kernel_rfl) (by kernel_rfl) (by kernel_rfl) (fun _ _ _ h => h) el_true (fun w _ => el_quiet rfl w) trivial (y_val (wt rfl rfl rfl (congrArg (fun z => some (Value.bool z)) hg7) rfl) (fun w' hw' => (r_field (Try.runUnderlying47 _) rfl (Try.sizeOf45 _) rfl rfl))) (by simp only [f0, f1, f2]; rfl) ?_
                        refine e_one 25 rfl (by kernel_rfl) (wt rfl rfl rfl (congrArg (fun z => some (Value.bool z)) hg7) rfl) ?_
                        refine o_enter (args := #[.pointer (some (Addr.add ad4 0))]) (r_enter Try.call14 rfl) (h.mono ?_)
                        clear h
                        rintro _ w_13 ⟨x8, rfl, h⟩
                        refine ⟨_, _, rfl, (by simp only [f0, f1, f2]; rfl), ?_⟩
                        refine ⟨el_loud rfl same_nil, ?_⟩
                        refine e_one 29 rfl (by kernel_rfl) (wt rfl rfl rfl (congrArg (fun z => some (Value.bool z)) hg7) rfl) ?_
                        refine o_enter (args := #[.pointer (some (Addr.add ad5 0))]) (r_enter Try.call14 rfl) (h.mono ?_)
                        clear h
                        rintro _ w_14 ⟨x9, rfl, h⟩
                        refine ⟨_, _, rfl, (by simp only [f0, f1, f2]; rfl), ?_⟩
                        refine ⟨el_loud rfl same_nil, ?_⟩
                        refine e_one 30 rfl (by kernel_rfl) (wt rfl rfl rfl (congrArg (fun z => some (Value.bool z)) hg7) rfl) ?_
                        refine o_enter (args := #[Sl.v x8, Sl.v x9]) (r_enter Try.call19 rfl) (h.mono ?_)
                        clear h
                        rintro _ w_15 ⟨x10, rfl, h⟩
                        refine ⟨_, _, rfl, (by simp only [f0, f1, f2]; rfl), ?_⟩
                        refine ⟨el_loud rfl same_nil, ?_⟩
                        refine e_take 31 [32, 33, 34, 35, 36, 37, 38, 39] [0, 1, 2, 3, 4, 5, 6, 7, 8, 9, 10, 11, 12, 13, 14, 15, 16, 17, 18, 19, 20, 21, 22, 23, 24, 25, 26, 27, 28, 29, 30] (.bool (!x10)) (fun _ => True) rfl (by kernel_rfl) (by kernel_rfl) (by kernel_rfl) (by kernel_rfl) (by kernel_rfl) (by kernel_rfl) (fun _ _ _ h => h) el_true (fun w _ => el_quiet rfl w) trivial (y_val (wt rfl rfl rfl (congrArg (fun z => some (Value.bool z)) hg7) rfl) (fun w' hw' => rfl)) (by simp only [f0, f1, f2]; rfl) ?_
                        refine e_take 32 [33, 34, 35, 36, 37, 38, 39] [0, 1, 2, 3, 4, 5, 6, 7, 8, 9, 10, 11, 12, 13, 14, 15, 16, 17, 18, 19, 20, 21, 22, 23, 24, 25, 26, 27, 28, 29, 30, 31] (.bool (!x10)) (fun _ => True) rfl (by kernel_rfl) (by kernel_rfl) (by kernel_rfl) (by kernel_rfl) (by kernel_rfl) (by kernel_rfl) (fun _ _ _ h => h) el_true (fun w _ => el_quiet rfl w) trivial (y_val (wn rfl) (fun w' hw' => (r_pickF (congrArg Value.bool hg7) rfl))) (by simp only [f0, f1, f2]; rfl) ?_
                        refine e_take 33 [34, 35, 36, 37, 38, 39] [0, 1, 2, 3, 4, 5, 6, 7, 8, 9, 10, 11, 12, 13, 14, 15, 16, 17, 18, 19, 20, 21, 22, 23, 24, 25, 26, 27, 28, 29, 30, 31, 32] (.bool (!x10)) (fun _ => True) rfl (by kernel_rfl) (by kernel_rfl) (by kernel_rfl) (by kernel_rfl) (by kernel_rfl) (by kernel_rfl) (fun _ _ _ h => h) el_true (fun w _ => el_quiet rfl w) trivial (y_val (wn rfl) (fun w' hw' => rfl)) (by simp only [f0, f1, f2]; rfl) ?_
                        rcases Bool.eq_false_or_eq_true (!x10) with hg8 | hg8
                        · replace h := h.1 hg8
                          refine e_take 34 [35, 37, 38, 39] [0, 1, 2, 3, 4, 5, 6, 7, 8, 9, 10, 11, 12, 13, 14, 15, 16, 17, 18, 19, 20, 21, 22, 23, 24, 25, 26, 27, 28, 29, 30, 31, 32, 33] (undef) (fun _ => True) rfl (by kernel_rfl) (by kernel_rfl) (by kernel_rfl) (by kernel_rfl) (by kernel_rfl) (by kernel_rfl) (fun _ _ _ h => h) el_true (fun w _ => el_quiet rfl w) trivial (y_no (wt rfl rfl rfl (congrArg (fun z => some (Value.bool z)) hg8) rfl)) (by simp only [f0, f1, f2]; rfl) ?_
                          refine e_take 35 [37, 38, 39] [0, 1, 2, 3, 4, 5, 6, 7, 8, 9, 10, 11, 12, 13, 14, 15, 16, 17, 18, 19, 20, 21, 22, 23, 24, 25, 26, 27, 28, 29, 30, 31, 32, 33, 34] (undef) (fun _ => True) rfl (by kernel_rfl) (by kernel_rfl) (by kernel_rfl) (by kernel_rfl) (by kernel_rfl) (by kernel_rfl) (fun _ _ _ h => h) el_true (fun w _ => el_loud rfl (Same.refl _ w)) trivial (y_no (wt rfl rfl rfl (congrArg (fun z => some (Value.bool z)) hg8) rfl)) (by simp only [f0, f1, f2]; rfl) ?_
                          refine e_take 36 [37, 38, 39] [0, 1, 2, 3, 4, 5, 6, 7, 8, 9, 10, 11, 12, 13, 14, 15, 16, 17, 18, 19, 20, 21, 22, 23, 24, 25, 26, 27, 28, 29, 30, 31, 32, 33, 34, 35] (undef) (fun _ => True) rfl (by kernel_rfl) (by kernel_rfl) (by kernel_rfl) (by kernel_rfl) (by kernel_rfl) (by kernel_rfl) (fun _ _ _ h => h) el_true (fun w _ => el_quiet rfl w) trivial (y_no (wt rfl rfl rfl (congrArg (fun z => some (Value.bool z)) hg8) rfl)) (by simp only [f0, f1, f2]; rfl) ?_
                          refine e_take 37 [38, 39] [0, 1, 2, 3, 4, 5, 6, 7, 8, 9, 10, 11, 12, 13, 14, 15, 16, 17, 18, 19, 20, 21, 22, 23, 24, 25, 26, 27, 28, 29, 30, 31, 32, 33, 34, 35, 36] (undef) (fun _ => True) rfl (by kernel_rfl) (by kernel_rfl) (by kernel_rfl) (by kernel_rfl) (by kernel_rfl) (by kernel_rfl) (fun _ _ _ h => h) el_true (fun w _ => el_loud rfl (Same.refl _ w)) trivial (y_no (wt rfl rfl rfl (congrArg (fun z => some (Value.bool z)) hg8) rfl)) (by simp only [f0, f1, f2]; rfl) ?_
                          refine e_take 38 [39] [0, 1, 2, 3, 4, 5, 6, 7, 8, 9, 10, 11, 12, 13, 14, 15, 16, 17, 18, 19, 20, 21, 22, 23, 24, 25, 26, 27, 28, 29, 30, 31, 32, 33, 34, 35, 36, 37] (undef) (fun _ => True) rfl (by kernel_rfl) (by kernel_rfl) (by kernel_rfl) (by kernel_rfl) (by kernel_rfl) (by kernel_rfl) (fun _ _ _ h => h) el_true (fun w _ => el_quiet rfl w) trivial (y_no (wt rfl rfl rfl (congrArg (fun z => some (Value.bool z)) hg8) rfl)) (by simp only [f0, f1, f2]; rfl) ?_
                          refine e_take 39 [] [0, 1, 2, 3, 4, 5, 6, 7, 8, 9, 10, 11, 12, 13, 14, 15, 16, 17, 18, 19, 20, 21, 22, 23, 24, 25, 26, 27, 28, 29, 30, 31, 32, 33, 34, 35, 36, 37, 38] (.bool true) (fun _ => True) rfl (by kernel_rfl) (by kernel_rfl) (by kernel_rfl) (by kernel_rfl) (by kernel_rfl) (by kernel_rfl) (fun _ _ _ h => h) el_true (fun w _ => el_quiet rfl w) trivial (y_val (wn rfl) (fun w' hw' => (r_pickT (congrArg Value.bool hg8) rfl))) (by simp only [f0, f1, f2]; rfl) ?_
                          refine e_done (by kernel_rfl) ?_
                          exact then_normal ⟨_, (some_us rfl rfl rfl), h⟩
                        · replace h := h.2 hg8
                          refine e_take 34 [35, 37, 38, 39] [0, 1, 2, 3, 4, 5, 6, 7, 8, 9, 10, 11, 12, 13, 14, 15, 16, 17, 18, 19, 20, 21, 22, 23, 24, 25, 26, 27, 28, 29, 30, 31, 32, 33] (.pointer x2) (fun _ => True) rfl (by kernel_rfl) (by kernel_rfl) (by kernel_rfl) (by kernel_rfl) (by kernel_rfl) (by kernel_rfl) (fun _ _ _ h => h) el_true (fun w _ => el_quiet rfl w) trivial (y_val (wt rfl rfl rfl (congrArg (fun z => some (Value.bool z)) hg8) rfl) (fun w' hw' => rfl)) (by simp only [f0, f1, f2]; rfl) ?_
                          refine e_take 36 [37, 38, 39] [0, 1, 2, 3, 4, 5, 6, 7, 8, 9, 10, 11, 12, 13, 14, 15, 16, 17, 18, 19, 20, 21, 22, 23, 24, 25, 26, 27, 28, 29, 30, 31, 32, 33, 34] (.pointer x02) (fun _ => True) rfl (by kernel_rfl) (by kernel_rfl) (by kernel_rfl) (by kernel_rfl) (by kernel_rfl) (by kernel_rfl) (fun _ _ _ h => h) el_true (fun w _ => el_quiet rfl w) trivial (y_val (wt rfl rfl rfl (congrArg (fun z => some (Value.bool z)) hg8) rfl) (fun w' hw' => rfl)) (by simp only [f0, f1, f2]; rfl) ?_
                          refine e_one 35 rfl (by kernel_rfl) (wt rfl rfl rfl (congrArg (fun z => some (Value.bool z)) hg8) rfl) ?_
                          refine o_enter (args := #[.pointer x2]) (r_enter Try.call15 rfl) (h.mono ?_)
                          clear h
                          rintro _ w_16 ⟨x18, rfl, h⟩
                          refine ⟨_, _, rfl, (by simp only [f0, f1, f2]; rfl), ?_⟩
                          refine ⟨el_loud rfl same_nil, ?_⟩
                          refine e_one 37 rfl (by kernel_rfl) (wt rfl rfl rfl (congrArg (fun z => some (Value.bool z)) hg8) rfl) ?_
                          refine o_enter (args := #[.pointer x02]) (r_enter Try.call15 rfl) (h.mono ?_)
                          clear h
                          rintro _ w_17 ⟨x19, rfl, h⟩
                          refine ⟨_, _, rfl, (by simp only [f0, f1, f2]; rfl), ?_⟩
                          refine ⟨el_loud rfl same_nil, ?_⟩
                          refine e_take 38 [39] [0, 1, 2, 3, 4, 5, 6, 7, 8, 9, 10, 11, 12, 13, 14, 15, 16, 17, 18, 19, 20, 21, 22, 23, 24, 25, 26, 27, 28, 29, 30, 31, 32, 33, 34, 35, 36, 37] (.bool (x18 != x19)) (fun _ => True) rfl (by kernel_rfl) (by kernel_rfl) (by kernel_rfl) (by kernel_rfl) (by kernel_rfl) (by kernel_rfl) (fun _ _ _ h => h) el_true (fun w _ => el_quiet rfl w) trivial (y_val (wt rfl rfl rfl (congrArg (fun z => some (Value.bool z)) hg8) rfl) (fun w' hw' => rfl)) (by simp only [f0, f1, f2]; rfl) ?_
                          refine e_take 39 [] [0, 1, 2, 3, 4, 5, 6, 7, 8, 9, 10, 11, 12, 13, 14, 15, 16, 17, 18, 19, 20, 21, 22, 23, 24, 25, 26, 27, 28, 29, 30, 31, 32, 33, 34, 35, 36, 37, 38] (.bool (x18 != x19)) (fun _ => True) rfl (by kernel_rfl) (by kernel_rfl) (by kernel_rfl) (by kernel_rfl) (by kernel_rfl) (by kernel_rfl) (fun _ _ _ h => h) el_true (fun w _ => el_quiet rfl w) trivial (y_val (wn rfl) (fun w' hw' => (r_pickF (congrArg Value.bool hg8) rfl))) (by simp only [f0, f1, f2]; rfl) ?_
                          refine e_done (by kernel_rfl) ?_
                          exact then_normal ⟨_, (some_us rfl rfl rfl), h⟩
            · replace h := h.2 hc3
              refine wp_exit ?_
              refine then_exit ?_
              refine then_exit ?_
              refine block_hit ?_
              refine then_normal ?_
              refine wp_seq ?_
              refine wp_region_lit ?_
              refine st_val (.bool true) (wn rfl) rfl (by simp only [f0, f1, f2]; rfl) ?_
              refine wpList_nil ?_
              refine then_normal ?_
              refine wp_ret ?_
              exact end_ret (r_res1 (v := .bool true) Try.results7 ⟨rfl, trivial⟩) rfl h

/-- what is to be shown of a call of pavanelaw19.SessionFew -/
def pavanelaw19_SessionFew_vc (acts : Sl) (R : Value → World → Prop) (w : World) : Prop :=
  Calls Try.prog 8 #[] w (fun e w_ => ∃ x1 : Bool, e = .returned (.bool x1) ∧
  Calls Try.prog 9 #[] w_ (fun e w_1 => ∃ x2 : Option Addr, e = .returned (.pointer x2) ∧
  ((((!x1) || (Option.isNone x2)) = true →
  R (.bool false) w_1) ∧
  (((!x1) || (Option.isNone x2)) = false →
  ∃ (I_ : Nat → Int → World → Prop) (nv1 : Nat), I_ nv1 0 w_1 ∧
  ∀ (nv : Nat) (i : Int) (w_2 : World), I_ nv i w_2 →
  ((((decide (i < (↑(Sl.n acts) : Int))) && (decide (i < 100))) = true →
  ∃ ad : Addr, SlAt acts i 5 ad ∧
  ∃ x0 : Int, ∃ x11 : Int, ∃ x21 : Int, ∃ x3 : Int, ∃ x4 : Sl, Cells w_2 ad [.int .i64 x0, .int .i64 x11, .int .i64 x21, .int .i64 x3, Sl.v x4] ∧
  Calls Try.prog 11 #[.pointer x2, .agg #[.int .i64 x0, .int .i64 x11, .int .i64 x21, .int .i64 x3, Sl.v x4]] w_2 (fun e w_3 => ∃ x01 : Int, ∃ x12 : Int, ∃ x22 : Sl, ∃ x31 : Sl, e = .returned (.tuple #[.int .i64 x01, .int .i64 x12, Sl.v x22, Sl.v x31]) ∧
  ∃ ad1 : Addr, x2 = some ad1 ∧
  Calls Try.prog 14 #[.pointer (some (Addr.add ad1 0))] w_3 (fun e w_4 => ∃ x5 : Sl, e = .returned (Sl.v x5) ∧
  ∃ (I_1 : Nat → Int → Int → World → Prop) (nv3 : Nat), I_1 nv3 0 0 w_4 ∧
  ∀ (nv2 : Nat) (last : Int) (k : Int) (w_5 : World), I_1 nv2 last k w_5 →
  (((decide (k < (↑(Sl.n x5) : Int))) = true →
  ∃ ad2 : Addr, SlAt x5 k 4 ad2 ∧
  ∃ x6 : Int, Cells w_5 (Addr.add ad2 0) [.int .i64 x6] ∧
  ∃ J_ : Bool → World → Prop, (∀ (t67 : Bool) (w_6 : World), J_ t67 w_6 →
  ((t67 = true →
  R (.bool false) w_6) ∧
  (t67 = false →
  ∃ ad3 : Addr, SlAt x5 k 4 ad3 ∧
  ∃ x7 : Int, Cells w_6 (Addr.add ad3 0) [.int .i64 x7] ∧
  ∃ nv4 : Nat, nv4 < nv2 ∧ I_1 nv4 x7 (IntKind.i64.wrap (k + 1)) w_6))) ∧
  (∀ (w_7 : World), Only [] w_5 w_7 →
  (((decide (x6 ≤ last)) = true →
  J_ true w_7) ∧
  ((decide (x6 ≤ last)) = false →
  ∃ ad4 : Addr, SlAt x5 k 4 ad4 ∧
  ∃ x8 : Int, Cells w_7 (Addr.add ad4 0) [.int .i64 x8] ∧
  Calls Try.prog 15 #[.pointer x2] w_7 (fun e w_8 => ∃ x9 : Int, e = .returned (.int .i64 x9) ∧ Same [(Sl.blk x5)] w_7 w_8 ∧
  (((decide (x8 ≥ x9)) = true →
  J_ true w_8) ∧
  ((decide (x8 ≥ x9)) = false →
  ∃ ad5 : Addr, SlAt x5 k 4 ad5 ∧
  ∃ x10 : Int, Cells w_8 (Addr.add ad5 1) [.int .i64 x10] ∧
  J_ (decide (x10 < 0)) w_8))))))) ∧
  ((decide (k < (↑(Sl.n x5) : Int))) = false →
  (((decide ((↑(Sl.n x5) : Int) > 8)) = true →
  R (.bool false) w_5) ∧
  ((decide ((↑(Sl.n x5) : Int) > 8)) = false →
  ∃ nv5 : Nat, nv5 < nv ∧ I_ nv5 (IntKind.i64.wrap (i + 1)) w_5))))))) ∧
  (((decide (i < (↑(Sl.n acts) : Int))) && (decide (i < 100))) = false →
  R (.bool true) w_2))))))
theorem pavanelaw19_SessionFew_wp (acts : Sl) (R : Value → World → Prop) (w : World) (h : pavanelaw19_SessionFew_vc acts R w) :
    Calls Try.prog 5 #[Sl.v acts] w fun e w' => ∃ v, e = .returned v ∧ R v w' := by
  unfold pavanelaw19_SessionFew_vc at h
  refine calls_of (k := 75) Try.func5 rfl Try.ntmps5 rfl rfl ?_
  simp only [List.replicate, List.cons_append, List.nil_append]
  refine wp_seq ?_
  refine wp_region_lit ?_
  refine st_val (.bool false) (wn rfl) rfl (by simp only [f0, f1, f2]; rfl) ?_
  refine wpList_nil ?_
  refine then_normal ?_
  refine wp_seq ?_
  refine wp_region_lit ?_
  refine st_one (wn rfl) ?_
  refine o_enter (args := #[]) (r_enter Try.call8 rfl) (h.mono ?_)
  clear h
  rintro _ w_ ⟨x1, rfl, h⟩
  refine ⟨_, _, rfl, (by simp only [f0, f1, f2]; rfl), ?_⟩
  refine st_val (.bool x1) (wn rfl) rfl (by simp only [f0, f1, f2]; rfl) ?_
  refine wpList_nil ?_
  refine then_normal ?_
  refine wp_seq ?_
  refine wp_region_lit ?_
  refine st_one (wn rfl) ?_
  refine o_enter (args := #[]) (r_enter Try.call9 rfl) (h.mono ?_)
  clear h
  rintro _ w_1 ⟨x2, rfl, h⟩
  refine ⟨_, _, rfl, (by simp only [f0, f1, f2]; rfl), ?_⟩
  refine st_val (.pointer x2) (wn rfl) rfl (by simp only [f0, f1, f2]; rfl) ?_
  refine wpList_nil ?_
  refine then_normal ?_
  refine wp_seq ?_
  refine wp_seq ?_
  refine wp_region_lit ?_
  refine st_val (.bool x1) (wn rfl) rfl (by simp only [f0, f1, f2]; rfl) ?_
  refine st_val (.bool (!x1)) (wn rfl) rfl (by simp only [f0, f1, f2]; rfl) ?_
  refine st_val (.bool (!x1)) (wn rfl) rfl (by simp only [f0, f1, f2]; rfl) ?_
  refine st_cut 3 (fun a' w' => (∃ us : Nat → Value, a' = (⟨(fillin us 0 (some (Sl.v acts) :: some undef :: some (.bool false) :: some (.bool x1) :: some (.pointer x2) :: some undef :: some undef :: some undef :: some undef :: some (.bool x1) :: some (.pointer x2) :: some (.bool x1) :: some (.bool (!x1)) :: some (.bool (!x1)) :: none :: none :: some (.bool ((!x1) || (Option.isNone x2))) :: some undef :: some undef :: some undef :: some undef :: some undef :: some undef :: some undef :: some undef :: some undef :: some undef :: some undef :: some undef :: some undef :: some undef :: some undef :: some undef :: some undef :: some undef :: some undef :: some undef :: some undef :: some undef :: some undef :: some undef :: some undef :: some undef :: some undef :: some undef :: some undef :: some undef :: some undef :: some undef :: some undef :: some undef :: some undef :: some undef :: some undef :: some undef :: some undef :: some undef :: some undef :: some undef :: some undef :: some undef :: some undef :: some undef :: some undef :: some undef :: some undef :: some undef :: some undef :: some undef :: some undef :: some undef :: some undef :: some undef :: some undef :: some undef :: some undef :: [])).toArray, []⟩ : Act)) ∧ w_1 = w') ?_ ?_
  · simp only [List.take_succ_cons, List.take_zero]
    rcases Bool.eq_false_or_eq_true (!x1) with hg | hg
    · refine st_no (wt rfl rfl rfl (congrArg (fun z => some (Value.bool z)) hg) rfl) (by simp only [f0, f1, f2]; rfl) ?_
      refine st_no (wt rfl rfl rfl (congrArg (fun z => some (Value.bool z)) hg) rfl) (by simp only [f0, f1, f2]; rfl) ?_
      refine st_val (.bool true) (wn rfl) (r_pickT (congrArg Value.bool hg) rfl) (by simp only [f0, f1, f2]; rfl) ?_
      refine wpList_nil ?_
      exact then_normal ⟨some_us (by simp only [masked, hg, Bool.true_and, Bool.false_and, Bool.true_or, Bool.false_or, cond_true, cond_false]) rfl rfl, rfl⟩
    · refine st_val (.pointer x2) (wt rfl rfl rfl (congrArg (fun z => some (Value.bool z)) hg) rfl) rfl (by simp only [f0, f1, f2]; rfl) ?_
      refine st_val (.bool (Option.isNone x2)) (wt rfl rfl rfl (congrArg (fun z => some (Value.bool z)) hg) rfl) (r_eqlPtrNilR (Try.runUnderlying24 _) rfl rfl rfl) (by simp only [f0, f1, f2]; rfl) ?_
      refine st_val (.bool (Option.isNone x2)) (wn rfl) (r_pickF (congrArg Value.bool hg) rfl) (by simp only [f0, f1, f2]; rfl) ?_
      refine wpList_nil ?_
      exact then_normal ⟨some_us (by simp only [masked, hg, Bool.true_and, Bool.false_and, Bool.true_or, Bool.false_or, cond_true, cond_false]) rfl rfl, rfl⟩
  rintro a0 _ ⟨⟨us, hF⟩, rfl⟩
  simp only [fillin, Nat.reduceAdd] at hF
  subst hF
  simp only [List.drop_succ_cons, List.drop_zero]
  refine wpList_nil ?_
  refine then_normal ?_
  refine wp_cond_split (t := ((!x1) || (Option.isNone x2))) rfl (fun hc => ?_) (fun hc => ?_)
  · replace h := h.1 hc
    refine wp_seq ?_
    refine wp_region_lit ?_
    refine st_val (.bool false) (wn rfl) rfl (by simp only [f0, f1, f2]; rfl) ?_
    refine wpList_nil ?_
    refine then_normal ?_
    refine wp_ret ?_
    refine then_ret ?_
    exact end_ret (r_res1 (v := .bool false) Try.results5 ⟨rfl, trivial⟩) rfl h
  · replace h := h.2 hc
    refine wp_skip ?_
    refine then_normal ?_
    refine wp_seq ?_
    refine wp_seq ?_
    refine wp_region_lit ?_
    refine st_val (.int .i64 0) (wn rfl) rfl (by simp only [f0, f1, f2]; rfl) ?_
    refine wpList_nil ?_
    refine then_normal ?_
    refine wp_block ?_
    obtain ⟨I_, nv1, h0, hI⟩ := h
    refine wp_loop_ghost (fun nv' a' w' => ∃ i : Int, (∃ us1 : Nat → Value, a' = (⟨(fillin us1 0 (some (Sl.v acts) :: some undef :: none :: some (.bool x1) :: some (.pointer x2) :: some (.int .i64 i) :: none :: none :: none :: some (.bool x1) :: some (.pointer x2) :: some (.bool x1) :: some (.bool (!x1)) :: some (.bool (!x1)) :: some ((us 14)) :: some ((us 15)) :: some (.bool ((!x1) || (Option.isNone x2))) :: none :: none :: none :: none :: none :: none :: none :: none :: none :: none :: none :: none :: none :: none :: none :: none :: none :: none :: none :: none :: none :: none :: none :: none :: none :: none :: none :: none :: none :: none :: none :: none :: none :: none :: none :: none :: none :: none :: none :: none :: none :: none :: none :: none :: none :: none :: none :: none :: none :: none :: none :: none :: none :: none :: none :: none :: none :: none :: none :: [])).toArray, []⟩ : Act)) ∧ I_ nv' i w') nv1 ?_ ?_
    · exact ⟨_, (some_us rfl rfl rfl), h0⟩
    · clear h0
      rintro nv a0 w_2 ⟨i, ⟨us1, hF⟩, h⟩
      simp only [fillin, Nat.reduceAdd] at hF
      subst hF
      replace h := hI _ _ _ h
      refine wp_seq ?_
      refine wp_seq ?_
      refine wp_region_lit ?_
      refine st_val (.int .i64 i) (wn rfl) rfl (by simp only [f0, f1, f2]; rfl) ?_
      refine st_val (Sl.v acts) (wn rfl) rfl (by simp only [f0, f1, f2]; rfl) ?_
      refine st_val (.int .i64 (↑(Sl.n acts) : Int)) (wn rfl) (r_len (s := acts) (Try.runUnderlying22 _) rfl) (by simp only [f0, f1, f2]; rfl) ?_
      refine st_val (.bool (decide (i < (↑(Sl.n acts) : Int)))) (wn rfl) rfl (by simp only [f0, f1, f2]; rfl) ?_
      refine st_val (.bool (decide (i < (↑(Sl.n acts) : Int)))) (wn rfl) rfl (by simp only [f0, f1, f2]; rfl) ?_
      refine st_cut 3 (fun a' w' => (∃ us2 : Nat → Value, a' = (⟨(fillin us2 0 (some (Sl.v acts) :: some undef :: some ((us1 2)) :: some (.bool x1) :: some (.pointer x2) :: some (.int .i64 i) :: some ((us1 6)) :: some ((us1 7)) :: some ((us1 8)) :: some (.bool x1) :: some (.pointer x2) :: some (.bool x1) :: some (.bool (!x1)) :: some (.bool (!x1)) :: some ((us 14)) :: some ((us 15)) :: some (.bool ((!x1) || (Option.isNone x2))) :: some (.int .i64 i) :: some (Sl.v acts) :: some (.int .i64 (↑(Sl.n acts) : Int)) :: some (.bool (decide (i < (↑(Sl.n acts) : Int)))) :: some (.bool (decide (i < (↑(Sl.n acts) : Int)))) :: none :: none :: some (.bool ((decide (i < (↑(Sl.n acts) : Int))) && (decide (i < 100)))) :: some ((us1 25)) :: some ((us1 26)) :: some ((us1 27)) :: some ((us1 28)) :: some ((us1 29)) :: some ((us1 30)) :: some ((us1 31)) :: some ((us1 32)) :: some ((us1 33)) :: some ((us1 34)) :: some ((us1 35)) :: some ((us1 36)) :: some ((us1 37)) :: some ((us1 38)) :: some ((us1 39)) :: some ((us1 40)) :: some ((us1 41)) :: some ((us1 42)) :: some ((us1 43)) :: some ((us1 44)) :: some ((us1 45)) :: some ((us1 46)) :: some ((us1 47)) :: some ((us1 48)) :: some ((us1 49)) :: some ((us1 50)) :: some ((us1 51)) :: some ((us1 52)) :: some ((us1 53)) :: some ((us1 54)) :: some ((us1 55)) :: some ((us1 56)) :: some ((us1 57)) :: some ((us1 58)) :: some ((us1 59)) :: some ((us1 60)) :: some ((us1 61)) :: some ((us1 62)) :: some ((us1 63)) :: some ((us1 64)) :: some ((us1 65)) :: some ((us1 66)) :: some ((us1 67)) :: some ((us1 68)) :: some ((us1 69)) :: some ((us1 70)) :: some ((us1 71)) :: some ((us1 72)) :: some ((us1 73)) :: some ((us1 74)) :: some ((us1 75)) :: [])).toArray, []⟩ : Act)) ∧ w_2 = w') ?_ ?_
      · simp only [List.take_succ_cons, List.take_zero]
        rcases Bool.eq_false_or_eq_true (decide (i < (↑(Sl.n acts) : Int))) with hg1 | hg1
        · refine st_val (.int .i64 i) (wt rfl rfl rfl (congrArg (fun z => some (Value.bool z)) hg1) rfl) rfl (by simp only [f0, f1, f2]; rfl) ?_
          refine st_val (.bool (decide (i < 100))) (wt rfl rfl rfl (congrArg (fun z => some (Value.bool z)) hg1) rfl) rfl (by simp only [f0, f1, f2]; rfl) ?_
          refine st_val (.bool (decide (i < 100))) (wn rfl) (r_pickT (congrArg Value.bool hg1) rfl) (by simp only [f0, f1, f2]; rfl) ?_
          refine wpList_nil ?_
          exact then_normal ⟨some_us (by simp only [masked, hg1, Bool.true_and, Bool.false_and, Bool.true_or, Bool.false_or, cond_true, cond_false]) rfl rfl, rfl⟩
        · refine st_no (wt rfl rfl rfl (congrArg (fun z => some (Value.bool z)) hg1) rfl) (by simp only [f0, f1, f2]; rfl) ?_
          refine st_no (wt rfl rfl rfl (congrArg (fun z => some (Value.bool z)) hg1) rfl) (by simp only [f0, f1, f2]; rfl) ?_
          refine st_val (.bool false) (wn rfl) (r_pickF (congrArg Value.bool hg1) rfl) (by simp only [f0, f1, f2]; rfl) ?_
          refine wpList_nil ?_
          exact then_normal ⟨some_us (by simp only [masked, hg1, Bool.true_and, Bool.false_and, Bool.true_or, Bool.false_or, cond_true, cond_false]) rfl rfl, rfl⟩
      rintro a0 _ ⟨⟨us2, hF⟩, rfl⟩
      simp only [fillin, Nat.reduceAdd] at hF
      subst hF
      simp only [List.drop_succ_cons, List.drop_zero]
      refine wpList_nil ?_
      refine then_normal ?_
      refine wp_cond_split (t := ((decide (i < (↑(Sl.n acts) : Int))) && (decide (i < 100)))) rfl (fun hc1 => ?_) (fun hc1 => ?_)
      · replace h := h.1 hc1
        refine wp_skip ?_
        refine then_normal ?_
        refine wp_seq ?_
        refine wp_block ?_
        refine wp_seq ?_
        refine wp_region_lit ?_
        refine st_val (.pointer x2) (wn rfl) rfl (by simp only [f0, f1, f2]; rfl) ?_
        refine st_val (Sl.v acts) (wn rfl) rfl (by simp only [f0, f1, f2]; rfl) ?_
        refine st_val (.int .i64 i) (wn rfl) rfl (by simp only [f0, f1, f2]; rfl) ?_
        obtain ⟨ad, hx, h⟩ := h
        refine st_val (.pointer (some ad)) (wn rfl) (r_indexS (s := acts) (Try.runUnderlying22 _) (Try.sizeOf29 _) rfl rfl hx) (by simp only [f0, f1, f2]; rfl) ?_
        obtain ⟨x0, x11, x21, x3, x4, hx1, h⟩ := h
        refine st_val (.agg #[.int .i64 x0, .int .i64 x11, .int .i64 x21, .int .i64 x3, Sl.v x4]) (wn rfl) (r_loadN (Try.isAgg29 _) (Try.sizeOf29 _) rfl rfl hx1) (by simp only [f0, f1, f2]; rfl) ?_
        refine st_one (wn rfl) ?_
        refine o_enter (args := #[.pointer x2, .agg #[.int .i64 x0, .int .i64 x11, .int .i64 x21, .int .i64 x3, Sl.v x4]]) (r_enter Try.call11 rfl) (h.mono ?_)
        clear h
        rintro _ w_3 ⟨x01, x12, x22, x31, rfl, h⟩
        refine ⟨_, _, rfl, (by simp only [f0, f1, f2]; rfl), ?_⟩
        refine wpList_nil ?_
        refine then_normal ?_
        refine wp_seq ?_
        refine wp_region_lit ?_
        refine st_val (.pointer x2) (wn rfl) rfl (by simp only [f0, f1, f2]; rfl) ?_
        obtain ⟨ad1, hx2, h⟩ := h
        refine st_val (.pointer (some ad1)) (wn rfl) (r_nil (congrArg Value.pointer hx2)) (by simp only [f0, f1, f2]; rfl) ?_
        refine st_val (.pointer (some (Addr.add ad1 0))) (wn rfl) (r_field (Try.runUnderlying47 _) rfl (Try.sizeOf45 _) rfl rfl) (by simp only [f0, f1, f2]; rfl) ?_
        refine st_one (wn rfl) ?_
        refine o_enter (args := #[.pointer (some (Addr.add ad1 0))]) (r_enter Try.call14 rfl) (h.mono ?_)
        clear h
        rintro _ w_4 ⟨x5, rfl, h⟩
        refine ⟨_, _, rfl, (by simp only [f0, f1, f2]; rfl), ?_⟩
        refine st_val (Sl.v x5) (wn rfl) rfl (by simp only [f0, f1, f2]; rfl) ?_
        refine wpList_nil ?_
        refine then_normal ?_
        refine wp_seq ?_
        refine wp_region_lit ?_
        refine st_val (.int .i64 0) (wn rfl) rfl (by simp only [f0, f1, f2]; rfl) ?_
        refine wpList_nil ?_
        refine then_normal ?_
        refine wp_seq ?_
        refine wp_seq ?_
        refine wp_region_lit ?_
        refine st_val (.int .i64 0) (wn rfl) rfl (by simp only [f0, f1, f2]; rfl) ?_
        refine wpList_nil ?_
        refine then_normal ?_
        refine wp_block ?_
        obtain ⟨I_1, nv3, h01, hI1⟩ := h
        refine wp_loop_ghost (fun nv' a' w' => ∃ last : Int, ∃ k : Int, (∃ us3 : Nat → Value, a' = (⟨(fillin us3 0 (some (Sl.v acts) :: some undef :: none :: some (.bool x1) :: some (.pointer x2) :: some (.int .i64 i) :: some (Sl.v x5) :: some (.int .i64 last) :: some (.int .i64 k) :: some (.bool x1) :: some (.pointer x2) :: some (.bool x1) :: some (.bool (!x1)) :: some (.bool (!x1)) :: some ((us 14)) :: some ((us 15)) :: some (.bool ((!x1) || (Option.isNone x2))) :: some (.int .i64 i) :: some (Sl.v acts) :: some (.int .i64 (↑(Sl.n acts) : Int)) :: some (.bool (decide (i < (↑(Sl.n acts) : Int)))) :: some (.bool (decide (i < (↑(Sl.n acts) : Int)))) :: some ((us2 22)) :: some ((us2 23)) :: some (.bool ((decide (i < (↑(Sl.n acts) : Int))) && (decide (i < 100)))) :: some ((us1 25)) :: some ((us1 26)) :: some (.pointer x2) :: some (Sl.v acts) :: some (.int .i64 i) :: some (.pointer (some ad)) :: some (.agg #[.int .i64 x0, .int .i64 x11, .int .i64 x21, .int .i64 x3, Sl.v x4]) :: some (.tuple #[.int .i64 x01, .int .i64 x12, Sl.v x22, Sl.v x31]) :: some (.pointer x2) :: some (.pointer (some ad1)) :: some (.pointer (some (Addr.add ad1 0))) :: some (Sl.v x5) :: none :: none :: none :: none :: none :: none :: none :: none :: none :: none :: none :: none :: none :: none :: none :: none :: none :: none :: none :: none :: none :: none :: none :: none :: none :: none :: none :: none :: none :: none :: none :: none :: none :: none :: none :: none :: some ((us1 73)) :: some ((us1 74)) :: some ((us1 75)) :: [])).toArray, []⟩ : Act)) ∧ I_1 nv' last k w') nv3 ?_ ?_
        · exact ⟨_, _, (some_us rfl rfl rfl), h01⟩
        · clear h01
          rintro nv2 a0 w_5 ⟨last, k, ⟨us3, hF⟩, h⟩
          simp only [fillin, Nat.reduceAdd] at hF
          subst hF
          replace h := hI1 _ _ _ _ h
          refine wp_seq ?_
          refine wp_seq ?_
          refine wp_region_lit ?_
          refine st_val (.int .i64 k) (wn rfl) rfl (by simp only [f0, f1, f2]; rfl) ?_
          refine st_val (Sl.v x5) (wn rfl) rfl (by simp only [f0, f1, f2]; rfl) ?_
          refine st_val (.int .i64 (↑(Sl.n x5) : Int)) (wn rfl) (r_len (s := x5) (Try.runUnderlying42 _) rfl) (by simp only [f0, f1, f2]; rfl) ?_
          refine st_val (.bool (decide (k < (↑(Sl.n x5) : Int)))) (wn rfl) rfl (by simp only [f0, f1, f2]; rfl) ?_
          refine wpList_nil ?_
          refine then_normal ?_
          refine wp_cond_split (t := (decide (k < (↑(Sl.n x5) : Int)))) rfl (fun hc2 => ?_) (fun hc2 => ?_)
          · replace h := h.1 hc2
            refine wp_skip ?_
            refine then_normal ?_
            refine wp_seq ?_
            refine wp_block ?_
            refine wp_seq ?_
            refine wp_seq ?_
            obtain ⟨ad2, hx3, h⟩ := h
            obtain ⟨x6, hx4, h⟩ := h
            obtain ⟨J_, hJ, h⟩ := h
            refine wp_cut (fun a' w' => ∃ t67 : Bool, (∃ us4 : Nat → Value, a' = (⟨(fillin us4 0 (some (Sl.v acts) :: some undef :: some ((us3 2)) :: some (.bool x1) :: some (.pointer x2) :: some (.int .i64 i) :: some (Sl.v x5) :: some (.int .i64 last) :: some (.int .i64 k) :: some (.bool x1) :: some (.pointer x2) :: some (.bool x1) :: some (.bool (!x1)) :: some (.bool (!x1)) :: some ((us 14)) :: some ((us 15)) :: some (.bool ((!x1) || (Option.isNone x2))) :: some (.int .i64 i) :: some (Sl.v acts) :: some (.int .i64 (↑(Sl.n acts) : Int)) :: some (.bool (decide (i < (↑(Sl.n acts) : Int)))) :: some (.bool (decide (i < (↑(Sl.n acts) : Int)))) :: some ((us2 22)) :: some ((us2 23)) :: some (.bool ((decide (i < (↑(Sl.n acts) : Int))) && (decide (i < 100)))) :: some ((us1 25)) :: some ((us1 26)) :: some (.pointer x2) :: some (Sl.v acts) :: some (.int .i64 i) :: some (.pointer (some ad)) :: some (.agg #[.int .i64 x0, .int .i64 x11, .int .i64 x21, .int .i64 x3, Sl.v x4]) :: some (.tuple #[.int .i64 x01, .int .i64 x12, Sl.v x22, Sl.v x31]) :: some (.pointer x2) :: some (.pointer (some ad1)) :: some (.pointer (some (Addr.add ad1 0))) :: some (Sl.v x5) :: some (.int .i64 k) :: some (Sl.v x5) :: some (.int .i64 (↑(Sl.n x5) : Int)) :: some (.bool (decide (k < (↑(Sl.n x5) : Int)))) :: some ((us3 41)) :: some ((us3 42)) :: none :: none :: none :: none :: none :: none :: none :: none :: none :: none :: none :: none :: none :: none :: none :: none :: none :: none :: none :: none :: none :: none :: none :: none :: some (.bool t67) :: some ((us3 68)) :: some ((us3 69)) :: some ((us3 70)) :: some ((us3 71)) :: some ((us3 72)) :: some ((us1 73)) :: some ((us1 74)) :: some ((us1 75)) :: [])).toArray, []⟩ : Act)) ∧ J_ t67 w') ?_ ?_
            · clear h
              rintro a0 w_6 ⟨t67, ⟨us4, hF⟩, h⟩
              simp only [fillin, Nat.reduceAdd] at hF
              subst hF
              replace h := hJ _ _ h
              refine then_normal ?_
              refine wp_cond_split (t := t67) rfl (fun hc3 => ?_) (fun hc3 => ?_)
              · replace h := h.1 hc3
                refine wp_seq ?_
                refine wp_region_lit ?_
                refine st_val (.bool false) (wn rfl) rfl (by simp only [f0, f1, f2]; rfl) ?_
                refine wpList_nil ?_
                refine then_normal ?_
                refine wp_ret ?_
                refine then_ret ?_
                refine block_ret ?_
                refine then_ret ?_
                refine then_ret ?_
                refine block_ret ?_
                refine then_ret ?_
                refine block_ret ?_
                refine then_ret ?_
                refine then_ret ?_
                refine block_ret ?_
                refine then_ret ?_
                exact end_ret (r_res1 (v := .bool false) Try.results5 ⟨rfl, trivial⟩) rfl h
              · replace h := h.2 hc3
                refine wp_skip ?_
                refine then_normal ?_
                refine wp_region_lit ?_
                refine st_val (Sl.v x5) (wn rfl) rfl (by simp only [f0, f1, f2]; rfl) ?_
                refine st_val (.int .i64 k) (wn rfl) rfl (by simp only [f0, f1, f2]; rfl) ?_
                obtain ⟨ad3, hx5, h⟩ := h
                refine st_val (.pointer (some ad3)) (wn rfl) (r_indexS (s := x5) (Try.runUnderlying42 _) (Try.sizeOf49 _) rfl rfl hx5) (by simp only [f0, f1, f2]; rfl) ?_
                refine st_val (.pointer (some (Addr.add ad3 0))) (wn rfl) (r_field (Try.runUnderlying49 _) rfl (Try.sizeOf3 _) rfl rfl) (by simp only [f0, f1, f2]; rfl) ?_
                obtain ⟨x7, hx6, h⟩ := h
                refine st_val (.int .i64 x7) (wn rfl) (r_load1 (Try.isAgg3 _) rfl (Cells.one hx6)) (by simp only [f0, f1, f2]; rfl) ?_
                refine st_val (.int .i64 x7) (wn rfl) rfl (by simp only [f0, f1, f2]; rfl) ?_
                refine wpList_nil ?_
                refine block_normal ?_
                refine then_normal ?_
                refine wp_region_lit ?_
                refine st_val (.int .i64 k) (wn rfl) rfl (by simp only [f0, f1, f2]; rfl) ?_
                refine st_val (.int .i64 (IntKind.i64.wrap (k + 1))) (wn rfl) rfl (by simp only [f0, f1, f2]; rfl) ?_
                refine st_val (.int .i64 (IntKind.i64.wrap (k + 1))) (wn rfl) rfl (by simp only [f0, f1, f2]; rfl) ?_
                refine wpList_nil ?_
                refine then_normal ?_
                obtain ⟨nv4, hl, h⟩ := h
                exact ⟨nv4, hl, _, _, (some_us rfl rfl rfl), h⟩
            · refine e_region (EL [(14, [(Sl.blk x5)])]) Try.checked.mixed ?_
              have hO := Only.drew w_5
              have hx7 : Cells w_5.drew _ _ := hx4
              generalize w_5.drew = w_7 at *
              have hA : Only [] w_5 w_7 := hO
              refine e_take 0 [2, 3, 4, 6, 7, 8, 9, 10, 11, 12, 13, 14, 15, 16, 17, 18, 19, 20, 21, 22, 23, 24] [] (Sl.v x5) (fun _ => True) rfl (by kernel_rfl) (by kernel_rfl) (by kernel_rfl) (by kernel_rfl) (by kernel_rfl) (by kernel_rfl) (fun _ _ _ h => h) el_true (fun w _ => el_quiet rfl w) trivial (y_val (wn rfl) (fun w' hw' => rfl)) (by simp only [f0, f1, f2]; rfl) ?_
              refine e_take 1 [2, 3, 4, 6, 7, 8, 9, 10, 11, 12, 13, 14, 15, 16, 17, 18, 19, 20, 21, 22, 23, 24] [0] (.int .i64 k) (fun _ => True) rfl (by kernel_rfl) (by kernel_rfl) (by kernel_rfl) (by kernel_rfl) (by kernel_rfl) (by kernel_rfl) (fun _ _ _ h => h) el_true (fun w _ => el_quiet rfl w) trivial (y_val (wn rfl) (fun w' hw' => rfl)) (by simp only [f0, f1, f2]; rfl) ?_
              refine e_take 2 [3, 4, 6, 7, 8, 9, 10, 11, 12, 13, 14, 15, 16, 17, 18, 19, 20, 21, 22, 23, 24] [0, 1] (.pointer (some ad2)) (fun _ => True) rfl (by kernel_rfl) (by kernel_rfl) (by kernel_rfl) (by kernel_rfl) (by kernel_rfl) (by kernel_rfl) (fun _ _ _ h => h) el_true (fun w _ => el_quiet rfl w) trivial (y_val (wn rfl) (fun w' hw' => (r_indexS (s := x5) (Try.runUnderlying42 _) (Try.sizeOf49 _) rfl rfl hx3))) (by simp only [f0, f1, f2]; rfl) ?_
              refine e_take 3 [4, 6, 7, 8, 9, 10, 11, 12, 13, 14, 15, 16, 17, 18, 19, 20, 21, 22, 23, 24] [0, 1, 2] (.pointer (some (Addr.add ad2 0))) (fun _ => True) rfl (by kernel_rfl) (by kernel_rfl) (by kernel_rfl) (by kernel_rfl) (by kernel_rfl) (by kernel_rfl) (fun _ _ _ h => h) el_true (fun w _ => el_quiet rfl w) trivial (y_val (wn rfl) (fun w' hw' => (r_field (Try.runUnderlying49 _) rfl (Try.sizeOf3 _) rfl rfl))) (by simp only [f0, f1, f2]; rfl) ?_
              refine e_take 4 [6, 7, 8, 9, 10, 11, 12, 13, 14, 15, 16, 17, 18, 19, 20, 21, 22, 23, 24] [0, 1, 2, 3] (.int .i64 x6) (fun w' => Cells w' (Addr.add ad2 0) [.int .i64 x6]) rfl (by kernel_rfl) (by kernel_rfl) (by kernel_rfl) (by kernel_rfl) (by kernel_rfl) (by kernel_rfl) (fun _ _ _ h => h) (el_stable (b := (Addr.add ad2 0).block) (List.forall_mem_cons.2 ⟨.inl (by simp), List.forall_mem_nil _⟩) keep_cells) (fun w _ => el_quiet rfl w) hx7 (y_val (wn rfl) (fun w' hw' => (r_load1 (Try.isAgg3 _) rfl (Cells.one hw')))) (by simp only [f0, f1, f2]; rfl) ?_
              refine e_take 5 [6, 7, 8, 9, 10, 11, 12, 13, 14, 15, 16, 17, 18, 19, 20, 21, 22, 23, 24] [0, 1, 2, 3, 4] (.int .i64 last) (fun _ => True) rfl (by kernel_rfl) (by kernel_rfl) (by kernel_rfl) (by kernel_rfl) (by kernel_rfl) (by kernel_rfl) (fun _ _ _ h => h) el_true (fun w _ => el_quiet rfl w) trivial (y_val (wn rfl) (fun w' hw' => rfl)) (by simp only [f0, f1, f2]; rfl) ?_
              refine e_take 6 [7, 8, 9, 10, 11, 12, 13, 14, 15, 16, 17, 18, 19, 20, 21, 22, 23, 24] [0, 1, 2, 3, 4, 5] (.bool (decide (x6 ≤ last))) (fun _ => True) rfl (by kernel_rfl) (by kernel_rfl) (by kernel_rfl) (by kernel_rfl) (by kernel_rfl) (by kernel_rfl) (fun _ _ _ h => h) el_true (fun w _ => el_quiet rfl w) trivial (y_val (wn rfl) (fun w' hw' => rfl)) (by simp only [f0, f1, f2]; rfl) ?_
              refine e_take 7 [8, 9, 10, 11, 12, 13, 14, 15, 16, 17, 18, 19, 20, 21, 22, 23, 24] [0, 1, 2, 3, 4, 5, 6] (.bool (decide (x6 ≤ last))) (fun _ => True) rfl (by kernel_rfl) (by kernel_rfl) (by kernel_rfl) (by kernel_rfl) (by kernel_rfl) (by kernel_rfl) (fun _ _ _ h => h) el_true (fun w _ => el_quiet rfl w) trivial (y_val (wn rfl) (fun w' hw' => rfl)) (by simp only [f0, f1, f2]; rfl) ?_
              replace h := h w_7 hA
              rcases Bool.eq_false_or_eq_true (decide (x6 ≤ last)) with hg2 | hg2
              · replace h := h.1 hg2
                refine e_take 8 [10, 11, 12, 15, 16, 17, 18, 19, 20, 21, 22, 23, 24] [0, 1, 2, 3, 4, 5, 6, 7] (undef) (fun _ => True) rfl (by kernel_rfl) (by kernel_rfl) (by kernel_rfl) (by kernel_rfl) (by kernel_rfl) (by kernel_rfl) (fun _ _ _ h => h) el_true (fun w _ => el_quiet rfl w) trivial (y_no (wt rfl rfl rfl (congrArg (fun z => some (Value.bool z)) hg2) rfl)) (by simp only [f0, f1, f2]; rfl) ?_
                refine e_take 9 [10, 11, 12, 15, 16, 17, 18, 19, 20, 21, 22, 23, 24] [0, 1, 2, 3, 4, 5, 6, 7, 8] (undef) (fun _ => True) rfl (by kernel_rfl) (by kernel_rfl) (by kernel_rfl) (by kernel_rfl) (by kernel_rfl) (by kernel_rfl) (fun _ _ _ h => h) el_true (fun w _ => el_quiet rfl w) trivial (y_no (wt rfl rfl rfl (congrArg (fun z => some (Value.bool z)) hg2) rfl)) (by simp only [f0, f1, f2]; rfl) ?_
                refine e_take 10 [11, 12, 15, 16, 17, 18, 19, 20, 21, 22, 23, 24] [0, 1, 2, 3, 4, 5, 6, 7, 8, 9] (undef) (fun _ => True) rfl (by kernel_rfl) (by kernel_rfl) (by kernel_rfl) (by kernel_rfl) (by kernel_rfl) (by kernel_rfl) (fun _ _ _ h => h) el_true (fun w _ => el_quiet rfl w) trivial (y_no (wt rfl rfl rfl (congrArg (fun z => some (Value.bool z)) hg2) rfl)) (by simp only [f0, f1, f2]; rfl) ?_
                refine e_take 11 [12, 15, 16, 17, 18, 19, 20, 21, 22, 23, 24] [0, 1, 2, 3, 4, 5, 6, 7, 8, 9, 10] (undef) (fun _ => True) rfl (by kernel_rfl) (by kernel_rfl) (by kernel_rfl) (by kernel_rfl) (by kernel_rfl) (by kernel_rfl) (fun _ _ _ h => h) el_true (fun w _ => el_quiet rfl w) trivial (y_no (wt rfl rfl rfl (congrArg (fun z => some (Value.bool z)) hg2) rfl)) (by simp only [f0, f1, f2]; rfl) ?_
                refine e_take 12 [15, 16, 17, 18, 19, 20, 21, 22, 23, 24] [0, 1, 2, 3, 4, 5, 6, 7, 8, 9, 10, 11] (undef) (fun _ => True) rfl (by kernel_rfl) (by kernel_rfl) (by kernel_rfl) (by kernel_rfl) (by kernel_rfl) (by kernel_rfl) (fun _ _ _ h => h) el_true (fun w _ => el_quiet rfl w) trivial (y_no (wt rfl rfl rfl (congrArg (fun z => some (Value.bool z)) hg2) rfl)) (by simp only [f0, f1, f2]; rfl) ?_
                refine e_take 13 [14, 15, 16, 17, 18, 19, 20, 21, 22, 23, 24] [0, 1, 2, 3, 4, 5, 6, 7, 8, 9, 10, 11, 12] (undef) (fun _ => True) rfl (by kernel_rfl) (by kernel_rfl) (by kernel_rfl) (by kernel_rfl) (by kernel_rfl) (by kernel_rfl) (fun _ _ _ h => h) el_true (fun w _ => el_quiet rfl w) trivial (y_no (wt rfl rfl rfl (congrArg (fun z => some (Value.bool z)) hg2) rfl)) (by simp only [f0, f1, f2]; rfl) ?_
                refine e_take 14 [15, 16, 17, 18, 19, 20, 21, 22, 23, 24] [0, 1, 2, 3, 4, 5, 6, 7, 8, 9, 10, 11, 12, 13] (undef) (fun _ => True) rfl (by kernel_rfl) (by kernel_rfl) (by kernel_rfl) (by kernel_rfl) (by kernel_rfl) (by kernel_rfl) (fun _ _ _ h => h) el_true (fun w _ => el_loud rfl (Same.refl _ w)) trivial (y_no (wt rfl rfl rfl (congrArg (fun z => some (Value.bool z)) hg2) rfl)) (by simp only [f0, f1, f2]; rfl) ?_
                refine e_take 15 [16, 17, 18, 19, 20, 21, 22, 23, 24] [0, 1, 2, 3, 4, 5, 6, 7, 8, 9, 10, 11, 12, 13, 14] (undef) (fun _ => True) rfl (by kernel_rfl) (by kernel_rfl) (by kernel_rfl) (by kernel_rfl) (by kernel_rfl) (by kernel_rfl) (fun _ _ _ h => h) el_true (fun w _ => el_quiet rfl w) trivial (y_no (wt rfl rfl rfl (congrArg (fun z => some (Value.bool z)) hg2) rfl)) (by simp only [f0, f1, f2]; rfl) ?_
                refine e_take 16 [17, 18, 19, 20, 21, 22, 23, 24] [0, 1, 2, 3, 4, 5, 6, 7, 8, 9, 10, 11, 12, 13, 14, 15] (.bool true) (fun _ => True) rfl (by kernel_rfl) (by kernel_rfl) (by kernel_rfl) (by kernel_rfl) (by kernel_rfl) (by kernel_rfl) (fun _ _ _ h => h) el_true (fun w _ => el_quiet rfl w) trivial (y_val (wn rfl) (fun w' hw' => (r_pickT (congrArg Value.bool hg2) rfl))) (by simp only [f0, f1, f2]; rfl) ?_
                refine e_take 17 [18, 19, 20, 21, 22, 23, 24] [0, 1, 2, 3, 4, 5, 6, 7, 8, 9, 10, 11, 12, 13, 14, 15, 16] (.bool true) (fun _ => True) rfl (by kernel_rfl) (by kernel_rfl) (by kernel_rfl) (by kernel_rfl) (by kernel_rfl) (by kernel_rfl) (fun _ _ _ h => h) el_true (fun w _ => el_quiet rfl w) trivial (y_val (wn rfl) (fun w' hw' => rfl)) (by simp only [f0, f1, f2]; rfl) ?_
                refine e_take 18 [20, 21, 22, 23, 24] [0, 1, 2, 3, 4, 5, 6, 7, 8, 9, 10, 11, 12, 13, 14, 15, 16, 17] (undef) (fun _ => True) rfl (by kernel_rfl) (by kernel_rfl) (by kernel_rfl) (by kernel_rfl) (by kernel_rfl) (by kernel_rfl) (fun _ _ _ h => h) el_true (fun w _ => el_quiet rfl w) trivial (y_no (wt rfl rfl rfl rfl rfl)) (by simp only [f0, f1, f2]; rfl) ?_
                refine e_take 19 [20, 21, 22, 23, 24] [0, 1, 2, 3, 4, 5, 6, 7, 8, 9, 10, 11, 12, 13, 14, 15, 16, 17, 18] (undef) (fun _ => True) rfl (by kernel_rfl) (by kernel_rfl) (by kernel_rfl) (by kernel_rfl) (by kernel_rfl) (by kernel_rfl) (fun _ _ _ h => h) el_true (fun w _ => el_quiet rfl w) trivial (y_no (wt rfl rfl rfl rfl rfl)) (by simp only [f0, f1, f2]; rfl) ?_
                refine e_take 20 [21, 22, 23, 24] [0, 1, 2, 3, 4, 5, 6, 7, 8, 9, 10, 11, 12, 13, 14, 15, 16, 17, 18, 19] (undef) (fun _ => True) rfl (by kernel_rfl) (by kernel_rfl) (by kernel_rfl) (by kernel_rfl) (by kernel_rfl) (by kernel_rfl) (fun _ _ _ h => h) el_true (fun w _ => el_quiet rfl w) trivial (y_no (wt rfl rfl rfl rfl rfl)) (by simp only [f0, f1, f2]; rfl) ?_
                refine e_take 21 [22, 23, 24] [0, 1, 2, 3, 4, 5, 6, 7, 8, 9, 10, 11, 12, 13, 14, 15, 16, 17, 18, 19, 20] (undef) (fun _ => True) rfl (by kernel_rfl) (by kernel_rfl) (by kernel_rfl) (by kernel_rfl) (by kernel_rfl) (by kernel_rfl) (fun _ _ _ h => h) el_true (fun w _ => el_quiet rfl w) trivial (y_no (wt rfl rfl rfl rfl rfl)) (by simp only [f0, f1, f2]; rfl) ?_
                refine e_take 22 [23, 24] [0, 1, 2, 3, 4, 5, 6, 7, 8, 9, 10, 11, 12, 13, 14, 15, 16, 17, 18, 19, 20, 21] (undef) (fun _ => True) rfl (by kernel_rfl) (by kernel_rfl) (by kernel_rfl) (by kernel_rfl) (by kernel_rfl) (by kernel_rfl) (fun _ _ _ h => h) el_true (fun w _ => el_quiet rfl w) trivial (y_no (wt rfl rfl rfl rfl rfl)) (by simp only [f0, f1, f2]; rfl) ?_
                refine e_take 23 [24] [0, 1, 2, 3, 4, 5, 6, 7, 8, 9, 10, 11, 12, 13, 14, 15, 16, 17, 18, 19, 20, 21, 22] (undef) (fun _ => True) rfl (by kernel_rfl) (by kernel_rfl) (by kernel_rfl) (by kernel_rfl) (by kernel_rfl) (by kernel_rfl) (fun _ _ _ h => h) el_true (fun w _ => el_quiet rfl w) trivial (y_no (wt rfl rfl rfl rfl rfl)) (by simp only [f0, f1, f2]; rfl) ?_
                refine e_take 24 [] [0, 1, 2, 3, 4, 5, 6, 7, 8, 9, 10, 11, 12, 13, 14, 15, 16, 17, 18, 19, 20, 21, 22, 23] (.bool true) (fun _ => True) rfl (by kernel_rfl) (by kernel_rfl) (by kernel_rfl) (by kernel_rfl) (by kernel_rfl) (by kernel_rfl) (fun _ _ _ h => h) el_true (fun w _ => el_quiet rfl w) trivial (y_val (wn rfl) (fun w' hw' => (r_pickT rfl rfl))) (by simp only [f0, f1, f2]; rfl) ?_
                refine e_done (by kernel_rfl) ?_
                exact then_normal ⟨_, (some_us rfl rfl rfl), h⟩
              · replace h := h.2 hg2
                refine e_take 8 [10, 11, 12, 15, 16, 17, 18, 19, 20, 21, 22, 23, 24] [0, 1, 2, 3, 4, 5, 6, 7] (Sl.v x5) (fun _ => True) rfl (by kernel_rfl) (by kernel_rfl) (by kernel_rfl) (by kernel_rfl) (by kernel_rfl) (by kernel_rfl) (fun _ _ _ h => h) el_true (fun w _ => el_quiet rfl w) trivial (y_val (wt rfl rfl rfl (congrArg (fun z => some (Value.bool z)) hg2) rfl) (fun w' hw' => rfl)) (by simp only [f0, f1, f2]; rfl) ?_
                refine e_take 9 [10, 11, 12, 15, 16, 17, 18, 19, 20, 21, 22, 23, 24] [0, 1, 2, 3, 4, 5, 6, 7, 8] (.int .i64 k) (fun _ => True) rfl (by kernel_rfl) (by kernel_rfl) (by kernel_rfl) (by kernel_rfl) (by kernel_rfl) (by kernel_rfl) (fun _ _ _ h => h) el_true (fun w _ => el_quiet rfl w) trivial (y_val (wt rfl rfl rfl (congrArg (fun z => some (Value.bool z)) hg2) rfl) (fun w' hw' => rfl)) (by simp only [f0, f1, f2]; rfl) ?_
                obtain ⟨ad4, hx8, h⟩ := h
                refine e_take 10 [11, 12, 15, 16, 17, 18, 19, 20, 21, 22, 23, 24] [0, 1, 2, 3, 4, 5, 6, 7, 8, 9] (.pointer (some ad4)) (fun _ => True) rfl (by kernel_rfl) (by kernel_rfl) (by kernel_rfl) (by kernel_rfl) (by kernel_rfl) (by kernel_rfl) (fun _ _ _ h => h) el_true (fun w _ => el_quiet rfl w) trivial (y_val (wt rfl rfl rfl (congrArg (fun z => some (Value.bool z)) hg2) rfl) (fun w' hw' => (r_indexS (s := x5) (Try.runUnderlying42 _) (Try.sizeOf49 _) rfl rfl hx8))) (by simp only [f0, f1, f2]; rfl) ?_
                refine e_take 11 [12, 15, 16, 17, 18, 19, 20, 21, 22, 23, 24] [0, 1, 2, 3, 4, 5, 6, 7, 8, 9, 10] (.pointer (some (Addr.add ad4 0))) (fun _ => True) rfl (by kernel_rfl) (by kernel_rfl) (by kernel_rfl) (by kernel_rfl) (by kernel_rfl) (by kernel_rfl) (fun _ _ _ h => h) el_true (fun w _ => el_quiet rfl w) trivial (y_val (wt rfl rfl rfl (congrArg (fun z => some (Value.bool z)) hg2) rfl) (fun w' hw' => (r_field (Try.runUnderlying49 _) rfl (Try.sizeOf3 _) rfl rfl))) (by simp only [f0, f1, f2]; rfl) ?_
                obtain ⟨x8, hx9, h⟩ := h
                refine e_take 12 [15, 16, 17, 18, 19, 20, 21, 22, 23, 24] [0, 1, 2, 3, 4, 5, 6, 7, 8, 9, 10, 11] (.int .i64 x8) (fun w' => Cells w' (Addr.add ad4 0) [.int .i64 x8]) rfl (by kernel_rfl) (by kernel_rfl) (by kernel_rfl) (by kernel_rfl) (by kernel_rfl) (by kernel_rfl) (fun _ _ _ h => h) (el_stable (b := (Sl.blk x5)) (List.forall_mem_cons.2 ⟨.inr (.inr (.head _)), List.forall_mem_nil _⟩) (keep_cells_b (by simp only [addr_blk, ptrBlk, SlAt.blk hx8]))) (fun w _ => el_quiet rfl w) hx9 (y_val (wt rfl rfl rfl (congrArg (fun z => some (Value.bool z)) hg2) rfl) (fun w' hw' => (r_load1 (Try.isAgg3 _) rfl (Cells.one hw')))) (by simp only [f0, f1, f2]; rfl) ?_
                refine e_take 13 [14, 15, 16, 17, 18, 19, 20, 21, 22, 23, 24] [0, 1, 2, 3, 4, 5, 6, 7, 8, 9, 10, 11, 12] (.pointer x2) (fun _ => True) rfl (by kernel_rfl) (by kernel_rfl) (by kernel_rfl) (by kernel_rfl) (by kernel_rfl) (by kernel_rfl) (fun _ _ _ h => h) el_true (fun w _ => el_quiet rfl w) trivial (y_val (wt rfl rfl rfl (congrArg (fun z => some (Value.bool z)) hg2) rfl) (fun w' hw' => rfl)) (by simp only [f0, f1, f2]; rfl) ?_
                refine e_one 14 rfl (by kernel_rfl) (wt rfl rfl rfl (congrArg (fun z => some (Value.bool z)) hg2) rfl) ?_
                refine o_enter (args := #[.pointer x2]) (r_enter Try.call15 rfl) (h.mono ?_)
                clear h
                rintro _ w_8 ⟨x9, rfl, hs4, h⟩
                refine ⟨_, _, rfl, (by simp only [f0, f1, f2]; rfl), ?_⟩
                refine ⟨el_loud rfl hs4, ?_⟩
                refine e_take 15 [16, 17, 18, 19, 20, 21, 22, 23, 24] [0, 1, 2, 3, 4, 5, 6, 7, 8, 9, 10, 11, 12, 13, 14] (.bool (decide (x8 ≥ x9))) (fun _ => True) rfl (by kernel_rfl) (by kernel_rfl) (by kernel_rfl) (by kernel_rfl) (by kernel_rfl) (by kernel_rfl) (fun _ _ _ h => h) el_true (fun w _ => el_quiet rfl w) trivial (y_val (wt rfl rfl rfl (congrArg (fun z => some (Value.bool z)) hg2) rfl) (fun w' hw' => rfl)) (by simp only [f0, f1, f2]; rfl) ?_
                refine e_take 16 [17, 18, 19, 20, 21, 22, 23, 24] [0, 1, 2, 3, 4, 5, 6, 7, 8, 9, 10, 11, 12, 13, 14, 15] (.bool (decide (x8 ≥ x9))) (fun _ => True) rfl (by kernel_rfl) (by kernel_rfl) (by kernel_rfl) (by kernel_rfl) (by kernel_rfl) (by kernel_rfl) (fun _ _ _ h => h) el_true (fun w _ => el_quiet rfl w) trivial (y_val (wn rfl) (fun w' hw' => (r_pickF (congrArg Value.bool hg2) rfl))) (by simp only [f0, f1, f2]; rfl) ?_
                refine e_take 17 [18, 19, 20, 21, 22, 23, 24] [0, 1, 2, 3, 4, 5, 6, 7, 8, 9, 10, 11, 12, 13, 14, 15, 16] (.bool (decide (x8 ≥ x9))) (fun _ => True) rfl (by kernel_rfl) (by kernel_rfl) (by kernel_rfl) (by kernel_rfl) (by kernel_rfl) (by kernel_rfl) (fun _ _ _ h => h) el_true (fun w _ => el_quiet rfl w) trivial (y_val (wn rfl) (fun w' hw' => rfl)) (by simp only [f0, f1, f2]; rfl) ?_
                rcases Bool.eq_false_or_eq_true (decide (x8 ≥ x9)) with hg3 | hg3
                · replace h := h.1 hg3
                  refine e_take 18 [20, 21, 22, 23, 24] [0, 1, 2, 3, 4, 5, 6, 7, 8, 9, 10, 11, 12, 13, 14, 15, 16, 17] (undef) (fun _ => True) rfl (by kernel_rfl) (by kernel_rfl) (by kernel_rfl) (by kernel_rfl) (by kernel_rfl) (by kernel_rfl) (fun _ _ _ h => h) el_true (fun w _ => el_quiet rfl w) trivial (y_no (wt rfl rfl rfl (congrArg (fun z => some (Value.bool z)) hg3) rfl)) (by simp only [f0, f1, f2]; rfl) ?_
                  refine e_take 19 [20, 21, 22, 23, 24] [0, 1, 2, 3, 4, 5, 6, 7, 8, 9, 10, 11, 12, 13, 14, 15, 16, 17, 18] (undef) (fun _ => True) rfl (by kernel_rfl) (by kernel_rfl) (by kernel_rfl) (by kernel_rfl) (by kernel_rfl) (by kernel_rfl) (fun _ _ _ h => h) el_true (fun w _ => el_quiet rfl w) trivial (y_no (wt rfl rfl rfl (congrArg (fun z => some (Value.bool z)) hg3) rfl)) (by simp only [f0, f1, f2]; rfl) ?_
                  refine e_take 20 [21, 22, 23, 24] [0, 1, 2, 3, 4, 5, 6, 7, 8, 9, 10, 11, 12, 13, 14, 15, 16, 17, 18, 19] (undef) (fun _ => True) rfl (by kernel_rfl) (by kernel_rfl) (by kernel_rfl) (by kernel_rfl) (by kernel_rfl) (by kernel_rfl) (fun _ _ _ h => h) el_true (fun w _ => el_quiet rfl w) trivial (y_no (wt rfl rfl rfl (congrArg (fun z => some (Value.bool z)) hg3) rfl)) (by simp only [f0, f1, f2]; rfl) ?_
                  refine e_take 21 [22, 23, 24] [0, 1, 2, 3, 4, 5, 6, 7, 8, 9, 10, 11, 12, 13, 14, 15, 16, 17, 18, 19, 20] (undef) (fun _ => True) rfl (by kernel_rfl) (by kernel_rfl) (by kernel_rfl) (by kernel_rfl) (by kernel_rfl) (by kernel_rfl) (fun _ _ _ h => h) el_true (fun w _ => el_quiet rfl w) trivial (y_no (wt rfl rfl rfl (congrArg (fun z => some (Value.bool z)) hg3) rfl)) (by simp only [f0, f1, f2]; rfl) ?_
                  refine e_take 22 [23, 24] [0, 1, 2, 3, 4, 5, 6, 7, 8, 9, 10, 11, 12, 13, 14, 15, 16, 17, 18, 19, 20, 21] (undef) (fun _ => True) rfl (by kernel_rfl) (by kernel_rfl) (by kernel_rfl) (by kernel_rfl) (by kernel_rfl) (by kernel_rfl) (fun _ _ _ h => h) el_true (fun w _ => el_quiet rfl w) trivial (y_no (wt rfl rfl rfl (congrArg (fun z => some (Value.bool z)) hg3) rfl)) (by simp only [f0, f1, f2]; rfl) ?_
                  refine e_take 23 [24] [0, 1, 2, 3, 4, 5, 6, 7, 8, 9, 10, 11, 12, 13, 14, 15, 16, 17, 18, 19, 20, 21, 22] (undef) (fun _ => True) rfl (by kernel_rfl) (by kernel_rfl) (by kernel_rfl) (by kernel_rfl) (by kernel_rfl) (by kernel_rfl) (fun _ _ _ h => h) el_true (fun w _ => el_quiet rfl w) trivial (y_no (wt rfl rfl rfl (congrArg (fun z => some (Value.bool z)) hg3) rfl)) (by simp only [f0, f1, f2]; rfl) ?_
                  refine e_take 24 [] [0, 1, 2, 3, 4, 5, 6, 7, 8, 9, 10, 11, 12, 13, 14, 15, 16, 17, 18, 19, 20, 21, 22, 23] (.bool true) (fun _ => True) rfl (by kernel_rfl) (by kernel_rfl) (by kernel_rfl) (by kernel_rfl) (by kernel_rfl) (by kernel_rfl) (fun _ _ _ h => h) el_true (fun w _ => el_quiet rfl w) trivial (y_val (wn rfl) (fun w' hw' => (r_pickT (congrArg Value.bool hg3) rfl))) (by simp only [f0, f1, f2]; rfl) ?_
                  refine e_done (by kernel_rfl) ?_
                  exact then_normal ⟨_, (some_us rfl rfl rfl), h⟩
                · replace h := h.2 hg3
                  refine e_take 18 [20, 21, 22, 23, 24] [0, 1, 2, 3, 4, 5, 6, 7, 8, 9, 10, 11, 12, 13, 14, 15, 16, 17] (Sl.v x5) (fun _ => True) rfl (by kernel_rfl) (by kernel_rfl) (by kernel_rfl) (by kernel_rfl) (by kernel_rfl) (by kernel_rfl) (fun _ _ _ h => h) el_true (fun w _ => el_quiet rfl w) trivial (y_val (wt rfl rfl rfl (congrArg (fun z => some (Value.bool z)) hg3) rfl) (fun w' hw' => rfl)) (by simp only [f0, f1, f2]; rfl) ?_
                  refine e_take 19 [20, 21, 22, 23, 24] [0, 1, 2, 3, 4, 5, 6, 7, 8, 9, 10, 11, 12, 13, 14, 15, 16, 17, 18] (.int .i64 k) (fun _ => True) rfl (by kernel_rfl) (by kernel_rfl) (by kernel_rfl) (by kernel_rfl) (by kernel_rfl) (by kernel_rfl) (fun _ _ _ h => h) el_true (fun w _ => el_quiet rfl w) trivial (y_val (wt rfl rfl rfl (congrArg (fun z => some (Value.bool z)) hg3) rfl) (fun w' hw' => rfl)) (by simp only [f0, f1, f2]; rfl) ?_
                  obtain ⟨ad5, hx10, h⟩ := h
                  refine e_take 20 [21, 22, 23, 24] [0, 1, 2, 3, 4, 5, 6, 7, 8, 9, 10, 11, 12, 13, 14, 15, 16, 17, 18, 19] (.pointer (some ad5)) (fun _ => True) rfl (by kernel_rfl) (by kernel_rfl) (by kernel_rfl) (by kernel_rfl) (by kernel_rfl) (by kernel_rfl) (fun _ _ _ h => h) el_true (fun w _ => el_quiet rfl w) trivial (y_val (wt rfl rfl rfl (congrArg (fun z => some (Value.bool z)) hg3) rfl) (fun w' hw' => (r_indexS (s := x5) (Try.runUnderlying42 _) (Try.sizeOf49 _) rfl rfl hx10))) (by simp only [f0, f1, f2]; rfl) ?_
                  refine e_take 21 [22, 23, 24] [0, 1, 2, 3, 4, 5, 6, 7, 8, 9, 10, 11, 12, 13, 14, 15, 16, 17, 18, 19, 20] (.pointer (some (Addr.add ad5 1))) (fun _ => True) rfl (by kernel_rfl) (by kernel_rfl) (by kernel_rfl) (by kernel_rfl) (by kernel_rfl) (by kernel_rfl) (fun _ _ _ h => h) el_true (fun w _ => el_quiet rfl w) trivial (y_val (wt rfl rfl rfl (congrArg (fun z => some (Value.bool z)) hg3) rfl) (fun w' hw' => (r_field (Try.runUnderlying49 _) rfl (Try.sizeOf3 _) rfl rfl))) (by simp only [f0, f1, f2]; rfl) ?_
                  obtain ⟨x10, hx11, h⟩ := h
                  refine e_take 22 [23, 24] [0, 1, 2, 3, 4, 5, 6, 7, 8, 9, 10, 11, 12, 13, 14, 15, 16, 17, 18, 19, 20, 21] (.int .i64 x10) (fun w' => Cells w' (Addr.add ad5 1) [.int .i64 x10]) rfl (by kernel_rfl) (by kernel_rfl) (by kernel_rfl) (by kernel_rfl) (by kernel_rfl) (by kernel_rfl) (fun _ _ _ h => h) (el_stable (b := (Addr.add ad5 1).block) (List.forall_mem_cons.2 ⟨.inr (.inl (by simp)), List.forall_mem_nil _⟩) keep_cells) (fun w _ => el_quiet rfl w) hx11 (y_val (wt rfl rfl rfl (congrArg (fun z => some (Value.bool z)) hg3) rfl) (fun w' hw' => (r_load1 (Try.isAgg3 _) rfl (Cells.one hw')))) (by simp only [f0, f1, f2]; rfl) ?_
                  refine e_take 23 [24] [0, 1, 2, 3, 4, 5, 6, 7, 8, 9, 10, 11, 12, 13, 14, 15, 16, 17, 18, 19, 20, 21, 22] (.bool (decide (x10 < 0))) (fun _ => True) rfl (by kernel_rfl) (by kernel_rfl) (by kernel_rfl) (by kernel_rfl) (by kernel_rfl) (by kernel_rfl) (fun _ _ _ h => h) el_true (fun w _ => el_quiet rfl w) trivial (y_val (wt rfl rfl rfl (congrArg (fun z => some (Value.bool z)) hg3) rfl) (fun w' hw' => rfl)) (by simp only [f0, f1, f2]; rfl) ?_
                  refine e_take 24 [] [0, 1, 2, 3, 4, 5, 6, 7, 8, 9, 10, 11, 12, 13, 14, 15, 16, 17, 18, 19, 20, 21, 22, 23] (.bool (decide (x10 < 0))) (fun _ => True) rfl (by kernel_rfl) (by kernel_rfl) (by kernel_rfl) (by kernel_rfl) (by kernel_rfl) (by kernel_rfl) (fun _ _ _ h => h) el_true (fun w _ => el_quiet rfl w) trivial (y_val (wn rfl) (fun w' hw' => (r_pickF (congrArg Value.bool hg3) rfl))) (by simp only [f0, f1, f2]; rfl) ?_
                  refine e_done (by kernel_rfl) ?_
                  exact then_normal ⟨_, (some_us rfl rfl rfl), h⟩
          · replace h := h.2 hc2
            refine wp_exit ?_
            refine then_exit ?_
            refine then_exit ?_
            refine block_hit ?_
            refine then_normal ?_
            refine wp_seq ?_
            refine wp_region_lit ?_
            refine st_val (Sl.v x5) (wn rfl) rfl (by simp only [f0, f1, f2]; rfl) ?_
            refine st_val (.int .i64 (↑(Sl.n x5) : Int)) (wn rfl) (r_len (s := x5) (Try.runUnderlying42 _) rfl) (by simp only [f0, f1, f2]; rfl) ?_
            refine st_val (.bool (decide ((↑(Sl.n x5) : Int) > 8))) (wn rfl) rfl (by simp only [f0, f1, f2]; rfl) ?_
            refine wpList_nil ?_
            refine then_normal ?_
            refine wp_cond_split (t := (decide ((↑(Sl.n x5) : Int) > 8))) rfl (fun hc4 => ?_) (fun hc4 => ?_)
            · replace h := h.1 hc4
              refine wp_seq ?_
              refine wp_region_lit ?_
              refine st_val (.bool false) (wn rfl) rfl (by simp only [f0, f1, f2]; rfl) ?_
              refine wpList_nil ?_
              refine then_normal ?_
              refine wp_ret ?_
              refine block_ret ?_
              refine then_ret ?_
              refine then_ret ?_
              refine block_ret ?_
              refine then_ret ?_
              exact end_ret (r_res1 (v := .bool false) Try.results5 ⟨rfl, trivial⟩) rfl h
            · replace h := h.2 hc4
              refine wp_skip ?_
              refine block_normal ?_
              refine then_normal ?_
              refine wp_region_lit ?_
              refine st_val (.int .i64 i) (wn rfl) rfl (by simp only [f0, f1, f2]; rfl) ?_
              refine st_val (.int .i64 (IntKind.i64.wrap (i + 1))) (wn rfl) rfl (by simp only [f0, f1, f2]; rfl) ?_
              refine st_val (.int .i64 (IntKind.i64.wrap (i + 1))) (wn rfl) rfl (by simp only [f0, f1, f2]; rfl) ?_
              refine wpList_nil ?_
              refine then_normal ?_
              obtain ⟨nv5, hl1, h⟩ := h
              exact ⟨nv5, hl1, _, (some_us rfl rfl rfl), h⟩
      · replace h := h.2 hc1
        refine wp_exit ?_
        refine then_exit ?_
        refine then_exit ?_
        refine block_hit ?_
        refine then_normal ?_
        refine wp_seq ?_
        refine wp_region_lit ?_
        refine st_val (.bool true) (wn rfl) rfl (by simp only [f0, f1, f2]; rfl) ?_
        refine wpList_nil ?_
        refine then_normal ?_
        refine wp_ret ?_
        exact end_ret (r_res1 (v := .bool true) Try.results5 ⟨rfl, trivial⟩) rfl h

/-- what is to be shown of a call of (*session.row).List -/
def session_row_List_vc (r : Addr) (R : Value → World → Prop) (w : World) : Prop :=
  ∃ x1 : Sl, Cells w (Addr.add r 0) [Sl.v x1] ∧
  Calls Try.prog 33 #[Sl.v x1] w (fun e w_ => ∃ x2 : Sl, e = .returned (Sl.v x2) ∧
  R (Sl.v x2) w_)
theorem session_row_List_wp (r : Addr) (R : Value → World → Prop) (w : World) (h : session_row_List_vc r R w) :
    Calls Try.prog 14 #[.pointer (some r)] w fun e w' => ∃ v, e = .returned v ∧ R v w' := by
  unfold session_row_List_vc at h
  refine calls_of (k := 7) Try.func14 rfl Try.ntmps14 rfl rfl ?_
  simp only [List.replicate, List.cons_append, List.nil_append]
  refine wp_seq ?_
  refine wp_region_lit ?_
  refine st_val (Sl.v Sl.nil) (wn rfl) rfl (by simp only [f0, f1, f2]; rfl) ?_
  refine wpList_nil ?_
  refine then_normal ?_
  refine wp_seq ?_
  refine wp_region_lit ?_
  refine st_val (.pointer (some r)) (wn rfl) rfl (by simp only [f0, f1, f2]; rfl) ?_
  refine st_val (.pointer (some r)) (wn rfl) rfl (by simp only [f0, f1, f2]; rfl) ?_
  refine st_val (.pointer (some (Addr.add r 0))) (wn rfl) (r_field (Try.runUnderlying45 _) rfl (Try.sizeOf42 _) rfl rfl) (by simp only [f0, f1, f2]; rfl) ?_
  obtain ⟨x1, hx, h⟩ := h
  refine st_val (Sl.v x1) (wn rfl) (r_load1 (Try.isAgg42 _) rfl (Cells.one hx)) (by simp only [f0, f1, f2]; rfl) ?_
  refine st_one (wn rfl) ?_
  refine o_enter (args := #[Sl.v x1]) (r_enter Try.call33 rfl) (h.mono ?_)
  clear h
  rintro _ w_ ⟨x2, rfl, h⟩
  refine ⟨_, _, rfl, (by simp only [f0, f1, f2]; rfl), ?_⟩
  refine st_val (Sl.v x2) (wn rfl) rfl (by simp only [f0, f1, f2]; rfl) ?_
  refine wpList_nil ?_
  refine then_normal ?_
  refine wp_ret ?_
  exact end_ret (r_res1 (v := Sl.v x2) Try.results14 ⟨rfl, trivial⟩) rfl h

end Go.Proofs.Ytahncinfbhjkgaa.Vc
