/-
  Own work, printed by a program of ours (gen.py): of each Go function what is to be shown of a call ('.._vc'), and that it suffices ('.._wp'). Nothing is assumed.
-/
import Derived.Test.YtahncinfbhjkgaaRows
import Derived.Test.YtahncinfbhjkgaaBase
namespace Go.Proofs.Ytahncinfbhjkgaa.Vc
open Go Go.RowKit Go.Kt
set_option linter.unusedSimpArgs false
set_option linter.unusedVariables false
set_option maxRecDepth 100000
set_option maxHeartbeats 40000000
/-- what is to be shown of a call of pavaneref19.Restore -/
def pavaneref19_Restore_vc (l : Sl) (next_ : Int) (R : Value → World → Prop) (w : World) : Prop :=
  (((decide ((↑(Sl.n l) : Int) > 8)) = true →
  R (.tuple #[.pointer none, .int .i64 1]) w) ∧
  ((decide ((↑(Sl.n l) : Int) > 8)) = false →
  ∃ (I_ : Nat → Int → Int → World → Prop) (nv1 : Nat), I_ nv1 0 0 w ∧
  ∀ (nv : Nat) (last : Int) (i : Int) (w_ : World), I_ nv last i w_ →
  (((decide (i < (↑(Sl.n l) : Int))) = true →
  ∃ ad : Addr, SlAt l i 4 ad ∧
  ∃ x0 : Int, ∃ x1 : Int, ∃ x2 : Sl, ∃ x3 : Int, Cells w_ ad [.int .i64 x0, .int .i64 x1, Sl.v x2, .int .i64 x3] ∧
  (((((((((decide (x0 ≤ last)) || (decide (x0 ≥ next_))) || (decide (x1 < 0))) || (decide ((↑(Sl.n x2) : Int) > 65536))) || ((x1 == 0) && (decide ((↑(Sl.n x2) : Int) > 0)))) || (decide (x3 < 0))) || (decide (x3 > 1099511627826))) = true →
  ∀ (b : Nat) (w_2 : World), w_.heap.size ≤ b → b < w_2.heap.size → Only [] w_ w_2 →
  R (.tuple #[.pointer none, .int .i64 1]) w_2) ∧
  ((((((((decide (x0 ≤ last)) || (decide (x0 ≥ next_))) || (decide (x1 < 0))) || (decide ((↑(Sl.n x2) : Int) > 65536))) || ((x1 == 0) && (decide ((↑(Sl.n x2) : Int) > 0)))) || (decide (x3 < 0))) || (decide (x3 > 1099511627826))) = false →
  ∀ (b : Nat) (w_2 : World), w_.heap.size ≤ b → b < w_2.heap.size → Only [] w_ w_2 →
  ∃ nv2 : Nat, nv2 < nv ∧ I_ nv2 x0 (IntKind.i64.wrap (i + 1)) w_2))) ∧
  ((decide (i < (↑(Sl.n l) : Int))) = false →
  (((decide (next_ < 1)) = true →
  R (.tuple #[.pointer none, .int .i64 1]) w_) ∧
  ((decide (next_ < 1)) = false →
  ∀ (b1 : Nat) (w_3 : World), w_.heap.size ≤ b1 → b1 < w_3.heap.size → Only [] w_ w_3 → Blk w_3 b1 64 [Sl.v l, .int .i64 next_] →
  Calls Try.prog 23 #[.pointer (some ⟨b1, 0, none⟩)] w_3 (fun e w_4 => ∃ x4 : Sl, e = .returned (Sl.v x4) ∧ ∃ vb1 : Sl, ∃ vb11 : Int, Blk w_4 b1 64 [Sl.v vb1, .int .i64 vb11] ∧
  ∀ (w_5 : World), Only [b1] w_4 w_5 → Blk w_5 b1 64 [Sl.v x4, .int .i64 vb11] →
  R (.tuple #[.pointer (some ⟨b1, 0, none⟩), .int .i64 0]) w_5)))))))
theorem pavaneref19_Restore_wp (l : Sl) (next_ : Int) (R : Value → World → Prop) (w : World) (h : pavaneref19_Restore_vc l next_ R w) :
    Calls Try.prog 18 #[Sl.v l, .int .i64 next_] w fun e w' => ∃ v, e = .returned v ∧ R v w' := by
  unfold pavaneref19_Restore_vc at h
  refine calls_of (k := 77) Try.func18 rfl Try.ntmps18 rfl rfl ?_
  simp only [List.replicate, List.cons_append, List.nil_append]
  refine wp_seq ?_
  refine wp_region_lit ?_
  refine st_val (.pointer none) (wn rfl) rfl (by simp only [f0, f1, f2]; rfl) ?_
  refine st_val (.int .i64 0) (wn rfl) rfl (by simp only [f0, f1, f2]; rfl) ?_
  refine wpList_nil ?_
  refine then_normal ?_
  refine wp_seq ?_
  refine wp_seq ?_
  refine wp_region_lit ?_
  refine st_val (Sl.v l) (wn rfl) rfl (by simp only [f0, f1, f2]; rfl) ?_
  refine st_val (.int .i64 (↑(Sl.n l) : Int)) (wn rfl) (r_len (s := l) (Try.runUnderlying42 _) rfl) (by simp only [f0, f1, f2]; rfl) ?_
  refine st_val (.bool (decide ((↑(Sl.n l) : Int) > 8))) (wn rfl) rfl (by simp only [f0, f1, f2]; rfl) ?_
  refine wpList_nil ?_
  refine then_normal ?_
  refine wp_cond_split (t := (decide ((↑(Sl.n l) : Int) > 8))) rfl (fun hc => ?_) (fun hc => ?_)
  · replace h := h.1 hc
    refine wp_seq ?_
    refine wp_region_lit ?_
    refine st_val (.pointer none) (wn rfl) rfl (by simp only [f0, f1, f2]; rfl) ?_
    refine st_val (.int .i64 1) (wn rfl) rfl (by simp only [f0, f1, f2]; rfl) ?_
    refine wpList_nil ?_
    refine then_normal ?_
    refine wp_ret ?_
    refine then_ret ?_
    exact end_ret (r_resN (vs := [.pointer none, .int .i64 1]) Try.results18 rfl ⟨rfl, rfl, trivial⟩) rfl h
  · replace h := h.2 hc
    refine wp_skip ?_
    refine then_normal ?_
    refine wp_seq ?_
    refine wp_region_lit ?_
    refine st_val (.int .i64 0) (wn rfl) rfl (by simp only [f0, f1, f2]; rfl) ?_
    refine wpList_nil ?_
    refine then_normal ?_
    refine wp_seq ?_
    refine wp_seq ?_
    refine wp_region_lit ?_
    refine st_val (.int .i64 0) (wn rfl) rfl (by simp only [f0, f1, f2]; rfl) ?_
    refine wpList_nil ?_
    refine then_normal ?_
    refine wp_block ?_
    obtain ⟨I_, nv1, h0, hI⟩ := h
    refine wp_loop_ghost (fun nv' a' w' => ∃ last : Int, ∃ i : Int, (∃ us : Nat → Value, a' = (⟨(fillin us 0 (some (Sl.v l) :: some (.int .i64 next_) :: some undef :: some undef :: none :: none :: some (.int .i64 last) :: some (.int .i64 i) :: none :: some undef :: some (Sl.v l) :: some (.int .i64 (↑(Sl.n l) : Int)) :: some (.bool (decide ((↑(Sl.n l) : Int) > 8))) :: none :: none :: none :: none :: none :: none :: none :: none :: none :: none :: none :: none :: none :: none :: none :: none :: none :: none :: none :: none :: none :: none :: none :: none :: none :: none :: none :: none :: none :: none :: none :: none :: none :: none :: none :: none :: none :: none :: none :: none :: none :: none :: none :: none :: none :: none :: none :: none :: none :: none :: none :: none :: none :: none :: some undef :: some undef :: some undef :: some undef :: some undef :: some undef :: some undef :: some undef :: some undef :: some undef :: some undef :: some undef :: [])).toArray, []⟩ : Act)) ∧ I_ nv' last i w') nv1 ?_ ?_
    · exact ⟨_, _, (some_us rfl rfl rfl), h0⟩
    · clear h0
      rintro nv a0 w_ ⟨last, i, ⟨us, hF⟩, h⟩
      simp only [fillin, Nat.reduceAdd] at hF
      subst hF
      replace h := hI _ _ _ _ h
      refine wp_seq ?_
      refine wp_seq ?_
      refine wp_region_lit ?_
      refine st_val (.int .i64 i) (wn rfl) rfl (by simp only [f0, f1, f2]; rfl) ?_
      refine st_val (Sl.v l) (wn rfl) rfl (by simp only [f0, f1, f2]; rfl) ?_
      refine st_val (.int .i64 (↑(Sl.n l) : Int)) (wn rfl) (r_len (s := l) (Try.runUnderlying42 _) rfl) (by simp only [f0, f1, f2]; rfl) ?_
      refine st_val (.bool (decide (i < (↑(Sl.n l) : Int)))) (wn rfl) rfl (by simp only [f0, f1, f2]; rfl) ?_
      refine wpList_nil ?_
      refine then_normal ?_
      refine wp_cond_split (t := (decide (i < (↑(Sl.n l) : Int)))) rfl (fun hc1 => ?_) (fun hc1 => ?_)
      · replace h := h.1 hc1
        refine wp_skip ?_
        refine then_normal ?_
        refine wp_seq ?_
        refine wp_block ?_
        refine wp_seq ?_
        refine wp_region_lit ?_
        refine st_val (Sl.v l) (wn rfl) rfl (by simp only [f0, f1, f2]; rfl) ?_
        refine st_val (.int .i64 i) (wn rfl) rfl (by simp only [f0, f1, f2]; rfl) ?_
        obtain ⟨ad, hx, h⟩ := h
        refine st_val (.pointer (some ad)) (wn rfl) (r_indexS (s := l) (Try.runUnderlying42 _) (Try.sizeOf49 _) rfl rfl hx) (by simp only [f0, f1, f2]; rfl) ?_
        obtain ⟨x0, x1, x2, x3, hx1, h⟩ := h
        refine st_val (.agg #[.int .i64 x0, .int .i64 x1, Sl.v x2, .int .i64 x3]) (wn rfl) (r_loadN (Try.isAgg49 _) (Try.sizeOf49 _) rfl rfl hx1) (by simp only [f0, f1, f2]; rfl) ?_
        refine st_one (wn rfl) ?_
        refine o_allocB (zs := [.int .i64 0, .int .i64 0, Sl.v Sl.nil, .int .i64 0]) (Try.zeroValue49 _) rfl (fun b => by simp only [f0, f1, f2]; rfl) (fun b w_1 hn hO hb => ?_)
        have hn_b : w_.heap.size ≤ b := hn
        have hA : Only [] w_ w_1 := hO
        refine st_one (wn rfl) ?_
        refine o_storeB (vs := [.int .i64 x0, .int .i64 x1, Sl.v x2, .int .i64 x3]) (cs' := [.int .i64 x0, .int .i64 x1, Sl.v x2, .int .i64 x3]) (Try.sizeOf49 _) rfl rfl rfl rfl hb (Nat.le_of_ble_eq_true rfl) rfl (f3 _ _) (fun w_2 hO1 hb1 => ?_)
        have hA1 := hA.new hO1 hn_b
        refine wpList_nil ?_
        refine then_normal ?_
        refine wp_seq ?_
        refine wp_seq ?_
        refine wp_region_lit ?_
        refine st_val (.pointer (some ⟨b, 0, none⟩)) (wn rfl) (r_field (Try.runUnderlying49 _) rfl (Try.sizeOf3 _) rfl rfl) (by simp only [f0, f1, f2]; rfl) ?_
        refine st_val (.int .i64 x0) (wn rfl) (r_load1 (Try.isAgg3 _) rfl (hb1.cell 0)) (by simp only [f0, f1, f2]; rfl) ?_
        refine st_val (.int .i64 last) (wn rfl) rfl (by simp only [f0, f1, f2]; rfl) ?_
        refine st_val (.bool (decide (x0 ≤ last))) (wn rfl) rfl (by simp only [f0, f1, f2]; rfl) ?_
        refine st_val (.bool (decide (x0 ≤ last))) (wn rfl) rfl (by simp only [f0, f1, f2]; rfl) ?_
        refine st_cut 5 (fun a' w' => (∃ us1 : Nat → Value, a' = (⟨(fillin us1 0 (some (Sl.v l) :: some (.int .i64 next_) :: some undef :: some undef :: some ((us 4)) :: some ((us 5)) :: some (.int .i64 last) :: some (.int .i64 i) :: some (.pointer (some ⟨b, 0, none⟩)) :: some undef :: some (Sl.v l) :: some (.int .i64 (↑(Sl.n l) : Int)) :: some (.bool (decide ((↑(Sl.n l) : Int) > 8))) :: some (.int .i64 i) :: some (Sl.v l) :: some (.int .i64 (↑(Sl.n l) : Int)) :: some (.bool (decide (i < (↑(Sl.n l) : Int)))) :: some ((us 17)) :: some ((us 18)) :: some (Sl.v l) :: some (.int .i64 i) :: some (.pointer (some ad)) :: some (.agg #[.int .i64 x0, .int .i64 x1, Sl.v x2, .int .i64 x3]) :: some (.pointer (some ⟨b, 0, none⟩)) :: some (.int .i64 x0) :: some (.int .i64 last) :: some (.bool (decide (x0 ≤ last))) :: some (.bool (decide (x0 ≤ last))) :: none :: none :: none :: none :: some (.bool ((decide (x0 ≤ last)) || (decide (x0 ≥ next_)))) :: some ((us 33)) :: some ((us 34)) :: some ((us 35)) :: some ((us 36)) :: some ((us 37)) :: some ((us 38)) :: some ((us 39)) :: some ((us 40)) :: some ((us 41)) :: some ((us 42)) :: some ((us 43)) :: some ((us 44)) :: some ((us 45)) :: some ((us 46)) :: some ((us 47)) :: some ((us 48)) :: some ((us 49)) :: some ((us 50)) :: some ((us 51)) :: some ((us 52)) :: some ((us 53)) :: some ((us 54)) :: some ((us 55)) :: some ((us 56)) :: some ((us 57)) :: some ((us 58)) :: some ((us 59)) :: some ((us 60)) :: some ((us 61)) :: some ((us 62)) :: some ((us 63)) :: some ((us 64)) :: some ((us 65)) :: some ((us 66)) :: some undef :: some undef :: some undef :: some undef :: some undef :: some undef :: some undef :: some undef :: some undef :: some undef :: some undef :: some undef :: [])).toArray, []⟩ : Act)) ∧ w_2 = w') ?_ ?_
        · simp only [List.take_succ_cons, List.take_zero]
          rcases Bool.eq_false_or_eq_true (decide (x0 ≤ last)) with hg | hg
          · refine st_no (wt rfl rfl rfl (congrArg (fun z => some (Value.bool z)) hg) rfl) (by simp only [f0, f1, f2]; rfl) ?_
            refine st_no (wt rfl rfl rfl (congrArg (fun z => some (Value.bool z)) hg) rfl) (by simp only [f0, f1, f2]; rfl) ?_
            refine st_no (wt rfl rfl rfl (congrArg (fun z => some (Value.bool z)) hg) rfl) (by simp only [f0, f1, f2]; rfl) ?_
            refine st_no (wt rfl rfl rfl (congrArg (fun z => some (Value.bool z)) hg) rfl) (by simp only [f0, f1, f2]; rfl) ?_
            refine st_val (.bool true) (wn rfl) (r_pickT (congrArg Value.bool hg) rfl) (by simp only [f0, f1, f2]; rfl) ?_
            refine wpList_nil ?_
            exact then_normal ⟨some_us (by simp only [masked, hg, Bool.true_and, Bool.false_and, Bool.true_or, Bool.false_or, cond_true, cond_false]) rfl rfl, rfl⟩
          · refine st_val (.pointer (some ⟨b, 0, none⟩)) (wt rfl rfl rfl (congrArg (fun z => some (Value.bool z)) hg) rfl) (r_field (Try.runUnderlying49 _) rfl (Try.sizeOf3 _) rfl rfl) (by simp only [f0, f1, f2]; rfl) ?_
            refine st_val (.int .i64 x0) (wt rfl rfl rfl (congrArg (fun z => some (Value.bool z)) hg) rfl) (r_load1 (Try.isAgg3 _) rfl (hb1.cell 0)) (by simp only [f0, f1, f2]; rfl) ?_
            refine st_val (.int .i64 next_) (wt rfl rfl rfl (congrArg (fun z => some (Value.bool z)) hg) rfl) rfl (by simp only [f0, f1, f2]; rfl) ?_
            refine st_val (.bool (decide (x0 ≥ next_))) (wt rfl rfl rfl (congrArg (fun z => some (Value.bool z)) hg) rfl) rfl (by simp only [f0, f1, f2]; rfl) ?_
            refine st_val (.bool (decide (x0 ≥ next_))) (wn rfl) (r_pickF (congrArg Value.bool hg) rfl) (by simp only [f0, f1, f2]; rfl) ?_
            refine wpList_nil ?_
            exact then_normal ⟨some_us (by simp only [masked, hg, Bool.true_and, Bool.false_and, Bool.true_or, Bool.false_or, cond_true, cond_false]) rfl rfl, rfl⟩
        rintro a0 _ ⟨⟨us1, hF⟩, rfl⟩
        simp only [fillin, Nat.reduceAdd] at hF
        subst hF
        simp only [List.drop_succ_cons, List.drop_zero]
        refine st_val (.bool ((decide (x0 ≤ last)) || (decide (x0 ≥ next_)))) (wn rfl) rfl (by simp only [f0, f1, f2]; rfl) ?_
        refine st_cut 4 (fun a' w' => (∃ us2 : Nat → Value, a' = (⟨(fillin us2 0 (some (Sl.v l) :: some (.int .i64 next_) :: some undef :: some undef :: some ((us 4)) :: some ((us 5)) :: some (.int .i64 last) :: some (.int .i64 i) :: some (.pointer (some ⟨b, 0, none⟩)) :: some undef :: some (Sl.v l) :: some (.int .i64 (↑(Sl.n l) : Int)) :: some (.bool (decide ((↑(Sl.n l) : Int) > 8))) :: some (.int .i64 i) :: some (Sl.v l) :: some (.int .i64 (↑(Sl.n l) : Int)) :: some (.bool (decide (i < (↑(Sl.n l) : Int)))) :: some ((us 17)) :: some ((us 18)) :: some (Sl.v l) :: some (.int .i64 i) :: some (.pointer (some ad)) :: some (.agg #[.int .i64 x0, .int .i64 x1, Sl.v x2, .int .i64 x3]) :: some (.pointer (some ⟨b, 0, none⟩)) :: some (.int .i64 x0) :: some (.int .i64 last) :: some (.bool (decide (x0 ≤ last))) :: some (.bool (decide (x0 ≤ last))) :: some ((us1 28)) :: some ((us1 29)) :: some ((us1 30)) :: some ((us1 31)) :: some (.bool ((decide (x0 ≤ last)) || (decide (x0 ≥ next_)))) :: some (.bool ((decide (x0 ≤ last)) || (decide (x0 ≥ next_)))) :: none :: none :: none :: some (.bool (((decide (x0 ≤ last)) || (decide (x0 ≥ next_))) || (decide (x1 < 0)))) :: some ((us 38)) :: some ((us 39)) :: some ((us 40)) :: some ((us 41)) :: some ((us 42)) :: some ((us 43)) :: some ((us 44)) :: some ((us 45)) :: some ((us 46)) :: some ((us 47)) :: some ((us 48)) :: some ((us 49)) :: some ((us 50)) :: some ((us 51)) :: some ((us 52)) :: some ((us 53)) :: some ((us 54)) :: some ((us 55)) :: some ((us 56)) :: some ((us 57)) :: some ((us 58)) :: some ((us 59)) :: some ((us 60)) :: some ((us 61)) :: some ((us 62)) :: some ((us 63)) :: some ((us 64)) :: some ((us 65)) :: some ((us 66)) :: some undef :: some undef :: some undef :: some undef :: some undef :: some undef :: some undef :: some undef :: some undef :: some undef :: some undef :: some undef :: [])).toArray, []⟩ : Act)) ∧ w_2 = w') ?_ ?_
        · simp only [List.take_succ_cons, List.take_zero]
          rcases Bool.eq_false_or_eq_true ((decide (x0 ≤ last)) || (decide (x0 ≥ next_))) with hg1 | hg1
          · refine st_no (wt rfl rfl rfl (congrArg (fun z => some (Value.bool z)) hg1) rfl) (by simp only [f0, f1, f2]; rfl) ?_
            refine st_no (wt rfl rfl rfl (congrArg (fun z => some (Value.bool z)) hg1) rfl) (by simp only [f0, f1, f2]; rfl) ?_
            refine st_no (wt rfl rfl rfl (congrArg (fun z => some (Value.bool z)) hg1) rfl) (by simp only [f0, f1, f2]; rfl) ?_
            refine st_val (.bool true) (wn rfl) (r_pickT (congrArg Value.bool hg1) rfl) (by simp only [f0, f1, f2]; rfl) ?_
            refine wpList_nil ?_
            exact then_normal ⟨some_us (by simp only [masked, hg1, Bool.true_and, Bool.false_and, Bool.true_or, Bool.false_or, cond_true, cond_false]) rfl rfl, rfl⟩
          · refine st_val (.pointer (some ⟨b, 1, none⟩)) (wt rfl rfl rfl (congrArg (fun z => some (Value.bool z)) hg1) rfl) (r_field (Try.runUnderlying49 _) rfl (Try.sizeOf3 _) rfl rfl) (by simp only [f0, f1, f2]; rfl) ?_
            refine st_val (.int .i64 x1) (wt rfl rfl rfl (congrArg (fun z => some (Value.bool z)) hg1) rfl) (r_load1 (Try.isAgg3 _) rfl (hb1.cell 1)) (by simp only [f0, f1, f2]; rfl) ?_
            refine st_val (.bool (decide (x1 < 0))) (wt rfl rfl rfl (congrArg (fun z => some (Value.bool z)) hg1) rfl) rfl (by simp only [f0, f1, f2]; rfl) ?_
            refine st_val (.bool (decide (x1 < 0))) (wn rfl) (r_pickF (congrArg Value.bool hg1) rfl) (by simp only [f0, f1, f2]; rfl) ?_
            refine wpList_nil ?_
            exact then_normal ⟨some_us (by simp only [masked, hg1, Bool.true_and, Bool.false_and, Bool.true_or, Bool.false_or, cond_true, cond_false]) rfl rfl, rfl⟩
        rintro a0 _ ⟨⟨us2, hF⟩, rfl⟩
        simp only [fillin, Nat.reduceAdd] at hF
        subst hF
        simp only [List.drop_succ_cons, List.drop_zero]
        refine st_val (.bool (((decide (x0 ≤ last)) || (decide (x0 ≥ next_))) || (decide (x1 < 0)))) (wn rfl) rfl (by simp only [f0, f1, f2]; rfl) ?_
        refine st_cut 5 (fun a' w' => (∃ us3 : Nat → Value, a' = (⟨(fillin us3 0 (some (Sl.v l) :: some (.int .i64 next_) :: some undef :: some undef :: some ((us 4)) :: some ((us 5)) :: some (.int .i64 last) :: some (.int .i64 i) :: some (.pointer (some ⟨b, 0, none⟩)) :: some undef :: some (Sl.v l) :: some (.int .i64 (↑(Sl.n l) : Int)) :: some (.bool (decide ((↑(Sl.n l) : Int) > 8))) :: some (.int .i64 i) :: some (Sl.v l) :: some (.int .i64 (↑(Sl.n l) : Int)) :: some (.bool (decide (i < (↑(Sl.n l) : Int)))) :: some ((us 17)) :: some ((us 18)) :: some (Sl.v l) :: some (.int .i64 i) :: some (.pointer (some ad)) :: some (.agg #[.int .i64 x0, .int .i64 x1, Sl.v x2, .int .i64 x3]) :: some (.pointer (some ⟨b, 0, none⟩)) :: some (.int .i64 x0) :: some (.int .i64 last) :: some (.bool (decide (x0 ≤ last))) :: some (.bool (decide (x0 ≤ last))) :: some ((us1 28)) :: some ((us1 29)) :: some ((us1 30)) :: some ((us1 31)) :: some (.bool ((decide (x0 ≤ last)) || (decide (x0 ≥ next_)))) :: some (.bool ((decide (x0 ≤ last)) || (decide (x0 ≥ next_)))) :: some ((us2 34)) :: some ((us2 35)) :: some ((us2 36)) :: some (.bool (((decide (x0 ≤ last)) || (decide (x0 ≥ next_))) || (decide (x1 < 0)))) :: some (.bool (((decide (x0 ≤ last)) || (decide (x0 ≥ next_))) || (decide (x1 < 0)))) :: none :: none :: none :: none :: some (.bool ((((decide (x0 ≤ last)) || (decide (x0 ≥ next_))) || (decide (x1 < 0))) || (decide ((↑(Sl.n x2) : Int) > 65536)))) :: some ((us 44)) :: some ((us 45)) :: some ((us 46)) :: some ((us 47)) :: some ((us 48)) :: some ((us 49)) :: some ((us 50)) :: some ((us 51)) :: some ((us 52)) :: some ((us 53)) :: some ((us 54)) :: some ((us 55)) :: some ((us 56)) :: some ((us 57)) :: some ((us 58)) :: some ((us 59)) :: some ((us 60)) :: some ((us 61)) :: some ((us 62)) :: some ((us 63)) :: some ((us 64)) :: some ((us 65)) :: some ((us 66)) :: some undef :: some undef :: some undef :: some undef :: some undef :: some undef :: some undef :: some undef :: some undef :: some undef :: some undef :: some undef :: [])).toArray, []⟩ : Act)) ∧ w_2 = w') ?_ ?_
        · simp only [List.take_succ_cons, List.take_zero]
          rcases Bool.eq_false_or_eq_true (((decide (x0 ≤ last)) || (decide (x0 ≥ next_))) || (decide (x1 < 0))) with hg2 | hg2
          · refine st_no (wt rfl rfl rfl (congrArg (fun z => some (Value.bool z)) hg2) rfl) (by simp only [f0, f1, f2]; rfl) ?_
            refine st_no (wt rfl rfl rfl (congrArg (fun z => some (Value.bool z)) hg2) rfl) (by simp only [f0, f1, f2]; rfl) ?_
            refine st_no (wt rfl rfl rfl (congrArg (fun z => some (Value.bool z)) hg2) rfl) (by simp only [f0, f1, f2]; rfl) ?_
            refine st_no (wt rfl rfl rfl (congrArg (fun z => some (Value.bool z)) hg2) rfl) (by simp only [f0, f1, f2]; rfl) ?_
            refine st_val (.bool true) (wn rfl) (r_pickT (congrArg Value.bool hg2) rfl) (by simp only [f0, f1, f2]; rfl) ?_
            refine wpList_nil ?_
            exact then_normal ⟨some_us (by simp only [masked, hg2, Bool.true_and, Bool.false_and, Bool.true_or, Bool.false_or, cond_true, cond_false]) rfl rfl, rfl⟩
          · refine st_val (.pointer (some ⟨b, 2, none⟩)) (wt rfl rfl rfl (congrArg (fun z => some (Value.bool z)) hg2) rfl) (r_field (Try.runUnderlying49 _) rfl (Try.sizeOf27 _) rfl rfl) (by simp only [f0, f1, f2]; rfl) ?_
            refine st_val (Sl.v x2) (wt rfl rfl rfl (congrArg (fun z => some (Value.bool z)) hg2) rfl) (r_load1 (Try.isAgg27 _) rfl (hb1.cell 2)) (by simp only [f0, f1, f2]; rfl) ?_
            refine st_val (.int .i64 (↑(Sl.n x2) : Int)) (wt rfl rfl rfl (congrArg (fun z => some (Value.bool z)) hg2) rfl) (r_len (s := x2) (Try.runUnderlying27 _) rfl) (by simp only [f0, f1, f2]; rfl) ?_
            refine st_val (.bool (decide ((↑(Sl.n x2) : Int) > 65536))) (wt rfl rfl rfl (congrArg (fun z => some (Value.bool z)) hg2) rfl) rfl (by simp only [f0, f1, f2]; rfl) ?_
            refine st_val (.bool (decide ((↑(Sl.n x2) : Int) > 65536))) (wn rfl) (r_pickF (congrArg Value.bool hg2) rfl) (by simp only [f0, f1, f2]; rfl) ?_
            refine wpList_nil ?_
            exact then_normal ⟨some_us (by simp only [masked, hg2, Bool.true_and, Bool.false_and, Bool.true_or, Bool.false_or, cond_true, cond_false]) rfl rfl, rfl⟩
        rintro a0 _ ⟨⟨us3, hF⟩, rfl⟩
        simp only [fillin, Nat.reduceAdd] at hF
        subst hF
        simp only [List.drop_succ_cons, List.drop_zero]
        refine st_val (.bool ((((decide (x0 ≤ last)) || (decide (x0 ≥ next_))) || (decide (x1 < 0))) || (decide ((↑(Sl.n x2) : Int) > 65536)))) (wn rfl) rfl (by simp only [f0, f1, f2]; rfl) ?_
        refine st_cut 10 (fun a' w' => (∃ us4 : Nat → Value, a' = (⟨(fillin us4 0 (some (Sl.v l) :: some (.int .i64 next_) :: some undef :: some undef :: some ((us 4)) :: some ((us 5)) :: some (.int .i64 last) :: some (.int .i64 i) :: some (.pointer (some ⟨b, 0, none⟩)) :: some undef :: some (Sl.v l) :: some (.int .i64 (↑(Sl.n l) : Int)) :: some (.bool (decide ((↑(Sl.n l) : Int) > 8))) :: some (.int .i64 i) :: some (Sl.v l) :: some (.int .i64 (↑(Sl.n l) : Int)) :: some (.bool (decide (i < (↑(Sl.n l) : Int)))) :: some ((us 17)) :: some ((us 18)) :: some (Sl.v l) :: some (.int .i64 i) :: some (.pointer (some ad)) :: some (.agg #[.int .i64 x0, .int .i64 x1, Sl.v x2, .int .i64 x3]) :: some (.pointer (some ⟨b, 0, none⟩)) :: some (.int .i64 x0) :: some (.int .i64 last) :: some (.bool (decide (x0 ≤ last))) :: some (.bool (decide (x0 ≤ last))) :: some ((us1 28)) :: some ((us1 29)) :: some ((us1 30)) :: some ((us1 31)) :: some (.bool ((decide (x0 ≤ last)) || (decide (x0 ≥ next_)))) :: some (.bool ((decide (x0 ≤ last)) || (decide (x0 ≥ next_)))) :: some ((us2 34)) :: some ((us2 35)) :: some ((us2 36)) :: some (.bool (((decide (x0 ≤ last)) || (decide (x0 ≥ next_))) || (decide (x1 < 0)))) :: some (.bool (((decide (x0 ≤ last)) || (decide (x0 ≥ next_))) || (decide (x1 < 0)))) :: some ((us3 39)) :: some ((us3 40)) :: some ((us3 41)) :: some ((us3 42)) :: some (.bool ((((decide (x0 ≤ last)) || (decide (x0 ≥ next_))) || (decide (x1 < 0))) || (decide ((↑(Sl.n x2) : Int) > 65536)))) :: some (.bool ((((decide (x0 ≤ last)) || (decide (x0 ≥ next_))) || (decide (x1 < 0))) || (decide ((↑(Sl.n x2) : Int) > 65536)))) :: none :: none :: none :: none :: none :: none :: none :: none :: none :: some (.bool (((((decide (x0 ≤ last)) || (decide (x0 ≥ next_))) || (decide (x1 < 0))) || (decide ((↑(Sl.n x2) : Int) > 65536))) || ((x1 == 0) && (decide ((↑(Sl.n x2) : Int) > 0))))) :: some ((us 55)) :: some ((us 56)) :: some ((us 57)) :: some ((us 58)) :: some ((us 59)) :: some ((us 60)) :: some ((us 61)) :: some ((us 62)) :: some ((us 63)) :: some ((us 64)) :: some ((us 65)) :: some ((us 66)) :: some undef :: some undef :: some undef :: some undef :: some undef :: some undef :: some undef :: some undef :: some undef :: some undef :: some undef :: some undef :: [])).toArray, []⟩ : Act)) ∧ w_2 = w') ?_ ?_
        · simp only [List.take_succ_cons, List.take_zero]
          rcases Bool.eq_false_or_eq_true ((((decide (x0 ≤ last)) || (decide (x0 ≥ next_))) || (decide (x1 < 0))) || (decide ((↑(Sl.n x2) : Int) > 65536))) with hg3 | hg3
          · refine st_no (wt rfl rfl rfl (congrArg (fun z => some (Value.bool z)) hg3) rfl) (by simp only [f0, f1, f2]; rfl) ?_
            refine st_no (wt rfl rfl rfl (congrArg (fun z => some (Value.bool z)) hg3) rfl) (by simp only [f0, f1, f2]; rfl) ?_
            refine st_no (wt rfl rfl rfl (congrArg (fun z => some (Value.bool z)) hg3) rfl) (by simp only [f0, f1, f2]; rfl) ?_
            refine st_no (wt rfl rfl rfl (congrArg (fun z => some (Value.bool z)) hg3) rfl) (by simp only [f0, f1, f2]; rfl) ?_
            refine st_no (wu rfl rfl rfl rfl) (by simp only [f0, f1, f2]; rfl) ?_
            refine st_no (wu rfl rfl rfl rfl) (by simp only [f0, f1, f2]; rfl) ?_
            refine st_no (wu rfl rfl rfl rfl) (by simp only [f0, f1, f2]; rfl) ?_
            refine st_no (wu rfl rfl rfl rfl) (by simp only [f0, f1, f2]; rfl) ?_
            refine st_no (wt rfl rfl rfl (congrArg (fun z => some (Value.bool z)) hg3) rfl) (by simp only [f0, f1, f2]; rfl) ?_
            refine st_val (.bool true) (wn rfl) (r_pickT (congrArg Value.bool hg3) rfl) (by simp only [f0, f1, f2]; rfl) ?_
            refine wpList_nil ?_
            exact then_normal ⟨some_us (by simp only [masked, hg3, Bool.true_and, Bool.false_and, Bool.true_or, Bool.false_or, cond_true, cond_false]) rfl rfl, rfl⟩
          · refine st_val (.pointer (some ⟨b, 1, none⟩)) (wt rfl rfl rfl (congrArg (fun z => some (Value.bool z)) hg3) rfl) (r_field (Try.runUnderlying49 _) rfl (Try.sizeOf3 _) rfl rfl) (by simp only [f0, f1, f2]; rfl) ?_
            refine st_val (.int .i64 x1) (wt rfl rfl rfl (congrArg (fun z => some (Value.bool z)) hg3) rfl) (r_load1 (Try.isAgg3 _) rfl (hb1.cell 1)) (by simp only [f0, f1, f2]; rfl) ?_
            refine st_val (.bool (x1 == 0)) (wt rfl rfl rfl (congrArg (fun z => some (Value.bool z)) hg3) rfl) rfl (by simp only [f0, f1, f2]; rfl) ?_
            refine st_val (.bool (x1 == 0)) (wt rfl rfl rfl (congrArg (fun z => some (Value.bool z)) hg3) rfl) rfl (by simp only [f0, f1, f2]; rfl) ?_
            refine st_cut 5 (fun a' w' => (∃ us5 : Nat → Value, a' = (⟨(fillin us5 0 (some (Sl.v l) :: some (.int .i64 next_) :: some undef :: some undef :: some ((us 4)) :: some ((us 5)) :: some (.int .i64 last) :: some (.int .i64 i) :: some (.pointer (some ⟨b, 0, none⟩)) :: some undef :: some (Sl.v l) :: some (.int .i64 (↑(Sl.n l) : Int)) :: some (.bool (decide ((↑(Sl.n l) : Int) > 8))) :: some (.int .i64 i) :: some (Sl.v l) :: some (.int .i64 (↑(Sl.n l) : Int)) :: some (.bool (decide (i < (↑(Sl.n l) : Int)))) :: some ((us 17)) :: some ((us 18)) :: some (Sl.v l) :: some (.int .i64 i) :: some (.pointer (some ad)) :: some (.agg #[.int .i64 x0, .int .i64 x1, Sl.v x2, .int .i64 x3]) :: some (.pointer (some ⟨b, 0, none⟩)) :: some (.int .i64 x0) :: some (.int .i64 last) :: some (.bool (decide (x0 ≤ last))) :: some (.bool (decide (x0 ≤ last))) :: some ((us1 28)) :: some ((us1 29)) :: some ((us1 30)) :: some ((us1 31)) :: some (.bool ((decide (x0 ≤ last)) || (decide (x0 ≥ next_)))) :: some (.bool ((decide (x0 ≤ last)) || (decide (x0 ≥ next_)))) :: some ((us2 34)) :: some ((us2 35)) :: some ((us2 36)) :: some (.bool (((decide (x0 ≤ last)) || (decide (x0 ≥ next_))) || (decide (x1 < 0)))) :: some (.bool (((decide (x0 ≤ last)) || (decide (x0 ≥ next_))) || (decide (x1 < 0)))) :: some ((us3 39)) :: some ((us3 40)) :: some ((us3 41)) :: some ((us3 42)) :: some (.bool ((((decide (x0 ≤ last)) || (decide (x0 ≥ next_))) || (decide (x1 < 0))) || (decide ((↑(Sl.n x2) : Int) > 65536)))) :: some (.bool ((((decide (x0 ≤ last)) || (decide (x0 ≥ next_))) || (decide (x1 < 0))) || (decide ((↑(Sl.n x2) : Int) > 65536)))) :: some (.pointer (some ⟨b, 1, none⟩)) :: some (.int .i64 x1) :: some (.bool (x1 == 0)) :: some (.bool (x1 == 0)) :: none :: none :: none :: none :: some (.bool ((x1 == 0) && (decide ((↑(Sl.n x2) : Int) > 0)))) :: some ((us 54)) :: some ((us 55)) :: some ((us 56)) :: some ((us 57)) :: some ((us 58)) :: some ((us 59)) :: some ((us 60)) :: some ((us 61)) :: some ((us 62)) :: some ((us 63)) :: some ((us 64)) :: some ((us 65)) :: some ((us 66)) :: some undef :: some undef :: some undef :: some undef :: some undef :: some undef :: some undef :: some undef :: some undef :: some undef :: some undef :: some undef :: [])).toArray, []⟩ : Act)) ∧ w_2 = w') ?_ ?_
            · simp only [List.take_succ_cons, List.take_zero]
              rcases Bool.eq_false_or_eq_true (x1 == 0) with hg4 | hg4
              · refine st_val (.pointer (some ⟨b, 2, none⟩)) (wt rfl rfl rfl (congrArg (fun z => some (Value.bool z)) hg4) rfl) (r_field (Try.runUnderlying49 _) rfl (Try.sizeOf27 _) rfl rfl) (by simp only [f0, f1, f2]; rfl) ?_
                refine st_val (Sl.v x2) (wt rfl rfl rfl (congrArg (fun z => some (Value.bool z)) hg4) rfl) (r_load1 (Try.isAgg27 _) rfl (hb1.cell 2)) (by simp only [f0, f1, f2]; rfl) ?_
                refine st_val (.int .i64 (↑(Sl.n x2) : Int)) (wt rfl rfl rfl (congrArg (fun z => some (Value.bool z)) hg4) rfl) (r_len (s := x2) (Try.runUnderlying27 _) rfl) (by simp only [f0, f1, f2]; rfl) ?_
                refine st_val (.bool (decide ((↑(Sl.n x2) : Int) > 0))) (wt rfl rfl rfl (congrArg (fun z => some (Value.bool z)) hg4) rfl) rfl (by simp only [f0, f1, f2]; rfl) ?_
                refine st_val (.bool (decide ((↑(Sl.n x2) : Int) > 0))) (wt rfl rfl rfl (congrArg (fun z => some (Value.bool z)) hg3) rfl) (r_pickT (congrArg Value.bool hg4) rfl) (by simp only [f0, f1, f2]; rfl) ?_
                refine wpList_nil ?_
                exact then_normal ⟨some_us (by simp only [masked, hg4, Bool.true_and, Bool.false_and, Bool.true_or, Bool.false_or, cond_true, cond_false]) rfl rfl, rfl⟩
              · refine st_no (wt rfl rfl rfl (congrArg (fun z => some (Value.bool z)) hg4) rfl) (by simp only [f0, f1, f2]; rfl) ?_
                refine st_no (wt rfl rfl rfl (congrArg (fun z => some (Value.bool z)) hg4) rfl) (by simp only [f0, f1, f2]; rfl) ?_
                refine st_no (wt rfl rfl rfl (congrArg (fun z => some (Value.bool z)) hg4) rfl) (by simp only [f0, f1, f2]; rfl) ?_
                refine st_no (wt rfl rfl rfl (congrArg (fun z => some (Value.bool z)) hg4) rfl) (by simp only [f0, f1, f2]; rfl) ?_
                refine st_val (.bool false) (wt rfl rfl rfl (congrArg (fun z => some (Value.bool z)) hg3) rfl) (r_pickF (congrArg Value.bool hg4) rfl) (by simp only [f0, f1, f2]; rfl) ?_
                refine wpList_nil ?_
                exact then_normal ⟨some_us (by simp only [masked, hg4, Bool.true_and, Bool.false_and, Bool.true_or, Bool.false_or, cond_true, cond_false]) rfl rfl, rfl⟩
            rintro a0 _ ⟨⟨us5, hF⟩, rfl⟩
            simp only [fillin, Nat.reduceAdd] at hF
            subst hF
            simp only [List.drop_succ_cons, List.drop_zero]
            refine st_val (.bool ((x1 == 0) && (decide ((↑(Sl.n x2) : Int) > 0)))) (wn rfl) (r_pickF (congrArg Value.bool hg3) rfl) (by simp only [f0, f1, f2]; rfl) ?_
            refine wpList_nil ?_
            exact then_normal ⟨some_us (by simp only [masked, hg3, Bool.true_and, Bool.false_and, Bool.true_or, Bool.false_or, cond_true, cond_false]) rfl rfl, rfl⟩
        rintro a0 _ ⟨⟨us4, hF⟩, rfl⟩
        simp only [fillin, Nat.reduceAdd] at hF
        subst hF
        simp only [List.drop_succ_cons, List.drop_zero]
        refine st_val (.bool (((((decide (x0 ≤ last)) || (decide (x0 ≥ next_))) || (decide (x1 < 0))) || (decide ((↑(Sl.n x2) : Int) > 65536))) || ((x1 == 0) && (decide ((↑(Sl.n x2) : Int) > 0))))) (wn rfl) rfl (by simp only [f0, f1, f2]; rfl) ?_
        refine st_cut 4 (fun a' w' => (∃ us6 : Nat → Value, a' = (⟨(fillin us6 0 (some (Sl.v l) :: some (.int .i64 next_) :: some undef :: some undef :: some ((us 4)) :: some ((us 5)) :: some (.int .i64 last) :: some (.int .i64 i) :: some (.pointer (some ⟨b, 0, none⟩)) :: some undef :: some (Sl.v l) :: some (.int .i64 (↑(Sl.n l) : Int)) :: some (.bool (decide ((↑(Sl.n l) : Int) > 8))) :: some (.int .i64 i) :: some (Sl.v l) :: some (.int .i64 (↑(Sl.n l) : Int)) :: some (.bool (decide (i < (↑(Sl.n l) : Int)))) :: some ((us 17)) :: some ((us 18)) :: some (Sl.v l) :: some (.int .i64 i) :: some (.pointer (some ad)) :: some (.agg #[.int .i64 x0, .int .i64 x1, Sl.v x2, .int .i64 x3]) :: some (.pointer (some ⟨b, 0, none⟩)) :: some (.int .i64 x0) :: some (.int .i64 last) :: some (.bool (decide (x0 ≤ last))) :: some (.bool (decide (x0 ≤ last))) :: some ((us1 28)) :: some ((us1 29)) :: some ((us1 30)) :: some ((us1 31)) :: some (.bool ((decide (x0 ≤ last)) || (decide (x0 ≥ next_)))) :: some (.bool ((decide (x0 ≤ last)) || (decide (x0 ≥ next_)))) :: some ((us2 34)) :: some ((us2 35)) :: some ((us2 36)) :: some (.bool (((decide (x0 ≤ last)) || (decide (x0 ≥ next_))) || (decide (x1 < 0)))) :: some (.bool (((decide (x0 ≤ last)) || (decide (x0 ≥ next_))) || (decide (x1 < 0)))) :: some ((us3 39)) :: some ((us3 40)) :: some ((us3 41)) :: some ((us3 42)) :: some (.bool ((((decide (x0 ≤ last)) || (decide (x0 ≥ next_))) || (decide (x1 < 0))) || (decide ((↑(Sl.n x2) : Int) > 65536)))) :: some (.bool ((((decide (x0 ≤ last)) || (decide (x0 ≥ next_))) || (decide (x1 < 0))) || (decide ((↑(Sl.n x2) : Int) > 65536)))) :: some ((us4 45)) :: some ((us4 46)) :: some ((us4 47)) :: some ((us4 48)) :: some ((us4 49)) :: some ((us4 50)) :: some ((us4 51)) :: some ((us4 52)) :: some ((us4 53)) :: some (.bool (((((decide (x0 ≤ last)) || (decide (x0 ≥ next_))) || (decide (x1 < 0))) || (decide ((↑(Sl.n x2) : Int) > 65536))) || ((x1 == 0) && (decide ((↑(Sl.n x2) : Int) > 0))))) :: some (.bool (((((decide (x0 ≤ last)) || (decide (x0 ≥ next_))) || (decide (x1 < 0))) || (decide ((↑(Sl.n x2) : Int) > 65536))) || ((x1 == 0) && (decide ((↑(Sl.n x2) : Int) > 0))))) :: none :: none :: none :: some (.bool ((((((decide (x0 ≤ last)) || (decide (x0 ≥ next_))) || (decide (x1 < 0))) || (decide ((↑(Sl.n x2) : Int) > 65536))) || ((x1 == 0) && (decide ((↑(Sl.n x2) : Int) > 0)))) || (decide (x3 < 0)))) :: some ((us 60)) :: some ((us 61)) :: some ((us 62)) :: some ((us 63)) :: some ((us 64)) :: some ((us 65)) :: some ((us 66)) :: some undef :: some undef :: some undef :: some undef :: some undef :: some undef :: some undef :: some undef :: some undef :: some undef :: some undef :: some undef :: [])).toArray, []⟩ : Act)) ∧ w_2 = w') ?_ ?_
        · simp only [List.take_succ_cons, List.take_zero]
          rcases Bool.eq_false_or_eq_true (((((decide (x0 ≤ last)) || (decide (x0 ≥ next_))) || (decide (x1 < 0))) || (decide ((↑(Sl.n x2) : Int) > 65536))) || ((x1 == 0) && (decide ((↑(Sl.n x2) : Int) > 0)))) with hg5 | hg5
          · refine st_no (wt rfl rfl rfl (congrArg (fun z => some (Value.bool z)) hg5) rfl) (by simp only [f0, f1, f2]; rfl) ?_
            refine st_no (wt rfl rfl rfl (congrArg (fun z => some (Value.bool z)) hg5) rfl) (by simp only [f0, f1, f2]; rfl) ?_
            refine st_no (wt rfl rfl rfl (congrArg (fun z => some (Value.bool z)) hg5) rfl) (by simp only [f0, f1, f2]; rfl) ?_
            refine st_val (.bool true) (wn rfl) (r_pickT (congrArg Value.bool hg5) rfl) (by simp only [f0, f1, f2]; rfl) ?_
            refine wpList_nil ?_
            exact then_normal ⟨some_us (by simp only [masked, hg5, Bool.true_and, Bool.false_and, Bool.true_or, Bool.false_or, cond_true, cond_false]) rfl rfl, rfl⟩
          · refine st_val (.pointer (some ⟨b, 3, none⟩)) (wt rfl rfl rfl (congrArg (fun z => some (Value.bool z)) hg5) rfl) (r_field (Try.runUnderlying49 _) rfl (Try.sizeOf3 _) rfl rfl) (by simp only [f0, f1, f2]; rfl) ?_
            refine st_val (.int .i64 x3) (wt rfl rfl rfl (congrArg (fun z => some (Value.bool z)) hg5) rfl) (r_load1 (Try.isAgg3 _) rfl (hb1.cell 3)) (by simp only [f0, f1, f2]; rfl) ?_
            refine st_val (.bool (decide (x3 < 0))) (wt rfl rfl rfl (congrArg (fun z => some (Value.bool z)) hg5) rfl) rfl (by simp only [f0, f1, f2]; rfl) ?_
            refine st_val (.bool (decide (x3 < 0))) (wn rfl) (r_pickF (congrArg Value.bool hg5) rfl) (by simp only [f0, f1, f2]; rfl) ?_
            refine wpList_nil ?_
            exact then_normal ⟨some_us (by simp only [masked, hg5, Bool.true_and, Bool.false_and, Bool.true_or, Bool.false_or, cond_true, cond_false]) rfl rfl, rfl⟩
        rintro a0 _ ⟨⟨us6, hF⟩, rfl⟩
        simp only [fillin, Nat.reduceAdd] at hF
        subst hF
        simp only [List.drop_succ_cons, List.drop_zero]
        refine st_val (.bool ((((((decide (x0 ≤ last)) || (decide (x0 ≥ next_))) || (decide (x1 < 0))) || (decide ((↑(Sl.n x2) : Int) > 65536))) || ((x1 == 0) && (decide ((↑(Sl.n x2) : Int) > 0)))) || (decide (x3 < 0)))) (wn rfl) rfl (by simp only [f0, f1, f2]; rfl) ?_
        refine st_cut 4 (fun a' w' => (∃ us7 : Nat → Value, a' = (⟨(fillin us7 0 (some (Sl.v l) :: some (.int .i64 next_) :: some undef :: some undef :: some ((us 4)) :: some ((us 5)) :: some (.int .i64 last) :: some (.int .i64 i) :: some (.pointer (some ⟨b, 0, none⟩)) :: some undef :: some (Sl.v l) :: some (.int .i64 (↑(Sl.n l) : Int)) :: some (.bool (decide ((↑(Sl.n l) : Int) > 8))) :: some (.int .i64 i) :: some (Sl.v l) :: some (.int .i64 (↑(Sl.n l) : Int)) :: some (.bool (decide (i < (↑(Sl.n l) : Int)))) :: some ((us 17)) :: some ((us 18)) :: some (Sl.v l) :: some (.int .i64 i) :: some (.pointer (some ad)) :: some (.agg #[.int .i64 x0, .int .i64 x1, Sl.v x2, .int .i64 x3]) :: some (.pointer (some ⟨b, 0, none⟩)) :: some (.int .i64 x0) :: some (.int .i64 last) :: some (.bool (decide (x0 ≤ last))) :: some (.bool (decide (x0 ≤ last))) :: some ((us1 28)) :: some ((us1 29)) :: some ((us1 30)) :: some ((us1 31)) :: some (.bool ((decide (x0 ≤ last)) || (decide (x0 ≥ next_)))) :: some (.bool ((decide (x0 ≤ last)) || (decide (x0 ≥ next_)))) :: some ((us2 34)) :: some ((us2 35)) :: some ((us2 36)) :: some (.bool (((decide (x0 ≤ last)) || (decide (x0 ≥ next_))) || (decide (x1 < 0)))) :: some (.bool (((decide (x0 ≤ last)) || (decide (x0 ≥ next_))) || (decide (x1 < 0)))) :: some ((us3 39)) :: some ((us3 40)) :: some ((us3 41)) :: some ((us3 42)) :: some (.bool ((((decide (x0 ≤ last)) || (decide (x0 ≥ next_))) || (decide (x1 < 0))) || (decide ((↑(Sl.n x2) : Int) > 65536)))) :: some (.bool ((((decide (x0 ≤ last)) || (decide (x0 ≥ next_))) || (decide (x1 < 0))) || (decide ((↑(Sl.n x2) : Int) > 65536)))) :: some ((us4 45)) :: some ((us4 46)) :: some ((us4 47)) :: some ((us4 48)) :: some ((us4 49)) :: some ((us4 50)) :: some ((us4 51)) :: some ((us4 52)) :: some ((us4 53)) :: some (.bool (((((decide (x0 ≤ last)) || (decide (x0 ≥ next_))) || (decide (x1 < 0))) || (decide ((↑(Sl.n x2) : Int) > 65536))) || ((x1 == 0) && (decide ((↑(Sl.n x2) : Int) > 0))))) :: some (.bool (((((decide (x0 ≤ last)) || (decide (x0 ≥ next_))) || (decide (x1 < 0))) || (decide ((↑(Sl.n x2) : Int) > 65536))) || ((x1 == 0) && (decide ((↑(Sl.n x2) : Int) > 0))))) :: some ((us6 56)) :: some ((us6 57)) :: some ((us6 58)) :: some (.bool ((((((decide (x0 ≤ last)) || (decide (x0 ≥ next_))) || (decide (x1 < 0))) || (decide ((↑(Sl.n x2) : Int) > 65536))) || ((x1 == 0) && (decide ((↑(Sl.n x2) : Int) > 0)))) || (decide (x3 < 0)))) :: some (.bool ((((((decide (x0 ≤ last)) || (decide (x0 ≥ next_))) || (decide (x1 < 0))) || (decide ((↑(Sl.n x2) : Int) > 65536))) || ((x1 == 0) && (decide ((↑(Sl.n x2) : Int) > 0)))) || (decide (x3 < 0)))) :: none :: none :: none :: some (.bool (((((((decide (x0 ≤ last)) || (decide (x0 ≥ next_))) || (decide (x1 < 0))) || (decide ((↑(Sl.n x2) : Int) > 65536))) || ((x1 == 0) && (decide ((↑(Sl.n x2) : Int) > 0)))) || (decide (x3 < 0))) || (decide (x3 > 1099511627826)))) :: some ((us 65)) :: some ((us 66)) :: some undef :: some undef :: some undef :: some undef :: some undef :: some undef :: some undef :: some undef :: some undef :: some undef :: some undef :: some undef :: [])).toArray, []⟩ : Act)) ∧ w_2 = w') ?_ ?_
        · simp only [List.take_succ_cons, List.take_zero]
          rcases Bool.eq_false_or_eq_true ((((((decide (x0 ≤ last)) || (decide (x0 ≥ next_))) || (decide (x1 < 0))) || (decide ((↑(Sl.n x2) : Int) > 65536))) || ((x1 == 0) && (decide ((↑(Sl.n x2) : Int) > 0)))) || (decide (x3 < 0))) with hg6 | hg6
          · refine st_no (wt rfl rfl rfl (congrArg (fun z => some (Value.bool z)) hg6) rfl) (by simp only [f0, f1, f2]; rfl) ?_
            refine st_no (wt rfl rfl rfl (congrArg (fun z => some (Value.bool z)) hg6) rfl) (by simp only [f0, f1, f2]; rfl) ?_
            refine st_no (wt rfl rfl rfl (congrArg (fun z => some (Value.bool z)) hg6) rfl) (by simp only [f0, f1, f2]; rfl) ?_
            refine st_val (.bool true) (wn rfl) (r_pickT (congrArg Value.bool hg6) rfl) (by simp only [f0, f1, f2]; rfl) ?_
            refine wpList_nil ?_
            exact then_normal ⟨some_us (by simp only [masked, hg6, Bool.true_and, Bool.false_and, Bool.true_or, Bool.false_or, cond_true, cond_false]) rfl rfl, rfl⟩
          · refine st_val (.pointer (some ⟨b, 3, none⟩)) (wt rfl rfl rfl (congrArg (fun z => some (Value.bool z)) hg6) rfl) (r_field (Try.runUnderlying49 _) rfl (Try.sizeOf3 _) rfl rfl) (by simp only [f0, f1, f2]; rfl) ?_
            refine st_val (.int .i64 x3) (wt rfl rfl rfl (congrArg (fun z => some (Value.bool z)) hg6) rfl) (r_load1 (Try.isAgg3 _) rfl (hb1.cell 3)) (by simp only [f0, f1, f2]; rfl) ?_
            refine st_val (.bool (decide (x3 > 1099511627826))) (wt rfl rfl rfl (congrArg (fun z => some (Value.bool z)) hg6) rfl) rfl (by simp only [f0, f1, f2]; rfl) ?_
            refine st_val (.bool (decide (x3 > 1099511627826))) (wn rfl) (r_pickF (congrArg Value.bool hg6) rfl) (by simp only [f0, f1, f2]; rfl) ?_
            refine wpList_nil ?_
            exact then_normal ⟨some_us (by simp only [masked, hg6, Bool.true_and, Bool.false_and, Bool.true_or, Bool.false_or, cond_true, cond_false]) rfl rfl, rfl⟩
        rintro a0 _ ⟨⟨us7, hF⟩, rfl⟩
        simp only [fillin, Nat.reduceAdd] at hF
        subst hF
        simp only [List.drop_succ_cons, List.drop_zero]
        refine wpList_nil ?_
        refine then_normal ?_
        refine wp_cond_split (t := (((((((decide (x0 ≤ last)) || (decide (x0 ≥ next_))) || (decide (x1 < 0))) || (decide ((↑(Sl.n x2) : Int) > 65536))) || ((x1 == 0) && (decide ((↑(Sl.n x2) : Int) > 0)))) || (decide (x3 < 0))) || (decide (x3 > 1099511627826)))) rfl (fun hc2 => ?_) (fun hc2 => ?_)
        · replace h := h.1 hc2
          refine wp_seq ?_
          refine wp_region_lit ?_
          refine st_val (.pointer none) (wn rfl) rfl (by simp only [f0, f1, f2]; rfl) ?_
          refine st_val (.int .i64 1) (wn rfl) rfl (by simp only [f0, f1, f2]; rfl) ?_
          refine wpList_nil ?_
          refine then_normal ?_
          refine wp_ret ?_
          refine then_ret ?_
          refine block_ret ?_
          refine then_ret ?_
          refine then_ret ?_
          refine block_ret ?_
          refine then_ret ?_
          replace h := h b w_2 hn_b hb1.lt hA1
          exact end_ret (r_resN (vs := [.pointer none, .int .i64 1]) Try.results18 rfl ⟨rfl, rfl, trivial⟩) rfl h
        · replace h := h.2 hc2
          refine wp_skip ?_
          refine then_normal ?_
          refine wp_region_lit ?_
          refine st_val (.pointer (some ⟨b, 0, none⟩)) (wn rfl) (r_field (Try.runUnderlying49 _) rfl (Try.sizeOf3 _) rfl rfl) (by simp only [f0, f1, f2]; rfl) ?_
          refine st_val (.int .i64 x0) (wn rfl) (r_load1 (Try.isAgg3 _) rfl (hb1.cell 0)) (by simp only [f0, f1, f2]; rfl) ?_
          refine st_val (.int .i64 x0) (wn rfl) rfl (by simp only [f0, f1, f2]; rfl) ?_
          refine wpList_nil ?_
          refine block_normal ?_
          refine then_normal ?_
          refine wp_region_lit ?_
          refine st_val (.int .i64 i) (wn rfl) rfl (by simp only [f0, f1, f2]; rfl) ?_
          refine st_val (.int .i64 (IntKind.i64.wrap (i + 1))) (wn rfl) rfl (by simp only [f0, f1, f2]; rfl) ?_
          refine st_val (.int .i64 (IntKind.i64.wrap (i + 1))) (wn rfl) rfl (by simp only [f0, f1, f2]; rfl) ?_
          refine wpList_nil ?_
          refine then_normal ?_
          replace h := h b w_2 hn_b hb1.lt hA1
          obtain ⟨nv2, hl, h⟩ := h
          exact ⟨nv2, hl, _, _, (some_us rfl rfl rfl), h⟩
      · replace h := h.2 hc1
        refine wp_exit ?_
        refine then_exit ?_
        refine then_exit ?_
        refine block_hit ?_
        refine then_normal ?_
        refine wp_seq ?_
        refine wp_seq ?_
        refine wp_region_lit ?_
        refine st_val (.int .i64 next_) (wn rfl) rfl (by simp only [f0, f1, f2]; rfl) ?_
        refine st_val (.bool (decide (next_ < 1))) (wn rfl) rfl (by simp only [f0, f1, f2]; rfl) ?_
        refine wpList_nil ?_
        refine then_normal ?_
        refine wp_cond_split (t := (decide (next_ < 1))) rfl (fun hc3 => ?_) (fun hc3 => ?_)
        · replace h := h.1 hc3
          refine wp_seq ?_
          refine wp_region_lit ?_
          refine st_val (.pointer none) (wn rfl) rfl (by simp only [f0, f1, f2]; rfl) ?_
          refine st_val (.int .i64 1) (wn rfl) rfl (by simp only [f0, f1, f2]; rfl) ?_
          refine wpList_nil ?_
          refine then_normal ?_
          refine wp_ret ?_
          refine then_ret ?_
          exact end_ret (r_resN (vs := [.pointer none, .int .i64 1]) Try.results18 rfl ⟨rfl, rfl, trivial⟩) rfl h
        · replace h := h.2 hc3
          refine wp_skip ?_
          refine then_normal ?_
          refine wp_seq ?_
          refine wp_region_lit ?_
          refine st_val (Sl.v l) (wn rfl) rfl (by simp only [f0, f1, f2]; rfl) ?_
          refine st_val (.int .i64 next_) (wn rfl) rfl (by simp only [f0, f1, f2]; rfl) ?_
          refine st_val (.agg #[Sl.v l, .int .i64 next_]) (wn rfl) (r_build (ps' := [(0, Sl.v l), (1, .int .i64 next_)]) rfl (by kernel_rfl)) (by simp only [f0, f1, f2]; rfl) ?_
          refine st_one (wn rfl) ?_
          refine o_boxB (zs := [Sl.v l, .int .i64 next_]) rfl (fun b => by simp only [f0, f1, f2]; rfl) (fun b1 w_3 hn1 hO2 hb2 => ?_)
          have hn_b1 : w_.heap.size ≤ b1 := hn1
          have hA2 : Only [] w_ w_3 := hO2
          refine st_val (.pointer (some ⟨b1, 0, none⟩)) (wn rfl) rfl (by simp only [f0, f1, f2]; rfl) ?_
          refine wpList_nil ?_
          refine then_normal ?_
          refine wp_seq ?_
          refine wp_region_lit ?_
          refine st_val (.pointer (some ⟨b1, 0, none⟩)) (wn rfl) rfl (by simp only [f0, f1, f2]; rfl) ?_
          refine st_val (.pointer (some ⟨b1, 0, none⟩)) (wn rfl) rfl (by simp only [f0, f1, f2]; rfl) ?_
          replace h := h b1 w_3 hn_b1 hb2.lt hA2 hb2
          refine st_one (wn rfl) ?_
          refine o_enter (args := #[.pointer (some ⟨b1, 0, none⟩)]) (r_enter Try.call23 rfl) (h.mono ?_)
          clear h
          rintro _ w_4 ⟨x4, rfl, vb1, vb11, hb3, h⟩
          refine ⟨_, _, rfl, (by simp only [f0, f1, f2]; rfl), ?_⟩
          refine st_val (.pointer (some ⟨b1, 0, none⟩)) (wn rfl) rfl (by simp only [f0, f1, f2]; rfl) ?_
          refine st_val (.pointer (some ⟨b1, 0, none⟩)) (wn rfl) (r_field (Try.runUnderlying64 _) rfl (Try.sizeOf42 _) rfl rfl) (by simp only [f0, f1, f2]; rfl) ?_
          refine st_one (wn rfl) ?_
          refine o_storeB (vs := [Sl.v x4]) (cs' := [Sl.v x4, .int .i64 vb11]) (Try.sizeOf42 _) rfl rfl rfl rfl hb3 (Nat.le_of_ble_eq_true rfl) rfl (f3 _ _) (fun w_5 hO3 hb4 => ?_)
          have hA3 : Only [b1] w_4 w_5 := hO3
          refine wpList_nil ?_
          refine then_normal ?_
          refine wp_seq ?_
          refine wp_region_lit ?_
          refine st_val (.pointer (some ⟨b1, 0, none⟩)) (wn rfl) rfl (by simp only [f0, f1, f2]; rfl) ?_
          refine st_val (.pointer (some ⟨b1, 0, none⟩)) (wn rfl) rfl (by simp only [f0, f1, f2]; rfl) ?_
          refine st_val (.int .i64 0) (wn rfl) rfl (by simp only [f0, f1, f2]; rfl) ?_
          refine wpList_nil ?_
          refine then_normal ?_
          refine wp_ret ?_
          replace h := h w_5 hA3 hb4
          exact end_ret (r_resN (vs := [.pointer (some ⟨b1, 0, none⟩), .int .i64 0]) Try.results18 rfl ⟨rfl, rfl, trivial⟩) rfl h

/-- what is to be shown of a call of session.Restore -/
def session_Restore_vc (l : Sl) (next_ : Int) (R : Value → World → Prop) (w : World) : Prop :=
  ∃ (I_ : Nat → Int → Int → World → Prop) (nv1 : Nat), I_ nv1 0 0 w ∧
  ∀ (nv : Nat) (last : Int) (t11 : Int) (w_ : World), I_ nv last t11 w_ →
  (((decide (t11 < (↑(Sl.n l) : Int))) = true →
  ∃ ad : Addr, SlAt l t11 4 ad ∧
  ∃ x0 : Int, ∃ x1 : Int, ∃ x2 : Sl, ∃ x3 : Int, Cells w_ ad [.int .i64 x0, .int .i64 x1, Sl.v x2, .int .i64 x3] ∧
  (((((((((decide (x0 ≤ last)) || (decide (x0 ≥ next_))) || (decide (x1 < 0))) || (decide ((↑(Sl.n x2) : Int) > 65536))) || ((x1 == 0) && (decide ((↑(Sl.n x2) : Int) > 0)))) || (decide (x3 < 0))) || (decide (x3 > 1099511627826))) = true →
  ∀ (b : Nat) (w_2 : World), w_.heap.size ≤ b → b < w_2.heap.size → Only [] w_ w_2 →
  R (.tuple #[.pointer none, .int .i64 1]) w_2) ∧
  ((((((((decide (x0 ≤ last)) || (decide (x0 ≥ next_))) || (decide (x1 < 0))) || (decide ((↑(Sl.n x2) : Int) > 65536))) || ((x1 == 0) && (decide ((↑(Sl.n x2) : Int) > 0)))) || (decide (x3 < 0))) || (decide (x3 > 1099511627826))) = false →
  ∀ (b : Nat) (w_2 : World), w_.heap.size ≤ b → b < w_2.heap.size → Only [] w_ w_2 →
  ∃ nv2 : Nat, nv2 < nv ∧ I_ nv2 x0 (IntKind.i64.wrap (t11 + 1)) w_2))) ∧
  ((decide (t11 < (↑(Sl.n l) : Int))) = false →
  ((((decide ((↑(Sl.n l) : Int) > 8)) || (decide (next_ < 1))) = true →
  R (.tuple #[.pointer none, .int .i64 1]) w_) ∧
  (((decide ((↑(Sl.n l) : Int) > 8)) || (decide (next_ < 1))) = false →
  Calls Try.prog 33 #[Sl.v l] w_ (fun e w_3 => ∃ x4 : Sl, e = .returned (Sl.v x4) ∧
  ∀ (b1 : Nat) (w_4 : World), w_3.heap.size ≤ b1 → b1 < w_4.heap.size → Only [] w_3 w_4 → Blk w_4 b1 47 [Sl.v x4, .int .i64 next_] →
  R (.tuple #[.pointer (some ⟨b1, 0, none⟩), .int .i64 0]) w_4)))))
theorem session_Restore_wp (l : Sl) (next_ : Int) (R : Value → World → Prop) (w : World) (h : session_Restore_vc l next_ R w) :
    Calls Try.prog 17 #[Sl.v l, .int .i64 next_] w fun e w' => ∃ v, e = .returned v ∧ R v w' := by
  unfold session_Restore_vc at h
  refine calls_of (k := 71) Try.func17 rfl Try.ntmps17 rfl rfl ?_
  simp only [List.replicate, List.cons_append, List.nil_append]
  refine wp_seq ?_
  refine wp_region_lit ?_
  refine st_val (.pointer none) (wn rfl) rfl (by simp only [f0, f1, f2]; rfl) ?_
  refine st_val (.int .i64 0) (wn rfl) rfl (by simp only [f0, f1, f2]; rfl) ?_
  refine wpList_nil ?_
  refine then_normal ?_
  refine wp_seq ?_
  refine wp_region_lit ?_
  refine st_val (.int .i64 0) (wn rfl) rfl (by simp only [f0, f1, f2]; rfl) ?_
  refine wpList_nil ?_
  refine then_normal ?_
  refine wp_seq ?_
  refine wp_seq ?_
  refine wp_region_lit ?_
  refine st_val (Sl.v l) (wn rfl) rfl (by simp only [f0, f1, f2]; rfl) ?_
  refine st_val (.int .i64 (↑(Sl.n l) : Int)) (wn rfl) (r_len (s := l) (Try.runUnderlying42 _) rfl) (by simp only [f0, f1, f2]; rfl) ?_
  refine st_val (.int .i64 0) (wn rfl) rfl (by simp only [f0, f1, f2]; rfl) ?_
  refine wpList_nil ?_
  refine then_normal ?_
  refine wp_block ?_
  obtain ⟨I_, nv1, h0, hI⟩ := h
  refine wp_loop_ghost (fun nv' a' w' => ∃ last : Int, ∃ t11 : Int, (∃ us : Nat → Value, a' = (⟨(fillin us 0 (some (Sl.v l) :: some (.int .i64 next_) :: some undef :: some undef :: none :: none :: some (.int .i64 last) :: some undef :: none :: some (Sl.v l) :: some (.int .i64 (↑(Sl.n l) : Int)) :: some (.int .i64 t11) :: none :: none :: none :: none :: none :: none :: none :: none :: none :: none :: none :: none :: none :: none :: none :: none :: none :: none :: none :: none :: none :: none :: none :: none :: none :: none :: none :: none :: none :: none :: none :: none :: none :: none :: none :: none :: none :: none :: none :: none :: none :: none :: none :: none :: none :: none :: none :: none :: some undef :: some undef :: some undef :: some undef :: some undef :: some undef :: some undef :: some undef :: some undef :: some undef :: some undef :: some undef :: some undef :: [])).toArray, []⟩ : Act)) ∧ I_ nv' last t11 w') nv1 ?_ ?_
  · exact ⟨_, _, (some_us rfl rfl rfl), h0⟩
  · clear h0
    rintro nv a0 w_ ⟨last, t11, ⟨us, hF⟩, h⟩
    simp only [fillin, Nat.reduceAdd] at hF
    subst hF
    replace h := hI _ _ _ _ h
    refine wp_seq ?_
    refine wp_region_lit ?_
    refine st_val (.bool (decide (t11 < (↑(Sl.n l) : Int)))) (wn rfl) rfl (by simp only [f0, f1, f2]; rfl) ?_
    refine wpList_nil ?_
    refine then_normal ?_
    refine wp_seq ?_
    refine wp_cond_split (t := (decide (t11 < (↑(Sl.n l) : Int)))) rfl (fun hc => ?_) (fun hc => ?_)
    · replace h := h.1 hc
      refine wp_skip ?_
      refine then_normal ?_
      refine wp_seq ?_
      refine wp_block ?_
      refine wp_seq ?_
      refine wp_region_lit ?_
      obtain ⟨ad, hx, h⟩ := h
      refine st_val (.pointer (some ad)) (wn rfl) (r_indexS (s := l) (Try.runUnderlying42 _) (Try.sizeOf49 _) rfl rfl hx) (by simp only [f0, f1, f2]; rfl) ?_
      obtain ⟨x0, x1, x2, x3, hx1, h⟩ := h
      refine st_val (.agg #[.int .i64 x0, .int .i64 x1, Sl.v x2, .int .i64 x3]) (wn rfl) (r_loadN (Try.isAgg49 _) (Try.sizeOf49 _) rfl rfl hx1) (by simp only [f0, f1, f2]; rfl) ?_
      refine st_one (wn rfl) ?_
      refine o_allocB (zs := [.int .i64 0, .int .i64 0, Sl.v Sl.nil, .int .i64 0]) (Try.zeroValue49 _) rfl (fun b => by simp only [f0, f1, f2]; rfl) (fun b w_1 hn hO hb => ?_)
      have hn_b : w_.heap.size ≤ b := hn
      have hA : Only [] w_ w_1 := hO
      refine st_one (wn rfl) ?_
      refine o_storeB (vs := [.int .i64 x0, .int .i64 x1, Sl.v x2, .int .i64 x3]) (cs' := [.int .i64 x0, .int .i64 x1, Sl.v x2, .int .i64 x3]) (Try.sizeOf49 _) rfl rfl rfl rfl hb (Nat.le_of_ble_eq_true rfl) rfl (f3 _ _) (fun w_2 hO1 hb1 => ?_)
      have hA1 := hA.new hO1 hn_b
      refine wpList_nil ?_
      refine then_normal ?_
      refine wp_seq ?_
      refine wp_seq ?_
      refine wp_region_lit ?_
      refine st_val (.pointer (some ⟨b, 0, none⟩)) (wn rfl) (r_field (Try.runUnderlying49 _) rfl (Try.sizeOf3 _) rfl rfl) (by simp only [f0, f1, f2]; rfl) ?_
      refine st_val (.int .i64 x0) (wn rfl) (r_load1 (Try.isAgg3 _) rfl (hb1.cell 0)) (by simp only [f0, f1, f2]; rfl) ?_
      refine st_val (.int .i64 last) (wn rfl) rfl (by simp only [f0, f1, f2]; rfl) ?_
      refine st_val (.bool (decide (x0 ≤ last))) (wn rfl) rfl (by simp only [f0, f1, f2]; rfl) ?_
      refine st_val (.bool (decide (x0 ≤ last))) (wn rfl) rfl (by simp only [f0, f1, f2]; rfl) ?_
      refine st_cut 5 (fun a' w' => (∃ us1 : Nat → Value, a' = (⟨(fillin us1 0 (some (Sl.v l) :: some (.int .i64 next_) :: some undef :: some undef :: some ((us 4)) :: some ((us 5)) :: some (.int .i64 last) :: some undef :: some (.pointer (some ⟨b, 0, none⟩)) :: some (Sl.v l) :: some (.int .i64 (↑(Sl.n l) : Int)) :: some (.int .i64 t11) :: some (.bool (decide (t11 < (↑(Sl.n l) : Int)))) :: some (.pointer (some ad)) :: some (.agg #[.int .i64 x0, .int .i64 x1, Sl.v x2, .int .i64 x3]) :: some (.pointer (some ⟨b, 0, none⟩)) :: some (.int .i64 x0) :: some (.int .i64 last) :: some (.bool (decide (x0 ≤ last))) :: some (.bool (decide (x0 ≤ last))) :: none :: none :: none :: none :: some (.bool ((decide (x0 ≤ last)) || (decide (x0 ≥ next_)))) :: some ((us 25)) :: some ((us 26)) :: some ((us 27)) :: some ((us 28)) :: some ((us 29)) :: some ((us 30)) :: some ((us 31)) :: some ((us 32)) :: some ((us 33)) :: some ((us 34)) :: some ((us 35)) :: some ((us 36)) :: some ((us 37)) :: some ((us 38)) :: some ((us 39)) :: some ((us 40)) :: some ((us 41)) :: some ((us 42)) :: some ((us 43)) :: some ((us 44)) :: some ((us 45)) :: some ((us 46)) :: some ((us 47)) :: some ((us 48)) :: some ((us 49)) :: some ((us 50)) :: some ((us 51)) :: some ((us 52)) :: some ((us 53)) :: some ((us 54)) :: some ((us 55)) :: some ((us 56)) :: some ((us 57)) :: some ((us 58)) :: some ((us 59)) :: some undef :: some undef :: some undef :: some undef :: some undef :: some undef :: some undef :: some undef :: some undef :: some undef :: some undef :: some undef :: some undef :: [])).toArray, []⟩ : Act)) ∧ w_2 = w') ?_ ?_
      · simp only [List.take_succ_cons, List.take_zero]
        rcases Bool.eq_false_or_eq_true (decide (x0 ≤ last)) with hg | hg
        · refine st_no (wt rfl rfl rfl (congrArg (fun z => some (Value.bool z)) hg) rfl) (by simp only [f0, f1, f2]; rfl) ?_
          refine st_no (wt rfl rfl rfl (congrArg (fun z => some (Value.bool z)) hg) rfl) (by simp only [f0, f1, f2]; rfl) ?_
          refine st_no (wt rfl rfl rfl (congrArg (fun z => some (Value.bool z)) hg) rfl) (by simp only [f0, f1, f2]; rfl) ?_
          refine st_no (wt rfl rfl rfl (congrArg (fun z => some (Value.bool z)) hg) rfl) (by simp only [f0, f1, f2]; rfl) ?_
          refine st_val (.bool true) (wn rfl) (r_pickT (congrArg Value.bool hg) rfl) (by simp only [f0, f1, f2]; rfl) ?_
          refine wpList_nil ?_
          exact then_normal ⟨some_us (by simp only [masked, hg, Bool.true_and, Bool.false_and, Bool.true_or, Bool.false_or, cond_true, cond_false]) rfl rfl, rfl⟩
        · refine st_val (.pointer (some ⟨b, 0, none⟩)) (wt rfl rfl rfl (congrArg (fun z => some (Value.bool z)) hg) rfl) (r_field (Try.runUnderlying49 _) rfl (Try.sizeOf3 _) rfl rfl) (by simp only [f0, f1, f2]; rfl) ?_
          refine st_val (.int .i64 x0) (wt rfl rfl rfl (congrArg (fun z => some (Value.bool z)) hg) rfl) (r_load1 (Try.isAgg3 _) rfl (hb1.cell 0)) (by simp only [f0, f1, f2]; rfl) ?_
          refine st_val (.int .i64 next_) (wt rfl rfl rfl (congrArg (fun z => some (Value.bool z)) hg) rfl) rfl (by simp only [f0, f1, f2]; rfl) ?_
          refine st_val (.bool (decide (x0 ≥ next_))) (wt rfl rfl rfl (congrArg (fun z => some (Value.bool z)) hg) rfl) rfl (by simp only [f0, f1, f2]; rfl) ?_
          refine st_val (.bool (decide (x0 ≥ next_))) (wn rfl) (r_pickF (congrArg Value.bool hg) rfl) (by simp only [f0, f1, f2]; rfl) ?_
          refine wpList_nil ?_
          exact then_normal ⟨some_us (by simp only [masked, hg, Bool.true_and, Bool.false_and, Bool.true_or, Bool.false_or, cond_true, cond_false]) rfl rfl, rfl⟩
      rintro a0 _ ⟨⟨us1, hF⟩, rfl⟩
      simp only [fillin, Nat.reduceAdd] at hF
      subst hF
      simp only [List.drop_succ_cons, List.drop_zero]
      refine st_val (.bool ((decide (x0 ≤ last)) || (decide (x0 ≥ next_)))) (wn rfl) rfl (by simp only [f0, f1, f2]; rfl) ?_
      refine st_cut 4 (fun a' w' => (∃ us2 : Nat → Value, a' = (⟨(fillin us2 0 (some (Sl.v l) :: some (.int .i64 next_) :: some undef :: some undef :: some ((us 4)) :: some ((us 5)) :: some (.int .i64 last) :: some undef :: some (.pointer (some ⟨b, 0, none⟩)) :: some (Sl.v l) :: some (.int .i64 (↑(Sl.n l) : Int)) :: some (.int .i64 t11) :: some (.bool (decide (t11 < (↑(Sl.n l) : Int)))) :: some (.pointer (some ad)) :: some (.agg #[.int .i64 x0, .int .i64 x1, Sl.v x2, .int .i64 x3]) :: some (.pointer (some ⟨b, 0, none⟩)) :: some (.int .i64 x0) :: some (.int .i64 last) :: some (.bool (decide (x0 ≤ last))) :: some (.bool (decide (x0 ≤ last))) :: some ((us1 20)) :: some ((us1 21)) :: some ((us1 22)) :: some ((us1 23)) :: some (.bool ((decide (x0 ≤ last)) || (decide (x0 ≥ next_)))) :: some (.bool ((decide (x0 ≤ last)) || (decide (x0 ≥ next_)))) :: none :: none :: none :: some (.bool (((decide (x0 ≤ last)) || (decide (x0 ≥ next_))) || (decide (x1 < 0)))) :: some ((us 30)) :: some ((us 31)) :: some ((us 32)) :: some ((us 33)) :: some ((us 34)) :: some ((us 35)) :: some ((us 36)) :: some ((us 37)) :: some ((us 38)) :: some ((us 39)) :: some ((us 40)) :: some ((us 41)) :: some ((us 42)) :: some ((us 43)) :: some ((us 44)) :: some ((us 45)) :: some ((us 46)) :: some ((us 47)) :: some ((us 48)) :: some ((us 49)) :: some ((us 50)) :: some ((us 51)) :: some ((us 52)) :: some ((us 53)) :: some ((us 54)) :: some ((us 55)) :: some ((us 56)) :: some ((us 57)) :: some ((us 58)) :: some ((us 59)) :: some undef :: some undef :: some undef :: some undef :: some undef :: some undef :: some undef :: some undef :: some undef :: some undef :: some undef :: some undef :: some undef :: [])).toArray, []⟩ : Act)) ∧ w_2 = w') ?_ ?_
      · simp only [List.take_succ_cons, List.take_zero]
        rcases Bool.eq_false_or_eq_true ((decide (x0 ≤ last)) || (decide (x0 ≥ next_))) with hg1 | hg1
        · refine st_no (wt rfl rfl rfl (congrArg (fun z => some (Value.bool z)) hg1) rfl) (by simp only [f0, f1, f2]; rfl) ?_
          refine st_no (wt rfl rfl rfl (congrArg (fun z => some (Value.bool z)) hg1) rfl) (by simp only [f0, f1, f2]; rfl) ?_
          refine st_no (wt rfl rfl rfl (congrArg (fun z => some (Value.bool z)) hg1) rfl) (by simp only [f0, f1, f2]; rfl) ?_
          refine st_val (.bool true) (wn rfl) (r_pickT (congrArg Value.bool hg1) rfl) (by simp only [f0, f1, f2]; rfl) ?_
          refine wpList_nil ?_
          exact then_normal ⟨some_us (by simp only [masked, hg1, Bool.true_and, Bool.false_and, Bool.true_or, Bool.false_or, cond_true, cond_false]) rfl rfl, rfl⟩
        · refine st_val (.pointer (some ⟨b, 1, none⟩)) (wt rfl rfl rfl (congrArg (fun z => some (Value.bool z)) hg1) rfl) (r_field (Try.runUnderlying49 _) rfl (Try.sizeOf3 _) rfl rfl) (by simp only [f0, f1, f2]; rfl) ?_
          refine st_val (.int .i64 x1) (wt rfl rfl rfl (congrArg (fun z => some (Value.bool z)) hg1) rfl) (r_load1 (Try.isAgg3 _) rfl (hb1.cell 1)) (by simp only [f0, f1, f2]; rfl) ?_
          refine st_val (.bool (decide (x1 < 0))) (wt rfl rfl rfl (congrArg (fun z => some (Value.bool z)) hg1) rfl) rfl (by simp only [f0, f1, f2]; rfl) ?_
          refine st_val (.bool (decide (x1 < 0))) (wn rfl) (r_pickF (congrArg Value.bool hg1) rfl) (by simp only [f0, f1, f2]; rfl) ?_
          refine wpList_nil ?_
          exact then_normal ⟨some_us (by simp only [masked, hg1, Bool.true_and, Bool.false_and, Bool.true_or, Bool.false_or, cond_true, cond_false]) rfl rfl, rfl⟩
      rintro a0 _ ⟨⟨us2, hF⟩, rfl⟩
      simp only [fillin, Nat.reduceAdd] at hF
      subst hF
      simp only [List.drop_succ_cons, List.drop_zero]
      refine st_val (.bool (((decide (x0 ≤ last)) || (decide (x0 ≥ next_))) || (decide (x1 < 0)))) (wn rfl) rfl (by simp only [f0, f1, f2]; rfl) ?_
      refine st_cut 5 (fun a' w' => (∃ us3 : Nat → Value, a' = (⟨(fillin us3 0 (some (Sl.v l) :: some (.int .i64 next_) :: some undef :: some undef :: some ((us 4)) :: some ((us 5)) :: some (.int .i64 last) :: some undef :: some (.pointer (some ⟨b, 0, none⟩)) :: some (Sl.v l) :: some (.int .i64 (↑(Sl.n l) : Int)) :: some (.int .i64 t11) :: some (.bool (decide (t11 < (↑(Sl.n l) : Int)))) :: some (.pointer (some ad)) :: some (.agg #[.int .i64 x0, .int .i64 x1, Sl.v x2, .int .i64 x3]) :: some (.pointer (some ⟨b, 0, none⟩)) :: some (.int .i64 x0) :: some (.int .i64 last) :: some (.bool (decide (x0 ≤ last))) :: some (.bool (decide (x0 ≤ last))) :: some ((us1 20)) :: some ((us1 21)) :: some ((us1 22)) :: some ((us1 23)) :: some (.bool ((decide (x0 ≤ last)) || (decide (x0 ≥ next_)))) :: some (.bool ((decide (x0 ≤ last)) || (decide (x0 ≥ next_)))) :: some ((us2 26)) :: some ((us2 27)) :: some ((us2 28)) :: some (.bool (((decide (x0 ≤ last)) || (decide (x0 ≥ next_))) || (decide (x1 < 0)))) :: some (.bool (((decide (x0 ≤ last)) || (decide (x0 ≥ next_))) || (decide (x1 < 0)))) :: none :: none :: none :: none :: some (.bool ((((decide (x0 ≤ last)) || (decide (x0 ≥ next_))) || (decide (x1 < 0))) || (decide ((↑(Sl.n x2) : Int) > 65536)))) :: some ((us 36)) :: some ((us 37)) :: some ((us 38)) :: some ((us 39)) :: some ((us 40)) :: some ((us 41)) :: some ((us 42)) :: some ((us 43)) :: some ((us 44)) :: some ((us 45)) :: some ((us 46)) :: some ((us 47)) :: some ((us 48)) :: some ((us 49)) :: some ((us 50)) :: some ((us 51)) :: some ((us 52)) :: some ((us 53)) :: some ((us 54)) :: some ((us 55)) :: some ((us 56)) :: some ((us 57)) :: some ((us 58)) :: some ((us 59)) :: some undef :: some undef :: some undef :: some undef :: some undef :: some undef :: some undef :: some undef :: some undef :: some undef :: some undef :: some undef :: some undef :: [])).toArray, []⟩ : Act)) ∧ w_2 = w') ?_ ?_
      · simp only [List.take_succ_cons, List.take_zero]
        rcases Bool.eq_false_or_eq_true (((decide (x0 ≤ last)) || (decide (x0 ≥ next_))) || (decide (x1 < 0))) with hg2 | hg2
        · refine st_no (wt rfl rfl rfl (congrArg (fun z => some (Value.bool z)) hg2) rfl) (by simp only [f0, f1, f2]; rfl) ?_
          refine st_no (wt rfl rfl rfl (congrArg (fun z => some (Value.bool z)) hg2) rfl) (by simp only [f0, f1, f2]; rfl) ?_
          refine st_no (wt rfl rfl rfl (congrArg (fun z => some (Value.bool z)) hg2) rfl) (by simp only [f0, f1, f2]; rfl) ?_
          refine st_no (wt rfl rfl rfl (congrArg (fun z => some (Value.bool z)) hg2) rfl) (by simp only [f0, f1, f2]; rfl) ?_
          refine st_val (.bool true) (wn rfl) (r_pickT (congrArg Value.bool hg2) rfl) (by simp only [f0, f1, f2]; rfl) ?_
          refine wpList_nil ?_
          exact then_normal ⟨some_us (by simp only [masked, hg2, Bool.true_and, Bool.false_and, Bool.true_or, Bool.false_or, cond_true, cond_false]) rfl rfl, rfl⟩
        · refine st_val (.pointer (some ⟨b, 2, none⟩)) (wt rfl rfl rfl (congrArg (fun z => some (Value.bool z)) hg2) rfl) (r_field (Try.runUnderlying49 _) rfl (Try.sizeOf27 _) rfl rfl) (by simp only [f0, f1, f2]; rfl) ?_
          refine st_val (Sl.v x2) (wt rfl rfl rfl (congrArg (fun z => some (Value.bool z)) hg2) rfl) (r_load1 (Try.isAgg27 _) rfl (hb1.cell 2)) (by simp only [f0, f1, f2]; rfl) ?_
          refine st_val (.int .i64 (↑(Sl.n x2) : Int)) (wt rfl rfl rfl (congrArg (fun z => some (Value.bool z)) hg2) rfl) (r_len (s := x2) (Try.runUnderlying27 _) rfl) (by simp only [f0, f1, f2]; rfl) ?_
          refine st_val (.bool (decide ((↑(Sl.n x2) : Int) > 65536))) (wt rfl rfl rfl (congrArg (fun z => some (Value.bool z)) hg2) rfl) rfl (by simp only [f0, f1, f2]; rfl) ?_
          refine st_val (.bool (decide ((↑(Sl.n x2) : Int) > 65536))) (wn rfl) (r_pickF (congrArg Value.bool hg2) rfl) (by simp only [f0, f1, f2]; rfl) ?_
          refine wpList_nil ?_
          exact then_normal ⟨some_us (by simp only [masked, hg2, Bool.true_and, Bool.false_and, Bool.true_or, Bool.false_or, cond_true, cond_false]) rfl rfl, rfl⟩
      rintro a0 _ ⟨⟨us3, hF⟩, rfl⟩
      simp only [fillin, Nat.reduceAdd] at hF
      subst hF
      simp only [List.drop_succ_cons, List.drop_zero]
      refine st_val (.bool ((((decide (x0 ≤ last)) || (decide (x0 ≥ next_))) || (decide (x1 < 0))) || (decide ((↑(Sl.n x2) : Int) > 65536)))) (wn rfl) rfl (by simp only [f0, f1, f2]; rfl) ?_
      refine st_cut 10 (fun a' w' => (∃ us4 : Nat → Value, a' = (⟨(fillin us4 0 (some (Sl.v l) :: some (.int .i64 next_) :: some undef :: some undef :: some ((us 4)) :: some ((us 5)) :: some (.int .i64 last) :: some undef :: some (.pointer (some ⟨b, 0, none⟩)) :: some (Sl.v l) :: some (.int .i64 (↑(Sl.n l) : Int)) :: some (.int .i64 t11) :: some (.bool (decide (t11 < (↑(Sl.n l) : Int)))) :: some (.pointer (some ad)) :: some (.agg #[.int .i64 x0, .int .i64 x1, Sl.v x2, .int .i64 x3]) :: some (.pointer (some ⟨b, 0, none⟩)) :: some (.int .i64 x0) :: some (.int .i64 last) :: some (.bool (decide (x0 ≤ last))) :: some (.bool (decide (x0 ≤ last))) :: some ((us1 20)) :: some ((us1 21)) :: some ((us1 22)) :: some ((us1 23)) :: some (.bool ((decide (x0 ≤ last)) || (decide (x0 ≥ next_)))) :: some (.bool ((decide (x0 ≤ last)) || (decide (x0 ≥ next_)))) :: some ((us2 26)) :: some ((us2 27)) :: some ((us2 28)) :: some (.bool (((decide (x0 ≤ last)) || (decide (x0 ≥ next_))) || (decide (x1 < 0)))) :: some (.bool (((decide (x0 ≤ last)) || (decide (x0 ≥ next_))) || (decide (x1 < 0)))) :: some ((us3 31)) :: some ((us3 32)) :: some ((us3 33)) :: some ((us3 34)) :: some (.bool ((((decide (x0 ≤ last)) || (decide (x0 ≥ next_))) || (decide (x1 < 0))) || (decide ((↑(Sl.n x2) : Int) > 65536)))) :: some (.bool ((((decide (x0 ≤ last)) || (decide (x0 ≥ next_))) || (decide (x1 < 0))) || (decide ((↑(Sl.n x2) : Int) > 65536)))) :: none :: none :: none :: none :: none :: none :: none :: none :: none :: some (.bool (((((decide (x0 ≤ last)) || (decide (x0 ≥ next_))) || (decide (x1 < 0))) || (decide ((↑(Sl.n x2) : Int) > 65536))) || ((x1 == 0) && (decide ((↑(Sl.n x2) : Int) > 0))))) :: some ((us 47)) :: some ((us 48)) :: some ((us 49)) :: some ((us 50)) :: some ((us 51)) :: some ((us 52)) :: some ((us 53)) :: some ((us 54)) :: some ((us 55)) :: some ((us 56)) :: some ((us 57)) :: some ((us 58)) :: some ((us 59)) :: some undef :: some undef :: some undef :: some undef :: some undef :: some undef :: some undef :: some undef :: some undef :: some undef :: some undef :: some undef :: some undef :: [])).toArray, []⟩ : Act)) ∧ w_2 = w') ?_ ?_
      · simp only [List.take_succ_cons, List.take_zero]
        rcases Bool.eq_false_or_eq_true ((((decide (x0 ≤ last)) || (decide (x0 ≥ next_))) || (decide (x1 < 0))) || (decide ((↑(Sl.n x2) : Int) > 65536))) with hg3 | hg3
        · refine st_no (wt rfl rfl rfl (congrArg (fun z => some (Value.bool z)) hg3) rfl) (by simp only [f0, f1, f2]; rfl) ?_
          refine st_no (wt rfl rfl rfl (congrArg (fun z => some (Value.bool z)) hg3) rfl) (by simp only [f0, f1, f2]; rfl) ?_
          refine st_no (wt rfl rfl rfl (congrArg (fun z => some (Value.bool z)) hg3) rfl) (by simp only [f0, f1, f2]; rfl) ?_
          refine st_no (wt rfl rfl rfl (congrArg (fun z => some (Value.bool z)) hg3) rfl) (by simp only [f0, f1, f2]; rfl) ?_
          refine st_no (wu rfl rfl rfl rfl) (by simp only [f0, f1, f2]; rfl) ?_
          refine st_no (wu rfl rfl rfl rfl) (by simp only [f0, f1, f2]; rfl) ?_
          refine st_no (wu rfl rfl rfl rfl) (by simp only [f0, f1, f2]; rfl) ?_
          refine st_no (wu rfl rfl rfl rfl) (by simp only [f0, f1, f2]; rfl) ?_
          refine st_no (wt rfl rfl rfl (congrArg (fun z => some (Value.bool z)) hg3) rfl) (by simp only [f0, f1, f2]; rfl) ?_
          refine st_val (.bool true) (wn rfl) (r_pickT (congrArg Value.bool hg3) rfl) (by simp only [f0, f1, f2]; rfl) ?_
          refine wpList_nil ?_
          exact then_normal ⟨some_us (by simp only [masked, hg3, Bool.true_and, Bool.false_and, Bool.true_or, Bool.false_or, cond_true, cond_false]) rfl rfl, rfl⟩
        · refine st_val (.pointer (some ⟨b, 1, none⟩)) (wt rfl rfl rfl (congrArg (fun z => some (Value.bool z)) hg3) rfl) (r_field (Try.runUnderlying49 _) rfl (Try.sizeOf3 _) rfl rfl) (by simp only [f0, f1, f2]; rfl) ?_
          refine st_val (.int .i64 x1) (wt rfl rfl rfl (congrArg (fun z => some (Value.bool z)) hg3) rfl) (r_load1 (Try.isAgg3 _) rfl (hb1.cell 1)) (by simp only [f0, f1, f2]; rfl) ?_
          refine st_val (.bool (x1 == 0)) (wt rfl rfl rfl (congrArg (fun z => some (Value.bool z)) hg3) rfl) rfl (by simp only [f0, f1, f2]; rfl) ?_
          refine st_val (.bool (x1 == 0)) (wt rfl rfl rfl (congrArg (fun z => some (Value.bool z)) hg3) rfl) rfl (by simp only [f0, f1, f2]; rfl) ?_
          refine st_cut 5 (fun a' w' => (∃ us5 : Nat → Value, a' = (⟨(fillin us5 0 (some (Sl.v l) :: some (.int .i64 next_) :: some undef :: some undef :: some ((us 4)) :: some ((us 5)) :: some (.int .i64 last) :: some undef :: some (.pointer (some ⟨b, 0, none⟩)) :: some (Sl.v l) :: some (.int .i64 (↑(Sl.n l) : Int)) :: some (.int .i64 t11) :: some (.bool (decide (t11 < (↑(Sl.n l) : Int)))) :: some (.pointer (some ad)) :: some (.agg #[.int .i64 x0, .int .i64 x1, Sl.v x2, .int .i64 x3]) :: some (.pointer (some ⟨b, 0, none⟩)) :: some (.int .i64 x0) :: some (.int .i64 last) :: some (.bool (decide (x0 ≤ last))) :: some (.bool (decide (x0 ≤ last))) :: some ((us1 20)) :: some ((us1 21)) :: some ((us1 22)) :: some ((us1 23)) :: some (.bool ((decide (x0 ≤ last)) || (decide (x0 ≥ next_)))) :: some (.bool ((decide (x0 ≤ last)) || (decide (x0 ≥ next_)))) :: some ((us2 26)) :: some ((us2 27)) :: some ((us2 28)) :: some (.bool (((decide (x0 ≤ last)) || (decide (x0 ≥ next_))) || (decide (x1 < 0)))) :: some (.bool (((decide (x0 ≤ last)) || (decide (x0 ≥ next_))) || (decide (x1 < 0)))) :: some ((us3 31)) :: some ((us3 32)) :: some ((us3 33)) :: some ((us3 34)) :: some (.bool ((((decide (x0 ≤ last)) || (decide (x0 ≥ next_))) || (decide (x1 < 0))) || (decide ((↑(Sl.n x2) : Int) > 65536)))) :: some (.bool ((((decide (x0 ≤ last)) || (decide (x0 ≥ next_))) || (decide (x1 < 0))) || (decide ((↑(Sl.n x2) : Int) > 65536)))) :: some (.pointer (some ⟨b, 1, none⟩)) :: some (.int .i64 x1) :: some (.bool (x1 == 0)) :: some (.bool (x1 == 0)) :: none :: none :: none :: none :: some (.bool ((x1 == 0) && (decide ((↑(Sl.n x2) : Int) > 0)))) :: some ((us 46)) :: some ((us 47)) :: some ((us 48)) :: some ((us 49)) :: some ((us 50)) :: some ((us 51)) :: some ((us 52)) :: some ((us 53)) :: some ((us 54)) :: some ((us 55)) :: some ((us 56)) :: some ((us 57)) :: some ((us 58)) :: some ((us 59)) :: some undef :: some undef :: some undef :: some undef :: some undef :: some undef :: some undef :: some undef :: some undef :: some undef :: some undef :: some undef :: some undef :: [])).toArray, []⟩ : Act)) ∧ w_2 = w') ?_ ?_
          · simp only [List.take_succ_cons, List.take_zero]
            rcases Bool.eq_false_or_eq_true (x1 == 0) with hg4 | hg4
            · refine st_val (.pointer (some ⟨b, 2, none⟩)) (wt rfl rfl rfl (congrArg (fun z => some (Value.bool z)) hg4) rfl) (r_field (Try.runUnderlying49 _) rfl (Try.sizeOf27 _) rfl rfl) (by simp only [f0, f1, f2]; rfl) ?_
              refine st_val (Sl.v x2) (wt rfl rfl rfl (congrArg (fun z => some (Value.bool z)) hg4) rfl) (r_load1 (Try.isAgg27 _) rfl (hb1.cell 2)) (by simp only [f0, f1, f2]; rfl) ?_
              refine st_val (.int .i64 (↑(Sl.n x2) : Int)) (wt rfl rfl rfl (congrArg (fun z => some (Value.bool z)) hg4) rfl) (r_len (s := x2) (Try.runUnderlying27 _) rfl) (by simp only [f0, f1, f2]; rfl) ?_
              refine st_val (.bool (decide ((↑(Sl.n x2) : Int) > 0))) (wt rfl rfl rfl (congrArg (fun z => some (Value.bool z)) hg4) rfl) rfl (by simp only [f0, f1, f2]; rfl) ?_
              refine st_val (.bool (decide ((↑(Sl.n x2) : Int) > 0))) (wt rfl rfl rfl (congrArg (fun z => some (Value.bool z)) hg3) rfl) (r_pickT (congrArg Value.bool hg4) rfl) (by simp only [f0, f1, f2]; rfl) ?_
              refine wpList_nil ?_
              exact then_normal ⟨some_us (by simp only [masked, hg4, Bool.true_and, Bool.false_and, Bool.true_or, Bool.false_or, cond_true, cond_false]) rfl rfl, rfl⟩
            · refine st_no (wt rfl rfl rfl (congrArg (fun z => some (Value.bool z)) hg4) rfl) (by simp only [f0, f1, f2]; rfl) ?_
              refine st_no (wt rfl rfl rfl (congrArg (fun z => some (Value.bool z)) hg4) rfl) (by simp only [f0, f1, f2]; rfl) ?_
              refine st_no (wt rfl rfl rfl (congrArg (fun z => some (Value.bool z)) hg4) rfl) (by simp only [f0, f1, f2]; rfl) ?_
              refine st_no (wt rfl rfl rfl (congrArg (fun z => some (Value.bool z)) hg4) rfl) (by simp only [f0, f1, f2]; rfl) ?_
              refine st_val (.bool false) (wt rfl rfl rfl (congrArg (fun z => some (Value.bool z)) hg3) rfl) (r_pickF (congrArg Value.bool hg4) rfl) (by simp only [f0, f1, f2]; rfl) ?_
              refine wpList_nil ?_
              exact then_normal ⟨some_us (by simp only [masked, hg4, Bool.true_and, Bool.false_and, Bool.true_or, Bool.false_or, cond_true, cond_false]) rfl rfl, rfl⟩
          rintro a0 _ ⟨⟨us5, hF⟩, rfl⟩
          simp only [fillin, Nat.reduceAdd] at hF
          subst hF
          simp only [List.drop_succ_cons, List.drop_zero]
          refine st_val (.bool ((x1 == 0) && (decide ((↑(Sl.n x2) : Int) > 0)))) (wn rfl) (r_pickF (congrArg Value.bool hg3) rfl) (by simp only [f0, f1, f2]; rfl) ?_
          refine wpList_nil ?_
          exact then_normal ⟨some_us (by simp only [masked, hg3, Bool.true_and, Bool.false_and, Bool.true_or, Bool.false_or, cond_true, cond_false]) rfl rfl, rfl⟩
      rintro a0 _ ⟨⟨us4, hF⟩, rfl⟩
      simp only [fillin, Nat.reduceAdd] at hF
      subst hF
      simp only [List.drop_succ_cons, List.drop_zero]
      refine st_val (.bool (((((decide (x0 ≤ last)) || (decide (x0 ≥ next_))) || (decide (x1 < 0))) || (decide ((↑(Sl.n x2) : Int) > 65536))) || ((x1 == 0) && (decide ((↑(Sl.n x2) : Int) > 0))))) (wn rfl) rfl (by simp only [f0, f1, f2]; rfl) ?_
      refine st_cut 4 (fun a' w' => (∃ us6 : Nat → Value, a' = (⟨(fillin us6 0 (some (Sl.v l) :: some (.int .i64 next_) :: some undef :: some undef :: some ((us 4)) :: some ((us 5)) :: some (.int .i64 last) :: some undef :: some (.pointer (some ⟨b, 0, none⟩)) :: some (Sl.v l) :: some (.int .i64 (↑(Sl.n l) : Int)) :: some (.int .i64 t11) :: some (.bool (decide (t11 < (↑(Sl.n l) : Int)))) :: some (.pointer (some ad)) :: some (.agg #[.int .i64 x0, .int .i64 x1, Sl.v x2, .int .i64 x3]) :: some (.pointer (some ⟨b, 0, none⟩)) :: some (.int .i64 x0) :: some (.int .i64 last) :: some (.bool (decide (x0 ≤ last))) :: some (.bool (decide (x0 ≤ last))) :: some ((us1 20)) :: some ((us1 21)) :: some ((us1 22)) :: some ((us1 23)) :: some (.bool ((decide (x0 ≤ last)) || (decide (x0 ≥ next_)))) :: some (.bool ((decide (x0 ≤ last)) || (decide (x0 ≥ next_)))) :: some ((us2 26)) :: some ((us2 27)) :: some ((us2 28)) :: some (.bool (((decide (x0 ≤ last)) || (decide (x0 ≥ next_))) || (decide (x1 < 0)))) :: some (.bool (((decide (x0 ≤ last)) || (decide (x0 ≥ next_))) || (decide (x1 < 0)))) :: some ((us3 31)) :: some ((us3 32)) :: some ((us3 33)) :: some ((us3 34)) :: some (.bool ((((decide (x0 ≤ last)) || (decide (x0 ≥ next_))) || (decide (x1 < 0))) || (decide ((↑(Sl.n x2) : Int) > 65536)))) :: some (.bool ((((decide (x0 ≤ last)) || (decide (x0 ≥ next_))) || (decide (x1 < 0))) || (decide ((↑(Sl.n x2) : Int) > 65536)))) :: some ((us4 37)) :: some ((us4 38)) :: some ((us4 39)) :: some ((us4 40)) :: some ((us4 41)) :: some ((us4 42)) :: some ((us4 43)) :: some ((us4 44)) :: some ((us4 45)) :: some (.bool (((((decide (x0 ≤ last)) || (decide (x0 ≥ next_))) || (decide (x1 < 0))) || (decide ((↑(Sl.n x2) : Int) > 65536))) || ((x1 == 0) && (decide ((↑(Sl.n x2) : Int) > 0))))) :: some (.bool (((((decide (x0 ≤ last)) || (decide (x0 ≥ next_))) || (decide (x1 < 0))) || (decide ((↑(Sl.n x2) : Int) > 65536))) || ((x1 == 0) && (decide ((↑(Sl.n x2) : Int) > 0))))) :: none :: none :: none :: some (.bool ((((((decide (x0 ≤ last)) || (decide (x0 ≥ next_))) || (decide (x1 < 0))) || (decide ((↑(Sl.n x2) : Int) > 65536))) || ((x1 == 0) && (decide ((↑(Sl.n x2) : Int) > 0)))) || (decide (x3 < 0)))) :: some ((us 52)) :: some ((us 53)) :: some ((us 54)) :: some ((us 55)) :: some ((us 56)) :: some ((us 57)) :: some ((us 58)) :: some ((us 59)) :: some undef :: some undef :: some undef :: some undef :: some undef :: some undef :: some undef :: some undef :: some undef :: some undef :: some undef :: some undef :: some undef :: [])).toArray, []⟩ : Act)) ∧ w_2 = w') ?_ ?_
      · simp only [List.take_succ_cons, List.take_zero]
        rcases Bool.eq_false_or_eq_true (((((decide (x0 ≤ last)) || (decide (x0 ≥ next_))) || (decide (x1 < 0))) || (decide ((↑(Sl.n x2) : Int) > 65536))) || ((x1 == 0) && (decide ((↑(Sl.n x2) : Int) > 0)))) with hg5 | hg5
        · refine st_no (wt rfl rfl rfl (congrArg (fun z => some (Value.bool z)) hg5) rfl) (by simp only [f0, f1, f2]; rfl) ?_
          refine st_no (wt rfl rfl rfl (congrArg (fun z => some (Value.bool z)) hg5) rfl) (by simp only [f0, f1, f2]; rfl) ?_
          refine st_no (wt rfl rfl rfl (congrArg (fun z => some (Value.bool z)) hg5) rfl) (by simp only [f0, f1, f2]; rfl) ?_
          refine st_val (.bool true) (wn rfl) (r_pickT (congrArg Value.bool hg5) rfl) (by simp only [f0, f1, f2]; rfl) ?_
          refine wpList_nil ?_
          exact then_normal ⟨some_us (by simp only [masked, hg5, Bool.true_and, Bool.false_and, Bool.true_or, Bool.false_or, cond_true, cond_false]) rfl rfl, rfl⟩
        · refine st_val (.pointer (some ⟨b, 3, none⟩)) (wt rfl rfl rfl (congrArg (fun z => some (Value.bool z)) hg5) rfl) (r_field (Try.runUnderlying49 _) rfl (Try.sizeOf3 _) rfl rfl) (by simp only [f0, f1, f2]; rfl) ?_
          refine st_val (.int .i64 x3) (wt rfl rfl rfl (congrArg (fun z => some (Value.bool z)) hg5) rfl) (r_load1 (Try.isAgg3 _) rfl (hb1.cell 3)) (by simp only [f0, f1, f2]; rfl) ?_
          refine st_val (.bool (decide (x3 < 0))) (wt rfl rfl rfl (congrArg (fun z => some (Value.bool z)) hg5) rfl) rfl (by simp only [f0, f1, f2]; rfl) ?_
          refine st_val (.bool (decide (x3 < 0))) (wn rfl) (r_pickF (congrArg Value.bool hg5) rfl) (by simp only [f0, f1, f2]; rfl) ?_
          refine wpList_nil ?_
          exact then_normal ⟨some_us (by simp only [masked, hg5, Bool.true_and, Bool.false_and, Bool.true_or, Bool.false_or, cond_true, cond_false]) rfl rfl, rfl⟩
      rintro a0 _ ⟨⟨us6, hF⟩, rfl⟩
      simp only [fillin, Nat.reduceAdd] at hF
      subst hF
      simp only [List.drop_succ_cons, List.drop_zero]
      refine st_val (.bool ((((((decide (x0 ≤ last)) || (decide (x0 ≥ next_))) || (decide (x1 < 0))) || (decide ((↑(Sl.n x2) : Int) > 65536))) || ((x1 == 0) && (decide ((↑(Sl.n x2) : Int) > 0)))) || (decide (x3 < 0)))) (wn rfl) rfl (by simp only [f0, f1, f2]; rfl) ?_
      refine st_cut 4 (fun a' w' => (∃ us7 : Nat → Value, a' = (⟨(fillin us7 0 (some (Sl.v l) :: some (.int .i64 next_) :: some undef :: some undef :: some ((us 4)) :: some ((us 5)) :: some (.int .i64 last) :: some undef :: some (.pointer (some ⟨b, 0, none⟩)) :: some (Sl.v l) :: some (.int .i64 (↑(Sl.n l) : Int)) :: some (.int .i64 t11) :: some (.bool (decide (t11 < (↑(Sl.n l) : Int)))) :: some (.pointer (some ad)) :: some (.agg #[.int .i64 x0, .int .i64 x1, Sl.v x2, .int .i64 x3]) :: some (.pointer (some ⟨b, 0, none⟩)) :: some (.int .i64 x0) :: some (.int .i64 last) :: some (.bool (decide (x0 ≤ last))) :: some (.bool (decide (x0 ≤ last))) :: some ((us1 20)) :: some ((us1 21)) :: some ((us1 22)) :: some ((us1 23)) :: some (.bool ((decide (x0 ≤ last)) || (decide (x0 ≥ next_)))) :: some (.bool ((decide (x0 ≤ last)) || (decide (x0 ≥ next_)))) :: some ((us2 26)) :: some ((us2 27)) :: some ((us2 28)) :: some (.bool (((decide (x0 ≤ last)) || (decide (x0 ≥ next_))) || (decide (x1 < 0)))) :: some (.bool (((decide (x0 ≤ last)) || (decide (x0 ≥ next_))) || (decide (x1 < 0)))) :: some ((us3 31)) :: some ((us3 32)) :: some ((us3 33)) :: some ((us3 34)) :: some (.bool ((((decide (x0 ≤ last)) || (decide (x0 ≥ next_))) || (decide (x1 < 0))) || (decide ((↑(Sl.n x2) : Int) > 65536)))) :: some (.bool ((((decide (x0 ≤ last)) || (decide (x0 ≥ next_))) || (decide (x1 < 0))) || (decide ((↑(Sl.n x2) : Int) > 65536)))) :: some ((us4 37)) :: some ((us4 38)) :: some ((us4 39)) :: some ((us4 40)) :: some ((us4 41)) :: some ((us4 42)) :: some ((us4 43)) :: some ((us4 44)) :: some ((us4 45)) :: some (.bool (((((decide (x0 ≤ last)) || (decide (x0 ≥ next_))) || (decide (x1 < 0))) || (decide ((↑(Sl.n x2) : Int) > 65536))) || ((x1 == 0) && (decide ((↑(Sl.n x2) : Int) > 0))))) :: some (.bool (((((decide (x0 ≤ last)) || (decide (x0 ≥ next_))) || (decide (x1 < 0))) || (decide ((↑(Sl.n x2) : Int) > 65536))) || ((x1 == 0) && (decide ((↑(Sl.n x2) : Int) > 0))))) :: some ((us6 48)) :: some ((us6 49)) :: some ((us6 50)) :: some (.bool ((((((decide (x0 ≤ last)) || (decide (x0 ≥ next_))) || (decide (x1 < 0))) || (decide ((↑(Sl.n x2) : Int) > 65536))) || ((x1 == 0) && (decide ((↑(Sl.n x2) : Int) > 0)))) || (decide (x3 < 0)))) :: some (.bool ((((((decide (x0 ≤ last)) || (decide (x0 ≥ next_))) || (decide (x1 < 0))) || (decide ((↑(Sl.n x2) : Int) > 65536))) || ((x1 == 0) && (decide ((↑(Sl.n x2) : Int) > 0)))) || (decide (x3 < 0)))) :: none :: none :: none :: some (.bool (((((((decide (x0 ≤ last)) || (decide (x0 ≥ next_))) || (decide (x1 < 0))) || (decide ((↑(Sl.n x2) : Int) > 65536))) || ((x1 == 0) && (decide ((↑(Sl.n x2) : Int) > 0)))) || (decide (x3 < 0))) || (decide (x3 > 1099511627826)))) :: some ((us 57)) :: some ((us 58)) :: some ((us 59)) :: some undef :: some undef :: some undef :: some undef :: some undef :: some undef :: some undef :: some undef :: some undef :: some undef :: some undef :: some undef :: some undef :: [])).toArray, []⟩ : Act)) ∧ w_2 = w') ?_ ?_
      · simp only [List.take_succ_cons, List.take_zero]
        rcases Bool.eq_false_or_eq_true ((((((decide (x0 ≤ last)) || (decide (x0 ≥ next_))) || (decide (x1 < 0))) || (decide ((↑(Sl.n x2) : Int) > 65536))) || ((x1 == 0) && (decide ((↑(Sl.n x2) : Int) > 0)))) || (decide (x3 < 0))) with hg6 | hg6
        · refine st_no (wt rfl rfl rfl (congrArg (fun z => some (Value.bool z)) hg6) rfl) (by simp only [f0, f1, f2]; rfl) ?_
          refine st_no (wt rfl rfl rfl (congrArg (fun z => some (Value.bool z)) hg6) rfl) (by simp only [f0, f1, f2]; rfl) ?_
          refine st_no (wt rfl rfl rfl (congrArg (fun z => some (Value.bool z)) hg6) rfl) (by simp only [f0, f1, f2]; rfl) ?_
          refine st_val (.bool true) (wn rfl) (r_pickT (congrArg Value.bool hg6) rfl) (by simp only [f0, f1, f2]; rfl) ?_
          refine wpList_nil ?_
          exact then_normal ⟨some_us (by simp only [masked, hg6, Bool.true_and, Bool.false_and, Bool.true_or, Bool.false_or, cond_true, cond_false]) rfl rfl, rfl⟩
        · refine st_val (.pointer (some ⟨b, 3, none⟩)) (wt rfl rfl rfl (congrArg (fun z => some (Value.bool z)) hg6) rfl) (r_field (Try.runUnderlying49 _) rfl (Try.sizeOf3 _) rfl rfl) (by simp only [f0, f1, f2]; rfl) ?_
          refine st_val (.int .i64 x3) (wt rfl rfl rfl (congrArg (fun z => some (Value.bool z)) hg6) rfl) (r_load1 (Try.isAgg3 _) rfl (hb1.cell 3)) (by simp only [f0, f1, f2]; rfl) ?_
          refine st_val (.bool (decide (x3 > 1099511627826))) (wt rfl rfl rfl (congrArg (fun z => some (Value.bool z)) hg6) rfl) rfl (by simp only [f0, f1, f2]; rfl) ?_
          refine st_val (.bool (decide (x3 > 1099511627826))) (wn rfl) (r_pickF (congrArg Value.bool hg6) rfl) (by simp only [f0, f1, f2]; rfl) ?_
          refine wpList_nil ?_
          exact then_normal ⟨some_us (by simp only [masked, hg6, Bool.true_and, Bool.false_and, Bool.true_or, Bool.false_or, cond_true, cond_false]) rfl rfl, rfl⟩
      rintro a0 _ ⟨⟨us7, hF⟩, rfl⟩
      simp only [fillin, Nat.reduceAdd] at hF
      subst hF
      simp only [List.drop_succ_cons, List.drop_zero]
      refine wpList_nil ?_
      refine then_normal ?_
      refine wp_cond_split (t := (((((((decide (x0 ≤ last)) || (decide (x0 ≥ next_))) || (decide (x1 < 0))) || (decide ((↑(Sl.n x2) : Int) > 65536))) || ((x1 == 0) && (decide ((↑(Sl.n x2) : Int) > 0)))) || (decide (x3 < 0))) || (decide (x3 > 1099511627826)))) rfl (fun hc1 => ?_) (fun hc1 => ?_)
      · replace h := h.1 hc1
        refine wp_seq ?_
        refine wp_region_lit ?_
        refine st_val (.pointer none) (wn rfl) rfl (by simp only [f0, f1, f2]; rfl) ?_
        refine st_val (.int .i64 1) (wn rfl) rfl (by simp only [f0, f1, f2]; rfl) ?_
        refine wpList_nil ?_
        refine then_normal ?_
        refine wp_ret ?_
        refine then_ret ?_
        refine block_ret ?_
        refine then_ret ?_
        refine then_ret ?_
        refine block_ret ?_
        refine then_ret ?_
        replace h := h b w_2 hn_b hb1.lt hA1
        exact end_ret (r_resN (vs := [.pointer none, .int .i64 1]) Try.results17 rfl ⟨rfl, rfl, trivial⟩) rfl h
      · replace h := h.2 hc1
        refine wp_skip ?_
        refine then_normal ?_
        refine wp_region_lit ?_
        refine st_val (.pointer (some ⟨b, 0, none⟩)) (wn rfl) (r_field (Try.runUnderlying49 _) rfl (Try.sizeOf3 _) rfl rfl) (by simp only [f0, f1, f2]; rfl) ?_
        refine st_val (.int .i64 x0) (wn rfl) (r_load1 (Try.isAgg3 _) rfl (hb1.cell 0)) (by simp only [f0, f1, f2]; rfl) ?_
        refine st_val (.int .i64 x0) (wn rfl) rfl (by simp only [f0, f1, f2]; rfl) ?_
        refine wpList_nil ?_
        refine block_normal ?_
        refine then_normal ?_
        refine wp_region_lit ?_
        refine st_val (.int .i64 (IntKind.i64.wrap (t11 + 1))) (wn rfl) rfl (by simp only [f0, f1, f2]; rfl) ?_
        refine st_val (.int .i64 (IntKind.i64.wrap (t11 + 1))) (wn rfl) rfl (by simp only [f0, f1, f2]; rfl) ?_
        refine wpList_nil ?_
        refine then_normal ?_
        replace h := h b w_2 hn_b hb1.lt hA1
        obtain ⟨nv2, hl, h⟩ := h
        exact ⟨nv2, hl, _, _, (some_us rfl rfl rfl), h⟩
    · replace h := h.2 hc
      refine wp_exit ?_
      refine then_exit ?_
      refine then_exit ?_
      refine block_hit ?_
      refine then_normal ?_
      refine wp_seq ?_
      refine wp_seq ?_
      refine wp_region_lit ?_
      refine st_val (Sl.v l) (wn rfl) rfl (by simp only [f0, f1, f2]; rfl) ?_
      refine st_val (.int .i64 (↑(Sl.n l) : Int)) (wn rfl) (r_len (s := l) (Try.runUnderlying42 _) rfl) (by simp only [f0, f1, f2]; rfl) ?_
      refine st_val (.bool (decide ((↑(Sl.n l) : Int) > 8))) (wn rfl) rfl (by simp only [f0, f1, f2]; rfl) ?_
      refine st_val (.bool (decide ((↑(Sl.n l) : Int) > 8))) (wn rfl) rfl (by simp only [f0, f1, f2]; rfl) ?_
      refine st_cut 3 (fun a' w' => (∃ us8 : Nat → Value, a' = (⟨(fillin us8 0 (some (Sl.v l) :: some (.int .i64 next_) :: some undef :: some undef :: some ((us 4)) :: some ((us 5)) :: some (.int .i64 last) :: some undef :: some ((us 8)) :: some (Sl.v l) :: some (.int .i64 (↑(Sl.n l) : Int)) :: some (.int .i64 t11) :: some (.bool (decide (t11 < (↑(Sl.n l) : Int)))) :: some ((us 13)) :: some ((us 14)) :: some ((us 15)) :: some ((us 16)) :: some ((us 17)) :: some ((us 18)) :: some ((us 19)) :: some ((us 20)) :: some ((us 21)) :: some ((us 22)) :: some ((us 23)) :: some ((us 24)) :: some ((us 25)) :: some ((us 26)) :: some ((us 27)) :: some ((us 28)) :: some ((us 29)) :: some ((us 30)) :: some ((us 31)) :: some ((us 32)) :: some ((us 33)) :: some ((us 34)) :: some ((us 35)) :: some ((us 36)) :: some ((us 37)) :: some ((us 38)) :: some ((us 39)) :: some ((us 40)) :: some ((us 41)) :: some ((us 42)) :: some ((us 43)) :: some ((us 44)) :: some ((us 45)) :: some ((us 46)) :: some ((us 47)) :: some ((us 48)) :: some ((us 49)) :: some ((us 50)) :: some ((us 51)) :: some ((us 52)) :: some ((us 53)) :: some ((us 54)) :: some ((us 55)) :: some ((us 56)) :: some ((us 57)) :: some ((us 58)) :: some ((us 59)) :: some (Sl.v l) :: some (.int .i64 (↑(Sl.n l) : Int)) :: some (.bool (decide ((↑(Sl.n l) : Int) > 8))) :: some (.bool (decide ((↑(Sl.n l) : Int) > 8))) :: none :: none :: some (.bool ((decide ((↑(Sl.n l) : Int) > 8)) || (decide (next_ < 1)))) :: some undef :: some undef :: some undef :: some undef :: some undef :: some undef :: [])).toArray, []⟩ : Act)) ∧ w_ = w') ?_ ?_
      · simp only [List.take_succ_cons, List.take_zero]
        rcases Bool.eq_false_or_eq_true (decide ((↑(Sl.n l) : Int) > 8)) with hg7 | hg7
        · refine st_no (wt rfl rfl rfl (congrArg (fun z => some (Value.bool z)) hg7) rfl) (by simp only [f0, f1, f2]; rfl) ?_
          refine st_no (wt rfl rfl rfl (congrArg (fun z => some (Value.bool z)) hg7) rfl) (by simp only [f0, f1, f2]; rfl) ?_
          refine st_val (.bool true) (wn rfl) (r_pickT (congrArg Value.bool hg7) rfl) (by simp only [f0, f1, f2]; rfl) ?_
          refine wpList_nil ?_
          exact then_normal ⟨some_us (by simp only [masked, hg7, Bool.true_and, Bool.false_and, Bool.true_or, Bool.false_or, cond_true, cond_false]) rfl rfl, rfl⟩
        · refine st_val (.int .i64 next_) (wt rfl rfl rfl (congrArg (fun z => some (Value.bool z)) hg7) rfl) rfl (by simp only [f0, f1, f2]; rfl) ?_
          refine st_val (.bool (decide (next_ < 1))) (wt rfl rfl rfl (congrArg (fun z => some (Value.bool z)) hg7) rfl) rfl (by simp only [f0, f1, f2]; rfl) ?_
          refine st_val (.bool (decide (next_ < 1))) (wn rfl) (r_pickF (congrArg Value.bool hg7) rfl) (by simp only [f0, f1, f2]; rfl) ?_
          refine wpList_nil ?_
          exact then_normal ⟨some_us (by simp only [masked, hg7, Bool.true_and, Bool.false_and, Bool.true_or, Bool.false_or, cond_true, cond_false]) rfl rfl, rfl⟩
      rintro a0 _ ⟨⟨us8, hF⟩, rfl⟩
      simp only [fillin, Nat.reduceAdd] at hF
      subst hF
      simp only [List.drop_succ_cons, List.drop_zero]
      refine wpList_nil ?_
      refine then_normal ?_
      refine wp_cond_split (t := ((decide ((↑(Sl.n l) : Int) > 8)) || (decide (next_ < 1)))) rfl (fun hc2 => ?_) (fun hc2 => ?_)
      · replace h := h.1 hc2
        refine wp_seq ?_
        refine wp_region_lit ?_
        refine st_val (.pointer none) (wn rfl) rfl (by simp only [f0, f1, f2]; rfl) ?_
        refine st_val (.int .i64 1) (wn rfl) rfl (by simp only [f0, f1, f2]; rfl) ?_
        refine wpList_nil ?_
        refine then_normal ?_
        refine wp_ret ?_
        refine then_ret ?_
        exact end_ret (r_resN (vs := [.pointer none, .int .i64 1]) Try.results17 rfl ⟨rfl, rfl, trivial⟩) rfl h
      · replace h := h.2 hc2
        refine wp_skip ?_
        refine then_normal ?_
        refine wp_seq ?_
        refine wp_region_lit ?_
        refine st_val (Sl.v l) (wn rfl) rfl (by simp only [f0, f1, f2]; rfl) ?_
        refine st_one (wn rfl) ?_
        refine o_enter (args := #[Sl.v l]) (r_enter Try.call33 rfl) (h.mono ?_)
        clear h
        rintro _ w_3 ⟨x4, rfl, h⟩
        refine ⟨_, _, rfl, (by simp only [f0, f1, f2]; rfl), ?_⟩
        refine st_val (.agg #[Sl.v x4]) (wn rfl) (r_build (ps' := [(0, Sl.v x4)]) rfl (by kernel_rfl)) (by simp only [f0, f1, f2]; rfl) ?_
        refine st_val (.int .i64 next_) (wn rfl) rfl (by simp only [f0, f1, f2]; rfl) ?_
        refine st_val (.agg #[Sl.v x4, .int .i64 next_]) (wn rfl) (r_build (ps' := [(0, .agg #[Sl.v x4]), (1, .int .i64 next_)]) rfl (by kernel_rfl)) (by simp only [f0, f1, f2]; rfl) ?_
        refine st_one (wn rfl) ?_
        refine o_boxB (zs := [Sl.v x4, .int .i64 next_]) rfl (fun b => by simp only [f0, f1, f2]; rfl) (fun b1 w_4 hn1 hO2 hb2 => ?_)
        have hn_b1 : w_3.heap.size ≤ b1 := hn1
        have hA2 : Only [] w_3 w_4 := hO2
        refine st_val (.pointer (some ⟨b1, 0, none⟩)) (wn rfl) rfl (by simp only [f0, f1, f2]; rfl) ?_
        refine st_val (.int .i64 0) (wn rfl) rfl (by simp only [f0, f1, f2]; rfl) ?_
        refine wpList_nil ?_
        refine then_normal ?_
        refine wp_ret ?_
        replace h := h b1 w_4 hn_b1 hb2.lt hA2 hb2
        exact end_ret (r_resN (vs := [.pointer (some ⟨b1, 0, none⟩), .int .i64 0]) Try.results17 rfl ⟨rfl, rfl, trivial⟩) rfl h

/-- what is to be shown of a call of pavanelaw19.SessionLeases -/
def pavanelaw19_SessionLeases_vc (now : Int) (asks : Sl) (to_ : Int) (R : Value → World → Prop) (w : World) : Prop :=
  Calls Try.prog 8 #[] w (fun e w_ => ∃ x1 : Bool, e = .returned (.bool x1) ∧
  Calls Try.prog 9 #[] w_ (fun e w_1 => ∃ x2 : Option Addr, e = .returned (.pointer x2) ∧
  ((((!x1) || (Option.isNone x2)) = true →
  R (.bool false) w_1) ∧
  (((!x1) || (Option.isNone x2)) = false →
  Calls Try.prog 12 #[.pointer x2, .int .i64 now] w_1 (fun e w_2 => ∃ x0 : Int, ∃ x11 : Int, e = .returned (.tuple #[.int .i64 x0, .int .i64 x11]) ∧
  ((((decide (now < 0)) || (decide (now > 1099511627776))) = true →
  R (.bool ((x11 == 1) && (x0 == 0))) w_2) ∧
  (((decide (now < 0)) || (decide (now > 1099511627776))) = false →
  ∃ (I_ : Nat → Int → World → Prop) (nv1 : Nat), I_ nv1 0 w_2 ∧
  ∀ (nv : Nat) (i : Int) (w_3 : World), I_ nv i w_3 →
  ((((decide (i < (↑(Sl.n asks) : Int))) && (decide (i < 50))) = true →
  ∃ ad : Addr, SlAt asks i 5 ad ∧
  ∃ x3 : Int, Cells w_3 (Addr.add ad 1) [.int .i64 x3] ∧
  ∃ ad1 : Addr, SlAt asks i 5 ad1 ∧
  ∃ x4 : Int, Cells w_3 (Addr.add ad1 2) [.int .i64 x4] ∧
  ∀ (w_4 : World), Only [] w_3 w_4 →
  Calls Try.prog 10 #[.pointer x2, .int .i64 x3, .int .i64 x4] w_4 (fun e w_5 => ∃ x01 : Int, ∃ x12 : Sl, e = .returned (.tuple #[.int .i64 x01, Sl.v x12]) ∧
  ∃ nv2 : Nat, nv2 < nv ∧ I_ nv2 (IntKind.i64.wrap (i + 1)) w_5)) ∧
  (((decide (i < (↑(Sl.n asks) : Int))) && (decide (i < 50))) = false →
  Calls Try.prog 13 #[.pointer x2, .int .i64 to_] w_3 (fun e w_6 => ∃ x5 : Sl, e = .returned (Sl.v x5) ∧
  Calls Try.prog 10 #[.pointer x2, .int .i64 x0, .int .i64 1] w_6 (fun e w_7 => ∃ x02 : Int, ∃ x13 : Sl, e = .returned (.tuple #[.int .i64 x02, Sl.v x13]) ∧
  R (.bool (((x11 == 0) && ((x02 == 1) == (decide (to_ ≤ (IntKind.i64.wrap (now + 50)))))) && ((x02 == 4) == (decide (to_ > (IntKind.i64.wrap (now + 50))))))) w_7)))))))))))
theorem pavanelaw19_SessionLeases_wp (now : Int) (asks : Sl) (to_ : Int) (R : Value → World → Prop) (w : World) (h : pavanelaw19_SessionLeases_vc now asks to_ R w) :
    Calls Try.prog 4 #[.int .i64 now, Sl.v asks, .int .i64 to_] w fun e w' => ∃ v, e = .returned v ∧ R v w' := by
  unfold pavanelaw19_SessionLeases_vc at h
  refine calls_of (k := 88) Try.func4 rfl Try.ntmps4 rfl rfl ?_
  simp only [List.replicate, List.cons_append, List.nil_append]
  refine wp_seq ?_
  refine wp_region_lit ?_
  refine st_val (.bool false) (wn rfl) rfl (by simp only [f0, f1, f2]; rfl) ?_
  refine wpList_nil ?_
  refine then_normal ?_
  refine wp_seq ?_
  refine wp_region_lit ?_
  refine st_one (wn rfl) ?_
  refine o_enter (args := #[]) (r_enter Try.call8 rfl) (h.mono ?_)
  clear h
  rintro _ w_ ⟨x1, rfl, h⟩
  refine ⟨_, _, rfl, (by simp only [f0, f1, f2]; rfl), ?_⟩
  refine st_val (.bool x1) (wn rfl) rfl (by simp only [f0, f1, f2]; rfl) ?_
  refine wpList_nil ?_
  refine then_normal ?_
  refine wp_seq ?_
  refine wp_region_lit ?_
  refine st_one (wn rfl) ?_
  refine o_enter (args := #[]) (r_enter Try.call9 rfl) (h.mono ?_)
  clear h
  rintro _ w_1 ⟨x2, rfl, h⟩
  refine ⟨_, _, rfl, (by simp only [f0, f1, f2]; rfl), ?_⟩
  refine st_val (.pointer x2) (wn rfl) rfl (by simp only [f0, f1, f2]; rfl) ?_
  refine wpList_nil ?_
  refine then_normal ?_
  refine wp_seq ?_
  refine wp_seq ?_
  refine wp_region_lit ?_
  refine st_val (.bool x1) (wn rfl) rfl (by simp only [f0, f1, f2]; rfl) ?_
  refine st_val (.bool (!x1)) (wn rfl) rfl (by simp only [f0, f1, f2]; rfl) ?_
  refine st_val (.bool (!x1)) (wn rfl) rfl (by simp only [f0, f1, f2]; rfl) ?_
  refine st_cut 3 (fun a' w' => (∃ us : Nat → Value, a' = (⟨(fillin us 0 (some (.int .i64 now) :: some (Sl.v asks) :: some (.int .i64 to_) :: some undef :: some undef :: some undef :: some (.bool false) :: some (.bool x1) :: some (.pointer x2) :: some undef :: some undef :: some undef :: some undef :: some undef :: some (.bool x1) :: some (.pointer x2) :: some (.bool x1) :: some (.bool (!x1)) :: some (.bool (!x1)) :: none :: none :: some (.bool ((!x1) || (Option.isNone x2))) :: some undef :: some undef :: some undef :: some undef :: some undef :: some undef :: some undef :: some undef :: some undef :: some undef :: some undef :: some undef :: some undef :: some undef :: some undef :: some undef :: some undef :: some undef :: some undef :: some undef :: some undef :: some undef :: some undef :: some undef :: some undef :: some undef :: some undef :: some undef :: some undef :: some undef :: some undef :: some undef :: some undef :: some undef :: some undef :: some undef :: some undef :: some undef :: some undef :: some undef :: some undef :: some undef :: some undef :: some undef :: some undef :: some undef :: some undef :: some undef :: some undef :: some undef :: some undef :: some undef :: some undef :: some undef :: some undef :: some undef :: some undef :: some undef :: some undef :: some undef :: some undef :: some undef :: some undef :: some undef :: some undef :: some undef :: some undef :: some undef :: some undef :: [])).toArray, []⟩ : Act)) ∧ w_1 = w') ?_ ?_
  · simp only [List.take_succ_cons, List.take_zero]
    rcases Bool.eq_false_or_eq_true (!x1) with hg | hg
    · refine st_no (wt rfl rfl rfl (congrArg (fun z => some (Value.bool z)) hg) rfl) (by simp only [f0, f1, f2]; rfl) ?_
      refine st_no (wt rfl rfl rfl (congrArg (fun z => some (Value.bool z)) hg) rfl) (by simp only [f0, f1, f2]; rfl) ?_
      refine st_val (.bool true) (wn rfl) (r_pickT (congrArg Value.bool hg) rfl) (by simp only [f0, f1, f2]; rfl) ?_
      refine wpList_nil ?_
      exact then_normal ⟨some_us (by simp only [masked, hg, Bool.true_and, Bool.false_and, Bool.true_or, Bool.false_or, cond_true, cond_false]) rfl rfl, rfl⟩
    · refine st_val (.pointer x2) (wt rfl rfl rfl (congrArg (fun z => some (Value.bool z)) hg) rfl) rfl (by simp only [f0, f1, f2]; rfl) ?_
      refine st_val (.bool (Option.isNone x2)) (wt rfl rfl rfl (congrArg (fun z => some (Value.bool z)) hg) rfl) (r_eqlPtrNilR (Try.runUnderlying24 _) rfl rfl rfl) (by simp only [f0, f1, f2]; rfl) ?_
      refine st_val (.bool (Option.isNone x2)) (wn rfl) (r_pickF (congrArg Value.bool hg) rfl) (by simp only [f0, f1, f2]; rfl) ?_
      refine wpList_nil ?_
      exact then_normal ⟨some_us (by simp only [masked, hg, Bool.true_and, Bool.false_and, Bool.true_or, Bool.false_or, cond_true, cond_false]) rfl rfl, rfl⟩
  rintro a0 _ ⟨⟨us, hF⟩, rfl⟩
  simp only [fillin, Nat.reduceAdd] at hF
  subst hF
  simp only [List.drop_succ_cons, List.drop_zero]
  refine wpList_nil ?_
  refine then_normal ?_
  refine wp_cond_split (t := ((!x1) || (Option.isNone x2))) rfl (fun hc => ?_) (fun hc => ?_)
  · replace h := h.1 hc
    refine wp_seq ?_
    refine wp_region_lit ?_
    refine st_val (.bool false) (wn rfl) rfl (by simp only [f0, f1, f2]; rfl) ?_
    refine wpList_nil ?_
    refine then_normal ?_
    refine wp_ret ?_
    refine then_ret ?_
    exact end_ret (r_res1 (v := .bool false) Try.results4 ⟨rfl, trivial⟩) rfl h
  · replace h := h.2 hc
    refine wp_skip ?_
    refine then_normal ?_
    refine wp_seq ?_
    refine wp_region_lit ?_
    refine st_val (.pointer x2) (wn rfl) rfl (by simp only [f0, f1, f2]; rfl) ?_
    refine st_val (.int .i64 now) (wn rfl) rfl (by simp only [f0, f1, f2]; rfl) ?_
    refine st_one (wn rfl) ?_
    refine o_enter (args := #[.pointer x2, .int .i64 now]) (r_enter Try.call12 rfl) (h.mono ?_)
    clear h
    rintro _ w_2 ⟨x0, x11, rfl, h⟩
    refine ⟨_, _, rfl, (by simp only [f0, f1, f2]; rfl), ?_⟩
    refine st_val (.tuple #[.int .i64 x0, .int .i64 x11]) (wn rfl) rfl (by simp only [f0, f1, f2]; rfl) ?_
    refine st_val (.int .i64 x0) (wn rfl) rfl (by simp only [f0, f1, f2]; rfl) ?_
    refine st_val (.int .i64 x11) (wn rfl) rfl (by simp only [f0, f1, f2]; rfl) ?_
    refine st_val (.int .i64 x0) (wn rfl) rfl (by simp only [f0, f1, f2]; rfl) ?_
    refine st_val (.int .i64 x11) (wn rfl) rfl (by simp only [f0, f1, f2]; rfl) ?_
    refine wpList_nil ?_
    refine then_normal ?_
    refine wp_seq ?_
    refine wp_seq ?_
    refine wp_region_lit ?_
    refine st_val (.int .i64 now) (wn rfl) rfl (by simp only [f0, f1, f2]; rfl) ?_
    refine st_val (.bool (decide (now < 0))) (wn rfl) rfl (by simp only [f0, f1, f2]; rfl) ?_
    refine st_val (.bool (decide (now < 0))) (wn rfl) rfl (by simp only [f0, f1, f2]; rfl) ?_
    refine st_cut 3 (fun a' w' => (∃ us1 : Nat → Value, a' = (⟨(fillin us1 0 (some (.int .i64 now) :: some (Sl.v asks) :: some (.int .i64 to_) :: some undef :: some undef :: some undef :: some (.bool false) :: some (.bool x1) :: some (.pointer x2) :: some (.int .i64 x0) :: some (.int .i64 x11) :: some undef :: some undef :: some undef :: some (.bool x1) :: some (.pointer x2) :: some (.bool x1) :: some (.bool (!x1)) :: some (.bool (!x1)) :: some ((us 19)) :: some ((us 20)) :: some (.bool ((!x1) || (Option.isNone x2))) :: some (.tuple #[.int .i64 x0, .int .i64 x11]) :: some (.pointer x2) :: some (.int .i64 now) :: some (.tuple #[.int .i64 x0, .int .i64 x11]) :: some (.int .i64 x0) :: some (.int .i64 x11) :: some (.int .i64 now) :: some (.bool (decide (now < 0))) :: some (.bool (decide (now < 0))) :: none :: none :: some (.bool ((decide (now < 0)) || (decide (now > 1099511627776)))) :: some undef :: some undef :: some undef :: some undef :: some undef :: some undef :: some undef :: some undef :: some undef :: some undef :: some undef :: some undef :: some undef :: some undef :: some undef :: some undef :: some undef :: some undef :: some undef :: some undef :: some undef :: some undef :: some undef :: some undef :: some undef :: some undef :: some undef :: some undef :: some undef :: some undef :: some undef :: some undef :: some undef :: some undef :: some undef :: some undef :: some undef :: some undef :: some undef :: some undef :: some undef :: some undef :: some undef :: some undef :: some undef :: some undef :: some undef :: some undef :: some undef :: some undef :: some undef :: some undef :: some undef :: some undef :: some undef :: some undef :: some undef :: [])).toArray, []⟩ : Act)) ∧ w_2 = w') ?_ ?_
    · simp only [List.take_succ_cons, List.take_zero]
      rcases Bool.eq_false_or_eq_true (decide (now < 0)) with hg1 | hg1
      · refine st_no (wt rfl rfl rfl (congrArg (fun z => some (Value.bool z)) hg1) rfl) (by simp only [f0, f1, f2]; rfl) ?_
        refine st_no (wt rfl rfl rfl (congrArg (fun z => some (Value.bool z)) hg1) rfl) (by simp only [f0, f1, f2]; rfl) ?_
        refine st_val (.bool true) (wn rfl) (r_pickT (congrArg Value.bool hg1) rfl) (by simp only [f0, f1, f2]; rfl) ?_
        refine wpList_nil ?_
        exact then_normal ⟨some_us (by simp only [masked, hg1, Bool.true_and, Bool.false_and, Bool.true_or, Bool.false_or, cond_true, cond_false]) rfl rfl, rfl⟩
      · refine st_val (.int .i64 now) (wt rfl rfl rfl (congrArg (fun z => some (Value.bool z)) hg1) rfl) rfl (by simp only [f0, f1, f2]; rfl) ?_
        refine st_val (.bool (decide (now > 1099511627776))) (wt rfl rfl rfl (congrArg (fun z => some (Value.bool z)) hg1) rfl) rfl (by simp only [f0, f1, f2]; rfl) ?_
        refine st_val (.bool (decide (now > 1099511627776))) (wn rfl) (r_pickF (congrArg Value.bool hg1) rfl) (by simp only [f0, f1, f2]; rfl) ?_
        refine wpList_nil ?_
        exact then_normal ⟨some_us (by simp only [masked, hg1, Bool.true_and, Bool.false_and, Bool.true_or, Bool.false_or, cond_true, cond_false]) rfl rfl, rfl⟩
    rintro a0 _ ⟨⟨us1, hF⟩, rfl⟩
    simp only [fillin, Nat.reduceAdd] at hF
    subst hF
    simp only [List.drop_succ_cons, List.drop_zero]
    refine wpList_nil ?_
    refine then_normal ?_
    refine wp_cond_split (t := ((decide (now < 0)) || (decide (now > 1099511627776)))) rfl (fun hc1 => ?_) (fun hc1 => ?_)
    · replace h := h.1 hc1
      refine wp_seq ?_
      refine wp_region_lit ?_
      refine st_val (.int .i64 x11) (wn rfl) rfl (by simp only [f0, f1, f2]; rfl) ?_
      refine st_val (.bool (x11 == 1)) (wn rfl) rfl (by simp only [f0, f1, f2]; rfl) ?_
      refine st_val (.bool (x11 == 1)) (wn rfl) rfl (by simp only [f0, f1, f2]; rfl) ?_
      refine st_cut 3 (fun a' w' => (∃ us2 : Nat → Value, a' = (⟨(fillin us2 0 (some (.int .i64 now) :: some (Sl.v asks) :: some (.int .i64 to_) :: some undef :: some undef :: some undef :: some (.bool false) :: some (.bool x1) :: some (.pointer x2) :: some (.int .i64 x0) :: some (.int .i64 x11) :: some undef :: some undef :: some undef :: some (.bool x1) :: some (.pointer x2) :: some (.bool x1) :: some (.bool (!x1)) :: some (.bool (!x1)) :: some ((us 19)) :: some ((us 20)) :: some (.bool ((!x1) || (Option.isNone x2))) :: some (.tuple #[.int .i64 x0, .int .i64 x11]) :: some (.pointer x2) :: some (.int .i64 now) :: some (.tuple #[.int .i64 x0, .int .i64 x11]) :: some (.int .i64 x0) :: some (.int .i64 x11) :: some (.int .i64 now) :: some (.bool (decide (now < 0))) :: some (.bool (decide (now < 0))) :: some ((us1 31)) :: some ((us1 32)) :: some (.bool ((decide (now < 0)) || (decide (now > 1099511627776)))) :: some (.int .i64 x11) :: some (.bool (x11 == 1)) :: some (.bool (x11 == 1)) :: none :: none :: some (.bool ((x11 == 1) && (x0 == 0))) :: some undef :: some undef :: some undef :: some undef :: some undef :: some undef :: some undef :: some undef :: some undef :: some undef :: some undef :: some undef :: some undef :: some undef :: some undef :: some undef :: some undef :: some undef :: some undef :: some undef :: some undef :: some undef :: some undef :: some undef :: some undef :: some undef :: some undef :: some undef :: some undef :: some undef :: some undef :: some undef :: some undef :: some undef :: some undef :: some undef :: some undef :: some undef :: some undef :: some undef :: some undef :: some undef :: some undef :: some undef :: some undef :: some undef :: some undef :: some undef :: some undef :: some undef :: some undef :: [])).toArray, []⟩ : Act)) ∧ w_2 = w') ?_ ?_
      · simp only [List.take_succ_cons, List.take_zero]
        rcases Bool.eq_false_or_eq_true (x11 == 1) with hg2 | hg2
        · refine st_val (.int .i64 x0) (wt rfl rfl rfl (congrArg (fun z => some (Value.bool z)) hg2) rfl) rfl (by simp only [f0, f1, f2]; rfl) ?_
          refine st_val (.bool (x0 == 0)) (wt rfl rfl rfl (congrArg (fun z => some (Value.bool z)) hg2) rfl) rfl (by simp only [f0, f1, f2]; rfl) ?_
          refine st_val (.bool (x0 == 0)) (wn rfl) (r_pickT (congrArg Value.bool hg2) rfl) (by simp only [f0, f1, f2]; rfl) ?_
          refine wpList_nil ?_
          exact then_normal ⟨some_us (by simp only [masked, hg2, Bool.true_and, Bool.false_and, Bool.true_or, Bool.false_or, cond_true, cond_false]) rfl rfl, rfl⟩
        · refine st_no (wt rfl rfl rfl (congrArg (fun z => some (Value.bool z)) hg2) rfl) (by simp only [f0, f1, f2]; rfl) ?_
          refine st_no (wt rfl rfl rfl (congrArg (fun z => some (Value.bool z)) hg2) rfl) (by simp only [f0, f1, f2]; rfl) ?_
          refine st_val (.bool false) (wn rfl) (r_pickF (congrArg Value.bool hg2) rfl) (by simp only [f0, f1, f2]; rfl) ?_
          refine wpList_nil ?_
          exact then_normal ⟨some_us (by simp only [masked, hg2, Bool.true_and, Bool.false_and, Bool.true_or, Bool.false_or, cond_true, cond_false]) rfl rfl, rfl⟩
      rintro a0 _ ⟨⟨us2, hF⟩, rfl⟩
      simp only [fillin, Nat.reduceAdd] at hF
      subst hF
      simp only [List.drop_succ_cons, List.drop_zero]
      refine st_val (.bool ((x11 == 1) && (x0 == 0))) (wn rfl) rfl (by simp only [f0, f1, f2]; rfl) ?_
      refine wpList_nil ?_
      refine then_normal ?_
      refine wp_ret ?_
      refine then_ret ?_
      exact end_ret (r_res1 (v := .bool ((x11 == 1) && (x0 == 0))) Try.results4 ⟨rfl, trivial⟩) rfl h
    · replace h := h.2 hc1
      refine wp_skip ?_
      refine then_normal ?_
      refine wp_seq ?_
      refine wp_seq ?_
      refine wp_region_lit ?_
      refine st_val (.int .i64 0) (wn rfl) rfl (by simp only [f0, f1, f2]; rfl) ?_
      refine wpList_nil ?_
      refine then_normal ?_
      refine wp_block ?_
      obtain ⟨I_, nv1, h0, hI⟩ := h
      refine wp_loop_ghost (fun nv' a' w' => ∃ i : Int, (∃ us3 : Nat → Value, a' = (⟨(fillin us3 0 (some (.int .i64 now) :: some (Sl.v asks) :: some (.int .i64 to_) :: some undef :: some undef :: some undef :: some (.bool false) :: some (.bool x1) :: some (.pointer x2) :: some (.int .i64 x0) :: some (.int .i64 x11) :: some (.int .i64 i) :: some undef :: some undef :: some (.bool x1) :: some (.pointer x2) :: some (.bool x1) :: some (.bool (!x1)) :: some (.bool (!x1)) :: some ((us 19)) :: some ((us 20)) :: some (.bool ((!x1) || (Option.isNone x2))) :: some (.tuple #[.int .i64 x0, .int .i64 x11]) :: some (.pointer x2) :: some (.int .i64 now) :: some (.tuple #[.int .i64 x0, .int .i64 x11]) :: some (.int .i64 x0) :: some (.int .i64 x11) :: some (.int .i64 now) :: some (.bool (decide (now < 0))) :: some (.bool (decide (now < 0))) :: some ((us1 31)) :: some ((us1 32)) :: some (.bool ((decide (now < 0)) || (decide (now > 1099511627776)))) :: some undef :: some undef :: some undef :: some undef :: some undef :: some undef :: none :: none :: none :: none :: none :: none :: none :: none :: none :: none :: none :: none :: none :: none :: none :: none :: none :: none :: none :: none :: none :: none :: some undef :: some undef :: some undef :: some undef :: some undef :: some undef :: some undef :: some undef :: some undef :: some undef :: some undef :: some undef :: some undef :: some undef :: some undef :: some undef :: some undef :: some undef :: some undef :: some undef :: some undef :: some undef :: some undef :: some undef :: some undef :: some undef :: some undef :: some undef :: some undef :: [])).toArray, []⟩ : Act)) ∧ I_ nv' i w') nv1 ?_ ?_
      · exact ⟨_, (some_us rfl rfl rfl), h0⟩
      · clear h0
        rintro nv a0 w_3 ⟨i, ⟨us3, hF⟩, h⟩
        simp only [fillin, Nat.reduceAdd] at hF
        subst hF
        replace h := hI _ _ _ h
        refine wp_seq ?_
        refine wp_seq ?_
        refine wp_region_lit ?_
        refine st_val (.int .i64 i) (wn rfl) rfl (by simp only [f0, f1, f2]; rfl) ?_
        refine st_val (Sl.v asks) (wn rfl) rfl (by simp only [f0, f1, f2]; rfl) ?_
        refine st_val (.int .i64 (↑(Sl.n asks) : Int)) (wn rfl) (r_len (s := asks) (Try.runUnderlying22 _) rfl) (by simp only [f0, f1, f2]; rfl) ?_
        refine st_val (.bool (decide (i < (↑(Sl.n asks) : Int)))) (wn rfl) rfl (by simp only [f0, f1, f2]; rfl) ?_
        refine st_val (.bool (decide (i < (↑(Sl.n asks) : Int)))) (wn rfl) rfl (by simp only [f0, f1, f2]; rfl) ?_
        refine st_cut 3 (fun a' w' => (∃ us4 : Nat → Value, a' = (⟨(fillin us4 0 (some (.int .i64 now) :: some (Sl.v asks) :: some (.int .i64 to_) :: some undef :: some undef :: some undef :: some (.bool false) :: some (.bool x1) :: some (.pointer x2) :: some (.int .i64 x0) :: some (.int .i64 x11) :: some (.int .i64 i) :: some undef :: some undef :: some (.bool x1) :: some (.pointer x2) :: some (.bool x1) :: some (.bool (!x1)) :: some (.bool (!x1)) :: some ((us 19)) :: some ((us 20)) :: some (.bool ((!x1) || (Option.isNone x2))) :: some (.tuple #[.int .i64 x0, .int .i64 x11]) :: some (.pointer x2) :: some (.int .i64 now) :: some (.tuple #[.int .i64 x0, .int .i64 x11]) :: some (.int .i64 x0) :: some (.int .i64 x11) :: some (.int .i64 now) :: some (.bool (decide (now < 0))) :: some (.bool (decide (now < 0))) :: some ((us1 31)) :: some ((us1 32)) :: some (.bool ((decide (now < 0)) || (decide (now > 1099511627776)))) :: some undef :: some undef :: some undef :: some undef :: some undef :: some undef :: some (.int .i64 i) :: some (Sl.v asks) :: some (.int .i64 (↑(Sl.n asks) : Int)) :: some (.bool (decide (i < (↑(Sl.n asks) : Int)))) :: some (.bool (decide (i < (↑(Sl.n asks) : Int)))) :: none :: none :: some (.bool ((decide (i < (↑(Sl.n asks) : Int))) && (decide (i < 50)))) :: some ((us3 48)) :: some ((us3 49)) :: some ((us3 50)) :: some ((us3 51)) :: some ((us3 52)) :: some ((us3 53)) :: some ((us3 54)) :: some ((us3 55)) :: some ((us3 56)) :: some ((us3 57)) :: some ((us3 58)) :: some ((us3 59)) :: some ((us3 60)) :: some ((us3 61)) :: some undef :: some undef :: some undef :: some undef :: some undef :: some undef :: some undef :: some undef :: some undef :: some undef :: some undef :: some undef :: some undef :: some undef :: some undef :: some undef :: some undef :: some undef :: some undef :: some undef :: some undef :: some undef :: some undef :: some undef :: some undef :: some undef :: some undef :: some undef :: some undef :: [])).toArray, []⟩ : Act)) ∧ w_3 = w') ?_ ?_
        · simp only [List.take_succ_cons, List.take_zero]
          rcases Bool.eq_false_or_eq_true (decide (i < (↑(Sl.n asks) : Int))) with hg3 | hg3
          · refine st_val (.int .i64 i) (wt rfl rfl rfl (congrArg (fun z => some (Value.bool z)) hg3) rfl) rfl (by simp only [f0, f1, f2]; rfl) ?_
            refine st_val (.bool (decide (i < 50))) (wt rfl rfl rfl (congrArg (fun z => some (Value.bool z)) hg3) rfl) rfl (by simp only [f0, f1, f2]; rfl) ?_
            refine st_val (.bool (decide (i < 50))) (wn rfl) (r_pickT (congrArg Value.bool hg3) rfl) (by simp only [f0, f1, f2]; rfl) ?_
            refine wpList_nil ?_
            exact then_normal ⟨some_us (by simp only [masked, hg3, Bool.true_and, Bool.false_and, Bool.true_or, Bool.false_or, cond_true, cond_false]) rfl rfl, rfl⟩
          · refine st_no (wt rfl rfl rfl (congrArg (fun z => some (Value.bool z)) hg3) rfl) (by simp only [f0, f1, f2]; rfl) ?_
            refine st_no (wt rfl rfl rfl (congrArg (fun z => some (Value.bool z)) hg3) rfl) (by simp only [f0, f1, f2]; rfl) ?_
            refine st_val (.bool false) (wn rfl) (r_pickF (congrArg Value.bool hg3) rfl) (by simp only [f0, f1, f2]; rfl) ?_
            refine wpList_nil ?_
            exact then_normal ⟨some_us (by simp only [masked, hg3, Bool.true_and, Bool.false_and, Bool.true_or, Bool.false_or, cond_true, cond_false]) rfl rfl, rfl⟩
        rintro a0 _ ⟨⟨us4, hF⟩, rfl⟩
        simp only [fillin, Nat.reduceAdd] at hF
        subst hF
        simp only [List.drop_succ_cons, List.drop_zero]
        refine wpList_nil ?_
        refine then_normal ?_
        refine wp_cond_split (t := ((decide (i < (↑(Sl.n asks) : Int))) && (decide (i < 50)))) rfl (fun hc2 => ?_) (fun hc2 => ?_)
        · replace h := h.1 hc2
          refine wp_skip ?_
          refine then_normal ?_
          refine wp_seq ?_
          refine wp_block ?_
          obtain ⟨ad, hx, h⟩ := h
          obtain ⟨x3, hx1, h⟩ := h
          obtain ⟨ad1, hx2, h⟩ := h
          obtain ⟨x4, hx3, h⟩ := h
          refine e_region (EL [(11, [])]) Try.checked.mixed ?_
          have hO := Only.drew w_3
          have hx4 : Cells w_3.drew _ _ := hx1
          have hx5 : Cells w_3.drew _ _ := hx3
          generalize w_3.drew = w_4 at *
          have hA : Only [] w_3 w_4 := hO
          refine e_take 0 [11] [] (.pointer x2) (fun _ => True) rfl (by kernel_rfl) (by kernel_rfl) (by kernel_rfl) (by kernel_rfl) (by kernel_rfl) (by kernel_rfl) (fun _ _ _ h => h) el_true (fun w _ => el_quiet rfl w) trivial (y_val (wn rfl) (fun w' hw' => rfl)) (by simp only [f0, f1, f2]; rfl) ?_
          refine e_take 1 [3, 4, 5, 11] [0] (Sl.v asks) (fun _ => True) rfl (by kernel_rfl) (by kernel_rfl) (by kernel_rfl) (by kernel_rfl) (by kernel_rfl) (by kernel_rfl) (fun _ _ _ h => h) el_true (fun w _ => el_quiet rfl w) trivial (y_val (wn rfl) (fun w' hw' => rfl)) (by simp only [f0, f1, f2]; rfl) ?_
          refine e_take 2 [3, 4, 5, 11] [0, 1] (.int .i64 i) (fun _ => True) rfl (by kernel_rfl) (by kernel_rfl) (by kernel_rfl) (by kernel_rfl) (by kernel_rfl) (by kernel_rfl) (fun _ _ _ h => h) el_true (fun w _ => el_quiet rfl w) trivial (y_val (wn rfl) (fun w' hw' => rfl)) (by simp only [f0, f1, f2]; rfl) ?_
          refine e_take 3 [4, 5, 11] [0, 1, 2] (.pointer (some ad)) (fun _ => True) rfl (by kernel_rfl) (by kernel_rfl) (by kernel_rfl) (by kernel_rfl) (by kernel_rfl) (by kernel_rfl) (fun _ _ _ h => h) el_true (fun w _ => el_quiet rfl w) trivial (y_val (wn rfl) (fun w' hw' => (r_indexS (s := asks) (Try.runUnderlying22 _) (Try.sizeOf29 _) rfl rfl hx))) (by simp only [f0, f1, f2]; rfl) ?_
          refine e_take 4 [5, 11] [0, 1, 2, 3] (.pointer (some (Addr.add ad 1))) (fun _ => True) rfl (by kernel_rfl) (by kernel_rfl) (by kernel_rfl) (by kernel_rfl) (by kernel_rfl) (by kernel_rfl) (fun _ _ _ h => h) el_true (fun w _ => el_quiet rfl w) trivial (y_val (wn rfl) (fun w' hw' => (r_field (Try.runUnderlying29 _) rfl (Try.sizeOf3 _) rfl rfl))) (by simp only [f0, f1, f2]; rfl) ?_
          refine e_take 5 [11] [0, 1, 2, 3, 4] (.int .i64 x3) (fun w' => Cells w' (Addr.add ad 1) [.int .i64 x3]) rfl (by kernel_rfl) (by kernel_rfl) (by kernel_rfl) (by kernel_rfl) (by kernel_rfl) (by kernel_rfl) (fun _ _ _ h => h) (el_stable (b := (Addr.add ad 1).block) (List.forall_mem_cons.2 ⟨.inl (by simp), List.forall_mem_nil _⟩) keep_cells) (fun w _ => el_quiet rfl w) hx4 (y_val (wn rfl) (fun w' hw' => (r_load1 (Try.isAgg3 _) rfl (Cells.one hw')))) (by simp only [f0, f1, f2]; rfl) ?_
          refine e_take 6 [8, 9, 10, 11] [0, 1, 2, 3, 4, 5] (Sl.v asks) (fun _ => True) rfl (by kernel_rfl) (by kernel_rfl) (by kernel_rfl) (by kernel_rfl) (by kernel_rfl) (by kernel_rfl) (fun _ _ _ h => h) el_true (fun w _ => el_quiet rfl w) trivial (y_val (wn rfl) (fun w' hw' => rfl)) (by simp only [f0, f1, f2]; rfl) ?_
          refine e_take 7 [8, 9, 10, 11] [0, 1, 2, 3, 4, 5, 6] (.int .i64 i) (fun _ => True) rfl (by kernel_rfl) (by kernel_rfl) (by kernel_rfl) (by kernel_rfl) (by kernel_rfl) (by kernel_rfl) (fun _ _ _ h => h) el_true (fun w _ => el_quiet rfl w) trivial (y_val (wn rfl) (fun w' hw' => rfl)) (by simp only [f0, f1, f2]; rfl) ?_
          refine e_take 8 [9, 10, 11] [0, 1, 2, 3, 4, 5, 6, 7] (.pointer (some ad1)) (fun _ => True) rfl (by kernel_rfl) (by kernel_rfl) (by kernel_rfl) (by kernel_rfl) (by kernel_rfl) (by kernel_rfl) (fun _ _ _ h => h) el_true (fun w _ => el_quiet rfl w) trivial (y_val (wn rfl) (fun w' hw' => (r_indexS (s := asks) (Try.runUnderlying22 _) (Try.sizeOf29 _) rfl rfl hx2))) (by simp only [f0, f1, f2]; rfl) ?_
          refine e_take 9 [10, 11] [0, 1, 2, 3, 4, 5, 6, 7, 8] (.pointer (some (Addr.add ad1 2))) (fun _ => True) rfl (by kernel_rfl) (by kernel_rfl) (by kernel_rfl) (by kernel_rfl) (by kernel_rfl) (by kernel_rfl) (fun _ _ _ h => h) el_true (fun w _ => el_quiet rfl w) trivial (y_val (wn rfl) (fun w' hw' => (r_field (Try.runUnderlying29 _) rfl (Try.sizeOf3 _) rfl rfl))) (by simp only [f0, f1, f2]; rfl) ?_
          refine e_take 10 [11] [0, 1, 2, 3, 4, 5, 6, 7, 8, 9] (.int .i64 x4) (fun w' => Cells w' (Addr.add ad1 2) [.int .i64 x4]) rfl (by kernel_rfl) (by kernel_rfl) (by kernel_rfl) (by kernel_rfl) (by kernel_rfl) (by kernel_rfl) (fun _ _ _ h => h) (el_stable (b := (Addr.add ad1 2).block) (List.forall_mem_cons.2 ⟨.inl (by simp), List.forall_mem_nil _⟩) keep_cells) (fun w _ => el_quiet rfl w) hx5 (y_val (wn rfl) (fun w' hw' => (r_load1 (Try.isAgg3 _) rfl (Cells.one hw')))) (by simp only [f0, f1, f2]; rfl) ?_
          replace h := h w_4 hA
          refine e_one 11 rfl (by kernel_rfl) (wn rfl) ?_
          refine o_enter (args := #[.pointer x2, .int .i64 x3, .int .i64 x4]) (r_enter Try.call10 rfl) (h.mono ?_)
          clear h
          rintro _ w_5 ⟨x01, x12, rfl, h⟩
          refine ⟨_, _, rfl, (by simp only [f0, f1, f2]; rfl), ?_⟩
          refine ⟨el_loud rfl same_nil, ?_⟩
          refine e_done (by kernel_rfl) ?_
          refine block_normal ?_
          refine then_normal ?_
          refine wp_region_lit ?_
          refine st_val (.int .i64 i) (wn rfl) rfl (by simp only [f0, f1, f2]; rfl) ?_
          refine st_val (.int .i64 (IntKind.i64.wrap (i + 1))) (wn rfl) rfl (by simp only [f0, f1, f2]; rfl) ?_
          refine st_val (.int .i64 (IntKind.i64.wrap (i + 1))) (wn rfl) rfl (by simp only [f0, f1, f2]; rfl) ?_
          refine wpList_nil ?_
          refine then_normal ?_
          obtain ⟨nv2, hl, h⟩ := h
          exact ⟨nv2, hl, _, (some_us rfl rfl rfl), h⟩
        · replace h := h.2 hc2
          refine wp_exit ?_
          refine then_exit ?_
          refine then_exit ?_
          refine block_hit ?_
          refine then_normal ?_
          refine wp_seq ?_
          refine wp_region_lit ?_
          refine st_val (.pointer x2) (wn rfl) rfl (by simp only [f0, f1, f2]; rfl) ?_
          refine st_val (.int .i64 to_) (wn rfl) rfl (by simp only [f0, f1, f2]; rfl) ?_
          refine st_one (wn rfl) ?_
          refine o_enter (args := #[.pointer x2, .int .i64 to_]) (r_enter Try.call13 rfl) (h.mono ?_)
          clear h
          rintro _ w_6 ⟨x5, rfl, h⟩
          refine ⟨_, _, rfl, (by simp only [f0, f1, f2]; rfl), ?_⟩
          refine wpList_nil ?_
          refine then_normal ?_
          refine wp_seq ?_
          refine wp_region_lit ?_
          refine st_val (.pointer x2) (wn rfl) rfl (by simp only [f0, f1, f2]; rfl) ?_
          refine st_val (.int .i64 x0) (wn rfl) rfl (by simp only [f0, f1, f2]; rfl) ?_
          refine st_one (wn rfl) ?_
          refine o_enter (args := #[.pointer x2, .int .i64 x0, .int .i64 1]) (r_enter Try.call10 rfl) (h.mono ?_)
          clear h
          rintro _ w_7 ⟨x02, x13, rfl, h⟩
          refine ⟨_, _, rfl, (by simp only [f0, f1, f2]; rfl), ?_⟩
          refine st_val (.tuple #[.int .i64 x02, Sl.v x13]) (wn rfl) rfl (by simp only [f0, f1, f2]; rfl) ?_
          refine st_val (.int .i64 x02) (wn rfl) rfl (by simp only [f0, f1, f2]; rfl) ?_
          refine st_val (Sl.v x13) (wn rfl) rfl (by simp only [f0, f1, f2]; rfl) ?_
          refine st_val (.int .i64 x02) (wn rfl) rfl (by simp only [f0, f1, f2]; rfl) ?_
          refine st_val (Sl.v x13) (wn rfl) rfl (by simp only [f0, f1, f2]; rfl) ?_
          refine wpList_nil ?_
          refine then_normal ?_
          refine wp_seq ?_
          refine wp_region_lit ?_
          refine st_val (.int .i64 x11) (wn rfl) rfl (by simp only [f0, f1, f2]; rfl) ?_
          refine st_val (.bool (x11 == 0)) (wn rfl) rfl (by simp only [f0, f1, f2]; rfl) ?_
          refine st_val (.bool (x11 == 0)) (wn rfl) rfl (by simp only [f0, f1, f2]; rfl) ?_
          refine st_cut 8 (fun a' w' => (∃ us5 : Nat → Value, a' = (⟨(fillin us5 0 (some (.int .i64 now) :: some (Sl.v asks) :: some (.int .i64 to_) :: some undef :: some undef :: some undef :: some (.bool false) :: some (.bool x1) :: some (.pointer x2) :: some (.int .i64 x0) :: some (.int .i64 x11) :: some (.int .i64 i) :: some (.int .i64 x02) :: some (Sl.v x13) :: some (.bool x1) :: some (.pointer x2) :: some (.bool x1) :: some (.bool (!x1)) :: some (.bool (!x1)) :: some ((us 19)) :: some ((us 20)) :: some (.bool ((!x1) || (Option.isNone x2))) :: some (.tuple #[.int .i64 x0, .int .i64 x11]) :: some (.pointer x2) :: some (.int .i64 now) :: some (.tuple #[.int .i64 x0, .int .i64 x11]) :: some (.int .i64 x0) :: some (.int .i64 x11) :: some (.int .i64 now) :: some (.bool (decide (now < 0))) :: some (.bool (decide (now < 0))) :: some ((us1 31)) :: some ((us1 32)) :: some (.bool ((decide (now < 0)) || (decide (now > 1099511627776)))) :: some undef :: some undef :: some undef :: some undef :: some undef :: some undef :: some (.int .i64 i) :: some (Sl.v asks) :: some (.int .i64 (↑(Sl.n asks) : Int)) :: some (.bool (decide (i < (↑(Sl.n asks) : Int)))) :: some (.bool (decide (i < (↑(Sl.n asks) : Int)))) :: some ((us4 45)) :: some ((us4 46)) :: some (.bool ((decide (i < (↑(Sl.n asks) : Int))) && (decide (i < 50)))) :: some ((us3 48)) :: some ((us3 49)) :: some ((us3 50)) :: some ((us3 51)) :: some ((us3 52)) :: some ((us3 53)) :: some ((us3 54)) :: some ((us3 55)) :: some ((us3 56)) :: some ((us3 57)) :: some ((us3 58)) :: some ((us3 59)) :: some ((us3 60)) :: some ((us3 61)) :: some (.pointer x2) :: some (.int .i64 to_) :: some (Sl.v x5) :: some (.tuple #[.int .i64 x02, Sl.v x13]) :: some (.pointer x2) :: some (.int .i64 x0) :: some (.tuple #[.int .i64 x02, Sl.v x13]) :: some (.int .i64 x02) :: some (Sl.v x13) :: some (.int .i64 x11) :: some (.bool (x11 == 0)) :: some (.bool (x11 == 0)) :: none :: none :: none :: none :: none :: none :: none :: some (.bool ((x11 == 0) && ((x02 == 1) == (decide (to_ ≤ (IntKind.i64.wrap (now + 50))))))) :: some undef :: some undef :: some undef :: some undef :: some undef :: some undef :: some undef :: some undef :: some undef :: [])).toArray, []⟩ : Act)) ∧ w_7 = w') ?_ ?_
          · simp only [List.take_succ_cons, List.take_zero]
            rcases Bool.eq_false_or_eq_true (x11 == 0) with hg4 | hg4
            · refine st_val (.int .i64 x02) (wt rfl rfl rfl (congrArg (fun z => some (Value.bool z)) hg4) rfl) rfl (by simp only [f0, f1, f2]; rfl) ?_
              refine st_val (.bool (x02 == 1)) (wt rfl rfl rfl (congrArg (fun z => some (Value.bool z)) hg4) rfl) rfl (by simp only [f0, f1, f2]; rfl) ?_
              refine st_val (.int .i64 to_) (wt rfl rfl rfl (congrArg (fun z => some (Value.bool z)) hg4) rfl) rfl (by simp only [f0, f1, f2]; rfl) ?_
              refine st_val (.int .i64 now) (wt rfl rfl rfl (congrArg (fun z => some (Value.bool z)) hg4) rfl) rfl (by simp only [f0, f1, f2]; rfl) ?_
              refine st_val (.int .i64 (IntKind.i64.wrap (now + 50))) (wt rfl rfl rfl (congrArg (fun z => some (Value.bool z)) hg4) rfl) rfl (by simp only [f0, f1, f2]; rfl) ?_
              refine st_val (.bool (decide (to_ ≤ (IntKind.i64.wrap (now + 50))))) (wt rfl rfl rfl (congrArg (fun z => some (Value.bool z)) hg4) rfl) rfl (by simp only [f0, f1, f2]; rfl) ?_
              refine st_val (.bool ((x02 == 1) == (decide (to_ ≤ (IntKind.i64.wrap (now + 50)))))) (wt rfl rfl rfl (congrArg (fun z => some (Value.bool z)) hg4) rfl) (r_eqlBool Try.underlying4 rfl rfl) (by simp only [f0, f1, f2]; rfl) ?_
              refine st_val (.bool ((x02 == 1) == (decide (to_ ≤ (IntKind.i64.wrap (now + 50)))))) (wn rfl) (r_pickT (congrArg Value.bool hg4) rfl) (by simp only [f0, f1, f2]; rfl) ?_
              refine wpList_nil ?_
              exact then_normal ⟨some_us (by simp only [masked, hg4, Bool.true_and, Bool.false_and, Bool.true_or, Bool.false_or, cond_true, cond_false]) rfl rfl, rfl⟩
            · refine st_no (wt rfl rfl rfl (congrArg (fun z => some (Value.bool z)) hg4) rfl) (by simp only [f0, f1, f2]; rfl) ?_
              refine st_no (wt rfl rfl rfl (congrArg (fun z => some (Value.bool z)) hg4) rfl) (by simp only [f0, f1, f2]; rfl) ?_
              refine st_no (wt rfl rfl rfl (congrArg (fun z => some (Value.bool z)) hg4) rfl) (by simp only [f0, f1, f2]; rfl) ?_
              refine st_no (wt rfl rfl rfl (congrArg (fun z => some (Value.bool z)) hg4) rfl) (by simp only [f0, f1, f2]; rfl) ?_
              refine st_no (wt rfl rfl rfl (congrArg (fun z => some (Value.bool z)) hg4) rfl) (by simp only [f0, f1, f2]; rfl) ?_
              refine st_no (wt rfl rfl rfl (congrArg (fun z => some (Value.bool z)) hg4) rfl) (by simp only [f0, f1, f2]; rfl) ?_
              refine st_no (wt rfl rfl rfl (congrArg (fun z => some (Value.bool z)) hg4) rfl) (by simp only [f0, f1, f2]; rfl) ?_
              refine st_val (.bool false) (wn rfl) (r_pickF (congrArg Value.bool hg4) rfl) (by simp only [f0, f1, f2]; rfl) ?_
              refine wpList_nil ?_
              exact then_normal ⟨some_us (by simp only [masked, hg4, Bool.true_and, Bool.false_and, Bool.true_or, Bool.false_or, cond_true, cond_false]) rfl rfl, rfl⟩
          rintro a0 _ ⟨⟨us5, hF⟩, rfl⟩
          simp only [fillin, Nat.reduceAdd] at hF
          subst hF
          simp only [List.drop_succ_cons, List.drop_zero]
          refine st_val (.bool ((x11 == 0) && ((x02 == 1) == (decide (to_ ≤ (IntKind.i64.wrap (now + 50))))))) (wn rfl) rfl (by simp only [f0, f1, f2]; rfl) ?_
          refine st_cut 8 (fun a' w' => (∃ us6 : Nat → Value, a' = (⟨(fillin us6 0 (some (.int .i64 now) :: some (Sl.v asks) :: some (.int .i64 to_) :: some undef :: some undef :: some undef :: some (.bool false) :: some (.bool x1) :: some (.pointer x2) :: some (.int .i64 x0) :: some (.int .i64 x11) :: some (.int .i64 i) :: some (.int .i64 x02) :: some (Sl.v x13) :: some (.bool x1) :: some (.pointer x2) :: some (.bool x1) :: some (.bool (!x1)) :: some (.bool (!x1)) :: some ((us 19)) :: some ((us 20)) :: some (.bool ((!x1) || (Option.isNone x2))) :: some (.tuple #[.int .i64 x0, .int .i64 x11]) :: some (.pointer x2) :: some (.int .i64 now) :: some (.tuple #[.int .i64 x0, .int .i64 x11]) :: some (.int .i64 x0) :: some (.int .i64 x11) :: some (.int .i64 now) :: some (.bool (decide (now < 0))) :: some (.bool (decide (now < 0))) :: some ((us1 31)) :: some ((us1 32)) :: some (.bool ((decide (now < 0)) || (decide (now > 1099511627776)))) :: some undef :: some undef :: some undef :: some undef :: some undef :: some undef :: some (.int .i64 i) :: some (Sl.v asks) :: some (.int .i64 (↑(Sl.n asks) : Int)) :: some (.bool (decide (i < (↑(Sl.n asks) : Int)))) :: some (.bool (decide (i < (↑(Sl.n asks) : Int)))) :: some ((us4 45)) :: some ((us4 46)) :: some (.bool ((decide (i < (↑(Sl.n asks) : Int))) && (decide (i < 50)))) :: some ((us3 48)) :: some ((us3 49)) :: some ((us3 50)) :: some ((us3 51)) :: some ((us3 52)) :: some ((us3 53)) :: some ((us3 54)) :: some ((us3 55)) :: some ((us3 56)) :: some ((us3 57)) :: some ((us3 58)) :: some ((us3 59)) :: some ((us3 60)) :: some ((us3 61)) :: some (.pointer x2) :: some (.int .i64 to_) :: some (Sl.v x5) :: some (.tuple #[.int .i64 x02, Sl.v x13]) :: some (.pointer x2) :: some (.int .i64 x0) :: some (.tuple #[.int .i64 x02, Sl.v x13]) :: some (.int .i64 x02) :: some (Sl.v x13) :: some (.int .i64 x11) :: some (.bool (x11 == 0)) :: some (.bool (x11 == 0)) :: some ((us5 74)) :: some ((us5 75)) :: some ((us5 76)) :: some ((us5 77)) :: some ((us5 78)) :: some ((us5 79)) :: some ((us5 80)) :: some (.bool ((x11 == 0) && ((x02 == 1) == (decide (to_ ≤ (IntKind.i64.wrap (now + 50))))))) :: some (.bool ((x11 == 0) && ((x02 == 1) == (decide (to_ ≤ (IntKind.i64.wrap (now + 50))))))) :: none :: none :: none :: none :: none :: none :: none :: some (.bool (((x11 == 0) && ((x02 == 1) == (decide (to_ ≤ (IntKind.i64.wrap (now + 50)))))) && ((x02 == 4) == (decide (to_ > (IntKind.i64.wrap (now + 50))))))) :: [])).toArray, []⟩ : Act)) ∧ w_7 = w') ?_ ?_
          · simp only [List.take_succ_cons, List.take_zero]
            rcases Bool.eq_false_or_eq_true ((x11 == 0) && ((x02 == 1) == (decide (to_ ≤ (IntKind.i64.wrap (now + 50)))))) with hg5 | hg5
            · refine st_val (.int .i64 x02) (wt rfl rfl rfl (congrArg (fun z => some (Value.bool z)) hg5) rfl) rfl (by simp only [f0, f1, f2]; rfl) ?_
              refine st_val (.bool (x02 == 4)) (wt rfl rfl rfl (congrArg (fun z => some (Value.bool z)) hg5) rfl) rfl (by simp only [f0, f1, f2]; rfl) ?_
              refine st_val (.int .i64 to_) (wt rfl rfl rfl (congrArg (fun z => some (Value.bool z)) hg5) rfl) rfl (by simp only [f0, f1, f2]; rfl) ?_
              refine st_val (.int .i64 now) (wt rfl rfl rfl (congrArg (fun z => some (Value.bool z)) hg5) rfl) rfl (by simp only [f0, f1, f2]; rfl) ?_
              refine st_val (.int .i64 (IntKind.i64.wrap (now + 50))) (wt rfl rfl rfl (congrArg (fun z => some (Value.bool z)) hg5) rfl) rfl (by simp only [f0, f1, f2]; rfl) ?_
              refine st_val (.bool (decide (to_ > (IntKind.i64.wrap (now + 50))))) (wt rfl rfl rfl (congrArg (fun z => some (Value.bool z)) hg5) rfl) rfl (by simp only [f0, f1, f2]; rfl) ?_
              refine st_val (.bool ((x02 == 4) == (decide (to_ > (IntKind.i64.wrap (now + 50)))))) (wt rfl rfl rfl (congrArg (fun z => some (Value.bool z)) hg5) rfl) (r_eqlBool Try.underlying4 rfl rfl) (by simp only [f0, f1, f2]; rfl) ?_
              refine st_val (.bool ((x02 == 4) == (decide (to_ > (IntKind.i64.wrap (now + 50)))))) (wn rfl) (r_pickT (congrArg Value.bool hg5) rfl) (by simp only [f0, f1, f2]; rfl) ?_
              refine wpList_nil ?_
              exact then_normal ⟨some_us (by simp only [masked, hg5, Bool.true_and, Bool.false_and, Bool.true_or, Bool.false_or, cond_true, cond_false]) rfl rfl, rfl⟩
            · refine st_no (wt rfl rfl rfl (congrArg (fun z => some (Value.bool z)) hg5) rfl) (by simp only [f0, f1, f2]; rfl) ?_
              refine st_no (wt rfl rfl rfl (congrArg (fun z => some (Value.bool z)) hg5) rfl) (by simp only [f0, f1, f2]; rfl) ?_
              refine st_no (wt rfl rfl rfl (congrArg (fun z => some (Value.bool z)) hg5) rfl) (by simp only [f0, f1, f2]; rfl) ?_
              refine st_no (wt rfl rfl rfl (congrArg (fun z => some (Value.bool z)) hg5) rfl) (by simp only [f0, f1, f2]; rfl) ?_
              refine st_no (wt rfl rfl rfl (congrArg (fun z => some (Value.bool z)) hg5) rfl) (by simp only [f0, f1, f2]; rfl) ?_
              refine st_no (wt rfl rfl rfl (congrArg (fun z => some (Value.bool z)) hg5) rfl) (by simp only [f0, f1, f2]; rfl) ?_
              refine st_no (wt rfl rfl rfl (congrArg (fun z => some (Value.bool z)) hg5) rfl) (by simp only [f0, f1, f2]; rfl) ?_
              refine st_val (.bool false) (wn rfl) (r_pickF (congrArg Value.bool hg5) rfl) (by simp only [f0, f1, f2]; rfl) ?_
              refine wpList_nil ?_
              exact then_normal ⟨some_us (by simp only [masked, hg5, Bool.true_and, Bool.false_and, Bool.true_or, Bool.false_or, cond_true, cond_false]) rfl rfl, rfl⟩
          rintro a0 _ ⟨⟨us6, hF⟩, rfl⟩
          simp only [fillin, Nat.reduceAdd] at hF
          subst hF
          simp only [List.drop_succ_cons, List.drop_zero]
          refine st_val (.bool (((x11 == 0) && ((x02 == 1) == (decide (to_ ≤ (IntKind.i64.wrap (now + 50)))))) && ((x02 == 4) == (decide (to_ > (IntKind.i64.wrap (now + 50))))))) (wn rfl) rfl (by simp only [f0, f1, f2]; rfl) ?_
          refine wpList_nil ?_
          refine then_normal ?_
          refine wp_ret ?_
          exact end_ret (r_res1 (v := .bool (((x11 == 0) && ((x02 == 1) == (decide (to_ ≤ (IntKind.i64.wrap (now + 50)))))) && ((x02 == 4) == (decide (to_ > (IntKind.i64.wrap (now + 50))))))) Try.results4 ⟨rfl, trivial⟩) rfl h

/-- what is to be shown of a call of pavaneref19.Same -/
def pavaneref19_Same_vc (a_ : Sl) (b : Sl) (R : Value → World → Prop) (w : World) : Prop :=
  ((((↑(Sl.n a_) : Int) != (↑(Sl.n b) : Int)) = true →
  R (.bool false) w) ∧
  (((↑(Sl.n a_) : Int) != (↑(Sl.n b) : Int)) = false →
  ∃ (I_ : Nat → Int → World → Prop) (nv1 : Nat), I_ nv1 0 w ∧
  ∀ (nv : Nat) (i : Int) (w_ : World), I_ nv i w_ →
  (((decide (i < (↑(Sl.n a_) : Int))) = true →
  ∃ ad : Addr, SlAt a_ i 4 ad ∧
  ∃ x1 : Int, Cells w_ (Addr.add ad 0) [.int .i64 x1] ∧
  ∃ ad1 : Addr, SlAt b i 4 ad1 ∧
  ∃ x2 : Int, Cells w_ (Addr.add ad1 0) [.int .i64 x2] ∧
  ∃ ad2 : Addr, ((x1 != x2) = false → SlAt a_ i 4 ad2) ∧
  ∃ x3 : Int, ((x1 != x2) = false → Cells w_ (Addr.add ad2 1) [.int .i64 x3]) ∧
  ∃ ad3 : Addr, ((x1 != x2) = false → SlAt b i 4 ad3) ∧
  ∃ x4 : Int, ((x1 != x2) = false → Cells w_ (Addr.add ad3 1) [.int .i64 x4]) ∧
  ∃ ad4 : Addr, (((x1 != x2) || (x3 != x4)) = false → SlAt a_ i 4 ad4) ∧
  ∃ x5 : Sl, (((x1 != x2) || (x3 != x4)) = false → Cells w_ (Addr.add ad4 2) [Sl.v x5]) ∧
  ∃ bs : List UInt8, (((x1 != x2) || (x3 != x4)) = false → Bytes w_ x5 bs) ∧
  ∃ ad5 : Addr, (((x1 != x2) || (x3 != x4)) = false → SlAt b i 4 ad5) ∧
  ∃ x6 : Sl, (((x1 != x2) || (x3 != x4)) = false → Cells w_ (Addr.add ad5 2) [Sl.v x6]) ∧
  ∃ bs1 : List UInt8, (((x1 != x2) || (x3 != x4)) = false → Bytes w_ x6 bs1) ∧
  ∃ ad6 : Addr, ((((x1 != x2) || (x3 != x4)) || (!((⟨List.toArray bs⟩ : ByteArray).toList == (⟨List.toArray bs1⟩ : ByteArray).toList))) = false → SlAt a_ i 4 ad6) ∧
  ∃ x7 : Int, ((((x1 != x2) || (x3 != x4)) || (!((⟨List.toArray bs⟩ : ByteArray).toList == (⟨List.toArray bs1⟩ : ByteArray).toList))) = false → Cells w_ (Addr.add ad6 3) [.int .i64 x7]) ∧
  ∃ ad7 : Addr, ((((x1 != x2) || (x3 != x4)) || (!((⟨List.toArray bs⟩ : ByteArray).toList == (⟨List.toArray bs1⟩ : ByteArray).toList))) = false → SlAt b i 4 ad7) ∧
  ∃ x8 : Int, ((((x1 != x2) || (x3 != x4)) || (!((⟨List.toArray bs⟩ : ByteArray).toList == (⟨List.toArray bs1⟩ : ByteArray).toList))) = false → Cells w_ (Addr.add ad7 3) [.int .i64 x8]) ∧
  ((((((x1 != x2) || (x3 != x4)) || (!((⟨List.toArray bs⟩ : ByteArray).toList == (⟨List.toArray bs1⟩ : ByteArray).toList))) || (x7 != x8)) = true →
  ∀ (w_1 : World), Only [] w_ w_1 →
  R (.bool false) w_1) ∧
  (((((x1 != x2) || (x3 != x4)) || (!((⟨List.toArray bs⟩ : ByteArray).toList == (⟨List.toArray bs1⟩ : ByteArray).toList))) || (x7 != x8)) = false →
  ∀ (w_1 : World), Only [] w_ w_1 →
  ∃ nv2 : Nat, nv2 < nv ∧ I_ nv2 (IntKind.i64.wrap (i + 1)) w_1))) ∧
  ((decide (i < (↑(Sl.n a_) : Int))) = false →
  R (.bool true) w_))))
theorem pavaneref19_Same_wp (a_ : Sl) (b : Sl) (R : Value → World → Prop) (w : World) (h : pavaneref19_Same_vc a_ b R w) :
    Calls Try.prog 19 #[Sl.v a_, Sl.v b] w fun e w' => ∃ v, e = .returned v ∧ R v w' := by
  unfold pavaneref19_Same_vc at h
  refine calls_of (k := 67) Try.func19 rfl Try.ntmps19 rfl rfl ?_
  simp only [List.replicate, List.cons_append, List.nil_append]
  refine wp_seq ?_
  refine wp_region_lit ?_
  refine st_val (.bool false) (wn rfl) rfl (by simp only [f0, f1, f2]; rfl) ?_
  refine wpList_nil ?_
  refine then_normal ?_
  refine wp_seq ?_
  refine wp_seq ?_
  refine wp_region_lit ?_
  refine st_val (Sl.v a_) (wn rfl) rfl (by simp only [f0, f1, f2]; rfl) ?_
  refine st_val (.int .i64 (↑(Sl.n a_) : Int)) (wn rfl) (r_len (s := a_) (Try.runUnderlying42 _) rfl) (by simp only [f0, f1, f2]; rfl) ?_
  refine st_val (Sl.v b) (wn rfl) rfl (by simp only [f0, f1, f2]; rfl) ?_
  refine st_val (.int .i64 (↑(Sl.n b) : Int)) (wn rfl) (r_len (s := b) (Try.runUnderlying42 _) rfl) (by simp only [f0, f1, f2]; rfl) ?_
  refine st_val (.bool ((↑(Sl.n a_) : Int) != (↑(Sl.n b) : Int))) (wn rfl) rfl (by simp only [f0, f1, f2]; rfl) ?_
  refine wpList_nil ?_
  refine then_normal ?_
  refine wp_cond_split (t := ((↑(Sl.n a_) : Int) != (↑(Sl.n b) : Int))) rfl (fun hc => ?_) (fun hc => ?_)
  · replace h := h.1 hc
    refine wp_seq ?_
    refine wp_region_lit ?_
    refine st_val (.bool false) (wn rfl) rfl (by simp only [f0, f1, f2]; rfl) ?_
    refine wpList_nil ?_
    refine then_normal ?_
    refine wp_ret ?_
    refine then_ret ?_
    exact end_ret (r_res1 (v := .bool false) Try.results19 ⟨rfl, trivial⟩) rfl h
  · replace h := h.2 hc
    refine wp_skip ?_
    refine then_normal ?_
    refine wp_seq ?_
    refine wp_seq ?_
    refine wp_region_lit ?_
    refine st_val (.int .i64 0) (wn rfl) rfl (by simp only [f0, f1, f2]; rfl) ?_
    refine wpList_nil ?_
    refine then_normal ?_
    refine wp_block ?_
    obtain ⟨I_, nv1, h0, hI⟩ := h
    refine wp_loop_ghost (fun nv' a' w' => ∃ i : Int, (∃ us : Nat → Value, a' = (⟨(fillin us 0 (some (Sl.v a_) :: some (Sl.v b) :: some undef :: some undef :: none :: some (.int .i64 i) :: some (Sl.v a_) :: some (.int .i64 (↑(Sl.n a_) : Int)) :: some (Sl.v b) :: some (.int .i64 (↑(Sl.n b) : Int)) :: some (.bool ((↑(Sl.n a_) : Int) != (↑(Sl.n b) : Int))) :: none :: none :: none :: none :: none :: none :: none :: none :: none :: none :: none :: none :: none :: none :: none :: none :: none :: none :: none :: none :: none :: none :: none :: none :: none :: none :: none :: none :: none :: none :: none :: none :: none :: none :: none :: none :: none :: none :: none :: none :: none :: none :: none :: none :: none :: none :: none :: none :: none :: none :: none :: none :: none :: none :: none :: none :: none :: none :: [])).toArray, []⟩ : Act)) ∧ I_ nv' i w') nv1 ?_ ?_
    · exact ⟨_, (some_us rfl rfl rfl), h0⟩
    · clear h0
      rintro nv a0 w_ ⟨i, ⟨us, hF⟩, h⟩
      simp only [fillin, Nat.reduceAdd] at hF
      subst hF
      replace h := hI _ _ _ h
      refine wp_seq ?_
      refine wp_seq ?_
      refine wp_region_lit ?_
      refine st_val (.int .i64 i) (wn rfl) rfl (by simp only [f0, f1, f2]; rfl) ?_
      refine st_val (Sl.v a_) (wn rfl) rfl (by simp only [f0, f1, f2]; rfl) ?_
      refine st_val (.int .i64 (↑(Sl.n a_) : Int)) (wn rfl) (r_len (s := a_) (Try.runUnderlying42 _) rfl) (by simp only [f0, f1, f2]; rfl) ?_
      refine st_val (.bool (decide (i < (↑(Sl.n a_) : Int)))) (wn rfl) rfl (by simp only [f0, f1, f2]; rfl) ?_
      refine wpList_nil ?_
      refine then_normal ?_
      refine wp_cond_split (t := (decide (i < (↑(Sl.n a_) : Int)))) rfl (fun hc1 => ?_) (fun hc1 => ?_)
      · replace h := h.1 hc1
        refine wp_skip ?_
        refine then_normal ?_
        refine wp_seq ?_
        refine wp_block ?_
        refine wp_seq ?_
        obtain ⟨ad, hx, h⟩ := h
        obtain ⟨x1, hx1, h⟩ := h
        obtain ⟨ad1, hx2, h⟩ := h
        obtain ⟨x2, hx3, h⟩ := h
        obtain ⟨ad2, hx4, h⟩ := h
        obtain ⟨x3, hx5, h⟩ := h
        obtain ⟨ad3, hx6, h⟩ := h
        obtain ⟨x4, hx7, h⟩ := h
        obtain ⟨ad4, hx8, h⟩ := h
        obtain ⟨x5, hx9, h⟩ := h
        obtain ⟨bs, hx10, h⟩ := h
        obtain ⟨ad5, hx11, h⟩ := h
        obtain ⟨x6, hx12, h⟩ := h
        obtain ⟨bs1, hx13, h⟩ := h
        obtain ⟨ad6, hx14, h⟩ := h
        obtain ⟨x7, hx15, h⟩ := h
        obtain ⟨ad7, hx16, h⟩ := h
        obtain ⟨x8, hx17, h⟩ := h
        refine wp_region_quiet_lit Try.checked.mixed (by kernel_rfl) ?_
        refine q_val (Sl.v a_) (wn rfl) (by rintro _ ⟨nd, rfl⟩; exact rfl) (by simp only [f0, f1, f2]; rfl) ?_
        refine q_val (.int .i64 i) (wn rfl) (by rintro _ ⟨nd, rfl⟩; exact rfl) (by simp only [f0, f1, f2]; rfl) ?_
        refine q_val (.pointer (some ad)) (wn rfl) (by rintro _ ⟨nd, rfl⟩; exact (r_indexS (s := a_) (Try.runUnderlying42 _) (Try.sizeOf49 _) rfl rfl hx)) (by simp only [f0, f1, f2]; rfl) ?_
        refine q_val (.pointer (some (Addr.add ad 0))) (wn rfl) (by rintro _ ⟨nd, rfl⟩; exact (r_field (Try.runUnderlying49 _) rfl (Try.sizeOf3 _) rfl rfl)) (by simp only [f0, f1, f2]; rfl) ?_
        refine q_val (.int .i64 x1) (wn rfl) (by rintro _ ⟨nd, rfl⟩; exact (r_load1 (Try.isAgg3 _) rfl (Cells.one (q_cells hx1)))) (by simp only [f0, f1, f2]; rfl) ?_
        refine q_val (Sl.v b) (wn rfl) (by rintro _ ⟨nd, rfl⟩; exact rfl) (by simp only [f0, f1, f2]; rfl) ?_
        refine q_val (.int .i64 i) (wn rfl) (by rintro _ ⟨nd, rfl⟩; exact rfl) (by simp only [f0, f1, f2]; rfl) ?_
        refine q_val (.pointer (some ad1)) (wn rfl) (by rintro _ ⟨nd, rfl⟩; exact (r_indexS (s := b) (Try.runUnderlying42 _) (Try.sizeOf49 _) rfl rfl hx2)) (by simp only [f0, f1, f2]; rfl) ?_
        refine q_val (.pointer (some (Addr.add ad1 0))) (wn rfl) (by rintro _ ⟨nd, rfl⟩; exact (r_field (Try.runUnderlying49 _) rfl (Try.sizeOf3 _) rfl rfl)) (by simp only [f0, f1, f2]; rfl) ?_
        refine q_val (.int .i64 x2) (wn rfl) (by rintro _ ⟨nd, rfl⟩; exact (r_load1 (Try.isAgg3 _) rfl (Cells.one (q_cells hx3)))) (by simp only [f0, f1, f2]; rfl) ?_
        refine q_val (.bool (x1 != x2)) (wn rfl) (by rintro _ ⟨nd, rfl⟩; exact rfl) (by simp only [f0, f1, f2]; rfl) ?_
        refine q_val (.bool (x1 != x2)) (wn rfl) (by rintro _ ⟨nd, rfl⟩; exact rfl) (by simp only [f0, f1, f2]; rfl) ?_
        refine q_cut 12 (fun a' => ∃ us1 : Nat → Value, a' = (⟨(fillin us1 0 (some (Sl.v a_) :: some (Sl.v b) :: some undef :: some undef :: some ((us 4)) :: some (.int .i64 i) :: some (Sl.v a_) :: some (.int .i64 (↑(Sl.n a_) : Int)) :: some (Sl.v b) :: some (.int .i64 (↑(Sl.n b) : Int)) :: some (.bool ((↑(Sl.n a_) : Int) != (↑(Sl.n b) : Int))) :: some (.int .i64 i) :: some (Sl.v a_) :: some (.int .i64 (↑(Sl.n a_) : Int)) :: some (.bool (decide (i < (↑(Sl.n a_) : Int)))) :: some ((us 15)) :: some ((us 16)) :: some (Sl.v a_) :: some (.int .i64 i) :: some (.pointer (some ad)) :: some (.pointer (some (Addr.add ad 0))) :: some (.int .i64 x1) :: some (Sl.v b) :: some (.int .i64 i) :: some (.pointer (some ad1)) :: some (.pointer (some (Addr.add ad1 0))) :: some (.int .i64 x2) :: some (.bool (x1 != x2)) :: some (.bool (x1 != x2)) :: none :: none :: none :: none :: none :: none :: none :: none :: none :: none :: none :: some (.bool ((x1 != x2) || (x3 != x4))) :: some ((us 41)) :: some ((us 42)) :: some ((us 43)) :: some ((us 44)) :: some ((us 45)) :: some ((us 46)) :: some ((us 47)) :: some ((us 48)) :: some ((us 49)) :: some ((us 50)) :: some ((us 51)) :: some ((us 52)) :: some ((us 53)) :: some ((us 54)) :: some ((us 55)) :: some ((us 56)) :: some ((us 57)) :: some ((us 58)) :: some ((us 59)) :: some ((us 60)) :: some ((us 61)) :: some ((us 62)) :: some ((us 63)) :: some ((us 64)) :: some ((us 65)) :: some ((us 66)) :: some ((us 67)) :: some ((us 68)) :: [])).toArray, []⟩ : Act)) ?_ ?_
        · simp only [List.take_succ_cons, List.take_zero]
          rcases Bool.eq_false_or_eq_true (x1 != x2) with hg | hg
          · refine q_no (wt rfl rfl rfl (congrArg (fun z => some (Value.bool z)) hg) rfl) (by simp only [f0, f1, f2]; rfl) ?_
            refine q_no (wt rfl rfl rfl (congrArg (fun z => some (Value.bool z)) hg) rfl) (by simp only [f0, f1, f2]; rfl) ?_
            refine q_no (wt rfl rfl rfl (congrArg (fun z => some (Value.bool z)) hg) rfl) (by simp only [f0, f1, f2]; rfl) ?_
            refine q_no (wt rfl rfl rfl (congrArg (fun z => some (Value.bool z)) hg) rfl) (by simp only [f0, f1, f2]; rfl) ?_
            refine q_no (wt rfl rfl rfl (congrArg (fun z => some (Value.bool z)) hg) rfl) (by simp only [f0, f1, f2]; rfl) ?_
            refine q_no (wt rfl rfl rfl (congrArg (fun z => some (Value.bool z)) hg) rfl) (by simp only [f0, f1, f2]; rfl) ?_
            refine q_no (wt rfl rfl rfl (congrArg (fun z => some (Value.bool z)) hg) rfl) (by simp only [f0, f1, f2]; rfl) ?_
            refine q_no (wt rfl rfl rfl (congrArg (fun z => some (Value.bool z)) hg) rfl) (by simp only [f0, f1, f2]; rfl) ?_
            refine q_no (wt rfl rfl rfl (congrArg (fun z => some (Value.bool z)) hg) rfl) (by simp only [f0, f1, f2]; rfl) ?_
            refine q_no (wt rfl rfl rfl (congrArg (fun z => some (Value.bool z)) hg) rfl) (by simp only [f0, f1, f2]; rfl) ?_
            refine q_no (wt rfl rfl rfl (congrArg (fun z => some (Value.bool z)) hg) rfl) (by simp only [f0, f1, f2]; rfl) ?_
            refine q_val (.bool true) (wn rfl) (by rintro _ ⟨nd, rfl⟩; exact (r_pickT (congrArg Value.bool hg) rfl)) (by simp only [f0, f1, f2]; rfl) ?_
            refine wpQuiet_nil ?_
            exact some_us (by simp only [masked, hg, Bool.true_and, Bool.false_and, Bool.true_or, Bool.false_or, cond_true, cond_false]) rfl rfl
          · refine q_val (Sl.v a_) (wt rfl rfl rfl (congrArg (fun z => some (Value.bool z)) hg) rfl) (by rintro _ ⟨nd, rfl⟩; exact rfl) (by simp only [f0, f1, f2]; rfl) ?_
            refine q_val (.int .i64 i) (wt rfl rfl rfl (congrArg (fun z => some (Value.bool z)) hg) rfl) (by rintro _ ⟨nd, rfl⟩; exact rfl) (by simp only [f0, f1, f2]; rfl) ?_
            refine q_val (.pointer (some ad2)) (wt rfl rfl rfl (congrArg (fun z => some (Value.bool z)) hg) rfl) (by rintro _ ⟨nd, rfl⟩; exact (r_indexS (s := a_) (Try.runUnderlying42 _) (Try.sizeOf49 _) rfl rfl (hx4 hg))) (by simp only [f0, f1, f2]; rfl) ?_
            refine q_val (.pointer (some (Addr.add ad2 1))) (wt rfl rfl rfl (congrArg (fun z => some (Value.bool z)) hg) rfl) (by rintro _ ⟨nd, rfl⟩; exact (r_field (Try.runUnderlying49 _) rfl (Try.sizeOf3 _) rfl rfl)) (by simp only [f0, f1, f2]; rfl) ?_
            refine q_val (.int .i64 x3) (wt rfl rfl rfl (congrArg (fun z => some (Value.bool z)) hg) rfl) (by rintro _ ⟨nd, rfl⟩; exact (r_load1 (Try.isAgg3 _) rfl (Cells.one (q_cells (hx5 hg))))) (by simp only [f0, f1, f2]; rfl) ?_
            refine q_val (Sl.v b) (wt rfl rfl rfl (congrArg (fun z => some (Value.bool z)) hg) rfl) (by rintro _ ⟨nd, rfl⟩; exact rfl) (by simp only [f0, f1, f2]; rfl) ?_
            refine q_val (.int .i64 i) (wt rfl rfl rfl (congrArg (fun z => some (Value.bool z)) hg) rfl) (by rintro _ ⟨nd, rfl⟩; exact rfl) (by simp only [f0, f1, f2]; rfl) ?_
            refine q_val (.pointer (some ad3)) (wt rfl rfl rfl (congrArg (fun z => some (Value.bool z)) hg) rfl) (by rintro _ ⟨nd, rfl⟩; exact (r_indexS (s := b) (Try.runUnderlying42 _) (Try.sizeOf49 _) rfl rfl (hx6 hg))) (by simp only [f0, f1, f2]; rfl) ?_
            refine q_val (.pointer (some (Addr.add ad3 1))) (wt rfl rfl rfl (congrArg (fun z => some (Value.bool z)) hg) rfl) (by rintro _ ⟨nd, rfl⟩; exact (r_field (Try.runUnderlying49 _) rfl (Try.sizeOf3 _) rfl rfl)) (by simp only [f0, f1, f2]; rfl) ?_
            refine q_val (.int .i64 x4) (wt rfl rfl rfl (congrArg (fun z => some (Value.bool z)) hg) rfl) (by rintro _ ⟨nd, rfl⟩; exact (r_load1 (Try.isAgg3 _) rfl (Cells.one (q_cells (hx7 hg))))) (by simp only [f0, f1, f2]; rfl) ?_
            refine q_val (.bool (x3 != x4)) (wt rfl rfl rfl (congrArg (fun z => some (Value.bool z)) hg) rfl) (by rintro _ ⟨nd, rfl⟩; exact rfl) (by simp only [f0, f1, f2]; rfl) ?_
            refine q_val (.bool (x3 != x4)) (wn rfl) (by rintro _ ⟨nd, rfl⟩; exact (r_pickF (congrArg Value.bool hg) rfl)) (by simp only [f0, f1, f2]; rfl) ?_
            refine wpQuiet_nil ?_
            exact some_us (by simp only [masked, hg, Bool.true_and, Bool.false_and, Bool.true_or, Bool.false_or, cond_true, cond_false]) rfl rfl
        rintro a0 ⟨us1, hF⟩
        simp only [fillin, Nat.reduceAdd] at hF
        subst hF
        simp only [List.drop_succ_cons, List.drop_zero]
        refine q_val (.bool ((x1 != x2) || (x3 != x4))) (wn rfl) (by rintro _ ⟨nd, rfl⟩; exact rfl) (by simp only [f0, f1, f2]; rfl) ?_
        refine q_cut 14 (fun a' => ∃ us2 : Nat → Value, a' = (⟨(fillin us2 0 (some (Sl.v a_) :: some (Sl.v b) :: some undef :: some undef :: some ((us 4)) :: some (.int .i64 i) :: some (Sl.v a_) :: some (.int .i64 (↑(Sl.n a_) : Int)) :: some (Sl.v b) :: some (.int .i64 (↑(Sl.n b) : Int)) :: some (.bool ((↑(Sl.n a_) : Int) != (↑(Sl.n b) : Int))) :: some (.int .i64 i) :: some (Sl.v a_) :: some (.int .i64 (↑(Sl.n a_) : Int)) :: some (.bool (decide (i < (↑(Sl.n a_) : Int)))) :: some ((us 15)) :: some ((us 16)) :: some (Sl.v a_) :: some (.int .i64 i) :: some (.pointer (some ad)) :: some (.pointer (some (Addr.add ad 0))) :: some (.int .i64 x1) :: some (Sl.v b) :: some (.int .i64 i) :: some (.pointer (some ad1)) :: some (.pointer (some (Addr.add ad1 0))) :: some (.int .i64 x2) :: some (.bool (x1 != x2)) :: some (.bool (x1 != x2)) :: some ((us1 29)) :: some ((us1 30)) :: some ((us1 31)) :: some ((us1 32)) :: some ((us1 33)) :: some ((us1 34)) :: some ((us1 35)) :: some ((us1 36)) :: some ((us1 37)) :: some ((us1 38)) :: some ((us1 39)) :: some (.bool ((x1 != x2) || (x3 != x4))) :: some (.bool ((x1 != x2) || (x3 != x4))) :: none :: none :: none :: none :: none :: none :: none :: none :: none :: none :: none :: none :: none :: some (.bool (((x1 != x2) || (x3 != x4)) || (!((⟨List.toArray bs⟩ : ByteArray).toList == (⟨List.toArray bs1⟩ : ByteArray).toList)))) :: some ((us 56)) :: some ((us 57)) :: some ((us 58)) :: some ((us 59)) :: some ((us 60)) :: some ((us 61)) :: some ((us 62)) :: some ((us 63)) :: some ((us 64)) :: some ((us 65)) :: some ((us 66)) :: some ((us 67)) :: some ((us 68)) :: [])).toArray, []⟩ : Act)) ?_ ?_
        · simp only [List.take_succ_cons, List.take_zero]
          rcases Bool.eq_false_or_eq_true ((x1 != x2) || (x3 != x4)) with hg1 | hg1
          · refine q_no (wt rfl rfl rfl (congrArg (fun z => some (Value.bool z)) hg1) rfl) (by simp only [f0, f1, f2]; rfl) ?_
            refine q_no (wt rfl rfl rfl (congrArg (fun z => some (Value.bool z)) hg1) rfl) (by simp only [f0, f1, f2]; rfl) ?_
            refine q_no (wt rfl rfl rfl (congrArg (fun z => some (Value.bool z)) hg1) rfl) (by simp only [f0, f1, f2]; rfl) ?_
            refine q_no (wt rfl rfl rfl (congrArg (fun z => some (Value.bool z)) hg1) rfl) (by simp only [f0, f1, f2]; rfl) ?_
            refine q_no (wt rfl rfl rfl (congrArg (fun z => some (Value.bool z)) hg1) rfl) (by simp only [f0, f1, f2]; rfl) ?_
            refine q_no (wt rfl rfl rfl (congrArg (fun z => some (Value.bool z)) hg1) rfl) (by simp only [f0, f1, f2]; rfl) ?_
            refine q_no (wt rfl rfl rfl (congrArg (fun z => some (Value.bool z)) hg1) rfl) (by simp only [f0, f1, f2]; rfl) ?_
            refine q_no (wt rfl rfl rfl (congrArg (fun z => some (Value.bool z)) hg1) rfl) (by simp only [f0, f1, f2]; rfl) ?_
            refine q_no (wt rfl rfl rfl (congrArg (fun z => some (Value.bool z)) hg1) rfl) (by simp only [f0, f1, f2]; rfl) ?_
            refine q_no (wt rfl rfl rfl (congrArg (fun z => some (Value.bool z)) hg1) rfl) (by simp only [f0, f1, f2]; rfl) ?_
            refine q_no (wt rfl rfl rfl (congrArg (fun z => some (Value.bool z)) hg1) rfl) (by simp only [f0, f1, f2]; rfl) ?_
            refine q_no (wt rfl rfl rfl (congrArg (fun z => some (Value.bool z)) hg1) rfl) (by simp only [f0, f1, f2]; rfl) ?_
            refine q_no (wt rfl rfl rfl (congrArg (fun z => some (Value.bool z)) hg1) rfl) (by simp only [f0, f1, f2]; rfl) ?_
            refine q_val (.bool true) (wn rfl) (by rintro _ ⟨nd, rfl⟩; exact (r_pickT (congrArg Value.bool hg1) rfl)) (by simp only [f0, f1, f2]; rfl) ?_
            refine wpQuiet_nil ?_
            exact some_us (by simp only [masked, hg1, Bool.true_and, Bool.false_and, Bool.true_or, Bool.false_or, cond_true, cond_false]) rfl rfl
          · refine q_val (Sl.v a_) (wt rfl rfl rfl (congrArg (fun z => some (Value.bool z)) hg1) rfl) (by rintro _ ⟨nd, rfl⟩; exact rfl) (by simp only [f0, f1, f2]; rfl) ?_
            refine q_val (.int .i64 i) (wt rfl rfl rfl (congrArg (fun z => some (Value.bool z)) hg1) rfl) (by rintro _ ⟨nd, rfl⟩; exact rfl) (by simp only [f0, f1, f2]; rfl) ?_
            refine q_val (.pointer (some ad4)) (wt rfl rfl rfl (congrArg (fun z => some (Value.bool z)) hg1) rfl) (by rintro _ ⟨nd, rfl⟩; exact (r_indexS (s := a_) (Try.runUnderlying42 _) (Try.sizeOf49 _) rfl rfl (hx8 hg1))) (by simp only [f0, f1, f2]; rfl) ?_
            refine q_val (.pointer (some (Addr.add ad4 2))) (wt rfl rfl rfl (congrArg (fun z => some (Value.bool z)) hg1) rfl) (by rintro _ ⟨nd, rfl⟩; exact (r_field (Try.runUnderlying49 _) rfl (Try.sizeOf27 _) rfl rfl)) (by simp only [f0, f1, f2]; rfl) ?_
            refine q_val (Sl.v x5) (wt rfl rfl rfl (congrArg (fun z => some (Value.bool z)) hg1) rfl) (by rintro _ ⟨nd, rfl⟩; exact (r_load1 (Try.isAgg27 _) rfl (Cells.one (q_cells (hx9 hg1))))) (by simp only [f0, f1, f2]; rfl) ?_
            refine q_val (.string (⟨List.toArray bs⟩ : ByteArray)) (wt rfl rfl rfl (congrArg (fun z => some (Value.bool z)) hg1) rfl) (by rintro _ ⟨nd, rfl⟩; exact (r_bytesStr (sl := x5) Try.underlying27 Try.underlying5 Try.underlying9 rfl (q_bytes (hx10 hg1)))) (by simp only [f0, f1, f2]; rfl) ?_
            refine q_val (Sl.v b) (wt rfl rfl rfl (congrArg (fun z => some (Value.bool z)) hg1) rfl) (by rintro _ ⟨nd, rfl⟩; exact rfl) (by simp only [f0, f1, f2]; rfl) ?_
            refine q_val (.int .i64 i) (wt rfl rfl rfl (congrArg (fun z => some (Value.bool z)) hg1) rfl) (by rintro _ ⟨nd, rfl⟩; exact rfl) (by simp only [f0, f1, f2]; rfl) ?_
            refine q_val (.pointer (some ad5)) (wt rfl rfl rfl (congrArg (fun z => some (Value.bool z)) hg1) rfl) (by rintro _ ⟨nd, rfl⟩; exact (r_indexS (s := b) (Try.runUnderlying42 _) (Try.sizeOf49 _) rfl rfl (hx11 hg1))) (by simp only [f0, f1, f2]; rfl) ?_
            refine q_val (.pointer (some (Addr.add ad5 2))) (wt rfl rfl rfl (congrArg (fun z => some (Value.bool z)) hg1) rfl) (by rintro _ ⟨nd, rfl⟩; exact (r_field (Try.runUnderlying49 _) rfl (Try.sizeOf27 _) rfl rfl)) (by simp only [f0, f1, f2]; rfl) ?_
            refine q_val (Sl.v x6) (wt rfl rfl rfl (congrArg (fun z => some (Value.bool z)) hg1) rfl) (by rintro _ ⟨nd, rfl⟩; exact (r_load1 (Try.isAgg27 _) rfl (Cells.one (q_cells (hx12 hg1))))) (by simp only [f0, f1, f2]; rfl) ?_
            refine q_val (.string (⟨List.toArray bs1⟩ : ByteArray)) (wt rfl rfl rfl (congrArg (fun z => some (Value.bool z)) hg1) rfl) (by rintro _ ⟨nd, rfl⟩; exact (r_bytesStr (sl := x6) Try.underlying27 Try.underlying5 Try.underlying9 rfl (q_bytes (hx13 hg1)))) (by simp only [f0, f1, f2]; rfl) ?_
            refine q_val (.bool (!((⟨List.toArray bs⟩ : ByteArray).toList == (⟨List.toArray bs1⟩ : ByteArray).toList))) (wt rfl rfl rfl (congrArg (fun z => some (Value.bool z)) hg1) rfl) (by rintro _ ⟨nd, rfl⟩; exact rfl) (by simp only [f0, f1, f2]; rfl) ?_
            refine q_val (.bool (!((⟨List.toArray bs⟩ : ByteArray).toList == (⟨List.toArray bs1⟩ : ByteArray).toList))) (wn rfl) (by rintro _ ⟨nd, rfl⟩; exact (r_pickF (congrArg Value.bool hg1) rfl)) (by simp only [f0, f1, f2]; rfl) ?_
            refine wpQuiet_nil ?_
            exact some_us (by simp only [masked, hg1, Bool.true_and, Bool.false_and, Bool.true_or, Bool.false_or, cond_true, cond_false]) rfl rfl
        rintro a0 ⟨us2, hF⟩
        simp only [fillin, Nat.reduceAdd] at hF
        subst hF
        simp only [List.drop_succ_cons, List.drop_zero]
        refine q_val (.bool (((x1 != x2) || (x3 != x4)) || (!((⟨List.toArray bs⟩ : ByteArray).toList == (⟨List.toArray bs1⟩ : ByteArray).toList)))) (wn rfl) (by rintro _ ⟨nd, rfl⟩; exact rfl) (by simp only [f0, f1, f2]; rfl) ?_
        refine q_cut 12 (fun a' => ∃ us3 : Nat → Value, a' = (⟨(fillin us3 0 (some (Sl.v a_) :: some (Sl.v b) :: some undef :: some undef :: some ((us 4)) :: some (.int .i64 i) :: some (Sl.v a_) :: some (.int .i64 (↑(Sl.n a_) : Int)) :: some (Sl.v b) :: some (.int .i64 (↑(Sl.n b) : Int)) :: some (.bool ((↑(Sl.n a_) : Int) != (↑(Sl.n b) : Int))) :: some (.int .i64 i) :: some (Sl.v a_) :: some (.int .i64 (↑(Sl.n a_) : Int)) :: some (.bool (decide (i < (↑(Sl.n a_) : Int)))) :: some ((us 15)) :: some ((us 16)) :: some (Sl.v a_) :: some (.int .i64 i) :: some (.pointer (some ad)) :: some (.pointer (some (Addr.add ad 0))) :: some (.int .i64 x1) :: some (Sl.v b) :: some (.int .i64 i) :: some (.pointer (some ad1)) :: some (.pointer (some (Addr.add ad1 0))) :: some (.int .i64 x2) :: some (.bool (x1 != x2)) :: some (.bool (x1 != x2)) :: some ((us1 29)) :: some ((us1 30)) :: some ((us1 31)) :: some ((us1 32)) :: some ((us1 33)) :: some ((us1 34)) :: some ((us1 35)) :: some ((us1 36)) :: some ((us1 37)) :: some ((us1 38)) :: some ((us1 39)) :: some (.bool ((x1 != x2) || (x3 != x4))) :: some (.bool ((x1 != x2) || (x3 != x4))) :: some ((us2 42)) :: some ((us2 43)) :: some ((us2 44)) :: some ((us2 45)) :: some ((us2 46)) :: some ((us2 47)) :: some ((us2 48)) :: some ((us2 49)) :: some ((us2 50)) :: some ((us2 51)) :: some ((us2 52)) :: some ((us2 53)) :: some ((us2 54)) :: some (.bool (((x1 != x2) || (x3 != x4)) || (!((⟨List.toArray bs⟩ : ByteArray).toList == (⟨List.toArray bs1⟩ : ByteArray).toList)))) :: some (.bool (((x1 != x2) || (x3 != x4)) || (!((⟨List.toArray bs⟩ : ByteArray).toList == (⟨List.toArray bs1⟩ : ByteArray).toList)))) :: none :: none :: none :: none :: none :: none :: none :: none :: none :: none :: none :: some (.bool ((((x1 != x2) || (x3 != x4)) || (!((⟨List.toArray bs⟩ : ByteArray).toList == (⟨List.toArray bs1⟩ : ByteArray).toList))) || (x7 != x8))) :: [])).toArray, []⟩ : Act)) ?_ ?_
        · simp only [List.take_succ_cons, List.take_zero]
          rcases Bool.eq_false_or_eq_true (((x1 != x2) || (x3 != x4)) || (!((⟨List.toArray bs⟩ : ByteArray).toList == (⟨List.toArray bs1⟩ : ByteArray).toList))) with hg2 | hg2
          · refine q_no (wt rfl rfl rfl (congrArg (fun z => some (Value.bool z)) hg2) rfl) (by simp only [f0, f1, f2]; rfl) ?_
            refine q_no (wt rfl rfl rfl (congrArg (fun z => some (Value.bool z)) hg2) rfl) (by simp only [f0, f1, f2]; rfl) ?_
            refine q_no (wt rfl rfl rfl (congrArg (fun z => some (Value.bool z)) hg2) rfl) (by simp only [f0, f1, f2]; rfl) ?_
            refine q_no (wt rfl rfl rfl (congrArg (fun z => some (Value.bool z)) hg2) rfl) (by simp only [f0, f1, f2]; rfl) ?_
            refine q_no (wt rfl rfl rfl (congrArg (fun z => some (Value.bool z)) hg2) rfl) (by simp only [f0, f1, f2]; rfl) ?_
            refine q_no (wt rfl rfl rfl (congrArg (fun z => some (Value.bool z)) hg2) rfl) (by simp only [f0, f1, f2]; rfl) ?_
            refine q_no (wt rfl rfl rfl (congrArg (fun z => some (Value.bool z)) hg2) rfl) (by simp only [f0, f1, f2]; rfl) ?_
            refine q_no (wt rfl rfl rfl (congrArg (fun z => some (Value.bool z)) hg2) rfl) (by simp only [f0, f1, f2]; rfl) ?_
            refine q_no (wt rfl rfl rfl (congrArg (fun z => some (Value.bool z)) hg2) rfl) (by simp only [f0, f1, f2]; rfl) ?_
            refine q_no (wt rfl rfl rfl (congrArg (fun z => some (Value.bool z)) hg2) rfl) (by simp only [f0, f1, f2]; rfl) ?_
            refine q_no (wt rfl rfl rfl (congrArg (fun z => some (Value.bool z)) hg2) rfl) (by simp only [f0, f1, f2]; rfl) ?_
            refine q_val (.bool true) (wn rfl) (by rintro _ ⟨nd, rfl⟩; exact (r_pickT (congrArg Value.bool hg2) rfl)) (by simp only [f0, f1, f2]; rfl) ?_
            refine wpQuiet_nil ?_
            exact some_us (by simp only [masked, hg2, Bool.true_and, Bool.false_and, Bool.true_or, Bool.false_or, cond_true, cond_false]) rfl rfl
          · refine q_val (Sl.v a_) (wt rfl rfl rfl (congrArg (fun z => some (Value.bool z)) hg2) rfl) (by rintro _ ⟨nd, rfl⟩; exact rfl) (by simp only [f0, f1, f2]; rfl) ?_
            refine q_val (.int .i64 i) (wt rfl rfl rfl (congrArg (fun z => some (Value.bool z)) hg2) rfl) (by rintro _ ⟨nd, rfl⟩; exact rfl) (by simp only [f0, f1, f2]; rfl) ?_
            refine q_val (.pointer (some ad6)) (wt rfl rfl rfl (congrArg (fun z => some (Value.bool z)) hg2) rfl) (by rintro _ ⟨nd, rfl⟩; exact (r_indexS (s := a_) (Try.runUnderlying42 _) (Try.sizeOf49 _) rfl rfl (hx14 hg2))) (by simp only [f0, f1, f2]; rfl) ?_
            refine q_val (.pointer (some (Addr.add ad6 3))) (wt rfl rfl rfl (congrArg (fun z => some (Value.bool z)) hg2) rfl) (by rintro _ ⟨nd, rfl⟩; exact (r_field (Try.runUnderlying49 _) rfl (Try.sizeOf3 _) rfl rfl)) (by simp only [f0, f1, f2]; rfl) ?_
            refine q_val (.int .i64 x7) (wt rfl rfl rfl (congrArg (fun z => some (Value.bool z)) hg2) rfl) (by rintro _ ⟨nd, rfl⟩; exact (r_load1 (Try.isAgg3 _) rfl (Cells.one (q_cells (hx15 hg2))))) (by simp only [f0, f1, f2]; rfl) ?_
            refine q_val (Sl.v b) (wt rfl rfl rfl (congrArg (fun z => some (Value.bool z)) hg2) rfl) (by rintro _ ⟨nd, rfl⟩; exact rfl) (by simp only [f0, f1, f2]; rfl) ?_
            refine q_val (.int .i64 i) (wt rfl rfl rfl (congrArg (fun z => some (Value.bool z)) hg2) rfl) (by rintro _ ⟨nd, rfl⟩; exact rfl) (by simp only [f0, f1, f2]; rfl) ?_
            refine q_val (.pointer (some ad7)) (wt rfl rfl rfl (congrArg (fun z => some (Value.bool z)) hg2) rfl) (by rintro _ ⟨nd, rfl⟩; exact (r_indexS (s := b) (Try.runUnderlying42 _) (Try.sizeOf49 _) rfl rfl (hx16 hg2))) (by simp only [f0, f1, f2]; rfl) ?_
            refine q_val (.pointer (some (Addr.add ad7 3))) (wt rfl rfl rfl (congrArg (fun z => some (Value.bool z)) hg2) rfl) (by rintro _ ⟨nd, rfl⟩; exact (r_field (Try.runUnderlying49 _) rfl (Try.sizeOf3 _) rfl rfl)) (by simp only [f0, f1, f2]; rfl) ?_
            refine q_val (.int .i64 x8) (wt rfl rfl rfl (congrArg (fun z => some (Value.bool z)) hg2) rfl) (by rintro _ ⟨nd, rfl⟩; exact (r_load1 (Try.isAgg3 _) rfl (Cells.one (q_cells (hx17 hg2))))) (by simp only [f0, f1, f2]; rfl) ?_
            refine q_val (.bool (x7 != x8)) (wt rfl rfl rfl (congrArg (fun z => some (Value.bool z)) hg2) rfl) (by rintro _ ⟨nd, rfl⟩; exact rfl) (by simp only [f0, f1, f2]; rfl) ?_
            refine q_val (.bool (x7 != x8)) (wn rfl) (by rintro _ ⟨nd, rfl⟩; exact (r_pickF (congrArg Value.bool hg2) rfl)) (by simp only [f0, f1, f2]; rfl) ?_
            refine wpQuiet_nil ?_
            exact some_us (by simp only [masked, hg2, Bool.true_and, Bool.false_and, Bool.true_or, Bool.false_or, cond_true, cond_false]) rfl rfl
        rintro a0 ⟨us3, hF⟩
        simp only [fillin, Nat.reduceAdd] at hF
        subst hF
        simp only [List.drop_succ_cons, List.drop_zero]
        refine wpQuiet_nil ?_
        rintro _ ⟨nd, rfl⟩
        have hO := Only.drewN w_ nd
        generalize w_.drewN nd = w_1 at *
        have hA : Only [] w_ w_1 := hO
        refine then_normal ?_
        refine wp_cond_split (t := ((((x1 != x2) || (x3 != x4)) || (!((⟨List.toArray bs⟩ : ByteArray).toList == (⟨List.toArray bs1⟩ : ByteArray).toList))) || (x7 != x8))) rfl (fun hc2 => ?_) (fun hc2 => ?_)
        · replace h := h.1 hc2
          refine wp_seq ?_
          refine wp_region_lit ?_
          refine st_val (.bool false) (wn rfl) rfl (by simp only [f0, f1, f2]; rfl) ?_
          refine wpList_nil ?_
          refine then_normal ?_
          refine wp_ret ?_
          refine block_ret ?_
          refine then_ret ?_
          refine then_ret ?_
          refine block_ret ?_
          refine then_ret ?_
          replace h := h w_1 hA
          exact end_ret (r_res1 (v := .bool false) Try.results19 ⟨rfl, trivial⟩) rfl h
        · replace h := h.2 hc2
          refine wp_skip ?_
          refine block_normal ?_
          refine then_normal ?_
          refine wp_region_lit ?_
          refine st_val (.int .i64 i) (wn rfl) rfl (by simp only [f0, f1, f2]; rfl) ?_
          refine st_val (.int .i64 (IntKind.i64.wrap (i + 1))) (wn rfl) rfl (by simp only [f0, f1, f2]; rfl) ?_
          refine st_val (.int .i64 (IntKind.i64.wrap (i + 1))) (wn rfl) rfl (by simp only [f0, f1, f2]; rfl) ?_
          refine wpList_nil ?_
          refine then_normal ?_
          replace h := h w_1 hA
          obtain ⟨nv2, hl, h⟩ := h
          exact ⟨nv2, hl, _, (some_us rfl rfl rfl), h⟩
      · replace h := h.2 hc1
        refine wp_exit ?_
        refine then_exit ?_
        refine then_exit ?_
        refine block_hit ?_
        refine then_normal ?_
        refine wp_seq ?_
        refine wp_region_lit ?_
        refine st_val (.bool true) (wn rfl) rfl (by simp only [f0, f1, f2]; rfl) ?_
        refine wpList_nil ?_
        refine then_normal ?_
        refine wp_ret ?_
        exact end_ret (r_res1 (v := .bool true) Try.results19 ⟨rfl, trivial⟩) rfl h

/-- what is to be shown of a call of slices.Clone[[]api.Seat,api.Seat] -/
def slices_Clone_api_Seat_vc (s : Sl) (R : Value → World → Prop) (w : World) : Prop :=
  (((Option.isNone (Sl.a s)) = true →
  R (Sl.v Sl.nil) w) ∧
  ((Option.isNone (Sl.a s)) = false →
  ∃ x1 : Sl, ∃ w_ : World, (Instr.buildSlice 42 0 #[]).run Try.prog w = .ok (Sl.v x1) w_ ∧
  ∃ x2 : Sl, ∃ w_1 : World, (Builtin.append_ #[42, 42] 42 #[Sl.v x1, Sl.v s]).run Try.prog w_ = .ok (Sl.v x2) w_1 ∧
  R (Sl.v x2) w_1))
theorem slices_Clone_api_Seat_wp (s : Sl) (R : Value → World → Prop) (w : World) (h : slices_Clone_api_Seat_vc s R w) :
    Calls Try.prog 42 #[Sl.v s] w fun e w' => ∃ v, e = .returned v ∧ R v w' := by
  unfold slices_Clone_api_Seat_vc at h
  refine calls_of (k := 7) Try.func42 rfl Try.ntmps42 rfl rfl ?_
  simp only [List.replicate, List.cons_append, List.nil_append]
  refine wp_seq ?_
  refine wp_region_lit ?_
  refine st_val (Sl.v Sl.nil) (wn rfl) rfl (by simp only [f0, f1, f2]; rfl) ?_
  refine wpList_nil ?_
  refine then_normal ?_
  refine wp_seq ?_
  refine wp_seq ?_
  refine wp_region_lit ?_
  refine st_val (Sl.v s) (wn rfl) rfl (by simp only [f0, f1, f2]; rfl) ?_
  refine st_val (.bool (Option.isNone (Sl.a s))) (wn rfl) (r_eqlSlNilR (Try.runUnderlying42 _) rfl rfl) (by simp only [f0, f1, f2]; rfl) ?_
  refine wpList_nil ?_
  refine then_normal ?_
  refine wp_cond_split (t := (Option.isNone (Sl.a s))) rfl (fun hc => ?_) (fun hc => ?_)
  · replace h := h.1 hc
    refine wp_seq ?_
    refine wp_region_lit ?_
    refine st_val (Sl.v Sl.nil) (wn rfl) rfl (by simp only [f0, f1, f2]; rfl) ?_
    refine wpList_nil ?_
    refine then_normal ?_
    refine wp_ret ?_
    refine then_ret ?_
    exact end_ret (r_res1 (v := Sl.v Sl.nil) Try.results42 ⟨rfl, trivial⟩) rfl h
  · replace h := h.2 hc
    refine wp_skip ?_
    refine then_normal ?_
    refine wp_seq ?_
    refine wp_region_lit ?_
    obtain ⟨x1, w_, hr, h⟩ := h
    refine st_one (wn rfl) ?_
    refine o_val (Sl.v x1) (r_buildSlice rfl hr) (by simp only [f0, f1, f2]; rfl) ?_
    refine st_val (Sl.v s) (wn rfl) rfl (by simp only [f0, f1, f2]; rfl) ?_
    obtain ⟨x2, w_1, hr1, h⟩ := h
    refine st_one (wn rfl) ?_
    refine o_val (Sl.v x2) (r_builtin_append rfl hr1) (by simp only [f0, f1, f2]; rfl) ?_
    refine st_val (Sl.v x2) (wn rfl) rfl (by simp only [f0, f1, f2]; rfl) ?_
    refine wpList_nil ?_
    refine then_normal ?_
    refine wp_ret ?_
    exact end_ret (r_res1 (v := Sl.v x2) Try.results42 ⟨rfl, trivial⟩) rfl h

end Go.Proofs.Ytahncinfbhjkgaa.Vc
