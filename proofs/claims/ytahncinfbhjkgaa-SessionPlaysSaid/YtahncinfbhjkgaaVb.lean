/-
  Own work, printed by a program of ours (gen.py): of each Go function what is to be shown of a call ('.._vc'), and that it suffices ('.._wp'). Nothing is assumed.
-/
import Derived.Test.YtahncinfbhjkgaaRows
import Derived.Test.YtahncinfbhjkgaaFr
namespace Go.Proofs.Ytahncinfbhjkgaa.Vc
open Go Go.RowKit Go.Kt
set_option linter.unusedSimpArgs false
set_option linter.unusedVariables false
set_option maxRecDepth 100000
attribute [local irreducible] wpList
set_option maxHeartbeats 40000000
/-- what is to be shown of a call of pavaneref19.Restore -/
def pavaneref19_Restore_vc (l : Sl) (next_ : Int) (R : Value → World → Prop) (w : World) : Prop :=
  (((decide ((↑(Sl.n l) : Int) > 8)) = true →
  R (.tuple #[.pointer none, .int .i64 1]) w) ∧
  ((decide ((↑(Sl.n l) : Int) > 8)) = false →
  ∃ (I_ : Nat → Int → Int → World → Prop) (nv1 : Nat), I_ nv1 0 0 w ∧
  ∀ (nv : Nat) (last : Int) (i : Int) (w_ : World), I_ nv last i w_ →
  (((decide (i < (↑(Sl.n l) : Int))) = true →
  ∃ ad : Addr, SlAt l i 4 ad ∧
  ∃ x0 : Int, ∃ x1 : Int, ∃ x2 : Sl, ∃ x3 : Int, Cells w_ ad [.int .i64 x0, .int .i64 x1, Sl.v x2, .int .i64 x3] ∧
  (((((((((decide (x0 ≤ last)) || (decide (x0 ≥ next_))) || (decide (x1 < 0))) || (decide ((↑(Sl.n x2) : Int) > 65536))) || ((x1 == 0) && (decide ((↑(Sl.n x2) : Int) > 0)))) || (decide (x3 < 0))) || (decide (x3 > 1099511627826))) = true →
  ∀ (b : Nat) (w_2 : World), w_.heap.size ≤ b → b < w_2.heap.size → Only [] w_ w_2 →
  R (.tuple #[.pointer none, .int .i64 1]) w_2) ∧
  ((((((((decide (x0 ≤ last)) || (decide (x0 ≥ next_))) || (decide (x1 < 0))) || (decide ((↑(Sl.n x2) : Int) > 65536))) || ((x1 == 0) && (decide ((↑(Sl.n x2) : Int) > 0)))) || (decide (x3 < 0))) || (decide (x3 > 1099511627826))) = false →
  ∀ (b : Nat) (w_2 : World), w_.heap.size ≤ b → b < w_2.heap.size → Only [] w_ w_2 →
  ∃ nv2 : Nat, nv2 < nv ∧ I_ nv2 x0 (IntKind.i64.wrap (i + 1)) w_2))) ∧
  ((decide (i < (↑(Sl.n l) : Int))) = false →
  (((decide (next_ < 1)) = true →
  R (.tuple #[.pointer none, .int .i64 1]) w_) ∧
  ((decide (next_ < 1)) = false →
  ∀ (b1 : Nat) (w_3 : World), w_.heap.size ≤ b1 → b1 < w_3.heap.size → Only [] w_ w_3 → Blk w_3 b1 64 [Sl.v l, .int .i64 next_] →
  Calls Try.prog 23 #[.pointer (some ⟨b1, 0, none⟩)] w_3 (fun e w_4 => ∃ x4 : Sl, e = .returned (Sl.v x4) ∧ ∃ vb1 : Sl, ∃ vb11 : Int, Blk w_4 b1 64 [Sl.v vb1, .int .i64 vb11] ∧
  ∀ (w_5 : World), Only [b1] w_4 w_5 → Blk w_5 b1 64 [Sl.v x4, .int .i64 vb11] →
  R (.tuple #[.pointer (some ⟨b1, 0, none⟩), .int .i64 0]) w_5)))))))
theorem pavaneref19_Restore_wp (l : Sl) (next_ : Int) (R : Value → World → Prop) (w : World) (h : pavaneref19_Restore_vc l next_ R w) :
    Calls Try.prog 18 #[Sl.v l, .int .i64 next_] w fun e w' => ∃ v, e = .returned v ∧ R v w' := by
  unfold pavaneref19_Restore_vc at h
  refine callsF (l := [(0, Sl.v l), (1, .int .i64 next_)]) Try.func18 rfl Try.ntmps18 (Nat.le_of_ble_eq_true rfl) rfl (wp_seq (wp_region_lit (sv (R_as rfl) (sv (R_as rfl) (wpList_nil (then_normal (wp_seq (wp_seq (wp_region_lit (sv (R_mv rfl) (sv (R_len (s := l) (Try.runUnderlying42 _) rfl) (sv (R_gtr rfl rfl) (wpList_nil (then_normal ?_))))))))))))))
  refine C_split (t := (decide ((↑(Sl.n l) : Int) > 8))) rfl (fun hc => ?_) (fun hc => ?_)
  · replace h := h.1 hc
    refine wp_seq (wp_region_lit (sv (R_as rfl) (sv (R_as rfl) (wpList_nil (then_normal (wp_ret (then_ret ?_)))))))
    exact retN (vs := [.pointer none, .int .i64 1]) Try.results18 rfl ⟨rfl, rfl, trivial⟩ h
  · replace h := h.2 hc
    refine wp_skip (then_normal (wp_seq (wp_region_lit (sv (R_as rfl) (wpList_nil (then_normal (wp_seq (wp_seq (wp_region_lit (sv (R_as rfl) (wpList_nil (then_normal (wp_block ?_)))))))))))))
    obtain ⟨I_, nv1, h0, hI⟩ := h
    refine wp_loop_ghost (fun nv' a' w' => ∃ last : Int, ∃ i : Int, (∃ us, a' = fr 79 us [(0, Sl.v l), (1, .int .i64 next_), (6, .int .i64 last), (7, .int .i64 i)]) ∧ I_ nv' last i w') nv1 ?_ ?_
    · exact ⟨_, _, fr_sub ⟨rfl, rfl, rfl, rfl, trivial⟩, h0⟩
    · clear h0
      rintro nv _ w_ ⟨last, i, ⟨us, rfl⟩, h⟩
      replace h := hI _ _ _ _ h
      refine wp_seq (wp_seq (wp_region_lit (sv (R_mv rfl) (sv (R_mv rfl) (sv (R_len (s := l) (Try.runUnderlying42 _) rfl) (sv (R_lss rfl rfl) (wpList_nil (then_normal ?_))))))))
      refine C_split (t := (decide (i < (↑(Sl.n l) : Int)))) rfl (fun hc1 => ?_) (fun hc1 => ?_)
      · replace h := h.1 hc1
        refine wp_skip (then_normal (wp_seq (wp_block (wp_seq (wp_region_lit (sv (R_mv rfl) (sv (R_mv rfl) ?_)))))))
        obtain ⟨ad, hx, h⟩ := h
        refine sv (v := .pointer (some ad)) (R_indexS (s := l) (Try.runUnderlying42 _) (Try.sizeOf49 _) rfl rfl hx) ?_
        obtain ⟨x0, x1, x2, x3, hx1, h⟩ := h
        refine sv (v := .agg #[.int .i64 x0, .int .i64 x1, Sl.v x2, .int .i64 x3]) (R_loadN (Try.isAgg49 _) (Try.sizeOf49 _) rfl rfl hx1) (st_one (wn rfl) ?_)
        refine O_alloc (zs := [.int .i64 0, .int .i64 0, Sl.v Sl.nil, .int .i64 0]) (Try.zeroValue49 _) rfl (fun b w_1 hn hO hb => ?_)
        have hn_b : w_.heap.size ≤ b := hn
        have hA : Only [] w_ w_1 := hO
        refine st_one (wn rfl) ?_
        refine O_store (vs := [.int .i64 x0, .int .i64 x1, Sl.v x2, .int .i64 x3]) (cs' := [.int .i64 x0, .int .i64 x1, Sl.v x2, .int .i64 x3]) (Try.sizeOf49 _) rfl rfl rfl rfl hb (Nat.le_of_ble_eq_true rfl) rfl (fun w_2 hO1 hb1 => ?_)
        have hA1 := hA.new hO1 hn_b
        refine wpList_nil (then_normal (wp_seq (wp_seq (wp_region_lit (sv (v := .pointer (some ⟨b, 0, none⟩)) (R_field (Try.runUnderlying49 _) rfl (Try.sizeOf3 _) rfl rfl) (sv (v := .int .i64 x0) (R_load1 (Try.isAgg3 _) rfl (hb1.cell 0)) (sv (R_mv rfl) (sv (R_leq rfl rfl) (sv (R_mv rfl) ?_)))))))))
        refine cutF 5 79 [(0, Sl.v l), (1, .int .i64 next_), (7, .int .i64 i), (8, .pointer (some ⟨b, 0, none⟩)), (32, .bool ((decide (x0 ≤ last)) || (decide (x0 ≥ next_))))] ?_ ?_
        · simp only [List.take_succ_cons, List.take_zero]
          rcases Bool.eq_false_or_eq_true (decide (x0 ≤ last)) with hg | hg
          · refine sno (wtF rfl rfl rfl (bg hg) rfl) (sno (wtF rfl rfl rfl (bg hg) rfl) (sno (wtF rfl rfl rfl (bg hg) rfl) (sno (wtF rfl rfl rfl (bg hg) rfl) (sv (R_pickT (bg hg) rfl) (wpList_nil ?_)))))
            exact cutEnd ⟨rfl, rfl, rfl, rfl, (by rw [hg]; rfl), trivial⟩
          · refine svg (v := .pointer (some ⟨b, 0, none⟩)) (wtF rfl rfl rfl (bg hg) rfl) (R_field (Try.runUnderlying49 _) rfl (Try.sizeOf3 _) rfl rfl) (svg (v := .int .i64 x0) (wtF rfl rfl rfl (bg hg) rfl) (R_load1 (Try.isAgg3 _) rfl (hb1.cell 0)) (svg (wtF rfl rfl rfl (bg hg) rfl) (R_mv rfl) (svg (wtF rfl rfl rfl (bg hg) rfl) (R_geq rfl rfl) (sv (R_pickF (bg hg) rfl) (wpList_nil ?_)))))
            exact cutEnd ⟨rfl, rfl, rfl, rfl, (by rw [hg]; rfl), trivial⟩
        intro us
        simp only [List.drop_succ_cons, List.drop_zero]
        refine sv (R_mv rfl) ?_
        refine cutF 4 79 [(0, Sl.v l), (1, .int .i64 next_), (7, .int .i64 i), (8, .pointer (some ⟨b, 0, none⟩)), (37, .bool (((decide (x0 ≤ last)) || (decide (x0 ≥ next_))) || (decide (x1 < 0))))] ?_ ?_
        · simp only [List.take_succ_cons, List.take_zero]
          rcases Bool.eq_false_or_eq_true ((decide (x0 ≤ last)) || (decide (x0 ≥ next_))) with hg1 | hg1
          · refine sno (wtF rfl rfl rfl (bg hg1) rfl) (sno (wtF rfl rfl rfl (bg hg1) rfl) (sno (wtF rfl rfl rfl (bg hg1) rfl) (sv (R_pickT (bg hg1) rfl) (wpList_nil ?_))))
            exact cutEnd ⟨rfl, rfl, rfl, rfl, (by rw [hg1]; rfl), trivial⟩
          · refine svg (v := .pointer (some ⟨b, 1, none⟩)) (wtF rfl rfl rfl (bg hg1) rfl) (R_field (Try.runUnderlying49 _) rfl (Try.sizeOf3 _) rfl rfl) (svg (v := .int .i64 x1) (wtF rfl rfl rfl (bg hg1) rfl) (R_load1 (Try.isAgg3 _) rfl (hb1.cell 1)) (svg (wtF rfl rfl rfl (bg hg1) rfl) (R_lss rfl rfl) (sv (R_pickF (bg hg1) rfl) (wpList_nil ?_))))
            exact cutEnd ⟨rfl, rfl, rfl, rfl, (by rw [hg1]; rfl), trivial⟩
        intro us
        simp only [List.drop_succ_cons, List.drop_zero]
        refine sv (R_mv rfl) ?_
        refine cutF 5 79 [(0, Sl.v l), (1, .int .i64 next_), (7, .int .i64 i), (8, .pointer (some ⟨b, 0, none⟩)), (43, .bool ((((decide (x0 ≤ last)) || (decide (x0 ≥ next_))) || (decide (x1 < 0))) || (decide ((↑(Sl.n x2) : Int) > 65536))))] ?_ ?_
        · simp only [List.take_succ_cons, List.take_zero]
          rcases Bool.eq_false_or_eq_true (((decide (x0 ≤ last)) || (decide (x0 ≥ next_))) || (decide (x1 < 0))) with hg2 | hg2
          · refine sno (wtF rfl rfl rfl (bg hg2) rfl) (sno (wtF rfl rfl rfl (bg hg2) rfl) (sno (wtF rfl rfl rfl (bg hg2) rfl) (sno (wtF rfl rfl rfl (bg hg2) rfl) (sv (R_pickT (bg hg2) rfl) (wpList_nil ?_)))))
            exact cutEnd ⟨rfl, rfl, rfl, rfl, (by rw [hg2]; rfl), trivial⟩
          · refine svg (v := .pointer (some ⟨b, 2, none⟩)) (wtF rfl rfl rfl (bg hg2) rfl) (R_field (Try.runUnderlying49 _) rfl (Try.sizeOf27 _) rfl rfl) (svg (v := Sl.v x2) (wtF rfl rfl rfl (bg hg2) rfl) (R_load1 (Try.isAgg27 _) rfl (hb1.cell 2)) (svg (wtF rfl rfl rfl (bg hg2) rfl) (R_len (s := x2) (Try.runUnderlying27 _) rfl) (svg (wtF rfl rfl rfl (bg hg2) rfl) (R_gtr rfl rfl) (sv (R_pickF (bg hg2) rfl) (wpList_nil ?_)))))
            exact cutEnd ⟨rfl, rfl, rfl, rfl, (by rw [hg2]; rfl), trivial⟩
        intro us
        simp only [List.drop_succ_cons, List.drop_zero]
        refine sv (R_mv rfl) ?_
        refine cutF 10 79 [(0, Sl.v l), (1, .int .i64 next_), (7, .int .i64 i), (8, .pointer (some ⟨b, 0, none⟩)), (54, .bool (((((decide (x0 ≤ last)) || (decide (x0 ≥ next_))) || (decide (x1 < 0))) || (decide ((↑(Sl.n x2) : Int) > 65536))) || ((x1 == 0) && (decide ((↑(Sl.n x2) : Int) > 0)))))] ?_ ?_
        · simp only [List.take_succ_cons, List.take_zero]
          rcases Bool.eq_false_or_eq_true ((((decide (x0 ≤ last)) || (decide (x0 ≥ next_))) || (decide (x1 < 0))) || (decide ((↑(Sl.n x2) : Int) > 65536))) with hg3 | hg3
          · refine sno (wtF rfl rfl rfl (bg hg3) rfl) (sno (wtF rfl rfl rfl (bg hg3) rfl) (sno (wtF rfl rfl rfl (bg hg3) rfl) (sno (wtF rfl rfl rfl (bg hg3) rfl) (sno (wuF rfl rfl rfl rfl) (sno (wuF rfl rfl rfl rfl) (sno (wuF rfl rfl rfl rfl) (sno (wuF rfl rfl rfl rfl) (sno (wtF rfl rfl rfl (bg hg3) rfl) (sv (R_pickT (bg hg3) rfl) (wpList_nil ?_))))))))))
            exact cutEnd ⟨rfl, rfl, rfl, rfl, (by rw [hg3]; rfl), trivial⟩
          · refine svg (v := .pointer (some ⟨b, 1, none⟩)) (wtF rfl rfl rfl (bg hg3) rfl) (R_field (Try.runUnderlying49 _) rfl (Try.sizeOf3 _) rfl rfl) (svg (v := .int .i64 x1) (wtF rfl rfl rfl (bg hg3) rfl) (R_load1 (Try.isAgg3 _) rfl (hb1.cell 1)) (svg (wtF rfl rfl rfl (bg hg3) rfl) (R_eql rfl rfl) (svg (wtF rfl rfl rfl (bg hg3) rfl) (R_mv rfl) ?_)))
            refine cutF 5 79 [(0, Sl.v l), (1, .int .i64 next_), (7, .int .i64 i), (8, .pointer (some ⟨b, 0, none⟩)), (44, .bool ((((decide (x0 ≤ last)) || (decide (x0 ≥ next_))) || (decide (x1 < 0))) || (decide ((↑(Sl.n x2) : Int) > 65536)))), (53, .bool ((x1 == 0) && (decide ((↑(Sl.n x2) : Int) > 0))))] ?_ ?_
            · simp only [List.take_succ_cons, List.take_zero]
              rcases Bool.eq_false_or_eq_true (x1 == 0) with hg4 | hg4
              · refine svg (v := .pointer (some ⟨b, 2, none⟩)) (wtF rfl rfl rfl (bg hg4) rfl) (R_field (Try.runUnderlying49 _) rfl (Try.sizeOf27 _) rfl rfl) (svg (v := Sl.v x2) (wtF rfl rfl rfl (bg hg4) rfl) (R_load1 (Try.isAgg27 _) rfl (hb1.cell 2)) (svg (wtF rfl rfl rfl (bg hg4) rfl) (R_len (s := x2) (Try.runUnderlying27 _) rfl) (svg (wtF rfl rfl rfl (bg hg4) rfl) (R_gtr rfl rfl) (svg (wtF rfl rfl rfl (bg hg3) rfl) (R_pickT (bg hg4) rfl) (wpList_nil ?_)))))
                exact cutEnd ⟨rfl, rfl, rfl, rfl, rfl, (by rw [hg4]; rfl), trivial⟩
              · refine sno (wtF rfl rfl rfl (bg hg4) rfl) (sno (wtF rfl rfl rfl (bg hg4) rfl) (sno (wtF rfl rfl rfl (bg hg4) rfl) (sno (wtF rfl rfl rfl (bg hg4) rfl) (svg (wtF rfl rfl rfl (bg hg3) rfl) (R_pickF (bg hg4) rfl) (wpList_nil ?_)))))
                exact cutEnd ⟨rfl, rfl, rfl, rfl, rfl, (by rw [hg4]; rfl), trivial⟩
            intro us
            simp only [List.drop_succ_cons, List.drop_zero]
            refine sv (R_pickF (bg hg3) rfl) (wpList_nil ?_)
            exact cutEnd ⟨rfl, rfl, rfl, rfl, (by rw [hg3]; rfl), trivial⟩
        intro us
        simp only [List.drop_succ_cons, List.drop_zero]
        refine sv (R_mv rfl) ?_
        refine cutF 4 79 [(0, Sl.v l), (1, .int .i64 next_), (7, .int .i64 i), (8, .pointer (some ⟨b, 0, none⟩)), (59, .bool ((((((decide (x0 ≤ last)) || (decide (x0 ≥ next_))) || (decide (x1 < 0))) || (decide ((↑(Sl.n x2) : Int) > 65536))) || ((x1 == 0) && (decide ((↑(Sl.n x2) : Int) > 0)))) || (decide (x3 < 0))))] ?_ ?_
        · simp only [List.take_succ_cons, List.take_zero]
          rcases Bool.eq_false_or_eq_true (((((decide (x0 ≤ last)) || (decide (x0 ≥ next_))) || (decide (x1 < 0))) || (decide ((↑(Sl.n x2) : Int) > 65536))) || ((x1 == 0) && (decide ((↑(Sl.n x2) : Int) > 0)))) with hg5 | hg5
          · refine sno (wtF rfl rfl rfl (bg hg5) rfl) (sno (wtF rfl rfl rfl (bg hg5) rfl) (sno (wtF rfl rfl rfl (bg hg5) rfl) (sv (R_pickT (bg hg5) rfl) (wpList_nil ?_))))
            exact cutEnd ⟨rfl, rfl, rfl, rfl, (by rw [hg5]; rfl), trivial⟩
          · refine svg (v := .pointer (some ⟨b, 3, none⟩)) (wtF rfl rfl rfl (bg hg5) rfl) (R_field (Try.runUnderlying49 _) rfl (Try.sizeOf3 _) rfl rfl) (svg (v := .int .i64 x3) (wtF rfl rfl rfl (bg hg5) rfl) (R_load1 (Try.isAgg3 _) rfl (hb1.cell 3)) (svg (wtF rfl rfl rfl (bg hg5) rfl) (R_lss rfl rfl) (sv (R_pickF (bg hg5) rfl) (wpList_nil ?_))))
            exact cutEnd ⟨rfl, rfl, rfl, rfl, (by rw [hg5]; rfl), trivial⟩
        intro us
        simp only [List.drop_succ_cons, List.drop_zero]
        refine sv (R_mv rfl) ?_
        refine cutF 4 79 [(0, Sl.v l), (1, .int .i64 next_), (7, .int .i64 i), (8, .pointer (some ⟨b, 0, none⟩)), (64, .bool (((((((decide (x0 ≤ last)) || (decide (x0 ≥ next_))) || (decide (x1 < 0))) || (decide ((↑(Sl.n x2) : Int) > 65536))) || ((x1 == 0) && (decide ((↑(Sl.n x2) : Int) > 0)))) || (decide (x3 < 0))) || (decide (x3 > 1099511627826))))] ?_ ?_
        · simp only [List.take_succ_cons, List.take_zero]
          rcases Bool.eq_false_or_eq_true ((((((decide (x0 ≤ last)) || (decide (x0 ≥ next_))) || (decide (x1 < 0))) || (decide ((↑(Sl.n x2) : Int) > 65536))) || ((x1 == 0) && (decide ((↑(Sl.n x2) : Int) > 0)))) || (decide (x3 < 0))) with hg6 | hg6
          · refine sno (wtF rfl rfl rfl (bg hg6) rfl) (sno (wtF rfl rfl rfl (bg hg6) rfl) (sno (wtF rfl rfl rfl (bg hg6) rfl) (sv (R_pickT (bg hg6) rfl) (wpList_nil ?_))))
            exact cutEnd ⟨rfl, rfl, rfl, rfl, (by rw [hg6]; rfl), trivial⟩
          · refine svg (v := .pointer (some ⟨b, 3, none⟩)) (wtF rfl rfl rfl (bg hg6) rfl) (R_field (Try.runUnderlying49 _) rfl (Try.sizeOf3 _) rfl rfl) (svg (v := .int .i64 x3) (wtF rfl rfl rfl (bg hg6) rfl) (R_load1 (Try.isAgg3 _) rfl (hb1.cell 3)) (svg (wtF rfl rfl rfl (bg hg6) rfl) (R_gtr rfl rfl) (sv (R_pickF (bg hg6) rfl) (wpList_nil ?_))))
            exact cutEnd ⟨rfl, rfl, rfl, rfl, (by rw [hg6]; rfl), trivial⟩
        intro us
        simp only [List.drop_succ_cons, List.drop_zero]
        refine wpList_nil (then_normal ?_)
        refine C_split (t := (((((((decide (x0 ≤ last)) || (decide (x0 ≥ next_))) || (decide (x1 < 0))) || (decide ((↑(Sl.n x2) : Int) > 65536))) || ((x1 == 0) && (decide ((↑(Sl.n x2) : Int) > 0)))) || (decide (x3 < 0))) || (decide (x3 > 1099511627826)))) rfl (fun hc2 => ?_) (fun hc2 => ?_)
        · replace h := h.1 hc2
          refine wp_seq (wp_region_lit (sv (R_as rfl) (sv (R_as rfl) (wpList_nil (then_normal (wp_ret (then_ret (block_ret (then_ret (then_ret (block_ret (then_ret ?_))))))))))))
          replace h := h b w_2 hn_b hb1.lt hA1
          exact retN (vs := [.pointer none, .int .i64 1]) Try.results18 rfl ⟨rfl, rfl, trivial⟩ h
        · replace h := h.2 hc2
          refine wp_skip (then_normal (wp_region_lit (sv (v := .pointer (some ⟨b, 0, none⟩)) (R_field (Try.runUnderlying49 _) rfl (Try.sizeOf3 _) rfl rfl) (sv (v := .int .i64 x0) (R_load1 (Try.isAgg3 _) rfl (hb1.cell 0)) (sv (R_as rfl) (wpList_nil (block_normal (then_normal (wp_region_lit (sv (R_mv rfl) (sv (R_add rfl rfl) (sv (R_as rfl) (wpList_nil (then_normal ?_))))))))))))))
          replace h := h b w_2 hn_b hb1.lt hA1
          obtain ⟨nv2, hl, h⟩ := h
          exact ⟨nv2, hl, _, _, fr_sub ⟨rfl, rfl, rfl, rfl, trivial⟩, h⟩
      · replace h := h.2 hc1
        refine wp_exit (then_exit (then_exit (block_hit (then_normal (wp_seq (wp_seq (wp_region_lit (sv (R_mv rfl) (sv (R_lss rfl rfl) (wpList_nil (then_normal ?_)))))))))))
        refine C_split (t := (decide (next_ < 1))) rfl (fun hc3 => ?_) (fun hc3 => ?_)
        · replace h := h.1 hc3
          refine wp_seq (wp_region_lit (sv (R_as rfl) (sv (R_as rfl) (wpList_nil (then_normal (wp_ret (then_ret ?_)))))))
          exact retN (vs := [.pointer none, .int .i64 1]) Try.results18 rfl ⟨rfl, rfl, trivial⟩ h
        · replace h := h.2 hc3
          refine wp_skip (then_normal (wp_seq (wp_region_lit (sv (R_mv rfl) (sv (R_mv rfl) (sv (v := .agg #[Sl.v l, .int .i64 next_]) (R_build (ps' := [(0, Sl.v l), (1, .int .i64 next_)]) rfl (by kernel_rfl)) (st_one (wn rfl) ?_)))))))
          refine O_box (zs := [Sl.v l, .int .i64 next_]) rfl (fun b1 w_3 hn1 hO2 hb2 => ?_)
          have hn_b1 : w_.heap.size ≤ b1 := hn1
          have hA2 : Only [] w_ w_3 := hO2
          refine sv (R_as rfl) (wpList_nil (then_normal (wp_seq (wp_region_lit (sv (R_mv rfl) (sv (R_mv rfl) ?_))))))
          replace h := h b1 w_3 hn_b1 hb2.lt hA2 hb2
          refine st_one (wn rfl) ?_
          refine O_enter (args := #[.pointer (some ⟨b1, 0, none⟩)]) (R_enter Try.call23 rfl) (h.mono ?_)
          clear h
          rintro _ w_4 ⟨x4, rfl, vb1, vb11, hb3, h⟩
          refine ⟨_, rfl, ?_⟩
          refine sv (v := .pointer (some ⟨b1, 0, none⟩)) (R_nil rfl) (sv (v := .pointer (some ⟨b1, 0, none⟩)) (R_field (Try.runUnderlying64 _) rfl (Try.sizeOf42 _) rfl rfl) (st_one (wn rfl) ?_))
          refine O_store (vs := [Sl.v x4]) (cs' := [Sl.v x4, .int .i64 vb11]) (Try.sizeOf42 _) rfl rfl rfl rfl hb3 (Nat.le_of_ble_eq_true rfl) rfl (fun w_5 hO3 hb4 => ?_)
          have hA3 : Only [b1] w_4 w_5 := hO3
          refine wpList_nil (then_normal (wp_seq (wp_region_lit (sv (R_mv rfl) (sv (R_as rfl) (sv (R_as rfl) (wpList_nil (then_normal (wp_ret ?_)))))))))
          replace h := h w_5 hA3 hb4
          exact retN (vs := [.pointer (some ⟨b1, 0, none⟩), .int .i64 0]) Try.results18 rfl ⟨rfl, rfl, trivial⟩ h

/-- what is to be shown of a call of pavanelaw19.SessionFew -/
def pavanelaw19_SessionFew_vc (acts : Sl) (R : Value → World → Prop) (w : World) : Prop :=
  Calls Try.prog 8 #[] w (fun e w_ => ∃ x1 : Bool, e = .returned (.bool x1) ∧
  Calls Try.prog 9 #[] w_ (fun e w_1 => ∃ x2 : Option Addr, e = .returned (.pointer x2) ∧
  ((((!x1) || (Option.isNone x2)) = true →
  R (.bool false) w_1) ∧
  (((!x1) || (Option.isNone x2)) = false →
  ∃ (I_ : Nat → Int → World → Prop) (nv1 : Nat), I_ nv1 0 w_1 ∧
  ∀ (nv : Nat) (i : Int) (w_2 : World), I_ nv i w_2 →
  ((((decide (i < (↑(Sl.n acts) : Int))) && (decide (i < 100))) = true →
  ∃ ad : Addr, SlAt acts i 5 ad ∧
  ∃ x0 : Int, ∃ x11 : Int, ∃ x21 : Int, ∃ x3 : Int, ∃ x4 : Sl, Cells w_2 ad [.int .i64 x0, .int .i64 x11, .int .i64 x21, .int .i64 x3, Sl.v x4] ∧
  Calls Try.prog 11 #[.pointer x2, .agg #[.int .i64 x0, .int .i64 x11, .int .i64 x21, .int .i64 x3, Sl.v x4]] w_2 (fun e w_3 => ∃ x01 : Int, ∃ x12 : Int, ∃ x22 : Sl, ∃ x31 : Sl, e = .returned (.tuple #[.int .i64 x01, .int .i64 x12, Sl.v x22, Sl.v x31]) ∧
  ∃ ad1 : Addr, x2 = some ad1 ∧
  Calls Try.prog 14 #[.pointer (some (Addr.add ad1 0))] w_3 (fun e w_4 => ∃ x5 : Sl, e = .returned (Sl.v x5) ∧
  ∃ (I_1 : Nat → Int → Int → World → Prop) (nv3 : Nat), I_1 nv3 0 0 w_4 ∧
  ∀ (nv2 : Nat) (last : Int) (k : Int) (w_5 : World), I_1 nv2 last k w_5 →
  (((decide (k < (↑(Sl.n x5) : Int))) = true →
  ∃ ad2 : Addr, SlAt x5 k 4 ad2 ∧
  ∃ x6 : Int, Cells w_5 (Addr.add ad2 0) [.int .i64 x6] ∧
  ∃ J_ : Bool → World → Prop, (∀ (t67 : Bool) (w_6 : World), J_ t67 w_6 →
  ((t67 = true →
  R (.bool false) w_6) ∧
  (t67 = false →
  ∃ ad3 : Addr, SlAt x5 k 4 ad3 ∧
  ∃ x7 : Int, Cells w_6 (Addr.add ad3 0) [.int .i64 x7] ∧
  ∃ nv4 : Nat, nv4 < nv2 ∧ I_1 nv4 x7 (IntKind.i64.wrap (k + 1)) w_6))) ∧
  (∀ (w_7 : World), Only [] w_5 w_7 →
  (((decide (x6 ≤ last)) = true →
  J_ true w_7) ∧
  ((decide (x6 ≤ last)) = false →
  ∃ ad4 : Addr, SlAt x5 k 4 ad4 ∧
  ∃ x8 : Int, Cells w_7 (Addr.add ad4 0) [.int .i64 x8] ∧
  Calls Try.prog 15 #[.pointer x2] w_7 (fun e w_8 => ∃ x9 : Int, e = .returned (.int .i64 x9) ∧ Same [(Sl.blk x5)] w_7 w_8 ∧
  (((decide (x8 ≥ x9)) = true →
  J_ true w_8) ∧
  ((decide (x8 ≥ x9)) = false →
  ∃ ad5 : Addr, SlAt x5 k 4 ad5 ∧
  ∃ x10 : Int, Cells w_8 (Addr.add ad5 1) [.int .i64 x10] ∧
  J_ (decide (x10 < 0)) w_8))))))) ∧
  ((decide (k < (↑(Sl.n x5) : Int))) = false →
  (((decide ((↑(Sl.n x5) : Int) > 8)) = true →
  R (.bool false) w_5) ∧
  ((decide ((↑(Sl.n x5) : Int) > 8)) = false →
  ∃ nv5 : Nat, nv5 < nv ∧ I_ nv5 (IntKind.i64.wrap (i + 1)) w_5))))))) ∧
  (((decide (i < (↑(Sl.n acts) : Int))) && (decide (i < 100))) = false →
  R (.bool true) w_2))))))
theorem pavanelaw19_SessionFew_wp (acts : Sl) (R : Value → World → Prop) (w : World) (h : pavanelaw19_SessionFew_vc acts R w) :
    Calls Try.prog 5 #[Sl.v acts] w fun e w' => ∃ v, e = .returned v ∧ R v w' := by
  unfold pavanelaw19_SessionFew_vc at h
  refine callsF (l := [(0, Sl.v acts)]) Try.func5 rfl Try.ntmps5 (Nat.le_of_ble_eq_true rfl) rfl (wp_seq (wp_region_lit (sv (R_as rfl) (wpList_nil (then_normal (wp_seq (wp_region_lit (st_one (wn rfl) ?_))))))))
  refine O_enter (args := #[]) (R_enter Try.call8 rfl) (h.mono ?_)
  clear h
  rintro _ w_ ⟨x1, rfl, h⟩
  refine ⟨_, rfl, ?_⟩
  refine sv (R_as rfl) (wpList_nil (then_normal (wp_seq (wp_region_lit (st_one (wn rfl) ?_)))))
  refine O_enter (args := #[]) (R_enter Try.call9 rfl) (h.mono ?_)
  clear h
  rintro _ w_1 ⟨x2, rfl, h⟩
  refine ⟨_, rfl, ?_⟩
  refine sv (R_as rfl) (wpList_nil (then_normal (wp_seq (wp_seq (wp_region_lit (sv (R_mv rfl) (sv (R_not rfl) (sv (R_mv rfl) ?_))))))))
  refine cutF 3 76 [(0, Sl.v acts), (4, .pointer x2), (16, .bool ((!x1) || (Option.isNone x2)))] ?_ ?_
  · simp only [List.take_succ_cons, List.take_zero]
    rcases Bool.eq_false_or_eq_true (!x1) with hg | hg
    · refine sno (wtF rfl rfl rfl (bg hg) rfl) (sno (wtF rfl rfl rfl (bg hg) rfl) (sv (R_pickT (bg hg) rfl) (wpList_nil ?_)))
      exact cutEnd ⟨rfl, rfl, (by rw [hg]; rfl), trivial⟩
    · refine svg (wtF rfl rfl rfl (bg hg) rfl) (R_mv rfl) (svg (wtF rfl rfl rfl (bg hg) rfl) (R_eqlPtrNilR (Try.runUnderlying24 _) rfl rfl rfl) (sv (R_pickF (bg hg) rfl) (wpList_nil ?_)))
      exact cutEnd ⟨rfl, rfl, (by rw [hg]; rfl), trivial⟩
  intro us
  simp only [List.drop_succ_cons, List.drop_zero]
  refine wpList_nil (then_normal ?_)
  refine C_split (t := ((!x1) || (Option.isNone x2))) rfl (fun hc => ?_) (fun hc => ?_)
  · replace h := h.1 hc
    refine wp_seq (wp_region_lit (sv (R_as rfl) (wpList_nil (then_normal (wp_ret (then_ret ?_))))))
    exact ret1 Try.results5 ⟨rfl, trivial⟩ h
  · replace h := h.2 hc
    refine wp_skip (then_normal (wp_seq (wp_seq (wp_region_lit (sv (R_as rfl) (wpList_nil (then_normal (wp_block ?_))))))))
    obtain ⟨I_, nv1, h0, hI⟩ := h
    refine wp_loop_ghost (fun nv' a' w' => ∃ i : Int, (∃ us, a' = fr 76 us [(0, Sl.v acts), (4, .pointer x2), (5, .int .i64 i)]) ∧ I_ nv' i w') nv1 ?_ ?_
    · exact ⟨_, fr_sub ⟨rfl, rfl, rfl, trivial⟩, h0⟩
    · clear h0
      rintro nv _ w_2 ⟨i, ⟨us, rfl⟩, h⟩
      replace h := hI _ _ _ h
      refine wp_seq (wp_seq (wp_region_lit (sv (R_mv rfl) (sv (R_mv rfl) (sv (R_len (s := acts) (Try.runUnderlying22 _) rfl) (sv (R_lss rfl rfl) (sv (R_mv rfl) ?_)))))))
      refine cutF 3 76 [(0, Sl.v acts), (4, .pointer x2), (5, .int .i64 i), (24, .bool ((decide (i < (↑(Sl.n acts) : Int))) && (decide (i < 100))))] ?_ ?_
      · simp only [List.take_succ_cons, List.take_zero]
        rcases Bool.eq_false_or_eq_true (decide (i < (↑(Sl.n acts) : Int))) with hg1 | hg1
        · refine svg (wtF rfl rfl rfl (bg hg1) rfl) (R_mv rfl) (svg (wtF rfl rfl rfl (bg hg1) rfl) (R_lss rfl rfl) (sv (R_pickT (bg hg1) rfl) (wpList_nil ?_)))
          exact cutEnd ⟨rfl, rfl, rfl, (by rw [hg1]; rfl), trivial⟩
        · refine sno (wtF rfl rfl rfl (bg hg1) rfl) (sno (wtF rfl rfl rfl (bg hg1) rfl) (sv (R_pickF (bg hg1) rfl) (wpList_nil ?_)))
          exact cutEnd ⟨rfl, rfl, rfl, (by rw [hg1]; rfl), trivial⟩
      intro us
      simp only [List.drop_succ_cons, List.drop_zero]
      refine wpList_nil (then_normal ?_)
      refine C_split (t := ((decide (i < (↑(Sl.n acts) : Int))) && (decide (i < 100)))) rfl (fun hc1 => ?_) (fun hc1 => ?_)
      · replace h := h.1 hc1
        refine wp_skip (then_normal (wp_seq (wp_block (wp_seq (wp_region_lit (sv (R_mv rfl) (sv (R_mv rfl) (sv (R_mv rfl) ?_))))))))
        obtain ⟨ad, hx, h⟩ := h
        refine sv (v := .pointer (some ad)) (R_indexS (s := acts) (Try.runUnderlying22 _) (Try.sizeOf29 _) rfl rfl hx) ?_
        obtain ⟨x0, x11, x21, x3, x4, hx1, h⟩ := h
        refine sv (v := .agg #[.int .i64 x0, .int .i64 x11, .int .i64 x21, .int .i64 x3, Sl.v x4]) (R_loadN (Try.isAgg29 _) (Try.sizeOf29 _) rfl rfl hx1) (st_one (wn rfl) ?_)
        refine O_enter (args := #[.pointer x2, .agg #[.int .i64 x0, .int .i64 x11, .int .i64 x21, .int .i64 x3, Sl.v x4]]) (R_enter Try.call11 rfl) (h.mono ?_)
        clear h
        rintro _ w_3 ⟨x01, x12, x22, x31, rfl, h⟩
        refine ⟨_, rfl, ?_⟩
        refine wpList_nil (then_normal (wp_seq (wp_region_lit (sv (R_mv rfl) ?_))))
        obtain ⟨ad1, hx2, h⟩ := h
        refine sv (v := .pointer (some ad1)) (R_nil (pg hx2)) (sv (v := .pointer (some (Addr.add ad1 0))) (R_field (Try.runUnderlying47 _) rfl (Try.sizeOf45 _) rfl rfl) (st_one (wn rfl) ?_))
        refine O_enter (args := #[.pointer (some (Addr.add ad1 0))]) (R_enter Try.call14 rfl) (h.mono ?_)
        clear h
        rintro _ w_4 ⟨x5, rfl, h⟩
        refine ⟨_, rfl, ?_⟩
        refine sv (R_as rfl) (wpList_nil (then_normal (wp_seq (wp_region_lit (sv (R_as rfl) (wpList_nil (then_normal (wp_seq (wp_seq (wp_region_lit (sv (R_as rfl) (wpList_nil (then_normal (wp_block ?_))))))))))))))
        obtain ⟨I_1, nv3, h01, hI1⟩ := h
        refine wp_loop_ghost (fun nv' a' w' => ∃ last : Int, ∃ k : Int, (∃ us, a' = fr 76 us [(0, Sl.v acts), (4, .pointer x2), (5, .int .i64 i), (6, Sl.v x5), (7, .int .i64 last), (8, .int .i64 k)]) ∧ I_1 nv' last k w') nv3 ?_ ?_
        · exact ⟨_, _, fr_sub ⟨rfl, rfl, rfl, rfl, rfl, rfl, trivial⟩, h01⟩
        · clear h01
          rintro nv2 _ w_5 ⟨last, k, ⟨us1, rfl⟩, h⟩
          replace h := hI1 _ _ _ _ h
          refine wp_seq (wp_seq (wp_region_lit (sv (R_mv rfl) (sv (R_mv rfl) (sv (R_len (s := x5) (Try.runUnderlying42 _) rfl) (sv (R_lss rfl rfl) (wpList_nil (then_normal ?_))))))))
          refine C_split (t := (decide (k < (↑(Sl.n x5) : Int)))) rfl (fun hc2 => ?_) (fun hc2 => ?_)
          · replace h := h.1 hc2
            refine wp_skip (then_normal (wp_seq (wp_block (wp_seq (wp_seq ?_)))))
            obtain ⟨ad2, hx3, h⟩ := h
            obtain ⟨x6, hx4, h⟩ := h
            obtain ⟨J_, hJ, h⟩ := h
            refine wp_cut (fun a' w' => ∃ t67 : Bool, (∃ us, a' = fr 76 us [(0, Sl.v acts), (4, .pointer x2), (5, .int .i64 i), (6, Sl.v x5), (8, .int .i64 k), (67, .bool t67)]) ∧ J_ t67 w') ?_ ?_
            · clear h
              rintro _ w_6 ⟨t67, ⟨us2, rfl⟩, h⟩
              replace h := hJ _ _ h
              refine then_normal ?_
              refine C_split (t := t67) rfl (fun hc3 => ?_) (fun hc3 => ?_)
              · replace h := h.1 hc3
                refine wp_seq (wp_region_lit (sv (R_as rfl) (wpList_nil (then_normal (wp_ret (then_ret (block_ret (then_ret (then_ret (block_ret (then_ret (block_ret (then_ret (then_ret ?_))))))))))))))
                refine block_ret (then_ret ?_)
                exact ret1 Try.results5 ⟨rfl, trivial⟩ h
              · replace h := h.2 hc3
                refine wp_skip (then_normal (wp_region_lit (sv (R_mv rfl) (sv (R_mv rfl) ?_))))
                obtain ⟨ad3, hx5, h⟩ := h
                refine sv (v := .pointer (some ad3)) (R_indexS (s := x5) (Try.runUnderlying42 _) (Try.sizeOf49 _) rfl rfl hx5) (sv (v := .pointer (some (Addr.add ad3 0))) (R_field (Try.runUnderlying49 _) rfl (Try.sizeOf3 _) rfl rfl) ?_)
                obtain ⟨x7, hx6, h⟩ := h
                refine sv (v := .int .i64 x7) (R_load1 (Try.isAgg3 _) rfl (Cells.one hx6)) (sv (R_as rfl) (wpList_nil (block_normal (then_normal (wp_region_lit (sv (R_mv rfl) (sv (R_add rfl rfl) (sv (R_as rfl) (wpList_nil (then_normal ?_))))))))))
                obtain ⟨nv4, hl, h⟩ := h
                exact ⟨nv4, hl, _, _, fr_sub ⟨rfl, rfl, rfl, rfl, rfl, rfl, trivial⟩, h⟩
            · refine e_region (EL [(14, [(Sl.blk x5)])]) Try.checked.mixed ?_
              have hO := Only.drew w_5
              have hx7 : Cells w_5.drew _ _ := hx4
              generalize w_5.drew = w_7 at *
              have hA : Only [] w_5 w_7 := hO
              refine eQ 0 rfl rfl (wn rfl) (fun _ => (R_mv rfl)) (eQ 1 rfl rfl (wn rfl) (fun _ => (R_mv rfl)) (eQ 2 (v := .pointer (some ad2)) rfl rfl (wn rfl) (fun _ => (R_indexS (s := x5) (Try.runUnderlying42 _) (Try.sizeOf49 _) rfl rfl hx3)) (eQ 3 (v := .pointer (some (Addr.add ad2 0))) rfl rfl (wn rfl) (fun _ => (R_field (Try.runUnderlying49 _) rfl (Try.sizeOf3 _) rfl rfl)) (eL 4 [6, 7, 8, 9, 10, 11, 12, 13, 14, 15, 16, 17, 18, 19, 20, 21, 22, 23, 24] [0, 1, 2, 3] (fun w' => Cells w' (Addr.add ad2 0) [.int .i64 x6]) (v := .int .i64 x6) rfl rfl (el_stable (b := (Addr.add ad2 0).block) (List.forall_mem_cons.2 ⟨.inl (by simp), List.forall_mem_nil _⟩) keep_cells) hx7 (y_val (wn rfl) (fun w' hw' => (R_load1 (Try.isAgg3 _) rfl (Cells.one hw')))) (eQ 5 rfl rfl (wn rfl) (fun _ => (R_mv rfl)) (eQ 6 rfl rfl (wn rfl) (fun _ => (R_leq rfl rfl)) (eQ 7 rfl rfl (wn rfl) (fun _ => (R_mv rfl)) ?_)))))))
              replace h := h w_7 hA
              rcases Bool.eq_false_or_eq_true (decide (x6 ≤ last)) with hg2 | hg2
              · replace h := h.1 hg2
                refine eN 8 rfl (fun w => el_quiet rfl w) (wtF rfl rfl rfl (bg hg2) rfl) (eN 9 rfl (fun w => el_quiet rfl w) (wtF rfl rfl rfl (bg hg2) rfl) (eN 10 rfl (fun w => el_quiet rfl w) (wtF rfl rfl rfl (bg hg2) rfl) (eN 11 rfl (fun w => el_quiet rfl w) (wtF rfl rfl rfl (bg hg2) rfl) (eN 12 rfl (fun w => el_quiet rfl w) (wtF rfl rfl rfl (bg hg2) rfl) (eN 13 rfl (fun w => el_quiet rfl w) (wtF rfl rfl rfl (bg hg2) rfl) (eN 14 rfl (fun w => el_loud rfl (Same.refl _ w)) (wtF rfl rfl rfl (bg hg2) rfl) (eN 15 rfl (fun w => el_quiet rfl w) (wtF rfl rfl rfl (bg hg2) rfl) (eQ 16 rfl rfl (wn rfl) (fun _ => (R_pickT (bg hg2) rfl)) (eQ 17 rfl rfl (wn rfl) (fun _ => (R_mv rfl)) (eN 18 rfl (fun w => el_quiet rfl w) (wtF rfl rfl rfl rfl rfl) (eN 19 rfl (fun w => el_quiet rfl w) (wtF rfl rfl rfl rfl rfl) (eN 20 rfl (fun w => el_quiet rfl w) (wtF rfl rfl rfl rfl rfl) (eN 21 rfl (fun w => el_quiet rfl w) (wtF rfl rfl rfl rfl rfl) (eN 22 rfl (fun w => el_quiet rfl w) (wtF rfl rfl rfl rfl rfl) ?_))))))))))))))
                refine eN 23 rfl (fun w => el_quiet rfl w) (wtF rfl rfl rfl rfl rfl) (eQ 24 rfl rfl (wn rfl) (fun _ => (R_pickT rfl rfl)) (e_done (by kernel_rfl) ?_))
                exact then_normal ⟨_, fr_sub ⟨rfl, rfl, rfl, rfl, rfl, rfl, trivial⟩, h⟩
              · replace h := h.2 hg2
                refine eQ 8 rfl rfl (wtF rfl rfl rfl (bg hg2) rfl) (fun _ => (R_mv rfl)) (eQ 9 rfl rfl (wtF rfl rfl rfl (bg hg2) rfl) (fun _ => (R_mv rfl)) ?_)
                obtain ⟨ad4, hx8, h⟩ := h
                refine eQ 10 (v := .pointer (some ad4)) rfl rfl (wtF rfl rfl rfl (bg hg2) rfl) (fun _ => (R_indexS (s := x5) (Try.runUnderlying42 _) (Try.sizeOf49 _) rfl rfl hx8)) (eQ 11 (v := .pointer (some (Addr.add ad4 0))) rfl rfl (wtF rfl rfl rfl (bg hg2) rfl) (fun _ => (R_field (Try.runUnderlying49 _) rfl (Try.sizeOf3 _) rfl rfl)) ?_)
                obtain ⟨x8, hx9, h⟩ := h
                refine eL 12 [15, 16, 17, 18, 19, 20, 21, 22, 23, 24] [0, 1, 2, 3, 4, 5, 6, 7, 8, 9, 10, 11] (fun w' => Cells w' (Addr.add ad4 0) [.int .i64 x8]) (v := .int .i64 x8) rfl rfl (el_stable (b := (Sl.blk x5)) (List.forall_mem_cons.2 ⟨.inr (.inr (.head _)), List.forall_mem_nil _⟩) (keep_cells_b (by simp only [addr_blk, ptrBlk, SlAt.blk hx8]))) hx9 (y_val (wtF rfl rfl rfl (bg hg2) rfl) (fun w' hw' => (R_load1 (Try.isAgg3 _) rfl (Cells.one hw')))) (eQ 13 rfl rfl (wtF rfl rfl rfl (bg hg2) rfl) (fun _ => (R_mv rfl)) (e_one 14 rfl (by kernel_rfl) (wtF rfl rfl rfl (bg hg2) rfl) ?_))
                refine O_enter (args := #[.pointer x2]) (R_enter Try.call15 rfl) (h.mono ?_)
                clear h
                rintro _ w_8 ⟨x9, rfl, hs4, h⟩
                refine ⟨_, rfl, ?_⟩
                refine ⟨el_loud rfl hs4, ?_⟩
                refine eQ 15 rfl rfl (wtF rfl rfl rfl (bg hg2) rfl) (fun _ => (R_geq rfl rfl)) (eQ 16 rfl rfl (wn rfl) (fun _ => (R_pickF (bg hg2) rfl)) (eQ 17 rfl rfl (wn rfl) (fun _ => (R_mv rfl)) ?_))
                rcases Bool.eq_false_or_eq_true (decide (x8 ≥ x9)) with hg3 | hg3
                · replace h := h.1 hg3
                  refine eN 18 rfl (fun w => el_quiet rfl w) (wtF rfl rfl rfl (bg hg3) rfl) (eN 19 rfl (fun w => el_quiet rfl w) (wtF rfl rfl rfl (bg hg3) rfl) (eN 20 rfl (fun w => el_quiet rfl w) (wtF rfl rfl rfl (bg hg3) rfl) (eN 21 rfl (fun w => el_quiet rfl w) (wtF rfl rfl rfl (bg hg3) rfl) (eN 22 rfl (fun w => el_quiet rfl w) (wtF rfl rfl rfl (bg hg3) rfl) (eN 23 rfl (fun w => el_quiet rfl w) (wtF rfl rfl rfl (bg hg3) rfl) (eQ 24 rfl rfl (wn rfl) (fun _ => (R_pickT (bg hg3) rfl)) (e_done (by kernel_rfl) ?_)))))))
                  exact then_normal ⟨_, fr_sub ⟨rfl, rfl, rfl, rfl, rfl, rfl, trivial⟩, h⟩
                · replace h := h.2 hg3
                  refine eQ 18 rfl rfl (wtF rfl rfl rfl (bg hg3) rfl) (fun _ => (R_mv rfl)) (eQ 19 rfl rfl (wtF rfl rfl rfl (bg hg3) rfl) (fun _ => (R_mv rfl)) ?_)
                  obtain ⟨ad5, hx10, h⟩ := h
                  refine eQ 20 (v := .pointer (some ad5)) rfl rfl (wtF rfl rfl rfl (bg hg3) rfl) (fun _ => (R_indexS (s := x5) (Try.runUnderlying42 _) (Try.sizeOf49 _) rfl rfl hx10)) (eQ 21 (v := .pointer (some (Addr.add ad5 1))) rfl rfl (wtF rfl rfl rfl (bg hg3) rfl) (fun _ => (R_field (Try.runUnderlying49 _) rfl (Try.sizeOf3 _) rfl rfl)) ?_)
                  obtain ⟨x10, hx11, h⟩ := h
                  refine eL 22 [23, 24] [0, 1, 2, 3, 4, 5, 6, 7, 8, 9, 10, 11, 12, 13, 14, 15, 16, 17, 18, 19, 20, 21] (fun w' => Cells w' (Addr.add ad5 1) [.int .i64 x10]) (v := .int .i64 x10) rfl rfl (el_stable (b := (Addr.add ad5 1).block) (List.forall_mem_cons.2 ⟨.inr (.inl (by simp)), List.forall_mem_nil _⟩) keep_cells) hx11 (y_val (wtF rfl rfl rfl (bg hg3) rfl) (fun w' hw' => (R_load1 (Try.isAgg3 _) rfl (Cells.one hw')))) (eQ 23 rfl rfl (wtF rfl rfl rfl (bg hg3) rfl) (fun _ => (R_lss rfl rfl)) (eQ 24 rfl rfl (wn rfl) (fun _ => (R_pickF (bg hg3) rfl)) (e_done (by kernel_rfl) ?_)))
                  exact then_normal ⟨_, fr_sub ⟨rfl, rfl, rfl, rfl, rfl, rfl, trivial⟩, h⟩
          · replace h := h.2 hc2
            refine wp_exit (then_exit (then_exit (block_hit (then_normal (wp_seq (wp_region_lit (sv (R_mv rfl) (sv (R_len (s := x5) (Try.runUnderlying42 _) rfl) (sv (R_gtr rfl rfl) (wpList_nil (then_normal ?_)))))))))))
            refine C_split (t := (decide ((↑(Sl.n x5) : Int) > 8))) rfl (fun hc4 => ?_) (fun hc4 => ?_)
            · replace h := h.1 hc4
              refine wp_seq (wp_region_lit (sv (R_as rfl) (wpList_nil (then_normal (wp_ret (block_ret (then_ret (then_ret (block_ret (then_ret ?_))))))))))
              exact ret1 Try.results5 ⟨rfl, trivial⟩ h
            · replace h := h.2 hc4
              refine wp_skip (block_normal (then_normal (wp_region_lit (sv (R_mv rfl) (sv (R_add rfl rfl) (sv (R_as rfl) (wpList_nil (then_normal ?_))))))))
              obtain ⟨nv5, hl1, h⟩ := h
              exact ⟨nv5, hl1, _, fr_sub ⟨rfl, rfl, rfl, trivial⟩, h⟩
      · replace h := h.2 hc1
        refine wp_exit (then_exit (then_exit (block_hit (then_normal (wp_seq (wp_region_lit (sv (R_as rfl) (wpList_nil (then_normal (wp_ret ?_))))))))))
        exact ret1 Try.results5 ⟨rfl, trivial⟩ h

/-- what is to be shown of a call of session.Restore -/
def session_Restore_vc (l : Sl) (next_ : Int) (R : Value → World → Prop) (w : World) : Prop :=
  ∃ (I_ : Nat → Int → Int → World → Prop) (nv1 : Nat), I_ nv1 0 0 w ∧
  ∀ (nv : Nat) (last : Int) (t11 : Int) (w_ : World), I_ nv last t11 w_ →
  (((decide (t11 < (↑(Sl.n l) : Int))) = true →
  ∃ ad : Addr, SlAt l t11 4 ad ∧
  ∃ x0 : Int, ∃ x1 : Int, ∃ x2 : Sl, ∃ x3 : Int, Cells w_ ad [.int .i64 x0, .int .i64 x1, Sl.v x2, .int .i64 x3] ∧
  (((((((((decide (x0 ≤ last)) || (decide (x0 ≥ next_))) || (decide (x1 < 0))) || (decide ((↑(Sl.n x2) : Int) > 65536))) || ((x1 == 0) && (decide ((↑(Sl.n x2) : Int) > 0)))) || (decide (x3 < 0))) || (decide (x3 > 1099511627826))) = true →
  ∀ (b : Nat) (w_2 : World), w_.heap.size ≤ b → b < w_2.heap.size → Only [] w_ w_2 →
  R (.tuple #[.pointer none, .int .i64 1]) w_2) ∧
  ((((((((decide (x0 ≤ last)) || (decide (x0 ≥ next_))) || (decide (x1 < 0))) || (decide ((↑(Sl.n x2) : Int) > 65536))) || ((x1 == 0) && (decide ((↑(Sl.n x2) : Int) > 0)))) || (decide (x3 < 0))) || (decide (x3 > 1099511627826))) = false →
  ∀ (b : Nat) (w_2 : World), w_.heap.size ≤ b → b < w_2.heap.size → Only [] w_ w_2 →
  ∃ nv2 : Nat, nv2 < nv ∧ I_ nv2 x0 (IntKind.i64.wrap (t11 + 1)) w_2))) ∧
  ((decide (t11 < (↑(Sl.n l) : Int))) = false →
  ((((decide ((↑(Sl.n l) : Int) > 8)) || (decide (next_ < 1))) = true →
  R (.tuple #[.pointer none, .int .i64 1]) w_) ∧
  (((decide ((↑(Sl.n l) : Int) > 8)) || (decide (next_ < 1))) = false →
  Calls Try.prog 33 #[Sl.v l] w_ (fun e w_3 => ∃ x4 : Sl, e = .returned (Sl.v x4) ∧
  ∀ (b1 : Nat) (w_4 : World), w_3.heap.size ≤ b1 → b1 < w_4.heap.size → Only [] w_3 w_4 → Blk w_4 b1 47 [Sl.v x4, .int .i64 next_] →
  R (.tuple #[.pointer (some ⟨b1, 0, none⟩), .int .i64 0]) w_4)))))
theorem session_Restore_wp (l : Sl) (next_ : Int) (R : Value → World → Prop) (w : World) (h : session_Restore_vc l next_ R w) :
    Calls Try.prog 17 #[Sl.v l, .int .i64 next_] w fun e w' => ∃ v, e = .returned v ∧ R v w' := by
  unfold session_Restore_vc at h
  refine callsF (l := [(0, Sl.v l), (1, .int .i64 next_)]) Try.func17 rfl Try.ntmps17 (Nat.le_of_ble_eq_true rfl) rfl (wp_seq (wp_region_lit (sv (R_as rfl) (sv (R_as rfl) (wpList_nil (then_normal (wp_seq (wp_region_lit (sv (R_as rfl) (wpList_nil (then_normal (wp_seq (wp_seq (wp_region_lit ?_))))))))))))))
  refine sv (R_mv rfl) (sv (R_len (s := l) (Try.runUnderlying42 _) rfl) (sv (R_mv rfl) (wpList_nil (then_normal (wp_block ?_)))))
  obtain ⟨I_, nv1, h0, hI⟩ := h
  refine wp_loop_ghost (fun nv' a' w' => ∃ last : Int, ∃ t11 : Int, (∃ us, a' = fr 73 us [(0, Sl.v l), (1, .int .i64 next_), (6, .int .i64 last), (9, Sl.v l), (10, .int .i64 (↑(Sl.n l) : Int)), (11, .int .i64 t11)]) ∧ I_ nv' last t11 w') nv1 ?_ ?_
  · exact ⟨_, _, fr_sub ⟨rfl, rfl, rfl, rfl, rfl, rfl, trivial⟩, h0⟩
  · clear h0
    rintro nv _ w_ ⟨last, t11, ⟨us, rfl⟩, h⟩
    replace h := hI _ _ _ _ h
    refine wp_seq (wp_region_lit (sv (R_lss rfl rfl) (wpList_nil (then_normal (wp_seq ?_)))))
    refine C_split (t := (decide (t11 < (↑(Sl.n l) : Int)))) rfl (fun hc => ?_) (fun hc => ?_)
    · replace h := h.1 hc
      refine wp_skip (then_normal (wp_seq (wp_block (wp_seq (wp_region_lit ?_)))))
      obtain ⟨ad, hx, h⟩ := h
      refine sv (v := .pointer (some ad)) (R_indexS (s := l) (Try.runUnderlying42 _) (Try.sizeOf49 _) rfl rfl hx) ?_
      obtain ⟨x0, x1, x2, x3, hx1, h⟩ := h
      refine sv (v := .agg #[.int .i64 x0, .int .i64 x1, Sl.v x2, .int .i64 x3]) (R_loadN (Try.isAgg49 _) (Try.sizeOf49 _) rfl rfl hx1) (st_one (wn rfl) ?_)
      refine O_alloc (zs := [.int .i64 0, .int .i64 0, Sl.v Sl.nil, .int .i64 0]) (Try.zeroValue49 _) rfl (fun b w_1 hn hO hb => ?_)
      have hn_b : w_.heap.size ≤ b := hn
      have hA : Only [] w_ w_1 := hO
      refine st_one (wn rfl) ?_
      refine O_store (vs := [.int .i64 x0, .int .i64 x1, Sl.v x2, .int .i64 x3]) (cs' := [.int .i64 x0, .int .i64 x1, Sl.v x2, .int .i64 x3]) (Try.sizeOf49 _) rfl rfl rfl rfl hb (Nat.le_of_ble_eq_true rfl) rfl (fun w_2 hO1 hb1 => ?_)
      have hA1 := hA.new hO1 hn_b
      refine wpList_nil (then_normal (wp_seq (wp_seq (wp_region_lit (sv (v := .pointer (some ⟨b, 0, none⟩)) (R_field (Try.runUnderlying49 _) rfl (Try.sizeOf3 _) rfl rfl) (sv (v := .int .i64 x0) (R_load1 (Try.isAgg3 _) rfl (hb1.cell 0)) (sv (R_mv rfl) (sv (R_leq rfl rfl) (sv (R_mv rfl) ?_)))))))))
      refine cutF 5 73 [(0, Sl.v l), (1, .int .i64 next_), (8, .pointer (some ⟨b, 0, none⟩)), (9, Sl.v l), (10, .int .i64 (↑(Sl.n l) : Int)), (11, .int .i64 t11), (24, .bool ((decide (x0 ≤ last)) || (decide (x0 ≥ next_))))] ?_ ?_
      · simp only [List.take_succ_cons, List.take_zero]
        rcases Bool.eq_false_or_eq_true (decide (x0 ≤ last)) with hg | hg
        · refine sno (wtF rfl rfl rfl (bg hg) rfl) (sno (wtF rfl rfl rfl (bg hg) rfl) (sno (wtF rfl rfl rfl (bg hg) rfl) (sno (wtF rfl rfl rfl (bg hg) rfl) (sv (R_pickT (bg hg) rfl) (wpList_nil ?_)))))
          exact cutEnd ⟨rfl, rfl, rfl, rfl, rfl, rfl, (by rw [hg]; rfl), trivial⟩
        · refine svg (v := .pointer (some ⟨b, 0, none⟩)) (wtF rfl rfl rfl (bg hg) rfl) (R_field (Try.runUnderlying49 _) rfl (Try.sizeOf3 _) rfl rfl) (svg (v := .int .i64 x0) (wtF rfl rfl rfl (bg hg) rfl) (R_load1 (Try.isAgg3 _) rfl (hb1.cell 0)) (svg (wtF rfl rfl rfl (bg hg) rfl) (R_mv rfl) (svg (wtF rfl rfl rfl (bg hg) rfl) (R_geq rfl rfl) (sv (R_pickF (bg hg) rfl) (wpList_nil ?_)))))
          exact cutEnd ⟨rfl, rfl, rfl, rfl, rfl, rfl, (by rw [hg]; rfl), trivial⟩
      intro us
      simp only [List.drop_succ_cons, List.drop_zero]
      refine sv (R_mv rfl) ?_
      refine cutF 4 73 [(0, Sl.v l), (1, .int .i64 next_), (8, .pointer (some ⟨b, 0, none⟩)), (9, Sl.v l), (10, .int .i64 (↑(Sl.n l) : Int)), (11, .int .i64 t11), (29, .bool (((decide (x0 ≤ last)) || (decide (x0 ≥ next_))) || (decide (x1 < 0))))] ?_ ?_
      · simp only [List.take_succ_cons, List.take_zero]
        rcases Bool.eq_false_or_eq_true ((decide (x0 ≤ last)) || (decide (x0 ≥ next_))) with hg1 | hg1
        · refine sno (wtF rfl rfl rfl (bg hg1) rfl) (sno (wtF rfl rfl rfl (bg hg1) rfl) (sno (wtF rfl rfl rfl (bg hg1) rfl) (sv (R_pickT (bg hg1) rfl) (wpList_nil ?_))))
          exact cutEnd ⟨rfl, rfl, rfl, rfl, rfl, rfl, (by rw [hg1]; rfl), trivial⟩
        · refine svg (v := .pointer (some ⟨b, 1, none⟩)) (wtF rfl rfl rfl (bg hg1) rfl) (R_field (Try.runUnderlying49 _) rfl (Try.sizeOf3 _) rfl rfl) (svg (v := .int .i64 x1) (wtF rfl rfl rfl (bg hg1) rfl) (R_load1 (Try.isAgg3 _) rfl (hb1.cell 1)) (svg (wtF rfl rfl rfl (bg hg1) rfl) (R_lss rfl rfl) (sv (R_pickF (bg hg1) rfl) (wpList_nil ?_))))
          exact cutEnd ⟨rfl, rfl, rfl, rfl, rfl, rfl, (by rw [hg1]; rfl), trivial⟩
      intro us
      simp only [List.drop_succ_cons, List.drop_zero]
      refine sv (R_mv rfl) ?_
      refine cutF 5 73 [(0, Sl.v l), (1, .int .i64 next_), (8, .pointer (some ⟨b, 0, none⟩)), (9, Sl.v l), (10, .int .i64 (↑(Sl.n l) : Int)), (11, .int .i64 t11), (35, .bool ((((decide (x0 ≤ last)) || (decide (x0 ≥ next_))) || (decide (x1 < 0))) || (decide ((↑(Sl.n x2) : Int) > 65536))))] ?_ ?_
      · simp only [List.take_succ_cons, List.take_zero]
        rcases Bool.eq_false_or_eq_true (((decide (x0 ≤ last)) || (decide (x0 ≥ next_))) || (decide (x1 < 0))) with hg2 | hg2
        · refine sno (wtF rfl rfl rfl (bg hg2) rfl) (sno (wtF rfl rfl rfl (bg hg2) rfl) (sno (wtF rfl rfl rfl (bg hg2) rfl) (sno (wtF rfl rfl rfl (bg hg2) rfl) (sv (R_pickT (bg hg2) rfl) (wpList_nil ?_)))))
          exact cutEnd ⟨rfl, rfl, rfl, rfl, rfl, rfl, (by rw [hg2]; rfl), trivial⟩
        · refine svg (v := .pointer (some ⟨b, 2, none⟩)) (wtF rfl rfl rfl (bg hg2) rfl) (R_field (Try.runUnderlying49 _) rfl (Try.sizeOf27 _) rfl rfl) (svg (v := Sl.v x2) (wtF rfl rfl rfl (bg hg2) rfl) (R_load1 (Try.isAgg27 _) rfl (hb1.cell 2)) (svg (wtF rfl rfl rfl (bg hg2) rfl) (R_len (s := x2) (Try.runUnderlying27 _) rfl) (svg (wtF rfl rfl rfl (bg hg2) rfl) (R_gtr rfl rfl) (sv (R_pickF (bg hg2) rfl) (wpList_nil ?_)))))
          exact cutEnd ⟨rfl, rfl, rfl, rfl, rfl, rfl, (by rw [hg2]; rfl), trivial⟩
      intro us
      simp only [List.drop_succ_cons, List.drop_zero]
      refine sv (R_mv rfl) ?_
      refine cutF 10 73 [(0, Sl.v l), (1, .int .i64 next_), (8, .pointer (some ⟨b, 0, none⟩)), (9, Sl.v l), (10, .int .i64 (↑(Sl.n l) : Int)), (11, .int .i64 t11), (46, .bool (((((decide (x0 ≤ last)) || (decide (x0 ≥ next_))) || (decide (x1 < 0))) || (decide ((↑(Sl.n x2) : Int) > 65536))) || ((x1 == 0) && (decide ((↑(Sl.n x2) : Int) > 0)))))] ?_ ?_
      · simp only [List.take_succ_cons, List.take_zero]
        rcases Bool.eq_false_or_eq_true ((((decide (x0 ≤ last)) || (decide (x0 ≥ next_))) || (decide (x1 < 0))) || (decide ((↑(Sl.n x2) : Int) > 65536))) with hg3 | hg3
        · refine sno (wtF rfl rfl rfl (bg hg3) rfl) (sno (wtF rfl rfl rfl (bg hg3) rfl) (sno (wtF rfl rfl rfl (bg hg3) rfl) (sno (wtF rfl rfl rfl (bg hg3) rfl) (sno (wuF rfl rfl rfl rfl) (sno (wuF rfl rfl rfl rfl) (sno (wuF rfl rfl rfl rfl) (sno (wuF rfl rfl rfl rfl) (sno (wtF rfl rfl rfl (bg hg3) rfl) (sv (R_pickT (bg hg3) rfl) (wpList_nil ?_))))))))))
          exact cutEnd ⟨rfl, rfl, rfl, rfl, rfl, rfl, (by rw [hg3]; rfl), trivial⟩
        · refine svg (v := .pointer (some ⟨b, 1, none⟩)) (wtF rfl rfl rfl (bg hg3) rfl) (R_field (Try.runUnderlying49 _) rfl (Try.sizeOf3 _) rfl rfl) (svg (v := .int .i64 x1) (wtF rfl rfl rfl (bg hg3) rfl) (R_load1 (Try.isAgg3 _) rfl (hb1.cell 1)) (svg (wtF rfl rfl rfl (bg hg3) rfl) (R_eql rfl rfl) (svg (wtF rfl rfl rfl (bg hg3) rfl) (R_mv rfl) ?_)))
          refine cutF 5 73 [(0, Sl.v l), (1, .int .i64 next_), (8, .pointer (some ⟨b, 0, none⟩)), (9, Sl.v l), (10, .int .i64 (↑(Sl.n l) : Int)), (11, .int .i64 t11), (36, .bool ((((decide (x0 ≤ last)) || (decide (x0 ≥ next_))) || (decide (x1 < 0))) || (decide ((↑(Sl.n x2) : Int) > 65536)))), (45, .bool ((x1 == 0) && (decide ((↑(Sl.n x2) : Int) > 0))))] ?_ ?_
          · simp only [List.take_succ_cons, List.take_zero]
            rcases Bool.eq_false_or_eq_true (x1 == 0) with hg4 | hg4
            · refine svg (v := .pointer (some ⟨b, 2, none⟩)) (wtF rfl rfl rfl (bg hg4) rfl) (R_field (Try.runUnderlying49 _) rfl (Try.sizeOf27 _) rfl rfl) (svg (v := Sl.v x2) (wtF rfl rfl rfl (bg hg4) rfl) (R_load1 (Try.isAgg27 _) rfl (hb1.cell 2)) (svg (wtF rfl rfl rfl (bg hg4) rfl) (R_len (s := x2) (Try.runUnderlying27 _) rfl) (svg (wtF rfl rfl rfl (bg hg4) rfl) (R_gtr rfl rfl) (svg (wtF rfl rfl rfl (bg hg3) rfl) (R_pickT (bg hg4) rfl) (wpList_nil ?_)))))
              exact cutEnd ⟨rfl, rfl, rfl, rfl, rfl, rfl, rfl, (by rw [hg4]; rfl), trivial⟩
            · refine sno (wtF rfl rfl rfl (bg hg4) rfl) (sno (wtF rfl rfl rfl (bg hg4) rfl) (sno (wtF rfl rfl rfl (bg hg4) rfl) (sno (wtF rfl rfl rfl (bg hg4) rfl) (svg (wtF rfl rfl rfl (bg hg3) rfl) (R_pickF (bg hg4) rfl) (wpList_nil ?_)))))
              exact cutEnd ⟨rfl, rfl, rfl, rfl, rfl, rfl, rfl, (by rw [hg4]; rfl), trivial⟩
          intro us
          simp only [List.drop_succ_cons, List.drop_zero]
          refine sv (R_pickF (bg hg3) rfl) (wpList_nil ?_)
          exact cutEnd ⟨rfl, rfl, rfl, rfl, rfl, rfl, (by rw [hg3]; rfl), trivial⟩
      intro us
      simp only [List.drop_succ_cons, List.drop_zero]
      refine sv (R_mv rfl) ?_
      refine cutF 4 73 [(0, Sl.v l), (1, .int .i64 next_), (8, .pointer (some ⟨b, 0, none⟩)), (9, Sl.v l), (10, .int .i64 (↑(Sl.n l) : Int)), (11, .int .i64 t11), (51, .bool ((((((decide (x0 ≤ last)) || (decide (x0 ≥ next_))) || (decide (x1 < 0))) || (decide ((↑(Sl.n x2) : Int) > 65536))) || ((x1 == 0) && (decide ((↑(Sl.n x2) : Int) > 0)))) || (decide (x3 < 0))))] ?_ ?_
      · simp only [List.take_succ_cons, List.take_zero]
        rcases Bool.eq_false_or_eq_true (((((decide (x0 ≤ last)) || (decide (x0 ≥ next_))) || (decide (x1 < 0))) || (decide ((↑(Sl.n x2) : Int) > 65536))) || ((x1 == 0) && (decide ((↑(Sl.n x2) : Int) > 0)))) with hg5 | hg5
        · refine sno (wtF rfl rfl rfl (bg hg5) rfl) (sno (wtF rfl rfl rfl (bg hg5) rfl) (sno (wtF rfl rfl rfl (bg hg5) rfl) (sv (R_pickT (bg hg5) rfl) (wpList_nil ?_))))
          exact cutEnd ⟨rfl, rfl, rfl, rfl, rfl, rfl, (by rw [hg5]; rfl), trivial⟩
        · refine svg (v := .pointer (some ⟨b, 3, none⟩)) (wtF rfl rfl rfl (bg hg5) rfl) (R_field (Try.runUnderlying49 _) rfl (Try.sizeOf3 _) rfl rfl) (svg (v := .int .i64 x3) (wtF rfl rfl rfl (bg hg5) rfl) (R_load1 (Try.isAgg3 _) rfl (hb1.cell 3)) (svg (wtF rfl rfl rfl (bg hg5) rfl) (R_lss rfl rfl) (sv (R_pickF (bg hg5) rfl) (wpList_nil ?_))))
          exact cutEnd ⟨rfl, rfl, rfl, rfl, rfl, rfl, (by rw [hg5]; rfl), trivial⟩
      intro us
      simp only [List.drop_succ_cons, List.drop_zero]
      refine sv (R_mv rfl) ?_
      refine cutF 4 73 [(0, Sl.v l), (1, .int .i64 next_), (8, .pointer (some ⟨b, 0, none⟩)), (9, Sl.v l), (10, .int .i64 (↑(Sl.n l) : Int)), (11, .int .i64 t11), (56, .bool (((((((decide (x0 ≤ last)) || (decide (x0 ≥ next_))) || (decide (x1 < 0))) || (decide ((↑(Sl.n x2) : Int) > 65536))) || ((x1 == 0) && (decide ((↑(Sl.n x2) : Int) > 0)))) || (decide (x3 < 0))) || (decide (x3 > 1099511627826))))] ?_ ?_
      · simp only [List.take_succ_cons, List.take_zero]
        rcases Bool.eq_false_or_eq_true ((((((decide (x0 ≤ last)) || (decide (x0 ≥ next_))) || (decide (x1 < 0))) || (decide ((↑(Sl.n x2) : Int) > 65536))) || ((x1 == 0) && (decide ((↑(Sl.n x2) : Int) > 0)))) || (decide (x3 < 0))) with hg6 | hg6
        · refine sno (wtF rfl rfl rfl (bg hg6) rfl) (sno (wtF rfl rfl rfl (bg hg6) rfl) (sno (wtF rfl rfl rfl (bg hg6) rfl) (sv (R_pickT (bg hg6) rfl) (wpList_nil ?_))))
          exact cutEnd ⟨rfl, rfl, rfl, rfl, rfl, rfl, (by rw [hg6]; rfl), trivial⟩
        · refine svg (v := .pointer (some ⟨b, 3, none⟩)) (wtF rfl rfl rfl (bg hg6) rfl) (R_field (Try.runUnderlying49 _) rfl (Try.sizeOf3 _) rfl rfl) (svg (v := .int .i64 x3) (wtF rfl rfl rfl (bg hg6) rfl) (R_load1 (Try.isAgg3 _) rfl (hb1.cell 3)) (svg (wtF rfl rfl rfl (bg hg6) rfl) (R_gtr rfl rfl) (sv (R_pickF (bg hg6) rfl) (wpList_nil ?_))))
          exact cutEnd ⟨rfl, rfl, rfl, rfl, rfl, rfl, (by rw [hg6]; rfl), trivial⟩
      intro us
      simp only [List.drop_succ_cons, List.drop_zero]
      refine wpList_nil (then_normal ?_)
      refine C_split (t := (((((((decide (x0 ≤ last)) || (decide (x0 ≥ next_))) || (decide (x1 < 0))) || (decide ((↑(Sl.n x2) : Int) > 65536))) || ((x1 == 0) && (decide ((↑(Sl.n x2) : Int) > 0)))) || (decide (x3 < 0))) || (decide (x3 > 1099511627826)))) rfl (fun hc1 => ?_) (fun hc1 => ?_)
      · replace h := h.1 hc1
        refine wp_seq (wp_region_lit (sv (R_as rfl) (sv (R_as rfl) (wpList_nil (then_normal (wp_ret (then_ret (block_ret (then_ret (then_ret (block_ret (then_ret ?_))))))))))))
        replace h := h b w_2 hn_b hb1.lt hA1
        exact retN (vs := [.pointer none, .int .i64 1]) Try.results17 rfl ⟨rfl, rfl, trivial⟩ h
      · replace h := h.2 hc1
        refine wp_skip (then_normal (wp_region_lit (sv (v := .pointer (some ⟨b, 0, none⟩)) (R_field (Try.runUnderlying49 _) rfl (Try.sizeOf3 _) rfl rfl) (sv (v := .int .i64 x0) (R_load1 (Try.isAgg3 _) rfl (hb1.cell 0)) (sv (R_as rfl) (wpList_nil (block_normal (then_normal (wp_region_lit (sv (R_add rfl rfl) (sv (R_mv rfl) (wpList_nil (then_normal ?_)))))))))))))
        replace h := h b w_2 hn_b hb1.lt hA1
        obtain ⟨nv2, hl, h⟩ := h
        exact ⟨nv2, hl, _, _, fr_sub ⟨rfl, rfl, rfl, rfl, rfl, rfl, trivial⟩, h⟩
    · replace h := h.2 hc
      refine wp_exit (then_exit (then_exit (block_hit (then_normal (wp_seq (wp_seq (wp_region_lit (sv (R_mv rfl) (sv (R_len (s := l) (Try.runUnderlying42 _) rfl) (sv (R_gtr rfl rfl) (sv (R_mv rfl) ?_)))))))))))
      refine cutF 3 73 [(0, Sl.v l), (1, .int .i64 next_), (66, .bool ((decide ((↑(Sl.n l) : Int) > 8)) || (decide (next_ < 1))))] ?_ ?_
      · simp only [List.take_succ_cons, List.take_zero]
        rcases Bool.eq_false_or_eq_true (decide ((↑(Sl.n l) : Int) > 8)) with hg7 | hg7
        · refine sno (wtF rfl rfl rfl (bg hg7) rfl) (sno (wtF rfl rfl rfl (bg hg7) rfl) (sv (R_pickT (bg hg7) rfl) (wpList_nil ?_)))
          exact cutEnd ⟨rfl, rfl, (by rw [hg7]; rfl), trivial⟩
        · refine svg (wtF rfl rfl rfl (bg hg7) rfl) (R_mv rfl) (svg (wtF rfl rfl rfl (bg hg7) rfl) (R_lss rfl rfl) (sv (R_pickF (bg hg7) rfl) (wpList_nil ?_)))
          exact cutEnd ⟨rfl, rfl, (by rw [hg7]; rfl), trivial⟩
      intro us
      simp only [List.drop_succ_cons, List.drop_zero]
      refine wpList_nil (then_normal ?_)
      refine C_split (t := ((decide ((↑(Sl.n l) : Int) > 8)) || (decide (next_ < 1)))) rfl (fun hc2 => ?_) (fun hc2 => ?_)
      · replace h := h.1 hc2
        refine wp_seq (wp_region_lit (sv (R_as rfl) (sv (R_as rfl) (wpList_nil (then_normal (wp_ret (then_ret ?_)))))))
        exact retN (vs := [.pointer none, .int .i64 1]) Try.results17 rfl ⟨rfl, rfl, trivial⟩ h
      · replace h := h.2 hc2
        refine wp_skip (then_normal (wp_seq (wp_region_lit (sv (R_mv rfl) (st_one (wn rfl) ?_)))))
        refine O_enter (args := #[Sl.v l]) (R_enter Try.call33 rfl) (h.mono ?_)
        clear h
        rintro _ w_3 ⟨x4, rfl, h⟩
        refine ⟨_, rfl, ?_⟩
        refine sv (v := .agg #[Sl.v x4]) (R_build (ps' := [(0, Sl.v x4)]) rfl (by kernel_rfl)) (sv (R_mv rfl) (sv (v := .agg #[Sl.v x4, .int .i64 next_]) (R_build (ps' := [(0, .agg #[Sl.v x4]), (1, .int .i64 next_)]) rfl (by kernel_rfl)) (st_one (wn rfl) ?_)))
        refine O_box (zs := [Sl.v x4, .int .i64 next_]) rfl (fun b1 w_4 hn1 hO2 hb2 => ?_)
        have hn_b1 : w_3.heap.size ≤ b1 := hn1
        have hA2 : Only [] w_3 w_4 := hO2
        refine sv (R_as rfl) (sv (R_as rfl) (wpList_nil (then_normal (wp_ret ?_))))
        replace h := h b1 w_4 hn_b1 hb2.lt hA2 hb2
        exact retN (vs := [.pointer (some ⟨b1, 0, none⟩), .int .i64 0]) Try.results17 rfl ⟨rfl, rfl, trivial⟩ h

/-- what is to be shown of a call of pavaneref19.Same -/
def pavaneref19_Same_vc (a_ : Sl) (b : Sl) (R : Value → World → Prop) (w : World) : Prop :=
  ((((↑(Sl.n a_) : Int) != (↑(Sl.n b) : Int)) = true →
  R (.bool false) w) ∧
  (((↑(Sl.n a_) : Int) != (↑(Sl.n b) : Int)) = false →
  ∃ (I_ : Nat → Int → World → Prop) (nv1 : Nat), I_ nv1 0 w ∧
  ∀ (nv : Nat) (i : Int) (w_ : World), I_ nv i w_ →
  (((decide (i < (↑(Sl.n a_) : Int))) = true →
  ∃ ad : Addr, SlAt a_ i 4 ad ∧
  ∃ x1 : Int, Cells w_ (Addr.add ad 0) [.int .i64 x1] ∧
  ∃ ad1 : Addr, SlAt b i 4 ad1 ∧
  ∃ x2 : Int, Cells w_ (Addr.add ad1 0) [.int .i64 x2] ∧
  ∃ ad2 : Addr, ((x1 != x2) = false → SlAt a_ i 4 ad2) ∧
  ∃ x3 : Int, ((x1 != x2) = false → Cells w_ (Addr.add ad2 1) [.int .i64 x3]) ∧
  ∃ ad3 : Addr, ((x1 != x2) = false → SlAt b i 4 ad3) ∧
  ∃ x4 : Int, ((x1 != x2) = false → Cells w_ (Addr.add ad3 1) [.int .i64 x4]) ∧
  ∃ ad4 : Addr, (((x1 != x2) || (x3 != x4)) = false → SlAt a_ i 4 ad4) ∧
  ∃ x5 : Sl, (((x1 != x2) || (x3 != x4)) = false → Cells w_ (Addr.add ad4 2) [Sl.v x5]) ∧
  ∃ bs : List UInt8, (((x1 != x2) || (x3 != x4)) = false → Bytes w_ x5 bs) ∧
  ∃ ad5 : Addr, (((x1 != x2) || (x3 != x4)) = false → SlAt b i 4 ad5) ∧
  ∃ x6 : Sl, (((x1 != x2) || (x3 != x4)) = false → Cells w_ (Addr.add ad5 2) [Sl.v x6]) ∧
  ∃ bs1 : List UInt8, (((x1 != x2) || (x3 != x4)) = false → Bytes w_ x6 bs1) ∧
  ∃ ad6 : Addr, ((((x1 != x2) || (x3 != x4)) || (!((⟨List.toArray bs⟩ : ByteArray).toList == (⟨List.toArray bs1⟩ : ByteArray).toList))) = false → SlAt a_ i 4 ad6) ∧
  ∃ x7 : Int, ((((x1 != x2) || (x3 != x4)) || (!((⟨List.toArray bs⟩ : ByteArray).toList == (⟨List.toArray bs1⟩ : ByteArray).toList))) = false → Cells w_ (Addr.add ad6 3) [.int .i64 x7]) ∧
  ∃ ad7 : Addr, ((((x1 != x2) || (x3 != x4)) || (!((⟨List.toArray bs⟩ : ByteArray).toList == (⟨List.toArray bs1⟩ : ByteArray).toList))) = false → SlAt b i 4 ad7) ∧
  ∃ x8 : Int, ((((x1 != x2) || (x3 != x4)) || (!((⟨List.toArray bs⟩ : ByteArray).toList == (⟨List.toArray bs1⟩ : ByteArray).toList))) = false → Cells w_ (Addr.add ad7 3) [.int .i64 x8]) ∧
  ((((((x1 != x2) || (x3 != x4)) || (!((⟨List.toArray bs⟩ : ByteArray).toList == (⟨List.toArray bs1⟩ : ByteArray).toList))) || (x7 != x8)) = true →
  ∀ (w_1 : World), Only [] w_ w_1 →
  R (.bool false) w_1) ∧
  (((((x1 != x2) || (x3 != x4)) || (!((⟨List.toArray bs⟩ : ByteArray).toList == (⟨List.toArray bs1⟩ : ByteArray).toList))) || (x7 != x8)) = false →
  ∀ (w_1 : World), Only [] w_ w_1 →
  ∃ nv2 : Nat, nv2 < nv ∧ I_ nv2 (IntKind.i64.wrap (i + 1)) w_1))) ∧
  ((decide (i < (↑(Sl.n a_) : Int))) = false →
  R (.bool true) w_))))
theorem pavaneref19_Same_wp (a_ : Sl) (b : Sl) (R : Value → World → Prop) (w : World) (h : pavaneref19_Same_vc a_ b R w) :
    Calls Try.prog 19 #[Sl.v a_, Sl.v b] w fun e w' => ∃ v, e = .returned v ∧ R v w' := by
  unfold pavaneref19_Same_vc at h
  refine callsF (l := [(0, Sl.v a_), (1, Sl.v b)]) Try.func19 rfl Try.ntmps19 (Nat.le_of_ble_eq_true rfl) rfl (wp_seq (wp_region_lit (sv (R_as rfl) (wpList_nil (then_normal (wp_seq (wp_seq (wp_region_lit (sv (R_mv rfl) (sv (R_len (s := a_) (Try.runUnderlying42 _) rfl) (sv (R_mv rfl) (sv (R_len (s := b) (Try.runUnderlying42 _) rfl) (sv (R_neq rfl rfl) (wpList_nil ?_))))))))))))))
  refine then_normal ?_
  refine C_split (t := ((↑(Sl.n a_) : Int) != (↑(Sl.n b) : Int))) rfl (fun hc => ?_) (fun hc => ?_)
  · replace h := h.1 hc
    refine wp_seq (wp_region_lit (sv (R_as rfl) (wpList_nil (then_normal (wp_ret (then_ret ?_))))))
    exact ret1 Try.results19 ⟨rfl, trivial⟩ h
  · replace h := h.2 hc
    refine wp_skip (then_normal (wp_seq (wp_seq (wp_region_lit (sv (R_as rfl) (wpList_nil (then_normal (wp_block ?_))))))))
    obtain ⟨I_, nv1, h0, hI⟩ := h
    refine wp_loop_ghost (fun nv' a' w' => ∃ i : Int, (∃ us, a' = fr 69 us [(0, Sl.v a_), (1, Sl.v b), (5, .int .i64 i)]) ∧ I_ nv' i w') nv1 ?_ ?_
    · exact ⟨_, fr_sub ⟨rfl, rfl, rfl, trivial⟩, h0⟩
    · clear h0
      rintro nv _ w_ ⟨i, ⟨us, rfl⟩, h⟩
      replace h := hI _ _ _ h
      refine wp_seq (wp_seq (wp_region_lit (sv (R_mv rfl) (sv (R_mv rfl) (sv (R_len (s := a_) (Try.runUnderlying42 _) rfl) (sv (R_lss rfl rfl) (wpList_nil (then_normal ?_))))))))
      refine C_split (t := (decide (i < (↑(Sl.n a_) : Int)))) rfl (fun hc1 => ?_) (fun hc1 => ?_)
      · replace h := h.1 hc1
        refine wp_skip (then_normal (wp_seq (wp_block (wp_seq ?_))))
        obtain ⟨ad, hx, h⟩ := h
        obtain ⟨x1, hx1, h⟩ := h
        obtain ⟨ad1, hx2, h⟩ := h
        obtain ⟨x2, hx3, h⟩ := h
        obtain ⟨ad2, hx4, h⟩ := h
        obtain ⟨x3, hx5, h⟩ := h
        obtain ⟨ad3, hx6, h⟩ := h
        obtain ⟨x4, hx7, h⟩ := h
        obtain ⟨ad4, hx8, h⟩ := h
        obtain ⟨x5, hx9, h⟩ := h
        obtain ⟨bs, hx10, h⟩ := h
        obtain ⟨ad5, hx11, h⟩ := h
        obtain ⟨x6, hx12, h⟩ := h
        obtain ⟨bs1, hx13, h⟩ := h
        obtain ⟨ad6, hx14, h⟩ := h
        obtain ⟨x7, hx15, h⟩ := h
        obtain ⟨ad7, hx16, h⟩ := h
        obtain ⟨x8, hx17, h⟩ := h
        refine wp_region_quiet_lit Try.checked.mixed (by kernel_rfl) (qv (wn rfl) (fun nd => (R_mv rfl)) (qv (wn rfl) (fun nd => (R_mv rfl)) (qv (v := .pointer (some ad)) (wn rfl) (fun nd => (R_indexS (s := a_) (Try.runUnderlying42 _) (Try.sizeOf49 _) rfl rfl hx)) (qv (v := .pointer (some (Addr.add ad 0))) (wn rfl) (fun nd => (R_field (Try.runUnderlying49 _) rfl (Try.sizeOf3 _) rfl rfl)) (qv (v := .int .i64 x1) (wn rfl) (fun nd => (R_load1 (Try.isAgg3 _) rfl (Cells.one (q_cells hx1)))) (qv (wn rfl) (fun nd => (R_mv rfl)) (qv (wn rfl) (fun nd => (R_mv rfl)) (qv (v := .pointer (some ad1)) (wn rfl) (fun nd => (R_indexS (s := b) (Try.runUnderlying42 _) (Try.sizeOf49 _) rfl rfl hx2)) (qv (v := .pointer (some (Addr.add ad1 0))) (wn rfl) (fun nd => (R_field (Try.runUnderlying49 _) rfl (Try.sizeOf3 _) rfl rfl)) (qv (v := .int .i64 x2) (wn rfl) (fun nd => (R_load1 (Try.isAgg3 _) rfl (Cells.one (q_cells hx3)))) (qv (wn rfl) (fun nd => (R_neq rfl rfl)) (qv (wn rfl) (fun nd => (R_mv rfl)) ?_))))))))))))
        refine qcutF 12 69 [(0, Sl.v a_), (1, Sl.v b), (5, .int .i64 i), (40, .bool ((x1 != x2) || (x3 != x4)))] ?_ ?_
        · simp only [List.take_succ_cons, List.take_zero]
          rcases Bool.eq_false_or_eq_true (x1 != x2) with hg | hg
          · refine qno (wtF rfl rfl rfl (bg hg) rfl) (qno (wtF rfl rfl rfl (bg hg) rfl) (qno (wtF rfl rfl rfl (bg hg) rfl) (qno (wtF rfl rfl rfl (bg hg) rfl) (qno (wtF rfl rfl rfl (bg hg) rfl) (qno (wtF rfl rfl rfl (bg hg) rfl) (qno (wtF rfl rfl rfl (bg hg) rfl) (qno (wtF rfl rfl rfl (bg hg) rfl) (qno (wtF rfl rfl rfl (bg hg) rfl) (qno (wtF rfl rfl rfl (bg hg) rfl) (qno (wtF rfl rfl rfl (bg hg) rfl) (qv (wn rfl) (fun nd => (R_pickT (bg hg) rfl)) (wpQuiet_nil ?_))))))))))))
            exact fr_sub ⟨rfl, rfl, rfl, (by rw [hg]; rfl), trivial⟩
          · refine qv (wtF rfl rfl rfl (bg hg) rfl) (fun nd => (R_mv rfl)) (qv (wtF rfl rfl rfl (bg hg) rfl) (fun nd => (R_mv rfl)) (qv (v := .pointer (some ad2)) (wtF rfl rfl rfl (bg hg) rfl) (fun nd => (R_indexS (s := a_) (Try.runUnderlying42 _) (Try.sizeOf49 _) rfl rfl (hx4 hg))) (qv (v := .pointer (some (Addr.add ad2 1))) (wtF rfl rfl rfl (bg hg) rfl) (fun nd => (R_field (Try.runUnderlying49 _) rfl (Try.sizeOf3 _) rfl rfl)) (qv (v := .int .i64 x3) (wtF rfl rfl rfl (bg hg) rfl) (fun nd => (R_load1 (Try.isAgg3 _) rfl (Cells.one (q_cells (hx5 hg))))) (qv (wtF rfl rfl rfl (bg hg) rfl) (fun nd => (R_mv rfl)) (qv (wtF rfl rfl rfl (bg hg) rfl) (fun nd => (R_mv rfl)) (qv (v := .pointer (some ad3)) (wtF rfl rfl rfl (bg hg) rfl) (fun nd => (R_indexS (s := b) (Try.runUnderlying42 _) (Try.sizeOf49 _) rfl rfl (hx6 hg))) (qv (v := .pointer (some (Addr.add ad3 1))) (wtF rfl rfl rfl (bg hg) rfl) (fun nd => (R_field (Try.runUnderlying49 _) rfl (Try.sizeOf3 _) rfl rfl)) (qv (v := .int .i64 x4) (wtF rfl rfl rfl (bg hg) rfl) (fun nd => (R_load1 (Try.isAgg3 _) rfl (Cells.one (q_cells (hx7 hg))))) (qv (wtF rfl rfl rfl (bg hg) rfl) (fun nd => (R_neq rfl rfl)) (qv (wn rfl) (fun nd => (R_pickF (bg hg) rfl)) (wpQuiet_nil ?_))))))))))))
            exact fr_sub ⟨rfl, rfl, rfl, (by rw [hg]; rfl), trivial⟩
        intro us
        simp only [List.drop_succ_cons, List.drop_zero]
        refine qv (wn rfl) (fun nd => (R_mv rfl)) ?_
        refine qcutF 14 69 [(0, Sl.v a_), (1, Sl.v b), (5, .int .i64 i), (55, .bool (((x1 != x2) || (x3 != x4)) || (!((⟨List.toArray bs⟩ : ByteArray).toList == (⟨List.toArray bs1⟩ : ByteArray).toList))))] ?_ ?_
        · simp only [List.take_succ_cons, List.take_zero]
          rcases Bool.eq_false_or_eq_true ((x1 != x2) || (x3 != x4)) with hg1 | hg1
          · refine qno (wtF rfl rfl rfl (bg hg1) rfl) (qno (wtF rfl rfl rfl (bg hg1) rfl) (qno (wtF rfl rfl rfl (bg hg1) rfl) (qno (wtF rfl rfl rfl (bg hg1) rfl) (qno (wtF rfl rfl rfl (bg hg1) rfl) (qno (wtF rfl rfl rfl (bg hg1) rfl) (qno (wtF rfl rfl rfl (bg hg1) rfl) (qno (wtF rfl rfl rfl (bg hg1) rfl) (qno (wtF rfl rfl rfl (bg hg1) rfl) (qno (wtF rfl rfl rfl (bg hg1) rfl) (qno (wtF rfl rfl rfl (bg hg1) rfl) (qno (wtF rfl rfl rfl (bg hg1) rfl) (qno (wtF rfl rfl rfl (bg hg1) rfl) (qv (wn rfl) (fun nd => (R_pickT (bg hg1) rfl)) (wpQuiet_nil ?_))))))))))))))
            exact fr_sub ⟨rfl, rfl, rfl, (by rw [hg1]; rfl), trivial⟩
          · refine qv (wtF rfl rfl rfl (bg hg1) rfl) (fun nd => (R_mv rfl)) (qv (wtF rfl rfl rfl (bg hg1) rfl) (fun nd => (R_mv rfl)) (qv (v := .pointer (some ad4)) (wtF rfl rfl rfl (bg hg1) rfl) (fun nd => (R_indexS (s := a_) (Try.runUnderlying42 _) (Try.sizeOf49 _) rfl rfl (hx8 hg1))) (qv (v := .pointer (some (Addr.add ad4 2))) (wtF rfl rfl rfl (bg hg1) rfl) (fun nd => (R_field (Try.runUnderlying49 _) rfl (Try.sizeOf27 _) rfl rfl)) (qv (v := Sl.v x5) (wtF rfl rfl rfl (bg hg1) rfl) (fun nd => (R_load1 (Try.isAgg27 _) rfl (Cells.one (q_cells (hx9 hg1))))) (qv (v := .string (⟨List.toArray bs⟩ : ByteArray)) (wtF rfl rfl rfl (bg hg1) rfl) (fun nd => (R_bytesStr (sl := x5) Try.underlying27 Try.underlying5 Try.underlying9 rfl (q_bytes (hx10 hg1)))) (qv (wtF rfl rfl rfl (bg hg1) rfl) (fun nd => (R_mv rfl)) (qv (wtF rfl rfl rfl (bg hg1) rfl) (fun nd => (R_mv rfl)) (qv (v := .pointer (some ad5)) (wtF rfl rfl rfl (bg hg1) rfl) (fun nd => (R_indexS (s := b) (Try.runUnderlying42 _) (Try.sizeOf49 _) rfl rfl (hx11 hg1))) (qv (v := .pointer (some (Addr.add ad5 2))) (wtF rfl rfl rfl (bg hg1) rfl) (fun nd => (R_field (Try.runUnderlying49 _) rfl (Try.sizeOf27 _) rfl rfl)) (qv (v := Sl.v x6) (wtF rfl rfl rfl (bg hg1) rfl) (fun nd => (R_load1 (Try.isAgg27 _) rfl (Cells.one (q_cells (hx12 hg1))))) (qv (v := .string (⟨List.toArray bs1⟩ : ByteArray)) (wtF rfl rfl rfl (bg hg1) rfl) (fun nd => (R_bytesStr (sl := x6) Try.underlying27 Try.underlying5 Try.underlying9 rfl (q_bytes (hx13 hg1)))) ?_)))))))))))
            refine qv (wtF rfl rfl rfl (bg hg1) rfl) (fun nd => (R_sneq rfl rfl)) (qv (wn rfl) (fun nd => (R_pickF (bg hg1) rfl)) (wpQuiet_nil ?_))
            exact fr_sub ⟨rfl, rfl, rfl, (by rw [hg1]; rfl), trivial⟩
        intro us
        simp only [List.drop_succ_cons, List.drop_zero]
        refine qv (wn rfl) (fun nd => (R_mv rfl)) ?_
        refine qcutF 12 69 [(0, Sl.v a_), (1, Sl.v b), (5, .int .i64 i), (68, .bool ((((x1 != x2) || (x3 != x4)) || (!((⟨List.toArray bs⟩ : ByteArray).toList == (⟨List.toArray bs1⟩ : ByteArray).toList))) || (x7 != x8)))] ?_ ?_
        · simp only [List.take_succ_cons, List.take_zero]
          rcases Bool.eq_false_or_eq_true (((x1 != x2) || (x3 != x4)) || (!((⟨List.toArray bs⟩ : ByteArray).toList == (⟨List.toArray bs1⟩ : ByteArray).toList))) with hg2 | hg2
          · refine qno (wtF rfl rfl rfl (bg hg2) rfl) (qno (wtF rfl rfl rfl (bg hg2) rfl) (qno (wtF rfl rfl rfl (bg hg2) rfl) (qno (wtF rfl rfl rfl (bg hg2) rfl) (qno (wtF rfl rfl rfl (bg hg2) rfl) (qno (wtF rfl rfl rfl (bg hg2) rfl) (qno (wtF rfl rfl rfl (bg hg2) rfl) (qno (wtF rfl rfl rfl (bg hg2) rfl) (qno (wtF rfl rfl rfl (bg hg2) rfl) (qno (wtF rfl rfl rfl (bg hg2) rfl) (qno (wtF rfl rfl rfl (bg hg2) rfl) (qv (wn rfl) (fun nd => (R_pickT (bg hg2) rfl)) (wpQuiet_nil ?_))))))))))))
            exact fr_sub ⟨rfl, rfl, rfl, (by rw [hg2]; rfl), trivial⟩
          · refine qv (wtF rfl rfl rfl (bg hg2) rfl) (fun nd => (R_mv rfl)) (qv (wtF rfl rfl rfl (bg hg2) rfl) (fun nd => (R_mv rfl)) (qv (v := .pointer (some ad6)) (wtF rfl rfl rfl (bg hg2) rfl) (fun nd => (R_indexS (s := a_) (Try.runUnderlying42 _) (Try.sizeOf49 _) rfl rfl (hx14 hg2))) (qv (v := .pointer (some (Addr.add ad6 3))) (wtF rfl rfl rfl (bg hg2) rfl) (fun nd => (R_field (Try.runUnderlying49 _) rfl (Try.sizeOf3 _) rfl rfl)) (qv (v := .int .i64 x7) (wtF rfl rfl rfl (bg hg2) rfl) (fun nd => (R_load1 (Try.isAgg3 _) rfl (Cells.one (q_cells (hx15 hg2))))) (qv (wtF rfl rfl rfl (bg hg2) rfl) (fun nd => (R_mv rfl)) (qv (wtF rfl rfl rfl (bg hg2) rfl) (fun nd => (R_mv rfl)) (qv (v := .pointer (some ad7)) (wtF rfl rfl rfl (bg hg2) rfl) (fun nd => (R_indexS (s := b) (Try.runUnderlying42 _) (Try.sizeOf49 _) rfl rfl (hx16 hg2))) (qv (v := .pointer (some (Addr.add ad7 3))) (wtF rfl rfl rfl (bg hg2) rfl) (fun nd => (R_field (Try.runUnderlying49 _) rfl (Try.sizeOf3 _) rfl rfl)) (qv (v := .int .i64 x8) (wtF rfl rfl rfl (bg hg2) rfl) (fun nd => (R_load1 (Try.isAgg3 _) rfl (Cells.one (q_cells (hx17 hg2))))) (qv (wtF rfl rfl rfl (bg hg2) rfl) (fun nd => (R_neq rfl rfl)) (qv (wn rfl) (fun nd => (R_pickF (bg hg2) rfl)) (wpQuiet_nil ?_))))))))))))
            exact fr_sub ⟨rfl, rfl, rfl, (by rw [hg2]; rfl), trivial⟩
        intro us
        simp only [List.drop_succ_cons, List.drop_zero]
        refine wpQuiet_nil ?_
        rintro _ ⟨nd, rfl⟩
        have hO := Only.drewN w_ nd
        generalize w_.drewN nd = w_1 at *
        have hA : Only [] w_ w_1 := hO
        refine then_normal ?_
        refine C_split (t := ((((x1 != x2) || (x3 != x4)) || (!((⟨List.toArray bs⟩ : ByteArray).toList == (⟨List.toArray bs1⟩ : ByteArray).toList))) || (x7 != x8))) rfl (fun hc2 => ?_) (fun hc2 => ?_)
        · replace h := h.1 hc2
          refine wp_seq (wp_region_lit (sv (R_as rfl) (wpList_nil (then_normal (wp_ret (block_ret (then_ret (then_ret (block_ret (then_ret ?_))))))))))
          replace h := h w_1 hA
          exact ret1 Try.results19 ⟨rfl, trivial⟩ h
        · replace h := h.2 hc2
          refine wp_skip (block_normal (then_normal (wp_region_lit (sv (R_mv rfl) (sv (R_add rfl rfl) (sv (R_as rfl) (wpList_nil (then_normal ?_))))))))
          replace h := h w_1 hA
          obtain ⟨nv2, hl, h⟩ := h
          exact ⟨nv2, hl, _, fr_sub ⟨rfl, rfl, rfl, trivial⟩, h⟩
      · replace h := h.2 hc1
        refine wp_exit (then_exit (then_exit (block_hit (then_normal (wp_seq (wp_region_lit (sv (R_as rfl) (wpList_nil (then_normal (wp_ret ?_))))))))))
        exact ret1 Try.results19 ⟨rfl, trivial⟩ h

/-- what is to be shown of a call of pavanelaw19.SessionLeases -/
def pavanelaw19_SessionLeases_vc (now : Int) (asks : Sl) (to_ : Int) (R : Value → World → Prop) (w : World) : Prop :=
  Calls Try.prog 8 #[] w (fun e w_ => ∃ x1 : Bool, e = .returned (.bool x1) ∧
  Calls Try.prog 9 #[] w_ (fun e w_1 => ∃ x2 : Option Addr, e = .returned (.pointer x2) ∧
  ((((!x1) || (Option.isNone x2)) = true →
  R (.bool false) w_1) ∧
  (((!x1) || (Option.isNone x2)) = false →
  Calls Try.prog 12 #[.pointer x2, .int .i64 now] w_1 (fun e w_2 => ∃ x0 : Int, ∃ x11 : Int, e = .returned (.tuple #[.int .i64 x0, .int .i64 x11]) ∧
  ((((decide (now < 0)) || (decide (now > 1099511627776))) = true →
  R (.bool ((x11 == 1) && (x0 == 0))) w_2) ∧
  (((decide (now < 0)) || (decide (now > 1099511627776))) = false →
  ∃ (I_ : Nat → Int → World → Prop) (nv1 : Nat), I_ nv1 0 w_2 ∧
  ∀ (nv : Nat) (i : Int) (w_3 : World), I_ nv i w_3 →
  ((((decide (i < (↑(Sl.n asks) : Int))) && (decide (i < 50))) = true →
  ∃ ad : Addr, SlAt asks i 5 ad ∧
  ∃ x3 : Int, Cells w_3 (Addr.add ad 1) [.int .i64 x3] ∧
  ∃ ad1 : Addr, SlAt asks i 5 ad1 ∧
  ∃ x4 : Int, Cells w_3 (Addr.add ad1 2) [.int .i64 x4] ∧
  ∀ (w_4 : World), Only [] w_3 w_4 →
  Calls Try.prog 10 #[.pointer x2, .int .i64 x3, .int .i64 x4] w_4 (fun e w_5 => ∃ x01 : Int, ∃ x12 : Sl, e = .returned (.tuple #[.int .i64 x01, Sl.v x12]) ∧
  ∃ nv2 : Nat, nv2 < nv ∧ I_ nv2 (IntKind.i64.wrap (i + 1)) w_5)) ∧
  (((decide (i < (↑(Sl.n asks) : Int))) && (decide (i < 50))) = false →
  Calls Try.prog 13 #[.pointer x2, .int .i64 to_] w_3 (fun e w_6 => ∃ x5 : Sl, e = .returned (Sl.v x5) ∧
  Calls Try.prog 10 #[.pointer x2, .int .i64 x0, .int .i64 1] w_6 (fun e w_7 => ∃ x02 : Int, ∃ x13 : Sl, e = .returned (.tuple #[.int .i64 x02, Sl.v x13]) ∧
  R (.bool (((x11 == 0) && ((x02 == 1) == (decide (to_ ≤ (IntKind.i64.wrap (now + 50)))))) && ((x02 == 4) == (decide (to_ > (IntKind.i64.wrap (now + 50))))))) w_7)))))))))))
theorem pavanelaw19_SessionLeases_wp (now : Int) (asks : Sl) (to_ : Int) (R : Value → World → Prop) (w : World) (h : pavanelaw19_SessionLeases_vc now asks to_ R w) :
    Calls Try.prog 4 #[.int .i64 now, Sl.v asks, .int .i64 to_] w fun e w' => ∃ v, e = .returned v ∧ R v w' := by
  unfold pavanelaw19_SessionLeases_vc at h
  refine callsF (l := [(0, .int .i64 now), (1, Sl.v asks), (2, .int .i64 to_)]) Try.func4 rfl Try.ntmps4 (Nat.le_of_ble_eq_true rfl) rfl (wp_seq (wp_region_lit (sv (R_as rfl) (wpList_nil (then_normal (wp_seq (wp_region_lit (st_one (wn rfl) ?_))))))))
  refine O_enter (args := #[]) (R_enter Try.call8 rfl) (h.mono ?_)
  clear h
  rintro _ w_ ⟨x1, rfl, h⟩
  refine ⟨_, rfl, ?_⟩
  refine sv (R_as rfl) (wpList_nil (then_normal (wp_seq (wp_region_lit (st_one (wn rfl) ?_)))))
  refine O_enter (args := #[]) (R_enter Try.call9 rfl) (h.mono ?_)
  clear h
  rintro _ w_1 ⟨x2, rfl, h⟩
  refine ⟨_, rfl, ?_⟩
  refine sv (R_as rfl) (wpList_nil (then_normal (wp_seq (wp_seq (wp_region_lit (sv (R_mv rfl) (sv (R_not rfl) (sv (R_mv rfl) ?_))))))))
  refine cutF 3 91 [(0, .int .i64 now), (1, Sl.v asks), (2, .int .i64 to_), (8, .pointer x2), (21, .bool ((!x1) || (Option.isNone x2)))] ?_ ?_
  · simp only [List.take_succ_cons, List.take_zero]
    rcases Bool.eq_false_or_eq_true (!x1) with hg | hg
    · refine sno (wtF rfl rfl rfl (bg hg) rfl) (sno (wtF rfl rfl rfl (bg hg) rfl) (sv (R_pickT (bg hg) rfl) (wpList_nil ?_)))
      exact cutEnd ⟨rfl, rfl, rfl, rfl, (by rw [hg]; rfl), trivial⟩
    · refine svg (wtF rfl rfl rfl (bg hg) rfl) (R_mv rfl) (svg (wtF rfl rfl rfl (bg hg) rfl) (R_eqlPtrNilR (Try.runUnderlying24 _) rfl rfl rfl) (sv (R_pickF (bg hg) rfl) (wpList_nil ?_)))
      exact cutEnd ⟨rfl, rfl, rfl, rfl, (by rw [hg]; rfl), trivial⟩
  intro us
  simp only [List.drop_succ_cons, List.drop_zero]
  refine wpList_nil (then_normal ?_)
  refine C_split (t := ((!x1) || (Option.isNone x2))) rfl (fun hc => ?_) (fun hc => ?_)
  · replace h := h.1 hc
    refine wp_seq (wp_region_lit (sv (R_as rfl) (wpList_nil (then_normal (wp_ret (then_ret ?_))))))
    exact ret1 Try.results4 ⟨rfl, trivial⟩ h
  · replace h := h.2 hc
    refine wp_skip (then_normal (wp_seq (wp_region_lit (sv (R_mv rfl) (sv (R_mv rfl) (st_one (wn rfl) ?_))))))
    refine O_enter (args := #[.pointer x2, .int .i64 now]) (R_enter Try.call12 rfl) (h.mono ?_)
    clear h
    rintro _ w_2 ⟨x0, x11, rfl, h⟩
    refine ⟨_, rfl, ?_⟩
    refine sv (R_mv rfl) (sv (R_ext rfl rfl) (sv (R_ext rfl rfl) (sv (R_as rfl) (sv (R_as rfl) (wpList_nil (then_normal (wp_seq (wp_seq (wp_region_lit (sv (R_mv rfl) (sv (R_lss rfl rfl) (sv (R_mv rfl) ?_))))))))))))
    refine cutF 3 91 [(0, .int .i64 now), (1, Sl.v asks), (2, .int .i64 to_), (8, .pointer x2), (9, .int .i64 x0), (10, .int .i64 x11), (33, .bool ((decide (now < 0)) || (decide (now > 1099511627776))))] ?_ ?_
    · simp only [List.take_succ_cons, List.take_zero]
      rcases Bool.eq_false_or_eq_true (decide (now < 0)) with hg1 | hg1
      · refine sno (wtF rfl rfl rfl (bg hg1) rfl) (sno (wtF rfl rfl rfl (bg hg1) rfl) (sv (R_pickT (bg hg1) rfl) (wpList_nil ?_)))
        exact cutEnd ⟨rfl, rfl, rfl, rfl, rfl, rfl, (by rw [hg1]; rfl), trivial⟩
      · refine svg (wtF rfl rfl rfl (bg hg1) rfl) (R_mv rfl) (svg (wtF rfl rfl rfl (bg hg1) rfl) (R_gtr rfl rfl) (sv (R_pickF (bg hg1) rfl) (wpList_nil ?_)))
        exact cutEnd ⟨rfl, rfl, rfl, rfl, rfl, rfl, (by rw [hg1]; rfl), trivial⟩
    intro us
    simp only [List.drop_succ_cons, List.drop_zero]
    refine wpList_nil (then_normal ?_)
    refine C_split (t := ((decide (now < 0)) || (decide (now > 1099511627776)))) rfl (fun hc1 => ?_) (fun hc1 => ?_)
    · replace h := h.1 hc1
      refine wp_seq (wp_region_lit (sv (R_mv rfl) (sv (R_eql rfl rfl) (sv (R_mv rfl) ?_))))
      refine cutF 3 91 [(39, .bool ((x11 == 1) && (x0 == 0)))] ?_ ?_
      · simp only [List.take_succ_cons, List.take_zero]
        rcases Bool.eq_false_or_eq_true (x11 == 1) with hg2 | hg2
        · refine svg (wtF rfl rfl rfl (bg hg2) rfl) (R_mv rfl) (svg (wtF rfl rfl rfl (bg hg2) rfl) (R_eql rfl rfl) (sv (R_pickT (bg hg2) rfl) (wpList_nil ?_)))
          exact cutEnd ⟨(by rw [hg2]; rfl), trivial⟩
        · refine sno (wtF rfl rfl rfl (bg hg2) rfl) (sno (wtF rfl rfl rfl (bg hg2) rfl) (sv (R_pickF (bg hg2) rfl) (wpList_nil ?_)))
          exact cutEnd ⟨(by rw [hg2]; rfl), trivial⟩
      intro us
      simp only [List.drop_succ_cons, List.drop_zero]
      refine sv (R_as rfl) (wpList_nil (then_normal (wp_ret (then_ret ?_))))
      exact ret1 Try.results4 ⟨rfl, trivial⟩ h
    · replace h := h.2 hc1
      refine wp_skip (then_normal (wp_seq (wp_seq (wp_region_lit (sv (R_as rfl) (wpList_nil (then_normal (wp_block ?_))))))))
      obtain ⟨I_, nv1, h0, hI⟩ := h
      refine wp_loop_ghost (fun nv' a' w' => ∃ i : Int, (∃ us, a' = fr 91 us [(0, .int .i64 now), (1, Sl.v asks), (2, .int .i64 to_), (8, .pointer x2), (9, .int .i64 x0), (10, .int .i64 x11), (11, .int .i64 i)]) ∧ I_ nv' i w') nv1 ?_ ?_
      · exact ⟨_, fr_sub ⟨rfl, rfl, rfl, rfl, rfl, rfl, rfl, trivial⟩, h0⟩
      · clear h0
        rintro nv _ w_3 ⟨i, ⟨us, rfl⟩, h⟩
        replace h := hI _ _ _ h
        refine wp_seq (wp_seq (wp_region_lit (sv (R_mv rfl) (sv (R_mv rfl) (sv (R_len (s := asks) (Try.runUnderlying22 _) rfl) (sv (R_lss rfl rfl) (sv (R_mv rfl) ?_)))))))
        refine cutF 3 91 [(0, .int .i64 now), (1, Sl.v asks), (2, .int .i64 to_), (8, .pointer x2), (9, .int .i64 x0), (10, .int .i64 x11), (11, .int .i64 i), (47, .bool ((decide (i < (↑(Sl.n asks) : Int))) && (decide (i < 50))))] ?_ ?_
        · simp only [List.take_succ_cons, List.take_zero]
          rcases Bool.eq_false_or_eq_true (decide (i < (↑(Sl.n asks) : Int))) with hg3 | hg3
          · refine svg (wtF rfl rfl rfl (bg hg3) rfl) (R_mv rfl) (svg (wtF rfl rfl rfl (bg hg3) rfl) (R_lss rfl rfl) (sv (R_pickT (bg hg3) rfl) (wpList_nil ?_)))
            exact cutEnd ⟨rfl, rfl, rfl, rfl, rfl, rfl, rfl, (by rw [hg3]; rfl), trivial⟩
          · refine sno (wtF rfl rfl rfl (bg hg3) rfl) (sno (wtF rfl rfl rfl (bg hg3) rfl) (sv (R_pickF (bg hg3) rfl) (wpList_nil ?_)))
            exact cutEnd ⟨rfl, rfl, rfl, rfl, rfl, rfl, rfl, (by rw [hg3]; rfl), trivial⟩
        intro us
        simp only [List.drop_succ_cons, List.drop_zero]
        refine wpList_nil (then_normal ?_)
        refine C_split (t := ((decide (i < (↑(Sl.n asks) : Int))) && (decide (i < 50)))) rfl (fun hc2 => ?_) (fun hc2 => ?_)
        · replace h := h.1 hc2
          refine wp_skip (then_normal (wp_seq (wp_block ?_)))
          obtain ⟨ad, hx, h⟩ := h
          obtain ⟨x3, hx1, h⟩ := h
          obtain ⟨ad1, hx2, h⟩ := h
          obtain ⟨x4, hx3, h⟩ := h
          refine e_region (EL [(11, [])]) Try.checked.mixed ?_
          have hO := Only.drew w_3
          have hx4 : Cells w_3.drew _ _ := hx1
          have hx5 : Cells w_3.drew _ _ := hx3
          generalize w_3.drew = w_4 at *
          have hA : Only [] w_3 w_4 := hO
          refine eQ 0 rfl rfl (wn rfl) (fun _ => (R_mv rfl)) (eQ 1 rfl rfl (wn rfl) (fun _ => (R_mv rfl)) (eQ 2 rfl rfl (wn rfl) (fun _ => (R_mv rfl)) (eQ 3 (v := .pointer (some ad)) rfl rfl (wn rfl) (fun _ => (R_indexS (s := asks) (Try.runUnderlying22 _) (Try.sizeOf29 _) rfl rfl hx)) (eQ 4 (v := .pointer (some (Addr.add ad 1))) rfl rfl (wn rfl) (fun _ => (R_field (Try.runUnderlying29 _) rfl (Try.sizeOf3 _) rfl rfl)) (eL 5 [11] [0, 1, 2, 3, 4] (fun w' => Cells w' (Addr.add ad 1) [.int .i64 x3]) (v := .int .i64 x3) rfl rfl (el_stable (b := (Addr.add ad 1).block) (List.forall_mem_cons.2 ⟨.inl (by simp), List.forall_mem_nil _⟩) keep_cells) hx4 (y_val (wn rfl) (fun w' hw' => (R_load1 (Try.isAgg3 _) rfl (Cells.one hw')))) (eQ 6 rfl rfl (wn rfl) (fun _ => (R_mv rfl)) (eQ 7 rfl rfl (wn rfl) (fun _ => (R_mv rfl)) (eQ 8 (v := .pointer (some ad1)) rfl rfl (wn rfl) (fun _ => (R_indexS (s := asks) (Try.runUnderlying22 _) (Try.sizeOf29 _) rfl rfl hx2)) (eQ 9 (v := .pointer (some (Addr.add ad1 2))) rfl rfl (wn rfl) (fun _ => (R_field (Try.runUnderlying29 _) rfl (Try.sizeOf3 _) rfl rfl)) (eL 10 [11] [0, 1, 2, 3, 4, 5, 6, 7, 8, 9] (fun w' => Cells w' (Addr.add ad1 2) [.int .i64 x4]) (v := .int .i64 x4) rfl rfl (el_stable (b := (Addr.add ad1 2).block) (List.forall_mem_cons.2 ⟨.inl (by simp), List.forall_mem_nil _⟩) keep_cells) hx5 (y_val (wn rfl) (fun w' hw' => (R_load1 (Try.isAgg3 _) rfl (Cells.one hw')))) ?_))))))))))
          replace h := h w_4 hA
          refine e_one 11 rfl (by kernel_rfl) (wn rfl) ?_
          refine O_enter (args := #[.pointer x2, .int .i64 x3, .int .i64 x4]) (R_enter Try.call10 rfl) (h.mono ?_)
          clear h
          rintro _ w_5 ⟨x01, x12, rfl, h⟩
          refine ⟨_, rfl, ?_⟩
          refine ⟨el_loud rfl same_nil, ?_⟩
          refine e_done (by kernel_rfl) (block_normal (then_normal (wp_region_lit (sv (R_mv rfl) (sv (R_add rfl rfl) (sv (R_as rfl) (wpList_nil (then_normal ?_))))))))
          obtain ⟨nv2, hl, h⟩ := h
          exact ⟨nv2, hl, _, fr_sub ⟨rfl, rfl, rfl, rfl, rfl, rfl, rfl, trivial⟩, h⟩
        · replace h := h.2 hc2
          refine wp_exit (then_exit (then_exit (block_hit (then_normal (wp_seq (wp_region_lit (sv (R_mv rfl) (sv (R_mv rfl) (st_one (wn rfl) ?_)))))))))
          refine O_enter (args := #[.pointer x2, .int .i64 to_]) (R_enter Try.call13 rfl) (h.mono ?_)
          clear h
          rintro _ w_6 ⟨x5, rfl, h⟩
          refine ⟨_, rfl, ?_⟩
          refine wpList_nil (then_normal (wp_seq (wp_region_lit (sv (R_mv rfl) (sv (R_mv rfl) (st_one (wn rfl) ?_))))))
          refine O_enter (args := #[.pointer x2, .int .i64 x0, .int .i64 1]) (R_enter Try.call10 rfl) (h.mono ?_)
          clear h
          rintro _ w_7 ⟨x02, x13, rfl, h⟩
          refine ⟨_, rfl, ?_⟩
          refine sv (R_mv rfl) (sv (R_ext rfl rfl) (sv (R_ext rfl rfl) (sv (R_as rfl) (sv (R_as rfl) (wpList_nil (then_normal (wp_seq (wp_region_lit (sv (R_mv rfl) (sv (R_eql rfl rfl) (sv (R_mv rfl) ?_)))))))))))
          refine cutF 8 91 [(0, .int .i64 now), (2, .int .i64 to_), (12, .int .i64 x02), (81, .bool ((x11 == 0) && ((x02 == 1) == (decide (to_ ≤ (IntKind.i64.wrap (now + 50)))))))] ?_ ?_
          · simp only [List.take_succ_cons, List.take_zero]
            rcases Bool.eq_false_or_eq_true (x11 == 0) with hg4 | hg4
            · refine svg (wtF rfl rfl rfl (bg hg4) rfl) (R_mv rfl) (svg (wtF rfl rfl rfl (bg hg4) rfl) (R_eql rfl rfl) (svg (wtF rfl rfl rfl (bg hg4) rfl) (R_mv rfl) (svg (wtF rfl rfl rfl (bg hg4) rfl) (R_mv rfl) (svg (wtF rfl rfl rfl (bg hg4) rfl) (R_add rfl rfl) (svg (wtF rfl rfl rfl (bg hg4) rfl) (R_leq rfl rfl) (svg (wtF rfl rfl rfl (bg hg4) rfl) (R_eqlBool Try.underlying4 rfl rfl) (sv (R_pickT (bg hg4) rfl) (wpList_nil ?_))))))))
              exact cutEnd ⟨rfl, rfl, rfl, (by rw [hg4]; rfl), trivial⟩
            · refine sno (wtF rfl rfl rfl (bg hg4) rfl) (sno (wtF rfl rfl rfl (bg hg4) rfl) (sno (wtF rfl rfl rfl (bg hg4) rfl) (sno (wtF rfl rfl rfl (bg hg4) rfl) (sno (wtF rfl rfl rfl (bg hg4) rfl) (sno (wtF rfl rfl rfl (bg hg4) rfl) (sno (wtF rfl rfl rfl (bg hg4) rfl) (sv (R_pickF (bg hg4) rfl) (wpList_nil ?_))))))))
              exact cutEnd ⟨rfl, rfl, rfl, (by rw [hg4]; rfl), trivial⟩
          intro us
          simp only [List.drop_succ_cons, List.drop_zero]
          refine sv (R_mv rfl) ?_
          refine cutF 8 91 [(90, .bool (((x11 == 0) && ((x02 == 1) == (decide (to_ ≤ (IntKind.i64.wrap (now + 50)))))) && ((x02 == 4) == (decide (to_ > (IntKind.i64.wrap (now + 50)))))))] ?_ ?_
          · simp only [List.take_succ_cons, List.take_zero]
            rcases Bool.eq_false_or_eq_true ((x11 == 0) && ((x02 == 1) == (decide (to_ ≤ (IntKind.i64.wrap (now + 50)))))) with hg5 | hg5
            · refine svg (wtF rfl rfl rfl (bg hg5) rfl) (R_mv rfl) (svg (wtF rfl rfl rfl (bg hg5) rfl) (R_eql rfl rfl) (svg (wtF rfl rfl rfl (bg hg5) rfl) (R_mv rfl) (svg (wtF rfl rfl rfl (bg hg5) rfl) (R_mv rfl) (svg (wtF rfl rfl rfl (bg hg5) rfl) (R_add rfl rfl) (svg (wtF rfl rfl rfl (bg hg5) rfl) (R_gtr rfl rfl) (svg (wtF rfl rfl rfl (bg hg5) rfl) (R_eqlBool Try.underlying4 rfl rfl) (sv (R_pickT (bg hg5) rfl) (wpList_nil ?_))))))))
              exact cutEnd ⟨(by rw [hg5]; rfl), trivial⟩
            · refine sno (wtF rfl rfl rfl (bg hg5) rfl) (sno (wtF rfl rfl rfl (bg hg5) rfl) (sno (wtF rfl rfl rfl (bg hg5) rfl) (sno (wtF rfl rfl rfl (bg hg5) rfl) (sno (wtF rfl rfl rfl (bg hg5) rfl) (sno (wtF rfl rfl rfl (bg hg5) rfl) (sno (wtF rfl rfl rfl (bg hg5) rfl) (sv (R_pickF (bg hg5) rfl) (wpList_nil ?_))))))))
              exact cutEnd ⟨(by rw [hg5]; rfl), trivial⟩
          intro us
          simp only [List.drop_succ_cons, List.drop_zero]
          refine sv (R_as rfl) (wpList_nil (then_normal (wp_ret ?_)))
          exact ret1 Try.results4 ⟨rfl, trivial⟩ h

/-- what is to be shown of a call of pavanelaw19.do -/
def pavanelaw19_do_vc (b : Option Addr) (a01 : Int) (a1 : Int) (a2 : Int) (a3 : Int) (a4 : Sl) (R : Value → World → Prop) (w : World) : Prop :=
  (((a01 == 0) = true →
  ∀ (b1 : Nat) (w_ : World), w.heap.size ≤ b1 → b1 < w_.heap.size → Only [] w w_ →
  Calls Try.prog 12 #[.pointer b, .int .i64 a3] w_ (fun e w_1 => ∃ x0 : Int, ∃ x1 : Int, e = .returned (.tuple #[.int .i64 x0, .int .i64 x1]) ∧ Same [b1] w_ w_1 ∧
  R (.tuple #[.int .i64 x0, .int .i64 x1, Sl.v Sl.nil, Sl.v Sl.nil]) w_1)) ∧
  ((a01 == 0) = false →
  (((a01 == 1) = true →
  ∀ (b1 : Nat) (w_ : World), w.heap.size ≤ b1 → b1 < w_.heap.size → Only [] w w_ →
  Calls Try.prog 10 #[.pointer b, .int .i64 a1, .int .i64 a2] w_ (fun e w_2 => ∃ x01 : Int, ∃ x11 : Sl, e = .returned (.tuple #[.int .i64 x01, Sl.v x11]) ∧ Same [b1] w_ w_2 ∧
  R (.tuple #[.int .i64 x01, .int .i64 0, Sl.v x11, Sl.v Sl.nil]) w_2)) ∧
  ((a01 == 1) = false →
  (((a01 == 2) = true →
  ∀ (b1 : Nat) (w_ : World), w.heap.size ≤ b1 → b1 < w_.heap.size → Only [] w w_ →
  Calls Try.prog 28 #[Sl.v a4] w_ (fun e w_3 => ∃ x2 : Sl, e = .returned (Sl.v x2) ∧ Same [b1] w_ w_3 ∧
  Calls Try.prog 25 #[.pointer b, .int .i64 a1, .int .i64 a2, .int .i64 a3, Sl.v x2] w_3 (fun e w_4 => ∃ x3 : Int, e = .returned (.int .i64 x3) ∧ Same [b1] w_3 w_4 ∧
  Calls Try.prog 29 #[Sl.v x2, Sl.v a4] w_4 (fun e w_5 => ∃ x4 : Bool, e = .returned (.bool x4) ∧ Same [b1] w_4 w_5 ∧
  ∃ x5 : Sl, ∃ w_6 : World, (Instr.buildSlice 61 1 #[(0, Sl.v x2)]).run Try.prog w_5 = .ok (Sl.v x5) w_6 ∧ Same [b1] w_5 w_6 ∧
  Calls Try.prog 22 #[Sl.v x5] w_6 (fun e w_7 => ∃ x6 : Bool, e = .returned (.bool x6) ∧ Same [b1] w_6 w_7 ∧
  (((!x4) = true →
  R (.tuple #[.int .i64 (-7), .int .i64 x3, Sl.v Sl.nil, Sl.v Sl.nil]) w_7) ∧
  ((!x4) = false →
  R (.tuple #[.int .i64 0, .int .i64 x3, Sl.v Sl.nil, Sl.v Sl.nil]) w_7))))))) ∧
  ((a01 == 2) = false →
  (((a01 == 3) = true →
  ∀ (b1 : Nat) (w_ : World), w.heap.size ≤ b1 → b1 < w_.heap.size → Only [] w w_ →
  Calls Try.prog 13 #[.pointer b, .int .i64 a3] w_ (fun e w_8 => ∃ x7 : Sl, e = .returned (Sl.v x7) ∧ Same [b1] w_ w_8 ∧
  R (.tuple #[.int .i64 0, .int .i64 0, Sl.v Sl.nil, Sl.v x7]) w_8)) ∧
  ((a01 == 3) = false →
  ∀ (b1 : Nat) (w_ : World), w.heap.size ≤ b1 → b1 < w_.heap.size → Only [] w w_ →
  R (.tuple #[.int .i64 0, .int .i64 0, Sl.v Sl.nil, Sl.v Sl.nil]) w_))))))))
theorem pavanelaw19_do_wp (b : Option Addr) (a01 : Int) (a1 : Int) (a2 : Int) (a3 : Int) (a4 : Sl) (R : Value → World → Prop) (w : World) (h : pavanelaw19_do_vc b a01 a1 a2 a3 a4 R w) :
    Calls Try.prog 11 #[.pointer b, .agg #[.int .i64 a01, .int .i64 a1, .int .i64 a2, .int .i64 a3, Sl.v a4]] w fun e w' => ∃ v, e = .returned v ∧ R v w' := by
  unfold pavanelaw19_do_vc at h
  refine callsF (l := [(0, .pointer b), (1, .agg #[.int .i64 a01, .int .i64 a1, .int .i64 a2, .int .i64 a3, Sl.v a4])]) Try.func11 rfl Try.ntmps11 (Nat.le_of_ble_eq_true rfl) rfl (wp_seq (wp_region_lit (st_one (wn rfl) ?_)))
  refine O_box (zs := [.int .i64 a01, .int .i64 a1, .int .i64 a2, .int .i64 a3, Sl.v a4]) rfl (fun b1 w_ hn hO hb => ?_)
  have hn_b1 : w.heap.size ≤ b1 := hn
  have hA : Only [] w w_ := hO
  refine sv (R_as rfl) (sv (R_as rfl) (sv (R_as rfl) (sv (R_as rfl) (wpList_nil (then_normal (wp_seq (wp_seq (wp_region_lit (sv (v := .pointer (some ⟨b1, 0, none⟩)) (R_field (Try.runUnderlying29 _) rfl (Try.sizeOf3 _) rfl rfl) (sv (v := .int .i64 a01) (R_load1 (Try.isAgg3 _) rfl (hb.cell 0)) (wpList_nil (then_normal (wp_block (wp_seq ?_))))))))))))))
  refine wp_region_lit (sv (R_eql rfl rfl) (sv (R_as rfl) (wpList_nil (then_normal ?_))))
  refine C_split (t := (a01 == 0)) rfl (fun hc => ?_) (fun hc => ?_)
  · replace h := h.1 hc
    refine wp_seq (wp_region_lit (sv (R_mv rfl) (sv (v := .pointer (some ⟨b1, 3, none⟩)) (R_field (Try.runUnderlying29 _) rfl (Try.sizeOf3 _) rfl rfl) (sv (v := .int .i64 a3) (R_load1 (Try.isAgg3 _) rfl (hb.cell 3)) ?_))))
    replace h := h b1 w_ hn_b1 hb.lt hA
    refine st_one (wn rfl) ?_
    refine O_enter (args := #[.pointer b, .int .i64 a3]) (R_enter Try.call12 rfl) (h.mono ?_)
    clear h
    rintro _ w_1 ⟨x0, x1, rfl, hs, h⟩
    refine ⟨_, rfl, ?_⟩
    have hb1 := hs.blk hb (by simp)
    refine sv (R_mv rfl) (sv (R_ext rfl rfl) (sv (R_ext rfl rfl) (sv (R_as rfl) (sv (R_as rfl) (wpList_nil (then_normal (wp_seq (wp_region_lit (sv (R_mv rfl) (sv (R_mv rfl) (sv (R_as rfl) (sv (R_as rfl) (sv (R_as rfl) (sv (R_as rfl) ?_))))))))))))))
    refine wpList_nil (then_normal (wp_ret (block_ret (then_ret ?_))))
    exact retN (vs := [.int .i64 x0, .int .i64 x1, Sl.v Sl.nil, Sl.v Sl.nil]) Try.results11 rfl ⟨rfl, rfl, rfl, rfl, trivial⟩ h
  · replace h := h.2 hc
    refine wp_seq (wp_region_lit (sv (R_eql rfl rfl) (sv (R_as rfl) (wpList_nil (then_normal ?_)))))
    refine C_split (t := (a01 == 1)) rfl (fun hc1 => ?_) (fun hc1 => ?_)
    · replace h := h.1 hc1
      refine wp_seq (wp_region_lit (sv (R_mv rfl) (sv (v := .pointer (some ⟨b1, 1, none⟩)) (R_field (Try.runUnderlying29 _) rfl (Try.sizeOf3 _) rfl rfl) (sv (v := .int .i64 a1) (R_load1 (Try.isAgg3 _) rfl (hb.cell 1)) (sv (v := .pointer (some ⟨b1, 2, none⟩)) (R_field (Try.runUnderlying29 _) rfl (Try.sizeOf3 _) rfl rfl) (sv (v := .int .i64 a2) (R_load1 (Try.isAgg3 _) rfl (hb.cell 2)) ?_))))))
      replace h := h b1 w_ hn_b1 hb.lt hA
      refine st_one (wn rfl) ?_
      refine O_enter (args := #[.pointer b, .int .i64 a1, .int .i64 a2]) (R_enter Try.call10 rfl) (h.mono ?_)
      clear h
      rintro _ w_2 ⟨x01, x11, rfl, hs1, h⟩
      refine ⟨_, rfl, ?_⟩
      have hb2 := hs1.blk hb (by simp)
      refine sv (R_mv rfl) (sv (R_ext rfl rfl) (sv (R_ext rfl rfl) (sv (R_as rfl) (sv (R_as rfl) (wpList_nil (then_normal (wp_seq (wp_region_lit (sv (R_mv rfl) (sv (R_mv rfl) (sv (R_as rfl) (sv (R_as rfl) (sv (R_as rfl) (sv (R_as rfl) ?_))))))))))))))
      refine wpList_nil (then_normal (wp_ret (block_ret (then_ret ?_))))
      exact retN (vs := [.int .i64 x01, .int .i64 0, Sl.v x11, Sl.v Sl.nil]) Try.results11 rfl ⟨rfl, rfl, rfl, rfl, trivial⟩ h
    · replace h := h.2 hc1
      refine wp_seq (wp_region_lit (sv (R_eql rfl rfl) (sv (R_as rfl) (wpList_nil (then_normal ?_)))))
      refine C_split (t := (a01 == 2)) rfl (fun hc2 => ?_) (fun hc2 => ?_)
      · replace h := h.1 hc2
        refine wp_seq (wp_region_lit (sv (v := .pointer (some ⟨b1, 4, none⟩)) (R_field (Try.runUnderlying29 _) rfl (Try.sizeOf27 _) rfl rfl) (sv (v := Sl.v a4) (R_load1 (Try.isAgg27 _) rfl (hb.cell 4)) ?_)))
        replace h := h b1 w_ hn_b1 hb.lt hA
        refine st_one (wn rfl) ?_
        refine O_enter (args := #[Sl.v a4]) (R_enter Try.call28 rfl) (h.mono ?_)
        clear h
        rintro _ w_3 ⟨x2, rfl, hs2, h⟩
        refine ⟨_, rfl, ?_⟩
        have hb3 := hs2.blk hb (by simp)
        refine sv (R_as rfl) (wpList_nil (then_normal (wp_seq (wp_region_lit (sv (R_mv rfl) (sv (v := .pointer (some ⟨b1, 1, none⟩)) (R_field (Try.runUnderlying29 _) rfl (Try.sizeOf3 _) rfl rfl) (sv (v := .int .i64 a1) (R_load1 (Try.isAgg3 _) rfl (hb3.cell 1)) (sv (v := .pointer (some ⟨b1, 2, none⟩)) (R_field (Try.runUnderlying29 _) rfl (Try.sizeOf3 _) rfl rfl) (sv (v := .int .i64 a2) (R_load1 (Try.isAgg3 _) rfl (hb3.cell 2)) (sv (v := .pointer (some ⟨b1, 3, none⟩)) (R_field (Try.runUnderlying29 _) rfl (Try.sizeOf3 _) rfl rfl) (sv (v := .int .i64 a3) (R_load1 (Try.isAgg3 _) rfl (hb3.cell 3)) (sv (R_mv rfl) (st_one (wn rfl) ?_)))))))))))))
        refine O_enter (args := #[.pointer b, .int .i64 a1, .int .i64 a2, .int .i64 a3, Sl.v x2]) (R_enter Try.call25 rfl) (h.mono ?_)
        clear h
        rintro _ w_4 ⟨x3, rfl, hs3, h⟩
        refine ⟨_, rfl, ?_⟩
        have hb4 := hs3.blk hb3 (by simp)
        refine sv (R_as rfl) (wpList_nil (then_normal (wp_seq (wp_region_lit (sv (R_mv rfl) (sv (v := .pointer (some ⟨b1, 4, none⟩)) (R_field (Try.runUnderlying29 _) rfl (Try.sizeOf27 _) rfl rfl) (sv (v := Sl.v a4) (R_load1 (Try.isAgg27 _) rfl (hb4.cell 4)) (st_one (wn rfl) ?_))))))))
        refine O_enter (args := #[Sl.v x2, Sl.v a4]) (R_enter Try.call29 rfl) (h.mono ?_)
        clear h
        rintro _ w_5 ⟨x4, rfl, hs4, h⟩
        refine ⟨_, rfl, ?_⟩
        have hb5 := hs4.blk hb4 (by simp)
        refine sv (R_as rfl) (wpList_nil (then_normal (wp_seq (wp_region_lit (sv (R_mv rfl) ?_)))))
        obtain ⟨x5, w_6, hr, hs5, h⟩ := h
        refine st_one (wn rfl) (O_val (v := (Sl.v x5)) (R_buildSlice rfl hr) ?_)
        have hb6 := hs5.blk hb5 (by simp)
        refine st_one (wn rfl) ?_
        refine O_enter (args := #[Sl.v x5]) (R_enter Try.call22 rfl) (h.mono ?_)
        clear h
        rintro _ w_7 ⟨x6, rfl, hs6, h⟩
        refine ⟨_, rfl, ?_⟩
        have hb7 := hs6.blk hb6 (by simp)
        refine wpList_nil (then_normal (wp_seq (wp_seq (wp_region_lit (sv (R_mv rfl) (sv (R_not rfl) (wpList_nil (then_normal ?_))))))))
        refine C_split (t := (!x4)) rfl (fun hc3 => ?_) (fun hc3 => ?_)
        · replace h := h.1 hc3
          refine wp_seq (wp_region_lit (sv (R_mv rfl) (sv (R_as rfl) (sv (R_as rfl) (sv (R_as rfl) (sv (R_as rfl) (wpList_nil (then_normal (wp_ret (then_ret (block_ret (then_ret ?_))))))))))))
          exact retN (vs := [.int .i64 (-7), .int .i64 x3, Sl.v Sl.nil, Sl.v Sl.nil]) Try.results11 rfl ⟨rfl, rfl, rfl, rfl, trivial⟩ h
        · replace h := h.2 hc3
          refine wp_skip (then_normal (wp_seq (wp_region_lit (sv (R_mv rfl) (sv (R_as rfl) (sv (R_as rfl) (sv (R_as rfl) (sv (R_as rfl) (wpList_nil (then_normal (wp_ret (block_ret (then_ret ?_)))))))))))))
          exact retN (vs := [.int .i64 0, .int .i64 x3, Sl.v Sl.nil, Sl.v Sl.nil]) Try.results11 rfl ⟨rfl, rfl, rfl, rfl, trivial⟩ h
      · replace h := h.2 hc2
        refine wp_seq (wp_region_lit (sv (R_eql rfl rfl) (sv (R_as rfl) (wpList_nil (then_normal ?_)))))
        refine C_split (t := (a01 == 3)) rfl (fun hc4 => ?_) (fun hc4 => ?_)
        · replace h := h.1 hc4
          refine wp_seq (wp_region_lit (sv (R_mv rfl) (sv (v := .pointer (some ⟨b1, 3, none⟩)) (R_field (Try.runUnderlying29 _) rfl (Try.sizeOf3 _) rfl rfl) (sv (v := .int .i64 a3) (R_load1 (Try.isAgg3 _) rfl (hb.cell 3)) ?_))))
          replace h := h b1 w_ hn_b1 hb.lt hA
          refine st_one (wn rfl) ?_
          refine O_enter (args := #[.pointer b, .int .i64 a3]) (R_enter Try.call13 rfl) (h.mono ?_)
          clear h
          rintro _ w_8 ⟨x7, rfl, hs7, h⟩
          refine ⟨_, rfl, ?_⟩
          have hb8 := hs7.blk hb (by simp)
          refine sv (R_as rfl) (sv (R_as rfl) (sv (R_as rfl) (sv (R_as rfl) (wpList_nil (then_normal (wp_ret (block_ret (then_ret ?_))))))))
          exact retN (vs := [.int .i64 0, .int .i64 0, Sl.v Sl.nil, Sl.v x7]) Try.results11 rfl ⟨rfl, rfl, rfl, rfl, trivial⟩ h
        · replace h := h.2 hc4
          refine wp_skip (block_normal (then_normal (wp_seq (wp_region_lit (sv (R_as rfl) (sv (R_as rfl) (sv (R_as rfl) (sv (R_as rfl) (wpList_nil (then_normal (wp_ret ?_)))))))))))
          replace h := h b1 w_ hn_b1 hb.lt hA
          exact retN (vs := [.int .i64 0, .int .i64 0, Sl.v Sl.nil, Sl.v Sl.nil]) Try.results11 rfl ⟨rfl, rfl, rfl, rfl, trivial⟩ h

end Go.Proofs.Ytahncinfbhjkgaa.Vc
