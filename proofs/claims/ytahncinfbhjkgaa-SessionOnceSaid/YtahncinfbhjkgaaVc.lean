/-
  Own work, printed by a program of ours (gen.py): of each Go function what is to be shown of a call ('.._vc'), and that it suffices ('.._wp'). Nothing is assumed.
-/
import Derived.Test.YtahncinfbhjkgaaRows
import Derived.Test.YtahncinfbhjkgaaFr
namespace Go.Proofs.Ytahncinfbhjkgaa.Vc
open Go Go.RowKit Go.Kt
set_option linter.unusedSimpArgs false
set_option linter.unusedVariables false
set_option maxRecDepth 100000
attribute [local irreducible] wpList
set_option maxHeartbeats 40000000
/-- what is to be shown of a call of pavanelaw19.SessionOnce -/
def pavanelaw19_SessionOnce_vc (acts : Sl) (R : Value → World → Prop) (w : World) : Prop :=
  Calls Try.prog 8 #[] w (fun e w_ => ∃ x1 : Bool, e = .returned (.bool x1) ∧
  Calls Try.prog 9 #[] w_ (fun e w_1 => ∃ x2 : Option Addr, e = .returned (.pointer x2) ∧
  ((((!x1) || (Option.isNone x2)) = true →
  R (.bool false) w_1) ∧
  (((!x1) || (Option.isNone x2)) = false →
  ∃ x3 : Option Nat, ∃ w_2 : World, (Instr.makeMap 26 none).run Try.prog w_1 = .ok (.map x3) w_2 ∧
  ∃ (I_ : Nat → Int → Int → World → Prop) (nv1 : Nat), I_ nv1 0 0 w_2 ∧
  ∀ (nv : Nat) (given : Int) (i : Int) (w_3 : World), I_ nv given i w_3 →
  ((((decide (i < (↑(Sl.n acts) : Int))) && (decide (i < 100))) = true →
  ∃ ad : Addr, SlAt acts i 5 ad ∧
  ∃ x0 : Int, ∃ x11 : Int, ∃ x21 : Int, ∃ x31 : Int, ∃ x4 : Sl, Cells w_3 ad [.int .i64 x0, .int .i64 x11, .int .i64 x21, .int .i64 x31, Sl.v x4] ∧
  ∀ (b : Nat) (w_5 : World), w_3.heap.size ≤ b → b < w_5.heap.size → Only [] w_3 w_5 →
  ∃ x01 : Int, ∃ x12 : Bool, ∃ w_6 : World, (Instr.lookup 26 (.map x3) (.int .i64 x11) true).run Try.prog w_5 = .ok (.tuple #[.int .i64 x01, .bool x12]) w_6 ∧ Same [b] w_5 w_6 ∧
  Calls Try.prog 10 #[.pointer x2, .int .i64 x11, .int .i64 x21] w_6 (fun e w_7 => ∃ x02 : Int, ∃ x13 : Sl, e = .returned (.tuple #[.int .i64 x02, Sl.v x13]) ∧ Same [b] w_6 w_7 ∧
  ((((!(x12 == (x02 != 4))) || (x12 && (!((x02 == 1) == ((decide (x21 > x01)) && (decide (x21 > 0))))))) = true →
  R (.bool false) w_7) ∧
  (((!(x12 == (x02 != 4))) || (x12 && (!((x02 == 1) == ((decide (x21 > x01)) && (decide (x21 > 0))))))) = false →
  Calls Try.prog 11 #[.pointer x2, .agg #[.int .i64 x0, .int .i64 x11, .int .i64 x21, .int .i64 x31, Sl.v x4]] w_7 (fun e w_8 => ∃ x03 : Int, ∃ x14 : Int, ∃ x22 : Sl, ∃ x32 : Sl, e = .returned (.tuple #[.int .i64 x03, .int .i64 x14, Sl.v x22, Sl.v x32]) ∧ Same [b] w_7 w_8 ∧
  ∃ J_ : Int → World → Prop, (∀ (given1 : Int) (w_9 : World), J_ given1 w_9 →
  ∃ J_1 : World → Prop, (∀ (w_10 : World), J_1 w_10 →
  ∃ (I_1 : Nat → Int → World → Prop) (nv3 : Nat), I_1 nv3 0 w_10 ∧
  ∀ (nv2 : Nat) (k : Int) (w_11 : World), I_1 nv2 k w_11 →
  (((decide (k < (↑(Sl.n x32) : Int))) = true →
  ∃ ad1 : Addr, SlAt x32 k 1 ad1 ∧
  ∃ x5 : Int, Cells w_11 ad1 [.int .i64 x5] ∧
  ∃ w_12 : World, (Builtin.delete_ #[26, 3] 0 #[.map x3, .int .i64 x5]).run Try.prog w_11 = .ok (.tuple #[]) w_12 ∧ Same [b] w_11 w_12 ∧
  ∃ nv4 : Nat, nv4 < nv2 ∧ I_1 nv4 (IntKind.i64.wrap (k + 1)) w_12) ∧
  ((decide (k < (↑(Sl.n x32) : Int))) = false →
  ∃ nv5 : Nat, nv5 < nv ∧ I_ nv5 given1 (IntKind.i64.wrap (i + 1)) w_11))) ∧
  (((((x0 == 2) && (x14 == 0)) = true →
  (((x02 != 1) = true →
  R (.bool false) w_9) ∧
  ((x02 != 1) = false →
  ∃ w_13 : World, (Instr.mapUpdate 26 (.map x3) (.int .i64 x11) (.int .i64 x21)).run Try.prog w_9 = .ok () w_13 ∧ Same [b] w_9 w_13 ∧
  J_1 w_13))) ∧
  (((x0 == 2) && (x14 == 0)) = false →
  J_1 w_9)))) ∧
  (((((x0 == 0) && (x14 == 0)) = true →
  (((decide (x03 ≤ given)) = true →
  R (.bool false) w_8) ∧
  ((decide (x03 ≤ given)) = false →
  ∃ w_14 : World, (Instr.mapUpdate 26 (.map x3) (.int .i64 x03) (.int .i64 0)).run Try.prog w_8 = .ok () w_14 ∧ Same [b] w_8 w_14 ∧
  J_ x03 w_14))) ∧
  (((x0 == 0) && (x14 == 0)) = false →
  J_ given w_8)))))))) ∧
  (((decide (i < (↑(Sl.n acts) : Int))) && (decide (i < 100))) = false →
  R (.bool true) w_3))))))
theorem pavanelaw19_SessionOnce_wp (acts : Sl) (R : Value → World → Prop) (w : World) (h : pavanelaw19_SessionOnce_vc acts R w) :
    Calls Try.prog 3 #[Sl.v acts] w fun e w' => ∃ v, e = .returned v ∧ R v w' := by
  unfold pavanelaw19_SessionOnce_vc at h
  refine callsF (l := [(0, Sl.v acts)]) Try.func3 rfl Try.ntmps3 (Nat.le_of_ble_eq_true rfl) rfl (wp_seq (wp_region_lit (sv (R_as rfl) (wpList_nil (then_normal (wp_seq (wp_region_lit (st_one (wn rfl) ?_))))))))
  refine O_enter (args := #[]) (R_enter Try.call8 rfl) (h.mono ?_)
  clear h
  rintro _ w_ ⟨x1, rfl, h⟩
  refine ⟨_, rfl, ?_⟩
  refine sv (R_as rfl) (wpList_nil (then_normal (wp_seq (wp_region_lit (st_one (wn rfl) ?_)))))
  refine O_enter (args := #[]) (R_enter Try.call9 rfl) (h.mono ?_)
  clear h
  rintro _ w_1 ⟨x2, rfl, h⟩
  refine ⟨_, rfl, ?_⟩
  refine sv (R_as rfl) (wpList_nil (then_normal (wp_seq (wp_seq (wp_region_lit (sv (R_mv rfl) (sv (R_not rfl) (sv (R_mv rfl) ?_))))))))
  refine cutF 3 124 [(0, Sl.v acts), (4, .pointer x2), (25, .bool ((!x1) || (Option.isNone x2)))] ?_ ?_
  · simp only [List.take_succ_cons, List.take_zero]
    rcases Bool.eq_false_or_eq_true (!x1) with hg | hg
    · refine sno (wtF rfl rfl rfl (bg hg) rfl) (sno (wtF rfl rfl rfl (bg hg) rfl) (sv (R_pickT (bg hg) rfl) (wpList_nil ?_)))
      exact cutEnd ⟨rfl, rfl, (by rw [hg]; rfl), trivial⟩
    · refine svg (wtF rfl rfl rfl (bg hg) rfl) (R_mv rfl) (svg (wtF rfl rfl rfl (bg hg) rfl) (R_eqlPtrNilR (Try.runUnderlying24 _) rfl rfl rfl) (sv (R_pickF (bg hg) rfl) (wpList_nil ?_)))
      exact cutEnd ⟨rfl, rfl, (by rw [hg]; rfl), trivial⟩
  intro us
  simp only [List.drop_succ_cons, List.drop_zero]
  refine wpList_nil (then_normal ?_)
  refine C_split (t := ((!x1) || (Option.isNone x2))) rfl (fun hc => ?_) (fun hc => ?_)
  · replace h := h.1 hc
    refine wp_seq (wp_region_lit (sv (R_as rfl) (wpList_nil (then_normal (wp_ret (then_ret ?_))))))
    exact ret1 Try.results3 ⟨rfl, trivial⟩ h
  · replace h := h.2 hc
    refine wp_skip (then_normal (wp_seq (wp_region_lit ?_)))
    obtain ⟨x3, w_2, hr, h⟩ := h
    refine st_one (wn rfl) (O_val (v := (.map x3)) (r_makeMap hr) (sv (R_as rfl) (wpList_nil (then_normal (wp_seq (wp_region_lit (sv (R_as rfl) (wpList_nil (then_normal (wp_seq (wp_seq (wp_region_lit (sv (R_as rfl) (wpList_nil ?_))))))))))))))
    refine then_normal (wp_block ?_)
    obtain ⟨I_, nv1, h0, hI⟩ := h
    refine wp_loop_ghost (fun nv' a' w' => ∃ given : Int, ∃ i : Int, (∃ us, a' = fr 124 us [(0, Sl.v acts), (4, .pointer x2), (5, .map x3), (6, .int .i64 given), (7, .int .i64 i)]) ∧ I_ nv' given i w') nv1 ?_ ?_
    · exact ⟨_, _, fr_sub ⟨rfl, rfl, rfl, rfl, rfl, trivial⟩, h0⟩
    · clear h0
      rintro nv _ w_3 ⟨given, i, ⟨us, rfl⟩, h⟩
      replace h := hI _ _ _ _ h
      refine wp_seq (wp_seq (wp_region_lit (sv (R_mv rfl) (sv (R_mv rfl) (sv (R_len (s := acts) (Try.runUnderlying22 _) rfl) (sv (R_lss rfl rfl) (sv (R_mv rfl) ?_)))))))
      refine cutF 3 124 [(0, Sl.v acts), (4, .pointer x2), (5, .map x3), (6, .int .i64 given), (7, .int .i64 i), (34, .bool ((decide (i < (↑(Sl.n acts) : Int))) && (decide (i < 100))))] ?_ ?_
      · simp only [List.take_succ_cons, List.take_zero]
        rcases Bool.eq_false_or_eq_true (decide (i < (↑(Sl.n acts) : Int))) with hg1 | hg1
        · refine svg (wtF rfl rfl rfl (bg hg1) rfl) (R_mv rfl) (svg (wtF rfl rfl rfl (bg hg1) rfl) (R_lss rfl rfl) (sv (R_pickT (bg hg1) rfl) (wpList_nil ?_)))
          exact cutEnd ⟨rfl, rfl, rfl, rfl, rfl, (by rw [hg1]; rfl), trivial⟩
        · refine sno (wtF rfl rfl rfl (bg hg1) rfl) (sno (wtF rfl rfl rfl (bg hg1) rfl) (sv (R_pickF (bg hg1) rfl) (wpList_nil ?_)))
          exact cutEnd ⟨rfl, rfl, rfl, rfl, rfl, (by rw [hg1]; rfl), trivial⟩
      intro us
      simp only [List.drop_succ_cons, List.drop_zero]
      refine wpList_nil (then_normal ?_)
      refine C_split (t := ((decide (i < (↑(Sl.n acts) : Int))) && (decide (i < 100)))) rfl (fun hc1 => ?_) (fun hc1 => ?_)
      · replace h := h.1 hc1
        refine wp_skip (then_normal (wp_seq (wp_block (wp_seq (wp_region_lit (sv (R_mv rfl) (sv (R_mv rfl) ?_)))))))
        obtain ⟨ad, hx, h⟩ := h
        refine sv (v := .pointer (some ad)) (R_indexS (s := acts) (Try.runUnderlying22 _) (Try.sizeOf29 _) rfl rfl hx) ?_
        obtain ⟨x0, x11, x21, x31, x4, hx1, h⟩ := h
        refine sv (v := .agg #[.int .i64 x0, .int .i64 x11, .int .i64 x21, .int .i64 x31, Sl.v x4]) (R_loadN (Try.isAgg29 _) (Try.sizeOf29 _) rfl rfl hx1) (st_one (wn rfl) ?_)
        refine O_alloc (zs := [.int .i64 0, .int .i64 0, .int .i64 0, .int .i64 0, Sl.v Sl.nil]) (Try.zeroValue29 _) rfl (fun b w_4 hn hO hb => ?_)
        have hn_b : w_3.heap.size ≤ b := hn
        have hA : Only [] w_3 w_4 := hO
        refine st_one (wn rfl) ?_
        refine O_store (vs := [.int .i64 x0, .int .i64 x11, .int .i64 x21, .int .i64 x31, Sl.v x4]) (cs' := [.int .i64 x0, .int .i64 x11, .int .i64 x21, .int .i64 x31, Sl.v x4]) (Try.sizeOf29 _) rfl rfl rfl rfl hb (Nat.le_of_ble_eq_true rfl) rfl (fun w_5 hO1 hb1 => ?_)
        have hA1 := hA.new hO1 hn_b
        refine wpList_nil (then_normal (wp_seq (wp_region_lit (sv (R_mv rfl) (sv (v := .pointer (some ⟨b, 1, none⟩)) (R_field (Try.runUnderlying29 _) rfl (Try.sizeOf3 _) rfl rfl) (sv (v := .int .i64 x11) (R_load1 (Try.isAgg3 _) rfl (hb1.cell 1)) ?_))))))
        replace h := h b w_5 hn_b hb1.lt hA1
        obtain ⟨x01, x12, w_6, hr1, hs3, h⟩ := h
        refine st_one (wn rfl) (O_val (v := (.tuple #[.int .i64 x01, .bool x12])) (R_lookup rfl rfl hr1) ?_)
        have hb2 := hs3.blk hb1 (by simp)
        refine sv (R_mv rfl) (sv (R_ext rfl rfl) (sv (R_ext rfl rfl) (sv (R_as rfl) (sv (R_as rfl) (wpList_nil (then_normal (wp_seq (wp_region_lit (sv (R_mv rfl) (sv (v := .pointer (some ⟨b, 1, none⟩)) (R_field (Try.runUnderlying29 _) rfl (Try.sizeOf3 _) rfl rfl) (sv (v := .int .i64 x11) (R_load1 (Try.isAgg3 _) rfl (hb2.cell 1)) (sv (v := .pointer (some ⟨b, 2, none⟩)) (R_field (Try.runUnderlying29 _) rfl (Try.sizeOf3 _) rfl rfl) (sv (v := .int .i64 x21) (R_load1 (Try.isAgg3 _) rfl (hb2.cell 2)) (st_one (wn rfl) ?_))))))))))))))
        refine O_enter (args := #[.pointer x2, .int .i64 x11, .int .i64 x21]) (R_enter Try.call10 rfl) (h.mono ?_)
        clear h
        rintro _ w_7 ⟨x02, x13, rfl, hs4, h⟩
        refine ⟨_, rfl, ?_⟩
        have hb3 := hs4.blk hb2 (by simp)
        refine sv (R_mv rfl) (sv (R_ext rfl rfl) (sv (R_ext rfl rfl) (sv (R_as rfl) (sv (R_as rfl) (wpList_nil (then_normal (wp_seq (wp_seq (wp_region_lit (sv (R_mv rfl) (sv (R_mv rfl) (sv (R_neq rfl rfl) (sv (R_neqBool Try.underlying4 rfl rfl) (sv (R_mv rfl) ?_))))))))))))))
        refine cutF 16 124 [(0, Sl.v acts), (4, .pointer x2), (5, .map x3), (6, .int .i64 given), (7, .int .i64 i), (8, .pointer (some ⟨b, 0, none⟩)), (11, .int .i64 x02), (77, .bool ((!(x12 == (x02 != 4))) || (x12 && (!((x02 == 1) == ((decide (x21 > x01)) && (decide (x21 > 0))))))))] ?_ ?_
        · simp only [List.take_succ_cons, List.take_zero]
          rcases Bool.eq_false_or_eq_true (!(x12 == (x02 != 4))) with hg2 | hg2
          · refine sno (wtF rfl rfl rfl (bg hg2) rfl) (sno (wtF rfl rfl rfl (bg hg2) rfl) (sno (wuF rfl rfl rfl rfl) (sno (wuF rfl rfl rfl rfl) (sno (wuF rfl rfl rfl rfl) (sno (wuF rfl rfl rfl rfl) (sno (wuF rfl rfl rfl rfl) (sno (wuF rfl rfl rfl rfl) (sno (wuF rfl rfl rfl rfl) (sno (wuF rfl rfl rfl rfl) (sno (wuF rfl rfl rfl rfl) (sno (wuF rfl rfl rfl rfl) (sno (wuF rfl rfl rfl rfl) (sno (wuF rfl rfl rfl rfl) (sno (wtF rfl rfl rfl (bg hg2) rfl) ?_))))))))))))))
            refine sv (R_pickT (bg hg2) rfl) (wpList_nil ?_)
            exact cutEnd ⟨rfl, rfl, rfl, rfl, rfl, rfl, rfl, (by rw [hg2]; rfl), trivial⟩
          · refine svg (wtF rfl rfl rfl (bg hg2) rfl) (R_mv rfl) (svg (wtF rfl rfl rfl (bg hg2) rfl) (R_mv rfl) ?_)
            refine cutF 13 124 [(0, Sl.v acts), (4, .pointer x2), (5, .map x3), (6, .int .i64 given), (7, .int .i64 i), (8, .pointer (some ⟨b, 0, none⟩)), (11, .int .i64 x02), (61, .bool (!(x12 == (x02 != 4)))), (76, .bool (x12 && (!((x02 == 1) == ((decide (x21 > x01)) && (decide (x21 > 0)))))))] ?_ ?_
            · simp only [List.take_succ_cons, List.take_zero]
              rcases Bool.eq_false_or_eq_true x12 with hg3 | hg3
              · refine svg (wtF rfl rfl rfl (bg hg3) rfl) (R_mv rfl) (svg (wtF rfl rfl rfl (bg hg3) rfl) (R_eql rfl rfl) (svg (v := .pointer (some ⟨b, 2, none⟩)) (wtF rfl rfl rfl (bg hg3) rfl) (R_field (Try.runUnderlying29 _) rfl (Try.sizeOf3 _) rfl rfl) (svg (v := .int .i64 x21) (wtF rfl rfl rfl (bg hg3) rfl) (R_load1 (Try.isAgg3 _) rfl (hb3.cell 2)) (svg (wtF rfl rfl rfl (bg hg3) rfl) (R_mv rfl) (svg (wtF rfl rfl rfl (bg hg3) rfl) (R_gtr rfl rfl) (svg (wtF rfl rfl rfl (bg hg3) rfl) (R_mv rfl) ?_))))))
                refine cutF 4 124 [(0, Sl.v acts), (4, .pointer x2), (5, .map x3), (6, .int .i64 given), (7, .int .i64 i), (8, .pointer (some ⟨b, 0, none⟩)), (11, .int .i64 x02), (61, .bool (!(x12 == (x02 != 4)))), (63, .bool x12), (65, .bool (x02 == 1)), (74, .bool ((decide (x21 > x01)) && (decide (x21 > 0))))] ?_ ?_
                · simp only [List.take_succ_cons, List.take_zero]
                  rcases Bool.eq_false_or_eq_true (decide (x21 > x01)) with hg4 | hg4
                  · refine svg (v := .pointer (some ⟨b, 2, none⟩)) (wtF rfl rfl rfl (bg hg4) rfl) (R_field (Try.runUnderlying29 _) rfl (Try.sizeOf3 _) rfl rfl) (svg (v := .int .i64 x21) (wtF rfl rfl rfl (bg hg4) rfl) (R_load1 (Try.isAgg3 _) rfl (hb3.cell 2)) (svg (wtF rfl rfl rfl (bg hg4) rfl) (R_gtr rfl rfl) (svg (wtF rfl rfl rfl (bg hg3) rfl) (R_pickT (bg hg4) rfl) (wpList_nil ?_))))
                    exact cutEnd ⟨rfl, rfl, rfl, rfl, rfl, rfl, rfl, rfl, rfl, rfl, (by rw [hg4]; rfl), trivial⟩
                  · refine sno (wtF rfl rfl rfl (bg hg4) rfl) (sno (wtF rfl rfl rfl (bg hg4) rfl) (sno (wtF rfl rfl rfl (bg hg4) rfl) (svg (wtF rfl rfl rfl (bg hg3) rfl) (R_pickF (bg hg4) rfl) (wpList_nil ?_))))
                    exact cutEnd ⟨rfl, rfl, rfl, rfl, rfl, rfl, rfl, rfl, rfl, rfl, (by rw [hg4]; rfl), trivial⟩
                intro us
                simp only [List.drop_succ_cons, List.drop_zero]
                refine svg (wtF rfl rfl rfl (bg hg3) rfl) (R_neqBool Try.underlying4 rfl rfl) (svg (wtF rfl rfl rfl (bg hg2) rfl) (R_pickT (bg hg3) rfl) (wpList_nil ?_))
                exact cutEnd ⟨rfl, rfl, rfl, rfl, rfl, rfl, rfl, rfl, (by rw [hg3]; rfl), trivial⟩
              · refine sno (wtF rfl rfl rfl (bg hg3) rfl) (sno (wtF rfl rfl rfl (bg hg3) rfl) (sno (wtF rfl rfl rfl (bg hg3) rfl) (sno (wtF rfl rfl rfl (bg hg3) rfl) (sno (wtF rfl rfl rfl (bg hg3) rfl) (sno (wtF rfl rfl rfl (bg hg3) rfl) (sno (wtF rfl rfl rfl (bg hg3) rfl) (sno (wuF rfl rfl rfl rfl) (sno (wuF rfl rfl rfl rfl) (sno (wuF rfl rfl rfl rfl) (sno (wtF rfl rfl rfl (bg hg3) rfl) (sno (wtF rfl rfl rfl (bg hg3) rfl) (svg (wtF rfl rfl rfl (bg hg2) rfl) (R_pickF (bg hg3) rfl) (wpList_nil ?_)))))))))))))
                exact cutEnd ⟨rfl, rfl, rfl, rfl, rfl, rfl, rfl, rfl, (by rw [hg3]; rfl), trivial⟩
            intro us
            simp only [List.drop_succ_cons, List.drop_zero]
            refine sv (R_pickF (bg hg2) rfl) (wpList_nil ?_)
            exact cutEnd ⟨rfl, rfl, rfl, rfl, rfl, rfl, rfl, (by rw [hg2]; rfl), trivial⟩
        intro us
        simp only [List.drop_succ_cons, List.drop_zero]
        refine wpList_nil (then_normal ?_)
        refine C_split (t := ((!(x12 == (x02 != 4))) || (x12 && (!((x02 == 1) == ((decide (x21 > x01)) && (decide (x21 > 0)))))))) rfl (fun hc2 => ?_) (fun hc2 => ?_)
        · replace h := h.1 hc2
          refine wp_seq (wp_region_lit (sv (R_as rfl) (wpList_nil (then_normal (wp_ret (then_ret (block_ret (then_ret (then_ret (block_ret (then_ret ?_)))))))))))
          exact ret1 Try.results3 ⟨rfl, trivial⟩ h
        · replace h := h.2 hc2
          refine wp_skip (then_normal (wp_seq (wp_region_lit (sv (R_mv rfl) (sv (v := .agg #[.int .i64 x0, .int .i64 x11, .int .i64 x21, .int .i64 x31, Sl.v x4]) (R_loadN (Try.isAgg29 _) (Try.sizeOf29 _) rfl rfl (hb3.cellsAt 0 [.int .i64 x0, .int .i64 x11, .int .i64 x21, .int .i64 x31, Sl.v x4] rfl)) (st_one (wn rfl) ?_))))))
          refine O_enter (args := #[.pointer x2, .agg #[.int .i64 x0, .int .i64 x11, .int .i64 x21, .int .i64 x31, Sl.v x4]]) (R_enter Try.call11 rfl) (h.mono ?_)
          clear h
          rintro _ w_8 ⟨x03, x14, x22, x32, rfl, hs5, h⟩
          refine ⟨_, rfl, ?_⟩
          have hb4 := hs5.blk hb3 (by simp)
          refine sv (R_mv rfl) (sv (R_ext rfl rfl) (sv (R_ext rfl rfl) (sv (R_ext rfl rfl) (sv (R_ext rfl rfl) (sv (R_as rfl) (sv (R_as rfl) (sv (R_as rfl) (sv (R_as rfl) (wpList_nil (then_normal ?_))))))))))
          obtain ⟨J_, hJ, h⟩ := h
          refine wp_seq_join (fun a' w' => ∃ given1 : Int, (∃ us, a' = fr 124 us [(0, Sl.v acts), (4, .pointer x2), (5, .map x3), (6, .int .i64 given1), (7, .int .i64 i), (8, .pointer (some ⟨b, 0, none⟩)), (11, .int .i64 x02), (14, .int .i64 x14), (16, Sl.v x32)]) ∧ Blk w' b 29 [.int .i64 x0, .int .i64 x11, .int .i64 x21, .int .i64 x31, Sl.v x4] ∧ J_ given1 w') ?_ ?_
          · clear h
            rintro _ w_9 ⟨given1, ⟨us1, rfl⟩, hb5, h⟩
            replace h := hJ _ _ h
            obtain ⟨J_1, hJ1, h⟩ := h
            refine wp_seq_join (fun a' w' => (∃ us, a' = fr 124 us [(0, Sl.v acts), (4, .pointer x2), (5, .map x3), (6, .int .i64 given1), (7, .int .i64 i), (16, Sl.v x32)]) ∧ Blk w' b 29 [.int .i64 x0, .int .i64 x11, .int .i64 x21, .int .i64 x31, Sl.v x4] ∧ J_1 w') ?_ ?_
            · clear h
              rintro _ w_10 ⟨⟨us2, rfl⟩, hb6, h⟩
              replace h := hJ1 _ h
              refine wp_seq (wp_region_lit (sv (R_as rfl) (wpList_nil (then_normal (wp_block ?_)))))
              obtain ⟨I_1, nv3, h01, hI1⟩ := h
              refine wp_loop_ghost (fun nv' a' w' => ∃ k : Int, (∃ us, a' = fr 124 us [(0, Sl.v acts), (4, .pointer x2), (5, .map x3), (6, .int .i64 given1), (7, .int .i64 i), (16, Sl.v x32), (17, .int .i64 k)]) ∧ Blk w' b 29 [.int .i64 x0, .int .i64 x11, .int .i64 x21, .int .i64 x31, Sl.v x4] ∧ I_1 nv' k w') nv3 ?_ ?_
              · exact ⟨_, fr_sub ⟨rfl, rfl, rfl, rfl, rfl, rfl, rfl, trivial⟩, hb6, h01⟩
              · clear h01
                rintro nv2 _ w_11 ⟨k, ⟨us3, rfl⟩, hb7, h⟩
                replace h := hI1 _ _ _ h
                refine wp_seq (wp_seq (wp_region_lit (sv (R_mv rfl) (sv (R_mv rfl) (sv (R_len (s := x32) (Try.runUnderlying34 _) rfl) (sv (R_lss rfl rfl) (wpList_nil (then_normal ?_))))))))
                refine C_split (t := (decide (k < (↑(Sl.n x32) : Int)))) rfl (fun hc3 => ?_) (fun hc3 => ?_)
                · replace h := h.1 hc3
                  refine wp_skip (then_normal (wp_seq (wp_block (wp_region_lit (sv (R_mv rfl) (sv (R_mv rfl) (sv (R_mv rfl) ?_)))))))
                  obtain ⟨ad1, hx2, h⟩ := h
                  refine sv (v := .pointer (some ad1)) (R_indexS (s := x32) (Try.runUnderlying34 _) (Try.sizeOf3 _) rfl rfl hx2) ?_
                  obtain ⟨x5, hx3, h⟩ := h
                  refine sv (v := .int .i64 x5) (R_load1 (Try.isAgg3 _) rfl (Cells.one hx3)) ?_
                  obtain ⟨w_12, hr2, hs6, h⟩ := h
                  refine st_one (wn rfl) (O_val (v := (.tuple #[])) (R_builtin_delete rfl hr2) ?_)
                  have hb8 := hs6.blk hb7 (by simp)
                  refine wpList_nil (block_normal (then_normal (wp_region_lit (sv (R_mv rfl) (sv (R_add rfl rfl) (sv (R_as rfl) (wpList_nil (then_normal ?_))))))))
                  obtain ⟨nv4, hl, h⟩ := h
                  exact ⟨nv4, hl, _, fr_sub ⟨rfl, rfl, rfl, rfl, rfl, rfl, rfl, trivial⟩, hb8, h⟩
                · replace h := h.2 hc3
                  refine wp_exit (then_exit (then_exit (block_hit (block_normal (then_normal (wp_region_lit (sv (R_mv rfl) (sv (R_add rfl rfl) (sv (R_as rfl) (wpList_nil (then_normal ?_)))))))))))
                  obtain ⟨nv5, hl1, h⟩ := h
                  exact ⟨nv5, hl1, _, _, fr_sub ⟨rfl, rfl, rfl, rfl, rfl, trivial⟩, h⟩
            · clear hJ1
              refine wp_seq (wp_region_lit (sv (v := .pointer (some ⟨b, 0, none⟩)) (R_field (Try.runUnderlying29 _) rfl (Try.sizeOf3 _) rfl rfl) (sv (v := .int .i64 x0) (R_load1 (Try.isAgg3 _) rfl (hb5.cell 0)) (sv (R_eql rfl rfl) (sv (R_mv rfl) ?_)))))
              refine cutF 3 124 [(0, Sl.v acts), (4, .pointer x2), (5, .map x3), (6, .int .i64 given1), (7, .int .i64 i), (8, .pointer (some ⟨b, 0, none⟩)), (11, .int .i64 x02), (16, Sl.v x32), (105, .bool ((x0 == 2) && (x14 == 0)))] ?_ ?_
              · simp only [List.take_succ_cons, List.take_zero]
                rcases Bool.eq_false_or_eq_true (x0 == 2) with hg5 | hg5
                · refine svg (wtF rfl rfl rfl (bg hg5) rfl) (R_mv rfl) (svg (wtF rfl rfl rfl (bg hg5) rfl) (R_eql rfl rfl) (sv (R_pickT (bg hg5) rfl) (wpList_nil ?_)))
                  exact cutEnd ⟨rfl, rfl, rfl, rfl, rfl, rfl, rfl, rfl, (by rw [hg5]; rfl), trivial⟩
                · refine sno (wtF rfl rfl rfl (bg hg5) rfl) (sno (wtF rfl rfl rfl (bg hg5) rfl) (sv (R_pickF (bg hg5) rfl) (wpList_nil ?_)))
                  exact cutEnd ⟨rfl, rfl, rfl, rfl, rfl, rfl, rfl, rfl, (by rw [hg5]; rfl), trivial⟩
              intro us
              simp only [List.drop_succ_cons, List.drop_zero]
              refine wpList_nil (then_normal ?_)
              refine C_split (t := ((x0 == 2) && (x14 == 0))) rfl (fun hc4 => ?_) (fun hc4 => ?_)
              · replace h := h.1 hc4
                refine wp_seq (wp_seq (wp_region_lit (sv (R_mv rfl) (sv (R_neq rfl rfl) (wpList_nil (then_normal ?_))))))
                refine C_split (t := (x02 != 1)) rfl (fun hc5 => ?_) (fun hc5 => ?_)
                · replace h := h.1 hc5
                  refine wp_seq (wp_region_lit (sv (R_as rfl) (wpList_nil (then_normal (wp_ret (then_ret (then_ret (block_ret (then_ret (then_ret (block_ret (then_ret ?_))))))))))))
                  exact ret1 Try.results3 ⟨rfl, trivial⟩ h
                · replace h := h.2 hc5
                  refine wp_skip (then_normal (wp_region_lit (sv (R_mv rfl) (sv (v := .pointer (some ⟨b, 1, none⟩)) (R_field (Try.runUnderlying29 _) rfl (Try.sizeOf3 _) rfl rfl) (sv (v := .int .i64 x11) (R_load1 (Try.isAgg3 _) rfl (hb5.cell 1)) (sv (v := .pointer (some ⟨b, 2, none⟩)) (R_field (Try.runUnderlying29 _) rfl (Try.sizeOf3 _) rfl rfl) (sv (v := .int .i64 x21) (R_load1 (Try.isAgg3 _) rfl (hb5.cell 2)) ?_)))))))
                  obtain ⟨w_13, hr3, hs7, h⟩ := h
                  refine st_one (wn rfl) (O_skip (R_mapUpdate rfl rfl rfl hr3) ?_)
                  have hb9 := hs7.blk hb5 (by simp)
                  refine wpList_nil (then_normal ?_)
                  exact ⟨fr_sub ⟨rfl, rfl, rfl, rfl, rfl, rfl, trivial⟩, hb9, h⟩
              · replace h := h.2 hc4
                refine wp_skip (then_normal ?_)
                exact ⟨fr_sub ⟨rfl, rfl, rfl, rfl, rfl, rfl, trivial⟩, hb5, h⟩
          · clear hJ
            refine wp_seq (wp_region_lit (sv (v := .pointer (some ⟨b, 0, none⟩)) (R_field (Try.runUnderlying29 _) rfl (Try.sizeOf3 _) rfl rfl) (sv (v := .int .i64 x0) (R_load1 (Try.isAgg3 _) rfl (hb4.cell 0)) (sv (R_eql rfl rfl) (sv (R_mv rfl) ?_)))))
            refine cutF 3 124 [(0, Sl.v acts), (4, .pointer x2), (5, .map x3), (6, .int .i64 given), (7, .int .i64 i), (8, .pointer (some ⟨b, 0, none⟩)), (11, .int .i64 x02), (13, .int .i64 x03), (14, .int .i64 x14), (16, Sl.v x32), (92, .bool ((x0 == 0) && (x14 == 0)))] ?_ ?_
            · simp only [List.take_succ_cons, List.take_zero]
              rcases Bool.eq_false_or_eq_true (x0 == 0) with hg6 | hg6
              · refine svg (wtF rfl rfl rfl (bg hg6) rfl) (R_mv rfl) (svg (wtF rfl rfl rfl (bg hg6) rfl) (R_eql rfl rfl) (sv (R_pickT (bg hg6) rfl) (wpList_nil ?_)))
                exact cutEnd ⟨rfl, rfl, rfl, rfl, rfl, rfl, rfl, rfl, rfl, rfl, (by rw [hg6]; rfl), trivial⟩
              · refine sno (wtF rfl rfl rfl (bg hg6) rfl) (sno (wtF rfl rfl rfl (bg hg6) rfl) (sv (R_pickF (bg hg6) rfl) (wpList_nil ?_)))
                exact cutEnd ⟨rfl, rfl, rfl, rfl, rfl, rfl, rfl, rfl, rfl, rfl, (by rw [hg6]; rfl), trivial⟩
            intro us
            simp only [List.drop_succ_cons, List.drop_zero]
            refine wpList_nil (then_normal ?_)
            refine C_split (t := ((x0 == 0) && (x14 == 0))) rfl (fun hc6 => ?_) (fun hc6 => ?_)
            · replace h := h.1 hc6
              refine wp_seq (wp_seq (wp_region_lit (sv (R_mv rfl) (sv (R_mv rfl) (sv (R_leq rfl rfl) (wpList_nil (then_normal ?_)))))))
              refine C_split (t := (decide (x03 ≤ given))) rfl (fun hc7 => ?_) (fun hc7 => ?_)
              · replace h := h.1 hc7
                refine wp_seq (wp_region_lit (sv (R_as rfl) (wpList_nil (then_normal (wp_ret (then_ret (then_ret (block_ret (then_ret (then_ret (block_ret (then_ret ?_))))))))))))
                exact ret1 Try.results3 ⟨rfl, trivial⟩ h
              · replace h := h.2 hc7
                refine wp_skip (then_normal (wp_seq (wp_region_lit (sv (R_mv rfl) (sv (R_as rfl) (wpList_nil (then_normal (wp_region_lit (sv (R_mv rfl) (sv (R_mv rfl) ?_))))))))))
                obtain ⟨w_14, hr4, hs8, h⟩ := h
                refine st_one (wn rfl) (O_skip (R_mapUpdate rfl rfl rfl hr4) ?_)
                have hb10 := hs8.blk hb4 (by simp)
                refine wpList_nil (then_normal ?_)
                exact ⟨_, fr_sub ⟨rfl, rfl, rfl, rfl, rfl, rfl, rfl, rfl, rfl, trivial⟩, hb10, h⟩
            · replace h := h.2 hc6
              refine wp_skip (then_normal ?_)
              exact ⟨_, fr_sub ⟨rfl, rfl, rfl, rfl, rfl, rfl, rfl, rfl, rfl, trivial⟩, hb4, h⟩
      · replace h := h.2 hc1
        refine wp_exit (then_exit (then_exit (block_hit (then_normal (wp_seq (wp_region_lit (sv (R_as rfl) (wpList_nil (then_normal (wp_ret ?_))))))))))
        exact ret1 Try.results3 ⟨rfl, trivial⟩ h

/-- what is to be shown of a call of pavaneref19.Restore -/
def pavaneref19_Restore_vc (l : Sl) (next_ : Int) (R : Value → World → Prop) (w : World) : Prop :=
  (((decide ((↑(Sl.n l) : Int) > 8)) = true →
  R (.tuple #[.pointer none, .int .i64 1]) w) ∧
  ((decide ((↑(Sl.n l) : Int) > 8)) = false →
  ∃ (I_ : Nat → Int → Int → World → Prop) (nv1 : Nat), I_ nv1 0 0 w ∧
  ∀ (nv : Nat) (last : Int) (i : Int) (w_ : World), I_ nv last i w_ →
  (((decide (i < (↑(Sl.n l) : Int))) = true →
  ∃ ad : Addr, SlAt l i 4 ad ∧
  ∃ x0 : Int, ∃ x1 : Int, ∃ x2 : Sl, ∃ x3 : Int, Cells w_ ad [.int .i64 x0, .int .i64 x1, Sl.v x2, .int .i64 x3] ∧
  (((((((((decide (x0 ≤ last)) || (decide (x0 ≥ next_))) || (decide (x1 < 0))) || (decide ((↑(Sl.n x2) : Int) > 65536))) || ((x1 == 0) && (decide ((↑(Sl.n x2) : Int) > 0)))) || (decide (x3 < 0))) || (decide (x3 > 1099511627826))) = true →
  ∀ (b : Nat) (w_2 : World), w_.heap.size ≤ b → b < w_2.heap.size → Only [] w_ w_2 →
  R (.tuple #[.pointer none, .int .i64 1]) w_2) ∧
  ((((((((decide (x0 ≤ last)) || (decide (x0 ≥ next_))) || (decide (x1 < 0))) || (decide ((↑(Sl.n x2) : Int) > 65536))) || ((x1 == 0) && (decide ((↑(Sl.n x2) : Int) > 0)))) || (decide (x3 < 0))) || (decide (x3 > 1099511627826))) = false →
  ∀ (b : Nat) (w_2 : World), w_.heap.size ≤ b → b < w_2.heap.size → Only [] w_ w_2 →
  ∃ nv2 : Nat, nv2 < nv ∧ I_ nv2 x0 (IntKind.i64.wrap (i + 1)) w_2))) ∧
  ((decide (i < (↑(Sl.n l) : Int))) = false →
  (((decide (next_ < 1)) = true →
  R (.tuple #[.pointer none, .int .i64 1]) w_) ∧
  ((decide (next_ < 1)) = false →
  ∀ (b1 : Nat) (w_3 : World), w_.heap.size ≤ b1 → b1 < w_3.heap.size → Only [] w_ w_3 → Blk w_3 b1 64 [Sl.v l, .int .i64 next_] →
  Calls Try.prog 23 #[.pointer (some ⟨b1, 0, none⟩)] w_3 (fun e w_4 => ∃ x4 : Sl, e = .returned (Sl.v x4) ∧ ∃ vb1 : Sl, ∃ vb11 : Int, Blk w_4 b1 64 [Sl.v vb1, .int .i64 vb11] ∧
  ∀ (w_5 : World), Only [b1] w_4 w_5 → Blk w_5 b1 64 [Sl.v x4, .int .i64 vb11] →
  R (.tuple #[.pointer (some ⟨b1, 0, none⟩), .int .i64 0]) w_5)))))))
theorem pavaneref19_Restore_wp (l : Sl) (next_ : Int) (R : Value → World → Prop) (w : World) (h : pavaneref19_Restore_vc l next_ R w) :
    Calls Try.prog 18 #[Sl.v l, .int .i64 next_] w fun e w' => ∃ v, e = .returned v ∧ R v w' := by
  unfold pavaneref19_Restore_vc at h
  refine callsF (l := [(0, Sl.v l), (1, .int .i64 next_)]) Try.func18 rfl Try.ntmps18 (Nat.le_of_ble_eq_true rfl) rfl (wp_seq (wp_region_lit (sv (R_as rfl) (sv (R_as rfl) (wpList_nil (then_normal (wp_seq (wp_seq (wp_region_lit (sv (R_mv rfl) (sv (R_len (s := l) (Try.runUnderlying42 _) rfl) (sv (R_gtr rfl rfl) (wpList_nil (then_normal ?_))))))))))))))
  refine C_split (t := (decide ((↑(Sl.n l) : Int) > 8))) rfl (fun hc => ?_) (fun hc => ?_)
  · replace h := h.1 hc
    refine wp_seq (wp_region_lit (sv (R_as rfl) (sv (R_as rfl) (wpList_nil (then_normal (wp_ret (then_ret ?_)))))))
    exact retN (vs := [.pointer none, .int .i64 1]) Try.results18 rfl ⟨rfl, rfl, trivial⟩ h
  · replace h := h.2 hc
    refine wp_skip (then_normal (wp_seq (wp_region_lit (sv (R_as rfl) (wpList_nil (then_normal (wp_seq (wp_seq (wp_region_lit (sv (R_as rfl) (wpList_nil (then_normal (wp_block ?_)))))))))))))
    obtain ⟨I_, nv1, h0, hI⟩ := h
    refine wp_loop_ghost (fun nv' a' w' => ∃ last : Int, ∃ i : Int, (∃ us, a' = fr 79 us [(0, Sl.v l), (1, .int .i64 next_), (6, .int .i64 last), (7, .int .i64 i)]) ∧ I_ nv' last i w') nv1 ?_ ?_
    · exact ⟨_, _, fr_sub ⟨rfl, rfl, rfl, rfl, trivial⟩, h0⟩
    · clear h0
      rintro nv _ w_ ⟨last, i, ⟨us, rfl⟩, h⟩
      replace h := hI _ _ _ _ h
      refine wp_seq (wp_seq (wp_region_lit (sv (R_mv rfl) (sv (R_mv rfl) (sv (R_len (s := l) (Try.runUnderlying42 _) rfl) (sv (R_lss rfl rfl) (wpList_nil (then_normal ?_))))))))
      refine C_split (t := (decide (i < (↑(Sl.n l) : Int)))) rfl (fun hc1 => ?_) (fun hc1 => ?_)
      · replace h := h.1 hc1
        refine wp_skip (then_normal (wp_seq (wp_block (wp_seq (wp_region_lit (sv (R_mv rfl) (sv (R_mv rfl) ?_)))))))
        obtain ⟨ad, hx, h⟩ := h
        refine sv (v := .pointer (some ad)) (R_indexS (s := l) (Try.runUnderlying42 _) (Try.sizeOf49 _) rfl rfl hx) ?_
        obtain ⟨x0, x1, x2, x3, hx1, h⟩ := h
        refine sv (v := .agg #[.int .i64 x0, .int .i64 x1, Sl.v x2, .int .i64 x3]) (R_loadN (Try.isAgg49 _) (Try.sizeOf49 _) rfl rfl hx1) (st_one (wn rfl) ?_)
        refine O_alloc (zs := [.int .i64 0, .int .i64 0, Sl.v Sl.nil, .int .i64 0]) (Try.zeroValue49 _) rfl (fun b w_1 hn hO hb => ?_)
        have hn_b : w_.heap.size ≤ b := hn
        have hA : Only [] w_ w_1 := hO
        refine st_one (wn rfl) ?_
        refine O_store (vs := [.int .i64 x0, .int .i64 x1, Sl.v x2, .int .i64 x3]) (cs' := [.int .i64 x0, .int .i64 x1, Sl.v x2, .int .i64 x3]) (Try.sizeOf49 _) rfl rfl rfl rfl hb (Nat.le_of_ble_eq_true rfl) rfl (fun w_2 hO1 hb1 => ?_)
        have hA1 := hA.new hO1 hn_b
        refine wpList_nil (then_normal (wp_seq (wp_seq (wp_region_lit (sv (v := .pointer (some ⟨b, 0, none⟩)) (R_field (Try.runUnderlying49 _) rfl (Try.sizeOf3 _) rfl rfl) (sv (v := .int .i64 x0) (R_load1 (Try.isAgg3 _) rfl (hb1.cell 0)) (sv (R_mv rfl) (sv (R_leq rfl rfl) (sv (R_mv rfl) ?_)))))))))
        refine cutF 5 79 [(0, Sl.v l), (1, .int .i64 next_), (7, .int .i64 i), (8, .pointer (some ⟨b, 0, none⟩)), (32, .bool ((decide (x0 ≤ last)) || (decide (x0 ≥ next_))))] ?_ ?_
        · simp only [List.take_succ_cons, List.take_zero]
          rcases Bool.eq_false_or_eq_true (decide (x0 ≤ last)) with hg | hg
          · refine sno (wtF rfl rfl rfl (bg hg) rfl) (sno (wtF rfl rfl rfl (bg hg) rfl) (sno (wtF rfl rfl rfl (bg hg) rfl) (sno (wtF rfl rfl rfl (bg hg) rfl) (sv (R_pickT (bg hg) rfl) (wpList_nil ?_)))))
            exact cutEnd ⟨rfl, rfl, rfl, rfl, (by rw [hg]; rfl), trivial⟩
          · refine svg (v := .pointer (some ⟨b, 0, none⟩)) (wtF rfl rfl rfl (bg hg) rfl) (R_field (Try.runUnderlying49 _) rfl (Try.sizeOf3 _) rfl rfl) (svg (v := .int .i64 x0) (wtF rfl rfl rfl (bg hg) rfl) (R_load1 (Try.isAgg3 _) rfl (hb1.cell 0)) (svg (wtF rfl rfl rfl (bg hg) rfl) (R_mv rfl) (svg (wtF rfl rfl rfl (bg hg) rfl) (R_geq rfl rfl) (sv (R_pickF (bg hg) rfl) (wpList_nil ?_)))))
            exact cutEnd ⟨rfl, rfl, rfl, rfl, (by rw [hg]; rfl), trivial⟩
        intro us
        simp only [List.drop_succ_cons, List.drop_zero]
        refine sv (R_mv rfl) ?_
        refine cutF 4 79 [(0, Sl.v l), (1, .int .i64 next_), (7, .int .i64 i), (8, .pointer (some ⟨b, 0, none⟩)), (37, .bool (((decide (x0 ≤ last)) || (decide (x0 ≥ next_))) || (decide (x1 < 0))))] ?_ ?_
        · simp only [List.take_succ_cons, List.take_zero]
          rcases Bool.eq_false_or_eq_true ((decide (x0 ≤ last)) || (decide (x0 ≥ next_))) with hg1 | hg1
          · refine sno (wtF rfl rfl rfl (bg hg1) rfl) (sno (wtF rfl rfl rfl (bg hg1) rfl) (sno (wtF rfl rfl rfl (bg hg1) rfl) (sv (R_pickT (bg hg1) rfl) (wpList_nil ?_))))
            exact cutEnd ⟨rfl, rfl, rfl, rfl, (by rw [hg1]; rfl), trivial⟩
          · refine svg (v := .pointer (some ⟨b, 1, none⟩)) (wtF rfl rfl rfl (bg hg1) rfl) (R_field (Try.runUnderlying49 _) rfl (Try.sizeOf3 _) rfl rfl) (svg (v := .int .i64 x1) (wtF rfl rfl rfl (bg hg1) rfl) (R_load1 (Try.isAgg3 _) rfl (hb1.cell 1)) (svg (wtF rfl rfl rfl (bg hg1) rfl) (R_lss rfl rfl) (sv (R_pickF (bg hg1) rfl) (wpList_nil ?_))))
            exact cutEnd ⟨rfl, rfl, rfl, rfl, (by rw [hg1]; rfl), trivial⟩
        intro us
        simp only [List.drop_succ_cons, List.drop_zero]
        refine sv (R_mv rfl) ?_
        refine cutF 5 79 [(0, Sl.v l), (1, .int .i64 next_), (7, .int .i64 i), (8, .pointer (some ⟨b, 0, none⟩)), (43, .bool ((((decide (x0 ≤ last)) || (decide (x0 ≥ next_))) || (decide (x1 < 0))) || (decide ((↑(Sl.n x2) : Int) > 65536))))] ?_ ?_
        · simp only [List.take_succ_cons, List.take_zero]
          rcases Bool.eq_false_or_eq_true (((decide (x0 ≤ last)) || (decide (x0 ≥ next_))) || (decide (x1 < 0))) with hg2 | hg2
          · refine sno (wtF rfl rfl rfl (bg hg2) rfl) (sno (wtF rfl rfl rfl (bg hg2) rfl) (sno (wtF rfl rfl rfl (bg hg2) rfl) (sno (wtF rfl rfl rfl (bg hg2) rfl) (sv (R_pickT (bg hg2) rfl) (wpList_nil ?_)))))
            exact cutEnd ⟨rfl, rfl, rfl, rfl, (by rw [hg2]; rfl), trivial⟩
          · refine svg (v := .pointer (some ⟨b, 2, none⟩)) (wtF rfl rfl rfl (bg hg2) rfl) (R_field (Try.runUnderlying49 _) rfl (Try.sizeOf27 _) rfl rfl) (svg (v := Sl.v x2) (wtF rfl rfl rfl (bg hg2) rfl) (R_load1 (Try.isAgg27 _) rfl (hb1.cell 2)) (svg (wtF rfl rfl rfl (bg hg2) rfl) (R_len (s := x2) (Try.runUnderlying27 _) rfl) (svg (wtF rfl rfl rfl (bg hg2) rfl) (R_gtr rfl rfl) (sv (R_pickF (bg hg2) rfl) (wpList_nil ?_)))))
            exact cutEnd ⟨rfl, rfl, rfl, rfl, (by rw [hg2]; rfl), trivial⟩
        intro us
        simp only [List.drop_succ_cons, List.drop_zero]
        refine sv (R_mv rfl) ?_
        refine cutF 10 79 [(0, Sl.v l), (1, .int .i64 next_), (7, .int .i64 i), (8, .pointer (some ⟨b, 0, none⟩)), (54, .bool (((((decide (x0 ≤ last)) || (decide (x0 ≥ next_))) || (decide (x1 < 0))) || (decide ((↑(Sl.n x2) : Int) > 65536))) || ((x1 == 0) && (decide ((↑(Sl.n x2) : Int) > 0)))))] ?_ ?_
        · simp only [List.take_succ_cons, List.take_zero]
          rcases Bool.eq_false_or_eq_true ((((decide (x0 ≤ last)) || (decide (x0 ≥ next_))) || (decide (x1 < 0))) || (decide ((↑(Sl.n x2) : Int) > 65536))) with hg3 | hg3
          · refine sno (wtF rfl rfl rfl (bg hg3) rfl) (sno (wtF rfl rfl rfl (bg hg3) rfl) (sno (wtF rfl rfl rfl (bg hg3) rfl) (sno (wtF rfl rfl rfl (bg hg3) rfl) (sno (wuF rfl rfl rfl rfl) (sno (wuF rfl rfl rfl rfl) (sno (wuF rfl rfl rfl rfl) (sno (wuF rfl rfl rfl rfl) (sno (wtF rfl rfl rfl (bg hg3) rfl) (sv (R_pickT (bg hg3) rfl) (wpList_nil ?_))))))))))
            exact cutEnd ⟨rfl, rfl, rfl, rfl, (by rw [hg3]; rfl), trivial⟩
          · refine svg (v := .pointer (some ⟨b, 1, none⟩)) (wtF rfl rfl rfl (bg hg3) rfl) (R_field (Try.runUnderlying49 _) rfl (Try.sizeOf3 _) rfl rfl) (svg (v := .int .i64 x1) (wtF rfl rfl rfl (bg hg3) rfl) (R_load1 (Try.isAgg3 _) rfl (hb1.cell 1)) (svg (wtF rfl rfl rfl (bg hg3) rfl) (R_eql rfl rfl) (svg (wtF rfl rfl rfl (bg hg3) rfl) (R_mv rfl) ?_)))
            refine cutF 5 79 [(0, Sl.v l), (1, .int .i64 next_), (7, .int .i64 i), (8, .pointer (some ⟨b, 0, none⟩)), (44, .bool ((((decide (x0 ≤ last)) || (decide (x0 ≥ next_))) || (decide (x1 < 0))) || (decide ((↑(Sl.n x2) : Int) > 65536)))), (53, .bool ((x1 == 0) && (decide ((↑(Sl.n x2) : Int) > 0))))] ?_ ?_
            · simp only [List.take_succ_cons, List.take_zero]
              rcases Bool.eq_false_or_eq_true (x1 == 0) with hg4 | hg4
              · refine svg (v := .pointer (some ⟨b, 2, none⟩)) (wtF rfl rfl rfl (bg hg4) rfl) (R_field (Try.runUnderlying49 _) rfl (Try.sizeOf27 _) rfl rfl) (svg (v := Sl.v x2) (wtF rfl rfl rfl (bg hg4) rfl) (R_load1 (Try.isAgg27 _) rfl (hb1.cell 2)) (svg (wtF rfl rfl rfl (bg hg4) rfl) (R_len (s := x2) (Try.runUnderlying27 _) rfl) (svg (wtF rfl rfl rfl (bg hg4) rfl) (R_gtr rfl rfl) (svg (wtF rfl rfl rfl (bg hg3) rfl) (R_pickT (bg hg4) rfl) (wpList_nil ?_)))))
                exact cutEnd ⟨rfl, rfl, rfl, rfl, rfl, (by rw [hg4]; rfl), trivial⟩
              · refine sno (wtF rfl rfl rfl (bg hg4) rfl) (sno (wtF rfl rfl rfl (bg hg4) rfl) (sno (wtF rfl rfl rfl (bg hg4) rfl) (sno (wtF rfl rfl rfl (bg hg4) rfl) (svg (wtF rfl rfl rfl (bg hg3) rfl) (R_pickF (bg hg4) rfl) (wpList_nil ?_)))))
                exact cutEnd ⟨rfl, rfl, rfl, rfl, rfl, (by rw [hg4]; rfl), trivial⟩
            intro us
            simp only [List.drop_succ_cons, List.drop_zero]
            refine sv (R_pickF (bg hg3) rfl) (wpList_nil ?_)
            exact cutEnd ⟨rfl, rfl, rfl, rfl, (by rw [hg3]; rfl), trivial⟩
        intro us
        simp only [List.drop_succ_cons, List.drop_zero]
        refine sv (R_mv rfl) ?_
        refine cutF 4 79 [(0, Sl.v l), (1, .int .i64 next_), (7, .int .i64 i), (8, .pointer (some ⟨b, 0, none⟩)), (59, .bool ((((((decide (x0 ≤ last)) || (decide (x0 ≥ next_))) || (decide (x1 < 0))) || (decide ((↑(Sl.n x2) : Int) > 65536))) || ((x1 == 0) && (decide ((↑(Sl.n x2) : Int) > 0)))) || (decide (x3 < 0))))] ?_ ?_
        · simp only [List.take_succ_cons, List.take_zero]
          rcases Bool.eq_false_or_eq_true (((((decide (x0 ≤ last)) || (decide (x0 ≥ next_))) || (decide (x1 < 0))) || (decide ((↑(Sl.n x2) : Int) > 65536))) || ((x1 == 0) && (decide ((↑(Sl.n x2) : Int) > 0)))) with hg5 | hg5
          · refine sno (wtF rfl rfl rfl (bg hg5) rfl) (sno (wtF rfl rfl rfl (bg hg5) rfl) (sno (wtF rfl rfl rfl (bg hg5) rfl) (sv (R_pickT (bg hg5) rfl) (wpList_nil ?_))))
            exact cutEnd ⟨rfl, rfl, rfl, rfl, (by rw [hg5]; rfl), trivial⟩
          · refine svg (v := .pointer (some ⟨b, 3, none⟩)) (wtF rfl rfl rfl (bg hg5) rfl) (R_field (Try.runUnderlying49 _) rfl (Try.sizeOf3 _) rfl rfl) (svg (v := .int .i64 x3) (wtF rfl rfl rfl (bg hg5) rfl) (R_load1 (Try.isAgg3 _) rfl (hb1.cell 3)) (svg (wtF rfl rfl rfl (bg hg5) rfl) (R_lss rfl rfl) (sv (R_pickF (bg hg5) rfl) (wpList_nil ?_))))
            exact cutEnd ⟨rfl, rfl, rfl, rfl, (by rw [hg5]; rfl), trivial⟩
        intro us
        simp only [List.drop_succ_cons, List.drop_zero]
        refine sv (R_mv rfl) ?_
        refine cutF 4 79 [(0, Sl.v l), (1, .int .i64 next_), (7, .int .i64 i), (8, .pointer (some ⟨b, 0, none⟩)), (64, .bool (((((((decide (x0 ≤ last)) || (decide (x0 ≥ next_))) || (decide (x1 < 0))) || (decide ((↑(Sl.n x2) : Int) > 65536))) || ((x1 == 0) && (decide ((↑(Sl.n x2) : Int) > 0)))) || (decide (x3 < 0))) || (decide (x3 > 1099511627826))))] ?_ ?_
        · simp only [List.take_succ_cons, List.take_zero]
          rcases Bool.eq_false_or_eq_true ((((((decide (x0 ≤ last)) || (decide (x0 ≥ next_))) || (decide (x1 < 0))) || (decide ((↑(Sl.n x2) : Int) > 65536))) || ((x1 == 0) && (decide ((↑(Sl.n x2) : Int) > 0)))) || (decide (x3 < 0))) with hg6 | hg6
          · refine sno (wtF rfl rfl rfl (bg hg6) rfl) (sno (wtF rfl rfl rfl (bg hg6) rfl) (sno (wtF rfl rfl rfl (bg hg6) rfl) (sv (R_pickT (bg hg6) rfl) (wpList_nil ?_))))
            exact cutEnd ⟨rfl, rfl, rfl, rfl, (by rw [hg6]; rfl), trivial⟩
          · refine svg (v := .pointer (some ⟨b, 3, none⟩)) (wtF rfl rfl rfl (bg hg6) rfl) (R_field (Try.runUnderlying49 _) rfl (Try.sizeOf3 _) rfl rfl) (svg (v := .int .i64 x3) (wtF rfl rfl rfl (bg hg6) rfl) (R_load1 (Try.isAgg3 _) rfl (hb1.cell 3)) (svg (wtF rfl rfl rfl (bg hg6) rfl) (R_gtr rfl rfl) (sv (R_pickF (bg hg6) rfl) (wpList_nil ?_))))
            exact cutEnd ⟨rfl, rfl, rfl, rfl, (by rw [hg6]; rfl), trivial⟩
        intro us
        simp only [List.drop_succ_cons, List.drop_zero]
        refine wpList_nil (then_normal ?_)
        refine C_split (t := (((((((decide (x0 ≤ last)) || (decide (x0 ≥ next_))) || (decide (x1 < 0))) || (decide ((↑(Sl.n x2) : Int) > 65536))) || ((x1 == 0) && (decide ((↑(Sl.n x2) : Int) > 0)))) || (decide (x3 < 0))) || (decide (x3 > 1099511627826)))) rfl (fun hc2 => ?_) (fun hc2 => ?_)
        · replace h := h.1 hc2
          refine wp_seq (wp_region_lit (sv (R_as rfl) (sv (R_as rfl) (wpList_nil (then_normal (wp_ret (then_ret (block_ret (then_ret (then_ret (block_ret (then_ret ?_))))))))))))
          replace h := h b w_2 hn_b hb1.lt hA1
          exact retN (vs := [.pointer none, .int .i64 1]) Try.results18 rfl ⟨rfl, rfl, trivial⟩ h
        · replace h := h.2 hc2
          refine wp_skip (then_normal (wp_region_lit (sv (v := .pointer (some ⟨b, 0, none⟩)) (R_field (Try.runUnderlying49 _) rfl (Try.sizeOf3 _) rfl rfl) (sv (v := .int .i64 x0) (R_load1 (Try.isAgg3 _) rfl (hb1.cell 0)) (sv (R_as rfl) (wpList_nil (block_normal (then_normal (wp_region_lit (sv (R_mv rfl) (sv (R_add rfl rfl) (sv (R_as rfl) (wpList_nil (then_normal ?_))))))))))))))
          replace h := h b w_2 hn_b hb1.lt hA1
          obtain ⟨nv2, hl, h⟩ := h
          exact ⟨nv2, hl, _, _, fr_sub ⟨rfl, rfl, rfl, rfl, trivial⟩, h⟩
      · replace h := h.2 hc1
        refine wp_exit (then_exit (then_exit (block_hit (then_normal (wp_seq (wp_seq (wp_region_lit (sv (R_mv rfl) (sv (R_lss rfl rfl) (wpList_nil (then_normal ?_)))))))))))
        refine C_split (t := (decide (next_ < 1))) rfl (fun hc3 => ?_) (fun hc3 => ?_)
        · replace h := h.1 hc3
          refine wp_seq (wp_region_lit (sv (R_as rfl) (sv (R_as rfl) (wpList_nil (then_normal (wp_ret (then_ret ?_)))))))
          exact retN (vs := [.pointer none, .int .i64 1]) Try.results18 rfl ⟨rfl, rfl, trivial⟩ h
        · replace h := h.2 hc3
          refine wp_skip (then_normal (wp_seq (wp_region_lit (sv (R_mv rfl) (sv (R_mv rfl) (sv (v := .agg #[Sl.v l, .int .i64 next_]) (R_build (ps' := [(0, Sl.v l), (1, .int .i64 next_)]) rfl (by kernel_rfl)) (st_one (wn rfl) ?_)))))))
          refine O_box (zs := [Sl.v l, .int .i64 next_]) rfl (fun b1 w_3 hn1 hO2 hb2 => ?_)
          have hn_b1 : w_.heap.size ≤ b1 := hn1
          have hA2 : Only [] w_ w_3 := hO2
          refine sv (R_as rfl) (wpList_nil (then_normal (wp_seq (wp_region_lit (sv (R_mv rfl) (sv (R_mv rfl) ?_))))))
          replace h := h b1 w_3 hn_b1 hb2.lt hA2 hb2
          refine st_one (wn rfl) ?_
          refine O_enter (args := #[.pointer (some ⟨b1, 0, none⟩)]) (R_enter Try.call23 rfl) (h.mono ?_)
          clear h
          rintro _ w_4 ⟨x4, rfl, vb1, vb11, hb3, h⟩
          refine ⟨_, rfl, ?_⟩
          refine sv (v := .pointer (some ⟨b1, 0, none⟩)) (R_nil rfl) (sv (v := .pointer (some ⟨b1, 0, none⟩)) (R_field (Try.runUnderlying64 _) rfl (Try.sizeOf42 _) rfl rfl) (st_one (wn rfl) ?_))
          refine O_store (vs := [Sl.v x4]) (cs' := [Sl.v x4, .int .i64 vb11]) (Try.sizeOf42 _) rfl rfl rfl rfl hb3 (Nat.le_of_ble_eq_true rfl) rfl (fun w_5 hO3 hb4 => ?_)
          have hA3 : Only [b1] w_4 w_5 := hO3
          refine wpList_nil (then_normal (wp_seq (wp_region_lit (sv (R_mv rfl) (sv (R_as rfl) (sv (R_as rfl) (wpList_nil (then_normal (wp_ret ?_)))))))))
          replace h := h w_5 hA3 hb4
          exact retN (vs := [.pointer (some ⟨b1, 0, none⟩), .int .i64 0]) Try.results18 rfl ⟨rfl, rfl, trivial⟩ h

/-- what is to be shown of a call of (*session.Book).Ask -/
def session_Book_Ask_vc (b : Addr) (id_ : Int) (seq : Int) (R : Value → World → Prop) (w : World) : Prop :=
  Calls Try.prog 26 #[.pointer (some (Addr.add b 0)), .int .i64 id_] w (fun e w_ => ∃ x0 : Int, ∃ x1 : Bool, e = .returned (.tuple #[.int .i64 x0, .bool x1]) ∧
  (((!x1) = true →
  R (.tuple #[.int .i64 4, Sl.v Sl.nil]) w_) ∧
  ((!x1) = false →
  ∃ x2 : Sl, Cells w_ (Addr.add (Addr.add b 0) 0) [Sl.v x2] ∧
  ∃ ad : Addr, SlAt x2 x0 4 ad ∧
  ∃ x01 : Int, ∃ x11 : Int, ∃ x21 : Sl, ∃ x3 : Int, Cells w_ ad [.int .i64 x01, .int .i64 x11, Sl.v x21, .int .i64 x3] ∧
  (((decide (seq < (if 1 > x11 then 1 else x11))) = true →
  ∀ (b1 : Nat) (w_2 : World), w_.heap.size ≤ b1 → b1 < w_2.heap.size → Only [] w_ w_2 →
  R (.tuple #[.int .i64 3, Sl.v Sl.nil]) w_2) ∧
  ((decide (seq < (if 1 > x11 then 1 else x11))) = false →
  (((seq == x11) = true →
  ∀ (b1 : Nat) (w_2 : World), w_.heap.size ≤ b1 → b1 < w_2.heap.size → Only [] w_ w_2 →
  Calls Try.prog 27 #[Sl.v x21] w_2 (fun e w_3 => ∃ x4 : Sl, e = .returned (Sl.v x4) ∧ Same [b1] w_2 w_3 ∧
  R (.tuple #[.int .i64 2, Sl.v x4]) w_3)) ∧
  ((seq == x11) = false →
  ∀ (b1 : Nat) (w_2 : World), w_.heap.size ≤ b1 → b1 < w_2.heap.size → Only [] w_ w_2 →
  R (.tuple #[.int .i64 1, Sl.v Sl.nil]) w_2)))))))
theorem session_Book_Ask_wp (b : Addr) (id_ : Int) (seq : Int) (R : Value → World → Prop) (w : World) (h : session_Book_Ask_vc b id_ seq R w) :
    Calls Try.prog 10 #[.pointer (some b), .int .i64 id_, .int .i64 seq] w fun e w' => ∃ v, e = .returned v ∧ R v w' := by
  unfold session_Book_Ask_vc at h
  refine callsF (l := [(0, .pointer (some b)), (1, .int .i64 id_), (2, .int .i64 seq)]) Try.func10 rfl Try.ntmps10 (Nat.le_of_ble_eq_true rfl) rfl (wp_seq (wp_region_lit (sv (R_as rfl) (sv (R_as rfl) (wpList_nil (then_normal (wp_seq (wp_region_lit (sv (R_mv rfl) (sv (v := .pointer (some b)) (R_nil rfl) (sv (v := .pointer (some (Addr.add b 0))) (R_field (Try.runUnderlying47 _) rfl (Try.sizeOf45 _) rfl rfl) (sv (R_mv rfl) (st_one (wn rfl) ?_)))))))))))))
  refine O_enter (args := #[.pointer (some (Addr.add b 0)), .int .i64 id_]) (R_enter Try.call26 rfl) (h.mono ?_)
  clear h
  rintro _ w_ ⟨x0, x1, rfl, h⟩
  refine ⟨_, rfl, ?_⟩
  refine sv (R_mv rfl) (sv (R_ext rfl rfl) (sv (R_ext rfl rfl) (sv (R_as rfl) (sv (R_as rfl) (wpList_nil (then_normal (wp_seq (wp_seq (wp_region_lit (sv (R_mv rfl) (sv (R_not rfl) (wpList_nil (then_normal ?_)))))))))))))
  refine C_split (t := (!x1)) rfl (fun hc => ?_) (fun hc => ?_)
  · replace h := h.1 hc
    refine wp_seq (wp_region_lit (sv (R_as rfl) (sv (R_as rfl) (wpList_nil (then_normal (wp_ret (then_ret ?_)))))))
    exact retN (vs := [.int .i64 4, Sl.v Sl.nil]) Try.results10 rfl ⟨rfl, rfl, trivial⟩ h
  · replace h := h.2 hc
    refine wp_skip (then_normal (wp_seq (wp_seq (wp_region_lit (sv (R_mv rfl) (sv (v := .pointer (some b)) (R_nil rfl) (sv (v := .pointer (some (Addr.add b 0))) (R_field (Try.runUnderlying47 _) rfl (Try.sizeOf45 _) rfl rfl) (sv (v := .pointer (some (Addr.add (Addr.add b 0) 0))) (R_field (Try.runUnderlying45 _) rfl (Try.sizeOf42 _) rfl rfl) ?_))))))))
    obtain ⟨x2, hx, h⟩ := h
    refine sv (v := Sl.v x2) (R_load1 (Try.isAgg42 _) rfl (Cells.one hx)) (sv (R_mv rfl) ?_)
    obtain ⟨ad, hx1, h⟩ := h
    refine sv (v := .pointer (some ad)) (R_indexS (s := x2) (Try.runUnderlying42 _) (Try.sizeOf49 _) rfl rfl hx1) ?_
    obtain ⟨x01, x11, x21, x3, hx2, h⟩ := h
    refine sv (v := .agg #[.int .i64 x01, .int .i64 x11, Sl.v x21, .int .i64 x3]) (R_loadN (Try.isAgg49 _) (Try.sizeOf49 _) rfl rfl hx2) (st_one (wn rfl) ?_)
    refine O_alloc (zs := [.int .i64 0, .int .i64 0, Sl.v Sl.nil, .int .i64 0]) (Try.zeroValue49 _) rfl (fun b1 w_1 hn hO hb => ?_)
    have hn_b1 : w_.heap.size ≤ b1 := hn
    have hA : Only [] w_ w_1 := hO
    refine st_one (wn rfl) ?_
    refine O_store (vs := [.int .i64 x01, .int .i64 x11, Sl.v x21, .int .i64 x3]) (cs' := [.int .i64 x01, .int .i64 x11, Sl.v x21, .int .i64 x3]) (Try.sizeOf49 _) rfl rfl rfl rfl hb (Nat.le_of_ble_eq_true rfl) rfl (fun w_2 hO1 hb1 => ?_)
    have hA1 := hA.new hO1 hn_b1
    refine wpList_nil (then_normal (wp_block (wp_seq (wp_region_lit (sv (R_mv rfl) (sv (v := .pointer (some ⟨b1, 1, none⟩)) (R_field (Try.runUnderlying49 _) rfl (Try.sizeOf3 _) rfl rfl) (sv (v := .int .i64 x11) (R_load1 (Try.isAgg3 _) rfl (hb1.cell 1)) (sv (v := .int .i64 (if 1 > x11 then 1 else x11)) (R_max rfl rfl) (sv (R_lss rfl rfl) (sv (R_as rfl) (wpList_nil (then_normal ?_))))))))))))
    refine C_split (t := (decide (seq < (if 1 > x11 then 1 else x11)))) rfl (fun hc1 => ?_) (fun hc1 => ?_)
    · replace h := h.1 hc1
      refine wp_seq (wp_region_lit (sv (R_as rfl) (sv (R_as rfl) (wpList_nil (then_normal (wp_ret (block_ret (then_ret ?_))))))))
      replace h := h b1 w_2 hn_b1 hb1.lt hA1
      exact retN (vs := [.int .i64 3, Sl.v Sl.nil]) Try.results10 rfl ⟨rfl, rfl, trivial⟩ h
    · replace h := h.2 hc1
      refine wp_seq (wp_region_lit (sv (R_mv rfl) (sv (v := .pointer (some ⟨b1, 1, none⟩)) (R_field (Try.runUnderlying49 _) rfl (Try.sizeOf3 _) rfl rfl) (sv (v := .int .i64 x11) (R_load1 (Try.isAgg3 _) rfl (hb1.cell 1)) (sv (R_eql rfl rfl) (sv (R_as rfl) (wpList_nil (then_normal ?_))))))))
      refine C_split (t := (seq == x11)) rfl (fun hc2 => ?_) (fun hc2 => ?_)
      · replace h := h.1 hc2
        refine wp_seq (wp_region_lit (sv (v := .pointer (some ⟨b1, 2, none⟩)) (R_field (Try.runUnderlying49 _) rfl (Try.sizeOf27 _) rfl rfl) (sv (v := Sl.v x21) (R_load1 (Try.isAgg27 _) rfl (hb1.cell 2)) ?_)))
        replace h := h b1 w_2 hn_b1 hb1.lt hA1
        refine st_one (wn rfl) ?_
        refine O_enter (args := #[Sl.v x21]) (R_enter Try.call27 rfl) (h.mono ?_)
        clear h
        rintro _ w_3 ⟨x4, rfl, hs1, h⟩
        refine ⟨_, rfl, ?_⟩
        have hb2 := hs1.blk hb1 (by simp)
        refine sv (R_as rfl) (sv (R_as rfl) (wpList_nil (then_normal (wp_ret (block_ret (then_ret ?_))))))
        exact retN (vs := [.int .i64 2, Sl.v x4]) Try.results10 rfl ⟨rfl, rfl, trivial⟩ h
      · replace h := h.2 hc2
        refine wp_skip (block_normal (then_normal (wp_seq (wp_region_lit (sv (R_as rfl) (sv (R_as rfl) (wpList_nil (then_normal (wp_ret ?_)))))))))
        replace h := h b1 w_2 hn_b1 hb1.lt hA1
        exact retN (vs := [.int .i64 1, Sl.v Sl.nil]) Try.results10 rfl ⟨rfl, rfl, trivial⟩ h

end Go.Proofs.Ytahncinfbhjkgaa.Vc
