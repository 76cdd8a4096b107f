/-
  Own work, printed by a program of ours (gen.py): of each Go function what is to be shown of a call ('.._vc'), and that it suffices ('.._wp'). Nothing is assumed.
-/
import Derived.Test.YtahncinfbhjkgaaRows
import Derived.Test.YtahncinfbhjkgaaFr
namespace Go.Proofs.Ytahncinfbhjkgaa.Vc
open Go Go.RowKit Go.Kt
set_option linter.unusedSimpArgs false
set_option linter.unusedVariables false
set_option maxRecDepth 100000
set_option maxHeartbeats 40000000
/-- what is to be shown of a call of pavanelaw19.SessionAgain -/
def pavanelaw19_SessionAgain_vc (acts : Sl) (more : Sl) (R : Value → World → Prop) (w : World) : Prop :=
  Calls Try.prog 8 #[] w (fun e w_ => ∃ x1 : Bool, e = .returned (.bool x1) ∧
  Calls Try.prog 9 #[] w_ (fun e w_1 => ∃ x2 : Option Addr, e = .returned (.pointer x2) ∧
  ((((!x1) || (Option.isNone x2)) = true →
  R (.bool false) w_1) ∧
  (((!x1) || (Option.isNone x2)) = false →
  ∃ (I_ : Nat → Int → World → Prop) (nv1 : Nat), I_ nv1 0 w_1 ∧
  ∀ (nv : Nat) (i : Int) (w_2 : World), I_ nv i w_2 →
  ((((decide (i < (↑(Sl.n acts) : Int))) && (decide (i < 100))) = true →
  ∃ ad : Addr, SlAt acts i 5 ad ∧
  ∃ x0 : Int, ∃ x11 : Int, ∃ x21 : Int, ∃ x3 : Int, ∃ x4 : Sl, Cells w_2 ad [.int .i64 x0, .int .i64 x11, .int .i64 x21, .int .i64 x3, Sl.v x4] ∧
  Calls Try.prog 11 #[.pointer x2, .agg #[.int .i64 x0, .int .i64 x11, .int .i64 x21, .int .i64 x3, Sl.v x4]] w_2 (fun e w_3 => ∃ x01 : Int, ∃ x12 : Int, ∃ x22 : Sl, ∃ x31 : Sl, e = .returned (.tuple #[.int .i64 x01, .int .i64 x12, Sl.v x22, Sl.v x31]) ∧
  ∃ nv2 : Nat, nv2 < nv ∧ I_ nv2 (IntKind.i64.wrap (i + 1)) w_3)) ∧
  (((decide (i < (↑(Sl.n acts) : Int))) && (decide (i < 100))) = false →
  ∃ ad1 : Addr, x2 = some ad1 ∧
  Calls Try.prog 14 #[.pointer (some (Addr.add ad1 0))] w_2 (fun e w_4 => ∃ x5 : Sl, e = .returned (Sl.v x5) ∧
  Calls Try.prog 15 #[.pointer x2] w_4 (fun e w_5 => ∃ x6 : Int, e = .returned (.int .i64 x6) ∧
  Calls Try.prog 17 #[Sl.v x5, .int .i64 x6] w_5 (fun e w_6 => ∃ x02 : Option Addr, ∃ x13 : Int, e = .returned (.tuple #[.pointer x02, .int .i64 x13]) ∧
  ((((Option.isNone x02) || (x13 != 0)) = true →
  R (.bool false) w_6) ∧
  (((Option.isNone x02) || (x13 != 0)) = false →
  ∃ (I_1 : Nat → Int → World → Prop) (nv4 : Nat), I_1 nv4 0 w_6 ∧
  ∀ (nv3 : Nat) (i1 : Int) (w_7 : World), I_1 nv3 i1 w_7 →
  ((((decide (i1 < (↑(Sl.n more) : Int))) && (decide (i1 < 100))) = true →
  ∃ ad2 : Addr, SlAt more i1 5 ad2 ∧
  ∃ x03 : Int, ∃ x14 : Int, ∃ x23 : Int, ∃ x32 : Int, ∃ x41 : Sl, Cells w_7 ad2 [.int .i64 x03, .int .i64 x14, .int .i64 x23, .int .i64 x32, Sl.v x41] ∧
  Calls Try.prog 11 #[.pointer x2, .agg #[.int .i64 x03, .int .i64 x14, .int .i64 x23, .int .i64 x32, Sl.v x41]] w_7 (fun e w_8 => ∃ x04 : Int, ∃ x15 : Int, ∃ x24 : Sl, ∃ x33 : Sl, e = .returned (.tuple #[.int .i64 x04, .int .i64 x15, Sl.v x24, Sl.v x33]) ∧
  ∃ ad3 : Addr, SlAt more i1 5 ad3 ∧
  ∃ x05 : Int, ∃ x16 : Int, ∃ x25 : Int, ∃ x34 : Int, ∃ x42 : Sl, Cells w_8 ad3 [.int .i64 x05, .int .i64 x16, .int .i64 x25, .int .i64 x34, Sl.v x42] ∧
  Calls Try.prog 11 #[.pointer x02, .agg #[.int .i64 x05, .int .i64 x16, .int .i64 x25, .int .i64 x34, Sl.v x42]] w_8 (fun e w_9 => ∃ x06 : Int, ∃ x17 : Int, ∃ x26 : Sl, ∃ x35 : Sl, e = .returned (.tuple #[.int .i64 x06, .int .i64 x17, Sl.v x26, Sl.v x35]) ∧
  ∃ J_ : Bool → World → Prop, (∀ (t130 : Bool) (w_10 : World), J_ t130 w_10 →
  ((t130 = true →
  R (.bool false) w_10) ∧
  (t130 = false →
  ∃ nv5 : Nat, nv5 < nv3 ∧ I_1 nv5 (IntKind.i64.wrap (i1 + 1)) w_10))) ∧
  (∀ (w_11 : World), Only [] w_9 w_11 →
  (((x04 != x06) = true →
  J_ true w_11) ∧
  ((x04 != x06) = false →
  (((x15 != x17) = true →
  J_ true w_11) ∧
  ((x15 != x17) = false →
  ∃ bs : List UInt8, Bytes w_11 x24 bs ∧
  ∃ bs1 : List UInt8, Bytes w_11 x26 bs1 ∧
  (((!((⟨List.toArray bs⟩ : ByteArray).toList == (⟨List.toArray bs1⟩ : ByteArray).toList)) = true →
  J_ true w_11) ∧
  ((!((⟨List.toArray bs⟩ : ByteArray).toList == (⟨List.toArray bs1⟩ : ByteArray).toList)) = false →
  Calls Try.prog 21 #[Sl.v x33, Sl.v x35] w_11 (fun e w_12 => ∃ x7 : Bool, e = .returned (.bool x7) ∧
  (((!x7) = true →
  J_ true w_12) ∧
  ((!x7) = false →
  ∃ ad4 : Addr, x2 = some ad4 ∧
  ∃ ad5 : Addr, x02 = some ad5 ∧
  Calls Try.prog 14 #[.pointer (some (Addr.add ad4 0))] w_12 (fun e w_13 => ∃ x8 : Sl, e = .returned (Sl.v x8) ∧
  Calls Try.prog 14 #[.pointer (some (Addr.add ad5 0))] w_13 (fun e w_14 => ∃ x9 : Sl, e = .returned (Sl.v x9) ∧
  Calls Try.prog 19 #[Sl.v x8, Sl.v x9] w_14 (fun e w_15 => ∃ x10 : Bool, e = .returned (.bool x10) ∧
  (((!x10) = true →
  J_ true w_15) ∧
  ((!x10) = false →
  Calls Try.prog 15 #[.pointer x2] w_15 (fun e w_16 => ∃ x18 : Int, e = .returned (.int .i64 x18) ∧
  Calls Try.prog 15 #[.pointer x02] w_16 (fun e w_17 => ∃ x19 : Int, e = .returned (.int .i64 x19) ∧
  J_ (x18 != x19) w_17)))))))))))))))))))) ∧
  (((decide (i1 < (↑(Sl.n more) : Int))) && (decide (i1 < 100))) = false →
  R (.bool true) w_7)))))))))))))
theorem pavanelaw19_SessionAgain_wp (acts : Sl) (more : Sl) (R : Value → World → Prop) (w : World) (h : pavanelaw19_SessionAgain_vc acts more R w) :
    Calls Try.prog 7 #[Sl.v acts, Sl.v more] w fun e w' => ∃ v, e = .returned v ∧ R v w' := by
  unfold pavanelaw19_SessionAgain_vc at h
  refine callsF (l := [(0, Sl.v acts), (1, Sl.v more)]) Try.func7 rfl Try.ntmps7 (Nat.le_of_ble_eq_true rfl) rfl (wp_seq (wp_region_lit (sv (R_as rfl) (wpList_nil (then_normal (wp_seq (wp_region_lit (st_one (wn rfl) ?_))))))))
  refine O_enter (args := #[]) (R_enter Try.call8 rfl) (h.mono ?_)
  clear h
  rintro _ w_ ⟨x1, rfl, h⟩
  refine ⟨_, rfl, ?_⟩
  refine sv (R_as rfl) (wpList_nil (then_normal (wp_seq (wp_region_lit (st_one (wn rfl) ?_)))))
  refine O_enter (args := #[]) (R_enter Try.call9 rfl) (h.mono ?_)
  clear h
  rintro _ w_1 ⟨x2, rfl, h⟩
  refine ⟨_, rfl, ?_⟩
  refine sv (R_as rfl) (wpList_nil (then_normal (wp_seq (wp_seq (wp_region_lit (sv (R_mv rfl) (sv (R_not rfl) (sv (R_mv rfl) ?_))))))))
  refine cutF 3 131 [(0, Sl.v acts), (1, Sl.v more), (6, .pointer x2), (26, .bool ((!x1) || (Option.isNone x2)))] ?_ ?_
  · simp only [List.take_succ_cons, List.take_zero]
    rcases Bool.eq_false_or_eq_true (!x1) with hg | hg
    · refine sno (wtF rfl rfl rfl (bg hg) rfl) (sno (wtF rfl rfl rfl (bg hg) rfl) (sv (R_pickT (bg hg) rfl) (wpList_nil ?_)))
      exact cutEnd ⟨rfl, rfl, rfl, (by rw [hg]; rfl), trivial⟩
    · refine svg (wtF rfl rfl rfl (bg hg) rfl) (R_mv rfl) (svg (wtF rfl rfl rfl (bg hg) rfl) (R_eqlPtrNilR (Try.runUnderlying24 _) rfl rfl rfl) (sv (R_pickF (bg hg) rfl) (wpList_nil ?_)))
      exact cutEnd ⟨rfl, rfl, rfl, (by rw [hg]; rfl), trivial⟩
  intro us
  simp only [List.drop_succ_cons, List.drop_zero]
  refine wpList_nil (then_normal ?_)
  refine C_split (t := ((!x1) || (Option.isNone x2))) rfl (fun hc => ?_) (fun hc => ?_)
  · replace h := h.1 hc
    refine wp_seq (wp_region_lit (sv (R_as rfl) (wpList_nil (then_normal (wp_ret (then_ret ?_))))))
    exact ret1 Try.results7 ⟨rfl, trivial⟩ h
  · replace h := h.2 hc
    refine wp_skip (then_normal (wp_seq (wp_seq (wp_region_lit (sv (R_as rfl) (wpList_nil (then_normal (wp_block ?_))))))))
    obtain ⟨I_, nv1, h0, hI⟩ := h
    refine wp_loop_ghost (fun nv' a' w' => ∃ i : Int, (∃ us, a' = fr 131 us [(0, Sl.v acts), (1, Sl.v more), (6, .pointer x2), (7, .int .i64 i)]) ∧ I_ nv' i w') nv1 ?_ ?_
    · exact ⟨_, fr_sub ⟨rfl, rfl, rfl, rfl, trivial⟩, h0⟩
    · clear h0
      rintro nv _ w_2 ⟨i, ⟨us, rfl⟩, h⟩
      replace h := hI _ _ _ h
      refine wp_seq (wp_seq (wp_region_lit (sv (R_mv rfl) (sv (R_mv rfl) (sv (R_len (s := acts) (Try.runUnderlying22 _) rfl) (sv (R_lss rfl rfl) (sv (R_mv rfl) ?_)))))))
      refine cutF 3 131 [(0, Sl.v acts), (1, Sl.v more), (6, .pointer x2), (7, .int .i64 i), (34, .bool ((decide (i < (↑(Sl.n acts) : Int))) && (decide (i < 100))))] ?_ ?_
      · simp only [List.take_succ_cons, List.take_zero]
        rcases Bool.eq_false_or_eq_true (decide (i < (↑(Sl.n acts) : Int))) with hg1 | hg1
        · refine svg (wtF rfl rfl rfl (bg hg1) rfl) (R_mv rfl) (svg (wtF rfl rfl rfl (bg hg1) rfl) (R_lss rfl rfl) (sv (R_pickT (bg hg1) rfl) (wpList_nil ?_)))
          exact cutEnd ⟨rfl, rfl, rfl, rfl, (by rw [hg1]; rfl), trivial⟩
        · refine sno (wtF rfl rfl rfl (bg hg1) rfl) (sno (wtF rfl rfl rfl (bg hg1) rfl) (sv (R_pickF (bg hg1) rfl) (wpList_nil ?_)))
          exact cutEnd ⟨rfl, rfl, rfl, rfl, (by rw [hg1]; rfl), trivial⟩
      intro us
      simp only [List.drop_succ_cons, List.drop_zero]
      refine wpList_nil (then_normal ?_)
      refine C_split (t := ((decide (i < (↑(Sl.n acts) : Int))) && (decide (i < 100)))) rfl (fun hc1 => ?_) (fun hc1 => ?_)
      · replace h := h.1 hc1
        refine wp_skip (then_normal (wp_seq (wp_block (wp_region_lit (sv (R_mv rfl) (sv (R_mv rfl) (sv (R_mv rfl) ?_)))))))
        obtain ⟨ad, hx, h⟩ := h
        refine sv (v := .pointer (some ad)) (R_indexS (s := acts) (Try.runUnderlying22 _) (Try.sizeOf29 _) rfl rfl hx) ?_
        obtain ⟨x0, x11, x21, x3, x4, hx1, h⟩ := h
        refine sv (v := .agg #[.int .i64 x0, .int .i64 x11, .int .i64 x21, .int .i64 x3, Sl.v x4]) (R_loadN (Try.isAgg29 _) (Try.sizeOf29 _) rfl rfl hx1) (st_one (wn rfl) ?_)
        refine O_enter (args := #[.pointer x2, .agg #[.int .i64 x0, .int .i64 x11, .int .i64 x21, .int .i64 x3, Sl.v x4]]) (R_enter Try.call11 rfl) (h.mono ?_)
        clear h
        rintro _ w_3 ⟨x01, x12, x22, x31, rfl, h⟩
        refine ⟨_, rfl, ?_⟩
        refine wpList_nil (block_normal (then_normal (wp_region_lit (sv (R_mv rfl) (sv (R_add rfl rfl) (sv (R_as rfl) (wpList_nil (then_normal ?_))))))))
        obtain ⟨nv2, hl, h⟩ := h
        exact ⟨nv2, hl, _, fr_sub ⟨rfl, rfl, rfl, rfl, trivial⟩, h⟩
      · replace h := h.2 hc1
        refine wp_exit (then_exit (then_exit (block_hit (then_normal (wp_seq (wp_region_lit (sv (R_mv rfl) ?_)))))))
        obtain ⟨ad1, hx2, h⟩ := h
        refine sv (v := .pointer (some ad1)) (R_nil (pg hx2)) (sv (v := .pointer (some (Addr.add ad1 0))) (R_field (Try.runUnderlying47 _) rfl (Try.sizeOf45 _) rfl rfl) (st_one (wn rfl) ?_))
        refine O_enter (args := #[.pointer (some (Addr.add ad1 0))]) (R_enter Try.call14 rfl) (h.mono ?_)
        clear h
        rintro _ w_4 ⟨x5, rfl, h⟩
        refine ⟨_, rfl, ?_⟩
        refine sv (R_mv rfl) (st_one (wn rfl) ?_)
        refine O_enter (args := #[.pointer x2]) (R_enter Try.call15 rfl) (h.mono ?_)
        clear h
        rintro _ w_5 ⟨x6, rfl, h⟩
        refine ⟨_, rfl, ?_⟩
        refine st_one (wn rfl) ?_
        refine O_enter (args := #[Sl.v x5, .int .i64 x6]) (R_enter Try.call17 rfl) (h.mono ?_)
        clear h
        rintro _ w_6 ⟨x02, x13, rfl, h⟩
        refine ⟨_, rfl, ?_⟩
        refine sv (R_mv rfl) (sv (R_ext rfl rfl) (sv (R_ext rfl rfl) (sv (R_as rfl) (sv (R_as rfl) (wpList_nil (then_normal (wp_seq (wp_seq (wp_region_lit (sv (R_mv rfl) (sv (R_eqlPtrNilR (Try.runUnderlying24 _) rfl rfl rfl) (sv (R_mv rfl) ?_))))))))))))
        refine cutF 3 131 [(1, Sl.v more), (6, .pointer x2), (8, .pointer x02), (58, .bool ((Option.isNone x02) || (x13 != 0)))] ?_ ?_
        · simp only [List.take_succ_cons, List.take_zero]
          rcases Bool.eq_false_or_eq_true (Option.isNone x02) with hg2 | hg2
          · refine sno (wtF rfl rfl rfl (bg hg2) rfl) (sno (wtF rfl rfl rfl (bg hg2) rfl) (sv (R_pickT (bg hg2) rfl) (wpList_nil ?_)))
            exact cutEnd ⟨rfl, rfl, rfl, (by rw [hg2]; rfl), trivial⟩
          · refine svg (wtF rfl rfl rfl (bg hg2) rfl) (R_mv rfl) (svg (wtF rfl rfl rfl (bg hg2) rfl) (R_neq rfl rfl) (sv (R_pickF (bg hg2) rfl) (wpList_nil ?_)))
            exact cutEnd ⟨rfl, rfl, rfl, (by rw [hg2]; rfl), trivial⟩
        intro us
        simp only [List.drop_succ_cons, List.drop_zero]
        refine wpList_nil (then_normal ?_)
        refine C_split (t := ((Option.isNone x02) || (x13 != 0))) rfl (fun hc2 => ?_) (fun hc2 => ?_)
        · replace h := h.1 hc2
          refine wp_seq (wp_region_lit (sv (R_as rfl) (wpList_nil (then_normal (wp_ret (then_ret ?_))))))
          exact ret1 Try.results7 ⟨rfl, trivial⟩ h
        · replace h := h.2 hc2
          refine wp_skip (then_normal (wp_seq (wp_seq (wp_region_lit (sv (R_as rfl) (wpList_nil (then_normal (wp_block ?_))))))))
          obtain ⟨I_1, nv4, h01, hI1⟩ := h
          refine wp_loop_ghost (fun nv' a' w' => ∃ i1 : Int, (∃ us, a' = fr 131 us [(1, Sl.v more), (6, .pointer x2), (8, .pointer x02), (10, .int .i64 i1)]) ∧ I_1 nv' i1 w') nv4 ?_ ?_
          · exact ⟨_, fr_sub ⟨rfl, rfl, rfl, rfl, trivial⟩, h01⟩
          · clear h01
            rintro nv3 _ w_7 ⟨i1, ⟨us1, rfl⟩, h⟩
            replace h := hI1 _ _ _ h
            refine wp_seq (wp_seq (wp_region_lit (sv (R_mv rfl) (sv (R_mv rfl) (sv (R_len (s := more) (Try.runUnderlying22 _) rfl) (sv (R_lss rfl rfl) (sv (R_mv rfl) ?_)))))))
            refine cutF 3 131 [(1, Sl.v more), (6, .pointer x2), (8, .pointer x02), (10, .int .i64 i1), (66, .bool ((decide (i1 < (↑(Sl.n more) : Int))) && (decide (i1 < 100))))] ?_ ?_
            · simp only [List.take_succ_cons, List.take_zero]
              rcases Bool.eq_false_or_eq_true (decide (i1 < (↑(Sl.n more) : Int))) with hg3 | hg3
              · refine svg (wtF rfl rfl rfl (bg hg3) rfl) (R_mv rfl) (svg (wtF rfl rfl rfl (bg hg3) rfl) (R_lss rfl rfl) (sv (R_pickT (bg hg3) rfl) (wpList_nil ?_)))
                exact cutEnd ⟨rfl, rfl, rfl, rfl, (by rw [hg3]; rfl), trivial⟩
              · refine sno (wtF rfl rfl rfl (bg hg3) rfl) (sno (wtF rfl rfl rfl (bg hg3) rfl) (sv (R_pickF (bg hg3) rfl) (wpList_nil ?_)))
                exact cutEnd ⟨rfl, rfl, rfl, rfl, (by rw [hg3]; rfl), trivial⟩
            intro us
            simp only [List.drop_succ_cons, List.drop_zero]
            refine wpList_nil (then_normal ?_)
            refine C_split (t := ((decide (i1 < (↑(Sl.n more) : Int))) && (decide (i1 < 100)))) rfl (fun hc3 => ?_) (fun hc3 => ?_)
            · replace h := h.1 hc3
              refine wp_skip (then_normal (wp_seq (wp_block (wp_seq (wp_region_lit (sv (R_mv rfl) (sv (R_mv rfl) (sv (R_mv rfl) ?_))))))))
              obtain ⟨ad2, hx3, h⟩ := h
              refine sv (v := .pointer (some ad2)) (R_indexS (s := more) (Try.runUnderlying22 _) (Try.sizeOf29 _) rfl rfl hx3) ?_
              obtain ⟨x03, x14, x23, x32, x41, hx4, h⟩ := h
              refine sv (v := .agg #[.int .i64 x03, .int .i64 x14, .int .i64 x23, .int .i64 x32, Sl.v x41]) (R_loadN (Try.isAgg29 _) (Try.sizeOf29 _) rfl rfl hx4) (st_one (wn rfl) ?_)
              refine O_enter (args := #[.pointer x2, .agg #[.int .i64 x03, .int .i64 x14, .int .i64 x23, .int .i64 x32, Sl.v x41]]) (R_enter Try.call11 rfl) (h.mono ?_)
              clear h
              rintro _ w_8 ⟨x04, x15, x24, x33, rfl, h⟩
              refine ⟨_, rfl, ?_⟩
              refine sv (R_mv rfl) (sv (R_ext rfl rfl) (sv (R_ext rfl rfl) (sv (R_ext rfl rfl) (sv (R_ext rfl rfl) (sv (R_as rfl) (sv (R_as rfl) (sv (R_as rfl) (sv (R_as rfl) (wpList_nil (then_normal (wp_seq (wp_region_lit (sv (R_mv rfl) (sv (R_mv rfl) ?_))))))))))))))
              refine sv (R_mv rfl) ?_
              obtain ⟨ad3, hx5, h⟩ := h
              refine sv (v := .pointer (some ad3)) (R_indexS (s := more) (Try.runUnderlying22 _) (Try.sizeOf29 _) rfl rfl hx5) ?_
              obtain ⟨x05, x16, x25, x34, x42, hx6, h⟩ := h
              refine sv (v := .agg #[.int .i64 x05, .int .i64 x16, .int .i64 x25, .int .i64 x34, Sl.v x42]) (R_loadN (Try.isAgg29 _) (Try.sizeOf29 _) rfl rfl hx6) (st_one (wn rfl) ?_)
              refine O_enter (args := #[.pointer x02, .agg #[.int .i64 x05, .int .i64 x16, .int .i64 x25, .int .i64 x34, Sl.v x42]]) (R_enter Try.call11 rfl) (h.mono ?_)
              clear h
              rintro _ w_9 ⟨x06, x17, x26, x35, rfl, h⟩
              refine ⟨_, rfl, ?_⟩
              refine sv (R_mv rfl) (sv (R_ext rfl rfl) (sv (R_ext rfl rfl) (sv (R_ext rfl rfl) (sv (R_ext rfl rfl) (sv (R_as rfl) (sv (R_as rfl) (sv (R_as rfl) (sv (R_as rfl) (wpList_nil (then_normal (wp_seq ?_)))))))))))
              obtain ⟨J_, hJ, h⟩ := h
              refine wp_cut (fun a' w' => ∃ t130 : Bool, (∃ us, a' = fr 131 us [(1, Sl.v more), (6, .pointer x2), (8, .pointer x02), (10, .int .i64 i1), (130, .bool t130)]) ∧ J_ t130 w') ?_ ?_
              · clear h
                rintro _ w_10 ⟨t130, ⟨us2, rfl⟩, h⟩
                replace h := hJ _ _ h
                refine then_normal ?_
                refine C_split (t := t130) rfl (fun hc4 => ?_) (fun hc4 => ?_)
                · replace h := h.1 hc4
                  refine wp_seq (wp_region_lit (sv (R_as rfl) (wpList_nil (then_normal (wp_ret (block_ret (then_ret (then_ret (block_ret (then_ret ?_))))))))))
                  exact ret1 Try.results7 ⟨rfl, trivial⟩ h
                · replace h := h.2 hc4
                  refine wp_skip (block_normal (then_normal (wp_region_lit (sv (R_mv rfl) (sv (R_add rfl rfl) (sv (R_as rfl) (wpList_nil (then_normal ?_))))))))
                  obtain ⟨nv5, hl1, h⟩ := h
                  exact ⟨nv5, hl1, _, fr_sub ⟨rfl, rfl, rfl, rfl, trivial⟩, h⟩
              · refine e_region (EL [(18, []), (25, []), (29, []), (30, []), (35, []), (37, [])]) Try.checked.mixed ?_
                have hO := Only.drew w_9
                generalize w_9.drew = w_11 at *
                have hA : Only [] w_9 w_11 := hO
                refine eQ 0 rfl rfl (wn rfl) (fun _ => (R_mv rfl)) (eQ 1 rfl rfl (wn rfl) (fun _ => (R_mv rfl)) (eQ 2 rfl rfl (wn rfl) (fun _ => (R_neq rfl rfl)) (eQ 3 rfl rfl (wn rfl) (fun _ => (R_mv rfl)) ?_)))
                replace h := h w_11 hA
                rcases Bool.eq_false_or_eq_true (x04 != x06) with hg4 | hg4
                · replace h := h.1 hg4
                  refine eN 4 rfl (fun w => el_quiet rfl w) (wtF rfl rfl rfl (bg hg4) rfl) (eN 5 rfl (fun w => el_quiet rfl w) (wtF rfl rfl rfl (bg hg4) rfl) (eN 6 rfl (fun w => el_quiet rfl w) (wtF rfl rfl rfl (bg hg4) rfl) (eQ 7 rfl rfl (wn rfl) (fun _ => (R_pickT (bg hg4) rfl)) (eQ 8 rfl rfl (wn rfl) (fun _ => (R_mv rfl)) (eN 9 rfl (fun w => el_quiet rfl w) (wtF rfl rfl rfl rfl rfl) (eN 10 rfl (fun w => el_quiet rfl w) (wtF rfl rfl rfl rfl rfl) (eN 11 rfl (fun w => el_quiet rfl w) (wtF rfl rfl rfl rfl rfl) (eN 12 rfl (fun w => el_quiet rfl w) (wtF rfl rfl rfl rfl rfl) (eN 13 rfl (fun w => el_quiet rfl w) (wtF rfl rfl rfl rfl rfl) (eQ 14 rfl rfl (wn rfl) (fun _ => (R_pickT rfl rfl)) (eQ 15 rfl rfl (wn rfl) (fun _ => (R_mv rfl)) (eN 16 rfl (fun w => el_quiet rfl w) (wtF rfl rfl rfl rfl rfl) (eN 17 rfl (fun w => el_quiet rfl w) (wtF rfl rfl rfl rfl rfl) (eN 18 rfl (fun w => el_loud rfl (Same.refl _ w)) (wtF rfl rfl rfl rfl rfl) ?_))))))))))))))
                  refine eN 19 rfl (fun w => el_quiet rfl w) (wtF rfl rfl rfl rfl rfl) (eQ 20 rfl rfl (wn rfl) (fun _ => (R_pickT rfl rfl)) (eQ 21 rfl rfl (wn rfl) (fun _ => (R_mv rfl)) (eN 22 rfl (fun w => el_quiet rfl w) (wtF rfl rfl rfl rfl rfl) (eN 23 rfl (fun w => el_quiet rfl w) (wtF rfl rfl rfl rfl rfl) (eN 24 rfl (fun w => el_quiet rfl w) (wtF rfl rfl rfl rfl rfl) (eN 25 rfl (fun w => el_loud rfl (Same.refl _ w)) (wtF rfl rfl rfl rfl rfl) (eN 26 rfl (fun w => el_quiet rfl w) (wtF rfl rfl rfl rfl rfl) (eN 27 rfl (fun w => el_quiet rfl w) (wtF rfl rfl rfl rfl rfl) (eN 28 rfl (fun w => el_quiet rfl w) (wtF rfl rfl rfl rfl rfl) (eN 29 rfl (fun w => el_loud rfl (Same.refl _ w)) (wtF rfl rfl rfl rfl rfl) (eN 30 rfl (fun w => el_loud rfl (Same.refl _ w)) (wtF rfl rfl rfl rfl rfl) (eN 31 rfl (fun w => el_quiet rfl w) (wtF rfl rfl rfl rfl rfl) (eQ 32 rfl rfl (wn rfl) (fun _ => (R_pickT rfl rfl)) (eQ 33 rfl rfl (wn rfl) (fun _ => (R_mv rfl)) ?_))))))))))))))
                  refine eN 34 rfl (fun w => el_quiet rfl w) (wtF rfl rfl rfl rfl rfl) (eN 35 rfl (fun w => el_loud rfl (Same.refl _ w)) (wtF rfl rfl rfl rfl rfl) (eN 36 rfl (fun w => el_quiet rfl w) (wtF rfl rfl rfl rfl rfl) (eN 37 rfl (fun w => el_loud rfl (Same.refl _ w)) (wtF rfl rfl rfl rfl rfl) (eN 38 rfl (fun w => el_quiet rfl w) (wtF rfl rfl rfl rfl rfl) (eQ 39 rfl rfl (wn rfl) (fun _ => (R_pickT rfl rfl)) (e_done (by kernel_rfl) ?_))))))
                  exact then_normal ⟨_, fr_sub ⟨rfl, rfl, rfl, rfl, rfl, trivial⟩, h⟩
                · replace h := h.2 hg4
                  refine eQ 4 rfl rfl (wtF rfl rfl rfl (bg hg4) rfl) (fun _ => (R_mv rfl)) (eQ 5 rfl rfl (wtF rfl rfl rfl (bg hg4) rfl) (fun _ => (R_mv rfl)) (eQ 6 rfl rfl (wtF rfl rfl rfl (bg hg4) rfl) (fun _ => (R_neq rfl rfl)) (eQ 7 rfl rfl (wn rfl) (fun _ => (R_pickF (bg hg4) rfl)) (eQ 8 rfl rfl (wn rfl) (fun _ => (R_mv rfl)) ?_))))
                  rcases Bool.eq_false_or_eq_true (x15 != x17) with hg5 | hg5
                  · replace h := h.1 hg5
                    refine eN 9 rfl (fun w => el_quiet rfl w) (wtF rfl rfl rfl (bg hg5) rfl) (eN 10 rfl (fun w => el_quiet rfl w) (wtF rfl rfl rfl (bg hg5) rfl) (eN 11 rfl (fun w => el_quiet rfl w) (wtF rfl rfl rfl (bg hg5) rfl) (eN 12 rfl (fun w => el_quiet rfl w) (wtF rfl rfl rfl (bg hg5) rfl) (eN 13 rfl (fun w => el_quiet rfl w) (wtF rfl rfl rfl (bg hg5) rfl) (eQ 14 rfl rfl (wn rfl) (fun _ => (R_pickT (bg hg5) rfl)) (eQ 15 rfl rfl (wn rfl) (fun _ => (R_mv rfl)) (eN 16 rfl (fun w => el_quiet rfl w) (wtF rfl rfl rfl rfl rfl) (eN 17 rfl (fun w => el_quiet rfl w) (wtF rfl rfl rfl rfl rfl) (eN 18 rfl (fun w => el_loud rfl (Same.refl _ w)) (wtF rfl rfl rfl rfl rfl) (eN 19 rfl (fun w => el_quiet rfl w) (wtF rfl rfl rfl rfl rfl) (eQ 20 rfl rfl (wn rfl) (fun _ => (R_pickT rfl rfl)) (eQ 21 rfl rfl (wn rfl) (fun _ => (R_mv rfl)) (eN 22 rfl (fun w => el_quiet rfl w) (wtF rfl rfl rfl rfl rfl) (eN 23 rfl (fun w => el_quiet rfl w) (wtF rfl rfl rfl rfl rfl) ?_))))))))))))))
                    refine eN 24 rfl (fun w => el_quiet rfl w) (wtF rfl rfl rfl rfl rfl) (eN 25 rfl (fun w => el_loud rfl (Same.refl _ w)) (wtF rfl rfl rfl rfl rfl) (eN 26 rfl (fun w => el_quiet rfl w) (wtF rfl rfl rfl rfl rfl) (eN 27 rfl (fun w => el_quiet rfl w) (wtF rfl rfl rfl rfl rfl) (eN 28 rfl (fun w => el_quiet rfl w) (wtF rfl rfl rfl rfl rfl) (eN 29 rfl (fun w => el_loud rfl (Same.refl _ w)) (wtF rfl rfl rfl rfl rfl) (eN 30 rfl (fun w => el_loud rfl (Same.refl _ w)) (wtF rfl rfl rfl rfl rfl) (eN 31 rfl (fun w => el_quiet rfl w) (wtF rfl rfl rfl rfl rfl) (eQ 32 rfl rfl (wn rfl) (fun _ => (R_pickT rfl rfl)) (eQ 33 rfl rfl (wn rfl) (fun _ => (R_mv rfl)) (eN 34 rfl (fun w => el_quiet rfl w) (wtF rfl rfl rfl rfl rfl) (eN 35 rfl (fun w => el_loud rfl (Same.refl _ w)) (wtF rfl rfl rfl rfl rfl) (eN 36 rfl (fun w => el_quiet rfl w) (wtF rfl rfl rfl rfl rfl) (eN 37 rfl (fun w => el_loud rfl (Same.refl _ w)) (wtF rfl rfl rfl rfl rfl) (eN 38 rfl (fun w => el_quiet rfl w) (wtF rfl rfl rfl rfl rfl) ?_))))))))))))))
                    refine eQ 39 rfl rfl (wn rfl) (fun _ => (R_pickT rfl rfl)) (e_done (by kernel_rfl) ?_)
                    exact then_normal ⟨_, fr_sub ⟨rfl, rfl, rfl, rfl, rfl, trivial⟩, h⟩
                  · replace h := h.2 hg5
                    refine eQ 9 rfl rfl (wtF rfl rfl rfl (bg hg5) rfl) (fun _ => (R_mv rfl)) ?_
                    obtain ⟨bs, hx7, h⟩ := h
                    refine eL 10 [13, 14, 15, 16, 17, 18, 19, 20, 21, 22, 23, 24, 25, 26, 27, 28, 29, 30, 31, 32, 33, 34, 35, 36, 37, 38, 39] [0, 1, 2, 3, 4, 5, 6, 7, 8, 9] (fun w' => Bytes w' x24 bs) (v := .string (⟨List.toArray bs⟩ : ByteArray)) rfl rfl (el_stable (b := (Sl.blk x24)) (List.forall_mem_cons.2 ⟨.inl (by simp), List.forall_mem_cons.2 ⟨.inl (by simp), List.forall_mem_cons.2 ⟨.inl (by simp), List.forall_mem_cons.2 ⟨.inl (by simp), List.forall_mem_cons.2 ⟨.inl (by simp), List.forall_mem_cons.2 ⟨.inl (by simp), List.forall_mem_nil _⟩⟩⟩⟩⟩⟩) keep_bytes) hx7 (y_val (wtF rfl rfl rfl (bg hg5) rfl) (fun w' hw' => (R_bytesStr (sl := x24) Try.underlying27 Try.underlying5 Try.underlying9 rfl hw'))) (eQ 11 rfl rfl (wtF rfl rfl rfl (bg hg5) rfl) (fun _ => (R_mv rfl)) ?_)
                    obtain ⟨bs1, hx8, h⟩ := h
                    refine eL 12 [13, 14, 15, 16, 17, 18, 19, 20, 21, 22, 23, 24, 25, 26, 27, 28, 29, 30, 31, 32, 33, 34, 35, 36, 37, 38, 39] [0, 1, 2, 3, 4, 5, 6, 7, 8, 9, 10, 11] (fun w' => Bytes w' x26 bs1) (v := .string (⟨List.toArray bs1⟩ : ByteArray)) rfl rfl (el_stable (b := (Sl.blk x26)) (List.forall_mem_cons.2 ⟨.inl (by simp), List.forall_mem_cons.2 ⟨.inl (by simp), List.forall_mem_cons.2 ⟨.inl (by simp), List.forall_mem_cons.2 ⟨.inl (by simp), List.forall_mem_cons.2 ⟨.inl (by simp), List.forall_mem_cons.2 ⟨.inl (by simp), List.forall_mem_nil _⟩⟩⟩⟩⟩⟩) keep_bytes) hx8 (y_val (wtF rfl rfl rfl (bg hg5) rfl) (fun w' hw' => (R_bytesStr (sl := x26) Try.underlying27 Try.underlying5 Try.underlying9 rfl hw'))) (eQ 13 rfl rfl (wtF rfl rfl rfl (bg hg5) rfl) (fun _ => (R_sneq rfl rfl)) (eQ 14 rfl rfl (wn rfl) (fun _ => (R_pickF (bg hg5) rfl)) (eQ 15 rfl rfl (wn rfl) (fun _ => (R_mv rfl)) ?_)))
                    rcases Bool.eq_false_or_eq_true (!((⟨List.toArray bs⟩ : ByteArray).toList == (⟨List.toArray bs1⟩ : ByteArray).toList)) with hg6 | hg6
                    · replace h := h.1 hg6
                      refine eN 16 rfl (fun w => el_quiet rfl w) (wtF rfl rfl rfl (bg hg6) rfl) (eN 17 rfl (fun w => el_quiet rfl w) (wtF rfl rfl rfl (bg hg6) rfl) (eN 18 rfl (fun w => el_loud rfl (Same.refl _ w)) (wtF rfl rfl rfl (bg hg6) rfl) (eN 19 rfl (fun w => el_quiet rfl w) (wtF rfl rfl rfl (bg hg6) rfl) (eQ 20 rfl rfl (wn rfl) (fun _ => (R_pickT (bg hg6) rfl)) (eQ 21 rfl rfl (wn rfl) (fun _ => (R_mv rfl)) (eN 22 rfl (fun w => el_quiet rfl w) (wtF rfl rfl rfl rfl rfl) (eN 23 rfl (fun w => el_quiet rfl w) (wtF rfl rfl rfl rfl rfl) (eN 24 rfl (fun w => el_quiet rfl w) (wtF rfl rfl rfl rfl rfl) (eN 25 rfl (fun w => el_loud rfl (Same.refl _ w)) (wtF rfl rfl rfl rfl rfl) (eN 26 rfl (fun w => el_quiet rfl w) (wtF rfl rfl rfl rfl rfl) (eN 27 rfl (fun w => el_quiet rfl w) (wtF rfl rfl rfl rfl rfl) (eN 28 rfl (fun w => el_quiet rfl w) (wtF rfl rfl rfl rfl rfl) (eN 29 rfl (fun w => el_loud rfl (Same.refl _ w)) (wtF rfl rfl rfl rfl rfl) (eN 30 rfl (fun w => el_loud rfl (Same.refl _ w)) (wtF rfl rfl rfl rfl rfl) ?_))))))))))))))
                      refine eN 31 rfl (fun w => el_quiet rfl w) (wtF rfl rfl rfl rfl rfl) (eQ 32 rfl rfl (wn rfl) (fun _ => (R_pickT rfl rfl)) (eQ 33 rfl rfl (wn rfl) (fun _ => (R_mv rfl)) (eN 34 rfl (fun w => el_quiet rfl w) (wtF rfl rfl rfl rfl rfl) (eN 35 rfl (fun w => el_loud rfl (Same.refl _ w)) (wtF rfl rfl rfl rfl rfl) (eN 36 rfl (fun w => el_quiet rfl w) (wtF rfl rfl rfl rfl rfl) (eN 37 rfl (fun w => el_loud rfl (Same.refl _ w)) (wtF rfl rfl rfl rfl rfl) (eN 38 rfl (fun w => el_quiet rfl w) (wtF rfl rfl rfl rfl rfl) (eQ 39 rfl rfl (wn rfl) (fun _ => (R_pickT rfl rfl)) (e_done (by kernel_rfl) ?_)))))))))
                      exact then_normal ⟨_, fr_sub ⟨rfl, rfl, rfl, rfl, rfl, trivial⟩, h⟩
                    · replace h := h.2 hg6
                      refine eQ 16 rfl rfl (wtF rfl rfl rfl (bg hg6) rfl) (fun _ => (R_mv rfl)) (eQ 17 rfl rfl (wtF rfl rfl rfl (bg hg6) rfl) (fun _ => (R_mv rfl)) (e_one 18 rfl (by kernel_rfl) (wtF rfl rfl rfl (bg hg6) rfl) ?_))
                      refine O_enter (args := #[Sl.v x33, Sl.v x35]) (R_enter Try.call21 rfl) (h.mono ?_)
                      clear h
                      rintro _ w_12 ⟨x7, rfl, h⟩
                      refine ⟨_, rfl, ?_⟩
                      refine ⟨el_loud rfl same_nil, ?_⟩
                      refine eQ 19 rfl rfl (wtF rfl rfl rfl (bg hg6) rfl) (fun _ => (R_not rfl)) (eQ 20 rfl rfl (wn rfl) (fun _ => (R_pickF (bg hg6) rfl)) (eQ 21 rfl rfl (wn rfl) (fun _ => (R_mv rfl)) ?_))
                      rcases Bool.eq_false_or_eq_true (!x7) with hg7 | hg7
                      · replace h := h.1 hg7
                        refine eN 22 rfl (fun w => el_quiet rfl w) (wtF rfl rfl rfl (bg hg7) rfl) (eN 23 rfl (fun w => el_quiet rfl w) (wtF rfl rfl rfl (bg hg7) rfl) (eN 24 rfl (fun w => el_quiet rfl w) (wtF rfl rfl rfl (bg hg7) rfl) (eN 25 rfl (fun w => el_loud rfl (Same.refl _ w)) (wtF rfl rfl rfl (bg hg7) rfl) (eN 26 rfl (fun w => el_quiet rfl w) (wtF rfl rfl rfl (bg hg7) rfl) (eN 27 rfl (fun w => el_quiet rfl w) (wtF rfl rfl rfl (bg hg7) rfl) (eN 28 rfl (fun w => el_quiet rfl w) (wtF rfl rfl rfl (bg hg7) rfl) (eN 29 rfl (fun w => el_loud rfl (Same.refl _ w)) (wtF rfl rfl rfl (bg hg7) rfl) (eN 30 rfl (fun w => el_loud rfl (Same.refl _ w)) (wtF rfl rfl rfl (bg hg7) rfl) (eN 31 rfl (fun w => el_quiet rfl w) (wtF rfl rfl rfl (bg hg7) rfl) (eQ 32 rfl rfl (wn rfl) (fun _ => (R_pickT (bg hg7) rfl)) (eQ 33 rfl rfl (wn rfl) (fun _ => (R_mv rfl)) (eN 34 rfl (fun w => el_quiet rfl w) (wtF rfl rfl rfl rfl rfl) (eN 35 rfl (fun w => el_loud rfl (Same.refl _ w)) (wtF rfl rfl rfl rfl rfl) (eN 36 rfl (fun w => el_quiet rfl w) (wtF rfl rfl rfl rfl rfl) ?_))))))))))))))
                        refine eN 37 rfl (fun w => el_loud rfl (Same.refl _ w)) (wtF rfl rfl rfl rfl rfl) (eN 38 rfl (fun w => el_quiet rfl w) (wtF rfl rfl rfl rfl rfl) (eQ 39 rfl rfl (wn rfl) (fun _ => (R_pickT rfl rfl)) (e_done (by kernel_rfl) ?_)))
                        exact then_normal ⟨_, fr_sub ⟨rfl, rfl, rfl, rfl, rfl, trivial⟩, h⟩
                      · replace h := h.2 hg7
                        refine eQ 22 rfl rfl (wtF rfl rfl rfl (bg hg7) rfl) (fun _ => (R_mv rfl)) ?_
                        obtain ⟨ad4, hx9, h⟩ := h
                        refine eQ 23 (v := .pointer (some ad4)) rfl rfl (wtF rfl rfl rfl (bg hg7) rfl) (fun _ => (R_nil (pg hx9))) (eQ 24 (v := .pointer (some (Addr.add ad4 0))) rfl rfl (wtF rfl rfl rfl (bg hg7) rfl) (fun _ => (R_field (Try.runUnderlying47 _) rfl (Try.sizeOf45 _) rfl rfl)) (eQ 26 rfl rfl (wtF rfl rfl rfl (bg hg7) rfl) (fun _ => (R_mv rfl)) ?_))
                        obtain ⟨ad5, hx10, h⟩ := h
                        refine eQ 27 (v := .pointer (some ad5)) rfl rfl (wtF rfl rfl rfl (bg hg7) rfl) (fun _ => (R_nil (pg hx10))) (eQ 28 (v := .pointer (some (Addr.add ad5 0))) rfl rfl (wtF rfl rfl rfl (bg hg7) rfl) (fun _ => (R_field (Try.runUnderlying47 _) rfl (Try.sizeOf45 _) rfl rfl)) (e_one 25 rfl (by kernel_rfl) (wtF rfl rfl rfl (bg hg7) rfl) ?_))
                        refine O_enter (args := #[.pointer (some (Addr.add ad4 0))]) (R_enter Try.call14 rfl) (h.mono ?_)
                        clear h
                        rintro _ w_13 ⟨x8, rfl, h⟩
                        refine ⟨_, rfl, ?_⟩
                        refine ⟨el_loud rfl same_nil, ?_⟩
                        refine e_one 29 rfl (by kernel_rfl) (wtF rfl rfl rfl (bg hg7) rfl) ?_
                        refine O_enter (args := #[.pointer (some (Addr.add ad5 0))]) (R_enter Try.call14 rfl) (h.mono ?_)
                        clear h
                        rintro _ w_14 ⟨x9, rfl, h⟩
                        refine ⟨_, rfl, ?_⟩
                        refine ⟨el_loud rfl same_nil, ?_⟩
                        refine e_one 30 rfl (by kernel_rfl) (wtF rfl rfl rfl (bg hg7) rfl) ?_
                        refine O_enter (args := #[Sl.v x8, Sl.v x9]) (R_enter Try.call19 rfl) (h.mono ?_)
                        clear h
                        rintro _ w_15 ⟨x10, rfl, h⟩
                        refine ⟨_, rfl, ?_⟩
                        refine ⟨el_loud rfl same_nil, ?_⟩
                        refine eQ 31 rfl rfl (wtF rfl rfl rfl (bg hg7) rfl) (fun _ => (R_not rfl)) (eQ 32 rfl rfl (wn rfl) (fun _ => (R_pickF (bg hg7) rfl)) (eQ 33 rfl rfl (wn rfl) (fun _ => (R_mv rfl)) ?_))
                        rcases Bool.eq_false_or_eq_true (!x10) with hg8 | hg8
                        · replace h := h.1 hg8
                          refine eN 34 rfl (fun w => el_quiet rfl w) (wtF rfl rfl rfl (bg hg8) rfl) (eN 35 rfl (fun w => el_loud rfl (Same.refl _ w)) (wtF rfl rfl rfl (bg hg8) rfl) (eN 36 rfl (fun w => el_quiet rfl w) (wtF rfl rfl rfl (bg hg8) rfl) (eN 37 rfl (fun w => el_loud rfl (Same.refl _ w)) (wtF rfl rfl rfl (bg hg8) rfl) (eN 38 rfl (fun w => el_quiet rfl w) (wtF rfl rfl rfl (bg hg8) rfl) (eQ 39 rfl rfl (wn rfl) (fun _ => (R_pickT (bg hg8) rfl)) (e_done (by kernel_rfl) ?_))))))
                          exact then_normal ⟨_, fr_sub ⟨rfl, rfl, rfl, rfl, rfl, trivial⟩, h⟩
                        · replace h := h.2 hg8
                          refine eQ 34 rfl rfl (wtF rfl rfl rfl (bg hg8) rfl) (fun _ => (R_mv rfl)) (eQ 36 rfl rfl (wtF rfl rfl rfl (bg hg8) rfl) (fun _ => (R_mv rfl)) (e_one 35 rfl (by kernel_rfl) (wtF rfl rfl rfl (bg hg8) rfl) ?_))
                          refine O_enter (args := #[.pointer x2]) (R_enter Try.call15 rfl) (h.mono ?_)
                          clear h
                          rintro _ w_16 ⟨x18, rfl, h⟩
                          refine ⟨_, rfl, ?_⟩
                          refine ⟨el_loud rfl same_nil, ?_⟩
                          refine e_one 37 rfl (by kernel_rfl) (wtF rfl rfl rfl (bg hg8) rfl) ?_
                          refine O_enter (args := #[.pointer x02]) (R_enter Try.call15 rfl) (h.mono ?_)
                          clear h
                          rintro _ w_17 ⟨x19, rfl, h⟩
                          refine ⟨_, rfl, ?_⟩
                          refine ⟨el_loud rfl same_nil, ?_⟩
                          refine eQ 38 rfl rfl (wtF rfl rfl rfl (bg hg8) rfl) (fun _ => (R_neq rfl rfl)) (eQ 39 rfl rfl (wn rfl) (fun _ => (R_pickF (bg hg8) rfl)) (e_done (by kernel_rfl) ?_))
                          exact then_normal ⟨_, fr_sub ⟨rfl, rfl, rfl, rfl, rfl, trivial⟩, h⟩
            · replace h := h.2 hc3
              refine wp_exit (then_exit (then_exit (block_hit (then_normal (wp_seq (wp_region_lit (sv (R_as rfl) (wpList_nil (then_normal (wp_ret ?_))))))))))
              exact ret1 Try.results7 ⟨rfl, trivial⟩ h

/-- what is to be shown of a call of pavaneref19.Same -/
def pavaneref19_Same_vc (a_ : Sl) (b : Sl) (R : Value → World → Prop) (w : World) : Prop :=
  ((((↑(Sl.n a_) : Int) != (↑(Sl.n b) : Int)) = true →
  R (.bool false) w) ∧
  (((↑(Sl.n a_) : Int) != (↑(Sl.n b) : Int)) = false →
  ∃ (I_ : Nat → Int → World → Prop) (nv1 : Nat), I_ nv1 0 w ∧
  ∀ (nv : Nat) (i : Int) (w_ : World), I_ nv i w_ →
  (((decide (i < (↑(Sl.n a_) : Int))) = true →
  ∃ ad : Addr, SlAt a_ i 4 ad ∧
  ∃ x1 : Int, Cells w_ (Addr.add ad 0) [.int .i64 x1] ∧
  ∃ ad1 : Addr, SlAt b i 4 ad1 ∧
  ∃ x2 : Int, Cells w_ (Addr.add ad1 0) [.int .i64 x2] ∧
  ∃ ad2 : Addr, ((x1 != x2) = false → SlAt a_ i 4 ad2) ∧
  ∃ x3 : Int, ((x1 != x2) = false → Cells w_ (Addr.add ad2 1) [.int .i64 x3]) ∧
  ∃ ad3 : Addr, ((x1 != x2) = false → SlAt b i 4 ad3) ∧
  ∃ x4 : Int, ((x1 != x2) = false → Cells w_ (Addr.add ad3 1) [.int .i64 x4]) ∧
  ∃ ad4 : Addr, (((x1 != x2) || (x3 != x4)) = false → SlAt a_ i 4 ad4) ∧
  ∃ x5 : Sl, (((x1 != x2) || (x3 != x4)) = false → Cells w_ (Addr.add ad4 2) [Sl.v x5]) ∧
  ∃ bs : List UInt8, (((x1 != x2) || (x3 != x4)) = false → Bytes w_ x5 bs) ∧
  ∃ ad5 : Addr, (((x1 != x2) || (x3 != x4)) = false → SlAt b i 4 ad5) ∧
  ∃ x6 : Sl, (((x1 != x2) || (x3 != x4)) = false → Cells w_ (Addr.add ad5 2) [Sl.v x6]) ∧
  ∃ bs1 : List UInt8, (((x1 != x2) || (x3 != x4)) = false → Bytes w_ x6 bs1) ∧
  ∃ ad6 : Addr, ((((x1 != x2) || (x3 != x4)) || (!((⟨List.toArray bs⟩ : ByteArray).toList == (⟨List.toArray bs1⟩ : ByteArray).toList))) = false → SlAt a_ i 4 ad6) ∧
  ∃ x7 : Int, ((((x1 != x2) || (x3 != x4)) || (!((⟨List.toArray bs⟩ : ByteArray).toList == (⟨List.toArray bs1⟩ : ByteArray).toList))) = false → Cells w_ (Addr.add ad6 3) [.int .i64 x7]) ∧
  ∃ ad7 : Addr, ((((x1 != x2) || (x3 != x4)) || (!((⟨List.toArray bs⟩ : ByteArray).toList == (⟨List.toArray bs1⟩ : ByteArray).toList))) = false → SlAt b i 4 ad7) ∧
  ∃ x8 : Int, ((((x1 != x2) || (x3 != x4)) || (!((⟨List.toArray bs⟩ : ByteArray).toList == (⟨List.toArray bs1⟩ : ByteArray).toList))) = false → Cells w_ (Addr.add ad7 3) [.int .i64 x8]) ∧
  ((((((x1 != x2) || (x3 != x4)) || (!((⟨List.toArray bs⟩ : ByteArray).toList == (⟨List.toArray bs1⟩ : ByteArray).toList))) || (x7 != x8)) = true →
  ∀ (w_1 : World), Only [] w_ w_1 →
  R (.bool false) w_1) ∧
  (((((x1 != x2) || (x3 != x4)) || (!((⟨List.toArray bs⟩ : ByteArray).toList == (⟨List.toArray bs1⟩ : ByteArray).toList))) || (x7 != x8)) = false →
  ∀ (w_1 : World), Only [] w_ w_1 →
  ∃ nv2 : Nat, nv2 < nv ∧ I_ nv2 (IntKind.i64.wrap (i + 1)) w_1))) ∧
  ((decide (i < (↑(Sl.n a_) : Int))) = false →
  R (.bool true) w_))))
theorem pavaneref19_Same_wp (a_ : Sl) (b : Sl) (R : Value → World → Prop) (w : World) (h : pavaneref19_Same_vc a_ b R w) :
    Calls Try.prog 19 #[Sl.v a_, Sl.v b] w fun e w' => ∃ v, e = .returned v ∧ R v w' := by
  unfold pavaneref19_Same_vc at h
  refine callsF (l := [(0, Sl.v a_), (1, Sl.v b)]) Try.func19 rfl Try.ntmps19 (Nat.le_of_ble_eq_true rfl) rfl (wp_seq (wp_region_lit (sv (R_as rfl) (wpList_nil (then_normal (wp_seq (wp_seq (wp_region_lit (sv (R_mv rfl) (sv (R_len (s := a_) (Try.runUnderlying42 _) rfl) (sv (R_mv rfl) (sv (R_len (s := b) (Try.runUnderlying42 _) rfl) (sv (R_neq rfl rfl) (wpList_nil ?_))))))))))))))
  refine then_normal ?_
  refine C_split (t := ((↑(Sl.n a_) : Int) != (↑(Sl.n b) : Int))) rfl (fun hc => ?_) (fun hc => ?_)
  · replace h := h.1 hc
    refine wp_seq (wp_region_lit (sv (R_as rfl) (wpList_nil (then_normal (wp_ret (then_ret ?_))))))
    exact ret1 Try.results19 ⟨rfl, trivial⟩ h
  · replace h := h.2 hc
    refine wp_skip (then_normal (wp_seq (wp_seq (wp_region_lit (sv (R_as rfl) (wpList_nil (then_normal (wp_block ?_))))))))
    obtain ⟨I_, nv1, h0, hI⟩ := h
    refine wp_loop_ghost (fun nv' a' w' => ∃ i : Int, (∃ us, a' = fr 69 us [(0, Sl.v a_), (1, Sl.v b), (5, .int .i64 i)]) ∧ I_ nv' i w') nv1 ?_ ?_
    · exact ⟨_, fr_sub ⟨rfl, rfl, rfl, trivial⟩, h0⟩
    · clear h0
      rintro nv _ w_ ⟨i, ⟨us, rfl⟩, h⟩
      replace h := hI _ _ _ h
      refine wp_seq (wp_seq (wp_region_lit (sv (R_mv rfl) (sv (R_mv rfl) (sv (R_len (s := a_) (Try.runUnderlying42 _) rfl) (sv (R_lss rfl rfl) (wpList_nil (then_normal ?_))))))))
      refine C_split (t := (decide (i < (↑(Sl.n a_) : Int)))) rfl (fun hc1 => ?_) (fun hc1 => ?_)
      · replace h := h.1 hc1
        refine wp_skip (then_normal (wp_seq (wp_block (wp_seq ?_))))
        obtain ⟨ad, hx, h⟩ := h
        obtain ⟨x1, hx1, h⟩ := h
        obtain ⟨ad1, hx2, h⟩ := h
        obtain ⟨x2, hx3, h⟩ := h
        obtain ⟨ad2, hx4, h⟩ := h
        obtain ⟨x3, hx5, h⟩ := h
        obtain ⟨ad3, hx6, h⟩ := h
        obtain ⟨x4, hx7, h⟩ := h
        obtain ⟨ad4, hx8, h⟩ := h
        obtain ⟨x5, hx9, h⟩ := h
        obtain ⟨bs, hx10, h⟩ := h
        obtain ⟨ad5, hx11, h⟩ := h
        obtain ⟨x6, hx12, h⟩ := h
        obtain ⟨bs1, hx13, h⟩ := h
        obtain ⟨ad6, hx14, h⟩ := h
        obtain ⟨x7, hx15, h⟩ := h
        obtain ⟨ad7, hx16, h⟩ := h
        obtain ⟨x8, hx17, h⟩ := h
        refine wp_region_quiet_lit Try.checked.mixed (by kernel_rfl) (qv (wn rfl) (fun nd => (R_mv rfl)) (qv (wn rfl) (fun nd => (R_mv rfl)) (qv (v := .pointer (some ad)) (wn rfl) (fun nd => (R_indexS (s := a_) (Try.runUnderlying42 _) (Try.sizeOf49 _) rfl rfl hx)) (qv (v := .pointer (some (Addr.add ad 0))) (wn rfl) (fun nd => (R_field (Try.runUnderlying49 _) rfl (Try.sizeOf3 _) rfl rfl)) (qv (v := .int .i64 x1) (wn rfl) (fun nd => (R_load1 (Try.isAgg3 _) rfl (Cells.one (q_cells hx1)))) (qv (wn rfl) (fun nd => (R_mv rfl)) (qv (wn rfl) (fun nd => (R_mv rfl)) (qv (v := .pointer (some ad1)) (wn rfl) (fun nd => (R_indexS (s := b) (Try.runUnderlying42 _) (Try.sizeOf49 _) rfl rfl hx2)) (qv (v := .pointer (some (Addr.add ad1 0))) (wn rfl) (fun nd => (R_field (Try.runUnderlying49 _) rfl (Try.sizeOf3 _) rfl rfl)) (qv (v := .int .i64 x2) (wn rfl) (fun nd => (R_load1 (Try.isAgg3 _) rfl (Cells.one (q_cells hx3)))) (qv (wn rfl) (fun nd => (R_neq rfl rfl)) (qv (wn rfl) (fun nd => (R_mv rfl)) ?_))))))))))))
        refine qcutF 12 69 [(0, Sl.v a_), (1, Sl.v b), (5, .int .i64 i), (40, .bool ((x1 != x2) || (x3 != x4)))] ?_ ?_
        · simp only [List.take_succ_cons, List.take_zero]
          rcases Bool.eq_false_or_eq_true (x1 != x2) with hg | hg
          · refine qno (wtF rfl rfl rfl (bg hg) rfl) (qno (wtF rfl rfl rfl (bg hg) rfl) (qno (wtF rfl rfl rfl (bg hg) rfl) (qno (wtF rfl rfl rfl (bg hg) rfl) (qno (wtF rfl rfl rfl (bg hg) rfl) (qno (wtF rfl rfl rfl (bg hg) rfl) (qno (wtF rfl rfl rfl (bg hg) rfl) (qno (wtF rfl rfl rfl (bg hg) rfl) (qno (wtF rfl rfl rfl (bg hg) rfl) (qno (wtF rfl rfl rfl (bg hg) rfl) (qno (wtF rfl rfl rfl (bg hg) rfl) (qv (wn rfl) (fun nd => (R_pickT (bg hg) rfl)) (wpQuiet_nil ?_))))))))))))
            exact fr_sub ⟨rfl, rfl, rfl, (by rw [hg]; rfl), trivial⟩
          · refine qv (wtF rfl rfl rfl (bg hg) rfl) (fun nd => (R_mv rfl)) (qv (wtF rfl rfl rfl (bg hg) rfl) (fun nd => (R_mv rfl)) (qv (v := .pointer (some ad2)) (wtF rfl rfl rfl (bg hg) rfl) (fun nd => (R_indexS (s := a_) (Try.runUnderlying42 _) (Try.sizeOf49 _) rfl rfl (hx4 hg))) (qv (v := .pointer (some (Addr.add ad2 1))) (wtF rfl rfl rfl (bg hg) rfl) (fun nd => (R_field (Try.runUnderlying49 _) rfl (Try.sizeOf3 _) rfl rfl)) (qv (v := .int .i64 x3) (wtF rfl rfl rfl (bg hg) rfl) (fun nd => (R_load1 (Try.isAgg3 _) rfl (Cells.one (q_cells (hx5 hg))))) (qv (wtF rfl rfl rfl (bg hg) rfl) (fun nd => (R_mv rfl)) (qv (wtF rfl rfl rfl (bg hg) rfl) (fun nd => (R_mv rfl)) (qv (v := .pointer (some ad3)) (wtF rfl rfl rfl (bg hg) rfl) (fun nd => (R_indexS (s := b) (Try.runUnderlying42 _) (Try.sizeOf49 _) rfl rfl (hx6 hg))) (qv (v := .pointer (some (Addr.add ad3 1))) (wtF rfl rfl rfl (bg hg) rfl) (fun nd => (R_field (Try.runUnderlying49 _) rfl (Try.sizeOf3 _) rfl rfl)) (qv (v := .int .i64 x4) (wtF rfl rfl rfl (bg hg) rfl) (fun nd => (R_load1 (Try.isAgg3 _) rfl (Cells.one (q_cells (hx7 hg))))) (qv (wtF rfl rfl rfl (bg hg) rfl) (fun nd => (R_neq rfl rfl)) (qv (wn rfl) (fun nd => (R_pickF (bg hg) rfl)) (wpQuiet_nil ?_))))))))))))
            exact fr_sub ⟨rfl, rfl, rfl, (by rw [hg]; rfl), trivial⟩
        intro us
        simp only [List.drop_succ_cons, List.drop_zero]
        refine qv (wn rfl) (fun nd => (R_mv rfl)) ?_
        refine qcutF 14 69 [(0, Sl.v a_), (1, Sl.v b), (5, .int .i64 i), (55, .bool (((x1 != x2) || (x3 != x4)) || (!((⟨List.toArray bs⟩ : ByteArray).toList == (⟨List.toArray bs1⟩ : ByteArray).toList))))] ?_ ?_
        · simp only [List.take_succ_cons, List.take_zero]
          rcases Bool.eq_false_or_eq_true ((x1 != x2) || (x3 != x4)) with hg1 | hg1
          · refine qno (wtF rfl rfl rfl (bg hg1) rfl) (qno (wtF rfl rfl rfl (bg hg1) rfl) (qno (wtF rfl rfl rfl (bg hg1) rfl) (qno (wtF rfl rfl rfl (bg hg1) rfl) (qno (wtF rfl rfl rfl (bg hg1) rfl) (qno (wtF rfl rfl rfl (bg hg1) rfl) (qno (wtF rfl rfl rfl (bg hg1) rfl) (qno (wtF rfl rfl rfl (bg hg1) rfl) (qno (wtF rfl rfl rfl (bg hg1) rfl) (qno (wtF rfl rfl rfl (bg hg1) rfl) (qno (wtF rfl rfl rfl (bg hg1) rfl) (qno (wtF rfl rfl rfl (bg hg1) rfl) (qno (wtF rfl rfl rfl (bg hg1) rfl) (qv (wn rfl) (fun nd => (R_pickT (bg hg1) rfl)) (wpQuiet_nil ?_))))))))))))))
            exact fr_sub ⟨rfl, rfl, rfl, (by rw [hg1]; rfl), trivial⟩
          · refine qv (wtF rfl rfl rfl (bg hg1) rfl) (fun nd => (R_mv rfl)) (qv (wtF rfl rfl rfl (bg hg1) rfl) (fun nd => (R_mv rfl)) (qv (v := .pointer (some ad4)) (wtF rfl rfl rfl (bg hg1) rfl) (fun nd => (R_indexS (s := a_) (Try.runUnderlying42 _) (Try.sizeOf49 _) rfl rfl (hx8 hg1))) (qv (v := .pointer (some (Addr.add ad4 2))) (wtF rfl rfl rfl (bg hg1) rfl) (fun nd => (R_field (Try.runUnderlying49 _) rfl (Try.sizeOf27 _) rfl rfl)) (qv (v := Sl.v x5) (wtF rfl rfl rfl (bg hg1) rfl) (fun nd => (R_load1 (Try.isAgg27 _) rfl (Cells.one (q_cells (hx9 hg1))))) (qv (v := .string (⟨List.toArray bs⟩ : ByteArray)) (wtF rfl rfl rfl (bg hg1) rfl) (fun nd => (R_bytesStr (sl := x5) Try.underlying27 Try.underlying5 Try.underlying9 rfl (q_bytes (hx10 hg1)))) (qv (wtF rfl rfl rfl (bg hg1) rfl) (fun nd => (R_mv rfl)) (qv (wtF rfl rfl rfl (bg hg1) rfl) (fun nd => (R_mv rfl)) (qv (v := .pointer (some ad5)) (wtF rfl rfl rfl (bg hg1) rfl) (fun nd => (R_indexS (s := b) (Try.runUnderlying42 _) (Try.sizeOf49 _) rfl rfl (hx11 hg1))) (qv (v := .pointer (some (Addr.add ad5 2))) (wtF rfl rfl rfl (bg hg1) rfl) (fun nd => (R_field (Try.runUnderlying49 _) rfl (Try.sizeOf27 _) rfl rfl)) (qv (v := Sl.v x6) (wtF rfl rfl rfl (bg hg1) rfl) (fun nd => (R_load1 (Try.isAgg27 _) rfl (Cells.one (q_cells (hx12 hg1))))) (qv (v := .string (⟨List.toArray bs1⟩ : ByteArray)) (wtF rfl rfl rfl (bg hg1) rfl) (fun nd => (R_bytesStr (sl := x6) Try.underlying27 Try.underlying5 Try.underlying9 rfl (q_bytes (hx13 hg1)))) ?_)))))))))))
            refine qv (wtF rfl rfl rfl (bg hg1) rfl) (fun nd => (R_sneq rfl rfl)) (qv (wn rfl) (fun nd => (R_pickF (bg hg1) rfl)) (wpQuiet_nil ?_))
            exact fr_sub ⟨rfl, rfl, rfl, (by rw [hg1]; rfl), trivial⟩
        intro us
        simp only [List.drop_succ_cons, List.drop_zero]
        refine qv (wn rfl) (fun nd => (R_mv rfl)) ?_
        refine qcutF 12 69 [(0, Sl.v a_), (1, Sl.v b), (5, .int .i64 i), (68, .bool ((((x1 != x2) || (x3 != x4)) || (!((⟨List.toArray bs⟩ : ByteArray).toList == (⟨List.toArray bs1⟩ : ByteArray).toList))) || (x7 != x8)))] ?_ ?_
        · simp only [List.take_succ_cons, List.take_zero]
          rcases Bool.eq_false_or_eq_true (((x1 != x2) || (x3 != x4)) || (!((⟨List.toArray bs⟩ : ByteArray).toList == (⟨List.toArray bs1⟩ : ByteArray).toList))) with hg2 | hg2
          · refine qno (wtF rfl rfl rfl (bg hg2) rfl) (qno (wtF rfl rfl rfl (bg hg2) rfl) (qno (wtF rfl rfl rfl (bg hg2) rfl) (qno (wtF rfl rfl rfl (bg hg2) rfl) (qno (wtF rfl rfl rfl (bg hg2) rfl) (qno (wtF rfl rfl rfl (bg hg2) rfl) (qno (wtF rfl rfl rfl (bg hg2) rfl) (qno (wtF rfl rfl rfl (bg hg2) rfl) (qno (wtF rfl rfl rfl (bg hg2) rfl) (qno (wtF rfl rfl rfl (bg hg2) rfl) (qno (wtF rfl rfl rfl (bg hg2) rfl) (qv (wn rfl) (fun nd => (R_pickT (bg hg2) rfl)) (wpQuiet_nil ?_))))))))))))
            exact fr_sub ⟨rfl, rfl, rfl, (by rw [hg2]; rfl), trivial⟩
          · refine qv (wtF rfl rfl rfl (bg hg2) rfl) (fun nd => (R_mv rfl)) (qv (wtF rfl rfl rfl (bg hg2) rfl) (fun nd => (R_mv rfl)) (qv (v := .pointer (some ad6)) (wtF rfl rfl rfl (bg hg2) rfl) (fun nd => (R_indexS (s := a_) (Try.runUnderlying42 _) (Try.sizeOf49 _) rfl rfl (hx14 hg2))) (qv (v := .pointer (some (Addr.add ad6 3))) (wtF rfl rfl rfl (bg hg2) rfl) (fun nd => (R_field (Try.runUnderlying49 _) rfl (Try.sizeOf3 _) rfl rfl)) (qv (v := .int .i64 x7) (wtF rfl rfl rfl (bg hg2) rfl) (fun nd => (R_load1 (Try.isAgg3 _) rfl (Cells.one (q_cells (hx15 hg2))))) (qv (wtF rfl rfl rfl (bg hg2) rfl) (fun nd => (R_mv rfl)) (qv (wtF rfl rfl rfl (bg hg2) rfl) (fun nd => (R_mv rfl)) (qv (v := .pointer (some ad7)) (wtF rfl rfl rfl (bg hg2) rfl) (fun nd => (R_indexS (s := b) (Try.runUnderlying42 _) (Try.sizeOf49 _) rfl rfl (hx16 hg2))) (qv (v := .pointer (some (Addr.add ad7 3))) (wtF rfl rfl rfl (bg hg2) rfl) (fun nd => (R_field (Try.runUnderlying49 _) rfl (Try.sizeOf3 _) rfl rfl)) (qv (v := .int .i64 x8) (wtF rfl rfl rfl (bg hg2) rfl) (fun nd => (R_load1 (Try.isAgg3 _) rfl (Cells.one (q_cells (hx17 hg2))))) (qv (wtF rfl rfl rfl (bg hg2) rfl) (fun nd => (R_neq rfl rfl)) (qv (wn rfl) (fun nd => (R_pickF (bg hg2) rfl)) (wpQuiet_nil ?_))))))))))))
            exact fr_sub ⟨rfl, rfl, rfl, (by rw [hg2]; rfl), trivial⟩
        intro us
        simp only [List.drop_succ_cons, List.drop_zero]
        refine wpQuiet_nil ?_
        rintro _ ⟨nd, rfl⟩
        have hO := Only.drewN w_ nd
        generalize w_.drewN nd = w_1 at *
        have hA : Only [] w_ w_1 := hO
        refine then_normal ?_
        refine C_split (t := ((((x1 != x2) || (x3 != x4)) || (!((⟨List.toArray bs⟩ : ByteArray).toList == (⟨List.toArray bs1⟩ : ByteArray).toList))) || (x7 != x8))) rfl (fun hc2 => ?_) (fun hc2 => ?_)
        · replace h := h.1 hc2
          refine wp_seq (wp_region_lit (sv (R_as rfl) (wpList_nil (then_normal (wp_ret (block_ret (then_ret (then_ret (block_ret (then_ret ?_))))))))))
          replace h := h w_1 hA
          exact ret1 Try.results19 ⟨rfl, trivial⟩ h
        · replace h := h.2 hc2
          refine wp_skip (block_normal (then_normal (wp_region_lit (sv (R_mv rfl) (sv (R_add rfl rfl) (sv (R_as rfl) (wpList_nil (then_normal ?_))))))))
          replace h := h w_1 hA
          obtain ⟨nv2, hl, h⟩ := h
          exact ⟨nv2, hl, _, fr_sub ⟨rfl, rfl, rfl, trivial⟩, h⟩
      · replace h := h.2 hc1
        refine wp_exit (then_exit (then_exit (block_hit (then_normal (wp_seq (wp_region_lit (sv (R_as rfl) (wpList_nil (then_normal (wp_ret ?_))))))))))
        exact ret1 Try.results19 ⟨rfl, trivial⟩ h

/-- what is to be shown of a call of (*session.row).at$1 -/
def session_row_at_1_vc (s0 : Int) (s1 : Int) (s2 : Sl) (s3 : Int) (id_ : Int) (R : Value → World → Prop) (w : World) : Prop :=
  ∀ (b : Nat) (w_ : World), w.heap.size ≤ b → b < w_.heap.size → Only [] w w_ →
  Calls Try.prog 40 #[.int .i64 s0, .int .i64 id_] w_ (fun e w_1 => ∃ x1 : Int, e = .returned (.int .i64 x1) ∧ Same [b] w_ w_1 ∧
  R (.int .i64 x1) w_1)
theorem session_row_at_1_wp (s0 : Int) (s1 : Int) (s2 : Sl) (s3 : Int) (id_ : Int) (R : Value → World → Prop) (w : World) (h : session_row_at_1_vc s0 s1 s2 s3 id_ R w) :
    Calls Try.prog 39 #[.agg #[.int .i64 s0, .int .i64 s1, Sl.v s2, .int .i64 s3], .int .i64 id_] w fun e w' => ∃ v, e = .returned v ∧ R v w' := by
  unfold session_row_at_1_vc at h
  refine callsF (l := [(0, .agg #[.int .i64 s0, .int .i64 s1, Sl.v s2, .int .i64 s3]), (1, .int .i64 id_)]) Try.func39 rfl Try.ntmps39 (Nat.le_of_ble_eq_true rfl) rfl (wp_seq (wp_region_lit (st_one (wn rfl) ?_)))
  refine O_box (zs := [.int .i64 s0, .int .i64 s1, Sl.v s2, .int .i64 s3]) rfl (fun b w_ hn hO hb => ?_)
  have hn_b : w.heap.size ≤ b := hn
  have hA : Only [] w w_ := hO
  refine sv (R_as rfl) (wpList_nil (then_normal (wp_seq (wp_region_lit (sv (v := .pointer (some ⟨b, 0, none⟩)) (R_field (Try.runUnderlying49 _) rfl (Try.sizeOf3 _) rfl rfl) (sv (v := .int .i64 s0) (R_load1 (Try.isAgg3 _) rfl (hb.cell 0)) (sv (R_mv rfl) ?_)))))))
  replace h := h b w_ hn_b hb.lt hA
  refine st_one (wn rfl) ?_
  refine O_enter (args := #[.int .i64 s0, .int .i64 id_]) (R_enter Try.call40 rfl) (h.mono ?_)
  clear h
  rintro _ w_1 ⟨x1, rfl, hs, h⟩
  refine ⟨_, rfl, ?_⟩
  have hb1 := hs.blk hb (by simp)
  refine sv (R_as rfl) (wpList_nil (then_normal (wp_ret ?_)))
  exact ret1 Try.results39 ⟨rfl, trivial⟩ h

end Go.Proofs.Ytahncinfbhjkgaa.Vc
