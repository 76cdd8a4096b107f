/-
  Own work, printed by a program of ours (gen.py): of each Go function what is to be shown of a call ('.._vc'), and that it suffices ('.._wp'). Nothing is assumed.
-/
import Derived.Test.YtahncinfbhjkgaaRows
import Derived.Test.YtahncinfbhjkgaaFr
namespace Go.Proofs.Ytahncinfbhjkgaa.Vc
open Go Go.RowKit Go.Kt
set_option linter.unusedSimpArgs false
set_option linter.unusedVariables false
set_option maxRecDepth 100000
attribute [local irreducible] wpList
set_option maxHeartbeats 40000000
/-- what is to be shown of a call of pavanelaw19.SessionAgain -/
def pavanelaw19_SessionAgain_vc (acts : Sl) (more : Sl) (R : Value → World → Prop) (w : World) : Prop :=
  Calls Try.prog 8 #[] w (fun e w_ => ∃ x1 : Bool, e = .returned (.bool x1) ∧
  Calls Try.prog 9 #[] w_ (fun e w_1 => ∃ x2 : Option Addr, e = .returned (.pointer x2) ∧
  ((((!x1) || (Option.isNone x2)) = true →
  R (.bool false) w_1) ∧
  (((!x1) || (Option.isNone x2)) = false →
  ∃ (I_ : Nat → Int → World → Prop) (nv1 : Nat), I_ nv1 0 w_1 ∧
  ∀ (nv : Nat) (i : Int) (w_2 : World), I_ nv i w_2 →
  ((((decide (i < (↑(Sl.n acts) : Int))) && (decide (i < 100))) = true →
  ∃ ad : Addr, SlAt acts i 5 ad ∧
  ∃ x0 : Int, ∃ x11 : Int, ∃ x21 : Int, ∃ x3 : Int, ∃ x4 : Sl, Cells w_2 ad [.int .i64 x0, .int .i64 x11, .int .i64 x21, .int .i64 x3, Sl.v x4] ∧
  Calls Try.prog 11 #[.pointer x2, .agg #[.int .i64 x0, .int .i64 x11, .int .i64 x21, .int .i64 x3, Sl.v x4]] w_2 (fun e w_3 => ∃ x01 : Int, ∃ x12 : Int, ∃ x22 : Sl, ∃ x31 : Sl, e = .returned (.tuple #[.int .i64 x01, .int .i64 x12, Sl.v x22, Sl.v x31]) ∧
  ∃ nv2 : Nat, nv2 < nv ∧ I_ nv2 (IntKind.i64.wrap (i + 1)) w_3)) ∧
  (((decide (i < (↑(Sl.n acts) : Int))) && (decide (i < 100))) = false →
  ∃ ad1 : Addr, x2 = some ad1 ∧
  Calls Try.prog 14 #[.pointer (some (Addr.add ad1 0))] w_2 (fun e w_4 => ∃ x5 : Sl, e = .returned (Sl.v x5) ∧
  Calls Try.prog 15 #[.pointer x2] w_4 (fun e w_5 => ∃ x6 : Int, e = .returned (.int .i64 x6) ∧
  Calls Try.prog 17 #[Sl.v x5, .int .i64 x6] w_5 (fun e w_6 => ∃ x02 : Option Addr, ∃ x13 : Int, e = .returned (.tuple #[.pointer x02, .int .i64 x13]) ∧
  ((((Option.isNone x02) || (x13 != 0)) = true →
  R (.bool false) w_6) ∧
  (((Option.isNone x02) || (x13 != 0)) = false →
  ∃ (I_1 : Nat → Int → World → Prop) (nv4 : Nat), I_1 nv4 0 w_6 ∧
  ∀ (nv3 : Nat) (i1 : Int) (w_7 : World), I_1 nv3 i1 w_7 →
  ((((decide (i1 < (↑(Sl.n more) : Int))) && (decide (i1 < 100))) = true →
  ∃ ad2 : Addr, SlAt more i1 5 ad2 ∧
  ∃ x03 : Int, ∃ x14 : Int, ∃ x23 : Int, ∃ x32 : Int, ∃ x41 : Sl, Cells w_7 ad2 [.int .i64 x03, .int .i64 x14, .int .i64 x23, .int .i64 x32, Sl.v x41] ∧
  Calls Try.prog 11 #[.pointer x2, .agg #[.int .i64 x03, .int .i64 x14, .int .i64 x23, .int .i64 x32, Sl.v x41]] w_7 (fun e w_8 => ∃ x04 : Int, ∃ x15 : Int, ∃ x24 : Sl, ∃ x33 : Sl, e = .returned (.tuple #[.int .i64 x04, .int .i64 x15, Sl.v x24, Sl.v x33]) ∧
  ∃ ad3 : Addr, SlAt more i1 5 ad3 ∧
  ∃ x05 : Int, ∃ x16 : Int, ∃ x25 : Int, ∃ x34 : Int, ∃ x42 : Sl, Cells w_8 ad3 [.int .i64 x05, .int .i64 x16, .int .i64 x25, .int .i64 x34, Sl.v x42] ∧
  Calls Try.prog 11 #[.pointer x02, .agg #[.int .i64 x05, .int .i64 x16, .int .i64 x25, .int .i64 x34, Sl.v x42]] w_8 (fun e w_9 => ∃ x06 : Int, ∃ x17 : Int, ∃ x26 : Sl, ∃ x35 : Sl, e = .returned (.tuple #[.int .i64 x06, .int .i64 x17, Sl.v x26, Sl.v x35]) ∧
  ∃ J_ : Bool → World → Prop, (∀ (t130 : Bool) (w_10 : World), J_ t130 w_10 →
  ((t130 = true →
  R (.bool false) w_10) ∧
  (t130 = false →
  ∃ nv5 : Nat, nv5 < nv3 ∧ I_1 nv5 (IntKind.i64.wrap (i1 + 1)) w_10))) ∧
  (∀ (w_11 : World), Only [] w_9 w_11 →
  (((x04 != x06) = true →
  J_ true w_11) ∧
  ((x04 != x06) = false →
  (((x15 != x17) = true →
  J_ true w_11) ∧
  ((x15 != x17) = false →
  ∃ bs : List UInt8, Bytes w_11 x24 bs ∧
  ∃ bs1 : List UInt8, Bytes w_11 x26 bs1 ∧
  (((!((⟨List.toArray bs⟩ : ByteArray).toList == (⟨List.toArray bs1⟩ : ByteArray).toList)) = true →
  J_ true w_11) ∧
  ((!((⟨List.toArray bs⟩ : ByteArray).toList == (⟨List.toArray bs1⟩ : ByteArray).toList)) = false →
  Calls Try.prog 21 #[Sl.v x33, Sl.v x35] w_11 (fun e w_12 => ∃ x7 : Bool, e = .returned (.bool x7) ∧
  (((!x7) = true →
  J_ true w_12) ∧
  ((!x7) = false →
  ∃ ad4 : Addr, x2 = some ad4 ∧
  ∃ ad5 : Addr, x02 = some ad5 ∧
  Calls Try.prog 14 #[.pointer (some (Addr.add ad4 0))] w_12 (fun e w_13 => ∃ x8 : Sl, e = .returned (Sl.v x8) ∧
  Calls Try.prog 14 #[.pointer (some (Addr.add ad5 0))] w_13 (fun e w_14 => ∃ x9 : Sl, e = .returned (Sl.v x9) ∧
  Calls Try.prog 19 #[Sl.v x8, Sl.v x9] w_14 (fun e w_15 => ∃ x10 : Bool, e = .returned (.bool x10) ∧
  (((!x10) = true →
  J_ true w_15) ∧
  ((!x10) = false →
  Calls Try.prog 15 #[.pointer x2] w_15 (fun e w_16 => ∃ x18 : Int, e = .returned (.int .i64 x18) ∧
  Calls Try.prog 15 #[.pointer x02] w_16 (fun e w_17 => ∃ x19 : Int, e = .returned (.int .i64 x19) ∧
  J_ (x18 != x19) w_17)))))))))))))))))))) ∧
  (((decide (i1 < (↑(Sl.n more) : Int))) && (decide (i1 < 100))) = false →
  R (.bool true) w_7)))))))))))))
theorem pavanelaw19_SessionAgain_wp (acts : Sl) (more : Sl) (R : Value → World → Prop) (w : World) (h : pavanelaw19_SessionAgain_vc acts more R w) :
    Calls Try.prog 7 #[Sl.v acts, Sl.v more] w fun e w' => ∃ v, e = .returned v ∧ R v w' := by
  unfold pavanelaw19_SessionAgain_vc at h
  refine callsF (l := [(0, Sl.v acts), (1, Sl.v more)]) Try.func7 rfl Try.ntmps7 (Nat.le_of_ble_eq_true rfl) rfl (wp_seq (wp_region_lit (sv (R_as rfl) (wpList_nil (then_normal (wp_seq (wp_region_lit (st_one (wn rfl) ?_))))))))
  refine O_enter (args := #[]) (R_enter Try.call8 rfl) (h.mono ?_)
  clear h
  rintro _ w_ ⟨x1, rfl, h⟩
  refine ⟨_, rfl, ?_⟩
  refine sv (R_as rfl) (wpList_nil (then_normal (wp_seq (wp_region_lit (st_one (wn rfl) ?_)))))
  refine O_enter (args := #[]) (R_enter Try.call9 rfl) (h.mono ?_)
  clear h
  rintro _ w_1 ⟨x2, rfl, h⟩
  refine ⟨_, rfl, ?_⟩
  refine sv (R_as rfl) (wpList_nil (then_normal (wp_seq (wp_seq (wp_region_lit (sv (R_mv rfl) (sv (R_not rfl) (sv (R_mv rfl) ?_))))))))
  refine cutF 3 131 [(0, Sl.v acts), (1, Sl.v more), (6, .pointer x2), (26, .bool ((!x1) || (Option.isNone x2)))] ?_ ?_
  · simp only [List.take_succ_cons, List.take_zero]
    rcases Bool.eq_false_or_eq_true (!x1) with hg | hg
    · refine sno (wtF rfl rfl rfl (bg hg) rfl) (sno (wtF rfl rfl rfl (bg hg) rfl) (sv (R_pickT (bg hg) rfl) (wpList_nil ?_)))
      exact cutEnd ⟨rfl, rfl, rfl, (by rw [hg]; rfl), trivial⟩
    · refine svg (wtF rfl rfl rfl (bg hg) rfl) (R_mv rfl) (svg (wtF rfl rfl rfl (bg hg) rfl) (R_eqlPtrNilR (Try.runUnderlying24 _) rfl rfl rfl) (sv (R_pickF (bg hg) rfl) (wpList_nil ?_)))
      exact cutEnd ⟨rfl, rfl, rfl, (by rw [hg]; rfl), trivial⟩
  intro us
  simp only [List.drop_succ_cons, List.drop_zero]
  refine wpList_nil (then_normal ?_)
  refine C_split (t := ((!x1) || (Option.isNone x2))) rfl (fun hc => ?_) (fun hc => ?_)
  · replace h := h.1 hc
    refine wp_seq (wp_region_lit (sv (R_as rfl) (wpList_nil (then_normal (wp_ret (then_ret ?_))))))
    exact ret1 Try.results7 ⟨rfl, trivial⟩ h
  · replace h := h.2 hc
    refine wp_skip (then_normal (wp_seq (wp_seq (wp_region_lit (sv (R_as rfl) (wpList_nil (then_normal (wp_block ?_))))))))
    obtain ⟨I_, nv1, h0, hI⟩ := h
    refine wp_loop_ghost (fun nv' a' w' => ∃ i : Int, (∃ us, a' = fr 131 us [(0, Sl.v acts), (1, Sl.v more), (6, .pointer x2), (7, .int .i64 i)]) ∧ I_ nv' i w') nv1 ?_ ?_
    · exact ⟨_, fr_sub ⟨rfl, rfl, rfl, rfl, trivial⟩, h0⟩
    · clear h0
      rintro nv _ w_2 ⟨i, ⟨us, rfl⟩, h⟩
      replace h := hI _ _ _ h
      refine wp_seq (wp_seq (wp_region_lit (sv (R_mv rfl) (sv (R_mv rfl) (sv (R_len (s := acts) (Try.runUnderlying22 _) rfl) (sv (R_lss rfl rfl) (sv (R_mv rfl) ?_)))))))
      refine cutF 3 131 [(0, Sl.v acts), (1, Sl.v more), (6, .pointer x2), (7, .int .i64 i), (34, .bool ((decide (i < (↑(Sl.n acts) : Int))) && (decide (i < 100))))] ?_ ?_
      · simp only [List.take_succ_cons, List.take_zero]
        rcases Bool.eq_false_or_eq_true (decide (i < (↑(Sl.n acts) : Int))) with hg1 | hg1
        · refine svg (wtF rfl rfl rfl (bg hg1) rfl) (R_mv rfl) (svg (wtF rfl rfl rfl (bg hg1) rfl) (R_lss rfl rfl) (sv (R_pickT (bg hg1) rfl) (wpList_nil ?_)))
          exact cutEnd ⟨rfl, rfl, rfl, rfl, (by rw [hg1]; rfl), trivial⟩
        · refine sno (wtF rfl rfl rfl (bg hg1) rfl) (sno (wtF rfl rfl rfl (bg hg1) rfl) (sv (R_pickF (bg hg1) rfl) (wpList_nil ?_)))
          exact cutEnd ⟨rfl, rfl, rfl, rfl, (by rw [hg1]; rfl), trivial⟩
      intro us
      simp only [List.drop_succ_cons, List.drop_zero]
      refine wpList_nil (then_normal ?_)
      refine C_split (t := ((decide (i < (↑(Sl.n acts) : Int))) && (decide (i < 100)))) rfl (fun hc1 => ?_) (fun hc1 => ?_)
      · replace h := h.1 hc1
        refine wp_skip (then_normal (wp_seq (wp_block (wp_region_lit (sv (R_mv rfl) (sv (R_mv rfl) (sv (R_mv rfl) ?_)))))))
        obtain ⟨ad, hx, h⟩ := h
        refine sv (v := .pointer (some ad)) (R_indexS (s := acts) (Try.runUnderlying22 _) (Try.sizeOf29 _) rfl rfl hx) ?_
        obtain ⟨x0, x11, x21, x3, x4, hx1, h⟩ := h
        refine sv (v := .agg #[.int .i64 x0, .int .i64 x11, .int .i64 x21, .int .i64 x3, Sl.v x4]) (R_loadN (Try.isAgg29 _) (Try.sizeOf29 _) rfl rfl hx1) (st_one (wn rfl) ?_)
        refine O_enter (args := #[.pointer x2, .agg #[.int .i64 x0, .int .i64 x11, .int .i64 x21, .int .i64 x3, Sl.v x4]]) (R_enter Try.call11 rfl) (h.mono ?_)
        clear h
        rintro _ w_3 ⟨x01, x12, x22, x31, rfl, h⟩
        refine ⟨_, rfl, ?_⟩
        refine wpList_nil (block_normal (then_normal (wp_region_lit (sv (R_mv rfl) (sv (R_add rfl rfl) (sv (R_as rfl) (wpList_nil (then_normal ?_))))))))
        obtain ⟨nv2, hl, h⟩ := h
        exact ⟨nv2, hl, _, fr_sub ⟨rfl, rfl, rfl, rfl, trivial⟩, h⟩
      · replace h := h.2 hc1
        refine wp_exit (then_exit (then_exit (block_hit (then_normal (wp_seq (wp_region_lit (sv (R_mv rfl) ?_)))))))
        obtain ⟨ad1, hx2, h⟩ := h
        refine sv (v := .pointer (some ad1)) (R_nil (pg hx2)) (sv (v := .pointer (some (Addr.add ad1 0))) (R_field (Try.runUnderlying47 _) rfl (Try.sizeOf45 _) rfl rfl) (st_one (wn rfl) ?_))
        refine O_enter (args := #[.pointer (some (Addr.add ad1 0))]) (R_enter Try.call14 rfl) (h.mono ?_)
        clear h
        rintro _ w_4 ⟨x5, rfl, h⟩
        refine ⟨_, rfl, ?_⟩
        refine sv (R_mv rfl) (st_one (wn rfl) ?_)
        refine O_enter (args := #[.pointer x2]) (R_enter Try.call15 rfl) (h.mono ?_)
        clear h
        rintro _ w_5 ⟨x6, rfl, h⟩
        refine ⟨_, rfl, ?_⟩
        refine st_one (wn rfl) ?_
        refine O_enter (args := #[Sl.v x5, .int .i64 x6]) (R_enter Try.call17 rfl) (h.mono ?_)
        clear h
        rintro _ w_6 ⟨x02, x13, rfl, h⟩
        refine ⟨_, rfl, ?_⟩
        refine sv (R_mv rfl) (sv (R_ext rfl rfl) (sv (R_ext rfl rfl) (sv (R_as rfl) (sv (R_as rfl) (wpList_nil (then_normal (wp_seq (wp_seq (wp_region_lit (sv (R_mv rfl) (sv (R_eqlPtrNilR (Try.runUnderlying24 _) rfl rfl rfl) (sv (R_mv rfl) ?_))))))))))))
        refine cutF 3 131 [(1, Sl.v more), (6, .pointer x2), (8, .pointer x02), (58, .bool ((Option.isNone x02) || (x13 != 0)))] ?_ ?_
        · simp only [List.take_succ_cons, List.take_zero]
          rcases Bool.eq_false_or_eq_true (Option.isNone x02) with hg2 | hg2
          · refine sno (wtF rfl rfl rfl (bg hg2) rfl) (sno (wtF rfl rfl rfl (bg hg2) rfl) (sv (R_pickT (bg hg2) rfl) (wpList_nil ?_)))
            exact cutEnd ⟨rfl, rfl, rfl, (by rw [hg2]; rfl), trivial⟩
          · refine svg (wtF rfl rfl rfl (bg hg2) rfl) (R_mv rfl) (svg (wtF rfl rfl rfl (bg hg2) rfl) (R_neq rfl rfl) (sv (R_pickF (bg hg2) rfl) (wpList_nil ?_)))
            exact cutEnd ⟨rfl, rfl, rfl, (by rw [hg2]; rfl), trivial⟩
        intro us
        simp only [List.drop_succ_cons, List.drop_zero]
        refine wpList_nil (then_normal ?_)
        refine C_split (t := ((Option.isNone x02) || (x13 != 0))) rfl (fun hc2 => ?_) (fun hc2 => ?_)
        · replace h := h.1 hc2
          refine wp_seq (wp_region_lit (sv (R_as rfl) (wpList_nil (then_normal (wp_ret (then_ret ?_))))))
          exact ret1 Try.results7 ⟨rfl, trivial⟩ h
        · replace h := h.2 hc2
          refine wp_skip (then_normal (wp_seq (wp_seq (wp_region_lit (sv (R_as rfl) (wpList_nil (then_normal (wp_block ?_))))))))
          obtain ⟨I_1, nv4, h01, hI1⟩ := h
          refine wp_loop_ghost (fun nv' a' w' => ∃ i1 : Int, (∃ us, a' = fr 131 us [(1, Sl.v more), (6, .pointer x2), (8, .pointer x02), (10, .int .i64 i1)]) ∧ I_1 nv' i1 w') nv4 ?_ ?_
          · exact ⟨_, fr_sub ⟨rfl, rfl, rfl, rfl, trivial⟩, h01⟩
          · clear h01
            rintro nv3 _ w_7 ⟨i1, ⟨us1, rfl⟩, h⟩
            replace h := hI1 _ _ _ h
            refine wp_seq (wp_seq (wp_region_lit (sv (R_mv rfl) (sv (R_mv rfl) (sv (R_len (s := more) (Try.runUnderlying22 _) rfl) (sv (R_lss rfl rfl) (sv (R_mv rfl) ?_)))))))
            refine cutF 3 131 [(1, Sl.v more), (6, .pointer x2), (8, .pointer x02), (10, .int .i64 i1), (66, .bool ((decide (i1 < (↑(Sl.n more) : Int))) && (decide (i1 < 100))))] ?_ ?_
            · simp only [List.take_succ_cons, List.take_zero]
              rcases Bool.eq_false_or_eq_true (decide (i1 < (↑(Sl.n more) : Int))) with hg3 | hg3
              · refine svg (wtF rfl rfl rfl (bg hg3) rfl) (R_mv rfl) (svg (wtF rfl rfl rfl (bg hg3) rfl) (R_lss rfl rfl) (sv (R_pickT (bg hg3) rfl) (wpList_nil ?_)))
                exact cutEnd ⟨rfl, rfl, rfl, rfl, (by rw [hg3]; rfl), trivial⟩
              · refine sno (wtF rfl rfl rfl (bg hg3) rfl) (sno (wtF rfl rfl rfl (bg hg3) rfl) (sv (R_pickF (bg hg3) rfl) (wpList_nil ?_)))
                exact cutEnd ⟨rfl, rfl, rfl, rfl, (by rw [hg3]; rfl), trivial⟩
            intro us
            simp only [List.drop_succ_cons, List.drop_zero]
            refine wpList_nil (then_normal ?_)
            refine C_split (t := ((decide (i1 < (↑(Sl.n more) : Int))) && (decide (i1 < 100)))) rfl (fun hc3 => ?_) (fun hc3 => ?_)
            · replace h := h.1 hc3
              refine wp_skip (then_normal (wp_seq (wp_block (wp_seq (wp_region_lit (sv (R_mv rfl) (sv (R_mv rfl) (sv (R_mv rfl) ?_))))))))
              obtain ⟨ad2, hx3, h⟩ := h
              refine sv (v := .pointer (some ad2)) (R_indexS (s := more) (Try.runUnderlying22 _) (Try.sizeOf29 _) rfl rfl hx3) ?_
              obtain ⟨x03, x14, x23, x32, x41, hx4, h⟩ := h
              refine sv (v := .agg #[.int .i64 x03, .int .i64 x14, .int .i64 x23, .int .i64 x32, Sl.v x41]) (R_loadN (Try.isAgg29 _) (Try.sizeOf29 _) rfl rfl hx4) (st_one (wn rfl) ?_)
              refine O_enter (args := #[.pointer x2, .agg #[.int .i64 x03, .int .i64 x14, .int .i64 x23, .int .i64 x32, Sl.v x41]]) (R_enter Try.call11 rfl) (h.mono ?_)
              clear h
              rintro _ w_8 ⟨x04, x15, x24, x33, rfl, h⟩
              refine ⟨_, rfl, ?_⟩
              refine sv (R_mv rfl) (sv (R_ext rfl rfl) (sv (R_ext rfl rfl) (sv (R_ext rfl rfl) (sv (R_ext rfl rfl) (sv (R_as rfl) (sv (R_as rfl) (sv (R_as rfl) (sv (R_as rfl) (wpList_nil (then_normal (wp_seq (wp_region_lit (sv (R_mv rfl) (sv (R_mv rfl) ?_))))))))))))))
              refine sv (R_mv rfl) ?_
              obtain ⟨ad3, hx5, h⟩ := h
              refine sv (v := .pointer (some ad3)) (R_indexS (s := more) (Try.runUnderlying22 _) (Try.sizeOf29 _) rfl rfl hx5) ?_
              obtain ⟨x05, x16, x25, x34, x42, hx6, h⟩ := h
              refine sv (v := .agg #[.int .i64 x05, .int .i64 x16, .int .i64 x25, .int .i64 x34, Sl.v x42]) (R_loadN (Try.isAgg29 _) (Try.sizeOf29 _) rfl rfl hx6) (st_one (wn rfl) ?_)
              refine O_enter (args := #[.pointer x02, .agg #[.int .i64 x05, .int .i64 x16, .int .i64 x25, .int .i64 x34, Sl.v x42]]) (R_enter Try.call11 rfl) (h.mono ?_)
              clear h
              rintro _ w_9 ⟨x06, x17, x26, x35, rfl, h⟩
              refine ⟨_, rfl, ?_⟩
              refine sv (R_mv rfl) (sv (R_ext rfl rfl) (sv (R_ext rfl rfl) (sv (R_ext rfl rfl) (sv (R_ext rfl rfl) (sv (R_as rfl) (sv (R_as rfl) (sv (R_as rfl) (sv (R_as rfl) (wpList_nil (then_normal (wp_seq ?_)))))))))))
              obtain ⟨J_, hJ, h⟩ := h
              refine wp_cut (fun a' w' => ∃ t130 : Bool, (∃ us, a' = fr 131 us [(1, Sl.v more), (6, .pointer x2), (8, .pointer x02), (10, .int .i64 i1), (130, .bool t130)]) ∧ J_ t130 w') ?_ ?_
              · clear h
                rintro _ w_10 ⟨t130, ⟨us2, rfl⟩, h⟩
                replace h := hJ _ _ h
                refine then_normal ?_
                refine C_split (t := t130) rfl (fun hc4 => ?_) (fun hc4 => ?_)
                · replace h := h.1 hc4
                  refine wp_seq (wp_region_lit (sv (R_as rfl) (wpList_nil (then_normal (wp_ret (block_ret (then_ret (then_ret (block_ret (then_ret ?_))))))))))
                  exact ret1 Try.results7 ⟨rfl, trivial⟩ h
                · replace h := h.2 hc4
                  refine wp_skip (block_normal (then_normal (wp_region_lit (sv (R_mv rfl) (sv (R_add rfl rfl) (sv (R_as rfl) (wpList_nil (then_normal ?_))))))))
                  obtain ⟨nv5, hl1, h⟩ := h
                  exact ⟨nv5, hl1, _, fr_sub ⟨rfl, rfl, rfl, rfl, trivial⟩, h⟩
              · refine e_region (EL [(18, []), (25, []), (29, []), (30, []), (35, []), (37, [])]) Try.checked.mixed ?_
                have hO := Only.drew w_9
                generalize w_9.drew = w_11 at *
                have hA : Only [] w_9 w_11 := hO
                refine eQ 0 rfl rfl (wn rfl) (fun _ => (R_mv rfl)) (eQ 1 rfl rfl (wn rfl) (fun _ => (R_mv rfl)) (eQ 2 rfl rfl (wn rfl) (fun _ => (R_neq rfl rfl)) (eQ 3 rfl rfl (wn rfl) (fun _ => (R_mv rfl)) ?_)))
                replace h := h w_11 hA
                rcases Bool.eq_false_or_eq_true (x04 != x06) with hg4 | hg4
                · replace h := h.1 hg4
                  refine eN 4 rfl (fun w => el_quiet rfl w) (wtF rfl rfl rfl (bg hg4) rfl) (eN 5 rfl (fun w => el_quiet rfl w) (wtF rfl rfl rfl (bg hg4) rfl) (eN 6 rfl (fun w => el_quiet rfl w) (wtF rfl rfl rfl (bg hg4) rfl) (eQ 7 rfl rfl (wn rfl) (fun _ => (R_pickT (bg hg4) rfl)) (eQ 8 rfl rfl (wn rfl) (fun _ => (R_mv rfl)) (eN 9 rfl (fun w => el_quiet rfl w) (wtF rfl rfl rfl rfl rfl) (eN 10 rfl (fun w => el_quiet rfl w) (wtF rfl rfl rfl rfl rfl) (eN 11 rfl (fun w => el_quiet rfl w) (wtF rfl rfl rfl rfl rfl) (eN 12 rfl (fun w => el_quiet rfl w) (wtF rfl rfl rfl rfl rfl) (eN 13 rfl (fun w => el_quiet rfl w) (wtF rfl rfl rfl rfl rfl) (eQ 14 rfl rfl (wn rfl) (fun _ => (R_pickT rfl rfl)) (eQ 15 rfl rfl (wn rfl) (fun _ => (R_mv rfl)) (eN 16 rfl (fun w => el_quiet rfl w) (wtF rfl rfl rfl rfl rfl) (eN 17 rfl (fun w => el_quiet rfl w) (wtF rfl rfl rfl rfl rfl) (eN 18 rfl (fun w => el_loud rfl (Same.refl _ w)) (wtF rfl rfl rfl rfl rfl) ?_))))))))))))))
                  refine eN 19 rfl (fun w => el_quiet rfl w) (wtF rfl rfl rfl rfl rfl) (eQ 20 rfl rfl (wn rfl) (fun _ => (R_pickT rfl rfl)) (eQ 21 rfl rfl (wn rfl) (fun _ => (R_mv rfl)) (eN 22 rfl (fun w => el_quiet rfl w) (wtF rfl rfl rfl rfl rfl) (eN 23 rfl (fun w => el_quiet rfl w) (wtF rfl rfl rfl rfl rfl) (eN 24 rfl (fun w => el_quiet rfl w) (wtF rfl rfl rfl rfl rfl) (eN 25 rfl (fun w => el_loud rfl (Same.refl _ w)) (wtF rfl rfl rfl rfl rfl) (eN 26 rfl (fun w => el_quiet rfl w) (wtF rfl rfl rfl rfl rfl) (eN 27 rfl (fun w => el_quiet rfl w) (wtF rfl rfl rfl rfl rfl) (eN 28 rfl (fun w => el_quiet rfl w) (wtF rfl rfl rfl rfl rfl) (eN 29 rfl (fun w => el_loud rfl (Same.refl _ w)) (wtF rfl rfl rfl rfl rfl) (eN 30 rfl (fun w => el_loud rfl (Same.refl _ w)) (wtF rfl rfl rfl rfl rfl) (eN 31 rfl (fun w => el_quiet rfl w) (wtF rfl rfl rfl rfl rfl) (eQ 32 rfl rfl (wn rfl) (fun _ => (R_pickT rfl rfl)) (eQ 33 rfl rfl (wn rfl) (fun _ => (R_mv rfl)) ?_))))))))))))))
                  refine eN 34 rfl (fun w => el_quiet rfl w) (wtF rfl rfl rfl rfl rfl) (eN 35 rfl (fun w => el_loud rfl (Same.refl _ w)) (wtF rfl rfl rfl rfl rfl) (eN 36 rfl (fun w => el_quiet rfl w) (wtF rfl rfl rfl rfl rfl) (eN 37 rfl (fun w => el_loud rfl (Same.refl _ w)) (wtF rfl rfl rfl rfl rfl) (eN 38 rfl (fun w => el_quiet rfl w) (wtF rfl rfl rfl rfl rfl) (eQ 39 rfl rfl (wn rfl) (fun _ => (R_pickT rfl rfl)) (e_done (by kernel_rfl) ?_))))))
                  exact then_normal ⟨_, fr_sub ⟨rfl, rfl, rfl, rfl, rfl, trivial⟩, h⟩
                · replace h := h.2 hg4
                  refine eQ 4 rfl rfl (wtF rfl rfl rfl (bg hg4) rfl) (fun _ => (R_mv rfl)) (eQ 5 rfl rfl (wtF rfl rfl rfl (bg hg4) rfl) (fun _ => (R_mv rfl)) (eQ 6 rfl rfl (wtF rfl rfl rfl (bg hg4) rfl) (fun _ => (R_neq rfl rfl)) (eQ 7 rfl rfl (wn rfl) (fun _ => (R_pickF (bg hg4) rfl)) (eQ 8 rfl rfl (wn rfl) (fun _ => (R_mv rfl)) ?_))))
                  rcases Bool.eq_false_or_eq_true (x15 != x17) with hg5 | hg5
                  · replace h := h.1 hg5
                    refine eN 9 rfl (fun w => el_quiet rfl w) (wtF rfl rfl rfl (bg hg5) rfl) (eN 10 rfl (fun w => el_quiet rfl w) (wtF rfl rfl rfl (bg hg5) rfl) (eN 11 rfl (fun w => el_quiet rfl w) (wtF rfl rfl rfl (bg hg5) rfl) (eN 12 rfl (fun w => el_quiet rfl w) (wtF rfl rfl rfl (bg hg5) rfl) (eN 13 rfl (fun w => el_quiet rfl w) (wtF rfl rfl rfl (bg hg5) rfl) (eQ 14 rfl rfl (wn rfl) (fun _ => (R_pickT (bg hg5) rfl)) (eQ 15 rfl rfl (wn rfl) (fun _ => (R_mv rfl)) (eN 16 rfl (fun w => el_quiet rfl w) (wtF rfl rfl rfl rfl rfl) (eN 17 rfl (fun w => el_quiet rfl w) (wtF rfl rfl rfl rfl rfl) (eN 18 rfl (fun w => el_loud rfl (Same.refl _ w)) (wtF rfl rfl rfl rfl rfl) (eN 19 rfl (fun w => el_quiet rfl w) (wtF rfl rfl rfl rfl rfl) (eQ 20 rfl rfl (wn rfl) (fun _ => (R_pickT rfl rfl)) (eQ 21 rfl rfl (wn rfl) (fun _ => (R_mv rfl)) (eN 22 rfl (fun w => el_quiet rfl w) (wtF rfl rfl rfl rfl rfl) (eN 23 rfl (fun w => el_quiet rfl w) (wtF rfl rfl rfl rfl rfl) ?_))))))))))))))
                    refine eN 24 rfl (fun w => el_quiet rfl w) (wtF rfl rfl rfl rfl rfl) (eN 25 rfl (fun w => el_loud rfl (Same.refl _ w)) (wtF rfl rfl rfl rfl rfl) (eN 26 rfl (fun w => el_quiet rfl w) (wtF rfl rfl rfl rfl rfl) (eN 27 rfl (fun w => el_quiet rfl w) (wtF rfl rfl rfl rfl rfl) (eN 28 rfl (fun w => el_quiet rfl w) (wtF rfl rfl rfl rfl rfl) (eN 29 rfl (fun w => el_loud rfl (Same.refl _ w)) (wtF rfl rfl rfl rfl rfl) (eN 30 rfl (fun w => el_loud rfl (Same.refl _ w)) (wtF rfl rfl rfl rfl rfl) (eN 31 rfl (fun w => el_quiet rfl w) (wtF rfl rfl rfl rfl rfl) (eQ 32 rfl rfl (wn rfl) (fun _ => (R_pickT rfl rfl)) (eQ 33 rfl rfl (wn rfl) (fun _ => (R_mv rfl)) (eN 34 rfl (fun w => el_quiet rfl w) (wtF rfl rfl rfl rfl rfl) (eN 35 rfl (fun w => el_loud rfl (Same.refl _ w)) (wtF rfl rfl rfl rfl rfl) (eN 36 rfl (fun w => el_quiet rfl w) (wtF rfl rfl rfl rfl rfl) (eN 37 rfl (fun w => el_loud rfl (Same.refl _ w)) (wtF rfl rfl rfl rfl rfl) (eN 38 rfl (fun w => el_quiet rfl w) (wtF rfl rfl rfl rfl rfl) ?_))))))))))))))
                    refine eQ 39 rfl rfl (wn rfl) (fun _ => (R_pickT rfl rfl)) (e_done (by kernel_rfl) ?_)
                    exact then_normal ⟨_, fr_sub ⟨rfl, rfl, rfl, rfl, rfl, trivial⟩, h⟩
                  · replace h := h.2 hg5
                    refine eQ 9 rfl rfl (wtF rfl rfl rfl (bg hg5) rfl) (fun _ => (R_mv rfl)) ?_
                    obtain ⟨bs, hx7, h⟩ := h
                    refine eL 10 [13, 14, 15, 16, 17, 18, 19, 20, 21, 22, 23, 24, 25, 26, 27, 28, 29, 30, 31, 32, 33, 34, 35, 36, 37, 38, 39] [0, 1, 2, 3, 4, 5, 6, 7, 8, 9] (fun w' => Bytes w' x24 bs) (v := .string (⟨List.toArray bs⟩ : ByteArray)) rfl rfl (el_stable (b := (Sl.blk x24)) (List.forall_mem_cons.2 ⟨.inl (by simp), List.forall_mem_cons.2 ⟨.inl (by simp), List.forall_mem_cons.2 ⟨.inl (by simp), List.forall_mem_cons.2 ⟨.inl (by simp), List.forall_mem_cons.2 ⟨.inl (by simp), List.forall_mem_cons.2 ⟨.inl (by simp), List.forall_mem_nil _⟩⟩⟩⟩⟩⟩) keep_bytes) hx7 (y_val (wtF rfl rfl rfl (bg hg5) rfl) (fun w' hw' => (R_bytesStr (sl := x24) Try.underlying27 Try.underlying5 Try.underlying9 rfl hw'))) (eQ 11 rfl rfl (wtF rfl rfl rfl (bg hg5) rfl) (fun _ => (R_mv rfl)) ?_)
                    obtain ⟨bs1, hx8, h⟩ := h
                    refine eL 12 [13, 14, 15, 16, 17, 18, 19, 20, 21, 22, 23, 24, 25, 26, 27, 28, 29, 30, 31, 32, 33, 34, 35, 36, 37, 38, 39] [0, 1, 2, 3, 4, 5, 6, 7, 8, 9, 10, 11] (fun w' => Bytes w' x26 bs1) (v := .string (⟨List.toArray bs1⟩ : ByteArray)) rfl rfl (el_stable (b := (Sl.blk x26)) (List.forall_mem_cons.2 ⟨.inl (by simp), List.forall_mem_cons.2 ⟨.inl (by simp), List.forall_mem_cons.2 ⟨.inl (by simp), List.forall_mem_cons.2 ⟨.inl (by simp), List.forall_mem_cons.2 ⟨.inl (by simp), List.forall_mem_cons.2 ⟨.inl (by simp), List.forall_mem_nil _⟩⟩⟩⟩⟩⟩) keep_bytes) hx8 (y_val (wtF rfl rfl rfl (bg hg5) rfl) (fun w' hw' => (R_bytesStr (sl := x26) Try.underlying27 Try.underlying5 Try.underlying9 rfl hw'))) (eQ 13 rfl rfl (wtF rfl rfl rfl (bg hg5) rfl) (fun _ => (R_sneq rfl rfl)) (eQ 14 rfl rfl (wn rfl) (fun _ => (R_pickF (bg hg5) rfl)) (eQ 15 rfl rfl (wn rfl) (fun _ => (R_mv rfl)) ?_)))
                    rcases Bool.eq_false_or_eq_true (!((⟨List.toArray bs⟩ : ByteArray).toList == (⟨List.toArray bs1⟩ : ByteArray).toList)) with hg6 | hg6
                    · replace h := h.1 hg6
                      refine eN 16 rfl (fun w => el_quiet rfl w) (wtF rfl rfl rfl (bg hg6) rfl) (eN 17 rfl (fun w => el_quiet rfl w) (wtF rfl rfl rfl (bg hg6) rfl) (eN 18 rfl (fun w => el_loud rfl (Same.refl _ w)) (wtF rfl rfl rfl (bg hg6) rfl) (eN 19 rfl (fun w => el_quiet rfl w) (wtF rfl rfl rfl (bg hg6) rfl) (eQ 20 rfl rfl (wn rfl) (fun _ => (R_pickT (bg hg6) rfl)) (eQ 21 rfl rfl (wn rfl) (fun _ => (R_mv rfl)) (eN 22 rfl (fun w => el_quiet rfl w) (wtF rfl rfl rfl rfl rfl) (eN 23 rfl (fun w => el_quiet rfl w) (wtF rfl rfl rfl rfl rfl) (eN 24 rfl (fun w => el_quiet rfl w) (wtF rfl rfl rfl rfl rfl) (eN 25 rfl (fun w => el_loud rfl (Same.refl _ w)) (wtF rfl rfl rfl rfl rfl) (eN 26 rfl (fun w => el_quiet rfl w) (wtF rfl rfl rfl rfl rfl) (eN 27 rfl (fun w => el_quiet rfl w) (wtF rfl rfl rfl rfl rfl) (eN 28 rfl (fun w => el_quiet rfl w) (wtF rfl rfl rfl rfl rfl) (eN 29 rfl (fun w => el_loud rfl (Same.refl _ w)) (wtF rfl rfl rfl rfl rfl) (eN 30 rfl (fun w => el_loud rfl (Same.refl _ w)) (wtF rfl rfl rfl rfl rfl) ?_))))))))))))))
                      refine eN 31 rfl (fun w => el_quiet rfl w) (wtF rfl rfl rfl rfl rfl) (eQ 32 rfl rfl (wn rfl) (fun _ => (R_pickT rfl rfl)) (eQ 33 rfl rfl (wn rfl) (fun _ => (R_mv rfl)) (eN 34 rfl (fun w => el_quiet rfl w) (wtF rfl rfl rfl rfl rfl) (eN 35 rfl (fun w => el_loud rfl (Same.refl _ w)) (wtF rfl rfl rfl rfl rfl) (eN 36 rfl (fun w => el_quiet rfl w) (wtF rfl rfl rfl rfl rfl) (eN 37 rfl (fun w => el_loud rfl (Same.refl _ w)) (wtF rfl rfl rfl rfl rfl) (eN 38 rfl (fun w => el_quiet rfl w) (wtF rfl rfl rfl rfl rfl) (eQ 39 rfl rfl (wn rfl) (fun _ => (R_pickT rfl rfl)) (e_done (by kernel_rfl) ?_)))))))))
                      exact then_normal ⟨_, fr_sub ⟨rfl, rfl, rfl, rfl, rfl, trivial⟩, h⟩
                    · replace h := h.2 hg6
                      refine eQ 16 rfl rfl (wtF rfl rfl rfl (bg hg6) rfl) (fun _ => (R_mv rfl)) (eQ 17 rfl rfl (wtF rfl rfl rfl (bg hg6) rfl) (fun _ => (R_mv rfl)) (e_one 18 rfl (by kernel_rfl) (wtF rfl rfl rfl (bg hg6) rfl) ?_))
                      refine O_enter (args := #[Sl.v x33, Sl.v x35]) (R_enter Try.call21 rfl) (h.mono ?_)
                      clear h
                      rintro _ w_12 ⟨x7, rfl, h⟩
                      refine ⟨_, rfl, ?_⟩
                      refine ⟨el_loud rfl same_nil, ?_⟩
                      refine eQ 19 rfl rfl (wtF rfl rfl rfl (bg hg6) rfl) (fun _ => (R_not rfl)) (eQ 20 rfl rfl (wn rfl) (fun _ => (R_pickF (bg hg6) rfl)) (eQ 21 rfl rfl (wn rfl) (fun _ => (R_mv rfl)) ?_))
                      rcases Bool.eq_false_or_eq_true (!x7) with hg7 | hg7
                      · replace h := h.1 hg7
                        refine eN 22 rfl (fun w => el_quiet rfl w) (wtF rfl rfl rfl (bg hg7) rfl) (eN 23 rfl (fun w => el_quiet rfl w) (wtF rfl rfl rfl (bg hg7) rfl) (eN 24 rfl (fun w => el_quiet rfl w) (wtF rfl rfl rfl (bg hg7) rfl) (eN 25 rfl (fun w => el_loud rfl (Same.refl _ w)) (wtF rfl rfl rfl (bg hg7) rfl) (eN 26 rfl (fun w => el_quiet rfl w) (wtF rfl rfl rfl (bg hg7) rfl) (eN 27 rfl (fun w => el_quiet rfl w) (wtF rfl rfl rfl (bg hg7) rfl) (eN 28 rfl (fun w => el_quiet rfl w) (wtF rfl rfl rfl (bg hg7) rfl) (eN 29 rfl (fun w => el_loud rfl (Same.refl _ w)) (wtF rfl rfl rfl (bg hg7) rfl) (eN 30 rfl (fun w => el_loud rfl (Same.refl _ w)) (wtF rfl rfl rfl (bg hg7) rfl) (eN 31 rfl (fun w => el_quiet rfl w) (wtF rfl rfl rfl (bg hg7) rfl) (eQ 32 rfl rfl (wn rfl) (fun _ => (R_pickT (bg hg7) rfl)) (eQ 33 rfl rfl (wn rfl) (fun _ => (R_mv rfl)) (eN 34 rfl (fun w => el_quiet rfl w) (wtF rfl rfl rfl rfl rfl) (eN 35 rfl (fun w => el_loud rfl (Same.refl _ w)) (wtF rfl rfl rfl rfl rfl) (eN 36 rfl (fun w => el_quiet rfl w) (wtF rfl rfl rfl rfl rfl) ?_))))))))))))))
                        refine eN 37 rfl (fun w => el_loud rfl (Same.refl _ w)) (wtF rfl rfl rfl rfl rfl) (eN 38 rfl (fun w => el_quiet rfl w) (wtF rfl rfl rfl rfl rfl) (eQ 39 rfl rfl (wn rfl) (fun _ => (R_pickT rfl rfl)) (e_done (by kernel_rfl) ?_)))
                        exact then_normal ⟨_, fr_sub ⟨rfl, rfl, rfl, rfl, rfl, trivial⟩, h⟩
                      · replace h := h.2 hg7
                        refine eQ 22 rfl rfl (wtF rfl rfl rfl (bg hg7) rfl) (fun _ => (R_mv rfl)) ?_
                        obtain ⟨ad4, hx9, h⟩ := h
                        refine eQ 23 (v := .pointer (some ad4)) rfl rfl (wtF rfl rfl rfl (bg hg7) rfl) (fun _ => (R_nil (pg hx9))) (eQ 24 (v := .pointer (some (Addr.add ad4 0))) rfl rfl (wtF rfl rfl rfl (bg hg7) rfl) (fun _ => (R_field (Try.runUnderlying47 _) rfl (Try.sizeOf45 _) rfl rfl)) (eQ 26 rfl rfl (wtF rfl rfl rfl (bg hg7) rfl) (fun _ => (R_mv rfl)) ?_))
                        obtain ⟨ad5, hx10, h⟩ := h
                        refine eQ 27 (v := .pointer (some ad5)) rfl rfl (wtF rfl rfl rfl (bg hg7) rfl) (fun _ => (R_nil (pg hx10))) (eQ 28 (v := .pointer (some (Addr.add ad5 0))) rfl rfl (wtF rfl rfl rfl (bg hg7) rfl) (fun _ => (R_field (Try.runUnderlying47 _) rfl (Try.sizeOf45 _) rfl rfl)) (e_one 25 rfl (by kernel_rfl) (wtF rfl rfl rfl (bg hg7) rfl) ?_))
                        refine O_enter (args := #[.pointer (some (Addr.add ad4 0))]) (R_enter Try.call14 rfl) (h.mono ?_)
                        clear h
                        rintro _ w_13 ⟨x8, rfl, h⟩
                        refine ⟨_, rfl, ?_⟩
                        refine ⟨el_loud rfl same_nil, ?_⟩
                        refine e_one 29 rfl (by kernel_rfl) (wtF rfl rfl rfl (bg hg7) rfl) ?_
                        refine O_enter (args := #[.pointer (some (Addr.add ad5 0))]) (R_enter Try.call14 rfl) (h.mono ?_)
                        clear h
                        rintro _ w_14 ⟨x9, rfl, h⟩
                        refine ⟨_, rfl, ?_⟩
                        refine ⟨el_loud rfl same_nil, ?_⟩
                        refine e_one 30 rfl (by kernel_rfl) (wtF rfl rfl rfl (bg hg7) rfl) ?_
                        refine O_enter (args := #[Sl.v x8, Sl.v x9]) (R_enter Try.call19 rfl) (h.mono ?_)
                        clear h
                        rintro _ w_15 ⟨x10, rfl, h⟩
                        refine ⟨_, rfl, ?_⟩
                        refine ⟨el_loud rfl same_nil, ?_⟩
                        refine eQ 31 rfl rfl (wtF rfl rfl rfl (bg hg7) rfl) (fun _ => (R_not rfl)) (eQ 32 rfl rfl (wn rfl) (fun _ => (R_pickF (bg hg7) rfl)) (eQ 33 rfl rfl (wn rfl) (fun _ => (R_mv rfl)) ?_))
                        rcases Bool.eq_false_or_eq_true (!x10) with hg8 | hg8
                        · replace h := h.1 hg8
                          refine eN 34 rfl (fun w => el_quiet rfl w) (wtF rfl rfl rfl (bg hg8) rfl) (eN 35 rfl (fun w => el_loud rfl (Same.refl _ w)) (wtF rfl rfl rfl (bg hg8) rfl) (eN 36 rfl (fun w => el_quiet rfl w) (wtF rfl rfl rfl (bg hg8) rfl) (eN 37 rfl (fun w => el_loud rfl (Same.refl _ w)) (wtF rfl rfl rfl (bg hg8) rfl) (eN 38 rfl (fun w => el_quiet rfl w) (wtF rfl rfl rfl (bg hg8) rfl) (eQ 39 rfl rfl (wn rfl) (fun _ => (R_pickT (bg hg8) rfl)) (e_done (by kernel_rfl) ?_))))))
                          exact then_normal ⟨_, fr_sub ⟨rfl, rfl, rfl, rfl, rfl, trivial⟩, h⟩
                        · replace h := h.2 hg8
                          refine eQ 34 rfl rfl (wtF rfl rfl rfl (bg hg8) rfl) (fun _ => (R_mv rfl)) (eQ 36 rfl rfl (wtF rfl rfl rfl (bg hg8) rfl) (fun _ => (R_mv rfl)) (e_one 35 rfl (by kernel_rfl) (wtF rfl rfl rfl (bg hg8) rfl) ?_))
                          refine O_enter (args := #[.pointer x2]) (R_enter Try.call15 rfl) (h.mono ?_)
                          clear h
                          rintro _ w_16 ⟨x18, rfl, h⟩
                          refine ⟨_, rfl, ?_⟩
                          refine ⟨el_loud rfl same_nil, ?_⟩
                          refine e_one 37 rfl (by kernel_rfl) (wtF rfl rfl rfl (bg hg8) rfl) ?_
                          refine O_enter (args := #[.pointer x02]) (R_enter Try.call15 rfl) (h.mono ?_)
                          clear h
                          rintro _ w_17 ⟨x19, rfl, h⟩
                          refine ⟨_, rfl, ?_⟩
                          refine ⟨el_loud rfl same_nil, ?_⟩
                          refine eQ 38 rfl rfl (wtF rfl rfl rfl (bg hg8) rfl) (fun _ => (R_neq rfl rfl)) (eQ 39 rfl rfl (wn rfl) (fun _ => (R_pickF (bg hg8) rfl)) (e_done (by kernel_rfl) ?_))
                          exact then_normal ⟨_, fr_sub ⟨rfl, rfl, rfl, rfl, rfl, trivial⟩, h⟩
            · replace h := h.2 hc3
              refine wp_exit (then_exit (then_exit (block_hit (then_normal (wp_seq (wp_region_lit (sv (R_as rfl) (wpList_nil (then_normal (wp_ret ?_))))))))))
              exact ret1 Try.results7 ⟨rfl, trivial⟩ h

/-- what is to be shown of a call of pavanelaw19.SessionPlays -/
def pavanelaw19_SessionPlays_vc (l : Sl) (next_ : Int) (fresh : Bool) (acts : Sl) (R : Value → World → Prop) (w : World) : Prop :=
  Calls Try.prog 8 #[] w (fun e w_ => ∃ x1 : Bool, e = .returned (.bool x1) ∧
  Calls Try.prog 9 #[] w_ (fun e w_1 => ∃ x2 : Option Addr, e = .returned (.pointer x2) ∧
  Calls Try.prog 16 #[] w_1 (fun e w_2 => ∃ x3 : Option Addr, e = .returned (.pointer x3) ∧
  ∃ J_ : Option Addr → Option Addr → World → Prop, (∀ (b : Option Addr) (x4 : Option Addr) (w_3 : World), J_ b x4 w_3 →
  ((((!x1) || (Option.isNone b)) = true →
  R (.bool false) w_3) ∧
  (((!x1) || (Option.isNone b)) = false →
  ∃ (I_ : Nat → Int → World → Prop) (nv1 : Nat), I_ nv1 0 w_3 ∧
  ∀ (nv : Nat) (i : Int) (w_4 : World), I_ nv i w_4 →
  ((((decide (i < (↑(Sl.n acts) : Int))) && (decide (i < 100))) = true →
  ∃ ad : Addr, SlAt acts i 5 ad ∧
  ∃ x0 : Int, ∃ x11 : Int, ∃ x21 : Int, ∃ x31 : Int, ∃ x41 : Sl, Cells w_4 ad [.int .i64 x0, .int .i64 x11, .int .i64 x21, .int .i64 x31, Sl.v x41] ∧
  Calls Try.prog 11 #[.pointer b, .agg #[.int .i64 x0, .int .i64 x11, .int .i64 x21, .int .i64 x31, Sl.v x41]] w_4 (fun e w_5 => ∃ x01 : Int, ∃ x12 : Int, ∃ x22 : Sl, ∃ x32 : Sl, e = .returned (.tuple #[.int .i64 x01, .int .i64 x12, Sl.v x22, Sl.v x32]) ∧
  ∃ ad1 : Addr, SlAt acts i 5 ad1 ∧
  ∃ x02 : Int, ∃ x13 : Int, ∃ x23 : Int, ∃ x33 : Int, ∃ x42 : Sl, Cells w_5 ad1 [.int .i64 x02, .int .i64 x13, .int .i64 x23, .int .i64 x33, Sl.v x42] ∧
  Calls Try.prog 20 #[.pointer x4, .agg #[.int .i64 x02, .int .i64 x13, .int .i64 x23, .int .i64 x33, Sl.v x42]] w_5 (fun e w_6 => ∃ x03 : Int, ∃ x14 : Int, ∃ x24 : Sl, ∃ x34 : Sl, e = .returned (.tuple #[.int .i64 x03, .int .i64 x14, Sl.v x24, Sl.v x34]) ∧
  ∃ J_1 : Bool → World → Prop, (∀ (same : Bool) (w_7 : World), J_1 same w_7 →
  ∃ x5 : Sl, ∃ w_8 : World, (Instr.buildSlice 61 1 #[(0, Sl.v x22)]).run Try.prog w_7 = .ok (Sl.v x5) w_8 ∧
  Calls Try.prog 22 #[Sl.v x5] w_8 (fun e w_9 => ∃ x6 : Bool, e = .returned (.bool x6) ∧
  ∃ ad2 : Addr, b = some ad2 ∧
  Calls Try.prog 14 #[.pointer (some (Addr.add ad2 0))] w_9 (fun e w_10 => ∃ x7 : Sl, e = .returned (Sl.v x7) ∧
  Calls Try.prog 23 #[.pointer x4] w_10 (fun e w_11 => ∃ x8 : Sl, e = .returned (Sl.v x8) ∧
  Calls Try.prog 19 #[Sl.v x7, Sl.v x8] w_11 (fun e w_12 => ∃ x9 : Bool, e = .returned (.bool x9) ∧
  Calls Try.prog 24 #[Sl.v x7] w_12 (fun e w_13 => e = .returned (.tuple #[]) ∧
  ∃ ad3 : Addr, b = some ad3 ∧
  Calls Try.prog 14 #[.pointer (some (Addr.add ad3 0))] w_13 (fun e w_14 => ∃ x10 : Sl, e = .returned (Sl.v x10) ∧
  Calls Try.prog 23 #[.pointer x4] w_14 (fun e w_15 => ∃ x15 : Sl, e = .returned (Sl.v x15) ∧
  Calls Try.prog 19 #[Sl.v x10, Sl.v x15] w_15 (fun e w_16 => ∃ x16 : Bool, e = .returned (.bool x16) ∧
  ∃ J_2 : Bool → World → Prop, (∀ (t165 : Bool) (w_17 : World), J_2 t165 w_17 →
  ((t165 = true →
  R (.bool false) w_17) ∧
  (t165 = false →
  ∃ nv2 : Nat, nv2 < nv ∧ I_ nv2 (IntKind.i64.wrap (i + 1)) w_17))) ∧
  (∀ (w_18 : World), Only [] w_16 w_18 →
  (((x01 != x03) = true →
  J_2 true w_18) ∧
  ((x01 != x03) = false →
  (((x12 != x14) = true →
  J_2 true w_18) ∧
  ((x12 != x14) = false →
  (((!same) = true →
  J_2 true w_18) ∧
  ((!same) = false →
  (((!x9) = true →
  J_2 true w_18) ∧
  ((!x9) = false →
  (((!x16) = true →
  J_2 true w_18) ∧
  ((!x16) = false →
  ∃ ad4 : Addr, x4 = some ad4 ∧
  ∃ x17 : Int, Cells w_18 (Addr.add ad4 1) [.int .i64 x17] ∧
  Calls Try.prog 15 #[.pointer b] w_18 (fun e w_19 => ∃ x18 : Int, e = .returned (.int .i64 x18) ∧ Same [(ptrBlk x4)] w_18 w_19 ∧
  J_2 (x18 != x17) w_19))))))))))))))))))))) ∧
  (∃ bs : List UInt8, Bytes w_6 x22 bs ∧
  ∃ bs1 : List UInt8, Bytes w_6 x24 bs1 ∧
  ((((⟨List.toArray bs⟩ : ByteArray).toList == (⟨List.toArray bs1⟩ : ByteArray).toList) = true →
  Calls Try.prog 21 #[Sl.v x32, Sl.v x34] w_6 (fun e w_20 => ∃ x19 : Bool, e = .returned (.bool x19) ∧
  J_1 x19 w_20)) ∧
  (((⟨List.toArray bs⟩ : ByteArray).toList == (⟨List.toArray bs1⟩ : ByteArray).toList) = false →
  J_1 false w_6)))))) ∧
  (((decide (i < (↑(Sl.n acts) : Int))) && (decide (i < 100))) = false →
  R (.bool true) w_4))))) ∧
  ((((!fresh) = true →
  ∃ x20 : Sl, ∃ w_21 : World, (Instr.buildSlice 42 0 #[]).run Try.prog w_2 = .ok (Sl.v x20) w_21 ∧
  ∃ x25 : Sl, ∃ w_22 : World, (Builtin.append_ #[42, 42] 42 #[Sl.v x20, Sl.v l]).run Try.prog w_21 = .ok (Sl.v x25) w_22 ∧
  Calls Try.prog 17 #[Sl.v x25, .int .i64 next_] w_22 (fun e w_23 => ∃ x04 : Option Addr, ∃ x110 : Int, e = .returned (.tuple #[.pointer x04, .int .i64 x110]) ∧
  Calls Try.prog 18 #[Sl.v l, .int .i64 next_] w_23 (fun e w_24 => ∃ x05 : Option Addr, ∃ x111 : Int, e = .returned (.tuple #[.pointer x05, .int .i64 x111]) ∧
  Calls Try.prog 19 #[Sl.v x25, Sl.v l] w_24 (fun e w_25 => ∃ x26 : Bool, e = .returned (.bool x26) ∧
  (((((x110 != x111) || (!x26)) || (!((Option.isNone x04) == (x111 != 0)))) = true →
  R (.bool false) w_25) ∧
  ((((x110 != x111) || (!x26)) || (!((Option.isNone x04) == (x111 != 0)))) = false →
  (((x111 != 0) = true →
  R (.bool x1) w_25) ∧
  ((x111 != 0) = false →
  J_ x04 x05 w_25)))))))) ∧
  ((!fresh) = false →
  J_ x2 x3 w_2))))))
theorem pavanelaw19_SessionPlays_wp (l : Sl) (next_ : Int) (fresh : Bool) (acts : Sl) (R : Value → World → Prop) (w : World) (h : pavanelaw19_SessionPlays_vc l next_ fresh acts R w) :
    Calls Try.prog 6 #[Sl.v l, .int .i64 next_, .bool fresh, Sl.v acts] w fun e w' => ∃ v, e = .returned v ∧ R v w' := by
  unfold pavanelaw19_SessionPlays_vc at h
  refine callsF (l := [(0, Sl.v l), (1, .int .i64 next_), (2, .bool fresh), (3, Sl.v acts)]) Try.func6 rfl Try.ntmps6 (Nat.le_of_ble_eq_true rfl) rfl (wp_seq (wp_region_lit (sv (R_as rfl) (wpList_nil (then_normal (wp_seq (wp_region_lit (st_one (wn rfl) ?_))))))))
  refine O_enter (args := #[]) (R_enter Try.call8 rfl) (h.mono ?_)
  clear h
  rintro _ w_ ⟨x1, rfl, h⟩
  refine ⟨_, rfl, ?_⟩
  refine sv (R_as rfl) (wpList_nil (then_normal (wp_seq (wp_region_lit (st_one (wn rfl) ?_)))))
  refine O_enter (args := #[]) (R_enter Try.call9 rfl) (h.mono ?_)
  clear h
  rintro _ w_1 ⟨x2, rfl, h⟩
  refine ⟨_, rfl, ?_⟩
  refine sv (R_as rfl) (wpList_nil (then_normal (wp_seq (wp_region_lit (st_one (wn rfl) ?_)))))
  refine O_enter (args := #[]) (R_enter Try.call16 rfl) (h.mono ?_)
  clear h
  rintro _ w_2 ⟨x3, rfl, h⟩
  refine ⟨_, rfl, ?_⟩
  refine sv (R_as rfl) (wpList_nil (then_normal ?_))
  obtain ⟨J_, hJ, h⟩ := h
  refine wp_seq_join (fun a' w' => ∃ b : Option Addr, ∃ x4 : Option Addr, (∃ us, a' = fr 166 us [(3, Sl.v acts), (9, .bool x1), (10, .pointer b), (11, .pointer x4)]) ∧ J_ b x4 w') ?_ ?_
  · clear h
    rintro _ w_3 ⟨b, x4, ⟨us, rfl⟩, h⟩
    replace h := hJ _ _ _ h
    refine wp_seq (wp_seq (wp_region_lit (sv (R_mv rfl) (sv (R_not rfl) (sv (R_mv rfl) ?_)))))
    refine cutF 3 166 [(3, Sl.v acts), (10, .pointer b), (11, .pointer x4), (74, .bool ((!x1) || (Option.isNone b)))] ?_ ?_
    · simp only [List.take_succ_cons, List.take_zero]
      rcases Bool.eq_false_or_eq_true (!x1) with hg | hg
      · refine sno (wtF rfl rfl rfl (bg hg) rfl) (sno (wtF rfl rfl rfl (bg hg) rfl) (sv (R_pickT (bg hg) rfl) (wpList_nil ?_)))
        exact cutEnd ⟨rfl, rfl, rfl, (by rw [hg]; rfl), trivial⟩
      · refine svg (wtF rfl rfl rfl (bg hg) rfl) (R_mv rfl) (svg (wtF rfl rfl rfl (bg hg) rfl) (R_eqlPtrNilR (Try.runUnderlying24 _) rfl rfl rfl) (sv (R_pickF (bg hg) rfl) (wpList_nil ?_)))
        exact cutEnd ⟨rfl, rfl, rfl, (by rw [hg]; rfl), trivial⟩
    intro us
    simp only [List.drop_succ_cons, List.drop_zero]
    refine wpList_nil (then_normal ?_)
    refine C_split (t := ((!x1) || (Option.isNone b))) rfl (fun hc => ?_) (fun hc => ?_)
    · replace h := h.1 hc
      refine wp_seq (wp_region_lit (sv (R_as rfl) (wpList_nil (then_normal (wp_ret (then_ret ?_))))))
      exact ret1 Try.results6 ⟨rfl, trivial⟩ h
    · replace h := h.2 hc
      refine wp_skip (then_normal (wp_seq (wp_seq (wp_region_lit (sv (R_as rfl) (wpList_nil (then_normal (wp_block ?_))))))))
      obtain ⟨I_, nv1, h0, hI⟩ := h
      refine wp_loop_ghost (fun nv' a' w' => ∃ i : Int, (∃ us, a' = fr 166 us [(3, Sl.v acts), (10, .pointer b), (11, .pointer x4), (16, .int .i64 i)]) ∧ I_ nv' i w') nv1 ?_ ?_
      · exact ⟨_, fr_sub ⟨rfl, rfl, rfl, rfl, trivial⟩, h0⟩
      · clear h0
        rintro nv _ w_4 ⟨i, ⟨us1, rfl⟩, h⟩
        replace h := hI _ _ _ h
        refine wp_seq (wp_seq (wp_region_lit (sv (R_mv rfl) (sv (R_mv rfl) (sv (R_len (s := acts) (Try.runUnderlying22 _) rfl) (sv (R_lss rfl rfl) (sv (R_mv rfl) ?_)))))))
        refine cutF 3 166 [(3, Sl.v acts), (10, .pointer b), (11, .pointer x4), (16, .int .i64 i), (82, .bool ((decide (i < (↑(Sl.n acts) : Int))) && (decide (i < 100))))] ?_ ?_
        · simp only [List.take_succ_cons, List.take_zero]
          rcases Bool.eq_false_or_eq_true (decide (i < (↑(Sl.n acts) : Int))) with hg1 | hg1
          · refine svg (wtF rfl rfl rfl (bg hg1) rfl) (R_mv rfl) (svg (wtF rfl rfl rfl (bg hg1) rfl) (R_lss rfl rfl) (sv (R_pickT (bg hg1) rfl) (wpList_nil ?_)))
            exact cutEnd ⟨rfl, rfl, rfl, rfl, (by rw [hg1]; rfl), trivial⟩
          · refine sno (wtF rfl rfl rfl (bg hg1) rfl) (sno (wtF rfl rfl rfl (bg hg1) rfl) (sv (R_pickF (bg hg1) rfl) (wpList_nil ?_)))
            exact cutEnd ⟨rfl, rfl, rfl, rfl, (by rw [hg1]; rfl), trivial⟩
        intro us
        simp only [List.drop_succ_cons, List.drop_zero]
        refine wpList_nil (then_normal ?_)
        refine C_split (t := ((decide (i < (↑(Sl.n acts) : Int))) && (decide (i < 100)))) rfl (fun hc1 => ?_) (fun hc1 => ?_)
        · replace h := h.1 hc1
          refine wp_skip (then_normal (wp_seq (wp_block (wp_seq (wp_region_lit (sv (R_mv rfl) (sv (R_mv rfl) (sv (R_mv rfl) ?_))))))))
          obtain ⟨ad, hx, h⟩ := h
          refine sv (v := .pointer (some ad)) (R_indexS (s := acts) (Try.runUnderlying22 _) (Try.sizeOf29 _) rfl rfl hx) ?_
          obtain ⟨x0, x11, x21, x31, x41, hx1, h⟩ := h
          refine sv (v := .agg #[.int .i64 x0, .int .i64 x11, .int .i64 x21, .int .i64 x31, Sl.v x41]) (R_loadN (Try.isAgg29 _) (Try.sizeOf29 _) rfl rfl hx1) (st_one (wn rfl) ?_)
          refine O_enter (args := #[.pointer b, .agg #[.int .i64 x0, .int .i64 x11, .int .i64 x21, .int .i64 x31, Sl.v x41]]) (R_enter Try.call11 rfl) (h.mono ?_)
          clear h
          rintro _ w_5 ⟨x01, x12, x22, x32, rfl, h⟩
          refine ⟨_, rfl, ?_⟩
          refine sv (R_mv rfl) (sv (R_ext rfl rfl) (sv (R_ext rfl rfl) (sv (R_ext rfl rfl) (sv (R_ext rfl rfl) (sv (R_as rfl) (sv (R_as rfl) (sv (R_as rfl) (sv (R_as rfl) (wpList_nil (then_normal (wp_seq (wp_region_lit (sv (R_mv rfl) (sv (R_mv rfl) ?_))))))))))))))
          refine sv (R_mv rfl) ?_
          obtain ⟨ad1, hx2, h⟩ := h
          refine sv (v := .pointer (some ad1)) (R_indexS (s := acts) (Try.runUnderlying22 _) (Try.sizeOf29 _) rfl rfl hx2) ?_
          obtain ⟨x02, x13, x23, x33, x42, hx3, h⟩ := h
          refine sv (v := .agg #[.int .i64 x02, .int .i64 x13, .int .i64 x23, .int .i64 x33, Sl.v x42]) (R_loadN (Try.isAgg29 _) (Try.sizeOf29 _) rfl rfl hx3) (st_one (wn rfl) ?_)
          refine O_enter (args := #[.pointer x4, .agg #[.int .i64 x02, .int .i64 x13, .int .i64 x23, .int .i64 x33, Sl.v x42]]) (R_enter Try.call20 rfl) (h.mono ?_)
          clear h
          rintro _ w_6 ⟨x03, x14, x24, x34, rfl, h⟩
          refine ⟨_, rfl, ?_⟩
          refine sv (R_mv rfl) (sv (R_ext rfl rfl) (sv (R_ext rfl rfl) (sv (R_ext rfl rfl) (sv (R_ext rfl rfl) (sv (R_as rfl) (sv (R_as rfl) (sv (R_as rfl) (sv (R_as rfl) (wpList_nil (then_normal (wp_seq ?_)))))))))))
          obtain ⟨J_1, hJ1, h⟩ := h
          refine wp_cut (fun a' w' => ∃ same : Bool, (∃ us, a' = fr 166 us [(3, Sl.v acts), (10, .pointer b), (11, .pointer x4), (16, .int .i64 i), (17, .int .i64 x01), (18, .int .i64 x12), (19, Sl.v x22), (21, .int .i64 x03), (22, .int .i64 x14), (25, .bool same)]) ∧ J_1 same w') ?_ ?_
          · clear h
            rintro _ w_7 ⟨same, ⟨us2, rfl⟩, h⟩
            replace h := hJ1 _ _ h
            refine then_normal (wp_seq (wp_region_lit (sv (R_mv rfl) ?_)))
            obtain ⟨x5, w_8, hr, h⟩ := h
            refine st_one (wn rfl) (O_val (v := (Sl.v x5)) (R_buildSlice rfl hr) (st_one (wn rfl) ?_))
            refine O_enter (args := #[Sl.v x5]) (R_enter Try.call22 rfl) (h.mono ?_)
            clear h
            rintro _ w_9 ⟨x6, rfl, h⟩
            refine ⟨_, rfl, ?_⟩
            refine wpList_nil (then_normal (wp_seq (wp_region_lit (sv (R_mv rfl) ?_))))
            obtain ⟨ad2, hx4, h⟩ := h
            refine sv (v := .pointer (some ad2)) (R_nil (pg hx4)) (sv (v := .pointer (some (Addr.add ad2 0))) (R_field (Try.runUnderlying47 _) rfl (Try.sizeOf45 _) rfl rfl) (st_one (wn rfl) ?_))
            refine O_enter (args := #[.pointer (some (Addr.add ad2 0))]) (R_enter Try.call14 rfl) (h.mono ?_)
            clear h
            rintro _ w_10 ⟨x7, rfl, h⟩
            refine ⟨_, rfl, ?_⟩
            refine sv (R_as rfl) (wpList_nil (then_normal (wp_seq (wp_region_lit (sv (R_mv rfl) (sv (R_mv rfl) (st_one (wn rfl) ?_)))))))
            refine O_enter (args := #[.pointer x4]) (R_enter Try.call23 rfl) (h.mono ?_)
            clear h
            rintro _ w_11 ⟨x8, rfl, h⟩
            refine ⟨_, rfl, ?_⟩
            refine st_one (wn rfl) ?_
            refine O_enter (args := #[Sl.v x7, Sl.v x8]) (R_enter Try.call19 rfl) (h.mono ?_)
            clear h
            rintro _ w_12 ⟨x9, rfl, h⟩
            refine ⟨_, rfl, ?_⟩
            refine sv (R_as rfl) (wpList_nil (then_normal (wp_seq (wp_region_lit (sv (R_mv rfl) (st_one (wn rfl) ?_))))))
            refine O_enter (args := #[Sl.v x7]) (R_enter Try.call24 rfl) (h.mono ?_)
            clear h
            rintro _ w_13 ⟨rfl, h⟩
            refine ⟨_, rfl, ?_⟩
            refine wpList_nil (then_normal (wp_seq (wp_region_lit (sv (R_mv rfl) ?_))))
            obtain ⟨ad3, hx5, h⟩ := h
            refine sv (v := .pointer (some ad3)) (R_nil (pg hx5)) (sv (v := .pointer (some (Addr.add ad3 0))) (R_field (Try.runUnderlying47 _) rfl (Try.sizeOf45 _) rfl rfl) (st_one (wn rfl) ?_))
            refine O_enter (args := #[.pointer (some (Addr.add ad3 0))]) (R_enter Try.call14 rfl) (h.mono ?_)
            clear h
            rintro _ w_14 ⟨x10, rfl, h⟩
            refine ⟨_, rfl, ?_⟩
            refine sv (R_mv rfl) (st_one (wn rfl) ?_)
            refine O_enter (args := #[.pointer x4]) (R_enter Try.call23 rfl) (h.mono ?_)
            clear h
            rintro _ w_15 ⟨x15, rfl, h⟩
            refine ⟨_, rfl, ?_⟩
            refine st_one (wn rfl) ?_
            refine O_enter (args := #[Sl.v x10, Sl.v x15]) (R_enter Try.call19 rfl) (h.mono ?_)
            clear h
            rintro _ w_16 ⟨x16, rfl, h⟩
            refine ⟨_, rfl, ?_⟩
            refine sv (R_as rfl) (wpList_nil (then_normal (wp_seq ?_)))
            obtain ⟨J_2, hJ2, h⟩ := h
            refine wp_cut (fun a' w' => ∃ t165 : Bool, (∃ us, a' = fr 166 us [(3, Sl.v acts), (10, .pointer b), (11, .pointer x4), (16, .int .i64 i), (165, .bool t165)]) ∧ J_2 t165 w') ?_ ?_
            · clear h
              rintro _ w_17 ⟨t165, ⟨us3, rfl⟩, h⟩
              replace h := hJ2 _ _ h
              refine then_normal ?_
              refine C_split (t := t165) rfl (fun hc2 => ?_) (fun hc2 => ?_)
              · replace h := h.1 hc2
                refine wp_seq (wp_region_lit (sv (R_as rfl) (wpList_nil (then_normal (wp_ret (block_ret (then_ret (then_ret (block_ret (then_ret ?_))))))))))
                exact ret1 Try.results6 ⟨rfl, trivial⟩ h
              · replace h := h.2 hc2
                refine wp_skip (block_normal (then_normal (wp_region_lit (sv (R_mv rfl) (sv (R_add rfl rfl) (sv (R_as rfl) (wpList_nil (then_normal ?_))))))))
                obtain ⟨nv2, hl, h⟩ := h
                exact ⟨nv2, hl, _, fr_sub ⟨rfl, rfl, rfl, rfl, trivial⟩, h⟩
            · refine e_region (EL [(22, [(ptrBlk x4)])]) Try.checked.mixed ?_
              have hO := Only.drew w_16
              generalize w_16.drew = w_18 at *
              have hA : Only [] w_16 w_18 := hO
              refine eQ 0 rfl rfl (wn rfl) (fun _ => (R_mv rfl)) (eQ 1 rfl rfl (wn rfl) (fun _ => (R_mv rfl)) (eQ 2 rfl rfl (wn rfl) (fun _ => (R_neq rfl rfl)) (eQ 3 rfl rfl (wn rfl) (fun _ => (R_mv rfl)) ?_)))
              replace h := h w_18 hA
              rcases Bool.eq_false_or_eq_true (x01 != x03) with hg2 | hg2
              · replace h := h.1 hg2
                refine eN 4 rfl (fun w => el_quiet rfl w) (wtF rfl rfl rfl (bg hg2) rfl) (eN 5 rfl (fun w => el_quiet rfl w) (wtF rfl rfl rfl (bg hg2) rfl) (eN 6 rfl (fun w => el_quiet rfl w) (wtF rfl rfl rfl (bg hg2) rfl) (eQ 7 rfl rfl (wn rfl) (fun _ => (R_pickT (bg hg2) rfl)) (eQ 8 rfl rfl (wn rfl) (fun _ => (R_mv rfl)) (eN 9 rfl (fun w => el_quiet rfl w) (wtF rfl rfl rfl rfl rfl) (eN 10 rfl (fun w => el_quiet rfl w) (wtF rfl rfl rfl rfl rfl) (eQ 11 rfl rfl (wn rfl) (fun _ => (R_pickT rfl rfl)) (eQ 12 rfl rfl (wn rfl) (fun _ => (R_mv rfl)) (eN 13 rfl (fun w => el_quiet rfl w) (wtF rfl rfl rfl rfl rfl) (eN 14 rfl (fun w => el_quiet rfl w) (wtF rfl rfl rfl rfl rfl) (eQ 15 rfl rfl (wn rfl) (fun _ => (R_pickT rfl rfl)) (eQ 16 rfl rfl (wn rfl) (fun _ => (R_mv rfl)) (eN 17 rfl (fun w => el_quiet rfl w) (wtF rfl rfl rfl rfl rfl) (eN 18 rfl (fun w => el_quiet rfl w) (wtF rfl rfl rfl rfl rfl) ?_))))))))))))))
                refine eQ 19 rfl rfl (wn rfl) (fun _ => (R_pickT rfl rfl)) (eQ 20 rfl rfl (wn rfl) (fun _ => (R_mv rfl)) (eN 21 rfl (fun w => el_quiet rfl w) (wtF rfl rfl rfl rfl rfl) (eN 22 rfl (fun w => el_loud rfl (Same.refl _ w)) (wtF rfl rfl rfl rfl rfl) (eN 23 rfl (fun w => el_quiet rfl w) (wtF rfl rfl rfl rfl rfl) (eN 24 rfl (fun w => el_quiet rfl w) (wtF rfl rfl rfl rfl rfl) (eN 25 rfl (fun w => el_quiet rfl w) (wtF rfl rfl rfl rfl rfl) (eN 26 rfl (fun w => el_quiet rfl w) (wtF rfl rfl rfl rfl rfl) (eN 27 rfl (fun w => el_quiet rfl w) (wtF rfl rfl rfl rfl rfl) (eQ 28 rfl rfl (wn rfl) (fun _ => (R_pickT rfl rfl)) (e_done (by kernel_rfl) ?_))))))))))
                exact then_normal ⟨_, fr_sub ⟨rfl, rfl, rfl, rfl, rfl, trivial⟩, h⟩
              · replace h := h.2 hg2
                refine eQ 4 rfl rfl (wtF rfl rfl rfl (bg hg2) rfl) (fun _ => (R_mv rfl)) (eQ 5 rfl rfl (wtF rfl rfl rfl (bg hg2) rfl) (fun _ => (R_mv rfl)) (eQ 6 rfl rfl (wtF rfl rfl rfl (bg hg2) rfl) (fun _ => (R_neq rfl rfl)) (eQ 7 rfl rfl (wn rfl) (fun _ => (R_pickF (bg hg2) rfl)) (eQ 8 rfl rfl (wn rfl) (fun _ => (R_mv rfl)) ?_))))
                rcases Bool.eq_false_or_eq_true (x12 != x14) with hg3 | hg3
                · replace h := h.1 hg3
                  refine eN 9 rfl (fun w => el_quiet rfl w) (wtF rfl rfl rfl (bg hg3) rfl) (eN 10 rfl (fun w => el_quiet rfl w) (wtF rfl rfl rfl (bg hg3) rfl) (eQ 11 rfl rfl (wn rfl) (fun _ => (R_pickT (bg hg3) rfl)) (eQ 12 rfl rfl (wn rfl) (fun _ => (R_mv rfl)) (eN 13 rfl (fun w => el_quiet rfl w) (wtF rfl rfl rfl rfl rfl) (eN 14 rfl (fun w => el_quiet rfl w) (wtF rfl rfl rfl rfl rfl) (eQ 15 rfl rfl (wn rfl) (fun _ => (R_pickT rfl rfl)) (eQ 16 rfl rfl (wn rfl) (fun _ => (R_mv rfl)) (eN 17 rfl (fun w => el_quiet rfl w) (wtF rfl rfl rfl rfl rfl) (eN 18 rfl (fun w => el_quiet rfl w) (wtF rfl rfl rfl rfl rfl) (eQ 19 rfl rfl (wn rfl) (fun _ => (R_pickT rfl rfl)) (eQ 20 rfl rfl (wn rfl) (fun _ => (R_mv rfl)) (eN 21 rfl (fun w => el_quiet rfl w) (wtF rfl rfl rfl rfl rfl) (eN 22 rfl (fun w => el_loud rfl (Same.refl _ w)) (wtF rfl rfl rfl rfl rfl) (eN 23 rfl (fun w => el_quiet rfl w) (wtF rfl rfl rfl rfl rfl) ?_))))))))))))))
                  refine eN 24 rfl (fun w => el_quiet rfl w) (wtF rfl rfl rfl rfl rfl) (eN 25 rfl (fun w => el_quiet rfl w) (wtF rfl rfl rfl rfl rfl) (eN 26 rfl (fun w => el_quiet rfl w) (wtF rfl rfl rfl rfl rfl) (eN 27 rfl (fun w => el_quiet rfl w) (wtF rfl rfl rfl rfl rfl) (eQ 28 rfl rfl (wn rfl) (fun _ => (R_pickT rfl rfl)) (e_done (by kernel_rfl) ?_)))))
                  exact then_normal ⟨_, fr_sub ⟨rfl, rfl, rfl, rfl, rfl, trivial⟩, h⟩
                · replace h := h.2 hg3
                  refine eQ 9 rfl rfl (wtF rfl rfl rfl (bg hg3) rfl) (fun _ => (R_mv rfl)) (eQ 10 rfl rfl (wtF rfl rfl rfl (bg hg3) rfl) (fun _ => (R_not rfl)) (eQ 11 rfl rfl (wn rfl) (fun _ => (R_pickF (bg hg3) rfl)) (eQ 12 rfl rfl (wn rfl) (fun _ => (R_mv rfl)) ?_)))
                  rcases Bool.eq_false_or_eq_true (!same) with hg4 | hg4
                  · replace h := h.1 hg4
                    refine eN 13 rfl (fun w => el_quiet rfl w) (wtF rfl rfl rfl (bg hg4) rfl) (eN 14 rfl (fun w => el_quiet rfl w) (wtF rfl rfl rfl (bg hg4) rfl) (eQ 15 rfl rfl (wn rfl) (fun _ => (R_pickT (bg hg4) rfl)) (eQ 16 rfl rfl (wn rfl) (fun _ => (R_mv rfl)) (eN 17 rfl (fun w => el_quiet rfl w) (wtF rfl rfl rfl rfl rfl) (eN 18 rfl (fun w => el_quiet rfl w) (wtF rfl rfl rfl rfl rfl) (eQ 19 rfl rfl (wn rfl) (fun _ => (R_pickT rfl rfl)) (eQ 20 rfl rfl (wn rfl) (fun _ => (R_mv rfl)) (eN 21 rfl (fun w => el_quiet rfl w) (wtF rfl rfl rfl rfl rfl) (eN 22 rfl (fun w => el_loud rfl (Same.refl _ w)) (wtF rfl rfl rfl rfl rfl) (eN 23 rfl (fun w => el_quiet rfl w) (wtF rfl rfl rfl rfl rfl) (eN 24 rfl (fun w => el_quiet rfl w) (wtF rfl rfl rfl rfl rfl) (eN 25 rfl (fun w => el_quiet rfl w) (wtF rfl rfl rfl rfl rfl) (eN 26 rfl (fun w => el_quiet rfl w) (wtF rfl rfl rfl rfl rfl) (eN 27 rfl (fun w => el_quiet rfl w) (wtF rfl rfl rfl rfl rfl) ?_))))))))))))))
                    refine eQ 28 rfl rfl (wn rfl) (fun _ => (R_pickT rfl rfl)) (e_done (by kernel_rfl) ?_)
                    exact then_normal ⟨_, fr_sub ⟨rfl, rfl, rfl, rfl, rfl, trivial⟩, h⟩
                  · replace h := h.2 hg4
                    refine eQ 13 rfl rfl (wtF rfl rfl rfl (bg hg4) rfl) (fun _ => (R_mv rfl)) (eQ 14 rfl rfl (wtF rfl rfl rfl (bg hg4) rfl) (fun _ => (R_not rfl)) (eQ 15 rfl rfl (wn rfl) (fun _ => (R_pickF (bg hg4) rfl)) (eQ 16 rfl rfl (wn rfl) (fun _ => (R_mv rfl)) ?_)))
                    rcases Bool.eq_false_or_eq_true (!x9) with hg5 | hg5
                    · replace h := h.1 hg5
                      refine eN 17 rfl (fun w => el_quiet rfl w) (wtF rfl rfl rfl (bg hg5) rfl) (eN 18 rfl (fun w => el_quiet rfl w) (wtF rfl rfl rfl (bg hg5) rfl) (eQ 19 rfl rfl (wn rfl) (fun _ => (R_pickT (bg hg5) rfl)) (eQ 20 rfl rfl (wn rfl) (fun _ => (R_mv rfl)) (eN 21 rfl (fun w => el_quiet rfl w) (wtF rfl rfl rfl rfl rfl) (eN 22 rfl (fun w => el_loud rfl (Same.refl _ w)) (wtF rfl rfl rfl rfl rfl) (eN 23 rfl (fun w => el_quiet rfl w) (wtF rfl rfl rfl rfl rfl) (eN 24 rfl (fun w => el_quiet rfl w) (wtF rfl rfl rfl rfl rfl) (eN 25 rfl (fun w => el_quiet rfl w) (wtF rfl rfl rfl rfl rfl) (eN 26 rfl (fun w => el_quiet rfl w) (wtF rfl rfl rfl rfl rfl) (eN 27 rfl (fun w => el_quiet rfl w) (wtF rfl rfl rfl rfl rfl) (eQ 28 rfl rfl (wn rfl) (fun _ => (R_pickT rfl rfl)) (e_done (by kernel_rfl) ?_))))))))))))
                      exact then_normal ⟨_, fr_sub ⟨rfl, rfl, rfl, rfl, rfl, trivial⟩, h⟩
                    · replace h := h.2 hg5
                      refine eQ 17 rfl rfl (wtF rfl rfl rfl (bg hg5) rfl) (fun _ => (R_mv rfl)) (eQ 18 rfl rfl (wtF rfl rfl rfl (bg hg5) rfl) (fun _ => (R_not rfl)) (eQ 19 rfl rfl (wn rfl) (fun _ => (R_pickF (bg hg5) rfl)) (eQ 20 rfl rfl (wn rfl) (fun _ => (R_mv rfl)) ?_)))
                      rcases Bool.eq_false_or_eq_true (!x16) with hg6 | hg6
                      · replace h := h.1 hg6
                        refine eN 21 rfl (fun w => el_quiet rfl w) (wtF rfl rfl rfl (bg hg6) rfl) (eN 22 rfl (fun w => el_loud rfl (Same.refl _ w)) (wtF rfl rfl rfl (bg hg6) rfl) (eN 23 rfl (fun w => el_quiet rfl w) (wtF rfl rfl rfl (bg hg6) rfl) (eN 24 rfl (fun w => el_quiet rfl w) (wtF rfl rfl rfl (bg hg6) rfl) (eN 25 rfl (fun w => el_quiet rfl w) (wtF rfl rfl rfl (bg hg6) rfl) (eN 26 rfl (fun w => el_quiet rfl w) (wtF rfl rfl rfl (bg hg6) rfl) (eN 27 rfl (fun w => el_quiet rfl w) (wtF rfl rfl rfl (bg hg6) rfl) (eQ 28 rfl rfl (wn rfl) (fun _ => (R_pickT (bg hg6) rfl)) (e_done (by kernel_rfl) ?_))))))))
                        exact then_normal ⟨_, fr_sub ⟨rfl, rfl, rfl, rfl, rfl, trivial⟩, h⟩
                      · replace h := h.2 hg6
                        refine eQ 21 rfl rfl (wtF rfl rfl rfl (bg hg6) rfl) (fun _ => (R_mv rfl)) (eQ 23 rfl rfl (wtF rfl rfl rfl (bg hg6) rfl) (fun _ => (R_mv rfl)) ?_)
                        obtain ⟨ad4, hx6, h⟩ := h
                        refine eQ 24 (v := .pointer (some ad4)) rfl rfl (wtF rfl rfl rfl (bg hg6) rfl) (fun _ => (R_nil (pg hx6))) (eQ 25 (v := .pointer (some (Addr.add ad4 1))) rfl rfl (wtF rfl rfl rfl (bg hg6) rfl) (fun _ => (R_field (Try.runUnderlying64 _) rfl (Try.sizeOf3 _) rfl rfl)) ?_)
                        obtain ⟨x17, hx7, h⟩ := h
                        refine eL 26 [27, 28] [0, 1, 2, 3, 4, 5, 6, 7, 8, 9, 10, 11, 12, 13, 14, 15, 16, 17, 18, 19, 20, 21, 23, 24, 25] (fun w' => Cells w' (Addr.add ad4 1) [.int .i64 x17]) (v := .int .i64 x17) rfl rfl (el_stable (b := (ptrBlk x4)) (List.forall_mem_cons.2 ⟨.inr (.inr (.head _)), List.forall_mem_nil _⟩) (keep_cells_b (by simp only [addr_blk, ptrBlk, hx6]))) hx7 (y_val (wtF rfl rfl rfl (bg hg6) rfl) (fun w' hw' => (R_load1 (Try.isAgg3 _) rfl (Cells.one hw')))) (e_one 22 rfl (by kernel_rfl) (wtF rfl rfl rfl (bg hg6) rfl) ?_)
                        refine O_enter (args := #[.pointer b]) (R_enter Try.call15 rfl) (h.mono ?_)
                        clear h
                        rintro _ w_19 ⟨x18, rfl, hs14, h⟩
                        refine ⟨_, rfl, ?_⟩
                        refine ⟨el_loud rfl hs14, ?_⟩
                        refine eQ 27 rfl rfl (wtF rfl rfl rfl (bg hg6) rfl) (fun _ => (R_neq rfl rfl)) (eQ 28 rfl rfl (wn rfl) (fun _ => (R_pickF (bg hg6) rfl)) (e_done (by kernel_rfl) ?_))
                        exact then_normal ⟨_, fr_sub ⟨rfl, rfl, rfl, rfl, rfl, trivial⟩, h⟩
          · refine wp_region_lit (sv (R_mv rfl) ?_)
            obtain ⟨bs, hx8, h⟩ := h
            refine sv (v := .string (⟨List.toArray bs⟩ : ByteArray)) (R_bytesStr (sl := x22) Try.underlying27 Try.underlying5 Try.underlying9 rfl hx8) (sv (R_mv rfl) ?_)
            obtain ⟨bs1, hx9, h⟩ := h
            refine sv (v := .string (⟨List.toArray bs1⟩ : ByteArray)) (R_bytesStr (sl := x24) Try.underlying27 Try.underlying5 Try.underlying9 rfl hx9) (sv (R_seql rfl rfl) (sv (R_mv rfl) ?_))
            rcases Bool.eq_false_or_eq_true ((⟨List.toArray bs⟩ : ByteArray).toList == (⟨List.toArray bs1⟩ : ByteArray).toList) with hg7 | hg7
            · replace h := h.1 hg7
              refine svg (wtF rfl rfl rfl (bg hg7) rfl) (R_mv rfl) (svg (wtF rfl rfl rfl (bg hg7) rfl) (R_mv rfl) (st_one (wtF rfl rfl rfl (bg hg7) rfl) ?_))
              refine O_enter (args := #[Sl.v x32, Sl.v x34]) (R_enter Try.call21 rfl) (h.mono ?_)
              clear h
              rintro _ w_20 ⟨x19, rfl, h⟩
              refine ⟨_, rfl, ?_⟩
              refine sv (R_pickT (bg hg7) rfl) (sv (R_as rfl) (wpList_nil ?_))
              exact then_normal ⟨_, fr_sub ⟨rfl, rfl, rfl, rfl, rfl, rfl, rfl, rfl, rfl, rfl, trivial⟩, h⟩
            · replace h := h.2 hg7
              refine sno (wtF rfl rfl rfl (bg hg7) rfl) (sno (wtF rfl rfl rfl (bg hg7) rfl) (sno (wtF rfl rfl rfl (bg hg7) rfl) (sv (R_pickF (bg hg7) rfl) (sv (R_as rfl) (wpList_nil ?_)))))
              exact then_normal ⟨_, fr_sub ⟨rfl, rfl, rfl, rfl, rfl, rfl, rfl, rfl, rfl, rfl, trivial⟩, h⟩
        · replace h := h.2 hc1
          refine wp_exit (then_exit (then_exit (block_hit (then_normal (wp_seq (wp_region_lit (sv (R_as rfl) (wpList_nil (then_normal (wp_ret ?_))))))))))
          exact ret1 Try.results6 ⟨rfl, trivial⟩ h
  · clear hJ
    refine wp_seq (wp_region_lit (sv (R_mv rfl) (sv (R_not rfl) (wpList_nil (then_normal ?_)))))
    refine C_split (t := (!fresh)) rfl (fun hc3 => ?_) (fun hc3 => ?_)
    · replace h := h.1 hc3
      refine wp_seq (wp_region_lit ?_)
      obtain ⟨x20, w_21, hr1, h⟩ := h
      refine st_one (wn rfl) (O_val (v := (Sl.v x20)) (R_buildSlice rfl hr1) (sv (R_mv rfl) ?_))
      obtain ⟨x25, w_22, hr2, h⟩ := h
      refine st_one (wn rfl) (O_val (v := (Sl.v x25)) (R_builtin_append rfl hr2) (sv (R_as rfl) (wpList_nil (then_normal (wp_seq (wp_region_lit (sv (R_as rfl) (sv (R_as rfl) (wpList_nil (then_normal (wp_seq (wp_region_lit (sv (R_mv rfl) (sv (R_mv rfl) ?_))))))))))))))
      refine st_one (wn rfl) ?_
      refine O_enter (args := #[Sl.v x25, .int .i64 next_]) (R_enter Try.call17 rfl) (h.mono ?_)
      clear h
      rintro _ w_23 ⟨x04, x110, rfl, h⟩
      refine ⟨_, rfl, ?_⟩
      refine sv (R_mv rfl) (sv (R_ext rfl rfl) (sv (R_ext rfl rfl) (sv (R_as rfl) (sv (R_as rfl) (wpList_nil (then_normal (wp_seq (wp_region_lit (sv (R_mv rfl) (sv (R_mv rfl) (st_one (wn rfl) ?_)))))))))))
      refine O_enter (args := #[Sl.v l, .int .i64 next_]) (R_enter Try.call18 rfl) (h.mono ?_)
      clear h
      rintro _ w_24 ⟨x05, x111, rfl, h⟩
      refine ⟨_, rfl, ?_⟩
      refine sv (R_mv rfl) (sv (R_ext rfl rfl) (sv (R_ext rfl rfl) (sv (R_as rfl) (sv (R_as rfl) (wpList_nil (then_normal (wp_seq (wp_region_lit (sv (R_mv rfl) (sv (R_mv rfl) (st_one (wn rfl) ?_)))))))))))
      refine O_enter (args := #[Sl.v x25, Sl.v l]) (R_enter Try.call19 rfl) (h.mono ?_)
      clear h
      rintro _ w_25 ⟨x26, rfl, h⟩
      refine ⟨_, rfl, ?_⟩
      refine sv (R_as rfl) (wpList_nil (then_normal (wp_seq (wp_seq (wp_region_lit (sv (R_mv rfl) (sv (R_mv rfl) (sv (R_neq rfl rfl) (sv (R_mv rfl) ?_)))))))))
      refine cutF 3 166 [(3, Sl.v acts), (9, .bool x1), (10, .pointer x04), (11, .pointer x05), (14, .int .i64 x111), (58, .bool ((x110 != x111) || (!x26)))] ?_ ?_
      · simp only [List.take_succ_cons, List.take_zero]
        rcases Bool.eq_false_or_eq_true (x110 != x111) with hg8 | hg8
        · refine sno (wtF rfl rfl rfl (bg hg8) rfl) (sno (wtF rfl rfl rfl (bg hg8) rfl) (sv (R_pickT (bg hg8) rfl) (wpList_nil ?_)))
          exact cutEnd ⟨rfl, rfl, rfl, rfl, rfl, (by rw [hg8]; rfl), trivial⟩
        · refine svg (wtF rfl rfl rfl (bg hg8) rfl) (R_mv rfl) (svg (wtF rfl rfl rfl (bg hg8) rfl) (R_not rfl) (sv (R_pickF (bg hg8) rfl) (wpList_nil ?_)))
          exact cutEnd ⟨rfl, rfl, rfl, rfl, rfl, (by rw [hg8]; rfl), trivial⟩
      intro us
      simp only [List.drop_succ_cons, List.drop_zero]
      refine sv (R_mv rfl) ?_
      refine cutF 6 166 [(3, Sl.v acts), (9, .bool x1), (10, .pointer x04), (11, .pointer x05), (14, .int .i64 x111), (65, .bool (((x110 != x111) || (!x26)) || (!((Option.isNone x04) == (x111 != 0)))))] ?_ ?_
      · simp only [List.take_succ_cons, List.take_zero]
        rcases Bool.eq_false_or_eq_true ((x110 != x111) || (!x26)) with hg9 | hg9
        · refine sno (wtF rfl rfl rfl (bg hg9) rfl) (sno (wtF rfl rfl rfl (bg hg9) rfl) (sno (wtF rfl rfl rfl (bg hg9) rfl) (sno (wtF rfl rfl rfl (bg hg9) rfl) (sno (wtF rfl rfl rfl (bg hg9) rfl) (sv (R_pickT (bg hg9) rfl) (wpList_nil ?_))))))
          exact cutEnd ⟨rfl, rfl, rfl, rfl, rfl, (by rw [hg9]; rfl), trivial⟩
        · refine svg (wtF rfl rfl rfl (bg hg9) rfl) (R_mv rfl) (svg (wtF rfl rfl rfl (bg hg9) rfl) (R_eqlPtrNilR (Try.runUnderlying24 _) rfl rfl rfl) (svg (wtF rfl rfl rfl (bg hg9) rfl) (R_mv rfl) (svg (wtF rfl rfl rfl (bg hg9) rfl) (R_neq rfl rfl) (svg (wtF rfl rfl rfl (bg hg9) rfl) (R_neqBool Try.underlying4 rfl rfl) (sv (R_pickF (bg hg9) rfl) (wpList_nil ?_))))))
          exact cutEnd ⟨rfl, rfl, rfl, rfl, rfl, (by rw [hg9]; rfl), trivial⟩
      intro us
      simp only [List.drop_succ_cons, List.drop_zero]
      refine wpList_nil (then_normal ?_)
      refine C_split (t := (((x110 != x111) || (!x26)) || (!((Option.isNone x04) == (x111 != 0))))) rfl (fun hc4 => ?_) (fun hc4 => ?_)
      · replace h := h.1 hc4
        refine wp_seq (wp_region_lit (sv (R_as rfl) (wpList_nil (then_normal (wp_ret (then_ret (then_ret ?_)))))))
        exact ret1 Try.results6 ⟨rfl, trivial⟩ h
      · replace h := h.2 hc4
        refine wp_skip (then_normal (wp_seq (wp_region_lit (sv (R_mv rfl) (sv (R_neq rfl rfl) (wpList_nil (then_normal ?_)))))))
        refine C_split (t := (x111 != 0)) rfl (fun hc5 => ?_) (fun hc5 => ?_)
        · replace h := h.1 hc5
          refine wp_seq (wp_region_lit (sv (R_mv rfl) (sv (R_as rfl) (wpList_nil (then_normal (wp_ret (then_ret ?_)))))))
          exact ret1 Try.results6 ⟨rfl, trivial⟩ h
        · replace h := h.2 hc5
          refine wp_skip (then_normal ?_)
          exact ⟨_, _, fr_sub ⟨rfl, rfl, rfl, rfl, trivial⟩, h⟩
    · replace h := h.2 hc3
      refine wp_skip (then_normal ?_)
      exact ⟨_, _, fr_sub ⟨rfl, rfl, rfl, rfl, trivial⟩, h⟩

/-- what is to be shown of a call of pavanelaw19.SessionOnce -/
def pavanelaw19_SessionOnce_vc (acts : Sl) (R : Value → World → Prop) (w : World) : Prop :=
  Calls Try.prog 8 #[] w (fun e w_ => ∃ x1 : Bool, e = .returned (.bool x1) ∧
  Calls Try.prog 9 #[] w_ (fun e w_1 => ∃ x2 : Option Addr, e = .returned (.pointer x2) ∧
  ((((!x1) || (Option.isNone x2)) = true →
  R (.bool false) w_1) ∧
  (((!x1) || (Option.isNone x2)) = false →
  ∃ x3 : Option Nat, ∃ w_2 : World, (Instr.makeMap 26 none).run Try.prog w_1 = .ok (.map x3) w_2 ∧
  ∃ (I_ : Nat → Int → Int → World → Prop) (nv1 : Nat), I_ nv1 0 0 w_2 ∧
  ∀ (nv : Nat) (given : Int) (i : Int) (w_3 : World), I_ nv given i w_3 →
  ((((decide (i < (↑(Sl.n acts) : Int))) && (decide (i < 100))) = true →
  ∃ ad : Addr, SlAt acts i 5 ad ∧
  ∃ x0 : Int, ∃ x11 : Int, ∃ x21 : Int, ∃ x31 : Int, ∃ x4 : Sl, Cells w_3 ad [.int .i64 x0, .int .i64 x11, .int .i64 x21, .int .i64 x31, Sl.v x4] ∧
  ∀ (b : Nat) (w_5 : World), w_3.heap.size ≤ b → b < w_5.heap.size → Only [] w_3 w_5 →
  ∃ x01 : Int, ∃ x12 : Bool, ∃ w_6 : World, (Instr.lookup 26 (.map x3) (.int .i64 x11) true).run Try.prog w_5 = .ok (.tuple #[.int .i64 x01, .bool x12]) w_6 ∧ Same [b] w_5 w_6 ∧
  Calls Try.prog 10 #[.pointer x2, .int .i64 x11, .int .i64 x21] w_6 (fun e w_7 => ∃ x02 : Int, ∃ x13 : Sl, e = .returned (.tuple #[.int .i64 x02, Sl.v x13]) ∧ Same [b] w_6 w_7 ∧
  ((((!(x12 == (x02 != 4))) || (x12 && (!((x02 == 1) == ((decide (x21 > x01)) && (decide (x21 > 0))))))) = true →
  R (.bool false) w_7) ∧
  (((!(x12 == (x02 != 4))) || (x12 && (!((x02 == 1) == ((decide (x21 > x01)) && (decide (x21 > 0))))))) = false →
  Calls Try.prog 11 #[.pointer x2, .agg #[.int .i64 x0, .int .i64 x11, .int .i64 x21, .int .i64 x31, Sl.v x4]] w_7 (fun e w_8 => ∃ x03 : Int, ∃ x14 : Int, ∃ x22 : Sl, ∃ x32 : Sl, e = .returned (.tuple #[.int .i64 x03, .int .i64 x14, Sl.v x22, Sl.v x32]) ∧ Same [b] w_7 w_8 ∧
  ∃ J_ : Int → World → Prop, (∀ (given1 : Int) (w_9 : World), J_ given1 w_9 →
  ∃ J_1 : World → Prop, (∀ (w_10 : World), J_1 w_10 →
  ∃ (I_1 : Nat → Int → World → Prop) (nv3 : Nat), I_1 nv3 0 w_10 ∧
  ∀ (nv2 : Nat) (k : Int) (w_11 : World), I_1 nv2 k w_11 →
  (((decide (k < (↑(Sl.n x32) : Int))) = true →
  ∃ ad1 : Addr, SlAt x32 k 1 ad1 ∧
  ∃ x5 : Int, Cells w_11 ad1 [.int .i64 x5] ∧
  ∃ w_12 : World, (Builtin.delete_ #[26, 3] 0 #[.map x3, .int .i64 x5]).run Try.prog w_11 = .ok (.tuple #[]) w_12 ∧ Same [b] w_11 w_12 ∧
  ∃ nv4 : Nat, nv4 < nv2 ∧ I_1 nv4 (IntKind.i64.wrap (k + 1)) w_12) ∧
  ((decide (k < (↑(Sl.n x32) : Int))) = false →
  ∃ nv5 : Nat, nv5 < nv ∧ I_ nv5 given1 (IntKind.i64.wrap (i + 1)) w_11))) ∧
  (((((x0 == 2) && (x14 == 0)) = true →
  (((x02 != 1) = true →
  R (.bool false) w_9) ∧
  ((x02 != 1) = false →
  ∃ w_13 : World, (Instr.mapUpdate 26 (.map x3) (.int .i64 x11) (.int .i64 x21)).run Try.prog w_9 = .ok () w_13 ∧ Same [b] w_9 w_13 ∧
  J_1 w_13))) ∧
  (((x0 == 2) && (x14 == 0)) = false →
  J_1 w_9)))) ∧
  (((((x0 == 0) && (x14 == 0)) = true →
  (((decide (x03 ≤ given)) = true →
  R (.bool false) w_8) ∧
  ((decide (x03 ≤ given)) = false →
  ∃ w_14 : World, (Instr.mapUpdate 26 (.map x3) (.int .i64 x03) (.int .i64 0)).run Try.prog w_8 = .ok () w_14 ∧ Same [b] w_8 w_14 ∧
  J_ x03 w_14))) ∧
  (((x0 == 0) && (x14 == 0)) = false →
  J_ given w_8)))))))) ∧
  (((decide (i < (↑(Sl.n acts) : Int))) && (decide (i < 100))) = false →
  R (.bool true) w_3))))))
theorem pavanelaw19_SessionOnce_wp (acts : Sl) (R : Value → World → Prop) (w : World) (h : pavanelaw19_SessionOnce_vc acts R w) :
    Calls Try.prog 3 #[Sl.v acts] w fun e w' => ∃ v, e = .returned v ∧ R v w' := by
  unfold pavanelaw19_SessionOnce_vc at h
  refine callsF (l := [(0, Sl.v acts)]) Try.func3 rfl Try.ntmps3 (Nat.le_of_ble_eq_true rfl) rfl (wp_seq (wp_region_lit (sv (R_as rfl) (wpList_nil (then_normal (wp_seq (wp_region_lit (st_one (wn rfl) ?_))))))))
  refine O_enter (args := #[]) (R_enter Try.call8 rfl) (h.mono ?_)
  clear h
  rintro _ w_ ⟨x1, rfl, h⟩
  refine ⟨_, rfl, ?_⟩
  refine sv (R_as rfl) (wpList_nil (then_normal (wp_seq (wp_region_lit (st_one (wn rfl) ?_)))))
  refine O_enter (args := #[]) (R_enter Try.call9 rfl) (h.mono ?_)
  clear h
  rintro _ w_1 ⟨x2, rfl, h⟩
  refine ⟨_, rfl, ?_⟩
  refine sv (R_as rfl) (wpList_nil (then_normal (wp_seq (wp_seq (wp_region_lit (sv (R_mv rfl) (sv (R_not rfl) (sv (R_mv rfl) ?_))))))))
  refine cutF 3 124 [(0, Sl.v acts), (4, .pointer x2), (25, .bool ((!x1) || (Option.isNone x2)))] ?_ ?_
  · simp only [List.take_succ_cons, List.take_zero]
    rcases Bool.eq_false_or_eq_true (!x1) with hg | hg
    · refine sno (wtF rfl rfl rfl (bg hg) rfl) (sno (wtF rfl rfl rfl (bg hg) rfl) (sv (R_pickT (bg hg) rfl) (wpList_nil ?_)))
      exact cutEnd ⟨rfl, rfl, (by rw [hg]; rfl), trivial⟩
    · refine svg (wtF rfl rfl rfl (bg hg) rfl) (R_mv rfl) (svg (wtF rfl rfl rfl (bg hg) rfl) (R_eqlPtrNilR (Try.runUnderlying24 _) rfl rfl rfl) (sv (R_pickF (bg hg) rfl) (wpList_nil ?_)))
      exact cutEnd ⟨rfl, rfl, (by rw [hg]; rfl), trivial⟩
  intro us
  simp only [List.drop_succ_cons, List.drop_zero]
  refine wpList_nil (then_normal ?_)
  refine C_split (t := ((!x1) || (Option.isNone x2))) rfl (fun hc => ?_) (fun hc => ?_)
  · replace h := h.1 hc
    refine wp_seq (wp_region_lit (sv (R_as rfl) (wpList_nil (then_normal (wp_ret (then_ret ?_))))))
    exact ret1 Try.results3 ⟨rfl, trivial⟩ h
  · replace h := h.2 hc
    refine wp_skip (then_normal (wp_seq (wp_region_lit ?_)))
    obtain ⟨x3, w_2, hr, h⟩ := h
    refine st_one (wn rfl) (O_val (v := (.map x3)) (r_makeMap hr) (sv (R_as rfl) (wpList_nil (then_normal (wp_seq (wp_region_lit (sv (R_as rfl) (wpList_nil (then_normal (wp_seq (wp_seq (wp_region_lit (sv (R_as rfl) (wpList_nil ?_))))))))))))))
    refine then_normal (wp_block ?_)
    obtain ⟨I_, nv1, h0, hI⟩ := h
    refine wp_loop_ghost (fun nv' a' w' => ∃ given : Int, ∃ i : Int, (∃ us, a' = fr 124 us [(0, Sl.v acts), (4, .pointer x2), (5, .map x3), (6, .int .i64 given), (7, .int .i64 i)]) ∧ I_ nv' given i w') nv1 ?_ ?_
    · exact ⟨_, _, fr_sub ⟨rfl, rfl, rfl, rfl, rfl, trivial⟩, h0⟩
    · clear h0
      rintro nv _ w_3 ⟨given, i, ⟨us, rfl⟩, h⟩
      replace h := hI _ _ _ _ h
      refine wp_seq (wp_seq (wp_region_lit (sv (R_mv rfl) (sv (R_mv rfl) (sv (R_len (s := acts) (Try.runUnderlying22 _) rfl) (sv (R_lss rfl rfl) (sv (R_mv rfl) ?_)))))))
      refine cutF 3 124 [(0, Sl.v acts), (4, .pointer x2), (5, .map x3), (6, .int .i64 given), (7, .int .i64 i), (34, .bool ((decide (i < (↑(Sl.n acts) : Int))) && (decide (i < 100))))] ?_ ?_
      · simp only [List.take_succ_cons, List.take_zero]
        rcases Bool.eq_false_or_eq_true (decide (i < (↑(Sl.n acts) : Int))) with hg1 | hg1
        · refine svg (wtF rfl rfl rfl (bg hg1) rfl) (R_mv rfl) (svg (wtF rfl rfl rfl (bg hg1) rfl) (R_lss rfl rfl) (sv (R_pickT (bg hg1) rfl) (wpList_nil ?_)))
          exact cutEnd ⟨rfl, rfl, rfl, rfl, rfl, (by rw [hg1]; rfl), trivial⟩
        · refine sno (wtF rfl rfl rfl (bg hg1) rfl) (sno (wtF rfl rfl rfl (bg hg1) rfl) (sv (R_pickF (bg hg1) rfl) (wpList_nil ?_)))
          exact cutEnd ⟨rfl, rfl, rfl, rfl, rfl, (by rw [hg1]; rfl), trivial⟩
      intro us
      simp only [List.drop_succ_cons, List.drop_zero]
      refine wpList_nil (then_normal ?_)
      refine C_split (t := ((decide (i < (↑(Sl.n acts) : Int))) && (decide (i < 100)))) rfl (fun hc1 => ?_) (fun hc1 => ?_)
      · replace h := h.1 hc1
        refine wp_skip (then_normal (wp_seq (wp_block (wp_seq (wp_region_lit (sv (R_mv rfl) (sv (R_mv rfl) ?_)))))))
        obtain ⟨ad, hx, h⟩ := h
        refine sv (v := .pointer (some ad)) (R_indexS (s := acts) (Try.runUnderlying22 _) (Try.sizeOf29 _) rfl rfl hx) ?_
        obtain ⟨x0, x11, x21, x31, x4, hx1, h⟩ := h
        refine sv (v := .agg #[.int .i64 x0, .int .i64 x11, .int .i64 x21, .int .i64 x31, Sl.v x4]) (R_loadN (Try.isAgg29 _) (Try.sizeOf29 _) rfl rfl hx1) (st_one (wn rfl) ?_)
        refine O_alloc (zs := [.int .i64 0, .int .i64 0, .int .i64 0, .int .i64 0, Sl.v Sl.nil]) (Try.zeroValue29 _) rfl (fun b w_4 hn hO hb => ?_)
        have hn_b : w_3.heap.size ≤ b := hn
        have hA : Only [] w_3 w_4 := hO
        refine st_one (wn rfl) ?_
        refine O_store (vs := [.int .i64 x0, .int .i64 x11, .int .i64 x21, .int .i64 x31, Sl.v x4]) (cs' := [.int .i64 x0, .int .i64 x11, .int .i64 x21, .int .i64 x31, Sl.v x4]) (Try.sizeOf29 _) rfl rfl rfl rfl hb (Nat.le_of_ble_eq_true rfl) rfl (fun w_5 hO1 hb1 => ?_)
        have hA1 := hA.new hO1 hn_b
        refine wpList_nil (then_normal (wp_seq (wp_region_lit (sv (R_mv rfl) (sv (v := .pointer (some ⟨b, 1, none⟩)) (R_field (Try.runUnderlying29 _) rfl (Try.sizeOf3 _) rfl rfl) (sv (v := .int .i64 x11) (R_load1 (Try.isAgg3 _) rfl (hb1.cell 1)) ?_))))))
        replace h := h b w_5 hn_b hb1.lt hA1
        obtain ⟨x01, x12, w_6, hr1, hs3, h⟩ := h
        refine st_one (wn rfl) (O_val (v := (.tuple #[.int .i64 x01, .bool x12])) (R_lookup rfl rfl hr1) ?_)
        have hb2 := hs3.blk hb1 (by simp)
        refine sv (R_mv rfl) (sv (R_ext rfl rfl) (sv (R_ext rfl rfl) (sv (R_as rfl) (sv (R_as rfl) (wpList_nil (then_normal (wp_seq (wp_region_lit (sv (R_mv rfl) (sv (v := .pointer (some ⟨b, 1, none⟩)) (R_field (Try.runUnderlying29 _) rfl (Try.sizeOf3 _) rfl rfl) (sv (v := .int .i64 x11) (R_load1 (Try.isAgg3 _) rfl (hb2.cell 1)) (sv (v := .pointer (some ⟨b, 2, none⟩)) (R_field (Try.runUnderlying29 _) rfl (Try.sizeOf3 _) rfl rfl) (sv (v := .int .i64 x21) (R_load1 (Try.isAgg3 _) rfl (hb2.cell 2)) (st_one (wn rfl) ?_))))))))))))))
        refine O_enter (args := #[.pointer x2, .int .i64 x11, .int .i64 x21]) (R_enter Try.call10 rfl) (h.mono ?_)
        clear h
        rintro _ w_7 ⟨x02, x13, rfl, hs4, h⟩
        refine ⟨_, rfl, ?_⟩
        have hb3 := hs4.blk hb2 (by simp)
        refine sv (R_mv rfl) (sv (R_ext rfl rfl) (sv (R_ext rfl rfl) (sv (R_as rfl) (sv (R_as rfl) (wpList_nil (then_normal (wp_seq (wp_seq (wp_region_lit (sv (R_mv rfl) (sv (R_mv rfl) (sv (R_neq rfl rfl) (sv (R_neqBool Try.underlying4 rfl rfl) (sv (R_mv rfl) ?_))))))))))))))
        refine cutF 16 124 [(0, Sl.v acts), (4, .pointer x2), (5, .map x3), (6, .int .i64 given), (7, .int .i64 i), (8, .pointer (some ⟨b, 0, none⟩)), (11, .int .i64 x02), (77, .bool ((!(x12 == (x02 != 4))) || (x12 && (!((x02 == 1) == ((decide (x21 > x01)) && (decide (x21 > 0))))))))] ?_ ?_
        · simp only [List.take_succ_cons, List.take_zero]
          rcases Bool.eq_false_or_eq_true (!(x12 == (x02 != 4))) with hg2 | hg2
          · refine sno (wtF rfl rfl rfl (bg hg2) rfl) (sno (wtF rfl rfl rfl (bg hg2) rfl) (sno (wuF rfl rfl rfl rfl) (sno (wuF rfl rfl rfl rfl) (sno (wuF rfl rfl rfl rfl) (sno (wuF rfl rfl rfl rfl) (sno (wuF rfl rfl rfl rfl) (sno (wuF rfl rfl rfl rfl) (sno (wuF rfl rfl rfl rfl) (sno (wuF rfl rfl rfl rfl) (sno (wuF rfl rfl rfl rfl) (sno (wuF rfl rfl rfl rfl) (sno (wuF rfl rfl rfl rfl) (sno (wuF rfl rfl rfl rfl) (sno (wtF rfl rfl rfl (bg hg2) rfl) ?_))))))))))))))
            refine sv (R_pickT (bg hg2) rfl) (wpList_nil ?_)
            exact cutEnd ⟨rfl, rfl, rfl, rfl, rfl, rfl, rfl, (by rw [hg2]; rfl), trivial⟩
          · refine svg (wtF rfl rfl rfl (bg hg2) rfl) (R_mv rfl) (svg (wtF rfl rfl rfl (bg hg2) rfl) (R_mv rfl) ?_)
            refine cutF 13 124 [(0, Sl.v acts), (4, .pointer x2), (5, .map x3), (6, .int .i64 given), (7, .int .i64 i), (8, .pointer (some ⟨b, 0, none⟩)), (11, .int .i64 x02), (61, .bool (!(x12 == (x02 != 4)))), (76, .bool (x12 && (!((x02 == 1) == ((decide (x21 > x01)) && (decide (x21 > 0)))))))] ?_ ?_
            · simp only [List.take_succ_cons, List.take_zero]
              rcases Bool.eq_false_or_eq_true x12 with hg3 | hg3
              · refine svg (wtF rfl rfl rfl (bg hg3) rfl) (R_mv rfl) (svg (wtF rfl rfl rfl (bg hg3) rfl) (R_eql rfl rfl) (svg (v := .pointer (some ⟨b, 2, none⟩)) (wtF rfl rfl rfl (bg hg3) rfl) (R_field (Try.runUnderlying29 _) rfl (Try.sizeOf3 _) rfl rfl) (svg (v := .int .i64 x21) (wtF rfl rfl rfl (bg hg3) rfl) (R_load1 (Try.isAgg3 _) rfl (hb3.cell 2)) (svg (wtF rfl rfl rfl (bg hg3) rfl) (R_mv rfl) (svg (wtF rfl rfl rfl (bg hg3) rfl) (R_gtr rfl rfl) (svg (wtF rfl rfl rfl (bg hg3) rfl) (R_mv rfl) ?_))))))
                refine cutF 4 124 [(0, Sl.v acts), (4, .pointer x2), (5, .map x3), (6, .int .i64 given), (7, .int .i64 i), (8, .pointer (some ⟨b, 0, none⟩)), (11, .int .i64 x02), (61, .bool (!(x12 == (x02 != 4)))), (63, .bool x12), (65, .bool (x02 == 1)), (74, .bool ((decide (x21 > x01)) && (decide (x21 > 0))))] ?_ ?_
                · simp only [List.take_succ_cons, List.take_zero]
                  rcases Bool.eq_false_or_eq_true (decide (x21 > x01)) with hg4 | hg4
                  · refine svg (v := .pointer (some ⟨b, 2, none⟩)) (wtF rfl rfl rfl (bg hg4) rfl) (R_field (Try.runUnderlying29 _) rfl (Try.sizeOf3 _) rfl rfl) (svg (v := .int .i64 x21) (wtF rfl rfl rfl (bg hg4) rfl) (R_load1 (Try.isAgg3 _) rfl (hb3.cell 2)) (svg (wtF rfl rfl rfl (bg hg4) rfl) (R_gtr rfl rfl) (svg (wtF rfl rfl rfl (bg hg3) rfl) (R_pickT (bg hg4) rfl) (wpList_nil ?_))))
                    exact cutEnd ⟨rfl, rfl, rfl, rfl, rfl, rfl, rfl, rfl, rfl, rfl, (by rw [hg4]; rfl), trivial⟩
                  · refine sno (wtF rfl rfl rfl (bg hg4) rfl) (sno (wtF rfl rfl rfl (bg hg4) rfl) (sno (wtF rfl rfl rfl (bg hg4) rfl) (svg (wtF rfl rfl rfl (bg hg3) rfl) (R_pickF (bg hg4) rfl) (wpList_nil ?_))))
                    exact cutEnd ⟨rfl, rfl, rfl, rfl, rfl, rfl, rfl, rfl, rfl, rfl, (by rw [hg4]; rfl), trivial⟩
                intro us
                simp only [List.drop_succ_cons, List.drop_zero]
                refine svg (wtF rfl rfl rfl (bg hg3) rfl) (R_neqBool Try.underlying4 rfl rfl) (svg (wtF rfl rfl rfl (bg hg2) rfl) (R_pickT (bg hg3) rfl) (wpList_nil ?_))
                exact cutEnd ⟨rfl, rfl, rfl, rfl, rfl, rfl, rfl, rfl, (by rw [hg3]; rfl), trivial⟩
              · refine sno (wtF rfl rfl rfl (bg hg3) rfl) (sno (wtF rfl rfl rfl (bg hg3) rfl) (sno (wtF rfl rfl rfl (bg hg3) rfl) (sno (wtF rfl rfl rfl (bg hg3) rfl) (sno (wtF rfl rfl rfl (bg hg3) rfl) (sno (wtF rfl rfl rfl (bg hg3) rfl) (sno (wtF rfl rfl rfl (bg hg3) rfl) (sno (wuF rfl rfl rfl rfl) (sno (wuF rfl rfl rfl rfl) (sno (wuF rfl rfl rfl rfl) (sno (wtF rfl rfl rfl (bg hg3) rfl) (sno (wtF rfl rfl rfl (bg hg3) rfl) (svg (wtF rfl rfl rfl (bg hg2) rfl) (R_pickF (bg hg3) rfl) (wpList_nil ?_)))))))))))))
                exact cutEnd ⟨rfl, rfl, rfl, rfl, rfl, rfl, rfl, rfl, (by rw [hg3]; rfl), trivial⟩
            intro us
            simp only [List.drop_succ_cons, List.drop_zero]
            refine sv (R_pickF (bg hg2) rfl) (wpList_nil ?_)
            exact cutEnd ⟨rfl, rfl, rfl, rfl, rfl, rfl, rfl, (by rw [hg2]; rfl), trivial⟩
        intro us
        simp only [List.drop_succ_cons, List.drop_zero]
        refine wpList_nil (then_normal ?_)
        refine C_split (t := ((!(x12 == (x02 != 4))) || (x12 && (!((x02 == 1) == ((decide (x21 > x01)) && (decide (x21 > 0)))))))) rfl (fun hc2 => ?_) (fun hc2 => ?_)
        · replace h := h.1 hc2
          refine wp_seq (wp_region_lit (sv (R_as rfl) (wpList_nil (then_normal (wp_ret (then_ret (block_ret (then_ret (then_ret (block_ret (then_ret ?_)))))))))))
          exact ret1 Try.results3 ⟨rfl, trivial⟩ h
        · replace h := h.2 hc2
          refine wp_skip (then_normal (wp_seq (wp_region_lit (sv (R_mv rfl) (sv (v := .agg #[.int .i64 x0, .int .i64 x11, .int .i64 x21, .int .i64 x31, Sl.v x4]) (R_loadN (Try.isAgg29 _) (Try.sizeOf29 _) rfl rfl (hb3.cellsAt 0 [.int .i64 x0, .int .i64 x11, .int .i64 x21, .int .i64 x31, Sl.v x4] rfl)) (st_one (wn rfl) ?_))))))
          refine O_enter (args := #[.pointer x2, .agg #[.int .i64 x0, .int .i64 x11, .int .i64 x21, .int .i64 x31, Sl.v x4]]) (R_enter Try.call11 rfl) (h.mono ?_)
          clear h
          rintro _ w_8 ⟨x03, x14, x22, x32, rfl, hs5, h⟩
          refine ⟨_, rfl, ?_⟩
          have hb4 := hs5.blk hb3 (by simp)
          refine sv (R_mv rfl) (sv (R_ext rfl rfl) (sv (R_ext rfl rfl) (sv (R_ext rfl rfl) (sv (R_ext rfl rfl) (sv (R_as rfl) (sv (R_as rfl) (sv (R_as rfl) (sv (R_as rfl) (wpList_nil (then_normal ?_))))))))))
          obtain ⟨J_, hJ, h⟩ := h
          refine wp_seq_join (fun a' w' => ∃ given1 : Int, (∃ us, a' = fr 124 us [(0, Sl.v acts), (4, .pointer x2), (5, .map x3), (6, .int .i64 given1), (7, .int .i64 i), (8, .pointer (some ⟨b, 0, none⟩)), (11, .int .i64 x02), (14, .int .i64 x14), (16, Sl.v x32)]) ∧ Blk w' b 29 [.int .i64 x0, .int .i64 x11, .int .i64 x21, .int .i64 x31, Sl.v x4] ∧ J_ given1 w') ?_ ?_
          · clear h
            rintro _ w_9 ⟨given1, ⟨us1, rfl⟩, hb5, h⟩
            replace h := hJ _ _ h
            obtain ⟨J_1, hJ1, h⟩ := h
            refine wp_seq_join (fun a' w' => (∃ us, a' = fr 124 us [(0, Sl.v acts), (4, .pointer x2), (5, .map x3), (6, .int .i64 given1), (7, .int .i64 i), (16, Sl.v x32)]) ∧ Blk w' b 29 [.int .i64 x0, .int .i64 x11, .int .i64 x21, .int .i64 x31, Sl.v x4] ∧ J_1 w') ?_ ?_
            · clear h
              rintro _ w_10 ⟨⟨us2, rfl⟩, hb6, h⟩
              replace h := hJ1 _ h
              refine wp_seq (wp_region_lit (sv (R_as rfl) (wpList_nil (then_normal (wp_block ?_)))))
              obtain ⟨I_1, nv3, h01, hI1⟩ := h
              refine wp_loop_ghost (fun nv' a' w' => ∃ k : Int, (∃ us, a' = fr 124 us [(0, Sl.v acts), (4, .pointer x2), (5, .map x3), (6, .int .i64 given1), (7, .int .i64 i), (16, Sl.v x32), (17, .int .i64 k)]) ∧ Blk w' b 29 [.int .i64 x0, .int .i64 x11, .int .i64 x21, .int .i64 x31, Sl.v x4] ∧ I_1 nv' k w') nv3 ?_ ?_
              · exact ⟨_, fr_sub ⟨rfl, rfl, rfl, rfl, rfl, rfl, rfl, trivial⟩, hb6, h01⟩
              · clear h01
                rintro nv2 _ w_11 ⟨k, ⟨us3, rfl⟩, hb7, h⟩
                replace h := hI1 _ _ _ h
                refine wp_seq (wp_seq (wp_region_lit (sv (R_mv rfl) (sv (R_mv rfl) (sv (R_len (s := x32) (Try.runUnderlying34 _) rfl) (sv (R_lss rfl rfl) (wpList_nil (then_normal ?_))))))))
                refine C_split (t := (decide (k < (↑(Sl.n x32) : Int)))) rfl (fun hc3 => ?_) (fun hc3 => ?_)
                · replace h := h.1 hc3
                  refine wp_skip (then_normal (wp_seq (wp_block (wp_region_lit (sv (R_mv rfl) (sv (R_mv rfl) (sv (R_mv rfl) ?_)))))))
                  obtain ⟨ad1, hx2, h⟩ := h
                  refine sv (v := .pointer (some ad1)) (R_indexS (s := x32) (Try.runUnderlying34 _) (Try.sizeOf3 _) rfl rfl hx2) ?_
                  obtain ⟨x5, hx3, h⟩ := h
                  refine sv (v := .int .i64 x5) (R_load1 (Try.isAgg3 _) rfl (Cells.one hx3)) ?_
                  obtain ⟨w_12, hr2, hs6, h⟩ := h
                  refine st_one (wn rfl) (O_val (v := (.tuple #[])) (R_builtin_delete rfl hr2) ?_)
                  have hb8 := hs6.blk hb7 (by simp)
                  refine wpList_nil (block_normal (then_normal (wp_region_lit (sv (R_mv rfl) (sv (R_add rfl rfl) (sv (R_as rfl) (wpList_nil (then_normal ?_))))))))
                  obtain ⟨nv4, hl, h⟩ := h
                  exact ⟨nv4, hl, _, fr_sub ⟨rfl, rfl, rfl, rfl, rfl, rfl, rfl, trivial⟩, hb8, h⟩
                · replace h := h.2 hc3
                  refine wp_exit (then_exit (then_exit (block_hit (block_normal (then_normal (wp_region_lit (sv (R_mv rfl) (sv (R_add rfl rfl) (sv (R_as rfl) (wpList_nil (then_normal ?_)))))))))))
                  obtain ⟨nv5, hl1, h⟩ := h
                  exact ⟨nv5, hl1, _, _, fr_sub ⟨rfl, rfl, rfl, rfl, rfl, trivial⟩, h⟩
            · clear hJ1
              refine wp_seq (wp_region_lit (sv (v := .pointer (some ⟨b, 0, none⟩)) (R_field (Try.runUnderlying29 _) rfl (Try.sizeOf3 _) rfl rfl) (sv (v := .int .i64 x0) (R_load1 (Try.isAgg3 _) rfl (hb5.cell 0)) (sv (R_eql rfl rfl) (sv (R_mv rfl) ?_)))))
              refine cutF 3 124 [(0, Sl.v acts), (4, .pointer x2), (5, .map x3), (6, .int .i64 given1), (7, .int .i64 i), (8, .pointer (some ⟨b, 0, none⟩)), (11, .int .i64 x02), (16, Sl.v x32), (105, .bool ((x0 == 2) && (x14 == 0)))] ?_ ?_
              · simp only [List.take_succ_cons, List.take_zero]
                rcases Bool.eq_false_or_eq_true (x0 == 2) with hg5 | hg5
                · refine svg (wtF rfl rfl rfl (bg hg5) rfl) (R_mv rfl) (svg (wtF rfl rfl rfl (bg hg5) rfl) (R_eql rfl rfl) (sv (R_pickT (bg hg5) rfl) (wpList_nil ?_)))
                  exact cutEnd ⟨rfl, rfl, rfl, rfl, rfl, rfl, rfl, rfl, (by rw [hg5]; rfl), trivial⟩
                · refine sno (wtF rfl rfl rfl (bg hg5) rfl) (sno (wtF rfl rfl rfl (bg hg5) rfl) (sv (R_pickF (bg hg5) rfl) (wpList_nil ?_)))
                  exact cutEnd ⟨rfl, rfl, rfl, rfl, rfl, rfl, rfl, rfl, (by rw [hg5]; rfl), trivial⟩
              intro us
              simp only [List.drop_succ_cons, List.drop_zero]
              refine wpList_nil (then_normal ?_)
              refine C_split (t := ((x0 == 2) && (x14 == 0))) rfl (fun hc4 => ?_) (fun hc4 => ?_)
              · replace h := h.1 hc4
                refine wp_seq (wp_seq (wp_region_lit (sv (R_mv rfl) (sv (R_neq rfl rfl) (wpList_nil (then_normal ?_))))))
                refine C_split (t := (x02 != 1)) rfl (fun hc5 => ?_) (fun hc5 => ?_)
                · replace h := h.1 hc5
                  refine wp_seq (wp_region_lit (sv (R_as rfl) (wpList_nil (then_normal (wp_ret (then_ret (then_ret (block_ret (then_ret (then_ret (block_ret (then_ret ?_))))))))))))
                  exact ret1 Try.results3 ⟨rfl, trivial⟩ h
                · replace h := h.2 hc5
                  refine wp_skip (then_normal (wp_region_lit (sv (R_mv rfl) (sv (v := .pointer (some ⟨b, 1, none⟩)) (R_field (Try.runUnderlying29 _) rfl (Try.sizeOf3 _) rfl rfl) (sv (v := .int .i64 x11) (R_load1 (Try.isAgg3 _) rfl (hb5.cell 1)) (sv (v := .pointer (some ⟨b, 2, none⟩)) (R_field (Try.runUnderlying29 _) rfl (Try.sizeOf3 _) rfl rfl) (sv (v := .int .i64 x21) (R_load1 (Try.isAgg3 _) rfl (hb5.cell 2)) ?_)))))))
                  obtain ⟨w_13, hr3, hs7, h⟩ := h
                  refine st_one (wn rfl) (O_skip (R_mapUpdate rfl rfl rfl hr3) ?_)
                  have hb9 := hs7.blk hb5 (by simp)
                  refine wpList_nil (then_normal ?_)
                  exact ⟨fr_sub ⟨rfl, rfl, rfl, rfl, rfl, rfl, trivial⟩, hb9, h⟩
              · replace h := h.2 hc4
                refine wp_skip (then_normal ?_)
                exact ⟨fr_sub ⟨rfl, rfl, rfl, rfl, rfl, rfl, trivial⟩, hb5, h⟩
          · clear hJ
            refine wp_seq (wp_region_lit (sv (v := .pointer (some ⟨b, 0, none⟩)) (R_field (Try.runUnderlying29 _) rfl (Try.sizeOf3 _) rfl rfl) (sv (v := .int .i64 x0) (R_load1 (Try.isAgg3 _) rfl (hb4.cell 0)) (sv (R_eql rfl rfl) (sv (R_mv rfl) ?_)))))
            refine cutF 3 124 [(0, Sl.v acts), (4, .pointer x2), (5, .map x3), (6, .int .i64 given), (7, .int .i64 i), (8, .pointer (some ⟨b, 0, none⟩)), (11, .int .i64 x02), (13, .int .i64 x03), (14, .int .i64 x14), (16, Sl.v x32), (92, .bool ((x0 == 0) && (x14 == 0)))] ?_ ?_
            · simp only [List.take_succ_cons, List.take_zero]
              rcases Bool.eq_false_or_eq_true (x0 == 0) with hg6 | hg6
              · refine svg (wtF rfl rfl rfl (bg hg6) rfl) (R_mv rfl) (svg (wtF rfl rfl rfl (bg hg6) rfl) (R_eql rfl rfl) (sv (R_pickT (bg hg6) rfl) (wpList_nil ?_)))
                exact cutEnd ⟨rfl, rfl, rfl, rfl, rfl, rfl, rfl, rfl, rfl, rfl, (by rw [hg6]; rfl), trivial⟩
              · refine sno (wtF rfl rfl rfl (bg hg6) rfl) (sno (wtF rfl rfl rfl (bg hg6) rfl) (sv (R_pickF (bg hg6) rfl) (wpList_nil ?_)))
                exact cutEnd ⟨rfl, rfl, rfl, rfl, rfl, rfl, rfl, rfl, rfl, rfl, (by rw [hg6]; rfl), trivial⟩
            intro us
            simp only [List.drop_succ_cons, List.drop_zero]
            refine wpList_nil (then_normal ?_)
            refine C_split (t := ((x0 == 0) && (x14 == 0))) rfl (fun hc6 => ?_) (fun hc6 => ?_)
            · replace h := h.1 hc6
              refine wp_seq (wp_seq (wp_region_lit (sv (R_mv rfl) (sv (R_mv rfl) (sv (R_leq rfl rfl) (wpList_nil (then_normal ?_)))))))
              refine C_split (t := (decide (x03 ≤ given))) rfl (fun hc7 => ?_) (fun hc7 => ?_)
              · replace h := h.1 hc7
                refine wp_seq (wp_region_lit (sv (R_as rfl) (wpList_nil (then_normal (wp_ret (then_ret (then_ret (block_ret (then_ret (then_ret (block_ret (then_ret ?_))))))))))))
                exact ret1 Try.results3 ⟨rfl, trivial⟩ h
              · replace h := h.2 hc7
                refine wp_skip (then_normal (wp_seq (wp_region_lit (sv (R_mv rfl) (sv (R_as rfl) (wpList_nil (then_normal (wp_region_lit (sv (R_mv rfl) (sv (R_mv rfl) ?_))))))))))
                obtain ⟨w_14, hr4, hs8, h⟩ := h
                refine st_one (wn rfl) (O_skip (R_mapUpdate rfl rfl rfl hr4) ?_)
                have hb10 := hs8.blk hb4 (by simp)
                refine wpList_nil (then_normal ?_)
                exact ⟨_, fr_sub ⟨rfl, rfl, rfl, rfl, rfl, rfl, rfl, rfl, rfl, trivial⟩, hb10, h⟩
            · replace h := h.2 hc6
              refine wp_skip (then_normal ?_)
              exact ⟨_, fr_sub ⟨rfl, rfl, rfl, rfl, rfl, rfl, rfl, rfl, rfl, trivial⟩, hb4, h⟩
      · replace h := h.2 hc1
        refine wp_exit (then_exit (then_exit (block_hit (then_normal (wp_seq (wp_region_lit (sv (R_as rfl) (wpList_nil (then_normal (wp_ret ?_))))))))))
        exact ret1 Try.results3 ⟨rfl, trivial⟩ h

/-- what is to be shown of a call of session.copied -/
def session_copied_vc (l : Sl) (R : Value → World → Prop) (w : World) : Prop :=
  Calls Try.prog 42 #[Sl.v l] w (fun e w_ => ∃ x1 : Sl, e = .returned (Sl.v x1) ∧
  ∃ (I_ : Nat → Int → World → Prop) (nv1 : Nat), I_ nv1 0 w_ ∧
  ∀ (nv : Nat) (t9 : Int) (w_1 : World), I_ nv t9 w_1 →
  (((decide (t9 < (↑(Sl.n x1) : Int))) = true →
  ∃ ad : Addr, SlAt x1 t9 4 ad ∧
  ∃ x2 : Sl, Cells w_1 (Addr.add ad 2) [Sl.v x2] ∧
  Calls Try.prog 27 #[Sl.v x2] w_1 (fun e w_2 => ∃ x3 : Sl, e = .returned (Sl.v x3) ∧
  ∃ ad1 : Addr, SlAt x1 t9 4 ad1 ∧
  ∃ (bk off : Nat) (cells : List Value) (ety : TypeId), Addr.add ad1 2 = (⟨bk, off, none⟩ : Addr) ∧ Blk w_2 bk ety cells ∧ off + 1 ≤ cells.length ∧ ∀ w_3 : World, Only [bk] w_2 w_3 → Blk w_3 bk ety (splice cells off [Sl.v x3]) →
  ∃ nv2 : Nat, nv2 < nv ∧ I_ nv2 (IntKind.i64.wrap (t9 + 1)) w_3)) ∧
  ((decide (t9 < (↑(Sl.n x1) : Int))) = false →
  R (Sl.v x1) w_1)))
theorem session_copied_wp (l : Sl) (R : Value → World → Prop) (w : World) (h : session_copied_vc l R w) :
    Calls Try.prog 33 #[Sl.v l] w fun e w' => ∃ v, e = .returned v ∧ R v w' := by
  unfold session_copied_vc at h
  refine callsF (l := [(0, Sl.v l)]) Try.func33 rfl Try.ntmps33 (Nat.le_of_ble_eq_true rfl) rfl (wp_seq (wp_region_lit (sv (R_as rfl) (wpList_nil (then_normal (wp_seq (wp_region_lit (sv (R_mv rfl) (st_one (wn rfl) ?_)))))))))
  refine O_enter (args := #[Sl.v l]) (R_enter Try.call42 rfl) (h.mono ?_)
  clear h
  rintro _ w_ ⟨x1, rfl, h⟩
  refine ⟨_, rfl, ?_⟩
  refine sv (R_as rfl) (wpList_nil (then_normal (wp_seq (wp_seq (wp_region_lit (sv (R_mv rfl) (sv (R_len (s := x1) (Try.runUnderlying42 _) rfl) (sv (R_mv rfl) (wpList_nil (then_normal (wp_block ?_)))))))))))
  obtain ⟨I_, nv1, h0, hI⟩ := h
  refine wp_loop_ghost (fun nv' a' w' => ∃ t9 : Int, (∃ us, a' = fr 24 us [(3, Sl.v x1), (8, .int .i64 (↑(Sl.n x1) : Int)), (9, .int .i64 t9)]) ∧ I_ nv' t9 w') nv1 ?_ ?_
  · exact ⟨_, fr_sub ⟨rfl, rfl, rfl, trivial⟩, h0⟩
  · clear h0
    rintro nv _ w_1 ⟨t9, ⟨us, rfl⟩, h⟩
    replace h := hI _ _ _ h
    refine wp_seq (wp_region_lit (sv (R_lss rfl rfl) (wpList_nil (then_normal (wp_seq ?_)))))
    refine C_split (t := (decide (t9 < (↑(Sl.n x1) : Int)))) rfl (fun hc => ?_) (fun hc => ?_)
    · replace h := h.1 hc
      refine wp_skip (then_normal (wp_seq (wp_block (wp_seq (wp_region_lit (sv (R_mv rfl) (sv (R_as rfl) (wpList_nil (then_normal (wp_region_lit (sv (R_mv rfl) (sv (R_mv rfl) (sv (R_mv rfl) (sv (R_mv rfl) ?_))))))))))))))
      obtain ⟨ad, hx, h⟩ := h
      refine sv (v := .pointer (some ad)) (R_indexS (s := x1) (Try.runUnderlying42 _) (Try.sizeOf49 _) rfl rfl hx) (sv (v := .pointer (some (Addr.add ad 2))) (R_field (Try.runUnderlying49 _) rfl (Try.sizeOf27 _) rfl rfl) ?_)
      obtain ⟨x2, hx1, h⟩ := h
      refine sv (v := Sl.v x2) (R_load1 (Try.isAgg27 _) rfl (Cells.one hx1)) (st_one (wn rfl) ?_)
      refine O_enter (args := #[Sl.v x2]) (R_enter Try.call27 rfl) (h.mono ?_)
      clear h
      rintro _ w_2 ⟨x3, rfl, h⟩
      refine ⟨_, rfl, ?_⟩
      obtain ⟨ad1, hx2, h⟩ := h
      refine sv (v := .pointer (some ad1)) (R_indexS (s := x1) (Try.runUnderlying42 _) (Try.sizeOf49 _) rfl rfl hx2) (sv (v := .pointer (some (Addr.add ad1 2))) (R_field (Try.runUnderlying49 _) rfl (Try.sizeOf27 _) rfl rfl) ?_)
      obtain ⟨bk, off, cells, ety, hx3, hx4, hx5, h⟩ := h
      refine st_one (wn rfl) ?_
      refine O_store (b := bk) (o := off) (vs := [Sl.v x3]) (Try.sizeOf27 _) (ag hx3) rfl rfl rfl hx4 hx5 rfl (fun w_3 hO hb => ?_)
      replace h := h w_3 hO hb
      refine wpList_nil (block_normal (then_normal (wp_region_lit (sv (R_add rfl rfl) (sv (R_mv rfl) (wpList_nil (then_normal ?_)))))))
      obtain ⟨nv2, hl, h⟩ := h
      exact ⟨nv2, hl, _, fr_sub ⟨rfl, rfl, rfl, trivial⟩, h⟩
    · replace h := h.2 hc
      refine wp_exit (then_exit (then_exit (block_hit (then_normal (wp_seq (wp_region_lit (sv (R_mv rfl) (sv (R_as rfl) (wpList_nil (then_normal (wp_ret ?_)))))))))))
      exact ret1 Try.results33 ⟨rfl, trivial⟩ h

end Go.Proofs.Ytahncinfbhjkgaa.Vc
