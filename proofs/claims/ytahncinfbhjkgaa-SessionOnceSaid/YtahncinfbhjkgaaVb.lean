/-
  Own work, printed by a program of ours (gen.py): of each Go function what is to be shown of a call ('.._vc'), and that it suffices ('.._wp'). Nothing is assumed.
-/
import Derived.Test.YtahncinfbhjkgaaRows
import Derived.Test.YtahncinfbhjkgaaFr
namespace Go.Proofs.Ytahncinfbhjkgaa.Vc
open Go Go.RowKit Go.Kt
set_option linter.unusedSimpArgs false
set_option linter.unusedVariables false
set_option maxRecDepth 100000
set_option maxHeartbeats 40000000
/-- what is to be shown of a call of pavanelaw19.SessionPlays -/
def pavanelaw19_SessionPlays_vc (l : Sl) (next_ : Int) (fresh : Bool) (acts : Sl) (R : Value → World → Prop) (w : World) : Prop :=
  Calls Try.prog 8 #[] w (fun e w_ => ∃ x1 : Bool, e = .returned (.bool x1) ∧
  Calls Try.prog 9 #[] w_ (fun e w_1 => ∃ x2 : Option Addr, e = .returned (.pointer x2) ∧
  Calls Try.prog 16 #[] w_1 (fun e w_2 => ∃ x3 : Option Addr, e = .returned (.pointer x3) ∧
  ∃ J_ : Option Addr → Option Addr → World → Prop, (∀ (b : Option Addr) (x4 : Option Addr) (w_3 : World), J_ b x4 w_3 →
  ((((!x1) || (Option.isNone b)) = true →
  R (.bool false) w_3) ∧
  (((!x1) || (Option.isNone b)) = false →
  ∃ (I_ : Nat → Int → World → Prop) (nv1 : Nat), I_ nv1 0 w_3 ∧
  ∀ (nv : Nat) (i : Int) (w_4 : World), I_ nv i w_4 →
  ((((decide (i < (↑(Sl.n acts) : Int))) && (decide (i < 100))) = true →
  ∃ ad : Addr, SlAt acts i 5 ad ∧
  ∃ x0 : Int, ∃ x11 : Int, ∃ x21 : Int, ∃ x31 : Int, ∃ x41 : Sl, Cells w_4 ad [.int .i64 x0, .int .i64 x11, .int .i64 x21, .int .i64 x31, Sl.v x41] ∧
  Calls Try.prog 11 #[.pointer b, .agg #[.int .i64 x0, .int .i64 x11, .int .i64 x21, .int .i64 x31, Sl.v x41]] w_4 (fun e w_5 => ∃ x01 : Int, ∃ x12 : Int, ∃ x22 : Sl, ∃ x32 : Sl, e = .returned (.tuple #[.int .i64 x01, .int .i64 x12, Sl.v x22, Sl.v x32]) ∧
  ∃ ad1 : Addr, SlAt acts i 5 ad1 ∧
  ∃ x02 : Int, ∃ x13 : Int, ∃ x23 : Int, ∃ x33 : Int, ∃ x42 : Sl, Cells w_5 ad1 [.int .i64 x02, .int .i64 x13, .int .i64 x23, .int .i64 x33, Sl.v x42] ∧
  Calls Try.prog 20 #[.pointer x4, .agg #[.int .i64 x02, .int .i64 x13, .int .i64 x23, .int .i64 x33, Sl.v x42]] w_5 (fun e w_6 => ∃ x03 : Int, ∃ x14 : Int, ∃ x24 : Sl, ∃ x34 : Sl, e = .returned (.tuple #[.int .i64 x03, .int .i64 x14, Sl.v x24, Sl.v x34]) ∧
  ∃ J_1 : Bool → World → Prop, (∀ (same : Bool) (w_7 : World), J_1 same w_7 →
  ∃ x5 : Sl, ∃ w_8 : World, (Instr.buildSlice 61 1 #[(0, Sl.v x22)]).run Try.prog w_7 = .ok (Sl.v x5) w_8 ∧
  Calls Try.prog 22 #[Sl.v x5] w_8 (fun e w_9 => ∃ x6 : Bool, e = .returned (.bool x6) ∧
  ∃ ad2 : Addr, b = some ad2 ∧
  Calls Try.prog 14 #[.pointer (some (Addr.add ad2 0))] w_9 (fun e w_10 => ∃ x7 : Sl, e = .returned (Sl.v x7) ∧
  Calls Try.prog 23 #[.pointer x4] w_10 (fun e w_11 => ∃ x8 : Sl, e = .returned (Sl.v x8) ∧
  Calls Try.prog 19 #[Sl.v x7, Sl.v x8] w_11 (fun e w_12 => ∃ x9 : Bool, e = .returned (.bool x9) ∧
  Calls Try.prog 24 #[Sl.v x7] w_12 (fun e w_13 => e = .returned (.tuple #[]) ∧
  ∃ ad3 : Addr, b = some ad3 ∧
  Calls Try.prog 14 #[.pointer (some (Addr.add ad3 0))] w_13 (fun e w_14 => ∃ x10 : Sl, e = .returned (Sl.v x10) ∧
  Calls Try.prog 23 #[.pointer x4] w_14 (fun e w_15 => ∃ x15 : Sl, e = .returned (Sl.v x15) ∧
  Calls Try.prog 19 #[Sl.v x10, Sl.v x15] w_15 (fun e w_16 => ∃ x16 : Bool, e = .returned (.bool x16) ∧
  ∃ J_2 : Bool → World → Prop, (∀ (t165 : Bool) (w_17 : World), J_2 t165 w_17 →
  ((t165 = true →
  R (.bool false) w_17) ∧
  (t165 = false →
  ∃ nv2 : Nat, nv2 < nv ∧ I_ nv2 (IntKind.i64.wrap (i + 1)) w_17))) ∧
  (∀ (w_18 : World), Only [] w_16 w_18 →
  (((x01 != x03) = true →
  J_2 true w_18) ∧
  ((x01 != x03) = false →
  (((x12 != x14) = true →
  J_2 true w_18) ∧
  ((x12 != x14) = false →
  (((!same) = true →
  J_2 true w_18) ∧
  ((!same) = false →
  (((!x9) = true →
  J_2 true w_18) ∧
  ((!x9) = false →
  (((!x16) = true →
  J_2 true w_18) ∧
  ((!x16) = false →
  ∃ ad4 : Addr, x4 = some ad4 ∧
  ∃ x17 : Int, Cells w_18 (Addr.add ad4 1) [.int .i64 x17] ∧
  Calls Try.prog 15 #[.pointer b] w_18 (fun e w_19 => ∃ x18 : Int, e = .returned (.int .i64 x18) ∧ Same [(ptrBlk x4)] w_18 w_19 ∧
  J_2 (x18 != x17) w_19))))))))))))))))))))) ∧
  (∃ bs : List UInt8, Bytes w_6 x22 bs ∧
  ∃ bs1 : List UInt8, Bytes w_6 x24 bs1 ∧
  ((((⟨List.toArray bs⟩ : ByteArray).toList == (⟨List.toArray bs1⟩ : ByteArray).toList) = true →
  Calls Try.prog 21 #[Sl.v x32, Sl.v x34] w_6 (fun e w_20 => ∃ x19 : Bool, e = .returned (.bool x19) ∧
  J_1 x19 w_20)) ∧
  (((⟨List.toArray bs⟩ : ByteArray).toList == (⟨List.toArray bs1⟩ : ByteArray).toList) = false →
  J_1 false w_6)))))) ∧
  (((decide (i < (↑(Sl.n acts) : Int))) && (decide (i < 100))) = false →
  R (.bool true) w_4))))) ∧
  ((((!fresh) = true →
  ∃ x20 : Sl, ∃ w_21 : World, (Instr.buildSlice 42 0 #[]).run Try.prog w_2 = .ok (Sl.v x20) w_21 ∧
  ∃ x25 : Sl, ∃ w_22 : World, (Builtin.append_ #[42, 42] 42 #[Sl.v x20, Sl.v l]).run Try.prog w_21 = .ok (Sl.v x25) w_22 ∧
  Calls Try.prog 17 #[Sl.v x25, .int .i64 next_] w_22 (fun e w_23 => ∃ x04 : Option Addr, ∃ x110 : Int, e = .returned (.tuple #[.pointer x04, .int .i64 x110]) ∧
  Calls Try.prog 18 #[Sl.v l, .int .i64 next_] w_23 (fun e w_24 => ∃ x05 : Option Addr, ∃ x111 : Int, e = .returned (.tuple #[.pointer x05, .int .i64 x111]) ∧
  Calls Try.prog 19 #[Sl.v x25, Sl.v l] w_24 (fun e w_25 => ∃ x26 : Bool, e = .returned (.bool x26) ∧
  (((((x110 != x111) || (!x26)) || (!((Option.isNone x04) == (x111 != 0)))) = true →
  R (.bool false) w_25) ∧
  ((((x110 != x111) || (!x26)) || (!((Option.isNone x04) == (x111 != 0)))) = false →
  (((x111 != 0) = true →
  R (.bool x1) w_25) ∧
  ((x111 != 0) = false →
  J_ x04 x05 w_25)))))))) ∧
  ((!fresh) = false →
  J_ x2 x3 w_2))))))
theorem pavanelaw19_SessionPlays_wp (l : Sl) (next_ : Int) (fresh : Bool) (acts : Sl) (R : Value → World → Prop) (w : World) (h : pavanelaw19_SessionPlays_vc l next_ fresh acts R w) :
    Calls Try.prog 6 #[Sl.v l, .int .i64 next_, .bool fresh, Sl.v acts] w fun e w' => ∃ v, e = .returned v ∧ R v w' := by
  unfold pavanelaw19_SessionPlays_vc at h
  refine callsF (l := [(0, Sl.v l), (1, .int .i64 next_), (2, .bool fresh), (3, Sl.v acts)]) Try.func6 rfl Try.ntmps6 (Nat.le_of_ble_eq_true rfl) rfl (wp_seq (wp_region_lit (sv (R_as rfl) (wpList_nil (then_normal (wp_seq (wp_region_lit (st_one (wn rfl) ?_))))))))
  refine O_enter (args := #[]) (R_enter Try.call8 rfl) (h.mono ?_)
  clear h
  rintro _ w_ ⟨x1, rfl, h⟩
  refine ⟨_, rfl, ?_⟩
  refine sv (R_as rfl) (wpList_nil (then_normal (wp_seq (wp_region_lit (st_one (wn rfl) ?_)))))
  refine O_enter (args := #[]) (R_enter Try.call9 rfl) (h.mono ?_)
  clear h
  rintro _ w_1 ⟨x2, rfl, h⟩
  refine ⟨_, rfl, ?_⟩
  refine sv (R_as rfl) (wpList_nil (then_normal (wp_seq (wp_region_lit (st_one (wn rfl) ?_)))))
  refine O_enter (args := #[]) (R_enter Try.call16 rfl) (h.mono ?_)
  clear h
  rintro _ w_2 ⟨x3, rfl, h⟩
  refine ⟨_, rfl, ?_⟩
  refine sv (R_as rfl) (wpList_nil (then_normal ?_))
  obtain ⟨J_, hJ, h⟩ := h
  refine wp_seq_join (fun a' w' => ∃ b : Option Addr, ∃ x4 : Option Addr, (∃ us, a' = fr 166 us [(3, Sl.v acts), (9, .bool x1), (10, .pointer b), (11, .pointer x4)]) ∧ J_ b x4 w') ?_ ?_
  · clear h
    rintro _ w_3 ⟨b, x4, ⟨us, rfl⟩, h⟩
    replace h := hJ _ _ _ h
    refine wp_seq (wp_seq (wp_region_lit (sv (R_mv rfl) (sv (R_not rfl) (sv (R_mv rfl) ?_)))))
    refine cutF 3 166 [(3, Sl.v acts), (10, .pointer b), (11, .pointer x4), (74, .bool ((!x1) || (Option.isNone b)))] ?_ ?_
    · simp only [List.take_succ_cons, List.take_zero]
      rcases Bool.eq_false_or_eq_true (!x1) with hg | hg
      · refine sno (wtF rfl rfl rfl (bg hg) rfl) (sno (wtF rfl rfl rfl (bg hg) rfl) (sv (R_pickT (bg hg) rfl) (wpList_nil ?_)))
        exact cutEnd ⟨rfl, rfl, rfl, (by rw [hg]; rfl), trivial⟩
      · refine svg (wtF rfl rfl rfl (bg hg) rfl) (R_mv rfl) (svg (wtF rfl rfl rfl (bg hg) rfl) (R_eqlPtrNilR (Try.runUnderlying24 _) rfl rfl rfl) (sv (R_pickF (bg hg) rfl) (wpList_nil ?_)))
        exact cutEnd ⟨rfl, rfl, rfl, (by rw [hg]; rfl), trivial⟩
    intro us
    simp only [List.drop_succ_cons, List.drop_zero]
    refine wpList_nil (then_normal ?_)
    refine C_split (t := ((!x1) || (Option.isNone b))) rfl (fun hc => ?_) (fun hc => ?_)
    · replace h := h.1 hc
      refine wp_seq (wp_region_lit (sv (R_as rfl) (wpList_nil (then_normal (wp_ret (then_ret ?_))))))
      exact ret1 Try.results6 ⟨rfl, trivial⟩ h
    · replace h := h.2 hc
      refine wp_skip (then_normal (wp_seq (wp_seq (wp_region_lit (sv (R_as rfl) (wpList_nil (then_normal (wp_block ?_))))))))
      obtain ⟨I_, nv1, h0, hI⟩ := h
      refine wp_loop_ghost (fun nv' a' w' => ∃ i : Int, (∃ us, a' = fr 166 us [(3, Sl.v acts), (10, .pointer b), (11, .pointer x4), (16, .int .i64 i)]) ∧ I_ nv' i w') nv1 ?_ ?_
      · exact ⟨_, fr_sub ⟨rfl, rfl, rfl, rfl, trivial⟩, h0⟩
      · clear h0
        rintro nv _ w_4 ⟨i, ⟨us1, rfl⟩, h⟩
        replace h := hI _ _ _ h
        refine wp_seq (wp_seq (wp_region_lit (sv (R_mv rfl) (sv (R_mv rfl) (sv (R_len (s := acts) (Try.runUnderlying22 _) rfl) (sv (R_lss rfl rfl) (sv (R_mv rfl) ?_)))))))
        refine cutF 3 166 [(3, Sl.v acts), (10, .pointer b), (11, .pointer x4), (16, .int .i64 i), (82, .bool ((decide (i < (↑(Sl.n acts) : Int))) && (decide (i < 100))))] ?_ ?_
        · simp only [List.take_succ_cons, List.take_zero]
          rcases Bool.eq_false_or_eq_true (decide (i < (↑(Sl.n acts) : Int))) with hg1 | hg1
          · refine svg (wtF rfl rfl rfl (bg hg1) rfl) (R_mv rfl) (svg (wtF rfl rfl rfl (bg hg1) rfl) (R_lss rfl rfl) (sv (R_pickT (bg hg1) rfl) (wpList_nil ?_)))
            exact cutEnd ⟨rfl, rfl, rfl, rfl, (by rw [hg1]; rfl), trivial⟩
          · refine sno (wtF rfl rfl rfl (bg hg1) rfl) (sno (wtF rfl rfl rfl (bg hg1) rfl) (sv (R_pickF (bg hg1) rfl) (wpList_nil ?_)))
            exact cutEnd ⟨rfl, rfl, rfl, rfl, (by rw [hg1]; rfl), trivial⟩
        intro us
        simp only [List.drop_succ_cons, List.drop_zero]
        refine wpList_nil (then_normal ?_)
        refine C_split (t := ((decide (i < (↑(Sl.n acts) : Int))) && (decide (i < 100)))) rfl (fun hc1 => ?_) (fun hc1 => ?_)
        · replace h := h.1 hc1
          refine wp_skip (then_normal (wp_seq (wp_block (wp_seq (wp_region_lit (sv (R_mv rfl) (sv (R_mv rfl) (sv (R_mv rfl) ?_))))))))
          obtain ⟨ad, hx, h⟩ := h
          refine sv (v := .pointer (some ad)) (R_indexS (s := acts) (Try.runUnderlying22 _) (Try.sizeOf29 _) rfl rfl hx) ?_
          obtain ⟨x0, x11, x21, x31, x41, hx1, h⟩ := h
          refine sv (v := .agg #[.int .i64 x0, .int .i64 x11, .int .i64 x21, .int .i64 x31, Sl.v x41]) (R_loadN (Try.isAgg29 _) (Try.sizeOf29 _) rfl rfl hx1) (st_one (wn rfl) ?_)
          refine O_enter (args := #[.pointer b, .agg #[.int .i64 x0, .int .i64 x11, .int .i64 x21, .int .i64 x31, Sl.v x41]]) (R_enter Try.call11 rfl) (h.mono ?_)
          clear h
          rintro _ w_5 ⟨x01, x12, x22, x32, rfl, h⟩
          refine ⟨_, rfl, ?_⟩
          refine sv (R_mv rfl) (sv (R_ext rfl rfl) (sv (R_ext rfl rfl) (sv (R_ext rfl rfl) (sv (R_ext rfl rfl) (sv (R_as rfl) (sv (R_as rfl) (sv (R_as rfl) (sv (R_as rfl) (wpList_nil (then_normal (wp_seq (wp_region_lit (sv (R_mv rfl) (sv (R_mv rfl) ?_))))))))))))))
          refine sv (R_mv rfl) ?_
          obtain ⟨ad1, hx2, h⟩ := h
          refine sv (v := .pointer (some ad1)) (R_indexS (s := acts) (Try.runUnderlying22 _) (Try.sizeOf29 _) rfl rfl hx2) ?_
          obtain ⟨x02, x13, x23, x33, x42, hx3, h⟩ := h
          refine sv (v := .agg #[.int .i64 x02, .int .i64 x13, .int .i64 x23, .int .i64 x33, Sl.v x42]) (R_loadN (Try.isAgg29 _) (Try.sizeOf29 _) rfl rfl hx3) (st_one (wn rfl) ?_)
          refine O_enter (args := #[.pointer x4, .agg #[.int .i64 x02, .int .i64 x13, .int .i64 x23, .int .i64 x33, Sl.v x42]]) (R_enter Try.call20 rfl) (h.mono ?_)
          clear h
          rintro _ w_6 ⟨x03, x14, x24, x34, rfl, h⟩
          refine ⟨_, rfl, ?_⟩
          refine sv (R_mv rfl) (sv (R_ext rfl rfl) (sv (R_ext rfl rfl) (sv (R_ext rfl rfl) (sv (R_ext rfl rfl) (sv (R_as rfl) (sv (R_as rfl) (sv (R_as rfl) (sv (R_as rfl) (wpList_nil (then_normal (wp_seq ?_)))))))))))
          obtain ⟨J_1, hJ1, h⟩ := h
          refine wp_cut (fun a' w' => ∃ same : Bool, (∃ us, a' = fr 166 us [(3, Sl.v acts), (10, .pointer b), (11, .pointer x4), (16, .int .i64 i), (17, .int .i64 x01), (18, .int .i64 x12), (19, Sl.v x22), (21, .int .i64 x03), (22, .int .i64 x14), (25, .bool same)]) ∧ J_1 same w') ?_ ?_
          · clear h
            rintro _ w_7 ⟨same, ⟨us2, rfl⟩, h⟩
            replace h := hJ1 _ _ h
            refine then_normal (wp_seq (wp_region_lit (sv (R_mv rfl) ?_)))
            obtain ⟨x5, w_8, hr, h⟩ := h
            refine st_one (wn rfl) (O_val (v := (Sl.v x5)) (R_buildSlice rfl hr) (st_one (wn rfl) ?_))
            refine O_enter (args := #[Sl.v x5]) (R_enter Try.call22 rfl) (h.mono ?_)
            clear h
            rintro _ w_9 ⟨x6, rfl, h⟩
            refine ⟨_, rfl, ?_⟩
            refine wpList_nil (then_normal (wp_seq (wp_region_lit (sv (R_mv rfl) ?_))))
            obtain ⟨ad2, hx4, h⟩ := h
            refine sv (v := .pointer (some ad2)) (R_nil (pg hx4)) (sv (v := .pointer (some (Addr.add ad2 0))) (R_field (Try.runUnderlying47 _) rfl (Try.sizeOf45 _) rfl rfl) (st_one (wn rfl) ?_))
            refine O_enter (args := #[.pointer (some (Addr.add ad2 0))]) (R_enter Try.call14 rfl) (h.mono ?_)
            clear h
            rintro _ w_10 ⟨x7, rfl, h⟩
            refine ⟨_, rfl, ?_⟩
            refine sv (R_as rfl) (wpList_nil (then_normal (wp_seq (wp_region_lit (sv (R_mv rfl) (sv (R_mv rfl) (st_one (wn rfl) ?_)))))))
            refine O_enter (args := #[.pointer x4]) (R_enter Try.call23 rfl) (h.mono ?_)
            clear h
            rintro _ w_11 ⟨x8, rfl, h⟩
            refine ⟨_, rfl, ?_⟩
            refine st_one (wn rfl) ?_
            refine O_enter (args := #[Sl.v x7, Sl.v x8]) (R_enter Try.call19 rfl) (h.mono ?_)
            clear h
            rintro _ w_12 ⟨x9, rfl, h⟩
            refine ⟨_, rfl, ?_⟩
            refine sv (R_as rfl) (wpList_nil (then_normal (wp_seq (wp_region_lit (sv (R_mv rfl) (st_one (wn rfl) ?_))))))
            refine O_enter (args := #[Sl.v x7]) (R_enter Try.call24 rfl) (h.mono ?_)
            clear h
            rintro _ w_13 ⟨rfl, h⟩
            refine ⟨_, rfl, ?_⟩
            refine wpList_nil (then_normal (wp_seq (wp_region_lit (sv (R_mv rfl) ?_))))
            obtain ⟨ad3, hx5, h⟩ := h
            refine sv (v := .pointer (some ad3)) (R_nil (pg hx5)) (sv (v := .pointer (some (Addr.add ad3 0))) (R_field (Try.runUnderlying47 _) rfl (Try.sizeOf45 _) rfl rfl) (st_one (wn rfl) ?_))
            refine O_enter (args := #[.pointer (some (Addr.add ad3 0))]) (R_enter Try.call14 rfl) (h.mono ?_)
            clear h
            rintro _ w_14 ⟨x10, rfl, h⟩
            refine ⟨_, rfl, ?_⟩
            refine sv (R_mv rfl) (st_one (wn rfl) ?_)
            refine O_enter (args := #[.pointer x4]) (R_enter Try.call23 rfl) (h.mono ?_)
            clear h
            rintro _ w_15 ⟨x15, rfl, h⟩
            refine ⟨_, rfl, ?_⟩
            refine st_one (wn rfl) ?_
            refine O_enter (args := #[Sl.v x10, Sl.v x15]) (R_enter Try.call19 rfl) (h.mono ?_)
            clear h
            rintro _ w_16 ⟨x16, rfl, h⟩
            refine ⟨_, rfl, ?_⟩
            refine sv (R_as rfl) (wpList_nil (then_normal (wp_seq ?_)))
            obtain ⟨J_2, hJ2, h⟩ := h
            refine wp_cut (fun a' w' => ∃ t165 : Bool, (∃ us, a' = fr 166 us [(3, Sl.v acts), (10, .pointer b), (11, .pointer x4), (16, .int .i64 i), (165, .bool t165)]) ∧ J_2 t165 w') ?_ ?_
            · clear h
              rintro _ w_17 ⟨t165, ⟨us3, rfl⟩, h⟩
              replace h := hJ2 _ _ h
              refine then_normal ?_
              refine C_split (t := t165) rfl (fun hc2 => ?_) (fun hc2 => ?_)
              · replace h := h.1 hc2
                refine wp_seq (wp_region_lit (sv (R_as rfl) (wpList_nil (then_normal (wp_ret (block_ret (then_ret (then_ret (block_ret (then_ret ?_))))))))))
                exact ret1 Try.results6 ⟨rfl, trivial⟩ h
              · replace h := h.2 hc2
                refine wp_skip (block_normal (then_normal (wp_region_lit (sv (R_mv rfl) (sv (R_add rfl rfl) (sv (R_as rfl) (wpList_nil (then_normal ?_))))))))
                obtain ⟨nv2, hl, h⟩ := h
                exact ⟨nv2, hl, _, fr_sub ⟨rfl, rfl, rfl, rfl, trivial⟩, h⟩
            · refine e_region (EL [(22, [(ptrBlk x4)])]) Try.checked.mixed ?_
              have hO := Only.drew w_16
              generalize w_16.drew = w_18 at *
              have hA : Only [] w_16 w_18 := hO
              refine eQ 0 rfl rfl (wn rfl) (fun _ => (R_mv rfl)) (eQ 1 rfl rfl (wn rfl) (fun _ => (R_mv rfl)) (eQ 2 rfl rfl (wn rfl) (fun _ => (R_neq rfl rfl)) (eQ 3 rfl rfl (wn rfl) (fun _ => (R_mv rfl)) ?_)))
              replace h := h w_18 hA
              rcases Bool.eq_false_or_eq_true (x01 != x03) with hg2 | hg2
              · replace h := h.1 hg2
                refine eN 4 rfl (fun w => el_quiet rfl w) (wtF rfl rfl rfl (bg hg2) rfl) (eN 5 rfl (fun w => el_quiet rfl w) (wtF rfl rfl rfl (bg hg2) rfl) (eN 6 rfl (fun w => el_quiet rfl w) (wtF rfl rfl rfl (bg hg2) rfl) (eQ 7 rfl rfl (wn rfl) (fun _ => (R_pickT (bg hg2) rfl)) (eQ 8 rfl rfl (wn rfl) (fun _ => (R_mv rfl)) (eN 9 rfl (fun w => el_quiet rfl w) (wtF rfl rfl rfl rfl rfl) (eN 10 rfl (fun w => el_quiet rfl w) (wtF rfl rfl rfl rfl rfl) (eQ 11 rfl rfl (wn rfl) (fun _ => (R_pickT rfl rfl)) (eQ 12 rfl rfl (wn rfl) (fun _ => (R_mv rfl)) (eN 13 rfl (fun w => el_quiet rfl w) (wtF rfl rfl rfl rfl rfl) (eN 14 rfl (fun w => el_quiet rfl w) (wtF rfl rfl rfl rfl rfl) (eQ 15 rfl rfl (wn rfl) (fun _ => (R_pickT rfl rfl)) (eQ 16 rfl rfl (wn rfl) (fun _ => (R_mv rfl)) (eN 17 rfl (fun w => el_quiet rfl w) (wtF rfl rfl rfl rfl rfl) (eN 18 rfl (fun w => el_quiet rfl w) (wtF rfl rfl rfl rfl rfl) ?_))))))))))))))
                refine eQ 19 rfl rfl (wn rfl) (fun _ => (R_pickT rfl rfl)) (eQ 20 rfl rfl (wn rfl) (fun _ => (R_mv rfl)) (eN 21 rfl (fun w => el_quiet rfl w) (wtF rfl rfl rfl rfl rfl) (eN 22 rfl (fun w => el_loud rfl (Same.refl _ w)) (wtF rfl rfl rfl rfl rfl) (eN 23 rfl (fun w => el_quiet rfl w) (wtF rfl rfl rfl rfl rfl) (eN 24 rfl (fun w => el_quiet rfl w) (wtF rfl rfl rfl rfl rfl) (eN 25 rfl (fun w => el_quiet rfl w) (wtF rfl rfl rfl rfl rfl) (eN 26 rfl (fun w => el_quiet rfl w) (wtF rfl rfl rfl rfl rfl) (eN 27 rfl (fun w => el_quiet rfl w) (wtF rfl rfl rfl rfl rfl) (eQ 28 rfl rfl (wn rfl) (fun _ => (R_pickT rfl rfl)) (e_done (by kernel_rfl) ?_))))))))))
                exact then_normal ⟨_, fr_sub ⟨rfl, rfl, rfl, rfl, rfl, trivial⟩, h⟩
              · replace h := h.2 hg2
                refine eQ 4 rfl rfl (wtF rfl rfl rfl (bg hg2) rfl) (fun _ => (R_mv rfl)) (eQ 5 rfl rfl (wtF rfl rfl rfl (bg hg2) rfl) (fun _ => (R_mv rfl)) (eQ 6 rfl rfl (wtF rfl rfl rfl (bg hg2) rfl) (fun _ => (R_neq rfl rfl)) (eQ 7 rfl rfl (wn rfl) (fun _ => (R_pickF (bg hg2) rfl)) (eQ 8 rfl rfl (wn rfl) (fun _ => (R_mv rfl)) ?_))))
                rcases Bool.eq_false_or_eq_true (x12 != x14) with hg3 | hg3
                · replace h := h.1 hg3
                  refine eN 9 rfl (fun w => el_quiet rfl w) (wtF rfl rfl rfl (bg hg3) rfl) (eN 10 rfl (fun w => el_quiet rfl w) (wtF rfl rfl rfl (bg hg3) rfl) (eQ 11 rfl rfl (wn rfl) (fun _ => (R_pickT (bg hg3) rfl)) (eQ 12 rfl rfl (wn rfl) (fun _ => (R_mv rfl)) (eN 13 rfl (fun w => el_quiet rfl w) (wtF rfl rfl rfl rfl rfl) (eN 14 rfl (fun w => el_quiet rfl w) (wtF rfl rfl rfl rfl rfl) (eQ 15 rfl rfl (wn rfl) (fun _ => (R_pickT rfl rfl)) (eQ 16 rfl rfl (wn rfl) (fun _ => (R_mv rfl)) (eN 17 rfl (fun w => el_quiet rfl w) (wtF rfl rfl rfl rfl rfl) (eN 18 rfl (fun w => el_quiet rfl w) (wtF rfl rfl rfl rfl rfl) (eQ 19 rfl rfl (wn rfl) (fun _ => (R_pickT rfl rfl)) (eQ 20 rfl rfl (wn rfl) (fun _ => (R_mv rfl)) (eN 21 rfl (fun w => el_quiet rfl w) (wtF rfl rfl rfl rfl rfl) (eN 22 rfl (fun w => el_loud rfl (Same.refl _ w)) (wtF rfl rfl rfl rfl rfl) (eN 23 rfl (fun w => el_quiet rfl w) (wtF rfl rfl rfl rfl rfl) ?_))))))))))))))
                  refine eN 24 rfl (fun w => el_quiet rfl w) (wtF rfl rfl rfl rfl rfl) (eN 25 rfl (fun w => el_quiet rfl w) (wtF rfl rfl rfl rfl rfl) (eN 26 rfl (fun w => el_quiet rfl w) (wtF rfl rfl rfl rfl rfl) (eN 27 rfl (fun w => el_quiet rfl w) (wtF rfl rfl rfl rfl rfl) (eQ 28 rfl rfl (wn rfl) (fun _ => (R_pickT rfl rfl)) (e_done (by kernel_rfl) ?_)))))
                  exact then_normal ⟨_, fr_sub ⟨rfl, rfl, rfl, rfl, rfl, trivial⟩, h⟩
                · replace h := h.2 hg3
                  refine eQ 9 rfl rfl (wtF rfl rfl rfl (bg hg3) rfl) (fun _ => (R_mv rfl)) (eQ 10 rfl rfl (wtF rfl rfl rfl (bg hg3) rfl) (fun _ => (R_not rfl)) (eQ 11 rfl rfl (wn rfl) (fun _ => (R_pickF (bg hg3) rfl)) (eQ 12 rfl rfl (wn rfl) (fun _ => (R_mv rfl)) ?_)))
                  rcases Bool.eq_false_or_eq_true (!same) with hg4 | hg4
                  · replace h := h.1 hg4
                    refine eN 13 rfl (fun w => el_quiet rfl w) (wtF rfl rfl rfl (bg hg4) rfl) (eN 14 rfl (fun w => el_quiet rfl w) (wtF rfl rfl rfl (bg hg4) rfl) (eQ 15 rfl rfl (wn rfl) (fun _ => (R_pickT (bg hg4) rfl)) (eQ 16 rfl rfl (wn rfl) (fun _ => (R_mv rfl)) (eN 17 rfl (fun w => el_quiet rfl w) (wtF rfl rfl rfl rfl rfl) (eN 18 rfl (fun w => el_quiet rfl w) (wtF rfl rfl rfl rfl rfl) (eQ 19 rfl rfl (wn rfl) (fun _ => (R_pickT rfl rfl)) (eQ 20 rfl rfl (wn rfl) (fun _ => (R_mv rfl)) (eN 21 rfl (fun w => el_quiet rfl w) (wtF rfl rfl rfl rfl rfl) (eN 22 rfl (fun w => el_loud rfl (Same.refl _ w)) (wtF rfl rfl rfl rfl rfl) (eN 23 rfl (fun w => el_quiet rfl w) (wtF rfl rfl rfl rfl rfl) (eN 24 rfl (fun w => el_quiet rfl w) (wtF rfl rfl rfl rfl rfl) (eN 25 rfl (fun w => el_quiet rfl w) (wtF rfl rfl rfl rfl rfl) (eN 26 rfl (fun w => el_quiet rfl w) (wtF rfl rfl rfl rfl rfl) (eN 27 rfl (fun w => el_quiet rfl w) (wtF rfl rfl rfl rfl rfl) ?_))))))))))))))
                    refine eQ 28 rfl rfl (wn rfl) (fun _ => (R_pickT rfl rfl)) (e_done (by kernel_rfl) ?_)
                    exact then_normal ⟨_, fr_sub ⟨rfl, rfl, rfl, rfl, rfl, trivial⟩, h⟩
                  · replace h := h.2 hg4
                    refine eQ 13 rfl rfl (wtF rfl rfl rfl (bg hg4) rfl) (fun _ => (R_mv rfl)) (eQ 14 rfl rfl (wtF rfl rfl rfl (bg hg4) rfl) (fun _ => (R_not rfl)) (eQ 15 rfl rfl (wn rfl) (fun _ => (R_pickF (bg hg4) rfl)) (eQ 16 rfl rfl (wn rfl) (fun _ => (R_mv rfl)) ?_)))
                    rcases Bool.eq_false_or_eq_true (!x9) with hg5 | hg5
                    · replace h := h.1 hg5
                      refine eN 17 rfl (fun w => el_quiet rfl w) (wtF rfl rfl rfl (bg hg5) rfl) (eN 18 rfl (fun w => el_quiet rfl w) (wtF rfl rfl rfl (bg hg5) rfl) (eQ 19 rfl rfl (wn rfl) (fun _ => (R_pickT (bg hg5) rfl)) (eQ 20 rfl rfl (wn rfl) (fun _ => (R_mv rfl)) (eN 21 rfl (fun w => el_quiet rfl w) (wtF rfl rfl rfl rfl rfl) (eN 22 rfl (fun w => el_loud rfl (Same.refl _ w)) (wtF rfl rfl rfl rfl rfl) (eN 23 rfl (fun w => el_quiet rfl w) (wtF rfl rfl rfl rfl rfl) (eN 24 rfl (fun w => el_quiet rfl w) (wtF rfl rfl rfl rfl rfl) (eN 25 rfl (fun w => el_quiet rfl w) (wtF rfl rfl rfl rfl rfl) (eN 26 rfl (fun w => el_quiet rfl w) (wtF rfl rfl rfl rfl rfl) (eN 27 rfl (fun w => el_quiet rfl w) (wtF rfl rfl rfl rfl rfl) (eQ 28 rfl rfl (wn rfl) (fun _ => (R_pickT rfl rfl)) (e_done (by kernel_rfl) ?_))))))))))))
                      exact then_normal ⟨_, fr_sub ⟨rfl, rfl, rfl, rfl, rfl, trivial⟩, h⟩
                    · replace h := h.2 hg5
                      refine eQ 17 rfl rfl (wtF rfl rfl rfl (bg hg5) rfl) (fun _ => (R_mv rfl)) (eQ 18 rfl rfl (wtF rfl rfl rfl (bg hg5) rfl) (fun _ => (R_not rfl)) (eQ 19 rfl rfl (wn rfl) (fun _ => (R_pickF (bg hg5) rfl)) (eQ 20 rfl rfl (wn rfl) (fun _ => (R_mv rfl)) ?_)))
                      rcases Bool.eq_false_or_eq_true (!x16) with hg6 | hg6
                      · replace h := h.1 hg6
                        refine eN 21 rfl (fun w => el_quiet rfl w) (wtF rfl rfl rfl (bg hg6) rfl) (eN 22 rfl (fun w => el_loud rfl (Same.refl _ w)) (wtF rfl rfl rfl (bg hg6) rfl) (eN 23 rfl (fun w => el_quiet rfl w) (wtF rfl rfl rfl (bg hg6) rfl) (eN 24 rfl (fun w => el_quiet rfl w) (wtF rfl rfl rfl (bg hg6) rfl) (eN 25 rfl (fun w => el_quiet rfl w) (wtF rfl rfl rfl (bg hg6) rfl) (eN 26 rfl (fun w => el_quiet rfl w) (wtF rfl rfl rfl (bg hg6) rfl) (eN 27 rfl (fun w => el_quiet rfl w) (wtF rfl rfl rfl (bg hg6) rfl) (eQ 28 rfl rfl (wn rfl) (fun _ => (R_pickT (bg hg6) rfl)) (e_done (by kernel_rfl) ?_))))))))
                        exact then_normal ⟨_, fr_sub ⟨rfl, rfl, rfl, rfl, rfl, trivial⟩, h⟩
                      · replace h := h.2 hg6
                        refine eQ 21 rfl rfl (wtF rfl rfl rfl (bg hg6) rfl) (fun _ => (R_mv rfl)) (eQ 23 rfl rfl (wtF rfl rfl rfl (bg hg6) rfl) (fun _ => (R_mv rfl)) ?_)
                        obtain ⟨ad4, hx6, h⟩ := h
                        refine eQ 24 (v := .pointer (some ad4)) rfl rfl (wtF rfl rfl rfl (bg hg6) rfl) (fun _ => (R_nil (pg hx6))) (eQ 25 (v := .pointer (some (Addr.add ad4 1))) rfl rfl (wtF rfl rfl rfl (bg hg6) rfl) (fun _ => (R_field (Try.runUnderlying64 _) rfl (Try.sizeOf3 _) rfl rfl)) ?_)
                        obtain ⟨x17, hx7, h⟩ := h
                        refine eL 26 [27, 28] [0, 1, 2, 3, 4, 5, 6, 7, 8, 9, 10, 11, 12, 13, 14, 15, 16, 17, 18, 19, 20, 21, 23, 24, 25] (fun w' => Cells w' (Addr.add ad4 1) [.int .i64 x17]) (v := .int .i64 x17) rfl rfl (el_stable (b := (ptrBlk x4)) (List.forall_mem_cons.2 ⟨.inr (.inr (.head _)), List.forall_mem_nil _⟩) (keep_cells_b (by simp only [addr_blk, ptrBlk, hx6]))) hx7 (y_val (wtF rfl rfl rfl (bg hg6) rfl) (fun w' hw' => (R_load1 (Try.isAgg3 _) rfl (Cells.one hw')))) (e_one 22 rfl (by kernel_rfl) (wtF rfl rfl rfl (bg hg6) rfl) ?_)
                        refine O_enter (args := #[.pointer b]) (R_enter Try.call15 rfl) (h.mono ?_)
                        clear h
                        rintro _ w_19 ⟨x18, rfl, hs14, h⟩
                        refine ⟨_, rfl, ?_⟩
                        refine ⟨el_loud rfl hs14, ?_⟩
                        refine eQ 27 rfl rfl (wtF rfl rfl rfl (bg hg6) rfl) (fun _ => (R_neq rfl rfl)) (eQ 28 rfl rfl (wn rfl) (fun _ => (R_pickF (bg hg6) rfl)) (e_done (by kernel_rfl) ?_))
                        exact then_normal ⟨_, fr_sub ⟨rfl, rfl, rfl, rfl, rfl, trivial⟩, h⟩
          · refine wp_region_lit (sv (R_mv rfl) ?_)
            obtain ⟨bs, hx8, h⟩ := h
            refine sv (v := .string (⟨List.toArray bs⟩ : ByteArray)) (R_bytesStr (sl := x22) Try.underlying27 Try.underlying5 Try.underlying9 rfl hx8) (sv (R_mv rfl) ?_)
            obtain ⟨bs1, hx9, h⟩ := h
            refine sv (v := .string (⟨List.toArray bs1⟩ : ByteArray)) (R_bytesStr (sl := x24) Try.underlying27 Try.underlying5 Try.underlying9 rfl hx9) (sv (R_seql rfl rfl) (sv (R_mv rfl) ?_))
            rcases Bool.eq_false_or_eq_true ((⟨List.toArray bs⟩ : ByteArray).toList == (⟨List.toArray bs1⟩ : ByteArray).toList) with hg7 | hg7
            · replace h := h.1 hg7
              refine svg (wtF rfl rfl rfl (bg hg7) rfl) (R_mv rfl) (svg (wtF rfl rfl rfl (bg hg7) rfl) (R_mv rfl) (st_one (wtF rfl rfl rfl (bg hg7) rfl) ?_))
              refine O_enter (args := #[Sl.v x32, Sl.v x34]) (R_enter Try.call21 rfl) (h.mono ?_)
              clear h
              rintro _ w_20 ⟨x19, rfl, h⟩
              refine ⟨_, rfl, ?_⟩
              refine sv (R_pickT (bg hg7) rfl) (sv (R_as rfl) (wpList_nil ?_))
              exact then_normal ⟨_, fr_sub ⟨rfl, rfl, rfl, rfl, rfl, rfl, rfl, rfl, rfl, rfl, trivial⟩, h⟩
            · replace h := h.2 hg7
              refine sno (wtF rfl rfl rfl (bg hg7) rfl) (sno (wtF rfl rfl rfl (bg hg7) rfl) (sno (wtF rfl rfl rfl (bg hg7) rfl) (sv (R_pickF (bg hg7) rfl) (sv (R_as rfl) (wpList_nil ?_)))))
              exact then_normal ⟨_, fr_sub ⟨rfl, rfl, rfl, rfl, rfl, rfl, rfl, rfl, rfl, rfl, trivial⟩, h⟩
        · replace h := h.2 hc1
          refine wp_exit (then_exit (then_exit (block_hit (then_normal (wp_seq (wp_region_lit (sv (R_as rfl) (wpList_nil (then_normal (wp_ret ?_))))))))))
          exact ret1 Try.results6 ⟨rfl, trivial⟩ h
  · clear hJ
    refine wp_seq (wp_region_lit (sv (R_mv rfl) (sv (R_not rfl) (wpList_nil (then_normal ?_)))))
    refine C_split (t := (!fresh)) rfl (fun hc3 => ?_) (fun hc3 => ?_)
    · replace h := h.1 hc3
      refine wp_seq (wp_region_lit ?_)
      obtain ⟨x20, w_21, hr1, h⟩ := h
      refine st_one (wn rfl) (O_val (v := (Sl.v x20)) (R_buildSlice rfl hr1) (sv (R_mv rfl) ?_))
      obtain ⟨x25, w_22, hr2, h⟩ := h
      refine st_one (wn rfl) (O_val (v := (Sl.v x25)) (R_builtin_append rfl hr2) (sv (R_as rfl) (wpList_nil (then_normal (wp_seq (wp_region_lit (sv (R_as rfl) (sv (R_as rfl) (wpList_nil (then_normal (wp_seq (wp_region_lit (sv (R_mv rfl) (sv (R_mv rfl) ?_))))))))))))))
      refine st_one (wn rfl) ?_
      refine O_enter (args := #[Sl.v x25, .int .i64 next_]) (R_enter Try.call17 rfl) (h.mono ?_)
      clear h
      rintro _ w_23 ⟨x04, x110, rfl, h⟩
      refine ⟨_, rfl, ?_⟩
      refine sv (R_mv rfl) (sv (R_ext rfl rfl) (sv (R_ext rfl rfl) (sv (R_as rfl) (sv (R_as rfl) (wpList_nil (then_normal (wp_seq (wp_region_lit (sv (R_mv rfl) (sv (R_mv rfl) (st_one (wn rfl) ?_)))))))))))
      refine O_enter (args := #[Sl.v l, .int .i64 next_]) (R_enter Try.call18 rfl) (h.mono ?_)
      clear h
      rintro _ w_24 ⟨x05, x111, rfl, h⟩
      refine ⟨_, rfl, ?_⟩
      refine sv (R_mv rfl) (sv (R_ext rfl rfl) (sv (R_ext rfl rfl) (sv (R_as rfl) (sv (R_as rfl) (wpList_nil (then_normal (wp_seq (wp_region_lit (sv (R_mv rfl) (sv (R_mv rfl) (st_one (wn rfl) ?_)))))))))))
      refine O_enter (args := #[Sl.v x25, Sl.v l]) (R_enter Try.call19 rfl) (h.mono ?_)
      clear h
      rintro _ w_25 ⟨x26, rfl, h⟩
      refine ⟨_, rfl, ?_⟩
      refine sv (R_as rfl) (wpList_nil (then_normal (wp_seq (wp_seq (wp_region_lit (sv (R_mv rfl) (sv (R_mv rfl) (sv (R_neq rfl rfl) (sv (R_mv rfl) ?_)))))))))
      refine cutF 3 166 [(3, Sl.v acts), (9, .bool x1), (10, .pointer x04), (11, .pointer x05), (14, .int .i64 x111), (58, .bool ((x110 != x111) || (!x26)))] ?_ ?_
      · simp only [List.take_succ_cons, List.take_zero]
        rcases Bool.eq_false_or_eq_true (x110 != x111) with hg8 | hg8
        · refine sno (wtF rfl rfl rfl (bg hg8) rfl) (sno (wtF rfl rfl rfl (bg hg8) rfl) (sv (R_pickT (bg hg8) rfl) (wpList_nil ?_)))
          exact cutEnd ⟨rfl, rfl, rfl, rfl, rfl, (by rw [hg8]; rfl), trivial⟩
        · refine svg (wtF rfl rfl rfl (bg hg8) rfl) (R_mv rfl) (svg (wtF rfl rfl rfl (bg hg8) rfl) (R_not rfl) (sv (R_pickF (bg hg8) rfl) (wpList_nil ?_)))
          exact cutEnd ⟨rfl, rfl, rfl, rfl, rfl, (by rw [hg8]; rfl), trivial⟩
      intro us
      simp only [List.drop_succ_cons, List.drop_zero]
      refine sv (R_mv rfl) ?_
      refine cutF 6 166 [(3, Sl.v acts), (9, .bool x1), (10, .pointer x04), (11, .pointer x05), (14, .int .i64 x111), (65, .bool (((x110 != x111) || (!x26)) || (!((Option.isNone x04) == (x111 != 0)))))] ?_ ?_
      · simp only [List.take_succ_cons, List.take_zero]
        rcases Bool.eq_false_or_eq_true ((x110 != x111) || (!x26)) with hg9 | hg9
        · refine sno (wtF rfl rfl rfl (bg hg9) rfl) (sno (wtF rfl rfl rfl (bg hg9) rfl) (sno (wtF rfl rfl rfl (bg hg9) rfl) (sno (wtF rfl rfl rfl (bg hg9) rfl) (sno (wtF rfl rfl rfl (bg hg9) rfl) (sv (R_pickT (bg hg9) rfl) (wpList_nil ?_))))))
          exact cutEnd ⟨rfl, rfl, rfl, rfl, rfl, (by rw [hg9]; rfl), trivial⟩
        · refine svg (wtF rfl rfl rfl (bg hg9) rfl) (R_mv rfl) (svg (wtF rfl rfl rfl (bg hg9) rfl) (R_eqlPtrNilR (Try.runUnderlying24 _) rfl rfl rfl) (svg (wtF rfl rfl rfl (bg hg9) rfl) (R_mv rfl) (svg (wtF rfl rfl rfl (bg hg9) rfl) (R_neq rfl rfl) (svg (wtF rfl rfl rfl (bg hg9) rfl) (R_neqBool Try.underlying4 rfl rfl) (sv (R_pickF (bg hg9) rfl) (wpList_nil ?_))))))
          exact cutEnd ⟨rfl, rfl, rfl, rfl, rfl, (by rw [hg9]; rfl), trivial⟩
      intro us
      simp only [List.drop_succ_cons, List.drop_zero]
      refine wpList_nil (then_normal ?_)
      refine C_split (t := (((x110 != x111) || (!x26)) || (!((Option.isNone x04) == (x111 != 0))))) rfl (fun hc4 => ?_) (fun hc4 => ?_)
      · replace h := h.1 hc4
        refine wp_seq (wp_region_lit (sv (R_as rfl) (wpList_nil (then_normal (wp_ret (then_ret (then_ret ?_)))))))
        exact ret1 Try.results6 ⟨rfl, trivial⟩ h
      · replace h := h.2 hc4
        refine wp_skip (then_normal (wp_seq (wp_region_lit (sv (R_mv rfl) (sv (R_neq rfl rfl) (wpList_nil (then_normal ?_)))))))
        refine C_split (t := (x111 != 0)) rfl (fun hc5 => ?_) (fun hc5 => ?_)
        · replace h := h.1 hc5
          refine wp_seq (wp_region_lit (sv (R_mv rfl) (sv (R_as rfl) (wpList_nil (then_normal (wp_ret (then_ret ?_)))))))
          exact ret1 Try.results6 ⟨rfl, trivial⟩ h
        · replace h := h.2 hc5
          refine wp_skip (then_normal ?_)
          exact ⟨_, _, fr_sub ⟨rfl, rfl, rfl, rfl, trivial⟩, h⟩
    · replace h := h.2 hc3
      refine wp_skip (then_normal ?_)
      exact ⟨_, _, fr_sub ⟨rfl, rfl, rfl, rfl, trivial⟩, h⟩

/-- what is to be shown of a call of pavanelaw19.SessionLeases -/
def pavanelaw19_SessionLeases_vc (now : Int) (asks : Sl) (to_ : Int) (R : Value → World → Prop) (w : World) : Prop :=
  Calls Try.prog 8 #[] w (fun e w_ => ∃ x1 : Bool, e = .returned (.bool x1) ∧
  Calls Try.prog 9 #[] w_ (fun e w_1 => ∃ x2 : Option Addr, e = .returned (.pointer x2) ∧
  ((((!x1) || (Option.isNone x2)) = true →
  R (.bool false) w_1) ∧
  (((!x1) || (Option.isNone x2)) = false →
  Calls Try.prog 12 #[.pointer x2, .int .i64 now] w_1 (fun e w_2 => ∃ x0 : Int, ∃ x11 : Int, e = .returned (.tuple #[.int .i64 x0, .int .i64 x11]) ∧
  ((((decide (now < 0)) || (decide (now > 1099511627776))) = true →
  R (.bool ((x11 == 1) && (x0 == 0))) w_2) ∧
  (((decide (now < 0)) || (decide (now > 1099511627776))) = false →
  ∃ (I_ : Nat → Int → World → Prop) (nv1 : Nat), I_ nv1 0 w_2 ∧
  ∀ (nv : Nat) (i : Int) (w_3 : World), I_ nv i w_3 →
  ((((decide (i < (↑(Sl.n asks) : Int))) && (decide (i < 50))) = true →
  ∃ ad : Addr, SlAt asks i 5 ad ∧
  ∃ x3 : Int, Cells w_3 (Addr.add ad 1) [.int .i64 x3] ∧
  ∃ ad1 : Addr, SlAt asks i 5 ad1 ∧
  ∃ x4 : Int, Cells w_3 (Addr.add ad1 2) [.int .i64 x4] ∧
  ∀ (w_4 : World), Only [] w_3 w_4 →
  Calls Try.prog 10 #[.pointer x2, .int .i64 x3, .int .i64 x4] w_4 (fun e w_5 => ∃ x01 : Int, ∃ x12 : Sl, e = .returned (.tuple #[.int .i64 x01, Sl.v x12]) ∧
  ∃ nv2 : Nat, nv2 < nv ∧ I_ nv2 (IntKind.i64.wrap (i + 1)) w_5)) ∧
  (((decide (i < (↑(Sl.n asks) : Int))) && (decide (i < 50))) = false →
  Calls Try.prog 13 #[.pointer x2, .int .i64 to_] w_3 (fun e w_6 => ∃ x5 : Sl, e = .returned (Sl.v x5) ∧
  Calls Try.prog 10 #[.pointer x2, .int .i64 x0, .int .i64 1] w_6 (fun e w_7 => ∃ x02 : Int, ∃ x13 : Sl, e = .returned (.tuple #[.int .i64 x02, Sl.v x13]) ∧
  R (.bool (((x11 == 0) && ((x02 == 1) == (decide (to_ ≤ (IntKind.i64.wrap (now + 50)))))) && ((x02 == 4) == (decide (to_ > (IntKind.i64.wrap (now + 50))))))) w_7)))))))))))
theorem pavanelaw19_SessionLeases_wp (now : Int) (asks : Sl) (to_ : Int) (R : Value → World → Prop) (w : World) (h : pavanelaw19_SessionLeases_vc now asks to_ R w) :
    Calls Try.prog 4 #[.int .i64 now, Sl.v asks, .int .i64 to_] w fun e w' => ∃ v, e = .returned v ∧ R v w' := by
  unfold pavanelaw19_SessionLeases_vc at h
  refine callsF (l := [(0, .int .i64 now), (1, Sl.v asks), (2, .int .i64 to_)]) Try.func4 rfl Try.ntmps4 (Nat.le_of_ble_eq_true rfl) rfl (wp_seq (wp_region_lit (sv (R_as rfl) (wpList_nil (then_normal (wp_seq (wp_region_lit (st_one (wn rfl) ?_))))))))
  refine O_enter (args := #[]) (R_enter Try.call8 rfl) (h.mono ?_)
  clear h
  rintro _ w_ ⟨x1, rfl, h⟩
  refine ⟨_, rfl, ?_⟩
  refine sv (R_as rfl) (wpList_nil (then_normal (wp_seq (wp_region_lit (st_one (wn rfl) ?_)))))
  refine O_enter (args := #[]) (R_enter Try.call9 rfl) (h.mono ?_)
  clear h
  rintro _ w_1 ⟨x2, rfl, h⟩
  refine ⟨_, rfl, ?_⟩
  refine sv (R_as rfl) (wpList_nil (then_normal (wp_seq (wp_seq (wp_region_lit (sv (R_mv rfl) (sv (R_not rfl) (sv (R_mv rfl) ?_))))))))
  refine cutF 3 91 [(0, .int .i64 now), (1, Sl.v asks), (2, .int .i64 to_), (8, .pointer x2), (21, .bool ((!x1) || (Option.isNone x2)))] ?_ ?_
  · simp only [List.take_succ_cons, List.take_zero]
    rcases Bool.eq_false_or_eq_true (!x1) with hg | hg
    · refine sno (wtF rfl rfl rfl (bg hg) rfl) (sno (wtF rfl rfl rfl (bg hg) rfl) (sv (R_pickT (bg hg) rfl) (wpList_nil ?_)))
      exact cutEnd ⟨rfl, rfl, rfl, rfl, (by rw [hg]; rfl), trivial⟩
    · refine svg (wtF rfl rfl rfl (bg hg) rfl) (R_mv rfl) (svg (wtF rfl rfl rfl (bg hg) rfl) (R_eqlPtrNilR (Try.runUnderlying24 _) rfl rfl rfl) (sv (R_pickF (bg hg) rfl) (wpList_nil ?_)))
      exact cutEnd ⟨rfl, rfl, rfl, rfl, (by rw [hg]; rfl), trivial⟩
  intro us
  simp only [List.drop_succ_cons, List.drop_zero]
  refine wpList_nil (then_normal ?_)
  refine C_split (t := ((!x1) || (Option.isNone x2))) rfl (fun hc => ?_) (fun hc => ?_)
  · replace h := h.1 hc
    refine wp_seq (wp_region_lit (sv (R_as rfl) (wpList_nil (then_normal (wp_ret (then_ret ?_))))))
    exact ret1 Try.results4 ⟨rfl, trivial⟩ h
  · replace h := h.2 hc
    refine wp_skip (then_normal (wp_seq (wp_region_lit (sv (R_mv rfl) (sv (R_mv rfl) (st_one (wn rfl) ?_))))))
    refine O_enter (args := #[.pointer x2, .int .i64 now]) (R_enter Try.call12 rfl) (h.mono ?_)
    clear h
    rintro _ w_2 ⟨x0, x11, rfl, h⟩
    refine ⟨_, rfl, ?_⟩
    refine sv (R_mv rfl) (sv (R_ext rfl rfl) (sv (R_ext rfl rfl) (sv (R_as rfl) (sv (R_as rfl) (wpList_nil (then_normal (wp_seq (wp_seq (wp_region_lit (sv (R_mv rfl) (sv (R_lss rfl rfl) (sv (R_mv rfl) ?_))))))))))))
    refine cutF 3 91 [(0, .int .i64 now), (1, Sl.v asks), (2, .int .i64 to_), (8, .pointer x2), (9, .int .i64 x0), (10, .int .i64 x11), (33, .bool ((decide (now < 0)) || (decide (now > 1099511627776))))] ?_ ?_
    · simp only [List.take_succ_cons, List.take_zero]
      rcases Bool.eq_false_or_eq_true (decide (now < 0)) with hg1 | hg1
      · refine sno (wtF rfl rfl rfl (bg hg1) rfl) (sno (wtF rfl rfl rfl (bg hg1) rfl) (sv (R_pickT (bg hg1) rfl) (wpList_nil ?_)))
        exact cutEnd ⟨rfl, rfl, rfl, rfl, rfl, rfl, (by rw [hg1]; rfl), trivial⟩
      · refine svg (wtF rfl rfl rfl (bg hg1) rfl) (R_mv rfl) (svg (wtF rfl rfl rfl (bg hg1) rfl) (R_gtr rfl rfl) (sv (R_pickF (bg hg1) rfl) (wpList_nil ?_)))
        exact cutEnd ⟨rfl, rfl, rfl, rfl, rfl, rfl, (by rw [hg1]; rfl), trivial⟩
    intro us
    simp only [List.drop_succ_cons, List.drop_zero]
    refine wpList_nil (then_normal ?_)
    refine C_split (t := ((decide (now < 0)) || (decide (now > 1099511627776)))) rfl (fun hc1 => ?_) (fun hc1 => ?_)
    · replace h := h.1 hc1
      refine wp_seq (wp_region_lit (sv (R_mv rfl) (sv (R_eql rfl rfl) (sv (R_mv rfl) ?_))))
      refine cutF 3 91 [(39, .bool ((x11 == 1) && (x0 == 0)))] ?_ ?_
      · simp only [List.take_succ_cons, List.take_zero]
        rcases Bool.eq_false_or_eq_true (x11 == 1) with hg2 | hg2
        · refine svg (wtF rfl rfl rfl (bg hg2) rfl) (R_mv rfl) (svg (wtF rfl rfl rfl (bg hg2) rfl) (R_eql rfl rfl) (sv (R_pickT (bg hg2) rfl) (wpList_nil ?_)))
          exact cutEnd ⟨(by rw [hg2]; rfl), trivial⟩
        · refine sno (wtF rfl rfl rfl (bg hg2) rfl) (sno (wtF rfl rfl rfl (bg hg2) rfl) (sv (R_pickF (bg hg2) rfl) (wpList_nil ?_)))
          exact cutEnd ⟨(by rw [hg2]; rfl), trivial⟩
      intro us
      simp only [List.drop_succ_cons, List.drop_zero]
      refine sv (R_as rfl) (wpList_nil (then_normal (wp_ret (then_ret ?_))))
      exact ret1 Try.results4 ⟨rfl, trivial⟩ h
    · replace h := h.2 hc1
      refine wp_skip (then_normal (wp_seq (wp_seq (wp_region_lit (sv (R_as rfl) (wpList_nil (then_normal (wp_block ?_))))))))
      obtain ⟨I_, nv1, h0, hI⟩ := h
      refine wp_loop_ghost (fun nv' a' w' => ∃ i : Int, (∃ us, a' = fr 91 us [(0, .int .i64 now), (1, Sl.v asks), (2, .int .i64 to_), (8, .pointer x2), (9, .int .i64 x0), (10, .int .i64 x11), (11, .int .i64 i)]) ∧ I_ nv' i w') nv1 ?_ ?_
      · exact ⟨_, fr_sub ⟨rfl, rfl, rfl, rfl, rfl, rfl, rfl, trivial⟩, h0⟩
      · clear h0
        rintro nv _ w_3 ⟨i, ⟨us, rfl⟩, h⟩
        replace h := hI _ _ _ h
        refine wp_seq (wp_seq (wp_region_lit (sv (R_mv rfl) (sv (R_mv rfl) (sv (R_len (s := asks) (Try.runUnderlying22 _) rfl) (sv (R_lss rfl rfl) (sv (R_mv rfl) ?_)))))))
        refine cutF 3 91 [(0, .int .i64 now), (1, Sl.v asks), (2, .int .i64 to_), (8, .pointer x2), (9, .int .i64 x0), (10, .int .i64 x11), (11, .int .i64 i), (47, .bool ((decide (i < (↑(Sl.n asks) : Int))) && (decide (i < 50))))] ?_ ?_
        · simp only [List.take_succ_cons, List.take_zero]
          rcases Bool.eq_false_or_eq_true (decide (i < (↑(Sl.n asks) : Int))) with hg3 | hg3
          · refine svg (wtF rfl rfl rfl (bg hg3) rfl) (R_mv rfl) (svg (wtF rfl rfl rfl (bg hg3) rfl) (R_lss rfl rfl) (sv (R_pickT (bg hg3) rfl) (wpList_nil ?_)))
            exact cutEnd ⟨rfl, rfl, rfl, rfl, rfl, rfl, rfl, (by rw [hg3]; rfl), trivial⟩
          · refine sno (wtF rfl rfl rfl (bg hg3) rfl) (sno (wtF rfl rfl rfl (bg hg3) rfl) (sv (R_pickF (bg hg3) rfl) (wpList_nil ?_)))
            exact cutEnd ⟨rfl, rfl, rfl, rfl, rfl, rfl, rfl, (by rw [hg3]; rfl), trivial⟩
        intro us
        simp only [List.drop_succ_cons, List.drop_zero]
        refine wpList_nil (then_normal ?_)
        refine C_split (t := ((decide (i < (↑(Sl.n asks) : Int))) && (decide (i < 50)))) rfl (fun hc2 => ?_) (fun hc2 => ?_)
        · replace h := h.1 hc2
          refine wp_skip (then_normal (wp_seq (wp_block ?_)))
          obtain ⟨ad, hx, h⟩ := h
          obtain ⟨x3, hx1, h⟩ := h
          obtain ⟨ad1, hx2, h⟩ := h
          obtain ⟨x4, hx3, h⟩ := h
          refine e_region (EL [(11, [])]) Try.checked.mixed ?_
          have hO := Only.drew w_3
          have hx4 : Cells w_3.drew _ _ := hx1
          have hx5 : Cells w_3.drew _ _ := hx3
          generalize w_3.drew = w_4 at *
          have hA : Only [] w_3 w_4 := hO
          refine eQ 0 rfl rfl (wn rfl) (fun _ => (R_mv rfl)) (eQ 1 rfl rfl (wn rfl) (fun _ => (R_mv rfl)) (eQ 2 rfl rfl (wn rfl) (fun _ => (R_mv rfl)) (eQ 3 (v := .pointer (some ad)) rfl rfl (wn rfl) (fun _ => (R_indexS (s := asks) (Try.runUnderlying22 _) (Try.sizeOf29 _) rfl rfl hx)) (eQ 4 (v := .pointer (some (Addr.add ad 1))) rfl rfl (wn rfl) (fun _ => (R_field (Try.runUnderlying29 _) rfl (Try.sizeOf3 _) rfl rfl)) (eL 5 [11] [0, 1, 2, 3, 4] (fun w' => Cells w' (Addr.add ad 1) [.int .i64 x3]) (v := .int .i64 x3) rfl rfl (el_stable (b := (Addr.add ad 1).block) (List.forall_mem_cons.2 ⟨.inl (by simp), List.forall_mem_nil _⟩) keep_cells) hx4 (y_val (wn rfl) (fun w' hw' => (R_load1 (Try.isAgg3 _) rfl (Cells.one hw')))) (eQ 6 rfl rfl (wn rfl) (fun _ => (R_mv rfl)) (eQ 7 rfl rfl (wn rfl) (fun _ => (R_mv rfl)) (eQ 8 (v := .pointer (some ad1)) rfl rfl (wn rfl) (fun _ => (R_indexS (s := asks) (Try.runUnderlying22 _) (Try.sizeOf29 _) rfl rfl hx2)) (eQ 9 (v := .pointer (some (Addr.add ad1 2))) rfl rfl (wn rfl) (fun _ => (R_field (Try.runUnderlying29 _) rfl (Try.sizeOf3 _) rfl rfl)) (eL 10 [11] [0, 1, 2, 3, 4, 5, 6, 7, 8, 9] (fun w' => Cells w' (Addr.add ad1 2) [.int .i64 x4]) (v := .int .i64 x4) rfl rfl (el_stable (b := (Addr.add ad1 2).block) (List.forall_mem_cons.2 ⟨.inl (by simp), List.forall_mem_nil _⟩) keep_cells) hx5 (y_val (wn rfl) (fun w' hw' => (R_load1 (Try.isAgg3 _) rfl (Cells.one hw')))) ?_))))))))))
          replace h := h w_4 hA
          refine e_one 11 rfl (by kernel_rfl) (wn rfl) ?_
          refine O_enter (args := #[.pointer x2, .int .i64 x3, .int .i64 x4]) (R_enter Try.call10 rfl) (h.mono ?_)
          clear h
          rintro _ w_5 ⟨x01, x12, rfl, h⟩
          refine ⟨_, rfl, ?_⟩
          refine ⟨el_loud rfl same_nil, ?_⟩
          refine e_done (by kernel_rfl) (block_normal (then_normal (wp_region_lit (sv (R_mv rfl) (sv (R_add rfl rfl) (sv (R_as rfl) (wpList_nil (then_normal ?_))))))))
          obtain ⟨nv2, hl, h⟩ := h
          exact ⟨nv2, hl, _, fr_sub ⟨rfl, rfl, rfl, rfl, rfl, rfl, rfl, trivial⟩, h⟩
        · replace h := h.2 hc2
          refine wp_exit (then_exit (then_exit (block_hit (then_normal (wp_seq (wp_region_lit (sv (R_mv rfl) (sv (R_mv rfl) (st_one (wn rfl) ?_)))))))))
          refine O_enter (args := #[.pointer x2, .int .i64 to_]) (R_enter Try.call13 rfl) (h.mono ?_)
          clear h
          rintro _ w_6 ⟨x5, rfl, h⟩
          refine ⟨_, rfl, ?_⟩
          refine wpList_nil (then_normal (wp_seq (wp_region_lit (sv (R_mv rfl) (sv (R_mv rfl) (st_one (wn rfl) ?_))))))
          refine O_enter (args := #[.pointer x2, .int .i64 x0, .int .i64 1]) (R_enter Try.call10 rfl) (h.mono ?_)
          clear h
          rintro _ w_7 ⟨x02, x13, rfl, h⟩
          refine ⟨_, rfl, ?_⟩
          refine sv (R_mv rfl) (sv (R_ext rfl rfl) (sv (R_ext rfl rfl) (sv (R_as rfl) (sv (R_as rfl) (wpList_nil (then_normal (wp_seq (wp_region_lit (sv (R_mv rfl) (sv (R_eql rfl rfl) (sv (R_mv rfl) ?_)))))))))))
          refine cutF 8 91 [(0, .int .i64 now), (2, .int .i64 to_), (12, .int .i64 x02), (81, .bool ((x11 == 0) && ((x02 == 1) == (decide (to_ ≤ (IntKind.i64.wrap (now + 50)))))))] ?_ ?_
          · simp only [List.take_succ_cons, List.take_zero]
            rcases Bool.eq_false_or_eq_true (x11 == 0) with hg4 | hg4
            · refine svg (wtF rfl rfl rfl (bg hg4) rfl) (R_mv rfl) (svg (wtF rfl rfl rfl (bg hg4) rfl) (R_eql rfl rfl) (svg (wtF rfl rfl rfl (bg hg4) rfl) (R_mv rfl) (svg (wtF rfl rfl rfl (bg hg4) rfl) (R_mv rfl) (svg (wtF rfl rfl rfl (bg hg4) rfl) (R_add rfl rfl) (svg (wtF rfl rfl rfl (bg hg4) rfl) (R_leq rfl rfl) (svg (wtF rfl rfl rfl (bg hg4) rfl) (R_eqlBool Try.underlying4 rfl rfl) (sv (R_pickT (bg hg4) rfl) (wpList_nil ?_))))))))
              exact cutEnd ⟨rfl, rfl, rfl, (by rw [hg4]; rfl), trivial⟩
            · refine sno (wtF rfl rfl rfl (bg hg4) rfl) (sno (wtF rfl rfl rfl (bg hg4) rfl) (sno (wtF rfl rfl rfl (bg hg4) rfl) (sno (wtF rfl rfl rfl (bg hg4) rfl) (sno (wtF rfl rfl rfl (bg hg4) rfl) (sno (wtF rfl rfl rfl (bg hg4) rfl) (sno (wtF rfl rfl rfl (bg hg4) rfl) (sv (R_pickF (bg hg4) rfl) (wpList_nil ?_))))))))
              exact cutEnd ⟨rfl, rfl, rfl, (by rw [hg4]; rfl), trivial⟩
          intro us
          simp only [List.drop_succ_cons, List.drop_zero]
          refine sv (R_mv rfl) ?_
          refine cutF 8 91 [(90, .bool (((x11 == 0) && ((x02 == 1) == (decide (to_ ≤ (IntKind.i64.wrap (now + 50)))))) && ((x02 == 4) == (decide (to_ > (IntKind.i64.wrap (now + 50)))))))] ?_ ?_
          · simp only [List.take_succ_cons, List.take_zero]
            rcases Bool.eq_false_or_eq_true ((x11 == 0) && ((x02 == 1) == (decide (to_ ≤ (IntKind.i64.wrap (now + 50)))))) with hg5 | hg5
            · refine svg (wtF rfl rfl rfl (bg hg5) rfl) (R_mv rfl) (svg (wtF rfl rfl rfl (bg hg5) rfl) (R_eql rfl rfl) (svg (wtF rfl rfl rfl (bg hg5) rfl) (R_mv rfl) (svg (wtF rfl rfl rfl (bg hg5) rfl) (R_mv rfl) (svg (wtF rfl rfl rfl (bg hg5) rfl) (R_add rfl rfl) (svg (wtF rfl rfl rfl (bg hg5) rfl) (R_gtr rfl rfl) (svg (wtF rfl rfl rfl (bg hg5) rfl) (R_eqlBool Try.underlying4 rfl rfl) (sv (R_pickT (bg hg5) rfl) (wpList_nil ?_))))))))
              exact cutEnd ⟨(by rw [hg5]; rfl), trivial⟩
            · refine sno (wtF rfl rfl rfl (bg hg5) rfl) (sno (wtF rfl rfl rfl (bg hg5) rfl) (sno (wtF rfl rfl rfl (bg hg5) rfl) (sno (wtF rfl rfl rfl (bg hg5) rfl) (sno (wtF rfl rfl rfl (bg hg5) rfl) (sno (wtF rfl rfl rfl (bg hg5) rfl) (sno (wtF rfl rfl rfl (bg hg5) rfl) (sv (R_pickF (bg hg5) rfl) (wpList_nil ?_))))))))
              exact cutEnd ⟨(by rw [hg5]; rfl), trivial⟩
          intro us
          simp only [List.drop_succ_cons, List.drop_zero]
          refine sv (R_as rfl) (wpList_nil (then_normal (wp_ret ?_)))
          exact ret1 Try.results4 ⟨rfl, trivial⟩ h

/-- what is to be shown of a call of slices.Clone[[]api.Seat,api.Seat] -/
def slices_Clone_api_Seat_vc (s : Sl) (R : Value → World → Prop) (w : World) : Prop :=
  (((Option.isNone (Sl.a s)) = true →
  R (Sl.v Sl.nil) w) ∧
  ((Option.isNone (Sl.a s)) = false →
  ∃ x1 : Sl, ∃ w_ : World, (Instr.buildSlice 42 0 #[]).run Try.prog w = .ok (Sl.v x1) w_ ∧
  ∃ x2 : Sl, ∃ w_1 : World, (Builtin.append_ #[42, 42] 42 #[Sl.v x1, Sl.v s]).run Try.prog w_ = .ok (Sl.v x2) w_1 ∧
  R (Sl.v x2) w_1))
theorem slices_Clone_api_Seat_wp (s : Sl) (R : Value → World → Prop) (w : World) (h : slices_Clone_api_Seat_vc s R w) :
    Calls Try.prog 42 #[Sl.v s] w fun e w' => ∃ v, e = .returned v ∧ R v w' := by
  unfold slices_Clone_api_Seat_vc at h
  refine callsF (l := [(0, Sl.v s)]) Try.func42 rfl Try.ntmps42 (Nat.le_of_ble_eq_true rfl) rfl (wp_seq (wp_region_lit (sv (R_as rfl) (wpList_nil (then_normal (wp_seq (wp_seq (wp_region_lit (sv (R_mv rfl) (sv (R_eqlSlNilR (Try.runUnderlying42 _) rfl rfl) (wpList_nil (then_normal ?_))))))))))))
  refine C_split (t := (Option.isNone (Sl.a s))) rfl (fun hc => ?_) (fun hc => ?_)
  · replace h := h.1 hc
    refine wp_seq (wp_region_lit (sv (R_as rfl) (wpList_nil (then_normal (wp_ret (then_ret ?_))))))
    exact ret1 Try.results42 ⟨rfl, trivial⟩ h
  · replace h := h.2 hc
    refine wp_skip (then_normal (wp_seq (wp_region_lit ?_)))
    obtain ⟨x1, w_, hr, h⟩ := h
    refine st_one (wn rfl) (O_val (v := (Sl.v x1)) (R_buildSlice rfl hr) (sv (R_mv rfl) ?_))
    obtain ⟨x2, w_1, hr1, h⟩ := h
    refine st_one (wn rfl) (O_val (v := (Sl.v x2)) (R_builtin_append rfl hr1) (sv (R_as rfl) (wpList_nil (then_normal (wp_ret ?_)))))
    exact ret1 Try.results42 ⟨rfl, trivial⟩ h

/-- what is to be shown of a call of cmp.isNaN[int] -/
def cmp_isNaN_int_vc (x1 : Int) (R : Value → World → Prop) (w : World) : Prop :=
  R (.bool (x1 != x1)) w
theorem cmp_isNaN_int_wp (x1 : Int) (R : Value → World → Prop) (w : World) (h : cmp_isNaN_int_vc x1 R w) :
    Calls Try.prog 44 #[.int .i64 x1] w fun e w' => ∃ v, e = .returned v ∧ R v w' := by
  unfold cmp_isNaN_int_vc at h
  refine callsF (l := [(0, .int .i64 x1)]) Try.func44 rfl Try.ntmps44 (Nat.le_of_ble_eq_true rfl) rfl (wp_seq (wp_region_lit (sv (R_as rfl) (wpList_nil (then_normal (wp_seq (wp_region_lit (sv (R_mv rfl) (sv (R_mv rfl) (sv (R_neq rfl rfl) (sv (R_as rfl) (wpList_nil (then_normal (wp_ret ?_))))))))))))))
  exact ret1 Try.results44 ⟨rfl, trivial⟩ h

end Go.Proofs.Ytahncinfbhjkgaa.Vc
