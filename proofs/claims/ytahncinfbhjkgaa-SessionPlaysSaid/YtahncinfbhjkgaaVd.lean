/-
  Own work, printed by a program of ours (gen.py): of each Go function what is to be shown of a call ('.._vc'), and that it suffices ('.._wp'). Nothing is assumed.
-/
import Derived.Test.YtahncinfbhjkgaaRows
import Derived.Test.YtahncinfbhjkgaaFr
namespace Go.Proofs.Ytahncinfbhjkgaa.Vc
open Go Go.RowKit Go.Kt
set_option linter.unusedSimpArgs false
set_option linter.unusedVariables false
set_option maxRecDepth 100000
attribute [local irreducible] wpList
set_option maxHeartbeats 40000000
/-- what is to be shown of a call of (*pavaneref19.Book).Ask -/
def pavaneref19_Book_Ask_vc (b : Addr) (id_ : Int) (seq : Int) (R : Value → World → Prop) (w : World) : Prop :=
  Calls Try.prog 43 #[.pointer (some b), .int .i64 id_] w (fun e w_ => ∃ x1 : Int, e = .returned (.int .i64 x1) ∧
  (((decide (x1 < 0)) = true →
  R (.tuple #[.int .i64 4, Sl.v Sl.nil]) w_) ∧
  ((decide (x1 < 0)) = false →
  ∃ x2 : Sl, Cells w_ (Addr.add b 0) [Sl.v x2] ∧
  ∃ ad : Addr, SlAt x2 x1 4 ad ∧
  ∃ x3 : Int, Cells w_ (Addr.add ad 1) [.int .i64 x3] ∧
  ((((decide (seq < x3)) || (decide (seq < 1))) = true →
  R (.tuple #[.int .i64 3, Sl.v Sl.nil]) w_) ∧
  (((decide (seq < x3)) || (decide (seq < 1))) = false →
  ∃ x4 : Sl, Cells w_ (Addr.add b 0) [Sl.v x4] ∧
  ∃ ad1 : Addr, SlAt x4 x1 4 ad1 ∧
  ∃ x5 : Int, Cells w_ (Addr.add ad1 1) [.int .i64 x5] ∧
  (((seq == x5) = true →
  ∃ x6 : Sl, ∃ w_1 : World, (Instr.buildSlice 27 0 #[]).run Try.prog w_ = .ok (Sl.v x6) w_1 ∧
  ∃ x7 : Sl, Cells w_1 (Addr.add b 0) [Sl.v x7] ∧
  ∃ ad2 : Addr, SlAt x7 x1 4 ad2 ∧
  ∃ x8 : Sl, Cells w_1 (Addr.add ad2 2) [Sl.v x8] ∧
  ∃ x9 : Sl, ∃ w_2 : World, (Builtin.append_ #[27, 27] 27 #[Sl.v x6, Sl.v x8]).run Try.prog w_1 = .ok (Sl.v x9) w_2 ∧
  R (.tuple #[.int .i64 2, Sl.v x9]) w_2) ∧
  ((seq == x5) = false →
  R (.tuple #[.int .i64 1, Sl.v Sl.nil]) w_)))))))
theorem pavaneref19_Book_Ask_wp (b : Addr) (id_ : Int) (seq : Int) (R : Value → World → Prop) (w : World) (h : pavaneref19_Book_Ask_vc b id_ seq R w) :
    Calls Try.prog 35 #[.pointer (some b), .int .i64 id_, .int .i64 seq] w fun e w' => ∃ v, e = .returned v ∧ R v w' := by
  unfold pavaneref19_Book_Ask_vc at h
  refine callsF (l := [(0, .pointer (some b)), (1, .int .i64 id_), (2, .int .i64 seq)]) Try.func35 rfl Try.ntmps35 (Nat.le_of_ble_eq_true rfl) rfl (wp_seq (wp_region_lit (sv (R_as rfl) (sv (R_as rfl) (wpList_nil (then_normal (wp_seq (wp_region_lit (sv (R_mv rfl) (sv (R_mv rfl) (st_one (wn rfl) ?_)))))))))))
  refine O_enter (args := #[.pointer (some b), .int .i64 id_]) (R_enter Try.call43 rfl) (h.mono ?_)
  clear h
  rintro _ w_ ⟨x1, rfl, h⟩
  refine ⟨_, rfl, ?_⟩
  refine sv (R_as rfl) (wpList_nil (then_normal (wp_seq (wp_seq (wp_region_lit (sv (R_mv rfl) (sv (R_lss rfl rfl) (wpList_nil (then_normal ?_)))))))))
  refine C_split (t := (decide (x1 < 0))) rfl (fun hc => ?_) (fun hc => ?_)
  · replace h := h.1 hc
    refine wp_seq (wp_region_lit (sv (R_as rfl) (sv (R_as rfl) (wpList_nil (then_normal (wp_ret (then_ret ?_)))))))
    exact retN (vs := [.int .i64 4, Sl.v Sl.nil]) Try.results35 rfl ⟨rfl, rfl, trivial⟩ h
  · replace h := h.2 hc
    refine wp_skip (then_normal (wp_seq (wp_seq ?_)))
    obtain ⟨x2, hx, h⟩ := h
    obtain ⟨ad, hx1, h⟩ := h
    obtain ⟨x3, hx2, h⟩ := h
    refine wp_region_lit (sv (R_mv rfl) (sv (R_mv rfl) (sv (v := .pointer (some b)) (R_nil rfl) (sv (v := .pointer (some (Addr.add b 0))) (R_field (Try.runUnderlying64 _) rfl (Try.sizeOf42 _) rfl rfl) (sv (v := Sl.v x2) (R_load1 (Try.isAgg42 _) rfl (Cells.one hx)) (sv (R_mv rfl) (sv (v := .pointer (some ad)) (R_indexS (s := x2) (Try.runUnderlying42 _) (Try.sizeOf49 _) rfl rfl hx1) (sv (v := .pointer (some (Addr.add ad 1))) (R_field (Try.runUnderlying49 _) rfl (Try.sizeOf3 _) rfl rfl) (sv (v := .int .i64 x3) (R_load1 (Try.isAgg3 _) rfl (Cells.one hx2)) (sv (R_lss rfl rfl) (sv (R_mv rfl) ?_)))))))))))
    refine cutF 3 48 [(0, .pointer (some b)), (2, .int .i64 seq), (8, .int .i64 x1), (27, .bool ((decide (seq < x3)) || (decide (seq < 1))))] ?_ ?_
    · simp only [List.take_succ_cons, List.take_zero]
      rcases Bool.eq_false_or_eq_true (decide (seq < x3)) with hg | hg
      · refine sno (wtF rfl rfl rfl (bg hg) rfl) (sno (wtF rfl rfl rfl (bg hg) rfl) (sv (R_pickT (bg hg) rfl) (wpList_nil ?_)))
        exact cutEnd ⟨rfl, rfl, rfl, (by rw [hg]; rfl), trivial⟩
      · refine svg (wtF rfl rfl rfl (bg hg) rfl) (R_mv rfl) (svg (wtF rfl rfl rfl (bg hg) rfl) (R_lss rfl rfl) (sv (R_pickF (bg hg) rfl) (wpList_nil ?_)))
        exact cutEnd ⟨rfl, rfl, rfl, (by rw [hg]; rfl), trivial⟩
    intro us
    simp only [List.drop_succ_cons, List.drop_zero]
    refine wpList_nil (then_normal ?_)
    refine C_split (t := ((decide (seq < x3)) || (decide (seq < 1)))) rfl (fun hc1 => ?_) (fun hc1 => ?_)
    · replace h := h.1 hc1
      refine wp_seq (wp_region_lit (sv (R_as rfl) (sv (R_as rfl) (wpList_nil (then_normal (wp_ret (then_ret ?_)))))))
      exact retN (vs := [.int .i64 3, Sl.v Sl.nil]) Try.results35 rfl ⟨rfl, rfl, trivial⟩ h
    · replace h := h.2 hc1
      refine wp_skip (then_normal (wp_seq (wp_seq (wp_region_lit (sv (R_mv rfl) (sv (R_mv rfl) (sv (v := .pointer (some b)) (R_nil rfl) (sv (v := .pointer (some (Addr.add b 0))) (R_field (Try.runUnderlying64 _) rfl (Try.sizeOf42 _) rfl rfl) ?_))))))))
      obtain ⟨x4, hx3, h⟩ := h
      refine sv (v := Sl.v x4) (R_load1 (Try.isAgg42 _) rfl (Cells.one hx3)) (sv (R_mv rfl) ?_)
      obtain ⟨ad1, hx4, h⟩ := h
      refine sv (v := .pointer (some ad1)) (R_indexS (s := x4) (Try.runUnderlying42 _) (Try.sizeOf49 _) rfl rfl hx4) (sv (v := .pointer (some (Addr.add ad1 1))) (R_field (Try.runUnderlying49 _) rfl (Try.sizeOf3 _) rfl rfl) ?_)
      obtain ⟨x5, hx5, h⟩ := h
      refine sv (v := .int .i64 x5) (R_load1 (Try.isAgg3 _) rfl (Cells.one hx5)) (sv (R_eql rfl rfl) (wpList_nil (then_normal ?_)))
      refine C_split (t := (seq == x5)) rfl (fun hc2 => ?_) (fun hc2 => ?_)
      · replace h := h.1 hc2
        refine wp_seq (wp_region_lit ?_)
        obtain ⟨x6, w_1, hr, h⟩ := h
        refine st_one (wn rfl) (O_val (v := (Sl.v x6)) (R_buildSlice rfl hr) (sv (R_mv rfl) (sv (v := .pointer (some b)) (R_nil rfl) (sv (v := .pointer (some (Addr.add b 0))) (R_field (Try.runUnderlying64 _) rfl (Try.sizeOf42 _) rfl rfl) ?_))))
        obtain ⟨x7, hx6, h⟩ := h
        refine sv (v := Sl.v x7) (R_load1 (Try.isAgg42 _) rfl (Cells.one hx6)) (sv (R_mv rfl) ?_)
        obtain ⟨ad2, hx7, h⟩ := h
        refine sv (v := .pointer (some ad2)) (R_indexS (s := x7) (Try.runUnderlying42 _) (Try.sizeOf49 _) rfl rfl hx7) (sv (v := .pointer (some (Addr.add ad2 2))) (R_field (Try.runUnderlying49 _) rfl (Try.sizeOf27 _) rfl rfl) ?_)
        obtain ⟨x8, hx8, h⟩ := h
        refine sv (v := Sl.v x8) (R_load1 (Try.isAgg27 _) rfl (Cells.one hx8)) ?_
        obtain ⟨x9, w_2, hr1, h⟩ := h
        refine st_one (wn rfl) (O_val (v := (Sl.v x9)) (R_builtin_append rfl hr1) (sv (R_as rfl) (sv (R_as rfl) (wpList_nil (then_normal (wp_ret (then_ret ?_)))))))
        exact retN (vs := [.int .i64 2, Sl.v x9]) Try.results35 rfl ⟨rfl, rfl, trivial⟩ h
      · replace h := h.2 hc2
        refine wp_skip (then_normal (wp_seq (wp_region_lit (sv (R_as rfl) (sv (R_as rfl) (wpList_nil (then_normal (wp_ret ?_))))))))
        exact retN (vs := [.int .i64 1, Sl.v Sl.nil]) Try.results35 rfl ⟨rfl, rfl, trivial⟩ h

/-- what is to be shown of a call of (*session.Book).Ask -/
def session_Book_Ask_vc (b : Addr) (id_ : Int) (seq : Int) (R : Value → World → Prop) (w : World) : Prop :=
  Calls Try.prog 26 #[.pointer (some (Addr.add b 0)), .int .i64 id_] w (fun e w_ => ∃ x0 : Int, ∃ x1 : Bool, e = .returned (.tuple #[.int .i64 x0, .bool x1]) ∧
  (((!x1) = true →
  R (.tuple #[.int .i64 4, Sl.v Sl.nil]) w_) ∧
  ((!x1) = false →
  ∃ x2 : Sl, Cells w_ (Addr.add (Addr.add b 0) 0) [Sl.v x2] ∧
  ∃ ad : Addr, SlAt x2 x0 4 ad ∧
  ∃ x01 : Int, ∃ x11 : Int, ∃ x21 : Sl, ∃ x3 : Int, Cells w_ ad [.int .i64 x01, .int .i64 x11, Sl.v x21, .int .i64 x3] ∧
  (((decide (seq < (if 1 > x11 then 1 else x11))) = true →
  ∀ (b1 : Nat) (w_2 : World), w_.heap.size ≤ b1 → b1 < w_2.heap.size → Only [] w_ w_2 →
  R (.tuple #[.int .i64 3, Sl.v Sl.nil]) w_2) ∧
  ((decide (seq < (if 1 > x11 then 1 else x11))) = false →
  (((seq == x11) = true →
  ∀ (b1 : Nat) (w_2 : World), w_.heap.size ≤ b1 → b1 < w_2.heap.size → Only [] w_ w_2 →
  Calls Try.prog 27 #[Sl.v x21] w_2 (fun e w_3 => ∃ x4 : Sl, e = .returned (Sl.v x4) ∧ Same [b1] w_2 w_3 ∧
  R (.tuple #[.int .i64 2, Sl.v x4]) w_3)) ∧
  ((seq == x11) = false →
  ∀ (b1 : Nat) (w_2 : World), w_.heap.size ≤ b1 → b1 < w_2.heap.size → Only [] w_ w_2 →
  R (.tuple #[.int .i64 1, Sl.v Sl.nil]) w_2)))))))
theorem session_Book_Ask_wp (b : Addr) (id_ : Int) (seq : Int) (R : Value → World → Prop) (w : World) (h : session_Book_Ask_vc b id_ seq R w) :
    Calls Try.prog 10 #[.pointer (some b), .int .i64 id_, .int .i64 seq] w fun e w' => ∃ v, e = .returned v ∧ R v w' := by
  unfold session_Book_Ask_vc at h
  refine callsF (l := [(0, .pointer (some b)), (1, .int .i64 id_), (2, .int .i64 seq)]) Try.func10 rfl Try.ntmps10 (Nat.le_of_ble_eq_true rfl) rfl (wp_seq (wp_region_lit (sv (R_as rfl) (sv (R_as rfl) (wpList_nil (then_normal (wp_seq (wp_region_lit (sv (R_mv rfl) (sv (v := .pointer (some b)) (R_nil rfl) (sv (v := .pointer (some (Addr.add b 0))) (R_field (Try.runUnderlying47 _) rfl (Try.sizeOf45 _) rfl rfl) (sv (R_mv rfl) (st_one (wn rfl) ?_)))))))))))))
  refine O_enter (args := #[.pointer (some (Addr.add b 0)), .int .i64 id_]) (R_enter Try.call26 rfl) (h.mono ?_)
  clear h
  rintro _ w_ ⟨x0, x1, rfl, h⟩
  refine ⟨_, rfl, ?_⟩
  refine sv (R_mv rfl) (sv (R_ext rfl rfl) (sv (R_ext rfl rfl) (sv (R_as rfl) (sv (R_as rfl) (wpList_nil (then_normal (wp_seq (wp_seq (wp_region_lit (sv (R_mv rfl) (sv (R_not rfl) (wpList_nil (then_normal ?_)))))))))))))
  refine C_split (t := (!x1)) rfl (fun hc => ?_) (fun hc => ?_)
  · replace h := h.1 hc
    refine wp_seq (wp_region_lit (sv (R_as rfl) (sv (R_as rfl) (wpList_nil (then_normal (wp_ret (then_ret ?_)))))))
    exact retN (vs := [.int .i64 4, Sl.v Sl.nil]) Try.results10 rfl ⟨rfl, rfl, trivial⟩ h
  · replace h := h.2 hc
    refine wp_skip (then_normal (wp_seq (wp_seq (wp_region_lit (sv (R_mv rfl) (sv (v := .pointer (some b)) (R_nil rfl) (sv (v := .pointer (some (Addr.add b 0))) (R_field (Try.runUnderlying47 _) rfl (Try.sizeOf45 _) rfl rfl) (sv (v := .pointer (some (Addr.add (Addr.add b 0) 0))) (R_field (Try.runUnderlying45 _) rfl (Try.sizeOf42 _) rfl rfl) ?_))))))))
    obtain ⟨x2, hx, h⟩ := h
    refine sv (v := Sl.v x2) (R_load1 (Try.isAgg42 _) rfl (Cells.one hx)) (sv (R_mv rfl) ?_)
    obtain ⟨ad, hx1, h⟩ := h
    refine sv (v := .pointer (some ad)) (R_indexS (s := x2) (Try.runUnderlying42 _) (Try.sizeOf49 _) rfl rfl hx1) ?_
    obtain ⟨x01, x11, x21, x3, hx2, h⟩ := h
    refine sv (v := .agg #[.int .i64 x01, .int .i64 x11, Sl.v x21, .int .i64 x3]) (R_loadN (Try.isAgg49 _) (Try.sizeOf49 _) rfl rfl hx2) (st_one (wn rfl) ?_)
    refine O_alloc (zs := [.int .i64 0, .int .i64 0, Sl.v Sl.nil, .int .i64 0]) (Try.zeroValue49 _) rfl (fun b1 w_1 hn hO hb => ?_)
    have hn_b1 : w_.heap.size ≤ b1 := hn
    have hA : Only [] w_ w_1 := hO
    refine st_one (wn rfl) ?_
    refine O_store (vs := [.int .i64 x01, .int .i64 x11, Sl.v x21, .int .i64 x3]) (cs' := [.int .i64 x01, .int .i64 x11, Sl.v x21, .int .i64 x3]) (Try.sizeOf49 _) rfl rfl rfl rfl hb (Nat.le_of_ble_eq_true rfl) rfl (fun w_2 hO1 hb1 => ?_)
    have hA1 := hA.new hO1 hn_b1
    refine wpList_nil (then_normal (wp_block (wp_seq (wp_region_lit (sv (R_mv rfl) (sv (v := .pointer (some ⟨b1, 1, none⟩)) (R_field (Try.runUnderlying49 _) rfl (Try.sizeOf3 _) rfl rfl) (sv (v := .int .i64 x11) (R_load1 (Try.isAgg3 _) rfl (hb1.cell 1)) (sv (v := .int .i64 (if 1 > x11 then 1 else x11)) (R_max rfl rfl) (sv (R_lss rfl rfl) (sv (R_as rfl) (wpList_nil (then_normal ?_))))))))))))
    refine C_split (t := (decide (seq < (if 1 > x11 then 1 else x11)))) rfl (fun hc1 => ?_) (fun hc1 => ?_)
    · replace h := h.1 hc1
      refine wp_seq (wp_region_lit (sv (R_as rfl) (sv (R_as rfl) (wpList_nil (then_normal (wp_ret (block_ret (then_ret ?_))))))))
      replace h := h b1 w_2 hn_b1 hb1.lt hA1
      exact retN (vs := [.int .i64 3, Sl.v Sl.nil]) Try.results10 rfl ⟨rfl, rfl, trivial⟩ h
    · replace h := h.2 hc1
      refine wp_seq (wp_region_lit (sv (R_mv rfl) (sv (v := .pointer (some ⟨b1, 1, none⟩)) (R_field (Try.runUnderlying49 _) rfl (Try.sizeOf3 _) rfl rfl) (sv (v := .int .i64 x11) (R_load1 (Try.isAgg3 _) rfl (hb1.cell 1)) (sv (R_eql rfl rfl) (sv (R_as rfl) (wpList_nil (then_normal ?_))))))))
      refine C_split (t := (seq == x11)) rfl (fun hc2 => ?_) (fun hc2 => ?_)
      · replace h := h.1 hc2
        refine wp_seq (wp_region_lit (sv (v := .pointer (some ⟨b1, 2, none⟩)) (R_field (Try.runUnderlying49 _) rfl (Try.sizeOf27 _) rfl rfl) (sv (v := Sl.v x21) (R_load1 (Try.isAgg27 _) rfl (hb1.cell 2)) ?_)))
        replace h := h b1 w_2 hn_b1 hb1.lt hA1
        refine st_one (wn rfl) ?_
        refine O_enter (args := #[Sl.v x21]) (R_enter Try.call27 rfl) (h.mono ?_)
        clear h
        rintro _ w_3 ⟨x4, rfl, hs1, h⟩
        refine ⟨_, rfl, ?_⟩
        have hb2 := hs1.blk hb1 (by simp)
        refine sv (R_as rfl) (sv (R_as rfl) (wpList_nil (then_normal (wp_ret (block_ret (then_ret ?_))))))
        exact retN (vs := [.int .i64 2, Sl.v x4]) Try.results10 rfl ⟨rfl, rfl, trivial⟩ h
      · replace h := h.2 hc2
        refine wp_skip (block_normal (then_normal (wp_seq (wp_region_lit (sv (R_as rfl) (sv (R_as rfl) (wpList_nil (then_normal (wp_ret ?_)))))))))
        replace h := h b1 w_2 hn_b1 hb1.lt hA1
        exact retN (vs := [.int .i64 1, Sl.v Sl.nil]) Try.results10 rfl ⟨rfl, rfl, trivial⟩ h

/-- what is to be shown of a call of (*pavaneref19.Book).List -/
def pavaneref19_Book_List_vc (b : Addr) (R : Value → World → Prop) (w : World) : Prop :=
  ∃ (I_ : Nat → Sl → Int → World → Prop) (nv1 : Nat), I_ nv1 Sl.nil 0 w ∧
  ∀ (nv : Nat) (out : Sl) (i : Int) (w_ : World), I_ nv out i w_ →
  ∃ x1 : Sl, Cells w_ (Addr.add b 0) [Sl.v x1] ∧
  (((decide (i < (↑(Sl.n x1) : Int))) = true →
  ∃ x2 : Sl, Cells w_ (Addr.add b 0) [Sl.v x2] ∧
  ∃ ad : Addr, SlAt x2 i 4 ad ∧
  ∃ x0 : Int, ∃ x11 : Int, ∃ x21 : Sl, ∃ x3 : Int, Cells w_ ad [.int .i64 x0, .int .i64 x11, Sl.v x21, .int .i64 x3] ∧
  ∀ (b1 : Nat) (w_2 : World), w_.heap.size ≤ b1 → b1 < w_2.heap.size → Only [] w_ w_2 →
  ∃ x4 : Sl, ∃ w_3 : World, (Instr.buildSlice 27 0 #[]).run Try.prog w_2 = .ok (Sl.v x4) w_3 ∧ Same [b1] w_2 w_3 ∧
  ∃ x5 : Sl, ∃ w_4 : World, (Builtin.append_ #[27, 27] 27 #[Sl.v x4, Sl.v x21]).run Try.prog w_3 = .ok (Sl.v x5) w_4 ∧ Same [b1] w_3 w_4 ∧
  ∀ (w_5 : World), Only [b1] w_4 w_5 →
  ∃ x6 : Sl, ∃ w_6 : World, (Instr.buildSlice 42 1 #[(0, .agg #[.int .i64 x0, .int .i64 x11, Sl.v x5, .int .i64 x3])]).run Try.prog w_5 = .ok (Sl.v x6) w_6 ∧ Same [b1] w_5 w_6 ∧
  ∃ x7 : Sl, ∃ w_7 : World, (Builtin.append_ #[42, 42] 42 #[Sl.v out, Sl.v x6]).run Try.prog w_6 = .ok (Sl.v x7) w_7 ∧ Same [b1] w_6 w_7 ∧
  ∃ nv2 : Nat, nv2 < nv ∧ I_ nv2 x7 (IntKind.i64.wrap (i + 1)) w_7) ∧
  ((decide (i < (↑(Sl.n x1) : Int))) = false →
  R (Sl.v out) w_))
theorem pavaneref19_Book_List_wp (b : Addr) (R : Value → World → Prop) (w : World) (h : pavaneref19_Book_List_vc b R w) :
    Calls Try.prog 23 #[.pointer (some b)] w fun e w' => ∃ v, e = .returned v ∧ R v w' := by
  unfold pavaneref19_Book_List_vc at h
  refine callsF (l := [(0, .pointer (some b))]) Try.func23 rfl Try.ntmps23 (Nat.le_of_ble_eq_true rfl) rfl (wp_seq (wp_region_lit (sv (R_as rfl) (wpList_nil (then_normal (wp_seq (wp_region_lit (sv (R_as rfl) (wpList_nil (then_normal (wp_seq (wp_seq (wp_region_lit (sv (R_as rfl) ?_))))))))))))))
  refine wpList_nil (then_normal (wp_block ?_))
  obtain ⟨I_, nv1, h0, hI⟩ := h
  refine wp_loop_ghost (fun nv' a' w' => ∃ out : Sl, ∃ i : Int, (∃ us, a' = fr 32 us [(0, .pointer (some b)), (3, Sl.v out), (4, .int .i64 i)]) ∧ I_ nv' out i w') nv1 ?_ ?_
  · exact ⟨_, _, fr_sub ⟨rfl, rfl, rfl, trivial⟩, h0⟩
  · clear h0
    rintro nv _ w_ ⟨out, i, ⟨us, rfl⟩, h⟩
    replace h := hI _ _ _ _ h
    refine wp_seq (wp_seq (wp_region_lit (sv (R_mv rfl) (sv (R_mv rfl) (sv (v := .pointer (some b)) (R_nil rfl) (sv (v := .pointer (some (Addr.add b 0))) (R_field (Try.runUnderlying64 _) rfl (Try.sizeOf42 _) rfl rfl) ?_))))))
    obtain ⟨x1, hx, h⟩ := h
    refine sv (v := Sl.v x1) (R_load1 (Try.isAgg42 _) rfl (Cells.one hx)) (sv (R_len (s := x1) (Try.runUnderlying42 _) rfl) (sv (R_lss rfl rfl) (wpList_nil (then_normal ?_))))
    refine C_split (t := (decide (i < (↑(Sl.n x1) : Int)))) rfl (fun hc => ?_) (fun hc => ?_)
    · replace h := h.1 hc
      refine wp_skip (then_normal (wp_seq (wp_block (wp_seq (wp_region_lit (sv (R_mv rfl) (sv (v := .pointer (some b)) (R_nil rfl) (sv (v := .pointer (some (Addr.add b 0))) (R_field (Try.runUnderlying64 _) rfl (Try.sizeOf42 _) rfl rfl) ?_))))))))
      obtain ⟨x2, hx1, h⟩ := h
      refine sv (v := Sl.v x2) (R_load1 (Try.isAgg42 _) rfl (Cells.one hx1)) (sv (R_mv rfl) ?_)
      obtain ⟨ad, hx2, h⟩ := h
      refine sv (v := .pointer (some ad)) (R_indexS (s := x2) (Try.runUnderlying42 _) (Try.sizeOf49 _) rfl rfl hx2) ?_
      obtain ⟨x0, x11, x21, x3, hx3, h⟩ := h
      refine sv (v := .agg #[.int .i64 x0, .int .i64 x11, Sl.v x21, .int .i64 x3]) (R_loadN (Try.isAgg49 _) (Try.sizeOf49 _) rfl rfl hx3) (st_one (wn rfl) ?_)
      refine O_alloc (zs := [.int .i64 0, .int .i64 0, Sl.v Sl.nil, .int .i64 0]) (Try.zeroValue49 _) rfl (fun b1 w_1 hn hO hb => ?_)
      have hn_b1 : w_.heap.size ≤ b1 := hn
      have hA : Only [] w_ w_1 := hO
      refine st_one (wn rfl) ?_
      refine O_store (vs := [.int .i64 x0, .int .i64 x11, Sl.v x21, .int .i64 x3]) (cs' := [.int .i64 x0, .int .i64 x11, Sl.v x21, .int .i64 x3]) (Try.sizeOf49 _) rfl rfl rfl rfl hb (Nat.le_of_ble_eq_true rfl) rfl (fun w_2 hO1 hb1 => ?_)
      have hA1 := hA.new hO1 hn_b1
      refine wpList_nil (then_normal (wp_seq (wp_region_lit ?_)))
      replace h := h b1 w_2 hn_b1 hb1.lt hA1
      obtain ⟨x4, w_3, hr, hs, h⟩ := h
      refine st_one (wn rfl) (O_val (v := (Sl.v x4)) (R_buildSlice rfl hr) ?_)
      have hb2 := hs.blk hb1 (by simp)
      refine sv (v := .pointer (some ⟨b1, 2, none⟩)) (R_field (Try.runUnderlying49 _) rfl (Try.sizeOf27 _) rfl rfl) (sv (v := Sl.v x21) (R_load1 (Try.isAgg27 _) rfl (hb2.cell 2)) ?_)
      obtain ⟨x5, w_4, hr1, hs1, h⟩ := h
      refine st_one (wn rfl) (O_val (v := (Sl.v x5)) (R_builtin_append rfl hr1) ?_)
      have hb3 := hs1.blk hb2 (by simp)
      refine sv (v := .pointer (some ⟨b1, 2, none⟩)) (R_field (Try.runUnderlying49 _) rfl (Try.sizeOf27 _) rfl rfl) (st_one (wn rfl) ?_)
      refine O_store (vs := [Sl.v x5]) (cs' := [.int .i64 x0, .int .i64 x11, Sl.v x5, .int .i64 x3]) (Try.sizeOf27 _) rfl rfl rfl rfl hb3 (Nat.le_of_ble_eq_true rfl) rfl (fun w_5 hO2 hb4 => ?_)
      have hA2 : Only [b1] w_4 w_5 := hO2
      refine wpList_nil (then_normal (wp_region_lit (sv (R_mv rfl) (sv (v := .agg #[.int .i64 x0, .int .i64 x11, Sl.v x5, .int .i64 x3]) (R_loadN (Try.isAgg49 _) (Try.sizeOf49 _) rfl rfl (hb4.cellsAt 0 [.int .i64 x0, .int .i64 x11, Sl.v x5, .int .i64 x3] rfl)) ?_))))
      replace h := h w_5 hA2
      obtain ⟨x6, w_6, hr2, hs2, h⟩ := h
      refine st_one (wn rfl) (O_val (v := (Sl.v x6)) (R_buildSlice rfl hr2) ?_)
      have hb5 := hs2.blk hb4 (by simp)
      obtain ⟨x7, w_7, hr3, hs3, h⟩ := h
      refine st_one (wn rfl) (O_val (v := (Sl.v x7)) (R_builtin_append rfl hr3) ?_)
      have hb6 := hs3.blk hb5 (by simp)
      refine sv (R_as rfl) (wpList_nil (block_normal (then_normal (wp_region_lit (sv (R_mv rfl) (sv (R_add rfl rfl) (sv (R_as rfl) (wpList_nil (then_normal ?_)))))))))
      obtain ⟨nv2, hl, h⟩ := h
      exact ⟨nv2, hl, _, _, fr_sub ⟨rfl, rfl, rfl, trivial⟩, h⟩
    · replace h := h.2 hc
      refine wp_exit (then_exit (then_exit (block_hit (then_normal (wp_seq (wp_region_lit (sv (R_mv rfl) (sv (R_as rfl) (wpList_nil (then_normal (wp_ret ?_)))))))))))
      exact ret1 Try.results23 ⟨rfl, trivial⟩ h

/-- what is to be shown of a call of pavaneref01.Same -/
def pavaneref01_Same_vc (a_ : Sl) (b : Sl) (R : Value → World → Prop) (w : World) : Prop :=
  ((((↑(Sl.n a_) : Int) != (↑(Sl.n b) : Int)) = true →
  R (.bool false) w) ∧
  (((↑(Sl.n a_) : Int) != (↑(Sl.n b) : Int)) = false →
  ∃ (I_ : Nat → Int → World → Prop) (nv1 : Nat), I_ nv1 0 w ∧
  ∀ (nv : Nat) (i : Int) (w_ : World), I_ nv i w_ →
  (((decide (i < (↑(Sl.n a_) : Int))) = true →
  ∃ ad : Addr, SlAt a_ i 1 ad ∧
  ∃ x1 : Int, Cells w_ ad [.int .i64 x1] ∧
  ∃ ad1 : Addr, SlAt b i 1 ad1 ∧
  ∃ x2 : Int, Cells w_ ad1 [.int .i64 x2] ∧
  (((x1 != x2) = true →
  ∀ (w_1 : World), Only [] w_ w_1 →
  R (.bool false) w_1) ∧
  ((x1 != x2) = false →
  ∀ (w_1 : World), Only [] w_ w_1 →
  ∃ nv2 : Nat, nv2 < nv ∧ I_ nv2 (IntKind.i64.wrap (i + 1)) w_1))) ∧
  ((decide (i < (↑(Sl.n a_) : Int))) = false →
  R (.bool true) w_))))
theorem pavaneref01_Same_wp (a_ : Sl) (b : Sl) (R : Value → World → Prop) (w : World) (h : pavaneref01_Same_vc a_ b R w) :
    Calls Try.prog 21 #[Sl.v a_, Sl.v b] w fun e w' => ∃ v, e = .returned v ∧ R v w' := by
  unfold pavaneref01_Same_vc at h
  refine callsF (l := [(0, Sl.v a_), (1, Sl.v b)]) Try.func21 rfl Try.ntmps21 (Nat.le_of_ble_eq_true rfl) rfl (wp_seq (wp_region_lit (sv (R_as rfl) (wpList_nil (then_normal (wp_seq (wp_seq (wp_region_lit (sv (R_mv rfl) (sv (R_len (s := a_) (Try.runUnderlying34 _) rfl) (sv (R_mv rfl) (sv (R_len (s := b) (Try.runUnderlying34 _) rfl) (sv (R_neq rfl rfl) (wpList_nil ?_))))))))))))))
  refine then_normal ?_
  refine C_split (t := ((↑(Sl.n a_) : Int) != (↑(Sl.n b) : Int))) rfl (fun hc => ?_) (fun hc => ?_)
  · replace h := h.1 hc
    refine wp_seq (wp_region_lit (sv (R_as rfl) (wpList_nil (then_normal (wp_ret (then_ret ?_))))))
    exact ret1 Try.results21 ⟨rfl, trivial⟩ h
  · replace h := h.2 hc
    refine wp_skip (then_normal (wp_seq (wp_seq (wp_region_lit (sv (R_as rfl) (wpList_nil (then_normal (wp_block ?_))))))))
    obtain ⟨I_, nv1, h0, hI⟩ := h
    refine wp_loop_ghost (fun nv' a' w' => ∃ i : Int, (∃ us, a' = fr 26 us [(0, Sl.v a_), (1, Sl.v b), (5, .int .i64 i)]) ∧ I_ nv' i w') nv1 ?_ ?_
    · exact ⟨_, fr_sub ⟨rfl, rfl, rfl, trivial⟩, h0⟩
    · clear h0
      rintro nv _ w_ ⟨i, ⟨us, rfl⟩, h⟩
      replace h := hI _ _ _ h
      refine wp_seq (wp_seq (wp_region_lit (sv (R_mv rfl) (sv (R_mv rfl) (sv (R_len (s := a_) (Try.runUnderlying34 _) rfl) (sv (R_lss rfl rfl) (wpList_nil (then_normal ?_))))))))
      refine C_split (t := (decide (i < (↑(Sl.n a_) : Int)))) rfl (fun hc1 => ?_) (fun hc1 => ?_)
      · replace h := h.1 hc1
        refine wp_skip (then_normal (wp_seq (wp_block (wp_seq ?_))))
        obtain ⟨ad, hx, h⟩ := h
        obtain ⟨x1, hx1, h⟩ := h
        obtain ⟨ad1, hx2, h⟩ := h
        obtain ⟨x2, hx3, h⟩ := h
        refine wp_region_quiet_lit Try.checked.mixed (by kernel_rfl) (qv (wn rfl) (fun nd => (R_mv rfl)) (qv (wn rfl) (fun nd => (R_mv rfl)) (qv (v := .pointer (some ad)) (wn rfl) (fun nd => (R_indexS (s := a_) (Try.runUnderlying34 _) (Try.sizeOf3 _) rfl rfl hx)) (qv (v := .int .i64 x1) (wn rfl) (fun nd => (R_load1 (Try.isAgg3 _) rfl (Cells.one (q_cells hx1)))) (qv (wn rfl) (fun nd => (R_mv rfl)) (qv (wn rfl) (fun nd => (R_mv rfl)) (qv (v := .pointer (some ad1)) (wn rfl) (fun nd => (R_indexS (s := b) (Try.runUnderlying34 _) (Try.sizeOf3 _) rfl rfl hx2)) (qv (v := .int .i64 x2) (wn rfl) (fun nd => (R_load1 (Try.isAgg3 _) rfl (Cells.one (q_cells hx3)))) (qv (wn rfl) (fun nd => (R_neq rfl rfl)) (wpQuiet_nil ?_))))))))))
        rintro _ ⟨nd, rfl⟩
        have hO := Only.drewN w_ nd
        generalize w_.drewN nd = w_1 at *
        have hA : Only [] w_ w_1 := hO
        refine then_normal ?_
        refine C_split (t := (x1 != x2)) rfl (fun hc2 => ?_) (fun hc2 => ?_)
        · replace h := h.1 hc2
          refine wp_seq (wp_region_lit (sv (R_as rfl) (wpList_nil (then_normal (wp_ret (block_ret (then_ret (then_ret (block_ret (then_ret ?_))))))))))
          replace h := h w_1 hA
          exact ret1 Try.results21 ⟨rfl, trivial⟩ h
        · replace h := h.2 hc2
          refine wp_skip (block_normal (then_normal (wp_region_lit (sv (R_mv rfl) (sv (R_add rfl rfl) (sv (R_as rfl) (wpList_nil (then_normal ?_))))))))
          replace h := h w_1 hA
          obtain ⟨nv2, hl, h⟩ := h
          exact ⟨nv2, hl, _, fr_sub ⟨rfl, rfl, rfl, trivial⟩, h⟩
      · replace h := h.2 hc1
        refine wp_exit (then_exit (then_exit (block_hit (then_normal (wp_seq (wp_region_lit (sv (R_as rfl) (wpList_nil (then_normal (wp_ret ?_))))))))))
        exact ret1 Try.results21 ⟨rfl, trivial⟩ h

/-- what is to be shown of a call of (*session.Book).Expire$1 -/
def session_Book_Expire_1_vc (s0 : Int) (s1 : Int) (s2 : Sl) (s3 : Int) (ccap0 : Addr) (ccap1 : Addr) (R : Value → World → Prop) (w : World) : Prop :=
  ∀ (b : Nat) (w_ : World), w.heap.size ≤ b → b < w_.heap.size → Only [] w w_ →
  ∃ J_ : World → Prop, (∀ (w_1 : World), J_ w_1 →
  ∃ x1 : Int, Cells w_1 ccap0 [.int .i64 x1] ∧
  R (.bool (decide (s3 < x1))) w_1) ∧
  (∃ x2 : Int, Cells w_ ccap0 [.int .i64 x2] ∧
  (((decide (s3 < x2)) = true →
  ∃ x3 : Sl, Cells w_ ccap1 [Sl.v x3] ∧
  ∃ x4 : Sl, ∃ w_2 : World, (Instr.buildSlice 34 1 #[(0, .int .i64 s0)]).run Try.prog w_ = .ok (Sl.v x4) w_2 ∧ Same [b] w_ w_2 ∧
  ∃ x5 : Sl, ∃ w_3 : World, (Builtin.append_ #[34, 34] 34 #[Sl.v x3, Sl.v x4]).run Try.prog w_2 = .ok (Sl.v x5) w_3 ∧ Same [b] w_2 w_3 ∧
  ∃ (bk off : Nat) (cells : List Value) (ety : TypeId), ccap1 = (⟨bk, off, none⟩ : Addr) ∧ Blk w_3 bk ety cells ∧ off + 1 ≤ cells.length ∧ b ≠ bk ∧ ∀ w_4 : World, Only [bk] w_3 w_4 → Blk w_4 bk ety (splice cells off [Sl.v x5]) →
  J_ w_4) ∧
  ((decide (s3 < x2)) = false →
  J_ w_)))
theorem session_Book_Expire_1_wp (s0 : Int) (s1 : Int) (s2 : Sl) (s3 : Int) (ccap0 : Addr) (ccap1 : Addr) (R : Value → World → Prop) (w : World) (h : session_Book_Expire_1_vc s0 s1 s2 s3 ccap0 ccap1 R w) :
    Calls Try.prog 32 #[.agg #[.int .i64 s0, .int .i64 s1, Sl.v s2, .int .i64 s3], .pointer (some ccap0), .pointer (some ccap1)] w fun e w' => ∃ v, e = .returned v ∧ R v w' := by
  unfold session_Book_Expire_1_vc at h
  refine callsF (l := [(0, .agg #[.int .i64 s0, .int .i64 s1, Sl.v s2, .int .i64 s3]), (1, .pointer (some ccap0)), (2, .pointer (some ccap1))]) Try.func32 rfl Try.ntmps32 (Nat.le_of_ble_eq_true rfl) rfl (wp_seq (wp_region_lit (st_one (wn rfl) ?_)))
  refine O_box (zs := [.int .i64 s0, .int .i64 s1, Sl.v s2, .int .i64 s3]) rfl (fun b w_ hn hO hb => ?_)
  have hn_b : w.heap.size ≤ b := hn
  have hA : Only [] w w_ := hO
  refine sv (R_as rfl) (wpList_nil (then_normal ?_))
  replace h := h b w_ hn_b hb.lt hA
  obtain ⟨J_, hJ, h⟩ := h
  refine wp_seq_join (fun a' w' => (∃ us, a' = fr 18 us [(1, .pointer (some ccap0)), (3, .pointer (some ⟨b, 0, none⟩))]) ∧ Blk w' b 49 [.int .i64 s0, .int .i64 s1, Sl.v s2, .int .i64 s3] ∧ J_ w') ?_ ?_
  · clear h
    rintro _ w_1 ⟨⟨us, rfl⟩, hb1, h⟩
    replace h := hJ _ h
    refine wp_seq (wp_region_lit (sv (v := .pointer (some ⟨b, 3, none⟩)) (R_field (Try.runUnderlying49 _) rfl (Try.sizeOf3 _) rfl rfl) (sv (v := .int .i64 s3) (R_load1 (Try.isAgg3 _) rfl (hb1.cell 3)) ?_)))
    obtain ⟨x1, hx, h⟩ := h
    refine sv (v := .int .i64 x1) (R_load1 (Try.isAgg3 _) rfl (Cells.one hx)) (sv (R_lss rfl rfl) (sv (R_as rfl) (wpList_nil (then_normal (wp_ret ?_)))))
    exact ret1 Try.results32 ⟨rfl, trivial⟩ h
  · clear hJ
    refine wp_seq (wp_region_lit (sv (v := .pointer (some ⟨b, 3, none⟩)) (R_field (Try.runUnderlying49 _) rfl (Try.sizeOf3 _) rfl rfl) (sv (v := .int .i64 s3) (R_load1 (Try.isAgg3 _) rfl (hb.cell 3)) ?_)))
    obtain ⟨x2, hx1, h⟩ := h
    refine sv (v := .int .i64 x2) (R_load1 (Try.isAgg3 _) rfl (Cells.one hx1)) (sv (R_lss rfl rfl) (wpList_nil (then_normal ?_)))
    refine C_split (t := (decide (s3 < x2))) rfl (fun hc => ?_) (fun hc => ?_)
    · replace h := h.1 hc
      refine wp_region_lit ?_
      obtain ⟨x3, hx2, h⟩ := h
      refine sv (v := Sl.v x3) (R_load1 (Try.isAgg34 _) rfl (Cells.one hx2)) (sv (v := .pointer (some ⟨b, 0, none⟩)) (R_field (Try.runUnderlying49 _) rfl (Try.sizeOf3 _) rfl rfl) (sv (v := .int .i64 s0) (R_load1 (Try.isAgg3 _) rfl (hb.cell 0)) ?_))
      obtain ⟨x4, w_2, hr, hs, h⟩ := h
      refine st_one (wn rfl) (O_val (v := (Sl.v x4)) (R_buildSlice rfl hr) ?_)
      have hb2 := hs.blk hb (by simp)
      obtain ⟨x5, w_3, hr1, hs1, h⟩ := h
      refine st_one (wn rfl) (O_val (v := (Sl.v x5)) (R_builtin_append rfl hr1) ?_)
      have hb3 := hs1.blk hb2 (by simp)
      obtain ⟨bk, off, cells, ety, hx3, hx4, hx5, hne, h⟩ := h
      refine st_one (wn rfl) ?_
      refine O_store (b := bk) (o := off) (vs := [Sl.v x5]) (Try.sizeOf34 _) (ag hx3) rfl rfl rfl hx4 hx5 rfl (fun w_4 hO1 hb4 => ?_)
      replace h := h w_4 hO1 hb4
      have hb5 := hO1.blk hb3 (by simpa using hne)
      refine wpList_nil (then_normal ?_)
      exact ⟨fr_sub ⟨rfl, rfl, trivial⟩, hb5, h⟩
    · replace h := h.2 hc
      refine wp_skip (then_normal ?_)
      exact ⟨fr_sub ⟨rfl, rfl, trivial⟩, hb, h⟩

/-- what is to be shown of a call of pavanelaw01.Kept -/
def pavanelaw01_Kept_vc (lent : Sl) (was : Sl) (R : Value → World → Prop) (w : World) : Prop :=
  ∃ bs : List UInt8, Bytes w lent bs ∧
  ∃ bs1 : List UInt8, Bytes w was bs1 ∧
  ∃ hi : Nat, (((⟨List.toArray bs⟩ : ByteArray).toList == (⟨List.toArray bs1⟩ : ByteArray).toList) = true → (IntKind.i64.wrap ((↑(Sl.n was) : Int) + 1) = ↑hi ∧ 0 ≤ hi ∧ hi ≤ (Sl.c lent) ∧ (Sl.c lent) ≤ Sl.c lent)) ∧
  ∃ ad : Addr, (((⟨List.toArray bs⟩ : ByteArray).toList == (⟨List.toArray bs1⟩ : ByteArray).toList) = true → SlAt (Sl.cut lent 0 hi (Sl.c lent) 1) (↑(Sl.n was) : Int) 1 ad) ∧
  ∃ x1 : Int, (((⟨List.toArray bs⟩ : ByteArray).toList == (⟨List.toArray bs1⟩ : ByteArray).toList) = true → Cells w ad [.int .u8 x1]) ∧
  R (.bool (((⟨List.toArray bs⟩ : ByteArray).toList == (⟨List.toArray bs1⟩ : ByteArray).toList) && (x1 == 77))) w
theorem pavanelaw01_Kept_wp (lent : Sl) (was : Sl) (R : Value → World → Prop) (w : World) (h : pavanelaw01_Kept_vc lent was R w) :
    Calls Try.prog 29 #[Sl.v lent, Sl.v was] w fun e w' => ∃ v, e = .returned v ∧ R v w' := by
  unfold pavanelaw01_Kept_vc at h
  refine callsF (l := [(0, Sl.v lent), (1, Sl.v was)]) Try.func29 rfl Try.ntmps29 (Nat.le_of_ble_eq_true rfl) rfl (wp_seq (wp_region_lit (sv (R_as rfl) (wpList_nil (then_normal (wp_seq ?_))))))
  obtain ⟨bs, hx, h⟩ := h
  obtain ⟨bs1, hx1, h⟩ := h
  obtain ⟨hi, hx2, h⟩ := h
  obtain ⟨ad, hx3, h⟩ := h
  obtain ⟨x1, hx4, h⟩ := h
  refine wp_region_lit (sv (R_mv rfl) (sv (v := .string (⟨List.toArray bs⟩ : ByteArray)) (R_bytesStr (sl := lent) Try.underlying27 Try.underlying5 Try.underlying9 rfl hx) (sv (R_mv rfl) (sv (v := .string (⟨List.toArray bs1⟩ : ByteArray)) (R_bytesStr (sl := was) Try.underlying27 Try.underlying5 Try.underlying9 rfl hx1) (sv (R_seql rfl rfl) (sv (R_mv rfl) ?_))))))
  refine cutF 11 22 [(21, .bool (((⟨List.toArray bs⟩ : ByteArray).toList == (⟨List.toArray bs1⟩ : ByteArray).toList) && (x1 == 77)))] ?_ ?_
  · simp only [List.take_succ_cons, List.take_zero]
    rcases Bool.eq_false_or_eq_true ((⟨List.toArray bs⟩ : ByteArray).toList == (⟨List.toArray bs1⟩ : ByteArray).toList) with hg | hg
    · refine svg (wtF rfl rfl rfl (bg hg) rfl) (R_mv rfl) (svg (wtF rfl rfl rfl (bg hg) rfl) (R_mv rfl) (svg (wtF rfl rfl rfl (bg hg) rfl) (R_len (s := was) (Try.runUnderlying27 _) rfl) (svg (wtF rfl rfl rfl (bg hg) rfl) (R_add rfl rfl) (svg (v := Sl.v (Sl.cut lent 0 hi (Sl.c lent) 1)) (wtF rfl rfl rfl (bg hg) rfl) (R_slice010 (s := lent) (Try.runUnderlying27 _) (Try.sizeOf5 _) rfl (ig ((hx2 hg).1)) (by first | exact (hx2 hg).2.1 | omega) (by first | exact (hx2 hg).2.2.1 | omega) (by first | exact (hx2 hg).2.2.2 | omega)) (svg (wtF rfl rfl rfl (bg hg) rfl) (R_mv rfl) (svg (wtF rfl rfl rfl (bg hg) rfl) (R_len (s := was) (Try.runUnderlying27 _) rfl) (svg (v := .pointer (some ad)) (wtF rfl rfl rfl (bg hg) rfl) (R_indexS (s := Sl.cut lent 0 hi (Sl.c lent) 1) (Try.runUnderlying27 _) (Try.sizeOf5 _) rfl rfl (hx3 hg)) (svg (v := .int .u8 x1) (wtF rfl rfl rfl (bg hg) rfl) (R_load1 (Try.isAgg5 _) rfl (Cells.one (hx4 hg))) (svg (wtF rfl rfl rfl (bg hg) rfl) (R_eql rfl rfl) (sv (R_pickT (bg hg) rfl) (wpList_nil ?_)))))))))))
      exact cutEnd ⟨(by rw [hg]; rfl), trivial⟩
    · refine sno (wtF rfl rfl rfl (bg hg) rfl) (sno (wtF rfl rfl rfl (bg hg) rfl) (sno (wtF rfl rfl rfl (bg hg) rfl) (sno (wtF rfl rfl rfl (bg hg) rfl) (sno (wtF rfl rfl rfl (bg hg) rfl) (sno (wtF rfl rfl rfl (bg hg) rfl) (sno (wtF rfl rfl rfl (bg hg) rfl) (sno (wtF rfl rfl rfl (bg hg) rfl) (sno (wtF rfl rfl rfl (bg hg) rfl) (sno (wtF rfl rfl rfl (bg hg) rfl) (sv (R_pickF (bg hg) rfl) (wpList_nil ?_)))))))))))
      exact cutEnd ⟨(by rw [hg]; rfl), trivial⟩
  intro us
  simp only [List.drop_succ_cons, List.drop_zero]
  refine sv (R_as rfl) (wpList_nil (then_normal (wp_ret ?_)))
  exact ret1 Try.results29 ⟨rfl, trivial⟩ h

/-- what is to be shown of a call of cmp.Compare[int] -/
def cmp_Compare_int_vc (x1 : Int) (y : Int) (R : Value → World → Prop) (w : World) : Prop :=
  Calls Try.prog 44 #[.int .i64 x1] w (fun e w_ => ∃ x2 : Bool, e = .returned (.bool x2) ∧
  Calls Try.prog 44 #[.int .i64 y] w_ (fun e w_1 => ∃ x3 : Bool, e = .returned (.bool x3) ∧
  ((x2 = true →
  ((x3 = true →
  R (.int .i64 0) w_1) ∧
  (x3 = false →
  R (.int .i64 (-1)) w_1))) ∧
  (x2 = false →
  ((x3 = true →
  R (.int .i64 1) w_1) ∧
  (x3 = false →
  (((decide (x1 < y)) = true →
  R (.int .i64 (-1)) w_1) ∧
  ((decide (x1 < y)) = false →
  (((decide (x1 > y)) = true →
  R (.int .i64 1) w_1) ∧
  ((decide (x1 > y)) = false →
  R (.int .i64 0) w_1))))))))))
theorem cmp_Compare_int_wp (x1 : Int) (y : Int) (R : Value → World → Prop) (w : World) (h : cmp_Compare_int_vc x1 y R w) :
    Calls Try.prog 40 #[.int .i64 x1, .int .i64 y] w fun e w' => ∃ v, e = .returned v ∧ R v w' := by
  unfold cmp_Compare_int_vc at h
  refine callsF (l := [(0, .int .i64 x1), (1, .int .i64 y)]) Try.func40 rfl Try.ntmps40 (Nat.le_of_ble_eq_true rfl) rfl (wp_seq (wp_region_lit (sv (R_as rfl) (wpList_nil (then_normal (wp_seq (wp_region_lit (sv (R_mv rfl) (st_one (wn rfl) ?_)))))))))
  refine O_enter (args := #[.int .i64 x1]) (R_enter Try.call44 rfl) (h.mono ?_)
  clear h
  rintro _ w_ ⟨x2, rfl, h⟩
  refine ⟨_, rfl, ?_⟩
  refine sv (R_as rfl) (wpList_nil (then_normal (wp_seq (wp_region_lit (sv (R_mv rfl) (st_one (wn rfl) ?_))))))
  refine O_enter (args := #[.int .i64 y]) (R_enter Try.call44 rfl) (h.mono ?_)
  clear h
  rintro _ w_1 ⟨x3, rfl, h⟩
  refine ⟨_, rfl, ?_⟩
  refine sv (R_as rfl) (wpList_nil (then_normal (wp_seq (wp_seq (wp_region_lit (sv (R_mv rfl) (wpList_nil (then_normal ?_))))))))
  refine C_split (t := x2) rfl (fun hc => ?_) (fun hc => ?_)
  · replace h := h.1 hc
    refine wp_seq (wp_seq (wp_region_lit (sv (R_mv rfl) (wpList_nil (then_normal ?_)))))
    refine C_split (t := x3) rfl (fun hc1 => ?_) (fun hc1 => ?_)
    · replace h := h.1 hc1
      refine wp_seq (wp_region_lit (sv (R_as rfl) (wpList_nil (then_normal (wp_ret (then_ret (then_ret ?_)))))))
      exact ret1 Try.results40 ⟨rfl, trivial⟩ h
    · replace h := h.2 hc1
      refine wp_skip (then_normal (wp_seq (wp_region_lit (sv (R_as rfl) (wpList_nil (then_normal (wp_ret (then_ret ?_))))))))
      exact ret1 Try.results40 ⟨rfl, trivial⟩ h
  · replace h := h.2 hc
    refine wp_skip (then_normal (wp_seq (wp_seq (wp_region_lit (sv (R_mv rfl) (wpList_nil (then_normal ?_)))))))
    refine C_split (t := x3) rfl (fun hc2 => ?_) (fun hc2 => ?_)
    · replace h := h.1 hc2
      refine wp_seq (wp_region_lit (sv (R_as rfl) (wpList_nil (then_normal (wp_ret (then_ret ?_))))))
      exact ret1 Try.results40 ⟨rfl, trivial⟩ h
    · replace h := h.2 hc2
      refine wp_skip (then_normal (wp_seq (wp_seq (wp_region_lit (sv (R_mv rfl) (sv (R_mv rfl) (sv (R_lss rfl rfl) (wpList_nil (then_normal ?_)))))))))
      refine C_split (t := (decide (x1 < y))) rfl (fun hc3 => ?_) (fun hc3 => ?_)
      · replace h := h.1 hc3
        refine wp_seq (wp_region_lit (sv (R_as rfl) (wpList_nil (then_normal (wp_ret (then_ret ?_))))))
        exact ret1 Try.results40 ⟨rfl, trivial⟩ h
      · replace h := h.2 hc3
        refine wp_skip (then_normal (wp_seq (wp_seq (wp_region_lit (sv (R_mv rfl) (sv (R_mv rfl) (sv (R_gtr rfl rfl) (wpList_nil (then_normal ?_)))))))))
        refine C_split (t := (decide (x1 > y))) rfl (fun hc4 => ?_) (fun hc4 => ?_)
        · replace h := h.1 hc4
          refine wp_seq (wp_region_lit (sv (R_as rfl) (wpList_nil (then_normal (wp_ret (then_ret ?_))))))
          exact ret1 Try.results40 ⟨rfl, trivial⟩ h
        · replace h := h.2 hc4
          refine wp_skip (then_normal (wp_seq (wp_region_lit (sv (R_as rfl) (wpList_nil (then_normal (wp_ret ?_)))))))
          exact ret1 Try.results40 ⟨rfl, trivial⟩ h

/-- what is to be shown of a call of pavanelaw19.over -/
def pavanelaw19_over_vc (l : Sl) (R : Value → World → Prop) (w : World) : Prop :=
  ∃ (I_ : Nat → Int → World → Prop) (nv1 : Nat), I_ nv1 0 w ∧
  ∀ (nv : Nat) (i : Int) (w_ : World), I_ nv i w_ →
  (((decide (i < (↑(Sl.n l) : Int))) = true →
  ∃ ad : Addr, SlAt l i 4 ad ∧
  ∃ x1 : Sl, Cells w_ (Addr.add ad 2) [Sl.v x1] ∧
  ∃ x2 : Sl, ∃ w_1 : World, (Instr.buildSlice 61 1 #[(0, Sl.v x1)]).run Try.prog w_ = .ok (Sl.v x2) w_1 ∧
  Calls Try.prog 22 #[Sl.v x2] w_1 (fun e w_2 => ∃ x3 : Bool, e = .returned (.bool x3) ∧
  ∃ ad1 : Addr, SlAt l i 4 ad1 ∧
  ∃ (bk off : Nat) (cells : List Value) (ety : TypeId), ad1 = (⟨bk, off, none⟩ : Addr) ∧ Blk w_2 bk ety cells ∧ off + 4 ≤ cells.length ∧ ∀ w_3 : World, Only [bk] w_2 w_3 → Blk w_3 bk ety (splice cells off [.int .i64 (-7), .int .i64 0, Sl.v Sl.nil, .int .i64 0]) →
  ∃ nv2 : Nat, nv2 < nv ∧ I_ nv2 (IntKind.i64.wrap (i + 1)) w_3)) ∧
  ((decide (i < (↑(Sl.n l) : Int))) = false →
  R (.tuple #[]) w_))
theorem pavanelaw19_over_wp (l : Sl) (R : Value → World → Prop) (w : World) (h : pavanelaw19_over_vc l R w) :
    Calls Try.prog 24 #[Sl.v l] w fun e w' => ∃ v, e = .returned v ∧ R v w' := by
  unfold pavanelaw19_over_vc at h
  refine callsF (l := [(0, Sl.v l)]) Try.func24 rfl Try.ntmps24 (Nat.le_of_ble_eq_true rfl) rfl (wp_seq (wp_region_lit (sv (R_as rfl) (wpList_nil (then_normal (wp_block ?_))))))
  obtain ⟨I_, nv1, h0, hI⟩ := h
  refine wp_loop_ghost (fun nv' a' w' => ∃ i : Int, (∃ us, a' = fr 20 us [(0, Sl.v l), (2, .int .i64 i)]) ∧ I_ nv' i w') nv1 ?_ ?_
  · exact ⟨_, fr_sub ⟨rfl, rfl, trivial⟩, h0⟩
  · clear h0
    rintro nv _ w_ ⟨i, ⟨us, rfl⟩, h⟩
    replace h := hI _ _ _ h
    refine wp_seq (wp_seq (wp_region_lit (sv (R_mv rfl) (sv (R_mv rfl) (sv (R_len (s := l) (Try.runUnderlying42 _) rfl) (sv (R_lss rfl rfl) (wpList_nil (then_normal ?_))))))))
    refine C_split (t := (decide (i < (↑(Sl.n l) : Int)))) rfl (fun hc => ?_) (fun hc => ?_)
    · replace h := h.1 hc
      refine wp_skip (then_normal (wp_seq (wp_block (wp_seq (wp_region_lit (sv (R_mv rfl) (sv (R_mv rfl) ?_)))))))
      obtain ⟨ad, hx, h⟩ := h
      refine sv (v := .pointer (some ad)) (R_indexS (s := l) (Try.runUnderlying42 _) (Try.sizeOf49 _) rfl rfl hx) (sv (v := .pointer (some (Addr.add ad 2))) (R_field (Try.runUnderlying49 _) rfl (Try.sizeOf27 _) rfl rfl) ?_)
      obtain ⟨x1, hx1, h⟩ := h
      refine sv (v := Sl.v x1) (R_load1 (Try.isAgg27 _) rfl (Cells.one hx1)) ?_
      obtain ⟨x2, w_1, hr, h⟩ := h
      refine st_one (wn rfl) (O_val (v := (Sl.v x2)) (R_buildSlice rfl hr) (st_one (wn rfl) ?_))
      refine O_enter (args := #[Sl.v x2]) (R_enter Try.call22 rfl) (h.mono ?_)
      clear h
      rintro _ w_2 ⟨x3, rfl, h⟩
      refine ⟨_, rfl, ?_⟩
      refine wpList_nil (then_normal (wp_region_lit (sv (R_mv rfl) (sv (R_mv rfl) (sv (v := .agg #[.int .i64 (-7), .int .i64 0, Sl.v Sl.nil, .int .i64 0]) (R_build (ps' := [(0, .int .i64 (-7))]) rfl (by kernel_rfl)) ?_)))))
      obtain ⟨ad1, hx2, h⟩ := h
      refine sv (v := .pointer (some ad1)) (R_indexS (s := l) (Try.runUnderlying42 _) (Try.sizeOf49 _) rfl rfl hx2) ?_
      obtain ⟨bk, off, cells, ety, hx3, hx4, hx5, h⟩ := h
      refine st_one (wn rfl) ?_
      refine O_store (b := bk) (o := off) (vs := [.int .i64 (-7), .int .i64 0, Sl.v Sl.nil, .int .i64 0]) (Try.sizeOf49 _) (ag hx3) rfl rfl rfl hx4 hx5 rfl (fun w_3 hO hb => ?_)
      replace h := h w_3 hO hb
      refine wpList_nil (block_normal (then_normal (wp_region_lit (sv (R_mv rfl) (sv (R_add rfl rfl) (sv (R_as rfl) (wpList_nil (then_normal ?_))))))))
      obtain ⟨nv2, hl, h⟩ := h
      exact ⟨nv2, hl, _, fr_sub ⟨rfl, rfl, trivial⟩, h⟩
    · replace h := h.2 hc
      refine wp_exit (then_exit (then_exit (block_hit ?_)))
      exact normN (vs := []) Try.results24 rfl trivial h

/-- what is to be shown of a call of (*pavaneref19.Book).Find -/
def pavaneref19_Book_Find_vc (b : Addr) (id_ : Int) (R : Value → World → Prop) (w : World) : Prop :=
  ∃ (I_ : Nat → Int → World → Prop) (nv1 : Nat), I_ nv1 0 w ∧
  ∀ (nv : Nat) (i : Int) (w_ : World), I_ nv i w_ →
  ∃ x1 : Sl, Cells w_ (Addr.add b 0) [Sl.v x1] ∧
  (((decide (i < (↑(Sl.n x1) : Int))) = true →
  ∃ x2 : Sl, Cells w_ (Addr.add b 0) [Sl.v x2] ∧
  ∃ ad : Addr, SlAt x2 i 4 ad ∧
  ∃ x3 : Int, Cells w_ (Addr.add ad 0) [.int .i64 x3] ∧
  (((x3 == id_) = true →
  R (.int .i64 i) w_) ∧
  ((x3 == id_) = false →
  ∃ nv2 : Nat, nv2 < nv ∧ I_ nv2 (IntKind.i64.wrap (i + 1)) w_))) ∧
  ((decide (i < (↑(Sl.n x1) : Int))) = false →
  R (.int .i64 (-1)) w_))
theorem pavaneref19_Book_Find_wp (b : Addr) (id_ : Int) (R : Value → World → Prop) (w : World) (h : pavaneref19_Book_Find_vc b id_ R w) :
    Calls Try.prog 43 #[.pointer (some b), .int .i64 id_] w fun e w' => ∃ v, e = .returned v ∧ R v w' := by
  unfold pavaneref19_Book_Find_vc at h
  refine callsF (l := [(0, .pointer (some b)), (1, .int .i64 id_)]) Try.func43 rfl Try.ntmps43 (Nat.le_of_ble_eq_true rfl) rfl (wp_seq (wp_region_lit (sv (R_as rfl) (wpList_nil (then_normal (wp_seq (wp_seq (wp_region_lit (sv (R_as rfl) (wpList_nil (then_normal (wp_block ?_))))))))))))
  obtain ⟨I_, nv1, h0, hI⟩ := h
  refine wp_loop_ghost (fun nv' a' w' => ∃ i : Int, (∃ us, a' = fr 26 us [(0, .pointer (some b)), (1, .int .i64 id_), (5, .int .i64 i)]) ∧ I_ nv' i w') nv1 ?_ ?_
  · exact ⟨_, fr_sub ⟨rfl, rfl, rfl, trivial⟩, h0⟩
  · clear h0
    rintro nv _ w_ ⟨i, ⟨us, rfl⟩, h⟩
    replace h := hI _ _ _ h
    refine wp_seq (wp_seq (wp_region_lit (sv (R_mv rfl) (sv (R_mv rfl) (sv (v := .pointer (some b)) (R_nil rfl) (sv (v := .pointer (some (Addr.add b 0))) (R_field (Try.runUnderlying64 _) rfl (Try.sizeOf42 _) rfl rfl) ?_))))))
    obtain ⟨x1, hx, h⟩ := h
    refine sv (v := Sl.v x1) (R_load1 (Try.isAgg42 _) rfl (Cells.one hx)) (sv (R_len (s := x1) (Try.runUnderlying42 _) rfl) (sv (R_lss rfl rfl) (wpList_nil (then_normal ?_))))
    refine C_split (t := (decide (i < (↑(Sl.n x1) : Int)))) rfl (fun hc => ?_) (fun hc => ?_)
    · replace h := h.1 hc
      refine wp_skip (then_normal (wp_seq (wp_block (wp_seq (wp_region_lit (sv (R_mv rfl) (sv (v := .pointer (some b)) (R_nil rfl) (sv (v := .pointer (some (Addr.add b 0))) (R_field (Try.runUnderlying64 _) rfl (Try.sizeOf42 _) rfl rfl) ?_))))))))
      obtain ⟨x2, hx1, h⟩ := h
      refine sv (v := Sl.v x2) (R_load1 (Try.isAgg42 _) rfl (Cells.one hx1)) (sv (R_mv rfl) ?_)
      obtain ⟨ad, hx2, h⟩ := h
      refine sv (v := .pointer (some ad)) (R_indexS (s := x2) (Try.runUnderlying42 _) (Try.sizeOf49 _) rfl rfl hx2) (sv (v := .pointer (some (Addr.add ad 0))) (R_field (Try.runUnderlying49 _) rfl (Try.sizeOf3 _) rfl rfl) ?_)
      obtain ⟨x3, hx3, h⟩ := h
      refine sv (v := .int .i64 x3) (R_load1 (Try.isAgg3 _) rfl (Cells.one hx3)) (sv (R_mv rfl) (sv (R_eql rfl rfl) (wpList_nil (then_normal ?_))))
      refine C_split (t := (x3 == id_)) rfl (fun hc1 => ?_) (fun hc1 => ?_)
      · replace h := h.1 hc1
        refine wp_seq (wp_region_lit (sv (R_mv rfl) (sv (R_as rfl) (wpList_nil (then_normal (wp_ret (block_ret (then_ret (then_ret (block_ret (then_ret ?_)))))))))))
        exact ret1 Try.results43 ⟨rfl, trivial⟩ h
      · replace h := h.2 hc1
        refine wp_skip (block_normal (then_normal (wp_region_lit (sv (R_mv rfl) (sv (R_add rfl rfl) (sv (R_as rfl) (wpList_nil (then_normal ?_))))))))
        obtain ⟨nv2, hl, h⟩ := h
        exact ⟨nv2, hl, _, fr_sub ⟨rfl, rfl, rfl, trivial⟩, h⟩
    · replace h := h.2 hc
      refine wp_exit (then_exit (then_exit (block_hit (then_normal (wp_seq (wp_region_lit (sv (R_as rfl) (wpList_nil (then_normal (wp_ret ?_))))))))))
      exact ret1 Try.results43 ⟨rfl, trivial⟩ h

/-- what is to be shown of a call of (*session.Book).Expire -/
def session_Book_Expire_vc (b : Addr) (now : Int) (R : Value → World → Prop) (w : World) : Prop :=
  ∀ (b1 : Nat) (b2 : Nat) (w_1 : World), w.heap.size ≤ b1 → b1 < w_1.heap.size → w.heap.size ≤ b2 → b2 < w_1.heap.size → Only [] w w_1 →
  ∃ x1 : Sl, Cells w_1 (Addr.add (Addr.add b 0) 0) [Sl.v x1] ∧
  ∀ (_ : Blk w_1 b1 3 [.int .i64 now]), ∀ (_ : Blk w_1 b2 34 [Sl.v Sl.nil]),
  Calls Try.prog 31 #[Sl.v x1, .func (.func 32) #[] #[.pointer (some ⟨b1, 0, none⟩), .pointer (some ⟨b2, 0, none⟩)]] w_1 (fun e w_2 => ∃ x2 : Sl, e = .returned (Sl.v x2) ∧ Same [b1] w_1 w_2 ∧ ∃ vb2 : Sl, Blk w_2 b2 34 [Sl.v vb2] ∧
  ∃ (bk off : Nat) (cells : List Value) (ety : TypeId), Addr.add (Addr.add b 0) 0 = (⟨bk, off, none⟩ : Addr) ∧ Blk w_2 bk ety cells ∧ off + 1 ≤ cells.length ∧ b1 ≠ bk ∧ b2 ≠ bk ∧ ∀ w_3 : World, Only [bk] w_2 w_3 → Blk w_3 bk ety (splice cells off [Sl.v x2]) →
  R (Sl.v vb2) w_3)
theorem session_Book_Expire_wp (b : Addr) (now : Int) (R : Value → World → Prop) (w : World) (h : session_Book_Expire_vc b now R w) :
    Calls Try.prog 13 #[.pointer (some b), .int .i64 now] w fun e w' => ∃ v, e = .returned v ∧ R v w' := by
  unfold session_Book_Expire_vc at h
  refine callsF (l := [(0, .pointer (some b)), (1, .int .i64 now)]) Try.func13 rfl Try.ntmps13 (Nat.le_of_ble_eq_true rfl) rfl (wp_seq (wp_region_lit (st_one (wn rfl) ?_)))
  refine O_box (zs := [.int .i64 now]) rfl (fun b1 w_ hn hO hb => ?_)
  have hn_b1 : w.heap.size ≤ b1 := hn
  have hA : Only [] w w_ := hO
  refine sv (R_as rfl) (wpList_nil (then_normal (wp_seq (wp_region_lit (st_one (wn rfl) ?_)))))
  refine O_alloc (zs := [Sl.v Sl.nil]) (Try.zeroValue34 _) rfl (fun b2 w_1 hn1 hO1 hb1 => ?_)
  have hne : b2 ≠ b1 := by have := hb.lt; omega
  have hn_b2 : w.heap.size ≤ b2 := Nat.le_trans hA.size hn1
  have hA1 := hA.tr0 hO1
  have hb2 := hO1.blk hb (by simp)
  refine wpList_nil (then_normal (wp_seq (wp_region_lit (sv (R_mv rfl) (sv (R_mv rfl) (sv (v := .pointer (some b)) (R_nil rfl) (sv (v := .pointer (some (Addr.add b 0))) (R_field (Try.runUnderlying47 _) rfl (Try.sizeOf45 _) rfl rfl) (sv (v := .pointer (some (Addr.add (Addr.add b 0) 0))) (R_field (Try.runUnderlying45 _) rfl (Try.sizeOf42 _) rfl rfl) ?_))))))))
  replace h := h b1 b2 w_1 hn_b1 hb2.lt hn_b2 hb1.lt hA1
  obtain ⟨x1, hx, h⟩ := h
  refine sv (v := Sl.v x1) (R_load1 (Try.isAgg42 _) rfl (Cells.one hx)) (sv (v := .func (.func 32) #[] #[.pointer (some ⟨b1, 0, none⟩), .pointer (some ⟨b2, 0, none⟩)]) (R_makeFunc (fv := []) (cv := [.pointer (some ⟨b1, 0, none⟩), .pointer (some ⟨b2, 0, none⟩)]) rfl rfl) ?_)
  replace h := h hb2 hb1
  refine st_one (wn rfl) ?_
  refine O_enter (args := #[Sl.v x1, .func (.func 32) #[] #[.pointer (some ⟨b1, 0, none⟩), .pointer (some ⟨b2, 0, none⟩)]]) (R_enter Try.call31 rfl) (h.mono ?_)
  clear h
  rintro _ w_2 ⟨x2, rfl, hs, vb2, hb3, h⟩
  refine ⟨_, rfl, ?_⟩
  have hb4 := hs.blk hb2 (by simp)
  refine sv (v := .pointer (some b)) (R_nil rfl) (sv (v := .pointer (some (Addr.add b 0))) (R_field (Try.runUnderlying47 _) rfl (Try.sizeOf45 _) rfl rfl) (sv (v := .pointer (some (Addr.add (Addr.add b 0) 0))) (R_field (Try.runUnderlying45 _) rfl (Try.sizeOf42 _) rfl rfl) ?_))
  obtain ⟨bk, off, cells, ety, hx1, hx2, hx3, hne1, hne2, h⟩ := h
  refine st_one (wn rfl) ?_
  refine O_store (b := bk) (o := off) (vs := [Sl.v x2]) (Try.sizeOf42 _) (ag hx1) rfl rfl rfl hx2 hx3 rfl (fun w_3 hO2 hb5 => ?_)
  replace h := h w_3 hO2 hb5
  have hb6 := hO2.blk hb4 (by simpa using hne1)
  have hb7 := hO2.blk hb3 (by simpa using hne2)
  refine wpList_nil (then_normal (wp_seq (wp_region_lit (sv (v := Sl.v vb2) (R_load1 (Try.isAgg34 _) rfl (hb7.cell 0)) (sv (R_as rfl) (wpList_nil (then_normal (wp_ret ?_))))))))
  exact ret1 Try.results13 ⟨rfl, trivial⟩ h

/-- what is to be shown of a call of pavanelaw01.Lent -/
def pavanelaw01_Lent_vc (b : Sl) (R : Value → World → Prop) (w : World) : Prop :=
  ∃ x1 : Sl, ∃ w_ : World, (Instr.makeSlice 27 (.int .i64 (↑(Sl.n b) : Int)) (.int .i64 (IntKind.i64.wrap ((↑(Sl.n b) : Int) + 1)))).run Try.prog w = .ok (Sl.v x1) w_ ∧
  ∃ x2 : Int, ∃ w_1 : World, (Builtin.copy_ #[27, 27] 3 #[Sl.v x1, Sl.v b]).run Try.prog w_ = .ok (.int .i64 x2) w_1 ∧
  ∃ hi : Nat, (IntKind.i64.wrap ((↑(Sl.n b) : Int) + 1) = ↑hi ∧ 0 ≤ hi ∧ hi ≤ (Sl.c x1) ∧ (Sl.c x1) ≤ Sl.c x1) ∧
  ∃ ad : Addr, SlAt (Sl.cut x1 0 hi (Sl.c x1) 1) (↑(Sl.n b) : Int) 1 ad ∧
  ∃ (bk off : Nat) (cells : List Value) (ety : TypeId), ad = (⟨bk, off, none⟩ : Addr) ∧ Blk w_1 bk ety cells ∧ off + 1 ≤ cells.length ∧ ∀ w_2 : World, Only [bk] w_1 w_2 → Blk w_2 bk ety (splice cells off [.int .u8 77]) →
  R (Sl.v x1) w_2
theorem pavanelaw01_Lent_wp (b : Sl) (R : Value → World → Prop) (w : World) (h : pavanelaw01_Lent_vc b R w) :
    Calls Try.prog 28 #[Sl.v b] w fun e w' => ∃ v, e = .returned v ∧ R v w' := by
  unfold pavanelaw01_Lent_vc at h
  refine callsF (l := [(0, Sl.v b)]) Try.func28 rfl Try.ntmps28 (Nat.le_of_ble_eq_true rfl) rfl (wp_seq (wp_region_lit (sv (R_as rfl) (wpList_nil (then_normal (wp_seq (wp_region_lit (sv (R_mv rfl) (sv (R_len (s := b) (Try.runUnderlying27 _) rfl) (sv (R_mv rfl) (sv (R_len (s := b) (Try.runUnderlying27 _) rfl) (sv (R_add rfl rfl) ?_))))))))))))
  obtain ⟨x1, w_, hr, h⟩ := h
  refine st_one (wn rfl) (O_val (v := (Sl.v x1)) (R_makeSlice rfl rfl hr) (sv (R_as rfl) (wpList_nil (then_normal (wp_seq (wp_region_lit (sv (R_mv rfl) (sv (R_mv rfl) ?_))))))))
  obtain ⟨x2, w_1, hr1, h⟩ := h
  refine st_one (wn rfl) (O_val (v := (.int .i64 x2)) (R_builtin_copy rfl hr1) (wpList_nil (then_normal (wp_seq (wp_region_lit (sv (R_mv rfl) (sv (R_mv rfl) (sv (R_len (s := b) (Try.runUnderlying27 _) rfl) (sv (R_add rfl rfl) ?_)))))))))
  obtain ⟨hi, hx, h⟩ := h
  refine sv (v := Sl.v (Sl.cut x1 0 hi (Sl.c x1) 1)) (R_slice010 (s := x1) (Try.runUnderlying27 _) (Try.sizeOf5 _) rfl (ig (hx.1)) (by first | exact hx.2.1 | omega) (by first | exact hx.2.2.1 | omega) (by first | exact hx.2.2.2 | omega)) (sv (R_mv rfl) (sv (R_len (s := b) (Try.runUnderlying27 _) rfl) ?_))
  obtain ⟨ad, hx1, h⟩ := h
  refine sv (v := .pointer (some ad)) (R_indexS (s := Sl.cut x1 0 hi (Sl.c x1) 1) (Try.runUnderlying27 _) (Try.sizeOf5 _) rfl rfl hx1) ?_
  obtain ⟨bk, off, cells, ety, hx2, hx3, hx4, h⟩ := h
  refine st_one (wn rfl) ?_
  refine O_store (b := bk) (o := off) (vs := [.int .u8 77]) (Try.sizeOf5 _) (ag hx2) rfl rfl rfl hx3 hx4 rfl (fun w_2 hO hb => ?_)
  replace h := h w_2 hO hb
  refine wpList_nil (then_normal (wp_seq (wp_region_lit (sv (R_mv rfl) (sv (R_as rfl) (wpList_nil (then_normal (wp_ret ?_))))))))
  exact ret1 Try.results28 ⟨rfl, trivial⟩ h

/-- what is to be shown of a call of (*session.row).at$1 -/
def session_row_at_1_vc (s0 : Int) (s1 : Int) (s2 : Sl) (s3 : Int) (id_ : Int) (R : Value → World → Prop) (w : World) : Prop :=
  ∀ (b : Nat) (w_ : World), w.heap.size ≤ b → b < w_.heap.size → Only [] w w_ →
  Calls Try.prog 40 #[.int .i64 s0, .int .i64 id_] w_ (fun e w_1 => ∃ x1 : Int, e = .returned (.int .i64 x1) ∧ Same [b] w_ w_1 ∧
  R (.int .i64 x1) w_1)
theorem session_row_at_1_wp (s0 : Int) (s1 : Int) (s2 : Sl) (s3 : Int) (id_ : Int) (R : Value → World → Prop) (w : World) (h : session_row_at_1_vc s0 s1 s2 s3 id_ R w) :
    Calls Try.prog 39 #[.agg #[.int .i64 s0, .int .i64 s1, Sl.v s2, .int .i64 s3], .int .i64 id_] w fun e w' => ∃ v, e = .returned v ∧ R v w' := by
  unfold session_row_at_1_vc at h
  refine callsF (l := [(0, .agg #[.int .i64 s0, .int .i64 s1, Sl.v s2, .int .i64 s3]), (1, .int .i64 id_)]) Try.func39 rfl Try.ntmps39 (Nat.le_of_ble_eq_true rfl) rfl (wp_seq (wp_region_lit (st_one (wn rfl) ?_)))
  refine O_box (zs := [.int .i64 s0, .int .i64 s1, Sl.v s2, .int .i64 s3]) rfl (fun b w_ hn hO hb => ?_)
  have hn_b : w.heap.size ≤ b := hn
  have hA : Only [] w w_ := hO
  refine sv (R_as rfl) (wpList_nil (then_normal (wp_seq (wp_region_lit (sv (v := .pointer (some ⟨b, 0, none⟩)) (R_field (Try.runUnderlying49 _) rfl (Try.sizeOf3 _) rfl rfl) (sv (v := .int .i64 s0) (R_load1 (Try.isAgg3 _) rfl (hb.cell 0)) (sv (R_mv rfl) ?_)))))))
  replace h := h b w_ hn_b hb.lt hA
  refine st_one (wn rfl) ?_
  refine O_enter (args := #[.int .i64 s0, .int .i64 id_]) (R_enter Try.call40 rfl) (h.mono ?_)
  clear h
  rintro _ w_1 ⟨x1, rfl, hs, h⟩
  refine ⟨_, rfl, ?_⟩
  have hb1 := hs.blk hb (by simp)
  refine sv (R_as rfl) (wpList_nil (then_normal (wp_ret ?_)))
  exact ret1 Try.results39 ⟨rfl, trivial⟩ h

/-- what is to be shown of a call of slices.Clone[[]api.Seat,api.Seat] -/
def slices_Clone_api_Seat_vc (s : Sl) (R : Value → World → Prop) (w : World) : Prop :=
  (((Option.isNone (Sl.a s)) = true →
  R (Sl.v Sl.nil) w) ∧
  ((Option.isNone (Sl.a s)) = false →
  ∃ x1 : Sl, ∃ w_ : World, (Instr.buildSlice 42 0 #[]).run Try.prog w = .ok (Sl.v x1) w_ ∧
  ∃ x2 : Sl, ∃ w_1 : World, (Builtin.append_ #[42, 42] 42 #[Sl.v x1, Sl.v s]).run Try.prog w_ = .ok (Sl.v x2) w_1 ∧
  R (Sl.v x2) w_1))
theorem slices_Clone_api_Seat_wp (s : Sl) (R : Value → World → Prop) (w : World) (h : slices_Clone_api_Seat_vc s R w) :
    Calls Try.prog 42 #[Sl.v s] w fun e w' => ∃ v, e = .returned v ∧ R v w' := by
  unfold slices_Clone_api_Seat_vc at h
  refine callsF (l := [(0, Sl.v s)]) Try.func42 rfl Try.ntmps42 (Nat.le_of_ble_eq_true rfl) rfl (wp_seq (wp_region_lit (sv (R_as rfl) (wpList_nil (then_normal (wp_seq (wp_seq (wp_region_lit (sv (R_mv rfl) (sv (R_eqlSlNilR (Try.runUnderlying42 _) rfl rfl) (wpList_nil (then_normal ?_))))))))))))
  refine C_split (t := (Option.isNone (Sl.a s))) rfl (fun hc => ?_) (fun hc => ?_)
  · replace h := h.1 hc
    refine wp_seq (wp_region_lit (sv (R_as rfl) (wpList_nil (then_normal (wp_ret (then_ret ?_))))))
    exact ret1 Try.results42 ⟨rfl, trivial⟩ h
  · replace h := h.2 hc
    refine wp_skip (then_normal (wp_seq (wp_region_lit ?_)))
    obtain ⟨x1, w_, hr, h⟩ := h
    refine st_one (wn rfl) (O_val (v := (Sl.v x1)) (R_buildSlice rfl hr) (sv (R_mv rfl) ?_))
    obtain ⟨x2, w_1, hr1, h⟩ := h
    refine st_one (wn rfl) (O_val (v := (Sl.v x2)) (R_builtin_append rfl hr1) (sv (R_as rfl) (wpList_nil (then_normal (wp_ret ?_)))))
    exact ret1 Try.results42 ⟨rfl, trivial⟩ h

/-- what is to be shown of a call of bytes.Clone -/
def bytes_Clone_vc (b : Sl) (R : Value → World → Prop) (w : World) : Prop :=
  (((Option.isNone (Sl.a b)) = true →
  R (Sl.v Sl.nil) w) ∧
  ((Option.isNone (Sl.a b)) = false →
  ∃ x1 : Sl, ∃ w_ : World, (Instr.buildSlice 27 0 #[]).run Try.prog w = .ok (Sl.v x1) w_ ∧
  ∃ x2 : Sl, ∃ w_1 : World, (Builtin.append_ #[27, 27] 27 #[Sl.v x1, Sl.v b]).run Try.prog w_ = .ok (Sl.v x2) w_1 ∧
  R (Sl.v x2) w_1))
theorem bytes_Clone_wp (b : Sl) (R : Value → World → Prop) (w : World) (h : bytes_Clone_vc b R w) :
    Calls Try.prog 27 #[Sl.v b] w fun e w' => ∃ v, e = .returned v ∧ R v w' := by
  unfold bytes_Clone_vc at h
  refine callsF (l := [(0, Sl.v b)]) Try.func27 rfl Try.ntmps27 (Nat.le_of_ble_eq_true rfl) rfl (wp_seq (wp_region_lit (sv (R_as rfl) (wpList_nil (then_normal (wp_seq (wp_seq (wp_region_lit (sv (R_mv rfl) (sv (R_eqlSlNilR (Try.runUnderlying27 _) rfl rfl) (wpList_nil (then_normal ?_))))))))))))
  refine C_split (t := (Option.isNone (Sl.a b))) rfl (fun hc => ?_) (fun hc => ?_)
  · replace h := h.1 hc
    refine wp_seq (wp_region_lit (sv (R_as rfl) (wpList_nil (then_normal (wp_ret (then_ret ?_))))))
    exact ret1 Try.results27 ⟨rfl, trivial⟩ h
  · replace h := h.2 hc
    refine wp_skip (then_normal (wp_seq (wp_region_lit ?_)))
    obtain ⟨x1, w_, hr, h⟩ := h
    refine st_one (wn rfl) (O_val (v := (Sl.v x1)) (R_buildSlice rfl hr) (sv (R_mv rfl) ?_))
    obtain ⟨x2, w_1, hr1, h⟩ := h
    refine st_one (wn rfl) (O_val (v := (Sl.v x2)) (R_builtin_append rfl hr1) (sv (R_as rfl) (wpList_nil (then_normal (wp_ret ?_)))))
    exact ret1 Try.results27 ⟨rfl, trivial⟩ h

/-- what is to be shown of a call of (*session.row).at -/
def session_row_at_vc (r : Addr) (id_ : Int) (R : Value → World → Prop) (w : World) : Prop :=
  ∃ x1 : Sl, Cells w (Addr.add r 0) [Sl.v x1] ∧
  Calls Try.prog 38 #[Sl.v x1, .int .i64 id_, .func (.func 39) #[] #[]] w (fun e w_ => ∃ x0 : Int, ∃ x11 : Bool, e = .returned (.tuple #[.int .i64 x0, .bool x11]) ∧
  R (.tuple #[.int .i64 x0, .bool x11]) w_)
theorem session_row_at_wp (r : Addr) (id_ : Int) (R : Value → World → Prop) (w : World) (h : session_row_at_vc r id_ R w) :
    Calls Try.prog 26 #[.pointer (some r), .int .i64 id_] w fun e w' => ∃ v, e = .returned v ∧ R v w' := by
  unfold session_row_at_vc at h
  refine callsF (l := [(0, .pointer (some r)), (1, .int .i64 id_)]) Try.func26 rfl Try.ntmps26 (Nat.le_of_ble_eq_true rfl) rfl (wp_seq (wp_region_lit (sv (R_as rfl) (sv (R_as rfl) (wpList_nil (then_normal (wp_seq (wp_region_lit (sv (R_mv rfl) (sv (v := .pointer (some r)) (R_nil rfl) (sv (v := .pointer (some (Addr.add r 0))) (R_field (Try.runUnderlying45 _) rfl (Try.sizeOf42 _) rfl rfl) ?_)))))))))))
  obtain ⟨x1, hx, h⟩ := h
  refine sv (v := Sl.v x1) (R_load1 (Try.isAgg42 _) rfl (Cells.one hx)) (sv (R_mv rfl) (st_one (wn rfl) ?_))
  refine O_enter (args := #[Sl.v x1, .int .i64 id_, .func (.func 39) #[] #[]]) (R_enter Try.call38 rfl) (h.mono ?_)
  clear h
  rintro _ w_ ⟨x0, x11, rfl, h⟩
  refine ⟨_, rfl, ?_⟩
  refine sv (R_ext rfl rfl) (sv (R_ext rfl rfl) (sv (R_as rfl) (sv (R_as rfl) (wpList_nil (then_normal (wp_ret ?_))))))
  exact retN (vs := [.int .i64 x0, .bool x11]) Try.results26 rfl ⟨rfl, rfl, trivial⟩ h

/-- what is to be shown of a call of session.tick -/
def session_tick_vc (now : Int) (R : Value → World → Prop) (w : World) : Prop :=
  R (.bool ((decide (now ≥ 0)) && (decide (now ≤ 1099511627776)))) w
theorem session_tick_wp (now : Int) (R : Value → World → Prop) (w : World) (h : session_tick_vc now R w) :
    Calls Try.prog 30 #[.int .i64 now] w fun e w' => ∃ v, e = .returned v ∧ R v w' := by
  unfold session_tick_vc at h
  refine callsF (l := [(0, .int .i64 now)]) Try.func30 rfl Try.ntmps30 (Nat.le_of_ble_eq_true rfl) rfl (wp_seq (wp_region_lit (sv (R_as rfl) (wpList_nil (then_normal (wp_seq (wp_region_lit (sv (R_mv rfl) (sv (R_geq rfl rfl) (sv (R_mv rfl) ?_))))))))))
  refine cutF 3 9 [(8, .bool ((decide (now ≥ 0)) && (decide (now ≤ 1099511627776))))] ?_ ?_
  · simp only [List.take_succ_cons, List.take_zero]
    rcases Bool.eq_false_or_eq_true (decide (now ≥ 0)) with hg | hg
    · refine svg (wtF rfl rfl rfl (bg hg) rfl) (R_mv rfl) (svg (wtF rfl rfl rfl (bg hg) rfl) (R_leq rfl rfl) (sv (R_pickT (bg hg) rfl) (wpList_nil ?_)))
      exact cutEnd ⟨(by rw [hg]; rfl), trivial⟩
    · refine sno (wtF rfl rfl rfl (bg hg) rfl) (sno (wtF rfl rfl rfl (bg hg) rfl) (sv (R_pickF (bg hg) rfl) (wpList_nil ?_)))
      exact cutEnd ⟨(by rw [hg]; rfl), trivial⟩
  intro us
  simp only [List.drop_succ_cons, List.drop_zero]
  refine sv (R_as rfl) (wpList_nil (then_normal (wp_ret ?_)))
  exact ret1 Try.results30 ⟨rfl, trivial⟩ h

/-- what is to be shown of a call of (*session.row).List -/
def session_row_List_vc (r : Addr) (R : Value → World → Prop) (w : World) : Prop :=
  ∃ x1 : Sl, Cells w (Addr.add r 0) [Sl.v x1] ∧
  Calls Try.prog 33 #[Sl.v x1] w (fun e w_ => ∃ x2 : Sl, e = .returned (Sl.v x2) ∧
  R (Sl.v x2) w_)
theorem session_row_List_wp (r : Addr) (R : Value → World → Prop) (w : World) (h : session_row_List_vc r R w) :
    Calls Try.prog 14 #[.pointer (some r)] w fun e w' => ∃ v, e = .returned v ∧ R v w' := by
  unfold session_row_List_vc at h
  refine callsF (l := [(0, .pointer (some r))]) Try.func14 rfl Try.ntmps14 (Nat.le_of_ble_eq_true rfl) rfl (wp_seq (wp_region_lit (sv (R_as rfl) (wpList_nil (then_normal (wp_seq (wp_region_lit (sv (R_mv rfl) (sv (v := .pointer (some r)) (R_nil rfl) (sv (v := .pointer (some (Addr.add r 0))) (R_field (Try.runUnderlying45 _) rfl (Try.sizeOf42 _) rfl rfl) ?_))))))))))
  obtain ⟨x1, hx, h⟩ := h
  refine sv (v := Sl.v x1) (R_load1 (Try.isAgg42 _) rfl (Cells.one hx)) (st_one (wn rfl) ?_)
  refine O_enter (args := #[Sl.v x1]) (R_enter Try.call33 rfl) (h.mono ?_)
  clear h
  rintro _ w_ ⟨x2, rfl, h⟩
  refine ⟨_, rfl, ?_⟩
  refine sv (R_as rfl) (wpList_nil (then_normal (wp_ret ?_)))
  exact ret1 Try.results14 ⟨rfl, trivial⟩ h

/-- what is to be shown of a call of pavaneref19.New -/
def pavaneref19_New_vc (R : Value → World → Prop) (w : World) : Prop :=
  ∀ (b : Nat) (w_ : World), w.heap.size ≤ b → b < w_.heap.size → Only [] w w_ → Blk w_ b 64 [Sl.v Sl.nil, .int .i64 1] →
  R (.pointer (some ⟨b, 0, none⟩)) w_
theorem pavaneref19_New_wp (R : Value → World → Prop) (w : World) (h : pavaneref19_New_vc R w) :
    Calls Try.prog 16 #[] w fun e w' => ∃ v, e = .returned v ∧ R v w' := by
  unfold pavaneref19_New_vc at h
  refine callsF (l := []) Try.func16 rfl Try.ntmps16 (Nat.le_of_ble_eq_true rfl) rfl (wp_seq (wp_region_lit (sv (R_as rfl) (wpList_nil (then_normal (wp_seq (wp_region_lit (sv (v := .agg #[Sl.v Sl.nil, .int .i64 1]) (R_build (ps' := [(1, .int .i64 1)]) rfl (by kernel_rfl)) (st_one (wn rfl) ?_)))))))))
  refine O_box (zs := [Sl.v Sl.nil, .int .i64 1]) rfl (fun b w_ hn hO hb => ?_)
  have hn_b : w.heap.size ≤ b := hn
  have hA : Only [] w w_ := hO
  refine sv (R_as rfl) (wpList_nil (then_normal (wp_ret ?_)))
  replace h := h b w_ hn_b hb.lt hA hb
  exact ret1 Try.results16 ⟨rfl, trivial⟩ h

/-- what is to be shown of a call of session.New -/
def session_New_vc (R : Value → World → Prop) (w : World) : Prop :=
  ∀ (b : Nat) (w_ : World), w.heap.size ≤ b → b < w_.heap.size → Only [] w w_ → Blk w_ b 47 [Sl.v Sl.nil, .int .i64 1] →
  R (.pointer (some ⟨b, 0, none⟩)) w_
theorem session_New_wp (R : Value → World → Prop) (w : World) (h : session_New_vc R w) :
    Calls Try.prog 9 #[] w fun e w' => ∃ v, e = .returned v ∧ R v w' := by
  unfold session_New_vc at h
  refine callsF (l := []) Try.func9 rfl Try.ntmps9 (Nat.le_of_ble_eq_true rfl) rfl (wp_seq (wp_region_lit (sv (R_as rfl) (wpList_nil (then_normal (wp_seq (wp_region_lit (sv (v := .agg #[Sl.v Sl.nil, .int .i64 1]) (R_build (ps' := [(1, .int .i64 1)]) rfl (by kernel_rfl)) (st_one (wn rfl) ?_)))))))))
  refine O_box (zs := [Sl.v Sl.nil, .int .i64 1]) rfl (fun b w_ hn hO hb => ?_)
  have hn_b : w.heap.size ≤ b := hn
  have hA : Only [] w w_ := hO
  refine sv (R_as rfl) (wpList_nil (then_normal (wp_ret ?_)))
  replace h := h b w_ hn_b hb.lt hA hb
  exact ret1 Try.results9 ⟨rfl, trivial⟩ h

/-- what is to be shown of a call of (*session.Book).Next -/
def session_Book_Next_vc (b : Addr) (R : Value → World → Prop) (w : World) : Prop :=
  ∃ x1 : Int, Cells w (Addr.add b 1) [.int .i64 x1] ∧
  R (.int .i64 x1) w
theorem session_Book_Next_wp (b : Addr) (R : Value → World → Prop) (w : World) (h : session_Book_Next_vc b R w) :
    Calls Try.prog 15 #[.pointer (some b)] w fun e w' => ∃ v, e = .returned v ∧ R v w' := by
  unfold session_Book_Next_vc at h
  refine callsF (l := [(0, .pointer (some b))]) Try.func15 rfl Try.ntmps15 (Nat.le_of_ble_eq_true rfl) rfl (wp_seq (wp_region_lit (sv (R_as rfl) (wpList_nil (then_normal (wp_seq (wp_region_lit (sv (R_mv rfl) (sv (v := .pointer (some b)) (R_nil rfl) (sv (v := .pointer (some (Addr.add b 1))) (R_field (Try.runUnderlying47 _) rfl (Try.sizeOf3 _) rfl rfl) ?_))))))))))
  obtain ⟨x1, hx, h⟩ := h
  refine sv (v := .int .i64 x1) (R_load1 (Try.isAgg3 _) rfl (Cells.one hx)) (sv (R_as rfl) (wpList_nil (then_normal (wp_ret ?_))))
  exact ret1 Try.results15 ⟨rfl, trivial⟩ h

/-- what is to be shown of a call of cmp.isNaN[int] -/
def cmp_isNaN_int_vc (x1 : Int) (R : Value → World → Prop) (w : World) : Prop :=
  R (.bool (x1 != x1)) w
theorem cmp_isNaN_int_wp (x1 : Int) (R : Value → World → Prop) (w : World) (h : cmp_isNaN_int_vc x1 R w) :
    Calls Try.prog 44 #[.int .i64 x1] w fun e w' => ∃ v, e = .returned v ∧ R v w' := by
  unfold cmp_isNaN_int_vc at h
  refine callsF (l := [(0, .int .i64 x1)]) Try.func44 rfl Try.ntmps44 (Nat.le_of_ble_eq_true rfl) rfl (wp_seq (wp_region_lit (sv (R_as rfl) (wpList_nil (then_normal (wp_seq (wp_region_lit (sv (R_mv rfl) (sv (R_mv rfl) (sv (R_neq rfl rfl) (sv (R_as rfl) (wpList_nil (then_normal (wp_ret ?_))))))))))))))
  exact ret1 Try.results44 ⟨rfl, trivial⟩ h

end Go.Proofs.Ytahncinfbhjkgaa.Vc
