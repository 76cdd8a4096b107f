/-
  Own work, printed by a program of ours (gen.py): of each Go function what is to be shown of a call ('.._vc'), and that it suffices ('.._wp'). Nothing is assumed.
-/
import Derived.Test.YtahncinfbhjkgaaRows
import Derived.Test.YtahncinfbhjkgaaBase
namespace Go.Proofs.Ytahncinfbhjkgaa.Vc
open Go Go.RowKit Go.Kt
set_option linter.unusedSimpArgs false
set_option linter.unusedVariables false
set_option maxRecDepth 100000
set_option maxHeartbeats 40000000
/-- what is to be shown of a call of (*pavaneref19.Book).Expire -/
def pavaneref19_Book_Expire_vc (b : Addr) (now : Int) (R : Value → World → Prop) (w : World) : Prop :=
  ∃ (I_ : Nat → Sl → Sl → Int → World → Prop) (nv1 : Nat), I_ nv1 Sl.nil Sl.nil 0 w ∧
  ∀ (nv : Nat) (gone : Sl) (stay : Sl) (i : Int) (w_ : World), I_ nv gone stay i w_ →
  ∃ x1 : Sl, Cells w_ (Addr.add b 0) [Sl.v x1] ∧
  (((decide (i < (↑(Sl.n x1) : Int))) = true →
  ∃ J_ : Sl → Sl → World → Prop, (∀ (gone1 : Sl) (stay1 : Sl) (w_1 : World), J_ gone1 stay1 w_1 →
  ∃ nv2 : Nat, nv2 < nv ∧ I_ nv2 gone1 stay1 (IntKind.i64.wrap (i + 1)) w_1) ∧
  (∃ x2 : Sl, Cells w_ (Addr.add b 0) [Sl.v x2] ∧
  ∃ ad : Addr, SlAt x2 i 4 ad ∧
  ∃ x3 : Int, Cells w_ (Addr.add ad 3) [.int .i64 x3] ∧
  (((decide (x3 < now)) = true →
  ∃ x4 : Sl, Cells w_ (Addr.add b 0) [Sl.v x4] ∧
  ∃ ad1 : Addr, SlAt x4 i 4 ad1 ∧
  ∃ x5 : Int, Cells w_ (Addr.add ad1 0) [.int .i64 x5] ∧
  ∃ x6 : Sl, ∃ w_2 : World, (Instr.buildSlice 34 1 #[(0, .int .i64 x5)]).run Try.prog w_ = .ok (Sl.v x6) w_2 ∧
  ∃ x7 : Sl, ∃ w_3 : World, (Builtin.append_ #[34, 34] 34 #[Sl.v gone, Sl.v x6]).run Try.prog w_2 = .ok (Sl.v x7) w_3 ∧
  J_ x7 stay w_3) ∧
  ((decide (x3 < now)) = false →
  ∃ x8 : Sl, Cells w_ (Addr.add b 0) [Sl.v x8] ∧
  ∃ ad2 : Addr, SlAt x8 i 4 ad2 ∧
  ∃ x0 : Int, ∃ x11 : Int, ∃ x21 : Sl, ∃ x31 : Int, Cells w_ ad2 [.int .i64 x0, .int .i64 x11, Sl.v x21, .int .i64 x31] ∧
  ∃ x9 : Sl, ∃ w_4 : World, (Instr.buildSlice 42 1 #[(0, .agg #[.int .i64 x0, .int .i64 x11, Sl.v x21, .int .i64 x31])]).run Try.prog w_ = .ok (Sl.v x9) w_4 ∧
  ∃ x10 : Sl, ∃ w_5 : World, (Builtin.append_ #[42, 42] 42 #[Sl.v stay, Sl.v x9]).run Try.prog w_4 = .ok (Sl.v x10) w_5 ∧
  J_ gone x10 w_5)))) ∧
  ((decide (i < (↑(Sl.n x1) : Int))) = false →
  ∃ (bk off : Nat) (cells : List Value) (ety : TypeId), Addr.add b 0 = (⟨bk, off, none⟩ : Addr) ∧ Blk w_ bk ety cells ∧ off + 1 ≤ cells.length ∧ ∀ w_6 : World, Only [bk] w_ w_6 → Blk w_6 bk ety (splice cells off [Sl.v stay]) →
  R (Sl.v gone) w_6))
theorem pavaneref19_Book_Expire_wp (b : Addr) (now : Int) (R : Value → World → Prop) (w : World) (h : pavaneref19_Book_Expire_vc b now R w) :
    Calls Try.prog 37 #[.pointer (some b), .int .i64 now] w fun e w' => ∃ v, e = .returned v ∧ R v w' := by
  unfold pavaneref19_Book_Expire_vc at h
  refine calls_of (k := 51) Try.func37 rfl Try.ntmps37 rfl rfl ?_
  simp only [List.replicate, List.cons_append, List.nil_append]
  refine wp_seq ?_
  refine wp_region_lit ?_
  refine st_val (Sl.v Sl.nil) (wn rfl) rfl (by simp only [f0, f1, f2]; rfl) ?_
  refine wpList_nil ?_
  refine then_normal ?_
  refine wp_seq ?_
  refine wp_region_lit ?_
  refine st_val (Sl.v Sl.nil) (wn rfl) rfl (by simp only [f0, f1, f2]; rfl) ?_
  refine wpList_nil ?_
  refine then_normal ?_
  refine wp_seq ?_
  refine wp_region_lit ?_
  refine st_val (Sl.v Sl.nil) (wn rfl) rfl (by simp only [f0, f1, f2]; rfl) ?_
  refine wpList_nil ?_
  refine then_normal ?_
  refine wp_seq ?_
  refine wp_seq ?_
  refine wp_region_lit ?_
  refine st_val (.int .i64 0) (wn rfl) rfl (by simp only [f0, f1, f2]; rfl) ?_
  refine wpList_nil ?_
  refine then_normal ?_
  refine wp_block ?_
  obtain ⟨I_, nv1, h0, hI⟩ := h
  refine wp_loop_ghost (fun nv' a' w' => ∃ gone : Sl, ∃ stay : Sl, ∃ i : Int, (∃ us : Nat → Value, a' = (⟨(fillin us 0 (some (.pointer (some b)) :: some (.int .i64 now) :: some undef :: some undef :: some (Sl.v Sl.nil) :: some (Sl.v gone) :: some (Sl.v stay) :: some (.int .i64 i) :: none :: none :: none :: none :: none :: none :: none :: none :: none :: none :: none :: none :: none :: none :: none :: none :: none :: none :: none :: none :: none :: none :: none :: none :: none :: none :: none :: none :: none :: none :: none :: none :: none :: none :: none :: none :: none :: none :: none :: none :: some undef :: some undef :: some undef :: some undef :: some undef :: [])).toArray, []⟩ : Act)) ∧ I_ nv' gone stay i w') nv1 ?_ ?_
  · exact ⟨_, _, _, (some_us rfl rfl rfl), h0⟩
  · clear h0
    rintro nv a0 w_ ⟨gone, stay, i, ⟨us, hF⟩, h⟩
    simp only [fillin, Nat.reduceAdd] at hF
    subst hF
    replace h := hI _ _ _ _ _ h
    refine wp_seq ?_
    refine wp_seq ?_
    refine wp_region_lit ?_
    refine st_val (.int .i64 i) (wn rfl) rfl (by simp only [f0, f1, f2]; rfl) ?_
    refine st_val (.pointer (some b)) (wn rfl) rfl (by simp only [f0, f1, f2]; rfl) ?_
    refine st_val (.pointer (some b)) (wn rfl) rfl (by simp only [f0, f1, f2]; rfl) ?_
    refine st_val (.pointer (some (Addr.add b 0))) (wn rfl) (r_field (Try.runUnderlying64 _) rfl (Try.sizeOf42 _) rfl rfl) (by simp only [f0, f1, f2]; rfl) ?_
    obtain ⟨x1, hx, h⟩ := h
    refine st_val (Sl.v x1) (wn rfl) (r_load1 (Try.isAgg42 _) rfl (Cells.one hx)) (by simp only [f0, f1, f2]; rfl) ?_
    refine st_val (.int .i64 (↑(Sl.n x1) : Int)) (wn rfl) (r_len (s := x1) (Try.runUnderlying42 _) rfl) (by simp only [f0, f1, f2]; rfl) ?_
    refine st_val (.bool (decide (i < (↑(Sl.n x1) : Int)))) (wn rfl) rfl (by simp only [f0, f1, f2]; rfl) ?_
    refine wpList_nil ?_
    refine then_normal ?_
    refine wp_cond_split (t := (decide (i < (↑(Sl.n x1) : Int)))) rfl (fun hc => ?_) (fun hc => ?_)
    · replace h := h.1 hc
      refine wp_skip ?_
      refine then_normal ?_
      obtain ⟨J_, hJ, h⟩ := h
      refine wp_seq_join (fun a' w' => ∃ gone1 : Sl, ∃ stay1 : Sl, (∃ us1 : Nat → Value, a' = (⟨(fillin us1 0 (some (.pointer (some b)) :: some (.int .i64 now) :: some undef :: some undef :: some (Sl.v Sl.nil) :: some (Sl.v gone1) :: some (Sl.v stay1) :: some (.int .i64 i) :: some (.int .i64 i) :: some (.pointer (some b)) :: some (.pointer (some b)) :: some (.pointer (some (Addr.add b 0))) :: some (Sl.v x1) :: some (.int .i64 (↑(Sl.n x1) : Int)) :: some (.bool (decide (i < (↑(Sl.n x1) : Int)))) :: some ((us 15)) :: some ((us 16)) :: none :: none :: none :: none :: none :: none :: none :: none :: none :: none :: none :: none :: none :: none :: none :: none :: none :: none :: none :: none :: none :: none :: none :: none :: none :: none :: none :: none :: none :: none :: none :: some undef :: some undef :: some undef :: some undef :: some undef :: [])).toArray, []⟩ : Act)) ∧ J_ gone1 stay1 w') ?_ ?_
      · clear h
        rintro a0 w_1 ⟨gone1, stay1, ⟨us1, hF⟩, h⟩
        simp only [fillin, Nat.reduceAdd] at hF
        subst hF
        replace h := hJ _ _ _ h
        refine wp_region_lit ?_
        refine st_val (.int .i64 i) (wn rfl) rfl (by simp only [f0, f1, f2]; rfl) ?_
        refine st_val (.int .i64 (IntKind.i64.wrap (i + 1))) (wn rfl) rfl (by simp only [f0, f1, f2]; rfl) ?_
        refine st_val (.int .i64 (IntKind.i64.wrap (i + 1))) (wn rfl) rfl (by simp only [f0, f1, f2]; rfl) ?_
        refine wpList_nil ?_
        refine then_normal ?_
        obtain ⟨nv2, hl, h⟩ := h
        exact ⟨nv2, hl, _, _, _, (some_us rfl rfl rfl), h⟩
      · clear hJ
        refine wp_block ?_
        refine wp_seq ?_
        refine wp_region_lit ?_
        refine st_val (.pointer (some b)) (wn rfl) rfl (by simp only [f0, f1, f2]; rfl) ?_
        refine st_val (.pointer (some b)) (wn rfl) rfl (by simp only [f0, f1, f2]; rfl) ?_
        refine st_val (.pointer (some (Addr.add b 0))) (wn rfl) (r_field (Try.runUnderlying64 _) rfl (Try.sizeOf42 _) rfl rfl) (by simp only [f0, f1, f2]; rfl) ?_
        obtain ⟨x2, hx1, h⟩ := h
        refine st_val (Sl.v x2) (wn rfl) (r_load1 (Try.isAgg42 _) rfl (Cells.one hx1)) (by simp only [f0, f1, f2]; rfl) ?_
        refine st_val (.int .i64 i) (wn rfl) rfl (by simp only [f0, f1, f2]; rfl) ?_
        obtain ⟨ad, hx2, h⟩ := h
        refine st_val (.pointer (some ad)) (wn rfl) (r_indexS (s := x2) (Try.runUnderlying42 _) (Try.sizeOf49 _) rfl rfl hx2) (by simp only [f0, f1, f2]; rfl) ?_
        refine st_val (.pointer (some (Addr.add ad 3))) (wn rfl) (r_field (Try.runUnderlying49 _) rfl (Try.sizeOf3 _) rfl rfl) (by simp only [f0, f1, f2]; rfl) ?_
        obtain ⟨x3, hx3, h⟩ := h
        refine st_val (.int .i64 x3) (wn rfl) (r_load1 (Try.isAgg3 _) rfl (Cells.one hx3)) (by simp only [f0, f1, f2]; rfl) ?_
        refine st_val (.int .i64 now) (wn rfl) rfl (by simp only [f0, f1, f2]; rfl) ?_
        refine st_val (.bool (decide (x3 < now))) (wn rfl) rfl (by simp only [f0, f1, f2]; rfl) ?_
        refine wpList_nil ?_
        refine then_normal ?_
        refine wp_cond_split (t := (decide (x3 < now))) rfl (fun hc1 => ?_) (fun hc1 => ?_)
        · replace h := h.1 hc1
          refine wp_region_lit ?_
          refine st_val (Sl.v gone) (wn rfl) rfl (by simp only [f0, f1, f2]; rfl) ?_
          refine st_val (.pointer (some b)) (wn rfl) rfl (by simp only [f0, f1, f2]; rfl) ?_
          refine st_val (.pointer (some b)) (wn rfl) rfl (by simp only [f0, f1, f2]; rfl) ?_
          refine st_val (.pointer (some (Addr.add b 0))) (wn rfl) (r_field (Try.runUnderlying64 _) rfl (Try.sizeOf42 _) rfl rfl) (by simp only [f0, f1, f2]; rfl) ?_
          obtain ⟨x4, hx4, h⟩ := h
          refine st_val (Sl.v x4) (wn rfl) (r_load1 (Try.isAgg42 _) rfl (Cells.one hx4)) (by simp only [f0, f1, f2]; rfl) ?_
          refine st_val (.int .i64 i) (wn rfl) rfl (by simp only [f0, f1, f2]; rfl) ?_
          obtain ⟨ad1, hx5, h⟩ := h
          refine st_val (.pointer (some ad1)) (wn rfl) (r_indexS (s := x4) (Try.runUnderlying42 _) (Try.sizeOf49 _) rfl rfl hx5) (by simp only [f0, f1, f2]; rfl) ?_
          refine st_val (.pointer (some (Addr.add ad1 0))) (wn rfl) (r_field (Try.runUnderlying49 _) rfl (Try.sizeOf3 _) rfl rfl) (by simp only [f0, f1, f2]; rfl) ?_
          obtain ⟨x5, hx6, h⟩ := h
          refine st_val (.int .i64 x5) (wn rfl) (r_load1 (Try.isAgg3 _) rfl (Cells.one hx6)) (by simp only [f0, f1, f2]; rfl) ?_
          obtain ⟨x6, w_2, hr, h⟩ := h
          refine st_one (wn rfl) ?_
          refine o_val (Sl.v x6) (r_buildSlice rfl hr) (by simp only [f0, f1, f2]; rfl) ?_
          obtain ⟨x7, w_3, hr1, h⟩ := h
          refine st_one (wn rfl) ?_
          refine o_val (Sl.v x7) (r_builtin_append rfl hr1) (by simp only [f0, f1, f2]; rfl) ?_
          refine st_val (Sl.v x7) (wn rfl) rfl (by simp only [f0, f1, f2]; rfl) ?_
          refine wpList_nil ?_
          refine block_normal ?_
          refine then_normal ?_
          exact ⟨_, _, (some_us rfl rfl rfl), h⟩
        · replace h := h.2 hc1
          refine wp_region_lit ?_
          refine st_val (Sl.v stay) (wn rfl) rfl (by simp only [f0, f1, f2]; rfl) ?_
          refine st_val (.pointer (some b)) (wn rfl) rfl (by simp only [f0, f1, f2]; rfl) ?_
          refine st_val (.pointer (some b)) (wn rfl) rfl (by simp only [f0, f1, f2]; rfl) ?_
          refine st_val (.pointer (some (Addr.add b 0))) (wn rfl) (r_field (Try.runUnderlying64 _) rfl (Try.sizeOf42 _) rfl rfl) (by simp only [f0, f1, f2]; rfl) ?_
          obtain ⟨x8, hx7, h⟩ := h
          refine st_val (Sl.v x8) (wn rfl) (r_load1 (Try.isAgg42 _) rfl (Cells.one hx7)) (by simp only [f0, f1, f2]; rfl) ?_
          refine st_val (.int .i64 i) (wn rfl) rfl (by simp only [f0, f1, f2]; rfl) ?_
          obtain ⟨ad2, hx8, h⟩ := h
          refine st_val (.pointer (some ad2)) (wn rfl) (r_indexS (s := x8) (Try.runUnderlying42 _) (Try.sizeOf49 _) rfl rfl hx8) (by simp only [f0, f1, f2]; rfl) ?_
          obtain ⟨x0, x11, x21, x31, hx9, h⟩ := h
          refine st_val (.agg #[.int .i64 x0, .int .i64 x11, Sl.v x21, .int .i64 x31]) (wn rfl) (r_loadN (Try.isAgg49 _) (Try.sizeOf49 _) rfl rfl hx9) (by simp only [f0, f1, f2]; rfl) ?_
          obtain ⟨x9, w_4, hr2, h⟩ := h
          refine st_one (wn rfl) ?_
          refine o_val (Sl.v x9) (r_buildSlice rfl hr2) (by simp only [f0, f1, f2]; rfl) ?_
          obtain ⟨x10, w_5, hr3, h⟩ := h
          refine st_one (wn rfl) ?_
          refine o_val (Sl.v x10) (r_builtin_append rfl hr3) (by simp only [f0, f1, f2]; rfl) ?_
          refine st_val (Sl.v x10) (wn rfl) rfl (by simp only [f0, f1, f2]; rfl) ?_
          refine wpList_nil ?_
          refine block_normal ?_
          refine then_normal ?_
          exact ⟨_, _, (some_us rfl rfl rfl), h⟩
    · replace h := h.2 hc
      refine wp_exit ?_
      refine then_exit ?_
      refine then_exit ?_
      refine block_hit ?_
      refine then_normal ?_
      refine wp_seq ?_
      refine wp_region_lit ?_
      refine st_val (.pointer (some b)) (wn rfl) rfl (by simp only [f0, f1, f2]; rfl) ?_
      refine st_val (Sl.v stay) (wn rfl) rfl (by simp only [f0, f1, f2]; rfl) ?_
      refine st_val (.pointer (some b)) (wn rfl) rfl (by simp only [f0, f1, f2]; rfl) ?_
      refine st_val (.pointer (some (Addr.add b 0))) (wn rfl) (r_field (Try.runUnderlying64 _) rfl (Try.sizeOf42 _) rfl rfl) (by simp only [f0, f1, f2]; rfl) ?_
      obtain ⟨bk, off, cells, ety, hx10, hx11, hx12, h⟩ := h
      refine st_one (wn rfl) ?_
      refine o_storeB (b := bk) (o := off) (vs := [Sl.v stay]) (Try.sizeOf42 _) (congrArg (fun z => Value.pointer (some z)) hx10) rfl rfl rfl hx11 hx12 rfl (f3 _ _) (fun w_6 hO hb => ?_)
      replace h := h w_6 hO hb
      refine wpList_nil ?_
      refine then_normal ?_
      refine wp_seq ?_
      refine wp_region_lit ?_
      refine st_val (Sl.v gone) (wn rfl) rfl (by simp only [f0, f1, f2]; rfl) ?_
      refine st_val (Sl.v gone) (wn rfl) rfl (by simp only [f0, f1, f2]; rfl) ?_
      refine wpList_nil ?_
      refine then_normal ?_
      refine wp_ret ?_
      exact end_ret (r_res1 (v := Sl.v gone) Try.results37 ⟨rfl, trivial⟩) rfl h

/-- what is to be shown of a call of (*session.Book).Open -/
def session_Book_Open_vc (b : Addr) (now : Int) (R : Value → World → Prop) (w : World) : Prop :=
  Calls Try.prog 30 #[.int .i64 now] w (fun e w_ => ∃ x1 : Bool, e = .returned (.bool x1) ∧
  (((!x1) = true →
  R (.tuple #[.int .i64 0, .int .i64 1]) w_) ∧
  ((!x1) = false →
  ∃ J_ : Bool → World → Prop, (∀ (t11 : Bool) (w_1 : World), J_ t11 w_1 →
  ((t11 = true →
  R (.tuple #[.int .i64 0, .int .i64 40]) w_1) ∧
  (t11 = false →
  ∃ x2 : Int, Cells w_1 (Addr.add b 1) [.int .i64 x2] ∧
  ∃ x3 : Int, Cells w_1 (Addr.add b 1) [.int .i64 x3] ∧
  ∃ (bk off : Nat) (cells : List Value) (ety : TypeId), Addr.add b 1 = (⟨bk, off, none⟩ : Addr) ∧ Blk w_1 bk ety cells ∧ off + 1 ≤ cells.length ∧ ∀ w_2 : World, Only [bk] w_1 w_2 → Blk w_2 bk ety (splice cells off [.int .i64 (IntKind.i64.wrap (x3 + 1))]) →
  ∃ x4 : Sl, Cells w_2 (Addr.add (Addr.add b 0) 0) [Sl.v x4] ∧
  ∃ x5 : Sl, ∃ w_3 : World, (Instr.buildSlice 42 1 #[(0, .agg #[.int .i64 x2, .int .i64 0, Sl.v Sl.nil, .int .i64 (IntKind.i64.wrap (now + 50))])]).run Try.prog w_2 = .ok (Sl.v x5) w_3 ∧
  ∃ x6 : Sl, ∃ w_4 : World, (Builtin.append_ #[42, 42] 42 #[Sl.v x4, Sl.v x5]).run Try.prog w_3 = .ok (Sl.v x6) w_4 ∧
  ∃ (bk1 off1 : Nat) (cells1 : List Value) (ety1 : TypeId), Addr.add (Addr.add b 0) 0 = (⟨bk1, off1, none⟩ : Addr) ∧ Blk w_4 bk1 ety1 cells1 ∧ off1 + 1 ≤ cells1.length ∧ ∀ w_5 : World, Only [bk1] w_4 w_5 → Blk w_5 bk1 ety1 (splice cells1 off1 [Sl.v x6]) →
  R (.tuple #[.int .i64 x2, .int .i64 0]) w_5))) ∧
  (∃ x7 : Sl, Cells w_ (Addr.add (Addr.add b 0) 0) [Sl.v x7] ∧
  (((decide ((↑(Sl.n x7) : Int) ≥ 8)) = true →
  J_ (decide ((↑(Sl.n x7) : Int) ≥ 8)) w_) ∧
  ((decide ((↑(Sl.n x7) : Int) ≥ 8)) = false →
  ∃ x8 : Int, Cells w_ (Addr.add b 1) [.int .i64 x8] ∧
  J_ (x8 == 9223372036854775807) w_))))))
theorem session_Book_Open_wp (b : Addr) (now : Int) (R : Value → World → Prop) (w : World) (h : session_Book_Open_vc b now R w) :
    Calls Try.prog 12 #[.pointer (some b), .int .i64 now] w fun e w' => ∃ v, e = .returned v ∧ R v w' := by
  unfold session_Book_Open_vc at h
  refine calls_of (k := 49) Try.func12 rfl Try.ntmps12 rfl rfl ?_
  simp only [List.replicate, List.cons_append, List.nil_append]
  refine wp_seq ?_
  refine wp_region_lit ?_
  refine st_val (.int .i64 0) (wn rfl) rfl (by simp only [f0, f1, f2]; rfl) ?_
  refine st_val (.int .i64 0) (wn rfl) rfl (by simp only [f0, f1, f2]; rfl) ?_
  refine wpList_nil ?_
  refine then_normal ?_
  refine wp_seq ?_
  refine wp_block ?_
  refine wp_seq ?_
  refine wp_region_lit ?_
  refine st_val (.int .i64 now) (wn rfl) rfl (by simp only [f0, f1, f2]; rfl) ?_
  refine st_one (wn rfl) ?_
  refine o_enter (args := #[.int .i64 now]) (r_enter Try.call30 rfl) (h.mono ?_)
  clear h
  rintro _ w_ ⟨x1, rfl, h⟩
  refine ⟨_, _, rfl, (by simp only [f0, f1, f2]; rfl), ?_⟩
  refine st_val (.bool (!x1)) (wn rfl) rfl (by simp only [f0, f1, f2]; rfl) ?_
  refine st_val (.bool (!x1)) (wn rfl) rfl (by simp only [f0, f1, f2]; rfl) ?_
  refine wpList_nil ?_
  refine then_normal ?_
  refine wp_cond_split (t := (!x1)) rfl (fun hc => ?_) (fun hc => ?_)
  · replace h := h.1 hc
    refine wp_seq ?_
    refine wp_region_lit ?_
    refine st_val (.int .i64 0) (wn rfl) rfl (by simp only [f0, f1, f2]; rfl) ?_
    refine st_val (.int .i64 1) (wn rfl) rfl (by simp only [f0, f1, f2]; rfl) ?_
    refine wpList_nil ?_
    refine then_normal ?_
    refine wp_ret ?_
    refine block_ret ?_
    refine then_ret ?_
    exact end_ret (r_resN (vs := [.int .i64 0, .int .i64 1]) Try.results12 rfl ⟨rfl, rfl, trivial⟩) rfl h
  · replace h := h.2 hc
    obtain ⟨J_, hJ, h⟩ := h
    refine wp_seq_join (fun a' w' => ∃ t11 : Bool, (∃ us : Nat → Value, a' = (⟨(fillin us 0 (some (.pointer (some b)) :: some (.int .i64 now) :: some undef :: some undef :: some (.int .i64 0) :: some (.int .i64 0) :: some undef :: some (.bool (!x1)) :: some (.int .i64 now) :: some (.bool x1) :: some (.bool (!x1)) :: some (.bool t11) :: none :: none :: none :: none :: none :: none :: none :: none :: none :: none :: none :: none :: some undef :: some undef :: some undef :: some undef :: some undef :: some undef :: some undef :: some undef :: some undef :: some undef :: some undef :: some undef :: some undef :: some undef :: some undef :: some undef :: some undef :: some undef :: some undef :: some undef :: some undef :: some undef :: some undef :: some undef :: some undef :: some undef :: some undef :: [])).toArray, []⟩ : Act)) ∧ J_ t11 w') ?_ ?_
    · clear h
      rintro a0 w_1 ⟨t11, ⟨us, hF⟩, h⟩
      simp only [fillin, Nat.reduceAdd] at hF
      subst hF
      replace h := hJ _ _ h
      refine wp_cond_split (t := t11) rfl (fun hc1 => ?_) (fun hc1 => ?_)
      · replace h := h.1 hc1
        refine wp_seq ?_
        refine wp_region_lit ?_
        refine st_val (.int .i64 0) (wn rfl) rfl (by simp only [f0, f1, f2]; rfl) ?_
        refine st_val (.int .i64 40) (wn rfl) rfl (by simp only [f0, f1, f2]; rfl) ?_
        refine wpList_nil ?_
        refine then_normal ?_
        refine wp_ret ?_
        refine block_ret ?_
        refine then_ret ?_
        exact end_ret (r_resN (vs := [.int .i64 0, .int .i64 40]) Try.results12 rfl ⟨rfl, rfl, trivial⟩) rfl h
      · replace h := h.2 hc1
        refine wp_skip ?_
        refine block_normal ?_
        refine then_normal ?_
        refine wp_seq ?_
        refine wp_region_lit ?_
        refine st_val (.pointer (some b)) (wn rfl) rfl (by simp only [f0, f1, f2]; rfl) ?_
        refine st_val (.pointer (some b)) (wn rfl) rfl (by simp only [f0, f1, f2]; rfl) ?_
        refine st_val (.pointer (some (Addr.add b 1))) (wn rfl) (r_field (Try.runUnderlying47 _) rfl (Try.sizeOf3 _) rfl rfl) (by simp only [f0, f1, f2]; rfl) ?_
        obtain ⟨x2, hx, h⟩ := h
        refine st_val (.int .i64 x2) (wn rfl) (r_load1 (Try.isAgg3 _) rfl (Cells.one hx)) (by simp only [f0, f1, f2]; rfl) ?_
        refine st_val (.int .i64 x2) (wn rfl) rfl (by simp only [f0, f1, f2]; rfl) ?_
        refine wpList_nil ?_
        refine then_normal ?_
        refine wp_seq ?_
        refine wp_region_lit ?_
        refine st_val (.pointer (some b)) (wn rfl) rfl (by simp only [f0, f1, f2]; rfl) ?_
        refine st_val (.pointer (some b)) (wn rfl) rfl (by simp only [f0, f1, f2]; rfl) ?_
        refine st_val (.pointer (some (Addr.add b 1))) (wn rfl) (r_field (Try.runUnderlying47 _) rfl (Try.sizeOf3 _) rfl rfl) (by simp only [f0, f1, f2]; rfl) ?_
        obtain ⟨x3, hx1, h⟩ := h
        refine st_val (.int .i64 x3) (wn rfl) (r_load1 (Try.isAgg3 _) rfl (Cells.one hx1)) (by simp only [f0, f1, f2]; rfl) ?_
        refine st_val (.int .i64 (IntKind.i64.wrap (x3 + 1))) (wn rfl) rfl (by simp only [f0, f1, f2]; rfl) ?_
        refine st_val (.pointer (some b)) (wn rfl) rfl (by simp only [f0, f1, f2]; rfl) ?_
        refine st_val (.pointer (some (Addr.add b 1))) (wn rfl) (r_field (Try.runUnderlying47 _) rfl (Try.sizeOf3 _) rfl rfl) (by simp only [f0, f1, f2]; rfl) ?_
        obtain ⟨bk, off, cells, ety, hx2, hx3, hx4, h⟩ := h
        refine st_one (wn rfl) ?_
        refine o_storeB (b := bk) (o := off) (vs := [.int .i64 (IntKind.i64.wrap (x3 + 1))]) (Try.sizeOf3 _) (congrArg (fun z => Value.pointer (some z)) hx2) rfl rfl rfl hx3 hx4 rfl (f3 _ _) (fun w_2 hO hb => ?_)
        replace h := h w_2 hO hb
        refine wpList_nil ?_
        refine then_normal ?_
        refine wp_seq ?_
        refine wp_region_lit ?_
        refine st_val (.pointer (some b)) (wn rfl) rfl (by simp only [f0, f1, f2]; rfl) ?_
        refine st_val (.pointer (some b)) (wn rfl) rfl (by simp only [f0, f1, f2]; rfl) ?_
        refine st_val (.pointer (some b)) (wn rfl) rfl (by simp only [f0, f1, f2]; rfl) ?_
        refine st_val (.pointer (some (Addr.add b 0))) (wn rfl) (r_field (Try.runUnderlying47 _) rfl (Try.sizeOf45 _) rfl rfl) (by simp only [f0, f1, f2]; rfl) ?_
        refine st_val (.pointer (some (Addr.add (Addr.add b 0) 0))) (wn rfl) (r_field (Try.runUnderlying45 _) rfl (Try.sizeOf42 _) rfl rfl) (by simp only [f0, f1, f2]; rfl) ?_
        obtain ⟨x4, hx5, h⟩ := h
        refine st_val (Sl.v x4) (wn rfl) (r_load1 (Try.isAgg42 _) rfl (Cells.one hx5)) (by simp only [f0, f1, f2]; rfl) ?_
        refine st_val (.int .i64 x2) (wn rfl) rfl (by simp only [f0, f1, f2]; rfl) ?_
        refine st_val (.int .i64 now) (wn rfl) rfl (by simp only [f0, f1, f2]; rfl) ?_
        refine st_val (.int .i64 (IntKind.i64.wrap (now + 50))) (wn rfl) rfl (by simp only [f0, f1, f2]; rfl) ?_
        refine st_val (.agg #[.int .i64 x2, .int .i64 0, Sl.v Sl.nil, .int .i64 (IntKind.i64.wrap (now + 50))]) (wn rfl) (r_build (ps' := [(0, .int .i64 x2), (3, .int .i64 (IntKind.i64.wrap (now + 50)))]) rfl (by kernel_rfl)) (by simp only [f0, f1, f2]; rfl) ?_
        obtain ⟨x5, w_3, hr, h⟩ := h
        refine st_one (wn rfl) ?_
        refine o_val (Sl.v x5) (r_buildSlice rfl hr) (by simp only [f0, f1, f2]; rfl) ?_
        obtain ⟨x6, w_4, hr1, h⟩ := h
        refine st_one (wn rfl) ?_
        refine o_val (Sl.v x6) (r_builtin_append rfl hr1) (by simp only [f0, f1, f2]; rfl) ?_
        refine st_val (.pointer (some b)) (wn rfl) rfl (by simp only [f0, f1, f2]; rfl) ?_
        refine st_val (.pointer (some (Addr.add b 0))) (wn rfl) (r_field (Try.runUnderlying47 _) rfl (Try.sizeOf45 _) rfl rfl) (by simp only [f0, f1, f2]; rfl) ?_
        refine st_val (.pointer (some (Addr.add (Addr.add b 0) 0))) (wn rfl) (r_field (Try.runUnderlying45 _) rfl (Try.sizeOf42 _) rfl rfl) (by simp only [f0, f1, f2]; rfl) ?_
        obtain ⟨bk1, off1, cells1, ety1, hx6, hx7, hx8, h⟩ := h
        refine st_one (wn rfl) ?_
        refine o_storeB (b := bk1) (o := off1) (vs := [Sl.v x6]) (Try.sizeOf42 _) (congrArg (fun z => Value.pointer (some z)) hx6) rfl rfl rfl hx7 hx8 rfl (f3 _ _) (fun w_5 hO1 hb1 => ?_)
        replace h := h w_5 hO1 hb1
        refine wpList_nil ?_
        refine then_normal ?_
        refine wp_seq ?_
        refine wp_region_lit ?_
        refine st_val (.int .i64 x2) (wn rfl) rfl (by simp only [f0, f1, f2]; rfl) ?_
        refine st_val (.int .i64 x2) (wn rfl) rfl (by simp only [f0, f1, f2]; rfl) ?_
        refine st_val (.int .i64 0) (wn rfl) rfl (by simp only [f0, f1, f2]; rfl) ?_
        refine wpList_nil ?_
        refine then_normal ?_
        refine wp_ret ?_
        exact end_ret (r_resN (vs := [.int .i64 x2, .int .i64 0]) Try.results12 rfl ⟨rfl, rfl, trivial⟩) rfl h
    · clear hJ
      refine wp_seq ?_
      refine wp_region_lit ?_
      refine st_val (.pointer (some b)) (wn rfl) rfl (by simp only [f0, f1, f2]; rfl) ?_
      refine st_val (.pointer (some b)) (wn rfl) rfl (by simp only [f0, f1, f2]; rfl) ?_
      refine st_val (.pointer (some (Addr.add b 0))) (wn rfl) (r_field (Try.runUnderlying47 _) rfl (Try.sizeOf45 _) rfl rfl) (by simp only [f0, f1, f2]; rfl) ?_
      refine st_val (.pointer (some (Addr.add (Addr.add b 0) 0))) (wn rfl) (r_field (Try.runUnderlying45 _) rfl (Try.sizeOf42 _) rfl rfl) (by simp only [f0, f1, f2]; rfl) ?_
      obtain ⟨x7, hx9, h⟩ := h
      refine st_val (Sl.v x7) (wn rfl) (r_load1 (Try.isAgg42 _) rfl (Cells.one hx9)) (by simp only [f0, f1, f2]; rfl) ?_
      refine st_val (.int .i64 (↑(Sl.n x7) : Int)) (wn rfl) (r_len (s := x7) (Try.runUnderlying42 _) rfl) (by simp only [f0, f1, f2]; rfl) ?_
      refine st_val (.bool (decide ((↑(Sl.n x7) : Int) ≥ 8))) (wn rfl) rfl (by simp only [f0, f1, f2]; rfl) ?_
      refine st_val (.bool (decide ((↑(Sl.n x7) : Int) ≥ 8))) (wn rfl) rfl (by simp only [f0, f1, f2]; rfl) ?_
      refine wpList_nil ?_
      refine then_normal ?_
      refine wp_cond_split (t := (decide ((↑(Sl.n x7) : Int) ≥ 8))) rfl (fun hc2 => ?_) (fun hc2 => ?_)
      · replace h := h.1 hc2
        refine wp_skip ?_
        refine then_normal ?_
        exact ⟨_, (some_us rfl rfl rfl), h⟩
      · replace h := h.2 hc2
        refine wp_region_lit ?_
        refine st_val (.pointer (some b)) (wn rfl) rfl (by simp only [f0, f1, f2]; rfl) ?_
        refine st_val (.pointer (some b)) (wn rfl) rfl (by simp only [f0, f1, f2]; rfl) ?_
        refine st_val (.pointer (some (Addr.add b 1))) (wn rfl) (r_field (Try.runUnderlying47 _) rfl (Try.sizeOf3 _) rfl rfl) (by simp only [f0, f1, f2]; rfl) ?_
        obtain ⟨x8, hx10, h⟩ := h
        refine st_val (.int .i64 x8) (wn rfl) (r_load1 (Try.isAgg3 _) rfl (Cells.one hx10)) (by simp only [f0, f1, f2]; rfl) ?_
        refine st_val (.bool (x8 == 9223372036854775807)) (wn rfl) rfl (by simp only [f0, f1, f2]; rfl) ?_
        refine st_val (.bool (x8 == 9223372036854775807)) (wn rfl) rfl (by simp only [f0, f1, f2]; rfl) ?_
        refine wpList_nil ?_
        refine then_normal ?_
        exact ⟨_, (some_us rfl rfl rfl), h⟩

/-- what is to be shown of a call of (*pavaneref19.Book).Ask -/
def pavaneref19_Book_Ask_vc (b : Addr) (id_ : Int) (seq : Int) (R : Value → World → Prop) (w : World) : Prop :=
  Calls Try.prog 43 #[.pointer (some b), .int .i64 id_] w (fun e w_ => ∃ x1 : Int, e = .returned (.int .i64 x1) ∧
  (((decide (x1 < 0)) = true →
  R (.tuple #[.int .i64 4, Sl.v Sl.nil]) w_) ∧
  ((decide (x1 < 0)) = false →
  ∃ x2 : Sl, Cells w_ (Addr.add b 0) [Sl.v x2] ∧
  ∃ ad : Addr, SlAt x2 x1 4 ad ∧
  ∃ x3 : Int, Cells w_ (Addr.add ad 1) [.int .i64 x3] ∧
  ((((decide (seq < x3)) || (decide (seq < 1))) = true →
  R (.tuple #[.int .i64 3, Sl.v Sl.nil]) w_) ∧
  (((decide (seq < x3)) || (decide (seq < 1))) = false →
  ∃ x4 : Sl, Cells w_ (Addr.add b 0) [Sl.v x4] ∧
  ∃ ad1 : Addr, SlAt x4 x1 4 ad1 ∧
  ∃ x5 : Int, Cells w_ (Addr.add ad1 1) [.int .i64 x5] ∧
  (((seq == x5) = true →
  ∃ x6 : Sl, ∃ w_1 : World, (Instr.buildSlice 27 0 #[]).run Try.prog w_ = .ok (Sl.v x6) w_1 ∧
  ∃ x7 : Sl, Cells w_1 (Addr.add b 0) [Sl.v x7] ∧
  ∃ ad2 : Addr, SlAt x7 x1 4 ad2 ∧
  ∃ x8 : Sl, Cells w_1 (Addr.add ad2 2) [Sl.v x8] ∧
  ∃ x9 : Sl, ∃ w_2 : World, (Builtin.append_ #[27, 27] 27 #[Sl.v x6, Sl.v x8]).run Try.prog w_1 = .ok (Sl.v x9) w_2 ∧
  R (.tuple #[.int .i64 2, Sl.v x9]) w_2) ∧
  ((seq == x5) = false →
  R (.tuple #[.int .i64 1, Sl.v Sl.nil]) w_)))))))
theorem pavaneref19_Book_Ask_wp (b : Addr) (id_ : Int) (seq : Int) (R : Value → World → Prop) (w : World) (h : pavaneref19_Book_Ask_vc b id_ seq R w) :
    Calls Try.prog 35 #[.pointer (some b), .int .i64 id_, .int .i64 seq] w fun e w' => ∃ v, e = .returned v ∧ R v w' := by
  unfold pavaneref19_Book_Ask_vc at h
  refine calls_of (k := 45) Try.func35 rfl Try.ntmps35 rfl rfl ?_
  simp only [List.replicate, List.cons_append, List.nil_append]
  refine wp_seq ?_
  refine wp_region_lit ?_
  refine st_val (.int .i64 0) (wn rfl) rfl (by simp only [f0, f1, f2]; rfl) ?_
  refine st_val (Sl.v Sl.nil) (wn rfl) rfl (by simp only [f0, f1, f2]; rfl) ?_
  refine wpList_nil ?_
  refine then_normal ?_
  refine wp_seq ?_
  refine wp_region_lit ?_
  refine st_val (.pointer (some b)) (wn rfl) rfl (by simp only [f0, f1, f2]; rfl) ?_
  refine st_val (.int .i64 id_) (wn rfl) rfl (by simp only [f0, f1, f2]; rfl) ?_
  refine st_one (wn rfl) ?_
  refine o_enter (args := #[.pointer (some b), .int .i64 id_]) (r_enter Try.call43 rfl) (h.mono ?_)
  clear h
  rintro _ w_ ⟨x1, rfl, h⟩
  refine ⟨_, _, rfl, (by simp only [f0, f1, f2]; rfl), ?_⟩
  refine st_val (.int .i64 x1) (wn rfl) rfl (by simp only [f0, f1, f2]; rfl) ?_
  refine wpList_nil ?_
  refine then_normal ?_
  refine wp_seq ?_
  refine wp_seq ?_
  refine wp_region_lit ?_
  refine st_val (.int .i64 x1) (wn rfl) rfl (by simp only [f0, f1, f2]; rfl) ?_
  refine st_val (.bool (decide (x1 < 0))) (wn rfl) rfl (by simp only [f0, f1, f2]; rfl) ?_
  refine wpList_nil ?_
  refine then_normal ?_
  refine wp_cond_split (t := (decide (x1 < 0))) rfl (fun hc => ?_) (fun hc => ?_)
  · replace h := h.1 hc
    refine wp_seq ?_
    refine wp_region_lit ?_
    refine st_val (.int .i64 4) (wn rfl) rfl (by simp only [f0, f1, f2]; rfl) ?_
    refine st_val (Sl.v Sl.nil) (wn rfl) rfl (by simp only [f0, f1, f2]; rfl) ?_
    refine wpList_nil ?_
    refine then_normal ?_
    refine wp_ret ?_
    refine then_ret ?_
    exact end_ret (r_resN (vs := [.int .i64 4, Sl.v Sl.nil]) Try.results35 rfl ⟨rfl, rfl, trivial⟩) rfl h
  · replace h := h.2 hc
    refine wp_skip ?_
    refine then_normal ?_
    refine wp_seq ?_
    refine wp_seq ?_
    obtain ⟨x2, hx, h⟩ := h
    obtain ⟨ad, hx1, h⟩ := h
    obtain ⟨x3, hx2, h⟩ := h
    refine wp_region_lit ?_
    refine st_val (.int .i64 seq) (wn rfl) rfl (by simp only [f0, f1, f2]; rfl) ?_
    refine st_val (.pointer (some b)) (wn rfl) rfl (by simp only [f0, f1, f2]; rfl) ?_
    refine st_val (.pointer (some b)) (wn rfl) rfl (by simp only [f0, f1, f2]; rfl) ?_
    refine st_val (.pointer (some (Addr.add b 0))) (wn rfl) (r_field (Try.runUnderlying64 _) rfl (Try.sizeOf42 _) rfl rfl) (by simp only [f0, f1, f2]; rfl) ?_
    refine st_val (Sl.v x2) (wn rfl) (r_load1 (Try.isAgg42 _) rfl (Cells.one hx)) (by simp only [f0, f1, f2]; rfl) ?_
    refine st_val (.int .i64 x1) (wn rfl) rfl (by simp only [f0, f1, f2]; rfl) ?_
    refine st_val (.pointer (some ad)) (wn rfl) (r_indexS (s := x2) (Try.runUnderlying42 _) (Try.sizeOf49 _) rfl rfl hx1) (by simp only [f0, f1, f2]; rfl) ?_
    refine st_val (.pointer (some (Addr.add ad 1))) (wn rfl) (r_field (Try.runUnderlying49 _) rfl (Try.sizeOf3 _) rfl rfl) (by simp only [f0, f1, f2]; rfl) ?_
    refine st_val (.int .i64 x3) (wn rfl) (r_load1 (Try.isAgg3 _) rfl (Cells.one hx2)) (by simp only [f0, f1, f2]; rfl) ?_
    refine st_val (.bool (decide (seq < x3))) (wn rfl) rfl (by simp only [f0, f1, f2]; rfl) ?_
    refine st_val (.bool (decide (seq < x3))) (wn rfl) rfl (by simp only [f0, f1, f2]; rfl) ?_
    refine st_cut 3 (fun a' w' => (∃ us : Nat → Value, a' = (⟨(fillin us 0 (some (.pointer (some b)) :: some (.int .i64 id_) :: some (.int .i64 seq) :: some undef :: some undef :: some undef :: some (.int .i64 0) :: some (Sl.v Sl.nil) :: some (.int .i64 x1) :: some (.pointer (some b)) :: some (.int .i64 id_) :: some (.int .i64 x1) :: some (.int .i64 x1) :: some (.bool (decide (x1 < 0))) :: some (.int .i64 seq) :: some (.pointer (some b)) :: some (.pointer (some b)) :: some (.pointer (some (Addr.add b 0))) :: some (Sl.v x2) :: some (.int .i64 x1) :: some (.pointer (some ad)) :: some (.pointer (some (Addr.add ad 1))) :: some (.int .i64 x3) :: some (.bool (decide (seq < x3))) :: some (.bool (decide (seq < x3))) :: none :: none :: some (.bool ((decide (seq < x3)) || (decide (seq < 1)))) :: some undef :: some undef :: some undef :: some undef :: some undef :: some undef :: some undef :: some undef :: some undef :: some undef :: some undef :: some undef :: some undef :: some undef :: some undef :: some undef :: some undef :: some undef :: some undef :: some undef :: [])).toArray, []⟩ : Act)) ∧ w_ = w') ?_ ?_
    · simp only [List.take_succ_cons, List.take_zero]
      rcases Bool.eq_false_or_eq_true (decide (seq < x3)) with hg | hg
      · refine st_no (wt rfl rfl rfl (congrArg (fun z => some (Value.bool z)) hg) rfl) (by simp only [f0, f1, f2]; rfl) ?_
        refine st_no (wt rfl rfl rfl (congrArg (fun z => some (Value.bool z)) hg) rfl) (by simp only [f0, f1, f2]; rfl) ?_
        refine st_val (.bool true) (wn rfl) (r_pickT (congrArg Value.bool hg) rfl) (by simp only [f0, f1, f2]; rfl) ?_
        refine wpList_nil ?_
        exact then_normal ⟨some_us (by simp only [masked, hg, Bool.true_and, Bool.false_and, Bool.true_or, Bool.false_or, cond_true, cond_false]) rfl rfl, rfl⟩
      · refine st_val (.int .i64 seq) (wt rfl rfl rfl (congrArg (fun z => some (Value.bool z)) hg) rfl) rfl (by simp only [f0, f1, f2]; rfl) ?_
        refine st_val (.bool (decide (seq < 1))) (wt rfl rfl rfl (congrArg (fun z => some (Value.bool z)) hg) rfl) rfl (by simp only [f0, f1, f2]; rfl) ?_
        refine st_val (.bool (decide (seq < 1))) (wn rfl) (r_pickF (congrArg Value.bool hg) rfl) (by simp only [f0, f1, f2]; rfl) ?_
        refine wpList_nil ?_
        exact then_normal ⟨some_us (by simp only [masked, hg, Bool.true_and, Bool.false_and, Bool.true_or, Bool.false_or, cond_true, cond_false]) rfl rfl, rfl⟩
    rintro a0 _ ⟨⟨us, hF⟩, rfl⟩
    simp only [fillin, Nat.reduceAdd] at hF
    subst hF
    simp only [List.drop_succ_cons, List.drop_zero]
    refine wpList_nil ?_
    refine then_normal ?_
    refine wp_cond_split (t := ((decide (seq < x3)) || (decide (seq < 1)))) rfl (fun hc1 => ?_) (fun hc1 => ?_)
    · replace h := h.1 hc1
      refine wp_seq ?_
      refine wp_region_lit ?_
      refine st_val (.int .i64 3) (wn rfl) rfl (by simp only [f0, f1, f2]; rfl) ?_
      refine st_val (Sl.v Sl.nil) (wn rfl) rfl (by simp only [f0, f1, f2]; rfl) ?_
      refine wpList_nil ?_
      refine then_normal ?_
      refine wp_ret ?_
      refine then_ret ?_
      exact end_ret (r_resN (vs := [.int .i64 3, Sl.v Sl.nil]) Try.results35 rfl ⟨rfl, rfl, trivial⟩) rfl h
    · replace h := h.2 hc1
      refine wp_skip ?_
      refine then_normal ?_
      refine wp_seq ?_
      refine wp_seq ?_
      refine wp_region_lit ?_
      refine st_val (.int .i64 seq) (wn rfl) rfl (by simp only [f0, f1, f2]; rfl) ?_
      refine st_val (.pointer (some b)) (wn rfl) rfl (by simp only [f0, f1, f2]; rfl) ?_
      refine st_val (.pointer (some b)) (wn rfl) rfl (by simp only [f0, f1, f2]; rfl) ?_
      refine st_val (.pointer (some (Addr.add b 0))) (wn rfl) (r_field (Try.runUnderlying64 _) rfl (Try.sizeOf42 _) rfl rfl) (by simp only [f0, f1, f2]; rfl) ?_
      obtain ⟨x4, hx3, h⟩ := h
      refine st_val (Sl.v x4) (wn rfl) (r_load1 (Try.isAgg42 _) rfl (Cells.one hx3)) (by simp only [f0, f1, f2]; rfl) ?_
      refine st_val (.int .i64 x1) (wn rfl) rfl (by simp only [f0, f1, f2]; rfl) ?_
      obtain ⟨ad1, hx4, h⟩ := h
      refine st_val (.pointer (some ad1)) (wn rfl) (r_indexS (s := x4) (Try.runUnderlying42 _) (Try.sizeOf49 _) rfl rfl hx4) (by simp only [f0, f1, f2]; rfl) ?_
      refine st_val (.pointer (some (Addr.add ad1 1))) (wn rfl) (r_field (Try.runUnderlying49 _) rfl (Try.sizeOf3 _) rfl rfl) (by simp only [f0, f1, f2]; rfl) ?_
      obtain ⟨x5, hx5, h⟩ := h
      refine st_val (.int .i64 x5) (wn rfl) (r_load1 (Try.isAgg3 _) rfl (Cells.one hx5)) (by simp only [f0, f1, f2]; rfl) ?_
      refine st_val (.bool (seq == x5)) (wn rfl) rfl (by simp only [f0, f1, f2]; rfl) ?_
      refine wpList_nil ?_
      refine then_normal ?_
      refine wp_cond_split (t := (seq == x5)) rfl (fun hc2 => ?_) (fun hc2 => ?_)
      · replace h := h.1 hc2
        refine wp_seq ?_
        refine wp_region_lit ?_
        obtain ⟨x6, w_1, hr, h⟩ := h
        refine st_one (wn rfl) ?_
        refine o_val (Sl.v x6) (r_buildSlice rfl hr) (by simp only [f0, f1, f2]; rfl) ?_
        refine st_val (.pointer (some b)) (wn rfl) rfl (by simp only [f0, f1, f2]; rfl) ?_
        refine st_val (.pointer (some b)) (wn rfl) rfl (by simp only [f0, f1, f2]; rfl) ?_
        refine st_val (.pointer (some (Addr.add b 0))) (wn rfl) (r_field (Try.runUnderlying64 _) rfl (Try.sizeOf42 _) rfl rfl) (by simp only [f0, f1, f2]; rfl) ?_
        obtain ⟨x7, hx6, h⟩ := h
        refine st_val (Sl.v x7) (wn rfl) (r_load1 (Try.isAgg42 _) rfl (Cells.one hx6)) (by simp only [f0, f1, f2]; rfl) ?_
        refine st_val (.int .i64 x1) (wn rfl) rfl (by simp only [f0, f1, f2]; rfl) ?_
        obtain ⟨ad2, hx7, h⟩ := h
        refine st_val (.pointer (some ad2)) (wn rfl) (r_indexS (s := x7) (Try.runUnderlying42 _) (Try.sizeOf49 _) rfl rfl hx7) (by simp only [f0, f1, f2]; rfl) ?_
        refine st_val (.pointer (some (Addr.add ad2 2))) (wn rfl) (r_field (Try.runUnderlying49 _) rfl (Try.sizeOf27 _) rfl rfl) (by simp only [f0, f1, f2]; rfl) ?_
        obtain ⟨x8, hx8, h⟩ := h
        refine st_val (Sl.v x8) (wn rfl) (r_load1 (Try.isAgg27 _) rfl (Cells.one hx8)) (by simp only [f0, f1, f2]; rfl) ?_
        obtain ⟨x9, w_2, hr1, h⟩ := h
        refine st_one (wn rfl) ?_
        refine o_val (Sl.v x9) (r_builtin_append rfl hr1) (by simp only [f0, f1, f2]; rfl) ?_
        refine st_val (.int .i64 2) (wn rfl) rfl (by simp only [f0, f1, f2]; rfl) ?_
        refine st_val (Sl.v x9) (wn rfl) rfl (by simp only [f0, f1, f2]; rfl) ?_
        refine wpList_nil ?_
        refine then_normal ?_
        refine wp_ret ?_
        refine then_ret ?_
        exact end_ret (r_resN (vs := [.int .i64 2, Sl.v x9]) Try.results35 rfl ⟨rfl, rfl, trivial⟩) rfl h
      · replace h := h.2 hc2
        refine wp_skip ?_
        refine then_normal ?_
        refine wp_seq ?_
        refine wp_region_lit ?_
        refine st_val (.int .i64 1) (wn rfl) rfl (by simp only [f0, f1, f2]; rfl) ?_
        refine st_val (Sl.v Sl.nil) (wn rfl) rfl (by simp only [f0, f1, f2]; rfl) ?_
        refine wpList_nil ?_
        refine then_normal ?_
        refine wp_ret ?_
        exact end_ret (r_resN (vs := [.int .i64 1, Sl.v Sl.nil]) Try.results35 rfl ⟨rfl, rfl, trivial⟩) rfl h

/-- what is to be shown of a call of (*session.Book).Ask -/
def session_Book_Ask_vc (b : Addr) (id_ : Int) (seq : Int) (R : Value → World → Prop) (w : World) : Prop :=
  Calls Try.prog 26 #[.pointer (some (Addr.add b 0)), .int .i64 id_] w (fun e w_ => ∃ x0 : Int, ∃ x1 : Bool, e = .returned (.tuple #[.int .i64 x0, .bool x1]) ∧
  (((!x1) = true →
  R (.tuple #[.int .i64 4, Sl.v Sl.nil]) w_) ∧
  ((!x1) = false →
  ∃ x2 : Sl, Cells w_ (Addr.add (Addr.add b 0) 0) [Sl.v x2] ∧
  ∃ ad : Addr, SlAt x2 x0 4 ad ∧
  ∃ x01 : Int, ∃ x11 : Int, ∃ x21 : Sl, ∃ x3 : Int, Cells w_ ad [.int .i64 x01, .int .i64 x11, Sl.v x21, .int .i64 x3] ∧
  (((decide (seq < (if 1 > x11 then 1 else x11))) = true →
  ∀ (b1 : Nat) (w_2 : World), w_.heap.size ≤ b1 → b1 < w_2.heap.size → Only [] w_ w_2 →
  R (.tuple #[.int .i64 3, Sl.v Sl.nil]) w_2) ∧
  ((decide (seq < (if 1 > x11 then 1 else x11))) = false →
  (((seq == x11) = true →
  ∀ (b1 : Nat) (w_2 : World), w_.heap.size ≤ b1 → b1 < w_2.heap.size → Only [] w_ w_2 →
  Calls Try.prog 27 #[Sl.v x21] w_2 (fun e w_3 => ∃ x4 : Sl, e = .returned (Sl.v x4) ∧ Same [b1] w_2 w_3 ∧
  R (.tuple #[.int .i64 2, Sl.v x4]) w_3)) ∧
  ((seq == x11) = false →
  ∀ (b1 : Nat) (w_2 : World), w_.heap.size ≤ b1 → b1 < w_2.heap.size → Only [] w_ w_2 →
  R (.tuple #[.int .i64 1, Sl.v Sl.nil]) w_2)))))))
theorem session_Book_Ask_wp (b : Addr) (id_ : Int) (seq : Int) (R : Value → World → Prop) (w : World) (h : session_Book_Ask_vc b id_ seq R w) :
    Calls Try.prog 10 #[.pointer (some b), .int .i64 id_, .int .i64 seq] w fun e w' => ∃ v, e = .returned v ∧ R v w' := by
  unfold session_Book_Ask_vc at h
  refine calls_of (k := 40) Try.func10 rfl Try.ntmps10 rfl rfl ?_
  simp only [List.replicate, List.cons_append, List.nil_append]
  refine wp_seq ?_
  refine wp_region_lit ?_
  refine st_val (.int .i64 0) (wn rfl) rfl (by simp only [f0, f1, f2]; rfl) ?_
  refine st_val (Sl.v Sl.nil) (wn rfl) rfl (by simp only [f0, f1, f2]; rfl) ?_
  refine wpList_nil ?_
  refine then_normal ?_
  refine wp_seq ?_
  refine wp_region_lit ?_
  refine st_val (.pointer (some b)) (wn rfl) rfl (by simp only [f0, f1, f2]; rfl) ?_
  refine st_val (.pointer (some b)) (wn rfl) rfl (by simp only [f0, f1, f2]; rfl) ?_
  refine st_val (.pointer (some (Addr.add b 0))) (wn rfl) (r_field (Try.runUnderlying47 _) rfl (Try.sizeOf45 _) rfl rfl) (by simp only [f0, f1, f2]; rfl) ?_
  refine st_val (.int .i64 id_) (wn rfl) rfl (by simp only [f0, f1, f2]; rfl) ?_
  refine st_one (wn rfl) ?_
  refine o_enter (args := #[.pointer (some (Addr.add b 0)), .int .i64 id_]) (r_enter Try.call26 rfl) (h.mono ?_)
  clear h
  rintro _ w_ ⟨x0, x1, rfl, h⟩
  refine ⟨_, _, rfl, (by simp only [f0, f1, f2]; rfl), ?_⟩
  refine st_val (.tuple #[.int .i64 x0, .bool x1]) (wn rfl) rfl (by simp only [f0, f1, f2]; rfl) ?_
  refine st_val (.int .i64 x0) (wn rfl) rfl (by simp only [f0, f1, f2]; rfl) ?_
  refine st_val (.bool x1) (wn rfl) rfl (by simp only [f0, f1, f2]; rfl) ?_
  refine st_val (.int .i64 x0) (wn rfl) rfl (by simp only [f0, f1, f2]; rfl) ?_
  refine st_val (.bool x1) (wn rfl) rfl (by simp only [f0, f1, f2]; rfl) ?_
  refine wpList_nil ?_
  refine then_normal ?_
  refine wp_seq ?_
  refine wp_seq ?_
  refine wp_region_lit ?_
  refine st_val (.bool x1) (wn rfl) rfl (by simp only [f0, f1, f2]; rfl) ?_
  refine st_val (.bool (!x1)) (wn rfl) rfl (by simp only [f0, f1, f2]; rfl) ?_
  refine wpList_nil ?_
  refine then_normal ?_
  refine wp_cond_split (t := (!x1)) rfl (fun hc => ?_) (fun hc => ?_)
  · replace h := h.1 hc
    refine wp_seq ?_
    refine wp_region_lit ?_
    refine st_val (.int .i64 4) (wn rfl) rfl (by simp only [f0, f1, f2]; rfl) ?_
    refine st_val (Sl.v Sl.nil) (wn rfl) rfl (by simp only [f0, f1, f2]; rfl) ?_
    refine wpList_nil ?_
    refine then_normal ?_
    refine wp_ret ?_
    refine then_ret ?_
    exact end_ret (r_resN (vs := [.int .i64 4, Sl.v Sl.nil]) Try.results10 rfl ⟨rfl, rfl, trivial⟩) rfl h
  · replace h := h.2 hc
    refine wp_skip ?_
    refine then_normal ?_
    refine wp_seq ?_
    refine wp_seq ?_
    refine wp_region_lit ?_
    refine st_val (.pointer (some b)) (wn rfl) rfl (by simp only [f0, f1, f2]; rfl) ?_
    refine st_val (.pointer (some b)) (wn rfl) rfl (by simp only [f0, f1, f2]; rfl) ?_
    refine st_val (.pointer (some (Addr.add b 0))) (wn rfl) (r_field (Try.runUnderlying47 _) rfl (Try.sizeOf45 _) rfl rfl) (by simp only [f0, f1, f2]; rfl) ?_
    refine st_val (.pointer (some (Addr.add (Addr.add b 0) 0))) (wn rfl) (r_field (Try.runUnderlying45 _) rfl (Try.sizeOf42 _) rfl rfl) (by simp only [f0, f1, f2]; rfl) ?_
    obtain ⟨x2, hx, h⟩ := h
    refine st_val (Sl.v x2) (wn rfl) (r_load1 (Try.isAgg42 _) rfl (Cells.one hx)) (by simp only [f0, f1, f2]; rfl) ?_
    refine st_val (.int .i64 x0) (wn rfl) rfl (by simp only [f0, f1, f2]; rfl) ?_
    obtain ⟨ad, hx1, h⟩ := h
    refine st_val (.pointer (some ad)) (wn rfl) (r_indexS (s := x2) (Try.runUnderlying42 _) (Try.sizeOf49 _) rfl rfl hx1) (by simp only [f0, f1, f2]; rfl) ?_
    obtain ⟨x01, x11, x21, x3, hx2, h⟩ := h
    refine st_val (.agg #[.int .i64 x01, .int .i64 x11, Sl.v x21, .int .i64 x3]) (wn rfl) (r_loadN (Try.isAgg49 _) (Try.sizeOf49 _) rfl rfl hx2) (by simp only [f0, f1, f2]; rfl) ?_
    refine st_one (wn rfl) ?_
    refine o_allocB (zs := [.int .i64 0, .int .i64 0, Sl.v Sl.nil, .int .i64 0]) (Try.zeroValue49 _) rfl (fun b => by simp only [f0, f1, f2]; rfl) (fun b1 w_1 hn hO hb => ?_)
    have hn_b1 : w_.heap.size ≤ b1 := hn
    have hA : Only [] w_ w_1 := hO
    refine st_one (wn rfl) ?_
    refine o_storeB (vs := [.int .i64 x01, .int .i64 x11, Sl.v x21, .int .i64 x3]) (cs' := [.int .i64 x01, .int .i64 x11, Sl.v x21, .int .i64 x3]) (Try.sizeOf49 _) rfl rfl rfl rfl hb (Nat.le_of_ble_eq_true rfl) rfl (f3 _ _) (fun w_2 hO1 hb1 => ?_)
    have hA1 := hA.new hO1 hn_b1
    refine wpList_nil ?_
    refine then_normal ?_
    refine wp_block ?_
    refine wp_seq ?_
    refine wp_region_lit ?_
    refine st_val (.int .i64 seq) (wn rfl) rfl (by simp only [f0, f1, f2]; rfl) ?_
    refine st_val (.pointer (some ⟨b1, 1, none⟩)) (wn rfl) (r_field (Try.runUnderlying49 _) rfl (Try.sizeOf3 _) rfl rfl) (by simp only [f0, f1, f2]; rfl) ?_
    refine st_val (.int .i64 x11) (wn rfl) (r_load1 (Try.isAgg3 _) rfl (hb1.cell 1)) (by simp only [f0, f1, f2]; rfl) ?_
    refine st_val (.int .i64 (if 1 > x11 then 1 else x11)) (wn rfl) (r_max rfl rfl) (by simp only [f0, f1, f2]; rfl) ?_
    refine st_val (.bool (decide (seq < (if 1 > x11 then 1 else x11)))) (wn rfl) rfl (by simp only [f0, f1, f2]; rfl) ?_
    refine st_val (.bool (decide (seq < (if 1 > x11 then 1 else x11)))) (wn rfl) rfl (by simp only [f0, f1, f2]; rfl) ?_
    refine wpList_nil ?_
    refine then_normal ?_
    refine wp_cond_split (t := (decide (seq < (if 1 > x11 then 1 else x11)))) rfl (fun hc1 => ?_) (fun hc1 => ?_)
    · replace h := h.1 hc1
      refine wp_seq ?_
      refine wp_region_lit ?_
      refine st_val (.int .i64 3) (wn rfl) rfl (by simp only [f0, f1, f2]; rfl) ?_
      refine st_val (Sl.v Sl.nil) (wn rfl) rfl (by simp only [f0, f1, f2]; rfl) ?_
      refine wpList_nil ?_
      refine then_normal ?_
      refine wp_ret ?_
      refine block_ret ?_
      refine then_ret ?_
      replace h := h b1 w_2 hn_b1 hb1.lt hA1
      exact end_ret (r_resN (vs := [.int .i64 3, Sl.v Sl.nil]) Try.results10 rfl ⟨rfl, rfl, trivial⟩) rfl h
    · replace h := h.2 hc1
      refine wp_seq ?_
      refine wp_region_lit ?_
      refine st_val (.int .i64 seq) (wn rfl) rfl (by simp only [f0, f1, f2]; rfl) ?_
      refine st_val (.pointer (some ⟨b1, 1, none⟩)) (wn rfl) (r_field (Try.runUnderlying49 _) rfl (Try.sizeOf3 _) rfl rfl) (by simp only [f0, f1, f2]; rfl) ?_
      refine st_val (.int .i64 x11) (wn rfl) (r_load1 (Try.isAgg3 _) rfl (hb1.cell 1)) (by simp only [f0, f1, f2]; rfl) ?_
      refine st_val (.bool (seq == x11)) (wn rfl) rfl (by simp only [f0, f1, f2]; rfl) ?_
      refine st_val (.bool (seq == x11)) (wn rfl) rfl (by simp only [f0, f1, f2]; rfl) ?_
      refine wpList_nil ?_
      refine then_normal ?_
      refine wp_cond_split (t := (seq == x11)) rfl (fun hc2 => ?_) (fun hc2 => ?_)
      · replace h := h.1 hc2
        refine wp_seq ?_
        refine wp_region_lit ?_
        refine st_val (.pointer (some ⟨b1, 2, none⟩)) (wn rfl) (r_field (Try.runUnderlying49 _) rfl (Try.sizeOf27 _) rfl rfl) (by simp only [f0, f1, f2]; rfl) ?_
        refine st_val (Sl.v x21) (wn rfl) (r_load1 (Try.isAgg27 _) rfl (hb1.cell 2)) (by simp only [f0, f1, f2]; rfl) ?_
        replace h := h b1 w_2 hn_b1 hb1.lt hA1
        refine st_one (wn rfl) ?_
        refine o_enter (args := #[Sl.v x21]) (r_enter Try.call27 rfl) (h.mono ?_)
        clear h
        rintro _ w_3 ⟨x4, rfl, hs1, h⟩
        refine ⟨_, _, rfl, (by simp only [f0, f1, f2]; rfl), ?_⟩
        have hb2 := hs1.blk hb1 (by simp)
        refine st_val (.int .i64 2) (wn rfl) rfl (by simp only [f0, f1, f2]; rfl) ?_
        refine st_val (Sl.v x4) (wn rfl) rfl (by simp only [f0, f1, f2]; rfl) ?_
        refine wpList_nil ?_
        refine then_normal ?_
        refine wp_ret ?_
        refine block_ret ?_
        refine then_ret ?_
        exact end_ret (r_resN (vs := [.int .i64 2, Sl.v x4]) Try.results10 rfl ⟨rfl, rfl, trivial⟩) rfl h
      · replace h := h.2 hc2
        refine wp_skip ?_
        refine block_normal ?_
        refine then_normal ?_
        refine wp_seq ?_
        refine wp_region_lit ?_
        refine st_val (.int .i64 1) (wn rfl) rfl (by simp only [f0, f1, f2]; rfl) ?_
        refine st_val (Sl.v Sl.nil) (wn rfl) rfl (by simp only [f0, f1, f2]; rfl) ?_
        refine wpList_nil ?_
        refine then_normal ?_
        refine wp_ret ?_
        replace h := h b1 w_2 hn_b1 hb1.lt hA1
        exact end_ret (r_resN (vs := [.int .i64 1, Sl.v Sl.nil]) Try.results10 rfl ⟨rfl, rfl, trivial⟩) rfl h

/-- what is to be shown of a call of (*pavaneref19.Book).List -/
def pavaneref19_Book_List_vc (b : Addr) (R : Value → World → Prop) (w : World) : Prop :=
  ∃ (I_ : Nat → Sl → Int → World → Prop) (nv1 : Nat), I_ nv1 Sl.nil 0 w ∧
  ∀ (nv : Nat) (out : Sl) (i : Int) (w_ : World), I_ nv out i w_ →
  ∃ x1 : Sl, Cells w_ (Addr.add b 0) [Sl.v x1] ∧
  (((decide (i < (↑(Sl.n x1) : Int))) = true →
  ∃ x2 : Sl, Cells w_ (Addr.add b 0) [Sl.v x2] ∧
  ∃ ad : Addr, SlAt x2 i 4 ad ∧
  ∃ x0 : Int, ∃ x11 : Int, ∃ x21 : Sl, ∃ x3 : Int, Cells w_ ad [.int .i64 x0, .int .i64 x11, Sl.v x21, .int .i64 x3] ∧
  ∀ (b1 : Nat) (w_2 : World), w_.heap.size ≤ b1 → b1 < w_2.heap.size → Only [] w_ w_2 →
  ∃ x4 : Sl, ∃ w_3 : World, (Instr.buildSlice 27 0 #[]).run Try.prog w_2 = .ok (Sl.v x4) w_3 ∧ Same [b1] w_2 w_3 ∧
  ∃ x5 : Sl, ∃ w_4 : World, (Builtin.append_ #[27, 27] 27 #[Sl.v x4, Sl.v x21]).run Try.prog w_3 = .ok (Sl.v x5) w_4 ∧ Same [b1] w_3 w_4 ∧
  ∀ (w_5 : World), Only [b1] w_4 w_5 →
  ∃ x6 : Sl, ∃ w_6 : World, (Instr.buildSlice 42 1 #[(0, .agg #[.int .i64 x0, .int .i64 x11, Sl.v x5, .int .i64 x3])]).run Try.prog w_5 = .ok (Sl.v x6) w_6 ∧ Same [b1] w_5 w_6 ∧
  ∃ x7 : Sl, ∃ w_7 : World, (Builtin.append_ #[42, 42] 42 #[Sl.v out, Sl.v x6]).run Try.prog w_6 = .ok (Sl.v x7) w_7 ∧ Same [b1] w_6 w_7 ∧
  ∃ nv2 : Nat, nv2 < nv ∧ I_ nv2 x7 (IntKind.i64.wrap (i + 1)) w_7) ∧
  ((decide (i < (↑(Sl.n x1) : Int))) = false →
  R (Sl.v out) w_))
theorem pavaneref19_Book_List_wp (b : Addr) (R : Value → World → Prop) (w : World) (h : pavaneref19_Book_List_vc b R w) :
    Calls Try.prog 23 #[.pointer (some b)] w fun e w' => ∃ v, e = .returned v ∧ R v w' := by
  unfold pavaneref19_Book_List_vc at h
  refine calls_of (k := 31) Try.func23 rfl Try.ntmps23 rfl rfl ?_
  simp only [List.replicate, List.cons_append, List.nil_append]
  refine wp_seq ?_
  refine wp_region_lit ?_
  refine st_val (Sl.v Sl.nil) (wn rfl) rfl (by simp only [f0, f1, f2]; rfl) ?_
  refine wpList_nil ?_
  refine then_normal ?_
  refine wp_seq ?_
  refine wp_region_lit ?_
  refine st_val (Sl.v Sl.nil) (wn rfl) rfl (by simp only [f0, f1, f2]; rfl) ?_
  refine wpList_nil ?_
  refine then_normal ?_
  refine wp_seq ?_
  refine wp_seq ?_
  refine wp_region_lit ?_
  refine st_val (.int .i64 0) (wn rfl) rfl (by simp only [f0, f1, f2]; rfl) ?_
  refine wpList_nil ?_
  refine then_normal ?_
  refine wp_block ?_
  obtain ⟨I_, nv1, h0, hI⟩ := h
  refine wp_loop_ghost (fun nv' a' w' => ∃ out : Sl, ∃ i : Int, (∃ us : Nat → Value, a' = (⟨(fillin us 0 (some (.pointer (some b)) :: some undef :: some (Sl.v Sl.nil) :: some (Sl.v out) :: some (.int .i64 i) :: none :: none :: none :: none :: none :: none :: none :: none :: none :: none :: none :: none :: none :: none :: none :: none :: none :: none :: none :: none :: none :: none :: none :: none :: none :: none :: some undef :: [])).toArray, []⟩ : Act)) ∧ I_ nv' out i w') nv1 ?_ ?_
  · exact ⟨_, _, (some_us rfl rfl rfl), h0⟩
  · clear h0
    rintro nv a0 w_ ⟨out, i, ⟨us, hF⟩, h⟩
    simp only [fillin, Nat.reduceAdd] at hF
    subst hF
    replace h := hI _ _ _ _ h
    refine wp_seq ?_
    refine wp_seq ?_
    refine wp_region_lit ?_
    refine st_val (.int .i64 i) (wn rfl) rfl (by simp only [f0, f1, f2]; rfl) ?_
    refine st_val (.pointer (some b)) (wn rfl) rfl (by simp only [f0, f1, f2]; rfl) ?_
    refine st_val (.pointer (some b)) (wn rfl) rfl (by simp only [f0, f1, f2]; rfl) ?_
    refine st_val (.pointer (some (Addr.add b 0))) (wn rfl) (r_field (Try.runUnderlying64 _) rfl (Try.sizeOf42 _) rfl rfl) (by simp only [f0, f1, f2]; rfl) ?_
    obtain ⟨x1, hx, h⟩ := h
    refine st_val (Sl.v x1) (wn rfl) (r_load1 (Try.isAgg42 _) rfl (Cells.one hx)) (by simp only [f0, f1, f2]; rfl) ?_
    refine st_val (.int .i64 (↑(Sl.n x1) : Int)) (wn rfl) (r_len (s := x1) (Try.runUnderlying42 _) rfl) (by simp only [f0, f1, f2]; rfl) ?_
    refine st_val (.bool (decide (i < (↑(Sl.n x1) : Int)))) (wn rfl) rfl (by simp only [f0, f1, f2]; rfl) ?_
    refine wpList_nil ?_
    refine then_normal ?_
    refine wp_cond_split (t := (decide (i < (↑(Sl.n x1) : Int)))) rfl (fun hc => ?_) (fun hc => ?_)
    · replace h := h.1 hc
      refine wp_skip ?_
      refine then_normal ?_
      refine wp_seq ?_
      refine wp_block ?_
      refine wp_seq ?_
      refine wp_region_lit ?_
      refine st_val (.pointer (some b)) (wn rfl) rfl (by simp only [f0, f1, f2]; rfl) ?_
      refine st_val (.pointer (some b)) (wn rfl) rfl (by simp only [f0, f1, f2]; rfl) ?_
      refine st_val (.pointer (some (Addr.add b 0))) (wn rfl) (r_field (Try.runUnderlying64 _) rfl (Try.sizeOf42 _) rfl rfl) (by simp only [f0, f1, f2]; rfl) ?_
      obtain ⟨x2, hx1, h⟩ := h
      refine st_val (Sl.v x2) (wn rfl) (r_load1 (Try.isAgg42 _) rfl (Cells.one hx1)) (by simp only [f0, f1, f2]; rfl) ?_
      refine st_val (.int .i64 i) (wn rfl) rfl (by simp only [f0, f1, f2]; rfl) ?_
      obtain ⟨ad, hx2, h⟩ := h
      refine st_val (.pointer (some ad)) (wn rfl) (r_indexS (s := x2) (Try.runUnderlying42 _) (Try.sizeOf49 _) rfl rfl hx2) (by simp only [f0, f1, f2]; rfl) ?_
      obtain ⟨x0, x11, x21, x3, hx3, h⟩ := h
      refine st_val (.agg #[.int .i64 x0, .int .i64 x11, Sl.v x21, .int .i64 x3]) (wn rfl) (r_loadN (Try.isAgg49 _) (Try.sizeOf49 _) rfl rfl hx3) (by simp only [f0, f1, f2]; rfl) ?_
      refine st_one (wn rfl) ?_
      refine o_allocB (zs := [.int .i64 0, .int .i64 0, Sl.v Sl.nil, .int .i64 0]) (Try.zeroValue49 _) rfl (fun b => by simp only [f0, f1, f2]; rfl) (fun b1 w_1 hn hO hb => ?_)
      have hn_b1 : w_.heap.size ≤ b1 := hn
      have hA : Only [] w_ w_1 := hO
      refine st_one (wn rfl) ?_
      refine o_storeB (vs := [.int .i64 x0, .int .i64 x11, Sl.v x21, .int .i64 x3]) (cs' := [.int .i64 x0, .int .i64 x11, Sl.v x21, .int .i64 x3]) (Try.sizeOf49 _) rfl rfl rfl rfl hb (Nat.le_of_ble_eq_true rfl) rfl (f3 _ _) (fun w_2 hO1 hb1 => ?_)
      have hA1 := hA.new hO1 hn_b1
      refine wpList_nil ?_
      refine then_normal ?_
      refine wp_seq ?_
      refine wp_region_lit ?_
      replace h := h b1 w_2 hn_b1 hb1.lt hA1
      obtain ⟨x4, w_3, hr, hs, h⟩ := h
      refine st_one (wn rfl) ?_
      refine o_val (Sl.v x4) (r_buildSlice rfl hr) (by simp only [f0, f1, f2]; rfl) ?_
      have hb2 := hs.blk hb1 (by simp)
      refine st_val (.pointer (some ⟨b1, 2, none⟩)) (wn rfl) (r_field (Try.runUnderlying49 _) rfl (Try.sizeOf27 _) rfl rfl) (by simp only [f0, f1, f2]; rfl) ?_
      refine st_val (Sl.v x21) (wn rfl) (r_load1 (Try.isAgg27 _) rfl (hb2.cell 2)) (by simp only [f0, f1, f2]; rfl) ?_
      obtain ⟨x5, w_4, hr1, hs1, h⟩ := h
      refine st_one (wn rfl) ?_
      refine o_val (Sl.v x5) (r_builtin_append rfl hr1) (by simp only [f0, f1, f2]; rfl) ?_
      have hb3 := hs1.blk hb2 (by simp)
      refine st_val (.pointer (some ⟨b1, 2, none⟩)) (wn rfl) (r_field (Try.runUnderlying49 _) rfl (Try.sizeOf27 _) rfl rfl) (by simp only [f0, f1, f2]; rfl) ?_
      refine st_one (wn rfl) ?_
      refine o_storeB (vs := [Sl.v x5]) (cs' := [.int .i64 x0, .int .i64 x11, Sl.v x5, .int .i64 x3]) (Try.sizeOf27 _) rfl rfl rfl rfl hb3 (Nat.le_of_ble_eq_true rfl) rfl (f3 _ _) (fun w_5 hO2 hb4 => ?_)
      have hA2 : Only [b1] w_4 w_5 := hO2
      refine wpList_nil ?_
      refine then_normal ?_
      refine wp_region_lit ?_
      refine st_val (Sl.v out) (wn rfl) rfl (by simp only [f0, f1, f2]; rfl) ?_
      refine st_val (.agg #[.int .i64 x0, .int .i64 x11, Sl.v x5, .int .i64 x3]) (wn rfl) (r_loadN (Try.isAgg49 _) (Try.sizeOf49 _) rfl rfl (hb4.cellsAt 0 [.int .i64 x0, .int .i64 x11, Sl.v x5, .int .i64 x3] rfl)) (by simp only [f0, f1, f2]; rfl) ?_
      replace h := h w_5 hA2
      obtain ⟨x6, w_6, hr2, hs2, h⟩ := h
      refine st_one (wn rfl) ?_
      refine o_val (Sl.v x6) (r_buildSlice rfl hr2) (by simp only [f0, f1, f2]; rfl) ?_
      have hb5 := hs2.blk hb4 (by simp)
      obtain ⟨x7, w_7, hr3, hs3, h⟩ := h
      refine st_one (wn rfl) ?_
      refine o_val (Sl.v x7) (r_builtin_append rfl hr3) (by simp only [f0, f1, f2]; rfl) ?_
      have hb6 := hs3.blk hb5 (by simp)
      refine st_val (Sl.v x7) (wn rfl) rfl (by simp only [f0, f1, f2]; rfl) ?_
      refine wpList_nil ?_
      refine block_normal ?_
      refine then_normal ?_
      refine wp_region_lit ?_
      refine st_val (.int .i64 i) (wn rfl) rfl (by simp only [f0, f1, f2]; rfl) ?_
      refine st_val (.int .i64 (IntKind.i64.wrap (i + 1))) (wn rfl) rfl (by simp only [f0, f1, f2]; rfl) ?_
      refine st_val (.int .i64 (IntKind.i64.wrap (i + 1))) (wn rfl) rfl (by simp only [f0, f1, f2]; rfl) ?_
      refine wpList_nil ?_
      refine then_normal ?_
      obtain ⟨nv2, hl, h⟩ := h
      exact ⟨nv2, hl, _, _, (some_us rfl rfl rfl), h⟩
    · replace h := h.2 hc
      refine wp_exit ?_
      refine then_exit ?_
      refine then_exit ?_
      refine block_hit ?_
      refine then_normal ?_
      refine wp_seq ?_
      refine wp_region_lit ?_
      refine st_val (Sl.v out) (wn rfl) rfl (by simp only [f0, f1, f2]; rfl) ?_
      refine st_val (Sl.v out) (wn rfl) rfl (by simp only [f0, f1, f2]; rfl) ?_
      refine wpList_nil ?_
      refine then_normal ?_
      refine wp_ret ?_
      exact end_ret (r_res1 (v := Sl.v out) Try.results23 ⟨rfl, trivial⟩) rfl h

/-- what is to be shown of a call of pavaneref01.Same -/
def pavaneref01_Same_vc (a_ : Sl) (b : Sl) (R : Value → World → Prop) (w : World) : Prop :=
  ((((↑(Sl.n a_) : Int) != (↑(Sl.n b) : Int)) = true →
  R (.bool false) w) ∧
  (((↑(Sl.n a_) : Int) != (↑(Sl.n b) : Int)) = false →
  ∃ (I_ : Nat → Int → World → Prop) (nv1 : Nat), I_ nv1 0 w ∧
  ∀ (nv : Nat) (i : Int) (w_ : World), I_ nv i w_ →
  (((decide (i < (↑(Sl.n a_) : Int))) = true →
  ∃ ad : Addr, SlAt a_ i 1 ad ∧
  ∃ x1 : Int, Cells w_ ad [.int .i64 x1] ∧
  ∃ ad1 : Addr, SlAt b i 1 ad1 ∧
  ∃ x2 : Int, Cells w_ ad1 [.int .i64 x2] ∧
  (((x1 != x2) = true →
  ∀ (w_1 : World), Only [] w_ w_1 →
  R (.bool false) w_1) ∧
  ((x1 != x2) = false →
  ∀ (w_1 : World), Only [] w_ w_1 →
  ∃ nv2 : Nat, nv2 < nv ∧ I_ nv2 (IntKind.i64.wrap (i + 1)) w_1))) ∧
  ((decide (i < (↑(Sl.n a_) : Int))) = false →
  R (.bool true) w_))))
theorem pavaneref01_Same_wp (a_ : Sl) (b : Sl) (R : Value → World → Prop) (w : World) (h : pavaneref01_Same_vc a_ b R w) :
    Calls Try.prog 21 #[Sl.v a_, Sl.v b] w fun e w' => ∃ v, e = .returned v ∧ R v w' := by
  unfold pavaneref01_Same_vc at h
  refine calls_of (k := 24) Try.func21 rfl Try.ntmps21 rfl rfl ?_
  simp only [List.replicate, List.cons_append, List.nil_append]
  refine wp_seq ?_
  refine wp_region_lit ?_
  refine st_val (.bool false) (wn rfl) rfl (by simp only [f0, f1, f2]; rfl) ?_
  refine wpList_nil ?_
  refine then_normal ?_
  refine wp_seq ?_
  refine wp_seq ?_
  refine wp_region_lit ?_
  refine st_val (Sl.v a_) (wn rfl) rfl (by simp only [f0, f1, f2]; rfl) ?_
  refine st_val (.int .i64 (↑(Sl.n a_) : Int)) (wn rfl) (r_len (s := a_) (Try.runUnderlying34 _) rfl) (by simp only [f0, f1, f2]; rfl) ?_
  refine st_val (Sl.v b) (wn rfl) rfl (by simp only [f0, f1, f2]; rfl) ?_
  refine st_val (.int .i64 (↑(Sl.n b) : Int)) (wn rfl) (r_len (s := b) (Try.runUnderlying34 _) rfl) (by simp only [f0, f1, f2]; rfl) ?_
  refine st_val (.bool ((↑(Sl.n a_) : Int) != (↑(Sl.n b) : Int))) (wn rfl) rfl (by simp only [f0, f1, f2]; rfl) ?_
  refine wpList_nil ?_
  refine then_normal ?_
  refine wp_cond_split (t := ((↑(Sl.n a_) : Int) != (↑(Sl.n b) : Int))) rfl (fun hc => ?_) (fun hc => ?_)
  · replace h := h.1 hc
    refine wp_seq ?_
    refine wp_region_lit ?_
    refine st_val (.bool false) (wn rfl) rfl (by simp only [f0, f1, f2]; rfl) ?_
    refine wpList_nil ?_
    refine then_normal ?_
    refine wp_ret ?_
    refine then_ret ?_
    exact end_ret (r_res1 (v := .bool false) Try.results21 ⟨rfl, trivial⟩) rfl h
  · replace h := h.2 hc
    refine wp_skip ?_
    refine then_normal ?_
    refine wp_seq ?_
    refine wp_seq ?_
    refine wp_region_lit ?_
    refine st_val (.int .i64 0) (wn rfl) rfl (by simp only [f0, f1, f2]; rfl) ?_
    refine wpList_nil ?_
    refine then_normal ?_
    refine wp_block ?_
    obtain ⟨I_, nv1, h0, hI⟩ := h
    refine wp_loop_ghost (fun nv' a' w' => ∃ i : Int, (∃ us : Nat → Value, a' = (⟨(fillin us 0 (some (Sl.v a_) :: some (Sl.v b) :: some undef :: some undef :: none :: some (.int .i64 i) :: some (Sl.v a_) :: some (.int .i64 (↑(Sl.n a_) : Int)) :: some (Sl.v b) :: some (.int .i64 (↑(Sl.n b) : Int)) :: some (.bool ((↑(Sl.n a_) : Int) != (↑(Sl.n b) : Int))) :: none :: none :: none :: none :: none :: none :: none :: none :: none :: none :: none :: none :: none :: none :: none :: [])).toArray, []⟩ : Act)) ∧ I_ nv' i w') nv1 ?_ ?_
    · exact ⟨_, (some_us rfl rfl rfl), h0⟩
    · clear h0
      rintro nv a0 w_ ⟨i, ⟨us, hF⟩, h⟩
      simp only [fillin, Nat.reduceAdd] at hF
      subst hF
      replace h := hI _ _ _ h
      refine wp_seq ?_
      refine wp_seq ?_
      refine wp_region_lit ?_
      refine st_val (.int .i64 i) (wn rfl) rfl (by simp only [f0, f1, f2]; rfl) ?_
      refine st_val (Sl.v a_) (wn rfl) rfl (by simp only [f0, f1, f2]; rfl) ?_
      refine st_val (.int .i64 (↑(Sl.n a_) : Int)) (wn rfl) (r_len (s := a_) (Try.runUnderlying34 _) rfl) (by simp only [f0, f1, f2]; rfl) ?_
      refine st_val (.bool (decide (i < (↑(Sl.n a_) : Int)))) (wn rfl) rfl (by simp only [f0, f1, f2]; rfl) ?_
      refine wpList_nil ?_
      refine then_normal ?_
      refine wp_cond_split (t := (decide (i < (↑(Sl.n a_) : Int)))) rfl (fun hc1 => ?_) (fun hc1 => ?_)
      · replace h := h.1 hc1
        refine wp_skip ?_
        refine then_normal ?_
        refine wp_seq ?_
        refine wp_block ?_
        refine wp_seq ?_
        obtain ⟨ad, hx, h⟩ := h
        obtain ⟨x1, hx1, h⟩ := h
        obtain ⟨ad1, hx2, h⟩ := h
        obtain ⟨x2, hx3, h⟩ := h
        refine wp_region_quiet_lit Try.checked.mixed (by kernel_rfl) ?_
        refine q_val (Sl.v a_) (wn rfl) (by rintro _ ⟨nd, rfl⟩; exact rfl) (by simp only [f0, f1, f2]; rfl) ?_
        refine q_val (.int .i64 i) (wn rfl) (by rintro _ ⟨nd, rfl⟩; exact rfl) (by simp only [f0, f1, f2]; rfl) ?_
        refine q_val (.pointer (some ad)) (wn rfl) (by rintro _ ⟨nd, rfl⟩; exact (r_indexS (s := a_) (Try.runUnderlying34 _) (Try.sizeOf3 _) rfl rfl hx)) (by simp only [f0, f1, f2]; rfl) ?_
        refine q_val (.int .i64 x1) (wn rfl) (by rintro _ ⟨nd, rfl⟩; exact (r_load1 (Try.isAgg3 _) rfl (Cells.one (q_cells hx1)))) (by simp only [f0, f1, f2]; rfl) ?_
        refine q_val (Sl.v b) (wn rfl) (by rintro _ ⟨nd, rfl⟩; exact rfl) (by simp only [f0, f1, f2]; rfl) ?_
        refine q_val (.int .i64 i) (wn rfl) (by rintro _ ⟨nd, rfl⟩; exact rfl) (by simp only [f0, f1, f2]; rfl) ?_
        refine q_val (.pointer (some ad1)) (wn rfl) (by rintro _ ⟨nd, rfl⟩; exact (r_indexS (s := b) (Try.runUnderlying34 _) (Try.sizeOf3 _) rfl rfl hx2)) (by simp only [f0, f1, f2]; rfl) ?_
        refine q_val (.int .i64 x2) (wn rfl) (by rintro _ ⟨nd, rfl⟩; exact (r_load1 (Try.isAgg3 _) rfl (Cells.one (q_cells hx3)))) (by simp only [f0, f1, f2]; rfl) ?_
        refine q_val (.bool (x1 != x2)) (wn rfl) (by rintro _ ⟨nd, rfl⟩; exact rfl) (by simp only [f0, f1, f2]; rfl) ?_
        refine wpQuiet_nil ?_
        rintro _ ⟨nd, rfl⟩
        have hO := Only.drewN w_ nd
        generalize w_.drewN nd = w_1 at *
        have hA : Only [] w_ w_1 := hO
        refine then_normal ?_
        refine wp_cond_split (t := (x1 != x2)) rfl (fun hc2 => ?_) (fun hc2 => ?_)
        · replace h := h.1 hc2
          refine wp_seq ?_
          refine wp_region_lit ?_
          refine st_val (.bool false) (wn rfl) rfl (by simp only [f0, f1, f2]; rfl) ?_
          refine wpList_nil ?_
          refine then_normal ?_
          refine wp_ret ?_
          refine block_ret ?_
          refine then_ret ?_
          refine then_ret ?_
          refine block_ret ?_
          refine then_ret ?_
          replace h := h w_1 hA
          exact end_ret (r_res1 (v := .bool false) Try.results21 ⟨rfl, trivial⟩) rfl h
        · replace h := h.2 hc2
          refine wp_skip ?_
          refine block_normal ?_
          refine then_normal ?_
          refine wp_region_lit ?_
          refine st_val (.int .i64 i) (wn rfl) rfl (by simp only [f0, f1, f2]; rfl) ?_
          refine st_val (.int .i64 (IntKind.i64.wrap (i + 1))) (wn rfl) rfl (by simp only [f0, f1, f2]; rfl) ?_
          refine st_val (.int .i64 (IntKind.i64.wrap (i + 1))) (wn rfl) rfl (by simp only [f0, f1, f2]; rfl) ?_
          refine wpList_nil ?_
          refine then_normal ?_
          replace h := h w_1 hA
          obtain ⟨nv2, hl, h⟩ := h
          exact ⟨nv2, hl, _, (some_us rfl rfl rfl), h⟩
      · replace h := h.2 hc1
        refine wp_exit ?_
        refine then_exit ?_
        refine then_exit ?_
        refine block_hit ?_
        refine then_normal ?_
        refine wp_seq ?_
        refine wp_region_lit ?_
        refine st_val (.bool true) (wn rfl) rfl (by simp only [f0, f1, f2]; rfl) ?_
        refine wpList_nil ?_
        refine then_normal ?_
        refine wp_ret ?_
        exact end_ret (r_res1 (v := .bool true) Try.results21 ⟨rfl, trivial⟩) rfl h

/-- what is to be shown of a call of pavanelaw01.Kept -/
def pavanelaw01_Kept_vc (lent : Sl) (was : Sl) (R : Value → World → Prop) (w : World) : Prop :=
  ∃ bs : List UInt8, Bytes w lent bs ∧
  ∃ bs1 : List UInt8, Bytes w was bs1 ∧
  ∃ hi : Nat, (((⟨List.toArray bs⟩ : ByteArray).toList == (⟨List.toArray bs1⟩ : ByteArray).toList) = true → (IntKind.i64.wrap ((↑(Sl.n was) : Int) + 1) = ↑hi ∧ 0 ≤ hi ∧ hi ≤ (Sl.c lent) ∧ (Sl.c lent) ≤ Sl.c lent)) ∧
  ∃ ad : Addr, (((⟨List.toArray bs⟩ : ByteArray).toList == (⟨List.toArray bs1⟩ : ByteArray).toList) = true → SlAt (Sl.cut lent 0 hi (Sl.c lent) 1) (↑(Sl.n was) : Int) 1 ad) ∧
  ∃ x1 : Int, (((⟨List.toArray bs⟩ : ByteArray).toList == (⟨List.toArray bs1⟩ : ByteArray).toList) = true → Cells w ad [.int .u8 x1]) ∧
  R (.bool (((⟨List.toArray bs⟩ : ByteArray).toList == (⟨List.toArray bs1⟩ : ByteArray).toList) && (x1 == 77))) w
theorem pavanelaw01_Kept_wp (lent : Sl) (was : Sl) (R : Value → World → Prop) (w : World) (h : pavanelaw01_Kept_vc lent was R w) :
    Calls Try.prog 29 #[Sl.v lent, Sl.v was] w fun e w' => ∃ v, e = .returned v ∧ R v w' := by
  unfold pavanelaw01_Kept_vc at h
  refine calls_of (k := 20) Try.func29 rfl Try.ntmps29 rfl rfl ?_
  simp only [List.replicate, List.cons_append, List.nil_append]
  refine wp_seq ?_
  refine wp_region_lit ?_
  refine st_val (.bool false) (wn rfl) rfl (by simp only [f0, f1, f2]; rfl) ?_
  refine wpList_nil ?_
  refine then_normal ?_
  refine wp_seq ?_
  obtain ⟨bs, hx, h⟩ := h
  obtain ⟨bs1, hx1, h⟩ := h
  obtain ⟨hi, hx2, h⟩ := h
  obtain ⟨ad, hx3, h⟩ := h
  obtain ⟨x1, hx4, h⟩ := h
  refine wp_region_lit ?_
  refine st_val (Sl.v lent) (wn rfl) rfl (by simp only [f0, f1, f2]; rfl) ?_
  refine st_val (.string (⟨List.toArray bs⟩ : ByteArray)) (wn rfl) (r_bytesStr (sl := lent) Try.underlying27 Try.underlying5 Try.underlying9 rfl hx) (by simp only [f0, f1, f2]; rfl) ?_
  refine st_val (Sl.v was) (wn rfl) rfl (by simp only [f0, f1, f2]; rfl) ?_
  refine st_val (.string (⟨List.toArray bs1⟩ : ByteArray)) (wn rfl) (r_bytesStr (sl := was) Try.underlying27 Try.underlying5 Try.underlying9 rfl hx1) (by simp only [f0, f1, f2]; rfl) ?_
  refine st_val (.bool ((⟨List.toArray bs⟩ : ByteArray).toList == (⟨List.toArray bs1⟩ : ByteArray).toList)) (wn rfl) rfl (by simp only [f0, f1, f2]; rfl) ?_
  refine st_val (.bool ((⟨List.toArray bs⟩ : ByteArray).toList == (⟨List.toArray bs1⟩ : ByteArray).toList)) (wn rfl) rfl (by simp only [f0, f1, f2]; rfl) ?_
  refine st_cut 11 (fun a' w' => (∃ us : Nat → Value, a' = (⟨(fillin us 0 (some (Sl.v lent) :: some (Sl.v was) :: some undef :: some undef :: some (.bool false) :: some (Sl.v lent) :: some (.string (⟨List.toArray bs⟩ : ByteArray)) :: some (Sl.v was) :: some (.string (⟨List.toArray bs1⟩ : ByteArray)) :: some (.bool ((⟨List.toArray bs⟩ : ByteArray).toList == (⟨List.toArray bs1⟩ : ByteArray).toList)) :: some (.bool ((⟨List.toArray bs⟩ : ByteArray).toList == (⟨List.toArray bs1⟩ : ByteArray).toList)) :: none :: none :: none :: none :: none :: none :: none :: none :: none :: none :: some (.bool (((⟨List.toArray bs⟩ : ByteArray).toList == (⟨List.toArray bs1⟩ : ByteArray).toList) && (x1 == 77))) :: [])).toArray, []⟩ : Act)) ∧ w = w') ?_ ?_
  · simp only [List.take_succ_cons, List.take_zero]
    rcases Bool.eq_false_or_eq_true ((⟨List.toArray bs⟩ : ByteArray).toList == (⟨List.toArray bs1⟩ : ByteArray).toList) with hg | hg
    · refine st_val (Sl.v lent) (wt rfl rfl rfl (congrArg (fun z => some (Value.bool z)) hg) rfl) rfl (by simp only [f0, f1, f2]; rfl) ?_
      refine st_val (Sl.v was) (wt rfl rfl rfl (congrArg (fun z => some (Value.bool z)) hg) rfl) rfl (by simp only [f0, f1, f2]; rfl) ?_
      refine st_val (.int .i64 (↑(Sl.n was) : Int)) (wt rfl rfl rfl (congrArg (fun z => some (Value.bool z)) hg) rfl) (r_len (s := was) (Try.runUnderlying27 _) rfl) (by simp only [f0, f1, f2]; rfl) ?_
      refine st_val (.int .i64 (IntKind.i64.wrap ((↑(Sl.n was) : Int) + 1))) (wt rfl rfl rfl (congrArg (fun z => some (Value.bool z)) hg) rfl) rfl (by simp only [f0, f1, f2]; rfl) ?_
      refine st_val (Sl.v (Sl.cut lent 0 hi (Sl.c lent) 1)) (wt rfl rfl rfl (congrArg (fun z => some (Value.bool z)) hg) rfl) (r_slice010 (s := lent) (Try.runUnderlying27 _) (Try.sizeOf5 _) rfl (congrArg (Value.int _) ((hx2 hg).1)) (by first | exact (hx2 hg).2.1 | omega) (by first | exact (hx2 hg).2.2.1 | omega) (by first | exact (hx2 hg).2.2.2 | omega)) (by simp only [f0, f1, f2]; rfl) ?_
      refine st_val (Sl.v was) (wt rfl rfl rfl (congrArg (fun z => some (Value.bool z)) hg) rfl) rfl (by simp only [f0, f1, f2]; rfl) ?_
      refine st_val (.int .i64 (↑(Sl.n was) : Int)) (wt rfl rfl rfl (congrArg (fun z => some (Value.bool z)) hg) rfl) (r_len (s := was) (Try.runUnderlying27 _) rfl) (by simp only [f0, f1, f2]; rfl) ?_
      refine st_val (.pointer (some ad)) (wt rfl rfl rfl (congrArg (fun z => some (Value.bool z)) hg) rfl) (r_indexS (s := Sl.cut lent 0 hi (Sl.c lent) 1) (Try.runUnderlying27 _) (Try.sizeOf5 _) rfl rfl (hx3 hg)) (by simp only [f0, f1, f2]; rfl) ?_
      refine st_val (.int .u8 x1) (wt rfl rfl rfl (congrArg (fun z => some (Value.bool z)) hg) rfl) (r_load1 (Try.isAgg5 _) rfl (Cells.one (hx4 hg))) (by simp only [f0, f1, f2]; rfl) ?_
      refine st_val (.bool (x1 == 77)) (wt rfl rfl rfl (congrArg (fun z => some (Value.bool z)) hg) rfl) rfl (by simp only [f0, f1, f2]; rfl) ?_
      refine st_val (.bool (x1 == 77)) (wn rfl) (r_pickT (congrArg Value.bool hg) rfl) (by simp only [f0, f1, f2]; rfl) ?_
      refine wpList_nil ?_
      exact then_normal ⟨some_us (by simp only [masked, hg, Bool.true_and, Bool.false_and, Bool.true_or, Bool.false_or, cond_true, cond_false]) rfl rfl, rfl⟩
    · refine st_no (wt rfl rfl rfl (congrArg (fun z => some (Value.bool z)) hg) rfl) (by simp only [f0, f1, f2]; rfl) ?_
      refine st_no (wt rfl rfl rfl (congrArg (fun z => some (Value.bool z)) hg) rfl) (by simp only [f0, f1, f2]; rfl) ?_
      refine st_no (wt rfl rfl rfl (congrArg (fun z => some (Value.bool z)) hg) rfl) (by simp only [f0, f1, f2]; rfl) ?_
      refine st_no (wt rfl rfl rfl (congrArg (fun z => some (Value.bool z)) hg) rfl) (by simp only [f0, f1, f2]; rfl) ?_
      refine st_no (wt rfl rfl rfl (congrArg (fun z => some (Value.bool z)) hg) rfl) (by simp only [f0, f1, f2]; rfl) ?_
      refine st_no (wt rfl rfl rfl (congrArg (fun z => some (Value.bool z)) hg) rfl) (by simp only [f0, f1, f2]; rfl) ?_
      refine st_no (wt rfl rfl rfl (congrArg (fun z => some (Value.bool z)) hg) rfl) (by simp only [f0, f1, f2]; rfl) ?_
      refine st_no (wt rfl rfl rfl (congrArg (fun z => some (Value.bool z)) hg) rfl) (by simp only [f0, f1, f2]; rfl) ?_
      refine st_no (wt rfl rfl rfl (congrArg (fun z => some (Value.bool z)) hg) rfl) (by simp only [f0, f1, f2]; rfl) ?_
      refine st_no (wt rfl rfl rfl (congrArg (fun z => some (Value.bool z)) hg) rfl) (by simp only [f0, f1, f2]; rfl) ?_
      refine st_val (.bool false) (wn rfl) (r_pickF (congrArg Value.bool hg) rfl) (by simp only [f0, f1, f2]; rfl) ?_
      refine wpList_nil ?_
      exact then_normal ⟨some_us (by simp only [masked, hg, Bool.true_and, Bool.false_and, Bool.true_or, Bool.false_or, cond_true, cond_false]) rfl rfl, rfl⟩
  rintro a0 _ ⟨⟨us, hF⟩, rfl⟩
  simp only [fillin, Nat.reduceAdd] at hF
  subst hF
  simp only [List.drop_succ_cons, List.drop_zero]
  refine st_val (.bool (((⟨List.toArray bs⟩ : ByteArray).toList == (⟨List.toArray bs1⟩ : ByteArray).toList) && (x1 == 77))) (wn rfl) rfl (by simp only [f0, f1, f2]; rfl) ?_
  refine wpList_nil ?_
  refine then_normal ?_
  refine wp_ret ?_
  exact end_ret (r_res1 (v := .bool (((⟨List.toArray bs⟩ : ByteArray).toList == (⟨List.toArray bs1⟩ : ByteArray).toList) && (x1 == 77))) Try.results29 ⟨rfl, trivial⟩) rfl h

/-- what is to be shown of a call of cmp.Compare[int] -/
def cmp_Compare_int_vc (x1 : Int) (y : Int) (R : Value → World → Prop) (w : World) : Prop :=
  Calls Try.prog 44 #[.int .i64 x1] w (fun e w_ => ∃ x2 : Bool, e = .returned (.bool x2) ∧
  Calls Try.prog 44 #[.int .i64 y] w_ (fun e w_1 => ∃ x3 : Bool, e = .returned (.bool x3) ∧
  ((x2 = true →
  ((x3 = true →
  R (.int .i64 0) w_1) ∧
  (x3 = false →
  R (.int .i64 (-1)) w_1))) ∧
  (x2 = false →
  ((x3 = true →
  R (.int .i64 1) w_1) ∧
  (x3 = false →
  (((decide (x1 < y)) = true →
  R (.int .i64 (-1)) w_1) ∧
  ((decide (x1 < y)) = false →
  (((decide (x1 > y)) = true →
  R (.int .i64 1) w_1) ∧
  ((decide (x1 > y)) = false →
  R (.int .i64 0) w_1))))))))))
theorem cmp_Compare_int_wp (x1 : Int) (y : Int) (R : Value → World → Prop) (w : World) (h : cmp_Compare_int_vc x1 y R w) :
    Calls Try.prog 40 #[.int .i64 x1, .int .i64 y] w fun e w' => ∃ v, e = .returned v ∧ R v w' := by
  unfold cmp_Compare_int_vc at h
  refine calls_of (k := 18) Try.func40 rfl Try.ntmps40 rfl rfl ?_
  simp only [List.replicate, List.cons_append, List.nil_append]
  refine wp_seq ?_
  refine wp_region_lit ?_
  refine st_val (.int .i64 0) (wn rfl) rfl (by simp only [f0, f1, f2]; rfl) ?_
  refine wpList_nil ?_
  refine then_normal ?_
  refine wp_seq ?_
  refine wp_region_lit ?_
  refine st_val (.int .i64 x1) (wn rfl) rfl (by simp only [f0, f1, f2]; rfl) ?_
  refine st_one (wn rfl) ?_
  refine o_enter (args := #[.int .i64 x1]) (r_enter Try.call44 rfl) (h.mono ?_)
  clear h
  rintro _ w_ ⟨x2, rfl, h⟩
  refine ⟨_, _, rfl, (by simp only [f0, f1, f2]; rfl), ?_⟩
  refine st_val (.bool x2) (wn rfl) rfl (by simp only [f0, f1, f2]; rfl) ?_
  refine wpList_nil ?_
  refine then_normal ?_
  refine wp_seq ?_
  refine wp_region_lit ?_
  refine st_val (.int .i64 y) (wn rfl) rfl (by simp only [f0, f1, f2]; rfl) ?_
  refine st_one (wn rfl) ?_
  refine o_enter (args := #[.int .i64 y]) (r_enter Try.call44 rfl) (h.mono ?_)
  clear h
  rintro _ w_1 ⟨x3, rfl, h⟩
  refine ⟨_, _, rfl, (by simp only [f0, f1, f2]; rfl), ?_⟩
  refine st_val (.bool x3) (wn rfl) rfl (by simp only [f0, f1, f2]; rfl) ?_
  refine wpList_nil ?_
  refine then_normal ?_
  refine wp_seq ?_
  refine wp_seq ?_
  refine wp_region_lit ?_
  refine st_val (.bool x2) (wn rfl) rfl (by simp only [f0, f1, f2]; rfl) ?_
  refine wpList_nil ?_
  refine then_normal ?_
  refine wp_cond_split (t := x2) rfl (fun hc => ?_) (fun hc => ?_)
  · replace h := h.1 hc
    refine wp_seq ?_
    refine wp_seq ?_
    refine wp_region_lit ?_
    refine st_val (.bool x3) (wn rfl) rfl (by simp only [f0, f1, f2]; rfl) ?_
    refine wpList_nil ?_
    refine then_normal ?_
    refine wp_cond_split (t := x3) rfl (fun hc1 => ?_) (fun hc1 => ?_)
    · replace h := h.1 hc1
      refine wp_seq ?_
      refine wp_region_lit ?_
      refine st_val (.int .i64 0) (wn rfl) rfl (by simp only [f0, f1, f2]; rfl) ?_
      refine wpList_nil ?_
      refine then_normal ?_
      refine wp_ret ?_
      refine then_ret ?_
      refine then_ret ?_
      exact end_ret (r_res1 (v := .int .i64 0) Try.results40 ⟨rfl, trivial⟩) rfl h
    · replace h := h.2 hc1
      refine wp_skip ?_
      refine then_normal ?_
      refine wp_seq ?_
      refine wp_region_lit ?_
      refine st_val (.int .i64 (-1)) (wn rfl) rfl (by simp only [f0, f1, f2]; rfl) ?_
      refine wpList_nil ?_
      refine then_normal ?_
      refine wp_ret ?_
      refine then_ret ?_
      exact end_ret (r_res1 (v := .int .i64 (-1)) Try.results40 ⟨rfl, trivial⟩) rfl h
  · replace h := h.2 hc
    refine wp_skip ?_
    refine then_normal ?_
    refine wp_seq ?_
    refine wp_seq ?_
    refine wp_region_lit ?_
    refine st_val (.bool x3) (wn rfl) rfl (by simp only [f0, f1, f2]; rfl) ?_
    refine wpList_nil ?_
    refine then_normal ?_
    refine wp_cond_split (t := x3) rfl (fun hc2 => ?_) (fun hc2 => ?_)
    · replace h := h.1 hc2
      refine wp_seq ?_
      refine wp_region_lit ?_
      refine st_val (.int .i64 1) (wn rfl) rfl (by simp only [f0, f1, f2]; rfl) ?_
      refine wpList_nil ?_
      refine then_normal ?_
      refine wp_ret ?_
      refine then_ret ?_
      exact end_ret (r_res1 (v := .int .i64 1) Try.results40 ⟨rfl, trivial⟩) rfl h
    · replace h := h.2 hc2
      refine wp_skip ?_
      refine then_normal ?_
      refine wp_seq ?_
      refine wp_seq ?_
      refine wp_region_lit ?_
      refine st_val (.int .i64 x1) (wn rfl) rfl (by simp only [f0, f1, f2]; rfl) ?_
      refine st_val (.int .i64 y) (wn rfl) rfl (by simp only [f0, f1, f2]; rfl) ?_
      refine st_val (.bool (decide (x1 < y))) (wn rfl) rfl (by simp only [f0, f1, f2]; rfl) ?_
      refine wpList_nil ?_
      refine then_normal ?_
      refine wp_cond_split (t := (decide (x1 < y))) rfl (fun hc3 => ?_) (fun hc3 => ?_)
      · replace h := h.1 hc3
        refine wp_seq ?_
        refine wp_region_lit ?_
        refine st_val (.int .i64 (-1)) (wn rfl) rfl (by simp only [f0, f1, f2]; rfl) ?_
        refine wpList_nil ?_
        refine then_normal ?_
        refine wp_ret ?_
        refine then_ret ?_
        exact end_ret (r_res1 (v := .int .i64 (-1)) Try.results40 ⟨rfl, trivial⟩) rfl h
      · replace h := h.2 hc3
        refine wp_skip ?_
        refine then_normal ?_
        refine wp_seq ?_
        refine wp_seq ?_
        refine wp_region_lit ?_
        refine st_val (.int .i64 x1) (wn rfl) rfl (by simp only [f0, f1, f2]; rfl) ?_
        refine st_val (.int .i64 y) (wn rfl) rfl (by simp only [f0, f1, f2]; rfl) ?_
        refine st_val (.bool (decide (x1 > y))) (wn rfl) rfl (by simp only [f0, f1, f2]; rfl) ?_
        refine wpList_nil ?_
        refine then_normal ?_
        refine wp_cond_split (t := (decide (x1 > y))) rfl (fun hc4 => ?_) (fun hc4 => ?_)
        · replace h := h.1 hc4
          refine wp_seq ?_
          refine wp_region_lit ?_
          refine st_val (.int .i64 1) (wn rfl) rfl (by simp only [f0, f1, f2]; rfl) ?_
          refine wpList_nil ?_
          refine then_normal ?_
          refine wp_ret ?_
          refine then_ret ?_
          exact end_ret (r_res1 (v := .int .i64 1) Try.results40 ⟨rfl, trivial⟩) rfl h
        · replace h := h.2 hc4
          refine wp_skip ?_
          refine then_normal ?_
          refine wp_seq ?_
          refine wp_region_lit ?_
          refine st_val (.int .i64 0) (wn rfl) rfl (by simp only [f0, f1, f2]; rfl) ?_
          refine wpList_nil ?_
          refine then_normal ?_
          refine wp_ret ?_
          exact end_ret (r_res1 (v := .int .i64 0) Try.results40 ⟨rfl, trivial⟩) rfl h

/-- what is to be shown of a call of session.copied -/
def session_copied_vc (l : Sl) (R : Value → World → Prop) (w : World) : Prop :=
  Calls Try.prog 42 #[Sl.v l] w (fun e w_ => ∃ x1 : Sl, e = .returned (Sl.v x1) ∧
  ∃ (I_ : Nat → Int → World → Prop) (nv1 : Nat), I_ nv1 0 w_ ∧
  ∀ (nv : Nat) (t9 : Int) (w_1 : World), I_ nv t9 w_1 →
  (((decide (t9 < (↑(Sl.n x1) : Int))) = true →
  ∃ ad : Addr, SlAt x1 t9 4 ad ∧
  ∃ x2 : Sl, Cells w_1 (Addr.add ad 2) [Sl.v x2] ∧
  Calls Try.prog 27 #[Sl.v x2] w_1 (fun e w_2 => ∃ x3 : Sl, e = .returned (Sl.v x3) ∧
  ∃ ad1 : Addr, SlAt x1 t9 4 ad1 ∧
  ∃ (bk off : Nat) (cells : List Value) (ety : TypeId), Addr.add ad1 2 = (⟨bk, off, none⟩ : Addr) ∧ Blk w_2 bk ety cells ∧ off + 1 ≤ cells.length ∧ ∀ w_3 : World, Only [bk] w_2 w_3 → Blk w_3 bk ety (splice cells off [Sl.v x3]) →
  ∃ nv2 : Nat, nv2 < nv ∧ I_ nv2 (IntKind.i64.wrap (t9 + 1)) w_3)) ∧
  ((decide (t9 < (↑(Sl.n x1) : Int))) = false →
  R (Sl.v x1) w_1)))
theorem session_copied_wp (l : Sl) (R : Value → World → Prop) (w : World) (h : session_copied_vc l R w) :
    Calls Try.prog 33 #[Sl.v l] w fun e w' => ∃ v, e = .returned v ∧ R v w' := by
  unfold session_copied_vc at h
  refine calls_of (k := 23) Try.func33 rfl Try.ntmps33 rfl rfl ?_
  simp only [List.replicate, List.cons_append, List.nil_append]
  refine wp_seq ?_
  refine wp_region_lit ?_
  refine st_val (Sl.v Sl.nil) (wn rfl) rfl (by simp only [f0, f1, f2]; rfl) ?_
  refine wpList_nil ?_
  refine then_normal ?_
  refine wp_seq ?_
  refine wp_region_lit ?_
  refine st_val (Sl.v l) (wn rfl) rfl (by simp only [f0, f1, f2]; rfl) ?_
  refine st_one (wn rfl) ?_
  refine o_enter (args := #[Sl.v l]) (r_enter Try.call42 rfl) (h.mono ?_)
  clear h
  rintro _ w_ ⟨x1, rfl, h⟩
  refine ⟨_, _, rfl, (by simp only [f0, f1, f2]; rfl), ?_⟩
  refine st_val (Sl.v x1) (wn rfl) rfl (by simp only [f0, f1, f2]; rfl) ?_
  refine wpList_nil ?_
  refine then_normal ?_
  refine wp_seq ?_
  refine wp_seq ?_
  refine wp_region_lit ?_
  refine st_val (Sl.v x1) (wn rfl) rfl (by simp only [f0, f1, f2]; rfl) ?_
  refine st_val (.int .i64 (↑(Sl.n x1) : Int)) (wn rfl) (r_len (s := x1) (Try.runUnderlying42 _) rfl) (by simp only [f0, f1, f2]; rfl) ?_
  refine st_val (.int .i64 0) (wn rfl) rfl (by simp only [f0, f1, f2]; rfl) ?_
  refine wpList_nil ?_
  refine then_normal ?_
  refine wp_block ?_
  obtain ⟨I_, nv1, h0, hI⟩ := h
  refine wp_loop_ghost (fun nv' a' w' => ∃ t9 : Int, (∃ us : Nat → Value, a' = (⟨(fillin us 0 (some (Sl.v l) :: some undef :: some (Sl.v Sl.nil) :: some (Sl.v x1) :: none :: some (Sl.v l) :: some (Sl.v x1) :: some (Sl.v x1) :: some (.int .i64 (↑(Sl.n x1) : Int)) :: some (.int .i64 t9) :: none :: none :: none :: none :: none :: none :: none :: none :: none :: none :: none :: none :: none :: some undef :: [])).toArray, []⟩ : Act)) ∧ I_ nv' t9 w') nv1 ?_ ?_
  · exact ⟨_, (some_us rfl rfl rfl), h0⟩
  · clear h0
    rintro nv a0 w_1 ⟨t9, ⟨us, hF⟩, h⟩
    simp only [fillin, Nat.reduceAdd] at hF
    subst hF
    replace h := hI _ _ _ h
    refine wp_seq ?_
    refine wp_region_lit ?_
    refine st_val (.bool (decide (t9 < (↑(Sl.n x1) : Int)))) (wn rfl) rfl (by simp only [f0, f1, f2]; rfl) ?_
    refine wpList_nil ?_
    refine then_normal ?_
    refine wp_seq ?_
    refine wp_cond_split (t := (decide (t9 < (↑(Sl.n x1) : Int)))) rfl (fun hc => ?_) (fun hc => ?_)
    · replace h := h.1 hc
      refine wp_skip ?_
      refine then_normal ?_
      refine wp_seq ?_
      refine wp_block ?_
      refine wp_seq ?_
      refine wp_region_lit ?_
      refine st_val (.int .i64 t9) (wn rfl) rfl (by simp only [f0, f1, f2]; rfl) ?_
      refine st_val (.int .i64 t9) (wn rfl) rfl (by simp only [f0, f1, f2]; rfl) ?_
      refine wpList_nil ?_
      refine then_normal ?_
      refine wp_region_lit ?_
      refine st_val (Sl.v x1) (wn rfl) rfl (by simp only [f0, f1, f2]; rfl) ?_
      refine st_val (.int .i64 t9) (wn rfl) rfl (by simp only [f0, f1, f2]; rfl) ?_
      refine st_val (Sl.v x1) (wn rfl) rfl (by simp only [f0, f1, f2]; rfl) ?_
      refine st_val (.int .i64 t9) (wn rfl) rfl (by simp only [f0, f1, f2]; rfl) ?_
      obtain ⟨ad, hx, h⟩ := h
      refine st_val (.pointer (some ad)) (wn rfl) (r_indexS (s := x1) (Try.runUnderlying42 _) (Try.sizeOf49 _) rfl rfl hx) (by simp only [f0, f1, f2]; rfl) ?_
      refine st_val (.pointer (some (Addr.add ad 2))) (wn rfl) (r_field (Try.runUnderlying49 _) rfl (Try.sizeOf27 _) rfl rfl) (by simp only [f0, f1, f2]; rfl) ?_
      obtain ⟨x2, hx1, h⟩ := h
      refine st_val (Sl.v x2) (wn rfl) (r_load1 (Try.isAgg27 _) rfl (Cells.one hx1)) (by simp only [f0, f1, f2]; rfl) ?_
      refine st_one (wn rfl) ?_
      refine o_enter (args := #[Sl.v x2]) (r_enter Try.call27 rfl) (h.mono ?_)
      clear h
      rintro _ w_2 ⟨x3, rfl, h⟩
      refine ⟨_, _, rfl, (by simp only [f0, f1, f2]; rfl), ?_⟩
      obtain ⟨ad1, hx2, h⟩ := h
      refine st_val (.pointer (some ad1)) (wn rfl) (r_indexS (s := x1) (Try.runUnderlying42 _) (Try.sizeOf49 _) rfl rfl hx2) (by simp only [f0, f1, f2]; rfl) ?_
      refine st_val (.pointer (some (Addr.add ad1 2))) (wn rfl) (r_field (Try.runUnderlying49 _) rfl (Try.sizeOf27 _) rfl rfl) (by simp only [f0, f1, f2]; rfl) ?_
      obtain ⟨bk, off, cells, ety, hx3, hx4, hx5, h⟩ := h
      refine st_one (wn rfl) ?_
      refine o_storeB (b := bk) (o := off) (vs := [Sl.v x3]) (Try.sizeOf27 _) (congrArg (fun z => Value.pointer (some z)) hx3) rfl rfl rfl hx4 hx5 rfl (f3 _ _) (fun w_3 hO hb => ?_)
      replace h := h w_3 hO hb
      refine wpList_nil ?_
      refine block_normal ?_
      refine then_normal ?_
      refine wp_region_lit ?_
      refine st_val (.int .i64 (IntKind.i64.wrap (t9 + 1))) (wn rfl) rfl (by simp only [f0, f1, f2]; rfl) ?_
      refine st_val (.int .i64 (IntKind.i64.wrap (t9 + 1))) (wn rfl) rfl (by simp only [f0, f1, f2]; rfl) ?_
      refine wpList_nil ?_
      refine then_normal ?_
      obtain ⟨nv2, hl, h⟩ := h
      exact ⟨nv2, hl, _, (some_us rfl rfl rfl), h⟩
    · replace h := h.2 hc
      refine wp_exit ?_
      refine then_exit ?_
      refine then_exit ?_
      refine block_hit ?_
      refine then_normal ?_
      refine wp_seq ?_
      refine wp_region_lit ?_
      refine st_val (Sl.v x1) (wn rfl) rfl (by simp only [f0, f1, f2]; rfl) ?_
      refine st_val (Sl.v x1) (wn rfl) rfl (by simp only [f0, f1, f2]; rfl) ?_
      refine wpList_nil ?_
      refine then_normal ?_
      refine wp_ret ?_
      exact end_ret (r_res1 (v := Sl.v x1) Try.results33 ⟨rfl, trivial⟩) rfl h

/-- what is to be shown of a call of (*pavaneref19.Book).Find -/
def pavaneref19_Book_Find_vc (b : Addr) (id_ : Int) (R : Value → World → Prop) (w : World) : Prop :=
  ∃ (I_ : Nat → Int → World → Prop) (nv1 : Nat), I_ nv1 0 w ∧
  ∀ (nv : Nat) (i : Int) (w_ : World), I_ nv i w_ →
  ∃ x1 : Sl, Cells w_ (Addr.add b 0) [Sl.v x1] ∧
  (((decide (i < (↑(Sl.n x1) : Int))) = true →
  ∃ x2 : Sl, Cells w_ (Addr.add b 0) [Sl.v x2] ∧
  ∃ ad : Addr, SlAt x2 i 4 ad ∧
  ∃ x3 : Int, Cells w_ (Addr.add ad 0) [.int .i64 x3] ∧
  (((x3 == id_) = true →
  R (.int .i64 i) w_) ∧
  ((x3 == id_) = false →
  ∃ nv2 : Nat, nv2 < nv ∧ I_ nv2 (IntKind.i64.wrap (i + 1)) w_))) ∧
  ((decide (i < (↑(Sl.n x1) : Int))) = false →
  R (.int .i64 (-1)) w_))
theorem pavaneref19_Book_Find_wp (b : Addr) (id_ : Int) (R : Value → World → Prop) (w : World) (h : pavaneref19_Book_Find_vc b id_ R w) :
    Calls Try.prog 43 #[.pointer (some b), .int .i64 id_] w fun e w' => ∃ v, e = .returned v ∧ R v w' := by
  unfold pavaneref19_Book_Find_vc at h
  refine calls_of (k := 24) Try.func43 rfl Try.ntmps43 rfl rfl ?_
  simp only [List.replicate, List.cons_append, List.nil_append]
  refine wp_seq ?_
  refine wp_region_lit ?_
  refine st_val (.int .i64 0) (wn rfl) rfl (by simp only [f0, f1, f2]; rfl) ?_
  refine wpList_nil ?_
  refine then_normal ?_
  refine wp_seq ?_
  refine wp_seq ?_
  refine wp_region_lit ?_
  refine st_val (.int .i64 0) (wn rfl) rfl (by simp only [f0, f1, f2]; rfl) ?_
  refine wpList_nil ?_
  refine then_normal ?_
  refine wp_block ?_
  obtain ⟨I_, nv1, h0, hI⟩ := h
  refine wp_loop_ghost (fun nv' a' w' => ∃ i : Int, (∃ us : Nat → Value, a' = (⟨(fillin us 0 (some (.pointer (some b)) :: some (.int .i64 id_) :: some undef :: some undef :: none :: some (.int .i64 i) :: none :: none :: none :: none :: none :: none :: none :: none :: none :: none :: none :: none :: none :: none :: none :: none :: none :: none :: none :: none :: [])).toArray, []⟩ : Act)) ∧ I_ nv' i w') nv1 ?_ ?_
  · exact ⟨_, (some_us rfl rfl rfl), h0⟩
  · clear h0
    rintro nv a0 w_ ⟨i, ⟨us, hF⟩, h⟩
    simp only [fillin, Nat.reduceAdd] at hF
    subst hF
    replace h := hI _ _ _ h
    refine wp_seq ?_
    refine wp_seq ?_
    refine wp_region_lit ?_
    refine st_val (.int .i64 i) (wn rfl) rfl (by simp only [f0, f1, f2]; rfl) ?_
    refine st_val (.pointer (some b)) (wn rfl) rfl (by simp only [f0, f1, f2]; rfl) ?_
    refine st_val (.pointer (some b)) (wn rfl) rfl (by simp only [f0, f1, f2]; rfl) ?_
    refine st_val (.pointer (some (Addr.add b 0))) (wn rfl) (r_field (Try.runUnderlying64 _) rfl (Try.sizeOf42 _) rfl rfl) (by simp only [f0, f1, f2]; rfl) ?_
    obtain ⟨x1, hx, h⟩ := h
    refine st_val (Sl.v x1) (wn rfl) (r_load1 (Try.isAgg42 _) rfl (Cells.one hx)) (by simp only [f0, f1, f2]; rfl) ?_
    refine st_val (.int .i64 (↑(Sl.n x1) : Int)) (wn rfl) (r_len (s := x1) (Try.runUnderlying42 _) rfl) (by simp only [f0, f1, f2]; rfl) ?_
    refine st_val (.bool (decide (i < (↑(Sl.n x1) : Int)))) (wn rfl) rfl (by simp only [f0, f1, f2]; rfl) ?_
    refine wpList_nil ?_
    refine then_normal ?_
    refine wp_cond_split (t := (decide (i < (↑(Sl.n x1) : Int)))) rfl (fun hc => ?_) (fun hc => ?_)
    · replace h := h.1 hc
      refine wp_skip ?_
      refine then_normal ?_
      refine wp_seq ?_
      refine wp_block ?_
      refine wp_seq ?_
      refine wp_region_lit ?_
      refine st_val (.pointer (some b)) (wn rfl) rfl (by simp only [f0, f1, f2]; rfl) ?_
      refine st_val (.pointer (some b)) (wn rfl) rfl (by simp only [f0, f1, f2]; rfl) ?_
      refine st_val (.pointer (some (Addr.add b 0))) (wn rfl) (r_field (Try.runUnderlying64 _) rfl (Try.sizeOf42 _) rfl rfl) (by simp only [f0, f1, f2]; rfl) ?_
      obtain ⟨x2, hx1, h⟩ := h
      refine st_val (Sl.v x2) (wn rfl) (r_load1 (Try.isAgg42 _) rfl (Cells.one hx1)) (by simp only [f0, f1, f2]; rfl) ?_
      refine st_val (.int .i64 i) (wn rfl) rfl (by simp only [f0, f1, f2]; rfl) ?_
      obtain ⟨ad, hx2, h⟩ := h
      refine st_val (.pointer (some ad)) (wn rfl) (r_indexS (s := x2) (Try.runUnderlying42 _) (Try.sizeOf49 _) rfl rfl hx2) (by simp only [f0, f1, f2]; rfl) ?_
      refine st_val (.pointer (some (Addr.add ad 0))) (wn rfl) (r_field (Try.runUnderlying49 _) rfl (Try.sizeOf3 _) rfl rfl) (by simp only [f0, f1, f2]; rfl) ?_
      obtain ⟨x3, hx3, h⟩ := h
      refine st_val (.int .i64 x3) (wn rfl) (r_load1 (Try.isAgg3 _) rfl (Cells.one hx3)) (by simp only [f0, f1, f2]; rfl) ?_
      refine st_val (.int .i64 id_) (wn rfl) rfl (by simp only [f0, f1, f2]; rfl) ?_
      refine st_val (.bool (x3 == id_)) (wn rfl) rfl (by simp only [f0, f1, f2]; rfl) ?_
      refine wpList_nil ?_
      refine then_normal ?_
      refine wp_cond_split (t := (x3 == id_)) rfl (fun hc1 => ?_) (fun hc1 => ?_)
      · replace h := h.1 hc1
        refine wp_seq ?_
        refine wp_region_lit ?_
        refine st_val (.int .i64 i) (wn rfl) rfl (by simp only [f0, f1, f2]; rfl) ?_
        refine st_val (.int .i64 i) (wn rfl) rfl (by simp only [f0, f1, f2]; rfl) ?_
        refine wpList_nil ?_
        refine then_normal ?_
        refine wp_ret ?_
        refine block_ret ?_
        refine then_ret ?_
        refine then_ret ?_
        refine block_ret ?_
        refine then_ret ?_
        exact end_ret (r_res1 (v := .int .i64 i) Try.results43 ⟨rfl, trivial⟩) rfl h
      · replace h := h.2 hc1
        refine wp_skip ?_
        refine block_normal ?_
        refine then_normal ?_
        refine wp_region_lit ?_
        refine st_val (.int .i64 i) (wn rfl) rfl (by simp only [f0, f1, f2]; rfl) ?_
        refine st_val (.int .i64 (IntKind.i64.wrap (i + 1))) (wn rfl) rfl (by simp only [f0, f1, f2]; rfl) ?_
        refine st_val (.int .i64 (IntKind.i64.wrap (i + 1))) (wn rfl) rfl (by simp only [f0, f1, f2]; rfl) ?_
        refine wpList_nil ?_
        refine then_normal ?_
        obtain ⟨nv2, hl, h⟩ := h
        exact ⟨nv2, hl, _, (some_us rfl rfl rfl), h⟩
    · replace h := h.2 hc
      refine wp_exit ?_
      refine then_exit ?_
      refine then_exit ?_
      refine block_hit ?_
      refine then_normal ?_
      refine wp_seq ?_
      refine wp_region_lit ?_
      refine st_val (.int .i64 (-1)) (wn rfl) rfl (by simp only [f0, f1, f2]; rfl) ?_
      refine wpList_nil ?_
      refine then_normal ?_
      refine wp_ret ?_
      exact end_ret (r_res1 (v := .int .i64 (-1)) Try.results43 ⟨rfl, trivial⟩) rfl h

/-- what is to be shown of a call of slices.IndexFunc[[]api.Seat,api.Seat] -/
def slices_IndexFunc_api_Seat_vc (s : Sl) (f : Value) (R : Value → World → Prop) (w : World) : Prop :=
  ∃ (I_ : Nat → Int → World → Prop) (nv1 : Nat), I_ nv1 0 w ∧
  ∀ (nv : Nat) (t8 : Int) (w_ : World), I_ nv t8 w_ →
  (((decide (t8 < (↑(Sl.n s) : Int))) = true →
  ∃ ad : Addr, SlAt s t8 4 ad ∧
  ∃ x0 : Int, ∃ x1 : Int, ∃ x2 : Sl, ∃ x3 : Int, Cells w_ ad [.int .i64 x0, .int .i64 x1, Sl.v x2, .int .i64 x3] ∧
  ∃ (fid : FuncId) (cap : List Value), f = .func (.func fid) #[] cap.toArray ∧ (∀ (args : Array Value) (w : World), (callFunc fid args).run Try.prog w = .ok (.enter fid args) w) ∧
  Calls Try.prog fid (([.agg #[.int .i64 x0, .int .i64 x1, Sl.v x2, .int .i64 x3]] : List Value) ++ cap).toArray w_ (fun e w_1 => ∃ x4 : Bool, e = .returned (.bool x4) ∧
  ((x4 = true →
  R (.int .i64 t8) w_1) ∧
  (x4 = false →
  ∃ nv2 : Nat, nv2 < nv ∧ I_ nv2 (IntKind.i64.wrap (t8 + 1)) w_1)))) ∧
  ((decide (t8 < (↑(Sl.n s) : Int))) = false →
  R (.int .i64 (-1)) w_))
theorem slices_IndexFunc_api_Seat_wp (s : Sl) (f : Value) (R : Value → World → Prop) (w : World) (h : slices_IndexFunc_api_Seat_vc s f R w) :
    Calls Try.prog 41 #[Sl.v s, f] w fun e w' => ∃ v, e = .returned v ∧ R v w' := by
  unfold slices_IndexFunc_api_Seat_vc at h
  refine calls_of (k := 17) Try.func41 rfl Try.ntmps41 rfl rfl ?_
  simp only [List.replicate, List.cons_append, List.nil_append]
  refine wp_seq ?_
  refine wp_region_lit ?_
  refine st_val (.int .i64 0) (wn rfl) rfl (by simp only [f0, f1, f2]; rfl) ?_
  refine wpList_nil ?_
  refine then_normal ?_
  refine wp_seq ?_
  refine wp_seq ?_
  refine wp_region_lit ?_
  refine st_val (Sl.v s) (wn rfl) rfl (by simp only [f0, f1, f2]; rfl) ?_
  refine st_val (.int .i64 (↑(Sl.n s) : Int)) (wn rfl) (r_len (s := s) (Try.runUnderlying42 _) rfl) (by simp only [f0, f1, f2]; rfl) ?_
  refine st_val (.int .i64 0) (wn rfl) rfl (by simp only [f0, f1, f2]; rfl) ?_
  refine wpList_nil ?_
  refine then_normal ?_
  refine wp_block ?_
  obtain ⟨I_, nv1, h0, hI⟩ := h
  refine wp_loop_ghost (fun nv' a' w' => ∃ t8 : Int, (∃ us : Nat → Value, a' = (⟨(fillin us 0 (some (Sl.v s) :: some f :: some undef :: some undef :: none :: none :: some (Sl.v s) :: some (.int .i64 (↑(Sl.n s) : Int)) :: some (.int .i64 t8) :: none :: none :: none :: none :: none :: none :: none :: none :: none :: none :: [])).toArray, []⟩ : Act)) ∧ I_ nv' t8 w') nv1 ?_ ?_
  · exact ⟨_, (some_us rfl rfl rfl), h0⟩
  · clear h0
    rintro nv a0 w_ ⟨t8, ⟨us, hF⟩, h⟩
    simp only [fillin, Nat.reduceAdd] at hF
    subst hF
    replace h := hI _ _ _ h
    refine wp_seq ?_
    refine wp_region_lit ?_
    refine st_val (.bool (decide (t8 < (↑(Sl.n s) : Int)))) (wn rfl) rfl (by simp only [f0, f1, f2]; rfl) ?_
    refine wpList_nil ?_
    refine then_normal ?_
    refine wp_seq ?_
    refine wp_cond_split (t := (decide (t8 < (↑(Sl.n s) : Int)))) rfl (fun hc => ?_) (fun hc => ?_)
    · replace h := h.1 hc
      refine wp_skip ?_
      refine then_normal ?_
      refine wp_seq ?_
      refine wp_block ?_
      refine wp_seq ?_
      refine wp_region_lit ?_
      refine st_val (.int .i64 t8) (wn rfl) rfl (by simp only [f0, f1, f2]; rfl) ?_
      refine st_val (.int .i64 t8) (wn rfl) rfl (by simp only [f0, f1, f2]; rfl) ?_
      refine wpList_nil ?_
      refine then_normal ?_
      refine wp_seq ?_
      refine wp_region_lit ?_
      refine st_val (f) (wn rfl) rfl (by simp only [f0, f1, f2]; rfl) ?_
      refine st_val (Sl.v s) (wn rfl) rfl (by simp only [f0, f1, f2]; rfl) ?_
      refine st_val (.int .i64 t8) (wn rfl) rfl (by simp only [f0, f1, f2]; rfl) ?_
      obtain ⟨ad, hx, h⟩ := h
      refine st_val (.pointer (some ad)) (wn rfl) (r_indexS (s := s) (Try.runUnderlying42 _) (Try.sizeOf49 _) rfl rfl hx) (by simp only [f0, f1, f2]; rfl) ?_
      obtain ⟨x0, x1, x2, x3, hx1, h⟩ := h
      refine st_val (.agg #[.int .i64 x0, .int .i64 x1, Sl.v x2, .int .i64 x3]) (wn rfl) (r_loadN (Try.isAgg49 _) (Try.sizeOf49 _) rfl rfl hx1) (by simp only [f0, f1, f2]; rfl) ?_
      obtain ⟨fid, cap, hx2, hx3, h⟩ := h
      refine st_one (wn rfl) ?_
      refine o_enter (args := (([.agg #[.int .i64 x0, .int .i64 x1, Sl.v x2, .int .i64 x3]] : List Value) ++ cap).toArray) (r_enterC (first := []) (captured := cap) hx2 hx3 rfl) (h.mono ?_)
      clear h
      rintro _ w_1 ⟨x4, rfl, h⟩
      refine ⟨_, _, rfl, (by simp only [f0, f1, f2]; rfl), ?_⟩
      refine wpList_nil ?_
      refine then_normal ?_
      refine wp_cond_split (t := x4) rfl (fun hc1 => ?_) (fun hc1 => ?_)
      · replace h := h.1 hc1
        refine wp_seq ?_
        refine wp_region_lit ?_
        refine st_val (.int .i64 t8) (wn rfl) rfl (by simp only [f0, f1, f2]; rfl) ?_
        refine st_val (.int .i64 t8) (wn rfl) rfl (by simp only [f0, f1, f2]; rfl) ?_
        refine wpList_nil ?_
        refine then_normal ?_
        refine wp_ret ?_
        refine block_ret ?_
        refine then_ret ?_
        refine then_ret ?_
        refine block_ret ?_
        refine then_ret ?_
        exact end_ret (r_res1 (v := .int .i64 t8) Try.results41 ⟨rfl, trivial⟩) rfl h
      · replace h := h.2 hc1
        refine wp_skip ?_
        refine block_normal ?_
        refine then_normal ?_
        refine wp_region_lit ?_
        refine st_val (.int .i64 (IntKind.i64.wrap (t8 + 1))) (wn rfl) rfl (by simp only [f0, f1, f2]; rfl) ?_
        refine st_val (.int .i64 (IntKind.i64.wrap (t8 + 1))) (wn rfl) rfl (by simp only [f0, f1, f2]; rfl) ?_
        refine wpList_nil ?_
        refine then_normal ?_
        obtain ⟨nv2, hl, h⟩ := h
        exact ⟨nv2, hl, _, (some_us rfl rfl rfl), h⟩
    · replace h := h.2 hc
      refine wp_exit ?_
      refine then_exit ?_
      refine then_exit ?_
      refine block_hit ?_
      refine then_normal ?_
      refine wp_seq ?_
      refine wp_region_lit ?_
      refine st_val (.int .i64 (-1)) (wn rfl) rfl (by simp only [f0, f1, f2]; rfl) ?_
      refine wpList_nil ?_
      refine then_normal ?_
      refine wp_ret ?_
      exact end_ret (r_res1 (v := .int .i64 (-1)) Try.results41 ⟨rfl, trivial⟩) rfl h

/-- what is to be shown of a call of (*session.Book).Expire$1 -/
def session_Book_Expire_1_vc (s0 : Int) (s1 : Int) (s2 : Sl) (s3 : Int) (ccap0 : Addr) (ccap1 : Addr) (R : Value → World → Prop) (w : World) : Prop :=
  ∀ (b : Nat) (w_ : World), w.heap.size ≤ b → b < w_.heap.size → Only [] w w_ →
  ∃ J_ : World → Prop, (∀ (w_1 : World), J_ w_1 →
  ∃ x1 : Int, Cells w_1 ccap0 [.int .i64 x1] ∧
  R (.bool (decide (s3 < x1))) w_1) ∧
  (∃ x2 : Int, Cells w_ ccap0 [.int .i64 x2] ∧
  (((decide (s3 < x2)) = true →
  ∃ x3 : Sl, Cells w_ ccap1 [Sl.v x3] ∧
  ∃ x4 : Sl, ∃ w_2 : World, (Instr.buildSlice 34 1 #[(0, .int .i64 s0)]).run Try.prog w_ = .ok (Sl.v x4) w_2 ∧ Same [b] w_ w_2 ∧
  ∃ x5 : Sl, ∃ w_3 : World, (Builtin.append_ #[34, 34] 34 #[Sl.v x3, Sl.v x4]).run Try.prog w_2 = .ok (Sl.v x5) w_3 ∧ Same [b] w_2 w_3 ∧
  ∃ (bk off : Nat) (cells : List Value) (ety : TypeId), ccap1 = (⟨bk, off, none⟩ : Addr) ∧ Blk w_3 bk ety cells ∧ off + 1 ≤ cells.length ∧ b ≠ bk ∧ ∀ w_4 : World, Only [bk] w_3 w_4 → Blk w_4 bk ety (splice cells off [Sl.v x5]) →
  J_ w_4) ∧
  ((decide (s3 < x2)) = false →
  J_ w_)))
theorem session_Book_Expire_1_wp (s0 : Int) (s1 : Int) (s2 : Sl) (s3 : Int) (ccap0 : Addr) (ccap1 : Addr) (R : Value → World → Prop) (w : World) (h : session_Book_Expire_1_vc s0 s1 s2 s3 ccap0 ccap1 R w) :
    Calls Try.prog 32 #[.agg #[.int .i64 s0, .int .i64 s1, Sl.v s2, .int .i64 s3], .pointer (some ccap0), .pointer (some ccap1)] w fun e w' => ∃ v, e = .returned v ∧ R v w' := by
  unfold session_Book_Expire_1_vc at h
  refine calls_of (k := 15) Try.func32 rfl Try.ntmps32 rfl rfl ?_
  simp only [List.replicate, List.cons_append, List.nil_append]
  refine wp_seq ?_
  refine wp_region_lit ?_
  refine st_one (wn rfl) ?_
  refine o_boxB (zs := [.int .i64 s0, .int .i64 s1, Sl.v s2, .int .i64 s3]) rfl (fun b => by simp only [f0, f1, f2]; rfl) (fun b w_ hn hO hb => ?_)
  have hn_b : w.heap.size ≤ b := hn
  have hA : Only [] w w_ := hO
  refine st_val (.bool false) (wn rfl) rfl (by simp only [f0, f1, f2]; rfl) ?_
  refine wpList_nil ?_
  refine then_normal ?_
  replace h := h b w_ hn_b hb.lt hA
  obtain ⟨J_, hJ, h⟩ := h
  refine wp_seq_join (fun a' w' => (∃ us : Nat → Value, a' = (⟨(fillin us 0 (some (.agg #[.int .i64 s0, .int .i64 s1, Sl.v s2, .int .i64 s3]) :: some (.pointer (some ccap0)) :: some (.pointer (some ccap1)) :: some (.pointer (some ⟨b, 0, none⟩)) :: some (.bool false) :: none :: none :: none :: none :: none :: none :: none :: none :: none :: some undef :: some undef :: some undef :: some undef :: [])).toArray, []⟩ : Act)) ∧ Blk w' b 49 [.int .i64 s0, .int .i64 s1, Sl.v s2, .int .i64 s3] ∧ J_ w') ?_ ?_
  · clear h
    rintro a0 w_1 ⟨⟨us, hF⟩, hb1, h⟩
    simp only [fillin, Nat.reduceAdd] at hF
    subst hF
    replace h := hJ _ h
    refine wp_seq ?_
    refine wp_region_lit ?_
    refine st_val (.pointer (some ⟨b, 3, none⟩)) (wn rfl) (r_field (Try.runUnderlying49 _) rfl (Try.sizeOf3 _) rfl rfl) (by simp only [f0, f1, f2]; rfl) ?_
    refine st_val (.int .i64 s3) (wn rfl) (r_load1 (Try.isAgg3 _) rfl (hb1.cell 3)) (by simp only [f0, f1, f2]; rfl) ?_
    obtain ⟨x1, hx, h⟩ := h
    refine st_val (.int .i64 x1) (wn rfl) (r_load1 (Try.isAgg3 _) rfl (Cells.one hx)) (by simp only [f0, f1, f2]; rfl) ?_
    refine st_val (.bool (decide (s3 < x1))) (wn rfl) rfl (by simp only [f0, f1, f2]; rfl) ?_
    refine st_val (.bool (decide (s3 < x1))) (wn rfl) rfl (by simp only [f0, f1, f2]; rfl) ?_
    refine wpList_nil ?_
    refine then_normal ?_
    refine wp_ret ?_
    exact end_ret (r_res1 (v := .bool (decide (s3 < x1))) Try.results32 ⟨rfl, trivial⟩) rfl h
  · clear hJ
    refine wp_seq ?_
    refine wp_region_lit ?_
    refine st_val (.pointer (some ⟨b, 3, none⟩)) (wn rfl) (r_field (Try.runUnderlying49 _) rfl (Try.sizeOf3 _) rfl rfl) (by simp only [f0, f1, f2]; rfl) ?_
    refine st_val (.int .i64 s3) (wn rfl) (r_load1 (Try.isAgg3 _) rfl (hb.cell 3)) (by simp only [f0, f1, f2]; rfl) ?_
    obtain ⟨x2, hx1, h⟩ := h
    refine st_val (.int .i64 x2) (wn rfl) (r_load1 (Try.isAgg3 _) rfl (Cells.one hx1)) (by simp only [f0, f1, f2]; rfl) ?_
    refine st_val (.bool (decide (s3 < x2))) (wn rfl) rfl (by simp only [f0, f1, f2]; rfl) ?_
    refine wpList_nil ?_
    refine then_normal ?_
    refine wp_cond_split (t := (decide (s3 < x2))) rfl (fun hc => ?_) (fun hc => ?_)
    · replace h := h.1 hc
      refine wp_region_lit ?_
      obtain ⟨x3, hx2, h⟩ := h
      refine st_val (Sl.v x3) (wn rfl) (r_load1 (Try.isAgg34 _) rfl (Cells.one hx2)) (by simp only [f0, f1, f2]; rfl) ?_
      refine st_val (.pointer (some ⟨b, 0, none⟩)) (wn rfl) (r_field (Try.runUnderlying49 _) rfl (Try.sizeOf3 _) rfl rfl) (by simp only [f0, f1, f2]; rfl) ?_
      refine st_val (.int .i64 s0) (wn rfl) (r_load1 (Try.isAgg3 _) rfl (hb.cell 0)) (by simp only [f0, f1, f2]; rfl) ?_
      obtain ⟨x4, w_2, hr, hs, h⟩ := h
      refine st_one (wn rfl) ?_
      refine o_val (Sl.v x4) (r_buildSlice rfl hr) (by simp only [f0, f1, f2]; rfl) ?_
      have hb2 := hs.blk hb (by simp)
      obtain ⟨x5, w_3, hr1, hs1, h⟩ := h
      refine st_one (wn rfl) ?_
      refine o_val (Sl.v x5) (r_builtin_append rfl hr1) (by simp only [f0, f1, f2]; rfl) ?_
      have hb3 := hs1.blk hb2 (by simp)
      obtain ⟨bk, off, cells, ety, hx3, hx4, hx5, hne, h⟩ := h
      refine st_one (wn rfl) ?_
      refine o_storeB (b := bk) (o := off) (vs := [Sl.v x5]) (Try.sizeOf34 _) (congrArg (fun z => Value.pointer (some z)) hx3) rfl rfl rfl hx4 hx5 rfl (f3 _ _) (fun w_4 hO1 hb4 => ?_)
      replace h := h w_4 hO1 hb4
      have hb5 := hO1.blk hb3 (by simpa using hne)
      refine wpList_nil ?_
      refine then_normal ?_
      exact ⟨(some_us rfl rfl rfl), hb5, h⟩
    · replace h := h.2 hc
      refine wp_skip ?_
      refine then_normal ?_
      exact ⟨(some_us rfl rfl rfl), hb, h⟩

/-- what is to be shown of a call of pavanelaw19.over -/
def pavanelaw19_over_vc (l : Sl) (R : Value → World → Prop) (w : World) : Prop :=
  ∃ (I_ : Nat → Int → World → Prop) (nv1 : Nat), I_ nv1 0 w ∧
  ∀ (nv : Nat) (i : Int) (w_ : World), I_ nv i w_ →
  (((decide (i < (↑(Sl.n l) : Int))) = true →
  ∃ ad : Addr, SlAt l i 4 ad ∧
  ∃ x1 : Sl, Cells w_ (Addr.add ad 2) [Sl.v x1] ∧
  ∃ x2 : Sl, ∃ w_1 : World, (Instr.buildSlice 61 1 #[(0, Sl.v x1)]).run Try.prog w_ = .ok (Sl.v x2) w_1 ∧
  Calls Try.prog 22 #[Sl.v x2] w_1 (fun e w_2 => ∃ x3 : Bool, e = .returned (.bool x3) ∧
  ∃ ad1 : Addr, SlAt l i 4 ad1 ∧
  ∃ (bk off : Nat) (cells : List Value) (ety : TypeId), ad1 = (⟨bk, off, none⟩ : Addr) ∧ Blk w_2 bk ety cells ∧ off + 4 ≤ cells.length ∧ ∀ w_3 : World, Only [bk] w_2 w_3 → Blk w_3 bk ety (splice cells off [.int .i64 (-7), .int .i64 0, Sl.v Sl.nil, .int .i64 0]) →
  ∃ nv2 : Nat, nv2 < nv ∧ I_ nv2 (IntKind.i64.wrap (i + 1)) w_3)) ∧
  ((decide (i < (↑(Sl.n l) : Int))) = false →
  R (.tuple #[]) w_))
theorem pavanelaw19_over_wp (l : Sl) (R : Value → World → Prop) (w : World) (h : pavanelaw19_over_vc l R w) :
    Calls Try.prog 24 #[Sl.v l] w fun e w' => ∃ v, e = .returned v ∧ R v w' := by
  unfold pavanelaw19_over_vc at h
  refine calls_of (k := 19) Try.func24 rfl Try.ntmps24 rfl rfl ?_
  simp only [List.replicate, List.cons_append, List.nil_append]
  refine wp_seq ?_
  refine wp_region_lit ?_
  refine st_val (.int .i64 0) (wn rfl) rfl (by simp only [f0, f1, f2]; rfl) ?_
  refine wpList_nil ?_
  refine then_normal ?_
  refine wp_block ?_
  obtain ⟨I_, nv1, h0, hI⟩ := h
  refine wp_loop_ghost (fun nv' a' w' => ∃ i : Int, (∃ us : Nat → Value, a' = (⟨(fillin us 0 (some (Sl.v l) :: some undef :: some (.int .i64 i) :: none :: none :: none :: none :: none :: none :: none :: none :: none :: none :: none :: none :: none :: none :: none :: none :: none :: [])).toArray, []⟩ : Act)) ∧ I_ nv' i w') nv1 ?_ ?_
  · exact ⟨_, (some_us rfl rfl rfl), h0⟩
  · clear h0
    rintro nv a0 w_ ⟨i, ⟨us, hF⟩, h⟩
    simp only [fillin, Nat.reduceAdd] at hF
    subst hF
    replace h := hI _ _ _ h
    refine wp_seq ?_
    refine wp_seq ?_
    refine wp_region_lit ?_
    refine st_val (.int .i64 i) (wn rfl) rfl (by simp only [f0, f1, f2]; rfl) ?_
    refine st_val (Sl.v l) (wn rfl) rfl (by simp only [f0, f1, f2]; rfl) ?_
    refine st_val (.int .i64 (↑(Sl.n l) : Int)) (wn rfl) (r_len (s := l) (Try.runUnderlying42 _) rfl) (by simp only [f0, f1, f2]; rfl) ?_
    refine st_val (.bool (decide (i < (↑(Sl.n l) : Int)))) (wn rfl) rfl (by simp only [f0, f1, f2]; rfl) ?_
    refine wpList_nil ?_
    refine then_normal ?_
    refine wp_cond_split (t := (decide (i < (↑(Sl.n l) : Int)))) rfl (fun hc => ?_) (fun hc => ?_)
    · replace h := h.1 hc
      refine wp_skip ?_
      refine then_normal ?_
      refine wp_seq ?_
      refine wp_block ?_
      refine wp_seq ?_
      refine wp_region_lit ?_
      refine st_val (Sl.v l) (wn rfl) rfl (by simp only [f0, f1, f2]; rfl) ?_
      refine st_val (.int .i64 i) (wn rfl) rfl (by simp only [f0, f1, f2]; rfl) ?_
      obtain ⟨ad, hx, h⟩ := h
      refine st_val (.pointer (some ad)) (wn rfl) (r_indexS (s := l) (Try.runUnderlying42 _) (Try.sizeOf49 _) rfl rfl hx) (by simp only [f0, f1, f2]; rfl) ?_
      refine st_val (.pointer (some (Addr.add ad 2))) (wn rfl) (r_field (Try.runUnderlying49 _) rfl (Try.sizeOf27 _) rfl rfl) (by simp only [f0, f1, f2]; rfl) ?_
      obtain ⟨x1, hx1, h⟩ := h
      refine st_val (Sl.v x1) (wn rfl) (r_load1 (Try.isAgg27 _) rfl (Cells.one hx1)) (by simp only [f0, f1, f2]; rfl) ?_
      obtain ⟨x2, w_1, hr, h⟩ := h
      refine st_one (wn rfl) ?_
      refine o_val (Sl.v x2) (r_buildSlice rfl hr) (by simp only [f0, f1, f2]; rfl) ?_
      refine st_one (wn rfl) ?_
      refine o_enter (args := #[Sl.v x2]) (r_enter Try.call22 rfl) (h.mono ?_)
      clear h
      rintro _ w_2 ⟨x3, rfl, h⟩
      refine ⟨_, _, rfl, (by simp only [f0, f1, f2]; rfl), ?_⟩
      refine wpList_nil ?_
      refine then_normal ?_
      refine wp_region_lit ?_
      refine st_val (Sl.v l) (wn rfl) rfl (by simp only [f0, f1, f2]; rfl) ?_
      refine st_val (.int .i64 i) (wn rfl) rfl (by simp only [f0, f1, f2]; rfl) ?_
      refine st_val (.agg #[.int .i64 (-7), .int .i64 0, Sl.v Sl.nil, .int .i64 0]) (wn rfl) (r_build (ps' := [(0, .int .i64 (-7))]) rfl (by kernel_rfl)) (by simp only [f0, f1, f2]; rfl) ?_
      obtain ⟨ad1, hx2, h⟩ := h
      refine st_val (.pointer (some ad1)) (wn rfl) (r_indexS (s := l) (Try.runUnderlying42 _) (Try.sizeOf49 _) rfl rfl hx2) (by simp only [f0, f1, f2]; rfl) ?_
      obtain ⟨bk, off, cells, ety, hx3, hx4, hx5, h⟩ := h
      refine st_one (wn rfl) ?_
      refine o_storeB (b := bk) (o := off) (vs := [.int .i64 (-7), .int .i64 0, Sl.v Sl.nil, .int .i64 0]) (Try.sizeOf49 _) (congrArg (fun z => Value.pointer (some z)) hx3) rfl rfl rfl hx4 hx5 rfl (f3 _ _) (fun w_3 hO hb => ?_)
      replace h := h w_3 hO hb
      refine wpList_nil ?_
      refine block_normal ?_
      refine then_normal ?_
      refine wp_region_lit ?_
      refine st_val (.int .i64 i) (wn rfl) rfl (by simp only [f0, f1, f2]; rfl) ?_
      refine st_val (.int .i64 (IntKind.i64.wrap (i + 1))) (wn rfl) rfl (by simp only [f0, f1, f2]; rfl) ?_
      refine st_val (.int .i64 (IntKind.i64.wrap (i + 1))) (wn rfl) rfl (by simp only [f0, f1, f2]; rfl) ?_
      refine wpList_nil ?_
      refine then_normal ?_
      obtain ⟨nv2, hl, h⟩ := h
      exact ⟨nv2, hl, _, (some_us rfl rfl rfl), h⟩
    · replace h := h.2 hc
      refine wp_exit ?_
      refine then_exit ?_
      refine then_exit ?_
      refine block_hit ?_
      exact end_normal (r_resN (vs := []) Try.results24 rfl trivial) rfl h

/-- what is to be shown of a call of (*session.Book).Expire -/
def session_Book_Expire_vc (b : Addr) (now : Int) (R : Value → World → Prop) (w : World) : Prop :=
  ∀ (b1 : Nat) (b2 : Nat) (w_1 : World), w.heap.size ≤ b1 → b1 < w_1.heap.size → w.heap.size ≤ b2 → b2 < w_1.heap.size → Only [] w w_1 →
  ∃ x1 : Sl, Cells w_1 (Addr.add (Addr.add b 0) 0) [Sl.v x1] ∧
  ∀ (_ : Blk w_1 b1 3 [.int .i64 now]), ∀ (_ : Blk w_1 b2 34 [Sl.v Sl.nil]),
  Calls Try.prog 31 #[Sl.v x1, .func (.func 32) #[] #[.pointer (some ⟨b1, 0, none⟩), .pointer (some ⟨b2, 0, none⟩)]] w_1 (fun e w_2 => ∃ x2 : Sl, e = .returned (Sl.v x2) ∧ Same [b1] w_1 w_2 ∧ ∃ vb2 : Sl, Blk w_2 b2 34 [Sl.v vb2] ∧
  ∃ (bk off : Nat) (cells : List Value) (ety : TypeId), Addr.add (Addr.add b 0) 0 = (⟨bk, off, none⟩ : Addr) ∧ Blk w_2 bk ety cells ∧ off + 1 ≤ cells.length ∧ b1 ≠ bk ∧ b2 ≠ bk ∧ ∀ w_3 : World, Only [bk] w_2 w_3 → Blk w_3 bk ety (splice cells off [Sl.v x2]) →
  R (Sl.v vb2) w_3)
theorem session_Book_Expire_wp (b : Addr) (now : Int) (R : Value → World → Prop) (w : World) (h : session_Book_Expire_vc b now R w) :
    Calls Try.prog 13 #[.pointer (some b), .int .i64 now] w fun e w' => ∃ v, e = .returned v ∧ R v w' := by
  unfold session_Book_Expire_vc at h
  refine calls_of (k := 16) Try.func13 rfl Try.ntmps13 rfl rfl ?_
  simp only [List.replicate, List.cons_append, List.nil_append]
  refine wp_seq ?_
  refine wp_region_lit ?_
  refine st_one (wn rfl) ?_
  refine o_boxB (zs := [.int .i64 now]) rfl (fun b => by simp only [f0, f1, f2]; rfl) (fun b1 w_ hn hO hb => ?_)
  have hn_b1 : w.heap.size ≤ b1 := hn
  have hA : Only [] w w_ := hO
  refine st_val (Sl.v Sl.nil) (wn rfl) rfl (by simp only [f0, f1, f2]; rfl) ?_
  refine wpList_nil ?_
  refine then_normal ?_
  refine wp_seq ?_
  refine wp_region_lit ?_
  refine st_one (wn rfl) ?_
  refine o_allocB (zs := [Sl.v Sl.nil]) (Try.zeroValue34 _) rfl (fun b => by simp only [f0, f1, f2]; rfl) (fun b2 w_1 hn1 hO1 hb1 => ?_)
  have hne : b2 ≠ b1 := by have := hb.lt; omega
  have hn_b2 : w.heap.size ≤ b2 := Nat.le_trans hA.size hn1
  have hA1 := hA.tr0 hO1
  have hb2 := hO1.blk hb (by simp)
  refine wpList_nil ?_
  refine then_normal ?_
  refine wp_seq ?_
  refine wp_region_lit ?_
  refine st_val (.pointer (some b)) (wn rfl) rfl (by simp only [f0, f1, f2]; rfl) ?_
  refine st_val (.pointer (some b)) (wn rfl) rfl (by simp only [f0, f1, f2]; rfl) ?_
  refine st_val (.pointer (some b)) (wn rfl) rfl (by simp only [f0, f1, f2]; rfl) ?_
  refine st_val (.pointer (some (Addr.add b 0))) (wn rfl) (r_field (Try.runUnderlying47 _) rfl (Try.sizeOf45 _) rfl rfl) (by simp only [f0, f1, f2]; rfl) ?_
  refine st_val (.pointer (some (Addr.add (Addr.add b 0) 0))) (wn rfl) (r_field (Try.runUnderlying45 _) rfl (Try.sizeOf42 _) rfl rfl) (by simp only [f0, f1, f2]; rfl) ?_
  replace h := h b1 b2 w_1 hn_b1 hb2.lt hn_b2 hb1.lt hA1
  obtain ⟨x1, hx, h⟩ := h
  refine st_val (Sl.v x1) (wn rfl) (r_load1 (Try.isAgg42 _) rfl (Cells.one hx)) (by simp only [f0, f1, f2]; rfl) ?_
  refine st_val (.func (.func 32) #[] #[.pointer (some ⟨b1, 0, none⟩), .pointer (some ⟨b2, 0, none⟩)]) (wn rfl) (r_makeFunc (fv := []) (cv := [.pointer (some ⟨b1, 0, none⟩), .pointer (some ⟨b2, 0, none⟩)]) rfl rfl) (by simp only [f0, f1, f2]; rfl) ?_
  replace h := h hb2 hb1
  refine st_one (wn rfl) ?_
  refine o_enter (args := #[Sl.v x1, .func (.func 32) #[] #[.pointer (some ⟨b1, 0, none⟩), .pointer (some ⟨b2, 0, none⟩)]]) (r_enter Try.call31 rfl) (h.mono ?_)
  clear h
  rintro _ w_2 ⟨x2, rfl, hs, vb2, hb3, h⟩
  refine ⟨_, _, rfl, (by simp only [f0, f1, f2]; rfl), ?_⟩
  have hb4 := hs.blk hb2 (by simp)
  refine st_val (.pointer (some b)) (wn rfl) rfl (by simp only [f0, f1, f2]; rfl) ?_
  refine st_val (.pointer (some (Addr.add b 0))) (wn rfl) (r_field (Try.runUnderlying47 _) rfl (Try.sizeOf45 _) rfl rfl) (by simp only [f0, f1, f2]; rfl) ?_
  refine st_val (.pointer (some (Addr.add (Addr.add b 0) 0))) (wn rfl) (r_field (Try.runUnderlying45 _) rfl (Try.sizeOf42 _) rfl rfl) (by simp only [f0, f1, f2]; rfl) ?_
  obtain ⟨bk, off, cells, ety, hx1, hx2, hx3, hne1, hne2, h⟩ := h
  refine st_one (wn rfl) ?_
  refine o_storeB (b := bk) (o := off) (vs := [Sl.v x2]) (Try.sizeOf42 _) (congrArg (fun z => Value.pointer (some z)) hx1) rfl rfl rfl hx2 hx3 rfl (f3 _ _) (fun w_3 hO2 hb5 => ?_)
  replace h := h w_3 hO2 hb5
  have hb6 := hO2.blk hb4 (by simpa using hne1)
  have hb7 := hO2.blk hb3 (by simpa using hne2)
  refine wpList_nil ?_
  refine then_normal ?_
  refine wp_seq ?_
  refine wp_region_lit ?_
  refine st_val (Sl.v vb2) (wn rfl) (r_load1 (Try.isAgg34 _) rfl (hb7.cell 0)) (by simp only [f0, f1, f2]; rfl) ?_
  refine st_val (Sl.v vb2) (wn rfl) rfl (by simp only [f0, f1, f2]; rfl) ?_
  refine wpList_nil ?_
  refine then_normal ?_
  refine wp_ret ?_
  exact end_ret (r_res1 (v := Sl.v vb2) Try.results13 ⟨rfl, trivial⟩) rfl h

/-- what is to be shown of a call of pavanelaw01.Lent -/
def pavanelaw01_Lent_vc (b : Sl) (R : Value → World → Prop) (w : World) : Prop :=
  ∃ x1 : Sl, ∃ w_ : World, (Instr.makeSlice 27 (.int .i64 (↑(Sl.n b) : Int)) (.int .i64 (IntKind.i64.wrap ((↑(Sl.n b) : Int) + 1)))).run Try.prog w = .ok (Sl.v x1) w_ ∧
  ∃ x2 : Int, ∃ w_1 : World, (Builtin.copy_ #[27, 27] 3 #[Sl.v x1, Sl.v b]).run Try.prog w_ = .ok (.int .i64 x2) w_1 ∧
  ∃ hi : Nat, (IntKind.i64.wrap ((↑(Sl.n b) : Int) + 1) = ↑hi ∧ 0 ≤ hi ∧ hi ≤ (Sl.c x1) ∧ (Sl.c x1) ≤ Sl.c x1) ∧
  ∃ ad : Addr, SlAt (Sl.cut x1 0 hi (Sl.c x1) 1) (↑(Sl.n b) : Int) 1 ad ∧
  ∃ (bk off : Nat) (cells : List Value) (ety : TypeId), ad = (⟨bk, off, none⟩ : Addr) ∧ Blk w_1 bk ety cells ∧ off + 1 ≤ cells.length ∧ ∀ w_2 : World, Only [bk] w_1 w_2 → Blk w_2 bk ety (splice cells off [.int .u8 77]) →
  R (Sl.v x1) w_2
theorem pavanelaw01_Lent_wp (b : Sl) (R : Value → World → Prop) (w : World) (h : pavanelaw01_Lent_vc b R w) :
    Calls Try.prog 28 #[Sl.v b] w fun e w' => ∃ v, e = .returned v ∧ R v w' := by
  unfold pavanelaw01_Lent_vc at h
  refine calls_of (k := 21) Try.func28 rfl Try.ntmps28 rfl rfl ?_
  simp only [List.replicate, List.cons_append, List.nil_append]
  refine wp_seq ?_
  refine wp_region_lit ?_
  refine st_val (Sl.v Sl.nil) (wn rfl) rfl (by simp only [f0, f1, f2]; rfl) ?_
  refine wpList_nil ?_
  refine then_normal ?_
  refine wp_seq ?_
  refine wp_region_lit ?_
  refine st_val (Sl.v b) (wn rfl) rfl (by simp only [f0, f1, f2]; rfl) ?_
  refine st_val (.int .i64 (↑(Sl.n b) : Int)) (wn rfl) (r_len (s := b) (Try.runUnderlying27 _) rfl) (by simp only [f0, f1, f2]; rfl) ?_
  refine st_val (Sl.v b) (wn rfl) rfl (by simp only [f0, f1, f2]; rfl) ?_
  refine st_val (.int .i64 (↑(Sl.n b) : Int)) (wn rfl) (r_len (s := b) (Try.runUnderlying27 _) rfl) (by simp only [f0, f1, f2]; rfl) ?_
  refine st_val (.int .i64 (IntKind.i64.wrap ((↑(Sl.n b) : Int) + 1))) (wn rfl) rfl (by simp only [f0, f1, f2]; rfl) ?_
  obtain ⟨x1, w_, hr, h⟩ := h
  refine st_one (wn rfl) ?_
  refine o_val (Sl.v x1) (r_makeSlice rfl rfl hr) (by simp only [f0, f1, f2]; rfl) ?_
  refine st_val (Sl.v x1) (wn rfl) rfl (by simp only [f0, f1, f2]; rfl) ?_
  refine wpList_nil ?_
  refine then_normal ?_
  refine wp_seq ?_
  refine wp_region_lit ?_
  refine st_val (Sl.v x1) (wn rfl) rfl (by simp only [f0, f1, f2]; rfl) ?_
  refine st_val (Sl.v b) (wn rfl) rfl (by simp only [f0, f1, f2]; rfl) ?_
  obtain ⟨x2, w_1, hr1, h⟩ := h
  refine st_one (wn rfl) ?_
  refine o_val (.int .i64 x2) (r_builtin_copy rfl hr1) (by simp only [f0, f1, f2]; rfl) ?_
  refine wpList_nil ?_
  refine then_normal ?_
  refine wp_seq ?_
  refine wp_region_lit ?_
  refine st_val (Sl.v x1) (wn rfl) rfl (by simp only [f0, f1, f2]; rfl) ?_
  refine st_val (Sl.v b) (wn rfl) rfl (by simp only [f0, f1, f2]; rfl) ?_
  refine st_val (.int .i64 (↑(Sl.n b) : Int)) (wn rfl) (r_len (s := b) (Try.runUnderlying27 _) rfl) (by simp only [f0, f1, f2]; rfl) ?_
  refine st_val (.int .i64 (IntKind.i64.wrap ((↑(Sl.n b) : Int) + 1))) (wn rfl) rfl (by simp only [f0, f1, f2]; rfl) ?_
  obtain ⟨hi, hx, h⟩ := h
  refine st_val (Sl.v (Sl.cut x1 0 hi (Sl.c x1) 1)) (wn rfl) (r_slice010 (s := x1) (Try.runUnderlying27 _) (Try.sizeOf5 _) rfl (congrArg (Value.int _) (hx.1)) (by first | exact hx.2.1 | omega) (by first | exact hx.2.2.1 | omega) (by first | exact hx.2.2.2 | omega)) (by simp only [f0, f1, f2]; rfl) ?_
  refine st_val (Sl.v b) (wn rfl) rfl (by simp only [f0, f1, f2]; rfl) ?_
  refine st_val (.int .i64 (↑(Sl.n b) : Int)) (wn rfl) (r_len (s := b) (Try.runUnderlying27 _) rfl) (by simp only [f0, f1, f2]; rfl) ?_
  obtain ⟨ad, hx1, h⟩ := h
  refine st_val (.pointer (some ad)) (wn rfl) (r_indexS (s := Sl.cut x1 0 hi (Sl.c x1) 1) (Try.runUnderlying27 _) (Try.sizeOf5 _) rfl rfl hx1) (by simp only [f0, f1, f2]; rfl) ?_
  obtain ⟨bk, off, cells, ety, hx2, hx3, hx4, h⟩ := h
  refine st_one (wn rfl) ?_
  refine o_storeB (b := bk) (o := off) (vs := [.int .u8 77]) (Try.sizeOf5 _) (congrArg (fun z => Value.pointer (some z)) hx2) rfl rfl rfl hx3 hx4 rfl (f3 _ _) (fun w_2 hO hb => ?_)
  replace h := h w_2 hO hb
  refine wpList_nil ?_
  refine then_normal ?_
  refine wp_seq ?_
  refine wp_region_lit ?_
  refine st_val (Sl.v x1) (wn rfl) rfl (by simp only [f0, f1, f2]; rfl) ?_
  refine st_val (Sl.v x1) (wn rfl) rfl (by simp only [f0, f1, f2]; rfl) ?_
  refine wpList_nil ?_
  refine then_normal ?_
  refine wp_ret ?_
  exact end_ret (r_res1 (v := Sl.v x1) Try.results28 ⟨rfl, trivial⟩) rfl h

/-- what is to be shown of a call of bytes.Clone -/
def bytes_Clone_vc (b : Sl) (R : Value → World → Prop) (w : World) : Prop :=
  (((Option.isNone (Sl.a b)) = true →
  R (Sl.v Sl.nil) w) ∧
  ((Option.isNone (Sl.a b)) = false →
  ∃ x1 : Sl, ∃ w_ : World, (Instr.buildSlice 27 0 #[]).run Try.prog w = .ok (Sl.v x1) w_ ∧
  ∃ x2 : Sl, ∃ w_1 : World, (Builtin.append_ #[27, 27] 27 #[Sl.v x1, Sl.v b]).run Try.prog w_ = .ok (Sl.v x2) w_1 ∧
  R (Sl.v x2) w_1))
theorem bytes_Clone_wp (b : Sl) (R : Value → World → Prop) (w : World) (h : bytes_Clone_vc b R w) :
    Calls Try.prog 27 #[Sl.v b] w fun e w' => ∃ v, e = .returned v ∧ R v w' := by
  unfold bytes_Clone_vc at h
  refine calls_of (k := 7) Try.func27 rfl Try.ntmps27 rfl rfl ?_
  simp only [List.replicate, List.cons_append, List.nil_append]
  refine wp_seq ?_
  refine wp_region_lit ?_
  refine st_val (Sl.v Sl.nil) (wn rfl) rfl (by simp only [f0, f1, f2]; rfl) ?_
  refine wpList_nil ?_
  refine then_normal ?_
  refine wp_seq ?_
  refine wp_seq ?_
  refine wp_region_lit ?_
  refine st_val (Sl.v b) (wn rfl) rfl (by simp only [f0, f1, f2]; rfl) ?_
  refine st_val (.bool (Option.isNone (Sl.a b))) (wn rfl) (r_eqlSlNilR (Try.runUnderlying27 _) rfl rfl) (by simp only [f0, f1, f2]; rfl) ?_
  refine wpList_nil ?_
  refine then_normal ?_
  refine wp_cond_split (t := (Option.isNone (Sl.a b))) rfl (fun hc => ?_) (fun hc => ?_)
  · replace h := h.1 hc
    refine wp_seq ?_
    refine wp_region_lit ?_
    refine st_val (Sl.v Sl.nil) (wn rfl) rfl (by simp only [f0, f1, f2]; rfl) ?_
    refine wpList_nil ?_
    refine then_normal ?_
    refine wp_ret ?_
    refine then_ret ?_
    exact end_ret (r_res1 (v := Sl.v Sl.nil) Try.results27 ⟨rfl, trivial⟩) rfl h
  · replace h := h.2 hc
    refine wp_skip ?_
    refine then_normal ?_
    refine wp_seq ?_
    refine wp_region_lit ?_
    obtain ⟨x1, w_, hr, h⟩ := h
    refine st_one (wn rfl) ?_
    refine o_val (Sl.v x1) (r_buildSlice rfl hr) (by simp only [f0, f1, f2]; rfl) ?_
    refine st_val (Sl.v b) (wn rfl) rfl (by simp only [f0, f1, f2]; rfl) ?_
    obtain ⟨x2, w_1, hr1, h⟩ := h
    refine st_one (wn rfl) ?_
    refine o_val (Sl.v x2) (r_builtin_append rfl hr1) (by simp only [f0, f1, f2]; rfl) ?_
    refine st_val (Sl.v x2) (wn rfl) rfl (by simp only [f0, f1, f2]; rfl) ?_
    refine wpList_nil ?_
    refine then_normal ?_
    refine wp_ret ?_
    exact end_ret (r_res1 (v := Sl.v x2) Try.results27 ⟨rfl, trivial⟩) rfl h

/-- what is to be shown of a call of (*session.row).at -/
def session_row_at_vc (r : Addr) (id_ : Int) (R : Value → World → Prop) (w : World) : Prop :=
  ∃ x1 : Sl, Cells w (Addr.add r 0) [Sl.v x1] ∧
  Calls Try.prog 38 #[Sl.v x1, .int .i64 id_, .func (.func 39) #[] #[]] w (fun e w_ => ∃ x0 : Int, ∃ x11 : Bool, e = .returned (.tuple #[.int .i64 x0, .bool x11]) ∧
  R (.tuple #[.int .i64 x0, .bool x11]) w_)
theorem session_row_at_wp (r : Addr) (id_ : Int) (R : Value → World → Prop) (w : World) (h : session_row_at_vc r id_ R w) :
    Calls Try.prog 26 #[.pointer (some r), .int .i64 id_] w fun e w' => ∃ v, e = .returned v ∧ R v w' := by
  unfold session_row_at_vc at h
  refine calls_of (k := 12) Try.func26 rfl Try.ntmps26 rfl rfl ?_
  simp only [List.replicate, List.cons_append, List.nil_append]
  refine wp_seq ?_
  refine wp_region_lit ?_
  refine st_val (.int .i64 0) (wn rfl) rfl (by simp only [f0, f1, f2]; rfl) ?_
  refine st_val (.bool false) (wn rfl) rfl (by simp only [f0, f1, f2]; rfl) ?_
  refine wpList_nil ?_
  refine then_normal ?_
  refine wp_seq ?_
  refine wp_region_lit ?_
  refine st_val (.pointer (some r)) (wn rfl) rfl (by simp only [f0, f1, f2]; rfl) ?_
  refine st_val (.pointer (some r)) (wn rfl) rfl (by simp only [f0, f1, f2]; rfl) ?_
  refine st_val (.pointer (some (Addr.add r 0))) (wn rfl) (r_field (Try.runUnderlying45 _) rfl (Try.sizeOf42 _) rfl rfl) (by simp only [f0, f1, f2]; rfl) ?_
  obtain ⟨x1, hx, h⟩ := h
  refine st_val (Sl.v x1) (wn rfl) (r_load1 (Try.isAgg42 _) rfl (Cells.one hx)) (by simp only [f0, f1, f2]; rfl) ?_
  refine st_val (.int .i64 id_) (wn rfl) rfl (by simp only [f0, f1, f2]; rfl) ?_
  refine st_one (wn rfl) ?_
  refine o_enter (args := #[Sl.v x1, .int .i64 id_, .func (.func 39) #[] #[]]) (r_enter Try.call38 rfl) (h.mono ?_)
  clear h
  rintro _ w_ ⟨x0, x11, rfl, h⟩
  refine ⟨_, _, rfl, (by simp only [f0, f1, f2]; rfl), ?_⟩
  refine st_val (.int .i64 x0) (wn rfl) rfl (by simp only [f0, f1, f2]; rfl) ?_
  refine st_val (.bool x11) (wn rfl) rfl (by simp only [f0, f1, f2]; rfl) ?_
  refine st_val (.int .i64 x0) (wn rfl) rfl (by simp only [f0, f1, f2]; rfl) ?_
  refine st_val (.bool x11) (wn rfl) rfl (by simp only [f0, f1, f2]; rfl) ?_
  refine wpList_nil ?_
  refine then_normal ?_
  refine wp_ret ?_
  exact end_ret (r_resN (vs := [.int .i64 x0, .bool x11]) Try.results26 rfl ⟨rfl, rfl, trivial⟩) rfl h

/-- what is to be shown of a call of (*session.row).at$1 -/
def session_row_at_1_vc (s0 : Int) (s1 : Int) (s2 : Sl) (s3 : Int) (id_ : Int) (R : Value → World → Prop) (w : World) : Prop :=
  ∀ (b : Nat) (w_ : World), w.heap.size ≤ b → b < w_.heap.size → Only [] w w_ →
  Calls Try.prog 40 #[.int .i64 s0, .int .i64 id_] w_ (fun e w_1 => ∃ x1 : Int, e = .returned (.int .i64 x1) ∧ Same [b] w_ w_1 ∧
  R (.int .i64 x1) w_1)
theorem session_row_at_1_wp (s0 : Int) (s1 : Int) (s2 : Sl) (s3 : Int) (id_ : Int) (R : Value → World → Prop) (w : World) (h : session_row_at_1_vc s0 s1 s2 s3 id_ R w) :
    Calls Try.prog 39 #[.agg #[.int .i64 s0, .int .i64 s1, Sl.v s2, .int .i64 s3], .int .i64 id_] w fun e w' => ∃ v, e = .returned v ∧ R v w' := by
  unfold session_row_at_1_vc at h
  refine calls_of (k := 7) Try.func39 rfl Try.ntmps39 rfl rfl ?_
  simp only [List.replicate, List.cons_append, List.nil_append]
  refine wp_seq ?_
  refine wp_region_lit ?_
  refine st_one (wn rfl) ?_
  refine o_boxB (zs := [.int .i64 s0, .int .i64 s1, Sl.v s2, .int .i64 s3]) rfl (fun b => by simp only [f0, f1, f2]; rfl) (fun b w_ hn hO hb => ?_)
  have hn_b : w.heap.size ≤ b := hn
  have hA : Only [] w w_ := hO
  refine st_val (.int .i64 0) (wn rfl) rfl (by simp only [f0, f1, f2]; rfl) ?_
  refine wpList_nil ?_
  refine then_normal ?_
  refine wp_seq ?_
  refine wp_region_lit ?_
  refine st_val (.pointer (some ⟨b, 0, none⟩)) (wn rfl) (r_field (Try.runUnderlying49 _) rfl (Try.sizeOf3 _) rfl rfl) (by simp only [f0, f1, f2]; rfl) ?_
  refine st_val (.int .i64 s0) (wn rfl) (r_load1 (Try.isAgg3 _) rfl (hb.cell 0)) (by simp only [f0, f1, f2]; rfl) ?_
  refine st_val (.int .i64 id_) (wn rfl) rfl (by simp only [f0, f1, f2]; rfl) ?_
  replace h := h b w_ hn_b hb.lt hA
  refine st_one (wn rfl) ?_
  refine o_enter (args := #[.int .i64 s0, .int .i64 id_]) (r_enter Try.call40 rfl) (h.mono ?_)
  clear h
  rintro _ w_1 ⟨x1, rfl, hs, h⟩
  refine ⟨_, _, rfl, (by simp only [f0, f1, f2]; rfl), ?_⟩
  have hb1 := hs.blk hb (by simp)
  refine st_val (.int .i64 x1) (wn rfl) rfl (by simp only [f0, f1, f2]; rfl) ?_
  refine wpList_nil ?_
  refine then_normal ?_
  refine wp_ret ?_
  exact end_ret (r_res1 (v := .int .i64 x1) Try.results39 ⟨rfl, trivial⟩) rfl h

/-- what is to be shown of a call of pavaneref19.New -/
def pavaneref19_New_vc (R : Value → World → Prop) (w : World) : Prop :=
  ∀ (b : Nat) (w_ : World), w.heap.size ≤ b → b < w_.heap.size → Only [] w w_ → Blk w_ b 64 [Sl.v Sl.nil, .int .i64 1] →
  R (.pointer (some ⟨b, 0, none⟩)) w_
theorem pavaneref19_New_wp (R : Value → World → Prop) (w : World) (h : pavaneref19_New_vc R w) :
    Calls Try.prog 16 #[] w fun e w' => ∃ v, e = .returned v ∧ R v w' := by
  unfold pavaneref19_New_vc at h
  refine calls_of (k := 3) Try.func16 rfl Try.ntmps16 rfl rfl ?_
  simp only [List.replicate, List.cons_append, List.nil_append]
  refine wp_seq ?_
  refine wp_region_lit ?_
  refine st_val (.pointer none) (wn rfl) rfl (by simp only [f0, f1, f2]; rfl) ?_
  refine wpList_nil ?_
  refine then_normal ?_
  refine wp_seq ?_
  refine wp_region_lit ?_
  refine st_val (.agg #[Sl.v Sl.nil, .int .i64 1]) (wn rfl) (r_build (ps' := [(1, .int .i64 1)]) rfl (by kernel_rfl)) (by simp only [f0, f1, f2]; rfl) ?_
  refine st_one (wn rfl) ?_
  refine o_boxB (zs := [Sl.v Sl.nil, .int .i64 1]) rfl (fun b => by simp only [f0, f1, f2]; rfl) (fun b w_ hn hO hb => ?_)
  have hn_b : w.heap.size ≤ b := hn
  have hA : Only [] w w_ := hO
  refine st_val (.pointer (some ⟨b, 0, none⟩)) (wn rfl) rfl (by simp only [f0, f1, f2]; rfl) ?_
  refine wpList_nil ?_
  refine then_normal ?_
  refine wp_ret ?_
  replace h := h b w_ hn_b hb.lt hA hb
  exact end_ret (r_res1 (v := .pointer (some ⟨b, 0, none⟩)) Try.results16 ⟨rfl, trivial⟩) rfl h

/-- what is to be shown of a call of (*session.Book).Next -/
def session_Book_Next_vc (b : Addr) (R : Value → World → Prop) (w : World) : Prop :=
  ∃ x1 : Int, Cells w (Addr.add b 1) [.int .i64 x1] ∧
  R (.int .i64 x1) w
theorem session_Book_Next_wp (b : Addr) (R : Value → World → Prop) (w : World) (h : session_Book_Next_vc b R w) :
    Calls Try.prog 15 #[.pointer (some b)] w fun e w' => ∃ v, e = .returned v ∧ R v w' := by
  unfold session_Book_Next_vc at h
  refine calls_of (k := 6) Try.func15 rfl Try.ntmps15 rfl rfl ?_
  simp only [List.replicate, List.cons_append, List.nil_append]
  refine wp_seq ?_
  refine wp_region_lit ?_
  refine st_val (.int .i64 0) (wn rfl) rfl (by simp only [f0, f1, f2]; rfl) ?_
  refine wpList_nil ?_
  refine then_normal ?_
  refine wp_seq ?_
  refine wp_region_lit ?_
  refine st_val (.pointer (some b)) (wn rfl) rfl (by simp only [f0, f1, f2]; rfl) ?_
  refine st_val (.pointer (some b)) (wn rfl) rfl (by simp only [f0, f1, f2]; rfl) ?_
  refine st_val (.pointer (some (Addr.add b 1))) (wn rfl) (r_field (Try.runUnderlying47 _) rfl (Try.sizeOf3 _) rfl rfl) (by simp only [f0, f1, f2]; rfl) ?_
  obtain ⟨x1, hx, h⟩ := h
  refine st_val (.int .i64 x1) (wn rfl) (r_load1 (Try.isAgg3 _) rfl (Cells.one hx)) (by simp only [f0, f1, f2]; rfl) ?_
  refine st_val (.int .i64 x1) (wn rfl) rfl (by simp only [f0, f1, f2]; rfl) ?_
  refine wpList_nil ?_
  refine then_normal ?_
  refine wp_ret ?_
  exact end_ret (r_res1 (v := .int .i64 x1) Try.results15 ⟨rfl, trivial⟩) rfl h

/-- what is to be shown of a call of session.New -/
def session_New_vc (R : Value → World → Prop) (w : World) : Prop :=
  ∀ (b : Nat) (w_ : World), w.heap.size ≤ b → b < w_.heap.size → Only [] w w_ → Blk w_ b 47 [Sl.v Sl.nil, .int .i64 1] →
  R (.pointer (some ⟨b, 0, none⟩)) w_
theorem session_New_wp (R : Value → World → Prop) (w : World) (h : session_New_vc R w) :
    Calls Try.prog 9 #[] w fun e w' => ∃ v, e = .returned v ∧ R v w' := by
  unfold session_New_vc at h
  refine calls_of (k := 3) Try.func9 rfl Try.ntmps9 rfl rfl ?_
  simp only [List.replicate, List.cons_append, List.nil_append]
  refine wp_seq ?_
  refine wp_region_lit ?_
  refine st_val (.pointer none) (wn rfl) rfl (by simp only [f0, f1, f2]; rfl) ?_
  refine wpList_nil ?_
  refine then_normal ?_
  refine wp_seq ?_
  refine wp_region_lit ?_
  refine st_val (.agg #[Sl.v Sl.nil, .int .i64 1]) (wn rfl) (r_build (ps' := [(1, .int .i64 1)]) rfl (by kernel_rfl)) (by simp only [f0, f1, f2]; rfl) ?_
  refine st_one (wn rfl) ?_
  refine o_boxB (zs := [Sl.v Sl.nil, .int .i64 1]) rfl (fun b => by simp only [f0, f1, f2]; rfl) (fun b w_ hn hO hb => ?_)
  have hn_b : w.heap.size ≤ b := hn
  have hA : Only [] w w_ := hO
  refine st_val (.pointer (some ⟨b, 0, none⟩)) (wn rfl) rfl (by simp only [f0, f1, f2]; rfl) ?_
  refine wpList_nil ?_
  refine then_normal ?_
  refine wp_ret ?_
  replace h := h b w_ hn_b hb.lt hA hb
  exact end_ret (r_res1 (v := .pointer (some ⟨b, 0, none⟩)) Try.results9 ⟨rfl, trivial⟩) rfl h

/-- what is to be shown of a call of cmp.isNaN[int] -/
def cmp_isNaN_int_vc (x1 : Int) (R : Value → World → Prop) (w : World) : Prop :=
  R (.bool (x1 != x1)) w
theorem cmp_isNaN_int_wp (x1 : Int) (R : Value → World → Prop) (w : World) (h : cmp_isNaN_int_vc x1 R w) :
    Calls Try.prog 44 #[.int .i64 x1] w fun e w' => ∃ v, e = .returned v ∧ R v w' := by
  unfold cmp_isNaN_int_vc at h
  refine calls_of (k := 5) Try.func44 rfl Try.ntmps44 rfl rfl ?_
  simp only [List.replicate, List.cons_append, List.nil_append]
  refine wp_seq ?_
  refine wp_region_lit ?_
  refine st_val (.bool false) (wn rfl) rfl (by simp only [f0, f1, f2]; rfl) ?_
  refine wpList_nil ?_
  refine then_normal ?_
  refine wp_seq ?_
  refine wp_region_lit ?_
  refine st_val (.int .i64 x1) (wn rfl) rfl (by simp only [f0, f1, f2]; rfl) ?_
  refine st_val (.int .i64 x1) (wn rfl) rfl (by simp only [f0, f1, f2]; rfl) ?_
  refine st_val (.bool (x1 != x1)) (wn rfl) rfl (by simp only [f0, f1, f2]; rfl) ?_
  refine st_val (.bool (x1 != x1)) (wn rfl) rfl (by simp only [f0, f1, f2]; rfl) ?_
  refine wpList_nil ?_
  refine then_normal ?_
  refine wp_ret ?_
  exact end_ret (r_res1 (v := .bool (x1 != x1)) Try.results44 ⟨rfl, trivial⟩) rfl h

end Go.Proofs.Ytahncinfbhjkgaa.Vc
