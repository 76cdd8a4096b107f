/-
  Own work, printed by a program of ours (gen.py): of each Go function what is to be shown of a call ('.._vc'), and that it suffices ('.._wp'). Nothing is assumed.
-/
import Derived.Test.YtahncinfbhjkgaaRows
import Derived.Test.YtahncinfbhjkgaaFr
namespace Go.Proofs.Ytahncinfbhjkgaa.Vc
open Go Go.RowKit Go.Kt
set_option linter.unusedSimpArgs false
set_option linter.unusedVariables false
set_option maxRecDepth 100000
attribute [local irreducible] wpList
set_option maxHeartbeats 40000000
/-- what is to be shown of a call of pavanelaw01.Owned -/
def pavanelaw01_Owned_vc (rows : Sl) (R : Value → World → Prop) (w : World) : Prop :=
  ∃ (I_ : Nat → Int → World → Prop) (nv1 : Nat), I_ nv1 0 w ∧
  ∀ (nv : Nat) (i : Int) (w_ : World), I_ nv i w_ →
  (((decide (i < (↑(Sl.n rows) : Int))) = true →
  ∃ ad : Addr, SlAt rows i 1 ad ∧
  ∃ x1 : Sl, Cells w_ ad [Sl.v x1] ∧
  ∃ ad1 : Addr, SlAt rows i 1 ad1 ∧
  ∃ x2 : Sl, Cells w_ ad1 [Sl.v x2] ∧
  ∃ hi : Nat, ((↑(Sl.c x2) : Int) = ↑hi ∧ 0 ≤ hi ∧ hi ≤ (Sl.c x1) ∧ (Sl.c x1) ≤ Sl.c x1) ∧
  ∀ (w_1 : World), Only [] w_ w_1 →
  ∃ (I_1 : Nat → Int → World → Prop) (nv3 : Nat), I_1 nv3 0 w_1 ∧
  ∀ (nv2 : Nat) (k : Int) (w_2 : World), I_1 nv2 k w_2 →
  (((decide (k < (↑(Sl.n (Sl.cut x1 0 hi (Sl.c x1) 1)) : Int))) = true →
  ∃ ad2 : Addr, SlAt (Sl.cut x1 0 hi (Sl.c x1) 1) k 1 ad2 ∧
  ∃ (bk off : Nat) (cells : List Value) (ety : TypeId), ad2 = (⟨bk, off, none⟩ : Addr) ∧ Blk w_2 bk ety cells ∧ off + 1 ≤ cells.length ∧ ∀ w_3 : World, Only [bk] w_2 w_3 → Blk w_3 bk ety (splice cells off [.int .u8 (IntKind.u8.wrap (IntKind.i64.wrap (i + 1)))]) →
  ∃ nv4 : Nat, nv4 < nv2 ∧ I_1 nv4 (IntKind.i64.wrap (k + 1)) w_3) ∧
  ((decide (k < (↑(Sl.n (Sl.cut x1 0 hi (Sl.c x1) 1)) : Int))) = false →
  ∃ nv5 : Nat, nv5 < nv ∧ I_ nv5 (IntKind.i64.wrap (i + 1)) w_2))) ∧
  ((decide (i < (↑(Sl.n rows) : Int))) = false →
  ∃ (I_2 : Nat → Int → World → Prop) (nv7 : Nat), I_2 nv7 0 w_ ∧
  ∀ (nv6 : Nat) (i1 : Int) (w_4 : World), I_2 nv6 i1 w_4 →
  (((decide (i1 < (↑(Sl.n rows) : Int))) = true →
  ∃ ad3 : Addr, SlAt rows i1 1 ad3 ∧
  ∃ x3 : Sl, Cells w_4 ad3 [Sl.v x3] ∧
  ∃ ad4 : Addr, SlAt rows i1 1 ad4 ∧
  ∃ x4 : Sl, Cells w_4 ad4 [Sl.v x4] ∧
  ∃ hi1 : Nat, ((↑(Sl.c x4) : Int) = ↑hi1 ∧ 0 ≤ hi1 ∧ hi1 ≤ (Sl.c x3) ∧ (Sl.c x3) ≤ Sl.c x3) ∧
  ∀ (w_5 : World), Only [] w_4 w_5 →
  ∃ (I_3 : Nat → Int → World → Prop) (nv9 : Nat), I_3 nv9 0 w_5 ∧
  ∀ (nv8 : Nat) (k1 : Int) (w_6 : World), I_3 nv8 k1 w_6 →
  (((decide (k1 < (↑(Sl.n (Sl.cut x3 0 hi1 (Sl.c x3) 1)) : Int))) = true →
  ∃ ad5 : Addr, SlAt (Sl.cut x3 0 hi1 (Sl.c x3) 1) k1 1 ad5 ∧
  ∃ x5 : Int, Cells w_6 ad5 [.int .u8 x5] ∧
  (((x5 != (IntKind.u8.wrap (IntKind.i64.wrap (i1 + 1)))) = true →
  R (.bool false) w_6) ∧
  ((x5 != (IntKind.u8.wrap (IntKind.i64.wrap (i1 + 1)))) = false →
  ∃ nv10 : Nat, nv10 < nv8 ∧ I_3 nv10 (IntKind.i64.wrap (k1 + 1)) w_6))) ∧
  ((decide (k1 < (↑(Sl.n (Sl.cut x3 0 hi1 (Sl.c x3) 1)) : Int))) = false →
  ∃ nv11 : Nat, nv11 < nv6 ∧ I_2 nv11 (IntKind.i64.wrap (i1 + 1)) w_6))) ∧
  ((decide (i1 < (↑(Sl.n rows) : Int))) = false →
  R (.bool true) w_4))))
theorem pavanelaw01_Owned_wp (rows : Sl) (R : Value → World → Prop) (w : World) (h : pavanelaw01_Owned_vc rows R w) :
    Calls Try.prog 22 #[Sl.v rows] w fun e w' => ∃ v, e = .returned v ∧ R v w' := by
  unfold pavanelaw01_Owned_vc at h
  refine callsF (l := [(0, Sl.v rows)]) Try.func22 rfl Try.ntmps22 (Nat.le_of_ble_eq_true rfl) rfl (wp_seq (wp_region_lit (sv (R_as rfl) (wpList_nil (then_normal (wp_seq (wp_seq (wp_region_lit (sv (R_as rfl) (wpList_nil (then_normal (wp_block ?_))))))))))))
  obtain ⟨I_, nv1, h0, hI⟩ := h
  refine wp_loop_ghost (fun nv' a' w' => ∃ i : Int, (∃ us, a' = fr 67 us [(0, Sl.v rows), (3, .int .i64 i)]) ∧ I_ nv' i w') nv1 ?_ ?_
  · exact ⟨_, fr_sub ⟨rfl, rfl, trivial⟩, h0⟩
  · clear h0
    rintro nv _ w_ ⟨i, ⟨us, rfl⟩, h⟩
    replace h := hI _ _ _ h
    refine wp_seq (wp_seq (wp_region_lit (sv (R_mv rfl) (sv (R_mv rfl) (sv (R_len (s := rows) (Try.runUnderlying61 _) rfl) (sv (R_lss rfl rfl) (wpList_nil (then_normal ?_))))))))
    refine C_split (t := (decide (i < (↑(Sl.n rows) : Int)))) rfl (fun hc => ?_) (fun hc => ?_)
    · replace h := h.1 hc
      refine wp_skip (then_normal (wp_seq (wp_block (wp_seq ?_))))
      obtain ⟨ad, hx, h⟩ := h
      obtain ⟨x1, hx1, h⟩ := h
      obtain ⟨ad1, hx2, h⟩ := h
      obtain ⟨x2, hx3, h⟩ := h
      obtain ⟨hi, hx4, h⟩ := h
      refine wp_region_quiet_lit Try.checked.mixed (by kernel_rfl) (qv (wn rfl) (fun nd => (R_mv rfl)) (qv (wn rfl) (fun nd => (R_mv rfl)) (qv (v := .pointer (some ad)) (wn rfl) (fun nd => (R_indexS (s := rows) (Try.runUnderlying61 _) (Try.sizeOf27 _) rfl rfl hx)) (qv (v := Sl.v x1) (wn rfl) (fun nd => (R_load1 (Try.isAgg27 _) rfl (Cells.one (q_cells hx1)))) (qv (wn rfl) (fun nd => (R_mv rfl)) (qv (wn rfl) (fun nd => (R_mv rfl)) (qv (v := .pointer (some ad1)) (wn rfl) (fun nd => (R_indexS (s := rows) (Try.runUnderlying61 _) (Try.sizeOf27 _) rfl rfl hx2)) (qv (v := Sl.v x2) (wn rfl) (fun nd => (R_load1 (Try.isAgg27 _) rfl (Cells.one (q_cells hx3)))) (qv (wn rfl) (fun nd => (R_cap (s := x2) (Try.runUnderlying27 _) rfl)) (qv (v := Sl.v (Sl.cut x1 0 hi (Sl.c x1) 1)) (wn rfl) (fun nd => (R_slice010 (s := x1) (Try.runUnderlying27 _) (Try.sizeOf5 _) rfl (ig (hx4.1)) (by first | exact hx4.2.1 | omega) (by first | exact hx4.2.2.1 | omega) (by first | exact hx4.2.2.2 | omega))) (qv (wn rfl) (fun nd => (R_as rfl)) (wpQuiet_nil ?_))))))))))))
      rintro _ ⟨nd, rfl⟩
      have hO := Only.drewN w_ nd
      generalize w_.drewN nd = w_1 at *
      have hA : Only [] w_ w_1 := hO
      refine then_normal (wp_seq (wp_region_lit (sv (R_as rfl) (wpList_nil (then_normal (wp_block ?_))))))
      replace h := h w_1 hA
      obtain ⟨I_1, nv3, h01, hI1⟩ := h
      refine wp_loop_ghost (fun nv' a' w' => ∃ k : Int, (∃ us, a' = fr 67 us [(0, Sl.v rows), (3, .int .i64 i), (4, Sl.v (Sl.cut x1 0 hi (Sl.c x1) 1)), (5, .int .i64 k)]) ∧ I_1 nv' k w') nv3 ?_ ?_
      · exact ⟨_, fr_sub ⟨rfl, rfl, rfl, rfl, trivial⟩, h01⟩
      · clear h01
        rintro nv2 _ w_2 ⟨k, ⟨us1, rfl⟩, h⟩
        replace h := hI1 _ _ _ h
        refine wp_seq (wp_seq (wp_region_lit (sv (R_mv rfl) (sv (R_mv rfl) (sv (R_len (s := Sl.cut x1 0 hi (Sl.c x1) 1) (Try.runUnderlying27 _) rfl) (sv (R_lss rfl rfl) (wpList_nil (then_normal ?_))))))))
        refine C_split (t := (decide (k < (↑(Sl.n (Sl.cut x1 0 hi (Sl.c x1) 1)) : Int)))) rfl (fun hc1 => ?_) (fun hc1 => ?_)
        · replace h := h.1 hc1
          refine wp_skip (then_normal (wp_seq (wp_block (wp_region_lit (sv (R_mv rfl) (sv (R_mv rfl) (sv (R_mv rfl) (sv (R_add rfl rfl) (sv (v := .int .u8 (IntKind.u8.wrap (IntKind.i64.wrap (i + 1)))) (R_convInt (Try.runUnderlying3 _) (Try.runUnderlying5 _) rfl) ?_)))))))))
          obtain ⟨ad2, hx5, h⟩ := h
          refine sv (v := .pointer (some ad2)) (R_indexS (s := Sl.cut x1 0 hi (Sl.c x1) 1) (Try.runUnderlying27 _) (Try.sizeOf5 _) rfl rfl hx5) ?_
          obtain ⟨bk, off, cells, ety, hx6, hx7, hx8, h⟩ := h
          refine st_one (wn rfl) ?_
          refine O_store (b := bk) (o := off) (vs := [.int .u8 (IntKind.u8.wrap (IntKind.i64.wrap (i + 1)))]) (Try.sizeOf5 _) (ag hx6) rfl rfl rfl hx7 hx8 rfl (fun w_3 hO1 hb => ?_)
          replace h := h w_3 hO1 hb
          refine wpList_nil (block_normal (then_normal (wp_region_lit (sv (R_mv rfl) (sv (R_add rfl rfl) (sv (R_as rfl) (wpList_nil (then_normal ?_))))))))
          obtain ⟨nv4, hl, h⟩ := h
          exact ⟨nv4, hl, _, fr_sub ⟨rfl, rfl, rfl, rfl, trivial⟩, h⟩
        · replace h := h.2 hc1
          refine wp_exit (then_exit (then_exit (block_hit (block_normal (then_normal (wp_region_lit (sv (R_mv rfl) (sv (R_add rfl rfl) (sv (R_as rfl) (wpList_nil (then_normal ?_)))))))))))
          obtain ⟨nv5, hl1, h⟩ := h
          exact ⟨nv5, hl1, _, fr_sub ⟨rfl, rfl, trivial⟩, h⟩
    · replace h := h.2 hc
      refine wp_exit (then_exit (then_exit (block_hit (then_normal (wp_seq (wp_seq (wp_region_lit (sv (R_as rfl) (wpList_nil (then_normal (wp_block ?_)))))))))))
      obtain ⟨I_2, nv7, h02, hI2⟩ := h
      refine wp_loop_ghost (fun nv' a' w' => ∃ i1 : Int, (∃ us, a' = fr 67 us [(0, Sl.v rows), (6, .int .i64 i1)]) ∧ I_2 nv' i1 w') nv7 ?_ ?_
      · exact ⟨_, fr_sub ⟨rfl, rfl, trivial⟩, h02⟩
      · clear h02
        rintro nv6 _ w_4 ⟨i1, ⟨us2, rfl⟩, h⟩
        replace h := hI2 _ _ _ h
        refine wp_seq (wp_seq (wp_region_lit (sv (R_mv rfl) (sv (R_mv rfl) (sv (R_len (s := rows) (Try.runUnderlying61 _) rfl) (sv (R_lss rfl rfl) (wpList_nil (then_normal ?_))))))))
        refine C_split (t := (decide (i1 < (↑(Sl.n rows) : Int)))) rfl (fun hc2 => ?_) (fun hc2 => ?_)
        · replace h := h.1 hc2
          refine wp_skip (then_normal (wp_seq (wp_block (wp_seq ?_))))
          obtain ⟨ad3, hx9, h⟩ := h
          obtain ⟨x3, hx10, h⟩ := h
          obtain ⟨ad4, hx11, h⟩ := h
          obtain ⟨x4, hx12, h⟩ := h
          obtain ⟨hi1, hx13, h⟩ := h
          refine wp_region_quiet_lit Try.checked.mixed (by kernel_rfl) (qv (wn rfl) (fun nd => (R_mv rfl)) (qv (wn rfl) (fun nd => (R_mv rfl)) (qv (v := .pointer (some ad3)) (wn rfl) (fun nd => (R_indexS (s := rows) (Try.runUnderlying61 _) (Try.sizeOf27 _) rfl rfl hx9)) (qv (v := Sl.v x3) (wn rfl) (fun nd => (R_load1 (Try.isAgg27 _) rfl (Cells.one (q_cells hx10)))) (qv (wn rfl) (fun nd => (R_mv rfl)) (qv (wn rfl) (fun nd => (R_mv rfl)) (qv (v := .pointer (some ad4)) (wn rfl) (fun nd => (R_indexS (s := rows) (Try.runUnderlying61 _) (Try.sizeOf27 _) rfl rfl hx11)) (qv (v := Sl.v x4) (wn rfl) (fun nd => (R_load1 (Try.isAgg27 _) rfl (Cells.one (q_cells hx12)))) (qv (wn rfl) (fun nd => (R_cap (s := x4) (Try.runUnderlying27 _) rfl)) (qv (v := Sl.v (Sl.cut x3 0 hi1 (Sl.c x3) 1)) (wn rfl) (fun nd => (R_slice010 (s := x3) (Try.runUnderlying27 _) (Try.sizeOf5 _) rfl (ig (hx13.1)) (by first | exact hx13.2.1 | omega) (by first | exact hx13.2.2.1 | omega) (by first | exact hx13.2.2.2 | omega))) (qv (wn rfl) (fun nd => (R_as rfl)) (wpQuiet_nil ?_))))))))))))
          rintro _ ⟨nd, rfl⟩
          have hO2 := Only.drewN w_4 nd
          generalize w_4.drewN nd = w_5 at *
          have hA1 : Only [] w_4 w_5 := hO2
          refine then_normal (wp_seq (wp_region_lit (sv (R_as rfl) (wpList_nil (then_normal (wp_block ?_))))))
          replace h := h w_5 hA1
          obtain ⟨I_3, nv9, h03, hI3⟩ := h
          refine wp_loop_ghost (fun nv' a' w' => ∃ k1 : Int, (∃ us, a' = fr 67 us [(0, Sl.v rows), (6, .int .i64 i1), (7, Sl.v (Sl.cut x3 0 hi1 (Sl.c x3) 1)), (8, .int .i64 k1)]) ∧ I_3 nv' k1 w') nv9 ?_ ?_
          · exact ⟨_, fr_sub ⟨rfl, rfl, rfl, rfl, trivial⟩, h03⟩
          · clear h03
            rintro nv8 _ w_6 ⟨k1, ⟨us3, rfl⟩, h⟩
            replace h := hI3 _ _ _ h
            refine wp_seq (wp_seq (wp_region_lit (sv (R_mv rfl) (sv (R_mv rfl) (sv (R_len (s := Sl.cut x3 0 hi1 (Sl.c x3) 1) (Try.runUnderlying27 _) rfl) (sv (R_lss rfl rfl) (wpList_nil (then_normal ?_))))))))
            refine C_split (t := (decide (k1 < (↑(Sl.n (Sl.cut x3 0 hi1 (Sl.c x3) 1)) : Int)))) rfl (fun hc3 => ?_) (fun hc3 => ?_)
            · replace h := h.1 hc3
              refine wp_skip (then_normal (wp_seq (wp_block (wp_seq (wp_region_lit (sv (R_mv rfl) (sv (R_mv rfl) ?_)))))))
              obtain ⟨ad5, hx14, h⟩ := h
              refine sv (v := .pointer (some ad5)) (R_indexS (s := Sl.cut x3 0 hi1 (Sl.c x3) 1) (Try.runUnderlying27 _) (Try.sizeOf5 _) rfl rfl hx14) ?_
              obtain ⟨x5, hx15, h⟩ := h
              refine sv (v := .int .u8 x5) (R_load1 (Try.isAgg5 _) rfl (Cells.one hx15)) (sv (R_mv rfl) (sv (R_add rfl rfl) (sv (v := .int .u8 (IntKind.u8.wrap (IntKind.i64.wrap (i1 + 1)))) (R_convInt (Try.runUnderlying3 _) (Try.runUnderlying5 _) rfl) (sv (R_neq rfl rfl) (wpList_nil (then_normal ?_))))))
              refine C_split (t := (x5 != (IntKind.u8.wrap (IntKind.i64.wrap (i1 + 1))))) rfl (fun hc4 => ?_) (fun hc4 => ?_)
              · replace h := h.1 hc4
                refine wp_seq (wp_region_lit (sv (R_as rfl) (wpList_nil (then_normal (wp_ret (block_ret (then_ret (then_ret (block_ret (block_ret (then_ret (then_ret (block_ret (then_ret ?_))))))))))))))
                exact ret1 Try.results22 ⟨rfl, trivial⟩ h
              · replace h := h.2 hc4
                refine wp_skip (block_normal (then_normal (wp_region_lit (sv (R_mv rfl) (sv (R_add rfl rfl) (sv (R_as rfl) (wpList_nil (then_normal ?_))))))))
                obtain ⟨nv10, hl2, h⟩ := h
                exact ⟨nv10, hl2, _, fr_sub ⟨rfl, rfl, rfl, rfl, trivial⟩, h⟩
            · replace h := h.2 hc3
              refine wp_exit (then_exit (then_exit (block_hit (block_normal (then_normal (wp_region_lit (sv (R_mv rfl) (sv (R_add rfl rfl) (sv (R_as rfl) (wpList_nil (then_normal ?_)))))))))))
              obtain ⟨nv11, hl3, h⟩ := h
              exact ⟨nv11, hl3, _, fr_sub ⟨rfl, rfl, trivial⟩, h⟩
        · replace h := h.2 hc2
          refine wp_exit (then_exit (then_exit (block_hit (then_normal (wp_seq (wp_region_lit (sv (R_as rfl) (wpList_nil (then_normal (wp_ret ?_))))))))))
          exact ret1 Try.results22 ⟨rfl, trivial⟩ h

/-- what is to be shown of a call of pavanelaw19.small -/
def pavanelaw19_small_vc (R : Value → World → Prop) (w : World) : Prop :=
  Calls Try.prog 9 #[] w (fun e w_ => ∃ x1 : Option Addr, e = .returned (.pointer x1) ∧
  (((Option.isNone x1) = true →
  R (.bool false) w_) ∧
  ((Option.isNone x1) = false →
  Calls Try.prog 12 #[.pointer x1, .int .i64 5] w_ (fun e w_1 => ∃ x0 : Int, ∃ x11 : Int, e = .returned (.tuple #[.int .i64 x0, .int .i64 x11]) ∧
  ∃ x2 : Sl, ∃ w_2 : World, (Instr.buildSlice 27 1 #[(0, .int .u8 97)]).run Try.prog w_1 = .ok (Sl.v x2) w_2 ∧
  Calls Try.prog 25 #[.pointer x1, .int .i64 1, .int .i64 1, .int .i64 6, Sl.v x2] w_2 (fun e w_3 => ∃ x3 : Int, e = .returned (.int .i64 x3) ∧
  Calls Try.prog 10 #[.pointer x1, .int .i64 1, .int .i64 1] w_3 (fun e w_4 => ∃ x01 : Int, ∃ x12 : Sl, e = .returned (.tuple #[.int .i64 x01, Sl.v x12]) ∧
  Calls Try.prog 13 #[.pointer x1, .int .i64 57] w_4 (fun e w_5 => ∃ x4 : Sl, e = .returned (Sl.v x4) ∧
  ∃ J_ : Bool → World → Prop, (∀ (t0 : Bool) (w_6 : World), J_ t0 w_6 →
  R (.bool t0) w_6) ∧
  (∃ bs : List UInt8, (((((x0 == 1) && (x11 == 0)) && (x3 == 0)) && (x01 == 2)) = true → Bytes w_5 x12 bs) ∧
  ((((((((x0 == 1) && (x11 == 0)) && (x3 == 0)) && (x01 == 2)) && ((⟨List.toArray bs⟩ : ByteArray).toList == (⟨#[97]⟩ : ByteArray).toList)) && ((↑(Sl.n x4) : Int) == 1)) = true →
  Calls Try.prog 15 #[.pointer x1] w_5 (fun e w_7 => ∃ x5 : Int, e = .returned (.int .i64 x5) ∧
  J_ (x5 == 2) w_7)) ∧
  (((((((x0 == 1) && (x11 == 0)) && (x3 == 0)) && (x01 == 2)) && ((⟨List.toArray bs⟩ : ByteArray).toList == (⟨#[97]⟩ : ByteArray).toList)) && ((↑(Sl.n x4) : Int) == 1)) = false →
  J_ false w_5))))))))))
theorem pavanelaw19_small_wp (R : Value → World → Prop) (w : World) (h : pavanelaw19_small_vc R w) :
    Calls Try.prog 8 #[] w fun e w' => ∃ v, e = .returned v ∧ R v w' := by
  unfold pavanelaw19_small_vc at h
  refine callsF (l := []) Try.func8 rfl Try.ntmps8 (Nat.le_of_ble_eq_true rfl) rfl (wp_seq (wp_region_lit (sv (R_as rfl) (wpList_nil (then_normal (wp_seq (wp_region_lit (st_one (wn rfl) ?_))))))))
  refine O_enter (args := #[]) (R_enter Try.call9 rfl) (h.mono ?_)
  clear h
  rintro _ w_ ⟨x1, rfl, h⟩
  refine ⟨_, rfl, ?_⟩
  refine sv (R_as rfl) (wpList_nil (then_normal (wp_seq (wp_seq (wp_region_lit (sv (R_mv rfl) (sv (R_eqlPtrNilR (Try.runUnderlying24 _) rfl rfl rfl) (wpList_nil (then_normal ?_)))))))))
  refine C_split (t := (Option.isNone x1)) rfl (fun hc => ?_) (fun hc => ?_)
  · replace h := h.1 hc
    refine wp_seq (wp_region_lit (sv (R_as rfl) (wpList_nil (then_normal (wp_ret (then_ret ?_))))))
    exact ret1 Try.results8 ⟨rfl, trivial⟩ h
  · replace h := h.2 hc
    refine wp_skip (then_normal (wp_seq (wp_region_lit (sv (R_mv rfl) (st_one (wn rfl) ?_)))))
    refine O_enter (args := #[.pointer x1, .int .i64 5]) (R_enter Try.call12 rfl) (h.mono ?_)
    clear h
    rintro _ w_1 ⟨x0, x11, rfl, h⟩
    refine ⟨_, rfl, ?_⟩
    refine sv (R_mv rfl) (sv (R_ext rfl rfl) (sv (R_ext rfl rfl) (sv (R_as rfl) (sv (R_as rfl) (wpList_nil (then_normal (wp_seq (wp_region_lit (sv (R_mv rfl) ?_)))))))))
    obtain ⟨x2, w_2, hr, h⟩ := h
    refine st_one (wn rfl) (O_val (v := (Sl.v x2)) (R_buildSlice rfl hr) (st_one (wn rfl) ?_))
    refine O_enter (args := #[.pointer x1, .int .i64 1, .int .i64 1, .int .i64 6, Sl.v x2]) (R_enter Try.call25 rfl) (h.mono ?_)
    clear h
    rintro _ w_3 ⟨x3, rfl, h⟩
    refine ⟨_, rfl, ?_⟩
    refine sv (R_as rfl) (wpList_nil (then_normal (wp_seq (wp_region_lit (sv (R_mv rfl) (st_one (wn rfl) ?_))))))
    refine O_enter (args := #[.pointer x1, .int .i64 1, .int .i64 1]) (R_enter Try.call10 rfl) (h.mono ?_)
    clear h
    rintro _ w_4 ⟨x01, x12, rfl, h⟩
    refine ⟨_, rfl, ?_⟩
    refine sv (R_mv rfl) (sv (R_ext rfl rfl) (sv (R_ext rfl rfl) (sv (R_as rfl) (sv (R_as rfl) (wpList_nil (then_normal (wp_seq (wp_region_lit (sv (R_mv rfl) (st_one (wn rfl) ?_))))))))))
    refine O_enter (args := #[.pointer x1, .int .i64 57]) (R_enter Try.call13 rfl) (h.mono ?_)
    clear h
    rintro _ w_5 ⟨x4, rfl, h⟩
    refine ⟨_, rfl, ?_⟩
    refine sv (R_as rfl) (wpList_nil (then_normal (wp_seq ?_)))
    obtain ⟨J_, hJ, h⟩ := h
    refine wp_cut (fun a' w' => ∃ t0 : Bool, (∃ us, a' = fr 55 us [(0, .bool t0)]) ∧ J_ t0 w') ?_ ?_
    · clear h
      rintro _ w_6 ⟨t0, ⟨us, rfl⟩, h⟩
      replace h := hJ _ _ h
      refine then_normal (wp_ret ?_)
      exact ret1 Try.results8 ⟨rfl, trivial⟩ h
    · refine wp_region_lit (sv (R_mv rfl) (sv (R_eql rfl rfl) (sv (R_mv rfl) ?_)))
      refine cutF 3 55 [(1, .pointer x1), (4, .int .i64 x3), (5, .int .i64 x01), (6, Sl.v x12), (7, Sl.v x4), (31, .bool ((x0 == 1) && (x11 == 0)))] ?_ ?_
      · simp only [List.take_succ_cons, List.take_zero]
        rcases Bool.eq_false_or_eq_true (x0 == 1) with hg | hg
        · refine svg (wtF rfl rfl rfl (bg hg) rfl) (R_mv rfl) (svg (wtF rfl rfl rfl (bg hg) rfl) (R_eql rfl rfl) (sv (R_pickT (bg hg) rfl) (wpList_nil ?_)))
          exact cutEnd ⟨rfl, rfl, rfl, rfl, rfl, (by rw [hg]; rfl), trivial⟩
        · refine sno (wtF rfl rfl rfl (bg hg) rfl) (sno (wtF rfl rfl rfl (bg hg) rfl) (sv (R_pickF (bg hg) rfl) (wpList_nil ?_)))
          exact cutEnd ⟨rfl, rfl, rfl, rfl, rfl, (by rw [hg]; rfl), trivial⟩
      intro us
      simp only [List.drop_succ_cons, List.drop_zero]
      refine sv (R_mv rfl) ?_
      refine cutF 3 55 [(1, .pointer x1), (5, .int .i64 x01), (6, Sl.v x12), (7, Sl.v x4), (35, .bool (((x0 == 1) && (x11 == 0)) && (x3 == 0)))] ?_ ?_
      · simp only [List.take_succ_cons, List.take_zero]
        rcases Bool.eq_false_or_eq_true ((x0 == 1) && (x11 == 0)) with hg1 | hg1
        · refine svg (wtF rfl rfl rfl (bg hg1) rfl) (R_mv rfl) (svg (wtF rfl rfl rfl (bg hg1) rfl) (R_eql rfl rfl) (sv (R_pickT (bg hg1) rfl) (wpList_nil ?_)))
          exact cutEnd ⟨rfl, rfl, rfl, rfl, (by rw [hg1]; rfl), trivial⟩
        · refine sno (wtF rfl rfl rfl (bg hg1) rfl) (sno (wtF rfl rfl rfl (bg hg1) rfl) (sv (R_pickF (bg hg1) rfl) (wpList_nil ?_)))
          exact cutEnd ⟨rfl, rfl, rfl, rfl, (by rw [hg1]; rfl), trivial⟩
      intro us
      simp only [List.drop_succ_cons, List.drop_zero]
      refine sv (R_mv rfl) ?_
      refine cutF 3 55 [(1, .pointer x1), (6, Sl.v x12), (7, Sl.v x4), (39, .bool ((((x0 == 1) && (x11 == 0)) && (x3 == 0)) && (x01 == 2)))] ?_ ?_
      · simp only [List.take_succ_cons, List.take_zero]
        rcases Bool.eq_false_or_eq_true (((x0 == 1) && (x11 == 0)) && (x3 == 0)) with hg2 | hg2
        · refine svg (wtF rfl rfl rfl (bg hg2) rfl) (R_mv rfl) (svg (wtF rfl rfl rfl (bg hg2) rfl) (R_eql rfl rfl) (sv (R_pickT (bg hg2) rfl) (wpList_nil ?_)))
          exact cutEnd ⟨rfl, rfl, rfl, (by rw [hg2]; rfl), trivial⟩
        · refine sno (wtF rfl rfl rfl (bg hg2) rfl) (sno (wtF rfl rfl rfl (bg hg2) rfl) (sv (R_pickF (bg hg2) rfl) (wpList_nil ?_)))
          exact cutEnd ⟨rfl, rfl, rfl, (by rw [hg2]; rfl), trivial⟩
      intro us
      simp only [List.drop_succ_cons, List.drop_zero]
      refine sv (R_mv rfl) ?_
      obtain ⟨bs, hx, h⟩ := h
      refine cutF 4 55 [(1, .pointer x1), (7, Sl.v x4), (44, .bool (((((x0 == 1) && (x11 == 0)) && (x3 == 0)) && (x01 == 2)) && ((⟨List.toArray bs⟩ : ByteArray).toList == (⟨#[97]⟩ : ByteArray).toList)))] ?_ ?_
      · simp only [List.take_succ_cons, List.take_zero]
        rcases Bool.eq_false_or_eq_true ((((x0 == 1) && (x11 == 0)) && (x3 == 0)) && (x01 == 2)) with hg3 | hg3
        · refine svg (wtF rfl rfl rfl (bg hg3) rfl) (R_mv rfl) (svg (v := .string (⟨List.toArray bs⟩ : ByteArray)) (wtF rfl rfl rfl (bg hg3) rfl) (R_bytesStr (sl := x12) Try.underlying27 Try.underlying5 Try.underlying9 rfl (hx hg3)) (svg (wtF rfl rfl rfl (bg hg3) rfl) (R_seql rfl rfl) (sv (R_pickT (bg hg3) rfl) (wpList_nil ?_))))
          exact cutEnd ⟨rfl, rfl, (by rw [hg3]; rfl), trivial⟩
        · refine sno (wtF rfl rfl rfl (bg hg3) rfl) (sno (wtF rfl rfl rfl (bg hg3) rfl) (sno (wtF rfl rfl rfl (bg hg3) rfl) (sv (R_pickF (bg hg3) rfl) (wpList_nil ?_))))
          exact cutEnd ⟨rfl, rfl, (by rw [hg3]; rfl), trivial⟩
      intro us
      simp only [List.drop_succ_cons, List.drop_zero]
      refine sv (R_mv rfl) ?_
      refine cutF 4 55 [(1, .pointer x1), (49, .bool ((((((x0 == 1) && (x11 == 0)) && (x3 == 0)) && (x01 == 2)) && ((⟨List.toArray bs⟩ : ByteArray).toList == (⟨#[97]⟩ : ByteArray).toList)) && ((↑(Sl.n x4) : Int) == 1)))] ?_ ?_
      · simp only [List.take_succ_cons, List.take_zero]
        rcases Bool.eq_false_or_eq_true (((((x0 == 1) && (x11 == 0)) && (x3 == 0)) && (x01 == 2)) && ((⟨List.toArray bs⟩ : ByteArray).toList == (⟨#[97]⟩ : ByteArray).toList)) with hg4 | hg4
        · refine svg (wtF rfl rfl rfl (bg hg4) rfl) (R_mv rfl) (svg (wtF rfl rfl rfl (bg hg4) rfl) (R_len (s := x4) (Try.runUnderlying34 _) rfl) (svg (wtF rfl rfl rfl (bg hg4) rfl) (R_eql rfl rfl) (sv (R_pickT (bg hg4) rfl) (wpList_nil ?_))))
          exact cutEnd ⟨rfl, (by rw [hg4]; rfl), trivial⟩
        · refine sno (wtF rfl rfl rfl (bg hg4) rfl) (sno (wtF rfl rfl rfl (bg hg4) rfl) (sno (wtF rfl rfl rfl (bg hg4) rfl) (sv (R_pickF (bg hg4) rfl) (wpList_nil ?_))))
          exact cutEnd ⟨rfl, (by rw [hg4]; rfl), trivial⟩
      intro us
      simp only [List.drop_succ_cons, List.drop_zero]
      refine sv (R_mv rfl) ?_
      rcases Bool.eq_false_or_eq_true ((((((x0 == 1) && (x11 == 0)) && (x3 == 0)) && (x01 == 2)) && ((⟨List.toArray bs⟩ : ByteArray).toList == (⟨#[97]⟩ : ByteArray).toList)) && ((↑(Sl.n x4) : Int) == 1)) with hg5 | hg5
      · replace h := h.1 hg5
        refine svg (wtF rfl rfl rfl (bg hg5) rfl) (R_mv rfl) (st_one (wtF rfl rfl rfl (bg hg5) rfl) ?_)
        refine O_enter (args := #[.pointer x1]) (R_enter Try.call15 rfl) (h.mono ?_)
        clear h
        rintro _ w_7 ⟨x5, rfl, h⟩
        refine ⟨_, rfl, ?_⟩
        refine svg (wtF rfl rfl rfl (bg hg5) rfl) (R_eql rfl rfl) (sv (R_pickT (bg hg5) rfl) (sv (R_as rfl) (wpList_nil ?_)))
        exact then_normal ⟨_, fr_sub ⟨rfl, trivial⟩, h⟩
      · replace h := h.2 hg5
        refine sno (wtF rfl rfl rfl (bg hg5) rfl) (sno (wtF rfl rfl rfl (bg hg5) rfl) (sno (wtF rfl rfl rfl (bg hg5) rfl) (sv (R_pickF (bg hg5) rfl) (sv (R_as rfl) (wpList_nil ?_)))))
        exact then_normal ⟨_, fr_sub ⟨rfl, trivial⟩, h⟩

/-- what is to be shown of a call of (*pavaneref19.Book).Open -/
def pavaneref19_Book_Open_vc (b : Addr) (now : Int) (R : Value → World → Prop) (w : World) : Prop :=
  ((((decide (now < 0)) || (decide (now > 1099511627776))) = true →
  R (.tuple #[.int .i64 0, .int .i64 1]) w) ∧
  (((decide (now < 0)) || (decide (now > 1099511627776))) = false →
  ∃ x1 : Sl, Cells w (Addr.add b 0) [Sl.v x1] ∧
  ∃ x2 : Int, ((decide ((↑(Sl.n x1) : Int) ≥ 8)) = false → Cells w (Addr.add b 1) [.int .i64 x2]) ∧
  ((((decide ((↑(Sl.n x1) : Int) ≥ 8)) || (x2 == 9223372036854775807)) = true →
  R (.tuple #[.int .i64 0, .int .i64 40]) w) ∧
  (((decide ((↑(Sl.n x1) : Int) ≥ 8)) || (x2 == 9223372036854775807)) = false →
  ∃ x3 : Sl, Cells w (Addr.add b 0) [Sl.v x3] ∧
  ∃ x4 : Int, Cells w (Addr.add b 1) [.int .i64 x4] ∧
  ∀ (w_ : World), Only [] w w_ →
  ∃ x5 : Sl, ∃ w_1 : World, (Instr.buildSlice 42 1 #[(0, .agg #[.int .i64 x4, .int .i64 0, Sl.v Sl.nil, .int .i64 (IntKind.i64.wrap (now + 50))])]).run Try.prog w_ = .ok (Sl.v x5) w_1 ∧ Same [(Addr.add b 0).block] w_ w_1 ∧
  ∃ x6 : Sl, ∃ w_2 : World, (Builtin.append_ #[42, 42] 42 #[Sl.v x3, Sl.v x5]).run Try.prog w_1 = .ok (Sl.v x6) w_2 ∧
  ∃ (bk off : Nat) (cells : List Value) (ety : TypeId), Addr.add b 0 = (⟨bk, off, none⟩ : Addr) ∧ Blk w_2 bk ety cells ∧ off + 1 ≤ cells.length ∧ ∀ w_3 : World, Only [bk] w_2 w_3 → Blk w_3 bk ety (splice cells off [Sl.v x6]) →
  ∃ x7 : Int, Cells w_3 (Addr.add b 1) [.int .i64 x7] ∧
  ∃ (bk1 off1 : Nat) (cells1 : List Value) (ety1 : TypeId), Addr.add b 1 = (⟨bk1, off1, none⟩ : Addr) ∧ Blk w_3 bk1 ety1 cells1 ∧ off1 + 1 ≤ cells1.length ∧ ∀ w_4 : World, Only [bk1] w_3 w_4 → Blk w_4 bk1 ety1 (splice cells1 off1 [.int .i64 (IntKind.i64.wrap (x7 + 1))]) →
  ∃ x8 : Int, Cells w_4 (Addr.add b 1) [.int .i64 x8] ∧
  R (.tuple #[.int .i64 (IntKind.i64.wrap (x8 - 1)), .int .i64 0]) w_4))))
theorem pavaneref19_Book_Open_wp (b : Addr) (now : Int) (R : Value → World → Prop) (w : World) (h : pavaneref19_Book_Open_vc b now R w) :
    Calls Try.prog 34 #[.pointer (some b), .int .i64 now] w fun e w' => ∃ v, e = .returned v ∧ R v w' := by
  unfold pavaneref19_Book_Open_vc at h
  refine callsF (l := [(0, .pointer (some b)), (1, .int .i64 now)]) Try.func34 rfl Try.ntmps34 (Nat.le_of_ble_eq_true rfl) rfl (wp_seq (wp_region_lit (sv (R_as rfl) (sv (R_as rfl) (wpList_nil (then_normal (wp_seq (wp_seq (wp_region_lit (sv (R_mv rfl) (sv (R_lss rfl rfl) (sv (R_mv rfl) ?_))))))))))))
  refine cutF 3 53 [(0, .pointer (some b)), (1, .int .i64 now), (11, .bool ((decide (now < 0)) || (decide (now > 1099511627776))))] ?_ ?_
  · simp only [List.take_succ_cons, List.take_zero]
    rcases Bool.eq_false_or_eq_true (decide (now < 0)) with hg | hg
    · refine sno (wtF rfl rfl rfl (bg hg) rfl) (sno (wtF rfl rfl rfl (bg hg) rfl) (sv (R_pickT (bg hg) rfl) (wpList_nil ?_)))
      exact cutEnd ⟨rfl, rfl, (by rw [hg]; rfl), trivial⟩
    · refine svg (wtF rfl rfl rfl (bg hg) rfl) (R_mv rfl) (svg (wtF rfl rfl rfl (bg hg) rfl) (R_gtr rfl rfl) (sv (R_pickF (bg hg) rfl) (wpList_nil ?_)))
      exact cutEnd ⟨rfl, rfl, (by rw [hg]; rfl), trivial⟩
  intro us
  simp only [List.drop_succ_cons, List.drop_zero]
  refine wpList_nil (then_normal ?_)
  refine C_split (t := ((decide (now < 0)) || (decide (now > 1099511627776)))) rfl (fun hc => ?_) (fun hc => ?_)
  · replace h := h.1 hc
    refine wp_seq (wp_region_lit (sv (R_as rfl) (sv (R_as rfl) (wpList_nil (then_normal (wp_ret (then_ret ?_)))))))
    exact retN (vs := [.int .i64 0, .int .i64 1]) Try.results34 rfl ⟨rfl, rfl, trivial⟩ h
  · replace h := h.2 hc
    refine wp_skip (then_normal (wp_seq (wp_seq ?_)))
    obtain ⟨x1, hx, h⟩ := h
    obtain ⟨x2, hx1, h⟩ := h
    refine wp_region_lit (sv (R_mv rfl) (sv (v := .pointer (some b)) (R_nil rfl) (sv (v := .pointer (some (Addr.add b 0))) (R_field (Try.runUnderlying64 _) rfl (Try.sizeOf42 _) rfl rfl) (sv (v := Sl.v x1) (R_load1 (Try.isAgg42 _) rfl (Cells.one hx)) (sv (R_len (s := x1) (Try.runUnderlying42 _) rfl) (sv (R_geq rfl rfl) (sv (R_mv rfl) ?_)))))))
    refine cutF 6 53 [(0, .pointer (some b)), (1, .int .i64 now), (24, .bool ((decide ((↑(Sl.n x1) : Int) ≥ 8)) || (x2 == 9223372036854775807)))] ?_ ?_
    · simp only [List.take_succ_cons, List.take_zero]
      rcases Bool.eq_false_or_eq_true (decide ((↑(Sl.n x1) : Int) ≥ 8)) with hg1 | hg1
      · refine sno (wtF rfl rfl rfl (bg hg1) rfl) (sno (wtF rfl rfl rfl (bg hg1) rfl) (sno (wtF rfl rfl rfl (bg hg1) rfl) (sno (wtF rfl rfl rfl (bg hg1) rfl) (sno (wtF rfl rfl rfl (bg hg1) rfl) (sv (R_pickT (bg hg1) rfl) (wpList_nil ?_))))))
        exact cutEnd ⟨rfl, rfl, (by rw [hg1]; rfl), trivial⟩
      · refine svg (wtF rfl rfl rfl (bg hg1) rfl) (R_mv rfl) (svg (v := .pointer (some b)) (wtF rfl rfl rfl (bg hg1) rfl) (R_nil rfl) (svg (v := .pointer (some (Addr.add b 1))) (wtF rfl rfl rfl (bg hg1) rfl) (R_field (Try.runUnderlying64 _) rfl (Try.sizeOf3 _) rfl rfl) (svg (v := .int .i64 x2) (wtF rfl rfl rfl (bg hg1) rfl) (R_load1 (Try.isAgg3 _) rfl (Cells.one (hx1 hg1))) (svg (wtF rfl rfl rfl (bg hg1) rfl) (R_eql rfl rfl) (sv (R_pickF (bg hg1) rfl) (wpList_nil ?_))))))
        exact cutEnd ⟨rfl, rfl, (by rw [hg1]; rfl), trivial⟩
    intro us
    simp only [List.drop_succ_cons, List.drop_zero]
    refine wpList_nil (then_normal ?_)
    refine C_split (t := ((decide ((↑(Sl.n x1) : Int) ≥ 8)) || (x2 == 9223372036854775807))) rfl (fun hc1 => ?_) (fun hc1 => ?_)
    · replace h := h.1 hc1
      refine wp_seq (wp_region_lit (sv (R_as rfl) (sv (R_as rfl) (wpList_nil (then_normal (wp_ret (then_ret ?_)))))))
      exact retN (vs := [.int .i64 0, .int .i64 40]) Try.results34 rfl ⟨rfl, rfl, trivial⟩ h
    · replace h := h.2 hc1
      refine wp_skip (then_normal (wp_seq ?_))
      obtain ⟨x3, hx2, h⟩ := h
      obtain ⟨x4, hx3, h⟩ := h
      refine e_region (EL [(12, [(Addr.add b 0).block]), (13, []), (16, [])]) Try.checked.mixed ?_
      have hO := Only.drew w
      have hx4 : Cells w.drew _ _ := hx2
      have hx5 : Cells w.drew _ _ := hx3
      generalize w.drew = w_ at *
      have hA : Only [] w w_ := hO
      refine eQ 0 rfl rfl (wn rfl) (fun _ => (R_mv rfl)) (eQ 1 rfl rfl (wn rfl) (fun _ => (R_mv rfl)) (eQ 2 (v := .pointer (some b)) rfl rfl (wn rfl) (fun _ => (R_nil rfl)) (eQ 3 (v := .pointer (some (Addr.add b 0))) rfl rfl (wn rfl) (fun _ => (R_field (Try.runUnderlying64 _) rfl (Try.sizeOf42 _) rfl rfl)) (eL 4 [13, 14, 15, 16] [0, 1, 2, 3] (fun w' => Cells w' (Addr.add b 0) [Sl.v x3]) (v := Sl.v x3) rfl rfl (el_stable (b := (Addr.add b 0).block) (List.forall_mem_cons.2 ⟨.inr (.inr (.head _)), List.forall_mem_cons.2 ⟨.inl (by simp), List.forall_mem_cons.2 ⟨.inl (by simp), List.forall_mem_nil _⟩⟩⟩) keep_cells) hx4 (y_val (wn rfl) (fun w' hw' => (R_load1 (Try.isAgg42 _) rfl (Cells.one hw')))) (eQ 5 rfl rfl (wn rfl) (fun _ => (R_mv rfl)) (eQ 6 (v := .pointer (some b)) rfl rfl (wn rfl) (fun _ => (R_nil rfl)) (eQ 7 (v := .pointer (some (Addr.add b 1))) rfl rfl (wn rfl) (fun _ => (R_field (Try.runUnderlying64 _) rfl (Try.sizeOf3 _) rfl rfl)) (eL 8 [11, 12, 13, 14, 15, 16] [0, 1, 2, 3, 4, 5, 6, 7] (fun w' => Cells w' (Addr.add b 1) [.int .i64 x4]) (v := .int .i64 x4) rfl rfl (el_stable (b := (Addr.add b 1).block) (List.forall_mem_cons.2 ⟨.inl (by simp), List.forall_mem_cons.2 ⟨.inl (by simp), List.forall_mem_cons.2 ⟨.inl (by simp), List.forall_mem_nil _⟩⟩⟩) keep_cells) hx5 (y_val (wn rfl) (fun w' hw' => (R_load1 (Try.isAgg3 _) rfl (Cells.one hw')))) (eQ 9 rfl rfl (wn rfl) (fun _ => (R_mv rfl)) (eQ 10 rfl rfl (wn rfl) (fun _ => (R_add rfl rfl)) (eQ 11 (v := .agg #[.int .i64 x4, .int .i64 0, Sl.v Sl.nil, .int .i64 (IntKind.i64.wrap (now + 50))]) rfl rfl (wn rfl) (fun _ => (R_build (ps' := [(0, .int .i64 x4), (3, .int .i64 (IntKind.i64.wrap (now + 50)))]) rfl (by kernel_rfl))) ?_)))))))))))
      replace h := h w_ hA
      obtain ⟨x5, w_1, hr, hs, h⟩ := h
      refine e_one 12 rfl (by kernel_rfl) (wn rfl) (O_val (v := (Sl.v x5)) (R_buildSlice rfl hr) ?_)
      have hx6 := keep_cells _ _ (hs _ (.head _)) hx4
      refine ⟨el_loud rfl hs, ?_⟩
      obtain ⟨x6, w_2, hr1, h⟩ := h
      refine e_one 13 rfl (by kernel_rfl) (wn rfl) (O_val (v := (Sl.v x6)) (R_builtin_append rfl hr1) ?_)
      refine ⟨el_loud rfl same_nil, ?_⟩
      refine eQ 14 (v := .pointer (some b)) rfl rfl (wn rfl) (fun _ => (R_nil rfl)) (eQ 15 (v := .pointer (some (Addr.add b 0))) rfl rfl (wn rfl) (fun _ => (R_field (Try.runUnderlying64 _) rfl (Try.sizeOf42 _) rfl rfl)) ?_)
      obtain ⟨bk, off, cells, ety, hx7, hx8, hx9, h⟩ := h
      refine e_one 16 rfl (by kernel_rfl) (wn rfl) ?_
      refine O_store (b := bk) (o := off) (vs := [Sl.v x6]) (Try.sizeOf42 _) (ag hx7) rfl rfl rfl hx8 hx9 rfl (fun w_3 hO1 hb => ?_)
      replace h := h w_3 hO1 hb
      have hS : Same [] w_2 w_3 := same_nil
      refine ⟨el_loud rfl hS, ?_⟩
      refine e_done (by kernel_rfl) (then_normal (wp_seq (wp_region_lit (sv (R_mv rfl) (sv (v := .pointer (some b)) (R_nil rfl) (sv (v := .pointer (some (Addr.add b 1))) (R_field (Try.runUnderlying64 _) rfl (Try.sizeOf3 _) rfl rfl) ?_))))))
      obtain ⟨x7, hx10, h⟩ := h
      refine sv (v := .int .i64 x7) (R_load1 (Try.isAgg3 _) rfl (Cells.one hx10)) (sv (R_add rfl rfl) (sv (v := .pointer (some b)) (R_nil rfl) (sv (v := .pointer (some (Addr.add b 1))) (R_field (Try.runUnderlying64 _) rfl (Try.sizeOf3 _) rfl rfl) ?_)))
      obtain ⟨bk1, off1, cells1, ety1, hx11, hx12, hx13, h⟩ := h
      refine st_one (wn rfl) ?_
      refine O_store (b := bk1) (o := off1) (vs := [.int .i64 (IntKind.i64.wrap (x7 + 1))]) (Try.sizeOf3 _) (ag hx11) rfl rfl rfl hx12 hx13 rfl (fun w_4 hO2 hb1 => ?_)
      replace h := h w_4 hO2 hb1
      refine wpList_nil (then_normal (wp_seq (wp_region_lit (sv (R_mv rfl) (sv (v := .pointer (some b)) (R_nil rfl) (sv (v := .pointer (some (Addr.add b 1))) (R_field (Try.runUnderlying64 _) rfl (Try.sizeOf3 _) rfl rfl) ?_))))))
      obtain ⟨x8, hx14, h⟩ := h
      refine sv (v := .int .i64 x8) (R_load1 (Try.isAgg3 _) rfl (Cells.one hx14)) (sv (R_sub rfl rfl) (sv (R_as rfl) (sv (R_as rfl) (wpList_nil (then_normal (wp_ret ?_))))))
      exact retN (vs := [.int .i64 (IntKind.i64.wrap (x8 - 1)), .int .i64 0]) Try.results34 rfl ⟨rfl, rfl, trivial⟩ h

/-- what is to be shown of a call of slices.DeleteFunc[[]api.Seat,api.Seat] -/
def slices_DeleteFunc_api_Seat_vc (s : Sl) (del : Value) (R : Value → World → Prop) (w : World) : Prop :=
  Calls Try.prog 41 #[Sl.v s, del] w (fun e w_ => ∃ x1 : Int, e = .returned (.int .i64 x1) ∧
  (((x1 == (-1)) = true →
  R (Sl.v s) w_) ∧
  ((x1 == (-1)) = false →
  ∃ (I_ : Nat → Int → Int → World → Prop) (nv1 : Nat), I_ nv1 x1 (IntKind.i64.wrap (x1 + 1)) w_ ∧
  ∀ (nv : Nat) (i : Int) (j : Int) (w_1 : World), I_ nv i j w_1 →
  (((decide (j < (↑(Sl.n s) : Int))) = true →
  ∃ J_ : Int → World → Prop, (∀ (i1 : Int) (w_2 : World), J_ i1 w_2 →
  ∃ nv2 : Nat, nv2 < nv ∧ I_ nv2 i1 (IntKind.i64.wrap (j + 1)) w_2) ∧
  (∃ ad : Addr, SlAt s j 4 ad ∧
  ∃ x0 : Int, ∃ x11 : Int, ∃ x2 : Sl, ∃ x3 : Int, Cells w_1 ad [.int .i64 x0, .int .i64 x11, Sl.v x2, .int .i64 x3] ∧
  ∀ (b : Nat) (w_4 : World), w_1.heap.size ≤ b → b < w_4.heap.size → Only [] w_1 w_4 →
  ∃ (fid : FuncId) (cap : List Value), del = .func (.func fid) #[] cap.toArray ∧ (∀ (args : Array Value) (w : World), (callFunc fid args).run Try.prog w = .ok (.enter fid args) w) ∧
  Calls Try.prog fid (([.agg #[.int .i64 x0, .int .i64 x11, Sl.v x2, .int .i64 x3]] : List Value) ++ cap).toArray w_4 (fun e w_5 => ∃ x4 : Bool, e = .returned (.bool x4) ∧ Same [b] w_4 w_5 ∧
  (((!x4) = true →
  ∃ ad1 : Addr, SlAt s i 4 ad1 ∧
  ∃ (bk off : Nat) (cells : List Value) (ety : TypeId), ad1 = (⟨bk, off, none⟩ : Addr) ∧ Blk w_5 bk ety cells ∧ off + 4 ≤ cells.length ∧ b ≠ bk ∧ ∀ w_6 : World, Only [bk] w_5 w_6 → Blk w_6 bk ety (splice cells off [.int .i64 x0, .int .i64 x11, Sl.v x2, .int .i64 x3]) →
  J_ (IntKind.i64.wrap (i + 1)) w_6) ∧
  ((!x4) = false →
  J_ i w_5))))) ∧
  ((decide (j < (↑(Sl.n s) : Int))) = false →
  ∃ lo : Nat, (i = ↑lo ∧ lo ≤ (Sl.n s) ∧ (Sl.n s) ≤ (Sl.c s) ∧ (Sl.c s) ≤ Sl.c s) ∧
  ∃ w_7 : World, (Builtin.clear_ #[42] 0 #[Sl.v (Sl.cut s lo (Sl.n s) (Sl.c s) 4)]).run Try.prog w_1 = .ok (.tuple #[]) w_7 ∧
  ∃ hi : Nat, (i = ↑hi ∧ 0 ≤ hi ∧ hi ≤ (Sl.c s) ∧ (Sl.c s) ≤ Sl.c s) ∧
  R (Sl.v (Sl.cut s 0 hi (Sl.c s) 4)) w_7)))))
theorem slices_DeleteFunc_api_Seat_wp (s : Sl) (del : Value) (R : Value → World → Prop) (w : World) (h : slices_DeleteFunc_api_Seat_vc s del R w) :
    Calls Try.prog 31 #[Sl.v s, del] w fun e w' => ∃ v, e = .returned v ∧ R v w' := by
  unfold slices_DeleteFunc_api_Seat_vc at h
  refine callsF (l := [(0, Sl.v s), (1, del)]) Try.func31 rfl Try.ntmps31 (Nat.le_of_ble_eq_true rfl) rfl (wp_seq (wp_region_lit (sv (R_as rfl) (wpList_nil (then_normal (wp_seq (wp_region_lit (sv (R_mv rfl) (sv (R_mv rfl) (st_one (wn rfl) ?_))))))))))
  refine O_enter (args := #[Sl.v s, del]) (R_enter Try.call41 rfl) (h.mono ?_)
  clear h
  rintro _ w_ ⟨x1, rfl, h⟩
  refine ⟨_, rfl, ?_⟩
  refine sv (R_as rfl) (wpList_nil (then_normal (wp_seq (wp_seq (wp_region_lit (sv (R_mv rfl) (sv (R_eql rfl rfl) (wpList_nil (then_normal ?_)))))))))
  refine C_split (t := (x1 == (-1))) rfl (fun hc => ?_) (fun hc => ?_)
  · replace h := h.1 hc
    refine wp_seq (wp_region_lit (sv (R_mv rfl) (sv (R_as rfl) (wpList_nil (then_normal (wp_ret (then_ret ?_)))))))
    exact ret1 Try.results31 ⟨rfl, trivial⟩ h
  · replace h := h.2 hc
    refine wp_skip (then_normal (wp_seq (wp_seq (wp_region_lit (sv (R_mv rfl) (sv (R_add rfl rfl) (sv (R_as rfl) (wpList_nil (then_normal (wp_block ?_))))))))))
    obtain ⟨I_, nv1, h0, hI⟩ := h
    refine wp_loop_ghost (fun nv' a' w' => ∃ i : Int, ∃ j : Int, (∃ us, a' = fr 42 us [(0, Sl.v s), (1, del), (5, .int .i64 i), (6, .int .i64 j)]) ∧ I_ nv' i j w') nv1 ?_ ?_
    · exact ⟨_, _, fr_sub ⟨rfl, rfl, rfl, rfl, trivial⟩, h0⟩
    · clear h0
      rintro nv _ w_1 ⟨i, j, ⟨us, rfl⟩, h⟩
      replace h := hI _ _ _ _ h
      refine wp_seq (wp_seq (wp_region_lit (sv (R_mv rfl) (sv (R_mv rfl) (sv (R_len (s := s) (Try.runUnderlying42 _) rfl) (sv (R_lss rfl rfl) (wpList_nil (then_normal ?_))))))))
      refine C_split (t := (decide (j < (↑(Sl.n s) : Int)))) rfl (fun hc1 => ?_) (fun hc1 => ?_)
      · replace h := h.1 hc1
        refine wp_skip (then_normal ?_)
        obtain ⟨J_, hJ, h⟩ := h
        refine wp_seq_join (fun a' w' => ∃ i1 : Int, (∃ us, a' = fr 42 us [(0, Sl.v s), (1, del), (5, .int .i64 i1), (6, .int .i64 j)]) ∧ J_ i1 w') ?_ ?_
        · clear h
          rintro _ w_2 ⟨i1, ⟨us1, rfl⟩, h⟩
          replace h := hJ _ _ h
          refine wp_region_lit (sv (R_mv rfl) (sv (R_add rfl rfl) (sv (R_as rfl) (wpList_nil (then_normal ?_)))))
          obtain ⟨nv2, hl, h⟩ := h
          exact ⟨nv2, hl, _, _, fr_sub ⟨rfl, rfl, rfl, rfl, trivial⟩, h⟩
        · clear hJ
          refine wp_block (wp_seq (wp_region_lit (sv (R_mv rfl) (sv (R_mv rfl) ?_))))
          obtain ⟨ad, hx, h⟩ := h
          refine sv (v := .pointer (some ad)) (R_indexS (s := s) (Try.runUnderlying42 _) (Try.sizeOf49 _) rfl rfl hx) ?_
          obtain ⟨x0, x11, x2, x3, hx1, h⟩ := h
          refine sv (v := .agg #[.int .i64 x0, .int .i64 x11, Sl.v x2, .int .i64 x3]) (R_loadN (Try.isAgg49 _) (Try.sizeOf49 _) rfl rfl hx1) (st_one (wn rfl) ?_)
          refine O_alloc (zs := [.int .i64 0, .int .i64 0, Sl.v Sl.nil, .int .i64 0]) (Try.zeroValue49 _) rfl (fun b w_3 hn hO hb => ?_)
          have hn_b : w_1.heap.size ≤ b := hn
          have hA : Only [] w_1 w_3 := hO
          refine st_one (wn rfl) ?_
          refine O_store (vs := [.int .i64 x0, .int .i64 x11, Sl.v x2, .int .i64 x3]) (cs' := [.int .i64 x0, .int .i64 x11, Sl.v x2, .int .i64 x3]) (Try.sizeOf49 _) rfl rfl rfl rfl hb (Nat.le_of_ble_eq_true rfl) rfl (fun w_4 hO1 hb1 => ?_)
          have hA1 := hA.new hO1 hn_b
          refine wpList_nil (then_normal (wp_seq (wp_region_lit (sv (R_mv rfl) (sv (v := .agg #[.int .i64 x0, .int .i64 x11, Sl.v x2, .int .i64 x3]) (R_loadN (Try.isAgg49 _) (Try.sizeOf49 _) rfl rfl (hb1.cellsAt 0 [.int .i64 x0, .int .i64 x11, Sl.v x2, .int .i64 x3] rfl)) ?_)))))
          replace h := h b w_4 hn_b hb1.lt hA1
          obtain ⟨fid, cap, hx2, hx3, h⟩ := h
          refine st_one (wn rfl) ?_
          refine O_enter (args := (([.agg #[.int .i64 x0, .int .i64 x11, Sl.v x2, .int .i64 x3]] : List Value) ++ cap).toArray) (R_enterC (first := []) (captured := cap) (congrArg some hx2) hx3 rfl) (h.mono ?_)
          clear h
          rintro _ w_5 ⟨x4, rfl, hs1, h⟩
          refine ⟨_, rfl, ?_⟩
          have hb2 := hs1.blk hb1 (by simp)
          refine sv (R_not rfl) (wpList_nil (then_normal ?_))
          refine C_split (t := (!x4)) rfl (fun hc2 => ?_) (fun hc2 => ?_)
          · replace h := h.1 hc2
            refine wp_seq (wp_region_lit (sv (R_mv rfl) (sv (R_mv rfl) (sv (v := .agg #[.int .i64 x0, .int .i64 x11, Sl.v x2, .int .i64 x3]) (R_loadN (Try.isAgg49 _) (Try.sizeOf49 _) rfl rfl (hb2.cellsAt 0 [.int .i64 x0, .int .i64 x11, Sl.v x2, .int .i64 x3] rfl)) ?_))))
            obtain ⟨ad1, hx4, h⟩ := h
            refine sv (v := .pointer (some ad1)) (R_indexS (s := s) (Try.runUnderlying42 _) (Try.sizeOf49 _) rfl rfl hx4) ?_
            obtain ⟨bk, off, cells, ety, hx5, hx6, hx7, hne, h⟩ := h
            refine st_one (wn rfl) ?_
            refine O_store (b := bk) (o := off) (vs := [.int .i64 x0, .int .i64 x11, Sl.v x2, .int .i64 x3]) (Try.sizeOf49 _) (ag hx5) rfl rfl rfl hx6 hx7 rfl (fun w_6 hO2 hb3 => ?_)
            replace h := h w_6 hO2 hb3
            have hb4 := hO2.blk hb2 (by simpa using hne)
            refine wpList_nil (then_normal (wp_region_lit (sv (R_mv rfl) (sv (R_add rfl rfl) (sv (R_as rfl) (wpList_nil (block_normal (then_normal ?_))))))))
            exact ⟨_, fr_sub ⟨rfl, rfl, rfl, rfl, trivial⟩, h⟩
          · replace h := h.2 hc2
            refine wp_skip (block_normal (then_normal ?_))
            exact ⟨_, fr_sub ⟨rfl, rfl, rfl, rfl, trivial⟩, h⟩
      · replace h := h.2 hc1
        refine wp_exit (then_exit (then_exit (block_hit (then_normal (wp_seq (wp_region_lit (sv (R_mv rfl) (sv (R_mv rfl) ?_))))))))
        obtain ⟨lo, hx8, h⟩ := h
        refine sv (v := Sl.v (Sl.cut s lo (Sl.n s) (Sl.c s) 4)) (R_slice100 (s := s) (Try.runUnderlying42 _) (Try.sizeOf49 _) rfl (ig (hx8.1)) (by first | exact hx8.2.1 | omega) (by first | exact hx8.2.2.1 | omega) (by first | exact hx8.2.2.2 | omega)) ?_
        obtain ⟨w_7, hr, h⟩ := h
        refine st_one (wn rfl) (O_val (v := (.tuple #[])) (R_builtin_clear rfl hr) (wpList_nil (then_normal (wp_seq (wp_region_lit (sv (R_mv rfl) (sv (R_mv rfl) ?_)))))))
        obtain ⟨hi, hx9, h⟩ := h
        refine sv (v := Sl.v (Sl.cut s 0 hi (Sl.c s) 4)) (R_slice010 (s := s) (Try.runUnderlying42 _) (Try.sizeOf49 _) rfl (ig (hx9.1)) (by first | exact hx9.2.1 | omega) (by first | exact hx9.2.2.1 | omega) (by first | exact hx9.2.2.2 | omega)) (sv (R_as rfl) (wpList_nil (then_normal (wp_ret ?_))))
        exact ret1 Try.results31 ⟨rfl, trivial⟩ h

/-- what is to be shown of a call of pavanelaw19.model -/
def pavanelaw19_model_vc (b : Option Addr) (a01 : Int) (a1 : Int) (a2 : Int) (a3 : Int) (a4 : Sl) (R : Value → World → Prop) (w : World) : Prop :=
  (((a01 == 0) = true →
  ∀ (b1 : Nat) (w_ : World), w.heap.size ≤ b1 → b1 < w_.heap.size → Only [] w w_ →
  Calls Try.prog 34 #[.pointer b, .int .i64 a3] w_ (fun e w_1 => ∃ x0 : Int, ∃ x1 : Int, e = .returned (.tuple #[.int .i64 x0, .int .i64 x1]) ∧ Same [b1] w_ w_1 ∧
  R (.tuple #[.int .i64 x0, .int .i64 x1, Sl.v Sl.nil, Sl.v Sl.nil]) w_1)) ∧
  ((a01 == 0) = false →
  (((a01 == 1) = true →
  ∀ (b1 : Nat) (w_ : World), w.heap.size ≤ b1 → b1 < w_.heap.size → Only [] w w_ →
  Calls Try.prog 35 #[.pointer b, .int .i64 a1, .int .i64 a2] w_ (fun e w_2 => ∃ x01 : Int, ∃ x11 : Sl, e = .returned (.tuple #[.int .i64 x01, Sl.v x11]) ∧ Same [b1] w_ w_2 ∧
  R (.tuple #[.int .i64 x01, .int .i64 0, Sl.v x11, Sl.v Sl.nil]) w_2)) ∧
  ((a01 == 1) = false →
  (((a01 == 2) = true →
  ∀ (b1 : Nat) (w_ : World), w.heap.size ≤ b1 → b1 < w_.heap.size → Only [] w w_ →
  Calls Try.prog 36 #[.pointer b, .int .i64 a1, .int .i64 a2, .int .i64 a3, Sl.v a4] w_ (fun e w_3 => ∃ x2 : Int, e = .returned (.int .i64 x2) ∧ Same [b1] w_ w_3 ∧
  R (.tuple #[.int .i64 0, .int .i64 x2, Sl.v Sl.nil, Sl.v Sl.nil]) w_3)) ∧
  ((a01 == 2) = false →
  (((a01 == 3) = true →
  ∀ (b1 : Nat) (w_ : World), w.heap.size ≤ b1 → b1 < w_.heap.size → Only [] w w_ →
  Calls Try.prog 37 #[.pointer b, .int .i64 a3] w_ (fun e w_4 => ∃ x3 : Sl, e = .returned (Sl.v x3) ∧ Same [b1] w_ w_4 ∧
  R (.tuple #[.int .i64 0, .int .i64 0, Sl.v Sl.nil, Sl.v x3]) w_4)) ∧
  ((a01 == 3) = false →
  ∀ (b1 : Nat) (w_ : World), w.heap.size ≤ b1 → b1 < w_.heap.size → Only [] w w_ →
  R (.tuple #[.int .i64 0, .int .i64 0, Sl.v Sl.nil, Sl.v Sl.nil]) w_))))))))
theorem pavanelaw19_model_wp (b : Option Addr) (a01 : Int) (a1 : Int) (a2 : Int) (a3 : Int) (a4 : Sl) (R : Value → World → Prop) (w : World) (h : pavanelaw19_model_vc b a01 a1 a2 a3 a4 R w) :
    Calls Try.prog 20 #[.pointer b, .agg #[.int .i64 a01, .int .i64 a1, .int .i64 a2, .int .i64 a3, Sl.v a4]] w fun e w' => ∃ v, e = .returned v ∧ R v w' := by
  unfold pavanelaw19_model_vc at h
  refine callsF (l := [(0, .pointer b), (1, .agg #[.int .i64 a01, .int .i64 a1, .int .i64 a2, .int .i64 a3, Sl.v a4])]) Try.func20 rfl Try.ntmps20 (Nat.le_of_ble_eq_true rfl) rfl (wp_seq (wp_region_lit (st_one (wn rfl) ?_)))
  refine O_box (zs := [.int .i64 a01, .int .i64 a1, .int .i64 a2, .int .i64 a3, Sl.v a4]) rfl (fun b1 w_ hn hO hb => ?_)
  have hn_b1 : w.heap.size ≤ b1 := hn
  have hA : Only [] w w_ := hO
  refine sv (R_as rfl) (sv (R_as rfl) (sv (R_as rfl) (sv (R_as rfl) (wpList_nil (then_normal (wp_seq (wp_seq (wp_region_lit (sv (v := .pointer (some ⟨b1, 0, none⟩)) (R_field (Try.runUnderlying29 _) rfl (Try.sizeOf3 _) rfl rfl) (sv (v := .int .i64 a01) (R_load1 (Try.isAgg3 _) rfl (hb.cell 0)) (wpList_nil (then_normal (wp_block (wp_seq ?_))))))))))))))
  refine wp_region_lit (sv (R_eql rfl rfl) (sv (R_as rfl) (wpList_nil (then_normal ?_))))
  refine C_split (t := (a01 == 0)) rfl (fun hc => ?_) (fun hc => ?_)
  · replace h := h.1 hc
    refine wp_seq (wp_region_lit (sv (R_mv rfl) (sv (v := .pointer (some ⟨b1, 3, none⟩)) (R_field (Try.runUnderlying29 _) rfl (Try.sizeOf3 _) rfl rfl) (sv (v := .int .i64 a3) (R_load1 (Try.isAgg3 _) rfl (hb.cell 3)) ?_))))
    replace h := h b1 w_ hn_b1 hb.lt hA
    refine st_one (wn rfl) ?_
    refine O_enter (args := #[.pointer b, .int .i64 a3]) (R_enter Try.call34 rfl) (h.mono ?_)
    clear h
    rintro _ w_1 ⟨x0, x1, rfl, hs, h⟩
    refine ⟨_, rfl, ?_⟩
    have hb1 := hs.blk hb (by simp)
    refine sv (R_mv rfl) (sv (R_ext rfl rfl) (sv (R_ext rfl rfl) (sv (R_as rfl) (sv (R_as rfl) (wpList_nil (then_normal (wp_seq (wp_region_lit (sv (R_mv rfl) (sv (R_mv rfl) (sv (R_as rfl) (sv (R_as rfl) (sv (R_as rfl) (sv (R_as rfl) ?_))))))))))))))
    refine wpList_nil (then_normal (wp_ret (block_ret (then_ret ?_))))
    exact retN (vs := [.int .i64 x0, .int .i64 x1, Sl.v Sl.nil, Sl.v Sl.nil]) Try.results20 rfl ⟨rfl, rfl, rfl, rfl, trivial⟩ h
  · replace h := h.2 hc
    refine wp_seq (wp_region_lit (sv (R_eql rfl rfl) (sv (R_as rfl) (wpList_nil (then_normal ?_)))))
    refine C_split (t := (a01 == 1)) rfl (fun hc1 => ?_) (fun hc1 => ?_)
    · replace h := h.1 hc1
      refine wp_seq (wp_region_lit (sv (R_mv rfl) (sv (v := .pointer (some ⟨b1, 1, none⟩)) (R_field (Try.runUnderlying29 _) rfl (Try.sizeOf3 _) rfl rfl) (sv (v := .int .i64 a1) (R_load1 (Try.isAgg3 _) rfl (hb.cell 1)) (sv (v := .pointer (some ⟨b1, 2, none⟩)) (R_field (Try.runUnderlying29 _) rfl (Try.sizeOf3 _) rfl rfl) (sv (v := .int .i64 a2) (R_load1 (Try.isAgg3 _) rfl (hb.cell 2)) ?_))))))
      replace h := h b1 w_ hn_b1 hb.lt hA
      refine st_one (wn rfl) ?_
      refine O_enter (args := #[.pointer b, .int .i64 a1, .int .i64 a2]) (R_enter Try.call35 rfl) (h.mono ?_)
      clear h
      rintro _ w_2 ⟨x01, x11, rfl, hs1, h⟩
      refine ⟨_, rfl, ?_⟩
      have hb2 := hs1.blk hb (by simp)
      refine sv (R_mv rfl) (sv (R_ext rfl rfl) (sv (R_ext rfl rfl) (sv (R_as rfl) (sv (R_as rfl) (wpList_nil (then_normal (wp_seq (wp_region_lit (sv (R_mv rfl) (sv (R_mv rfl) (sv (R_as rfl) (sv (R_as rfl) (sv (R_as rfl) (sv (R_as rfl) ?_))))))))))))))
      refine wpList_nil (then_normal (wp_ret (block_ret (then_ret ?_))))
      exact retN (vs := [.int .i64 x01, .int .i64 0, Sl.v x11, Sl.v Sl.nil]) Try.results20 rfl ⟨rfl, rfl, rfl, rfl, trivial⟩ h
    · replace h := h.2 hc1
      refine wp_seq (wp_region_lit (sv (R_eql rfl rfl) (sv (R_as rfl) (wpList_nil (then_normal ?_)))))
      refine C_split (t := (a01 == 2)) rfl (fun hc2 => ?_) (fun hc2 => ?_)
      · replace h := h.1 hc2
        refine wp_seq (wp_region_lit (sv (R_mv rfl) (sv (v := .pointer (some ⟨b1, 1, none⟩)) (R_field (Try.runUnderlying29 _) rfl (Try.sizeOf3 _) rfl rfl) (sv (v := .int .i64 a1) (R_load1 (Try.isAgg3 _) rfl (hb.cell 1)) (sv (v := .pointer (some ⟨b1, 2, none⟩)) (R_field (Try.runUnderlying29 _) rfl (Try.sizeOf3 _) rfl rfl) (sv (v := .int .i64 a2) (R_load1 (Try.isAgg3 _) rfl (hb.cell 2)) (sv (v := .pointer (some ⟨b1, 3, none⟩)) (R_field (Try.runUnderlying29 _) rfl (Try.sizeOf3 _) rfl rfl) (sv (v := .int .i64 a3) (R_load1 (Try.isAgg3 _) rfl (hb.cell 3)) (sv (v := .pointer (some ⟨b1, 4, none⟩)) (R_field (Try.runUnderlying29 _) rfl (Try.sizeOf27 _) rfl rfl) (sv (v := Sl.v a4) (R_load1 (Try.isAgg27 _) rfl (hb.cell 4)) ?_))))))))))
        replace h := h b1 w_ hn_b1 hb.lt hA
        refine st_one (wn rfl) ?_
        refine O_enter (args := #[.pointer b, .int .i64 a1, .int .i64 a2, .int .i64 a3, Sl.v a4]) (R_enter Try.call36 rfl) (h.mono ?_)
        clear h
        rintro _ w_3 ⟨x2, rfl, hs2, h⟩
        refine ⟨_, rfl, ?_⟩
        have hb3 := hs2.blk hb (by simp)
        refine sv (R_as rfl) (sv (R_as rfl) (sv (R_as rfl) (sv (R_as rfl) (wpList_nil (then_normal (wp_ret (block_ret (then_ret ?_))))))))
        exact retN (vs := [.int .i64 0, .int .i64 x2, Sl.v Sl.nil, Sl.v Sl.nil]) Try.results20 rfl ⟨rfl, rfl, rfl, rfl, trivial⟩ h
      · replace h := h.2 hc2
        refine wp_seq (wp_region_lit (sv (R_eql rfl rfl) (sv (R_as rfl) (wpList_nil (then_normal ?_)))))
        refine C_split (t := (a01 == 3)) rfl (fun hc3 => ?_) (fun hc3 => ?_)
        · replace h := h.1 hc3
          refine wp_seq (wp_region_lit (sv (R_mv rfl) (sv (v := .pointer (some ⟨b1, 3, none⟩)) (R_field (Try.runUnderlying29 _) rfl (Try.sizeOf3 _) rfl rfl) (sv (v := .int .i64 a3) (R_load1 (Try.isAgg3 _) rfl (hb.cell 3)) ?_))))
          replace h := h b1 w_ hn_b1 hb.lt hA
          refine st_one (wn rfl) ?_
          refine O_enter (args := #[.pointer b, .int .i64 a3]) (R_enter Try.call37 rfl) (h.mono ?_)
          clear h
          rintro _ w_4 ⟨x3, rfl, hs3, h⟩
          refine ⟨_, rfl, ?_⟩
          have hb4 := hs3.blk hb (by simp)
          refine sv (R_as rfl) (sv (R_as rfl) (sv (R_as rfl) (sv (R_as rfl) (wpList_nil (then_normal (wp_ret (block_ret (then_ret ?_))))))))
          exact retN (vs := [.int .i64 0, .int .i64 0, Sl.v Sl.nil, Sl.v x3]) Try.results20 rfl ⟨rfl, rfl, rfl, rfl, trivial⟩ h
        · replace h := h.2 hc3
          refine wp_skip (block_normal (then_normal (wp_seq (wp_region_lit (sv (R_as rfl) (sv (R_as rfl) (sv (R_as rfl) (sv (R_as rfl) (wpList_nil (then_normal (wp_ret ?_)))))))))))
          replace h := h b1 w_ hn_b1 hb.lt hA
          exact retN (vs := [.int .i64 0, .int .i64 0, Sl.v Sl.nil, Sl.v Sl.nil]) Try.results20 rfl ⟨rfl, rfl, rfl, rfl, trivial⟩ h

/-- what is to be shown of a call of (*pavaneref19.Book).Note -/
def pavaneref19_Book_Note_vc (b : Addr) (id_ : Int) (seq : Int) (now : Int) (reply : Sl) (R : Value → World → Prop) (w : World) : Prop :=
  Calls Try.prog 35 #[.pointer (some b), .int .i64 id_, .int .i64 seq] w (fun e w_ => ∃ x0 : Int, ∃ x1 : Sl, e = .returned (.tuple #[.int .i64 x0, Sl.v x1]) ∧
  (((((decide (now < 0)) || (decide (now > 1099511627776))) || (x0 != 1)) = true →
  R (.int .i64 1) w_) ∧
  ((((decide (now < 0)) || (decide (now > 1099511627776))) || (x0 != 1)) = false →
  (((decide ((↑(Sl.n reply) : Int) > 65536)) = true →
  R (.int .i64 2) w_) ∧
  ((decide ((↑(Sl.n reply) : Int) > 65536)) = false →
  Calls Try.prog 43 #[.pointer (some b), .int .i64 id_] w_ (fun e w_1 => ∃ x2 : Int, e = .returned (.int .i64 x2) ∧
  ∃ x3 : Sl, Cells w_1 (Addr.add b 0) [Sl.v x3] ∧
  ∀ (w_2 : World), Only [] w_1 w_2 →
  ∃ x4 : Sl, ∃ w_3 : World, (Instr.buildSlice 27 0 #[]).run Try.prog w_2 = .ok (Sl.v x4) w_3 ∧ Same [(Addr.add b 0).block] w_2 w_3 ∧
  ∃ x5 : Sl, ∃ w_4 : World, (Builtin.append_ #[27, 27] 27 #[Sl.v x4, Sl.v reply]).run Try.prog w_3 = .ok (Sl.v x5) w_4 ∧ Same [(Addr.add b 0).block] w_3 w_4 ∧
  ∃ ad : Addr, SlAt x3 x2 4 ad ∧
  ∃ (bk off : Nat) (cells : List Value) (ety : TypeId), ad = (⟨bk, off, none⟩ : Addr) ∧ Blk w_4 bk ety cells ∧ off + 4 ≤ cells.length ∧ ∀ w_5 : World, Only [bk] w_4 w_5 → Blk w_5 bk ety (splice cells off [.int .i64 id_, .int .i64 seq, Sl.v x5, .int .i64 (IntKind.i64.wrap (now + 50))]) →
  R (.int .i64 0) w_5))))))
theorem pavaneref19_Book_Note_wp (b : Addr) (id_ : Int) (seq : Int) (now : Int) (reply : Sl) (R : Value → World → Prop) (w : World) (h : pavaneref19_Book_Note_vc b id_ seq now reply R w) :
    Calls Try.prog 36 #[.pointer (some b), .int .i64 id_, .int .i64 seq, .int .i64 now, Sl.v reply] w fun e w' => ∃ v, e = .returned v ∧ R v w' := by
  unfold pavaneref19_Book_Note_vc at h
  refine callsF (l := [(0, .pointer (some b)), (1, .int .i64 id_), (2, .int .i64 seq), (3, .int .i64 now), (4, Sl.v reply)]) Try.func36 rfl Try.ntmps36 (Nat.le_of_ble_eq_true rfl) rfl (wp_seq (wp_region_lit (sv (R_as rfl) (wpList_nil (then_normal (wp_seq (wp_region_lit (sv (R_mv rfl) (sv (R_mv rfl) (sv (R_mv rfl) (st_one (wn rfl) ?_)))))))))))
  refine O_enter (args := #[.pointer (some b), .int .i64 id_, .int .i64 seq]) (R_enter Try.call35 rfl) (h.mono ?_)
  clear h
  rintro _ w_ ⟨x0, x1, rfl, h⟩
  refine ⟨_, rfl, ?_⟩
  refine sv (R_mv rfl) (sv (R_ext rfl rfl) (sv (R_ext rfl rfl) (sv (R_as rfl) (sv (R_as rfl) (wpList_nil (then_normal (wp_seq (wp_seq (wp_region_lit (sv (R_mv rfl) (sv (R_lss rfl rfl) (sv (R_mv rfl) ?_))))))))))))
  refine cutF 3 51 [(0, .pointer (some b)), (1, .int .i64 id_), (2, .int .i64 seq), (3, .int .i64 now), (4, Sl.v reply), (11, .int .i64 x0), (26, .bool ((decide (now < 0)) || (decide (now > 1099511627776))))] ?_ ?_
  · simp only [List.take_succ_cons, List.take_zero]
    rcases Bool.eq_false_or_eq_true (decide (now < 0)) with hg | hg
    · refine sno (wtF rfl rfl rfl (bg hg) rfl) (sno (wtF rfl rfl rfl (bg hg) rfl) (sv (R_pickT (bg hg) rfl) (wpList_nil ?_)))
      exact cutEnd ⟨rfl, rfl, rfl, rfl, rfl, rfl, (by rw [hg]; rfl), trivial⟩
    · refine svg (wtF rfl rfl rfl (bg hg) rfl) (R_mv rfl) (svg (wtF rfl rfl rfl (bg hg) rfl) (R_gtr rfl rfl) (sv (R_pickF (bg hg) rfl) (wpList_nil ?_)))
      exact cutEnd ⟨rfl, rfl, rfl, rfl, rfl, rfl, (by rw [hg]; rfl), trivial⟩
  intro us
  simp only [List.drop_succ_cons, List.drop_zero]
  refine sv (R_mv rfl) ?_
  refine cutF 3 51 [(0, .pointer (some b)), (1, .int .i64 id_), (2, .int .i64 seq), (3, .int .i64 now), (4, Sl.v reply), (30, .bool (((decide (now < 0)) || (decide (now > 1099511627776))) || (x0 != 1)))] ?_ ?_
  · simp only [List.take_succ_cons, List.take_zero]
    rcases Bool.eq_false_or_eq_true ((decide (now < 0)) || (decide (now > 1099511627776))) with hg1 | hg1
    · refine sno (wtF rfl rfl rfl (bg hg1) rfl) (sno (wtF rfl rfl rfl (bg hg1) rfl) (sv (R_pickT (bg hg1) rfl) (wpList_nil ?_)))
      exact cutEnd ⟨rfl, rfl, rfl, rfl, rfl, (by rw [hg1]; rfl), trivial⟩
    · refine svg (wtF rfl rfl rfl (bg hg1) rfl) (R_mv rfl) (svg (wtF rfl rfl rfl (bg hg1) rfl) (R_neq rfl rfl) (sv (R_pickF (bg hg1) rfl) (wpList_nil ?_)))
      exact cutEnd ⟨rfl, rfl, rfl, rfl, rfl, (by rw [hg1]; rfl), trivial⟩
  intro us
  simp only [List.drop_succ_cons, List.drop_zero]
  refine wpList_nil (then_normal ?_)
  refine C_split (t := (((decide (now < 0)) || (decide (now > 1099511627776))) || (x0 != 1))) rfl (fun hc => ?_) (fun hc => ?_)
  · replace h := h.1 hc
    refine wp_seq (wp_region_lit (sv (R_as rfl) (wpList_nil (then_normal (wp_ret (then_ret ?_))))))
    exact ret1 Try.results36 ⟨rfl, trivial⟩ h
  · replace h := h.2 hc
    refine wp_skip (then_normal (wp_seq (wp_seq (wp_region_lit (sv (R_mv rfl) (sv (R_len (s := reply) (Try.runUnderlying27 _) rfl) (sv (R_gtr rfl rfl) (wpList_nil (then_normal ?_)))))))))
    refine C_split (t := (decide ((↑(Sl.n reply) : Int) > 65536))) rfl (fun hc1 => ?_) (fun hc1 => ?_)
    · replace h := h.1 hc1
      refine wp_seq (wp_region_lit (sv (R_as rfl) (wpList_nil (then_normal (wp_ret (then_ret ?_))))))
      exact ret1 Try.results36 ⟨rfl, trivial⟩ h
    · replace h := h.2 hc1
      refine wp_skip (then_normal (wp_seq (wp_region_lit (sv (R_mv rfl) (sv (R_mv rfl) (st_one (wn rfl) ?_))))))
      refine O_enter (args := #[.pointer (some b), .int .i64 id_]) (R_enter Try.call43 rfl) (h.mono ?_)
      clear h
      rintro _ w_1 ⟨x2, rfl, h⟩
      refine ⟨_, rfl, ?_⟩
      refine sv (R_as rfl) (wpList_nil (then_normal (wp_seq ?_)))
      obtain ⟨x3, hx, h⟩ := h
      refine e_region (EL [(7, [(Addr.add b 0).block]), (9, [(Addr.add b 0).block]), (14, [])]) Try.checked.mixed ?_
      have hO := Only.drew w_1
      have hx1 : Cells w_1.drew _ _ := hx
      generalize w_1.drew = w_2 at *
      have hA : Only [] w_1 w_2 := hO
      refine eQ 0 rfl rfl (wn rfl) (fun _ => (R_mv rfl)) (eQ 1 (v := .pointer (some b)) rfl rfl (wn rfl) (fun _ => (R_nil rfl)) (eQ 2 (v := .pointer (some (Addr.add b 0))) rfl rfl (wn rfl) (fun _ => (R_field (Try.runUnderlying64 _) rfl (Try.sizeOf42 _) rfl rfl)) (eL 3 [13, 14] [0, 1, 2] (fun w' => Cells w' (Addr.add b 0) [Sl.v x3]) (v := Sl.v x3) rfl rfl (el_stable (b := (Addr.add b 0).block) (List.forall_mem_cons.2 ⟨.inr (.inr (.head _)), List.forall_mem_cons.2 ⟨.inr (.inr (.head _)), List.forall_mem_cons.2 ⟨.inl (by simp), List.forall_mem_nil _⟩⟩⟩) keep_cells) hx1 (y_val (wn rfl) (fun w' hw' => (R_load1 (Try.isAgg42 _) rfl (Cells.one hw')))) (eQ 4 rfl rfl (wn rfl) (fun _ => (R_mv rfl)) (eQ 5 rfl rfl (wn rfl) (fun _ => (R_mv rfl)) (eQ 6 rfl rfl (wn rfl) (fun _ => (R_mv rfl)) (eQ 8 rfl rfl (wn rfl) (fun _ => (R_mv rfl)) (eQ 10 rfl rfl (wn rfl) (fun _ => (R_mv rfl)) (eQ 11 rfl rfl (wn rfl) (fun _ => (R_add rfl rfl)) ?_)))))))))
      replace h := h w_2 hA
      obtain ⟨x4, w_3, hr, hs2, h⟩ := h
      refine e_one 7 rfl (by kernel_rfl) (wn rfl) (O_val (v := (Sl.v x4)) (R_buildSlice rfl hr) ?_)
      have hx2 := keep_cells _ _ (hs2 _ (.head _)) hx1
      refine ⟨el_loud rfl hs2, ?_⟩
      obtain ⟨x5, w_4, hr1, hs3, h⟩ := h
      refine e_one 9 rfl (by kernel_rfl) (wn rfl) (O_val (v := (Sl.v x5)) (R_builtin_append rfl hr1) ?_)
      have hx3 := keep_cells _ _ (hs3 _ (.head _)) hx2
      refine ⟨el_loud rfl hs3, ?_⟩
      refine eQ 12 (v := .agg #[.int .i64 id_, .int .i64 seq, Sl.v x5, .int .i64 (IntKind.i64.wrap (now + 50))]) rfl rfl (wn rfl) (fun _ => (R_build (ps' := [(0, .int .i64 id_), (1, .int .i64 seq), (2, Sl.v x5), (3, .int .i64 (IntKind.i64.wrap (now + 50)))]) rfl (by kernel_rfl))) ?_
      obtain ⟨ad, hx4, h⟩ := h
      refine eQ 13 (v := .pointer (some ad)) rfl rfl (wn rfl) (fun _ => (R_indexS (s := x3) (Try.runUnderlying42 _) (Try.sizeOf49 _) rfl rfl hx4)) ?_
      obtain ⟨bk, off, cells, ety, hx5, hx6, hx7, h⟩ := h
      refine e_one 14 rfl (by kernel_rfl) (wn rfl) ?_
      refine O_store (b := bk) (o := off) (vs := [.int .i64 id_, .int .i64 seq, Sl.v x5, .int .i64 (IntKind.i64.wrap (now + 50))]) (Try.sizeOf49 _) (ag hx5) rfl rfl rfl hx6 hx7 rfl (fun w_5 hO1 hb => ?_)
      replace h := h w_5 hO1 hb
      have hS : Same [] w_4 w_5 := same_nil
      refine ⟨el_loud rfl hS, ?_⟩
      refine e_done (by kernel_rfl) (then_normal (wp_seq (wp_region_lit (sv (R_as rfl) (wpList_nil (then_normal (wp_ret ?_)))))))
      exact ret1 Try.results36 ⟨rfl, trivial⟩ h

/-- what is to be shown of a call of (*pavaneref19.Book).Expire -/
def pavaneref19_Book_Expire_vc (b : Addr) (now : Int) (R : Value → World → Prop) (w : World) : Prop :=
  ∃ (I_ : Nat → Sl → Sl → Int → World → Prop) (nv1 : Nat), I_ nv1 Sl.nil Sl.nil 0 w ∧
  ∀ (nv : Nat) (gone : Sl) (stay : Sl) (i : Int) (w_ : World), I_ nv gone stay i w_ →
  ∃ x1 : Sl, Cells w_ (Addr.add b 0) [Sl.v x1] ∧
  (((decide (i < (↑(Sl.n x1) : Int))) = true →
  ∃ J_ : Sl → Sl → World → Prop, (∀ (gone1 : Sl) (stay1 : Sl) (w_1 : World), J_ gone1 stay1 w_1 →
  ∃ nv2 : Nat, nv2 < nv ∧ I_ nv2 gone1 stay1 (IntKind.i64.wrap (i + 1)) w_1) ∧
  (∃ x2 : Sl, Cells w_ (Addr.add b 0) [Sl.v x2] ∧
  ∃ ad : Addr, SlAt x2 i 4 ad ∧
  ∃ x3 : Int, Cells w_ (Addr.add ad 3) [.int .i64 x3] ∧
  (((decide (x3 < now)) = true →
  ∃ x4 : Sl, Cells w_ (Addr.add b 0) [Sl.v x4] ∧
  ∃ ad1 : Addr, SlAt x4 i 4 ad1 ∧
  ∃ x5 : Int, Cells w_ (Addr.add ad1 0) [.int .i64 x5] ∧
  ∃ x6 : Sl, ∃ w_2 : World, (Instr.buildSlice 34 1 #[(0, .int .i64 x5)]).run Try.prog w_ = .ok (Sl.v x6) w_2 ∧
  ∃ x7 : Sl, ∃ w_3 : World, (Builtin.append_ #[34, 34] 34 #[Sl.v gone, Sl.v x6]).run Try.prog w_2 = .ok (Sl.v x7) w_3 ∧
  J_ x7 stay w_3) ∧
  ((decide (x3 < now)) = false →
  ∃ x8 : Sl, Cells w_ (Addr.add b 0) [Sl.v x8] ∧
  ∃ ad2 : Addr, SlAt x8 i 4 ad2 ∧
  ∃ x0 : Int, ∃ x11 : Int, ∃ x21 : Sl, ∃ x31 : Int, Cells w_ ad2 [.int .i64 x0, .int .i64 x11, Sl.v x21, .int .i64 x31] ∧
  ∃ x9 : Sl, ∃ w_4 : World, (Instr.buildSlice 42 1 #[(0, .agg #[.int .i64 x0, .int .i64 x11, Sl.v x21, .int .i64 x31])]).run Try.prog w_ = .ok (Sl.v x9) w_4 ∧
  ∃ x10 : Sl, ∃ w_5 : World, (Builtin.append_ #[42, 42] 42 #[Sl.v stay, Sl.v x9]).run Try.prog w_4 = .ok (Sl.v x10) w_5 ∧
  J_ gone x10 w_5)))) ∧
  ((decide (i < (↑(Sl.n x1) : Int))) = false →
  ∃ (bk off : Nat) (cells : List Value) (ety : TypeId), Addr.add b 0 = (⟨bk, off, none⟩ : Addr) ∧ Blk w_ bk ety cells ∧ off + 1 ≤ cells.length ∧ ∀ w_6 : World, Only [bk] w_ w_6 → Blk w_6 bk ety (splice cells off [Sl.v stay]) →
  R (Sl.v gone) w_6))
theorem pavaneref19_Book_Expire_wp (b : Addr) (now : Int) (R : Value → World → Prop) (w : World) (h : pavaneref19_Book_Expire_vc b now R w) :
    Calls Try.prog 37 #[.pointer (some b), .int .i64 now] w fun e w' => ∃ v, e = .returned v ∧ R v w' := by
  unfold pavaneref19_Book_Expire_vc at h
  refine callsF (l := [(0, .pointer (some b)), (1, .int .i64 now)]) Try.func37 rfl Try.ntmps37 (Nat.le_of_ble_eq_true rfl) rfl (wp_seq (wp_region_lit (sv (R_as rfl) (wpList_nil (then_normal (wp_seq (wp_region_lit (sv (R_as rfl) (wpList_nil (then_normal (wp_seq (wp_region_lit (sv (R_as rfl) (wpList_nil ?_))))))))))))))
  refine then_normal (wp_seq (wp_seq (wp_region_lit (sv (R_as rfl) (wpList_nil (then_normal (wp_block ?_)))))))
  obtain ⟨I_, nv1, h0, hI⟩ := h
  refine wp_loop_ghost (fun nv' a' w' => ∃ gone : Sl, ∃ stay : Sl, ∃ i : Int, (∃ us, a' = fr 53 us [(0, .pointer (some b)), (1, .int .i64 now), (5, Sl.v gone), (6, Sl.v stay), (7, .int .i64 i)]) ∧ I_ nv' gone stay i w') nv1 ?_ ?_
  · exact ⟨_, _, _, fr_sub ⟨rfl, rfl, rfl, rfl, rfl, trivial⟩, h0⟩
  · clear h0
    rintro nv _ w_ ⟨gone, stay, i, ⟨us, rfl⟩, h⟩
    replace h := hI _ _ _ _ _ h
    refine wp_seq (wp_seq (wp_region_lit (sv (R_mv rfl) (sv (R_mv rfl) (sv (v := .pointer (some b)) (R_nil rfl) (sv (v := .pointer (some (Addr.add b 0))) (R_field (Try.runUnderlying64 _) rfl (Try.sizeOf42 _) rfl rfl) ?_))))))
    obtain ⟨x1, hx, h⟩ := h
    refine sv (v := Sl.v x1) (R_load1 (Try.isAgg42 _) rfl (Cells.one hx)) (sv (R_len (s := x1) (Try.runUnderlying42 _) rfl) (sv (R_lss rfl rfl) (wpList_nil (then_normal ?_))))
    refine C_split (t := (decide (i < (↑(Sl.n x1) : Int)))) rfl (fun hc => ?_) (fun hc => ?_)
    · replace h := h.1 hc
      refine wp_skip (then_normal ?_)
      obtain ⟨J_, hJ, h⟩ := h
      refine wp_seq_join (fun a' w' => ∃ gone1 : Sl, ∃ stay1 : Sl, (∃ us, a' = fr 53 us [(0, .pointer (some b)), (1, .int .i64 now), (5, Sl.v gone1), (6, Sl.v stay1), (7, .int .i64 i)]) ∧ J_ gone1 stay1 w') ?_ ?_
      · clear h
        rintro _ w_1 ⟨gone1, stay1, ⟨us1, rfl⟩, h⟩
        replace h := hJ _ _ _ h
        refine wp_region_lit (sv (R_mv rfl) (sv (R_add rfl rfl) (sv (R_as rfl) (wpList_nil (then_normal ?_)))))
        obtain ⟨nv2, hl, h⟩ := h
        exact ⟨nv2, hl, _, _, _, fr_sub ⟨rfl, rfl, rfl, rfl, rfl, trivial⟩, h⟩
      · clear hJ
        refine wp_block (wp_seq (wp_region_lit (sv (R_mv rfl) (sv (v := .pointer (some b)) (R_nil rfl) (sv (v := .pointer (some (Addr.add b 0))) (R_field (Try.runUnderlying64 _) rfl (Try.sizeOf42 _) rfl rfl) ?_)))))
        obtain ⟨x2, hx1, h⟩ := h
        refine sv (v := Sl.v x2) (R_load1 (Try.isAgg42 _) rfl (Cells.one hx1)) (sv (R_mv rfl) ?_)
        obtain ⟨ad, hx2, h⟩ := h
        refine sv (v := .pointer (some ad)) (R_indexS (s := x2) (Try.runUnderlying42 _) (Try.sizeOf49 _) rfl rfl hx2) (sv (v := .pointer (some (Addr.add ad 3))) (R_field (Try.runUnderlying49 _) rfl (Try.sizeOf3 _) rfl rfl) ?_)
        obtain ⟨x3, hx3, h⟩ := h
        refine sv (v := .int .i64 x3) (R_load1 (Try.isAgg3 _) rfl (Cells.one hx3)) (sv (R_mv rfl) (sv (R_lss rfl rfl) (wpList_nil (then_normal ?_))))
        refine C_split (t := (decide (x3 < now))) rfl (fun hc1 => ?_) (fun hc1 => ?_)
        · replace h := h.1 hc1
          refine wp_region_lit (sv (R_mv rfl) (sv (R_mv rfl) (sv (v := .pointer (some b)) (R_nil rfl) (sv (v := .pointer (some (Addr.add b 0))) (R_field (Try.runUnderlying64 _) rfl (Try.sizeOf42 _) rfl rfl) ?_))))
          obtain ⟨x4, hx4, h⟩ := h
          refine sv (v := Sl.v x4) (R_load1 (Try.isAgg42 _) rfl (Cells.one hx4)) (sv (R_mv rfl) ?_)
          obtain ⟨ad1, hx5, h⟩ := h
          refine sv (v := .pointer (some ad1)) (R_indexS (s := x4) (Try.runUnderlying42 _) (Try.sizeOf49 _) rfl rfl hx5) (sv (v := .pointer (some (Addr.add ad1 0))) (R_field (Try.runUnderlying49 _) rfl (Try.sizeOf3 _) rfl rfl) ?_)
          obtain ⟨x5, hx6, h⟩ := h
          refine sv (v := .int .i64 x5) (R_load1 (Try.isAgg3 _) rfl (Cells.one hx6)) ?_
          obtain ⟨x6, w_2, hr, h⟩ := h
          refine st_one (wn rfl) (O_val (v := (Sl.v x6)) (R_buildSlice rfl hr) ?_)
          obtain ⟨x7, w_3, hr1, h⟩ := h
          refine st_one (wn rfl) (O_val (v := (Sl.v x7)) (R_builtin_append rfl hr1) (sv (R_as rfl) (wpList_nil (block_normal (then_normal ?_)))))
          exact ⟨_, _, fr_sub ⟨rfl, rfl, rfl, rfl, rfl, trivial⟩, h⟩
        · replace h := h.2 hc1
          refine wp_region_lit (sv (R_mv rfl) (sv (R_mv rfl) (sv (v := .pointer (some b)) (R_nil rfl) (sv (v := .pointer (some (Addr.add b 0))) (R_field (Try.runUnderlying64 _) rfl (Try.sizeOf42 _) rfl rfl) ?_))))
          obtain ⟨x8, hx7, h⟩ := h
          refine sv (v := Sl.v x8) (R_load1 (Try.isAgg42 _) rfl (Cells.one hx7)) (sv (R_mv rfl) ?_)
          obtain ⟨ad2, hx8, h⟩ := h
          refine sv (v := .pointer (some ad2)) (R_indexS (s := x8) (Try.runUnderlying42 _) (Try.sizeOf49 _) rfl rfl hx8) ?_
          obtain ⟨x0, x11, x21, x31, hx9, h⟩ := h
          refine sv (v := .agg #[.int .i64 x0, .int .i64 x11, Sl.v x21, .int .i64 x31]) (R_loadN (Try.isAgg49 _) (Try.sizeOf49 _) rfl rfl hx9) ?_
          obtain ⟨x9, w_4, hr2, h⟩ := h
          refine st_one (wn rfl) (O_val (v := (Sl.v x9)) (R_buildSlice rfl hr2) ?_)
          obtain ⟨x10, w_5, hr3, h⟩ := h
          refine st_one (wn rfl) (O_val (v := (Sl.v x10)) (R_builtin_append rfl hr3) (sv (R_as rfl) (wpList_nil (block_normal (then_normal ?_)))))
          exact ⟨_, _, fr_sub ⟨rfl, rfl, rfl, rfl, rfl, trivial⟩, h⟩
    · replace h := h.2 hc
      refine wp_exit (then_exit (then_exit (block_hit (then_normal (wp_seq (wp_region_lit (sv (R_mv rfl) (sv (R_mv rfl) (sv (v := .pointer (some b)) (R_nil rfl) (sv (v := .pointer (some (Addr.add b 0))) (R_field (Try.runUnderlying64 _) rfl (Try.sizeOf42 _) rfl rfl) ?_))))))))))
      obtain ⟨bk, off, cells, ety, hx10, hx11, hx12, h⟩ := h
      refine st_one (wn rfl) ?_
      refine O_store (b := bk) (o := off) (vs := [Sl.v stay]) (Try.sizeOf42 _) (ag hx10) rfl rfl rfl hx11 hx12 rfl (fun w_6 hO hb => ?_)
      replace h := h w_6 hO hb
      refine wpList_nil (then_normal (wp_seq (wp_region_lit (sv (R_mv rfl) (sv (R_as rfl) (wpList_nil (then_normal (wp_ret ?_))))))))
      exact ret1 Try.results37 ⟨rfl, trivial⟩ h

/-- what is to be shown of a call of slices.BinarySearchFunc[[]api.Seat,api.Seat,int] -/
def slices_BinarySearchFunc_api_Seat_vc (x1 : Sl) (target : Int) (cmp : Value) (R : Value → World → Prop) (w : World) : Prop :=
  ∃ (I_ : Nat → Int → Int → World → Prop) (nv1 : Nat), I_ nv1 0 (↑(Sl.n x1) : Int) w ∧
  ∀ (nv : Nat) (i : Int) (j : Int) (w_ : World), I_ nv i j w_ →
  (((decide (i < j)) = true →
  ∃ ad : Addr, SlAt x1 (IntKind.i64.wrap (Int.fdiv (IntKind.u64.wrap (IntKind.i64.wrap (i + j))) (2 ^ 1))) 4 ad ∧
  ∃ x0 : Int, ∃ x11 : Int, ∃ x2 : Sl, ∃ x3 : Int, Cells w_ ad [.int .i64 x0, .int .i64 x11, Sl.v x2, .int .i64 x3] ∧
  ∃ (fid : FuncId) (cap : List Value), cmp = .func (.func fid) #[] cap.toArray ∧ (∀ (args : Array Value) (w : World), (callFunc fid args).run Try.prog w = .ok (.enter fid args) w) ∧
  Calls Try.prog fid (([.agg #[.int .i64 x0, .int .i64 x11, Sl.v x2, .int .i64 x3], .int .i64 target] : List Value) ++ cap).toArray w_ (fun e w_1 => ∃ x4 : Int, e = .returned (.int .i64 x4) ∧
  (((decide (x4 < 0)) = true →
  ∃ nv2 : Nat, nv2 < nv ∧ I_ nv2 (IntKind.i64.wrap ((IntKind.i64.wrap (Int.fdiv (IntKind.u64.wrap (IntKind.i64.wrap (i + j))) (2 ^ 1))) + 1)) j w_1) ∧
  ((decide (x4 < 0)) = false →
  ∃ nv3 : Nat, nv3 < nv ∧ I_ nv3 i (IntKind.i64.wrap (Int.fdiv (IntKind.u64.wrap (IntKind.i64.wrap (i + j))) (2 ^ 1))) w_1)))) ∧
  ((decide (i < j)) = false →
  ∃ J_ : Int → Bool → World → Prop, (∀ (t6 : Int) (t7 : Bool) (w_2 : World), J_ t6 t7 w_2 →
  R (.tuple #[.int .i64 t6, .bool t7]) w_2) ∧
  ((((decide (i < (↑(Sl.n x1) : Int))) = true →
  ∃ ad1 : Addr, SlAt x1 i 4 ad1 ∧
  ∃ x01 : Int, ∃ x12 : Int, ∃ x21 : Sl, ∃ x31 : Int, Cells w_ ad1 [.int .i64 x01, .int .i64 x12, Sl.v x21, .int .i64 x31] ∧
  ∃ (fid1 : FuncId) (cap1 : List Value), cmp = .func (.func fid1) #[] cap1.toArray ∧ (∀ (args : Array Value) (w : World), (callFunc fid1 args).run Try.prog w = .ok (.enter fid1 args) w) ∧
  Calls Try.prog fid1 (([.agg #[.int .i64 x01, .int .i64 x12, Sl.v x21, .int .i64 x31], .int .i64 target] : List Value) ++ cap1).toArray w_ (fun e w_3 => ∃ x5 : Int, e = .returned (.int .i64 x5) ∧
  J_ i (x5 == 0) w_3)) ∧
  ((decide (i < (↑(Sl.n x1) : Int))) = false →
  J_ i false w_)))))
theorem slices_BinarySearchFunc_api_Seat_wp (x1 : Sl) (target : Int) (cmp : Value) (R : Value → World → Prop) (w : World) (h : slices_BinarySearchFunc_api_Seat_vc x1 target cmp R w) :
    Calls Try.prog 38 #[Sl.v x1, .int .i64 target, cmp] w fun e w' => ∃ v, e = .returned v ∧ R v w' := by
  unfold slices_BinarySearchFunc_api_Seat_vc at h
  refine callsF (l := [(0, Sl.v x1), (1, .int .i64 target), (2, cmp)]) Try.func38 rfl Try.ntmps38 (Nat.le_of_ble_eq_true rfl) rfl (wp_seq (wp_region_lit (sv (R_as rfl) (sv (R_as rfl) (wpList_nil (then_normal (wp_seq (wp_region_lit (sv (R_mv rfl) (sv (R_len (s := x1) (Try.runUnderlying42 _) rfl) (sv (R_as rfl) (wpList_nil (then_normal (wp_seq ?_))))))))))))))
  refine wp_region_lit (sv (R_mv rfl) (sv (R_as rfl) (sv (R_as rfl) (wpList_nil (then_normal (wp_seq (wp_block ?_)))))))
  obtain ⟨I_, nv1, h0, hI⟩ := h
  refine wp_loop_ghost (fun nv' a' w' => ∃ i : Int, ∃ j : Int, (∃ us, a' = fr 49 us [(0, Sl.v x1), (1, .int .i64 target), (2, cmp), (8, .int .i64 (↑(Sl.n x1) : Int)), (9, .int .i64 i), (10, .int .i64 j)]) ∧ I_ nv' i j w') nv1 ?_ ?_
  · exact ⟨_, _, fr_sub ⟨rfl, rfl, rfl, rfl, rfl, rfl, trivial⟩, h0⟩
  · clear h0
    rintro nv _ w_ ⟨i, j, ⟨us, rfl⟩, h⟩
    replace h := hI _ _ _ _ h
    refine wp_seq (wp_seq (wp_region_lit (sv (R_mv rfl) (sv (R_mv rfl) (sv (R_lss rfl rfl) (wpList_nil (then_normal ?_)))))))
    refine C_split (t := (decide (i < j))) rfl (fun hc => ?_) (fun hc => ?_)
    · replace h := h.1 hc
      refine wp_skip (then_normal (wp_block (wp_seq (wp_region_lit (sv (R_mv rfl) (sv (R_mv rfl) (sv (R_add rfl rfl) (sv (v := .int .u64 (IntKind.u64.wrap (IntKind.i64.wrap (i + j)))) (R_convInt (Try.runUnderlying3 _) (Try.runUnderlying82 _) rfl) (sv (R_shr (n := 1) rfl rfl (by decide)) (sv (v := .int .i64 (IntKind.i64.wrap (Int.fdiv (IntKind.u64.wrap (IntKind.i64.wrap (i + j))) (2 ^ 1)))) (R_convInt (Try.runUnderlying82 _) (Try.runUnderlying3 _) rfl) (sv (R_as rfl) (wpList_nil (then_normal (wp_seq ?_))))))))))))))
      refine wp_region_lit (sv (R_mv rfl) (sv (R_mv rfl) (sv (R_mv rfl) ?_)))
      obtain ⟨ad, hx, h⟩ := h
      refine sv (v := .pointer (some ad)) (R_indexS (s := x1) (Try.runUnderlying42 _) (Try.sizeOf49 _) rfl rfl hx) ?_
      obtain ⟨x0, x11, x2, x3, hx1, h⟩ := h
      refine sv (v := .agg #[.int .i64 x0, .int .i64 x11, Sl.v x2, .int .i64 x3]) (R_loadN (Try.isAgg49 _) (Try.sizeOf49 _) rfl rfl hx1) (sv (R_mv rfl) ?_)
      obtain ⟨fid, cap, hx2, hx3, h⟩ := h
      refine st_one (wn rfl) ?_
      refine O_enter (args := (([.agg #[.int .i64 x0, .int .i64 x11, Sl.v x2, .int .i64 x3], .int .i64 target] : List Value) ++ cap).toArray) (R_enterC (first := []) (captured := cap) (congrArg some hx2) hx3 rfl) (h.mono ?_)
      clear h
      rintro _ w_1 ⟨x4, rfl, h⟩
      refine ⟨_, rfl, ?_⟩
      refine sv (R_lss rfl rfl) (wpList_nil (then_normal ?_))
      refine C_split (t := (decide (x4 < 0))) rfl (fun hc1 => ?_) (fun hc1 => ?_)
      · replace h := h.1 hc1
        refine wp_region_lit (sv (R_mv rfl) (sv (R_add rfl rfl) (sv (R_as rfl) (wpList_nil (block_normal (then_normal ?_))))))
        obtain ⟨nv2, hl, h⟩ := h
        exact ⟨nv2, hl, _, _, fr_sub ⟨rfl, rfl, rfl, rfl, rfl, rfl, trivial⟩, h⟩
      · replace h := h.2 hc1
        refine wp_region_lit (sv (R_mv rfl) (sv (R_as rfl) (wpList_nil (block_normal (then_normal ?_)))))
        obtain ⟨nv3, hl1, h⟩ := h
        exact ⟨nv3, hl1, _, _, fr_sub ⟨rfl, rfl, rfl, rfl, rfl, rfl, trivial⟩, h⟩
    · replace h := h.2 hc
      refine wp_exit (then_exit (then_exit (block_hit (then_normal (wp_seq ?_)))))
      obtain ⟨J_, hJ, h⟩ := h
      refine wp_cut (fun a' w' => ∃ t6 : Int, ∃ t7 : Bool, (∃ us, a' = fr 49 us [(6, .int .i64 t6), (7, .bool t7)]) ∧ J_ t6 t7 w') ?_ ?_
      · clear h
        rintro _ w_2 ⟨t6, t7, ⟨us1, rfl⟩, h⟩
        replace h := hJ _ _ _ h
        refine then_normal (wp_ret ?_)
        exact retN (vs := [.int .i64 t6, .bool t7]) Try.results38 rfl ⟨rfl, rfl, trivial⟩ h
      · refine wp_region_lit (sv (R_mv rfl) (sv (R_mv rfl) (sv (R_mv rfl) (sv (R_lss rfl rfl) (sv (R_mv rfl) ?_)))))
        rcases Bool.eq_false_or_eq_true (decide (i < (↑(Sl.n x1) : Int))) with hg | hg
        · replace h := h.1 hg
          refine svg (wtF rfl rfl rfl (bg hg) rfl) (R_mv rfl) (svg (wtF rfl rfl rfl (bg hg) rfl) (R_mv rfl) (svg (wtF rfl rfl rfl (bg hg) rfl) (R_mv rfl) ?_))
          obtain ⟨ad1, hx4, h⟩ := h
          refine svg (v := .pointer (some ad1)) (wtF rfl rfl rfl (bg hg) rfl) (R_indexS (s := x1) (Try.runUnderlying42 _) (Try.sizeOf49 _) rfl rfl hx4) ?_
          obtain ⟨x01, x12, x21, x31, hx5, h⟩ := h
          refine svg (v := .agg #[.int .i64 x01, .int .i64 x12, Sl.v x21, .int .i64 x31]) (wtF rfl rfl rfl (bg hg) rfl) (R_loadN (Try.isAgg49 _) (Try.sizeOf49 _) rfl rfl hx5) (svg (wtF rfl rfl rfl (bg hg) rfl) (R_mv rfl) ?_)
          obtain ⟨fid1, cap1, hx6, hx7, h⟩ := h
          refine st_one (wtF rfl rfl rfl (bg hg) rfl) ?_
          refine O_enter (args := (([.agg #[.int .i64 x01, .int .i64 x12, Sl.v x21, .int .i64 x31], .int .i64 target] : List Value) ++ cap1).toArray) (R_enterC (first := []) (captured := cap1) (congrArg some hx6) hx7 rfl) (h.mono ?_)
          clear h
          rintro _ w_3 ⟨x5, rfl, h⟩
          refine ⟨_, rfl, ?_⟩
          refine svg (wtF rfl rfl rfl (bg hg) rfl) (R_eql rfl rfl) (sv (R_pickT (bg hg) rfl) (sv (R_as rfl) (sv (R_as rfl) (wpList_nil ?_))))
          exact then_normal ⟨_, _, fr_sub ⟨rfl, rfl, trivial⟩, h⟩
        · replace h := h.2 hg
          refine sno (wtF rfl rfl rfl (bg hg) rfl) (sno (wtF rfl rfl rfl (bg hg) rfl) (sno (wtF rfl rfl rfl (bg hg) rfl) (sno (wtF rfl rfl rfl (bg hg) rfl) (sno (wtF rfl rfl rfl (bg hg) rfl) (sno (wtF rfl rfl rfl (bg hg) rfl) (sno (wtF rfl rfl rfl (bg hg) rfl) (sno (wtF rfl rfl rfl (bg hg) rfl) (sv (R_pickF (bg hg) rfl) (sv (R_as rfl) (sv (R_as rfl) (wpList_nil ?_)))))))))))
          exact then_normal ⟨_, _, fr_sub ⟨rfl, rfl, trivial⟩, h⟩

/-- what is to be shown of a call of (*session.Book).Note -/
def session_Book_Note_vc (b : Addr) (id_ : Int) (seq : Int) (now : Int) (reply : Sl) (R : Value → World → Prop) (w : World) : Prop :=
  Calls Try.prog 10 #[.pointer (some b), .int .i64 id_, .int .i64 seq] w (fun e w_ => ∃ x0 : Int, ∃ x1 : Sl, e = .returned (.tuple #[.int .i64 x0, Sl.v x1]) ∧
  ∃ J_ : Bool → World → Prop, (∀ (t22 : Bool) (w_1 : World), J_ t22 w_1 →
  ((t22 = true →
  R (.int .i64 1) w_1) ∧
  (t22 = false →
  (((decide ((↑(Sl.n reply) : Int) > 65536)) = true →
  R (.int .i64 2) w_1) ∧
  ((decide ((↑(Sl.n reply) : Int) > 65536)) = false →
  Calls Try.prog 26 #[.pointer (some (Addr.add b 0)), .int .i64 id_] w_1 (fun e w_2 => ∃ x01 : Int, ∃ x11 : Bool, e = .returned (.tuple #[.int .i64 x01, .bool x11]) ∧
  ∃ x2 : Sl, Cells w_2 (Addr.add (Addr.add b 0) 0) [Sl.v x2] ∧
  ∀ (w_3 : World), Only [] w_2 w_3 →
  Calls Try.prog 27 #[Sl.v reply] w_3 (fun e w_4 => ∃ x3 : Sl, e = .returned (Sl.v x3) ∧ Same [(Addr.add (Addr.add b 0) 0).block] w_3 w_4 ∧
  ∃ ad : Addr, SlAt x2 x01 4 ad ∧
  ∃ (bk off : Nat) (cells : List Value) (ety : TypeId), ad = (⟨bk, off, none⟩ : Addr) ∧ Blk w_4 bk ety cells ∧ off + 4 ≤ cells.length ∧ ∀ w_5 : World, Only [bk] w_4 w_5 → Blk w_5 bk ety (splice cells off [.int .i64 id_, .int .i64 seq, Sl.v x3, .int .i64 (IntKind.i64.wrap (now + 50))]) →
  R (.int .i64 0) w_5))))))) ∧
  (Calls Try.prog 30 #[.int .i64 now] w_ (fun e w_6 => ∃ x4 : Bool, e = .returned (.bool x4) ∧
  (((!x4) = true →
  J_ (!x4) w_6) ∧
  ((!x4) = false →
  J_ (x0 != 1) w_6)))))
theorem session_Book_Note_wp (b : Addr) (id_ : Int) (seq : Int) (now : Int) (reply : Sl) (R : Value → World → Prop) (w : World) (h : session_Book_Note_vc b id_ seq now reply R w) :
    Calls Try.prog 25 #[.pointer (some b), .int .i64 id_, .int .i64 seq, .int .i64 now, Sl.v reply] w fun e w' => ∃ v, e = .returned v ∧ R v w' := by
  unfold session_Book_Note_vc at h
  refine callsF (l := [(0, .pointer (some b)), (1, .int .i64 id_), (2, .int .i64 seq), (3, .int .i64 now), (4, Sl.v reply)]) Try.func25 rfl Try.ntmps25 (Nat.le_of_ble_eq_true rfl) rfl (wp_seq (wp_region_lit (sv (R_as rfl) (wpList_nil (then_normal (wp_seq (wp_seq (wp_region_lit (sv (R_mv rfl) (sv (R_mv rfl) (sv (R_mv rfl) (st_one (wn rfl) ?_))))))))))))
  refine O_enter (args := #[.pointer (some b), .int .i64 id_, .int .i64 seq]) (R_enter Try.call10 rfl) (h.mono ?_)
  clear h
  rintro _ w_ ⟨x0, x1, rfl, h⟩
  refine ⟨_, rfl, ?_⟩
  refine sv (R_mv rfl) (sv (R_ext rfl rfl) (sv (R_ext rfl rfl) (sv (R_as rfl) (sv (R_as rfl) (wpList_nil (then_normal (wp_block ?_)))))))
  obtain ⟨J_, hJ, h⟩ := h
  refine wp_seq_join (fun a' w' => ∃ t22 : Bool, (∃ us, a' = fr 54 us [(0, .pointer (some b)), (1, .int .i64 id_), (2, .int .i64 seq), (3, .int .i64 now), (4, Sl.v reply), (22, .bool t22)]) ∧ J_ t22 w') ?_ ?_
  · clear h
    rintro _ w_1 ⟨t22, ⟨us, rfl⟩, h⟩
    replace h := hJ _ _ h
    refine C_split (t := t22) rfl (fun hc => ?_) (fun hc => ?_)
    · replace h := h.1 hc
      refine wp_seq (wp_region_lit (sv (R_as rfl) (wpList_nil (then_normal (wp_ret (block_ret (then_ret ?_)))))))
      exact ret1 Try.results25 ⟨rfl, trivial⟩ h
    · replace h := h.2 hc
      refine wp_seq (wp_region_lit (sv (R_mv rfl) (sv (R_len (s := reply) (Try.runUnderlying27 _) rfl) (sv (R_gtr rfl rfl) (sv (R_as rfl) (wpList_nil (then_normal ?_)))))))
      refine C_split (t := (decide ((↑(Sl.n reply) : Int) > 65536))) rfl (fun hc1 => ?_) (fun hc1 => ?_)
      · replace h := h.1 hc1
        refine wp_seq (wp_region_lit (sv (R_as rfl) (wpList_nil (then_normal (wp_ret (block_ret (then_ret ?_)))))))
        exact ret1 Try.results25 ⟨rfl, trivial⟩ h
      · replace h := h.2 hc1
        refine wp_skip (block_normal (then_normal (wp_seq (wp_region_lit (sv (R_mv rfl) (sv (v := .pointer (some b)) (R_nil rfl) (sv (v := .pointer (some (Addr.add b 0))) (R_field (Try.runUnderlying47 _) rfl (Try.sizeOf45 _) rfl rfl) (sv (R_mv rfl) (st_one (wn rfl) ?_)))))))))
        refine O_enter (args := #[.pointer (some (Addr.add b 0)), .int .i64 id_]) (R_enter Try.call26 rfl) (h.mono ?_)
        clear h
        rintro _ w_2 ⟨x01, x11, rfl, h⟩
        refine ⟨_, rfl, ?_⟩
        refine sv (R_mv rfl) (sv (R_ext rfl rfl) (sv (R_ext rfl rfl) (sv (R_as rfl) (sv (R_as rfl) (wpList_nil (then_normal (wp_seq ?_)))))))
        obtain ⟨x2, hx, h⟩ := h
        refine e_region (EL [(9, [(Addr.add (Addr.add b 0) 0).block]), (14, [])]) Try.checked.mixed ?_
        have hO := Only.drew w_2
        have hx1 : Cells w_2.drew _ _ := hx
        generalize w_2.drew = w_3 at *
        have hA : Only [] w_2 w_3 := hO
        refine eQ 0 rfl rfl (wn rfl) (fun _ => (R_mv rfl)) (eQ 1 (v := .pointer (some b)) rfl rfl (wn rfl) (fun _ => (R_nil rfl)) (eQ 2 (v := .pointer (some (Addr.add b 0))) rfl rfl (wn rfl) (fun _ => (R_field (Try.runUnderlying47 _) rfl (Try.sizeOf45 _) rfl rfl)) (eQ 3 (v := .pointer (some (Addr.add (Addr.add b 0) 0))) rfl rfl (wn rfl) (fun _ => (R_field (Try.runUnderlying45 _) rfl (Try.sizeOf42 _) rfl rfl)) (eL 4 [13, 14] [0, 1, 2, 3] (fun w' => Cells w' (Addr.add (Addr.add b 0) 0) [Sl.v x2]) (v := Sl.v x2) rfl rfl (el_stable (b := (Addr.add (Addr.add b 0) 0).block) (List.forall_mem_cons.2 ⟨.inr (.inr (.head _)), List.forall_mem_cons.2 ⟨.inl (by simp), List.forall_mem_nil _⟩⟩) keep_cells) hx1 (y_val (wn rfl) (fun w' hw' => (R_load1 (Try.isAgg42 _) rfl (Cells.one hw')))) (eQ 5 rfl rfl (wn rfl) (fun _ => (R_mv rfl)) (eQ 6 rfl rfl (wn rfl) (fun _ => (R_mv rfl)) (eQ 7 rfl rfl (wn rfl) (fun _ => (R_mv rfl)) (eQ 8 rfl rfl (wn rfl) (fun _ => (R_mv rfl)) (eQ 10 rfl rfl (wn rfl) (fun _ => (R_mv rfl)) (eQ 11 rfl rfl (wn rfl) (fun _ => (R_add rfl rfl)) ?_))))))))))
        replace h := h w_3 hA
        refine e_one 9 rfl (by kernel_rfl) (wn rfl) ?_
        refine O_enter (args := #[Sl.v reply]) (R_enter Try.call27 rfl) (h.mono ?_)
        clear h
        rintro _ w_4 ⟨x3, rfl, hs2, h⟩
        refine ⟨_, rfl, ?_⟩
        have hx2 := keep_cells _ _ (hs2 _ (.head _)) hx1
        refine ⟨el_loud rfl hs2, ?_⟩
        refine eQ 12 (v := .agg #[.int .i64 id_, .int .i64 seq, Sl.v x3, .int .i64 (IntKind.i64.wrap (now + 50))]) rfl rfl (wn rfl) (fun _ => (R_build (ps' := [(0, .int .i64 id_), (1, .int .i64 seq), (2, Sl.v x3), (3, .int .i64 (IntKind.i64.wrap (now + 50)))]) rfl (by kernel_rfl))) ?_
        obtain ⟨ad, hx3, h⟩ := h
        refine eQ 13 (v := .pointer (some ad)) rfl rfl (wn rfl) (fun _ => (R_indexS (s := x2) (Try.runUnderlying42 _) (Try.sizeOf49 _) rfl rfl hx3)) ?_
        obtain ⟨bk, off, cells, ety, hx4, hx5, hx6, h⟩ := h
        refine e_one 14 rfl (by kernel_rfl) (wn rfl) ?_
        refine O_store (b := bk) (o := off) (vs := [.int .i64 id_, .int .i64 seq, Sl.v x3, .int .i64 (IntKind.i64.wrap (now + 50))]) (Try.sizeOf49 _) (ag hx4) rfl rfl rfl hx5 hx6 rfl (fun w_5 hO1 hb => ?_)
        replace h := h w_5 hO1 hb
        have hS : Same [] w_4 w_5 := same_nil
        refine ⟨el_loud rfl hS, ?_⟩
        refine e_done (by kernel_rfl) (then_normal (wp_seq (wp_region_lit (sv (R_as rfl) (wpList_nil (then_normal (wp_ret ?_)))))))
        exact ret1 Try.results25 ⟨rfl, trivial⟩ h
  · clear hJ
    refine wp_seq (wp_region_lit (sv (R_mv rfl) (st_one (wn rfl) ?_)))
    refine O_enter (args := #[.int .i64 now]) (R_enter Try.call30 rfl) (h.mono ?_)
    clear h
    rintro _ w_6 ⟨x4, rfl, h⟩
    refine ⟨_, rfl, ?_⟩
    refine sv (R_not rfl) (sv (R_as rfl) (wpList_nil (then_normal ?_)))
    refine C_split (t := (!x4)) rfl (fun hc2 => ?_) (fun hc2 => ?_)
    · replace h := h.1 hc2
      refine wp_skip (then_normal ?_)
      exact ⟨_, fr_sub ⟨rfl, rfl, rfl, rfl, rfl, rfl, trivial⟩, h⟩
    · replace h := h.2 hc2
      refine wp_region_lit (sv (R_mv rfl) (sv (R_neq rfl rfl) (sv (R_as rfl) (wpList_nil (then_normal ?_)))))
      exact ⟨_, fr_sub ⟨rfl, rfl, rfl, rfl, rfl, rfl, trivial⟩, h⟩

/-- what is to be shown of a call of (*session.Book).Open -/
def session_Book_Open_vc (b : Addr) (now : Int) (R : Value → World → Prop) (w : World) : Prop :=
  Calls Try.prog 30 #[.int .i64 now] w (fun e w_ => ∃ x1 : Bool, e = .returned (.bool x1) ∧
  (((!x1) = true →
  R (.tuple #[.int .i64 0, .int .i64 1]) w_) ∧
  ((!x1) = false →
  ∃ J_ : Bool → World → Prop, (∀ (t11 : Bool) (w_1 : World), J_ t11 w_1 →
  ((t11 = true →
  R (.tuple #[.int .i64 0, .int .i64 40]) w_1) ∧
  (t11 = false →
  ∃ x2 : Int, Cells w_1 (Addr.add b 1) [.int .i64 x2] ∧
  ∃ x3 : Int, Cells w_1 (Addr.add b 1) [.int .i64 x3] ∧
  ∃ (bk off : Nat) (cells : List Value) (ety : TypeId), Addr.add b 1 = (⟨bk, off, none⟩ : Addr) ∧ Blk w_1 bk ety cells ∧ off + 1 ≤ cells.length ∧ ∀ w_2 : World, Only [bk] w_1 w_2 → Blk w_2 bk ety (splice cells off [.int .i64 (IntKind.i64.wrap (x3 + 1))]) →
  ∃ x4 : Sl, Cells w_2 (Addr.add (Addr.add b 0) 0) [Sl.v x4] ∧
  ∃ x5 : Sl, ∃ w_3 : World, (Instr.buildSlice 42 1 #[(0, .agg #[.int .i64 x2, .int .i64 0, Sl.v Sl.nil, .int .i64 (IntKind.i64.wrap (now + 50))])]).run Try.prog w_2 = .ok (Sl.v x5) w_3 ∧
  ∃ x6 : Sl, ∃ w_4 : World, (Builtin.append_ #[42, 42] 42 #[Sl.v x4, Sl.v x5]).run Try.prog w_3 = .ok (Sl.v x6) w_4 ∧
  ∃ (bk1 off1 : Nat) (cells1 : List Value) (ety1 : TypeId), Addr.add (Addr.add b 0) 0 = (⟨bk1, off1, none⟩ : Addr) ∧ Blk w_4 bk1 ety1 cells1 ∧ off1 + 1 ≤ cells1.length ∧ ∀ w_5 : World, Only [bk1] w_4 w_5 → Blk w_5 bk1 ety1 (splice cells1 off1 [Sl.v x6]) →
  R (.tuple #[.int .i64 x2, .int .i64 0]) w_5))) ∧
  (∃ x7 : Sl, Cells w_ (Addr.add (Addr.add b 0) 0) [Sl.v x7] ∧
  (((decide ((↑(Sl.n x7) : Int) ≥ 8)) = true →
  J_ (decide ((↑(Sl.n x7) : Int) ≥ 8)) w_) ∧
  ((decide ((↑(Sl.n x7) : Int) ≥ 8)) = false →
  ∃ x8 : Int, Cells w_ (Addr.add b 1) [.int .i64 x8] ∧
  J_ (x8 == 9223372036854775807) w_))))))
theorem session_Book_Open_wp (b : Addr) (now : Int) (R : Value → World → Prop) (w : World) (h : session_Book_Open_vc b now R w) :
    Calls Try.prog 12 #[.pointer (some b), .int .i64 now] w fun e w' => ∃ v, e = .returned v ∧ R v w' := by
  unfold session_Book_Open_vc at h
  refine callsF (l := [(0, .pointer (some b)), (1, .int .i64 now)]) Try.func12 rfl Try.ntmps12 (Nat.le_of_ble_eq_true rfl) rfl (wp_seq (wp_region_lit (sv (R_as rfl) (sv (R_as rfl) (wpList_nil (then_normal (wp_seq (wp_block (wp_seq (wp_region_lit (sv (R_mv rfl) (st_one (wn rfl) ?_))))))))))))
  refine O_enter (args := #[.int .i64 now]) (R_enter Try.call30 rfl) (h.mono ?_)
  clear h
  rintro _ w_ ⟨x1, rfl, h⟩
  refine ⟨_, rfl, ?_⟩
  refine sv (R_not rfl) (sv (R_as rfl) (wpList_nil (then_normal ?_)))
  refine C_split (t := (!x1)) rfl (fun hc => ?_) (fun hc => ?_)
  · replace h := h.1 hc
    refine wp_seq (wp_region_lit (sv (R_as rfl) (sv (R_as rfl) (wpList_nil (then_normal (wp_ret (block_ret (then_ret ?_))))))))
    exact retN (vs := [.int .i64 0, .int .i64 1]) Try.results12 rfl ⟨rfl, rfl, trivial⟩ h
  · replace h := h.2 hc
    obtain ⟨J_, hJ, h⟩ := h
    refine wp_seq_join (fun a' w' => ∃ t11 : Bool, (∃ us, a' = fr 51 us [(0, .pointer (some b)), (1, .int .i64 now), (11, .bool t11)]) ∧ J_ t11 w') ?_ ?_
    · clear h
      rintro _ w_1 ⟨t11, ⟨us, rfl⟩, h⟩
      replace h := hJ _ _ h
      refine C_split (t := t11) rfl (fun hc1 => ?_) (fun hc1 => ?_)
      · replace h := h.1 hc1
        refine wp_seq (wp_region_lit (sv (R_as rfl) (sv (R_as rfl) (wpList_nil (then_normal (wp_ret (block_ret (then_ret ?_))))))))
        exact retN (vs := [.int .i64 0, .int .i64 40]) Try.results12 rfl ⟨rfl, rfl, trivial⟩ h
      · replace h := h.2 hc1
        refine wp_skip (block_normal (then_normal (wp_seq (wp_region_lit (sv (R_mv rfl) (sv (v := .pointer (some b)) (R_nil rfl) (sv (v := .pointer (some (Addr.add b 1))) (R_field (Try.runUnderlying47 _) rfl (Try.sizeOf3 _) rfl rfl) ?_)))))))
        obtain ⟨x2, hx, h⟩ := h
        refine sv (v := .int .i64 x2) (R_load1 (Try.isAgg3 _) rfl (Cells.one hx)) (sv (R_as rfl) (wpList_nil (then_normal (wp_seq (wp_region_lit (sv (R_mv rfl) (sv (v := .pointer (some b)) (R_nil rfl) (sv (v := .pointer (some (Addr.add b 1))) (R_field (Try.runUnderlying47 _) rfl (Try.sizeOf3 _) rfl rfl) ?_))))))))
        obtain ⟨x3, hx1, h⟩ := h
        refine sv (v := .int .i64 x3) (R_load1 (Try.isAgg3 _) rfl (Cells.one hx1)) (sv (R_add rfl rfl) (sv (v := .pointer (some b)) (R_nil rfl) (sv (v := .pointer (some (Addr.add b 1))) (R_field (Try.runUnderlying47 _) rfl (Try.sizeOf3 _) rfl rfl) ?_)))
        obtain ⟨bk, off, cells, ety, hx2, hx3, hx4, h⟩ := h
        refine st_one (wn rfl) ?_
        refine O_store (b := bk) (o := off) (vs := [.int .i64 (IntKind.i64.wrap (x3 + 1))]) (Try.sizeOf3 _) (ag hx2) rfl rfl rfl hx3 hx4 rfl (fun w_2 hO hb => ?_)
        replace h := h w_2 hO hb
        refine wpList_nil (then_normal (wp_seq (wp_region_lit (sv (R_mv rfl) (sv (R_mv rfl) (sv (v := .pointer (some b)) (R_nil rfl) (sv (v := .pointer (some (Addr.add b 0))) (R_field (Try.runUnderlying47 _) rfl (Try.sizeOf45 _) rfl rfl) (sv (v := .pointer (some (Addr.add (Addr.add b 0) 0))) (R_field (Try.runUnderlying45 _) rfl (Try.sizeOf42 _) rfl rfl) ?_))))))))
        obtain ⟨x4, hx5, h⟩ := h
        refine sv (v := Sl.v x4) (R_load1 (Try.isAgg42 _) rfl (Cells.one hx5)) (sv (R_mv rfl) (sv (R_mv rfl) (sv (R_add rfl rfl) (sv (v := .agg #[.int .i64 x2, .int .i64 0, Sl.v Sl.nil, .int .i64 (IntKind.i64.wrap (now + 50))]) (R_build (ps' := [(0, .int .i64 x2), (3, .int .i64 (IntKind.i64.wrap (now + 50)))]) rfl (by kernel_rfl)) ?_))))
        obtain ⟨x5, w_3, hr, h⟩ := h
        refine st_one (wn rfl) (O_val (v := (Sl.v x5)) (R_buildSlice rfl hr) ?_)
        obtain ⟨x6, w_4, hr1, h⟩ := h
        refine st_one (wn rfl) (O_val (v := (Sl.v x6)) (R_builtin_append rfl hr1) (sv (v := .pointer (some b)) (R_nil rfl) (sv (v := .pointer (some (Addr.add b 0))) (R_field (Try.runUnderlying47 _) rfl (Try.sizeOf45 _) rfl rfl) (sv (v := .pointer (some (Addr.add (Addr.add b 0) 0))) (R_field (Try.runUnderlying45 _) rfl (Try.sizeOf42 _) rfl rfl) ?_))))
        obtain ⟨bk1, off1, cells1, ety1, hx6, hx7, hx8, h⟩ := h
        refine st_one (wn rfl) ?_
        refine O_store (b := bk1) (o := off1) (vs := [Sl.v x6]) (Try.sizeOf42 _) (ag hx6) rfl rfl rfl hx7 hx8 rfl (fun w_5 hO1 hb1 => ?_)
        replace h := h w_5 hO1 hb1
        refine wpList_nil (then_normal (wp_seq (wp_region_lit (sv (R_mv rfl) (sv (R_as rfl) (sv (R_as rfl) (wpList_nil (then_normal (wp_ret ?_)))))))))
        exact retN (vs := [.int .i64 x2, .int .i64 0]) Try.results12 rfl ⟨rfl, rfl, trivial⟩ h
    · clear hJ
      refine wp_seq (wp_region_lit (sv (R_mv rfl) (sv (v := .pointer (some b)) (R_nil rfl) (sv (v := .pointer (some (Addr.add b 0))) (R_field (Try.runUnderlying47 _) rfl (Try.sizeOf45 _) rfl rfl) (sv (v := .pointer (some (Addr.add (Addr.add b 0) 0))) (R_field (Try.runUnderlying45 _) rfl (Try.sizeOf42 _) rfl rfl) ?_)))))
      obtain ⟨x7, hx9, h⟩ := h
      refine sv (v := Sl.v x7) (R_load1 (Try.isAgg42 _) rfl (Cells.one hx9)) (sv (R_len (s := x7) (Try.runUnderlying42 _) rfl) (sv (R_geq rfl rfl) (sv (R_as rfl) (wpList_nil (then_normal ?_)))))
      refine C_split (t := (decide ((↑(Sl.n x7) : Int) ≥ 8))) rfl (fun hc2 => ?_) (fun hc2 => ?_)
      · replace h := h.1 hc2
        refine wp_skip (then_normal ?_)
        exact ⟨_, fr_sub ⟨rfl, rfl, rfl, trivial⟩, h⟩
      · replace h := h.2 hc2
        refine wp_region_lit (sv (R_mv rfl) (sv (v := .pointer (some b)) (R_nil rfl) (sv (v := .pointer (some (Addr.add b 1))) (R_field (Try.runUnderlying47 _) rfl (Try.sizeOf3 _) rfl rfl) ?_)))
        obtain ⟨x8, hx10, h⟩ := h
        refine sv (v := .int .i64 x8) (R_load1 (Try.isAgg3 _) rfl (Cells.one hx10)) (sv (R_eql rfl rfl) (sv (R_as rfl) (wpList_nil (then_normal ?_))))
        exact ⟨_, fr_sub ⟨rfl, rfl, rfl, trivial⟩, h⟩

/-- what is to be shown of a call of slices.IndexFunc[[]api.Seat,api.Seat] -/
def slices_IndexFunc_api_Seat_vc (s : Sl) (f : Value) (R : Value → World → Prop) (w : World) : Prop :=
  ∃ (I_ : Nat → Int → World → Prop) (nv1 : Nat), I_ nv1 0 w ∧
  ∀ (nv : Nat) (t8 : Int) (w_ : World), I_ nv t8 w_ →
  (((decide (t8 < (↑(Sl.n s) : Int))) = true →
  ∃ ad : Addr, SlAt s t8 4 ad ∧
  ∃ x0 : Int, ∃ x1 : Int, ∃ x2 : Sl, ∃ x3 : Int, Cells w_ ad [.int .i64 x0, .int .i64 x1, Sl.v x2, .int .i64 x3] ∧
  ∃ (fid : FuncId) (cap : List Value), f = .func (.func fid) #[] cap.toArray ∧ (∀ (args : Array Value) (w : World), (callFunc fid args).run Try.prog w = .ok (.enter fid args) w) ∧
  Calls Try.prog fid (([.agg #[.int .i64 x0, .int .i64 x1, Sl.v x2, .int .i64 x3]] : List Value) ++ cap).toArray w_ (fun e w_1 => ∃ x4 : Bool, e = .returned (.bool x4) ∧
  ((x4 = true →
  R (.int .i64 t8) w_1) ∧
  (x4 = false →
  ∃ nv2 : Nat, nv2 < nv ∧ I_ nv2 (IntKind.i64.wrap (t8 + 1)) w_1)))) ∧
  ((decide (t8 < (↑(Sl.n s) : Int))) = false →
  R (.int .i64 (-1)) w_))
theorem slices_IndexFunc_api_Seat_wp (s : Sl) (f : Value) (R : Value → World → Prop) (w : World) (h : slices_IndexFunc_api_Seat_vc s f R w) :
    Calls Try.prog 41 #[Sl.v s, f] w fun e w' => ∃ v, e = .returned v ∧ R v w' := by
  unfold slices_IndexFunc_api_Seat_vc at h
  refine callsF (l := [(0, Sl.v s), (1, f)]) Try.func41 rfl Try.ntmps41 (Nat.le_of_ble_eq_true rfl) rfl (wp_seq (wp_region_lit (sv (R_as rfl) (wpList_nil (then_normal (wp_seq (wp_seq (wp_region_lit (sv (R_mv rfl) (sv (R_len (s := s) (Try.runUnderlying42 _) rfl) (sv (R_mv rfl) (wpList_nil (then_normal (wp_block ?_))))))))))))))
  obtain ⟨I_, nv1, h0, hI⟩ := h
  refine wp_loop_ghost (fun nv' a' w' => ∃ t8 : Int, (∃ us, a' = fr 19 us [(0, Sl.v s), (1, f), (7, .int .i64 (↑(Sl.n s) : Int)), (8, .int .i64 t8)]) ∧ I_ nv' t8 w') nv1 ?_ ?_
  · exact ⟨_, fr_sub ⟨rfl, rfl, rfl, rfl, trivial⟩, h0⟩
  · clear h0
    rintro nv _ w_ ⟨t8, ⟨us, rfl⟩, h⟩
    replace h := hI _ _ _ h
    refine wp_seq (wp_region_lit (sv (R_lss rfl rfl) (wpList_nil (then_normal (wp_seq ?_)))))
    refine C_split (t := (decide (t8 < (↑(Sl.n s) : Int)))) rfl (fun hc => ?_) (fun hc => ?_)
    · replace h := h.1 hc
      refine wp_skip (then_normal (wp_seq (wp_block (wp_seq (wp_region_lit (sv (R_mv rfl) (sv (R_as rfl) (wpList_nil (then_normal (wp_seq (wp_region_lit (sv (R_mv rfl) (sv (R_mv rfl) (sv (R_mv rfl) ?_))))))))))))))
      obtain ⟨ad, hx, h⟩ := h
      refine sv (v := .pointer (some ad)) (R_indexS (s := s) (Try.runUnderlying42 _) (Try.sizeOf49 _) rfl rfl hx) ?_
      obtain ⟨x0, x1, x2, x3, hx1, h⟩ := h
      refine sv (v := .agg #[.int .i64 x0, .int .i64 x1, Sl.v x2, .int .i64 x3]) (R_loadN (Try.isAgg49 _) (Try.sizeOf49 _) rfl rfl hx1) ?_
      obtain ⟨fid, cap, hx2, hx3, h⟩ := h
      refine st_one (wn rfl) ?_
      refine O_enter (args := (([.agg #[.int .i64 x0, .int .i64 x1, Sl.v x2, .int .i64 x3]] : List Value) ++ cap).toArray) (R_enterC (first := []) (captured := cap) (congrArg some hx2) hx3 rfl) (h.mono ?_)
      clear h
      rintro _ w_1 ⟨x4, rfl, h⟩
      refine ⟨_, rfl, ?_⟩
      refine wpList_nil (then_normal ?_)
      refine C_split (t := x4) rfl (fun hc1 => ?_) (fun hc1 => ?_)
      · replace h := h.1 hc1
        refine wp_seq (wp_region_lit (sv (R_mv rfl) (sv (R_as rfl) (wpList_nil (then_normal (wp_ret (block_ret (then_ret (then_ret (block_ret (then_ret ?_)))))))))))
        exact ret1 Try.results41 ⟨rfl, trivial⟩ h
      · replace h := h.2 hc1
        refine wp_skip (block_normal (then_normal (wp_region_lit (sv (R_add rfl rfl) (sv (R_mv rfl) (wpList_nil (then_normal ?_)))))))
        obtain ⟨nv2, hl, h⟩ := h
        exact ⟨nv2, hl, _, fr_sub ⟨rfl, rfl, rfl, rfl, trivial⟩, h⟩
    · replace h := h.2 hc
      refine wp_exit (then_exit (then_exit (block_hit (then_normal (wp_seq (wp_region_lit (sv (R_as rfl) (wpList_nil (then_normal (wp_ret ?_))))))))))
      exact ret1 Try.results41 ⟨rfl, trivial⟩ h

end Go.Proofs.Ytahncinfbhjkgaa.Vc
