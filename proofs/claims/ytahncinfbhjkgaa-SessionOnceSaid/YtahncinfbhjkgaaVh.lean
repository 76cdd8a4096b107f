/-
  Own work, printed by a program of ours (gen.py): of each Go function what is to be shown of a call ('.._vc'), and that it suffices ('.._wp'). Nothing is assumed.
-/
import Derived.Test.YtahncinfbhjkgaaRows
import Derived.Test.YtahncinfbhjkgaaFr
namespace Go.Proofs.Ytahncinfbhjkgaa.Vc
open Go Go.RowKit Go.Kt
set_option linter.unusedSimpArgs false
set_option linter.unusedVariables false
set_option maxRecDepth 100000
set_option maxHeartbeats 40000000
/-- what is to be shown of a call of session.New -/
def session_New_vc (R : Value → World → Prop) (w : World) : Prop :=
  ∀ (b : Nat) (w_ : World), w.heap.size ≤ b → b < w_.heap.size → Only [] w w_ → Blk w_ b 47 [Sl.v Sl.nil, .int .i64 1] →
  R (.pointer (some ⟨b, 0, none⟩)) w_
theorem session_New_wp (R : Value → World → Prop) (w : World) (h : session_New_vc R w) :
    Calls Try.prog 9 #[] w fun e w' => ∃ v, e = .returned v ∧ R v w' := by
  unfold session_New_vc at h
  refine callsF (l := []) Try.func9 rfl Try.ntmps9 (Nat.le_of_ble_eq_true rfl) rfl (wp_seq (wp_region_lit (sv (R_as rfl) (wpList_nil (then_normal (wp_seq (wp_region_lit (sv (v := .agg #[Sl.v Sl.nil, .int .i64 1]) (R_build (ps' := [(1, .int .i64 1)]) rfl (by kernel_rfl)) (st_one (wn rfl) ?_)))))))))
  refine O_box (zs := [Sl.v Sl.nil, .int .i64 1]) rfl (fun b w_ hn hO hb => ?_)
  have hn_b : w.heap.size ≤ b := hn
  have hA : Only [] w w_ := hO
  refine sv (R_as rfl) (wpList_nil (then_normal (wp_ret ?_)))
  replace h := h b w_ hn_b hb.lt hA hb
  exact ret1 Try.results9 ⟨rfl, trivial⟩ h

/-- what is to be shown of a call of (*session.Book).Next -/
def session_Book_Next_vc (b : Addr) (R : Value → World → Prop) (w : World) : Prop :=
  ∃ x1 : Int, Cells w (Addr.add b 1) [.int .i64 x1] ∧
  R (.int .i64 x1) w
theorem session_Book_Next_wp (b : Addr) (R : Value → World → Prop) (w : World) (h : session_Book_Next_vc b R w) :
    Calls Try.prog 15 #[.pointer (some b)] w fun e w' => ∃ v, e = .returned v ∧ R v w' := by
  unfold session_Book_Next_vc at h
  refine callsF (l := [(0, .pointer (some b))]) Try.func15 rfl Try.ntmps15 (Nat.le_of_ble_eq_true rfl) rfl (wp_seq (wp_region_lit (sv (R_as rfl) (wpList_nil (then_normal (wp_seq (wp_region_lit (sv (R_mv rfl) (sv (v := .pointer (some b)) (R_nil rfl) (sv (v := .pointer (some (Addr.add b 1))) (R_field (Try.runUnderlying47 _) rfl (Try.sizeOf3 _) rfl rfl) ?_))))))))))
  obtain ⟨x1, hx, h⟩ := h
  refine sv (v := .int .i64 x1) (R_load1 (Try.isAgg3 _) rfl (Cells.one hx)) (sv (R_as rfl) (wpList_nil (then_normal (wp_ret ?_))))
  exact ret1 Try.results15 ⟨rfl, trivial⟩ h

end Go.Proofs.Ytahncinfbhjkgaa.Vc
