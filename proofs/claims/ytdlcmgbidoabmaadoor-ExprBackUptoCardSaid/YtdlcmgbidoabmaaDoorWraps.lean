/-
  Own work: ExprWraps: parentheses around an expression leave no trace.
-/
import Derived.Test.YtdlcmgbidoabmaaDoorText
import Derived.Test.YtdlcmgbidoabmaaDoorWrap
namespace Go.Proofs.YtdlcmgbidoabmaaDoor.Con
open Go Go.RowKit Go.Kt Go.Kt.V Go.Proofs.YtdlcmgbidoabmaaDoor.Vc
set_option linter.unusedSimpArgs false
set_option linter.unusedVariables false
set_option maxHeartbeats 4000000

theorem Sim.same {x y : Ex} (h : Sim x y) : ∀ d, sameM false d x y = true := by
  have hd : ∀ {k n : Int} {s : List UInt8} {op : Int} {xs ys : List Ex} {a b : Int}, xs.length = ys.length → diffM false (.mk k n s op xs a) (.mk k n s op ys b) = false := fun h => by
    simp [diffM, Ex.k, Ex.n, Ex.s, Ex.op, Ex.subs, Ex.a, h]
  induction h with
  | leaf k n s op a b =>
    intro d
    cases d with
    | zero => rfl
    | succ d => rw [sameM, if_neg (by rw [hd rfl]; decide)]; rfl
  | one k n s op a b x y h ih =>
    intro d
    cases d with
    | zero => rfl
    | succ d =>
      rw [sameM, if_neg (by rw [hd (xs := [x]) (ys := [y]) rfl]; decide)]
      simp only [Ex.subs, all2, ih d, Bool.and_true]
  | two k n s op a b x y x' y' h1 h2 ih1 ih2 =>
    intro d
    cases d with
    | zero => rfl
    | succ d =>
      rw [sameM, if_neg (by rw [hd (xs := [x, y]) (ys := [x', y']) rfl]; decide)]
      simp only [Ex.subs, all2, ih1 d, ih2 d, Bool.and_true]
theorem wraps_c {w : World} (l : List UInt8) (hl : l.length ≤ 140737488351232) (hE : Er w) (hT : Tb w) : Calls Tryd.prog 3 #[.string (T l)] w fun e w' => e = .returned (.bool true) ∧ Only [] w w' := by
  refine ret (pavanelaw05_ExprWraps_wp (T l) (fun v w' => v = .bool true ∧ Only [] w w') w ?_)
  unfold pavanelaw05_ExprWraps_vc
  rw [T_size]
  refine (small_c w hE hT).mono ?_
  rintro _ w0 ⟨rfl, hO0⟩
  have z0 := hO0.size
  refine ⟨true, rfl, fun _ => ⟨rfl, hO0⟩, fun hc => (read_c l (hE.only hO0)).mono ?_⟩
  rintro _ w1 ⟨cs, rfl, hX, hO1⟩
  have z1 := hO1.size
  have hO01 := hO0.tr0 hO1
  obtain ⟨xl, rfl, _⟩ := hX.cells
  obtain ⟨d1, hd1⟩ := hX.ex
  have e1 : (ByteArray.mk #[40]).size = 1 := rfl
  have e2 : ByteArray.mk #[40] ++ T l ++ ByteArray.mk #[10, 41] = T (40 :: (l ++ exw)) := by
    rw [show ByteArray.mk #[40] = T [40] from rfl, show ByteArray.mk #[10, 41] = T [10, 41] from rfl, T_app, T_app]
    rfl
  refine ⟨_, _, _, _, _, _, _, _, rfl, by omega, ?_, fun k0 k1 w2 hk0 hk0' hk1 hk1' hO2 => ?_⟩
  · rw [show ByteArray.mk #[40] = T [40] from rfl, T_app, T_size, List.length_append, List.length_singleton]
    omega
  have z2 := hO2.size
  rw [e2]
  refine (read_c _ (hE.only (hO01.tr0 hO2))).mono ?_
  rintro _ w3 ⟨ds, rfl, hY, hO3⟩
  have z3 := hO3.size
  have hO03 := (hO01.tr0 hO2).tr0 hO3
  obtain ⟨yl, rfl, _⟩ := hY.cells
  obtain ⟨d2, hd2⟩ := hY.ex
  refine ⟨_, _, _, _, _, _, _, _, rfl, hO3.same (by simp; omega), fun k2 k3 w4 hk2 hk2' hk3 hk3' hO4 => ⟨fun _ => ⟨rfl, hO03.tr0 hO4⟩, fun hf => ?_⟩⟩
  have hf : (readA l).2.1 = 0 := by simpa using hf
  refine (same_c false d1 (rEx_only hd1 ((hO2.tr0 hO3).tr0 hO4)) (rEx_only hd2 hO4)).mono ?_
  rintro _ w5 ⟨rfl, hO5⟩
  refine ⟨_, rfl, hO5.same (by simp; omega), ?_, (hO03.tr0 hO4).tr0 hO5⟩
  rcases wrap_law l hf with h | h | ⟨h, hs⟩
  · rw [h]; rfl
  · rw [h]; rfl
  · rw [h, hs.same d1]; rfl
end Go.Proofs.YtdlcmgbidoabmaaDoor.Con
