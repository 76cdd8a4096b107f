/-
  Own work: two trees compared.
-/
import Derived.Test.YtmanockofcopjaaGreatDoorTree0
namespace Go.Proofs.YtmanockofcopjaaGreatDoor.Con
open Go Go.RowKit Go.Kt Go.Kt.V Go.Proofs.YtmanockofcopjaaGreatDoor.Vc
set_option linter.unusedSimpArgs false
set_option linter.unusedVariables false
set_option maxHeartbeats 4000000

theorem same_c (t : Bool) : ∀ (d : Nat) {e : Nat} {w : World} {F G : Nat → Prop} {x y : Ex} {cs ds : List Value}, rEx d w F x cs → rEx e w G y ds →
    Calls Tryz.prog 14 #[.agg cs.toArray, .agg ds.toArray, .bool t] w fun r w' => r = .returned (.bool (sameM t d x y)) ∧ Only [] w w'
  | 0, _, _, _, _, _, _, _, _, h, _ => h.elim
  | d + 1, 0, _, _, _, _, _, _, _, _, h => h.elim
  | d + 1, e + 1, w, F, G, x, y, cs, ds, ⟨sl, h1, h2⟩, ⟨sl', h3, h4⟩ => by
    subst h1 h3
    refine ret (pavaneref05_Same_wp x.k x.n (T x.s) x.op sl x.a y.k y.n (T y.s) y.op sl' y.a t (fun v w' => v = .bool (sameM t (d + 1) x y) ∧ Only [] w w') w ?_)
    unfold pavaneref05_Same_vc
    intro k0 k1 w0 hk0 hk0' hk1 hk1' hO0
    have n1 := h2.len
    have n2 := h4.len
    have c1 := h2.cap
    have b1 := h2.big
    have hcond : ((((((x.k != y.k) || (x.n != y.n)) || (!((T x.s).toList == (T y.s).toList))) || (x.op != y.op)) || (t && (x.a != y.a))) || ((sl.n : Int) != (sl'.n : Int))) = diffM t x y := by
      rw [T_eq, n1, n2]
      rfl
    rw [hcond]
    refine ⟨fun hc => ⟨by rw [sameM, if_pos hc], hO0⟩, fun hc => ?_⟩
    have hlen : x.subs.length = y.subs.length := by
      unfold diffM at hc
      rw [Bool.or_eq_false_iff] at hc
      have := hc.2
      simp only [bne_eq_false_iff_eq] at this
      omega
    rw [sameM, if_neg (by rw [hc]; decide)]
    refine ⟨fun nv i w' => ∃ n : Nat, n ≤ x.subs.length ∧ i = (n : Int) ∧ nv = x.subs.length - n ∧ all2 (sameM t d) x.subs y.subs = all2 (sameM t d) (x.subs.drop n) (y.subs.drop n) ∧ Only [] w w' ∧ w0.heap.size ≤ w'.heap.size, x.subs.length, ⟨0, Nat.zero_le _, rfl, rfl, rfl, hO0, Nat.le_refl _⟩, ?_⟩
    rintro nv _ w1 ⟨n, hn, rfl, rfl, hall, hO1, z1⟩
    refine ⟨fun hlt => ?_, fun hge => ?_⟩
    · have hlt : (n : Int) < (sl.n : Int) := of_decide_eq_true hlt
      obtain ⟨p, x1, cs1, g1, g2, g3, g4, g5, g6⟩ := (SliceF.only (rEx_ok d) (by decide) h2 hO1 (by simp)).get (Int.natCast_nonneg n) hlt
      obtain ⟨p', y1, ds1, m1, m2, m3, m4, m5, m6⟩ := (SliceF.only (rEx_ok e) (by decide) h4 hO1 (by simp)).get (i := (n : Int)) (Int.natCast_nonneg n) (by omega)
      rw [Int.toNat_natCast] at g2 m2
      refine ⟨p, g1, fun w2 hO2 => ?_⟩
      have hOO := hO1.tr0 hO2
      have g6' := rEx_only g6 hO2
      have m6' := rEx_only m6 hO2
      have tc : ∃ (k n : Int) (s : List UInt8) (o : Int) (l : Sl) (a : Int), cs1 = exv k n s o l a := by
        cases d with
        | zero => exact g6.elim
        | succ d => obtain ⟨l, hcs, _⟩ := g6; exact ⟨_, _, _, _, l, _, hcs⟩
      have td : ∃ (k n : Int) (s : List UInt8) (o : Int) (l : Sl) (a : Int), ds1 = exv k n s o l a := by
        cases e with
        | zero => exact m6.elim
        | succ e => obtain ⟨l, hcs, _⟩ := m6; exact ⟨_, _, _, _, l, _, hcs⟩
      obtain ⟨a1, a2, a3, a4, a5, a6, rfl⟩ := tc
      obtain ⟨b1, b2, b3, b4, b5, b6, rfl⟩ := td
      have g5' := g5.keep (hO2.block _ g5.lt (by simp))
      have m5' := m5.keep (hO2.block _ m5.lt (by simp))
      refine ⟨_, _, _, _, _, _, g5', p', m1, _, _, _, _, _, _, m5', (same_c t d g6' m6').mono ?_⟩
      rintro _ w3 ⟨rfl, hO3⟩
      have z2 := hO2.size
      have z3 := hO3.size
      have hst := all2_drop (f := sameM t d) g2 m2
      refine ⟨_, rfl, hO3.same (by
        simp
        omega), fun hb => ⟨?_, hOO.tr0 hO3⟩, fun hb => ⟨x.subs.length - (n + 1), by omega, n + 1, by omega, by rw [wr' (by omega) (by omega)]; rfl, rfl, ?_, hOO.tr0 hO3, by omega⟩⟩
      · rw [hall, hst]
        have hb : sameM t d x1 y1 = false := by simpa using hb
        rw [hb, Bool.false_and]
      · have hb : sameM t d x1 y1 = true := by simpa using hb
        rw [hall, hst, hb, Bool.true_and]
    · have hge : ¬ (n : Int) < (sl.n : Int) := of_decide_eq_false hge
      have : n = x.subs.length := by omega
      subst this
      rw [hall, List.drop_of_length_le (Nat.le_refl _)]
      exact ⟨rfl, hO1⟩
end Go.Proofs.YtmanockofcopjaaGreatDoor.Con
