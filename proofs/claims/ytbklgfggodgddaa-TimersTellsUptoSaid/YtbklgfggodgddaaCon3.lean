/-
  Own work: what the functions of the timers package do: Right.
-/
import Derived.Test.YtbklgfggodgddaaCon2
import Derived.Test.YtbklgfggodgddaaMapK
namespace Go.Proofs.Ytbklgfggodgddaa.Con
open Go Go.RowKit Go.Kt Go.Kt.V Go.Proofs.Ytbklgfggodgddaa.Vc
set_option linter.unusedSimpArgs false
set_option linter.unusedVariables false

theorem keyT {n s : Int} (hn : InI n) (hs : InI s) : ∃ l, keyOf Try.prog 24 (.agg #[.int .i64 0, .int .i64 n, .int .i64 s]) = some l := by
  have h3 : Try.prog.underlying 3 = some (.int .i64) := by kernel_rfl
  have h0 : 0 < Try.prog.types.size := Nat.le_of_ble_eq_true (by kernel_rfl)
  refine ⟨_, keyOf_st (fs := Try.prog.fieldsOf 24) (by kernel_rfl) (by kernel_rfl) (by kernel_rfl) (by kernel_rfl) (ls := [[.int .i64 0], [.int .i64 n], [.int .i64 s]]) ?_⟩
  have e : (Try.prog.fieldsOf 24).toList.mapM (fun f => Try.prog.keyLits Try.prog.types.size f.type (([.int .i64 0, .int .i64 n, .int .i64 s] : List Value).drop f.offset |>.take (Try.prog.cellsOf f.type))) =
    [(0 : Int), n, s].mapM (fun x => Try.prog.keyLits Try.prog.types.size 3 [.int .i64 x]) := by kernel_rfl
  rw [e]
  generalize Try.prog.types.size = d at *
  simp [kl_int h3 h0 hn, kl_int h3 h0 hs, kl_int h3 h0 (x := 0) ⟨by decide, by decide⟩]
theorem lawT : WideMaps.KeyLaw Try.prog 24 := deep_law_laid (show laidOutB Try.prog = true by kernel_rfl) (m := 2) (by omega) (of_decide_eq_true (by kernel_rfl)) (by kernel_rfl) (by kernel_rfl)
def Tim.key (t : Tim) : Value := .agg #[.int .i64 0, .int .i64 t.n, .int .i64 t.s]
theorem key_inj {a b : Tim} : a.key = b.key ↔ a.k = b.k := by
  unfold Tim.key Tim.k
  simp
/-- is it a right row? -/
def RightT (l : List Tim) : Prop := l.Pairwise fun a b => ltT a b ∧ a.k ≠ b.k
instance (l : List Tim) : Decidable (RightT l) := by unfold RightT; infer_instance
theorem right_take {l : List Tim} {n : Nat} (h : RightT l) : RightT (l.take n) := List.Pairwise.sublist (List.take_sublist _ _) h
/-- one more -/
theorem right_snoc {l : List Tim} {n : Nat} {t : Tim} (hn : l[n]? = some t) (h : RightT (l.take n)) (hk : ∀ x, x ∈ l.take n → x.k ≠ t.k) (hp : ∀ x, 0 < n → l[n - 1]? = some x → ¬ ltT t x) : RightT (l.take (n + 1)) := by
  have e : l.take (n + 1) = l.take n ++ [t] := by
    have hlt := (List.getElem?_eq_some_iff.1 hn).1
    rw [List.take_add_one, hn]; rfl
  rw [e]
  refine List.pairwise_append.2 ⟨h, by simp, fun x hx y hy => ?_⟩
  simp only [List.mem_singleton] at hy
  subst hy
  refine ⟨?_, hk x hx⟩
  obtain ⟨j, hj⟩ := List.getElem?_of_mem hx
  have hjn : j < n := by
    have := (List.getElem?_eq_some_iff.1 hj).1
    rw [List.length_take] at this; omega
  have hlt := (List.getElem?_eq_some_iff.1 hn).1
  have hz : l[n - 1]? = some l[n - 1] := List.getElem?_eq_getElem (by omega)
  have hz' : (l.take n)[n - 1]? = some l[n - 1] := by rw [List.getElem?_take, if_pos (by omega), hz]
  have h2 : ltT l[n - 1] y := (ltT_or (hk _ (List.mem_of_getElem? hz'))).resolve_right (hp _ (by omega) hz)
  by_cases hj2 : j = n - 1
  · subst hj2
    rw [hz'] at hj
    injection hj with hj
    rw [← hj]; exact h2
  · have h3 := List.pairwise_iff_getElem.1 h j (n - 1) (List.getElem?_eq_some_iff.1 hj).1 (List.getElem?_eq_some_iff.1 hz').1 (by omega)
    rw [(List.getElem?_eq_some_iff.1 hj).2, (List.getElem?_eq_some_iff.1 hz').2] at h3
    exact ltT_tr h3.1 h2
theorem right_at {l : List Tim} (h : RightT l) {i j : Nat} {x y : Tim} (hi : l[i]? = some x) (hj : l[j]? = some y) (hij : i < j) : ltT x y ∧ x.k ≠ y.k := by
  have := List.pairwise_iff_getElem.1 h i j (List.getElem?_eq_some_iff.1 hi).1 (List.getElem?_eq_some_iff.1 hj).1 hij
  rwa [(List.getElem?_eq_some_iff.1 hi).2, (List.getElem?_eq_some_iff.1 hj).2] at this
/-- a map of what was seen -/
structure Seen (w : World) (r : Nat) (l : List Tim) : Prop where
  m : ∃ m, MapK Try.prog 24 w r m ∧ (∀ t, t ∈ l → m t.key = some (.bool true)) ∧ ∀ v x, m v = some x → ∃ t, t ∈ l ∧ v = t.key
theorem Seen.only {w w' : World} {r : Nat} {l : List Tim} (h : Seen w r l) (hO : Only [] w w') : Seen w' r l := by
  obtain ⟨m, h1, h2⟩ := h.m
  exact ⟨m, h1.only hO (by simp), h2⟩
theorem Seen.lt {w : World} {r : Nat} {l : List Tim} (h : Seen w r l) : r < w.heap.size := by
  obtain ⟨m, h1, h2⟩ := h.m
  exact h1.lt
theorem right_c {w : World} {F : Nat → Prop} {s : Sl} {l : List Tim} (h : Tims w F s l) (hl : l.length < 140737488355328) :
    Calls Try.prog 9 #[Sl.v s] w fun e w' => e = .returned (.bool (decide (RightT l))) ∧ Only [] w w' := by
  refine ret (timers_Right_wp s (fun v w' => v = .bool (decide (RightT l)) ∧ Only [] w w') w ?_)
  unfold timers_Right_vc
  have hlen := h.len
  obtain ⟨k1, k2, k3⟩ := MapK.make (P := Try.prog) (kt := 24) (mty := 50) w
  refine ⟨_, _, k1, fun nv i w' => ∃ n : Nat, n ≤ l.length ∧ i = (n : Int) ∧ nv = l.length - n ∧ RightT (l.take n) ∧ Seen w' w.heap.size (l.take n) ∧ Only [] w w', l.length, ⟨0, Nat.zero_le _, rfl, rfl, by simp [RightT], ⟨_, k2, by simp, by simp⟩, k3⟩, ?_⟩
  rintro nv _ w1 ⟨n, hn, rfl, rfl, hr, hse, hO⟩
  refine ⟨fun hc => ?_, fun hc => ?_⟩
  · have hlt : (n : Int) < s.n := of_decide_eq_true hc
    have hn' : n < l.length := by omega
    obtain ⟨ad, t, cs, g1, g2, g3, g4, g5, rfl, g6⟩ := (SliceF.only rTim_ok (by decide) h hO (by simp)).get (Int.natCast_nonneg n) hlt
    rw [Int.toNat_natCast] at g2
    refine ⟨ad, g1, _, _, _, g5, fun kb w2 hb1 hb2 hO2 => ⟨fun b w3 => Only [] w2 w3 ∧ Seen w3 w.heap.size (l.take n) ∧ (b = true → ¬ RightT l) ∧ (b = false → RightT (l.take (n + 1))), ?_, ?_⟩⟩
    · rintro b w3 ⟨h3, hs3, hbt, hbf⟩
      refine ⟨fun hb => ⟨by rw [decide_eq_false (hbt hb)], hO.tr0 (hO2.tr0 h3)⟩, fun hb => (whose_c w3 t).mono ?_⟩
      rintro _ w4 ⟨rfl, hO4⟩
      obtain ⟨m, m1, m2, m3⟩ := (hs3.only hO4).m
      obtain ⟨lk, hlk⟩ := keyT g6.2.1 g6.2.2
      obtain ⟨w5, u1, ⟨m', u2, u3, u4⟩, u5⟩ := MapK.update (mty := 50) (et := 4) (v := .bool true) lawT (by kernel_rfl) m1 hlk
      have hsz := hse.lt
      have hs2 := hO2.size
      have hs3' := h3.size
      have hs4 := hO4.size
      refine ⟨_, _, _, rfl, hO4.same (by simp; omega), w5, u1, u5.same (by simp; omega), l.length - (n + 1), by omega, n + 1, by omega, by rw [wr' (by omega) (by omega)]; rfl, rfl, hbf hb, ⟨m', u2, fun x hx => ?_, fun v x hv => ?_⟩, ?_⟩
      · have e : l.take (n + 1) = l.take n ++ [t] := by rw [List.take_add_one, g2]; rfl
        rw [e, List.mem_append, List.mem_singleton] at hx
        by_cases hxt : x.key = t.key
        · rw [hxt]; exact u3
        · rw [u4 _ hxt]
          rcases hx with hx | rfl
          · exact m2 x hx
          · exact absurd rfl hxt
      · have e : l.take (n + 1) = l.take n ++ [t] := by rw [List.take_add_one, g2]; rfl
        rw [e]
        by_cases hvt : v = t.key
        · exact ⟨t, by simp, hvt⟩
        · rw [u4 v hvt] at hv
          obtain ⟨y, hy, hvy⟩ := m3 v x hv
          exact ⟨y, by simp [hy], hvy⟩
      · exact (hO.tr0 (hO2.tr0 (h3.tr0 hO4))).trans u5 fun g hg => .inr (by simp only [List.mem_singleton] at hg; omega)
    · intro w6 hO6
      refine (whose_c w6 t).mono ?_
      rintro _ w7 ⟨rfl, hO7⟩
      have h17 := hO2.tr0 (hO6.tr0 hO7)
      obtain ⟨m, m1, m2, m3⟩ := (hse.only h17).m
      obtain ⟨lk, hlk⟩ := keyT g6.2.1 g6.2.2
      have hlo := MapK.lookup (mty := 50) (et := 4) lawT (by kernel_rfl) (fun w => Try.zeroValue4 w) m1 hlk
      have hs2 := hO2.size
      have hs6 := hO6.size
      have hs7 := hO7.size
      have hnr : (∃ x, x ∈ l.take n ∧ x.k = t.k) → ¬ RightT l := by
        rintro ⟨x, hx, hk⟩ hR
        obtain ⟨j, hj⟩ := List.getElem?_of_mem hx
        have hjn : j < n := by
          have := (List.getElem?_eq_some_iff.1 hj).1
          rw [List.length_take] at this; omega
        rw [List.getElem?_take, if_pos hjn] at hj
        exact (right_at hR hj g2 hjn).2 hk
      by_cases hin : ∃ x, x ∈ l.take n ∧ x.k = t.k
      · obtain ⟨x, hx, hk⟩ := hin
        have hm : m t.key = some (.bool true) := by rw [← key_inj.2 hk]; exact m2 x hx
        rw [show (.agg #[.int .i64 0, .int .i64 t.n, .int .i64 t.s] : Value) = t.key from rfl, hm] at hlo
        exact ⟨_, _, _, rfl, hO7.same (by simp; omega), true, w7, hlo, Same.refl _ _, fun _ => ⟨hO6.tr0 hO7, hse.only h17, fun _ => hnr ⟨x, hx, hk⟩, fun e => (by cases e)⟩, fun e => (by cases e)⟩
      · have hm : m t.key = none := by
          cases hm : m t.key with
          | none => rfl
          | some v =>
            obtain ⟨x, hx, hv⟩ := m3 _ _ hm
            exact absurd ⟨x, hx, (key_inj.1 hv).symm⟩ hin
        rw [show (.agg #[.int .i64 0, .int .i64 t.n, .int .i64 t.s] : Value) = t.key from rfl, hm] at hlo
        have hk : ∀ x, x ∈ l.take n → x.k ≠ t.k := fun x hx e => hin ⟨x, hx, e⟩
        refine ⟨_, _, _, rfl, hO7.same (by simp; omega), false, w7, hlo, Same.refl _ _, fun e => (by cases e), fun _ => ⟨fun hp => ?_, fun hp => ?_⟩⟩
        · have hp : 0 < n := by have : (n : Int) > 0 := of_decide_eq_true hp; omega
          rw [wr' (by omega) (by omega)]
          obtain ⟨ad', p, cs, f1, f2, f3, f4, f5, rfl, f6⟩ := (SliceF.only rTim_ok (by decide) h (hO.tr0 h17) (by simp)).get (i := (n : Int) - 1) (by omega) (by omega)
          rw [show ((n : Int) - 1).toNat = n - 1 by omega] at f2
          refine ⟨ad', f1, _, _, _, f5, (order_c w7 p t f6).mono ?_⟩
          rintro _ w9 ⟨rfl, hO9⟩
          refine ⟨_, rfl, hO9.same (by simp; omega), hO6.tr0 (hO7.tr0 hO9), (hse.only h17).only hO9, fun hb hR => ?_, fun hb => right_snoc g2 hr hk fun x _ hx => ?_⟩
          · have := ordT_gt.1 (of_decide_eq_true hb)
            exact ltT_no this (right_at hR f2 g2 (by omega)).1
          · rw [f2] at hx
            injection hx with hx
            subst hx
            exact fun hlt => absurd (ordT_gt.2 hlt) (of_decide_eq_false hb)
        · have hp : n = 0 := by have : ¬ (n : Int) > 0 := of_decide_eq_false hp; omega
          exact ⟨hO6.tr0 hO7, hse.only h17, fun e => (by cases e), fun _ => right_snoc g2 hr hk fun x h0 => by omega⟩
  · have hge : ¬ ((n : Int) < s.n) := of_decide_eq_false hc
    rw [List.take_of_length_le (by omega)] at hr
    exact ⟨by rw [decide_eq_true hr], hO⟩
end Go.Proofs.Ytbklgfggodgddaa.Con
