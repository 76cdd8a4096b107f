/-
  Own work: trees copied.
-/
import Derived.Test.YtmanockofcopjaaGreatDoorSize
namespace Go.Proofs.YtmanockofcopjaaGreatDoor.Con
open Go Go.RowKit Go.Kt Go.Kt.V Go.Proofs.YtmanockofcopjaaGreatDoor.Vc
set_option linter.unusedSimpArgs false
set_option linter.unusedVariables false
set_option maxHeartbeats 4000000

theorem copied_c : ∀ (d : Nat) {w : World} {F : Nat → Prop} {sl : Sl} {xs : List Ex}, SliceF (rEx d) 6 w F sl xs → cntL (cntM d) xs ≤ 1099511627776 →
    Calls Tryz.prog 9 #[sl.v] w fun e w' => ∃ s : Sl, e = .returned s.v ∧ SliceF (rEx d) 6 w' (fun k => w.heap.size ≤ k ∧ k < w'.heap.size) s xs ∧ Only [] w w' := by
  intro d
  induction d with
  | zero =>
    intro w F sl xs h hc
    have hx : xs = [] := by
      cases xs with
      | nil => rfl
      | cons x xs =>
        obtain ⟨base, cs, _, _, _, _, h5⟩ := h.at_ 0 x rfl
        exact h5.elim
    subst hx
    have hn : sl.n = 0 := h.len
    refine (pavanelaw05_Copied_wp sl (fun v w' => ∃ s : Sl, v = s.v ∧ SliceF (rEx 0) 6 w' (fun k => w.heap.size ≤ k ∧ k < w'.heap.size) s [] ∧ Only [] w w') w ?_).mono (by
      rintro e w' ⟨v, rfl, s, rfl, h⟩; exact ⟨s, rfl, h⟩)
    unfold pavanelaw05_Copied_vc
    refine ⟨fun nv s i w' => s = Sl.nil ∧ i = 0 ∧ w' = w, 0, ⟨rfl, rfl, rfl⟩, ?_⟩
    rintro nv _ _ _ ⟨rfl, rfl, rfl⟩
    exact ⟨fun hlt => absurd (of_decide_eq_true hlt) (by omega), fun _ => ⟨_, rfl, SliceF.nil _ _ _ _, Only.refl _ _⟩⟩
  | succ d ih =>
    intro w F sl xs h hc
    have hlen := h.len
    have hcap := h.cap
    have hbig := h.big
    have hxl := cnt_len (d := d) (xs := xs)
    refine (pavanelaw05_Copied_wp sl (fun v w' => ∃ s : Sl, v = s.v ∧ SliceF (rEx (d + 1)) 6 w' (fun k => w.heap.size ≤ k ∧ k < w'.heap.size) s xs ∧ Only [] w w') w ?_).mono (by
      rintro e w' ⟨v, rfl, s, rfl, h⟩; exact ⟨s, rfl, h⟩)
    unfold pavanelaw05_Copied_vc
    refine ⟨fun nv s i w' => ∃ n : Nat, n ≤ xs.length ∧ i = (n : Int) ∧ nv = xs.length - n ∧ Own (rEx (d + 1)) 6 24 w.heap.size w' (fun k => w.heap.size ≤ k) s (xs.take n) ∧ Only [] w w', xs.length, ⟨0, Nat.zero_le _, rfl, rfl, Own.nil _ _ _ _ _ _, Only.refl _ _⟩, ?_⟩
    rintro nv out _ w0 ⟨n, hn, rfl, rfl, hown, hO0⟩
    have z0 := hO0.size
    refine ⟨fun hlt => ?_, fun hge => ?_⟩
    · have hlt : (n : Int) < (sl.n : Int) := of_decide_eq_true hlt
      obtain ⟨p, x, cs, g1, g2, g3, g4, g5, sx, rfl, g6⟩ := (SliceF.only (rEx_ok (d + 1)) (by decide) h hO0 (by simp)).get (Int.natCast_nonneg n) hlt
      rw [Int.toNat_natCast] at g2
      have hcx : cntL (cntM d) x.subs ≤ 1099511627776 := by
        have := cnt_at (d := d + 1) (List.mem_of_getElem? g2)
        rw [cntM] at this
        omega
      refine ⟨p, g1, _, _, _, _, _, _, g5, fun k2 w1 hk2 hk2' hO1 => (ih (SliceF.only (rEx_ok d) (by decide) g6 hO1 (by simp)) hcx).mono ?_⟩
      rintro _ w2 ⟨l2, rfl, hL2, hO2⟩
      have z1 := hO1.size
      have z2 := hO2.size
      refine ⟨l2, rfl, hO2.same (by simp; omega), fun w3 hO3 => ?_⟩
      have z3 := hO3.size
      obtain ⟨w4, k4, hB4, hO4⟩ := buildX w3 [exv x.k x.n x.s x.op l2 x.a] (by simp) (by simp) (by simp) (parts := #[(0, .agg (exv x.k x.n x.s x.op l2 x.a).toArray)]) rfl
      rw [List.flatten_cons, List.flatten_nil, List.append_nil] at hB4
      have z4 := hO4.size
      refine ⟨⟨some ⟨w3.heap.size, 0, none⟩, 1, 1⟩, w4, k4, hO4.same (by simp; omega), ?_⟩
      have hownIn := hown.inHeap (rEx_ok (d + 1))
      have hg : ∀ g, out.a = some ⟨g, 0, none⟩ → g < w0.heap.size := fun g e => (hown.blk e).2
      have hown4 : Own (rEx (d + 1)) 6 24 w.heap.size w4 (fun k => w.heap.size ≤ k) out (xs.take n) := by
        refine (hownIn.keep (rEx_ok (d + 1)) fun k hk hlt => ?_).mono (rEx_ok (d + 1)) fun k hk => hk.1
        have hk0 : k < w0.heap.size := by
          rcases hk with hk | hk
          · exact hk.2
          · exact hg k hk.2
        rw [hO4.block k (by omega) (by simp), hO3.block k (by omega) (by simp; omega), hO2.block k (by omega) (by simp), hO1.block k hk0 (by simp)]
      have hL4 : SliceF (rEx d) 6 w4 (fun k => w1.heap.size ≤ k ∧ k < w2.heap.size) l2 x.subs := SliceF.only (rEx_ok d) (by decide) (SliceF.only (rEx_ok d) (by decide) hL2 hO3 fun k hk _ hm => by simp only [List.mem_singleton] at hm; omega) hO4 (by simp)
      have hy : SliceF (rEx (d + 1)) 6 w4 (fun k => w.heap.size ≤ k ∧ out.a ≠ some ⟨k, 0, none⟩) ⟨some ⟨w3.heap.size, 0, none⟩, 1, 1⟩ [x] := by
        refine ⟨rfl, Nat.le_refl _, fun h => (by cases h), (by decide : (1 : Nat) ≤ 9223372036854775807), fun j y hj => ?_⟩
        have hj0 : j = 0 := by
          have := (List.getElem?_eq_some_iff.1 hj).1
          simp only [List.length_singleton] at this
          omega
        subst hj0
        simp only [List.getElem?_cons_zero, Option.some.injEq] at hj
        subst hj
        refine ⟨⟨w3.heap.size, 0, none⟩, exv x.k x.n x.s x.op l2 x.a, rfl, ⟨by dsimp only; omega, fun e => ?_⟩, rfl, ?_, l2, rfl, SliceF.mono (rEx_ok d) hL4 fun k hk => ⟨by omega, fun e => ?_⟩⟩
        · have := hg _ e; dsimp only at this; omega
        · rw [Nat.zero_mul]
          exact hB4.cells 0 _ fun j v hv => by rw [Nat.zero_add]; exact hv
        · have := hg _ e; omega
      obtain ⟨s', w5, m1, m2, gs, m3, m4, _⟩ := app_own (P := Tryz.prog) (t := 22) (ty := 22) (e := 24) (i := Tryz.t24) (bytes := 72) (size := 6) (r := rEx (d + 1)) (by kernel_rfl) (by kernel_rfl) rfl rfl rfl rfl (rEx_ok (d + 1)) hown4 hy (by omega) (by
        rw [List.length_take, List.length_singleton]
        have : min n xs.length ≤ 1099511627776 := by omega
        omega) (by decide)
      refine ⟨s', w5, m1, m3.same fun k hk => ?_, xs.length - (n + 1), by omega, n + 1, by omega, by rw [wr' (by omega) (by omega)]; rfl, rfl, ?_, ?_⟩
      · simp only [List.mem_singleton] at hk
        subst hk
        refine ⟨by omega, fun hm => ?_⟩
        have := hg _ (m4 _ hm).1
        omega
      · rw [List.take_add_one, g2]
        exact m2
      · refine ((((hO0.tr0 hO1).tr0 hO2).trans hO3 fun x hx => .inr (by simp only [List.mem_singleton] at hx; omega)).tr0 hO4).trans m3 fun x hx => .inr (m4 x hx).2.1
    · have hge : ¬ (n : Int) < (sl.n : Int) := of_decide_eq_false hge
      have : n = xs.length := by omega
      subst this
      rw [List.take_of_length_le (Nat.le_refl _)] at hown
      refine ⟨out, rfl, (SliceF.inHeap (rEx_ok (d + 1)) (hown.slice (rEx_ok (d + 1))) (by decide)).mono (rEx_ok (d + 1)) fun k hk => ⟨?_, hk.2⟩, hO0⟩
      rcases hk.1 with e | e
      · exact e
      · exact e.1
end Go.Proofs.YtmanockofcopjaaGreatDoor.Con
