/-
  Own work: TimersMixes.
-/
import Derived.Test.YtbklgfggodgddaaCon8
import Derived.Test.YtbklgfggodgddaaTimLaw
namespace Go.Proofs.Ytbklgfggodgddaa.Con
open Go Go.RowKit Go.Kt Go.Kt.V Go.Proofs.Ytbklgfggodgddaa.Vc
set_option linter.unusedSimpArgs false
set_option linter.unusedVariables false

theorem right_ext : ∀ {l m : List Tim}, RightT l → RightT m → (∀ x, x ∈ l ↔ x ∈ m) → l = m
  | [], [], _, _, _ => rfl
  | [], y :: m, _, _, h => by have := (h y).2 (by simp); simp at this
  | x :: l, [], _, _, h => by have := (h x).1 (by simp); simp at this
  | x :: l, y :: m, hl, hm, h => by
    obtain ⟨h1, h2⟩ := List.pairwise_cons.1 hl
    obtain ⟨h3, h4⟩ := List.pairwise_cons.1 hm
    have hxy : x = y := by
      rcases List.mem_cons.1 ((h x).1 (by simp)) with e | hx
      · exact e
      · rcases List.mem_cons.1 ((h y).2 (by simp)) with e | hy
        · exact e.symm
        · exact (ltT_no (h3 x hx).1 (h1 y hy).1).elim
    subst hxy
    have : l = m := right_ext h2 h4 fun z => by
      have hz := h z
      simp only [List.mem_cons] at hz
      constructor
      · intro hzl
        rcases hz.1 (.inr hzl) with e | e
        · subst e; exact ((h1 z hzl).2 rfl).elim
        · exact e
      · intro hzm
        rcases hz.2 (.inr hzm) with e | e
        · subst e; exact ((h3 z hzm).2 rfl).elim
        · exact e
    rw [this]
theorem setT_mem {l : List Tim} {t x : Tim} : x ∈ setT l t ↔ x = t ∨ (x ∈ l ∧ x.k ≠ t.k) := by
  rw [setT, insT_mem, List.mem_filter]
  simp
theorem setT_comm {l : List Tim} (h : RightT l) {a b : Tim} (hab : a.k ≠ b.k) : setT (setT l a) b = setT (setT l b) a := by
  refine right_ext (setT_right (setT_right h)) (setT_right (setT_right h)) fun x => ?_
  simp only [setT_mem]
  constructor
  · rintro (rfl | ⟨rfl | ⟨h1, h2⟩, h3⟩)
    · exact .inr ⟨.inl rfl, hab.symm⟩
    · exact .inl rfl
    · exact .inr ⟨.inr ⟨h1, h3⟩, h2⟩
  · rintro (rfl | ⟨rfl | ⟨h1, h2⟩, h3⟩)
    · exact .inr ⟨.inl rfl, hab⟩
    · exact .inl rfl
    · exact .inr ⟨.inr ⟨h1, h3⟩, h2⟩
theorem mixes_c {w : World} {F : Nat → Prop} {s : Sl} {l : List Tim} (h : Tims w F s l) (hl : (l.length + 3) * 24 ≤ 140737488355328) (a b : Tim) (ha : a.ok) (hb : b.ok) :
    Calls Try.prog 3 #[Sl.v s, a.v, b.v] w fun e w' => e = .returned (.bool true) ∧ Only [] w w' := by
  refine ret (pavanelaw14_TimersMixes_wp s a.d a.n a.s b.d b.n b.s (fun v w' => v = .bool true ∧ Only [] w w') w ?_)
  unfold pavanelaw14_TimersMixes_vc
  have hf2 : ∀ x y : Tim, (l.length + [x, y].length + 1) * 24 ≤ 140737488355328 := fun x y => hl
  have hf1 : ∀ x : Tim, (l.length + [x].length + 1) * 24 ≤ 140737488355328 := fun x => Nat.le_trans (Nat.mul_le_mul_right 24 (Nat.le_succ (l.length + 2))) hl
  have hlt : l.length < 140737488355328 := by omega
  intro g0 g1 w0 e1 e2 e3 e4 hO0
  have sm : ∀ {u u' : World}, Only [] w u → w0.heap.size ≤ u.heap.size → Only [] u u' → Same [g0, g1] u u' := fun h0 hs h => h.same (by simp; omega)
  have sl : ∀ {u : World}, Only [] w u → Tims u F s l := fun hO => SliceF.only rTim_ok (by decide) h hO (by simp)
  refine (small_c w0).mono ?_
  rintro _ w1 ⟨rfl, hO1⟩
  have c1 := hO0.tr0 hO1
  have z1 := hO1.size
  obtain ⟨l0, w2, k1, k2, hO2⟩ := build_t (w := w1) (ts := [a, b]) (n := 2) rfl rfl (by decide) (by decide) (by simp [ha, hb])
  have c2 := c1.tr0 hO2
  have z2 := Nat.le_trans z1 hO2.size
  refine ⟨true, rfl, sm hO0 (Nat.le_refl _) hO1, l0, w2, k1, sm c1 z1 hO2, (set_c (sl c2) k2.sl (hf2 _ _)).mono ?_⟩
  rintro _ w3 ⟨x, i0, rfl, hO3, hx⟩
  have c3 := c2.tr0 hO3
  have z3 := Nat.le_trans z2 hO3.size
  obtain ⟨l2, w4, m1, m2, hO4⟩ := build_t (w := w3) (ts := [b, a]) (n := 2) rfl rfl (by decide) (by decide) (by simp [ha, hb])
  have c4 := c3.tr0 hO4
  have z4 := Nat.le_trans z3 hO4.size
  refine ⟨x, i0, rfl, sm c2 z2 hO3, l2, w4, m1, sm c3 z3 hO4, (set_c (sl c4) m2.sl (hf2 _ _)).mono ?_⟩
  rintro _ w5 ⟨y, i1, rfl, hO5, hy⟩
  have c5 := c4.tr0 hO5
  have z5 := Nat.le_trans z4 hO5.size
  obtain ⟨l4, w6, n1, n2, hO6⟩ := build_t (w := w5) (ts := [a]) (n := 1) rfl rfl (by decide) (by decide) (by simp [ha])
  have c6 := c5.tr0 hO6
  have z6 := Nat.le_trans z5 hO6.size
  refine ⟨y, i1, rfl, sm c4 z4 hO5, l4, w6, n1, sm c5 z5 hO6, (set_c (sl c6) n2.sl (hf1 _)).mono ?_⟩
  rintro _ w7 ⟨m, i2, rfl, hO7, hm⟩
  have c7 := c6.tr0 hO7
  have z7 := Nat.le_trans z6 hO7.size
  obtain ⟨l6, w8, p1, p2, hO8⟩ := build_t (w := w7) (ts := [b]) (n := 1) rfl rfl (by decide) (by decide) (by simp [hb])
  have c8 := c7.tr0 hO8
  have z8 := Nat.le_trans z7 hO8.size
  refine ⟨m, i2, rfl, sm c6 z6 hO7, l6, w8, p1, sm c7 z7 hO8, ?_⟩
  by_cases hR : RightT l
  · rcases hx with ⟨_, rfl, hx⟩ | ⟨hn, _⟩
    case inr => exact absurd hR hn
    rcases hy with ⟨_, rfl, hy⟩ | ⟨hn, _⟩
    case inr => exact absurd hR hn
    rcases hm with ⟨_, rfl, hm⟩ | ⟨hn, _⟩
    case inr => exact absurd hR hn
    have hm8 : OwnU w6.heap.size w8 m (setsT l [a]) := OwnU.only hm hO8
    have hml : (setsT l [a]).length ≤ l.length + 1 := setsT_len
    have hfit : ((setsT l [a]).length + [b].length + 1) * 24 ≤ 140737488355328 := Nat.le_trans (Nat.mul_le_mul_right 24 (Nat.succ_le_succ (Nat.succ_le_succ hml))) hl
    refine (set_c hm8.sl p2.sl hfit).mono ?_
    rintro _ w9 ⟨z, i3, rfl, hO9, hz⟩
    have c9 := c8.tr0 hO9
    have z9 := Nat.le_trans z8 hO9.size
    rcases hz with ⟨_, rfl, hz⟩ | ⟨hn, _⟩
    case inr => exact absurd (setsT_right hR) hn
    have hx9 : OwnU w2.heap.size w9 x (setsT l [a, b]) := OwnU.only hx (hO4.tr0 (hO5.tr0 (hO6.tr0 (hO7.tr0 (hO8.tr0 hO9)))))
    have hy9 : OwnU w4.heap.size w9 y (setsT l [b, a]) := OwnU.only hy (hO6.tr0 (hO7.tr0 (hO8.tr0 hO9)))
    refine ⟨z, 0, rfl, sm c8 z8 hO9, fun e => (by cases e), fun _ => ⟨fun b1 w10 => b1 = true ∧ Only [] w w10, fun b1 w10 hj => ⟨by rw [hj.1], hj.2⟩, fun _ => ⟨fun _ => ?_, fun hne => ?_⟩, fun e => (by cases e)⟩⟩
    · refine (same_c hx9.sl hz.sl).mono ?_
      rintro _ w10 ⟨rfl, hO10⟩
      exact ⟨_, rfl, sm c9 z9 hO10, decide_eq_true rfl, c9.tr0 hO10⟩
    · have hk : a.k ≠ b.k := fun e => by
        have : ¬ a.n = b.n := by simpa using hne
        unfold Tim.k at e
        injection e with e _
        exact this e
      refine (same_c hx9.sl hy9.sl).mono ?_
      rintro _ w10 ⟨rfl, hO10⟩
      have hxy : setsT l [a, b] = setsT l [b, a] := setT_comm hR hk
      refine ⟨_, rfl, sm c9 z9 hO10, fun _ => ?_, fun e => absurd e (by rw [decide_eq_true hxy]; decide)⟩
      refine (same_c (OwnU.sl (OwnU.only hx9 hO10)) (OwnU.sl (OwnU.only hz hO10))).mono ?_
      rintro _ w11 ⟨rfl, hO11⟩
      exact ⟨_, rfl, sm (c9.tr0 hO10) (Nat.le_trans z9 hO10.size) hO11, decide_eq_true rfl, (c9.tr0 hO10).tr0 hO11⟩
  · rcases hx with ⟨hn, _⟩ | ⟨_, rfl, rfl⟩
    · exact absurd hn hR
    rcases hy with ⟨hn, _⟩ | ⟨_, rfl, rfl⟩
    · exact absurd hn hR
    rcases hm with ⟨hn, _⟩ | ⟨_, rfl, rfl⟩
    · exact absurd hn hR
    refine (set_c (SliceF.nil rTim 3 w8 (fun _ => False)) p2.sl (by simp)).mono ?_
    rintro _ w9 ⟨z, i3, rfl, hO9, hz⟩
    have c9 := c8.tr0 hO9
    have z9 := Nat.le_trans z8 hO9.size
    refine ⟨z, i3, rfl, sm c8 z8 hO9, fun _ => ⟨fun b1 w10 => b1 = true ∧ Only [] w w10, fun b1 w10 hj => ⟨by rw [hj.1], hj.2⟩, fun _ => ?_, fun e => (by cases e)⟩, fun e => (by cases e)⟩
    refine (right_c (sl c9) hlt).mono ?_
    rintro _ w10 ⟨rfl, hO10⟩
    exact ⟨_, rfl, sm c9 z9 hO10, by simp [hR], c9.tr0 hO10⟩
theorem mixes_law {w : World} {F : Nat → Prop} {s : Sl} {l : List Tim} (h : Tims w F s l) (hl : l.length * 24 ≤ 140737488351232) (a : Tim) (ha : a.ok) (b : Tim) (hb : b.ok) :
    Calls Try.prog 3 #[Sl.v s, a.v, b.v] w fun e w' => e = .returned (.bool true) ∧ Only [] w w' := mixes_c h (by omega) a b ha hb
end Go.Proofs.Ytbklgfggodgddaa.Con
