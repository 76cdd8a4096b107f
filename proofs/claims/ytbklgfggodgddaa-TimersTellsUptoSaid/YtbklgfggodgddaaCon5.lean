/-
  Own work: what the functions of the timers package do: Set, Drop, Due; rows alike.
-/
import Derived.Test.YtbklgfggodgddaaCon4
namespace Go.Proofs.Ytbklgfggodgddaa.Con
open Go Go.RowKit Go.Kt Go.Kt.V Go.Proofs.Ytbklgfggodgddaa.Vc
set_option linter.unusedSimpArgs false
set_option linter.unusedVariables false

abbrev OwnU (B : Nat) (w : World) (s : Sl) (l : List Tim) : Prop := OwnT B w (fun _ => True) s l
theorem OwnU.of {B : Nat} {w : World} {F : Nat → Prop} {s : Sl} {l : List Tim} (h : OwnT B w F s l) : OwnU B w s l := h.mono rTim_ok fun _ _ => trivial
theorem OwnU.flat {B : Nat} {w : World} {s : Sl} {l : List Tim} (h : OwnU B w s l) : OwnT B w (fun _ => False) s l := by
  rcases h with h | ⟨g, css, tail, a1, a2, a4, a5, a6, a7, a9, a8⟩
  · exact .inl h
  · exact .inr ⟨g, css, tail, a1, a2, a4, a5, a6, a7, a9, All2.imp (fun _ _ h => h) a8⟩
theorem OwnU.sl {B : Nat} {w : World} {s : Sl} {l : List Tim} (h : OwnU B w s l) : Tims w (fun k => B ≤ k ∧ s.a = some ⟨k, 0, none⟩) s l :=
  (h.flat.slice rTim_ok).mono rTim_ok fun k hk => hk.elim False.elim id
theorem OwnU.keep {B : Nat} {w w' : World} {s : Sl} {l : List Tim} (h : OwnU B w s l) (hk : ∀ k, B ≤ k ∧ s.a = some ⟨k, 0, none⟩ → k < w.heap.size → w'.heap[k]? = w.heap[k]?) : OwnU B w' s l :=
  OwnU.of (h.flat.keep rTim_ok fun k hF hlt => hk k (hF.elim False.elim id) hlt)
theorem OwnU.only {B : Nat} {w w' : World} {s : Sl} {l : List Tim} (h : OwnU B w s l) (hO : Only [] w w') : OwnU B w' s l := h.keep fun k _ hlt => hO.block k hlt (by simp)
theorem OwnU.p {B : Nat} {w w' : World} {s : Sl} {l : List Tim} {D : Nat → Prop} (h : OwnU B w s l) (hO : OnlyP D w w') (hD : ∀ k, s.a = some ⟨k, 0, none⟩ → ¬ D k) : OwnU B w' s l := h.keep fun k hk hlt => hO.block k hlt (hD k hk.2)

def insT (t : Tim) : List Tim → List Tim
  | [] => [t]
  | x :: r => if ltT x t then x :: insT t r else t :: x :: r
theorem insT_at {t : Tim} : ∀ {l : List Tim} {k : Nat}, k ≤ l.length → (∀ (m : Nat) (x : Tim), l[m]? = some x → m < k → ltT x t) → (∀ (m : Nat) (x : Tim), l[m]? = some x → k ≤ m → ¬ ltT x t) → l.take k ++ [t] ++ l.drop k = insT t l
  | [], k, hk, _, _ => by
    have : k = 0 := by simpa using hk
    subst this; rfl
  | x :: r, 0, _, _, h2 => by
    have := h2 0 x rfl (Nat.le_refl _)
    simp [insT, this]
  | x :: r, k + 1, hk, h1, h2 => by
    have hx := h1 0 x rfl (by omega)
    have ih := insT_at (t := t) (l := r) (k := k) (by simpa using hk) (fun m y hy hm => h1 (m + 1) y hy (by omega)) (fun m y hy hm => h2 (m + 1) y hy (by omega))
    simp only [insT, if_pos hx, ← ih]
    simp
theorem insT_len (t : Tim) : ∀ l : List Tim, (insT t l).length = l.length + 1
  | [] => rfl
  | x :: r => by
    simp only [insT]
    split
    · simp [insT_len t r]
    · simp
theorem insT_mem {t x : Tim} : ∀ {l : List Tim}, x ∈ insT t l ↔ x = t ∨ x ∈ l
  | [] => by simp [insT]
  | y :: r => by
    simp only [insT]
    split
    · simp only [List.mem_cons, insT_mem (l := r)]
      constructor
      · rintro (h | h | h) <;> simp [h]
      · rintro (h | h | h) <;> simp [h]
    · simp
theorem insT_right {t : Tim} : ∀ {l : List Tim}, RightT l → (∀ x, x ∈ l → x.k ≠ t.k) → RightT (insT t l)
  | [], _, _ => by simp [RightT, insT]
  | x :: r, h, hk => by
    obtain ⟨h1, h2⟩ := List.pairwise_cons.1 h
    simp only [insT]
    split
    · rename_i hx
      refine List.pairwise_cons.2 ⟨fun y hy => ?_, insT_right h2 fun y hy => hk y (by simp [hy])⟩
      rcases insT_mem.1 hy with rfl | hy
      · exact ⟨hx, hk x (by simp)⟩
      · exact h1 y hy
    · rename_i hx
      have htx : ltT t x := (ltT_or (hk x (by simp))).resolve_left hx
      refine List.pairwise_cons.2 ⟨fun y hy => ⟨?_, (hk y hy).symm⟩, h⟩
      rcases List.mem_cons.1 hy with rfl | hy
      · exact htx
      · exact ltT_tr htx (h1 y hy).1
def setT (l : List Tim) (t : Tim) : List Tim := insT t (l.filter fun o => !decide (o.k = t.k))
theorem setT_right {l : List Tim} {t : Tim} (h : RightT l) : RightT (setT l t) := insT_right (List.Pairwise.filter _ h) fun x hx => by simpa using (List.mem_filter.1 hx).2
theorem setT_len (l : List Tim) (t : Tim) : (setT l t).length ≤ l.length + 1 := by
  rw [setT, insT_len]
  have := List.length_filter_le (fun o : Tim => !decide (o.k = t.k)) l
  omega
def setsT (l add : List Tim) : List Tim := add.foldl setT l
theorem setsT_right : ∀ {add l : List Tim}, RightT l → RightT (setsT l add)
  | [], l, h => h
  | t :: r, l, h => setsT_right (add := r) (setT_right h)
theorem setsT_len : ∀ {add l : List Tim}, (setsT l add).length ≤ l.length + add.length
  | [], l => Nat.le_refl _
  | t :: r, l => by
    have h1 := setsT_len (add := r) (l := setT l t)
    have h2 := setT_len l t
    simp only [setsT, List.foldl_cons, List.length_cons] at *
    omega
theorem setsT_snoc {l add : List Tim} {n : Nat} {t : Tim} (h : add[n]? = some t) : setsT l (add.take (n + 1)) = setT (setsT l (add.take n)) t := by
  have e : add.take (n + 1) = add.take n ++ [t] := by rw [List.take_add_one, h]; rfl
  rw [e, setsT, List.foldl_append]; rfl

def fSet1 (g : Nat) : OV := ⟨.func (.func 21) #[] #[.pointer (some ⟨g, 0, none⟩)], rfl⟩
theorem set_c {w : World} {F G : Nat → Prop} {s sa : Sl} {l add : List Tim} (h : Tims w F s l) (ha : Tims w G sa add) (hl : (l.length + add.length + 1) * 24 ≤ 140737488355328) :
    Calls Try.prog 8 #[Sl.v s, Sl.v sa] w fun e w' => ∃ (s' : Sl) (c : Int), e = .returned (.tuple #[s'.v, .int .i64 c]) ∧ Only [] w w' ∧ ((RightT l ∧ c = 0 ∧ OwnU w.heap.size w' s' (setsT l add)) ∨ (¬ RightT l ∧ c = 1 ∧ s' = Sl.nil)) := by
  refine (timers_Set_wp s sa (fun v w' => ∃ (s' : Sl) (c : Int), v = (.tuple #[s'.v, .int .i64 c]) ∧ Only [] w w' ∧ ((RightT l ∧ c = 0 ∧ OwnU w.heap.size w' s' (setsT l add)) ∨ (¬ RightT l ∧ c = 1 ∧ s' = Sl.nil))) w ?_).mono (by
    rintro e w' ⟨v, rfl, s', c, rfl, h⟩; exact ⟨s', c, rfl, h⟩)
  unfold timers_Set_vc
  have hal := ha.len
  refine (right_c h (by omega)).mono ?_
  rintro _ w0 ⟨rfl, hO0⟩
  refine ⟨_, rfl, fun hn => ?_, fun hy => ?_⟩
  · exact ⟨Sl.nil, 1, rfl, hO0, .inr ⟨by simpa using hn, rfl, rfl⟩⟩
  have hR : RightT l := by simpa using hy
  refine (clone_T (SliceF.only rTim_ok (by decide) h hO0 (by simp)) (by omega)).mono ?_
  rintro _ w1 ⟨s1, rfl, hown, hO1⟩
  have hO01 := hO0.tr0 hO1
  refine ⟨s1, rfl, fun nv r i w' => ∃ n : Nat, n ≤ add.length ∧ i = (n : Int) ∧ nv = add.length - n ∧ OwnU w.heap.size w' r (setsT l (add.take n)) ∧ Only [] w w', add.length, ⟨0, Nat.zero_le _, rfl, rfl, OwnU.of (hown.low hO0.size), hO01⟩, ?_⟩
  rintro nv r _ w2 ⟨n, hn, rfl, rfl, ho2, hO2⟩
  refine ⟨fun hc => ?_, fun hc => ?_⟩
  · have hlt : (n : Int) < sa.n := of_decide_eq_true hc
    obtain ⟨ad, t, cs, g1, g2, g3, g4, g5, rfl, g6⟩ := (SliceF.only rTim_ok (by decide) ha hO2 (by simp)).get (Int.natCast_nonneg n) hlt
    rw [Int.toNat_natCast] at g2
    refine ⟨ad, g1, _, _, _, g5, fun g w3 hg1 hg2 hO3 hb3 => ?_⟩
    have hlen : (setsT l (add.take n)).length ≤ l.length + n := by
      have := setsT_len (add := add.take n) (l := l)
      rw [List.length_take] at this; omega
    have hrg : ∀ k, r.a = some ⟨k, 0, none⟩ → w.heap.size ≤ k ∧ k < w2.heap.size := fun k hk => ho2.blk hk
    have hs2 := hO2.size
    have hs3 := hO3.size
    refine (delete_T (f := fSet1 g) (ho2.only hO3) (by omega) (fun k hk e => by have := (hrg k hk).2; omega) (set1_c t g) hb3 rfl).mono ?_
    rintro _ w4 ⟨s4, rfl, ea, ec, ho4, hO4, hb4⟩
    have ho4 : OwnU w.heap.size w4 s4 _ := OwnU.of ho4
    refine ⟨s4, rfl, _, _, _, hb4, ?_⟩
    have hrm : RightT ((setsT l (add.take n)).filter fun x => !decide (x.k = t.k)) := List.Pairwise.filter _ (setsT_right hR)
    have hlm := Nat.le_trans (List.length_filter_le (fun x : Tim => !decide (x.k = t.k)) (setsT l (add.take n))) hlen
    have hln : l.length + n < 140737488355328 ∧ (l.length + n + 1) * 24 ≤ 140737488355328 := by clear hlm; omega
    have hfit := Nat.le_trans (Nat.mul_le_mul_right 24 (Nat.succ_le_succ hlm)) hln.2
    refine (bsearch_c ho4.sl (Nat.lt_of_le_of_lt hlm hln.1) t fun a b x y hab hx hy hlt => ltT_tr (right_at hrm hx hy hab).1 hlt).mono ?_
    rintro _ w5 ⟨k, b, rfl, hk, hk1, hk2, hO5⟩
    have hb5 := hO5.blk hb4 (by simp)
    have hs4 := hO4.size
    have hs5 := hO5.size
    refine ⟨_, _, rfl, _, _, _, hb5, ?_⟩
    obtain ⟨v, w6, v1, v2, v3, v4, v5, v6⟩ := build_own (P := Try.prog) (t := 22) (e := 24) (i := Try.t24) (w := w5) (F := fun _ => True) (r := rTim) (size := 3) (vs := [t.v]) (parts := #[(0, t.v)]) (xs := [t]) (len := 1) (by kernel_rfl) (by kernel_rfl) rfl rfl (by decide) rfl rfl (by decide) (by decide) rTim_ok ⟨⟨rfl, rfl, g6⟩, trivial⟩
    have hv : v = ⟨some ⟨w5.heap.size, 0, none⟩, 1, 1⟩ := by
      obtain ⟨va, vn, vc⟩ := v
      dsimp only at v4 v5 v6
      subst v4 v5 v6
      rfl
    have hvb : Blk w6 w5.heap.size 24 t.cs := by
      rcases v2 with ⟨rfl, h⟩ | ⟨gg, css, tail, a1, a2, a4, a5, a6, a7, a9, a8⟩
      · cases h
      · rw [v4] at a1
        injection a1 with a1
        injection a1 with a1
        subst a1
        match css, a8 with
        | [c], ⟨⟨_, hc, _⟩, _⟩ =>
          have : tail = [] := List.eq_nil_of_length_eq_zero (by rw [a5, v5, v6]; simp)
          subst this
          subst hc
          show Blk w6 w5.heap.size _ [.int .i64 t.d, .int .i64 t.n, .int .i64 t.s]
          simpa using a4
    have hs6 := v3.size
    refine ⟨v, w6, v1, v3.same (by have := hb5.lt; simp; omega), ?_⟩
    have hne4 : s4.a ≠ some ⟨w5.heap.size, 0, none⟩ := fun e => by
      rw [ea] at e
      have := (hrg _ e).2
      omega
    have hBB : w.heap.size ≤ w6.heap.size := Nat.le_trans hs2 (Nat.le_trans hs3 (Nat.le_trans hs4 (Nat.le_trans hs5 hs6)))
    have ho6 : OwnU w.heap.size w6 s4 ((setsT l (add.take n)).filter fun x => !decide (x.k = t.k)) := OwnU.only (OwnU.only ho4 hO5) v3
    have hins := insert_c (t := t) ho6 hBB hfit g6 trivial hv hvb hne4 hk
    refine hins.mono ?_
    rintro _ w7 ⟨s7, rfl, ho7, e7, hO7⟩
    have hn7 : ¬ s4.a = some ⟨g, 0, none⟩ := fun e => by
      rw [ea] at e
      have := (hrg _ e).2
      omega
    have hb7 : Blk w7 g 24 t.cs := hO7.blk (v3.blk hb5 (by simp)) hn7
    have hlt : n < add.length := by omega
    refine ⟨s7, rfl, _, _, _, hb7, add.length - (n + 1), by omega, n + 1, by omega, by rw [wr' (by omega) (by omega)]; rfl, rfl, ?_, ?_⟩
    · rw [setsT_snoc g2, setT, ← insT_at hk hk1 hk2]
      exact ho7
    · have hw : ∀ k, r.a = some ⟨k, 0, none⟩ → w.heap.size ≤ k := fun k hk => (hrg k hk).1
      have c1 : OnlyP (fun k => w.heap.size ≤ k) w w4 := (hO2.tr0 hO3).p0.trans hO4 fun k hk => .inl (hk.elim False.elim (hw k))
      have c2 : OnlyP (fun k => w.heap.size ≤ k) w w7 := ((c1.tr0 hO5).tr0 v3).trans hO7 fun k hk => .inl (by rw [ea] at hk; exact hw k hk)
      exact c2.only fun k hk => hk
  · have hge : ¬ ((n : Int) < sa.n) := of_decide_eq_false hc
    rw [List.take_of_length_le (by omega)] at ho2
    exact ⟨r, 0, rfl, hO2, .inl ⟨hR, rfl, ho2⟩⟩
end Go.Proofs.Ytbklgfggodgddaa.Con
