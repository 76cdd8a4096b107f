/-
  Own work: the document's answer for timers: before, Right, put.
-/
import Derived.Test.YtbklgfggodgddaaDrops
namespace Go.Proofs.Ytbklgfggodgddaa.Con
open Go Go.RowKit Go.Kt Go.Kt.V Go.Proofs.Ytbklgfggodgddaa.Vc
set_option linter.unusedSimpArgs false
set_option linter.unusedVariables false

theorem before_c (w : World) (a b : Tim) : Calls Try.prog 29 #[a.v, b.v] w fun e w' => e = .returned (.bool (decide (ltT a b))) ∧ Only [] w w' := by
  refine ret (pavaneref14_before_wp a.d a.n a.s b.d b.n b.s (fun v w' => v = .bool (decide (ltT a b)) ∧ Only [] w w') w ?_)
  unfold pavaneref14_before_vc
  refine ⟨fun h k0 k1 w0 _ _ _ _ hO => ⟨?_, hO⟩, fun h => ⟨fun h2 k0 k1 w0 _ _ _ _ hO => ⟨?_, hO⟩, fun h2 k0 k1 w0 _ _ _ _ hO => ⟨?_, hO⟩⟩⟩
  · have h : a.d ≠ b.d := by simpa using h
    congr 1
    rw [decide_eq_decide]
    unfold ltT; omega
  · have h : a.d = b.d := by simpa using h
    have h2 : a.n ≠ b.n := by simpa using h2
    congr 1
    rw [decide_eq_decide]
    unfold ltT; omega
  · have h : a.d = b.d := by simpa using h
    have h2 : a.n = b.n := by simpa using h2
    congr 1
    rw [decide_eq_decide]
    unfold ltT; omega
theorem kk {x y : Tim} : ((x.n == y.n) && (x.s == y.s)) = decide (x.k = y.k) := by
  rw [Bool.eq_iff_iff]
  simp [Tim.k]
theorem rright_c {w : World} {F : Nat → Prop} {s : Sl} {l : List Tim} (h : Tims w F s l) (hl : l.length < 140737488355328) :
    Calls Try.prog 18 #[Sl.v s] w fun e w' => e = .returned (.bool (decide (RightT l))) ∧ Only [] w w' := by
  refine ret (pavaneref14_Right_wp s (fun v w' => v = .bool (decide (RightT l)) ∧ Only [] w w') w ?_)
  unfold pavaneref14_Right_vc
  have hlen := h.len
  have sa : ∀ {u : World}, Only [] w u → Tims u F s l := fun hO => SliceF.only rTim_ok (by decide) h hO (by simp)
  refine ⟨fun nv i w' => ∃ n : Nat, n ≤ l.length ∧ i = (n : Int) ∧ nv = l.length - n ∧ RightT (l.take n) ∧ Only [] w w', l.length, ⟨0, Nat.zero_le _, rfl, rfl, by simp [RightT], Only.refl _ _⟩, ?_⟩
  rintro nv _ w0 ⟨n, hn, rfl, rfl, hr, hO⟩
  refine ⟨fun hc => ?_, fun hc => ?_⟩
  · have hlt : (n : Int) < s.n := of_decide_eq_true hc
    have hn' : n < l.length := by omega
    refine ⟨fun b w' => Only [] w w' ∧ (b = true → ¬ RightT l) ∧ (b = false → ∀ x t, 0 < n → l[n - 1]? = some x → l[n]? = some t → ltT x t), ?_, fun hp => ?_, fun hp w7 hO7 => ⟨hO.tr0 hO7, fun e => (by cases e), fun _ x t h0 => ?_⟩⟩
    · rintro b w1 ⟨hO1, hbt, hbf⟩
      refine ⟨fun hb => ⟨by rw [decide_eq_false (hbt hb)], hO1⟩, fun hb => ?_⟩
      refine ⟨fun nv j w' => ∃ m : Nat, m ≤ n ∧ j = (m : Int) ∧ nv = n - m ∧ (∀ x t, x ∈ l.take m → l[n]? = some t → x.k ≠ t.k) ∧ Only [] w w', n, ⟨0, Nat.zero_le _, rfl, rfl, by simp, hO1⟩, ?_⟩
      rintro nv _ w2 ⟨m, hm, rfl, rfl, hk, hO2⟩
      obtain ⟨ad, t, cs, g1, g2, g3, g4, g5, rfl, g6⟩ := (sa hO2).get (Int.natCast_nonneg n) hlt
      rw [Int.toNat_natCast] at g2
      refine ⟨fun hc => ?_, fun hc => ?_⟩
      · have hltm : (m : Int) < n := of_decide_eq_true hc
        obtain ⟨bd, x, ds, f1, f2, f3, f4, f5, rfl, f6⟩ := (sa hO2).get (Int.natCast_nonneg m) (by omega)
        rw [Int.toNat_natCast] at f2
        refine ⟨ad, g1, t.n, g5.at1 1 _ rfl, bd, f1, x.n, f5.at1 1 _ rfl, ad, fun _ => g1, t.s, fun _ => g5.at1 2 _ rfl, bd, fun _ => f1, x.s, fun _ => f5.at1 2 _ rfl, ?_⟩
        rw [kk]
        refine ⟨fun he w3 hO3 => ⟨?_, hO2.tr0 hO3⟩, fun he w4 hO4 => ⟨n - (m + 1), by omega, m + 1, by omega, by rw [wr' (by omega) (by omega)]; rfl, rfl, ?_, hO2.tr0 hO4⟩⟩
        · rw [decide_eq_false]
          intro hR
          exact (right_at hR f2 g2 (by omega)).2 (of_decide_eq_true he).symm
        · intro y t' hy ht'
          rw [List.take_add_one, f2] at hy
          have : t' = t := by rw [g2] at ht'; injection ht' with e; exact e.symm
          subst this
          simp only [List.mem_append, Option.toList_some, List.mem_singleton] at hy
          rcases hy with hy | rfl
          · exact hk y t' hy g2
          · exact fun e => of_decide_eq_false he e.symm
      · have hmn : m = n := by
          have hc : ¬ (m : Int) < n := of_decide_eq_false hc
          omega
        subst hmn
        refine ⟨l.length - (m + 1), by omega, m + 1, by omega, by rw [wr' (by omega) (by omega)]; rfl, rfl, ?_, hO2⟩
        refine right_snoc g2 hr (fun x hx => hk x t hx g2) fun x h0 hx hlt => ?_
        exact ltT_no hlt (hbf hb x t h0 hx g2)
    · have hp : (n : Int) > 0 := of_decide_eq_true hp
      obtain ⟨ad0, x0, cs0, g1, _, _⟩ := (sa hO).get (i := (n : Int) - 1) (by omega) (by omega)
      rw [wr' (by omega) (by omega)]
      refine ⟨ad0, g1, fun w5 hO5 => ?_⟩
      obtain ⟨ad1, x, cs, g2, g3, _, _, g5, rfl, g6⟩ := (sa (hO.tr0 hO5)).get (i := (n : Int) - 1) (by omega) (by omega)
      have := SlAt.uniq g1 g2
      subst this
      obtain ⟨bd, t, ds, f1, f2, f3, f4, f5, rfl, f6⟩ := (sa (hO.tr0 hO5)).get (Int.natCast_nonneg n) hlt
      rw [Int.toNat_natCast] at f2
      have e : ((n : Int) - 1).toNat = n - 1 := by omega
      rw [e] at g3
      refine ⟨_, _, _, g5, bd, f1, _, _, _, f5, (before_c w5 x t).mono ?_⟩
      rintro _ w6 ⟨rfl, hO6⟩
      refine ⟨_, rfl, hO.tr0 (hO5.tr0 hO6), fun hb hR => ?_, fun hb x' t' h0 hx ht => ?_⟩
      · have hb : ¬ ltT x t := by simpa using hb
        exact hb (right_at hR g3 f2 (by omega)).1
      · rw [g3] at hx; injection hx with hx; subst hx
        rw [f2] at ht; injection ht with ht; subst ht
        simpa using hb
    · have hp : ¬ (n : Int) > 0 := of_decide_eq_false hp
      omega
  · have hge : ¬ ((n : Int) < s.n) := of_decide_eq_false hc
    rw [List.take_of_length_le (by omega)] at hr
    exact ⟨by rw [decide_eq_true hr], hO⟩

/-! ### put -/
theorem insT_snoc {t y : Tim} : ∀ {l : List Tim}, (∃ x, x ∈ l ∧ ¬ ltT x t) → insT t (l ++ [y]) = insT t l ++ [y]
  | [], h => by obtain ⟨x, hx, _⟩ := h; simp at hx
  | a :: r, h => by
    simp only [List.cons_append, insT]
    split
    · rename_i ha
      rw [List.cons_append, insT_snoc]
      obtain ⟨x, hx, hn⟩ := h
      rcases List.mem_cons.1 hx with rfl | hx
      · exact absurd ha hn
      · exact ⟨x, hx, hn⟩
    · rfl
theorem insT_end {t : Tim} : ∀ {l : List Tim}, (∀ x, x ∈ l → ltT x t) → insT t l = l ++ [t]
  | [], _ => rfl
  | a :: r, h => by
    rw [insT, if_pos (h a (by simp)), insT_end fun x hx => h x (by simp [hx])]
    rfl
theorem insT_mid {t y : Tim} : ∀ {l : List Tim}, (∀ x, x ∈ l → ltT x t) → ¬ ltT y t → insT t (l ++ [y]) = l ++ [t] ++ [y]
  | [], _, h => by simp [insT, h]
  | a :: r, h, hy => by
    rw [List.cons_append, insT, if_pos (h a (by simp)), insT_mid (fun x hx => h x (by simp [hx])) hy]
    rfl
/-- what put has laid out -/
def PutI (t : Tim) (kept out : List Tim) (b : Bool) : Prop :=
  (b = true ∧ out = insT t kept ∧ ∃ x, x ∈ kept ∧ ¬ ltT x t) ∨ (b = false ∧ out = kept ∧ ∀ x, x ∈ kept → ltT x t)
theorem put_c {w : World} {F : Nat → Prop} {s : Sl} {l : List Tim} (h : Tims w F s l) (hl : (l.length + 2) * 24 ≤ 140737488355328) (t : Tim) (ht : t.ok) :
    Calls Try.prog 28 #[Sl.v s, t.v] w fun e w' => ∃ s' : Sl, e = .returned s'.v ∧ OwnU w.heap.size w' s' (setT l t) ∧ Only [] w w' := by
  refine (pavaneref14_put_wp s t.d t.n t.s (fun v w' => ∃ s' : Sl, v = s'.v ∧ OwnU w.heap.size w' s' (setT l t) ∧ Only [] w w') w ?_).mono (by
    rintro e w' ⟨v, rfl, s', rfl, h⟩; exact ⟨s', rfl, h⟩)
  unfold pavaneref14_put_vc
  have hlen := h.len
  have sa : ∀ {u : World}, Only [] w u → Tims u F s l := fun hO => SliceF.only rTim_ok (by decide) h hO (by simp)
  intro k0 w0 hk0 hk1 hO0
  -- behind the box
  have sm : ∀ {u u' : World}, k0 < u.heap.size → OnlyP (fun k => w0.heap.size ≤ k) u u' → Same [k0] u u' := fun hu hO => hO.same (by intro x hx; simp only [List.mem_singleton] at hx; subst hx; exact ⟨hu, by omega⟩)
  have up : ∀ {u u' : World}, Only [] w0 u → OnlyP (fun k => w0.heap.size ≤ k) u u' → Only [] w0 u' := fun h1 h2 => ((h1.p0 (F := fun k => w0.heap.size ≤ k)).trans h2 fun k hk => .inl hk).only fun k hk => hk
  have push : ∀ {u : World} {r : Sl} {xs : List Tim} {y : Tim}, Only [] w0 u → OwnU w0.heap.size u r xs → y.ok → xs.length ≤ l.length + 1 →
      ∃ q w1, (Instr.buildSlice 22 1 #[(0, y.v)]).run Try.prog u = .ok (Sl.v q) w1 ∧ Same [k0] u w1 ∧ ∃ s' w2, (Builtin.append_ #[22, 22] 22 #[Sl.v r, Sl.v q]).run Try.prog w1 = .ok (Sl.v s') w2 ∧ Same [k0] w1 w2 ∧ OwnU w0.heap.size w2 s' (xs ++ [y]) ∧ Only [] w0 w2 := by
    intro u r xs y hu ho hy hx
    have z0 := hu.size
    obtain ⟨q, w1, b1, b2, s', w2, b3, b4, b5⟩ := push_t (t := y) ho z0 hy (Nat.le_trans (Nat.mul_le_mul_right 24 (by omega)) hl)
    have z1 := b2.size
    exact ⟨q, w1, b1, b2.same (by simp; omega), s', w2, b3, sm (by omega) b5, b4, up (hu.tr0 b2) b5⟩
  have fl : ∀ n, ((l.take n).filter fun o => !decide (o.k = t.k)).length ≤ l.length := fun n => Nat.le_trans (List.length_filter_le _ _) (by rw [List.length_take]; exact Nat.min_le_right _ _)
  refine ⟨fun nv r b i w' => ∃ n : Nat, n ≤ l.length ∧ i = (n : Int) ∧ nv = l.length - n ∧ (∃ out, PutI t ((l.take n).filter fun o => !decide (o.k = t.k)) out b ∧ OwnU w0.heap.size w' r out) ∧ Only [] w0 w', l.length, ⟨0, Nat.zero_le _, rfl, rfl, ⟨[], .inr ⟨rfl, by simp, by simp⟩, Own.nil _ _ _ _ _ _⟩, Only.refl _ _⟩, ?_⟩
  rintro nv r b _ w1 ⟨n, hn, rfl, rfl, ⟨out, hp, ho⟩, hO1⟩
  have hol : out.length ≤ l.length + 1 := by
    have := fl n
    rcases hp with ⟨_, rfl, _⟩ | ⟨_, rfl, _⟩
    · rw [insT_len]; exact Nat.succ_le_succ this
    · exact Nat.le_succ_of_le this
  refine ⟨fun hc => ?_, fun hc => ?_⟩
  · have hlt : (n : Int) < s.n := of_decide_eq_true hc
    have hlt' : n < l.length := by omega
    obtain ⟨ad, x, cs, g1, g2, g3, g4, g5, rfl, g6⟩ := (sa (hO0.tr0 hO1)).get (Int.natCast_nonneg n) hlt
    rw [Int.toNat_natCast] at g2
    have e : l.take (n + 1) = l.take n ++ [x] := by rw [List.take_add_one, g2]; rfl
    refine ⟨fun r' b' w' => (∃ out, PutI t ((l.take (n + 1)).filter fun o => !decide (o.k = t.k)) out b' ∧ OwnU w0.heap.size w' r' out) ∧ Only [] w0 w', ?_, ad, g1, x.n, g5.at1 1 _ rfl, ad, fun _ => g1, x.s, fun _ => g5.at1 2 _ rfl, ?_⟩
    · rintro r' b' w2 ⟨h1, h2⟩
      exact ⟨l.length - (n + 1), by omega, n + 1, hlt', by rw [wr' (by omega) (by omega)]; rfl, rfl, h1, h2⟩
    rw [kk]
    refine ⟨fun he w3 hO3 => ⟨⟨out, ?_, OwnU.only ho hO3⟩, hO1.tr0 hO3⟩, fun he w4 hO4 => ?_⟩
    · rw [e, List.filter_append]
      simpa [of_decide_eq_true he] using hp
    have hne : x.k ≠ t.k := of_decide_eq_false he
    have ef : (l.take (n + 1)).filter (fun o => !decide (o.k = t.k)) = (l.take n).filter (fun o => !decide (o.k = t.k)) ++ [x] := by
      rw [e, List.filter_append]
      simp [hne]
    have ho4 : OwnU w0.heap.size w4 r out := OwnU.only ho hO4
    -- what lies there ahead of x
    refine ⟨fun r' b' w' => (∃ out', OwnU w0.heap.size w' r' out' ∧ out'.length ≤ l.length + 1 ∧ PutI t ((l.take (n + 1)).filter fun o => !decide (o.k = t.k)) (out' ++ [x]) b') ∧ Only [] w0 w', ?_, fun bt w' => w0.heap.size ≤ w'.heap.size ∧ Only [] w0 w' ∧ OwnU w0.heap.size w' r out ∧ bt = (!b && decide (ltT t x)), ?_, fun hb => ?_, fun hb w13 hO13 => ?_⟩
    · rintro r' b' w5 ⟨⟨out', h1, h2, h3⟩, h4⟩
      obtain ⟨ad', x', cs, e1, e2, e3, e4, e5, rfl, e6⟩ := (sa (hO0.tr0 h4)).get (Int.natCast_nonneg n) hlt
      rw [Int.toNat_natCast] at e2
      have : x' = x := by rw [g2] at e2; injection e2 with e2; exact e2.symm
      subst this
      obtain ⟨q, w6, b1, b2, s', w7, b3, b4, b5, b6⟩ := push h4 h1 e6 h2
      exact ⟨ad', e1, _, _, _, e5, q, w6, b1, b2, s', w7, b3, b4, ⟨_, h3, b5⟩, b6⟩
    · rintro bt w8 ⟨_, h1, h2, h3⟩
      refine ⟨fun hb => ?_, fun hb => ⟨⟨out, h2, hol, ?_⟩, h1⟩⟩
      · have hbb : b = false ∧ ltT t x := by
          rw [hb] at h3
          simpa using h3.symm
        rcases hp with ⟨hp, _⟩ | ⟨_, rfl, hp⟩
        · rw [hbb.1] at hp; cases hp
        obtain ⟨q, w9, b1, b2, s', w10, b3, b4, b5, b6⟩ := push (y := t) h1 h2 ht hol
        refine ⟨q, w9, b1, b2, s', w10, b3, b4, ⟨_, b5, ?_, .inl ⟨rfl, ?_, x, by rw [ef]; simp, fun h => ltT_no h hbb.2⟩⟩, b6⟩
        · rw [List.length_append, List.length_singleton]
          exact Nat.succ_le_succ (fl n)
        · rw [ef, insT_mid hp fun h => ltT_no h hbb.2]
      · rw [ef]
        rcases hp with ⟨rfl, rfl, hp⟩ | ⟨rfl, rfl, hp⟩
        · refine .inl ⟨rfl, (insT_snoc hp).symm, ?_⟩
          obtain ⟨z, hz1, hz2⟩ := hp
          exact ⟨z, by simp [hz1], hz2⟩
        · refine .inr ⟨rfl, rfl, fun z hz => ?_⟩
          rcases List.mem_append.1 hz with hz | hz
          · exact hp z hz
          · simp only [List.mem_singleton] at hz
            subst hz
            have : ¬ ltT t z := by
              rw [hb] at h3
              simpa using h3
            exact (ltT_or hne).resolve_right this
    · refine ⟨ad, g1, fun w11 hO11 => ?_⟩
      obtain ⟨ad', x', cs, e1, e2, e3, e4, e5, rfl, e6⟩ := (sa (hO0.tr0 (hO1.tr0 (hO4.tr0 hO11)))).get (Int.natCast_nonneg n) hlt
      rw [Int.toNat_natCast] at e2
      have : x' = x := by rw [g2] at e2; injection e2 with e2; exact e2.symm
      subst this
      have := SlAt.uniq e1 g1
      subst this
      refine ⟨_, _, _, e5, (before_c w11 t x').mono ?_⟩
      rintro _ w12 ⟨rfl, hO12⟩
      have z := (hO1.tr0 (hO4.tr0 hO11)).size
      have hO012 := hO1.tr0 (hO4.tr0 (hO11.tr0 hO12))
      refine ⟨_, rfl, hO12.same (by simp; omega), hO012.size, hO012, OwnU.only ho4 (hO11.tr0 hO12), ?_⟩
      rw [hb, Bool.true_and]
    · have hO013 := hO1.tr0 (hO4.tr0 hO13)
      refine ⟨hO013.size, hO013, OwnU.only ho4 hO13, ?_⟩
      rw [hb, Bool.false_and]
  · have hge : ¬ ((n : Int) < s.n) := of_decide_eq_false hc
    rw [List.take_of_length_le (by omega)] at hp
    have z0 := hO0.size
    refine ⟨fun r' w' => OwnU w0.heap.size w' r' (setT l t) ∧ Only [] w0 w', ?_, fun hb => ?_, fun hb => ?_⟩
    · rintro r' w14 ⟨h1, h2⟩
      exact ⟨r', rfl, Own.low h1 z0, hO0.tr0 h2⟩
    · rcases hp with ⟨rfl, _⟩ | ⟨_, rfl, hp⟩
      · cases hb
      obtain ⟨q, w9, b1, b2, s', w10, b3, b4, b5, b6⟩ := push (y := t) hO1 ho ht hol
      refine ⟨q, w9, b1, b2, s', w10, b3, b4, ?_, b6⟩
      rw [setT, insT_end hp]
      exact b5
    · rcases hp with ⟨_, rfl, hp⟩ | ⟨rfl, _⟩
      · exact ⟨ho, hO1⟩
      · cases hb
end Go.Proofs.Ytbklgfggodgddaa.Con
