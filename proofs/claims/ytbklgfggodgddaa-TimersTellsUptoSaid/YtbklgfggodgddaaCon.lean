/-
  Own work: what the functions of the timers package do, each once, against plain functions of lists.
-/
import Derived.Test.YtbklgfggodgddaaMap
import Derived.Test.YtbklgfggodgddaaWcs
namespace Go.Proofs.Ytbklgfggodgddaa.Con
open Go Go.RowKit Go.Kt Go.Kt.V Go.Proofs.Ytbklgfggodgddaa.Vc
set_option linter.unusedSimpArgs false
set_option linter.unusedVariables false

theorem ret {P : Program} {f : FuncId} {a : Array Value} {w : World} {r : Value} {Q : World → Prop} (h : Calls P f a w fun e w' => ∃ v, e = .returned v ∧ v = r ∧ Q w') : Calls P f a w fun e w' => e = .returned r ∧ Q w' :=
  h.mono (by rintro e w' ⟨v, rfl, rfl, hq⟩; exact ⟨rfl, hq⟩)

/-! ## timers -/
structure Tim where
  d : Int
  n : Int
  s : Int
deriving DecidableEq
def Tim.ok (x : Tim) : Prop := InI x.d ∧ InI x.n ∧ InI x.s
def Tim.cs (t : Tim) : List Value := [.int .i64 t.d, .int .i64 t.n, .int .i64 t.s]
def Tim.v (t : Tim) : Value := .agg #[.int .i64 t.d, .int .i64 t.n, .int .i64 t.s]
def rTim : Rp Tim := fun w F x cs => cs = [.int .i64 x.d, .int .i64 x.n, .int .i64 x.s] ∧ InI x.d ∧ InI x.n ∧ InI x.s
theorem rTim_ok : rTim.Ok where
  keep := fun h _ => h
  inHeap := fun h => h
  mono := fun h _ => h
  one := by
    rintro w F x cs ⟨rfl, _⟩ v hv
    simp only [List.mem_cons, List.not_mem_nil, or_false] at hv
    rcases hv with rfl | rfl | rfl <;> rfl
abbrev Tims := SliceF rTim 3
abbrev OwnT := Own rTim 3 24
/-- a timer but for its time -/
def Tim.k (t : Tim) : Int × Int := (t.n, t.s)
def cmpI (x y : Int) : Int := if x < y then -1 else if x > y then 1 else 0
def ordT (a b : Tim) : Int := if cmpI a.d b.d ≠ 0 then cmpI a.d b.d else if cmpI a.n b.n ≠ 0 then cmpI a.n b.n else cmpI a.s b.s
theorem cmpI_lt {x y : Int} : cmpI x y < 0 ↔ x < y := by unfold cmpI; split <;> (try split) <;> omega
theorem cmpI_gt {x y : Int} : cmpI x y > 0 ↔ y < x := by unfold cmpI; split <;> (try split) <;> omega
theorem cmpI_eq {x y : Int} : cmpI x y = 0 ↔ x = y := by unfold cmpI; split <;> (try split) <;> omega
/-- ahead of -/
def ltT (a b : Tim) : Prop := a.d < b.d ∨ (a.d = b.d ∧ (a.n < b.n ∨ (a.n = b.n ∧ a.s < b.s)))
instance (a b : Tim) : Decidable (ltT a b) := by unfold ltT; infer_instance
theorem ordT_lt {a b : Tim} : ordT a b < 0 ↔ ltT a b := by
  unfold ordT ltT
  have h1 := cmpI_eq (x := a.d) (y := b.d)
  have h2 := cmpI_eq (x := a.n) (y := b.n)
  have h3 := cmpI_lt (x := a.d) (y := b.d)
  have h4 := cmpI_lt (x := a.n) (y := b.n)
  have h5 := cmpI_lt (x := a.s) (y := b.s)
  split
  · rw [h3]; constructor
    · exact .inl
    · rintro (h | ⟨h, _⟩)
      · exact h
      · exact absurd (h1.2 h) (by assumption)
  · rename_i hd
    have hd : a.d = b.d := h1.1 (by simpa using hd)
    split
    · rw [h4]; constructor
      · exact fun h => .inr ⟨hd, .inl h⟩
      · rintro (h | ⟨_, h | ⟨h, _⟩⟩)
        · omega
        · exact h
        · exact absurd (h2.2 h) (by assumption)
    · rename_i hn
      have hn : a.n = b.n := h2.1 (by simpa using hn)
      rw [h5]; constructor
      · exact fun h => .inr ⟨hd, .inr ⟨hn, h⟩⟩
      · rintro (h | ⟨_, h | ⟨_, h⟩⟩)
        · omega
        · omega
        · exact h
theorem cmpI_neg (x y : Int) : cmpI y x = - cmpI x y := by unfold cmpI; split <;> split <;> (try split) <;> omega
theorem ordT_neg (a b : Tim) : ordT b a = - ordT a b := by
  unfold ordT
  rw [cmpI_neg a.d b.d, cmpI_neg a.n b.n, cmpI_neg a.s b.s]
  split <;> split <;> (try split) <;> (try split) <;> omega
theorem ordT_gt {a b : Tim} : ordT a b > 0 ↔ ltT b a := by
  rw [← ordT_lt, ordT_neg a b]; omega
theorem ltT_tr {a b c : Tim} (h : ltT a b) (k : ltT b c) : ltT a c := by unfold ltT at *; omega
theorem ltT_no {a b : Tim} (h : ltT a b) (k : ltT b a) : False := by unfold ltT at *; omega
theorem ltT_or {a b : Tim} (h : a.k ≠ b.k) : ltT a b ∨ ltT b a := by
  by_cases h1 : a.n = b.n
  · by_cases h2 : a.s = b.s
    · exact absurd (show a.k = b.k by unfold Tim.k; rw [h1, h2]) h
    · unfold ltT; omega
  · unfold ltT; omega

theorem isNaN_c (w : World) (x : Int) : Calls Try.prog 36 #[.int .i64 x] w fun e w' => e = .returned (.bool false) ∧ Only [] w w' :=
  ret (cmp_isNaN_int_wp x (fun v w' => v = _ ∧ Only [] w w') w ⟨by simp, Only.refl _ _⟩)
theorem compare_c (w : World) (x y : Int) : Calls Try.prog 32 #[.int .i64 x, .int .i64 y] w fun e w' => e = .returned (.int .i64 (cmpI x y)) ∧ Only [] w w' := by
  refine ret (cmp_Compare_int_wp x y (fun v w' => v = _ ∧ Only [] w w') w ?_)
  unfold cmp_Compare_int_vc
  refine (isNaN_c w x).mono ?_
  rintro _ w1 ⟨rfl, hO1⟩
  refine ⟨_, rfl, (isNaN_c w1 y).mono ?_⟩
  rintro _ w2 ⟨rfl, hO2⟩
  refine ⟨_, rfl, fun h => (by cases h), fun _ => ⟨fun h => (by cases h), fun _ => ⟨fun h => ⟨?_, hO1.tr0 hO2⟩, fun h => ⟨fun h2 => ⟨?_, hO1.tr0 hO2⟩, fun h2 => ⟨?_, hO1.tr0 hO2⟩⟩⟩⟩⟩
  · have h : x < y := of_decide_eq_true h
    rw [cmpI, if_pos h]
  · have h : ¬ x < y := of_decide_eq_false h
    have h2 : x > y := of_decide_eq_true h2
    rw [cmpI, if_neg h, if_pos h2]
  · have h : ¬ x < y := of_decide_eq_false h
    have h2 : ¬ x > y := of_decide_eq_false h2
    rw [cmpI, if_neg h, if_neg h2]
def firstNZ : List Int → Int
  | [] => 0
  | x :: r => if x ≠ 0 then x else firstNZ r
theorem firstNZ_drop {l : List Int} : ∀ {n : Nat}, (∀ j x, j < n → l[j]? = some x → x = 0) → firstNZ l = firstNZ (l.drop n)
  | 0, _ => rfl
  | n + 1, h => by
    have ih := firstNZ_drop (l := l) (n := n) fun j x hj => h j x (by omega)
    rw [ih]
    by_cases hn : n < l.length
    · rw [List.drop_eq_getElem_cons hn, firstNZ, if_neg]
      have := h n l[n] (by omega) (List.getElem?_eq_getElem hn)
      simpa using this
    · rw [List.drop_of_length_le (by omega), List.drop_of_length_le (by omega)]
theorem or_c {w : World} {F : Nat → Prop} {s : Sl} {l : List Int} (h : SliceF rInt 1 w F s l) (hl : l.length ≤ 1000) :
    Calls Try.prog 31 #[Sl.v s] w fun e w' => e = .returned (.int .i64 (firstNZ l)) ∧ Only [] w w' := by
  refine ret (cmp_Or_int_wp s (fun v w' => v = .int .i64 (firstNZ l) ∧ Only [] w w') w ?_)
  unfold cmp_Or_int_vc
  have hlen := h.len
  refine ⟨fun nv i w' => ∃ n : Nat, n ≤ l.length ∧ i = (n : Int) ∧ nv = l.length - n ∧ (∀ j x, j < n → l[j]? = some x → x = 0) ∧ Only [] w w', l.length, ⟨0, Nat.zero_le _, rfl, rfl, fun j _ h => by omega, Only.refl _ _⟩, ?_⟩
  rintro nv _ w1 ⟨n, hn, rfl, rfl, hp, hO⟩
  refine ⟨fun hc => ?_, fun hc => ?_⟩
  · have hlt : (n : Int) < s.n := of_decide_eq_true hc
    obtain ⟨ad, x, cs, g1, g2, g3, g4, g5, rfl, g6⟩ := (SliceF.only rInt_ok (by decide) h hO (by simp)).get (Int.natCast_nonneg n) hlt
    rw [Int.toNat_natCast] at g2
    have hd : firstNZ l = firstNZ (x :: l.drop (n + 1)) := by
      rw [firstNZ_drop hp, List.drop_eq_getElem_cons (by omega)]
      have : l[n]'(by omega) = x := by rw [List.getElem?_eq_getElem (by omega)] at g2; injection g2
      rw [this]
    refine ⟨ad, g1, x, g5, fun hx => ⟨?_, hO⟩, fun hx => ?_⟩
    · rw [hd, firstNZ, if_pos (by simpa using hx)]
    · rw [wr' (x := (n : Int) + 1) (by omega) (by omega)]
      refine ⟨l.length - (n + 1), by omega, n + 1, by omega, by omega, rfl, fun j y hj hy => ?_, hO⟩
      by_cases hjn : j < n
      · exact hp j y hjn hy
      · have : j = n := by omega
        subst this
        rw [g2] at hy
        injection hy with hy
        subst hy
        simpa using hx
  · have hge : ¬ ((n : Int) < s.n) := of_decide_eq_false hc
    refine ⟨?_, hO⟩
    rw [firstNZ_drop hp, List.drop_of_length_le (by omega)]; rfl
theorem whose_c (w : World) (t : Tim) : Calls Try.prog 22 #[t.v] w fun e w' => e = .returned (.agg #[.int .i64 0, .int .i64 t.n, .int .i64 t.s]) ∧ Only [] w w' := by
  refine ret (timers_whose_wp t.d t.n t.s (fun v w' => v = _ ∧ Only [] w w') w ?_)
  intro k0 k1 w0 _ _ _ _ hO
  exact ⟨rfl, hO⟩
theorem order_c (w : World) (a b : Tim) (ha : InI a.d ∧ InI a.n ∧ InI a.s) : Calls Try.prog 24 #[a.v, b.v] w fun e w' => e = .returned (.int .i64 (ordT a b)) ∧ Only [] w w' := by
  refine ret (timers_order_wp a.d a.n a.s b.d b.n b.s (fun v w' => v = .int .i64 (ordT a b) ∧ Only [] w w') w ?_)
  unfold timers_order_vc
  intro k0 k1 w0 h1 h2 h3 h4 hO
  refine ⟨fun k => k = k0 ∨ k = k1, .inl rfl, .inr rfl, .inl rfl, .inr rfl, (compare_c w0 a.d b.d).mono ?_⟩
  have sm : ∀ {u u' : World}, Only [] w0 u → Only [] u u' → Same [k0, k1] u u' := fun h0 h => h.same (by have := h0.size; simp; omega)
  rintro _ w1 ⟨rfl, hO1⟩
  refine ⟨_, rfl, sm (Only.refl _ _) hO1, Keeps.only hO1, (compare_c w1 a.n b.n).mono ?_⟩
  rintro _ w2 ⟨rfl, hO2⟩
  have h02 := hO1.tr0 hO2
  refine ⟨_, rfl, sm hO1 hO2, Keeps.only hO2, (compare_c w2 a.s b.s).mono ?_⟩
  rintro _ w3 ⟨rfl, hO3⟩
  have h03 := h02.tr0 hO3
  have ci : ∀ x y, InI (cmpI x y) := fun x y => by unfold cmpI InI; split <;> (try split) <;> omega
  obtain ⟨l0, w4, k1', k2, k3, k4, k5, k6⟩ := build_own (P := Try.prog) (t := 32) (e := 3) (i := Try.t3) (w := w3) (F := fun _ => False) (r := rInt) (size := 1) (vs := [.int .i64 (cmpI a.d b.d), .int .i64 (cmpI a.n b.n), .int .i64 (cmpI a.s b.s)]) (xs := [cmpI a.d b.d, cmpI a.n b.n, cmpI a.s b.s]) (len := 3) (by kernel_rfl) (by kernel_rfl) rfl rfl (by decide) rfl rfl (by decide) (by decide) rInt_ok
    ⟨⟨rfl, rfl, ci _ _⟩, ⟨rfl, rfl, ci _ _⟩, ⟨rfl, rfl, ci _ _⟩, trivial⟩
  refine ⟨_, rfl, sm h02 hO3, Keeps.only hO3, l0, w4, k1', sm h03 k3, Keeps.only k3, (or_c (k2.slice rInt_ok) (by simp)).mono ?_⟩
  rintro _ w5 ⟨rfl, hO5⟩
  refine ⟨_, rfl, sm (h03.tr0 k3) hO5, Keeps.only hO5, ?_, (hO.tr0 (h03.tr0 k3)).tr0 hO5⟩
  simp only [firstNZ, ordT]
  split
  · rfl
  · split
    · rfl
    · split
      · rfl
      · rename_i h; simp only [ne_eq, Decidable.not_not] at h; rw [h]
end Go.Proofs.Ytbklgfggodgddaa.Con
