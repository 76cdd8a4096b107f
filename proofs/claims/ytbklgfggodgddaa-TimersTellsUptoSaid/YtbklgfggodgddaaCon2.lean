/-
  Own work: what the functions of the timers package do: searching, laying in.
-/
import Derived.Test.YtbklgfggodgddaaGslT
namespace Go.Proofs.Ytbklgfggodgddaa.Con
open Go Go.RowKit Go.Kt Go.Kt.V Go.Proofs.Ytbklgfggodgddaa.Vc
set_option linter.unusedSimpArgs false
set_option linter.unusedVariables false

theorem mid2 {i j : Int} (h0 : 0 ≤ i) (h1 : i ≤ j) (h2 : j ≤ 4611686018427387903) : IntKind.i64.wrap (Int.fdiv (IntKind.u64.wrap (IntKind.i64.wrap (i + j))) 2) = (i + j) / 2 := mid_eq h0 h1 h2
def fOrd : OV := ⟨.func (.func 24) #[] #[], rfl⟩
theorem bsearch_c {w : World} {F : Nat → Prop} {s : Sl} {l : List Tim} (h : Tims w F s l) (hl : l.length < 140737488355328) (t : Tim) (hmo : ∀ (a b : Nat) (x y : Tim), a < b → l[a]? = some x → l[b]? = some y → ltT y t → ltT x t) :
    Calls Try.prog 23 #[Sl.v s, t.v, .func (.func 24) #[] #[]] w fun e w' => ∃ (k : Nat) (b : Bool), e = .returned (.tuple #[.int .i64 k, .bool b]) ∧ k ≤ l.length ∧ (∀ (m : Nat) (x : Tim), l[m]? = some x → m < k → ltT x t) ∧ (∀ (m : Nat) (x : Tim), l[m]? = some x → k ≤ m → ¬ ltT x t) ∧ Only [] w w' := by
  refine (slices_BinarySearchFunc_api_Timer_wp s t.d t.n t.s fOrd (fun v w' => ∃ (k : Nat) (b : Bool), v = (.tuple #[.int .i64 k, .bool b]) ∧ k ≤ l.length ∧ (∀ (m : Nat) (x : Tim), l[m]? = some x → m < k → ltT x t) ∧ (∀ (m : Nat) (x : Tim), l[m]? = some x → k ≤ m → ¬ ltT x t) ∧ Only [] w w') w ?_).mono (by
    rintro e w' ⟨v, rfl, k, t, rfl, h⟩; exact ⟨k, t, rfl, h⟩)
  unfold slices_BinarySearchFunc_api_Timer_vc
  have hlen := h.len
  intro k0 w0 hk1 hk2 hO0
  refine ⟨fun nv i j w' => ∃ a b : Nat, i = (a : Int) ∧ j = (b : Int) ∧ a ≤ b ∧ b ≤ l.length ∧ nv = b - a ∧ (∀ (m : Nat) (x : Tim), l[m]? = some x → m < a → ltT x t) ∧ (∀ (m : Nat) (x : Tim), l[m]? = some x → b ≤ m → ¬ ltT x t) ∧ Only [] w0 w', l.length,
    ⟨0, l.length, rfl, by rw [hlen], Nat.zero_le _, Nat.le_refl _, by omega, fun m x _ hm => by omega, fun m x hx hm => by have := (List.getElem?_eq_some_iff.1 hx).1; omega, Only.refl _ _⟩, ?_⟩
  rintro nv _ _ w1 ⟨a, b, rfl, rfl, hab, hbl, rfl, hlo, hhi, hO⟩
  have sm : ∀ {u u' : World}, Only [] w0 u → Only [] u u' → Same [k0] u u' := fun h0 h => h.same (by have := h0.size; simp; omega)
  refine ⟨fun hc => ?_, fun hc => ?_⟩
  · have hc : (a : Int) < b := of_decide_eq_true hc
    rw [mid2 (by omega) (by omega) (by omega)]
    obtain ⟨m, hm⟩ : ∃ m : Nat, ((a : Int) + b) / 2 = m := ⟨(((a : Int) + b) / 2).toNat, by omega⟩
    rw [hm]
    have h1 := SliceF.only rTim_ok (by decide) h (hO0.tr0 hO) (by simp)
    obtain ⟨ad, x, cs, g1, g2, g3, g4, g5, rfl, g6⟩ := h1.get (i := (m : Int)) (by omega) (by omega)
    rw [Int.toNat_natCast] at g2
    refine ⟨ad, g1, fun w2 hO2 => ⟨_, _, _, g5.keep (hO2.block _ g5.lt (by simp)), 24, [], rfl, fun args w => rfl, (order_c w2 x t g6).mono ?_⟩⟩
    rintro _ w3 ⟨rfl, hO3⟩
    have h02 := hO.tr0 hO2
    refine ⟨_, rfl, sm h02 hO3, fun hc2 => ?_, fun hc2 => ?_⟩
    · have hx : ltT x t := ordT_lt.1 (of_decide_eq_true hc2)
      rw [wr' (x := (m : Int) + 1) (by omega) (by omega)]
      refine ⟨b - (m + 1), by omega, m + 1, b, by omega, rfl, by omega, hbl, rfl, fun k y hy hk => ?_, hhi, h02.tr0 hO3⟩
      by_cases hkm : k = m
      · subst hkm
        rw [g2] at hy
        injection hy with hy
        subst hy
        exact hx
      · exact hmo k m y x (by omega) hy g2 hx
    · have hx : ¬ ltT x t := fun h => absurd (ordT_lt.2 h) (of_decide_eq_false hc2)
      refine ⟨m - a, by omega, a, m, rfl, rfl, by omega, by omega, rfl, hlo, fun k y hy hk => ?_, h02.tr0 hO3⟩
      by_cases hkm : k = m
      · subst hkm
        rw [g2] at hy
        injection hy with hy
        subst hy
        exact hx
      · exact fun hy' => hx (hmo m k x y (by omega) g2 hy hy')
  · have hc : ¬ (a : Int) < b := of_decide_eq_false hc
    have hab' : a = b := by omega
    subst hab'
    refine ⟨fun i b w' => i = (a : Int) ∧ Only [] w w', fun i b w' ⟨h1, h2⟩ => ⟨a, b, by rw [h1], hbl, hlo, hhi, h2⟩, fun hc2 => ?_, fun hc2 w9 hO9 => ⟨rfl, hO0.tr0 (hO.tr0 hO9)⟩⟩
    have hc2 : (a : Int) < s.n := of_decide_eq_true hc2
    have h1 := SliceF.only rTim_ok (by decide) h (hO0.tr0 hO) (by simp)
    obtain ⟨ad, x, cs, g1, g2, g3, g4, g5, rfl, g6⟩ := h1.get (i := (a : Int)) (by omega) hc2
    refine ⟨ad, g1, fun w6 hO6 => ⟨_, _, _, g5.keep (hO6.block _ g5.lt (by simp)), 24, [], rfl, fun args w => rfl, (order_c w6 x t g6).mono ?_⟩⟩
    rintro _ w7 ⟨rfl, hO7⟩
    exact ⟨_, rfl, sm (hO.tr0 hO6) hO7, rfl, hO0.tr0 ((hO.tr0 hO6).tr0 hO7)⟩

/-- another one of the same node and slot -/
theorem set1_c (t : Tim) (g : Nat) : Clos_T 21 [.pointer (some ⟨g, 0, none⟩)] (fun o => decide (o.k = t.k)) (fun k => k = g) (fun _ => False) (fun _ w => Blk w g 24 t.cs) where
  sub := fun k h => h.elim
  en := fun args w => rfl
  keep := fun pre w w' h hk hs => (hk g rfl h.lt).trans h
  call := fun pre x w1 w4 hI hO hx hp => by
    have hI4 : Blk w4 g 24 t.cs := (hO.block g hI.lt (by simp)).trans hI
    refine (timers_Set_1_wp x.d x.n x.s ⟨g, 0, none⟩ (fun v w' => v = .bool (decide (x.k = t.k)) ∧ Only [] w4 w') w4 ?_).mono (by
      rintro e w' ⟨v, rfl, rfl, h⟩
      exact ⟨rfl, h.p0, (h.block g hI4.lt (by simp)).trans hI4⟩)
    unfold timers_Set_1_vc
    intro k0 w5 h1 h2 hO5
    have hI5 : Blk w5 g 24 t.cs := (hO5.block g hI4.lt (by simp)).trans hI4
    refine ⟨fun k => k = g, rfl, t.d, t.n, t.s, hI5.cellsAt 0 _ rfl, (whose_c w5 x).mono ?_⟩
    have sm : ∀ {u u' : World}, Only [] w5 u → Only [] u u' → Same [k0] u u' := fun h0 h => h.same (by have := h0.size; simp; omega)
    rintro _ w6 ⟨rfl, hO6⟩
    refine ⟨_, _, _, rfl, sm (Only.refl _ _) hO6, Keeps.only hO6, (whose_c w6 t).mono ?_⟩
    rintro _ w7 ⟨rfl, hO7⟩
    refine ⟨_, _, _, rfl, sm hO6 hO7, Keeps.only hO7, ?_, hO5.tr0 (hO6.tr0 hO7)⟩
    congr 1
    rw [Bool.eq_iff_iff]
    simp [Tim.k]
/-- one of these nodes -/
theorem contains_c {w : World} {F : Nat → Prop} {s : Sl} {l : List Int} (h : SliceF rInt 1 w F s l) (hl : l.length < 4611686018427387903) (x : Int) :
    Calls Try.prog 27 #[Sl.v s, .int .i64 x] w fun e w' => e = .returned (.bool (l.contains x)) ∧ Only [] w w' := by
  refine ret (slices_Contains_int_wp s x (fun v w' => v = .bool (l.contains x) ∧ Only [] w w') w ?_)
  unfold slices_Contains_int_vc
  have hlen := h.len
  have idx : Calls Try.prog 35 #[Sl.v s, .int .i64 x] w fun e w' => ∃ i : Int, e = .returned (.int .i64 i) ∧ (decide (i ≥ 0) = l.contains x) ∧ Only [] w w' := by
    refine (slices_Index_int_wp s x (fun v w' => ∃ i : Int, v = .int .i64 i ∧ (decide (i ≥ 0) = l.contains x) ∧ Only [] w w') w ?_).mono (by
      rintro e w' ⟨v, rfl, i, rfl, h⟩; exact ⟨i, rfl, h⟩)
    unfold slices_Index_int_vc
    refine ⟨fun nv i w' => ∃ n : Nat, n ≤ l.length ∧ i = (n : Int) ∧ nv = l.length - n ∧ (∀ j y, j < n → l[j]? = some y → x ≠ y) ∧ Only [] w w', l.length, ⟨0, Nat.zero_le _, rfl, rfl, fun j _ h => by omega, Only.refl _ _⟩, ?_⟩
    rintro nv _ w1 ⟨n, hn, rfl, rfl, hp, hO⟩
    refine ⟨fun hc => ?_, fun hc => ?_⟩
    · have hlt : (n : Int) < s.n := of_decide_eq_true hc
      obtain ⟨ad, y, cs, g1, g2, g3, g4, g5, rfl, g6⟩ := (SliceF.only rInt_ok (by decide) h hO (by simp)).get (Int.natCast_nonneg n) hlt
      rw [Int.toNat_natCast] at g2
      refine ⟨ad, g1, y, g5, fun hx => ⟨_, rfl, ?_, hO⟩, fun hx => ?_⟩
      · have hx : x = y := by simpa using hx
        have : y ∈ l := List.mem_of_getElem? g2
        rw [hx]
        simp [this]
      · rw [wr' (x := (n : Int) + 1) (by omega) (by omega)]
        refine ⟨l.length - (n + 1), by omega, n + 1, by omega, by omega, rfl, fun j z hj hz => ?_, hO⟩
        by_cases hjn : j < n
        · exact hp j z hjn hz
        · have : j = n := by omega
          subst this
          rw [g2] at hz
          injection hz with hz
          subst hz
          simpa using hx
    · have hge : ¬ ((n : Int) < s.n) := of_decide_eq_false hc
      refine ⟨_, rfl, ?_, hO⟩
      have : x ∉ l := fun hm => by
        obtain ⟨j, hj⟩ := List.getElem?_of_mem hm
        exact hp j x (by have := (List.getElem?_eq_some_iff.1 hj).1; omega) hj rfl
      simp [this]
  refine idx.mono ?_
  rintro _ w1 ⟨i, rfl, h1, h2⟩
  exact ⟨i, rfl, by rw [h1], h2⟩
theorem drop1_c {nodes : List Int} {sn : Sl} {D : Nat → Prop} (g : Nat) (hg : D g) (hl : nodes.length < 4611686018427387903) : Clos_T 26 [.pointer (some ⟨g, 0, none⟩)] (fun o => nodes.contains o.n) D (fun _ => False) (fun _ w => Blk w g 32 [sn.v] ∧ SliceF rInt 1 w D sn nodes) where
  sub := fun k h => h.elim
  en := fun args w => rfl
  keep := fun pre w w' h hk hs => ⟨(hk g hg h.1.lt).trans h.1, h.2.keep rInt_ok (by decide) hk⟩
  call := fun pre x w1 w4 hI hO hx hp => by
    have hI4 : Blk w4 g 32 [sn.v] ∧ SliceF rInt 1 w4 D sn nodes := ⟨(hO.block g hI.1.lt (by simp)).trans hI.1, SliceF.only rInt_ok (by decide) hI.2 hO (by simp)⟩
    refine (timers_Drop_1_wp x.d x.n x.s ⟨g, 0, none⟩ (fun v w' => v = .bool (nodes.contains x.n) ∧ Only [] w4 w') w4 ?_).mono (by
      rintro e w' ⟨v, rfl, rfl, h⟩
      exact ⟨rfl, h.p0, (h.block g hI4.1.lt (by simp)).trans hI4.1, SliceF.only rInt_ok (by decide) hI4.2 h (by simp)⟩)
    unfold timers_Drop_1_vc
    intro k0 w5 h1 h2 hO5
    have hI5 : Blk w5 g 32 [sn.v] := (hO5.block g hI4.1.lt (by simp)).trans hI4.1
    refine ⟨sn, hI5.cellsAt 0 _ rfl, (contains_c (SliceF.only rInt_ok (by decide) hI4.2 hO5 (by simp)) hl x.n).mono ?_⟩
    rintro _ w6 ⟨rfl, hO6⟩
    exact ⟨_, rfl, hO6.same (by simp; omega), rfl, hO5.tr0 hO6⟩
end Go.Proofs.Ytbklgfggodgddaa.Con
