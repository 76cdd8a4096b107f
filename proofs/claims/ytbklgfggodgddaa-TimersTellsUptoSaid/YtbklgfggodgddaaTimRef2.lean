/-
  Own work: the document's answer for timers: Set, Drop, Due; rows alike; what is laid over.
-/
import Derived.Test.YtbklgfggodgddaaTimRef
namespace Go.Proofs.Ytbklgfggodgddaa.Con
open Go Go.RowKit Go.Kt Go.Kt.V Go.Proofs.Ytbklgfggodgddaa.Vc
set_option linter.unusedSimpArgs false
set_option linter.unusedVariables false

theorem rclone_T {w : World} {F : Nat → Prop} {s : Sl} {l : List Tim} (h : Tims w F s l) (hm : l.length * 24 ≤ 140737488355328) :
    ∃ x1 w1, (Instr.buildSlice 22 0 #[]).run Try.prog w = .ok (Sl.v x1) w1 ∧ Only [] w w1 ∧ ∃ x2 w2, (Builtin.append_ #[22, 22] 22 #[Sl.v x1, Sl.v s]).run Try.prog w1 = .ok (Sl.v x2) w2 ∧ OwnU w.heap.size w2 x2 l ∧ OnlyP (fun k => w.heap.size ≤ k) w1 w2 := by
  obtain ⟨x1, w1, k1, k2, x2, w2, k3, k4, k5⟩ := clone_two (P := Try.prog) (t := 22) (ty := 22) (e := 24) (i := Try.t24) (bytes := 24) (size := 3) (by kernel_rfl) (by kernel_rfl) rfl rfl rfl rfl (by decide) rTim_ok h hm (by decide)
  exact ⟨x1, w1, k1, k2, x2, w2, k3, OwnU.of k4, k5⟩
theorem up2 {w w1 w2 : World} (h : Only [] w w1) (k : OnlyP (fun k => w.heap.size ≤ k) w1 w2) : Only [] w w2 := ((h.p0 (F := fun k => w.heap.size ≤ k)).trans k fun k hk => .inl hk).only fun k hk => hk
theorem splice_len {cs vs : List Value} {o : Nat} (h : o + vs.length ≤ cs.length) : (splice cs o vs).length = cs.length := by
  simp only [splice, List.length_append, List.length_take, List.length_drop]
  omega
theorem rset_c {w : World} {F G : Nat → Prop} {s sa : Sl} {l add : List Tim} (h : Tims w F s l) (ha : Tims w G sa add) (hl : (l.length + add.length + 2) * 24 ≤ 140737488355328) :
    Calls Try.prog 13 #[Sl.v s, Sl.v sa] w fun e w' => ∃ (s' : Sl) (c : Int), e = .returned (.tuple #[s'.v, .int .i64 c]) ∧ Only [] w w' ∧ ((RightT l ∧ c = 0 ∧ OwnU w.heap.size w' s' (setsT l add)) ∨ (¬ RightT l ∧ c = 1 ∧ s' = Sl.nil)) := by
  refine (pavaneref14_Set_wp s sa (fun v w' => ∃ (s' : Sl) (c : Int), v = (.tuple #[s'.v, .int .i64 c]) ∧ Only [] w w' ∧ ((RightT l ∧ c = 0 ∧ OwnU w.heap.size w' s' (setsT l add)) ∨ (¬ RightT l ∧ c = 1 ∧ s' = Sl.nil))) w ?_).mono (by
    rintro e w' ⟨v, rfl, s', c, rfl, h⟩; exact ⟨s', c, rfl, h⟩)
  unfold pavaneref14_Set_vc
  have hal := ha.len
  refine (rright_c h (by omega)).mono ?_
  rintro _ w0 ⟨rfl, hO0⟩
  refine ⟨_, rfl, fun hn => ?_, fun hy => ?_⟩
  · exact ⟨Sl.nil, 1, rfl, hO0, .inr ⟨by simpa using hn, rfl, rfl⟩⟩
  have hR : RightT l := by simpa using hy
  obtain ⟨x1, w1, b1, b2, x2, w2, b3, b4, b5⟩ := rclone_T (SliceF.only rTim_ok (by decide) h hO0 (by simp)) (by omega)
  have hO02 := hO0.tr0 (up2 b2 b5)
  refine ⟨x1, w1, b1, x2, w2, b3, fun nv r i w' => ∃ n : Nat, n ≤ add.length ∧ i = (n : Int) ∧ nv = add.length - n ∧ OwnU w.heap.size w' r (setsT l (add.take n)) ∧ Only [] w w', add.length, ⟨0, Nat.zero_le _, rfl, rfl, Own.low b4 hO0.size, hO02⟩, ?_⟩
  rintro nv r _ w3 ⟨n, hn, rfl, rfl, ho, hO3⟩
  refine ⟨fun hc => ?_, fun hc => ?_⟩
  · have hlt : (n : Int) < sa.n := of_decide_eq_true hc
    obtain ⟨ad, t, cs, g1, g2, g3, g4, g5, rfl, g6⟩ := (SliceF.only rTim_ok (by decide) ha hO3 (by simp)).get (Int.natCast_nonneg n) hlt
    rw [Int.toNat_natCast] at g2
    have hlen : (setsT l (add.take n)).length ≤ l.length + n := by
      have := setsT_len (add := add.take n) (l := l)
      rw [List.length_take] at this; omega
    refine ⟨ad, g1, _, _, _, g5, (put_c (OwnU.sl ho) (Nat.le_trans (Nat.mul_le_mul_right 24 (by omega)) hl) t g6).mono ?_⟩
    rintro _ w4 ⟨s', rfl, ho4, hO4⟩
    refine ⟨s', rfl, add.length - (n + 1), by omega, n + 1, by omega, by rw [wr' (by omega) (by omega)]; rfl, rfl, ?_, hO3.tr0 hO4⟩
    rw [setsT_snoc g2]
    exact Own.low ho4 hO3.size
  · have hge : ¬ ((n : Int) < sa.n) := of_decide_eq_false hc
    rw [List.take_of_length_le (by omega)] at ho
    exact ⟨r, 0, rfl, hO3, .inl ⟨hR, rfl, ho⟩⟩
theorem rdrop_c {w : World} {F G : Nat → Prop} {s sn : Sl} {l : List Tim} {nodes : List Int} (h : Tims w F s l) (hn : SliceF rInt 1 w G sn nodes) (hl : (l.length + 1) * 24 ≤ 140737488355328) (hnl : nodes.length < 4611686018427387903) :
    Calls Try.prog 14 #[Sl.v s, Sl.v sn] w fun e w' => ∃ (s' : Sl) (c : Int), e = .returned (.tuple #[s'.v, .int .i64 c]) ∧ Only [] w w' ∧ ((RightT l ∧ c = 0 ∧ OwnU w.heap.size w' s' (dropT l nodes)) ∨ (¬ RightT l ∧ c = 1 ∧ s' = Sl.nil)) := by
  refine (pavaneref14_Drop_wp s sn (fun v w' => ∃ (s' : Sl) (c : Int), v = (.tuple #[s'.v, .int .i64 c]) ∧ Only [] w w' ∧ ((RightT l ∧ c = 0 ∧ OwnU w.heap.size w' s' (dropT l nodes)) ∨ (¬ RightT l ∧ c = 1 ∧ s' = Sl.nil))) w ?_).mono (by
    rintro e w' ⟨v, rfl, s', c, rfl, h⟩; exact ⟨s', c, rfl, h⟩)
  unfold pavaneref14_Drop_vc
  have hll := h.len
  have hnn := hn.len
  refine (rright_c h (by omega)).mono ?_
  rintro _ w0 ⟨rfl, hO0⟩
  refine ⟨_, rfl, fun hn => ?_, fun hy => ?_⟩
  · exact ⟨Sl.nil, 1, rfl, hO0, .inr ⟨by simpa using hn, rfl, rfl⟩⟩
  have hR : RightT l := by simpa using hy
  have sl : ∀ {u : World}, Only [] w u → Tims u F s l := fun hO => SliceF.only rTim_ok (by decide) h hO (by simp)
  have sN : ∀ {u : World}, Only [] w u → SliceF rInt 1 u G sn nodes := fun hO => SliceF.only rInt_ok (by decide) hn hO (by simp)
  have fl : ∀ n, (dropT (l.take n) nodes).length ≤ l.length := fun n => Nat.le_trans (List.length_filter_le _ _) (by rw [List.length_take]; exact Nat.min_le_right _ _)
  refine ⟨fun nv r i w' => ∃ n : Nat, n ≤ l.length ∧ i = (n : Int) ∧ nv = l.length - n ∧ OwnU w.heap.size w' r (dropT (l.take n) nodes) ∧ Only [] w w', l.length, ⟨0, Nat.zero_le _, rfl, rfl, Own.nil _ _ _ _ _ _, hO0⟩, ?_⟩
  rintro nv r _ w1 ⟨n, hln, rfl, rfl, ho, hO1⟩
  refine ⟨fun hc => ?_, fun hc => ?_⟩
  · have hlt : (n : Int) < s.n := of_decide_eq_true hc
    obtain ⟨x, g2⟩ : ∃ x, l[n]? = some x := ⟨_, List.getElem?_eq_getElem (by omega)⟩
    have e : dropT (l.take (n + 1)) nodes = dropT (l.take n) nodes ++ (if nodes.contains x.n then [] else [x]) := by
      have : l.take (n + 1) = l.take n ++ [x] := by rw [List.take_add_one, g2]; rfl
      unfold dropT
      rw [this, List.filter_append]
      congr 1
      by_cases hx : nodes.contains x.n
      · rw [if_pos hx]
        simp only [List.filter_cons, List.filter_nil, hx]
        rfl
      · rw [if_neg hx]
        simp only [List.filter_cons, List.filter_nil, hx]
        rfl
    refine ⟨fun r' w' => OwnU w.heap.size w' r' (dropT (l.take (n + 1)) nodes) ∧ Only [] w w', ?_, fun nv b i w' => ∃ m : Nat, m ≤ nodes.length ∧ i = (m : Int) ∧ nv = nodes.length - m ∧ b = (nodes.take m).contains x.n ∧ Only [] w1 w', nodes.length, ⟨0, Nat.zero_le _, rfl, rfl, rfl, Only.refl _ _⟩, ?_⟩
    · rintro r' w2 ⟨h1, h2⟩
      exact ⟨l.length - (n + 1), by omega, n + 1, by omega, by rw [wr' (by omega) (by omega)]; rfl, rfl, h1, h2⟩
    rintro nv b _ w3 ⟨m, hm, rfl, rfl, rfl, hO3⟩
    have hO13 := hO1.tr0 hO3
    obtain ⟨ad, x', cs, g1, g2', g3, g4, g5, rfl, g6⟩ := (sl hO13).get (Int.natCast_nonneg n) hlt
    rw [Int.toNat_natCast] at g2'
    have : x' = x := by rw [g2] at g2'; injection g2' with e; exact e.symm
    subst this
    refine ⟨fun hc => ?_, fun hc => ?_⟩
    · have hltm : (m : Int) < sn.n := of_decide_eq_true hc
      obtain ⟨bd, y, ds, f1, f2, f3, f4, f5, rfl, f6⟩ := (sN hO13).get (Int.natCast_nonneg m) hltm
      rw [Int.toNat_natCast] at f2
      refine ⟨bd, fun _ => f1, y, fun _ => f5, ad, fun _ => g1, x'.n, fun _ => g5.at1 1 _ rfl, fun w4 hO4 => ⟨nodes.length - (m + 1), by omega, m + 1, by omega, by rw [wr' (by omega) (by omega)]; rfl, rfl, ?_, hO3.tr0 hO4⟩⟩
      rw [List.take_add_one, f2, Bool.eq_iff_iff]
      simp only [Option.toList_some, Bool.or_eq_true, List.contains_iff_mem, List.mem_append, List.mem_singleton, beq_iff_eq]
      exact or_congr Iff.rfl eq_comm
    · have hge : ¬ ((m : Int) < sn.n) := of_decide_eq_false hc
      rw [List.take_of_length_le (by omega)]
      have ho3 : OwnU w.heap.size w3 r (dropT (l.take n) nodes) := OwnU.only ho hO3
      refine ⟨fun hb => ?_, fun hb => ⟨?_, hO13⟩⟩
      · have hb : ¬ nodes.contains x'.n = true := by simpa using hb
        have hsz : w.heap.size ≤ w3.heap.size := hO13.size
        obtain ⟨q, w5, b1, b2, s', w6, b3, b4, b5⟩ := push_t (t := x') ho3 hsz g6 (Nat.le_trans (Nat.mul_le_mul_right 24 (Nat.succ_le_succ (fl n))) hl)
        refine ⟨ad, g1, _, _, _, g5, q, w5, b1, s', w6, b3, ?_, ?_⟩
        · rw [e, if_neg hb]; exact b4
        · exact (((hO13.tr0 b2).p0 (F := fun k => w.heap.size ≤ k)).trans b5 fun k hk => .inl hk).only fun k hk => hk
      · have hb : nodes.contains x'.n = true := by simpa using hb
        rw [e, if_pos hb, List.append_nil]; exact ho3
  · have hge : ¬ ((n : Int) < s.n) := of_decide_eq_false hc
    rw [List.take_of_length_le (by omega)] at ho
    exact ⟨r, 0, rfl, hO1, .inl ⟨hR, rfl, ho⟩⟩
theorem rdue_c {w : World} {F : Nat → Prop} {s : Sl} {l : List Tim} (h : Tims w F s l) (hl : l.length * 24 ≤ 140737488355328) (now : Int) :
    Calls Try.prog 15 #[Sl.v s, .int .i64 now] w fun e w' => ∃ (t : Tim) (s' : Sl) (b : Bool), e = .returned (.tuple #[t.v, s'.v, .bool b]) ∧ Only [] w w' ∧ DueA w.heap.size w' l now t s' b := by
  refine (pavaneref14_Due_wp s now (fun v w' => ∃ (t : Tim) (s' : Sl) (b : Bool), v = (.tuple #[t.v, s'.v, .bool b]) ∧ Only [] w w' ∧ DueA w.heap.size w' l now t s' b) w ?_).mono (by
    rintro e w' ⟨v, rfl, t, s', b, rfl, h⟩; exact ⟨t, s', b, rfl, h⟩)
  unfold pavaneref14_Due_vc
  have hlen := h.len
  intro g w0 hg1 hg2 hO0
  have new : ∀ {u u' : World}, Only [] w u → Only [g] u u' → Only [] w u' := fun h k => h.trans k fun x hx => .inr (by simp only [List.mem_singleton] at hx; rw [hx]; exact hg1)
  have sl : ∀ {u : World}, Only [] w u → Tims u F s l := fun hO => SliceF.only rTim_ok (by decide) h hO (by simp)
  refine (rright_c (sl hO0) (by omega)).mono ?_
  rintro _ w1 ⟨rfl, hO1⟩
  have hO01 := hO0.tr0 hO1
  have z0 := hO0.size
  have z1 := hO1.size
  refine ⟨_, rfl, hO1.same (by simp; omega), ?_⟩
  by_cases hne : s.n = 0
  · have hl0 : l = [] := List.eq_nil_of_length_eq_zero (by omega)
    subst hl0
    have e : ((!decide (RightT [])) || ((s.n : Int) == 0)) = true := by simp [hne]
    rw [e]
    refine ⟨⟨0, 0, none⟩, fun e => (by cases e), 0, fun e => (by cases e), fun _ w2 hO2 => ⟨⟨0, 0, 0⟩, Sl.nil, false, rfl, new hO01 hO2, .inr ⟨fun t r e => (by cases e.1), rfl, rfl, rfl⟩⟩, fun e => (by simp at e)⟩
  obtain ⟨ad, t, cs, g1, g2, g3, g4, g5, rfl, g6⟩ := (sl hO01).get (i := 0) (by omega) (by omega)
  obtain ⟨r, rfl⟩ : ∃ r, l = t :: r := by
    cases l with
    | nil => simp at g2
    | cons x r =>
      simp only [Int.toNat_zero, List.getElem?_cons_zero, Option.some.injEq] at g2
      exact ⟨r, by rw [g2]⟩
  have hz : ((s.n : Int) == 0) = false := by simpa using hne
  rw [hz, Bool.or_false]
  refine ⟨ad, fun _ => g1, t.d, fun _ => g5.at1 0 _ rfl, fun hb w2 hO2 => ⟨⟨0, 0, 0⟩, Sl.nil, false, rfl, new hO01 hO2, .inr ⟨fun t' r' e => ?_, rfl, rfl, rfl⟩⟩, fun hb w3 hO3 => ?_⟩
  · obtain ⟨e1, e2, e3⟩ := e
    injection e1 with e1 _
    subst e1
    simp [e3] at hb
    omega
  have hR : RightT (t :: r) ∧ t.d ≤ now := by simpa using hb
  have h3 := sl (hO01.tr0 hO3)
  obtain ⟨ad', t', cs, e1, e2, e3, e4, e5, rfl, e6⟩ := (h3.inHeap rTim_ok (by decide)).get (i := 0) (by omega) (by omega)
  simp only [Int.toNat_zero, List.getElem?_cons_zero, Option.some.injEq] at e2
  subst e2
  have hcut := h3.cut (lo := 1) (hi := s.n) (m := s.c) (by omega) h.cap (Nat.le_refl _) (Nat.le_refl _)
  have hlr : (t :: r).length = r.length + 1 := rfl
  have e : ((t :: r).drop 1).take (s.n - 1) = r := by
    rw [List.drop_succ_cons, List.drop_zero, List.take_of_length_le (by omega)]
  rw [e] at hcut
  have z3 := hO3.size
  obtain ⟨x1, w4, b1, b2, x2, w5, b3, b4, b5⟩ := rclone_T hcut (by omega)
  have z4 := b2.size
  refine ⟨fun k => k < w3.heap.size, ad', e1, e3.2, _, _, _, e5, ⟨by omega, h.cap⟩, x1, w4, b1, b2.same (by simp; omega), Keeps.only b2, x2, w5, b3, b5.same (by intro x hx; simp only [List.mem_singleton] at hx; subst hx; omega), fun k hk hlt => b5.block k hlt (by omega), fun w6 hO6 => ⟨t, x2, true, rfl, new (hO01.tr0 (hO3.tr0 (up2 b2 b5))) hO6, .inl ⟨r, ⟨rfl, hR.2, hR.1⟩, rfl, ?_⟩⟩⟩
  have ho6 : OwnU w3.heap.size w6 x2 r := OwnU.keep b4 fun k hk hlt => hO6.block k hlt (by simp only [List.mem_singleton]; rintro rfl; have := hk.1; omega)
  exact Own.low ho6 (by omega)
theorem sameI_c {w : World} {F G : Nat → Prop} {a b : Sl} {xs ys : List Int} (ha : SliceF rInt 1 w F a xs) (hb : SliceF rInt 1 w G b ys) :
    Calls Try.prog 16 #[Sl.v a, Sl.v b] w fun e w' => e = .returned (.bool (decide (xs = ys))) ∧ Only [] w w' := by
  refine ret (pavaneref01_Same_wp a b (fun v w' => v = .bool (decide (xs = ys)) ∧ Only [] w w') w ?_)
  unfold pavaneref01_Same_vc
  have hal := ha.len
  have hbl := hb.len
  have hcap := ha.cap
  have hbig := ha.big
  refine ⟨fun hc => ⟨?_, Only.refl _ _⟩, fun hc => ?_⟩
  · have hc : ¬ (a.n : Int) = b.n := by simpa using hc
    rw [decide_eq_false]
    rintro rfl
    omega
  have hab : xs.length = ys.length := by
    have hc : (a.n : Int) = b.n := by simpa using hc
    omega
  refine ⟨fun nv i w' => ∃ n : Nat, n ≤ xs.length ∧ i = (n : Int) ∧ nv = xs.length - n ∧ xs.take n = ys.take n ∧ Only [] w w', xs.length, ⟨0, Nat.zero_le _, rfl, rfl, rfl, Only.refl _ _⟩, ?_⟩
  rintro nv _ w1 ⟨n, hn, rfl, rfl, he, hO⟩
  refine ⟨fun hc => ?_, fun hc => ?_⟩
  · have hlt : (n : Int) < a.n := of_decide_eq_true hc
    obtain ⟨ad, x, cs, g1, g2, g3, g4, g5, rfl, g6⟩ := (SliceF.only rInt_ok (by decide) ha hO (by simp)).get (Int.natCast_nonneg n) hlt
    obtain ⟨bd, y, ds, f1, f2, f3, f4, f5, rfl, f6⟩ := (SliceF.only rInt_ok (by decide) hb hO (by simp)).get (Int.natCast_nonneg n) (by omega)
    rw [Int.toNat_natCast] at g2 f2
    refine ⟨ad, g1, _, g5, bd, f1, _, f5, ?_⟩
    refine ⟨fun h w2 hO2 => ⟨?_, hO.tr0 hO2⟩, fun h w2 hO2 => ?_⟩
    · rw [decide_eq_false]
      rintro rfl
      rw [g2] at f2
      injection f2 with f2
      simp [f2] at h
    · have h : x = y := by simpa using h
      subst h
      rw [wr' (by omega) (by omega)]
      refine ⟨xs.length - (n + 1), by omega, n + 1, by omega, rfl, rfl, ?_, hO.tr0 hO2⟩
      rw [List.take_add_one, List.take_add_one, he, g2, f2]
  · have hge : ¬ ((n : Int) < a.n) := of_decide_eq_false hc
    refine ⟨?_, hO⟩
    rw [List.take_of_length_le (by omega), List.take_of_length_le (by omega)] at he
    rw [decide_eq_true he]
/-- a row's owner writes over all of it -/
theorem over_c {w : World} {B : Nat} {F G : Nat → Prop} {sl so sw : Sl} {l xs ys : List Tim} (h : OwnU B w sl l) (ho : Tims w F so xs) (hw : Tims w G sw ys) (hF : ∀ k, F k → k < w.heap.size → sl.a ≠ some ⟨k, 0, none⟩) (hG : ∀ k, G k → k < w.heap.size → sl.a ≠ some ⟨k, 0, none⟩) :
    Calls Try.prog 17 #[Sl.v sl, Sl.v so, Sl.v sw] w fun e w' => e = .returned (.bool (decide (xs = ys))) ∧ OnlyP (fun k => B ≤ k ∧ sl.a = some ⟨k, 0, none⟩) w w' := by
  refine ret (pavanelaw14_over_wp sl so sw (fun v w' => v = .bool (decide (xs = ys)) ∧ OnlyP (fun k => B ≤ k ∧ sl.a = some ⟨k, 0, none⟩) w w') w ?_)
  unfold pavanelaw14_over_vc
  have fin : ∀ {u : World}, OnlyP (fun k => B ≤ k ∧ sl.a = some ⟨k, 0, none⟩) w u → Calls Try.prog 10 #[Sl.v so, Sl.v sw] u fun e w' => ∃ b : Bool, e = .returned (.bool b) ∧ ((Value.bool b) = .bool (decide (xs = ys)) ∧ OnlyP (fun k => B ≤ k ∧ sl.a = some ⟨k, 0, none⟩) w w') := by
    intro u hu
    refine (same_c (SliceF.onlyP rTim_ok (by decide) ho hu fun k hk hlt e => hF k hk hlt e.2) (SliceF.onlyP rTim_ok (by decide) hw hu fun k hk hlt e => hG k hk hlt e.2)).mono ?_
    rintro _ w' ⟨rfl, hO⟩
    exact ⟨_, rfl, rfl, hu.tr0 hO⟩
  rcases h.flat with ⟨rfl, _⟩ | ⟨g, css, tail, h1, h2, h4, h5, h6, h7, h9, h8⟩
  · refine ⟨0, ⟨rfl, Nat.le_refl _⟩, fun nv i w' => i = 0 ∧ w' = w, 0, ⟨rfl, rfl⟩, ?_⟩
    rintro nv _ _ ⟨rfl, rfl⟩
    exact ⟨fun hc => absurd (of_decide_eq_true hc) (by simp [Sl.cut]), fun _ => fin (OnlyP.refl _ _)⟩
  have hfl : css.flatten.length = l.length * 3 := h8.flen
  have hll : (css.flatten ++ tail).length = sl.c * 3 := by
    rw [List.length_append, hfl, h5, ← h6, ← Nat.add_mul]
    congr 1
    omega
  generalize css.flatten ++ tail = cells at *
  have ec : (sl.cut 0 sl.c sl.c 3).n = sl.c := by simp [Sl.cut]
  refine ⟨sl.c, ⟨rfl, Nat.le_refl _⟩, fun nv i w' => ∃ n : Nat, n ≤ sl.c ∧ i = (n : Int) ∧ nv = sl.c - n ∧ (∃ cs, Blk w' g 24 cs ∧ cs.length = sl.c * 3) ∧ OnlyP (fun k => B ≤ k ∧ sl.a = some ⟨k, 0, none⟩) w w', sl.c, ⟨0, Nat.zero_le _, rfl, rfl, ⟨_, h4, hll⟩, OnlyP.refl _ _⟩, ?_⟩
  rintro nv _ w0 ⟨n, hn, rfl, rfl, ⟨cs, hb, hcl⟩, hO⟩
  rw [ec]
  refine ⟨fun hc => ?_, fun hc => fin hO⟩
  have hlt : n < sl.c := by have := of_decide_eq_true hc; omega
  refine ⟨⟨g, n * 3, none⟩, ?_, g, n * 3, cs, 24, rfl, hb, by omega, fun w1 hO1 hb1 => ⟨sl.c - (n + 1), by omega, n + 1, hlt, by rw [wr' (by omega) (by omega)]; rfl, rfl, ⟨_, hb1, ?_⟩, hO.trans (hO1.p (F := fun k => k = g) fun b hb => .inl (by simpa using hb)) ?_⟩⟩
  · refine ⟨⟨g, 0, none⟩, ?_, Int.natCast_nonneg n, by rw [ec]; omega, by rw [addr_lit, Int.toNat_natCast, Nat.zero_add]⟩
    unfold Sl.cut
    dsimp only
    split
    · exact h1
    · rw [h1]; rfl
  · rw [splice_len]
    · exact hcl
    · simp; omega
  · rintro k rfl
    exact .inl ⟨h2, h1⟩
end Go.Proofs.Ytbklgfggodgddaa.Con
