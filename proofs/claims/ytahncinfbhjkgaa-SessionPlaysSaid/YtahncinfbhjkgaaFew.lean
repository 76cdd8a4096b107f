/-
  Own work: the contracts of SessionFew and SessionLeases.
-/
import Derived.Test.YtahncinfbhjkgaaLaw
namespace Go.Proofs.Ytahncinfbhjkgaa.Con
open Go Go.RowKit Go.Kt Go.Proofs.Ytahncinfbhjkgaa.Vc
set_option linter.unusedSimpArgs false
set_option linter.unusedVariables false

theorem Only.trN {w w1 w2 : World} {F : Nat → Prop} (h : Only [] w w1) (k : OnlyP F w1 w2) (hF : ∀ k, F k → w.heap.size ≤ k) : Only [] w w2 := (h.trP k).only hF

/-- the place of an act -/
theorem act_at {w w' : World} {F : Nat → Prop} {acts : Sl} {az : List Act'} (h : SliceF rAct 5 w F acts az) (hO : Only [] w w') {i : Int} (h0 : 0 ≤ i) (h1 : i < acts.n) :
    ∃ ad x d, SlAt acts i 5 ad ∧ az[i.toNat]? = some x ∧ Cells w' ad [.int .i64 x.1, .int .i64 x.2.1, .int .i64 x.2.2.1, .int .i64 x.2.2.2.1, Sl.v d] ∧ InI x.1 ∧ InI x.2.1 ∧ InI x.2.2.1 ∧ InI x.2.2.2.1 ∧ SliceF rByte 1 w' (fun k => k < w.heap.size) d x.2.2.2.2.1 ∧ x.2.2.2.2.1.length ≤ 140737488355327 := by
  obtain ⟨ad, x, cs, g1, g2, g3, g4, g5, g6⟩ := (SliceF.only rAct_ok (by decide) (h.inHeap rAct_ok (by decide)) hO (by simp)).get h0 h1
  obtain ⟨d, rfl, k1, k2, k3, k4, k5, k6⟩ := rAct_get g6
  exact ⟨ad, x, d, g1, g2, g5, k1, k2, k3, k4, k5.mono rByte_ok fun k hk => hk.2, k6⟩

/-- one act on a book that is new since w -/
theorem step_c {w w1 : World} {b : Nat} {x : BookS} (h : Bk 47 w1 (fun k => w.heap.size ≤ k) b x) (hO : Only [] w w1) {a : Act'} {d : Sl} (hd : SliceF rByte 1 w1 (fun k => k < w.heap.size) d a.2.2.2.2.1) (hl : a.2.2.2.2.1.length ≤ 140737488355327) (h1 : InI a.2.1) (h2 : InI a.2.2.1) :
    Calls Try.prog 11 #[.pointer (some ⟨b, 0, none⟩), .agg #[.int .i64 a.1, .int .i64 a.2.1, .int .i64 a.2.2.1, .int .i64 a.2.2.2.1, Sl.v d]] w1 fun e w' =>
      ∃ r g : Sl, e = .returned (.tuple #[.int .i64 (doF x a).1.1, .int .i64 (doF x a).1.2.1, Sl.v r, Sl.v g]) ∧ OwnB w1 w' r (doF x a).1.2.2.1 ∧ OwnI w1.heap.size w' g (doF x a).1.2.2.2 ∧ Bk 47 w' (fun k => w.heap.size ≤ k) b (doF x a).2 ∧ Only [] w w' := by
  refine (do_c h hd hl (fun k hk _ => by omega) h1 h2).mono ?_
  rintro e w2 ⟨r, g, rfl, k1, k2, k3, k4⟩
  have := hO.size
  exact ⟨r, g, rfl, k1, k2, k3.mono fun k hk => hk.elim id fun h => by omega, Only.trN hO k4 fun k hk => hk⟩

theorem few_c {w : World} {F : Nat → Prop} {acts : Sl} {az : List Act'} (ha : SliceF rAct 5 w F acts az) :
    Calls Try.prog 5 #[Sl.v acts] w fun e w' => e = .returned (.bool true) ∧ Only [] w w' := by
  refine ret (pavanelaw19_SessionFew_wp acts (fun v w' => v = .bool true ∧ Only [] w w') w ?_)
  unfold pavanelaw19_SessionFew_vc
  refine (small_c w).mono ?_
  rintro _ w1 ⟨rfl, hO1⟩
  refine ⟨_, rfl, (new_c w1).mono ?_⟩
  rintro _ w2 ⟨b, rfl, hB, hO2⟩
  have hs1 := hO1.size
  refine ⟨_, rfl, fun h => (by simp at h), fun _ => ?_⟩
  refine ⟨fun nv i w' => ∃ n : Nat, i = (n : Int) ∧ nv = 100 - n ∧ n ≤ 100 ∧ ∃ x, Bk 47 w' (fun k => w.heap.size ≤ k) b x ∧ Only [] w w', 100, ⟨0, rfl, rfl, by decide, newBook, hB.mono fun k hk => by omega, hO1.tr0 hO2⟩, ?_⟩
  rintro nv _ w3 ⟨n, rfl, rfl, hn, x, hB3, hO3⟩
  refine ⟨fun hc => ?_, fun _ => ⟨rfl, hO3⟩⟩
  simp only [Bool.and_eq_true, decide_eq_true_eq] at hc
  obtain ⟨ad, a, d, g1, g2, g3, k1, k2, k3, k4, k5, k6⟩ := act_at ha hO3 (Int.natCast_nonneg n) hc.1
  refine ⟨ad, g1, _, _, _, _, d, g3, (step_c hB3 hO3 k5 k6 k2 k3).mono ?_⟩
  rintro _ w4 ⟨r, g, rfl, _, _, hB4, hO4⟩
  have hs4 := hO4.size
  refine ⟨_, _, r, g, rfl, _, rfl, (list_c hB4).mono ?_⟩
  rintro _ w5 ⟨s, rfl, m1, hO5⟩
  generalize (doF x a).2 = y at *
  have hB5 := hB4.only0 hO5
  have hO05 := hO4.tr0 hO5
  have hS := m1.slice rSeat_ok
  have hSl := hS.len
  have hok := hB5.ok
  have hl8 := hok.len
  refine ⟨s, rfl, fun nv last k w' => ∃ m : Nat, k = (m : Int) ∧ nv = y.l.length - m ∧ m ≤ y.l.length ∧ (∀ t, t ∈ y.l.drop m → last < t.i) ∧ Only [] w5 w', y.l.length, ⟨0, rfl, rfl, Nat.zero_le _, fun t ht => (hok.each t (by simpa using ht)).1, Only.refl _ _⟩, ?_⟩
  rintro nv last _ w6 ⟨m, rfl, rfl, hm, hlast, hO6⟩
  have hS6 := SliceF.only rSeat_ok (by decide) hS hO6 (by simp)
  have at6 : ∀ {w' : World}, Only [] w6 w' → (m : Int) < s.n → ∃ ad t d, SlAt s m 4 ad ∧ y.l[m]? = some t ∧ Cells w' ad [.int .i64 t.i, .int .i64 t.l, Sl.v d, .int .i64 t.u] := fun hO h => by
    obtain ⟨ad, t, cs, e1, e2, e3, e4, e5, d, rfl, e6⟩ := (SliceF.only rSeat_ok (by decide) hS6 hO (by simp)).get (Int.natCast_nonneg m) h
    rw [Int.toNat_natCast] at e2
    exact ⟨ad, t, d, e1, e2, e5⟩
  refine ⟨fun hc2 => ?_, fun hc2 => ⟨fun hc3 => ?_, fun hc3 => ?_⟩⟩
  · have hc2 : (m : Int) < s.n := of_decide_eq_true hc2
    have hml : m < y.l.length := by omega
    obtain ⟨ad, t, d, e1, e2, e3⟩ := at6 (Only.refl _ _) hc2
    rw [List.getElem?_eq_getElem hml] at e2
    injection e2 with e2
    have hdrop := List.drop_eq_getElem_cons hml
    rw [e2] at hdrop
    have htl := hlast t (by rw [hdrop]; simp)
    have hte := hok.each t (by rw [← e2]; exact List.getElem_mem hml)
    refine ⟨ad, e1, t.i, e3.at1 0 _ rfl, fun tt w' => tt = false ∧ Only [] w5 w', ?_, fun w7 hO7 => ⟨fun h => ?_, fun _ => ?_⟩⟩
    · rintro _ w7 ⟨rfl, hO7⟩
      refine ⟨fun h => (by cases h), fun _ => ?_⟩
      obtain ⟨ad', t', cs, z1, z2, z3, z4, z5, d', rfl, z6⟩ := (SliceF.only rSeat_ok (by decide) hS hO7 (by simp)).get (Int.natCast_nonneg m) hc2
      rw [Int.toNat_natCast, List.getElem?_eq_getElem hml, e2] at z2
      injection z2 with z2
      subst z2
      rw [wr' (x := (m : Int) + 1) (by omega) (by omega)]
      refine ⟨ad', z1, t.i, z5.at1 0 _ rfl, y.l.length - (m + 1), by omega, m + 1, by omega, rfl, by omega, fun t' ht' => ?_, hO7⟩
      have := hok.up.drop (i := m)
      rw [hdrop] at this
      exact (List.pairwise_cons.1 this).1 t' ht'
    · have h := of_decide_eq_true h
      omega
    · obtain ⟨ad2, t2, d2, f1, f2, f3⟩ := at6 hO7 hc2
      rw [List.getElem?_eq_getElem hml, e2] at f2
      injection f2 with f2
      subst f2
      have hsb : s.blk < w7.heap.size := by
        obtain ⟨base, q1, _, _, _⟩ := f1
        have := (m1.blk q1).2
        have h6 := hO6.size
        have h7 := hO7.size
        simp only [Sl.blk, q1]
        omega
      refine ⟨ad2, f1, t.i, f3.at1 0 _ rfl, (next_c (hB5.only0 (hO6.tr0 hO7))).mono ?_⟩
      rintro _ w8 ⟨rfl, hO8⟩
      refine ⟨_, rfl, hO8.same (by simpa using hsb), fun h => ?_, fun _ => ?_⟩
      · have h := of_decide_eq_true h
        omega
      · obtain ⟨ad3, t3, d3, f4, f5, f6⟩ := at6 (hO7.tr0 hO8) hc2
        rw [List.getElem?_eq_getElem hml, e2] at f5
        injection f5 with f5
        subst f5
        refine ⟨ad3, f4, t.l, f6.at1 1 _ rfl, decide_eq_false (by omega), (hO6.tr0 hO7).tr0 hO8⟩
  · have hc3 := of_decide_eq_true hc3
    omega
  · rw [wr' (x := (n : Int) + 1) (by omega) (by omega)]
    exact ⟨100 - (n + 1), by omega, n + 1, by omega, rfl, by omega, y, hB5.only0 hO6, hO05.tr0 hO6⟩

/-! ## SessionLeases -/
theorem open_new {now : Int} (h0 : 0 ≤ now) (h1 : now ≤ 1099511627776) : openE newBook now = 0 ∧ openS newBook now = ⟨[⟨1, 0, [], now + 50⟩], 2⟩ := by
  have : openE newBook now = 0 := by
    simp only [openE]
    rw [if_neg (by omega), if_neg (by simp [newBook])]
  exact ⟨this, by simp only [openS, this, if_true]; rfl⟩
theorem leases_c {w : World} {F : Nat → Prop} {acts : Sl} {az : List Act'} (now : Int) (ha : SliceF rAct 5 w F acts az) (to : Int) :
    Calls Try.prog 4 #[.int .i64 now, Sl.v acts, .int .i64 to] w fun e w' => e = .returned (.bool true) ∧ Only [] w w' := by
  refine ret (pavanelaw19_SessionLeases_wp now acts to (fun v w' => v = .bool true ∧ Only [] w w') w ?_)
  unfold pavanelaw19_SessionLeases_vc
  refine (small_c w).mono ?_
  rintro _ w1 ⟨rfl, hO1⟩
  refine ⟨_, rfl, (new_c w1).mono ?_⟩
  rintro _ w2 ⟨b, rfl, hB, hO2⟩
  have hs1 := hO1.size
  refine ⟨_, rfl, fun h => (by simp at h), fun _ => (open_c hB now).mono ?_⟩
  rintro _ w3 ⟨rfl, hB3, hP3⟩
  have hO3 : Only [] w w3 := Only.trN (hO1.tr0 hO2) hP3 fun k hk => by omega
  refine ⟨_, _, rfl, fun hc => ⟨?_, hO3⟩, fun hc => ?_⟩
  · simp only [Bool.or_eq_true, decide_eq_true_eq] at hc
    have hE : openE newBook now = 1 := by simp only [openE, if_pos hc]
    simp [openN, hE]
  · simp only [Bool.or_eq_false_iff, decide_eq_false_iff_not] at hc
    obtain ⟨hE, hS⟩ := open_new (now := now) (by omega) (by omega)
    have hN : openN newBook now = 1 := by simp only [openN, hE, if_true]; rfl
    rw [hS] at hB3
    rw [hE, hN]
    have hB3' : Bk 47 w3 (fun k => w.heap.size ≤ k) b ⟨[⟨1, 0, [], now + 50⟩], 2⟩ := hB3.mono fun k hk => by have := hO2.size; omega
    refine ⟨fun nv i w' => ∃ n : Nat, i = (n : Int) ∧ nv = 50 - n ∧ n ≤ 50 ∧ Bk 47 w' (fun k => w.heap.size ≤ k) b ⟨[⟨1, 0, [], now + 50⟩], 2⟩ ∧ Only [] w w', 50, ⟨0, rfl, rfl, by decide, hB3', hO3⟩, ?_⟩
    rintro nv _ w4 ⟨n, rfl, rfl, hn, hB4, hO4⟩
    refine ⟨fun hc2 => ?_, fun _ => ?_⟩
    · simp only [Bool.and_eq_true, decide_eq_true_eq] at hc2
      obtain ⟨ad, a, d, g1, g2, g3, k1, k2, k3, k4, k5, k6⟩ := act_at ha hO4 (Int.natCast_nonneg n) hc2.1
      refine ⟨ad, g1, _, g3.at1 1 _ rfl, ad, g1, _, g3.at1 2 _ rfl, fun w5 hO5 => (ask_c (hB4.only0 hO5) _ _).mono ?_⟩
      rintro _ w6 ⟨s, rfl, _, hO6⟩
      rw [wr' (x := (n : Int) + 1) (by omega) (by omega)]
      exact ⟨_, s, rfl, 50 - (n + 1), by omega, n + 1, by omega, rfl, by omega, hB4.only0 (hO5.tr0 hO6), hO4.tr0 (hO5.tr0 hO6)⟩
    · refine (expire_c hB4 to).mono ?_
      rintro _ w5 ⟨s, rfl, _, hB5, hP5⟩
      refine ⟨s, rfl, (ask_c hB5 1 1).mono ?_⟩
      rintro _ w6 ⟨s', rfl, _, hO6⟩
      refine ⟨_, s', rfl, ?_, (Only.trN hO4 hP5 fun k hk => hk).tr0 hO6⟩
      rw [wr' (x := now + 50) (by omega) (by omega)]
      by_cases hl : now + 50 < to
      · have : (expireS ⟨[⟨1, 0, [], now + 50⟩], 2⟩ to).l = [] := by simp [expireS, late, hl]
        rw [this, decide_eq_false (show ¬ to ≤ now + 50 by omega), decide_eq_true (show to > now + 50 by omega)]
        rfl
      · have : (expireS ⟨[⟨1, 0, [], now + 50⟩], 2⟩ to).l = [⟨1, 0, [], now + 50⟩] := by simp [expireS, late, hl]
        have hk : (askS (expireS ⟨[⟨1, 0, [], now + 50⟩], 2⟩ to).l 1 1).1 = 1 := by rw [this]; simp [askS, findS]
        rw [hk, decide_eq_true (show to ≤ now + 50 by omega), decide_eq_false (show ¬ to > now + 50 by omega)]
        rfl
end Go.Proofs.Ytahncinfbhjkgaa.Con
