/-
  Own work: the contract of SessionOnce.
-/
import Derived.Test.YtahncinfbhjkgaaFew
import Derived.Test.YtahncinfbhjkgaaMap
namespace Go.Proofs.Ytahncinfbhjkgaa.Con
open Go Go.RowKit Go.Kt Go.Proofs.Ytahncinfbhjkgaa.Vc
set_option linter.unusedSimpArgs false
set_option linter.unusedVariables false

/-- the law's own book: of each number of a seat its last one -/
def Rel (m : Int → Option Int) (l : List Seat) : Prop := ∀ id v, m id = some v ↔ ∃ s, s ∈ l ∧ s.i = id ∧ s.l = v
theorem Rel.find {m : Int → Option Int} {l : List Seat} (h : Rel m l) (id : Int) : m id = (findS l id).map (·.l) ∨ ∃ s t, s ∈ l ∧ t ∈ l ∧ s.i = t.i ∧ s ≠ t := by
  cases hf : findS l id with
  | none =>
    refine .inl ?_
    cases hm : m id with
    | none => rfl
    | some v =>
      obtain ⟨s, h1, h2, _⟩ := (h id v).1 hm
      rw [findS, List.find?_eq_none] at hf
      exact absurd h2 (by simpa using hf s h1)
  | some s =>
    obtain ⟨h1, h2⟩ := find_mem hf
    exact .inl ((h id s.l).2 ⟨s, h1, h2, rfl⟩)
theorem rising_inj {l : List Seat} (h : Rising l) {s t : Seat} (hs : s ∈ l) (ht : t ∈ l) (hi : s.i = t.i) : s = t := by
  obtain ⟨a, ha⟩ := List.getElem?_of_mem hs
  obtain ⟨b, hb⟩ := List.getElem?_of_mem ht
  have h1 := find_at h ha rfl
  have h2 := find_at h hb rfl
  rw [hi, h2] at h1
  injection h1 with h1
  exact h1.symm
theorem Rel.get {m : Int → Option Int} {l : List Seat} (h : Rel m l) (hp : Rising l) (id : Int) : m id = (findS l id).map (·.l) := by
  rcases h.find id with h | ⟨s, t, h1, h2, h3, h4⟩
  · exact h
  · exact absurd (rising_inj hp h1 h2 h3) h4
theorem Rel.opened {m : Int → Option Int} {x : BookS} (h : Rel m x.l) (hx : x.Ok) {now : Int} (hE : openE x now = 0) : Rel (fun k => if k = x.n then some 0 else m k) (openS x now).l := by
  intro id v
  simp only [openS, hE, if_true]
  by_cases hid : id = x.n
  · subst hid
    rw [if_pos rfl]
    constructor
    · intro h
      injection h with h
      exact ⟨newSeat x now, by simp, rfl, h⟩
    · rintro ⟨s, h1, h2, h3⟩
      rcases List.mem_append.1 h1 with h1 | h1
      · have := (hx.each s h1).2.1; omega
      · simp only [List.mem_singleton] at h1
        subst h1
        rw [← h3]; rfl
  · rw [if_neg hid, h id v]
    constructor
    · rintro ⟨s, h1, h2⟩
      exact ⟨s, List.mem_append_left _ h1, h2⟩
    · rintro ⟨s, h1, h2, h3⟩
      rcases List.mem_append.1 h1 with h1 | h1
      · exact ⟨s, h1, h2, h3⟩
      · simp only [List.mem_singleton] at h1
        subst h1
        exact absurd h2.symm hid
theorem Rel.noted {m : Int → Option Int} {x : BookS} (h : Rel m x.l) {id seq now : Int} {r : List UInt8} (hE : noteE x id seq now r = 0) : Rel (fun k => if k = id then some seq else m k) (noteS x id seq now r).l := by
  obtain ⟨z1, z2, z3, z4⟩ := noteE_zero hE
  obtain ⟨s0, f1, f2, f3⟩ := ask_one z3
  obtain ⟨m1, m2⟩ := find_mem f1
  intro k v
  simp only [noteS, hE, if_true, setS, List.mem_map]
  by_cases hk : k = id
  · subst hk
    rw [if_pos rfl]
    constructor
    · intro h
      injection h with h
      exact ⟨_, ⟨s0, m1, by rw [if_pos m2]⟩, rfl, h⟩
    · rintro ⟨s, ⟨y, y1, rfl⟩, h2, h3⟩
      split at h3
      · rw [← h3]
      · rename_i hy
        rw [if_neg hy] at h2
        exact absurd h2 hy
  · rw [if_neg hk, h k v]
    constructor
    · rintro ⟨s, h1, h2, h3⟩
      exact ⟨s, ⟨s, h1, by rw [if_neg (show ¬ s.i = id by omega)]⟩, h2, h3⟩
    · rintro ⟨s, ⟨y, y1, rfl⟩, h2, h3⟩
      split at h2
      · exact absurd h2.symm hk
      · rename_i hy
        rw [if_neg hy] at h3
        exact ⟨y, y1, h2, h3⟩
theorem Rel.gone {m : Int → Option Int} {x : BookS} (h : Rel m x.l) (hx : x.Ok) (now : Int) : Rel (fun k => if k ∈ goneS x now then none else m k) (expireS x now).l := by
  intro id v
  have hg : id ∈ goneS x now ↔ ∃ t, t ∈ x.l ∧ late now t = true ∧ t.i = id := by
    simp only [goneS, List.mem_map, List.mem_filter, and_assoc]
  simp only [expireS, List.mem_filter]
  by_cases hm : id ∈ goneS x now
  · rw [if_pos hm]
    obtain ⟨t, t1, t2, t3⟩ := hg.1 hm
    constructor
    · intro h; cases h
    · rintro ⟨s, ⟨h1, h0⟩, h2, h3⟩
      have := rising_inj hx.up t1 h1 (by rw [t3, h2])
      subst this
      rw [t2] at h0
      cases h0
  · rw [if_neg hm, h id v]
    constructor
    · rintro ⟨s, h1, h2, h3⟩
      refine ⟨s, ⟨h1, ?_⟩, h2, h3⟩
      cases hl : late now s with
      | false => rfl
      | true => exact absurd (hg.2 ⟨s, h1, hl, h2⟩) hm
    · rintro ⟨s, ⟨h1, _⟩, h2, h3⟩
      exact ⟨s, h1, h2, h3⟩
theorem ask_four (l : List Seat) (id seq : Int) : (decide ((askS l id seq).1 ≠ 4)) = (findS l id).isSome := by
  cases h : findS l id with
  | none => simp [askS, h]
  | some s =>
    simp only [askS, h, Option.isSome_some, decide_eq_true_eq]
    split
    · show (3 : Int) ≠ 4; decide
    · split
      · show (2 : Int) ≠ 4; decide
      · show (1 : Int) ≠ 4; decide
theorem ask_is_one (l : List Seat) (id seq : Int) {s : Seat} (h : findS l id = some s) : (decide ((askS l id seq).1 = 1)) = (decide (seq > s.l) && decide (seq > 0)) := by
  simp only [askS, h]
  by_cases h1 : seq < s.l ∨ seq < 1
  · rw [if_pos h1]
    have : (decide (seq > s.l) && decide (seq > 0)) = false := by
      rw [Bool.and_eq_false_iff, decide_eq_false_iff_not, decide_eq_false_iff_not]; omega
    rw [this]; rfl
  · rw [if_neg h1]
    by_cases h2 : seq = s.l
    · rw [if_pos h2, decide_eq_false (show ¬ seq > s.l by omega)]; rfl
    · rw [if_neg h2, decide_eq_true (show seq > s.l by omega), decide_eq_true (show seq > 0 by omega)]; rfl

theorem once_c {w : World} {F : Nat → Prop} {acts : Sl} {az : List Act'} (ha : SliceF rAct 5 w F acts az) :
    Calls Try.prog 3 #[Sl.v acts] w fun e w' => e = .returned (.bool true) ∧ Only [] w w' := by
  refine ret (pavanelaw19_SessionOnce_wp acts (fun v w' => v = .bool true ∧ Only [] w w') w ?_)
  unfold pavanelaw19_SessionOnce_vc
  have hmt : Try.prog.underlying 26 = some (.map 3 3) := by kernel_rfl
  have hit : Try.prog.underlying 3 = some (.int .i64) := by kernel_rfl
  refine (small_c w).mono ?_
  rintro _ w1 ⟨rfl, hO1⟩
  refine ⟨_, rfl, (new_c w1).mono ?_⟩
  rintro _ w2 ⟨b, rfl, hB, hO2⟩
  have hs1 := hO1.size
  have hs2 := hO2.size
  refine ⟨_, rfl, fun h => (by simp at h), fun _ => ?_⟩
  obtain ⟨hmk, hM0, hO3⟩ := MapI.make (P := Try.prog) (mty := 26) w2
  generalize w2.alloc (.map #[] 0) = w3 at *
  have hB3 := hB.inHeap.only0 hO3
  generalize hr : w2.heap.size = r at *
  refine ⟨some r, w3, hmk, ?_⟩
  refine ⟨fun nv given i w' => ∃ n : Nat, i = (n : Int) ∧ nv = 100 - n ∧ n ≤ 100 ∧ ∃ (x : BookS) (A : Nat → Prop) (m : Int → Option Int), Bk 47 w' A b x ∧ (∀ k, A k → w.heap.size ≤ k ∧ k ≠ r) ∧ MapI w' r m ∧ Rel m x.l ∧ given < x.n ∧ 0 ≤ given ∧ Only [] w w', 100,
    ⟨0, rfl, rfl, by decide, newBook, _, _, hB3, fun k hk => ⟨by have := hk.1; omega, by have := hk.2; omega⟩, hM0, fun id v => ⟨fun h => (by cases h), fun ⟨s, h1, _⟩ => (by simp [newBook] at h1)⟩, by decide, by decide, (hO1.tr0 hO2).tr0 hO3⟩, ?_⟩
  rintro nv given _ w4 ⟨n, rfl, rfl, hn, x, A, m, hB4, hA, hM4, hR, hgv, hgv0, hO4⟩
  refine ⟨fun hc => ?_, fun _ => ⟨rfl, hO4⟩⟩
  simp only [Bool.and_eq_true, decide_eq_true_eq] at hc
  have hs4 := hO4.size
  have hrl := hM4.lt
  have hrw : w.heap.size ≤ r := by omega
  obtain ⟨ad, a, d, g1, g2, g3, k1, k2, k3, k4, k5, k6⟩ := act_at ha hO4 (Int.natCast_nonneg n) hc.1
  refine ⟨ad, g1, _, _, _, _, d, g3, fun bb w5 hb1 hb2 hO5 => ?_⟩
  have hM5 := hM4.only hO5 (by simp)
  have hO45 := hO5
  refine ⟨_, _, w5, MapI.lookup hmt hit (fun w => Try.zeroValue3 w) hM5 a.2.1, Same.refl _ _, (ask_c (hB4.only0 hO5) a.2.1 a.2.2.1).mono ?_⟩
  rintro _ w6 ⟨sr, rfl, _, hO6⟩
  have hO46 := hO5.tr0 hO6
  have hx := hB4.ok
  have hget := hR.get hx.up a.2.1
  refine ⟨_, sr, rfl, hO6.same (by simpa using hb2), fun hbad => ?_, fun hgood => ?_⟩
  · exfalso
    have h4 := ask_four x.l a.2.1 a.2.2.1
    have e1 : ((askS x.l a.2.1 a.2.2.1).1 != 4) = (findS x.l a.2.1).isSome := by
      rw [← h4]
      by_cases h : (askS x.l a.2.1 a.2.2.1).1 = 4 <;> simp [h]
    rw [e1, hget] at hbad
    cases hf : findS x.l a.2.1 with
    | none => rw [hf] at hbad; simp at hbad
    | some s =>
      have h1 := ask_is_one x.l a.2.1 a.2.2.1 hf
      have e2 : ((askS x.l a.2.1 a.2.2.1).1 == 1) = (decide (a.2.2.1 > s.l) && decide (a.2.2.1 > 0)) := by
        rw [← h1]
        by_cases h : (askS x.l a.2.1 a.2.2.1).1 = 1 <;> simp [h]
      rw [e2, hf] at hbad
      simp at hbad
  · have hk5 := SliceF.only rByte_ok (by decide) k5 hO46 (by simp)
    have hs6 := hO46.size
    refine (do_c (hB4.inHeap.only0 hO46) hk5 k6 (fun k hk _ hf => by have := (hA k hf.1).1; omega) k2 k3).mono ?_
    rintro _ w7 ⟨rr, gg, rfl, _, hG7, hB7, hP7⟩
    have hs7 := hP7.size
    have hA7 : ∀ k, ((A k ∧ k < w4.heap.size) ∨ w6.heap.size ≤ k) → w.heap.size ≤ k ∧ k ≠ r := fun k hk => by
      rcases hk with hk | hk
      · exact hA k hk.1
      · omega
    have hM7 : MapI w7 r m := (hM4.only hO46 (by simp)).keep (hP7.block r (by omega) (fun h => (hA r h.1).2 rfl))
    have hO7 : Only [] w w7 := Only.trN (hO4.tr0 hO46) hP7 fun k hk => (hA k hk.1).1
    have hbr : bb ≠ r := by omega
    have hb7 : bb < w7.heap.size := by have := hO6.size; omega
    have hGl := (hG7.slice rInt_ok).mono rInt_ok (G := fun k => w6.heap.size ≤ k) (fun k hk => hk.elim False.elim fun h => h.1)
    refine ⟨_, _, rr, gg, rfl, hP7.same (by simp only [List.mem_singleton]; rintro _ rfl; exact ⟨by have := hO6.size; omega, fun h => by omega⟩), ?_⟩
    -- from here on the book stands; the map is brought to it
    have keepB : ∀ {w' : World}, Only [r] w7 w' → Bk 47 w' (fun k => (A k ∧ k < w4.heap.size) ∨ w6.heap.size ≤ k) b (doF x a).2 := fun hO => hB7.only hO (fun k hk _ => by simpa using (hA7 k hk).2)
    have keepG : ∀ {w' : World}, Only [r] w7 w' → SliceF rInt 1 w' (fun k => w6.heap.size ≤ k) gg (doF x a).1.2.2.2 := fun hO => SliceF.only rInt_ok (by decide) hGl hO (fun k hk _ => by simp only [List.mem_singleton]; omega)
    have same7 : ∀ {w1 w2 : World}, w7.heap.size ≤ w1.heap.size → Only [r] w1 w2 → Same [bb] w1 w2 := fun h hO => hO.same (by simp only [List.mem_singleton]; rintro _ rfl; exact ⟨by omega, hbr⟩)
    -- the map behind a row of numbers that are gone
    refine ⟨fun given1 w' => Only [r] w7 w' ∧ given1 < (doF x a).2.n ∧ 0 ≤ given1 ∧ ∃ m1, MapI w' r m1 ∧ ((a.1 = 2 ∧ (doF x a).1.2.1 = 0) → Rel (fun k => if k = a.2.1 then some a.2.2.1 else m1 k) (doF x a).2.l ∧ (askS x.l a.2.1 a.2.2.1).1 = 1 ∧ (doF x a).1.2.2.2 = []) ∧ (¬ (a.1 = 2 ∧ (doF x a).1.2.1 = 0) → Rel (fun k => if k ∈ (doF x a).1.2.2.2 then none else m1 k) (doF x a).2.l), ?_, ?_⟩
    · rintro given1 w8 ⟨hO8, hgv1, hgv10, m1, hM8, hR1, hR2⟩
      have hs8 := hO8.size
      refine ⟨fun w' => Only [r] w7 w' ∧ ∃ m2, MapI w' r m2 ∧ Rel (fun k => if k ∈ (doF x a).1.2.2.2 then none else m2 k) (doF x a).2.l, ?_, fun hc2 => ?_, fun hc2 => ?_⟩
      · rintro w9 ⟨hO9, m2, hM9, hR9⟩
        have hgl := (keepG hO9).len
        generalize (doF x a).1.2.2.2 = gs at *
        refine ⟨fun nv k w' => ∃ j : Nat, k = (j : Int) ∧ nv = gs.length - j ∧ j ≤ gs.length ∧ Only [r] w7 w' ∧ MapI w' r (fun k => if k ∈ gs.take j then none else m2 k), gs.length, ⟨0, rfl, rfl, Nat.zero_le _, hO9, by simpa using hM9⟩, ?_⟩
        rintro nv _ w10 ⟨j, rfl, rfl, hj, hO10, hM10⟩
        have hs10 := hO10.size
        have hGcap := hGl.cap
        have hGbig := hGl.big
        refine ⟨fun hc3 => ?_, fun hc3 => ?_⟩
        · have hc3 : (j : Int) < gg.n := of_decide_eq_true hc3
          have hjl : j < gs.length := by omega
          obtain ⟨ad2, v, cs, e1, e2, e3, e4, e5, rfl, e6⟩ := (keepG hO10).get (Int.natCast_nonneg j) hc3
          rw [Int.toNat_natCast] at e2
          obtain ⟨w11, q1, q2, q3⟩ := MapI.delete (P := Try.prog) hmt hit hM10 v 0
          rw [wr' (x := (j : Int) + 1) (by omega) (by omega)]
          refine ⟨ad2, e1, v, e5, w11, q1, same7 hs10 q3, gs.length - (j + 1), by omega, j + 1, by omega, rfl, by omega, hO10.mem q3 (by simp), ?_⟩
          have : (fun k => if k ∈ gs.take (j + 1) then none else m2 k) = (fun k => if k = v then none else if k ∈ gs.take j then none else m2 k) := by
            funext k
            rw [List.take_add_one, e2]
            simp only [Option.toList_some, List.mem_append, List.mem_singleton]
            by_cases hk : k = v
            · simp [hk]
            · simp [hk]
          rw [this]
          exact q2
        · have hc3 : ¬ (j : Int) < gg.n := of_decide_eq_false hc3
          have hjl : j = gs.length := by omega
          subst hjl
          rw [List.take_length] at hM10
          rw [wr' (x := (n : Int) + 1) (by omega) (by omega)]
          exact ⟨100 - (n + 1), by omega, n + 1, by omega, rfl, by omega, _, _, _, keepB hO10, hA7, hM10, hR9, hgv1, hgv10, hO7.trans hO10 (by simp; omega)⟩
      · simp only [Bool.and_eq_true, beq_iff_eq] at hc2
        obtain ⟨r1, r2, r3⟩ := hR1 hc2
        refine ⟨fun hne => ?_, fun _ => ?_⟩
        · rw [r2] at hne; simp at hne
        · obtain ⟨w9, q1, q2, q3⟩ := MapI.update (P := Try.prog) hmt hit hM8 a.2.1 a.2.2.1
          refine ⟨w9, q1, same7 hs8 q3, hO8.mem q3 (by simp), _, q2, ?_⟩
          rw [r3]
          simpa using r1
      · refine ⟨hO8, m1, hM8, hR2 ?_⟩
        rintro ⟨e1, e2⟩
        simp [e1, e2] at hc2
    · refine ⟨fun hc2 => ?_, fun hc2 => ?_⟩
      · simp only [Bool.and_eq_true, beq_iff_eq] at hc2
        obtain ⟨c1, c2⟩ := hc2
        have hF : doF x a = ((openN x a.2.2.2.1, openE x a.2.2.2.1, [], []), openS x a.2.2.2.1) := by simp only [doF, if_pos c1]
        rw [hF] at c2
        have hE : openE x a.2.2.2.1 = 0 := c2
        have hN : openN x a.2.2.2.1 = x.n := by simp only [openN, hE, if_true]
        have hS : (openS x a.2.2.2.1).n = x.n + 1 := by simp only [openS, hE, if_true]
        rw [hF]
        dsimp only
        refine ⟨fun hle => ?_, fun _ => ?_⟩
        · have hle := of_decide_eq_true hle
          omega
        · obtain ⟨w8, q1, q2, q3⟩ := MapI.update (P := Try.prog) hmt hit hM7 (openN x a.2.2.2.1) 0
          refine ⟨w8, q1, same7 (Nat.le_refl _) q3, q3, by omega, by have := hx.n0; omega, _, q2, fun h => ?_, fun _ => ?_⟩
          · omega
          · rw [hN]
            simpa using hR.opened hx hE
      · refine ⟨(Only.refl [] _).weaken (by simp), ?_, hgv0, m, hM7, fun h => ?_, fun h => ?_⟩
        · simp only [doF]
          split
          · rename_i c1
            simp only [openS]
            split
            · dsimp only; omega
            · exact hgv
          · split
            · exact hgv
            · split
              · simp only [noteS]; split <;> exact hgv
              · split
                · exact hgv
                · exact hgv
        · obtain ⟨c1, c2⟩ := h
          have hF : doF x a = ((0, noteE x a.2.1 a.2.2.1 a.2.2.2.1 a.2.2.2.2.1, [], []), noteS x a.2.1 a.2.2.1 a.2.2.2.1 a.2.2.2.2.1) := by simp only [doF]; rw [if_neg (by omega), if_neg (by omega), if_pos c1]
          rw [hF] at c2 ⊢
          exact ⟨hR.noted c2, (noteE_zero c2).2.2.1, rfl⟩
        · simp only [doF] at h hc2 ⊢
          split
          · rename_i c1
            rw [if_pos c1] at hc2
            have hE : openE x a.2.2.2.1 ≠ 0 := fun h => by simp [c1, h] at hc2
            simp only [openS, if_neg hE]
            simpa using hR
          · rename_i c1
            split
            · simpa using hR
            · rename_i c2
              split
              · rename_i c3
                rw [if_neg c1, if_neg c2, if_pos c3] at h
                have hE : noteE x a.2.1 a.2.2.1 a.2.2.2.1 a.2.2.2.2.1 ≠ 0 := fun hh => h ⟨c3, hh⟩
                simp only [noteS, if_neg hE]
                simpa using hR
              · split
                · exact hR.gone hx _
                · simpa using hR
end Go.Proofs.Ytahncinfbhjkgaa.Con
