/-
  Own work: the plain law of Fit and Put: no program in sight.
-/
import Derived.Test.YtkigioiahpfkgaaCon
namespace Go.Proofs.Ytkigioiahpfkgaa.Con
open Go Go.RowKit Go.Kt
set_option linter.unusedSimpArgs false
set_option linter.unusedVariables false

theorem term_lo {x : LedS} {k : Nat} {L : List Ent} (hk : k ≤ x.es.length) {j : Int} (hj : j ≤ x.i + k) : LedS.term ⟨x.i, x.t, x.es.take k ++ L⟩ j = x.term j := by
  simp only [LedS.term]
  split
  · rfl
  · split
    · rfl
    · rw [List.getElem?_append_left (by rw [List.length_take]; omega), List.getElem?_take_of_lt (by omega)]
theorem term_hi {x : LedS} {k : Nat} {L : List Ent} (hk : k ≤ x.es.length) {j : Int} (hj : x.i + k < j) : LedS.term ⟨x.i, x.t, x.es.take k ++ L⟩ j = (L[(j - x.i - k - 1).toNat]?).map (·.t) := by
  simp only [LedS.term]
  rw [if_neg (by omega), if_neg (by omega), List.getElem?_append_right (by rw [List.length_take]; omega), List.length_take]
  congr 2
  omega
theorem chain_drop : ∀ {es : List Ent} {i t : Int} (k : Nat), chain i t es = true → chain (i + k) (lastT t (es.take k)) (es.drop k) = true ∨ es.length < k
  | es, i, t, k, h => by
    by_cases hk : k ≤ es.length
    · refine .inl ?_
      rw [← List.take_append_drop k es, chain_app, Bool.and_eq_true] at h
      have h2 := h.2
      rw [List.length_take, Nat.min_eq_left hk] at h2
      exact h2
    · exact .inr (by omega)
theorem lastT_at {es : List Ent} {t : Int} {k : Nat} (hk : k < es.length) : lastT t (es.take (k + 1)) = es[k].t := by
  have : es.take (k + 1) = es.take k ++ [es[k]] := by rw [List.take_add_one, List.getElem?_eq_getElem hk]; rfl
  rw [this, lastT_snoc]
theorem chain_gt {es : List Ent} {i t t' : Int} (h : chain i t es = true) (ht : es = [] ∨ t' = t) : chain i t' es = true := by
  rcases ht with rfl | rfl
  · rfl
  · exact h

/-- what a row that fits has in common with the ledger -/
theorem fit_good {x : LedS} {prev term : Int} {es : List Ent} (hE : fitE x prev term es = 0) : fitsS prev term es = true ∧ prev ≤ x.last ∧ otherS x prev term = false ∧ (∀ (j : Nat) (e : Ent), es[j]? = some e → e.i = x.i → otherS x e.i e.t = false) := by
  have h1 : fitsS prev term es = true := by
    cases h : fitsS prev term es with
    | true => rfl
    | false => simp [fitE, h] at hE
  have h2 : fitBad x prev term es = false := by
    cases h : fitBad x prev term es with
    | false => rfl
    | true => simp [fitE, h1, h] at hE
  simp only [fitBad, Bool.or_eq_false_iff, decide_eq_false_iff_not] at h2
  obtain ⟨⟨h3, h4⟩, h5⟩ := h2
  refine ⟨h1, by omega, h4, fun j e hj he => ?_⟩
  obtain ⟨f1, f2, f3, f4, f5⟩ := LedS.rng (x := ⟨prev, term, es⟩) h1
  dsimp only at f1 f2 f3 f4 f5
  obtain ⟨hjl, hje⟩ := List.getElem?_eq_some_iff.1 hj
  have hidx : es.findIdx (fun e => e.i == x.i) = j := (List.findIdx_eq hjl).2 ⟨by rw [hje]; simpa using he, fun j' hj' => by
    have h6 := chain_at f5 hj
    have h7 := chain_at f5 (List.getElem?_eq_getElem (show j' < es.length by omega))
    have : es[j'].i ≠ x.i := by omega
    simpa using this⟩
  rw [hidx, hj] at h5
  exact h5
theorem other_eq {x : LedS} {i t : Int} (h : otherS x i t = false) (hb : atB x i = true) : atT x i = t := by
  simpa [otherS, hb] using h

theorem fits_law {x : LedS} {prev term : Int} {es : List Ent} (hx : x.ok = true) (he : ∀ e, e ∈ es → InI e.i) (hE : fitE x prev term es = 0) :
    putE x (fitL x prev term es) = 0 ∧ (putS x (fitL x prev term es)).i = x.i ∧ fitE (putS x (fitL x prev term es)) prev term es = 0 ∧ fitL (putS x (fitL x prev term es)) prev term es = [] ∧
      (∀ y, y ∈ es → x.i < y.i → y.i ≤ (putS x (fitL x prev term es)).last ∧ atT (putS x (fitL x prev term es)) y.i = y.t) := by
  obtain ⟨g1, g2, g3, g4⟩ := fit_good hE
  obtain ⟨f1, f2, f3, f4, f5⟩ := LedS.rng (x := ⟨prev, term, es⟩) g1
  dsimp only at f1 f2 f3 f4 f5
  obtain ⟨r1, r2, r3, r4, r5⟩ := LedS.rng hx
  have hL : fitL x prev term es = es.drop (es.findIdx (newP x)) := by simp [fitL, hE]
  rw [hL]
  generalize hk : es.findIdx (newP x) = k
  -- those ahead of k are there already
  have hold : ∀ (j : Nat) (y : Ent), es[j]? = some y → j < k → x.i < y.i → y.i ≤ x.last ∧ atT x y.i = y.t := by
    intro j y hj hjk hy
    obtain ⟨hjl, hje⟩ := List.getElem?_eq_some_iff.1 hj
    have hn : newP x y = false := by
      have := List.not_of_lt_findIdx (p := newP x) (xs := es) (i := j) (by omega)
      rw [hje] at this
      simpa using this
    simp only [newP, Bool.and_eq_false_iff, decide_eq_false_iff_not, Bool.or_eq_false_iff] at hn
    rcases hn with hn | ⟨hn1, hn2⟩
    · omega
    · have hb : atB x y.i = true := by rw [LedS.term_iff hx, decide_eq_true_eq]; omega
      exact ⟨by omega, other_eq hn2 hb⟩
  -- one that need not be put
  have fin : ∀ x' : LedS, x'.i = x.i → prev ≤ x'.last → x'.term prev = x.term prev → x'.term x.i = x.term x.i → (∀ y, y ∈ es → x.i < y.i → y.i ≤ x'.last ∧ atT x' y.i = y.t) → fitE x' prev term es = 0 ∧ fitL x' prev term es = [] := by
    intro x' h1 h2 h3 h4 h5
    have hb : fitBad x' prev term es = false := by
      simp only [fitBad, Bool.or_eq_false_iff, decide_eq_false_iff_not]
      refine ⟨⟨by omega, ?_⟩, ?_⟩
      · rw [← g3]; simp only [otherS, atB, atT, h3]
      · split
        · rename_i e hm
          have hp : (fun e : Ent => e.i == x'.i) e = true := by
            obtain ⟨hjl, hje⟩ := List.getElem?_eq_some_iff.1 hm
            rw [← hje]
            exact List.findIdx_getElem (w := hjl)
          have hei : e.i = x.i := by simpa [h1] using hp
          rw [← g4 _ e hm hei]
          simp only [otherS, atB, atT, hei, h4]
        · rfl
    have hE' : fitE x' prev term es = 0 := by simp [fitE, g1, hb]
    refine ⟨hE', ?_⟩
    have hall : es.findIdx (newP x') = es.length := List.findIdx_eq_length.2 fun y hy => by
      simp only [newP, h1]
      by_cases hxi : x.i < y.i
      · obtain ⟨q1, q2⟩ := h5 y hy hxi
        rw [decide_eq_false (show ¬ y.i > x'.last by omega)]
        simp [otherS, q2]
      · rw [decide_eq_false (show ¬ y.i > x.i by omega)]; rfl
    simp [fitL, hE', hall]
  cases hd : es.drop k with
  | nil =>
    have hkl : es.length ≤ k := by
      have := congrArg List.length hd
      simp only [List.length_drop, List.length_nil] at this
      omega
    have h5 : ∀ y, y ∈ es → x.i < y.i → y.i ≤ x.last ∧ atT x y.i = y.t := fun y hy hxi => by
      obtain ⟨j, hj⟩ := List.getElem?_of_mem hy
      have := (List.getElem?_eq_some_iff.1 hj).1
      exact hold j y hj (by omega) hxi
    obtain ⟨q1, q2⟩ := fin x rfl g2 rfl rfl h5
    exact ⟨rfl, rfl, q1, q2, h5⟩
  | cons e rest =>
    have hkl : k < es.length := by
      have := congrArg List.length hd
      simp only [List.length_drop, List.length_cons] at this
      omega
    have hek : es[k]? = some e := by rw [← List.head?_drop, hd]; rfl
    have hke : es[k] = e := (List.getElem?_eq_some_iff.1 hek).2
    obtain ⟨c1, c2, c3, c4, c5⟩ := chain_at f5 hek
    have hnew : newP x e = true := by
      have := List.findIdx_getElem (xs := es) (p := newP x) (w := by omega)
      simp only [hk, hke] at this
      exact this
    simp only [newP, Bool.and_eq_true, decide_eq_true_eq] at hnew
    -- the place ahead of it
    have hpre : e.i - 1 ≤ x.last ∧ atT x (e.i - 1) = lastT term (es.take k) := by
      cases k with
      | zero =>
        have : e.i - 1 = prev := by omega
        rw [this]
        refine ⟨g2, other_eq g3 ?_⟩
        rw [LedS.term_iff hx, decide_eq_true_eq]; omega
      | succ k =>
        rw [lastT_at (by omega)]
        have hj := List.getElem?_eq_getElem (show k < es.length by omega)
        obtain ⟨d1, _⟩ := chain_at f5 hj
        have hei : e.i - 1 = es[k].i := by omega
        rw [hei]
        by_cases hxi : x.i < es[k].i
        · exact hold k _ hj (by omega) hxi
        · have hxi' : es[k].i = x.i := by omega
          refine ⟨by simp only [LedS.last]; omega, other_eq (g4 k _ hj hxi') ?_⟩
          rw [LedS.term_iff hx, decide_eq_true_eq]; simp only [LedS.last]; omega
    have hch : chain (e.i - 1) (atT x (e.i - 1)) (e :: rest) = true := by
      rw [hpre.2, ← hd]
      rcases chain_drop k f5 with h | h
      · rw [show e.i - 1 = prev + k by omega]; exact h
      · omega
    have hei := he e (List.mem_of_getElem? hek)
    have hwr : IntKind.i64.wrap (e.i - 1) = e.i - 1 := wr' (by omega) (by omega)
    have hbad : putBad x e rest = false := by
      simp only [putBad, hwr, Bool.or_eq_false_iff, decide_eq_false_iff_not, Bool.not_eq_false']
      have hb : atB x (e.i - 1) = true := by rw [LedS.term_iff hx, decide_eq_true_eq]; omega
      obtain ⟨t, ht, t1, t2⟩ := LedS.term_some hx (j := e.i - 1) (by omega) hpre.1
      have hT : atT x (e.i - 1) = t := by simp [atT, ht]
      refine ⟨⟨by omega, hb⟩, ?_⟩
      rw [atI_of hx (by omega) hpre.1]
      simp only [fitsS, hch, Bool.and_true, Bool.and_eq_true, decide_eq_true_eq]
      rw [hT]
      exact ⟨⟨⟨by omega, by omega⟩, by omega⟩, by omega⟩
    have hS : putS x (e :: rest) = ⟨x.i, x.t, x.es.take (e.i - 1 - x.i).toNat ++ e :: rest⟩ := by simp [putS, hbad]
    have hq := hpre.1
    simp only [LedS.last] at hq
    have hkk : (e.i - 1 - x.i).toNat ≤ x.es.length := by omega
    have hlast : (putS x (e :: rest)).last = prev + es.length := by
      rw [hS]
      have := congrArg List.length hd
      simp only [List.length_drop, List.length_cons] at this
      simp only [LedS.last, List.length_append, List.length_take, List.length_cons]
      omega
    have h5 : ∀ y, y ∈ es → x.i < y.i → y.i ≤ (putS x (e :: rest)).last ∧ atT (putS x (e :: rest)) y.i = y.t := fun y hy hxi => by
      obtain ⟨j, hj⟩ := List.getElem?_of_mem hy
      have hjl := (List.getElem?_eq_some_iff.1 hj).1
      obtain ⟨d1, _⟩ := chain_at f5 hj
      refine ⟨by rw [hlast]; omega, ?_⟩
      by_cases hjk : j < k
      · rw [← (hold j y hj hjk hxi).2, hS]
        simp only [atT]
        rw [term_lo hkk (by omega)]
      · rw [hS]
        simp only [atT]
        rw [term_hi hkk (by omega), ← hd, List.getElem?_drop, show k + (y.i - x.i - ((e.i - 1 - x.i).toNat : Int) - 1).toNat = j by omega, hj]
        rfl
    obtain ⟨q1, q2⟩ := fin (putS x (e :: rest)) (by rw [hS]) (by rw [hlast]; omega) (by rw [hS]; exact term_lo hkk (by omega)) (by rw [hS]; exact term_lo hkk (by omega)) h5
    exact ⟨by simp [putE, hbad], by rw [hS], q1, q2, h5⟩
end Go.Proofs.Ytkigioiahpfkgaa.Con
