/-
  Own work: what the functions of the ledger do, each once, against plain functions of lists.
-/
import Derived.Test.YtkigioiahpfkgaaEnt
import Derived.Test.YtkigioiahpfkgaaVa
import Derived.Test.YtkigioiahpfkgaaVb
namespace Go.Proofs.Ytkigioiahpfkgaa.Con
open Go Go.RowKit Go.Kt Go.Proofs.Ytkigioiahpfkgaa.Vc
set_option linter.unusedSimpArgs false
set_option linter.unusedVariables false

/-! ## plain functions -/
def chain : Int → Int → List Ent → Bool
  | _, _, [] => true
  | i, t, e :: es => decide (e.i ≤ 1099511627776) && decide (e.i = i + 1) && decide (e.t ≥ t) && decide (e.t ≤ 1099511627776) && decide (e.k ≥ 0) && chain e.i e.t es
def fitsS (i t : Int) (es : List Ent) : Bool := decide (i ≥ 0) && decide (i ≤ 1099511627776) && decide (t ≥ 0) && decide (t ≤ 1099511627776) && chain i t es
/-- a ledger -/
structure LedS where
  i : Int
  t : Int
  es : List Ent
def LedS.ok (x : LedS) : Bool := fitsS x.i x.t x.es
/-- the term of an index, if there is one -/
def LedS.term (x : LedS) (index : Int) : Option Int :=
  if index = x.i then some x.t else if index < x.i then none else (x.es[(index - x.i - 1).toNat]?).map (·.t)
def LedS.last (x : LedS) : Int := x.i + x.es.length
def atI (x : LedS) (index : Int) : Int := if (x.term index).isSome then index else 0
def atT (x : LedS) (index : Int) : Int := (x.term index).getD 0
def atB (x : LedS) (index : Int) : Bool := (x.term index).isSome

theorem chain_at : ∀ {es : List Ent} {i t : Int}, chain i t es = true → ∀ {j : Nat} {e : Ent}, es[j]? = some e → e.i = i + 1 + j ∧ t ≤ e.t ∧ e.t ≤ 1099511627776 ∧ e.i ≤ 1099511627776 ∧ 0 ≤ e.k
  | [], _, _, _, j, e, h => by simp at h
  | x :: es, i, t, hc, j, e, h => by
    simp only [chain, Bool.and_eq_true, decide_eq_true_eq] at hc
    obtain ⟨⟨⟨⟨⟨h1, h2⟩, h3⟩, h4⟩, h5⟩, h6⟩ := hc
    cases j with
    | zero =>
      simp only [List.getElem?_cons_zero, Option.some.injEq] at h
      subst h
      refine ⟨by omega, by omega, by omega, by omega, by omega⟩
    | succ j =>
      simp only [List.getElem?_cons_succ] at h
      obtain ⟨g1, g2, g3, g4, g5⟩ := chain_at h6 h
      refine ⟨by omega, by omega, by omega, by omega, by omega⟩
theorem LedS.rng {x : LedS} (h : x.ok = true) : 0 ≤ x.i ∧ x.i ≤ 1099511627776 ∧ 0 ≤ x.t ∧ x.t ≤ 1099511627776 ∧ chain x.i x.t x.es = true := by
  simp only [LedS.ok, fitsS, Bool.and_eq_true, decide_eq_true_eq] at h
  obtain ⟨⟨⟨⟨h1, h2⟩, h3⟩, h4⟩, h5⟩ := h
  exact ⟨h1, h2, h3, h4, h5⟩
theorem chain_len {es : List Ent} {i t : Int} (h : chain i t es = true) (hi : 0 ≤ i ∧ i ≤ 1099511627776) : i + es.length ≤ 1099511627776 := by
  cases hl : es.length with
  | zero => omega
  | succ n =>
    obtain ⟨h1, _, _, h2, _⟩ := chain_at h (j := n) (List.getElem?_eq_getElem (by omega))
    omega

/-! ## in memory -/
abbrev Ents := SliceF rEnt 4
structure Led (w : World) (F : Nat → Prop) (b : Nat) (x : LedS) : Prop where
  ok : x.ok = true
  fb : F b
  at_ : ∃ s : Sl, Blk w b 54 [.int .i64 x.i, .int .i64 x.t, s.v] ∧ Ents w (fun k => F k ∧ k ≠ b) s x.es
theorem Led.keep {w w' : World} {F : Nat → Prop} {b : Nat} {x : LedS} (h : Led w F b x) (hk : ∀ k, F k → k < w.heap.size → w'.heap[k]? = w.heap[k]?) : Led w' F b x := by
  obtain ⟨s, h1, h2⟩ := h.at_
  exact ⟨h.ok, h.fb, s, (hk b h.fb h1.lt).trans h1, h2.keep rEnt_ok (by decide) fun k hF => hk k hF.1⟩
theorem Led.mono {w : World} {F G : Nat → Prop} {b : Nat} {x : LedS} (h : Led w F b x) (hk : ∀ k, F k → G k) : Led w G b x := by
  obtain ⟨s, h1, h2⟩ := h.at_
  exact ⟨h.ok, hk b h.fb, s, h1, h2.mono rEnt_ok fun k hF => ⟨hk k hF.1, hF.2⟩⟩
theorem Led.inHeap {w : World} {F : Nat → Prop} {b : Nat} {x : LedS} (h : Led w F b x) : Led w (fun k => F k ∧ k < w.heap.size) b x := by
  obtain ⟨s, h1, h2⟩ := h.at_
  exact ⟨h.ok, ⟨h.fb, h1.lt⟩, s, h1, (h2.inHeap rEnt_ok (by decide)).mono rEnt_ok fun k hF => ⟨⟨hF.1.1, hF.2⟩, hF.1.2⟩⟩
theorem Led.only {w w' : World} {F : Nat → Prop} {b : Nat} {x : LedS} {bs : List Nat} (h : Led w F b x) (hO : Only bs w w') (hb : ∀ k, F k → k < w.heap.size → k ∉ bs) : Led w' F b x :=
  h.keep fun k hF hlt => hO.block k hlt (hb k hF hlt)
theorem Ents.only {w w' : World} {F : Nat → Prop} {s : Sl} {x : List Ent} {bs : List Nat} (h : Ents w F s x) (hO : Only bs w w') (hb : ∀ k, F k → k < w.heap.size → k ∉ bs) : Ents w' F s x :=
  h.keep rEnt_ok (by decide) fun k hF hlt => hO.block k hlt (hb k hF hlt)

theorem ret {P : Program} {f : FuncId} {a : Array Value} {w : World} {r : Value} {Q : World → Prop} (h : Calls P f a w fun e w' => ∃ v, e = .returned v ∧ v = r ∧ Q w') : Calls P f a w fun e w' => e = .returned r ∧ Q w' :=
  h.mono (by rintro e w' ⟨v, rfl, rfl, hq⟩; exact ⟨rfl, hq⟩)
theorem SliceF.step {α : Type} {r : Rp α} {size : Nat} {w : World} {F : Nat → Prop} {s : Sl} {xs : List α} (h : SliceF r size w F s xs) {i : Int} (h0 : 0 ≤ i) (h1 : i < s.n) :
    ∃ ad x cs, SlAt s i size ad ∧ xs.drop i.toNat = x :: xs.drop (i.toNat + 1) ∧ xs[i.toNat]? = some x ∧ F ad.block ∧ cs.length = size ∧ Cells w ad cs ∧ r w F x cs := by
  obtain ⟨ad, x, cs, g1, g2, g3⟩ := h.get h0 h1
  refine ⟨ad, x, cs, g1, ?_, g2, g3⟩
  obtain ⟨hlt, hx⟩ := List.getElem?_eq_some_iff.1 g2
  rw [← hx]
  exact List.drop_eq_getElem_cons hlt

theorem pred_eq {x i : Int} (h : InI x) (hm : x ≤ 1099511627776) (hi : 0 ≤ i ∧ i ≤ 1099511627776) : (IntKind.i64.wrap (x - 1) == i) = decide (x = i + 1) := by
  obtain ⟨h1, h2⟩ := h
  by_cases hx : x = -9223372036854775808
  · subst hx
    have : IntKind.i64.wrap (-9223372036854775808 - 1) = 9223372036854775807 := by decide
    rw [this, decide_eq_false (by omega)]
    have : (9223372036854775807 : Int) ≠ i := by omega
    simp [this]
  · rw [wr' (by omega) (by omega)]
    by_cases he : x = i + 1
    · simp [he]
    · rw [decide_eq_false he]
      have : x - 1 ≠ i := by omega
      simp [this]

/-! ## contracts -/
theorem fits_c {w : World} {F : Nat → Prop} {l : Sl} {es : List Ent} (hl : Ents w F l es) (p0 p1 : Int) :
    Calls Try.prog 15 #[.agg #[.int .i64 p0, .int .i64 p1], Sl.v l] w fun e w' => e = .returned (.bool (fitsS p0 p1 es)) ∧ Only [] w w' := by
  refine ret (ledger_point_fits_wp p0 p1 l (fun v w' => v = .bool (fitsS p0 p1 es) ∧ Only [] w w') w ?_)
  unfold ledger_point_fits_vc
  intro b w1 hb1 hb2 hO
  have hlen := hl.len
  have hcap := hl.cap
  have hbig := hl.big
  refine ⟨fun nv ok t vb vb1 w' => ∃ n : Nat, n ≤ l.n ∧ t = (n : Int) ∧ nv = l.n - n ∧ (ok && chain vb vb1 (es.drop n)) = fitsS p0 p1 es ∧ (ok = true → 0 ≤ vb ∧ vb ≤ 1099511627776) ∧ Only [] w w', l.n, ⟨0, Nat.zero_le _, rfl, rfl, rfl, ?_, hO⟩, ?_⟩
  · simp only [Bool.and_eq_true, decide_eq_true_eq]
    rintro ⟨⟨⟨h1, h2⟩, _⟩, _⟩
    exact ⟨h1, h2⟩
  rintro nv ok t vb vb1 w2 ⟨n, hn, rfl, rfl, hok, hvb, hO2⟩
  refine ⟨fun hc => ?_, fun hc => ?_⟩
  · have hlt : (n : Int) < l.n := of_decide_eq_true hc
    have hl2 := (hl.inHeap rEnt_ok (by decide)).keep rEnt_ok (by decide) (fun k hk hlt => hO2.block k hk.2 (by simp))
    obtain ⟨ad, x, cs, g1, g2, g3, g4, g5, g6, d, rfl, g7⟩ := SliceF.step hl2 (Int.natCast_nonneg n) hlt
    refine ⟨ad, g1, _, _, _, d, g6, ?_⟩
    intro b3 w4 _ _ hO4
    rw [wr' (x := (n : Int) + 1) (by omega) (by omega)]
    have hpr : ((ok && decide (x.i ≤ 1099511627776)) && (IntKind.i64.wrap (x.i - 1) == vb)) = ((ok && decide (x.i ≤ 1099511627776)) && decide (x.i = vb + 1)) := by
      by_cases ho : ok = true
      · by_cases hm : x.i ≤ 1099511627776
        · rw [pred_eq g7.i hm (hvb ho)]
        · rw [decide_eq_false hm]; simp
      · rw [Bool.not_eq_true] at ho; rw [ho]; simp
    rw [hpr]
    refine ⟨l.n - (n + 1), by omega, n + 1, by omega, by omega, rfl, ?_, ?_, hO2.new hO4 hb1⟩
    · rw [Int.toNat_natCast] at g2
      rw [g2] at hok
      rw [← hok]
      simp only [chain, Bool.and_assoc]
    · simp only [Bool.and_eq_true, decide_eq_true_eq]
      rintro ⟨⟨⟨⟨⟨h1, h2⟩, h3⟩, _⟩, _⟩, _⟩
      have := hvb h1
      exact ⟨by omega, h2⟩
  · have hge : ¬ ((n : Int) < l.n) := of_decide_eq_false hc
    have hd : es.drop n = [] := List.drop_eq_nil_of_le (by omega)
    rw [hd] at hok
    simp only [chain, Bool.and_true] at hok
    exact ⟨by rw [hok], hO2⟩

theorem at_c {w : World} {F : Nat → Prop} {b : Nat} {x : LedS} (h : Led w F b x) (index : Int) (hi : InI index) :
    Calls Try.prog 18 #[.pointer (some ⟨b, 0, none⟩), .int .i64 index] w fun e w' => e = .returned (.tuple #[.agg #[.int .i64 (atI x index), .int .i64 (atT x index)], .bool (atB x index)]) ∧ Only [] w w' := by
  refine ret (ledger_Ledger_at_wp ⟨b, 0, none⟩ index (fun v w' => v = _ ∧ Only [] w w') w ?_)
  unfold ledger_Ledger_at_vc
  intro b0 w1 hb1 hb2 hO
  have h1 := h.only hO (by simp)
  obtain ⟨s, g1, g2⟩ := h1.at_
  obtain ⟨r1, r2, r3, r4, r5⟩ := h.ok |> LedS.rng
  have hlen := g2.len
  obtain ⟨hi1, hi2⟩ := hi
  have hcl := chain_len r5 ⟨r1, r2⟩
  have c0 : ∀ {w' : World} {s : Sl}, Blk w' b 54 [.int .i64 x.i, .int .i64 x.t, s.v] → Cells w' (Addr.add (Addr.add ⟨b, 0, none⟩ 0) 0) [.int .i64 x.i] := fun hb => hb.cellsAt 0 _ rfl
  have c2 : ∀ {w' : World} {s : Sl}, Blk w' b 54 [.int .i64 x.i, .int .i64 x.t, s.v] → Cells w' (Addr.add ⟨b, 0, none⟩ 2) [s.v] := fun hb => hb.cellsAt 2 _ rfl
  refine ⟨x.i, c0 g1, fun he => ?_, fun he => ?_⟩
  · have he : index = x.i := by simpa using he
    refine ⟨x.i, x.t, g1.cellsAt 0 _ rfl, fun w2 hO2 => ⟨?_, hO.new hO2 hb1⟩⟩
    simp [atI, atT, atB, LedS.term, he]
  · have he : index ≠ x.i := by simpa using he
    refine ⟨x.i, c0 g1, x.i, fun _ => c0 g1, s, fun _ => c2 g1, fun hc => ?_, fun hc => ?_⟩
    · intro w2 hO2
      refine ⟨?_, hO.new hO2 hb1⟩
      have hn : x.term index = none := by
        simp only [LedS.term, if_neg he]
        split
        · rfl
        · rename_i hlt
          rw [decide_eq_false hlt, Bool.false_or, decide_eq_true_eq, wr' (by omega) (by omega)] at hc
          rw [List.getElem?_eq_none (by omega)]
          rfl
      simp [atI, atT, atB, hn]
    · intro w2 hO2
      simp only [Bool.or_eq_false_iff, decide_eq_false_iff_not] at hc
      obtain ⟨hc1, hc2⟩ := hc
      rw [wr' (by omega) (by omega)] at hc2
      have h2 := h1.only hO2 (by simp)
      obtain ⟨s2, k1, k2⟩ := h2.at_
      have hwr : IntKind.i64.wrap (IntKind.i64.wrap (index - x.i) - 1) = index - x.i - 1 := by
        rw [wr' (x := index - x.i) (by omega) (by omega), wr' (x := index - x.i - 1) (by omega) (by omega)]
      have hlen2 := k2.len
      obtain ⟨ad, y, cs, m1, m2, m3, m4, m5, d, rfl, m7⟩ := k2.get (i := index - x.i - 1) (by omega) (by omega)
      refine ⟨s2, c2 k1, x.i, c0 k1, ad, by rw [hwr]; exact m1, _, _, _, d, m5, fun b3 w3 hb3 _ hO3 => ⟨?_, (hO.trans hO2 (by simp)).new hO3 hb1⟩⟩
      have hy := chain_at r5 m2
      have hn : x.term index = some y.t := by
        simp only [LedS.term, if_neg he, if_neg hc1, m2, Option.map_some]
      have : y.i = index := by omega
      simp [atI, atT, atB, hn, this]

theorem Led.c0 {w : World} {b : Nat} {i t v : Value} (hb : Blk w b 54 [i, t, v]) : Cells w (Addr.add (Addr.add ⟨b, 0, none⟩ 0) 0) [i] := hb.cellsAt 0 _ rfl
theorem Led.c2 {w : World} {b : Nat} {i t v : Value} (hb : Blk w b 54 [i, t, v]) : Cells w (Addr.add ⟨b, 0, none⟩ 2) [v] := hb.cellsAt 2 _ rfl

theorem base_c {w : World} (p0 p1 : Int) : Calls Try.prog 22 #[.agg #[.int .i64 p0, .int .i64 p1]] w fun e w' => e = .returned (.tuple #[.int .i64 p0, .int .i64 p1]) ∧ Only [] w w' :=
  ret (ledger_point_Base_wp p0 p1 (fun v w' => v = _ ∧ Only [] w w') w fun _ _ _ _ hO => ⟨rfl, hO⟩)

theorem Led.last_in {w : World} {F : Nat → Prop} {b : Nat} {x : LedS} (h : Led w F b x) : 0 ≤ x.i ∧ x.i ≤ 1099511627776 ∧ x.i ≤ x.last ∧ x.last ≤ 1099511627776 := by
  obtain ⟨r1, r2, r3, r4, r5⟩ := LedS.rng h.ok
  have hcl := chain_len r5 ⟨r1, r2⟩
  simp only [LedS.last]
  omega
theorem LedS.term_some {x : LedS} (h : x.ok = true) {j : Int} (h0 : x.i ≤ j) (h1 : j ≤ x.last) : ∃ t, x.term j = some t ∧ x.t ≤ t ∧ t ≤ 1099511627776 := by
  obtain ⟨r1, r2, r3, r4, r5⟩ := LedS.rng h
  simp only [LedS.last] at h1
  by_cases he : j = x.i
  · exact ⟨x.t, by simp [LedS.term, he], by omega, by omega⟩
  · have hl : (j - x.i - 1).toNat < x.es.length := by omega
    have hg := List.getElem?_eq_getElem hl
    obtain ⟨_, g1, g2, _⟩ := chain_at r5 hg
    exact ⟨_, by simp only [LedS.term, if_neg he, if_neg (show ¬ j < x.i by omega), hg, Option.map_some], g1, g2⟩
theorem LedS.term_none {x : LedS} {j : Int} (h : j < x.i ∨ x.last < j) : x.term j = none := by
  simp only [LedS.last] at h
  simp only [LedS.term]
  rw [if_neg (by omega)]
  split
  · rfl
  · rw [List.getElem?_eq_none (by omega)]; rfl
theorem LedS.term_iff {x : LedS} (h : x.ok = true) (j : Int) : atB x j = decide (x.i ≤ j ∧ j ≤ x.last) := by
  by_cases hj : x.i ≤ j ∧ j ≤ x.last
  · obtain ⟨t, ht, _⟩ := LedS.term_some h hj.1 hj.2
    simp [atB, ht, hj]
  · rw [decide_eq_false hj, atB, LedS.term_none (by omega)]; rfl
theorem atI_last {x : LedS} (h : x.ok = true) : atI x x.last = x.last := by
  obtain ⟨t, ht, _⟩ := LedS.term_some h (j := x.last) (by simp only [LedS.last]; omega) (Int.le_refl _)
  simp [atI, ht]

theorem last_c {w : World} {F : Nat → Prop} {b : Nat} {x : LedS} (h : Led w F b x) :
    Calls Try.prog 10 #[.pointer (some ⟨b, 0, none⟩)] w fun e w' => e = .returned (.tuple #[.int .i64 x.last, .int .i64 (atT x x.last)]) ∧ Only [] w w' := by
  refine ret (ledger_Ledger_Last_wp ⟨b, 0, none⟩ (fun v w' => v = _ ∧ Only [] w w') w ?_)
  unfold ledger_Ledger_Last_vc
  obtain ⟨s, g1, g2⟩ := h.at_
  have hlen := g2.len
  obtain ⟨l1, l2, l3, l4⟩ := h.last_in
  have hw : IntKind.i64.wrap (x.i + (s.n : Int)) = x.last := by
    rw [hlen]; exact wr' (by simp only [LedS.last] at l3; omega) (by simp only [LedS.last] at l4; omega)
  have hcall : ∀ {w2 : World}, Led w2 F b x → Calls Try.prog 18 #[.pointer (some ⟨b, 0, none⟩), .int .i64 (IntKind.i64.wrap (x.i + (s.n : Int)))] w2 fun e w' => e = .returned (.tuple #[.agg #[.int .i64 x.last, .int .i64 (atT x x.last)], .bool (atB x x.last)]) ∧ Only [] w2 w' := by
    intro w2 h2
    rw [hw]
    have := at_c h2 x.last ⟨by omega, by omega⟩
    rw [atI_last h.ok] at this
    exact this
  have hbl := g1.lt
  refine ⟨x.i, Led.c0 g1, s, Led.c2 g1, fun k vb vb1 w' => vb = x.last ∧ vb1 = atT x x.last ∧ k < w'.heap.size ∧ Only [] w w', ?_, ?_⟩
  · rintro b1 _ _ w1 ⟨rfl, rfl, hb, hO⟩
    refine (base_c x.last (atT x x.last)).mono ?_
    rintro e w2 ⟨rfl, hO2⟩
    exact ⟨_, _, rfl, hO2.same (by simpa using hb), rfl, hO.tr0 hO2⟩
  · intro w2 hO2
    have h2 := h.only hO2 (by simp)
    have hs2 := hO2.size
    refine ⟨(hcall h2).mono ?_, ?_⟩
    · rintro e w3 ⟨rfl, hO3⟩
      exact ⟨_, _, _, rfl, hO3.same (by simp only [addr_block, List.mem_cons, List.not_mem_nil, or_false]; rintro k (rfl | rfl) <;> exact ⟨by omega, id⟩), fun b1 w5 _ hb5 hO5 => ⟨rfl, rfl, hb5, (hO2.tr0 hO3).tr0 hO5⟩⟩
    · intro b2 w6 hb1 hb2 hO6
      have hs6 := hO6.size
      refine (hcall (h2.only hO6 (by simp))).mono ?_
      rintro e w7 ⟨rfl, hO7⟩
      have hs7 := hO7.size
      refine ⟨_, _, _, rfl, hO7.same (by simp only [addr_block, List.mem_cons, List.not_mem_nil, or_false]; rintro k (rfl | rfl | rfl) <;> exact ⟨by omega, id⟩), fun w8 hO8 => ⟨rfl, rfl, ?_, ((hO2.tr0 hO6).tr0 hO7).new hO8 (Nat.le_trans hO2.size hb1)⟩⟩
      have := hO8.size
      omega

theorem term_c {w : World} {F : Nat → Prop} {b : Nat} {x : LedS} (h : Led w F b x) (index : Int) (hi : InI index) :
    Calls Try.prog 23 #[.pointer (some ⟨b, 0, none⟩), .int .i64 index] w fun e w' => e = .returned (.tuple #[.int .i64 (atT x index), .bool (atB x index)]) ∧ Only [] w w' := by
  refine ret (ledger_Ledger_Term_wp ⟨b, 0, none⟩ index (fun v w' => v = _ ∧ Only [] w w') w ?_)
  unfold ledger_Ledger_Term_vc
  refine (at_c h index hi).mono ?_
  rintro e w1 ⟨rfl, hO⟩
  exact ⟨_, _, _, rfl, fun _ _ _ _ hO2 => ⟨rfl, hO.tr0 hO2⟩⟩

/-! ## copies -/
theorem bclone_c {w : World} {F : Nat → Prop} {s : Sl} {l : List UInt8} (h : SliceF rByte 1 w F s l) (hm : l.length ≤ 140737488355328) :
    Calls Try.prog 26 #[Sl.v s] w fun e w' => ∃ s' : Sl, e = .returned s'.v ∧ Own rByte 1 5 w.heap.size w' (fun _ => False) s' l ∧ Only [] w w' ∧ s'.a.isNone = s.a.isNone := by
  refine (bytes_Clone_wp s (fun v w' => ∃ s' : Sl, v = s'.v ∧ Own rByte 1 5 w.heap.size w' (fun _ => False) s' l ∧ Only [] w w' ∧ s'.a.isNone = s.a.isNone) w ?_).mono (by
    rintro e w' ⟨v, rfl, s', rfl, h⟩; exact ⟨s', rfl, h⟩)
  unfold bytes_Clone_vc
  refine ⟨fun hc => ?_, fun hc => ?_⟩
  · have ha : s.a = none := by simpa using hc
    have : l = [] := by
      have h0 := h.nil0 ha
      have := h.cap
      exact List.eq_nil_of_length_eq_zero (by rw [← h.len]; omega)
    subst this
    exact ⟨Sl.nil, rfl, Own.nil _ _ _ _ _ _, Only.refl _ _, by rw [hc]; rfl⟩
  · have key := clone_own (P := Try.prog) (t := 32) (ty := 32) (e := 5) (i := Try.t5) (z := .int .u8 0) (bytes := 1) (by kernel_rfl) (by kernel_rfl) rfl rfl rfl rfl (by decide) rByte_ok h (by simpa using hm) (by decide)
    obtain ⟨x1, w1, k1, x2, w2, k2, k3, k4, k5⟩ := key
    refine ⟨x1, w1, k1, x2, w2, k2, x2, rfl, ?_, k4, ?_⟩
    · exact k3.bytes
    · rw [hc]
      cases hx : x2.a with
      | none => exact absurd hx k5
      | some a => rfl

theorem eclone_c {w : World} {F : Nat → Prop} {s : Sl} {l : List Ent} (h : Ents w F s l) (hm : l.length * 48 ≤ 140737488355328) :
    Calls Try.prog 25 #[Sl.v s] w fun e w' => ∃ s' : Sl, e = .returned s'.v ∧ Own rEnt 4 34 w.heap.size w' F s' l ∧ Only [] w w' := by
  refine (slices_Clone_api_Entry_wp s (fun v w' => ∃ s' : Sl, v = s'.v ∧ Own rEnt 4 34 w.heap.size w' F s' l ∧ Only [] w w') w ?_).mono (by
    rintro e w' ⟨v, rfl, s', rfl, h⟩; exact ⟨s', rfl, h⟩)
  unfold slices_Clone_api_Entry_vc
  refine ⟨fun hc => ?_, fun hc => ?_⟩
  · have ha : s.a = none := by simpa using hc
    have : l = [] := by
      have h0 := h.nil0 ha
      have := h.cap
      exact List.eq_nil_of_length_eq_zero (by rw [← h.len]; omega)
    subst this
    exact ⟨Sl.nil, rfl, Own.nil _ _ _ _ _ _, Only.refl _ _⟩
  · have key := clone_own (P := Try.prog) (t := 22) (ty := 22) (e := 34) (i := Try.t34) (bytes := 48) (by kernel_rfl) (by kernel_rfl) rfl rfl rfl rfl (by decide) rEnt_ok h hm (by decide)
    obtain ⟨x1, w1, k1, x2, w2, k2, k3, k4, k5⟩ := key
    exact ⟨x1, w1, k1, x2, w2, k2, x2, rfl, k3, k4⟩

/-- entries in other memory: all of it new -/
theorem copied_c {w : World} {F : Nat → Prop} {s : Sl} {l : List Ent} (h : Ents w F s l) (hm : l.length * 48 ≤ 140737488355328) :
    Calls Try.prog 16 #[Sl.v s] w fun e w' => ∃ s' : Sl, e = .returned s'.v ∧ Own rEnt 4 34 w.heap.size w' (fun k => w.heap.size ≤ k) s' l ∧ Only [] w w' := by
  refine (ledger_copied_wp s (fun v w' => ∃ s' : Sl, v = s'.v ∧ Own rEnt 4 34 w.heap.size w' (fun k => w.heap.size ≤ k) s' l ∧ Only [] w w') w ?_).mono (by
    rintro e w' ⟨v, rfl, s', rfl, h⟩; exact ⟨s', rfl, h⟩)
  unfold ledger_copied_vc
  refine (eclone_c (h.inHeap rEnt_ok (by decide)) hm).mono ?_
  rintro e w1 ⟨x1, rfl, hown, hO1⟩
  refine ⟨x1, rfl, ?_⟩
  have hlen := hown.len
  rcases hown with ⟨rfl, rfl⟩ | ⟨g, css, tail, h1, h2, h4, h5, h6, h7, h9, h8⟩
  · refine ⟨fun nv t w' => t = 0 ∧ Only [] w w', 0, ⟨rfl, hO1⟩, ?_⟩
    rintro nv _ w2 ⟨rfl, hO2⟩
    exact ⟨fun hc => by simp [Sl.nil] at hc, fun _ => ⟨Sl.nil, rfl, Own.nil _ _ _ _ _ _, hO2⟩⟩
  · refine ⟨fun nv t w' => ∃ n : Nat, n ≤ l.length ∧ t = (n : Int) ∧ nv = l.length - n ∧ Only [] w w' ∧ ∃ css, Blk w' g 34 (css.flatten ++ tail) ∧ Els rEnt 4 w' (fun k => w.heap.size ≤ k ∧ k ≠ g) (l.take n) (css.take n) ∧ Els rEnt 4 w' (fun k => F k ∧ k < w.heap.size) (l.drop n) (css.drop n),
      l.length, ⟨0, Nat.zero_le _, rfl, rfl, hO1, css, h4, by simp only [List.take_zero]; trivial, by simpa using h8.mono rEnt_ok fun k hk => hk.1⟩, ?_⟩
    rintro nv _ w2 ⟨n, hn, rfl, rfl, hO2, css, k1, k2, k3⟩
    refine ⟨fun hc => ?_, fun hc => ?_⟩
    · have hlt : (n : Int) < x1.n := of_decide_eq_true hc
      have hn' : n < l.length := by omega
      have hdl : l.drop n = l[n] :: l.drop (n + 1) := List.drop_eq_getElem_cons hn'
      cases hcd : css.drop n with
      | nil => rw [hdl, hcd] at k3; exact k3.elim
      | cons c cr =>
        rw [hdl, hcd] at k3
        obtain ⟨⟨m1, d, rfl, m2, m3, m4, m5, m6⟩, k4⟩ := k3
        have hcn : css[n]? = some [.int .i64 l[n].i, .int .i64 l[n].t, .int .i64 l[n].k, d.v] := by
          rw [← List.head?_drop, hcd]; rfl
        have hcr : css.drop (n + 1) = cr := by
          rw [← List.drop_drop, hcd]; rfl
        have hsz : ∀ c, c ∈ css → c.length = 4 := by
          have h1 := k2.sz
          have h2 : ∀ c, c ∈ css.drop n → c.length = 4 := by
            rw [hcd]
            intro c hc
            rcases List.mem_cons.1 hc with rfl | hc
            · rfl
            · exact Els.sz k4 c hc
          intro c hc
          rw [← List.take_append_drop n css] at hc
          rcases List.mem_append.1 hc with hc | hc
          · exact h1 c hc
          · exact h2 c hc
        have hat : SlAt x1 (n : Int) 4 ⟨g, n * 4, none⟩ := ⟨_, h1, by omega, hlt, by rw [addr_lit, Int.toNat_natCast, Nat.zero_add]⟩
        refine ⟨_, hat, d, ?_, ?_⟩
        · rw [addr_lit]
          refine k1.cells _ _ fun j v hj => ?_
          have h0 : j = 0 := by
            cases j with
            | zero => rfl
            | succ j => simp at hj
          subst h0
          simp only [List.getElem?_cons_zero, Option.some.injEq] at hj
          subst hj
          rw [List.getElem?_append_left]
          · exact flat_at hsz hcn rfl
          · exact (List.getElem?_eq_some_iff.1 (flat_at hsz hcn (i := 3) rfl)).1
        · refine (bclone_c m5 m6).mono ?_
          rintro e w3 ⟨x3, rfl, n1, n2, n3⟩
          have hgl := k1.lt
          have hgs := hO2.size
          have k1' : Blk w3 g 34 (css.flatten ++ tail) := n2.blk k1 (by simp)
          refine ⟨x3, rfl, _, hat, g, n * 4 + 3, css.flatten ++ tail, 34, by rw [addr_lit], k1', ?_, ?_⟩
          · have := (List.getElem?_eq_some_iff.1 (flat_at hsz hcn (i := 3) (v := d.v) rfl)).1
            rw [List.length_append]; omega
          · intro w4 hO4 hb4
            rw [splice_one (by
              have := (List.getElem?_eq_some_iff.1 (flat_at hsz hcn (i := 3) (v := d.v) rfl)).1
              rw [List.length_append]; omega), flat_set hsz hcn (by decide)] at hb4
            rw [wr' (x := (n : Int) + 1) (by omega) (by have := h7; omega)]
            have hsl3 := n1.slice rByte_ok
            have hO3' : Only [] w w3 := hO2.tr0 n2
            refine ⟨l.length - (n + 1), by omega, n + 1, by omega, by omega, rfl, hO3'.new hO4 h2, _, hb4, ?_, ?_⟩
            · rw [List.take_add_one, List.take_add_one, List.take_set_of_le (Nat.le_refl _), List.getElem?_set_self (List.getElem?_eq_some_iff.1 hcn).1, List.getElem?_eq_getElem hn']
              refine All2.app ?_ ⟨⟨rfl, x3, rfl, m2, m3, m4, ?_, m6⟩, trivial⟩
              · exact (Els.keep rEnt_ok k2 fun k hk hlt => (n2.block k hlt (by simp))).keep rEnt_ok fun k hk hlt => hO4.block k hlt (by simpa using hk.2)
              · refine ((hsl3.inHeap rByte_ok (by decide)).keep rByte_ok (by decide) fun k hk hlt => ?_).mono rByte_ok fun k hk => ?_
                · rcases hk with ⟨hk | hk, _⟩
                  · exact hk.elim
                  · exact hO4.block k hlt (by simp; omega)
                · rcases hk with ⟨hk | hk, _⟩
                  · exact hk.elim
                  · exact ⟨by omega, by omega⟩
            · rw [List.drop_set_of_lt (Nat.lt_succ_self n), hcr]
              exact (Els.keep rEnt_ok k4 fun k hk hlt => (n2.block k hlt (by simp))).keep rEnt_ok fun k hk hlt => hO4.block k hlt (by simp; omega)
    · have hge : ¬ ((n : Int) < x1.n) := of_decide_eq_false hc
      have hnl : n = l.length := by omega
      subst hnl
      refine ⟨x1, rfl, .inr ⟨g, css, tail, h1, h2, k1, h5, h6, h7, h9, ?_⟩, hO2⟩
      have hdr : css.drop l.length = [] := by
        cases hcd : css.drop l.length with
        | nil => rfl
        | cons c cr => rw [List.drop_length, hcd] at k3; exact k3.elim
      have := List.take_append_drop l.length css
      rw [hdr, List.append_nil] at this
      rw [List.take_length, this] at k2
      exact k2

/-! ## Slice -/
def sliceS (x : LedS) (fr most : Int) : List Ent := (x.es.drop (if fr > x.i then (fr - x.i - 1).toNat else 0)).take most.toNat

theorem slice_c {w : World} {F : Nat → Prop} {b : Nat} {x : LedS} (h : Led w F b x) (fr most : Int) (hf : InI fr) (hm : InI most) :
    Calls Try.prog 9 #[.pointer (some ⟨b, 0, none⟩), .int .i64 fr, .int .i64 most] w fun e w' => ∃ s' : Sl, e = .returned s'.v ∧ Own rEnt 4 34 w.heap.size w' (fun k => w.heap.size ≤ k) s' (sliceS x fr most) ∧ Only [] w w' := by
  refine (ledger_Ledger_Slice_wp ⟨b, 0, none⟩ fr most (fun v w' => ∃ s' : Sl, v = s'.v ∧ Own rEnt 4 34 w.heap.size w' (fun k => w.heap.size ≤ k) s' (sliceS x fr most) ∧ Only [] w w') w ?_).mono (by
    rintro e w' ⟨v, rfl, s', rfl, h⟩; exact ⟨s', rfl, h⟩)
  unfold ledger_Ledger_Slice_vc
  obtain ⟨s, g1, g2⟩ := h.at_
  obtain ⟨l1, l2, l3, l4⟩ := h.last_in
  simp only [LedS.last] at l3 l4
  have hlen := g2.len
  have hcap := g2.cap
  have hbig := g2.big
  obtain ⟨hf1, hf2⟩ := hf
  refine ⟨fun k w' => Only [] w w' ∧ k = (min (if fr > x.i then (fr - x.i - 1).toNat else 0) s.n : Nat), ?_, x.i, Led.c0 g1, fun hc => ?_, fun hc => ?_⟩
  · rintro k w1 ⟨hO, rfl⟩
    refine ⟨s, Led.c2 (hO.blk g1 (by simp)), min (if fr > x.i then (fr - x.i - 1).toNat else 0) s.n, ⟨rfl, Nat.min_le_right _ _, hcap, Nat.le_refl _⟩, ?_⟩
    generalize hlo : min (if fr > x.i then (fr - x.i - 1).toNat else 0) s.n = lo
    have hlo' : lo ≤ s.n := by omega
    have hcn : (Sl.cut s lo s.n s.c 4).n = s.n - lo := rfl
    have hcc : (Sl.cut s lo s.n s.c 4).c = s.c - lo := rfl
    refine ⟨min most.toNat (s.n - lo), ⟨?_, Nat.zero_le _, ?_, Nat.le_refl _⟩, ?_⟩
    · rw [hcn]
      by_cases h1 : 0 > most
      · simp only [if_pos h1]; split <;> omega
      · simp only [if_neg h1]; split <;> omega
    · rw [hcc]; omega
    have hs1 := ((g2.only hO (by simp)).cut (lo := lo) (hi := s.n) (m := s.c) hlo' hcap (Nat.le_refl _) (Nat.le_refl _))
    have hs2 := hs1.cut (lo := 0) (hi := min most.toNat (s.n - lo)) (m := (Sl.cut s lo s.n s.c 4).c) (Nat.zero_le _) (by rw [hcc]; omega) (by rw [hcn]; omega) (Nat.le_refl _)
    have hlist : ((((x.es.drop lo).take (s.n - lo)).drop 0).take (min most.toNat (s.n - lo) - 0)) = sliceS x fr most := by
      simp only [sliceS, List.drop_zero, Nat.sub_zero, List.take_take]
      have h1 : (x.es.drop lo).take (min (min most.toNat (s.n - lo)) (s.n - lo)) = (x.es.drop lo).take most.toNat := by
        apply List.ext_getElem?
        intro i
        simp only [List.getElem?_take, List.getElem?_drop]
        by_cases hi : i < most.toNat
        · by_cases hi2 : i < s.n - lo
          · rw [if_pos (by omega), if_pos hi]
          · rw [if_neg (by omega), if_pos hi, List.getElem?_eq_none (by omega)]
        · rw [if_neg (by omega), if_neg hi]
      rw [h1]
      congr 1
      rw [← hlo]
      by_cases hk : (if fr > x.i then (fr - x.i - 1).toNat else 0) ≤ s.n
      · rw [Nat.min_eq_left hk]
      · rw [Nat.min_eq_right (by omega), List.drop_eq_nil_of_le (by omega), List.drop_eq_nil_of_le (by omega)]
    rw [hlist] at hs2
    refine (copied_c hs2 ?_).mono ?_
    · rw [← hlist]
      simp only [List.length_take, List.length_drop]
      omega
    · rintro e w2 ⟨s', rfl, k1, k2⟩
      exact ⟨s', rfl, s', rfl, (k1.low hO.size).mono rEnt_ok fun k hk => Nat.le_trans hO.size hk, hO.tr0 k2⟩
  · have hc : fr > x.i := of_decide_eq_true hc
    refine ⟨x.i, Led.c0 g1, s, Led.c2 g1, fun w1 hO => ⟨hO, ?_⟩⟩
    rw [wr' (x := fr - x.i) (by omega) (by omega), wr' (x := fr - x.i - 1) (by omega) (by omega), if_pos hc]
    split <;> omega
  · have hc : ¬ fr > x.i := of_decide_eq_false hc
    refine ⟨Only.refl _ _, ?_⟩
    rw [if_neg hc]
    simp

/-! ## Put -/
def lastT : Int → List Ent → Int
  | t, [] => t
  | _, e :: es => lastT e.t es
theorem lastT_snoc : ∀ (t : Int) (es : List Ent) (e : Ent), lastT t (es ++ [e]) = e.t
  | _, [], _ => rfl
  | _, x :: es, e => lastT_snoc x.t es e
theorem chain_app : ∀ {xs ys : List Ent} {i t : Int}, chain i t (xs ++ ys) = (chain i t xs && chain (i + xs.length) (lastT t xs) ys)
  | [], ys, i, t => by simp [chain, lastT]
  | x :: xs, ys, i, t => by
    simp only [List.cons_append, chain, lastT]
    rw [chain_app]
    by_cases hx : x.i = i + 1
    · rw [show x.i + (xs.length : Int) = i + ((x :: xs).length : Int) by simp only [List.length_cons]; omega]
      simp only [Bool.and_assoc]
    · rw [decide_eq_false hx]
      simp
theorem chain_take {es : List Ent} {i t : Int} (h : chain i t es = true) (k : Nat) : chain i t (es.take k) = true := by
  rw [← List.take_append_drop k es, chain_app, Bool.and_eq_true] at h
  exact h.1
theorem lastT_take {x : LedS} {k : Nat} (hk : k ≤ x.es.length) : lastT x.t (x.es.take k) = atT x (x.i + k) := by
  cases k with
  | zero => simp [lastT, atT, LedS.term]
  | succ k =>
    have hl : k < x.es.length := by omega
    have : x.es.take (k + 1) = x.es.take k ++ [x.es[k]] := by
      rw [List.take_add_one, List.getElem?_eq_getElem hl]; rfl
    rw [this, lastT_snoc]
    simp only [atT, LedS.term]
    rw [if_neg (by omega), if_neg (by omega), show (x.i + ((k + 1 : Nat) : Int) - x.i - 1).toNat = k by omega, List.getElem?_eq_getElem hl]
    rfl
/-- what Put answers, and the ledger then -/
def putBad (x : LedS) (e : Ent) (es : List Ent) : Bool := decide (e.i ≤ x.i) || !atB x (IntKind.i64.wrap (e.i - 1)) || !fitsS (atI x (IntKind.i64.wrap (e.i - 1))) (atT x (IntKind.i64.wrap (e.i - 1))) (e :: es)
def putE (x : LedS) : List Ent → Int
  | [] => 0
  | e :: es => if putBad x e es then 1 else 0
def putS (x : LedS) : List Ent → LedS
  | [] => x
  | e :: es => if putBad x e es then x else ⟨x.i, x.t, x.es.take (e.i - 1 - x.i).toNat ++ e :: es⟩
theorem putGood {x : LedS} {e : Ent} {es : List Ent} (hx : x.ok = true) (he : InI e.i) (h : putBad x e es = false) :
    IntKind.i64.wrap (e.i - 1) = e.i - 1 ∧ x.i ≤ e.i - 1 ∧ e.i - 1 ≤ x.last ∧ fitsS (e.i - 1) (atT x (e.i - 1)) (e :: es) = true := by
  obtain ⟨r1, r2, r3, r4, r5⟩ := LedS.rng hx
  obtain ⟨e1, e2⟩ := he
  simp only [putBad, Bool.or_eq_false_iff, decide_eq_false_iff_not, Bool.not_eq_false'] at h
  obtain ⟨⟨h1, h2⟩, h3⟩ := h
  rw [wr' (by omega) (by omega)] at h2 h3
  rw [LedS.term_iff hx, decide_eq_true_eq] at h2
  refine ⟨wr' (by omega) (by omega), h2.1, h2.2, ?_⟩
  have : atI x (e.i - 1) = e.i - 1 := by
    obtain ⟨t, ht, _⟩ := LedS.term_some hx h2.1 h2.2
    simp [atI, ht]
  rwa [this] at h3
theorem putS_ok {x : LedS} {es : List Ent} (hx : x.ok = true) (he : ∀ e, e ∈ es → InI e.i) : (putS x es).ok = true := by
  cases es with
  | nil => exact hx
  | cons e es =>
    simp only [putS]
    split
    · exact hx
    · rename_i h
      rw [Bool.not_eq_true] at h
      obtain ⟨h1, h2, h3, h4⟩ := putGood hx (he e (by simp)) h
      obtain ⟨r1, r2, r3, r4, r5⟩ := LedS.rng hx
      simp only [LedS.last] at h3
      have hk : (e.i - 1 - x.i).toNat ≤ x.es.length := by omega
      have hlen : (x.es.take (e.i - 1 - x.i).toNat).length = (e.i - 1 - x.i).toNat := by rw [List.length_take]; omega
      simp only [LedS.ok, fitsS, Bool.and_eq_true, decide_eq_true_eq]
      refine ⟨⟨⟨⟨r1, r2⟩, r3⟩, r4⟩, ?_⟩
      rw [chain_app, chain_take r5, Bool.true_and, lastT_take hk]
      simp only [fitsS, Bool.and_eq_true] at h4
      rw [hlen]
      rw [show x.i + ((e.i - 1 - x.i).toNat : Int) = e.i - 1 by omega]
      exact h4.2

theorem put_c {w : World} {F G : Nat → Prop} {b : Nat} {x : LedS} {row : Sl} {es : List Ent} (h : Led w F b x) (hr : Ents w G row es) (hGb : ¬ G b) :
    Calls Try.prog 8 #[.pointer (some ⟨b, 0, none⟩), Sl.v row] w fun e w' => e = .returned (.int .i64 (putE x es)) ∧ Led w' (fun k => F k ∨ w.heap.size ≤ k) b (putS x es) ∧ Only [b] w w' := by
  refine ret (ledger_Ledger_Put_wp ⟨b, 0, none⟩ row (fun v w' => v = _ ∧ Led w' (fun k => F k ∨ w.heap.size ≤ k) b (putS x es) ∧ Only [b] w w') w ?_)
  unfold ledger_Ledger_Put_vc
  have hrl := hr.len
  have keepF : ∀ {w' : World}, Only [] w w' → Led w' (fun k => F k ∨ w.heap.size ≤ k) b x := fun hO => (h.only hO (by simp)).mono fun k hk => .inl hk
  refine ⟨fun hc => ?_, fun hc => ?_⟩
  · have h0 : row.n = 0 := by simpa using hc
    have : es = [] := List.eq_nil_of_length_eq_zero (by omega)
    subst this
    exact ⟨rfl, keepF (Only.refl _ _), Only.refl _ _⟩
  · have h0 : row.n ≠ 0 := by simpa using hc
    cases es with
    | nil => simp at hrl; omega
    | cons e es =>
      have hget : ∀ {w' : World}, Only [] w w' → ∃ ad d, SlAt row 0 4 ad ∧ Cells w' ad [.int .i64 e.i, .int .i64 e.t, .int .i64 e.k, d] ∧ InI e.i := by
        intro w' hO
        have h1 := hr.only hO (by simp)
        obtain ⟨ad, y, cs, g1, g2, g3, g4, g5, d, rfl, g6⟩ := h1.get (i := 0) (Int.le_refl _) (by omega)
        simp only [Int.toNat_zero, List.getElem?_cons_zero, Option.some.injEq] at g2
        subst g2
        exact ⟨ad, d.v, g1, g5, g6.i⟩
      obtain ⟨ad, d, g1, g2, g3⟩ := hget (Only.refl [] w)
      obtain ⟨s, l1, l2⟩ := h.at_
      have hbl := l1.lt
      refine ⟨ad, g1, e.i, g2.at1 0 _ rfl, ?_⟩
      refine (at_c h _ (wrapIn _)).mono ?_
      rintro _ w1 ⟨rfl, hO1⟩
      refine ⟨_, _, _, rfl, ?_⟩
      intro b2 w2 hb1 hb2 hO2
      have hO02 := hO1.tr0 hO2
      obtain ⟨ad', d', k1, k2, _⟩ := hget hO02
      refine ⟨ad', k1, e.i, k2.at1 0 _ rfl, x.i, Led.c0 (hO02.blk l1 (by simp)), fun t w' => t = putBad x e es ∧ Only [] w2 w', ?_, ?_⟩
      · rintro _ w3 ⟨rfl, hO23⟩
        have hO3 := hO02.tr0 hO23
        refine ⟨fun hb => ?_, fun hb => ?_⟩
        · refine ⟨?_, ?_, hO3.weaken (by simp)⟩
          · simp only [putE, if_pos hb]
          · simp only [putS, if_pos hb]; exact keepF hO3
        · obtain ⟨p1, p2, p3, p4⟩ := putGood h.ok g3 hb
          obtain ⟨r1, r2, r3, r4, r5⟩ := LedS.rng h.ok
          have haI : atI x (IntKind.i64.wrap (e.i - 1)) = e.i - 1 := by
            rw [p1]
            obtain ⟨t, ht, _⟩ := LedS.term_some h.ok p2 p3
            simp [atI, ht]
          have hsl := l2.len
          have hsc := l2.cap
          simp only [LedS.last] at p3
          have hk : (IntKind.i64.wrap (e.i - 1 - x.i)) = ((e.i - 1 - x.i).toNat : Int) := by rw [wr' (by have := g3.1; have := g3.2; omega) (by have := g3.1; have := g3.2; omega)]; omega
          rw [haI]
          refine ⟨s, Led.c2 (hO3.blk l1 (by simp)), x.i, Led.c0 (hO3.blk l1 (by simp)), x.i, Led.c0 (hO3.blk l1 (by simp)), (e.i - 1 - x.i).toNat, (e.i - 1 - x.i).toNat, ⟨hk, hk, Nat.zero_le _, Nat.le_refl _, by omega⟩, ?_⟩
          intro w4 hO4
          have hO04 := hO3.tr0 hO4
          have hfits := p4
          simp only [fitsS, Bool.and_eq_true, decide_eq_true_eq] at hfits
          have hcl := chain_len hfits.2 ⟨hfits.1.1.1.1, hfits.1.1.1.2⟩
          have hrow : Ents w4 (fun k => G k ∧ k < w.heap.size) row (e :: es) := Ents.only (hr.inHeap rEnt_ok (by decide)) hO04 (by simp)
          refine (copied_c hrow (by omega)).mono ?_
          rintro _ w5 ⟨x7, rfl, q1, q2⟩
          have hO05 := hO04.tr0 q2
          have hs4 := hO04.size
          have hs5 := hO05.size
          have hs45 := q2.size
          have hs01 := hO1.size
          have hbk : b2 < w4.heap.size := by have := hO23.size; have := hO4.size; omega
          refine ⟨x7, rfl, q2.same (by simp only [addr_block, List.mem_cons, List.not_mem_nil, or_false]; rintro k (rfl | rfl | rfl) <;> exact ⟨by omega, id⟩), ?_⟩
          have hold : Ents w5 (fun k => F k ∧ k ≠ b) s x.es := l2.only hO05 (by simp)
          have hcut := (hold.inHeap rEnt_ok (by decide)).cut (lo := 0) (hi := (e.i - 1 - x.i).toNat) (m := (e.i - 1 - x.i).toNat) (Nat.zero_le _) (Nat.le_refl _) (by omega) (by omega)
          simp only [List.drop_zero, Nat.sub_zero] at hcut
          have hx7 := q1.slice rEnt_ok
          have hxl := q1.len
          simp only [List.length_cons] at hxl hcl
          have hadd := app_grow (P := Try.prog) (t := 22) (ty := 22) (e := 34) (i := Try.t34) (bytes := 48) (F := fun k => (F k ∨ w.heap.size ≤ k) ∧ k ≠ b) (by kernel_rfl) (by kernel_rfl) rfl rfl rfl rfl rEnt_ok (hcut.mono rEnt_ok fun k hk => ⟨.inl hk.1.1, hk.1.2⟩)
            (hx7.mono rEnt_ok fun k hk => by have : w4.heap.size ≤ k := hk.elim id fun h => h.1
                                             exact ⟨.inr (by omega), by omega⟩) (by simp only [Sl.cut]; omega)
            (by simp only [List.length_take, List.length_cons]; omega) (by decide)
          obtain ⟨x8, w6, t1, t2, t3, t4⟩ := hadd
          have hb6 : Blk w6 b 54 [.int .i64 x.i, .int .i64 x.t, s.v] := (hO05.tr0 t3).blk l1 (by simp)
          refine ⟨x8, w6, t1, t3.same (by simp; omega), b, 2, _, 54, rfl, hb6, by simp, by omega, ?_⟩
          intro w7 hO7 hb7
          refine ⟨?_, ⟨putS_ok h.ok fun y hy => ?_, .inl h.fb, x8, ?_, ?_⟩, (hO05.tr0 t3).weaken (by simp) |>.mem hO7 (by simp)⟩
          · simp only [putE]; rw [if_neg (by rw [hb]; decide)]
          · obtain ⟨_, d, _, g⟩ := hr.mem hy
            exact g.i
          · simp only [putS]; rw [if_neg (by rw [hb]; decide)]
            exact hb7
          · simp only [putS]; rw [if_neg (by rw [hb]; decide)]
            have := (t2.slice rEnt_ok).mono rEnt_ok (G := fun k => (F k ∨ w.heap.size ≤ k) ∧ k ≠ b) fun k hk => hk.elim id fun h => ⟨.inr (by omega), by omega⟩
            exact this.keep rEnt_ok (by decide) fun k hk hlt => hO7.block k hlt (by simpa using hk.2)
      · intro w8 hO8
        have hO08 := hO02.tr0 hO8
        have hs8 := hO8.size
        refine ⟨fun hc => ⟨by simp only [putBad, hc, Bool.true_or], hO8⟩, fun hc => ⟨fun hc2 => ⟨by simp only [putBad, hc, hc2, Bool.false_or, Bool.true_or], hO8⟩, fun hc2 => ?_⟩⟩
        refine (fits_c (hr.only hO08 (by simp)) _ _).mono ?_
        rintro _ w9 ⟨rfl, hO9⟩
        exact ⟨_, rfl, hO9.same (by simp; omega), by simp only [putBad, hc, hc2, Bool.false_or], hO8.tr0 hO9⟩

/-! ## New -/
theorem new_c {w : World} {F : Nat → Prop} {l : Sl} {es : List Ent} (hl : Ents w F l es) (base term : Int) :
    Calls Try.prog 6 #[.int .i64 base, .int .i64 term, Sl.v l] w fun e w' => Only [] w w' ∧
      (fitsS base term es = false → e = .returned (.tuple #[.pointer none, .int .i64 1])) ∧
      (fitsS base term es = true → ∃ b, w.heap.size ≤ b ∧ e = .returned (.tuple #[.pointer (some ⟨b, 0, none⟩), .int .i64 0]) ∧ Led w' (fun k => w.heap.size ≤ k) b ⟨base, term, es⟩) := by
  refine (ledger_New_wp base term l (fun v w' => Only [] w w' ∧
      (fitsS base term es = false → v = (.tuple #[.pointer none, .int .i64 1])) ∧
      (fitsS base term es = true → ∃ b, w.heap.size ≤ b ∧ v = (.tuple #[.pointer (some ⟨b, 0, none⟩), .int .i64 0]) ∧ Led w' (fun k => w.heap.size ≤ k) b ⟨base, term, es⟩)) w ?_).mono (by
    rintro e w' ⟨v, rfl, h1, h2, h3⟩
    exact ⟨h1, fun h => by rw [h2 h], fun h => by obtain ⟨b, g1, g2, g3⟩ := h3 h; exact ⟨b, g1, by rw [g2], g3⟩⟩)
  unfold ledger_New_vc
  intro b w1 hb1 hb2 hO1
  have hl1 := Ents.only (hl.inHeap rEnt_ok (by decide)) hO1 (by simp)
  refine (fits_c hl1 base term).mono ?_
  rintro _ w2 ⟨rfl, hO2⟩
  refine ⟨_, rfl, hO2.same (by simp; omega), fun hc => ?_, fun hc => ?_⟩
  · have hc : fitsS base term es = false := by simpa using hc
    exact ⟨hO1.tr0 hO2, fun _ => rfl, fun h => by rw [hc] at h; cases h⟩
  · have hc : fitsS base term es = true := by simpa using hc
    intro w3 hO3
    have hO23 := hO2.tr0 hO3
    have hs23 := hO23.size
    have hO03 := hO1.tr0 hO23
    have hs03 := hO03.size
    have hf := LedS.rng (x := ⟨base, term, es⟩) hc
    have hcl := chain_len hf.2.2.2.2 ⟨hf.1, hf.2.1⟩
    have hf1 := hf.1
    dsimp only at hcl hf1
    refine (copied_c (hl1.only hO23 (by simp)) (by omega)).mono ?_
    rintro _ w4 ⟨x2, rfl, k1, k2⟩
    refine ⟨x2, rfl, k2.same (by simp; omega), ?_⟩
    intro b1 w5 hb3 hb4 hO5 hb5
    have hO05 := (hO03.tr0 k2).tr0 hO5
    have hs4 := (hO03.tr0 k2).size
    refine ⟨hO05, fun h => (by rw [hc] at h; cases h), fun _ => ⟨b1, by omega, rfl, hc, by omega, x2, hb5, ?_⟩⟩
    have hsl := (k1.slice rEnt_ok).inHeap rEnt_ok (by decide)
    refine (Ents.only hsl hO5 (by simp)).mono rEnt_ok fun k hk => ?_
    have h1 : w3.heap.size ≤ k := hk.1.elim id fun h => h.1
    exact ⟨by omega, by have := hk.2; omega⟩

/-! ## IndexFunc -/
def findI (p : Ent → Bool) (es : List Ent) : Int := if es.findIdx p < es.length then (es.findIdx p : Int) else -1
theorem index_c {w : World} {F : Nat → Prop} {s : Sl} {es : List Ent} (hs : Ents w F s es) {fid : FuncId} {cap : List Value} (p : Ent → Bool)
    (hf : ∀ (args : Array Value) (w : World), (callFunc fid args).run Try.prog w = .ok (.enter fid args) w)
    (hcall : ∀ (w' : World) (e : Ent) (d : Sl), Only [] w w' → InI e.i → InI e.t → Calls Try.prog fid (([.agg #[.int .i64 e.i, .int .i64 e.t, .int .i64 e.k, Sl.v d]] : List Value) ++ cap).toArray w' fun r w'' => r = .returned (.bool (p e)) ∧ Only [] w' w'') :
    Calls Try.prog 19 #[Sl.v s, .func (.func fid) #[] cap.toArray] w fun e w' => e = .returned (.int .i64 (findI p es)) ∧ Only [] w w' := by
  refine ret (slices_IndexFunc_api_Entry_wp s _ (fun v w' => v = _ ∧ Only [] w w') w ?_)
  unfold slices_IndexFunc_api_Entry_vc
  have hlen := hs.len
  have hcap := hs.cap
  have hbig := hs.big
  refine ⟨fun nv t w' => ∃ n : Nat, n ≤ es.length ∧ t = (n : Int) ∧ nv = es.length - n ∧ (∀ j (hj : j < es.length), j < n → p es[j] = false) ∧ Only [] w w', es.length, ⟨0, Nat.zero_le _, rfl, rfl, fun j _ h => by omega, Only.refl _ _⟩, ?_⟩
  rintro nv _ w1 ⟨n, hn, rfl, rfl, hp, hO⟩
  refine ⟨fun hc => ?_, fun hc => ?_⟩
  · have hlt : (n : Int) < s.n := of_decide_eq_true hc
    have hn' : n < es.length := by omega
    obtain ⟨ad, x, cs, g1, g2, g3, g4, g5, d, rfl, g6⟩ := (hs.only hO (by simp)).get (Int.natCast_nonneg n) hlt
    rw [Int.toNat_natCast, List.getElem?_eq_getElem hn'] at g2
    injection g2 with g2
    subst g2
    refine ⟨ad, g1, _, _, _, d, g5, fid, cap, rfl, hf, (hcall w1 _ d hO g6.i g6.t).mono ?_⟩
    rintro _ w2 ⟨rfl, hO2⟩
    refine ⟨_, rfl, fun ht => ?_, fun hf => ?_⟩
    · have : es.findIdx p = n := (List.findIdx_eq hn').2 ⟨ht, fun j hj => hp j (by omega) hj⟩
      refine ⟨?_, hO.tr0 hO2⟩
      simp only [findI, this, if_pos hn']
    · rw [wr' (x := (n : Int) + 1) (by omega) (by omega)]
      refine ⟨es.length - (n + 1), by omega, n + 1, by omega, by omega, rfl, fun j hj hjn => ?_, hO.tr0 hO2⟩
      by_cases hj2 : j < n
      · exact hp j hj hj2
      · have : j = n := by omega
        subst this
        exact hf
  · have hge : ¬ ((n : Int) < s.n) := of_decide_eq_false hc
    refine ⟨?_, hO⟩
    have : es.findIdx p = es.length := List.findIdx_eq_length.2 fun x hx => by
      obtain ⟨j, hj, rfl⟩ := List.getElem_of_mem hx
      exact hp j hj (by omega)
    simp only [findI, this, Nat.lt_irrefl, if_false]

/-! ## the closures of Fit -/
def otherS (x : LedS) (i t : Int) : Bool := atB x i && (atT x i != t)
theorem other_c {w : World} {F : Nat → Prop} {b : Nat} {x : LedS} (h : Led w F b x) {a0 : Addr} (hc : Cells w a0 [.pointer (some ⟨b, 0, none⟩)]) (e0 e1 e2 : Int) (e3 : Sl) (hi : InI e0) :
    Calls Try.prog 17 #[.agg #[.int .i64 e0, .int .i64 e1, .int .i64 e2, Sl.v e3], .pointer (some a0)] w fun e w' => e = .returned (.bool (otherS x e0 e1)) ∧ Only [] w w' := by
  refine ret (ledger_Ledger_Fit_1_wp e0 e1 e2 e3 a0 (fun v w' => v = _ ∧ Only [] w w') w ?_)
  unfold ledger_Ledger_Fit_1_vc
  intro b1 w1 hb1 hb2 hO1
  refine ⟨_, hc.keep (hO1.block _ hc.lt (by simp)), (at_c (h.only hO1 (by simp)) e0 hi).mono ?_⟩
  rintro _ w2 ⟨rfl, hO2⟩
  exact ⟨_, _, _, rfl, hO2.same (by simp; omega), fun b2 w3 _ _ hO3 => ⟨rfl, (hO1.tr0 hO2).tr0 hO3⟩⟩
theorem isBase_c {w : World} {F : Nat → Prop} {b : Nat} {x : LedS} (h : Led w F b x) {a0 : Addr} (hc : Cells w a0 [.pointer (some ⟨b, 0, none⟩)]) (e0 e1 e2 : Int) (e3 : Sl) :
    Calls Try.prog 20 #[.agg #[.int .i64 e0, .int .i64 e1, .int .i64 e2, Sl.v e3], .pointer (some a0)] w fun e w' => e = .returned (.bool (e0 == x.i)) ∧ Only [] w w' := by
  refine ret (ledger_Ledger_Fit_2_wp e0 e1 e2 e3 a0 (fun v w' => v = _ ∧ Only [] w w') w ?_)
  unfold ledger_Ledger_Fit_2_vc
  intro b1 w1 hb1 hb2 hO1
  obtain ⟨s, g1, _⟩ := (h.only hO1 (by simp)).at_
  exact ⟨_, hc.keep (hO1.block _ hc.lt (by simp)), _, rfl, _, Led.c0 g1, fun w2 hO2 => ⟨rfl, hO1.tr0 hO2⟩⟩
def newP (x : LedS) (e : Ent) : Bool := decide (e.i > x.i) && (decide (e.i > x.last) || otherS x e.i e.t)
theorem isNew_c {w : World} {F : Nat → Prop} {b : Nat} {x : LedS} (h : Led w F b x) {a0 a1 a2 ab : Addr} (hc0 : Cells w a0 [.pointer (some ⟨b, 0, none⟩)]) (hc1 : Cells w a1 [.int .i64 x.last])
    (hc2 : Cells w a2 [.func (.func 17) #[] #[.pointer (some ab)]]) (hcb : Cells w ab [.pointer (some ⟨b, 0, none⟩)]) (e0 e1 e2 : Int) (l : List UInt8) (e3 : Sl) (hi : InI e0) :
    Calls Try.prog 21 #[.agg #[.int .i64 e0, .int .i64 e1, .int .i64 e2, Sl.v e3], .pointer (some a0), .pointer (some a1), .pointer (some a2)] w fun e w' => e = .returned (.bool (newP x ⟨e0, e1, e2, l⟩)) ∧ Only [] w w' := by
  refine ret (ledger_Ledger_Fit_3_wp e0 e1 e2 e3 a0 a1 a2 (fun v w' => v = _ ∧ Only [] w w') w ?_)
  unfold ledger_Ledger_Fit_3_vc
  intro b1 w1 hb1 hb2 hO1
  obtain ⟨s, g1, _⟩ := (h.only hO1 (by simp)).at_
  refine ⟨_, hc0.keep (hO1.block _ hc0.lt (by simp)), _, rfl, _, Led.c0 g1, fun t w' => t = newP x ⟨e0, e1, e2, l⟩ ∧ Only [] w w', ?_, ?_⟩
  · rintro _ w2 ⟨rfl, hO⟩
    exact ⟨rfl, hO⟩
  · intro w2 hO2
    have hO := hO1.tr0 hO2
    have hs2 := hO2.size
    refine ⟨fun hc => ⟨_, hc1.keep (hO.block _ hc1.lt (by simp)), fun hc' => ⟨by simp only [newP, hc, hc', Bool.true_and, Bool.true_or], hO⟩, fun hc' => ?_⟩, fun hc => ⟨by simp only [newP, hc, Bool.false_and], hO⟩⟩
    refine ⟨_, hc2.keep (hO.block _ hc2.lt (by simp)), 17, [.pointer (some ab)], rfl, ?_, ?_⟩
    · intro args w; rfl
    · refine (other_c (h.only hO (by simp)) (hcb.keep (hO.block _ hcb.lt (by simp))) e0 e1 e2 e3 hi).mono ?_
      rintro _ w3 ⟨rfl, hO3⟩
      exact ⟨_, rfl, hO3.same (by simp; omega), by simp only [newP, hc, hc', Bool.true_and, Bool.false_or], hO.tr0 hO3⟩

/-! ## Fit -/
def fitBad (x : LedS) (prev term : Int) (es : List Ent) : Bool := decide (prev > x.last) || otherS x prev term || (match es[es.findIdx (fun e => e.i == x.i)]? with | some e => otherS x e.i e.t | none => false)
def fitE (x : LedS) (prev term : Int) (es : List Ent) : Int := if fitsS prev term es then (if fitBad x prev term es then 55 else 0) else 1
def fitN (x : LedS) (prev term : Int) (es : List Ent) : Int := if fitE x prev term es = 0 then prev + es.length else 0
def fitL (x : LedS) (prev term : Int) (es : List Ent) : List Ent := if fitE x prev term es = 0 then es.drop (es.findIdx (newP x)) else []

theorem fit_c {w : World} {F G : Nat → Prop} {b : Nat} {x : LedS} {row : Sl} {es : List Ent} (h : Led w F b x) (hr : Ents w G row es) (prev term : Int) :
    Calls Try.prog 7 #[.pointer (some ⟨b, 0, none⟩), .int .i64 prev, .int .i64 term, Sl.v row] w fun e w' =>
      ∃ s' : Sl, e = .returned (.tuple #[.int .i64 (fitN x prev term es), s'.v, .int .i64 (fitE x prev term es)]) ∧ Own rEnt 4 34 w.heap.size w' (fun k => w.heap.size ≤ k) s' (fitL x prev term es) ∧ Only [] w w' := by
  refine (ledger_Ledger_Fit_wp ⟨b, 0, none⟩ prev term row (fun v w' => ∃ s' : Sl, v = (.tuple #[.int .i64 (fitN x prev term es), s'.v, .int .i64 (fitE x prev term es)]) ∧ Own rEnt 4 34 w.heap.size w' (fun k => w.heap.size ≤ k) s' (fitL x prev term es) ∧ Only [] w w') w ?_).mono (by
    rintro e w' ⟨v, rfl, s', rfl, h⟩; exact ⟨s', rfl, h⟩)
  unfold ledger_Ledger_Fit_vc
  intro b0 w1 hb1 hb2 hO1
  refine (fits_c (hr.only hO1 (by simp)) prev term).mono ?_
  rintro _ w2 ⟨rfl, hO2⟩
  have hO02 := hO1.tr0 hO2
  have hs2 := hO2.size
  have nilOwn : ∀ {w' : World}, Own rEnt 4 34 w.heap.size w' (fun k => w.heap.size ≤ k) Sl.nil [] := Own.nil _ _ _ _ _ _
  refine ⟨_, rfl, hO2.same (by simp; omega), fun hc => ?_, fun hc => ?_⟩
  · have hc : fitsS prev term es = false := by simpa using hc
    have hE : fitE x prev term es = 1 := by simp [fitE, hc]
    refine ⟨Sl.nil, ?_, ?_, hO02⟩
    · simp [fitN, hE]
    · simp only [fitL, hE]; exact nilOwn
  have hc : fitsS prev term es = true := by simpa using hc
  have hf := LedS.rng (x := ⟨prev, term, es⟩) hc
  obtain ⟨f1, f2, f3, f4, f5⟩ := hf
  dsimp only at f1 f2 f3 f4 f5
  have hcl := chain_len f5 ⟨f1, f2⟩
  have hrl := hr.len
  have hrc := hr.cap
  obtain ⟨l1, l2, l3, l4⟩ := h.last_in
  intro b1 w3 hb3 hb4 hO3 hB3
  have hO03 := hO02.tr0 hO3
  have hs3 := hO3.size
  have hcell3 : Cells w3 ⟨b0, 0, none⟩ [.pointer (some ⟨b, 0, none⟩)] := hB3.cellsAt 0 _ rfl
  refine (index_c (fid := 20) (cap := [.pointer (some ⟨b0, 0, none⟩)]) (hr.only hO03 (by simp)) (fun e => e.i == x.i) (fun args w => rfl) (fun w' e d hO he1 he2 => isBase_c (h.only (hO03.tr0 hO) (by simp)) (hcell3.keep (hO.block _ hcell3.lt (by simp))) e.i e.t e.k d)).mono ?_
  rintro _ w4 ⟨rfl, hO4⟩
  have hO04 := hO03.tr0 hO4
  have hs4 := hO4.size
  refine ⟨_, rfl, hO4.same (by simp; omega), ?_⟩
  refine (last_c (h.only hO04 (by simp))).mono ?_
  rintro _ w5 ⟨rfl, hO5⟩
  have hO05 := hO04.tr0 hO5
  have hs5 := hO5.size
  refine ⟨_, _, rfl, hO5.same (by simp; omega), ?_⟩
  intro b2 w7 hb5 hb6 hO7 hB7
  have hO07 := hO05.tr0 hO7
  have hs7 := hO7.size
  refine ⟨fun t w' => t = fitBad x prev term es ∧ Only [] w w' ∧ w7.heap.size ≤ w'.heap.size, ?_, ?_⟩
  · rintro _ w8 ⟨rfl, hO8, hs8⟩
    refine ⟨fun ht _ => ?_, fun ht => ?_⟩
    · have hE : fitE x prev term es = 55 := by simp [fitE, hc, ht]
      refine ⟨Sl.nil, ?_, ?_, hO8⟩
      · simp [fitN, hE]
      · simp only [fitL, hE]; exact nilOwn
    · have hE : fitE x prev term es = 0 := by simp [fitE, hc, ht]
      have hN : fitN x prev term es = prev + es.length := by simp [fitN, hE]
      have hL : fitL x prev term es = es.drop (es.findIdx (newP x)) := by simp [fitL, hE]
      have hwr : IntKind.i64.wrap (prev + (row.n : Int)) = prev + es.length := by rw [hrl]; exact wr' (by omega) (by omega)
      intro hB80 hB81 hB82
      have c0 : Cells w8 ⟨b0, 0, none⟩ [.pointer (some ⟨b, 0, none⟩)] := hB80.cellsAt 0 _ rfl
      have c1 : Cells w8 ⟨b2, 0, none⟩ [.int .i64 x.last] := hB82.cellsAt 0 _ rfl
      have c2 : Cells w8 ⟨b1, 0, none⟩ [.func (.func 17) #[] #[.pointer (some ⟨b0, 0, none⟩)]] := hB81.cellsAt 0 _ rfl
      refine (index_c (fid := 21) (cap := [.pointer (some ⟨b0, 0, none⟩), .pointer (some ⟨b2, 0, none⟩), .pointer (some ⟨b1, 0, none⟩)]) (hr.only hO8 (by simp)) (newP x) (fun args w => rfl) (fun w' e d hO he1 he2 =>
        isNew_c (h.only (hO8.tr0 hO) (by simp)) (c0.keep (hO.block _ c0.lt (by simp))) (c1.keep (hO.block _ c1.lt (by simp))) (c2.keep (hO.block _ c2.lt (by simp))) (c0.keep (hO.block _ c0.lt (by simp))) e.i e.t e.k e.d d he1)).mono ?_
      rintro _ w9 ⟨rfl, hO9⟩
      have hO09 := hO8.tr0 hO9
      refine ⟨_, rfl, hO9.same (by simp; omega), fun hn => ?_, fun hn => ?_⟩
      · have hn : findI (newP x) es < 0 := of_decide_eq_true hn
        have hd : es.drop (es.findIdx (newP x)) = [] := by
          simp only [findI] at hn
          split at hn
          · omega
          · exact List.drop_eq_nil_of_le (by omega)
        refine ⟨Sl.nil, ?_, ?_, hO09⟩
        · rw [hwr, hN, hE]
        · rw [hL, hd]; exact nilOwn
      · have hn : ¬ findI (newP x) es < 0 := of_decide_eq_false hn
        have hlt : es.findIdx (newP x) < es.length := by
          simp only [findI] at hn
          split at hn
          · assumption
          · omega
        have hfi : findI (newP x) es = (es.findIdx (newP x) : Int) := by simp only [findI, if_pos hlt]
        refine ⟨es.findIdx (newP x), ⟨hfi, by omega, hrc, Nat.le_refl _⟩, ?_⟩
        have hcut := (hr.only hO09 (by simp)).cut (lo := es.findIdx (newP x)) (hi := row.n) (m := row.c) (by omega) hrc (Nat.le_refl _) (Nat.le_refl _)
        rw [hrl, List.take_of_length_le (by rw [List.length_drop]; omega), ← hrl] at hcut
        refine (copied_c hcut (by rw [List.length_drop]; omega)).mono ?_
        rintro _ w10 ⟨s', rfl, k1, k2⟩
        have hs9 := hO09.size
        have hs89 := hO9.size
        refine ⟨s', rfl, k2.same (by simp; omega), s', by rw [hwr, hN, hE], ?_, hO09.tr0 k2⟩
        rw [hL]
        exact (k1.low hs9).mono rEnt_ok fun k hk => Nat.le_trans hs9 hk
  · intro w8 hO8 hB8
    have hO08 := hO07.tr0 hO8
    have hs8 := hO8.size
    have c0 : Cells w8 ⟨b0, 0, none⟩ [.pointer (some ⟨b, 0, none⟩)] := hB8.cellsAt 0 _ rfl
    refine ⟨fun h1 => ⟨by simp only [fitBad, h1, Bool.true_or], hO08, hs8⟩, fun h1 => ?_⟩
    refine (other_c (h.only hO08 (by simp)) c0 prev term 0 Sl.nil ⟨by omega, by omega⟩).mono ?_
    rintro _ w9 ⟨rfl, hO9⟩
    have hs9 := hO9.size
    refine ⟨_, rfl, hO9.same (by simp; omega), fun h2 => ⟨by simp only [fitBad, h1, h2, Bool.false_or, Bool.true_or], hO08.tr0 hO9, by omega⟩, fun h2 => ⟨fun h3 => ?_, fun h3 => ?_⟩⟩
    · have h3 : findI (fun e => e.i == x.i) es ≥ 0 := of_decide_eq_true h3
      have hlt : es.findIdx (fun e => e.i == x.i) < es.length := by
        simp only [findI] at h3
        split at h3
        · assumption
        · omega
      have hfi : findI (fun e => e.i == x.i) es = (es.findIdx (fun e => e.i == x.i) : Int) := by simp only [findI, if_pos hlt]
      obtain ⟨ad, y, cs, g1, g2, g3, g4, g5, d, rfl, g6⟩ := (hr.only (hO08.tr0 hO9) (by simp)).get (i := (es.findIdx (fun e => e.i == x.i) : Int)) (by omega) (by omega)
      rw [Int.toNat_natCast] at g2
      refine ⟨ad, by rw [hfi]; exact g1, _, _, _, d, g5, ?_⟩
      refine (other_c (h.only (hO08.tr0 hO9) (by simp)) (c0.keep (hO9.block _ c0.lt (by simp))) y.i y.t y.k d g6.i).mono ?_
      rintro _ w10 ⟨rfl, hO10⟩
      have hs10 := hO10.size
      exact ⟨_, rfl, hO10.same (by simp; omega), by simp only [fitBad, h1, h2, g2, Bool.false_or], (hO08.tr0 hO9).tr0 hO10, by omega⟩
    · have h3 : ¬ findI (fun e => e.i == x.i) es ≥ 0 := of_decide_eq_false h3
      have hge : es.length ≤ es.findIdx (fun e => e.i == x.i) := by
        simp only [findI] at h3
        split at h3
        · omega
        · omega
      exact ⟨by simp only [fitBad, h1, h2, List.getElem?_eq_none hge, Bool.false_or], hO08.tr0 hO9, by omega⟩

/-! ## row -/
def rowF (index : Int) (q : Int × Nat) : Ent := ⟨IntKind.i64.wrap (index + q.2), q.1, 0, [byte8 q.1]⟩
def rowS (index : Int) (ts : List Int) : List Ent := ts.zipIdx.map (rowF index)
theorem rowS_snoc (index : Int) (ts : List Int) {n : Nat} (h : n < ts.length) : rowS index (ts.take (n + 1)) = rowS index (ts.take n) ++ [rowF index (ts[n], n)] := by
  have : ts.take (n + 1) = ts.take n ++ [ts[n]] := by rw [List.take_add_one, List.getElem?_eq_getElem h]; rfl
  rw [rowS, this, List.zipIdx_append, List.map_append]
  simp only [rowS, List.length_take, Nat.min_eq_left (Nat.le_of_lt h), List.zipIdx_cons, List.zipIdx_nil, List.map_cons, List.map_nil, Nat.zero_add]
theorem rowS_len (index : Int) (ts : List Int) : (rowS index ts).length = ts.length := by simp [rowS]

theorem row_c {w : World} {F : Nat → Prop} {terms : Sl} {ts : List Int} (h : SliceF rInt 1 w F terms ts) (index : Int) (hm : ts.length ≤ 1000) :
    Calls Try.prog 13 #[.int .i64 index, Sl.v terms] w fun e w' => ∃ s' : Sl, e = .returned s'.v ∧ Own rEnt 4 34 w.heap.size w' (fun k => w.heap.size ≤ k) s' (rowS index ts) ∧ Only [] w w' := by
  refine (pavanelaw24_row_wp index terms (fun v w' => ∃ s' : Sl, v = s'.v ∧ Own rEnt 4 34 w.heap.size w' (fun k => w.heap.size ≤ k) s' (rowS index ts) ∧ Only [] w w') w ?_).mono (by
    rintro e w' ⟨v, rfl, s', rfl, h⟩; exact ⟨s', rfl, h⟩)
  unfold pavanelaw24_row_vc
  have hlen := h.len
  refine ⟨fun nv out t w' => ∃ n : Nat, n ≤ ts.length ∧ t = (n : Int) ∧ nv = ts.length - n ∧ Only [] w w' ∧ Own rEnt 4 34 w.heap.size w' (fun k => w.heap.size ≤ k) out (rowS index (ts.take n)), ts.length,
    ⟨0, Nat.zero_le _, rfl, rfl, Only.refl _ _, Own.nil _ _ _ _ _ _⟩, ?_⟩
  rintro nv out _ w1 ⟨n, hn, rfl, rfl, hO, hown⟩
  refine ⟨fun hc => ?_, fun hc => ?_⟩
  · have hlt : (n : Int) < terms.n := of_decide_eq_true hc
    have hn' : n < ts.length := by omega
    obtain ⟨ad, x, cs, g1, g2, g3, g4, g5, rfl, g6⟩ := (((h.inHeap rInt_ok (by decide)).keep rInt_ok (by decide) (fun k _ hlt => hO.block k hlt (by simp))).inHeap rInt_ok (by decide)).get (Int.natCast_nonneg n) hlt
    rw [Int.toNat_natCast, List.getElem?_eq_getElem hn'] at g2
    injection g2 with g2
    refine ⟨ad, g1, x, g5, ad, g1, x, g5, fun w2 hO2 => ?_⟩
    have hs2 := hO2.size
    have hs1 := hO.size
    have hb1 := build_own (P := Try.prog) (t := 32) (e := 5) (i := Try.t5) (z := .int .u8 0) (w := w2) (F := fun _ => False) (vs := [.int .u8 (IntKind.u8.wrap x)]) (parts := #[(0, .int .u8 (IntKind.u8.wrap x))]) (len := 1) (xs := [byte8 x]) (r := rByte) (size := 1)
      (by kernel_rfl) (by kernel_rfl) rfl rfl (by decide) rfl rfl (by decide) (by decide) rByte_ok ⟨⟨rfl, by rw [← byte8_v]; rfl⟩, trivial⟩
    obtain ⟨x3, w3, k1, k2, k3, k4, k5, k6⟩ := hb1
    refine ⟨x3, w3, k1, k3.same (by have := g3.2; simp; omega), ?_⟩
    have hs3 := k3.size
    have hb2 := build_own (P := Try.prog) (t := 22) (e := 34) (i := Try.t34) (w := w3) (F := fun k => w2.heap.size ≤ k) (vs := [.agg #[.int .i64 (IntKind.i64.wrap (index + n)), .int .i64 x, .int .i64 0, Sl.v x3]]) (parts := #[(0, .agg #[.int .i64 (IntKind.i64.wrap (index + n)), .int .i64 x, .int .i64 0, Sl.v x3])]) (len := 1)
      (xs := [rowF index (x, n)]) (r := rEnt) (size := 4)
      (by kernel_rfl) (by kernel_rfl) rfl rfl (by decide) rfl rfl (by decide) (by decide) rEnt_ok ⟨⟨rfl, x3, rfl, wrapIn _, g6, (show InI 0 from ⟨by decide, by decide⟩), (k2.slice rByte_ok).mono rByte_ok fun k hk => hk.elim False.elim fun h => h.1, by simp [rowF]⟩, trivial⟩
    obtain ⟨x4, w4, m1, m2, m3, m4, m5, m6⟩ := hb2
    refine ⟨x4, w4, m1, ?_⟩
    have hO14 : Only [] w1 w4 := (hO2.tr0 k3).tr0 m3
    have hown4 := (hown.inHeap rEnt_ok).keep rEnt_ok (w' := w4) (fun k hk hlt => hO14.block k hlt (by simp))
    have hown4' := hown4.mono rEnt_ok (G := fun k => w.heap.size ≤ k) fun k hk => hk.1
    have hsl := (m2.slice rEnt_ok).mono rEnt_ok (G := fun k => w.heap.size ≤ k ∧ out.a ≠ some ⟨k, 0, none⟩) fun k hk => by
      have hk : w2.heap.size ≤ k := hk.elim id fun h => by omega
      refine ⟨by omega, fun ho => ?_⟩
      have := (hown.blk ho).2
      dsimp only at this
      omega
    have hs4 := hO14.size
    have happ := app_own (P := Try.prog) (t := 22) (ty := 22) (e := 34) (i := Try.t34) (bytes := 48) (by kernel_rfl) (by kernel_rfl) rfl rfl rfl rfl rEnt_ok hown4' hsl (by omega)
      (by rw [rowS_len, List.length_take]; simp only [List.length_cons, List.length_nil]; omega) (by decide)
    obtain ⟨x5, w5, n1, n2, gs, n3, n4, n5⟩ := happ
    refine ⟨x5, w5, n1, ?_⟩
    rw [wr' (x := (n : Int) + 1) (by omega) (by omega)]
    refine ⟨ts.length - (n + 1), by omega, n + 1, by omega, by omega, rfl, (hO.tr0 hO14).trans n3 fun g hg => .inr (n4 g hg).2.1, ?_⟩
    rw [rowS_snoc index ts hn', g2]
    exact n2
  · have hge : ¬ ((n : Int) < terms.n) := of_decide_eq_false hc
    have hnl : ts.take n = ts := List.take_of_length_le (by omega)
    rw [hnl] at hown
    exact ⟨out, rfl, hown, hO⟩

/-! ## Hint -/
def hintGo (x : LedS) (t : Int) : Nat → Int → Int
  | 0, prev => prev
  | n + 1, prev => if atT x prev == t && decide (prev > x.i) then hintGo x t n (prev - 1) else prev
def hintS (x : LedS) (prev : Int) : Int := if prev > x.last then x.last else if atB x prev then hintGo x (atT x prev) (prev - x.i).toNat prev else x.i
theorem atI_of {x : LedS} {j : Int} (h : x.ok = true) (h1 : x.i ≤ j) (h2 : j ≤ x.last) : atI x j = j := by
  obtain ⟨t, ht, _⟩ := LedS.term_some h h1 h2
  simp [atI, ht]
theorem hint_c {w : World} {F : Nat → Prop} {b : Nat} {x : LedS} (h : Led w F b x) (prev : Int) (hp : InI prev) :
    Calls Try.prog 14 #[.pointer (some ⟨b, 0, none⟩), .int .i64 prev] w fun e w' => e = .returned (.int .i64 (hintS x prev)) ∧ Only [] w w' := by
  refine ret (ledger_Ledger_Hint_wp ⟨b, 0, none⟩ prev (fun v w' => v = _ ∧ Only [] w w') w ?_)
  unfold ledger_Ledger_Hint_vc
  obtain ⟨l1, l2, l3, l4⟩ := h.last_in
  refine (last_c h).mono ?_
  rintro _ w1 ⟨rfl, hO1⟩
  refine ⟨_, _, rfl, (at_c (h.only hO1 (by simp)) prev hp).mono ?_⟩
  rintro _ w2 ⟨rfl, hO2⟩
  have hO02 := hO1.tr0 hO2
  refine ⟨_, _, _, rfl, fun hc b1 w3 _ _ hO3 => ⟨?_, hO02.tr0 hO3⟩, fun hc => ⟨fun hc2 b1 w3 _ _ hO3 => ?_, fun hc2 b1 b2 w3 hb1 hb2 hb3 hb4 hO3 => ?_⟩⟩
  · have hc : prev > x.last := of_decide_eq_true hc
    simp only [hintS, if_pos hc]
  · have hc : ¬ prev > x.last := of_decide_eq_false hc
    have hc2 : atB x prev = false := by simpa using hc2
    obtain ⟨s, g1, _⟩ := (h.only (hO02.tr0 hO3) (by simp)).at_
    refine ⟨x.i, Led.c0 g1, ?_, hO02.tr0 hO3⟩
    simp [hintS, if_neg hc, hc2]
  · have hc : ¬ prev > x.last := of_decide_eq_false hc
    have hc2 : atB x prev = true := by simpa using hc2
    rw [LedS.term_iff h.ok, decide_eq_true_eq] at hc2
    have hS : hintS x prev = hintGo x (atT x prev) (prev - x.i).toNat prev := by
      have : atB x prev = true := by rw [LedS.term_iff h.ok, decide_eq_true_eq]; exact hc2
      simp only [hintS, if_neg hc, this, if_true]
    have hO03 := hO02.tr0 hO3
    refine ⟨fun nv p k vb vb1 w' => nv = (p - x.i).toNat ∧ x.i ≤ p ∧ p ≤ x.last ∧ p = vb ∧ vb1 = atT x p ∧ hintGo x (atT x prev) (p - x.i).toNat p = hintS x prev ∧ Only [] w w' ∧ w3.heap.size ≤ w'.heap.size ∧ k < w'.heap.size ∧ w.heap.size ≤ k, _,
      ⟨rfl, hc2.1, hc2.2, (atI_of h.ok hc2.1 hc2.2).symm, rfl, hS.symm, hO03, Nat.le_refl _, hb4, by have := hO02.size; omega⟩, ?_⟩
    rintro nv p k _ _ w4 ⟨rfl, p1, p2, rfl, rfl, hgo, hO4, hs4, hk, hk0⟩
    obtain ⟨s, g1, _⟩ := (h.only hO4 (by simp)).at_
    refine ⟨x.i, fun _ => Led.c0 g1, fun hg w5 hO5 => ?_, fun hg w5 hO5 => ?_⟩
    · have hg' := hg
      simp only [Bool.and_eq_true, decide_eq_true_eq] at hg'
      obtain ⟨_, q2⟩ := hg'
      have hwr : IntKind.i64.wrap (p - 1) = p - 1 := wr' (by omega) (by omega)
      have hn : (p - x.i).toNat = (p - 1 - x.i).toNat + 1 := by omega
      rw [hn] at hgo
      simp only [hintGo, hg, if_true] at hgo
      have hs5 := hO5.size
      rw [hwr]
      refine (at_c (h.only (hO4.tr0 hO5) (by simp)) (p - 1) ⟨by omega, by omega⟩).mono ?_
      rintro _ w6 ⟨rfl, hO6⟩
      have hs6 := hO6.size
      refine ⟨_, _, _, rfl, hO6.same (by simp; omega), fun b3 w7 hb5 hb6 hO7 => ?_⟩
      have hs7 := hO7.size
      refine ⟨(p - 1 - x.i).toNat, by omega, rfl, by omega, by omega, (atI_of h.ok (by omega) (by omega)).symm, rfl, hgo, ((hO4.tr0 hO5).tr0 hO6).new hO7 hk0, by omega, hb6, by have := ((hO4.tr0 hO5).tr0 hO6).size; omega⟩
    · refine ⟨?_, hO4.tr0 hO5⟩
      rw [← hgo]
      cases hn : (p - x.i).toNat with
      | zero => rfl
      | succ n => simp only [hintGo, hg]; rfl
end Go.Proofs.Ytkigioiahpfkgaa.Con
