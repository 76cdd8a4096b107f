/-
  Own work: the contracts of match, take and LedgerMatches.
-/
import Derived.Test.YtkigioiahpfkgaaMatch
namespace Go.Proofs.Ytkigioiahpfkgaa.Con
open Go Go.RowKit Go.Kt Go.Proofs.Ytkigioiahpfkgaa.Vc
set_option linter.unusedSimpArgs false
set_option linter.unusedVariables false

theorem L0_last (es : List Ent) : (L0 es).last = es.length := by simp [LedS.last, L0]
theorem L0_slice1 (es : List Ent) (i : Nat) : sliceS (L0 es) ((i : Int) + 1) 1 = (es.drop i).take 1 := by
  simp only [sliceS]
  rw [if_pos (show (i : Int) + 1 > (L0 es).i by simp only [L0]; omega), show ((i : Int) + 1 - (L0 es).i - 1).toNat = i by simp only [L0]; omega]
  rfl
theorem L0_atB {es : List Ent} (h : (L0 es).ok = true) (i : Nat) : atB (L0 es) ((i : Int) + 1) = decide (i < es.length) := by
  rw [LedS.term_iff h, L0_last]
  have h0 : (L0 es).i = 0 := rfl
  by_cases hi : i < es.length
  · rw [decide_eq_true hi, decide_eq_true (by omega)]
  · rw [decide_eq_false hi, decide_eq_false (by omega)]
theorem L0_atT (es : List Ent) (i : Nat) (h : i < es.length) : atT (L0 es) ((i : Int) + 1) = es[i].t := by simp [atT, L0_term es i h]
theorem sl1_of {xs ys : List Ent} {i : Nat} (h : xs.take (i + 1) = ys.take (i + 1)) : (xs.drop i).take 1 = (ys.drop i).take 1 := by
  have := congrArg (List.drop i) h
  simpa [List.drop_take] using this

theorem match_c {w : World} {F G : Nat → Prop} {a b : Nat} {xs ys : List Ent} (ha : Led w F a (L0 xs)) (hb : Led w G b (L0 ys)) (hlm : LM xs ys) :
    Calls Try.prog 12 #[.pointer (some ⟨a, 0, none⟩), .pointer (some ⟨b, 0, none⟩)] w fun e w' => e = .returned (.bool true) ∧ Only [] w w' := by
  refine ret (pavanelaw24_match_wp _ _ (fun v w' => v = _ ∧ Only [] w w') w ?_)
  unfold pavanelaw24_match_vc
  obtain ⟨l1, l2, l3, l4⟩ := ha.last_in
  refine (last_c ha).mono ?_
  rintro _ w1 ⟨rfl, hO1⟩
  rw [L0_last] at *
  refine ⟨_, _, rfl, fun nv same i w' => ∃ n : Nat, i = (n : Int) ∧ n ≤ xs.length ∧ nv = n ∧ (same = true → xs.take n = ys.take n) ∧ Only [] w w', _, ⟨xs.length, rfl, Nat.le_refl _, rfl, fun h => (by cases h), hO1⟩, ?_⟩
  rintro nv same _ w2 ⟨n, rfl, hn, hnv, hs, hO2⟩
  refine ⟨fun hc => ?_, fun _ => ⟨rfl, hO2⟩⟩
  have hc : (n : Int) > 0 := of_decide_eq_true hc
  cases n with
  | zero => simp at hc
  | succ n =>
  refine ⟨fun same1 w' => (same1 = true → xs.take (n + 1) = ys.take (n + 1)) ∧ Only [] w w', ?_, ?_⟩
  · rintro same1 w3 ⟨h1, hO3⟩
    rw [wr' (x := ((n + 1 : Nat) : Int) - 1) (by omega) (by omega)]
    refine ⟨n, by omega, n, by omega, by omega, rfl, fun h => ?_, hO3⟩
    have := congrArg (List.take n) (h1 h)
    simpa [List.take_take] using this
  · have hi : InI ((n + 1 : Nat) : Int) := ⟨by omega, by omega⟩
    refine (term_c (ha.only hO2 (by simp)) _ hi).mono ?_
    rintro _ w3 ⟨rfl, hO3⟩
    refine ⟨_, _, rfl, (term_c (hb.only (hO2.tr0 hO3) (by simp)) _ hi).mono ?_⟩
    rintro _ w4 ⟨rfl, hO4⟩
    have hO04 := (hO2.tr0 hO3).tr0 hO4
    rw [show ((n + 1 : Nat) : Int) = (n : Int) + 1 by omega] at *
    rw [L0_atB ha.ok, L0_atB hb.ok]
    refine ⟨_, _, rfl, fun _ => ⟨hs, hO04⟩, fun hc2 => ?_⟩
    simp only [Bool.or_eq_false_iff, Bool.not_eq_false', decide_eq_true_eq] at hc2
    obtain ⟨hx, hy⟩ := hc2
    refine (slice_c (ha.only hO04 (by simp)) _ 1 hi ⟨by decide, by decide⟩).mono ?_
    rintro _ w5 ⟨x2, rfl, k1, hO5⟩
    refine ⟨x2, rfl, (slice_c (hb.only (hO04.tr0 hO5) (by simp)) _ 1 hi ⟨by decide, by decide⟩).mono ?_⟩
    rintro _ w6 ⟨x3, rfl, k2, hO6⟩
    rw [L0_slice1] at k1 k2
    have hO06 := (hO04.tr0 hO5).tr0 hO6
    have e1 := Ents.only (k1.slice rEnt_ok) hO6 (by simp)
    have e2 := k2.slice rEnt_ok
    refine ⟨x3, rfl, fun t w' => t = false ∧ Only [] w6 w', ?_, fun hsm => ?_, fun _ => ⟨rfl, Only.refl _ _⟩⟩
    · rintro _ w7 ⟨rfl, hO7⟩
      refine ⟨fun h => (by cases h), fun _ => ⟨fun t w' => t = false ∧ Only [] w6 w', ?_, fun ht => ?_, fun _ => ⟨rfl, hO7⟩⟩⟩
      · rintro _ w8 ⟨rfl, hO8⟩
        refine ⟨fun h => (by cases h), fun _ => ⟨fun h => ?_, hO06.tr0 hO8⟩⟩
        rw [Bool.or_eq_true] at h
        rcases h with h | h
        · exact hs h
        · rw [L0_atT xs n hx, L0_atT ys n hy, beq_iff_eq] at h
          exact hlm n _ _ (List.getElem?_eq_getElem hx) (List.getElem?_eq_getElem hy) h
      · refine (same_c (e1.only hO7 (by simp)) (Ents.only e2 hO7 (by simp))).mono ?_
        rintro _ w8 ⟨rfl, hO8⟩
        refine ⟨_, rfl, ?_, hO7.tr0 hO8⟩
        rw [L0_atT xs n hx, L0_atT ys n hy, beq_iff_eq] at ht
        rw [sl1_of (hlm n _ _ (List.getElem?_eq_getElem hx) (List.getElem?_eq_getElem hy) ht)]
        simp
    · refine (same_c e1 e2).mono ?_
      rintro _ w8 ⟨rfl, hO8⟩
      exact ⟨_, rfl, by rw [sl1_of (hs hsm)]; simp, hO8⟩

/-! ## several ledgers in memory -/
def ptr (b : Nat) : Value := .pointer (some ⟨b, 0, none⟩)
def FT (W arr : Nat) (bs : List Nat) (b k : Nat) : Prop := W ≤ k ∧ k ≠ arr ∧ ∀ b', b' ∈ bs → b' = b ∨ k ≠ b'
structure Mem (W arr : Nat) (w : World) (bs : List Nat) (ls : List (List Ent)) : Prop where
  lb : bs.length = ls.length
  nd : bs.Nodup
  lo : ∀ b, b ∈ bs → W ≤ b ∧ b ≠ arr ∧ b < w.heap.size
  led : ∀ (i b : Nat) (x : List Ent), bs[i]? = some b → ls[i]? = some x → Led w (FT W arr bs b) b (L0 x)
section
variable {W arr : Nat} {w w' : World} {bs : List Nat} {ls : List (List Ent)}
theorem Mem.only (h : Mem W arr w bs ls) {gs : List Nat} (hO : Only gs w w') (hg : ∀ g, g ∈ gs → g = arr ∨ w.heap.size ≤ g) : Mem W arr w' bs ls where
  lb := h.lb
  nd := h.nd
  lo b hb := by obtain ⟨h1, h2, h3⟩ := h.lo b hb; have := hO.size; exact ⟨h1, h2, by omega⟩
  led i b x hb hx := (h.led i b x hb hx).only hO fun k hk hlt hm => by
    rcases hg k hm with h1 | h1
    · exact hk.2.1 h1
    · omega
theorem Mem.put (h : Mem W arr w bs ls) {i b : Nat} {z : List Ent} (hi : bs[i]? = some b) (hO : Only [b] w w') (hW : W ≤ w.heap.size) (harr : arr < w.heap.size)
    (hL : Led w' (fun k => FT W arr bs b k ∨ w.heap.size ≤ k) b (L0 z)) : Mem W arr w' bs (ls.set i z) where
  lb := by rw [List.length_set]; exact h.lb
  nd := h.nd
  lo b hb := by obtain ⟨h1, h2, h3⟩ := h.lo b hb; have := hO.size; exact ⟨h1, h2, by omega⟩
  led j c x hc hx := by
    rcases set_some hx with ⟨rfl, rfl⟩ | ⟨hne, hx'⟩
    · rw [hi] at hc
      injection hc with hc
      subst hc
      refine hL.mono fun k hk => hk.elim id fun hk => ⟨by omega, by omega, fun b' hb' => .inr ?_⟩
      have := (h.lo b' hb').2.2
      omega
    · refine (h.led j c x hc hx').only hO fun k hk hlt hm => ?_
      simp only [List.mem_singleton] at hm
      subst hm
      rcases hk.2.2 k (List.mem_of_getElem? hi) with h1 | h1
      · subst h1
        have := (List.getElem?_inj (List.getElem?_eq_some_iff.1 hi).1 h.nd).1 (hi.trans hc.symm)
        exact hne this.symm
      · exact h1 rfl
theorem Mem.push (h : Mem W arr w bs ls) {b : Nat} {z : List Ent} (hO : Only [] w w') (hb : w.heap.size ≤ b) (hW : W ≤ w.heap.size) (harr : arr < w.heap.size)
    (hL : Led w' (fun k => w.heap.size ≤ k) b (L0 z)) : Mem W arr w' (bs ++ [b]) (ls ++ [z]) where
  lb := by simp [h.lb]
  nd := by
    rw [List.nodup_append]
    exact ⟨h.nd, by simp, fun x hx y hy => by simp only [List.mem_singleton] at hy; have := (h.lo x hx).2.2; omega⟩
  lo c hc := by
    rcases List.mem_append.1 hc with hc | hc
    · obtain ⟨h1, h2, h3⟩ := h.lo c hc; have := hO.size; exact ⟨h1, h2, by omega⟩
    · simp only [List.mem_singleton] at hc
      subst hc
      obtain ⟨s, g, _⟩ := hL.at_
      exact ⟨by omega, by omega, g.lt⟩
  led j c x hc hx := by
    by_cases hj : j < bs.length
    · rw [List.getElem?_append_left hj] at hc
      rw [List.getElem?_append_left (by rw [← h.lb]; exact hj)] at hx
      refine ((h.led j c x hc hx).inHeap.only hO (by simp)).mono fun k hk => ⟨hk.1.1, hk.1.2.1, fun b' hb' => ?_⟩
      rcases List.mem_append.1 hb' with hb' | hb'
      · exact hk.1.2.2 b' hb'
      · simp only [List.mem_singleton] at hb'
        have := hk.2
        exact .inr (by omega)
    · have hj2 := (List.getElem?_eq_some_iff.1 hc).1
      simp only [List.length_append, List.length_cons, List.length_nil] at hj2
      have hje : j = bs.length := by omega
      subst hje
      rw [List.getElem?_append_right (Nat.le_refl _), Nat.sub_self] at hc
      rw [h.lb, List.getElem?_append_right (Nat.le_refl _), Nat.sub_self] at hx
      simp only [List.getElem?_cons_zero, Option.some.injEq] at hc hx
      subst hc hx
      refine hL.mono fun k hk => ⟨by omega, by omega, fun b' hb' => ?_⟩
      rcases List.mem_append.1 hb' with hb' | hb'
      · have := (h.lo b' hb').2.2; exact .inr (by omega)
      · simp only [List.mem_singleton] at hb'; exact .inl hb'
theorem Mem.get (h : Mem W arr w bs ls) {i : Nat} (hi : i < ls.length) : ∃ b x, bs[i]? = some b ∧ ls[i]? = some x ∧ Led w (FT W arr bs b) b (L0 x) := by
  have hb : i < bs.length := by rw [h.lb]; exact hi
  exact ⟨_, _, List.getElem?_eq_getElem hb, List.getElem?_eq_getElem hi, h.led i _ _ (List.getElem?_eq_getElem hb) (List.getElem?_eq_getElem hi)⟩
theorem ptrs_at {t : TypeId} {cs : List Value} {i b c : Nat} (h : Blk w b t cs) (hi : cs[i]? = some (ptr c)) : Cells w (Addr.add ⟨b, 0, none⟩ (i * 1)) [.pointer (some ⟨c, 0, none⟩)] := by
  rw [addr_lit]
  refine h.cells _ _ fun j v hj => ?_
  cases j with
  | zero =>
    simp only [List.getElem?_cons_zero, Option.some.injEq] at hj
    subst hj
    rw [show 0 + i * 1 + 0 = i by omega]; exact hi
  | succ j => simp at hj
end

theorem set_same {α : Type} {l : List α} {i : Nat} {x : α} (h : l[i]? = some x) : l.set i x = l := by
  obtain ⟨h1, h2⟩ := List.getElem?_eq_some_iff.1 h
  rw [← h2, List.set_getElem_self]
theorem take_c {W arr : Nat} {w : World} {bs : List Nat} {ls : List (List Ent)} (h : Mem W arr w bs ls) (h3 : ls.length = 3) (hW : W ≤ w.heap.size) (harr : arr < w.heap.size) {own : Nat} {term : Int} (hT : Tri own term ls) (s0 s1 s2 s3 : Int) {b0 b1 b2 : Nat} (hbs : bs = [b0, b1, b2]) :
    Calls Try.prog 11 #[.agg #[ptr b0, ptr b1, ptr b2], .agg #[.int .i64 s0, .int .i64 s1, .int .i64 s2, .int .i64 s3], .int .i64 own] w fun e w' =>
      e = .returned (.bool true) ∧ ∃ ls', ls'.length = 3 ∧ Mem W arr w' bs ls' ∧ Tri own term ls' ∧ Only bs w w' := by
  refine ret (pavanelaw24_take_wp (some ⟨b0, 0, none⟩) (some ⟨b1, 0, none⟩) (some ⟨b2, 0, none⟩) s0 s1 s2 s3 own (fun v w' => v = .bool true ∧ ∃ ls' : List (List Ent), ls'.length = 3 ∧ Mem W arr w' bs ls' ∧ Tri own term ls' ∧ Only bs w w') w ?_)
  unfold pavanelaw24_take_vc
  intro b w1 hb1 hb2 hO1 hB1
  have stay : ∀ {w' : World}, Only [] w w' → (∃ ls', ls'.length = 3 ∧ Mem W arr w' bs ls' ∧ Tri own term ls' ∧ Only bs w w') := fun hO => ⟨ls, h3, h.only hO (by simp), hT, hO.weaken (by simp)⟩
  obtain ⟨p1, p2⟩ := bits_mod3 s0
  obtain ⟨q1, q2⟩ := bits_mod3 s1
  have hB1' : Blk w1 b 38 (bs.map ptr) := by rw [hbs]; exact hB1
  generalize hi : Int.tmod (bits .and .i64 s0 1023) 3 = ii at *
  generalize hj : Int.tmod (bits .and .i64 s1 1023) 3 = jj at *
  obtain ⟨i, rfl⟩ := Int.eq_ofNat_of_zero_le p1
  obtain ⟨j, rfl⟩ := Int.eq_ofNat_of_zero_le q1
  refine ⟨fun _ bb w2 _ _ hO2 => ⟨rfl, stay (hO1.tr0 hO2)⟩, fun hne => ⟨⟨p1, p2⟩, fun bb w2 hbb1 hbb2 hO2 => ?_⟩⟩
  have hne0 : ((i : Int) ≠ own) := by simpa using hne
  replace hne : i ≠ own := by omega
  have hO02 := hO1.tr0 hO2
  have hs2 := hO02.size
  have hB2 := hO2.blk hB1' (by simp)
  have hm2 := h.only hO02 (by simp)
  obtain ⟨bi, xs, e1, e2, hLi⟩ := hm2.get (i := i) (by omega)
  obtain ⟨bj, ys, f1, f2, hLj⟩ := hm2.get (i := j) (by omega)
  refine ⟨_, ptrs_at hB2 (by rw [Int.toNat_natCast, List.getElem?_map, e1]; rfl), ⟨q1, q2⟩, _, ptrs_at hB2 (by rw [Int.toNat_natCast, List.getElem?_map, f1]; rfl), (last_c hLj).mono ?_⟩
  rintro _ w3 ⟨rfl, hO3⟩
  have hs3 := hO3.size
  rw [L0_last]
  obtain ⟨l1, l2, l3, l4⟩ := hLj.last_in
  rw [L0_last] at l3 l4
  obtain ⟨r1, r2⟩ := bits_and_rng s2 (m := 1023) (by decide)
  have t1 := Int.tmod_nonneg ((ys.length : Int) + 1) r1
  have t2 := Int.tmod_lt_of_pos (bits .and .i64 s2 ((1023 : Nat) : Int)) (show (0 : Int) < (ys.length : Int) + 1 by omega)
  replace t1 : 0 ≤ Int.tmod (bits .and .i64 s2 1023) ((ys.length : Int) + 1) := t1
  replace t2 : Int.tmod (bits .and .i64 s2 1023) ((ys.length : Int) + 1) < (ys.length : Int) + 1 := t2
  refine ⟨_, _, rfl, hO3.same (by simp; omega), ?_⟩
  rw [wr' (x := (ys.length : Int) + 1) (by omega) (by omega)]
  refine ⟨by omega, ?_⟩
  generalize Int.tmod (bits .and .i64 s2 1023) ((ys.length : Int) + 1) = prev at *
  refine (term_c (hLj.only hO3 (by simp)) prev ⟨by omega, by omega⟩).mono ?_
  rintro _ w4 ⟨rfl, hO4⟩
  have hs4 := hO4.size
  have hO24 := hO3.tr0 hO4
  refine ⟨_, _, rfl, hO4.same (by simp; omega), fun _ => ⟨rfl, stay (hO02.tr0 hO24)⟩, fun _ => ?_⟩
  obtain ⟨m1, m2⟩ := bits_and_rng s3 (m := 7) (by decide)
  replace m1 : 0 ≤ bits .and .i64 s3 7 := m1
  replace m2 : bits .and .i64 s3 7 ≤ 7 := m2
  generalize bits .and .i64 s3 7 = most at *
  rw [wr' (x := prev + 1) (by omega) (by omega)]
  refine (slice_c (hLj.only hO24 (by simp)) (prev + 1) most ⟨by omega, by omega⟩ ⟨by omega, by omega⟩).mono ?_
  rintro _ w5 ⟨x3, rfl, k1, hO5⟩
  have hs5 := hO5.size
  have hO25 := hO24.tr0 hO5
  refine ⟨x3, rfl, hO5.same (by simp; omega), (fit_c (hLi.only hO25 (by simp)) (k1.slice rEnt_ok) prev _).mono ?_⟩
  rintro _ w6 ⟨x13, rfl, g1, hO6⟩
  have hs6 := hO6.size
  have hO26 := hO25.tr0 hO6
  obtain ⟨y1, y2⟩ := take_law hLi.ok hLj.ok (hT.lm i j xs ys e2 f2) t1 (by omega) m1
  refine ⟨_, x13, _, rfl, hO6.same (by simp; omega), fun hc => ⟨?_, stay (hO02.tr0 hO26)⟩, fun hc => ?_⟩
  · have hne : fitE (L0 xs) prev (atT (L0 ys) prev) (sliceS (L0 ys) (prev + 1) most) ≠ 0 := by simpa using hc
    have hE : fitE (L0 xs) prev (atT (L0 ys) prev) (sliceS (L0 ys) (prev + 1) most) = 55 := by
      simp only [fitE, y1, if_true] at hne ⊢
      split at hne
      · rename_i hb; rw [if_pos hb]
      · exact absurd rfl hne
    simp [fitN, hE]
  · have hE : fitE (L0 xs) prev (atT (L0 ys) prev) (sliceS (L0 ys) (prev + 1) most) = 0 := by simpa using hc
    obtain ⟨z1, zs, z2, z3⟩ := y2 hE
    have hm6 := hm2.only hO26 (by simp)
    have hLi6 := hLi.only hO26 (by simp)
    have hbi := (hm2.lo bi (List.mem_of_getElem? e1)).2.2
    refine (put_c (G := fun k => w5.heap.size ≤ k) hLi6 ((g1.slice rEnt_ok).mono rEnt_ok fun k hk => hk.elim id fun h => h.1) (by omega)).mono ?_
    rintro _ w7 ⟨rfl, u1, hO7⟩
    rw [z2] at u1
    have hs7 := hO7.size
    have hbs' : Only bs w w7 := ((hO02.tr0 hO26).weaken (bs' := bs) (by simp)).mem hO7 (List.mem_of_getElem? e1)
    have hmem := hm6.put e1 hO7 (by omega) (by omega) u1
    refine ⟨_, rfl, hO7.same (by simp; have := (h.lo bi (List.mem_of_getElem? e1)).2.2; omega), by rw [z1]; rfl, _, by rw [List.length_set]; exact h3, hmem, ?_, hbs'⟩
    rcases z3 with rfl | ⟨n, rfl⟩
    · rw [set_same e2]; exact hT
    · exact hT.took hne f2
end Go.Proofs.Ytkigioiahpfkgaa.Con
