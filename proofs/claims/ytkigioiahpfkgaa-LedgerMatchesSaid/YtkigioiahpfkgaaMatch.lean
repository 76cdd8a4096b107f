/-
  Own work: LedgerMatches: the plain law (one index and term, one log up to it), and the contracts of Same, match, take.
-/
import Derived.Test.YtkigioiahpfkgaaSmall
import Derived.Test.YtkigioiahpfkgaaLaw
namespace Go.Proofs.Ytkigioiahpfkgaa.Con
open Go Go.RowKit Go.Kt Go.Proofs.Ytkigioiahpfkgaa.Vc
set_option linter.unusedSimpArgs false
set_option linter.unusedVariables false

/-! ## Same -/
theorem same_c {w : World} {F G : Nat → Prop} {a b : Sl} {xs ys : List Ent} (ha : Ents w F a xs) (hb : Ents w G b ys) :
    Calls Try.prog 24 #[Sl.v a, Sl.v b] w fun e w' => e = .returned (.bool (decide (xs = ys))) ∧ Only [] w w' := by
  refine ret (pavaneref22_Same_wp a b (fun v w' => v = _ ∧ Only [] w w') w ?_)
  unfold pavaneref22_Same_vc
  have hal := ha.len
  have hbl := hb.len
  have hac := ha.cap
  have hab := ha.big
  refine ⟨fun hc => ⟨?_, Only.refl _ _⟩, fun hc => ?_⟩
  · have hne : (a.n : Int) ≠ b.n := by simpa using hc
    have : xs ≠ ys := fun h => by rw [h] at hal; omega
    rw [decide_eq_false this]
  · have heq : (a.n : Int) = b.n := by simpa using hc
    refine ⟨fun nv i w' => ∃ n : Nat, n ≤ xs.length ∧ i = (n : Int) ∧ nv = xs.length - n ∧ xs.take n = ys.take n ∧ Only [] w w', xs.length, ⟨0, Nat.zero_le _, rfl, rfl, rfl, Only.refl _ _⟩, ?_⟩
    rintro nv _ w1 ⟨n, hn, rfl, rfl, ht, hO⟩
    refine ⟨fun hc => ?_, fun hc => ?_⟩
    · have hlt : (n : Int) < a.n := of_decide_eq_true hc
      obtain ⟨ad, x, cs, g1, g2, g3, g4, g5, d, rfl, g6⟩ := (ha.only hO (by simp)).get (Int.natCast_nonneg n) hlt
      obtain ⟨ad', y, cs', k1, k2, k3, k4, k5, d', rfl, k6⟩ := (hb.only hO (by simp)).get (Int.natCast_nonneg n) (by omega)
      rw [Int.toNat_natCast] at g2 k2
      have gb := g6.d.bytes
      have kb := k6.d.bytes
      refine ⟨ad, g1, x.i, g5.at1 0 _ rfl, ad', k1, y.i, k5.at1 0 _ rfl, ad, fun _ => g1, x.t, fun _ => g5.at1 1 _ rfl, ad', fun _ => k1, y.t, fun _ => k5.at1 1 _ rfl,
        ad, fun _ => g1, x.k, fun _ => g5.at1 2 _ rfl, ad', fun _ => k1, y.k, fun _ => k5.at1 2 _ rfl, ad, fun _ => g1, d, fun _ => g5.at1 3 _ rfl, x.d, fun _ => gb.rd, ad', fun _ => k1, d', fun _ => k5.at1 3 _ rfl, y.d, fun _ => kb.rd, fun hne => ?_, fun heq2 => ?_⟩
      · intro w2 hO2
        refine ⟨?_, hO.tr0 hO2⟩
        have : xs ≠ ys := fun h => by
          subst h
          rw [g2] at k2
          injection k2 with k2
          subst k2
          simp at hne
        rw [decide_eq_false this]
      · intro w2 hO2
        have hxy : x = y := by
          simp only [Bool.or_eq_false_iff, bne_eq_false_iff_eq, Bool.not_eq_false', beq_iff_eq] at heq2
          obtain ⟨⟨⟨h1, h2⟩, h3⟩, h4⟩ := heq2
          have h5 : x.d = y.d := by simpa [ByteArray.toList_eq] using h4
          cases x
          cases y
          simp_all
        rw [wr' (x := (n : Int) + 1) (by omega) (by omega)]
        have hn1 := (List.getElem?_eq_some_iff.1 g2).1
        refine ⟨xs.length - (n + 1), by omega, n + 1, by omega, by omega, rfl, ?_, hO.tr0 hO2⟩
        rw [List.take_add_one, List.take_add_one, ht, g2, k2, hxy]
    · have hge : ¬ ((n : Int) < a.n) := of_decide_eq_false hc
      rw [List.take_of_length_le (by omega), List.take_of_length_le (by omega)] at ht
      rw [decide_eq_true ht]
      exact ⟨rfl, hO⟩

/-! ## the plain law -/
theorem bits_and_rng (x : Int) {m : Nat} (hm : m < 9223372036854775808) : 0 ≤ bits .and .i64 x (m : Int) ∧ bits .and .i64 x (m : Int) ≤ m := by
  have h1 : (BitVec.ofInt 64 (m : Int)).toNat = m := by simp [BitVec.toNat_ofInt]; omega
  have h2 : (BitVec.ofInt 64 x &&& BitVec.ofInt 64 (m : Int)).toNat ≤ m := by
    rw [BitVec.toNat_and, h1]; exact Nat.and_le_right
  have h3 : bits .and .i64 x (m : Int) = IntKind.i64.wrap ((BitVec.ofInt 64 x &&& BitVec.ofInt 64 (m : Int)).toNat : Int) := rfl
  rw [h3, wr' (by omega) (by omega)]
  omega
theorem bits_mod3 (x : Int) : 0 ≤ Int.tmod (bits .and .i64 x 1023) 3 ∧ Int.tmod (bits .and .i64 x 1023) 3 < 3 := by
  obtain ⟨h1, h2⟩ := bits_and_rng x (m := 1023) (by decide)
  exact ⟨Int.tmod_nonneg _ h1, Int.tmod_lt_of_pos _ (by decide)⟩

def L0 (es : List Ent) : LedS := ⟨0, 0, es⟩
/-- one index and term, one log up to it -/
def LM (x y : List Ent) : Prop := ∀ (j : Nat) (a b : Ent), x[j]? = some a → y[j]? = some b → a.t = b.t → x.take (j + 1) = y.take (j + 1)
theorem LM.symm {x y : List Ent} (h : LM x y) : LM y x := fun j a b ha hb ht => (h j b a hb ha ht.symm).symm
theorem LM.refl (x : List Ent) : LM x x := fun _ _ _ _ _ _ => rfl
theorem LM.take {x y : List Ent} (h : LM x y) (n : Nat) : LM (x.take n) y := fun j a b ha hb ht => by
  rw [List.getElem?_take] at ha
  split at ha
  · rw [List.take_take, Nat.min_eq_left (by omega)]; exact h j a b ha hb ht
  · cases ha
theorem L0_term (es : List Ent) (j : Nat) (hj : j < es.length) : (L0 es).term ((j : Int) + 1) = some es[j].t := by
  simp only [LedS.term]
  rw [if_neg (show ¬ (j : Int) + 1 = (L0 es).i by simp only [L0]; omega), if_neg (show ¬ (j : Int) + 1 < (L0 es).i by simp only [L0]; omega), show ((j : Int) + 1 - (L0 es).i - 1).toNat = j by simp only [L0]; omega]
  simp only [L0]
  rw [List.getElem?_eq_getElem hj]
  rfl

theorem take_law {xs ys : List Ent} (hx : (L0 xs).ok = true) (hy : (L0 ys).ok = true) (hlm : LM xs ys) {prev : Int} (h0 : 0 ≤ prev) (h1 : prev ≤ ys.length) {most : Int} (hm : 0 ≤ most) :
    fitsS prev (atT (L0 ys) prev) (sliceS (L0 ys) (prev + 1) most) = true ∧
    (fitE (L0 xs) prev (atT (L0 ys) prev) (sliceS (L0 ys) (prev + 1) most) = 0 →
      putE (L0 xs) (fitL (L0 xs) prev (atT (L0 ys) prev) (sliceS (L0 ys) (prev + 1) most)) = 0 ∧
      ∃ zs, putS (L0 xs) (fitL (L0 xs) prev (atT (L0 ys) prev) (sliceS (L0 ys) (prev + 1) most)) = L0 zs ∧ (zs = xs ∨ ∃ n, zs = ys.take n)) := by
  obtain ⟨p, rfl⟩ := Int.eq_ofNat_of_zero_le h0
  obtain ⟨m, rfl⟩ := Int.eq_ofNat_of_zero_le hm
  have hS : sliceS (L0 ys) ((p : Int) + 1) m = (ys.drop p).take m := by
    simp only [sliceS]; rw [if_pos (show (p : Int) + 1 > (L0 ys).i by simp only [L0]; omega), show ((p : Int) + 1 - (L0 ys).i - 1).toNat = p by simp only [L0]; omega, Int.toNat_natCast]; rfl
  rw [hS]
  obtain ⟨r1, r2, r3, r4, r5⟩ := LedS.rng hy
  obtain ⟨q1, q2, q3, q4, q5⟩ := LedS.rng hx
  have hcl := chain_len r5 ⟨r1, r2⟩
  have hT : lastT 0 (ys.take p) = atT (L0 ys) p := by
    have := lastT_take (x := L0 ys) (k := p) (by simp only [L0]; omega)
    rw [show (L0 ys).i + (p : Int) = p by simp only [L0]; omega] at this
    exact this
  have htr : 0 ≤ atT (L0 ys) p ∧ atT (L0 ys) p ≤ 1099511627776 := by
    obtain ⟨t, g1, g2, g3⟩ := LedS.term_some hy (j := (p : Int)) (by simp only [L0]; omega) (by simp only [LedS.last, L0]; omega)
    simp only [L0] at g2
    simp only [atT, g1, Option.getD_some]; omega
  have hfit : fitsS p (atT (L0 ys) p) ((ys.drop p).take m) = true := by
    simp only [fitsS, Bool.and_eq_true, decide_eq_true_eq]
    simp only [L0] at hcl
    refine ⟨⟨⟨⟨by omega, by omega⟩, htr.1⟩, htr.2⟩, chain_take ?_ m⟩
    rcases chain_drop p r5 with h | h
    · rw [← hT]
      simp only [L0] at h
      rw [Int.zero_add] at h
      exact h
    · simp only [L0] at h; omega
  refine ⟨hfit, fun hE => ?_⟩
  have hin : ∀ e, e ∈ (ys.drop p).take m → InI e.i := fun e he => by
    obtain ⟨j, hj⟩ := List.getElem?_of_mem (List.mem_of_mem_drop (List.mem_of_mem_take he))
    obtain ⟨c1, _, _, c2, _⟩ := chain_at r5 hj
    simp only [L0] at c1
    exact ⟨by omega, by omega⟩
  obtain ⟨p1, _⟩ := fits_law hx hin hE
  refine ⟨p1, ?_⟩
  obtain ⟨g1, g2, g3, g4⟩ := fit_good hE
  have hL : fitL (L0 xs) p (atT (L0 ys) p) ((ys.drop p).take m) = ((ys.drop p).take m).drop (((ys.drop p).take m).findIdx (newP (L0 xs))) := by simp [fitL, hE]
  rw [hL] at p1 ⊢
  generalize hes : (ys.drop p).take m = es at *
  generalize hk : es.findIdx (newP (L0 xs)) = k at *
  cases hd : es.drop k with
  | nil => exact ⟨xs, rfl, .inl rfl⟩
  | cons e rest =>
    rw [hd] at p1
    have hb : putBad (L0 xs) e rest = false := by
      cases hb : putBad (L0 xs) e rest with
      | false => rfl
      | true => simp [putE, hb] at p1
    have hkl : k < es.length := by
      have := congrArg List.length hd
      simp only [List.length_drop, List.length_cons] at this
      omega
    have hat : ∀ (j : Nat) (y : Ent), es[j]? = some y → ys[p + j]? = some y ∧ j < m := fun j y hj => by
      rw [← hes, List.getElem?_take] at hj
      split at hj
      · rw [List.getElem?_drop] at hj; exact ⟨hj, by omega⟩
      · cases hj
    have hek : es[k]? = some e := by rw [← List.head?_drop, hd]; rfl
    obtain ⟨hyk, hkm⟩ := hat k e hek
    obtain ⟨c1, _⟩ := chain_at r5 hyk
    simp only [L0] at c1
    have hpk : xs.take (p + k) = ys.take (p + k) := by
      have go : ∀ j : Nat, p + k = j + 1 → (j : Int) + 1 ≤ (L0 xs).last → (∀ y, ys[j]? = some y → atT (L0 xs) ((j : Int) + 1) = y.t) → xs.take (p + k) = ys.take (p + k) := fun j hj hl ht => by
        simp only [LedS.last, L0] at hl
        have hjx : j < xs.length := by omega
        have hjy : j < ys.length := by have := (List.getElem?_eq_some_iff.1 hyk).1; omega
        have h2 := ht _ (List.getElem?_eq_getElem hjy)
        simp only [atT, L0_term xs j hjx, Option.getD_some] at h2
        rw [hj]
        exact hlm j _ _ (List.getElem?_eq_getElem hjx) (List.getElem?_eq_getElem hjy) h2
      cases hk0 : k with
      | zero =>
        subst hk0
        cases hp0 : p with
        | zero => rfl
        | succ p' =>
          subst hp0
          refine go p' rfl (by simpa using g2) fun y hy' => ?_
          have hb : atB (L0 xs) ((p' + 1 : Nat) : Int) = true := by rw [LedS.term_iff hx, decide_eq_true_eq]; exact ⟨by simp only [L0]; omega, g2⟩
          have := other_eq g3 hb
          rw [show ((p' : Int) + 1) = ((p' + 1 : Nat) : Int) by omega, this]
          obtain ⟨hlt, he⟩ := List.getElem?_eq_some_iff.1 hy'
          simp only [atT]
          rw [show ((p' + 1 : Nat) : Int) = (p' : Int) + 1 by omega, L0_term ys p' hlt, he]
          rfl
      | succ k' =>
        subst hk0
        have hk'l : k' < es.length := by omega
        obtain ⟨hy', _⟩ := hat k' _ (List.getElem?_eq_getElem hk'l)
        obtain ⟨d1, _⟩ := chain_at r5 hy'
        simp only [L0] at d1
        have hn : newP (L0 xs) es[k'] = false := by
          have := List.not_of_lt_findIdx (p := newP (L0 xs)) (xs := es) (i := k') (by omega)
          simpa using this
        simp only [newP, Bool.and_eq_false_iff, decide_eq_false_iff_not, Bool.or_eq_false_iff] at hn
        rcases hn with hn | ⟨hn1, hn2⟩
        · simp only [L0] at hn; omega
        · refine go (p + k') (by omega) (by omega) fun y hy2 => ?_
          rw [hy'] at hy2
          injection hy2 with hy2
          have hb : atB (L0 xs) es[k'].i = true := by rw [LedS.term_iff hx, decide_eq_true_eq]; exact ⟨by simp only [L0]; omega, by omega⟩
          rw [show ((p + k' : Nat) : Int) + 1 = es[k'].i by omega, other_eq hn2 hb, hy2]
    refine ⟨ys.take (p + m), ?_, .inr ⟨_, rfl⟩⟩
    simp only [putS]
    rw [if_neg (by rw [hb]; decide), show (e.i - 1 - (L0 xs).i) = e.i - 1 - 0 from rfl]
    simp only [L0]
    rw [← hd, ← hes, show (e.i - 1 - 0).toNat = p + k by omega, hpk, List.drop_take, List.drop_drop, ← List.take_add, show p + k + (m - k) = p + m by omega]

/-- the three logs, the term, its owner -/
structure Tri (own : Nat) (term : Int) (ls : List (List Ent)) : Prop where
  lm : ∀ (i j : Nat) (x y : List Ent), ls[i]? = some x → ls[j]? = some y → LM x y
  le : ∀ (i : Nat) (x : List Ent), ls[i]? = some x → ∀ e, e ∈ x → e.t ≤ term
  ow : ∀ (i : Nat) (x o : List Ent), ls[i]? = some x → ls[own]? = some o → ∀ (j : Nat) (e : Ent), x[j]? = some e → e.t = term → j < o.length
theorem set_some {α : Type} {l : List α} {i j : Nat} {x z : α} (h : (l.set i z)[j]? = some x) : (j = i ∧ x = z) ∨ (j ≠ i ∧ l[j]? = some x) := by
  by_cases hij : i = j
  · subst hij
    have hl : i < l.length := by have := (List.getElem?_eq_some_iff.1 h).1; rwa [List.length_set] at this
    rw [List.getElem?_set_self hl] at h
    injection h with h
    exact .inl ⟨rfl, h.symm⟩
  · rw [List.getElem?_set_ne hij] at h
    exact .inr ⟨fun e => hij e.symm, h⟩
theorem Tri.took {own : Nat} {term : Int} {ls : List (List Ent)} (h : Tri own term ls) {i j n : Nat} {y : List Ent} (hi : i ≠ own) (hj : ls[j]? = some y) : Tri own term (ls.set i (y.take n)) where
  lm a b x z hx hz := by
    rcases set_some hx with ⟨rfl, rfl⟩ | ⟨ha, hx'⟩ <;> rcases set_some hz with ⟨rfl, rfl⟩ | ⟨hb, hz'⟩
    · exact LM.refl _
    · exact (h.lm j b y z hj hz').take n
    · exact ((h.lm j a y x hj hx').take n).symm
    · exact h.lm a b x z hx' hz'
  le a x hx e he := by
    rcases set_some hx with ⟨rfl, rfl⟩ | ⟨ha, hx'⟩
    · exact h.le j y hj e (List.mem_of_mem_take he)
    · exact h.le a x hx' e he
  ow a x o hx ho k e hk he := by
    rw [List.getElem?_set_ne hi] at ho
    rcases set_some hx with ⟨rfl, rfl⟩ | ⟨ha, hx'⟩
    · rw [List.getElem?_take] at hk
      split at hk
      · exact h.ow j y o hj ho k e hk he
      · cases hk
    · exact h.ow a x o hx' ho k e hk he
theorem Tri.newTerm {own : Nat} {term : Int} {ls : List (List Ent)} (h : Tri own term ls) (own' : Nat) : Tri own' (term + 1) ls where
  lm := h.lm
  le i x hx e he := by have := h.le i x hx e he; omega
  ow i x o hx ho j e hj he := by have := h.le i x hx e (List.mem_of_getElem? hj); omega
theorem Tri.added {own : Nat} {term : Int} {ls : List (List Ent)} (h : Tri own term ls) {o : List Ent} (ho : ls[own]? = some o) (e : Ent) (he : e.t = term) : Tri own term (ls.set own (o ++ [e])) := by
  have key : ∀ (b : Nat) (z : List Ent), ls[b]? = some z → LM (o ++ [e]) z := fun b z hz j a c ha hc ht => by
    by_cases hj : j < o.length
    · rw [List.getElem?_append_left hj] at ha
      rw [List.take_append_of_le_length (by omega)]
      exact h.lm own b o z ho hz j a c ha hc ht
    · have hj2 := (List.getElem?_eq_some_iff.1 ha).1
      simp only [List.length_append, List.length_cons, List.length_nil] at hj2
      have : j = o.length := by omega
      subst this
      rw [List.getElem?_append_right (Nat.le_refl _), Nat.sub_self] at ha
      simp only [List.getElem?_cons_zero, Option.some.injEq] at ha
      subst ha
      have := h.ow b z o hz ho _ c hc (by omega)
      omega
  exact {
    lm := fun a b x z hx hz => by
      rcases set_some hx with ⟨rfl, rfl⟩ | ⟨ha, hx'⟩ <;> rcases set_some hz with ⟨hb, rfl⟩ | ⟨hb, hz'⟩
      · exact LM.refl _
      · exact key b z hz'
      · exact (key a x hx').symm
      · exact h.lm a b x z hx' hz'
    le := fun a x hx y hy => by
      rcases set_some hx with ⟨rfl, rfl⟩ | ⟨ha, hx'⟩
      · rcases List.mem_append.1 hy with hy | hy
        · exact h.le _ o ho y hy
        · simp only [List.mem_singleton] at hy; rw [hy]; omega
      · exact h.le a x hx' y hy
    ow := fun a x o' hx ho' j y hj hy => by
      rcases set_some ho' with ⟨_, rfl⟩ | ⟨hne, _⟩
      · rcases set_some hx with ⟨rfl, rfl⟩ | ⟨ha, hx'⟩
        · exact (List.getElem?_eq_some_iff.1 hj).1
        · have := h.ow a x o hx' ho j y hj hy
          rw [List.length_append]; omega
      · exact absurd rfl hne }
end Go.Proofs.Ytkigioiahpfkgaa.Con
