/-
  Own work: LedgerFits: the walk, joined with the plain law.
-/
import Derived.Test.YtkigioiahpfkgaaSmall
import Derived.Test.YtkigioiahpfkgaaLaw
namespace Go.Proofs.Ytkigioiahpfkgaa.Con
open Go Go.RowKit Go.Kt Go.Proofs.Ytkigioiahpfkgaa.Vc
set_option linter.unusedSimpArgs false
set_option linter.unusedVariables false

theorem fitE_or (x : LedS) (p t : Int) (es : List Ent) : fitE x p t es = 0 ∨ fitE x p t es = 1 ∨ fitE x p t es = 55 := by
  simp only [fitE]
  split
  · split <;> simp
  · simp
theorem fitN_bad {x : LedS} {p t : Int} {es : List Ent} (h : fitE x p t es ≠ 0) : fitN x p t es = 0 ∧ fitL x p t es = [] := by simp [fitN, fitL, h]

theorem ledgerFits_c {w : World} {F G : Nat → Prop} {l m : Sl} {es ms : List Ent} (hl : Ents w F l es) (hm : Ents w G m ms) (base term prev of : Int) :
    Calls Try.prog 3 #[.int .i64 base, .int .i64 term, Sl.v l, .int .i64 prev, .int .i64 of, Sl.v m] w fun e w' => e = .returned (.bool true) ∧ Only [] w w' := by
  refine ret (pavanelaw24_LedgerFits_wp base term l prev of m (fun v w' => v = _ ∧ Only [] w w') w ?_)
  unfold pavanelaw24_LedgerFits_vc
  have hl' := hl.inHeap rEnt_ok (by decide)
  have hm' := hm.inHeap rEnt_ok (by decide)
  refine (small_c w).mono ?_
  rintro _ w1 ⟨rfl, hO1⟩
  refine ⟨_, rfl, (new_c (Ents.only hl' hO1 (by simp)) base term).mono ?_⟩
  rintro e w2 ⟨hO2, hN, hY⟩
  have hO02 := hO1.tr0 hO2
  cases hf : fitsS base term es with
  | false =>
    rw [hN hf]
    exact ⟨_, _, rfl, fun _ => ⟨rfl, hO02⟩, fun h => by simp at h⟩
  | true =>
  obtain ⟨b, hb, rfl, hL⟩ := hY hf
  refine ⟨_, _, rfl, fun _ => ⟨rfl, hO02⟩, fun hc => ?_⟩
  simp only [Bool.or_eq_false_iff, decide_eq_false_iff_not] at hc
  obtain ⟨⟨_, hp0⟩, hp1⟩ := hc
  have hbl : b < w2.heap.size := by obtain ⟨s, h, _⟩ := hL.at_; exact h.lt
  have hm2 := Ents.only hm' hO02 (by simp)
  refine (fit_c hL hm2 prev of).mono ?_
  rintro _ w3 ⟨x12, rfl, k1, k2⟩
  have hO03 := hO02.tr0 k2
  have hxl := k1.len
  generalize hx : (⟨base, term, es⟩ : LedS) = x at *
  have hxi : x.i = base := by rw [← hx]
  have hxok : x.ok = true := by rw [← hx]; exact hf
  refine ⟨_, x12, _, rfl, fun hc => ⟨?_, hO03⟩, fun hc => ?_⟩
  · have hne : fitE x prev of ms ≠ 0 := by simpa using hc
    obtain ⟨n1, n2⟩ := fitN_bad hne
    rw [n2] at hxl
    rw [n1, hxl]
    rcases fitE_or x prev of ms with h | h | h
    · exact absurd h hne
    · rw [h]; rfl
    · rw [h]; rfl
  have hE : fitE x prev of ms = 0 := by simpa using hc
  obtain ⟨p1, p2, p3, p4, p5⟩ := fits_law hxok (fun e he => by obtain ⟨_, d, _, g⟩ := hm.mem he; exact g.i) hE
  have hL3 := hL.only k2 (by simp)
  have hx12 := (k1.slice rEnt_ok).mono rEnt_ok (G := fun k => w2.heap.size ≤ k) fun k hk => hk.elim id fun h => h.1
  refine (put_c hL3 hx12 (by omega)).mono ?_
  rintro _ w4 ⟨rfl, hL4, q2⟩
  have hO04 : Only [] w w4 := by
    have hs1 := hO1.size
    exact hO03.trans q2 (by simp; omega)
  have hm4 := Ents.only hm' hO04 (by simp)
  refine ⟨_, rfl, (fit_c hL4 hm4 prev of).mono ?_⟩
  rintro _ w5 ⟨x13, rfl, r1, r2⟩
  have hO05 := hO04.tr0 r2
  have hrl := r1.len
  rw [p4] at hrl
  rw [p1, p3]
  generalize hx' : putS x (fitL x prev of ms) = x' at *
  have hfit := (fit_good hE).1
  obtain ⟨f1, f2, f3, f4, f5⟩ := LedS.rng (x := ⟨prev, of, ms⟩) hfit
  dsimp only at f1 f2 f3 f4 f5
  have hcl := chain_len f5 ⟨f1, f2⟩
  have hml := hm.len
  have hmc := hm.cap
  have hN1 : fitN x prev of ms = prev + ms.length := by simp [fitN, hE]
  have hN2 : fitN x' prev of ms = prev + ms.length := by simp [fitN, p3]
  have hone : (((((0 : Int) == 0) && ((0 : Int) == 0)) && (fitN x' prev of ms == fitN x prev of ms)) && (((x13.n : Nat) : Int) == 0) && (IntKind.i64.wrap (fitN x prev of ms - prev) == (m.n : Int))) = true := by
    rw [hN1, hN2, hrl, hml, wr' (by omega) (by omega)]
    simp
    omega
  obtain ⟨xr1, xr2, xr3, xr4, xr5⟩ := LedS.rng hxok
  refine ⟨_, x13, _, rfl, fun _ => ⟨by rw [hone], hO05⟩, fun hc => ?_⟩
  rw [hone] at hc
  have hbase : base ≤ prev + ms.length := by
    rw [hN1] at hc
    have : ¬ (prev + (ms.length : Int) < base) := by simpa using hc
    omega
  rw [hN1]
  have hmax : ∃ fr : Int, (if base > prev then base else prev) = fr ∧ prev ≤ fr ∧ base ≤ fr ∧ fr ≤ prev + ms.length ∧ (fr = base ∨ fr = prev) := by
    refine ⟨_, rfl, ?_⟩
    split <;> omega
  obtain ⟨fr, hfr, fr1, fr2, fr3, fr4⟩ := hmax
  rw [hfr, wr' (x := fr + 1) (by omega) (by omega), wr' (x := prev + ms.length - fr) (by omega) (by omega), wr' (x := fr - prev) (by omega) (by omega)]
  have hL5 := hL4.only r2 (by simp)
  refine (slice_c hL5 (fr + 1) (prev + ms.length - fr) ⟨by omega, by omega⟩ ⟨by omega, by omega⟩).mono ?_
  rintro _ w6 ⟨x4, rfl, s1, s2⟩
  have hO06 := hO05.tr0 s2
  have hlo : (fr - prev).toNat ≤ ms.length := by omega
  refine ⟨x4, rfl, (fr - prev).toNat, ⟨by split <;> omega, by omega, hmc, Nat.le_refl _⟩, ?_⟩
  have hcut : Ents w (fun k => G k ∧ k < w.heap.size) (m.cut (fr - prev).toNat m.n m.c 4) (ms.drop (fr - prev).toNat) := by
    have := hm'.cut (lo := (fr - prev).toNat) (hi := m.n) (m := m.c) (by omega) hmc (Nat.le_refl _) (Nat.le_refl _)
    rwa [hml, List.take_of_length_le (by rw [List.length_drop]; omega), ← hml] at this
  have hx4 := s1.slice rEnt_ok
  -- what both rows are
  have hx'ok : x'.ok = true := hL4.ok
  obtain ⟨y1, y2, y3, y4, y5⟩ := LedS.rng hx'ok
  have hSl : sliceS x' (fr + 1) (prev + ms.length - fr) = (x'.es.drop (fr - base).toNat).take (prev + ms.length - fr).toNat := by
    simp only [sliceS]
    rw [if_pos (by omega), p2, hxi, show fr + 1 - base - 1 = fr - base by omega]
  have hlen : (sliceS x' (fr + 1) (prev + ms.length - fr)).length = (ms.drop (fr - prev).toNat).length := by
    rw [hSl, List.length_take, List.length_drop, List.length_drop]
    have : fr = prev + ms.length ∨ prev + ms.length ≤ x'.last := by
      by_cases h : fr = prev + ms.length
      · exact .inl h
      · refine .inr ?_
        have hj : ms.length - 1 < ms.length := by omega
        have hg := List.getElem?_eq_getElem hj
        obtain ⟨c1, _⟩ := chain_at f5 hg
        have := (p5 _ (List.getElem_mem hj) (by omega)).1
        omega
    simp only [LedS.last] at this
    omega
  have hat : ∀ (j : Nat) (a c : Ent), (sliceS x' (fr + 1) (prev + ms.length - fr))[j]? = some a → (ms.drop (fr - prev).toNat)[j]? = some c → a.i = c.i ∧ a.t = c.t := by
    intro j a c ha hc
    rw [hSl, List.getElem?_take] at ha
    split at ha
    · rw [List.getElem?_drop] at ha hc
      obtain ⟨c1, _⟩ := chain_at f5 hc
      obtain ⟨d1, _⟩ := chain_at y5 ha
      have hlt := (p5 c (List.mem_of_getElem? hc) (by omega)).2
      have hai : a.i = c.i := by omega
      refine ⟨hai, ?_⟩
      rw [← hlt]
      simp only [atT, LedS.term]
      rw [if_neg (by omega), if_neg (by omega), show (c.i - x'.i - 1).toNat = (fr - base).toNat + j by omega, ha]
      rfl
    · cases ha
  have hcn := hcut.len
  have hxn := hx4.len
  refine ⟨fun nv i w' => ∃ n : Nat, i = (n : Int) ∧ nv = x4.n - n ∧ Only [] w6 w', x4.n, ⟨0, rfl, rfl, Only.refl _ _⟩, ?_⟩
  rintro nv _ w7 ⟨n, rfl, rfl, hO7⟩
  have hO07 := hO06.tr0 hO7
  refine ⟨fun hc => ?_, fun hc => ⟨?_, hO07⟩⟩
  · simp only [Bool.and_eq_true, decide_eq_true_eq] at hc
    obtain ⟨hc1, hc2⟩ := hc
    obtain ⟨ad, a, cs, t1, t2, t3, t4, t5, d, rfl, t6⟩ := (Ents.only hx4 hO7 (by simp)).get (Int.natCast_nonneg n) hc1
    obtain ⟨ad', c, cs', u1, u2, u3, u4, u5, d', rfl, u6⟩ := (Ents.only hcut hO07 (by simp)).get (Int.natCast_nonneg n) hc2
    rw [Int.toNat_natCast] at t2 u2
    obtain ⟨v1, v2⟩ := hat n a c t2 u2
    refine ⟨ad, t1, a.i, t5.at1 0 _ rfl, ad', u1, c.i, u5.at1 0 _ rfl, ad, fun _ => t1, a.t, fun _ => t5.at1 1 _ rfl, ad', fun _ => u1, c.t, fun _ => u5.at1 1 _ rfl, fun hne => ?_, fun _ w8 hO8 => ?_⟩
    · rw [v1, v2] at hne
      simp at hne
    · have hbig := hx4.big
      have hcap := hx4.cap
      rw [wr' (x := (n : Int) + 1) (by omega) (by omega)]
      exact ⟨x4.n - (n + 1), by omega, n + 1, by omega, rfl, hO7.tr0 hO8⟩
  · rw [hxn, hcn, hlen]
    simp
end Go.Proofs.Ytkigioiahpfkgaa.Con
