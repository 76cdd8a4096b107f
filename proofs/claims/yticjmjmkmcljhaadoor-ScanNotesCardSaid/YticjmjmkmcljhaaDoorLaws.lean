/-
  Own work: ScanCuts, ScanNames, ScanNamed.
-/
import Derived.Test.YticjmjmkmcljhaaDoorRef3
namespace Go.Proofs.YticjmjmkmcljhaaDoor.Con
open Go Go.RowKit Go.Kt Go.Kt.V Go.Proofs.YticjmjmkmcljhaaDoor.Vc
set_option linter.unusedSimpArgs false
set_option linter.unusedVariables false
set_option maxHeartbeats 4000000

theorem cuts_c {w : World} (l : List UInt8) (hE : Er w) : Calls Tryd.prog 3 #[.string (T l)] w fun e w' => e = .returned (.bool true) ∧ Only [] w w' := by
  refine ret (pavanelaw04_ScanCuts_wp (T l) (fun v w' => v = .bool true ∧ Only [] w w') w ?_)
  unfold pavanelaw04_ScanCuts_vc
  refine (small_c w hE).mono ?_
  rintro _ w0 ⟨rfl, hO0⟩
  refine ⟨true, rfl, (tokens_c l (hE.only hO0)).mono ?_⟩
  rintro _ w1 ⟨l0, rfl, h0, hO1⟩
  refine ⟨l0, _, _, rfl, fun k0 w2 hk0 hk0' hO2 => (tokens_c l (hE.only (hO0.tr0 (hO1.tr0 hO2)))).mono ?_⟩
  rintro _ w3 ⟨l1, rfl, h1, hO3⟩
  have z0 := hO0.size
  have z1 := hO1.size
  have z3 := hO3.size
  refine ⟨l1, _, _, rfl, hO3.same (by simp; omega), fun k1 w4 hk1 hk1' hO4 => (rtokens_c w4 l).mono ?_⟩
  rintro _ w5 ⟨l2, rfl, h2, hO5⟩
  have z5 := hO5.size
  have z4 := hO4.size
  refine ⟨l2, _, _, rfl, hO5.same (by simp; omega), fun k2 w6 hk2 hk2' hO6 => ?_⟩
  have z6 := hO6.size
  generalize (tokensM l).2.1 = e1 at *
  generalize (tokensM l).2.2 = e2 at *
  generalize (tokensM l).1 = xs at *
  have b0 := fun {ad} => h0.blk (ad := ad)
  have b1 := fun {ad} => h1.blk (ad := ad)
  have b2 := fun {ad} => h2.blk (ad := ad)
  have h0 := h0.only (hO2.tr0 (hO3.tr0 (hO4.tr0 (hO5.tr0 hO6))))
  have h1 := h1.only (hO4.tr0 (hO5.tr0 hO6))
  have h2 := h2.only hO6
  refine (rsame_c h0.sl h2.sl).mono ?_
  rintro _ w7 ⟨rfl, hO7⟩
  have z7 := hO7.size
  rw [decide_eq_true rfl]
  have hlen := (h0.only hO7).len
  have hcap := (h0.only hO7).sl.cap
  have hbig := (h0.only hO7).sl.big
  refine ⟨true, rfl, hO7.same (by simp; omega), fun nv i w' => ∃ (n : Nat) (ys : List Tk), n ≤ xs.length ∧ i = (n : Int) ∧ nv = xs.length - n ∧ ys.length = xs.length ∧ OwnK w0.heap.size w' l0 ys ∧ OnlyP (fun k => w0.heap.size ≤ k ∧ k < w1.heap.size) w7 w', xs.length, ⟨0, xs, Nat.zero_le _, rfl, rfl, rfl, h0.only hO7, OnlyP.refl _ _⟩, ?_⟩
  rintro nv _ w8 ⟨n, ys, hn, rfl, rfl, hys, ho8, hO8⟩
  have z8 := hO8.size
  refine ⟨fun hc => ?_, fun hc => ?_⟩
  · have hlt : (n : Int) < l0.n := of_decide_eq_true hc
    obtain ⟨g, cells, a1, a2, a3, a4, a5⟩ := Own.store (n := n) (G := fun _ => False) rTk_ok ho8 (by omega) (x := ⟨0, [115, 112, 111, 105, 108, 116], 0, 0⟩) (vs := [.int .i64 0, .string (ByteArray.mk #[115, 112, 111, 105, 108, 116]), .int .i64 0, .int .i64 0]) rfl rfl (fun k hk _ => hk.elim) (by decide)
    have hg := b0 a1
    dsimp only at hg
    refine ⟨_, a2, g, n * 4, cells, _, rfl, a3, a4, by omega, by omega, by omega, fun w9 hO9 hB9 => ⟨xs.length - (n + 1), by omega, n + 1, _, by omega, by rw [wr' (by omega) (by omega)]; rfl, rfl, ?_, a5 w9 hO9 hB9, hO8.trans (hO9.p (F := fun k => k = g) fun x hx => .inl (by simpa using hx)) fun k hk => .inl (by omega)⟩⟩
    rw [List.length_set]; exact hys
  · have p1 : OwnK w2.heap.size w8 l1 xs := (h1.only hO7).p hO8 fun k hk _ hd => by omega
    have p2 : OwnK w4.heap.size w8 l2 xs := (h2.only hO7).p hO8 fun k hk _ hd => by omega
    refine (rsame_c p1.sl p2.sl).mono ?_
    rintro _ w10 ⟨rfl, hO10⟩
    rw [decide_eq_true rfl]
    refine ⟨true, rfl, hO10.same (by simp; omega), by simp, ?_⟩
    have c7 := hO0.tr0 (hO1.tr0 (hO2.tr0 (hO3.tr0 (hO4.tr0 (hO5.tr0 (hO6.tr0 hO7))))))
    exact (((c7.p0 (F := fun k => w.heap.size ≤ k)).trans hO8 fun k hk => .inl (by omega)).tr0 hO10).only fun k hk => hk

theorem names_c {w : World} (l : List UInt8) (hl : l.length < 4611686018427387903) (hE : Er w) : Calls Tryd.prog 5 #[.string (T l)] w fun e w' => e = .returned (.bool true) ∧ Only [] w w' := by
  refine ret (pavanelaw04_ScanNames_wp (T l) (fun v w' => v = .bool true ∧ Only [] w w') w ?_)
  unfold pavanelaw04_ScanNames_vc
  refine (small_c w hE).mono ?_
  rintro _ w0 ⟨rfl, hO0⟩
  refine ⟨true, rfl, (words_c w0).mono ?_⟩
  rintro _ w1 ⟨l0, rfl, h0, hO1⟩
  refine ⟨l0, rfl, (rwords_c w1).mono ?_⟩
  rintro _ w2 ⟨l1, rfl, h1, hO2⟩
  have z0 := hO0.size
  have z1 := hO1.size
  have z2 := hO2.size
  have n0 := h0.len
  have n1 := h1.len
  have b0 := fun {ad} => h0.blk (ad := ad)
  have hw16 : wordsL.length = 16 := rfl
  refine ⟨l1, rfl, fun hc => ?_, fun hc => ?_⟩
  · have : ¬ (l0.n : Int) = l1.n := by simpa using hc
    omega
  have f0 := (flatS h0).only rTx_ok (by decide) hO2 (by simp)
  refine ⟨fun nv i w' => ∃ (n : Nat) (ys : List (List UInt8)), n ≤ 16 ∧ i = (n : Int) ∧ nv = 16 - n ∧ ys.length = 16 ∧ (∀ j, n ≤ j → ys[j]? = wordsL[j]?) ∧ Own rTx 1 9 w0.heap.size w' (fun _ => False) l0 ys ∧ OnlyP (fun k => w0.heap.size ≤ k ∧ k < w1.heap.size) w2 w', 16, ⟨0, wordsL, Nat.zero_le _, rfl, rfl, rfl, fun _ _ => rfl, ?_, OnlyP.refl _ _⟩, ?_⟩
  · have : Own rTx 1 9 w0.heap.size w1 (fun _ => False) l0 wordsL := by
      rcases h0 with h | ⟨g, css, tail, a1, a2, a4, a5, a6, a7, a9, a8⟩
      · exact .inl h
      · exact .inr ⟨g, css, tail, a1, a2, a4, a5, a6, a7, a9, All2.imp (fun _ _ h => h) a8⟩
    exact this.keep rTx_ok fun k hk hlt => hO2.block k hlt (by simp)
  rintro nv _ w3 ⟨n, ys, hn, rfl, rfl, hys, hyw, ho3, hO3⟩
  have z3 := hO3.size
  have f1 : SliceF rTx 1 w3 _ l1 wordsL := SliceF.onlyP rTx_ok (by decide) (flatS h1) hO3 fun k hk _ hd => by omega
  refine ⟨fun hc => ?_, fun hc => ?_⟩
  · have hlt : (n : Int) < l0.n := of_decide_eq_true hc
    have hlt' : n < 16 := by omega
    obtain ⟨bd, y, ds, f1', f2, f3, f4, f5, f6⟩ := f1.get (Int.natCast_nonneg n) (by omega)
    obtain ⟨ad, x, cs, g1, g2, g3, g4, g5, g6⟩ := ((ho3.slice rTx_ok)).get (Int.natCast_nonneg n) hlt
    rw [Int.toNat_natCast] at g2 f2
    have hxy : x = y := by
      have := hyw n (Nat.le_refl _)
      rw [g2, f2] at this
      injection this
    subst hxy
    unfold rTx at g6 f6
    subst g6
    subst f6
    refine ⟨ad, g1, _, g5, bd, f1', _, f5, ?_⟩
    rw [T_eq, decide_eq_true rfl]
    refine ⟨fun e => (by cases e), fun _ => ⟨ad, g1, fun w5 hO5 => ?_⟩⟩
    have ho5 : Own rTx 1 9 w0.heap.size w5 (fun _ => False) l0 ys := ho3.keep rTx_ok fun k hk hlt => hO5.block k hlt (by simp)
    obtain ⟨g, cells, a1, a2, a3, a4, a5⟩ := Own.store (n := n) (G := fun _ => False) rTx_ok ho5 (by omega) (x := [115, 112, 111, 105, 108, 116]) (vs := [.string (ByteArray.mk #[115, 112, 111, 105, 108, 116])]) rfl rfl (fun k hk _ => hk.elim) (by decide)
    have := SlAt.uniq g1 a2
    subst this
    have hg := b0 a1
    dsimp only at hg
    refine ⟨g, n * 1, cells, _, rfl, a3, a4, fun w6 hO6 hB6 => ⟨16 - (n + 1), by omega, n + 1, _, by omega, by rw [wr' (by omega) (by omega)]; rfl, rfl, by rw [List.length_set]; exact hys, fun j hj => ?_, a5 w6 hO6 hB6, (hO3.tr0 hO5).trans (hO6.p (F := fun k => k = g) fun x hx => .inl (by simpa using hx)) fun k hk => .inl (by omega)⟩⟩
    rw [List.getElem?_set_ne (by omega)]
    exact hyw j (by omega)
  · have c3 : Only [] w w3 := (((hO0.tr0 (hO1.tr0 hO2)).p0 (F := fun k => w.heap.size ≤ k)).trans hO3 fun k hk => .inl (by omega)).only fun k hk => hk
    refine (words_c w3).mono ?_
    rintro _ w7 ⟨l2, rfl, h2, hO7⟩
    have n2 := h2.len
    refine ⟨l2, rfl, fun b w' => b = true ∧ Only [] w w', fun b w' h => ⟨by rw [h.1], h.2⟩, fun _ w9 hO9 => (name_c l (by omega)).mono ?_, fun e => (by cases e)⟩
    rintro _ w10 ⟨rfl, hO10⟩
    refine ⟨_, rfl, (rname_c w10 l hl).mono ?_⟩
    rintro _ w11 ⟨rfl, hO11⟩
    have h711 := hO9.tr0 (hO10.tr0 hO11)
    refine ⟨_, rfl, fun _ => ⟨fun _ => ?_, fun hne => ?_⟩, fun hne => (by simp at hne)⟩
    · obtain ⟨ad, x, cs, g1, g2, g3, g4, g5, g6⟩ := ((flatS h2).only rTx_ok (by decide) h711 (by simp)).get (i := 0) (Int.le_refl _) (by omega)
      obtain ⟨bd, y, ds, f1', f2, f3, f4, f5, f6⟩ := (f1.only rTx_ok (by decide) (hO7.tr0 h711) (by simp)).get (i := 0) (Int.le_refl _) (by omega)
      rw [g2] at f2
      injection f2 with f2
      subst f2
      unfold rTx at g6 f6
      subst g6
      subst f6
      refine ⟨ad, g1, _, g5, bd, f1', _, f5, ?_, c3.tr0 (hO7.tr0 h711)⟩
      rw [T_eq, decide_eq_true rfl]
    · have : ¬ (l2.n : Int) = l1.n := by simpa using hne
      omega

/-! ## a name is one token -/
theorem name_skip {l : List UInt8} (h : nameM l = true) : skN false l = 0 ∧ tokR l = .ok (1, l, 0, l.length) ∧ 0 < l.length := by
  unfold nameM at h
  simp only [Bool.and_eq_true, decide_eq_true_eq, Bool.not_eq_true'] at h
  obtain ⟨⟨⟨⟨h1, h2⟩, h3⟩, h4⟩, h5⟩ := h
  cases l with
  | nil => exact absurd rfl h1
  | cons c r =>
    dsimp only at h3
    refine ⟨?_, ?_, by simp⟩
    · have hc : blankB c = false ∧ (c == 47) = false := by
        simp only [letterB, Bool.or_eq_true, Bool.and_eq_true, decide_eq_true_eq, beq_iff_eq] at h3
        constructor
        · rw [Bool.eq_false_iff]
          intro hb
          unfold blankB at hb
          rw [List.contains_iff_mem] at hb
          simp only [List.mem_cons, List.not_mem_nil, or_false] at hb
          rcases hb with rfl | rfl | rfl | rfl <;> simp at h3
        · rw [Bool.eq_false_iff]
          intro hb
          simp only [beq_iff_eq] at hb
          subst hb
          simp at h3
      rw [skN, if_neg (by rw [hc.1]; decide), if_neg (by rw [hc.2]; simp)]
    · rw [tokR, if_pos h3, wordR, h4, if_neg (by omega), if_neg (by rw [h5]; decide)]
theorem toks_end {l : List UInt8} : toks l l.length = .ok [⟨5, [], 0, (l.length : Nat)⟩] := by
  have e : skN false (l.drop l.length) = 0 := by rw [List.drop_of_length_le (Nat.le_refl _)]; rfl
  rw [toks_step (Nat.le_refl _), e, Nat.add_zero, if_pos (Nat.le_refl _)]
/-- is it one token, a name, that is the whole? -/
def oneM (l : List UInt8) : Bool := decide ((tokensM l).2.1 = 0) && (match (tokensM l).1 with
  | [a, _] => decide (a.k = 1) && decide (a.t = l)
  | _ => false)
theorem named {l : List UInt8} (hl : l.length ≤ 16384) : nameM l = oneM l := by
  have htm : tokensM l = match toks l 0 with
    | .error x => ([], x.1, (x.2 : Nat))
    | .ok r => (r, 0, 0) := by
      rw [tokensM, if_neg (by omega)] <;> rfl
  have hst := toks_step (l := l) (i := 0) (Nat.zero_le _)
  rw [Nat.zero_add, List.drop_zero] at hst
  rw [Bool.eq_iff_iff]
  constructor
  · intro h
    obtain ⟨h1, h2, h3⟩ := name_skip h
    rw [h1, List.drop_zero, h2, if_neg (by omega)] at hst
    dsimp only at hst
    rw [Nat.zero_add, toks_end] at hst
    unfold oneM
    rw [htm, hst]
    simp
  · intro h
    unfold oneM at h
    rw [htm] at h
    by_cases hj : l.length ≤ skN false l
    · rw [if_pos hj] at hst
      rw [hst] at h
      simp at h
    rw [if_neg hj] at hst
    cases hq : tokR (l.drop (skN false l)) with
    | error e =>
      rw [hq] at hst
      rw [hst] at h
      simp at h
    | ok q =>
      rw [hq] at hst
      dsimp only at hst
      cases hr : toks l (skN false l + q.2.2.2) with
      | error x =>
        rw [hr] at hst
        rw [hst] at h
        simp at h
      | ok r =>
        rw [hr] at hst
        rw [hst] at h
        dsimp only at h
        obtain ⟨y, rfl⟩ : ∃ y, r = [y] := by
          match r, h with
          | [y], _ => exact ⟨y, rfl⟩
          | [], h => simp at h
          | _ :: _ :: _, h => simp at h
        simp only [Bool.and_eq_true, decide_eq_true_eq] at h
        obtain ⟨_, hk, ht⟩ := h
        generalize hm : l.drop (skN false l) = m at *
        have hml : m.length = l.length - skN false l := by rw [← hm, List.length_drop]
        cases m with
        | nil => simp only [List.length_nil] at hml; omega
        | cons c r =>
          simp only [tokR] at hq
          split at hq
          · rename_i hc
            unfold wordR at hq
            split at hq
            · cases hq
            · rename_i h24
              injection hq with hq
              subst hq
              dsimp only at hk ht
              have hnw : wordsL.contains ((c :: r).takeWhile wordB) = false := by
                cases hw : wordsL.contains ((c :: r).takeWhile wordB) with
                | false => rfl
                | true => rw [hw] at hk; simp at hk
              have hle := while_len (p := wordB) (l := c :: r)
              rw [ht] at hle hnw h24
              have hz : skN false l = 0 := by omega
              rw [hz, List.drop_zero] at hm
              subst hm
              unfold nameM
              simp only [Bool.and_eq_true, decide_eq_true_eq, Bool.not_eq_true']
              exact ⟨⟨⟨⟨by simp, by omega⟩, hc⟩, ht⟩, hnw⟩
          · split at hq
            · unfold numR at hq
              split at hq
              · cases hq
              · split at hq
                · cases hq
                · injection hq with hq
                  subst hq
                  simp at hk
            · unfold signR at hq
              split at hq
              · cases hq
              · injection hq with hq
                subst hq
                simp at hk
theorem name_more {l : List UInt8} (h : nameM l = true) : nameM (l ++ [95]) = decide (l.length < 24) := by
  have h0 := h
  unfold nameM at h ⊢
  simp only [Bool.and_eq_true, decide_eq_true_eq, Bool.not_eq_true'] at h
  obtain ⟨⟨⟨⟨h1, h2⟩, h3⟩, h4⟩, h5⟩ := h
  have hw : wordsL.contains (l ++ [95]) = false := by
    rw [Bool.eq_false_iff]
    intro hh
    rw [List.contains_iff_mem] at hh
    have : ∀ x, x ∈ wordsL → ¬ (95 : UInt8) ∈ x := by decide +kernel
    exact this _ hh (by simp)
  have ht : (l ++ [95]).takeWhile wordB = l ++ [95] := by
    rw [List.takeWhile_append_of_pos]
    · rfl
    · intro a ha
      rw [← h4] at ha
      exact while_all a ha
  cases l with
  | nil => exact absurd rfl h1
  | cons c r =>
    dsimp only at h3
    rw [hw, ht]
    dsimp only [List.cons_append]
    rw [h3, Bool.eq_iff_iff]
    simp
    omega
theorem named_c {w : World} (l : List UInt8) (hl : l.length < 4611686018427387903) (hE : Er w) : Calls Tryd.prog 6 #[.string (T l)] w fun e w' => e = .returned (.bool true) ∧ Only [] w w' := by
  refine ret (pavanelaw04_ScanNamed_wp (T l) (fun v w' => v = .bool true ∧ Only [] w w') w ?_)
  unfold pavanelaw04_ScanNamed_vc
  rw [T_size]
  refine (small_c w hE).mono ?_
  rintro _ w0 ⟨rfl, hO0⟩
  refine ⟨true, rfl, fun hc => ⟨fun b w' => b = true ∧ Only [] w w', fun b w' h => ⟨by rw [h.1], h.2⟩, fun _ => (name_c l (by omega)).mono ?_, fun e => (by cases e)⟩, fun hc => (name_c l (by omega)).mono ?_⟩
  · rintro _ w2 ⟨rfl, hO2⟩
    refine ⟨_, rfl, ?_, hO0.tr0 hO2⟩
    have : nameM l = false := by
      have hc := of_decide_eq_true hc
      unfold nameM
      rw [decide_eq_false (by omega)]
      rfl
    rw [this]; rfl
  rintro _ w3 ⟨rfl, hO3⟩
  have hll : l.length ≤ 16384 := by have := of_decide_eq_false hc; omega
  have hO03 := hO0.tr0 hO3
  refine ⟨_, rfl, (tokens_c l (hE.only hO03)).mono ?_⟩
  rintro _ w4 ⟨l0, rfl, h0, hO4⟩
  refine ⟨l0, _, _, rfl, fun k0 w5 hk0 hk0' hO5 => ?_⟩
  have hO05 := hO03.tr0 (hO4.tr0 hO5)
  have hs := (h0.only hO5).sl
  have hlen := hs.len
  have hn := named hll
  -- the first token
  obtain ⟨p, x, hx⟩ : ∃ (p : Addr) (x : Tk), (l0.n : Int) = 2 → SlAt l0 0 4 p ∧ Cells w5 p [.int .i64 x.k, .string (T x.t), .int .i64 x.n, .int .i64 x.a] ∧ ∃ y, (tokensM l).1 = [x, y] := by
    by_cases h2 : (l0.n : Int) = 2
    · obtain ⟨ad, x, cs, g1, g2, g3, g4, g5, g6⟩ := hs.get (i := 0) (Int.le_refl _) (by omega)
      unfold rTk at g6
      subst g6
      refine ⟨ad, x, fun _ => ⟨g1, g5, ?_⟩⟩
      match hq : (tokensM l).1, hlen with
      | [a, b], _ =>
        rw [hq] at g2
        simp only [Int.toNat_zero, List.getElem?_cons_zero, Option.some.injEq] at g2
        exact ⟨b, by rw [g2]⟩
      | [], hlen => simp at hlen; omega
      | [_], hlen => simp at hlen; omega
      | _ :: _ :: _ :: _, hlen => simp at hlen; omega
    · exact ⟨⟨0, 0, none⟩, ⟨0, [], 0, 0⟩, fun h => absurd h h2⟩
  have cnd : ∀ {b : Bool}, (b && ((l0.n : Int) == 2)) = true → (l0.n : Int) = 2 := fun h => by
    rw [Bool.and_eq_true] at h
    simpa using h.2
  have eqn : ((((((tokensM l).2.1 == 0) && ((l0.n : Int) == 2)) && (x.k == 1)) && ((T x.t).toList == (T l).toList))) = nameM l := by
    rw [hn, T_eq]
    unfold oneM
    by_cases h2 : (l0.n : Int) = 2
    · obtain ⟨_, _, y, hy⟩ := hx h2
      rw [hy, h2, Bool.eq_iff_iff]
      simp only [Bool.and_eq_true, beq_iff_eq, decide_eq_true_eq]
      constructor
      · rintro ⟨⟨⟨a, _⟩, b⟩, c⟩; exact ⟨a, b, c⟩
      · rintro ⟨a, b, c⟩; exact ⟨⟨⟨a, trivial⟩, b⟩, c⟩
    · have e : ((l0.n : Int) == 2) = false := by simpa using h2
      rw [e, Bool.and_false, Bool.false_and, Bool.false_and]
      symm
      rw [Bool.and_eq_false_iff]
      right
      match hq : (tokensM l).1 with
      | [a, b] => rw [hq] at hlen; simp at hlen; omega
      | [] => rfl
      | [_] => rfl
      | _ :: _ :: _ :: _ => rfl
  refine ⟨p, fun h => (hx (cnd h)).1, x.k, fun h => (hx (cnd h)).2.1.at1 0 _ rfl, p, fun h => (hx (cnd (Bool.and_eq_true _ _ ▸ h).1)).1, T x.t, fun h => (hx (cnd (Bool.and_eq_true _ _ ▸ h).1)).2.1.at1 1 _ rfl, ?_⟩
  rw [eqn]
  refine ⟨fun b w' => b = true ∧ Only [] w w', fun b w' h => ⟨by rw [h.1], h.2⟩, fun _ => ⟨fun _ => ⟨rfl, hO05⟩, fun hb => ⟨by omega, ?_⟩⟩, fun e => (by simp at e)⟩
  have hb : nameM l = true := by simpa using hb
  have e95 : T l ++ (ByteArray.mk #[95]) = T (l ++ [95]) := T_app l [95]
  rw [e95]
  refine (name_c (l ++ [95]) (by rw [List.length_append, List.length_singleton]; omega)).mono ?_
  rintro _ w7 ⟨rfl, hO7⟩
  have z5 := hO5.size
  refine ⟨_, rfl, hO7.same (by simp; omega), ?_, hO05.tr0 hO7⟩
  rw [name_more hb, Bool.eq_iff_iff]
  simp
  omega
end Go.Proofs.YticjmjmkmcljhaaDoor.Con
