/-
  Own work: an expression's text, written into a page.
-/
import Derived.Test.YtmanockofcopjaaDoorShape
import Derived.Test.YtmanockofcopjaaDoorPstr
namespace Go.Proofs.YtmanockofcopjaaDoor.Con
open Go Go.RowKit Go.Kt Go.Kt.V Go.Proofs.YtmanockofcopjaaDoor.Vc
set_option linter.unusedSimpArgs false
set_option linter.unusedVariables false
set_option maxHeartbeats 4000000

/-! ## the model -/
def opn (wr : Bool) (l : List UInt8) : List UInt8 := if wr then l ++ [40] else l
def clo (wr : Bool) (l : List UInt8) : List UInt8 := if wr then l ++ [41] else l
def pgM : Nat → Ex → Bool → List UInt8 → List UInt8
  | 0, _, _, l => l
  | d + 1, x, wr, l => if 16384 < l.length then l else clo wr (
    if x.k = 1 then opn wr l ++ Lib.itoa x.n
    else if x.k = 2 then opn wr l ++ x.s
    else if x.k = 3 then opn wr l ++ ([105, 110, 40] ++ x.s ++ [41])
    else if x.k = 4 then (match x.subs with
      | [y] => pgM d y (decide (levM y < 6)) (opn wr l ++ opTx x.op.toNat)
      | _ => l)
    else (match x.subs with
      | [y, z] => pgM d z (decide (levM z ≤ levM x)) (pgM d y (decide (levM y < levM x)) (opn wr l) ++ ([32] ++ opTx x.op.toNat ++ [32]))
      | _ => l))
def cntL (f : Ex → Nat) : List Ex → Nat
  | [] => 0
  | x :: xs => f x + cntL f xs
def cntM : Nat → Ex → Nat
  | 0, _ => 0
  | d + 1, x => 1 + cntL (cntM d) x.subs
/-- numbers are numbers of the machine -/
def numOk : Nat → Ex → Prop
  | 0, _ => True
  | d + 1, x => InI x.n ∧ ∀ y, y ∈ x.subs → numOk d y
section
variable {x : Ex}
theorem eqM_t {n : Int} {s : List UInt8} {op len : Int} (h : eqM n s op len x = true) : x.n = n ∧ x.s = s ∧ x.op = op ∧ (x.subs.length : Int) = len := by
  simp only [eqM, Bool.and_eq_true, beq_iff_eq, decide_eq_true_eq] at h
  exact ⟨h.1.1.1, h.1.1.2, h.1.2, h.2⟩
theorem head23 (h : headM x = true) (hk : x.k = 2 ∨ x.k = 3) : nameM x.s = true := by
  have h1 : x.k ≠ 1 := by omega
  rw [headM, if_neg h1, if_pos hk, Bool.and_eq_true] at h
  exact h.1
theorem head4 (h : headM x = true) (hk : x.k = 4) : ∃ y, x.subs = [y] ∧ (x.op = 14 ∨ x.op = 15) := by
  rw [headM, if_neg (by omega), if_neg (by omega), if_pos hk] at h
  obtain ⟨_, _, h3, h4⟩ := eqM_t h
  obtain ⟨y, hy⟩ := List.length_eq_one_iff.1 (show x.subs.length = 1 by omega)
  refine ⟨y, hy, ?_⟩
  by_cases h15 : x.op = 15
  · exact .inr h15
  · rw [if_neg h15] at h3; exact .inl h3
theorem head5 (h : headM x = true) (h1 : x.k ≠ 1) (h2 : x.k ≠ 2) (h3 : x.k ≠ 3) (h4 : x.k ≠ 4) : x.k = 5 ∧ ∃ y z, x.subs = [y, z] ∧ 1 ≤ x.op ∧ x.op ≤ 13 := by
  rw [headM, if_neg h1, if_neg (by omega), if_neg h4] at h
  split at h
  · rename_i h5
    rw [Bool.and_eq_true] at h
    obtain ⟨h6, h7⟩ := h
    obtain ⟨_, _, _, h8⟩ := eqM_t h7
    have h6 : rowOf x.op ≠ 6 := by simpa using h6
    have h2l : x.subs.length = 2 := by omega
    obtain ⟨y, z, hy⟩ : ∃ y z, x.subs = [y, z] := by
      match hm : x.subs, h2l with
      | [y, z], _ => exact ⟨y, z, rfl⟩
    refine ⟨h5, y, z, hy, ?_⟩
    unfold rowOf at h6
    refine Decidable.byContradiction fun hn => h6 ?_
    rw [if_neg (by omega), if_neg (by omega), if_neg (by omega), if_neg (by omega), if_neg (by omega), if_neg (by omega)]
  · cases h
theorem name_len {s : List UInt8} (h : nameM s = true) : s.length ≤ 24 := by
  unfold nameM at h
  simp only [Bool.and_eq_true] at h
  exact (of_decide_eq_true h.1.1.1).2
theorem opTx_len (n : Nat) : (opTx n).length ≤ 2 := by
  rcases Nat.lt_or_ge n 16 with h | h
  · have : ∀ q, q < 16 → (opTx q).length ≤ 2 := by decide
    exact this n h
  · unfold opTx
    rw [List.getElem?_eq_none (by exact h)]
    decide
theorem opn_len (wr : Bool) (l : List UInt8) : (opn wr l).length ≤ l.length + 1 := by
  unfold opn
  cases wr <;> simp
theorem clo_len (wr : Bool) (l : List UInt8) : (clo wr l).length ≤ l.length + 1 := by
  unfold clo
  cases wr <;> simp
theorem pg_len : ∀ (d : Nat) {x : Ex} (wr : Bool) (l : List UInt8), shapeM d x = true → numOk d x → (pgM d x wr l).length ≤ l.length + 40 * cntM d x
  | 0, x, wr, l, h, _ => by cases h
  | d + 1, x, wr, l, h, ⟨hn, hs⟩ => by
    rw [shapeM, Bool.and_eq_true] at h
    obtain ⟨hh, ha⟩ := h
    have h1 := opn_len wr l
    rw [pgM, cntM]
    split
    · omega
    refine Nat.le_trans (clo_len _ _) ?_
    split
    · rw [List.length_append]
      have := Lib.itoa_length_le x.n hn.1 hn.2
      omega
    · split
      · rename_i hk
        rw [List.length_append]
        have := name_len (head23 hh (.inl hk))
        omega
      · split
        · rename_i hk
          rw [List.length_append, List.length_append, List.length_append]
          have := name_len (head23 hh (.inr hk))
          simp only [List.length_cons, List.length_nil]
          omega
        · split
          · rename_i hk
            obtain ⟨y, hy, _⟩ := head4 hh hk
            rw [hy] at ha hs ⊢
            dsimp only
            simp only [all1, Bool.and_true, cntL] at ha ⊢
            have := pg_len d (decide (levM y < 6)) (opn wr l ++ opTx x.op.toNat) ha (hs y (by simp))
            rw [List.length_append] at this
            have := opTx_len x.op.toNat
            omega
          · rename_i k1 k2 k3 k4
            obtain ⟨hk, y, z, hy, _⟩ := head5 hh k1 k2 k3 k4
            rw [hy] at ha hs ⊢
            dsimp only
            simp only [all1, Bool.and_true, cntL, Bool.and_eq_true] at ha ⊢
            have a1 := pg_len d (decide (levM y < levM x)) (opn wr l) ha.1 (hs y (by simp))
            have a2 := pg_len d (decide (levM z ≤ levM x)) (pgM d y (decide (levM y < levM x)) (opn wr l) ++ ([32] ++ opTx x.op.toNat ++ [32])) ha.2 (hs z (by simp))
            rw [List.length_append, List.length_append, List.length_append] at a2
            have := opTx_len x.op.toNat
            simp only [List.length_cons, List.length_nil] at a2
            omega
end

/-! ## where a page is written -/
structure Pz (d : Nat) (F G : Nat → Prop) (k0 b : Nat) (sub sn : Sl) (subs : List Ex) (w : World) (sl : Sl) (l : List UInt8) : Prop where
  pg : Pg G w b sl sn l
  tb : Tb w
  own : k0 ≠ b ∧ sl.a ≠ some ⟨k0, 0, none⟩ ∧ k0 < w.heap.size
  sb : SliceF (rEx d) 6 w F sub subs
  hF : ∀ k, F k → k < b
  hT : 1 < b
section
variable {d : Nat} {F G : Nat → Prop} {k0 b : Nat} {sx sn sl sl' : Sl} {subs : List Ex} {w w' w'' : World} {l l' : List UInt8}
theorem Pg.out (h : Pg G w b sl sn l) {k : Nat} (hk : k < b) : ¬ (k = b ∨ sl.a = some ⟨k, 0, none⟩) := by
  rintro (e | e)
  · omega
  · have := (h.buf.lt e).1; omega
theorem Pz.only (h : Pz d F G k0 b sx sn subs w sl l) (hO : Only [] w w') : Pz d F G k0 b sx sn subs w' sl l := by
  have z := hO.size
  exact ⟨h.pg.only hO, h.tb.only hO, ⟨h.own.1, h.own.2.1, by have := h.own.2.2; omega⟩, SliceF.only (rEx_ok d) (by decide) h.sb hO (by simp), h.hF, h.hT⟩
theorem Pz.mv (h : Pz d F G k0 b sx sn subs w sl l) (hp : Pg G w' b sl' sn l') (hm : Mv b sl w sl' w') : Pz d F G k0 b sx sn subs w' sl' l' ∧ Same [k0] w w' ∧ Keeps (fun k => k < b ∨ k = k0) w w' := by
  have z := hm.1.size
  obtain ⟨o1, o2, o3⟩ := h.own
  refine ⟨⟨hp, h.tb.keep fun hlt => hm.1.block _ hlt (h.pg.out h.hT), ⟨o1, fun e => ?_, by omega⟩, SliceF.onlyP (rEx_ok d) (by decide) h.sb hm.1 fun k hk _ => h.pg.out (h.hF k hk), h.hF, h.hT⟩, hm.same o1 o2 o3, fun k hk hlt => hm.1.block k hlt ?_⟩
  · rcases hm.2 k0 e with e | e
    · exact o2 e
    · omega
  · rcases hk with hk | rfl
    · exact h.pg.out hk
    · rintro (e | e)
      · exact o1 e
      · exact o2 e
theorem Mv.after (h : Mv b sl w' sl' w'') (hO : Only [] w w') : Mv b sl w sl' w'' := (Mv.only hO).trans h
theorem Pz.same (h : Pz d F G k0 b sx sn subs w sl l) (hO : Only [] w w') : Same [k0] w w' := hO.same (by have := h.own.2.2; simp; omega)
theorem Pz.sig (h : Pz d F G k0 b sx sn subs w sl l) {op : Int} (h0 : 0 ≤ op) (h1 : op < 16) : ∃ ad, SlAt sn op 1 ad ∧ Cells w ad [.string (T (opTx op.toNat))] := by
  have hn := h.pg.sig.len
  have hol : opsL.length = 16 := rfl
  obtain ⟨ad, x, cs, g1, g2, g3, g4, g5, g6⟩ := h.pg.sig.get h0 (by omega)
  unfold rTx at g6
  subst g6
  have hx : opTx op.toNat = x := by unfold opTx; rw [g2]; rfl
  subst hx
  exact ⟨ad, g1, g5⟩
theorem Pz.sub (h : Pz d F G k0 b sx sn subs w sl l) {i : Nat} {y : Ex} (hy : subs[i]? = some y) : ∃ ad sy, SlAt sx (i : Int) 6 ad ∧ ad.block < b ∧ Cells w ad (exv y.k y.n y.s y.op sy y.a) ∧ rEx d w F y (exv y.k y.n y.s y.op sy y.a) := by
  have hn := h.sb.len
  have hlt := (List.getElem?_eq_some_iff.1 hy).1
  obtain ⟨ad, x, cs, g1, g2, g3, g4, g5, g6⟩ := h.sb.get (Int.natCast_nonneg i) (by omega)
  rw [Int.toNat_natCast, hy] at g2
  injection g2 with g2
  subst g2
  obtain ⟨sy, rfl⟩ := rEx_cells g6
  exact ⟨ad, sy, g1, h.hF _ g3, g5, g6⟩
end
abbrev PgC (d : Nat) : Prop := ∀ {G F : Nat → Prop} {w : World} {b : Nat} {sl sn : Sl} {l : List UInt8} {x : Ex} {cs : List Value} (wr : Bool), shapeM d x = true → numOk d x → rEx d w F x cs → (∀ k, F k → k < b) → Tb w → 1 < b → Pg G w b sl sn l → l.length + 40 * cntM d x ≤ 70368744177664 →
  Calls Tryd.prog 11 #[.pointer (some ⟨b, 0, none⟩), .agg cs.toArray, .bool wr] w fun e w' => ∃ sl', e = .returned (.tuple #[]) ∧ Pg G w' b sl' sn (pgM d x wr l) ∧ Mv b sl w sl' w'
theorem inb (s : List UInt8) : ByteArray.mk #[105, 110, 40] ++ T s ++ ByteArray.mk #[41] = T ([105, 110, 40] ++ s ++ [41]) := by
  rw [show ByteArray.mk #[105, 110, 40] = T [105, 110, 40] from rfl, show ByteArray.mk #[41] = T [41] from rfl, T_app, T_app]
theorem blb (s : List UInt8) : ByteArray.mk #[32] ++ T s ++ ByteArray.mk #[32] = T ([32] ++ s ++ [32]) := by
  rw [show ByteArray.mk #[32] = T [32] from rfl, T_app, T_app]
theorem inz (c : ByteArray) (s : List UInt8) : (c ++ T s).size = c.size + s.length := by
  rw [show c = T c.data.toList from T_of c, T_app, T_size, T_size, List.length_append]
theorem CallsR.mono {P : Program} {f : FuncId} {a : Array Value} {w : World} {Q Q' : Value → World → Prop} (h : CallsR P f a w Q) (hq : ∀ v w', Q v w' → Q' v w') : CallsR P f a w Q' := fun c cs hc => by
  obtain ⟨e, u', w', fr, ⟨h1, v, h2, h3⟩, h4⟩ := h c cs hc
  exact ⟨e, u', w', fr, ⟨h1, v, h2, hq _ _ h3⟩, h4⟩
theorem page_c : ∀ d, PgC d
  | 0, _, _, _, _, _, _, _, _, _, _, _, _, h, _, _, _, _, _ => h.elim
  | d + 1, G, F, w, b, sl, sG, l, x, cs, wr, hsh, ⟨hni, hns⟩, ⟨xs, h1, h2⟩, hF, hT, hTb, hP, hlen => by
    subst h1
    refine (expr_page_expr_wp ⟨b, 0, none⟩ x.k x.n (T x.s) x.op xs x.a wr (fun v w' => ∃ sl', v = .tuple #[] ∧ Pg G w' b sl' sG (pgM (d + 1) x wr l) ∧ Mv b sl w sl' w') w ?_).mono (by
      rintro e w' ⟨v, rfl, s, rfl, h⟩; exact ⟨s, rfl, h⟩)
    have hx : rEx (d + 1) w F x (exv x.k x.n x.s x.op xs x.a) := ⟨xs, rfl, h2⟩
    rw [shapeM, Bool.and_eq_true] at hsh
    obtain ⟨hh, ha⟩ := hsh
    rw [cntM] at hlen
    unfold expr_page_expr_vc
    intro k0 w0 hk0 hk0' hO0
    have hb := hP.lb
    have hz0 : Pz d F G k0 b xs sG x.subs w0 sl l := ⟨hP.only hO0, hT.only hO0, ⟨by omega, fun e => by have := (hP.buf.lt e).2; omega, hk0'⟩, SliceF.only (rEx_ok d) (by decide) h2 hO0 (by simp), hF, hTb⟩
    refine (plen_c hz0.pg).mono ?_
    rintro _ w1 ⟨rfl, rfl⟩
    refine ⟨_, rfl, fun _ _ => rfl, fun hc => ⟨sl, rfl, ?_, (Mv.only hO0)⟩, fun hc => ?_⟩
    · rw [pgM, if_pos (by have := of_decide_eq_true hc; omega)]
      exact hz0.pg
    have hc : ¬ 16384 < l.length := by have := of_decide_eq_false hc; omega
    have hpg : pgM (d + 1) x wr l = clo wr (
    if x.k = 1 then opn wr l ++ Lib.itoa x.n
    else if x.k = 2 then opn wr l ++ x.s
    else if x.k = 3 then opn wr l ++ ([105, 110, 40] ++ x.s ++ [41])
    else if x.k = 4 then (match x.subs with
      | [y] => pgM d y (decide (levM y < 6)) (opn wr l ++ opTx x.op.toNat)
      | _ => l)
    else (match x.subs with
      | [y, z] => pgM d z (decide (levM z ≤ levM x)) (pgM d y (decide (levM y < levM x)) (opn wr l) ++ ([32] ++ opTx x.op.toNat ++ [32]))
      | _ => l)) := by rw [pgM, if_neg hc]
    have hol := opn_len wr l
    refine ⟨fun hw => (wbyte_c hz0.pg 40 (by omega)).mono ?_, fun hw => ?_⟩
    · rintro _ w2 ⟨sl2, rfl, hp2, hm2⟩
      obtain ⟨hz2, hs2, _⟩ := hz0.mv hp2 hm2
      have hopn : l ++ [40] = opn wr l := by unfold opn; rw [if_pos hw]
      rw [hopn] at hz2
      refine ⟨⟨.nilIface, rfl⟩, rfl, hs2, ?_⟩
      have fin : ∀ {sl5 : Sl} {w5 : World} {m : List UInt8}, Pz d F G k0 b xs sG x.subs w5 sl5 m → Mv b sl2 w2 sl5 w5 → pgM (d + 1) x wr l = clo wr m → m.length ≤ l.length + 40 * (1 + cntL (cntM d) x.subs) → CallsR Tryd.prog 27 #[.pointer (some ((⟨b, 0, none⟩ : Addr).add 0)), .int .u8 41] w5 fun _ w' => ∃ sl', (Value.tuple #[]) = .tuple #[] ∧ Pg G w' b sl' sG (pgM (d + 1) x wr l) ∧ Mv b sl w sl' w' := by
        intro sl5 w5 m hz5 hm5 he hml
        have hd := wbyte_d hz5.pg 41 (by omega)
        refine CallsR.mono hd ?_
        rintro v w' ⟨sl', hv, hp', hm'⟩
        refine ⟨sl', rfl, ?_, ((hm2.after hO0).trans hm5).trans hm'⟩
        rw [he]
        unfold clo
        rw [if_pos hw]
        exact hp'
      refine ⟨fun hk w3 hO3 => ?_, fun k1 => ⟨fun hk w7 hO7 => ?_, fun k2 => ⟨fun hk => ⟨?_, ?_, fun w10 hO10 => ?_⟩, fun k3 => ⟨fun hk w13 hO13 => ?_, fun k4 => (level_c (show rEx (d + 1) _ F x (exv x.k x.n x.s x.op xs x.a) from ⟨xs, rfl, hz2.sb⟩)).mono ?_⟩⟩⟩⟩
      · have hk : x.k = 1 := by simpa using hk
        have hz3 := hz2.only hO3
        refine (ctext_c x.n hni hz3.tb).mono ?_
        rintro _ w4 ⟨rfl, hO4⟩
        have hz4 := hz3.only hO4
        have hl := Lib.itoa_length_le x.n hni.1 hni.2
        refine ⟨_, rfl, hz3.same hO4, (wstr_c hz4.pg (Lib.itoa x.n) (by omega)).mono ?_⟩
        rintro _ w5 ⟨sl5, rfl, hp5, hm5⟩
        obtain ⟨hz5, hs5, _⟩ := hz4.mv hp5 hm5
        exact ⟨_, ⟨.nilIface, rfl⟩, rfl, hs5, fin hz5 ((hm5.after hO4).after hO3) (by rw [hpg, if_pos hk]) (by rw [List.length_append]; omega)⟩
      · have hk : x.k = 2 := by simpa using hk
        have k1 : x.k ≠ 1 := by omega
        have hz7 := hz2.only hO7
        have hl := name_len (head23 hh (.inl hk))
        refine (wstr_c hz7.pg x.s (by omega)).mono ?_
        rintro _ w8 ⟨sl5, rfl, hp5, hm5⟩
        obtain ⟨hz5, hs5, _⟩ := hz7.mv hp5 hm5
        exact ⟨_, ⟨.nilIface, rfl⟩, rfl, hs5, fin hz5 (hm5.after hO7) (by rw [hpg, if_neg k1, if_pos hk]) (by rw [List.length_append]; omega)⟩
      · have hk : x.k = 3 := by simpa using hk
        have hl := name_len (head23 hh (.inr hk))
        rw [T_size]
        omega
      · have hk : x.k = 3 := by simpa using hk
        have hl := name_len (head23 hh (.inr hk))
        rw [inz]
        have : (ByteArray.mk #[105, 110, 40]).size = 3 := rfl
        omega
      · have hk : x.k = 3 := by simpa using hk
        have hl := name_len (head23 hh (.inr hk))
        have hz10 := hz2.only hO10
        have hl2 : ([105, 110, 40] ++ x.s ++ [41] : List UInt8).length = x.s.length + 4 := by
          rw [List.length_append, List.length_append]
          simp only [List.length_cons, List.length_nil]
          omega
        rw [inb]
        refine (wstr_c hz10.pg _ (by omega)).mono ?_
        rintro _ w11 ⟨sl5, rfl, hp5, hm5⟩
        obtain ⟨hz5, hs5, _⟩ := hz10.mv hp5 hm5
        exact ⟨_, ⟨.nilIface, rfl⟩, rfl, hs5, fin hz5 (hm5.after hO10) (by rw [hpg, if_neg (by omega), if_neg (by omega), if_pos hk]) (by rw [List.length_append]; omega)⟩
      · have hk : x.k = 4 := by simpa using hk
        obtain ⟨y, hy, hop⟩ := head4 hh hk
        have hcnt : cntL (cntM d) x.subs = cntM d y := by rw [hy]; simp [cntL]
        have hay : shapeM d y = true := by rw [hy] at ha; simpa [all1] using ha
        have hny : numOk d y := hns y (by rw [hy]; simp)
        have hotl := opTx_len x.op.toNat
        have hz13 := hz2.only hO13
        obtain ⟨q, hq, hB⟩ := hz13.pg.blk
        obtain ⟨ad, g1, g2⟩ := hz13.sig (op := x.op) (by omega) (by omega)
        refine ⟨sG, Blk.at1 hB 2 rfl, ad, g1, _, g2, (wstr_c hz13.pg (opTx x.op.toNat) (by omega)).mono ?_⟩
        rintro _ w14 ⟨sl14, rfl, hp14, hm14⟩
        obtain ⟨hz14, hs14, _⟩ := hz13.mv hp14 hm14
        refine ⟨_, ⟨.nilIface, rfl⟩, rfl, hs14, fun w15 hO15 => ?_⟩
        have hz15 := hz14.only hO15
        obtain ⟨p1, sy, e1, e2, e3, e4⟩ := hz15.sub (i := 0) (y := y) (by rw [hy]; rfl)
        refine ⟨fun k => k < b ∨ k = k0, .inr rfl, p1, e1, .inl e2, _, _, _, _, _, _, e3, p1, e1, _, _, _, _, _, _, e3, (level_c e4).mono ?_⟩
        rintro _ w16 ⟨rfl, hO16⟩
        have hz16 := hz15.only hO16
        have hpl := pg_len d (decide (levM y < 6)) (opn wr l ++ opTx x.op.toNat) hay hny
        rw [List.length_append] at hpl
        refine ⟨_, rfl, hz15.same hO16, Keeps.only hO16, (page_c d (decide (levM y < 6)) hay hny (rEx_only e4 hO16) hF hz16.tb hTb hz16.pg (by rw [List.length_append]; omega)).mono ?_⟩
        rintro _ w17 ⟨sl17, rfl, hp17, hm17⟩
        obtain ⟨hz17, hs17, hk17⟩ := hz16.mv hp17 hm17
        exact ⟨rfl, hs17, hk17, fin hz17 ((hm14.after hO13).trans ((hm17.after hO16).after hO15)) (by rw [hpg, if_neg (by omega), if_neg (by omega), if_neg (by omega), if_pos hk, hy]) (by omega)⟩
      · rintro _ w19 ⟨rfl, hO19⟩
        have k1 : x.k ≠ 1 := by simpa using k1
        have k2 : x.k ≠ 2 := by simpa using k2
        have k3 : x.k ≠ 3 := by simpa using k3
        have k4 : x.k ≠ 4 := by simpa using k4
        obtain ⟨hk, y, z, hy, ho1, ho2⟩ := head5 hh k1 k2 k3 k4
        have hcnt : cntL (cntM d) x.subs = cntM d y + cntM d z := by rw [hy]; simp [cntL]
        have hays : shapeM d y = true ∧ shapeM d z = true := by rw [hy] at ha; simpa [all1] using ha
        have hny : numOk d y := hns y (by rw [hy]; simp)
        have hnz : numOk d z := hns z (by rw [hy]; simp)
        have hotl := opTx_len x.op.toNat
        have hz19 := hz2.only hO19
        refine ⟨_, rfl, hz2.same hO19, fun w20 hO20 => ?_⟩
        have hz20 := hz19.only hO20
        obtain ⟨p1, sy, e1, e2, e3, e4⟩ := hz20.sub (i := 0) (y := y) (by rw [hy]; rfl)
        refine ⟨fun k => k < b ∨ k = k0, .inr rfl, p1, e1, .inl e2, _, _, _, _, _, _, e3, p1, e1, _, _, _, _, _, _, e3, (level_c e4).mono ?_⟩
        rintro _ w21 ⟨rfl, hO21⟩
        have hz21 := hz20.only hO21
        have hpl := pg_len d (decide (levM y < levM x)) (opn wr l) hays.1 hny
        refine ⟨_, rfl, hz20.same hO21, Keeps.only hO21, (page_c d (decide (levM y < levM x)) hays.1 hny (rEx_only e4 hO21) hF hz21.tb hTb hz21.pg (by omega)).mono ?_⟩
        rintro _ w22 ⟨sl22, rfl, hp22, hm22⟩
        obtain ⟨hz22, hs22, hk22⟩ := hz21.mv hp22 hm22
        refine ⟨rfl, hs22, hk22, fun w23 hO23 => ?_⟩
        have hz23 := hz22.only hO23
        obtain ⟨q, hq, hB⟩ := hz23.pg.blk
        obtain ⟨ad, g1, g2⟩ := hz23.sig (op := x.op) (by omega) (by omega)
        have hl2 : ([32] ++ opTx x.op.toNat ++ [32] : List UInt8).length = (opTx x.op.toNat).length + 2 := by
          rw [List.length_append, List.length_append]
          simp only [List.length_cons, List.length_nil]
          omega
        have hb1 : (ByteArray.mk #[32]).size = 1 := rfl
        refine ⟨sG, Blk.at1 hB 2 rfl, ad, g1, _, g2, by rw [T_size]; omega, by rw [inz]; omega, ?_⟩
        rw [blb]
        refine (wstr_c hz23.pg _ (by omega)).mono ?_
        rintro _ w24 ⟨sl24, rfl, hp24, hm24⟩
        obtain ⟨hz24, hs24, _⟩ := hz23.mv hp24 hm24
        refine ⟨_, ⟨.nilIface, rfl⟩, rfl, hs24, fun w25 hO25 => ?_⟩
        have hz25 := hz24.only hO25
        obtain ⟨p2, sz, f1, f2, f3, f4⟩ := hz25.sub (i := 1) (y := z) (by rw [hy]; rfl)
        refine ⟨fun k => k < b ∨ k = k0, .inr rfl, p2, f1, .inl f2, _, _, _, _, _, _, f3, p2, f1, _, _, _, _, _, _, f3, (level_c f4).mono ?_⟩
        rintro _ w26 ⟨rfl, hO26⟩
        have hz26 := hz25.only hO26
        have hpl2 := pg_len d (decide (levM z ≤ levM x)) (pgM d y (decide (levM y < levM x)) (opn wr l) ++ ([32] ++ opTx x.op.toNat ++ [32])) hays.2 hnz
        rw [List.length_append, hl2] at hpl2
        refine ⟨_, rfl, hz25.same hO26, Keeps.only hO26, (page_c d (decide (levM z ≤ levM x)) hays.2 hnz (rEx_only f4 hO26) hF hz26.tb hTb hz26.pg (by rw [List.length_append, hl2]; omega)).mono ?_⟩
        rintro _ w27 ⟨sl27, rfl, hp27, hm27⟩
        obtain ⟨hz27, hs27, hk27⟩ := hz26.mv hp27 hm27
        exact ⟨rfl, hs27, hk27, fin hz27 (((hm22.after hO21).after hO20).after hO19 |>.trans ((hm24.after hO23).trans ((hm27.after hO26).after hO25))) (by rw [hpg, if_neg k1, if_neg k2, if_neg k3, if_neg k4, hy]) (by omega)⟩
    · have hopn : l = opn wr l := by unfold opn; rw [hw]; rfl
      have hz2 : Pz d F G k0 b xs sG x.subs w1 sl (opn wr l) := by rw [← hopn]; exact hz0
      have fin : ∀ {sl5 : Sl} {w5 : World} {m : List UInt8}, Pz d F G k0 b xs sG x.subs w5 sl5 m → Mv b sl w1 sl5 w5 → pgM (d + 1) x wr l = clo wr m → m.length ≤ l.length + 40 * (1 + cntL (cntM d) x.subs) → ∃ sl', (Value.tuple #[]) = .tuple #[] ∧ Pg G w5 b sl' sG (pgM (d + 1) x wr l) ∧ Mv b sl w sl' w5 := by
        intro sl5 w5 m hz5 hm5 he hml
        refine ⟨sl5, rfl, ?_, hm5.after hO0⟩
        rw [he]
        unfold clo
        rw [hw]
        exact hz5.pg
      refine ⟨fun hk w3 hO3 => ?_, fun k1 => ⟨fun hk w7 hO7 => ?_, fun k2 => ⟨fun hk => ⟨?_, ?_, fun w10 hO10 => ?_⟩, fun k3 => ⟨fun hk w13 hO13 => ?_, fun k4 => (level_c (show rEx (d + 1) _ F x (exv x.k x.n x.s x.op xs x.a) from ⟨xs, rfl, hz2.sb⟩)).mono ?_⟩⟩⟩⟩
      · have hk : x.k = 1 := by simpa using hk
        have hz3 := hz2.only hO3
        refine (ctext_c x.n hni hz3.tb).mono ?_
        rintro _ w4 ⟨rfl, hO4⟩
        have hz4 := hz3.only hO4
        have hl := Lib.itoa_length_le x.n hni.1 hni.2
        refine ⟨_, rfl, hz3.same hO4, (wstr_c hz4.pg (Lib.itoa x.n) (by omega)).mono ?_⟩
        rintro _ w5 ⟨sl5, rfl, hp5, hm5⟩
        obtain ⟨hz5, hs5, _⟩ := hz4.mv hp5 hm5
        exact ⟨_, ⟨.nilIface, rfl⟩, rfl, hs5, fin hz5 ((hm5.after hO4).after hO3) (by rw [hpg, if_pos hk]) (by rw [List.length_append]; omega)⟩
      · have hk : x.k = 2 := by simpa using hk
        have k1 : x.k ≠ 1 := by omega
        have hz7 := hz2.only hO7
        have hl := name_len (head23 hh (.inl hk))
        refine (wstr_c hz7.pg x.s (by omega)).mono ?_
        rintro _ w8 ⟨sl5, rfl, hp5, hm5⟩
        obtain ⟨hz5, hs5, _⟩ := hz7.mv hp5 hm5
        exact ⟨_, ⟨.nilIface, rfl⟩, rfl, hs5, fin hz5 (hm5.after hO7) (by rw [hpg, if_neg k1, if_pos hk]) (by rw [List.length_append]; omega)⟩
      · have hk : x.k = 3 := by simpa using hk
        have hl := name_len (head23 hh (.inr hk))
        rw [T_size]
        omega
      · have hk : x.k = 3 := by simpa using hk
        have hl := name_len (head23 hh (.inr hk))
        rw [inz]
        have : (ByteArray.mk #[105, 110, 40]).size = 3 := rfl
        omega
      · have hk : x.k = 3 := by simpa using hk
        have hl := name_len (head23 hh (.inr hk))
        have hz10 := hz2.only hO10
        have hl2 : ([105, 110, 40] ++ x.s ++ [41] : List UInt8).length = x.s.length + 4 := by
          rw [List.length_append, List.length_append]
          simp only [List.length_cons, List.length_nil]
          omega
        rw [inb]
        refine (wstr_c hz10.pg _ (by omega)).mono ?_
        rintro _ w11 ⟨sl5, rfl, hp5, hm5⟩
        obtain ⟨hz5, hs5, _⟩ := hz10.mv hp5 hm5
        exact ⟨_, ⟨.nilIface, rfl⟩, rfl, hs5, fin hz5 (hm5.after hO10) (by rw [hpg, if_neg (by omega), if_neg (by omega), if_pos hk]) (by rw [List.length_append]; omega)⟩
      · have hk : x.k = 4 := by simpa using hk
        obtain ⟨y, hy, hop⟩ := head4 hh hk
        have hcnt : cntL (cntM d) x.subs = cntM d y := by rw [hy]; simp [cntL]
        have hay : shapeM d y = true := by rw [hy] at ha; simpa [all1] using ha
        have hny : numOk d y := hns y (by rw [hy]; simp)
        have hotl := opTx_len x.op.toNat
        have hz13 := hz2.only hO13
        obtain ⟨q, hq, hB⟩ := hz13.pg.blk
        obtain ⟨ad, g1, g2⟩ := hz13.sig (op := x.op) (by omega) (by omega)
        refine ⟨sG, Blk.at1 hB 2 rfl, ad, g1, _, g2, (wstr_c hz13.pg (opTx x.op.toNat) (by omega)).mono ?_⟩
        rintro _ w14 ⟨sl14, rfl, hp14, hm14⟩
        obtain ⟨hz14, hs14, _⟩ := hz13.mv hp14 hm14
        refine ⟨_, ⟨.nilIface, rfl⟩, rfl, hs14, fun w15 hO15 => ?_⟩
        have hz15 := hz14.only hO15
        obtain ⟨p1, sy, e1, e2, e3, e4⟩ := hz15.sub (i := 0) (y := y) (by rw [hy]; rfl)
        refine ⟨fun k => k < b ∨ k = k0, .inr rfl, p1, e1, .inl e2, _, _, _, _, _, _, e3, p1, e1, _, _, _, _, _, _, e3, (level_c e4).mono ?_⟩
        rintro _ w16 ⟨rfl, hO16⟩
        have hz16 := hz15.only hO16
        have hpl := pg_len d (decide (levM y < 6)) (opn wr l ++ opTx x.op.toNat) hay hny
        rw [List.length_append] at hpl
        refine ⟨_, rfl, hz15.same hO16, Keeps.only hO16, (page_c d (decide (levM y < 6)) hay hny (rEx_only e4 hO16) hF hz16.tb hTb hz16.pg (by rw [List.length_append]; omega)).mono ?_⟩
        rintro _ w17 ⟨sl17, rfl, hp17, hm17⟩
        obtain ⟨hz17, hs17, hk17⟩ := hz16.mv hp17 hm17
        exact ⟨rfl, hs17, hk17, fin hz17 ((hm14.after hO13).trans ((hm17.after hO16).after hO15)) (by rw [hpg, if_neg (by omega), if_neg (by omega), if_neg (by omega), if_pos hk, hy]) (by omega)⟩
      · rintro _ w19 ⟨rfl, hO19⟩
        have k1 : x.k ≠ 1 := by simpa using k1
        have k2 : x.k ≠ 2 := by simpa using k2
        have k3 : x.k ≠ 3 := by simpa using k3
        have k4 : x.k ≠ 4 := by simpa using k4
        obtain ⟨hk, y, z, hy, ho1, ho2⟩ := head5 hh k1 k2 k3 k4
        have hcnt : cntL (cntM d) x.subs = cntM d y + cntM d z := by rw [hy]; simp [cntL]
        have hays : shapeM d y = true ∧ shapeM d z = true := by rw [hy] at ha; simpa [all1] using ha
        have hny : numOk d y := hns y (by rw [hy]; simp)
        have hnz : numOk d z := hns z (by rw [hy]; simp)
        have hotl := opTx_len x.op.toNat
        have hz19 := hz2.only hO19
        refine ⟨_, rfl, hz2.same hO19, fun w20 hO20 => ?_⟩
        have hz20 := hz19.only hO20
        obtain ⟨p1, sy, e1, e2, e3, e4⟩ := hz20.sub (i := 0) (y := y) (by rw [hy]; rfl)
        refine ⟨fun k => k < b ∨ k = k0, .inr rfl, p1, e1, .inl e2, _, _, _, _, _, _, e3, p1, e1, _, _, _, _, _, _, e3, (level_c e4).mono ?_⟩
        rintro _ w21 ⟨rfl, hO21⟩
        have hz21 := hz20.only hO21
        have hpl := pg_len d (decide (levM y < levM x)) (opn wr l) hays.1 hny
        refine ⟨_, rfl, hz20.same hO21, Keeps.only hO21, (page_c d (decide (levM y < levM x)) hays.1 hny (rEx_only e4 hO21) hF hz21.tb hTb hz21.pg (by omega)).mono ?_⟩
        rintro _ w22 ⟨sl22, rfl, hp22, hm22⟩
        obtain ⟨hz22, hs22, hk22⟩ := hz21.mv hp22 hm22
        refine ⟨rfl, hs22, hk22, fun w23 hO23 => ?_⟩
        have hz23 := hz22.only hO23
        obtain ⟨q, hq, hB⟩ := hz23.pg.blk
        obtain ⟨ad, g1, g2⟩ := hz23.sig (op := x.op) (by omega) (by omega)
        have hl2 : ([32] ++ opTx x.op.toNat ++ [32] : List UInt8).length = (opTx x.op.toNat).length + 2 := by
          rw [List.length_append, List.length_append]
          simp only [List.length_cons, List.length_nil]
          omega
        have hb1 : (ByteArray.mk #[32]).size = 1 := rfl
        refine ⟨sG, Blk.at1 hB 2 rfl, ad, g1, _, g2, by rw [T_size]; omega, by rw [inz]; omega, ?_⟩
        rw [blb]
        refine (wstr_c hz23.pg _ (by omega)).mono ?_
        rintro _ w24 ⟨sl24, rfl, hp24, hm24⟩
        obtain ⟨hz24, hs24, _⟩ := hz23.mv hp24 hm24
        refine ⟨_, ⟨.nilIface, rfl⟩, rfl, hs24, fun w25 hO25 => ?_⟩
        have hz25 := hz24.only hO25
        obtain ⟨p2, sz, f1, f2, f3, f4⟩ := hz25.sub (i := 1) (y := z) (by rw [hy]; rfl)
        refine ⟨fun k => k < b ∨ k = k0, .inr rfl, p2, f1, .inl f2, _, _, _, _, _, _, f3, p2, f1, _, _, _, _, _, _, f3, (level_c f4).mono ?_⟩
        rintro _ w26 ⟨rfl, hO26⟩
        have hz26 := hz25.only hO26
        have hpl2 := pg_len d (decide (levM z ≤ levM x)) (pgM d y (decide (levM y < levM x)) (opn wr l) ++ ([32] ++ opTx x.op.toNat ++ [32])) hays.2 hnz
        rw [List.length_append, hl2] at hpl2
        refine ⟨_, rfl, hz25.same hO26, Keeps.only hO26, (page_c d (decide (levM z ≤ levM x)) hays.2 hnz (rEx_only f4 hO26) hF hz26.tb hTb hz26.pg (by rw [List.length_append, hl2]; omega)).mono ?_⟩
        rintro _ w27 ⟨sl27, rfl, hp27, hm27⟩
        obtain ⟨hz27, hs27, hk27⟩ := hz26.mv hp27 hm27
        exact ⟨rfl, hs27, hk27, fin hz27 (((hm22.after hO21).after hO20).after hO19 |>.trans ((hm24.after hO23).trans ((hm27.after hO26).after hO25))) (by rw [hpg, if_neg k1, if_neg k2, if_neg k3, if_neg k4, hy]) (by omega)⟩
end Go.Proofs.YtmanockofcopjaaDoor.Con
