
/-
  Own work: what the functions of the scan package do: signs, tokens, names.
-/
import Derived.Test.YtmanockofcopjaaGreatDoorCon3
namespace Go.Proofs.YtmanockofcopjaaGreatDoor.Con
open Go Go.RowKit Go.Kt Go.Kt.V Go.Proofs.YtmanockofcopjaaGreatDoor.Vc
set_option linter.unusedSimpArgs false
set_option linter.unusedVariables false
set_option maxHeartbeats 4000000

theorem freeze_cell (w : World) (p : Addr) (n : Nat) (a : Addr) : (w.freeze p n).cell? a = w.cell? a := by
  unfold World.freeze
  split
  · rfl
  · unfold World.cell?
    simp only [Array.getElem?_modify]
    by_cases hpa : p.block = a.block
    · rw [if_pos hpa]
      cases h : w.heap[a.block]? with
      | none => rfl
      | some o =>
        cases o with
        | cells c e f => obtain ⟨lo, hi⟩ := f; rfl
        | _ => rfl
    · rw [if_neg hpa]
theorem freeze_only (w : World) (p : Addr) (n : Nat) : OnlyP (fun k => k = p.block) w (w.freeze p n) := by
  unfold World.freeze
  split
  · exact OnlyP.refl _ _
  · exact ⟨rfl, rfl, rfl, by simp, fun k hk hn => by
      simp only [Array.getElem?_modify]
      rw [if_neg fun e => hn e.symm]⟩
/-- bytes made of a literal -/
theorem conv_b {w : World} {F : Nat → Prop} {s : Sl} {g B : Nat} {l : List UInt8} (ha : s.a = some ⟨g, 0, none⟩) (h : Own rByte 1 5 B w F s l) (hlt : g < w.heap.size) :
    ∃ w', (convert 161 161 (Sl.v s)).run Tryz.prog w = .ok (Sl.v s) w' ∧ SliceF rByte 1 w' (fun _ => True) s l ∧ OnlyP (fun k => k = g) w w' := by
  have hs := flatB h
  obtain ⟨g', css, tail, a1, a2, a4, _⟩ := h.resolve_left (fun e => by rw [e.1] at ha; cases ha)
  rw [ha] at a1
  injection a1 with a1
  injection a1 with a1
  subst a1
  have hsh : w.shape? g = some (5, (css.flatten ++ tail).toArray.size) := by
    unfold World.shape?
    unfold Blk at a4
    rw [a4]
  have hu : Tryz.prog.underlying 161 = some (.slice 5) := by kernel_rfl
  have hu2 : Tryz.prog.underlying 5 = some (.int .u8) := by kernel_rfl
  refine ⟨w.freeze ⟨g, (css.flatten ++ tail).toArray.size, none⟩ 1, ?_, ⟨hs.len, hs.cap, hs.nil0, hs.big, fun j x hj => ?_⟩, freeze_only w ⟨g, (css.flatten ++ tail).toArray.size, none⟩ 1⟩
  · unfold Sl.v
    rw [ha]
    simp [convert, run_underlying hu, run_underlying hu2, markStringish, hsh, Result.andThen]
  · obtain ⟨base, cs, g1, g2, g3, g4, g5⟩ := hs.at_ j x hj
    exact ⟨base, cs, g1, trivial, g3, fun q v hq => by rw [freeze_cell]; exact g4 q v hq, g5⟩
theorem u8i {c d : UInt8} : ((c.toNat : Int) == (d.toNat : Int)) = (c == d) := by
  rw [Bool.eq_iff_iff]
  simp only [beq_iff_eq]
  constructor
  · intro h; exact UInt8.toNat_inj.1 (by omega)
  · rintro rfl; rfl
theorem sign2_len {m : List UInt8} (h : sign2 m = true) : 2 ≤ m.length := by
  match m, h with
  | _ :: _ :: _, _ => simp
theorem signN_le {m : List UInt8} : signN m ≤ m.length := by
  unfold signN
  split
  · exact sign2_len (by assumption)
  · split
    · split
      · simp
      · exact Nat.zero_le _
    · exact Nat.zero_le _
theorem sign_c {w : World} {b : Nat} {l : List UInt8} {i : Nat} {rs : Sl} {acc : List Tk} (h : Cut w b l i rs acc) (ha : acc.length ≤ 16384) (hne : i < l.length) :
    Calls Tryz.prog 106 #[.pointer (some ⟨b, 0, none⟩)] w fun e w' => ∃ v, e = .returned v ∧ OnlyP (fun k => b ≤ k) w w' ∧ Did w' b l i acc (signR (l.drop i)) v := by
  refine scan_cutter_sign_wp ⟨b, 0, none⟩ (fun v w' => OnlyP (fun k => b ≤ k) w w' ∧ Did w' b l i acc (signR (l.drop i)) v) w ?_
  unfold scan_cutter_sign_vc
  obtain ⟨ws, hb, hw⟩ := h.blk
  have hll := h.ll
  have hil := h.il
  refine (rest_c hb h.il).mono ?_
  rintro _ w0 ⟨rfl, hO0⟩
  have hdl : (l.drop i).length = l.length - i := List.length_drop
  generalize hm : l.drop i = m at *
  obtain ⟨c, r, rfl⟩ : ∃ c r, m = c :: r := by
    cases m with
    | nil => simp at hdl; omega
    | cons c r => exact ⟨c, r, rfl⟩
  have g0 : (0 : Int) ≤ 0 ∧ (T (c :: r))[0]? = some c := ⟨Int.le_refl _, by rw [T_get]; rfl⟩
  refine ⟨T (c :: r), rfl, fun i0 w' => i0 = (if shortL.contains c then 1 else 0 : Int) ∧ Only [] w w', ?_, c, g0, ?_⟩
  · rintro _ w1 ⟨rfl, hO1⟩
    refine ⟨fun i1 w' => i1 = (signN (c :: r) : Int) ∧ Only [] w w', ?_, fun b w' => b = sign2 (c :: r) ∧ Only [] w w', ?_, ?_, ?_⟩
    · rintro _ w2 ⟨rfl, hO2⟩
      refine ⟨fun hz => ⟨hO2.p0, ?_⟩, fun hz => ⟨signN (c :: r), ⟨rfl, by rw [T_size]; exact signN_le⟩, ?_⟩⟩
      · rw [signR, if_pos (by have : (signN (c :: r) : Int) = 0 := by simpa using hz
                              omega)]
        exact ⟨rfl, rs, h.only hO2⟩
      have hz : ¬ signN (c :: r) = 0 := by
        intro e
        rw [e] at hz
        simp at hz
      rw [signR, if_neg hz, T_ext, List.drop_zero, Nat.sub_zero]
      have hn := signN_le (m := c :: r)
      refine (ret (strings_Clone_wp (T _) (fun v w' => v = .string (T ((c :: r).take (signN (c :: r)))) ∧ Only [] w2 w') w2 ?_)).mono ?_
      · unfold strings_Clone_vc
        refine (Tryz.stringslite_Clone (T _) w2 (by rw [T_size, List.length_take]; omega)).mono ?_
        rintro _ w3 ⟨rfl, hw⟩
        exact ⟨_, rfl, rfl, Only.of_below hw⟩
      rintro _ w3 ⟨rfl, hO3⟩
      refine ⟨_, rfl, (add_c (h.only (hO2.tr0 hO3)) 4 _ 0 0 (signN (c :: r)) (by omega) ha).mono ?_⟩
      rintro _ w4 ⟨rfl, hO4, rs', hC⟩
      exact ⟨rfl, (hO2.tr0 hO3).trP hO4, rfl, rs', hC⟩
    · rintro _ w5 ⟨rfl, hO5⟩
      refine ⟨fun hs => ⟨by rw [signN, if_pos hs]; rfl, hO5⟩, fun hs => ⟨?_, hO5⟩⟩
      have e : signN (c :: r) = if shortL.contains c then 1 else 0 := by rw [signN, if_neg (by rw [hs]; decide)]
      rw [e]
      split <;> rfl
    · intro hc
      rw [T_size] at hc
      obtain ⟨d, r, rfl⟩ : ∃ d r', r = d :: r' := by
        cases r with
        | nil => simp at hc
        | cons d r => exact ⟨d, r, rfl⟩
      have g1 : (0 : Int) ≤ 1 ∧ (T (c :: d :: r))[1]? = some d := ⟨by decide, by rw [T_get]; rfl⟩
      have ex : (T (c :: d :: r)).extract 0 2 = T [c, d] := by rw [T_ext]; rfl
      have sz : 2 ≤ (T (c :: d :: r)).size := by rw [T_size]; simp
      have lit : (ByteArray.mk #[45, 62]) = T [45, 62] := rfl
      have eqx : ((T [c, d]).toList == (T [45, 62]).toList) = (c == 45 && d == 62) := by
        rw [T_eq, Bool.eq_iff_iff]
        simp
      have e61 : ((d.toNat : Int) == 61) = (d == 61) := u8i (d := 61)
      have hs2 : sign2 (c :: d :: r) = ((d == 61 && [60, 62, 61, 33].contains c) || (d == c && [38, 124].contains c) || (c == 45 && d == 62)) := rfl
      rw [hs2]
      generalize hp1 : ([60, 62, 61, 33] : List UInt8).contains c = p1
      generalize hp2 : ([38, 124] : List UInt8).contains c = p2
      have lst : ((((T (c :: d :: r)).extract 0 2).toList) == ((ByteArray.mk #[45, 62]).toList)) = (c == 45 && d == 62) := by rw [ex, lit, eqx]
      refine ⟨d, g1, fun h61 => ⟨c, g0, fun w6 hO6 => ?_⟩, fun h61 => ⟨d, g1, c, g0, fun hdc => ⟨c, g0, fun w11 hO11 => ?_⟩, fun hdc => ⟨sz, fun w14 hO14 => ⟨?_, hO1.tr0 hO14⟩⟩⟩⟩
      · rw [e61] at h61
        obtain ⟨s, w7, k1, k2, k3, _⟩ := buildB w6 [60, 62, 61, 33] (n := 4) (parts := #[(0, .int .u8 60), (1, .int .u8 62), (2, .int .u8 61), (3, .int .u8 33)]) rfl rfl (by decide) (by decide)
        refine ⟨s, w7, k1, (one_c (flatB k2) c).mono ?_⟩
        rintro _ w8 ⟨rfl, hO8⟩
        have hO18 := hO1.tr0 (hO6.tr0 (k3.tr0 hO8))
        rw [hp1]
        refine ⟨_, rfl, fun hb => ⟨by rw [h61, hb]; rfl, hO18⟩, fun hb => ⟨d, g1, c, g0, fun hdc => ⟨c, g0, ?_⟩, fun hdc => ⟨sz, ?_, hO18⟩⟩⟩
        · rw [u8i] at hdc
          obtain ⟨s, w9, k1, k2, k3, _⟩ := buildB w8 [38, 124] (n := 2) (parts := #[(0, .int .u8 38), (1, .int .u8 124)]) rfl rfl (by decide) (by decide)
          refine ⟨s, w9, k1, (one_c (flatB k2) c).mono ?_⟩
          rintro _ w10 ⟨rfl, hO10⟩
          have hO := hO18.tr0 (k3.tr0 hO10)
          rw [hp2]
          exact ⟨_, rfl, fun hb2 => ⟨by rw [h61, hb, hdc, hb2]; rfl, hO⟩, fun hb2 => ⟨sz, by rw [lst, h61, hb, hdc, hb2]; rfl, hO⟩⟩
        · rw [u8i] at hdc
          rw [lst, h61, hb, hdc]; rfl
      · rw [e61] at h61
        rw [u8i] at hdc
        obtain ⟨s, w12, k1, k2, k3, _⟩ := buildB w11 [38, 124] (n := 2) (parts := #[(0, .int .u8 38), (1, .int .u8 124)]) rfl rfl (by decide) (by decide)
        refine ⟨s, w12, k1, (one_c (flatB k2) c).mono ?_⟩
        rintro _ w13 ⟨rfl, hO13⟩
        have hO := hO1.tr0 (hO11.tr0 (k3.tr0 hO13))
        rw [hp2]
        exact ⟨_, rfl, fun hb2 => ⟨by rw [h61, hdc, hb2]; rfl, hO⟩, fun hb2 => ⟨sz, by rw [lst, h61, hdc, hb2]; rfl, hO⟩⟩
      · rw [e61] at h61
        rw [u8i] at hdc
        rw [lst, h61, hdc]; rfl
    · intro hc w15 hO15
      rw [T_size] at hc
      have hr : r = [] := by
        cases r with
        | nil => rfl
        | cons d r => exact absurd (of_decide_eq_false hc) (by simp only [List.length_cons]; omega)
      subst hr
      exact ⟨rfl, hO1.tr0 hO15⟩
  · obtain ⟨s, w16, k1, k2, k3, k4⟩ := buildB w0 shortL (n := 17) (parts := #[(0, .int .u8 123), (1, .int .u8 125), (2, .int .u8 40), (3, .int .u8 41), (4, .int .u8 91), (5, .int .u8 93), (6, .int .u8 59), (7, .int .u8 44), (8, .int .u8 61), (9, .int .u8 43), (10, .int .u8 45), (11, .int .u8 42), (12, .int .u8 47), (13, .int .u8 37), (14, .int .u8 60), (15, .int .u8 62), (16, .int .u8 33)]) rfl rfl (by decide) (by decide)
    obtain ⟨w17, c1, c2, c3⟩ := conv_b k4 k2 (k2.blk k4).2
    have hO17 : Only [] w0 w17 := ((k3.p0 (F := fun k => w0.heap.size ≤ k)).trans c3 fun k hk => .inl (by omega)).only fun k hk => hk
    refine ⟨s, w16, k1, s, w17, c1, (one_c c2 c).mono ?_⟩
    rintro _ w18 ⟨rfl, hO18⟩
    have hO := hO0.tr0 (hO17.tr0 hO18)
    exact ⟨_, rfl, fun hb => ⟨by rw [if_pos hb], hO⟩, fun hb => ⟨by rw [hb]; rfl, hO⟩⟩
theorem Did.int {w' : World} {b : Nat} {l : List UInt8} {i : Nat} {acc : List Tk} {r : Except Int Tq} {v : Value} (h : Did w' b l i acc r v) : ∃ k : Int, v = .int .i64 k := by
  unfold Did at h
  split at h
  · exact ⟨_, h.1⟩
  · exact ⟨_, h.1⟩
theorem token_c {w : World} {b : Nat} {l : List UInt8} {i : Nat} {rs : Sl} {acc : List Tk} (h : Cut w b l i rs acc) (ha : acc.length ≤ 16384) (hne : i < l.length) :
    Calls Tryz.prog 59 #[.pointer (some ⟨b, 0, none⟩)] w fun e w' => ∃ v, e = .returned v ∧ OnlyP (fun k => b ≤ k) w w' ∧ Did w' b l i acc (tokR (l.drop i)) v := by
  refine scan_cutter_token_wp ⟨b, 0, none⟩ (fun v w' => OnlyP (fun k => b ≤ k) w w' ∧ Did w' b l i acc (tokR (l.drop i)) v) w ?_
  unfold scan_cutter_token_vc
  obtain ⟨ws, hb, hw⟩ := h.blk
  have hx : l[i]? = some l[i] := List.getElem?_eq_getElem hne
  generalize l[i] = x at hx
  have ht : tokR (l.drop i) = if letterB x then wordR (l.drop i) else if digitB x then numR (l.drop i) else signR (l.drop i) := by
    rw [drop_cons hx]; rfl
  rw [ht]
  refine ⟨T l, Blk.at1 hb 0 rfl, i, Blk.at1 hb 1 rfl, x, ⟨Int.natCast_nonneg i, by rw [T_get, Int.toNat_natCast, hx]⟩, fun w0 hO0 => (letter_c w0 x).mono ?_⟩
  rintro _ w1 ⟨rfl, hO1⟩
  have hO01 := hO0.tr0 hO1
  refine ⟨_, rfl, fun hl => ?_, fun hl => (digit_c w1 x).mono ?_⟩
  · rw [if_pos hl]
    refine (word_c (h.only hO01) ha).mono ?_
    rintro _ w2 ⟨v, rfl, hO2, hd⟩
    obtain ⟨k, rfl⟩ := hd.int
    exact ⟨k, rfl, hO01.trP hO2, hd⟩
  rintro _ w3 ⟨rfl, hO3⟩
  have hO03 := hO01.tr0 hO3
  rw [if_neg (by rw [hl]; decide)]
  refine ⟨_, rfl, fun hd => ?_, fun hd => ?_⟩
  · rw [if_pos hd]
    refine (number_c (h.only hO03) ha).mono ?_
    rintro _ w2 ⟨v, rfl, hO2, hd⟩
    obtain ⟨k, rfl⟩ := hd.int
    exact ⟨k, rfl, hO03.trP hO2, hd⟩
  · rw [if_neg (by rw [hd]; decide)]
    refine (sign_c (h.only hO03) ha hne).mono ?_
    rintro _ w2 ⟨v, rfl, hO2, hd⟩
    obtain ⟨k, rfl⟩ := hd.int
    exact ⟨k, rfl, hO03.trP hO2, hd⟩

/-! ## tokens -/
theorem tok_len {m : List UInt8} {q : Tq} (h : tokR m = .ok q) : 1 ≤ q.2.2.2 := by
  cases m with
  | nil => cases h
  | cons c r =>
    simp only [tokR] at h
    split at h
    · rename_i hc
      unfold wordR at h
      split at h
      · cases h
      · injection h with h
        subst h
        have : wordB c = true := by unfold wordB; rw [hc]; rfl
        dsimp only
        rw [List.takeWhile_cons, if_pos this, List.length_cons]
        omega
    · split at h
      · rename_i hc
        unfold numR at h
        split at h
        · cases h
        · split at h
          · cases h
          · rename_i h1 h2
            injection h with h
            subst h
            dsimp only
            rw [List.takeWhile_cons, if_pos (by unfold wordB; rw [hc, Bool.or_true]), List.length_cons] at h2
            omega
      · unfold signR at h
        split at h
        · cases h
        · injection h with h
          subst h
          dsimp only
          omega
theorem tok_err {m : List UInt8} {e : Int} (h : tokR m = .error e) : e ≠ 0 := by
  cases m with
  | nil => injection h with h; omega
  | cons c r =>
    simp only [tokR] at h
    split at h
    · unfold wordR at h
      split at h
      · injection h with h; omega
      · cases h
    · split at h
      · unfold numR at h
        split at h
        · injection h with h; omega
        · split at h
          · injection h with h; omega
          · cases h
      · unfold signR at h
        split at h
        · injection h with h; omega
        · cases h
/-- the tokens from a place on -/
def toksF (l : List UInt8) : Nat → Nat → Except (Int × Nat) (List Tk)
  | 0, _ => .ok []
  | f + 1, i =>
    if l.length ≤ i + skN false (l.drop i) then .ok [⟨5, [], 0, (i + skN false (l.drop i) : Nat)⟩]
    else match tokR (l.drop (i + skN false (l.drop i))) with
      | .error e => .error (e, i + skN false (l.drop i))
      | .ok q => match toksF l f (i + skN false (l.drop i) + q.2.2.2) with
        | .error x => .error x
        | .ok r => .ok (⟨q.1, q.2.1, q.2.2.1, (i + skN false (l.drop i) : Nat)⟩ :: r)
theorem parse_le {l : List UInt8} : (parseM l).2.1 ≤ l.length := by
  have := while_len (p := digitB) (l := l)
  unfold parseM
  split
  · exact Nat.zero_le _
  · split
    · exact Nat.zero_le _
    · split
      · exact this
      · exact Nat.zero_le _
theorem tok_le {m : List UInt8} {q : Tq} (h : tokR m = .ok q) : q.2.2.2 ≤ m.length := by
  cases m with
  | nil => cases h
  | cons c r =>
    simp only [tokR] at h
    split at h
    · unfold wordR at h
      split at h
      · cases h
      · injection h with h
        subst h
        exact while_len
    · split at h
      · unfold numR at h
        split at h
        · cases h
        · split at h
          · cases h
          · injection h with h
            subst h
            exact parse_le
      · unfold signR at h
        split at h
        · cases h
        · injection h with h
          subst h
          exact signN_le
theorem sk_in {l : List UInt8} {i : Nat} (hi : i ≤ l.length) : i + skN false (l.drop i) ≤ l.length := by
  have := skN_le (b := false) (l := l.drop i)
  rw [List.length_drop] at this
  omega
theorem toksF_eq (l : List UInt8) : ∀ (f g i : Nat), i ≤ l.length → l.length < i + f → l.length < i + g → toksF l f i = toksF l g i
  | 0, _, i, hi, h, _ => by omega
  | _, 0, i, hi, _, h => by omega
  | f + 1, g + 1, i, hi, h1, h2 => by
    rw [toksF, toksF]
    split
    · rfl
    · split
      · rfl
      · rename_i q hq
        have h3 := tok_len hq
        have h4 := tok_le hq
        rw [List.length_drop] at h4
        rw [toksF_eq l f g _ (by omega) (by omega) (by omega)]
def toks (l : List UInt8) (i : Nat) : Except (Int × Nat) (List Tk) := toksF l (l.length + 1) i
theorem toks_step {l : List UInt8} {i : Nat} (hi : i ≤ l.length) : toks l i = if l.length ≤ i + skN false (l.drop i) then .ok [⟨5, [], 0, (i + skN false (l.drop i) : Nat)⟩]
    else match tokR (l.drop (i + skN false (l.drop i))) with
      | .error e => .error (e, i + skN false (l.drop i))
      | .ok q => match toks l (i + skN false (l.drop i) + q.2.2.2) with
        | .error x => .error x
        | .ok r => .ok (⟨q.1, q.2.1, q.2.2.1, (i + skN false (l.drop i) : Nat)⟩ :: r) := by
  unfold toks
  rw [toksF]
  split
  · rfl
  · split
    · rfl
    · rename_i q hq
      have h3 := tok_len hq
      have h4 := tok_le hq
      rw [List.length_drop] at h4
      rw [toksF_eq l l.length (l.length + 1) _ (by omega) (by omega) (by omega)]
/-- the source, cut -/
def tokensM (l : List UInt8) : List Tk × Int × Int := if 16384 < l.length then ([], 2, -1) else match toks l 0 with
  | .error x => ([], x.1, (x.2 : Nat))
  | .ok r => (r, 0, 0)
def pre (acc : List Tk) : Except (Int × Nat) (List Tk) → Except (Int × Nat) (List Tk)
  | .error x => .error x
  | .ok r => .ok (acc ++ r)
theorem sk_idem (b : Bool) : ∀ (l : List UInt8), skN false (l.drop (skN b l)) = 0
  | [] => by simp [skN]
  | c :: r => by
    cases b with
    | true =>
      rw [skN, Nat.add_comm, List.drop_succ_cons]
      exact sk_idem _ r
    | false =>
      rw [skN]
      split
      · rw [Nat.add_comm, List.drop_succ_cons]
        exact sk_idem _ r
      · split
        · rw [Nat.add_comm, List.drop_succ_cons]
          exact sk_idem _ r
        · rename_i h1 h2
          rw [List.drop_zero, skN, if_neg h1, if_neg h2]
theorem toks_skip {l : List UInt8} {i : Nat} (hi : i ≤ l.length) : toks l i = toks l (i + skN false (l.drop i)) := by
  have h1 := sk_in hi
  have h2 : skN false (l.drop (i + skN false (l.drop i))) = 0 := by
    rw [← List.drop_drop]
    exact sk_idem false (l.drop i)
  rw [toks_step hi, toks_step h1, h2, Nat.add_zero]
theorem pre_pre {a b : List Tk} {x : Except (Int × Nat) (List Tk)} : pre a (pre b x) = pre (a ++ b) x := by
  cases x with
  | error _ => rfl
  | ok r => simp [pre]
theorem tokens_c {w : World} (l : List UInt8) (hE : Er w) :
    Calls Tryz.prog 28 #[.string (T l)] w fun e w' => ∃ rs : Sl, e = .returned (.tuple #[rs.v, .agg #[.int .i64 (tokensM l).2.1, .int .i64 (tokensM l).2.2]]) ∧ OwnK w.heap.size w' rs (tokensM l).1 ∧ Only [] w w' := by
  refine (scan_Tokens_wp (T l) (fun v w' => ∃ rs : Sl, v = (.tuple #[rs.v, .agg #[.int .i64 (tokensM l).2.1, .int .i64 (tokensM l).2.2]]) ∧ OwnK w.heap.size w' rs (tokensM l).1 ∧ Only [] w w') w ?_).mono (by
    rintro e w' ⟨v, rfl, rs, rfl, h⟩; exact ⟨rs, rfl, h⟩)
  unfold scan_Tokens_vc
  rw [T_size]
  refine ⟨fun hc k0 w0 _ _ hO => ⟨Sl.nil, ?_, ?_, hO⟩, fun hc k1 w1 hk1 hk1' hO1 => (words_c w1).mono ?_⟩
  · rw [tokensM, if_pos (by have := of_decide_eq_true hc; omega)]
  · rw [tokensM, if_pos (by have := of_decide_eq_true hc; omega)]
    exact Own.nil _ _ _ _ _ _
  have hll : l.length ≤ 16384 := by have := of_decide_eq_false hc; omega
  have htm : tokensM l = match toks l 0 with
    | .error x => ([], x.1, (x.2 : Nat))
    | .ok r => (r, 0, 0) := by rw [tokensM, if_neg (by omega)]
  rintro _ w2 ⟨ws, rfl, hws, hO2⟩
  refine ⟨ws, rfl, hO2.same (by simp; omega), fun b w3 hb hb' hO3 hblk => ?_⟩
  have hO13 := hO1.tr0 (hO2.tr0 hO3)
  have z1 := hO1.size
  have z2 := hO2.size
  have z3 := hO3.size
  have hC0 : Cut w3 b l 0 Sl.nil [] := ⟨⟨ws, hblk, (SliceF.only rTx_ok (by decide) ((flatS hws).inHeap rTx_ok (by decide)) hO3 (by simp)).mono rTx_ok fun k hk => by omega⟩, Own.nil _ _ _ _ _ _, hE.only hO13, by have := hE.lt; omega, Nat.zero_le _, hll⟩
  have sm : ∀ {u u' : World}, w2.heap.size ≤ u.heap.size → OnlyP (fun k => b ≤ k) u u' → Same [k1] u u' := fun hu hO => hO.same (by intro x hx; simp only [List.mem_singleton] at hx; subst hx; omega)
  refine (skip_c hblk (Nat.zero_le _) (by omega)).mono ?_
  rintro _ w4 ⟨rfl, hO4, hb4⟩
  have p4 : OnlyP (fun k => b ≤ k) w3 w4 := hO4.p fun x hx => .inl (by simp only [List.mem_singleton] at hx; omega)
  have hC4 : Cut w4 b l (0 + skN false (l.drop 0)) Sl.nil [] := hC0.move hO4 (sk_in (Nat.zero_le _)) fun ws' h' => by
    have : ws' = ws := by
      unfold Blk at h' hblk
      rw [h'] at hblk
      simp [Sl.v] at hblk
      cases ws; cases ws'; simp_all
    subst this
    exact hb4
  refine ⟨rfl, sm (by omega) p4, T l, _, ws, Sl.nil, hb4, fun nv e1 e2 s0 i0 l1 l2 w' => e1 = 0 ∧ e2 = 0 ∧ s0 = T l ∧ ∃ (i : Nat) (acc : List Tk), i0 = (i : Int) ∧ Cut w' b l i l2 acc ∧ acc.length ≤ i ∧ skN false (l.drop i) = 0 ∧ toks l 0 = pre acc (toks l i) ∧ nv = l.length - i ∧ OnlyP (fun k => b ≤ k) w3 w' ∧ Blk w' b 116 [.string (T l), .int .i64 (i : Int), l1.v, l2.v], l.length - (0 + skN false (l.drop 0)), ?_, ?_⟩
  · refine ⟨rfl, rfl, rfl, _, [], rfl, hC4, Nat.zero_le _, ?_, ?_, rfl, p4, hb4⟩
    · rw [← List.drop_drop]
      exact sk_idem false (l.drop 0)
    · rw [← toks_skip (Nat.zero_le _)]
      cases toks l 0 <;> rfl
  rintro nv _ _ _ _ l1 rs w5 ⟨rfl, rfl, rfl, i, acc, rfl, hC, hlen, hsk, htk, rfl, hO5, hb5⟩
  have z5 := hO5.size
  have hil := hC.il
  refine (end_c hb5).mono ?_
  rintro _ w6 ⟨rfl, hO6⟩
  have hC6 := hC.only hO6
  have hb6 : Blk w6 b 116 [.string (T l), .int .i64 (i : Int), l1.v, rs.v] := (hO6.block b hb5.lt (by simp)).trans hb5
  have z6 := hO6.size
  have hst := toks_step hC.il
  rw [hsk, Nat.add_zero] at hst
  refine ⟨_, rfl, hO6.same (by simp; omega), T l, i, l1, rs, hb6, fun hc => ?_, fun hc => ?_⟩
  · have hlt : i < l.length := by simpa using hc
    rw [if_neg (by omega)] at hst
    refine (token_c hC6 (by omega) hlt).mono ?_
    rintro _ w7 ⟨v, rfl, hO7, hd⟩
    have p7 : OnlyP (fun k => b ≤ k) w3 w7 := (hO5.tr0 hO6).trans hO7 fun k hk => .inl hk
    have z7 := hO7.size
    unfold Did at hd
    cases hq : tokR (l.drop i) with
    | error e =>
      rw [hq] at hd hst
      obtain ⟨rfl, rs7, hC7⟩ := hd
      obtain ⟨ws7, hb7, _⟩ := hC7.blk
      refine ⟨e, rfl, sm (by omega) hO7, T l, i, ws7, rs7, hb7, fun _ w8 hO8 _ => ⟨Sl.nil, ?_, ?_, ?_⟩, fun he => absurd (tok_err hq) (by simpa using he)⟩
      · rw [htm, htk, hst]; rfl
      · rw [htm, htk, hst]
        exact Own.nil _ _ _ _ _ _
      · exact (((hO13.p0 (F := fun k => w.heap.size ≤ k)).trans p7 fun k hk => .inl (by omega)).trans (hO8.p (F := fun k => k = k1) fun x hx => .inl (by simpa using hx)) fun k hk => .inl (by omega)).only fun k hk => hk
    | ok q =>
      rw [hq] at hd hst
      obtain ⟨rfl, rs7, hC7⟩ := hd
      obtain ⟨ws7, hb7, _⟩ := hC7.blk
      have hq1 := tok_len hq
      have h7l := hC7.il
      refine ⟨0, rfl, sm (by omega) hO7, T l, (i + q.2.2.2 : Nat), ws7, rs7, hb7, fun he => (by simp at he), fun _ => (skip_c hb7 h7l (by omega)).mono ?_⟩
      rintro _ w9 ⟨rfl, hO9, hb9⟩
      have p9 : OnlyP (fun k => b ≤ k) w7 w9 := hO9.p fun x hx => .inl (by simp only [List.mem_singleton] at hx; omega)
      have hC9 := hC7.move hO9 (sk_in h7l) fun ws' h' => by
        have : ws' = ws7 := by
          unfold Blk at h' hb7
          rw [h'] at hb7
          simp [Sl.v] at hb7
          cases ws7; cases ws'; simp_all
        subst this
        exact hb9
      refine ⟨rfl, sm (by omega) p9, T l, _, ws7, rs7, hb9, l.length - (i + q.2.2.2 + skN false (l.drop (i + q.2.2.2))), by omega, rfl, rfl, rfl, _, _, rfl, hC9, ?_, ?_, ?_, rfl, p7.trans p9 fun k hk => .inl hk, hb9⟩
      · rw [List.length_append, List.length_singleton]; omega
      · rw [← List.drop_drop]
        exact sk_idem false _
      · rw [htk, hst, ← toks_skip h7l, ← pre_pre]
        dsimp only
        cases toks l (i + q.2.2.2) <;> rfl
  · have hge : l.length ≤ i := by simpa using hc
    rw [if_pos hge] at hst
    refine (add_c hC6 5 [] 0 0 0 (by omega) (by omega)).mono ?_
    rintro _ w10 ⟨rfl, hO10, rs10, hC10⟩
    obtain ⟨ws10, hb10, _⟩ := hC10.blk
    have p10 : OnlyP (fun k => b ≤ k) w3 w10 := (hO5.tr0 hO6).trans hO10 fun k hk => .inl hk
    have htt : tokensM l = (acc ++ [⟨5, [], 0, (i : Nat)⟩], 0, 0) := by
      rw [htm, htk, hst]; rfl
    refine ⟨rfl, sm (by omega) hO10, T l, _, ws10, rs10, hb10, fun w11 hO11 _ => ⟨rs10, ?_, ?_, ?_⟩⟩
    · rw [htt]
    · rw [htt]
      have : OwnK (b + 1) w11 rs10 _ := hC10.own.keep fun k hk hlt => hO11.block k hlt (by simp only [List.mem_singleton]; omega)
      exact Own.low this (by omega)
    · exact (((hO13.p0 (F := fun k => w.heap.size ≤ k)).trans p10 fun k hk => .inl (by omega)).trans (hO11.p (F := fun k => k = k1) fun x hx => .inl (by simpa using hx)) fun k hk => .inl (by omega)).only fun k hk => hk
end Go.Proofs.YtmanockofcopjaaGreatDoor.Con
