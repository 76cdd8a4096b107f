
/-
  Own work: what the functions of the expression reader do, each once: tokens, signs, faults, operators.
-/
import Derived.Test.YtmanockofcopjaaGreatDoorMod
namespace Go.Proofs.YtmanockofcopjaaGreatDoor.Con
open Go Go.RowKit Go.Kt Go.Kt.V Go.Proofs.YtmanockofcopjaaGreatDoor.Vc
set_option linter.unusedSimpArgs false
set_option linter.unusedVariables false
set_option maxHeartbeats 4000000

/-- the reader's block: tokens, place, fault, how deep, signs -/
structure Rd (F G : Nat → Prop) (ts : List Tk) (w : World) (b : Nat) (l sn : Sl) (i : Nat) (fc fa d : Int) : Prop where
  blk : Blk w b 148 [l.v, .int .i64 (i : Int), .int .i64 fc, .int .i64 fa, .int .i64 d, sn.v]
  tok : SliceF rTk 4 w F l ts
  sig : SliceF rTx 1 w G sn opsL
  hF : ∀ k, F k → k < b
  hG : ∀ k, G k → k < b
  en : EndL ts
  lt : i < ts.length
section
variable {F G : Nat → Prop} {ts : List Tk} {w w' : World} {b : Nat} {l sn : Sl} {i : Nat} {fc fa d : Int}
theorem Rd.only (h : Rd F G ts w b l sn i fc fa d) (hO : Only [] w w') : Rd F G ts w' b l sn i fc fa d :=
  ⟨hO.blk h.blk (by simp), SliceF.only rTk_ok (by decide) h.tok hO (by simp), SliceF.only rTx_ok (by decide) h.sig hO (by simp), h.hF, h.hG, h.en, h.lt⟩
theorem Rd.turn (h : Rd F G ts w b l sn i fc fa d) (hO : Only [b] w w') {i' : Nat} {fc' fa' d' : Int} (hB : Blk w' b 148 [l.v, .int .i64 (i' : Int), .int .i64 fc', .int .i64 fa', .int .i64 d', sn.v]) (hi : i' < ts.length) : Rd F G ts w' b l sn i' fc' fa' d' :=
  ⟨hB, SliceF.only rTk_ok (by decide) h.tok hO fun k hk _ hm => by have := h.hF k hk; simp only [List.mem_singleton] at hm; omega, SliceF.only rTx_ok (by decide) h.sig hO fun k hk _ hm => by have := h.hG k hk; simp only [List.mem_singleton] at hm; omega, h.hF, h.hG, h.en, hi⟩
theorem Rd.own (h : Rd F G ts w b l sn i fc fa d) {bs : List Nat} (hO : Only bs w w') (hb : ∀ x, x ∈ bs → b < x) : Rd F G ts w' b l sn i fc fa d :=
  ⟨hO.blk h.blk fun hm => by have := hb b hm; omega, SliceF.only rTk_ok (by decide) h.tok hO fun k hk _ hm => (by have := h.hF k hk; have := hb k hm; omega), SliceF.only rTx_ok (by decide) h.sig hO fun k hk _ hm => (by have := h.hG k hk; have := hb k hm; omega), h.hF, h.hG, h.en, h.lt⟩
theorem Rd.lb (h : Rd F G ts w b l sn i fc fa d) : b < w.heap.size := h.blk.lt
theorem Rd.big (h : Rd F G ts w b l sn i fc fa d) : ts.length ≤ 9223372036854775807 := by
  have h1 := h.tok.len
  have h2 := h.tok.cap
  have h3 := h.tok.big
  omega
/-- the token that stands there -/
theorem Rd.now (h : Rd F G ts w b l sn i fc fa d) : ∃ ad, SlAt l (i : Int) 4 ad ∧ Cells w ad [.int .i64 (tk ts i).k, .string (T (tk ts i).t), .int .i64 (tk ts i).n, .int .i64 (tk ts i).a] := by
  have hl := h.tok.len
  have hlt := h.lt
  obtain ⟨ad, x, cs, g1, g2, g3, g4, g5, g6⟩ := h.tok.get (Int.natCast_nonneg i) (by omega)
  rw [Int.toNat_natCast, tk_at h.lt] at g2
  injection g2 with g2
  subst g2
  unfold rTk at g6
  subst g6
  exact ⟨ad, g1, g5⟩
theorem now_c (h : Rd F G ts w b l sn i fc fa d) : Calls Tryz.prog 126 #[.pointer (some ⟨b, 0, none⟩)] w fun e w' => e = .returned (tk ts i).v ∧ Only [] w w' := by
  refine ret (expr_cursor_now_wp ⟨b, 0, none⟩ (fun v w' => v = (tk ts i).v ∧ Only [] w w') w ?_)
  unfold expr_cursor_now_vc
  intro k0 w0 hk hk' hO
  have h0 := h.only hO
  obtain ⟨ad, g1, g2⟩ := h0.now
  exact ⟨l, Blk.at1 h0.blk 0 rfl, _, Blk.at1 h0.blk 1 rfl, ad, g1, _, _, _, _, g2, fun w1 hO1 => ⟨rfl, hO.new hO1 hk⟩⟩
theorem bad_c (h : Rd F G ts w b l sn i fc fa d) : Calls Tryz.prog 93 #[.pointer (some ⟨b, 0, none⟩)] w fun e w' => e = .returned (.bool (fc != 0)) ∧ Only [] w w' := by
  refine ret (expr_cursor_bad_wp ⟨b, 0, none⟩ (fun v w' => v = (.bool (fc != 0)) ∧ Only [] w w') w ?_)
  unfold expr_cursor_bad_vc
  exact ⟨fc, Blk.at1 h.blk 2 rfl, rfl, Only.refl _ _⟩
/-- a fault's place, if there was none -/
theorem stop_c (h : Rd F G ts w b l sn i fc fa d) (c : Int) : Calls Tryz.prog 140 #[.pointer (some ⟨b, 0, none⟩), .int .i64 c] w fun e w' => e = .returned (.tuple #[]) ∧ Only [b] w w' ∧
    Rd F G ts w' b l sn i (if fc = 0 then c else fc) (if fc = 0 then (tk ts i).a else fa) d := by
  refine ret (expr_cursor_stop_wp ⟨b, 0, none⟩ c (fun v w' => v = (.tuple #[]) ∧ Only [b] w w' ∧ Rd F G ts w' b l sn i (if fc = 0 then c else fc) (if fc = 0 then (tk ts i).a else fa) d) w ?_)
  unfold expr_cursor_stop_vc
  refine (bad_c h).mono ?_
  rintro _ w0 ⟨rfl, hO0⟩
  have h0 := h.only hO0
  refine ⟨_, rfl, fun hc => (now_c h0).mono ?_, fun hc => ?_⟩
  · have hc : fc = 0 := by simpa using hc
    subst hc
    rintro _ w1 ⟨rfl, hO1⟩
    have h1 := h0.only hO1
    refine ⟨_, _, _, _, rfl, b, 2, _, _, rfl, h1.blk, by simp, fun w2 hO2 hB2 => ⟨rfl, (hO0.tr0 hO1).weaken (fun _ h => (by cases h)) |>.trans hO2 (fun x hx => .inl hx), ?_⟩⟩
    rw [if_pos rfl, if_pos rfl]
    exact h1.turn hO2 hB2 h.lt
  · have hc : fc ≠ 0 := by simpa using hc
    rw [if_neg hc, if_neg hc]
    exact ⟨rfl, hO0.weaken fun _ h => (by cases h), h0⟩
/-- the faults of a place where nothing can stand -/
theorem wrong_c (h : Rd F G ts w b l sn i fc fa d) : Calls Tryz.prog 132 #[.pointer (some ⟨b, 0, none⟩)] w fun e w' => e = .returned (.tuple #[]) ∧ Only [b] w w' ∧
    Rd F G ts w' b l sn i (if fc = 0 then (wrongF ts i).1 else fc) (if fc = 0 then (wrongF ts i).2 else fa) d := by
  refine ret (expr_cursor_wrong_wp ⟨b, 0, none⟩ (fun v w' => v = (.tuple #[]) ∧ Only [b] w w' ∧ Rd F G ts w' b l sn i (if fc = 0 then (wrongF ts i).1 else fc) (if fc = 0 then (wrongF ts i).2 else fa) d) w ?_)
  unfold expr_cursor_wrong_vc
  refine ⟨fun w' => Only [b] w w' ∧ ((tk ts i).k = 5 → Rd F G ts w' b l sn i (if fc = 0 then 3 else fc) (if fc = 0 then (tk ts i).a else fa) d) ∧ ((tk ts i).k ≠ 5 → Rd F G ts w' b l sn i fc fa d), ?_, (now_c h).mono ?_⟩
  · rintro w0 ⟨hO0, h1, h2⟩
    by_cases hk : (tk ts i).k = 5
    · refine (stop_c (h1 hk) 4).mono ?_
      rintro _ w1 ⟨rfl, hO1, hR⟩
      refine ⟨rfl, rfl, hO0.trans hO1 (fun x hx => .inl hx), ?_⟩
      unfold wrongF
      rw [if_pos hk]
      by_cases hc : fc = 0
      · rw [if_pos hc, if_pos hc, if_neg (by decide), if_neg (by decide)] at hR
        rw [if_pos hc, if_pos hc]; exact hR
      · rw [if_neg hc, if_neg hc, if_neg hc, if_neg hc] at hR
        rw [if_neg hc, if_neg hc]; exact hR
    · refine (stop_c (h2 hk) 4).mono ?_
      rintro _ w1 ⟨rfl, hO1, hR⟩
      refine ⟨rfl, rfl, hO0.trans hO1 (fun x hx => .inl hx), ?_⟩
      unfold wrongF
      rw [if_neg hk]
      exact hR
  · rintro _ w2 ⟨rfl, hO2⟩
    have h2 := h.only hO2
    refine ⟨_, _, _, _, rfl, fun hc => (stop_c h2 3).mono ?_, fun hc => ⟨hO2.weaken fun _ h => (by cases h), fun e => ?_, fun _ => h2⟩⟩
    · rintro _ w3 ⟨rfl, hO3, hR⟩
      exact ⟨rfl, hO2.weaken (fun _ h => (by cases h)) |>.trans hO3 (fun x hx => .inl hx), fun _ => hR, fun e => absurd (by simpa using hc) e⟩
    · rw [e] at hc; simp at hc
theorem is_c (h : Rd F G ts w b l sn i fc fa d) {H : Nat → Prop} {s : Sl} {ss : List (List UInt8)} (hs : SliceF rTx 1 w H s ss) : Calls Tryz.prog 127 #[.pointer (some ⟨b, 0, none⟩), s.v] w fun e w' =>
    e = .returned (.bool (fc == 0 && (tk ts i).k == 4 && ss.contains (tk ts i).t)) ∧ Only [] w w' := by
  refine ret (expr_cursor_is_wp ⟨b, 0, none⟩ s (fun v w' => v = (.bool (fc == 0 && (tk ts i).k == 4 && ss.contains (tk ts i).t)) ∧ Only [] w w') w ?_)
  unfold expr_cursor_is_vc
  refine (now_c h).mono ?_
  rintro _ w0 ⟨rfl, hO0⟩
  refine ⟨_, _, _, _, rfl, fun k0 w1 hk hk' hO1 => ⟨fun c w' => c = (fc == 0 && (tk ts i).k == 4 && ss.contains (tk ts i).t) ∧ Only [] w w', fun c w2 h2 => ⟨by rw [h2.1], h2.2⟩, ?_⟩⟩
  have hO01 := hO0.tr0 hO1
  refine (bad_c (h.only hO01)).mono ?_
  rintro _ w3 ⟨rfl, hO3⟩
  have e : (!(fc != 0)) = (fc == 0) := by cases h : (fc == 0) <;> simp [bne, h]
  refine ⟨_, rfl, hO3.same (by simp; omega), fun hc => (containsS_c (SliceF.only rTx_ok (by decide) hs (hO01.tr0 hO3) (by simp)) _).mono ?_, fun hc => ⟨?_, hO01.tr0 hO3⟩⟩
  · rintro _ w4 ⟨rfl, hO4⟩
    rw [e] at hc
    have hl := h.lb
    have z3 := hO3.size
    exact ⟨_, rfl, hO4.same (by simp; omega), by rw [hc, Bool.true_and], hO01.tr0 (hO3.tr0 hO4)⟩
  · rw [e] at hc
    rw [hc, Bool.false_and]
theorem is1 (h : Rd F G ts w b l sn i fc fa d) (s : List UInt8) : ∃ (s0 : Sl) (w0 : World), (Instr.buildSlice 25 1 #[.mk 0 (.string (T s))]).run Tryz.prog w = .ok s0.v w0 ∧ Only [] w w0 ∧
    Calls Tryz.prog 127 #[.pointer (some ⟨b, 0, none⟩), s0.v] w0 fun e w' => e = .returned (.bool (fc == 0 && sg ts i s)) ∧ Only [] w0 w' := by
  obtain ⟨s0, w0, k1, k2, k3⟩ := buildS w [s] (n := 1) (parts := #[(0, .string (T s))]) rfl rfl (by decide) (by decide)
  refine ⟨s0, w0, k1, k3, (is_c (h.only k3) (flatS k2)).mono ?_⟩
  rintro _ w1 ⟨rfl, hO1⟩
  have e : [s].contains (tk ts i).t = decide ((tk ts i).t = s) := by
    by_cases e : (tk ts i).t = s
    · rw [decide_eq_true e, e]; simp
    · rw [decide_eq_false e]; simp [e]
  refine ⟨?_, hO1⟩
  unfold sg
  rw [Bool.and_assoc, e]
theorem is2 (h : Rd F G ts w b l sn i fc fa d) : ∃ (s0 : Sl) (w0 : World), (Instr.buildSlice 25 2 #[.mk 0 (.string (ByteArray.mk #[45])), .mk 1 (.string (ByteArray.mk #[33]))]).run Tryz.prog w = .ok s0.v w0 ∧ Only [] w w0 ∧
    Calls Tryz.prog 127 #[.pointer (some ⟨b, 0, none⟩), s0.v] w0 fun e w' => e = .returned (.bool (fc == 0 && (sg ts i [45] || sg ts i [33]))) ∧ Only [] w0 w' := by
  obtain ⟨s0, w0, k1, k2, k3⟩ := buildS w [[45], [33]] (n := 2) (parts := #[(0, .string (T [45])), (1, .string (T [33]))]) rfl rfl (by decide) (by decide)
  refine ⟨s0, w0, k1, k3, (is_c (h.only k3) (flatS k2)).mono ?_⟩
  rintro _ w1 ⟨rfl, hO1⟩
  have e : [[45], [33]].contains (tk ts i).t = (decide ((tk ts i).t = [45]) || decide ((tk ts i).t = [33])) := by
    rw [Bool.eq_iff_iff]
    simp
  refine ⟨?_, hO1⟩
  unfold sg
  rw [Bool.and_assoc, ← Bool.and_or_distrib_left, e]
/-- a sign is passed -/
theorem must_c (h : Rd F G ts w b l sn i fc fa d) (s : List UInt8) : Calls Tryz.prog 130 #[.pointer (some ⟨b, 0, none⟩), .string (T s)] w fun e w' => e = .returned (.tuple #[]) ∧ Only [b] w w' ∧
    (if fc == 0 && sg ts i s then Rd F G ts w' b l sn (i + 1) fc fa d else Rd F G ts w' b l sn i (if fc = 0 then (wrongF ts i).1 else fc) (if fc = 0 then (wrongF ts i).2 else fa) d) := by
  refine ret (expr_cursor_must_wp ⟨b, 0, none⟩ _ (fun v w' => v = (.tuple #[]) ∧ Only [b] w w' ∧ (if fc == 0 && sg ts i s then Rd F G ts w' b l sn (i + 1) fc fa d else Rd F G ts w' b l sn i (if fc = 0 then (wrongF ts i).1 else fc) (if fc = 0 then (wrongF ts i).2 else fa) d)) w ?_)
  unfold expr_cursor_must_vc
  obtain ⟨s0, w0, k1, k2, k3⟩ := is1 h s
  refine ⟨s0, w0, k1, k3.mono ?_⟩
  rintro _ w1 ⟨rfl, hO1⟩
  have h1 := h.only (k2.tr0 hO1)
  have hO01 : Only [b] w w1 := (k2.tr0 hO1).weaken fun _ h => (by cases h)
  refine ⟨_, rfl, fun hc => (wrong_c h1).mono ?_, fun hc => ?_⟩
  · rintro _ w2 ⟨rfl, hO2, hR⟩
    have hc : (fc == 0 && sg ts i s) = false := by rwa [Bool.not_eq_true'] at hc
    rw [hc]
    exact ⟨rfl, rfl, hO01.trans hO2 (fun x hx => .inl hx), hR⟩
  · have hc : (fc == 0 && sg ts i s) = true := by rwa [Bool.not_eq_false'] at hc
    rw [hc]
    simp only [Bool.and_eq_true] at hc
    have hn := h.en.next h.lt (sg_k hc.2)
    have hb := h.big
    refine ⟨(i : Int), Blk.at1 h1.blk 1 rfl, b, 1, _, _, rfl, h1.blk, by simp, fun w3 hO3 hB3 => ⟨rfl, hO01.trans hO3 (fun x hx => .inl hx), h1.turn hO3 ?_ hn⟩⟩
    rw [wr' (by omega) (by omega)] at hB3
    exact hB3
/-- a name is read -/
theorem name'_c (h : Rd F G ts w b l sn i fc fa d) : Calls Tryz.prog 131 #[.pointer (some ⟨b, 0, none⟩)] w fun e w' => Only [b] w w' ∧
    (if fc = 0 ∧ (tk ts i).k = 1 then e = .returned (.string (T (tk ts i).t)) ∧ Rd F G ts w' b l sn (i + 1) fc fa d else e = .returned (.string (T [])) ∧ Rd F G ts w' b l sn i (if fc = 0 then (wrongF ts i).1 else fc) (if fc = 0 then (wrongF ts i).2 else fa) d) := by
  refine (expr_reader_name_wp ⟨b, 0, none⟩ (fun v w' => Only [b] w w' ∧ (if fc = 0 ∧ (tk ts i).k = 1 then v = (.string (T (tk ts i).t)) ∧ Rd F G ts w' b l sn (i + 1) fc fa d else v = (.string (T [])) ∧ Rd F G ts w' b l sn i (if fc = 0 then (wrongF ts i).1 else fc) (if fc = 0 then (wrongF ts i).2 else fa) d)) w ?_).mono (by
    rintro e w' ⟨v, rfl, hO, hv⟩
    refine ⟨hO, ?_⟩
    split at hv
    · rename_i hc; rw [if_pos hc]; exact ⟨by rw [hv.1], hv.2⟩
    · rename_i hc; rw [if_neg hc]; exact ⟨by rw [hv.1], hv.2⟩)
  unfold expr_reader_name_vc
  refine (now_c h).mono ?_
  rintro _ w0 ⟨rfl, hO0⟩
  refine ⟨_, _, _, _, rfl, fun k0 w1 hk hk' hO1 => ?_⟩
  have hO01 := hO0.tr0 hO1
  have z0 := hO0.size
  have hl := h.lb
  refine (bad_c (h.only hO01)).mono ?_
  rintro _ w2 ⟨rfl, hO2⟩
  have z2 := hO2.size
  have h2 := h.only (hO01.tr0 hO2)
  have hO02 : Only [b] w w2 := (hO01.tr0 hO2).weaken fun _ h => (by cases h)
  refine ⟨_, rfl, hO2.same (by simp; omega), fun hc => (wrong_c h2).mono ?_, fun hc => ?_⟩
  · rintro _ w3 ⟨rfl, hO3, hR⟩
    refine ⟨rfl, hO3.same (by simp; omega), hO02.trans hO3 (fun x hx => .inl hx), ?_⟩
    rw [if_neg (fun hh => by rw [hh.1, hh.2] at hc; simp at hc)]
    exact ⟨rfl, hR⟩
  · have hc : fc = 0 ∧ (tk ts i).k = 1 := by simpa using hc
    have hn := h.en.next h.lt (by rw [hc.2]; decide)
    have hb := h.big
    refine ⟨(i : Int), Blk.at1 h2.blk 1 rfl, b, 1, _, _, rfl, h2.blk, by simp, by omega, fun w3 hO3 hB3 => ⟨hO02.trans hO3 (fun x hx => .inl hx), ?_⟩⟩
    rw [if_pos hc]
    refine ⟨rfl, h2.turn hO3 ?_ hn⟩
    rw [wr' (by omega) (by omega)] at hB3
    exact hB3
end
end Go.Proofs.YtmanockofcopjaaGreatDoor.Con
