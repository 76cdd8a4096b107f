/-
  Own work: what the functions of the document's own reader of expressions do: tokens, signs, faults, rows.
-/
import Derived.Test.YtdlcmgbidoabmaaGreatDoorText
namespace Go.Proofs.YtdlcmgbidoabmaaGreatDoor.Con
open Go Go.RowKit Go.Kt Go.Kt.V Go.Proofs.YtdlcmgbidoabmaaGreatDoor.Vc
set_option linter.unusedSimpArgs false
set_option linter.unusedVariables false
set_option maxHeartbeats 4000000

/-- the reader's block: tokens, place, how deep, fault -/
structure Rr (F : Nat → Prop) (ts : List Tk) (w : World) (b : Nat) (l : Sl) (i : Nat) (fc fa d : Int) : Prop where
  blk : Blk w b 58 [l.v, .int .i64 (i : Int), .int .i64 d, .int .i64 fc, .int .i64 fa]
  tok : SliceF rTk 4 w F l ts
  hF : ∀ k, F k → k < b
  en : EndL ts
  lt : i < ts.length
section
variable {F : Nat → Prop} {ts : List Tk} {w w' : World} {b : Nat} {l : Sl} {i : Nat} {fc fa d : Int}
theorem Rr.only (h : Rr F ts w b l i fc fa d) (hO : Only [] w w') : Rr F ts w' b l i fc fa d :=
  ⟨hO.blk h.blk (by simp), SliceF.only rTk_ok (by decide) h.tok hO (by simp), h.hF, h.en, h.lt⟩
theorem Rr.turn (h : Rr F ts w b l i fc fa d) (hO : Only [b] w w') {i' : Nat} {fc' fa' d' : Int} (hB : Blk w' b 58 [l.v, .int .i64 (i' : Int), .int .i64 d', .int .i64 fc', .int .i64 fa']) (hi : i' < ts.length) : Rr F ts w' b l i' fc' fa' d' :=
  ⟨hB, SliceF.only rTk_ok (by decide) h.tok hO fun k hk _ hm => by have := h.hF k hk; simp only [List.mem_singleton] at hm; omega, h.hF, h.en, hi⟩
theorem Rr.own (h : Rr F ts w b l i fc fa d) {bs : List Nat} (hO : Only bs w w') (hb : ∀ x, x ∈ bs → b < x) : Rr F ts w' b l i fc fa d :=
  ⟨hO.blk h.blk fun hm => by have := hb b hm; omega, SliceF.only rTk_ok (by decide) h.tok hO fun k hk _ hm => (by have := h.hF k hk; have := hb k hm; omega), h.hF, h.en, h.lt⟩
theorem Rr.lb (h : Rr F ts w b l i fc fa d) : b < w.heap.size := h.blk.lt
theorem Rr.big (h : Rr F ts w b l i fc fa d) : ts.length ≤ 9223372036854775807 := by
  have h1 := h.tok.len
  have h2 := h.tok.cap
  have h3 := h.tok.big
  omega
theorem Rr.now (h : Rr F ts w b l i fc fa d) : ∃ ad, SlAt l (i : Int) 4 ad ∧ Cells w ad [.int .i64 (tk ts i).k, .string (T (tk ts i).t), .int .i64 (tk ts i).n, .int .i64 (tk ts i).a] := by
  have hl := h.tok.len
  have hlt := h.lt
  obtain ⟨ad, x, cs, g1, g2, g3, g4, g5, g6⟩ := h.tok.get (Int.natCast_nonneg i) (by omega)
  rw [Int.toNat_natCast, tk_at h.lt] at g2
  injection g2 with g2
  subst g2
  unfold rTk at g6
  subst g6
  exact ⟨ad, g1, g5⟩
theorem rstop_c (h : Rr F ts w b l i fc fa d) (c : Int) : Calls Tryz.prog 93 #[.pointer (some ⟨b, 0, none⟩), .int .i64 c] w fun e w' => e = .returned (.tuple #[]) ∧ Only [b] w w' ∧
    Rr F ts w' b l i (if fc = 0 then c else fc) (if fc = 0 then (tk ts i).a else fa) d := by
  refine ret (pavaneref05_reader_stop_wp ⟨b, 0, none⟩ c (fun v w' => v = (.tuple #[]) ∧ Only [b] w w' ∧ Rr F ts w' b l i (if fc = 0 then c else fc) (if fc = 0 then (tk ts i).a else fa) d) w ?_)
  unfold pavaneref05_reader_stop_vc
  refine ⟨fc, Blk.at1 h.blk 3 rfl, fun hc w0 hO0 => ?_, fun hc => ?_⟩
  · have hc : fc = 0 := by simpa using hc
    subst hc
    have h0 := h.only hO0
    obtain ⟨ad, g1, g2⟩ := h0.now
    refine ⟨l, Blk.at1 h0.blk 0 rfl, _, Blk.at1 h0.blk 1 rfl, ad, g1, _, g2.at1 3 _ rfl, b, 3, _, _, rfl, h0.blk, by simp, fun w2 hO2 hB2 => ⟨rfl, hO0.weaken (fun _ h => (by cases h)) |>.trans hO2 (fun x hx => .inl hx), ?_⟩⟩
    rw [if_pos rfl, if_pos rfl]
    exact h0.turn hO2 hB2 h.lt
  · have hc : fc ≠ 0 := by simpa using hc
    rw [if_neg hc, if_neg hc]
    exact ⟨rfl, Only.refl _ _, h⟩
theorem rwrong_c (h : Rr F ts w b l i fc fa d) : Calls Tryz.prog 69 #[.pointer (some ⟨b, 0, none⟩)] w fun e w' => e = .returned (.tuple #[]) ∧ Only [b] w w' ∧
    Rr F ts w' b l i (if fc = 0 then (wrongF ts i).1 else fc) (if fc = 0 then (wrongF ts i).2 else fa) d := by
  refine ret (pavaneref05_reader_wrong_wp ⟨b, 0, none⟩ (fun v w' => v = (.tuple #[]) ∧ Only [b] w w' ∧ Rr F ts w' b l i (if fc = 0 then (wrongF ts i).1 else fc) (if fc = 0 then (wrongF ts i).2 else fa) d) w ?_)
  unfold pavaneref05_reader_wrong_vc
  obtain ⟨ad, g1, g2⟩ := h.now
  refine ⟨l, Blk.at1 h.blk 0 rfl, _, Blk.at1 h.blk 1 rfl, ad, g1, _, g2.at1 0 _ rfl, fun hc w0 hO0 => (rstop_c (h.only hO0) 3).mono ?_, fun hc w2 hO2 => (rstop_c (h.only hO2) 4).mono ?_⟩
  · have hc : (tk ts i).k = 5 := by simpa using hc
    rintro _ w1 ⟨rfl, hO1, hR⟩
    unfold wrongF
    rw [if_pos hc]
    exact ⟨rfl, rfl, hO0.weaken (fun _ h => (by cases h)) |>.trans hO1 (fun x hx => .inl hx), hR⟩
  · have hc : (tk ts i).k ≠ 5 := by simpa using hc
    rintro _ w1 ⟨rfl, hO1, hR⟩
    unfold wrongF
    rw [if_neg hc]
    exact ⟨rfl, rfl, hO2.weaken (fun _ h => (by cases h)) |>.trans hO1 (fun x hx => .inl hx), hR⟩
theorem xsign_c (h : Rr F ts w b l i fc fa d) (s : List UInt8) : Calls Tryz.prog 65 #[.pointer (some ⟨b, 0, none⟩), .string (T s)] w fun e w' => e = .returned (.bool (fc == 0 && sg ts i s)) ∧ Only [] w w' := by
  refine ret (pavaneref05_reader_sign_wp ⟨b, 0, none⟩ (T s) (fun v w' => v = (.bool (fc == 0 && sg ts i s)) ∧ Only [] w w') w ?_)
  unfold pavaneref05_reader_sign_vc
  intro w0 hO0
  have h0 := h.only hO0
  obtain ⟨ad, g1, g2⟩ := h0.now
  refine ⟨fun _ => True, trivial, l, Blk.at1 h0.blk 0 rfl, trivial, _, Blk.at1 h0.blk 1 rfl, ad, g1, trivial, _, _, _, _, g2, fun k0 w1 hk hk' hO1 => ⟨fc, Blk.at1 (h0.only hO1).blk 3 rfl, ?_, hO0.tr0 hO1⟩⟩
  rw [T_eq, Bool.and_assoc]
  rfl
theorem rmust_c (h : Rr F ts w b l i fc fa d) (s : List UInt8) : Calls Tryz.prog 67 #[.pointer (some ⟨b, 0, none⟩), .string (T s)] w fun e w' => e = .returned (.tuple #[]) ∧ Only [b] w w' ∧
    (if fc == 0 && sg ts i s then Rr F ts w' b l (i + 1) fc fa d else Rr F ts w' b l i (if fc = 0 then (wrongF ts i).1 else fc) (if fc = 0 then (wrongF ts i).2 else fa) d) := by
  refine ret (pavaneref05_reader_must_wp ⟨b, 0, none⟩ _ (fun v w' => v = (.tuple #[]) ∧ Only [b] w w' ∧ (if fc == 0 && sg ts i s then Rr F ts w' b l (i + 1) fc fa d else Rr F ts w' b l i (if fc = 0 then (wrongF ts i).1 else fc) (if fc = 0 then (wrongF ts i).2 else fa) d)) w ?_)
  unfold pavaneref05_reader_must_vc
  refine (xsign_c h s).mono ?_
  rintro _ w1 ⟨rfl, hO1⟩
  have h1 := h.only hO1
  have hO01 : Only [b] w w1 := hO1.weaken fun _ h => (by cases h)
  refine ⟨_, rfl, fun hc => (rwrong_c h1).mono ?_, fun hc => ?_⟩
  · rintro _ w2 ⟨rfl, hO2, hR⟩
    have hc : (fc == 0 && sg ts i s) = false := by rwa [Bool.not_eq_true'] at hc
    rw [hc]
    exact ⟨rfl, rfl, hO01.trans hO2 (fun x hx => .inl hx), hR⟩
  · have hc : (fc == 0 && sg ts i s) = true := by rwa [Bool.not_eq_false'] at hc
    rw [hc]
    simp only [Bool.and_eq_true] at hc
    have hn := h.en.next h.lt (sg_k hc.2)
    have hb := h.big
    refine ⟨(i : Int), Blk.at1 h1.blk 1 rfl, b, 1, _, _, rfl, h1.blk, by simp, fun w3 hO3 hB3 => ⟨rfl, hO01.trans hO3 (fun x hx => .inl hx), h1.turn hO3 ?_ hn⟩⟩
    rw [wr' (by omega) (by omega)] at hB3
    exact hB3
theorem rdown_c {d : Nat} (hd : d ≤ 20) (h : Rr F ts w b l i 0 0 (d : Int)) (hn : i + 1 < ts.length) : Calls Tryz.prog 66 #[.pointer (some ⟨b, 0, none⟩)] w fun e w' => e = .returned (.bool (!decide (d = 20))) ∧ Only [b] w w' ∧
    (if d = 20 then Rr F ts w' b l i 21 (tk ts i).a (d : Int) else Rr F ts w' b l (i + 1) 0 0 ((d + 1 : Nat) : Int)) := by
  refine ret (pavaneref05_reader_down_wp ⟨b, 0, none⟩ (fun v w' => v = .bool (!decide (d = 20)) ∧ Only [b] w w' ∧ (if d = 20 then Rr F ts w' b l i 21 (tk ts i).a (d : Int) else Rr F ts w' b l (i + 1) 0 0 ((d + 1 : Nat) : Int))) w ?_)
  unfold pavaneref05_reader_down_vc
  have hb := h.big
  refine ⟨(d : Int), Blk.at1 h.blk 2 rfl, fun hc => (rstop_c h 21).mono ?_, fun hc => ?_⟩
  · have hc : d = 20 := by
      have : (d : Int) = 20 := by simpa using hc
      omega
    rintro _ w1 ⟨rfl, hO1, hR⟩
    rw [if_pos rfl, if_pos rfl] at hR
    refine ⟨rfl, by rw [decide_eq_true hc]; rfl, hO1, ?_⟩
    rw [if_pos hc]
    exact hR
  · have hc : d ≠ 20 := fun e => by subst e; simp at hc
    refine ⟨(d : Int), Blk.at1 h.blk 2 rfl, b, 2, _, _, rfl, h.blk, by simp, fun w1 hO1 hB1 => ?_⟩
    rw [wr' (by omega) (by omega)] at hB1
    have h1 : Rr F ts w1 b l i 0 0 ((d + 1 : Nat) : Int) := h.turn hO1 hB1 h.lt
    refine ⟨(i : Int), Blk.at1 h1.blk 1 rfl, b, 1, _, _, rfl, h1.blk, by simp, fun w2 hO2 hB2 => ?_⟩
    rw [wr' (by omega) (by omega)] at hB2
    refine ⟨by rw [decide_eq_false hc]; rfl, hO1.trans hO2 fun x hx => .inl hx, ?_⟩
    rw [if_neg hc]
    exact h1.turn hO2 hB2 hn
end

/-! ## the grammar's rows -/
def rowsL : List (List (List UInt8)) := [[[124, 124]], [[38, 38]], [[61, 61], [33, 61]], [[60], [60, 61], [62], [62, 61]], [[43], [45]], [[42], [47], [37]]]
def numsL : List (List Int) := [[13], [12], [10, 11], [6, 7, 8, 9], [1, 2], [3, 4, 5]]
def rNum : Rp Int := fun _ _ x cs => cs = [.int .i64 x]
theorem rNum_ok : rNum.Ok where
  keep h _ := h
  inHeap h := h
  mono h _ := h
  one := by
    rintro w F x cs rfl v hv
    simp only [List.mem_singleton] at hv
    subst hv; rfl
/-- a row of rows -/
def rRow {α : Type} (r : Rp α) : Rp (List α) := fun w F xs cs => ∃ s : Sl, cs = [s.v] ∧ SliceF r 1 w F s xs
theorem rRow_ok {α : Type} {r : Rp α} (hr : r.Ok) : (rRow r).Ok where
  keep := fun ⟨s, h1, h2⟩ hk => ⟨s, h1, SliceF.keep hr h2 (by decide) hk⟩
  inHeap := fun ⟨s, h1, h2⟩ => ⟨s, h1, SliceF.inHeap hr h2 (by decide)⟩
  mono := fun ⟨s, h1, h2⟩ hk => ⟨s, h1, SliceF.mono hr h2 hk⟩
  one := by
    rintro w F x cs ⟨s, rfl, _⟩ v hv
    simp only [List.mem_singleton] at hv
    subst hv; rfl
theorem buildN (w : World) (l : List Int) {n : Nat} {parts : Array (Nat × Value)} (hp : parts = (((l.map fun x => Value.int .i64 x).zipIdx 0).map fun x => (x.2, x.1)).toArray) (hn : l.length = n) (h0 : 0 < n) (hsm : n * 1 ≤ 16777216) :
    ∃ s w', (Instr.buildSlice 98 n parts).run Tryz.prog w = .ok (Sl.v s) w' ∧ Own rNum 1 3 w.heap.size w' (fun _ => True) s l ∧ Only [] w w' := by
  have hE : Els rNum 1 w (fun _ => True) l ((l.map fun x => Value.int .i64 x).map fun v => v.cells.toList) := by
    clear hp hn
    induction l with
    | nil => trivial
    | cons x l ih => exact ⟨⟨rfl, rfl⟩, ih⟩
  obtain ⟨s, w', h1, h2, h3, _⟩ := build_own (P := Tryz.prog) (t := 98) (e := 3) (i := Tryz.t3) (r := rNum) (size := 1) (by kernel_rfl) (by kernel_rfl) rfl rfl (by decide) hp (by rw [List.length_map]; exact hn) h0 hsm rNum_ok hE
  exact ⟨s, w', h1, h2, h3⟩
theorem buildR {α : Type} {r : Rp α} (hr : r.Ok) {t e : TypeId} {ti : TypeInfo} (ht : Tryz.prog.underlying t = some (.slice e)) (hi : Tryz.prog.info? e = some ti) {z : Value} (hz : ti.zero = some z) (hs : ti.size = 1) {w : World} {F : Nat → Prop} {xs : List (List α)} (ss : List Sl) {n : Nat} {parts : Array (Nat × Value)} (hp : parts = (((ss.map fun s => s.v).zipIdx 0).map fun x => (x.2, x.1)).toArray) (hn : ss.length = n) (h0 : 0 < n) (hsm : n * 1 ≤ 16777216)
    (hE : All2 (fun x (s : List Value) => s.length = 1 ∧ rRow r w F x s) xs (ss.map fun s => [s.v])) :
    ∃ s w', (Instr.buildSlice t n parts).run Tryz.prog w = .ok (Sl.v s) w' ∧ SliceF (rRow r) 1 w' (fun k => F k ∨ w.heap.size ≤ k) s xs ∧ Only [] w w' := by
  have hE' : Els (rRow r) 1 w F xs ((ss.map fun s => s.v).map fun v => v.cells.toList) := by
    have : ((ss.map fun s => s.v).map fun v => v.cells.toList) = ss.map fun s => [s.v] := by
      rw [List.map_map]
      rfl
    rw [this]
    exact hE
  obtain ⟨s, w', h1, h2, h3, _⟩ := build_own (P := Tryz.prog) (t := t) (e := e) (i := ti) (r := rRow r) (size := 1) ht hi hz hs (by decide) hp (by rw [List.length_map]; exact hn) h0 hsm (rRow_ok hr) hE'
  exact ⟨s, w', h1, SliceF.mono (rRow_ok hr) (h2.slice (rRow_ok hr)) (fun k hk => hk.imp id fun h => h.1), h3⟩
theorem rows_c (w : World) : Calls Tryz.prog 57 #[] w fun e w' => ∃ s : Sl, e = .returned s.v ∧ SliceF (rRow rTx) 1 w' (fun k => w.heap.size ≤ k) s rowsL ∧ Only [] w w' := by
  refine (pavaneref05_rows_wp (fun v w' => ∃ s : Sl, v = s.v ∧ SliceF (rRow rTx) 1 w' (fun k => w.heap.size ≤ k) s rowsL ∧ Only [] w w') w ?_).mono (by
    rintro e w' ⟨v, rfl, s, rfl, h⟩; exact ⟨s, rfl, h⟩)
  unfold pavaneref05_rows_vc
  obtain ⟨s0, w0, a0, b0, c0⟩ := buildS w [[124, 124]] (n := 1) (parts := #[(0, .string (T [124, 124]))]) rfl rfl (by decide) (by decide)
  obtain ⟨s1, w1, a1, b1, c1⟩ := buildS w0 [[38, 38]] (n := 1) (parts := #[(0, .string (T [38, 38]))]) rfl rfl (by decide) (by decide)
  obtain ⟨s2, w2, a2, b2, c2⟩ := buildS w1 [[61, 61], [33, 61]] (n := 2) (parts := #[(0, .string (T [61, 61])), (1, .string (T [33, 61]))]) rfl rfl (by decide) (by decide)
  obtain ⟨s3, w3, a3, b3, c3⟩ := buildS w2 [[60], [60, 61], [62], [62, 61]] (n := 4) (parts := #[(0, .string (T [60])), (1, .string (T [60, 61])), (2, .string (T [62])), (3, .string (T [62, 61]))]) rfl rfl (by decide) (by decide)
  obtain ⟨s4, w4, a4, b4, c4⟩ := buildS w3 [[43], [45]] (n := 2) (parts := #[(0, .string (T [43])), (1, .string (T [45]))]) rfl rfl (by decide) (by decide)
  obtain ⟨s5, w5, a5, b5, c5⟩ := buildS w4 [[42], [47], [37]] (n := 3) (parts := #[(0, .string (T [42])), (1, .string (T [47])), (2, .string (T [37]))]) rfl rfl (by decide) (by decide)
  have z0 := c0.size
  have z1 := c1.size
  have z2 := c2.size
  have z3 := c3.size
  have z4 := c4.size
  have mk : ∀ {u u' : World} {s : Sl} {l : List (List UInt8)}, w.heap.size ≤ u.heap.size → ∀ {v : World}, Own rTx 1 9 u.heap.size v (fun _ => True) s l → Only [] v u' → [s.v].length = 1 ∧ rRow rTx u' (fun k => w.heap.size ≤ k) l [s.v] := fun hu v hB hO => ⟨rfl, _, rfl, SliceF.only rTx_ok (by decide) (SliceF.mono rTx_ok (flatS hB) fun k hk => by have := hk.1; omega) hO (by simp)⟩
  obtain ⟨s6, w6, a6, b6, c6⟩ := buildR (r := rTx) rTx_ok (t := 101) (e := 51) (ti := Tryz.t51) (by kernel_rfl) (by kernel_rfl) rfl rfl (w := w5) (F := fun k => w.heap.size ≤ k) (xs := rowsL) [s0, s1, s2, s3, s4, s5] (n := 6) (parts := #[(0, s0.v), (1, s1.v), (2, s2.v), (3, s3.v), (4, s4.v), (5, s5.v)]) rfl rfl (by decide) (by decide)
    ⟨mk (Nat.le_refl _) b0 (((((c1.tr0 c2).tr0 c3).tr0 c4).tr0 c5)), mk (by omega) b1 ((((c2.tr0 c3).tr0 c4).tr0 c5)), mk (by omega) b2 ((c3.tr0 c4).tr0 c5), mk (by omega) b3 (c4.tr0 c5), mk (by omega) b4 c5, mk (by omega) b5 (Only.refl _ _), trivial⟩
  have z5 := c5.size
  exact ⟨s0, w0, a0, s1, w1, a1, s2, w2, a2, s3, w3, a3, s4, w4, a4, s5, w5, a5, s6, w6, a6, s6, rfl, SliceF.mono (rRow_ok rTx_ok) b6 (fun k hk => by rcases hk with hk | hk <;> omega), (((((c0.tr0 c1).tr0 c2).tr0 c3).tr0 c4).tr0 c5).tr0 c6⟩
theorem nums_c (w : World) : Calls Tryz.prog 56 #[] w fun e w' => ∃ s : Sl, e = .returned s.v ∧ SliceF (rRow rNum) 1 w' (fun k => w.heap.size ≤ k) s numsL ∧ Only [] w w' := by
  refine (pavaneref05_numbers_wp (fun v w' => ∃ s : Sl, v = s.v ∧ SliceF (rRow rNum) 1 w' (fun k => w.heap.size ≤ k) s numsL ∧ Only [] w w') w ?_).mono (by
    rintro e w' ⟨v, rfl, s, rfl, h⟩; exact ⟨s, rfl, h⟩)
  unfold pavaneref05_numbers_vc
  obtain ⟨s0, w0, a0, b0, c0⟩ := buildN w [13] (n := 1) (parts := #[(0, .int .i64 13)]) rfl rfl (by decide) (by decide)
  obtain ⟨s1, w1, a1, b1, c1⟩ := buildN w0 [12] (n := 1) (parts := #[(0, .int .i64 12)]) rfl rfl (by decide) (by decide)
  obtain ⟨s2, w2, a2, b2, c2⟩ := buildN w1 [10, 11] (n := 2) (parts := #[(0, .int .i64 10), (1, .int .i64 11)]) rfl rfl (by decide) (by decide)
  obtain ⟨s3, w3, a3, b3, c3⟩ := buildN w2 [6, 7, 8, 9] (n := 4) (parts := #[(0, .int .i64 6), (1, .int .i64 7), (2, .int .i64 8), (3, .int .i64 9)]) rfl rfl (by decide) (by decide)
  obtain ⟨s4, w4, a4, b4, c4⟩ := buildN w3 [1, 2] (n := 2) (parts := #[(0, .int .i64 1), (1, .int .i64 2)]) rfl rfl (by decide) (by decide)
  obtain ⟨s5, w5, a5, b5, c5⟩ := buildN w4 [3, 4, 5] (n := 3) (parts := #[(0, .int .i64 3), (1, .int .i64 4), (2, .int .i64 5)]) rfl rfl (by decide) (by decide)
  have z0 := c0.size
  have z1 := c1.size
  have z2 := c2.size
  have z3 := c3.size
  have z4 := c4.size
  have mk : ∀ {u u' : World} {s : Sl} {l : List Int}, w.heap.size ≤ u.heap.size → ∀ {v : World}, Own rNum 1 3 u.heap.size v (fun _ => True) s l → Only [] v u' → [s.v].length = 1 ∧ rRow rNum u' (fun k => w.heap.size ≤ k) l [s.v] := fun hu v hB hO => ⟨rfl, _, rfl, SliceF.only rNum_ok (by decide) (SliceF.mono rNum_ok (flatO rNum_ok (fun _ _ _ _ _ h => h) hB) fun k hk => by have := hk.1; omega) hO (by simp)⟩
  obtain ⟨s6, w6, a6, b6, c6⟩ := buildR (r := rNum) rNum_ok (t := 99) (e := 98) (ti := Tryz.t98) (by kernel_rfl) (by kernel_rfl) rfl rfl (w := w5) (F := fun k => w.heap.size ≤ k) (xs := numsL) [s0, s1, s2, s3, s4, s5] (n := 6) (parts := #[(0, s0.v), (1, s1.v), (2, s2.v), (3, s3.v), (4, s4.v), (5, s5.v)]) rfl rfl (by decide) (by decide)
    ⟨mk (Nat.le_refl _) b0 (((((c1.tr0 c2).tr0 c3).tr0 c4).tr0 c5)), mk (by omega) b1 ((((c2.tr0 c3).tr0 c4).tr0 c5)), mk (by omega) b2 ((c3.tr0 c4).tr0 c5), mk (by omega) b3 (c4.tr0 c5), mk (by omega) b4 c5, mk (by omega) b5 (Only.refl _ _), trivial⟩
  have z5 := c5.size
  exact ⟨s0, w0, a0, s1, w1, a1, s2, w2, a2, s3, w3, a3, s4, w4, a4, s5, w5, a5, s6, w6, a6, s6, rfl, SliceF.mono (rRow_ok rNum_ok) b6 (fun k hk => by rcases hk with hk | hk <;> omega), (((((c0.tr0 c1).tr0 c2).tr0 c3).tr0 c4).tr0 c5).tr0 c6⟩
/-- the first sign of a row that stands there, its number -/
def firstR (ts : List Tk) (i : Nat) : List (List UInt8) → List Int → Int
  | s :: ss, n :: ns => if sg ts i s = true then n else firstR ts i ss ns
  | _, _ => 0
theorem first_op (ts : List Tk) (i k : Nat) (hk : k < 6) : firstR ts i ((rowsL[k]?).getD []) ((numsL[k]?).getD []) = opAt ts (k : Int) i := by
  match k, hk with
  | 0, _ => simp [opAt, opFrom, rowOf, firstR, rowsL, numsL, opTx, opsL]
  | 1, _ => simp [opAt, opFrom, rowOf, firstR, rowsL, numsL, opTx, opsL]
  | 2, _ => simp [opAt, opFrom, rowOf, firstR, rowsL, numsL, opTx, opsL]
  | 3, _ => simp [opAt, opFrom, rowOf, firstR, rowsL, numsL, opTx, opsL]
  | 4, _ => simp [opAt, opFrom, rowOf, firstR, rowsL, numsL, opTx, opsL]
  | 5, _ => simp [opAt, opFrom, rowOf, firstR, rowsL, numsL, opTx, opsL]
theorem first_drop {ts : List Tk} {i : Nat} {ss : List (List UInt8)} {ns : List Int} {n : Nat} {s : List UInt8} {m : Int} (h1 : ss[n]? = some s) (h2 : ns[n]? = some m) : firstR ts i (ss.drop n) (ns.drop n) = if sg ts i s = true then m else firstR ts i (ss.drop (n + 1)) (ns.drop (n + 1)) := by
  rw [List.drop_eq_getElem_cons (List.getElem?_eq_some_iff.1 h1).1, (List.getElem?_eq_some_iff.1 h1).2, List.drop_eq_getElem_cons (List.getElem?_eq_some_iff.1 h2).1, (List.getElem?_eq_some_iff.1 h2).2, firstR]
theorem rows_len (k : Nat) : ((rowsL[k]?).getD []).length = ((numsL[k]?).getD []).length := by
  rcases Nat.lt_or_ge k 6 with h | h
  · match k, h with
    | 0, _ => rfl
    | 1, _ => rfl
    | 2, _ => rfl
    | 3, _ => rfl
    | 4, _ => rfl
    | 5, _ => rfl
  · rw [List.getElem?_eq_none (by exact h), List.getElem?_eq_none (by exact h)]
    rfl
section
variable {F : Nat → Prop} {ts : List Tk} {w w' : World} {b : Nat} {l : Sl} {i : Nat} {fc fa d : Int}
theorem xrow_c (h : Rr F ts w b l i fc fa d) {k : Nat} (hk : k < 6) : Calls Tryz.prog 34 #[.pointer (some ⟨b, 0, none⟩), .int .i64 (k : Int)] w fun e w' => e = .returned (.int .i64 (if fc = 0 then opAt ts (k : Int) i else 0)) ∧ Only [] w w' := by
  refine ret (pavaneref05_reader_row_wp ⟨b, 0, none⟩ (k : Int) (fun v w' => v = .int .i64 (if fc = 0 then opAt ts (k : Int) i else 0) ∧ Only [] w w') w ?_)
  unfold pavaneref05_reader_row_vc
  refine (rows_c w).mono ?_
  rintro _ w0 ⟨l0, rfl, hR, hO0⟩
  have n0 := hR.len
  have n6 : rowsL.length = 6 := rfl
  obtain ⟨p0, x0, cs0, g1, g2, g3, g4, g5, s1, rfl, hS⟩ := hR.get (Int.natCast_nonneg k) (by omega)
  rw [Int.toNat_natCast] at g2
  refine ⟨l0, rfl, p0, g1, s1, g5, (nums_c w0).mono ?_⟩
  rintro _ w1 ⟨l2, rfl, hN, hO1⟩
  have m0 := hN.len
  have m6 : numsL.length = 6 := rfl
  obtain ⟨p1, x1, cs1, e1, e2, e3, e4, e5, s3, rfl, hM⟩ := hN.get (Int.natCast_nonneg k) (by omega)
  rw [Int.toNat_natCast] at e2
  have hfo := first_op ts i k hk
  have hrl := rows_len k
  rw [g2, e2, Option.getD_some, Option.getD_some] at hfo hrl
  have t1 := hS.len
  have t2 := hM.len
  have t3 := hS.cap
  have t4 := hS.big
  refine ⟨l2, rfl, p1, e1, s3, e5, fun nv j w' => ∃ n : Nat, n ≤ x0.length ∧ j = (n : Int) ∧ nv = x0.length - n ∧ (fc = 0 → firstR ts i x0 x1 = firstR ts i (x0.drop n) (x1.drop n)) ∧ Only [] w1 w', x0.length, ⟨0, Nat.zero_le _, rfl, rfl, fun _ => rfl, Only.refl _ _⟩, ?_⟩
  rintro nv _ w2 ⟨n, hn, rfl, rfl, hf, hO2⟩
  have hO02 := (hO0.tr0 hO1).tr0 hO2
  refine ⟨fun hlt => ?_, fun hge => ?_⟩
  · have hlt : (n : Int) < (s1.n : Int) := of_decide_eq_true hlt
    obtain ⟨p2, sg0, cs2, q1, q2, q3, q4, q5, q6⟩ := (SliceF.only rTx_ok (by decide) hS (hO1.tr0 hO2) (by simp)).get (Int.natCast_nonneg n) hlt
    unfold rTx at q6
    subst q6
    rw [Int.toNat_natCast] at q2
    refine ⟨p2, q1, _, q5, (xsign_c (h.only hO02) sg0).mono ?_⟩
    rintro _ w3 ⟨rfl, hO3⟩
    obtain ⟨p3, m, cs3, r1, r2, r3, r4, r5, r6⟩ := (SliceF.only rNum_ok (by decide) hM (hO2.tr0 hO3) (by simp)).get (i := (n : Int)) (Int.natCast_nonneg n) (by omega)
    unfold rNum at r6
    subst r6
    rw [Int.toNat_natCast] at r2
    have hst := first_drop (ts := ts) (i := i) q2 r2
    refine ⟨_, rfl, fun hb => ⟨p3, r1, m, r5, ?_, hO02.tr0 hO3⟩, fun hb => ⟨x0.length - (n + 1), by omega, n + 1, by omega, by rw [wr' (by omega) (by omega)]; rfl, rfl, fun h0 => ?_, hO2.tr0 hO3⟩⟩
    · simp only [Bool.and_eq_true, beq_iff_eq] at hb
      rw [if_pos hb.1, ← hfo, hf hb.1, hst, if_pos hb.2]
    · rw [hf h0, hst, if_neg]
      intro hs
      rw [h0, hs] at hb
      exact absurd hb (by decide)
  · have hge : ¬ (n : Int) < (s1.n : Int) := of_decide_eq_false hge
    refine ⟨?_, hO02⟩
    by_cases h0 : fc = 0
    · rw [if_pos h0, ← hfo, hf h0, List.drop_of_length_le (by omega)]
      rfl
    · rw [if_neg h0]
end
end Go.Proofs.YtdlcmgbidoabmaaGreatDoor.Con
