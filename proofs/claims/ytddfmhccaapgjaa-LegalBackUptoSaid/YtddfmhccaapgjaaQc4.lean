import Derived.Test.YtddfmhccaapgjaaQc3
set_option linter.unusedSectionVars false
namespace Go.Proofs.Ytddfmhccaapgjaa.Con
open Go Go.RowKit Go.Kt Go.Kt.V Go.Proofs.Ytddfmhccaapgjaa.Vc
set_option linter.unusedSimpArgs false
set_option linter.unusedVariables false
set_option maxHeartbeats 4000000
structure Rr (F : Nat -> Prop) (ts : List Tk) (w : World) (b : Nat) (l : Sl) (i : Nat) (fc fa d : Int) : Prop where
 blk : Blk w b 149 [l.v, .int .i64 (i : Int), .int .i64 d, .int .i64 fc, .int .i64 fa]
 tok : SliceF rTk 4 w F l ts
 hF : ∀ k, F k -> k < b
 en : EndL ts
 lt : i < ts.length
section
variable {F : Nat -> Prop} {ts : List Tk} {w w' : World} {b : Nat} {l : Sl} {i : Nat} {fc fa d : Int}
theorem Rr.only (h : Rr F ts w b l i fc fa d) (hO : Only [] w w') : Rr F ts w' b l i fc fa d :=
 ⟨hO.blk h.blk (by simp), SliceF.only rTk_ok (by decide) h.tok hO (by simp), h.hF, h.en, h.lt⟩
theorem Rr.turn (h : Rr F ts w b l i fc fa d) (hO : Only [b] w w') {i' : Nat} {fc' fa' d' : Int} (hB : Blk w' b 149 [l.v, .int .i64 (i' : Int), .int .i64 d', .int .i64 fc', .int .i64 fa']) (hi : i' < ts.length) : Rr F ts w' b l i' fc' fa' d' :=
 ⟨hB, SliceF.only rTk_ok (by decide) h.tok hO fun k hk _ hm => by have := h.hF k hk; simp only [List.mem_singleton] at hm; omega, h.hF, h.en, hi⟩
theorem Rr.own (h : Rr F ts w b l i fc fa d) {bs : List Nat} (hO : Only bs w w') (hb : ∀ x, x ∈ bs -> b < x) : Rr F ts w' b l i fc fa d :=
 ⟨hO.blk h.blk fun hm => by have := hb b hm; omega, SliceF.only rTk_ok (by decide) h.tok hO fun k hk _ hm => (by have := h.hF k hk; have := hb k hm; omega), h.hF, h.en, h.lt⟩
theorem Rr.lb (h : Rr F ts w b l i fc fa d) : b < w.heap.size := h.blk.lt
theorem Rr.big (h : Rr F ts w b l i fc fa d) : ts.length <= 9223372036854775807 := by
 have h1 := h.tok.len
 have h2 := h.tok.cap
 have h3 := h.tok.big
 omega
theorem Rr.now (h : Rr F ts w b l i fc fa d) : ∃ ad, SlAt l (i : Int) 4 ad /\ Cells w ad [.int .i64 (tk ts i).k, .string (T (tk ts i).t), .int .i64 (tk ts i).n, .int .i64 (tk ts i).a] := by
 have hl := h.tok.len
 have hlt := h.lt
 obtain ⟨ad, x, cs, g1, g2, g3, g4, g5, g6⟩ := h.tok.get (Int.natCast_nonneg i) (by omega)
 rw [Int.toNat_natCast, tk_at h.lt] at g2
 injection g2 with g2
 subst g2
 unfold rTk at g6
 subst g6
 exact ⟨ad, g1, g5⟩
theorem rstop_c (h : Rr F ts w b l i fc fa d) (c : Int) : Calls Try.prog 103 #[.pointer (some ⟨b, 0, none⟩), .int .i64 c] w fun e w' => e = .returned (.tuple #[]) /\ Only [b] w w' /\
  Rr F ts w' b l i (if fc = 0 then c else fc) (if fc = 0 then (tk ts i).a else fa) d := by
 refine ret (v50w ⟨b, 0, none⟩ c (fun v w' => v = (.tuple #[]) /\ Only [b] w w' /\ Rr F ts w' b l i (if fc = 0 then c else fc) (if fc = 0 then (tk ts i).a else fa) d) w ?_)
 unfold v50v
 refine ⟨fc, Blk.at1 h.blk 3 rfl, fun hc w0 hO0 => ?_, fun hc => ?_⟩
 · have hc : fc = 0 := by simpa using hc
   subst hc
   have h0 := h.only hO0
   obtain ⟨ad, g1, g2⟩ := h0.now
   refine ⟨l, Blk.at1 h0.blk 0 rfl, _, Blk.at1 h0.blk 1 rfl, ad, g1, _, g2.at1 3 _ rfl, b, 3, _, _, rfl, h0.blk, by simp, fun w2 hO2 hB2 => ⟨rfl, hO0.weaken (fun _ h => (by cases h)) |>.trans hO2 (fun x hx => .inl hx), ?_⟩⟩
   rw [if_pos rfl, if_pos rfl]
   exact h0.turn hO2 hB2 h.lt
 · have hc : fc ≠ 0 := by simpa using hc
   rw [if_neg hc, if_neg hc]
   exact ⟨rfl, Only.refl _ _, h⟩
theorem rwrong_c (h : Rr F ts w b l i fc fa d) : Calls Try.prog 102 #[.pointer (some ⟨b, 0, none⟩)] w fun e w' => e = .returned (.tuple #[]) /\ Only [b] w w' /\
  Rr F ts w' b l i (if fc = 0 then (wrongF ts i).1 else fc) (if fc = 0 then (wrongF ts i).2 else fa) d := by
 refine ret (v51w ⟨b, 0, none⟩ (fun v w' => v = (.tuple #[]) /\ Only [b] w w' /\ Rr F ts w' b l i (if fc = 0 then (wrongF ts i).1 else fc) (if fc = 0 then (wrongF ts i).2 else fa) d) w ?_)
 unfold v51v
 obtain ⟨ad, g1, g2⟩ := h.now
 refine ⟨l, Blk.at1 h.blk 0 rfl, _, Blk.at1 h.blk 1 rfl, ad, g1, _, g2.at1 0 _ rfl, fun hc w0 hO0 => (rstop_c (h.only hO0) 3).mono ?_, fun hc w2 hO2 => (rstop_c (h.only hO2) 4).mono ?_⟩
 · have hc : (tk ts i).k = 5 := by simpa using hc
   rintro _ w1 ⟨rfl, hO1, hR⟩
   unfold wrongF
   rw [if_pos hc]
   exact ⟨rfl, rfl, hO0.weaken (fun _ h => (by cases h)) |>.trans hO1 (fun x hx => .inl hx), hR⟩
 · have hc : (tk ts i).k ≠ 5 := by simpa using hc
   rintro _ w1 ⟨rfl, hO1, hR⟩
   unfold wrongF
   rw [if_neg hc]
   exact ⟨rfl, rfl, hO2.weaken (fun _ h => (by cases h)) |>.trans hO1 (fun x hx => .inl hx), hR⟩
theorem xsign_c (h : Rr F ts w b l i fc fa d) (s : List UInt8) : Calls Try.prog 98 #[.pointer (some ⟨b, 0, none⟩), .string (T s)] w fun e w' => e = .returned (.bool (fc == 0 && sg ts i s)) /\ Only [] w w' := by
 refine ret (v49w ⟨b, 0, none⟩ (T s) (fun v w' => v = (.bool (fc == 0 && sg ts i s)) /\ Only [] w w') w ?_)
 unfold v49v
 intro w0 hO0
 have h0 := h.only hO0
 obtain ⟨ad, g1, g2⟩ := h0.now
 refine ⟨fun _ => True, trivial, l, Blk.at1 h0.blk 0 rfl, trivial, _, Blk.at1 h0.blk 1 rfl, ad, g1, trivial, _, _, _, _, g2, fun k0 w1 hk hk' hO1 => ⟨fc, Blk.at1 (h0.only hO1).blk 3 rfl, ?_, hO0.tr0 hO1⟩⟩
 rw [T_eq, Bool.and_assoc]
 rfl
theorem rmust_c (h : Rr F ts w b l i fc fa d) (s : List UInt8) : Calls Try.prog 100 #[.pointer (some ⟨b, 0, none⟩), .string (T s)] w fun e w' => e = .returned (.tuple #[]) /\ Only [b] w w' /\
  (if fc == 0 && sg ts i s then Rr F ts w' b l (i + 1) fc fa d else Rr F ts w' b l i (if fc = 0 then (wrongF ts i).1 else fc) (if fc = 0 then (wrongF ts i).2 else fa) d) := by
 refine ret (v46w ⟨b, 0, none⟩ _ (fun v w' => v = (.tuple #[]) /\ Only [b] w w' /\ (if fc == 0 && sg ts i s then Rr F ts w' b l (i + 1) fc fa d else Rr F ts w' b l i (if fc = 0 then (wrongF ts i).1 else fc) (if fc = 0 then (wrongF ts i).2 else fa) d)) w ?_)
 unfold v46v
 refine (xsign_c h s).mono ?_
 rintro _ w1 ⟨rfl, hO1⟩
 have h1 := h.only hO1
 have hO01 : Only [b] w w1 := hO1.weaken fun _ h => (by cases h)
 refine ⟨_, rfl, fun hc => (rwrong_c h1).mono ?_, fun hc => ?_⟩
 · rintro _ w2 ⟨rfl, hO2, hR⟩
   have hc : (fc == 0 && sg ts i s) = false := by rwa [Bool.not_eq_true'] at hc
   rw [hc]
   exact ⟨rfl, rfl, hO01.trans hO2 (fun x hx => .inl hx), hR⟩
 · have hc : (fc == 0 && sg ts i s) = true := by rwa [Bool.not_eq_false'] at hc
   rw [hc]
   simp only [Bool.and_eq_true] at hc
   have hn := h.en.next h.lt (sg_k hc.2)
   have hb := h.big
   refine ⟨(i : Int), Blk.at1 h1.blk 1 rfl, b, 1, _, _, rfl, h1.blk, by simp, fun w3 hO3 hB3 => ⟨rfl, hO01.trans hO3 (fun x hx => .inl hx), h1.turn hO3 ?_ hn⟩⟩
   rw [wr' (by omega) (by omega)] at hB3
   exact hB3
theorem rdown_c {d : Nat} (hd : d <= 20) (h : Rr F ts w b l i 0 0 (d : Int)) (hn : i + 1 < ts.length) : Calls Try.prog 99 #[.pointer (some ⟨b, 0, none⟩)] w fun e w' => e = .returned (.bool (!decide (d = 20))) /\ Only [b] w w' /\
  (if d = 20 then Rr F ts w' b l i 21 (tk ts i).a (d : Int) else Rr F ts w' b l (i + 1) 0 0 ((d + 1 : Nat) : Int)) := by
 refine ret (v43w ⟨b, 0, none⟩ (fun v w' => v = .bool (!decide (d = 20)) /\ Only [b] w w' /\ (if d = 20 then Rr F ts w' b l i 21 (tk ts i).a (d : Int) else Rr F ts w' b l (i + 1) 0 0 ((d + 1 : Nat) : Int))) w ?_)
 unfold v43v
 have hb := h.big
 refine ⟨(d : Int), Blk.at1 h.blk 2 rfl, fun hc => (rstop_c h 21).mono ?_, fun hc => ?_⟩
 · have hc : d = 20 := by
    have : (d : Int) = 20 := by simpa using hc
    omega
   rintro _ w1 ⟨rfl, hO1, hR⟩
   rw [if_pos rfl, if_pos rfl] at hR
   refine ⟨rfl, by rw [decide_eq_true hc]; rfl, hO1, ?_⟩
   rw [if_pos hc]
   exact hR
 · have hc : d ≠ 20 := fun e => by subst e; simp at hc
   refine ⟨(d : Int), Blk.at1 h.blk 2 rfl, b, 2, _, _, rfl, h.blk, by simp, fun w1 hO1 hB1 => ?_⟩
   rw [wr' (by omega) (by omega)] at hB1
   have h1 : Rr F ts w1 b l i 0 0 ((d + 1 : Nat) : Int) := h.turn hO1 hB1 h.lt
   refine ⟨(i : Int), Blk.at1 h1.blk 1 rfl, b, 1, _, _, rfl, h1.blk, by simp, fun w2 hO2 hB2 => ?_⟩
   rw [wr' (by omega) (by omega)] at hB2
   refine ⟨by rw [decide_eq_false hc]; rfl, hO1.trans hO2 fun x hx => .inl hx, ?_⟩
   rw [if_neg hc]
   exact h1.turn hO2 hB2 hn
end
def rowsL : List (List (List UInt8)) := [[[124, 124]], [[38, 38]], [[61, 61], [33, 61]], [[60], [60, 61], [62], [62, 61]], [[43], [45]], [[42], [47], [37]]]
def numsL : List (List Int) := [[13], [12], [10, 11], [6, 7, 8, 9], [1, 2], [3, 4, 5]]
def rNum : Rp Int := fun _ _ x cs => cs = [.int .i64 x]
theorem rNum_ok : rNum.Ok where
 keep h _ := h
 inHeap h := h
 mono h _ := h
 one := by
  rintro w F x cs rfl v hv
  simp only [List.mem_singleton] at hv
  subst hv; rfl
def rRow {α : Type} (r : Rp α) : Rp (List α) := fun w F xs cs => ∃ s : Sl, cs = [s.v] /\ SliceF r 1 w F s xs
theorem rRow_ok {α : Type} {r : Rp α} (hr : r.Ok) : (rRow r).Ok where
 keep := fun ⟨s, h1, h2⟩ hk => ⟨s, h1, SliceF.keep hr h2 (by decide) hk⟩
 inHeap := fun ⟨s, h1, h2⟩ => ⟨s, h1, SliceF.inHeap hr h2 (by decide)⟩
 mono := fun ⟨s, h1, h2⟩ hk => ⟨s, h1, SliceF.mono hr h2 hk⟩
 one := by
  rintro w F x cs ⟨s, rfl, _⟩ v hv
  simp only [List.mem_singleton] at hv
  subst hv; rfl
theorem buildN (w : World) (l : List Int) {n : Nat} {parts : Array (Nat × Value)} (hp : parts = (((l.map fun x => Value.int .i64 x).zipIdx 0).map fun x => (x.2, x.1)).toArray) (hn : l.length = n) (h0 : 0 < n) (hsm : n * 1 <= 16777216) :
  ∃ s w', (Instr.buildSlice 30 n parts).run Try.prog w = .ok (Sl.v s) w' /\ Own rNum 1 3 w.heap.size w' (fun _ => True) s l /\ Only [] w w' := by
 have hE : Els rNum 1 w (fun _ => True) l ((l.map fun x => Value.int .i64 x).map fun v => v.cells.toList) := by
  clear hp hn
  induction l with
  | nil => trivial
  | cons x l ih => exact ⟨⟨rfl, rfl⟩, ih⟩
 obtain ⟨s, w', h1, h2, h3, _⟩ := build_own (P := Try.prog) (t := 30) (e := 3) (i := Try.t3) (r := rNum) (size := 1) (by kernel_rfl) (by kernel_rfl) rfl rfl (by decide) hp (by rw [List.length_map]; exact hn) h0 hsm rNum_ok hE
 exact ⟨s, w', h1, h2, h3⟩
theorem buildR {α : Type} {r : Rp α} (hr : r.Ok) {t e : TypeId} {ti : TypeInfo} (ht : Try.prog.underlying t = some (.slice e)) (hi : Try.prog.info? e = some ti) {z : Value} (hz : ti.zero = some z) (hs : ti.size = 1) {w : World} {F : Nat -> Prop} {xs : List (List α)} (ss : List Sl) {n : Nat} {parts : Array (Nat × Value)} (hp : parts = (((ss.map fun s => s.v).zipIdx 0).map fun x => (x.2, x.1)).toArray) (hn : ss.length = n) (h0 : 0 < n) (hsm : n * 1 <= 16777216)
  (hE : All2 (fun x (s : List Value) => s.length = 1 /\ rRow r w F x s) xs (ss.map fun s => [s.v])) :
  ∃ s w', (Instr.buildSlice t n parts).run Try.prog w = .ok (Sl.v s) w' /\ SliceF (rRow r) 1 w' (fun k => F k ∨ w.heap.size <= k) s xs /\ Only [] w w' := by
 have hE' : Els (rRow r) 1 w F xs ((ss.map fun s => s.v).map fun v => v.cells.toList) := by
  have : ((ss.map fun s => s.v).map fun v => v.cells.toList) = ss.map fun s => [s.v] := by
   rw [List.map_map]
   rfl
  rw [this]
  exact hE
 obtain ⟨s, w', h1, h2, h3, _⟩ := build_own (P := Try.prog) (t := t) (e := e) (i := ti) (r := rRow r) (size := 1) ht hi hz hs (by decide) hp (by rw [List.length_map]; exact hn) h0 hsm (rRow_ok hr) hE'
 exact ⟨s, w', h1, SliceF.mono (rRow_ok hr) (h2.slice (rRow_ok hr)) (fun k hk => hk.imp id fun h => h.1), h3⟩
theorem rows_c (w : World) : Calls Try.prog 88 #[] w fun e w' => ∃ s : Sl, e = .returned s.v /\ SliceF (rRow rTx) 1 w' (fun k => w.heap.size <= k) s rowsL /\ Only [] w w' := by
 refine (v52w (fun v w' => ∃ s : Sl, v = s.v /\ SliceF (rRow rTx) 1 w' (fun k => w.heap.size <= k) s rowsL /\ Only [] w w') w ?_).mono (by
  rintro e w' ⟨v, rfl, s, rfl, h⟩; exact ⟨s, rfl, h⟩)
 unfold v52v
 obtain ⟨s0, w0, a0, b0, c0⟩ := buildS w [[124, 124]] (n := 1) (parts := #[(0, .string (T [124, 124]))]) rfl rfl (by decide) (by decide)
 obtain ⟨s1, w1, a1, b1, c1⟩ := buildS w0 [[38, 38]] (n := 1) (parts := #[(0, .string (T [38, 38]))]) rfl rfl (by decide) (by decide)
 obtain ⟨s2, w2, a2, b2, c2⟩ := buildS w1 [[61, 61], [33, 61]] (n := 2) (parts := #[(0, .string (T [61, 61])), (1, .string (T [33, 61]))]) rfl rfl (by decide) (by decide)
 obtain ⟨s3, w3, a3, b3, c3⟩ := buildS w2 [[60], [60, 61], [62], [62, 61]] (n := 4) (parts := #[(0, .string (T [60])), (1, .string (T [60, 61])), (2, .string (T [62])), (3, .string (T [62, 61]))]) rfl rfl (by decide) (by decide)
 obtain ⟨s4, w4, a4, b4, c4⟩ := buildS w3 [[43], [45]] (n := 2) (parts := #[(0, .string (T [43])), (1, .string (T [45]))]) rfl rfl (by decide) (by decide)
 obtain ⟨s5, w5, a5, b5, c5⟩ := buildS w4 [[42], [47], [37]] (n := 3) (parts := #[(0, .string (T [42])), (1, .string (T [47])), (2, .string (T [37]))]) rfl rfl (by decide) (by decide)
 have z0 := c0.size
 have z1 := c1.size
 have z2 := c2.size
 have z3 := c3.size
 have z4 := c4.size
 have mk : ∀ {u u' : World} {s : Sl} {l : List (List UInt8)}, w.heap.size <= u.heap.size -> ∀ {v : World}, Own rTx 1 9 u.heap.size v (fun _ => True) s l -> Only [] v u' -> [s.v].length = 1 /\ rRow rTx u' (fun k => w.heap.size <= k) l [s.v] := fun hu v hB hO => ⟨rfl, _, rfl, SliceF.only rTx_ok (by decide) (SliceF.mono rTx_ok (flatS hB) fun k hk => by have := hk.1; omega) hO (by simp)⟩
 obtain ⟨s6, w6, a6, b6, c6⟩ := buildR (r := rTx) rTx_ok (t := 136) (e := 97) (ti := Try.t97) (by kernel_rfl) (by kernel_rfl) rfl rfl (w := w5) (F := fun k => w.heap.size <= k) (xs := rowsL) [s0, s1, s2, s3, s4, s5] (n := 6) (parts := #[(0, s0.v), (1, s1.v), (2, s2.v), (3, s3.v), (4, s4.v), (5, s5.v)]) rfl rfl (by decide) (by decide)
  ⟨mk (Nat.le_refl _) b0 (((((c1.tr0 c2).tr0 c3).tr0 c4).tr0 c5)), mk (by omega) b1 ((((c2.tr0 c3).tr0 c4).tr0 c5)), mk (by omega) b2 ((c3.tr0 c4).tr0 c5), mk (by omega) b3 (c4.tr0 c5), mk (by omega) b4 c5, mk (by omega) b5 (Only.refl _ _), trivial⟩
 have z5 := c5.size
 exact ⟨s0, w0, a0, s1, w1, a1, s2, w2, a2, s3, w3, a3, s4, w4, a4, s5, w5, a5, s6, w6, a6, s6, rfl, SliceF.mono (rRow_ok rTx_ok) b6 (fun k hk => by rcases hk with hk | hk <;> omega), (((((c0.tr0 c1).tr0 c2).tr0 c3).tr0 c4).tr0 c5).tr0 c6⟩
theorem nums_c (w : World) : Calls Try.prog 87 #[] w fun e w' => ∃ s : Sl, e = .returned s.v /\ SliceF (rRow rNum) 1 w' (fun k => w.heap.size <= k) s numsL /\ Only [] w w' := by
 refine (v39w (fun v w' => ∃ s : Sl, v = s.v /\ SliceF (rRow rNum) 1 w' (fun k => w.heap.size <= k) s numsL /\ Only [] w w') w ?_).mono (by
  rintro e w' ⟨v, rfl, s, rfl, h⟩; exact ⟨s, rfl, h⟩)
 unfold v39v
 obtain ⟨s0, w0, a0, b0, c0⟩ := buildN w [13] (n := 1) (parts := #[(0, .int .i64 13)]) rfl rfl (by decide) (by decide)
 obtain ⟨s1, w1, a1, b1, c1⟩ := buildN w0 [12] (n := 1) (parts := #[(0, .int .i64 12)]) rfl rfl (by decide) (by decide)
 obtain ⟨s2, w2, a2, b2, c2⟩ := buildN w1 [10, 11] (n := 2) (parts := #[(0, .int .i64 10), (1, .int .i64 11)]) rfl rfl (by decide) (by decide)
 obtain ⟨s3, w3, a3, b3, c3⟩ := buildN w2 [6, 7, 8, 9] (n := 4) (parts := #[(0, .int .i64 6), (1, .int .i64 7), (2, .int .i64 8), (3, .int .i64 9)]) rfl rfl (by decide) (by decide)
 obtain ⟨s4, w4, a4, b4, c4⟩ := buildN w3 [1, 2] (n := 2) (parts := #[(0, .int .i64 1), (1, .int .i64 2)]) rfl rfl (by decide) (by decide)
 obtain ⟨s5, w5, a5, b5, c5⟩ := buildN w4 [3, 4, 5] (n := 3) (parts := #[(0, .int .i64 3), (1, .int .i64 4), (2, .int .i64 5)]) rfl rfl (by decide) (by decide)
 have z0 := c0.size
 have z1 := c1.size
 have z2 := c2.size
 have z3 := c3.size
 have z4 := c4.size
 have mk : ∀ {u u' : World} {s : Sl} {l : List Int}, w.heap.size <= u.heap.size -> ∀ {v : World}, Own rNum 1 3 u.heap.size v (fun _ => True) s l -> Only [] v u' -> [s.v].length = 1 /\ rRow rNum u' (fun k => w.heap.size <= k) l [s.v] := fun hu v hB hO => ⟨rfl, _, rfl, SliceF.only rNum_ok (by decide) (SliceF.mono rNum_ok (flatO rNum_ok (fun _ _ _ _ _ h => h) hB) fun k hk => by have := hk.1; omega) hO (by simp)⟩
 obtain ⟨s6, w6, a6, b6, c6⟩ := buildR (r := rNum) rNum_ok (t := 134) (e := 30) (ti := Try.t30) (by kernel_rfl) (by kernel_rfl) rfl rfl (w := w5) (F := fun k => w.heap.size <= k) (xs := numsL) [s0, s1, s2, s3, s4, s5] (n := 6) (parts := #[(0, s0.v), (1, s1.v), (2, s2.v), (3, s3.v), (4, s4.v), (5, s5.v)]) rfl rfl (by decide) (by decide)
  ⟨mk (Nat.le_refl _) b0 (((((c1.tr0 c2).tr0 c3).tr0 c4).tr0 c5)), mk (by omega) b1 ((((c2.tr0 c3).tr0 c4).tr0 c5)), mk (by omega) b2 ((c3.tr0 c4).tr0 c5), mk (by omega) b3 (c4.tr0 c5), mk (by omega) b4 c5, mk (by omega) b5 (Only.refl _ _), trivial⟩
 have z5 := c5.size
 exact ⟨s0, w0, a0, s1, w1, a1, s2, w2, a2, s3, w3, a3, s4, w4, a4, s5, w5, a5, s6, w6, a6, s6, rfl, SliceF.mono (rRow_ok rNum_ok) b6 (fun k hk => by rcases hk with hk | hk <;> omega), (((((c0.tr0 c1).tr0 c2).tr0 c3).tr0 c4).tr0 c5).tr0 c6⟩
def firstR (ts : List Tk) (i : Nat) : List (List UInt8) -> List Int -> Int
 | s :: ss, n :: ns => if sg ts i s = true then n else firstR ts i ss ns
 | _, _ => 0
theorem first_op (ts : List Tk) (i k : Nat) (hk : k < 6) : firstR ts i ((rowsL[k]?).getD []) ((numsL[k]?).getD []) = opAt ts (k : Int) i := by
 match k, hk with
 | 0, _ => simp [opAt, opFrom, rowOf, firstR, rowsL, numsL, opTx, opsL]
 | 1, _ => simp [opAt, opFrom, rowOf, firstR, rowsL, numsL, opTx, opsL]
 | 2, _ => simp [opAt, opFrom, rowOf, firstR, rowsL, numsL, opTx, opsL]
 | 3, _ => simp [opAt, opFrom, rowOf, firstR, rowsL, numsL, opTx, opsL]
 | 4, _ => simp [opAt, opFrom, rowOf, firstR, rowsL, numsL, opTx, opsL]
 | 5, _ => simp [opAt, opFrom, rowOf, firstR, rowsL, numsL, opTx, opsL]
theorem first_drop {ts : List Tk} {i : Nat} {ss : List (List UInt8)} {ns : List Int} {n : Nat} {s : List UInt8} {m : Int} (h1 : ss[n]? = some s) (h2 : ns[n]? = some m) : firstR ts i (ss.drop n) (ns.drop n) = if sg ts i s = true then m else firstR ts i (ss.drop (n + 1)) (ns.drop (n + 1)) := by
 rw [List.drop_eq_getElem_cons (List.getElem?_eq_some_iff.1 h1).1, (List.getElem?_eq_some_iff.1 h1).2, List.drop_eq_getElem_cons (List.getElem?_eq_some_iff.1 h2).1, (List.getElem?_eq_some_iff.1 h2).2, firstR]
theorem rows_len (k : Nat) : ((rowsL[k]?).getD []).length = ((numsL[k]?).getD []).length := by
 rcases Nat.lt_or_ge k 6 with h | h
 · match k, h with
   | 0, _ => rfl
   | 1, _ => rfl
   | 2, _ => rfl
   | 3, _ => rfl
   | 4, _ => rfl
   | 5, _ => rfl
 · rw [List.getElem?_eq_none (by exact h), List.getElem?_eq_none (by exact h)]
   rfl
section
variable {F : Nat -> Prop} {ts : List Tk} {w w' : World} {b : Nat} {l : Sl} {i : Nat} {fc fa d : Int}
theorem xrow_c (h : Rr F ts w b l i fc fa d) {k : Nat} (hk : k < 6) : Calls Try.prog 97 #[.pointer (some ⟨b, 0, none⟩), .int .i64 (k : Int)] w fun e w' => e = .returned (.int .i64 (if fc = 0 then opAt ts (k : Int) i else 0)) /\ Only [] w w' := by
 refine ret (v48w ⟨b, 0, none⟩ (k : Int) (fun v w' => v = .int .i64 (if fc = 0 then opAt ts (k : Int) i else 0) /\ Only [] w w') w ?_)
 unfold v48v
 refine (rows_c w).mono ?_
 rintro _ w0 ⟨l0, rfl, hR, hO0⟩
 have n0 := hR.len
 have n6 : rowsL.length = 6 := rfl
 obtain ⟨p0, x0, cs0, g1, g2, g3, g4, g5, s1, rfl, hS⟩ := hR.get (Int.natCast_nonneg k) (by omega)
 rw [Int.toNat_natCast] at g2
 refine ⟨l0, rfl, p0, g1, s1, g5, (nums_c w0).mono ?_⟩
 rintro _ w1 ⟨l2, rfl, hN, hO1⟩
 have m0 := hN.len
 have m6 : numsL.length = 6 := rfl
 obtain ⟨p1, x1, cs1, e1, e2, e3, e4, e5, s3, rfl, hM⟩ := hN.get (Int.natCast_nonneg k) (by omega)
 rw [Int.toNat_natCast] at e2
 have hfo := first_op ts i k hk
 have hrl := rows_len k
 rw [g2, e2, Option.getD_some, Option.getD_some] at hfo hrl
 have t1 := hS.len
 have t2 := hM.len
 have t3 := hS.cap
 have t4 := hS.big
 refine ⟨l2, rfl, p1, e1, s3, e5, fun nv j w' => ∃ n : Nat, n <= x0.length /\ j = (n : Int) /\ nv = x0.length - n /\ (fc = 0 -> firstR ts i x0 x1 = firstR ts i (x0.drop n) (x1.drop n)) /\ Only [] w1 w', x0.length, ⟨0, Nat.zero_le _, rfl, rfl, fun _ => rfl, Only.refl _ _⟩, ?_⟩
 rintro nv _ w2 ⟨n, hn, rfl, rfl, hf, hO2⟩
 have hO02 := (hO0.tr0 hO1).tr0 hO2
 refine ⟨fun hlt => ?_, fun hge => ?_⟩
 · have hlt : (n : Int) < (s1.n : Int) := of_decide_eq_true hlt
   obtain ⟨p2, sg0, cs2, q1, q2, q3, q4, q5, q6⟩ := (SliceF.only rTx_ok (by decide) hS (hO1.tr0 hO2) (by simp)).get (Int.natCast_nonneg n) hlt
   unfold rTx at q6
   subst q6
   rw [Int.toNat_natCast] at q2
   refine ⟨p2, q1, _, q5, (xsign_c (h.only hO02) sg0).mono ?_⟩
   rintro _ w3 ⟨rfl, hO3⟩
   obtain ⟨p3, m, cs3, r1, r2, r3, r4, r5, r6⟩ := (SliceF.only rNum_ok (by decide) hM (hO2.tr0 hO3) (by simp)).get (i := (n : Int)) (Int.natCast_nonneg n) (by omega)
   unfold rNum at r6
   subst r6
   rw [Int.toNat_natCast] at r2
   have hst := first_drop (ts := ts) (i := i) q2 r2
   refine ⟨_, rfl, fun hb => ⟨p3, r1, m, r5, ?_, hO02.tr0 hO3⟩, fun hb => ⟨x0.length - (n + 1), by omega, n + 1, by omega, by rw [wr' (by omega) (by omega)]; rfl, rfl, fun h0 => ?_, hO2.tr0 hO3⟩⟩
   · simp only [Bool.and_eq_true, beq_iff_eq] at hb
     rw [if_pos hb.1, <- hfo, hf hb.1, hst, if_pos hb.2]
   · rw [hf h0, hst, if_neg]
     intro hs
     rw [h0, hs] at hb
     exact absurd hb (by decide)
 · have hge : ¬ (n : Int) < (s1.n : Int) := of_decide_eq_false hge
   refine ⟨?_, hO02⟩
   by_cases h0 : fc = 0
   · rw [if_pos h0, <- hfo, hf h0, List.drop_of_length_le (by omega)]
     rfl
   · rw [if_neg h0]
end
def Did6 (F : Nat -> Prop) (ts : List Tk) (w w' : World) (b : Nat) (l : Sl) (d : Nat) (r : Pr) (v : Value) : Prop := Only [b] w w' /\ match r with
 | .ok (x, j) => ∃ cs, v = .agg cs.toArray /\ RX w' w.heap.size w'.heap.size x cs /\ Rr F ts w' b l j 0 0 (d : Int)
 | .error e => e.1 ≠ 0 /\ exT v /\ ∃ j, Rr F ts w' b l j e.1 e.2 (d : Int)
section
variable {F : Nat -> Prop} {ts : List Tk} {w w' : World} {b : Nat} {l : Sl} {i : Nat} {fc fa : Int}
theorem Did6.typed {d : Nat} {r : Pr} {v : Value} (h : Did6 F ts w w' b l d r v) : exT v := by
 obtain ⟨_, h⟩ := h
 cases r with
 | error e => exact h.2.1
 | ok q =>
  obtain ⟨cs, rfl, hx, _⟩ := h
  obtain ⟨sl, rfl, _⟩ := hx.cells
  exact ⟨_, _, _, _, _, _, rfl⟩
theorem Did6.around {w0 w1 w2 w3 : World} {d : Nat} {r : Pr} {v : Value} (h : Did6 F ts w1 w2 b l d r v) (hO0 : Only [b] w0 w1) {bs : List Nat} (hO2 : Only bs w2 w3) (hb : ∀ x, x ∈ bs -> b < x /\ w0.heap.size <= x /\ x < w1.heap.size) : Did6 F ts w0 w3 b l d r v := by
 obtain ⟨hO, h⟩ := h
 have z0 := hO0.size
 have z1 := hO.size
 have z2 := hO2.size
 refine ⟨(hO0.trans hO fun x hx => .inl hx).trans hO2 fun x hx => .inr (hb x hx).2.1, ?_⟩
 cases r with
 | error e =>
  obtain ⟨h1, h2, j, h3⟩ := h
  exact ⟨h1, h2, j, h3.own hO2 fun x hx => (hb x hx).1⟩
 | ok q =>
  obtain ⟨cs, h1, h2, h3⟩ := h
  exact ⟨cs, h1, (h2.only hO2 fun x hx => .inl (hb x hx).2.2).wide z0 z2, h3.own hO2 fun x hx => (hb x hx).1⟩
theorem exT0 : exT (.agg #[.int .i64 0, .int .i64 0, .string (ByteArray.mk #[]), .int .i64 0, Sl.nil.v, .int .i64 0]) := ⟨0, 0, [], 0, Sl.nil, 0, rfl⟩
theorem rin_c {d : Nat} (h : Rr F ts w b l i 0 0 (d : Int)) (hn : i + 1 < ts.length) : Calls Try.prog 101 #[.pointer (some ⟨b, 0, none⟩)] w fun e w' => ∃ v, e = .returned v /\ Did6 F ts w w' b l d (inR ts i) v := by
 refine v45w ⟨b, 0, none⟩ (fun v w' => Did6 F ts w w' b l d (inR ts i) v) w ?_
 unfold v45v
 intro k0 w0 hk0 hk0' hO0
 have hb := h.lb
 have hbg := h.big
 have z0 := hO0.size
 have h0 := h.only hO0
 obtain ⟨ad, g1, g2⟩ := h0.now
 refine ⟨fun _ => True, trivial, l, Blk.at1 h0.blk 0 rfl, trivial, _, Blk.at1 h0.blk 1 rfl, ad, g1, trivial, _, g2.at1 3 _ rfl, fun k1 w1 hk1 hk1' hO1 => ?_⟩
 have z1 := hO1.size
 have h1 := h0.only hO1
 have hO01 := hO0.tr0 hO1
 have sm : ∀ {u u' : World}, w1.heap.size <= u.heap.size -> Only [b] u u' -> Same [k0, k1] u u' := fun hu hO => hO.same (by intro x hx; simp only [List.mem_cons, List.not_mem_nil, or_false] at hx ⊢; omega)
 refine ⟨(i : Int), Blk.at1 h1.blk 1 rfl, b, 1, _, _, rfl, h1.blk, by simp, by omega, by omega, fun w2 hO2 hB2 => ?_⟩
 rw [wr' (by omega) (by omega)] at hB2
 have h2 : Rr F ts w2 b l (i + 1) 0 0 (d : Int) := h1.turn hO2 hB2 hn
 have z2 := hO2.size
 have hO02 : Only [b] w w2 := (hO01.weaken fun _ h => (by cases h)).trans hO2 fun x hx => .inl hx
 refine (rmust_c h2 [40]).mono ?_
 rintro _ w3 ⟨rfl, hO3, hR3⟩
 have z3 := hO3.size
 have hO03 := hO02.trans hO3 fun x hx => .inl hx
 refine ⟨rfl, sm (by omega) hO3, ?_⟩
 rw [show ((0 : Int) == 0) = true from rfl, Bool.true_and, if_pos rfl, if_pos rfl] at hR3
 have own0 : ∀ {u u' : World}, Only [b] w u -> Only [k0] u u' -> Only [b] w u' := fun h1 h2 => h1.new h2 hk0
 by_cases hs : sg ts (i + 1) [40] = true
 · rw [if_pos hs] at hR3
   refine ⟨0, Blk.at1 hR3.blk 3 rfl, fun hc => (by simp at hc), fun _ => ?_⟩
   obtain ⟨ad3, u1, u2⟩ := hR3.now
   refine ⟨l, Blk.at1 hR3.blk 0 rfl, _, Blk.at1 hR3.blk 1 rfl, ad3, u1, _, u2.at1 0 _ rfl, fun hc w5 hO5 => (rwrong_c (hR3.only hO5)).mono ?_, fun hc w8 hO8 => ?_⟩
   · have hc : (tk ts (i + 2)).k ≠ 1 := by simpa using hc
     rintro _ w6 ⟨rfl, hO6, hR6⟩
     rw [if_pos rfl, if_pos rfl] at hR6
     have z5 := hO5.size
     refine ⟨rfl, sm (by omega) hO6, fun w7 hO7 => ⟨own0 ((hO03.tr0 hO5).trans hO6 fun x hx => .inl hx) hO7, ?_⟩⟩
     rw [inR, if_pos hs, if_neg hc]
     exact ⟨wrongF_ne, ⟨_, _, [], _, _, _, rfl⟩, i + 2, hR6.own hO7 (by simp; omega)⟩
   · have hc : (tk ts (i + 2)).k = 1 := by simpa using hc
     have z8 := hO8.size
     have h8 := hR3.only hO8
     obtain ⟨ad8, v1, v2⟩ := h8.now
     refine ⟨l, Blk.at1 h8.blk 0 rfl, _, Blk.at1 h8.blk 1 rfl, ad8, v1, _, v2.at1 1 _ rfl, fun w9 hO9 => ?_⟩
     have z9 := hO9.size
     have h9 := h8.own hO9 (by simp; omega)
     have hO09 : Only [b] w w9 := (hO03.tr0 hO8).new hO9 (by omega)
     have hn3 := h.en.next hR3.lt (by show (tk ts (i + 2)).k ≠ 5; rw [hc]; decide)
     refine ⟨_, Blk.at1 h9.blk 1 rfl, b, 1, _, _, rfl, h9.blk, by simp, by omega, by omega, fun w10 hO10 hB10 => ?_⟩
     rw [wr' (by omega) (by omega)] at hB10
     have h10 : Rr F ts w10 b l (i + 1 + 1 + 1) 0 0 (d : Int) := h9.turn hO10 hB10 hn3
     have z10 := hO10.size
     refine (rmust_c h10 [41]).mono ?_
     rintro _ w11 ⟨rfl, hO11, hR11⟩
     have z11 := hO11.size
     refine ⟨rfl, sm (by omega) hO11, fun w12 hO12 => ⟨own0 ((hO09.trans hO10 fun x hx => .inl hx).trans hO11 fun x hx => .inl hx) hO12, ?_⟩⟩
     rw [show ((0 : Int) == 0) = true from rfl, Bool.true_and, if_pos rfl, if_pos rfl] at hR11
     rw [inR, if_pos hs, if_pos hc]
     by_cases hs2 : sg ts (i + 3) [41] = true
     · rw [if_pos hs2]
       rw [if_pos (show sg ts (i + 1 + 1 + 1) [41] = true from hs2)] at hR11
       exact ⟨_, rfl, .leaf .., hR11.own hO12 (by simp; omega)⟩
     · rw [if_neg hs2]
       rw [if_neg (show ¬ sg ts (i + 1 + 1 + 1) [41] = true from hs2)] at hR11
       exact ⟨wrongF_ne, ⟨_, _, _, _, _, _, rfl⟩, i + 1 + 1 + 1, hR11.own hO12 (by simp; omega)⟩
 · rw [if_neg hs] at hR3
   refine ⟨_, Blk.at1 hR3.blk 3 rfl, fun hc w4 hO4 => ⟨own0 hO03 hO4, ?_⟩, fun hc => absurd (by simpa using hc) (wrongF_ne (ts := ts) (i := i + 1))⟩
   rw [inR, if_neg hs]
   exact ⟨wrongF_ne, ⟨_, _, [], _, _, _, rfl⟩, i + 1, hR3.own hO4 (by simp; omega)⟩
theorem rone_c {f d : Nat} (hd : d <= 20) (h : Rr F ts w b l i 0 0 (d : Int))
  (hE : d ≠ 20 -> ∀ w i, Rr F ts w b l i 0 0 ((d + 1 : Nat) : Int) -> Calls Try.prog 93 #[.pointer (some ⟨b, 0, none⟩), .int .i64 0] w fun e w' => ∃ v, e = .returned v /\ Did6 F ts w w' b l (d + 1) (exprR ts f 0 (d + 1) i) v)
  (hOne : d ≠ 20 -> ∀ w i, Rr F ts w b l i 0 0 ((d + 1 : Nat) : Int) -> Calls Try.prog 96 #[.pointer (some ⟨b, 0, none⟩)] w fun e w' => ∃ v, e = .returned v /\ Did6 F ts w w' b l (d + 1) (exprR ts f 6 (d + 1) i) v) :
  Calls Try.prog 96 #[.pointer (some ⟨b, 0, none⟩)] w fun e w' => ∃ v, e = .returned v /\ Did6 F ts w w' b l d (exprR ts (f + 1) 6 d i) v := by
 have eR : exprR ts (f + 1) 6 d i = oneR ts (exprR ts f 0 (d + 1)) (exprR ts f 6 (d + 1)) d i := by rw [exprR, if_pos rfl]
 rw [eR]
 generalize hgE : exprR ts f 0 (d + 1) = E0 at *
 generalize hgO : exprR ts f 6 (d + 1) = One at *
 generalize hR : oneR ts E0 One d i = R
 rw [oneR] at hR
 refine v47w ⟨b, 0, none⟩ (fun v w' => Did6 F ts w w' b l d R v) w ?_
 unfold v47v
 intro k0 w0 hk0 hk0' hO0
 have hb := h.lb
 have hbg := h.big
 have z0 := hO0.size
 have h0 := h.only hO0
 obtain ⟨ad, g1, g2⟩ := h0.now
 refine ⟨fun _ => True, trivial, l, Blk.at1 h0.blk 0 rfl, trivial, _, Blk.at1 h0.blk 1 rfl, ad, g1, trivial, _, _, _, _, g2, fun k1 w1 hk1 hk1' hO1 => ?_⟩
 have z1 := hO1.size
 have h1 := h0.only hO1
 have sm : ∀ {u u' : World}, w1.heap.size <= u.heap.size -> Only [b] u u' -> Same [k0, k1] u u' := fun hu hO => hO.same (by intro x hx; simp only [List.mem_cons, List.not_mem_nil, or_false] at hx ⊢; omega)
 have sm0 : ∀ {u u' : World}, w1.heap.size <= u.heap.size -> Only [] u u' -> Same [k0, k1] u u' := fun hu hO => hO.same (by intro x hx; simp only [List.mem_cons, List.not_mem_nil, or_false] at hx; exact ⟨by omega, by simp⟩)
 refine (xsign_c h1 [45]).mono ?_
 rintro _ w2 ⟨rfl, hO2⟩
 have z2 := hO2.size
 have h2 := h1.only hO2
 refine ⟨_, rfl, sm0 (by omega) hO2, (xsign_c h2 [33]).mono ?_⟩
 rintro _ w3 ⟨rfl, hO3⟩
 have z3 := hO3.size
 have h3 := h2.only hO3
 refine ⟨_, rfl, sm0 (by omega) hO3, (xsign_c h3 [40]).mono ?_⟩
 rintro _ w4 ⟨rfl, hO4⟩
 have z4 := hO4.size
 have h4 := h3.only hO4
 have hO04 : Only [] w w4 := (((hO0.tr0 hO1).tr0 hO2).tr0 hO3).tr0 hO4
 have hO04b : Only [b] w w4 := hO04.weaken fun _ h => (by cases h)
 have own0 : ∀ {u u' : World}, Only [b] w u -> Only [k0] u u' -> Only [b] w u' := fun h1 h2 => h1.new h2 hk0
 rw [show ((0 : Int) == 0) = true from rfl, Bool.true_and, Bool.true_and, Bool.true_and]
 refine ⟨_, rfl, sm0 (by omega) hO4, 0, Blk.at1 h4.blk 3 rfl, fun hc => (by simp at hc), fun _ => ⟨fun hs => ?_, fun hs => ⟨fun hp => ?_, fun hp => ⟨fun hi => ?_, fun hi => ⟨fun hv => ?_, fun hv => ?_⟩⟩⟩⟩⟩
 · rw [if_pos hs] at hR
   have hne : (tk ts i).k ≠ 5 := by
    rcases Bool.or_eq_true _ _ ▸ hs with e | e <;> exact sg_k e
   have hn := h.en.next h.lt hne
   refine (rdown_c hd h4 hn).mono ?_
   rintro _ w6 ⟨rfl, hO6, hR6⟩
   have z6 := hO6.size
   have hO06 := hO04b.trans hO6 fun x hx => .inl hx
   refine ⟨_, rfl, sm (by omega) hO6, fun hc w7 hO7 => ⟨own0 hO06 hO7, ?_⟩, fun hc => ?_⟩
   · have hc : d = 20 := by simpa using hc
     rw [if_pos hc] at hR6
     rw [<- hR, nestR, if_pos hc]
     exact ⟨(by decide : (21 : Int) ≠ 0), exT0, i, hR6.own hO7 (by simp; omega)⟩
   · have hc : d ≠ 20 := by simpa using hc
     rw [if_neg hc] at hR6
     rw [nestR, if_neg hc] at hR
     refine (hOne hc w6 (i + 1) hR6).mono ?_
     rintro _ w8 ⟨v, rfl, hD⟩
     obtain ⟨vk, vn, vs, vo, vl, va, rfl⟩ := hD.typed
     have z8 := hD.1.size
     refine ⟨_, _, _, _, _, _, rfl, sm (by omega) hD.1, fun k2 w9 hk2 hk2' hO9 => ?_⟩
     have z9 := hO9.size
     have hOD := hO06.trans hD.1 fun x hx => .inl hx
     have key : ∀ {j : Nat} {c a : Int}, Rr F ts w8 b l j c a ((d + 1 : Nat) : Int) -> ∃ i9 : Int, Cells w9 (Addr.add ⟨b, 0, none⟩ 2) [.int .i64 i9] /\ ∃ k3 k4 : Nat, ∃ z0 : List Value, ∃ k5 : Nat, (Addr.add ⟨b, 0, none⟩ 2) = ⟨k3, k4, none⟩ /\ Blk w9 k3 k5 z0 /\ (k4 + 1) <= z0.length /\ k0 ≠ k3 /\ k1 ≠ k3 /\ k2 ≠ k3 /\
       ∀ w10 : World, Only [k3] w9 w10 -> Blk w10 k3 k5 (splice z0 k4 [.int .i64 (IntKind.wrap .i64 (i9 - 1))]) -> Only [b] w8 w10 /\ Rr F ts w10 b l j c a (d : Int) := fun {j c a} h8 => by
      have h9 := h8.only hO9
      refine ⟨((d + 1 : Nat) : Int), Blk.at1 h9.blk 2 rfl, b, 2, _, _, rfl, h9.blk, by simp, by omega, by omega, by omega, fun w10 hO10 hB10 => ?_⟩
      have ed : ((d + 1 : Nat) : Int) - 1 = d := by omega
      rw [ed, wr' (by omega) (by omega)] at hB10
      exact ⟨(hO9.weaken (bs' := [b]) fun _ h => (by cases h)).trans hO10 fun x hx => .inl hx, h9.turn hO10 hB10 h9.lt⟩
     have fin : ∀ {j : Nat} {c a : Int} {w10 : World}, Only [b] w8 w10 -> Rr F ts w10 b l j c a (d : Int) -> w9.heap.size <= w10.heap.size -> (∀ op sl w12, Only [] w10 w12 -> Blk w12 w10.heap.size 96 (exv vk vn vs vo vl va) -> op = (if (tk ts i).t = [33] then (15 : Int) else 14) -> sl = (⟨some ⟨w10.heap.size, 0, none⟩, 1, 1⟩ : Sl) -> ∀ w13, Only [k0] w12 w13 -> Did6 F ts w w13 b l d R (.agg #[.int .i64 4, .int .i64 0, .string (ByteArray.mk #[]), .int .i64 op, sl.v, .int .i64 (tk ts i).a])) ->
       ∃ J1 : Int -> World -> Prop, (∀ i10 : Int, ∀ w11 : World, J1 i10 w11 -> ∃ l2 : Sl, ∃ w12 : World, ((Instr.buildSlice 94 1 #[.mk 0 (.agg #[.int .i64 vk, .int .i64 vn, .string (T vs), .int .i64 vo, vl.v, .int .i64 va])]).run Try.prog w11) = (.ok l2.v w12) /\
        Same [k0, k1, k2] w11 w12 /\ ∀ w13 : World, Only [k0] w12 w13 -> Did6 F ts w w13 b l d R (.agg #[.int .i64 4, .int .i64 0, .string (ByteArray.mk #[]), .int .i64 i10, l2.v, .int .i64 (tk ts i).a])) /\
       (sg ts i [33] = true -> J1 15 w10) /\ (sg ts i [33] = false -> J1 14 w10) := fun {j c a w10} hO10 h10 z10 hdone => by
      refine ⟨fun op w11 => op = (if (tk ts i).t = [33] then (15 : Int) else 14) /\ w11 = w10, ?_, fun e => ⟨?_, rfl⟩, fun e => ⟨?_, rfl⟩⟩
      · rintro op w11 ⟨hop, rfl⟩
        obtain ⟨w12, k12, hB12, hO12⟩ := buildX w11 [exv vk vn vs vo vl va] (by simp) (by simp) (by simp) (parts := #[(0, .agg (exv vk vn vs vo vl va).toArray)]) rfl
        rw [List.flatten_cons, List.flatten_nil, List.append_nil] at hB12
        exact ⟨_, w12, k12, hO12.same (by simp; omega), fun w13 hO13 => hdone op _ w12 hO12 hB12 hop rfl w13 hO13⟩
      · have : (tk ts i).t = [33] := by
         simp only [sg, Bool.and_eq_true, decide_eq_true_eq] at e
         exact e.2
        rw [if_pos this]
      · have : (tk ts i).t ≠ [33] := fun ht => by
         rcases Bool.or_eq_true _ _ ▸ hs with e' | e'
         · simp only [sg, Bool.and_eq_true, decide_eq_true_eq] at e'
           rw [e'.2] at ht
           exact absurd ht (by decide)
         · rw [e] at e'; cases e'
        rw [if_neg this]
     cases hN : One (i + 1) with
     | error e =>
      rw [hN] at hD hR
      obtain ⟨hO8, a1, a2, j, a3⟩ := hD
      obtain ⟨i9, q1, k3, k4, zz, k5, q2, q3, q4, q5, q6, q7, q8⟩ := key a3
      refine ⟨i9, q1, k3, k4, zz, k5, q2, q3, q4, q5, q6, q7, fun w10 hO10 hB10 => ?_⟩
      obtain ⟨r1, r2⟩ := q8 w10 hO10 hB10
      refine fin r1 r2 hO10.size fun op sl w12 hO12 hB12 hop hsl w13 hO13 => ⟨own0 ((hOD.trans r1 fun x hx => .inl hx).tr0 hO12) hO13, ?_⟩
      rw [<- hR]
      exact ⟨a1, ⟨_, _, [], _, _, _, rfl⟩, j, (r2.only hO12).own hO13 (by simp; omega)⟩
     | ok q =>
      obtain ⟨x, j⟩ := q
      rw [hN] at hD hR
      obtain ⟨hO8, cs, a1, a2, a3⟩ := hD
      have hcs : (exv vk vn vs vo vl va) = cs := congrArg Array.toList (Value.agg.inj a1)
      obtain ⟨i9, q1, k3, k4, zz, k5, q2, q3, q4, q5, q6, q7, q8⟩ := key a3
      refine ⟨i9, q1, k3, k4, zz, k5, q2, q3, q4, q5, q6, q7, fun w10 hO10 hB10 => ?_⟩
      obtain ⟨r1, r2⟩ := q8 w10 hO10 hB10
      have z10 := hO10.size
      refine fin r1 r2 z10 fun op sl w12 hO12 hB12 hop hsl w13 hO13 => ⟨own0 ((hOD.trans r1 fun x hx => .inl hx).tr0 hO12) hO13, ?_⟩
      have z12 := hO12.size
      have z13 := hO13.size
      rw [<- hR, hop, hsl]
      refine ⟨_, rfl, ?_, (r2.only hO12).own hO13 (by simp; omega)⟩
      have hx13 : RX w13 w6.heap.size w8.heap.size x cs := ((a2.only r1 fun k hk => .inl (by simp only [List.mem_singleton] at hk; omega)).only hO12 (by simp)).only hO13 fun k hk => .inl (by simp only [List.mem_singleton] at hk; omega)
      have hB13 : Blk w13 w10.heap.size 96 cs := by
       rw [<- hcs]
       exact hO13.blk hB12 fun hm => by simp only [List.mem_singleton] at hm; omega
      exact .one w.heap.size w8.heap.size w10.heap.size _ _ _ _ _ _ x cs (hx13.wide (by omega) (Nat.le_refl _)) (by omega) (by omega) (by have := hB13.lt; omega) id hB13
 · rw [if_neg (by rw [hs]; decide), if_pos hp] at hR
   have hn := h.en.next h.lt (sg_k hp)
   refine (rdown_c hd h4 hn).mono ?_
   rintro _ w14 ⟨rfl, hO14, hR14⟩
   have z14 := hO14.size
   have hO014 := hO04b.trans hO14 fun x hx => .inl hx
   refine ⟨_, rfl, sm (by omega) hO14, fun hc w15 hO15 => ⟨own0 hO014 hO15, ?_⟩, fun hc => ?_⟩
   · have hc : d = 20 := by simpa using hc
     rw [if_pos hc] at hR14
     rw [<- hR, nestR, if_pos hc]
     exact ⟨(by decide : (21 : Int) ≠ 0), exT0, i, hR14.own hO15 (by simp; omega)⟩
   · have hc : d ≠ 20 := by simpa using hc
     rw [if_neg hc] at hR14
     rw [nestR, if_neg hc] at hR
     refine (hE hc w14 (i + 1) hR14).mono ?_
     rintro _ w16 ⟨v, rfl, hD⟩
     obtain ⟨vk, vn, vs, vo, vl, va, rfl⟩ := hD.typed
     have z16 := hD.1.size
     have hO016 := hO014.trans hD.1 fun x hx => .inl hx
     refine ⟨_, _, _, _, _, _, rfl, sm (by omega) hD.1, fun k6 w17 hk6 hk6' hO17 => ?_⟩
     have z17 := hO17.size
     have after : ∀ {j : Nat} {c a : Int} {w18 : World}, Only [b] w17 w18 -> Rr F ts w18 b l j c a ((d + 1 : Nat) : Int) -> (∀ w20, Only [b, k0] w18 w20 -> Only [b] w w20 -> Rr F ts w20 b l j c a (d : Int) -> Did6 F ts w w20 b l d R (.agg (exv vk vn vs vo vl va).toArray)) ->
       ∃ i15 : Int, Cells w18 (Addr.add ⟨b, 0, none⟩ 2) [.int .i64 i15] /\ ∃ k7 k8 : Nat, ∃ z1 : List Value, ∃ k9 : Nat, (Addr.add ⟨b, 0, none⟩ 2) = ⟨k7, k8, none⟩ /\ Blk w18 k7 k9 z1 /\ (k8 + 1) <= z1.length /\ k0 ≠ k7 /\ k1 ≠ k7 /\ k6 ≠ k7 /\
       ∀ w19 : World, Only [k7] w18 w19 -> Blk w19 k7 k9 (splice z1 k8 [.int .i64 (IntKind.wrap .i64 (i15 - 1))]) -> ∀ w20 : World, Only [k0] w19 w20 -> Did6 F ts w w20 b l d R (.agg #[.int .i64 vk, .int .i64 vn, .string (T vs), .int .i64 vo, vl.v, .int .i64 va]) := fun {j c a w18} hO18 h18 hdone => by
      refine ⟨((d + 1 : Nat) : Int), Blk.at1 h18.blk 2 rfl, b, 2, _, _, rfl, h18.blk, by simp, by omega, by omega, by omega, fun w19 hO19 hB19 w20 hO20 => ?_⟩
      have ed : ((d + 1 : Nat) : Int) - 1 = d := by omega
      rw [ed, wr' (by omega) (by omega)] at hB19
      have h19 : Rr F ts w19 b l j c a (d : Int) := h18.turn hO19 hB19 h18.lt
      exact hdone w20 ((hO19.weaken (bs' := [b, k0]) fun x hx => .inl (by simp only [List.mem_singleton] at hx; simp [hx])).trans hO20 fun x hx => .inl (by simp only [List.mem_singleton] at hx; simp [hx])) (own0 (((hO016.tr0 hO17).trans hO18 fun x hx => .inl hx).trans hO19 fun x hx => .inl hx) hO20) (h19.own hO20 (by simp; omega))
     obtain ⟨hO16, hD⟩ := hD
     cases hN : E0 (i + 1) with
     | error e =>
      rw [hN] at hD hR
      obtain ⟨a1, a2, j, a3⟩ := hD
      refine (rmust_c (a3.only hO17) [41]).mono ?_
      rintro _ w18 ⟨rfl, hO18, hR18⟩
      rw [if_neg (by simp [a1]), if_neg a1, if_neg a1] at hR18
      refine ⟨rfl, hO18.same (by simp; omega), after hO18 hR18 fun w20 hO20 hOw h20 => ⟨hOw, ?_⟩⟩
      rw [<- hR]
      exact ⟨a1, ⟨_, _, _, _, _, _, rfl⟩, j, h20⟩
     | ok q =>
      obtain ⟨x, j⟩ := q
      rw [hN] at hD hR
      obtain ⟨cs, a1, a2, a3⟩ := hD
      refine (rmust_c (a3.only hO17) [41]).mono ?_
      rintro _ w18 ⟨rfl, hO18, hR18⟩
      rw [show ((0 : Int) == 0) = true from rfl, Bool.true_and, if_pos rfl, if_pos rfl] at hR18
      refine ⟨rfl, hO18.same (by simp; omega), ?_⟩
      have z18 := hO18.size
      by_cases hs41 : sg ts j [41] = true
      · rw [if_pos hs41] at hR18
        refine after hO18 hR18 fun w20 hO20 hOw h20 => ⟨hOw, ?_⟩
        rw [<- hR]
        simp only [parR, hs41, if_true]
        have z20 := hO20.size
        exact ⟨cs, a1, (((a2.only hO17 (by simp)).only hO18 fun k hk => .inl (by simp only [List.mem_singleton] at hk; omega)).only hO20 fun k hk => .inl (by simp only [List.mem_cons, List.not_mem_nil, or_false] at hk; omega)).wide (by omega) (by omega), h20⟩
      · rw [if_neg hs41] at hR18
        refine after hO18 hR18 fun w20 hO20 hOw h20 => ⟨hOw, ?_⟩
        rw [<- hR]
        simp only [parR, hs41, if_false]
        exact ⟨wrongF_ne, ⟨_, _, _, _, _, _, rfl⟩, j, h20⟩
 · have hi : (tk ts i).k = 3 := by simpa using hi
   rw [if_neg (by rw [hs]; decide), if_neg (by rw [hp]; decide), if_pos hi] at hR
   have hn := h.en.next h.lt (by rw [hi]; decide)
   refine ⟨(i : Int), Blk.at1 h4.blk 1 rfl, b, 1, _, _, rfl, h4.blk, by simp, by omega, by omega, fun w21 hO21 hB21 w22 hO22 => ⟨own0 (hO04b.trans hO21 fun x hx => .inl hx) hO22, ?_⟩⟩
   rw [wr' (by omega) (by omega)] at hB21
   have h21 : Rr F ts w21 b l (i + 1) 0 0 (d : Int) := h4.turn hO21 hB21 hn
   rw [<- hR]
   exact ⟨_, rfl, .leaf .., h21.own hO22 (by simp; omega)⟩
 · have hi : ¬ (tk ts i).k = 3 := by simpa using hi
   have hv : (tk ts i).k = 1 := by simpa using hv
   rw [if_neg (by rw [hs]; decide), if_neg (by rw [hp]; decide), if_neg hi, if_pos hv] at hR
   have hn := h.en.next h.lt (by rw [hv]; decide)
   refine ⟨(i : Int), Blk.at1 h4.blk 1 rfl, b, 1, _, _, rfl, h4.blk, by simp, by omega, by omega, fun w21 hO21 hB21 w22 hO22 => ⟨own0 (hO04b.trans hO21 fun x hx => .inl hx) hO22, ?_⟩⟩
   rw [wr' (by omega) (by omega)] at hB21
   have h21 : Rr F ts w21 b l (i + 1) 0 0 (d : Int) := h4.turn hO21 hB21 hn
   rw [<- hR]
   exact ⟨_, rfl, .leaf .., h21.own hO22 (by simp; omega)⟩
 · have hi : ¬ (tk ts i).k = 3 := by simpa using hi
   have hv : ¬ (tk ts i).k = 1 := by simpa using hv
   rw [show (ByteArray.mk #[105, 110]) = T [105, 110] from rfl, T_eq]
   rw [if_neg (by rw [hs]; decide), if_neg (by rw [hp]; decide), if_neg hi, if_neg hv] at hR
   refine ⟨fun hw => ?_, fun hw => (rwrong_c h4).mono ?_⟩
   · have hw : (tk ts i).k = 2 /\ (tk ts i).t = [105, 110] := by simpa using hw
     rw [if_pos hw] at hR
     have hn := h.en.next h.lt (by rw [hw.1]; decide)
     refine (rin_c h4 hn).mono ?_
     rintro _ w25 ⟨v, rfl, hD⟩
     obtain ⟨vk, vn, vs, vo, vl, va, rfl⟩ := hD.typed
     refine ⟨_, _, _, _, _, _, rfl, sm (by omega) hD.1, fun w26 hO26 => ?_⟩
     rw [<- hR]
     exact hD.around hO04b hO26 (by simp; omega)
   · rw [if_neg (fun hh => by rw [hh.1, hh.2] at hw; simp at hw)] at hR
     rintro _ w27 ⟨rfl, hO27, hR27⟩
     rw [if_pos rfl, if_pos rfl] at hR27
     refine ⟨rfl, sm (by omega) hO27, fun w28 hO28 => ⟨own0 (hO04b.trans hO27 fun x hx => .inl hx) hO28, ?_⟩⟩
     rw [<- hR]
     exact ⟨wrongF_ne, exT0, i, hR27.own hO28 (by simp; omega)⟩
def At6 (F : Nat -> Prop) (ts : List Tk) (w : World) (b : Nat) (l : Sl) (d : Nat) (N : Nat -> Prop) (E : Nat -> Pr) (k : Int) (R : Pr) (nv : Nat) (op : Int) (cs : List Value) (w' : World) : Prop := Only [b] w w' /\
  ((∃ (c a : Int) (j : Nat), op = 0 /\ c ≠ 0 /\ R = .error (c, a) /\ Rr F ts w' b l j c a (d : Int)) ∨
   (∃ (x : Ex) (j : Nat), op = opAt ts k j /\ RXN w' N w.heap.size w'.heap.size x cs /\ Rr F ts w' b l j 0 0 (d : Int) /\ R = loopR ts E k nv x j /\ ts.length - j <= nv))
theorem from_step {f k d : Nat} (hk6 : k < 6) (h : Rr F ts w b l i 0 0 (d : Int))
  (hE : ∀ w i, Rr F ts w b l i 0 0 (d : Int) -> Calls Try.prog 93 #[.pointer (some ⟨b, 0, none⟩), .int .i64 ((k + 1 : Nat) : Int)] w fun e w' => ∃ v, e = .returned v /\ Did6 F ts w w' b l d (exprR ts f (k + 1) d i) v) :
  Calls Try.prog 93 #[.pointer (some ⟨b, 0, none⟩), .int .i64 (k : Int)] w fun e w' => ∃ v, e = .returned v /\ Did6 F ts w w' b l d (exprR ts (f + 1) k d i) v := by
 have eR : exprR ts (f + 1) k d i = andR (exprR ts f (k + 1) d i) fun x j => loopR ts (exprR ts f (k + 1) d) (k : Int) (ts.length - j) x j := by rw [exprR, if_neg (by omega)]
 rw [eR]
 have hmono : ∀ i x j, exprR ts f (k + 1) d i = .ok (x, j) -> i < j := fun i x j h => exprR_mono f _ _ i h
 generalize hgE : exprR ts f (k + 1) d = E at *
 generalize hR : (andR (E i) fun x j => loopR ts E (k : Int) (ts.length - j) x j) = R
 refine v44w ⟨b, 0, none⟩ _ (fun v w' => Did6 F ts w w' b l d R v) w ?_
 unfold v44v
 have ek : IntKind.wrap .i64 ((k : Int) + 1) = ((k + 1 : Nat) : Int) := by rw [wr' (by omega) (by omega)]; rfl
 refine ⟨fun hc => absurd (by simpa using hc) (by omega : ¬ (k : Int) = 6), fun _ k1 w3 hk1 hk1' hO3 => ?_⟩
 have hb := h.lb
 rw [ek]
 refine (hE w3 i (h.only hO3)).mono ?_
 rintro _ w4 ⟨v, rfl, hD⟩
 obtain ⟨vk, vn, vs, vo, vl, va, rfl⟩ := hD.typed
 have z3 := hO3.size
 have z4 := hD.1.size
 refine ⟨_, _, _, _, _, _, rfl, hD.1.same (by simp; omega), fun k2 w5 hk2 hk2' hO5 => ?_⟩
 have z5 := hO5.size
 have hO05 : Only [b] w w5 := ((hO3.weaken (bs' := [b]) fun _ h => (by cases h)).trans hD.1 fun x hx => .inl hx).tr0 hO5
 have sm : ∀ {u u' : World}, w5.heap.size <= u.heap.size -> Only [b] u u' -> Same [k1, k2] u u' := fun hu hO => hO.same (by intro x hx; simp only [List.mem_cons, List.not_mem_nil, or_false] at hx ⊢; omega)
 have hbg := h.big
 have hst : ∃ (j : Nat) (c a : Int), Rr F ts w4 b l j c a (d : Int) /\ ∀ w6, Only [] w4 w6 -> ∃ nv, At6 F ts w b l d (fun q => q = k1 ∨ q = k2) E (k : Int) R nv (if c = 0 then opAt ts (k : Int) j else 0) (exv vk vn vs vo vl va) w6 := by
  obtain ⟨hO4, hD2⟩ := hD
  have hO04 : Only [b] w w4 := (hO3.weaken (bs' := [b]) fun _ h => (by cases h)).trans hO4 fun x hx => .inl hx
  cases hEi : E i with
  | error e =>
   rw [hEi] at hD2 hR
   obtain ⟨c, a⟩ := e
   obtain ⟨a1, a2, j, a3⟩ := hD2
   exact ⟨j, c, a, a3, fun w6 hO6 => ⟨0, hO04.tr0 hO6, .inl ⟨c, a, j, if_neg a1, a1, hR.symm, a3.only hO6⟩⟩⟩
  | ok q =>
   obtain ⟨x, j⟩ := q
   rw [hEi] at hD2 hR
   obtain ⟨cs, a1, a2, a3⟩ := hD2
   have hcs : (exv vk vn vs vo vl va) = cs := congrArg Array.toList (Value.agg.inj a1)
   rw [hcs]
   exact ⟨j, 0, 0, a3, fun w6 hO6 => ⟨ts.length - j, hO04.tr0 hO6, .inr ⟨x, j, if_pos rfl, ((a2.only hO6 (by simp)).holes fun q h1 h2 _ => (by omega)).wide z3 hO6.size, a3.only hO6, hR.symm, Nat.le_refl _⟩⟩⟩
 obtain ⟨j0, c0, a0, hR4, hst⟩ := hst
 refine (xrow_c (hR4.only hO5) hk6).mono ?_
 rintro _ w6 ⟨rfl, hO6⟩
 have z6 := hO6.size
 obtain ⟨nv0, hA0⟩ := hst w6 (hO5.tr0 hO6)
 refine ⟨_, rfl, hO6.same (by simp; omega), fun nv op i10 i11 s2 i12 l2 i13 w' => w5.heap.size <= w'.heap.size /\ At6 F ts w b l d (fun q => q = k1 ∨ q = k2) E (k : Int) R nv op [.int .i64 i10, .int .i64 i11, .string s2, .int .i64 i12, l2.v, .int .i64 i13] w', nv0, ⟨z6, hA0⟩, ?_⟩
 rintro nv op i10 i11 s2 i12 l2 i13 w7 ⟨z7, hO7, hA⟩
 refine ⟨fun hop => ?_, fun hop w14 hO14 => ?_⟩
 · have hop : op ≠ 0 := by simpa using hop
   rcases hA with ⟨_, _, _, e, _⟩ | ⟨x, j, rfl, hX, hRd, hRe, hnv⟩
   · exact absurd e hop
   have hn := hRd.en.next hRd.lt (opFrom_sg _ _ hop)
   obtain ⟨g, rfl⟩ : ∃ g, nv = g + 1 := ⟨nv - 1, by omega⟩
   rw [loopR, if_neg hop] at hRe
   refine ⟨(j : Int), Blk.at1 hRd.blk 1 rfl, b, 1, _, _, rfl, hRd.blk, by simp, by omega, by omega, fun w8 hO8 hB8 => ?_⟩
   rw [wr' (by omega) (by omega)] at hB8
   have h8 : Rr F ts w8 b l (j + 1) 0 0 (d : Int) := hRd.turn hO8 hB8 hn
   have z8 := hO8.size
   refine (hE w8 (j + 1) h8).mono ?_
   rintro _ w9 ⟨v, rfl, hD9⟩
   obtain ⟨yk, yn, ys, yo, yl, ya, rfl⟩ := hD9.typed
   have z9 := hD9.1.size
   refine ⟨_, _, _, _, _, _, rfl, sm (by omega) hD9.1, fun k8 w10 hk8 hk8' hO10 => ?_⟩
   have z10 := hO10.size
   obtain ⟨w11, k11, hB11, hO11⟩ := buildX w10 [[.int .i64 i10, .int .i64 i11, .string s2, .int .i64 i12, l2.v, .int .i64 i13], exv yk yn ys yo yl ya] (by simp) (by simp) (by simp) (parts := #[(0, .agg #[.int .i64 i10, .int .i64 i11, .string s2, .int .i64 i12, l2.v, .int .i64 i13]), (1, .agg (exv yk yn ys yo yl ya).toArray)]) rfl
   have z11 := hO11.size
   refine ⟨⟨some ⟨w10.heap.size, 0, none⟩, 2, 2⟩, w11, k11, hO11.same (by simp; omega), fun w12 hO12 => ?_⟩
   have z12 := hO12.size
   have hO012 : Only [b] w w12 := ((((hO7.trans hO8 fun x hx => .inl hx).trans hD9.1 fun x hx => .inl hx).tr0 hO10).tr0 hO11).new hO12 (by omega)
   have hO912 : Only [k2] w9 w12 := ((hO10.tr0 hO11).weaken (bs' := [k2]) fun _ h => (by cases h)).trans hO12 fun x hx => .inl hx
   have hst2 : ∃ (j' : Nat) (c a : Int), Rr F ts w9 b l j' c a (d : Int) /\ ∀ w13, Only [] w12 w13 -> ∃ nv, nv < g + 1 /\ At6 F ts w b l d (fun q => q = k1 ∨ q = k2) E (k : Int) R nv (if c = 0 then opAt ts (k : Int) j' else 0) (exv 5 0 [] (opAt ts (k : Int) j) ⟨some ⟨w10.heap.size, 0, none⟩, 2, 2⟩ i13) w13 := by
    obtain ⟨hO9, hD2⟩ := hD9
    cases hEi : E (j + 1) with
    | error e =>
     rw [hEi] at hD2 hRe
     obtain ⟨c, a⟩ := e
     obtain ⟨a1, a2, j', a3⟩ := hD2
     exact ⟨j', c, a, a3, fun w13 hO13 => ⟨0, by omega, hO012.tr0 hO13, .inl ⟨c, a, j', if_neg a1, a1, hRe, (a3.own hO912 (by simp; omega)).only hO13⟩⟩⟩
    | ok q =>
     obtain ⟨y, j'⟩ := q
     rw [hEi] at hD2 hRe
     obtain ⟨cs, a1, a2, a3⟩ := hD2
     have hcs : (exv yk yn ys yo yl ya) = cs := congrArg Array.toList (Value.agg.inj a1)
     have hjj := hmono _ _ _ hEi
     obtain ⟨xl, hxl, _⟩ := hX.cells
     have hxa : i13 = x.a := by
      simp only [exv, List.cons.injEq, Value.int.injEq] at hxl
      exact hxl.2.2.2.2.2.1.2
     refine ⟨j', 0, 0, a3, fun w13 hO13 => ⟨g, by omega, hO012.tr0 hO13, .inr ⟨.mk 5 0 [] (opAt ts (k : Int) j) [x, y] x.a, j', if_pos rfl, ?_, (a3.own hO912 (by simp; omega)).only hO13, hRe, ?_⟩⟩⟩
     · have z13 := hO13.size
       have hO713 : Only [b, k2] w7 w13 := (((((hO8.weaken (bs' := [b, k2]) fun x hx => .inl (by simp only [List.mem_singleton] at hx; simp [hx])).trans hO9 fun x hx => .inl (by simp only [List.mem_singleton] at hx; simp [hx])).trans hO912 fun x hx => .inl (by simp only [List.mem_singleton] at hx; simp [hx])).tr0 hO13))
       have hO913 : Only [k2] w9 w13 := hO912.tr0 hO13
       have hB13 : Blk w13 w10.heap.size 96 ([.int .i64 i10, .int .i64 i11, .string s2, .int .i64 i12, l2.v, .int .i64 i13] ++ cs) := by
        have := hO13.blk (hO12.blk hB11 (by simp; omega)) (by simp)
        rw [<- hcs]
        simpa using this
       have hx13 : RXN w13 (fun q => q = k1 ∨ q = k2) w.heap.size w7.heap.size x [.int .i64 i10, .int .i64 i11, .string s2, .int .i64 i12, l2.v, .int .i64 i13] := by
        exact hX.only hO713 fun q hq => by
         simp only [List.mem_cons, List.not_mem_nil, or_false] at hq
         rcases hq with rfl | rfl
         · exact .inl hb
         · exact .inr (.inr (.inr rfl))
       have hy13 : RXN w13 (fun q => q = k1 ∨ q = k2) w8.heap.size w9.heap.size y cs := (a2.only hO913 fun q hq => .inl (by simp only [List.mem_singleton] at hq; omega)).holes fun q h1 h2 _ => (by omega)
       rw [hxa]
       exact .two w.heap.size w7.heap.size w8.heap.size w9.heap.size w10.heap.size _ _ _ _ _ _ x y _ cs hx13 z8 hy13 (by omega) (by omega) (by omega) (by omega) (by have := hB13.lt; omega) (by omega) hB13
     · omega
   obtain ⟨j', c', a', hR9, hst2⟩ := hst2
   refine (xrow_c (hR9.own hO912 (by simp; omega)) hk6).mono ?_
   rintro _ w13 ⟨rfl, hO13⟩
   obtain ⟨nv', hnv', hA'⟩ := hst2 w13 hO13
   exact ⟨_, rfl, hO13.same (by simp; omega), nv', hnv', by have := hO13.size; omega, hA'⟩
 · have hop : op = 0 := by simpa using hop
   refine ⟨hO7.new hO14 (by omega), ?_⟩
   rcases hA with ⟨c, a, j, _, hc, hRe, hRd⟩ | ⟨x, j, hoj, hX, hRd, hRe, hnv⟩
   · rw [hRe]
     exact ⟨hc, ⟨i10, i11, s2.data.toList, i12, l2, i13, by unfold exv; rw [<- T_of]⟩, j, hRd.own hO14 (by simp; omega)⟩
   · rw [hRe, loop_zero (by rw [<- hoj, hop])]
     exact ⟨_, rfl, ((hX.only hO14 fun q hq => .inr (.inr (.inl (by simpa using hq)))).holes fun _ _ _ _ h => h).wide (Nat.le_refl _) hO14.size, hRd.own hO14 (by simp; omega)⟩
theorem rreader_c : ∀ f : Nat, (∀ (k d i : Nat) (w : World), k <= 6 -> d <= 20 -> need k d <= f -> Rr F ts w b l i 0 0 (d : Int) ->
      Calls Try.prog 93 #[.pointer (some ⟨b, 0, none⟩), .int .i64 (k : Int)] w fun e w' => ∃ v, e = .returned v /\ Did6 F ts w w' b l d (exprR ts f k d i) v) /\
    (∀ (d i : Nat) (w : World), d <= 20 -> need 6 d <= f -> Rr F ts w b l i 0 0 (d : Int) ->
      Calls Try.prog 96 #[.pointer (some ⟨b, 0, none⟩)] w fun e w' => ∃ v, e = .returned v /\ Did6 F ts w w' b l d (exprR ts f 6 d i) v)
  | 0 => ⟨fun k d i w hk hd hn => by unfold need at hn; omega, fun d i w hd hn => by unfold need at hn; omega⟩
  | f + 1 => by
    obtain ⟨ih1, ih2⟩ := rreader_c f
    have one : ∀ (d i : Nat) (w : World), d <= 20 -> need 6 d <= f + 1 -> Rr F ts w b l i 0 0 (d : Int) ->
      Calls Try.prog 96 #[.pointer (some ⟨b, 0, none⟩)] w fun e w' => ∃ v, e = .returned v /\ Did6 F ts w w' b l d (exprR ts (f + 1) 6 d i) v := fun d i w hd hn h => by
      unfold need at hn
      exact rone_c hd h (fun h20 w i h => ih1 0 (d + 1) i w (by omega) (by omega) (by unfold need; omega) h) (fun h20 w i h => ih2 (d + 1) i w (by omega) (by unfold need; omega) h)
    refine ⟨fun k d i w hk hd hn h => ?_, one⟩
    by_cases h6 : k = 6
    · subst h6
      refine v44w ⟨b, 0, none⟩ _ (fun v w' => Did6 F ts w w' b l d (exprR ts (f + 1) 6 d i) v) w ?_
      unfold v44v
      refine ⟨fun _ k0 w0 hk0 hk0' hO0 => ?_, fun hc => absurd hc (by decide)⟩
      refine (one d i w0 hd hn (h.only hO0)).mono ?_
      rintro _ w1 ⟨v, rfl, hD⟩
      obtain ⟨vk, vn, vs, vo, vl, va, rfl⟩ := hD.typed
      have hb := h.lb
      exact ⟨_, _, _, _, _, _, rfl, hD.1.same (by simp; omega), fun w2 hO2 => hD.around (hO0.weaken fun _ h => (by cases h)) hO2 (by simp; omega)⟩
    · unfold need at hn
      exact from_step (by omega) h fun w i h => ih1 (k + 1) d i w (by omega) hd (by unfold need; omega) h
end
theorem eparse_r {w : World} {F : Nat -> Prop} {l : Sl} {ts : List Tk} (h : SliceF rTk 4 w F l ts) (a : Int) (ha : InI a) : Calls Try.prog 90 #[l.v, .int .i64 a] w fun e w' =>
  ∃ cs, e = .returned (.tuple #[.agg cs.toArray, .int .i64 (parseA ts a).2.1, .agg #[.int .i64 (parseA ts a).2.2.1, .int .i64 (parseA ts a).2.2.2]]) /\ RX w' w.heap.size w'.heap.size (parseA ts a).1 cs /\ ((parseA ts a).2.2.1 = 0 -> 0 <= (parseA ts a).2.1 /\ (parseA ts a).2.1 < ts.length) /\ Only [] w w' := by
 refine (v34w l a (fun v w' => ∃ cs, v = (.tuple #[.agg cs.toArray, .int .i64 (parseA ts a).2.1, .agg #[.int .i64 (parseA ts a).2.2.1, .int .i64 (parseA ts a).2.2.2]]) /\ RX w' w.heap.size w'.heap.size (parseA ts a).1 cs /\ ((parseA ts a).2.2.1 = 0 -> 0 <= (parseA ts a).2.1 /\ (parseA ts a).2.1 < ts.length) /\ Only [] w w') w ?_).mono (by
  rintro e w' ⟨v, rfl, cs, rfl, h⟩; exact ⟨cs, rfl, h⟩)
 unfold v34v
 have hlen := h.len
 have hcap := h.cap
 have hbig := h.big
 have bad : ¬ (0 <= a /\ a < ts.length /\ endN ts + 1 = ts.length) -> ∀ w0, Only [] w w0 -> ∃ cs, (Value.tuple #[.agg #[.int .i64 0, .int .i64 0, .string (ByteArray.mk #[]), .int .i64 0, Sl.nil.v, .int .i64 0], .int .i64 0, .agg #[.int .i64 1, .int .i64 (-1)]]) = (.tuple #[.agg cs.toArray, .int .i64 (parseA ts a).2.1, .agg #[.int .i64 (parseA ts a).2.2.1, .int .i64 (parseA ts a).2.2.2]]) /\ RX w0 w.heap.size w0.heap.size (parseA ts a).1 cs /\ ((parseA ts a).2.2.1 = 0 -> 0 <= (parseA ts a).2.1 /\ (parseA ts a).2.1 < ts.length) /\ Only [] w w0 := fun hc w0 hO => by
  rw [parseA, if_neg hc]
  exact ⟨_, rfl, rx0 _ _ _, fun h => (by cases h), hO⟩
 refine ⟨fun hc k0 k1 w0 _ _ _ _ hO0 => bad (fun hh => ?_) w0 hO0, fun hc k2 k3 w1 hk2 hk2' hk3 hk3' hO1 => ?_⟩
 · simp only [Bool.or_eq_true, decide_eq_true_eq] at hc
   omega
 have hc : 0 <= a /\ a < ts.length := by
  simp only [Bool.or_eq_false_iff, decide_eq_false_iff_not] at hc
  omega
 have z1 := hO1.size
 have own : ∀ {u u' : World}, Only [] w u -> Only [k3, k2] u u' -> Only [] w u' := fun h1 h2 => h1.trans h2 fun x hx => .inr (by simp only [List.mem_cons, List.not_mem_nil, or_false] at hx; omega)
 refine ⟨fun nv i _ _ _ _ _ _ _ _ w' => ∃ n : Nat, n <= ts.length /\ i = (n : Int) /\ nv = ts.length - n /\ (∀ j, j < n -> ((tk ts j).k = 5 ↔ j + 1 = ts.length)) /\ Only [] w w' /\ w1.heap.size <= w'.heap.size, ts.length, ⟨0, Nat.zero_le _, rfl, rfl, fun j hj => absurd hj (Nat.not_lt_zero j), hO1, Nat.le_refl _⟩, ?_⟩
 rintro nv _ _ _ _ _ _ _ _ _ w2 ⟨n, hn, rfl, rfl, hE, hO2, z2⟩
 have h2 := SliceF.only rTk_ok (by decide) h hO2 (by simp)
 refine ⟨fun hlt => ?_, fun hge k7 w4 hk7 hk7' hO4 hB4 => ?_⟩
 · have hlt : (n : Int) < (l.n : Int) := of_decide_eq_true hlt
   obtain ⟨ad, x, cs, g1, g2, g3, g4, g5, g6⟩ := h2.get (Int.natCast_nonneg n) hlt
   rw [Int.toNat_natCast, tk_at (by omega)] at g2
   injection g2 with g2
   subst g2
   unfold rTk at g6
   subst g6
   have e : ((tk ts n).k == 5) = decide ((tk ts n).k = 5) := by rw [Bool.eq_iff_iff]; simp
   have e2 : ((n : Int) == IntKind.wrap .i64 ((l.n : Int) - 1)) = decide (n + 1 = ts.length) := by
    rw [wr' (by omega) (by omega), Bool.eq_iff_iff]
    simp only [beq_iff_eq, decide_eq_true_eq]
    omega
   refine ⟨ad, g1, _, g5.at1 0 _ rfl, ?_⟩
   rw [e, e2]
   refine ⟨fun hm w3 hO3 => bad (fun hh => ?_) w3 (own hO2 hO3), fun hm => ⟨ts.length - (n + 1), by omega, n + 1, by omega, by rw [wr' (by omega) (by omega)]; rfl, rfl, fun j hj => ?_, hO2, z2⟩⟩
   · have := endN_end hh.2.2 n (by omega)
     rw [decide_eq_decide.2 this, beq_self_eq_true] at hm
     cases hm
   · rcases Nat.lt_or_ge j n with hjn | hjn
     · exact hE j hjn
     · have : j = n := by omega
       subst this
       have hm : decide ((tk ts j).k = 5) = decide (j + 1 = ts.length) := by simpa using hm
       exact decide_eq_decide.1 hm
 · have hge : ¬ (n : Int) < (l.n : Int) := of_decide_eq_false hge
   have : n = ts.length := by omega
   subst this
   have hEn : EndL ts := hE
   have hcc : 0 <= a /\ a < ts.length /\ endN ts + 1 = ts.length := ⟨hc.1, hc.2, end_endN hEn (by omega)⟩
   rw [parseA, if_pos hcc]
   obtain ⟨i, rfl⟩ : ∃ i : Nat, a = (i : Int) := ⟨a.toNat, by omega⟩
   have z4 := hO4.size
   have hO04 := hO2.tr0 hO4
   have hR : Rr (fun k => F k /\ k < w.heap.size) ts w4 k7 l i 0 0 ((0 : Nat) : Int) := ⟨hB4, SliceF.only rTk_ok (by decide) (h.inHeap rTk_ok (by decide)) hO04 (by simp), fun k hk => by have := hk.2; have := hO2.size; omega, hEn, by omega⟩
   refine ((rreader_c (need 0 0)).1 0 0 i w4 (by decide) (by decide) (Nat.le_refl _) hR).mono ?_
   rintro _ w5 ⟨v, rfl, hD⟩
   obtain ⟨vk, vn, vs, vo, vl, va, rfl⟩ := hD.typed
   have z5 := hD.1.size
   obtain ⟨hO5, hD⟩ := hD
   rw [Int.toNat_natCast]
   have hpr : parseR ts i = exprR ts (need 0 0) 0 0 i := rfl
   rw [hpr]
   have z02 := hO2.size
   have hO05 : Only [] w w5 := hO04.trans hO5 fun x hx => .inr (by simp only [List.mem_singleton] at hx; omega)
   refine ⟨_, _, _, _, _, _, rfl, hO5.same (by simp; omega), ?_⟩
   cases hEx : exprR ts (need 0 0) 0 0 i with
   | error e =>
    rw [hEx] at hD
    obtain ⟨c, p⟩ := e
    obtain ⟨a1, a2, j, a3⟩ := hD
    refine ⟨_, _, _, _, _, a3.blk, fun _ k8 w6 _ _ hO6 hB6 n1 n2 n3 n4 n5 n6 => ⟨fun k => k = k7, rfl, fun e => n2 e, fun e => n4 e, fun w7 hO7 _ => ⟨_, rfl, rx0 _ _ _, fun h => absurd h a1, own (hO05.tr0 hO6) hO7⟩⟩, fun hcz => absurd (by simpa using hcz) a1⟩
   | ok q =>
    rw [hEx] at hD
    obtain ⟨x, j⟩ := q
    obtain ⟨cs, a1, a2, a3⟩ := hD
    have hcs : (exv vk vn vs vo vl va) = cs := congrArg Array.toList (Value.agg.inj a1)
    refine ⟨_, _, _, _, _, a3.blk, fun hcz => (by simp at hcz), fun _ k9 w8 hk9 hk9' hO8 hB8 n1 n2 n3 n4 n5 n6 => ⟨fun k => k = k7, rfl, fun e => n2 e, fun e => n4 e, fun w9 hO9 _ => ?_⟩⟩
    have z8 := hO8.size
    have z9 := hO9.size
    refine ⟨exv vk vn vs vo vl va, rfl, ?_, fun _ => ⟨Int.natCast_nonneg j, by have := a3.lt; dsimp only; omega⟩, own (hO05.tr0 hO8) hO9⟩
    rw [hcs]
    exact ((a2.only hO8 (by simp)).only hO9 fun q hq => .inl (by simp only [List.mem_cons, List.not_mem_nil, or_false] at hq; omega)).wide (by omega) (by omega)
theorem rletter_c (w : World) (c : UInt8) : Calls Try.prog 68 #[.int .u8 (c.toNat : Int)] w fun e w' => e = .returned (.bool (letterB c)) /\ Only [] w w' := by
 refine ret (v30w _ (fun v w' => v = .bool (letterB c) /\ Only [] w w') w ?_)
 unfold v30v
 refine ⟨?_, Only.refl _ _⟩
 congr 1
 rw [Bool.eq_iff_iff]
 simp only [letterB, Bool.and_eq_true, Bool.or_eq_true, decide_eq_true_eq, beq_iff_eq]
 omega
theorem rdigit_c (w : World) (c : UInt8) : Calls Try.prog 76 #[.int .u8 (c.toNat : Int)] w fun e w' => e = .returned (.bool (digitB c)) /\ Only [] w w' := by
 refine ret (v29w _ (fun v w' => v = .bool (digitB c) /\ Only [] w w') w ?_)
 unfold v29v
 refine ⟨?_, Only.refl _ _⟩
 congr 1
 rw [Bool.eq_iff_iff]
 simp only [digitB, Bool.and_eq_true, decide_eq_true_eq]
 omega
theorem rwords_c (w : World) : Calls Try.prog 75 #[] w fun e w' => ∃ s : Sl, e = .returned s.v /\ Own rTx 1 9 w.heap.size w' (fun _ => True) s wordsL /\ Only [] w w' := by
 refine (v27w (fun v w' => ∃ s : Sl, v = s.v /\ Own rTx 1 9 w.heap.size w' (fun _ => True) s wordsL /\ Only [] w w') w ?_).mono (by
  rintro e w' ⟨v, rfl, s, rfl, h⟩; exact ⟨s, rfl, h⟩)
 unfold v27v
 obtain ⟨s, w', h1, h2, h3⟩ := buildS w wordsL (n := 16) rfl rfl (by decide) (by decide)
 exact ⟨s, w', h1, s, rfl, h2, h3⟩
theorem rword_c (w : World) (m : List UInt8) : Calls Try.prog 69 #[.string (T m)] w fun e w' => e = .returned (.bool (wordsL.contains m)) /\ Only [] w w' := by
 refine ret (v26w _ (fun v w' => v = .bool (wordsL.contains m) /\ Only [] w w') w ?_)
 unfold v26v
 refine (rwords_c w).mono ?_
 rintro _ w0 ⟨s, rfl, hs, hO0⟩
 have h := flatS hs
 generalize wordsL = l at *
 have hlen := h.len
 have hbig := h.big
 have hcap := h.cap
 refine ⟨s, rfl, fun nv i w' => ∃ n : Nat, n <= l.length /\ i = (n : Int) /\ nv = l.length - n /\ (∀ x, x ∈ l.take n -> x ≠ m) /\ w' = w0, l.length, ⟨0, Nat.zero_le _, rfl, rfl, by simp, rfl⟩, ?_⟩
 rintro nv _ _ ⟨n, hn, rfl, rfl, hp, rfl⟩
 refine ⟨fun hc => ?_, fun hc => ?_⟩
 · have hlt : (n : Int) < s.n := of_decide_eq_true hc
   obtain ⟨ad, x, cs, g1, g2, g3, g4, g5, g6⟩ := h.get (Int.natCast_nonneg n) hlt
   rw [Int.toNat_natCast] at g2
   unfold rTx at g6
   subst g6
   refine ⟨ad, g1, _, g5, ?_⟩
   rw [T_eq]
   refine ⟨fun he => ⟨?_, hO0⟩, fun he => ⟨l.length - (n + 1), by omega, n + 1, by omega, by rw [wr' (by omega) (by omega)]; rfl, rfl, ?_, rfl⟩⟩
   · have he : x = m := of_decide_eq_true he
     congr 1
     symm
     rw [List.contains_iff_mem, <- he]
     exact List.mem_of_getElem? g2
   · intro y hy
     rw [List.take_add_one, g2] at hy
     simp only [Option.toList_some, List.mem_append, List.mem_singleton] at hy
     rcases hy with hy | rfl
     · exact hp y hy
     · exact of_decide_eq_false he
 · have hge : ¬ ((n : Int) < s.n) := of_decide_eq_false hc
   rw [List.take_of_length_le (by omega)] at hp
   refine ⟨?_, hO0⟩
   congr 1
   symm
   rw [Bool.eq_false_iff]
   intro hh
   exact hp m (List.contains_iff_mem.1 hh) rfl
theorem rrow_c (w : World) (l : List UInt8) (i : Nat) (hi : i <= l.length) (hl : l.length < 4611686018427387903) :
  Calls Try.prog 70 #[.string (T l), .int .i64 (i : Int)] w fun e w' => e = .returned (.int .i64 (((l.drop i).takeWhile wordB).length : Int)) /\ Only [] w w' := by
 refine ret (v31w (T l) i (fun v w' => v = .int .i64 (((l.drop i).takeWhile wordB).length : Int) /\ Only [] w w') w ?_)
 unfold v31v
 rw [T_size]
 have hdl : (l.drop i).length = l.length - i := List.length_drop
 refine ⟨fun k w' => k = (((l.drop i).takeWhile wordB).length : Int) /\ Only [] w w', fun k w' h => ⟨by rw [h.1], h.2⟩, fun nv k w' => ∃ n : Nat, i + n <= l.length /\ k = (n : Int) /\ nv = l.length - (i + n) /\ (∀ x, x ∈ (l.drop i).take n -> wordB x = true) /\ Only [] w w', l.length - i, ⟨0, hi, rfl, rfl, by simp, Only.refl _ _⟩, ?_⟩
 rintro nv _ w1 ⟨n, hn, rfl, rfl, hp, hO1⟩
 rw [wr' (x := (i : Int) + n) (by omega) (by omega)]
 have ein : (i : Int) + n = ((i + n : Nat) : Int) := by omega
 rw [ein]
 refine ⟨fun hc => ?_, fun hc => ⟨?_, hO1⟩⟩
 · have hlt : i + n < l.length := by have := of_decide_eq_true hc; omega
   have hx : l[i + n]? = some l[i + n] := List.getElem?_eq_getElem hlt
   generalize l[i + n] = x at hx
   have hx' : (l.drop i)[n]? = some x := by rw [List.getElem?_drop, hx]
   have hg : (T l)[Int.toNat ((i + n : Nat) : Int)]? = some x := by rw [T_get, Int.toNat_natCast, hx]
   refine ⟨x, ⟨Int.natCast_nonneg _, hg⟩, (rletter_c w1 x).mono ?_⟩
   rintro _ w2 ⟨rfl, hO2⟩
   refine ⟨_, rfl, x, ⟨Int.natCast_nonneg _, hg⟩, (rdigit_c w2 x).mono ?_⟩
   rintro _ w3 ⟨rfl, hO3⟩
   have hO := hO1.tr0 (hO2.tr0 hO3)
   have e : ((!letterB x) && (!digitB x)) = !wordB x := by unfold wordB; rw [Bool.not_or]
   refine ⟨_, rfl, ?_⟩
   rw [e]
   refine ⟨fun hw => ⟨?_, hO⟩, fun hw => ⟨l.length - (i + (n + 1)), by omega, n + 1, by omega, by rw [wr' (by omega) (by omega)]; rfl, rfl, fun y hy => ?_, hO⟩⟩
   · rw [take_while (by omega) hp fun y hy => by
      rw [hx'] at hy
      injection hy with hy
      subst hy
      simpa using hw]
     rw [List.length_take]
     omega
   · rw [List.take_add_one, hx'] at hy
     simp only [Option.toList_some, List.mem_append, List.mem_singleton] at hy
     rcases hy with hy | rfl
     · exact hp y hy
     · simpa using hw
 · have hge : l.length <= i + n := by have := of_decide_eq_false hc; omega
   rw [take_while (by omega) hp fun y hy => by
    have := (List.getElem?_eq_some_iff.1 hy).1
    omega]
   rw [List.length_take]
   omega
theorem blank_or (c : UInt8) : (((((c.toNat : Int) == 9) || ((c.toNat : Int) == 10)) || ((c.toNat : Int) == 13)) || ((c.toNat : Int) == 32)) = blankB c := by
 have h9 : ((c.toNat : Int) == 9) = (c == 9) := u8i (d := 9)
 have h10 : ((c.toNat : Int) == 10) = (c == 10) := u8i (d := 10)
 have h13 : ((c.toNat : Int) == 13) = (c == 13) := u8i (d := 13)
 have h32 : ((c.toNat : Int) == 32) = (c == 32) := u8i (d := 32)
 rw [h9, h10, h13, h32, Bool.eq_iff_iff]
 simp [blankB, or_assoc]
theorem rblanks_c (w : World) (l : List UInt8) (i : Nat) (hi : i <= l.length) (hl : l.length < 4611686018427387903) :
  Calls Try.prog 91 #[.string (T l), .int .i64 (i : Int)] w fun e w' => e = .returned (.int .i64 ((i + skN false (l.drop i) : Nat) : Int)) /\ Only [] w w' := by
 refine ret (v28w (T l) i (fun v w' => v = .int .i64 ((i + skN false (l.drop i) : Nat) : Int) /\ Only [] w w') w ?_)
 unfold v28v
 rw [T_size]
 refine ⟨fun k w' => k = ((i + skN false (l.drop i) : Nat) : Int) /\ w' = w, fun k w' h => ⟨by rw [h.1], by rw [h.2]; exact Only.refl _ _⟩, fun nv k w' => ∃ j : Nat, j <= l.length /\ k = (j : Int) /\ nv = l.length - j /\ i + skN false (l.drop i) = j + skN false (l.drop j) /\ w' = w, l.length - i, ⟨i, hi, rfl, rfl, rfl, rfl⟩, ?_⟩
 rintro nv _ u ⟨j, hj, rfl, rfl, hjs, hu⟩
 subst hu
 refine ⟨fun hc => ?_, fun hc => ⟨?_, rfl⟩⟩
 · have hlt : j < l.length := by have := of_decide_eq_true hc; omega
   have hx : l[j]? = some l[j] := List.getElem?_eq_getElem hlt
   generalize l[j] = x at hx
   have hd := drop_cons hx
   have e47 : ((x.toNat : Int) == 47) = (x == 47) := u8i (d := 47)
   rw [wr' (x := (j : Int) + 1) (by omega) (by omega)]
   obtain ⟨y, hy⟩ : ∃ y : UInt8, j + 1 < l.length -> l[j + 1]? = some y := by
    by_cases h : j + 1 < l.length
    · exact ⟨l[j + 1], fun _ => List.getElem?_eq_getElem h⟩
    · exact ⟨0, fun h' => absurd h' h⟩
   have e2 : ((y.toNat : Int) == 47) = (y == 47) := u8i (d := 47)
   refine ⟨x, ⟨Int.natCast_nonneg j, by rw [T_get, Int.toNat_natCast, hx]⟩, y, fun h => ⟨by omega, ?_⟩, ?_⟩
   · rw [Bool.and_eq_true] at h
     have := of_decide_eq_true h.2
     rw [show (j : Int) + 1 = ((j + 1 : Nat) : Int) by omega, T_get, Int.toNat_natCast]
     exact hy (by omega)
   rw [e47, e2, blank_or]
   refine ⟨fun hs => ?_, fun hs => ⟨fun hb => ⟨l.length - (j + 1), by omega, j + 1, by omega, rfl, rfl, ?_, rfl⟩, fun hb => ⟨?_, rfl⟩⟩⟩
   · simp only [Bool.and_eq_true, decide_eq_true_eq, beq_iff_eq] at hs
     obtain ⟨⟨rfl, h1⟩, rfl⟩ := hs
     have h1 : j + 1 < l.length := by omega
     have hd2 := drop_cons (hy h1)
     have ht : (l.drop j).take 2 = [47, 47] := by rw [hd, hd2]; rfl
     have hk := skN_slash ht
     have hdl : (l.drop j).length = l.length - j := List.length_drop
     refine ⟨fun nv k w' => ∃ n : Nat, j + n <= l.length /\ k = ((j + n : Nat) : Int) /\ nv = l.length - (j + n) /\ (∀ x, x ∈ (l.drop j).take n -> (x != 10) = true) /\ w' = u, l.length - j, ⟨0, hj, rfl, rfl, by simp, rfl⟩, ?_⟩
     rintro nv _ _ ⟨n, hn, rfl, rfl, hp, rfl⟩
     obtain ⟨z, hz⟩ : ∃ z : UInt8, j + n < l.length -> l[j + n]? = some z := by
      by_cases h : j + n < l.length
      · exact ⟨l[j + n], fun _ => List.getElem?_eq_getElem h⟩
      · exact ⟨0, fun h' => absurd h' h⟩
     have e10 : ((z.toNat : Int) != 10) = (z != 10) := by
      have : ((z.toNat : Int) == 10) = (z == 10) := u8i (d := 10)
      unfold bne
      rw [this]
     refine ⟨z, fun h => ⟨Int.natCast_nonneg _, by rw [T_get, Int.toNat_natCast]; exact hz (by have := of_decide_eq_true h; omega)⟩, ?_⟩
     rw [e10]
     refine ⟨fun h => ?_, fun h => ?_⟩
     · rw [Bool.and_eq_true] at h
       have h1 := of_decide_eq_true h.1
       have hzz : (l.drop j)[n]? = some z := by rw [List.getElem?_drop]; exact hz (by omega)
       refine ⟨l.length - (j + (n + 1)), by omega, n + 1, by omega, by rw [wr' (by omega) (by omega)]; omega, rfl, fun q hq => ?_, rfl⟩
       rw [List.take_add_one, hzz] at hq
       simp only [Option.toList_some, List.mem_append, List.mem_singleton] at hq
       rcases hq with hq | rfl
       · exact hp q hq
       · exact h.2
     · have hw : (l.drop j).takeWhile (· != 10) = (l.drop j).take n := take_while (by omega) hp fun q hq => by
        have h1 := (List.getElem?_eq_some_iff.1 hq).1
        rw [List.getElem?_drop, hz (by omega)] at hq
        injection hq with hq
        subst hq
        rw [decide_eq_true (by omega), Bool.true_and] at h
        exact h
       have hwl : ((l.drop j).takeWhile (· != 10)).length = n := by rw [hw, List.length_take]; omega
       have hpos : 0 < n := by
        rw [<- hwl, hd, List.takeWhile_cons, if_pos (by decide), List.length_cons]
        omega
       rw [hwl, List.drop_drop] at hk
       exact ⟨l.length - (j + n), by omega, j + n, hn, rfl, rfl, by rw [hjs, hk]; omega, rfl⟩
   · rw [hjs, hd, skN, if_pos hb]; omega
   · have hz : skN false (l.drop j) = 0 := by
      rw [hd, skN, if_neg (by rw [hb]; decide), if_neg]
      intro hh
      simp only [Bool.and_eq_true, beq_iff_eq] at hh
      obtain ⟨rfl, hh⟩ := hh
      have h1 : j + 1 < l.length := by
       cases hr : l.drop (j + 1) with
       | nil => rw [hr] at hh; simp at hh
       | cons a b =>
        have := congrArg List.length hr
        rw [List.length_drop, List.length_cons] at this
        omega
      rw [drop_cons (hy h1)] at hh
      simp only [List.head?_cons, Option.some.injEq] at hh
      subst hh
      rw [decide_eq_true (by omega)] at hs
      simp at hs
     rw [hjs, hz]; rfl
 · have hge : l.length <= j := by have := of_decide_eq_false hc; omega
   rw [hjs, List.drop_of_length_le hge]; rfl
def longL : List (List UInt8) := [[45, 62], [60, 61], [62, 61], [61, 61], [33, 61], [38, 38], [124, 124]]
theorem sign2_long {c d : UInt8} {r : List UInt8} : sign2 (c :: d :: r) = longL.contains [c, d] := by
 rw [Bool.eq_iff_iff]
 simp [sign2, longL]
 constructor
 · rintro ((⟨rfl, h⟩ | ⟨rfl, h⟩) | ⟨rfl, rfl⟩)
   · rcases h with rfl | rfl | rfl | rfl <;> simp
   · rcases h with rfl | rfl <;> simp
   · simp
 · rintro (⟨rfl, rfl⟩ | ⟨rfl, rfl⟩ | ⟨rfl, rfl⟩ | ⟨rfl, rfl⟩ | ⟨rfl, rfl⟩ | ⟨rfl, rfl⟩ | ⟨rfl, rfl⟩) <;> simp
theorem signN_two {m : List UInt8} (h : sign2 m = true) : signN m = 2 := by unfold signN; rw [if_pos h]
theorem signN_one {c : UInt8} {r : List UInt8} (h : sign2 (c :: r) = false) : signN (c :: r) = if shortL.contains c then 1 else 0 := by
 unfold signN
 rw [if_neg (by rw [h]; decide)]
theorem rsign_c (w : World) (l : List UInt8) (i : Nat) (hi : i < l.length) (hl : l.length < 4611686018427387903) :
  Calls Try.prog 95 #[.string (T l), .int .i64 (i : Int)] w fun e w' => e = .returned (.int .i64 (signN (l.drop i) : Int)) /\ Only [] w w' := by
 refine ret (v32w (T l) i (fun v w' => v = .int .i64 (signN (l.drop i) : Int) /\ Only [] w w') w ?_)
 unfold v32v
 rw [T_size]
 obtain ⟨s, w0, k1, k2, hO0⟩ := buildS w longL (n := 7) (parts := #[(0, .string (ByteArray.mk #[45, 62])), (1, .string (ByteArray.mk #[60, 61])), (2, .string (ByteArray.mk #[62, 61])), (3, .string (ByteArray.mk #[61, 61])), (4, .string (ByteArray.mk #[33, 61])), (5, .string (ByteArray.mk #[38, 38])), (6, .string (ByteArray.mk #[124, 124]))]) rfl rfl (by decide) (by decide)
 have hs := flatS k2
 have hx : l[i]? = some l[i] := List.getElem?_eq_getElem hi
 generalize l[i] = c at hx
 have hd := drop_cons hx
 have hdl : (l.drop i).length = l.length - i := List.length_drop
 have hlen := hs.len
 rw [wr' (x := (i : Int) + 2) (by omega) (by omega)]
 refine ⟨s, w0, k1, fun nv k w' => ∃ n : Nat, n <= longL.length /\ k = (n : Int) /\ nv = longL.length - n /\ (2 <= (l.drop i).length -> ∀ x, x ∈ longL.take n -> x ≠ (l.drop i).take 2) /\ Only [] w0 w', longL.length, ⟨0, Nat.zero_le _, rfl, rfl, by simp, Only.refl _ _⟩, ?_⟩
 rintro nv _ w1 ⟨n, hn, rfl, rfl, hp, hO1⟩
 refine ⟨fun hc => ?_, fun hc => ?_⟩
 · have hlt : (n : Int) < s.n := of_decide_eq_true hc
   obtain ⟨ad, x, cs, g1, g2, g3, g4, g5, g6⟩ := (SliceF.only rTx_ok (by decide) hs hO1 (by simp)).get (Int.natCast_nonneg n) hlt
   rw [Int.toNat_natCast] at g2
   unfold rTx at g6
   subst g6
   have hn7 : longL.length = 7 := rfl
   refine ⟨i, i + 2, fun h => ⟨rfl, by omega, by omega, by have := of_decide_eq_true h; omega⟩, ad, fun _ => g1, _, fun _ => g5, ?_⟩
   have ex : (T l).extract i (i + 2) = T ((l.drop i).take 2) := by rw [T_ext, show i + 2 - i = 2 by omega]
   rw [ex, T_eq]
   refine ⟨fun h w2 hO2 => ⟨?_, hO0.tr0 (hO1.tr0 hO2)⟩, fun h w3 hO3 => ⟨longL.length - (n + 1), by omega, n + 1, by omega, by rw [wr' (by omega) (by omega)]; rfl, rfl, fun h2 y hy => ?_, hO1.tr0 hO3⟩⟩
   · rw [Bool.and_eq_true] at h
     have h1 := of_decide_eq_true h.1
     have h2 := of_decide_eq_true h.2
     have hs2 : sign2 (l.drop i) = true := by
      cases hr : l.drop (i + 1) with
      | nil =>
       have := congrArg List.length hr
       rw [List.length_drop, List.length_nil] at this
       omega
      | cons d r =>
       rw [hd, hr] at h2 ⊢
       rw [sign2_long, List.contains_iff_mem]
       have : (c :: d :: r).take 2 = [c, d] := rfl
       rw [<- this, h2]
       exact List.mem_of_getElem? g2
     rw [signN_two hs2]; rfl
   · rw [List.take_add_one, g2] at hy
     simp only [Option.toList_some, List.mem_append, List.mem_singleton] at hy
     rcases hy with hy | rfl
     · exact hp h2 y hy
     · rw [decide_eq_true (by omega), Bool.true_and] at h
       exact fun e => of_decide_eq_false h e.symm
 · have hge : ¬ ((n : Int) < s.n) := of_decide_eq_false hc
   rw [List.take_of_length_le (by omega)] at hp
   have hs2 : sign2 (l.drop i) = false := by
    cases hr : l.drop (i + 1) with
    | nil => rw [hd, hr]; rfl
    | cons d r =>
     rw [hd, hr, sign2_long, Bool.eq_false_iff]
     intro h
     rw [List.contains_iff_mem] at h
     have h2 : 2 <= (l.drop i).length := by rw [hd, hr]; simp
     exact hp h2 _ h (by rw [hd, hr]; rfl)
   have hsn : signN (l.drop i) = if shortL.contains c then 1 else 0 := by
    rw [hd] at hs2 ⊢
    exact signN_one hs2
   rw [hsn]
   refine ⟨fun nv k w' => ∃ n : Nat, n <= 17 /\ k = (n : Int) /\ nv = 17 - n /\ (∀ x, x ∈ shortL.take n -> x ≠ c) /\ Only [] w w', 17, ⟨0, Nat.zero_le _, rfl, rfl, by simp, hO0.tr0 hO1⟩, ?_⟩
   rintro nv _ w4 ⟨n, hn, rfl, rfl, hp, hO4⟩
   refine ⟨fun hc => ?_, fun hc => ⟨?_, hO4⟩⟩
   · have hlt : n < 17 := by have := of_decide_eq_true hc; omega
     have hy : shortL[n]? = some (shortL[n]'hlt) := List.getElem?_eq_getElem hlt
     generalize shortL[n]'hlt = y at hy
     refine ⟨c, ⟨Int.natCast_nonneg i, by rw [T_get, Int.toNat_natCast, hx]⟩, y, ⟨Int.natCast_nonneg n, by
      have e : (ByteArray.mk #[123, 125, 40, 41, 91, 93, 59, 44, 61, 43, 45, 42, 47, 37, 60, 62, 33]) = T shortL := rfl
      rw [e, T_get, Int.toNat_natCast, hy]⟩, ?_⟩
     rw [u8i]
     refine ⟨fun h w5 hO5 => ⟨?_, hO4.tr0 hO5⟩, fun h w6 hO6 => ⟨17 - (n + 1), by omega, n + 1, by omega, by rw [wr' (by omega) (by omega)]; rfl, rfl, fun q hq => ?_, hO4.tr0 hO6⟩⟩
     · have h : c = y := by simpa using h
       rw [if_pos]
       · rfl
       · rw [List.contains_iff_mem, h]
         exact List.mem_of_getElem? hy
     · rw [List.take_add_one, hy] at hq
       simp only [Option.toList_some, List.mem_append, List.mem_singleton] at hq
       rcases hq with hq | rfl
       · exact hp q hq
       · rintro rfl
         simp at h
   · have hge : n = 17 := by have := of_decide_eq_false hc; omega
     subst hge
     rw [if_neg]
     · rfl
     · intro h
       rw [List.contains_iff_mem] at h
       exact hp c (by rw [List.take_of_length_le (by decide)]; exact h) rfl
theorem decV_snoc {ds : List UInt8} {x : UInt8} : decV 0 (ds ++ [x]) = decV 0 ds * 10 + (x.toNat - 48) := by
 unfold decV
 rw [List.foldl_append]; rfl
theorem decV_take {ds : List UInt8} {n : Nat} : decV 0 (ds.take n) <= decV 0 ds := by
 have : decV 0 ds = decV (decV 0 (ds.take n)) (ds.drop n) := by
  unfold decV
  rw [<- List.foldl_append, List.take_append_drop]
 rw [this]
 exact decV_ge _ _
theorem rparse_c (w : World) (l : List UInt8) (hl : l.length < 4611686018427387903) :
    Calls Try.prog 94 #[.string (T l)] w fun e w' => e = .returned (.tuple #[.int .i64 (parseM l).1, .int .i64 (parseM l).2.1, .int .i64 (parseM l).2.2]) /\ Only [] w w' := by
  refine ret (v20w (T l) (fun v w' => v = .tuple #[.int .i64 (parseM l).1, .int .i64 (parseM l).2.1, .int .i64 (parseM l).2.2] /\ Only [] w w') w ?_)
  unfold v20v
  rw [T_size]
  refine ⟨fun h0 => ⟨?_, Only.refl _ _⟩, fun h0 => ?_⟩
  · have h0 : l = [] := List.eq_nil_of_length_eq_zero (by have : (l.length : Int) = 0 := by simpa using h0
                                                          omega)
    rw [parseM, if_pos h0]; rfl
  have h0 : ¬ l = [] := by
    rintro rfl
    simp at h0
  refine ⟨fun nv j w' => ∃ n : Nat, n <= l.length /\ j = (n : Int) /\ nv = l.length - n /\ (∀ x, x ∈ l.take n -> digitB x = true) /\ w' = w, l.length, ⟨0, Nat.zero_le _, rfl, rfl, by simp, rfl⟩, ?_⟩
  rintro nv _ u ⟨n, hn, rfl, rfl, hp, hu⟩
  subst hu
  obtain ⟨z, hz⟩ : ∃ z : UInt8, n < l.length -> l[n]? = some z := by
    by_cases h : n < l.length
    · exact ⟨l[n], fun _ => List.getElem?_eq_getElem h⟩
    · exact ⟨0, fun h' => absurd h' h⟩
  have hg : n < l.length -> 0 <= (n : Int) /\ (T l)[Int.toNat (n : Int)]? = some z := fun h => ⟨Int.natCast_nonneg n, by rw [T_get, Int.toNat_natCast]; exact hz h⟩
  refine ⟨z, fun h => hg (by have := of_decide_eq_true h; omega), z, fun h => hg (by
    rw [Bool.and_eq_true] at h
    have := of_decide_eq_true h.1; omega), ?_⟩
  have ed : ((((decide ((n : Int) < (l.length : Int))) && (decide ((z.toNat : Int) >= 48))) && (decide ((z.toNat : Int) <= 57)))) = (decide (n < l.length) && digitB z) := by
    rw [Bool.eq_iff_iff]
    simp only [digitB, Bool.and_eq_true, decide_eq_true_eq]
    omega
  rw [ed]
  refine ⟨fun h => ?_, fun h => ?_⟩
  · rw [Bool.and_eq_true] at h
    have h1 : n < l.length := of_decide_eq_true h.1
    refine ⟨l.length - (n + 1), by omega, n + 1, by omega, by rw [wr' (by omega) (by omega)]; rfl, rfl, fun y hy => ?_, rfl⟩
    rw [List.take_add_one, hz h1] at hy
    simp only [Option.toList_some, List.mem_append, List.mem_singleton] at hy
    rcases hy with hy | rfl
    · exact hp y hy
    · exact h.2
  have hds : l.takeWhile digitB = l.take n := take_while hn hp fun y hy => by
    have h1 := (List.getElem?_eq_some_iff.1 hy).1
    rw [hz h1] at hy
    injection hy with hy
    subst hy
    rw [decide_eq_true h1, Bool.true_and] at h
    exact h
  have hdl : (l.takeWhile digitB).length = n := by rw [hds, List.length_take]; omega
  obtain ⟨x, r, rfl⟩ : ∃ x r, l = x :: r := by
    cases l with
    | nil => exact absurd rfl h0
    | cons x r => exact ⟨x, r, rfl⟩
  refine ⟨x, fun _ _ => ⟨Int.le_refl _, by rw [T_get]; rfl⟩, ?_⟩
  have e48 : ((x.toNat : Int) == 48) = (x == 48) := u8i (d := 48)
  have eb : (((n : Int) == 0) || ((decide ((n : Int) > 1)) && ((x.toNat : Int) == 48))) = decide ((x :: r).takeWhile digitB = [] ∨ (1 < ((x :: r).takeWhile digitB).length /\ (x :: r).head? = some 48)) := by
    rw [e48, hdl, Bool.eq_iff_iff]
    simp only [Bool.and_eq_true, Bool.or_eq_true, decide_eq_true_eq, beq_iff_eq, List.head?_cons, Option.some.injEq]
    have : (x :: r).takeWhile digitB = [] ↔ n = 0 := by
      constructor
      · intro e; rw [e] at hdl; exact hdl.symm
      · intro e; rw [e] at hdl; exact List.eq_nil_of_length_eq_zero hdl
    rw [this]
    by_cases hx : x = 48
    · simp only [hx, and_true]; omega
    · simp only [hx, and_false, or_false]; omega
  rw [eb]
  refine ⟨fun hb => ⟨?_, Only.refl _ _⟩, fun hb => ?_⟩
  · rw [parseM, if_neg h0, if_pos (of_decide_eq_true hb)]; rfl
  have hb := of_decide_eq_false hb
  refine ⟨fun nv v j w' => ∃ q : Nat, q <= n /\ j = (q : Int) /\ nv = n - q /\ v = (decV 0 ((x :: r).take q) : Int) /\ decV 0 ((x :: r).take q) < 9223372036854775808 /\ Only [] u w', n, ⟨0, Nat.zero_le _, rfl, rfl, rfl, by rw [List.take_zero]; decide, Only.refl _ _⟩, ?_⟩
  rintro nv _ _ w1 ⟨q, hq, rfl, rfl, rfl, hv, hO1⟩
  refine ⟨fun hc => ?_, fun hc => ⟨?_, hO1⟩⟩
  · have hlt : q < n := by have := of_decide_eq_true hc; omega
    have hy : (x :: r)[q]? = some ((x :: r)[q]'(by omega)) := List.getElem?_eq_getElem (by omega)
    generalize (x :: r)[q]'(by omega) = y at hy
    have hyd : digitB y = true := hp y (by
      rw [List.mem_iff_getElem?]
      exact ⟨q, by rw [List.getElem?_take, if_pos hlt, hy]⟩)
    simp only [digitB, Bool.and_eq_true, decide_eq_true_eq] at hyd
    have e1 : IntKind.wrap .u8 ((y.toNat : Int) - 48) = (y.toNat : Int) - 48 := by
      have h : ∀ n : Fin 256, 48 <= n.val -> IntKind.wrap .u8 ((n.val : Int) - 48) = (n.val : Int) - 48 := by decide +kernel
      exact h ⟨y.toNat, y.toNat_lt⟩ hyd.1
    have et : (9223372036854775807 - ((y.toNat : Int) - 48)).tdiv 10 = (9223372036854775807 - ((y.toNat : Int) - 48)) / 10 := Int.tdiv_eq_ediv_of_nonneg (by omega)
    have es : (x :: r).take (q + 1) = (x :: r).take q ++ [y] := by rw [List.take_add_one, hy]; rfl
    have ev : decV 0 ((x :: r).take (q + 1)) = decV 0 ((x :: r).take q) * 10 + (y.toNat - 48) := by rw [es, decV_snoc]
    refine ⟨y, ⟨Int.natCast_nonneg q, by rw [T_get, Int.toNat_natCast, hy]⟩, ?_⟩
    rw [e1, wr' (x := (y.toNat : Int) - 48) (by omega) (by omega), wr' (x := 9223372036854775807 - ((y.toNat : Int) - 48)) (by omega) (by omega), et, wr' (x := (9223372036854775807 - ((y.toNat : Int) - 48)) / 10) (by omega) (by omega)]
    refine ⟨fun hgt => ⟨?_, hO1⟩, fun hgt => ⟨n - (q + 1), by omega, q + 1, by omega, by rw [wr' (by omega) (by omega)]; rfl, rfl, ?_, ?_, hO1⟩⟩
    · have hgt := of_decide_eq_true hgt
      have h1 : decV 0 ((x :: r).take (q + 1)) <= decV 0 ((x :: r).take n) := by
        have := decV_take (ds := (x :: r).take n) (n := q + 1)
        rw [List.take_take, Nat.min_eq_left (by omega)] at this
        exact this
      rw [parseM, if_neg h0, if_neg hb, if_neg (by rw [hds]; omega)]; rfl
    · have hgt := of_decide_eq_false hgt
      rw [ev, wr' (x := 10 * (decV 0 ((x :: r).take q) : Int)) (by omega) (by omega), wr' (by omega) (by omega)]
      omega
    · have hgt := of_decide_eq_false hgt
      rw [ev]
      omega
  · have hqn : q = n := by have := of_decide_eq_false hc; omega
    subst hqn
    rw [parseM, if_neg h0, if_neg hb, if_pos (by rw [hds]; exact hv), hdl, hds]
def RTok (i : Nat) (r : Except Int Tq) (v : Value) : Prop := match r with
 | .error e => v = .tuple #[.agg #[.int .i64 0, .string (T []), .int .i64 0, .int .i64 0], .int .i64 0, .int .i64 e]
 | .ok q => v = .tuple #[.agg #[.int .i64 q.1, .string (T q.2.1), .int .i64 q.2.2.1, .int .i64 (i : Int)], .int .i64 (q.2.2.2 : Int), .int .i64 0]
theorem rtoken_c (w : World) (l : List UInt8) (i : Nat) (hi : i < l.length) (hl : l.length <= 16384) :
    Calls Try.prog 92 #[.string (T l), .int .i64 (i : Int)] w fun e w' => ∃ v, e = .returned v /\ RTok i (tokR (l.drop i)) v /\ Only [] w w' := by
  refine v33w (T l) i (fun v w' => RTok i (tokR (l.drop i)) v /\ Only [] w w') w ?_
  unfold v33v
  have hx : l[i]? = some l[i] := List.getElem?_eq_getElem hi
  generalize l[i] = x at hx
  have hdl : (l.drop i).length = l.length - i := List.length_drop
  have ht : tokR (l.drop i) = if letterB x then wordR (l.drop i) else if digitB x then numR (l.drop i) else signR (l.drop i) := by
    rw [drop_cons hx]; rfl
  rw [ht]
  have hg : 0 <= (i : Int) /\ (T l)[Int.toNat (i : Int)]? = some x := ⟨Int.natCast_nonneg i, by rw [T_get, Int.toNat_natCast, hx]⟩
  refine ⟨x, hg, fun k1 w0 hk1 hk1' hO0 => (rletter_c w0 x).mono ?_⟩
  rintro _ w1 ⟨rfl, hO1⟩
  have new : ∀ {u u' : World}, Only [] w u -> Only [k1] u u' -> Only [] w u' := fun h k => h.trans k fun y hy => .inr (by simp only [List.mem_singleton] at hy; omega)
  have sm : ∀ {u u' : World}, Only [] w0 u -> Only [] u u' -> Same [k1] u u' := fun h0 h => h.same (by have := h0.size; simp; omega)
  refine ⟨_, rfl, sm (Only.refl _ _) hO1, x, hg, (rdigit_c w1 x).mono ?_⟩
  rintro _ w2 ⟨rfl, hO2⟩
  have h02 := hO1.tr0 hO2
  refine ⟨_, rfl, sm hO1 hO2, fun hb => ?_, fun hb => ⟨fun hd => ⟨i, ⟨rfl, by rw [T_size]; omega⟩, ?_⟩, fun hd => ?_⟩⟩
  · rw [if_pos hb]
    refine (rrow_c w2 l i (by omega) (by omega)).mono ?_
    rintro _ w3 ⟨rfl, hO3⟩
    have hwl : ((l.drop i).takeWhile wordB).length <= l.length - i := by
      have := while_len (p := wordB) (l := l.drop i)
      rwa [hdl] at this
    have ex : (T l).extract i (i + ((l.drop i).takeWhile wordB).length) = T ((l.drop i).takeWhile wordB) := by
      rw [T_ext, Nat.add_sub_cancel_left, <- while_take]
    refine ⟨_, rfl, sm h02 hO3, i, i + ((l.drop i).takeWhile wordB).length, ⟨rfl, by rw [wr' (by omega) (by omega)]; omega, by omega, by rw [T_size]; omega⟩, fun k5 w4 hk5 hk5' hO4 => ?_⟩
    have h04 := h02.tr0 (hO3.tr0 hO4)
    rw [ex]
    refine (rword_c w4 _).mono ?_
    rintro _ w5 ⟨rfl, hO5⟩
    have h05 := h04.tr0 hO5
    have z4 := h04.size
    unfold wordR
    generalize hm : (l.drop i).takeWhile wordB = m at *
    refine ⟨_, rfl, hO5.same (by simp; omega), fun k s n a w' => k = (if wordsL.contains m then 2 else 1 : Int) /\ s = T m /\ n = 0 /\ a = (i : Int) /\ Only [] w w', ?_, fun hc w9 hO9 => ⟨by rw [if_pos hc], rfl, rfl, rfl, (hO0.tr0 h05).trans hO9 fun y hy => .inr (by simp only [List.mem_singleton] at hy; have := hO0.size; have := hO3.size; have := h02.size; omega)⟩, fun hc => ⟨by rw [hc]; rfl, rfl, rfl, rfl, hO0.tr0 h05⟩⟩
    rintro _ _ _ _ w6 ⟨rfl, rfl, rfl, rfl, hO6⟩
    refine ⟨fun hc w7 hO7 => ⟨?_, new hO6 hO7⟩, fun hc w8 hO8 => ⟨?_, new hO6 hO8⟩⟩
    · rw [if_pos (by have := of_decide_eq_true hc; omega)]; rfl
    · rw [if_neg (by have := of_decide_eq_false hc; omega)]; rfl
  · rw [if_neg (by rw [hb]; decide), if_pos hd]
    have ex : (T l).extract i (T l).size = T (l.drop i) := by rw [T_ext, T_size, List.take_of_length_le (by omega)]
    rw [ex]
    refine (rparse_c w2 (l.drop i) (by omega)).mono ?_
    rintro _ w10 ⟨rfl, hO10⟩
    have h10 := h02.tr0 hO10
    unfold numR
    refine ⟨_, _, _, rfl, sm h02 hO10, fun he w11 hO11 => ⟨?_, new (hO0.tr0 h10) hO11⟩, fun he => (rrow_c w10 l i (by omega) (by omega)).mono ?_⟩
    · rw [if_pos (by simpa using he)]; rfl
    rintro _ w12 ⟨rfl, hO12⟩
    have h12 := h10.tr0 hO12
    rw [if_neg (by simpa using he)]
    refine ⟨_, rfl, sm h10 hO12, fun hc w13 hO13 => ⟨?_, new (hO0.tr0 h12) hO13⟩, fun hc w14 hO14 => ⟨?_, new (hO0.tr0 h12) hO14⟩⟩
    · rw [if_pos (by have := of_decide_eq_true hc; omega)]; rfl
    · rw [if_neg (by have := of_decide_eq_false hc; omega)]; rfl
  · rw [if_neg (by rw [hb]; decide), if_neg (by rw [hd]; decide)]
    refine (rsign_c w2 l i hi (by omega)).mono ?_
    rintro _ w15 ⟨rfl, hO15⟩
    have h15 := h02.tr0 hO15
    have hn := signN_le (m := l.drop i)
    have ex : (T l).extract i (i + signN (l.drop i)) = T ((l.drop i).take (signN (l.drop i))) := by rw [T_ext, Nat.add_sub_cancel_left]
    unfold signR
    refine ⟨_, rfl, sm h02 hO15, fun hz w16 hO16 => ⟨?_, new (hO0.tr0 h15) hO16⟩, fun hz => ⟨i, i + signN (l.drop i), ⟨rfl, by rw [wr' (by omega) (by omega)]; omega, by omega, by rw [T_size]; omega⟩, fun w17 hO17 => ⟨?_, new (hO0.tr0 h15) hO17⟩⟩⟩
    · rw [if_pos (by have : (signN (l.drop i) : Int) = 0 := by simpa using hz
                     omega)]; rfl
    · rw [if_neg (by rintro e; rw [e] at hz; simp at hz), ex]; rfl
theorem rtokens_c (w : World) (l : List UInt8) :
  Calls Try.prog 89 #[.string (T l)] w fun e w' => ∃ rs : Sl, e = .returned (.tuple #[rs.v, .agg #[.int .i64 (tokensM l).2.1, .int .i64 (tokensM l).2.2]]) /\ OwnK w.heap.size w' rs (tokensM l).1 /\ Only [] w w' := by
 refine (v25w (T l) (fun v w' => ∃ rs : Sl, v = (.tuple #[rs.v, .agg #[.int .i64 (tokensM l).2.1, .int .i64 (tokensM l).2.2]]) /\ OwnK w.heap.size w' rs (tokensM l).1 /\ Only [] w w') w ?_).mono (by
  rintro e w' ⟨v, rfl, rs, rfl, h⟩; exact ⟨rs, rfl, h⟩)
 unfold v25v
 rw [T_size]
 refine ⟨fun hc k0 w0 _ _ hO => ⟨Sl.nil, ?_, ?_, hO⟩, fun hc k1 w1 hk1 hk1' hO1 => ?_⟩
 · rw [tokensM, if_pos (by have := of_decide_eq_true hc; omega)]
 · rw [tokensM, if_pos (by have := of_decide_eq_true hc; omega)]
   exact Own.nil _ _ _ _ _ _
 have hll : l.length <= 16384 := by have := of_decide_eq_false hc; omega
 have htm : tokensM l = match toks l 0 with
  | .error x => ([], x.1, (x.2 : Nat))
  | .ok r => (r, 0, 0) := by
   rw [tokensM, if_neg (by omega)] <;> rfl
 refine (rblanks_c w1 l 0 (Nat.zero_le _) (by omega)).mono ?_
 rintro _ w2 ⟨rfl, hO2⟩
 have z1 := hO1.size
 refine ⟨_, rfl, hO2.same (by simp; omega), fun nv s i e1 e2 w' => e1 = 0 /\ e2 = 0 /\ ∃ (j : Nat) (acc : List Tk), i = (j : Int) /\ j <= l.length /\ acc.length <= j /\ skN false (l.drop j) = 0 /\ toks l 0 = pre acc (toks l j) /\ nv = l.length - j /\ OwnK w1.heap.size w' s acc /\ Only [] w1 w', l.length - (0 + skN false (l.drop 0)), ?_, ?_⟩
 · refine ⟨rfl, rfl, _, [], rfl, sk_in (Nat.zero_le _), Nat.zero_le _, ?_, ?_, rfl, Own.nil _ _ _ _ _ _, hO2⟩
   · rw [<- List.drop_drop]
     exact sk_idem false (l.drop 0)
   · rw [<- toks_skip (Nat.zero_le _)]
     cases toks l 0 <;> rfl
 rintro nv s _ _ _ w3 ⟨rfl, rfl, j, acc, rfl, hj, hal, hsk, htk, rfl, ho3, hO3⟩
 have z3 := hO3.size
 have hst := toks_step hj
 rw [hsk, Nat.add_zero] at hst
 have app : ∀ {u : World} {r : Sl} (t : Tk), Only [] w1 u -> OwnK w1.heap.size u r acc ->
   ∃ y w4, (Instr.buildSlice 138 1 #[(0, t.v)]).run Try.prog u = .ok (Sl.v y) w4 /\ Only [] u w4 /\ ∃ s' w5, (Builtin.append_ #[138, 138] 138 #[Sl.v r, Sl.v y]).run Try.prog w4 = .ok (Sl.v s') w5 /\ OwnK w1.heap.size w5 s' (acc ++ [t]) /\ OnlyP (fun k => w1.heap.size <= k /\ r.a = some ⟨k, 0, none⟩) w4 w5 /\ Only [] w1 w5 := by
  intro u r t hu hr
  obtain ⟨y, w4, c1, c2, s', w5, c3, c4, c5⟩ := push_k t hr hu.size (Nat.le_trans (Nat.mul_le_mul_right 40 (show acc.length + 1 <= 16385 by omega)) (by decide))
  exact ⟨y, w4, c1, c2, s', w5, c3, c4, c5, ((hu.tr0 c2).p0 (F := fun k => w1.heap.size <= k) |>.trans c5 fun k hk => .inl hk.1).only fun k hk => hk⟩
 refine ⟨fun hc => ?_, fun hc => ?_⟩
 · have hlt : j < l.length := by have := of_decide_eq_true hc; omega
   rw [if_neg (by omega)] at hst
   refine (rtoken_c w3 l j hlt hll).mono ?_
   rintro _ w4 ⟨v, rfl, hv, hO4⟩
   have h14 := hO3.tr0 hO4
   have sm1 : Same [k1] w3 w4 := hO4.same (by simp; omega)
   have z4 := hO4.size
   unfold RTok at hv
   cases hq : tokR (l.drop j) with
   | error e =>
    rw [hq] at hv hst
    dsimp only at hv
    subst hv
    refine ⟨0, T [], 0, 0, 0, e, rfl, sm1, fun _ k4 w5 hk4 hk4' hO5 => ⟨Sl.nil, ?_, ?_, ?_⟩, fun he => absurd (tok_err hq) (by simpa using he)⟩
    · rw [htm, htk, hst]; rfl
    · rw [htm, htk, hst]
      exact Own.nil _ _ _ _ _ _
    · exact (hO1.tr0 h14).trans hO5 fun y hy => .inr (by simp only [List.mem_singleton] at hy; omega)
   | ok q =>
    rw [hq] at hv hst
    dsimp only at hv
    subst hv
    have hq1 := tok_len hq
    have hq2 := tok_le hq
    rw [List.length_drop] at hq2
    refine ⟨q.1, T q.2.1, q.2.2.1, (j : Int), (q.2.2.2 : Int), 0, rfl, sm1, fun he => (by simp at he), fun _ k5 w6 hk5 hk5' hO6 => ?_⟩
    have h16 := h14.tr0 hO6
    have z6 := hO6.size
    obtain ⟨y, w7, c1, c2, s', w8, c3, c4, c5, c6⟩ := app (u := w6) ⟨q.1, q.2.1, q.2.2.1, (j : Nat)⟩ h16 (ho3.only (hO4.tr0 hO6))
    have z7 := c2.size
    have z8 := c5.size
    have hk : ∀ k, s.a = some ⟨k, 0, none⟩ -> w1.heap.size <= k /\ k < w3.heap.size := fun k hk => ho3.blk hk
    refine ⟨y, w7, c1, c2.same (by simp; omega), s', w8, c3, c5.same (by
     intro x hx
     simp only [List.mem_cons, List.not_mem_nil, or_false] at hx
     refine ⟨by omega, fun e => ?_⟩
     have := hk x e.2
     omega), ?_⟩
    rw [wr' (x := (j : Int) + (q.2.2.2 : Int)) (by omega) (by omega), show (j : Int) + (q.2.2.2 : Int) = ((j + q.2.2.2 : Nat) : Int) by omega]
    refine (rblanks_c w8 l (j + q.2.2.2) (by omega) (by omega)).mono ?_
    rintro _ w9 ⟨rfl, hO9⟩
    have hin := sk_in (l := l) (i := j + q.2.2.2) (by omega)
    refine ⟨_, rfl, hO9.same (by simp; omega), l.length - (j + q.2.2.2 + skN false (l.drop (j + q.2.2.2))), by omega, rfl, rfl, _, _, rfl, hin, ?_, ?_, ?_, rfl, c4.only hO9, c6.tr0 hO9⟩
    · rw [List.length_append, List.length_singleton]; omega
    · rw [<- List.drop_drop]
      exact sk_idem false _
    · rw [htk, hst, <- toks_skip (by omega), <- pre_pre]
      dsimp only
      cases toks l (j + q.2.2.2) <;> rfl
 · have hje : l.length <= j := by have := of_decide_eq_false hc; omega
   rw [if_pos hje] at hst
   have hjl : j = l.length := by omega
   obtain ⟨y, w10, c1, c2, s', w11, c3, c4, c5, c6⟩ := app (u := w3) ⟨5, [], 0, (j : Nat)⟩ hO3 ho3
   have z10 := c2.size
   have hk : ∀ k, s.a = some ⟨k, 0, none⟩ -> w1.heap.size <= k /\ k < w3.heap.size := fun k hk => ho3.blk hk
   have htt : tokensM l = (acc ++ [⟨5, [], 0, (j : Nat)⟩], 0, 0) := by
    rw [htm, htk, hst]; rfl
   have e : (l.length : Int) = (j : Int) := by omega
   rw [e]
   refine ⟨y, w10, c1, c2.same (by simp; omega), s', w11, c3, c5.same (by
    intro x hx
    simp only [List.mem_singleton] at hx
    refine ⟨by omega, fun e => ?_⟩
    have := hk x e.2
    omega), fun w12 hO12 => ⟨s', by rw [htt], ?_, ?_⟩⟩
   · rw [htt]
     have : OwnK w1.heap.size w12 s' _ := c4.keep fun k hk hlt => hO12.block k hlt (by simp only [List.mem_singleton]; have := hk.1; omega)
     exact Own.low this z1
   · exact (hO1.tr0 c6).trans hO12 fun y hy => .inr (by simp only [List.mem_singleton] at hy; omega)
def nameM (l : List UInt8) : Bool := decide (l ≠ [] /\ l.length <= 24) && (match l with
 | c :: _ => letterB c
 | [] => false) && decide (l.takeWhile wordB = l) && !wordsL.contains l
theorem rname_c (w : World) (l : List UInt8) (hl : l.length < 4611686018427387903) :
  Calls Try.prog 58 #[.string (T l)] w fun e w' => e = .returned (.bool (nameM l)) /\ Only [] w w' := by
 refine ret (v24w (T l) (fun v w' => v = .bool (nameM l) /\ Only [] w w') w ?_)
 unfold v24v
 have e0 : (ByteArray.mk #[]) = T [] := rfl
 rw [T_size, e0, T_eq]
 refine ⟨fun hc => ⟨?_, Only.refl _ _⟩, fun hc => ?_⟩
 · unfold nameM
   rw [decide_eq_false]
   · rfl
   · rintro ⟨h1, h2⟩
     rw [decide_eq_false h1, decide_eq_false (by omega)] at hc
     cases hc
 simp only [Bool.or_eq_false_iff, decide_eq_false_iff_not] at hc
 obtain ⟨h1, h2⟩ := hc
 have h2 : l.length <= 24 := by omega
 obtain ⟨c, r, rfl⟩ : ∃ c r, l = c :: r := by
  cases l with
  | nil => exact absurd rfl h1
  | cons c r => exact ⟨c, r, rfl⟩
 have hn : nameM (c :: r) = (letterB c && decide ((c :: r).takeWhile wordB = c :: r) && !wordsL.contains (c :: r)) := by
  unfold nameM
  rw [decide_eq_true ⟨h1, h2⟩, Bool.true_and]
 refine ⟨c, ⟨Int.le_refl _, by rw [T_get]; rfl⟩, (rletter_c w c).mono ?_⟩
 rintro _ w0 ⟨rfl, hO0⟩
 refine ⟨_, rfl, (rword_c w0 _).mono ?_⟩
 rintro _ w1 ⟨rfl, hO1⟩
 refine ⟨_, rfl, fun b w' => b = nameM (c :: r) /\ Only [] w w', fun b w' h => ⟨by rw [h.1], h.2⟩, fun hb => ?_, fun hb => ⟨?_, hO0.tr0 hO1⟩⟩
 · refine (rrow_c w1 (c :: r) 0 (Nat.zero_le _) hl).mono ?_
   rintro _ w3 ⟨rfl, hO3⟩
   rw [List.drop_zero]
   refine ⟨_, rfl, ?_, hO0.tr0 (hO1.tr0 hO3)⟩
   rw [hn]
   simp only [Bool.and_eq_true, Bool.not_eq_true'] at hb
   rw [hb.1, hb.2, Bool.true_and, Bool.not_false, Bool.and_true, Bool.eq_iff_iff]
   simp only [beq_iff_eq, decide_eq_true_eq]
   constructor
   · intro h
     have h : ((c :: r).takeWhile wordB).length = (c :: r).length := by omega
     have h2 := while_take (p := wordB) (l := c :: r)
     rw [h, List.take_of_length_le (Nat.le_refl _)] at h2
     exact h2
   · intro h; rw [h]
 · rw [hn]
   cases h1 : letterB c <;> cases h2 : wordsL.contains (c :: r) <;> rw [h1, h2] at hb <;> simp at hb ⊢
end Go.Proofs.Ytddfmhccaapgjaa.Con
namespace Go.Proofs.Ytddfmhccaapgjaa.Con
open Go Go.RowKit Go.Kt Go.Kt.V
set_option linter.unusedSimpArgs false
set_option linter.unusedVariables false
set_option maxHeartbeats 4000000
theorem inR_err {ts : List Tk} {i : Nat} {e : Int × Int} (h : inR ts i = .error e) : e.1 ≠ 0 := by
 unfold inR at h
 split at h
 · split at h
   · split at h
     · cases h
     · injection h with h; subst h; exact wrongF_ne
   · injection h with h; subst h; exact wrongF_ne
 · injection h with h; subst h; exact wrongF_ne
theorem andR_err {r : Pr} {g : Ex -> Nat -> Pr} {e : Int × Int} (h : andR r g = .error e) : r = .error e ∨ ∃ x j, r = .ok (x, j) /\ g x j = .error e := by
 cases r with
 | error e' => exact .inl h
 | ok p => exact .inr ⟨p.1, p.2, rfl, h⟩
theorem nestR_err {d : Nat} {a : Int} {r : Pr} {e : Int × Int} (h : nestR d a r = .error e) : r = .error e ∨ e.1 = 21 := by
 unfold nestR at h
 split at h
 · injection h with h; subst h; exact .inr rfl
 · exact .inl h
theorem loopR_err {ts : List Tk} {E : Nat -> Pr} {k : Int} {e : Int × Int} (hE : ∀ i, E i = .error e -> e.1 ≠ 0) : ∀ (g : Nat) (x : Ex) (j : Nat), loopR ts E k g x j = .error e -> e.1 ≠ 0
 | 0, x, j, h => by cases h
 | g + 1, x, j, h => by
  rw [loopR] at h
  split at h
  · cases h
  · rcases andR_err h with h1 | ⟨y, m, h1, h2⟩
    · exact hE _ h1
    · exact loopR_err hE g _ _ h2
theorem exprR_err {ts : List Tk} {e : Int × Int} : ∀ (f k d i : Nat), exprR ts f k d i = .error e -> e.1 ≠ 0
 | 0, k, d, i, h => by
  rw [exprR] at h
  injection h with h; subst h; decide
 | f + 1, k, d, i, h => by
  rw [exprR] at h
  split at h
  · unfold oneR at h
    split at h
    · generalize hn : nestR d (tk ts i).a (exprR ts f 6 (d + 1) (i + 1)) = r at h
      cases r with
      | ok q => cases h
      | error e' =>
       simp only [mapR] at h
       injection h with h; subst h
       rcases nestR_err hn with h1 | h1
       · exact exprR_err f _ _ _ h1
       · rw [h1]; decide
    · split at h
      · rcases nestR_err h with h1 | h1
        · cases hr : exprR ts f 0 (d + 1) (i + 1) with
          | error e' =>
           rw [hr] at h1
           simp only [parR] at h1
           injection h1 with h1; subst h1
           exact exprR_err f _ _ _ hr
          | ok q =>
           rw [hr] at h1
           simp only [parR] at h1
           split at h1
           · cases h1
           · injection h1 with h1; subst h1; exact wrongF_ne
        · rw [h1]; decide
      · split at h
        · cases h
        · split at h
          · cases h
          · split at h
            · exact inR_err h
            · injection h with h; subst h; exact wrongF_ne
  · rcases andR_err h with h1 | ⟨y, m, h1, h2⟩
    · exact exprR_err f _ _ _ h1
    · exact loopR_err (fun i hi => exprR_err f _ _ _ hi) _ _ _ h2
def sh (t : Tk) : Tk := ⟨t.k, t.t, t.n, t.a + 1⟩
inductive Sim : Ex -> Ex -> Prop
 | leaf (k n : Int) (s : List UInt8) (op a b : Int) : Sim (.mk k n s op [] a) (.mk k n s op [] b)
 | one (k n : Int) (s : List UInt8) (op a b : Int) (x y : Ex) : Sim x y -> Sim (.mk k n s op [x] a) (.mk k n s op [y] b)
 | two (k n : Int) (s : List UInt8) (op a b : Int) (x y x' y' : Ex) : Sim x x' -> Sim y y' -> Sim (.mk k n s op [x, y] a) (.mk k n s op [x', y'] b)
structure Wr (ts ts' : List Tk) (n : Nat) : Prop where
 e : ∀ i, n <= i -> (tk ts i).k = 5
 s : ∀ i, i < n -> (tk ts' (i + 1)).k = (tk ts i).k /\ (tk ts' (i + 1)).t = (tk ts i).t /\ (tk ts' (i + 1)).n = (tk ts i).n
 c : (tk ts' (n + 1)).k = 4 /\ (tk ts' (n + 1)).t = [41]
def Rel (n : Nat) (r r' : Pr) : Prop := ∀ x j, r = .ok (x, j) -> (∃ x', r' = .ok (x', j + 1) /\ Sim x x' /\ j <= n) ∨ ∃ a, r' = .error (21, a)
section
variable {ts ts' : List Tk} {n : Nat}
theorem Wr.lt (h : Wr ts ts' n) {i : Nat} (hk : (tk ts i).k ≠ 5) : i < n := by
 refine Decidable.byContradiction fun hn => hk (h.e i (by omega))
theorem Wr.sgl (h : Wr ts ts' n) {i : Nat} (hi : i < n) (s : List UInt8) : sg ts' (i + 1) s = sg ts i s := by
 unfold sg
 obtain ⟨h1, h2, _⟩ := h.s i hi
 rw [h1, h2]
theorem Wr.sgn (h : Wr ts ts' n) {i : Nat} (hi : i <= n) {s : List UInt8} (hs : s ≠ [41]) : sg ts' (i + 1) s = sg ts i s := by
 rcases Nat.lt_or_ge i n with hl | hl
 · exact h.sgl hl s
 · have : i = n := by omega
   subst this
   unfold sg
   rw [h.c.1, h.c.2, h.e i (Nat.le_refl _)]
   have : decide ([41] = s) = false := decide_eq_false fun e => hs e.symm
   rw [this, Bool.and_false]
   rfl
theorem opTx_ne (op : Nat) : opTx op ≠ [41] := by
 rcases Nat.lt_or_ge op 16 with h | h
 · have : ∀ q, q < 16 -> opTx q ≠ [41] := by decide
   exact this op h
 · unfold opTx
   rw [List.getElem?_eq_none (by exact h)]
   decide
theorem Wr.opf (h : Wr ts ts' n) {i : Nat} (hi : i <= n) (k : Int) : ∀ (f op : Nat), opFrom ts' k (i + 1) f op = opFrom ts k i f op
 | 0, _ => rfl
 | f + 1, op => by
  rw [opFrom, opFrom, h.sgn hi (opTx_ne op), h.opf hi k f]
theorem Wr.op (h : Wr ts ts' n) {i : Nat} (hi : i <= n) (k : Int) : opAt ts' k (i + 1) = opAt ts k i := h.opf hi k 13 1
theorem Rel.map {r r' : Pr} (h : Rel n r r') {g g' : Ex -> Ex} (hg : ∀ x x', Sim x x' -> Sim (g x) (g' x')) : Rel n (mapR g r) (mapR g' r') := by
 intro x j hx
 obtain ⟨y, h1, rfl⟩ := mapR_ok hx
 rcases h y j h1 with ⟨x', h2, h3, h4⟩ | ⟨a, h2⟩
 · exact .inl ⟨g' x', by rw [h2]; rfl, hg _ _ h3, h4⟩
 · exact .inr ⟨a, by rw [h2]; rfl⟩
theorem Rel.and {r r' : Pr} {f f' : Ex -> Nat -> Pr} (h : Rel n r r') (hf : ∀ x x' j, r = .ok (x, j) -> j <= n -> Sim x x' -> Rel n (f x j) (f' x' (j + 1))) : Rel n (andR r f) (andR r' f') := by
 intro x j hx
 obtain ⟨y, m, h1, h5⟩ := andR_ok hx
 rcases h y m h1 with ⟨x', h2, h3, h4⟩ | ⟨a, h2⟩
 · rw [h2]
   exact hf y x' m h1 h4 h3 x j h5
 · exact .inr ⟨a, by rw [h2]; rfl⟩
theorem Rel.nest {r r' : Pr} {d : Nat} {a a' : Int} (h : d + 1 ≠ 20 -> Rel n r r') : Rel n (nestR d a r) (nestR (d + 1) a' r') := by
 intro x j hx
 obtain ⟨h1, h2⟩ := nestR_ok hx
 by_cases h3 : d + 1 = 20
 · exact .inr ⟨a', by rw [nestR, if_pos h3]⟩
 · rw [nestR, if_neg h3]
   exact h h3 x j h1
theorem Rel.par (hw : Wr ts ts' n) {r r' : Pr} (h : Rel n r r') : Rel n (parR ts r) (parR ts' r') := by
 intro x j hx
 obtain ⟨j', h1, h2, rfl⟩ := parR_ok hx
 rcases h x j' h1 with ⟨x', h3, h4, h5⟩ | ⟨a, h3⟩
 · have hl := hw.lt (sg_k h2)
   exact .inl ⟨x', by rw [h3]; simp only [parR]; rw [if_pos (by rw [hw.sgl hl]; exact h2)], h4, hl⟩
 · exact .inr ⟨a, by rw [h3]; rfl⟩
theorem Rel.err {e : Int × Int} {r' : Pr} : Rel n (.error e) r' := fun x j hx => by cases hx
theorem Rel.in_ (hw : Wr ts ts' n) (i : Nat) : Rel n (inR ts i) (inR ts' (i + 1)) := by
 intro x j hx
 have hx0 := hx
 obtain ⟨rfl, rfl⟩ := inR_ok hx0
 unfold inR at hx
 split at hx
 · rename_i h1
   split at hx
   · rename_i h2
     split at hx
     · rename_i h3
       have hl := hw.lt (sg_k h3)
       refine .inl ⟨.mk 3 0 (tk ts' (i + 1 + 2)).t 0 [] (tk ts' (i + 1)).a, ?_, ?_, hl⟩
       · unfold inR
         rw [if_pos (by rw [hw.sgl (by omega : i + 1 < n)]; exact h1), if_pos (by rw [(hw.s (i + 2) (by omega)).1]; exact h2), if_pos (by rw [hw.sgl hl]; exact h3)]
       · have e : (tk ts' (i + 1 + 2)).t = (tk ts (i + 2)).t := (hw.s (i + 2) (by omega)).2.1
         rw [e]
         exact .leaf ..
     · cases hx
   · cases hx
 · cases hx
theorem Rel.one (hw : Wr ts ts' n) {E0 One E0' One' : Nat -> Pr} {d i : Nat} (hE : d + 1 ≠ 20 -> ∀ i, i <= n -> Rel n (E0 i) (E0' (i + 1))) (hO : d + 1 ≠ 20 -> ∀ i, i <= n -> Rel n (One i) (One' (i + 1))) (hi : i <= n) : Rel n (oneR ts E0 One d i) (oneR ts' E0' One' (d + 1) (i + 1)) := by
 by_cases hin : i = n
 · subst hin
   have h5 := hw.e i (Nat.le_refl _)
   have hs : ∀ s, sg ts i s = false := fun s => by
    unfold sg
    rw [h5]
    rfl
   have : oneR ts E0 One d i = .error (wrongF ts i) := by
    unfold oneR
    rw [hs, hs, hs, if_neg (by decide), if_neg (by decide), if_neg (by rw [h5]; decide), if_neg (by rw [h5]; decide), if_neg (by rw [h5]; rintro ⟨h, _⟩; exact absurd h (by decide))]
   rw [this]
   exact Rel.err
 · have hl : i < n := by omega
   obtain ⟨k1, k2, k3⟩ := hw.s i hl
   unfold oneR
   rw [hw.sgl hl, hw.sgl hl, hw.sgl hl, k1, k2, k3]
   split
   · exact Rel.map (Rel.nest fun h => hO h (i + 1) hl) fun x x' hx => .one _ _ _ _ _ _ _ _ hx
   · split
     · exact Rel.nest fun h => Rel.par hw (hE h (i + 1) hl)
     · split
       · intro x j hx
         simp only [Except.ok.injEq, Prod.mk.injEq] at hx
         obtain ⟨rfl, rfl⟩ := hx
         exact .inl ⟨_, rfl, .leaf .., hl⟩
       · split
         · intro x j hx
           simp only [Except.ok.injEq, Prod.mk.injEq] at hx
           obtain ⟨rfl, rfl⟩ := hx
           exact .inl ⟨_, rfl, .leaf .., hl⟩
         · split
           · exact Rel.in_ hw i
           · exact Rel.err
theorem Rel.loop (hw : Wr ts ts' n) {E E' : Nat -> Pr} {k : Int} (hm : ∀ i x j, E i = .ok (x, j) -> i < j) (hE : ∀ i, i <= n -> Rel n (E i) (E' (i + 1))) : ∀ (g g' : Nat) (x x' : Ex) (j : Nat), j <= n -> n - j < g -> n - j < g' -> Sim x x' -> Rel n (loopR ts E k g x j) (loopR ts' E' k g' x' (j + 1))
 | 0, _, _, _, j, _, h, _, _ => by omega
 | _, 0, _, _, j, _, _, h, _ => by omega
 | g + 1, g' + 1, x, x', j, hj, h1, h2, hs => by
  rw [loopR, loopR, hw.op hj]
  split
  · intro y m hy
    simp only [Except.ok.injEq, Prod.mk.injEq] at hy
    obtain ⟨rfl, rfl⟩ := hy
    exact .inl ⟨_, rfl, hs, hj⟩
  · rename_i h0
    have hl := hw.lt (opFrom_sg _ _ h0)
    refine Rel.and (hE (j + 1) hl) fun y y' m hy hmn hs' => ?_
    have := hm _ _ _ hy
    exact Rel.loop hw hm hE g g' _ _ m hmn (by omega) (by omega) (.two _ _ _ _ _ _ _ _ _ _ hs hs')
end
theorem loop0 {ts : List Tk} {E : Nat -> Pr} {k : Int} {x : Ex} {j : Nat} (h : opAt ts k j = 0) : ∀ g, loopR ts E k g x j = .ok (x, j)
 | 0 => rfl
 | g + 1 => by rw [loopR, if_pos h]
theorem up_err {ts : List Tk} {f d i : Nat} {e : Int × Int} (h : exprR ts f 6 d i = .error e) : ∀ (m k : Nat), k + m = 6 -> exprR ts (f + m) k d i = .error e
 | 0, k, hk => by
  have : k = 6 := by omega
  subst this
  exact h
 | m + 1, k, hk => by
  rw [<- Nat.add_assoc, exprR, if_neg (by omega), up_err h m (k + 1) (by omega)]
  rfl
theorem up_ok {ts : List Tk} {f d i : Nat} {x : Ex} {j : Nat} (h : exprR ts f 6 d i = .ok (x, j)) (h0 : ∀ k : Int, opAt ts k j = 0) : ∀ (m k : Nat), k + m = 6 -> exprR ts (f + m) k d i = .ok (x, j)
 | 0, k, hk => by
  have : k = 6 := by omega
  subst this
  exact h
 | m + 1, k, hk => by
  rw [<- Nat.add_assoc, exprR, if_neg (by omega), up_ok h h0 m (k + 1) (by omega)]
  simp only [andR]
  exact loop0 (h0 _) _
theorem op_end {ts : List Tk} {j : Nat} (h : (tk ts j).k = 5) (k : Int) : opAt ts k j = 0 := by
 refine Decidable.byContradiction fun hn => ?_
 exact opFrom_sg _ _ hn h
theorem op_of {ts : List Tk} {j : Nat} {t : List UInt8} (h : (tk ts j).t = t) (hn : ∀ op, op < 16 -> opTx op ≠ t ∨ op = 0 ∨ 14 <= op) (k : Int) : opAt ts k j = 0 := by
 have : ∀ (f op : Nat), 1 <= op -> op + f <= 14 -> opFrom ts k j f op = 0 := by
  intro f
  induction f with
  | zero => intro op _ _; rfl
  | succ f ih =>
   intro op h1 h2
   rw [opFrom, if_neg, ih (op + 1) (by omega) (by omega)]
   rintro ⟨_, hs⟩
   simp only [sg, Bool.and_eq_true, decide_eq_true_eq] at hs
   rcases hn op (by omega) with e | e | e
   · exact e (by rw [<- h, hs.2])
   · omega
   · omega
 exact this 13 1 (by omega) (by omega)
end Go.Proofs.Ytddfmhccaapgjaa.Con
namespace Go.Proofs.Ytddfmhccaapgjaa.Con
open Go Go.RowKit Go.Kt Go.Kt.V Go.Proofs.Ytddfmhccaapgjaa.Vc
set_option linter.unusedSimpArgs false
set_option linter.unusedVariables false
set_option maxHeartbeats 4000000
theorem eread_r (w : World) (l : List UInt8) : Calls Try.prog 82 #[.string (T l)] w fun e w' =>
  ∃ cs, e = .returned (.tuple #[.agg cs.toArray, .agg #[.int .i64 (readA l).2.1, .int .i64 (readA l).2.2]]) /\ RX w' w.heap.size w'.heap.size (readA l).1 cs /\ Only [] w w' := by
 refine (v35w (T l) (fun v w' => ∃ cs, v = (.tuple #[.agg cs.toArray, .agg #[.int .i64 (readA l).2.1, .int .i64 (readA l).2.2]]) /\ RX w' w.heap.size w'.heap.size (readA l).1 cs /\ Only [] w w') w ?_).mono (by
  rintro e w' ⟨v, rfl, cs, rfl, h⟩; exact ⟨cs, rfl, h⟩)
 unfold v35v
 intro k0 k1 w0 hk0 hk0' hk1 hk1' hO0
 have z0 := hO0.size
 have own : ∀ {u u' : World}, Only [] w u -> Only [k1, k0] u u' -> Only [] w u' := fun h1 h2 => h1.trans h2 fun x hx => .inr (by simp only [List.mem_cons, List.not_mem_nil, or_false] at hx; omega)
 refine (rtokens_c w0 l).mono ?_
 rintro _ w1 ⟨l0, rfl, hT, hO1⟩
 have z1 := hO1.size
 have hO01 := hO0.tr0 hO1
 generalize htk : tokensM l = tm at *
 obtain ⟨ts, c, p⟩ := tm
 dsimp only at hT ⊢
 have hra : readA l = if c ≠ 0 then (ex0, c, p) else if (parseA ts 0).2.2.1 ≠ 0 then (ex0, (parseA ts 0).2.2.1, (parseA ts 0).2.2.2) else if (tk ts (parseA ts 0).2.1.toNat).k ≠ 5 then (ex0, 4, (tk ts (parseA ts 0).2.1.toNat).a) else ((parseA ts 0).1, 0, (parseA ts 0).2.2.2) := by
  unfold readA; rw [htk]
 refine ⟨l0, _, _, rfl, hO1.same (by simp; omega), fun hc k2 w2 hk2 hk2' hO2 n1 n2 n3 => ⟨fun k => k = k2, rfl, fun e => n2 e, fun e => n3 e, fun w3 hO3 => ?_⟩, fun hc k3 w4 hk3 hk3' hO4 => ?_⟩
 · have hc : c ≠ 0 := by simpa using hc
   rw [hra, if_pos hc]
   exact ⟨_, rfl, rx0 _ _ _, own (hO01.tr0 hO2) hO3⟩
 · have hc : c = 0 := by simpa using hc
   rw [if_neg (by simp [hc])] at hra
   have z4 := hO4.size
   refine (eparse_r (hT.only hO4).sl 0 ⟨by decide, by decide⟩).mono ?_
   rintro _ w5 ⟨cs, rfl, hX, hj, hO5⟩
   have z5 := hO5.size
   have hp0 : (parseA ts 0).2.2.1 = 0 -> (parseA ts 0).2.2.2 = 0 := by
    unfold parseA
    split
    · cases hp : parseR ts (0 : Int).toNat with
      | error e =>
       obtain ⟨c, p⟩ := e
       intro h
       exact absurd h (exprR_err _ _ _ _ hp)
      | ok q => intro _; rfl
    · intro h; exact absurd h (show ¬ (1 : Int) = 0 by decide)
   generalize hpa : parseA ts 0 = pa at *
   obtain ⟨x, j, c', p'⟩ := pa
   dsimp only at hX hj hra hp0 ⊢
   obtain ⟨xl, rfl, _⟩ := hX.cells
   have hO05 : Only [] w w5 := (hO01.tr0 hO4).tr0 hO5
   have hF5 : ∀ {u : World}, Only [k3] w5 u -> SliceF rTk 4 u (fun k => w0.heap.size <= k /\ l0.a = some ⟨k, 0, none⟩) l0 ts := fun hO => SliceF.only rTk_ok (by decide) (hT.only (hO4.tr0 hO5)).sl hO fun k hk hlt hm => by
    have := hT.blk hk.2
    simp only [List.mem_singleton] at hm
    dsimp only at this
    omega
   refine ⟨_, _, _, _, _, _, _, _, _, rfl, hO5.same (by simp; omega), fun hc' k4 w6 hk4 hk4' hO6 n1 n2 n3 n4 n5 n6 => ⟨fun k => k = k3, rfl, fun e => n2 e, fun e => n4 e, fun w7 hO7 => ?_⟩, fun hc' => ?_⟩
   · have hc' : c' ≠ 0 := by simpa using hc'
     rw [hra, if_pos hc']
     exact ⟨_, rfl, rx0 _ _ _, own (hO05.new hO6 (by omega)) hO7⟩
   · have hc' : c' = 0 := by simpa using hc'
     rw [if_neg (by simp [hc'])] at hra
     obtain ⟨hj0, hj1⟩ := hj hc'
     obtain ⟨n, rfl⟩ : ∃ n : Nat, j = (n : Int) := ⟨j.toNat, by omega⟩
     have hl := (hF5 (Only.refl _ _)).len
     obtain ⟨ad, t, cs, g1, g2, g3, g4, g5, g6⟩ := (hF5 (Only.refl _ _)).get hj0 (by omega)
     rw [Int.toNat_natCast] at hra
     refine ⟨ad, g1, fun k5 w8 hk5 hk5' hO8 => ?_⟩
     obtain ⟨ad', t', cs', e1, e2, e3, e4, e5, e6⟩ := (hF5 hO8).get hj0 (by omega)
     have hade := SlAt.uniq e1 g1
     subst hade
     rw [Int.toNat_natCast, tk_at (by omega)] at e2
     injection e2 with e2
     subst e2
     unfold rTk at e6
     subst e6
     have z8 := hO8.size
     refine ⟨_, e5.at1 0 _ rfl, fun hk w9 hO9 n1 n2 n3 n4 n5 n6 => ⟨fun k => k = ad'.block, ad', g1, ?_, _, (e5.keep (hO9.block _ e5.lt (by simp))).at1 3 _ rfl, ?_, ?_, fun w10 hO10 => ?_⟩, fun hk w11 hO11 => ?_⟩
     · exact addr_block ad' 3
     · intro e; have := e3.1; rw [<- e] at this; omega
     · intro e; have := e3.1; rw [<- e] at this; omega
     · have hk : (tk ts n).k ≠ 5 := by simpa using hk
       rw [hra, if_pos hk]
       exact ⟨_, rfl, rx0 _ _ _, own ((hO05.new hO8 (by omega)).tr0 hO9) hO10⟩
     · have hk : (tk ts n).k = 5 := by simpa using hk
       rw [hra, if_neg (by simp [hk]), hp0 hc']
       have z11 := hO11.size
       exact ⟨_, rfl, ((hX.only hO8 fun q hq => .inl (by simp only [List.mem_singleton] at hq; omega)).only hO11 fun q hq => .inl (by simp only [List.mem_cons, List.not_mem_nil, or_false] at hq; omega)).wide (by omega) (by omega), own (hO05.new hO8 (by omega)) hO11⟩
theorem same_c (t : Bool) : ∀ (d : Nat) {e : Nat} {w : World} {F G : Nat -> Prop} {x y : Ex} {cs ds : List Value}, rEx d w F x cs -> rEx e w G y ds ->
  Calls Try.prog 83 #[.agg cs.toArray, .agg ds.toArray, .bool t] w fun r w' => r = .returned (.bool (sameM t d x y)) /\ Only [] w w'
 | 0, _, _, _, _, _, _, _, _, h, _ => h.elim
 | d + 1, 0, _, _, _, _, _, _, _, _, h => h.elim
 | d + 1, e + 1, w, F, G, x, y, cs, ds, ⟨sl, h1, h2⟩, ⟨sl', h3, h4⟩ => by
  subst h1 h3
  refine ret (v36w x.k x.n (T x.s) x.op sl x.a y.k y.n (T y.s) y.op sl' y.a t (fun v w' => v = .bool (sameM t (d + 1) x y) /\ Only [] w w') w ?_)
  unfold v36v
  intro k0 k1 w0 hk0 hk0' hk1 hk1' hO0
  have n1 := h2.len
  have n2 := h4.len
  have c1 := h2.cap
  have b1 := h2.big
  have hcond : ((((((x.k != y.k) || (x.n != y.n)) || (!((T x.s).toList == (T y.s).toList))) || (x.op != y.op)) || (t && (x.a != y.a))) || ((sl.n : Int) != (sl'.n : Int))) = diffM t x y := by
   rw [T_eq, n1, n2]
   rfl
  rw [hcond]
  refine ⟨fun hc => ⟨by rw [sameM, if_pos hc], hO0⟩, fun hc => ?_⟩
  have hlen : x.subs.length = y.subs.length := by
   unfold diffM at hc
   rw [Bool.or_eq_false_iff] at hc
   have := hc.2
   simp only [bne_eq_false_iff_eq] at this
   omega
  rw [sameM, if_neg (by rw [hc]; decide)]
  refine ⟨fun nv i w' => ∃ n : Nat, n <= x.subs.length /\ i = (n : Int) /\ nv = x.subs.length - n /\ all2 (sameM t d) x.subs y.subs = all2 (sameM t d) (x.subs.drop n) (y.subs.drop n) /\ Only [] w w' /\ w0.heap.size <= w'.heap.size, x.subs.length, ⟨0, Nat.zero_le _, rfl, rfl, rfl, hO0, Nat.le_refl _⟩, ?_⟩
  rintro nv _ w1 ⟨n, hn, rfl, rfl, hall, hO1, z1⟩
  refine ⟨fun hlt => ?_, fun hge => ?_⟩
  · have hlt : (n : Int) < (sl.n : Int) := of_decide_eq_true hlt
    obtain ⟨p, x1, cs1, g1, g2, g3, g4, g5, g6⟩ := (SliceF.only (rEx_ok d) (by decide) h2 hO1 (by simp)).get (Int.natCast_nonneg n) hlt
    obtain ⟨p', y1, ds1, m1, m2, m3, m4, m5, m6⟩ := (SliceF.only (rEx_ok e) (by decide) h4 hO1 (by simp)).get (i := (n : Int)) (Int.natCast_nonneg n) (by omega)
    rw [Int.toNat_natCast] at g2 m2
    refine ⟨p, g1, fun w2 hO2 => ?_⟩
    have hOO := hO1.tr0 hO2
    have g6' := rEx_only g6 hO2
    have m6' := rEx_only m6 hO2
    have tc : ∃ (k n : Int) (s : List UInt8) (o : Int) (l : Sl) (a : Int), cs1 = exv k n s o l a := by
     cases d with
     | zero => exact g6.elim
     | succ d => obtain ⟨l, hcs, _⟩ := g6; exact ⟨_, _, _, _, l, _, hcs⟩
    have td : ∃ (k n : Int) (s : List UInt8) (o : Int) (l : Sl) (a : Int), ds1 = exv k n s o l a := by
     cases e with
     | zero => exact m6.elim
     | succ e => obtain ⟨l, hcs, _⟩ := m6; exact ⟨_, _, _, _, l, _, hcs⟩
    obtain ⟨a1, a2, a3, a4, a5, a6, rfl⟩ := tc
    obtain ⟨b1, b2, b3, b4, b5, b6, rfl⟩ := td
    have g5' := g5.keep (hO2.block _ g5.lt (by simp))
    have m5' := m5.keep (hO2.block _ m5.lt (by simp))
    refine ⟨_, _, _, _, _, _, g5', p', m1, _, _, _, _, _, _, m5', (same_c t d g6' m6').mono ?_⟩
    rintro _ w3 ⟨rfl, hO3⟩
    have z2 := hO2.size
    have z3 := hO3.size
    have hst := all2_drop (f := sameM t d) g2 m2
    refine ⟨_, rfl, hO3.same (by
     simp
     omega), fun hb => ⟨?_, hOO.tr0 hO3⟩, fun hb => ⟨x.subs.length - (n + 1), by omega, n + 1, by omega, by rw [wr' (by omega) (by omega)]; rfl, rfl, ?_, hOO.tr0 hO3, by omega⟩⟩
    · rw [hall, hst]
      have hb : sameM t d x1 y1 = false := by simpa using hb
      rw [hb, Bool.false_and]
    · have hb : sameM t d x1 y1 = true := by simpa using hb
      rw [hall, hst, hb, Bool.true_and]
  · have hge : ¬ (n : Int) < (sl.n : Int) := of_decide_eq_false hge
    have : n = x.subs.length := by omega
    subst this
    rw [hall, List.drop_of_length_le (Nat.le_refl _)]
    exact ⟨rfl, hO1⟩
theorem rEx_cells {d : Nat} {w : World} {F : Nat -> Prop} {x : Ex} {cs : List Value} (h : rEx d w F x cs) : ∃ sl : Sl, cs = exv x.k x.n x.s x.op sl x.a := by
 cases d with
 | zero => exact h.elim
 | succ d => obtain ⟨l, hcs, _⟩ := h; exact ⟨l, hcs⟩
def lenOk : Nat -> Ex -> Prop
 | 0, _ => True
 | d + 1, x => x.s.length < 4611686018427387903 /\ ∀ y, y ∈ x.subs -> lenOk d y
def numOk : Nat -> Ex -> Prop
 | 0, _ => True
 | d + 1, x => InI x.n /\ ∀ y, y ∈ x.subs -> numOk d y
def levM (x : Ex) : Int := if x.k = 5 then rowOf x.op else 6
def eqM (n : Int) (s : List UInt8) (op len : Int) (x : Ex) : Bool := ((((x.n == n) && decide (x.s = s)) && (x.op == op)) && ((x.subs.length : Int) == len))
def headM (x : Ex) : Bool :=
 if x.k = 1 then eqM (if 0 > x.n then 0 else x.n) [] 0 0 x
 else if x.k = 2 ∨ x.k = 3 then nameM x.s && eqM 0 x.s 0 0 x
 else if x.k = 4 then eqM 0 [] (if x.op = 15 then 15 else 14) 1 x
 else if x.k = 5 then !(rowOf x.op == 6) && eqM 0 [] x.op 2 x
 else false
def all1 (f : Ex -> Bool) : List Ex -> Bool
 | [] => true
 | x :: xs => f x && all1 f xs
def shapeM : Nat -> Ex -> Bool
 | 0, _ => false
 | d + 1, x => headM x && all1 (shapeM d) x.subs
theorem all1_drop {f : Ex -> Bool} {xs : List Ex} {n : Nat} {x : Ex} (hx : xs[n]? = some x) : all1 f (xs.drop n) = (f x && all1 f (xs.drop (n + 1))) := by
 rw [List.drop_eq_getElem_cons (List.getElem?_eq_some_iff.1 hx).1, (List.getElem?_eq_some_iff.1 hx).2, all1]
theorem Only.grown (w : World) (k : Nat) (os : Array Obj) : Only [] w (Go.Sort.grow (w.drewN k) os) := ⟨rfl, rfl, rfl, by simp [Go.Sort.grow], fun q hq _ => by
 simp only [Go.Sort.grow, World.heap_drewN]
 rw [Array.getElem?_append_left hq]⟩
theorem num_in {k : Nat} {op : Int} (hk : k < 6) (h : op ∈ (numsL[k]?).getD []) : rowOf op = (k : Int) := by
 match k, hk with
 | 0, _ => simp [numsL] at h; subst h; rfl
 | 1, _ => simp [numsL] at h; subst h; rfl
 | 2, _ => simp [numsL] at h; rcases h with rfl | rfl <;> rfl
 | 3, _ => simp [numsL] at h; rcases h with rfl | rfl | rfl | rfl <;> rfl
 | 4, _ => simp [numsL] at h; rcases h with rfl | rfl <;> rfl
 | 5, _ => simp [numsL] at h; rcases h with rfl | rfl | rfl <;> rfl
theorem num_out {op : Int} (h : ∀ k, k < 6 -> op ∉ (numsL[k]?).getD []) : rowOf op = 6 := by
 have h0 := h 0 (by decide)
 have h1 := h 1 (by decide)
 have h2 := h 2 (by decide)
 have h3 := h 3 (by decide)
 have h4 := h 4 (by decide)
 have h5 := h 5 (by decide)
 simp [numsL] at h0 h1 h2 h3 h4 h5
 unfold rowOf
 rw [if_neg (by omega), if_neg (by omega), if_neg (by omega), if_neg (by omega), if_neg (by omega), if_neg (by omega)]
theorem rlevel_c {w : World} {F : Nat -> Prop} {x : Ex} {cs : List Value} {d : Nat} (h : rEx d w F x cs) : Calls Try.prog 84 #[.agg cs.toArray] w fun e w' => e = .returned (.int .i64 (levM x)) /\ Only [] w w' := by
 obtain ⟨sl, rfl⟩ := rEx_cells h
 refine ret (v38w x.k x.n (T x.s) x.op sl x.a (fun v w' => v = .int .i64 (levM x) /\ Only [] w w') w ?_)
 unfold v38v
 intro k0 w0 hk0 hk0' hO0
 refine (nums_c w0).mono ?_
 rintro _ w1 ⟨l0, rfl, hN, hO1⟩
 have m0 := hN.len
 have m6 : numsL.length = 6 := rfl
 refine ⟨l0, rfl, hO1.same (by simp; omega), fun nv i w' => ∃ n : Nat, n <= 6 /\ i = (n : Int) /\ nv = 6 - n /\ (∀ k, k < n -> x.op ∉ (numsL[k]?).getD []) /\ Only [] w1 w', 6, ⟨0, by decide, rfl, rfl, fun k hk => absurd hk (Nat.not_lt_zero k), Only.refl _ _⟩, ?_⟩
 rintro nv _ w2 ⟨n, hn, rfl, rfl, hno, hO2⟩
 have hO02 : Only [] w w2 := (hO0.tr0 hO1).tr0 hO2
 refine ⟨fun hc => ?_, fun hc => ⟨?_, hO02⟩⟩
 · simp only [Bool.and_eq_true, decide_eq_true_eq, beq_iff_eq] at hc
   obtain ⟨hc1, hk5⟩ := hc
   have hlt : n < 6 := by omega
   obtain ⟨p0, x0, cs0, g1, g2, g3, g4, g5, s1, rfl, hS⟩ := hN.get (Int.natCast_nonneg n) (by omega)
   rw [Int.toNat_natCast] at g2
   have hx0 : (numsL[n]?).getD [] = x0 := by rw [g2]; rfl
   have t1 := hS.len
   have t2 := hS.cap
   have t3 := hS.big
   refine ⟨fun nv i w' => ∃ j : Nat, j <= x0.length /\ i = (j : Int) /\ nv = x0.length - j /\ (∀ q y, q < j -> x0[q]? = some y -> y ≠ x.op) /\ Only [] w1 w', x0.length, ⟨0, Nat.zero_le _, rfl, rfl, fun q y hq => absurd hq (Nat.not_lt_zero q), hO2⟩, ?_⟩
   rintro nv _ w3 ⟨j, hj, rfl, rfl, hne, hO3⟩
   refine ⟨p0, g1, s1, g5.keep (hO3.block _ g5.lt (by simp)), fun hlt2 => ?_, fun hge => ?_⟩
   · have hlt2 : (j : Int) < (s1.n : Int) := of_decide_eq_true hlt2
     obtain ⟨p3, m, cs3, r1, r2, r3, r4, r5, r6⟩ := (SliceF.only rNum_ok (by decide) hS hO3 (by simp)).get (Int.natCast_nonneg j) hlt2
     unfold rNum at r6
     subst r6
     rw [Int.toNat_natCast] at r2
     refine ⟨p0, g1, s1, g5.keep (hO3.block _ g5.lt (by simp)), p3, r1, m, r5, fun he w4 hO4 => ⟨?_, ((hO0.tr0 hO1).tr0 hO3).tr0 hO4⟩, fun he w5 hO5 => ⟨x0.length - (j + 1), by omega, j + 1, by omega, by rw [wr' (by omega) (by omega)]; rfl, rfl, fun q y hq hy => ?_, hO3.tr0 hO5⟩⟩
     · have he : m = x.op := by simpa using he
       subst he
       have := num_in hlt (by rw [hx0]; exact List.mem_of_getElem? r2)
       rw [levM, if_pos hk5, this]
     · rcases Nat.lt_or_ge q j with hqj | hqj
       · exact hne q y hqj hy
       · have : q = j := by omega
         subst this
         rw [r2] at hy
         injection hy with hy
         subst hy
         simpa using he
   · have hge : ¬ (j : Int) < (s1.n : Int) := of_decide_eq_false hge
     refine ⟨6 - (n + 1), by omega, n + 1, by omega, by rw [wr' (by omega) (by omega)]; rfl, rfl, fun k hk => ?_, hO3⟩
     rcases Nat.lt_or_ge k n with hkn | hkn
     · exact hno k hkn
     · have : k = n := by omega
       subst this
       rw [hx0]
       intro hm
       obtain ⟨q, hq⟩ := List.getElem?_of_mem hm
       exact hne q _ (by have := (List.getElem?_eq_some_iff.1 hq).1; omega) hq rfl
 · rw [levM]
   by_cases hk5 : x.k = 5
   · rw [if_pos hk5]
     have : n = 6 := by
      rw [hk5] at hc
      simp at hc
      omega
     subst this
     rw [num_out hno]
   · rw [if_neg hk5]
theorem rshape_c : ∀ (d : Nat) {w : World} {F : Nat -> Prop} {x : Ex} {cs : List Value}, (∀ e, lenOk e x) -> rEx d w F x cs -> Calls Try.prog 80 #[.agg cs.toArray] w fun e w' => e = .returned (.bool (shapeM d x)) /\ Only [] w w'
 | 0, _, _, _, _, _, h => h.elim
 | d + 1, w, F, x, cs, hl, ⟨sl, h1, h2⟩ => by
  subst h1
  refine ret (v53w x.k x.n (T x.s) x.op sl x.a (fun v w' => v = .bool (shapeM (d + 1) x) /\ Only [] w w') w ?_)
  unfold v53v
  intro k0 w0 hk0 hk0' hO0
  have hn := h2.len
  have hcap := h2.cap
  have hbig := h2.big
  have hl0 : x.s.length < 4611686018427387903 := (hl 1).1
  have hls : ∀ y, y ∈ x.subs -> ∀ e, lenOk e y := fun y hy e => (hl (e + 1)).2 y hy
  have hsm : ∀ {b : Bool}, headM x = b -> shapeM (d + 1) x = (b && all1 (shapeM d) x.subs) := fun e => by rw [shapeM, e]
  refine ⟨fun nv i w' => ∃ n : Nat, n <= x.subs.length /\ i = (n : Int) /\ nv = x.subs.length - n /\ all1 (shapeM d) x.subs = all1 (shapeM d) (x.subs.drop n) /\ Only [] w w' /\ w0.heap.size <= w'.heap.size, x.subs.length, ⟨0, Nat.zero_le _, rfl, rfl, rfl, hO0, Nat.le_refl _⟩, ?_⟩
  rintro nv _ w1 ⟨n, hnl, rfl, rfl, hall, hO1, z1⟩
  refine ⟨fun hlt => ?_, fun hge => ?_⟩
  · have hlt : (n : Int) < (sl.n : Int) := of_decide_eq_true hlt
    obtain ⟨p, y, ds, g1, g2, g3, g4, g5, g6⟩ := (SliceF.only (rEx_ok d) (by decide) h2 hO1 (by simp)).get (Int.natCast_nonneg n) hlt
    rw [Int.toNat_natCast] at g2
    obtain ⟨sy, rfl⟩ := rEx_cells g6
    refine ⟨p, g1, _, _, _, _, _, _, g5, (rshape_c d (hls y (List.mem_of_getElem? g2)) g6).mono ?_⟩
    rintro _ w2 ⟨rfl, hO2⟩
    have z2 := hO2.size
    have hst := all1_drop (f := shapeM d) g2
    refine ⟨_, rfl, hO2.same (by simp; omega), fun hb => ⟨?_, hO1.tr0 hO2⟩, fun hb => ⟨x.subs.length - (n + 1), by omega, n + 1, by omega, by rw [wr' (by omega) (by omega)]; rfl, rfl, ?_, hO1.tr0 hO2, by omega⟩⟩
    · have hb : shapeM d y = false := by simpa using hb
      rw [shapeM, hall, hst, hb, Bool.false_and, Bool.and_false]
    · have hb : shapeM d y = true := by simpa using hb
      rw [hall, hst, hb, Bool.true_and]
  · have hge : ¬ (n : Int) < (sl.n : Int) := of_decide_eq_false hge
    have : n = x.subs.length := by omega
    subst this
    rw [List.drop_of_length_le (Nat.le_refl _)] at hall
    have hsh : shapeM (d + 1) x = headM x := by
     rw [shapeM, hall]
     simp [all1]
    refine (rname_c w1 x.s hl0).mono ?_
    rintro _ w3 ⟨rfl, hO3⟩
    have hO03 := hO1.tr0 hO3
    have z3 := hO3.size
    have e0 : ((T x.s).toList == (ByteArray.mk #[]).toList) = decide (x.s = []) := T_eq x.s []
    rw [e0, hn]
    refine ⟨_, rfl, hO3.same (by simp; omega), fun hk => ⟨?_, hO03⟩, fun hk => ⟨fun b w' => b = decide (x.k = 2 ∨ x.k = 3) /\ w' = w3, ?_, fun hk2 => ⟨?_, rfl⟩, fun hk2 => ⟨?_, rfl⟩⟩⟩
    · have hk : x.k = 1 := by simpa using hk
      rw [hsh, headM, if_pos hk, eqM]
      congr 4
      rw [Bool.eq_iff_iff]
      simp only [decide_eq_true_eq, beq_iff_eq]
      split <;> omega
    · have hk1 : x.k ≠ 1 := by simpa using hk
      rintro _ _ ⟨rfl, rfl⟩
      refine ⟨fun hb => ⟨?_, hO03⟩, fun hb => ⟨fun hk4 => ⟨?_, hO03⟩, fun hk4 => ⟨fun hk5 => ?_, fun hk5 => ⟨?_, hO03⟩⟩⟩⟩
      · have hb := of_decide_eq_true hb
        rw [hsh, headM, if_neg hk1, if_pos hb, eqM]
        have : decide (x.s = x.s) = true := decide_eq_true rfl
        rw [this, Bool.and_true]
        cases (x.n == 0) <;> cases nameM x.s <;> simp
      · have hb := of_decide_eq_false hb
        have hk4 : x.k = 4 := by simpa using hk4
        rw [hsh, headM, if_neg hk1, if_neg hb, if_pos hk4, eqM]
        congr 3
        rw [Bool.eq_iff_iff]
        simp only [Bool.or_eq_true, beq_iff_eq]
        split <;> omega
      · have hb := of_decide_eq_false hb
        have hk4 : x.k ≠ 4 := by simpa using hk4
        have hk5 : x.k = 5 := by simpa using hk5
        have hh5 : headM x = (!(rowOf x.op == 6) && eqM 0 [] x.op 2 x) := by rw [headM, if_neg hk1, if_neg hb, if_neg hk4, if_pos hk5]
        have eop : (x.op == x.op) = true := beq_self_eq_true _
        refine ⟨fun b w' => b = headM x /\ Only [] w w', ?_, fun hc => (rlevel_c (d := d + 1) (F := F) (x := x) ⟨sl, rfl, SliceF.only (rEx_ok d) (by decide) h2 hO03 (by simp)⟩).mono ?_, fun hc => ⟨?_, hO03⟩⟩
        · rintro _ _ ⟨rfl, h⟩
          exact ⟨hsh.symm ▸ rfl, h⟩
        · rintro _ w6 ⟨rfl, hO6⟩
          refine ⟨_, rfl, hO6.same (by simp; omega), ?_, hO03.tr0 hO6⟩
          rw [hh5, eqM, hc, eop, Bool.and_true, Bool.true_and, levM, if_pos hk5]
          congr 1
          rw [Bool.eq_iff_iff]
          simp only [decide_eq_true_eq, Bool.not_eq_true', beq_eq_false_iff_ne]
          have : rowOf x.op <= 6 := by
           unfold rowOf
           split
           · omega
           split
           · omega
           split
           · omega
           split
           · omega
           split
           · omega
           split
           · omega
           · omega
          omega
        · rw [hh5, eqM, hc, Bool.false_and, Bool.false_and, Bool.and_false]
      · have hb := of_decide_eq_false hb
        have hk4 : x.k ≠ 4 := by simpa using hk4
        have hk5 : x.k ≠ 5 := by simpa using hk5
        rw [hsh, headM, if_neg hk1, if_neg hb, if_neg hk4, if_neg hk5]
    · have hk2 : x.k = 2 := by simpa using hk2
      rw [hk2]; rfl
    · have hk2 : x.k ≠ 2 := by simpa using hk2
      rw [Bool.eq_iff_iff]
      simp [hk2]
end Go.Proofs.Ytddfmhccaapgjaa.Con
namespace Go.Kt
open Go Go.RowKit Go.ChangeShapes Go.WideShapes
set_option linter.unusedSimpArgs false
set_option linter.unusedVariables false
def rPair {α β : Type} (r : Rp α) (q : Rp β) : Rp (α × β) := fun w F x cs => ∃ c d, cs = c ++ d /\ r w F x.1 c /\ q w F x.2 d
def rUnit : Rp Unit := fun _ _ _ cs => cs = []
def rBool : Rp Bool := fun _ _ b cs => cs = [.bool b]
section
variable {H : Type} {enc : TypeId × Value -> H} {P : Program}
theorem trodAll_stays (hl : laidOutB P = true) {W W' : World} {sp : Nat -> Bool} (hb : Below W.heap.size W W') : ∀ {ts : List TypeId} {vs : List Value} {ds : List (DataW H)} {ps : List MemPlace},
  (∀ t, t ∈ ts -> P.readableRec t = true /\ t < P.types.size) -> DataW.TrodAll enc P W 0 (fun _ => true) true ts vs ds ps -> (∀ x, x ∈ ps -> x.block < W.heap.size) -> (∀ x, x ∈ ps -> sp x.block = true) -> DataW.TrodAll enc P W' 0 sp true ts vs ds ps
 | [], vs, ds, ps, _, h, _, _ => by
  obtain ⟨rfl, rfl, rfl⟩ := trodAll_nil h
  exact trodAll_mk0
 | t :: ts, vs, ds, ps, hr, h, hlt, hsp => by
  obtain ⟨v, vs', d, ds', p, q, rfl, rfl, rfl, h1, h2⟩ := trodAll_cons h
  obtain ⟨r1, r2⟩ := hr t (by simp)
  exact trodAll_cons_mk (WideElems.Trod_stays hl r1 r2 h1 (fun x hx => hb.same (hlt x (by simp [hx]))) fun x hx => hsp x (by simp [hx]))
   (trodAll_stays hl hb (fun u hu => hr u (by simp [hu])) h2 (fun x hx => hlt x (by simp [hx])) fun x hx => hsp x (by simp [hx]))
theorem law_post {f : Func} {s : ChangeSpec} {fresh handsOn again : Bool} {W W' : World} {args : Array Value} {ds gs : List (DataW H)} {before : List MemPlace} {tb : TypeId}
  (hW : DataW.Whole enc P f.params.toList s.vars false W args.toList ds gs before) (hv : s.vars = [])
  (hres : (s.fn H (ds ++ gs)).results = [.lit (.bool true)]) (hargs : (s.fn H (ds ++ gs)).args = ds) (hvs : (s.fn H (ds ++ gs)).vars = [])
  (ht : f.resultTypes = #[tb]) (hu : P.underlying tb = some .bool) (hl : laidOutB P = true) (hread0 : (f.params.toList.all fun t => P.readableRec t && decide (t < P.types.size)) = true) (hO : Only [] W W') :
  s.post enc P f false fresh handsOn again W args (.bool true) W' := by
 have hb : Below W.heap.size W W' := hO.below (Nat.le_refl _) (by simp)
 have hread : ∀ t, t ∈ f.params.toList -> P.readableRec t = true /\ t < P.types.size := fun t ht => by simpa using List.all_eq_true.1 hread0 t ht
 have hlt := fun p hp => hW.lt p hp
 obtain ⟨p, q, hA, hV, rfl, hz, hn⟩ := id hW
 rw [hv] at hV
 obtain ⟨rfl, rfl⟩ := trodVars_none hV
 rw [List.append_nil] at *
 have hA' : ∀ sp : Nat -> Bool, (∀ x ∈ p, sp x.block = true) -> DataW.TrodAll enc P W' 0 sp true f.params.toList args.toList (s.fn H ds).args p := fun sp hsp => by
  rw [hargs]
  exact trodAll_stays hl hb hread hA (fun x hx => by simpa using hlt x hx) hsp
 have hV' : ∀ sp : Nat -> Bool, DataW.TrodVars enc P W' sp s.vars (s.fn H ds).vars [] := fun sp => by
  rw [hv, hvs]
  simp [DataW.TrodVars]
 have hres' : ∀ (b : Nat) (sp : Nat -> Bool) (hd : Bool), DataW.TrodAll enc P W' b sp hd f.resultTypes.toList ((Value.bool true).resultList f.resultTypes.size) (s.fn H ds).results [] := fun b sp hd => by
  rw [hres, ht]
  exact trodAll_cons_mk (shut_bool hu true) trodAll_mk0
 have hold : ∀ x ∈ p, (fun b => decide (b < W.heap.size)) x.block = true := fun x hx => by simpa using hlt x hx
 refine ⟨ds, [], p, [], p, [], hW, by simpa using hres' _ _ _, by simpa using hA' _ hold, by simpa using hV' _, World.keptBut_mono (fun x hx => ⟨hx, by simpa using hx⟩) (hb.frame (· ∈ p)), fun _ => ?_⟩
 refine ⟨ok_one ht rfl (okWide_bool_mk hu true), _, _, ([] ++ p) ++ [], ⟨[] ++ p, [], trodAll_append (hA' _ (fun _ _ => rfl)) (hres' _ _ _), hV' _, rfl, ?_, ?_⟩, ?_⟩
 · intro b off hp
   have hp : MemPlace.cell b off ∈ p := by simpa using hp
   rw [hb.frozen (p := ⟨b, off, none⟩) (hlt _ hp)]
   exact hz b off hp
 · intro ha
   cases ha
 · intro x hp _
   simpa using hp
variable {W : World} {base : Nat} {spare : Nat -> Bool} {held : Bool} {α : Type}
def Opens (enc : TypeId × Value -> H) (P : Program) (W : World) (base : Nat) (spare : Nat -> Bool) (held : Bool) (t : TypeId) (r : Rp α) : Prop :=
 ∀ (fuel : Nat) (cs : List Value) (x : DataW H × List MemPlace), DataW.trod enc P W base spare held fuel t cs = some x -> (∀ n, n ∈ x.1.weights P t -> n <= reachBytes) -> ∃ a : α, r W (fun _ => True) a cs
theorem opens_int {t : TypeId} (ht : P.underlying t = some (.int .i64)) : Opens enc P W base spare held t rInt := fun fuel cs x h _ => by
 obtain ⟨n, rfl, rfl, hw⟩ := DataW.trod_int ht h
 refine ⟨n, rfl, ?_⟩
 simpa [Lit.wf, IntKind.min, IntKind.max, IntKind.signed, IntKind.bits, InI] using hw
def rSl (r : Rp α) (size bytes : Nat) : Rp (List α) := fun w F xs cs => ∃ s : Sl, cs = [s.v] /\ SliceF r size w F s xs /\ xs.length * bytes <= 140737488351232
theorem weightsAll_mem {e : TypeId} : ∀ {l : List (DataW H)} {d : DataW H}, d ∈ l -> ∀ n, n ∈ d.weights P e -> n ∈ DataW.weightsAll P e l
 | d0 :: l, d, hd, n, hn => by
  simp only [DataW.weightsAll, List.mem_append]
  rcases List.mem_cons.1 hd with rfl | hd
  · exact .inl hn
  · exact .inr (weightsAll_mem hd n hn)
 | [], d, hd, _, _ => by simp at hd
theorem choose_list {β : Type} {p : Nat -> β -> Prop} : ∀ (n : Nat), (∀ i, i < n -> ∃ b, p i b) -> ∃ l : List β, l.length = n /\ ∀ i b, l[i]? = some b -> p i b
 | 0, _ => ⟨[], rfl, fun i b h => by simp at h⟩
 | n + 1, h => by
  obtain ⟨l, h1, h2⟩ := choose_list n fun i hi => h i (by omega)
  obtain ⟨b, hb⟩ := h n (by omega)
  refine ⟨l ++ [b], by simp [h1], fun i c hc => ?_⟩
  by_cases hi : i < l.length
  · rw [List.getElem?_append_left hi] at hc; exact h2 i c hc
  · rw [List.getElem?_append_right (by omega)] at hc
    have : i = n := by
     have := (List.getElem?_eq_some_iff.1 hc).1
     simp at this
     omega
    subst this
    simp [h1] at hc
    rw [<- hc]; exact hb
theorem Opens.map {β : Type} {t : TypeId} {r : Rp α} {q : Rp β} (h : Opens enc P W base spare held t r) (f : α -> β) (hf : ∀ a cs, r W (fun _ => True) a cs -> q W (fun _ => True) (f a) cs) : Opens enc P W base spare held t q := fun fuel cs x hx hw => by
 obtain ⟨a, ha⟩ := h fuel cs x hx hw
 exact ⟨f a, hf a cs ha⟩
theorem opens_bool {t : TypeId} (ht : P.underlying t = some .bool) : Opens enc P W base spare held t rBool := fun fuel cs x h _ => by
 obtain ⟨b, rfl, rfl⟩ := DataW.trod_bool ht h
 exact ⟨b, rfl⟩
theorem weights_of {ts : List TypeId} {ds : List (DataW H)} (h : (DataW.weightsEach P ts ds).all (· <= reachBytes) = true) (j : Nat) {t : TypeId} {d : DataW H} (ht : ts[j]? = some t) (hd : ds[j]? = some d) : ∀ n, n ∈ d.weights P t -> n <= reachBytes :=
 fun n hn => by simpa using List.all_eq_true.1 h n (DataW.weights_mem_each ht hd n hn)
end
structure IsBulk {H : Type} (B : DataW H -> Nat) : Prop where
 one : ∀ d, 1 <= B d
 sl : ∀ e s, (e.map B).sum + 1 <= B (.slice e s)
 str : ∀ b, b.length + 1 <= B (.lit (.string b))
 agg : ∀ p, (p.map B).sum + 1 <= B (.agg p)
 ptr : ∀ d, B d + 1 <= B (.ptr d)
 iface : ∀ t d, B d + 1 <= B (.iface t d)
section
variable {H : Type} {enc : TypeId × Value -> H} {P : Program} {W : World} {base : Nat} {spare : Nat -> Bool} {held : Bool} {α β : Type} {B : DataW H -> Nat}
def rStr : Rp ByteArray := fun _ _ s cs => cs = [.string s] /\ s.size <= 140737488351232
def OpensB (B : DataW H -> Nat) (enc : TypeId × Value -> H) (P : Program) (W : World) (base : Nat) (spare : Nat -> Bool) (held : Bool) (t : TypeId) (r : Rp α) (m : α -> Nat) : Prop :=
 ∀ (fuel : Nat) (cs : List Value) (x : DataW H × List MemPlace), DataW.trod enc P W base spare held fuel t cs = some x -> (∀ n, n ∈ x.1.weights P t -> n <= reachBytes) -> ∃ a : α, r W (fun _ => True) a cs /\ m a <= B x.1
theorem opensB_of (hB : IsBulk B) {t : TypeId} {r : Rp α} (h : Opens enc P W base spare held t r) : OpensB B enc P W base spare held t r fun _ => 1 := fun fuel cs x hx hw => by
 obtain ⟨a, ha⟩ := h fuel cs x hx hw
 exact ⟨a, ha, hB.one _⟩
theorem opensB_str (hB : IsBulk B) {t : TypeId} (ht : P.underlying t = some .string) : OpensB B enc P W base spare held t rStr fun s => s.size + 1 := fun fuel cs x h hw => by
 obtain ⟨s, rfl, rfl, hs⟩ := DataW.trod_string ht h
 have h1 := hw _ (by simp only [DataW.weights]; exact List.mem_cons_self)
 have e : s.data.toList.length = s.size := by rw [Array.length_toList]; rfl
 simp only [e, reachBytes] at h1
 refine ⟨s, ⟨rfl, ?_⟩, ?_⟩
 · omega
 · have := hB.str s.data.toList
   rw [e] at this
   exact this
theorem sum_le {p : α -> Nat} {g : Nat -> Nat} : ∀ {l : List α} {o : Nat}, (∀ i b, l[i]? = some b -> p b <= g (o + i)) -> (l.map p).sum <= ((List.range l.length).map fun i => g (o + i)).sum
 | [], _, _ => by simp
 | a :: l, o, h => by
  rw [List.length_cons, List.range_succ_eq_map, List.map_cons, List.map_cons, List.sum_cons, List.sum_cons, List.map_map]
  have h0 := h 0 a rfl
  have ih := sum_le (p := p) (g := g) (l := l) (o := o + 1) fun i b hb => by
   have := h (i + 1) b hb
   rw [show o + 1 + i = o + (i + 1) by omega]
   exact this
  refine Nat.add_le_add h0 (Nat.le_trans ih (Nat.le_of_eq ?_))
  congr 1
  refine List.map_congr_left fun i _ => ?_
  show g _ = g _
  congr 1
  omega
theorem opensB_slice (hB : IsBulk B) {t e : TypeId} {r : Rp α} {m : α -> Nat} {size : Nat} (ht : P.underlying t = some (.slice e)) (hs : P.cellsOf e = size) {bytes : Nat} (hb : P.bytesOf e = bytes) (he : OpensB B enc P W base spare held e r m) :
  OpensB B enc P W base spare held t (rSl r size bytes) fun xs => (xs.map m).sum + 1 := fun fuel cs x h hw => by
 subst hs
 rcases Deep.open_slice ht h with ⟨rfl, rfl⟩ | ⟨a, len, cap, mm, n, D, Pl, rfl, _, hl, hm, hmm, rfl, hel⟩
 · exact ⟨[], ⟨Sl.nil, rfl, SliceF.nil _ _ _ _, by simp⟩, hB.one _⟩
 · have hlm : len <= mm := by rw [hmm]; split <;> omega
   have hex : ∀ i, i < len -> ∃ b : α, (∃ cs', cs'.length = P.cellsOf e /\ Cells W (a.add (i * P.cellsOf e)) cs' /\ r W (fun _ => True) b cs') /\ m b <= B (D i) := fun i hi => by
    obtain ⟨cs', g1, g2⟩ := hel i (by omega)
    obtain ⟨_, g3, g4⟩ := World.cells?_some g1
    obtain ⟨b, g5, g6⟩ := he n cs' _ g2 fun k hk => hw k (by
     simp only [DataW.weights, ht, List.mem_cons, List.mem_append]
     exact .inr (.inl (weightsAll_mem (List.mem_map.2 ⟨i, List.mem_range.2 hi, rfl⟩) k hk)))
    refine ⟨b, ⟨cs', g3, fun j v hj => ?_, g5⟩, g6⟩
    rw [g4 j (by have := (List.getElem?_eq_some_iff.1 hj).1; omega)]
    exact hj
   obtain ⟨l, h1, h2⟩ := choose_list len hex
   refine ⟨l, ⟨⟨some a, len, cap⟩, rfl, ⟨h1.symm, hl, fun h => (by cases h), hm, fun j x hj => ?_⟩, ?_⟩, ?_⟩
   · obtain ⟨⟨cs', g1, g2, g3⟩, _⟩ := h2 j x hj
     exact ⟨a, cs', rfl, trivial, g1, g2, g3⟩
   · have := hw _ (by simp only [DataW.weights, ht]; exact List.mem_cons_self)
     rw [hb] at this
     simp only [List.length_map, List.length_range, reachBytes] at this
     rw [h1]
     have h3 : len * bytes <= (len + (mm - len)) * bytes := Nat.mul_le_mul_right _ (by omega)
     omega
   · have h3 := hB.sl ((List.range len).map D) ((List.range (mm - len)).map fun j => D (len + j))
     refine Nat.le_trans (Nat.succ_le_succ ?_) h3
     have h4 := sum_le (p := m) (g := fun i => B (D i)) (l := l) (o := 0) fun i b hb => by
      rw [Nat.zero_add]
      exact (h2 i b hb).2
     rw [h1] at h4
     rw [List.map_map]
     simpa [Function.comp_def] using h4
def FOpenB (B : DataW H -> Nat) (enc : TypeId × Value -> H) (P : Program) (W : World) (base : Nat) (spare : Nat -> Bool) (held : Bool) (T off : Nat) (fs : List Field) (r : Rp α) (m : α -> Nat) : Prop :=
 ∀ (n : Nat) (cs : List Value) (xs : List (DataW H × List MemPlace)), cs.length = T -> xs.length = fs.length ->
  (∀ (i : Nat) (f : Field), fs[i]? = some f -> DataW.trod enc P W base spare held n f.type ((cs.drop f.offset).take (P.cellsOf f.type)) = xs[i]?) ->
  (∀ (i : Nat) (f : Field) (x : DataW H × List MemPlace), fs[i]? = some f -> xs[i]? = some x -> ∀ k, k ∈ x.1.weights P f.type -> k <= reachBytes) -> ∃ a : α, r W (fun _ => True) a (cs.drop off) /\ m a <= (xs.map fun x => B x.1).sum
theorem foB_nil {T off : Nat} (h : T = off) : FOpenB B enc P W base spare held T off [] rUnit fun _ => 0 := fun n cs xs hl _ _ _ => ⟨(), by
 show cs.drop off = []
 exact List.drop_eq_nil_of_le (by omega), Nat.zero_le _⟩
theorem foB_cons {T off s : Nat} {f : Field} {fs : List Field} {r : Rp α} {q : Rp β} {m : α -> Nat} {m' : β -> Nat} (ho : f.offset = off) (hs : P.cellsOf f.type = s) (hr : OpensB B enc P W base spare held f.type r m) (hq : FOpenB B enc P W base spare held T (off + s) fs q m') :
  FOpenB B enc P W base spare held T off (f :: fs) (rPair r q) fun x => m x.1 + m' x.2 := fun n cs xs hl hx hf hw => by
 cases xs with
 | nil => simp at hx
 | cons x xs =>
  have h0 := hf 0 f rfl
  rw [ho, hs] at h0
  obtain ⟨a, ha, ha'⟩ := hr n _ x h0 (hw 0 f x rfl rfl)
  obtain ⟨b, hb, hb'⟩ := hq n cs xs hl (by simpa using hx) (fun i g hg => hf (i + 1) g hg) (fun i g y hg hy => hw (i + 1) g y hg hy)
  refine ⟨(a, b), ⟨_, _, by rw [<- List.drop_drop, List.take_append_drop], ha, hb⟩, ?_⟩
  rw [List.map_cons, List.sum_cons]
  exact Nat.add_le_add ha' hb'
theorem opensB_struct (hB : IsBulk B) {t : TypeId} {fs : Array Field} {T : Nat} {r : Rp α} {m : α -> Nat} (ht : P.underlying t = some (.struct fs)) (hT : P.cellsOf t = T) (hF : FOpenB B enc P W base spare held T 0 fs.toList r m) : OpensB B enc P W base spare held t r fun x => m x + 1 := fun fuel cs x h hw => by
 obtain ⟨xs, n, rfl, rfl, hl, hxl, hf⟩ := DataW.trod_struct ht h
 obtain ⟨a, ha, ha'⟩ := hF n cs xs (by omega) (by simpa using hxl) (fun i f hi => hf i f (by simpa using hi)) (fun i f x hi hx k hk => hw k (by
  simp only [DataW.weights, ht]
  refine DataW.weights_mem_each (j := i) ?_ (by rw [List.getElem?_map, hx]; rfl) k hk
  simp only [Array.toList_map, List.getElem?_map, hi]
  rfl))
 refine ⟨a, by simpa using ha, Nat.le_trans (Nat.succ_le_succ ha') ?_⟩
 have := hB.agg (xs.map (·.1))
 rwa [List.map_map] at this
theorem OpensB.map {t : TypeId} {r : Rp α} {q : Rp β} {m : α -> Nat} {m' : β -> Nat} (h : OpensB B enc P W base spare held t r m) (f : α -> β) (hf : ∀ a cs, r W (fun _ => True) a cs -> q W (fun _ => True) (f a) cs /\ m' (f a) <= m a) : OpensB B enc P W base spare held t q m' := fun fuel cs x hx hw => by
 obtain ⟨a, ha, ha'⟩ := h fuel cs x hx hw
 obtain ⟨h1, h2⟩ := hf a cs ha
 exact ⟨f a, h1, Nat.le_trans h2 ha'⟩
theorem argB_slice {t e : TypeId} {r : Rp α} {m : List α -> Nat} {size bytes : Nat} {b0 : Nat} {v : Value} {d : DataW H} {p : List MemPlace} (ht : P.underlying t = some (.slice e)) (hok : Value.okWide P W .any b0 t v) (h : DataW.Trod enc P W base spare held t v d p)
  (hop : OpensB B enc P W base spare held t (rSl r size bytes) m) (hw : ∀ n, n ∈ d.weights P t -> n <= reachBytes) : ∃ (s : Sl) (xs : List α), v = s.v /\ SliceF r size W (fun _ => True) s xs /\ m xs <= B d := by
 obtain ⟨a0, len0, cap0, rfl⟩ := okWide_slice ht hok
 obtain ⟨fuel, hf⟩ := h
 obtain ⟨xs, ⟨s, h1, h2, h3⟩, h4⟩ := hop fuel _ _ hf hw
 have h1 : [Value.slice a0 len0 cap0] = [s.v] := h1
 simp only [List.cons.injEq, and_true] at h1
 exact ⟨s, xs, h1, h2, h4⟩
theorem argB_struct {t : TypeId} {fs : Array Field} {r : Rp α} {m : α -> Nat} {b0 : Nat} {v : Value} {d : DataW H} {p : List MemPlace} (ht : P.underlying t = some (.struct fs)) (hok : Value.okWide P W .any b0 t v) (h : DataW.Trod enc P W base spare held t v d p)
  (hop : OpensB B enc P W base spare held t r m) (hw : ∀ n, n ∈ d.weights P t -> n <= reachBytes) : ∃ (a : α) (cs : List Value), v = .agg cs.toArray /\ r W (fun _ => True) a cs /\ m a <= B d := by
 obtain ⟨cs, rfl, _⟩ := okWide_struct ht hok
 obtain ⟨fuel, hf⟩ := h
 obtain ⟨a, ha, ha'⟩ := hop fuel _ _ hf hw
 exact ⟨a, cs.toList, by simp, ha, ha'⟩
theorem sum_one : ∀ l : List α, (l.map fun _ => 1).sum = l.length
 | [] => rfl
 | _ :: l => by rw [List.map_cons, List.sum_cons, sum_one l, List.length_cons]; omega
end
end Go.Kt
namespace Go.Proofs.Ytddfmhccaapgjaa.Con
open Go Go.RowKit Go.Kt Go.Kt.V Go.Proofs.Ytddfmhccaapgjaa.Vc Go.ChangeShapes Go.WideShapes
set_option linter.unusedSimpArgs false
set_option linter.unusedVariables false
set_option maxHeartbeats 4000000
set_option maxRecDepth 100000
end Go.Proofs.Ytddfmhccaapgjaa.Con
namespace Go.Proofs.Ytddfmhccaapgjaa.Con
open Go Go.RowKit Go.Kt Go.Kt.V Go.Proofs.Ytddfmhccaapgjaa.Vc
set_option linter.unusedSimpArgs false
set_option linter.unusedVariables false
set_option maxHeartbeats 4000000
def Bf (w : World) (B : Nat) (s : Sl) (l : List UInt8) : Prop :=
 (s = Sl.nil /\ l = []) ∨ ∃ g tail, s.a = some ⟨g, 0, none⟩ /\ B <= g /\ Blk w g 5 (l.map byteV ++ tail) /\ tail.length = s.c - s.n /\ s.n = l.length /\ s.n <= s.c /\ s.c <= 9223372036854775807 /\ 0 < s.c
theorem Bf.len {w : World} {B : Nat} {s : Sl} {l : List UInt8} (h : Bf w B s l) : s.n = l.length := by
 rcases h with ⟨rfl, rfl⟩ | ⟨g, tail, _, _, _, _, h, _⟩
 · rfl
 · exact h
theorem Bf.lt {w : World} {B : Nat} {s : Sl} {l : List UInt8} (h : Bf w B s l) {g : Nat} (hg : s.a = some ⟨g, 0, none⟩) : B <= g /\ g < w.heap.size := by
 rcases h with ⟨rfl, rfl⟩ | ⟨g', tail, h1, h2, h3, _⟩
 · cases hg
 · rw [hg] at h1
   injection h1 with h1
   injection h1 with h1
   subst h1
   exact ⟨h2, h3.lt⟩
theorem Bf.keep {w w' : World} {B : Nat} {s : Sl} {l : List UInt8} (h : Bf w B s l) (hk : ∀ g, s.a = some ⟨g, 0, none⟩ -> g < w.heap.size -> w'.heap[g]? = w.heap[g]?) : Bf w' B s l := by
 rcases h with h | ⟨g, tail, h1, h2, h3, h4⟩
 · exact .inl h
 · exact .inr ⟨g, tail, h1, h2, (hk g h1 h3.lt).trans h3, h4⟩
theorem strC (l : List UInt8) : Lib.strCells (T l) = l.map byteV := rfl
theorem u8_slice : Try.prog.underlying 87 = some (.slice 5) := by kernel_rfl
theorem u8_str : Try.prog.underlying 9 = some .string := by kernel_rfl
theorem u8_info : Try.prog.info? 5 = some Try.t5 := by kernel_rfl
theorem app_str {w : World} {B : Nat} {s : Sl} {l : List UInt8} (h : Bf w B s l) (m : List UInt8) (hB : B <= w.heap.size) (hm : l.length + m.length <= 140737488355328) :
  ∃ s' w', (Builtin.append_ #[87, 9] 87 #[s.v, .string (T m)]).run Try.prog w = .ok s'.v w' /\ Bf w' B s' (l ++ m) /\ OnlyP (fun k => s.a = some ⟨k, 0, none⟩) w w' /\ (s'.a = s.a ∨ s'.a = some ⟨w.heap.size, 0, none⟩) := by
 have ht := u8_slice
 have hu := u8_str
 have hi := u8_info
 have hs1 : Try.t5.size = 1 := rfl
 have hb1 : Try.t5.bytes = 1 := rfl
 have hz : Try.t5.zero = some (.int .u8 0) := rfl
 have hsz : (T m).size = m.length := T_size m
 have grown : ∀ (need old : Nat), need = l.length + m.length -> 0 < l.length + m.length -> ∀ cells : Array Value, cells = ((l ++ m).map byteV).toArray ++ Builtin.zeroCells (Value.int .u8 0).cells (grownCap w need old 5 - need) ->
   Bf (w.drew.alloc (.cells cells 5)) B ⟨some ⟨w.heap.size, 0, none⟩, need, grownCap w need old 5⟩ (l ++ m) /\ OnlyP (fun k => s.a = some ⟨k, 0, none⟩) w (w.drew.alloc (.cells cells 5)) := by
  rintro need old rfl h0 cells rfl
  have hO : Only [] w (w.drew.alloc (.cells (((l ++ m).map byteV).toArray ++ Builtin.zeroCells (Value.int .u8 0).cells (grownCap w (l.length + m.length) old 5 - (l.length + m.length))) 5)) := (Only.drew w).tr0 (Only.alloc _ _)
  refine ⟨.inr ⟨w.heap.size, (Builtin.zeroCells (Value.int .u8 0).cells (grownCap w (l.length + m.length) old 5 - (l.length + m.length))).toList, rfl, hB, ?_, ?_, by simp, grownCap_ge _ _ _ _, grownCap_le_maxLen _ _ _ _ (by simp only [maxLen]; omega), Nat.lt_of_lt_of_le h0 (grownCap_ge _ _ _ _)⟩, hO.p0⟩
  · have e : ∀ (x : List Value) (z : Array Value), x.toArray ++ z = (x ++ z.toList).toArray := fun x z => by simp
    rw [e]
    exact Blk.alloc w.drew 5 _
  · exact (zero_len w _ (size := 1) rfl).trans (Nat.mul_one _)
 rcases h with ⟨rfl, rfl⟩ | ⟨g, tail, h1, h2, h3, h4, h5, h6, h7, h8⟩
 · cases m with
   | nil =>
    refine ⟨Sl.nil, w, ?_, .inl ⟨rfl, rfl⟩, OnlyP.refl _ _, .inl rfl⟩
    have hf := Lib.run_firstCells_string (P := Try.prog) w 1 (T [])
    have h0 : (T []).size = 0 := rfl
    rw [h0] at hf
    simp [Sl.nil, Sl.v, Builtin.append_, run_underlying ht, run_underlying hu, sizeOf, typeInfo, hi, hs1, Builtin.lenOf, h0, hf]
   | cons c m =>
    have hr := run_append_nil_string (P := Try.prog) w 87 9 87 5 Try.t5 (.int .u8 0) ht hu hi hz (T (c :: m)) (by rw [hsz]; simp) (by rw [hsz]; omega) (by rw [hsz, hb1]; omega)
    rw [hsz] at hr
    obtain ⟨g1, g2⟩ := grown (c :: m).length 0 (by simp) (by simp) _ rfl
    have e1 : (T (c :: m)).data.map (fun b => Value.int .u8 b.toNat) = (List.map byteV ([] ++ c :: m)).toArray := by
     apply Array.toList_inj.1
     rw [Array.toList_map, List.toList_toArray]
     rfl
    rw [e1] at hr
    exact ⟨_, _, hr, g1, g2, .inr rfl⟩
 · obtain ⟨sa, sn, sc⟩ := s
   dsimp only at h1 h4 h5 h6 h7 h8
   subst h1
   by_cases hroom : sn + m.length <= sc
   · have hb3 := h3
     unfold Blk at h3
     have hr := Lib.run_append_room_string (P := Try.prog) w 87 9 87 5 Try.t5 ht hu hi hs1 g sn sc _ h3 (T m) (by rw [hsz]; exact hroom) (by
      rw [hsz, List.size_toArray, List.length_append, List.length_map]; omega)
     rw [hsz, strC] at hr
     refine ⟨⟨some ⟨g, 0, none⟩, sn + m.length, sc⟩, _, hr, .inr ⟨g, tail.drop m.length, rfl, h2, ?_, ?_, by dsimp only; rw [List.length_append]; omega, hroom, h7, h8⟩, (Only.setRow w g _).p fun x hx => .inl (by simp only [List.mem_singleton] at hx; rw [hx]), .inl rfl⟩
     · have := hb3.setRow ((l ++ m).map byteV ++ tail.drop m.length)
       have e : ((l.map byteV ++ tail).toArray.toList.take sn ++ m.map byteV ++ (l.map byteV ++ tail).toArray.toList.drop (sn + m.length)) = (l ++ m).map byteV ++ tail.drop m.length := by
        rw [List.toList_toArray, List.take_append_of_le_length (by rw [List.length_map]; omega), List.take_of_length_le (by rw [List.length_map]; omega), List.drop_append, List.drop_of_length_le (by rw [List.length_map]; omega), List.nil_append, List.length_map, List.map_append, h5, Nat.add_sub_cancel_left]
       rw [e]
       exact this
     · rw [List.length_drop]; dsimp only; omega
   · have hcell : ∀ j v, (l.map byteV)[j]? = some v -> w.cell? ((⟨g, 0, none⟩ : Addr).add j) = some v := fun j v hj => h3.cells 0 (l.map byteV) (fun j v hj => by rw [Nat.zero_add, List.getElem?_append_left (List.getElem?_eq_some_iff.1 hj).1]; exact hj) j v hj
     have hr := Lib.run_append_grow_string (P := Try.prog) w 87 9 87 5 Try.t5 (.int .u8 0) ht hu hi hz ⟨g, 0, none⟩ sn sc (l.map byteV) (by rw [hs1, List.length_map]; omega) hcell (T m) (by rw [hsz]; omega) (by rw [hsz]; omega) (growslice_fits (by rw [hsz]; omega) (by rw [hsz, hb1]; omega))
     rw [hsz, strC] at hr
     obtain ⟨g1, g2⟩ := grown (sn + m.length) sc (by omega) (by omega) _ rfl
     refine ⟨_, _, hr.trans ?_, g1, g2, .inr rfl⟩
     simp [List.map_append]
theorem els_b (w : World) (F : Nat -> Prop) : ∀ l : List UInt8, Els rByte 1 w F l (l.map fun b => [byteV b])
 | [] => trivial
 | c :: l => ⟨⟨rfl, rfl⟩, els_b w F l⟩
theorem flat_b : ∀ l : List UInt8, (l.map fun b => [byteV b]).flatten = l.map byteV
 | [] => rfl
 | c :: l => by rw [List.map_cons, List.flatten_cons, flat_b l]; rfl
theorem els_flat {w : World} {F : Nat -> Prop} : ∀ {l : List UInt8} {css : List (List Value)}, Els rByte 1 w F l css -> css.flatten = l.map byteV
 | [], [], _ => rfl
 | c :: l, d :: css, h => by
  obtain ⟨⟨_, h1⟩, h2⟩ := h
  unfold rByte at h1
  subst h1
  rw [List.flatten_cons, els_flat h2]
  rfl
theorem Bf.own {w : World} {B : Nat} {s : Sl} {l : List UInt8} (h : Bf w B s l) (F : Nat -> Prop) : Own rByte 1 5 B w F s l := by
 rcases h with h | ⟨g, tail, h1, h2, h3, h4, h5, h6, h7, _⟩
 · exact .inl h
 · exact .inr ⟨g, l.map fun b => [byteV b], tail, h1, h2, by rw [flat_b]; exact h3, by rw [Nat.mul_one]; exact h4, h5, h6, h7, els_b _ _ _⟩
theorem Bf.of {w : World} {B : Nat} {s : Sl} {l : List UInt8} {F : Nat -> Prop} (h : Own rByte 1 5 B w F s l) (h0 : 0 < l.length) : Bf w B s l := by
 rcases h with h | ⟨g, css, tail, h1, h2, h3, h4, h5, h6, h7, h8⟩
 · exact .inl h
 · exact .inr ⟨g, tail, h1, h2, by rw [<- els_flat h8]; exact h3, by rw [h4, Nat.mul_one], h5, h6, h7, by omega⟩
def Mvd (b : Nat) (sl : Sl) (w : World) (sl' : Sl) (w' : World) : Prop := OnlyP (fun k => k = b ∨ sl.a = some ⟨k, 0, none⟩) w w' /\ ∀ k, sl'.a = some ⟨k, 0, none⟩ -> sl.a = some ⟨k, 0, none⟩ ∨ w.heap.size <= k
theorem Mvd.refl (b : Nat) (sl : Sl) (w : World) : Mvd b sl w sl w := ⟨OnlyP.refl _ _, fun _ h => .inl h⟩
theorem Mvd.trans {b : Nat} {sl sl' sl'' : Sl} {w w' w'' : World} (h : Mvd b sl w sl' w') (k : Mvd b sl' w' sl'' w'') : Mvd b sl w sl'' w'' := by
 have z := h.1.size
 refine ⟨h.1.trans k.1 fun x hx => ?_, fun x hx => ?_⟩
 · rcases hx with hx | hx
   · exact .inl (.inl hx)
   · rcases h.2 x hx with e | e
     · exact .inl (.inr e)
     · exact .inr e
 · rcases k.2 x hx with e | e
   · exact h.2 x e
   · exact .inr (by omega)
theorem Mvd.only {b : Nat} {sl : Sl} {w w' : World} (h : Only [] w w') : Mvd b sl w sl w' := ⟨h.p0, fun _ h => .inl h⟩
theorem Mvd.same {b : Nat} {sl sl' : Sl} {w w' : World} (h : Mvd b sl w sl' w') {k : Nat} (hk : k ≠ b) (hs : sl.a ≠ some ⟨k, 0, none⟩) (hl : k < w.heap.size) : Same [k] w w' := h.1.same (by
 intro x hx
 simp only [List.mem_singleton] at hx
 subst hx
 exact ⟨hl, fun e => e.elim hk hs⟩)
def opn (wr : Bool) (l : List UInt8) : List UInt8 := if wr then l ++ [40] else l
def clo (wr : Bool) (l : List UInt8) : List UInt8 := if wr then l ++ [41] else l
def pgM : Nat -> Ex -> Bool -> List UInt8 -> List UInt8
 | 0, _, _, l => l
 | d + 1, x, wr, l => if 16384 < l.length then l else clo wr (
  if x.k = 1 then opn wr l ++ Lib.itoa x.n
  else if x.k = 2 then opn wr l ++ x.s
  else if x.k = 3 then opn wr l ++ ([105, 110, 40] ++ x.s ++ [41])
  else if x.k = 4 then (match x.subs with
   | [y] => pgM d y (decide (levM y < 6)) (opn wr l ++ opTx x.op.toNat)
   | _ => l)
  else (match x.subs with
   | [y, z] => pgM d z (decide (levM z <= levM x)) (pgM d y (decide (levM y < levM x)) (opn wr l) ++ ([32] ++ opTx x.op.toNat ++ [32]))
   | _ => l))
section
variable {x : Ex}
theorem eqM_t {n : Int} {s : List UInt8} {op len : Int} (h : eqM n s op len x = true) : x.n = n /\ x.s = s /\ x.op = op /\ (x.subs.length : Int) = len := by
 simp only [eqM, Bool.and_eq_true, beq_iff_eq, decide_eq_true_eq] at h
 exact ⟨h.1.1.1, h.1.1.2, h.1.2, h.2⟩
theorem head23 (h : headM x = true) (hk : x.k = 2 ∨ x.k = 3) : nameM x.s = true := by
 have h1 : x.k ≠ 1 := by omega
 rw [headM, if_neg h1, if_pos hk, Bool.and_eq_true] at h
 exact h.1
theorem head4 (h : headM x = true) (hk : x.k = 4) : ∃ y, x.subs = [y] /\ (x.op = 14 ∨ x.op = 15) := by
 rw [headM, if_neg (by omega), if_neg (by omega), if_pos hk] at h
 obtain ⟨_, _, h3, h4⟩ := eqM_t h
 obtain ⟨y, hy⟩ := List.length_eq_one_iff.1 (show x.subs.length = 1 by omega)
 refine ⟨y, hy, ?_⟩
 by_cases h15 : x.op = 15
 · exact .inr h15
 · rw [if_neg h15] at h3; exact .inl h3
theorem head5 (h : headM x = true) (h1 : x.k ≠ 1) (h2 : x.k ≠ 2) (h3 : x.k ≠ 3) (h4 : x.k ≠ 4) : x.k = 5 /\ ∃ y z, x.subs = [y, z] /\ 1 <= x.op /\ x.op <= 13 := by
 rw [headM, if_neg h1, if_neg (by omega), if_neg h4] at h
 split at h
 · rename_i h5
   rw [Bool.and_eq_true] at h
   obtain ⟨h6, h7⟩ := h
   obtain ⟨_, _, _, h8⟩ := eqM_t h7
   have h6 : rowOf x.op ≠ 6 := by simpa using h6
   have h2l : x.subs.length = 2 := by omega
   obtain ⟨y, z, hy⟩ : ∃ y z, x.subs = [y, z] := by
    match hm : x.subs, h2l with
    | [y, z], _ => exact ⟨y, z, rfl⟩
   refine ⟨h5, y, z, hy, ?_⟩
   unfold rowOf at h6
   refine Decidable.byContradiction fun hn => h6 ?_
   rw [if_neg (by omega), if_neg (by omega), if_neg (by omega), if_neg (by omega), if_neg (by omega), if_neg (by omega)]
 · cases h
theorem name_len {s : List UInt8} (h : nameM s = true) : s.length <= 24 := by
 unfold nameM at h
 simp only [Bool.and_eq_true] at h
 exact (of_decide_eq_true h.1.1.1).2
theorem opTx_len (n : Nat) : (opTx n).length <= 2 := by
 rcases Nat.lt_or_ge n 16 with h | h
 · have : ∀ q, q < 16 -> (opTx q).length <= 2 := by decide
   exact this n h
 · unfold opTx
   rw [List.getElem?_eq_none (by exact h)]
   decide
end
section
variable {d : Nat} {F G : Nat -> Prop} {k0 b : Nat} {sx sn sl sl' : Sl} {subs : List Ex} {w w' w'' : World} {l l' : List UInt8}
theorem Mvd.after (h : Mvd b sl w' sl' w'') (hO : Only [] w w') : Mvd b sl w sl' w'' := (Mvd.only hO).trans h
end
theorem inb (s : List UInt8) : ByteArray.mk #[105, 110, 40] ++ T s ++ ByteArray.mk #[41] = T ([105, 110, 40] ++ s ++ [41]) := by
 rw [show ByteArray.mk #[105, 110, 40] = T [105, 110, 40] from rfl, show ByteArray.mk #[41] = T [41] from rfl, T_app, T_app]
theorem blb (s : List UInt8) : ByteArray.mk #[32] ++ T s ++ ByteArray.mk #[32] = T ([32] ++ s ++ [32]) := by
 rw [show ByteArray.mk #[32] = T [32] from rfl, T_app, T_app]
theorem inz (c : ByteArray) (s : List UInt8) : (c ++ T s).size = c.size + s.length := by
 rw [show c = T c.data.toList from T_of c, T_app, T_size, T_size, List.length_append]
theorem CallsR.mono {P : Program} {f : FuncId} {a : Array Value} {w : World} {Q Q' : Value -> World -> Prop} (h : CallsR P f a w Q) (hq : ∀ v w', Q v w' -> Q' v w') : CallsR P f a w Q' := fun c cs hc => by
 obtain ⟨e, u', w', fr, ⟨h1, v, h2, h3⟩, h4⟩ := h c cs hc
 exact ⟨e, u', w', fr, ⟨h1, v, h2, hq _ _ h3⟩, h4⟩
def textM (d : Nat) (x : Ex) : List UInt8 := if shapeM d x = true then (if (readA (pgM d x false [])).2.1 ≠ 0 then [] else pgM d x false []) else []
theorem Sim.same {x y : Ex} (h : Sim x y) : ∀ d, sameM false d x y = true := by
 have hd : ∀ {k n : Int} {s : List UInt8} {op : Int} {xs ys : List Ex} {a b : Int}, xs.length = ys.length -> diffM false (.mk k n s op xs a) (.mk k n s op ys b) = false := fun h => by
  simp [diffM, Ex.k, Ex.n, Ex.s, Ex.op, Ex.subs, Ex.a, h]
 induction h with
 | leaf k n s op a b =>
  intro d
  cases d with
  | zero => rfl
  | succ d => rw [sameM, if_neg (by rw [hd rfl]; decide)]; rfl
 | one k n s op a b x y h ih =>
  intro d
  cases d with
  | zero => rfl
  | succ d =>
   rw [sameM, if_neg (by rw [hd (xs := [x]) (ys := [y]) rfl]; decide)]
   simp only [Ex.subs, all2, ih d, Bool.and_true]
 | two k n s op a b x y x' y' h1 h2 ih1 ih2 =>
  intro d
  cases d with
  | zero => rfl
  | succ d =>
   rw [sameM, if_neg (by rw [hd (xs := [x, y]) (ys := [x', y']) rfl]; decide)]
   simp only [Ex.subs, all2, ih1 d, ih2 d, Bool.and_true]
def kt (t : Tk) : Int × List UInt8 := (t.k, t.t)
theorem sk0 {c : UInt8} {r : List UInt8} (h1 : blankB c = false) (h2 : (c == 47) = false) : skN false (c :: r) = 0 := by
 rw [skN, if_neg (by rw [h1]; decide), if_neg (by rw [h2, Bool.false_and]; decide)]
theorem sign_tok {c : UInt8} {r : List UInt8} (h1 : letterB c = false) (h2 : digitB c = false) (h3 : shortL.contains c = true) (h4 : sign2 (c :: r) = false) : tokR (c :: r) = .ok (4, [c], 0, 1) := by
 have e : tokR (c :: r) = if letterB c then wordR (c :: r) else if digitB c then numR (c :: r) else signR (c :: r) := rfl
 have hn : signN (c :: r) = 1 := by
  unfold signN
  rw [h4]
  dsimp only
  rw [if_neg (by decide), if_pos h3]
 rw [e, h1, h2, if_neg (by decide), if_neg (by decide), signR, hn]
 rfl
def soft (r : List UInt8) : Prop := ∀ d, r.head? = some d -> d ≠ 61 /\ d ≠ 62
theorem sign2_soft {c : UInt8} {r : List UInt8} (hc : [38, 124].contains c = false) (h : soft r) : sign2 (c :: r) = false := by
 cases r with
 | nil => rfl
 | cons d r =>
  obtain ⟨h1, h2⟩ := h d rfl
  have e1 : (d == 61) = false := by simpa using h1
  have e2 : (d == 62) = false := by simpa using h2
  show ((d == 61 && [60, 62, 61, 33].contains c) || (d == c && [38, 124].contains c) || (c == 45 && d == 62)) = false
  rw [e1, e2, hc, Bool.false_and, Bool.and_false, Bool.and_false]
  rfl
structure De (ts : List Tk) (n m : Nat) (s : List UInt8) : Prop where
 a : ∀ i, i < n -> (tk ts i).k = 4 /\ (tk ts i).t = s
 b : ∀ i, n <= i -> i < n + m -> (tk ts i).k = 4 /\ (tk ts i).t = [40]
 c : (tk ts (n + m)).k = 1 /\ (tk ts (n + m)).t = [120]
 e : ∀ i, n + m < i -> i <= n + m + m -> (tk ts i).k = 4 /\ (tk ts i).t = [41]
 z : (tk ts (n + m + m + 1)).k = 5
 l : ts.length = n + m + m + 2
def DnX : Nat -> Ex -> Prop
 | 0, x => x.k = 2 /\ x.s = [120] /\ x.subs = []
 | q + 1, x => x.k = 4 /\ ∃ y, x.subs = [y] /\ DnX q y
section
variable {ts : List Tk} {n m : Nat} {s : List UInt8}
theorem sg_f {ts : List Tk} {i : Nat} {t s : List UInt8} (h : (tk ts i).t = t) (hne : t ≠ s) : sg ts i s = false := by
 unfold sg
 rw [h, decide_eq_false hne, Bool.and_false]
theorem sg_t {ts : List Tk} {i : Nat} {t : List UInt8} (h : (tk ts i).k = 4 /\ (tk ts i).t = t) : sg ts i t = true := by
 unfold sg
 rw [h.1, h.2, decide_eq_true rfl]
 rfl
theorem De.op (h : De ts n m s) {j : Nat} (hj : n + m < j) (hj2 : j <= n + m + m + 1) (k : Int) : opAt ts k j = 0 := by
 rcases Nat.lt_or_ge (n + m + m) j with h1 | h1
 · have : j = n + m + m + 1 := by omega
   subst this
   exact op_end h.z k
 · exact op_of (h.e j hj h1).2 (by decide) k
theorem De.par (h : De ts n m s) : ∀ (q p f : Nat), p + q = m -> n + p <= 20 -> need 6 (n + p) <= f ->
  (n + m <= 20 /\ ∃ x, exprR ts f 6 (n + p) (n + p) = .ok (x, n + m + 1 + q) /\ DnX 0 x) ∨ (20 < n + m /\ ∃ a, exprR ts f 6 (n + p) (n + p) = .error (21, a))
 | _, _, 0, _, _, hf => by unfold need at hf; omega
 | 0, p, f + 1, hp, hd, hf => by
  have : p = m := by omega
  subst this
  refine .inl ⟨hd, .mk 2 0 (tk ts (n + p)).t 0 [] (tk ts (n + p)).a, ?_, rfl, h.c.2, rfl⟩
  rw [exprR, if_pos rfl]
  unfold oneR
  rw [sg_f h.c.2 (by decide), sg_f h.c.2 (by decide), sg_f h.c.2 (by decide), if_neg (by decide), if_neg (by decide), if_neg (by rw [h.c.1]; decide), if_pos h.c.1]
 | q + 1, p, f + 1, hp, hd, hf => by
  have hb := h.b (n + p) (by omega) (by omega)
  rw [exprR, if_pos rfl]
  unfold oneR
  rw [sg_f hb.2 (by decide), sg_f hb.2 (by decide), sg_t hb, if_neg (by decide), if_pos rfl]
  by_cases h20 : n + p = 20
  · exact .inr ⟨by omega, (tk ts (n + p)).a, by rw [nestR, if_pos h20]⟩
  · rw [nestR, if_neg h20]
    unfold need at hf
    obtain ⟨g, rfl⟩ : ∃ g, f = g + 6 := ⟨f - 6, by omega⟩
    rcases De.par h q (p + 1) g (by omega) (by omega) (by unfold need; omega) with ⟨h1, x, h2, h3⟩ | ⟨h1, a, h2⟩
    · refine .inl ⟨h1, x, ?_, h3⟩
      have hup := up_ok h2 (h.op (by omega) (by omega)) 6 0 rfl
      rw [<- Nat.add_assoc] at hup
      rw [hup]
      simp only [parR]
      rw [if_pos (sg_t (h.e _ (by omega) (by omega))), Nat.add_assoc (n + m + 1)]
    · refine .inr ⟨h1, a, ?_⟩
      have hup := up_err h2 6 0 rfl
      rw [<- Nat.add_assoc] at hup
      rw [hup]
      rfl
theorem De.sgn (h : De ts n m s) (hs : s = [45] ∨ s = [33]) : ∀ (q p f : Nat), p + q = n -> p <= 20 -> need 6 p <= f ->
  (n + m <= 20 /\ ∃ x, exprR ts f 6 p p = .ok (x, n + m + m + 1) /\ DnX q x) ∨ (20 < n + m /\ ∃ a, exprR ts f 6 p p = .error (21, a))
 | _, _, 0, _, _, hf => by unfold need at hf; omega
 | 0, p, f + 1, hp, hd, hf => by
  have : p = n := by omega
  subst this
  have := De.par h m 0 (f + 1) (by omega) (by omega) hf
  simp only [Nat.add_zero] at this
  rcases this with ⟨h1, x, h2, h3⟩ | h1
  · exact .inl ⟨h1, x, by rw [h2]; congr 2; omega, h3⟩
  · exact .inr h1
 | q + 1, p, f + 1, hp, hd, hf => by
  have ha := h.a p (by omega)
  rw [exprR, if_pos rfl]
  unfold oneR
  have hor : (sg ts p [45] || sg ts p [33]) = true := by
   rcases hs with rfl | rfl
   · rw [sg_t ha, Bool.true_or]
   · rw [sg_t ha, Bool.or_true]
  rw [if_pos hor]
  by_cases h20 : p = 20
  · exact .inr ⟨by omega, (tk ts p).a, by rw [nestR, if_pos h20]; rfl⟩
  · rw [nestR, if_neg h20]
    unfold need at hf
    rcases De.sgn h hs q (p + 1) f (by omega) (by omega) (by unfold need; omega) with ⟨h1, x, h2, h3⟩ | ⟨h1, a, h2⟩
    · refine .inl ⟨h1, .mk 4 0 [] (if (tk ts p).t = [33] then 15 else 14) [x] (tk ts p).a, ?_, rfl, x, rfl, h3⟩
      rw [h2]
      rfl
    · exact .inr ⟨h1, a, by rw [h2]; rfl⟩
end
end Go.Proofs.Ytddfmhccaapgjaa.Con
namespace Go.Proofs.Ytddfmhccaapgjaa.Con
open Go Go.RowKit Go.Kt Go.Kt.V
set_option linter.unusedSimpArgs false
set_option linter.unusedVariables false
set_option maxHeartbeats 4000000
abbrev K3 := Int × List UInt8 × Int
def k3 (t : Tk) : K3 := (t.k, t.t, t.n)
theorem u8_all {p : UInt8 -> Prop} (h : ∀ n : Fin 256, p (UInt8.ofNat n.val)) (c : UInt8) : p c := by
 have := h ⟨c.toNat, c.toNat_lt⟩
 simpa using this
theorem while_app {p : UInt8 -> Bool} {r : List UInt8} (hr : ∀ c, r.head? = some c -> p c = false) : ∀ (l : List UInt8), (∀ c, c ∈ l -> p c = true) -> (l ++ r).takeWhile p = l
 | [], _ => by
  cases r with
  | nil => rfl
  | cons c r => rw [List.nil_append, List.takeWhile_cons, if_neg (by rw [hr c rfl]; decide)]
 | c :: l, hl => by rw [List.cons_append, List.takeWhile_cons, if_pos (hl c (by simp)), while_app hr l fun x hx => hl x (by simp [hx])]
theorem head_app {a b : List UInt8} (h : a ≠ []) : (a ++ b).head? = a.head? := by
 cases a with
 | nil => exact absurd rfl h
 | cons c a => rfl
theorem dec_one {u : Nat} (h : u < 10) : Lib.decDigits u = [UInt8.ofNat (48 + u)] := by rw [Lib.decDigits, dif_pos h]
theorem dec_more {u : Nat} (h : ¬ u < 10) : Lib.decDigits u = Lib.decDigits (u / 10) ++ [UInt8.ofNat (48 + u % 10)] := by rw [Lib.decDigits, dif_neg h]
theorem dig_nat {u : Nat} (h : u < 10) : (UInt8.ofNat (48 + u)).toNat = 48 + u := by
 rw [UInt8.toNat_ofNat']
 omega
theorem dig_b {u : Nat} (h : u < 10) : digitB (UInt8.ofNat (48 + u)) = true := by
 unfold digitB
 rw [dig_nat h]
 simp
 omega
theorem dec_all (u : Nat) : ∀ c, c ∈ Lib.decDigits u -> digitB c = true := by
 induction u using Nat.strongRecOn with
 | _ u ih =>
  intro c hc
  by_cases h : u < 10
  · rw [dec_one h, List.mem_singleton] at hc
    subst hc
    exact dig_b h
  · rw [dec_more h, List.mem_append, List.mem_singleton] at hc
    rcases hc with hc | rfl
    · exact ih (u / 10) (by omega) c hc
    · exact dig_b (Nat.mod_lt _ (by decide))
theorem dec_ne (u : Nat) : Lib.decDigits u ≠ [] := by
 by_cases h : u < 10
 · rw [dec_one h]; simp
 · rw [dec_more h]; simp
theorem decV_snoc1 (a : Nat) (l : List UInt8) (c : UInt8) : decV a (l ++ [c]) = decV a l * 10 + (c.toNat - 48) := by
 simp [decV, List.foldl_append]
theorem dec_val (u : Nat) : decV 0 (Lib.decDigits u) = u := by
 induction u using Nat.strongRecOn with
 | _ u ih =>
  by_cases h : u < 10
  · rw [dec_one h]
    have := dig_nat h
    simp only [decV, List.foldl_cons, List.foldl_nil]
    omega
  · rw [dec_more h, decV_snoc1, ih (u / 10) (by omega), dig_nat (Nat.mod_lt _ (by decide))]
    omega
theorem dec_head (u : Nat) (h0 : 0 < u) : (Lib.decDigits u).head? ≠ some 48 := by
 induction u using Nat.strongRecOn with
 | _ u ih =>
  by_cases h : u < 10
  · rw [dec_one h, List.head?_cons]
    intro e
    injection e with e
    have := congrArg UInt8.toNat e
    rw [dig_nat h] at this
    have h48 : (48 : UInt8).toNat = 48 := rfl
    omega
  · rw [dec_more h, head_app (dec_ne _)]
    exact ih (u / 10) (by omega) (by omega)
theorem dec_len1 (u : Nat) (h : 1 < (Lib.decDigits u).length) : 0 < u := by
 refine Decidable.byContradiction fun hn => ?_
 have : u = 0 := by omega
 subst this
 rw [dec_one (by decide)] at h
 simp at h
theorem digit_word {c : UInt8} (h : digitB c = true) : wordB c = true := by unfold wordB; rw [h, Bool.or_true]
theorem digit_nl {c : UInt8} (h : digitB c = true) : letterB c = false := by
 unfold digitB at h
 unfold letterB
 simp only [Bool.and_eq_true, decide_eq_true_eq] at h
 simp
 omega
theorem itoa_nat {n : Int} (h : 0 <= n) : Lib.itoa n = Lib.decDigits n.toNat := by
 unfold Lib.itoa
 rw [if_neg (by omega)]
theorem num_tok' {n : Int} (h0 : 0 <= n) (h1 : n <= 9223372036854775807) {r : List UInt8} (hr : ∀ c, r.head? = some c -> wordB c = false) : tokR (Lib.itoa n ++ r) = .ok (3, [], n, (Lib.itoa n).length) := by
 rw [itoa_nat h0]
 generalize hu : n.toNat = u
 have hn : n = (u : Int) := by omega
 have hall := dec_all u
 have hne := dec_ne u
 have hw := while_app (p := wordB) hr (Lib.decDigits u) fun c hc => digit_word (hall c hc)
 have hd := while_app (p := digitB) (fun c h => by
  have := hr c h
  unfold wordB at this
  exact (Bool.or_eq_false_iff.1 this).2) (Lib.decDigits u) hall
 have hp : parseM (Lib.decDigits u ++ r) = (u, (Lib.decDigits u).length, 0) := by
  unfold parseM
  rw [hd, dec_val]
  rw [if_neg (by simp [hne]), if_neg, if_pos (by omega)]
  rintro (h | ⟨h2, h3⟩)
  · exact hne h
  · rw [head_app hne] at h3
    exact dec_head u (dec_len1 u h2) h3
 have hnum : numR (Lib.decDigits u ++ r) = .ok (3, [], n, (Lib.decDigits u).length) := by
  unfold numR
  rw [hp, hw, if_neg (by simp), if_neg (by simp), hn]
 generalize hm : Lib.decDigits u = m at *
 cases m with
 | nil => exact absurd rfl hne
 | cons c m =>
  have hc := hall c (by simp)
  have e : tokR (c :: m ++ r) = if letterB c then wordR (c :: m ++ r) else if digitB c then numR (c :: m ++ r) else signR (c :: m ++ r) := rfl
  rw [e, digit_nl hc, hc, if_neg (by decide), if_pos rfl, hnum]
theorem tok_n {l : List UInt8} {i : Nat} {p r : List UInt8} {k : Int} {t : List UInt8} {n : Int} {ts : List Tk} (h : l.drop i = p ++ r) (hp : p ≠ []) (hb : skN false (p ++ r) = 0) (ht : tokR (p ++ r) = .ok (k, t, n, p.length)) (hr : toks l (i + p.length) = .ok ts) : toks l i = .ok (⟨k, t, n, (i : Nat)⟩ :: ts) := by
 have hpl := List.length_pos_iff.2 hp
 have hi : i < l.length := by
  have := congrArg List.length h
  rw [List.length_drop, List.length_append] at this
  omega
 rw [toks_step (by omega), h, hb, Nat.add_zero, if_neg (by omega), h, ht]
 dsimp only
 rw [hr]
theorem drop_app {l : List UInt8} {i : Nat} {p r : List UInt8} (h : l.drop i = p ++ r) : l.drop (i + p.length) = r := by
 rw [<- List.drop_drop, h, List.drop_left]
theorem in_of {l : List UInt8} {i : Nat} {p r : List UInt8} (hi : i <= l.length) (h : l.drop i = p ++ r) : i + p.length <= l.length := by
 have := congrArg List.length h
 rw [List.length_drop, List.length_append] at this
 omega
def txM : Nat -> Ex -> Bool -> List UInt8
 | 0, _, _ => []
 | d + 1, x, wr => clo wr (opn wr [] ++ (
  if x.k = 1 then Lib.itoa x.n
  else if x.k = 2 then x.s
  else if x.k = 3 then [105, 110, 40] ++ x.s ++ [41]
  else if x.k = 4 then (match x.subs with
   | [y] => opTx x.op.toNat ++ txM d y (decide (levM y < 6))
   | _ => [])
  else (match x.subs with
   | [y, z] => txM d y (decide (levM y < levM x)) ++ ([32] ++ opTx x.op.toNat ++ [32]) ++ txM d z (decide (levM z <= levM x))
   | _ => [])))
theorem opn_eq (wr : Bool) (l : List UInt8) : opn wr l = l ++ opn wr [] := by cases wr <;> simp [opn]
theorem clo_eq (wr : Bool) (l m : List UInt8) : clo wr (l ++ m) = l ++ clo wr m := by cases wr <;> simp [clo]
theorem clo_ge (wr : Bool) (l : List UInt8) : l.length <= (clo wr l).length := by cases wr <;> simp [clo]
theorem opn_ge (wr : Bool) (l : List UInt8) : l.length <= (opn wr l).length := by cases wr <;> simp [opn]
theorem pg_ge : ∀ (d : Nat) (x : Ex) (wr : Bool) (l : List UInt8), l.length <= (pgM d x wr l).length
 | 0, _, _, _ => Nat.le_refl _
 | d + 1, x, wr, l => by
  rw [pgM]
  split
  · exact Nat.le_refl _
  refine Nat.le_trans ?_ (clo_ge _ _)
  have h1 := opn_ge wr l
  split
  · rw [List.length_append]; omega
  · split
    · rw [List.length_append]; omega
    · split
      · rw [List.length_append]; omega
      · split
        · split
          · rename_i y _
            have := pg_ge d y (decide (levM y < 6)) (opn wr l ++ opTx x.op.toNat)
            rw [List.length_append] at this
            omega
          · exact Nat.le_refl _
        · split
          · rename_i y z _
            have a1 := pg_ge d y (decide (levM y < levM x)) (opn wr l)
            have a2 := pg_ge d z (decide (levM z <= levM x)) (pgM d y (decide (levM y < levM x)) (opn wr l) ++ ([32] ++ opTx x.op.toNat ++ [32]))
            rw [List.length_append] at a2
            omega
          · exact Nat.le_refl _
theorem pg_tx : ∀ (d : Nat) {x : Ex} (wr : Bool) (l : List UInt8), shapeM d x = true -> (pgM d x wr l).length <= 16384 -> pgM d x wr l = l ++ txM d x wr
 | 0, x, wr, l, h, _ => by cases h
 | d + 1, x, wr, l, h, hl => by
  rw [shapeM, Bool.and_eq_true] at h
  obtain ⟨hh, ha⟩ := h
  have h0 := pg_ge (d + 1) x wr l
  have hc : ¬ 16384 < l.length := by omega
  rw [pgM, if_neg hc] at hl ⊢
  rw [txM, <- clo_eq]
  have hl2 := Nat.le_trans (clo_ge wr _) hl
  congr 1
  by_cases k1 : x.k = 1
  · rw [if_pos k1, if_pos k1, opn_eq wr l, List.append_assoc]
  by_cases k2 : x.k = 2
  · rw [if_neg k1, if_neg k1, if_pos k2, if_pos k2, opn_eq wr l, List.append_assoc]
  by_cases k3 : x.k = 3
  · rw [if_neg k1, if_neg k1, if_neg k2, if_neg k2, if_pos k3, if_pos k3, opn_eq wr l, List.append_assoc]
  by_cases k4 : x.k = 4
  · obtain ⟨y, hy, _⟩ := head4 hh k4
    rw [if_neg k1, if_neg k2, if_neg k3, if_pos k4, hy] at hl2
    rw [if_neg k1, if_neg k1, if_neg k2, if_neg k2, if_neg k3, if_neg k3, if_pos k4, if_pos k4, hy]
    rw [hy] at ha
    dsimp only at hl2 ⊢
    simp only [all1, Bool.and_true] at ha
    rw [pg_tx d _ _ ha hl2, opn_eq wr l]
    simp only [List.append_assoc]
  · obtain ⟨_, y, z, hy, _⟩ := head5 hh k1 k2 k3 k4
    rw [if_neg k1, if_neg k2, if_neg k3, if_neg k4, hy] at hl2
    rw [if_neg k1, if_neg k1, if_neg k2, if_neg k2, if_neg k3, if_neg k3, if_neg k4, if_neg k4, hy]
    rw [hy] at ha
    dsimp only at hl2 ⊢
    simp only [all1, Bool.and_true, Bool.and_eq_true] at ha
    have h1 := pg_ge d z (decide (levM z <= levM x)) (pgM d y (decide (levM y < levM x)) (opn wr l) ++ ([32] ++ opTx x.op.toNat ++ [32]))
    rw [List.length_append] at h1
    rw [pg_tx d _ _ ha.2 hl2, pg_tx d _ _ ha.1 (by omega), opn_eq wr l]
    simp only [List.append_assoc]
def opk (wr : Bool) : List K3 := if wr then [(4, [40], 0)] else []
def clk (wr : Bool) : List K3 := if wr then [(4, [41], 0)] else []
def ptk : Nat -> Ex -> Bool -> List K3
 | 0, _, _ => []
 | d + 1, x, wr => opk wr ++ (
  if x.k = 1 then [(3, [], x.n)]
  else if x.k = 2 then [(1, x.s, 0)]
  else if x.k = 3 then [(2, [105, 110], 0), (4, [40], 0), (1, x.s, 0), (4, [41], 0)]
  else if x.k = 4 then (match x.subs with
   | [y] => (4, opTx x.op.toNat, 0) :: ptk d y (decide (levM y < 6))
   | _ => [])
  else (match x.subs with
   | [y, z] => ptk d y (decide (levM y < levM x)) ++ (4, opTx x.op.toNat, 0) :: ptk d z (decide (levM z <= levM x))
   | _ => [])) ++ clk wr
def startB (c : UInt8) : Bool := letterB c || digitB c || c == 40 || c == 45 || c == 33
theorem start_all : ∀ n : Fin 256, startB (UInt8.ofNat n.val) = true -> blankB (UInt8.ofNat n.val) = false /\ (UInt8.ofNat n.val == 47) = false /\ UInt8.ofNat n.val ≠ 61 /\ UInt8.ofNat n.val ≠ 62 := by decide +kernel
theorem start_ok {c : UInt8} (h : startB c = true) : blankB c = false /\ (c == 47) = false /\ c ≠ 61 /\ c ≠ 62 := u8_all (p := fun c => startB c = true -> blankB c = false /\ (c == 47) = false /\ c ≠ 61 /\ c ≠ 62) start_all c h
def endB (c : UInt8) : Bool := [32, 41, 59, 93, 44, 10].contains c
def endR (r : List UInt8) : Prop := ∀ c, r.head? = some c -> endB c = true
theorem end_all : ∀ n : Fin 256, endB (UInt8.ofNat n.val) = true -> wordB (UInt8.ofNat n.val) = false /\ digitB (UInt8.ofNat n.val) = false /\ UInt8.ofNat n.val ≠ 61 /\ UInt8.ofNat n.val ≠ 62 := by decide +kernel
theorem end_ok {c : UInt8} (h : endB c = true) : wordB c = false /\ digitB c = false /\ c ≠ 61 /\ c ≠ 62 := u8_all (p := fun c => endB c = true -> wordB c = false /\ digitB c = false /\ c ≠ 61 /\ c ≠ 62) end_all c h
theorem endR.word {r : List UInt8} (h : endR r) : ∀ (l : List UInt8), (∀ c, c ∈ l -> wordB c = true) -> (l ++ r).takeWhile wordB = l
 | [], _ => by
  cases r with
  | nil => rfl
  | cons c r =>
   rw [List.nil_append, List.takeWhile_cons, if_neg (by rw [(end_ok (h c rfl)).1]; decide)]
 | c :: l, hl => by
  rw [List.cons_append, List.takeWhile_cons, if_pos (hl c (by simp)), h.word l fun x hx => hl x (by simp [hx])]
theorem num_tok {n : Int} (h0 : 0 <= n) (h1 : n <= 9223372036854775807) {r : List UInt8} (hr : endR r) : tokR (Lib.itoa n ++ r) = .ok (3, [], n, (Lib.itoa n).length) := num_tok' h0 h1 fun c h => (end_ok (hr c h)).1
theorem word_tok {s r : List UInt8} (hn : nameM s = true) (hr : endR r) : tokR (s ++ r) = .ok (1, s, 0, s.length) := by
 unfold nameM at hn
 simp only [Bool.and_eq_true] at hn
 obtain ⟨⟨⟨h1, h2⟩, h3⟩, h4⟩ := hn
 obtain ⟨h1, h5⟩ := of_decide_eq_true h1
 have h3 := of_decide_eq_true h3
 have h4 : wordsL.contains s = false := by simpa using h4
 have hw := hr.word s fun c hc => by rw [<- h3] at hc; exact while_all c hc
 have hwr : wordR (s ++ r) = .ok (1, s, 0, s.length) := by
  unfold wordR
  rw [hw, if_neg (by omega), h4]
  rfl
 cases s with
 | nil => exact absurd rfl h1
 | cons c s =>
  have e : tokR (c :: s ++ r) = if letterB c then wordR (c :: s ++ r) else if digitB c then numR (c :: s ++ r) else signR (c :: s ++ r) := rfl
  have h2 : letterB c = true := h2
  rw [e, h2, if_pos rfl, hwr]
theorem op_tok {op : Nat} (h1 : 1 <= op) (h2 : op <= 13) (r : List UInt8) : tokR (opTx op ++ 32 :: r) = .ok (4, opTx op, 0, (opTx op).length) /\ skN false (opTx op ++ 32 :: r) = 0 := by
 match op, h1, h2 with
 | 1, _, _ => exact ⟨rfl, rfl⟩
 | 2, _, _ => exact ⟨rfl, rfl⟩
 | 3, _, _ => exact ⟨rfl, rfl⟩
 | 4, _, _ => exact ⟨rfl, rfl⟩
 | 5, _, _ => exact ⟨rfl, rfl⟩
 | 6, _, _ => exact ⟨rfl, rfl⟩
 | 7, _, _ => exact ⟨rfl, rfl⟩
 | 8, _, _ => exact ⟨rfl, rfl⟩
 | 9, _, _ => exact ⟨rfl, rfl⟩
 | 10, _, _ => exact ⟨rfl, rfl⟩
 | 11, _, _ => exact ⟨rfl, rfl⟩
 | 12, _, _ => exact ⟨rfl, rfl⟩
 | 13, _, _ => exact ⟨rfl, rfl⟩
theorem tx_head : ∀ (d : Nat) {x : Ex} (wr : Bool), shapeM d x = true -> numOk d x -> ∃ c t, txM d x wr = c :: t /\ startB c = true
 | 0, x, wr, h, _ => by cases h
 | d + 1, x, true, h, _ => ⟨40, _, rfl, by decide⟩
 | d + 1, x, false, h, ⟨hn, hs⟩ => by
  rw [shapeM, Bool.and_eq_true] at h
  obtain ⟨hh, ha⟩ := h
  have e : txM (d + 1) x false = (
  if x.k = 1 then Lib.itoa x.n
  else if x.k = 2 then x.s
  else if x.k = 3 then [105, 110, 40] ++ x.s ++ [41]
  else if x.k = 4 then (match x.subs with
   | [y] => opTx x.op.toNat ++ txM d y (decide (levM y < 6))
   | _ => [])
  else (match x.subs with
   | [y, z] => txM d y (decide (levM y < levM x)) ++ ([32] ++ opTx x.op.toNat ++ [32]) ++ txM d z (decide (levM z <= levM x))
   | _ => [])) := rfl
  rw [e]
  by_cases k1 : x.k = 1
  · rw [if_pos k1]
    have h0 : 0 <= x.n := by
     rw [headM, if_pos k1] at hh
     have := (eqM_t hh).1
     split at this <;> omega
    rw [itoa_nat h0]
    cases hm : Lib.decDigits x.n.toNat with
    | nil => exact absurd hm (dec_ne _)
    | cons c m =>
     have := dec_all x.n.toNat c (by rw [hm]; simp)
     exact ⟨c, m, rfl, by unfold startB; rw [this]; simp⟩
  have name : nameM x.s = true -> ∃ c t, x.s = c :: t /\ startB c = true := fun hn => by
   unfold nameM at hn
   simp only [Bool.and_eq_true] at hn
   obtain ⟨⟨⟨h1, h2⟩, h3⟩, h4⟩ := hn
   cases hs : x.s with
   | nil => rw [hs] at h2; cases h2
   | cons c t =>
    rw [hs] at h2
    have h2 : letterB c = true := h2
    exact ⟨c, t, rfl, by unfold startB; rw [h2]; simp⟩
  by_cases k2 : x.k = 2
  · rw [if_neg k1, if_pos k2]
    exact name (head23 hh (.inl k2))
  by_cases k3 : x.k = 3
  · rw [if_neg k1, if_neg k2, if_pos k3]
    exact ⟨105, _, rfl, by decide⟩
  by_cases k4 : x.k = 4
  · obtain ⟨y, hy, ho⟩ := head4 hh k4
    rw [if_neg k1, if_neg k2, if_neg k3, if_pos k4, hy]
    rcases ho with ho | ho
    · rw [ho]; exact ⟨45, _, rfl, by decide⟩
    · rw [ho]; exact ⟨33, _, rfl, by decide⟩
  · obtain ⟨_, y, z, hy, _⟩ := head5 hh k1 k2 k3 k4
    rw [if_neg k1, if_neg k2, if_neg k3, if_neg k4, hy]
    rw [hy] at ha hs
    simp only [all1, Bool.and_true, Bool.and_eq_true] at ha
    obtain ⟨c, t, h1, h2⟩ := tx_head d (decide (levM y < levM x)) ha.1 (hs y (by simp))
    dsimp only
    rw [h1]
    exact ⟨c, _, rfl, h2⟩
theorem soft_start {r : List UInt8} (h : ∃ c t, r = c :: t /\ startB c = true) : soft r := by
 obtain ⟨c, t, rfl, hs⟩ := h
 intro d hd
 simp only [List.head?_cons, Option.some.injEq] at hd
 subst hd
 exact ⟨(start_ok hs).2.2.1, (start_ok hs).2.2.2⟩
theorem endR.soft {r : List UInt8} (h : endR r) : soft r := fun d hd => (end_ok (h d hd)).2.2
theorem start_app {a b : List UInt8} (h : ∃ c t, a = c :: t /\ startB c = true) : ∃ c t, a ++ b = c :: t /\ startB c = true := by
 obtain ⟨c, t, rfl, hs⟩ := h
 exact ⟨c, t ++ b, rfl, hs⟩
theorem skip1 {l : List UInt8} {i : Nat} {r : List UInt8} (h : l.drop i = 32 :: r) (hr : skN false r = 0) : toks l i = toks l (i + 1) := by
 have hi : i <= l.length := by
  refine Decidable.byContradiction fun hn => ?_
  rw [List.drop_of_length_le (by omega)] at h
  cases h
 rw [toks_skip hi, h, skN, if_pos (by decide), hr]
theorem tx_toks {l : List UInt8} : ∀ (d : Nat) {x : Ex} (wr : Bool) (i : Nat) {r : List UInt8} {ts : List Tk}, shapeM d x = true -> numOk d x -> i <= l.length -> l.drop i = txM d x wr ++ r -> endR r -> toks l (i + (txM d x wr).length) = .ok ts -> ∃ us, toks l i = .ok (us ++ ts) /\ us.map k3 = ptk d x wr
 | 0, x, wr, i, r, ts, h, _, _, _, _, _ => by cases h
 | d + 1, x, wr, i, r, ts, h, ⟨hn, hs⟩, hi, hl, hr, ht => by
  have hsh := h
  rw [shapeM, Bool.and_eq_true] at h
  obtain ⟨hh, ha⟩ := h
  have core : ∀ (i : Nat) {r : List UInt8} {ts : List Tk}, i <= l.length -> l.drop i = txM (d + 1) x false ++ r -> endR r -> toks l (i + (txM (d + 1) x false).length) = .ok ts -> ∃ us, toks l i = .ok (us ++ ts) /\ us.map k3 = ptk (d + 1) x false := by
   intro i r ts hi hl hr ht
   have e : txM (d + 1) x false = (
   if x.k = 1 then Lib.itoa x.n
   else if x.k = 2 then x.s
   else if x.k = 3 then [105, 110, 40] ++ x.s ++ [41]
   else if x.k = 4 then (match x.subs with
    | [y] => opTx x.op.toNat ++ txM d y (decide (levM y < 6))
    | _ => [])
   else (match x.subs with
    | [y, z] => txM d y (decide (levM y < levM x)) ++ ([32] ++ opTx x.op.toNat ++ [32]) ++ txM d z (decide (levM z <= levM x))
    | _ => [])) := rfl
   have e2 : ptk (d + 1) x false = (
   if x.k = 1 then [(3, [], x.n)]
   else if x.k = 2 then [(1, x.s, 0)]
   else if x.k = 3 then [(2, [105, 110], 0), (4, [40], 0), (1, x.s, 0), (4, [41], 0)]
   else if x.k = 4 then (match x.subs with
    | [y] => (4, opTx x.op.toNat, 0) :: ptk d y (decide (levM y < 6))
    | _ => [])
   else (match x.subs with
    | [y, z] => ptk d y (decide (levM y < levM x)) ++ (4, opTx x.op.toNat, 0) :: ptk d z (decide (levM z <= levM x))
    | _ => [])) ++ [] := rfl
   rw [List.append_nil] at e2
   obtain ⟨c0, t0, hc0, hst0⟩ := tx_head (d + 1) false hsh ⟨hn, hs⟩
   have hsk : skN false (txM (d + 1) x false ++ r) = 0 := by
    rw [hc0, List.cons_append]
    exact sk0 (start_ok hst0).1 (start_ok hst0).2.1
   have hne : txM (d + 1) x false ≠ [] := by rw [hc0]; simp
   by_cases k1 : x.k = 1
   · rw [if_pos k1] at e e2
     have h0 : 0 <= x.n := by
      rw [headM, if_pos k1] at hh
      have := (eqM_t hh).1
      split at this <;> omega
     rw [e2]
     exact ⟨[⟨3, [], x.n, (i : Nat)⟩], tok_n hl hne hsk (by rw [e]; exact num_tok h0 hn.2 hr) ht, rfl⟩
   by_cases k2 : x.k = 2
   · rw [if_neg k1, if_pos k2] at e e2
     rw [e2]
     exact ⟨[⟨1, x.s, 0, (i : Nat)⟩], tok_n hl hne hsk (by rw [e]; exact word_tok (head23 hh (.inl k2)) hr) ht, rfl⟩
   by_cases k3' : x.k = 3
   · rw [if_neg k1, if_neg k2, if_pos k3'] at e e2
     have hnm := head23 hh (.inr k3')
     obtain ⟨cs, tss, hcs, hsts⟩ : ∃ c t, x.s = c :: t /\ startB c = true := by
      have hnm' := hnm
      unfold nameM at hnm'
      simp only [Bool.and_eq_true] at hnm'
      obtain ⟨⟨⟨_, h2⟩, _⟩, _⟩ := hnm'
      cases hs : x.s with
      | nil => rw [hs] at h2; cases h2
      | cons c t =>
       rw [hs] at h2
       have h2 : letterB c = true := h2
       exact ⟨c, t, rfl, by unfold startB; rw [h2]; simp⟩
     have a0 : l.drop i = [105, 110] ++ ([40] ++ (x.s ++ ([41] ++ r))) := by rw [hl, e]; simp
     have a1 := drop_app a0
     have a2 := drop_app a1
     have a3 := drop_app a2
     have len : (txM (d + 1) x false).length = 2 + 1 + x.s.length + 1 := by rw [e]; simp; omega
     have ht : toks l (i + ([105, 110] : List UInt8).length + ([40] : List UInt8).length + x.s.length + ([41] : List UInt8).length) = .ok ts := by
      rw [<- ht, len]
      congr 1
      simp only [List.length_cons, List.length_nil]
      omega
     have b3 := tok_n (n := 0) a3 (by simp) (sk0 (by decide) (by decide)) (sign_tok (by decide) (by decide) (by decide) (sign2_soft (by decide) hr.soft)) ht
     have b2 := tok_n (n := 0) (k := 1) (t := x.s) a2 (by rw [hcs]; simp) (by rw [hcs, List.cons_append]; exact sk0 (start_ok hsts).1 (start_ok hsts).2.1) (word_tok hnm fun c hc => by simp only [List.singleton_append, List.head?_cons, Option.some.injEq] at hc; exact hc ▸ rfl) b3
     have b1 := tok_n (n := 0) a1 (by simp) (sk0 (by decide) (by decide)) (sign_tok (by decide) (by decide) (by decide) (sign2_soft (by decide) (soft_start (start_app (a := x.s) (b := [41] ++ r) ⟨cs, tss, hcs, hsts⟩)))) b2
     have b0 := tok_n (n := 0) (k := 2) (t := [105, 110]) a0 (by simp) (sk0 (by decide) (by decide)) rfl b1
     rw [e2]
     exact ⟨[_, _, _, _], b0, rfl⟩
   by_cases k4 : x.k = 4
   · obtain ⟨y, hy, ho⟩ := head4 hh k4
     rw [if_neg k1, if_neg k2, if_neg k3', if_pos k4, hy] at e e2
     dsimp only at e e2
     rw [hy] at ha hs
     simp only [all1, Bool.and_true] at ha
     have hny := hs y (by simp)
     have hst := tx_head d (decide (levM y < 6)) ha hny
     have a0 : l.drop i = opTx x.op.toNat ++ (txM d y (decide (levM y < 6)) ++ r) := by rw [hl, e, List.append_assoc]
     have a1 := drop_app a0
     have ht : toks l (i + (opTx x.op.toNat).length + (txM d y (decide (levM y < 6))).length) = .ok ts := by
      rw [<- ht, e, List.length_append, Nat.add_assoc]
     obtain ⟨us, u1, u2⟩ := tx_toks d (decide (levM y < 6)) _ ha hny (in_of hi a0) a1 hr ht
     have hop : tokR (opTx x.op.toNat ++ (txM d y (decide (levM y < 6)) ++ r)) = .ok (4, opTx x.op.toNat, 0, (opTx x.op.toNat).length) /\ opTx x.op.toNat ≠ [] /\ skN false (opTx x.op.toNat ++ (txM d y (decide (levM y < 6)) ++ r)) = 0 := by
      rcases ho with ho | ho
      · rw [ho]
        exact ⟨sign_tok (c := 45) (by decide) (by decide) (by decide) (sign2_soft (by decide) (soft_start (start_app (a := txM d y (decide (levM y < 6))) (b := r) hst))), by decide, sk0 (by decide) (by decide)⟩
      · rw [ho]
        exact ⟨sign_tok (c := 33) (by decide) (by decide) (by decide) (sign2_soft (by decide) (soft_start (start_app (a := txM d y (decide (levM y < 6))) (b := r) hst))), by decide, sk0 (by decide) (by decide)⟩
     rw [e2]
     exact ⟨⟨4, opTx x.op.toNat, 0, (i : Nat)⟩ :: us, tok_n a0 hop.2.1 hop.2.2 hop.1 u1, by rw [List.map_cons, u2]; rfl⟩
   · obtain ⟨_, y, z, hy, ho1, ho2⟩ := head5 hh k1 k2 k3' k4
     rw [if_neg k1, if_neg k2, if_neg k3', if_neg k4, hy] at e e2
     dsimp only at e e2
     rw [hy] at ha hs
     simp only [all1, Bool.and_true, Bool.and_eq_true] at ha
     have hny := hs y (by simp)
     have hnz := hs z (by simp)
     obtain ⟨cz, tz, hz1, hz2⟩ := tx_head d (decide (levM z <= levM x)) ha.2 hnz
     have hzs : skN false (txM d z (decide (levM z <= levM x)) ++ r) = 0 := by
      rw [hz1, List.cons_append]
      exact sk0 (start_ok hz2).1 (start_ok hz2).2.1
     have hop := op_tok (op := x.op.toNat) (by omega) (by omega) (txM d z (decide (levM z <= levM x)) ++ r)
     have hopn : opTx x.op.toNat ≠ [] := by
      have : ∀ q, q < 14 -> 1 <= q -> opTx q ≠ [] := by decide
      exact this _ (by omega) (by omega)
     have a0 : l.drop i = txM d y (decide (levM y < levM x)) ++ ([32] ++ (opTx x.op.toNat ++ ([32] ++ (txM d z (decide (levM z <= levM x)) ++ r)))) := by rw [hl, e]; simp only [List.append_assoc]
     have a1 := drop_app a0
     have a2 := drop_app a1
     have a3 := drop_app a2
     have a4 := drop_app a3
     have i1 := in_of hi a0
     have i2 := in_of i1 a1
     have i3 := in_of i2 a2
     have i4 := in_of i3 a3
     have ht : toks l (i + (txM d y (decide (levM y < levM x))).length + ([32] : List UInt8).length + (opTx x.op.toNat).length + ([32] : List UInt8).length + (txM d z (decide (levM z <= levM x))).length) = .ok ts := by
      rw [<- ht, e]
      congr 1
      simp only [List.length_append, List.length_cons, List.length_nil]
      omega
     obtain ⟨vs, v1, v2⟩ := tx_toks d (decide (levM z <= levM x)) _ ha.2 hnz i4 a4 hr ht
     have b3 : toks l (i + (txM d y (decide (levM y < levM x))).length + ([32] : List UInt8).length + (opTx x.op.toNat).length) = .ok (vs ++ ts) := by
      exact (skip1 a3 hzs).trans v1
     have b2 := tok_n a2 hopn hop.2 hop.1 b3
     have b1 := (skip1 a1 hop.2).trans b2
     obtain ⟨us, u1, u2⟩ := tx_toks d (decide (levM y < levM x)) i ha.1 hny hi a0 (fun c hc => by simp only [List.singleton_append, List.head?_cons, Option.some.injEq] at hc; exact hc ▸ rfl) b1
     rw [e2]
     exact ⟨us ++ ⟨4, opTx x.op.toNat, 0, _⟩ :: vs, by rw [u1, List.append_assoc]; rfl, by rw [List.map_append, List.map_cons, u2, v2]; rfl⟩
  cases wr with
  | false => exact core i hi hl hr ht
  | true =>
   have e : txM (d + 1) x true = [40] ++ (txM (d + 1) x false ++ [41]) := by
    unfold txM
    simp [clo, opn]
   have e2 : ptk (d + 1) x true = (4, [40], 0) :: (ptk (d + 1) x false ++ [(4, [41], 0)]) := by
    unfold ptk
    simp [opk, clk]
   have hst := tx_head (d + 1) false hsh ⟨hn, hs⟩
   have a0 : l.drop i = [40] ++ (txM (d + 1) x false ++ ([41] ++ r)) := by rw [hl, e]; simp only [List.append_assoc]
   have a1 := drop_app a0
   have a2 := drop_app a1
   have ht : toks l (i + ([40] : List UInt8).length + (txM (d + 1) x false).length + ([41] : List UInt8).length) = .ok ts := by
    rw [<- ht, e]
    congr 1
    simp only [List.length_append, List.length_cons, List.length_nil]
    omega
   have b2 := tok_n (n := 0) a2 (by simp) (sk0 (by decide) (by decide)) (sign_tok (by decide) (by decide) (by decide) (sign2_soft (by decide) hr.soft)) ht
   obtain ⟨us, u1, u2⟩ := core _ (in_of hi a0) a1 (fun c hc => by simp only [List.singleton_append, List.head?_cons, Option.some.injEq] at hc; exact hc ▸ rfl) b2
   have b0 := tok_n (n := 0) a0 (by simp) (sk0 (by decide) (by decide)) (sign_tok (by decide) (by decide) (by decide) (sign2_soft (by decide) (soft_start (start_app (a := txM (d + 1) x false) (b := [41] ++ r) hst)))) u1
   rw [e2]
   refine ⟨⟨4, [40], 0, (i : Nat)⟩ :: (us ++ [⟨4, [41], 0, ((i + ([40] : List UInt8).length + (txM (d + 1) x false).length : Nat) : Int)⟩]), by rw [b0]; simp only [List.cons_append, List.append_assoc, List.nil_append, List.singleton_append], ?_⟩
   rw [List.map_cons, List.map_append, u2]
   rfl
def At (ts : List Tk) (i : Nat) (L : List K3) : Prop := ∀ j q, L[j]? = some q -> k3 (tk ts (i + j)) = q
section
variable {ts : List Tk} {i : Nat} {A B : List K3}
theorem At.left (h : At ts i (A ++ B)) : At ts i A := fun j q hj => h j q (by rw [List.getElem?_append_left (List.getElem?_eq_some_iff.1 hj).1]; exact hj)
theorem At.right (h : At ts i (A ++ B)) : At ts (i + A.length) B := fun j q hj => by
 have := h (A.length + j) q (by rw [List.getElem?_append_right (by omega), Nat.add_sub_cancel_left]; exact hj)
 rwa [<- Nat.add_assoc] at this
theorem At.head {q : K3} (h : At ts i (q :: A)) : (tk ts i).k = q.1 /\ (tk ts i).t = q.2.1 /\ (tk ts i).n = q.2.2 := by
 have := h 0 q rfl
 rw [Nat.add_zero] at this
 rw [<- this]
 exact ⟨rfl, rfl, rfl⟩
theorem At.tail {q : K3} (h : At ts i (q :: A)) : At ts (i + 1) A := fun j p hj => by
 have := h (j + 1) p hj
 rwa [Nat.add_assoc, Nat.add_comm 1 j]
theorem opTx_inj {p q : Nat} (hp : 1 <= p) (hp2 : p <= 13) (hq : 1 <= q) (hq2 : q <= 13) (h : opTx p = opTx q) : p = q := by
 have : ∀ p, p < 14 -> ∀ q, q < 14 -> 1 <= p -> 1 <= q -> opTx p = opTx q -> p = q := by decide
 exact this p (by omega) q (by omega) hp hq h
theorem op_at {op : Nat} (h1 : 1 <= op) (h2 : op <= 13) (hk : (tk ts i).k = 4) (ht : (tk ts i).t = opTx op) (k : Int) : opAt ts k i = if rowOf (op : Int) = k then (op : Int) else 0 := by
 have : ∀ (f q : Nat), 1 <= q -> q + f <= 14 -> opFrom ts k i f q = if q <= op /\ op < q + f /\ rowOf (op : Int) = k then (op : Int) else 0 := by
  intro f
  induction f with
  | zero => intro q _ _; rw [if_neg (by omega)]; rfl
  | succ f ih =>
   intro q hq hf
   rw [opFrom, ih (q + 1) (by omega) (by omega)]
   by_cases he : q = op
   · subst he
     have hs : sg ts i (opTx q) = true := sg_t ⟨hk, ht⟩
     by_cases hr : rowOf (q : Int) = k
     · rw [if_pos ⟨hr, hs⟩, if_pos ⟨Nat.le_refl _, by omega, hr⟩]
     · rw [if_neg (fun h => hr h.1), if_neg (by omega), if_neg (fun h => hr h.2.2)]
   · have hs : ¬ sg ts i (opTx q) = true := fun hs => he (by
      simp only [sg, Bool.and_eq_true, decide_eq_true_eq] at hs
      exact opTx_inj hq (by omega) h1 h2 (by rw [<- ht, hs.2]))
     rw [if_neg (fun h => hs h.2)]
     by_cases hc : q + 1 <= op /\ op < q + 1 + f /\ rowOf (op : Int) = k
     · rw [if_pos hc, if_pos ⟨by omega, by omega, hc.2.2⟩]
     · rw [if_neg hc, if_neg (fun h => hc ⟨by omega, by omega, h.2.2⟩)]
 rw [opAt, this 13 1 (by omega) (by omega)]
 by_cases hr : rowOf (op : Int) = k
 · rw [if_pos hr, if_pos ⟨h1, by omega, hr⟩]
 · rw [if_neg hr, if_neg (fun h => hr h.2.2)]
theorem row_rng {op : Int} (h1 : 1 <= op) (h2 : op <= 13) : 0 <= rowOf op /\ rowOf op <= 5 := by
 unfold rowOf
 split
 · omega
 split
 · omega
 split
 · omega
 split
 · omega
 split
 · omega
 split
 · omega
 · omega
theorem down_ok {f d k0 : Nat} {x : Ex} {j : Nat} (h : exprR ts f k0 d i = .ok (x, j)) (h6 : k0 <= 6) : ∀ (m k : Nat), k + m = k0 -> (∀ q : Int, (k : Int) <= q -> q < (k0 : Int) -> opAt ts q j = 0) -> exprR ts (f + m) k d i = .ok (x, j)
 | 0, k, hk, _ => by
  have : k = k0 := by omega
  subst this
  exact h
 | m + 1, k, hk, h0 => by
  rw [<- Nat.add_assoc, exprR, if_neg (by omega), down_ok h h6 m (k + 1) (by omega) fun q h1 h2 => h0 q (by omega) h2]
  simp only [andR]
  exact loop0 (h0 _ (Int.le_refl _) (by omega)) _
theorem down_err {f d k0 : Nat} {e : Int × Int} (h : exprR ts f k0 d i = .error e) (h6 : k0 <= 6) : ∀ (m k : Nat), k + m = k0 -> exprR ts (f + m) k d i = .error e
 | 0, k, hk => by
  have : k = k0 := by omega
  subst this
  exact h
 | m + 1, k, hk => by
  rw [<- Nat.add_assoc, exprR, if_neg (by omega), down_err h h6 m (k + 1) (by omega)]
  rfl
end
def Ok5 (x : Ex) (j : Nat) (r : Pr) : Prop := (∃ x', r = .ok (x', j) /\ Sim x x') ∨ ∃ a, r = .error (21, a)
theorem Ok5.down {ts : List Tk} {i f d k0 k : Nat} {x : Ex} {j : Nat} (h : Ok5 x j (exprR ts (f - (k0 - k)) k0 d i)) (hf : k0 - k <= f) (h6 : k0 <= 6) (hk : k <= k0) (h0 : ∀ q : Int, (k : Int) <= q -> q < (k0 : Int) -> opAt ts q j = 0) : Ok5 x j (exprR ts f k d i) := by
 have e : f = (f - (k0 - k)) + (k0 - k) := by omega
 rcases h with ⟨x', h1, h2⟩ | ⟨a, h1⟩
 · exact .inl ⟨x', by rw [e]; exact down_ok h1 h6 _ k (by omega) h0, h2⟩
 · exact .inr ⟨a, by rw [e]; exact down_err h1 h6 _ k (by omega)⟩
abbrev PP (ts : List Tk) (d : Nat) : Prop := ∀ {x : Ex} (wr : Bool) (k dd i f : Nat), shapeM d x = true -> At ts i (ptk d x wr) -> k <= 6 -> (wr = false -> (k : Int) <= levM x) -> dd <= 20 -> need k dd <= f -> i + (ptk d x wr).length < ts.length -> (∀ q : Int, (k : Int) <= q -> q <= 5 -> opAt ts q (i + (ptk d x wr).length) = 0) -> Ok5 x (i + (ptk d x wr).length) (exprR ts f k dd i)
abbrev QQ (ts : List Tk) (d : Nat) : Prop := ∀ {x : Ex} (k dd i f : Nat), shapeM d x = true -> x.k = 5 -> (k : Int) = levM x -> At ts i (ptk d x false) -> dd <= 20 -> need k dd <= f + 1 -> i + (ptk d x false).length < ts.length -> (∀ q : Int, (k : Int) < q -> q <= 5 -> opAt ts q (i + (ptk d x false).length) = 0) ->
 (∃ x' g, ts.length - (i + (ptk d x false).length) <= g /\ exprR ts (f + 1) k dd i = loopR ts (exprR ts f (k + 1) dd) k g x' (i + (ptk d x false).length) /\ Sim x x') ∨ ∃ a, exprR ts (f + 1) k dd i = .error (21, a)
theorem ex_eta (x : Ex) : x = .mk x.k x.n x.s x.op x.subs x.a := by cases x; rfl
section
variable {ts : List Tk} {d : Nat}
theorem qq_step (hP : PP ts d) (hQ : QQ ts d) : QQ ts (d + 1) := by
 intro x k dd i f hsh hk5 hkl hat hdd hf hlt h0
 rw [shapeM, Bool.and_eq_true] at hsh
 obtain ⟨hh, ha⟩ := hsh
 obtain ⟨_, y, z, hy, ho1, ho2⟩ := head5 hh (by omega) (by omega) (by omega) (by omega)
 have hnx : x.n = 0 /\ x.s = [] := by
  rw [headM, if_neg (by omega), if_neg (by omega), if_neg (by omega), if_pos hk5, Bool.and_eq_true] at hh
  have := eqM_t hh.2
  exact ⟨this.1, this.2.1⟩
 have hlx : levM x = rowOf x.op := by rw [levM, if_pos hk5]
 obtain ⟨r0, r5⟩ := row_rng ho1 ho2
 have e2 : ptk (d + 1) x false = (ptk d y (decide (levM y < levM x)) ++ (4, opTx x.op.toNat, 0) :: ptk d z (decide (levM z <= levM x))) := by
  rw [ptk, if_neg (by omega), if_neg (by omega), if_neg (by omega), if_neg (by omega), hy]
  simp [opk, clk]
 rw [e2] at hat hlt h0 ⊢
 rw [hy] at ha
 simp only [all1, Bool.and_true, Bool.and_eq_true] at ha
 have hatY := hat.left
 have hatO := hat.right
 have hatZ := hatO.tail
 obtain ⟨t1, t2, _⟩ := hatO.head
 rw [List.length_append, List.length_cons] at hlt h0 ⊢
 generalize hj1 : i + (ptk d y (decide (levM y < levM x))).length = j1 at *
 have hjz : i + ((ptk d y (decide (levM y < levM x))).length + ((ptk d z (decide (levM z <= levM x))).length + 1)) = j1 + 1 + (ptk d z (decide (levM z <= levM x))).length := by omega
 rw [hjz] at hlt h0 ⊢
 generalize hj2 : j1 + 1 + (ptk d z (decide (levM z <= levM x))).length = j2 at *
 have hop : ∀ q : Int, opAt ts q j1 = if rowOf x.op = q then x.op else 0 := fun q => by
  have := op_at (ts := ts) (i := j1) (op := x.op.toNat) (by omega) (by omega) t1 t2 q
  rwa [Int.toNat_of_nonneg (by omega)] at this
 have hex : x = .mk 5 0 [] x.op [y, z] x.a := by
  have := ex_eta x
  rw [hk5, hnx.1, hnx.2, hy] at this
  exact this
 have hneed : need (k + 1) dd <= f := by unfold need at hf ⊢; omega
 have hleft : (∃ y' g, ts.length - j1 <= g /\ exprR ts (f + 1) k dd i = loopR ts (exprR ts f (k + 1) dd) k g y' j1 /\ Sim y y') ∨ ∃ a, exprR ts (f + 1) k dd i = .error (21, a) := by
  by_cases hB : levM y = levM x
  · have hwr : decide (levM y < levM x) = false := decide_eq_false (by omega)
    have hy5 : y.k = 5 := by
     refine Decidable.byContradiction fun hn => ?_
     have : levM y = 6 := by rw [levM, if_neg hn]
     omega
    rw [hwr] at hatY hj1
    have := hQ (x := y) k dd i f ha.1 hy5 (by rw [hB]; exact hkl) hatY hdd hf (by omega) (fun q h1 h2 => by rw [hj1, hop, if_neg (by omega)])
    rw [hj1] at this
    exact this
  · have := hP (x := y) (decide (levM y < levM x)) (k + 1) dd i f ha.1 hatY (by omega) (fun hw => by have := of_decide_eq_false hw; omega) hdd hneed (by omega) (fun q h1 h2 => by rw [hj1, hop, if_neg (by omega)])
    rw [hj1] at this
    rw [exprR, if_neg (by omega)]
    rcases this with ⟨y', h1, h2⟩ | ⟨a, h1⟩
    · exact .inl ⟨y', ts.length - j1, Nat.le_refl _, by rw [h1]; rfl, h2⟩
    · exact .inr ⟨a, by rw [h1]; rfl⟩
 refine hleft.elim (fun ⟨y', g, hg, h1, h2⟩ => ?_) .inr
 obtain ⟨g, rfl⟩ : ∃ m, g = m + 1 := ⟨g - 1, by omega⟩
 have hok : opAt ts (k : Int) j1 = x.op := by rw [hop, if_pos (by omega)]
 have hz := hP (x := z) (decide (levM z <= levM x)) (k + 1) dd (j1 + 1) f ha.2 hatZ (by omega) (fun hw => by have := of_decide_eq_false hw; omega) hdd hneed (by omega) (fun q h1 h2 => by rw [hj2]; exact h0 q (by omega) h2)
 rw [hj2] at hz
 rw [h1, loopR, hok, if_neg (by omega)]
 rcases hz with ⟨z', h3, h4⟩ | ⟨a, h3⟩
 · refine .inl ⟨.mk 5 0 [] x.op [y', z'] y'.a, g, by omega, by rw [h3]; rfl, ?_⟩
   rw [hex]
   exact .two _ _ _ _ _ _ _ _ _ _ h2 h4
 · exact .inr ⟨a, by rw [h3]; rfl⟩
theorem pp_step (hP : PP ts d) (hQ : QQ ts d) : PP ts (d + 1) := by
 have plain : ∀ {x : Ex} (k dd i f : Nat), shapeM (d + 1) x = true -> At ts i (ptk (d + 1) x false) -> k <= 6 -> (k : Int) <= levM x -> dd <= 20 -> need k dd <= f -> i + (ptk (d + 1) x false).length < ts.length -> (∀ q : Int, (k : Int) <= q -> q <= 5 -> opAt ts q (i + (ptk (d + 1) x false).length) = 0) -> Ok5 x (i + (ptk (d + 1) x false).length) (exprR ts f k dd i) := by
  intro x k dd i f hsh hat hk6 hkl hdd hf hlt h0
  have hsh0 := hsh
  rw [shapeM, Bool.and_eq_true] at hsh
  obtain ⟨hh, ha⟩ := hsh
  by_cases hk5 : x.k = 5
  · obtain ⟨_, y, z, hy, ho1, ho2⟩ := head5 hh (by omega) (by omega) (by omega) (by omega)
    have hlx : levM x = rowOf x.op := by rw [levM, if_pos hk5]
    obtain ⟨r0, r5⟩ := row_rng ho1 ho2
    obtain ⟨k0, hk0⟩ : ∃ k0 : Nat, (k0 : Int) = levM x := ⟨(levM x).toNat, by omega⟩
    refine Ok5.down (k0 := k0) ?_ (by unfold need at hf; omega) (by omega) (by omega) fun q h1 h2 => h0 q h1 (by omega)
    obtain ⟨f', hf'⟩ : ∃ m, f - (k0 - k) = m + 1 := ⟨f - (k0 - k) - 1, by unfold need at hf; omega⟩
    rw [hf']
    rcases qq_step hP hQ k0 dd i f' hsh0 hk5 hk0 hat hdd (by unfold need at hf ⊢; omega) hlt (fun q h1 h2 => h0 q (by omega) h2) with ⟨x', g, hg, h1, h2⟩ | h
    · exact .inl ⟨x', by rw [h1]; exact loop0 (h0 _ (by omega) (by omega)) _, h2⟩
    · exact .inr h
  · have hlx : levM x = 6 := by rw [levM, if_neg hk5]
    refine Ok5.down (k0 := 6) ?_ (by unfold need at hf; omega) (by omega) (by omega) fun q h1 h2 => h0 q h1 (by omega)
    obtain ⟨f', hf'⟩ : ∃ m, f - (6 - k) = m + 1 := ⟨f - (6 - k) - 1, by unfold need at hf; omega⟩
    have hneed : (20 - dd) * 8 <= f' := by unfold need at hf; omega
    rw [hf', exprR, if_pos rfl]
    unfold oneR
    by_cases k1 : x.k = 1
    · have e2 : ptk (d + 1) x false = [(3, [], x.n)] := by rw [ptk, if_pos k1]; rfl
      rw [e2] at hat ⊢
      obtain ⟨t1, t2, t3⟩ := hat.head
      dsimp only at t1 t2 t3
      rw [sg_f t2 (by decide), sg_f t2 (by decide), sg_f t2 (by decide), if_neg (by decide), if_neg (by decide), if_pos t1, t3]
      refine .inl ⟨_, rfl, ?_⟩
      rw [headM, if_pos k1] at hh
      obtain ⟨_, b2, b3, b4⟩ := eqM_t hh
      have hs : x.subs = [] := List.eq_nil_of_length_eq_zero (by omega)
      have := ex_eta x
      rw [k1, b2, b3, hs] at this
      rw [this]
      exact .leaf ..
    by_cases k2 : x.k = 2
    · have e2 : ptk (d + 1) x false = [(1, x.s, 0)] := by rw [ptk, if_neg k1, if_pos k2]; rfl
      rw [e2] at hat ⊢
      obtain ⟨t1, t2, t3⟩ := hat.head
      dsimp only at t1 t2 t3
      have hs4 : ∀ s, sg ts i s = false := fun s => by unfold sg; rw [t1]; rfl
      rw [hs4, hs4, hs4, if_neg (by decide), if_neg (by decide), if_neg (by rw [t1]; decide), if_pos t1, t2]
      refine .inl ⟨_, rfl, ?_⟩
      rw [headM, if_neg k1, if_pos (.inl k2), Bool.and_eq_true] at hh
      obtain ⟨b1, b2, b3, b4⟩ := eqM_t hh.2
      have hs : x.subs = [] := List.eq_nil_of_length_eq_zero (by omega)
      have := ex_eta x
      rw [k2, b1, b3, hs] at this
      rw [this]
      exact .leaf ..
    by_cases k3' : x.k = 3
    · have e2 : ptk (d + 1) x false = [(2, [105, 110], 0), (4, [40], 0), (1, x.s, 0), (4, [41], 0)] := by rw [ptk, if_neg k1, if_neg k2, if_pos k3']; rfl
      rw [e2] at hat ⊢
      obtain ⟨t1, t2, t3⟩ := hat.head
      obtain ⟨u1, u2, u3⟩ := hat.tail.head
      obtain ⟨v1, v2, v3⟩ := hat.tail.tail.head
      obtain ⟨p1, p2, p3⟩ := hat.tail.tail.tail.head
      dsimp only at t1 t2 t3 u1 u2 u3 v1 v2 v3 p1 p2 p3
      have hs4 : ∀ s, sg ts i s = false := fun s => by unfold sg; rw [t1]; rfl
      rw [hs4, hs4, hs4, if_neg (by decide), if_neg (by decide), if_neg (by rw [t1]; decide), if_neg (by rw [t1]; decide), if_pos ⟨t1, t2⟩]
      unfold inR
      rw [if_pos (sg_t ⟨u1, u2⟩), if_pos v1, if_pos (sg_t ⟨p1, p2⟩)]
      refine .inl ⟨_, rfl, ?_⟩
      rw [headM, if_neg k1, if_pos (.inr k3'), Bool.and_eq_true] at hh
      obtain ⟨b1, b2, b3, b4⟩ := eqM_t hh.2
      have hs : x.subs = [] := List.eq_nil_of_length_eq_zero (by omega)
      have := ex_eta x
      rw [k3', b1, b3, hs] at this
      have v2 : (tk ts (i + 2)).t = x.s := v2
      rw [v2, this]
      exact .leaf ..
    have k4 : x.k = 4 := Decidable.byContradiction fun k4 => hk5 (head5 hh k1 k2 k3' k4).1
    obtain ⟨y, hy, ho⟩ := head4 hh k4
    have e2 : ptk (d + 1) x false = (4, opTx x.op.toNat, 0) :: ptk d y (decide (levM y < 6)) := by
     rw [ptk, if_neg k1, if_neg k2, if_neg k3', if_pos k4, hy]
     simp [opk, clk]
    rw [e2] at hat hlt ⊢
    rw [hy] at ha
    simp only [all1, Bool.and_true] at ha
    obtain ⟨t1, t2, t3⟩ := hat.head
    dsimp only at t1 t2 t3
    have hor : (sg ts i [45] || sg ts i [33]) = true := by
     rcases ho with ho | ho
     · have : sg ts i [45] = true := sg_t ⟨t1, by rw [t2, ho]; rfl⟩
       rw [this, Bool.true_or]
     · have : sg ts i [33] = true := sg_t ⟨t1, by rw [t2, ho]; rfl⟩
       rw [this, Bool.or_true]
    rw [if_pos hor]
    by_cases h20 : dd = 20
    · exact .inr ⟨(tk ts i).a, by rw [nestR, if_pos h20]; rfl⟩
    rw [nestR, if_neg h20]
    rw [List.length_cons] at hlt ⊢
    have hj : i + ((ptk d y (decide (levM y < 6))).length + 1) = i + 1 + (ptk d y (decide (levM y < 6))).length := by omega
    rw [hj] at hlt ⊢
    have hy6 : levM y <= 6 := by
     unfold levM rowOf
     split
     · split
       · omega
       split
       · omega
       split
       · omega
       split
       · omega
       split
       · omega
       split
       · omega
       · omega
     · omega
    rcases hP (x := y) (decide (levM y < 6)) 6 (dd + 1) (i + 1) f' ha hat.tail (Nat.le_refl _) (fun hw => by have := of_decide_eq_false hw; omega) (by omega) (by unfold need; omega) hlt (fun q h1 h2 => by omega) with ⟨y', h1, h2⟩ | ⟨a, h1⟩
    · refine .inl ⟨_, by rw [h1]; rfl, ?_⟩
      rw [headM, if_neg k1, if_neg (by omega), if_pos k4] at hh
      obtain ⟨b1, b2, b3, b4⟩ := eqM_t hh
      have hop : (if (tk ts i).t = [33] then (15 : Int) else 14) = x.op := by
       rcases ho with ho | ho
       · rw [t2, ho]; rfl
       · rw [t2, ho]; rfl
      have := ex_eta x
      rw [k4, b1, b2, hy] at this
      rw [hop, this]
      exact .one _ _ _ _ _ _ _ _ h2
    · exact .inr ⟨a, by rw [h1]; rfl⟩
 intro x wr k dd i f hsh hat hk6 hkl hdd hf hlt h0
 cases wr with
 | false => exact plain k dd i f hsh hat hk6 (hkl rfl) hdd hf hlt h0
 | true =>
  have e2 : ptk (d + 1) x true = (4, [40], 0) :: (ptk (d + 1) x false ++ [(4, [41], 0)]) := by
   unfold ptk
   simp [opk, clk]
  refine Ok5.down (k0 := 6) ?_ (by unfold need at hf; omega) (by omega) (by omega) fun q h1 h2 => h0 q h1 (by omega)
  rw [e2] at hat hlt ⊢
  obtain ⟨f', hf'⟩ : ∃ m, f - (6 - k) = m + 1 := ⟨f - (6 - k) - 1, by unfold need at hf; omega⟩
  have hneed : (20 - dd) * 8 <= f' := by unfold need at hf; omega
  obtain ⟨t1, t2, t3⟩ := hat.head
  have hin := hat.tail.left
  obtain ⟨p1, p2, p3⟩ := hat.tail.right.head
  dsimp only at t1 t2 t3 p1 p2 p3
  rw [hf', exprR, if_pos rfl]
  unfold oneR
  rw [sg_f t2 (by decide), sg_f t2 (by decide), sg_t ⟨t1, t2⟩, if_neg (by decide), if_pos rfl]
  by_cases h20 : dd = 20
  · exact .inr ⟨(tk ts i).a, by rw [nestR, if_pos h20]⟩
  rw [nestR, if_neg h20]
  rw [List.length_cons, List.length_append, List.length_singleton] at hlt ⊢
  have hj : i + ((ptk (d + 1) x false).length + 1 + 1) = i + 1 + (ptk (d + 1) x false).length + 1 := by omega
  rw [hj] at hlt ⊢
  have hlev : 0 <= levM x := by
   unfold levM rowOf
   split
   · split
     · omega
     split
     · omega
     split
     · omega
     split
     · omega
     split
     · omega
     split
     · omega
     · omega
   · omega
  rcases plain 0 (dd + 1) (i + 1) f' hsh hin (by omega) (by omega) (by omega) (by unfold need; omega) (by omega) (fun q h1 h2 => op_of p2 (by decide) q) with ⟨x', h1, h2⟩ | ⟨a, h1⟩
  · refine .inl ⟨x', ?_, h2⟩
    rw [h1]
    simp only [parR]
    rw [if_pos (sg_t ⟨p1, p2⟩)]
  · exact .inr ⟨a, by rw [h1]; rfl⟩
theorem pp_qq (ts : List Tk) : ∀ d, PP ts d /\ QQ ts d
 | 0 => ⟨(by intro x wr k dd i f h; cases h), (by intro x k dd i f h; cases h)⟩
 | d + 1 => ⟨pp_step (pp_qq ts d).1 (pp_qq ts d).2, qq_step (pp_qq ts d).1 (pp_qq ts d).2⟩
end
theorem back_law {d : Nat} {x : Ex} (hs : shapeM d x = true) (hn : numOk d x) (hr : (readA (pgM d x false [])).2.1 = 0) : (pgM d x false []).length <= 16384 /\ Sim x (readA (pgM d x false [])).1 := by
 have hlen : (pgM d x false []).length <= 16384 := by
  refine Decidable.byContradiction fun hc => ?_
  unfold readA at hr
  have : tokensM (pgM d x false []) = ([], 2, -1) := by rw [tokensM, if_pos (by omega)]
  rw [this, if_pos (by decide)] at hr
  exact absurd hr (show ¬ (2 : Int) = 0 by decide)
 refine ⟨hlen, ?_⟩
 have htx := pg_tx d false [] hs hlen
 rw [List.nil_append] at htx
 rw [htx] at hr hlen ⊢
 generalize hL : txM d x false = L at *
 have hend : toks L (0 + L.length) = .ok [⟨5, [], 0, ((L.length : Nat) : Int)⟩] := by
  have hd : L.drop L.length = [] := List.drop_of_length_le (Nat.le_refl _)
  have h5 : skN false [] = 0 := rfl
  rw [Nat.zero_add, toks_step (Nat.le_refl _), hd, h5, if_pos (by omega)]
  rfl
 obtain ⟨us, h1, h2⟩ := tx_toks (l := L) d (x := x) false 0 (r := []) hs hn (Nat.zero_le _) (by rw [List.drop_zero, List.append_nil, hL]) (fun c hc => by cases hc) (by rw [hL]; exact hend)
 generalize hts : us ++ [(⟨5, [], 0, ((L.length : Nat) : Int)⟩ : Tk)] = ts at *
 have t1 : tokensM L = (ts, 0, 0) := by
  rw [tokensM, if_neg (by omega), h1]
 have hul : us.length = (ptk d x false).length := by rw [<- h2, List.length_map]
 have htl : ts.length = us.length + 1 := by rw [<- hts, List.length_append, List.length_singleton]
 have hat : At ts 0 (ptk d x false) := fun j q hj => by
  rw [<- h2, List.getElem?_map, Option.map_eq_some_iff] at hj
  obtain ⟨t, g1, rfl⟩ := hj
  have : tk ts (0 + j) = t := by
   unfold tk
   rw [<- hts, Nat.zero_add, List.getElem?_append_left (List.getElem?_eq_some_iff.1 g1).1, g1]
   rfl
  rw [this]
 have hke : (tk ts us.length).k = 5 := by
  unfold tk
  rw [<- hts, List.getElem?_append_right (Nat.le_refl _), Nat.sub_self]
  rfl
 have hlev : 0 <= levM x := by
  unfold levM rowOf
  split
  · split
    · omega
    split
    · omega
    split
    · omega
    split
    · omega
    split
    · omega
    split
    · omega
    · omega
  · omega
 have hP := (pp_qq ts d).1 (x := x) false 0 0 0 (need 0 0) hs hat (by decide) (fun _ => by omega) (by decide) (Nat.le_refl _) (by omega) (fun q _ _ => op_end (by rw [Nat.zero_add, <- hul]; exact hke) q)
 have hpr : parseR ts 0 = exprR ts (need 0 0) 0 0 0 := rfl
 rw [<- hpr] at hP
 have hrd : readA L = if (parseA ts 0).2.2.1 ≠ 0 then (ex0, (parseA ts 0).2.2.1, (parseA ts 0).2.2.2) else if (tk ts (parseA ts 0).2.1.toNat).k ≠ 5 then (ex0, 4, (tk ts (parseA ts 0).2.1.toNat).a) else ((parseA ts 0).1, 0, (parseA ts 0).2.2.2) := by
  unfold readA
  rw [t1]
  rfl
 rw [hrd] at hr ⊢
 have hpa : parseA ts 0 = if 0 < ts.length /\ endN ts + 1 = ts.length then (match parseR ts 0 with
  | .error (c, p) => (ex0, 0, c, p)
  | .ok (x, j) => (x, (j : Int), 0, 0)) else (ex0, 0, 1, -1) := by
  unfold parseA
  by_cases hc : 0 < ts.length /\ endN ts + 1 = ts.length
  · rw [if_pos hc, if_pos ⟨Int.le_refl _, by omega, hc.2⟩]
    rfl
  · rw [if_neg hc, if_neg (fun hh => hc ⟨by omega, hh.2.2⟩)]
 rw [hpa] at hr ⊢
 have hc : 0 < ts.length /\ endN ts + 1 = ts.length := Decidable.byContradiction fun hc => by
  rw [if_neg hc, if_pos (by decide)] at hr
  exact absurd hr (show ¬ (1 : Int) = 0 by decide)
 rw [if_pos hc] at hr ⊢
 rcases hP with ⟨x', g1, g2⟩ | ⟨a, g1⟩
 · rw [g1] at hr ⊢
   dsimp only at hr ⊢
   rw [if_neg (by decide), Int.toNat_natCast, Nat.zero_add, <- hul, hke, if_neg (by decide)]
   exact g2
 · rw [g1] at hr
   dsimp only at hr
   rw [if_pos (by decide)] at hr
   exact absurd hr (show ¬ (21 : Int) = 0 by decide)
end Go.Proofs.Ytddfmhccaapgjaa.Con
namespace Go.Proofs.Ytddfmhccaapgjaa.Con
open Go Go.RowKit Go.Kt Go.Kt.V Go.Proofs.Ytddfmhccaapgjaa.Vc
set_option linter.unusedSimpArgs false
set_option linter.unusedVariables false
set_option maxHeartbeats 4000000
def rightM (d : Nat) (x : Ex) : Bool := decide (textM d x ≠ [])
theorem T_apn (l m : List UInt8) : T l ++ T m = T (l ++ m) := by
 apply ByteArray.ext
 simp [T]
theorem rsize_c (w : World) {n : Int} (h0 : 0 <= n) (h1 : n <= 9223372036854775807) : Calls Try.prog 61 #[.int .i64 n] w fun e w' => e = .returned (.int .u64 n) /\ w' = w := by
 refine ret (v23w n (fun v w' => v = .int .u64 n /\ w' = w) w ?_)
 unfold v23v
 refine ⟨fun hc => absurd (of_decide_eq_true hc) (by omega), fun _ => ⟨?_, rfl⟩⟩
 have : IntKind.wrap .u64 n = n := by
  have e : IntKind.wrap .u64 n = n % 18446744073709551616 := rfl
  rw [e]
  omega
 rw [this]
theorem dec_len_le (u : Nat) (h : u <= 18446744073709551615) : (Lib.decDigits u).length <= 40 := by
  have key : ∀ (k u : Nat), u < 10 ^ (k + 1) -> (Lib.decDigits u).length <= k + 1 := by
    intro k
    induction k with
    | zero => intro u hu; rw [dec_one (by simpa using hu)]; simp
    | succ k ih =>
      intro u hu
      by_cases h10 : u < 10
      · rw [dec_one h10]; simp
      · rw [dec_more h10, List.length_append, List.length_singleton]
        have := ih (u / 10) (by rw [Nat.div_lt_iff_lt_mul (by decide)]; rw [Nat.pow_succ] at hu; exact hu)
        omega
  have := key 19 u (by have : (10 : Nat) ^ (19 + 1) = 100000000000000000000 := by decide
                       omega)
  omega
theorem rdigits_c : ∀ (u : Nat) (w : World), u <= 18446744073709551615 -> Calls Try.prog 60 #[.int .u64 (u : Int)] w fun e w' => e = .returned (.string (T (if u = 0 then [] else Lib.decDigits u))) /\ Only [] w w' := by
 intro u
 induction u using Nat.strongRecOn with
 | _ u ih =>
  intro w hu
  refine ret (v22w (u : Int) (fun v w' => v = .string (T (if u = 0 then [] else Lib.decDigits u)) /\ Only [] w w') w ?_)
  unfold v22v
  refine ⟨fun hc => ?_, fun hc => ⟨fun s w' => s = T (Lib.decDigits u) /\ Only [] w w', fun s w' h => ?_, fun w1 hO1 => ⟨fun k => w1.heap.size <= k, ?_, ?_⟩⟩⟩
  · have hc : u = 0 := by
     have : (u : Int) = 0 := by simpa using hc
     omega
    rw [if_pos hc]
    exact ⟨rfl, Only.refl _ _⟩
  · have hc : u ≠ 0 := fun e => by subst e; simp at hc
    rw [if_neg hc, h.1]
    exact ⟨rfl, h.2⟩
  all_goals
   have hc : u ≠ 0 := fun e => by subst e; simp at hc
   have wu : ∀ m : Nat, m <= 18446744073709551615 -> IntKind.wrap .u64 (m : Int) = (m : Int) := fun m hm => by
    have e : IntKind.wrap .u64 (m : Int) = (m : Int) % 18446744073709551616 := rfl
    rw [e]
    omega
   have e1 : IntKind.wrap .u64 ((u : Int).tdiv 10) = ((u / 10 : Nat) : Int) := by
    have : (u : Int).tdiv 10 = ((u / 10 : Nat) : Int) := by
     rw [Int.tdiv_eq_ediv_of_nonneg (Int.natCast_nonneg u)]
     rfl
    rw [this, wu _ (by omega)]
   have hm : (UInt8.ofNat (48 + u % 10)).toNat = 48 + u % 10 := dig_nat (Nat.mod_lt _ (by decide))
   have e2 : IntKind.wrap .u8 (IntKind.wrap .u64 (48 + ((u : Int).tmod 10))) = ((UInt8.ofNat (48 + u % 10)).toNat : Int) := by
    have h1 : (48 + ((u : Int).tmod 10)) = ((48 + u % 10 : Nat) : Int) := by
     rw [Int.tmod_eq_emod_of_nonneg (Int.natCast_nonneg u)]
     omega
    rw [h1, wu _ (by omega), hm]
    have e : IntKind.wrap .u8 ((48 + u % 10 : Nat) : Int) = ((48 + u % 10 : Nat) : Int) % 256 := rfl
    rw [e]
    omega
   have e3 : T (if u / 10 = 0 then [] else Lib.decDigits (u / 10)) ++ T [UInt8.ofNat (48 + u % 10)] = T (Lib.decDigits u) := by
    rw [T_apn]
    by_cases h10 : u < 10
    · rw [if_pos (by omega), dec_one h10, List.nil_append]
      congr 3
      omega
    · rw [if_neg (by omega), <- dec_more h10]
   have hlen : (if u / 10 = 0 then [] else Lib.decDigits (u / 10)).length <= 100 := by
    split
    · simp
    · have := dec_len_le (u / 10) (by omega)
      omega
   rw [e1, e2]
  · refine (ih (u / 10) (by omega) w1 (by omega)).mono ?_
    rintro _ w2 ⟨rfl, hO2⟩
    obtain ⟨y, w3, k1, k2, k3, _⟩ := buildB w2 [UInt8.ofNat (48 + u % 10)] (n := 1) (parts := #[(0, .int .u8 ((UInt8.ofNat (48 + u % 10)).toNat : Int))]) rfl rfl (by decide) (by decide)
    refine ⟨_, rfl, Keeps.only hO2, y, w3, k1, Keeps.only k3, [UInt8.ofNat (48 + u % 10)], (SliceF.bytes (flatB k2)).rd, ?_, e3, (hO1.tr0 hO2).tr0 k3⟩
    have : (ByteArray.mk [UInt8.ofNat (48 + u % 10)].toArray).size = 1 := rfl
    rw [T_size]
    omega
  · obtain ⟨y, w4, k1, k2, k3, ka⟩ := buildB w1 [UInt8.ofNat (48 + u % 10)] (n := 1) (parts := #[(0, .int .u8 ((UInt8.ofNat (48 + u % 10)).toNat : Int))]) rfl rfl (by decide) (by decide)
    refine ⟨y, w4, k1, Keeps.only k3, [UInt8.ofNat (48 + u % 10)], fun p hp => ?_, (SliceF.bytes (flatB k2)).rd, (ih (u / 10) (by omega) w4 (by omega)).mono ?_⟩
    · rw [ka] at hp
      injection hp with hp
      subst hp
      exact Nat.le_refl _
    · rintro _ w5 ⟨rfl, hO5⟩
      refine ⟨_, rfl, Keeps.only hO5, ?_, e3, (hO1.tr0 k3).tr0 hO5⟩
      have : (ByteArray.mk [UInt8.ofNat (48 + u % 10)].toArray).size = 1 := rfl
      rw [T_size]
      omega
theorem rnum_c (w : World) {n : Int} (h0 : 0 <= n) (h1 : n <= 9223372036854775807) : Calls Try.prog 52 #[.int .i64 n] w fun e w' => e = .returned (.string (T (Lib.itoa n))) /\ Only [] w w' := by
 refine ret (v21w n (fun v w' => v = .string (T (Lib.itoa n)) /\ Only [] w w') w ?_)
 unfold v21v
 refine ⟨fun hc => ?_, fun hc => ⟨fun hneg => absurd (of_decide_eq_true hneg) (by omega), fun _ => (rsize_c w h0 h1).mono ?_⟩⟩
 · have hc : n = 0 := by simpa using hc
   subst hc
   rw [itoa_nat (Int.le_refl _), Int.toNat_zero, dec_one (by decide)]
   exact ⟨rfl, Only.refl _ _⟩
 · have hc : n ≠ 0 := by simpa using hc
   rintro _ w2 ⟨rfl, rfl⟩
   obtain ⟨u, rfl⟩ : ∃ u : Nat, n = (u : Int) := ⟨n.toNat, by omega⟩
   refine ⟨_, rfl, (rdigits_c u _ (by omega)).mono ?_⟩
   rintro _ w3 ⟨rfl, hO3⟩
   refine ⟨_, rfl, ?_, hO3⟩
   rw [if_neg (by omega), itoa_nat h0, Int.toNat_natCast]
def putM (l m : List UInt8) : List UInt8 := if l.length <= 16384 then l ++ m else l
def popn (wr : Bool) (l : List UInt8) : List UInt8 := if wr then putM l [40] else l
def pclo (wr : Bool) (l : List UInt8) : List UInt8 := if wr then putM l [41] else l
def rgM : Nat -> Ex -> List UInt8 -> List UInt8
 | 0, _, l => l
 | d + 1, x, l => if 16384 < l.length then l else
  if x.k = 1 then putM l (Lib.itoa x.n)
  else if x.k = 2 then putM l x.s
  else if x.k = 3 then putM l ([105, 110, 40] ++ x.s ++ [41])
  else if x.k = 4 then (match x.subs with
   | [y] => pclo (y.k == 5) (rgM d y (popn (y.k == 5) (putM l (opTx x.op.toNat))))
   | _ => l)
  else (match x.subs with
   | [y, z] => pclo (decide (levM z <= levM x)) (rgM d z (popn (decide (levM z <= levM x)) (putM (pclo (decide (levM y < levM x)) (rgM d y (popn (decide (levM y < levM x)) l))) ([32] ++ opTx x.op.toNat ++ [32]))))
   | _ => l)
def Law5 (l t r : List UInt8) : Prop := (l.length + t.length <= 16384 -> r = l ++ t) /\ (16384 < l.length + t.length -> 16384 < r.length)
theorem Law5.put (l m : List UInt8) : Law5 l m (putM l m) := by
 unfold putM
 refine ⟨fun h => by rw [if_pos (by omega)], fun h => ?_⟩
 by_cases hl : l.length <= 16384
 · rw [if_pos hl, List.length_append]; omega
 · rw [if_neg hl]; omega
theorem Law5.trans {l t r t' r' : List UInt8} (h : Law5 l t r) (k : Law5 r t' r') : Law5 l (t ++ t') r' := by
 refine ⟨fun hh => ?_, fun hh => ?_⟩
 · rw [List.length_append] at hh
   have e := h.1 (by omega)
   rw [e] at k
   rw [k.1 (by rw [List.length_append]; omega), List.append_assoc]
 · rw [List.length_append] at hh
   by_cases h1 : l.length + t.length <= 16384
   · have e := h.1 h1
     refine k.2 ?_
     rw [e, List.length_append]
     omega
   · have := h.2 (by omega)
     exact k.2 (by omega)
theorem Law5.refl (l : List UInt8) : Law5 l [] l := ⟨fun _ => by simp, fun h => by simpa using h⟩
theorem Law5.long {l t : List UInt8} (h : 16384 < l.length) : Law5 l t l := ⟨fun hh => by omega, fun _ => h⟩
theorem Law5.opn (wr : Bool) (l : List UInt8) : Law5 l (if wr then [40] else []) (popn wr l) := by
 cases wr with
 | true => exact Law5.put _ _
 | false => exact Law5.refl _
theorem Law5.clo (wr : Bool) (l : List UInt8) : Law5 l (if wr then [41] else []) (pclo wr l) := by
 cases wr with
 | true => exact Law5.put _ _
 | false => exact Law5.refl _
theorem tx_wrap (d : Nat) (x : Ex) (wr : Bool) : txM (d + 1) x wr = (if wr then [40] else []) ++ (txM (d + 1) x false ++ (if wr then [41] else [])) := by
 unfold txM
 cases wr with
 | true => simp [clo, opn]
 | false => simp [clo, opn]
theorem tx_wrap' {d : Nat} {x : Ex} (h : shapeM d x = true) (wr : Bool) : txM d x wr = (if wr then [40] else []) ++ (txM d x false ++ (if wr then [41] else [])) := by
 cases d with
 | zero => cases h
 | succ d => exact tx_wrap d x wr
theorem lev_6 {d : Nat} {y : Ex} (h : shapeM d y = true) : decide (levM y < 6) = (y.k == 5) := by
 cases d with
 | zero => cases h
 | succ d =>
  rw [shapeM, Bool.and_eq_true] at h
  rw [Bool.eq_iff_iff]
  simp only [decide_eq_true_eq, beq_iff_eq]
  constructor
  · intro hh
    refine Decidable.byContradiction fun hn => ?_
    rw [levM, if_neg hn] at hh
    omega
  · intro hh
    obtain ⟨_, y', z', _, o1, o2⟩ := head5 h.1 (by omega) (by omega) (by omega) (by omega)
    rw [levM, if_pos hh]
    have := (row_rng o1 o2).2
    omega
theorem rg_law : ∀ (d : Nat) {x : Ex} (l : List UInt8), shapeM d x = true -> Law5 l (txM d x false) (rgM d x l)
 | 0, x, l, h => by cases h
 | d + 1, x, l, h => by
  rw [shapeM, Bool.and_eq_true] at h
  obtain ⟨hh, ha⟩ := h
  have e : txM (d + 1) x false = (
  if x.k = 1 then Lib.itoa x.n
  else if x.k = 2 then x.s
  else if x.k = 3 then [105, 110, 40] ++ x.s ++ [41]
  else if x.k = 4 then (match x.subs with
   | [y] => opTx x.op.toNat ++ txM d y (decide (levM y < 6))
   | _ => [])
  else (match x.subs with
   | [y, z] => txM d y (decide (levM y < levM x)) ++ ([32] ++ opTx x.op.toNat ++ [32]) ++ txM d z (decide (levM z <= levM x))
   | _ => [])) := rfl
  rw [rgM]
  by_cases hl : 16384 < l.length
  · rw [if_pos hl]; exact Law5.long hl
  rw [if_neg hl, e]
  have part : ∀ {y : Ex} (wr : Bool) (l : List UInt8), shapeM d y = true -> Law5 l (txM d y wr) (pclo wr (rgM d y (popn wr l))) := fun {y} wr l hy => by
   rw [tx_wrap' hy wr]
   exact (Law5.opn wr l).trans ((rg_law d _ hy).trans (Law5.clo wr _))
  by_cases k1 : x.k = 1
  · rw [if_pos k1, if_pos k1]; exact Law5.put _ _
  by_cases k2 : x.k = 2
  · rw [if_neg k1, if_neg k1, if_pos k2, if_pos k2]; exact Law5.put _ _
  by_cases k3 : x.k = 3
  · rw [if_neg k1, if_neg k1, if_neg k2, if_neg k2, if_pos k3, if_pos k3]; exact Law5.put _ _
  by_cases k4 : x.k = 4
  · obtain ⟨y, hy, _⟩ := head4 hh k4
    rw [if_neg k1, if_neg k1, if_neg k2, if_neg k2, if_neg k3, if_neg k3, if_pos k4, if_pos k4, hy]
    rw [hy] at ha
    simp only [all1, Bool.and_true] at ha
    dsimp only
    rw [lev_6 ha]
    exact (Law5.put _ _).trans (part _ _ ha)
  · obtain ⟨_, y, z, hy, _⟩ := head5 hh k1 k2 k3 k4
    rw [if_neg k1, if_neg k1, if_neg k2, if_neg k2, if_neg k3, if_neg k3, if_neg k4, if_neg k4, hy]
    rw [hy] at ha
    simp only [all1, Bool.and_true, Bool.and_eq_true] at ha
    exact ((part _ _ ha.1).trans (Law5.put _ _)).trans (part _ _ ha.2)
theorem pg_law {d : Nat} {x : Ex} (h : shapeM d x = true) : ∀ (wr : Bool) (l : List UInt8), l.length + (txM d x wr).length <= 16384 -> pgM d x wr l = l ++ txM d x wr := by
 induction d generalizing x with
 | zero => cases h
 | succ d ih =>
  intro wr l hlen
  rw [shapeM, Bool.and_eq_true] at h
  obtain ⟨hh, ha⟩ := h
  have hc : ¬ 16384 < l.length := by omega
  rw [pgM, if_neg hc]
  rw [txM] at hlen ⊢
  rw [<- clo_eq]
  have hge := clo_ge wr (opn wr [] ++ (
  if x.k = 1 then Lib.itoa x.n
  else if x.k = 2 then x.s
  else if x.k = 3 then [105, 110, 40] ++ x.s ++ [41]
  else if x.k = 4 then (match x.subs with
   | [y] => opTx x.op.toNat ++ txM d y (decide (levM y < 6))
   | _ => [])
  else (match x.subs with
   | [y, z] => txM d y (decide (levM y < levM x)) ++ ([32] ++ opTx x.op.toNat ++ [32]) ++ txM d z (decide (levM z <= levM x))
   | _ => [])))
  have hl2 := Nat.le_trans (Nat.add_le_add_left hge l.length) hlen
  clear hge hlen
  congr 1
  by_cases k1 : x.k = 1
  · rw [if_pos k1, if_pos k1, opn_eq wr l, List.append_assoc]
  by_cases k2 : x.k = 2
  · rw [if_neg k1, if_neg k1, if_pos k2, if_pos k2, opn_eq wr l, List.append_assoc]
  by_cases k3 : x.k = 3
  · rw [if_neg k1, if_neg k1, if_neg k2, if_neg k2, if_pos k3, if_pos k3, opn_eq wr l, List.append_assoc]
  by_cases k4 : x.k = 4
  · obtain ⟨y, hy, _⟩ := head4 hh k4
    rw [if_neg k1, if_neg k2, if_neg k3, if_pos k4, hy] at hl2
    rw [if_neg k1, if_neg k1, if_neg k2, if_neg k2, if_neg k3, if_neg k3, if_pos k4, if_pos k4, hy]
    rw [hy] at ha
    dsimp only at hl2 ⊢
    simp only [all1, Bool.and_true] at ha
    simp only [List.length_append] at hl2
    rw [ih ha _ _ (by rw [opn_eq wr l]; simp only [List.length_append]; omega), opn_eq wr l]
    simp only [List.append_assoc]
  · obtain ⟨_, y, z, hy, _⟩ := head5 hh k1 k2 k3 k4
    rw [if_neg k1, if_neg k2, if_neg k3, if_neg k4, hy] at hl2
    rw [if_neg k1, if_neg k1, if_neg k2, if_neg k2, if_neg k3, if_neg k3, if_neg k4, if_neg k4, hy]
    rw [hy] at ha
    dsimp only at hl2 ⊢
    simp only [all1, Bool.and_true, Bool.and_eq_true] at ha
    simp only [List.length_append] at hl2
    have e1 : pgM d y (decide (levM y < levM x)) (opn wr l) = opn wr l ++ txM d y (decide (levM y < levM x)) := ih ha.1 _ _ (by rw [opn_eq wr l]; simp only [List.length_append]; omega)
    rw [e1, ih ha.2 _ _ (by rw [opn_eq wr l]; simp only [List.length_append]; omega), opn_eq wr l]
    simp only [List.append_assoc]
theorem text_same {d : Nat} {x : Ex} (hs : shapeM d x = true) (hn : numOk d x) : textM d x = (if 16384 < (rgM d x []).length ∨ (readA (rgM d x [])).2.1 ≠ 0 then [] else rgM d x []) /\ ((readA (rgM d x [])).2.1 = 0 -> (rgM d x []).length <= 16384 -> rgM d x [] = pgM d x false []) := by
 have hr := rg_law d (x := x) [] hs
 unfold Law5 at hr
 rw [List.length_nil, Nat.zero_add, List.nil_append] at hr
 have long : ∀ l : List UInt8, 16384 < l.length -> (readA l).2.1 ≠ 0 := fun l h => by
  have : tokensM l = ([], 2, -1) := by rw [tokensM, if_pos h]
  unfold readA
  rw [this, if_pos (by decide)]
  exact (by decide : (2 : Int) ≠ 0)
 by_cases ht : (txM d x false).length <= 16384
 · have e1 := hr.1 ht
   have e2 : pgM d x false [] = txM d x false := by
    have := pg_law hs false [] (by rw [List.length_nil]; omega)
    rwa [List.nil_append] at this
   rw [e1, textM, if_pos hs, e2]
   refine ⟨?_, fun _ _ => rfl⟩
   by_cases hc : (readA (txM d x false)).2.1 ≠ 0
   · rw [if_pos hc, if_pos (.inr hc)]
   · rw [if_neg hc, if_neg (by rintro (h | h); omega; exact hc h)]
 · have h1 := hr.2 (by omega)
   have h2 : 16384 < (pgM d x false []).length := by
    refine Decidable.byContradiction fun hn => ?_
    have := pg_tx d false [] hs (by omega)
    rw [List.nil_append] at this
    rw [this] at hn
    omega
   refine ⟨?_, fun _ h => by omega⟩
   rw [if_pos (.inl h1), textM, if_pos hs, if_pos (long _ h2)]
theorem put_le (l m : List UInt8) {K : Nat} (hm : m.length <= 40) (hl : l.length <= K) (hK : 16424 <= K) : (putM l m).length <= K := by
 unfold putM
 split
 · rw [List.length_append]; omega
 · exact hl
theorem opn_le (wr : Bool) (l : List UInt8) {K : Nat} (hl : l.length <= K) (hK : 16424 <= K) : (popn wr l).length <= K := by
 cases wr with
 | true => exact put_le _ _ (by decide) hl hK
 | false => exact hl
theorem clo_le (wr : Bool) (l : List UInt8) {K : Nat} (hl : l.length <= K) (hK : 16424 <= K) : (pclo wr l).length <= K := by
 cases wr with
 | true => exact put_le _ _ (by decide) hl hK
 | false => exact hl
theorem rg_le : ∀ (d : Nat) {x : Ex} (l : List UInt8) {K : Nat}, shapeM d x = true -> numOk d x -> l.length <= K -> 16424 <= K -> (rgM d x l).length <= K
 | 0, x, l, K, h, _, _, _ => by cases h
 | d + 1, x, l, K, h, ⟨hn, hs⟩, hl, hK => by
  rw [shapeM, Bool.and_eq_true] at h
  obtain ⟨hh, ha⟩ := h
  rw [rgM]
  split
  · exact hl
  split
  · exact put_le _ _ (by have := Lib.itoa_length_le x.n hn.1 hn.2; omega) hl hK
  · split
    · rename_i hk
      exact put_le _ _ (by have := name_len (head23 hh (.inl hk)); omega) hl hK
    · split
      · rename_i hk
        refine put_le _ _ ?_ hl hK
        have := name_len (head23 hh (.inr hk))
        rw [List.length_append, List.length_append]
        simp only [List.length_cons, List.length_nil]
        omega
      · split
        · rename_i hk
          obtain ⟨y, hy, _⟩ := head4 hh hk
          rw [hy] at ha hs ⊢
          simp only [all1, Bool.and_true] at ha
          have := opTx_len x.op.toNat
          exact clo_le _ _ (rg_le d _ ha (hs y (by simp)) (opn_le _ _ (put_le _ _ (by omega) hl hK) hK) hK) hK
        · rename_i k1 k2 k3 k4
          obtain ⟨hk, y, z, hy, _⟩ := head5 hh k1 k2 k3 k4
          rw [hy] at ha hs ⊢
          simp only [all1, Bool.and_true, Bool.and_eq_true] at ha
          have := opTx_len x.op.toNat
          exact clo_le _ _ (rg_le d _ ha.2 (hs z (by simp)) (opn_le _ _ (put_le _ _ (by rw [List.length_append, List.length_append]; simp only [List.length_cons, List.length_nil]; omega) (clo_le _ _ (rg_le d _ ha.1 (hs y (by simp)) (opn_le _ _ hl hK) hK) hK) hK) hK) hK) hK
structure Pq (w : World) (b : Nat) (sl : Sl) (l : List UInt8) : Prop where
 blk : Blk w b 127 [sl.v]
 buf : Bf w (b + 1) sl l
section
variable {w w0 w1 w2 w' : World} {b k0 : Nat} {sl sl' sl'' : Sl} {l : List UInt8}
theorem Pq.only (h : Pq w b sl l) (hO : Only [] w w') : Pq w' b sl l := ⟨hO.blk h.blk (by simp), h.buf.keep fun g _ hl => hO.block g hl (by simp)⟩
theorem Pq.lb (h : Pq w b sl l) : b < w.heap.size := h.blk.lt
theorem Mvd.sm (M : Mvd b sl w0 sl' w1) (h1 : k0 ≠ b) (h2 : sl.a ≠ some ⟨k0, 0, none⟩) (h3 : k0 < w0.heap.size) (S : Mvd b sl' w1 sl'' w2) : Same [k0] w1 w2 := S.same h1 (fun e => by
 rcases M.2 k0 e with e | e
 · exact h2 e
 · omega) (by have := M.1.size; omega)
theorem Pq.far (h : Pq w0 b sl l) {k : Nat} (hk : k < b) : ¬ (k = b ∨ sl.a = some ⟨k, 0, none⟩) := by
 rintro (e | e)
 · omega
 · have := (h.buf.lt e).1; omega
theorem Mvd.kp (M : Mvd b sl w0 sl' w1) (h : Pq w0 b sl l) (h1 : k0 ≠ b) (h2 : sl.a ≠ some ⟨k0, 0, none⟩) (h3 : k0 < w0.heap.size) (S : Mvd b sl' w1 sl'' w2) : Keeps (fun k => k < b ∨ k = k0) w1 w2 := fun k hk hlt => S.1.block k hlt fun hh => by
 have hb := h.lb
 rcases hk with hk | rfl
 · rcases hh with e | e
   · omega
   · rcases M.2 k e with e | e
     · exact h.far hk (.inr e)
     · omega
 · rcases hh with e | e
   · exact h1 e
   · rcases M.2 k e with e | e
     · exact h2 e
     · omega
theorem put_c (h : Pq w b sl l) (m : List UInt8) (hm : l.length + m.length <= 140737488355328) : Calls Try.prog 85 #[.pointer (some ⟨b, 0, none⟩), .string (T m)] w fun e w' => ∃ sl', e = .returned (.tuple #[]) /\ Pq w' b sl' (putM l m) /\ Mvd b sl w sl' w' := by
 refine (v42w ⟨b, 0, none⟩ (T m) (fun v w' => ∃ sl', v = .tuple #[] /\ Pq w' b sl' (putM l m) /\ Mvd b sl w sl' w') w ?_).mono (by
  rintro e w' ⟨v, rfl, s, rfl, h⟩; exact ⟨s, rfl, h⟩)
 unfold v42v
 have hn := h.buf.len
 have hb := h.lb
 refine ⟨sl, Blk.at1 h.blk 0 rfl, fun hc => ?_, fun hc => ⟨sl, rfl, ?_, Mvd.refl _ _ _⟩⟩
 · have hc : l.length <= 16384 := by have := of_decide_eq_true hc; omega
   obtain ⟨s', w1, k1, k2, k3, k4⟩ := app_str h.buf m (by omega) hm
   have hB1 := k3.blk h.blk fun e => by have := (h.buf.lt e).1; omega
   have hs' : ∀ g, s'.a = some ⟨g, 0, none⟩ -> b < g := fun g hg => by
    rcases k4 with e | e
    · rw [e] at hg; exact (h.buf.lt hg).1
    · rw [e] at hg; injection hg with hg; injection hg with hg; omega
   refine ⟨sl, Blk.at1 h.blk 0 rfl, s', w1, k1, b, 0, _, _, rfl, hB1, by simp, fun w2 hO2 hB2 => ⟨s', rfl, ⟨hB2, ?_⟩, ?_, ?_⟩⟩
   · rw [putM, if_pos hc]
     exact k2.keep fun g hg hl => hO2.block g hl (by have := hs' g hg; simp; omega)
   · exact (k3.mono fun k _ hk => .inr hk).trans (hO2.p (F := fun k => k = b) fun x hx => .inl (by simpa using hx)) fun k hk => .inl (.inl hk)
   · intro k hk
     rcases k4 with e | e
     · rw [e] at hk; exact .inl hk
     · rw [e] at hk; injection hk with hk; injection hk with hk; exact .inr (by omega)
 · have hc : ¬ l.length <= 16384 := by have := of_decide_eq_false hc; omega
   rw [putM, if_neg hc]
   exact h
end
abbrev RgC (d : Nat) : Prop := ∀ {F : Nat -> Prop} {w : World} {b : Nat} {sl : Sl} {l : List UInt8} {x : Ex} {cs : List Value}, shapeM d x = true -> numOk d x -> rEx d w F x cs -> (∀ k, F k -> k < b) -> Pq w b sl l -> l.length <= 16424 ->
 Calls Try.prog 81 #[.pointer (some ⟨b, 0, none⟩), .agg cs.toArray] w fun e w' => ∃ sl', e = .returned (.tuple #[]) /\ Pq w' b sl' (rgM d x l) /\ Mvd b sl w sl' w'
theorem part_c5 {d : Nat} (hR : RgC d) {F : Nat -> Prop} {w : World} {b : Nat} {sl : Sl} {l : List UInt8} {x : Ex} {cs : List Value} (wr : Bool) (hs : shapeM d x = true) (hn : numOk d x) (hx : rEx d w F x cs) (hF : ∀ k, F k -> k < b) (hP : Pq w b sl l) (hl : l.length <= 16424) :
  Calls Try.prog 86 #[.pointer (some ⟨b, 0, none⟩), .agg cs.toArray, .bool wr] w fun e w' => ∃ sl', e = .returned (.tuple #[]) /\ Pq w' b sl' (pclo wr (rgM d x (popn wr l))) /\ Mvd b sl w sl' w' := by
 obtain ⟨xs, rfl⟩ := rEx_cells hx
 refine (v41w ⟨b, 0, none⟩ x.k x.n (T x.s) x.op xs x.a wr (fun v w' => ∃ sl', v = .tuple #[] /\ Pq w' b sl' (pclo wr (rgM d x (popn wr l))) /\ Mvd b sl w sl' w') w ?_).mono (by
  rintro e w' ⟨v, rfl, s, rfl, h⟩; exact ⟨s, rfl, h⟩)
 unfold v41v
 intro k0 w0 hk0 hk0' hO0
 have hb := hP.lb
 have hP0 := hP.only hO0
 have o1 : k0 ≠ b := by omega
 have o2 : sl.a ≠ some ⟨k0, 0, none⟩ := fun e => by have := (hP.buf.lt e).2; omega
 have hrl := fun l' h => rg_le d (x := x) l' (K := 16424) hs hn h (Nat.le_refl _)
 refine ⟨fun w1 => ∃ sl1, Pq w1 b sl1 (popn wr l) /\ Mvd b sl w0 sl1 w1, ?_, fun hw => (put_c hP0 [40] (by rw [List.length_singleton]; omega)).mono ?_, fun hw => ⟨sl, by rw [hw]; exact hP0, Mvd.refl _ _ _⟩⟩
 · rintro w1 ⟨sl1, h1, m1⟩
   refine (hR hs hn ((rEx_ok d).keep (rEx_only hx hO0) fun k hk hlt => m1.1.block k hlt (hP0.far (hF k hk))) hF h1 (opn_le _ _ hl (Nat.le_refl _))).mono ?_
   rintro _ w2 ⟨sl2, rfl, h2, m2⟩
   refine ⟨rfl, m1.sm o1 o2 hk0' m2, fun hw => (put_c h2 [41] (by have := hrl _ (opn_le wr l hl (Nat.le_refl _)); rw [List.length_singleton]; omega)).mono ?_, fun hw => ⟨sl2, rfl, ?_, (m1.trans m2).after hO0⟩⟩
   · rintro _ w3 ⟨sl3, rfl, h3, m3⟩
     refine ⟨rfl, (m1.trans m2).sm o1 o2 hk0' m3, sl3, rfl, ?_, ((m1.trans m2).trans m3).after hO0⟩
     unfold pclo
     rw [if_pos hw]
     exact h3
   · unfold pclo
     rw [if_neg (by rw [hw]; decide)]
     exact h2
 · rintro _ w4 ⟨sl4, rfl, h4, m4⟩
   refine ⟨rfl, (Mvd.refl b sl w0).sm o1 o2 hk0' m4, sl4, ?_, m4⟩
   unfold popn
   rw [if_pos hw]
   exact h4
theorem rows_num {k j : Nat} {op : Int} (hk : k < 6) (h : ((numsL[k]?).getD [])[j]? = some op) : ((rowsL[k]?).getD [])[j]? = some (opTx op.toNat) := by
 have hj : j < 4 := by
  have h1 := (List.getElem?_eq_some_iff.1 h).1
  have h2 : ∀ k, k < 6 -> ((numsL[k]?).getD []).length <= 4 := by decide
  have := h2 k hk
  omega
 have hall : ∀ k, k < 6 -> ∀ j, j < 4 -> ∀ o, ((numsL[k]?).getD [])[j]? = some o -> ((rowsL[k]?).getD [])[j]? = some (opTx o.toNat) := by
  intro k hk j hj o ho
  match k, hk, j, hj with
  | 0, _, 0, _ => simp [numsL] at ho; subst ho; rfl
  | 0, _, j + 1, _ => simp [numsL] at ho
  | 1, _, 0, _ => simp [numsL] at ho; subst ho; rfl
  | 1, _, j + 1, _ => simp [numsL] at ho
  | 2, _, 0, _ => simp [numsL] at ho; subst ho; rfl
  | 2, _, 1, _ => simp [numsL] at ho; subst ho; rfl
  | 2, _, j + 2, _ => simp [numsL] at ho
  | 3, _, 0, _ => simp [numsL] at ho; subst ho; rfl
  | 3, _, 1, _ => simp [numsL] at ho; subst ho; rfl
  | 3, _, 2, _ => simp [numsL] at ho; subst ho; rfl
  | 3, _, 3, _ => simp [numsL] at ho; subst ho; rfl
  | 4, _, 0, _ => simp [numsL] at ho; subst ho; rfl
  | 4, _, 1, _ => simp [numsL] at ho; subst ho; rfl
  | 4, _, j + 2, _ => simp [numsL] at ho
  | 5, _, 0, _ => simp [numsL] at ho; subst ho; rfl
  | 5, _, 1, _ => simp [numsL] at ho; subst ho; rfl
  | 5, _, 2, _ => simp [numsL] at ho; subst ho; rfl
  | 5, _, j + 3, _ => simp [numsL] at ho
 exact hall k hk j hj op h
theorem nums_nodup {k : Nat} (hk : k < 6) : ((numsL[k]?).getD []).Nodup := by
 have : ∀ k, k < 6 -> ((numsL[k]?).getD []).Nodup := by decide
 exact this k hk
theorem nums_has {op : Int} (h1 : 1 <= op) (h2 : op <= 13) : op ∈ (numsL[(rowOf op).toNat]?).getD [] := by
 have : ∀ n : Nat, n < 14 -> 1 <= n -> ((n : Int)) ∈ (numsL[(rowOf (n : Int)).toNat]?).getD [] := by decide
 have := this op.toNat (by omega) (by omega)
 rwa [Int.toNat_of_nonneg (by omega)] at this
theorem rpage_c : ∀ d, RgC d
 | 0, _, _, _, _, _, _, _, _, _, h, _, _, _ => h.elim
 | d + 1, F, w, b, sl, l, x, cs, hsh, ⟨hni, hns⟩, ⟨xs, h1, h2⟩, hF, hP, hlen => by
  subst h1
  refine (v40w ⟨b, 0, none⟩ x.k x.n (T x.s) x.op xs x.a (fun v w' => ∃ sl', v = .tuple #[] /\ Pq w' b sl' (rgM (d + 1) x l) /\ Mvd b sl w sl' w') w ?_).mono (by
   rintro e w' ⟨v, rfl, s, rfl, h⟩; exact ⟨s, rfl, h⟩)
  rw [shapeM, Bool.and_eq_true] at hsh
  obtain ⟨hh, ha⟩ := hsh
  unfold v40v
  intro k0 w0 hk0 hk0' hO0
  have hb := hP.lb
  have hP0 := hP.only hO0
  have h20 := SliceF.only (rEx_ok d) (by decide) h2 hO0 (by simp)
  have o1 : k0 ≠ b := by omega
  have o2 : sl.a ≠ some ⟨k0, 0, none⟩ := fun e => by have := (hP.buf.lt e).2; omega
  have hbn := hP.buf.len
  have rf := Mvd.refl b sl w0
  have sub : ∀ {w1 : World} {sl1 : Sl} {i : Nat} {y : Ex}, Mvd b sl w0 sl1 w1 -> x.subs[i]? = some y -> ∃ ad sy, SlAt xs (i : Int) 6 ad /\ ad.block < b /\ Cells w1 ad (exv y.k y.n y.s y.op sy y.a) /\ rEx d w1 F y (exv y.k y.n y.s y.op sy y.a) := fun {w1 sl1 i y} m1 hy => by
   have hS := SliceF.onlyP (rEx_ok d) (by decide) h20 m1.1 fun k hk _ => hP0.far (hF k hk)
   have hn := hS.len
   have hlt := (List.getElem?_eq_some_iff.1 hy).1
   obtain ⟨ad, y', cs, g1, g2, g3, g4, g5, g6⟩ := hS.get (Int.natCast_nonneg i) (by omega)
   rw [Int.toNat_natCast, hy] at g2
   injection g2 with g2
   subst g2
   obtain ⟨sy, rfl⟩ := rEx_cells g6
   exact ⟨ad, sy, g1, hF _ g3, g5, g6⟩
  refine ⟨sl, Blk.at1 hP0.blk 0 rfl, fun hc => ⟨sl, rfl, ?_, Mvd.only hO0⟩, fun hc => ?_⟩
  · rw [rgM, if_pos (by have := of_decide_eq_true hc; omega)]
    exact hP0
  have hc : ¬ 16384 < l.length := by have := of_decide_eq_false hc; omega
  have hrg : rgM (d + 1) x l = (if x.k = 1 then putM l (Lib.itoa x.n)
  else if x.k = 2 then putM l x.s
  else if x.k = 3 then putM l ([105, 110, 40] ++ x.s ++ [41])
  else if x.k = 4 then (match x.subs with
   | [y] => pclo (y.k == 5) (rgM d y (popn (y.k == 5) (putM l (opTx x.op.toNat))))
   | _ => l)
  else (match x.subs with
   | [y, z] => pclo (decide (levM z <= levM x)) (rgM d z (popn (decide (levM z <= levM x)) (putM (pclo (decide (levM y < levM x)) (rgM d y (popn (decide (levM y < levM x)) l))) ([32] ++ opTx x.op.toNat ++ [32]))))
   | _ => l)) := by rw [rgM, if_neg hc]
  refine ⟨fun hk => ?_, fun k1 => ⟨fun hk => ?_, fun k2 => ⟨fun hk => ⟨?_, ?_, ?_⟩, fun k3 => ⟨fun hk => ?_, fun k4 => ⟨fun _ => ?_, fun k5 => ?_⟩⟩⟩⟩⟩
  · have hk : x.k = 1 := by simpa using hk
    have h0 : 0 <= x.n := by
     rw [headM, if_pos hk] at hh
     have := (eqM_t hh).1
     split at this <;> omega
    refine (rnum_c w0 h0 hni.2).mono ?_
    rintro _ w1 ⟨rfl, hO1⟩
    have hl := Lib.itoa_length_le x.n hni.1 hni.2
    refine ⟨_, rfl, hO1.same (by simp; omega), (put_c (hP0.only hO1) (Lib.itoa x.n) (by omega)).mono ?_⟩
    rintro _ w2 ⟨sl2, rfl, hp2, hm2⟩
    exact ⟨rfl, (Mvd.only hO1).sm o1 o2 hk0' hm2, sl2, rfl, by rw [hrg, if_pos hk]; exact hp2, (hm2.after hO1).after hO0⟩
  · have hk : x.k = 2 := by simpa using hk
    have k1 : x.k ≠ 1 := by omega
    have hl := name_len (head23 hh (.inl hk))
    refine (put_c hP0 x.s (by omega)).mono ?_
    rintro _ w2 ⟨sl2, rfl, hp2, hm2⟩
    exact ⟨rfl, rf.sm o1 o2 hk0' hm2, sl2, rfl, by rw [hrg, if_neg k1, if_pos hk]; exact hp2, hm2.after hO0⟩
  · have hk : x.k = 3 := by simpa using hk
    have hl := name_len (head23 hh (.inr hk))
    rw [T_size]
    omega
  · have hk : x.k = 3 := by simpa using hk
    have hl := name_len (head23 hh (.inr hk))
    rw [inz]
    have : (ByteArray.mk #[105, 110, 40]).size = 3 := rfl
    omega
  · have hk : x.k = 3 := by simpa using hk
    have hl := name_len (head23 hh (.inr hk))
    have hl2 : ([105, 110, 40] ++ x.s ++ [41] : List UInt8).length = x.s.length + 4 := by
     rw [List.length_append, List.length_append]
     simp only [List.length_cons, List.length_nil]
     omega
    rw [inb]
    refine (put_c hP0 _ (by omega)).mono ?_
    rintro _ w2 ⟨sl2, rfl, hp2, hm2⟩
    exact ⟨rfl, rf.sm o1 o2 hk0' hm2, sl2, rfl, by rw [hrg, if_neg (by omega), if_neg (by omega), if_pos hk]; exact hp2, hm2.after hO0⟩
  · have hk : x.k = 4 := by simpa using hk
    obtain ⟨y, hy, hop⟩ := head4 hh hk
    have hay : shapeM d y = true := by rw [hy] at ha; simpa [all1] using ha
    have hny : numOk d y := hns y (by rw [hy]; simp)
    have hotl := opTx_len x.op.toNat
    have hrk : rgM (d + 1) x l = pclo (y.k == 5) (rgM d y (popn (y.k == 5) (putM l (opTx x.op.toNat)))) := by rw [hrg, if_neg (by omega), if_neg (by omega), if_neg (by omega), if_pos hk, hy]
    refine ⟨fun w5 => ∃ sl5, Pq w5 b sl5 (putM l (opTx x.op.toNat)) /\ Mvd b sl w0 sl5 w5, ?_, fun ho => ?_, fun ho => ?_⟩
    · rintro w5 ⟨sl5, h5, m5⟩
      obtain ⟨p1, sy, e1, e2, _, _⟩ := sub (i := 0) m5 (by rw [hy]; rfl)
      refine ⟨p1, e1, fun w6 hO6 => ?_⟩
      have m6 := m5.trans (Mvd.only hO6)
      obtain ⟨p1', sy', e1', e2', e3', e4'⟩ := sub (i := 0) m6 (y := y) (by rw [hy]; rfl)
      have := SlAt.uniq e1' e1
      subst this
      refine ⟨_, _, _, _, _, _, e3', p1', e1, y.k, e3'.at1 0 _ rfl, (part_c5 (rpage_c d) (y.k == 5) hay hny e4' hF (h5.only hO6) (put_le _ _ (by omega) hlen (Nat.le_refl _))).mono ?_⟩
      rintro _ w7 ⟨sl7, rfl, h7, m7⟩
      exact ⟨rfl, m6.sm o1 o2 hk0' m7, sl7, rfl, by rw [hrk]; exact h7, (m6.trans m7).after hO0⟩
    · have ho : x.op = 14 := by simpa using ho
      refine (put_c hP0 [45] (by rw [List.length_singleton]; omega)).mono ?_
      rintro _ w8 ⟨sl8, rfl, h8, m8⟩
      exact ⟨rfl, rf.sm o1 o2 hk0' m8, sl8, by rw [ho]; exact h8, m8⟩
    · have ho : x.op = 15 := by
       have : x.op ≠ 14 := by simpa using ho
       omega
      refine (put_c hP0 [33] (by rw [List.length_singleton]; omega)).mono ?_
      rintro _ w8 ⟨sl8, rfl, h8, m8⟩
      exact ⟨rfl, rf.sm o1 o2 hk0' m8, sl8, by rw [ho]; exact h8, m8⟩
  · have k1 : x.k ≠ 1 := by simpa using k1
    have k2 : x.k ≠ 2 := by simpa using k2
    have k3 : x.k ≠ 3 := by simpa using k3
    have k4 : x.k ≠ 4 := by simpa using k4
    obtain ⟨hk, y, z, hy, ho1, ho2⟩ := head5 hh k1 k2 k3 k4
    have hays : shapeM d y = true /\ shapeM d z = true := by rw [hy] at ha; simpa [all1] using ha
    have hny : numOk d y := hns y (by rw [hy]; simp)
    have hnz : numOk d z := hns z (by rw [hy]; simp)
    have hotl := opTx_len x.op.toNat
    have hlx : levM x = rowOf x.op := by rw [levM, if_pos hk]
    obtain ⟨r0, r5⟩ := row_rng ho1 ho2
    have hrk : rgM (d + 1) x l = pclo (decide (levM z <= levM x)) (rgM d z (popn (decide (levM z <= levM x)) (putM (pclo (decide (levM y < levM x)) (rgM d y (popn (decide (levM y < levM x)) l))) ([32] ++ opTx x.op.toNat ++ [32])))) := by rw [hrg, if_neg k1, if_neg k2, if_neg k3, if_neg k4, hy]
    refine (rlevel_c (show rEx (d + 1) _ F x (exv x.k x.n x.s x.op xs x.a) from ⟨xs, rfl, h20⟩)).mono ?_
    rintro _ w10 ⟨rfl, hO10⟩
    have z0 := hO0.size
    have z10 := hO10.size
    refine ⟨_, rfl, hO10.same (by simp; omega), (nums_c w10).mono ?_⟩
    rintro _ w11 ⟨l2, rfl, hN, hO11⟩
    have z11 := hO11.size
    have m0 := hN.len
    have m6 : numsL.length = 6 := rfl
    obtain ⟨kr, hkr⟩ : ∃ kr : Nat, levM x = (kr : Int) := ⟨(levM x).toNat, by omega⟩
    have hkr6 : kr < 6 := by omega
    obtain ⟨p2, x1, cs1, e1, e2, e3, e4, e5, l3, rfl, hM⟩ := (SliceF.inHeap (rRow_ok rNum_ok) hN (by decide)).get (i := levM x) (by omega) (by omega)
    have hx1 : (numsL[kr]?).getD [] = x1 := by
     rw [hkr, Int.toNat_natCast] at e2
     rw [e2]; rfl
    refine ⟨l2, rfl, hO11.same (by simp; omega), p2, e1, l3, e5, fun w12 hO12 => ?_⟩
    have m12 : Mvd b sl w0 sl w12 := Mvd.only ((hO10.tr0 hO11).tr0 hO12)
    have hP12 := hP0.only ((hO10.tr0 hO11).tr0 hO12)
    have hM12 := SliceF.only rNum_ok (by decide) hM hO12 (by simp)
    have z12 := hO12.size
    obtain ⟨p3, sy, f1, f2, f3, f4⟩ := sub (i := 0) m12 (y := y) (by rw [hy]; rfl)
    refine ⟨fun k => k < b ∨ k = k0, .inr rfl, p3, f1, .inl f2, _, _, _, _, _, _, f3, p3, f1, _, _, _, _, _, _, f3, (rlevel_c f4).mono ?_⟩
    rintro _ w13 ⟨rfl, hO13⟩
    have z13 := hO13.size
    have m13 := m12.trans (Mvd.only hO13)
    have hly : (popn (decide (levM y < levM x)) l).length <= 16424 := opn_le _ _ hlen (Nat.le_refl _)
    refine ⟨_, rfl, hO13.same (by simp; omega), Keeps.only hO13, (part_c5 (rpage_c d) (decide (levM y < levM x)) hays.1 hny (rEx_only f4 hO13) hF (hP12.only hO13) hlen).mono ?_⟩
    rintro _ w14 ⟨sl14, rfl, h14, m14⟩
    have m014 := m13.trans m14
    have z14 := m14.1.size
    generalize hA : pclo (decide (levM y < levM x)) (rgM d y (popn (decide (levM y < levM x)) l)) = A at *
    have hAl : A.length <= 16424 := by rw [<- hA]; exact clo_le _ _ (rg_le d _ hays.1 hny hly (Nat.le_refl _)) (Nat.le_refl _)
    have hM14 : ∀ {w15 : World} {sl15 : Sl}, Mvd b sl14 w14 sl15 w15 -> SliceF rNum 1 w15 (fun k => w10.heap.size <= k /\ k < w11.heap.size) l3 x1 := fun {w15 sl15} m15 => by
     have hbig : Mvd b sl w12 sl15 w15 := ((Mvd.only hO13).trans m14).trans m15
     refine SliceF.onlyP rNum_ok (by decide) hM12 hbig.1 fun k hk _ hh => ?_
     rcases hh with e | e
     · omega
     · have := (hP0.buf.lt e).2; omega
    have t1 := hM.len
    have t2 := hM.cap
    have t3 := hM.big
    refine ⟨rfl, m13.sm o1 o2 hk0' m14, m13.kp hP0 o1 o2 hk0' m14, fun nv i w15 => ∃ (j : Nat) (sl15 : Sl), j <= x1.length /\ i = (j : Int) /\ nv = x1.length - j /\ Pq w15 b sl15 (if x.op ∈ x1.take j then putM A ([32] ++ opTx x.op.toNat ++ [32]) else A) /\ Mvd b sl14 w14 sl15 w15, x1.length, ⟨0, sl14, Nat.zero_le _, rfl, rfl, by rw [List.take_zero, if_neg (by simp)]; exact h14, Mvd.refl _ _ _⟩, ?_⟩
    rintro nv _ w15 ⟨j, sl15, hj, rfl, rfl, h15, m15⟩
    have hnd : x1.Nodup := hx1 ▸ nums_nodup hkr6
    refine ⟨fun hlt => ?_, fun hge w21 hO21 => ?_⟩
    · have hlt : (j : Int) < (l3.n : Int) := of_decide_eq_true hlt
      obtain ⟨p5, q, cs5, g1, g2, g3, g4, g5, g6⟩ := (hM14 m15).get (Int.natCast_nonneg j) hlt
      unfold rNum at g6
      subst g6
      rw [Int.toNat_natCast] at g2
      refine ⟨fun w16 => ∃ sl16 : Sl, Pq w16 b sl16 (if x.op ∈ x1.take (j + 1) then putM A ([32] ++ opTx x.op.toNat ++ [32]) else A) /\ Mvd b sl14 w14 sl16 w16, ?_, p5, g1, q, g5, fun he w17 hO17 => (rows_c w17).mono ?_, fun he w20 hO20 => ⟨sl15, ?_, m15.trans (Mvd.only hO20)⟩⟩
      · rintro w16 ⟨sl16, h16, m16⟩
        exact ⟨x1.length - (j + 1), by omega, j + 1, sl16, by omega, by rw [wr' (by omega) (by omega)]; rfl, rfl, h16, m16⟩
      · have he : q = x.op := by simpa using he
        subst he
        rintro _ w18 ⟨l6, rfl, hRw, hO18⟩
        have n0 := hRw.len
        have n6 : rowsL.length = 6 := rfl
        obtain ⟨p6, x6, cs6, u1, u2, u3, u4, u5, l7, rfl, hS⟩ := hRw.get (i := levM x) (by omega) (by omega)
        have hx6 : (rowsL[kr]?).getD [] = x6 := by
         rw [hkr, Int.toNat_natCast] at u2
         rw [u2]; rfl
        have hrn := rows_num (k := kr) (j := j) hkr6 (by rw [hx1]; exact g2)
        rw [hx6] at hrn
        have v0 := hS.len
        obtain ⟨p7, s7, cs7, v1, v2, v3, v4, v5, v6⟩ := hS.get (i := (j : Int)) (Int.natCast_nonneg j) (by have := (List.getElem?_eq_some_iff.1 hrn).1; omega)
        unfold rTx at v6
        subst v6
        rw [Int.toNat_natCast, hrn] at v2
        injection v2 with v2
        subst v2
        have hb1 : (ByteArray.mk #[32]).size = 1 := rfl
        have m18 := m15.trans (Mvd.only (hO17.tr0 hO18))
        have hl2 : ([32] ++ opTx x.op.toNat ++ [32] : List UInt8).length = (opTx x.op.toNat).length + 2 := by
         rw [List.length_append, List.length_append]
         simp only [List.length_cons, List.length_nil]
         omega
        have hnin : x.op ∉ x1.take j := fun hm => by
         obtain ⟨jj, hjj⟩ := List.getElem?_of_mem hm
         rw [List.getElem?_take] at hjj
         split at hjj
         · rename_i hlt2
           have := (List.getElem?_inj (by omega) hnd).1 (hjj.trans g2.symm)
           omega
         · cases hjj
        rw [if_neg hnin] at h15
        refine ⟨l6, rfl, hO18.same (by
         have := m014.1.size
         have := m15.1.size
         have := hO17.size
         simp
         omega), p6, u1, l7, u5, p7, v1, _, v5, by rw [T_size]; omega, by rw [inz]; omega, ?_⟩
        rw [blb]
        refine (put_c (h15.only (hO17.tr0 hO18)) _ (by omega)).mono ?_
        rintro _ w19 ⟨sl19, rfl, h19, m19⟩
        refine ⟨rfl, (m014.trans m18).sm o1 o2 hk0' m19, sl19, ?_, m18.trans m19⟩
        rw [if_pos (by rw [List.take_add_one, g2]; simp)]
        exact h19
      · have he : q ≠ x.op := by simpa using he
        have : (x.op ∈ x1.take (j + 1)) ↔ (x.op ∈ x1.take j) := by
         rw [List.take_add_one, g2, List.mem_append]
         simp
         intro e
         exact absurd e.symm he
        simp only [this]
        exact h15.only hO20
    · have hge : ¬ (j : Int) < (l3.n : Int) := of_decide_eq_false hge
      have : j = x1.length := by omega
      subst this
      have hin : x.op ∈ x1.take x1.length := by
       rw [List.take_of_length_le (Nat.le_refl _)]
       have := nums_has ho1 ho2
       rw [<- hlx, hkr, Int.toNat_natCast, hx1] at this
       exact this
      rw [if_pos hin] at h15
      have m21 := (m014.trans m15).trans (Mvd.only hO21)
      obtain ⟨p8, sz, f1, f2, f3, f4⟩ := sub (i := 1) m21 (y := z) (by rw [hy]; rfl)
      refine ⟨fun k => k < b ∨ k = k0, .inr rfl, p8, f1, .inl f2, _, _, _, _, _, _, f3, p8, f1, _, _, _, _, _, _, f3, (rlevel_c f4).mono ?_⟩
      rintro _ w22 ⟨rfl, hO22⟩
      have m22 := m21.trans (Mvd.only hO22)
      have z21 := m21.1.size
      have hl2 : ([32] ++ opTx x.op.toNat ++ [32] : List UInt8).length <= 40 := by
       rw [List.length_append, List.length_append]
       simp only [List.length_cons, List.length_nil]
       omega
      refine ⟨_, rfl, hO22.same (by simp; omega), Keeps.only hO22, (part_c5 (rpage_c d) (decide (levM z <= levM x)) hays.2 hnz (rEx_only f4 hO22) hF ((h15.only hO21).only hO22) (put_le _ _ hl2 hAl (Nat.le_refl _))).mono ?_⟩
      rintro _ w23 ⟨sl23, rfl, h23, m23⟩
      exact ⟨rfl, m22.sm o1 o2 hk0' m23, m22.kp hP0 o1 o2 hk0' m23, sl23, rfl, by rw [hrk]; exact h23, (m22.trans m23).after hO0⟩
  · have k1 : x.k ≠ 1 := by simpa using k1
    have k2 : x.k ≠ 2 := by simpa using k2
    have k3 : x.k ≠ 3 := by simpa using k3
    have k4 : x.k ≠ 4 := by simpa using k4
    have k5 : x.k ≠ 5 := by simpa using k5
    exact absurd (head5 hh k1 k2 k3 k4).1 k5
theorem Bf.bytes {w : World} {B : Nat} {s : Sl} {l : List UInt8} (h : Bf w B s l) : Bytes w s l := by
 rcases h with ⟨rfl, rfl⟩ | ⟨g, tail, h1, h2, h3, h4, h5, h6, h7, h8⟩
 · exact ⟨rfl, fun h => absurd rfl h⟩
 · exact ⟨h5, fun _ => ⟨⟨g, 0, none⟩, h1, h3.cells 0 (l.map byteV) fun j v hj => by rw [Nat.zero_add, List.getElem?_append_left (List.getElem?_eq_some_iff.1 hj).1]; exact hj⟩⟩
theorem etext_r {d : Nat} {w : World} {F : Nat -> Prop} {x : Ex} {cs : List Value} (hx : rEx d w F x cs) (hl : ∀ e, lenOk e x) (hn : numOk d x) :
  Calls Try.prog 79 #[.agg cs.toArray] w fun e w' => e = .returned (.tuple #[.string (T (textM d x)), .bool (rightM d x)]) /\ Only [] w w' := by
 obtain ⟨xs, rfl⟩ := rEx_cells hx
 refine ret (v37w x.k x.n (T x.s) x.op xs x.a (fun v w' => v = .tuple #[.string (T (textM d x)), .bool (rightM d x)] /\ Only [] w w') w ?_)
 unfold v37v
 intro k0 w0 hk0 hk0' hO0
 have hxi := (rEx_ok d).inHeap hx
 refine (rshape_c d hl (rEx_only hx hO0)).mono ?_
 rintro _ w1 ⟨rfl, hO1⟩
 have z0 := hO0.size
 have z1 := hO1.size
 have hO01 := hO0.tr0 hO1
 refine ⟨_, rfl, hO1.same (by simp; omega), fun hs => ?_, fun hs k1 w2 hk1 hk1' hO2 hB2 => ?_⟩
 · have hs : shapeM d x = false := by simpa using hs
   rw [rightM, textM, if_neg (by rw [hs]; decide)]
   exact ⟨rfl, hO01⟩
 have hs : shapeM d x = true := by simpa using hs
 have z2 := hO2.size
 have hO02 := hO01.tr0 hO2
 have hPq : Pq w2 k1 Sl.nil [] := ⟨hB2, .inl ⟨rfl, rfl⟩⟩
 refine (rpage_c d hs hn (rEx_only hxi hO02) (fun k hk => by have := hk.2; omega) hPq (by decide)).mono ?_
 rintro _ w3 ⟨sl3, rfl, hp3, hm3⟩
 have z3 := hm3.1.size
 have hO3 : Only [] w w3 := (hO02.trP hm3.1).only fun k hk => by
  rcases hk with rfl | e
  · omega
  · cases e
 obtain ⟨hts, hpg⟩ := text_same hs hn
 have hne : rgM d x [] ≠ [] := by
  intro e
  obtain ⟨c, t, h1, _⟩ := tx_head d false hs hn
  have hlw := rg_law d (x := x) [] hs
  by_cases hlen : (txM d x false).length <= 16384
  · have := hlw.1 (by rw [List.length_nil]; omega)
    rw [e, h1] at this
    simp at this
  · have := hlw.2 (by rw [List.length_nil]; omega)
    rw [e] at this
    simp at this
 generalize hG : rgM d x [] = G at *
 refine ⟨rfl, hm3.same (by omega) (fun e => by cases e) (by omega), sl3, hp3.blk, G, hp3.buf.bytes, (eread_r w3 G).mono ?_⟩
 rintro _ w4 ⟨ys, rfl, hY, hO4⟩
 have z4 := hO4.size
 obtain ⟨d2, hd2⟩ := hY.ex
 obtain ⟨yl, rfl, _⟩ := hY.cells
 have hB4 := hO4.blk hp3.blk (by simp)
 refine ⟨_, _, _, _, _, _, _, _, rfl, hO4.same (by simp; omega), sl3, hB4, fun k2 k3 w5 hk2 hk2' hk3 hk3' hO5 hB5 => ?_⟩
 have z5 := hO5.size
 have hO05 := (hO3.tr0 hO4).tr0 hO5
 refine (same_c false d (rEx_only hx hO05) (rEx_only hd2 hO5)).mono ?_
 rintro _ w6 ⟨rfl, hO6⟩
 have hO06 := hO05.tr0 hO6
 have hsz : ((ByteArray.mk G.toArray).size : Int) = (G.length : Int) := by
  have : (ByteArray.mk G.toArray).size = G.length := T_size G
  rw [this]
 refine ⟨_, rfl, hO6.same (by simp; omega), sl3, hO6.blk hB5 (by simp), ?_⟩
 rw [hsz]
 by_cases hc : 16384 < G.length ∨ (readA G).2.1 ≠ 0
 · have hcond : (decide ((G.length : Int) > 16384) || ((readA G).2.1 != 0)) = true := by
    rcases hc with h | h
    · rw [decide_eq_true (by omega), Bool.true_or]
    · have : ((readA G).2.1 != 0) = true := by simpa using h
      rw [this, Bool.or_true]
   rw [hcond, Bool.true_or]
   rw [if_pos hc] at hts
   refine ⟨fun _ => ?_, fun h => (by cases h)⟩
   rw [rightM, hts]
   exact ⟨rfl, hO06⟩
 · have h1 : G.length <= 16384 := by omega
   have h2 : (readA G).2.1 = 0 := by
    refine Decidable.byContradiction fun h => hc (.inr h)
   have hpe := hpg h2 h1
   have hsim : Sim x (readA G).1 := by
    have := back_law hs hn (by rw [<- hpe]; exact h2)
    rw [<- hpe] at this
    exact this.2
   rw [if_neg hc] at hts
   rw [hsim.same d, h2, decide_eq_false (by omega)]
   refine ⟨fun h => (by cases h), fun _ => ?_⟩
   rw [rightM, hts, decide_eq_true hne]
   exact ⟨rfl, hO06⟩
end Go.Proofs.Ytddfmhccaapgjaa.Con
namespace Go.Proofs.Ytddfmhccaapgjaa.Con
open Go Go.RowKit Go.Kt Go.Kt.V
set_option linter.unusedSimpArgs false
set_option linter.unusedVariables false
set_option maxHeartbeats 4000000
structure Ac where
 k : Int
 n : List UInt8
 x : Ex
 a : Int
structure Mv where
 k : Int
 ev : List UInt8
 wt : Int
 gd : Bool
 g : Ex
 acts : List Ac
 tg : List (List UInt8)
 a : Int
structure Nb where
 k : Int
 nm : List UInt8
 ini : List UInt8
 dft : List UInt8
 en : List Ac
 lv : List Ac
 mv : List Mv
 a : Int
inductive Nd where
 | mk (b : Nb) (kids : List Nd)
def Nd.b : Nd -> Nb | .mk b _ => b
def Nd.kids : Nd -> List Nd | .mk _ l => l
structure Vr where
 n : List UInt8
 v : Int
 a : Int
structure Ch where
 vars : List Vr
 root : Nd
def tkZ : Tk := ⟨0, [], 0, 0⟩
structure Sx where
 i : Nat
 fc : Int
 fa : Int
 v : Int
 n : Int
 d : Int
 m : Int
 a : Int
section
variable (ts : List Tk)
def stopS (s : Sx) (c : Int) : Sx := if s.fc = 0 then { s with fc := c, fa := (tk ts s.i).a } else s
def wrongS (s : Sx) : Sx := if (tk ts s.i).k = 5 then stopS ts (stopS ts s 3) 4 else stopS ts s 4
def ixS (c : List UInt8) : List (List UInt8) -> Nat
 | [] => 0
 | x :: l => if c = x then 0 else ixS c l + 1
def whichS (s : Sx) (l : List (List UInt8)) : Nat :=
 if s.fc ≠ 0 ∨ ((tk ts s.i).k ≠ 2 /\ (tk ts s.i).k ≠ 4) then 0 else if ixS (tk ts s.i).t l < l.length then ixS (tk ts s.i).t l + 1 else 0
def nextS (s : Sx) : Sx := { s with i := s.i + 1 }
def mustS (s : Sx) (x : List UInt8) : Sx := if whichS ts s [x] = 0 then wrongS ts s else nextS s
def kindS (s : Sx) (k : Int) : Tk × Sx := if s.fc ≠ 0 ∨ (tk ts s.i).k ≠ k then (tkZ, wrongS ts s) else (tk ts s.i, nextS s)
def nameS (s : Sx) : List UInt8 × Sx := ((kindS ts s 1).1.t, (kindS ts s 1).2)
def exprS (s : Sx) : Ex × Sx :=
 if s.fc ≠ 0 then (ex0, s)
 else if (parseA ts s.i).2.2.1 ≠ 0 then ((parseA ts s.i).1, { s with fc := (parseA ts s.i).2.2.1, fa := (parseA ts s.i).2.2.2 })
 else ((parseA ts s.i).1, { s with i := (parseA ts s.i).2.1.toNat })
def dec (x : Int) : Int := IntKind.wrap .i64 (x - 1)
def useA (s : Sx) : Sx := if s.a = 0 then { stopS ts s 2 with a := dec s.a } else { s with a := dec s.a }
def wSet : List UInt8 := [115, 101, 116]
def wRaise : List UInt8 := [114, 97, 105, 115, 101]
def wEmit : List UInt8 := [101, 109, 105, 116]
def actT (s : Sx) (k : Nat) (n : List UInt8) (a : Int) : Ac × Sx :=
 if k = 2 then (⟨k, n, ex0, a⟩, mustS ts s [59])
 else (⟨k, n, (exprS ts (mustS ts s [61])).1, a⟩, mustS ts (exprS ts (mustS ts s [61])).2 [59])
def actS (s : Sx) : Ac × Sx :=
 if whichS ts s [wSet, wRaise, wEmit] = 0 then (⟨0, [], ex0, (tk ts s.i).a⟩, wrongS ts s)
 else if (useA ts s).fc ≠ 0 then (⟨(whichS ts s [wSet, wRaise, wEmit] : Nat), [], ex0, (tk ts s.i).a⟩, useA ts s)
 else actT ts (nameS ts (nextS (useA ts s))).2 (whichS ts s [wSet, wRaise, wEmit]) (nameS ts (nextS (useA ts s))).1 (tk ts s.i).a
def actsS : Nat -> List Ac -> Sx -> List Ac × Sx
 | 0, acc, s => (acc, s)
 | f + 1, acc, s => if s.fc ≠ 0 then (acc, s) else if whichS ts s [[125]] ≠ 0 then (acc, nextS s) else actsS f (acc ++ [(actS ts s).1]) (actS ts s).2
structure Had where
 i : Bool
 e : Bool
 l : Bool
end
def mu (ts : List Tk) (s : Sx) : Nat := if s.fc = 0 then ts.length - s.i else 0
structure On0 (ts : List Tk) (s s' : Sx) : Prop where
 lt : s.i < ts.length -> s'.i < ts.length
 le : s'.fc = 0 -> s.fc = 0 /\ s.i <= s'.i
structure On (ts : List Tk) (s s' : Sx) : Prop extends On0 ts s s' where
 d : s'.d = s.d
section
variable {ts : List Tk} {s s' s'' : Sx}
theorem On.mk' (h : On0 ts s s') (k : s'.d = s.d) : On ts s s' := ⟨h, k⟩
theorem On0.refl (ts : List Tk) (s : Sx) : On0 ts s s := ⟨id, fun h => ⟨h, Nat.le_refl _⟩⟩
theorem On.refl (ts : List Tk) (s : Sx) : On ts s s := ⟨On0.refl ts s, rfl⟩
theorem On0.trans (h : On0 ts s s') (k : On0 ts s' s'') : On0 ts s s'' := ⟨fun x => k.lt (h.lt x), fun e => by
 obtain ⟨a, b⟩ := k.le e
 obtain ⟨c, d⟩ := h.le a
 exact ⟨c, Nat.le_trans d b⟩⟩
theorem On.trans (h : On ts s s') (k : On ts s' s'') : On ts s s'' := ⟨h.toOn0.trans k.toOn0, k.d.trans h.d⟩
theorem On0.mu (h : On0 ts s s') : mu ts s' <= mu ts s := by
 unfold Con.mu
 by_cases e : s'.fc = 0
 · obtain ⟨a, b⟩ := h.le e
   rw [if_pos e, if_pos a]; omega
 · rw [if_neg e]; exact Nat.zero_le _
end
end Go.Proofs.Ytddfmhccaapgjaa.Con
