
/-
  Own work: what the functions of the expression reader do: operators; trees in memory.
-/
import Derived.Test.YtmanockofcopjaaGreatDoorExc
namespace Go.Proofs.YtmanockofcopjaaGreatDoor.Con
open Go Go.RowKit Go.Kt Go.Kt.V Go.Proofs.YtmanockofcopjaaGreatDoor.Vc
set_option linter.unusedSimpArgs false
set_option linter.unusedVariables false
set_option maxHeartbeats 4000000

theorem erow_c (w : World) (op : Int) : Calls Tryz.prog 133 #[.int .i64 op] w fun e w' => e = .returned (.int .i64 (rowOf op)) ∧ w' = w := by
  refine ret (expr_row_wp op (fun v w' => v = .int .i64 (rowOf op) ∧ w' = w) w ?_)
  unfold expr_row_vc
  have fin : ∀ {k : Int} {w1 : World}, rowOf op = k → (Value.int .i64 k = .int .i64 (rowOf op) ∧ w1 = w1) := fun e => ⟨by rw [e], rfl⟩
  refine ⟨fun h => fin ?_, fun h => ⟨fun b w' => b = decide (op = 1 ∨ op = 2) ∧ w' = w, ?_, fun h1 => ⟨?_, rfl⟩, fun h1 => ⟨?_, rfl⟩⟩⟩
  · simp only [Bool.and_eq_true, decide_eq_true_eq] at h
    unfold rowOf
    rw [if_pos (by omega)]
  · rintro _ w1 ⟨rfl, rfl⟩
    have h : ¬ (3 ≤ op ∧ op ≤ 5) := fun hh => by rw [decide_eq_true hh.1, decide_eq_true hh.2] at h; cases h
    refine ⟨fun h1 => fin ?_, fun h1 => ⟨fun h2 => fin ?_, fun h2 => ⟨fun b w2 => b = decide (op = 10 ∨ op = 11) ∧ w2 = w1, ?_, fun h3 => ⟨?_, rfl⟩, fun h3 => ⟨?_, rfl⟩⟩⟩⟩
    · have h1 := of_decide_eq_true h1
      unfold rowOf
      rw [if_neg h, if_pos h1]
    · have h1 := of_decide_eq_false h1
      simp only [Bool.and_eq_true, decide_eq_true_eq] at h2
      unfold rowOf
      rw [if_neg h, if_neg h1, if_pos (by omega)]
    · rintro _ _ ⟨rfl, rfl⟩
      have h1 := of_decide_eq_false h1
      have h2 : ¬ (6 ≤ op ∧ op ≤ 9) := fun hh => by rw [decide_eq_true hh.1, decide_eq_true hh.2] at h2; cases h2
      refine ⟨fun h3 => fin ?_, fun h3 => ⟨fun h4 => fin ?_, fun h4 => ⟨fun h5 => fin ?_, fun h5 => fin ?_⟩⟩⟩
      · have h3 := of_decide_eq_true h3
        unfold rowOf
        rw [if_neg h, if_neg h1, if_neg h2, if_pos h3]
      · have h3 := of_decide_eq_false h3
        have h4 : op = 12 := by simpa using h4
        unfold rowOf
        rw [if_neg h, if_neg h1, if_neg h2, if_neg h3, if_pos h4]
      · have h3 := of_decide_eq_false h3
        have h4 : ¬ op = 12 := by simpa using h4
        have h5 : op = 13 := by simpa using h5
        unfold rowOf
        rw [if_neg h, if_neg h1, if_neg h2, if_neg h3, if_neg h4, if_pos h5]
      · have h3 := of_decide_eq_false h3
        have h4 : ¬ op = 12 := by simpa using h4
        have h5 : ¬ op = 13 := by simpa using h5
        unfold rowOf
        rw [if_neg h, if_neg h1, if_neg h2, if_neg h3, if_neg h4, if_neg h5]
    · have h3 : op = 10 := by simpa using h3
      rw [h3]; rfl
    · have h3 : ¬ op = 10 := by simpa using h3
      rw [Bool.eq_iff_iff]
      simp [h3]
  · have h1 : op = 1 := by simpa using h1
    rw [h1]; rfl
  · have h1 : ¬ op = 1 := by simpa using h1
    rw [Bool.eq_iff_iff]
    simp [h1]
section
variable {F G : Nat → Prop} {ts : List Tk} {w w' : World} {b : Nat} {l sn : Sl} {i : Nat} {fc fa d : Int}
theorem operator_c (h : Rd F G ts w b l sn i fc fa d) (k : Int) : Calls Tryz.prog 114 #[.pointer (some ⟨b, 0, none⟩), .int .i64 k] w fun e w' => e = .returned (.int .i64 (if fc = 0 then opAt ts k i else 0)) ∧ Only [] w w' := by
  refine ret (expr_reader_operator_wp ⟨b, 0, none⟩ k (fun v w' => v = .int .i64 (if fc = 0 then opAt ts k i else 0) ∧ Only [] w w') w ?_)
  unfold expr_reader_operator_vc
  refine ⟨fun nv i0 w' => ∃ op : Nat, 1 ≤ op ∧ op ≤ 14 ∧ i0 = (op : Int) ∧ nv = 14 - op ∧ (if fc = 0 then opAt ts k i else 0) = (if fc = 0 then opFrom ts k i (14 - op) op else 0) ∧ Only [] w w', 13, ⟨1, by decide, by decide, rfl, rfl, rfl, Only.refl _ _⟩, ?_⟩
  rintro nv _ w0 ⟨op, h1, h2, rfl, rfl, hV, hO0⟩
  refine ⟨fun hc => ?_, fun hc => ?_⟩
  · have hc : (op : Int) ≤ 13 := of_decide_eq_true hc
    obtain ⟨m, hm⟩ : ∃ m, 14 - op = m + 1 := ⟨13 - op, by omega⟩
    rw [hm, opFrom] at hV
    refine ⟨fun c w' => c = (decide (rowOf (op : Int) = k) && (fc == 0 && sg ts i (opTx op))) ∧ Only [] w w', ?_, fun w2 hO2 => (erow_c w2 _).mono ?_⟩
    · rintro _ w1 ⟨rfl, hO1⟩
      refine ⟨fun hb => ⟨?_, hO1⟩, fun hb => ⟨m, by omega, op + 1, by omega, by omega, by rw [wr' (by omega) (by omega)]; rfl, by omega, ?_, hO1⟩⟩
      · simp only [Bool.and_eq_true, decide_eq_true_eq, beq_iff_eq] at hb
        rw [hV, if_pos hb.2.1, if_pos ⟨hb.1, hb.2.2⟩]
      · rw [hV, show 14 - (op + 1) = m by omega]
        by_cases h0 : fc = 0
        · rw [if_pos h0, if_pos h0, if_neg]
          rintro ⟨e1, e2⟩
          rw [decide_eq_true e1, e2, h0] at hb
          simp at hb
        · rw [if_neg h0, if_neg h0]
    · rintro _ w3 ⟨rfl, rfl⟩
      have h3 := h.only (hO0.tr0 hO2)
      refine ⟨_, rfl, fun hk => ?_, fun hk => ?_⟩
      · have hk : rowOf (op : Int) = k := by simpa using hk
        have hn := h3.sig.len
        have hol : opsL.length = 16 := rfl
        obtain ⟨ad, x, cs, g1, g2, g3, g4, g5, g6⟩ := h3.sig.get (i := (op : Int)) (by omega) (by omega)
        unfold rTx at g6
        subst g6
        rw [Int.toNat_natCast] at g2
        have hx : opTx op = x := by unfold opTx; rw [g2]; rfl
        subst hx
        obtain ⟨s0, w4, k1, k2, k3⟩ := is1 h3 (opTx op)
        refine ⟨sn, Blk.at1 h3.blk 5 rfl, ad, g1, _, g5, s0, w4, k1, k3.mono ?_⟩
        rintro _ w5 ⟨rfl, hO5⟩
        exact ⟨_, rfl, by rw [decide_eq_true hk, Bool.true_and], hO0.tr0 (hO2.tr0 (k2.tr0 hO5))⟩
      · have hk : ¬ rowOf (op : Int) = k := by simpa using hk
        exact ⟨by rw [decide_eq_false hk, Bool.false_and], hO0.tr0 hO2⟩
  · have hc : ¬ (op : Int) ≤ 13 := of_decide_eq_false hc
    have : op = 14 := by omega
    subst this
    rw [hV]
    refine ⟨?_, hO0⟩
    split <;> rfl
end

/-! ## trees in memory: what a reader makes: rows of their own, in blocks from lo on, ahead of hi, none of them in N -/
abbrev exv (k n : Int) (s : List UInt8) (op : Int) (sl : Sl) (a : Int) : List Value := [.int .i64 k, .int .i64 n, .string (T s), .int .i64 op, sl.v, .int .i64 a]
inductive RXN (w : World) (N : Nat → Prop) : Nat → Nat → Ex → List Value → Prop
  | leaf (lo hi : Nat) (k n : Int) (s : List UInt8) (op a : Int) : RXN w N lo hi (.mk k n s op [] a) (exv k n s op Sl.nil a)
  | one (lo m g hi : Nat) (k n : Int) (s : List UInt8) (op a : Int) (x : Ex) (cs : List Value) : RXN w N lo m x cs → lo ≤ g → m ≤ g → g < hi → ¬ N g → Blk w g 24 cs → RXN w N lo hi (.mk k n s op [x] a) (exv k n s op ⟨some ⟨g, 0, none⟩, 1, 1⟩ a)
  | two (lo m m' m2 g hi : Nat) (k n : Int) (s : List UInt8) (op a : Int) (x y : Ex) (cs ds : List Value) : RXN w N lo m x cs → m ≤ m' → RXN w N m' m2 y ds → lo ≤ m' → m ≤ g → m' ≤ g → m2 ≤ g → g < hi → ¬ N g → Blk w g 24 (cs ++ ds) → RXN w N lo hi (.mk k n s op [x, y] a) (exv k n s op ⟨some ⟨g, 0, none⟩, 2, 2⟩ a)
abbrev RX (w : World) : Nat → Nat → Ex → List Value → Prop := RXN w fun _ => False
section
variable {w w' : World} {N N' : Nat → Prop} {lo hi : Nat} {x : Ex} {cs : List Value}
theorem RXN.keep (h : RXN w N lo hi x cs) : (∀ k, lo ≤ k → k < hi → ¬ N k → k < w.heap.size → w'.heap[k]? = w.heap[k]?) → RXN w' N lo hi x cs := by
  induction h with
  | leaf lo hi k n s op a => exact fun _ => .leaf ..
  | one lo m g hi k n s op a x cs h1 h2 h3 h4 hn h5 ih =>
    intro hk
    exact .one lo m g hi k n s op a x cs (ih fun j h6 h7 h8 => hk j h6 (by omega) h8) h2 h3 h4 hn ((hk g h2 h4 hn h5.lt).trans h5)
  | two lo m m' m2 g hi k n s op a x y cs ds h1 h2 h3 h4 h5 h6 h7 h8 hn h9 ih1 ih2 =>
    intro hk
    exact .two lo m m' m2 g hi k n s op a x y cs ds (ih1 fun j a1 a2 a3 => hk j a1 (by omega) a3) h2 (ih2 fun j a1 a2 a3 => hk j (by omega) (by omega) a3) h4 h5 h6 h7 h8 hn ((hk g (by omega) h8 hn h9.lt).trans h9)
theorem RXN.wide (h : RXN w N lo hi x cs) : ∀ {lo' hi' : Nat}, lo' ≤ lo → hi ≤ hi' → RXN w N lo' hi' x cs := by
  induction h with
  | leaf lo hi k n s op a => exact fun _ _ => .leaf ..
  | one lo m g hi k n s op a x cs h1 h2 h3 h4 hn h5 ih =>
    intro lo' hi' a1 a2
    exact .one lo' m g hi' k n s op a x cs (ih a1 (Nat.le_refl _)) (by omega) h3 (by omega) hn h5
  | two lo m m' m2 g hi k n s op a x y cs ds h1 h2 h3 h4 h5 h6 h7 h8 hn h9 ih1 ih2 =>
    intro lo' hi' a1 a2
    exact .two lo' m m' m2 g hi' k n s op a x y cs ds (ih1 a1 (Nat.le_refl _)) h2 h3 (by omega) h5 h6 h7 (by omega) hn h9
theorem RXN.holes (h : RXN w N lo hi x cs) : (∀ k, lo ≤ k → k < hi → ¬ N k → ¬ N' k) → RXN w N' lo hi x cs := by
  induction h with
  | leaf lo hi k n s op a => exact fun _ => .leaf ..
  | one lo m g hi k n s op a x cs h1 h2 h3 h4 hn h5 ih =>
    intro hk
    exact .one lo m g hi k n s op a x cs (ih fun j h6 h7 => hk j h6 (by omega)) h2 h3 h4 (hk g h2 h4 hn) h5
  | two lo m m' m2 g hi k n s op a x y cs ds h1 h2 h3 h4 h5 h6 h7 h8 hn h9 ih1 ih2 =>
    intro hk
    exact .two lo m m' m2 g hi k n s op a x y cs ds (ih1 fun j a1 a2 => hk j a1 (by omega)) h2 (ih2 fun j a1 a2 => hk j (by omega) (by omega)) h4 h5 h6 h7 h8 (hk g (by omega) h8 hn) h9
theorem RXN.cells (h : RXN w N lo hi x cs) : ∃ sl : Sl, cs = exv x.k x.n x.s x.op sl x.a ∧ (sl.n = x.subs.length) := by
  cases h with
  | leaf => exact ⟨_, rfl, rfl⟩
  | one => exact ⟨_, rfl, rfl⟩
  | two => exact ⟨_, rfl, rfl⟩
theorem RXN.only (h : RXN w N lo hi x cs) {bs : List Nat} (hO : Only bs w w') (hb : ∀ k, k ∈ bs → k < lo ∨ hi ≤ k ∨ N k) : RXN w' N lo hi x cs :=
  h.keep fun k h1 h2 hn h3 => hO.block k h3 fun hm => by
    rcases hb k hm with e | e | e
    · omega
    · omega
    · exact hn e
end
/-- a literal row of trees -/
theorem buildX (w : World) (vs : List (List Value)) (hv : ∀ v, v ∈ vs → v.length = 6) (h0 : 0 < vs.length) (hm : vs.length ≤ 100) {parts : Array (Nat × Value)} (hp : parts = (((vs.map fun v => Value.agg v.toArray).zipIdx 0).map fun x => (x.2, x.1)).toArray) :
    ∃ w', (Instr.buildSlice 22 vs.length parts).run Tryz.prog w = .ok (Sl.v ⟨some ⟨w.heap.size, 0, none⟩, vs.length, vs.length⟩) w' ∧ Blk w' w.heap.size 24 vs.flatten ∧ Only [] w w' := by
  have hc : ((vs.map fun v => Value.agg v.toArray).flatMap fun v => v.cells.toList) = vs.flatten := by
    clear hv h0 hm hp
    induction vs with
    | nil => rfl
    | cons v vs ih => rw [List.map_cons, List.flatMap_cons, ih, List.flatten_cons]; rfl
  have hs : Tryz.t24.size = 6 := rfl
  have hrun := run_buildSlice (P := Tryz.prog) w 22 24 vs.length parts ((vs.map fun v => Value.agg v.toArray).flatMap fun v => v.cells.toList).toArray Tryz.t24 _ (by kernel_rfl) (by kernel_rfl) rfl (by rw [hs]; omega) (by rw [hs]; omega)
    (by
      subst hp
      rw [List.toList_toArray, hs]
      refine Go.Great.fill_whole (s := 6) (by decide) (vs.map fun v => Value.agg v.toArray) _ (fun v hm => ?_) ?_
      · obtain ⟨x, hx, rfl⟩ := List.mem_map.1 hm
        have := hv x hx
        simpa [Value.cells] using this
      · simp)
  rw [hc] at hrun
  exact ⟨_, hrun, Blk.alloc w _ _, Only.alloc _ _⟩
/-! ## one deeper -/
/-- a world in which trees' cells are typed -/
def exT (v : Value) : Prop := ∃ (k n : Int) (s : List UInt8) (op : Int) (sl : Sl) (a : Int), v = .agg (exv k n s op sl a).toArray
/-- what a reading comes to: the tree and the place behind it, or the fault -/
def Did5 (F G : Nat → Prop) (ts : List Tk) (w w' : World) (b : Nat) (l sn : Sl) (d : Nat) (r : Pr) (v : Value) : Prop := Only [b] w w' ∧ match r with
  | .ok (x, j) => ∃ cs, v = .agg cs.toArray ∧ RX w' w.heap.size w'.heap.size x cs ∧ Rd F G ts w' b l sn j 0 0 (d : Int)
  | .error e => e.1 ≠ 0 ∧ exT v ∧ ∃ j, Rd F G ts w' b l sn j e.1 e.2 (d : Int)
section
variable {F G : Nat → Prop} {ts : List Tk} {w w' : World} {b : Nat} {l sn : Sl} {i : Nat} {fc fa d : Int}
theorem wrongF_ne : (wrongF ts i).1 ≠ 0 := by
  unfold wrongF
  dsimp only
  split <;> decide
theorem within_c {d : Nat} (hd : d ≤ 20) (h : Rd F G ts w b l sn i 0 0 (d : Int)) (hi : i + 1 < ts.length) {g : Nat} {z1 z2 : List Value} (hg : ∀ (x : Array Value) (w : World), (callFunc g x).run Tryz.prog w = .ok (.enter g x) w) (f : OV) (hf : f.v = .func (.func g) z1.toArray z2.toArray) {r : Pr}
    (hr : d ≠ 20 → ∀ w1, Only [b] w w1 → Rd F G ts w1 b l sn (i + 1) 0 0 ((d + 1 : Nat) : Int) → Calls Tryz.prog g (z1 ++ z2).toArray w1 fun e w' => ∃ v, e = .returned v ∧ Did5 F G ts w1 w' b l sn (d + 1) r v) :
    Calls Tryz.prog 128 #[.pointer (some ⟨b, 0, none⟩), f.v] w fun e w' => ∃ v, e = .returned v ∧ Did5 F G ts w w' b l sn d (nestR d (tk ts i).a r) v := by
  refine expr_reader_within_wp ⟨b, 0, none⟩ f (fun v w' => Did5 F G ts w w' b l sn d (nestR d (tk ts i).a r) v) w ?_
  unfold expr_reader_within_vc
  intro k0 w0 hk hk' hO0
  have hb := h.lb
  have h0 := h.only hO0
  refine ⟨(d : Int), Blk.at1 h0.blk 4 rfl, fun hc => (stop_c h0 21).mono ?_, fun hc => ?_⟩
  · have hc : d = 20 := by have : (d : Int) = 20 := by simpa using hc
                           omega
    rintro _ w1 ⟨rfl, hO1, hR⟩
    rw [if_pos rfl, if_pos rfl] at hR
    have z1 := hO1.size
    refine ⟨rfl, hO1.same (by simp; omega), fun w2 hO2 => ⟨?_, ?_⟩⟩
    · exact ((hO0.weaken (bs' := [b]) fun _ h => (by cases h)).trans hO1 fun x hx => .inl hx).new hO2 hk
    · rw [nestR, if_pos hc]
      exact ⟨(by decide : (21 : Int) ≠ 0), ⟨0, 0, [], 0, Sl.nil, 0, rfl⟩, i, hR.own hO2 (by simp; omega)⟩
  · have hc : d ≠ 20 := fun e => by subst e; simp at hc
    have hbg := h.big
    refine ⟨(i : Int), Blk.at1 h0.blk 1 rfl, b, 1, _, _, rfl, h0.blk, by simp, by omega, fun w3 hO3 hB3 => ?_⟩
    rw [wr' (by omega) (by omega)] at hB3
    have h3 : Rd F G ts w3 b l sn (i + 1) 0 0 (d : Int) := h0.turn hO3 hB3 hi
    have z3 := hO3.size
    refine ⟨(d : Int), Blk.at1 h3.blk 4 rfl, b, 4, _, _, rfl, h3.blk, by simp, by omega, fun w4 hO4 hB4 => ?_⟩
    rw [wr' (by omega) (by omega)] at hB4
    have h4 : Rd F G ts w4 b l sn (i + 1) 0 0 ((d + 1 : Nat) : Int) := h3.turn hO4 hB4 hi
    have z4 := hO4.size
    have hO04 : Only [b] w w4 := ((hO0.weaken (bs' := [b]) fun _ h => (by cases h)).trans hO3 fun x hx => .inl hx).trans hO4 fun x hx => .inl hx
    refine ⟨g, z1, z2, hf, hg, ?_⟩
    have e : cat (cat z1 []) z2 = z1 ++ z2 := by unfold cat; rw [List.append_nil]
    rw [e]
    refine (hr hc w4 hO04 h4).mono ?_
    rintro _ w6 ⟨v, rfl, hO6, hd⟩
    have z6 := hO6.size
    rw [nestR, if_neg hc]
    have hv : ∃ (k n : Int) (s : List UInt8) (op : Int) (sl : Sl) (a : Int), v = .agg (exv k n s op sl a).toArray := by
      cases r with
      | error e => exact hd.2.1
      | ok q =>
        obtain ⟨cs, rfl, hx, _⟩ := hd
        obtain ⟨sl, rfl, _⟩ := hx.cells
        exact ⟨_, _, _, _, _, _, rfl⟩
    obtain ⟨vk, vn, vs, vo, vsl, va, rfl⟩ := hv
    refine ⟨_, _, _, _, _, _, rfl, hO6.same (by simp; omega), fun k8 w7 hk8 hk8' hO7 => ?_⟩
    have z7 := hO7.size
    have key : ∀ {j : Nat} {fc fa : Int}, Rd F G ts w6 b l sn j fc fa ((d + 1 : Nat) : Int) → ∃ i7 : Int, Cells w7 (Addr.add ⟨b, 0, none⟩ 4) [.int .i64 i7] ∧ ∃ k9 k10 : Nat, ∃ z4 : List Value, ∃ k11 : Nat, (Addr.add ⟨b, 0, none⟩ 4) = ⟨k9, k10, none⟩ ∧ Blk w7 k9 k11 z4 ∧ (k10 + 1) ≤ z4.length ∧ k0 ≠ k9 ∧ k8 ≠ k9 ∧
        ∀ w8 : World, Only [k9] w7 w8 → Blk w8 k9 k11 (splice z4 k10 [.int .i64 (IntKind.wrap .i64 (i7 - 1))]) → ∀ w9 : World, Only [k0] w8 w9 → Only [b] w w9 ∧ Only [b, k0] w6 w9 ∧ Rd F G ts w9 b l sn j fc fa (d : Int) := fun {j fc fa} h6 => by
      have h7 := h6.only hO7
      refine ⟨((d + 1 : Nat) : Int), Blk.at1 h7.blk 4 rfl, b, 4, _, _, rfl, h7.blk, by simp, by omega, by omega, fun w8 hO8 hB8 w9 hO9 => ?_⟩
      have ed : ((d + 1 : Nat) : Int) - 1 = d := by omega
      rw [ed, wr' (by omega) (by omega)] at hB8
      have h8 : Rd F G ts w8 b l sn j fc fa (d : Int) := h7.turn hO8 hB8 h7.lt
      have hO69 : Only [b, k0] w6 w9 := ((hO7.weaken (bs' := [b, k0]) fun _ h => (by cases h)).trans hO8 fun x hx => .inl (by simp only [List.mem_singleton] at hx; simp [hx])).trans hO9 fun x hx => .inl (by simp only [List.mem_singleton] at hx; simp [hx])
      exact ⟨(hO04.trans hO6 fun x hx => .inl hx).trans hO69 (fun x hx => by
        simp only [List.mem_cons, List.not_mem_nil, or_false] at hx
        rcases hx with rfl | rfl
        · exact .inl (by simp)
        · exact .inr hk), hO69, h8.own hO9 (by simp; omega)⟩
    have hd2 := hd
    cases r with
    | error e =>
      obtain ⟨h1, h2, j, h3⟩ := hd2
      obtain ⟨i7, k1, k9, k10, z, k11, k2, k3, k4, k5, k6, k7⟩ := key h3
      refine ⟨i7, k1, k9, k10, z, k11, k2, k3, k4, k5, k6, fun w8 hO8 hB8 w9 hO9 => ?_⟩
      obtain ⟨a1, a2, a3⟩ := k7 w8 hO8 hB8 w9 hO9
      exact ⟨a1, h1, h2, j, a3⟩
    | ok q =>
      obtain ⟨x, j⟩ := q
      obtain ⟨cs, h1, h2, h3⟩ := hd2
      obtain ⟨i7, k1, k9, k10, z, k11, k2, k3, k4, k5, k6, k7⟩ := key h3
      refine ⟨i7, k1, k9, k10, z, k11, k2, k3, k4, k5, k6, fun w8 hO8 hB8 w9 hO9 => ?_⟩
      obtain ⟨a1, a2, a3⟩ := k7 w8 hO8 hB8 w9 hO9
      have z9 := a2.size
      exact ⟨a1, cs, h1, (h2.only a2 fun k hk => .inl (by simp only [List.mem_cons, List.not_mem_nil, or_false] at hk; omega)).wide (by omega) z9, a3⟩
end
end Go.Proofs.YtmanockofcopjaaGreatDoor.Con
