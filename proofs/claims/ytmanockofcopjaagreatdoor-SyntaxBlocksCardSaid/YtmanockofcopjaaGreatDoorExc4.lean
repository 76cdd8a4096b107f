
/-
  Own work: what the functions of the expression reader do: expressions of each row.
-/
import Derived.Test.YtmanockofcopjaaGreatDoorExc3
namespace Go.Proofs.YtmanockofcopjaaGreatDoor.Con
open Go Go.RowKit Go.Kt Go.Kt.V Go.Proofs.YtmanockofcopjaaGreatDoor.Vc
set_option linter.unusedSimpArgs false
set_option linter.unusedVariables false
set_option maxHeartbeats 4000000

section
variable {F G : Nat → Prop} {ts : List Tk} {w w' : World} {b : Nat} {l sn : Sl} {i : Nat} {fc fa d : Int}
theorem loop_zero {E : Nat → Pr} {k : Int} {g : Nat} {x : Ex} {j : Nat} (h : opAt ts k j = 0) : loopR ts E k g x j = .ok (x, j) := by
  cases g with
  | zero => rfl
  | succ g => rw [loopR, if_pos h]
/-- where the loop of a row stands -/
def At5 (F G : Nat → Prop) (ts : List Tk) (w : World) (b : Nat) (l sn : Sl) (d : Nat) (N : Nat → Prop) (E : Nat → Pr) (k : Int) (R : Pr) (nv : Nat) (op : Int) (cs : List Value) (w' : World) : Prop := Only [b] w w' ∧
  ((∃ (c a : Int) (j : Nat), op = 0 ∧ c ≠ 0 ∧ R = .error (c, a) ∧ Rd F G ts w' b l sn j c a (d : Int)) ∨
   (∃ (x : Ex) (j : Nat), op = opAt ts k j ∧ RXN w' N w.heap.size w'.heap.size x cs ∧ Rd F G ts w' b l sn j 0 0 (d : Int) ∧ R = loopR ts E k nv x j ∧ ts.length - j ≤ nv))
theorem expr_step {f k d : Nat} (hk6 : k < 6) (h : Rd F G ts w b l sn i 0 0 (d : Int))
    (hE : ∀ w i, Rd F G ts w b l sn i 0 0 (d : Int) → Calls Tryz.prog 92 #[.pointer (some ⟨b, 0, none⟩), .int .i64 ((k + 1 : Nat) : Int)] w fun e w' => ∃ v, e = .returned v ∧ Did5 F G ts w w' b l sn d (exprR ts f (k + 1) d i) v) :
    Calls Tryz.prog 92 #[.pointer (some ⟨b, 0, none⟩), .int .i64 (k : Int)] w fun e w' => ∃ v, e = .returned v ∧ Did5 F G ts w w' b l sn d (exprR ts (f + 1) k d i) v := by
  have eR : exprR ts (f + 1) k d i = andR (exprR ts f (k + 1) d i) fun x j => loopR ts (exprR ts f (k + 1) d) (k : Int) (ts.length - j) x j := by rw [exprR, if_neg (by omega)]
  rw [eR]
  have hmono : ∀ i x j, exprR ts f (k + 1) d i = .ok (x, j) → i < j := fun i x j h => exprR_mono f _ _ i h
  generalize hgE : exprR ts f (k + 1) d = E at *
  generalize hR : (andR (E i) fun x j => loopR ts E (k : Int) (ts.length - j) x j) = R
  refine expr_reader_expr_wp ⟨b, 0, none⟩ _ (fun v w' => Did5 F G ts w w' b l sn d R v) w ?_
  unfold expr_reader_expr_vc
  have ek : IntKind.wrap .i64 ((k : Int) + 1) = ((k + 1 : Nat) : Int) := by rw [wr' (by omega) (by omega)]; rfl
  refine ⟨fun hc => absurd (by simpa using hc) (by omega : ¬ (k : Int) = 6), fun _ k1 w3 hk1 hk1' hO3 => ?_⟩
  have hb := h.lb
  rw [ek]
  refine (hE w3 i (h.only hO3)).mono ?_
  rintro _ w4 ⟨v, rfl, hD⟩
  obtain ⟨vk, vn, vs, vo, vl, va, rfl⟩ := hD.typed
  have z3 := hO3.size
  have z4 := hD.1.size
  refine ⟨_, _, _, _, _, _, rfl, hD.1.same (by simp; omega), fun k2 w5 hk2 hk2' hO5 => ?_⟩
  have z5 := hO5.size
  have hO05 : Only [b] w w5 := ((hO3.weaken (bs' := [b]) fun _ h => (by cases h)).trans hD.1 fun x hx => .inl hx).tr0 hO5
  have sm : ∀ {u u' : World}, w5.heap.size ≤ u.heap.size → Only [b] u u' → Same [k1, k2] u u' := fun hu hO => hO.same (by intro x hx; simp only [List.mem_cons, List.not_mem_nil, or_false] at hx ⊢; omega)
  have hbg := h.big
  have hst : ∃ (j : Nat) (c a : Int), Rd F G ts w4 b l sn j c a (d : Int) ∧ ∀ w6, Only [] w4 w6 → ∃ nv, At5 F G ts w b l sn d (fun q => q = k1 ∨ q = k2) E (k : Int) R nv (if c = 0 then opAt ts (k : Int) j else 0) (exv vk vn vs vo vl va) w6 := by
    obtain ⟨hO4, hD2⟩ := hD
    have hO04 : Only [b] w w4 := (hO3.weaken (bs' := [b]) fun _ h => (by cases h)).trans hO4 fun x hx => .inl hx
    cases hEi : E i with
    | error e =>
      rw [hEi] at hD2 hR
      obtain ⟨c, a⟩ := e
      obtain ⟨a1, a2, j, a3⟩ := hD2
      exact ⟨j, c, a, a3, fun w6 hO6 => ⟨0, hO04.tr0 hO6, .inl ⟨c, a, j, if_neg a1, a1, hR.symm, a3.only hO6⟩⟩⟩
    | ok q =>
      obtain ⟨x, j⟩ := q
      rw [hEi] at hD2 hR
      obtain ⟨cs, a1, a2, a3⟩ := hD2
      have hcs : (exv vk vn vs vo vl va) = cs := congrArg Array.toList (Value.agg.inj a1)
      rw [hcs]
      exact ⟨j, 0, 0, a3, fun w6 hO6 => ⟨ts.length - j, hO04.tr0 hO6, .inr ⟨x, j, if_pos rfl, ((a2.only hO6 (by simp)).holes fun q h1 h2 _ => (by omega)).wide z3 hO6.size, a3.only hO6, hR.symm, Nat.le_refl _⟩⟩⟩
  obtain ⟨j0, c0, a0, hR4, hst⟩ := hst
  refine (operator_c (hR4.only hO5) (k : Int)).mono ?_
  rintro _ w6 ⟨rfl, hO6⟩
  have z6 := hO6.size
  obtain ⟨nv0, hA0⟩ := hst w6 (hO5.tr0 hO6)
  refine ⟨_, rfl, hO6.same (by simp; omega), fun nv op i10 i11 s2 i12 l2 i13 w' => w5.heap.size ≤ w'.heap.size ∧ At5 F G ts w b l sn d (fun q => q = k1 ∨ q = k2) E (k : Int) R nv op [.int .i64 i10, .int .i64 i11, .string s2, .int .i64 i12, l2.v, .int .i64 i13] w', nv0, ⟨z6, hA0⟩, ?_⟩
  rintro nv op i10 i11 s2 i12 l2 i13 w7 ⟨z7, hO7, hA⟩
  refine ⟨fun hop => ?_, fun hop w14 hO14 => ?_⟩
  · have hop : op ≠ 0 := by simpa using hop
    rcases hA with ⟨_, _, _, e, _⟩ | ⟨x, j, rfl, hX, hRd, hRe, hnv⟩
    · exact absurd e hop
    have hn := hRd.en.next hRd.lt (opFrom_sg _ _ hop)
    obtain ⟨g, rfl⟩ : ∃ g, nv = g + 1 := ⟨nv - 1, by omega⟩
    rw [loopR, if_neg hop] at hRe
    refine ⟨(j : Int), Blk.at1 hRd.blk 1 rfl, b, 1, _, _, rfl, hRd.blk, by simp, by omega, by omega, fun w8 hO8 hB8 => ?_⟩
    rw [wr' (by omega) (by omega)] at hB8
    have h8 : Rd F G ts w8 b l sn (j + 1) 0 0 (d : Int) := hRd.turn hO8 hB8 hn
    have z8 := hO8.size
    refine (hE w8 (j + 1) h8).mono ?_
    rintro _ w9 ⟨v, rfl, hD9⟩
    obtain ⟨yk, yn, ys, yo, yl, ya, rfl⟩ := hD9.typed
    have z9 := hD9.1.size
    refine ⟨_, _, _, _, _, _, rfl, sm (by omega) hD9.1, fun k8 w10 hk8 hk8' hO10 => ?_⟩
    have z10 := hO10.size
    obtain ⟨w11, k11, hB11, hO11⟩ := buildX w10 [[.int .i64 i10, .int .i64 i11, .string s2, .int .i64 i12, l2.v, .int .i64 i13], exv yk yn ys yo yl ya] (by simp) (by simp) (by simp) (parts := #[(0, .agg #[.int .i64 i10, .int .i64 i11, .string s2, .int .i64 i12, l2.v, .int .i64 i13]), (1, .agg (exv yk yn ys yo yl ya).toArray)]) rfl
    have z11 := hO11.size
    refine ⟨⟨some ⟨w10.heap.size, 0, none⟩, 2, 2⟩, w11, k11, hO11.same (by simp; omega), fun w12 hO12 => ?_⟩
    have z12 := hO12.size
    have hO012 : Only [b] w w12 := ((((hO7.trans hO8 fun x hx => .inl hx).trans hD9.1 fun x hx => .inl hx).tr0 hO10).tr0 hO11).new hO12 (by omega)
    have hO912 : Only [k2] w9 w12 := ((hO10.tr0 hO11).weaken (bs' := [k2]) fun _ h => (by cases h)).trans hO12 fun x hx => .inl hx
    have hst2 : ∃ (j' : Nat) (c a : Int), Rd F G ts w9 b l sn j' c a (d : Int) ∧ ∀ w13, Only [] w12 w13 → ∃ nv, nv < g + 1 ∧ At5 F G ts w b l sn d (fun q => q = k1 ∨ q = k2) E (k : Int) R nv (if c = 0 then opAt ts (k : Int) j' else 0) (exv 5 0 [] (opAt ts (k : Int) j) ⟨some ⟨w10.heap.size, 0, none⟩, 2, 2⟩ i13) w13 := by
      obtain ⟨hO9, hD2⟩ := hD9
      cases hEi : E (j + 1) with
      | error e =>
        rw [hEi] at hD2 hRe
        obtain ⟨c, a⟩ := e
        obtain ⟨a1, a2, j', a3⟩ := hD2
        exact ⟨j', c, a, a3, fun w13 hO13 => ⟨0, by omega, hO012.tr0 hO13, .inl ⟨c, a, j', if_neg a1, a1, hRe, (a3.own hO912 (by simp; omega)).only hO13⟩⟩⟩
      | ok q =>
        obtain ⟨y, j'⟩ := q
        rw [hEi] at hD2 hRe
        obtain ⟨cs, a1, a2, a3⟩ := hD2
        have hcs : (exv yk yn ys yo yl ya) = cs := congrArg Array.toList (Value.agg.inj a1)
        have hjj := hmono _ _ _ hEi
        obtain ⟨xl, hxl, _⟩ := hX.cells
        have hxa : i13 = x.a := by
          simp only [exv, List.cons.injEq, Value.int.injEq] at hxl
          exact hxl.2.2.2.2.2.1.2
        refine ⟨j', 0, 0, a3, fun w13 hO13 => ⟨g, by omega, hO012.tr0 hO13, .inr ⟨.mk 5 0 [] (opAt ts (k : Int) j) [x, y] x.a, j', if_pos rfl, ?_, (a3.own hO912 (by simp; omega)).only hO13, hRe, ?_⟩⟩⟩
        · have z13 := hO13.size
          have hO713 : Only [b, k2] w7 w13 := (((((hO8.weaken (bs' := [b, k2]) fun x hx => .inl (by simp only [List.mem_singleton] at hx; simp [hx])).trans hO9 fun x hx => .inl (by simp only [List.mem_singleton] at hx; simp [hx])).trans hO912 fun x hx => .inl (by simp only [List.mem_singleton] at hx; simp [hx])).tr0 hO13))
          have hO913 : Only [k2] w9 w13 := hO912.tr0 hO13
          have hB13 : Blk w13 w10.heap.size 24 ([.int .i64 i10, .int .i64 i11, .string s2, .int .i64 i12, l2.v, .int .i64 i13] ++ cs) := by
            have := hO13.blk (hO12.blk hB11 (by simp; omega)) (by simp)
            rw [← hcs]
            simpa using this
          have hx13 : RXN w13 (fun q => q = k1 ∨ q = k2) w.heap.size w7.heap.size x [.int .i64 i10, .int .i64 i11, .string s2, .int .i64 i12, l2.v, .int .i64 i13] := by
            exact hX.only hO713 fun q hq => by
              simp only [List.mem_cons, List.not_mem_nil, or_false] at hq
              rcases hq with rfl | rfl
              · exact .inl hb
              · exact .inr (.inr (.inr rfl))
          have hy13 : RXN w13 (fun q => q = k1 ∨ q = k2) w8.heap.size w9.heap.size y cs := (a2.only hO913 fun q hq => .inl (by simp only [List.mem_singleton] at hq; omega)).holes fun q h1 h2 _ => (by omega)
          rw [hxa]
          exact .two w.heap.size w7.heap.size w8.heap.size w9.heap.size w10.heap.size _ _ _ _ _ _ x y _ cs hx13 z8 hy13 (by omega) (by omega) (by omega) (by omega) (by have := hB13.lt; omega) (by omega) hB13
        · omega
    obtain ⟨j', c', a', hR9, hst2⟩ := hst2
    refine (operator_c (hR9.own hO912 (by simp; omega)) (k : Int)).mono ?_
    rintro _ w13 ⟨rfl, hO13⟩
    obtain ⟨nv', hnv', hA'⟩ := hst2 w13 hO13
    exact ⟨_, rfl, hO13.same (by simp; omega), nv', hnv', by have := hO13.size; omega, hA'⟩
  · have hop : op = 0 := by simpa using hop
    refine ⟨hO7.new hO14 (by omega), ?_⟩
    rcases hA with ⟨c, a, j, _, hc, hRe, hRd⟩ | ⟨x, j, hoj, hX, hRd, hRe, hnv⟩
    · rw [hRe]
      exact ⟨hc, ⟨i10, i11, s2.data.toList, i12, l2, i13, by unfold exv; rw [← T_of]⟩, j, hRd.own hO14 (by simp; omega)⟩
    · rw [hRe, loop_zero (by rw [← hoj, hop])]
      exact ⟨_, rfl, ((hX.only hO14 fun q hq => .inr (.inr (.inl (by simpa using hq)))).holes fun _ _ _ _ h => h).wide (Nat.le_refl _) hO14.size, hRd.own hO14 (by simp; omega)⟩
theorem reader_c : ∀ f : Nat, (∀ (k d i : Nat) (w : World), k ≤ 6 → d ≤ 20 → need k d ≤ f → Rd F G ts w b l sn i 0 0 (d : Int) →
      Calls Tryz.prog 92 #[.pointer (some ⟨b, 0, none⟩), .int .i64 (k : Int)] w fun e w' => ∃ v, e = .returned v ∧ Did5 F G ts w w' b l sn d (exprR ts f k d i) v) ∧
    (∀ (d i : Nat) (w : World), d ≤ 20 → need 6 d ≤ f → Rd F G ts w b l sn i 0 0 (d : Int) →
      Calls Tryz.prog 113 #[.pointer (some ⟨b, 0, none⟩)] w fun e w' => ∃ v, e = .returned v ∧ Did5 F G ts w w' b l sn d (exprR ts f 6 d i) v)
  | 0 => ⟨fun k d i w hk hd hn => by unfold need at hn; omega, fun d i w hd hn => by unfold need at hn; omega⟩
  | f + 1 => by
    obtain ⟨ih1, ih2⟩ := reader_c f
    have one : ∀ (d i : Nat) (w : World), d ≤ 20 → need 6 d ≤ f + 1 → Rd F G ts w b l sn i 0 0 (d : Int) →
      Calls Tryz.prog 113 #[.pointer (some ⟨b, 0, none⟩)] w fun e w' => ∃ v, e = .returned v ∧ Did5 F G ts w w' b l sn d (exprR ts (f + 1) 6 d i) v := fun d i w hd hn h => by
      unfold need at hn
      exact eone_c hd h (fun h20 w i h => ih1 0 (d + 1) i w (by omega) (by omega) (by unfold need; omega) h) (fun h20 w i h => ih2 (d + 1) i w (by omega) (by unfold need; omega) h)
    refine ⟨fun k d i w hk hd hn h => ?_, one⟩
    by_cases h6 : k = 6
    · subst h6
      refine expr_reader_expr_wp ⟨b, 0, none⟩ _ (fun v w' => Did5 F G ts w w' b l sn d (exprR ts (f + 1) 6 d i) v) w ?_
      unfold expr_reader_expr_vc
      refine ⟨fun _ k0 w0 hk0 hk0' hO0 => ?_, fun hc => absurd hc (by decide)⟩
      refine (one d i w0 hd hn (h.only hO0)).mono ?_
      rintro _ w1 ⟨v, rfl, hD⟩
      obtain ⟨vk, vn, vs, vo, vl, va, rfl⟩ := hD.typed
      have hb := h.lb
      exact ⟨_, _, _, _, _, _, rfl, hD.1.same (by simp; omega), fun w2 hO2 => hD.around (hO0.weaken fun _ h => (by cases h)) hO2 (by simp; omega)⟩
    · unfold need at hn
      exact expr_step (by omega) h fun w i h => ih1 (k + 1) d i w (by omega) hd (by unfold need; omega) h
end
end Go.Proofs.YtmanockofcopjaaGreatDoor.Con
