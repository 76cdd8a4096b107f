/-
  Own work: ExprParses: what is written over, the contract.
-/
import Derived.Test.YtdlcmgbidoabmaaGreatDoorReads
import Derived.Test.YtdlcmgbidoabmaaGreatDoorLaw0
namespace Go.Proofs.YtdlcmgbidoabmaaGreatDoor.Con
open Go Go.RowKit Go.Kt Go.Kt.V Go.Proofs.YtdlcmgbidoabmaaGreatDoor.Vc Go.ChangeShapes Go.WideShapes
set_option linter.unusedSimpArgs false
set_option linter.unusedVariables false
set_option maxHeartbeats 4000000
set_option maxRecDepth 100000

/-! ## how many parts a tree has -/
inductive Szx : Ex → Nat → Prop
  | leaf (k n : Int) (s : List UInt8) (op a : Int) : Szx (.mk k n s op [] a) 0
  | one (k n : Int) (s : List UInt8) (op a : Int) (x : Ex) (m : Nat) : Szx x m → Szx (.mk k n s op [x] a) (m + 1)
  | two (k n : Int) (s : List UInt8) (op a : Int) (x y : Ex) (m m' : Nat) : Szx x m → Szx y m' → Szx (.mk k n s op [x, y] a) (m + m' + 2)
theorem loop_sz {ts : List Tk} {E : Nat → Pr} {k : Int} {i0 : Nat} (hE : ∀ i x j, E i = .ok (x, j) → ∃ m, Szx x m ∧ i + m + 1 ≤ j) : ∀ (g : Nat) (x : Ex) (j : Nat) {x' : Ex} {j' : Nat}, loopR ts E k g x j = .ok (x', j') → (∃ m, Szx x m ∧ i0 + m + 1 ≤ j) → ∃ m, Szx x' m ∧ i0 + m + 1 ≤ j'
  | 0, x, j, x', j', h, hx => by
    simp only [loopR, Except.ok.injEq, Prod.mk.injEq] at h
    obtain ⟨rfl, rfl⟩ := h
    exact hx
  | g + 1, x, j, x', j', h, ⟨m, h1, h2⟩ => by
    rw [loopR] at h
    split at h
    · simp only [Except.ok.injEq, Prod.mk.injEq] at h
      obtain ⟨rfl, rfl⟩ := h
      exact ⟨m, h1, h2⟩
    · obtain ⟨y, j2, h3, h4⟩ := andR_ok h
      obtain ⟨m2, h5, h6⟩ := hE _ _ _ h3
      exact loop_sz hE g _ _ h4 ⟨m + m2 + 2, .two _ _ _ _ _ _ _ _ _ h1 h5, by omega⟩
theorem exprR_sz {ts : List Tk} : ∀ (f k d i : Nat) {x : Ex} {j : Nat}, exprR ts f k d i = .ok (x, j) → ∃ m, Szx x m ∧ i + m + 1 ≤ j
  | 0, _, _, _, _, _, h => by cases h
  | f + 1, k, d, i, x, j, h => by
    rw [exprR] at h
    split at h
    · unfold oneR at h
      split at h
      · obtain ⟨y, h1, rfl⟩ := mapR_ok h
        obtain ⟨m, h2, h3⟩ := exprR_sz f _ _ _ (nestR_ok h1).1
        exact ⟨m + 1, .one _ _ _ _ _ _ _ h2, by omega⟩
      · split at h
        · obtain ⟨j', h1, _, rfl⟩ := parR_ok (nestR_ok h).1
          obtain ⟨m, h2, h3⟩ := exprR_sz f _ _ _ h1
          exact ⟨m, h2, by omega⟩
        · split at h
          · simp only [Except.ok.injEq, Prod.mk.injEq] at h
            obtain ⟨rfl, rfl⟩ := h
            exact ⟨0, .leaf .., by omega⟩
          · split at h
            · simp only [Except.ok.injEq, Prod.mk.injEq] at h
              obtain ⟨rfl, rfl⟩ := h
              exact ⟨0, .leaf .., by omega⟩
            · split at h
              · obtain ⟨rfl, rfl⟩ := inR_ok h
                exact ⟨0, .leaf .., by omega⟩
              · cases h
    · obtain ⟨y, m, h1, h2⟩ := andR_ok h
      exact loop_sz (fun i x j h => exprR_sz f _ _ _ h) _ _ _ h2 (exprR_sz f _ _ _ h1)
theorem parse_sz {ts : List Tk} {a : Int} (hj : (parseA ts a).2.2.1 = 0 → 0 ≤ (parseA ts a).2.1 ∧ (parseA ts a).2.1 < ts.length) : ∃ m, Szx (parseA ts a).1 m ∧ m ≤ ts.length := by
  unfold parseA at hj ⊢
  split
  · rename_i hc
    rw [if_pos hc] at hj
    cases hp : parseR ts a.toNat with
    | error e => exact ⟨0, .leaf .., Nat.zero_le _⟩
    | ok q =>
      obtain ⟨x, j⟩ := q
      rw [hp] at hj
      obtain ⟨m, h1, h2⟩ := exprR_sz _ _ _ _ hp
      have := (hj rfl).2
      dsimp only at this
      exact ⟨m, h1, by omega⟩
  · exact ⟨0, .leaf .., Nat.zero_le _⟩

/-! ## Spoil -/
theorem exv_sl {k n : Int} {s : List UInt8} {op : Int} {sl sl' : Sl} {a : Int} (h : exv k n s op sl a = exv k n s op sl' a) : sl = sl' := by
  have := (List.cons.inj (List.cons.inj (List.cons.inj (List.cons.inj (List.cons.inj h).2).2).2).2).1
  simp only [Sl.v, Value.slice.injEq] at this
  obtain ⟨h1, h2, h3⟩ := this
  cases sl
  cases sl'
  simp_all
abbrev spoilt : List Value := [.int .i64 (-7), .int .i64 0, .string (ByteArray.mk #[]), .int .i64 0, Sl.nil.v, .int .i64 0]
theorem spoil_c {w : World} {lo hi : Nat} {x : Ex} {cs : List Value} (h : RX w lo hi x cs) : ∀ {m : Nat}, Szx x m → m ≤ 4611686018427387904 → ∀ sl, cs = exv x.k x.n x.s x.op sl x.a → ∀ w1 : World, w.heap.size ≤ w1.heap.size → (∀ k, lo ≤ k → k < hi → k < w.heap.size → w1.heap[k]? = w.heap[k]?) →
    Calls Tryz.prog 11 #[sl.v] w1 fun e w' => e = .returned (.int .i64 (m : Int)) ∧ OnlyP (fun k => lo ≤ k ∧ k < hi) w1 w' := by
  induction h with
  | leaf lo hi k n s op a =>
    intro m hz hm sl hsl w1 hw1 hk
    cases hz
    have := exv_sl hsl
    subst this
    refine ret (pavanelaw05_Spoil_wp Sl.nil (fun v w' => v = .int .i64 ((0 : Nat) : Int) ∧ OnlyP (fun k => lo ≤ k ∧ k < hi) w1 w') w1 ?_)
    unfold pavanelaw05_Spoil_vc
    refine ⟨fun nv i0 i1 w' => i0 = 0 ∧ i1 = 0 ∧ w' = w1, 0, ⟨rfl, rfl, rfl⟩, ?_⟩
    rintro nv _ _ _ ⟨rfl, rfl, rfl⟩
    exact ⟨fun hc => absurd (of_decide_eq_true hc) (by decide), fun _ => ⟨rfl, OnlyP.refl _ _⟩⟩
  | one lo mm g hi k n s op a x cs h1 h2 h3 h4 hn h5 ih =>
    intro m hz hm sl hsl w1 hw1 hk
    cases hz with
    | one _ _ _ _ _ _ m hz =>
    have := exv_sl hsl
    subst this
    obtain ⟨sx, rfl, _⟩ := h1.cells
    refine ret (pavanelaw05_Spoil_wp ⟨some ⟨g, 0, none⟩, 1, 1⟩ (fun v w' => v = .int .i64 ((m + 1 : Nat) : Int) ∧ OnlyP (fun k => lo ≤ k ∧ k < hi) w1 w') w1 ?_)
    unfold pavanelaw05_Spoil_vc
    have hB : Blk w1 g 26 _ := (hk g h2 h4 h5.lt).trans h5
    refine ⟨fun nv i0 i1 w' => (nv = 1 ∧ i0 = 0 ∧ i1 = 0 ∧ w' = w1) ∨ (nv = 0 ∧ i0 = ((m + 1 : Nat) : Int) ∧ i1 = 1 ∧ OnlyP (fun k => lo ≤ k ∧ k < hi) w1 w'), 1, .inl ⟨rfl, rfl, rfl, rfl⟩, ?_⟩
    rintro nv i0 i1 w0 (⟨rfl, rfl, rfl, rfl⟩ | ⟨rfl, rfl, rfl, hO⟩)
    · refine ⟨fun _ => ?_, fun hc => absurd (show decide ((0 : Int) < 1) = false from hc) (by decide)⟩
      refine ⟨⟨g, 0, none⟩, ⟨⟨g, 0, none⟩, rfl, Int.le_refl _, (show (0 : Int) < 1 by decide), rfl⟩, sx, Blk.at1 hB 4 rfl, (ih hz (by omega) sx rfl w0 hw1 fun q q1 q2 q3 => hk q q1 (by omega) q3).mono ?_⟩
      rintro _ w2 ⟨rfl, hO2⟩
      have hB2 := hO2.blk hB (by omega)
      refine ⟨_, rfl, ⟨g, 0, none⟩, ⟨⟨g, 0, none⟩, rfl, Int.le_refl _, (show (0 : Int) < 1 by decide), rfl⟩, g, 0, _, _, rfl, hB2, by simp, fun w3 hO3 hB3 => ⟨0, by omega, .inr ⟨rfl, ?_, by rw [wr' (by omega) (by omega)]; rfl, ?_⟩⟩⟩
      · rw [wr' (x := (0 : Int) + 1) (by decide) (by decide), wr' (by omega) (by omega)]
        omega
      · exact (hO2.mono fun q _ hq => ⟨hq.1, by omega⟩).trans (hO3.p (F := fun q => q = g) fun x hx => .inl (by simpa using hx)) fun q hq => .inl (by subst hq; exact ⟨h2, h4⟩)
    · exact ⟨fun hc => absurd (show decide ((1 : Int) < 1) = true from hc) (by decide), fun _ => ⟨rfl, hO⟩⟩
  | two lo mm m' m2 g hi k n s op a x y cs ds h1 h2 h3 h4 h5 h6 h7 h8 hn h9 ih1 ih2 =>
    intro m hz hm sl hsl w1 hw1 hk
    cases hz with
    | two _ _ _ _ _ _ _ ma mb hz1 hz2 =>
    have := exv_sl hsl
    subst this
    obtain ⟨sx, rfl, _⟩ := h1.cells
    obtain ⟨sy, rfl, _⟩ := h3.cells
    refine ret (pavanelaw05_Spoil_wp ⟨some ⟨g, 0, none⟩, 2, 2⟩ (fun v w' => v = .int .i64 ((ma + mb + 2 : Nat) : Int) ∧ OnlyP (fun k => lo ≤ k ∧ k < hi) w1 w') w1 ?_)
    unfold pavanelaw05_Spoil_vc
    have hB : Blk w1 g 26 _ := (hk g (by omega) h8 h9.lt).trans h9
    refine ⟨fun nv i0 i1 w' => (nv = 2 ∧ i0 = 0 ∧ i1 = 0 ∧ w' = w1) ∨ (nv = 1 ∧ i0 = ((ma + 1 : Nat) : Int) ∧ i1 = 1 ∧ OnlyP (fun k => (lo ≤ k ∧ k < mm) ∨ k = g) w1 w' ∧ Blk w' g 26 (spoilt ++ exv y.k y.n y.s y.op sy y.a)) ∨ (nv = 0 ∧ i0 = ((ma + mb + 2 : Nat) : Int) ∧ i1 = 2 ∧ OnlyP (fun k => lo ≤ k ∧ k < hi) w1 w'), 2, .inl ⟨rfl, rfl, rfl, rfl⟩, ?_⟩
    rintro nv i0 i1 w0 (⟨rfl, rfl, rfl, rfl⟩ | ⟨rfl, rfl, rfl, hO, hBy⟩ | ⟨rfl, rfl, rfl, hO⟩)
    · refine ⟨fun _ => ?_, fun hc => absurd (show decide ((0 : Int) < 2) = false from hc) (by decide)⟩
      refine ⟨⟨g, 0, none⟩, ⟨⟨g, 0, none⟩, rfl, Int.le_refl _, (show (0 : Int) < 2 by decide), rfl⟩, sx, Blk.at1 hB 4 rfl, (ih1 hz1 (by omega) sx rfl w0 hw1 fun q q1 q2 q3 => hk q q1 (by omega) q3).mono ?_⟩
      rintro _ w2 ⟨rfl, hO2⟩
      have hB2 := hO2.blk hB (by omega)
      refine ⟨_, rfl, ⟨g, 0, none⟩, ⟨⟨g, 0, none⟩, rfl, Int.le_refl _, (show (0 : Int) < 2 by decide), rfl⟩, g, 0, _, _, rfl, hB2, by simp, fun w3 hO3 hB3 => ⟨1, by omega, .inr (.inl ⟨rfl, ?_, by rw [wr' (by omega) (by omega)]; rfl, ?_, hB3⟩)⟩⟩
      · rw [wr' (x := (0 : Int) + 1) (by decide) (by decide), wr' (by omega) (by omega)]
        omega
      · exact (hO2.mono fun q _ hq => .inl hq).trans (hO3.p (F := fun q => q = g) fun x hx => .inl (by simpa using hx)) fun q hq => .inl (.inr hq)
    · refine ⟨fun _ => ?_, fun hc => absurd (show decide ((1 : Int) < 2) = false from hc) (by decide)⟩
      have z0 := hO.size
      refine ⟨⟨g, 6, none⟩, ⟨⟨g, 0, none⟩, rfl, (show (0 : Int) ≤ 1 by decide), (show (1 : Int) < 2 by decide), rfl⟩, sy, ?_, (ih2 hz2 (by omega) sy rfl w0 (by omega) fun q q1 q2 q3 => ?_).mono ?_⟩
      · have := Blk.at1 hBy 10 (v := sy.v) rfl
        rw [addr_lit] at this ⊢
        exact this
      · rw [← hk q (by omega) (by omega) q3]
        exact hO.block q (by omega) (by omega)
      rintro _ w2 ⟨rfl, hO2⟩
      have hB2 := hO2.blk hBy (by omega)
      refine ⟨_, rfl, ⟨g, 6, none⟩, ⟨⟨g, 0, none⟩, rfl, (show (0 : Int) ≤ 1 by decide), (show (1 : Int) < 2 by decide), rfl⟩, g, 6, _, _, rfl, hB2, by simp, fun w3 hO3 hB3 => ⟨0, by omega, .inr (.inr ⟨rfl, ?_, by rw [wr' (by omega) (by omega)]; rfl, ?_⟩)⟩⟩
      · rw [wr' (x := ((ma + 1 : Nat) : Int) + 1) (by omega) (by omega), wr' (by omega) (by omega)]
        omega
      · exact ((hO.mono (G := fun q => lo ≤ q ∧ q < hi) fun q _ hq => by omega).trans hO2 fun q hq => .inl (by omega)).trans (hO3.p (F := fun q => q = g) fun x hx => .inl (by simpa using hx)) fun q hq => .inl (by omega)
    · exact ⟨fun hc => absurd (show decide ((2 : Int) < 2) = true from hc) (by decide), fun _ => ⟨rfl, hO⟩⟩

/-! ## the contract -/
theorem parses_c {w : World} {l : Sl} {ts : List Tk} (h : SliceF rTk 4 w (fun _ => True) l ts) (hb : ts.length * 40 ≤ 140737488351232) (a : Int) (ha : InI a) (hE : Er w) (hT : Tb w) : Calls Tryz.prog 3 #[l.v, .int .i64 a] w fun e w' => e = .returned (.bool true) ∧ Only [] w w' := by
  refine ret (pavanelaw05_ExprParses_wp l a (fun v w' => v = .bool true ∧ Only [] w w') w ?_)
  unfold pavanelaw05_ExprParses_vc
  have h := h.inHeap rTk_ok (by decide)
  refine (small_c w hE hT).mono ?_
  rintro _ w0 ⟨rfl, hO0⟩
  have z0 := hO0.size
  have h0 := SliceF.only rTk_ok (by decide) h hO0 (by simp)
  obtain ⟨y, w1, k1, l1, w2, k2, hown, hO2, _⟩ := clone_own (P := Tryz.prog) (t := 22) (ty := 22) (e := 46) (i := Tryz.t46) (bytes := 40) (size := 4) (r := rTk) (by kernel_rfl) (by kernel_rfl) rfl rfl rfl rfl (by decide) rTk_ok h0 (by omega) (by decide)
  have hO02 : Only [] w w2 := hO0.tr0 hO2
  have z2 := hO2.size
  have h2 := SliceF.only rTk_ok (by decide) h hO02 (by simp)
  have hcp : SliceF rTk 4 w2 (fun k => k < w2.heap.size) l1 ts := (SliceF.inHeap rTk_ok (hown.slice rTk_ok) (by decide)).mono rTk_ok fun k hk => hk.2
  have hbig := h.big
  have hcap := h.cap
  have hlen := h.len
  refine ⟨true, rfl, y, w1, k1, l1, w2, k2, (parse_c h2 a ha).mono ?_⟩
  rintro _ w3 ⟨cs, rfl, hX, hj, hO3⟩
  have z3 := hO3.size
  have hsz := parse_sz hj
  generalize hpa : parseA ts a = pa at *
  obtain ⟨x, j, c, p⟩ := pa
  dsimp only at hX hj hsz ⊢
  obtain ⟨m, hm1, hm2⟩ := hsz
  obtain ⟨xl, rfl, _⟩ := hX.cells
  obtain ⟨d1, hd1⟩ := hX.ex
  refine ⟨_, _, _, _, _, _, _, _, _, rfl, fun k0 k1 w4 hk0 hk0' hk1 hk1' hO4 => (parse_c (SliceF.only rTk_ok (by decide) h2 (hO3.tr0 hO4) (by simp)) a ha).mono ?_⟩
  rintro _ w5 ⟨ds, rfl, hY, _, hO5⟩
  have z4 := hO4.size
  have z5 := hO5.size
  rw [hpa] at hY ⊢
  dsimp only at hY ⊢
  obtain ⟨yl, rfl, _⟩ := hY.cells
  obtain ⟨d2, hd2⟩ := hY.ex
  refine ⟨_, _, _, _, _, _, _, _, _, rfl, hO5.same (by simp; omega), fun k2 k3 w6 hk2 hk2' hk3 hk3' hO6 => (eparse_r (SliceF.only rTk_ok (by decide) h2 (((hO3.tr0 hO4).tr0 hO5).tr0 hO6) (by simp)) a ha).mono ?_⟩
  rintro _ w7 ⟨es, rfl, hZ, _, hO7⟩
  have z6 := hO6.size
  have z7 := hO7.size
  rw [hpa] at hZ ⊢
  dsimp only at hZ ⊢
  obtain ⟨zl, rfl, _⟩ := hZ.cells
  obtain ⟨d3, hd3⟩ := hZ.ex
  refine ⟨_, _, _, _, _, _, _, _, _, rfl, hO7.same (by simp; omega), fun k4 k5 w8 hk4 hk4' hk5 hk5' hO8 => ?_⟩
  have z8 := hO8.size
  have hO28 := ((((hO3.tr0 hO4).tr0 hO5).tr0 hO6).tr0 hO7).tr0 hO8
  have hO38 := (((hO4.tr0 hO5).tr0 hO6).tr0 hO7).tr0 hO8
  have hO58 := (hO6.tr0 hO7).tr0 hO8
  refine (rsame_c (SliceF.only rTk_ok (by decide) h2 hO28 (by simp)) (SliceF.only rTk_ok (by decide) hcp hO28 (by simp))).mono ?_
  rintro _ w9 ⟨rfl, hO9⟩
  have z9 := hO9.size
  refine ⟨_, rfl, hO9.same (by simp; omega), (same_c true d1 (rEx_only hd1 (hO38.tr0 hO9)) (rEx_only hd3 (hO8.tr0 hO9))).mono ?_⟩
  rintro _ w10 ⟨rfl, hO10⟩
  have z10 := hO10.size
  have hO310 := (hO38.tr0 hO9).tr0 hO10
  refine ⟨_, rfl, hO10.same (by simp; omega), (spoil_c (hX.only hO310 (by simp)) hm1 (by omega) xl rfl w10 (Nat.le_refl _) fun k _ _ _ => rfl).mono ?_⟩
  rintro _ w11 ⟨rfl, hO11⟩
  have z11 := hO11.size
  have hd2' : rEx d2 w11 (fun k => w4.heap.size ≤ k ∧ k < w5.heap.size) x _ := (rEx_ok d2).keep (rEx_only hd2 ((hO58.tr0 hO9).tr0 hO10)) fun k hk hlt => hO11.block k hlt (by omega)
  have hd3' : rEx d3 w11 (fun k => w6.heap.size ≤ k ∧ k < w7.heap.size) x _ := (rEx_ok d3).keep (rEx_only hd3 ((hO8.tr0 hO9).tr0 hO10)) fun k hk hlt => hO11.block k hlt (by omega)
  refine ⟨_, rfl, hO11.same fun k hk => ?_, (same_c true d2 hd2' hd3').mono ?_⟩
  · simp only [List.mem_cons, List.not_mem_nil, or_false] at hk
    omega
  rintro _ w12 ⟨rfl, hO12⟩
  refine ⟨_, rfl, hO12.same (by simp; omega), ?_, ?_⟩
  · rw [same_self, same_self]
    simp
  · exact (((hO02.tr0 hO3).tr0 hO310).trP hO11).only (fun k hk => by omega) |>.tr0 hO12

/-! ## tokens handed in -/
section
variable {H : Type} {enc : TypeId × Value → H} {W : World} {base : Nat} {spare : Nat → Bool} {held : Bool}
def rTxt : Rp ByteArray := fun _ _ s cs => cs = [.string s]
theorem opens_txt {t : TypeId} (ht : Tryz.prog.underlying t = some .string) : Opens enc Tryz.prog W base spare held t rTxt := fun fuel cs x h _ => by
  obtain ⟨s, rfl, rfl, _⟩ := DataW.trod_string ht h
  exact ⟨s, rfl⟩
theorem opens_tok : Opens enc Tryz.prog W base spare held 46 rTk := by
  have h := opens_struct (enc := enc) (P := Tryz.prog) (W := W) (base := base) (spare := spare) (held := held) (T := 4) Tryz.underlying46 (by kernel_rfl)
    (fo_cons (s := 1) rfl (by kernel_rfl) (opens_int Tryz.underlying3) (fo_cons (s := 1) rfl (by kernel_rfl) (opens_txt Tryz.underlying9) (fo_cons (s := 1) rfl (by kernel_rfl) (opens_int Tryz.underlying3) (fo_cons (s := 1) rfl (by kernel_rfl) (opens_int Tryz.underlying3) (fo_nil rfl)))))
  refine h.map (fun x => (⟨x.1, x.2.1.data.toList, x.2.2.1, x.2.2.2.1⟩ : Tk)) ?_
  rintro ⟨k, s, n, a, u⟩ cs ⟨c1, r1, rfl, ⟨rfl, _⟩, c2, r2, rfl, rfl, c3, r3, rfl, ⟨rfl, _⟩, c4, r4, rfl, ⟨rfl, _⟩, hu⟩
  have hu : r4 = [] := hu
  subst hu
  show [_, Value.string s, _, _] = [_, Value.string (T s.data.toList), _, _]
  rw [← T_of s]
end
end Go.Proofs.YtdlcmgbidoabmaaGreatDoor.Con
