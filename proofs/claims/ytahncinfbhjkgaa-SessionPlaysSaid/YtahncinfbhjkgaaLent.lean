/-
  Own work: bytes.Clone, and what the laws do with bytes that they lend and own: Lent, Kept, Owned.
-/
import Derived.Test.YtahncinfbhjkgaaFrame
import Derived.Test.YtahncinfbhjkgaaVcs
namespace Go.Proofs.Ytahncinfbhjkgaa.Con
open Go Go.RowKit Go.Kt Go.Proofs.Ytahncinfbhjkgaa.Vc
set_option linter.unusedSimpArgs false
set_option linter.unusedVariables false

theorem ret {P : Program} {f : FuncId} {a : Array Value} {w : World} {r : Value} {Q : World → Prop} (h : Calls P f a w fun e w' => ∃ v, e = .returned v ∧ v = r ∧ Q w') : Calls P f a w fun e w' => e = .returned r ∧ Q w' :=
  h.mono (by rintro e w' ⟨v, rfl, rfl, hq⟩; exact ⟨rfl, hq⟩)
theorem retE {P : Program} {f : FuncId} {a : Array Value} {w : World} {Q : Value → World → Prop} (h : Calls P f a w fun e w' => ∃ v, e = .returned v ∧ Q v w') : Calls P f a w fun e w' => ∃ v, e = .returned v ∧ Q v w' := h

theorem bclone_c {w : World} {F : Nat → Prop} {s : Sl} {l : List UInt8} (h : SliceF rByte 1 w F s l) (hm : l.length ≤ 140737488355328) :
    Calls Try.prog 27 #[Sl.v s] w fun e w' => ∃ s' : Sl, e = .returned s'.v ∧ Own rByte 1 5 w.heap.size w' (fun _ => False) s' l ∧ Only [] w w' := by
  refine (bytes_Clone_wp s (fun v w' => ∃ s' : Sl, v = s'.v ∧ Own rByte 1 5 w.heap.size w' (fun _ => False) s' l ∧ Only [] w w') w ?_).mono (by
    rintro e w' ⟨v, rfl, s', rfl, h⟩; exact ⟨s', rfl, h⟩)
  unfold bytes_Clone_vc
  refine ⟨fun hc => ?_, fun hc => ?_⟩
  · have := nil_of h (by simpa using hc)
    subst this
    exact ⟨Sl.nil, rfl, Own.nil _ _ _ _ _ _, Only.refl _ _⟩
  · obtain ⟨x1, w1, k1, x2, w2, k2, k3, k4, k5⟩ := clone_own (P := Try.prog) (t := 27) (ty := 27) (e := 5) (i := Try.t5) (z := .int .u8 0) (bytes := 1) (by kernel_rfl) (by kernel_rfl) rfl rfl rfl rfl (by decide) rByte_ok h (by simpa using hm) (by decide)
    exact ⟨x1, w1, k1, x2, w2, k2, x2, rfl, k3.bytes, k4⟩

/-! ## lent bytes -/
theorem bytes_of_blk {w : World} {g : Nat} {t : TypeId} {l : List UInt8} {tail : List Value} {c : Nat} (h : Blk w g t (l.map byteV ++ tail)) (hc : l.length ≤ c) (h63 : c ≤ 9223372036854775807) :
    SliceF rByte 1 w (fun k => k = g) ⟨some ⟨g, 0, none⟩, l.length, c⟩ l :=
  ⟨rfl, hc, fun h => (by cases h), h63, fun j x hx => ⟨_, [byteV x], rfl, rfl, rfl, by
    rw [addr_lit]
    refine h.cells _ _ fun i v hi => ?_
    cases i with
    | zero =>
      simp only [List.getElem?_cons_zero, Option.some.injEq] at hi
      subst hi
      rw [show 0 + j * 1 + 0 = j by omega, List.getElem?_append_left (by rw [List.length_map]; exact (List.getElem?_eq_some_iff.1 hx).1), List.getElem?_map, hx]
      rfl
    | succ i => simp at hi, rfl⟩⟩
structure LentAt (w : World) (s : Sl) (g : Nat) (l : List UInt8) : Prop where
  sl : s = ⟨some ⟨g, 0, none⟩, l.length, l.length + 1⟩
  blk : Blk w g 5 (l.map byteV ++ [.int .u8 77])
  len : l.length ≤ 140737488355327
theorem LentAt.slice {w : World} {s : Sl} {g : Nat} {l : List UInt8} (h : LentAt w s g l) : SliceF rByte 1 w (fun k => k = g) s l := by
  rw [h.sl]; exact bytes_of_blk h.blk (by omega) (by have := h.len; omega)
theorem lent_c {w : World} {F : Nat → Prop} {b : Sl} {l : List UInt8} (h : SliceF rByte 1 w F b l) (hm : l.length ≤ 140737488355327) :
    Calls Try.prog 28 #[Sl.v b] w fun e w' => ∃ (s : Sl) (g : Nat), e = .returned s.v ∧ w.heap.size ≤ g ∧ LentAt w' s g l ∧ Only [] w w' := by
  refine (pavanelaw01_Lent_wp b (fun v w' => ∃ (s : Sl) (g : Nat), v = s.v ∧ w.heap.size ≤ g ∧ LentAt w' s g l ∧ Only [] w w') w ?_).mono (by
    rintro e w' ⟨v, rfl, s, g, rfl, h⟩; exact ⟨s, g, rfl, h⟩)
  unfold pavanelaw01_Lent_vc
  have hbl := h.len
  rw [wr' (x := (b.n : Int) + 1) (by omega) (by omega)]
  have hmk := run_make (P := Try.prog) w 27 5 Try.t5 (.int .u8 0) (by kernel_rfl) (by kernel_rfl) rfl .i64 .i64 (b.n : Int) ((b.n : Int) + 1) (by omega) (by omega) (by show (1 : Int) * _ ≤ _; omega) (by omega)
  rw [show ((b.n : Int) + 1).toNat * Try.t5.size = b.n + 1 by show ((b.n : Int) + 1).toNat * 1 = _; omega, show ((b.n : Int) + 1).toNat = b.n + 1 by omega, Int.toNat_natCast] at hmk
  refine ⟨⟨some ⟨w.heap.size, 0, none⟩, b.n, b.n + 1⟩, _, hmk, ?_⟩
  have hB : Blk (w.alloc (.cells (madeCells (Value.int .u8 0).cells (b.n + 1)) 5)) w.heap.size 5 (madeCells (Value.int .u8 0).cells (b.n + 1)).toList := Blk.alloc w _ _
  have hml : (madeCells (Value.int .u8 0).cells (b.n + 1)).toList.length = b.n + 1 := by rw [Array.length_toList, size_madeCells]
  have hO : Only [] w (w.alloc (.cells (madeCells (Value.int .u8 0).cells (b.n + 1)) 5)) := Only.alloc _ _
  generalize (madeCells (Value.int .u8 0).cells (b.n + 1)) = mc at *
  generalize hw1 : w.alloc (.cells mc 5) = w1 at *
  have key : ∃ w2, (Builtin.copy_ #[27, 27] 3 #[Sl.v ⟨some ⟨w.heap.size, 0, none⟩, b.n, b.n + 1⟩, Sl.v b]).run Try.prog w1 = .ok (.int .i64 b.n) w2 ∧ (∃ y, Blk w2 w.heap.size 5 (l.map byteV ++ [y])) ∧ Only [] w w2 := by
    obtain ⟨ba, bn, bc⟩ := b
    dsimp only at *
    by_cases hn : bn = 0
    · subst hn
      have hl0 : l = [] := List.eq_nil_of_length_eq_zero hbl.symm
      subst hl0
      refine ⟨w1, run_copy_none w1 _ _ _ 5 _ _ _ _ _ _ (by kernel_rfl) (by kernel_rfl) (by simp), ?_, hO⟩
      obtain ⟨y, hy⟩ := List.length_eq_one_iff.1 hml
      exact ⟨y, by rw [hy] at hB; simpa using hB⟩
    · have hne : l ≠ [] := fun e => hn (by rw [hbl, e]; rfl)
      obtain ⟨ad, h1, h2⟩ := h.bytes.rd.2 hne
      dsimp only at h1
      subst h1
      have hlt := h2.lt' (by simpa using hne)
      have hsrc : Cells w1 ad (l.map byteV) := h2.keep (hO.block _ hlt (by simp))
      have hc := run_copy_row (P := Try.prog) w1 27 27 3 5 w.heap.size 0 bn (bn + 1) ad bn bc mc 5 (l.map byteV) (by kernel_rfl) (by kernel_rfl) (by have := hB; simpa [Blk] using this) (by simp [hbl]) hsrc (by rw [List.length_map]; rw [Array.length_toList] at hml; omega) (fun v hv => by
        obtain ⟨c, _, rfl⟩ := List.mem_map.1 hv; rfl)
      rw [List.length_map, ← hbl, Nat.zero_add, List.take_zero, List.nil_append] at hc
      refine ⟨_, hc, ?_, hO.trans (Only.setRow _ _ _) (by simp)⟩
      have hd : (mc.toList.drop bn).length = 1 := by rw [List.length_drop, hml]; omega
      obtain ⟨y, hy⟩ := List.length_eq_one_iff.1 hd
      exact ⟨y, by rw [hy]; exact hB.setRow _⟩
  obtain ⟨w2, k1, ⟨y, k2⟩, k3⟩ := key
  refine ⟨_, w2, k1, b.n + 1, ⟨by omega, by omega, by dsimp only; omega, Nat.le_refl _⟩, ⟨w.heap.size, b.n, none⟩, ⟨⟨w.heap.size, 0, none⟩, rfl, by omega, by simp only [Sl.cut]; omega, by rw [addr_lit, Int.toNat_natCast]; congr 1; omega⟩, w.heap.size, b.n, _, _, rfl, k2, by simp [hbl], fun w3 hO3 hb3 => ?_⟩
  rw [splice_one (by simp [hbl]), hbl, show l.length = (l.map byteV).length by simp, List.set_append_right _ _ (Nat.le_refl _), Nat.sub_self] at hb3
  exact ⟨_, w.heap.size, rfl, Nat.le_refl _, ⟨by rw [hbl], hb3, hm⟩, k3.trans hO3 (by simp)⟩

theorem kept_c {w : World} {F : Nat → Prop} {s b : Sl} {g : Nat} {l : List UInt8} (hs : LentAt w s g l) (h : SliceF rByte 1 w F b l) :
    Calls Try.prog 29 #[Sl.v s, Sl.v b] w fun e w' => e = .returned (.bool true) ∧ Only [] w w' := by
  refine ret (pavanelaw01_Kept_wp s b (fun v w' => v = _ ∧ Only [] w w') w ?_)
  unfold pavanelaw01_Kept_vc
  have hbl := h.len
  have hm := hs.len
  refine ⟨l, hs.slice.bytes.rd, l, h.bytes.rd, l.length + 1, fun _ => ?_, ⟨g, l.length, none⟩, fun _ => ?_, 77, fun _ => ?_, ?_, Only.refl _ _⟩
  · rw [hbl, wr' (by omega) (by omega), hs.sl]
    dsimp only
    omega
  · rw [hs.sl]
    exact ⟨⟨g, 0, none⟩, rfl, by omega, by simp only [Sl.cut]; omega, by rw [addr_lit, hbl, Int.toNat_natCast]; congr 1; omega⟩
  · refine hs.blk.cells _ _ fun j v hj => ?_
    cases j with
    | zero =>
      simp only [List.getElem?_cons_zero, Option.some.injEq] at hj
      subst hj
      rw [Nat.add_zero, List.getElem?_append_right (by simp)]
      simp
    | succ j => simp at hj
  · simp

/-! ## owned bytes: one row -/
def rSlRaw : Rp Sl := fun _ _ s cs => cs = [s.v]
theorem rSlRaw_ok : rSlRaw.Ok where
  keep h _ := h
  inHeap h := h
  mono h _ := h
  one h v hv := by
    rw [show _ = [Sl.v _] from h] at hv
    simp only [List.mem_singleton] at hv
    subst hv
    rfl
/-- the memory of x is its owner's, spare room too -/
structure Room (w : World) (x : Sl) : Prop where
  cap : x.n ≤ x.c
  big : x.c ≤ 9223372036854775807
  mem : x.c = 0 ∨ ∃ g o cs t, x.a = some ⟨g, o, none⟩ ∧ Blk w g t cs ∧ o + x.c ≤ cs.length
theorem Own.room {w : World} {F : Nat → Prop} {e : TypeId} {B : Nat} {s : Sl} {l : List UInt8} (h : Own rByte 1 e B w F s l) : Room w s := by
  rcases h with ⟨rfl, rfl⟩ | ⟨g, css, tail, h1, h2, h4, h5, h6, h7, h9, h8⟩
  · exact ⟨Nat.le_refl _, by decide, .inl rfl⟩
  · refine ⟨h7, h9, .inr ⟨g, 0, _, e, h1, h4, ?_⟩⟩
    rw [List.length_append, h8.flen, h5]; omega
theorem LentAt.room {w : World} {s : Sl} {g : Nat} {l : List UInt8} (h : LentAt w s g l) : Room w s := by
  have := h.len
  rw [h.sl]
  exact ⟨by dsimp only; omega, by dsimp only; omega, .inr ⟨g, 0, _, _, rfl, h.blk, by simp⟩⟩
/-- blocks keep their sort and their length -/
def Shape (w w' : World) : Prop := ∀ g t cs, Blk w g t cs → ∃ cs', Blk w' g t cs' ∧ cs'.length = cs.length
theorem Shape.trans {w w' w'' : World} (h : Shape w w') (k : Shape w' w'') : Shape w w'' := fun g t cs hb => by
  obtain ⟨c1, h1, h2⟩ := h g t cs hb
  obtain ⟨c2, k1, k2⟩ := k g t c1 h1
  exact ⟨c2, k1, k2.trans h2⟩
theorem _root_.Go.Kt.Only.shape {w w' : World} (h : Only [] w w') : Shape w w' := fun g t cs hb => ⟨cs, h.blk hb (by simp), rfl⟩
theorem _root_.Go.Kt.Only.shape1 {w w' : World} {g : Nat} {t : TypeId} {cs cs' : List Value} (h : Only [g] w w') (hb : Blk w g t cs) (hb' : Blk w' g t cs') (hl : cs'.length = cs.length) : Shape w w' := fun k u ds hk => by
  by_cases hg : k = g
  · subst hg
    have e := hb.symm.trans hk
    injection e with e
    injection e with e1 e2
    subst e2
    have e3 : cs = ds := by simpa using e1
    subst e3
    exact ⟨cs', hb', hl⟩
  · exact ⟨ds, h.blk hk (by simpa using hg), rfl⟩
theorem Room.shape {w w' : World} {x : Sl} (h : Room w x) (hs : Shape w w') : Room w' x := ⟨h.cap, h.big, h.mem.imp id fun ⟨g, o, cs, t, h1, h2, h3⟩ => by
  obtain ⟨cs', k1, k2⟩ := hs g t cs h2
  exact ⟨g, o, cs', t, h1, k1, by omega⟩⟩
/-- what an owner may write over -/
abbrev Mine (x : Sl) : Nat → Prop := fun k => x.c ≠ 0 ∧ k = x.blk
theorem owned2_c {w : World} {F : Nat → Prop} {rows x : Sl} (h : SliceF rSlRaw 1 w F rows [x]) (hx : Room w x) (hF : ∀ k, F k → ¬ Mine x k) :
    Calls Try.prog 22 #[Sl.v rows] w fun e w' => ∃ t : Bool, e = .returned (.bool t) ∧ OnlyP (Mine x) w w' ∧ Shape w w' := by
  refine (pavanelaw01_Owned_wp rows (fun v w' => ∃ t : Bool, v = .bool t ∧ OnlyP (Mine x) w w' ∧ Shape w w') w ?_).mono (by
    rintro e w' ⟨v, rfl, t, rfl, h⟩; exact ⟨t, rfl, h⟩)
  unfold pavanelaw01_Owned_vc
  have hl := h.len
  have hcp := hx.cap
  have hbig := hx.big
  simp only [List.length_cons, List.length_nil] at hl
  obtain ⟨g, o, t, L, hgo⟩ : ∃ g o t L, x.c = 0 ∨ (x.a = some ⟨g, o, none⟩ ∧ o + x.c ≤ L ∧ ∃ cs, Blk w g t cs ∧ cs.length = L) := by
    rcases hx.mem with h | ⟨g, o, cs, t, h1, h2, h3⟩
    · exact ⟨0, 0, 0, 0, .inl h⟩
    · exact ⟨g, o, t, cs.length, .inr ⟨h1, h3, cs, h2, rfl⟩⟩
  -- what holds of the row's memory: n places hold bytes
  let Good : Nat → World → Prop := fun n w' => x.c = 0 ∨ (x.a = some ⟨g, o, none⟩ ∧ o + x.c ≤ L ∧ ∃ cs, Blk w' g t cs ∧ cs.length = L ∧ ∀ j, j < n → ∃ v : Int, cs[o + j]? = some (.int .u8 v))
  have hG0 : Good 0 w := hgo.imp id fun ⟨h1, h3, cs, h2, h4⟩ => ⟨h1, h3, cs, h2, h4, fun j hj => by omega⟩
  have row : ∀ {w' : World} {i : Int}, OnlyP (Mine x) w w' → 0 ≤ i → i < rows.n → ∃ ad, SlAt rows i 1 ad ∧ Cells w' ad [Sl.v x] := fun {w' i} hO h0 h1 => by
    obtain ⟨ad, y, cs, g1, g2, g3, g4, g5, g6⟩ := (SliceF.onlyP rSlRaw_ok (by decide) h hO (fun k hk _ => hF k hk)).get h0 h1
    rw [show i.toNat = 0 by omega] at g2
    simp only [List.getElem?_cons_zero, Option.some.injEq] at g2
    subst g2
    rw [show cs = [Sl.v x] from g6] at g5
    exact ⟨ad, g1, g5⟩
  have cutn : (Sl.cut x 0 x.c x.c 1).n = x.c := rfl
  refine ⟨fun nv i w' => OnlyP (Mine x) w w' ∧ Shape w w' ∧ 0 ≤ i ∧ i ≤ 1 ∧ nv = (1 - i).toNat ∧ (i = 0 → Good 0 w') ∧ (i = 1 → Good x.c w'), 1, ⟨OnlyP.refl _ _, (Only.refl [] w).shape, by decide, by decide, rfl, fun _ => hG0, fun h => by cases h⟩, ?_⟩
  rintro nv i w1 ⟨hO1, hS1, hi0, hi1, rfl, hg0, hg1⟩
  refine ⟨fun hc => ?_, fun hc => ?_⟩
  · have hc : i < rows.n := of_decide_eq_true hc
    have hi : i = 0 := by omega
    subst hi
    obtain ⟨ad, r1, r2⟩ := row hO1 (by decide) hc
    refine ⟨ad, r1, x, r2, ad, r1, x, r2, x.c, ⟨rfl, Nat.zero_le _, Nat.le_refl _, Nat.le_refl _⟩, fun w2 hO2 => ?_⟩
    rw [cutn]
    refine ⟨fun nv k w' => OnlyP (Mine x) w w' ∧ Shape w w' ∧ ∃ n : Nat, k = (n : Int) ∧ n ≤ x.c ∧ nv = x.c - n ∧ Good n w', x.c, ⟨hO1.tr0 hO2, hS1.trans hO2.shape, 0, rfl, Nat.zero_le _, rfl, ?_⟩, ?_⟩
    · exact (hg0 rfl).imp id fun ⟨h1, h3, cs, h2, h5, h4⟩ => ⟨h1, h3, cs, hO2.blk h2 (by simp), h5, h4⟩
    · rintro nv _ w3 ⟨hO3, hS3, n, rfl, hn, rfl, hg⟩
      refine ⟨fun hc => ?_, fun hc => ?_⟩
      · have hc : (n : Int) < x.c := of_decide_eq_true hc
        rcases hg with h0 | ⟨ha, h3, cs, h2, h5, h4⟩
        · omega
        · refine ⟨⟨g, o + n, none⟩, ⟨⟨g, o, none⟩, by rw [Sl.cut, if_neg (by omega), ha]; rfl, by omega, by rw [cutn]; omega, by rw [addr_lit, Int.toNat_natCast]; congr 1; omega⟩, g, o + n, cs, t, rfl, h2, by omega, fun w4 hO4 hb4 => ?_⟩
          have hgx : x.blk = g := by simp [Sl.blk, ha]
          rw [wr' (x := (n : Int) + 1) (by omega) (by omega)]
          rw [splice_one (by omega)] at hb4
          refine ⟨x.c - (n + 1), by omega, hO3.trans (hO4.p (F := Mine x) fun k hk => .inl (by simp only [List.mem_singleton] at hk; subst hk; exact ⟨by omega, hgx.symm⟩)) fun k hk => .inl hk, hS3.trans (hO4.shape1 h2 hb4 (by rw [List.length_set])), n + 1, by omega, by omega, rfl, .inr ⟨ha, h3, _, hb4, by rw [List.length_set]; exact h5, fun j hj => ?_⟩⟩
          by_cases hjn : j = n
          · subst hjn
            exact ⟨_, List.getElem?_set_self (by omega)⟩
          · rw [List.getElem?_set_ne (by omega)]
            exact h4 j (by omega)
      · have hc : ¬ (n : Int) < x.c := of_decide_eq_false hc
        have hnc : n = x.c := by omega
        subst hnc
        exact ⟨0, by decide, hO3, hS3, by decide, by decide, rfl, fun h => (by cases h), fun _ => hg⟩
  · have hc : ¬ i < rows.n := of_decide_eq_false hc
    have hi : i = 1 := by omega
    subst hi
    have hgc := hg1 rfl
    refine ⟨fun nv i w' => OnlyP (Mine x) w w' ∧ Shape w w' ∧ 0 ≤ i ∧ i ≤ 1 ∧ nv = (1 - i).toNat ∧ Good x.c w', 1, ⟨hO1, hS1, by decide, by decide, rfl, hgc⟩, ?_⟩
    rintro nv i w2 ⟨hO2, hS2, hi0, hi1, rfl, hg⟩
    refine ⟨fun hc => ?_, fun hc => ⟨true, rfl, hO2, hS2⟩⟩
    have hc : i < rows.n := of_decide_eq_true hc
    have hi : i = 0 := by omega
    subst hi
    obtain ⟨ad, r1, r2⟩ := row hO2 (by decide) hc
    refine ⟨ad, r1, x, r2, ad, r1, x, r2, x.c, ⟨rfl, Nat.zero_le _, Nat.le_refl _, Nat.le_refl _⟩, fun w3 hO3 => ?_⟩
    rw [cutn]
    have hg3 : Good x.c w3 := hg.imp id fun ⟨h1, h3, cs, h2, h5, h4⟩ => ⟨h1, h3, cs, hO3.blk h2 (by simp), h5, h4⟩
    have hS3 := hS2.trans hO3.shape
    refine ⟨fun nv k w' => w3 = w' ∧ ∃ n : Nat, k = (n : Int) ∧ n ≤ x.c ∧ nv = x.c - n, x.c, ⟨rfl, 0, rfl, Nat.zero_le _, rfl⟩, ?_⟩
    rintro nv _ _ ⟨rfl, n, rfl, hn, rfl⟩
    refine ⟨fun hc => ?_, fun hc => ⟨0, by decide, hO2.tr0 hO3, hS3, by decide, by decide, rfl, hg3⟩⟩
    have hc : (n : Int) < x.c := of_decide_eq_true hc
    rcases hg3 with h0 | ⟨ha, h3, cs, h2, h5, h4⟩
    · omega
    · obtain ⟨v, hv⟩ := h4 n (by omega)
      refine ⟨⟨g, o + n, none⟩, ⟨⟨g, o, none⟩, by rw [Sl.cut, if_neg (by omega), ha]; rfl, by omega, by rw [cutn]; omega, by rw [addr_lit, Int.toNat_natCast]; congr 1; omega⟩, v, h2.cells _ _ fun j u hj => ?_, fun _ => ⟨false, rfl, hO2.tr0 hO3, hS3⟩, fun _ => ?_⟩
      · cases j with
        | zero =>
          simp only [List.getElem?_cons_zero, Option.some.injEq] at hj
          subst hj
          exact hv
        | succ j => simp at hj
      · rw [wr' (x := (n : Int) + 1) (by omega) (by omega)]
        exact ⟨x.c - (n + 1), by omega, rfl, n + 1, by omega, by omega, rfl⟩
theorem owned_c {w : World} {F : Nat → Prop} {rows x : Sl} (h : SliceF rSlRaw 1 w F rows [x]) (hx : Room w x) (hF : ∀ k, F k → k ≠ x.blk) :
    Calls Try.prog 22 #[Sl.v rows] w fun e w' => ∃ t : Bool, e = .returned (.bool t) ∧ Only [x.blk] w w' :=
  (owned2_c h hx fun k hk hm => hF k hk hm.2).mono (by rintro e w' ⟨t, h1, h2, _⟩; exact ⟨t, h1, h2.only' fun k hk => .inl (by simp [hk.2])⟩)
end Go.Proofs.Ytahncinfbhjkgaa.Con
