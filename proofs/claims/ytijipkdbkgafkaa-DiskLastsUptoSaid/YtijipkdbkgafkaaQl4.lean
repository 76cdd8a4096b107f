import Derived.Test.YtijipkdbkgafkaaQl3
set_option linter.unusedSectionVars false
namespace Go.Proofs.Ytijipkdbkgafkaa.Con
open Go Go.RowKit Go.Kt Go.Kt.V Go.Proofs.Ytijipkdbkgafkaa.Vc
set_option linter.unusedSimpArgs false
set_option linter.unusedVariables false
set_option maxHeartbeats 1000000
set_option maxRecDepth 100000
theorem bytes_of_blk {w : World} {g : Nat} {t : TypeId} {l : List UInt8} {tail : List Value} {c : Nat} (h : Blk w g t (l.map byteV ++ tail)) (hc : l.length <= c) (h63 : c <= 9223372036854775807) :
  SliceF rByte 1 w (fun k => k = g) ⟨some ⟨g, 0, none⟩, l.length, c⟩ l :=
 ⟨rfl, hc, fun h => (by cases h), h63, fun j x hx => ⟨_, [byteV x], rfl, rfl, rfl, by
  rw [addr_lit]
  refine h.cells _ _ fun i v hi => ?_
  cases i with
  | zero =>
   simp only [List.getElem?_cons_zero, Option.some.injEq] at hi
   subst hi
   rw [show 0 + j * 1 + 0 = j by omega, List.getElem?_append_left (by rw [List.length_map]; exact (List.getElem?_eq_some_iff.1 hx).1), List.getElem?_map, hx]
   rfl
  | succ i => simp at hi, rfl⟩⟩
structure LentAt (w : World) (s : Sl) (g : Nat) (l : List UInt8) : Prop where
 sl : s = ⟨some ⟨g, 0, none⟩, l.length, l.length + 1⟩
 blk : Blk w g 5 (l.map byteV ++ [.int .u8 77])
 len : l.length <= 140737488355327
theorem LentAt.slice {w : World} {s : Sl} {g : Nat} {l : List UInt8} (h : LentAt w s g l) : SliceF rByte 1 w (fun k => k = g) s l := by
 rw [h.sl]; exact bytes_of_blk h.blk (by omega) (by have := h.len; omega)
theorem lent_c {w : World} {F : Nat -> Prop} {b : Sl} {l : List UInt8} (h : SliceF rByte 1 w F b l) (hm : l.length <= 140737488355327) :
  Calls Try.prog 36 #[Sl.v b] w fun e w' => ∃ (s : Sl) (g : Nat), e = .returned s.v /\ w.heap.size <= g /\ LentAt w' s g l /\ Only [] w w' := by
 refine (v23w b (fun v w' => ∃ (s : Sl) (g : Nat), v = s.v /\ w.heap.size <= g /\ LentAt w' s g l /\ Only [] w w') w ?_).mono (by
  rintro e w' ⟨v, rfl, s, g, rfl, h⟩; exact ⟨s, g, rfl, h⟩)
 unfold v23v
 have hbl := h.len
 rw [wr' (x := (b.n : Int) + 1) (by omega) (by omega)]
 have hmk := run_make (P := Try.prog) w 33 5 Try.t5 (.int .u8 0) (by kernel_rfl) (by kernel_rfl) rfl .i64 .i64 (b.n : Int) ((b.n : Int) + 1) (by omega) (by omega) (by show (1 : Int) * _ <= _; omega) (by omega)
 rw [show ((b.n : Int) + 1).toNat * Try.t5.size = b.n + 1 by show ((b.n : Int) + 1).toNat * 1 = _; omega, show ((b.n : Int) + 1).toNat = b.n + 1 by omega, Int.toNat_natCast] at hmk
 refine ⟨⟨some ⟨w.heap.size, 0, none⟩, b.n, b.n + 1⟩, _, hmk, ?_⟩
 have hB : Blk (w.alloc (.cells (madeCells (Value.int .u8 0).cells (b.n + 1)) 5)) w.heap.size 5 (madeCells (Value.int .u8 0).cells (b.n + 1)).toList := Blk.alloc w _ _
 have hml : (madeCells (Value.int .u8 0).cells (b.n + 1)).toList.length = b.n + 1 := by rw [Array.length_toList, size_madeCells]
 have hO : Only [] w (w.alloc (.cells (madeCells (Value.int .u8 0).cells (b.n + 1)) 5)) := Only.alloc _ _
 generalize (madeCells (Value.int .u8 0).cells (b.n + 1)) = mc at *
 generalize hw1 : w.alloc (.cells mc 5) = w1 at *
 have key : ∃ w2, (Builtin.copy_ #[33, 33] 3 #[Sl.v ⟨some ⟨w.heap.size, 0, none⟩, b.n, b.n + 1⟩, Sl.v b]).run Try.prog w1 = .ok (.int .i64 b.n) w2 /\ (∃ y, Blk w2 w.heap.size 5 (l.map byteV ++ [y])) /\ Only [] w w2 := by
  obtain ⟨ba, bn, bc⟩ := b
  dsimp only at *
  by_cases hn : bn = 0
  · subst hn
    have hl0 : l = [] := List.eq_nil_of_length_eq_zero hbl.symm
    subst hl0
    refine ⟨w1, run_copy_none w1 _ _ _ 5 _ _ _ _ _ _ (by kernel_rfl) (by kernel_rfl) (by simp), ?_, hO⟩
    obtain ⟨y, hy⟩ := List.length_eq_one_iff.1 hml
    exact ⟨y, by rw [hy] at hB; simpa using hB⟩
  · have hne : l ≠ [] := fun e => hn (by rw [hbl, e]; rfl)
    obtain ⟨ad, h1, h2⟩ := (SliceF.bytes h).rd.2 hne
    dsimp only at h1
    subst h1
    have hlt := h2.lt' (by simpa using hne)
    have hsrc : Cells w1 ad (l.map byteV) := h2.keep (hO.block _ hlt (by simp))
    have hc := run_copy_row (P := Try.prog) w1 33 33 3 5 w.heap.size 0 bn (bn + 1) ad bn bc mc 5 (l.map byteV) (by kernel_rfl) (by kernel_rfl) (by have := hB; simpa [Blk] using this) (by simp [hbl]) hsrc (by rw [List.length_map]; rw [Array.length_toList] at hml; omega) (fun v hv => by
     obtain ⟨c, _, rfl⟩ := List.mem_map.1 hv; rfl)
    rw [List.length_map, <- hbl, Nat.zero_add, List.take_zero, List.nil_append] at hc
    refine ⟨_, hc, ?_, hO.trans (Only.setRow _ _ _) (by simp)⟩
    have hd : (mc.toList.drop bn).length = 1 := by rw [List.length_drop, hml]; omega
    obtain ⟨y, hy⟩ := List.length_eq_one_iff.1 hd
    exact ⟨y, by rw [hy]; exact hB.setRow _⟩
 obtain ⟨w2, k1, ⟨y, k2⟩, k3⟩ := key
 refine ⟨_, w2, k1, b.n + 1, ⟨by omega, by dsimp only; omega⟩, ⟨w.heap.size, b.n, none⟩, ⟨⟨w.heap.size, 0, none⟩, rfl, by omega, by simp only [Sl.cut]; omega, by rw [addr_lit, Int.toNat_natCast]; congr 1; omega⟩, w.heap.size, b.n, _, _, rfl, k2, by simp [hbl], fun w3 hO3 hb3 => ?_⟩
 rw [splice_one (by simp [hbl]), hbl, show l.length = (l.map byteV).length by simp, List.set_append_right _ _ (Nat.le_refl _), Nat.sub_self] at hb3
 exact ⟨_, w.heap.size, rfl, Nat.le_refl _, ⟨by rw [hbl], hb3, hm⟩, k3.trans hO3 (by simp)⟩
theorem kept_c {w : World} {F : Nat -> Prop} {s b : Sl} {g : Nat} {l : List UInt8} (hs : LentAt w s g l) (h : SliceF rByte 1 w F b l) :
  Calls Try.prog 38 #[Sl.v s, Sl.v b] w fun e w' => e = .returned (.bool true) /\ Only [] w w' := by
 refine ret (v22w s b (fun v w' => v = _ /\ Only [] w w') w ?_)
 unfold v22v
 have hbl := h.len
 have hm := hs.len
 refine ⟨l, (SliceF.bytes hs.slice).rd, l, (SliceF.bytes h).rd, l.length + 1, fun _ => ?_, ⟨g, l.length, none⟩, fun _ => ?_, 77, fun _ => ?_, ?_, Only.refl _ _⟩
 · rw [hbl, wr' (by omega) (by omega), hs.sl]
   dsimp only
   omega
 · rw [hs.sl]
   exact ⟨⟨g, 0, none⟩, rfl, by omega, by simp only [Sl.cut]; omega, by rw [addr_lit, hbl, Int.toNat_natCast]; congr 1; omega⟩
 · refine hs.blk.cells _ _ fun j v hj => ?_
   cases j with
   | zero =>
    simp only [List.getElem?_cons_zero, Option.some.injEq] at hj
    subst hj
    rw [Nat.add_zero, List.getElem?_append_right (by simp)]
    simp
   | succ j => simp at hj
 · simp
def rSlRaw : Rp Sl := fun _ _ s cs => cs = [s.v]
theorem rSlRaw_ok : rSlRaw.Ok where
 keep h _ := h
 inHeap h := h
 mono h _ := h
 one h v hv := by
  rw [show _ = [Sl.v _] from h] at hv
  simp only [List.mem_singleton] at hv
  subst hv
  rfl
structure Room (w : World) (x : Sl) : Prop where
 cap : x.n <= x.c
 big : x.c <= 9223372036854775807
 mem : x.c = 0 ∨ ∃ g o cs t, x.a = some ⟨g, o, none⟩ /\ Blk w g t cs /\ o + x.c <= cs.length
theorem Own.room {w : World} {F : Nat -> Prop} {e : TypeId} {B : Nat} {s : Sl} {l : List UInt8} (h : Own rByte 1 e B w F s l) : Room w s := by
 rcases h with ⟨rfl, rfl⟩ | ⟨g, css, tail, h1, h2, h4, h5, h6, h7, h9, h8⟩
 · exact ⟨Nat.le_refl _, by decide, .inl rfl⟩
 · refine ⟨h7, h9, .inr ⟨g, 0, _, e, h1, h4, ?_⟩⟩
   rw [List.length_append, h8.flen, h5]; omega
theorem LentAt.room {w : World} {s : Sl} {g : Nat} {l : List UInt8} (h : LentAt w s g l) : Room w s := by
 have := h.len
 rw [h.sl]
 exact ⟨by dsimp only; omega, by dsimp only; omega, .inr ⟨g, 0, _, _, rfl, h.blk, by simp⟩⟩
def Shape (w w' : World) : Prop := ∀ g t cs, Blk w g t cs -> ∃ cs', Blk w' g t cs' /\ cs'.length = cs.length
theorem Shape.trans {w w' w'' : World} (h : Shape w w') (k : Shape w' w'') : Shape w w'' := fun g t cs hb => by
 obtain ⟨c1, h1, h2⟩ := h g t cs hb
 obtain ⟨c2, k1, k2⟩ := k g t c1 h1
 exact ⟨c2, k1, k2.trans h2⟩
theorem _root_.Go.Kt.Only.shape {w w' : World} (h : Only [] w w') : Shape w w' := fun g t cs hb => ⟨cs, h.blk hb (by simp), rfl⟩
theorem _root_.Go.Kt.Only.shape1 {w w' : World} {g : Nat} {t : TypeId} {cs cs' : List Value} (h : Only [g] w w') (hb : Blk w g t cs) (hb' : Blk w' g t cs') (hl : cs'.length = cs.length) : Shape w w' := fun k u ds hk => by
 by_cases hg : k = g
 · subst hg
   have e := hb.symm.trans hk
   injection e with e
   injection e with e1 e2
   subst e2
   have e3 : cs = ds := by simpa using e1
   subst e3
   exact ⟨cs', hb', hl⟩
 · exact ⟨ds, h.blk hk (by simpa using hg), rfl⟩
theorem Room.shape {w w' : World} {x : Sl} (h : Room w x) (hs : Shape w w') : Room w' x := ⟨h.cap, h.big, h.mem.imp id fun ⟨g, o, cs, t, h1, h2, h3⟩ => by
 obtain ⟨cs', k1, k2⟩ := hs g t cs h2
 exact ⟨g, o, cs', t, h1, k1, by omega⟩⟩
abbrev Mine (x : Sl) : Nat -> Prop := fun k => x.c ≠ 0 /\ k = x.blk
theorem owned2_c {w : World} {F : Nat -> Prop} {rows x : Sl} (h : SliceF rSlRaw 1 w F rows [x]) (hx : Room w x) (hF : ∀ k, F k -> ¬ Mine x k) :
  Calls Try.prog 39 #[Sl.v rows] w fun e w' => ∃ t : Bool, e = .returned (.bool t) /\ OnlyP (Mine x) w w' /\ Shape w w' := by
 refine (v24w rows (fun v w' => ∃ t : Bool, v = .bool t /\ OnlyP (Mine x) w w' /\ Shape w w') w ?_).mono (by
  rintro e w' ⟨v, rfl, t, rfl, h⟩; exact ⟨t, rfl, h⟩)
 unfold v24v
 have hl := h.len
 have hcp := hx.cap
 have hbig := hx.big
 simp only [List.length_cons, List.length_nil] at hl
 obtain ⟨g, o, t, L, hgo⟩ : ∃ g o t L, x.c = 0 ∨ (x.a = some ⟨g, o, none⟩ /\ o + x.c <= L /\ ∃ cs, Blk w g t cs /\ cs.length = L) := by
  rcases hx.mem with h | ⟨g, o, cs, t, h1, h2, h3⟩
  · exact ⟨0, 0, 0, 0, .inl h⟩
  · exact ⟨g, o, t, cs.length, .inr ⟨h1, h3, cs, h2, rfl⟩⟩
 let Good : Nat -> World -> Prop := fun n w' => x.c = 0 ∨ (x.a = some ⟨g, o, none⟩ /\ o + x.c <= L /\ ∃ cs, Blk w' g t cs /\ cs.length = L /\ ∀ j, j < n -> ∃ v : Int, cs[o + j]? = some (.int .u8 v))
 have hG0 : Good 0 w := hgo.imp id fun ⟨h1, h3, cs, h2, h4⟩ => ⟨h1, h3, cs, h2, h4, fun j hj => by omega⟩
 have row : ∀ {w' : World} {i : Int}, OnlyP (Mine x) w w' -> 0 <= i -> i < rows.n -> ∃ ad, SlAt rows i 1 ad /\ Cells w' ad [Sl.v x] := fun {w' i} hO h0 h1 => by
  obtain ⟨ad, y, cs, g1, g2, g3, g4, g5, g6⟩ := (SliceF.onlyP rSlRaw_ok (by decide) h hO (fun k hk _ => hF k hk)).get h0 h1
  rw [show i.toNat = 0 by omega] at g2
  simp only [List.getElem?_cons_zero, Option.some.injEq] at g2
  subst g2
  rw [show cs = [Sl.v x] from g6] at g5
  exact ⟨ad, g1, g5⟩
 have cutn : (Sl.cut x 0 x.c x.c 1).n = x.c := rfl
 refine ⟨fun nv i w' => OnlyP (Mine x) w w' /\ Shape w w' /\ 0 <= i /\ i <= 1 /\ nv = (1 - i).toNat /\ (i = 0 -> Good 0 w') /\ (i = 1 -> Good x.c w'), 1, ⟨OnlyP.refl _ _, (Only.refl [] w).shape, by decide, by decide, rfl, fun _ => hG0, fun h => by cases h⟩, ?_⟩
 rintro nv i w1 ⟨hO1, hS1, hi0, hi1, rfl, hg0, hg1⟩
 refine ⟨fun hc => ?_, fun hc => ?_⟩
 · have hc : i < rows.n := of_decide_eq_true hc
   have hi : i = 0 := by omega
   subst hi
   obtain ⟨ad, r1, r2⟩ := row hO1 (by decide) hc
   refine ⟨ad, r1, x, r2, ad, r1, x, r2, x.c, ⟨rfl, Nat.le_refl _⟩, fun w2 hO2 => ?_⟩
   rw [cutn]
   refine ⟨fun nv k w' => OnlyP (Mine x) w w' /\ Shape w w' /\ ∃ n : Nat, k = (n : Int) /\ n <= x.c /\ nv = x.c - n /\ Good n w', x.c, ⟨hO1.tr0 hO2, hS1.trans hO2.shape, 0, rfl, Nat.zero_le _, rfl, ?_⟩, ?_⟩
   · exact (hg0 rfl).imp id fun ⟨h1, h3, cs, h2, h5, h4⟩ => ⟨h1, h3, cs, hO2.blk h2 (by simp), h5, h4⟩
   · rintro nv _ w3 ⟨hO3, hS3, n, rfl, hn, rfl, hg⟩
     refine ⟨fun hc => ?_, fun hc => ?_⟩
     · have hc : (n : Int) < x.c := of_decide_eq_true hc
       rcases hg with h0 | ⟨ha, h3, cs, h2, h5, h4⟩
       · omega
       · refine ⟨⟨g, o + n, none⟩, ⟨⟨g, o, none⟩, by rw [Sl.cut, if_neg (by omega), ha]; rfl, by omega, by rw [cutn]; omega, by rw [addr_lit, Int.toNat_natCast]; congr 1; omega⟩, g, o + n, cs, t, rfl, h2, by omega, fun w4 hO4 hb4 => ?_⟩
         have hgx : x.blk = g := by simp [Sl.blk, ha]
         rw [wr' (x := (n : Int) + 1) (by omega) (by omega)]
         rw [splice_one (by omega)] at hb4
         refine ⟨x.c - (n + 1), by omega, hO3.trans (hO4.p (F := Mine x) fun k hk => .inl (by simp only [List.mem_singleton] at hk; subst hk; exact ⟨by omega, hgx.symm⟩)) fun k hk => .inl hk, hS3.trans (hO4.shape1 h2 hb4 (by rw [List.length_set])), n + 1, by omega, by omega, rfl, .inr ⟨ha, h3, _, hb4, by rw [List.length_set]; exact h5, fun j hj => ?_⟩⟩
         by_cases hjn : j = n
         · subst hjn
           exact ⟨_, List.getElem?_set_self (by omega)⟩
         · rw [List.getElem?_set_ne (by omega)]
           exact h4 j (by omega)
     · have hc : ¬ (n : Int) < x.c := of_decide_eq_false hc
       have hnc : n = x.c := by omega
       subst hnc
       exact ⟨0, by decide, hO3, hS3, by decide, by decide, rfl, fun h => (by cases h), fun _ => hg⟩
 · have hc : ¬ i < rows.n := of_decide_eq_false hc
   have hi : i = 1 := by omega
   subst hi
   have hgc := hg1 rfl
   refine ⟨fun nv i w' => OnlyP (Mine x) w w' /\ Shape w w' /\ 0 <= i /\ i <= 1 /\ nv = (1 - i).toNat /\ Good x.c w', 1, ⟨hO1, hS1, by decide, by decide, rfl, hgc⟩, ?_⟩
   rintro nv i w2 ⟨hO2, hS2, hi0, hi1, rfl, hg⟩
   refine ⟨fun hc => ?_, fun hc => ⟨true, rfl, hO2, hS2⟩⟩
   have hc : i < rows.n := of_decide_eq_true hc
   have hi : i = 0 := by omega
   subst hi
   obtain ⟨ad, r1, r2⟩ := row hO2 (by decide) hc
   refine ⟨ad, r1, x, r2, ad, r1, x, r2, x.c, ⟨rfl, Nat.le_refl _⟩, fun w3 hO3 => ?_⟩
   rw [cutn]
   have hg3 : Good x.c w3 := hg.imp id fun ⟨h1, h3, cs, h2, h5, h4⟩ => ⟨h1, h3, cs, hO3.blk h2 (by simp), h5, h4⟩
   have hS3 := hS2.trans hO3.shape
   refine ⟨fun nv k w' => w3 = w' /\ ∃ n : Nat, k = (n : Int) /\ n <= x.c /\ nv = x.c - n, x.c, ⟨rfl, 0, rfl, Nat.zero_le _, rfl⟩, ?_⟩
   rintro nv _ _ ⟨rfl, n, rfl, hn, rfl⟩
   refine ⟨fun hc => ?_, fun hc => ⟨0, by decide, hO2.tr0 hO3, hS3, by decide, by decide, rfl, hg3⟩⟩
   have hc : (n : Int) < x.c := of_decide_eq_true hc
   rcases hg3 with h0 | ⟨ha, h3, cs, h2, h5, h4⟩
   · omega
   · obtain ⟨v, hv⟩ := h4 n (by omega)
     refine ⟨⟨g, o + n, none⟩, ⟨⟨g, o, none⟩, by rw [Sl.cut, if_neg (by omega), ha]; rfl, by omega, by rw [cutn]; omega, by rw [addr_lit, Int.toNat_natCast]; congr 1; omega⟩, v, h2.cells _ _ fun j u hj => ?_, fun _ => ⟨false, rfl, hO2.tr0 hO3, hS3⟩, fun _ => ?_⟩
     · cases j with
       | zero =>
        simp only [List.getElem?_cons_zero, Option.some.injEq] at hj
        subst hj
        exact hv
       | succ j => simp at hj
     · rw [wr' (x := (n : Int) + 1) (by omega) (by omega)]
       exact ⟨x.c - (n + 1), by omega, rfl, n + 1, by omega, by omega, rfl⟩
theorem litRaw (w : World) (x : Sl) : ∃ s w1, (Instr.buildSlice 58 1 #[.mk 0 x.v]).run Try.prog w = .ok (Sl.v s) w1 /\ SliceF rSlRaw 1 w1 (fun k => w.heap.size <= k /\ k < w1.heap.size) s [x] /\ Only [] w w1 := by
 obtain ⟨s, w1, h1, h2, h3, h4, h5, h6⟩ := build_own (P := Try.prog) (t := 58) (e := 33) (i := Try.t33) (w := w) (F := fun _ => False) (r := rSlRaw) (size := 1) (vs := [x.v]) (xs := [x]) (len := 1) (parts := #[(0, x.v)]) (by kernel_rfl) (by kernel_rfl) rfl rfl (by decide) rfl rfl (by decide) (by decide) rSlRaw_ok ⟨⟨rfl, rfl⟩, trivial⟩
 exact ⟨s, w1, h1, SliceF.mono rSlRaw_ok (SliceF.inHeap rSlRaw_ok (h2.slice rSlRaw_ok) (by decide)) fun k hk => ⟨hk.1.elim False.elim fun h => h.1, hk.2⟩, h3⟩
theorem Room.mine {w : World} {x : Sl} (h : Room w x) : ∀ k, Mine x k -> k < w.heap.size /\ ∃ o, x.a = some ⟨k, o, none⟩ := fun k hk => by
 rcases h.mem with h0 | ⟨g, o, cs, t, h1, h2, h3⟩
 · exact absurd h0 hk.1
 · have : k = g := by rw [hk.2]; simp [Sl.blk, h1]
   subst this
   exact ⟨h2.lt, o, h1⟩
theorem ownedOne {w : World} {x : Sl} (h : Room w x) : ∃ l w1, (Instr.buildSlice 58 1 #[.mk 0 x.v]).run Try.prog w = .ok (Sl.v l) w1 /\ Only [] w w1 /\ Calls Try.prog 39 #[l.v] w1 fun e w' => ∃ t : Bool, e = .returned (.bool t) /\ OnlyP (Mine x) w1 w' /\ Shape w w' := by
 obtain ⟨l, w1, h1, h2, h3⟩ := litRaw w x
 refine ⟨l, w1, h1, h3, (owned2_c h2 (h.shape h3.shape) fun k hk hm => by have := (h.mine k hm).1; omega).mono ?_⟩
 rintro _ w' ⟨t, rfl, k1, k2⟩
 exact ⟨t, rfl, k1, h3.shape.trans k2⟩
structure Dr (w u : World) (d x : Nat) (D : Dk) (F G : Nat -> Prop) : Prop where
 p : Dsk u d D F
 r : ∃ L, RfP u x D L G
 dis : ∀ k, F k -> ¬ G k
 hF : ∀ k, F k -> w.heap.size <= k /\ k < u.heap.size
 hG : ∀ k, G k -> w.heap.size <= k /\ k < u.heap.size
 only : Only [] w u
section
variable {w u u' u1 u2 u3 u4 : World} {d x : Nat} {D E : Dk} {F G P : Nat -> Prop}
theorem Dr.keep (h : Dr w u d x D F G) (hO : OnlyP P u u') (hP : ∀ k, P k -> ¬ F k /\ ¬ G k /\ w.heap.size <= k) : Dr w u' d x D F G := by
 obtain ⟨⟨r, tb, p⟩, ⟨L, q⟩, dis, hF, hG, o⟩ := h
 have z := hO.size
 exact ⟨⟨r, tb, p.keep (hO.keeps fun k hk hp => (hP k hp).1 hk)⟩, ⟨L, q.keep (hO.keeps fun k hk hp => (hP k hp).2.1 hk)⟩, dis, fun k hk => ⟨(hF k hk).1, by have := (hF k hk).2; omega⟩, fun k hk => ⟨(hG k hk).1, by have := (hG k hk).2; omega⟩, (o.trP hO).only fun k hk => (hP k hk).2.2⟩
theorem Dr.skip (h : Dr w u d x D F G) (hO : Only [] u u') : Dr w u' d x D F G := h.keep (P := fun _ => False) hO.p0 fun _ h => h.elim
theorem Dr.inv (h : Dr w u d x D F G) : Inv D := by
 obtain ⟨r, tb, p⟩ := h.p
 exact p.inv
theorem Dr.mid (h : Dr w u d x D F G) (h1 : Only [] u u1) (ha : Aft d E F u1 u2) (h2 : Only [] u2 u3) : ∃ L, RfP u3 x D L G := by
 obtain ⟨L, q⟩ := h.r
 exact ⟨L, ((q.only0 h1).keep (ha.2.keeps fun k hk hf => h.dis k hf hk)).only0 h2⟩
theorem Dr.step (h : Dr w u d x D F G) (h1 : Only [] u u1) (ha : Aft d E F u1 u2) (h2 : Only [] u2 u3) (hr : AftR x E G u3 u4) : Dr w u4 d x E (Gr F u1 u2) (Gr G u3 u4) /\ OnlyP (fun k => F k ∨ G k) u u4 := by
 have z := h.only.size
 have z1 := h1.size
 have z2 := ha.2.size
 have z3 := h2.size
 have z4 := hr.2.size
 obtain ⟨r, tb, p⟩ := ha.1
 refine ⟨⟨⟨r, tb, (p.only0 h2).keep (hr.2.keeps fun k hk hg => ?_)⟩, hr.1, fun k hf hg => ?_, fun k hk => ?_, fun k hk => ?_, ?_⟩, ?_⟩
 · rcases hk with hk | hk
   · exact h.dis k hk hg
   · have := (h.hG k hg).2; omega
 · rcases hf with hf | hf <;> rcases hg with hg | hg
   · exact h.dis k hf hg
   · have := (h.hF k hf).2; omega
   · have := (h.hG k hg).2; omega
   · omega
 · rcases hk with hk | hk
   · have := h.hF k hk; omega
   · omega
 · rcases hk with hk | hk
   · have := h.hG k hk; omega
   · omega
 · exact (((h.only.tr0 h1).trP ha.2).only fun k hk => (h.hF k hk).1) |>.tr0 h2 |>.trP hr.2 |>.only fun k hk => (h.hG k hk).1
 · exact ((h1.trP (ha.2.mono (G := fun k => F k ∨ G k) fun k _ hk => .inl hk)).tr0 h2).trans hr.2 fun k hk => .inl (.inr hk)
def After (w u u' : World) (d x : Nat) (E : Dk) (F G : Nat -> Prop) : Prop := ∃ F' G', Dr w u' d x E F' G' /\ (∀ k, F' k -> F k ∨ u.heap.size <= k) /\ (∀ k, G' k -> G k ∨ u.heap.size <= k) /\ OnlyP (fun k => F k ∨ G k) u u'
theorem After.of (h : Dr w u d x D F G) (h1 : Only [] u u1) (ha : Aft d E F u1 u2) (h2 : Only [] u2 u3) (hr : AftR x E G u3 u4) : After w u u4 d x E F G := by
 have z1 := h1.size
 have z2 := ha.2.size
 have z3 := h2.size
 obtain ⟨k1, k2⟩ := h.step h1 ha h2 hr
 exact ⟨_, _, k1, fun k hk => hk.imp id fun h => by omega, fun k hk => hk.imp id fun h => by omega, k2⟩
theorem After.same (h : Dr w u d x D F G) (hO : Only [] u u') : After w u u' d x D F G := ⟨F, G, h.skip hO, fun _ => .inl, fun _ => .inl, hO.p0⟩
theorem stepR_at (D : Dk) (a : ActT) : (a.1 = 0 -> stepR D a = appD D a.nm [a.b, a.c]) /\ (a.1 = 1 -> stepR D a = syncD D a.nm) /\ (a.1 = 2 -> stepR D a = cutD D a.nm a.n) /\ (a.1 = 3 -> stepR D a = renD D a.nm a.to) /\ (a.1 = 4 -> stepR D a = remD D a.nm) /\ (a.1 = 5 -> stepR D a = (0, D)) /\ (a.1 = 6 -> stepR D a = (0, armD D a.n a.m)) /\ (a.1 = 7 -> stepR D a = (0, bootD D a.l)) := by
 unfold stepR
 refine ⟨fun h => ?_, fun h => ?_, fun h => ?_, fun h => ?_, fun h => ?_, fun h => ?_, fun h => ?_, fun h => ?_⟩ <;> rw [h] <;> rfl
theorem act_c (h : Dr w u d x D F G) (a : ActT) {sb sc sl : Sl} (hsb : SliceF rByte 1 u (fun k => k < w.heap.size) sb a.b) (hsc : SliceF rByte 1 u (fun k => k < w.heap.size) sc a.c) (hsl : SliceF rInt 1 u (fun k => k < w.heap.size) sl a.l) (hIn : InI a.n)
  (hm : sumF D.fs <= 2097152) (hb : a.b.length + a.c.length <= 1048576) (hll : a.l.length * 8 <= 140737488355328) (hn : D.fs.length <= 10000) :
  Calls Try.prog 21 #[.pointer (some ⟨d, 0, none⟩), .pointer (some ⟨x, 0, none⟩), .agg #[.int .i64 a.1, .string (T a.nm), .string (T a.to), sb.v, sc.v, .int .i64 a.n, .int .i64 a.m, sl.v]] u fun e u' => e = .returned (.bool true) /\ After w u u' d x (stepR D a).2 F G := by
 refine ret (v26w (some ⟨d, 0, none⟩) (some ⟨x, 0, none⟩) a.1 (T a.nm) (T a.to) sb sc a.n a.m sl (fun v u' => v = .bool true /\ After w u u' d x (stepR D a).2 F G) u ?_)
 unfold v26v
 intro k0 w0 hk0 hk0' hO0
 have z0 := hO0.size
 have zw := h.only.size
 obtain ⟨s0, s1, s2, s3, s4, s5, s6, s7⟩ := stepR_at D a
 have sm : ∀ {a b : World}, Only [] a b -> w0.heap.size <= a.heap.size -> Same [k0] a b := fun hO hz => hO.same (by simp; omega)
 have smF : ∀ {a b : World}, OnlyP F a b -> w0.heap.size <= a.heap.size -> Same [k0] a b := fun hO hz => hO.same (fun y hy => by simp at hy; subst hy; exact ⟨by omega, fun hf => by have := (h.hF _ hf).2; omega⟩)
 have smG : ∀ {a b : World}, OnlyP G a b -> w0.heap.size <= a.heap.size -> Same [k0] a b := fun hO hz => hO.same (fun y hy => by simp at hy; subst hy; exact ⟨by omega, fun hf => by have := (h.hG _ hf).2; omega⟩)
 have kpF : ∀ {a b : World}, OnlyP F a b -> w0.heap.size <= a.heap.size -> Keeps (fun k => k = k0) a b := fun hO hz k hk hlt => hO.block k hlt fun hf => by have := (h.hF _ hf).2; omega
 have kpG : ∀ {a b : World}, OnlyP G a b -> w0.heap.size <= a.heap.size -> Keeps (fun k => k = k0) a b := fun hO hz k hk hlt => hO.block k hlt fun hf => by have := (h.hG _ hf).2; omega
 have nF : ∀ k, k < w.heap.size -> ¬ F k := fun k hk hf => by have := (h.hF k hf).1; omega
 have nG : ∀ k, k < w.heap.size -> ¬ G k := fun k hk hf => by have := (h.hG k hf).1; omega
 have bs := SliceF.only rByte_ok (by decide) hsb hO0 (by simp)
 have cs := SliceF.only rByte_ok (by decide) hsc hO0 (by simp)
 refine ⟨fun u' => After w u u' d x (stepR D a).2 F G, fun w1 hJ => ⟨rfl, hJ⟩, fun ha => ?_, fun h0 => ⟨fun ha w10 hO10 => ?_, fun h1 => ⟨fun ha w13 hO13 => ?_, fun h2 => ⟨fun ha w16 hO16 => ?_, fun h3 => ⟨fun ha w19 hO19 => ?_, fun h4 => ⟨fun ha => ?_, fun h5 => ⟨fun ha => ⟨⟨d, 0, none⟩, rfl, fun w26 hO26 => ?_⟩, fun h6 => ⟨fun ha => ?_, fun h7 => ?_⟩⟩⟩⟩⟩⟩⟩⟩
 ·
  have ha : a.1 = 0 := by simpa using ha
  rw [s0 ha]
  refine (lent_c bs (by omega)).mono ?_
  rintro _ w2 ⟨l0, g, rfl, hg, lt2, hO2⟩
  have z2 := hO2.size
  have g2 : g < w2.heap.size := lt2.blk.lt
  have b2 := SliceF.only rByte_ok (by decide) bs hO2 (by simp)
  have c2 := SliceF.only rByte_ok (by decide) cs hO2 (by simp)
  obtain ⟨l1, w3, k1, k2, k3, k4⟩ := litR w2 [(l0, a.b), (sc, a.c)] (n := 2) (parts := #[.mk 0 l0.v, .mk 1 sc.v]) rfl rfl (by decide) (by decide) (fun q hq => by
   rcases List.mem_cons.1 hq with rfl | hq
   · exact ⟨_, lt2.slice⟩
   · rw [List.mem_singleton.1 hq]; exact ⟨_, c2⟩)
  have z3 := k3.size
  have o03 : Only [] u w3 := (hO0.tr0 hO2).tr0 k3
  obtain ⟨r, tb, hk⟩ := (h.skip o03).p
  refine ⟨l0, rfl, sm hO2 (Nat.le_refl _), l1, w3, k1, sm k3 z2, (append_c hk (G := fun _ => True) (ls := [a.b, a.c]) (SliceF.mono rBs_ok (k2.slice rBs_ok) fun _ _ => trivial) (.inr ⟨_, k4⟩) (by simp; omega) (by show 2 <= 140737488355328; omega) a.nm).mono ?_⟩
  rintro _ w4 ⟨rfl, h4⟩
  have z4 := h4.2.size
  have b4 := SliceF.onlyP rByte_ok (by decide) (SliceF.only rByte_ok (by decide) b2 k3 (by simp)) h4.2 fun k hk _ => nF k hk
  have c4 := SliceF.onlyP rByte_ok (by decide) (SliceF.only rByte_ok (by decide) c2 k3 (by simp)) h4.2 fun k hk _ => nF k hk
  obtain ⟨l2, w5, m1, m2, m3, m4⟩ := litR w4 [(sb, a.b), (sc, a.c)] (n := 2) (parts := #[.mk 0 sb.v, .mk 1 sc.v]) rfl rfl (by decide) (by decide) (fun q hq => by
   rcases List.mem_cons.1 hq with rfl | hq
   · exact ⟨_, b4⟩
   · rw [List.mem_singleton.1 hq]; exact ⟨_, c4⟩)
  have z5 := m3.size
  obtain ⟨L, hr⟩ := h.mid o03 h4 m3
  refine ⟨_, rfl, smF h4.2 (by omega), l2, w5, m1, sm m3 (by omega), (rappend_c hr (G := fun _ => True) (ls := [a.b, a.c]) (SliceF.mono rBs_ok (m2.slice rBs_ok) fun _ _ => trivial) (by simp; omega) (by omega) a.nm).mono ?_⟩
  rintro _ w6 ⟨rfl, h6⟩
  have z6 := h6.2.size
  obtain ⟨dr6, o6⟩ := h.step o03 h4 m3 h6
  have b6 := SliceF.onlyP rByte_ok (by decide) (SliceF.only rByte_ok (by decide) b4 m3 (by simp)) h6.2 fun k hk _ => nG k hk
  have lt6 : LentAt w6 l0 g a.b := ⟨lt2.sl, h6.2.blk (m3.blk (h4.2.blk (k3.blk lt2.blk (by simp)) fun hf => by have := (h.hF _ hf).2; omega) (by simp)) (fun hf => by have := (h.hG _ hf).2; omega), lt2.len⟩
  refine ⟨_, rfl, smG h6.2 (by omega), (kept_c lt6 b6).mono ?_⟩
  rintro _ w7 ⟨rfl, hO7⟩
  have z7 := hO7.size
  have lt7 : LentAt w7 l0 g a.b := ⟨lt6.sl, hO7.blk lt6.blk (by simp), lt6.len⟩
  obtain ⟨l3, w8, n1, n2, n3⟩ := ownedOne lt7.room
  have z8 := n2.size
  refine ⟨true, rfl, sm hO7 (by omega), l3, w8, n1, sm n2 (by omega), n3.mono ?_⟩
  rintro _ w9 ⟨t, rfl, hO9, _⟩
  have mg : ∀ k, Mine l0 k -> k = g := fun k hk => by
   obtain ⟨_, o, e⟩ := lt7.room.mine k hk
   rw [lt7.sl] at e
   injection e with e
   injection e with e
   exact e.symm
  refine ⟨t, rfl, hO9.same (fun y hy => by simp at hy; subst hy; exact ⟨by omega, fun hk => by have := mg _ hk; omega⟩), by simp, ?_⟩
  have dr8 := (dr6.skip hO7).skip n2
  have gF : ¬ Gr F w3 w4 g := fun hk => hk.elim (fun hk => by have := (h.hF _ hk).2; omega) fun hk => by omega
  have gG : ¬ Gr G w5 w6 g := fun hk => hk.elim (fun hk => by have := (h.hG _ hk).2; omega) fun hk => by omega
  refine ⟨_, _, dr8.keep hO9 (fun k hk => by have := mg k hk; subst this; exact ⟨gF, gG, by omega⟩), fun k hk => hk.imp id fun h => by omega, fun k hk => hk.imp id fun h => by omega, ((o6.tr0 hO7).tr0 n2).trans hO9 fun k hk => .inr (by have := mg k hk; omega)⟩
 ·
  have ha : a.1 = 1 := by simpa using ha
  rw [s1 ha]
  have z10 := hO10.size
  have o : Only [] u w10 := hO0.tr0 hO10
  obtain ⟨r, tb, hk⟩ := (h.skip o).p
  refine ⟨fun k => k = k0, rfl, (sync_c hk a.nm).mono ?_⟩
  rintro _ w11 ⟨rfl, h11⟩
  have z11 := h11.2.size
  obtain ⟨L, hr⟩ := h.mid o h11 (Only.refl _ _)
  refine ⟨_, rfl, smF h11.2 (by omega), kpF h11.2 (by omega), (rsync_c hr a.nm).mono ?_⟩
  rintro _ w12 ⟨rfl, h12⟩
  exact ⟨_, rfl, smG h12.2 (by omega), kpG h12.2 (by omega), by simp, After.of h o h11 (Only.refl _ _) h12⟩
 ·
  have ha : a.1 = 2 := by simpa using ha
  rw [s2 ha]
  have z10 := hO13.size
  have o : Only [] u w13 := hO0.tr0 hO13
  obtain ⟨r, tb, hk⟩ := (h.skip o).p
  refine ⟨fun k => k = k0, rfl, rfl, (cut_c hk a.nm hIn).mono ?_⟩
  rintro _ w11 ⟨rfl, h11⟩
  have z11 := h11.2.size
  obtain ⟨L, hr⟩ := h.mid o h11 (Only.refl _ _)
  refine ⟨_, rfl, smF h11.2 (by omega), kpF h11.2 (by omega), (rcut_c hr a.nm hIn).mono ?_⟩
  rintro _ w12 ⟨rfl, h12⟩
  exact ⟨_, rfl, smG h12.2 (by omega), kpG h12.2 (by omega), by simp, After.of h o h11 (Only.refl _ _) h12⟩
 ·
  have ha : a.1 = 3 := by simpa using ha
  rw [s3 ha]
  have z10 := hO16.size
  have o : Only [] u w16 := hO0.tr0 hO16
  obtain ⟨r, tb, hk⟩ := (h.skip o).p
  refine ⟨fun k => k = k0, rfl, rfl, (rename_c hk a.nm a.to).mono ?_⟩
  rintro _ w11 ⟨rfl, h11⟩
  have z11 := h11.2.size
  obtain ⟨L, hr⟩ := h.mid o h11 (Only.refl _ _)
  refine ⟨_, rfl, smF h11.2 (by omega), kpF h11.2 (by omega), (rrename_c hr a.nm a.to (by omega)).mono ?_⟩
  rintro _ w12 ⟨rfl, h12⟩
  exact ⟨_, rfl, smG h12.2 (by omega), kpG h12.2 (by omega), by simp, After.of h o h11 (Only.refl _ _) h12⟩
 ·
  have ha : a.1 = 4 := by simpa using ha
  rw [s4 ha]
  have z10 := hO19.size
  have o : Only [] u w19 := hO0.tr0 hO19
  obtain ⟨r, tb, hk⟩ := (h.skip o).p
  refine ⟨fun k => k = k0, rfl, (remove_c hk a.nm).mono ?_⟩
  rintro _ w11 ⟨rfl, h11⟩
  have z11 := h11.2.size
  obtain ⟨L, hr⟩ := h.mid o h11 (Only.refl _ _)
  refine ⟨_, rfl, smF h11.2 (by omega), kpF h11.2 (by omega), (rremove_c hr a.nm (by omega)).mono ?_⟩
  rintro _ w12 ⟨rfl, h12⟩
  exact ⟨_, rfl, smG h12.2 (by omega), kpG h12.2 (by omega), by simp, After.of h o h11 (Only.refl _ _) h12⟩
 ·
  have ha : a.1 = 5 := by simpa using ha
  rw [s5 ha]
  have dr0 := h.skip hO0
  obtain ⟨r, tb, hk⟩ := dr0.p
  refine (read_c hk a.nm (by omega)).mono ?_
  rintro _ w22 ⟨⟨t, rfl, ht⟩, hO22⟩
  have z22 := hO22.size
  obtain ⟨L, hr⟩ := (dr0.skip hO22).r
  refine ⟨t, _, rfl, sm hO22 (Nat.le_refl _), (rread_c hr a.nm (by omega)).mono ?_⟩
  rintro _ w23 ⟨⟨t', rfl, ht'⟩, hO23⟩
  have z23 := hO23.size
  have ht3 := ht.keep (w' := w23) rByte_ok fun k _ hlt => hO23.block k hlt (by simp)
  obtain ⟨l6, w24, n1, n2, n3⟩ := ownedOne (Own.room ht3)
  have z24 := n2.size
  refine ⟨t', _, rfl, sm hO23 z22, _, (SliceF.bytes (flatB ht3)).rd, _, (SliceF.bytes (flatB ht')).rd, l6, w24, n1, sm n2 (by omega), n3.mono ?_⟩
  rintro _ w25 ⟨b, rfl, hO25, _⟩
  have mt : ∀ k, Mine t k -> w0.heap.size <= k := fun k hk => by
   obtain ⟨_, o, e⟩ := (Own.room ht3).mine k hk
   rcases ht3 with ⟨rfl, _⟩ | ⟨g, css, tail, h1, h2, _⟩
   · cases e
   · rw [h1] at e
     injection e with e
     injection e with e
     omega
  refine ⟨b, rfl, hO25.same (fun y hy => by simp at hy; subst hy; exact ⟨by omega, fun hk => by have := mt _ hk; omega⟩), by simp, ?_⟩
  have o25 : Only [] u w25 := (((hO0.tr0 hO22).tr0 hO23).tr0 n2).trP hO25 |>.only fun k hk => by have := mt k hk; omega
  exact After.same h o25
 ·
  have ha : a.1 = 6 := by simpa using ha
  rw [s6 ha]
  have z10 := hO26.size
  have o : Only [] u w26 := hO0.tr0 hO26
  obtain ⟨r, tb, hk⟩ := (h.skip o).p
  refine (arm_c hk (q := a.m) hIn).mono ?_
  rintro _ w27 ⟨rfl, g27, hO27⟩
  have h27 : Aft d (armD D a.n a.m) F w26 w27 := ⟨Dsk.gr0 g27, hO27.p fun b hb => .inl (by simp at hb; rw [hb]; exact hk.dr.2.1)⟩
  have z27 := h27.2.size
  obtain ⟨L, hr⟩ := h.mid o h27 (Only.refl _ _)
  refine ⟨rfl, smF h27.2 (by omega), (rarm_c hr (q := a.m) hIn).mono ?_⟩
  rintro _ w28 ⟨rfl, g28, hO28⟩
  have h28 : AftR x (armD D a.n a.m) G w27 w28 := AftR.of g28 (oneF hr hO28)
  exact ⟨rfl, smG h28.2 (by omega), After.of h o h27 (Only.refl _ _) h28⟩
 ·
  have ha : a.1 = 7 := by simpa using ha
  rw [s7 ha]
  have sl0 := SliceF.only rInt_ok (by decide) hsl hO0 (by simp)
  obtain ⟨l7, w29, k1, l8, w30, k2, k3, k4, k5⟩ := clone_own (P := Try.prog) (t := 41) (ty := 41) (e := 3) (i := Try.t3) (bytes := 8) (size := 1) (r := rInt) (by kernel_rfl) (by kernel_rfl) rfl rfl rfl rfl (by decide) rInt_ok sl0 hll (by decide)
  have o1 : Only [] w0 w29 := by
   have := run_build0 (P := Try.prog) (t := 41) (e := 3) (i := Try.t3) w0 (by kernel_rfl) (by kernel_rfl)
   rw [this] at k1
   injection k1 with _ k1
   rw [<- k1]
   exact Only.alloc _ _
  have z30 := k4.size
  have o : Only [] u w30 := hO0.tr0 k4
  obtain ⟨r, tb, hk⟩ := (h.skip o).p
  have l30 := SliceF.inHeap rInt_ok (flatO rInt_ok (fun _ _ _ _ _ h => h) k3) (by decide)
  have sl30 := SliceF.only rInt_ok (by decide) sl0 k4 (by simp)
  refine ⟨l7, w29, k1, sm o1 (Nat.le_refl _), l8, w30, k2, fun y hy => by
   have e1 := sm k4 (Nat.le_refl _) y hy
   have e2 := sm o1 (Nat.le_refl _) y hy
   rw [e1, e2], (boot_c hk (by omega) (by omega) l30 fun k hk _ hf => by have := (h.hF k hf).2; omega).mono ?_⟩
  rintro _ w31 ⟨rfl, h31⟩
  have z31 := h31.2.size
  obtain ⟨L, hr⟩ := h.mid o h31 (Only.refl _ _)
  have sl31 := SliceF.onlyP rInt_ok (by decide) sl30 h31.2 fun k hk _ => nF k hk
  have l31 := SliceF.onlyP rInt_ok (by decide) l30 h31.2 fun k hk _ hf => by have := (h.hF k hf).2; omega
  refine ⟨rfl, smF h31.2 (by omega), (rboot_c hr (by omega) sl31 fun k hk _ => nG k hk).mono ?_⟩
  rintro _ w32 ⟨rfl, h32⟩
  have sl32 := SliceF.onlyP rInt_ok (by decide) sl31 h32.2 fun k hk _ => nG k hk
  have l32 := SliceF.onlyP rInt_ok (by decide) l31 h32.2 fun k hk _ hf => by have := (h.hG k hf).2; omega
  have n1 := l32.len
  have n2 := sl32.len
  have n3 := l32.cap
  have n4 := l32.big
  have af := After.of h o h31 (Only.refl _ _) h32
  have afs : ∀ {v : World}, Only [] w32 v -> After w u v d x (bootD D a.l) F G := fun hO => by
   obtain ⟨F', G', y1, y2, y3, y4⟩ := af
   exact ⟨F', G', y1.skip hO, y2, y3, y4.tr0 hO⟩
  refine ⟨rfl, smG h32.2 (by omega), fun nv i v => ∃ n : Nat, i = (n : Int) /\ nv + n = a.l.length /\ Only [] w32 v, a.l.length, ⟨0, rfl, rfl, Only.refl _ _⟩, ?_⟩
  rintro nv _ w33 ⟨n, rfl, hnv, hO33⟩
  refine ⟨fun hlt => ?_, fun _ => afs hO33⟩
  have hlt : (n : Int) < (l8.n : Int) := of_decide_eq_true hlt
  obtain ⟨p1, i1, ds, c1, c2, c3, c4, c5, c6⟩ := (SliceF.only rInt_ok (by decide) l32 hO33 (by simp)).get (Int.natCast_nonneg n) hlt
  obtain ⟨p2, i2, es, d1, d2, d3, d4, d5, d6⟩ := (SliceF.only rInt_ok (by decide) sl32 hO33 (by simp)).get (i := (n : Int)) (Int.natCast_nonneg n) (by omega)
  obtain ⟨rfl, _⟩ := c6
  obtain ⟨rfl, _⟩ := d6
  rw [c2] at d2
  injection d2 with d2
  subst d2
  exact ⟨p1, c1, i1, c5, p2, d1, i1, d5, fun hc => by simp at hc, fun _ w35 hO35 => ⟨nv - 1, by omega, n + 1, by rw [wr' (by omega) (by omega)]; rfl, by omega, hO33.tr0 hO35⟩⟩
 · have e : stepR D a = (0, D) := by
    unfold stepR
    rw [if_neg (by simpa using h0), if_neg (by simpa using h1), if_neg (by simpa using h2), if_neg (by simpa using h3), if_neg (by simpa using h4), if_neg (by simpa using h6), if_neg (by simpa using h7)]
   rw [e]
   exact After.same h hO0
end
def Spo (u : World) (B : Nat) (t : Sl) (len n : Nat) : Prop := t.n = len /\ (len = 0 ∨ ∃ g cells, t.a = some ⟨g, 0, none⟩ /\ B <= g /\ Blk u g 38 cells /\ len * 3 <= cells.length /\ ∀ j, n <= j -> j < len -> ∃ s : Sl, cells[j * 3 + 1]? = some s.v /\ Room u s /\ ∀ k, Mine s k -> B <= k /\ k ≠ g)
section
variable {w u u' u1 u2 u3 u4 : World} {d x : Nat} {D E : Dk} {F G P : Nat -> Prop}
theorem Spo.of {B : Nat} {t : Sl} {L : List Fl} (h : Own rFl 3 38 B u (fun k => B <= k) t L) : Spo u B t L.length 0 := by
 have hs := (h.slice rFl_ok).len
 refine ⟨hs, ?_⟩
 rcases h with ⟨rfl, rfl⟩ | ⟨g, css, tail, h1, h2, h4, h5, h6, h7, h9, h8⟩
 · exact .inl rfl
 · refine .inr ⟨g, css.flatten ++ tail, h1, h2, h4, by rw [List.length_append, h8.flen]; omega, fun j _ hj => ?_⟩
   obtain ⟨cs, q1, q2, s, rfl, q4, q5⟩ := h8.get (List.getElem?_eq_getElem hj)
   have e := flat_at h8.sz q1 (i := 1) rfl
   have hlt := (List.getElem?_eq_some_iff.1 e).1
   refine ⟨s, by rw [List.getElem?_append_left hlt]; exact e, Own.room q4, fun k hk => ?_⟩
   obtain ⟨_, o, ea⟩ := (Own.room q4).mine k hk
   rcases q4 with ⟨rfl, _⟩ | ⟨g', css', tail', y1, _⟩
   · cases ea
   · rw [y1] at ea
     injection ea with ea
     injection ea with ea eb
     subst ea
     exact q5 _ y1
theorem Spo.only {B : Nat} {t : Sl} {len n : Nat} (h : Spo u B t len n) (hO : Only [] u u') : Spo u' B t len n :=
 ⟨h.1, h.2.imp id fun ⟨g, cells, h1, h2, h3, h4, h5⟩ => ⟨g, cells, h1, h2, hO.blk h3 (by simp), h4, fun j a b => by
  obtain ⟨s, k1, k2, k3⟩ := h5 j a b
  exact ⟨s, k1, k2.shape hO.shape, k3⟩⟩⟩
end
section
variable {w u u' : World} {d x : Nat} {D E : Dk} {F G : Nat -> Prop}
theorem act_cells2 {x : ActT} {cs : List Value} (h : rAct w F x cs) : ∃ (sb sc sl : Sl), cs = [.int .i64 x.1, .string (T x.nm), .string (T x.to), sb.v, sc.v, .int .i64 x.n, .int .i64 x.m, sl.v] /\ SliceF rByte 1 w F sb x.b /\ SliceF rByte 1 w F sc x.c /\ SliceF rInt 1 w F sl x.l /\ InI x.n /\ x.l.length * 8 <= 140737488355328 := by
 obtain ⟨x0, x1, x2, x3, x4, x5, x6, x7, u⟩ := x
 obtain ⟨c0, r0, rfl, ⟨rfl, i0⟩, c1, r1, rfl, ⟨rfl, _⟩, c2, r2, rfl, ⟨rfl, _⟩, c3, r3, rfl, ⟨s3, rfl, h3, _⟩, c4, r4, rfl, ⟨s4, rfl, h4, _⟩, c5, r5, rfl, ⟨rfl, i5⟩, c6, r6, rfl, ⟨rfl, _⟩, c7, r7, rfl, ⟨s7, rfl, h7, h8⟩, hu⟩ := h
 have hu : r7 = [] := hu
 subst hu
 refine ⟨s3, s4, s7, ?_, h3, h4, h7, i5, Nat.le_trans h8 (by decide)⟩
 have e1 : x1 = T x1.data.toList := T_of x1
 have e2 : x2 = T x2.data.toList := T_of x2
 show [_, Value.string x1, Value.string x2, _, _, _, _, _] = [_, Value.string (T x1.data.toList), Value.string (T x2.data.toList), _, _, _, _, _]
 rw [<- e1, <- e2]
 rfl
theorem dr_new {w0 w1 w2 : World} {room : Int} {d x : Nat} (hO0 : Only [] w w0) (hd : Dsk w1 d (newD room) (fun k => w0.heap.size <= k /\ k < w1.heap.size)) (hO1 : Only [] w0 w1) (hx : RfP w2 x (newD room) Sl.nil (fun k => w1.heap.size <= k /\ k < w2.heap.size)) (hO2 : Only [] w1 w2) : Dr w w2 d x (newD room) (fun k => w0.heap.size <= k /\ k < w1.heap.size) (fun k => w1.heap.size <= k /\ k < w2.heap.size) := by
 have z0 := hO0.size
 have z1 := hO1.size
 have z2 := hO2.size
 obtain ⟨r, tb, hd⟩ := hd
 exact ⟨⟨r, tb, hd.only0 hO2⟩, ⟨_, hx⟩, fun k h1 h2 => by omega, fun k hk => by omega, fun k hk => by omega, (hO0.tr0 hO1).tr0 hO2⟩
end
end Go.Proofs.Ytijipkdbkgafkaa.Con
namespace Go.Proofs.Ytijipkdbkgafkaa.Con
open Go Go.RowKit Go.Kt
set_option linter.unusedSimpArgs false
set_option linter.unusedVariables false
set_option maxHeartbeats 1000000
set_option maxRecDepth 100000
def bsF (l : List Fl) (s : List UInt8) : List UInt8 := ((lookF l s).map (·.bs)).getD []
def sfF (l : List Fl) (s : List UInt8) : Nat := ((lookF l s).map (·.sf)).getD 0
def SafeI (D : Dk) (nm safe : List UInt8) : Prop := safe <+: (bsF D.fs nm).take (sfF D.fs nm)
def tchB (a : ActT) (nm : List UInt8) : Bool := ((decide (a.nm = nm)) && (((a.1 == 2) || (a.1 == 3)) || (a.1 == 4))) || ((a.1 == 3) && decide (a.to = nm))
theorem SafeI.same {D E : Dk} {nm safe : List UInt8} (h : SafeI D nm safe) (e : lookF E.fs nm = lookF D.fs nm) : SafeI E nm safe := by
 unfold SafeI bsF sfF at h ⊢
 rw [e]
 exact h
theorem SafeI.nil (D : Dk) (nm : List UInt8) : SafeI D nm [] := List.nil_prefix
theorem SafeI.bs {D : Dk} {nm safe : List UInt8} (h : SafeI D nm safe) : safe <+: bsF D.fs nm := h.trans (List.take_prefix _ _)
theorem getF_bs (D : Dk) (s : List UInt8) : (getF D s).bs = bsF D.fs s /\ (getF D s).sf = sfF D.fs s := by
 unfold getF bsF sfF
 cases lookF D.fs s <;> exact ⟨rfl, rfl⟩
theorem safe_le {D : Dk} (h : Inv D) (s : List UInt8) : sfF D.fs s <= (bsF D.fs s).length := by
 unfold bsF sfF
 cases hf : lookF D.fs s with
 | none => exact Nat.zero_le _
 | some f => exact h.safe f (lookF_mem hf).1
theorem SafeI.put {D E : Dk} {nm safe : List UInt8} {l : List Fl} {f : Fl} (h : SafeI D nm safe) (e : lookF l nm = lookF D.fs nm) (hr : Rise l) (hf : f.nm = nm -> safe <+: f.bs.take f.sf) : SafeI (setFs E (putF f l)) nm safe := by
 by_cases hn : nm = f.nm
 · unfold SafeI bsF sfF
   show safe <+: List.take _ _
   rw [show (setFs E (putF f l)).fs = putF f l from rfl, putF_look f nm hr, if_pos hn]
   exact hf hn.symm
 · refine h.same ?_
   rw [show (setFs E (putF f l)).fs = putF f l from rfl, putF_look f nm hr, if_neg hn, e]
theorem cutP_off {D : Dk} {p : Int} (h : (cutP D).1 = some p) : (cutP D).2.off = true := by
 unfold cutP at h ⊢
 split at h <;> first | cases h; done | rfl
theorem bootL_look (nm : List UInt8) : ∀ (ks : List Int) (l : List Fl), ∃ ks', lookF (bootL ks l) nm = (lookF l nm).map (bootF ks')
 | ks, [] => ⟨[], by rw [bootL]; rfl⟩
 | ks, f :: r => by
  rw [bootL, lookF, lookF]
  by_cases h : f.nm = nm
  · rw [if_pos (show (bootF ks f).nm = nm from h), if_pos h]
    exact ⟨ks, rfl⟩
  · rw [if_neg (show ¬ (bootF ks f).nm = nm from h), if_neg h]
    exact bootL_look nm ks.tail r
theorem boot_bs {D : Dk} (h : Inv D) (nm : List UInt8) (ks : List Int) : ∃ k, bsF (bootD D ks).fs nm = (bsF D.fs nm).take k /\ sfF (bootD D ks).fs nm = k /\ sfF D.fs nm <= k := by
 obtain ⟨ks', e⟩ := bootL_look nm ks D.fs
 unfold bsF sfF
 rw [show (bootD D ks).fs = bootL ks D.fs from rfl, e]
 cases hf : lookF D.fs nm with
 | none => exact ⟨0, rfl, rfl, Nat.le_refl _⟩
 | some f =>
  obtain ⟨_, _, b3, _, b5⟩ := bootF_le (ks := ks') (h.safe f (lookF_mem hf).1)
  exact ⟨_, b5, rfl, b3⟩
theorem safe_step {D : Dk} (h : Inv D) {nm safe : List UInt8} (hs : SafeI D nm safe) (a : ActT) :
  (tchB a nm = false -> SafeI (stepR D a).2 nm safe) /\ (a.1 ≠ 3 -> safe <+: bsF (stepR D a).2.fs nm -> SafeI (stepR D a).2 nm safe) /\
  (a.1 = 1 -> a.nm = nm -> (stepR D a).2.off = false -> SafeI (stepR D a).2 nm (bsF (stepR D a).2.fs nm)) /\ (a.1 = 7 -> bsF (stepR D a).2.fs nm <+: bsF D.fs nm) := by
 obtain ⟨s0, s1, s2, s3, s4, s5, s6, s7⟩ := stepR_at D a
 obtain ⟨e1, e2⟩ := cutP_fs D
 have eE : lookF (cutP D).2.fs nm = lookF D.fs nm := by rw [e1]
 have hrE : Rise (cutP D).2.fs := by rw [e1]; exact h.rise
 have sE : SafeI (cutP D).2 nm safe := hs.same eE
 have wh : ∀ {op : List Fl -> List Fl}, (SafeI (setFs (cutP D).2 (op (cutP D).2.fs)) nm safe) -> SafeI (wholeD D op).2 nm safe := fun {op} ho => by
  rw [wholeD_eq]
  dsimp only
  split
  · exact ho
  · exact sE
 have nn : ∀ {k : Int}, a.1 = k -> k ≠ 2 -> k ≠ 3 -> k ≠ 4 -> tchB a nm = false := fun {k} e h2 h3 h4 => by
  unfold tchB
  rw [e]
  simp [h2, h3, h4]
 by_cases a0 : a.1 = 0
 · rw [s0 a0]
   have key : SafeI (appD D a.nm [a.b, a.c]).2 nm safe := by
    have put : ∀ ys : List UInt8, SafeI (setFs (cutP D).2 (putF { getF D a.nm with bs := (getF D a.nm).bs ++ ys } (cutP D).2.fs)) nm safe := fun ys => by
     refine hs.put eE hrE fun hn => ?_
     have hn : a.nm = nm := by rw [<- hn]; exact (getF_nm D a.nm).symm
     obtain ⟨g1, g2⟩ := getF_bs D a.nm
     dsimp only
     rw [g1, g2, hn, List.take_append_of_le_length (safe_le h nm)]
     exact hs
    unfold appD
    split
    · exact hs
    · split
      · exact hs
      · split
        · exact hs
        · rcases hc : cutP D with ⟨g, E⟩
          rw [hc] at put
          cases g <;> exact put _
   exact ⟨fun _ => key, fun _ _ => key, fun e => by omega, fun e => by omega⟩
 by_cases a1 : a.1 = 1
 · rw [s1 a1]
   have hput : ∀ sf' : List UInt8, (a.nm = nm -> sf' <+: bsF D.fs nm) -> (a.nm ≠ nm -> SafeI D nm sf') -> SafeI (setFs (cutP D).2 (putF { getF D a.nm with sf := (getF D a.nm).bs.length } (cutP D).2.fs)) nm sf' := fun sf' h1 h2 => by
    obtain ⟨g1, g2⟩ := getF_bs D a.nm
    by_cases hn : nm = a.nm
    · unfold SafeI bsF sfF
      rw [show (setFs (cutP D).2 (putF { getF D a.nm with sf := (getF D a.nm).bs.length } (cutP D).2.fs)).fs = putF { getF D a.nm with sf := (getF D a.nm).bs.length } (cutP D).2.fs from rfl, putF_look _ nm hrE, if_pos (show nm = (getF D a.nm).nm by rw [getF_nm]; exact hn)]
      show sf' <+: List.take (getF D a.nm).bs.length (getF D a.nm).bs
      rw [List.take_length, g1, <- hn]
      exact h1 hn.symm
    · refine (h2 (Ne.symm hn)).put eE hrE fun hm => ?_
      exact absurd (hm.symm.trans (getF_nm D a.nm)) hn
   have key : SafeI (syncD D a.nm).2 nm safe := by
    unfold syncD
    split
    · exact hs
    · have hp := hput safe (fun _ => hs.bs) (fun _ => hs)
      rcases hc : cutP D with ⟨g, E⟩
      rw [hc] at hp sE
      cases g
      · exact hp
      · exact sE
   refine ⟨fun _ => key, fun _ _ => key, fun _ hn ho => ?_, fun e => by omega⟩
   unfold syncD at ho ⊢
   split
   · rename_i hf
     rw [if_pos hf] at ho
     have : lookF D.fs nm = none := by
      unfold findE at hf
      rw [show D.off = false from ho, if_neg (by simp), hn] at hf
      cases hl : lookF D.fs nm with
      | none => rfl
      | some f => rw [hl, if_neg (by simp)] at hf; exact absurd rfl hf
     show SafeI D nm (bsF D.fs nm)
     unfold bsF
     rw [this]
     exact SafeI.nil _ _
   · rename_i hf
     rw [if_neg hf] at ho
     have hc1 := @cutP_off D
     rcases hc : cutP D with ⟨g, E⟩
     rw [hc] at ho hput hc1 eE hrE
     cases g
     · dsimp only at ho hput eE hrE ⊢
       refine hput _ (fun _ => ?_) (fun hne => absurd hn hne)
       unfold bsF
       rw [show (setFs E (putF { getF D a.nm with sf := (getF D a.nm).bs.length } E.fs)).fs = putF { getF D a.nm with sf := (getF D a.nm).bs.length } E.fs from rfl, putF_look _ nm hrE, if_pos (show nm = (getF D a.nm).nm by rw [getF_nm]; exact hn.symm)]
       show (getF D a.nm).bs <+: _
       rw [(getF_bs D a.nm).1, hn]
       exact List.prefix_refl _
     · have hh : E.off = true := hc1 rfl
       rw [show E.off = false from ho] at hh
       cases hh
 by_cases a2 : a.1 = 2
 · rw [s2 a2]
   have cut : (cutD D a.nm a.n).2 = D ∨ (cutD D a.nm a.n).2 = (cutP D).2 ∨ (cutD D a.nm a.n).2 = setFs (cutP D).2 (putF ⟨a.nm, (getF D a.nm).bs.take a.n.toNat, min a.n.toNat (getF D a.nm).sf⟩ (cutP D).2.fs) := by
    unfold cutD
    split
    · exact .inl rfl
    · split
      · exact .inl rfl
      · rw [wholeD_eq]
        dsimp only
        split
        · exact .inr (.inr rfl)
        · exact .inr (.inl rfl)
   refine ⟨fun ht => ?_, fun _ hp => ?_, fun e => by omega, fun e => by omega⟩
   · have hne : ¬ a.nm = nm := fun hn => by unfold tchB at ht; rw [a2, hn] at ht; simp at ht
     rcases cut with e | e | e <;> rw [e]
     · exact hs
     · exact sE
     · exact hs.put eE hrE fun hm => absurd hm hne
   · rcases cut with e | e | e <;> rw [e] at hp ⊢
     · exact hs
     · exact sE
     · refine hs.put eE hrE fun hm => ?_
       have hm : a.nm = nm := hm
       dsimp only
       obtain ⟨g1, g2⟩ := getF_bs D a.nm
       unfold bsF at hp
       rw [show (setFs (cutP D).2 (putF ⟨a.nm, (getF D a.nm).bs.take a.n.toNat, min a.n.toNat (getF D a.nm).sf⟩ (cutP D).2.fs)).fs = putF ⟨a.nm, (getF D a.nm).bs.take a.n.toNat, min a.n.toNat (getF D a.nm).sf⟩ (cutP D).2.fs from rfl, putF_look _ nm hrE, if_pos (show nm = a.nm from hm.symm)] at hp
       have hp : safe <+: (getF D a.nm).bs.take a.n.toNat := hp
       rw [g1, hm] at hp
       rw [g1, g2, hm]
       have h1 := List.prefix_take_iff.1 hp
       have h2 := List.prefix_take_iff.1 hs
       exact List.prefix_take_iff.2 ⟨hp, by omega⟩
 by_cases a3 : a.1 = 3
 · rw [s3 a3]
   refine ⟨fun ht => ?_, fun e => absurd a3 e, fun e => by omega, fun e => by omega⟩
   have hne : ¬ a.nm = nm /\ ¬ a.to = nm := by
    unfold tchB at ht
    rw [a3] at ht
    simpa using ht
   unfold renD
   split
   · exact hs
   · split
     · exact hs
     · refine wh (hs.same ?_)
       rw [show (setFs (cutP D).2 (putF { getF D a.nm with nm := a.to } (dropF a.nm (cutP D).2.fs))).fs = putF { getF D a.nm with nm := a.to } (dropF a.nm (cutP D).2.fs) from rfl, putF_look _ nm (dropF_rise _ hrE), if_neg (show ¬ nm = a.to from Ne.symm hne.2), dropF_look, if_neg (Ne.symm hne.1), eE]
 by_cases a4 : a.1 = 4
 · rw [s4 a4]
   have cut : (remD D a.nm).2 = D ∨ (remD D a.nm).2 = (cutP D).2 ∨ (remD D a.nm).2 = setFs (cutP D).2 (dropF a.nm (cutP D).2.fs) := by
    unfold remD
    split
    · exact .inl rfl
    · rw [wholeD_eq]
      dsimp only
      split
      · exact .inr (.inr rfl)
      · exact .inr (.inl rfl)
   refine ⟨fun ht => ?_, fun _ hp => ?_, fun e => by omega, fun e => by omega⟩
   · have hne : ¬ a.nm = nm := fun hn => by unfold tchB at ht; rw [a4, hn] at ht; simp at ht
     rcases cut with e | e | e <;> rw [e]
     · exact hs
     · exact sE
     · refine hs.same ?_
       rw [show (setFs (cutP D).2 (dropF a.nm (cutP D).2.fs)).fs = dropF a.nm (cutP D).2.fs from rfl, dropF_look, if_neg (Ne.symm hne), eE]
   · rcases cut with e | e | e <;> rw [e] at hp ⊢
     · exact hs
     · exact sE
     · by_cases hn : nm = a.nm
       · unfold bsF at hp
         rw [show (setFs (cutP D).2 (dropF a.nm (cutP D).2.fs)).fs = dropF a.nm (cutP D).2.fs from rfl, dropF_look, if_pos hn] at hp
         have : safe = [] := List.prefix_nil.1 hp
         rw [this]
         exact SafeI.nil _ _
       · refine hs.same ?_
         rw [show (setFs (cutP D).2 (dropF a.nm (cutP D).2.fs)).fs = dropF a.nm (cutP D).2.fs from rfl, dropF_look, if_neg hn, eE]
 by_cases a6 : a.1 = 6
 · rw [s6 a6]
   have key : SafeI (armD D a.n a.m) nm safe := hs.same rfl
   exact ⟨fun _ => key, fun _ _ => key, fun e => by omega, fun e => by omega⟩
 by_cases a7 : a.1 = 7
 · rw [s7 a7]
   obtain ⟨k, b1, b2, b3⟩ := boot_bs h nm a.l
   have key : SafeI (bootD D a.l) nm safe := by
    unfold SafeI
    rw [b1, b2, List.take_take, Nat.min_self]
    exact List.prefix_take_iff.2 ⟨hs.bs, by have := (List.prefix_take_iff.1 hs).2; omega⟩
   exact ⟨fun _ => key, fun _ _ => key, fun e => by omega, fun _ => by show bsF (bootD D a.l).fs nm <+: _; rw [b1]; exact List.take_prefix _ _⟩
 · have e : stepR D a = (0, D) := by
    unfold stepR
    rw [if_neg a0, if_neg a1, if_neg a2, if_neg a3, if_neg a4, if_neg a6, if_neg a7]
   rw [e]
   exact ⟨fun _ => hs, fun _ _ => hs, fun e => absurd e a1, fun e => absurd e a7⟩
end Go.Proofs.Ytijipkdbkgafkaa.Con
namespace Go.Proofs.Ytijipkdbkgafkaa.Con
open Go Go.RowKit Go.Kt Go.Kt.V Go.Proofs.Ytijipkdbkgafkaa.Vc
set_option linter.unusedSimpArgs false
set_option linter.unusedVariables false
set_option maxHeartbeats 1000000
set_option maxRecDepth 100000
section
variable {w u u' : World} {d x : Nat} {D E : Dk} {F G : Nat -> Prop}
theorem file21_c {t : Sl} {L : List Fl} (h : SliceF rFq 3 w F t L) (hr : Rise L) (s : List UInt8) : Calls Try.prog 23 #[t.v, .string (T s)] w fun e w' => (∃ b : Sl, e = .returned b.v /\ SliceF rByte 1 w F b (bsF L s)) /\ w' = w := by
 refine (v28w t (T s) (fun v w' => (∃ b : Sl, v = b.v /\ SliceF rByte 1 w F b (bsF L s)) /\ w' = w) w ?_).mono (by
  rintro _ w' ⟨v, rfl, ⟨b, rfl, h⟩, h'⟩; exact ⟨⟨b, rfl, h⟩, h'⟩)
 unfold v28v
 have h1 := h.len
 have h2 := h.cap
 have h3 := h.big
 refine ⟨fun nv i u => ∃ n : Nat, i = (n : Int) /\ nv + n = L.length /\ u = w /\ ∀ f, f ∈ L.take n -> f.nm ≠ s, L.length, ⟨0, rfl, rfl, rfl, by simp⟩, ?_⟩
 rintro nv _ u ⟨n, rfl, hnv, hu, hne⟩
 obtain rfl : w = u := hu.symm
 refine ⟨fun hlt => ?_, fun hge => ?_⟩
 · have hlt : (n : Int) < (t.n : Int) := of_decide_eq_true hlt
   have hnl : n < L.length := by omega
   obtain ⟨p, a, a1, a2, a3, a4, a5⟩ := fq_at h (List.getElem?_eq_getElem hnl)
   refine ⟨p, a1, _, a2, fun hc => ⟨p, a1, a, a3, ⟨a, rfl, ?_⟩, rfl⟩, fun hc => ⟨nv - 1, by omega, n + 1, by rw [wr' (by omega) (by omega)]; rfl, by omega, rfl, fun f hf => ?_⟩⟩
   · rw [eq_T, decide_eq_true_eq] at hc
     have := hr.lookF (List.getElem_mem hnl)
     rw [hc] at this
     unfold bsF
     rw [this]
     exact a5
   · rw [eq_T, decide_eq_false_iff_not] at hc
     rw [List.take_add_one, List.getElem?_eq_getElem hnl, List.mem_append] at hf
     rcases hf with hf | hf
     · exact hne f hf
     · simp only [Option.toList_some, List.mem_singleton] at hf
       rw [hf]; exact hc
 · have hge : ¬ (n : Int) < (t.n : Int) := of_decide_eq_false hge
   have hn : n = L.length := by omega
   subst hn
   rw [List.take_length] at hne
   refine ⟨⟨Sl.nil, rfl, ?_⟩, rfl⟩
   unfold bsF
   rw [lookF_none.2 hne]
   exact SliceF.nil _ _ _ _
theorem begins_c {b c : Sl} {l m : List UInt8} (h : SliceF rByte 1 w F b l) (k : SliceF rByte 1 w G c m) : Calls Try.prog 24 #[b.v, c.v] w fun e w' => e = .returned (.bool (decide (m <+: l))) /\ Only [] w w' := by
 refine ret (v27w b c (fun v w' => v = .bool (decide (m <+: l)) /\ Only [] w w') w ?_)
 unfold v27v
 have h1 := h.len
 have h2 := h.cap
 have k1 := k.len
 have hb := h.big
 refine ⟨c.n, fun hc => ?_, l.take m.length, fun hc => ?_, m, fun _ => (SliceF.bytes k).rd, fun w0 hO => ⟨?_, hO⟩⟩
 · have hc : (b.n : Int) >= (c.n : Int) := of_decide_eq_true hc
   exact ⟨rfl, by omega⟩
 · have hc : (b.n : Int) >= (c.n : Int) := of_decide_eq_true hc
   have hcut := h.cut (lo := 0) (hi := c.n) (m := b.c) (by omega) (by omega) (by omega) (by omega)
   rw [Nat.sub_zero, List.drop_zero, k1] at hcut
   rw [k1]
   exact (SliceF.bytes hcut).rd
 · have e : ((ByteArray.mk (l.take m.length).toArray).toList == (ByteArray.mk m.toArray).toList) = decide (l.take m.length = m) := eq_T _ _
   rw [e, h1, k1]
   congr 1
   rw [Bool.eq_iff_iff, Bool.and_eq_true, decide_eq_true_eq, decide_eq_true_eq, decide_eq_true_eq, List.prefix_iff_eq_take]
   constructor
   · exact fun hh => hh.2.symm
   · intro hh
     refine ⟨?_, hh.symm⟩
     have := congrArg List.length hh
     rw [List.length_take] at this
     omega
theorem tch_eq (a : ActT) (nm : List UInt8) : ((((T a.nm).toList == (T nm).toList) && (((a.1 == 2) || (a.1 == 3)) || (a.1 == 4))) || ((a.1 == 3) && ((T a.to).toList == (T nm).toList))) = tchB a nm := by
 rw [eq_T, eq_T]
 rfl
theorem lasts_c {w : World} {room : Int} (hi : InI room) (nm : List UInt8) {sa : Sl} {acts : List ActT} (h : SliceF rAct 8 w (fun _ => True) sa acts) (hb : (acts.map mA).sum <= 1048576) : Calls Try.prog 6 #[.int .i64 room, .string (T nm), sa.v] w fun e w' => e = .returned (.bool true) /\ Only [] w w' := by
 refine ret (v25w room (T nm) sa (fun v w' => v = .bool true /\ Only [] w w') w ?_)
 unfold v25v
 have hln := h.len
 have hcp := h.cap
 have hbg := h.big
 have h := SliceF.inHeap rAct_ok h (by decide)
 refine (dsmall_c w).mono ?_
 rintro _ w0 ⟨rfl, hO0⟩
 refine ⟨true, rfl, (new_c w0 hi).mono ?_⟩
 rintro _ w1 ⟨d, rfl, hd, hO1⟩
 refine ⟨some ⟨d, 0, none⟩, rfl, fun h => (by simp at h), fun _ => (rnew_c w1 hi).mono ?_⟩
 rintro _ w2 ⟨x, rfl, hx, hO2⟩
 have q2 := dr_new hO0 hd hO1 hx hO2
 refine ⟨some ⟨x, 0, none⟩, rfl, fun nv l i u => ∃ (n : Nat) (D : Dk) (F G : Nat -> Prop) (safe : List UInt8) (S : Nat -> Prop), i = (n : Int) /\ nv + n = acts.length /\ n <= 200 /\ Dr w u d x D F G /\ sumF D.fs <= ((acts.take n).map mA).sum /\ D.fs.length <= n /\ SliceF rByte 1 u S l safe /\ (∀ k, S k -> k < u.heap.size /\ ¬ F k /\ ¬ G k) /\ SafeI D nm safe, acts.length, ⟨0, _, _, _, [], fun _ => False, rfl, rfl, by omega, q2, Nat.zero_le _, Nat.le_refl _, SliceF.nil _ _ _ _, fun _ h => h.elim, SafeI.nil _ _⟩, ?_⟩
 rintro nv l0 _ w3 ⟨n, D, F, G, safe, S, rfl, hnv, hn200, q3, hsum, hlen, hl0, hS, hsafe⟩
 have hsD : sumF D.fs <= 1048576 := by have := sum_take_le acts n; omega
 refine ⟨fun hc => ?_, fun _ => ⟨rfl, q3.only⟩⟩
 simp only [Bool.and_eq_true, decide_eq_true_eq] at hc
 obtain ⟨hc1, hc2⟩ := hc
 obtain ⟨p0, a, cs, a1, a2, a3, a4, a5, a6⟩ := (SliceF.only rAct_ok (by decide) h q3.only (by simp)).get (Int.natCast_nonneg n) hc1
 rw [Int.toNat_natCast] at a2
 obtain ⟨sb, sc, sl, rfl, hsb, hsc, hsl, hIn, hll⟩ := act_cells2 a6
 have hst := sum_take a2
 have hsl' := sum_take_le acts (n + 1)
 have hle := step_le q3.inv a
 have hmx : a.b.length + a.c.length = mA a := rfl
 have hinv := q3.inv
 obtain ⟨t1, t2, t3, t4⟩ := safe_step hinv hsafe a
 refine ⟨p0, a1, _, _, _, _, _, _, _, _, a5, fun k2 w4 hk2 hk2' hO4 => ?_⟩
 have z4 := hO4.size
 have q4 := q3.skip hO4
 obtain ⟨r4, tb4, hk4⟩ := q4.p
 refine (files_c hk4 (by omega) (by omega)).mono ?_
 rintro _ w5 ⟨⟨l4, rfl, hl4⟩, hO5⟩
 have z5 := hO5.size
 have q5 := q4.skip hO5
 have o35 : Only [] w3 w5 := hO4.tr0 hO5
 have zw := q3.only.size
 refine ⟨l4, rfl, hO5.same (by simp; omega), (act_c q5 a (SliceF.only rByte_ok (by decide) (SliceF.mono rByte_ok hsb fun k hk => hk.2) o35 (by simp)) (SliceF.only rByte_ok (by decide) (SliceF.mono rByte_ok hsc fun k hk => hk.2) o35 (by simp)) (SliceF.only rInt_ok (by decide) (SliceF.mono rInt_ok hsl fun k hk => hk.2) o35 (by simp)) hIn (by omega) (by omega) hll (by omega)).mono ?_⟩
 rintro _ w6 ⟨rfl, F', G', q6, hF', hG', hO6⟩
 have z6 := hO6.size
 have l1 := hle.sum
 have l2 := hle.len
 obtain ⟨E, hE⟩ : ∃ E, (stepR D a).2 = E := ⟨_, rfl⟩
 rw [hE] at t1 t2 t3 t4 q6 l1 l2
 have i6 := q6.inv
 have nFG : ∀ k, F k ∨ G k -> k < w3.heap.size := fun k hk => hk.elim (fun hk => (q3.hF k hk).2) fun hk => (q3.hG k hk).2
 obtain ⟨r6, tb6, hk6⟩ := q6.p
 refine ⟨true, rfl, hO6.same (fun y hy => by simp at hy; subst hy; exact ⟨by omega, fun hk => by have := nFG _ hk; omega⟩), (files_c hk6 (by omega) (by omega)).mono ?_⟩
 rintro _ w7 ⟨⟨l5, rfl, hl5⟩, hO7⟩
 have z7 := hO7.size
 have q7 := q6.skip hO7
 refine ⟨l5, rfl, hO7.same (by simp; omega), (file21_c (SliceF.inHeap rFq_ok (told hl5) (by decide)) i6.rise nm).mono ?_⟩
 rintro _ w8 ⟨⟨l6, rfl, hl6⟩, hu⟩
 obtain rfl : w7 = w8 := hu.symm
 have s5 := SliceF.only rByte_ok (by decide) hl0 o35 (by simp)
 have s6 := SliceF.onlyP rByte_ok (by decide) s5 hO6 fun k hk _ hh => hh.elim (hS k hk).2.1 (hS k hk).2.2
 have s7 := SliceF.only rByte_ok (by decide) s6 hO7 (by simp)
 have hS7 : ∀ k, S k -> k < w7.heap.size /\ ¬ F' k /\ ¬ G' k := fun k hk => by
  obtain ⟨y1, y2, y3⟩ := hS k hk
  refine ⟨by omega, fun hh => ?_, fun hh => ?_⟩
  · rcases hF' k hh with hh | hh
    · exact y2 hh
    · omega
  · rcases hG' k hh with hh | hh
    · exact y3 hh
    · omega
 have hN7 : ∀ k, w6.heap.size <= k /\ k < w7.heap.size -> k < w7.heap.size /\ ¬ F' k /\ ¬ G' k := fun k hk => ⟨hk.2, fun hh => by have := (q6.hF k hh).2; omega, fun hh => by have := (q6.hG k hh).2; omega⟩
 have w5s := SliceF.onlyP rFq_ok (by decide) (SliceF.inHeap rFq_ok (told hl4) (by decide)) hO6 fun k hk _ hh => by have := nFG k hh; omega
 have w7s := SliceF.only rFq_ok (by decide) w5s hO7 (by simp)
 have cases2 : ∀ {v : World}, Only [] w7 v -> SliceF rByte 1 v (fun k => w6.heap.size <= k /\ k < w7.heap.size) l6 (bsF E.fs nm) := fun hO => SliceF.only rByte_ok (by decide) hl6 hO (by simp)
 refine ⟨l6, rfl, Same.refl _ _, fun l v => Only [] w7 v /\ ∃ (s : List UInt8) (S' : Nat -> Prop), SliceF rByte 1 v S' l s /\ (∀ k, S' k -> k < w7.heap.size /\ ¬ F' k /\ ¬ G' k) /\ SafeI E nm s, ?_, fun ht => ?_, fun ht => ?_⟩
 · rintro l7 w9 ⟨hO9, s, S', hs1, hs2, hs3⟩
   have z9 := hO9.size
   refine ⟨fun l v => Only [] w7 v /\ ∃ (s : List UInt8) (S' : Nat -> Prop), SliceF rByte 1 v S' l s /\ (∀ k, S' k -> k < w7.heap.size /\ ¬ F' k /\ ¬ G' k) /\ SafeI E nm s, ?_, fun b v => Only [] w7 v /\ (∃ (s : List UInt8) (S' : Nat -> Prop), SliceF rByte 1 v S' l7 s /\ (∀ k, S' k -> k < w7.heap.size /\ ¬ F' k /\ ¬ G' k) /\ SafeI E nm s) /\ (b = true -> SafeI E nm (bsF E.fs nm)), ?_, fun ht => ?_, fun ht => ?_⟩
   · rintro l8 w10 ⟨hO10, s, S', hs1, hs2, hs3⟩
     have z10 := hO10.size
     refine ⟨fun b v => b = false /\ Only [] w10 v, ?_, (begins_c (cases2 hO10) hs1).mono ?_⟩
     · rintro _ w11 ⟨rfl, hO11⟩
       have z11 := hO11.size
       exact ⟨fun h => (by cases h), fun _ => ⟨nv - 1, by omega, n + 1, E, F', G', s, S', by rw [wr' (by omega) (by omega)]; rfl, by omega, by omega, q7.skip (hO10.tr0 hO11), by omega, by omega, SliceF.only rByte_ok (by decide) hs1 hO11 (by simp), fun k hk => ⟨by have := (hs2 k hk).1; omega, (hs2 k hk).2⟩, hs3⟩⟩
     · rintro _ w12 ⟨rfl, hO12⟩
       have z12 := hO12.size
       rw [decide_eq_true hs3.bs]
       refine ⟨true, rfl, hO12.same (by simp; omega), fun h => (by cases h), fun _ => ⟨fun h7 => (file21_c (SliceF.only rFq_ok (by decide) w7s (hO10.tr0 hO12) (by simp)) hinv.rise nm).mono ?_, fun _ => ⟨rfl, hO12⟩⟩⟩
       rintro _ w13 ⟨⟨l9, rfl, hl9⟩, hu⟩
       obtain rfl : w12 = w13 := hu.symm
       refine ⟨l9, rfl, Same.refl _ _, (begins_c hl9 (cases2 (hO10.tr0 hO12))).mono ?_⟩
       rintro _ w14 ⟨rfl, hO14⟩
       rw [decide_eq_true (t4 (by simpa using h7))]
       exact ⟨true, rfl, hO14.same (by simp; omega), rfl, hO12.tr0 hO14⟩
   · rintro b w15 ⟨hO15, ⟨s, S', y1, y2, y3⟩, y4⟩
     exact ⟨fun hb => ⟨hO15, _, _, cases2 hO15, hN7, y4 hb⟩, fun _ => ⟨hO15, s, S', y1, y2, y3⟩⟩
   · rw [eq_T] at ht
     simp only [Bool.and_eq_true, beq_iff_eq, decide_eq_true_eq] at ht
     obtain ⟨r9, tb9, hk9⟩ := (q7.skip hO9).p
     refine ⟨⟨d, 0, none⟩, rfl, (up_c hk9).mono ?_⟩
     rintro _ w16 ⟨rfl, hu⟩
     obtain rfl : w9 = w16 := hu.symm
     exact ⟨_, rfl, Same.refl _ _, hO9, ⟨s, S', hs1, hs2, hs3⟩, fun ho => t3 ht.1 ht.2 (by simpa using ho)⟩
   · exact ⟨hO9, ⟨s, S', hs1, hs2, hs3⟩, fun h => (by cases h)⟩
 · refine (begins_c hl6 s7).mono ?_
   rintro _ w17 ⟨rfl, hO17⟩
   have z17 := hO17.size
   refine ⟨_, rfl, hO17.same (by simp; omega), fun hb => ⟨hO17, [], fun _ => False, SliceF.nil _ _ _ _, fun _ h => h.elim, SafeI.nil _ _⟩, fun hb => ⟨hO17, safe, S, SliceF.only rByte_ok (by decide) s7 hO17 (by simp), hS7, ?_⟩⟩
   simp only [Bool.or_eq_false_iff, Bool.not_eq_false', decide_eq_true_eq, beq_eq_false_iff_ne] at hb
   exact t2 hb.2 hb.1
 · rw [tch_eq] at ht
   exact ⟨Only.refl _ _, safe, S, s7, hS7, t1 ht⟩
end
end Go.Proofs.Ytijipkdbkgafkaa.Con
