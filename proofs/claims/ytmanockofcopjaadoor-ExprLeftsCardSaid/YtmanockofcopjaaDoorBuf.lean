/-
  Own work: texts that are written piece by piece into a page: its block, its buffer; the builder's functions.
-/
import Derived.Test.YtmanockofcopjaaDoorExc5
import Derived.Lib.Builder
import Derived.Lib.AppendStr
import Derived.Lib.UnsafeStr
namespace Go.Proofs.YtmanockofcopjaaDoor.Con
open Go Go.RowKit Go.Kt Go.Kt.V Go.Proofs.YtmanockofcopjaaDoor.Vc
set_option linter.unusedSimpArgs false
set_option linter.unusedVariables false
set_option maxHeartbeats 4000000

/-! ## bytes of one's own -/
def Bf (w : World) (B : Nat) (s : Sl) (l : List UInt8) : Prop :=
  (s = Sl.nil ∧ l = []) ∨ ∃ g tail, s.a = some ⟨g, 0, none⟩ ∧ B ≤ g ∧ Blk w g 5 (l.map byteV ++ tail) ∧ tail.length = s.c - s.n ∧ s.n = l.length ∧ s.n ≤ s.c ∧ s.c ≤ 9223372036854775807 ∧ 0 < s.c
theorem Bf.len {w : World} {B : Nat} {s : Sl} {l : List UInt8} (h : Bf w B s l) : s.n = l.length := by
  rcases h with ⟨rfl, rfl⟩ | ⟨g, tail, _, _, _, _, h, _⟩
  · rfl
  · exact h
theorem Bf.lt {w : World} {B : Nat} {s : Sl} {l : List UInt8} (h : Bf w B s l) {g : Nat} (hg : s.a = some ⟨g, 0, none⟩) : B ≤ g ∧ g < w.heap.size := by
  rcases h with ⟨rfl, rfl⟩ | ⟨g', tail, h1, h2, h3, _⟩
  · cases hg
  · rw [hg] at h1
    injection h1 with h1
    injection h1 with h1
    subst h1
    exact ⟨h2, h3.lt⟩
theorem Bf.keep {w w' : World} {B : Nat} {s : Sl} {l : List UInt8} (h : Bf w B s l) (hk : ∀ g, s.a = some ⟨g, 0, none⟩ → g < w.heap.size → w'.heap[g]? = w.heap[g]?) : Bf w' B s l := by
  rcases h with h | ⟨g, tail, h1, h2, h3, h4⟩
  · exact .inl h
  · exact .inr ⟨g, tail, h1, h2, (hk g h1 h3.lt).trans h3, h4⟩
theorem strC (l : List UInt8) : Lib.strCells (T l) = l.map byteV := rfl
theorem u8_slice : Tryd.prog.underlying 46 = some (.slice 5) := by kernel_rfl
theorem u8_str : Tryd.prog.underlying 9 = some .string := by kernel_rfl
theorem u8_info : Tryd.prog.info? 5 = some Tryd.t5 := by kernel_rfl
/-- a text is put behind -/
theorem app_str {w : World} {B : Nat} {s : Sl} {l : List UInt8} (h : Bf w B s l) (m : List UInt8) (hB : B ≤ w.heap.size) (hm : l.length + m.length ≤ 140737488355328) :
    ∃ s' w', (Builtin.append_ #[46, 9] 46 #[s.v, .string (T m)]).run Tryd.prog w = .ok s'.v w' ∧ Bf w' B s' (l ++ m) ∧ OnlyP (fun k => s.a = some ⟨k, 0, none⟩) w w' ∧ (s'.a = s.a ∨ s'.a = some ⟨w.heap.size, 0, none⟩) := by
  have ht := u8_slice
  have hu := u8_str
  have hi := u8_info
  have hs1 : Tryd.t5.size = 1 := rfl
  have hb1 : Tryd.t5.bytes = 1 := rfl
  have hz : Tryd.t5.zero = some (.int .u8 0) := rfl
  have hsz : (T m).size = m.length := T_size m
  have grown : ∀ (need old : Nat), need = l.length + m.length → 0 < l.length + m.length → ∀ cells : Array Value, cells = ((l ++ m).map byteV).toArray ++ Builtin.zeroCells (Value.int .u8 0).cells (grownCap w need old 5 - need) →
      Bf (w.drew.alloc (.cells cells 5)) B ⟨some ⟨w.heap.size, 0, none⟩, need, grownCap w need old 5⟩ (l ++ m) ∧ OnlyP (fun k => s.a = some ⟨k, 0, none⟩) w (w.drew.alloc (.cells cells 5)) := by
    rintro need old rfl h0 cells rfl
    have hO : Only [] w (w.drew.alloc (.cells (((l ++ m).map byteV).toArray ++ Builtin.zeroCells (Value.int .u8 0).cells (grownCap w (l.length + m.length) old 5 - (l.length + m.length))) 5)) := (Only.drew w).tr0 (Only.alloc _ _)
    refine ⟨.inr ⟨w.heap.size, (Builtin.zeroCells (Value.int .u8 0).cells (grownCap w (l.length + m.length) old 5 - (l.length + m.length))).toList, rfl, hB, ?_, ?_, by simp, grownCap_ge _ _ _ _, grownCap_le_maxLen _ _ _ _ (by simp only [maxLen]; omega), Nat.lt_of_lt_of_le h0 (grownCap_ge _ _ _ _)⟩, hO.p0⟩
    · have e : ∀ (x : List Value) (z : Array Value), x.toArray ++ z = (x ++ z.toList).toArray := fun x z => by simp
      rw [e]
      exact Blk.alloc w.drew 5 _
    · exact (zero_len w _ (size := 1) rfl).trans (Nat.mul_one _)
  rcases h with ⟨rfl, rfl⟩ | ⟨g, tail, h1, h2, h3, h4, h5, h6, h7, h8⟩
  · cases m with
    | nil =>
      refine ⟨Sl.nil, w, ?_, .inl ⟨rfl, rfl⟩, OnlyP.refl _ _, .inl rfl⟩
      have hf := Lib.run_firstCells_string (P := Tryd.prog) w 1 (T [])
      have h0 : (T []).size = 0 := rfl
      rw [h0] at hf
      simp [Sl.nil, Sl.v, Builtin.append_, run_underlying ht, run_underlying hu, sizeOf, typeInfo, hi, hs1, Builtin.lenOf, h0, hf]
    | cons c m =>
      have hr := run_append_nil_string (P := Tryd.prog) w 46 9 46 5 Tryd.t5 (.int .u8 0) ht hu hi hz (T (c :: m)) (by rw [hsz]; simp) (by rw [hsz]; omega) (by rw [hsz, hb1]; omega)
      rw [hsz] at hr
      obtain ⟨g1, g2⟩ := grown (c :: m).length 0 (by simp) (by simp) _ rfl
      have e1 : (T (c :: m)).data.map (fun b => Value.int .u8 b.toNat) = (List.map byteV ([] ++ c :: m)).toArray := by
        apply Array.toList_inj.1
        rw [Array.toList_map, List.toList_toArray]
        rfl
      rw [e1] at hr
      exact ⟨_, _, hr, g1, g2, .inr rfl⟩
  · obtain ⟨sa, sn, sc⟩ := s
    dsimp only at h1 h4 h5 h6 h7 h8
    subst h1
    by_cases hroom : sn + m.length ≤ sc
    · have hb3 := h3
      unfold Blk at h3
      have hr := Lib.run_append_room_string (P := Tryd.prog) w 46 9 46 5 Tryd.t5 ht hu hi hs1 g sn sc _ h3 (T m) (by rw [hsz]; exact hroom) (by
        rw [hsz, List.size_toArray, List.length_append, List.length_map]; omega)
      rw [hsz, strC] at hr
      refine ⟨⟨some ⟨g, 0, none⟩, sn + m.length, sc⟩, _, hr, .inr ⟨g, tail.drop m.length, rfl, h2, ?_, ?_, by dsimp only; rw [List.length_append]; omega, hroom, h7, h8⟩, (Only.setRow w g _).p fun x hx => .inl (by simp only [List.mem_singleton] at hx; rw [hx]), .inl rfl⟩
      · have := hb3.setRow ((l ++ m).map byteV ++ tail.drop m.length)
        have e : ((l.map byteV ++ tail).toArray.toList.take sn ++ m.map byteV ++ (l.map byteV ++ tail).toArray.toList.drop (sn + m.length)) = (l ++ m).map byteV ++ tail.drop m.length := by
          rw [List.toList_toArray, List.take_append_of_le_length (by rw [List.length_map]; omega), List.take_of_length_le (by rw [List.length_map]; omega), List.drop_append, List.drop_of_length_le (by rw [List.length_map]; omega), List.nil_append, List.length_map, List.map_append, h5, Nat.add_sub_cancel_left]
        rw [e]
        exact this
      · rw [List.length_drop]; dsimp only; omega
    · have hcell : ∀ j v, (l.map byteV)[j]? = some v → w.cell? ((⟨g, 0, none⟩ : Addr).add j) = some v := fun j v hj => h3.cells 0 (l.map byteV) (fun j v hj => by rw [Nat.zero_add, List.getElem?_append_left (List.getElem?_eq_some_iff.1 hj).1]; exact hj) j v hj
      have hr := Lib.run_append_grow_string (P := Tryd.prog) w 46 9 46 5 Tryd.t5 (.int .u8 0) ht hu hi hz ⟨g, 0, none⟩ sn sc (l.map byteV) (by rw [hs1, List.length_map]; omega) hcell (T m) (by rw [hsz]; omega) (by rw [hsz]; omega) (growslice_fits (by rw [hsz]; omega) (by rw [hsz, hb1]; omega))
      rw [hsz, strC] at hr
      obtain ⟨g1, g2⟩ := grown (sn + m.length) sc (by omega) (by omega) _ rfl
      refine ⟨_, _, hr.trans ?_, g1, g2, .inr rfl⟩
      simp [List.map_append]

theorem els_b (w : World) (F : Nat → Prop) : ∀ l : List UInt8, Els rByte 1 w F l (l.map fun b => [byteV b])
  | [] => trivial
  | c :: l => ⟨⟨rfl, rfl⟩, els_b w F l⟩
theorem flat_b : ∀ l : List UInt8, (l.map fun b => [byteV b]).flatten = l.map byteV
  | [] => rfl
  | c :: l => by rw [List.map_cons, List.flatten_cons, flat_b l]; rfl
theorem els_flat {w : World} {F : Nat → Prop} : ∀ {l : List UInt8} {css : List (List Value)}, Els rByte 1 w F l css → css.flatten = l.map byteV
  | [], [], _ => rfl
  | c :: l, d :: css, h => by
    obtain ⟨⟨_, h1⟩, h2⟩ := h
    unfold rByte at h1
    subst h1
    rw [List.flatten_cons, els_flat h2]
    rfl
theorem Bf.own {w : World} {B : Nat} {s : Sl} {l : List UInt8} (h : Bf w B s l) (F : Nat → Prop) : Own rByte 1 5 B w F s l := by
  rcases h with h | ⟨g, tail, h1, h2, h3, h4, h5, h6, h7, _⟩
  · exact .inl h
  · exact .inr ⟨g, l.map fun b => [byteV b], tail, h1, h2, by rw [flat_b]; exact h3, by rw [Nat.mul_one]; exact h4, h5, h6, h7, els_b _ _ _⟩
theorem Bf.of {w : World} {B : Nat} {s : Sl} {l : List UInt8} {F : Nat → Prop} (h : Own rByte 1 5 B w F s l) (h0 : 0 < l.length) : Bf w B s l := by
  rcases h with h | ⟨g, css, tail, h1, h2, h3, h4, h5, h6, h7, h8⟩
  · exact .inl h
  · exact .inr ⟨g, tail, h1, h2, by rw [← els_flat h8]; exact h3, by rw [h4, Nat.mul_one], h5, h6, h7, by omega⟩
/-! ## a page -/
structure Pg (G : Nat → Prop) (w : World) (b : Nat) (sl sn : Sl) (l : List UInt8) : Prop where
  blk : ∃ q : Option Addr, (q = none ∨ q = some ⟨b, 0, none⟩) ∧ Blk w b 50 [.pointer q, sl.v, sn.v]
  buf : Bf w (b + 1) sl l
  sig : SliceF rTx 1 w G sn opsL
  hG : ∀ k, G k → k < b
/-- what has moved: the page's block and its buffer -/
def Mv (b : Nat) (sl : Sl) (w : World) (sl' : Sl) (w' : World) : Prop := OnlyP (fun k => k = b ∨ sl.a = some ⟨k, 0, none⟩) w w' ∧ ∀ k, sl'.a = some ⟨k, 0, none⟩ → sl.a = some ⟨k, 0, none⟩ ∨ w.heap.size ≤ k
theorem Mv.refl (b : Nat) (sl : Sl) (w : World) : Mv b sl w sl w := ⟨OnlyP.refl _ _, fun _ h => .inl h⟩
theorem Mv.trans {b : Nat} {sl sl' sl'' : Sl} {w w' w'' : World} (h : Mv b sl w sl' w') (k : Mv b sl' w' sl'' w'') : Mv b sl w sl'' w'' := by
  have z := h.1.size
  refine ⟨h.1.trans k.1 fun x hx => ?_, fun x hx => ?_⟩
  · rcases hx with hx | hx
    · exact .inl (.inl hx)
    · rcases h.2 x hx with e | e
      · exact .inl (.inr e)
      · exact .inr e
  · rcases k.2 x hx with e | e
    · exact h.2 x e
    · exact .inr (by omega)
theorem Mv.only {b : Nat} {sl : Sl} {w w' : World} (h : Only [] w w') : Mv b sl w sl w' := ⟨h.p0, fun _ h => .inl h⟩
theorem Mv.same {b : Nat} {sl sl' : Sl} {w w' : World} (h : Mv b sl w sl' w') {k : Nat} (hk : k ≠ b) (hs : sl.a ≠ some ⟨k, 0, none⟩) (hl : k < w.heap.size) : Same [k] w w' := h.1.same (by
  intro x hx
  simp only [List.mem_singleton] at hx
  subst hx
  exact ⟨hl, fun e => e.elim hk hs⟩)
theorem Pg.only {G : Nat → Prop} {w w' : World} {b : Nat} {sl sn : Sl} {l : List UInt8} (h : Pg G w b sl sn l) (hO : Only [] w w') : Pg G w' b sl sn l := by
  obtain ⟨q, hq, hB⟩ := h.blk
  exact ⟨⟨q, hq, hO.blk hB (by simp)⟩, h.buf.keep fun g _ hl => hO.block g hl (by simp), SliceF.only rTx_ok (by decide) h.sig hO (by simp), h.hG⟩
theorem Pg.lb {G : Nat → Prop} {w : World} {b : Nat} {sl sn : Sl} {l : List UInt8} (h : Pg G w b sl sn l) : b < w.heap.size := by
  obtain ⟨q, hq, hB⟩ := h.blk
  exact hB.lt
theorem noEsc (v : Value) (w : World) : (extV 60 #[v]).run Tryd.prog w = .ok v w := by
  unfold extV
  rw [Sem.run_bind, run_callFunc_extern Tryd.func60 (by kernel_rfl) (by kernel_rfl) (by kernel_rfl) (e := Extern.AbiNoEscape.same) (by kernel_rfl)]
  rw [Lib.run_noEscape]
  rfl
theorem check_c {w : World} {b : Nat} {q : Option Addr} {sl sn : Sl} (hq : q = none ∨ q = some ⟨b, 0, none⟩) (h : Blk w b 50 [.pointer q, sl.v, sn.v]) :
    Calls Tryd.prog 45 #[.pointer (some ⟨b, 0, none⟩)] w fun e w' => e = .returned (.tuple #[]) ∧ Only [b] w w' ∧ Blk w' b 50 [.pointer (some ⟨b, 0, none⟩), sl.v, sn.v] := by
  refine ret (strings_Builder_copyCheck_wp ⟨b, 0, none⟩ (fun v w' => v = .tuple #[] ∧ Only [b] w w' ∧ Blk w' b 50 [.pointer (some ⟨b, 0, none⟩), sl.v, sn.v]) w ?_)
  unfold strings_Builder_copyCheck_vc
  have hsh : w.shape? b = some (50, 3) := by
    unfold World.shape?
    unfold Blk at h
    rw [h]
    rfl
  refine ⟨q, Blk.at1 h 0 rfl, fun hn => ?_, fun hn => ⟨q, Blk.at1 h 0 rfl, ?_⟩⟩
  · have hr1 := Lib.run_to_unsafe (P := Tryd.prog) (src := 45) (dst := 99) w ⟨b, 0, none⟩ (t := 48) (j := Tryd.t48) (by kernel_rfl) (by kernel_rfl) (by kernel_rfl) (by decide) hsh (by decide : (0 : Nat) < 3)
    have hr2 := Lib.run_from_unsafe (P := Tryd.prog) (src := 99) (dst := 45) w ⟨b, 0, none⟩ (u := 48) (j := Tryd.t48) (by kernel_rfl) (by kernel_rfl) (by kernel_rfl) hsh (by kernel_rfl)
    exact ⟨⟨.pointer (some ⟨b, 0, none⟩), rfl⟩, w, hr1, ⟨.pointer (some ⟨b, 0, none⟩), rfl⟩, w, noEsc _ w, some ⟨b, 0, none⟩, w, hr2, b, 0, _, _, rfl, h, by simp, fun w3 hO hB => ⟨rfl, hO, hB⟩⟩
  · rcases hq with rfl | rfl
    · cases hn
    · exact ⟨false, w, Lib.run_neq_ptr_same w _ (te := 48) (j := Tryd.t48) (by kernel_rfl) (by kernel_rfl), fun e => (by cases e), fun _ => ⟨rfl, Only.refl _ _, h⟩⟩
section
variable {G : Nat → Prop} {w : World} {b : Nat} {sl sn : Sl} {l : List UInt8}
theorem plen_c (h : Pg G w b sl sn l) : Calls Tryd.prog 26 #[.pointer (some ⟨b, 0, none⟩)] w fun e w' => e = .returned (.int .i64 (l.length : Int)) ∧ w' = w := by
  refine ret (strings_Builder_Len_wp ⟨b, 0, none⟩ (fun v w' => v = .int .i64 (l.length : Int) ∧ w' = w) w ?_)
  unfold strings_Builder_Len_vc
  obtain ⟨q, hq, hB⟩ := h.blk
  exact ⟨sl, Blk.at1 hB 1 rfl, by rw [h.buf.len], rfl⟩
theorem wstr_c (h : Pg G w b sl sn l) (m : List UInt8) (hm : l.length + m.length ≤ 140737488355328) : Calls Tryd.prog 28 #[.pointer (some ⟨b, 0, none⟩), .string (T m)] w fun e w' =>
    ∃ sl', e = .returned (.tuple #[.int .i64 (m.length : Int), .nilIface]) ∧ Pg G w' b sl' sn (l ++ m) ∧ Mv b sl w sl' w' := by
  refine (strings_Builder_WriteString_wp ⟨b, 0, none⟩ (T m) (fun v w' => ∃ sl', v = .tuple #[.int .i64 (m.length : Int), .nilIface] ∧ Pg G w' b sl' sn (l ++ m) ∧ Mv b sl w sl' w') w ?_).mono (by
    rintro e w' ⟨v, rfl, s, rfl, h⟩; exact ⟨s, rfl, h⟩)
  unfold strings_Builder_WriteString_vc
  obtain ⟨q, hq, hB⟩ := h.blk
  refine (check_c hq hB).mono ?_
  rintro _ w0 ⟨rfl, hO0, hB0⟩
  have z0 := hO0.size
  have hb := hB.lt
  have hbuf : Bf w0 (b + 1) sl l := h.buf.keep fun g hg hl => hO0.block g hl (by have := (h.buf.lt hg).1; simp; omega)
  obtain ⟨s', w1, k1, k2, k3, k4⟩ := app_str hbuf m (by omega) hm
  have z1 := k3.size
  have hB1 : Blk w1 b 50 [.pointer (some ⟨b, 0, none⟩), sl.v, sn.v] := k3.blk hB0 fun e => by have := (hbuf.lt e).1; omega
  have hs' : ∀ g, s'.a = some ⟨g, 0, none⟩ → b < g := fun g hg => by
    rcases k4 with e | e
    · rw [e] at hg; exact (hbuf.lt hg).1
    · rw [e] at hg; injection hg with hg; injection hg with hg; omega
  refine ⟨rfl, sl, Blk.at1 hB0 1 rfl, s', w1, k1, b, 1, _, _, rfl, hB1, by simp, fun w2 hO2 hB2 => ⟨s', by rw [T_size], ⟨⟨_, .inr rfl, hB2⟩, k2.keep fun g hg hl => hO2.block g hl (by have := hs' g hg; simp; omega), ?_, h.hG⟩, ?_, ?_⟩⟩
  · have h0 := SliceF.only rTx_ok (by decide) h.sig hO0 fun k hk _ hm => by have := h.hG k hk; simp only [List.mem_singleton] at hm; omega
    have h1 := SliceF.onlyP rTx_ok (by decide) h0 k3 fun k hk _ hm => by have := h.hG k hk; have := (hbuf.lt hm).1; omega
    exact SliceF.only rTx_ok (by decide) h1 hO2 fun k hk _ hm => by have := h.hG k hk; simp only [List.mem_singleton] at hm; omega
  · refine ((hO0.p (F := fun k => k = b ∨ sl.a = some ⟨k, 0, none⟩) fun x hx => .inl (.inl (by simpa using hx))).trans k3 fun k hk => .inl (.inr hk)).trans (hO2.p (F := fun k => k = b) fun x hx => .inl (by simpa using hx)) fun k hk => .inl (.inl hk)
  · intro k hk
    rcases k4 with e | e
    · rw [e] at hk; exact .inl hk
    · rw [e] at hk; injection hk with hk; injection hk with hk; exact .inr (by omega)
theorem wbyte_vc (h : Pg G w b sl sn l) (c : UInt8) (hm : l.length + 1 ≤ 140737488355328) : strings_Builder_WriteByte_vc ⟨b, 0, none⟩ (c.toNat : Int) (fun v w' => ∃ sl', v = .nilIface ∧ Pg G w' b sl' sn (l ++ [c]) ∧ Mv b sl w sl' w') w := by
  unfold strings_Builder_WriteByte_vc
  obtain ⟨q, hq, hB⟩ := h.blk
  refine (check_c hq hB).mono ?_
  rintro _ w0 ⟨rfl, hO0, hB0⟩
  have z0 := hO0.size
  have hb := hB.lt
  have hbuf : Bf w0 (b + 1) sl l := h.buf.keep fun g hg hl => hO0.block g hl (by have := (h.buf.lt hg).1; simp; omega)
  obtain ⟨y, w1, k1, k2, k3, _⟩ := buildB w0 [c] (n := 1) (parts := #[(0, .int .u8 (c.toNat : Int))]) rfl rfl (by decide) (by decide)
  have z1 := k3.size
  have hbuf1 : Bf w1 (b + 1) sl l := hbuf.keep fun g hg hl => k3.block g hl (by simp)
  obtain ⟨s', w2, m1, m2, gs, m3, m4, m5⟩ := app_own (P := Tryd.prog) (t := 46) (ty := 46) (e := 5) (i := Tryd.t5) (bytes := 1) (size := 1) (r := rByte) u8_slice u8_info rfl rfl rfl rfl rByte_ok (hbuf1.own fun _ => True) ((flatB k2).mono rByte_ok fun k hk => ⟨trivial, fun e => by have := (hbuf.lt e).2; have := hk.1; omega⟩) (by omega) (by rw [List.length_singleton]; omega) (by decide)
  have z2 := m3.size
  have hO2 : OnlyP (fun k => sl.a = some ⟨k, 0, none⟩) w1 w2 := m3.p fun x hx => .inl (m4 x hx).1
  have hB2 : Blk w2 b 50 [.pointer (some ⟨b, 0, none⟩), sl.v, sn.v] := hO2.blk (k3.blk hB0 (by simp)) fun e => by have := (hbuf.lt e).1; omega
  have hs' : ∀ g, s'.a = some ⟨g, 0, none⟩ → b < g := fun g hg => by
    rcases m5 with e | e
    · rw [e] at hg; exact (hbuf.lt hg).1
    · rw [e] at hg; injection hg with hg; injection hg with hg; omega
  refine ⟨rfl, sl, Blk.at1 hB0 1 rfl, y, w1, k1, s', w2, m1, b, 1, _, _, rfl, hB2, by simp, fun w3 hO3 hB3 => ⟨s', rfl, ⟨⟨_, .inr rfl, hB3⟩, (Bf.of m2 (by simp)).keep fun g hg hl => hO3.block g hl (by have := hs' g hg; simp; omega), ?_, h.hG⟩, ?_, ?_⟩⟩
  · have h0 := SliceF.only rTx_ok (by decide) h.sig (hO0.tr0 k3) fun k hk _ hm => by have := h.hG k hk; simp only [List.mem_singleton] at hm; omega
    have h1 := SliceF.onlyP rTx_ok (by decide) h0 hO2 fun k hk _ hm => by have := h.hG k hk; have := (hbuf.lt hm).1; omega
    exact SliceF.only rTx_ok (by decide) h1 hO3 fun k hk _ hm => by have := h.hG k hk; simp only [List.mem_singleton] at hm; omega
  · refine (((hO0.tr0 k3).p (F := fun k => k = b ∨ sl.a = some ⟨k, 0, none⟩) fun x hx => .inl (.inl (by simpa using hx))).trans hO2 fun k hk => .inl (.inr hk)).trans (hO3.p (F := fun k => k = b) fun x hx => .inl (by simpa using hx)) fun k hk => .inl (.inl hk)
  · intro k hk
    rcases m5 with e | e
    · rw [e] at hk; exact .inl hk
    · rw [e] at hk; injection hk with hk; injection hk with hk; exact .inr (by omega)
theorem wbyte_c (h : Pg G w b sl sn l) (c : UInt8) (hm : l.length + 1 ≤ 140737488355328) : Calls Tryd.prog 27 #[.pointer (some ⟨b, 0, none⟩), .int .u8 (c.toNat : Int)] w fun e w' =>
    ∃ sl', e = .returned .nilIface ∧ Pg G w' b sl' sn (l ++ [c]) ∧ Mv b sl w sl' w' := (strings_Builder_WriteByte_wp _ _ _ w (wbyte_vc h c hm)).mono (by
    rintro e w' ⟨v, rfl, s, rfl, h⟩; exact ⟨s, rfl, h⟩)
theorem wbyte_d (h : Pg G w b sl sn l) (c : UInt8) (hm : l.length + 1 ≤ 140737488355328) : CallsR Tryd.prog 27 #[.pointer (some ⟨b, 0, none⟩), .int .u8 (c.toNat : Int)] w fun v w' =>
    ∃ sl', v = .nilIface ∧ Pg G w' b sl' sn (l ++ [c]) ∧ Mv b sl w sl' w' := strings_Builder_WriteByte_wpd _ _ _ w (wbyte_vc h c hm)

/-! ## the text of a page -/
structure Pt (w : World) (b : Nat) (sl : Sl) (l : List UInt8) : Prop where
  blk : ∃ q sn : Value, Blk w b 50 [q, sl.v, sn]
  len : sl.n = l.length
  some : l ≠ [] → ∃ g, sl.a = .some ⟨g, 0, none⟩ ∧ b < g ∧ sl.c ≠ 0 ∧ (∃ n, w.shape? g = .some (5, n) ∧ l.length ≤ n) ∧ Cells w ⟨g, 0, none⟩ (l.map byteV)
  cap : sl.a = none ∨ sl.c ≠ 0
  big : l.length ≤ 9223372036854775807
theorem shape_keep {w w' : World} {g : Nat} (h : w'.heap[g]? = w.heap[g]?) : w'.shape? g = w.shape? g := by
  unfold World.shape?
  rw [h]
theorem Pt.only {w' : World} (h : Pt w b sl l) (hO : Only [] w w') : Pt w' b sl l := by
  obtain ⟨⟨q, sn, h1⟩, h2, h3, h4, h5⟩ := h
  refine ⟨⟨q, sn, hO.blk h1 (by simp)⟩, h2, fun hl => ?_, h4, h5⟩
  obtain ⟨g, a1, a2, a3, ⟨n, a4, a5⟩, a6⟩ := h3 hl
  have hg : g < w.heap.size := by
    refine Decidable.byContradiction fun hn => ?_
    unfold World.shape? at a4
    rw [Array.getElem?_eq_none (by omega)] at a4
    cases a4
  have hk := hO.block g hg (by simp)
  exact ⟨g, a1, a2, a3, ⟨n, (shape_keep hk).trans a4, a5⟩, a6.keep hk⟩
theorem Pg.pt (h : Pg G w b sl sn l) : Pt w b sl l := by
  obtain ⟨q, hq, hB⟩ := h.blk
  refine ⟨⟨_, _, hB⟩, h.buf.len, fun hl => ?_, ?_, ?_⟩
  · rcases h.buf with ⟨_, e⟩ | ⟨g, tail, h1, h2, h3, h4, h5, h6, h7, h8⟩
    · exact absurd e hl
    · have h0 : l.length ≠ 0 := fun e => hl (List.eq_nil_of_length_eq_zero e)
      refine ⟨g, h1, h2, by omega, ⟨_, by unfold World.shape?; unfold Blk at h3; rw [h3], by simp⟩, h3.cells 0 (l.map byteV) fun j v hj => by rw [Nat.zero_add, List.getElem?_append_left (List.getElem?_eq_some_iff.1 hj).1]; exact hj⟩
  · rcases h.buf with ⟨e, _⟩ | ⟨g, tail, h1, h2, h3, h4, h5, h6, h7, h8⟩
    · exact .inl (by rw [e])
    · exact .inr (by omega)
  · rcases h.buf with ⟨_, e⟩ | ⟨g, tail, h1, h2, h3, h4, h5, h6, h7⟩
    · subst e; simp
    · omega
end
end Go.Proofs.YtmanockofcopjaaDoor.Con
