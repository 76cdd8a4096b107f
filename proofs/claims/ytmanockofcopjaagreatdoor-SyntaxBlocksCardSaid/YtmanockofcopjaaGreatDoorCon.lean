
/-
  Own work: what the functions of the scan package do, each once: letters, rows of letters, blanks.
-/
import Derived.Test.YtmanockofcopjaaGreatDoorStr
import Derived.Test.YtmanockofcopjaaGreatDoorWcs
import Derived.Test.YtmanockofcopjaaGreatDoorShelf
namespace Go.Proofs.YtmanockofcopjaaGreatDoor.Con
open Go Go.RowKit Go.Kt Go.Kt.V Go.Proofs.YtmanockofcopjaaGreatDoor.Vc
set_option linter.unusedSimpArgs false
set_option linter.unusedVariables false

theorem ret {P : Program} {f : FuncId} {a : Array Value} {w : World} {r : Value} {Q : World → Prop} (h : Calls P f a w fun e w' => ∃ v, e = .returned v ∧ v = r ∧ Q w') : Calls P f a w fun e w' => e = .returned r ∧ Q w' :=
  h.mono (by rintro e w' ⟨v, rfl, rfl, hq⟩; exact ⟨rfl, hq⟩)
/-- one cell of a block -/
theorem Blk.at1 {w : World} {b : Nat} {t : TypeId} {cs : List Value} (h : Blk w b t cs) (j : Nat) {v : Value} (hv : cs[j]? = some v) : Cells w ((⟨b, 0, none⟩ : Addr).add j) [v] := by
  rw [addr_lit, Nat.zero_add]
  exact h.cells j [v] fun k u hk => by
    cases k with
    | zero => simp only [List.getElem?_cons_zero, Option.some.injEq] at hk; subst hk; exact hv
    | succ k => simp at hk

/-! ## letters -/
def letterB (c : UInt8) : Bool := (65 ≤ c.toNat && c.toNat ≤ 90) || (97 ≤ c.toNat && c.toNat ≤ 122) || c.toNat == 95
def digitB (c : UInt8) : Bool := 48 ≤ c.toNat && c.toNat ≤ 57
def wordB (c : UInt8) : Bool := letterB c || digitB c
def blankB (c : UInt8) : Bool := [9, 10, 13, 32].contains c
theorem letter_all : ∀ n : Fin 256, (((decide (97 ≤ (bits .or .u8 (n.val : Int) 32))) && (decide ((bits .or .u8 (n.val : Int) 32) ≤ 122))) || ((n.val : Int) == 95)) = ((65 ≤ n.val && n.val ≤ 90) || (97 ≤ n.val && n.val ≤ 122) || n.val == 95) := by decide +kernel
theorem letter_c (w : World) (c : UInt8) : Calls Tryz.prog 102 #[.int .u8 (c.toNat : Int)] w fun e w' => e = .returned (.bool (letterB c)) ∧ Only [] w w' := by
  refine ret (scan_letter_wp _ (fun v w' => v = .bool (letterB c) ∧ Only [] w w') w ?_)
  unfold scan_letter_vc
  exact ⟨by rw [letter_all ⟨c.toNat, c.toNat_lt⟩]; rfl, Only.refl _ _⟩
theorem digit_c (w : World) (c : UInt8) : Calls Tryz.prog 104 #[.int .u8 (c.toNat : Int)] w fun e w' => e = .returned (.bool (digitB c)) ∧ Only [] w w' := by
  refine ret (scan_digit_wp _ (fun v w' => v = .bool (digitB c) ∧ Only [] w w') w ?_)
  unfold scan_digit_vc
  refine ⟨?_, Only.refl _ _⟩
  congr 1
  rw [Bool.eq_iff_iff]
  simp only [digitB, Bool.and_eq_true, decide_eq_true_eq]
  omega
theorem cdigit_c (w : World) (c : UInt8) : Calls Tryz.prog 137 #[.int .u8 (c.toNat : Int)] w fun e w' => e = .returned (.bool (digitB c)) ∧ Only [] w w' := by
  refine ret (calc_digit_wp _ (fun v w' => v = .bool (digitB c) ∧ Only [] w w') w ?_)
  unfold calc_digit_vc
  refine ⟨?_, Only.refl _ _⟩
  have h : ∀ n : Fin 256, decide ((IntKind.wrap .u8 ((n.val : Int) - 48)) < 10) = (decide (48 ≤ n.val) && decide (n.val ≤ 57)) := by decide +kernel
  rw [h ⟨c.toNat, c.toNat_lt⟩]
  rfl

/-! ## among some -/
theorem indexB_c {w : World} {F : Nat → Prop} {s : Sl} {l : List UInt8} (h : SliceF rByte 1 w F s l) (c : UInt8) :
    Calls Tryz.prog 134 #[Sl.v s, .int .u8 (c.toNat : Int)] w fun e w' => ∃ i : Int, e = .returned (.int .i64 i) ∧ decide (i ≥ 0) = l.contains c ∧ Only [] w w' := by
  refine (slices_Index_byte_wp s _ (fun v w' => ∃ i : Int, v = .int .i64 i ∧ decide (i ≥ 0) = l.contains c ∧ Only [] w w') w ?_).mono (by
    rintro e w' ⟨v, rfl, i, rfl, h⟩; exact ⟨i, rfl, h⟩)
  unfold slices_Index_byte_vc
  have hlen := h.len
  have hbig := h.big
  have hcap := h.cap
  refine ⟨fun nv i w' => ∃ n : Nat, n ≤ l.length ∧ i = (n : Int) ∧ nv = l.length - n ∧ (∀ x, x ∈ l.take n → x ≠ c) ∧ w' = w, l.length, ⟨0, Nat.zero_le _, rfl, rfl, by simp, rfl⟩, ?_⟩
  rintro nv _ _ ⟨n, hn, rfl, rfl, hp, rfl⟩
  refine ⟨fun hc => ?_, fun hc => ?_⟩
  · have hlt : (n : Int) < s.n := of_decide_eq_true hc
    obtain ⟨ad, x, cs, g1, g2, g3, g4, g5, g6⟩ := h.get (Int.natCast_nonneg n) hlt
    rw [Int.toNat_natCast] at g2
    unfold rByte byteV at g6
    subst g6
    refine ⟨ad, g1, _, g5, fun he => ⟨_, rfl, ?_, Only.refl _ _⟩, fun he => ⟨l.length - (n + 1), by omega, n + 1, by omega, by rw [wr' (by omega) (by omega)]; rfl, rfl, ?_, rfl⟩⟩
    · have he : c = x := UInt8.toNat_inj.1 (by have := of_decide_eq_true he; omega)
      rw [decide_eq_true (by omega)]
      symm
      rw [List.contains_iff_mem, he]
      exact List.mem_of_getElem? g2
    · intro y hy
      rw [List.take_add_one, g2] at hy
      simp only [Option.toList_some, List.mem_append, List.mem_singleton] at hy
      rcases hy with hy | rfl
      · exact hp y hy
      · rintro rfl
        simp at he
  · have hge : ¬ ((n : Int) < s.n) := of_decide_eq_false hc
    rw [List.take_of_length_le (by omega)] at hp
    refine ⟨_, rfl, ?_, Only.refl _ _⟩
    rw [decide_eq_false (by omega)]
    symm
    rw [Bool.eq_false_iff]
    intro hh
    exact hp c (List.contains_iff_mem.1 hh) rfl
theorem containsB_c {w : World} {F : Nat → Prop} {s : Sl} {l : List UInt8} (h : SliceF rByte 1 w F s l) (c : UInt8) :
    Calls Tryz.prog 115 #[Sl.v s, .int .u8 (c.toNat : Int)] w fun e w' => e = .returned (.bool (l.contains c)) ∧ Only [] w w' := by
  refine ret (slices_Contains_byte_wp s _ (fun v w' => v = .bool (l.contains c) ∧ Only [] w w') w ?_)
  unfold slices_Contains_byte_vc
  refine (indexB_c h c).mono ?_
  rintro _ w1 ⟨i, rfl, hi, hO⟩
  exact ⟨i, rfl, by rw [hi], hO⟩
theorem one_c {w : World} {F : Nat → Prop} {s : Sl} {l : List UInt8} (h : SliceF rByte 1 w F s l) (c : UInt8) :
    Calls Tryz.prog 98 #[.int .u8 (c.toNat : Int), Sl.v s] w fun e w' => e = .returned (.bool (l.contains c)) ∧ Only [] w w' := by
  refine ret (scan_one_wp _ s (fun v w' => v = .bool (l.contains c) ∧ Only [] w w') w ?_)
  unfold scan_one_vc
  refine (containsB_c h c).mono ?_
  rintro _ w1 ⟨rfl, hO⟩
  exact ⟨_, rfl, rfl, hO⟩
/-- a text -/
def rTx : Rp (List UInt8) := fun _ _ l cs => cs = [.string (T l)]
theorem rTx_ok : rTx.Ok where
  keep h _ := h
  inHeap h := h
  mono h _ := h
  one := by
    rintro w F x cs h v hv
    unfold rTx at h
    subst h
    simp only [List.mem_singleton] at hv
    subst hv; rfl
theorem indexS_c {w : World} {F : Nat → Prop} {s : Sl} {l : List (List UInt8)} (h : SliceF rTx 1 w F s l) (c : List UInt8) :
    Calls Tryz.prog 94 #[Sl.v s, .string (T c)] w fun e w' => ∃ i : Int, e = .returned (.int .i64 i) ∧ decide (i ≥ 0) = l.contains c ∧ Only [] w w' := by
  refine (slices_Index_string_wp s _ (fun v w' => ∃ i : Int, v = .int .i64 i ∧ decide (i ≥ 0) = l.contains c ∧ Only [] w w') w ?_).mono (by
    rintro e w' ⟨v, rfl, i, rfl, h⟩; exact ⟨i, rfl, h⟩)
  unfold slices_Index_string_vc
  have hlen := h.len
  have hbig := h.big
  have hcap := h.cap
  refine ⟨fun nv i w' => ∃ n : Nat, n ≤ l.length ∧ i = (n : Int) ∧ nv = l.length - n ∧ (∀ x, x ∈ l.take n → x ≠ c) ∧ w' = w, l.length, ⟨0, Nat.zero_le _, rfl, rfl, by simp, rfl⟩, ?_⟩
  rintro nv _ _ ⟨n, hn, rfl, rfl, hp, rfl⟩
  refine ⟨fun hc => ?_, fun hc => ?_⟩
  · have hlt : (n : Int) < s.n := of_decide_eq_true hc
    obtain ⟨ad, x, cs, g1, g2, g3, g4, g5, g6⟩ := h.get (Int.natCast_nonneg n) hlt
    rw [Int.toNat_natCast] at g2
    unfold rTx at g6
    subst g6
    refine ⟨ad, g1, _, g5, ?_⟩
    rw [T_eq]
    refine ⟨fun he => ⟨_, rfl, ?_, Only.refl _ _⟩, fun he => ⟨l.length - (n + 1), by omega, n + 1, by omega, by rw [wr' (by omega) (by omega)]; rfl, rfl, ?_, rfl⟩⟩
    · have he : c = x := of_decide_eq_true he
      rw [decide_eq_true (by omega)]
      symm
      rw [List.contains_iff_mem, he]
      exact List.mem_of_getElem? g2
    · intro y hy
      rw [List.take_add_one, g2] at hy
      simp only [Option.toList_some, List.mem_append, List.mem_singleton] at hy
      rcases hy with hy | rfl
      · exact hp y hy
      · rintro rfl
        simp at he
  · have hge : ¬ ((n : Int) < s.n) := of_decide_eq_false hc
    rw [List.take_of_length_le (by omega)] at hp
    refine ⟨_, rfl, ?_, Only.refl _ _⟩
    rw [decide_eq_false (by omega)]
    symm
    rw [Bool.eq_false_iff]
    intro hh
    exact hp c (List.contains_iff_mem.1 hh) rfl
theorem containsS_c {w : World} {F : Nat → Prop} {s : Sl} {l : List (List UInt8)} (h : SliceF rTx 1 w F s l) (c : List UInt8) :
    Calls Tryz.prog 49 #[Sl.v s, .string (T c)] w fun e w' => e = .returned (.bool (l.contains c)) ∧ Only [] w w' := by
  refine ret (slices_Contains_string_wp s _ (fun v w' => v = .bool (l.contains c) ∧ Only [] w w') w ?_)
  unfold slices_Contains_string_vc
  refine (indexS_c h c).mono ?_
  rintro _ w1 ⟨i, rfl, hi, hO⟩
  exact ⟨i, rfl, by rw [hi], hO⟩

/-! ## a cursor: block b holds the source and the place -/
abbrev Cur (w : World) (b : Nat) (t : TypeId) (l : List UInt8) (i : Nat) (r : List Value) : Prop := Blk w b t (.string (T l) :: .int .i64 (i : Int) :: r)
theorem end_c {w : World} {b : Nat} {t : TypeId} {l : List UInt8} {i : Nat} {r : List Value} (h : Cur w b t l i r) :
    Calls Tryz.prog 58 #[.pointer (some ⟨b, 0, none⟩)] w fun e w' => e = .returned (.bool (decide (l.length ≤ i))) ∧ Only [] w w' := by
  refine ret (scan_cursor_end_wp ⟨b, 0, none⟩ (fun v w' => v = .bool (decide (l.length ≤ i)) ∧ Only [] w w') w ?_)
  unfold scan_cursor_end_vc
  refine ⟨i, Blk.at1 h 1 rfl, T l, Blk.at1 h 0 rfl, fun w0 hO => ⟨?_, hO⟩⟩
  rw [T_size]
  congr 1
  rw [decide_eq_decide]
  omega
theorem rest_c {w : World} {b : Nat} {t : TypeId} {l : List UInt8} {i : Nat} {r : List Value} (h : Cur w b t l i r) (hi : i ≤ l.length) :
    Calls Tryz.prog 100 #[.pointer (some ⟨b, 0, none⟩)] w fun e w' => e = .returned (.string (T (l.drop i))) ∧ Only [] w w' := by
  refine ret (scan_cursor_rest_wp ⟨b, 0, none⟩ (fun v w' => v = .string (T (l.drop i)) ∧ Only [] w w') w ?_)
  unfold scan_cursor_rest_vc
  refine ⟨T l, Blk.at1 h 0 rfl, i, Blk.at1 h 1 rfl, i, ⟨rfl, by rw [T_size]; exact hi⟩, fun w0 hO => ⟨?_, hO⟩⟩
  rw [T_ext, T_size, List.take_of_length_le (by rw [List.length_drop]; exact Nat.le_refl _)]
theorem take_while {p : UInt8 → Bool} : ∀ {l : List UInt8} {n : Nat}, n ≤ l.length → (∀ x, x ∈ l.take n → p x = true) → (∀ x, l[n]? = some x → p x = false) → l.takeWhile p = l.take n
  | [], n, _, _, _ => by simp
  | c :: r, 0, _, _, h => by
    have := h c rfl
    simp [this]
  | c :: r, n + 1, hn, h1, h2 => by
    have hc := h1 c (by simp)
    rw [List.takeWhile_cons, if_pos hc, List.take_succ_cons, take_while (n := n) (by simpa using hn) (fun x hx => h1 x (by simp [hx])) (fun x hx => h2 x (by simpa using hx))]
theorem row_c {w : World} {b : Nat} {t : TypeId} {l : List UInt8} {i : Nat} {r : List Value} (h : Cur w b t l i r) (hi : i ≤ l.length) (hl : l.length < 9223372036854775807) :
    Calls Tryz.prog 118 #[.pointer (some ⟨b, 0, none⟩)] w fun e w' => e = .returned (.string (T ((l.drop i).takeWhile wordB))) ∧ Only [] w w' := by
  refine ret (scan_cursor_row_wp ⟨b, 0, none⟩ (fun v w' => v = .string (T ((l.drop i).takeWhile wordB)) ∧ Only [] w w') w ?_)
  unfold scan_cursor_row_vc
  refine (rest_c h hi).mono ?_
  rintro _ w0 ⟨rfl, hO0⟩
  have hlr : (l.drop i).length ≤ l.length := by rw [List.length_drop]; omega
  generalize l.drop i = m at *
  refine ⟨T m, rfl, fun nv j w' => ∃ n : Nat, n ≤ m.length ∧ j = (n : Int) ∧ nv = m.length - n ∧ (∀ x, x ∈ m.take n → wordB x = true) ∧ Only [] w w', m.length, ⟨0, Nat.zero_le _, rfl, rfl, by simp, hO0⟩, ?_⟩
  rintro nv _ w1 ⟨n, hn, rfl, rfl, hp, hO1⟩
  rw [T_size]
  refine ⟨fun b w' => (b = true → ∃ x, m[n]? = some x ∧ wordB x = true) ∧ (b = false → ∀ x, m[n]? = some x → wordB x = false) ∧ Only [] w w', ?_, fun hc => ?_, fun hc => ⟨fun e => (by cases e), fun _ x hx => ?_, hO1⟩⟩
  · rintro b w2 ⟨h1, h2, hO2⟩
    refine ⟨fun hb => ?_, fun hb => ⟨n, ⟨rfl, hn⟩, ?_, hO2⟩⟩
    · obtain ⟨x, hx, hw⟩ := h1 hb
      have hlt := (List.getElem?_eq_some_iff.1 hx).1
      refine ⟨m.length - (n + 1), by omega, n + 1, by omega, by rw [wr' (by omega) (by omega)]; rfl, rfl, fun y hy => ?_, hO2⟩
      rw [List.take_add_one, hx] at hy
      simp only [Option.toList_some, List.mem_append, List.mem_singleton] at hy
      rcases hy with hy | rfl
      · exact hp y hy
      · exact hw
    · rw [T_ext, List.drop_zero, Nat.sub_zero, take_while hn hp (h2 hb)]
  · have hlt : (n : Int) < m.length := of_decide_eq_true hc
    have hx : m[n]? = some (m[n]'(by omega)) := List.getElem?_eq_getElem (by omega)
    generalize m[n]'(by omega) = x at hx
    have hg : (T m)[Int.toNat (n : Int)]? = some x := by rw [T_get, Int.toNat_natCast, hx]
    refine ⟨x, ⟨Int.natCast_nonneg n, hg⟩, (letter_c w1 x).mono ?_⟩
    rintro _ w3 ⟨rfl, hO3⟩
    refine ⟨_, rfl, fun hb => ⟨fun _ => ⟨x, hx, by unfold wordB; rw [hb]; rfl⟩, fun e => (by cases e), hO1.tr0 hO3⟩, fun hb => ⟨x, ⟨Int.natCast_nonneg n, hg⟩, (digit_c w3 x).mono ?_⟩⟩
    rintro _ w4 ⟨rfl, hO4⟩
    refine ⟨_, rfl, fun hd => ⟨x, hx, by unfold wordB; rw [hd, Bool.or_true]⟩, fun hd y hy => ?_, hO1.tr0 (hO3.tr0 hO4)⟩
    rw [hx] at hy
    injection hy with hy
    subst hy
    unfold wordB
    rw [hb, hd]; rfl
  · have hge : ¬ (n : Int) < m.length := of_decide_eq_false hc
    have := (List.getElem?_eq_some_iff.1 hx).1
    omega

/-! ## pieces -/
theorem hasPrefix_c (w : World) (l p : List UInt8) (hl : l.length < 9223372036854775807) (hp : p.length < 9223372036854775807) : Calls Tryz.prog 99 #[.string (T l), .string (T p)] w fun e w' => e = .returned (.bool (decide (l.take p.length = p))) ∧ Only [] w w' := by
  refine ret (strings_HasPrefix_wp _ _ (fun v w' => v = .bool (decide (l.take p.length = p)) ∧ Only [] w w') w ?_)
  unfold strings_HasPrefix_vc
  refine (ret (internal_stringslite_HasPrefix_wp (T l) (T p) (fun v w' => v = .bool (decide (l.take p.length = p)) ∧ Only [] w w') w ?_)).mono ?_
  · unfold internal_stringslite_HasPrefix_vc
    rw [T_size, T_size]
    refine ⟨p.length, fun h => ⟨rfl, by have := of_decide_eq_true h; omega⟩, ?_, Only.refl _ _⟩
    rw [T_ext, T_eq, List.drop_zero, Nat.sub_zero]
    congr 1
    rw [Bool.eq_iff_iff]
    simp only [Bool.and_eq_true, decide_eq_true_eq]
    constructor
    · exact fun h => h.2
    · intro h
      refine ⟨?_, h⟩
      have := congrArg List.length h
      rw [List.length_take] at this
      omega
  · rintro _ w1 ⟨rfl, hO⟩
    exact ⟨_, rfl, rfl, hO⟩
theorem indexByte_while : ∀ (l : List UInt8) (c : UInt8), Lib.indexByte l c = if c ∈ l then ((l.takeWhile (· != c)).length : Int) else -1
  | [], c => by simp [Lib.indexByte]
  | b :: l, c => by
    rw [Lib.indexByte, indexByte_while l c]
    by_cases hbc : b = c
    · subst hbc; simp
    · by_cases hm : c ∈ l
      · have h1 : (b == c) = false := by simpa using hbc
        have h2 : (b != c) = true := by simpa using hbc
        have h3 : c ∈ b :: l := by simp [hm]
        rw [h1, if_pos hm, if_pos h3, List.takeWhile_cons, if_pos h2]
        simp
      · have h1 : (b == c) = false := by simpa using hbc
        have h3 : ¬ c ∈ b :: l := by simp [hm]; exact fun e => hbc e.symm
        rw [h1, if_neg hm, if_neg h3]
        simp
theorem while_none {c : UInt8} : ∀ {l : List UInt8}, ¬ c ∈ l → l.takeWhile (· != c) = l
  | [], _ => rfl
  | b :: l, h => by
    simp only [List.mem_cons, not_or] at h
    rw [List.takeWhile_cons, if_pos (by simpa using fun e => h.1 e.symm), while_none h.2]
theorem while_take {p : UInt8 → Bool} : ∀ {l : List UInt8}, l.takeWhile p = l.take (l.takeWhile p).length
  | [] => rfl
  | b :: l => by
    rw [List.takeWhile_cons]
    split
    · rw [List.length_cons, List.take_succ_cons, ← while_take]
    · rfl
/-- the line -/
theorem cut_c (w : World) (l : List UInt8) (c : UInt8) (hl : l.length < 9223372036854775807) : Calls Tryz.prog 101 #[.string (T l), .string (T [c])] w fun e w' => ∃ (s : ByteArray) (b : Bool), e = .returned (.tuple #[.string (T (l.takeWhile (· != c))), .string s, .bool b]) ∧ Only [] w w' := by
  refine (strings_Cut_wp _ _ (fun v w' => ∃ (s : ByteArray) (b : Bool), v = (.tuple #[.string (T (l.takeWhile (· != c))), .string s, .bool b]) ∧ Only [] w w') w ?_).mono (by
    rintro e w' ⟨v, rfl, s, b, rfl, h⟩; exact ⟨s, b, rfl, h⟩)
  unfold strings_Cut_vc
  refine (internal_stringslite_Cut_wp (T l) (T [c]) (fun v w' => ∃ (s : ByteArray) (b : Bool), v = (.tuple #[.string (T (l.takeWhile (· != c))), .string s, .bool b]) ∧ Only [] w w') w ?_).mono ?_
  · unfold internal_stringslite_Cut_vc
    refine (Tryz.stringslite_Index_one (T l) c w).mono ?_
    rintro _ _ ⟨rfl, rfl⟩
    have e : (T l).data.toList = l := rfl
    rw [e, indexByte_while]
    refine ⟨_, rfl, fun h => ?_, fun h => ?_⟩
    · by_cases hm : c ∈ l
      · rw [if_pos hm]
        have hlt : (l.takeWhile (· != c)).length < l.length := by
          have h1 := List.takeWhile_append_dropWhile (p := (· != c)) (l := l)
          have h2 := congrArg List.length h1
          rw [List.length_append] at h2
          have h3 : l.dropWhile (· != c) ≠ [] := by
            intro h3
            rw [h3, List.append_nil] at h1
            rw [← h1] at hm
            have := List.all_takeWhile (p := (· != c)) (l := l)
            rw [List.all_eq_true] at this
            have := this c (by rw [h1] at hm ⊢; exact hm)
            simp at this
          have h4 := List.length_pos_iff.2 h3
          omega
        have hk : (T l).extract 0 (l.takeWhile (· != c)).length = T (l.takeWhile (· != c)) := by
          rw [T_ext, List.drop_zero, Nat.sub_zero, ← while_take]
        refine ⟨(l.takeWhile (· != c)).length, ⟨rfl, by rw [T_size]; omega⟩, (l.takeWhile (· != c)).length + 1, ⟨by rw [T_size, wr' (by simp; omega) (by simp; omega)]; rfl, by rw [T_size]; omega⟩, fun w1 hO => ⟨(T l).extract ((l.takeWhile (· != c)).length + 1) (T l).size, true, ?_, hO⟩⟩
        rw [hk]
      · rw [if_neg hm] at h
        exact absurd (of_decide_eq_true h) (by omega)
    · by_cases hm : c ∈ l
      · rw [if_pos hm] at h
        exact absurd (of_decide_eq_false h) (by omega)
      · rw [while_none hm]
        exact ⟨_, _, rfl, Only.refl _ _⟩
  · rintro _ w1 ⟨v, rfl, s, b, rfl, hO⟩
    exact ⟨_, s, b, rfl, s, b, rfl, hO⟩
end Go.Proofs.YtmanockofcopjaaGreatDoor.Con
