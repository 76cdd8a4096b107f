
/-
  Own work: what the functions of the scan package do: blanks, numbers, signs.
-/
import Derived.Test.YtmanockofcopjaaGreatDoorCon
import Derived.Lib.AtoiErrMem
namespace Go.Proofs.YtmanockofcopjaaGreatDoor.Con
open Go Go.RowKit Go.Kt Go.Kt.V Go.Proofs.YtmanockofcopjaaGreatDoor.Vc
set_option linter.unusedSimpArgs false
set_option linter.unusedVariables false
set_option maxHeartbeats 4000000

/-- a literal of bytes -/
theorem buildB (w : World) (l : List UInt8) {n : Nat} {parts : Array (Nat × Value)} (hp : parts = (((l.map byteV).zipIdx 0).map fun x => (x.2, x.1)).toArray) (hn : l.length = n) (h0 : 0 < n) (hsm : n * 1 ≤ 16777216) :
    ∃ s w', (Instr.buildSlice 161 n parts).run Tryz.prog w = .ok (Sl.v s) w' ∧ Own rByte 1 5 w.heap.size w' (fun _ => True) s l ∧ Only [] w w' ∧ s.a = some ⟨w.heap.size, 0, none⟩ := by
  obtain ⟨s, w', h1, h2, h3, h4, _⟩ := build_own (P := Tryz.prog) (t := 161) (e := 5) (i := Tryz.t5) (w := w) (F := fun _ => True) (r := rByte) (size := 1) (vs := l.map byteV) (xs := l) (len := n) (by kernel_rfl) (by kernel_rfl) rfl rfl (by decide) hp (by rw [List.length_map]; exact hn) h0 hsm rByte_ok (by
    clear hp hn
    induction l with
    | nil => exact trivial
    | cons a l ih => exact ⟨⟨rfl, rfl⟩, ih⟩)
  exact ⟨s, w', h1, h2, h3, h4⟩
theorem all2_tx (l : List (List UInt8)) (w : World) : Els rTx 1 w (fun _ => True) l ((l.map fun x => Value.string (T x)).map fun v => v.cells.toList) := by
  induction l with
  | nil => exact trivial
  | cons a l ih => exact ⟨⟨rfl, rfl⟩, ih⟩
/-- a literal of texts -/
theorem buildS (w : World) (l : List (List UInt8)) {n : Nat} {parts : Array (Nat × Value)} (hp : parts = (((l.map fun x => Value.string (T x)).zipIdx 0).map fun x => (x.2, x.1)).toArray) (hn : l.length = n) (h0 : 0 < n) (hsm : n * 1 ≤ 16777216) :
    ∃ s w', (Instr.buildSlice 25 n parts).run Tryz.prog w = .ok (Sl.v s) w' ∧ Own rTx 1 9 w.heap.size w' (fun _ => True) s l ∧ Only [] w w' := by
  obtain ⟨s, w', h1, h2, h3, _⟩ := build_own (P := Tryz.prog) (t := 25) (e := 9) (i := Tryz.t9) (w := w) (F := fun _ => True) (r := rTx) (size := 1) (vs := l.map fun x => Value.string (T x)) (xs := l) (len := n) (by kernel_rfl) (by kernel_rfl) rfl rfl (by decide) hp (by rw [List.length_map]; exact hn) h0 hsm rTx_ok (all2_tx l w)
  exact ⟨s, w', h1, h2, h3⟩
theorem flatO {α : Type} {r : Rp α} {size : Nat} {e : TypeId} {B : Nat} {w : World} {F : Nat → Prop} {s : Sl} {xs : List α} (hr : r.Ok) (hf : ∀ w F G x cs, r w F x cs → r w G x cs) (h : Own r size e B w F s xs) : SliceF r size w (fun k => B ≤ k ∧ s.a = some ⟨k, 0, none⟩) s xs := by
  rcases h with ⟨rfl, rfl⟩ | ⟨g, css, tail, a1, a2, a4, a5, a6, a7, a9, a8⟩
  · exact SliceF.nil _ _ _ _
  · have h' : Own r size e B w (fun _ => False) s xs := .inr ⟨g, css, tail, a1, a2, a4, a5, a6, a7, a9, All2.imp (fun _ _ h => ⟨h.1, hf _ _ _ _ _ h.2⟩) a8⟩
    exact (h'.slice hr).mono hr fun k hk => hk.elim False.elim id
theorem flatB {e : TypeId} {B : Nat} {w : World} {F : Nat → Prop} {s : Sl} {xs : List UInt8} (h : Own rByte 1 e B w F s xs) : SliceF rByte 1 w (fun k => B ≤ k ∧ s.a = some ⟨k, 0, none⟩) s xs := flatO rByte_ok (fun _ _ _ _ _ h => h) h
theorem flatS {e : TypeId} {B : Nat} {w : World} {F : Nat → Prop} {s : Sl} {xs : List (List UInt8)} (h : Own rTx 1 e B w F s xs) : SliceF rTx 1 w (fun k => B ≤ k ∧ s.a = some ⟨k, 0, none⟩) s xs := flatO rTx_ok (fun _ _ _ _ _ h => h) h

/-! ## blanks -/
def skN : Bool → List UInt8 → Nat
  | _, [] => 0
  | true, c :: r => 1 + skN (c != 10) r
  | false, c :: r => if blankB c then 1 + skN false r else if c == 47 && r.head? == some 47 then 1 + skN true r else 0
theorem skN_le : ∀ {b : Bool} {l : List UInt8}, skN b l ≤ l.length
  | b, [] => by simp [skN]
  | true, c :: r => by
    rw [skN, List.length_cons]
    have := skN_le (b := c != 10) (l := r)
    omega
  | false, c :: r => by
    rw [skN, List.length_cons]
    have h1 := skN_le (b := false) (l := r)
    have h2 := skN_le (b := true) (l := r)
    split
    · omega
    · split <;> omega
theorem skN_note : ∀ (l : List UInt8), skN true l = (l.takeWhile (· != 10)).length + skN false (l.drop (l.takeWhile (· != 10)).length)
  | [] => rfl
  | c :: r => by
    by_cases hc : c = 10
    · subst hc
      rw [skN]
      simp [skN, blankB]
    · have h : (c != 10) = true := by simpa using hc
      rw [skN, h, skN_note r, List.takeWhile_cons, if_pos h, List.length_cons, List.drop_succ_cons]
      omega
theorem skN_slash {l : List UInt8} (h : l.take 2 = [47, 47]) : skN false l = (l.takeWhile (· != 10)).length + skN false (l.drop (l.takeWhile (· != 10)).length) := by
  match l, h with
  | a :: b :: r, h =>
    simp only [List.take_succ_cons, List.take_zero, List.cons.injEq, and_true] at h
    obtain ⟨rfl, rfl⟩ := h
    have e : skN false (47 :: 47 :: r) = 1 + skN true (47 :: r) := by
      conv => lhs; rw [skN]
      rw [if_neg (by decide), if_pos (by simp)]
    have e2 := skN_note (47 :: r)
    have e3 : (47 :: 47 :: r : List UInt8).takeWhile (· != 10) = 47 :: (47 :: r : List UInt8).takeWhile (· != 10) := by
      rw [List.takeWhile_cons, if_pos (by decide)]
    rw [e, e2, e3, List.length_cons, List.drop_succ_cons]
    omega
theorem drop_cons {l : List UInt8} {j : Nat} {x : UInt8} (h : l[j]? = some x) : l.drop j = x :: l.drop (j + 1) := by
  obtain ⟨h1, h2⟩ := List.getElem?_eq_some_iff.1 h
  rw [List.drop_eq_getElem_cons h1, h2]
theorem skip_c {w : World} {b : Nat} {t : TypeId} {l : List UInt8} {i : Nat} {r : List Value} (h : Cur w b t l i r) (hi : i ≤ l.length) (hl : l.length < 9223372036854775807) :
    Calls Tryz.prog 57 #[.pointer (some ⟨b, 0, none⟩)] w fun e w' => e = .returned (.tuple #[]) ∧ Only [b] w w' ∧ Cur w' b t l (i + skN false (l.drop i)) r := by
  refine ret (scan_cursor_skip_wp ⟨b, 0, none⟩ (fun v w' => v = .tuple #[] ∧ Only [b] w w' ∧ Cur w' b t l (i + skN false (l.drop i)) r) w ?_)
  unfold scan_cursor_skip_vc
  refine ⟨fun nv w' => ∃ j : Nat, j ≤ l.length ∧ nv = l.length - j ∧ i + skN false (l.drop i) = j + skN false (l.drop j) ∧ Only [b] w w' ∧ Cur w' b t l j r, l.length - i, ⟨i, hi, rfl, rfl, Only.refl _ _, h⟩, ?_⟩
  rintro nv w0 ⟨j, hj, rfl, hjs, hO0, h0⟩
  have kp : ∀ {u u' : World} {n : Nat}, Only [] u u' → Cur u b t l n r → Cur u' b t l n r := fun hO hC => (hO.block b hC.lt (by simp)).trans hC
  refine (end_c h0).mono ?_
  rintro _ w1 ⟨rfl, hO1⟩
  have h1 := kp hO1 h0
  refine ⟨_, rfl, fun hc => ?_, fun hc => ⟨rfl, hO0.trans hO1 (by simp), ?_⟩⟩
  · have hlt : j < l.length := by simpa using hc
    have hx : l[j]? = some l[j] := List.getElem?_eq_getElem hlt
    generalize l[j] = x at hx
    have hd := drop_cons hx
    refine ⟨T l, Blk.at1 h1 0 rfl, j, Blk.at1 h1 1 rfl, x, ⟨Int.natCast_nonneg j, by rw [T_get, Int.toNat_natCast, hx]⟩, fun w2 hO2 => ?_⟩
    obtain ⟨s, w3, k1, k2, k3, _⟩ := buildB w2 [9, 10, 13, 32] (n := 4) (parts := #[(0, .int .u8 9), (1, .int .u8 10), (2, .int .u8 13), (3, .int .u8 32)]) rfl rfl (by decide) (by decide)
    refine ⟨s, w3, k1, (one_c (flatB k2) x).mono ?_⟩
    rintro _ w4 ⟨rfl, hO4⟩
    have hO14 := hO2.tr0 (k3.tr0 hO4)
    have h4 := kp hO14 h1
    have hO04 : Only [b] w w4 := hO0.trans (hO1.tr0 hO14) (by simp)
    refine ⟨_, rfl, fun hb => ⟨j, Blk.at1 h4 1 rfl, b, 1, _, t, by rw [addr_lit], h4, by simp, fun w5 hO5 hB5 => ⟨l.length - (j + 1), by omega, j + 1, by omega, rfl, ?_, hO04.trans hO5 (by simp), ?_⟩⟩, fun hb => (rest_c h4 hj).mono ?_⟩
    · have e : blankB x = true := hb
      rw [hjs, hd, skN, if_pos e]
      omega
    · rw [wr' (by omega) (by omega)] at hB5
      exact hB5
    rintro _ w6 ⟨rfl, hO6⟩
    have h6 := kp hO6 h4
    have hlr : (l.drop j).length ≤ l.length := by rw [List.length_drop]; omega
    refine ⟨_, rfl, (hasPrefix_c w6 (l.drop j) [47, 47] (by omega) (by decide)).mono ?_⟩
    rintro _ w7 ⟨rfl, hO7⟩
    have h7 := kp hO7 h6
    refine ⟨_, rfl, fun hs => (rest_c h7 hj).mono ?_, fun hs => ⟨rfl, hO04.trans (hO6.tr0 hO7) (by simp), ?_⟩⟩
    · rintro _ w8 ⟨rfl, hO8⟩
      have h8 := kp hO8 h7
      refine ⟨_, rfl, (cut_c w8 (l.drop j) 10 (by omega)).mono ?_⟩
      rintro _ w9 ⟨s9, b9, rfl, hO9⟩
      have h9 := kp hO9 h8
      have hs' : (l.drop j).take 2 = [47, 47] := of_decide_eq_true hs
      have hk := skN_slash hs'
      have hlen : ((l.drop j).takeWhile (· != 10)).length ≤ (l.drop j).length := by
        rw [while_take, List.length_take]
        exact Nat.min_le_right _ _
      have hpos : 0 < ((l.drop j).takeWhile (· != 10)).length := by
        match hq : l.drop j, hs' with
        | a :: r', hs' =>
          have : a = 47 := by
            match r', hs' with
            | b' :: r'', hs' => simp at hs'; exact hs'.1
          subst this
          simp
      have hld : (l.drop j).length = l.length - j := List.length_drop
      generalize hn : ((l.drop j).takeWhile (· != 10)).length = n at *
      refine ⟨_, s9, b9, rfl, j, Blk.at1 h9 1 rfl, b, 1, _, t, by rw [addr_lit], h9, by simp, fun w10 hO10 hB10 => ⟨l.length - (j + n), by omega, j + n, by omega, rfl, ?_, (hO04.trans (hO6.tr0 (hO7.tr0 (hO8.tr0 hO9))) (by simp)).trans hO10 (by simp), ?_⟩⟩
      · rw [hjs, hk, List.drop_drop]
        omega
      · rw [T_size, hn, wr' (by omega) (by omega)] at hB10
        exact hB10
    · have hs : ¬ (l.drop j).take 2 = [47, 47] := of_decide_eq_false hs
      have hb : blankB x = false := hb
      have hz : skN false (l.drop j) = 0 := by
        rw [hd, skN, if_neg (by simp [hb]), if_neg]
        intro hh
        apply hs
        rw [hd]
        simp only [Bool.and_eq_true, beq_iff_eq] at hh
        obtain ⟨rfl, hh⟩ := hh
        cases hr : l.drop (j + 1) with
        | nil => rw [hr] at hh; simp at hh
        | cons y z =>
          rw [hr] at hh
          simp only [List.head?_cons, Option.some.injEq] at hh
          rw [hh]; rfl
      rw [hjs, hz]
      exact h7
  · have hge : l.length ≤ j := by simpa using hc
    have hz : l.drop j = [] := List.drop_of_length_le hge
    rw [hjs, hz]
    exact h1

/-! ## numbers -/
/-- the variable that holds the error of the range -/
def Er (w : World) : Prop := ∃ tp p, w.var? Tryz.prog "strconv.ErrRange" = some #[.iface tp p]
theorem er_num : Tryz.prog.globalNamed "strconv.ErrRange" = some 2 := by kernel_rfl
theorem Er.keep {w w' : World} (h : Er w) (hk : 2 < w.heap.size → w'.heap[2]? = w.heap[2]?) : Er w' := by
  obtain ⟨tp, p, h⟩ := h
  refine ⟨tp, p, ?_⟩
  unfold World.var? at h ⊢
  rw [er_num] at h ⊢
  simp only [Option.bind_some] at h ⊢
  rw [hk]
  · exact h
  · refine Decidable.byContradiction fun hn => ?_
    rw [Array.getElem?_eq_none (by omega)] at h
    cases h
theorem Er.lt {w : World} (h : Er w) : 2 < w.heap.size := by
  obtain ⟨tp, p, h⟩ := h
  unfold World.var? at h
  rw [er_num] at h
  simp only [Option.bind_some] at h
  refine Decidable.byContradiction fun hn => ?_
  rw [Array.getElem?_eq_none (by omega)] at h
  cases h
theorem Er.only {w w' : World} (h : Er w) (hO : Only [] w w') : Er w' := h.keep fun hlt => hO.block _ hlt (by simp)
def decV (a : Nat) (ds : List UInt8) : Nat := ds.foldl (fun a c => a * 10 + (c.toNat - 48)) a
theorem decV_ge : ∀ (ds : List UInt8) (a : Nat), a ≤ decV a ds
  | [], a => Nat.le_refl _
  | c :: r, a => by
    have := decV_ge r (a * 10 + (c.toNat - 48))
    show a ≤ decV (a * 10 + (c.toNat - 48)) r
    omega
theorem pum : ∀ (ds : List UInt8) (a : Nat), (∀ c, c ∈ ds → digitB c = true) → a ≤ 18446744073709551615 →
    Lib.parseUintM 18446744073709551615 a ds = if decV a ds ≤ 18446744073709551615 then .ok (decV a ds) else .range
  | [], a, _, h => by rw [Lib.parseUintM]; exact (if_pos h).symm
  | c :: r, a, hd, h => by
    have hc := hd c (by simp)
    simp only [digitB, Bool.and_eq_true, decide_eq_true_eq] at hc
    have e : decV a (c :: r) = decV (a * 10 + (c.toNat - 48)) r := rfl
    have hge := decV_ge r (a * 10 + (c.toNat - 48))
    rw [Lib.parseUintM, if_pos hc, e]
    split
    · rw [if_neg (by omega)]
    · split
      · rw [if_neg (by omega)]
      · rw [pum r _ (fun x hx => hd x (by simp [hx])) (by omega)]
theorem pib {ds : List UInt8} (hd : ∀ c, c ∈ ds → digitB c = true) (hne : ds ≠ []) : Lib.parseIntB 64 ds = if decV 0 ds < 9223372036854775808 then .ok (decV 0 ds : Int) else .range := by
  match ds, hne with
  | c :: r, _ =>
    have hc := hd c (by simp)
    simp only [digitB, Bool.and_eq_true, decide_eq_true_eq] at hc
    have h1 : ¬ (c.toNat = 43 ∨ c.toNat = 45) := by omega
    have h2 : ¬ c.toNat = 45 := by omega
    have h3 : Lib.parseUintB 64 (c :: r) = Lib.parseUintM 18446744073709551615 0 (c :: r) := by
      rw [Lib.parseUintB, if_neg (by simp)]
    unfold Lib.parseIntB
    dsimp only
    rw [if_neg h1, h3, pum _ _ hd (by decide)]
    by_cases hv : decV 0 (c :: r) ≤ 18446744073709551615
    · rw [if_pos hv]
      by_cases hw : decV 0 (c :: r) < 9223372036854775808
      · rw [if_pos hw]
        simp [h2]; omega
      · rw [if_neg hw]
        simp [h2]; omega
    · rw [if_neg hv, if_neg (by omega)]
/-- what a number's digits are: its value, how many, what is wrong -/
def parseM (l : List UInt8) : Nat × Nat × Int :=
  if l = [] then (0, 0, 3) else if l.takeWhile digitB = [] ∨ (1 < (l.takeWhile digitB).length ∧ l.head? = some 48) then (0, 0, 4)
  else if decV 0 (l.takeWhile digitB) < 9223372036854775808 then (decV 0 (l.takeWhile digitB), (l.takeWhile digitB).length, 0) else (0, 0, 20)
theorem while_all {p : UInt8 → Bool} {l : List UInt8} : ∀ c, c ∈ l.takeWhile p → p c = true := by
  have := List.all_takeWhile (p := p) (l := l)
  rwa [List.all_eq_true] at this
theorem cparse_c {w : World} {l : List UInt8} (hE : Er w) (hl : l.length < 281474976710656) :
    Calls Tryz.prog 120 #[.string (T l)] w fun e w' => e = .returned (.tuple #[.int .i64 (parseM l).1, .int .i64 (parseM l).2.1, .int .i64 (parseM l).2.2]) ∧ Only [] w w' := by
  refine ret (calc_Parse_wp (T l) (fun v w' => v = .tuple #[.int .i64 (parseM l).1, .int .i64 (parseM l).2.1, .int .i64 (parseM l).2.2] ∧ Only [] w w') w ?_)
  unfold calc_Parse_vc
  refine ⟨fun nv j w' => ∃ n : Nat, n ≤ l.length ∧ j = (n : Int) ∧ nv = l.length - n ∧ (∀ x, x ∈ l.take n → digitB x = true) ∧ Only [] w w', l.length, ⟨0, Nat.zero_le _, rfl, rfl, by simp, Only.refl _ _⟩, ?_⟩
  rintro nv _ w0 ⟨n, hn, rfl, rfl, hp, hO0⟩
  rw [T_size]
  refine ⟨fun b w' => (b = true → ∃ x, l[n]? = some x ∧ digitB x = true) ∧ (b = false → ∀ x, l[n]? = some x → digitB x = false) ∧ Only [] w w', ?_, fun hc => ?_, fun hc => ⟨fun e => (by cases e), fun _ x hx => ?_, hO0⟩⟩
  · rintro b w1 ⟨h1, h2, hO1⟩
    refine ⟨fun hb => ?_, fun hb => ?_⟩
    · obtain ⟨x, hx, hw⟩ := h1 hb
      have hlt := (List.getElem?_eq_some_iff.1 hx).1
      refine ⟨l.length - (n + 1), by omega, n + 1, by omega, by rw [wr' (by omega) (by omega)]; rfl, rfl, fun y hy => ?_, hO1⟩
      rw [List.take_add_one, hx] at hy
      simp only [Option.toList_some, List.mem_append, List.mem_singleton] at hy
      rcases hy with hy | rfl
      · exact hp y hy
      · exact hw
    have hds := take_while hn hp (h2 hb)
    have hdl : (l.takeWhile digitB).length = n := by rw [hds, List.length_take]; omega
    have e0 : (ByteArray.mk #[]) = T [] := rfl
    rw [e0, T_eq]
    refine ⟨fun h0 => ⟨?_, hO1⟩, fun h0 => ?_⟩
    · have h0 : l = [] := of_decide_eq_true h0
      rw [parseM, if_pos h0]; rfl
    have h0 : ¬ l = [] := of_decide_eq_false h0
    refine ⟨fun b w' => b = decide (l.takeWhile digitB = [] ∨ (1 < (l.takeWhile digitB).length ∧ l.head? = some 48)) ∧ Only [] w w', ?_, fun hz => ?_, fun hz => ?_⟩
    · rintro b w2 ⟨rfl, hO2⟩
      refine ⟨fun hb => ⟨?_, hO2⟩, fun hb => ⟨n, ⟨rfl, hn⟩, ?_⟩⟩
      · rw [parseM, if_neg h0, if_pos (of_decide_eq_true hb)]; rfl
      have hb := of_decide_eq_false hb
      have hx : (T l).extract 0 n = T (l.takeWhile digitB) := by rw [T_ext, List.drop_zero, Nat.sub_zero, hds]
      rw [hx]
      have hne : l.takeWhile digitB ≠ [] := fun e => hb (.inl e)
      have hpi := pib (while_all (p := digitB) (l := l)) hne
      have hsz : (T (l.takeWhile digitB)).size ≤ 281474976710656 := by rw [T_size]; omega
      by_cases hv : decV 0 (l.takeWhile digitB) < 9223372036854775808
      · rw [if_pos hv] at hpi
        refine (Tryz.strconv_ParseInt_10_at64_ok (T (l.takeWhile digitB)) (Nat.le_trans hsz (by decide)) _ hpi w2).mono ?_
        rintro _ w3 ⟨rfl, hw⟩
        have hO3 : Only [] w2 w3 := by
          rcases hw with rfl | ⟨s, rfl⟩
          · exact Only.refl _ _
          · exact Only.of_below (Lib.bytesWorld_below _ _ _)
        refine ⟨_, ⟨.nilIface, rfl⟩, rfl, .inl rfl, fun e => (by cases e), fun _ => ⟨?_, hO2.tr0 hO3⟩⟩
        rw [parseM, if_neg h0, if_neg hb, if_pos hv, hdl]
      · rw [if_neg hv] at hpi
        obtain ⟨tp, p, hvar⟩ := hE.only hO2
        refine (Tryz.strconv_ParseInt_10_at64_range_var (T (l.takeWhile digitB)) hsz hpi tp p w2 hvar).mono ?_
        rintro _ w3 ⟨N, rfl, _, _, hw⟩
        refine ⟨_, ⟨.iface _ _, rfl⟩, rfl, .inr ⟨_, _, rfl⟩, fun _ => ⟨?_, hO2.tr0 (Only.of_below hw)⟩, fun e => (by cases e)⟩
        rw [parseM, if_neg h0, if_neg hb, if_neg hv]; rfl
    · have hz : n = 0 := by simpa using hz
      subst hz
      refine ⟨?_, hO1⟩
      symm
      rw [decide_eq_true (.inl (List.eq_nil_of_length_eq_zero hdl))]
      rfl
    · have hz : n ≠ 0 := by simpa using hz
      obtain ⟨x, r, rfl⟩ : ∃ x r, l = x :: r := by
        cases l with
        | nil => exact absurd rfl h0
        | cons x r => exact ⟨x, r, rfl⟩
      refine ⟨x, fun _ => ⟨Int.le_refl _, by rw [T_get]; rfl⟩, ?_, hO1⟩
      have hne : (x :: r).takeWhile digitB ≠ [] := fun e => by rw [e] at hdl; exact hz hdl.symm
      rw [hdl, Bool.eq_iff_iff]
      simp only [Bool.and_eq_true, decide_eq_true_eq, beq_iff_eq, List.head?_cons, Option.some.injEq]
      constructor
      · rintro ⟨h1, h2⟩
        exact .inr ⟨by omega, UInt8.toNat_inj.1 (by show x.toNat = 48; omega)⟩
      · rintro (h | ⟨h1, rfl⟩)
        · exact absurd h hne
        · exact ⟨by omega, rfl⟩
  · have hlt : (n : Int) < l.length := of_decide_eq_true hc
    have hx : l[n]? = some (l[n]'(by omega)) := List.getElem?_eq_getElem (by omega)
    generalize l[n]'(by omega) = x at hx
    refine ⟨x, ⟨Int.natCast_nonneg n, by rw [T_get, Int.toNat_natCast, hx]⟩, (cdigit_c w0 x).mono ?_⟩
    rintro _ w3 ⟨rfl, hO3⟩
    refine ⟨_, rfl, fun hb => ⟨x, hx, hb⟩, fun hd y hy => ?_, hO0.tr0 hO3⟩
    rw [hx] at hy
    injection hy with hy
    subst hy
    exact hd
  · have hge : ¬ (n : Int) < l.length := of_decide_eq_false hc
    have := (List.getElem?_eq_some_iff.1 hx).1
    omega
end Go.Proofs.YtmanockofcopjaaGreatDoor.Con
