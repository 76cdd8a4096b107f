import Derived.Test.YtndkfaaeeojeiaaGreatDoorQf3
set_option linter.unusedSectionVars false
namespace Go.Proofs.YtndkfaaeeojeiaaGreatDoor.Con
open Go Go.RowKit Go.Kt Go.Kt.V Go.Proofs.YtndkfaaeeojeiaaGreatDoor.Vc
set_option linter.unusedSimpArgs false
set_option linter.unusedVariables false
set_option maxHeartbeats 4000000
theorem buildB (w : World) (l : List UInt8) {n : Nat} {parts : Array (Nat × Value)} (hp : parts = (((l.map byteV).zipIdx 0).map fun x => (x.2, x.1)).toArray) (hn : l.length = n) (h0 : 0 < n) (hsm : n * 1 <= 16777216) :
  ∃ s w', (Instr.buildSlice 64 n parts).run Tryz.prog w = .ok (Sl.v s) w' /\ Own rByte 1 5 w.heap.size w' (fun _ => True) s l /\ Only [] w w' /\ s.a = some ⟨w.heap.size, 0, none⟩ := by
 obtain ⟨s, w', h1, h2, h3, h4, _⟩ := build_own (P := Tryz.prog) (t := 64) (e := 5) (i := Tryz.t5) (w := w) (F := fun _ => True) (r := rByte) (size := 1) (vs := l.map byteV) (xs := l) (len := n) (by kernel_rfl) (by kernel_rfl) rfl rfl (by decide) hp (by rw [List.length_map]; exact hn) h0 hsm rByte_ok (by
  clear hp hn
  induction l with
  | nil => exact trivial
  | cons a l ih => exact ⟨⟨rfl, rfl⟩, ih⟩)
 exact ⟨s, w', h1, h2, h3, h4⟩
theorem all2_tx (l : List (List UInt8)) (w : World) : Els rTx 1 w (fun _ => True) l ((l.map fun x => Value.string (T x)).map fun v => v.cells.toList) := by
 induction l with
 | nil => exact trivial
 | cons a l ih => exact ⟨⟨rfl, rfl⟩, ih⟩
theorem buildS (w : World) (l : List (List UInt8)) {n : Nat} {parts : Array (Nat × Value)} (hp : parts = (((l.map fun x => Value.string (T x)).zipIdx 0).map fun x => (x.2, x.1)).toArray) (hn : l.length = n) (h0 : 0 < n) (hsm : n * 1 <= 16777216) :
  ∃ s w', (Instr.buildSlice 57 n parts).run Tryz.prog w = .ok (Sl.v s) w' /\ Own rTx 1 9 w.heap.size w' (fun _ => True) s l /\ Only [] w w' := by
 obtain ⟨s, w', h1, h2, h3, _⟩ := build_own (P := Tryz.prog) (t := 57) (e := 9) (i := Tryz.t9) (w := w) (F := fun _ => True) (r := rTx) (size := 1) (vs := l.map fun x => Value.string (T x)) (xs := l) (len := n) (by kernel_rfl) (by kernel_rfl) rfl rfl (by decide) hp (by rw [List.length_map]; exact hn) h0 hsm rTx_ok (all2_tx l w)
 exact ⟨s, w', h1, h2, h3⟩
theorem flatO {α : Type} {r : Rp α} {size : Nat} {e : TypeId} {B : Nat} {w : World} {F : Nat -> Prop} {s : Sl} {xs : List α} (hr : r.Ok) (hf : ∀ w F G x cs, r w F x cs -> r w G x cs) (h : Own r size e B w F s xs) : SliceF r size w (fun k => B <= k /\ s.a = some ⟨k, 0, none⟩) s xs := by
 rcases h with ⟨rfl, rfl⟩ | ⟨g, css, tail, a1, a2, a4, a5, a6, a7, a9, a8⟩
 · exact SliceF.nil _ _ _ _
 · have h' : Own r size e B w (fun _ => False) s xs := .inr ⟨g, css, tail, a1, a2, a4, a5, a6, a7, a9, All2.imp (fun _ _ h => ⟨h.1, hf _ _ _ _ _ h.2⟩) a8⟩
   exact (h'.slice hr).mono hr fun k hk => hk.elim False.elim id
theorem flatB {e : TypeId} {B : Nat} {w : World} {F : Nat -> Prop} {s : Sl} {xs : List UInt8} (h : Own rByte 1 e B w F s xs) : SliceF rByte 1 w (fun k => B <= k /\ s.a = some ⟨k, 0, none⟩) s xs := flatO rByte_ok (fun _ _ _ _ _ h => h) h
theorem flatS {e : TypeId} {B : Nat} {w : World} {F : Nat -> Prop} {s : Sl} {xs : List (List UInt8)} (h : Own rTx 1 e B w F s xs) : SliceF rTx 1 w (fun k => B <= k /\ s.a = some ⟨k, 0, none⟩) s xs := flatO rTx_ok (fun _ _ _ _ _ h => h) h
def skN : Bool -> List UInt8 -> Nat
 | _, [] => 0
 | true, c :: r => 1 + skN (c != 10) r
 | false, c :: r => if blankB c then 1 + skN false r else if c == 47 && r.head? == some 47 then 1 + skN true r else 0
theorem skN_le : ∀ {b : Bool} {l : List UInt8}, skN b l <= l.length
 | b, [] => by simp [skN]
 | true, c :: r => by
  rw [skN, List.length_cons]
  have := skN_le (b := c != 10) (l := r)
  omega
 | false, c :: r => by
  rw [skN, List.length_cons]
  have h1 := skN_le (b := false) (l := r)
  have h2 := skN_le (b := true) (l := r)
  split
  · omega
  · split <;> omega
theorem skN_note : ∀ (l : List UInt8), skN true l = (l.takeWhile (· != 10)).length + skN false (l.drop (l.takeWhile (· != 10)).length)
 | [] => rfl
 | c :: r => by
  by_cases hc : c = 10
  · subst hc
    rw [skN]
    simp [skN, blankB]
  · have h : (c != 10) = true := by simpa using hc
    rw [skN, h, skN_note r, List.takeWhile_cons, if_pos h, List.length_cons, List.drop_succ_cons]
    omega
theorem skN_slash {l : List UInt8} (h : l.take 2 = [47, 47]) : skN false l = (l.takeWhile (· != 10)).length + skN false (l.drop (l.takeWhile (· != 10)).length) := by
 match l, h with
 | a :: b :: r, h =>
  simp only [List.take_succ_cons, List.take_zero, List.cons.injEq, and_true] at h
  obtain ⟨rfl, rfl⟩ := h
  have e : skN false (47 :: 47 :: r) = 1 + skN true (47 :: r) := by
   conv => lhs; rw [skN]
   rw [if_neg (by decide), if_pos (by simp)]
  have e2 := skN_note (47 :: r)
  have e3 : (47 :: 47 :: r : List UInt8).takeWhile (· != 10) = 47 :: (47 :: r : List UInt8).takeWhile (· != 10) := by
   rw [List.takeWhile_cons, if_pos (by decide)]
  rw [e, e2, e3, List.length_cons, List.drop_succ_cons]
  omega
theorem drop_cons {l : List UInt8} {j : Nat} {x : UInt8} (h : l[j]? = some x) : l.drop j = x :: l.drop (j + 1) := by
 obtain ⟨h1, h2⟩ := List.getElem?_eq_some_iff.1 h
 rw [List.drop_eq_getElem_cons h1, h2]
theorem skip_c {w : World} {b : Nat} {t : TypeId} {l : List UInt8} {i : Nat} {r : List Value} (h : Cur w b t l i r) (hi : i <= l.length) (hl : l.length < 9223372036854775807) :
  Calls Tryz.prog 71 #[.pointer (some ⟨b, 0, none⟩)] w fun e w' => e = .returned (.tuple #[]) /\ Only [b] w w' /\ Cur w' b t l (i + skN false (l.drop i)) r := by
 refine ret (v65w ⟨b, 0, none⟩ (fun v w' => v = .tuple #[] /\ Only [b] w w' /\ Cur w' b t l (i + skN false (l.drop i)) r) w ?_)
 unfold v65v
 refine ⟨fun nv w' => ∃ j : Nat, j <= l.length /\ nv = l.length - j /\ i + skN false (l.drop i) = j + skN false (l.drop j) /\ Only [b] w w' /\ Cur w' b t l j r, l.length - i, ⟨i, hi, rfl, rfl, Only.refl _ _, h⟩, ?_⟩
 rintro nv w0 ⟨j, hj, rfl, hjs, hO0, h0⟩
 have kp : ∀ {u u' : World} {n : Nat}, Only [] u u' -> Cur u b t l n r -> Cur u' b t l n r := fun hO hC => (hO.block b hC.lt (by simp)).trans hC
 refine (end_c h0).mono ?_
 rintro _ w1 ⟨rfl, hO1⟩
 have h1 := kp hO1 h0
 refine ⟨_, rfl, fun hc => ?_, fun hc => ⟨rfl, hO0.trans hO1 (by simp), ?_⟩⟩
 · have hlt : j < l.length := by simpa using hc
   have hx : l[j]? = some l[j] := List.getElem?_eq_getElem hlt
   generalize l[j] = x at hx
   have hd := drop_cons hx
   refine ⟨T l, Blk.at1 h1 0 rfl, j, Blk.at1 h1 1 rfl, x, ⟨Int.natCast_nonneg j, by rw [T_get, Int.toNat_natCast, hx]⟩, fun w2 hO2 => ?_⟩
   obtain ⟨s, w3, k1, k2, k3, _⟩ := buildB w2 [9, 10, 13, 32] (n := 4) (parts := #[(0, .int .u8 9), (1, .int .u8 10), (2, .int .u8 13), (3, .int .u8 32)]) rfl rfl (by decide) (by decide)
   refine ⟨s, w3, k1, (one_c (flatB k2) x).mono ?_⟩
   rintro _ w4 ⟨rfl, hO4⟩
   have hO14 := hO2.tr0 (k3.tr0 hO4)
   have h4 := kp hO14 h1
   have hO04 : Only [b] w w4 := hO0.trans (hO1.tr0 hO14) (by simp)
   refine ⟨_, rfl, fun hb => ⟨j, Blk.at1 h4 1 rfl, b, 1, _, t, by rw [addr_lit], h4, by simp, fun w5 hO5 hB5 => ⟨l.length - (j + 1), by omega, j + 1, by omega, rfl, ?_, hO04.trans hO5 (by simp), ?_⟩⟩, fun hb => (rest_c h4 hj).mono ?_⟩
   · have e : blankB x = true := hb
     rw [hjs, hd, skN, if_pos e]
     omega
   · rw [wr' (by omega) (by omega)] at hB5
     exact hB5
   rintro _ w6 ⟨rfl, hO6⟩
   have h6 := kp hO6 h4
   have hlr : (l.drop j).length <= l.length := by rw [List.length_drop]; omega
   refine ⟨_, rfl, (hasPrefix_c w6 (l.drop j) [47, 47] (by omega) (by decide)).mono ?_⟩
   rintro _ w7 ⟨rfl, hO7⟩
   have h7 := kp hO7 h6
   refine ⟨_, rfl, fun hs => (rest_c h7 hj).mono ?_, fun hs => ⟨rfl, hO04.trans (hO6.tr0 hO7) (by simp), ?_⟩⟩
   · rintro _ w8 ⟨rfl, hO8⟩
     have h8 := kp hO8 h7
     refine ⟨_, rfl, (cut_c w8 (l.drop j) 10 (by omega)).mono ?_⟩
     rintro _ w9 ⟨s9, b9, rfl, hO9⟩
     have h9 := kp hO9 h8
     have hs' : (l.drop j).take 2 = [47, 47] := of_decide_eq_true hs
     have hk := skN_slash hs'
     have hlen : ((l.drop j).takeWhile (· != 10)).length <= (l.drop j).length := by
      rw [while_take, List.length_take]
      exact Nat.min_le_right _ _
     have hpos : 0 < ((l.drop j).takeWhile (· != 10)).length := by
      match hq : l.drop j, hs' with
      | a :: r', hs' =>
       have : a = 47 := by
        match r', hs' with
        | b' :: r'', hs' => simp at hs'; exact hs'.1
       subst this
       simp
     have hld : (l.drop j).length = l.length - j := List.length_drop
     generalize hn : ((l.drop j).takeWhile (· != 10)).length = n at *
     refine ⟨_, s9, b9, rfl, j, Blk.at1 h9 1 rfl, b, 1, _, t, by rw [addr_lit], h9, by simp, fun w10 hO10 hB10 => ⟨l.length - (j + n), by omega, j + n, by omega, rfl, ?_, (hO04.trans (hO6.tr0 (hO7.tr0 (hO8.tr0 hO9))) (by simp)).trans hO10 (by simp), ?_⟩⟩
     · rw [hjs, hk, List.drop_drop]
       omega
     · rw [T_size, hn, wr' (by omega) (by omega)] at hB10
       exact hB10
   · have hs : ¬ (l.drop j).take 2 = [47, 47] := of_decide_eq_false hs
     have hb : blankB x = false := hb
     have hz : skN false (l.drop j) = 0 := by
      rw [hd, skN, if_neg (by simp [hb]), if_neg]
      intro hh
      apply hs
      rw [hd]
      simp only [Bool.and_eq_true, beq_iff_eq] at hh
      obtain ⟨rfl, hh⟩ := hh
      cases hr : l.drop (j + 1) with
      | nil => rw [hr] at hh; simp at hh
      | cons y z =>
       rw [hr] at hh
       simp only [List.head?_cons, Option.some.injEq] at hh
       rw [hh]; rfl
     rw [hjs, hz]
     exact h7
 · have hge : l.length <= j := by simpa using hc
   have hz : l.drop j = [] := List.drop_of_length_le hge
   rw [hjs, hz]
   exact h1
def Er (w : World) : Prop := ∃ tp p, w.var? Tryz.prog "strconv.ErrRange" = some #[.iface tp p]
theorem er_num : Tryz.prog.globalNamed "strconv.ErrRange" = some 7 := by kernel_rfl
theorem Er.keep {w w' : World} (h : Er w) (hk : 7 < w.heap.size -> w'.heap[7]? = w.heap[7]?) : Er w' := by
 obtain ⟨tp, p, h⟩ := h
 refine ⟨tp, p, ?_⟩
 unfold World.var? at h ⊢
 rw [er_num] at h ⊢
 simp only [Option.bind_some] at h ⊢
 rw [hk]
 · exact h
 · refine Decidable.byContradiction fun hn => ?_
   rw [Array.getElem?_eq_none (by omega)] at h
   cases h
theorem Er.lt {w : World} (h : Er w) : 7 < w.heap.size := by
 obtain ⟨tp, p, h⟩ := h
 unfold World.var? at h
 rw [er_num] at h
 simp only [Option.bind_some] at h
 refine Decidable.byContradiction fun hn => ?_
 rw [Array.getElem?_eq_none (by omega)] at h
 cases h
theorem Er.only {w w' : World} (h : Er w) (hO : Only [] w w') : Er w' := h.keep fun hlt => hO.block _ hlt (by simp)
def decV (a : Nat) (ds : List UInt8) : Nat := ds.foldl (fun a c => a * 10 + (c.toNat - 48)) a
theorem decV_ge : ∀ (ds : List UInt8) (a : Nat), a <= decV a ds
 | [], a => Nat.le_refl _
 | c :: r, a => by
  have := decV_ge r (a * 10 + (c.toNat - 48))
  show a <= decV (a * 10 + (c.toNat - 48)) r
  omega
theorem pum : ∀ (ds : List UInt8) (a : Nat), (∀ c, c ∈ ds -> digitB c = true) -> a <= 18446744073709551615 ->
  Lib.parseUintM 18446744073709551615 a ds = if decV a ds <= 18446744073709551615 then .ok (decV a ds) else .range
 | [], a, _, h => by rw [Lib.parseUintM]; exact (if_pos h).symm
 | c :: r, a, hd, h => by
  have hc := hd c (by simp)
  simp only [digitB, Bool.and_eq_true, decide_eq_true_eq] at hc
  have e : decV a (c :: r) = decV (a * 10 + (c.toNat - 48)) r := rfl
  have hge := decV_ge r (a * 10 + (c.toNat - 48))
  rw [Lib.parseUintM, if_pos hc, e]
  split
  · rw [if_neg (by omega)]
  · split
    · rw [if_neg (by omega)]
    · rw [pum r _ (fun x hx => hd x (by simp [hx])) (by omega)]
theorem pib {ds : List UInt8} (hd : ∀ c, c ∈ ds -> digitB c = true) (hne : ds ≠ []) : Lib.parseIntB 64 ds = if decV 0 ds < 9223372036854775808 then .ok (decV 0 ds : Int) else .range := by
 match ds, hne with
 | c :: r, _ =>
  have hc := hd c (by simp)
  simp only [digitB, Bool.and_eq_true, decide_eq_true_eq] at hc
  have h1 : ¬ (c.toNat = 43 ∨ c.toNat = 45) := by omega
  have h2 : ¬ c.toNat = 45 := by omega
  have h3 : Lib.parseUintB 64 (c :: r) = Lib.parseUintM 18446744073709551615 0 (c :: r) := by
   rw [Lib.parseUintB, if_neg (by simp)]
  unfold Lib.parseIntB
  dsimp only
  rw [if_neg h1, h3, pum _ _ hd (by decide)]
  by_cases hv : decV 0 (c :: r) <= 18446744073709551615
  · rw [if_pos hv]
    by_cases hw : decV 0 (c :: r) < 9223372036854775808
    · rw [if_pos hw]
      simp [h2]; omega
    · rw [if_neg hw]
      simp [h2]; omega
  · rw [if_neg hv, if_neg (by omega)]
def parseM (l : List UInt8) : Nat × Nat × Int :=
 if l = [] then (0, 0, 3) else if l.takeWhile digitB = [] ∨ (1 < (l.takeWhile digitB).length /\ l.head? = some 48) then (0, 0, 4)
 else if decV 0 (l.takeWhile digitB) < 9223372036854775808 then (decV 0 (l.takeWhile digitB), (l.takeWhile digitB).length, 0) else (0, 0, 20)
theorem while_all {p : UInt8 -> Bool} {l : List UInt8} : ∀ c, c ∈ l.takeWhile p -> p c = true := by
 have := List.all_takeWhile (p := p) (l := l)
 rwa [List.all_eq_true] at this
theorem cparse_c {w : World} {l : List UInt8} (hE : Er w) (hl : l.length < 281474976710656) :
  Calls Tryz.prog 151 #[.string (T l)] w fun e w' => e = .returned (.tuple #[.int .i64 (parseM l).1, .int .i64 (parseM l).2.1, .int .i64 (parseM l).2.2]) /\ Only [] w w' := by
 refine ret (v0w (T l) (fun v w' => v = .tuple #[.int .i64 (parseM l).1, .int .i64 (parseM l).2.1, .int .i64 (parseM l).2.2] /\ Only [] w w') w ?_)
 unfold v0v
 refine ⟨fun nv j w' => ∃ n : Nat, n <= l.length /\ j = (n : Int) /\ nv = l.length - n /\ (∀ x, x ∈ l.take n -> digitB x = true) /\ Only [] w w', l.length, ⟨0, Nat.zero_le _, rfl, rfl, by simp, Only.refl _ _⟩, ?_⟩
 rintro nv _ w0 ⟨n, hn, rfl, rfl, hp, hO0⟩
 rw [T_size]
 refine ⟨fun b w' => (b = true -> ∃ x, l[n]? = some x /\ digitB x = true) /\ (b = false -> ∀ x, l[n]? = some x -> digitB x = false) /\ Only [] w w', ?_, fun hc => ?_, fun hc => ⟨fun e => (by cases e), fun _ x hx => ?_, hO0⟩⟩
 · rintro b w1 ⟨h1, h2, hO1⟩
   refine ⟨fun hb => ?_, fun hb => ?_⟩
   · obtain ⟨x, hx, hw⟩ := h1 hb
     have hlt := (List.getElem?_eq_some_iff.1 hx).1
     refine ⟨l.length - (n + 1), by omega, n + 1, by omega, by rw [wr' (by omega) (by omega)]; rfl, rfl, fun y hy => ?_, hO1⟩
     rw [List.take_add_one, hx] at hy
     simp only [Option.toList_some, List.mem_append, List.mem_singleton] at hy
     rcases hy with hy | rfl
     · exact hp y hy
     · exact hw
   have hds := take_while hn hp (h2 hb)
   have hdl : (l.takeWhile digitB).length = n := by rw [hds, List.length_take]; omega
   have e0 : (ByteArray.mk #[]) = T [] := rfl
   rw [e0, T_eq]
   refine ⟨fun h0 => ⟨?_, hO1⟩, fun h0 => ?_⟩
   · have h0 : l = [] := of_decide_eq_true h0
     rw [parseM, if_pos h0]; rfl
   have h0 : ¬ l = [] := of_decide_eq_false h0
   refine ⟨fun b w' => b = decide (l.takeWhile digitB = [] ∨ (1 < (l.takeWhile digitB).length /\ l.head? = some 48)) /\ Only [] w w', ?_, fun hz => ?_, fun hz => ?_⟩
   · rintro b w2 ⟨rfl, hO2⟩
     refine ⟨fun hb => ⟨?_, hO2⟩, fun hb => ⟨n, ⟨rfl, hn⟩, ?_⟩⟩
     · rw [parseM, if_neg h0, if_pos (of_decide_eq_true hb)]; rfl
     have hb := of_decide_eq_false hb
     have hx : (T l).extract 0 n = T (l.takeWhile digitB) := by rw [T_ext, List.drop_zero, Nat.sub_zero, hds]
     rw [hx]
     have hne : l.takeWhile digitB ≠ [] := fun e => hb (.inl e)
     have hpi := pib (while_all (p := digitB) (l := l)) hne
     have hsz : (T (l.takeWhile digitB)).size <= 281474976710656 := by rw [T_size]; omega
     by_cases hv : decV 0 (l.takeWhile digitB) < 9223372036854775808
     · rw [if_pos hv] at hpi
       refine (Tryz.strconv_ParseInt_10_at64_ok (T (l.takeWhile digitB)) (Nat.le_trans hsz (by decide)) _ hpi w2).mono ?_
       rintro _ w3 ⟨rfl, hw⟩
       have hO3 : Only [] w2 w3 := by
        rcases hw with rfl | ⟨s, rfl⟩
        · exact Only.refl _ _
        · exact Only.of_below (Lib.bytesWorld_below _ _ _)
       refine ⟨_, ⟨.nilIface, rfl⟩, rfl, .inl rfl, fun e => (by cases e), fun _ => ⟨?_, hO2.tr0 hO3⟩⟩
       rw [parseM, if_neg h0, if_neg hb, if_pos hv, hdl]
     · rw [if_neg hv] at hpi
       obtain ⟨tp, p, hvar⟩ := hE.only hO2
       refine (Tryz.strconv_ParseInt_10_at64_range_var (T (l.takeWhile digitB)) hsz hpi tp p w2 hvar).mono ?_
       rintro _ w3 ⟨N, rfl, _, _, hw⟩
       refine ⟨_, ⟨.iface _ _, rfl⟩, rfl, .inr ⟨_, _, rfl⟩, fun _ => ⟨?_, hO2.tr0 (Only.of_below hw)⟩, fun e => (by cases e)⟩
       rw [parseM, if_neg h0, if_neg hb, if_neg hv]; rfl
   · have hz : n = 0 := by simpa using hz
     subst hz
     refine ⟨?_, hO1⟩
     symm
     rw [decide_eq_true (.inl (List.eq_nil_of_length_eq_zero hdl))]
     rfl
   · have hz : n ≠ 0 := by simpa using hz
     obtain ⟨x, r, rfl⟩ : ∃ x r, l = x :: r := by
      cases l with
      | nil => exact absurd rfl h0
      | cons x r => exact ⟨x, r, rfl⟩
     refine ⟨x, fun _ => ⟨Int.le_refl _, by rw [T_get]; rfl⟩, ?_, hO1⟩
     have hne : (x :: r).takeWhile digitB ≠ [] := fun e => by rw [e] at hdl; exact hz hdl.symm
     rw [hdl, Bool.eq_iff_iff]
     simp only [Bool.and_eq_true, decide_eq_true_eq, beq_iff_eq, List.head?_cons, Option.some.injEq]
     constructor
     · rintro ⟨h1, h2⟩
       exact .inr ⟨by omega, UInt8.toNat_inj.1 (by show x.toNat = 48; omega)⟩
     · rintro (h | ⟨h1, rfl⟩)
       · exact absurd h hne
       · exact ⟨by omega, rfl⟩
 · have hlt : (n : Int) < l.length := of_decide_eq_true hc
   have hx : l[n]? = some (l[n]'(by omega)) := List.getElem?_eq_getElem (by omega)
   generalize l[n]'(by omega) = x at hx
   refine ⟨x, ⟨Int.natCast_nonneg n, by rw [T_get, Int.toNat_natCast, hx]⟩, (cdigit_c w0 x).mono ?_⟩
   rintro _ w3 ⟨rfl, hO3⟩
   refine ⟨_, rfl, fun hb => ⟨x, hx, hb⟩, fun hd y hy => ?_, hO0.tr0 hO3⟩
   rw [hx] at hy
   injection hy with hy
   subst hy
   exact hd
 · have hge : ¬ (n : Int) < l.length := of_decide_eq_false hc
   have := (List.getElem?_eq_some_iff.1 hx).1
   omega
structure Tk where
 k : Int
 t : List UInt8
 n : Int
 a : Int
deriving DecidableEq
def Tk.v (x : Tk) : Value := .agg #[.int .i64 x.k, .string (T x.t), .int .i64 x.n, .int .i64 x.a]
def rTk : Rp Tk := fun _ _ x cs => cs = [.int .i64 x.k, .string (T x.t), .int .i64 x.n, .int .i64 x.a]
theorem rTk_ok : rTk.Ok where
 keep h _ := h
 inHeap h := h
 mono h _ := h
 one := by
  rintro w F x cs h v hv
  unfold rTk at h
  subst h
  simp only [List.mem_cons, List.not_mem_nil, or_false] at hv
  rcases hv with rfl | rfl | rfl | rfl <;> rfl
abbrev OwnK (B : Nat) (w : World) (s : Sl) (xs : List Tk) : Prop := Own rTk 4 96 B w (fun _ => True) s xs
theorem OwnK.of {B : Nat} {w : World} {F : Nat -> Prop} {s : Sl} {xs : List Tk} (h : Own rTk 4 96 B w F s xs) : OwnK B w s xs := h.mono rTk_ok fun _ _ => trivial
theorem OwnK.sl {B : Nat} {w : World} {s : Sl} {xs : List Tk} (h : OwnK B w s xs) : SliceF rTk 4 w (fun k => B <= k /\ s.a = some ⟨k, 0, none⟩) s xs := flatO rTk_ok (fun _ _ _ _ _ h => h) h
theorem OwnK.flat {B : Nat} {w : World} {s : Sl} {xs : List Tk} (h : OwnK B w s xs) : Own rTk 4 96 B w (fun _ => False) s xs := by
 rcases h with h | ⟨g, css, tail, a1, a2, a4, a5, a6, a7, a9, a8⟩
 · exact .inl h
 · exact .inr ⟨g, css, tail, a1, a2, a4, a5, a6, a7, a9, All2.imp (fun _ _ h => h) a8⟩
theorem OwnK.keep {B : Nat} {w w' : World} {s : Sl} {xs : List Tk} (h : OwnK B w s xs) (hk : ∀ k, B <= k /\ s.a = some ⟨k, 0, none⟩ -> k < w.heap.size -> w'.heap[k]? = w.heap[k]?) : OwnK B w' s xs :=
 OwnK.of (h.flat.keep rTk_ok fun k hF hlt => hk k (hF.elim False.elim id) hlt)
theorem OwnK.only {B : Nat} {w w' : World} {s : Sl} {xs : List Tk} (h : OwnK B w s xs) (hO : Only [] w w') : OwnK B w' s xs := h.keep fun k _ hlt => hO.block k hlt (by simp)
theorem OwnK.p {B : Nat} {w w' : World} {s : Sl} {xs : List Tk} {D : Nat -> Prop} (h : OwnK B w s xs) (hO : OnlyP D w w') (hD : ∀ k, B <= k -> s.a = some ⟨k, 0, none⟩ -> ¬ D k) : OwnK B w' s xs := h.keep fun k hk hlt => hO.block k hlt (hD k hk.1 hk.2)
theorem push_k {w : World} {B : Nat} {s : Sl} {xs : List Tk} (t : Tk) (hs : OwnK B w s xs) (hB : B <= w.heap.size) (hm : (xs.length + 1) * 40 <= 140737488355328) :
  ∃ y w1, (Instr.buildSlice 79 1 #[(0, t.v)]).run Tryz.prog w = .ok (Sl.v y) w1 /\ Only [] w w1 /\ ∃ s' w2, (Builtin.append_ #[79, 79] 79 #[Sl.v s, Sl.v y]).run Tryz.prog w1 = .ok (Sl.v s') w2 /\ OwnK B w2 s' (xs ++ [t]) /\ OnlyP (fun k => B <= k /\ s.a = some ⟨k, 0, none⟩) w1 w2 := by
 obtain ⟨y, w1, k1, k2, s', w2, k3, k4, ⟨gs, k5, k6⟩, _⟩ := app_one (P := Tryz.prog) (t := 79) (ty := 79) (e := 96) (i := Tryz.t96) (bytes := 40) (size := 4) (v := t.v) (x := t) (G := fun _ => False) (by kernel_rfl) (by kernel_rfl) rfl rfl rfl rfl (by decide) (by decide) (by decide) rTk_ok hs hB rfl rfl (fun k hk _ => hk.elim) hm
 exact ⟨y, w1, k1, k2, s', w2, k3, OwnK.of k4, k5.p fun g hg => .inl ⟨(k6 g hg).2.1, (k6 g hg).1⟩⟩
def wordsL : List (List UInt8) := [[97, 102, 116, 101, 114], [97, 108, 119, 97, 121, 115], [99, 104, 97, 114, 116], [100, 101, 101, 112], [101, 109, 105, 116], [101, 110, 116, 101, 114], [104, 105, 115, 116, 111, 114, 121], [105, 110], [105, 110, 105, 116, 105, 97, 108], [108, 101, 97, 118, 101], [111, 110], [112, 97, 114, 97, 108, 108, 101, 108], [114, 97, 105, 115, 101], [115, 101, 116], [115, 116, 97, 116, 101], [118, 97, 114]]
theorem words_c (w : World) : Calls Tryz.prog 70 #[] w fun e w' => ∃ s : Sl, e = .returned s.v /\ Own rTx 1 9 w.heap.size w' (fun _ => True) s wordsL /\ Only [] w w' := by
 refine (v61w (fun v w' => ∃ s : Sl, v = s.v /\ Own rTx 1 9 w.heap.size w' (fun _ => True) s wordsL /\ Only [] w w') w ?_).mono (by
  rintro e w' ⟨v, rfl, s, rfl, h⟩; exact ⟨s, rfl, h⟩)
 unfold v61v
 obtain ⟨s, w', h1, h2, h3⟩ := buildS w wordsL (n := 16) rfl rfl (by decide) (by decide)
 exact ⟨s, w', h1, s, rfl, h2, h3⟩
structure Cut (w : World) (b : Nat) (l : List UInt8) (i : Nat) (rs : Sl) (acc : List Tk) : Prop where
 blk : ∃ ws : Sl, Blk w b 129 [.string (T l), .int .i64 (i : Int), ws.v, rs.v] /\ SliceF rTx 1 w (fun k => k < b) ws wordsL
 own : OwnK (b + 1) w rs acc
 er : Er w
 gb : 7 < b
 il : i <= l.length
 ll : l.length <= 16384
theorem Cut.lt {w : World} {b : Nat} {l : List UInt8} {i : Nat} {rs : Sl} {acc : List Tk} (h : Cut w b l i rs acc) : b < w.heap.size := by
 obtain ⟨ws, h1, _⟩ := h.blk
 exact h1.lt
theorem Cut.only {w w' : World} {b : Nat} {l : List UInt8} {i : Nat} {rs : Sl} {acc : List Tk} (h : Cut w b l i rs acc) (hO : Only [] w w') : Cut w' b l i rs acc := by
 obtain ⟨ws, h1, h2⟩ := h.blk
 exact ⟨⟨ws, (hO.block b h1.lt (by simp)).trans h1, SliceF.only rTx_ok (by decide) h2 hO (by simp)⟩, h.own.only hO, h.er.only hO, h.gb, h.il, h.ll⟩
theorem Cut.move {w w' : World} {b : Nat} {l : List UInt8} {i j : Nat} {rs : Sl} {acc : List Tk} (h : Cut w b l i rs acc) (hO : Only [b] w w') (hj : j <= l.length) (hB : ∀ ws : Sl, Blk w b 129 [.string (T l), .int .i64 (i : Int), ws.v, rs.v] -> Blk w' b 129 [.string (T l), .int .i64 (j : Int), ws.v, rs.v]) : Cut w' b l j rs acc := by
 obtain ⟨ws, h1, h2⟩ := h.blk
 exact ⟨⟨ws, hB ws h1, SliceF.only rTx_ok (by decide) h2 hO (by intro k hk _; simp only [List.mem_singleton]; omega)⟩, h.own.keep fun k hk hlt => hO.block k hlt (by simp only [List.mem_singleton]; omega), h.er.keep fun hlt => hO.block _ hlt (by simp only [List.mem_singleton]; have := h.gb; omega), h.gb, hj, h.ll⟩
theorem add_c {w : World} {b : Nat} {l : List UInt8} {i : Nat} {rs : Sl} {acc : List Tk} (h : Cut w b l i rs acc) (k : Int) (t : List UInt8) (nn a0 : Int) (n : Nat) (hn : i + n <= l.length) (ha : acc.length <= 16384) :
  Calls Tryz.prog 74 #[.pointer (some ⟨b, 0, none⟩), .agg #[.int .i64 k, .string (T t), .int .i64 nn, .int .i64 a0], .int .i64 (n : Int)] w fun e w' => e = .returned (.tuple #[]) /\ OnlyP (fun k => b <= k) w w' /\ ∃ rs', Cut w' b l (i + n) rs' (acc ++ [⟨k, t, nn, i⟩]) := by
 refine ret (v66w ⟨b, 0, none⟩ k (T t) nn a0 n (fun v w' => v = .tuple #[] /\ OnlyP (fun k => b <= k) w w' /\ ∃ rs', Cut w' b l (i + n) rs' (acc ++ [⟨k, t, nn, i⟩])) w ?_)
 unfold v66v
 intro k0 w0 hk0 hk0' hO0
 have hbl := h.lt
 have hll := h.ll
 have h0 := h.only hO0
 obtain ⟨ws, hb0, hw0⟩ := h0.blk
 refine ⟨i, Blk.at1 hb0 1 rfl, fun w1 hO1 => ?_⟩
 have zb0 := hb0.lt
 have hb1 : Blk w1 b 129 _ := (hO1.block b zb0 (by simp only [List.mem_singleton]; omega)).trans hb0
 have ho1 : OwnK (b + 1) w1 rs acc := h0.own.keep fun q hq hlt => by
  refine hO1.block q hlt ?_
  simp only [List.mem_singleton]
  rintro rfl
  have := (h.own.blk hq.2).2
  dsimp only at this
  omega
 have z1 := hO1.size
 obtain ⟨y, w2, c1, c2, s', w3, c3, c4, c5⟩ := push_k ⟨k, t, nn, i⟩ ho1 (by omega) (Nat.le_trans (Nat.mul_le_mul_right 40 (show acc.length + 1 <= 16385 by omega)) (by decide))
 have z2 := c2.size
 have z3 := c5.size
 have hk0r : ∀ q, rs.a = some ⟨q, 0, none⟩ -> q ≠ k0 := fun q hq => by
  have := (h.own.blk hq).2
  dsimp only at this
  omega
 refine ⟨fun q => q = b, rfl, rs, Blk.at1 hb1 3 rfl, y, w2, c1, c2.same (by simp; omega), Keeps.only c2, s', w3, c3, ?_, ?_, ?_⟩
 · exact c5.same (by intro x hx; simp only [List.mem_singleton] at hx; subst hx; exact ⟨by omega, fun e => hk0r _ e.2 rfl⟩)
 · intro q hq hlt
   exact c5.block q hlt (by omega)
 have hb3 : Blk w3 b 129 [.string (T l), .int .i64 (i : Int), ws.v, rs.v] := (c5.block b (by omega) (by omega)).trans ((c2.block b (by omega) (by simp)).trans hb1)
 refine ⟨b, 3, _, 129, by rw [addr_lit], hb3, by simp, by omega, fun w4 hO4 hb4 => ?_⟩
 have hb4 : Blk w4 b 129 [.string (T l), .int .i64 (i : Int), ws.v, s'.v] := hb4
 refine ⟨i, Blk.at1 hb4 1 rfl, b, 1, _, 129, by rw [addr_zero, addr_lit], hb4, by simp, by omega, fun w5 hO5 hb5 => ⟨rfl, ?_, s', ?_⟩⟩
 · have e1 : OnlyP (fun k => b <= k) w w1 := hO0.p0.trans (hO1.p (F := fun q => q = k0) fun b hb => .inl (by simpa using hb)) fun q hq => by omega
   have e2 : OnlyP (fun k => b <= k) w w3 := (e1.tr0 c2).trans c5 fun q hq => .inl (by omega)
   have e3 : OnlyP (fun k => b <= k) w w4 := e2.trans (hO4.p (F := fun q => q = b) fun b hb => .inl (by simpa using hb)) fun q hq => .inl (by omega)
   exact e3.trans (hO5.p (F := fun q => q = b) fun b hb => .inl (by simpa using hb)) fun q hq => .inl (by omega)
 · have z4 := hO4.size
   have hb5 : Blk w5 b 129 [.string (T l), .int .i64 (IntKind.i64.wrap ((i : Int) + n)), ws.v, s'.v] := hb5
   rw [wr' (by omega) (by omega)] at hb5
   have up : OnlyP (fun k => b <= k) w w5 := by
    have e1 : OnlyP (fun k => b <= k) w w1 := hO0.p0.trans (hO1.p (F := fun q => q = k0) fun b hb => .inl (by simpa using hb)) fun q hq => by omega
    have e2 : OnlyP (fun k => b <= k) w w3 := (e1.tr0 c2).trans c5 fun q hq => .inl (by omega)
    have e3 : OnlyP (fun k => b <= k) w w4 := e2.trans (hO4.p (F := fun q => q = b) fun b hb => .inl (by simpa using hb)) fun q hq => .inl (by omega)
    exact e3.trans (hO5.p (F := fun q => q = b) fun b hb => .inl (by simpa using hb)) fun q hq => .inl (by omega)
   have hgb := h.gb
   obtain ⟨ws', hb', hw'⟩ := h.blk
   have hwe : ws' = ws := by
    have : Blk w0 b 129 [.string (T l), .int .i64 (i : Int), ws'.v, rs.v] := (hO0.block b hbl (by simp)).trans hb'
    unfold Blk at this hb0
    rw [this] at hb0
    simp [Sl.v] at hb0
    cases ws; cases ws'; simp_all
   subst hwe
   refine ⟨⟨ws', hb5, SliceF.onlyP rTx_ok (by decide) hw' up fun q hq _ hd => by omega⟩, ?_, h.er.keep fun hlt => up.block _ hlt (by omega), hgb, hn, hll⟩
   have e4 : OwnK (b + 1) w4 s' _ := c4.keep fun q hq hlt => hO4.block q hlt (by simp only [List.mem_singleton]; omega)
   exact e4.keep fun q hq hlt => hO5.block q hlt (by simp only [List.mem_singleton]; omega)
abbrev Tq := Int × List UInt8 × Int × Nat
def wordR (m : List UInt8) : Except Int Tq :=
 if 24 < (m.takeWhile wordB).length then .error 2 else .ok (if wordsL.contains (m.takeWhile wordB) then 2 else 1, m.takeWhile wordB, 0, (m.takeWhile wordB).length)
def numR (m : List UInt8) : Except Int Tq :=
 if (parseM m).2.2 ≠ 0 then .error (parseM m).2.2 else if (parseM m).2.1 < (m.takeWhile wordB).length then .error 4 else .ok (3, [], (parseM m).1, (parseM m).2.1)
def shortL : List UInt8 := [123, 125, 40, 41, 91, 93, 59, 44, 61, 43, 45, 42, 47, 37, 60, 62, 33]
def sign2 (m : List UInt8) : Bool := match m with
 | c :: d :: _ => (d == 61 && [60, 62, 61, 33].contains c) || (d == c && [38, 124].contains c) || (c == 45 && d == 62)
 | _ => false
def signN (m : List UInt8) : Nat := if sign2 m then 2 else match m with
 | c :: _ => if shortL.contains c then 1 else 0
 | [] => 0
def signR (m : List UInt8) : Except Int Tq := if signN m = 0 then .error 4 else .ok (4, m.take (signN m), 0, signN m)
def tokR (m : List UInt8) : Except Int Tq := match m with
 | [] => .error 4
 | c :: _ => if letterB c then wordR m else if digitB c then numR m else signR m
def Did (w' : World) (b : Nat) (l : List UInt8) (i : Nat) (acc : List Tk) (r : Except Int Tq) (v : Value) : Prop := match r with
 | .error e => v = .int .i64 e /\ ∃ rs, Cut w' b l i rs acc
 | .ok q => v = .int .i64 0 /\ ∃ rs, Cut w' b l (i + q.2.2.2) rs (acc ++ [⟨q.1, q.2.1, q.2.2.1, i⟩])
theorem while_len {p : UInt8 -> Bool} {l : List UInt8} : (l.takeWhile p).length <= l.length := by
 rw [while_take, List.length_take]; exact Nat.min_le_right _ _
theorem word_c {w : World} {b : Nat} {l : List UInt8} {i : Nat} {rs : Sl} {acc : List Tk} (h : Cut w b l i rs acc) (ha : acc.length <= 16384) :
  Calls Tryz.prog 116 #[.pointer (some ⟨b, 0, none⟩)] w fun e w' => ∃ v, e = .returned v /\ OnlyP (fun k => b <= k) w w' /\ Did w' b l i acc (wordR (l.drop i)) v := by
 refine v70w ⟨b, 0, none⟩ (fun v w' => OnlyP (fun k => b <= k) w w' /\ Did w' b l i acc (wordR (l.drop i)) v) w ?_
 unfold v70v
 obtain ⟨ws, hb, hw⟩ := h.blk
 have hll := h.ll
 refine (row_c hb h.il (by omega)).mono ?_
 rintro _ w0 ⟨rfl, hO0⟩
 have hwl : ((l.drop i).takeWhile wordB).length <= l.length - i := by
  have := while_len (p := wordB) (l := l.drop i)
  rwa [List.length_drop] at this
 have hil := h.il
 refine ⟨_, rfl, fun hc => ⟨hO0.p0, ?_⟩, fun hc => ?_⟩
 · rw [T_size] at hc
   rw [wordR, if_pos (by have := of_decide_eq_true hc; omega)]
   exact ⟨rfl, rs, h.only hO0⟩
 rw [T_size] at hc
 have hc : ¬ 24 < ((l.drop i).takeWhile wordB).length := by have := of_decide_eq_false hc; omega
 rw [wordR, if_neg hc]
 generalize hm : (l.drop i).takeWhile wordB = m at *
 have h0 := h.only hO0
 obtain ⟨ws', hb', hw'⟩ := h0.blk
 refine ⟨fun k w' => k = (if wordsL.contains m then 2 else 1) /\ Only [] w w', ?_, ws', Blk.at1 hb' 2 rfl, (containsS_c hw' m).mono ?_⟩
 · rintro _ w1 ⟨rfl, hO1⟩
   refine (ret (v90w (T m) (fun v w' => v = .string (T m) /\ Only [] w1 w') w1 ?_)).mono ?_
   · unfold v90v
     refine (Tryz.stringslite_Clone (T m) w1 (by rw [T_size]; omega)).mono ?_
     rintro _ w2 ⟨rfl, hw⟩
     exact ⟨_, rfl, rfl, Only.of_below hw⟩
   rintro _ w2 ⟨rfl, hO2⟩
   rw [T_size]
   refine ⟨_, rfl, (add_c (h.only (hO1.tr0 hO2)) _ m 0 0 m.length (by omega) ha).mono ?_⟩
   rintro _ w3 ⟨rfl, hO3, rs', hC⟩
   exact ⟨rfl, (hO1.tr0 hO2).trP hO3, rfl, rs', hC⟩
 · rintro _ w4 ⟨rfl, hO4⟩
   refine ⟨_, rfl, fun hb => ⟨by rw [if_pos hb], hO0.tr0 hO4⟩, fun hb => ⟨by rw [hb]; rfl, hO0.tr0 hO4⟩⟩
theorem number_c {w : World} {b : Nat} {l : List UInt8} {i : Nat} {rs : Sl} {acc : List Tk} (h : Cut w b l i rs acc) (ha : acc.length <= 16384) :
  Calls Tryz.prog 118 #[.pointer (some ⟨b, 0, none⟩)] w fun e w' => ∃ v, e = .returned v /\ OnlyP (fun k => b <= k) w w' /\ Did w' b l i acc (numR (l.drop i)) v := by
 refine v67w ⟨b, 0, none⟩ (fun v w' => OnlyP (fun k => b <= k) w w' /\ Did w' b l i acc (numR (l.drop i)) v) w ?_
 unfold v67v
 obtain ⟨ws, hb, hw⟩ := h.blk
 have hll := h.ll
 have hil := h.il
 refine (rest_c hb h.il).mono ?_
 rintro _ w0 ⟨rfl, hO0⟩
 have hdl : (l.drop i).length = l.length - i := List.length_drop
 refine ⟨_, rfl, (cparse_c (h.er.only hO0) (by omega)).mono ?_⟩
 rintro _ w1 ⟨rfl, hO1⟩
 have hO01 := hO0.tr0 hO1
 refine ⟨_, _, _, rfl, fun he => ⟨hO01.p0, ?_⟩, fun he => ?_⟩
 · rw [numR, if_pos (by simpa using he)]
   exact ⟨rfl, rs, h.only hO01⟩
 have he : ¬ (parseM (l.drop i)).2.2 ≠ 0 := by simpa using he
 have hk : (parseM (l.drop i)).2.1 <= (l.drop i).length := by
  have := while_len (p := digitB) (l := l.drop i)
  unfold parseM
  split
  · exact Nat.zero_le _
  · split
    · exact Nat.zero_le _
    · split
      · exact this
      · exact Nat.zero_le _
 obtain ⟨ws', hb', hw'⟩ := (h.only hO01).blk
 refine (row_c hb' h.il (by omega)).mono ?_
 rintro _ w2 ⟨rfl, hO2⟩
 have hO02 := hO01.tr0 hO2
 refine ⟨_, rfl, ?_⟩
 rw [T_size]
 refine ⟨fun hc => ⟨hO02.p0, ?_⟩, fun hc => ?_⟩
 · rw [numR, if_neg he, if_pos (by have := of_decide_eq_true hc; omega)]
   exact ⟨rfl, rs, h.only hO02⟩
 · rw [numR, if_neg he, if_neg (by have := of_decide_eq_false hc; omega)]
   refine (add_c (h.only hO02) 3 [] _ 0 (parseM (l.drop i)).2.1 (by omega) ha).mono ?_
   rintro _ w3 ⟨rfl, hO3, rs', hC⟩
   exact ⟨rfl, hO02.trP hO3, rfl, rs', hC⟩
theorem freeze_cell (w : World) (p : Addr) (n : Nat) (a : Addr) : (w.freeze p n).cell? a = w.cell? a := by
 unfold World.freeze
 split
 · rfl
 · unfold World.cell?
   simp only [Array.getElem?_modify]
   by_cases hpa : p.block = a.block
   · rw [if_pos hpa]
     cases h : w.heap[a.block]? with
     | none => rfl
     | some o =>
      cases o with
      | cells c e f => obtain ⟨lo, hi⟩ := f; rfl
      | _ => rfl
   · rw [if_neg hpa]
theorem freeze_only (w : World) (p : Addr) (n : Nat) : OnlyP (fun k => k = p.block) w (w.freeze p n) := by
 unfold World.freeze
 split
 · exact OnlyP.refl _ _
 · exact ⟨rfl, rfl, rfl, by simp, fun k hk hn => by
    simp only [Array.getElem?_modify]
    rw [if_neg fun e => hn e.symm]⟩
theorem conv_b {w : World} {F : Nat -> Prop} {s : Sl} {g B : Nat} {l : List UInt8} (ha : s.a = some ⟨g, 0, none⟩) (h : Own rByte 1 5 B w F s l) (hlt : g < w.heap.size) :
  ∃ w', (convert 64 64 (Sl.v s)).run Tryz.prog w = .ok (Sl.v s) w' /\ SliceF rByte 1 w' (fun _ => True) s l /\ OnlyP (fun k => k = g) w w' := by
 have hs := flatB h
 obtain ⟨g', css, tail, a1, a2, a4, _⟩ := h.resolve_left (fun e => by rw [e.1] at ha; cases ha)
 rw [ha] at a1
 injection a1 with a1
 injection a1 with a1
 subst a1
 have hsh : w.shape? g = some (5, (css.flatten ++ tail).toArray.size) := by
  unfold World.shape?
  unfold Blk at a4
  rw [a4]
 have hu : Tryz.prog.underlying 64 = some (.slice 5) := by kernel_rfl
 have hu2 : Tryz.prog.underlying 5 = some (.int .u8) := by kernel_rfl
 refine ⟨w.freeze ⟨g, (css.flatten ++ tail).toArray.size, none⟩ 1, ?_, ⟨hs.len, hs.cap, hs.nil0, hs.big, fun j x hj => ?_⟩, freeze_only w ⟨g, (css.flatten ++ tail).toArray.size, none⟩ 1⟩
 · unfold Sl.v
   rw [ha]
   simp [convert, run_underlying hu, run_underlying hu2, markStringish, hsh, Result.andThen]
 · obtain ⟨base, cs, g1, g2, g3, g4, g5⟩ := hs.at_ j x hj
   exact ⟨base, cs, g1, trivial, g3, fun q v hq => by rw [freeze_cell]; exact g4 q v hq, g5⟩
theorem u8i {c d : UInt8} : ((c.toNat : Int) == (d.toNat : Int)) = (c == d) := by
 rw [Bool.eq_iff_iff]
 simp only [beq_iff_eq]
 constructor
 · intro h; exact UInt8.toNat_inj.1 (by omega)
 · rintro rfl; rfl
theorem sign2_len {m : List UInt8} (h : sign2 m = true) : 2 <= m.length := by
 match m, h with
 | _ :: _ :: _, _ => simp
theorem signN_le {m : List UInt8} : signN m <= m.length := by
 unfold signN
 split
 · exact sign2_len (by assumption)
 · split
   · split
     · simp
     · exact Nat.zero_le _
   · exact Nat.zero_le _
theorem sign_c {w : World} {b : Nat} {l : List UInt8} {i : Nat} {rs : Sl} {acc : List Tk} (h : Cut w b l i rs acc) (ha : acc.length <= 16384) (hne : i < l.length) :
    Calls Tryz.prog 119 #[.pointer (some ⟨b, 0, none⟩)] w fun e w' => ∃ v, e = .returned v /\ OnlyP (fun k => b <= k) w w' /\ Did w' b l i acc (signR (l.drop i)) v := by
  refine v68w ⟨b, 0, none⟩ (fun v w' => OnlyP (fun k => b <= k) w w' /\ Did w' b l i acc (signR (l.drop i)) v) w ?_
  unfold v68v
  obtain ⟨ws, hb, hw⟩ := h.blk
  have hll := h.ll
  have hil := h.il
  refine (rest_c hb h.il).mono ?_
  rintro _ w0 ⟨rfl, hO0⟩
  have hdl : (l.drop i).length = l.length - i := List.length_drop
  generalize hm : l.drop i = m at *
  obtain ⟨c, r, rfl⟩ : ∃ c r, m = c :: r := by
    cases m with
    | nil => simp at hdl; omega
    | cons c r => exact ⟨c, r, rfl⟩
  have g0 : (0 : Int) <= 0 /\ (T (c :: r))[0]? = some c := ⟨Int.le_refl _, by rw [T_get]; rfl⟩
  refine ⟨T (c :: r), rfl, fun i0 w' => i0 = (if shortL.contains c then 1 else 0 : Int) /\ Only [] w w', ?_, c, g0, ?_⟩
  · rintro _ w1 ⟨rfl, hO1⟩
    refine ⟨fun i1 w' => i1 = (signN (c :: r) : Int) /\ Only [] w w', ?_, fun b w' => b = sign2 (c :: r) /\ Only [] w w', ?_, ?_, ?_⟩
    · rintro _ w2 ⟨rfl, hO2⟩
      refine ⟨fun hz => ⟨hO2.p0, ?_⟩, fun hz => ⟨signN (c :: r), ⟨rfl, by rw [T_size]; exact signN_le⟩, ?_⟩⟩
      · rw [signR, if_pos (by have : (signN (c :: r) : Int) = 0 := by simpa using hz
                              omega)]
        exact ⟨rfl, rs, h.only hO2⟩
      have hz : ¬ signN (c :: r) = 0 := by
        intro e
        rw [e] at hz
        simp at hz
      rw [signR, if_neg hz, T_ext, List.drop_zero, Nat.sub_zero]
      have hn := signN_le (m := c :: r)
      refine (ret (v90w (T _) (fun v w' => v = .string (T ((c :: r).take (signN (c :: r)))) /\ Only [] w2 w') w2 ?_)).mono ?_
      · unfold v90v
        refine (Tryz.stringslite_Clone (T _) w2 (by rw [T_size, List.length_take]; omega)).mono ?_
        rintro _ w3 ⟨rfl, hw⟩
        exact ⟨_, rfl, rfl, Only.of_below hw⟩
      rintro _ w3 ⟨rfl, hO3⟩
      refine ⟨_, rfl, (add_c (h.only (hO2.tr0 hO3)) 4 _ 0 0 (signN (c :: r)) (by omega) ha).mono ?_⟩
      rintro _ w4 ⟨rfl, hO4, rs', hC⟩
      exact ⟨rfl, (hO2.tr0 hO3).trP hO4, rfl, rs', hC⟩
    · rintro _ w5 ⟨rfl, hO5⟩
      refine ⟨fun hs => ⟨by rw [signN, if_pos hs]; rfl, hO5⟩, fun hs => ⟨?_, hO5⟩⟩
      have e : signN (c :: r) = if shortL.contains c then 1 else 0 := by rw [signN, if_neg (by rw [hs]; decide)]
      rw [e]
      split <;> rfl
    · intro hc
      rw [T_size] at hc
      obtain ⟨d, r, rfl⟩ : ∃ d r', r = d :: r' := by
        cases r with
        | nil => simp at hc
        | cons d r => exact ⟨d, r, rfl⟩
      have g1 : (0 : Int) <= 1 /\ (T (c :: d :: r))[1]? = some d := ⟨by decide, by rw [T_get]; rfl⟩
      have ex : (T (c :: d :: r)).extract 0 2 = T [c, d] := by rw [T_ext]; rfl
      have sz : 2 <= (T (c :: d :: r)).size := by rw [T_size]; simp
      have lit : (ByteArray.mk #[45, 62]) = T [45, 62] := rfl
      have eqx : ((T [c, d]).toList == (T [45, 62]).toList) = (c == 45 && d == 62) := by
        rw [T_eq, Bool.eq_iff_iff]
        simp
      have e61 : ((d.toNat : Int) == 61) = (d == 61) := u8i (d := 61)
      have hs2 : sign2 (c :: d :: r) = ((d == 61 && [60, 62, 61, 33].contains c) || (d == c && [38, 124].contains c) || (c == 45 && d == 62)) := rfl
      rw [hs2]
      generalize hp1 : ([60, 62, 61, 33] : List UInt8).contains c = p1
      generalize hp2 : ([38, 124] : List UInt8).contains c = p2
      have lst : ((((T (c :: d :: r)).extract 0 2).toList) == ((ByteArray.mk #[45, 62]).toList)) = (c == 45 && d == 62) := by rw [ex, lit, eqx]
      refine ⟨d, g1, fun h61 => ⟨c, g0, fun w6 hO6 => ?_⟩, fun h61 => ⟨d, g1, c, g0, fun hdc => ⟨c, g0, fun w11 hO11 => ?_⟩, fun hdc => ⟨sz, fun w14 hO14 => ⟨?_, hO1.tr0 hO14⟩⟩⟩⟩
      · rw [e61] at h61
        obtain ⟨s, w7, k1, k2, k3, _⟩ := buildB w6 [60, 62, 61, 33] (n := 4) (parts := #[(0, .int .u8 60), (1, .int .u8 62), (2, .int .u8 61), (3, .int .u8 33)]) rfl rfl (by decide) (by decide)
        refine ⟨s, w7, k1, (one_c (flatB k2) c).mono ?_⟩
        rintro _ w8 ⟨rfl, hO8⟩
        have hO18 := hO1.tr0 (hO6.tr0 (k3.tr0 hO8))
        rw [hp1]
        refine ⟨_, rfl, fun hb => ⟨by rw [h61, hb]; rfl, hO18⟩, fun hb => ⟨d, g1, c, g0, fun hdc => ⟨c, g0, ?_⟩, fun hdc => ⟨sz, ?_, hO18⟩⟩⟩
        · rw [u8i] at hdc
          obtain ⟨s, w9, k1, k2, k3, _⟩ := buildB w8 [38, 124] (n := 2) (parts := #[(0, .int .u8 38), (1, .int .u8 124)]) rfl rfl (by decide) (by decide)
          refine ⟨s, w9, k1, (one_c (flatB k2) c).mono ?_⟩
          rintro _ w10 ⟨rfl, hO10⟩
          have hO := hO18.tr0 (k3.tr0 hO10)
          rw [hp2]
          exact ⟨_, rfl, fun hb2 => ⟨by rw [h61, hb, hdc, hb2]; rfl, hO⟩, fun hb2 => ⟨sz, by rw [lst, h61, hb, hdc, hb2]; rfl, hO⟩⟩
        · rw [u8i] at hdc
          rw [lst, h61, hb, hdc]; rfl
      · rw [e61] at h61
        rw [u8i] at hdc
        obtain ⟨s, w12, k1, k2, k3, _⟩ := buildB w11 [38, 124] (n := 2) (parts := #[(0, .int .u8 38), (1, .int .u8 124)]) rfl rfl (by decide) (by decide)
        refine ⟨s, w12, k1, (one_c (flatB k2) c).mono ?_⟩
        rintro _ w13 ⟨rfl, hO13⟩
        have hO := hO1.tr0 (hO11.tr0 (k3.tr0 hO13))
        rw [hp2]
        exact ⟨_, rfl, fun hb2 => ⟨by rw [h61, hdc, hb2]; rfl, hO⟩, fun hb2 => ⟨sz, by rw [lst, h61, hdc, hb2]; rfl, hO⟩⟩
      · rw [e61] at h61
        rw [u8i] at hdc
        rw [lst, h61, hdc]; rfl
    · intro hc w15 hO15
      rw [T_size] at hc
      have hr : r = [] := by
        cases r with
        | nil => rfl
        | cons d r => exact absurd (of_decide_eq_false hc) (by simp only [List.length_cons]; omega)
      subst hr
      exact ⟨rfl, hO1.tr0 hO15⟩
  · obtain ⟨s, w16, k1, k2, k3, k4⟩ := buildB w0 shortL (n := 17) (parts := #[(0, .int .u8 123), (1, .int .u8 125), (2, .int .u8 40), (3, .int .u8 41), (4, .int .u8 91), (5, .int .u8 93), (6, .int .u8 59), (7, .int .u8 44), (8, .int .u8 61), (9, .int .u8 43), (10, .int .u8 45), (11, .int .u8 42), (12, .int .u8 47), (13, .int .u8 37), (14, .int .u8 60), (15, .int .u8 62), (16, .int .u8 33)]) rfl rfl (by decide) (by decide)
    obtain ⟨w17, c1, c2, c3⟩ := conv_b k4 k2 (k2.blk k4).2
    have hO17 : Only [] w0 w17 := ((k3.p0 (F := fun k => w0.heap.size <= k)).trans c3 fun k hk => .inl (by omega)).only fun k hk => hk
    refine ⟨s, w16, k1, s, w17, c1, (one_c c2 c).mono ?_⟩
    rintro _ w18 ⟨rfl, hO18⟩
    have hO := hO0.tr0 (hO17.tr0 hO18)
    exact ⟨_, rfl, fun hb => ⟨by rw [if_pos hb], hO⟩, fun hb => ⟨by rw [hb]; rfl, hO⟩⟩
theorem Did.int {w' : World} {b : Nat} {l : List UInt8} {i : Nat} {acc : List Tk} {r : Except Int Tq} {v : Value} (h : Did w' b l i acc r v) : ∃ k : Int, v = .int .i64 k := by
 unfold Did at h
 split at h
 · exact ⟨_, h.1⟩
 · exact ⟨_, h.1⟩
theorem token_c {w : World} {b : Nat} {l : List UInt8} {i : Nat} {rs : Sl} {acc : List Tk} (h : Cut w b l i rs acc) (ha : acc.length <= 16384) (hne : i < l.length) :
  Calls Tryz.prog 73 #[.pointer (some ⟨b, 0, none⟩)] w fun e w' => ∃ v, e = .returned v /\ OnlyP (fun k => b <= k) w w' /\ Did w' b l i acc (tokR (l.drop i)) v := by
 refine v69w ⟨b, 0, none⟩ (fun v w' => OnlyP (fun k => b <= k) w w' /\ Did w' b l i acc (tokR (l.drop i)) v) w ?_
 unfold v69v
 obtain ⟨ws, hb, hw⟩ := h.blk
 have hx : l[i]? = some l[i] := List.getElem?_eq_getElem hne
 generalize l[i] = x at hx
 have ht : tokR (l.drop i) = if letterB x then wordR (l.drop i) else if digitB x then numR (l.drop i) else signR (l.drop i) := by
  rw [drop_cons hx]; rfl
 rw [ht]
 refine ⟨T l, Blk.at1 hb 0 rfl, i, Blk.at1 hb 1 rfl, x, ⟨Int.natCast_nonneg i, by rw [T_get, Int.toNat_natCast, hx]⟩, fun w0 hO0 => (letter_c w0 x).mono ?_⟩
 rintro _ w1 ⟨rfl, hO1⟩
 have hO01 := hO0.tr0 hO1
 refine ⟨_, rfl, fun hl => ?_, fun hl => (digit_c w1 x).mono ?_⟩
 · rw [if_pos hl]
   refine (word_c (h.only hO01) ha).mono ?_
   rintro _ w2 ⟨v, rfl, hO2, hd⟩
   obtain ⟨k, rfl⟩ := hd.int
   exact ⟨k, rfl, hO01.trP hO2, hd⟩
 rintro _ w3 ⟨rfl, hO3⟩
 have hO03 := hO01.tr0 hO3
 rw [if_neg (by rw [hl]; decide)]
 refine ⟨_, rfl, fun hd => ?_, fun hd => ?_⟩
 · rw [if_pos hd]
   refine (number_c (h.only hO03) ha).mono ?_
   rintro _ w2 ⟨v, rfl, hO2, hd⟩
   obtain ⟨k, rfl⟩ := hd.int
   exact ⟨k, rfl, hO03.trP hO2, hd⟩
 · rw [if_neg (by rw [hd]; decide)]
   refine (sign_c (h.only hO03) ha hne).mono ?_
   rintro _ w2 ⟨v, rfl, hO2, hd⟩
   obtain ⟨k, rfl⟩ := hd.int
   exact ⟨k, rfl, hO03.trP hO2, hd⟩
theorem tok_len {m : List UInt8} {q : Tq} (h : tokR m = .ok q) : 1 <= q.2.2.2 := by
 cases m with
 | nil => cases h
 | cons c r =>
  simp only [tokR] at h
  split at h
  · rename_i hc
    unfold wordR at h
    split at h
    · cases h
    · injection h with h
      subst h
      have : wordB c = true := by unfold wordB; rw [hc]; rfl
      dsimp only
      rw [List.takeWhile_cons, if_pos this, List.length_cons]
      omega
  · split at h
    · rename_i hc
      unfold numR at h
      split at h
      · cases h
      · split at h
        · cases h
        · rename_i h1 h2
          injection h with h
          subst h
          dsimp only
          rw [List.takeWhile_cons, if_pos (by unfold wordB; rw [hc, Bool.or_true]), List.length_cons] at h2
          omega
    · unfold signR at h
      split at h
      · cases h
      · injection h with h
        subst h
        dsimp only
        omega
theorem tok_err {m : List UInt8} {e : Int} (h : tokR m = .error e) : e ≠ 0 := by
 cases m with
 | nil => injection h with h; omega
 | cons c r =>
  simp only [tokR] at h
  split at h
  · unfold wordR at h
    split at h
    · injection h with h; omega
    · cases h
  · split at h
    · unfold numR at h
      split at h
      · injection h with h; omega
      · split at h
        · injection h with h; omega
        · cases h
    · unfold signR at h
      split at h
      · injection h with h; omega
      · cases h
def toksF (l : List UInt8) : Nat -> Nat -> Except (Int × Nat) (List Tk)
 | 0, _ => .ok []
 | f + 1, i =>
  if l.length <= i + skN false (l.drop i) then .ok [⟨5, [], 0, (i + skN false (l.drop i) : Nat)⟩]
  else match tokR (l.drop (i + skN false (l.drop i))) with
   | .error e => .error (e, i + skN false (l.drop i))
   | .ok q => match toksF l f (i + skN false (l.drop i) + q.2.2.2) with
    | .error x => .error x
    | .ok r => .ok (⟨q.1, q.2.1, q.2.2.1, (i + skN false (l.drop i) : Nat)⟩ :: r)
theorem parse_le {l : List UInt8} : (parseM l).2.1 <= l.length := by
 have := while_len (p := digitB) (l := l)
 unfold parseM
 split
 · exact Nat.zero_le _
 · split
   · exact Nat.zero_le _
   · split
     · exact this
     · exact Nat.zero_le _
theorem tok_le {m : List UInt8} {q : Tq} (h : tokR m = .ok q) : q.2.2.2 <= m.length := by
 cases m with
 | nil => cases h
 | cons c r =>
  simp only [tokR] at h
  split at h
  · unfold wordR at h
    split at h
    · cases h
    · injection h with h
      subst h
      exact while_len
  · split at h
    · unfold numR at h
      split at h
      · cases h
      · split at h
        · cases h
        · injection h with h
          subst h
          exact parse_le
    · unfold signR at h
      split at h
      · cases h
      · injection h with h
        subst h
        exact signN_le
theorem sk_in {l : List UInt8} {i : Nat} (hi : i <= l.length) : i + skN false (l.drop i) <= l.length := by
 have := skN_le (b := false) (l := l.drop i)
 rw [List.length_drop] at this
 omega
theorem toksF_eq (l : List UInt8) : ∀ (f g i : Nat), i <= l.length -> l.length < i + f -> l.length < i + g -> toksF l f i = toksF l g i
 | 0, _, i, hi, h, _ => by omega
 | _, 0, i, hi, _, h => by omega
 | f + 1, g + 1, i, hi, h1, h2 => by
  rw [toksF, toksF]
  split
  · rfl
  · split
    · rfl
    · rename_i q hq
      have h3 := tok_len hq
      have h4 := tok_le hq
      rw [List.length_drop] at h4
      rw [toksF_eq l f g _ (by omega) (by omega) (by omega)]
def toks (l : List UInt8) (i : Nat) : Except (Int × Nat) (List Tk) := toksF l (l.length + 1) i
theorem toks_step {l : List UInt8} {i : Nat} (hi : i <= l.length) : toks l i = if l.length <= i + skN false (l.drop i) then .ok [⟨5, [], 0, (i + skN false (l.drop i) : Nat)⟩]
  else match tokR (l.drop (i + skN false (l.drop i))) with
   | .error e => .error (e, i + skN false (l.drop i))
   | .ok q => match toks l (i + skN false (l.drop i) + q.2.2.2) with
    | .error x => .error x
    | .ok r => .ok (⟨q.1, q.2.1, q.2.2.1, (i + skN false (l.drop i) : Nat)⟩ :: r) := by
 unfold toks
 rw [toksF]
 split
 · rfl
 · split
   · rfl
   · rename_i q hq
     have h3 := tok_len hq
     have h4 := tok_le hq
     rw [List.length_drop] at h4
     rw [toksF_eq l l.length (l.length + 1) _ (by omega) (by omega) (by omega)]
def tokensM (l : List UInt8) : List Tk × Int × Int := if 16384 < l.length then ([], 2, -1) else match toks l 0 with
 | .error x => ([], x.1, (x.2 : Nat))
 | .ok r => (r, 0, 0)
def pre (acc : List Tk) : Except (Int × Nat) (List Tk) -> Except (Int × Nat) (List Tk)
 | .error x => .error x
 | .ok r => .ok (acc ++ r)
theorem sk_idem (b : Bool) : ∀ (l : List UInt8), skN false (l.drop (skN b l)) = 0
 | [] => by simp [skN]
 | c :: r => by
  cases b with
  | true =>
   rw [skN, Nat.add_comm, List.drop_succ_cons]
   exact sk_idem _ r
  | false =>
   rw [skN]
   split
   · rw [Nat.add_comm, List.drop_succ_cons]
     exact sk_idem _ r
   · split
     · rw [Nat.add_comm, List.drop_succ_cons]
       exact sk_idem _ r
     · rename_i h1 h2
       rw [List.drop_zero, skN, if_neg h1, if_neg h2]
theorem toks_skip {l : List UInt8} {i : Nat} (hi : i <= l.length) : toks l i = toks l (i + skN false (l.drop i)) := by
 have h1 := sk_in hi
 have h2 : skN false (l.drop (i + skN false (l.drop i))) = 0 := by
  rw [<- List.drop_drop]
  exact sk_idem false (l.drop i)
 rw [toks_step hi, toks_step h1, h2, Nat.add_zero]
theorem pre_pre {a b : List Tk} {x : Except (Int × Nat) (List Tk)} : pre a (pre b x) = pre (a ++ b) x := by
 cases x with
 | error _ => rfl
 | ok r => simp [pre]
theorem tokens_c {w : World} (l : List UInt8) (hE : Er w) :
  Calls Tryz.prog 37 #[.string (T l)] w fun e w' => ∃ rs : Sl, e = .returned (.tuple #[rs.v, .agg #[.int .i64 (tokensM l).2.1, .int .i64 (tokensM l).2.2]]) /\ OwnK w.heap.size w' rs (tokensM l).1 /\ Only [] w w' := by
 refine (v60w (T l) (fun v w' => ∃ rs : Sl, v = (.tuple #[rs.v, .agg #[.int .i64 (tokensM l).2.1, .int .i64 (tokensM l).2.2]]) /\ OwnK w.heap.size w' rs (tokensM l).1 /\ Only [] w w') w ?_).mono (by
  rintro e w' ⟨v, rfl, rs, rfl, h⟩; exact ⟨rs, rfl, h⟩)
 unfold v60v
 rw [T_size]
 refine ⟨fun hc k0 w0 _ _ hO => ⟨Sl.nil, ?_, ?_, hO⟩, fun hc k1 w1 hk1 hk1' hO1 => (words_c w1).mono ?_⟩
 · rw [tokensM, if_pos (by have := of_decide_eq_true hc; omega)]
 · rw [tokensM, if_pos (by have := of_decide_eq_true hc; omega)]
   exact Own.nil _ _ _ _ _ _
 have hll : l.length <= 16384 := by have := of_decide_eq_false hc; omega
 have htm : tokensM l = match toks l 0 with
  | .error x => ([], x.1, (x.2 : Nat))
  | .ok r => (r, 0, 0) := by rw [tokensM, if_neg (by omega)]
 rintro _ w2 ⟨ws, rfl, hws, hO2⟩
 refine ⟨ws, rfl, hO2.same (by simp; omega), fun b w3 hb hb' hO3 hblk => ?_⟩
 have hO13 := hO1.tr0 (hO2.tr0 hO3)
 have z1 := hO1.size
 have z2 := hO2.size
 have z3 := hO3.size
 have hC0 : Cut w3 b l 0 Sl.nil [] := ⟨⟨ws, hblk, (SliceF.only rTx_ok (by decide) ((flatS hws).inHeap rTx_ok (by decide)) hO3 (by simp)).mono rTx_ok fun k hk => by omega⟩, Own.nil _ _ _ _ _ _, hE.only hO13, by have := hE.lt; omega, Nat.zero_le _, hll⟩
 have sm : ∀ {u u' : World}, w2.heap.size <= u.heap.size -> OnlyP (fun k => b <= k) u u' -> Same [k1] u u' := fun hu hO => hO.same (by intro x hx; simp only [List.mem_singleton] at hx; subst hx; omega)
 refine (skip_c hblk (Nat.zero_le _) (by omega)).mono ?_
 rintro _ w4 ⟨rfl, hO4, hb4⟩
 have p4 : OnlyP (fun k => b <= k) w3 w4 := hO4.p fun x hx => .inl (by simp only [List.mem_singleton] at hx; omega)
 have hC4 : Cut w4 b l (0 + skN false (l.drop 0)) Sl.nil [] := hC0.move hO4 (sk_in (Nat.zero_le _)) fun ws' h' => by
  have : ws' = ws := by
   unfold Blk at h' hblk
   rw [h'] at hblk
   simp [Sl.v] at hblk
   cases ws; cases ws'; simp_all
  subst this
  exact hb4
 refine ⟨rfl, sm (by omega) p4, T l, _, ws, Sl.nil, hb4, fun nv e1 e2 s0 i0 l1 l2 w' => e1 = 0 /\ e2 = 0 /\ s0 = T l /\ ∃ (i : Nat) (acc : List Tk), i0 = (i : Int) /\ Cut w' b l i l2 acc /\ acc.length <= i /\ skN false (l.drop i) = 0 /\ toks l 0 = pre acc (toks l i) /\ nv = l.length - i /\ OnlyP (fun k => b <= k) w3 w' /\ Blk w' b 129 [.string (T l), .int .i64 (i : Int), l1.v, l2.v], l.length - (0 + skN false (l.drop 0)), ?_, ?_⟩
 · refine ⟨rfl, rfl, rfl, _, [], rfl, hC4, Nat.zero_le _, ?_, ?_, rfl, p4, hb4⟩
   · rw [<- List.drop_drop]
     exact sk_idem false (l.drop 0)
   · rw [<- toks_skip (Nat.zero_le _)]
     cases toks l 0 <;> rfl
 rintro nv _ _ _ _ l1 rs w5 ⟨rfl, rfl, rfl, i, acc, rfl, hC, hlen, hsk, htk, rfl, hO5, hb5⟩
 have z5 := hO5.size
 have hil := hC.il
 refine (end_c hb5).mono ?_
 rintro _ w6 ⟨rfl, hO6⟩
 have hC6 := hC.only hO6
 have hb6 : Blk w6 b 129 [.string (T l), .int .i64 (i : Int), l1.v, rs.v] := (hO6.block b hb5.lt (by simp)).trans hb5
 have z6 := hO6.size
 have hst := toks_step hC.il
 rw [hsk, Nat.add_zero] at hst
 refine ⟨_, rfl, hO6.same (by simp; omega), T l, i, l1, rs, hb6, fun hc => ?_, fun hc => ?_⟩
 · have hlt : i < l.length := by simpa using hc
   rw [if_neg (by omega)] at hst
   refine (token_c hC6 (by omega) hlt).mono ?_
   rintro _ w7 ⟨v, rfl, hO7, hd⟩
   have p7 : OnlyP (fun k => b <= k) w3 w7 := (hO5.tr0 hO6).trans hO7 fun k hk => .inl hk
   have z7 := hO7.size
   unfold Did at hd
   cases hq : tokR (l.drop i) with
   | error e =>
    rw [hq] at hd hst
    obtain ⟨rfl, rs7, hC7⟩ := hd
    obtain ⟨ws7, hb7, _⟩ := hC7.blk
    refine ⟨e, rfl, sm (by omega) hO7, T l, i, ws7, rs7, hb7, fun _ w8 hO8 _ => ⟨Sl.nil, ?_, ?_, ?_⟩, fun he => absurd (tok_err hq) (by simpa using he)⟩
    · rw [htm, htk, hst]; rfl
    · rw [htm, htk, hst]
      exact Own.nil _ _ _ _ _ _
    · exact (((hO13.p0 (F := fun k => w.heap.size <= k)).trans p7 fun k hk => .inl (by omega)).trans (hO8.p (F := fun k => k = k1) fun x hx => .inl (by simpa using hx)) fun k hk => .inl (by omega)).only fun k hk => hk
   | ok q =>
    rw [hq] at hd hst
    obtain ⟨rfl, rs7, hC7⟩ := hd
    obtain ⟨ws7, hb7, _⟩ := hC7.blk
    have hq1 := tok_len hq
    have h7l := hC7.il
    refine ⟨0, rfl, sm (by omega) hO7, T l, (i + q.2.2.2 : Nat), ws7, rs7, hb7, fun he => (by simp at he), fun _ => (skip_c hb7 h7l (by omega)).mono ?_⟩
    rintro _ w9 ⟨rfl, hO9, hb9⟩
    have p9 : OnlyP (fun k => b <= k) w7 w9 := hO9.p fun x hx => .inl (by simp only [List.mem_singleton] at hx; omega)
    have hC9 := hC7.move hO9 (sk_in h7l) fun ws' h' => by
     have : ws' = ws7 := by
      unfold Blk at h' hb7
      rw [h'] at hb7
      simp [Sl.v] at hb7
      cases ws7; cases ws'; simp_all
     subst this
     exact hb9
    refine ⟨rfl, sm (by omega) p9, T l, _, ws7, rs7, hb9, l.length - (i + q.2.2.2 + skN false (l.drop (i + q.2.2.2))), by omega, rfl, rfl, rfl, _, _, rfl, hC9, ?_, ?_, ?_, rfl, p7.trans p9 fun k hk => .inl hk, hb9⟩
    · rw [List.length_append, List.length_singleton]; omega
    · rw [<- List.drop_drop]
      exact sk_idem false _
    · rw [htk, hst, <- toks_skip h7l, <- pre_pre]
      dsimp only
      cases toks l (i + q.2.2.2) <;> rfl
 · have hge : l.length <= i := by simpa using hc
   rw [if_pos hge] at hst
   refine (add_c hC6 5 [] 0 0 0 (by omega) (by omega)).mono ?_
   rintro _ w10 ⟨rfl, hO10, rs10, hC10⟩
   obtain ⟨ws10, hb10, _⟩ := hC10.blk
   have p10 : OnlyP (fun k => b <= k) w3 w10 := (hO5.tr0 hO6).trans hO10 fun k hk => .inl hk
   have htt : tokensM l = (acc ++ [⟨5, [], 0, (i : Nat)⟩], 0, 0) := by
    rw [htm, htk, hst]; rfl
   refine ⟨rfl, sm (by omega) hO10, T l, _, ws10, rs10, hb10, fun w11 hO11 _ => ⟨rs10, ?_, ?_, ?_⟩⟩
   · rw [htt]
   · rw [htt]
     have : OwnK (b + 1) w11 rs10 _ := hC10.own.keep fun k hk hlt => hO11.block k hlt (by simp only [List.mem_singleton]; omega)
     exact Own.low this (by omega)
   · exact (((hO13.p0 (F := fun k => w.heap.size <= k)).trans p10 fun k hk => .inl (by omega)).trans (hO11.p (F := fun k => k = k1) fun x hx => .inl (by simpa using hx)) fun k hk => .inl (by omega)).only fun k hk => hk
end Go.Proofs.YtndkfaaeeojeiaaGreatDoor.Con
namespace Go.Proofs.YtndkfaaeeojeiaaGreatDoor.Con
open Go Go.RowKit Go.Kt Go.Kt.V
set_option linter.unusedSimpArgs false
set_option linter.unusedVariables false
set_option maxHeartbeats 4000000
inductive Ex where
 | mk (k n : Int) (s : List UInt8) (op : Int) (subs : List Ex) (a : Int)
def Ex.k : Ex -> Int | .mk k _ _ _ _ _ => k
def Ex.n : Ex -> Int | .mk _ n _ _ _ _ => n
def Ex.s : Ex -> List UInt8 | .mk _ _ s _ _ _ => s
def Ex.op : Ex -> Int | .mk _ _ _ op _ _ => op
def Ex.subs : Ex -> List Ex | .mk _ _ _ _ l _ => l
def Ex.a : Ex -> Int | .mk _ _ _ _ _ a => a
def tk0 : Tk := ⟨5, [], 0, -1⟩
def tk (ts : List Tk) (i : Nat) : Tk := (ts[i]?).getD tk0
def sg (ts : List Tk) (i : Nat) (s : List UInt8) : Bool := (tk ts i).k == 4 && decide ((tk ts i).t = s)
def wrongF (ts : List Tk) (i : Nat) : Int × Int := (if (tk ts i).k = 5 then 3 else 4, (tk ts i).a)
theorem tk_at {ts : List Tk} {i : Nat} (h : i < ts.length) : ts[i]? = some (tk ts i) := by
 unfold tk
 rw [List.getElem?_eq_getElem h]
 rfl
def EndL (ts : List Tk) : Prop := ∀ i, i < ts.length -> ((tk ts i).k = 5 ↔ i + 1 = ts.length)
theorem EndL.next {ts : List Tk} (h : EndL ts) {i : Nat} (hi : i < ts.length) (hk : (tk ts i).k ≠ 5) : i + 1 < ts.length := by
 have h2 : ¬ (i + 1 = ts.length) := fun e => hk ((h i hi).2 e)
 omega
theorem sg_k {ts : List Tk} {i : Nat} {s : List UInt8} (h : sg ts i s = true) : (tk ts i).k ≠ 5 := by
 simp only [sg, Bool.and_eq_true, beq_iff_eq] at h
 rw [h.1]
 decide
def opsL : List (List UInt8) := [[], [43], [45], [42], [47], [37], [60], [60, 61], [62], [62, 61], [61, 61], [33, 61], [38, 38], [124, 124], [45], [33]]
def rowOf (op : Int) : Int := if 3 <= op /\ op <= 5 then 5 else if op = 1 ∨ op = 2 then 4 else if 6 <= op /\ op <= 9 then 3 else if op = 10 ∨ op = 11 then 2 else if op = 12 then 1 else if op = 13 then 0 else 6
def opTx (op : Nat) : List UInt8 := (opsL[op]?).getD []
def opFrom (ts : List Tk) (k : Int) (i : Nat) : Nat -> Nat -> Int
 | 0, _ => 0
 | f + 1, op => if rowOf (op : Int) = k /\ sg ts i (opTx op) = true then (op : Int) else opFrom ts k i f (op + 1)
def opAt (ts : List Tk) (k : Int) (i : Nat) : Int := opFrom ts k i 13 1
theorem opFrom_sg {ts : List Tk} {k : Int} {i : Nat} : ∀ (f op : Nat), opFrom ts k i f op ≠ 0 -> (tk ts i).k ≠ 5
 | 0, _, h => absurd rfl h
 | f + 1, op, h => by
  rw [opFrom] at h
  split at h
  · rename_i hc
    exact sg_k hc.2
  · exact opFrom_sg f _ h
abbrev Pr := Except (Int × Int) (Ex × Nat)
def mapR (g : Ex -> Ex) : Pr -> Pr
 | .error e => .error e
 | .ok (x, j) => .ok (g x, j)
def andR : Pr -> (Ex -> Nat -> Pr) -> Pr
 | .error e, _ => .error e
 | .ok (x, j), g => g x j
def parR (ts : List Tk) : Pr -> Pr
 | .error e => .error e
 | .ok (x, j) => if sg ts j [41] then .ok (x, j + 1) else .error (wrongF ts j)
def nestR (d : Nat) (a : Int) (r : Pr) : Pr := if d = 20 then .error (21, a) else r
def inR (ts : List Tk) (i : Nat) : Pr :=
 if sg ts (i + 1) [40] then
  (if (tk ts (i + 2)).k = 1 then
   (if sg ts (i + 3) [41] then .ok (.mk 3 0 (tk ts (i + 2)).t 0 [] (tk ts i).a, i + 4) else .error (wrongF ts (i + 3)))
  else .error (wrongF ts (i + 2)))
 else .error (wrongF ts (i + 1))
def oneR (ts : List Tk) (E0 One : Nat -> Pr) (d i : Nat) : Pr :=
 if (sg ts i [45] || sg ts i [33]) = true then mapR (fun x => .mk 4 0 [] (if (tk ts i).t = [33] then 15 else 14) [x] (tk ts i).a) (nestR d (tk ts i).a (One (i + 1)))
 else if sg ts i [40] = true then nestR d (tk ts i).a (parR ts (E0 (i + 1)))
 else if (tk ts i).k = 3 then .ok (.mk 1 (tk ts i).n [] 0 [] (tk ts i).a, i + 1)
 else if (tk ts i).k = 1 then .ok (.mk 2 0 (tk ts i).t 0 [] (tk ts i).a, i + 1)
 else if (tk ts i).k = 2 /\ (tk ts i).t = [105, 110] then inR ts i
 else .error (wrongF ts i)
def loopR (ts : List Tk) (E : Nat -> Pr) (k : Int) : Nat -> Ex -> Nat -> Pr
 | 0, x, j => .ok (x, j)
 | g + 1, x, j => if opAt ts k j = 0 then .ok (x, j) else andR (E (j + 1)) fun y j' => loopR ts E k g (.mk 5 0 [] (opAt ts k j) [x, y] x.a) j'
def exprR (ts : List Tk) : Nat -> Nat -> Nat -> Nat -> Pr
 | 0, _, _, _ => .error (1, 0)
 | f + 1, k, d, i => if k = 6 then oneR ts (exprR ts f 0 (d + 1)) (exprR ts f 6 (d + 1)) d i else andR (exprR ts f (k + 1) d i) fun x j => loopR ts (exprR ts f (k + 1) d) (k : Int) (ts.length - j) x j
theorem mapR_ok {g : Ex -> Ex} {r : Pr} {x : Ex} {j : Nat} (h : mapR g r = .ok (x, j)) : ∃ y, r = .ok (y, j) /\ x = g y := by
 cases r with
 | error e => cases h
 | ok q =>
  obtain ⟨y, j'⟩ := q
  simp only [mapR, Except.ok.injEq, Prod.mk.injEq] at h
  obtain ⟨rfl, rfl⟩ := h
  exact ⟨y, rfl, rfl⟩
theorem nestR_ok {d : Nat} {a : Int} {r : Pr} {q : Ex × Nat} (h : nestR d a r = .ok q) : r = .ok q /\ d ≠ 20 := by
 unfold nestR at h
 split at h
 · cases h
 · exact ⟨h, by assumption⟩
theorem parR_ok {ts : List Tk} {r : Pr} {x : Ex} {j : Nat} (h : parR ts r = .ok (x, j)) : ∃ j', r = .ok (x, j') /\ sg ts j' [41] = true /\ j = j' + 1 := by
 cases r with
 | error e => cases h
 | ok q =>
  obtain ⟨y, j'⟩ := q
  simp only [parR] at h
  split at h
  · simp only [Except.ok.injEq, Prod.mk.injEq] at h
    obtain ⟨rfl, rfl⟩ := h
    exact ⟨j', rfl, by assumption, rfl⟩
  · cases h
theorem andR_ok {r : Pr} {g : Ex -> Nat -> Pr} {q : Ex × Nat} (h : andR r g = .ok q) : ∃ x j, r = .ok (x, j) /\ g x j = .ok q := by
 cases r with
 | error e => cases h
 | ok p => exact ⟨p.1, p.2, rfl, h⟩
theorem inR_ok {ts : List Tk} {i : Nat} {x : Ex} {j : Nat} (h : inR ts i = .ok (x, j)) : j = i + 4 /\ x = .mk 3 0 (tk ts (i + 2)).t 0 [] (tk ts i).a := by
 unfold inR at h
 split at h
 · split at h
   · split at h
     · simp only [Except.ok.injEq, Prod.mk.injEq] at h
       exact ⟨h.2.symm, h.1.symm⟩
     · cases h
   · cases h
 · cases h
theorem oneR_mono {ts : List Tk} {E0 One : Nat -> Pr} {d i : Nat} {x : Ex} {j : Nat} (hE : ∀ i x j, E0 i = .ok (x, j) -> i < j) (hO : ∀ i x j, One i = .ok (x, j) -> i < j) (h : oneR ts E0 One d i = .ok (x, j)) : i < j := by
 unfold oneR at h
 split at h
 · obtain ⟨y, h1, _⟩ := mapR_ok h
   have := hO _ _ _ (nestR_ok h1).1
   omega
 · split at h
   · obtain ⟨j', h1, _, rfl⟩ := parR_ok (nestR_ok h).1
     have := hE _ _ _ h1
     omega
   · split at h
     · simp only [Except.ok.injEq, Prod.mk.injEq] at h; omega
     · split at h
       · simp only [Except.ok.injEq, Prod.mk.injEq] at h; omega
       · split at h
         · have := (inR_ok h).1; omega
         · cases h
theorem loopR_mono {ts : List Tk} {E : Nat -> Pr} {k : Int} (hE : ∀ i x j, E i = .ok (x, j) -> i < j) : ∀ (g : Nat) (x : Ex) (j : Nat) {x' : Ex} {j' : Nat}, loopR ts E k g x j = .ok (x', j') -> j <= j'
 | 0, x, j, x', j', h => by
  simp only [loopR, Except.ok.injEq, Prod.mk.injEq] at h; omega
 | g + 1, x, j, x', j', h => by
  rw [loopR] at h
  split at h
  · simp only [Except.ok.injEq, Prod.mk.injEq] at h; omega
  · obtain ⟨y, m, h1, h2⟩ := andR_ok h
    have := hE _ _ _ h1
    have := loopR_mono hE g _ _ h2
    omega
theorem exprR_mono {ts : List Tk} : ∀ (f k d i : Nat) {x : Ex} {j : Nat}, exprR ts f k d i = .ok (x, j) -> i < j
 | 0, _, _, _, _, _, h => by cases h
 | f + 1, k, d, i, x, j, h => by
  rw [exprR] at h
  split at h
  · exact oneR_mono (fun i x j h => exprR_mono f _ _ i h) (fun i x j h => exprR_mono f _ _ i h) h
  · obtain ⟨y, m, h1, h2⟩ := andR_ok h
    have := exprR_mono f _ _ _ h1
    have := loopR_mono (fun i x j h => exprR_mono f _ _ i h) _ _ _ h2
    omega
def need (k d : Nat) : Nat := (20 - d) * 8 + (7 - k)
def parseR (ts : List Tk) (i : Nat) : Pr := exprR ts (need 0 0) 0 0 i
end Go.Proofs.YtndkfaaeeojeiaaGreatDoor.Con
namespace Go.Proofs.YtndkfaaeeojeiaaGreatDoor.Con
open Go Go.RowKit Go.Kt Go.Kt.V Go.Proofs.YtndkfaaeeojeiaaGreatDoor.Vc
set_option linter.unusedSimpArgs false
set_option linter.unusedVariables false
set_option maxHeartbeats 4000000
structure Rd (F G : Nat -> Prop) (ts : List Tk) (w : World) (b : Nat) (l sn : Sl) (i : Nat) (fc fa d : Int) : Prop where
 blk : Blk w b 259 [l.v, .int .i64 (i : Int), .int .i64 fc, .int .i64 fa, .int .i64 d, sn.v]
 tok : SliceF rTk 4 w F l ts
 sig : SliceF rTx 1 w G sn opsL
 hF : ∀ k, F k -> k < b
 hG : ∀ k, G k -> k < b
 en : EndL ts
 lt : i < ts.length
section
variable {F G : Nat -> Prop} {ts : List Tk} {w w' : World} {b : Nat} {l sn : Sl} {i : Nat} {fc fa d : Int}
theorem Rd.only (h : Rd F G ts w b l sn i fc fa d) (hO : Only [] w w') : Rd F G ts w' b l sn i fc fa d :=
 ⟨hO.blk h.blk (by simp), SliceF.only rTk_ok (by decide) h.tok hO (by simp), SliceF.only rTx_ok (by decide) h.sig hO (by simp), h.hF, h.hG, h.en, h.lt⟩
theorem Rd.turn (h : Rd F G ts w b l sn i fc fa d) (hO : Only [b] w w') {i' : Nat} {fc' fa' d' : Int} (hB : Blk w' b 259 [l.v, .int .i64 (i' : Int), .int .i64 fc', .int .i64 fa', .int .i64 d', sn.v]) (hi : i' < ts.length) : Rd F G ts w' b l sn i' fc' fa' d' :=
 ⟨hB, SliceF.only rTk_ok (by decide) h.tok hO fun k hk _ hm => by have := h.hF k hk; simp only [List.mem_singleton] at hm; omega, SliceF.only rTx_ok (by decide) h.sig hO fun k hk _ hm => by have := h.hG k hk; simp only [List.mem_singleton] at hm; omega, h.hF, h.hG, h.en, hi⟩
theorem Rd.own (h : Rd F G ts w b l sn i fc fa d) {bs : List Nat} (hO : Only bs w w') (hb : ∀ x, x ∈ bs -> b < x) : Rd F G ts w' b l sn i fc fa d :=
 ⟨hO.blk h.blk fun hm => by have := hb b hm; omega, SliceF.only rTk_ok (by decide) h.tok hO fun k hk _ hm => (by have := h.hF k hk; have := hb k hm; omega), SliceF.only rTx_ok (by decide) h.sig hO fun k hk _ hm => (by have := h.hG k hk; have := hb k hm; omega), h.hF, h.hG, h.en, h.lt⟩
theorem Rd.lb (h : Rd F G ts w b l sn i fc fa d) : b < w.heap.size := h.blk.lt
theorem Rd.big (h : Rd F G ts w b l sn i fc fa d) : ts.length <= 9223372036854775807 := by
 have h1 := h.tok.len
 have h2 := h.tok.cap
 have h3 := h.tok.big
 omega
theorem Rd.now (h : Rd F G ts w b l sn i fc fa d) : ∃ ad, SlAt l (i : Int) 4 ad /\ Cells w ad [.int .i64 (tk ts i).k, .string (T (tk ts i).t), .int .i64 (tk ts i).n, .int .i64 (tk ts i).a] := by
 have hl := h.tok.len
 have hlt := h.lt
 obtain ⟨ad, x, cs, g1, g2, g3, g4, g5, g6⟩ := h.tok.get (Int.natCast_nonneg i) (by omega)
 rw [Int.toNat_natCast, tk_at h.lt] at g2
 injection g2 with g2
 subst g2
 unfold rTk at g6
 subst g6
 exact ⟨ad, g1, g5⟩
theorem now_c (h : Rd F G ts w b l sn i fc fa d) : Calls Tryz.prog 233 #[.pointer (some ⟨b, 0, none⟩)] w fun e w' => e = .returned (tk ts i).v /\ Only [] w w' := by
 refine ret (v10w ⟨b, 0, none⟩ (fun v w' => v = (tk ts i).v /\ Only [] w w') w ?_)
 unfold v10v
 intro k0 w0 hk hk' hO
 have h0 := h.only hO
 obtain ⟨ad, g1, g2⟩ := h0.now
 exact ⟨l, Blk.at1 h0.blk 0 rfl, _, Blk.at1 h0.blk 1 rfl, ad, g1, _, _, _, _, g2, fun w1 hO1 => ⟨rfl, hO.new hO1 hk⟩⟩
theorem bad_c (h : Rd F G ts w b l sn i fc fa d) : Calls Tryz.prog 210 #[.pointer (some ⟨b, 0, none⟩)] w fun e w' => e = .returned (.bool (fc != 0)) /\ Only [] w w' := by
 refine ret (v7w ⟨b, 0, none⟩ (fun v w' => v = (.bool (fc != 0)) /\ Only [] w w') w ?_)
 unfold v7v
 exact ⟨fc, Blk.at1 h.blk 2 rfl, rfl, Only.refl _ _⟩
theorem stop_c (h : Rd F G ts w b l sn i fc fa d) (c : Int) : Calls Tryz.prog 245 #[.pointer (some ⟨b, 0, none⟩), .int .i64 c] w fun e w' => e = .returned (.tuple #[]) /\ Only [b] w w' /\
  Rd F G ts w' b l sn i (if fc = 0 then c else fc) (if fc = 0 then (tk ts i).a else fa) d := by
 refine ret (v11w ⟨b, 0, none⟩ c (fun v w' => v = (.tuple #[]) /\ Only [b] w w' /\ Rd F G ts w' b l sn i (if fc = 0 then c else fc) (if fc = 0 then (tk ts i).a else fa) d) w ?_)
 unfold v11v
 refine (bad_c h).mono ?_
 rintro _ w0 ⟨rfl, hO0⟩
 have h0 := h.only hO0
 refine ⟨_, rfl, fun hc => (now_c h0).mono ?_, fun hc => ?_⟩
 · have hc : fc = 0 := by simpa using hc
   subst hc
   rintro _ w1 ⟨rfl, hO1⟩
   have h1 := h0.only hO1
   refine ⟨_, _, _, _, rfl, b, 2, _, _, rfl, h1.blk, by simp, fun w2 hO2 hB2 => ⟨rfl, (hO0.tr0 hO1).weaken (fun _ h => (by cases h)) |>.trans hO2 (fun x hx => .inl hx), ?_⟩⟩
   rw [if_pos rfl, if_pos rfl]
   exact h1.turn hO2 hB2 h.lt
 · have hc : fc ≠ 0 := by simpa using hc
   rw [if_neg hc, if_neg hc]
   exact ⟨rfl, hO0.weaken fun _ h => (by cases h), h0⟩
theorem wrong_c (h : Rd F G ts w b l sn i fc fa d) : Calls Tryz.prog 239 #[.pointer (some ⟨b, 0, none⟩)] w fun e w' => e = .returned (.tuple #[]) /\ Only [b] w w' /\
  Rd F G ts w' b l sn i (if fc = 0 then (wrongF ts i).1 else fc) (if fc = 0 then (wrongF ts i).2 else fa) d := by
 refine ret (v12w ⟨b, 0, none⟩ (fun v w' => v = (.tuple #[]) /\ Only [b] w w' /\ Rd F G ts w' b l sn i (if fc = 0 then (wrongF ts i).1 else fc) (if fc = 0 then (wrongF ts i).2 else fa) d) w ?_)
 unfold v12v
 refine ⟨fun w' => Only [b] w w' /\ ((tk ts i).k = 5 -> Rd F G ts w' b l sn i (if fc = 0 then 3 else fc) (if fc = 0 then (tk ts i).a else fa) d) /\ ((tk ts i).k ≠ 5 -> Rd F G ts w' b l sn i fc fa d), ?_, (now_c h).mono ?_⟩
 · rintro w0 ⟨hO0, h1, h2⟩
   by_cases hk : (tk ts i).k = 5
   · refine (stop_c (h1 hk) 4).mono ?_
     rintro _ w1 ⟨rfl, hO1, hR⟩
     refine ⟨rfl, rfl, hO0.trans hO1 (fun x hx => .inl hx), ?_⟩
     unfold wrongF
     rw [if_pos hk]
     by_cases hc : fc = 0
     · rw [if_pos hc, if_pos hc, if_neg (by decide), if_neg (by decide)] at hR
       rw [if_pos hc, if_pos hc]; exact hR
     · rw [if_neg hc, if_neg hc, if_neg hc, if_neg hc] at hR
       rw [if_neg hc, if_neg hc]; exact hR
   · refine (stop_c (h2 hk) 4).mono ?_
     rintro _ w1 ⟨rfl, hO1, hR⟩
     refine ⟨rfl, rfl, hO0.trans hO1 (fun x hx => .inl hx), ?_⟩
     unfold wrongF
     rw [if_neg hk]
     exact hR
 · rintro _ w2 ⟨rfl, hO2⟩
   have h2 := h.only hO2
   refine ⟨_, _, _, _, rfl, fun hc => (stop_c h2 3).mono ?_, fun hc => ⟨hO2.weaken fun _ h => (by cases h), fun e => ?_, fun _ => h2⟩⟩
   · rintro _ w3 ⟨rfl, hO3, hR⟩
     exact ⟨rfl, hO2.weaken (fun _ h => (by cases h)) |>.trans hO3 (fun x hx => .inl hx), fun _ => hR, fun e => absurd (by simpa using hc) e⟩
   · rw [e] at hc; simp at hc
theorem is_c (h : Rd F G ts w b l sn i fc fa d) {H : Nat -> Prop} {s : Sl} {ss : List (List UInt8)} (hs : SliceF rTx 1 w H s ss) : Calls Tryz.prog 234 #[.pointer (some ⟨b, 0, none⟩), s.v] w fun e w' =>
  e = .returned (.bool (fc == 0 && (tk ts i).k == 4 && ss.contains (tk ts i).t)) /\ Only [] w w' := by
 refine ret (v8w ⟨b, 0, none⟩ s (fun v w' => v = (.bool (fc == 0 && (tk ts i).k == 4 && ss.contains (tk ts i).t)) /\ Only [] w w') w ?_)
 unfold v8v
 refine (now_c h).mono ?_
 rintro _ w0 ⟨rfl, hO0⟩
 refine ⟨_, _, _, _, rfl, fun k0 w1 hk hk' hO1 => ⟨fun c w' => c = (fc == 0 && (tk ts i).k == 4 && ss.contains (tk ts i).t) /\ Only [] w w', fun c w2 h2 => ⟨by rw [h2.1], h2.2⟩, ?_⟩⟩
 have hO01 := hO0.tr0 hO1
 refine (bad_c (h.only hO01)).mono ?_
 rintro _ w3 ⟨rfl, hO3⟩
 have e : (!(fc != 0)) = (fc == 0) := by cases h : (fc == 0) <;> simp [bne, h]
 refine ⟨_, rfl, hO3.same (by simp; omega), fun hc => (containsS_c (SliceF.only rTx_ok (by decide) hs (hO01.tr0 hO3) (by simp)) _).mono ?_, fun hc => ⟨?_, hO01.tr0 hO3⟩⟩
 · rintro _ w4 ⟨rfl, hO4⟩
   rw [e] at hc
   have hl := h.lb
   have z3 := hO3.size
   exact ⟨_, rfl, hO4.same (by simp; omega), by rw [hc, Bool.true_and], hO01.tr0 (hO3.tr0 hO4)⟩
 · rw [e] at hc
   rw [hc, Bool.false_and]
theorem is1 (h : Rd F G ts w b l sn i fc fa d) (s : List UInt8) : ∃ (s0 : Sl) (w0 : World), (Instr.buildSlice 57 1 #[.mk 0 (.string (T s))]).run Tryz.prog w = .ok s0.v w0 /\ Only [] w w0 /\
  Calls Tryz.prog 234 #[.pointer (some ⟨b, 0, none⟩), s0.v] w0 fun e w' => e = .returned (.bool (fc == 0 && sg ts i s)) /\ Only [] w0 w' := by
 obtain ⟨s0, w0, k1, k2, k3⟩ := buildS w [s] (n := 1) (parts := #[(0, .string (T s))]) rfl rfl (by decide) (by decide)
 refine ⟨s0, w0, k1, k3, (is_c (h.only k3) (flatS k2)).mono ?_⟩
 rintro _ w1 ⟨rfl, hO1⟩
 have e : [s].contains (tk ts i).t = decide ((tk ts i).t = s) := by
  by_cases e : (tk ts i).t = s
  · rw [decide_eq_true e, e]; simp
  · rw [decide_eq_false e]; simp [e]
 refine ⟨?_, hO1⟩
 unfold sg
 rw [Bool.and_assoc, e]
theorem is2 (h : Rd F G ts w b l sn i fc fa d) : ∃ (s0 : Sl) (w0 : World), (Instr.buildSlice 57 2 #[.mk 0 (.string (ByteArray.mk #[45])), .mk 1 (.string (ByteArray.mk #[33]))]).run Tryz.prog w = .ok s0.v w0 /\ Only [] w w0 /\
  Calls Tryz.prog 234 #[.pointer (some ⟨b, 0, none⟩), s0.v] w0 fun e w' => e = .returned (.bool (fc == 0 && (sg ts i [45] || sg ts i [33]))) /\ Only [] w0 w' := by
 obtain ⟨s0, w0, k1, k2, k3⟩ := buildS w [[45], [33]] (n := 2) (parts := #[(0, .string (T [45])), (1, .string (T [33]))]) rfl rfl (by decide) (by decide)
 refine ⟨s0, w0, k1, k3, (is_c (h.only k3) (flatS k2)).mono ?_⟩
 rintro _ w1 ⟨rfl, hO1⟩
 have e : [[45], [33]].contains (tk ts i).t = (decide ((tk ts i).t = [45]) || decide ((tk ts i).t = [33])) := by
  rw [Bool.eq_iff_iff]
  simp
 refine ⟨?_, hO1⟩
 unfold sg
 rw [Bool.and_assoc, <- Bool.and_or_distrib_left, e]
theorem must_c (h : Rd F G ts w b l sn i fc fa d) (s : List UInt8) : Calls Tryz.prog 237 #[.pointer (some ⟨b, 0, none⟩), .string (T s)] w fun e w' => e = .returned (.tuple #[]) /\ Only [b] w w' /\
  (if fc == 0 && sg ts i s then Rd F G ts w' b l sn (i + 1) fc fa d else Rd F G ts w' b l sn i (if fc = 0 then (wrongF ts i).1 else fc) (if fc = 0 then (wrongF ts i).2 else fa) d) := by
 refine ret (v9w ⟨b, 0, none⟩ _ (fun v w' => v = (.tuple #[]) /\ Only [b] w w' /\ (if fc == 0 && sg ts i s then Rd F G ts w' b l sn (i + 1) fc fa d else Rd F G ts w' b l sn i (if fc = 0 then (wrongF ts i).1 else fc) (if fc = 0 then (wrongF ts i).2 else fa) d)) w ?_)
 unfold v9v
 obtain ⟨s0, w0, k1, k2, k3⟩ := is1 h s
 refine ⟨s0, w0, k1, k3.mono ?_⟩
 rintro _ w1 ⟨rfl, hO1⟩
 have h1 := h.only (k2.tr0 hO1)
 have hO01 : Only [b] w w1 := (k2.tr0 hO1).weaken fun _ h => (by cases h)
 refine ⟨_, rfl, fun hc => (wrong_c h1).mono ?_, fun hc => ?_⟩
 · rintro _ w2 ⟨rfl, hO2, hR⟩
   have hc : (fc == 0 && sg ts i s) = false := by rwa [Bool.not_eq_true'] at hc
   rw [hc]
   exact ⟨rfl, rfl, hO01.trans hO2 (fun x hx => .inl hx), hR⟩
 · have hc : (fc == 0 && sg ts i s) = true := by rwa [Bool.not_eq_false'] at hc
   rw [hc]
   simp only [Bool.and_eq_true] at hc
   have hn := h.en.next h.lt (sg_k hc.2)
   have hb := h.big
   refine ⟨(i : Int), Blk.at1 h1.blk 1 rfl, b, 1, _, _, rfl, h1.blk, by simp, fun w3 hO3 hB3 => ⟨rfl, hO01.trans hO3 (fun x hx => .inl hx), h1.turn hO3 ?_ hn⟩⟩
   rw [wr' (by omega) (by omega)] at hB3
   exact hB3
theorem name'_c (h : Rd F G ts w b l sn i fc fa d) : Calls Tryz.prog 238 #[.pointer (some ⟨b, 0, none⟩)] w fun e w' => Only [b] w w' /\
  (if fc = 0 /\ (tk ts i).k = 1 then e = .returned (.string (T (tk ts i).t)) /\ Rd F G ts w' b l sn (i + 1) fc fa d else e = .returned (.string (T [])) /\ Rd F G ts w' b l sn i (if fc = 0 then (wrongF ts i).1 else fc) (if fc = 0 then (wrongF ts i).2 else fa) d) := by
 refine (v17w ⟨b, 0, none⟩ (fun v w' => Only [b] w w' /\ (if fc = 0 /\ (tk ts i).k = 1 then v = (.string (T (tk ts i).t)) /\ Rd F G ts w' b l sn (i + 1) fc fa d else v = (.string (T [])) /\ Rd F G ts w' b l sn i (if fc = 0 then (wrongF ts i).1 else fc) (if fc = 0 then (wrongF ts i).2 else fa) d)) w ?_).mono (by
  rintro e w' ⟨v, rfl, hO, hv⟩
  refine ⟨hO, ?_⟩
  split at hv
  · rename_i hc; rw [if_pos hc]; exact ⟨by rw [hv.1], hv.2⟩
  · rename_i hc; rw [if_neg hc]; exact ⟨by rw [hv.1], hv.2⟩)
 unfold v17v
 refine (now_c h).mono ?_
 rintro _ w0 ⟨rfl, hO0⟩
 refine ⟨_, _, _, _, rfl, fun k0 w1 hk hk' hO1 => ?_⟩
 have hO01 := hO0.tr0 hO1
 have z0 := hO0.size
 have hl := h.lb
 refine (bad_c (h.only hO01)).mono ?_
 rintro _ w2 ⟨rfl, hO2⟩
 have z2 := hO2.size
 have h2 := h.only (hO01.tr0 hO2)
 have hO02 : Only [b] w w2 := (hO01.tr0 hO2).weaken fun _ h => (by cases h)
 refine ⟨_, rfl, hO2.same (by simp; omega), fun hc => (wrong_c h2).mono ?_, fun hc => ?_⟩
 · rintro _ w3 ⟨rfl, hO3, hR⟩
   refine ⟨rfl, hO3.same (by simp; omega), hO02.trans hO3 (fun x hx => .inl hx), ?_⟩
   rw [if_neg (fun hh => by rw [hh.1, hh.2] at hc; simp at hc)]
   exact ⟨rfl, hR⟩
 · have hc : fc = 0 /\ (tk ts i).k = 1 := by simpa using hc
   have hn := h.en.next h.lt (by rw [hc.2]; decide)
   have hb := h.big
   refine ⟨(i : Int), Blk.at1 h2.blk 1 rfl, b, 1, _, _, rfl, h2.blk, by simp, by omega, fun w3 hO3 hB3 => ⟨hO02.trans hO3 (fun x hx => .inl hx), ?_⟩⟩
   rw [if_pos hc]
   refine ⟨rfl, h2.turn hO3 ?_ hn⟩
   rw [wr' (by omega) (by omega)] at hB3
   exact hB3
end
theorem erow_c (w : World) (op : Int) : Calls Tryz.prog 200 #[.int .i64 op] w fun e w' => e = .returned (.int .i64 (rowOf op)) /\ w' = w := by
 refine ret (v22w op (fun v w' => v = .int .i64 (rowOf op) /\ w' = w) w ?_)
 unfold v22v
 have fin : ∀ {k : Int} {w1 : World}, rowOf op = k -> (Value.int .i64 k = .int .i64 (rowOf op) /\ w1 = w1) := fun e => ⟨by rw [e], rfl⟩
 refine ⟨fun h => fin ?_, fun h => ⟨fun b w' => b = decide (op = 1 ∨ op = 2) /\ w' = w, ?_, fun h1 => ⟨?_, rfl⟩, fun h1 => ⟨?_, rfl⟩⟩⟩
 · simp only [Bool.and_eq_true, decide_eq_true_eq] at h
   unfold rowOf
   rw [if_pos (by omega)]
 · rintro _ w1 ⟨rfl, rfl⟩
   have h : ¬ (3 <= op /\ op <= 5) := fun hh => by rw [decide_eq_true hh.1, decide_eq_true hh.2] at h; cases h
   refine ⟨fun h1 => fin ?_, fun h1 => ⟨fun h2 => fin ?_, fun h2 => ⟨fun b w2 => b = decide (op = 10 ∨ op = 11) /\ w2 = w1, ?_, fun h3 => ⟨?_, rfl⟩, fun h3 => ⟨?_, rfl⟩⟩⟩⟩
   · have h1 := of_decide_eq_true h1
     unfold rowOf
     rw [if_neg h, if_pos h1]
   · have h1 := of_decide_eq_false h1
     simp only [Bool.and_eq_true, decide_eq_true_eq] at h2
     unfold rowOf
     rw [if_neg h, if_neg h1, if_pos (by omega)]
   · rintro _ _ ⟨rfl, rfl⟩
     have h1 := of_decide_eq_false h1
     have h2 : ¬ (6 <= op /\ op <= 9) := fun hh => by rw [decide_eq_true hh.1, decide_eq_true hh.2] at h2; cases h2
     refine ⟨fun h3 => fin ?_, fun h3 => ⟨fun h4 => fin ?_, fun h4 => ⟨fun h5 => fin ?_, fun h5 => fin ?_⟩⟩⟩
     · have h3 := of_decide_eq_true h3
       unfold rowOf
       rw [if_neg h, if_neg h1, if_neg h2, if_pos h3]
     · have h3 := of_decide_eq_false h3
       have h4 : op = 12 := by simpa using h4
       unfold rowOf
       rw [if_neg h, if_neg h1, if_neg h2, if_neg h3, if_pos h4]
     · have h3 := of_decide_eq_false h3
       have h4 : ¬ op = 12 := by simpa using h4
       have h5 : op = 13 := by simpa using h5
       unfold rowOf
       rw [if_neg h, if_neg h1, if_neg h2, if_neg h3, if_neg h4, if_pos h5]
     · have h3 := of_decide_eq_false h3
       have h4 : ¬ op = 12 := by simpa using h4
       have h5 : ¬ op = 13 := by simpa using h5
       unfold rowOf
       rw [if_neg h, if_neg h1, if_neg h2, if_neg h3, if_neg h4, if_neg h5]
   · have h3 : op = 10 := by simpa using h3
     rw [h3]; rfl
   · have h3 : ¬ op = 10 := by simpa using h3
     rw [Bool.eq_iff_iff]
     simp [h3]
 · have h1 : op = 1 := by simpa using h1
   rw [h1]; rfl
 · have h1 : ¬ op = 1 := by simpa using h1
   rw [Bool.eq_iff_iff]
   simp [h1]
section
variable {F G : Nat -> Prop} {ts : List Tk} {w w' : World} {b : Nat} {l sn : Sl} {i : Nat} {fc fa d : Int}
theorem operator_c (h : Rd F G ts w b l sn i fc fa d) (k : Int) : Calls Tryz.prog 225 #[.pointer (some ⟨b, 0, none⟩), .int .i64 k] w fun e w' => e = .returned (.int .i64 (if fc = 0 then opAt ts k i else 0)) /\ Only [] w w' := by
 refine ret (v20w ⟨b, 0, none⟩ k (fun v w' => v = .int .i64 (if fc = 0 then opAt ts k i else 0) /\ Only [] w w') w ?_)
 unfold v20v
 refine ⟨fun nv i0 w' => ∃ op : Nat, 1 <= op /\ op <= 14 /\ i0 = (op : Int) /\ nv = 14 - op /\ (if fc = 0 then opAt ts k i else 0) = (if fc = 0 then opFrom ts k i (14 - op) op else 0) /\ Only [] w w', 13, ⟨1, by decide, by decide, rfl, rfl, rfl, Only.refl _ _⟩, ?_⟩
 rintro nv _ w0 ⟨op, h1, h2, rfl, rfl, hV, hO0⟩
 refine ⟨fun hc => ?_, fun hc => ?_⟩
 · have hc : (op : Int) <= 13 := of_decide_eq_true hc
   obtain ⟨m, hm⟩ : ∃ m, 14 - op = m + 1 := ⟨13 - op, by omega⟩
   rw [hm, opFrom] at hV
   refine ⟨fun c w' => c = (decide (rowOf (op : Int) = k) && (fc == 0 && sg ts i (opTx op))) /\ Only [] w w', ?_, fun w2 hO2 => (erow_c w2 _).mono ?_⟩
   · rintro _ w1 ⟨rfl, hO1⟩
     refine ⟨fun hb => ⟨?_, hO1⟩, fun hb => ⟨m, by omega, op + 1, by omega, by omega, by rw [wr' (by omega) (by omega)]; rfl, by omega, ?_, hO1⟩⟩
     · simp only [Bool.and_eq_true, decide_eq_true_eq, beq_iff_eq] at hb
       rw [hV, if_pos hb.2.1, if_pos ⟨hb.1, hb.2.2⟩]
     · rw [hV, show 14 - (op + 1) = m by omega]
       by_cases h0 : fc = 0
       · rw [if_pos h0, if_pos h0, if_neg]
         rintro ⟨e1, e2⟩
         rw [decide_eq_true e1, e2, h0] at hb
         simp at hb
       · rw [if_neg h0, if_neg h0]
   · rintro _ w3 ⟨rfl, rfl⟩
     have h3 := h.only (hO0.tr0 hO2)
     refine ⟨_, rfl, fun hk => ?_, fun hk => ?_⟩
     · have hk : rowOf (op : Int) = k := by simpa using hk
       have hn := h3.sig.len
       have hol : opsL.length = 16 := rfl
       obtain ⟨ad, x, cs, g1, g2, g3, g4, g5, g6⟩ := h3.sig.get (i := (op : Int)) (by omega) (by omega)
       unfold rTx at g6
       subst g6
       rw [Int.toNat_natCast] at g2
       have hx : opTx op = x := by unfold opTx; rw [g2]; rfl
       subst hx
       obtain ⟨s0, w4, k1, k2, k3⟩ := is1 h3 (opTx op)
       refine ⟨sn, Blk.at1 h3.blk 5 rfl, ad, g1, _, g5, s0, w4, k1, k3.mono ?_⟩
       rintro _ w5 ⟨rfl, hO5⟩
       exact ⟨_, rfl, by rw [decide_eq_true hk, Bool.true_and], hO0.tr0 (hO2.tr0 (k2.tr0 hO5))⟩
     · have hk : ¬ rowOf (op : Int) = k := by simpa using hk
       exact ⟨by rw [decide_eq_false hk, Bool.false_and], hO0.tr0 hO2⟩
 · have hc : ¬ (op : Int) <= 13 := of_decide_eq_false hc
   have : op = 14 := by omega
   subst this
   rw [hV]
   refine ⟨?_, hO0⟩
   split <;> rfl
end
abbrev exv (k n : Int) (s : List UInt8) (op : Int) (sl : Sl) (a : Int) : List Value := [.int .i64 k, .int .i64 n, .string (T s), .int .i64 op, sl.v, .int .i64 a]
inductive RXN (w : World) (N : Nat -> Prop) : Nat -> Nat -> Ex -> List Value -> Prop
 | leaf (lo hi : Nat) (k n : Int) (s : List UInt8) (op a : Int) : RXN w N lo hi (.mk k n s op [] a) (exv k n s op Sl.nil a)
 | one (lo m g hi : Nat) (k n : Int) (s : List UInt8) (op a : Int) (x : Ex) (cs : List Value) : RXN w N lo m x cs -> lo <= g -> m <= g -> g < hi -> ¬ N g -> Blk w g 56 cs -> RXN w N lo hi (.mk k n s op [x] a) (exv k n s op ⟨some ⟨g, 0, none⟩, 1, 1⟩ a)
 | two (lo m m' m2 g hi : Nat) (k n : Int) (s : List UInt8) (op a : Int) (x y : Ex) (cs ds : List Value) : RXN w N lo m x cs -> m <= m' -> RXN w N m' m2 y ds -> lo <= m' -> m <= g -> m' <= g -> m2 <= g -> g < hi -> ¬ N g -> Blk w g 56 (cs ++ ds) -> RXN w N lo hi (.mk k n s op [x, y] a) (exv k n s op ⟨some ⟨g, 0, none⟩, 2, 2⟩ a)
abbrev RX (w : World) : Nat -> Nat -> Ex -> List Value -> Prop := RXN w fun _ => False
section
variable {w w' : World} {N N' : Nat -> Prop} {lo hi : Nat} {x : Ex} {cs : List Value}
theorem RXN.keep (h : RXN w N lo hi x cs) : (∀ k, lo <= k -> k < hi -> ¬ N k -> k < w.heap.size -> w'.heap[k]? = w.heap[k]?) -> RXN w' N lo hi x cs := by
 induction h with
 | leaf lo hi k n s op a => exact fun _ => .leaf ..
 | one lo m g hi k n s op a x cs h1 h2 h3 h4 hn h5 ih =>
  intro hk
  exact .one lo m g hi k n s op a x cs (ih fun j h6 h7 h8 => hk j h6 (by omega) h8) h2 h3 h4 hn ((hk g h2 h4 hn h5.lt).trans h5)
 | two lo m m' m2 g hi k n s op a x y cs ds h1 h2 h3 h4 h5 h6 h7 h8 hn h9 ih1 ih2 =>
  intro hk
  exact .two lo m m' m2 g hi k n s op a x y cs ds (ih1 fun j a1 a2 a3 => hk j a1 (by omega) a3) h2 (ih2 fun j a1 a2 a3 => hk j (by omega) (by omega) a3) h4 h5 h6 h7 h8 hn ((hk g (by omega) h8 hn h9.lt).trans h9)
theorem RXN.wide (h : RXN w N lo hi x cs) : ∀ {lo' hi' : Nat}, lo' <= lo -> hi <= hi' -> RXN w N lo' hi' x cs := by
 induction h with
 | leaf lo hi k n s op a => exact fun _ _ => .leaf ..
 | one lo m g hi k n s op a x cs h1 h2 h3 h4 hn h5 ih =>
  intro lo' hi' a1 a2
  exact .one lo' m g hi' k n s op a x cs (ih a1 (Nat.le_refl _)) (by omega) h3 (by omega) hn h5
 | two lo m m' m2 g hi k n s op a x y cs ds h1 h2 h3 h4 h5 h6 h7 h8 hn h9 ih1 ih2 =>
  intro lo' hi' a1 a2
  exact .two lo' m m' m2 g hi' k n s op a x y cs ds (ih1 a1 (Nat.le_refl _)) h2 h3 (by omega) h5 h6 h7 (by omega) hn h9
theorem RXN.holes (h : RXN w N lo hi x cs) : (∀ k, lo <= k -> k < hi -> ¬ N k -> ¬ N' k) -> RXN w N' lo hi x cs := by
 induction h with
 | leaf lo hi k n s op a => exact fun _ => .leaf ..
 | one lo m g hi k n s op a x cs h1 h2 h3 h4 hn h5 ih =>
  intro hk
  exact .one lo m g hi k n s op a x cs (ih fun j h6 h7 => hk j h6 (by omega)) h2 h3 h4 (hk g h2 h4 hn) h5
 | two lo m m' m2 g hi k n s op a x y cs ds h1 h2 h3 h4 h5 h6 h7 h8 hn h9 ih1 ih2 =>
  intro hk
  exact .two lo m m' m2 g hi k n s op a x y cs ds (ih1 fun j a1 a2 => hk j a1 (by omega)) h2 (ih2 fun j a1 a2 => hk j (by omega) (by omega)) h4 h5 h6 h7 h8 (hk g (by omega) h8 hn) h9
theorem RXN.cells (h : RXN w N lo hi x cs) : ∃ sl : Sl, cs = exv x.k x.n x.s x.op sl x.a /\ (sl.n = x.subs.length) := by
 cases h with
 | leaf => exact ⟨_, rfl, rfl⟩
 | one => exact ⟨_, rfl, rfl⟩
 | two => exact ⟨_, rfl, rfl⟩
theorem RXN.only (h : RXN w N lo hi x cs) {bs : List Nat} (hO : Only bs w w') (hb : ∀ k, k ∈ bs -> k < lo ∨ hi <= k ∨ N k) : RXN w' N lo hi x cs :=
 h.keep fun k h1 h2 hn h3 => hO.block k h3 fun hm => by
  rcases hb k hm with e | e | e
  · omega
  · omega
  · exact hn e
end
theorem buildX (w : World) (vs : List (List Value)) (hv : ∀ v, v ∈ vs -> v.length = 6) (h0 : 0 < vs.length) (hm : vs.length <= 100) {parts : Array (Nat × Value)} (hp : parts = (((vs.map fun v => Value.agg v.toArray).zipIdx 0).map fun x => (x.2, x.1)).toArray) :
  ∃ w', (Instr.buildSlice 54 vs.length parts).run Tryz.prog w = .ok (Sl.v ⟨some ⟨w.heap.size, 0, none⟩, vs.length, vs.length⟩) w' /\ Blk w' w.heap.size 56 vs.flatten /\ Only [] w w' := by
 have hc : ((vs.map fun v => Value.agg v.toArray).flatMap fun v => v.cells.toList) = vs.flatten := by
  clear hv h0 hm hp
  induction vs with
  | nil => rfl
  | cons v vs ih => rw [List.map_cons, List.flatMap_cons, ih, List.flatten_cons]; rfl
 have hs : Tryz.t56.size = 6 := rfl
 have hrun := run_buildSlice (P := Tryz.prog) w 54 56 vs.length parts ((vs.map fun v => Value.agg v.toArray).flatMap fun v => v.cells.toList).toArray Tryz.t56 _ (by kernel_rfl) (by kernel_rfl) rfl (by rw [hs]; omega) (by rw [hs]; omega)
  (by
   subst hp
   rw [List.toList_toArray, hs]
   refine Go.Great.fill_whole (s := 6) (by decide) (vs.map fun v => Value.agg v.toArray) _ (fun v hm => ?_) ?_
   · obtain ⟨x, hx, rfl⟩ := List.mem_map.1 hm
     have := hv x hx
     simpa [Value.cells] using this
   · simp)
 rw [hc] at hrun
 exact ⟨_, hrun, Blk.alloc w _ _, Only.alloc _ _⟩
def exT (v : Value) : Prop := ∃ (k n : Int) (s : List UInt8) (op : Int) (sl : Sl) (a : Int), v = .agg (exv k n s op sl a).toArray
def Did5 (F G : Nat -> Prop) (ts : List Tk) (w w' : World) (b : Nat) (l sn : Sl) (d : Nat) (r : Pr) (v : Value) : Prop := Only [b] w w' /\ match r with
 | .ok (x, j) => ∃ cs, v = .agg cs.toArray /\ RX w' w.heap.size w'.heap.size x cs /\ Rd F G ts w' b l sn j 0 0 (d : Int)
 | .error e => e.1 ≠ 0 /\ exT v /\ ∃ j, Rd F G ts w' b l sn j e.1 e.2 (d : Int)
section
variable {F G : Nat -> Prop} {ts : List Tk} {w w' : World} {b : Nat} {l sn : Sl} {i : Nat} {fc fa d : Int}
theorem wrongF_ne : (wrongF ts i).1 ≠ 0 := by
 unfold wrongF
 dsimp only
 split <;> decide
theorem within_c {d : Nat} (hd : d <= 20) (h : Rd F G ts w b l sn i 0 0 (d : Int)) (hi : i + 1 < ts.length) {g : Nat} {z1 z2 : List Value} (hg : ∀ (x : Array Value) (w : World), (callFunc g x).run Tryz.prog w = .ok (.enter g x) w) (f : OV) (hf : f.v = .func (.func g) z1.toArray z2.toArray) {r : Pr}
    (hr : d ≠ 20 -> ∀ w1, Only [b] w w1 -> Rd F G ts w1 b l sn (i + 1) 0 0 ((d + 1 : Nat) : Int) -> Calls Tryz.prog g (z1 ++ z2).toArray w1 fun e w' => ∃ v, e = .returned v /\ Did5 F G ts w1 w' b l sn (d + 1) r v) :
    Calls Tryz.prog 235 #[.pointer (some ⟨b, 0, none⟩), f.v] w fun e w' => ∃ v, e = .returned v /\ Did5 F G ts w w' b l sn d (nestR d (tk ts i).a r) v := by
  refine v21w ⟨b, 0, none⟩ f (fun v w' => Did5 F G ts w w' b l sn d (nestR d (tk ts i).a r) v) w ?_
  unfold v21v
  intro k0 w0 hk hk' hO0
  have hb := h.lb
  have h0 := h.only hO0
  refine ⟨(d : Int), Blk.at1 h0.blk 4 rfl, fun hc => (stop_c h0 21).mono ?_, fun hc => ?_⟩
  · have hc : d = 20 := by have : (d : Int) = 20 := by simpa using hc
                           omega
    rintro _ w1 ⟨rfl, hO1, hR⟩
    rw [if_pos rfl, if_pos rfl] at hR
    have z1 := hO1.size
    refine ⟨rfl, hO1.same (by simp; omega), fun w2 hO2 => ⟨?_, ?_⟩⟩
    · exact ((hO0.weaken (bs' := [b]) fun _ h => (by cases h)).trans hO1 fun x hx => .inl hx).new hO2 hk
    · rw [nestR, if_pos hc]
      exact ⟨(by decide : (21 : Int) ≠ 0), ⟨0, 0, [], 0, Sl.nil, 0, rfl⟩, i, hR.own hO2 (by simp; omega)⟩
  · have hc : d ≠ 20 := fun e => by subst e; simp at hc
    have hbg := h.big
    refine ⟨(i : Int), Blk.at1 h0.blk 1 rfl, b, 1, _, _, rfl, h0.blk, by simp, by omega, fun w3 hO3 hB3 => ?_⟩
    rw [wr' (by omega) (by omega)] at hB3
    have h3 : Rd F G ts w3 b l sn (i + 1) 0 0 (d : Int) := h0.turn hO3 hB3 hi
    have z3 := hO3.size
    refine ⟨(d : Int), Blk.at1 h3.blk 4 rfl, b, 4, _, _, rfl, h3.blk, by simp, by omega, fun w4 hO4 hB4 => ?_⟩
    rw [wr' (by omega) (by omega)] at hB4
    have h4 : Rd F G ts w4 b l sn (i + 1) 0 0 ((d + 1 : Nat) : Int) := h3.turn hO4 hB4 hi
    have z4 := hO4.size
    have hO04 : Only [b] w w4 := ((hO0.weaken (bs' := [b]) fun _ h => (by cases h)).trans hO3 fun x hx => .inl hx).trans hO4 fun x hx => .inl hx
    refine ⟨g, z1, z2, hf, hg, ?_⟩
    have e : cat (cat z1 []) z2 = z1 ++ z2 := by unfold cat; rw [List.append_nil]
    rw [e]
    refine (hr hc w4 hO04 h4).mono ?_
    rintro _ w6 ⟨v, rfl, hO6, hd⟩
    have z6 := hO6.size
    rw [nestR, if_neg hc]
    have hv : ∃ (k n : Int) (s : List UInt8) (op : Int) (sl : Sl) (a : Int), v = .agg (exv k n s op sl a).toArray := by
      cases r with
      | error e => exact hd.2.1
      | ok q =>
        obtain ⟨cs, rfl, hx, _⟩ := hd
        obtain ⟨sl, rfl, _⟩ := hx.cells
        exact ⟨_, _, _, _, _, _, rfl⟩
    obtain ⟨vk, vn, vs, vo, vsl, va, rfl⟩ := hv
    refine ⟨_, _, _, _, _, _, rfl, hO6.same (by simp; omega), fun k8 w7 hk8 hk8' hO7 => ?_⟩
    have z7 := hO7.size
    have key : ∀ {j : Nat} {fc fa : Int}, Rd F G ts w6 b l sn j fc fa ((d + 1 : Nat) : Int) -> ∃ i7 : Int, Cells w7 (Addr.add ⟨b, 0, none⟩ 4) [.int .i64 i7] /\ ∃ k9 k10 : Nat, ∃ z4 : List Value, ∃ k11 : Nat, (Addr.add ⟨b, 0, none⟩ 4) = ⟨k9, k10, none⟩ /\ Blk w7 k9 k11 z4 /\ (k10 + 1) <= z4.length /\ k0 ≠ k9 /\ k8 ≠ k9 /\
        ∀ w8 : World, Only [k9] w7 w8 -> Blk w8 k9 k11 (splice z4 k10 [.int .i64 (IntKind.wrap .i64 (i7 - 1))]) -> ∀ w9 : World, Only [k0] w8 w9 -> Only [b] w w9 /\ Only [b, k0] w6 w9 /\ Rd F G ts w9 b l sn j fc fa (d : Int) := fun {j fc fa} h6 => by
      have h7 := h6.only hO7
      refine ⟨((d + 1 : Nat) : Int), Blk.at1 h7.blk 4 rfl, b, 4, _, _, rfl, h7.blk, by simp, by omega, by omega, fun w8 hO8 hB8 w9 hO9 => ?_⟩
      have ed : ((d + 1 : Nat) : Int) - 1 = d := by omega
      rw [ed, wr' (by omega) (by omega)] at hB8
      have h8 : Rd F G ts w8 b l sn j fc fa (d : Int) := h7.turn hO8 hB8 h7.lt
      have hO69 : Only [b, k0] w6 w9 := ((hO7.weaken (bs' := [b, k0]) fun _ h => (by cases h)).trans hO8 fun x hx => .inl (by simp only [List.mem_singleton] at hx; simp [hx])).trans hO9 fun x hx => .inl (by simp only [List.mem_singleton] at hx; simp [hx])
      exact ⟨(hO04.trans hO6 fun x hx => .inl hx).trans hO69 (fun x hx => by
        simp only [List.mem_cons, List.not_mem_nil, or_false] at hx
        rcases hx with rfl | rfl
        · exact .inl (by simp)
        · exact .inr hk), hO69, h8.own hO9 (by simp; omega)⟩
    have hd2 := hd
    cases r with
    | error e =>
      obtain ⟨h1, h2, j, h3⟩ := hd2
      obtain ⟨i7, k1, k9, k10, z, k11, k2, k3, k4, k5, k6, k7⟩ := key h3
      refine ⟨i7, k1, k9, k10, z, k11, k2, k3, k4, k5, k6, fun w8 hO8 hB8 w9 hO9 => ?_⟩
      obtain ⟨a1, a2, a3⟩ := k7 w8 hO8 hB8 w9 hO9
      exact ⟨a1, h1, h2, j, a3⟩
    | ok q =>
      obtain ⟨x, j⟩ := q
      obtain ⟨cs, h1, h2, h3⟩ := hd2
      obtain ⟨i7, k1, k9, k10, z, k11, k2, k3, k4, k5, k6, k7⟩ := key h3
      refine ⟨i7, k1, k9, k10, z, k11, k2, k3, k4, k5, k6, fun w8 hO8 hB8 w9 hO9 => ?_⟩
      obtain ⟨a1, a2, a3⟩ := k7 w8 hO8 hB8 w9 hO9
      have z9 := a2.size
      exact ⟨a1, cs, h1, (h2.only a2 fun k hk => .inl (by simp only [List.mem_cons, List.not_mem_nil, or_false] at hk; omega)).wide (by omega) z9, a3⟩
end
section
variable {F G : Nat -> Prop} {ts : List Tk} {w w' : World} {b : Nat} {l sn : Sl} {i : Nat} {fc fa d : Int}
theorem Did5.typed {w w' : World} {d : Nat} {r : Pr} {v : Value} (h : Did5 F G ts w w' b l sn d r v) : exT v := by
 obtain ⟨_, h⟩ := h
 cases r with
 | error e => exact h.2.1
 | ok q =>
  obtain ⟨cs, rfl, hx, _⟩ := h
  obtain ⟨sl, rfl, _⟩ := hx.cells
  exact ⟨_, _, _, _, _, _, rfl⟩
theorem Did5.around {w0 w1 w2 w3 : World} {d : Nat} {r : Pr} {v : Value} (h : Did5 F G ts w1 w2 b l sn d r v) (hO0 : Only [b] w0 w1) {bs : List Nat} (hO2 : Only bs w2 w3) (hb : ∀ x, x ∈ bs -> b < x /\ w0.heap.size <= x /\ x < w1.heap.size) : Did5 F G ts w0 w3 b l sn d r v := by
 obtain ⟨hO, h⟩ := h
 have z0 := hO0.size
 have z1 := hO.size
 have z2 := hO2.size
 refine ⟨(hO0.trans hO fun x hx => .inl hx).trans hO2 fun x hx => .inr (hb x hx).2.1, ?_⟩
 cases r with
 | error e =>
  obtain ⟨h1, h2, j, h3⟩ := h
  exact ⟨h1, h2, j, h3.own hO2 fun x hx => (hb x hx).1⟩
 | ok q =>
  obtain ⟨cs, h1, h2, h3⟩ := h
  exact ⟨cs, h1, (h2.only hO2 fun x hx => .inl (hb x hx).2.2).wide z0 z2, h3.own hO2 fun x hx => (hb x hx).1⟩
theorem par_c {d : Nat} {r : Pr} {k0 : Nat} (h : Rd F G ts w b l sn i 0 0 (d : Int)) (hk : b < k0) (hB : Blk w k0 255 [.pointer (some ⟨b, 0, none⟩)])
  (hE : ∀ w1, Only [] w w1 -> Calls Tryz.prog 209 #[.pointer (some ⟨b, 0, none⟩), .int .i64 0] w1 fun e w' => ∃ v, e = .returned v /\ Did5 F G ts w1 w' b l sn d r v) :
  Calls Tryz.prog 236 #[.pointer (some ⟨k0, 0, none⟩)] w fun e w' => ∃ v, e = .returned v /\ Did5 F G ts w w' b l sn d (parR ts r) v := by
 refine v18w ⟨k0, 0, none⟩ (fun v w' => Did5 F G ts w w' b l sn d (parR ts r) v) w ?_
 unfold v18v
 intro k1 w0 hk1 hk1' hO0
 have hb := h.lb
 have hB0 : Blk w0 k0 255 [.pointer (some ⟨b, 0, none⟩)] := hO0.blk hB (by simp)
 have hkl := hB.lt
 refine ⟨_, Blk.at1 hB0 0 rfl, (hE w0 hO0).mono ?_⟩
 rintro _ w1 ⟨v, rfl, hd⟩
 obtain ⟨k, n, s, op, sl, a, rfl⟩ := hd.typed
 have z1 := hd.1.size
 refine ⟨_, _, _, _, _, _, rfl, hd.1.same (by simp; omega), fun k2 w2 hk2 hk2' hO2 => ?_⟩
 have z2 := hO2.size
 have hB2 : Blk w2 k0 255 [.pointer (some ⟨b, 0, none⟩)] := hO2.blk (hd.1.blk hB0 (by simp; omega)) (by simp)
 refine ⟨_, Blk.at1 hB2 0 rfl, _, rfl, ?_⟩
 obtain ⟨hO1, hd⟩ := hd
 have hO02 : Only [b] w w2 := ((hO0.weaken fun _ h => (by cases h)).trans hO1 fun x hx => .inl hx).tr0 hO2
 cases r with
 | error e =>
  obtain ⟨h1, h2, j, h3⟩ := hd
  have h3 := h3.only hO2
  refine (must_c h3 [41]).mono ?_
  rintro _ w3 ⟨rfl, hO3, hR⟩
  rw [if_neg (by simp [h1]), if_neg h1, if_neg h1] at hR
  refine ⟨rfl, hO3.same (by simp; omega), fun w4 hO4 => ⟨((hO02.trans hO3 fun x hx => .inl hx).new hO4 hk1), h1, ⟨_, _, _, _, _, _, rfl⟩, j, hR.own hO4 (by simp; omega)⟩⟩
 | ok q =>
  obtain ⟨x, j⟩ := q
  obtain ⟨cs, h1, h2, h3⟩ := hd
  have h3 := h3.only hO2
  refine (must_c h3 [41]).mono ?_
  rintro _ w3 ⟨rfl, hO3, hR⟩
  have z3 := hO3.size
  refine ⟨rfl, hO3.same (by simp; omega), fun w4 hO4 => ⟨((hO02.trans hO3 fun x hx => .inl hx).new hO4 hk1), ?_⟩⟩
  have z4 := hO4.size
  by_cases hs : sg ts j [41] = true
  · rw [if_pos (by simp [hs])] at hR
    simp only [parR, hs, if_true]
    exact ⟨cs, h1, (((h2.only hO2 (by simp)).only hO3 fun k hk => .inl (by simp only [List.mem_singleton] at hk; omega)).only hO4 fun k hk => .inl (by simp only [List.mem_singleton] at hk; omega)).wide (by omega) (by omega), hR.own hO4 (by simp; omega)⟩
  · rw [if_neg (by simp [hs]), if_pos rfl, if_pos rfl] at hR
    simp only [parR, hs, if_false]
    exact ⟨wrongF_ne, ⟨_, _, _, _, _, _, rfl⟩, j, hR.own hO4 (by simp; omega)⟩
theorem eone_c {f d : Nat} (hd : d <= 20) (h : Rd F G ts w b l sn i 0 0 (d : Int))
  (hE : d ≠ 20 -> ∀ w i, Rd F G ts w b l sn i 0 0 ((d + 1 : Nat) : Int) -> Calls Tryz.prog 209 #[.pointer (some ⟨b, 0, none⟩), .int .i64 0] w fun e w' => ∃ v, e = .returned v /\ Did5 F G ts w w' b l sn (d + 1) (exprR ts f 0 (d + 1) i) v)
  (hOne : d ≠ 20 -> ∀ w i, Rd F G ts w b l sn i 0 0 ((d + 1 : Nat) : Int) -> Calls Tryz.prog 224 #[.pointer (some ⟨b, 0, none⟩)] w fun e w' => ∃ v, e = .returned v /\ Did5 F G ts w w' b l sn (d + 1) (exprR ts f 6 (d + 1) i) v) :
  Calls Tryz.prog 224 #[.pointer (some ⟨b, 0, none⟩)] w fun e w' => ∃ v, e = .returned v /\ Did5 F G ts w w' b l sn d (exprR ts (f + 1) 6 d i) v := by
 have eR : exprR ts (f + 1) 6 d i = oneR ts (exprR ts f 0 (d + 1)) (exprR ts f 6 (d + 1)) d i := by rw [exprR, if_pos rfl]
 rw [eR]
 generalize hgE : exprR ts f 0 (d + 1) = E0 at *
 generalize hgO : exprR ts f 6 (d + 1) = One at *
 generalize hR : oneR ts E0 One d i = R
 rw [oneR] at hR
 refine v19w ⟨b, 0, none⟩ (fun v w' => Did5 F G ts w w' b l sn d R v) w ?_
 unfold v19v
 intro k0 k1 w0 hk0 hk0' hk1 hk1' hO0
 have hb := h.lb
 refine (now_c (h.only hO0)).mono ?_
 rintro _ w1 ⟨rfl, hO1⟩
 have z1 := hO1.size
 have hO01 := hO0.tr0 hO1
 refine ⟨_, _, _, _, rfl, hO1.same (by simp; omega), fun k2 k3 w2 hk2 hk2' hk3 hk3' hO2 => ?_⟩
 have z2 := hO2.size
 have z0 := hO0.size
 have hO02 := hO01.tr0 hO2
 have h2 := h.only hO02
 have hbg := h.big
 have sm : ∀ {u u' : World}, w2.heap.size <= u.heap.size -> Only [b] u u' -> Same [k0, k1, k2, k3] u u' := fun hu hO => hO.same (by intro x hx; simp only [List.mem_cons, List.not_mem_nil, or_false] at hx ⊢; omega)
 have sm0 : ∀ {u u' : World}, w2.heap.size <= u.heap.size -> Only [] u u' -> Same [k0, k1, k2, k3] u u' := fun hu hO => hO.same (by intro x hx; simp only [List.mem_cons, List.not_mem_nil, or_false] at hx; exact ⟨by omega, by simp⟩)
 refine ⟨fun q _ _ _ _ _ _ vk vn vs vo vl va w' => q = some ⟨b, 0, none⟩ /\ Only [] w w' /\ (tk ts i).k ≠ 5 /\ ∃ t, vs = T t /\ vl = Sl.nil /\ R = .ok (.mk vk vn t vo [] va, i + 1), ?_, ?_⟩
 · rintro _ _ _ _ _ _ _ vk vn _ vo _ va w3 ⟨rfl, hO3, hne, t, rfl, rfl, hRe⟩
   have h3 := h.only hO3
   have hn := h.en.next h.lt hne
   refine ⟨_, rfl, (i : Int), Blk.at1 h3.blk 1 rfl, _, rfl, b, 1, _, _, rfl, h3.blk, by simp, by omega, by omega, by omega, by omega, fun w4 hO4 hB4 w5 hO5 => ?_⟩
   rw [wr' (by omega) (by omega)] at hB4
   have h4 : Rd F G ts w4 b l sn (i + 1) 0 0 (d : Int) := h3.turn hO4 hB4 hn
   rw [hRe]
   refine ⟨((hO3.weaken (bs' := [b]) fun _ h => (by cases h)).trans hO4 fun x hx => .inl hx).new hO5 (by omega), _, rfl, .leaf .., h4.own hO5 (by simp; omega)⟩
 refine (bad_c h2).mono ?_
 rintro _ w6 ⟨rfl, hO6⟩
 have z6 := hO6.size
 have h6 := h2.only hO6
 refine ⟨_, rfl, sm0 (by omega) hO6, fun hc => (by simp at hc), fun _ => ?_⟩
 obtain ⟨s8, w8, k8, hO8, hc8⟩ := is2 h6
 have z8 := hO8.size
 refine ⟨s8, w8, k8, sm0 (by omega) hO8, hc8.mono ?_⟩
 rintro _ w9 ⟨rfl, hO9⟩
 have z9 := hO9.size
 have hO29 := hO6.tr0 (hO8.tr0 hO9)
 have h9 := h2.only hO29
 rw [show ((0 : Int) == 0) = true from rfl, Bool.true_and]
 have hO09 := hO02.tr0 hO29
 refine ⟨_, rfl, sm0 (by omega) hO9, fun hc w10 hO10 => ?_, fun hc => ?_⟩
 · rw [if_pos hc] at hR
   have hne : (tk ts i).k ≠ 5 := by
    rcases Bool.or_eq_true _ _ ▸ hc with e | e <;> exact sg_k e
   have hn := h.en.next h.lt hne
   have key : ∀ op : Int, op = (if (tk ts i).t = [33] then 15 else 14) -> ∀ w11, Only [] w w11 -> w2.heap.size <= w11.heap.size -> _ := fun op hop w11 hO11 hz11 => within_c hd (h.only hO11) hn (g := 224) (z1 := [.pointer (some ⟨b, 0, none⟩)]) (z2 := []) (fnOk_run (by kernel_rfl)) ⟨.func (.func 224) #[.pointer (some ⟨b, 0, none⟩)] #[], rfl⟩ rfl (r := One (i + 1)) fun hd20 w1 _ h1 => hOne hd20 w1 (i + 1) h1
   refine ⟨fun k n s op sl a w' => k = 4 /\ n = 0 /\ s = T [] /\ op = (if (tk ts i).t = [33] then 15 else 14) /\ sl = Sl.nil /\ a = (tk ts i).a /\ Only [] w w' /\ w2.heap.size <= w'.heap.size, ?_, ?_, ?_⟩
   · rintro _ _ _ _ _ _ w11 ⟨rfl, rfl, rfl, hop, rfl, rfl, hO11, hz11⟩
     refine (key _ hop w11 hO11 hz11).mono ?_
     rintro _ w12 ⟨v, rfl, hD⟩
     obtain ⟨vk, vn, vs, vo, vl, va, rfl⟩ := hD.typed
     have z12 := hD.1.size
     obtain ⟨w13, k13, hB13, hO13⟩ := buildX w12 [exv vk vn vs vo vl va] (by simp) (by simp) (by simp) (parts := #[(0, .agg (exv vk vn vs vo vl va).toArray)]) rfl
     refine ⟨_, _, _, _, _, _, rfl, sm hz11 hD.1, ⟨some ⟨w12.heap.size, 0, none⟩, 1, 1⟩, w13, k13, sm0 (by omega) hO13, fun w14 hO14 => ?_⟩
     have z13 := hO13.size
     have z14 := hO14.size
     have hOf : Only [b] w w14 := (((hO11.weaken (bs' := [b]) fun _ h => (by cases h)).trans hD.1 fun x hx => .inl hx).tr0 hO13).trans hO14 fun x hx => .inr (by simp only [List.mem_cons, List.not_mem_nil, or_false] at hx; omega)
     have hob : ∀ x, x ∈ [k1, k3] -> b < x := by simp; omega
     have hoo : ∀ x, x ∈ [k1, k3] -> x < w11.heap.size := by simp; omega
     refine ⟨hOf, ?_⟩
     obtain ⟨_, hD⟩ := hD
     rw [<- hR]
     cases hN : nestR d (tk ts i).a (One (i + 1)) with
     | error e =>
      rw [hN] at hD
      obtain ⟨a1, a2, j, a3⟩ := hD
      exact ⟨a1, ⟨_, _, _, _, _, _, rfl⟩, j, (a3.only hO13).own hO14 hob⟩
     | ok q =>
      obtain ⟨x, j⟩ := q
      rw [hN] at hD
      obtain ⟨cs, a1, a2, a3⟩ := hD
      refine ⟨_, rfl, ?_, (a3.only hO13).own hO14 hob⟩
      have hcs : (exv vk vn vs vo vl va) = cs := congrArg Array.toList (Value.agg.inj a1)
      rw [hop]
      have hx14 : RX w14 w11.heap.size w12.heap.size x cs := (a2.only hO13 (by simp)).only hO14 fun k hk => .inl (hoo k hk)
      have hB14 : Blk w14 w12.heap.size 56 cs := by
       have := hO14.blk hB13 fun hm => by have := hoo _ hm; omega
       rw [List.flatten_cons, List.flatten_nil, List.append_nil] at this
       rw [<- hcs]; exact this
      exact .one w.heap.size w12.heap.size w12.heap.size _ _ _ _ _ _ x cs (hx14.wide (by omega) (Nat.le_refl _)) (by omega) (Nat.le_refl _) (by have := hB13.lt; omega) id hB14
   · rw [show (ByteArray.mk #[33]) = T [33] from rfl, T_eq]
     intro he w15 hO15
     have he := of_decide_eq_true he
     exact ⟨rfl, rfl, rfl, by rw [if_pos he], rfl, rfl, (hO09.new hO10 (by omega)).new hO15 (by omega), by have := hO15.size; have := hO10.size; omega⟩
   · rw [show (ByteArray.mk #[33]) = T [33] from rfl, T_eq]
     intro he
     have he := of_decide_eq_false he
     exact ⟨rfl, rfl, rfl, by rw [if_neg he], rfl, rfl, hO09.new hO10 (by omega), by have := hO10.size; omega⟩
 · rw [if_neg (by rw [hc]; decide)] at hR
   obtain ⟨s16, w16, k16, hO16, hc16⟩ := is1 h9 [40]
   have z16 := hO16.size
   refine ⟨s16, w16, k16, sm0 (by omega) hO16, hc16.mono ?_⟩
   rintro _ w17 ⟨rfl, hO17⟩
   have z17 := hO17.size
   have hO017 := hO09.tr0 (hO16.tr0 hO17)
   have h17 := h.only hO017
   have hO017b : Only [b] w w17 := hO017.weaken fun _ h => (by cases h)
   rw [show ((0 : Int) == 0) = true from rfl, Bool.true_and]
   refine ⟨_, rfl, sm0 (by omega) hO17, fun hp hB _ _ _ => ?_, fun hp => ?_⟩
   · rw [if_pos hp] at hR
     have hn := h.en.next h.lt (sg_k hp)
     subst hR
     refine (within_c hd h17 hn (g := 236) (z1 := []) (z2 := [.pointer (some ⟨k0, 0, none⟩)]) (fnOk_run (by kernel_rfl)) ⟨.func (.func 236) #[] #[.pointer (some ⟨k0, 0, none⟩)], rfl⟩ rfl (r := parR ts (E0 (i + 1))) fun hd20 w1 hO1 h1 => par_c h1 (by omega) (hO1.blk hB (by simp; omega)) fun w1' hO1' => hE hd20 w1' (i + 1) (h1.only hO1')).mono ?_
     rintro _ w18 ⟨v, rfl, hD⟩
     obtain ⟨vk, vn, vs, vo, vl, va, rfl⟩ := hD.typed
     have z18 := hD.1.size
     refine ⟨_, _, _, _, _, _, rfl, hD.1.same (by simp; omega), _, hD.1.blk hB (by simp; omega), fun w19 hO19 _ => ?_⟩
     exact hD.around hO017b hO19 (by simp; omega)
   rw [if_neg (by rw [hp]; decide)] at hR
   have hp' : (tk ts i).k ≠ 5 -> i + 1 < ts.length := h.en.next h.lt
   refine ⟨fun hi w20 hO20 _ _ _ _ _ hne => ⟨fun k => k = k2, rfl, fun e => hne e.symm, fun e => hne e.symm, fun w21 hO21 => ?_⟩, fun hi => ⟨fun hv w22 hO22 _ _ _ _ _ hne => ⟨fun k => k = k2, rfl, fun e => hne e.symm, fun e => hne e.symm, fun w23 hO23 => ?_⟩, fun hv => ⟨fun hw => ?_, fun hw => ?_⟩⟩⟩
   · have hi : (tk ts i).k = 3 := by simpa using hi
     rw [if_pos hi] at hR
     exact ⟨rfl, (hO017.tr0 hO20).new hO21 (by omega), by rw [hi]; decide, [], rfl, rfl, hR.symm⟩
   · have hi : ¬ (tk ts i).k = 3 := by simpa using hi
     have hv : (tk ts i).k = 1 := by simpa using hv
     rw [if_neg hi, if_pos hv] at hR
     exact ⟨rfl, (hO017.tr0 hO22).new hO23 (by omega), by rw [hv]; decide, _, rfl, rfl, hR.symm⟩
   · have hi : ¬ (tk ts i).k = 3 := by simpa using hi
     have hv : ¬ (tk ts i).k = 1 := by simpa using hv
     rw [show (ByteArray.mk #[105, 110]) = T [105, 110] from rfl, T_eq] at hw
     have hw : (tk ts i).k = 2 /\ (tk ts i).t = [105, 110] := by simpa using hw
     rw [if_neg hi, if_neg hv, if_pos hw] at hR
     have hn := hp' (by rw [hw.1]; decide)
     refine ⟨(i : Int), Blk.at1 h17.blk 1 rfl, b, 1, _, _, rfl, h17.blk, by simp, by omega, by omega, by omega, by omega, fun w24 hO24 hB24 => ?_⟩
     rw [wr' (by omega) (by omega)] at hB24
     have h24 : Rd F G ts w24 b l sn (i + 1) 0 0 (d : Int) := h17.turn hO24 hB24 hn
     have z24 := hO24.size
     refine (must_c h24 [40]).mono ?_
     rintro _ w25 ⟨rfl, hO25, hR25⟩
     have z25 := hO25.size
     refine ⟨rfl, sm (by omega) hO25, ?_⟩
     have hO025 : Only [b] w w25 := (hO017b.trans hO24 fun x hx => .inl hx).trans hO25 fun x hx => .inl hx
     have bad : ∀ {j : Nat} {c a : Int}, Rd F G ts w25 b l sn j c a (d : Int) -> c ≠ 0 -> Calls Tryz.prog 238 #[.pointer (some ⟨b, 0, none⟩)] w25 fun e w' => e = .returned (.string (T [])) /\ Only [b] w25 w' /\ Rd F G ts w' b l sn j c a (d : Int) := fun {j c a} h25 hc => by
      refine (name'_c h25).mono ?_
      rintro e w26 ⟨hO26, hh⟩
      rw [if_neg (fun hh => hc hh.1), if_neg hc, if_neg hc] at hh
      exact ⟨hh.1, hO26, hh.2⟩
     have badm : ∀ {w26 w27 : World} {j : Nat} {c a : Int}, Only [b] w25 w26 -> Only [k3] w26 w27 -> Rd F G ts w26 b l sn j c a (d : Int) -> c ≠ 0 -> R = .error (c, a) -> ∀ s6 : ByteArray, Calls Tryz.prog 237 #[.pointer (some (Addr.add ⟨b, 0, none⟩ 0)), .string (ByteArray.mk #[41])] w27 fun e8 w28 => e8 = (.returned (.tuple #[])) /\ Same [k0, k1, k2, k3] w27 w28 /\ ∀ w29 : World, Only [k1] w28 w29 -> Did5 F G ts w w29 b l sn d R (.agg #[.int .i64 3, .int .i64 0, .string s6, .int .i64 0, Sl.nil.v, .int .i64 (tk ts i).a]) := fun {w26 w27 j c a} hO26 hO27 h26 hc hRe s6 => by
      have z26 := hO26.size
      have z27 := hO27.size
      refine (must_c (h26.own hO27 (by simp; omega)) [41]).mono ?_
      rintro _ w28 ⟨rfl, hO28, hR28⟩
      rw [if_neg (by simp [hc]), if_neg hc, if_neg hc] at hR28
      refine ⟨rfl, sm (by omega) hO28, fun w29 hO29 => ?_⟩
      rw [hRe]
      refine ⟨((((hO025.trans hO26 fun x hx => .inl hx).new hO27 (by omega)).trans hO28 fun x hx => .inl hx).new hO29 (by omega)), hc, ⟨3, 0, s6.data.toList, 0, Sl.nil, _, by unfold exv; rw [<- T_of]⟩, j, hR28.own hO29 (by simp; omega)⟩
     by_cases h1 : sg ts (i + 1) [40] = true
     · rw [if_pos (by simp [h1])] at hR25
       rw [inR, if_pos h1] at hR
       refine (name'_c hR25).mono ?_
       rintro _ w26 ⟨hO26, hh⟩
       have z26 := hO26.size
       by_cases h2 : (tk ts (i + 2)).k = 1
       · rw [if_pos ⟨rfl, h2⟩] at hh
         obtain ⟨rfl, hR26⟩ := hh
         rw [if_pos h2] at hR
         refine ⟨_, rfl, sm (by omega) hO26, fun w27 hO27 => ?_⟩
         have z27 := hO27.size
         have h27 := hR26.own hO27 (by simp; omega)
         refine (must_c h27 [41]).mono ?_
         rintro _ w28 ⟨rfl, hO28, hR28⟩
         refine ⟨rfl, sm (by omega) hO28, fun w29 hO29 => ?_⟩
         have hOf : Only [b] w w29 := (((hO025.trans hO26 fun x hx => .inl hx).new hO27 (by omega)).trans hO28 fun x hx => .inl hx).new hO29 (by omega)
         refine ⟨hOf, ?_⟩
         by_cases h3 : sg ts (i + 3) [41] = true
         · rw [if_pos (by simp [h3])] at hR28
           rw [if_pos h3] at hR
           rw [<- hR]
           exact ⟨_, rfl, .leaf .., hR28.own hO29 (by simp; omega)⟩
         · rw [if_neg (by simp [h3]), if_pos rfl, if_pos rfl] at hR28
           rw [if_neg h3] at hR
           rw [<- hR]
           exact ⟨wrongF_ne, ⟨_, _, _, _, _, _, rfl⟩, _, hR28.own hO29 (by simp; omega)⟩
       · rw [if_neg (fun hh => h2 hh.2), if_pos rfl, if_pos rfl] at hh
         obtain ⟨rfl, hR26⟩ := hh
         rw [if_neg h2] at hR
         exact ⟨_, rfl, sm (by omega) hO26, fun w27 hO27 => badm hO26 hO27 hR26 wrongF_ne hR.symm _⟩
     · rw [if_neg (by simp [h1]), if_pos rfl, if_pos rfl] at hR25
       rw [inR, if_neg h1] at hR
       refine (bad hR25 wrongF_ne).mono ?_
       rintro _ w26 ⟨rfl, hO26, hR26⟩
       exact ⟨_, rfl, sm (by omega) hO26, fun w27 hO27 => badm hO26 hO27 hR26 wrongF_ne hR.symm _⟩
   · have hi : ¬ (tk ts i).k = 3 := by simpa using hi
     have hv : ¬ (tk ts i).k = 1 := by simpa using hv
     rw [show (ByteArray.mk #[105, 110]) = T [105, 110] from rfl, T_eq] at hw
     rw [if_neg hi, if_neg hv, if_neg (fun hh => by rw [hh.1, hh.2] at hw; simp at hw)] at hR
     refine (wrong_c h17).mono ?_
     rintro _ w30 ⟨rfl, hO30, hR30⟩
     rw [if_pos rfl, if_pos rfl] at hR30
     refine ⟨rfl, sm (by omega) hO30, fun w31 hO31 => ⟨(hO017b.trans hO30 fun x hx => .inl hx).new hO31 (by omega), ?_⟩⟩
     rw [<- hR]
     exact ⟨wrongF_ne, ⟨0, 0, [], 0, Sl.nil, _, rfl⟩, i, hR30.own hO31 (by simp; omega)⟩
end
section
variable {F G : Nat -> Prop} {ts : List Tk} {w w' : World} {b : Nat} {l sn : Sl} {i : Nat} {fc fa d : Int}
theorem loop_zero {E : Nat -> Pr} {k : Int} {g : Nat} {x : Ex} {j : Nat} (h : opAt ts k j = 0) : loopR ts E k g x j = .ok (x, j) := by
 cases g with
 | zero => rfl
 | succ g => rw [loopR, if_pos h]
def At5 (F G : Nat -> Prop) (ts : List Tk) (w : World) (b : Nat) (l sn : Sl) (d : Nat) (N : Nat -> Prop) (E : Nat -> Pr) (k : Int) (R : Pr) (nv : Nat) (op : Int) (cs : List Value) (w' : World) : Prop := Only [b] w w' /\
  ((∃ (c a : Int) (j : Nat), op = 0 /\ c ≠ 0 /\ R = .error (c, a) /\ Rd F G ts w' b l sn j c a (d : Int)) ∨
   (∃ (x : Ex) (j : Nat), op = opAt ts k j /\ RXN w' N w.heap.size w'.heap.size x cs /\ Rd F G ts w' b l sn j 0 0 (d : Int) /\ R = loopR ts E k nv x j /\ ts.length - j <= nv))
theorem expr_step {f k d : Nat} (hk6 : k < 6) (h : Rd F G ts w b l sn i 0 0 (d : Int))
  (hE : ∀ w i, Rd F G ts w b l sn i 0 0 (d : Int) -> Calls Tryz.prog 209 #[.pointer (some ⟨b, 0, none⟩), .int .i64 ((k + 1 : Nat) : Int)] w fun e w' => ∃ v, e = .returned v /\ Did5 F G ts w w' b l sn d (exprR ts f (k + 1) d i) v) :
  Calls Tryz.prog 209 #[.pointer (some ⟨b, 0, none⟩), .int .i64 (k : Int)] w fun e w' => ∃ v, e = .returned v /\ Did5 F G ts w w' b l sn d (exprR ts (f + 1) k d i) v := by
 have eR : exprR ts (f + 1) k d i = andR (exprR ts f (k + 1) d i) fun x j => loopR ts (exprR ts f (k + 1) d) (k : Int) (ts.length - j) x j := by rw [exprR, if_neg (by omega)]
 rw [eR]
 have hmono : ∀ i x j, exprR ts f (k + 1) d i = .ok (x, j) -> i < j := fun i x j h => exprR_mono f _ _ i h
 generalize hgE : exprR ts f (k + 1) d = E at *
 generalize hR : (andR (E i) fun x j => loopR ts E (k : Int) (ts.length - j) x j) = R
 refine v16w ⟨b, 0, none⟩ _ (fun v w' => Did5 F G ts w w' b l sn d R v) w ?_
 unfold v16v
 have ek : IntKind.wrap .i64 ((k : Int) + 1) = ((k + 1 : Nat) : Int) := by rw [wr' (by omega) (by omega)]; rfl
 refine ⟨fun hc => absurd (by simpa using hc) (by omega : ¬ (k : Int) = 6), fun _ k1 w3 hk1 hk1' hO3 => ?_⟩
 have hb := h.lb
 rw [ek]
 refine (hE w3 i (h.only hO3)).mono ?_
 rintro _ w4 ⟨v, rfl, hD⟩
 obtain ⟨vk, vn, vs, vo, vl, va, rfl⟩ := hD.typed
 have z3 := hO3.size
 have z4 := hD.1.size
 refine ⟨_, _, _, _, _, _, rfl, hD.1.same (by simp; omega), fun k2 w5 hk2 hk2' hO5 => ?_⟩
 have z5 := hO5.size
 have hO05 : Only [b] w w5 := ((hO3.weaken (bs' := [b]) fun _ h => (by cases h)).trans hD.1 fun x hx => .inl hx).tr0 hO5
 have sm : ∀ {u u' : World}, w5.heap.size <= u.heap.size -> Only [b] u u' -> Same [k1, k2] u u' := fun hu hO => hO.same (by intro x hx; simp only [List.mem_cons, List.not_mem_nil, or_false] at hx ⊢; omega)
 have hbg := h.big
 have hst : ∃ (j : Nat) (c a : Int), Rd F G ts w4 b l sn j c a (d : Int) /\ ∀ w6, Only [] w4 w6 -> ∃ nv, At5 F G ts w b l sn d (fun q => q = k1 ∨ q = k2) E (k : Int) R nv (if c = 0 then opAt ts (k : Int) j else 0) (exv vk vn vs vo vl va) w6 := by
  obtain ⟨hO4, hD2⟩ := hD
  have hO04 : Only [b] w w4 := (hO3.weaken (bs' := [b]) fun _ h => (by cases h)).trans hO4 fun x hx => .inl hx
  cases hEi : E i with
  | error e =>
   rw [hEi] at hD2 hR
   obtain ⟨c, a⟩ := e
   obtain ⟨a1, a2, j, a3⟩ := hD2
   exact ⟨j, c, a, a3, fun w6 hO6 => ⟨0, hO04.tr0 hO6, .inl ⟨c, a, j, if_neg a1, a1, hR.symm, a3.only hO6⟩⟩⟩
  | ok q =>
   obtain ⟨x, j⟩ := q
   rw [hEi] at hD2 hR
   obtain ⟨cs, a1, a2, a3⟩ := hD2
   have hcs : (exv vk vn vs vo vl va) = cs := congrArg Array.toList (Value.agg.inj a1)
   rw [hcs]
   exact ⟨j, 0, 0, a3, fun w6 hO6 => ⟨ts.length - j, hO04.tr0 hO6, .inr ⟨x, j, if_pos rfl, ((a2.only hO6 (by simp)).holes fun q h1 h2 _ => (by omega)).wide z3 hO6.size, a3.only hO6, hR.symm, Nat.le_refl _⟩⟩⟩
 obtain ⟨j0, c0, a0, hR4, hst⟩ := hst
 refine (operator_c (hR4.only hO5) (k : Int)).mono ?_
 rintro _ w6 ⟨rfl, hO6⟩
 have z6 := hO6.size
 obtain ⟨nv0, hA0⟩ := hst w6 (hO5.tr0 hO6)
 refine ⟨_, rfl, hO6.same (by simp; omega), fun nv op i10 i11 s2 i12 l2 i13 w' => w5.heap.size <= w'.heap.size /\ At5 F G ts w b l sn d (fun q => q = k1 ∨ q = k2) E (k : Int) R nv op [.int .i64 i10, .int .i64 i11, .string s2, .int .i64 i12, l2.v, .int .i64 i13] w', nv0, ⟨z6, hA0⟩, ?_⟩
 rintro nv op i10 i11 s2 i12 l2 i13 w7 ⟨z7, hO7, hA⟩
 refine ⟨fun hop => ?_, fun hop w14 hO14 => ?_⟩
 · have hop : op ≠ 0 := by simpa using hop
   rcases hA with ⟨_, _, _, e, _⟩ | ⟨x, j, rfl, hX, hRd, hRe, hnv⟩
   · exact absurd e hop
   have hn := hRd.en.next hRd.lt (opFrom_sg _ _ hop)
   obtain ⟨g, rfl⟩ : ∃ g, nv = g + 1 := ⟨nv - 1, by omega⟩
   rw [loopR, if_neg hop] at hRe
   refine ⟨(j : Int), Blk.at1 hRd.blk 1 rfl, b, 1, _, _, rfl, hRd.blk, by simp, by omega, by omega, fun w8 hO8 hB8 => ?_⟩
   rw [wr' (by omega) (by omega)] at hB8
   have h8 : Rd F G ts w8 b l sn (j + 1) 0 0 (d : Int) := hRd.turn hO8 hB8 hn
   have z8 := hO8.size
   refine (hE w8 (j + 1) h8).mono ?_
   rintro _ w9 ⟨v, rfl, hD9⟩
   obtain ⟨yk, yn, ys, yo, yl, ya, rfl⟩ := hD9.typed
   have z9 := hD9.1.size
   refine ⟨_, _, _, _, _, _, rfl, sm (by omega) hD9.1, fun k8 w10 hk8 hk8' hO10 => ?_⟩
   have z10 := hO10.size
   obtain ⟨w11, k11, hB11, hO11⟩ := buildX w10 [[.int .i64 i10, .int .i64 i11, .string s2, .int .i64 i12, l2.v, .int .i64 i13], exv yk yn ys yo yl ya] (by simp) (by simp) (by simp) (parts := #[(0, .agg #[.int .i64 i10, .int .i64 i11, .string s2, .int .i64 i12, l2.v, .int .i64 i13]), (1, .agg (exv yk yn ys yo yl ya).toArray)]) rfl
   have z11 := hO11.size
   refine ⟨⟨some ⟨w10.heap.size, 0, none⟩, 2, 2⟩, w11, k11, hO11.same (by simp; omega), fun w12 hO12 => ?_⟩
   have z12 := hO12.size
   have hO012 : Only [b] w w12 := ((((hO7.trans hO8 fun x hx => .inl hx).trans hD9.1 fun x hx => .inl hx).tr0 hO10).tr0 hO11).new hO12 (by omega)
   have hO912 : Only [k2] w9 w12 := ((hO10.tr0 hO11).weaken (bs' := [k2]) fun _ h => (by cases h)).trans hO12 fun x hx => .inl hx
   have hst2 : ∃ (j' : Nat) (c a : Int), Rd F G ts w9 b l sn j' c a (d : Int) /\ ∀ w13, Only [] w12 w13 -> ∃ nv, nv < g + 1 /\ At5 F G ts w b l sn d (fun q => q = k1 ∨ q = k2) E (k : Int) R nv (if c = 0 then opAt ts (k : Int) j' else 0) (exv 5 0 [] (opAt ts (k : Int) j) ⟨some ⟨w10.heap.size, 0, none⟩, 2, 2⟩ i13) w13 := by
    obtain ⟨hO9, hD2⟩ := hD9
    cases hEi : E (j + 1) with
    | error e =>
     rw [hEi] at hD2 hRe
     obtain ⟨c, a⟩ := e
     obtain ⟨a1, a2, j', a3⟩ := hD2
     exact ⟨j', c, a, a3, fun w13 hO13 => ⟨0, by omega, hO012.tr0 hO13, .inl ⟨c, a, j', if_neg a1, a1, hRe, (a3.own hO912 (by simp; omega)).only hO13⟩⟩⟩
    | ok q =>
     obtain ⟨y, j'⟩ := q
     rw [hEi] at hD2 hRe
     obtain ⟨cs, a1, a2, a3⟩ := hD2
     have hcs : (exv yk yn ys yo yl ya) = cs := congrArg Array.toList (Value.agg.inj a1)
     have hjj := hmono _ _ _ hEi
     obtain ⟨xl, hxl, _⟩ := hX.cells
     have hxa : i13 = x.a := by
      simp only [exv, List.cons.injEq, Value.int.injEq] at hxl
      exact hxl.2.2.2.2.2.1.2
     refine ⟨j', 0, 0, a3, fun w13 hO13 => ⟨g, by omega, hO012.tr0 hO13, .inr ⟨.mk 5 0 [] (opAt ts (k : Int) j) [x, y] x.a, j', if_pos rfl, ?_, (a3.own hO912 (by simp; omega)).only hO13, hRe, ?_⟩⟩⟩
     · have z13 := hO13.size
       have hO713 : Only [b, k2] w7 w13 := (((((hO8.weaken (bs' := [b, k2]) fun x hx => .inl (by simp only [List.mem_singleton] at hx; simp [hx])).trans hO9 fun x hx => .inl (by simp only [List.mem_singleton] at hx; simp [hx])).trans hO912 fun x hx => .inl (by simp only [List.mem_singleton] at hx; simp [hx])).tr0 hO13))
       have hO913 : Only [k2] w9 w13 := hO912.tr0 hO13
       have hB13 : Blk w13 w10.heap.size 56 ([.int .i64 i10, .int .i64 i11, .string s2, .int .i64 i12, l2.v, .int .i64 i13] ++ cs) := by
        have := hO13.blk (hO12.blk hB11 (by simp; omega)) (by simp)
        rw [<- hcs]
        simpa using this
       have hx13 : RXN w13 (fun q => q = k1 ∨ q = k2) w.heap.size w7.heap.size x [.int .i64 i10, .int .i64 i11, .string s2, .int .i64 i12, l2.v, .int .i64 i13] := by
        exact hX.only hO713 fun q hq => by
         simp only [List.mem_cons, List.not_mem_nil, or_false] at hq
         rcases hq with rfl | rfl
         · exact .inl hb
         · exact .inr (.inr (.inr rfl))
       have hy13 : RXN w13 (fun q => q = k1 ∨ q = k2) w8.heap.size w9.heap.size y cs := (a2.only hO913 fun q hq => .inl (by simp only [List.mem_singleton] at hq; omega)).holes fun q h1 h2 _ => (by omega)
       rw [hxa]
       exact .two w.heap.size w7.heap.size w8.heap.size w9.heap.size w10.heap.size _ _ _ _ _ _ x y _ cs hx13 z8 hy13 (by omega) (by omega) (by omega) (by omega) (by have := hB13.lt; omega) (by omega) hB13
     · omega
   obtain ⟨j', c', a', hR9, hst2⟩ := hst2
   refine (operator_c (hR9.own hO912 (by simp; omega)) (k : Int)).mono ?_
   rintro _ w13 ⟨rfl, hO13⟩
   obtain ⟨nv', hnv', hA'⟩ := hst2 w13 hO13
   exact ⟨_, rfl, hO13.same (by simp; omega), nv', hnv', by have := hO13.size; omega, hA'⟩
 · have hop : op = 0 := by simpa using hop
   refine ⟨hO7.new hO14 (by omega), ?_⟩
   rcases hA with ⟨c, a, j, _, hc, hRe, hRd⟩ | ⟨x, j, hoj, hX, hRd, hRe, hnv⟩
   · rw [hRe]
     exact ⟨hc, ⟨i10, i11, s2.data.toList, i12, l2, i13, by unfold exv; rw [<- T_of]⟩, j, hRd.own hO14 (by simp; omega)⟩
   · rw [hRe, loop_zero (by rw [<- hoj, hop])]
     exact ⟨_, rfl, ((hX.only hO14 fun q hq => .inr (.inr (.inl (by simpa using hq)))).holes fun _ _ _ _ h => h).wide (Nat.le_refl _) hO14.size, hRd.own hO14 (by simp; omega)⟩
theorem reader_c : ∀ f : Nat, (∀ (k d i : Nat) (w : World), k <= 6 -> d <= 20 -> need k d <= f -> Rd F G ts w b l sn i 0 0 (d : Int) ->
      Calls Tryz.prog 209 #[.pointer (some ⟨b, 0, none⟩), .int .i64 (k : Int)] w fun e w' => ∃ v, e = .returned v /\ Did5 F G ts w w' b l sn d (exprR ts f k d i) v) /\
    (∀ (d i : Nat) (w : World), d <= 20 -> need 6 d <= f -> Rd F G ts w b l sn i 0 0 (d : Int) ->
      Calls Tryz.prog 224 #[.pointer (some ⟨b, 0, none⟩)] w fun e w' => ∃ v, e = .returned v /\ Did5 F G ts w w' b l sn d (exprR ts f 6 d i) v)
  | 0 => ⟨fun k d i w hk hd hn => by unfold need at hn; omega, fun d i w hd hn => by unfold need at hn; omega⟩
  | f + 1 => by
    obtain ⟨ih1, ih2⟩ := reader_c f
    have one : ∀ (d i : Nat) (w : World), d <= 20 -> need 6 d <= f + 1 -> Rd F G ts w b l sn i 0 0 (d : Int) ->
      Calls Tryz.prog 224 #[.pointer (some ⟨b, 0, none⟩)] w fun e w' => ∃ v, e = .returned v /\ Did5 F G ts w w' b l sn d (exprR ts (f + 1) 6 d i) v := fun d i w hd hn h => by
      unfold need at hn
      exact eone_c hd h (fun h20 w i h => ih1 0 (d + 1) i w (by omega) (by omega) (by unfold need; omega) h) (fun h20 w i h => ih2 (d + 1) i w (by omega) (by unfold need; omega) h)
    refine ⟨fun k d i w hk hd hn h => ?_, one⟩
    by_cases h6 : k = 6
    · subst h6
      refine v16w ⟨b, 0, none⟩ _ (fun v w' => Did5 F G ts w w' b l sn d (exprR ts (f + 1) 6 d i) v) w ?_
      unfold v16v
      refine ⟨fun _ k0 w0 hk0 hk0' hO0 => ?_, fun hc => absurd hc (by decide)⟩
      refine (one d i w0 hd hn (h.only hO0)).mono ?_
      rintro _ w1 ⟨v, rfl, hD⟩
      obtain ⟨vk, vn, vs, vo, vl, va, rfl⟩ := hD.typed
      have hb := h.lb
      exact ⟨_, _, _, _, _, _, rfl, hD.1.same (by simp; omega), fun w2 hO2 => hD.around (hO0.weaken fun _ h => (by cases h)) hO2 (by simp; omega)⟩
    · unfold need at hn
      exact expr_step (by omega) h fun w i h => ih1 (k + 1) d i w (by omega) hd (by unfold need; omega) h
end
theorem build_ops (w : World) : ∃ (s : Sl) (w' : World), (Instr.buildSlice 57 16 #[.mk 1 (.string (ByteArray.mk #[43])), .mk 2 (.string (ByteArray.mk #[45])), .mk 3 (.string (ByteArray.mk #[42])), .mk 4 (.string (ByteArray.mk #[47])), .mk 5 (.string (ByteArray.mk #[37])), .mk 6 (.string (ByteArray.mk #[60])), .mk 7 (.string (ByteArray.mk #[60, 61])), .mk 8 (.string (ByteArray.mk #[62])), .mk 9 (.string (ByteArray.mk #[62, 61])), .mk 10 (.string (ByteArray.mk #[61, 61])), .mk 11 (.string (ByteArray.mk #[33, 61])), .mk 12 (.string (ByteArray.mk #[38, 38])), .mk 13 (.string (ByteArray.mk #[124, 124])), .mk 14 (.string (ByteArray.mk #[45])), .mk 15 (.string (ByteArray.mk #[33]))]).run Tryz.prog w = .ok (Sl.v s) w' /\
  SliceF rTx 1 w' (fun k => w.heap.size <= k /\ k < w'.heap.size) s opsL /\ Only [] w w' := by
 have hrun := run_buildSlice (P := Tryz.prog) w 57 9 16 #[.mk 1 (.string (ByteArray.mk #[43])), .mk 2 (.string (ByteArray.mk #[45])), .mk 3 (.string (ByteArray.mk #[42])), .mk 4 (.string (ByteArray.mk #[47])), .mk 5 (.string (ByteArray.mk #[37])), .mk 6 (.string (ByteArray.mk #[60])), .mk 7 (.string (ByteArray.mk #[60, 61])), .mk 8 (.string (ByteArray.mk #[62])), .mk 9 (.string (ByteArray.mk #[62, 61])), .mk 10 (.string (ByteArray.mk #[61, 61])), .mk 11 (.string (ByteArray.mk #[33, 61])), .mk 12 (.string (ByteArray.mk #[38, 38])), .mk 13 (.string (ByteArray.mk #[124, 124])), .mk 14 (.string (ByteArray.mk #[45])), .mk 15 (.string (ByteArray.mk #[33]))]
  (opsL.map fun x => Value.string (T x)).toArray Tryz.t9 _ (by kernel_rfl) (by kernel_rfl) rfl (by decide) (by decide) (by kernel_rfl)
 refine ⟨⟨some ⟨w.heap.size, 0, none⟩, 16, 16⟩, _, hrun, ⟨rfl, Nat.le_refl _, fun h => (by cases h), (by decide : (16 : Nat) <= 9223372036854775807), fun j x hx => ?_⟩, Only.alloc _ _⟩
 have hB := Blk.alloc w 9 (opsL.map fun x => Value.string (T x))
 have hlt := hB.lt
 refine ⟨⟨w.heap.size, 0, none⟩, [.string (T x)], rfl, ⟨Nat.le_refl _, hlt⟩, rfl, ?_, rfl⟩
 rw [Nat.mul_one]
 exact Blk.at1 hB j (by rw [List.getElem?_map, hx]; rfl)
theorem ops_c (w : World) : Calls Tryz.prog 174 #[] w fun e w' => ∃ s : Sl, e = .returned s.v /\ SliceF rTx 1 w' (fun k => w.heap.size <= k /\ k < w'.heap.size) s opsL /\ Only [] w w' := by
 refine (v14w (fun v w' => ∃ s : Sl, v = s.v /\ SliceF rTx 1 w' (fun k => w.heap.size <= k /\ k < w'.heap.size) s opsL /\ Only [] w w') w ?_).mono (by
  rintro e w' ⟨v, rfl, s, rfl, h⟩; exact ⟨s, rfl, h⟩)
 unfold v14v
 obtain ⟨s, w', h1, h2, h3⟩ := build_ops w
 exact ⟨s, w', h1, s, rfl, h2, h3⟩
def endN (ts : List Tk) : Nat := (ts.takeWhile fun t => t.k != 5).length
theorem endN_le (ts : List Tk) : endN ts <= ts.length := by
 unfold endN
 exact (List.takeWhile_sublist _).length_le
theorem tk_cons_s {t : Tk} {ts : List Tk} {i : Nat} : tk (t :: ts) (i + 1) = tk ts i := by unfold tk; rw [List.getElem?_cons_succ]
theorem tk_cons_z {t : Tk} {ts : List Tk} : tk (t :: ts) 0 = t := rfl
theorem endN_lt : ∀ (ts : List Tk) (i : Nat), i < endN ts -> (tk ts i).k ≠ 5
 | [], _, h => by simp [endN] at h
 | t :: ts, i, h => by
  unfold endN at h
  rw [List.takeWhile_cons] at h
  split at h
  · rename_i ht
    cases i with
    | zero => rw [tk_cons_z]; simpa using ht
    | succ i => rw [tk_cons_s]; exact endN_lt ts i (by simpa [endN] using h)
  · simp at h
theorem endN_at : ∀ (ts : List Tk), endN ts < ts.length -> (tk ts (endN ts)).k = 5
 | [], h => by simp at h
 | t :: ts, h => by
  unfold endN at h ⊢
  rw [List.takeWhile_cons] at h ⊢
  split
  · rename_i ht
    rw [if_pos ht] at h
    rw [List.length_cons, tk_cons_s]
    exact endN_at ts (by simpa [endN] using h)
  · rename_i ht
    rw [List.length_nil, tk_cons_z]
    simpa using ht
theorem endN_end {ts : List Tk} (h : endN ts + 1 = ts.length) : EndL ts := fun i hi => by
 constructor
 · intro hk
   refine Decidable.byContradiction fun hn => endN_lt ts i (by omega) hk
 · intro hn
   have : i = endN ts := by omega
   rw [this]
   exact endN_at ts (by omega)
theorem isEnd_c (w : World) (t : Tk) : Calls Tryz.prog 208 #[t.v] w fun e w' => e = .returned (.bool (t.k == 5)) /\ Only [] w w' := by
 refine ret (v3w t.k (T t.t) t.n t.a (fun v w' => v = .bool (t.k == 5) /\ Only [] w w') w ?_)
 unfold v3v
 exact fun k0 w0 _ _ hO => ⟨rfl, hO⟩
theorem endIdx_c {w : World} {F : Nat -> Prop} {l : Sl} {ts : List Tk} (h : SliceF rTk 4 w F l ts) : Calls Tryz.prog 207 #[l.v, .func (.func 208) #[] #[]] w fun e w' => e = .returned (.int .i64 (if endN ts < ts.length then (endN ts : Int) else -1)) /\ Only [] w w' := by
 refine ret (v80w l ⟨.func (.func 208) #[] #[], rfl⟩ (fun v w' => v = .int .i64 (if endN ts < ts.length then (endN ts : Int) else -1) /\ Only [] w w') w ?_)
 unfold v80v
 have hlen := h.len
 have hbig := h.big
 have hcap := h.cap
 refine ⟨fun nv i w' => ∃ n : Nat, n <= endN ts /\ i = (n : Int) /\ nv = ts.length - n /\ Only [] w w', ts.length, ⟨0, Nat.zero_le _, rfl, rfl, Only.refl _ _⟩, ?_⟩
 rintro nv _ w0 ⟨n, hn, rfl, rfl, hO0⟩
 have hle := endN_le ts
 refine ⟨fun hc => ?_, fun hc => ?_⟩
 · have hlt : (n : Int) < l.n := of_decide_eq_true hc
   obtain ⟨ad, x, cs, g1, g2, g3, g4, g5, g6⟩ := (SliceF.only rTk_ok (by decide) h hO0 (by simp)).get (Int.natCast_nonneg n) hlt
   rw [Int.toNat_natCast, tk_at (by omega)] at g2
   injection g2 with g2
   subst g2
   unfold rTk at g6
   subst g6
   refine ⟨ad, g1, _, _, _, _, g5, 208, [], [], rfl, fnOk_run (by kernel_rfl), ?_⟩
   refine (isEnd_c w0 (tk ts n)).mono ?_
   rintro _ w1 ⟨rfl, hO1⟩
   refine ⟨_, rfl, fun hb => ⟨?_, hO0.tr0 hO1⟩, fun hb => ⟨ts.length - (n + 1), by omega, n + 1, ?_, by rw [wr' (by omega) (by omega)]; rfl, rfl, hO0.tr0 hO1⟩⟩
   · have hb : (tk ts n).k = 5 := by simpa using hb
     have : n = endN ts := by
      refine Decidable.byContradiction fun hne => endN_lt ts n (by omega) hb
     rw [if_pos (by omega), this]
   · have hb : ¬ (tk ts n).k = 5 := by simpa using hb
     refine Decidable.byContradiction fun hne => hb ?_
     have : n = endN ts := by omega
     rw [this]
     exact endN_at ts (by omega)
 · have hge : ¬ (n : Int) < l.n := of_decide_eq_false hc
   rw [if_neg (by omega)]
   exact ⟨rfl, hO0⟩
def ex0 : Ex := .mk 0 0 [] 0 [] 0
def parseA (ts : List Tk) (a : Int) : Ex × Int × Int × Int :=
 if 0 <= a /\ a < ts.length /\ endN ts + 1 = ts.length then (match parseR ts a.toNat with
  | .error (c, p) => (ex0, 0, c, p)
  | .ok (x, j) => (x, (j : Int), 0, 0))
 else (ex0, 0, 1, -1)
theorem rx0 (w : World) (lo hi : Nat) : RX w lo hi ex0 [.int .i64 0, .int .i64 0, .string (ByteArray.mk #[]), .int .i64 0, Sl.nil.v, .int .i64 0] := .leaf ..
theorem parse_c {w : World} {F : Nat -> Prop} {l : Sl} {ts : List Tk} (h : SliceF rTk 4 w F l ts) (a : Int) (ha : InI a) : Calls Tryz.prog 181 #[l.v, .int .i64 a] w fun e w' =>
  ∃ cs, e = .returned (.tuple #[.agg cs.toArray, .int .i64 (parseA ts a).2.1, .agg #[.int .i64 (parseA ts a).2.2.1, .int .i64 (parseA ts a).2.2.2]]) /\ RX w' w.heap.size w'.heap.size (parseA ts a).1 cs /\ ((parseA ts a).2.2.1 = 0 -> 0 <= (parseA ts a).2.1 /\ (parseA ts a).2.1 < ts.length) /\ Only [] w w' := by
 refine (v4w l a (fun v w' => ∃ cs, v = (.tuple #[.agg cs.toArray, .int .i64 (parseA ts a).2.1, .agg #[.int .i64 (parseA ts a).2.2.1, .int .i64 (parseA ts a).2.2.2]]) /\ RX w' w.heap.size w'.heap.size (parseA ts a).1 cs /\ ((parseA ts a).2.2.1 = 0 -> 0 <= (parseA ts a).2.1 /\ (parseA ts a).2.1 < ts.length) /\ Only [] w w') w ?_).mono (by
  rintro e w' ⟨v, rfl, cs, rfl, h⟩; exact ⟨cs, rfl, h⟩)
 unfold v4v
 intro k0 k1 w0 hk0 hk0' hk1 hk1' hO0
 have hlen := h.len
 have hcap := h.cap
 have hbig := h.big
 have z0 := hO0.size
 have h := (h.inHeap rTk_ok (by decide))
 refine (endIdx_c (SliceF.only rTk_ok (by decide) h hO0 (by simp))).mono ?_
 rintro _ w1 ⟨rfl, hO1⟩
 have z1 := hO1.size
 have hO01 := hO0.tr0 hO1
 have hle := endN_le ts
 have hcond : (((decide (a < 0)) || (decide (a >= (l.n : Int)))) || ((if endN ts < ts.length then (endN ts : Int) else -1) != (IntKind.wrap .i64 ((l.n : Int) - 1)))) = !decide (0 <= a /\ a < ts.length /\ endN ts + 1 = ts.length) := by
  rw [wr' (by omega) (by omega), hlen]
  by_cases h1 : endN ts < ts.length
  · rw [if_pos h1, Bool.eq_iff_iff]
    simp
    omega
  · rw [if_neg h1, Bool.eq_iff_iff]
    simp
    omega
 refine ⟨_, rfl, hO1.same (by simp; omega), ?_⟩
 rw [hcond]
 refine ⟨fun hc w2 hO2 => ?_, fun hc => ?_⟩
 · have hc : ¬ (0 <= a /\ a < ts.length /\ endN ts + 1 = ts.length) := by
    rw [Bool.not_eq_true', decide_eq_false_iff_not] at hc; exact hc
   rw [parseA, if_neg hc]
   exact ⟨_, rfl, rx0 _ _ _, fun h => (by cases h), (hO01.weaken (bs' := []) fun _ h => (by cases h)).trans hO2 fun x hx => .inr (by simp only [List.mem_cons, List.not_mem_nil, or_false] at hx; omega)⟩
 · have hc : 0 <= a /\ a < ts.length /\ endN ts + 1 = ts.length := by
    rw [Bool.not_eq_false', decide_eq_true_eq] at hc; exact hc
   rw [parseA, if_pos hc]
   obtain ⟨i, rfl⟩ : ∃ i : Nat, a = (i : Int) := ⟨a.toNat, by omega⟩
   refine (ops_c w1).mono ?_
   rintro _ w3 ⟨sn, rfl, hsn, hO3⟩
   have z3 := hO3.size
   refine ⟨sn, rfl, hO3.same (by simp; omega), fun b w4 hb hb' hO4 hB4 => ?_⟩
   have z4 := hO4.size
   have hO03 := hO01.tr0 hO3
   have hR : Rd (fun k => F k /\ k < w.heap.size) (fun k => w1.heap.size <= k /\ k < w3.heap.size) ts w4 b l sn i 0 0 ((0 : Nat) : Int) :=
    ⟨hB4, SliceF.only rTk_ok (by decide) h (hO03.tr0 hO4) (by simp), SliceF.only rTx_ok (by decide) hsn hO4 (by simp), fun k hk => by have := hk.2; omega, fun k hk => by have := hk.2; omega, endN_end hc.2.2, by omega⟩
   refine ((reader_c (need 0 0)).1 0 0 i w4 (by decide) (by decide) (Nat.le_refl _) hR).mono ?_
   rintro _ w5 ⟨v, rfl, hD⟩
   obtain ⟨vk, vn, vs, vo, vl, va, rfl⟩ := hD.typed
   have z5 := hD.1.size
   obtain ⟨hO5, hD⟩ := hD
   rw [Int.toNat_natCast]
   have hpr : parseR ts i = exprR ts (need 0 0) 0 0 i := rfl
   rw [hpr]
   have fin : ∀ {j : Nat} {c p : Int}, Rd (fun k => F k /\ k < w.heap.size) (fun k => w1.heap.size <= k /\ k < w3.heap.size) ts w5 b l sn j c p ((0 : Nat) : Int) -> ∀ w8, Only [] w5 w8 -> ∀ w9, Only [k1, k0] w8 w9 -> Only [] w w9 := fun hR w8 hO8 w9 hO9 => (((hO03.tr0 hO4).trans hO5 fun x hx => .inr (by simp only [List.mem_singleton] at hx; omega)).tr0 hO8).trans hO9 fun x hx => .inr (by simp only [List.mem_cons, List.not_mem_nil, or_false] at hx; omega)
   refine ⟨_, _, _, _, _, _, rfl, hO5.same (by simp; omega), ?_⟩
   cases hE : exprR ts (need 0 0) 0 0 i with
   | error e =>
    rw [hE] at hD
    obtain ⟨c, p⟩ := e
    obtain ⟨a1, a2, j, a3⟩ := hD
    refine ⟨_, _, _, _, _, _, a3.blk, fun k3 w6 hk3 hk3' hO6 hB6 => ?_⟩
    have z6 := hO6.size
    refine (bad_c (a3.only hO6)).mono ?_
    rintro _ w7 ⟨rfl, hO7⟩
    have h7 := (a3.only hO6).only hO7
    have hne : (c != 0) = true := by simpa using a1
    refine ⟨_, rfl, hO7.same (by simp; omega), _, _, _, _, _, _, h7.blk, fun _ w8 hO8 hB8 n1 n2 n3 n4 n5 n6 => ⟨fun k => k = b, rfl, fun e => n2 e, fun e => n4 e, fun w9 hO9 _ => ⟨_, rfl, rx0 _ _ _, fun h => absurd h a1, fin a3 w8 (hO6.tr0 (hO7.tr0 hO8)) w9 hO9⟩⟩, fun hc => by rw [hne] at hc; cases hc⟩
   | ok q =>
    rw [hE] at hD
    obtain ⟨x, j⟩ := q
    obtain ⟨cs, a1, a2, a3⟩ := hD
    refine ⟨_, _, _, _, _, _, a3.blk, fun k3 w6 hk3 hk3' hO6 hB6 => ?_⟩
    have z6 := hO6.size
    refine (bad_c (a3.only hO6)).mono ?_
    rintro _ w7 ⟨rfl, hO7⟩
    have z7 := hO7.size
    have h7 := (a3.only hO6).only hO7
    refine ⟨_, rfl, hO7.same (by simp; omega), _, _, _, _, _, _, h7.blk, fun hc => (by simp at hc), fun _ w10 hO10 hB10 n1 n2 n3 n4 n5 n6 => ⟨fun k => k = b, rfl, fun e => n2 e, fun e => n4 e, fun w11 hO11 _ => ?_⟩⟩
    have z10 := hO10.size
    have z11 := hO11.size
    have hcs : (exv vk vn vs vo vl va) = cs := congrArg Array.toList (Value.agg.inj a1)
    refine ⟨exv vk vn vs vo vl va, rfl, ?_, fun _ => ⟨Int.natCast_nonneg j, by have := a3.lt; dsimp only; omega⟩, fin a3 w10 (hO6.tr0 (hO7.tr0 hO10)) w11 hO11⟩
    rw [hcs]
    exact ((a2.only (hO6.tr0 (hO7.tr0 hO10)) (by simp)).only hO11 fun q hq => .inl (by simp only [List.mem_cons, List.not_mem_nil, or_false] at hq; omega)).wide (by omega) (by omega)
def readA (l : List UInt8) : Ex × Int × Int :=
 if (tokensM l).2.1 ≠ 0 then (ex0, (tokensM l).2.1, (tokensM l).2.2)
 else if (parseA (tokensM l).1 0).2.2.1 ≠ 0 then (ex0, (parseA (tokensM l).1 0).2.2.1, (parseA (tokensM l).1 0).2.2.2)
 else if (tk (tokensM l).1 (parseA (tokensM l).1 0).2.1.toNat).k ≠ 5 then (ex0, 4, (tk (tokensM l).1 (parseA (tokensM l).1 0).2.1.toNat).a)
 else ((parseA (tokensM l).1 0).1, 0, (parseA (tokensM l).1 0).2.2.2)
theorem read_c {w : World} (l : List UInt8) (hE : Er w) : Calls Tryz.prog 176 #[.string (T l)] w fun e w' =>
  ∃ cs, e = .returned (.tuple #[.agg cs.toArray, .agg #[.int .i64 (readA l).2.1, .int .i64 (readA l).2.2]]) /\ RX w' w.heap.size w'.heap.size (readA l).1 cs /\ Only [] w w' := by
 refine (v5w (T l) (fun v w' => ∃ cs, v = (.tuple #[.agg cs.toArray, .agg #[.int .i64 (readA l).2.1, .int .i64 (readA l).2.2]]) /\ RX w' w.heap.size w'.heap.size (readA l).1 cs /\ Only [] w w') w ?_).mono (by
  rintro e w' ⟨v, rfl, cs, rfl, h⟩; exact ⟨cs, rfl, h⟩)
 unfold v5v
 intro k0 k1 w0 hk0 hk0' hk1 hk1' hO0
 have z0 := hO0.size
 refine (tokens_c l (hE.only hO0)).mono ?_
 rintro _ w1 ⟨l0, rfl, hT, hO1⟩
 have z1 := hO1.size
 have hO01 := hO0.tr0 hO1
 generalize htk : tokensM l = tm at *
 obtain ⟨ts, c, p⟩ := tm
 dsimp only at hT ⊢
 have hra : readA l = if c ≠ 0 then (ex0, c, p) else if (parseA ts 0).2.2.1 ≠ 0 then (ex0, (parseA ts 0).2.2.1, (parseA ts 0).2.2.2) else if (tk ts (parseA ts 0).2.1.toNat).k ≠ 5 then (ex0, 4, (tk ts (parseA ts 0).2.1.toNat).a) else ((parseA ts 0).1, 0, (parseA ts 0).2.2.2) := by
  unfold readA; rw [htk]
 refine ⟨l0, _, _, rfl, hO1.same (by simp; omega), fun hc k2 w2 hk2 hk2' hO2 n1 n2 n3 => ⟨fun k => k = k2, rfl, fun e => n2 e, fun e => n3 e, fun w3 hO3 => ?_⟩, fun hc k3 w4 hk3 hk3' hO4 => ?_⟩
 · have hc : c ≠ 0 := by simpa using hc
   rw [hra, if_pos hc]
   exact ⟨_, rfl, rx0 _ _ _, ((hO01.tr0 hO2).trans hO3 fun x hx => .inr (by simp only [List.mem_cons, List.not_mem_nil, or_false] at hx; omega))⟩
 · have hc : c = 0 := by simpa using hc
   rw [if_neg (by simp [hc])] at hra
   have z4 := hO4.size
   refine (parse_c (hT.only hO4).sl 0 ⟨by decide, by decide⟩).mono ?_
   rintro _ w5 ⟨cs, rfl, hX, hj, hO5⟩
   have z5 := hO5.size
   generalize hpa : parseA ts 0 = pa at *
   obtain ⟨x, j, c', p'⟩ := pa
   dsimp only at hX hj hra ⊢
   obtain ⟨xl, rfl, _⟩ := hX.cells
   refine ⟨_, _, _, _, _, _, _, _, _, rfl, hO5.same (by simp; omega), fun k4 w6 hk4 hk4' hO6 => ?_⟩
   have z6 := hO6.size
   have h6 := ((hT.only (hO4.tr0 hO5)).keep (w' := w6) fun k hk hlt => hO6.block k hlt (by
    have := hT.blk hk.2
    simp only [List.mem_singleton]
    dsimp only at this
    omega))
   have hl6 := h6.len
   have hO06 : Only [] w w6 := ((hO01.tr0 hO4).tr0 hO5).new hO6 (by omega)
   have fin : ∀ {w8 w9 : World}, Only [k3] w6 w8 -> Only [k1, k0] w8 w9 -> Only [] w w9 := fun h8 h9 => (hO06.new h8 (by omega)).trans h9 fun x hx => .inr (by simp only [List.mem_cons, List.not_mem_nil, or_false] at hx; omega)
   refine ⟨fun i9 i10 w7 => Only [k3] w6 w7 /\ ((c' ≠ 0 /\ i9 = c' /\ i10 = p') ∨ (c' = 0 /\ (tk ts j.toNat).k ≠ 5 /\ i9 = 4 /\ i10 = (tk ts j.toNat).a) ∨ (c' = 0 /\ (tk ts j.toNat).k = 5 /\ i9 = 0 /\ i10 = p')), ?_, ?_⟩
   · rintro i9 i10 w7 ⟨hO7, hcase⟩
     have z7 := hO7.size
     refine ⟨fun hi w8 hO8 n1 n2 n3 n4 n5 n6 => ⟨fun k => k = k3, rfl, ?_, ?_, fun w9 hO9 => ?_⟩, fun hi w10 hO10 n1 n2 n3 n4 n5 n6 => ⟨fun k => k = k3, rfl, ?_, ?_, fun w11 hO11 => ?_⟩⟩
     · intro e; omega
     · intro e; omega
     · have hi : i9 ≠ 0 := by simpa using hi
       have hr : readA l = (ex0, i9, i10) := by
        rw [hra]
        rcases hcase with ⟨a1, rfl, rfl⟩ | ⟨a1, a2, rfl, rfl⟩ | ⟨a1, a2, rfl, rfl⟩
        · rw [if_pos a1]
        · rw [if_neg (by simp [a1]), if_pos a2]
        · exact absurd rfl hi
       rw [hr]
       exact ⟨_, rfl, rx0 _ _ _, fin (hO7.tr0 hO8) hO9⟩
     · intro e; omega
     · intro e; omega
     · have hi : i9 = 0 := by simpa using hi
       have hr : readA l = (x, i9, i10) := by
        rw [hra]
        rcases hcase with ⟨a1, rfl, rfl⟩ | ⟨a1, a2, rfl, rfl⟩ | ⟨a1, a2, rfl, rfl⟩
        · exact absurd hi a1
        · exact absurd hi (by decide)
        · rw [if_neg (by simp [a1]), if_neg (by simp [a2])]
       rw [hr]
       have hO5' : Only [k3, k1, k0] w5 w11 := (((hO6.trans hO7 fun x hx => .inl hx).tr0 hO10).weaken (bs' := [k3, k1, k0]) fun x hx => .inl (by simp only [List.mem_singleton] at hx; simp [hx])).trans hO11 fun x hx => .inl (by simp only [List.mem_cons, List.not_mem_nil, or_false] at hx ⊢; omega)
       have z11 := hO5'.size
       exact ⟨_, rfl, (hX.only hO5' fun q hq => .inl (by simp only [List.mem_cons, List.not_mem_nil, or_false] at hq; omega)).wide (by omega) z11, fin (hO7.tr0 hO10) hO11⟩
   · by_cases hc' : c' = 0
     · obtain ⟨hj0, hj1⟩ := hj hc'
       obtain ⟨n, rfl⟩ : ∃ n : Nat, j = (n : Int) := ⟨j.toNat, by omega⟩
       obtain ⟨ad, t, cs, g1, g2, g3, g4, g5, g6⟩ := h6.sl.get hj0 (by omega)
       rw [Int.toNat_natCast, tk_at (by omega)] at g2
       injection g2 with g2
       subst g2
       unfold rTk at g6
       subst g6
       rw [Int.toNat_natCast]
       refine ⟨ad, fun _ => g1, (tk ts n).k, fun _ => g5.at1 0 _ rfl, fun hh => ⟨ad, g1, (tk ts n).a, g5.at1 3 _ rfl, fun w12 hO12 => ⟨hO12, .inr (.inl ⟨hc', ?_, rfl, rfl⟩)⟩⟩, fun hh => ⟨Only.refl _ _, .inr (.inr ⟨hc', ?_, hc', rfl⟩)⟩⟩
       · simpa [hc'] using hh
       · simpa [hc'] using hh
     · have hb : (c' == 0) = false := by simpa using hc'
       refine ⟨⟨0, 0, none⟩, fun hh => (by rw [hb] at hh; cases hh), 0, fun hh => (by rw [hb] at hh; cases hh), fun hh => (by rw [hb] at hh; cases hh), fun _ => ⟨Only.refl _ _, .inl ⟨hc', rfl, rfl⟩⟩⟩
def rEx : Nat -> Rp Ex
 | 0 => fun _ _ _ _ => False
 | d + 1 => fun w F x cs => ∃ sl : Sl, cs = exv x.k x.n x.s x.op sl x.a /\ SliceF (rEx d) 6 w F sl x.subs
theorem rEx_ok : ∀ d, (rEx d).Ok
 | 0 => ⟨fun h _ => h.elim, fun h => h.elim, fun h _ => h.elim, fun h => h.elim⟩
 | d + 1 => ⟨fun ⟨sl, h1, h2⟩ hk => ⟨sl, h1, SliceF.keep (rEx_ok d) h2 (by decide) hk⟩, fun ⟨sl, h1, h2⟩ => ⟨sl, h1, SliceF.inHeap (rEx_ok d) h2 (by decide)⟩, fun ⟨sl, h1, h2⟩ hk => ⟨sl, h1, SliceF.mono (rEx_ok d) h2 hk⟩, fun ⟨sl, h1, h2⟩ => by
  subst h1
  intro v hv
  simp only [List.mem_cons, List.not_mem_nil, or_false] at hv
  rcases hv with rfl | rfl | rfl | rfl | rfl | rfl <;> rfl⟩
theorem slImp {α : Type} {r q : Rp α} {size : Nat} {w : World} {F : Nat -> Prop} {s : Sl} {xs : List α} (h : SliceF r size w F s xs) (hi : ∀ x cs, x ∈ xs -> r w F x cs -> q w F x cs) : SliceF q size w F s xs :=
 ⟨h.len, h.cap, h.nil0, h.big, fun j x hx => by
  obtain ⟨base, cs, h1, h2, h3, h4, h5⟩ := h.at_ j x hx
  exact ⟨base, cs, h1, h2, h3, h4, hi x cs (List.mem_of_getElem? hx) h5⟩⟩
section
variable {w w' : World} {F : Nat -> Prop} {x y : Ex} {cs ds : List Value}
theorem rEx_up : ∀ {d : Nat} {x : Ex} {cs : List Value}, rEx d w F x cs -> rEx (d + 1) w F x cs
 | 0, _, _, h => h.elim
 | d + 1, x, cs, ⟨sl, h1, h2⟩ => ⟨sl, h1, slImp h2 fun x cs _ h => rEx_up h⟩
theorem rEx_le {d e : Nat} (h : d <= e) (hx : rEx d w F x cs) : rEx e w F x cs := by
  induction e with
  | zero => have : d = 0 := by omega
            subst this; exact hx
  | succ e ih =>
    by_cases he : d = e + 1
    · subst he; exact hx
    · exact rEx_up (ih (by omega))
theorem rEx_only {d : Nat} (h : rEx d w F x cs) (hO : Only [] w w') : rEx d w' F x cs := (rEx_ok d).only h hO (by simp)
theorem RXN.ex {N : Nat -> Prop} {lo hi : Nat} (h : RXN w N lo hi x cs) : ∃ d, rEx d w (fun k => lo <= k /\ k < hi) x cs := by
 induction h with
 | leaf lo hi k n s op a => exact ⟨1, Sl.nil, rfl, SliceF.nil _ _ _ _⟩
 | one lo m g hi k n s op a x cs h1 h2 h3 h4 hn h5 ih =>
  obtain ⟨d, ih⟩ := ih
  obtain ⟨sl, hcs, _⟩ := h1.cells
  refine ⟨d + 1, _, rfl, rfl, Nat.le_refl _, fun h => (by cases h), (by decide : (1 : Nat) <= 9223372036854775807), fun j y hj => ?_⟩
  have hj0 : j = 0 := by
   have := (List.getElem?_eq_some_iff.1 hj).1
   simp only [Ex.subs, List.length_singleton] at this
   omega
  subst hj0
  simp only [Ex.subs, List.getElem?_cons_zero, Option.some.injEq] at hj
  subst hj
  exact ⟨⟨g, 0, none⟩, cs, rfl, ⟨h2, h4⟩, by rw [hcs]; rfl, by rw [Nat.zero_mul]; exact h5.cells 0 cs fun j v hv => by rw [Nat.zero_add]; exact hv, (rEx_ok d).mono ih fun k hk => ⟨hk.1, by omega⟩⟩
 | two lo m m' m2 g hi k n s op a x y cs ds h1 h2 h3 h4 h5 h6 h7 h8 hn h9 ih1 ih2 =>
  obtain ⟨d1, ih1⟩ := ih1
  obtain ⟨d2, ih2⟩ := ih2
  obtain ⟨sl, hcs, _⟩ := h1.cells
  obtain ⟨sl2, hds, _⟩ := h3.cells
  have e1 : cs.length = 6 := by rw [hcs]; rfl
  have e2 : ds.length = 6 := by rw [hds]; rfl
  refine ⟨max d1 d2 + 1, _, rfl, rfl, Nat.le_refl _, fun h => (by cases h), (by decide : (2 : Nat) <= 9223372036854775807), fun j y hj => ?_⟩
  rcases j with _ | _ | j
  · simp only [Ex.subs, List.getElem?_cons_zero, Option.some.injEq] at hj
    subst hj
    exact ⟨⟨g, 0, none⟩, cs, rfl, ⟨by dsimp only; omega, h8⟩, e1, by rw [Nat.zero_mul]; exact h9.cells 0 cs fun j v hv => by rw [Nat.zero_add, List.getElem?_append_left (List.getElem?_eq_some_iff.1 hv).1]; exact hv, (rEx_ok _).mono (rEx_le (Nat.le_max_left _ _) ih1) fun k hk => ⟨hk.1, by omega⟩⟩
  · simp only [Ex.subs, List.getElem?_cons_succ, List.getElem?_cons_zero, Option.some.injEq] at hj
    subst hj
    exact ⟨⟨g, 0, none⟩, ds, rfl, ⟨by dsimp only; omega, h8⟩, e2, by
     rw [addr_lit]
     exact h9.cells 6 ds fun j v hv => by rw [List.getElem?_append_right (by omega), e1, Nat.add_sub_cancel_left]; exact hv, (rEx_ok _).mono (rEx_le (Nat.le_max_right _ _) ih2) fun k hk => ⟨by omega, by omega⟩⟩
  · simp [Ex.subs] at hj
end
theorem T_eq (l m : List UInt8) : ((T l).toList == (T m).toList) = decide (l = m) := ba_eq l m
theorem rEx_cells {d : Nat} {w : World} {F : Nat -> Prop} {x : Ex} {cs : List Value} (h : rEx d w F x cs) : ∃ sl : Sl, cs = exv x.k x.n x.s x.op sl x.a := by
 cases d with
 | zero => exact h.elim
 | succ d => obtain ⟨l, hcs, _⟩ := h; exact ⟨l, hcs⟩
def lenOk : Nat -> Ex -> Prop
 | 0, _ => True
 | d + 1, x => x.s.length < 4611686018427387903 /\ ∀ y, y ∈ x.subs -> lenOk d y
def cntL (f : Ex -> Nat) : List Ex -> Nat
 | [] => 0
 | x :: xs => f x + cntL f xs
def cntM : Nat -> Ex -> Nat
 | 0, _ => 0
 | d + 1, x => 1 + cntL (cntM d) x.subs
def numOk : Nat -> Ex -> Prop
 | 0, _ => True
 | d + 1, x => InI x.n /\ ∀ y, y ∈ x.subs -> numOk d y
def nameM (l : List UInt8) : Bool := decide (l ≠ [] /\ l.length <= 24) && (match l with
 | c :: _ => letterB c
 | [] => false) && decide (l.takeWhile wordB = l) && !wordsL.contains l
theorem name_c {w : World} (l : List UInt8) (hl : l.length < 9223372036854775807) :
  Calls Tryz.prog 63 #[.string (T l)] w fun e w' => e = .returned (.bool (nameM l)) /\ Only [] w w' := by
 refine ret (v59w (T l) (fun v w' => v = .bool (nameM l) /\ Only [] w w') w ?_)
 unfold v59v
 intro k0 w0 hk0 hk0' hO0
 have e0 : (ByteArray.mk #[]) = T [] := rfl
 rw [T_size, e0, T_eq]
 refine ⟨fun b s i w' => b = nameM l /\ Only [] w w', fun b s i w' h => ⟨by rw [h.1], h.2⟩, fun hc => ?_, fun hc => ⟨?_, hO0⟩⟩
 · simp only [Bool.and_eq_true, Bool.not_eq_true', decide_eq_false_iff_not, decide_eq_true_eq] at hc
   obtain ⟨h1, h2⟩ := hc
   have h2 : l.length <= 24 := by omega
   obtain ⟨c, r, rfl⟩ : ∃ c r, l = c :: r := by
    cases l with
    | nil => exact absurd rfl h1
    | cons c r => exact ⟨c, r, rfl⟩
   have hn : nameM (c :: r) = (letterB c && decide ((c :: r).takeWhile wordB = c :: r) && !wordsL.contains (c :: r)) := by
    unfold nameM
    rw [decide_eq_true ⟨h1, h2⟩, Bool.true_and]
   refine ⟨c, ⟨Int.le_refl _, by rw [T_get]; rfl⟩, (letter_c w0 c).mono ?_⟩
   rintro _ w2 ⟨rfl, hO2⟩
   have hO02 := hO0.tr0 hO2
   refine ⟨_, rfl, hO2.same (by simp; omega), fun hb hB => ?_, fun hb => ⟨by rw [hn, hb]; rfl, hO02⟩⟩
   refine (row_c (i := 0) (r := []) hB (Nat.zero_le _) hl).mono ?_
   rintro _ w3 ⟨rfl, hO3⟩
   rw [List.drop_zero]
   have hB3 : Blk w3 k0 126 [.string (T (c :: r)), .int .i64 0] := (hO3.block k0 hB.lt (by simp)).trans hB
   refine ⟨_, rfl, T (c :: r), 0, hB3, ?_⟩
   rw [T_eq]
   refine ⟨fun he => (words_c w3).mono ?_, fun he => ⟨?_, hO02.tr0 hO3⟩⟩
   · rintro _ w4 ⟨s, rfl, hs, hO4⟩
     have hB4 : Blk w4 k0 126 [.string (T (c :: r)), .int .i64 0] := (hO4.block k0 hB3.lt (by simp)).trans hB3
     refine ⟨s, rfl, T (c :: r), 0, hB4, (containsS_c (flatS hs) (c :: r)).mono ?_⟩
     rintro _ w5 ⟨rfl, hO5⟩
     have hB5 : Blk w5 k0 126 [.string (T (c :: r)), .int .i64 0] := (hO5.block k0 hB4.lt (by simp)).trans hB4
     exact ⟨_, rfl, _, _, hB5, by rw [hn, hb, he]; rfl, hO02.tr0 (hO3.tr0 (hO4.tr0 hO5))⟩
   · rw [hn, hb, he]; rfl
 · unfold nameM
   rw [decide_eq_false]
   · rfl
   · rintro ⟨h1, h2⟩
     rw [decide_eq_false h1, decide_eq_true (by omega)] at hc
     cases hc
def levM (x : Ex) : Int := if x.k = 5 then rowOf x.op else 6
theorem level_c {w : World} {F : Nat -> Prop} {x : Ex} {cs : List Value} {d : Nat} (h : rEx d w F x cs) : Calls Tryz.prog 204 #[.agg cs.toArray] w fun e w' => e = .returned (.int .i64 (levM x)) /\ Only [] w w' := by
 cases d with
 | zero => exact h.elim
 | succ d =>
  obtain ⟨sl, rfl, h⟩ := h
  refine ret (v13w x.k x.n (T x.s) x.op sl x.a (fun v w' => v = .int .i64 (levM x) /\ Only [] w w') w ?_)
  unfold v13v
  refine ⟨fun hc k0 w0 _ _ hO => ?_, fun hc k1 w1 hk hk' hO => (erow_c w1 x.op).mono ?_⟩
  · have hc : x.k ≠ 5 := by simpa using hc
    rw [levM, if_neg hc]
    exact ⟨rfl, hO⟩
  · rintro _ w2 ⟨rfl, rfl⟩
    have hc : x.k = 5 := by simpa using hc
    rw [levM, if_pos hc]
    exact ⟨_, rfl, fun _ _ => rfl, rfl, hO⟩
def eqM (n : Int) (s : List UInt8) (op len : Int) (x : Ex) : Bool := ((((x.n == n) && decide (x.s = s)) && (x.op == op)) && ((x.subs.length : Int) == len))
def headM (x : Ex) : Bool :=
 if x.k = 1 then eqM (if 0 > x.n then 0 else x.n) [] 0 0 x
 else if x.k = 2 ∨ x.k = 3 then nameM x.s && eqM 0 x.s 0 0 x
 else if x.k = 4 then eqM 0 [] (if x.op = 15 then 15 else 14) 1 x
 else if x.k = 5 then !(rowOf x.op == 6) && eqM 0 [] x.op 2 x
 else false
def all1 (f : Ex -> Bool) : List Ex -> Bool
 | [] => true
 | x :: xs => f x && all1 f xs
def shapeM : Nat -> Ex -> Bool
 | 0, _ => false
 | d + 1, x => headM x && all1 (shapeM d) x.subs
theorem all1_drop {f : Ex -> Bool} {xs : List Ex} {n : Nat} {x : Ex} (hx : xs[n]? = some x) : all1 f (xs.drop n) = (f x && all1 f (xs.drop (n + 1))) := by
 rw [List.drop_eq_getElem_cons (List.getElem?_eq_some_iff.1 hx).1, (List.getElem?_eq_some_iff.1 hx).2, all1]
abbrev ShD (d : Nat) : Prop := ∀ {w : World} {F : Nat -> Prop} {x : Ex} {cs : List Value}, lenOk d x -> rEx d w F x cs -> Calls Tryz.prog 173 #[.agg cs.toArray] w fun e w' => e = .returned (.bool (shapeM d x)) /\ Only [] w w'
theorem shape1_c {d : Nat} (hS : ShD d) {w : World} {F : Nat -> Prop} {x : Ex} {cs : List Value} (hl : lenOk d x) (h : rEx d w F x cs) : Calls Tryz.prog 202 #[.agg cs.toArray] w fun e w' => e = .returned (.bool (!shapeM d x)) /\ Only [] w w' := by
 obtain ⟨sl, rfl⟩ := rEx_cells h
 refine ret (v23w x.k x.n (T x.s) x.op sl x.a (fun v w' => v = .bool (!shapeM d x) /\ Only [] w w') w ?_)
 unfold v23v
 intro k0 w0 hk hk' hO
 refine (hS hl (rEx_only h hO)).mono ?_
 rintro _ w1 ⟨rfl, hO1⟩
 exact ⟨_, rfl, hO1.same (by simp; omega), rfl, hO.tr0 hO1⟩
theorem indexX_c {d : Nat} (hS : ShD d) {w : World} {F : Nat -> Prop} {l : Sl} {xs : List Ex} (hl : ∀ y, y ∈ xs -> lenOk d y) (h : SliceF (rEx d) 6 w F l xs) : Calls Tryz.prog 218 #[l.v, .func (.func 202) #[] #[]] w fun e w' => ∃ i : Int, e = .returned (.int .i64 i) /\ decide (i >= 0) = !all1 (shapeM d) xs /\ Only [] w w' := by
 refine (v79w l ⟨.func (.func 202) #[] #[], rfl⟩ (fun v w' => ∃ i : Int, v = .int .i64 i /\ decide (i >= 0) = !all1 (shapeM d) xs /\ Only [] w w') w ?_).mono (by
  rintro e w' ⟨v, rfl, i, rfl, h⟩; exact ⟨i, rfl, h⟩)
 unfold v79v
 have hlen := h.len
 have hbig := h.big
 have hcap := h.cap
 refine ⟨fun nv i w' => ∃ n : Nat, n <= xs.length /\ i = (n : Int) /\ nv = xs.length - n /\ all1 (shapeM d) xs = all1 (shapeM d) (xs.drop n) /\ Only [] w w', xs.length, ⟨0, Nat.zero_le _, rfl, rfl, rfl, Only.refl _ _⟩, ?_⟩
 rintro nv _ w0 ⟨n, hn, rfl, rfl, hall, hO0⟩
 refine ⟨fun hc => ?_, fun hc => ?_⟩
 · have hlt : (n : Int) < l.n := of_decide_eq_true hc
   obtain ⟨ad, x, cs, g1, g2, g3, g4, g5, g6⟩ := (SliceF.only (rEx_ok d) (by decide) h hO0 (by simp)).get (Int.natCast_nonneg n) hlt
   rw [Int.toNat_natCast] at g2
   obtain ⟨sl, rfl⟩ := rEx_cells g6
   refine ⟨ad, g1, _, _, _, _, _, _, g5, 202, [], [], rfl, fnOk_run (by kernel_rfl), ?_⟩
   refine (shape1_c hS (hl x (List.mem_of_getElem? g2)) g6).mono ?_
   rintro _ w1 ⟨rfl, hO1⟩
   have hst := all1_drop (f := shapeM d) g2
   refine ⟨_, rfl, fun hb => ⟨_, rfl, ?_, hO0.tr0 hO1⟩, fun hb => ⟨xs.length - (n + 1), by omega, n + 1, by omega, by rw [wr' (by omega) (by omega)]; rfl, rfl, ?_, hO0.tr0 hO1⟩⟩
   · have hb : shapeM d x = false := by simpa using hb
     rw [hall, hst, hb, Bool.false_and, Bool.not_false]
     exact decide_eq_true (Int.natCast_nonneg n)
   · have hb : shapeM d x = true := by simpa using hb
     rw [hall, hst, hb, Bool.true_and]
 · have hge : ¬ (n : Int) < l.n := of_decide_eq_false hc
   refine ⟨_, rfl, ?_, hO0⟩
   rw [hall, List.drop_of_length_le (by omega)]
   rfl
theorem containsX_c {d : Nat} (hS : ShD d) {w : World} {F : Nat -> Prop} {l : Sl} {xs : List Ex} (hl : ∀ y, y ∈ xs -> lenOk d y) (h : SliceF (rEx d) 6 w F l xs) : Calls Tryz.prog 201 #[l.v, .func (.func 202) #[] #[]] w fun e w' => e = .returned (.bool (!all1 (shapeM d) xs)) /\ Only [] w w' := by
 refine ret (v74w l ⟨.func (.func 202) #[] #[], rfl⟩ (fun v w' => v = .bool (!all1 (shapeM d) xs) /\ Only [] w w') w ?_)
 unfold v74v
 refine (indexX_c hS hl h).mono ?_
 rintro _ w0 ⟨i, rfl, h1, h2⟩
 exact ⟨_, rfl, by rw [h1], h2⟩
theorem shape_c : ∀ d, ShD d
 | 0, _, _, _, _, _, h => h.elim
 | d + 1, w, F, x, cs, ⟨hl0, hl⟩, ⟨sl, h1, h2⟩ => by
  subst h1
  refine ret (v24w x.k x.n (T x.s) x.op sl x.a (fun v w' => v = .bool (shapeM (d + 1) x) /\ Only [] w w') w ?_)
  unfold v24v
  intro k0 k1 w0 hk0 hk0' hk1 hk1' hO0
  have z0 := hO0.size
  have hn := h2.len
  have hs : ∀ {b : Bool}, headM x = b -> shapeM (d + 1) x = (b && all1 (shapeM d) x.subs) := fun e => by rw [shapeM, e]
  have own : ∀ {w1 w2 : World}, Only [] w w1 -> Only [k1] w1 w2 -> Only [] w w2 := fun h1 h2 => h1.new h2 hk1
  refine ⟨fun i0 i1 i2 s0 i3 l0 i4 w1 => ∃ s, s0 = T s /\ headM x = eqM i2 s i3 i0 x /\ Only [] w w1 /\ w0.heap.size <= w1.heap.size, ?_, fun hk w4 hO4 => ⟨[], rfl, ?_, own hO0 hO4, hO4.size⟩, fun hk => ?_⟩
  · rintro i0 i1 i2 _ i3 l0 i4 w1 ⟨s, rfl, he, hO1, z1⟩
    have hc : ((((x.n == i2) && ((T x.s).toList == (T s).toList)) && (x.op == i3)) && ((sl.n : Int) == i0)) = headM x := by
     rw [he, T_eq, hn]
     rfl
    rw [hc]
    refine ⟨fun b w' => b = shapeM (d + 1) x /\ Only [] w w', ?_, fun hh => (containsX_c (shape_c d) hl (SliceF.only (rEx_ok d) (by decide) h2 hO1 (by simp))).mono ?_, fun hh => ⟨by rw [hs hh, Bool.false_and], hO1⟩⟩
    · rintro _ w2 ⟨rfl, h⟩
      exact ⟨rfl, h⟩
    · rintro _ w3 ⟨rfl, hO3⟩
      exact ⟨_, rfl, hO3.same (by simp; omega), by rw [hs hh, Bool.true_and, Bool.not_not], hO1.tr0 hO3⟩
  · have hk : x.k = 1 := by simpa using hk
    rw [headM, if_pos hk]
  · have hk1 : x.k ≠ 1 := by simpa using hk
    refine ⟨fun b w' => b = decide (x.k = 2 ∨ x.k = 3) /\ w' = w0, ?_, fun hk2 => ⟨?_, rfl⟩, fun hk2 => ⟨?_, rfl⟩⟩
    · rintro _ _ ⟨rfl, rfl⟩
      refine ⟨fun hk => (name_c x.s (by omega)).mono ?_, fun hk => ⟨fun hk4 => ⟨fun ho w8 hO8 => ⟨[], rfl, ?_, own hO0 hO8, hO8.size⟩, fun ho w9 hO9 => ⟨[], rfl, ?_, own hO0 hO9, hO9.size⟩⟩, fun hk4 => ⟨fun hk5 => (erow_c _ x.op).mono ?_, fun hk5 => ⟨?_, hO0⟩⟩⟩⟩
      · rintro _ w6 ⟨rfl, hO6⟩
        have z6 := hO6.size
        have hk := of_decide_eq_true hk
        refine ⟨_, rfl, hO6.same (by simp; omega), fun hb => ⟨?_, hO0.tr0 hO6⟩, fun hb w7 hO7 => ⟨x.s, rfl, ?_, own (hO0.tr0 hO6) hO7, by have := hO7.size; omega⟩⟩
        · have hb : nameM x.s = false := by simpa using hb
          rw [hs (b := false) (by rw [headM, if_neg hk1, if_pos hk, hb, Bool.false_and]), Bool.false_and]
        · have hb : nameM x.s = true := by simpa using hb
          rw [headM, if_neg hk1, if_pos hk, hb, Bool.true_and]
      · have hk := of_decide_eq_false hk
        have hk4 : x.k = 4 := by simpa using hk4
        have ho : x.op = 15 := by simpa using ho
        rw [headM, if_neg hk1, if_neg hk, if_pos hk4, if_pos ho]
      · have hk := of_decide_eq_false hk
        have hk4 : x.k = 4 := by simpa using hk4
        have ho : x.op ≠ 15 := by simpa using ho
        rw [headM, if_neg hk1, if_neg hk, if_pos hk4, if_neg ho]
      · rintro _ w10 ⟨rfl, rfl⟩
        have hk := of_decide_eq_false hk
        have hk4 : x.k ≠ 4 := by simpa using hk4
        have hk5 : x.k = 5 := by simpa using hk5
        refine ⟨_, rfl, fun _ _ => rfl, fun hb => ⟨?_, hO0⟩, fun hb w11 hO11 => ⟨[], rfl, ?_, own hO0 hO11, hO11.size⟩⟩
        · rw [hs (b := false) (by rw [headM, if_neg hk1, if_neg hk, if_neg hk4, if_pos hk5, hb, Bool.not_true, Bool.false_and]), Bool.false_and]
        · rw [headM, if_neg hk1, if_neg hk, if_neg hk4, if_pos hk5, hb, Bool.not_false, Bool.true_and]
      · have hk := of_decide_eq_false hk
        have hk4 : x.k ≠ 4 := by simpa using hk4
        have hk5 : x.k ≠ 5 := by simpa using hk5
        rw [hs (b := false) (by rw [headM, if_neg hk1, if_neg hk, if_neg hk4, if_neg hk5]), Bool.false_and]
    · have hk2 : x.k = 2 := by simpa using hk2
      rw [hk2]; rfl
    · have hk2 : x.k ≠ 2 := by simpa using hk2
      rw [Bool.eq_iff_iff]
      simp [hk2]
def Tb (w : World) : Prop := Lib.TabIs Tryz.prog w "internal/strconv.uint64pow10" .u64 Lib.pow10Tab
theorem tb_num : Tryz.prog.globalNamed "internal/strconv.uint64pow10" = some 3 := by kernel_rfl
theorem Tb.keep {w w' : World} (h : Tb w) (hk : 3 < w.heap.size -> w'.heap[3]? = w.heap[3]?) : Tb w' := by
 unfold Tb Lib.TabIs World.var? at h ⊢
 rw [tb_num] at h ⊢
 simp only [Option.bind_some] at h ⊢
 rw [hk]
 · exact h
 · refine Decidable.byContradiction fun hn => ?_
   rw [Array.getElem?_eq_none (by omega)] at h
   cases h
theorem Tb.lt {w : World} (h : Tb w) : 3 < w.heap.size := by
 unfold Tb Lib.TabIs World.var? at h
 rw [tb_num] at h
 simp only [Option.bind_some] at h
 refine Decidable.byContradiction fun hn => ?_
 rw [Array.getElem?_eq_none (by omega)] at h
 cases h
theorem Tb.only {w w' : World} (h : Tb w) (hO : Only [] w w') : Tb w' := h.keep fun hlt => hO.block _ hlt (by simp)
theorem Only.grown (w : World) (k : Nat) (os : Array Obj) : Only [] w (Go.Sort.grow (w.drewN k) os) := ⟨rfl, rfl, rfl, by simp [Go.Sort.grow], fun q hq _ => by
 simp only [Go.Sort.grow, World.heap_drewN]
 rw [Array.getElem?_append_left hq]⟩
theorem ctext_c {w : World} (n : Int) (hn : InI n) (hT : Tb w) : Calls Tryz.prog 33 #[.int .i64 n] w fun e w' => e = .returned (.string (T (Lib.itoa n))) /\ Only [] w w' := by
 refine ret (v1w n (fun v w' => v = .string (T (Lib.itoa n)) /\ Only [] w w') w ?_)
 unfold v1v
 refine (Tryz.strconv_Itoa n hn.1 hn.2 w hT).mono ?_
 rintro _ w0 ⟨rfl, k, os, rfl⟩
 exact ⟨_, rfl, rfl, Only.grown _ _ _⟩
def Bf (w : World) (B : Nat) (s : Sl) (l : List UInt8) : Prop :=
 (s = Sl.nil /\ l = []) ∨ ∃ g tail, s.a = some ⟨g, 0, none⟩ /\ B <= g /\ Blk w g 5 (l.map byteV ++ tail) /\ tail.length = s.c - s.n /\ s.n = l.length /\ s.n <= s.c /\ s.c <= 9223372036854775807 /\ 0 < s.c
theorem Bf.len {w : World} {B : Nat} {s : Sl} {l : List UInt8} (h : Bf w B s l) : s.n = l.length := by
 rcases h with ⟨rfl, rfl⟩ | ⟨g, tail, _, _, _, _, h, _⟩
 · rfl
 · exact h
theorem Bf.lt {w : World} {B : Nat} {s : Sl} {l : List UInt8} (h : Bf w B s l) {g : Nat} (hg : s.a = some ⟨g, 0, none⟩) : B <= g /\ g < w.heap.size := by
 rcases h with ⟨rfl, rfl⟩ | ⟨g', tail, h1, h2, h3, _⟩
 · cases hg
 · rw [hg] at h1
   injection h1 with h1
   injection h1 with h1
   subst h1
   exact ⟨h2, h3.lt⟩
theorem Bf.keep {w w' : World} {B : Nat} {s : Sl} {l : List UInt8} (h : Bf w B s l) (hk : ∀ g, s.a = some ⟨g, 0, none⟩ -> g < w.heap.size -> w'.heap[g]? = w.heap[g]?) : Bf w' B s l := by
 rcases h with h | ⟨g, tail, h1, h2, h3, h4⟩
 · exact .inl h
 · exact .inr ⟨g, tail, h1, h2, (hk g h1 h3.lt).trans h3, h4⟩
theorem strC (l : List UInt8) : Lib.strCells (T l) = l.map byteV := rfl
theorem u8_slice : Tryz.prog.underlying 64 = some (.slice 5) := by kernel_rfl
theorem u8_str : Tryz.prog.underlying 9 = some .string := by kernel_rfl
theorem u8_info : Tryz.prog.info? 5 = some Tryz.t5 := by kernel_rfl
theorem app_str {w : World} {B : Nat} {s : Sl} {l : List UInt8} (h : Bf w B s l) (m : List UInt8) (hB : B <= w.heap.size) (hm : l.length + m.length <= 140737488355328) :
  ∃ s' w', (Builtin.append_ #[64, 9] 64 #[s.v, .string (T m)]).run Tryz.prog w = .ok s'.v w' /\ Bf w' B s' (l ++ m) /\ OnlyP (fun k => s.a = some ⟨k, 0, none⟩) w w' /\ (s'.a = s.a ∨ s'.a = some ⟨w.heap.size, 0, none⟩) := by
 have ht := u8_slice
 have hu := u8_str
 have hi := u8_info
 have hs1 : Tryz.t5.size = 1 := rfl
 have hb1 : Tryz.t5.bytes = 1 := rfl
 have hz : Tryz.t5.zero = some (.int .u8 0) := rfl
 have hsz : (T m).size = m.length := T_size m
 have grown : ∀ (need old : Nat), need = l.length + m.length -> 0 < l.length + m.length -> ∀ cells : Array Value, cells = ((l ++ m).map byteV).toArray ++ Builtin.zeroCells (Value.int .u8 0).cells (grownCap w need old 5 - need) ->
   Bf (w.drew.alloc (.cells cells 5)) B ⟨some ⟨w.heap.size, 0, none⟩, need, grownCap w need old 5⟩ (l ++ m) /\ OnlyP (fun k => s.a = some ⟨k, 0, none⟩) w (w.drew.alloc (.cells cells 5)) := by
  rintro need old rfl h0 cells rfl
  have hO : Only [] w (w.drew.alloc (.cells (((l ++ m).map byteV).toArray ++ Builtin.zeroCells (Value.int .u8 0).cells (grownCap w (l.length + m.length) old 5 - (l.length + m.length))) 5)) := (Only.drew w).tr0 (Only.alloc _ _)
  refine ⟨.inr ⟨w.heap.size, (Builtin.zeroCells (Value.int .u8 0).cells (grownCap w (l.length + m.length) old 5 - (l.length + m.length))).toList, rfl, hB, ?_, ?_, by simp, grownCap_ge _ _ _ _, grownCap_le_maxLen _ _ _ _ (by simp only [maxLen]; omega), Nat.lt_of_lt_of_le h0 (grownCap_ge _ _ _ _)⟩, hO.p0⟩
  · have e : ∀ (x : List Value) (z : Array Value), x.toArray ++ z = (x ++ z.toList).toArray := fun x z => by simp
    rw [e]
    exact Blk.alloc w.drew 5 _
  · exact (zero_len w _ (size := 1) rfl).trans (Nat.mul_one _)
 rcases h with ⟨rfl, rfl⟩ | ⟨g, tail, h1, h2, h3, h4, h5, h6, h7, h8⟩
 · cases m with
   | nil =>
    refine ⟨Sl.nil, w, ?_, .inl ⟨rfl, rfl⟩, OnlyP.refl _ _, .inl rfl⟩
    have hf := Lib.run_firstCells_string (P := Tryz.prog) w 1 (T [])
    have h0 : (T []).size = 0 := rfl
    rw [h0] at hf
    simp [Sl.nil, Sl.v, Builtin.append_, run_underlying ht, run_underlying hu, sizeOf, typeInfo, hi, hs1, Builtin.lenOf, h0, hf]
   | cons c m =>
    have hr := run_append_nil_string (P := Tryz.prog) w 64 9 64 5 Tryz.t5 (.int .u8 0) ht hu hi hz (T (c :: m)) (by rw [hsz]; simp) (by rw [hsz]; omega) (by rw [hsz, hb1]; omega)
    rw [hsz] at hr
    obtain ⟨g1, g2⟩ := grown (c :: m).length 0 (by simp) (by simp) _ rfl
    have e1 : (T (c :: m)).data.map (fun b => Value.int .u8 b.toNat) = (List.map byteV ([] ++ c :: m)).toArray := by
     apply Array.toList_inj.1
     rw [Array.toList_map, List.toList_toArray]
     rfl
    rw [e1] at hr
    exact ⟨_, _, hr, g1, g2, .inr rfl⟩
 · obtain ⟨sa, sn, sc⟩ := s
   dsimp only at h1 h4 h5 h6 h7 h8
   subst h1
   by_cases hroom : sn + m.length <= sc
   · have hb3 := h3
     unfold Blk at h3
     have hr := Lib.run_append_room_string (P := Tryz.prog) w 64 9 64 5 Tryz.t5 ht hu hi hs1 g sn sc _ h3 (T m) (by rw [hsz]; exact hroom) (by
      rw [hsz, List.size_toArray, List.length_append, List.length_map]; omega)
     rw [hsz, strC] at hr
     refine ⟨⟨some ⟨g, 0, none⟩, sn + m.length, sc⟩, _, hr, .inr ⟨g, tail.drop m.length, rfl, h2, ?_, ?_, by dsimp only; rw [List.length_append]; omega, hroom, h7, h8⟩, (Only.setRow w g _).p fun x hx => .inl (by simp only [List.mem_singleton] at hx; rw [hx]), .inl rfl⟩
     · have := hb3.setRow ((l ++ m).map byteV ++ tail.drop m.length)
       have e : ((l.map byteV ++ tail).toArray.toList.take sn ++ m.map byteV ++ (l.map byteV ++ tail).toArray.toList.drop (sn + m.length)) = (l ++ m).map byteV ++ tail.drop m.length := by
        rw [List.toList_toArray, List.take_append_of_le_length (by rw [List.length_map]; omega), List.take_of_length_le (by rw [List.length_map]; omega), List.drop_append, List.drop_of_length_le (by rw [List.length_map]; omega), List.nil_append, List.length_map, List.map_append, h5, Nat.add_sub_cancel_left]
       rw [e]
       exact this
     · rw [List.length_drop]; dsimp only; omega
   · have hcell : ∀ j v, (l.map byteV)[j]? = some v -> w.cell? ((⟨g, 0, none⟩ : Addr).add j) = some v := fun j v hj => h3.cells 0 (l.map byteV) (fun j v hj => by rw [Nat.zero_add, List.getElem?_append_left (List.getElem?_eq_some_iff.1 hj).1]; exact hj) j v hj
     have hr := Lib.run_append_grow_string (P := Tryz.prog) w 64 9 64 5 Tryz.t5 (.int .u8 0) ht hu hi hz ⟨g, 0, none⟩ sn sc (l.map byteV) (by rw [hs1, List.length_map]; omega) hcell (T m) (by rw [hsz]; omega) (by rw [hsz]; omega) (growslice_fits (by rw [hsz]; omega) (by rw [hsz, hb1]; omega))
     rw [hsz, strC] at hr
     obtain ⟨g1, g2⟩ := grown (sn + m.length) sc (by omega) (by omega) _ rfl
     refine ⟨_, _, hr.trans ?_, g1, g2, .inr rfl⟩
     simp [List.map_append]
theorem els_b (w : World) (F : Nat -> Prop) : ∀ l : List UInt8, Els rByte 1 w F l (l.map fun b => [byteV b])
 | [] => trivial
 | c :: l => ⟨⟨rfl, rfl⟩, els_b w F l⟩
theorem flat_b : ∀ l : List UInt8, (l.map fun b => [byteV b]).flatten = l.map byteV
 | [] => rfl
 | c :: l => by rw [List.map_cons, List.flatten_cons, flat_b l]; rfl
theorem els_flat {w : World} {F : Nat -> Prop} : ∀ {l : List UInt8} {css : List (List Value)}, Els rByte 1 w F l css -> css.flatten = l.map byteV
 | [], [], _ => rfl
 | c :: l, d :: css, h => by
  obtain ⟨⟨_, h1⟩, h2⟩ := h
  unfold rByte at h1
  subst h1
  rw [List.flatten_cons, els_flat h2]
  rfl
theorem Bf.own {w : World} {B : Nat} {s : Sl} {l : List UInt8} (h : Bf w B s l) (F : Nat -> Prop) : Own rByte 1 5 B w F s l := by
 rcases h with h | ⟨g, tail, h1, h2, h3, h4, h5, h6, h7, _⟩
 · exact .inl h
 · exact .inr ⟨g, l.map fun b => [byteV b], tail, h1, h2, by rw [flat_b]; exact h3, by rw [Nat.mul_one]; exact h4, h5, h6, h7, els_b _ _ _⟩
theorem Bf.of {w : World} {B : Nat} {s : Sl} {l : List UInt8} {F : Nat -> Prop} (h : Own rByte 1 5 B w F s l) (h0 : 0 < l.length) : Bf w B s l := by
 rcases h with h | ⟨g, css, tail, h1, h2, h3, h4, h5, h6, h7, h8⟩
 · exact .inl h
 · exact .inr ⟨g, tail, h1, h2, by rw [<- els_flat h8]; exact h3, by rw [h4, Nat.mul_one], h5, h6, h7, by omega⟩
structure Pg (G : Nat -> Prop) (w : World) (b : Nat) (sl sn : Sl) (l : List UInt8) : Prop where
 blk : ∃ q : Option Addr, (q = none ∨ q = some ⟨b, 0, none⟩) /\ Blk w b 227 [.pointer q, sl.v, sn.v]
 buf : Bf w (b + 1) sl l
 sig : SliceF rTx 1 w G sn opsL
 hG : ∀ k, G k -> k < b
def Mvd (b : Nat) (sl : Sl) (w : World) (sl' : Sl) (w' : World) : Prop := OnlyP (fun k => k = b ∨ sl.a = some ⟨k, 0, none⟩) w w' /\ ∀ k, sl'.a = some ⟨k, 0, none⟩ -> sl.a = some ⟨k, 0, none⟩ ∨ w.heap.size <= k
theorem Mvd.refl (b : Nat) (sl : Sl) (w : World) : Mvd b sl w sl w := ⟨OnlyP.refl _ _, fun _ h => .inl h⟩
theorem Mvd.trans {b : Nat} {sl sl' sl'' : Sl} {w w' w'' : World} (h : Mvd b sl w sl' w') (k : Mvd b sl' w' sl'' w'') : Mvd b sl w sl'' w'' := by
 have z := h.1.size
 refine ⟨h.1.trans k.1 fun x hx => ?_, fun x hx => ?_⟩
 · rcases hx with hx | hx
   · exact .inl (.inl hx)
   · rcases h.2 x hx with e | e
     · exact .inl (.inr e)
     · exact .inr e
 · rcases k.2 x hx with e | e
   · exact h.2 x e
   · exact .inr (by omega)
theorem Mvd.only {b : Nat} {sl : Sl} {w w' : World} (h : Only [] w w') : Mvd b sl w sl w' := ⟨h.p0, fun _ h => .inl h⟩
theorem Mvd.same {b : Nat} {sl sl' : Sl} {w w' : World} (h : Mvd b sl w sl' w') {k : Nat} (hk : k ≠ b) (hs : sl.a ≠ some ⟨k, 0, none⟩) (hl : k < w.heap.size) : Same [k] w w' := h.1.same (by
 intro x hx
 simp only [List.mem_singleton] at hx
 subst hx
 exact ⟨hl, fun e => e.elim hk hs⟩)
theorem Pg.only {G : Nat -> Prop} {w w' : World} {b : Nat} {sl sn : Sl} {l : List UInt8} (h : Pg G w b sl sn l) (hO : Only [] w w') : Pg G w' b sl sn l := by
 obtain ⟨q, hq, hB⟩ := h.blk
 exact ⟨⟨q, hq, hO.blk hB (by simp)⟩, h.buf.keep fun g _ hl => hO.block g hl (by simp), SliceF.only rTx_ok (by decide) h.sig hO (by simp), h.hG⟩
theorem Pg.lb {G : Nat -> Prop} {w : World} {b : Nat} {sl sn : Sl} {l : List UInt8} (h : Pg G w b sl sn l) : b < w.heap.size := by
 obtain ⟨q, hq, hB⟩ := h.blk
 exact hB.lt
theorem noEsc (v : Value) (w : World) : (extV 140 #[v]).run Tryz.prog w = .ok v w := by
 unfold extV
 rw [Sem.run_bind, run_callFunc_extern Tryz.func140 (by kernel_rfl) (by kernel_rfl) (by kernel_rfl) (e := Extern.AbiNoEscape.same) (by kernel_rfl)]
 rw [Lib.run_noEscape]
 rfl
theorem check_c {w : World} {b : Nat} {q : Option Addr} {sl sn : Sl} (hq : q = none ∨ q = some ⟨b, 0, none⟩) (h : Blk w b 227 [.pointer q, sl.v, sn.v]) :
  Calls Tryz.prog 99 #[.pointer (some ⟨b, 0, none⟩)] w fun e w' => e = .returned (.tuple #[]) /\ Only [b] w w' /\ Blk w' b 227 [.pointer (some ⟨b, 0, none⟩), sl.v, sn.v] := by
 refine ret (v89w ⟨b, 0, none⟩ (fun v w' => v = .tuple #[] /\ Only [b] w w' /\ Blk w' b 227 [.pointer (some ⟨b, 0, none⟩), sl.v, sn.v]) w ?_)
 unfold v89v
 have hsh : w.shape? b = some (227, 3) := by
  unfold World.shape?
  unfold Blk at h
  rw [h]
  rfl
 refine ⟨q, Blk.at1 h 0 rfl, fun hn => ?_, fun hn => ⟨q, Blk.at1 h 0 rfl, ?_⟩⟩
 · have hr1 := Lib.run_to_unsafe (P := Tryz.prog) (src := 63) (dst := 195) w ⟨b, 0, none⟩ (t := 66) (j := Tryz.t66) (by kernel_rfl) (by kernel_rfl) (by kernel_rfl) (by decide) hsh (by decide : (0 : Nat) < 3)
   have hr2 := Lib.run_from_unsafe (P := Tryz.prog) (src := 195) (dst := 63) w ⟨b, 0, none⟩ (u := 66) (j := Tryz.t66) (by kernel_rfl) (by kernel_rfl) (by kernel_rfl) hsh (by kernel_rfl)
   exact ⟨⟨.pointer (some ⟨b, 0, none⟩), rfl⟩, w, hr1, ⟨.pointer (some ⟨b, 0, none⟩), rfl⟩, w, noEsc _ w, some ⟨b, 0, none⟩, w, hr2, b, 0, _, _, rfl, h, by simp, fun w3 hO hB => ⟨rfl, hO, hB⟩⟩
 · rcases hq with rfl | rfl
   · cases hn
   · exact ⟨false, w, Lib.run_neq_ptr_same w _ (te := 66) (j := Tryz.t66) (by kernel_rfl) (by kernel_rfl), fun e => (by cases e), fun _ => ⟨rfl, Only.refl _ _, h⟩⟩
section
variable {G : Nat -> Prop} {w : World} {b : Nat} {sl sn : Sl} {l : List UInt8}
theorem plen_c (h : Pg G w b sl sn l) : Calls Tryz.prog 69 #[.pointer (some ⟨b, 0, none⟩)] w fun e w' => e = .returned (.int .i64 (l.length : Int)) /\ w' = w := by
 refine ret (v85w ⟨b, 0, none⟩ (fun v w' => v = .int .i64 (l.length : Int) /\ w' = w) w ?_)
 unfold v85v
 obtain ⟨q, hq, hB⟩ := h.blk
 exact ⟨sl, Blk.at1 hB 1 rfl, by rw [h.buf.len], rfl⟩
theorem wstr_c (h : Pg G w b sl sn l) (m : List UInt8) (hm : l.length + m.length <= 140737488355328) : Calls Tryz.prog 60 #[.pointer (some ⟨b, 0, none⟩), .string (T m)] w fun e w' =>
  ∃ sl', e = .returned (.tuple #[.int .i64 (m.length : Int), .nilIface]) /\ Pg G w' b sl' sn (l ++ m) /\ Mvd b sl w sl' w' := by
 refine (v88w ⟨b, 0, none⟩ (T m) (fun v w' => ∃ sl', v = .tuple #[.int .i64 (m.length : Int), .nilIface] /\ Pg G w' b sl' sn (l ++ m) /\ Mvd b sl w sl' w') w ?_).mono (by
  rintro e w' ⟨v, rfl, s, rfl, h⟩; exact ⟨s, rfl, h⟩)
 unfold v88v
 obtain ⟨q, hq, hB⟩ := h.blk
 refine (check_c hq hB).mono ?_
 rintro _ w0 ⟨rfl, hO0, hB0⟩
 have z0 := hO0.size
 have hb := hB.lt
 have hbuf : Bf w0 (b + 1) sl l := h.buf.keep fun g hg hl => hO0.block g hl (by have := (h.buf.lt hg).1; simp; omega)
 obtain ⟨s', w1, k1, k2, k3, k4⟩ := app_str hbuf m (by omega) hm
 have z1 := k3.size
 have hB1 : Blk w1 b 227 [.pointer (some ⟨b, 0, none⟩), sl.v, sn.v] := k3.blk hB0 fun e => by have := (hbuf.lt e).1; omega
 have hs' : ∀ g, s'.a = some ⟨g, 0, none⟩ -> b < g := fun g hg => by
  rcases k4 with e | e
  · rw [e] at hg; exact (hbuf.lt hg).1
  · rw [e] at hg; injection hg with hg; injection hg with hg; omega
 refine ⟨rfl, sl, Blk.at1 hB0 1 rfl, s', w1, k1, b, 1, _, _, rfl, hB1, by simp, fun w2 hO2 hB2 => ⟨s', by rw [T_size], ⟨⟨_, .inr rfl, hB2⟩, k2.keep fun g hg hl => hO2.block g hl (by have := hs' g hg; simp; omega), ?_, h.hG⟩, ?_, ?_⟩⟩
 · have h0 := SliceF.only rTx_ok (by decide) h.sig hO0 fun k hk _ hm => by have := h.hG k hk; simp only [List.mem_singleton] at hm; omega
   have h1 := SliceF.onlyP rTx_ok (by decide) h0 k3 fun k hk _ hm => by have := h.hG k hk; have := (hbuf.lt hm).1; omega
   exact SliceF.only rTx_ok (by decide) h1 hO2 fun k hk _ hm => by have := h.hG k hk; simp only [List.mem_singleton] at hm; omega
 · refine ((hO0.p (F := fun k => k = b ∨ sl.a = some ⟨k, 0, none⟩) fun x hx => .inl (.inl (by simpa using hx))).trans k3 fun k hk => .inl (.inr hk)).trans (hO2.p (F := fun k => k = b) fun x hx => .inl (by simpa using hx)) fun k hk => .inl (.inl hk)
 · intro k hk
   rcases k4 with e | e
   · rw [e] at hk; exact .inl hk
   · rw [e] at hk; injection hk with hk; injection hk with hk; exact .inr (by omega)
theorem v114v (h : Pg G w b sl sn l) (c : UInt8) (hm : l.length + 1 <= 140737488355328) : v87v ⟨b, 0, none⟩ (c.toNat : Int) (fun v w' => ∃ sl', v = .nilIface /\ Pg G w' b sl' sn (l ++ [c]) /\ Mvd b sl w sl' w') w := by
 unfold v87v
 obtain ⟨q, hq, hB⟩ := h.blk
 refine (check_c hq hB).mono ?_
 rintro _ w0 ⟨rfl, hO0, hB0⟩
 have z0 := hO0.size
 have hb := hB.lt
 have hbuf : Bf w0 (b + 1) sl l := h.buf.keep fun g hg hl => hO0.block g hl (by have := (h.buf.lt hg).1; simp; omega)
 obtain ⟨y, w1, k1, k2, k3, _⟩ := buildB w0 [c] (n := 1) (parts := #[(0, .int .u8 (c.toNat : Int))]) rfl rfl (by decide) (by decide)
 have z1 := k3.size
 have hbuf1 : Bf w1 (b + 1) sl l := hbuf.keep fun g hg hl => k3.block g hl (by simp)
 obtain ⟨s', w2, m1, m2, gs, m3, m4, m5⟩ := app_own (P := Tryz.prog) (t := 64) (ty := 64) (e := 5) (i := Tryz.t5) (bytes := 1) (size := 1) (r := rByte) u8_slice u8_info rfl rfl rfl rfl rByte_ok (hbuf1.own fun _ => True) ((flatB k2).mono rByte_ok fun k hk => ⟨trivial, fun e => by have := (hbuf.lt e).2; have := hk.1; omega⟩) (by omega) (by rw [List.length_singleton]; omega) (by decide)
 have z2 := m3.size
 have hO2 : OnlyP (fun k => sl.a = some ⟨k, 0, none⟩) w1 w2 := m3.p fun x hx => .inl (m4 x hx).1
 have hB2 : Blk w2 b 227 [.pointer (some ⟨b, 0, none⟩), sl.v, sn.v] := hO2.blk (k3.blk hB0 (by simp)) fun e => by have := (hbuf.lt e).1; omega
 have hs' : ∀ g, s'.a = some ⟨g, 0, none⟩ -> b < g := fun g hg => by
  rcases m5 with e | e
  · rw [e] at hg; exact (hbuf.lt hg).1
  · rw [e] at hg; injection hg with hg; injection hg with hg; omega
 refine ⟨rfl, sl, Blk.at1 hB0 1 rfl, y, w1, k1, s', w2, m1, b, 1, _, _, rfl, hB2, by simp, fun w3 hO3 hB3 => ⟨s', rfl, ⟨⟨_, .inr rfl, hB3⟩, (Bf.of m2 (by simp)).keep fun g hg hl => hO3.block g hl (by have := hs' g hg; simp; omega), ?_, h.hG⟩, ?_, ?_⟩⟩
 · have h0 := SliceF.only rTx_ok (by decide) h.sig (hO0.tr0 k3) fun k hk _ hm => by have := h.hG k hk; simp only [List.mem_singleton] at hm; omega
   have h1 := SliceF.onlyP rTx_ok (by decide) h0 hO2 fun k hk _ hm => by have := h.hG k hk; have := (hbuf.lt hm).1; omega
   exact SliceF.only rTx_ok (by decide) h1 hO3 fun k hk _ hm => by have := h.hG k hk; simp only [List.mem_singleton] at hm; omega
 · refine (((hO0.tr0 k3).p (F := fun k => k = b ∨ sl.a = some ⟨k, 0, none⟩) fun x hx => .inl (.inl (by simpa using hx))).trans hO2 fun k hk => .inl (.inr hk)).trans (hO3.p (F := fun k => k = b) fun x hx => .inl (by simpa using hx)) fun k hk => .inl (.inl hk)
 · intro k hk
   rcases m5 with e | e
   · rw [e] at hk; exact .inl hk
   · rw [e] at hk; injection hk with hk; injection hk with hk; exact .inr (by omega)
theorem wbyte_c (h : Pg G w b sl sn l) (c : UInt8) (hm : l.length + 1 <= 140737488355328) : Calls Tryz.prog 203 #[.pointer (some ⟨b, 0, none⟩), .int .u8 (c.toNat : Int)] w fun e w' =>
  ∃ sl', e = .returned .nilIface /\ Pg G w' b sl' sn (l ++ [c]) /\ Mvd b sl w sl' w' := (v87w _ _ _ w (v114v h c hm)).mono (by
  rintro e w' ⟨v, rfl, s, rfl, h⟩; exact ⟨s, rfl, h⟩)
theorem wbyte_d (h : Pg G w b sl sn l) (c : UInt8) (hm : l.length + 1 <= 140737488355328) : CallsR Tryz.prog 203 #[.pointer (some ⟨b, 0, none⟩), .int .u8 (c.toNat : Int)] w fun v w' =>
  ∃ sl', v = .nilIface /\ Pg G w' b sl' sn (l ++ [c]) /\ Mvd b sl w sl' w' := strings_Builder_WriteByte_wpd _ _ _ w (v114v h c hm)
structure Pt (w : World) (b : Nat) (sl : Sl) (l : List UInt8) : Prop where
 blk : ∃ q sn : Value, Blk w b 227 [q, sl.v, sn]
 len : sl.n = l.length
 some : l ≠ [] -> ∃ g, sl.a = .some ⟨g, 0, none⟩ /\ b < g /\ sl.c ≠ 0 /\ (∃ n, w.shape? g = .some (5, n) /\ l.length <= n) /\ Cells w ⟨g, 0, none⟩ (l.map byteV)
 cap : sl.a = none ∨ sl.c ≠ 0
 big : l.length <= 9223372036854775807
theorem shape_keep {w w' : World} {g : Nat} (h : w'.heap[g]? = w.heap[g]?) : w'.shape? g = w.shape? g := by
 unfold World.shape?
 rw [h]
theorem Pt.only {w' : World} (h : Pt w b sl l) (hO : Only [] w w') : Pt w' b sl l := by
 obtain ⟨⟨q, sn, h1⟩, h2, h3, h4, h5⟩ := h
 refine ⟨⟨q, sn, hO.blk h1 (by simp)⟩, h2, fun hl => ?_, h4, h5⟩
 obtain ⟨g, a1, a2, a3, ⟨n, a4, a5⟩, a6⟩ := h3 hl
 have hg : g < w.heap.size := by
  refine Decidable.byContradiction fun hn => ?_
  unfold World.shape? at a4
  rw [Array.getElem?_eq_none (by omega)] at a4
  cases a4
 have hk := hO.block g hg (by simp)
 exact ⟨g, a1, a2, a3, ⟨n, (shape_keep hk).trans a4, a5⟩, a6.keep hk⟩
theorem Pg.pt (h : Pg G w b sl sn l) : Pt w b sl l := by
 obtain ⟨q, hq, hB⟩ := h.blk
 refine ⟨⟨_, _, hB⟩, h.buf.len, fun hl => ?_, ?_, ?_⟩
 · rcases h.buf with ⟨_, e⟩ | ⟨g, tail, h1, h2, h3, h4, h5, h6, h7, h8⟩
   · exact absurd e hl
   · have h0 : l.length ≠ 0 := fun e => hl (List.eq_nil_of_length_eq_zero e)
     refine ⟨g, h1, h2, by omega, ⟨_, by unfold World.shape?; unfold Blk at h3; rw [h3], by simp⟩, h3.cells 0 (l.map byteV) fun j v hj => by rw [Nat.zero_add, List.getElem?_append_left (List.getElem?_eq_some_iff.1 hj).1]; exact hj⟩
 · rcases h.buf with ⟨e, _⟩ | ⟨g, tail, h1, h2, h3, h4, h5, h6, h7, h8⟩
   · exact .inl (by rw [e])
   · exact .inr (by omega)
 · rcases h.buf with ⟨_, e⟩ | ⟨g, tail, h1, h2, h3, h4, h5, h6, h7⟩
   · subst e; simp
   · omega
end
theorem freeze_shape (w : World) (p : Addr) (n : Nat) (a : Nat) : (w.freeze p n).shape? a = w.shape? a := by
 unfold World.freeze
 split
 · rfl
 · unfold World.shape?
   simp only [Array.getElem?_modify]
   by_cases hpa : p.block = a
   · rw [if_pos hpa]
     cases h : w.heap[a]? with
     | none => rfl
     | some o =>
      cases o with
      | cells c e f => obtain ⟨lo, hi⟩ := f; rfl
      | _ => rfl
   · rw [if_neg hpa]
section
variable {w : World} {b : Nat} {sl : Sl} {l : List UInt8}
theorem pstr_c (h : Pt w b sl l) : Calls Tryz.prog 36 #[.pointer (some ⟨b, 0, none⟩)] w fun e w' => e = .returned (.string (T l)) /\ Pt w' b sl l /\ OnlyP (fun k => b < k /\ sl.a = some ⟨k, 0, none⟩) w w' := by
 refine ret (v86w ⟨b, 0, none⟩ (fun v w' => v = .string (T l) /\ Pt w' b sl l /\ OnlyP (fun k => b < k /\ sl.a = some ⟨k, 0, none⟩) w w') w ?_)
 unfold v86v
 intro w0 hO0
 have h0 := h.only hO0
 obtain ⟨⟨q, sn, hB⟩, hlen, hsome, hcap, hbig⟩ := h0
 refine ⟨fun k => k = b, sl, Blk.at1 hB 1 rfl, rfl, sl, Blk.at1 hB 1 rfl, sl.a, w0, ?_, fun k _ _ => rfl, ?_⟩
 · obtain ⟨sa, sn', sc⟩ := sl
   cases sa with
   | none => exact Lib.run_unsafeSliceData_nil _ _ _ _ _
   | some a =>
    rcases hcap with e | e
    · cases e
    · exact Lib.run_unsafeSliceData_row _ _ _ _ _ _ e
 · by_cases hl : l = []
   · subst hl
     have hn : sl.n = 0 := hlen
     refine ⟨T [], w0, ?_, fun k _ _ => rfl, rfl, ⟨⟨q, sn, hB⟩, hlen, hsome, hcap, hbig⟩, hO0.p0⟩
     rw [hn]
     exact Lib.run_unsafeString_none _ _ _ _ _
   · obtain ⟨g, ha, hbg, hc, ⟨m, hsh, hm⟩, hcells⟩ := hsome hl
     have hF := freeze_only w0 ⟨g, 0, none⟩ l.length
     have hbl : b < w0.heap.size := hB.lt
     refine ⟨T l, w0.freeze ⟨g, 0, none⟩ l.length, ?_, fun k hk hlt => hF.block k hlt (by dsimp only; omega), rfl, ⟨⟨q, sn, hF.blk hB (by dsimp only; omega)⟩, hlen, fun _ => ⟨g, ha, hbg, hc, ⟨m, (freeze_shape _ _ _ _).trans hsh, hm⟩, fun j v hj => by rw [freeze_cell]; exact hcells j v hj⟩, hcap, hbig⟩, hO0.trP (hF.mono fun k _ hk => by dsimp only at hk; subst hk; exact ⟨hbg, ha⟩)⟩
     rw [ha, hlen]
     exact Lib.run_unsafeString_row _ _ _ _ 5 (by kernel_rfl) (by kernel_rfl) g m hsh l hl hm hbig fun j x hj => hcells j (byteV x) (by rw [List.getElem?_map, hj]; rfl)
end
def opn (wr : Bool) (l : List UInt8) : List UInt8 := if wr then l ++ [40] else l
def clo (wr : Bool) (l : List UInt8) : List UInt8 := if wr then l ++ [41] else l
def pgM : Nat -> Ex -> Bool -> List UInt8 -> List UInt8
 | 0, _, _, l => l
 | d + 1, x, wr, l => if 16384 < l.length then l else clo wr (
  if x.k = 1 then opn wr l ++ Lib.itoa x.n
  else if x.k = 2 then opn wr l ++ x.s
  else if x.k = 3 then opn wr l ++ ([105, 110, 40] ++ x.s ++ [41])
  else if x.k = 4 then (match x.subs with
   | [y] => pgM d y (decide (levM y < 6)) (opn wr l ++ opTx x.op.toNat)
   | _ => l)
  else (match x.subs with
   | [y, z] => pgM d z (decide (levM z <= levM x)) (pgM d y (decide (levM y < levM x)) (opn wr l) ++ ([32] ++ opTx x.op.toNat ++ [32]))
   | _ => l))
section
variable {x : Ex}
theorem eqM_t {n : Int} {s : List UInt8} {op len : Int} (h : eqM n s op len x = true) : x.n = n /\ x.s = s /\ x.op = op /\ (x.subs.length : Int) = len := by
 simp only [eqM, Bool.and_eq_true, beq_iff_eq, decide_eq_true_eq] at h
 exact ⟨h.1.1.1, h.1.1.2, h.1.2, h.2⟩
theorem head23 (h : headM x = true) (hk : x.k = 2 ∨ x.k = 3) : nameM x.s = true := by
 have h1 : x.k ≠ 1 := by omega
 rw [headM, if_neg h1, if_pos hk, Bool.and_eq_true] at h
 exact h.1
theorem head4 (h : headM x = true) (hk : x.k = 4) : ∃ y, x.subs = [y] /\ (x.op = 14 ∨ x.op = 15) := by
 rw [headM, if_neg (by omega), if_neg (by omega), if_pos hk] at h
 obtain ⟨_, _, h3, h4⟩ := eqM_t h
 obtain ⟨y, hy⟩ := List.length_eq_one_iff.1 (show x.subs.length = 1 by omega)
 refine ⟨y, hy, ?_⟩
 by_cases h15 : x.op = 15
 · exact .inr h15
 · rw [if_neg h15] at h3; exact .inl h3
theorem head5 (h : headM x = true) (h1 : x.k ≠ 1) (h2 : x.k ≠ 2) (h3 : x.k ≠ 3) (h4 : x.k ≠ 4) : x.k = 5 /\ ∃ y z, x.subs = [y, z] /\ 1 <= x.op /\ x.op <= 13 := by
 rw [headM, if_neg h1, if_neg (by omega), if_neg h4] at h
 split at h
 · rename_i h5
   rw [Bool.and_eq_true] at h
   obtain ⟨h6, h7⟩ := h
   obtain ⟨_, _, _, h8⟩ := eqM_t h7
   have h6 : rowOf x.op ≠ 6 := by simpa using h6
   have h2l : x.subs.length = 2 := by omega
   obtain ⟨y, z, hy⟩ : ∃ y z, x.subs = [y, z] := by
    match hm : x.subs, h2l with
    | [y, z], _ => exact ⟨y, z, rfl⟩
   refine ⟨h5, y, z, hy, ?_⟩
   unfold rowOf at h6
   refine Decidable.byContradiction fun hn => h6 ?_
   rw [if_neg (by omega), if_neg (by omega), if_neg (by omega), if_neg (by omega), if_neg (by omega), if_neg (by omega)]
 · cases h
theorem name_len {s : List UInt8} (h : nameM s = true) : s.length <= 24 := by
 unfold nameM at h
 simp only [Bool.and_eq_true] at h
 exact (of_decide_eq_true h.1.1.1).2
theorem opTx_len (n : Nat) : (opTx n).length <= 2 := by
 rcases Nat.lt_or_ge n 16 with h | h
 · have : ∀ q, q < 16 -> (opTx q).length <= 2 := by decide
   exact this n h
 · unfold opTx
   rw [List.getElem?_eq_none (by exact h)]
   decide
theorem opn_len (wr : Bool) (l : List UInt8) : (opn wr l).length <= l.length + 1 := by
 unfold opn
 cases wr <;> simp
theorem clo_len (wr : Bool) (l : List UInt8) : (clo wr l).length <= l.length + 1 := by
 unfold clo
 cases wr <;> simp
theorem pg_len : ∀ (d : Nat) {x : Ex} (wr : Bool) (l : List UInt8), shapeM d x = true -> numOk d x -> (pgM d x wr l).length <= l.length + 40 * cntM d x
 | 0, x, wr, l, h, _ => by cases h
 | d + 1, x, wr, l, h, ⟨hn, hs⟩ => by
  rw [shapeM, Bool.and_eq_true] at h
  obtain ⟨hh, ha⟩ := h
  have h1 := opn_len wr l
  rw [pgM, cntM]
  split
  · omega
  refine Nat.le_trans (clo_len _ _) ?_
  split
  · rw [List.length_append]
    have := Lib.itoa_length_le x.n hn.1 hn.2
    omega
  · split
    · rename_i hk
      rw [List.length_append]
      have := name_len (head23 hh (.inl hk))
      omega
    · split
      · rename_i hk
        rw [List.length_append, List.length_append, List.length_append]
        have := name_len (head23 hh (.inr hk))
        simp only [List.length_cons, List.length_nil]
        omega
      · split
        · rename_i hk
          obtain ⟨y, hy, _⟩ := head4 hh hk
          rw [hy] at ha hs ⊢
          dsimp only
          simp only [all1, Bool.and_true, cntL] at ha ⊢
          have := pg_len d (decide (levM y < 6)) (opn wr l ++ opTx x.op.toNat) ha (hs y (by simp))
          rw [List.length_append] at this
          have := opTx_len x.op.toNat
          omega
        · rename_i k1 k2 k3 k4
          obtain ⟨hk, y, z, hy, _⟩ := head5 hh k1 k2 k3 k4
          rw [hy] at ha hs ⊢
          dsimp only
          simp only [all1, Bool.and_true, cntL, Bool.and_eq_true] at ha ⊢
          have a1 := pg_len d (decide (levM y < levM x)) (opn wr l) ha.1 (hs y (by simp))
          have a2 := pg_len d (decide (levM z <= levM x)) (pgM d y (decide (levM y < levM x)) (opn wr l) ++ ([32] ++ opTx x.op.toNat ++ [32])) ha.2 (hs z (by simp))
          rw [List.length_append, List.length_append, List.length_append] at a2
          have := opTx_len x.op.toNat
          simp only [List.length_cons, List.length_nil] at a2
          omega
end
structure Pz (d : Nat) (F G : Nat -> Prop) (k0 b : Nat) (sub sn : Sl) (subs : List Ex) (w : World) (sl : Sl) (l : List UInt8) : Prop where
 pg : Pg G w b sl sn l
 tb : Tb w
 own : k0 ≠ b /\ sl.a ≠ some ⟨k0, 0, none⟩ /\ k0 < w.heap.size
 sb : SliceF (rEx d) 6 w F sub subs
 hF : ∀ k, F k -> k < b
 hT : 3 < b
section
variable {d : Nat} {F G : Nat -> Prop} {k0 b : Nat} {sx sn sl sl' : Sl} {subs : List Ex} {w w' w'' : World} {l l' : List UInt8}
theorem Pg.out (h : Pg G w b sl sn l) {k : Nat} (hk : k < b) : ¬ (k = b ∨ sl.a = some ⟨k, 0, none⟩) := by
 rintro (e | e)
 · omega
 · have := (h.buf.lt e).1; omega
theorem Pz.only (h : Pz d F G k0 b sx sn subs w sl l) (hO : Only [] w w') : Pz d F G k0 b sx sn subs w' sl l := by
 have z := hO.size
 exact ⟨h.pg.only hO, h.tb.only hO, ⟨h.own.1, h.own.2.1, by have := h.own.2.2; omega⟩, SliceF.only (rEx_ok d) (by decide) h.sb hO (by simp), h.hF, h.hT⟩
theorem Pz.mv (h : Pz d F G k0 b sx sn subs w sl l) (hp : Pg G w' b sl' sn l') (hm : Mvd b sl w sl' w') : Pz d F G k0 b sx sn subs w' sl' l' /\ Same [k0] w w' /\ Keeps (fun k => k < b ∨ k = k0) w w' := by
 have z := hm.1.size
 obtain ⟨o1, o2, o3⟩ := h.own
 refine ⟨⟨hp, h.tb.keep fun hlt => hm.1.block _ hlt (h.pg.out h.hT), ⟨o1, fun e => ?_, by omega⟩, SliceF.onlyP (rEx_ok d) (by decide) h.sb hm.1 fun k hk _ => h.pg.out (h.hF k hk), h.hF, h.hT⟩, hm.same o1 o2 o3, fun k hk hlt => hm.1.block k hlt ?_⟩
 · rcases hm.2 k0 e with e | e
   · exact o2 e
   · omega
 · rcases hk with hk | rfl
   · exact h.pg.out hk
   · rintro (e | e)
     · exact o1 e
     · exact o2 e
theorem Mvd.after (h : Mvd b sl w' sl' w'') (hO : Only [] w w') : Mvd b sl w sl' w'' := (Mvd.only hO).trans h
theorem Pz.same (h : Pz d F G k0 b sx sn subs w sl l) (hO : Only [] w w') : Same [k0] w w' := hO.same (by have := h.own.2.2; simp; omega)
theorem Pz.sig (h : Pz d F G k0 b sx sn subs w sl l) {op : Int} (h0 : 0 <= op) (h1 : op < 16) : ∃ ad, SlAt sn op 1 ad /\ Cells w ad [.string (T (opTx op.toNat))] := by
 have hn := h.pg.sig.len
 have hol : opsL.length = 16 := rfl
 obtain ⟨ad, x, cs, g1, g2, g3, g4, g5, g6⟩ := h.pg.sig.get h0 (by omega)
 unfold rTx at g6
 subst g6
 have hx : opTx op.toNat = x := by unfold opTx; rw [g2]; rfl
 subst hx
 exact ⟨ad, g1, g5⟩
theorem Pz.sub (h : Pz d F G k0 b sx sn subs w sl l) {i : Nat} {y : Ex} (hy : subs[i]? = some y) : ∃ ad sy, SlAt sx (i : Int) 6 ad /\ ad.block < b /\ Cells w ad (exv y.k y.n y.s y.op sy y.a) /\ rEx d w F y (exv y.k y.n y.s y.op sy y.a) := by
 have hn := h.sb.len
 have hlt := (List.getElem?_eq_some_iff.1 hy).1
 obtain ⟨ad, x, cs, g1, g2, g3, g4, g5, g6⟩ := h.sb.get (Int.natCast_nonneg i) (by omega)
 rw [Int.toNat_natCast, hy] at g2
 injection g2 with g2
 subst g2
 obtain ⟨sy, rfl⟩ := rEx_cells g6
 exact ⟨ad, sy, g1, h.hF _ g3, g5, g6⟩
end
abbrev PgC (d : Nat) : Prop := ∀ {G F : Nat -> Prop} {w : World} {b : Nat} {sl sn : Sl} {l : List UInt8} {x : Ex} {cs : List Value} (wr : Bool), shapeM d x = true -> numOk d x -> rEx d w F x cs -> (∀ k, F k -> k < b) -> Tb w -> 3 < b -> Pg G w b sl sn l -> l.length + 40 * cntM d x <= 70368744177664 ->
 Calls Tryz.prog 175 #[.pointer (some ⟨b, 0, none⟩), .agg cs.toArray, .bool wr] w fun e w' => ∃ sl', e = .returned (.tuple #[]) /\ Pg G w' b sl' sn (pgM d x wr l) /\ Mvd b sl w sl' w'
theorem inb (s : List UInt8) : ByteArray.mk #[105, 110, 40] ++ T s ++ ByteArray.mk #[41] = T ([105, 110, 40] ++ s ++ [41]) := by
 rw [show ByteArray.mk #[105, 110, 40] = T [105, 110, 40] from rfl, show ByteArray.mk #[41] = T [41] from rfl, T_app, T_app]
theorem blb (s : List UInt8) : ByteArray.mk #[32] ++ T s ++ ByteArray.mk #[32] = T ([32] ++ s ++ [32]) := by
 rw [show ByteArray.mk #[32] = T [32] from rfl, T_app, T_app]
theorem inz (c : ByteArray) (s : List UInt8) : (c ++ T s).size = c.size + s.length := by
 rw [show c = T c.data.toList from T_of c, T_app, T_size, T_size, List.length_append]
theorem CallsR.mono {P : Program} {f : FuncId} {a : Array Value} {w : World} {Q Q' : Value -> World -> Prop} (h : CallsR P f a w Q) (hq : ∀ v w', Q v w' -> Q' v w') : CallsR P f a w Q' := fun c cs hc => by
 obtain ⟨e, u', w', fr, ⟨h1, v, h2, h3⟩, h4⟩ := h c cs hc
 exact ⟨e, u', w', fr, ⟨h1, v, h2, hq _ _ h3⟩, h4⟩
theorem page_c : ∀ d, PgC d
 | 0, _, _, _, _, _, _, _, _, _, _, _, _, h, _, _, _, _, _ => h.elim
 | d + 1, G, F, w, b, sl, sG, l, x, cs, wr, hsh, ⟨hni, hns⟩, ⟨xs, h1, h2⟩, hF, hT, hTb, hP, hlen => by
  subst h1
  refine (v15w ⟨b, 0, none⟩ x.k x.n (T x.s) x.op xs x.a wr (fun v w' => ∃ sl', v = .tuple #[] /\ Pg G w' b sl' sG (pgM (d + 1) x wr l) /\ Mvd b sl w sl' w') w ?_).mono (by
   rintro e w' ⟨v, rfl, s, rfl, h⟩; exact ⟨s, rfl, h⟩)
  have hx : rEx (d + 1) w F x (exv x.k x.n x.s x.op xs x.a) := ⟨xs, rfl, h2⟩
  rw [shapeM, Bool.and_eq_true] at hsh
  obtain ⟨hh, ha⟩ := hsh
  rw [cntM] at hlen
  unfold v15v
  intro k0 w0 hk0 hk0' hO0
  have hb := hP.lb
  have hz0 : Pz d F G k0 b xs sG x.subs w0 sl l := ⟨hP.only hO0, hT.only hO0, ⟨by omega, fun e => by have := (hP.buf.lt e).2; omega, hk0'⟩, SliceF.only (rEx_ok d) (by decide) h2 hO0 (by simp), hF, hTb⟩
  refine (plen_c hz0.pg).mono ?_
  rintro _ w1 ⟨rfl, rfl⟩
  refine ⟨_, rfl, fun _ _ => rfl, fun hc => ⟨sl, rfl, ?_, (Mvd.only hO0)⟩, fun hc => ?_⟩
  · rw [pgM, if_pos (by have := of_decide_eq_true hc; omega)]
    exact hz0.pg
  have hc : ¬ 16384 < l.length := by have := of_decide_eq_false hc; omega
  have hpg : pgM (d + 1) x wr l = clo wr (
  if x.k = 1 then opn wr l ++ Lib.itoa x.n
  else if x.k = 2 then opn wr l ++ x.s
  else if x.k = 3 then opn wr l ++ ([105, 110, 40] ++ x.s ++ [41])
  else if x.k = 4 then (match x.subs with
   | [y] => pgM d y (decide (levM y < 6)) (opn wr l ++ opTx x.op.toNat)
   | _ => l)
  else (match x.subs with
   | [y, z] => pgM d z (decide (levM z <= levM x)) (pgM d y (decide (levM y < levM x)) (opn wr l) ++ ([32] ++ opTx x.op.toNat ++ [32]))
   | _ => l)) := by rw [pgM, if_neg hc]
  have hol := opn_len wr l
  refine ⟨fun hw => (wbyte_c hz0.pg 40 (by omega)).mono ?_, fun hw => ?_⟩
  · rintro _ w2 ⟨sl2, rfl, hp2, hm2⟩
    obtain ⟨hz2, hs2, _⟩ := hz0.mv hp2 hm2
    have hopn : l ++ [40] = opn wr l := by unfold opn; rw [if_pos hw]
    rw [hopn] at hz2
    refine ⟨⟨.nilIface, rfl⟩, rfl, hs2, ?_⟩
    have fin : ∀ {sl5 : Sl} {w5 : World} {m : List UInt8}, Pz d F G k0 b xs sG x.subs w5 sl5 m -> Mvd b sl2 w2 sl5 w5 -> pgM (d + 1) x wr l = clo wr m -> m.length <= l.length + 40 * (1 + cntL (cntM d) x.subs) -> CallsR Tryz.prog 203 #[.pointer (some ((⟨b, 0, none⟩ : Addr).add 0)), .int .u8 41] w5 fun _ w' => ∃ sl', (Value.tuple #[]) = .tuple #[] /\ Pg G w' b sl' sG (pgM (d + 1) x wr l) /\ Mvd b sl w sl' w' := by
     intro sl5 w5 m hz5 hm5 he hml
     have hd := wbyte_d hz5.pg 41 (by omega)
     refine CallsR.mono hd ?_
     rintro v w' ⟨sl', hv, hp', hm'⟩
     refine ⟨sl', rfl, ?_, ((hm2.after hO0).trans hm5).trans hm'⟩
     rw [he]
     unfold clo
     rw [if_pos hw]
     exact hp'
    refine ⟨fun hk w3 hO3 => ?_, fun k1 => ⟨fun hk w7 hO7 => ?_, fun k2 => ⟨fun hk => ⟨?_, ?_, fun w10 hO10 => ?_⟩, fun k3 => ⟨fun hk w13 hO13 => ?_, fun k4 => (level_c (show rEx (d + 1) _ F x (exv x.k x.n x.s x.op xs x.a) from ⟨xs, rfl, hz2.sb⟩)).mono ?_⟩⟩⟩⟩
    · have hk : x.k = 1 := by simpa using hk
      have hz3 := hz2.only hO3
      refine (ctext_c x.n hni hz3.tb).mono ?_
      rintro _ w4 ⟨rfl, hO4⟩
      have hz4 := hz3.only hO4
      have hl := Lib.itoa_length_le x.n hni.1 hni.2
      refine ⟨_, rfl, hz3.same hO4, (wstr_c hz4.pg (Lib.itoa x.n) (by omega)).mono ?_⟩
      rintro _ w5 ⟨sl5, rfl, hp5, hm5⟩
      obtain ⟨hz5, hs5, _⟩ := hz4.mv hp5 hm5
      exact ⟨_, ⟨.nilIface, rfl⟩, rfl, hs5, fin hz5 ((hm5.after hO4).after hO3) (by rw [hpg, if_pos hk]) (by rw [List.length_append]; omega)⟩
    · have hk : x.k = 2 := by simpa using hk
      have k1 : x.k ≠ 1 := by omega
      have hz7 := hz2.only hO7
      have hl := name_len (head23 hh (.inl hk))
      refine (wstr_c hz7.pg x.s (by omega)).mono ?_
      rintro _ w8 ⟨sl5, rfl, hp5, hm5⟩
      obtain ⟨hz5, hs5, _⟩ := hz7.mv hp5 hm5
      exact ⟨_, ⟨.nilIface, rfl⟩, rfl, hs5, fin hz5 (hm5.after hO7) (by rw [hpg, if_neg k1, if_pos hk]) (by rw [List.length_append]; omega)⟩
    · have hk : x.k = 3 := by simpa using hk
      have hl := name_len (head23 hh (.inr hk))
      rw [T_size]
      omega
    · have hk : x.k = 3 := by simpa using hk
      have hl := name_len (head23 hh (.inr hk))
      rw [inz]
      have : (ByteArray.mk #[105, 110, 40]).size = 3 := rfl
      omega
    · have hk : x.k = 3 := by simpa using hk
      have hl := name_len (head23 hh (.inr hk))
      have hz10 := hz2.only hO10
      have hl2 : ([105, 110, 40] ++ x.s ++ [41] : List UInt8).length = x.s.length + 4 := by
       rw [List.length_append, List.length_append]
       simp only [List.length_cons, List.length_nil]
       omega
      rw [inb]
      refine (wstr_c hz10.pg _ (by omega)).mono ?_
      rintro _ w11 ⟨sl5, rfl, hp5, hm5⟩
      obtain ⟨hz5, hs5, _⟩ := hz10.mv hp5 hm5
      exact ⟨_, ⟨.nilIface, rfl⟩, rfl, hs5, fin hz5 (hm5.after hO10) (by rw [hpg, if_neg (by omega), if_neg (by omega), if_pos hk]) (by rw [List.length_append]; omega)⟩
    · have hk : x.k = 4 := by simpa using hk
      obtain ⟨y, hy, hop⟩ := head4 hh hk
      have hcnt : cntL (cntM d) x.subs = cntM d y := by rw [hy]; simp [cntL]
      have hay : shapeM d y = true := by rw [hy] at ha; simpa [all1] using ha
      have hny : numOk d y := hns y (by rw [hy]; simp)
      have hotl := opTx_len x.op.toNat
      have hz13 := hz2.only hO13
      obtain ⟨q, hq, hB⟩ := hz13.pg.blk
      obtain ⟨ad, g1, g2⟩ := hz13.sig (op := x.op) (by omega) (by omega)
      refine ⟨sG, Blk.at1 hB 2 rfl, ad, g1, _, g2, (wstr_c hz13.pg (opTx x.op.toNat) (by omega)).mono ?_⟩
      rintro _ w14 ⟨sl14, rfl, hp14, hm14⟩
      obtain ⟨hz14, hs14, _⟩ := hz13.mv hp14 hm14
      refine ⟨_, ⟨.nilIface, rfl⟩, rfl, hs14, fun w15 hO15 => ?_⟩
      have hz15 := hz14.only hO15
      obtain ⟨p1, sy, e1, e2, e3, e4⟩ := hz15.sub (i := 0) (y := y) (by rw [hy]; rfl)
      refine ⟨fun k => k < b ∨ k = k0, .inr rfl, p1, e1, .inl e2, _, _, _, _, _, _, e3, p1, e1, _, _, _, _, _, _, e3, (level_c e4).mono ?_⟩
      rintro _ w16 ⟨rfl, hO16⟩
      have hz16 := hz15.only hO16
      have hpl := pg_len d (decide (levM y < 6)) (opn wr l ++ opTx x.op.toNat) hay hny
      rw [List.length_append] at hpl
      refine ⟨_, rfl, hz15.same hO16, Keeps.only hO16, (page_c d (decide (levM y < 6)) hay hny (rEx_only e4 hO16) hF hz16.tb hTb hz16.pg (by rw [List.length_append]; omega)).mono ?_⟩
      rintro _ w17 ⟨sl17, rfl, hp17, hm17⟩
      obtain ⟨hz17, hs17, hk17⟩ := hz16.mv hp17 hm17
      exact ⟨rfl, hs17, hk17, fin hz17 ((hm14.after hO13).trans ((hm17.after hO16).after hO15)) (by rw [hpg, if_neg (by omega), if_neg (by omega), if_neg (by omega), if_pos hk, hy]) (by omega)⟩
    · rintro _ w19 ⟨rfl, hO19⟩
      have k1 : x.k ≠ 1 := by simpa using k1
      have k2 : x.k ≠ 2 := by simpa using k2
      have k3 : x.k ≠ 3 := by simpa using k3
      have k4 : x.k ≠ 4 := by simpa using k4
      obtain ⟨hk, y, z, hy, ho1, ho2⟩ := head5 hh k1 k2 k3 k4
      have hcnt : cntL (cntM d) x.subs = cntM d y + cntM d z := by rw [hy]; simp [cntL]
      have hays : shapeM d y = true /\ shapeM d z = true := by rw [hy] at ha; simpa [all1] using ha
      have hny : numOk d y := hns y (by rw [hy]; simp)
      have hnz : numOk d z := hns z (by rw [hy]; simp)
      have hotl := opTx_len x.op.toNat
      have hz19 := hz2.only hO19
      refine ⟨_, rfl, hz2.same hO19, fun w20 hO20 => ?_⟩
      have hz20 := hz19.only hO20
      obtain ⟨p1, sy, e1, e2, e3, e4⟩ := hz20.sub (i := 0) (y := y) (by rw [hy]; rfl)
      refine ⟨fun k => k < b ∨ k = k0, .inr rfl, p1, e1, .inl e2, _, _, _, _, _, _, e3, p1, e1, _, _, _, _, _, _, e3, (level_c e4).mono ?_⟩
      rintro _ w21 ⟨rfl, hO21⟩
      have hz21 := hz20.only hO21
      have hpl := pg_len d (decide (levM y < levM x)) (opn wr l) hays.1 hny
      refine ⟨_, rfl, hz20.same hO21, Keeps.only hO21, (page_c d (decide (levM y < levM x)) hays.1 hny (rEx_only e4 hO21) hF hz21.tb hTb hz21.pg (by omega)).mono ?_⟩
      rintro _ w22 ⟨sl22, rfl, hp22, hm22⟩
      obtain ⟨hz22, hs22, hk22⟩ := hz21.mv hp22 hm22
      refine ⟨rfl, hs22, hk22, fun w23 hO23 => ?_⟩
      have hz23 := hz22.only hO23
      obtain ⟨q, hq, hB⟩ := hz23.pg.blk
      obtain ⟨ad, g1, g2⟩ := hz23.sig (op := x.op) (by omega) (by omega)
      have hl2 : ([32] ++ opTx x.op.toNat ++ [32] : List UInt8).length = (opTx x.op.toNat).length + 2 := by
       rw [List.length_append, List.length_append]
       simp only [List.length_cons, List.length_nil]
       omega
      have hb1 : (ByteArray.mk #[32]).size = 1 := rfl
      refine ⟨sG, Blk.at1 hB 2 rfl, ad, g1, _, g2, by rw [T_size]; omega, by rw [inz]; omega, ?_⟩
      rw [blb]
      refine (wstr_c hz23.pg _ (by omega)).mono ?_
      rintro _ w24 ⟨sl24, rfl, hp24, hm24⟩
      obtain ⟨hz24, hs24, _⟩ := hz23.mv hp24 hm24
      refine ⟨_, ⟨.nilIface, rfl⟩, rfl, hs24, fun w25 hO25 => ?_⟩
      have hz25 := hz24.only hO25
      obtain ⟨p2, sz, f1, f2, f3, f4⟩ := hz25.sub (i := 1) (y := z) (by rw [hy]; rfl)
      refine ⟨fun k => k < b ∨ k = k0, .inr rfl, p2, f1, .inl f2, _, _, _, _, _, _, f3, p2, f1, _, _, _, _, _, _, f3, (level_c f4).mono ?_⟩
      rintro _ w26 ⟨rfl, hO26⟩
      have hz26 := hz25.only hO26
      have hpl2 := pg_len d (decide (levM z <= levM x)) (pgM d y (decide (levM y < levM x)) (opn wr l) ++ ([32] ++ opTx x.op.toNat ++ [32])) hays.2 hnz
      rw [List.length_append, hl2] at hpl2
      refine ⟨_, rfl, hz25.same hO26, Keeps.only hO26, (page_c d (decide (levM z <= levM x)) hays.2 hnz (rEx_only f4 hO26) hF hz26.tb hTb hz26.pg (by rw [List.length_append, hl2]; omega)).mono ?_⟩
      rintro _ w27 ⟨sl27, rfl, hp27, hm27⟩
      obtain ⟨hz27, hs27, hk27⟩ := hz26.mv hp27 hm27
      exact ⟨rfl, hs27, hk27, fin hz27 (((hm22.after hO21).after hO20).after hO19 |>.trans ((hm24.after hO23).trans ((hm27.after hO26).after hO25))) (by rw [hpg, if_neg k1, if_neg k2, if_neg k3, if_neg k4, hy]) (by omega)⟩
  · have hopn : l = opn wr l := by unfold opn; rw [hw]; rfl
    have hz2 : Pz d F G k0 b xs sG x.subs w1 sl (opn wr l) := by rw [<- hopn]; exact hz0
    have fin : ∀ {sl5 : Sl} {w5 : World} {m : List UInt8}, Pz d F G k0 b xs sG x.subs w5 sl5 m -> Mvd b sl w1 sl5 w5 -> pgM (d + 1) x wr l = clo wr m -> m.length <= l.length + 40 * (1 + cntL (cntM d) x.subs) -> ∃ sl', (Value.tuple #[]) = .tuple #[] /\ Pg G w5 b sl' sG (pgM (d + 1) x wr l) /\ Mvd b sl w sl' w5 := by
     intro sl5 w5 m hz5 hm5 he hml
     refine ⟨sl5, rfl, ?_, hm5.after hO0⟩
     rw [he]
     unfold clo
     rw [hw]
     exact hz5.pg
    refine ⟨fun hk w3 hO3 => ?_, fun k1 => ⟨fun hk w7 hO7 => ?_, fun k2 => ⟨fun hk => ⟨?_, ?_, fun w10 hO10 => ?_⟩, fun k3 => ⟨fun hk w13 hO13 => ?_, fun k4 => (level_c (show rEx (d + 1) _ F x (exv x.k x.n x.s x.op xs x.a) from ⟨xs, rfl, hz2.sb⟩)).mono ?_⟩⟩⟩⟩
    · have hk : x.k = 1 := by simpa using hk
      have hz3 := hz2.only hO3
      refine (ctext_c x.n hni hz3.tb).mono ?_
      rintro _ w4 ⟨rfl, hO4⟩
      have hz4 := hz3.only hO4
      have hl := Lib.itoa_length_le x.n hni.1 hni.2
      refine ⟨_, rfl, hz3.same hO4, (wstr_c hz4.pg (Lib.itoa x.n) (by omega)).mono ?_⟩
      rintro _ w5 ⟨sl5, rfl, hp5, hm5⟩
      obtain ⟨hz5, hs5, _⟩ := hz4.mv hp5 hm5
      exact ⟨_, ⟨.nilIface, rfl⟩, rfl, hs5, fin hz5 ((hm5.after hO4).after hO3) (by rw [hpg, if_pos hk]) (by rw [List.length_append]; omega)⟩
    · have hk : x.k = 2 := by simpa using hk
      have k1 : x.k ≠ 1 := by omega
      have hz7 := hz2.only hO7
      have hl := name_len (head23 hh (.inl hk))
      refine (wstr_c hz7.pg x.s (by omega)).mono ?_
      rintro _ w8 ⟨sl5, rfl, hp5, hm5⟩
      obtain ⟨hz5, hs5, _⟩ := hz7.mv hp5 hm5
      exact ⟨_, ⟨.nilIface, rfl⟩, rfl, hs5, fin hz5 (hm5.after hO7) (by rw [hpg, if_neg k1, if_pos hk]) (by rw [List.length_append]; omega)⟩
    · have hk : x.k = 3 := by simpa using hk
      have hl := name_len (head23 hh (.inr hk))
      rw [T_size]
      omega
    · have hk : x.k = 3 := by simpa using hk
      have hl := name_len (head23 hh (.inr hk))
      rw [inz]
      have : (ByteArray.mk #[105, 110, 40]).size = 3 := rfl
      omega
    · have hk : x.k = 3 := by simpa using hk
      have hl := name_len (head23 hh (.inr hk))
      have hz10 := hz2.only hO10
      have hl2 : ([105, 110, 40] ++ x.s ++ [41] : List UInt8).length = x.s.length + 4 := by
       rw [List.length_append, List.length_append]
       simp only [List.length_cons, List.length_nil]
       omega
      rw [inb]
      refine (wstr_c hz10.pg _ (by omega)).mono ?_
      rintro _ w11 ⟨sl5, rfl, hp5, hm5⟩
      obtain ⟨hz5, hs5, _⟩ := hz10.mv hp5 hm5
      exact ⟨_, ⟨.nilIface, rfl⟩, rfl, hs5, fin hz5 (hm5.after hO10) (by rw [hpg, if_neg (by omega), if_neg (by omega), if_pos hk]) (by rw [List.length_append]; omega)⟩
    · have hk : x.k = 4 := by simpa using hk
      obtain ⟨y, hy, hop⟩ := head4 hh hk
      have hcnt : cntL (cntM d) x.subs = cntM d y := by rw [hy]; simp [cntL]
      have hay : shapeM d y = true := by rw [hy] at ha; simpa [all1] using ha
      have hny : numOk d y := hns y (by rw [hy]; simp)
      have hotl := opTx_len x.op.toNat
      have hz13 := hz2.only hO13
      obtain ⟨q, hq, hB⟩ := hz13.pg.blk
      obtain ⟨ad, g1, g2⟩ := hz13.sig (op := x.op) (by omega) (by omega)
      refine ⟨sG, Blk.at1 hB 2 rfl, ad, g1, _, g2, (wstr_c hz13.pg (opTx x.op.toNat) (by omega)).mono ?_⟩
      rintro _ w14 ⟨sl14, rfl, hp14, hm14⟩
      obtain ⟨hz14, hs14, _⟩ := hz13.mv hp14 hm14
      refine ⟨_, ⟨.nilIface, rfl⟩, rfl, hs14, fun w15 hO15 => ?_⟩
      have hz15 := hz14.only hO15
      obtain ⟨p1, sy, e1, e2, e3, e4⟩ := hz15.sub (i := 0) (y := y) (by rw [hy]; rfl)
      refine ⟨fun k => k < b ∨ k = k0, .inr rfl, p1, e1, .inl e2, _, _, _, _, _, _, e3, p1, e1, _, _, _, _, _, _, e3, (level_c e4).mono ?_⟩
      rintro _ w16 ⟨rfl, hO16⟩
      have hz16 := hz15.only hO16
      have hpl := pg_len d (decide (levM y < 6)) (opn wr l ++ opTx x.op.toNat) hay hny
      rw [List.length_append] at hpl
      refine ⟨_, rfl, hz15.same hO16, Keeps.only hO16, (page_c d (decide (levM y < 6)) hay hny (rEx_only e4 hO16) hF hz16.tb hTb hz16.pg (by rw [List.length_append]; omega)).mono ?_⟩
      rintro _ w17 ⟨sl17, rfl, hp17, hm17⟩
      obtain ⟨hz17, hs17, hk17⟩ := hz16.mv hp17 hm17
      exact ⟨rfl, hs17, hk17, fin hz17 ((hm14.after hO13).trans ((hm17.after hO16).after hO15)) (by rw [hpg, if_neg (by omega), if_neg (by omega), if_neg (by omega), if_pos hk, hy]) (by omega)⟩
    · rintro _ w19 ⟨rfl, hO19⟩
      have k1 : x.k ≠ 1 := by simpa using k1
      have k2 : x.k ≠ 2 := by simpa using k2
      have k3 : x.k ≠ 3 := by simpa using k3
      have k4 : x.k ≠ 4 := by simpa using k4
      obtain ⟨hk, y, z, hy, ho1, ho2⟩ := head5 hh k1 k2 k3 k4
      have hcnt : cntL (cntM d) x.subs = cntM d y + cntM d z := by rw [hy]; simp [cntL]
      have hays : shapeM d y = true /\ shapeM d z = true := by rw [hy] at ha; simpa [all1] using ha
      have hny : numOk d y := hns y (by rw [hy]; simp)
      have hnz : numOk d z := hns z (by rw [hy]; simp)
      have hotl := opTx_len x.op.toNat
      have hz19 := hz2.only hO19
      refine ⟨_, rfl, hz2.same hO19, fun w20 hO20 => ?_⟩
      have hz20 := hz19.only hO20
      obtain ⟨p1, sy, e1, e2, e3, e4⟩ := hz20.sub (i := 0) (y := y) (by rw [hy]; rfl)
      refine ⟨fun k => k < b ∨ k = k0, .inr rfl, p1, e1, .inl e2, _, _, _, _, _, _, e3, p1, e1, _, _, _, _, _, _, e3, (level_c e4).mono ?_⟩
      rintro _ w21 ⟨rfl, hO21⟩
      have hz21 := hz20.only hO21
      have hpl := pg_len d (decide (levM y < levM x)) (opn wr l) hays.1 hny
      refine ⟨_, rfl, hz20.same hO21, Keeps.only hO21, (page_c d (decide (levM y < levM x)) hays.1 hny (rEx_only e4 hO21) hF hz21.tb hTb hz21.pg (by omega)).mono ?_⟩
      rintro _ w22 ⟨sl22, rfl, hp22, hm22⟩
      obtain ⟨hz22, hs22, hk22⟩ := hz21.mv hp22 hm22
      refine ⟨rfl, hs22, hk22, fun w23 hO23 => ?_⟩
      have hz23 := hz22.only hO23
      obtain ⟨q, hq, hB⟩ := hz23.pg.blk
      obtain ⟨ad, g1, g2⟩ := hz23.sig (op := x.op) (by omega) (by omega)
      have hl2 : ([32] ++ opTx x.op.toNat ++ [32] : List UInt8).length = (opTx x.op.toNat).length + 2 := by
       rw [List.length_append, List.length_append]
       simp only [List.length_cons, List.length_nil]
       omega
      have hb1 : (ByteArray.mk #[32]).size = 1 := rfl
      refine ⟨sG, Blk.at1 hB 2 rfl, ad, g1, _, g2, by rw [T_size]; omega, by rw [inz]; omega, ?_⟩
      rw [blb]
      refine (wstr_c hz23.pg _ (by omega)).mono ?_
      rintro _ w24 ⟨sl24, rfl, hp24, hm24⟩
      obtain ⟨hz24, hs24, _⟩ := hz23.mv hp24 hm24
      refine ⟨_, ⟨.nilIface, rfl⟩, rfl, hs24, fun w25 hO25 => ?_⟩
      have hz25 := hz24.only hO25
      obtain ⟨p2, sz, f1, f2, f3, f4⟩ := hz25.sub (i := 1) (y := z) (by rw [hy]; rfl)
      refine ⟨fun k => k < b ∨ k = k0, .inr rfl, p2, f1, .inl f2, _, _, _, _, _, _, f3, p2, f1, _, _, _, _, _, _, f3, (level_c f4).mono ?_⟩
      rintro _ w26 ⟨rfl, hO26⟩
      have hz26 := hz25.only hO26
      have hpl2 := pg_len d (decide (levM z <= levM x)) (pgM d y (decide (levM y < levM x)) (opn wr l) ++ ([32] ++ opTx x.op.toNat ++ [32])) hays.2 hnz
      rw [List.length_append, hl2] at hpl2
      refine ⟨_, rfl, hz25.same hO26, Keeps.only hO26, (page_c d (decide (levM z <= levM x)) hays.2 hnz (rEx_only f4 hO26) hF hz26.tb hTb hz26.pg (by rw [List.length_append, hl2]; omega)).mono ?_⟩
      rintro _ w27 ⟨sl27, rfl, hp27, hm27⟩
      obtain ⟨hz27, hs27, hk27⟩ := hz26.mv hp27 hm27
      exact ⟨rfl, hs27, hk27, fin hz27 (((hm22.after hO21).after hO20).after hO19 |>.trans ((hm24.after hO23).trans ((hm27.after hO26).after hO25))) (by rw [hpg, if_neg k1, if_neg k2, if_neg k3, if_neg k4, hy]) (by omega)⟩
def textM (d : Nat) (x : Ex) : List UInt8 := if shapeM d x = true then (if (readA (pgM d x false [])).2.1 ≠ 0 then [] else pgM d x false []) else []
theorem text_c {d : Nat} {w : World} {F : Nat -> Prop} {x : Ex} {cs : List Value} (hx : rEx d w F x cs) (hl : lenOk d x) (hn : numOk d x) (hE : Er w) (hT : Tb w) (hc : 40 * cntM d x <= 70368744177664) :
  Calls Tryz.prog 147 #[.agg cs.toArray] w fun e w' => e = .returned (.string (T (textM d x))) /\ Only [] w w' := by
 obtain ⟨xs, rfl⟩ := rEx_cells hx
 refine ret (v6w x.k x.n (T x.s) x.op xs x.a (fun v w' => v = .string (T (textM d x)) /\ Only [] w w') w ?_)
 unfold v6v
 intro k0 w0 hk0 hk0' hO0
 have hxi := (rEx_ok d).inHeap hx
 refine (shape_c d hl (rEx_only hx hO0)).mono ?_
 rintro _ w1 ⟨rfl, hO1⟩
 have z0 := hO0.size
 have z1 := hO1.size
 have hO01 := hO0.tr0 hO1
 refine ⟨_, rfl, hO1.same (by simp; omega), fun hs => ?_, fun hs => (ops_c w1).mono ?_⟩
 · have hs : shapeM d x = false := by simpa using hs
   rw [textM, if_neg (by rw [hs]; decide)]
   exact ⟨rfl, hO01⟩
 have hs : shapeM d x = true := by simpa using hs
 rw [textM, if_pos hs]
 rintro _ w2 ⟨l0, rfl, hsn, hO2⟩
 have z2 := hO2.size
 refine ⟨l0, rfl, hO2.same (by simp; omega), fun k1 w3 hk1 hk1' hO3 hB3 => ?_⟩
 have z3 := hO3.size
 have hO03 : Only [] w w3 := (hO01.tr0 hO2).tr0 hO3
 have hpg : Pg (fun k => w1.heap.size <= k /\ k < w2.heap.size) w3 k1 Sl.nil l0 [] := ⟨⟨none, .inl rfl, hB3⟩, .inl ⟨rfl, rfl⟩, SliceF.only rTx_ok (by decide) hsn hO3 (by simp), fun k hk => by have := hk.2; omega⟩
 have hT3 := hT.only hO03
 have htl := hT.lt
 refine (page_c d false hs hn (rEx_only hxi hO03) (fun k hk => by have := hk.2; omega) hT3 (by omega) hpg (by rw [List.length_nil]; omega)).mono ?_
 rintro _ w4 ⟨sl4, rfl, hp4, hm4⟩
 have z4 := hm4.1.size
 have hO4 : Only [] w w4 := (hO03.trP hm4.1).only fun k hk => by
  rcases hk with rfl | e
  · omega
  · cases e
 obtain ⟨q, hq, hB4⟩ := hp4.blk
 refine ⟨rfl, hm4.same (by omega) (fun e => by cases e) (by omega), q, sl4, l0, hB4, (pstr_c hp4.pt).mono ?_⟩
 rintro _ w5 ⟨rfl, ht5, hO5⟩
 have z5 := hO5.size
 have hB5 := hO5.blk hB4 (by omega)
 have hO5' : Only [] w w5 := (hO4.trP hO5).only fun k hk => by have := hk.1; omega
 refine ⟨_, rfl, hO5.same (by simp; omega), q, sl4, l0, hB5, (read_c _ (hE.only hO5')).mono ?_⟩
 rintro _ w6 ⟨cs, rfl, hX, hO6⟩
 have z6 := hO6.size
 obtain ⟨xl, rfl, _⟩ := hX.cells
 have hB6 := hO6.blk hB5 (by simp)
 have hO6' := hO5'.tr0 hO6
 refine ⟨_, _, _, _, _, _, _, _, rfl, hO6.same (by simp; omega), q, sl4, l0, hB6, fun hr k2 k3 w7 _ _ _ _ hO7 _ => ?_, fun hr k4 k5 w8 hk4 hk4' hk5 hk5' hO8 hB8 => ?_⟩
 · rw [if_pos (by simpa using hr)]
   exact ⟨rfl, hO6'.tr0 hO7⟩
 · have z8 := hO8.size
   refine (pstr_c ((ht5.only hO6).only hO8)).mono ?_
   rintro _ w9 ⟨rfl, ht9, hO9⟩
   rw [if_neg (by simpa using hr)]
   have hne : ∀ k, sl4.a = some ⟨k, 0, none⟩ -> k < w4.heap.size := fun k hk => (hp4.buf.lt hk).2
   refine ⟨_, rfl, hO9.same fun k hk => ?_, q, sl4, l0, hO9.blk hB8 (by omega), rfl, ((hO6'.tr0 hO8).trP hO9).only fun k hk => by have := hk.1; omega⟩
   simp only [List.mem_cons, List.not_mem_nil, or_false] at hk
   rcases hk with rfl | rfl | rfl
   · exact ⟨by omega, fun h => by have := h.1; omega⟩
   · exact ⟨hk4', fun h => by have := hne _ h.2; omega⟩
   · exact ⟨hk5', fun h => by have := hne _ h.2; omega⟩
end Go.Proofs.YtndkfaaeeojeiaaGreatDoor.Con
namespace Go.Proofs.YtndkfaaeeojeiaaGreatDoor.Con
open Go Go.RowKit Go.Kt Go.Kt.V
set_option linter.unusedSimpArgs false
set_option linter.unusedVariables false
set_option maxHeartbeats 4000000
theorem inR_err {ts : List Tk} {i : Nat} {e : Int × Int} (h : inR ts i = .error e) : e.1 ≠ 0 := by
 unfold inR at h
 split at h
 · split at h
   · split at h
     · cases h
     · injection h with h; subst h; exact wrongF_ne
   · injection h with h; subst h; exact wrongF_ne
 · injection h with h; subst h; exact wrongF_ne
theorem andR_err {r : Pr} {g : Ex -> Nat -> Pr} {e : Int × Int} (h : andR r g = .error e) : r = .error e ∨ ∃ x j, r = .ok (x, j) /\ g x j = .error e := by
 cases r with
 | error e' => exact .inl h
 | ok p => exact .inr ⟨p.1, p.2, rfl, h⟩
theorem nestR_err {d : Nat} {a : Int} {r : Pr} {e : Int × Int} (h : nestR d a r = .error e) : r = .error e ∨ e.1 = 21 := by
 unfold nestR at h
 split at h
 · injection h with h; subst h; exact .inr rfl
 · exact .inl h
theorem loopR_err {ts : List Tk} {E : Nat -> Pr} {k : Int} {e : Int × Int} (hE : ∀ i, E i = .error e -> e.1 ≠ 0) : ∀ (g : Nat) (x : Ex) (j : Nat), loopR ts E k g x j = .error e -> e.1 ≠ 0
 | 0, x, j, h => by cases h
 | g + 1, x, j, h => by
  rw [loopR] at h
  split at h
  · cases h
  · rcases andR_err h with h1 | ⟨y, m, h1, h2⟩
    · exact hE _ h1
    · exact loopR_err hE g _ _ h2
theorem exprR_err {ts : List Tk} {e : Int × Int} : ∀ (f k d i : Nat), exprR ts f k d i = .error e -> e.1 ≠ 0
 | 0, k, d, i, h => by
  rw [exprR] at h
  injection h with h; subst h; decide
 | f + 1, k, d, i, h => by
  rw [exprR] at h
  split at h
  · unfold oneR at h
    split at h
    · generalize hn : nestR d (tk ts i).a (exprR ts f 6 (d + 1) (i + 1)) = r at h
      cases r with
      | ok q => cases h
      | error e' =>
       simp only [mapR] at h
       injection h with h; subst h
       rcases nestR_err hn with h1 | h1
       · exact exprR_err f _ _ _ h1
       · rw [h1]; decide
    · split at h
      · rcases nestR_err h with h1 | h1
        · cases hr : exprR ts f 0 (d + 1) (i + 1) with
          | error e' =>
           rw [hr] at h1
           simp only [parR] at h1
           injection h1 with h1; subst h1
           exact exprR_err f _ _ _ hr
          | ok q =>
           rw [hr] at h1
           simp only [parR] at h1
           split at h1
           · cases h1
           · injection h1 with h1; subst h1; exact wrongF_ne
        · rw [h1]; decide
      · split at h
        · cases h
        · split at h
          · cases h
          · split at h
            · exact inR_err h
            · injection h with h; subst h; exact wrongF_ne
  · rcases andR_err h with h1 | ⟨y, m, h1, h2⟩
    · exact exprR_err f _ _ _ h1
    · exact loopR_err (fun i hi => exprR_err f _ _ _ hi) _ _ _ h2
structure Ac where
 k : Int
 n : List UInt8
 x : Ex
 a : Int
structure Mv where
 k : Int
 ev : List UInt8
 wt : Int
 gd : Bool
 g : Ex
 acts : List Ac
 tg : List (List UInt8)
 a : Int
structure Nb where
 k : Int
 nm : List UInt8
 ini : List UInt8
 dft : List UInt8
 en : List Ac
 lv : List Ac
 mv : List Mv
 a : Int
inductive Nd where
 | mk (b : Nb) (kids : List Nd)
def Nd.b : Nd -> Nb | .mk b _ => b
def Nd.kids : Nd -> List Nd | .mk _ l => l
structure Vr where
 n : List UInt8
 v : Int
 a : Int
structure Ch where
 vars : List Vr
 root : Nd
def nb0 : Nb := ⟨0, [], [], [], [], [], [], 0⟩
def nd0 : Nd := .mk nb0 []
def ch0 : Ch := ⟨[], nd0⟩
def tkZ : Tk := ⟨0, [], 0, 0⟩
structure Sx where
 i : Nat
 fc : Int
 fa : Int
 v : Int
 n : Int
 d : Int
 m : Int
 a : Int
section
variable (ts : List Tk)
def stopS (s : Sx) (c : Int) : Sx := if s.fc = 0 then { s with fc := c, fa := (tk ts s.i).a } else s
def wrongS (s : Sx) : Sx := if (tk ts s.i).k = 5 then stopS ts (stopS ts s 3) 4 else stopS ts s 4
def ixS (c : List UInt8) : List (List UInt8) -> Nat
 | [] => 0
 | x :: l => if c = x then 0 else ixS c l + 1
def whichS (s : Sx) (l : List (List UInt8)) : Nat :=
 if s.fc ≠ 0 ∨ ((tk ts s.i).k ≠ 2 /\ (tk ts s.i).k ≠ 4) then 0 else if ixS (tk ts s.i).t l < l.length then ixS (tk ts s.i).t l + 1 else 0
def nextS (s : Sx) : Sx := { s with i := s.i + 1 }
def mustS (s : Sx) (x : List UInt8) : Sx := if whichS ts s [x] = 0 then wrongS ts s else nextS s
def kindS (s : Sx) (k : Int) : Tk × Sx := if s.fc ≠ 0 ∨ (tk ts s.i).k ≠ k then (tkZ, wrongS ts s) else (tk ts s.i, nextS s)
def nameS (s : Sx) : List UInt8 × Sx := ((kindS ts s 1).1.t, (kindS ts s 1).2)
def exprS (s : Sx) : Ex × Sx :=
 if s.fc ≠ 0 then (ex0, s)
 else if (parseA ts s.i).2.2.1 ≠ 0 then ((parseA ts s.i).1, { s with fc := (parseA ts s.i).2.2.1, fa := (parseA ts s.i).2.2.2 })
 else ((parseA ts s.i).1, { s with i := (parseA ts s.i).2.1.toNat })
def dec (x : Int) : Int := IntKind.wrap .i64 (x - 1)
def inc (x : Int) : Int := IntKind.wrap .i64 (x + 1)
def useA (s : Sx) : Sx := if s.a = 0 then { stopS ts s 2 with a := dec s.a } else { s with a := dec s.a }
def useM (s : Sx) : Sx := if s.m = 0 then { stopS ts s 2 with m := dec s.m } else { s with m := dec s.m }
def useN (s : Sx) : Sx := if s.n = 0 then { stopS ts s 2 with n := dec s.n } else { s with n := dec s.n }
def useV (s : Sx) : Sx := if s.v = 0 then { stopS ts s 2 with v := dec s.v } else { s with v := dec s.v }
def wSet : List UInt8 := [115, 101, 116]
def wRaise : List UInt8 := [114, 97, 105, 115, 101]
def wEmit : List UInt8 := [101, 109, 105, 116]
def wOn : List UInt8 := [111, 110]
def wAlways : List UInt8 := [97, 108, 119, 97, 121, 115]
def wAfter : List UInt8 := [97, 102, 116, 101, 114]
def wInitial : List UInt8 := [105, 110, 105, 116, 105, 97, 108]
def wEnter : List UInt8 := [101, 110, 116, 101, 114]
def wLeave : List UInt8 := [108, 101, 97, 118, 101]
def wState : List UInt8 := [115, 116, 97, 116, 101]
def wParallel : List UInt8 := [112, 97, 114, 97, 108, 108, 101, 108]
def wHistory : List UInt8 := [104, 105, 115, 116, 111, 114, 121]
def wDeep : List UInt8 := [100, 101, 101, 112]
def wChart : List UInt8 := [99, 104, 97, 114, 116]
def wVar : List UInt8 := [118, 97, 114]
def actT (s : Sx) (k : Nat) (n : List UInt8) (a : Int) : Ac × Sx :=
 if k = 2 then (⟨k, n, ex0, a⟩, mustS ts s [59])
 else (⟨k, n, (exprS ts (mustS ts s [61])).1, a⟩, mustS ts (exprS ts (mustS ts s [61])).2 [59])
def actS (s : Sx) : Ac × Sx :=
 if whichS ts s [wSet, wRaise, wEmit] = 0 then (⟨0, [], ex0, (tk ts s.i).a⟩, wrongS ts s)
 else if (useA ts s).fc ≠ 0 then (⟨(whichS ts s [wSet, wRaise, wEmit] : Nat), [], ex0, (tk ts s.i).a⟩, useA ts s)
 else actT ts (nameS ts (nextS (useA ts s))).2 (whichS ts s [wSet, wRaise, wEmit]) (nameS ts (nextS (useA ts s))).1 (tk ts s.i).a
def actsS : Nat -> List Ac -> Sx -> List Ac × Sx
 | 0, acc, s => (acc, s)
 | f + 1, acc, s => if s.fc ≠ 0 then (acc, s) else if whichS ts s [[125]] ≠ 0 then (acc, nextS s) else actsS f (acc ++ [(actS ts s).1]) (actS ts s).2
def blockS (s : Sx) : List Ac × Sx := actsS ts (ts.length + 1) [] (mustS ts s [123])
def targS : Nat -> List UInt8 -> List (List UInt8) -> Sx -> List (List UInt8) × Sx
 | 0, _, acc, s => (acc, s)
 | f + 1, x, acc, s => if whichS ts s [x] = 0 then (acc, s) else targS f [44] (acc ++ [(nameS ts (nextS s)).1]) (nameS ts (nextS s)).2
def moveC (m : Mv) (s : Sx) : Mv × Sx :=
 ({ m with tg := (targS ts (ts.length + 1) [45, 62] [] s).1 }, mustS ts (targS ts (ts.length + 1) [45, 62] [] s).2 [59])
def moveB (m : Mv) (s : Sx) : Mv × Sx :=
 if whichS ts s [[123]] = 0 then moveC ts m s else moveC ts { m with acts := (blockS ts s).1 } (blockS ts s).2
def moveA (m : Mv) (s : Sx) : Mv × Sx :=
 if whichS ts s [[91]] = 0 then moveB ts m s else moveB ts { m with gd := true, g := (exprS ts (nextS s)).1 } (mustS ts (exprS ts (nextS s)).2 [93])
def mv0 (k a : Int) : Mv := ⟨k, [], 0, false, ex0, [], [], a⟩
def moveS (k : Int) (s : Sx) : Mv × Sx :=
 if (useM ts s).fc ≠ 0 then (mv0 k (tk ts s.i).a, useM ts s)
 else if k = 1 then moveA ts { mv0 k (tk ts s.i).a with ev := (nameS ts (nextS (useM ts s))).1 } (nameS ts (nextS (useM ts s))).2
 else if k = 3 then moveA ts { mv0 k (tk ts s.i).a with wt := (kindS ts (nextS (useM ts s)) 3).1.n } (kindS ts (nextS (useM ts s)) 3).2
 else moveA ts (mv0 k (tk ts s.i).a) (nextS (useM ts s))
structure Had where
 i : Bool
 e : Bool
 l : Bool
def clauseS (n : Nb) (h : Had) (s : Sx) : Bool × Nb × Had × Sx :=
 if whichS ts s [wOn, wAlways, wAfter] ≠ 0 then (true, { n with mv := n.mv ++ [(moveS ts (whichS ts s [wOn, wAlways, wAfter] : Nat) s).1] }, h, (moveS ts (whichS ts s [wOn, wAlways, wAfter] : Nat) s).2)
 else match whichS ts s [wInitial, wEnter, wLeave] with
  | 0 => (false, n, h, s)
  | 1 => if h.i then (false, n, h, wrongS ts s) else (true, { n with ini := (nameS ts (nextS s)).1 }, { h with i := true }, mustS ts (nameS ts (nextS s)).2 [59])
  | 2 => if h.e then (false, n, h, wrongS ts s) else (true, { n with en := (blockS ts (nextS s)).1 }, { h with e := true }, (blockS ts (nextS s)).2)
  | _ => if h.l then (false, n, h, wrongS ts s) else (true, { n with lv := (blockS ts (nextS s)).1 }, { h with l := true }, (blockS ts (nextS s)).2)
def clausesS : Nat -> Nb -> Had -> Sx -> Nb × Sx
 | 0, n, _, s => (n, s)
 | f + 1, n, h, s => if s.fc ≠ 0 then (n, s)
  else if (clauseS ts n h s).1 then clausesS f (clauseS ts n h s).2.1 (clauseS ts n h s).2.2.1 (clauseS ts n h s).2.2.2 else ((clauseS ts n h s).2.1, (clauseS ts n h s).2.2.2)
def wKinds : List (List UInt8) := [wState, wParallel, wHistory, wDeep]
def kidsS (N : Int -> Sx -> Nd × Sx) : Nat -> List Nd -> Sx -> List Nd × Sx
 | 0, acc, s => (acc, s)
 | f + 1, acc, s => if whichS ts s wKinds = 0 then (acc, s) else kidsS N f (acc ++ [(N (whichS ts s wKinds : Nat) (nextS s)).1]) (N (whichS ts s wKinds : Nat) (nextS s)).2
def bodyS (N : Int -> Sx -> Nd × Sx) (n : Nb) (s : Sx) : Nd × Sx :=
 let c := clausesS ts (ts.length + 1) n ⟨false, false, false⟩ { s with d := dec s.d }
 let k := kidsS ts N (ts.length + 1) [] c.2
 (.mk c.1 k.1, mustS ts { k.2 with d := inc k.2.d } [125])
def roomS (s : Sx) : Sx := if (tk ts s.i).k = 1 then (if (useN ts s).d = 0 then stopS ts (useN ts s) 21 else useN ts s) else s
def namedS (k : Int) (s : Sx) : Nb × Sx := ({ nb0 with k := k, nm := (kindS ts (roomS ts s) 1).1.t, a := (kindS ts (roomS ts s) 1).1.a }, (kindS ts (roomS ts s) 1).2)
def nodeS : Nat -> Int -> Sx -> Nd × Sx
 | 0, _, s => (nd0, s)
 | f + 1, k, s =>
  if 3 <= k then (.mk { (namedS ts k s).1 with dft := (nameS ts (mustS ts (namedS ts k s).2 [45, 62])).1 } [], mustS ts (nameS ts (mustS ts (namedS ts k s).2 [45, 62])).2 [59])
  else bodyS ts (nodeS f) (namedS ts k s).1 (mustS ts (namedS ts k s).2 [123])
def varS (s : Sx) : Vr × Sx :=
 let s1 := if (tk ts s.i).k = 1 then useV ts s else s
 let t := kindS ts s1 1
 let s2 := mustS ts t.2 [61]
 let g := whichS ts s2 [[45]]
 let q := kindS ts (if g = 0 then s2 else nextS s2) 3
 (⟨t.1.t, if g = 0 then q.1.n else IntKind.wrap .i64 (-q.1.n), t.1.a⟩, mustS ts q.2 [59])
def varsS : Nat -> List Vr -> Sx -> List Vr × Sx
 | 0, acc, s => (acc, s)
 | f + 1, acc, s => if whichS ts s [wVar] = 0 then (acc, s) else varsS f (acc ++ [(varS ts (nextS s)).1]) (varS ts (nextS s)).2
def sx0 : Sx := ⟨0, 0, 0, 16, 64, 12, 200, 400⟩
def endS (s : Sx) : Sx := if s.fc = 0 /\ (tk ts s.i).k ≠ 5 then wrongS ts s else s
def chartS : Ch × Sx :=
 let n := namedS ts 1 (mustS ts sx0 wChart)
 let v := varsS ts (ts.length + 1) [] (mustS ts n.2 [123])
 let b := bodyS ts (nodeS ts 14) n.1 v.2
 (⟨v.1, b.1⟩, endS ts b.2)
end
def parseC (l : List UInt8) : Ch × Int × Int :=
 if (tokensM l).2.1 ≠ 0 then (ch0, (tokensM l).2.1, (tokensM l).2.2)
 else if (chartS (tokensM l).1).2.fc ≠ 0 then (ch0, (chartS (tokensM l).1).2.fc, (chartS (tokensM l).1).2.fa)
 else ((chartS (tokensM l).1).1, 0, 0)
def mu (ts : List Tk) (s : Sx) : Nat := if s.fc = 0 then ts.length - s.i else 0
structure On0 (ts : List Tk) (s s' : Sx) : Prop where
 lt : s.i < ts.length -> s'.i < ts.length
 le : s'.fc = 0 -> s.fc = 0 /\ s.i <= s'.i
structure On (ts : List Tk) (s s' : Sx) : Prop extends On0 ts s s' where
 d : s'.d = s.d
section
variable {ts : List Tk} {s s' s'' : Sx}
theorem On.mk' (h : On0 ts s s') (k : s'.d = s.d) : On ts s s' := ⟨h, k⟩
theorem On0.refl (ts : List Tk) (s : Sx) : On0 ts s s := ⟨id, fun h => ⟨h, Nat.le_refl _⟩⟩
theorem On.refl (ts : List Tk) (s : Sx) : On ts s s := ⟨On0.refl ts s, rfl⟩
theorem On0.trans (h : On0 ts s s') (k : On0 ts s' s'') : On0 ts s s'' := ⟨fun x => k.lt (h.lt x), fun e => by
 obtain ⟨a, b⟩ := k.le e
 obtain ⟨c, d⟩ := h.le a
 exact ⟨c, Nat.le_trans d b⟩⟩
theorem On.trans (h : On ts s s') (k : On ts s' s'') : On ts s s'' := ⟨h.toOn0.trans k.toOn0, k.d.trans h.d⟩
theorem On0.mu (h : On0 ts s s') : mu ts s' <= mu ts s := by
 unfold Con.mu
 by_cases e : s'.fc = 0
 · obtain ⟨a, b⟩ := h.le e
   rw [if_pos e, if_pos a]; omega
 · rw [if_neg e]; exact Nat.zero_le _
theorem stop_on (c : Int) : On ts s (stopS ts s c) := by
 unfold stopS
 by_cases e : s.fc = 0
 · rw [if_pos e]; exact ⟨⟨id, fun _ => ⟨e, Nat.le_refl _⟩⟩, rfl⟩
 · rw [if_neg e]; exact On.refl _ _
theorem stop_fc {c : Int} (hc : c ≠ 0) : (stopS ts s c).fc ≠ 0 := by
 unfold stopS
 by_cases e : s.fc = 0
 · rw [if_pos e]; exact hc
 · rw [if_neg e]; exact e
theorem stop_i (c : Int) : (stopS ts s c).i = s.i := by
 unfold stopS
 split <;> rfl
theorem wrong_fc : (wrongS ts s).fc ≠ 0 := by
 unfold wrongS
 split <;> exact stop_fc (by decide)
theorem wrong_on : On ts s (wrongS ts s) := by
 unfold wrongS
 split
 · exact (stop_on 3).trans (stop_on 4)
 · exact stop_on 4
theorem which_le (l : List (List UInt8)) : whichS ts s l <= l.length := by
 unfold whichS
 split
 · exact Nat.zero_le _
 · split <;> omega
theorem which_ne {l : List (List UInt8)} (h : whichS ts s l ≠ 0) : s.fc = 0 /\ (tk ts s.i).k ≠ 5 := by
 unfold whichS at h
 split at h
 · exact absurd rfl h
 · rename_i hc
   by_cases e : s.fc = 0
   · refine ⟨e, fun e5 => hc (.inr ?_)⟩
     rw [e5]
     exact ⟨by decide, by decide⟩
   · exact absurd (.inl e) hc
theorem next_on (hE : EndL ts) (h0 : s.fc = 0) (hk : (tk ts s.i).k ≠ 5) : On ts s (nextS s) := ⟨⟨fun h => hE.next h hk, fun _ => ⟨h0, Nat.le_succ _⟩⟩, rfl⟩
theorem must_on (hE : EndL ts) (x : List UInt8) : On ts s (mustS ts s x) := by
 unfold mustS
 by_cases h : whichS ts s [x] = 0
 · rw [if_pos h]; exact wrong_on
 · rw [if_neg h]; exact next_on hE (which_ne h).1 (which_ne h).2
theorem kind_on (hE : EndL ts) {k : Int} (hk : k ≠ 5) : On ts s (kindS ts s k).2 := by
 unfold kindS
 by_cases h : s.fc ≠ 0 ∨ (tk ts s.i).k ≠ k
 · rw [if_pos h]; exact wrong_on
 · rw [if_neg h]
   simp only [not_or, Decidable.not_not] at h
   exact next_on hE h.1 (by rw [h.2]; exact hk)
theorem name_on (hE : EndL ts) : On ts s (nameS ts s).2 := kind_on hE (by decide)
end
section
variable {ts : List Tk} (hE : EndL ts)
include hE
theorem inR_lt {i : Nat} {x : Ex} {j : Nat} (hi : i < ts.length) (hk : (tk ts i).k ≠ 5) (h : inR ts i = .ok (x, j)) : j < ts.length := by
 unfold inR at h
 split at h
 · rename_i h1
   have l1 := hE.next hi hk
   have l2 := hE.next l1 (sg_k h1)
   split at h
   · rename_i h2
     have l3 := hE.next l2 (by rw [h2]; decide)
     split at h
     · rename_i h3
       have l4 := hE.next l3 (sg_k h3)
       simp only [Except.ok.injEq, Prod.mk.injEq] at h
       omega
     · cases h
   · cases h
 · cases h
theorem oneR_lt {E0 One : Nat -> Pr} {d i : Nat} {x : Ex} {j : Nat} (hE0 : ∀ i x j, i < ts.length -> E0 i = .ok (x, j) -> j < ts.length) (hO : ∀ i x j, i < ts.length -> One i = .ok (x, j) -> j < ts.length) (hi : i < ts.length) (h : oneR ts E0 One d i = .ok (x, j)) : j < ts.length := by
 unfold oneR at h
 split at h
 · rename_i hs
   obtain ⟨y, h1, _⟩ := mapR_ok h
   refine hO _ _ _ (hE.next hi ?_) (nestR_ok h1).1
   rcases Bool.or_eq_true _ _ ▸ hs with hs | hs <;> exact sg_k hs
 · split at h
   · rename_i hs
     obtain ⟨j', h1, h2, rfl⟩ := parR_ok (nestR_ok h).1
     exact hE.next (hE0 _ _ _ (hE.next hi (sg_k hs)) h1) (sg_k h2)
   · split at h
     · rename_i hk
       simp only [Except.ok.injEq, Prod.mk.injEq] at h
       have := hE.next hi (by rw [hk]; decide)
       omega
     · split at h
       · rename_i hk
         simp only [Except.ok.injEq, Prod.mk.injEq] at h
         have := hE.next hi (by rw [hk]; decide)
         omega
       · split at h
         · rename_i hk
           exact inR_lt hE hi (by rw [hk.1]; decide) h
         · cases h
theorem loopR_lt {E : Nat -> Pr} {k : Int} (hE' : ∀ i x j, i < ts.length -> E i = .ok (x, j) -> j < ts.length) : ∀ (g : Nat) (x : Ex) (j : Nat) {x' : Ex} {j' : Nat}, j < ts.length -> loopR ts E k g x j = .ok (x', j') -> j' < ts.length
 | 0, x, j, x', j', hj, h => by
  simp only [loopR, Except.ok.injEq, Prod.mk.injEq] at h; omega
 | g + 1, x, j, x', j', hj, h => by
  rw [loopR] at h
  split at h
  · simp only [Except.ok.injEq, Prod.mk.injEq] at h; omega
  · rename_i ho
    obtain ⟨y, m, h1, h2⟩ := andR_ok h
    exact loopR_lt hE' g _ _ (hE' _ _ _ (hE.next hj (opFrom_sg _ _ ho)) h1) h2
theorem exprR_lt : ∀ (f k d i : Nat) {x : Ex} {j : Nat}, i < ts.length -> exprR ts f k d i = .ok (x, j) -> j < ts.length
 | 0, _, _, _, _, _, _, h => by cases h
 | f + 1, k, d, i, x, j, hi, h => by
  rw [exprR] at h
  split at h
  · exact oneR_lt hE (fun i x j hi h => exprR_lt f _ _ i hi h) (fun i x j hi h => exprR_lt f _ _ i hi h) hi h
  · obtain ⟨y, m, h1, h2⟩ := andR_ok h
    exact loopR_lt hE (fun i x j hi h => exprR_lt f _ _ i hi h) _ _ _ (exprR_lt f _ _ _ hi h1) h2
theorem parseA_on {i : Nat} (h0 : (parseA ts i).2.2.1 = 0) : ∃ j : Nat, (parseA ts i).2.1 = (j : Int) /\ i < j /\ j < ts.length := by
 unfold parseA at h0 ⊢
 split at h0
 · rename_i hc
   rw [if_pos hc]
   have hi : i < ts.length := by have := hc.2.1; omega
   rw [Int.toNat_natCast] at h0 ⊢
   unfold parseR at h0 ⊢
   cases he : exprR ts (need 0 0) 0 0 i with
   | error e =>
    rw [he] at h0
    obtain ⟨c, p⟩ := e
    exact absurd h0 (exprR_err _ _ _ _ he)
   | ok q =>
    obtain ⟨x, j⟩ := q
    exact ⟨j, rfl, exprR_mono _ _ _ _ he, exprR_lt hE _ _ _ _ hi he⟩
 · cases h0
theorem next_mu {s s' : Sx} (h0 : s.fc = 0) (hi : s.i < ts.length) (hk : (tk ts s.i).k ≠ 5) (h : On0 ts (nextS s) s') : mu ts s' < mu ts s := by
 have h1 := h.mu
 have h2 := hE.next hi hk
 have e1 : mu ts s = ts.length - s.i := by unfold mu; rw [if_pos h0]
 have e2 : mu ts (nextS s) = ts.length - (s.i + 1) := by unfold mu nextS; rw [if_pos h0]
 omega
set_option linter.unusedSectionVars false in
theorem bad_mu {s s' : Sx} (h0 : s.fc = 0) (hi : s.i < ts.length) (h : s'.fc ≠ 0) : mu ts s' < mu ts s := by
 unfold mu
 rw [if_neg h, if_pos h0]
 omega
theorem expr_on (s : Sx) : On ts s (exprS ts s).2 := by
 unfold exprS
 by_cases h0 : s.fc ≠ 0
 · rw [if_pos h0]; exact On.refl _ _
 · rw [if_neg h0]
   by_cases h1 : (parseA ts s.i).2.2.1 ≠ 0
   · rw [if_pos h1]; exact ⟨⟨id, fun h => absurd h h1⟩, rfl⟩
   · rw [if_neg h1]
     obtain ⟨j, e, l1, l2⟩ := parseA_on hE (i := s.i) (by simpa using h1)
     dsimp only
     rw [e, Int.toNat_natCast]
     exact ⟨⟨fun _ => l2, fun h => ⟨h, Nat.le_of_lt l1⟩⟩, rfl⟩
omit hE in
theorem useA_on (s : Sx) : On ts s (useA ts s) := by
 unfold useA
 split
 · have h := stop_on (ts := ts) (s := s) 2
   exact ⟨⟨h.lt, h.le⟩, h.d⟩
 · exact ⟨⟨id, fun h => ⟨h, Nat.le_refl _⟩⟩, rfl⟩
omit hE in
theorem useM_on (s : Sx) : On ts s (useM ts s) := by
 unfold useM
 split
 · have h := stop_on (ts := ts) (s := s) 2
   exact ⟨⟨h.lt, h.le⟩, h.d⟩
 · exact ⟨⟨id, fun h => ⟨h, Nat.le_refl _⟩⟩, rfl⟩
omit hE in
theorem useN_on (s : Sx) : On ts s (useN ts s) := by
 unfold useN
 split
 · have h := stop_on (ts := ts) (s := s) 2
   exact ⟨⟨h.lt, h.le⟩, h.d⟩
 · exact ⟨⟨id, fun h => ⟨h, Nat.le_refl _⟩⟩, rfl⟩
omit hE in
theorem useV_on (s : Sx) : On ts s (useV ts s) := by
 unfold useV
 split
 · have h := stop_on (ts := ts) (s := s) 2
   exact ⟨⟨h.lt, h.le⟩, h.d⟩
 · exact ⟨⟨id, fun h => ⟨h, Nat.le_refl _⟩⟩, rfl⟩
omit hE in
theorem useA_i (s : Sx) : (useA ts s).i = s.i := by
 unfold useA
 split
 · exact stop_i 2
 · rfl
omit hE in
theorem useM_i (s : Sx) : (useM ts s).i = s.i := by
 unfold useM
 split
 · exact stop_i 2
 · rfl
theorem actT_on (s : Sx) (k : Nat) (n : List UInt8) (a : Int) : On ts s (actT ts s k n a).2 := by
 unfold actT
 split
 · exact must_on hE _
 · exact ((must_on hE _).trans (expr_on hE _)).trans (must_on hE _)
theorem behind (s u : Sx) (hu : On ts s u) (hi : u.i = s.i) (h0 : u.fc = 0) (hk : (tk ts s.i).k ≠ 5) : On ts s (nextS u) := hu.trans (next_on hE h0 (by rw [hi]; exact hk))
theorem act_on (s : Sx) : On ts s (actS ts s).2 := by
 unfold actS
 split
 · exact wrong_on
 · rename_i h
   split
   · exact useA_on s
   · rename_i h0
     exact (behind hE s _ (useA_on s) (useA_i s) (by simpa using h0) (which_ne h).2).trans ((name_on hE).trans (actT_on hE _ _ _ _))
theorem act_mu {s : Sx} (h0 : s.fc = 0) (hi : s.i < ts.length) : mu ts (actS ts s).2 < mu ts s := by
 unfold actS
 split
 · exact bad_mu hE h0 hi wrong_fc
 · rename_i h
   split
   · rename_i h1
     exact bad_mu hE h0 hi h1
   · rename_i h1
     have e := useA_i (ts := ts) s
     have hm := (useA_on (ts := ts) s).mu
     exact Nat.lt_of_lt_of_le (next_mu hE (by simpa using h1) (by rw [e]; exact hi) (by rw [e]; exact (which_ne h).2) ((name_on hE).trans (actT_on hE _ _ _ _)).toOn0) hm
theorem acts_on : ∀ (f : Nat) (acc : List Ac) (s : Sx), On ts s (actsS ts f acc s).2
 | 0, _, s => On.refl _ _
 | f + 1, acc, s => by
  rw [actsS]
  split
  · exact On.refl _ _
  · split
    · rename_i h
      exact next_on hE (which_ne h).1 (which_ne h).2
    · exact (act_on hE s).trans (acts_on f _ _)
theorem block_on (s : Sx) : On ts s (blockS ts s).2 := (must_on hE _).trans (acts_on hE _ _ _)
theorem targ_on : ∀ (f : Nat) (x : List UInt8) (acc : List (List UInt8)) (s : Sx), On ts s (targS ts f x acc s).2
 | 0, _, _, s => On.refl _ _
 | f + 1, x, acc, s => by
  rw [targS]
  split
  · exact On.refl _ _
  · rename_i h
    exact ((next_on hE (which_ne h).1 (which_ne h).2).trans (name_on hE)).trans (targ_on f _ _ _)
theorem moveC_on (m : Mv) (s : Sx) : On ts s (moveC ts m s).2 := (targ_on hE _ _ _ _).trans (must_on hE _)
theorem moveB_on (m : Mv) (s : Sx) : On ts s (moveB ts m s).2 := by
 unfold moveB
 split
 · exact moveC_on hE _ _
 · exact (block_on hE _).trans (moveC_on hE _ _)
theorem moveA_on (m : Mv) (s : Sx) : On ts s (moveA ts m s).2 := by
 unfold moveA
 split
 · exact moveB_on hE _ _
 · rename_i h
   exact (((next_on hE (which_ne h).1 (which_ne h).2).trans (expr_on hE _)).trans (must_on hE _)).trans (moveB_on hE _ _)
theorem moveN_on (k : Int) (s u : Sx) (m : Mv) : On ts u (if k = 1 then moveA ts { m with ev := (nameS ts u).1 } (nameS ts u).2 else if k = 3 then moveA ts { m with wt := (kindS ts u 3).1.n } (kindS ts u 3).2 else moveA ts m u).2 := by
 split
 · exact (name_on hE).trans (moveA_on hE _ _)
 · split
   · exact (kind_on hE (by decide)).trans (moveA_on hE _ _)
   · exact moveA_on hE _ _
theorem move_on (k : Int) (s : Sx) (hk : (tk ts s.i).k ≠ 5) : On ts s (moveS ts k s).2 := by
 unfold moveS
 split
 · exact useM_on s
 · rename_i h1
   exact (behind hE s _ (useM_on s) (useM_i s) (by simpa using h1) hk).trans (moveN_on hE k s _ _)
theorem move_mu (k : Int) {s : Sx} (h0 : s.fc = 0) (hi : s.i < ts.length) (hk : (tk ts s.i).k ≠ 5) : mu ts (moveS ts k s).2 < mu ts s := by
 unfold moveS
 split
 · rename_i h1
   exact bad_mu hE h0 hi h1
 · rename_i h1
   have e := useM_i (ts := ts) s
   have hm := (useM_on (ts := ts) s).mu
   exact Nat.lt_of_lt_of_le (next_mu hE (by simpa using h1) (by rw [e]; exact hi) (by rw [e]; exact hk) (moveN_on hE k s _ _).toOn0) hm
theorem clause_on (n : Nb) (h : Had) (s : Sx) : On ts s (clauseS ts n h s).2.2.2 := by
 unfold clauseS
 split
 · rename_i hw
   exact move_on hE _ s (which_ne hw).2
 · split
   · exact On.refl _ _
   · rename_i hw
     have hw : whichS ts s [wInitial, wEnter, wLeave] ≠ 0 := by rw [hw]; decide
     split
     · exact wrong_on
     · exact ((next_on hE (which_ne hw).1 (which_ne hw).2).trans (name_on hE)).trans (must_on hE _)
   · rename_i hw
     have hw : whichS ts s [wInitial, wEnter, wLeave] ≠ 0 := by rw [hw]; decide
     split
     · exact wrong_on
     · exact (next_on hE (which_ne hw).1 (which_ne hw).2).trans (block_on hE _)
   · rename_i h0 h1 h2
     have hw : whichS ts s [wInitial, wEnter, wLeave] ≠ 0 := h0
     split
     · exact wrong_on
     · exact (next_on hE (which_ne hw).1 (which_ne hw).2).trans (block_on hE _)
theorem clause_mu (n : Nb) (h : Had) {s : Sx} (h0 : s.fc = 0) (hi : s.i < ts.length) (ht : (clauseS ts n h s).1 = true) : mu ts (clauseS ts n h s).2.2.2 < mu ts s := by
 unfold clauseS at ht ⊢
 split
 · rename_i hw
   exact move_mu hE _ h0 hi (which_ne hw).2
 · rename_i hw0
   rw [if_neg hw0] at ht
   split
   · rename_i hw
     rw [hw] at ht
     cases ht
   · rename_i hw
     rw [hw] at ht
     have hw : whichS ts s [wInitial, wEnter, wLeave] ≠ 0 := by rw [hw]; decide
     split
     · exact bad_mu hE h0 hi wrong_fc
     · exact next_mu hE h0 hi (which_ne hw).2 ((name_on hE).trans (must_on hE _)).toOn0
   · rename_i hw
     have hw : whichS ts s [wInitial, wEnter, wLeave] ≠ 0 := by rw [hw]; decide
     split
     · exact bad_mu hE h0 hi wrong_fc
     · exact next_mu hE h0 hi (which_ne hw).2 (block_on hE _).toOn0
   · rename_i h1 _ _
     have hw : whichS ts s [wInitial, wEnter, wLeave] ≠ 0 := h1
     split
     · exact bad_mu hE h0 hi wrong_fc
     · exact next_mu hE h0 hi (which_ne hw).2 (block_on hE _).toOn0
theorem clauses_on : ∀ (f : Nat) (n : Nb) (h : Had) (s : Sx), On ts s (clausesS ts f n h s).2
 | 0, _, _, s => On.refl _ _
 | f + 1, n, h, s => by
  rw [clausesS]
  split
  · exact On.refl _ _
  · split
    · exact (clause_on hE n h s).trans (clauses_on f _ _ _)
    · exact clause_on hE n h s
theorem kids_on {N : Int -> Sx -> Nd × Sx} (d : Int) (hN : ∀ k s, s.d = d -> s.fc = 0 -> On ts s (N k s).2) : ∀ (f : Nat) (acc : List Nd) (s : Sx), s.d = d -> On ts s (kidsS ts N f acc s).2
 | 0, _, s, _ => On.refl _ _
 | f + 1, acc, s, hd => by
  rw [kidsS]
  split
  · exact On.refl _ _
  · rename_i h
    have h1 := (next_on hE (which_ne h).1 (which_ne h).2).trans (hN (whichS ts s wKinds : Nat) (nextS s) hd (which_ne h).1)
    exact h1.trans (kids_on d hN f _ _ (h1.d.trans hd))
theorem body_on {N : Int -> Sx -> Nd × Sx} {n : Nb} {s : Sx} (hd : InI s.d) (hN : ∀ k u, u.d = dec s.d -> u.fc = 0 -> On ts u (N k u).2) : On ts s (bodyS ts N n s).2 := by
 unfold bodyS
 dsimp only
 have h1 := clauses_on hE (ts.length + 1) n ⟨false, false, false⟩ { s with d := dec s.d }
 have h2 := kids_on hE (dec s.d) hN (ts.length + 1) [] _ h1.d
 have h3 := h1.trans h2
 have h4 := must_on hE [125] (s := { (kidsS ts N (ts.length + 1) [] (clausesS ts (ts.length + 1) n ⟨false, false, false⟩ { s with d := dec s.d }).2).2 with d := inc (kidsS ts N (ts.length + 1) [] (clausesS ts (ts.length + 1) n ⟨false, false, false⟩ { s with d := dec s.d }).2).2.d })
 refine ⟨⟨fun h => h4.lt (h3.lt h), fun e => ?_⟩, h4.d.trans ?_⟩
 · obtain ⟨a, b⟩ := h4.le e
   obtain ⟨c, d⟩ := h3.le a
   exact ⟨c, Nat.le_trans d b⟩
 · dsimp only
   rw [h3.d]
   dsimp only
   unfold inc dec
   have := hd.1
   have := hd.2
   simp only [IntKind.wrap_i64]
   omega
omit hE in
theorem room_on (s : Sx) : On ts s (roomS ts s) := by
 unfold roomS
 split
 · split
   · exact (useN_on s).trans (stop_on _)
   · exact useN_on s
 · exact On.refl _ _
theorem named_on (k : Int) (s : Sx) : On ts s (namedS ts k s).2 := (room_on s).trans (kind_on hE (by decide))
omit hE in
theorem named_d {k : Int} {s : Sx} (h : (namedS ts k s).2.fc = 0) : s.d ≠ 0 := fun e => by
 revert h
 unfold namedS kindS
 dsimp only
 by_cases h1 : (tk ts s.i).k = 1
 · have hf : (roomS ts s).fc ≠ 0 := by
    unfold roomS
    rw [if_pos h1, if_pos ((useN_on s).d.trans e)]
    exact stop_fc (by decide)
   rw [if_pos (.inl hf)]
   exact wrong_fc
 · have e2 : roomS ts s = s := by unfold roomS; rw [if_neg h1]
   rw [e2, if_pos (.inr h1)]
   exact wrong_fc
theorem node_on : ∀ (f : Nat) (k : Int) (s : Sx), InI s.d -> On ts s (nodeS ts f k s).2
 | 0, _, s, _ => On.refl _ _
 | f + 1, k, s, hd => by
  rw [nodeS]
  have h1 := named_on hE k s
  split
  · exact ((h1.trans (must_on hE _)).trans (name_on hE)).trans (must_on hE _)
  · have h2 := h1.trans (must_on hE [123])
    refine h2.trans (body_on hE (by rw [h2.d]; exact hd) fun k u hu _ => node_on f k u ?_)
    rw [hu]
    exact wrapIn _
theorem var_on (s : Sx) : On ts s (varS ts s).2 := by
 unfold varS
 dsimp only
 have h1 : On ts s (if (tk ts s.i).k = 1 then useV ts s else s) := by
  split
  · exact useV_on s
  · exact On.refl _ _
 have h2 : ∀ u : Sx, On ts u (if whichS ts u [[45]] = 0 then u else nextS u) := fun u => by
  split
  · exact On.refl _ _
  · rename_i h; exact next_on hE (which_ne h).1 (which_ne h).2
 exact ((((h1.trans (kind_on hE (by decide))).trans (must_on hE _)).trans (h2 _)).trans (kind_on hE (by decide))).trans (must_on hE _)
end
def Mk (w : World) (F : Nat -> Prop) (e : TypeId) (size : Nat) (s : Sl) : Prop := s.n = 0 ∨ ∃ g cs, s.a = some ⟨g, 0, none⟩ /\ F g /\ Blk w g e cs /\ s.n * size <= cs.length
def SlG {α : Type} (t : Bool) (r : Rp α) (size : Nat) (e : TypeId) (w : World) (F : Nat -> Prop) (s : Sl) (xs : List α) : Prop := SliceF r size w F s xs /\ (t = true -> Mk w F e size s)
section
variable {α : Type} {t : Bool} {r q : Rp α} {size : Nat} {e : TypeId} {w w' : World} {F G : Nat -> Prop} {s : Sl} {xs : List α} {B : Nat}
theorem Mk.keep (h : Mk w F e size s) (hk : ∀ k, F k -> k < w.heap.size -> w'.heap[k]? = w.heap[k]?) : Mk w' F e size s := by
 rcases h with h | ⟨g, cs, h1, h2, h3, h4⟩
 · exact .inl h
 · exact .inr ⟨g, cs, h1, h2, (hk g h2 h3.lt).trans h3, h4⟩
theorem Mk.mono (h : Mk w F e size s) (hk : ∀ k, F k -> k < w.heap.size -> G k) : Mk w G e size s := by
 rcases h with h | ⟨g, cs, h1, h2, h3, h4⟩
 · exact .inl h
 · exact .inr ⟨g, cs, h1, hk g h2 h3.lt, h3, h4⟩
theorem SlG.keep (hr : r.Ok) (h : SlG t r size e w F s xs) (hs : 0 < size) (hk : ∀ k, F k -> k < w.heap.size -> w'.heap[k]? = w.heap[k]?) : SlG t r size e w' F s xs := ⟨h.1.keep hr hs hk, fun x => (h.2 x).keep hk⟩
theorem SlG.inHeap (hr : r.Ok) (h : SlG t r size e w F s xs) (hs : 0 < size) : SlG t r size e w (fun k => F k /\ k < w.heap.size) s xs := ⟨h.1.inHeap hr hs, fun x => (h.2 x).mono fun k a b => ⟨a, b⟩⟩
theorem SlG.mono (hr : r.Ok) (h : SlG t r size e w F s xs) (hk : ∀ k, F k -> G k) : SlG t r size e w G s xs := ⟨h.1.mono hr hk, fun x => (h.2 x).mono fun k a _ => hk k a⟩
theorem SlG.nil (t : Bool) (r : Rp α) (size : Nat) (e : TypeId) (w : World) (F : Nat -> Prop) : SlG t r size e w F Sl.nil [] := ⟨SliceF.nil _ _ _ _, fun _ => .inl rfl⟩
theorem SlG.imp (h : SlG t r size e w F s xs) (hi : ∀ x cs, x ∈ xs -> r w F x cs -> q w F x cs) : SlG t q size e w F s xs := ⟨slImp h.1 hi, h.2⟩
theorem SlG.off (h : SlG t r size e w F s xs) (hi : ∀ x cs, x ∈ xs -> r w F x cs -> q w F x cs) : SlG false q size e w F s xs := ⟨slImp h.1 hi, fun h => (by cases h)⟩
theorem _root_.Go.Kt.Own.sl (hr : r.Ok) (h : Own r size e B w F s xs) (hF : ∀ k, B <= k -> F k) : SlG true r size e w F s xs := by
 refine ⟨(h.slice hr).mono hr fun k hk => hk.elim id fun x => hF k x.1, fun _ => ?_⟩
 rcases h with ⟨rfl, rfl⟩ | ⟨g, css, tail, h1, h2, h4, h5, h6, h7, h9, h8⟩
 · exact .inl rfl
 · exact .inr ⟨g, _, h1, hF g h2, h4, by rw [List.length_append, Els.flen h8, <- h6]; omega⟩
end
def rXg (t : Bool) : Nat -> Rp Ex
 | 0 => fun _ _ _ _ => False
 | d + 1 => fun w F x cs => ∃ sl : Sl, cs = exv x.k x.n x.s x.op sl x.a /\ SlG t (rXg t d) 6 56 w F sl x.subs
theorem rXg_ok (t : Bool) : ∀ d, (rXg t d).Ok
 | 0 => ⟨fun h _ => h.elim, fun h => h.elim, fun h _ => h.elim, fun h => h.elim⟩
 | d + 1 => ⟨fun ⟨sl, h1, h2⟩ hk => ⟨sl, h1, SlG.keep (rXg_ok t d) h2 (by decide) hk⟩, fun ⟨sl, h1, h2⟩ => ⟨sl, h1, SlG.inHeap (rXg_ok t d) h2 (by decide)⟩, fun ⟨sl, h1, h2⟩ hk => ⟨sl, h1, SlG.mono (rXg_ok t d) h2 hk⟩, fun ⟨sl, h1, h2⟩ => by
  subst h1
  intro v hv
  simp only [List.mem_cons, List.not_mem_nil, or_false] at hv
  rcases hv with rfl | rfl | rfl | rfl | rfl | rfl <;> rfl⟩
theorem rXg_up {t : Bool} {w : World} {F : Nat -> Prop} : ∀ {d : Nat} {x : Ex} {cs : List Value}, rXg t d w F x cs -> rXg t (d + 1) w F x cs
 | 0, _, _, h => h.elim
 | d + 1, x, cs, ⟨sl, h1, h2⟩ => ⟨sl, h1, h2.imp fun x cs _ h => rXg_up h⟩
theorem rXg_le {t : Bool} {w : World} {F : Nat -> Prop} {d e : Nat} {x : Ex} {cs : List Value} (h : d <= e) (hx : rXg t d w F x cs) : rXg t e w F x cs := by
  induction e with
  | zero => have : d = 0 := by omega
            subst this; exact hx
  | succ e ih =>
    by_cases he : d = e + 1
    · subst he; exact hx
    · exact rXg_up (ih (by omega))
theorem rXg_ex {t : Bool} {w : World} {F : Nat -> Prop} : ∀ {d : Nat} {x : Ex} {cs : List Value}, rXg t d w F x cs -> rEx d w F x cs
 | 0, _, _, h => h.elim
 | d + 1, x, cs, ⟨sl, h1, h2⟩ => ⟨sl, h1, slImp h2.1 fun x cs _ h => rXg_ex h⟩
theorem rEx_xg {w : World} {F : Nat -> Prop} : ∀ {d : Nat} {x : Ex} {cs : List Value}, rEx d w F x cs -> rXg false d w F x cs
 | 0, _, _, h => h.elim
 | d + 1, x, cs, ⟨sl, h1, h2⟩ => ⟨sl, h1, slImp h2 fun x cs _ h => rEx_xg h, fun h => (by cases h)⟩
theorem RXN.xg {w : World} {x : Ex} {cs : List Value} {N : Nat -> Prop} {lo hi : Nat} (h : RXN w N lo hi x cs) : ∃ d, rXg true d w (fun k => lo <= k /\ k < hi) x cs := by
 induction h with
 | leaf lo hi k n s op a => exact ⟨1, Sl.nil, rfl, SlG.nil _ _ _ _ _ _⟩
 | one lo m g hi k n s op a x cs h1 h2 h3 h4 hn h5 ih =>
  obtain ⟨d, ih⟩ := ih
  obtain ⟨sl, hcs, _⟩ := h1.cells
  refine ⟨d + 1, _, rfl, ⟨rfl, Nat.le_refl _, fun h => (by cases h), (by decide : (1 : Nat) <= 9223372036854775807), fun j y hj => ?_⟩, fun _ => .inr ⟨g, cs, rfl, ⟨h2, h4⟩, h5, by rw [hcs]; exact Nat.le_refl _⟩⟩
  have hj0 : j = 0 := by
   have := (List.getElem?_eq_some_iff.1 hj).1
   simp only [Ex.subs, List.length_singleton] at this
   omega
  subst hj0
  simp only [Ex.subs, List.getElem?_cons_zero, Option.some.injEq] at hj
  subst hj
  exact ⟨⟨g, 0, none⟩, cs, rfl, ⟨h2, h4⟩, by rw [hcs]; rfl, by rw [Nat.zero_mul]; exact h5.cells 0 cs fun j v hv => by rw [Nat.zero_add]; exact hv, (rXg_ok true d).mono ih fun k hk => ⟨hk.1, by omega⟩⟩
 | two lo m m' m2 g hi k n s op a x y cs ds h1 h2 h3 h4 h5 h6 h7 h8 hn h9 ih1 ih2 =>
  obtain ⟨d1, ih1⟩ := ih1
  obtain ⟨d2, ih2⟩ := ih2
  obtain ⟨sl, hcs, _⟩ := h1.cells
  obtain ⟨sl2, hds, _⟩ := h3.cells
  have e1 : cs.length = 6 := by rw [hcs]; rfl
  have e2 : ds.length = 6 := by rw [hds]; rfl
  refine ⟨max d1 d2 + 1, _, rfl, ⟨rfl, Nat.le_refl _, fun h => (by cases h), (by decide : (2 : Nat) <= 9223372036854775807), fun j y hj => ?_⟩, fun _ => .inr ⟨g, cs ++ ds, rfl, ⟨by omega, h8⟩, h9, by rw [List.length_append, e1, e2]; exact Nat.le_refl _⟩⟩
  rcases j with _ | _ | j
  · simp only [Ex.subs, List.getElem?_cons_zero, Option.some.injEq] at hj
    subst hj
    exact ⟨⟨g, 0, none⟩, cs, rfl, ⟨by dsimp only; omega, h8⟩, e1, by rw [Nat.zero_mul]; exact h9.cells 0 cs fun j v hv => by rw [Nat.zero_add, List.getElem?_append_left (List.getElem?_eq_some_iff.1 hv).1]; exact hv, (rXg_ok true _).mono (rXg_le (Nat.le_max_left _ _) ih1) fun k hk => ⟨hk.1, by omega⟩⟩
  · simp only [Ex.subs, List.getElem?_cons_succ, List.getElem?_cons_zero, Option.some.injEq] at hj
    subst hj
    exact ⟨⟨g, 0, none⟩, ds, rfl, ⟨by dsimp only; omega, h8⟩, e2, by
     rw [addr_lit]
     exact h9.cells 6 ds fun j v hv => by rw [List.getElem?_append_right (by omega), e1, Nat.add_sub_cancel_left]; exact hv, (rXg_ok true _).mono (rXg_le (Nat.le_max_right _ _) ih2) fun k hk => ⟨by omega, by omega⟩⟩
  · simp [Ex.subs] at hj
def rE (t : Bool) : Rp Ex := fun w F x cs => ∃ d, rXg t d w F x cs
theorem rE_ok (t : Bool) : (rE t).Ok := ⟨fun ⟨d, h⟩ hk => ⟨d, (rXg_ok t d).keep h hk⟩, fun ⟨d, h⟩ => ⟨d, (rXg_ok t d).inHeap h⟩, fun ⟨d, h⟩ hk => ⟨d, (rXg_ok t d).mono h hk⟩, fun ⟨d, h⟩ => (rXg_ok t d).one h⟩
theorem rE_cells {t : Bool} {w : World} {F : Nat -> Prop} {x : Ex} {cs : List Value} (h : rE t w F x cs) : ∃ sl, cs = exv x.k x.n x.s x.op sl x.a := by
 obtain ⟨d, h⟩ := h
 cases d with
 | zero => exact h.elim
 | succ d => obtain ⟨sl, h, _⟩ := h; exact ⟨sl, h⟩
theorem rE_off {t : Bool} {w : World} {F : Nat -> Prop} {x : Ex} {cs : List Value} (h : rE t w F x cs) : rE false w F x cs := by
 obtain ⟨d, h⟩ := h
 exact ⟨d, rEx_xg (rXg_ex h)⟩
theorem rE0 (t : Bool) (w : World) (F : Nat -> Prop) : rE t w F ex0 (exv 0 0 [] 0 Sl.nil 0) := ⟨1, Sl.nil, rfl, SlG.nil _ _ _ _ _ _⟩
def acv (k : Int) (n : List UInt8) (xc : List Value) (a : Int) : List Value := .int .i64 k :: .string (T n) :: (xc ++ [.int .i64 a])
def rAc (t : Bool) : Rp Ac := fun w F x cs => ∃ xc, cs = acv x.k x.n xc x.a /\ rE t w F x.x xc
theorem rAc_ok (t : Bool) : (rAc t).Ok := ⟨fun ⟨c, h1, h2⟩ hk => ⟨c, h1, (rE_ok t).keep h2 hk⟩, fun ⟨c, h1, h2⟩ => ⟨c, h1, (rE_ok t).inHeap h2⟩, fun ⟨c, h1, h2⟩ hk => ⟨c, h1, (rE_ok t).mono h2 hk⟩, fun ⟨c, h1, h2⟩ => by
  subst h1
  intro v hv
  simp only [acv, List.mem_cons, List.mem_append, List.not_mem_nil, or_false] at hv
  rcases hv with rfl | rfl | h | rfl
  · rfl
  · rfl
  · exact (rE_ok t).one h2 v h
  · rfl⟩
def mvv (k : Int) (ev : List UInt8) (wt : Int) (gd : Bool) (gc : List Value) (asl tg : Sl) (a : Int) : List Value := .int .i64 k :: .string (T ev) :: .int .i64 wt :: .bool gd :: (gc ++ [asl.v, tg.v, .int .i64 a])
def rMv (t : Bool) : Rp Mv := fun w F x cs => ∃ gc asl tg, cs = mvv x.k x.ev x.wt x.gd gc asl tg x.a /\ rE t w F x.g gc /\ SlG t (rAc t) 9 173 w F asl x.acts /\ SlG t rTx 1 9 w F tg x.tg
theorem rMv_ok (t : Bool) : (rMv t).Ok := ⟨fun ⟨c, asl, tg, h1, h2, h3, h4⟩ hk => ⟨c, asl, tg, h1, (rE_ok t).keep h2 hk, h3.keep (rAc_ok t) (by decide) hk, h4.keep rTx_ok (by decide) hk⟩,
 fun ⟨c, asl, tg, h1, h2, h3, h4⟩ => ⟨c, asl, tg, h1, (rE_ok t).inHeap h2, h3.inHeap (rAc_ok t) (by decide), h4.inHeap rTx_ok (by decide)⟩,
 fun ⟨c, asl, tg, h1, h2, h3, h4⟩ hk => ⟨c, asl, tg, h1, (rE_ok t).mono h2 hk, h3.mono (rAc_ok t) hk, h4.mono rTx_ok hk⟩,
 fun ⟨c, asl, tg, h1, h2, h3, h4⟩ => by
  subst h1
  intro v hv
  simp only [mvv, List.mem_cons, List.mem_append, List.not_mem_nil, or_false] at hv
  rcases hv with rfl | rfl | rfl | rfl | h | rfl | rfl | rfl
  · rfl
  · rfl
  · rfl
  · rfl
  · exact (rE_ok t).one h2 v h
  · rfl
  · rfl
  · rfl⟩
def rVr : Rp Vr := fun _ _ x cs => cs = [.string (T x.n), .int .i64 x.v, .int .i64 x.a]
theorem rVr_ok : rVr.Ok := ⟨fun h _ => h, fun h => h, fun h _ => h, fun h => by
  unfold rVr at h
  subst h
  intro v hv
  simp only [List.mem_cons, List.not_mem_nil, or_false] at hv
  rcases hv with rfl | rfl | rfl <;> rfl⟩
abbrev ndv (k : Int) (nm ini dft : List UInt8) (en lv mv kids : Sl) (a : Int) : List Value := [.int .i64 k, .string (T nm), .string (T ini), .string (T dft), en.v, lv.v, mv.v, kids.v, .int .i64 a]
def NbR (t : Bool) (w : World) (F : Nat -> Prop) (x : Nb) (en lv mv : Sl) : Prop := SlG t (rAc t) 9 173 w F en x.en /\ SlG t (rAc t) 9 173 w F lv x.lv /\ SlG t (rMv t) 13 59 w F mv x.mv
def rNd (t : Bool) : Nat -> Rp Nd
 | 0 => fun _ _ _ _ => False
 | d + 1 => fun w F x cs => ∃ en lv mv kids : Sl, cs = ndv x.b.k x.b.nm x.b.ini x.b.dft en lv mv kids x.b.a /\ NbR t w F x.b en lv mv /\ SlG t (rNd t d) 9 27 w F kids x.kids
section
variable {t : Bool} {w w' : World} {F G : Nat -> Prop} {x : Nb} {en lv mv : Sl}
theorem NbR.keep (h : NbR t w F x en lv mv) (hk : ∀ k, F k -> k < w.heap.size -> w'.heap[k]? = w.heap[k]?) : NbR t w' F x en lv mv := ⟨h.1.keep (rAc_ok t) (by decide) hk, h.2.1.keep (rAc_ok t) (by decide) hk, h.2.2.keep (rMv_ok t) (by decide) hk⟩
theorem NbR.inHeap (h : NbR t w F x en lv mv) : NbR t w (fun k => F k /\ k < w.heap.size) x en lv mv := ⟨h.1.inHeap (rAc_ok t) (by decide), h.2.1.inHeap (rAc_ok t) (by decide), h.2.2.inHeap (rMv_ok t) (by decide)⟩
theorem NbR.mono (h : NbR t w F x en lv mv) (hk : ∀ k, F k -> G k) : NbR t w G x en lv mv := ⟨h.1.mono (rAc_ok t) hk, h.2.1.mono (rAc_ok t) hk, h.2.2.mono (rMv_ok t) hk⟩
end
theorem rNd_ok (t : Bool) : ∀ d, (rNd t d).Ok
 | 0 => ⟨fun h _ => h.elim, fun h => h.elim, fun h _ => h.elim, fun h => h.elim⟩
 | d + 1 => ⟨fun ⟨en, lv, mv, kids, h1, h2, h3⟩ hk => ⟨en, lv, mv, kids, h1, h2.keep hk, SlG.keep (rNd_ok t d) h3 (by decide) hk⟩,
  fun ⟨en, lv, mv, kids, h1, h2, h3⟩ => ⟨en, lv, mv, kids, h1, h2.inHeap, SlG.inHeap (rNd_ok t d) h3 (by decide)⟩,
  fun ⟨en, lv, mv, kids, h1, h2, h3⟩ hk => ⟨en, lv, mv, kids, h1, h2.mono hk, SlG.mono (rNd_ok t d) h3 hk⟩, fun ⟨en, lv, mv, kids, h1, h2, h3⟩ => by
  subst h1
  intro v hv
  simp only [List.mem_cons, List.not_mem_nil, or_false] at hv
  rcases hv with rfl | rfl | rfl | rfl | rfl | rfl | rfl | rfl | rfl <;> rfl⟩
theorem rNd_up {t : Bool} {w : World} {F : Nat -> Prop} : ∀ {d : Nat} {x : Nd} {cs : List Value}, rNd t d w F x cs -> rNd t (d + 1) w F x cs
 | 0, _, _, h => h.elim
 | d + 1, x, cs, ⟨en, lv, mv, kids, h1, h2, h3⟩ => ⟨en, lv, mv, kids, h1, h2, h3.imp fun x cs _ h => rNd_up h⟩
theorem rNd_le {t : Bool} {w : World} {F : Nat -> Prop} {d e : Nat} {x : Nd} {cs : List Value} (h : d <= e) (hx : rNd t d w F x cs) : rNd t e w F x cs := by
  induction e with
  | zero => have : d = 0 := by omega
            subst this; exact hx
  | succ e ih =>
    by_cases he : d = e + 1
    · subst he; exact hx
    · exact rNd_up (ih (by omega))
theorem rAc_off {t : Bool} {w : World} {F : Nat -> Prop} {x : Ac} {cs : List Value} (h : rAc t w F x cs) : rAc false w F x cs := by
 obtain ⟨c, h1, h2⟩ := h
 exact ⟨c, h1, rE_off h2⟩
theorem rMv_off {t : Bool} {w : World} {F : Nat -> Prop} {x : Mv} {cs : List Value} (h : rMv t w F x cs) : rMv false w F x cs := by
 obtain ⟨c, asl, tg, h1, h2, h3, h4⟩ := h
 exact ⟨c, asl, tg, h1, rE_off h2, h3.off fun _ _ _ h => rAc_off h, h4.off fun _ _ _ h => h⟩
theorem NbR.off {t : Bool} {w : World} {F : Nat -> Prop} {x : Nb} {en lv mv : Sl} (h : NbR t w F x en lv mv) : NbR false w F x en lv mv := ⟨h.1.off fun _ _ _ h => rAc_off h, h.2.1.off fun _ _ _ h => rAc_off h, h.2.2.off fun _ _ _ h => rMv_off h⟩
theorem rNd_off {t : Bool} {w : World} {F : Nat -> Prop} : ∀ {d : Nat} {x : Nd} {cs : List Value}, rNd t d w F x cs -> rNd false d w F x cs
 | 0, _, _, h => h.elim
 | d + 1, x, cs, ⟨en, lv, mv, kids, h1, h2, h3⟩ => ⟨en, lv, mv, kids, h1, h2.off, h3.off fun x cs _ h => rNd_off h⟩
structure ChR (t : Bool) (d : Nat) (w : World) (F : Nat -> Prop) (c : Ch) (vs : Sl) (cs : List Value) : Prop where
 vars : SlG t rVr 3 75 w F vs c.vars
 root : rNd t d w F c.root cs
abbrev Fr (B : Nat) : Nat -> Prop := fun k => B <= k
section
variable {α : Type} {r : Rp α} {size : Nat} {e : TypeId} {w w' : World} {s : Sl} {xs : List α} {B : Nat}
theorem _root_.Go.Kt.Own.stay (hr : r.Ok) (h : Own r size e B w (Fr B) s xs) {bs : List Nat} (hO : Only bs w w') (hb : ∀ x, x ∈ bs -> x < B ∨ w.heap.size <= x) : Own r size e B w' (Fr B) s xs := by
 refine ((h.inHeap hr).keep hr fun k hk hlt => hO.block k hlt fun hm => ?_).mono hr fun k hk => hk.1
 have hk' : B <= k /\ k < w.heap.size := by
  rcases hk with hk | hk
  · exact hk
  · exact ⟨hk.1, hlt⟩
 rcases hb k hm with h | h <;> omega
theorem _root_.Go.Kt.Own.new (h : Own r size e B w (Fr B) s xs) {k : Nat} (hk : w.heap.size <= k) : s.a ≠ some ⟨k, 0, none⟩ := fun e => by
 have := (h.blk e).2
 dsimp only at this
 omega
end
end Go.Proofs.YtndkfaaeeojeiaaGreatDoor.Con
namespace Go.Proofs.YtndkfaaeeojeiaaGreatDoor.Con
open Go Go.RowKit Go.Kt Go.Kt.V Go.Proofs.YtndkfaaeeojeiaaGreatDoor.Vc
set_option linter.unusedSimpArgs false
set_option linter.unusedVariables false
set_option maxHeartbeats 4000000
mutual
def dpX : Ex -> Nat
 | .mk _ _ _ _ l _ => dpL l + 1
def dpL : List Ex -> Nat
 | [] => 0
 | x :: l => max (dpX x) (dpL l)
end
mutual
def szX : Ex -> Nat
 | .mk _ _ s _ l _ => szL l + (s.length + 1)
def szL : List Ex -> Nat
 | [] => 0
 | x :: l => szX x + szL l
end
theorem dpX_eq (x : Ex) : dpX x = dpL x.subs + 1 := by cases x; rw [dpX]; rfl
theorem szX_eq (x : Ex) : szX x = szL x.subs + (x.s.length + 1) := by cases x; rw [szX]; rfl
theorem dpL_mem {y : Ex} : ∀ {l : List Ex}, y ∈ l -> dpX y <= dpL l
 | [], h => by simp at h
 | x :: l, h => by
  rw [dpL]
  rcases List.mem_cons.1 h with rfl | h
  · exact Nat.le_max_left _ _
  · exact Nat.le_trans (dpL_mem h) (Nat.le_max_right _ _)
theorem szL_mem {y : Ex} : ∀ {l : List Ex}, y ∈ l -> szX y <= szL l
 | [], h => by simp at h
 | x :: l, h => by
  rw [szL]
  rcases List.mem_cons.1 h with rfl | h
  · omega
  · have := szL_mem h; omega
theorem dpL_le {d : Nat} : ∀ {l : List Ex}, (∀ y, y ∈ l -> dpX y <= d) -> dpL l <= d
 | [], _ => by rw [dpL]; omega
 | x :: l, h => by
  rw [dpL]
  exact Nat.max_le.2 ⟨h x (by simp), dpL_le fun y hy => h y (by simp [hy])⟩
theorem dp_pos (x : Ex) : 1 <= dpX x := by rw [dpX_eq]; omega
theorem rEx_dp {w : World} {F : Nat -> Prop} : ∀ {d : Nat} {x : Ex} {cs : List Value}, rEx d w F x cs -> dpX x <= d
 | 0, _, _, h => h.elim
 | d + 1, x, cs, ⟨sl, h1, h2⟩ => by
  rw [dpX_eq]
  refine Nat.succ_le_succ (dpL_le fun y hy => ?_)
  obtain ⟨j, hj⟩ := List.getElem?_of_mem hy
  obtain ⟨_, cs, _, _, _, _, h⟩ := h2.at_ j y hj
  exact rEx_dp h
theorem all1_congr {f g : Ex -> Bool} : ∀ {l : List Ex}, (∀ y, y ∈ l -> f y = g y) -> all1 f l = all1 g l
 | [], _ => rfl
 | x :: l, h => by rw [all1, all1, h x (by simp), all1_congr fun y hy => h y (by simp [hy])]
theorem shape_dp : ∀ (d e : Nat) (x : Ex), dpX x <= d -> dpX x <= e -> shapeM d x = shapeM e x
 | 0, _, x, h, _ => by have := dp_pos x; omega
 | _, 0, x, _, h => by have := dp_pos x; omega
 | d + 1, e + 1, x, h, k => by
  rw [dpX_eq] at h k
  rw [shapeM, shapeM, all1_congr fun y hy => shape_dp d e y (by have := dpL_mem hy; omega) (by have := dpL_mem hy; omega)]
theorem pg_dp : ∀ (d e : Nat) (x : Ex) (wr : Bool) (l : List UInt8), dpX x <= d -> dpX x <= e -> pgM d x wr l = pgM e x wr l
 | 0, _, x, _, _, h, _ => by have := dp_pos x; omega
 | _, 0, x, _, _, _, h => by have := dp_pos x; omega
 | d + 1, e + 1, x, wr, l, h, k => by
  rw [dpX_eq] at h k
  have hm : ∀ y, y ∈ x.subs -> dpX y <= d /\ dpX y <= e := fun y hy => by have := dpL_mem hy; omega
  rw [pgM, pgM]
  cases hx : x.subs with
  | nil => rfl
  | cons y m =>
   cases m with
   | nil =>
    have hy := hm y (by rw [hx]; simp)
    dsimp only
    rw [pg_dp d e y _ _ hy.1 hy.2]
   | cons z m =>
    cases m with
    | nil =>
     have hy := hm y (by rw [hx]; simp)
     have hz := hm z (by rw [hx]; simp)
     dsimp only
     rw [pg_dp d e y _ _ hy.1 hy.2, pg_dp d e z _ _ hz.1 hz.2]
    | cons _ _ => rfl
theorem cnt_sz : ∀ (d : Nat) (x : Ex), cntM d x <= szX x
 | 0, x => Nat.zero_le _
 | d + 1, x => by
  rw [cntM, szX_eq]
  have : ∀ l : List Ex, cntL (cntM d) l <= szL l := fun l => by
   induction l with
   | nil => exact Nat.zero_le _
   | cons y l ih => rw [cntL, szL]; exact Nat.add_le_add (cnt_sz d y) ih
  have := this x.subs
  omega
theorem len_sz : ∀ (d : Nat) (x : Ex), szX x < 4611686018427387903 -> lenOk d x
 | 0, x, _ => trivial
 | d + 1, x, h => by
  rw [szX_eq] at h
  exact ⟨by omega, fun y hy => len_sz d y (by have := szL_mem hy; omega)⟩
def okN (x : Ex) : Prop := ∀ d, numOk d x
theorem okN.sub {x y : Ex} (h : okN x) (hy : y ∈ x.subs) : okN y := fun d => (h (d + 1)).2 y hy
def exX (x : Ex) : List UInt8 := textM (dpX x) x
theorem text_dp {d : Nat} {x : Ex} (h : dpX x <= d) : textM d x = exX x := by
 unfold exX textM
 rw [shape_dp d (dpX x) x h (Nat.le_refl _), pg_dp d (dpX x) x false [] h (Nat.le_refl _)]
theorem text_ne2 {d : Nat} {x : Ex} (h : textM d x ≠ []) : shapeM d x = true /\ textM d x = pgM d x false [] /\ (readA (pgM d x false [])).2.1 = 0 := by
 unfold textM at h ⊢
 by_cases hs : shapeM d x = true
 · rw [if_pos hs] at h ⊢
   by_cases hr : (readA (pgM d x false [])).2.1 ≠ 0
   · rw [if_pos hr] at h
     exact absurd rfl h
   · rw [if_neg hr]
     exact ⟨hs, rfl, by simpa using hr⟩
 · rw [if_neg hs] at h
   exact absurd rfl h
theorem etext_c {w : World} {F : Nat -> Prop} {x : Ex} {cs : List Value} (hx : rE false w F x cs) (hn : okN x) (hs : szX x <= 1759218604441) (hE : Er w) (hT : Tb w) :
  Calls Tryz.prog 147 #[.agg cs.toArray] w fun e w' => e = .returned (.string (T (exX x))) /\ Only [] w w' := by
 obtain ⟨d, h⟩ := hx
 have h := rXg_ex h
 rw [<- text_dp (rEx_dp h)]
 exact text_c h (len_sz d x (by omega)) (hn d) hE hT (by have := cnt_sz d x; omega)
end Go.Proofs.YtndkfaaeeojeiaaGreatDoor.Con
namespace Go.Proofs.YtndkfaaeeojeiaaGreatDoor.Con
open Go Go.RowKit Go.Kt Go.Kt.V
set_option linter.unusedSimpArgs false
set_option linter.unusedVariables false
set_option maxHeartbeats 4000000
def noneX (x : Ex) : Bool := (((x.k == 0 && x.n == 0) && decide (x.s = [])) && x.op == 0) && ((x.subs.length : Int) == 0)
def exOk (x : Ex) : Bool := decide (exX x ≠ [])
def acOk (a : Ac) : Bool := decide (1 <= a.k /\ a.k <= 3) && nameM a.n && (if a.k = 2 then noneX a.x else exOk a.x)
def mvOk (m : Mv) : Bool :=
 decide (1 <= m.k /\ m.k <= 3) && (if m.k = 1 then nameM m.ev else decide (m.ev = [])) && (if m.gd then exOk m.g else noneX m.g) && m.acts.all acOk && m.tg.all nameM && decide (m.wt = 0 ∨ m.k = 3 /\ 0 < m.wt)
def hist (k : Int) : Bool := decide (k = 3 ∨ k = 4)
def nbOk (b : Nb) (kids : Nat) : Bool :=
 nameM b.nm && (if hist b.k then nameM b.dft && decide (b.ini = [] /\ b.en = [] /\ b.lv = [] /\ b.mv.length = 0 /\ kids = 0)
  else decide ((b.k = 1 ∨ b.k = 2) /\ b.dft = []) && (decide (b.ini = []) || nameM b.ini) && b.en.all acOk && b.lv.all acOk && b.mv.all mvOk)
mutual
def ndOk : Nat -> Nd -> Bool
 | d, .mk b l => decide (d < 12) && nbOk b l.length && ndsOk (d + 1) l
def ndsOk : Nat -> List Nd -> Bool
 | _, [] => true
 | d, x :: l => ndOk d x && ndsOk d l
end
def nbA (b : Nb) : Nat := b.en.length + b.lv.length + (b.mv.map fun m => m.acts.length).sum
mutual
def nNd : Nd -> Nat
 | .mk _ l => nNds l + 1
def nNds : List Nd -> Nat
 | [] => 0
 | x :: l => nNd x + nNds l
end
mutual
def nMv : Nd -> Nat
 | .mk b l => b.mv.length + nMvs l
def nMvs : List Nd -> Nat
 | [] => 0
 | x :: l => nMv x + nMvs l
end
mutual
def nAc : Nd -> Nat
 | .mk b l => nbA b + nAcs l
def nAcs : List Nd -> Nat
 | [] => 0
 | x :: l => nAc x + nAcs l
end
def chOk (c : Ch) : Bool :=
 (c.vars.all fun v => nameM v.n && decide (v.v ≠ -9223372036854775808)) && ndOk 0 c.root && decide (c.root.b.k = 1 /\ c.vars.length <= 16 /\ nNd c.root <= 64 /\ nMv c.root <= 200 /\ nAc c.root <= 400)
def acT (a : Ac) : List UInt8 :=
 if a.k = 2 then wRaise ++ 32 :: (a.n ++ [59]) else (if a.k = 1 then wSet else wEmit) ++ 32 :: (a.n ++ 32 :: 61 :: 32 :: (exX a.x ++ [59]))
def acsT : List Ac -> List UInt8
 | [] => []
 | a :: l => 32 :: (acT a ++ acsT l)
def blT (l : List Ac) : List UInt8 := 123 :: (acsT l ++ [32, 125])
def tgT : List (List UInt8) -> List UInt8
 | [] => []
 | s :: l => 44 :: 32 :: (s ++ tgT l)
def hdT (m : Mv) : List UInt8 := if m.k = 1 then wOn ++ 32 :: m.ev else if m.k = 3 then wAfter ++ 32 :: Lib.itoa m.wt else wAlways
def gdT (m : Mv) : List UInt8 := if m.gd then 32 :: 91 :: (exX m.g ++ [93]) else []
def mvT (m : Mv) : List UInt8 :=
 hdT m ++ (gdT m ++ ((if m.acts = [] then [] else 32 :: blT m.acts) ++ ((match m.tg with
  | [] => []
  | s :: l => 32 :: 45 :: 62 :: 32 :: (s ++ tgT l)) ++ [59])))
def kW (k : Int) : List UInt8 := if k = 1 then wState else if k = 2 then wParallel else if k = 3 then wHistory else wDeep
abbrev Ln := Nat × List UInt8
def iniL (d : Nat) (b : Nb) : List Ln := if b.ini = [] then [] else [(d, wInitial ++ 32 :: (b.ini ++ [59]))]
def enL (d : Nat) (b : Nb) : List Ln := if b.en = [] then [] else [(d, wEnter ++ 32 :: blT b.en)]
def lvL (d : Nat) (b : Nb) : List Ln := if b.lv = [] then [] else [(d, wLeave ++ 32 :: blT b.lv)]
def mvL (d : Nat) (b : Nb) : List Ln := b.mv.map fun m => (d, mvT m)
def nbL (d : Nat) (b : Nb) : List Ln := iniL d b ++ (enL d b ++ (lvL d b ++ mvL d b))
mutual
def ndL : Nat -> Nd -> List Ln
 | d, .mk b l =>
  if hist b.k then [(d, kW b.k ++ 32 :: (b.nm ++ 32 :: 45 :: 62 :: 32 :: (b.dft ++ [59])))]
  else (d, kW b.k ++ 32 :: (b.nm ++ [32, 123])) :: (nbL (d + 1) b ++ (ndsL (d + 1) l ++ [(d, [125])]))
def ndsL : Nat -> List Nd -> List Ln
 | _, [] => []
 | d, x :: l => ndL d x ++ ndsL d l
end
def vrT (v : Vr) : List UInt8 := wVar ++ 32 :: (v.n ++ 32 :: 61 :: 32 :: (Lib.itoa v.v ++ [59]))
def chL (c : Ch) : List Ln :=
 (0, wChart ++ 32 :: (c.root.b.nm ++ [32, 123])) :: ((c.vars.map fun v => (1, vrT v)) ++ (nbL 1 c.root.b ++ (ndsL 1 c.root.kids ++ [(0, [125])])))
def indT : Nat -> List UInt8
 | 0 => []
 | d + 1 => 32 :: 32 :: indT d
def lnT (p : Ln) : List UInt8 := indT p.1 ++ (p.2 ++ [10])
def putL (b : List UInt8) (p : Ln) : List UInt8 := if 16384 < b.length then b else b ++ lnT p
def putLs (b : List UInt8) (L : List Ln) : List UInt8 := L.foldl putL b
theorem putLs_app (b : List UInt8) (L M : List Ln) : putLs b (L ++ M) = putLs (putLs b L) M := List.foldl_append
def acN (a : Ac) : Prop := okN a.x
structure mvN (m : Mv) : Prop where
 g : okN m.g
 a : ∀ x, x ∈ m.acts -> acN x
 w : InI m.wt
structure nbN (b : Nb) : Prop where
 en : ∀ a, a ∈ b.en -> acN a
 lv : ∀ a, a ∈ b.lv -> acN a
 mv : ∀ m, m ∈ b.mv -> mvN m
mutual
def ndN : Nd -> Prop
 | .mk b l => nbN b /\ ndsN l
def ndsN : List Nd -> Prop
 | [] => True
 | x :: l => ndN x /\ ndsN l
end
structure chN (c : Ch) : Prop where
 v : ∀ v, v ∈ c.vars -> InI v.v
 r : ndN c.root
end Go.Proofs.YtndkfaaeeojeiaaGreatDoor.Con
