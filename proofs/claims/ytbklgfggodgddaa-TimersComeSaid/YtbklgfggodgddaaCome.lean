/-
  Own work: TimersCome (under way).
-/
import Derived.Test.YtbklgfggodgddaaCome0
namespace Go.Proofs.Ytbklgfggodgddaa.Con
open Go Go.RowKit Go.Kt Go.Kt.V Go.Proofs.Ytbklgfggodgddaa.Vc
set_option linter.unusedSimpArgs false
set_option linter.unusedVariables false

/-- one more, behind: only its own block turns -/
theorem push_t2 {w : World} {B : Nat} {s : Sl} {xs : List Tim} {t : Tim} (hs : OwnU B w s xs) (hB : B ≤ w.heap.size) (ht : t.ok) (hm : (xs.length + 1) * 24 ≤ 140737488355328) :
    ∃ y w1, (Instr.buildSlice 22 1 #[(0, t.v)]).run Try.prog w = .ok (Sl.v y) w1 ∧ Only [] w w1 ∧ ∃ s' w2, (Builtin.append_ #[22, 22] 22 #[Sl.v s, Sl.v y]).run Try.prog w1 = .ok (Sl.v s') w2 ∧ OwnU B w2 s' (xs ++ [t]) ∧ OnlyP (fun k => B ≤ k ∧ s.a = some ⟨k, 0, none⟩) w1 w2 := by
  obtain ⟨y, w1, k1, k2, s', w2, k3, k4, ⟨gs, k5, k6⟩, _⟩ := app_one (P := Try.prog) (t := 22) (ty := 22) (e := 24) (i := Try.t24) (bytes := 24) (size := 3) (v := t.v) (x := t) (G := fun _ => False) (by kernel_rfl) (by kernel_rfl) rfl rfl rfl rfl (by decide) (by decide) (by decide) rTim_ok hs hB rfl ⟨rfl, ht⟩ (fun k hk _ => hk.elim) hm
  exact ⟨y, w1, k1, k2, s', w2, k3, OwnU.of k4, k5.p fun g hg => .inl ⟨(k6 g hg).2.1, (k6 g hg).1⟩⟩
theorem lasts_cons (node : Int) (t : Tim) (r : List Tim) : lastsList node (t :: r) = (if t.n ≠ node ∧ ∀ x, x ∈ r → x.k ≠ t.k then [t] else []) ++ lastsList node r := rfl
theorem lasts_suf (node : Int) : ∀ (q : Nat) (add : List Tim), ∃ l', lastsList node add = l' ++ lastsList node (add.drop q)
  | 0, _ => ⟨[], rfl⟩
  | _ + 1, [] => ⟨[], rfl⟩
  | q + 1, a :: r => by
    obtain ⟨l', h'⟩ := lasts_suf node q r
    exact ⟨_ ++ l', by rw [List.drop_succ_cons, List.append_assoc, ← h']; rfl⟩
theorem come_c {w : World} {F : Nat → Prop} {s : Sl} {add : List Tim} (h : Tims w F s add) (hl : add.length * 24 ≤ 140737488351232) (node : Int) (hn : InI node) :
    Calls Try.prog 5 #[Sl.v s, .int .i64 node] w fun e w' => e = .returned (.bool true) ∧ Only [] w w' := by
  refine ret (pavanelaw14_TimersCome_wp s node (fun v w' => v = .bool true ∧ Only [] w w') w ?_)
  unfold pavanelaw14_TimersCome_vc
  have hlen := h.len
  have sa : ∀ {u : World}, Only [] w u → Tims u F s add := fun hO => SliceF.only rTim_ok (by decide) h hO (by simp)
  refine (small_c w).mono ?_
  rintro _ w0 ⟨rfl, hO0⟩
  refine ⟨true, rfl, fun _ => ⟨rfl, hO0⟩, fun hc => ?_⟩
  have hc : ¬ (s.n : Int) > 60 := of_decide_eq_false hc
  have h60 : add.length ≤ 60 := by omega
  refine (set_c (SliceF.nil rTim 3 w0 (fun _ => False)) (sa hO0) (by simp; omega)).mono ?_
  rintro _ w1 ⟨l0, i0, rfl, hO1, h1⟩
  rcases h1 with ⟨_, rfl, h1⟩ | ⟨h1, _⟩
  case inr => exact absurd (by simp [RightT]) h1
  have c1 := hO0.tr0 hO1
  obtain ⟨l1, w2, k1, k2, hO2⟩ := build_1 (w := w1) hn
  have c2 := c1.tr0 hO2
  have hR0 : RightT (setsT [] add) := setsT_right (by simp [RightT])
  have hlen0 : (setsT [] add).length ≤ 60 := Nat.le_trans (setsT_len (l := []) (add := add)) (by simpa using h60)
  have h2 : OwnU w0.heap.size w2 l0 (setsT [] add) := OwnU.only h1 hO2
  refine ⟨l0, 0, rfl, l1, w2, k1, (drop_c h2.sl k2 (Nat.le_trans (Nat.mul_le_mul_right 24 hlen0) (by decide)) (by simp)).mono ?_⟩
  rintro _ w3 ⟨l2, i1, rfl, hO3, h3⟩
  rcases h3 with ⟨_, rfl, h3⟩ | ⟨h3, _⟩
  case inr => exact absurd hR0 h3
  have c3 := c2.tr0 hO3
  have hlenL : (dropT (setsT [] add) [node]).length ≤ add.length := Nat.le_trans (List.length_filter_le _ _) (by simpa using setsT_len (l := []) (add := add))
  have hRL : RightT (dropT (setsT [] add) [node]) := List.Pairwise.filter _ hR0
  have hperm := come_perm node add
  generalize dropT (setsT [] add) [node] = L at *
  have hL60 : L.length ≤ 60 := Nat.le_trans hlenL h60
  refine ⟨l2, 0, rfl, fun b w4 => b = false ∧ Only [] w w4 ∧ OwnU w2.heap.size w4 l2 L, ?_, fun e => (by cases e), fun _ => ?_⟩
  case refine_2 =>
    refine (right_c h3.sl (by omega)).mono ?_
    rintro _ w4 ⟨rfl, hO4⟩
    exact ⟨_, rfl, by simp [hRL], c3.tr0 hO4, OwnU.only h3 hO4⟩
  rintro b w4 ⟨rfl, c4, h4⟩
  refine ⟨fun e => (by cases e), fun _ => ?_⟩
  refine ⟨fun l3 l4 w5 => Only [] w4 w5 ∧ l3.n = 0 ∧ OwnU w4.heap.size w5 l4 L, ?_, fun nv l5 l6 i w' => ∃ n : Nat, i = (n : Int) ∧ n ≤ L.length ∧ nv = 61 - n ∧ (∃ B, OwnU B w' l5 (L.drop n)) ∧ OwnU w4.heap.size w' l6 (L.take n) ∧ Only [] w4 w', 61, ⟨0, rfl, Nat.zero_le _, rfl, ⟨_, h4⟩, Own.nil _ _ _ _ _ _, Only.refl _ _⟩, ?_⟩
  case refine_2 =>
    rintro nv l5 l6 _ w17 ⟨n, rfl, hnL, rfl, ⟨B, h5⟩, h6, hO17⟩
    refine ⟨fun _ => ?_, fun hc2 => ?_⟩
    · have hdl : (L.drop n).length ≤ 60 := by rw [List.length_drop]; omega
      refine (due_c h5.sl (Nat.le_trans (Nat.mul_le_mul_right 24 hdl) (by decide)) 9223372036854775807).mono ?_
      rintro _ w18 ⟨t, l7, b, rfl, hO18, hd⟩
      have hRn : RightT (L.drop n) := List.Pairwise.sublist (List.drop_sublist _ _) hRL
      refine ⟨_, _, _, l7, b, rfl, fun hb g w19 hg1 hg2 hO19 => ?_, fun hb g w20 hg1 hg2 hO20 => ?_⟩
      · rcases hd with ⟨r, _, rfl, _⟩ | ⟨hno, _⟩
        · cases hb
        have hnil : L.drop n = [] := by
          cases hq : L.drop n with
          | nil => rfl
          | cons x r =>
            obtain ⟨cs, hx⟩ := h5.sl.mem (x := x) (by rw [hq]; simp)
            rw [hq] at hno hRn
            exact absurd ⟨rfl, hx.2.1.2, hRn⟩ (hno x r)
        have hnn : n = L.length := by
          have := congrArg List.length hnil
          rw [List.length_drop, List.length_nil] at this
          omega
        subst hnn
        rw [List.take_of_length_le (Nat.le_refl _)] at h6
        exact ⟨hO17.tr0 (hO18.tr0 hO19), by have := h5.len; rw [hnil] at this; exact this, OwnU.only h6 (hO18.tr0 hO19)⟩
      · rcases hd with ⟨r, ⟨hq, _, _⟩, rfl, h7⟩ | ⟨_, rfl, _⟩
        case inr => cases hb
        have htL : L[n]? = some t := by
          have := congrArg List.head? hq
          rwa [List.head?_drop] at this
        have hlt : n < L.length := (List.getElem?_eq_some_iff.1 htL).1
        have hr : r = L.drop (n + 1) := by
          have := congrArg (List.drop 1) hq
          rw [List.drop_drop] at this
          exact this.symm
        have htok : t.ok := by
          obtain ⟨cs, hx⟩ := h5.sl.mem (x := t) (by rw [hq]; simp)
          exact hx.2
        have h620 : OwnU w4.heap.size w20 l6 (L.take n) := OwnU.only h6 (hO18.tr0 hO20)
        have z17 := hO17.size
        have z18 := hO18.size
        have z20 := hO20.size
        obtain ⟨y, w21, b1, b2, s', w22, b3, b4, b5⟩ := push_t2 h620 (by omega) htok (Nat.le_trans (Nat.mul_le_mul_right 24 (show (L.take n).length + 1 ≤ 61 by rw [List.length_take]; omega)) (by decide))
        have z21 := b2.size
        have hblk : ∀ k, l6.a = some ⟨k, 0, none⟩ → k < w17.heap.size := fun k hk => (h6.blk hk).2
        refine ⟨y, w21, b1, b2.same (by simp; omega), s', w22, b3, b5.same (by intro x hx; simp only [List.mem_singleton] at hx; subst hx; exact ⟨by omega, fun h => by have := hblk _ h.2; omega⟩), 61 - (n + 1), by omega, n + 1, by rw [wr' (by omega) (by omega)]; rfl, hlt, rfl, ⟨w17.heap.size, ?_⟩, ?_, ?_⟩
        · rw [← hr]
          exact OwnU.p (OwnU.only h7 (hO20.tr0 b2)) b5 fun k hk h => by
            have h1 := hblk _ h.2
            have h2 := (h7.blk hk).1
            dsimp only at h2
            omega
        · rw [List.take_add_one, htL]
          exact b4
        · exact (((hO17.tr0 (hO18.tr0 (hO20.tr0 b2))).p0 (F := fun k => w4.heap.size ≤ k)).trans b5 fun k hk => .inl hk.1).only fun k hk => hk
    · exfalso
      have hc2 : ¬ (n : Int) ≤ s.n := of_decide_eq_false hc2
      omega
  rintro l3 l4 w5 ⟨hO5, hz3, h4'⟩
  have c5 := c4.tr0 hO5
  have hll := h4'.len
  have hLt : L.length = (lastsList node add).length := hperm.length_eq
  refine ⟨fun nv n i w' => ∃ m c : Nat, i = (m : Int) ∧ m ≤ add.length ∧ nv = add.length - m ∧ n = (c : Int) ∧ c + (lastsList node (add.drop m)).length = (lastsList node add).length ∧ Only [] w5 w', add.length, ⟨0, 0, rfl, Nat.zero_le _, rfl, rfl, by rw [List.drop_zero, Nat.zero_add], Only.refl _ _⟩, ?_⟩
  rintro nv _ _ w6 ⟨m, c, rfl, hm, rfl, rfl, hcl, hO6⟩
  have c6 := c5.tr0 hO6
  have h46 : OwnU w4.heap.size w6 l4 L := OwnU.only h4' hO6
  have hc60 : c ≤ 60 := by omega
  refine ⟨fun hc => ?_, fun hc => ?_⟩
  · have hlt : (m : Int) < s.n := of_decide_eq_true hc
    obtain ⟨ad, t, cs, g1, g2, g3, g4, g5, rfl, g6⟩ := (sa c6).get (Int.natCast_nonneg m) hlt
    rw [Int.toNat_natCast] at g2
    have hlt' : m < add.length := (List.getElem?_eq_some_iff.1 g2).1
    have hdr : add.drop m = t :: add.drop (m + 1) := by
      rw [List.drop_eq_getElem_cons hlt']
      congr 1
      exact (List.getElem?_eq_some_iff.1 g2).2
    refine ⟨fun n' w' => (∃ c' : Nat, n' = (c' : Int) ∧ c' + (lastsList node (add.drop (m + 1))).length = (lastsList node add).length) ∧ Only [] w5 w', ?_, ad, g1, t.n, g5.at1 1 _ rfl, fun nv b i w' => ∃ j : Nat, i = (j : Int) ∧ m + 1 ≤ j ∧ j ≤ add.length ∧ nv = add.length - j ∧ b = (decide (t.n ≠ node) && ((add.take j).drop (m + 1)).all fun x => decide (x.k ≠ t.k)) ∧ Only [] w6 w', add.length - (m + 1), ⟨m + 1, by rw [wr' (by omega) (by omega)]; rfl, Nat.le_refl _, hlt', rfl, ?_, Only.refl _ _⟩, ?_⟩
    · rintro _ w7 ⟨⟨c', rfl, hc'⟩, hO7⟩
      exact ⟨add.length - (m + 1), by omega, m + 1, c', by rw [wr' (by omega) (by omega)]; rfl, hlt', rfl, rfl, hc', hO7⟩
    · rw [List.drop_of_length_le (by rw [List.length_take]; omega)]
      rw [Bool.eq_iff_iff]
      simp
    rintro nv b _ w8 ⟨j, rfl, hmj, hj, rfl, rfl, hO8⟩
    have c8 := c6.tr0 hO8
    refine ⟨fun hc => ?_, fun hc => ?_⟩
    · have hltj : (j : Int) < s.n := of_decide_eq_true hc
      obtain ⟨bd, x, ds, f1, f2, f3, f4, f5, rfl, f6⟩ := (sa c8).get (Int.natCast_nonneg j) hltj
      obtain ⟨ad', t', cs, e1, e2, e3, e4, e5, rfl, e6⟩ := (sa c8).get (Int.natCast_nonneg m) hlt
      rw [Int.toNat_natCast] at f2 e2
      have : t' = t := by rw [g2] at e2; injection e2 with e2; exact e2.symm
      subst this
      refine ⟨bd, fun _ => f1, x.n, fun _ => f5.at1 1 _ rfl, ad', fun _ => e1, t'.n, fun _ => e5.at1 1 _ rfl, bd, fun _ _ => f1, x.s, fun _ _ => f5.at1 2 _ rfl, ad', fun _ _ => e1, t'.s, fun _ _ => e5.at1 2 _ rfl, fun w9 hO9 => ⟨add.length - (j + 1), by omega, j + 1, by rw [wr' (by omega) (by omega)]; rfl, by omega, by omega, rfl, ?_, hO8.tr0 hO9⟩⟩
      have et : (add.take (j + 1)).drop (m + 1) = (add.take j).drop (m + 1) ++ [x] := by
        rw [List.take_add_one, f2, List.drop_append_of_le_length (by rw [List.length_take]; omega)]
        rfl
      have ek : ((x.n != t'.n) || (x.s != t'.s)) = decide (x.k ≠ t'.k) := by
        rw [Bool.eq_iff_iff]
        simp [Tim.k]
      rw [et, ek, List.all_append, Bool.and_assoc]
      simp
    · have hje : j = add.length := by
        have hc : ¬ (j : Int) < s.n := of_decide_eq_false hc
        omega
      subst hje
      rw [List.take_of_length_le (Nat.le_refl _)]
      have hls := lasts_cons node t (add.drop (m + 1))
      rw [← hdr] at hls
      have h48 : OwnU w4.heap.size w8 l4 L := OwnU.only h46 hO8
      refine ⟨fun hb => ⟨⟨c, rfl, ?_⟩, hO6.tr0 hO8⟩, fun hb => ?_⟩
      · have hb : ¬ (t.n ≠ node ∧ ∀ x, x ∈ add.drop (m + 1) → x.k ≠ t.k) := fun hk => by
          rw [Bool.not_eq_true', Bool.and_eq_false_iff] at hb
          rcases hb with hb | hb
          · exact of_decide_eq_false hb hk.1
          · rw [List.all_eq_true.2 fun x hx => decide_eq_true (hk.2 x hx)] at hb
            cases hb
        rw [if_neg hb, List.nil_append] at hls
        rw [← hls]; exact hcl
      have hb : t.n ≠ node ∧ ∀ x, x ∈ add.drop (m + 1) → x.k ≠ t.k := by
        rw [Bool.not_eq_false', Bool.and_eq_true, decide_eq_true_eq, List.all_eq_true] at hb
        exact ⟨hb.1, fun x hx => of_decide_eq_true (hb.2 x hx)⟩
      rw [if_pos hb] at hls
      have htL : t ∈ L := hperm.mem_iff.2 (by
        obtain ⟨l', h'⟩ := lasts_suf node m add
        rw [h', hls]
        simp)
      have hct : L.count t = 1 := by
        rw [(right_nodup hRL).count, if_pos htL]
      refine ⟨fun nv at_ k w' => ∃ q : Nat, k = (q : Int) ∧ q ≤ L.length ∧ nv = L.length - q ∧ at_ = ((L.take q).count t : Int) ∧ Only [] w8 w', L.length, ⟨0, rfl, Nat.zero_le _, rfl, rfl, Only.refl _ _⟩, ?_⟩
      rintro nv _ _ w10 ⟨q, rfl, hq, rfl, rfl, hO10⟩
      have hcq : (L.take q).count t ≤ 60 := Nat.le_trans List.count_le_length (by rw [List.length_take]; omega)
      refine ⟨fun hc => ?_, fun hc => ?_⟩
      · have hltq : (q : Int) < l4.n := of_decide_eq_true hc
        obtain ⟨bd, x, ds, f1, f2, f3, f4, f5, rfl, f6⟩ := (OwnU.only h48 hO10).sl.get (Int.natCast_nonneg q) hltq
        obtain ⟨ad', t', cs, e1, e2, e3, e4, e5, rfl, e6⟩ := (sa (c8.tr0 hO10)).get (Int.natCast_nonneg m) hlt
        rw [Int.toNat_natCast] at f2 e2
        have : t' = t := by rw [g2] at e2; injection e2 with e2; exact e2.symm
        subst this
        have hxy : ((x.d == t'.d) && ((x.n == t'.n) && (x.s == t'.s))) = decide (x = t') := by
          obtain ⟨a1, a2, a3⟩ := x
          obtain ⟨b1, b2, b3⟩ := t'
          rw [Bool.eq_iff_iff]
          simp
        have ec : (L.take (q + 1)).count t' = (L.take q).count t' + (if x = t' then 1 else 0) := by
          rw [List.take_add_one, f2, List.count_append]
          simp [List.count_cons]
        refine ⟨fun n' w' => n' = ((L.take (q + 1)).count t' : Int) ∧ Only [] w8 w', ?_, bd, f1, _, _, _, f5, ad', e1, _, _, _, e5, ?_⟩
        · rintro _ w11 ⟨rfl, hO11⟩
          exact ⟨L.length - (q + 1), by omega, q + 1, by rw [wr' (by omega) (by omega)]; rfl, by omega, rfl, rfl, hO11⟩
        rw [hxy, ec]
        refine ⟨fun he w12 hO12 => ⟨?_, hO10.tr0 hO12⟩, fun he w13 hO13 => ⟨?_, hO10.tr0 hO13⟩⟩
        · rw [if_pos (of_decide_eq_true he), wr' (by omega) (by omega)]; rfl
        · rw [if_neg (of_decide_eq_false he)]; rfl
      · have hqe : q = L.length := by
          have hc : ¬ (q : Int) < l4.n := of_decide_eq_false hc
          omega
        subst hqe
        rw [List.take_of_length_le (Nat.le_refl _), hct]
        refine ⟨fun he => (by simp at he), fun _ => ⟨⟨c + 1, by rw [wr' (by omega) (by omega)]; rfl, ?_⟩, hO6.tr0 (hO8.tr0 hO10)⟩⟩
        rw [hls] at hcl
        rw [List.length_append, List.length_singleton] at hcl
        omega
  · have hme : m = add.length := by
      have hc : ¬ (m : Int) < s.n := of_decide_eq_false hc
      omega
    subst hme
    rw [List.drop_of_length_le (Nat.le_refl _)] at hcl
    simp only [lastsList, List.length_nil, Nat.add_zero] at hcl
    refine ⟨fun nv k w' => ∃ q : Nat, k = (q : Int) ∧ 1 ≤ q ∧ q ≤ 61 ∧ nv = 61 - q ∧ Only [] w6 w', 60, ⟨1, rfl, Nat.le_refl _, by omega, rfl, Only.refl _ _⟩, ?_⟩
    rintro nv _ w14 ⟨q, rfl, hq1, hq2, rfl, hO14⟩
    refine ⟨fun hc => ?_, fun hc => ⟨?_, c6.tr0 hO14⟩⟩
    · have hltq : (q : Int) < l4.n := of_decide_eq_true hc
      obtain ⟨bd, x, ds, f1, f2, f3, f4, f5, rfl, f6⟩ := (OwnU.only h46 hO14).sl.get (Int.natCast_nonneg q) hltq
      obtain ⟨ad', y, cs, e1, e2, e3, e4, e5, rfl, e6⟩ := (OwnU.only h46 hO14).sl.get (i := (q : Int) - 1) (by omega) (by omega)
      rw [Int.toNat_natCast] at f2
      have e : ((q : Int) - 1).toNat = q - 1 := by omega
      rw [e] at e2
      rw [wr' (x := (q : Int) - 1) (by omega) (by omega)]
      refine ⟨bd, f1, x.d, f5.at1 0 _ rfl, ad', e1, y.d, e5.at1 0 _ rfl, fun hd => ?_, fun hd w16 hO16 => ⟨61 - (q + 1), by omega, q + 1, by rw [wr' (by omega) (by omega)]; rfl, by omega, by omega, rfl, hO14.tr0 hO16⟩⟩
      exfalso
      have hd : x.d < y.d := of_decide_eq_true hd
      obtain ⟨i1, i2⟩ := List.getElem?_eq_some_iff.1 e2
      obtain ⟨j1, j2⟩ := List.getElem?_eq_some_iff.1 f2
      have := (List.pairwise_iff_getElem.1 hRL (q - 1) q i1 j1 (by omega)).1
      rw [i2, j2] at this
      unfold ltT at this
      omega
    · have e1 : (c : Int) = (l4.n : Int) := by omega
      rw [hz3, e1]
      simp
end Go.Proofs.Ytbklgfggodgddaa.Con
