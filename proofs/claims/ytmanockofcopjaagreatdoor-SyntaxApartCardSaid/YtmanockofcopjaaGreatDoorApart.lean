
/-
  Own work: SyntaxApart: blanks and notes change nothing but places.
-/
import Derived.Test.YtmanockofcopjaaGreatDoorSynE
import Derived.Test.YtmanockofcopjaaGreatDoorRefK
import Derived.Test.YtmanockofcopjaaGreatDoorSSim
import Derived.Test.YtmanockofcopjaaGreatDoorNum
import Derived.Test.YtmanockofcopjaaGreatDoorWx
namespace Go.Proofs.YtmanockofcopjaaGreatDoor.Con
open Go Go.RowKit Go.Kt Go.Kt.V Go.Proofs.YtmanockofcopjaaGreatDoor.Vc
set_option linter.unusedSimpArgs false
set_option linter.unusedVariables false
set_option maxHeartbeats 4000000

theorem T_apd (l m : List UInt8) : T l ++ T m = T (l ++ m) := by
  apply ByteArray.ext
  simp [T]
theorem and_low (x : Int) : bits .and .i64 x 3 = ((bits .and .i64 x 3).toNat : Int) ∧ (bits .and .i64 x 3).toNat ≤ 3 := by
  have h1 : (BitVec.ofInt 64 (3 : Int)).toNat = 3 := by decide
  have h2 : (BitVec.ofInt 64 x &&& BitVec.ofInt 64 (3 : Int)).toNat ≤ 3 := by
    rw [BitVec.toNat_and, h1]; exact Nat.and_le_right
  have h3 : bits .and .i64 x 3 = IntKind.i64.wrap ((BitVec.ofInt 64 x &&& BitVec.ofInt 64 (3 : Int)).toNat : Int) := rfl
  rw [h3, wr' (by omega) (by omega)]
  exact ⟨by rw [Int.toNat_natCast], by rw [Int.toNat_natCast]; exact h2⟩
/-- a token that was cut: its number, and how long its text is -/
theorem tok_rng {m : List UInt8} {u : Tk} {q : Nat} (h : tokR m = .ok (u.k, u.t, u.n, q)) : (u.k = 3 → 0 ≤ u.n ∧ u.n ≤ 9223372036854775807) ∧ (txT u).length ≤ 40 := by
  cases m with
  | nil => cases h
  | cons c m =>
    rw [tok_cons] at h
    split at h
    · unfold wordR at h
      split at h
      · cases h
      · rename_i h24
        simp only [Except.ok.injEq, Prod.mk.injEq] at h
        obtain ⟨e1, e2, e3, e4⟩ := h
        have hk : u.k ≠ 3 := by rw [← e1]; split <;> decide
        refine ⟨fun e => absurd e hk, ?_⟩
        unfold txT
        rw [if_neg hk, ← e2]
        omega
    · split at h
      · unfold numR at h
        split at h
        · cases h
        · split at h
          · cases h
          · simp only [Except.ok.injEq, Prod.mk.injEq] at h
            obtain ⟨e1, e2, e3, e4⟩ := h
            have hn : 0 ≤ u.n ∧ u.n ≤ 9223372036854775807 := by
              rw [← e3]
              unfold parseM
              split
              · exact ⟨by decide, by decide⟩
              · split
                · exact ⟨by decide, by decide⟩
                · split
                  · rename_i hv
                    dsimp only
                    omega
                  · exact ⟨by decide, by decide⟩
            refine ⟨fun _ => hn, ?_⟩
            unfold txT
            rw [if_pos e1.symm, itoa_nat hn.1]
            exact dec_len_le _ (by omega)
      · unfold signR at h
        split at h
        · cases h
        · simp only [Except.ok.injEq, Prod.mk.injEq] at h
          obtain ⟨e1, e2, e3, e4⟩ := h
          refine ⟨fun e => absurd (e1.trans e) (by decide), ?_⟩
          unfold txT
          rw [if_neg (by rw [← e1]; decide), ← e2, List.length_take]
          have : signN (c :: m) ≤ 2 := by
            unfold signN
            split
            · omega
            · split <;> (try split) <;> omega
          omega
theorem sep_len (k : Nat) : (sepL k).length ≤ 8 := by
  match k with
  | 0 => decide
  | 1 => decide
  | 2 => decide
  | _ + 3 => show 3 ≤ 8; decide
theorem join_len (f : Nat → Nat) : ∀ (us : List Tk) (i : Nat), (∀ u, u ∈ us → (txT u).length ≤ 40) → (joinT f i us).length ≤ 48 * us.length
  | [], _, _ => by simp [joinT]
  | u :: us, i, h => by
    have h1 := h u (by simp)
    have h2 := sep_len (f i)
    have h3 := join_len f us (i + 1) fun x hx => h x (by simp [hx])
    rw [joinT, List.length_append, List.length_append, List.length_cons]
    omega
theorem tkn_c {w : World} (t : Tk) (hg : t.k = 3 → 0 ≤ t.n ∧ t.n ≤ 9223372036854775807) : Calls Tryz.prog 22 #[.agg #[.int .i64 t.k, .string (T t.t), .int .i64 t.n, .int .i64 t.a]] w fun e w' => e = .returned (.string (T (txT t))) ∧ Only [] w w' := by
  refine ret (pavanelaw07_token_wp t.k (T t.t) t.n t.a (fun v w' => v = .string (T (txT t)) ∧ Only [] w w') w ?_)
  unfold pavanelaw07_token_vc txT
  refine ⟨fun hc k0 w0 hk0 hk0' hO0 => ?_, fun hc k0 w0 hk0 hk0' hO0 => ?_⟩
  · have hk : t.k = 3 := by simpa using hc
    refine (rnum_c w0 (hg hk).1 (hg hk).2).mono ?_
    rintro _ w1 ⟨rfl, hO1⟩
    exact ⟨_, rfl, hO1.same (by simp; omega), by rw [if_pos hk], hO0.tr0 hO1⟩
  · have hk : t.k ≠ 3 := by simpa using hc
    exact ⟨by rw [if_neg hk], hO0⟩
def sepsL : List (List UInt8) := [[10], [32, 9], [32, 47, 47, 32, 125, 32, 120, 10], [13, 10, 10]]
theorem seps_at {k : Nat} (h : k ≤ 3) : sepsL[k]? = some (sepL k) := by
  match k, h with
  | 0, _ => rfl
  | 1, _ => rfl
  | 2, _ => rfl
  | 3, _ => rfl
def cutF (bl : List Int) (i : Nat) : Nat := match bl[i]? with
  | some x => (bits .and .i64 x 3).toNat
  | none => 0
theorem cutF_le (bl : List Int) (i : Nat) : cutF bl i ≤ 3 := by
  unfold cutF
  split
  · exact (and_low _).2
  · decide
theorem apart_c {w : World} {F : Nat → Prop} (l : List UInt8) {sl : Sl} {bl : List Int} (h : SliceF rInt 1 w F sl bl) (hE : Er w) : Calls Tryz.prog 5 #[.string (T l), sl.v] w fun e w' => e = .returned (.bool true) ∧ Only [] w w' := by
  refine ret (pavanelaw07_SyntaxApart_wp (T l) sl (fun v w' => v = .bool true ∧ Only [] w w') w ?_)
  unfold pavanelaw07_SyntaxApart_vc
  refine (synsmall_c w hE).mono ?_
  rintro _ w0 ⟨rfl, hO0⟩
  refine ⟨true, rfl, (rtokens_c w0 l).mono ?_⟩
  rintro _ w1 ⟨rs, rfl, hT, hO1⟩
  have hfl := hT.sl
  have z1 := hO1.size
  refine ⟨rs, _, _, rfl, fun k0 w2 hk0 hk0' hO2 => ⟨fun _ => ⟨rfl, (hO0.tr0 hO1).tr0 hO2⟩, fun hc => ?_⟩⟩
  have hc0 : (tokensM l).2.1 = 0 := by simpa using hc
  obtain ⟨us, ea, hts, hus, hjoin⟩ := join_ok hc0 (f := cutF bl)
  have hlen : (tokensM l).1.length = us.length + 1 := by rw [hts, List.length_append, List.length_singleton]
  have htl := (tokensM_ok hc0).2.2.2
  have hrn : rs.n = us.length + 1 := by rw [hfl.len, hlen]
  have hO02 := (hO0.tr0 hO1).tr0 hO2
  have wn : IntKind.wrap .i64 ((rs.n : Int) - 1) = (us.length : Int) := by rw [wr' (by omega) (by omega)]; omega
  have hx40 : ∀ u, u ∈ us → (txT u).length ≤ 40 := fun u hu => by
    obtain ⟨m, q, hm⟩ := hus u hu
    exact (tok_rng hm).2
  have z2 := hO2.size
  refine ⟨fun nv s i w' => ∃ j : Nat, j ≤ us.length ∧ i = (j : Int) ∧ nv = us.length - j ∧ s = T (joinT (cutF bl) 0 (us.take j)) ∧ Only [] w2 w', us.length, ⟨0, Nat.zero_le _, rfl, rfl, rfl, Only.refl _ _⟩, ?_⟩
  rintro nv _ _ w3 ⟨j, hj, rfl, rfl, rfl, hO3⟩
  have hjl := join_len (cutF bl) (us.take j) 0 fun u hu => hx40 u (List.mem_of_mem_take hu)
  have htk : (us.take j).length ≤ us.length := by rw [List.length_take]; omega
  rw [wn]
  refine ⟨fun hlt => ?_, fun hge => ?_⟩
  · have hlt : j < us.length := by have := of_decide_eq_true hlt; omega
    obtain ⟨u, hu⟩ : ∃ u, us[j]? = some u := ⟨us[j], List.getElem?_eq_getElem hlt⟩
    have hum := List.mem_of_getElem? hu
    obtain ⟨m, q, hm⟩ := hus u hum
    have hx := hx40 u hum
    have hut : (tokensM l).1[j]? = some u := by rw [hts, List.getElem?_append_left hlt, hu]
    have htake : us.take (j + 1) = us.take j ++ [u] := by rw [List.take_add_one, hu]; rfl
    have hsx := sep_len (cutF bl j)
    have hres : T (joinT (cutF bl) 0 (us.take j)) ++ T (txT u) ++ T (sepL (cutF bl j)) = T (joinT (cutF bl) 0 (us.take (j + 1))) := by
      rw [htake, joinT_snoc, T_apd, T_apd, List.append_assoc, List.length_take, Nat.zero_add, Nat.min_eq_left (by omega)]
    refine ⟨fun i w' => i = (cutF bl j : Nat) ∧ w' = w3, ?_, fun hb => ?_, fun hb => ?_⟩
    · rintro _ _ ⟨rfl, rfl⟩
      refine ⟨fun s w' => s = T (joinT (cutF bl) 0 (us.take (j + 1))) ∧ Only [] w2 w', ?_, fun w6 hO6 => ⟨fun _ => True, ?_⟩⟩
      · rintro _ w5 ⟨rfl, hO5⟩
        exact ⟨us.length - (j + 1), by omega, j + 1, by omega, by rw [wr' (by omega) (by omega)]; rfl, rfl, rfl, hO5⟩
      have hO26 := hO3.tr0 hO6
      have hT6 := SliceF.only rTk_ok (by decide) hfl (hO2.tr0 hO26) (by simp)
      obtain ⟨p, u', cs, g1, g2, _, _, g5, g6⟩ := hT6.get (i := (j : Int)) (Int.natCast_nonneg j) (by omega)
      rw [Int.toNat_natCast, hut] at g2
      injection g2 with g2
      subst g2
      unfold rTk at g6
      subst g6
      have z6 := hO26.size
      refine ⟨p, g1, trivial, u.k, T u.t, u.n, u.a, g5, (tkn_c u (tok_rng hm).1).mono ?_, ?_⟩
      · rintro _ w7 ⟨rfl, hO7⟩
        obtain ⟨l1, w8, k1, k2, k3⟩ := buildS w7 sepsL (n := 4) (parts := #[(0, .string (T [10])), (1, .string (T [32, 9])), (2, .string (T [32, 47, 47, 32, 125, 32, 120, 10])), (3, .string (T [13, 10, 10]))]) rfl rfl (by decide) (by decide)
        have hS := flatS k2
        have hSn : l1.n = 4 := hS.len
        have z7 := hO7.size
        have hcf := cutF_le bl j
        obtain ⟨p1, s, cs1, f1, f2, _, _, f5, f6⟩ := hS.get (i := ((cutF bl j : Nat) : Int)) (Int.natCast_nonneg _) (by omega)
        rw [Int.toNat_natCast, seps_at hcf] at f2
        injection f2 with f2
        subst f2
        unfold rTx at f6
        subst f6
        refine ⟨_, rfl, hO7.same (by simp; omega), Keeps.only hO7, by rw [T_size, T_size]; omega, l1, w8, k1, k3.same (by simp; omega), Keeps.only k3, p1, f1, _, f5, by rw [T_apd, T_size, T_size, List.length_append]; omega, hres, (hO26.tr0 hO7).tr0 k3⟩
      · obtain ⟨l1, w8, k1, k2, k3⟩ := buildS w6 sepsL (n := 4) (parts := #[(0, .string (T [10])), (1, .string (T [32, 9])), (2, .string (T [32, 47, 47, 32, 125, 32, 120, 10])), (3, .string (T [13, 10, 10]))]) rfl rfl (by decide) (by decide)
        have hS := flatS k2
        have hSn : l1.n = 4 := hS.len
        have z8 := k3.size
        have hcf := cutF_le bl j
        obtain ⟨p1, s, cs1, f1, f2, _, _, f5, f6⟩ := hS.get (i := ((cutF bl j : Nat) : Int)) (Int.natCast_nonneg _) (by omega)
        rw [Int.toNat_natCast, seps_at hcf] at f2
        injection f2 with f2
        subst f2
        unfold rTx at f6
        subst f6
        refine ⟨l1, w8, k1, k3.same (by simp; omega), Keeps.only k3, p1, f1, trivial, _, f5, (tkn_c u (tok_rng hm).1).mono ?_⟩
        rintro _ w9 ⟨rfl, hO9⟩
        refine ⟨_, rfl, hO9.same (by simp; omega), Keeps.only hO9, by rw [T_size, T_size]; omega, by rw [T_apd, T_size, T_size, List.length_append]; omega, hres, (hO26.tr0 k3).tr0 hO9⟩
    · have hlt2 : (j : Int) < sl.n := of_decide_eq_true hb
      have h3 := SliceF.only rInt_ok (by decide) h (hO02.tr0 hO3) (by simp)
      obtain ⟨p, x, cs, g1, g2, _, _, g5, g6⟩ := h3.get (i := (j : Int)) (Int.natCast_nonneg j) hlt2
      rw [Int.toNat_natCast] at g2
      obtain ⟨g6, _⟩ := g6
      subst g6
      refine ⟨p, g1, x, g5, ?_, rfl⟩
      unfold cutF
      rw [g2]
      exact (and_low x).1
    · have hge2 : ¬ (j : Int) < sl.n := of_decide_eq_false hb
      have hll := h.len
      refine ⟨?_, rfl⟩
      unfold cutF
      rw [List.getElem?_eq_none (by omega)]
      rfl
  have hjn : j = us.length := by have := of_decide_eq_false hge; omega
  subst hjn
  rw [List.take_length, T_size]
  have hO03 := hO02.tr0 hO3
  refine ⟨fun _ => ⟨rfl, hO03⟩, fun hb => (sparse_c l (hE.only hO03)).mono ?_⟩
  have hsz : (joinT (cutF bl) 0 us).length ≤ 16384 := by have := of_decide_eq_false hb; omega
  obtain ⟨hj0, hj1⟩ := hjoin hsz
  obtain ⟨hP, hQ⟩ := parse_a hc0 hj0 (al_of hj1)
  rintro _ w4 ⟨vs, cs, rfl, hC, hO4⟩
  have z3 := hO3.size
  obtain ⟨en, lv, mv, kids, rfl, _⟩ := hC.root
  refine ⟨vs, _, _, _, _, en, lv, mv, kids, _, _, _, rfl, hO4.same (by simp; omega), fun k4 k5 w5 hk4 hk4' hk5 hk5' hO5 => (sparse_c (joinT (cutF bl) 0 us) (hE.only ((hO03.tr0 hO4).tr0 hO5))).mono ?_⟩
  rintro _ w6 ⟨vs2, cs2, rfl, hC2, hO6⟩
  obtain ⟨en2, lv2, mv2, kids2, rfl, _⟩ := hC2.root
  have z4 := hO4.size
  have z5 := hO5.size
  refine ⟨vs2, _, _, _, _, en2, lv2, mv2, kids2, _, _, _, rfl, hO6.same (by simp; omega), fun k6 k7 w7 hk6 hk6' hk7 hk7' hO7 => ?_⟩
  have z6 := hO6.size
  have z7 := hO7.size
  have c7 := hC.here.only ((hO5.tr0 hO6).tr0 hO7)
  have d7 := hC2.here.only hO7
  refine (sameCh_c (t := false) c7.off d7.off (hP 15)).mono ?_
  rintro _ w8 ⟨rfl, hO8⟩
  refine ⟨true, rfl, hO8.same (by simp; omega), ?_, (((hO03.tr0 hO4).tr0 hO5).tr0 hO6).tr0 (hO7.tr0 hO8)⟩
  rw [hQ]
  simp
end Go.Proofs.YtmanockofcopjaaGreatDoor.Con
