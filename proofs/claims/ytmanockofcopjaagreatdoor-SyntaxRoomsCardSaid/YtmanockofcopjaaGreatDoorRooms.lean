/-
  Own work: SyntaxRooms: how many variables, and nodes, within each other too, there may be.
-/
import Derived.Test.YtmanockofcopjaaGreatDoorSynE
import Derived.Test.YtmanockofcopjaaGreatDoorRm0
import Derived.Test.YtmanockofcopjaaGreatDoorWx
namespace Go.Proofs.YtmanockofcopjaaGreatDoor.Con
open Go Go.RowKit Go.Kt Go.Kt.V Go.Proofs.YtmanockofcopjaaGreatDoor.Vc
set_option linter.unusedSimpArgs false
set_option linter.unusedVariables false
set_option maxHeartbeats 4000000

theorem T_ap (l m : List UInt8) : T l ++ T m = T (l ++ m) := by
  apply ByteArray.ext
  simp [T]
theorem and_rng (x : Int) {m : Nat} (hm : m < 9223372036854775808) : ∃ n : Nat, bits .and .i64 x (m : Int) = (n : Int) ∧ n ≤ m := by
  have h1 : (BitVec.ofInt 64 (m : Int)).toNat = m := by simp [BitVec.toNat_ofInt]; omega
  have h2 : (BitVec.ofInt 64 x &&& BitVec.ofInt 64 (m : Int)).toNat ≤ m := by
    rw [BitVec.toNat_and, h1]; exact Nat.and_le_right
  have h3 : bits .and .i64 x (m : Int) = IntKind.i64.wrap ((BitVec.ofInt 64 x &&& BitVec.ofInt 64 (m : Int)).toNat : Int) := rfl
  rw [h3, wr' (by omega) (by omega)]
  exact ⟨_, rfl, h2⟩
theorem codeV {v : Nat} (h : v ≤ 31) : (parseC (txV v)).2.1 = if v ≤ 16 then 0 else 2 := by
  rw [code_pc (pcV v) (by simp only [txV, List.length_append, rep_len]; rw [show (flatP pChart).length = 9 from rfl, show (flatP pVar).length = 11 from rfl, show (flatP pEnd).length = 2 from rfl]; omega)]
  exact roomV ⟨v, by omega⟩
theorem codeH {n : Nat} (h : n ≤ 127) : (parseC (txH n)).2.1 = if n < 64 then 0 else 2 := by
  rw [code_pc (pcH n) (by simp only [txH, List.length_append, rep_len]; rw [show (flatP pChart).length = 9 from rfl, show (flatP pHist).length = 16 from rfl, show (flatP pEnd).length = 2 from rfl]; omega)]
  exact roomH ⟨n, by omega⟩
theorem codeD {d : Nat} (h : d ≤ 15) : (parseC (txD d)).2.1 = if d < 12 then 0 else 21 := by
  rw [code_pc (pcD d) (by simp only [txD, List.length_append, rep_len]; rw [show (flatP pChart).length = 9 from rfl, show (flatP pState).length = 10 from rfl, show (flatP pShut).length = 1 from rfl, show (flatP pEnd).length = 2 from rfl]; omega)]
  exact roomD ⟨d, by omega⟩
theorem room2 {a b c : Int} {v m : Nat} (h : c = if v ≤ m then 0 else 2) : ((c == 0) == (decide ((v : Int) ≤ (m : Int))) && ((c == 2) == (decide ((v : Int) > (m : Int))))) = true := by
  subst h
  by_cases hv : v ≤ m
  · rw [if_pos hv, decide_eq_true (by omega : (v : Int) ≤ (m : Int)), decide_eq_false (by omega : ¬ (v : Int) > (m : Int))]; rfl
  · rw [if_neg hv, decide_eq_false (by omega : ¬ (v : Int) ≤ (m : Int)), decide_eq_true (by omega : (v : Int) > (m : Int))]; rfl
theorem room3 {c e : Int} {v m : Nat} (h0 : (0 == e) = false) (h : c = if v < m then 0 else e) : ((c == 0) == (decide ((v : Int) < (m : Int))) && ((c == e) == (decide ((v : Int) ≥ (m : Int))))) = true := by
  subst h
  by_cases hv : v < m
  · rw [if_pos hv, decide_eq_true (by omega : (v : Int) < (m : Int)), decide_eq_false (by omega : ¬ (v : Int) ≥ (m : Int)), h0]; rfl
  · have h1 : (e == 0) = false := by
      rw [beq_eq_false_iff_ne] at h0 ⊢
      exact fun x => h0 x.symm
    rw [if_neg hv, decide_eq_false (by omega : ¬ (v : Int) < (m : Int)), decide_eq_true (by omega : (v : Int) ≥ (m : Int)), h1, show (e == e) = true from beq_self_eq_true e]; rfl
theorem rooms_c {w : World} (a b c : Int) (hE : Er w) : Calls Tryz.prog 7 #[.int .i64 a, .int .i64 b, .int .i64 c] w fun e w' => e = .returned (.bool true) ∧ Only [] w w' := by
  refine ret (pavanelaw07_SyntaxRooms_wp a b c (fun v w' => v = .bool true ∧ Only [] w w') w ?_)
  unfold pavanelaw07_SyntaxRooms_vc
  obtain ⟨v, ev, hv⟩ := and_rng a (m := 31) (by decide)
  obtain ⟨n, en, hn⟩ := and_rng b (m := 127) (by decide)
  obtain ⟨d, ed, hd⟩ := and_rng c (m := 15) (by decide)
  replace ev : bits .and .i64 a 31 = (v : Int) := ev
  replace en : bits .and .i64 b 127 = (n : Int) := en
  replace ed : bits .and .i64 c 15 = (d : Int) := ed
  rw [ev, en, ed]
  have eV := codeV hv
  have eH := codeH hn
  have eD := codeD hd
  have lV : (flatP pVar).length = 11 := rfl
  have lH : (flatP pHist).length = 16 := rfl
  have lS : (flatP pState).length = 10 := rfl
  have lP : (flatP pShut).length = 1 := rfl
  have lC : (flatP pChart).length = 9 := rfl
  have len1 : ∀ (p : List UInt8) (j : Nat), (flatP pChart ++ rep p j).length = 9 + j * p.length := fun p j => by rw [List.length_append, rep_len, lC]
  refine (synsmall_c w hE).mono ?_
  rintro _ w0 ⟨rfl, hO0⟩
  refine ⟨true, rfl, fun nv s i w' => ∃ j : Nat, j ≤ v ∧ i = (j : Int) ∧ nv = v - j ∧ s = T (flatP pChart ++ rep (flatP pVar) j) ∧ w' = w0, v, ⟨0, Nat.zero_le _, rfl, rfl, rfl, rfl⟩, ?_⟩
  rintro nv _ _ w1 ⟨j, hj, rfl, rfl, rfl, hw1⟩
  subst hw1
  refine ⟨fun hlt => ⟨by rw [T_size, len1, lV]; omega, ?_⟩, fun hge => ?_⟩
  · have hlt : j < v := by have := of_decide_eq_true hlt; omega
    refine ⟨v - (j + 1), by omega, j + 1, by omega, by rw [wr' (by omega) (by omega)]; rfl, rfl, ?_, rfl⟩
    rw [show ByteArray.mk #[32, 118, 97, 114, 32, 118, 32, 61, 32, 48, 59] = T (flatP pVar) from rfl, T_ap, List.append_assoc]
    rfl
  have hjv : j = v := by have := of_decide_eq_false hge; omega
  subst hjv
  refine ⟨fun nv s i w' => ∃ p : Nat, p ≤ n ∧ i = (p : Int) ∧ nv = n - p ∧ s = T (flatP pChart ++ rep (flatP pHist) p) ∧ w' = w1, n, ⟨0, Nat.zero_le _, rfl, rfl, rfl, rfl⟩, ?_⟩
  rintro nv _ _ w2 ⟨p, hp, rfl, rfl, rfl, hw2⟩
  subst hw2
  refine ⟨fun hlt => ⟨by rw [T_size, len1, lH]; omega, ?_⟩, fun hge => ?_⟩
  · have hlt : p < n := by have := of_decide_eq_true hlt; omega
    refine ⟨n - (p + 1), by omega, p + 1, by omega, by rw [wr' (by omega) (by omega)]; rfl, rfl, ?_, rfl⟩
    rw [show ByteArray.mk #[32, 104, 105, 115, 116, 111, 114, 121, 32, 104, 32, 45, 62, 32, 99, 59] = T (flatP pHist) from rfl, T_ap, List.append_assoc]
    rfl
  have hpn : p = n := by have := of_decide_eq_false hge; omega
  subst hpn
  refine ⟨fun nv s t i w' => ∃ q : Nat, q ≤ d ∧ i = (q : Int) ∧ nv = d - q ∧ s = T (flatP pChart ++ rep (flatP pState) q) ∧ t = T (rep (flatP pShut) q) ∧ w' = w2, d, ⟨0, Nat.zero_le _, rfl, rfl, rfl, rfl, rfl⟩, ?_⟩
  rintro nv _ _ _ w3 ⟨q, hq, rfl, rfl, rfl, rfl, hw3⟩
  subst hw3
  refine ⟨fun hlt => ⟨by rw [T_size, len1, lS]; omega, by rw [T_size, rep_len, lP]; omega, ?_⟩, fun hge => ?_⟩
  · have hlt : q < d := by have := of_decide_eq_true hlt; omega
    refine ⟨d - (q + 1), by omega, q + 1, by omega, by rw [wr' (by omega) (by omega)]; rfl, rfl, ?_, ?_, rfl⟩
    · rw [show ByteArray.mk #[32, 115, 116, 97, 116, 101, 32, 115, 32, 123] = T (flatP pState) from rfl, T_ap, List.append_assoc]
      rfl
    · rw [show ByteArray.mk #[125] = T (flatP pShut) from rfl, T_ap]
      rfl
  have hqd : q = d := by have := of_decide_eq_false hge; omega
  subst hqd
  have t1 : T (flatP pChart ++ rep (flatP pVar) j) ++ ByteArray.mk #[32, 125] = T (txV j) := by
    rw [show ByteArray.mk #[32, 125] = T (flatP pEnd) from rfl, T_ap]; rfl
  have t2 : T (flatP pChart ++ rep (flatP pHist) p) ++ ByteArray.mk #[32, 125] = T (txH p) := by
    rw [show ByteArray.mk #[32, 125] = T (flatP pEnd) from rfl, T_ap]; rfl
  have t3 : (T (flatP pChart ++ rep (flatP pState) q) ++ T (rep (flatP pShut) q)) ++ ByteArray.mk #[32, 125] = T (txD q) := by
    rw [show ByteArray.mk #[32, 125] = T (flatP pEnd) from rfl, T_ap, T_ap]; rfl
  rw [t1, t2, t3]
  refine ⟨by rw [T_size, len1, lV]; omega, (sparse_c (txV j) (hE.only hO0)).mono ?_⟩
  rintro _ w4 ⟨vs, cs, rfl, hC, hO4⟩
  obtain ⟨en, lv, mv, kids, rfl, _⟩ := hC.root
  refine ⟨vs, _, _, _, _, en, lv, mv, kids, _, _, _, rfl, by rw [T_size, len1, lH]; omega, fun k0 k1 w5 hk0 hk0' hk1 hk1' hO5 => (sparse_c (txH p) (hE.only ((hO0.tr0 hO4).tr0 hO5))).mono ?_⟩
  rintro _ w6 ⟨vs2, cs2, rfl, hC2, hO6⟩
  obtain ⟨en2, lv2, mv2, kids2, rfl, _⟩ := hC2.root
  have z4 := hO4.size
  have z5 := hO5.size
  have z6 := hO6.size
  refine ⟨vs2, _, _, _, _, en2, lv2, mv2, kids2, _, _, _, rfl, hO6.same (by simp; omega), by rw [T_size, T_size, len1, rep_len, lS, lP]; omega, by rw [T_ap, T_size, List.length_append, len1, rep_len, lS, lP]; omega, fun k2 k3 w7 hk2 hk2' hk3 hk3' hO7 => (sparse_c (txD q) (hE.only ((((hO0.tr0 hO4).tr0 hO5).tr0 hO6).tr0 hO7))).mono ?_⟩
  rintro _ w8 ⟨vs3, cs3, rfl, hC3, hO8⟩
  obtain ⟨en3, lv3, mv3, kids3, rfl, _⟩ := hC3.root
  have z7 := hO7.size
  refine ⟨vs3, _, _, _, _, en3, lv3, mv3, kids3, _, _, _, rfl, hO8.same (by simp; omega), fun k4 k5 w9 hk4 hk4' hk5 hk5' hO9 => ⟨?_, (((((hO0.tr0 hO4).tr0 hO5).tr0 hO6).tr0 hO7).tr0 hO8).tr0 hO9⟩⟩
  have r1 := room2 (a := 0) (b := 0) eV
  have r2 := room3 (by decide) eH
  have r3 := room3 (by decide) eD
  congr 1
  replace r1 : (((parseC (txV j)).2.1 == 0) == (decide ((j : Int) ≤ 16)) && (((parseC (txV j)).2.1 == 2) == (decide ((j : Int) > 16)))) = true := r1
  replace r2 : (((parseC (txH p)).2.1 == 0) == (decide ((p : Int) < 64)) && (((parseC (txH p)).2.1 == 2) == (decide ((p : Int) ≥ 64)))) = true := r2
  replace r3 : (((parseC (txD q)).2.1 == 0) == (decide ((q : Int) < 12)) && (((parseC (txD q)).2.1 == 21) == (decide ((q : Int) ≥ 12)))) = true := r3
  rw [r1, r2, r3]
  rfl
end Go.Proofs.YtmanockofcopjaaGreatDoor.Con
