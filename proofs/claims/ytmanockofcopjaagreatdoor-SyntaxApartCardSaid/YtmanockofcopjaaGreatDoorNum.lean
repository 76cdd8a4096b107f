
/-
  Own work: numbers in text, the document's way: contracts.
-/
import Derived.Test.YtmanockofcopjaaGreatDoorDec
import Derived.Test.YtmanockofcopjaaGreatDoorTree0
import Derived.Test.YtmanockofcopjaaGreatDoorWx
namespace Go.Proofs.YtmanockofcopjaaGreatDoor.Con
open Go Go.RowKit Go.Kt Go.Kt.V Go.Proofs.YtmanockofcopjaaGreatDoor.Vc
set_option linter.unusedSimpArgs false
set_option linter.unusedVariables false
set_option maxHeartbeats 4000000

theorem T_apn (l m : List UInt8) : T l ++ T m = T (l ++ m) := by
  apply ByteArray.ext
  simp [T]
theorem rsize_c (w : World) {n : Int} (h0 : 0 ≤ n) (h1 : n ≤ 9223372036854775807) : Calls Tryz.prog 55 #[.int .i64 n] w fun e w' => e = .returned (.int .u64 n) ∧ w' = w := by
  refine ret (pavaneref03_size_wp n (fun v w' => v = .int .u64 n ∧ w' = w) w ?_)
  unfold pavaneref03_size_vc
  refine ⟨fun hc => absurd (of_decide_eq_true hc) (by omega), fun _ => ⟨?_, rfl⟩⟩
  have : IntKind.wrap .u64 n = n := by
    have e : IntKind.wrap .u64 n = n % 18446744073709551616 := rfl
    rw [e]
    omega
  rw [this]
theorem dec_len_le (u : Nat) (h : u ≤ 18446744073709551615) : (Lib.decDigits u).length ≤ 40 := by
  have key : ∀ (k u : Nat), u < 10 ^ (k + 1) → (Lib.decDigits u).length ≤ k + 1 := by
    intro k
    induction k with
    | zero => intro u hu; rw [dec_one (by simpa using hu)]; simp
    | succ k ih =>
      intro u hu
      by_cases h10 : u < 10
      · rw [dec_one h10]; simp
      · rw [dec_more h10, List.length_append, List.length_singleton]
        have := ih (u / 10) (by rw [Nat.div_lt_iff_lt_mul (by decide)]; rw [Nat.pow_succ] at hu; exact hu)
        omega
  have := key 19 u (by have : (10 : Nat) ^ (19 + 1) = 100000000000000000000 := by decide
                       omega)
  omega
theorem rdigits_c : ∀ (u : Nat) (w : World), u ≤ 18446744073709551615 → Calls Tryz.prog 88 #[.int .u64 (u : Int)] w fun e w' => e = .returned (.string (T (if u = 0 then [] else Lib.decDigits u))) ∧ Only [] w w' := by
  intro u
  induction u using Nat.strongRecOn with
  | _ u ih =>
    intro w hu
    refine ret (pavaneref03_digits_wp (u : Int) (fun v w' => v = .string (T (if u = 0 then [] else Lib.decDigits u)) ∧ Only [] w w') w ?_)
    unfold pavaneref03_digits_vc
    refine ⟨fun hc => ?_, fun hc => ⟨fun s w' => s = T (Lib.decDigits u) ∧ Only [] w w', fun s w' h => ?_, fun w1 hO1 => ⟨fun k => w1.heap.size ≤ k, ?_, ?_⟩⟩⟩
    · have hc : u = 0 := by
        have : (u : Int) = 0 := by simpa using hc
        omega
      rw [if_pos hc]
      exact ⟨rfl, Only.refl _ _⟩
    · have hc : u ≠ 0 := fun e => by subst e; simp at hc
      rw [if_neg hc, h.1]
      exact ⟨rfl, h.2⟩
    all_goals
      have hc : u ≠ 0 := fun e => by subst e; simp at hc
      have wu : ∀ m : Nat, m ≤ 18446744073709551615 → IntKind.wrap .u64 (m : Int) = (m : Int) := fun m hm => by
        have e : IntKind.wrap .u64 (m : Int) = (m : Int) % 18446744073709551616 := rfl
        rw [e]
        omega
      have e1 : IntKind.wrap .u64 ((u : Int).tdiv 10) = ((u / 10 : Nat) : Int) := by
        have : (u : Int).tdiv 10 = ((u / 10 : Nat) : Int) := by
          rw [Int.tdiv_eq_ediv_of_nonneg (Int.natCast_nonneg u)]
          rfl
        rw [this, wu _ (by omega)]
      have hm : (UInt8.ofNat (48 + u % 10)).toNat = 48 + u % 10 := dig_nat (Nat.mod_lt _ (by decide))
      have e2 : IntKind.wrap .u8 (IntKind.wrap .u64 (48 + ((u : Int).tmod 10))) = ((UInt8.ofNat (48 + u % 10)).toNat : Int) := by
        have h1 : (48 + ((u : Int).tmod 10)) = ((48 + u % 10 : Nat) : Int) := by
          rw [Int.tmod_eq_emod_of_nonneg (Int.natCast_nonneg u)]
          omega
        rw [h1, wu _ (by omega), hm]
        have e : IntKind.wrap .u8 ((48 + u % 10 : Nat) : Int) = ((48 + u % 10 : Nat) : Int) % 256 := rfl
        rw [e]
        omega
      have e3 : T (if u / 10 = 0 then [] else Lib.decDigits (u / 10)) ++ T [UInt8.ofNat (48 + u % 10)] = T (Lib.decDigits u) := by
        rw [T_apn]
        by_cases h10 : u < 10
        · rw [if_pos (by omega), dec_one h10, List.nil_append]
          congr 3
          omega
        · rw [if_neg (by omega), ← dec_more h10]
      have hlen : (if u / 10 = 0 then [] else Lib.decDigits (u / 10)).length ≤ 100 := by
        split
        · simp
        · have := dec_len_le (u / 10) (by omega)
          omega
      rw [e1, e2]
    · refine (ih (u / 10) (by omega) w1 (by omega)).mono ?_
      rintro _ w2 ⟨rfl, hO2⟩
      obtain ⟨y, w3, k1, k2, k3, _⟩ := buildB w2 [UInt8.ofNat (48 + u % 10)] (n := 1) (parts := #[(0, .int .u8 ((UInt8.ofNat (48 + u % 10)).toNat : Int))]) rfl rfl (by decide) (by decide)
      refine ⟨_, rfl, Keeps.only hO2, y, w3, k1, Keeps.only k3, [UInt8.ofNat (48 + u % 10)], (SliceF.bytes (flatB k2)).rd, ?_, e3, (hO1.tr0 hO2).tr0 k3⟩
      have : (ByteArray.mk [UInt8.ofNat (48 + u % 10)].toArray).size = 1 := rfl
      rw [T_size]
      omega
    · obtain ⟨y, w4, k1, k2, k3, ka⟩ := buildB w1 [UInt8.ofNat (48 + u % 10)] (n := 1) (parts := #[(0, .int .u8 ((UInt8.ofNat (48 + u % 10)).toNat : Int))]) rfl rfl (by decide) (by decide)
      refine ⟨y, w4, k1, Keeps.only k3, [UInt8.ofNat (48 + u % 10)], fun p hp => ?_, (SliceF.bytes (flatB k2)).rd, (ih (u / 10) (by omega) w4 (by omega)).mono ?_⟩
      · rw [ka] at hp
        injection hp with hp
        subst hp
        exact Nat.le_refl _
      · rintro _ w5 ⟨rfl, hO5⟩
        refine ⟨_, rfl, Keeps.only hO5, ?_, e3, (hO1.tr0 k3).tr0 hO5⟩
        have : (ByteArray.mk [UInt8.ofNat (48 + u % 10)].toArray).size = 1 := rfl
        rw [T_size]
        omega
theorem rnum_c (w : World) {n : Int} (h0 : 0 ≤ n) (h1 : n ≤ 9223372036854775807) : Calls Tryz.prog 45 #[.int .i64 n] w fun e w' => e = .returned (.string (T (Lib.itoa n))) ∧ Only [] w w' := by
  refine ret (pavaneref03_Text_wp n (fun v w' => v = .string (T (Lib.itoa n)) ∧ Only [] w w') w ?_)
  unfold pavaneref03_Text_vc
  refine ⟨fun hc => ?_, fun hc => ⟨fun hneg => absurd (of_decide_eq_true hneg) (by omega), fun _ => (rsize_c w h0 h1).mono ?_⟩⟩
  · have hc : n = 0 := by simpa using hc
    subst hc
    rw [itoa_nat (Int.le_refl _), Int.toNat_zero, dec_one (by decide)]
    exact ⟨rfl, Only.refl _ _⟩
  · have hc : n ≠ 0 := by simpa using hc
    rintro _ w2 ⟨rfl, rfl⟩
    obtain ⟨u, rfl⟩ : ∃ u : Nat, n = (u : Int) := ⟨n.toNat, by omega⟩
    refine ⟨_, rfl, (rdigits_c u _ (by omega)).mono ?_⟩
    rintro _ w3 ⟨rfl, hO3⟩
    refine ⟨_, rfl, ?_, hO3⟩
    rw [if_neg (by omega), itoa_nat h0, Int.toNat_natCast]
end Go.Proofs.YtmanockofcopjaaGreatDoor.Con
