/-
  Own work: what a name is, and the scanner's Name.
-/
import Derived.Test.YtmanockofcopjaaDoorCon4
namespace Go.Proofs.YtmanockofcopjaaDoor.Con
open Go Go.RowKit Go.Kt Go.Kt.V Go.Proofs.YtmanockofcopjaaDoor.Vc
set_option linter.unusedSimpArgs false
set_option linter.unusedVariables false
set_option maxHeartbeats 4000000

/-- is it a name? -/
def nameM (l : List UInt8) : Bool := decide (l ≠ [] ∧ l.length ≤ 24) && (match l with
  | c :: _ => letterB c
  | [] => false) && decide (l.takeWhile wordB = l) && !wordsL.contains l
theorem name_c {w : World} (l : List UInt8) (hl : l.length < 9223372036854775807) :
    Calls Tryd.prog 22 #[.string (T l)] w fun e w' => e = .returned (.bool (nameM l)) ∧ Only [] w w' := by
  refine ret (scan_Name_wp (T l) (fun v w' => v = .bool (nameM l) ∧ Only [] w w') w ?_)
  unfold scan_Name_vc
  intro k0 w0 hk0 hk0' hO0
  have e0 : (ByteArray.mk #[]) = T [] := rfl
  rw [T_size, e0, T_eq]
  refine ⟨fun b s i w' => b = nameM l ∧ Only [] w w', fun b s i w' h => ⟨by rw [h.1], h.2⟩, fun hc => ?_, fun hc => ⟨?_, hO0⟩⟩
  · simp only [Bool.and_eq_true, Bool.not_eq_true', decide_eq_false_iff_not, decide_eq_true_eq] at hc
    obtain ⟨h1, h2⟩ := hc
    have h2 : l.length ≤ 24 := by omega
    obtain ⟨c, r, rfl⟩ : ∃ c r, l = c :: r := by
      cases l with
      | nil => exact absurd rfl h1
      | cons c r => exact ⟨c, r, rfl⟩
    have hn : nameM (c :: r) = (letterB c && decide ((c :: r).takeWhile wordB = c :: r) && !wordsL.contains (c :: r)) := by
      unfold nameM
      rw [decide_eq_true ⟨h1, h2⟩, Bool.true_and]
    refine ⟨c, ⟨Int.le_refl _, by rw [T_get]; rfl⟩, (letter_c w0 c).mono ?_⟩
    rintro _ w2 ⟨rfl, hO2⟩
    have hO02 := hO0.tr0 hO2
    refine ⟨_, rfl, hO2.same (by simp; omega), fun hb hB => ?_, fun hb => ⟨by rw [hn, hb]; rfl, hO02⟩⟩
    refine (row_c (i := 0) (r := []) hB (Nat.zero_le _) hl).mono ?_
    rintro _ w3 ⟨rfl, hO3⟩
    rw [List.drop_zero] 
    have hB3 : Blk w3 k0 55 [.string (T (c :: r)), .int .i64 0] := (hO3.block k0 hB.lt (by simp)).trans hB
    refine ⟨_, rfl, T (c :: r), 0, hB3, ?_⟩
    rw [T_eq]
    refine ⟨fun he => (words_c w3).mono ?_, fun he => ⟨?_, hO02.tr0 hO3⟩⟩
    · rintro _ w4 ⟨s, rfl, hs, hO4⟩
      have hB4 : Blk w4 k0 55 [.string (T (c :: r)), .int .i64 0] := (hO4.block k0 hB3.lt (by simp)).trans hB3
      refine ⟨s, rfl, T (c :: r), 0, hB4, (containsS_c (flatS hs) (c :: r)).mono ?_⟩
      rintro _ w5 ⟨rfl, hO5⟩
      have hB5 : Blk w5 k0 55 [.string (T (c :: r)), .int .i64 0] := (hO5.block k0 hB4.lt (by simp)).trans hB4
      exact ⟨_, rfl, _, _, hB5, by rw [hn, hb, he]; rfl, hO02.tr0 (hO3.tr0 (hO4.tr0 hO5))⟩
    · rw [hn, hb, he]; rfl
  · unfold nameM
    rw [decide_eq_false]
    · rfl
    · rintro ⟨h1, h2⟩
      rw [decide_eq_false h1, decide_eq_true (by omega)] at hc
      cases hc
end Go.Proofs.YtmanockofcopjaaDoor.Con
