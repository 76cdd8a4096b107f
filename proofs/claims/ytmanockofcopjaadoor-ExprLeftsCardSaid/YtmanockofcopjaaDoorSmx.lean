/-
  Own work: the small case.
-/
import Derived.Test.YtmanockofcopjaaDoorText0
namespace Go.Proofs.YtmanockofcopjaaDoor.Con
open Go Go.RowKit Go.Kt Go.Kt.V Go.Proofs.YtmanockofcopjaaDoor.Vc
set_option linter.unusedSimpArgs false
set_option linter.unusedVariables false
set_option maxHeartbeats 4000000

/-! ## the small case -/
def smA : Ex := .mk 2 0 [97] 0 [] 0
def smB : Ex := .mk 2 0 [98] 0 [] 4
def smN : Ex := .mk 1 1 [] 0 [] 8
def smX : Ex := .mk 5 0 [] 2 [.mk 5 0 [] 2 [smA, smB] 0, smN] 0
def smT : List UInt8 := [97, 32, 45, 32, 98, 32, 45, 32, 49]
theorem sm_read : readA smT = (smX, 0, 0) := by rfl
theorem itoa1 : Lib.itoa 1 = [49] := by
  unfold Lib.itoa
  rw [if_neg (by decide)]
  unfold Lib.decDigits
  rfl
theorem sm_page (d : Nat) : pgM (d + 3) smX false [] = smT := by
  have : pgM (d + 3) smX false [] = [97, 32, 45, 32, 98, 32, 45, 32] ++ Lib.itoa 1 := by rfl
  rw [this, itoa1]
  rfl
theorem sm_text (d : Nat) : textM (d + 3) smX = smT := by
  have h : shapeM (d + 3) smX = true := by rfl
  rw [textM, if_pos h, sm_page, sm_read]
  rfl
theorem sm_len (d : Nat) : lenOk (d + 3) smX := by
  simp [lenOk, smX, smA, smB, smN, Ex.s, Ex.subs]
theorem sm_num (d : Nat) : numOk (d + 3) smX := by
  simp [numOk, smX, smA, smB, smN, Ex.n, Ex.subs, InI]
theorem small_c (w : World) (hE : Er w) (hT : Tb w) : Calls Tryd.prog 4 #[] w fun e w' => e = .returned (.bool true) ∧ Only [] w w' := by
  refine ret (pavanelaw05_small_wp (fun v w' => v = .bool true ∧ Only [] w w') w ?_)
  unfold pavanelaw05_small_vc
  have hr := read_c smT hE
  rw [sm_read] at hr
  refine hr.mono ?_
  rintro _ w0 ⟨cs, rfl, hX, hO0⟩
  have z0 := hO0.size
  obtain ⟨d, hd⟩ := hX.ex
  obtain ⟨xl, rfl, hxl⟩ := hX.cells
  refine ⟨_, _, _, _, _, _, _, _, rfl, fun k0 k1 w1 hk0 hk0' hk1 hk1' hO1 => ⟨fun b w' => b = true ∧ Only [] w w', ?_, ?_⟩⟩
  · rintro _ w2 ⟨rfl, h⟩
    exact ⟨rfl, h⟩
  have hd1 := rEx_only hd hO1
  have hd3 : rEx (d + 3) w1 _ smX _ := rEx_le (Nat.le_add_right d 3) hd1
  obtain ⟨sl, he, hsl⟩ := hd3
  have hsx : sl = xl := by
    have := (List.cons.inj (List.cons.inj (List.cons.inj (List.cons.inj (List.cons.inj he).2).2).2).2).1
    simp only [Sl.v, Value.slice.injEq] at this
    obtain ⟨h1, h2, h3⟩ := this
    cases sl
    cases xl
    simp_all
  subst hsx
  have hln := hsl.len
  obtain ⟨ad, x, cs, g1, g2, g3, g4, g5, g6⟩ := hsl.get (i := 1) (by decide) (by rw [hln]; decide)
  have hxn : x = smN := by
    have : (smX.subs)[1]? = some smN := rfl
    rw [show (1 : Int).toNat = 1 from rfl, this] at g2
    injection g2 with g2
    exact g2.symm
  subst hxn
  obtain ⟨sy, rfl⟩ := rEx_cells g6
  refine ⟨ad, fun _ => g1, 1, fun _ => g5.at1 1 _ rfl, fun hc => (text_c (rEx_le (Nat.le_add_right d 3) hd1) (sm_len d) (sm_num d) (hE.only (hO0.tr0 hO1)) (hT.only (hO0.tr0 hO1)) ?_).mono ?_, fun hc => ?_⟩
  · have : cntM (d + 3) smX = 5 := by rfl
    show 40 * cntM (d + 3) smX ≤ _
    rw [this]
    decide
  · rintro _ w3 ⟨rfl, hO3⟩
    refine ⟨_, rfl, hO3.same (by simp; omega), ?_, (hO0.tr0 hO1).tr0 hO3⟩
    rw [sm_text]
    exact (T_eq smT smT).trans (decide_eq_true rfl)
  · exfalso
    rw [hln] at hc
    exact absurd hc (by decide)
end Go.Proofs.YtmanockofcopjaaDoor.Con
