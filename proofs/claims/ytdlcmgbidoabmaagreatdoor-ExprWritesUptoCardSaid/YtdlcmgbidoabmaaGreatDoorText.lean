/-
  Own work: Text, Right; the small case.
-/
import Derived.Test.YtdlcmgbidoabmaaGreatDoorPage
namespace Go.Proofs.YtdlcmgbidoabmaaGreatDoor.Con
open Go Go.RowKit Go.Kt Go.Kt.V Go.Proofs.YtdlcmgbidoabmaaGreatDoor.Vc
set_option linter.unusedSimpArgs false
set_option linter.unusedVariables false
set_option maxHeartbeats 4000000

def textM (d : Nat) (x : Ex) : List UInt8 := if shapeM d x = true then (if (readA (pgM d x false [])).2.1 ≠ 0 then [] else pgM d x false []) else []
theorem text_c {d : Nat} {w : World} {F : Nat → Prop} {x : Ex} {cs : List Value} (hx : rEx d w F x cs) (hl : lenOk d x) (hn : numOk d x) (hE : Er w) (hT : Tb w) (hc : 40 * cntM d x ≤ 70368744177664) :
    Calls Tryz.prog 15 #[.agg cs.toArray] w fun e w' => e = .returned (.string (T (textM d x))) ∧ Only [] w w' := by
  obtain ⟨xs, rfl⟩ := rEx_cells hx
  refine ret (expr_Text_wp x.k x.n (T x.s) x.op xs x.a (fun v w' => v = .string (T (textM d x)) ∧ Only [] w w') w ?_)
  unfold expr_Text_vc
  intro k0 w0 hk0 hk0' hO0
  have hxi := (rEx_ok d).inHeap hx
  refine (shape_c d hl (rEx_only hx hO0)).mono ?_
  rintro _ w1 ⟨rfl, hO1⟩
  have z0 := hO0.size
  have z1 := hO1.size
  have hO01 := hO0.tr0 hO1
  refine ⟨_, rfl, hO1.same (by simp; omega), fun hs => ?_, fun hs => (ops_c w1).mono ?_⟩
  · have hs : shapeM d x = false := by simpa using hs
    rw [textM, if_neg (by rw [hs]; decide)]
    exact ⟨rfl, hO01⟩
  have hs : shapeM d x = true := by simpa using hs
  rw [textM, if_pos hs]
  rintro _ w2 ⟨l0, rfl, hsn, hO2⟩
  have z2 := hO2.size
  refine ⟨l0, rfl, hO2.same (by simp; omega), fun k1 w3 hk1 hk1' hO3 hB3 => ?_⟩
  have z3 := hO3.size
  have hO03 : Only [] w w3 := (hO01.tr0 hO2).tr0 hO3
  have hpg : Pg (fun k => w1.heap.size ≤ k ∧ k < w2.heap.size) w3 k1 Sl.nil l0 [] := ⟨⟨none, .inl rfl, hB3⟩, .inl ⟨rfl, rfl⟩, SliceF.only rTx_ok (by decide) hsn hO3 (by simp), fun k hk => by have := hk.2; omega⟩
  have hT3 := hT.only hO03
  have htl := hT.lt
  refine (page_c d false hs hn (rEx_only hxi hO03) (fun k hk => by have := hk.2; omega) hT3 (by omega) hpg (by rw [List.length_nil]; omega)).mono ?_
  rintro _ w4 ⟨sl4, rfl, hp4, hm4⟩
  have z4 := hm4.1.size
  have hO4 : Only [] w w4 := (hO03.trP hm4.1).only fun k hk => by
    rcases hk with rfl | e
    · omega
    · cases e
  obtain ⟨q, hq, hB4⟩ := hp4.blk
  refine ⟨rfl, hm4.same (by omega) (fun e => by cases e) (by omega), q, sl4, l0, hB4, (pstr_c hp4.pt).mono ?_⟩
  rintro _ w5 ⟨rfl, ht5, hO5⟩
  have z5 := hO5.size
  have hB5 := hO5.blk hB4 (by omega)
  have hO5' : Only [] w w5 := (hO4.trP hO5).only fun k hk => by have := hk.1; omega
  refine ⟨_, rfl, hO5.same (by simp; omega), q, sl4, l0, hB5, (read_c _ (hE.only hO5')).mono ?_⟩
  rintro _ w6 ⟨cs, rfl, hX, hO6⟩
  have z6 := hO6.size
  obtain ⟨xl, rfl, _⟩ := hX.cells
  have hB6 := hO6.blk hB5 (by simp)
  have hO6' := hO5'.tr0 hO6
  refine ⟨_, _, _, _, _, _, _, _, rfl, hO6.same (by simp; omega), q, sl4, l0, hB6, fun hr k2 k3 w7 _ _ _ _ hO7 _ => ?_, fun hr k4 k5 w8 hk4 hk4' hk5 hk5' hO8 hB8 => ?_⟩
  · rw [if_pos (by simpa using hr)]
    exact ⟨rfl, hO6'.tr0 hO7⟩
  · have z8 := hO8.size
    refine (pstr_c ((ht5.only hO6).only hO8)).mono ?_
    rintro _ w9 ⟨rfl, ht9, hO9⟩
    rw [if_neg (by simpa using hr)]
    have hne : ∀ k, sl4.a = some ⟨k, 0, none⟩ → k < w4.heap.size := fun k hk => (hp4.buf.lt hk).2
    refine ⟨_, rfl, hO9.same fun k hk => ?_, q, sl4, l0, hO9.blk hB8 (by omega), rfl, ((hO6'.tr0 hO8).trP hO9).only fun k hk => by have := hk.1; omega⟩
    simp only [List.mem_cons, List.not_mem_nil, or_false] at hk
    rcases hk with rfl | rfl | rfl
    · exact ⟨by omega, fun h => by have := h.1; omega⟩
    · exact ⟨hk4', fun h => by have := hne _ h.2; omega⟩
    · exact ⟨hk5', fun h => by have := hne _ h.2; omega⟩
def rightM (d : Nat) (x : Ex) : Bool := decide (textM d x ≠ [])
theorem right_c {d : Nat} {w : World} {F : Nat → Prop} {x : Ex} {cs : List Value} (hx : rEx d w F x cs) (hl : lenOk d x) (hn : numOk d x) (hE : Er w) (hT : Tb w) (hc : 40 * cntM d x ≤ 70368744177664) :
    Calls Tryz.prog 16 #[.agg cs.toArray] w fun e w' => e = .returned (.bool (rightM d x)) ∧ Only [] w w' := by
  obtain ⟨xs, rfl⟩ := rEx_cells hx
  refine ret (expr_Right_wp x.k x.n (T x.s) x.op xs x.a (fun v w' => v = .bool (rightM d x) ∧ Only [] w w') w ?_)
  unfold expr_Right_vc
  intro k0 w0 hk0 hk0' hO0
  refine (text_c (rEx_only hx hO0) hl hn (hE.only hO0) (hT.only hO0) hc).mono ?_
  rintro _ w1 ⟨rfl, hO1⟩
  refine ⟨_, rfl, hO1.same (by simp; omega), ?_, hO0.tr0 hO1⟩
  rw [show ByteArray.mk #[] = T [] from rfl, T_eq, rightM, decide_not]

/-! ## the small case -/
def smA : Ex := .mk 2 0 [97] 0 [] 0
def smB : Ex := .mk 2 0 [98] 0 [] 4
def smN : Ex := .mk 1 1 [] 0 [] 8
def smX : Ex := .mk 5 0 [] 2 [.mk 5 0 [] 2 [smA, smB] 0, smN] 0
def smT : List UInt8 := [97, 32, 45, 32, 98, 32, 45, 32, 49]
theorem sm_read : readA smT = (smX, 0, 0) := by rfl
theorem itoa1 : Lib.itoa 1 = [49] := by
  unfold Lib.itoa
  rw [if_neg (by decide)]
  unfold Lib.decDigits
  rfl
theorem sm_page (d : Nat) : pgM (d + 3) smX false [] = smT := by
  have : pgM (d + 3) smX false [] = [97, 32, 45, 32, 98, 32, 45, 32] ++ Lib.itoa 1 := by rfl
  rw [this, itoa1]
  rfl
theorem sm_text (d : Nat) : textM (d + 3) smX = smT := by
  have h : shapeM (d + 3) smX = true := by rfl
  rw [textM, if_pos h, sm_page, sm_read]
  rfl
theorem sm_len (d : Nat) : lenOk (d + 3) smX := by
  simp [lenOk, smX, smA, smB, smN, Ex.s, Ex.subs]
theorem sm_num (d : Nat) : numOk (d + 3) smX := by
  simp [numOk, smX, smA, smB, smN, Ex.n, Ex.subs, InI]
theorem small_c (w : World) (hE : Er w) (hT : Tb w) : Calls Tryz.prog 6 #[] w fun e w' => e = .returned (.bool true) ∧ Only [] w w' := by
  refine ret (pavanelaw05_small_wp (fun v w' => v = .bool true ∧ Only [] w w') w ?_)
  unfold pavanelaw05_small_vc
  have hr := read_c smT hE
  rw [sm_read] at hr
  refine hr.mono ?_
  rintro _ w0 ⟨cs, rfl, hX, hO0⟩
  have z0 := hO0.size
  obtain ⟨d, hd⟩ := hX.ex
  obtain ⟨xl, rfl, hxl⟩ := hX.cells
  refine ⟨_, _, _, _, _, _, _, _, rfl, fun k0 k1 w1 hk0 hk0' hk1 hk1' hO1 => ⟨fun b w' => b = true ∧ Only [] w w', ?_, ?_⟩⟩
  · rintro _ w2 ⟨rfl, h⟩
    exact ⟨rfl, h⟩
  have hd1 := rEx_only hd hO1
  have hd3 : rEx (d + 3) w1 _ smX _ := rEx_le (Nat.le_add_right d 3) hd1
  obtain ⟨sl, he, hsl⟩ := hd3
  have hsx : sl = xl := by
    have := (List.cons.inj (List.cons.inj (List.cons.inj (List.cons.inj (List.cons.inj he).2).2).2).2).1
    simp only [Sl.v, Value.slice.injEq] at this
    obtain ⟨h1, h2, h3⟩ := this
    cases sl
    cases xl
    simp_all
  subst hsx
  have hln := hsl.len
  obtain ⟨ad, x, cs, g1, g2, g3, g4, g5, g6⟩ := hsl.get (i := 1) (by decide) (by rw [hln]; decide)
  have hxn : x = smN := by
    have : (smX.subs)[1]? = some smN := rfl
    rw [show (1 : Int).toNat = 1 from rfl, this] at g2
    injection g2 with g2
    exact g2.symm
  subst hxn
  obtain ⟨sy, rfl⟩ := rEx_cells g6
  refine ⟨ad, fun _ => g1, 1, fun _ => g5.at1 1 _ rfl, fun hc => (text_c (rEx_le (Nat.le_add_right d 3) hd1) (sm_len d) (sm_num d) (hE.only (hO0.tr0 hO1)) (hT.only (hO0.tr0 hO1)) ?_).mono ?_, fun hc => ?_⟩
  · have : cntM (d + 3) smX = 5 := by rfl
    show 40 * cntM (d + 3) smX ≤ _
    rw [this]
    decide
  · rintro _ w3 ⟨rfl, hO3⟩
    refine ⟨_, rfl, hO3.same (by simp; omega), ?_, (hO0.tr0 hO1).tr0 hO3⟩
    rw [sm_text]
    exact (T_eq smT smT).trans (decide_eq_true rfl)
  · exfalso
    rw [hln] at hc
    exact absurd hc (by decide)
end Go.Proofs.YtdlcmgbidoabmaaGreatDoor.Con
