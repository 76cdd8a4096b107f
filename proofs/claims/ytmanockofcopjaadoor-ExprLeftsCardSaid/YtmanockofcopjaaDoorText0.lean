/-
  Own work: Text.
-/
import Derived.Test.YtmanockofcopjaaDoorPage
namespace Go.Proofs.YtmanockofcopjaaDoor.Con
open Go Go.RowKit Go.Kt Go.Kt.V Go.Proofs.YtmanockofcopjaaDoor.Vc
set_option linter.unusedSimpArgs false
set_option linter.unusedVariables false
set_option maxHeartbeats 4000000

def textM (d : Nat) (x : Ex) : List UInt8 := if shapeM d x = true then (if (readA (pgM d x false [])).2.1 ≠ 0 then [] else pgM d x false []) else []
theorem text_c {d : Nat} {w : World} {F : Nat → Prop} {x : Ex} {cs : List Value} (hx : rEx d w F x cs) (hl : lenOk d x) (hn : numOk d x) (hE : Er w) (hT : Tb w) (hc : 40 * cntM d x ≤ 70368744177664) :
    Calls Tryd.prog 6 #[.agg cs.toArray] w fun e w' => e = .returned (.string (T (textM d x))) ∧ Only [] w w' := by
  obtain ⟨xs, rfl⟩ := rEx_cells hx
  refine ret (expr_Text_wp x.k x.n (T x.s) x.op xs x.a (fun v w' => v = .string (T (textM d x)) ∧ Only [] w w') w ?_)
  unfold expr_Text_vc
  intro k0 w0 hk0 hk0' hO0
  have hxi := (rEx_ok d).inHeap hx
  refine (shape_c d hl (rEx_only hx hO0)).mono ?_
  rintro _ w1 ⟨rfl, hO1⟩
  have z0 := hO0.size
  have z1 := hO1.size
  have hO01 := hO0.tr0 hO1
  refine ⟨_, rfl, hO1.same (by simp; omega), fun hs => ?_, fun hs => (ops_c w1).mono ?_⟩
  · have hs : shapeM d x = false := by simpa using hs
    rw [textM, if_neg (by rw [hs]; decide)]
    exact ⟨rfl, hO01⟩
  have hs : shapeM d x = true := by simpa using hs
  rw [textM, if_pos hs]
  rintro _ w2 ⟨l0, rfl, hsn, hO2⟩
  have z2 := hO2.size
  refine ⟨l0, rfl, hO2.same (by simp; omega), fun k1 w3 hk1 hk1' hO3 hB3 => ?_⟩
  have z3 := hO3.size
  have hO03 : Only [] w w3 := (hO01.tr0 hO2).tr0 hO3
  have hpg : Pg (fun k => w1.heap.size ≤ k ∧ k < w2.heap.size) w3 k1 Sl.nil l0 [] := ⟨⟨none, .inl rfl, hB3⟩, .inl ⟨rfl, rfl⟩, SliceF.only rTx_ok (by decide) hsn hO3 (by simp), fun k hk => by have := hk.2; omega⟩
  have hT3 := hT.only hO03
  have htl := hT.lt
  refine (page_c d false hs hn (rEx_only hxi hO03) (fun k hk => by have := hk.2; omega) hT3 (by omega) hpg (by rw [List.length_nil]; omega)).mono ?_
  rintro _ w4 ⟨sl4, rfl, hp4, hm4⟩
  have z4 := hm4.1.size
  have hO4 : Only [] w w4 := (hO03.trP hm4.1).only fun k hk => by
    rcases hk with rfl | e
    · omega
    · cases e
  obtain ⟨q, hq, hB4⟩ := hp4.blk
  refine ⟨rfl, hm4.same (by omega) (fun e => by cases e) (by omega), q, sl4, l0, hB4, (pstr_c hp4.pt).mono ?_⟩
  rintro _ w5 ⟨rfl, ht5, hO5⟩
  have z5 := hO5.size
  have hB5 := hO5.blk hB4 (by omega)
  have hO5' : Only [] w w5 := (hO4.trP hO5).only fun k hk => by have := hk.1; omega
  refine ⟨_, rfl, hO5.same (by simp; omega), q, sl4, l0, hB5, (read_c _ (hE.only hO5')).mono ?_⟩
  rintro _ w6 ⟨cs, rfl, hX, hO6⟩
  have z6 := hO6.size
  obtain ⟨xl, rfl, _⟩ := hX.cells
  have hB6 := hO6.blk hB5 (by simp)
  have hO6' := hO5'.tr0 hO6
  refine ⟨_, _, _, _, _, _, _, _, rfl, hO6.same (by simp; omega), q, sl4, l0, hB6, fun hr k2 k3 w7 _ _ _ _ hO7 _ => ?_, fun hr k4 k5 w8 hk4 hk4' hk5 hk5' hO8 hB8 => ?_⟩
  · rw [if_pos (by simpa using hr)]
    exact ⟨rfl, hO6'.tr0 hO7⟩
  · have z8 := hO8.size
    refine (pstr_c ((ht5.only hO6).only hO8)).mono ?_
    rintro _ w9 ⟨rfl, ht9, hO9⟩
    rw [if_neg (by simpa using hr)]
    have hne : ∀ k, sl4.a = some ⟨k, 0, none⟩ → k < w4.heap.size := fun k hk => (hp4.buf.lt hk).2
    refine ⟨_, rfl, hO9.same fun k hk => ?_, q, sl4, l0, hO9.blk hB8 (by omega), rfl, ((hO6'.tr0 hO8).trP hO9).only fun k hk => by have := hk.1; omega⟩
    simp only [List.mem_cons, List.not_mem_nil, or_false] at hk
    rcases hk with rfl | rfl | rfl
    · exact ⟨by omega, fun h => by have := h.1; omega⟩
    · exact ⟨hk4', fun h => by have := hne _ h.2; omega⟩
    · exact ⟨hk5', fun h => by have := hne _ h.2; omega⟩
end Go.Proofs.YtmanockofcopjaaDoor.Con
