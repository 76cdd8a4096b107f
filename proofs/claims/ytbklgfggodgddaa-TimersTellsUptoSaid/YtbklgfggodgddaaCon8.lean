/-
  Own work: the timers laws' small case.
-/
import Derived.Test.YtbklgfggodgddaaCon7
namespace Go.Proofs.Ytbklgfggodgddaa.Con
open Go Go.RowKit Go.Kt Go.Kt.V Go.Proofs.Ytbklgfggodgddaa.Vc
set_option linter.unusedSimpArgs false
set_option linter.unusedVariables false

/-- a row that is laid out anew -/
theorem build_t {w : World} {ts : List Tim} {n : Nat} {parts : Array (Nat × Value)} (hp : parts = (((ts.map Tim.v).zipIdx 0).map fun x => (x.2, x.1)).toArray) (hl : ts.length = n) (h0 : 0 < n) (hm : n ≤ 1000) (hok : ∀ t, t ∈ ts → t.ok) :
    ∃ s w', (Instr.buildSlice 22 n parts).run Try.prog w = .ok (Sl.v s) w' ∧ OwnU w.heap.size w' s ts ∧ Only [] w w' := by
  have hE : ∀ (ts : List Tim), (∀ t, t ∈ ts → t.ok) → Els rTim 3 w (fun _ => True) ts ((ts.map Tim.v).map fun v => v.cells.toList) := by
    intro ts
    induction ts with
    | nil => intro _; trivial
    | cons t r ih => exact fun h => ⟨⟨rfl, rfl, h t (by simp)⟩, ih fun x hx => h x (by simp [hx])⟩
  obtain ⟨v, w6, v1, v2, v3, v4, v5, v6⟩ := build_own (P := Try.prog) (t := 22) (e := 24) (i := Try.t24) (w := w) (F := fun _ => True) (r := rTim) (size := 3) (vs := ts.map Tim.v) (parts := parts) (xs := ts) (len := n) (by kernel_rfl) (by kernel_rfl) rfl rfl (by decide) hp (by simpa using hl) h0 (by omega) rTim_ok (hE ts hok)
  exact ⟨v, w6, v1, v2, v3⟩
theorem small_c (w : World) : Calls Try.prog 7 #[] w fun e w' => e = .returned (.bool true) ∧ Only [] w w' := by
  refine ret (pavanelaw14_small_wp (fun v w' => v = .bool true ∧ Only [] w w') w ?_)
  unfold pavanelaw14_small_vc
  obtain ⟨l0, w0, k1, k2, k3⟩ := build_t (w := w) (ts := [⟨5, 1, 0⟩, ⟨3, 2, 0⟩, ⟨4, 1, 0⟩]) (n := 3) rfl rfl (by decide) (by decide) (by
    intro t ht
    simp only [List.mem_cons, List.not_mem_nil, or_false] at ht
    unfold Tim.ok InI
    rcases ht with rfl | rfl | rfl <;> decide)
  have hS : setsT [] [⟨5, 1, 0⟩, ⟨3, 2, 0⟩, ⟨4, 1, 0⟩] = [⟨3, 2, 0⟩, ⟨4, 1, 0⟩] := by decide
  have hR : RightT [⟨3, 2, 0⟩, ⟨4, 1, 0⟩] := by decide
  refine ⟨l0, w0, k1, (set_c (SliceF.nil rTim 3 w0 (fun _ => False)) k2.sl (by simp)).mono ?_⟩
  rintro _ w1 ⟨l1, c, rfl, hO1, h1⟩
  rcases h1 with ⟨_, rfl, h1⟩ | ⟨h1, _⟩
  case inr => exact absurd (by simp [RightT]) h1
  rw [hS] at h1
  refine ⟨l1, 0, rfl, (due_c h1.sl (by simp) 3).mono ?_⟩
  rintro _ w2 ⟨t, l2, b, rfl, hO2, h2⟩
  rcases h2 with ⟨r, ⟨e, _, _⟩, rfl, h2⟩ | ⟨h2, _⟩
  case inr => exact absurd ⟨rfl, by decide, hR⟩ (h2 ⟨3, 2, 0⟩ [⟨4, 1, 0⟩])
  injection e with e1 e2
  subst e1 e2
  have hn1 := h1.sl.len
  have hn2 := h2.sl.len
  refine ⟨_, _, _, l2, true, rfl, fun g w3 hg1 hg2 hO3 => ⟨fun b w4 => b = true ∧ Only [] w3 w4, ?_, fun hc => ?_, fun hc => ?_⟩⟩
  · rintro b w4 ⟨rfl, h⟩
    exact ⟨rfl, k3.tr0 (hO1.tr0 (hO2.tr0 (hO3.tr0 h)))⟩
  · have h3 : OwnU w0.heap.size w3 l1 _ := OwnU.only (OwnU.only h1 hO2) hO3
    refine (right_c h3.sl (by simp)).mono ?_
    rintro _ w5 ⟨rfl, hO5⟩
    exact ⟨_, rfl, hO5.same (by simp; omega), by simp [hR], hO5⟩
  · exfalso
    rw [hn1, hn2] at hc
    simp at hc
end Go.Proofs.Ytbklgfggodgddaa.Con
