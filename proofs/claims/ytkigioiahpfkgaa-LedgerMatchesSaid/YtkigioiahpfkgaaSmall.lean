/-
  Own work: the small case of the ledger comes out right.
-/
import Derived.Test.YtkigioiahpfkgaaCon
namespace Go.Proofs.Ytkigioiahpfkgaa.Con
open Go Go.RowKit Go.Kt Go.Proofs.Ytkigioiahpfkgaa.Vc
set_option linter.unusedSimpArgs false
set_option linter.unusedVariables false

theorem ints_own {w : World} {ts : List Int} {len : Nat} {parts : Array (Nat × Value)} (hp : parts = (((ts.map fun t => Value.int .i64 t).zipIdx 0).map fun x => (x.2, x.1)).toArray) (hl : ts.length = len) (h0 : 0 < len) (hm : len ≤ 1000) (hi : ∀ t, t ∈ ts → InI t) :
    ∃ s w', (Instr.buildSlice 36 len parts).run Try.prog w = .ok (Sl.v s) w' ∧ SliceF rInt 1 w' (fun k => w.heap.size ≤ k) s ts ∧ Only [] w w' := by
  have hE : ∀ ts : List Int, (∀ t, t ∈ ts → InI t) → Els rInt 1 w (fun _ => False) ts ((ts.map fun t => Value.int .i64 t).map fun v => v.cells.toList) := by
    intro ts
    induction ts with
    | nil => intro _; trivial
    | cons t ts ih => intro h; exact ⟨⟨rfl, rfl, h t (by simp)⟩, ih fun u hu => h u (by simp [hu])⟩
  obtain ⟨s, w', k1, k2, k3, k4⟩ := build_own (P := Try.prog) (t := 36) (e := 3) (i := Try.t3) (z := .int .i64 0) (w := w) (vs := ts.map fun t => Value.int .i64 t) (parts := parts) (len := len) (size := 1)
    (by kernel_rfl) (by kernel_rfl) rfl rfl (by decide) hp (by simpa using hl) h0 (by omega) rInt_ok (hE ts hi)
  exact ⟨s, w', k1, (k2.slice rInt_ok).mono rInt_ok fun k hk => hk.elim False.elim fun h => h.1, k3⟩

theorem small_c (w : World) : Calls Try.prog 5 #[] w fun e w' => e = .returned (.bool true) ∧ Only [] w w' := by
  refine ret (pavanelaw24_small_wp (fun v w' => v = _ ∧ Only [] w w') w ?_)
  unfold pavanelaw24_small_vc
  obtain ⟨x1, w1, a1, a2, a3⟩ := ints_own (w := w) (ts := [1, 2, 2]) (parts := #[(0, .int .i64 1), (1, .int .i64 2), (2, .int .i64 2)]) (len := 3) rfl rfl (by decide) (by decide) (by intro t ht; simp at ht; constructor <;> omega)
  refine ⟨x1, w1, a1, (row_c a2 3 (by decide)).mono ?_⟩
  rintro _ w2 ⟨x2, rfl, b1, b2⟩
  refine ⟨x2, rfl, (new_c (b1.slice rEnt_ok) 2 1).mono ?_⟩
  rintro e w3 ⟨c1, _, c2⟩
  obtain ⟨b, hb, rfl, hL⟩ := c2 (by decide)
  refine ⟨_, _, rfl, fun hn => by simp at hn, fun _ => ?_⟩
  obtain ⟨x3, w4, d1, d2, d3⟩ := ints_own (w := w3) (ts := [3, 3]) (parts := #[(0, .int .i64 3), (1, .int .i64 3)]) (len := 2) rfl rfl (by decide) (by decide) (by intro t ht; simp at ht; constructor <;> omega)
  refine ⟨x3, w4, d1, (row_c d2 5 (by decide)).mono ?_⟩
  rintro _ w5 ⟨x4, rfl, e1, e2⟩
  have hL5 := (hL.only d3 (by simp)).only e2 (by simp)
  refine ⟨x4, rfl, (fit_c hL5 (e1.slice rEnt_ok) 4 2).mono ?_⟩
  rintro _ w6 ⟨x12, rfl, f1, f2⟩
  have hL6 := hL5.only f2 (by simp)
  refine ⟨_, x12, _, rfl, (fit_c hL6 (SliceF.nil rEnt 4 w6 fun _ => False) 4 1).mono ?_⟩
  rintro _ w7 ⟨x13, rfl, g1, g2⟩
  have hL7 := hL6.only g2 (by simp)
  have hs5 : w3.heap.size ≤ w5.heap.size := Nat.le_trans d3.size e2.size
  have hbl : b < w3.heap.size := by obtain ⟨s, h, _⟩ := hL.at_; exact h.lt
  have hx := (f1.slice rEnt_ok).mono rEnt_ok (G := fun k => w5.heap.size ≤ k) fun k hk => hk.elim id fun h => h.1
  refine ⟨_, x13, _, rfl, (put_c hL7 (Ents.only hx g2 (by simp)) (by omega)).mono ?_⟩
  rintro _ w8 ⟨rfl, h1, h2⟩
  refine ⟨_, rfl, (last_c h1).mono ?_⟩
  rintro _ w9 ⟨rfl, i1⟩
  have hO9 : Only [] w w9 := by
    have h7 : Only [] w w7 := (((((a3.tr0 b2).tr0 c1).tr0 d3).tr0 e2).tr0 f2).tr0 g2
    have hs2 := (a3.tr0 b2).size
    exact (h7.trans h2 (by simp; omega)).tr0 i1
  have hxl := f1.len
  refine ⟨_, _, rfl, fun t w' => t = true ∧ Only [] w w', by rintro _ w' ⟨rfl, h⟩; exact ⟨rfl, h⟩, fun _ => ?_, fun hc => ?_⟩
  · refine (hint_c (h1.only i1 (by simp)) 9 ⟨by decide, by decide⟩).mono ?_
    rintro _ w10 ⟨rfl, j1⟩
    refine ⟨_, rfl, ?_, hO9.tr0 j1⟩
    decide
  · exfalso
    rw [hxl] at hc
    revert hc
    decide
end Go.Proofs.Ytkigioiahpfkgaa.Con
