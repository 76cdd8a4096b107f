/-
  Own work: the statement on TimersTells, out of its contract.
-/
import Derived.Test.YtbklgfggodgddaaRows
import Derived.Test.YtbklgfggodgddaaBulk
import Derived.Test.YtbklgfggodgddaaTells
import Derived.WalkKit
import Derived.ProofKit
import Derived.OpenShut
namespace Go.Proofs.Ytbklgfggodgddaa.TimersTells
open Go Go.RowKit Go.Kt Go.ChangeShapes Go.WideShapes Go.ChangeAt
set_option linter.unusedSimpArgs false
set_option linter.unusedVariables false

theorem own : ownKnob Try.prog.godebug = none := by kernel_rfl
theorem laidOut : laidOutB Try.prog = true := by kernel_rfl

theorem bulkAll {H : Type} : ∀ l : List (DataW H), Rows.uptoBulkAll l = (l.map Rows.uptoBulk).sum
  | [] => rfl
  | d :: l => by rw [Rows.uptoBulkAll, bulkAll l, List.map_cons, List.sum_cons]
theorem hB {H : Type} : IsBulk (H := H) Rows.uptoBulk where
  one d := by cases d <;> (try (rename_i l; cases l)) <;> simp [Rows.uptoBulk]
  sl e s := by simp only [Rows.uptoBulk, bulkAll]; omega
  str b := by simp [Rows.uptoBulk]
  agg p := by simp only [Rows.uptoBulk, bulkAll]; omega
  ptr d := by simp [Rows.uptoBulk]
  iface t d := by simp [Rows.uptoBulk]
set_option maxRecDepth 100000 in
theorem lifted (os : Os) (started : os.Started) (H : Type) (enc : TypeId × Value → H) (F : Stop.Interp) :
    ReturnsInHanded {} Try.checked os 4 .any ((Rows.OpenSpec.upto Rows.timersTellsSpec).pre6 enc Try.prog Try.f4 Rows.timersTellsUptoRow.domain false) (((Rows.OpenSpec.upto Rows.timersTellsSpec).at F).post enc Try.prog Try.f4 false true false false) := by
  refine returnsInHanded_of_cond_sized (C := Try.checked) (s := Rows.OpenSpec.upto Rows.timersTellsSpec) (k := Rows.uptoSmall) rfl own started (by kernel_rfl) Try.func4
    (OpenSpec.witness (enc := enc) (C := Try.checked) (s := Rows.OpenSpec.upto Rows.timersTellsSpec) (k := Rows.uptoSmall) rfl false ⟨#[], #[.slice none 0 0, .slice none 0 0, .slice none 0 0, .int .i64 0], []⟩ 8 (by kernel_rfl) (by kernel_rfl) (by kernel_rfl) (x := ([.nil, .nil, .nil, .lit (.int .i64 0)], [], [])) (by kernel_rfl) rfl (by kernel_rfl)) ?_
  intro W base args ds gs before hval0 hW hcnd hk hsz _
  have hval : ∀ (j : Nat) t v, Try.f4.params[j]? = some t → args[j]? = some v → Value.okWide Try.prog W .any base t v := hval0
  have hW' := hW
  obtain ⟨p, q, hA0, hV, rfl, hfz, hnd⟩ := hW
  have hA : DataW.TrodAll enc Try.prog W 0 (fun _ => true) true Try.f4.params.toList args.toList ds p := hA0
  rw [Try.params4] at hA hval
  obtain ⟨v0, vs0, d0, ds0, p0, q0, hargs, rfl, rfl, h0, r0⟩ := trodAll_cons hA
  obtain ⟨v1, vs1, d1, ds1, p1, q1, rfl, rfl, rfl, h1, r1⟩ := trodAll_cons r0
  obtain ⟨v2, vs2, d2, ds2, p2, q2, rfl, rfl, rfl, h2, r2⟩ := trodAll_cons r1
  obtain ⟨v3, vs3, d3, ds3, p3, q3, rfl, rfl, rfl, h3, r3⟩ := trodAll_cons r2
  obtain ⟨rfl, rfl, rfl⟩ := trodAll_nil r3
  obtain rfl : args = #[v0, v1, v2, v3] := by cases args; simp_all
  obtain ⟨rfl, rfl⟩ := trodVars_none hV
  obtain ⟨s0, a0, rfl, e0, b0⟩ := argB_slice (B := Rows.uptoBulk) Try.underlying22 (hval 0 22 v0 rfl rfl) h0 (r := Con.rTim) (size := 3) (bytes := 24) (opensB_slice hB Try.underlying22 (by kernel_rfl) (by kernel_rfl) (opensB_of hB Con.opens_tim)) (weights_of hsz 0 rfl rfl)
  obtain ⟨s1, a1, rfl, e1, b1⟩ := argB_slice (B := Rows.uptoBulk) Try.underlying22 (hval 1 22 v1 rfl rfl) h1 (r := Con.rTim) (size := 3) (bytes := 24) (opensB_slice hB Try.underlying22 (by kernel_rfl) (by kernel_rfl) (opensB_of hB Con.opens_tim)) (weights_of hsz 1 rfl rfl)
  obtain ⟨s2, a2, rfl, e2, b2⟩ := argB_slice (B := Rows.uptoBulk) Try.underlying32 (hval 2 32 v2 rfl rfl) h2 (r := rInt) (size := 1) (bytes := 8) (opensB_slice hB Try.underlying32 (by kernel_rfl) (by kernel_rfl) (opensB_of hB (opens_int Try.underlying3))) (weights_of hsz 2 rfl rfl)
  obtain ⟨a3, rfl, rfl, rfl, w3⟩ := open_int Try.underlying3 (hval 3 3 v3 rfl rfl) h3
  clear hA0 hval0
  have hks := of_decide_eq_true hk
  simp only [List.append_nil, List.cons_append, List.nil_append, Rows.uptoBulkAll] at hks
  simp only [sum_one] at b0 b1 b2
  have z1 : a0.length + a1.length + 2 ≤ 1048578 := by omega
  have z2 : a2.length * 8 ≤ 140737488355328 := by omega
  refine (Con.tells_c e0 e1 e2 (Nat.le_trans (Nat.mul_le_mul_right 24 z1) (by decide)) z2 a3).mono fun e W' ⟨he, hO⟩ => ?_
  subst he
  exact ⟨_, rfl, law_post (tb := 4) hW' rfl rfl rfl rfl rfl Try.underlying4 laidOut (by kernel_rfl) hO⟩

theorem over : Rows.timersTellsUptoRow.holds Try.pinned (Rows.OpenSpec.upto Rows.timersTellsSpec) :=
  OpenClaim.holds_of_cond 4 Try.f4 rfl rfl rfl rfl rfl rfl rfl ⟨rfl, rfl, rfl, rfl, rfl⟩ rfl rfl rfl rfl rfl (by kernel_rfl) Try.func4 (by kernel_rfl)
    (of_decide_eq_true (by kernel_rfl)) (by unfold Func.isWrapper; first | (rw [if_pos (by decide +kernel)]; kernel_rfl) | (rw [if_neg (by decide +kernel)]; exact ⟨rfl, rfl⟩))
    (fun os started H enc _ F => lifted os started H enc F)

/-- THE STATEMENT -/
theorem proved : Rows.TimersTellsUptoSaid := over
end Go.Proofs.Ytbklgfggodgddaa.TimersTells
