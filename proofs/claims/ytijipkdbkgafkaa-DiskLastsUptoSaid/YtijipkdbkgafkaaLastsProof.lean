/-
  Own work: the statement on DiskLasts, out of its contract.
-/
import Derived.Test.YtijipkdbkgafkaaRows
import Derived.Test.YtijipkdbkgafkaaQl4
import Derived.WalkKit
import Derived.ProofKit
import Derived.OpenShut
namespace Go.Proofs.Ytijipkdbkgafkaa.DiskLasts
open Go Go.RowKit Go.Kt Go.ChangeShapes Go.WideShapes Go.ChangeAt
set_option linter.unusedSimpArgs false
set_option linter.unusedVariables false

theorem own : ownKnob Try.prog.godebug = none := by kernel_rfl
theorem laidOut : laidOutB Try.prog = true := by kernel_rfl

theorem bulkAll {H : Type} : ∀ l : List (DataW H), Rows.uptoBulkAll l = (l.map Rows.uptoBulk).sum
  | [] => rfl
  | d :: l => by rw [Rows.uptoBulkAll, bulkAll l, List.map_cons, List.sum_cons]
theorem hB {H : Type} : IsBulk (H := H) Rows.uptoBulk where
  one d := by cases d <;> (try (rename_i l; cases l)) <;> simp [Rows.uptoBulk]
  sl e s := by simp only [Rows.uptoBulk, bulkAll]; omega
  str b := by simp [Rows.uptoBulk]
  agg p := by simp only [Rows.uptoBulk, bulkAll]; omega
  ptr d := by simp [Rows.uptoBulk]
  iface t d := by simp [Rows.uptoBulk]
set_option maxRecDepth 100000 in
theorem lifted (os : Os) (started : os.Started) (H : Type) (enc : TypeId × Value → H) (F : Stop.Interp) :
    ReturnsInHanded {} Try.checked os 6 .any ((Rows.OpenSpec.upto Rows.diskLastsSpec).pre6 enc Try.prog Try.f6 Rows.diskLastsUptoRow.domain false) (((Rows.OpenSpec.upto Rows.diskLastsSpec).at F).post enc Try.prog Try.f6 false true false false) := by
  refine returnsInHanded_of_cond_sized (C := Try.checked) (s := Rows.OpenSpec.upto Rows.diskLastsSpec) (k := Rows.uptoSmall) rfl own started (by kernel_rfl) Try.func6
    (OpenSpec.witness (enc := enc) (C := Try.checked) (s := Rows.OpenSpec.upto Rows.diskLastsSpec) (k := Rows.uptoSmall) rfl false ⟨#[], #[.int .i64 0, .string ByteArray.empty, .slice none 0 0], []⟩ 8 (by kernel_rfl) (by kernel_rfl) (by kernel_rfl) (x := ([.lit (.int .i64 0), .lit (.string []), .nil], [], [])) (by kernel_rfl) rfl (by kernel_rfl)) ?_
  intro W base args ds gs before hval0 hW hcnd hk hsz _
  have hval : ∀ (j : Nat) t v, Try.f6.params[j]? = some t → args[j]? = some v → Value.okWide Try.prog W .any base t v := hval0
  have hW' := hW
  obtain ⟨p, q, hA0, hV, rfl, hfz, hnd⟩ := hW
  have hA : DataW.TrodAll enc Try.prog W 0 (fun _ => true) true Try.f6.params.toList args.toList ds p := hA0
  rw [Try.params6] at hA hval
  obtain ⟨v0, vs0, d0, ds0, p0, q0, hargs, rfl, rfl, h0, r0⟩ := trodAll_cons hA
  obtain ⟨v1, vs1, d1, ds1, p1, q1, rfl, rfl, rfl, h1, r1⟩ := trodAll_cons r0
  obtain ⟨v2, vs2, d2, ds2, p2, q2, rfl, rfl, rfl, h2, r2⟩ := trodAll_cons r1
  obtain ⟨rfl, rfl, rfl⟩ := trodAll_nil r2
  obtain rfl : args = #[v0, v1, v2] := by cases args; simp_all
  obtain ⟨rfl, rfl⟩ := trodVars_none hV
  obtain ⟨a0, rfl, rfl, rfl, w0⟩ := open_int Try.underlying3 (hval 0 3 v0 rfl rfl) h0
  obtain ⟨a1, rfl, rfl, rfl, w1⟩ := Go.ChangeMaps.open_string Try.underlying9 (hval 1 9 v1 rfl rfl) h1
  obtain ⟨s2, a2, rfl, e2, b2⟩ := argB_slice (B := Rows.uptoBulk) Try.underlying40 (hval 2 40 v2 rfl rfl) h2 (r := (rPair rInt (rPair rStr (rPair rStr (rPair (rSl rByte 1 1) (rPair (rSl rByte 1 1) (rPair rInt (rPair rInt (rPair (rSl rInt 1 8) rUnit))))))))) (size := 8) (bytes := 128) (opensB_slice hB Try.underlying40 (by kernel_rfl) (by kernel_rfl) (opensB_struct hB Try.underlying43 (by kernel_rfl) (foB_cons (s := 1) rfl (by kernel_rfl) (opensB_of hB (opens_int Try.underlying3)) (foB_cons (s := 1) rfl (by kernel_rfl) (opensB_str hB Try.underlying9) (foB_cons (s := 1) rfl (by kernel_rfl) (opensB_str hB Try.underlying9) (foB_cons (s := 1) rfl (by kernel_rfl) (opensB_slice hB Try.underlying33 (by kernel_rfl) (by kernel_rfl) (opensB_of hB (opens_byte Try.underlying5))) (foB_cons (s := 1) rfl (by kernel_rfl) (opensB_slice hB Try.underlying33 (by kernel_rfl) (by kernel_rfl) (opensB_of hB (opens_byte Try.underlying5))) (foB_cons (s := 1) rfl (by kernel_rfl) (opensB_of hB (opens_int Try.underlying3)) (foB_cons (s := 1) rfl (by kernel_rfl) (opensB_of hB (opens_int Try.underlying3)) (foB_cons (s := 1) rfl (by kernel_rfl) (opensB_slice hB Try.underlying41 (by kernel_rfl) (by kernel_rfl) (opensB_of hB (opens_int Try.underlying3))) (foB_nil rfl))))))))))) (weights_of hsz 2 rfl rfl)
  clear hA0 hval0
  have hks := of_decide_eq_true hk
  simp only [List.append_nil, List.cons_append, List.nil_append, Rows.uptoBulkAll] at hks
  try simp only [sum_one] at b2
  have i0 : InI a0 := by simpa [Lit.wf, IntKind.min, IntKind.max, IntKind.signed, IntKind.bits, InI] using w0
  have hb : (a2.map Con.mA).sum ≤ 1048576 := by
    refine Nat.le_trans (Con.sum_le (f := Con.mA) fun x => ?_) (Nat.le_trans (Nat.le_succ _) (Nat.le_trans b2 (by omega)))
    unfold Con.mA Con.ActT.b Con.ActT.c
    omega
  refine (Con.lasts_c i0 a1.data.toList e2 hb).mono fun e W' ⟨he, hO⟩ => ?_
  subst he
  exact ⟨_, rfl, law_post (tb := 4) hW' rfl rfl rfl rfl rfl Try.underlying4 laidOut (by kernel_rfl) hO⟩

theorem over : Rows.diskLastsUptoRow.holds Try.pinned (Rows.OpenSpec.upto Rows.diskLastsSpec) :=
  OpenClaim.holds_of_cond 6 Try.f6 rfl rfl rfl rfl rfl rfl rfl ⟨rfl, rfl, rfl, rfl, rfl⟩ rfl rfl rfl rfl rfl (by kernel_rfl) Try.func6 (by kernel_rfl)
    (of_decide_eq_true (by kernel_rfl)) (by unfold Func.isWrapper; first | (rw [if_pos (by decide +kernel)]; kernel_rfl) | (rw [if_neg (by decide +kernel)]; exact ⟨rfl, rfl⟩))
    (fun os started H enc _ F => lifted os started H enc F)

/-- THE STATEMENT -/
theorem proved : Rows.DiskLastsUptoSaid := over
end Go.Proofs.Ytijipkdbkgafkaa.DiskLasts
