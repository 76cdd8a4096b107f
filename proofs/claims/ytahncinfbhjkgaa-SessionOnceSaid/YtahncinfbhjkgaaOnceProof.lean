/-
  Own work: the statement on SessionOnce, out of its contract.
-/
import Derived.Test.YtahncinfbhjkgaaRows
import Derived.Test.YtahncinfbhjkgaaLaw0
import Derived.Test.YtahncinfbhjkgaaOnce
import Derived.WalkKit
import Derived.ProofKit
import Derived.OpenShut
namespace Go.Proofs.Ytahncinfbhjkgaa.SessionOnce
open Go Go.RowKit Go.Kt Go.ChangeShapes Go.WideShapes Go.ChangeAt
set_option linter.unusedSimpArgs false
set_option linter.unusedVariables false

theorem own : ownKnob Try.prog.godebug = none := by kernel_rfl
theorem laidOut : laidOutB Try.prog = true := by kernel_rfl

set_option maxRecDepth 100000 in
theorem lifted (os : Os) (started : os.Started) (H : Type) (enc : TypeId × Value → H) :
    ReturnsInHanded {} Try.checked os 3 .any (Rows.sessionOnceSpec.pre6 enc Try.prog Try.f3 Rows.sessionOnceRow.domain false) (Rows.sessionOnceSpec.post enc Try.prog Try.f3 false true false false) := by
  refine returnsInHanded_of_change_sized (C := Try.checked) own started (by kernel_rfl) Try.func3
    (ChangeSpec.witness6 (enc := enc) (C := Try.checked) false ⟨#[], #[.slice none 0 0], []⟩ 8 (by kernel_rfl) (by kernel_rfl) (by kernel_rfl) (by kernel_rfl)) ?_
  intro W base args ds gs before hval0 hW hcnd hsz _
  have hval : ∀ (j : Nat) t v, Try.f3.params[j]? = some t → args[j]? = some v → Value.okWide Try.prog W .any base t v := hval0
  have hW' := hW
  obtain ⟨p, q, hA0, hV, rfl, hfz, hnd⟩ := hW
  have hA : DataW.TrodAll enc Try.prog W 0 (fun _ => true) true Try.f3.params.toList args.toList ds p := hA0
  rw [Try.params3] at hA hval
  obtain ⟨v0, vs0, d0, ds0, p0, q0, hargs, rfl, rfl, h0, r0⟩ := trodAll_cons hA
  obtain ⟨rfl, rfl, rfl⟩ := trodAll_nil r0
  obtain rfl : args = #[v0] := by cases args; simp_all
  obtain ⟨rfl, rfl⟩ := trodVars_none hV
  obtain ⟨s0, a0, rfl, e0, l0⟩ := arg_slice Try.underlying22 (hval 0 22 v0 rfl rfl) h0 (r := (rPair rInt (rPair rInt (rPair rInt (rPair rInt (rPair (rSl rByte 1 1) rUnit)))))) (size := 5) (bytes := 56) (opens_slice Try.underlying22 (by kernel_rfl) (by kernel_rfl) (opens_struct Try.underlying29 (by kernel_rfl) (fo_cons (s := 1) rfl (by kernel_rfl) (opens_int Try.underlying3) (fo_cons (s := 1) rfl (by kernel_rfl) (opens_int Try.underlying3) (fo_cons (s := 1) rfl (by kernel_rfl) (opens_int Try.underlying3) (fo_cons (s := 1) rfl (by kernel_rfl) (opens_int Try.underlying3) (fo_cons (s := 1) rfl (by kernel_rfl) (opens_slice Try.underlying27 (by kernel_rfl) (by kernel_rfl) (opens_byte Try.underlying5)) (fo_nil rfl)))))))) (weights_of hsz 0 rfl rfl)
  clear hA0 hval0
  refine (Con.once_c e0).mono fun e W' ⟨he, hO⟩ => ?_
  subst he
  exact ⟨_, rfl, law_post (tb := 4) hW' rfl rfl rfl rfl rfl Try.underlying4 laidOut (by kernel_rfl) hO⟩

theorem over : Rows.sessionOnceRow.holds Try.pinned (OpenSpec.ofChange Rows.sessionOnceSpec) :=
  OpenClaim.holds_of_wide 3 Try.f3 rfl rfl rfl rfl rfl rfl rfl ⟨rfl, rfl, rfl, rfl, rfl⟩ rfl rfl rfl rfl rfl (by kernel_rfl) Try.func3 (by kernel_rfl)
    (of_decide_eq_true (by kernel_rfl)) (by unfold Func.isWrapper; first | (rw [if_pos (by decide +kernel)]; kernel_rfl) | (rw [if_neg (by decide +kernel)]; exact ⟨rfl, rfl⟩))
    (fun os started H enc _ => lifted os started H enc)

/-- THE STATEMENT -/
theorem proved : Rows.SessionOnceSaid := over
end Go.Proofs.Ytahncinfbhjkgaa.SessionOnce
