
/-
  Own work: from a law's contract ('returns true, nothing that was there is touched') to the form's own word; arguments read as plain data. No program in sight.
-/
import Derived.Test.YtmanockofcopjaaGreatDoorEnt
import Derived.WalkKit
import Derived.ProofKit
import Derived.OpenShut
import Derived.SizedLaws
import Derived.Deep.Slices
namespace Go.Kt
open Go Go.RowKit Go.ChangeShapes Go.WideShapes
set_option linter.unusedSimpArgs false
set_option linter.unusedVariables false

section
variable {H : Type} {enc : TypeId × Value → H} {P : Program}
theorem trodAll_stays (hl : laidOutB P = true) {W W' : World} {sp : Nat → Bool} (hb : Below W.heap.size W W') : ∀ {ts : List TypeId} {vs : List Value} {ds : List (DataW H)} {ps : List MemPlace},
    (∀ t, t ∈ ts → P.readableRec t = true ∧ t < P.types.size) → DataW.TrodAll enc P W 0 (fun _ => true) true ts vs ds ps → (∀ x, x ∈ ps → x.block < W.heap.size) → (∀ x, x ∈ ps → sp x.block = true) → DataW.TrodAll enc P W' 0 sp true ts vs ds ps
  | [], vs, ds, ps, _, h, _, _ => by
    obtain ⟨rfl, rfl, rfl⟩ := trodAll_nil h
    exact trodAll_mk0
  | t :: ts, vs, ds, ps, hr, h, hlt, hsp => by
    obtain ⟨v, vs', d, ds', p, q, rfl, rfl, rfl, h1, h2⟩ := trodAll_cons h
    obtain ⟨r1, r2⟩ := hr t (by simp)
    exact trodAll_cons_mk (WideElems.Trod_stays hl r1 r2 h1 (fun x hx => hb.same (hlt x (by simp [hx]))) fun x hx => hsp x (by simp [hx]))
      (trodAll_stays hl hb (fun u hu => hr u (by simp [hu])) h2 (fun x hx => hlt x (by simp [hx])) fun x hx => hsp x (by simp [hx]))

/-- a law's post: true comes back, nothing that was there is touched -/
theorem law_post {f : Func} {s : ChangeSpec} {fresh handsOn again : Bool} {W W' : World} {args : Array Value} {ds gs : List (DataW H)} {before : List MemPlace} {tb : TypeId}
    (hW : DataW.Whole enc P f.params.toList s.vars false W args.toList ds gs before) (hv : s.vars = [])
    (hres : (s.fn H (ds ++ gs)).results = [.lit (.bool true)]) (hargs : (s.fn H (ds ++ gs)).args = ds) (hvs : (s.fn H (ds ++ gs)).vars = [])
    (ht : f.resultTypes = #[tb]) (hu : P.underlying tb = some .bool) (hl : laidOutB P = true) (hread0 : (f.params.toList.all fun t => P.readableRec t && decide (t < P.types.size)) = true) (hO : Only [] W W') :
    s.post enc P f false fresh handsOn again W args (.bool true) W' := by
  have hb : Below W.heap.size W W' := hO.below (Nat.le_refl _) (by simp)
  have hread : ∀ t, t ∈ f.params.toList → P.readableRec t = true ∧ t < P.types.size := fun t ht => by simpa using List.all_eq_true.1 hread0 t ht
  have hlt := fun p hp => hW.lt p hp
  obtain ⟨p, q, hA, hV, rfl, hz, hn⟩ := id hW
  rw [hv] at hV
  obtain ⟨rfl, rfl⟩ := trodVars_none hV
  rw [List.append_nil] at *
  have hA' : ∀ sp : Nat → Bool, (∀ x ∈ p, sp x.block = true) → DataW.TrodAll enc P W' 0 sp true f.params.toList args.toList (s.fn H ds).args p := fun sp hsp => by
    rw [hargs]
    exact trodAll_stays hl hb hread hA (fun x hx => by simpa using hlt x hx) hsp
  have hV' : ∀ sp : Nat → Bool, DataW.TrodVars enc P W' sp s.vars (s.fn H ds).vars [] := fun sp => by
    rw [hv, hvs]
    simp [DataW.TrodVars]
  have hres' : ∀ (b : Nat) (sp : Nat → Bool) (hd : Bool), DataW.TrodAll enc P W' b sp hd f.resultTypes.toList ((Value.bool true).resultList f.resultTypes.size) (s.fn H ds).results [] := fun b sp hd => by
    rw [hres, ht]
    exact trodAll_cons_mk (shut_bool hu true) trodAll_mk0
  have hold : ∀ x ∈ p, (fun b => decide (b < W.heap.size)) x.block = true := fun x hx => by simpa using hlt x hx
  refine ⟨ds, [], p, [], p, [], hW, by simpa using hres' _ _ _, by simpa using hA' _ hold, by simpa using hV' _, World.keptBut_mono (fun x hx => ⟨hx, by simpa using hx⟩) (hb.frame (· ∈ p)), fun _ => ?_⟩
  refine ⟨ok_one ht rfl (okWide_bool_mk hu true), _, _, ([] ++ p) ++ [], ⟨[] ++ p, [], trodAll_append (hA' _ (fun _ _ => rfl)) (hres' _ _ _), hV' _, rfl, ?_, ?_⟩, ?_⟩
  · intro b off hp
    have hp : MemPlace.cell b off ∈ p := by simpa using hp
    rw [hb.frozen (p := ⟨b, off, none⟩) (hlt _ hp)]
    exact hz b off hp
  · intro ha
    cases ha
  · intro x hp _
    simpa using hp

/-! ### arguments read as plain data -/
variable {W : World} {base : Nat} {spare : Nat → Bool} {held : Bool} {α : Type}
/-- whatever reads as a datum of type t, and is of no more than the form's own reach, is one of r -/
def Opens (enc : TypeId × Value → H) (P : Program) (W : World) (base : Nat) (spare : Nat → Bool) (held : Bool) (t : TypeId) (r : Rp α) : Prop :=
  ∀ (fuel : Nat) (cs : List Value) (x : DataW H × List MemPlace), DataW.trod enc P W base spare held fuel t cs = some x → (∀ n, n ∈ x.1.weights P t → n ≤ reachBytes) → ∃ a : α, r W (fun _ => True) a cs
/-! ### structs in general: field by field -/
theorem Opens.map {β : Type} {t : TypeId} {r : Rp α} {q : Rp β} (h : Opens enc P W base spare held t r) (f : α → β) (hf : ∀ a cs, r W (fun _ => True) a cs → q W (fun _ => True) (f a) cs) : Opens enc P W base spare held t q := fun fuel cs x hx hw => by
  obtain ⟨a, ha⟩ := h fuel cs x hx hw
  exact ⟨f a, hf a cs ha⟩
theorem weights_of {ts : List TypeId} {ds : List (DataW H)} (h : (DataW.weightsEach P ts ds).all (· ≤ reachBytes) = true) (j : Nat) {t : TypeId} {d : DataW H} (ht : ts[j]? = some t) (hd : ds[j]? = some d) : ∀ n, n ∈ d.weights P t → n ≤ reachBytes :=
  fun n hn => by simpa using List.all_eq_true.1 h n (DataW.weights_mem_each ht hd n hn)
end
end Go.Kt
