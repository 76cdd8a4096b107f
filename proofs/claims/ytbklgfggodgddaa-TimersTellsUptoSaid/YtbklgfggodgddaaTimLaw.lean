/-
  Own work: what the timers laws' arguments are.
-/
import Derived.Test.YtbklgfggodgddaaCon
import Derived.Test.YtbklgfggodgddaaLaw0
import Derived.OpenShut
namespace Go.Kt
open Go Go.RowKit Go.ChangeShapes Go.WideShapes Go.ChangeAt
section
variable {H : Type} {enc : TypeId × Value → H} {P : Program} {W : World} {base : Nat} {spare : Nat → Bool} {held : Bool} {α : Type}
/-- an argument that is a struct -/
theorem arg_struct {t : TypeId} {fs : Array Field} {r : Rp α} {b0 : Nat} {v : Value} {d : DataW H} {p : List MemPlace} (ht : P.underlying t = some (.struct fs)) (hok : Value.okWide P W .any b0 t v) (h : DataW.Trod enc P W base spare held t v d p)
    (hop : Opens enc P W base spare held t r) (hw : ∀ n, n ∈ d.weights P t → n ≤ reachBytes) : ∃ (a : α) (cs : List Value), v = .agg cs.toArray ∧ r W (fun _ => True) a cs := by
  obtain ⟨cs, rfl, _⟩ := okWide_struct ht hok
  obtain ⟨fuel, hf⟩ := h
  obtain ⟨a, ha⟩ := hop fuel _ _ hf hw
  exact ⟨a, cs.toList, by simp, ha⟩
end
end Go.Kt
namespace Go.Proofs.Ytbklgfggodgddaa.Con
open Go Go.RowKit Go.Kt Go.ChangeShapes Go.WideShapes Go.ChangeAt
theorem opens_tim {H : Type} {enc : TypeId × Value → H} {W : World} {base : Nat} {spare : Nat → Bool} {held : Bool} : Opens enc Try.prog W base spare held 24 rTim :=
  Opens.map (opens_struct (T := 3) Try.underlying24 (by kernel_rfl) (fo_cons (s := 1) rfl (by kernel_rfl) (opens_int Try.underlying3) (fo_cons (s := 1) rfl (by kernel_rfl) (opens_int Try.underlying3) (fo_cons (s := 1) rfl (by kernel_rfl) (opens_int Try.underlying3) (fo_nil rfl))))) (fun x => ⟨x.1, x.2.1, x.2.2.1⟩) (by
    rintro ⟨a, b, c, u⟩ cs ⟨c1, c2, rfl, ⟨rfl, h1⟩, c3, c4, rfl, ⟨rfl, h2⟩, c5, c6, rfl, ⟨rfl, h3⟩, rfl⟩
    exact ⟨rfl, h1, h2, h3⟩)
end Go.Proofs.Ytbklgfggodgddaa.Con
