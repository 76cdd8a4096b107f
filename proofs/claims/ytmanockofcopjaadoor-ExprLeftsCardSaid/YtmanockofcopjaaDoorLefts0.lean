/-
  Own work: ExprLefts: the plain law.
-/
import Derived.Test.YtmanockofcopjaaDoorSmx
namespace Go.Proofs.YtmanockofcopjaaDoor.Con
open Go Go.RowKit Go.Kt Go.Kt.V Go.Proofs.YtmanockofcopjaaDoor.Vc
set_option linter.unusedSimpArgs false
set_option linter.unusedVariables false
set_option maxHeartbeats 4000000

/-! ## the plain law: 13 times 13 texts -/
def lfS : List (List UInt8) := [[124, 124], [38, 38], [61, 61], [33, 61], [60], [60, 61], [62], [62, 61], [43], [45], [42], [47], [37]]
def lfR : List Int := [0, 1, 2, 2, 3, 3, 3, 3, 4, 4, 5, 5, 5]
def lfT (s t : List UInt8) : List UInt8 := [112, 32] ++ s ++ [32, 113, 32] ++ t ++ [32, 114]
def lfB (x : Ex) (r q : Int) : Bool := match x.subs with
  | [y, z] => ((y.k == 5 && z.k == 2) == decide (r ≥ q)) && !((y.k == 2 && z.k == 5) == (y.k == 5 && z.k == 2))
  | _ => false
def lfOne (s t : List UInt8) (r q : Int) : Bool := (readA (lfT s t)).2.1 == 0 && lfB (readA (lfT s t)).1 r q
def lfAll : Bool := (lfS.zip lfR).all fun p => (lfS.zip lfR).all fun q => lfOne p.1 q.1 p.2 q.2
theorem lf_all : lfAll = true := by kernel_rfl
theorem lf_law {i j : Nat} {s t : List UInt8} {r q : Int} (h1 : lfS[i]? = some s) (h2 : lfR[i]? = some r) (h3 : lfS[j]? = some t) (h4 : lfR[j]? = some q) : lfOne s t r q = true := by
  have hz : ∀ {i : Nat} {s : List UInt8} {r : Int}, lfS[i]? = some s → lfR[i]? = some r → (s, r) ∈ lfS.zip lfR := fun {i s r} a b => by
    refine List.mem_of_getElem? (i := i) ?_
    rw [List.getElem?_zip_eq_some]
    exact ⟨a, b⟩
  have := lf_all
  unfold lfAll at this
  rw [List.all_eq_true] at this
  have := this _ (hz h1 h2)
  rw [List.all_eq_true] at this
  exact this _ (hz h3 h4)

end Go.Proofs.YtmanockofcopjaaDoor.Con
