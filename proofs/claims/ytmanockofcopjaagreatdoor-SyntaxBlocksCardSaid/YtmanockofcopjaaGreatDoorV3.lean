
/-
  Own work: a walk by reckoning, part 3: all operations that only reckon ('pur'), and that what is asked suffices. No program in sight.
-/
import Derived.Test.YtmanockofcopjaaGreatDoorV2
import Derived.Laws.Tables
namespace Go.Kt.V
open Go Go.RowKit Go.Kt
set_option linter.unusedSimpArgs false
set_option linter.unusedVariables false

def scal : SV → Bool
  | .agg _ => false
  | .tup _ => false
  | .un => false
  | .e => false
  | .c _ _ => false
  | _ => true
def scals : List SV → Bool
  | [] => true
  | s :: r => scal s && scals r
theorem scal_one {s : SV} (h : scal s = true) (β : Nat → Nat) : (val β s).oneCell' = true ∧ (val β s).cells = #[val β s] := by
  cases s with
  | raw v =>
    have e : val β (.raw v) = v.v := rfl
    rw [e]
    refine ⟨v.one, ?_⟩
    obtain ⟨v, hv⟩ := v
    cases v <;> first | rfl | (simp [Value.oneCell'] at hv)
  | _ => first | exact ⟨rfl, rfl⟩ | (simp [scal] at h)
theorem scals_one : ∀ {l : List SV}, scals l = true → ∀ β, (vals β l).all Value.oneCell' = true
  | [], _, _ => rfl
  | s :: r, h, β => by
    simp only [scals, Bool.and_eq_true] at h
    simp only [vals, List.map_cons, List.all_cons, Bool.and_eq_true]
    exact ⟨(scal_one h.1 β).1, scals_one h.2 β⟩
def cellsS : SV → Option (List SV)
  | .agg l => bif isL l && scals (toL l) then some (toL l) else none
  | s => bif scal s then some [s] else none
theorem bifO {α : Type} {b : Bool} {x : α} {y : α} (h : (bif b then some x else none) = some y) : b = true ∧ x = y := by
  cases b with
  | true => exact ⟨rfl, by simpa using h⟩
  | false => cases h
theorem cellsS_ok {s : SV} {l : List SV} (h : cellsS s = some l) (β : Nat → Nat) : (val β s).cells = (vals β l).toArray ∧ (vals β l).all Value.oneCell' = true := by
  unfold cellsS at h
  split at h
  · obtain ⟨h1, rfl⟩ := bifO h
    simp only [Bool.and_eq_true] at h1
    refine ⟨?_, scals_one h1.2 β⟩
    show (cvs β _).toArray = _
    rw [cvs_toL β h1.1]
  · obtain ⟨h1, rfl⟩ := bifO h
    obtain ⟨h2, h3⟩ := scal_one h1 β
    exact ⟨h3, by simp [vals, h2]⟩
def ofVl : List Value → Option (List SV)
  | [] => some []
  | v :: r => match ofV1 v, ofVl r with
    | some s, some l => some (s :: l)
    | _, _ => none
theorem ofVl_ok (β : Nat → Nat) : ∀ {l : List Value} {s : List SV}, ofVl l = some s → vals β s = l
  | [], s, h => by simp only [ofVl, Option.some.injEq] at h; subst h; rfl
  | v :: r, s, h => by
    simp only [ofVl] at h
    split at h
    · rename_i s' l' h1 h2
      simp only [Option.some.injEq] at h
      subst h
      have := ofVl_ok β h2
      simp only [vals, List.map_cons] at this ⊢
      rw [val_ofV1 h1, this]
    · cases h

/-! ### a literal of parts -/
def spl (cs : List SV) (o : Nat) (vs : List SV) : List SV := cs.take o ++ vs ++ cs.drop (o + vs.length)
theorem spl_vals (β : Nat → Nat) (cs : List SV) (o : Nat) (vs : List SV) : vals β (spl cs o vs) = splice (vals β cs) o (vals β vs) := by
  simp only [vals, spl, splice, List.map_append, List.map_take, List.map_drop, List.length_map]
theorem fold_spl {off : Nat} : ∀ (vs : List Value) (k : Nat) (cs : List Value), off + k + vs.length ≤ cs.length →
    (vs.zipIdx k).foldl (fun (cs : Array Value) (x : Value × Nat) => cs.setIfInBounds (off + x.2) x.1) cs.toArray = (splice cs (off + k) vs).toArray
  | [], k, cs, _ => by simp [splice]
  | v :: vs, k, cs, h => by
    simp only [List.length_cons] at h
    have e : cs.toArray.setIfInBounds (off + k) v = (cs.set (off + k) v).toArray := by simp
    rw [List.zipIdx_cons, List.foldl_cons]
    dsimp only
    rw [e, fold_spl vs (k + 1) _ (by rw [List.length_set]; omega)]
    congr 1
    simp only [splice, List.length_cons]
    rw [show off + (k + 1) = off + k + 1 by omega, List.take_add_one, List.getElem?_set_self (by omega), List.take_set_of_le (Nat.le_refl _), List.drop_set_of_lt (by omega), show off + k + 1 + vs.length = off + k + (vs.length + 1) by omega]
    simp
def fillS (place : Nat → Option (Nat × Nat)) : List SV → List (Nat × SV) → Option (List SV)
  | cells, [] => some cells
  | cells, (i, v) :: rest => match place i, cellsS v with
    | some (off, size), some vs => bif Nat.beq vs.length size && Nat.ble (off + vs.length) cells.length then fillS place (spl cells off vs) rest else none
    | _, _ => none
theorem fillS_ok (β : Nat → Nat) {place : Nat → Option (Nat × Nat)} : ∀ {parts : List (Nat × SV)} {cells r : List SV}, fillS place cells parts = some r → Instr.fill place (vals β cells).toArray (pvals β parts) = some (vals β r).toArray
  | [], cells, r, h => by simp only [fillS, Option.some.injEq] at h; subst h; rfl
  | (i, v) :: rest, cells, r, h => by
    simp only [fillS] at h
    split at h
    · rename_i off size vs hp hc
      cases hb : (Nat.beq vs.length size && Nat.ble (off + vs.length) cells.length) with
      | false => rw [hb] at h; cases h
      | true =>
        rw [hb] at h
        simp only [Bool.and_eq_true] at hb
        have h1 := Nat.eq_of_beq_eq_true hb.1
        have h2 := Nat.le_of_ble_eq_true hb.2
        obtain ⟨e1, _⟩ := cellsS_ok hc β
        have ih := fillS_ok β (parts := rest) (cells := spl cells off vs) h
        rw [spl_vals] at ih
        simp only [pvals, List.map_cons, Instr.fill, hp, e1, List.size_toArray, vals_len]
        rw [if_neg (by simp [h1]; omega)]
        have e2 := fold_spl (off := off) (vals β vs) 0 (vals β cells) (by rw [vals_len, vals_len]; omega)
        rw [Nat.add_zero] at e2
        have e3 : (vals β vs).toArray.zipIdx.foldl (fun (cs : Array Value) (x : Value × Nat) => cs.setIfInBounds (off + x.2) x.1) (vals β cells).toArray = (splice (vals β cells) off (vals β vs)).toArray := by
          rw [← e2]
          simp
        exact (congrArg (fun a => Instr.fill place a (pvals β rest)) e3).trans ih
    · cases h
def bltS (P : Program) (t : TypeId) (parts : List (Nat × SV)) : Option (List SV) :=
  match P.info? t, P.underlying t with
  | some it, some (.array _ e) => (match it.zero, P.info? e with
    | some z, some ie => (match ofVl z.cells.toList with
      | some zs => fillS (fun i => some (i * ie.size, ie.size)) zs parts
      | none => none)
    | _, _ => none)
  | some it, some (.struct fields) => (match it.zero, fields.toList.mapM (fun f => (P.info? f.type).map fun i => (f.offset, i.size)) with
    | some z, some places => (match ofVl z.cells.toList with
      | some zs => fillS (places.toArray[·]?) zs parts
      | none => none)
    | _, _ => none)
  | _, _ => none
theorem bltS_ok {P : Program} {t : TypeId} {parts : List (Nat × SV)} {r : List SV} (h : bltS P t parts = some r) (β : Nat → Nat) (w : World) : (Instr.build t (pvals β parts).toArray).run P w = .ok (.agg (vals β r).toArray) w := by
  refine run_build w t _ _ ?_
  unfold bltS at h
  split at h
  · rename_i it n e h1 h2
    split at h
    · rename_i z ie h3 h4
      split at h
      · rename_i zs h5
        have := fillS_ok β h
        rw [ofVl_ok β h5] at this
        simp only [Program.built, h1, h2, h3, h4]
        simpa using this
      · cases h
    · cases h
  · rename_i it fields h1 h2
    split at h
    · rename_i z places h3 h4
      split at h
      · rename_i zs h5
        have := fillS_ok β h
        rw [ofVl_ok β h5] at this
        simp only [Program.built, h1, h2, h3, h4]
        simpa using this
      · cases h
    · cases h
  · cases h
end Go.Kt.V
