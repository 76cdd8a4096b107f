
/-
  Own work: a map from numbers to numbers, read as a function. No program in sight.
-/
import Derived.Test.YtmanockofcopjaaGreatDoorFrame
import Derived.MapKept
namespace Go.Kt
open Go Go.RowKit Go.MapKept
set_option linter.unusedSimpArgs false
set_option linter.unusedVariables false

/-- block r is a map that reads as m -/
structure MapI (w : World) (r : Nat) (m : Int → Option Int) : Prop where
  mem : ∃ es clock, w.heap[r]? = some (.map es clock) ∧ (∀ x, x ∈ es.toList → ∃ k v, x.key = .int .i64 k ∧ x.val = .int .i64 v) ∧ es.toList.Pairwise (fun x y => x.key ≠ y.key) ∧
    ∀ k v, m k = some v ↔ ∃ x, x ∈ es.toList ∧ x.key = .int .i64 k ∧ x.val = .int .i64 v
section
variable {P : Program} {w w' : World} {r : Nat} {m : Int → Option Int} {mty kt et : TypeId}
theorem MapI.keep (h : MapI w r m) (hk : w'.heap[r]? = w.heap[r]?) : MapI w' r m := by
  obtain ⟨es, c, h1, h2⟩ := h.mem
  exact ⟨es, c, hk.trans h1, h2⟩
theorem MapI.lt (h : MapI w r m) : r < w.heap.size := by
  obtain ⟨es, c, h1, h2⟩ := h.mem
  exact (Array.getElem?_eq_some_iff.1 h1).1
theorem MapI.only (h : MapI w r m) {bs : List Nat} (hO : Only bs w w') (hn : r ∉ bs) : MapI w' r m := h.keep (hO.block r h.lt hn)
theorem isKeyI (k : Int) : IsKey (.int .i64) (.int .i64 k) := by simp [IsKey]
theorem MapI.make (w : World) : (Instr.makeMap mty none).run P w = .ok (.map (some w.heap.size)) (w.alloc (.map #[] 0)) ∧ MapI (w.alloc (.map #[] 0)) w.heap.size (fun _ => none) ∧ Only [] w (w.alloc (.map #[] 0)) :=
  ⟨rfl, ⟨#[], 0, heap_alloc_new w _, by simp, by simp, by simp⟩, Only.alloc _ _⟩
theorem keysI {es : Array MapEntry} (h : ∀ x, x ∈ es.toList → ∃ k v, x.key = .int .i64 k ∧ x.val = .int .i64 v) : ∀ x ∈ es.toList, IsKey (.int .i64) x.key := fun x hx => by
  obtain ⟨k, v, e, _⟩ := h x hx
  rw [e]; exact isKeyI k
theorem MapI.lookup (hm : P.underlying mty = some (.map kt et)) (hd : P.underlying kt = some (.int .i64)) (hz : ∀ w, (zeroValue et).run P w = .ok (.int .i64 0) w) (h : MapI w r m) (k : Int) :
    (Instr.lookup mty (.map (some r)) (.int .i64 k) true).run P w = .ok (.tuple #[.int .i64 ((m k).getD 0), .bool (m k).isSome]) w := by
  obtain ⟨es, c, h1, h2, h3, h4⟩ := h.mem
  rcases findNow_spec (isKeyI k) es.toList 0 (keysI h2) with ⟨g1, g2⟩ | ⟨j, e, g1, g2, g3⟩
  · have hn : m k = none := by
      cases hmk : m k with
      | none => rfl
      | some v =>
        obtain ⟨x, hx, hk, _⟩ := (h4 k v).1 hmk
        exact absurd hk (g2 x hx)
    simp [Instr.lookup, run_underlying hm, MapKept.run_getObj_map h1, MapKept.run_checkKey hd (isKeyI k), MapKept.run_findKey hd g1, Result.andThen, hz, hn]
  · have he := List.mem_of_getElem? g2
    obtain ⟨k', v, e1, e2⟩ := h2 e he
    have hmk : m k = some v := (h4 k v).2 ⟨e, he, g3, e2⟩
    simp [Instr.lookup, run_underlying hm, MapKept.run_getObj_map h1, MapKept.run_checkKey hd (isKeyI k), MapKept.run_findKey hd g1, Result.andThen, hmk, e2]
theorem only_set {w : World} {r : Nat} {o o' : Obj} (hb : w.heap[r]? = some o) : Only [r] w { w with heap := w.heap.setIfInBounds r o' } :=
  ⟨rfl, rfl, rfl, by simp, fun k _ hn => (heap_set hb).2 k (by simpa using hn)⟩
theorem MapI.delete (hm : P.underlying mty = some (.map kt et)) (hd : P.underlying kt = some (.int .i64)) (h : MapI w r m) (k : Int) (ty : TypeId) :
    ∃ w', (Builtin.delete_ #[mty, kt] ty #[.map (some r), .int .i64 k]).run P w = .ok (.tuple #[]) w' ∧ MapI w' r (fun x => if x = k then none else m x) ∧ Only [r] w w' := by
  obtain ⟨es, c, h1, h2, h3, h4⟩ := h.mem
  rcases findNow_spec (isKeyI k) es.toList 0 (keysI h2) with ⟨g1, g2⟩ | ⟨j, e, g1, g2, g3⟩
  · refine ⟨{ w with heap := w.heap.setIfInBounds r (.map es c) }, ?_, ⟨_, _, (heap_set h1).1, h2, h3, ?_⟩, only_set h1⟩
    · simp [Builtin.delete_, run_underlying hm, MapKept.run_getObj_map h1, MapKept.run_checkKey hd (isKeyI k), MapKept.run_findKey hd g1, MapKept.run_setObj_map _ h1, Result.andThen]
    · intro k' v'
      by_cases hk : k' = k
      · subst hk
        simp only [if_true]
        constructor
        · intro h; cases h
        · rintro ⟨x, hx, e1, _⟩
          exact absurd e1 (g2 x hx)
      · rw [if_neg hk, h4]
  · have hjl : j < es.toList.length := (List.getElem?_eq_some_iff.1 g2).1
    have hje := (List.getElem?_eq_some_iff.1 g2).2
    have hes : (es.eraseIdxIfInBounds j).toList = es.toList.eraseIdx j := by
      unfold Array.eraseIdxIfInBounds
      rw [dif_pos (by simpa using hjl), Array.toList_eraseIdx]
    refine ⟨{ w with heap := w.heap.setIfInBounds r (.map (es.eraseIdxIfInBounds j) c) }, ?_, ⟨_, _, (heap_set h1).1, ?_, ?_, ?_⟩, only_set h1⟩
    · simp [Builtin.delete_, run_underlying hm, MapKept.run_getObj_map h1, MapKept.run_checkKey hd (isKeyI k), MapKept.run_findKey hd g1, MapKept.run_setObj_map _ h1, Result.andThen]
    · rw [hes]
      exact fun x hx => h2 x ((List.eraseIdx_sublist _ _).subset hx)
    · rw [hes]
      exact h3.sublist (List.eraseIdx_sublist _ _)
    · intro k' v'
      rw [hes]
      have hne := List.pairwise_iff_getElem.1 h3
      by_cases hk : k' = k
      · subst hk
        simp only [if_true]
        constructor
        · intro h; cases h
        · rintro ⟨x, hx, e1, _⟩
          rw [List.mem_eraseIdx_iff_getElem] at hx
          obtain ⟨i, hi, hij, hxe⟩ := hx
          rcases Nat.lt_or_gt_of_ne hij with hlt | hgt
          · exact absurd (by rw [hje, hxe, e1, g3]) (hne i j hi hjl hlt)
          · exact absurd (by rw [hje, hxe, e1, g3]) (hne j i hjl hi hgt)
      · rw [if_neg hk, h4]
        constructor
        · rintro ⟨x, hx, e1, e2⟩
          refine ⟨x, ?_, e1, e2⟩
          rw [List.mem_eraseIdx_iff_getElem]
          obtain ⟨i, hi, hxe⟩ := List.getElem_of_mem hx
          refine ⟨i, hi, ?_, hxe⟩
          rintro rfl
          rw [hje] at hxe
          rw [← hxe, g3] at e1
          simp only [Value.int.injEq, true_and] at e1
          exact hk e1.symm
        · rintro ⟨x, hx, e1, e2⟩
          exact ⟨x, (List.eraseIdx_sublist _ _).subset hx, e1, e2⟩
end
end Go.Kt
