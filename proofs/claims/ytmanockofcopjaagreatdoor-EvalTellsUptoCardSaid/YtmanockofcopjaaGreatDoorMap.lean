/-
  Own work: a map from numbers to numbers, read as a function. No program in sight.
-/
import Derived.Test.YtmanockofcopjaaGreatDoorFrame
import Derived.MapKept
namespace Go.Kt
open Go Go.RowKit Go.MapKept
set_option linter.unusedSimpArgs false
set_option linter.unusedVariables false

/-- block r is a map that reads as m -/
structure MapI (w : World) (r : Nat) (m : Int → Option Int) : Prop where
  mem : ∃ es clock, w.heap[r]? = some (.map es clock) ∧ (∀ x, x ∈ es.toList → ∃ k v, x.key = .int .i64 k ∧ x.val = .int .i64 v) ∧ es.toList.Pairwise (fun x y => x.key ≠ y.key) ∧
    ∀ k v, m k = some v ↔ ∃ x, x ∈ es.toList ∧ x.key = .int .i64 k ∧ x.val = .int .i64 v
section
variable {P : Program} {w w' : World} {r : Nat} {m : Int → Option Int} {mty kt et : TypeId}
theorem MapI.keep (h : MapI w r m) (hk : w'.heap[r]? = w.heap[r]?) : MapI w' r m := by
  obtain ⟨es, c, h1, h2⟩ := h.mem
  exact ⟨es, c, hk.trans h1, h2⟩
theorem MapI.lt (h : MapI w r m) : r < w.heap.size := by
  obtain ⟨es, c, h1, h2⟩ := h.mem
  exact (Array.getElem?_eq_some_iff.1 h1).1
theorem MapI.only (h : MapI w r m) {bs : List Nat} (hO : Only bs w w') (hn : r ∉ bs) : MapI w' r m := h.keep (hO.block r h.lt hn)
theorem isKeyI (k : Int) : IsKey (.int .i64) (.int .i64 k) := by simp [IsKey]
theorem MapI.make (w : World) : (Instr.makeMap mty none).run P w = .ok (.map (some w.heap.size)) (w.alloc (.map #[] 0)) ∧ MapI (w.alloc (.map #[] 0)) w.heap.size (fun _ => none) ∧ Only [] w (w.alloc (.map #[] 0)) :=
  ⟨rfl, ⟨#[], 0, heap_alloc_new w _, by simp, by simp, by simp⟩, Only.alloc _ _⟩
theorem keysI {es : Array MapEntry} (h : ∀ x, x ∈ es.toList → ∃ k v, x.key = .int .i64 k ∧ x.val = .int .i64 v) : ∀ x ∈ es.toList, IsKey (.int .i64) x.key := fun x hx => by
  obtain ⟨k, v, e, _⟩ := h x hx
  rw [e]; exact isKeyI k
theorem uniqI {l : List MapEntry} (h : l.Pairwise fun x y => x.key ≠ y.key) {x y : MapEntry} (hx : x ∈ l) (hy : y ∈ l) (hk : x.key = y.key) : x = y := by
  induction l with
  | nil => simp at hx
  | cons z l ih =>
    obtain ⟨h1, h2⟩ := List.pairwise_cons.1 h
    rcases List.mem_cons.1 hx with hx1 | hx1 <;> rcases List.mem_cons.1 hy with hy1 | hy1
    · rw [hx1, hy1]
    · rw [hx1] at hk
      exact absurd hk (h1 y hy1)
    · rw [hy1] at hk
      exact absurd hk.symm (h1 x hx1)
    · exact ih h2 hx1 hy1
theorem MapI.lookup (hm : P.underlying mty = some (.map kt et)) (hd : P.underlying kt = some (.int .i64)) (hz : ∀ w, (zeroValue et).run P w = .ok (.int .i64 0) w) (h : MapI w r m) (k : Int) :
    (Instr.lookup mty (.map (some r)) (.int .i64 k) true).run P w = .ok (.tuple #[.int .i64 ((m k).getD 0), .bool (m k).isSome]) w := by
  obtain ⟨es, c, h1, h2, h3, h4⟩ := h.mem
  rcases findNow_spec (isKeyI k) es.toList 0 (keysI h2) with ⟨g1, g2⟩ | ⟨j, e, g1, g2, g3⟩
  · have hn : m k = none := by
      cases hmk : m k with
      | none => rfl
      | some v =>
        obtain ⟨x, hx, hk, _⟩ := (h4 k v).1 hmk
        exact absurd hk (g2 x hx)
    simp [Instr.lookup, run_underlying hm, MapKept.run_getObj_map h1, MapKept.run_checkKey hd (isKeyI k), MapKept.run_findKey hd g1, Result.andThen, hz, hn]
  · have he := List.mem_of_getElem? g2
    obtain ⟨k', v, e1, e2⟩ := h2 e he
    have hmk : m k = some v := (h4 k v).2 ⟨e, he, g3, e2⟩
    simp [Instr.lookup, run_underlying hm, MapKept.run_getObj_map h1, MapKept.run_checkKey hd (isKeyI k), MapKept.run_findKey hd g1, Result.andThen, hmk, e2]
theorem only_set {w : World} {r : Nat} {o o' : Obj} (hb : w.heap[r]? = some o) : Only [r] w { w with heap := w.heap.setIfInBounds r o' } :=
  ⟨rfl, rfl, rfl, by simp, fun k _ hn => (heap_set hb).2 k (by simpa using hn)⟩
theorem modify_set {α : Type} {l : List α} {j : Nat} {f : α → α} {e : α} (h : l[j]? = some e) : l.modify j f = l.set j (f e) := by
  apply List.ext_getElem?
  intro i
  rw [List.getElem?_modify, List.getElem?_set]
  by_cases hij : j = i
  · subst hij
    rw [if_pos rfl, if_pos (List.getElem?_eq_some_iff.1 h).1, h]
    simp
  · rw [if_neg hij]
    cases l[i]? <;> simp [hij]
theorem MapI.update (hm : P.underlying mty = some (.map kt et)) (hd : P.underlying kt = some (.int .i64)) (h : MapI w r m) (k v : Int) :
    ∃ w', (Instr.mapUpdate mty (.map (some r)) (.int .i64 k) (.int .i64 v)).run P w = .ok () w' ∧ MapI w' r (fun x => if x = k then some v else m x) ∧ Only [r] w w' := by
  obtain ⟨es, c, h1, h2, h3, h4⟩ := h.mem
  rcases findNow_spec (isKeyI k) es.toList 0 (keysI h2) with ⟨g1, g2⟩ | ⟨j, e, g1, g2, g3⟩
  · refine ⟨{ w with heap := w.heap.setIfInBounds r (.map (es.push { key := .int .i64 k, val := .int .i64 v, born := c }) (c + 1)) }, ?_, ⟨_, _, (heap_set h1).1, ?_, ?_, ?_⟩, only_set h1⟩
    · simp [Instr.mapUpdate, run_underlying hm, MapKept.run_getObj_map h1, MapKept.run_checkKey hd (isKeyI k), MapKept.run_findKey hd g1, MapKept.run_setObj_map _ h1, Result.andThen]
    · intro x hx
      simp only [Array.toList_push, List.mem_append, List.mem_singleton] at hx
      rcases hx with hx | rfl
      · exact h2 x hx
      · exact ⟨k, v, rfl, rfl⟩
    · rw [Array.toList_push, List.pairwise_append]
      exact ⟨h3, by simp, fun x hx y hy => by simp only [List.mem_singleton] at hy; rw [hy]; exact g2 x hx⟩
    · intro k' v'
      simp only [Array.toList_push, List.mem_append, List.mem_singleton]
      by_cases hk : k' = k
      · subst hk
        simp only [if_true, Option.some.injEq]
        constructor
        · rintro rfl
          exact ⟨_, .inr rfl, rfl, rfl⟩
        · rintro ⟨x, hx | rfl, e1, e2⟩
          · exact absurd e1 (g2 x hx)
          · simpa using e2
      · rw [if_neg hk, h4]
        constructor
        · rintro ⟨x, hx, e1, e2⟩
          exact ⟨x, .inl hx, e1, e2⟩
        · rintro ⟨x, hx | rfl, e1, e2⟩
          · exact ⟨x, hx, e1, e2⟩
          · simp only [Value.int.injEq, true_and] at e1
            exact absurd e1.symm hk
  · have hj : es[j]? = some e := by simpa using g2
    have hjl : j < es.toList.length := (List.getElem?_eq_some_iff.1 g2).1
    refine ⟨{ w with heap := w.heap.setIfInBounds r (.map (es.modify j fun e => { e with key := .int .i64 k, val := .int .i64 v }) c) }, ?_, ⟨_, _, (heap_set h1).1, ?_, ?_, ?_⟩, only_set h1⟩
    · simp [Instr.mapUpdate, run_underlying hm, MapKept.run_getObj_map h1, MapKept.run_checkKey hd (isKeyI k), MapKept.run_findKey hd g1, hj, g3, MapKept.run_keyThatStays (isKeyI k), MapKept.run_setObj_map _ h1, Result.andThen]
    all_goals rw [Array.toList_modify, modify_set g2]
    · intro x hx
      rcases List.mem_or_eq_of_mem_set hx with hx | rfl
      · exact h2 x hx
      · exact ⟨k, v, rfl, rfl⟩
    · have : (es.toList.set j { e with key := .int .i64 k, val := .int .i64 v }).map (·.key) = es.toList.map (·.key) := by
        rw [List.map_set]
        apply List.ext_getElem?
        intro i
        rw [List.getElem?_set]
        split
        · rename_i hi
          subst hi
          rw [List.length_map, if_pos hjl, List.getElem?_map, g2]
          simp [g3]
        · rfl
      have h5 : (es.toList.map (·.key)).Pairwise (· ≠ ·) := List.pairwise_map.2 h3
      rw [← this] at h5
      exact List.pairwise_map.1 h5
    · intro k' v'
      by_cases hk : k' = k
      · subst hk
        simp only [if_true, Option.some.injEq]
        constructor
        · rintro rfl
          exact ⟨_, List.mem_set hjl _, rfl, rfl⟩
        · rintro ⟨x, hx, e1, e2⟩
          obtain ⟨i, hi⟩ := List.getElem?_of_mem hx
          rw [List.getElem?_set] at hi
          split at hi
          · injection hi with hi
            rw [← hi] at e2
            simpa using e2
          · rename_i hij
            have hxm := List.mem_of_getElem? hi
            have := uniqI h3 hxm (List.mem_of_getElem? g2) (by rw [e1, g3])
            subst this
            have hil := (List.getElem?_eq_some_iff.1 hi).1
            have hne := List.pairwise_iff_getElem.1 h3
            rcases Nat.lt_or_gt_of_ne hij with hlt | hgt
            · exact absurd (by rw [(List.getElem?_eq_some_iff.1 g2).2, (List.getElem?_eq_some_iff.1 hi).2]) (hne j i hjl hil hlt)
            · exact absurd (by rw [(List.getElem?_eq_some_iff.1 g2).2, (List.getElem?_eq_some_iff.1 hi).2]) (hne i j hil hjl hgt)
      · rw [if_neg hk, h4]
        constructor
        · rintro ⟨x, hx, e1, e2⟩
          obtain ⟨i, hi⟩ := List.getElem?_of_mem hx
          refine ⟨x, List.mem_of_getElem? (i := i) ?_, e1, e2⟩
          rw [List.getElem?_set_ne]
          · exact hi
          · rintro rfl
            rw [g2] at hi
            injection hi with hi
            rw [← hi, g3] at e1
            simp only [Value.int.injEq, true_and] at e1
            exact hk e1.symm
        · rintro ⟨x, hx, e1, e2⟩
          rcases List.mem_or_eq_of_mem_set hx with hx | rfl
          · exact ⟨x, hx, e1, e2⟩
          · simp only [Value.int.injEq, true_and] at e1
            exact absurd e1.symm hk
theorem MapI.delete (hm : P.underlying mty = some (.map kt et)) (hd : P.underlying kt = some (.int .i64)) (h : MapI w r m) (k : Int) (ty : TypeId) :
    ∃ w', (Builtin.delete_ #[mty, kt] ty #[.map (some r), .int .i64 k]).run P w = .ok (.tuple #[]) w' ∧ MapI w' r (fun x => if x = k then none else m x) ∧ Only [r] w w' := by
  obtain ⟨es, c, h1, h2, h3, h4⟩ := h.mem
  rcases findNow_spec (isKeyI k) es.toList 0 (keysI h2) with ⟨g1, g2⟩ | ⟨j, e, g1, g2, g3⟩
  · refine ⟨{ w with heap := w.heap.setIfInBounds r (.map es c) }, ?_, ⟨_, _, (heap_set h1).1, h2, h3, ?_⟩, only_set h1⟩
    · simp [Builtin.delete_, run_underlying hm, MapKept.run_getObj_map h1, MapKept.run_checkKey hd (isKeyI k), MapKept.run_findKey hd g1, MapKept.run_setObj_map _ h1, Result.andThen]
    · intro k' v'
      by_cases hk : k' = k
      · subst hk
        simp only [if_true]
        constructor
        · intro h; cases h
        · rintro ⟨x, hx, e1, _⟩
          exact absurd e1 (g2 x hx)
      · rw [if_neg hk, h4]
  · have hjl : j < es.toList.length := (List.getElem?_eq_some_iff.1 g2).1
    have hje := (List.getElem?_eq_some_iff.1 g2).2
    have hes : (es.eraseIdxIfInBounds j).toList = es.toList.eraseIdx j := by
      unfold Array.eraseIdxIfInBounds
      rw [dif_pos (by simpa using hjl), Array.toList_eraseIdx]
    refine ⟨{ w with heap := w.heap.setIfInBounds r (.map (es.eraseIdxIfInBounds j) c) }, ?_, ⟨_, _, (heap_set h1).1, ?_, ?_, ?_⟩, only_set h1⟩
    · simp [Builtin.delete_, run_underlying hm, MapKept.run_getObj_map h1, MapKept.run_checkKey hd (isKeyI k), MapKept.run_findKey hd g1, MapKept.run_setObj_map _ h1, Result.andThen]
    · rw [hes]
      exact fun x hx => h2 x ((List.eraseIdx_sublist _ _).subset hx)
    · rw [hes]
      exact h3.sublist (List.eraseIdx_sublist _ _)
    · intro k' v'
      rw [hes]
      have hne := List.pairwise_iff_getElem.1 h3
      by_cases hk : k' = k
      · subst hk
        simp only [if_true]
        constructor
        · intro h; cases h
        · rintro ⟨x, hx, e1, _⟩
          rw [List.mem_eraseIdx_iff_getElem] at hx
          obtain ⟨i, hi, hij, hxe⟩ := hx
          rcases Nat.lt_or_gt_of_ne hij with hlt | hgt
          · exact absurd (by rw [hje, hxe, e1, g3]) (hne i j hi hjl hlt)
          · exact absurd (by rw [hje, hxe, e1, g3]) (hne j i hjl hi hgt)
      · rw [if_neg hk, h4]
        constructor
        · rintro ⟨x, hx, e1, e2⟩
          refine ⟨x, ?_, e1, e2⟩
          rw [List.mem_eraseIdx_iff_getElem]
          obtain ⟨i, hi, hxe⟩ := List.getElem_of_mem hx
          refine ⟨i, hi, ?_, hxe⟩
          rintro rfl
          rw [hje] at hxe
          rw [← hxe, g3] at e1
          simp only [Value.int.injEq, true_and] at e1
          exact hk e1.symm
        · rintro ⟨x, hx, e1, e2⟩
          exact ⟨x, (List.eraseIdx_sublist _ _).subset hx, e1, e2⟩
end
end Go.Kt
