/-
  Own work: a map whose keys are structs or strings, read as a function. No program in sight.
-/
import Derived.Test.YtbklgfggodgddaaMap
import Derived.DeepKeys4
import Derived.WideKeyElems
namespace Go.Kt
open Go Go.RowKit Go.MapKept
open Go.WideMaps (KeyLaw)
set_option linter.unusedSimpArgs false
set_option linter.unusedVariables false

/-- block r is a map that reads as m -/
structure MapK (P : Program) (kt : TypeId) (w : World) (r : Nat) (m : Value → Option Value) : Prop where
  mem : ∃ es clock, w.heap[r]? = some (.map es clock) ∧ (∀ x, x ∈ es.toList → ∃ l, keyOf P kt x.key = some l) ∧ es.toList.Pairwise (fun x y => x.key ≠ y.key) ∧
    ∀ k v, m k = some v ↔ ∃ x, x ∈ es.toList ∧ x.key = k ∧ x.val = v
section
variable {P : Program} {w w' : World} {r : Nat} {m : Value → Option Value} {mty kt et : TypeId}
theorem MapK.keep (h : MapK P kt w r m) (hk : w'.heap[r]? = w.heap[r]?) : MapK P kt w' r m := by
  obtain ⟨es, c, h1, h2⟩ := h.mem
  exact ⟨es, c, hk.trans h1, h2⟩
theorem MapK.lt (h : MapK P kt w r m) : r < w.heap.size := by
  obtain ⟨es, c, h1, h2⟩ := h.mem
  exact (Array.getElem?_eq_some_iff.1 h1).1
theorem MapK.only (h : MapK P kt w r m) {bs : List Nat} (hO : Only bs w w') (hn : r ∉ bs) : MapK P kt w' r m := h.keep (hO.block r h.lt hn)
theorem MapK.make (w : World) : (Instr.makeMap mty none).run P w = .ok (.map (some w.heap.size)) (w.alloc (.map #[] 0)) ∧ MapK P kt (w.alloc (.map #[] 0)) w.heap.size (fun _ => none) ∧ Only [] w (w.alloc (.map #[] 0)) :=
  ⟨rfl, ⟨#[], 0, heap_alloc_new w _, by simp, by simp, by simp⟩, Only.alloc _ _⟩
theorem MapK.lookup (K : KeyLaw P kt) (hm : P.underlying mty = some (.map kt et)) {z : Value} (hz : ∀ w, (zeroValue et).run P w = .ok z w) (h : MapK P kt w r m) {k : Value} {l : Lit} (hk : keyOf P kt k = some l) :
    (Instr.lookup mty (.map (some r)) k false).run P w = .ok ((m k).getD z) w := by
  obtain ⟨es, c, h1, h2, h3, h4⟩ := h.mem
  rcases K.find w hk es.toList h2 with ⟨g1, g2⟩ | ⟨j, e, g1, g2, g3⟩
  · have hn : m k = none := by
      cases hmk : m k with
      | none => rfl
      | some v =>
        obtain ⟨x, hx, hk, _⟩ := (h4 k v).1 hmk
        exact absurd hk (g2 x hx)
    simp [Instr.lookup, run_underlying hm, MapKept.run_getObj_map h1, K.check w _ hk, g1, Result.andThen, hz, hn]
  · have he := List.mem_of_getElem? g2
    have hmk : m k = some e.val := (h4 k e.val).2 ⟨e, he, g3, rfl⟩
    simp [Instr.lookup, run_underlying hm, MapKept.run_getObj_map h1, K.check w _ hk, g1, Result.andThen, hmk]
theorem MapK.update (K : KeyLaw P kt) (hm : P.underlying mty = some (.map kt et)) (h : MapK P kt w r m) {k v : Value} {l : Lit} (hk : keyOf P kt k = some l) :
    ∃ w', (Instr.mapUpdate mty (.map (some r)) k v).run P w = .ok () w' ∧ (∃ m', MapK P kt w' r m' ∧ m' k = some v ∧ ∀ x, x ≠ k → m' x = m x) ∧ Only [r] w w' := by
  obtain ⟨es, c, h1, h2, h3, h4⟩ := h.mem
  have fin : ∀ {es' : Array MapEntry} {c' : Nat}, (∀ x, x ∈ es'.toList → ∃ l, keyOf P kt x.key = some l) → es'.toList.Pairwise (fun x y => x.key ≠ y.key) →
      (∀ k' v', (∃ x, x ∈ es'.toList ∧ x.key = k' ∧ x.val = v') ↔ (k' = k ∧ v' = v) ∨ (k' ≠ k ∧ m k' = some v')) → ∀ w', w'.heap[r]? = some (.map es' c') → ∃ m', MapK P kt w' r m' ∧ m' k = some v ∧ ∀ x, x ≠ k → m' x = m x := by
    intro es' c' e1 e2 e3 w' hw
    refine ⟨fun x => open Classical in if x = k then some v else m x, ⟨es', c', hw, e1, e2, fun k' v' => ?_⟩, by simp, fun x hx => by simp [hx]⟩
    rw [e3]
    by_cases hkk : k' = k
    · simp only [hkk, if_true, Option.some.injEq, true_and, ne_eq, not_true_eq_false, false_and, or_false]
      exact ⟨fun h => h.symm, fun h => h.symm⟩
    · simp only [if_neg hkk, hkk, false_and, false_or, ne_eq, not_false_eq_true, true_and, if_false]
  rcases K.find w hk es.toList h2 with ⟨g1, g2⟩ | ⟨j, e, g1, g2, g3⟩
  · refine ⟨{ w with heap := w.heap.setIfInBounds r (.map (es.push { key := k, val := v, born := c }) (c + 1)) }, ?_, fin ?_ ?_ ?_ _ (heap_set h1).1, only_set h1⟩
    · simp [Instr.mapUpdate, run_underlying hm, MapKept.run_getObj_map h1, K.check w false hk, g1, MapKept.run_setObj_map _ h1, Result.andThen]
    · intro x hx
      simp only [Array.toList_push, List.mem_append, List.mem_singleton] at hx
      rcases hx with hx | rfl
      · exact h2 x hx
      · exact ⟨l, hk⟩
    · rw [Array.toList_push, List.pairwise_append]
      exact ⟨h3, by simp, fun x hx y hy => by simp only [List.mem_singleton] at hy; rw [hy]; exact g2 x hx⟩
    · intro k' v'
      simp only [Array.toList_push, List.mem_append, List.mem_singleton]
      constructor
      · rintro ⟨x, hx | rfl, e1, e2⟩
        · exact .inr ⟨fun h => g2 x hx (e1.trans h), (h4 k' v').2 ⟨x, hx, e1, e2⟩⟩
        · exact .inl ⟨e1.symm, e2.symm⟩
      · rintro (⟨rfl, rfl⟩ | ⟨hn, h⟩)
        · exact ⟨_, .inr rfl, rfl, rfl⟩
        · obtain ⟨x, hx, e1, e2⟩ := (h4 k' v').1 h
          exact ⟨x, .inl hx, e1, e2⟩
  · have hj : es[j]? = some e := by simpa using g2
    have hjl : j < es.toList.length := (List.getElem?_eq_some_iff.1 g2).1
    refine ⟨{ w with heap := w.heap.setIfInBounds r (.map (es.modify j fun e => { e with key := k, val := v }) c) }, ?_, fin ?_ ?_ ?_ _ (heap_set h1).1, only_set h1⟩
    · simp [Instr.mapUpdate, run_underlying hm, MapKept.run_getObj_map h1, K.check w false hk, g1, hj, g3, K.stays w hk, MapKept.run_setObj_map _ h1, Result.andThen]
    all_goals rw [Array.toList_modify, modify_set g2]
    · intro x hx
      rcases List.mem_or_eq_of_mem_set hx with hx | rfl
      · exact h2 x hx
      · exact ⟨l, hk⟩
    · have : (es.toList.set j { e with key := k, val := v }).map (·.key) = es.toList.map (·.key) := by
        rw [List.map_set]
        apply List.ext_getElem?
        intro i
        rw [List.getElem?_set]
        split
        · rename_i hi
          subst hi
          rw [List.length_map, if_pos hjl, List.getElem?_map, g2]
          simp [g3]
        · rfl
      have h5 : (es.toList.map (·.key)).Pairwise (· ≠ ·) := List.pairwise_map.2 h3
      rw [← this] at h5
      exact List.pairwise_map.1 h5
    · intro k' v'
      constructor
      · rintro ⟨x, hx, e1, e2⟩
        obtain ⟨i, hi⟩ := List.getElem?_of_mem hx
        rw [List.getElem?_set] at hi
        split at hi
        · injection hi with hi
          rw [← hi] at e1 e2
          exact .inl ⟨e1.symm, e2.symm⟩
        · rename_i hij
          have hxm := List.mem_of_getElem? hi
          by_cases hkk : k' = k
          · have hil := (List.getElem?_eq_some_iff.1 hi).1
            have hne := List.pairwise_iff_getElem.1 h3
            have ex := (List.getElem?_eq_some_iff.1 hi).2
            have ee := (List.getElem?_eq_some_iff.1 g2).2
            exfalso
            rcases Nat.lt_or_gt_of_ne hij with hlt | hgt
            · exact hne j i hjl hil hlt (by rw [ee, ex, g3, e1, hkk])
            · exact hne i j hil hjl hgt (by rw [ee, ex, g3, e1, hkk])
          · exact .inr ⟨hkk, (h4 k' v').2 ⟨x, hxm, e1, e2⟩⟩
      · rintro (⟨rfl, rfl⟩ | ⟨hn, h⟩)
        · exact ⟨_, List.mem_set hjl _, rfl, rfl⟩
        · obtain ⟨x, hx, e1, e2⟩ := (h4 k' v').1 h
          obtain ⟨i, hi⟩ := List.getElem?_of_mem hx
          refine ⟨x, List.mem_of_getElem? (i := i) ?_, e1, e2⟩
          rw [List.getElem?_set_ne]
          · exact hi
          · rintro rfl
            rw [g2] at hi
            injection hi with hi
            rw [← hi, g3] at e1
            exact hn e1.symm
/-- a struct of plain fields as a key -/
theorem keyOf_st {k : TypeId} {fs : Array Field} (hu : P.underlying k = some (.struct fs)) (hk : P.keyType k = true) {cells : List Value} (hl : cells.length = P.cellsOf k) (hn : fs.all (·.name != "_") = true) {ls : List (List Lit)}
    (h : fs.toList.mapM (fun f => P.keyLits P.types.size f.type ((cells.drop f.offset).take (P.cellsOf f.type))) = some ls) : keyOf P k (.agg cells.toArray) = some (.string (keyBytes ls.flatten)) := by
  have h1 : P.keyLits (P.types.size + 1) k cells = some ls.flatten := by
    unfold Program.keyLits
    simp only [hu]
    rw [if_pos ⟨hl, hn⟩, h]; rfl
  unfold keyOf
  simp only [hu, hk]
  rw [if_pos (by simp [Value.formed, hu, hl])]
  simp only [Value.cells, List.toList_toArray, h1, Option.map_some]
theorem kl_int {d : Nat} {t : TypeId} (ht : P.underlying t = some (.int .i64)) (hd : 0 < d) {x : Int} (hx : InI x) : P.keyLits d t [.int .i64 x] = some [.int .i64 x] := by
  obtain ⟨d, rfl⟩ : ∃ e, d = e + 1 := ⟨d - 1, by omega⟩
  unfold Program.keyLits
  simp only [ht]
  rw [if_pos]
  refine ⟨trivial, ?_⟩
  obtain ⟨a, b⟩ := hx
  simp only [Lit.wf, Bool.and_eq_true, decide_eq_true_eq]
  exact ⟨a, b⟩
end
end Go.Kt
