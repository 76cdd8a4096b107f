/-
  Own work: copy between rows, append of made zeros. No program in sight.
-/
import Derived.Test.YtbklgfggodgddaaFrame
import Derived.Laws.CopyRow
namespace Go.Kt
open Go Go.RowKit
set_option linter.unusedSimpArgs false
set_option linter.unusedVariables false
section
variable {P : Program} {w : World}
/- append of made zeros where there is no room -/
set_option maxRecDepth 20000 in
theorem run_append_zeros {t it ty e : TypeId} {i : TypeInfo} {z : Value} (ht : P.underlying t = some (.slice e)) (hit : P.underlying it = some (.int .i64)) (hi : P.info? e = some i) (hz : i.zero = some z)
    {b : Addr} {sLen sCap : Nat} {olds : List Value} (hlo : olds.length = sLen * i.size) (holds : ∀ j v, olds[j]? = some v → w.cell? (b.add j) = some v)
    {n : Nat} (hn0 : n * i.size ≠ 0) (hg : sCap < sLen + n) (h63 : sLen + n ≤ 9223372036854775807) (hby : n * i.bytes ≤ 281474976710656) (hfit : Builtin.nextslicecap (sLen + n) sCap * i.bytes ≤ 281474976710656) :
    (Builtin.append_ #[t, it] ty #[.slice (some b) sLen sCap, .int .i64 n]).run P w =
      .ok (.slice (some ⟨w.heap.size, 0, none⟩) (sLen + n) (grownCap w (sLen + n) sCap e))
        (w.drew.alloc (.cells (olds.toArray ++ Builtin.zeroCells z.cells n ++ Builtin.zeroCells z.cells (grownCap w (sLen + n) sCap e - (sLen + n))) e)) := by
  have hn : ¬ (sLen + n ≤ sCap) := by omega
  have h63' : ¬ (9223372036854775807 < ((sLen : Int) + (n : Int))) := by omega
  have h48' : ¬ (281474976710656 < Builtin.nextslicecap (sLen + n) sCap * i.bytes) := by omega
  have hwr : IntKind.i64.wrap (n : Int) = n := wr' (by omega) (by omega)
  have hb' : ¬ (281474976710656 < (n : Int) * (i.bytes : Int)) := by
    have : ((n * i.bytes : Nat) : Int) ≤ 281474976710656 := Int.ofNat_le.2 hby
    rw [Int.natCast_mul] at this; omega
  have hneg : ¬ ((n : Int) < 0) := by omega
  have hfo := run_firstCells_some (P := P) w.drew i.size sLen b sLen sCap olds hlo (by simpa using holds)
  simp [Builtin.append_, run_underlying ht, run_underlying hit, sizeOf, typeInfo, zeroValue, hi, hz, asInt, asIntOf, hwr, hneg, hb', hn, h63', h48', Question.forced, hfo, newRow, grownCap, hn0]
/-- copy into a row, from anywhere -/
theorem run_copy_n {dT sT ty e : TypeId} {i : TypeInfo} {g o dLen dCap : Nat} {a : Addr} {sLen sCap n : Nat} {cur : List Value} {t : TypeId} {cs : List Value}
    (hu : P.underlying dT = some (.slice e)) (hi : P.info? e = some i) (hg : Blk w g t cur) (hn : Nat.min sLen dLen = n) (hl : cs.length = n * i.size)
    (hsrc : Cells w a cs) (hfit : o + cs.length ≤ cur.length) (h1 : ∀ v ∈ cs, v.oneCell' = true) :
    ∃ w', (Builtin.copy_ #[dT, sT] ty #[.slice (some ⟨g, o, none⟩) dLen dCap, .slice (some a) sLen sCap]).run P w = .ok (.int .i64 n) w' ∧ Only [g] w w' ∧ Blk w' g t (cur.take o ++ cs ++ cur.drop (o + cs.length)) := by
  have hl' := run_loadCells_list (P := P) w a cs hsrc
  have hst := run_storeCells_at P g o t cs 0 cur.toArray w hg (by simpa using hfit) h1
  refine ⟨w.setRow g (cur.take o ++ cs ++ cur.drop (o + cs.length)).toArray, ?_, Only.setRow _ _ _, hg.setRow _⟩
  subst hn
  simp [Builtin.copy_, run_underlying hu, Builtin.lenOf, Builtin.firstCells, sizeOf, typeInfo, hi, ← hl, hl', hst, goInt]
theorem ins_grow {A T D Z more : List Value} (hz : Z.length = T.length + D.length) :
    (((A ++ Z ++ more).take A.length ++ T ++ (A ++ Z ++ more).drop (A.length + T.length)).take (A.length + T.length) ++ D ++ ((A ++ Z ++ more).take A.length ++ T ++ (A ++ Z ++ more).drop (A.length + T.length)).drop (A.length + T.length + D.length)) = A ++ T ++ D ++ more := by
  have e1 : (A ++ Z ++ more).take A.length = A := by rw [List.append_assoc, List.take_left]
  have e2 : (A ++ Z ++ more).drop (A.length + T.length) = Z.drop T.length ++ more := by
    rw [List.append_assoc, ← List.drop_drop, List.drop_left, List.drop_append_of_le_length (by omega)]
  rw [e1, e2]
  have e3 : A.length + T.length = (A ++ T).length := by simp
  rw [e3, List.take_left, ← List.drop_drop, List.drop_left, List.drop_append, List.drop_of_length_le (by simp; omega), List.nil_append, List.length_drop, hz]
  simp
theorem ins_room {A T D tl : List Value} (hm : T.length ≤ tl.length) :
    (((A ++ D ++ tl).take (A.length + T.length) ++ D ++ (A ++ D ++ tl).drop (A.length + T.length + D.length)).take A.length ++ T ++ ((A ++ D ++ tl).take (A.length + T.length) ++ D ++ (A ++ D ++ tl).drop (A.length + T.length + D.length)).drop (A.length + T.length)) = A ++ T ++ D ++ tl.drop T.length := by
  have e1 : ((A ++ D ++ tl).take (A.length + T.length)).length = A.length + T.length := by simp; omega
  have e2 : ((A ++ D ++ tl).take (A.length + T.length) ++ D ++ (A ++ D ++ tl).drop (A.length + T.length + D.length)).take A.length = A := by
    rw [List.append_assoc, List.take_append_of_le_length (by omega), List.take_take, Nat.min_eq_left (by omega), List.append_assoc, List.take_left]
  have e3 : ((A ++ D ++ tl).take (A.length + T.length) ++ D ++ (A ++ D ++ tl).drop (A.length + T.length + D.length)).drop (A.length + T.length) = D ++ tl.drop T.length := by
    rw [List.append_assoc, List.drop_left' e1]
    congr 1
    rw [show A.length + T.length + D.length = (A ++ D).length + T.length by simp; omega, ← List.drop_drop, List.drop_left]
  rw [e2, e3, List.append_assoc, List.append_assoc, List.append_assoc]
/-- append([]E{}, y...), in its two steps -/
theorem clone_two {α : Type} {r : Rp α} {size bytes : Nat} {F : Nat → Prop} {y : Sl} {ys : List α} {e t ty : TypeId} {i : TypeInfo} {z : Value} (ht : P.underlying t = some (.slice e)) (hi : P.info? e = some i) (hz : i.zero = some z) (hsize : i.size = size) (hby : i.bytes = bytes) (hzs : z.cells.size = size) (h0 : 0 < size)
    (hr : r.Ok) (hy : SliceF r size w F y ys) (hm : ys.length * bytes ≤ 140737488355328) (hb0 : 0 < bytes) :
    ∃ x1 w1, (Instr.buildSlice t 0 #[]).run P w = .ok (Sl.v x1) w1 ∧ Only [] w w1 ∧ ∃ x2 w2, (Builtin.append_ #[t, t] ty #[Sl.v x1, Sl.v y]).run P w1 = .ok (Sl.v x2) w2 ∧ Own r size e w.heap.size w2 F x2 ys ∧ OnlyP (fun k => w.heap.size ≤ k) w1 w2 := by
  have hO : Only [] w (w.alloc (.cells #[] e)) := Only.alloc _ _
  have hown : Own r size e w.heap.size (w.alloc (.cells #[] e)) (fun k => F k ∧ k < w.heap.size) (⟨some ⟨w.heap.size, 0, none⟩, 0, 0⟩ : Sl) [] :=
    .inr ⟨w.heap.size, [], [], rfl, Nat.le_refl _, Blk.alloc w e [], by simp, rfl, Nat.le_refl _, Nat.zero_le _, trivial⟩
  have hyk : SliceF r size (w.alloc (.cells #[] e)) (fun k => (F k ∧ k < w.heap.size) ∧ (⟨some ⟨w.heap.size, 0, none⟩, 0, 0⟩ : Sl).a ≠ some ⟨k, 0, none⟩) y ys :=
    ((hy.inHeap hr h0).keep hr h0 fun k _ hlt => hO.block k hlt (by simp)).mono hr fun k hk => ⟨hk, fun h => by
      injection h with h
      injection h with h
      have := hk.2
      omega⟩
  refine ⟨⟨some ⟨w.heap.size, 0, none⟩, 0, 0⟩, _, run_build0 w ht hi, hO, ?_⟩
  obtain ⟨s', w', g1, g2, gs, g3, g4, g5⟩ := app_own (ty := ty) ht hi hz hsize hby hzs hr hown hyk hO.size (by simpa using hm) hb0
  exact ⟨s', w', g1, (by simpa using g2.mono hr fun k hk => hk.1), g3.p fun g hg => .inl (g4 g hg).2.1⟩
end
end Go.Kt
