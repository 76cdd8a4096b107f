
/-
  Own work: rows that a function owns, what 'append' and a slice literal make of them. No program in sight.
-/
import Derived.Test.YtmanockofcopjaaGreatDoorRep
import Derived.Laws.AppendOwn
import Derived.Great.BuildSlice
namespace Go.Kt
open Go Go.RowKit
set_option linter.unusedSimpArgs false
set_option linter.unusedVariables false

/-- one to one -/
def All2 {α : Type} (P : α → List Value → Prop) : List α → List (List Value) → Prop
  | [], [] => True
  | x :: xs, c :: cs => P x c ∧ All2 P xs cs
  | _, _ => False
section
variable {α : Type} {P Q : α → List Value → Prop}
theorem All2.len : ∀ {xs : List α} {css : List (List Value)}, All2 P xs css → xs.length = css.length
  | [], [], _ => rfl
  | x :: xs, c :: cs, h => by simp [All2.len (xs := xs) (css := cs) h.2]
  | [], _ :: _, h => h.elim
  | _ :: _, [], h => h.elim
theorem All2.imp (hi : ∀ x c, P x c → Q x c) : ∀ {xs : List α} {css : List (List Value)}, All2 P xs css → All2 Q xs css
  | [], [], _ => trivial
  | x :: xs, c :: cs, h => ⟨hi _ _ h.1, All2.imp hi (xs := xs) (css := cs) h.2⟩
  | [], _ :: _, h => h.elim
  | _ :: _, [], h => h.elim
theorem All2.app : ∀ {xs ys : List α} {css dss : List (List Value)}, All2 P xs css → All2 P ys dss → All2 P (xs ++ ys) (css ++ dss)
  | [], _, [], _, _, k => k
  | x :: xs, _, c :: cs, _, h, k => ⟨h.1, All2.app (xs := xs) (css := cs) h.2 k⟩
  | [], _, _ :: _, _, h, _ => h.elim
  | _ :: _, _, [], _, h, _ => h.elim
theorem All2.get : ∀ {xs : List α} {css : List (List Value)}, All2 P xs css → ∀ {j : Nat} {x : α}, xs[j]? = some x → ∃ cs, css[j]? = some cs ∧ P x cs
  | [], [], _, j, x, h => by simp at h
  | y :: xs, c :: cs, k, 0, x, h => by
    simp only [List.getElem?_cons_zero, Option.some.injEq] at h
    subst h
    exact ⟨c, rfl, k.1⟩
  | y :: xs, c :: cs, k, j + 1, x, h => by
    simp only [List.getElem?_cons_succ] at h ⊢
    exact All2.get (xs := xs) (css := cs) k.2 h
  | [], _ :: _, h, _, _, _ => h.elim
  | _ :: _, [], h, _, _, _ => h.elim
theorem All2.mem : ∀ {xs : List α} {css : List (List Value)}, All2 P xs css → ∀ c, c ∈ css → ∃ x, P x c
  | [], [], _, c, h => by simp at h
  | y :: xs, d :: cs, k, c, h => by
    rcases List.mem_cons.1 h with rfl | h
    · exact ⟨y, k.1⟩
    · exact All2.mem (xs := xs) (css := cs) k.2 c h
  | [], _ :: _, h, _, _ => h.elim
  | _ :: _, [], h, _, _ => h.elim
theorem All2.take : ∀ (n : Nat) {xs : List α} {css : List (List Value)}, All2 P xs css → All2 P (xs.take n) (css.take n)
  | 0, _, _, _ => by simp [All2]
  | _ + 1, [], [], _ => by simp [All2]
  | n + 1, x :: xs, c :: cs, h => by simp only [List.take_succ_cons]; exact ⟨h.1, All2.take n (xs := xs) (css := cs) h.2⟩
  | _, [], _ :: _, h => h.elim
  | _, _ :: _, [], h => h.elim
theorem All2.drop : ∀ (n : Nat) {xs : List α} {css : List (List Value)}, All2 P xs css → All2 P (xs.drop n) (css.drop n)
  | 0, _, _, h => by simpa using h
  | _ + 1, [], [], _ => by simp [All2]
  | n + 1, x :: xs, c :: cs, h => by simp only [List.drop_succ_cons]; exact All2.drop n (xs := xs) (css := cs) h.2
  | _, [], _ :: _, h => h.elim
  | _, _ :: _, [], h => h.elim
theorem All2.set : ∀ {xs : List α} {css : List (List Value)} (j : Nat) {x : α} {c : List Value}, All2 P xs css → P x c → All2 P (xs.set j x) (css.set j c)
  | [], [], _, _, _, _, _ => by simp [All2]
  | y :: xs, d :: cs, 0, x, c, h, k => ⟨k, h.2⟩
  | y :: xs, d :: cs, j + 1, x, c, h, k => ⟨h.1, All2.set (xs := xs) (css := cs) j h.2 k⟩
  | [], _ :: _, _, _, _, h, _ => h.elim
  | _ :: _, [], _, _, _, h, _ => h.elim
end

theorem flat_len {css : List (List Value)} {size : Nat} (h : ∀ c, c ∈ css → c.length = size) : css.flatten.length = css.length * size := by
  induction css with
  | nil => simp
  | cons c cs ih =>
    rw [List.flatten_cons, List.length_append, h c (by simp), ih (fun d hd => h d (by simp [hd])), List.length_cons, Nat.add_mul]
    omega
theorem flat_at {css : List (List Value)} {size : Nat} (h : ∀ c, c ∈ css → c.length = size) : ∀ {j i : Nat} {cs : List Value} {v : Value}, css[j]? = some cs → cs[i]? = some v → css.flatten[j * size + i]? = some v := by
  induction css with
  | nil => intro j i cs v hj; simp at hj
  | cons c cs ih =>
    intro j i ds v hj hi
    have hc := h c (by simp)
    cases j with
    | zero =>
      simp only [List.getElem?_cons_zero, Option.some.injEq] at hj
      subst hj
      have hlt : i < c.length := (List.getElem?_eq_some_iff.1 hi).1
      simp only [Nat.zero_mul, Nat.zero_add, List.flatten_cons]
      rw [List.getElem?_append_left hlt]
      exact hi
    | succ j =>
      simp only [List.getElem?_cons_succ] at hj
      have := ih (fun d hd => h d (by simp [hd])) hj hi
      rw [List.flatten_cons, List.getElem?_append_right (by rw [hc, Nat.add_mul]; omega), hc]
      rw [show (j + 1) * size + i - size = j * size + i by rw [Nat.add_mul]; omega]
      exact this
theorem flat_take {css : List (List Value)} {size : Nat} (h : ∀ c, c ∈ css → c.length = size) : ∀ (n : Nat), css.flatten.take (n * size) = (css.take n).flatten := by
  induction css with
  | nil => intro n; simp
  | cons c cs ih =>
    intro n
    cases n with
    | zero => simp
    | succ n =>
      have hc := h c (by simp)
      rw [List.flatten_cons, List.take_succ_cons, List.flatten_cons, List.take_append, ← ih (fun d hd => h d (by simp [hd])), hc, show (n + 1) * size - size = n * size by rw [Nat.add_mul]; omega, List.take_of_length_le (by rw [hc, Nat.add_mul]; omega)]
section
variable {w w' : World} {a : Addr} {cs ds : List Value}
theorem Cells.app (h : Cells w a cs) (k : Cells w (a.add cs.length) ds) : Cells w a (cs ++ ds) := fun j v hj => by
  by_cases hlt : j < cs.length
  · rw [List.getElem?_append_left hlt] at hj
    exact h j v hj
  · rw [List.getElem?_append_right (by omega)] at hj
    have := k _ v hj
    rw [addr_add, show cs.length + (j - cs.length) = j by omega] at this
    exact this
theorem Cells.nil (w : World) (a : Addr) : Cells w a [] := fun j v hj => by simp at hj
theorem Cells.take (h : Cells w a cs) (n : Nat) : Cells w a (cs.take n) := fun j v hj => by
  rw [List.getElem?_take] at hj
  split at hj
  · exact h j v hj
  · cases hj
theorem Cells.left (h : Cells w a (cs ++ ds)) : Cells w a cs := fun j v hj => h j v (by
  have hlt : j < cs.length := (List.getElem?_eq_some_iff.1 hj).1
  rw [List.getElem?_append_left hlt]; exact hj)
end

section
variable {α : Type} {r : Rp α} {size : Nat} {w w' : World} {F G : Nat → Prop} {s y : Sl} {xs ys : List α} {e : TypeId} {B : Nat}
/-- each of these cells as it should be -/
abbrev Els (r : Rp α) (size : Nat) (w : World) (F : Nat → Prop) : List α → List (List Value) → Prop := All2 fun x cs => cs.length = size ∧ r w F x cs
theorem Els.sz {css : List (List Value)} (h : Els r size w F xs css) : ∀ c, c ∈ css → c.length = size := fun c hc => by
  obtain ⟨_, h1, _⟩ := h.mem c hc; exact h1
theorem Els.keep (hr : r.Ok) {css : List (List Value)} (h : Els r size w F xs css) (hk : ∀ k, F k → k < w.heap.size → w'.heap[k]? = w.heap[k]?) : Els r size w' F xs css :=
  h.imp fun _ _ h1 => ⟨h1.1, hr.keep h1.2 hk⟩
theorem Els.mono (hr : r.Ok) {css : List (List Value)} (h : Els r size w F xs css) (hk : ∀ k, F k → G k) : Els r size w G xs css :=
  h.imp fun _ _ h1 => ⟨h1.1, hr.mono h1.2 hk⟩
theorem Els.inHeap (hr : r.Ok) {css : List (List Value)} (h : Els r size w F xs css) : Els r size w (fun k => F k ∧ k < w.heap.size) xs css :=
  h.imp fun _ _ h1 => ⟨h1.1, hr.inHeap h1.2⟩

theorem SliceF.flatGo {base : Addr} : ∀ (xs : List α) (k : Nat), (∀ j x, xs[j]? = some x → ∃ cs, cs.length = size ∧ Cells w (base.add ((k + j) * size)) cs ∧ r w F x cs) →
    ∃ css, Els r size w F xs css ∧ Cells w (base.add (k * size)) css.flatten
  | [], k, _ => ⟨[], trivial, Cells.nil _ _⟩
  | x :: xs, k, h => by
    obtain ⟨cs, h1, h2, h3⟩ := h 0 x rfl
    obtain ⟨css, k1, k2⟩ := SliceF.flatGo xs (k + 1) (fun j y hj => by
      obtain ⟨ds, g1, g2, g3⟩ := h (j + 1) y (by simpa using hj)
      exact ⟨ds, g1, by rw [show k + 1 + j = k + (j + 1) by omega]; exact g2, g3⟩)
    refine ⟨cs :: css, ⟨⟨h1, h3⟩, k1⟩, ?_⟩
    rw [List.flatten_cons]
    refine Cells.app (by simpa using h2) ?_
    rw [addr_add, h1, show k * size + size = (k + 1) * size by rw [Nat.add_mul]; omega]
    exact k2
/-- a slice's cells all in a row -/
theorem SliceF.flat (h : SliceF r size w F s xs) (hx : xs ≠ []) : ∃ base css, s.a = some base ∧ F base.block ∧ Els r size w F xs css ∧ Cells w base css.flatten := by
  cases xs with
  | nil => exact absurd rfl hx
  | cons x xs =>
    obtain ⟨base, _, h1, h2, _⟩ := h.at_ 0 x rfl
    obtain ⟨css, k1, k2⟩ := SliceF.flatGo (r := r) (size := size) (w := w) (F := F) (base := base) (x :: xs) 0 (fun j y hj => by
      obtain ⟨b', cs, g1, g2, g3, g4, g5⟩ := h.at_ j y hj
      rw [h1] at g1
      injection g1 with g1
      subst g1
      exact ⟨cs, g3, by simpa using g4, g5⟩)
    exact ⟨base, css, h1, h2, k1, by rw [Nat.zero_mul, addr_zero] at k2; exact k2⟩
theorem SliceF.of {base : Addr} {css : List (List Value)} (he : Els r size w F xs css) (ha : s.a = some base) (hF : F base.block) (hc : Cells w base css.flatten) (hn : s.n = xs.length) (hc' : s.n ≤ s.c) (h63 : s.c ≤ 9223372036854775807) : SliceF r size w F s xs :=
  ⟨hn, hc', fun h => (by rw [ha] at h; cases h), h63, fun j x hx => by
    obtain ⟨cs, h1, h2, h3⟩ := he.get hx
    exact ⟨base, cs, ha, hF, h2, fun i v hi => by rw [addr_add]; exact hc _ v (flat_at he.sz h1 hi), h3⟩⟩

/-- a row of one's own: nothing, or a block (from B on) that holds nothing else and that none of its elements hangs on -/
def Own (r : Rp α) (size : Nat) (e : TypeId) (B : Nat) (w : World) (F : Nat → Prop) (s : Sl) (xs : List α) : Prop :=
  (s = Sl.nil ∧ xs = []) ∨ ∃ g css tail, s.a = some ⟨g, 0, none⟩ ∧ B ≤ g ∧ Blk w g e (css.flatten ++ tail) ∧ tail.length = (s.c - s.n) * size ∧ s.n = xs.length ∧ s.n ≤ s.c ∧ s.c ≤ 9223372036854775807 ∧ Els r size w (fun k => F k ∧ k ≠ g) xs css
theorem Own.len (h : Own r size e B w F s xs) : s.n = xs.length := by
  rcases h with ⟨rfl, rfl⟩ | ⟨g, css, tail, _, _, _, _, h, _⟩
  · rfl
  · exact h
theorem Own.cap (h : Own r size e B w F s xs) : s.n ≤ s.c := by
  rcases h with ⟨rfl, rfl⟩ | ⟨g, css, tail, _, _, _, _, _, h, _, _⟩
  · exact Nat.le_refl _
  · exact h
theorem Own.slice (hr : r.Ok) (h : Own r size e B w F s xs) : SliceF r size w (fun k => F k ∨ (B ≤ k ∧ s.a = some ⟨k, 0, none⟩)) s xs := by
  rcases h with ⟨rfl, rfl⟩ | ⟨g, css, tail, h1, h2, h4, h5, h6, h7, h9, h8⟩
  · exact SliceF.nil _ _ _ _
  · exact SliceF.of (h8.mono hr fun k hk => .inl hk.1) h1 (.inr ⟨h2, h1⟩) (h4.cells 0 _ fun j v hj => by
      rw [Nat.zero_add, List.getElem?_append_left (List.getElem?_eq_some_iff.1 hj).1]; exact hj) h6 h7 h9
theorem Own.keep (hr : r.Ok) (h : Own r size e B w F s xs) (hk : ∀ k, (F k ∨ (B ≤ k ∧ s.a = some ⟨k, 0, none⟩)) → k < w.heap.size → w'.heap[k]? = w.heap[k]?) : Own r size e B w' F s xs := by
  rcases h with ⟨rfl, rfl⟩ | ⟨g, css, tail, h1, h2, h4, h5, h6, h7, h9, h8⟩
  · exact .inl ⟨rfl, rfl⟩
  · exact .inr ⟨g, css, tail, h1, h2, (hk g (.inr ⟨h2, h1⟩) h4.lt).trans h4, h5, h6, h7, h9, h8.keep hr fun k hF => hk k (.inl hF.1)⟩
theorem Own.mono (hr : r.Ok) (h : Own r size e B w F s xs) (hk : ∀ k, F k → G k) : Own r size e B w G s xs := by
  rcases h with ⟨rfl, rfl⟩ | ⟨g, css, tail, h1, h2, h4, h5, h6, h7, h9, h8⟩
  · exact .inl ⟨rfl, rfl⟩
  · exact .inr ⟨g, css, tail, h1, h2, h4, h5, h6, h7, h9, h8.mono hr fun k h => ⟨hk k h.1, h.2⟩⟩
theorem Own.low {B' : Nat} (h : Own r size e B w F s xs) (hB : B' ≤ B) : Own r size e B' w F s xs := by
  rcases h with ⟨rfl, rfl⟩ | ⟨g, css, tail, h1, h2, h4⟩
  · exact .inl ⟨rfl, rfl⟩
  · exact .inr ⟨g, css, tail, h1, Nat.le_trans hB h2, h4⟩
theorem Own.nil (r : Rp α) (size : Nat) (e : TypeId) (B : Nat) (w : World) (F : Nat → Prop) : Own r size e B w F Sl.nil [] := .inl ⟨rfl, rfl⟩
theorem Own.inHeap (hr : r.Ok) (h : Own r size e B w F s xs) : Own r size e B w (fun k => F k ∧ k < w.heap.size) s xs := by
  rcases h with ⟨rfl, rfl⟩ | ⟨g, css, tail, h1, h2, h4, h5, h6, h7, h9, h8⟩
  · exact .inl ⟨rfl, rfl⟩
  · exact .inr ⟨g, css, tail, h1, h2, h4, h5, h6, h7, h9, (h8.inHeap hr).mono hr fun k h => ⟨⟨h.1.1, h.2⟩, h.1.2⟩⟩
theorem Own.blk (h : Own r size e B w F s xs) {ad : Addr} (ha : s.a = some ad) : B ≤ ad.block ∧ ad.block < w.heap.size := by
  rcases h with ⟨rfl, rfl⟩ | ⟨g, css, tail, h1, h2, h4, _⟩
  · cases ha
  · rw [h1] at ha
    injection ha with ha
    subst ha
    exact ⟨h2, h4.lt⟩

/-! ### append -/
/-- a slice's cells, all in a row, whatever it is -/
theorem SliceF.flat' (h : SliceF r size w F s xs) : ∃ css, Els r size w F xs css ∧ ∀ base, s.a = some base → Cells w base css.flatten := by
  cases xs with
  | nil => exact ⟨[], trivial, fun b _ => Cells.nil _ _⟩
  | cons x xs =>
    obtain ⟨base, css, h1, h2, h3, h4⟩ := h.flat (by simp)
    exact ⟨css, h3, fun b hb => by rw [h1] at hb; injection hb with hb; subst hb; exact h4⟩
theorem Els.flen {css : List (List Value)} (h : Els r size w F xs css) : css.flatten.length = xs.length * size := by rw [flat_len h.sz, h.len]
theorem Els.one (hr : r.Ok) {css : List (List Value)} (h : Els r size w F xs css) : ∀ v, v ∈ css.flatten → v.oneCell' = true := fun v hv => by
  obtain ⟨c, hc, hv⟩ := List.mem_flatten.1 hv
  obtain ⟨x, _, hx⟩ := h.mem c hc
  exact hr.one hx v hv
theorem toArr (l m : List Value) (z : Array Value) : (l.toArray ++ m.toArray ++ z) = (l ++ m ++ z.toList).toArray := by
  apply Array.ext'
  simp

section
variable {P : Program} {t ty : TypeId} {i : TypeInfo} {z : Value} {bytes : Nat}
theorem zero_len (w : World) (k : Nat) (hzs : z.cells.size = size) : (Builtin.zeroCells z.cells k).toList.length = k * size := by
  rw [Array.length_toList, size_zeroCells, hzs]
/-- append where there is no room: a new block; by the elements -/
theorem app_growE (ht : P.underlying t = some (.slice e)) (hi : P.info? e = some i) (hz : i.zero = some z) (hsize : i.size = size) (hby : i.bytes = bytes) (hzs : z.cells.size = size)
    (hr : r.Ok) {css : List (List Value)} (k1 : Els r size w F xs css) (k2 : ∀ base, s.a = some base → Cells w base css.flatten) (hs0 : s.a = none → s.c = 0) (hsl : s.n = xs.length) (hsc : s.n ≤ s.c)
    (hy : SliceF r size w F y ys) (hroom : s.c < s.n + y.n) (hm : (xs.length + ys.length) * bytes ≤ 140737488355328) (hb0 : 0 < bytes) :
    ∃ s' w', (Builtin.append_ #[t, t] ty #[s.v, y.v]).run P w = .ok s'.v w' ∧ Own r size e w.heap.size w' F s' (xs ++ ys) ∧ Only [] w w' ∧ s'.a = some ⟨w.heap.size, 0, none⟩ := by
  subst hsize
  subst hby
  have h63 : xs.length + ys.length ≤ 140737488355328 := Nat.le_trans (by have := Nat.mul_le_mul_left (xs.length + ys.length) hb0; omega) hm
  have hyl := hy.len
  have hyn : y.n ≠ 0 := by omega
  have hyx : ys ≠ [] := fun h => hyn (by rw [hyl, h]; rfl)
  obtain ⟨yb, dss, m1, m2, m3, m4⟩ := hy.flat hyx
  obtain ⟨sa, sn, sc⟩ := s
  obtain ⟨ya, yn, yc⟩ := y
  dsimp only at hsl hsc hs0 hyl hyn hroom m1 k2
  subst m1
  have hold : Only [] w w.drew := Only.drew w
  have key : ∀ (need old : Nat), need = sn + yn → ∀ W', W' = w.drew.alloc (.cells (css.flatten.toArray ++ dss.flatten.toArray ++ Builtin.zeroCells z.cells (grownCap w need old e - need)) e) →
      Own r i.size e w.heap.size W' F ⟨some ⟨w.heap.size, 0, none⟩, need, grownCap w need old e⟩ (xs ++ ys) ∧ Only [] w W' := by
    rintro need old rfl W' rfl
    have hO : Only [] w (w.drew.alloc (.cells (css.flatten.toArray ++ dss.flatten.toArray ++ Builtin.zeroCells z.cells (grownCap w (sn + yn) old e - (sn + yn))) e)) := hold.tr0 (Only.alloc _ _)
    refine ⟨.inr ⟨w.heap.size, css ++ dss, (Builtin.zeroCells z.cells (grownCap w (sn + yn) old e - (sn + yn))).toList, rfl, Nat.le_refl _, ?_, zero_len w _ hzs, ?_, grownCap_ge _ _ _ _, grownCap_le_maxLen _ _ _ _ (by simp only [maxLen]; omega), ?_⟩, hO⟩
    · rw [toArr, List.flatten_append]
      exact Blk.alloc w.drew e _
    · simp only [List.length_append]; omega
    · refine ((Els.mono hr (Els.inHeap hr (All2.app k1 m3)) (G := fun k => F k ∧ k ≠ w.heap.size) fun k h => ⟨h.1, by have := h.2; omega⟩)).keep hr fun k hk hlt => hO.block k hlt (by simp)
  cases sa with
  | none =>
    have hsc : sc = 0 := hs0 rfl
    subst hsc
    have hsn : sn = 0 := by omega
    subst hsn
    have hx : xs = [] := List.eq_nil_of_length_eq_zero hsl.symm
    subst hx
    cases css with
    | cons c css => exact k1.elim
    | nil =>
      have hrun := run_append_nil (P := P) w t ty e i z ht hi hz yb yn yc dss.flatten (by rw [m3.flen, hyl]) m4 (by omega) (by omega) (by
        have : (0 + ys.length) * i.bytes ≤ 140737488355328 := by simpa using hm
        rw [Nat.zero_add, ← hyl] at this; omega)
      obtain ⟨g1, g2⟩ := key yn 0 (by simp) _ rfl
      exact ⟨⟨some ⟨w.heap.size, 0, none⟩, yn, grownCap w yn 0 e⟩, _, hrun, by simpa using g1, by simpa using g2, rfl⟩
  | some b =>
    have hrun := run_append_grow (P := P) w t ty e i z ht hi hz b sn sc css.flatten (by rw [k1.flen, hsl]) (k2 b rfl) yb yn yc dss.flatten (by rw [m3.flen, hyl]) m4 hroom (by omega) (growslice_fits hroom (by rw [hsl, hyl]; exact hm))
    obtain ⟨g1, g2⟩ := key (sn + yn) sc rfl _ rfl
    exact ⟨⟨some ⟨w.heap.size, 0, none⟩, sn + yn, grownCap w (sn + yn) sc e⟩, _, hrun, g1, g2, rfl⟩
/-- append where there is room, in a block of one's own -/
theorem app_room (ht : P.underlying t = some (.slice e)) (hi : P.info? e = some i) (hsize : i.size = size)
    (hr : r.Ok) {g : Nat} {css : List (List Value)} {tail : List Value} (ha : s.a = some ⟨g, 0, none⟩) (hB : B ≤ g) (hb : Blk w g e (css.flatten ++ tail)) (htl : tail.length = (s.c - s.n) * size) (hn : s.n = xs.length) (hc : s.n ≤ s.c) (h63 : s.c ≤ 9223372036854775807)
    (hE : Els r size w (fun k => F k ∧ k ≠ g) xs css) (hy : SliceF r size w (fun k => F k ∧ k ≠ g) y ys) (hroom : s.n + y.n ≤ s.c) :
    ∃ w', (Builtin.append_ #[t, t] ty #[s.v, y.v]).run P w = .ok (Sl.v ⟨s.a, s.n + y.n, s.c⟩) w' ∧ Own r size e B w' F ⟨s.a, s.n + y.n, s.c⟩ (xs ++ ys) ∧ Only [g] w w' := by
  subst hsize
  have hyl := hy.len
  obtain ⟨sa, sn, sc⟩ := s
  obtain ⟨ya, yn, yc⟩ := y
  dsimp only at ha hn hc htl hroom hyl
  subst ha
  obtain ⟨dss, m3, m4⟩ := hy.flat'
  dsimp only at m4
  have hcl : css.flatten.length = sn * i.size := by rw [hE.flen, hn]
  have hdl : dss.flatten.length = yn * i.size := by rw [m3.flen, hyl]
  have hle : sn * i.size + yn * i.size ≤ sn * i.size + tail.length := by
    rw [htl, ← Nat.add_mul, ← Nat.add_mul]; exact Nat.mul_le_mul_right _ (by omega)
  have hrun : (Builtin.append_ #[t, t] ty #[.slice (some ⟨g, 0, none⟩) sn sc, .slice ya yn yc]).run P w =
      .ok (.slice (some ⟨g, 0, none⟩) (sn + yn) sc) (w.setRow g ((css.flatten ++ dss.flatten) ++ tail.drop (yn * i.size)).toArray) := by
    have hset : ((css.flatten ++ tail).toArray.toList.take (sn * i.size) ++ dss.flatten ++ (css.flatten ++ tail).toArray.toList.drop (sn * i.size + dss.flatten.length)) = (css.flatten ++ dss.flatten) ++ tail.drop (yn * i.size) := by
      rw [List.toList_toArray, ← hcl, List.take_left, hdl, List.drop_append]
      rw [List.drop_eq_nil_of_le (by omega), List.nil_append, Nat.add_sub_cancel_left]
    cases ya with
    | some ya =>
      have := run_append_room (P := P) w t ty e i ht hi g sn sc (css.flatten ++ tail).toArray hb ya yn yc dss.flatten hdl (m4 ya rfl) (m3.one hr) hroom (by
        rw [List.size_toArray, List.length_append, hdl, hcl]; exact hle)
      rw [this, hset]
    | none =>
      have hyx : ys = [] := by
        cases ys with
        | nil => rfl
        | cons x xs => obtain ⟨_, _, h, _⟩ := hy.at_ 0 x rfl; cases h
      subst hyx
      have hyn : yn = 0 := by simpa using hyl
      subst hyn
      cases dss with
      | cons c cs => exact m3.elim
      | nil =>
        have hself : w.setRow g ((css.flatten ++ ([] : List (List Value)).flatten) ++ tail.drop (0 * i.size)).toArray = w := by
          have := setRow_self w g (css.flatten ++ tail).toArray e (0, 0) hb
          simpa using this
        rw [hself]
        have hroom' : sn ≤ sc := hc
        simp [Builtin.append_, run_underlying ht, sizeOf, typeInfo, hi, Builtin.lenOf, Builtin.firstCells, hroom', storeCells]
  have hO : Only [g] w (w.setRow g ((css.flatten ++ dss.flatten) ++ tail.drop (yn * i.size)).toArray) := Only.setRow _ _ _
  refine ⟨_, hrun, .inr ⟨g, css ++ dss, tail.drop (yn * i.size), rfl, hB, ?_, ?_, ?_, hroom, h63, ?_⟩, hO⟩
  · rw [List.flatten_append]
    exact hb.setRow _
  · rw [List.length_drop, htl, ← Nat.sub_mul]; congr 1; dsimp only; omega
  · dsimp only; rw [List.length_append]; omega
  · exact Els.keep hr (All2.app hE m3) fun k hk hlt => hO.block k hlt (by simpa using hk.2)

/-- append to a row of one's own -/
theorem app_own (ht : P.underlying t = some (.slice e)) (hi : P.info? e = some i) (hz : i.zero = some z) (hsize : i.size = size) (hby : i.bytes = bytes) (hzs : z.cells.size = size)
    (hr : r.Ok) (hs : Own r size e B w F s xs) (hy : SliceF r size w (fun k => F k ∧ s.a ≠ some ⟨k, 0, none⟩) y ys) (hB : B ≤ w.heap.size) (hm : (xs.length + ys.length) * bytes ≤ 140737488355328) (hb0 : 0 < bytes) :
    ∃ s' w', (Builtin.append_ #[t, t] ty #[s.v, y.v]).run P w = .ok s'.v w' ∧ Own r size e B w' F s' (xs ++ ys) ∧ ∃ gs, Only gs w w' ∧ (∀ g, g ∈ gs → s.a = some ⟨g, 0, none⟩ ∧ B ≤ g ∧ g < w.heap.size) ∧ (s'.a = s.a ∨ s'.a = some ⟨w.heap.size, 0, none⟩) := by
  by_cases hroom : s.n + y.n ≤ s.c
  · rcases hs with ⟨rfl, rfl⟩ | ⟨g, css, tail, h1, h2, h4, h5, h6, h7, h9, h8⟩
    · have hyn : y.n = 0 := by simpa using hroom
      have hyx : ys = [] := by have := hy.len; rw [hyn] at this; exact List.eq_nil_of_length_eq_zero this.symm
      subst hyx
      refine ⟨Sl.nil, w, ?_, .inl ⟨rfl, rfl⟩, [], Only.refl _ _, by simp, .inl rfl⟩
      obtain ⟨ya, yn, yc⟩ := y
      dsimp only at hyn
      subst hyn
      cases ya <;> simp [Builtin.append_, run_underlying ht, sizeOf, typeInfo, hi, Builtin.lenOf, Builtin.firstCells, loadCells, loadCellsFrom]
    · obtain ⟨w', k1, k2, k3⟩ := app_room (ty := ty) ht hi hsize hr h1 h2 h4 h5 h6 h7 h9 h8 (hy.mono hr fun k hk => ⟨hk.1, fun h => hk.2 (by rw [h, h1])⟩) hroom
      exact ⟨_, w', k1, k2, [g], k3, fun g' hg' => by simp only [List.mem_singleton] at hg'; subst hg'; exact ⟨h1, h2, h4.lt⟩, .inl rfl⟩
  · have hsl := hs.len
    have hsc := hs.cap
    have hy' : SliceF r size w F y ys := hy.mono hr fun k hk => hk.1
    have go : ∀ css, Els r size w F xs css → (∀ base, s.a = some base → Cells w base css.flatten) → (s.a = none → s.c = 0) →
        ∃ s' w', (Builtin.append_ #[t, t] ty #[s.v, y.v]).run P w = .ok s'.v w' ∧ Own r size e B w' F s' (xs ++ ys) ∧ ∃ gs, Only gs w w' ∧ (∀ g, g ∈ gs → s.a = some ⟨g, 0, none⟩ ∧ B ≤ g ∧ g < w.heap.size) ∧ (s'.a = s.a ∨ s'.a = some ⟨w.heap.size, 0, none⟩) := by
      intro css k1 k2 k3
      obtain ⟨s', w', g1, g2, g3, g4⟩ := app_growE (ty := ty) ht hi hz hsize hby hzs hr k1 k2 k3 hsl hsc hy' (by omega) hm hb0
      exact ⟨s', w', g1, g2.low hB, [], g3, by simp, .inr g4⟩
    rcases hs with ⟨rfl, rfl⟩ | ⟨g, css, tail, h1, h2, h4, h5, h6, h7, h9, h8⟩
    · exact go [] trivial (fun _ h => by cases h) (fun _ => rfl)
    · refine go css (h8.mono hr fun k hk => hk.1) (fun base hb => ?_) (fun h => by rw [h1] at h; cases h)
      rw [h1] at hb
      injection hb with hb
      subst hb
      exact h4.cells 0 _ fun j v hj => by
        rw [Nat.zero_add, List.getElem?_append_left (List.getElem?_eq_some_iff.1 hj).1]; exact hj
/-- a literal -/
theorem build_own (ht : P.underlying t = some (.slice e)) (hi : P.info? e = some i) (hz : i.zero = some z) (hsize : i.size = size) (h0 : 0 < size) {vs : List Value} {len : Nat} {parts : Array (Nat × Value)}
    (hp : parts = ((vs.zipIdx 0).map fun x => (x.2, x.1)).toArray) (hl : vs.length = len) (hl0 : 0 < len) (hsm : len * size ≤ 16777216)
    (hr : r.Ok) (hE : Els r size w F xs (vs.map fun v => v.cells.toList)) :
    ∃ s w', (Instr.buildSlice t len parts).run P w = .ok (Sl.v s) w' ∧ Own r size e w.heap.size w' F s xs ∧ Only [] w w' ∧ s.a = some ⟨w.heap.size, 0, none⟩ ∧ s.n = xs.length ∧ s.c = xs.length := by
  subst hsize
  subst hp
  subst hl
  have hxl : xs.length = vs.length := by have := hE.len; rwa [List.length_map] at this
  have hsz : ∀ v, v ∈ vs → v.cells.size = i.size := fun v hv => by
    have := hE.sz _ (List.mem_map.2 ⟨v, hv, rfl⟩)
    simpa using this
  have hrun := run_buildSlice (P := P) w t e vs.length ((vs.zipIdx 0).map fun x => (x.2, x.1)).toArray (vs.flatMap fun v => v.cells.toList).toArray i z ht hi hz (by omega)
    (by have := Nat.mul_lt_mul_of_pos_left h0 hl0; omega)
    (by rw [List.toList_toArray]; exact Go.Great.fill_whole h0 vs _ hsz (by simp))
  have hO : Only [] w (w.alloc (.cells (vs.flatMap fun v => v.cells.toList).toArray e)) := Only.alloc _ _
  refine ⟨⟨some ⟨w.heap.size, 0, none⟩, vs.length, vs.length⟩, _, hrun, .inr ⟨w.heap.size, vs.map (fun v => v.cells.toList), [], rfl, Nat.le_refl _, ?_, by simp, hxl.symm, Nat.le_refl _, ?_, ?_⟩, hO, rfl, hxl.symm, hxl.symm⟩
  · rw [List.append_nil, List.flatMap_def.symm.trans rfl]
    exact Blk.alloc w e _
  · have : vs.length ≤ vs.length * i.size := Nat.le_mul_of_pos_right _ h0
    dsimp only; omega
  · exact ((Els.mono hr (Els.inHeap hr hE) (G := fun k => F k ∧ k ≠ w.heap.size) fun k h => ⟨h.1, by have := h.2; omega⟩)).keep hr fun k hk hlt => hO.block k hlt (by simp)
end
end
end Go.Kt
