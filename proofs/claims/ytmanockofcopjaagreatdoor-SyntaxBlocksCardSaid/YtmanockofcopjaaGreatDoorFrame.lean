
/-
  Own work: what may turn, told by a predicate on blocks; more laws of rows. No program in sight.
-/
import Derived.Test.YtmanockofcopjaaGreatDoorEnt
import Derived.Laws.MakeOwn
namespace Go.Kt
open Go Go.RowKit
set_option linter.unusedSimpArgs false
set_option linter.unusedVariables false

/-- of w's blocks only those of F may have turned -/
structure OnlyP (F : Nat → Prop) (w w' : World) : Prop where
  os : w'.os = w.os
  tape : w'.tape = w.tape
  output : w'.output = w.output
  size : w.heap.size ≤ w'.heap.size
  block : ∀ k, k < w.heap.size → ¬ F k → w'.heap[k]? = w.heap[k]?
section
variable {w w' w'' : World} {F G : Nat → Prop} {bs : List Nat}
theorem Only.p (h : Only bs w w') (hb : ∀ b, b ∈ bs → F b ∨ w.heap.size ≤ b) : OnlyP F w w' :=
  ⟨h.os, h.tape, h.output, h.size, fun k hk hn => h.block k hk fun hm => (hb k hm).elim hn fun h => by omega⟩
theorem Only.p0 (h : Only [] w w') : OnlyP F w w' := h.p (by simp)
theorem OnlyP.refl (F : Nat → Prop) (w : World) : OnlyP F w w := (Only.refl [] w).p0
theorem OnlyP.mono (h : OnlyP F w w') (hb : ∀ k, k < w.heap.size → F k → G k) : OnlyP G w w' := ⟨h.os, h.tape, h.output, h.size, fun k hk hn => h.block k hk fun hf => hn (hb k hk hf)⟩
theorem OnlyP.trans (h : OnlyP F w w') (k : OnlyP G w' w'') (hb : ∀ k, G k → F k ∨ w.heap.size ≤ k) : OnlyP F w w'' :=
  ⟨k.os.trans h.os, k.tape.trans h.tape, k.output.trans h.output, Nat.le_trans h.size k.size, fun i hi hn =>
    (k.block i (Nat.lt_of_lt_of_le hi h.size) fun hg => (hb i hg).elim hn fun h => by omega).trans (h.block i hi hn)⟩
theorem OnlyP.tr0 (h : OnlyP F w w') (k : Only [] w' w'') : OnlyP F w w'' := h.trans (k.p0 (F := fun _ => False)) fun _ h => h.elim
theorem Only.trP (h : Only [] w w') (k : OnlyP F w' w'') : OnlyP F w w'' := (h.p0 (F := F)).trans k fun _ h => .inl h
theorem OnlyP.only (h : OnlyP F w w') (hb : ∀ k, F k → w.heap.size ≤ k) : Only [] w w' :=
  ⟨h.os, h.tape, h.output, h.size, fun k hk _ => h.block k hk fun hf => by have := hb k hf; omega⟩
theorem OnlyP.keeps (h : OnlyP F w w') (hd : ∀ k, G k → ¬ F k) : ∀ k, G k → k < w.heap.size → w'.heap[k]? = w.heap[k]? := fun k hk hlt => h.block k hlt (hd k hk)
theorem OnlyP.same (h : OnlyP F w w') (hl : ∀ x, x ∈ bs → x < w.heap.size ∧ ¬ F x) : Same bs w w' := fun x hx => h.block x (hl x hx).1 (hl x hx).2
theorem OnlyP.blk (h : OnlyP F w w') {b : Nat} {t : TypeId} {cs : List Value} (hb : Blk w b t cs) (hn : ¬ F b) : Blk w' b t cs := (h.block b hb.lt hn).trans hb
end

section
variable {α : Type} {r : Rp α} {size : Nat} {w w' : World} {F G : Nat → Prop} {s : Sl} {xs : List α} {e : TypeId} {B : Nat} {bs : List Nat}
theorem SliceF.only (hr : r.Ok) (h0 : 0 < size) (h : SliceF r size w F s xs) (hO : Only bs w w') (hb : ∀ k, F k → k < w.heap.size → k ∉ bs) : SliceF r size w' F s xs :=
  h.keep hr h0 fun k hF hlt => hO.block k hlt (hb k hF hlt)
theorem SliceF.onlyP (hr : r.Ok) (h0 : 0 < size) (h : SliceF r size w F s xs) (hO : OnlyP G w w') (hb : ∀ k, F k → k < w.heap.size → ¬ G k) : SliceF r size w' F s xs :=
  h.keep hr h0 fun k hF hlt => hO.block k hlt (hb k hF hlt)
theorem Rp.Ok.only (hr : r.Ok) {x : α} {cs : List Value} (h : r w F x cs) (hO : Only bs w w') (hb : ∀ k, F k → k < w.heap.size → k ∉ bs) : r w' F x cs := hr.keep h fun k hF hlt => hO.block k hlt (hb k hF hlt)

/-! ### one place of a row of one's own -/
theorem Els.at (h : ∃ css : List (List Value), Els r size w F xs css) : True := trivial
theorem Els.setAt {css : List (List Value)} (h : Els r size w F xs css) (j : Nat) {x : α} {c : List Value} (hc : c.length = size) (hx : r w F x c) : Els r size w F (xs.set j x) (css.set j c) := All2.set j h ⟨hc, hx⟩
/-- laying n cells over those of element j -/
theorem flat_splice {css : List (List Value)} {tail : List Value} : ∀ {n : Nat} {cs vs : List Value}, (∀ c, c ∈ css → c.length = size) → css[n]? = some cs → vs.length = size →
    splice (css.flatten ++ tail) (n * size) vs = (css.set n vs).flatten ++ tail := by
  induction css with
  | nil => intro n cs vs _ h; simp at h
  | cons c css ih =>
    intro n cs vs hs hn hv
    have hc := hs c (by simp)
    cases n with
    | zero =>
      simp only [splice, Nat.zero_mul, List.take_zero, List.nil_append, Nat.zero_add, List.set_cons_zero, List.flatten_cons, List.append_assoc, hv]
      rw [← hc, List.drop_left]
    | succ n =>
      simp only [List.getElem?_cons_succ] at hn
      have := ih (fun d hd => hs d (by simp [hd])) hn hv
      have e : (n + 1) * size = c.length + n * size := by rw [Nat.add_mul, hc]; omega
      simp only [splice] at this ⊢
      simp only [List.flatten_cons, List.set_cons_succ, List.append_assoc]
      rw [e, List.take_length_add_append, Nat.add_assoc, List.drop_length_add_append, ← this]
      simp
end

section
variable {α : Type} {r : Rp α} {size : Nat} {w w' : World} {F G : Nat → Prop} {s : Sl} {xs : List α} {e : TypeId} {B : Nat} {P : Program} {t ty : TypeId} {i : TypeInfo} {z v : Value} {bytes : Nat} {x : α}
/-- append(s, v): the literal of one, and the append -/
theorem app_one (ht : P.underlying t = some (.slice e)) (hi : P.info? e = some i) (hz : i.zero = some z) (hsize : i.size = size) (hby : i.bytes = bytes) (hzs : z.cells.size = size) (h0 : 0 < size) (hb0 : 0 < bytes) (hsm : 1 * size ≤ 16777216)
    (hr : r.Ok) (hs : Own r size e B w F s xs) (hB : B ≤ w.heap.size) (hv : v.cells.toList.length = size) (hx : r w G x v.cells.toList) (hG : ∀ k, G k → k < w.heap.size → F k ∧ s.a ≠ some ⟨k, 0, none⟩) (hm : (xs.length + 1) * bytes ≤ 140737488355328) :
    ∃ y w1, (Instr.buildSlice t 1 #[(0, v)]).run P w = .ok (Sl.v y) w1 ∧ Only [] w w1 ∧ ∃ s' w2, (Builtin.append_ #[t, t] ty #[Sl.v s, Sl.v y]).run P w1 = .ok (Sl.v s') w2 ∧
      Own r size e B w2 (fun k => F k ∨ w.heap.size ≤ k) s' (xs ++ [x]) ∧ (∃ gs, Only gs w1 w2 ∧ ∀ g, g ∈ gs → s.a = some ⟨g, 0, none⟩ ∧ B ≤ g ∧ g < w.heap.size) ∧ (s'.a = s.a ∨ ∃ g, s'.a = some ⟨g, 0, none⟩ ∧ w.heap.size ≤ g) := by
  obtain ⟨y, w1, k1, k2, k3, k4, k5, k6⟩ := build_own (P := P) (t := t) (e := e) (i := i) (z := z) (w := w) (F := fun k => G k ∧ k < w.heap.size) (vs := [v]) (parts := #[(0, v)]) (len := 1) (xs := [x]) (r := r) (size := size) ht hi hz hsize h0 rfl rfl (by decide) hsm hr ⟨⟨hv, hr.inHeap hx⟩, trivial⟩
  have hs1 : Own r size e B w1 (fun k => F k ∨ w.heap.size ≤ k) s xs := ((hs.inHeap hr).keep hr fun k _ hlt => k3.block k hlt (by simp)).mono hr fun k hk => .inl hk.1
  have hy := (k2.slice hr).mono hr (G := fun k => (F k ∨ w.heap.size ≤ k) ∧ s.a ≠ some ⟨k, 0, none⟩) fun k hk => by
    rcases hk with ⟨hk, hlt⟩ | ⟨hk, _⟩
    · exact ⟨.inl (hG k hk hlt).1, (hG k hk hlt).2⟩
    · exact ⟨.inr hk, fun ha => by have := (hs.blk ha).2; dsimp only at this; omega⟩
  obtain ⟨s', w2, g1, g2, gs, g3, g4, g5⟩ := app_own (ty := ty) ht hi hz hsize hby hzs hr hs1 hy (Nat.le_trans hB k3.size) hm hb0
  refine ⟨y, w1, k1, k3, s', w2, g1, g2, ⟨gs, g3, fun g hg => ⟨(g4 g hg).1, (g4 g hg).2.1, (hs.blk (g4 g hg).1).2⟩⟩, ?_⟩
  rcases g5 with h | h
  · exact .inl h
  · exact .inr ⟨_, h, k3.size⟩
/-- one element of a row of one's own is laid over -/
theorem Own.store (hr : r.Ok) (hs : Own r size e B w F s xs) {n : Nat} (hn : n < xs.length) {x : α} {vs : List Value} (hv : vs.length = size) (hx : r w G x vs) (hG : ∀ k, G k → k < w.heap.size → F k ∧ s.a ≠ some ⟨k, 0, none⟩) (h0 : 0 < size) :
    ∃ g cells, s.a = some ⟨g, 0, none⟩ ∧ SlAt s n size ⟨g, n * size, none⟩ ∧ Blk w g e cells ∧ n * size + size ≤ cells.length ∧
      ∀ w', Only [g] w w' → Blk w' g e (splice cells (n * size) vs) → Own r size e B w' F s (xs.set n x) := by
  rcases hs with ⟨rfl, rfl⟩ | ⟨g, css, tail, h1, h2, h4, h5, h6, h7, h9, h8⟩
  · simp at hn
  have hcl := h8.len
  have hcn : n < css.length := by omega
  have hfl : css.flatten.length = css.length * size := flat_len h8.sz
  have hle : n * size + size ≤ css.length * size := by
    have := Nat.mul_le_mul_right size (show n + 1 ≤ css.length by omega)
    rw [Nat.add_mul] at this; omega
  refine ⟨g, _, h1, ⟨_, h1, by omega, by omega, by rw [addr_lit, Int.toNat_natCast, Nat.zero_add]⟩, h4, by rw [List.length_append]; omega, fun w' hO hb => .inr ⟨g, css.set n vs, tail, h1, h2, ?_, h5, by rw [List.length_set]; exact h6, h7, h9, ?_⟩⟩
  · rw [flat_splice h8.sz (List.getElem?_eq_getElem hcn) hv] at hb
    exact hb
  · refine Els.setAt (h8.keep hr fun k hk hlt => hO.block k hlt (by simpa using hk.2)) n hv (hr.keep (w := w) (F := fun k => F k ∧ k ≠ g) ?_ fun k hk hlt => hO.block k hlt (by simpa using hk.2))
    refine hr.mono (hr.inHeap hx) fun k hk => ?_
    obtain ⟨p1, p2⟩ := hG k hk.1 hk.2
    exact ⟨p1, fun e => p2 (by rw [h1, e])⟩
end

/-! ### one cell of one element; elements of which some are marked -/
theorem All2.mapL {α β : Type} {P : β → List Value → Prop} {f : α → β} : ∀ {xs : List α} {css : List (List Value)}, All2 P (xs.map f) css ↔ All2 (fun x cs => P (f x) cs) xs css
  | [], [] => Iff.rfl
  | x :: xs, c :: cs => by simp only [List.map_cons, All2, All2.mapL (xs := xs) (css := cs)]
  | [], _ :: _ => Iff.rfl
  | _ :: _, [] => Iff.rfl
theorem All2.impM {α : Type} {P Q : α → List Value → Prop} : ∀ {xs : List α} {css : List (List Value)}, (∀ x c, x ∈ xs → P x c → Q x c) → All2 P xs css → All2 Q xs css
  | [], [], _, _ => trivial
  | x :: xs, c :: cs, hi, h => ⟨hi _ _ (by simp) h.1, All2.impM (xs := xs) (css := cs) (fun y d hy => hi y d (by simp [hy])) h.2⟩
  | [], _ :: _, _, h => h.elim
  | _ :: _, [], _, h => h.elim
theorem Own.map {α β : Type} {r : Rp α} {q : Rp β} {size : Nat} {w : World} {F G : Nat → Prop} {s : Sl} {xs : List α} {e : TypeId} {B : Nat} (f : α → β) (h : Own r size e B w F s xs) (hf : ∀ g x cs, x ∈ xs → r w (fun k => F k ∧ k ≠ g) x cs → q w (fun k => G k ∧ k ≠ g) (f x) cs) : Own q size e B w G s (xs.map f) := by
  rcases h with ⟨rfl, rfl⟩ | ⟨g, css, tail, h1, h2, h4, h5, h6, h7, h9, h8⟩
  · exact .inl ⟨rfl, rfl⟩
  · exact .inr ⟨g, css, tail, h1, h2, h4, h5, by rw [List.length_map]; exact h6, h7, h9, All2.mapL.2 (All2.impM (fun x c hx hc => ⟨hc.1, hf g x c hx hc.2⟩) h8)⟩

/-! ### clear -/
section
variable {P : Program} {w : World}
theorem zeroCells_one {z : Array Value} (hz : ∀ v, v ∈ z → v.oneCell' = true) (h0 : 0 < z.size) (n : Nat) : ∀ v, v ∈ (Builtin.zeroCells z n).toList → v.oneCell' = true := fun v hv => by
  have hv' : v ∈ Builtin.zeroCells z n := by simpa using hv
  simp only [Builtin.zeroCells, Array.mem_map, Array.mem_range] at hv'
  obtain ⟨i, hi, rfl⟩ := hv'
  have hlt : i % z.size < z.size := Nat.mod_lt _ h0
  rw [getElem!_pos z (i % z.size) hlt]
  exact hz _ (Array.getElem_mem hlt)
theorem run_clear_row {t e ty : TypeId} {z : Value} (ht : P.underlying t = some (.slice e)) (hv : ∀ w, (zeroValue e).run P w = .ok z w) (h1 : ∀ v, v ∈ z.cells → v.oneCell' = true) (hz0 : 0 < z.cells.size) {g o n c : Nat} {bt : TypeId} {cs : List Value} (hn : 0 < n)
    (hb : Blk w g bt cs) (hfit : o + n * z.cells.size ≤ cs.length) :
    (Builtin.clear_ #[t] ty #[.slice (some ⟨g, o, none⟩) n c]).run P w = .ok (.tuple #[]) (w.setRow g (cs.take o ++ (Builtin.zeroCells z.cells n).toList ++ cs.drop (o + n * z.cells.size)).toArray) := by
  have hl : (Builtin.zeroCells z.cells n).toList.length = n * z.cells.size := by rw [Array.length_toList, size_zeroCells]
  have hst := run_storeCells_at P g o bt (Builtin.zeroCells z.cells n).toList 0 cs.toArray w hb (by rw [hl]; simpa using hfit) (zeroCells_one h1 hz0 n)
  simp only [Nat.add_zero, hl, List.toList_toArray] at hst
  obtain ⟨m, rfl⟩ : ∃ m, n = m + 1 := ⟨n - 1, by omega⟩
  simp [Builtin.clear_, run_underlying ht, hv, hst]
/-- clear(s[i:]), s a row of one's own; what is left is s[:i] -/
theorem Own.clear {α : Type} {r : Rp α} {size : Nat} {F : Nat → Prop} {s : Sl} {xs : List α} {e : TypeId} {B : Nat} {t ty : TypeId} {z : Value} (hr : r.Ok) (h0 : 0 < size) (ht : P.underlying t = some (.slice e)) (hv : ∀ w, (zeroValue e).run P w = .ok z w) (h1 : ∀ v, v ∈ z.cells → v.oneCell' = true) (hzs : z.cells.size = size)
    (hs : Own r size e B w F s xs) {i : Nat} (hi : i < xs.length) :
    ∃ w' g, (Builtin.clear_ #[t] ty #[Sl.v (Sl.cut s i s.n s.c size)]).run P w = .ok (.tuple #[]) w' ∧ s.a = some ⟨g, 0, none⟩ ∧ Only [g] w w' ∧ Own r size e B w' F (Sl.cut s 0 i s.c size) (xs.take i) := by
  rcases hs with ⟨rfl, rfl⟩ | ⟨g, css, tail, a1, a2, a4, a5, a6, a7, a9, a8⟩
  · simp at hi
  obtain ⟨sa, sn, sc⟩ := s
  dsimp only at a1 a5 a6 a7 a9
  subst a1
  have hfl := a8.flen
  have hcut : Sl.cut ⟨some ⟨g, 0, none⟩, sn, sc⟩ i sn sc size = ⟨some ⟨g, i * size, none⟩, sn - i, sc - i⟩ := by
    simp only [Sl.cut]
    rw [if_neg (by omega)]
    simp only [Option.map_some, addr_lit, Nat.zero_add]
  have e1 : i * size + (sn - i) * size = sn * size := by rw [← Nat.add_mul]; congr 1; omega
  have hrun := run_clear_row (P := P) (w := w) (t := t) (ty := ty) ht hv h1 (by omega) (g := g) (o := i * size) (n := sn - i) (c := sc - i) (by omega) a4 (by rw [hzs, e1, List.length_append, hfl, a6]; omega)
  have hO : Only [g] w _ := Only.setRow w g (((css.flatten ++ tail).take (i * size) ++ (Builtin.zeroCells z.cells (sn - i)).toList ++ (css.flatten ++ tail).drop (i * size + (sn - i) * z.cells.size)).toArray)
  refine ⟨_, g, by rw [hcut]; exact hrun, rfl, hO, ?_⟩
  have hcut0 : Sl.cut ⟨some ⟨g, 0, none⟩, sn, sc⟩ 0 i sc size = ⟨some ⟨g, 0, none⟩, i, sc⟩ := by
    simp only [Sl.cut]
    split <;> simp [Addr.add]
  rw [hcut0]
  have htk : (css.flatten ++ tail).take (i * size) = (css.take i).flatten := by
    rw [List.take_append_of_le_length (by rw [hfl, ← a6]; exact Nat.mul_le_mul_right _ (by omega)), flat_take a8.sz]
  refine .inr ⟨g, css.take i, (Builtin.zeroCells z.cells (sn - i)).toList ++ (css.flatten ++ tail).drop (i * size + (sn - i) * z.cells.size), rfl, a2, ?_, ?_, ?_, by dsimp only; omega, a9, ?_⟩
  · have := a4.setRow ((css.flatten ++ tail).take (i * size) ++ (Builtin.zeroCells z.cells (sn - i)).toList ++ (css.flatten ++ tail).drop (i * size + (sn - i) * z.cells.size))
    rw [List.append_assoc, htk] at this
    rw [htk]
    simpa only [List.append_assoc] using this
  · simp only [List.length_append, List.length_drop, hfl, ← a6, Array.length_toList, size_zeroCells, a5, hzs, e1]
    rw [Nat.add_sub_cancel_left, ← Nat.add_mul]
    congr 1
    omega
  · rw [List.length_take]; dsimp only; omega
  · refine Els.keep hr (All2.take i a8) fun k hk hlt => hO.block k hlt (by simpa using hk.2)
end

/-! ### ints: halves -/
theorem ba_eq (l m : List UInt8) : ((⟨List.toArray l⟩ : ByteArray).toList == (⟨List.toArray m⟩ : ByteArray).toList) = decide (l = m) := by
  have e : ∀ l : List UInt8, (⟨List.toArray l⟩ : ByteArray).toList = l := fun l => by simp [ByteArray.toList_eq]
  rw [e, e]
  by_cases h : l = m <;> simp [h]
end Go.Kt
