
/-
  Own work: how data lie in memory: representations ('Rp'), slices of them, bytes; what keeps them. No program in sight.
-/
import Derived.Test.YtmanockofcopjaaGreatDoorBase
namespace Go.Kt
open Go Go.RowKit
set_option linter.unusedSimpArgs false
set_option linter.unusedVariables false

def InI (x : Int) : Prop := -9223372036854775808 ≤ x ∧ x ≤ 9223372036854775807
theorem wr {x : Int} (h : InI x) : IntKind.i64.wrap x = x := IntWalk.i64_in _ ⟨h.1, h.2⟩
theorem wr' {x : Int} (h1 : -9223372036854775808 ≤ x) (h2 : x ≤ 9223372036854775807) : IntKind.i64.wrap x = x := IntWalk.i64_in _ ⟨h1, h2⟩

theorem wrapIn (x : Int) : InI (IntKind.i64.wrap x) := by
  rw [IntKind.wrap_i64]
  constructor <;> omega

/-- how a value lies in cells: in world w, within the blocks F -/
abbrev Rp (α : Type) := World → (Nat → Prop) → α → List Value → Prop
/-- a representation that hangs on the blocks F alone -/
structure Rp.Ok {α : Type} (r : Rp α) : Prop where
  keep : ∀ {w w' : World} {F : Nat → Prop} {x : α} {cs : List Value}, r w F x cs → (∀ k, F k → k < w.heap.size → w'.heap[k]? = w.heap[k]?) → r w' F x cs
  inHeap : ∀ {w : World} {F : Nat → Prop} {x : α} {cs : List Value}, r w F x cs → r w (fun k => F k ∧ k < w.heap.size) x cs
  mono : ∀ {w : World} {F G : Nat → Prop} {x : α} {cs : List Value}, r w F x cs → (∀ k, F k → G k) → r w G x cs
  one : ∀ {w : World} {F : Nat → Prop} {x : α} {cs : List Value}, r w F x cs → ∀ v, v ∈ cs → v.oneCell' = true

section
variable {α : Type} {r : Rp α} {size : Nat} {w w' : World} {F G : Nat → Prop} {s : Sl} {xs : List α}

/-- slice s reads as xs -/
structure SliceF (r : Rp α) (size : Nat) (w : World) (F : Nat → Prop) (s : Sl) (xs : List α) : Prop where
  len : s.n = xs.length
  cap : s.n ≤ s.c
  nil0 : s.a = none → s.c = 0
  big : s.c ≤ 9223372036854775807
  at_ : ∀ j x, xs[j]? = some x → ∃ base cs, s.a = some base ∧ F base.block ∧ cs.length = size ∧ Cells w (base.add (j * size)) cs ∧ r w F x cs

theorem addr_block (a : Addr) (n : Nat) : (a.add n).block = a.block := by unfold Addr.add; split <;> rfl
theorem addr_add (a : Addr) (i j : Nat) : (a.add i).add j = a.add (i + j) := by
  unfold Addr.add
  by_cases hi : i = 0 <;> by_cases hj : j = 0 <;> simp [hi, hj, Nat.add_assoc]
theorem addr_zero (a : Addr) : a.add 0 = a := rfl
theorem addr_lit (b o n : Nat) : (⟨b, o, none⟩ : Addr).add n = ⟨b, o + n, none⟩ := by unfold Addr.add; split <;> simp_all
/-- some of the cells in a row -/
theorem Cells.sub {a : Addr} {cs vs : List Value} (h : Cells w a cs) (k : Nat) (hv : ∀ j v, vs[j]? = some v → cs[k + j]? = some v) : Cells w (a.add k) vs := fun j v hj => by
  rw [addr_add]; exact h _ v (hv j v hj)
theorem Cells.at1 {a : Addr} {cs : List Value} (h : Cells w a cs) (k : Nat) (v : Value) (hv : cs[k]? = some v) : Cells w (a.add k) [v] := h.sub k fun j u hj => by
  cases j with
  | zero => simpa [hv] using hj
  | succ j => simp at hj

theorem SliceF.nil (r : Rp α) (size : Nat) (w : World) (F : Nat → Prop) : SliceF r size w F Sl.nil [] := ⟨rfl, Nat.le_refl _, fun _ => rfl, by decide, fun j x h => by simp at h⟩
theorem SliceF.keep (hr : r.Ok) (h : SliceF r size w F s xs) (hs : 0 < size) (hk : ∀ k, F k → k < w.heap.size → w'.heap[k]? = w.heap[k]?) : SliceF r size w' F s xs :=
  ⟨h.len, h.cap, h.nil0, h.big, fun j x hx => by
    obtain ⟨base, cs, h1, h2, h3, h4, h5⟩ := h.at_ j x hx
    refine ⟨base, cs, h1, h2, h3, h4.keep ?_, hr.keep h5 hk⟩
    have hlt : (base.add (j * size)).block < w.heap.size := by
      cases cs with
      | nil => simp at h3; omega
      | cons c cs => exact h4.lt
    rw [addr_block] at hlt ⊢
    exact hk _ h2 hlt⟩
theorem SliceF.mono (hr : r.Ok) (h : SliceF r size w F s xs) (hk : ∀ k, F k → G k) : SliceF r size w G s xs :=
  ⟨h.len, h.cap, h.nil0, h.big, fun j x hx => by
    obtain ⟨base, cs, h1, h2, h3, h4, h5⟩ := h.at_ j x hx
    exact ⟨base, cs, h1, hk _ h2, h3, h4, hr.mono h5 hk⟩⟩
theorem SliceF.inHeap (hr : r.Ok) (h : SliceF r size w F s xs) (hs : 0 < size) : SliceF r size w (fun k => F k ∧ k < w.heap.size) s xs :=
  ⟨h.len, h.cap, h.nil0, h.big, fun j x hx => by
    obtain ⟨base, cs, h1, h2, h3, h4, h5⟩ := h.at_ j x hx
    refine ⟨base, cs, h1, ⟨h2, ?_⟩, h3, h4, hr.inHeap h5⟩
    have hlt : (base.add (j * size)).block < w.heap.size := by
      cases cs with
      | nil => simp at h3; omega
      | cons c cs => exact h4.lt
    rwa [addr_block] at hlt⟩
/-- the element at a place -/
theorem SliceF.get (h : SliceF r size w F s xs) {i : Int} (h0 : 0 ≤ i) (h1 : i < s.n) :
    ∃ ad x cs, SlAt s i size ad ∧ xs[i.toNat]? = some x ∧ F ad.block ∧ cs.length = size ∧ Cells w ad cs ∧ r w F x cs := by
  have hl := h.len
  have hlt : i.toNat < xs.length := by omega
  obtain ⟨base, cs, g1, g2, g3, g4, g5⟩ := h.at_ i.toNat _ (List.getElem?_eq_getElem hlt)
  exact ⟨_, _, cs, ⟨base, g1, h0, h1, rfl⟩, List.getElem?_eq_getElem hlt, by rw [addr_block]; exact g2, g3, g4, g5⟩
theorem SliceF.mem (h : SliceF r size w F s xs) {x : α} (hx : x ∈ xs) : ∃ cs, r w F x cs := by
  obtain ⟨j, hj⟩ := List.getElem?_of_mem hx
  obtain ⟨_, cs, _, _, _, _, h5⟩ := h.at_ j x hj
  exact ⟨cs, h5⟩
theorem SlAt.uniq {i : Int} {a b : Addr} (h : SlAt s i size a) (k : SlAt s i size b) : a = b := by
  obtain ⟨x, h1, _, _, h2⟩ := h
  obtain ⟨y, k1, _, _, k2⟩ := k
  rw [h1] at k1
  injection k1 with k1
  rw [h2, k2, k1]
theorem SliceF.cut (h : SliceF r size w F s xs) {lo hi m : Nat} (h1 : lo ≤ hi) (h2 : hi ≤ m) (h3 : hi ≤ s.n) (h4 : m ≤ s.c) : SliceF r size w F (s.cut lo hi m size) ((xs.drop lo).take (hi - lo)) := by
  have hl := h.len
  refine ⟨?_, ?_, fun ha => ?_, by have := h.big; simp only [Sl.cut]; omega, fun j x hx => ?_⟩
  · simp only [Sl.cut, List.length_take, List.length_drop]; omega
  · simp only [Sl.cut]; omega
  · simp only [Sl.cut] at ha ⊢
    split at ha
    · omega
    · have := h.nil0 (by simpa using ha); omega
  · rw [List.getElem?_take] at hx
    split at hx
    · rename_i hj
      rw [List.getElem?_drop] at hx
      obtain ⟨base, cs, g1, g2, g3, g4, g5⟩ := h.at_ _ _ hx
      refine ⟨base.add (lo * size), cs, ?_, by rw [addr_block]; exact g2, g3, ?_, g5⟩
      · simp only [Sl.cut]
        rw [if_neg (by omega), g1]
        rfl
      · rw [addr_add, ← Nat.add_mul]; exact g4
    · cases hx
end

/-! ### bytes -/
structure BytesF (w : World) (F : Nat → Prop) (s : Sl) (l : List UInt8) : Prop where
  rd : Bytes w s l
  cap : s.n ≤ s.c
  blk : ∀ ad, s.a = some ad → l ≠ [] → F ad.block
section
variable {w w' : World} {F G : Nat → Prop} {s : Sl} {l : List UInt8}
theorem Bytes.lt (h : Bytes w s l) {ad : Addr} (ha : s.a = some ad) (hl : l ≠ []) : ad.block < w.heap.size := by
  obtain ⟨ad', h1, h2⟩ := h.2 hl
  rw [ha] at h1
  injection h1 with h1
  subst h1
  cases l with
  | nil => exact absurd rfl hl
  | cons c l => exact h2.lt
theorem BytesF.nil (w : World) (F : Nat → Prop) : BytesF w F Sl.nil [] := ⟨⟨rfl, fun h => absurd rfl h⟩, Nat.le_refl _, fun _ _ h => absurd rfl h⟩
theorem BytesF.keep (h : BytesF w F s l) (hk : ∀ k, F k → k < w.heap.size → w'.heap[k]? = w.heap[k]?) : BytesF w' F s l :=
  ⟨⟨h.rd.1, fun hl => by
    obtain ⟨ad, h1, h2⟩ := h.rd.2 hl
    exact ⟨ad, h1, h2.keep (hk _ (h.blk ad h1 hl) (h.rd.lt h1 hl))⟩⟩, h.cap, h.blk⟩
theorem BytesF.mono (h : BytesF w F s l) (hk : ∀ k, F k → G k) : BytesF w G s l := ⟨h.rd, h.cap, fun ad ha hl => hk _ (h.blk ad ha hl)⟩
theorem BytesF.inHeap (h : BytesF w F s l) : BytesF w (fun k => F k ∧ k < w.heap.size) s l := ⟨h.rd, h.cap, fun ad ha hl => ⟨h.blk ad ha hl, h.rd.lt ha hl⟩⟩
end

/-! ### what keeps the blocks that were there -/
/-- the blocks ahead of B are as they were -/
theorem Only.old {bs : List Nat} {w w' : World} (h : Only bs w w') {B : Nat} (hb : ∀ b ∈ bs, B ≤ b) : ∀ k, k < B → k < w.heap.size → w'.heap[k]? = w.heap[k]? :=
  fun k hk hlt => h.block k hlt fun hm => by have := hb k hm; omega
end Go.Kt
