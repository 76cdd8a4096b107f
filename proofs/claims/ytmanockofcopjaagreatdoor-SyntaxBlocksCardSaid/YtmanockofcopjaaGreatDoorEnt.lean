
/-
  Own work: how an api.Entry lies in memory; bytes as a row. No program in sight.
-/
import Derived.Test.YtmanockofcopjaaGreatDoorApp
namespace Go.Kt
open Go Go.RowKit
set_option linter.unusedSimpArgs false
set_option linter.unusedVariables false

/-- bytes one by one -/
def rByte : Rp UInt8 := fun _ _ b cs => cs = [byteV b]
theorem rByte_ok : rByte.Ok where
  keep h _ := h
  inHeap h := h
  mono h _ := h
  one h v hv := by
    rw [show _ = [byteV _] from h] at hv
    simp only [List.mem_singleton] at hv
    subst hv
    rfl
theorem BytesF.slice {w : World} {F : Nat → Prop} {s : Sl} {l : List UInt8} (h : BytesF w F s l) (h0 : s.a = none → s.c = 0) (hb : s.c ≤ 9223372036854775807) : SliceF rByte 1 w F s l :=
  ⟨h.rd.1, h.cap, h0, hb, fun j x hx => by
    have hl : l ≠ [] := fun e => by rw [e] at hx; simp at hx
    obtain ⟨ad, h1, h2⟩ := h.rd.2 hl
    exact ⟨ad, [byteV x], h1, h.blk ad h1 hl, rfl, by rw [Nat.mul_one]; exact h2.at1 j _ (by rw [List.getElem?_map, hx]; rfl), rfl⟩⟩
theorem SliceF.bytes {w : World} {F : Nat → Prop} {s : Sl} {l : List UInt8} (h : SliceF rByte 1 w F s l) : BytesF w F s l :=
  ⟨⟨h.len, fun hl => by
    obtain ⟨base, css, h1, h2, h3, h4⟩ := h.flat hl
    refine ⟨base, h1, ?_⟩
    have : ∀ (l : List UInt8) (css : List (List Value)), Els rByte 1 w F l css → css.flatten = l.map byteV := by
      intro l
      induction l with
      | nil => intro css h; cases css with
        | nil => rfl
        | cons c cs => exact h.elim
      | cons b l ih => intro css h; cases css with
        | nil => exact h.elim
        | cons c cs =>
          obtain ⟨⟨_, h1⟩, h2⟩ := h
          rw [List.flatten_cons, ih cs h2, show c = [byteV b] from h1]
          rfl
    rw [← this l css h3]
    exact h4⟩, h.cap, fun ad ha hl => by
      obtain ⟨base, css, h1, h2, _⟩ := h.flat hl
      rw [ha] at h1
      injection h1 with h1
      rw [h1]
      exact h2⟩

theorem Els.bytes {w : World} {F G : Nat → Prop} {l : List UInt8} {css : List (List Value)} (h : Els rByte 1 w F l css) : Els rByte 1 w G l css := All2.imp (fun _ _ h => h) h
theorem Own.bytes {w : World} {F G : Nat → Prop} {e : TypeId} {B : Nat} {s : Sl} {l : List UInt8} (h : Own rByte 1 e B w F s l) : Own rByte 1 e B w G s l := by
  rcases h with h | ⟨g, css, tail, h1, h2, h4, h5, h6, h7, h9, h8⟩
  · exact .inl h
  · exact .inr ⟨g, css, tail, h1, h2, h4, h5, h6, h7, h9, Els.bytes h8⟩

/-- an entry -/
structure Ent where
  i : Int
  t : Int
  k : Int
  d : List UInt8
deriving DecidableEq
structure EntAt (w : World) (F : Nat → Prop) (e : Ent) (d : Sl) : Prop where
  i : InI e.i
  t : InI e.t
  k : InI e.k
  d : SliceF rByte 1 w F d e.d
  dl : e.d.length ≤ 140737488355328
end Go.Kt
