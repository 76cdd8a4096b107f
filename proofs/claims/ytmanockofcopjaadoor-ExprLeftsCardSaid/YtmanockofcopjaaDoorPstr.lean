/-
  Own work: the text of a page, asked for.
-/
import Derived.Test.YtmanockofcopjaaDoorBuf
namespace Go.Proofs.YtmanockofcopjaaDoor.Con
open Go Go.RowKit Go.Kt Go.Kt.V Go.Proofs.YtmanockofcopjaaDoor.Vc
set_option linter.unusedSimpArgs false
set_option linter.unusedVariables false
set_option maxHeartbeats 4000000

theorem freeze_shape (w : World) (p : Addr) (n : Nat) (a : Nat) : (w.freeze p n).shape? a = w.shape? a := by
  unfold World.freeze
  split
  · rfl
  · unfold World.shape?
    simp only [Array.getElem?_modify]
    by_cases hpa : p.block = a
    · rw [if_pos hpa]
      cases h : w.heap[a]? with
      | none => rfl
      | some o =>
        cases o with
        | cells c e f => obtain ⟨lo, hi⟩ := f; rfl
        | _ => rfl
    · rw [if_neg hpa]
section
variable {w : World} {b : Nat} {sl : Sl} {l : List UInt8}
theorem pstr_c (h : Pt w b sl l) : Calls Tryd.prog 12 #[.pointer (some ⟨b, 0, none⟩)] w fun e w' => e = .returned (.string (T l)) ∧ Pt w' b sl l ∧ OnlyP (fun k => b < k ∧ sl.a = some ⟨k, 0, none⟩) w w' := by
  refine ret (strings_Builder_String_wp ⟨b, 0, none⟩ (fun v w' => v = .string (T l) ∧ Pt w' b sl l ∧ OnlyP (fun k => b < k ∧ sl.a = some ⟨k, 0, none⟩) w w') w ?_)
  unfold strings_Builder_String_vc
  intro w0 hO0
  have h0 := h.only hO0
  obtain ⟨⟨q, sn, hB⟩, hlen, hsome, hcap, hbig⟩ := h0
  refine ⟨fun k => k = b, sl, Blk.at1 hB 1 rfl, rfl, sl, Blk.at1 hB 1 rfl, sl.a, w0, ?_, fun k _ _ => rfl, ?_⟩
  · obtain ⟨sa, sn', sc⟩ := sl
    cases sa with
    | none => exact Lib.run_unsafeSliceData_nil _ _ _ _ _
    | some a =>
      rcases hcap with e | e
      · cases e
      · exact Lib.run_unsafeSliceData_row _ _ _ _ _ _ e
  · by_cases hl : l = []
    · subst hl
      have hn : sl.n = 0 := hlen
      refine ⟨T [], w0, ?_, fun k _ _ => rfl, rfl, ⟨⟨q, sn, hB⟩, hlen, hsome, hcap, hbig⟩, hO0.p0⟩
      rw [hn]
      exact Lib.run_unsafeString_none _ _ _ _ _
    · obtain ⟨g, ha, hbg, hc, ⟨m, hsh, hm⟩, hcells⟩ := hsome hl
      have hF := freeze_only w0 ⟨g, 0, none⟩ l.length
      have hbl : b < w0.heap.size := hB.lt
      refine ⟨T l, w0.freeze ⟨g, 0, none⟩ l.length, ?_, fun k hk hlt => hF.block k hlt (by dsimp only; omega), rfl, ⟨⟨q, sn, hF.blk hB (by dsimp only; omega)⟩, hlen, fun _ => ⟨g, ha, hbg, hc, ⟨m, (freeze_shape _ _ _ _).trans hsh, hm⟩, fun j v hj => by rw [freeze_cell]; exact hcells j v hj⟩, hcap, hbig⟩, hO0.trP (hF.mono fun k _ hk => by dsimp only at hk; subst hk; exact ⟨hbg, ha⟩)⟩
      rw [ha, hlen]
      exact Lib.run_unsafeString_row _ _ _ _ 5 (by kernel_rfl) (by kernel_rfl) g m hsh l hl hm hbig fun j x hj => hcells j (byteV x) (by rw [List.getElem?_map, hj]; rfl)
end
end Go.Proofs.YtmanockofcopjaaDoor.Con
