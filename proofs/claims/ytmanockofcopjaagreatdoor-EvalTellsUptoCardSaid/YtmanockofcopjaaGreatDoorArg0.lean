/-
  Own work: trees handed in as arguments.
-/
import Derived.Test.YtmanockofcopjaaGreatDoorSize
import Derived.Test.YtmanockofcopjaaGreatDoorBulk
namespace Go.Proofs.YtmanockofcopjaaGreatDoor.Con
open Go Go.RowKit Go.Kt Go.Kt.V Go.Proofs.YtmanockofcopjaaGreatDoor.Vc Go.ChangeShapes Go.WideShapes
set_option linter.unusedSimpArgs false
set_option linter.unusedVariables false
set_option maxHeartbeats 4000000
set_option maxRecDepth 100000

/-- a tree of any depth, and how much of it there is at most -/
def rExU : Rp (Ex × Nat) := fun w F x cs => ∃ d, rEx d w F x.1 cs ∧ ∀ e, lenOk e x.1 ∧ numOk e x.1 ∧ cntM e x.1 ≤ x.2
theorem lift_l {D : Type} {B : D → Nat} {Q : Nat → Ex → Nat → Prop} : ∀ (xs : List D) (o : Nat), (∀ j y, xs[j]? = some y → ∃ e dj, Q (o + j) e dj ∧ ∀ d, cntM d e ≤ B y) →
    ∃ l : List (Ex × Nat), l.length = xs.length ∧ (∀ j p, l[j]? = some p → Q (o + j) p.1 p.2) ∧ ∀ d, cntL (cntM d) (l.map (·.1)) ≤ (xs.map B).sum
  | [], o, _ => ⟨[], rfl, fun j p h => by simp at h, fun d => Nat.le_refl _⟩
  | x :: xs, o, h => by
    obtain ⟨e, dj, h1, h2⟩ := h 0 x rfl
    obtain ⟨l, h3, h4, h5⟩ := lift_l xs (o + 1) fun j y hj => by
      have := h (j + 1) y hj
      rwa [Nat.add_assoc, Nat.add_comm 1 j]
    refine ⟨(e, dj) :: l, by rw [List.length_cons, List.length_cons, h3], fun j p hj => ?_, fun d => ?_⟩
    · cases j with
      | zero =>
        simp only [List.getElem?_cons_zero, Option.some.injEq] at hj
        subst hj
        exact h1
      | succ j =>
        have := h4 j p hj
        rwa [Nat.add_assoc, Nat.add_comm 1 j] at this
    · rw [List.map_cons, cntL, List.map_cons, List.sum_cons]
      exact Nat.add_le_add (h2 d) (h5 d)
theorem mem_sum {n : Nat} : ∀ {l : List Nat}, n ∈ l → n ≤ l.sum
  | [], h => by simp at h
  | x :: l, h => by
    rw [List.sum_cons]
    rcases List.mem_cons.1 h with rfl | h
    · omega
    · have := mem_sum h; omega
theorem le_top : ∀ (l : List (Ex × Nat)), ∃ m, ∀ p, p ∈ l → p.2 ≤ m
  | [] => ⟨0, fun p h => by simp at h⟩
  | x :: l => by
    obtain ⟨m, h⟩ := le_top l
    refine ⟨max x.2 m, fun p hp => ?_⟩
    rcases List.mem_cons.1 hp with rfl | hp
    · exact Nat.le_max_left _ _
    · exact Nat.le_trans (h p hp) (Nat.le_max_right _ _)
section
variable {H : Type} {enc : TypeId × Value → H} {W : World} {base : Nat} {spare : Nat → Bool} {held : Bool} {B : DataW H → Nat}
/-- cells that read as a datum -/
def rTr (enc : TypeId × Value → H) (W : World) (base : Nat) (spare : Nat → Bool) (held : Bool) : Rp (DataW H) := fun _ _ x cs => ∃ fuel p, DataW.trod enc Tryz.prog W base spare held fuel 24 cs = some (x, p) ∧ ∀ n, n ∈ x.weights Tryz.prog 24 → n ≤ reachBytes
theorem opensB_tr (hB : IsBulk B) : OpensB B enc Tryz.prog W base spare held 24 (rTr enc W base spare held) B := fun fuel cs x h hw => ⟨x.1, ⟨fuel, x.2, h, hw⟩, Nat.le_refl _⟩
theorem opensB_one (hB : IsBulk B) : OpensB B enc Tryz.prog W base spare held 24 (rPair rInt (rPair rInt (rPair rStr (rPair rInt (rPair (rSl (rTr enc W base spare held) 6 72) (rPair rInt rUnit))))))
    fun x => (1 + (1 + ((x.2.2.1.size + 1) + (1 + (((x.2.2.2.2.1.map B).sum + 1) + (1 + 0)))))) + 1 := by
  have h := opensB_struct (enc := enc) (P := Tryz.prog) (W := W) (base := base) (spare := spare) (held := held) (T := 6) hB Tryz.underlying24 (by kernel_rfl)
      (foB_cons (s := 1) rfl (by kernel_rfl) (opensB_of hB (opens_int Tryz.underlying3)) (foB_cons (s := 1) rfl (by kernel_rfl) (opensB_of hB (opens_int Tryz.underlying3)) (foB_cons (s := 1) rfl (by kernel_rfl) (opensB_str hB Tryz.underlying9) (foB_cons (s := 1) rfl (by kernel_rfl) (opensB_of hB (opens_int Tryz.underlying3)) (foB_cons (s := 1) rfl (by kernel_rfl) (opensB_slice (size := 6) (bytes := 72) hB Tryz.underlying22 (by kernel_rfl) (by kernel_rfl) (opensB_tr hB)) (foB_cons (s := 1) rfl (by kernel_rfl) (opensB_of hB (opens_int Tryz.underlying3)) (foB_nil rfl)))))))
  exact h
theorem tree_of (hB : IsBulk B) : ∀ (N : Nat) {x : DataW H} {cs : List Value} {F : Nat → Prop}, B x ≤ N → rTr enc W base spare held W F x cs → ∃ e d, rEx d W (fun _ => True) e cs ∧ ∀ d, lenOk d e ∧ numOk d e ∧ cntM d e ≤ B x
  | 0, x, cs, F, h, _ => by have := hB.one x; omega
  | N + 1, x, cs, F, h, ⟨fuel, p, ht, hw⟩ => by
    obtain ⟨⟨k, n, s, op, xs, a, u⟩, hr, hm⟩ := opensB_one (enc := enc) (W := W) (base := base) (spare := spare) (held := held) hB fuel cs (x, p) ht hw
    obtain ⟨c1, r1, rfl, ⟨rfl, i1⟩, c2, r2, rfl, ⟨rfl, i2⟩, c3, r3, rfl, ⟨rfl, i3⟩, c4, r4, rfl, ⟨rfl, i4⟩, c5, r5, rfl, ⟨sl, rfl, hsl, _⟩, c6, r6, rfl, ⟨rfl, i6⟩, hu⟩ := hr
    have hu : r6 = [] := hu
    subst hu
    dsimp only at hm hsl i1 i2 i3
    have hsum : ∀ y, y ∈ xs → B y ≤ (xs.map B).sum := fun y hy => mem_sum (List.mem_map_of_mem hy)
    obtain ⟨l, l1, l2, l3⟩ := lift_l (B := B) (Q := fun j e dj => ∃ base cs, sl.a = some base ∧ cs.length = 6 ∧ Cells W (base.add (j * 6)) cs ∧ rEx dj W (fun _ => True) e cs ∧ ∀ d, lenOk d e ∧ numOk d e) xs 0 fun j y hj => by
      rw [Nat.zero_add]
      obtain ⟨bs, ds, g1, g2, g3, g4, g5⟩ := hsl.at_ j y hj
      obtain ⟨e, d, t1, t2⟩ := tree_of hB N (x := y) (by have := hsum y (List.mem_of_getElem? hj); omega) g5
      exact ⟨e, d, ⟨bs, ds, g1, g3, g4, t1, fun d => ⟨(t2 d).1, (t2 d).2.1⟩⟩, fun d => (t2 d).2.2⟩
    obtain ⟨m, hmx⟩ := le_top l
    refine ⟨.mk k n s.data.toList op (l.map (·.1)) a, m + 1, ⟨sl, ?_, ?_⟩, fun d => ?_⟩
    · have e : exv k n s.data.toList op sl a = [.int .i64 k, .int .i64 n, .string s, .int .i64 op, sl.v, .int .i64 a] := by
        show [_, _, Value.string (T s.data.toList), _, _, _] = _
        rw [← T_of s]
      exact e.symm
    · refine ⟨by rw [Ex.subs, List.length_map, l1]; exact hsl.len, hsl.cap, hsl.nil0, hsl.big, fun j e hj => ?_⟩
      rw [Ex.subs, List.getElem?_map, Option.map_eq_some_iff] at hj
      obtain ⟨q, q1, rfl⟩ := hj
      obtain ⟨bs, ds, g1, g2, g3, g4, g5⟩ := l2 j q q1
      rw [Nat.zero_add] at g3
      exact ⟨bs, ds, g1, trivial, g2, g3, rEx_le (hmx q (List.mem_of_getElem? q1)) g4⟩
    · have hsz : s.data.toList.length = s.size := by rw [Array.length_toList]; rfl
      have all : ∀ e, e ∈ l.map (·.1) → ∀ d, lenOk d e ∧ numOk d e := fun e he => by
        obtain ⟨q, q1, rfl⟩ := List.mem_map.1 he
        obtain ⟨j, hj⟩ := List.getElem?_of_mem q1
        obtain ⟨bs, ds, g1, g2, g3, g4, g5⟩ := l2 j q hj
        exact g5
      cases d with
      | zero => exact ⟨trivial, trivial, Nat.zero_le _⟩
      | succ d =>
        refine ⟨⟨?_, fun y hy => (all y hy d).1⟩, ⟨i2, fun y hy => (all y hy d).2⟩, ?_⟩
        · show s.data.toList.length < _
          rw [hsz]
          omega
        · rw [cntM]
          have := l3 d
          show 1 + cntL (cntM d) (l.map (·.1)) ≤ _
          omega
theorem opensB_ex (hB : IsBulk B) : OpensB B enc Tryz.prog W base spare held 24 rExU fun x => x.2 := fun fuel cs x h hw => by
  obtain ⟨e, d, h1, h2⟩ := tree_of hB (B x.1) (x := x.1) (F := fun _ => True) (Nat.le_refl _) ⟨fuel, x.2, h, hw⟩
  exact ⟨(e, B x.1), ⟨d, h1, h2⟩, Nat.le_refl _⟩
end

end Go.Proofs.YtmanockofcopjaaGreatDoor.Con
